/- A part of the proof that BinsPlays answers true: steps of the walk, or plain laws that it needs. No conditions of its own. -/
import Derived.Test.YtdaphmoojpbddaaGreatDoorSR1
set_option linter.all false
namespace Go.Sw
set_option autoImplicit false
set_option linter.all false
open Go.Proofs Go.RowKit
instance T75 : Ty Tryz.prog 75 (.int .u64) [.int .u64 0] 8 := Ty.mk' Tryz.underlying75 (by kernel_rfl)
noncomputable abbrev D116 : TypeDesc := (Tryz.prog.underlying 116).getD .bool
instance T116 : Ty Tryz.prog 116 D116 [.int .i64 0, .int .i64 0, .int .u64 0] 24 := Ty.mk' (by kernel_rfl) (by kernel_rfl)
theorem agg116 : TypeDesc.agg D116 = true := by kernel_rfl
theorem pl116 : placesOf Tryz.prog 116 = some [(0, 1), (1, 1), (2, 1)] := by kernel_rfl
instance F116_0 : Fld Tryz.prog 116 0 0 := Fld.mk' (sz := 0) (by kernel_rfl)
instance F116_1 : Fld Tryz.prog 116 1 1 := Fld.mk' (sz := 0) (by kernel_rfl)
instance F116_2 : Fld Tryz.prog 116 2 2 := Fld.mk' (sz := 0) (by kernel_rfl)
theorem r3_Form {w0 : World} (s : Bool) (a : Option Addr) (l : List Nat) (c : Nat) {n N : Nat} (hr : RowOk w0 [] ⟨a, ws .u32 l⟩) (hw : Wd l) (hN : val l = N) (hc : l.length ≤ c) (hn : n = l.length) (hb : l.length ≤ 1000000000) (e : Int) (hf : blen N ≤ 262144) (he : -700000 ≤ e ∧ e ≤ 700000) : Spec Tryz.prog 91 [.bool s, .slice a n c, .int .i64 e] w0 (fun v w' => FrX [] w0 w' ∧ DyOk w0 w' 62 (Dy.fm s N e) v) := by
  subst hn
  have hO : Own [] w0 [] [] [⟨a, ws .u32 l⟩] w0 := Own.start (by intro e he; cases he) (by
      simp only [List.mem_cons, List.not_mem_nil, or_false]
      rintro r rfl
      · exact hr)
  refine Spec.enter (n := 47) (rs := [.cell 6 46, .tmp 7]) Tryz.func91 rfl rfl rfl rfl ?_
  refine WP.rs ?_
  refine WPL.al hO rfl (fun b1 w hO => ?_)
  refine WPL.as (v := .bool false) rfl rfl ?_
  refine WPL.nil ?_
  refine WP.rs ?_
  refine WPL.mv (v := .slice _ _ _) rfl rfl ?_
  refine WPL.call rfl (r2_Norm _ l _ hO.rd hw hN hc rfl (by omega)) Tryz.func69 rfl rfl rfl ?_
  rintro _ w ⟨hf11, a11, c11, rfl, hc11, hr11⟩
  have hO := hO.res hf11 hr11
  refine WPL.as (v := .slice _ _ _) rfl rfl ?_
  refine WPL.nil ?_
  refine WP.seq ?_
  refine WP.rs ?_
  refine WPL.mv (v := .slice _ _ _) rfl rfl ?_
  refine WPL.len rfl rfl ?_
  refine WPL.eq rfl rfl rfl ?_
  refine WPL.nil ?_
  refine WP.condP rfl (fun h1 => ?_) (fun h1 => ?_)
  · refine WP.rs ?_
    refine WPL.bd (pv := []) (vs := [_, _, _]) rfl (bd_of pl46 rfl rfl) rfl ?_
    refine WPL.stLA (T := T46) rfl rfl hO inferInstance inferInstance (by simp [Value.oneCell']) rfl rfl (fun w hO => ?_)
    refine WPL.as (v := .bool true) rfl rfl ?_
    refine WPL.nil ?_
    refine WP.ret ?_
    refine ⟨rfl, ?_⟩
    refine RO.cell (T := T46) [.bool _, .slice _ _ _, .int .i64 _] rfl hO inferInstance rfl agg46 rfl ?_
    refine RO.tmp (v := .bool _) rfl ?_
    refine RO.nil ?_
    have e0 := dig_len_zero (by omega : (dig N).length = 0)
    rw [e0, Dy.fm_zero]
    exact ⟨hO.fr, none, 0, by simp only [dyV, dig_zero]; rfl, by simp [dig_zero], by simp only [dig_zero]; exact Res.nil rfl⟩
  · refine WP.skip ?_
    refine WP.rs ?_
    have hn0 : N ≠ 0 := fun e => h1 (by rw [e, dig_zero]; rfl)
    have htz := tz_le_blen hn0
    have hln := len_blen (k := 8192) (show blen N ≤ 32 * 8192 by omega)
    refine WPL.mv (v := .slice _ _ _) rfl rfl ?_
    refine WPL.call rfl (r2_Low a11 (dig N) _ hO.rd (dig_wd _) (val_dig _) hc11 rfl (by omega)) Tryz.func101 rfl rfl rfl ?_
    rintro _ _ ⟨rfl, rfl⟩
    refine WPL.as (v := .int .i64 _) rfl rfl ?_
    refine WPL.nil ?_
    refine WP.seq ?_
    refine WP.rs ?_
    refine WPL.mv (v := .int .i64 _) rfl rfl ?_
    refine WPL.gt rfl rfl rfl ?_
    refine WPL.mv (v := .bool _) rfl rfl ?_
    refine WPL.split (s := 20) rfl (fun h2 => ?_) (fun h2 => ?_)
    · have ph2 := of_decide_eq_true h2
      exact absurd (of_decide_eq_true h2) (by omega)
    · have ph2 := of_decide_eq_false h2
      refine WPL.guardT rfl rfl h2 ?_
      refine WPL.mv (v := .int .i64 _) rfl rfl ?_
      refine WPL.guardT rfl rfl h2 ?_
      refine WPL.mv (v := .int .i64 _) rfl rfl ?_
      refine WPL.guardT rfl rfl h2 ?_
      refine WPL.addI rfl rfl (by omega) rfl ?_
      refine WPL.guardT rfl rfl h2 ?_
      refine WPL.gt rfl rfl rfl ?_
      refine WPL.pkF (v := .bool _) rfl h2 rfl rfl ?_
      refine WPL.mv (v := .bool _) rfl rfl ?_
      refine WPL.split (s := 26) rfl (fun h3 => ?_) (fun h3 => ?_)
      · have ph3 := of_decide_eq_true h3
        exact absurd (of_decide_eq_true h3) (by omega)
      · have ph3 := of_decide_eq_false h3
        refine WPL.guardT rfl rfl h3 ?_
        refine WPL.mv (v := .int .i64 _) rfl rfl ?_
        refine WPL.guardT rfl rfl h3 ?_
        refine WPL.mv (v := .int .i64 _) rfl rfl ?_
        refine WPL.guardT rfl rfl h3 ?_
        refine WPL.addI rfl rfl (by omega) rfl ?_
        refine WPL.guardT rfl rfl h3 ?_
        refine WPL.lt rfl rfl rfl ?_
        refine WPL.pkF (v := .bool _) rfl h3 rfl rfl ?_
        refine WPL.nil ?_
        refine WP.condP rfl (fun h4 => ?_) (fun h4 => ?_)
        · exact absurd h4 (by omega)
        · refine WP.skip ?_
          refine WP.rs ?_
          refine WPL.mv (v := .slice _ _ _) rfl rfl ?_
          refine WPL.mv (v := .int .i64 _) rfl rfl ?_
          refine WPL.negI rfl (by omega) rfl ?_
          refine WPL.call rfl (r2_Moved a11 (dig N) _ hO.rd (dig_wd _) (val_dig _) hc11 rfl (by omega) (-(tz N : Int)) (by omega) (by omega)) Tryz.func68 rfl rfl rfl ?_
          rintro _ w ⟨hf36, a36, c36, rfl, hc36, hr36⟩
          rw [shiftN_tz] at hc36 hr36
          obtain ⟨G36, hG36, hO⟩ := hO.resL hf36 hr36
          simp only [shiftN_tz]
          refine WPL.as (v := .slice _ _ _) rfl rfl ?_
          refine WPL.nil ?_
          refine WP.seq ?_
          refine WP.rs ?_
          refine WPL.mv (v := .slice _ _ _) rfl rfl ?_
          refine WPL.len rfl rfl ?_
          refine WPL.gt rfl rfl rfl ?_
          refine WPL.nil ?_
          refine WP.condP rfl (fun h5 => ?_) (fun h5 => ?_)
          · exact absurd h5 (by have := len_blen (k := 8192) (show blen (N / 2 ^ tz N) ≤ 32 * 8192 by have := @blen_div N (tz N); omega); omega)
          · refine WP.skip ?_
            refine WP.rs ?_
            refine WPL.mv (v := .bool _) rfl rfl ?_
            refine WPL.mv (v := .slice _ _ _) rfl rfl ?_
            refine WPL.mv (v := .int .i64 _) rfl rfl ?_
            refine WPL.mv (v := .int .i64 _) rfl rfl ?_
            refine WPL.addI rfl rfl (by omega) rfl ?_
            refine WPL.bd (pv := [(0, .bool _), (1, .slice _ _ _), (2, .int .i64 _)]) (vs := [_, _, _]) rfl (bd_of pl46 rfl rfl) rfl ?_
            refine WPL.stLA (T := T46) rfl rfl hO inferInstance inferInstance (by simp [Value.oneCell']) rfl rfl (fun w hO => ?_)
            refine WPL.as (v := .bool true) rfl rfl ?_
            refine WPL.nil ?_
            refine WP.ret ?_
            refine ⟨rfl, ?_⟩
            refine RO.cell (T := T46) [.bool _, .slice _ _ _, .int .i64 _] rfl hO inferInstance rfl agg46 rfl ?_
            refine RO.tmp (v := .bool _) rfl ?_
            refine RO.nil ?_
            rw [Dy.fm_pos hn0]
            exact ⟨hO.fr, a36, c36, rfl, hc36, hO.giveG hG36⟩

theorem r3_Made {w0 : World} (d : Dy) (a : Option Addr) (c : Nat) {D : Dy} (hr : RowOk w0 [] ⟨a, ws .u32 (dig d.m)⟩) (hc : (dig d.m).length ≤ c) (hD : d.nf = D) (hb : d.B 262144) : Spec Tryz.prog 65 [dyV d a c] w0 (fun v w' => FrX [] w0 w' ∧ DyOk w0 w' 62 D v) := by
  have hO : Own [] w0 [] [] [⟨a, ws .u32 (dig d.m)⟩] w0 := Own.start (by intro e he; cases he) (by
      simp only [List.mem_cons, List.not_mem_nil, or_false]
      rintro r rfl
      · exact hr)
  subst hD
  have hl := len_blen (k := 8192) (show blen d.m ≤ 32 * 8192 by unfold Dy.B at *; omega)
  have hb' := hb
  unfold Dy.B at hb'
  unfold dyV
  refine Spec.enter (n := 13) (rs := [.cell 2 46, .tmp 3]) Tryz.func65 rfl rfl rfl rfl ?_
  refine WP.rs ?_
  refine WPL.bx (v := .agg #[.bool _, .slice _ _ _, .int .i64 _]) rfl rfl hO rfl (fun b1 w hO => ?_)
  refine WPL.al hO rfl (fun b2 w hO => ?_)
  refine WPL.as (v := .bool false) rfl rfl ?_
  refine WPL.nil ?_
  refine WP.rs ?_
  refine WPL.fa rfl rfl ?_
  refine WPL.ldL rfl hO inferInstance rfl rfl rfl ?_
  refine WPL.fa rfl rfl ?_
  refine WPL.ldL rfl hO inferInstance rfl rfl rfl ?_
  refine WPL.fa rfl rfl ?_
  refine WPL.ldL rfl hO inferInstance rfl rfl rfl ?_
  refine WPL.call rfl (r3_Form d.s a (dig d.m) _ hO.rd (dig_wd _) (val_dig _) hc rfl (by omega) d.e (by omega) (by omega)) Tryz.func91 rfl rfl rfl ?_
  rintro _ w ⟨hf10, a10, c10, rfl, hc10, hr10⟩
  obtain ⟨G10, hG10, hO⟩ := hO.resL hf10 hr10
  unfold dyV
  refine WPL.ext (v := .agg #[.bool _, .slice _ _ _, .int .i64 _]) rfl rfl rfl ?_
  refine WPL.ext (v := .bool _) rfl rfl rfl ?_
  refine WPL.stLA (T := T46) rfl rfl hO inferInstance inferInstance (by simp [Value.oneCell']) rfl rfl (fun w hO => ?_)
  refine WPL.as (v := .bool _) rfl rfl ?_
  refine WPL.nil ?_
  refine WP.ret ?_
  refine ⟨rfl, ?_⟩
  refine RO.cell (T := T46) [.bool _, .slice _ _ _, .int .i64 _] rfl hO inferInstance rfl agg46 rfl ?_
  refine RO.tmp (v := .bool _) rfl ?_
  refine RO.nil ?_
  exact ⟨hO.fr, a10, c10, rfl, hc10, hO.giveG hG10⟩

theorem r3_told {w0 : World} (s : Bool) (a : Option Addr) (l : List Nat) (c : Nat) {n N : Nat} (hr : RowOk w0 [] ⟨a, ws .u32 l⟩) (hw : Wd l) (hN : val l = N) (hc : l.length ≤ c) (hn : n = l.length) (hb : l.length ≤ 1000000000) (e : Int) (hf : blen N ≤ 262144) (he : -700000 ≤ e ∧ e ≤ 700000) : Spec Tryz.prog 70 [.bool s, .slice a n c, .int .i64 e] w0 (fun v w' => FrX [] w0 w' ∧ DyErr w0 w' 62 (Dy.fm s N e) v) := by
  subst hn
  have hO : Own [] w0 [] [] [⟨a, ws .u32 l⟩] w0 := Own.start (by intro e he; cases he) (by
      simp only [List.mem_cons, List.not_mem_nil, or_false]
      rintro r rfl
      · exact hr)
  refine Spec.enter (n := 21) (rs := [.cell 6 46, .tmp 7]) Tryz.func70 rfl rfl rfl rfl ?_
  refine WP.rs ?_
  refine WPL.al hO rfl (fun b1 w hO => ?_)
  refine WPL.as (v := .int .i64 0) rfl rfl ?_
  refine WPL.nil ?_
  refine WP.rs ?_
  refine WPL.mv (v := .bool _) rfl rfl ?_
  refine WPL.mv (v := .slice _ _ _) rfl rfl ?_
  refine WPL.mv (v := .int .i64 _) rfl rfl ?_
  refine WPL.call rfl (r3_Form s a l _ hO.rd hw hN hc rfl hb e hf he) Tryz.func91 rfl rfl rfl ?_
  rintro _ w ⟨hf14, a14, c14, rfl, hc14, hr14⟩
  obtain ⟨G14, hG14, hO⟩ := hO.resL hf14 hr14
  unfold dyV
  refine WPL.mv (v := .tuple #[.agg #[.bool _, .slice _ _ _, .int .i64 _], .bool _]) rfl rfl ?_
  refine WPL.ext (v := .agg #[.bool _, .slice _ _ _, .int .i64 _]) rfl rfl rfl ?_
  refine WPL.ext (v := .bool _) rfl rfl rfl ?_
  refine WPL.al hO rfl (fun b2 w hO => ?_)
  refine WPL.stLA (T := T46) rfl rfl hO inferInstance inferInstance (by simp [Value.oneCell']) rfl rfl (fun w hO => ?_)
  refine WPL.as (v := .bool _) rfl rfl ?_
  refine WPL.nil ?_
  refine WP.seq ?_
  refine WP.rs ?_
  refine WPL.mv (v := .bool _) rfl rfl ?_
  refine WPL.not rfl rfl ?_
  refine WPL.nil ?_
  refine WP.condB rfl (fun h1 => ?_) (fun h1 => ?_)
  · exact absurd h1 (by decide)
  · refine WP.skip ?_
    refine WP.rs ?_
    refine WPL.ldLA (T := T46) [.bool _, .slice _ _ _, .int .i64 _] rfl hO inferInstance rfl agg46 rfl rfl ?_
    refine WPL.stLA (T := T46) rfl rfl hO inferInstance inferInstance (by simp [Value.oneCell']) rfl rfl (fun w hO => ?_)
    refine WPL.as (v := .int .i64 0) rfl rfl ?_
    refine WPL.nil ?_
    refine WP.ret ?_
    refine ⟨rfl, ?_⟩
    refine RO.cell (T := T46) [.bool _, .slice _ _ _, .int .i64 _] rfl hO inferInstance rfl agg46 rfl ?_
    refine RO.tmp (v := .int .i64 _) rfl ?_
    refine RO.nil ?_
    exact ⟨hO.fr, a14, c14, rfl, hc14, hO.giveG hG14⟩

theorem r3_Make {w0 : World} (s : Bool) (a : Option Addr) (l : List Nat) (c : Nat) {n N : Nat} (hr : RowOk w0 [] ⟨a, ws .u32 l⟩) (hw : Wd l) (hN : val l = N) (hc : l.length ≤ c) (hn : n = l.length) (hb : l.length ≤ 1000000000) (e : Int) (hf : blen N ≤ 262144) (he : -700000 ≤ e ∧ e ≤ 700000) : Spec Tryz.prog 47 [.bool s, .slice a n c, .int .i64 e] w0 (fun v w' => FrX [] w0 w' ∧ DyErr w0 w' 62 (Dy.fm s N e) v) := by
  subst hn
  have hO : Own [] w0 [] [] [⟨a, ws .u32 l⟩] w0 := Own.start (by intro e he; cases he) (by
      simp only [List.mem_cons, List.not_mem_nil, or_false]
      rintro r rfl
      · exact hr)
  refine Spec.enter (n := 14) (rs := [.cell 6 46, .tmp 7]) Tryz.func47 rfl rfl rfl rfl ?_
  refine WP.rs ?_
  refine WPL.al hO rfl (fun b1 w hO => ?_)
  refine WPL.as (v := .int .i64 0) rfl rfl ?_
  refine WPL.nil ?_
  refine WP.rs ?_
  refine WPL.mv (v := .bool _) rfl rfl ?_
  refine WPL.mv (v := .slice _ _ _) rfl rfl ?_
  refine WPL.mv (v := .int .i64 _) rfl rfl ?_
  refine WPL.call rfl (r3_told s a l _ hO.rd hw hN hc rfl hb e hf he) Tryz.func70 rfl rfl rfl ?_
  rintro _ w ⟨hf11, a11, c11, rfl, hc11, hr11⟩
  obtain ⟨G11, hG11, hO⟩ := hO.resL hf11 hr11
  unfold dyV
  refine WPL.ext (v := .agg #[.bool _, .slice _ _ _, .int .i64 _]) rfl rfl rfl ?_
  refine WPL.ext (v := .int .i64 _) rfl rfl rfl ?_
  refine WPL.stLA (T := T46) rfl rfl hO inferInstance inferInstance (by simp [Value.oneCell']) rfl rfl (fun w hO => ?_)
  refine WPL.as (v := .int .i64 _) rfl rfl ?_
  refine WPL.nil ?_
  refine WP.ret ?_
  refine ⟨rfl, ?_⟩
  refine RO.cell (T := T46) [.bool _, .slice _ _ _, .int .i64 _] rfl hO inferInstance rfl agg46 rfl ?_
  refine RO.tmp (v := .int .i64 _) rfl ?_
  refine RO.nil ?_
  exact ⟨hO.fr, a11, c11, rfl, hc11, hO.giveG hG11⟩

theorem r3_Of64 {w0 : World} : Spec Tryz.prog 63 [] w0 (fun v w' => FrX [] w0 w' ∧ v = .agg #[.int .i64 53, .int .i64 (-1074), .int .u64 9218868437227405312]) := by
  have hO : Own [] w0 [] [] [] w0 := Own.start (by intro e he; cases he) (by intro r hr'; cases hr')
  refine Spec.enter (n := 2) (rs := [.cell 0 116]) Tryz.func63 rfl rfl rfl rfl ?_
  refine WP.rs ?_
  refine WPL.al hO rfl (fun b1 w hO => ?_)
  refine WPL.nil ?_
  refine WP.rs ?_
  refine WPL.bd (pv := [(0, .int .i64 53), (1, .int .i64 (-1074)), (2, .int .u64 ((9218868437227405312 : Nat) : Int))]) (vs := [_, _, _]) rfl (bd_of pl116 rfl rfl) rfl ?_
  refine WPL.stLA (T := T116) rfl rfl hO inferInstance inferInstance (by simp [Value.oneCell']) rfl rfl (fun w hO => ?_)
  refine WPL.nil ?_
  refine WP.ret ?_
  refine ⟨rfl, ?_⟩
  refine RO.cell (T := T116) [.int .i64 _, .int .i64 _, .int .u64 _] rfl hO inferInstance rfl agg116 rfl ?_
  refine RO.nil ?_
  exact ⟨hO.fr, rfl⟩

theorem r3_Number {w0 : World} (p : Nat) (low : Int) (inf : Nat) (hG : 24 ≤ p ∧ p ≤ 53 ∧ -1074 ≤ low ∧ low ≤ -149) (k : Nat) (hk : k < 18446744073709551616) : Spec Tryz.prog 90 [.agg #[.int .i64 (p : Int), .int .i64 low, .int .u64 (inf : Int)], .int .u64 (k : Int)] w0 (fun v w' => FrX [] w0 w' ∧ ∃ a c, v = .tuple #[.slice a (dig (numM p k)).length c, .int .i64 (numE p low k)] ∧ (dig (numM p k)).length ≤ c ∧ Res w0 w' a c 1 (ws .u32 (dig (numM p k))) 62) := by
  have hO : Own [] w0 [] [] [] w0 := Own.start (by intro e he; cases he) (by intro r hr'; cases hr')
  have hH1 : 0 < 2 ^ (p - 1) := Nat.two_pow_pos _
  have hH2 : 2 ^ (p - 1) ≤ 2 ^ 52 := Nat.pow_le_pow_right (by omega) (by omega)
  have hH3 : 2 ^ 23 ≤ 2 ^ (p - 1) := Nat.pow_le_pow_right (by omega) (by omega)
  obtain ⟨H, hH⟩ : ∃ H, H = 2 ^ (p - 1) := ⟨_, rfl⟩
  rw [← hH] at hH1 hH2 hH3
  have hmod := Nat.mod_lt k hH1
  have hdiv : k / H ≤ k / 2 ^ 23 := Nat.div_le_div_left hH3 (by decide)
  have hnn : (0 : Int) ≤ ((k / H : Nat) : Int) := Int.natCast_nonneg _
  refine Spec.enter (n := 36) (rs := [.tmp 4, .tmp 5]) Tryz.func90 rfl rfl rfl rfl ?_
  refine WP.rs ?_
  refine WPL.bx (v := .agg #[.int .i64 _, .int .i64 _, .int .u64 _]) rfl rfl hO rfl (fun b1 w hO => ?_)
  refine WPL.as (v := .slice none 0 0) rfl rfl ?_
  refine WPL.as (v := .int .i64 0) rfl rfl ?_
  refine WPL.nil ?_
  refine WP.rs ?_
  refine WPL.fa rfl rfl ?_
  refine WPL.ldL rfl hO inferInstance rfl rfl rfl ?_
  refine WPL.subTo ((p - 1 : Nat) : Int) rfl rfl (by omega) (by omega) rfl ?_
  refine WPL.cv_u64 (a := p - 1) rfl (by omega) rfl ?_
  refine WPL.shl_u64 (a := 1) (s := p - 1) rfl rfl rfl ?_
  refine WPL.as (v := .int .u64 _) rfl rfl ?_
  refine WPL.nil ?_
  refine WP.rs ?_
  refine WPL.mv (v := .int .u64 _) rfl rfl ?_
  refine WPL.mv (v := .int .u64 _) rfl rfl ?_
  refine WPL.quo_u64 (a := k) (b := H) rfl (congrArg (fun z : Nat => Value.int .u64 (z : Int)) (show 1 * 2 ^ (p - 1) % 18446744073709551616 = H by rw [← hH]; omega)) (by omega) (by omega) rfl ?_
  refine WPL.as (v := .int .u64 _) rfl rfl ?_
  refine WPL.nil ?_
  refine WP.rs ?_
  refine WPL.mv (v := .int .u64 _) rfl rfl ?_
  refine WPL.mv (v := .int .u64 _) rfl rfl ?_
  refine WPL.rem_u64 (a := k) (b := H) rfl (congrArg (fun z : Nat => Value.int .u64 (z : Int)) (show 1 * 2 ^ (p - 1) % 18446744073709551616 = H by rw [← hH]; omega)) (by omega) rfl ?_
  refine WPL.as (v := .int .u64 _) rfl rfl ?_
  refine WPL.nil ?_
  refine WP.seq ?_
  refine WP.rs ?_
  refine WPL.mv (v := .int .u64 _) rfl rfl ?_
  refine WPL.eq rfl rfl rfl ?_
  refine WPL.nil ?_
  refine WP.condP rfl (fun h1 => ?_) (fun h1 => ?_)
  · refine WP.seq ?_
    refine WP.draw [(0, 0), (2, 0), (3, 1), (1, 2), (4, 0), (5, 0)] [] mixed (by kernel_rfl) (by kernel_rfl) rfl hO (fun w hO => ?_)
    refine WPD.pv rfl rfl (fun w k' h => WPL.mv (v := .int .u64 _) rfl rfl (WPL.nil h)) ?_
    refine WPD.pv rfl rfl (fun w k' h => WPL.fa rfl rfl (WPL.nil h)) ?_
    refine WPD.val rfl rfl (fun w hO k' h => WPL.ldL rfl hO inferInstance rfl rfl rfl (WPL.nil h)) ?_
    refine WPD.eff rfl hO ?_
    refine WPL.call rfl (r2_Of (k % H) (by omega)) Tryz.func46 rfl rfl rfl ?_
    rintro _ w ⟨hf23, a23, c23, rfl, hc23, hr23⟩
    obtain ⟨G23, hG23, hO⟩ := hO.resL hf23 hr23
    refine WPL.nil ?_
    refine WPD.pv rfl rfl (fun w k' h => WPL.as (v := .slice _ _ _) rfl rfl (WPL.nil h)) ?_
    refine WPD.pv rfl rfl (fun w k' h => WPL.as (v := .int .i64 _) rfl rfl (WPL.nil h)) ?_
    refine WPD.nil (Own.drop hO) ?_
    refine WP.ret ?_
    refine ⟨rfl, ?_⟩
    refine RO.tmp (v := .slice _ _ _) rfl ?_
    refine RO.tmp (v := .int .i64 _) rfl ?_
    refine RO.nil ?_
    unfold numM numE
    rw [← hH]
    first
    | (have hz : k / H = 0 := by omega
       simp only [if_pos hz]
       exact ⟨hO.fr, a23, c23, rfl, hc23, hO.giveG hG23⟩)
    | (have hz : ¬ k / H = 0 := by omega
       simp only [if_neg hz]
       exact ⟨hO.fr, a29, c29, rfl, hc29, hO.giveG hG29⟩)
  · refine WP.skip ?_
    refine WP.seq ?_
    refine WP.draw [(0, 0), (1, 0), (2, 0), (4, 0), (5, 1), (6, 0), (7, 0), (8, 0), (9, 0), (3, 2), (10, 0), (11, 0)] [] mixed (by kernel_rfl) (by kernel_rfl) rfl hO (fun w hO => ?_)
    refine WPD.pv rfl rfl (fun w k' h => WPL.mv (v := .int .u64 _) rfl rfl (WPL.nil h)) ?_
    refine WPD.pv rfl rfl (fun w k' h => WPL.mv (v := .int .u64 _) rfl rfl (WPL.nil h)) ?_
    refine WPD.pv rfl rfl (fun w k' h => WPL.u64To (a := H) (b := k % H) (H + k % H) (.inr (.inl rfl)) (congrArg (fun z : Nat => Value.int .u64 (z : Int)) (show 1 * 2 ^ (p - 1) % 18446744073709551616 = H by rw [← hH]; omega)) rfl (.inr (.inl ⟨rfl, rfl⟩)) (by omega) rfl (WPL.nil h)) ?_
    refine WPD.pv rfl rfl (fun w k' h => WPL.fa rfl rfl (WPL.nil h)) ?_
    refine WPD.val rfl rfl (fun w hO k' h => WPL.ldL rfl hO inferInstance rfl rfl rfl (WPL.nil h)) ?_
    refine WPD.pv rfl rfl (fun w k' h => WPL.mv (v := .int .u64 _) rfl rfl (WPL.nil h)) ?_
    refine WPD.pv rfl rfl (fun w k' h => WPL.cv_i64 rfl (by first | omega | exact Nat.mod_lt _ (by decide) | exact Wd.get (by assumption) _ | exact (dig_wd _).get _ | exact Nat.lt_of_le_of_lt (Nat.div_le_self ..) (Wd.get (by assumption) _) | exact Nat.lt_of_lt_of_le (Wd.get (by assumption) _) (by decide)) rfl (WPL.nil h)) ?_
    refine WPD.pv rfl rfl (fun w k' h => WPL.addI rfl rfl (by omega) rfl (WPL.nil h)) ?_
    refine WPD.pv rfl rfl (fun w k' h => WPL.subI rfl rfl (by omega) rfl (WPL.nil h)) ?_
    refine WPD.eff rfl hO ?_
    refine WPL.call rfl (r2_Of (H + k % H) (by omega)) Tryz.func46 rfl rfl rfl ?_
    rintro _ w ⟨hf29, a29, c29, rfl, hc29, hr29⟩
    obtain ⟨G29, hG29, hO⟩ := hO.resL hf29 hr29
    refine WPL.nil ?_
    refine WPD.pv rfl rfl (fun w k' h => WPL.as (v := .slice _ _ _) rfl rfl (WPL.nil h)) ?_
    refine WPD.pv rfl rfl (fun w k' h => WPL.as (v := .int .i64 _) rfl rfl (WPL.nil h)) ?_
    refine WPD.nil (Own.drop hO) ?_
    refine WP.ret ?_
    refine ⟨rfl, ?_⟩
    refine RO.tmp (v := .slice _ _ _) rfl ?_
    refine RO.tmp (v := .int .i64 _) rfl ?_
    refine RO.nil ?_
    unfold numM numE
    rw [← hH]
    first
    | (have hz : k / H = 0 := by omega
       simp only [if_pos hz]
       exact ⟨hO.fr, a23, c23, rfl, hc23, hO.giveG hG23⟩)
    | (have hz : ¬ k / H = 0 := by omega
       simp only [if_neg hz]
       exact ⟨hO.fr, a29, c29, rfl, hc29, hO.giveG hG29⟩)

theorem r3_Bits {w0 : World} (p : Nat) (low : Int) (inf : Nat) (hG : 24 ≤ p ∧ p ≤ 53 ∧ -1074 ≤ low ∧ low ≤ -149) (s : Bool) (k : Nat) (hk : k < inf) (hinf : inf < 18446744073709551616) (hke : numE p low k ≤ 100000) : Spec Tryz.prog 64 [.agg #[.int .i64 (p : Int), .int .i64 low, .int .u64 (inf : Int)], .bool s, .int .u64 (k : Int)] w0 (fun v w' => FrX [] w0 w' ∧ DyOk w0 w' 62 (Dy.fm s (numM p k) (numE p low k)) v) := by
  have hO : Own [] w0 [] [] [] w0 := Own.start (by intro e he; cases he) (by intro r hr'; cases hr')
  have hml := @numM_lt p k (by omega)
  have hp2 : 2 ^ p ≤ 2 ^ 53 := Nat.pow_le_pow_right (by omega) (by omega)
  have hbm : blen (numM p k) ≤ 53 := blen_le.2 (by omega)
  have hlm := len_blen (k := 2) (show blen (numM p k) ≤ 32 * 2 by omega)
  have hEl := @numE_low p low k
  have hEh : numE p low k ≤ low + (k / 2 ^ 23 : Nat) := by
    have hH3 : 2 ^ 23 ≤ 2 ^ (p - 1) := Nat.pow_le_pow_right (by omega) (by omega)
    have hdiv : k / 2 ^ (p - 1) ≤ k / 2 ^ 23 := Nat.div_le_div_left hH3 (by decide)
    unfold numE; split <;> omega
  refine Spec.enter (n := 27) (rs := [.cell 6 46, .tmp 7]) Tryz.func64 rfl rfl rfl rfl ?_
  refine WP.rs ?_
  refine WPL.bx (v := .agg #[.int .i64 _, .int .i64 _, .int .u64 _]) rfl rfl hO rfl (fun b1 w hO => ?_)
  refine WPL.al hO rfl (fun b2 w hO => ?_)
  refine WPL.as (v := .bool false) rfl rfl ?_
  refine WPL.nil ?_
  refine WP.seq ?_
  refine WP.rs ?_
  refine WPL.mv (v := .int .u64 _) rfl rfl ?_
  refine WPL.fa rfl rfl ?_
  refine WPL.ldL rfl hO inferInstance rfl rfl rfl ?_
  refine WPL.ge rfl rfl rfl ?_
  refine WPL.nil ?_
  refine WP.condP rfl (fun h1 => ?_) (fun h1 => ?_)
  · exact absurd h1 (by omega)
  · refine WP.skip ?_
    refine WP.rs ?_
    refine WPL.ldLA (T := T116) [.int .i64 _, .int .i64 _, .int .u64 _] rfl hO inferInstance rfl agg116 rfl rfl ?_
    refine WPL.mv (v := .int .u64 _) rfl rfl ?_
    refine WPL.call rfl (r3_Number p low inf hG k (by omega)) Tryz.func90 rfl rfl rfl ?_
    rintro _ w ⟨hf18, a18, c18, rfl, hc18, hr18⟩
    have hO := hO.res hf18 hr18
    refine WPL.mv (v := .tuple #[.slice _ _ _, .int .i64 _]) rfl rfl ?_
    refine WPL.ext (v := .slice _ _ _) rfl rfl rfl ?_
    refine WPL.ext (v := .int .i64 _) rfl rfl rfl ?_
    refine WPL.as (v := .slice _ _ _) rfl rfl ?_
    refine WPL.as (v := .int .i64 _) rfl rfl ?_
    refine WPL.nil ?_
    refine WP.rs ?_
    refine WPL.mv (v := .bool _) rfl rfl ?_
    refine WPL.mv (v := .slice _ _ _) rfl rfl ?_
    refine WPL.mv (v := .int .i64 _) rfl rfl ?_
    refine WPL.call rfl (r3_Form s a18 (dig (numM p k)) _ hO.rd (dig_wd _) (val_dig _) hc18 rfl (by omega) (numE p low k) (by omega) (by omega)) Tryz.func91 rfl rfl rfl ?_
    rintro _ w ⟨hf24, a24, c24, rfl, hc24, hr24⟩
    obtain ⟨G24, hG24, hO⟩ := hO.resL hf24 hr24
    unfold dyV
    refine WPL.ext (v := .agg #[.bool _, .slice _ _ _, .int .i64 _]) rfl rfl rfl ?_
    refine WPL.ext (v := .bool _) rfl rfl rfl ?_
    refine WPL.stLA (T := T46) rfl rfl hO inferInstance inferInstance (by simp [Value.oneCell']) rfl rfl (fun w hO => ?_)
    refine WPL.as (v := .bool _) rfl rfl ?_
    refine WPL.nil ?_
    refine WP.ret ?_
    refine ⟨rfl, ?_⟩
    refine RO.cell (T := T46) [.bool _, .slice _ _ _, .int .i64 _] rfl hO inferInstance rfl agg46 rfl ?_
    refine RO.tmp (v := .bool _) rfl ?_
    refine RO.nil ?_
    exact ⟨hO.fr, a24, c24, rfl, hc24, hO.giveG hG24⟩

theorem r3_Bits_no {w0 : World} (p : Nat) (low : Int) (inf : Nat) (hG : 24 ≤ p ∧ p ≤ 53 ∧ -1074 ≤ low ∧ low ≤ -149) (s : Bool) (k : Nat) (hk : inf ≤ k) (hinf : k < 18446744073709551616) : Spec Tryz.prog 64 [.agg #[.int .i64 (p : Int), .int .i64 low, .int .u64 (inf : Int)], .bool s, .int .u64 (k : Int)] w0 (fun v w' => FrX [] w0 w' ∧ v = .tuple #[.agg #[.bool false, .slice none 0 0, .int .i64 0], .bool false]) := by
  have hO : Own [] w0 [] [] [] w0 := Own.start (by intro e he; cases he) (by intro r hr'; cases hr')
  refine Spec.enter (n := 27) (rs := [.cell 6 46, .tmp 7]) Tryz.func64 rfl rfl rfl rfl ?_
  refine WP.rs ?_
  refine WPL.bx (v := .agg #[.int .i64 _, .int .i64 _, .int .u64 _]) rfl rfl hO rfl (fun b1 w hO => ?_)
  refine WPL.al hO rfl (fun b2 w hO => ?_)
  refine WPL.as (v := .bool false) rfl rfl ?_
  refine WPL.nil ?_
  refine WP.seq ?_
  refine WP.rs ?_
  refine WPL.mv (v := .int .u64 _) rfl rfl ?_
  refine WPL.fa rfl rfl ?_
  refine WPL.ldL rfl hO inferInstance rfl rfl rfl ?_
  refine WPL.ge rfl rfl rfl ?_
  refine WPL.nil ?_
  refine WP.condP rfl (fun h1 => ?_) (fun h1 => ?_)
  · refine WP.rs ?_
    refine WPL.bd (pv := []) (vs := [_, _, _]) rfl (bd_of pl46 rfl rfl) rfl ?_
    refine WPL.stLA (T := T46) rfl rfl hO inferInstance inferInstance (by simp [Value.oneCell']) rfl rfl (fun w hO => ?_)
    refine WPL.as (v := .bool false) rfl rfl ?_
    refine WPL.nil ?_
    refine WP.ret ?_
    refine ⟨rfl, ?_⟩
    refine RO.cell (T := T46) [.bool _, .slice _ _ _, .int .i64 _] rfl hO inferInstance rfl agg46 rfl ?_
    refine RO.tmp (v := .bool _) rfl ?_
    refine RO.nil ?_
    exact ⟨hO.fr, rfl⟩
  · exact absurd hk (by omega)

theorem r3_Of_ok {w0 : World} (x : Nat) (hx : x < 18446744073709551616) (hfin : x % 9223372036854775808 < 9218868437227405312) : Spec Tryz.prog 39 [.float .f64 x] w0 (fun v w' => FrX [] w0 w' ∧ DyErr w0 w' 62 (fval x) v) := by
  have hO : Own [] w0 [] [] [] w0 := Own.start (by intro e he; cases he) (by intro r hr'; cases hr')
  refine Spec.enter (n := 24) (rs := [.cell 2 46, .tmp 3]) Tryz.func39 rfl rfl rfl rfl ?_
  refine WP.rs ?_
  refine WPL.al hO rfl (fun b1 w hO => ?_)
  refine WPL.as (v := .int .i64 0) rfl rfl ?_
  refine WPL.nil ?_
  refine WP.rs ?_
  refine WPL.mv (v := .float .f64 _) rfl rfl ?_
  refine WPL.f64bits ext_F64bits rfl rfl ?_
  refine WPL.as (v := .int .u64 _) rfl rfl ?_
  refine WPL.nil ?_
  refine WP.rs ?_
  refine WPL.call rfl (r3_Of64) Tryz.func63 rfl rfl rfl ?_
  rintro _ w ⟨hf10, rfl⟩
  have hO := hO.call hf10
  refine WPL.mv (v := .int .u64 _) rfl rfl ?_
  refine WPL.shrc_u64 (p := 9223372036854775808) rfl rfl rfl hx rfl ?_
  refine WPL.eq rfl rfl rfl ?_
  refine WPL.mv (v := .int .u64 _) rfl rfl ?_
  refine WPL.shlc_u64 (p := 2) rfl rfl rfl rfl ?_
  refine WPL.shrc_u64 (p := 2) rfl rfl rfl (Nat.mod_lt _ (by decide)) rfl ?_
  have e1 : x * 2 % 18446744073709551616 / 2 = x % 9223372036854775808 := by omega
  have e2 : decide (((x / 9223372036854775808 : Nat) : Int) = 1) = decide (x / 9223372036854775808 = 1) := decide_eq_decide.2 (by omega)
  rw [← e1] at hfin
  have hke : numE 53 (-1074) (x * 2 % 18446744073709551616 / 2) ≤ 100000 := by
    unfold numE; split <;> omega
  refine WPL.call rfl (r3_Bits 53 (-1074) 9218868437227405312 (by decide) (decide (((x / 9223372036854775808 : Nat) : Int) = 1)) (x * 2 % 18446744073709551616 / 2) hfin (by decide) hke) Tryz.func64 rfl rfl rfl ?_
  rintro _ w ⟨hf17, a17, c17, rfl, hc17, hr17⟩
  rw [e1, e2] at hc17 hr17
  obtain ⟨G17, hG17, hO⟩ := hO.resL hf17 hr17
  rw [e1, e2]
  unfold dyV
  refine WPL.mv (v := .tuple #[.agg #[.bool _, .slice _ _ _, .int .i64 _], .bool _]) rfl rfl ?_
  refine WPL.ext (v := .agg #[.bool _, .slice _ _ _, .int .i64 _]) rfl rfl rfl ?_
  refine WPL.ext (v := .bool _) rfl rfl rfl ?_
  refine WPL.al hO rfl (fun b2 w hO => ?_)
  refine WPL.stLA (T := T46) rfl rfl hO inferInstance inferInstance (by simp [Value.oneCell']) rfl rfl (fun w hO => ?_)
  refine WPL.as (v := .bool _) rfl rfl ?_
  refine WPL.nil ?_
  refine WP.seq ?_
  refine WP.rs ?_
  refine WPL.mv (v := .bool _) rfl rfl ?_
  refine WPL.not rfl rfl ?_
  refine WPL.nil ?_
  refine WP.condB rfl (fun h1 => ?_) (fun h1 => ?_)
  · exact absurd h1 (by decide)
  · refine WP.skip ?_
    refine WP.rs ?_
    refine WPL.ldLA (T := T46) [.bool _, .slice _ _ _, .int .i64 _] rfl hO inferInstance rfl agg46 rfl rfl ?_
    refine WPL.stLA (T := T46) rfl rfl hO inferInstance inferInstance (by simp [Value.oneCell']) rfl rfl (fun w hO => ?_)
    refine WPL.as (v := .int .i64 0) rfl rfl ?_
    refine WPL.nil ?_
    refine WP.ret ?_
    refine ⟨rfl, ?_⟩
    refine RO.cell (T := T46) [.bool _, .slice _ _ _, .int .i64 _] rfl hO inferInstance rfl agg46 rfl ?_
    refine RO.tmp (v := .int .i64 _) rfl ?_
    refine RO.nil ?_
    exact ⟨hO.fr, a17, c17, rfl, hc17, hO.giveG hG17⟩

theorem r3_Of_no {w0 : World} (x : Nat) (hx : x < 18446744073709551616) (hfin : 9218868437227405312 ≤ x % 9223372036854775808) : Spec Tryz.prog 39 [.float .f64 x] w0 (fun v w' => FrX [] w0 w' ∧ v = .tuple #[.agg #[.bool false, .slice none 0 0, .int .i64 0], .int .i64 30]) := by
  have hO : Own [] w0 [] [] [] w0 := Own.start (by intro e he; cases he) (by intro r hr'; cases hr')
  refine Spec.enter (n := 24) (rs := [.cell 2 46, .tmp 3]) Tryz.func39 rfl rfl rfl rfl ?_
  refine WP.rs ?_
  refine WPL.al hO rfl (fun b1 w hO => ?_)
  refine WPL.as (v := .int .i64 0) rfl rfl ?_
  refine WPL.nil ?_
  refine WP.rs ?_
  refine WPL.mv (v := .float .f64 _) rfl rfl ?_
  refine WPL.f64bits ext_F64bits rfl rfl ?_
  refine WPL.as (v := .int .u64 _) rfl rfl ?_
  refine WPL.nil ?_
  refine WP.rs ?_
  refine WPL.call rfl (r3_Of64) Tryz.func63 rfl rfl rfl ?_
  rintro _ w ⟨hf10, rfl⟩
  have hO := hO.call hf10
  refine WPL.mv (v := .int .u64 _) rfl rfl ?_
  refine WPL.shrc_u64 (p := 9223372036854775808) rfl rfl rfl hx rfl ?_
  refine WPL.eq rfl rfl rfl ?_
  refine WPL.mv (v := .int .u64 _) rfl rfl ?_
  refine WPL.shlc_u64 (p := 2) rfl rfl rfl rfl ?_
  refine WPL.shrc_u64 (p := 2) rfl rfl rfl (Nat.mod_lt _ (by decide)) rfl ?_
  have e1 : x * 2 % 18446744073709551616 / 2 = x % 9223372036854775808 := by omega
  rw [← e1] at hfin
  refine WPL.call rfl (r3_Bits_no 53 (-1074) 9218868437227405312 (by decide) (decide (((x / 9223372036854775808 : Nat) : Int) = 1)) (x * 2 % 18446744073709551616 / 2) hfin (by omega)) Tryz.func64 rfl rfl rfl ?_
  rintro _ w ⟨hf17, rfl⟩
  have hO := hO.call hf17
  refine WPL.mv (v := .tuple #[.agg #[.bool _, .slice _ _ _, .int .i64 _], .bool _]) rfl rfl ?_
  refine WPL.ext (v := .agg #[.bool _, .slice _ _ _, .int .i64 _]) rfl rfl rfl ?_
  refine WPL.ext (v := .bool _) rfl rfl rfl ?_
  refine WPL.al hO rfl (fun b2 w hO => ?_)
  refine WPL.stLA (T := T46) rfl rfl hO inferInstance inferInstance (by simp [Value.oneCell']) rfl rfl (fun w hO => ?_)
  refine WPL.as (v := .bool _) rfl rfl ?_
  refine WPL.nil ?_
  refine WP.seq ?_
  refine WP.rs ?_
  refine WPL.mv (v := .bool _) rfl rfl ?_
  refine WPL.not rfl rfl ?_
  refine WPL.nil ?_
  refine WP.condB rfl (fun h1 => ?_) (fun h1 => ?_)
  · refine WP.rs ?_
    refine WPL.bd (pv := []) (vs := [_, _, _]) rfl (bd_of pl46 rfl rfl) rfl ?_
    refine WPL.stLA (T := T46) rfl rfl hO inferInstance inferInstance (by simp [Value.oneCell']) rfl rfl (fun w hO => ?_)
    refine WPL.as (v := .int .i64 30) rfl rfl ?_
    refine WPL.nil ?_
    refine WP.ret ?_
    refine ⟨rfl, ?_⟩
    refine RO.cell (T := T46) [.bool _, .slice _ _ _, .int .i64 _] rfl hO inferInstance rfl agg46 rfl ?_
    refine RO.tmp (v := .int .i64 _) rfl ?_
    refine RO.nil ?_
    exact ⟨hO.fr, rfl⟩
  · exact absurd h1 (by decide)

theorem r3_Add {w0 : World} (d1 : Dy) (a1 : Option Addr) (c1 : Nat) {D1 : Dy} (hr1 : RowOk w0 [] ⟨a1, ws .u32 (dig d1.m)⟩) (hc1 : (dig d1.m).length ≤ c1) (hD1 : d1.nf = D1) (hb1 : d1.B 60000) (d2 : Dy) (a2 : Option Addr) (c2 : Nat) {D2 : Dy} (hr2 : RowOk w0 [] ⟨a2, ws .u32 (dig d2.m)⟩) (hc2 : (dig d2.m).length ≤ c2) (hD2 : d2.nf = D2) (hb2 : d2.B 60000) : Spec Tryz.prog 48 [dyV d1 a1 c1, dyV d2 a2 c2] w0 (fun v w' => FrX [] w0 w' ∧ DyErr w0 w' 62 (Dy.add D1 D2) v) := by
  have hO : Own [] w0 [] [] [⟨a1, ws .u32 (dig d1.m)⟩, ⟨a2, ws .u32 (dig d2.m)⟩] w0 := Own.start (by intro e he; cases he) (by
      simp only [List.mem_cons, List.not_mem_nil, or_false]
      rintro r (rfl | rfl)
      · exact hr1
      · exact hr2)
  have hB1 := Dy.nf_B hb1
  have hB2 := Dy.nf_B hb2
  rw [hD1] at hB1
  rw [hD2] at hB2
  have hl1 := len_blen (k := 8192) (show blen D1.m ≤ 32 * 8192 by omega)
  have hl2 := len_blen (k := 8192) (show blen D2.m ≤ 32 * 8192 by omega)
  unfold dyV
  refine Spec.enter (n := 104) (rs := [.cell 4 46, .tmp 5]) Tryz.func48 rfl rfl rfl rfl ?_
  refine WP.rs ?_
  refine WPL.bx (v := .agg #[.bool _, .slice _ _ _, .int .i64 _]) rfl rfl hO rfl (fun b1 w hO => ?_)
  refine WPL.bx (v := .agg #[.bool _, .slice _ _ _, .int .i64 _]) rfl rfl hO rfl (fun b2 w hO => ?_)
  refine WPL.al hO rfl (fun b3 w hO => ?_)
  refine WPL.as (v := .int .i64 0) rfl rfl ?_
  refine WPL.nil ?_
  refine WP.rs ?_
  refine WPL.ldLA (T := T46) [.bool _, .slice _ _ _, .int .i64 _] rfl hO inferInstance rfl agg46 rfl rfl ?_
  refine WPL.call rfl (r3_Made d1 a1 c1 hO.rd hc1 hD1 (hb1.mono (by decide))) Tryz.func65 rfl rfl rfl ?_
  rintro _ w ⟨hfm1, p1, q1, rfl, hq1, hrm1⟩
  obtain ⟨GG1, hg1, hO⟩ := hO.resL hfm1 hrm1
  unfold dyV
  refine WPL.mv (v := .tuple #[.agg #[.bool _, .slice _ _ _, .int .i64 _], .bool _]) rfl rfl ?_
  refine WPL.ext (v := .agg #[.bool _, .slice _ _ _, .int .i64 _]) rfl rfl rfl ?_
  refine WPL.ext (v := .bool _) rfl rfl rfl ?_
  refine WPL.al hO rfl (fun b4 w hO => ?_)
  refine WPL.stLA (T := T46) rfl rfl hO inferInstance inferInstance (by simp [Value.oneCell']) rfl rfl (fun w hO => ?_)
  refine WPL.as (v := .bool _) rfl rfl ?_
  refine WPL.nil ?_
  refine WP.rs ?_
  refine WPL.ldLA (T := T46) [.bool _, .slice _ _ _, .int .i64 _] rfl hO inferInstance rfl agg46 rfl rfl ?_
  refine WPL.call rfl (r3_Made d2 a2 c2 hO.rd hc2 hD2 (hb2.mono (by decide))) Tryz.func65 rfl rfl rfl ?_
  rintro _ w ⟨hfm2, p2, q2, rfl, hq2, hrm2⟩
  obtain ⟨GG2, hg2, hO⟩ := hO.resL hfm2 hrm2
  unfold dyV
  refine WPL.mv (v := .tuple #[.agg #[.bool _, .slice _ _ _, .int .i64 _], .bool _]) rfl rfl ?_
  refine WPL.ext (v := .agg #[.bool _, .slice _ _ _, .int .i64 _]) rfl rfl rfl ?_
  refine WPL.ext (v := .bool _) rfl rfl rfl ?_
  refine WPL.al hO rfl (fun b5 w hO => ?_)
  refine WPL.stLA (T := T46) rfl rfl hO inferInstance inferInstance (by simp [Value.oneCell']) rfl rfl (fun w hO => ?_)
  refine WPL.as (v := .bool _) rfl rfl ?_
  refine WPL.nil ?_
  refine WP.seq ?_
  refine WP.rs ?_
  refine WPL.mv (v := .bool _) rfl rfl ?_
  refine WPL.not rfl rfl ?_
  refine WPL.mv (v := .bool _) rfl rfl ?_
  refine WPL.split (s := 25) rfl (fun h1 => ?_) (fun h1 => ?_)
  · exact absurd h1 (by decide)
  · refine WPL.guardT rfl rfl h1 ?_
    refine WPL.mv (v := .bool _) rfl rfl ?_
    refine WPL.guardT rfl rfl h1 ?_
    refine WPL.not rfl rfl ?_
    refine WPL.pkF (v := .bool _) rfl h1 rfl rfl ?_
    refine WPL.nil ?_
    refine WP.condB rfl (fun h2 => ?_) (fun h2 => ?_)
    · exact absurd h2 (by decide)
    · refine WP.skip ?_
      refine WP.seq ?_
      refine WP.rs ?_
      refine WPL.fa rfl rfl ?_
      refine WPL.ldL rfl hO inferInstance rfl rfl rfl ?_
      refine WPL.len rfl rfl ?_
      refine WPL.eq rfl rfl rfl ?_
      refine WPL.nil ?_
      refine WP.condP rfl (fun h3 => ?_) (fun h3 => ?_)
      · refine WP.rs ?_
        refine WPL.ldLA (T := T46) [.bool _, .slice _ _ _, .int .i64 _] rfl hO inferInstance rfl agg46 rfl rfl ?_
        refine WPL.stLA (T := T46) rfl rfl hO inferInstance inferInstance (by simp [Value.oneCell']) rfl rfl (fun w hO => ?_)
        refine WPL.as (v := .int .i64 0) rfl rfl ?_
        refine WPL.nil ?_
        refine WP.ret ?_
        refine ⟨rfl, ?_⟩
        refine RO.cell (T := T46) [.bool _, .slice _ _ _, .int .i64 _] rfl hO inferInstance rfl agg46 rfl ?_
        refine RO.tmp (v := .int .i64 _) rfl ?_
        refine RO.nil ?_
        have e0 := dig_len_zero (by omega : (dig D1.m).length = 0)
        exact ⟨hO.fr, p2, q2, by rw [Dy.add, if_pos e0]; rfl, by rw [Dy.add, if_pos e0]; exact hq2, by rw [Dy.add, if_pos e0]; exact hO.giveG hg2⟩
      · refine WP.skip ?_
        refine WP.seq ?_
        refine WP.rs ?_
        refine WPL.fa rfl rfl ?_
        refine WPL.ldL rfl hO inferInstance rfl rfl rfl ?_
        refine WPL.len rfl rfl ?_
        refine WPL.eq rfl rfl rfl ?_
        refine WPL.nil ?_
        refine WP.condP rfl (fun h4 => ?_) (fun h4 => ?_)
        · refine WP.rs ?_
          refine WPL.ldLA (T := T46) [.bool _, .slice _ _ _, .int .i64 _] rfl hO inferInstance rfl agg46 rfl rfl ?_
          refine WPL.stLA (T := T46) rfl rfl hO inferInstance inferInstance (by simp [Value.oneCell']) rfl rfl (fun w hO => ?_)
          refine WPL.as (v := .int .i64 0) rfl rfl ?_
          refine WPL.nil ?_
          refine WP.ret ?_
          refine ⟨rfl, ?_⟩
          refine RO.cell (T := T46) [.bool _, .slice _ _ _, .int .i64 _] rfl hO inferInstance rfl agg46 rfl ?_
          refine RO.tmp (v := .int .i64 _) rfl ?_
          refine RO.nil ?_
          have e0 := dig_len_zero (by omega : (dig D2.m).length = 0)
          have e1 : D1.m ≠ 0 := fun e => h3 (by rw [e, dig_zero]; rfl)
          exact ⟨hO.fr, p1, q1, by rw [Dy.add, if_neg e1, if_pos e0]; rfl, by rw [Dy.add, if_neg e1, if_pos e0]; exact hq1, by rw [Dy.add, if_neg e1, if_pos e0]; exact hO.giveG hg1⟩
        · refine WP.skip ?_
          refine WP.rs ?_
          refine WPL.fa rfl rfl ?_
          refine WPL.ldL rfl hO inferInstance rfl rfl rfl ?_
          refine WPL.fa rfl rfl ?_
          refine WPL.ldL rfl hO inferInstance rfl rfl rfl ?_
          refine WPL.min2 rfl rfl rfl ?_
          refine WPL.as (v := .int .i64 _) rfl rfl ?_
          refine WPL.nil ?_
          refine WP.rs ?_
          refine WPL.fa rfl rfl ?_
          refine WPL.ldL rfl hO inferInstance rfl rfl rfl ?_
          refine WPL.fa rfl rfl ?_
          refine WPL.ldL rfl hO inferInstance rfl rfl rfl ?_
          refine WPL.mv (v := .int .i64 _) rfl rfl ?_
          refine WPL.subI rfl rfl (by omega) rfl ?_
          refine WPL.call rfl (r2_Moved p1 (dig D1.m) _ (hO.rdG hg1) (dig_wd _) (val_dig _) hq1 rfl (by omega) (D1.e - min D1.e D2.e) (by omega) (by omega)) Tryz.func68 rfl rfl rfl ?_
          rintro _ w ⟨hf51, a51, c51, rfl, hc51, hr51⟩
          have hO := hO.res hf51 hr51
          have hbs1 := @blen_shift D1.m (D1.e - min D1.e D2.e) (by omega)
          have hls1 := len_blen (k := 8192) (show blen (shiftN D1.m (D1.e - min D1.e D2.e)) ≤ 32 * 8192 by omega)
          refine WPL.as (v := .slice _ _ _) rfl rfl ?_
          refine WPL.nil ?_
          refine WP.rs ?_
          refine WPL.fa rfl rfl ?_
          refine WPL.ldL rfl hO inferInstance rfl rfl rfl ?_
          refine WPL.fa rfl rfl ?_
          refine WPL.ldL rfl hO inferInstance rfl rfl rfl ?_
          refine WPL.mv (v := .int .i64 _) rfl rfl ?_
          refine WPL.subI rfl rfl (by omega) rfl ?_
          refine WPL.call rfl (r2_Moved p2 (dig D2.m) _ (hO.rdG hg2) (dig_wd _) (val_dig _) hq2 rfl (by omega) (D2.e - min D1.e D2.e) (by omega) (by omega)) Tryz.func68 rfl rfl rfl ?_
          rintro _ w ⟨hf58, a58, c58, rfl, hc58, hr58⟩
          have hO := hO.res hf58 hr58
          have hbs2 := @blen_shift D2.m (D2.e - min D1.e D2.e) (by omega)
          have hls2 := len_blen (k := 8192) (show blen (shiftN D2.m (D2.e - min D1.e D2.e)) ≤ 32 * 8192 by omega)
          refine WPL.as (v := .slice _ _ _) rfl rfl ?_
          refine WPL.nil ?_
          refine WP.seq ?_
          refine WP.rs ?_
          refine WPL.mv (v := .slice _ _ _) rfl rfl ?_
          refine WPL.len rfl rfl ?_
          refine WPL.gt rfl rfl rfl ?_
          refine WPL.mv (v := .bool _) rfl rfl ?_
          refine WPL.split (s := 62) rfl (fun h5 => ?_) (fun h5 => ?_)
          · have ph5 := of_decide_eq_true h5
            exact absurd (of_decide_eq_true h5) (by omega)
          · have ph5 := of_decide_eq_false h5
            refine WPL.guardT rfl rfl h5 ?_
            refine WPL.mv (v := .slice _ _ _) rfl rfl ?_
            refine WPL.guardT rfl rfl h5 ?_
            refine WPL.len rfl rfl ?_
            refine WPL.guardT rfl rfl h5 ?_
            refine WPL.gt rfl rfl rfl ?_
            refine WPL.pkF (v := .bool _) rfl h5 rfl rfl ?_
            refine WPL.nil ?_
            refine WP.condP rfl (fun h6 => ?_) (fun h6 => ?_)
            · exact absurd h6 (by omega)
            · refine WP.skip ?_
              refine WP.seq ?_
              refine WP.rs ?_
              refine WPL.fa rfl rfl ?_
              refine WPL.ldL rfl hO inferInstance rfl rfl rfl ?_
              refine WPL.fa rfl rfl ?_
              refine WPL.ldL rfl hO inferInstance rfl rfl rfl ?_
              refine WPL.eqB rfl rfl rfl ?_
              refine WPL.nil ?_
              refine WP.condB rfl (fun h7 => ?_) (fun h7 => ?_)
              · refine WP.seq ?_
                refine WP.draw [(0, 0), (1, 1), (2, 0), (3, 0), (5, 0), (4, 2), (6, 2), (7, 0), (8, 0), (9, 2), (10, 0)] [9] mixed (by kernel_rfl) (by kernel_rfl) rfl hO (fun w hO => ?_)
                refine WPD.pv rfl rfl (fun w k' h => WPL.fa rfl rfl (WPL.nil h)) ?_
                refine WPD.val rfl rfl (fun w hO k' h => WPL.ldL rfl hO inferInstance rfl rfl rfl (WPL.nil h)) ?_
                refine WPD.pv rfl rfl (fun w k' h => WPL.mv (v := .slice _ _ _) rfl rfl (WPL.nil h)) ?_
                refine WPD.pv rfl rfl (fun w k' h => WPL.mv (v := .slice _ _ _) rfl rfl (WPL.nil h)) ?_
                refine WPD.pv rfl rfl (fun w k' h => WPL.mv (v := .int .i64 _) rfl rfl (WPL.nil h)) ?_
                refine WPD.eff rfl hO ?_
                refine WPL.call rfl (r2_Plus a51 (dig (shiftN D1.m (D1.e - min D1.e D2.e))) _ hO.rd (dig_wd _) (val_dig _) hc51 rfl (by omega) a58 (dig (shiftN D2.m (D2.e - min D1.e D2.e))) _ hO.rd (dig_wd _) (val_dig _) hc58 rfl (by omega)) Tryz.func71 rfl rfl rfl ?_
                rintro _ w ⟨hf77, a77, c77, rfl, hc77, hr77⟩
                have hO := hO.res hf77 hr77
                refine WPL.nil ?_
                refine WPD.eff rfl (Own.dropR hO) ?_
                have hba := blen_add (k := 262143) (a := shiftN D1.m (D1.e - min D1.e D2.e)) (b := shiftN D2.m (D2.e - min D1.e D2.e)) (by omega) (by omega)
                have hlt := len_blen (k := 8192) (show blen (shiftN D1.m (D1.e - min D1.e D2.e) + shiftN D2.m (D2.e - min D1.e D2.e)) ≤ 32 * 8192 by omega)
                refine WPL.call rfl (r3_told (D1.s) a77 (dig (shiftN D1.m (D1.e - min D1.e D2.e) + shiftN D2.m (D2.e - min D1.e D2.e))) _ hO.rd (dig_wd _) (val_dig _) (by assumption) rfl (by omega) (min D1.e D2.e) (by omega) (by omega)) Tryz.func70 rfl rfl rfl ?_
                rintro _ w ⟨hf79, a79, c79, rfl, hc79, hr79⟩
                obtain ⟨G79, hG79, hO⟩ := hO.resL hf79 hr79
                unfold dyV
                refine WPL.nil ?_
                refine WPD.pv rfl rfl (fun w k' h => WPL.ext (v := .agg #[.bool _, .slice _ _ _, .int .i64 _]) rfl rfl rfl (WPL.nil h)) ?_
                refine WPD.pv rfl rfl (fun w k' h => WPL.ext (v := .int .i64 _) rfl rfl rfl (WPL.nil h)) ?_
                refine WPD.eff rfl (Own.dropR (Own.drop hO)) ?_
                refine WPL.stLA (T := T46) rfl rfl hO inferInstance inferInstance (by simp [Value.oneCell']) rfl rfl (fun w hO => ?_)
                refine WPL.nil ?_
                refine WPD.pv rfl rfl (fun w k' h => WPL.as (v := .int .i64 _) rfl rfl (WPL.nil h)) ?_
                refine WPD.nilX (by kernel_rfl) ?_
                refine WP.ret ?_
                refine ⟨rfl, ?_⟩
                refine RO.cell (T := T46) [.bool _, .slice _ _ _, .int .i64 _] rfl hO inferInstance rfl agg46 rfl ?_
                refine RO.tmp (v := .int .i64 _) rfl ?_
                refine RO.nil ?_
                have e1 : D1.m ≠ 0 := fun e => h3 (by rw [e, dig_zero]; rfl)
                have e2 : D2.m ≠ 0 := fun e => h4 (by rw [e, dig_zero]; rfl)
                first
                | (rw [Dy.add_same e1 e2 (by simpa using h7)]
                   exact ⟨hO.fr, a79, c79, rfl, hc79, hO.giveG hG79⟩)
                | (rw [Dy.add_ge e1 e2 (by simpa using h7) (by omega)]
                   exact ⟨hO.fr, a92, c92, rfl, hc92, hO.giveG hG92⟩)
                | (rw [Dy.add_lt e1 e2 (by simpa using h7) hlt0]
                   exact ⟨hO.fr, a101, c101, rfl, hc101, hO.giveG hG101⟩)
              · refine WP.skip ?_
                refine WP.seq ?_
                refine WP.rs ?_
                refine WPL.mv (v := .slice _ _ _) rfl rfl ?_
                refine WPL.mv (v := .slice _ _ _) rfl rfl ?_
                refine WPL.call rfl (r2_Cmp a51 (dig (shiftN D1.m (D1.e - min D1.e D2.e))) _ hO.rd (dig_wd _) (val_dig _) hc51 rfl (by omega) a58 (dig (shiftN D2.m (D2.e - min D1.e D2.e))) _ hO.rd (dig_wd _) (val_dig _) hc58 rfl (by omega)) Tryz.func72 rfl rfl rfl ?_
                rintro _ w ⟨rfl, hf84⟩
                have hO := hO.call hf84
                refine WPL.ge rfl rfl rfl ?_
                refine WPL.nil ?_
                refine WP.condP rfl (fun h8 => ?_) (fun h8 => ?_)
                · refine WP.seq ?_
                  refine WP.draw [(0, 0), (1, 1), (2, 0), (3, 0), (5, 0), (4, 2), (6, 2), (7, 0), (8, 0), (9, 2), (10, 0)] [9] mixed (by kernel_rfl) (by kernel_rfl) rfl hO (fun w hO => ?_)
                  refine WPD.pv rfl rfl (fun w k' h => WPL.fa rfl rfl (WPL.nil h)) ?_
                  refine WPD.val rfl rfl (fun w hO k' h => WPL.ldL rfl hO inferInstance rfl rfl rfl (WPL.nil h)) ?_
                  refine WPD.pv rfl rfl (fun w k' h => WPL.mv (v := .slice _ _ _) rfl rfl (WPL.nil h)) ?_
                  refine WPD.pv rfl rfl (fun w k' h => WPL.mv (v := .slice _ _ _) rfl rfl (WPL.nil h)) ?_
                  refine WPD.pv rfl rfl (fun w k' h => WPL.mv (v := .int .i64 _) rfl rfl (WPL.nil h)) ?_
                  refine WPD.eff rfl hO ?_
                  have hle : shiftN D2.m (D2.e - min D1.e D2.e) ≤ shiftN D1.m (D1.e - min D1.e D2.e) := by
                    rcases Nat.lt_or_ge (shiftN D1.m (D1.e - min D1.e D2.e)) (shiftN D2.m (D2.e - min D1.e D2.e)) with h | h
                    · rw [cmpN_lt h] at *; omega
                    · exact h
                  refine WPL.call rfl (r2_Minus a51 (dig (shiftN D1.m (D1.e - min D1.e D2.e))) _ hO.rd (dig_wd _) (val_dig _) hc51 rfl (by omega) a58 (dig (shiftN D2.m (D2.e - min D1.e D2.e))) _ hO.rd (dig_wd _) (val_dig _) hc58 rfl (by omega) hle (len_mono hle)) Tryz.func73 rfl rfl rfl ?_
                  rintro _ w ⟨hf90, a90, c90, rfl, hc90, hr90⟩
                  have hO := hO.res hf90 hr90
                  refine WPL.nil ?_
                  refine WPD.eff rfl (Own.dropR hO) ?_
                  have hbm := blen_mono (Nat.sub_le (shiftN D1.m (D1.e - min D1.e D2.e)) (shiftN D2.m (D2.e - min D1.e D2.e)))
                  have hlt := len_blen (k := 8192) (show blen (shiftN D1.m (D1.e - min D1.e D2.e) - shiftN D2.m (D2.e - min D1.e D2.e)) ≤ 32 * 8192 by omega)
                  refine WPL.call rfl (r3_told (D1.s) a90 (dig (shiftN D1.m (D1.e - min D1.e D2.e) - shiftN D2.m (D2.e - min D1.e D2.e))) _ hO.rd (dig_wd _) (val_dig _) (by assumption) rfl (by omega) (min D1.e D2.e) (by omega) (by omega)) Tryz.func70 rfl rfl rfl ?_
                  rintro _ w ⟨hf92, a92, c92, rfl, hc92, hr92⟩
                  obtain ⟨G92, hG92, hO⟩ := hO.resL hf92 hr92
                  unfold dyV
                  refine WPL.nil ?_
                  refine WPD.pv rfl rfl (fun w k' h => WPL.ext (v := .agg #[.bool _, .slice _ _ _, .int .i64 _]) rfl rfl rfl (WPL.nil h)) ?_
                  refine WPD.pv rfl rfl (fun w k' h => WPL.ext (v := .int .i64 _) rfl rfl rfl (WPL.nil h)) ?_
                  refine WPD.eff rfl (Own.dropR (Own.drop hO)) ?_
                  refine WPL.stLA (T := T46) rfl rfl hO inferInstance inferInstance (by simp [Value.oneCell']) rfl rfl (fun w hO => ?_)
                  refine WPL.nil ?_
                  refine WPD.pv rfl rfl (fun w k' h => WPL.as (v := .int .i64 _) rfl rfl (WPL.nil h)) ?_
                  refine WPD.nilX (by kernel_rfl) ?_
                  refine WP.ret ?_
                  refine ⟨rfl, ?_⟩
                  refine RO.cell (T := T46) [.bool _, .slice _ _ _, .int .i64 _] rfl hO inferInstance rfl agg46 rfl ?_
                  refine RO.tmp (v := .int .i64 _) rfl ?_
                  refine RO.nil ?_
                  have e1 : D1.m ≠ 0 := fun e => h3 (by rw [e, dig_zero]; rfl)
                  have e2 : D2.m ≠ 0 := fun e => h4 (by rw [e, dig_zero]; rfl)
                  first
                  | (rw [Dy.add_same e1 e2 (by simpa using h7)]
                     exact ⟨hO.fr, a79, c79, rfl, hc79, hO.giveG hG79⟩)
                  | (rw [Dy.add_ge e1 e2 (by simpa using h7) (by omega)]
                     exact ⟨hO.fr, a92, c92, rfl, hc92, hO.giveG hG92⟩)
                  | (rw [Dy.add_lt e1 e2 (by simpa using h7) hlt0]
                     exact ⟨hO.fr, a101, c101, rfl, hc101, hO.giveG hG101⟩)
                · refine WP.skip ?_
                  refine WP.seq ?_
                  refine WP.draw [(0, 0), (1, 1), (2, 0), (3, 0), (5, 0), (4, 2), (6, 2), (7, 0), (8, 0), (9, 2), (10, 0)] [9] mixed (by kernel_rfl) (by kernel_rfl) rfl hO (fun w hO => ?_)
                  refine WPD.pv rfl rfl (fun w k' h => WPL.fa rfl rfl (WPL.nil h)) ?_
                  refine WPD.val rfl rfl (fun w hO k' h => WPL.ldL rfl hO inferInstance rfl rfl rfl (WPL.nil h)) ?_
                  refine WPD.pv rfl rfl (fun w k' h => WPL.mv (v := .slice _ _ _) rfl rfl (WPL.nil h)) ?_
                  refine WPD.pv rfl rfl (fun w k' h => WPL.mv (v := .slice _ _ _) rfl rfl (WPL.nil h)) ?_
                  refine WPD.pv rfl rfl (fun w k' h => WPL.mv (v := .int .i64 _) rfl rfl (WPL.nil h)) ?_
                  refine WPD.eff rfl hO ?_
                  have hlt0 : shiftN D1.m (D1.e - min D1.e D2.e) < shiftN D2.m (D2.e - min D1.e D2.e) := by
                    rcases Nat.lt_or_ge (shiftN D1.m (D1.e - min D1.e D2.e)) (shiftN D2.m (D2.e - min D1.e D2.e)) with h | h
                    · exact h
                    · exfalso
                      rcases Nat.lt_or_ge (shiftN D2.m (D2.e - min D1.e D2.e)) (shiftN D1.m (D1.e - min D1.e D2.e)) with h' | h'
                      · rw [cmpN_gt h'] at *; omega
                      · rw [cmpN_eq (Nat.le_antisymm h' h)] at *; omega
                  have hle := Nat.le_of_lt hlt0
                  refine WPL.call rfl (r2_Minus a58 (dig (shiftN D2.m (D2.e - min D1.e D2.e))) _ hO.rd (dig_wd _) (val_dig _) hc58 rfl (by omega) a51 (dig (shiftN D1.m (D1.e - min D1.e D2.e))) _ hO.rd (dig_wd _) (val_dig _) hc51 rfl (by omega) hle (len_mono hle)) Tryz.func73 rfl rfl rfl ?_
                  rintro _ w ⟨hf99, a99, c99, rfl, hc99, hr99⟩
                  have hO := hO.res hf99 hr99
                  refine WPL.nil ?_
                  refine WPD.eff rfl (Own.dropR hO) ?_
                  have hbm := blen_mono (Nat.sub_le (shiftN D2.m (D2.e - min D1.e D2.e)) (shiftN D1.m (D1.e - min D1.e D2.e)))
                  have hlt := len_blen (k := 8192) (show blen (shiftN D2.m (D2.e - min D1.e D2.e) - shiftN D1.m (D1.e - min D1.e D2.e)) ≤ 32 * 8192 by omega)
                  refine WPL.call rfl (r3_told (D2.s) a99 (dig (shiftN D2.m (D2.e - min D1.e D2.e) - shiftN D1.m (D1.e - min D1.e D2.e))) _ hO.rd (dig_wd _) (val_dig _) (by assumption) rfl (by omega) (min D1.e D2.e) (by omega) (by omega)) Tryz.func70 rfl rfl rfl ?_
                  rintro _ w ⟨hf101, a101, c101, rfl, hc101, hr101⟩
                  obtain ⟨G101, hG101, hO⟩ := hO.resL hf101 hr101
                  unfold dyV
                  refine WPL.nil ?_
                  refine WPD.pv rfl rfl (fun w k' h => WPL.ext (v := .agg #[.bool _, .slice _ _ _, .int .i64 _]) rfl rfl rfl (WPL.nil h)) ?_
                  refine WPD.pv rfl rfl (fun w k' h => WPL.ext (v := .int .i64 _) rfl rfl rfl (WPL.nil h)) ?_
                  refine WPD.eff rfl (Own.dropR (Own.drop hO)) ?_
                  refine WPL.stLA (T := T46) rfl rfl hO inferInstance inferInstance (by simp [Value.oneCell']) rfl rfl (fun w hO => ?_)
                  refine WPL.nil ?_
                  refine WPD.pv rfl rfl (fun w k' h => WPL.as (v := .int .i64 _) rfl rfl (WPL.nil h)) ?_
                  refine WPD.nilX (by kernel_rfl) ?_
                  refine WP.ret ?_
                  refine ⟨rfl, ?_⟩
                  refine RO.cell (T := T46) [.bool _, .slice _ _ _, .int .i64 _] rfl hO inferInstance rfl agg46 rfl ?_
                  refine RO.tmp (v := .int .i64 _) rfl ?_
                  refine RO.nil ?_
                  have e1 : D1.m ≠ 0 := fun e => h3 (by rw [e, dig_zero]; rfl)
                  have e2 : D2.m ≠ 0 := fun e => h4 (by rw [e, dig_zero]; rfl)
                  first
                  | (rw [Dy.add_same e1 e2 (by simpa using h7)]
                     exact ⟨hO.fr, a79, c79, rfl, hc79, hO.giveG hG79⟩)
                  | (rw [Dy.add_ge e1 e2 (by simpa using h7) (by omega)]
                     exact ⟨hO.fr, a92, c92, rfl, hc92, hO.giveG hG92⟩)
                  | (rw [Dy.add_lt e1 e2 (by simpa using h7) hlt0]
                     exact ⟨hO.fr, a101, c101, rfl, hc101, hO.giveG hG101⟩)

theorem r3_Against_ge {w0 : World} (a : Option Addr) (l : List Nat) (c : Nat) {n N : Nat} (hr : RowOk w0 [] ⟨a, ws .u32 l⟩) (hw : Wd l) (hN : val l = N) (hc : l.length ≤ c) (hn : n = l.length) (hb : l.length ≤ 1000000)(a2 : Option Addr) (l2 : List Nat) (c2 : Nat) {n2 N2 : Nat} (hr2 : RowOk w0 [] ⟨a2, ws .u32 l2⟩) (hw2 : Wd l2) (hN2 : val l2 = N2) (hc2 : l2.length ≤ c2) (hn2 : n2 = l2.length) (hb2 : l2.length ≤ 1000000) (e f : Int) (he : -10000000 ≤ e ∧ e ≤ 10000000) (hf : -10000000 ≤ f ∧ f ≤ 10000000) (hge : f ≤ e) : Spec Tryz.prog 93 [.slice a n c, .int .i64 e, .slice a2 n2 c2, .int .i64 f] w0 (fun v w' => FrX [] w0 w' ∧ v = .int .i64 (cmpD N e N2 f)) := by
  subst hn hn2
  have hO : Own [] w0 [] [] [⟨a, ws .u32 l⟩, ⟨a2, ws .u32 l2⟩] w0 := Own.start (by intro e he; cases he) (by
      simp only [List.mem_cons, List.not_mem_nil, or_false]
      rintro r (rfl | rfl)
      · exact hr
      · exact hr2)
  have hbn := blen_len N
  have hbn2 := blen_len N2
  have hdl := dig_length_le hw
  have hdl2 := dig_length_le hw2
  rw [hN] at hdl
  rw [hN2] at hdl2
  refine Spec.enter (n := 61) (rs := [.tmp 8]) Tryz.func93 rfl rfl rfl rfl ?_
  refine WP.rs ?_
  refine WPL.as (v := .int .i64 0) rfl rfl ?_
  refine WPL.nil ?_
  refine WP.rs ?_
  refine WPL.mv (v := .slice _ _ _) rfl rfl ?_
  refine WPL.call rfl (r2_Len a l _ hO.rd hw hN hc rfl (by omega)) Tryz.func67 rfl rfl rfl ?_
  rintro _ _ ⟨rfl, rfl⟩
  refine WPL.cv_u64 (a := blen N) rfl (by omega) rfl ?_
  refine WPL.as (v := .int .u64 _) rfl rfl ?_
  refine WPL.nil ?_
  refine WP.rs ?_
  refine WPL.mv (v := .slice _ _ _) rfl rfl ?_
  refine WPL.call rfl (r2_Len a2 l2 _ hO.rd hw2 hN2 hc2 rfl (by omega)) Tryz.func67 rfl rfl rfl ?_
  rintro _ _ ⟨rfl, rfl⟩
  refine WPL.cv_u64 (a := blen N2) rfl (by omega) rfl ?_
  refine WPL.as (v := .int .u64 _) rfl rfl ?_
  refine WPL.nil ?_
  refine WP.seq ?_
  refine WP.rs ?_
  refine WPL.mv (v := .int .u64 _) rfl rfl ?_
  refine WPL.eq rfl rfl rfl ?_
  refine WPL.mv (v := .bool _) rfl rfl ?_
  refine WPL.split (s := 20) rfl (fun h1 => ?_) (fun h1 => ?_)
  · have ph1 := of_decide_eq_true h1
    refine WPL.guardF rfl rfl rfl h1 ?_
    refine WPL.guardF rfl rfl rfl h1 ?_
    refine WPL.pkT (v := .bool true) rfl h1 rfl rfl ?_
    refine WPL.nil ?_
    refine WP.cT rfl rfl ?_
    refine WP.rs ?_
    refine WPL.mv (v := .slice _ _ _) rfl rfl ?_
    refine WPL.mv (v := .slice _ _ _) rfl rfl ?_
    refine WPL.call rfl (r2_Cmp a l _ hO.rd hw hN hc rfl (by omega) a2 l2 _ hO.rd hw2 hN2 hc2 rfl (by omega)) Tryz.func72 rfl rfl rfl ?_
    rintro _ w ⟨rfl, hf26⟩
    have hO := hO.call hf26
    refine WPL.as (v := .int .i64 _) rfl rfl ?_
    refine WPL.nil ?_
    refine WP.ret ?_
    refine ⟨rfl, ?_⟩
    refine RO.tmp (v := .int .i64 _) rfl ?_
    refine RO.nil ?_
    first
    | (have hz : N = 0 := blen_eq_zero (by omega)
       exact ⟨hO.fr, by rw [cmpD_zero (.inl hz)]; rfl⟩)
    | (have hz : N2 = 0 := blen_eq_zero (by omega)
       exact ⟨hO.fr, by rw [cmpD_zero (.inr hz)]; rfl⟩)
    | (have hz : N ≠ 0 := fun hz => ph1 (by rw [hz]; rfl)
       first
       | exact ⟨hO.fr, by rw [cmpD_hi hge hz (by omega)]; rfl⟩
       | exact ⟨hO.fr, by rw [cmpD_lo hge hz (by omega)]; rfl⟩
       | exact ⟨hO.fr, by rw [cmpD_ge hge]; rfl⟩)
  · have ph1 := of_decide_eq_false h1
    refine WPL.guardT rfl rfl h1 ?_
    refine WPL.mv (v := .int .u64 _) rfl rfl ?_
    refine WPL.guardT rfl rfl h1 ?_
    refine WPL.eq rfl rfl rfl ?_
    refine WPL.pkF (v := .bool _) rfl h1 rfl rfl ?_
    refine WPL.nil ?_
    refine WP.condP rfl (fun h2 => ?_) (fun h2 => ?_)
    · refine WP.rs ?_
      refine WPL.mv (v := .slice _ _ _) rfl rfl ?_
      refine WPL.mv (v := .slice _ _ _) rfl rfl ?_
      refine WPL.call rfl (r2_Cmp a l _ hO.rd hw hN hc rfl (by omega) a2 l2 _ hO.rd hw2 hN2 hc2 rfl (by omega)) Tryz.func72 rfl rfl rfl ?_
      rintro _ w ⟨rfl, hf26⟩
      have hO := hO.call hf26
      refine WPL.as (v := .int .i64 _) rfl rfl ?_
      refine WPL.nil ?_
      refine WP.ret ?_
      refine ⟨rfl, ?_⟩
      refine RO.tmp (v := .int .i64 _) rfl ?_
      refine RO.nil ?_
      first
      | (have hz : N = 0 := blen_eq_zero (by omega)
         exact ⟨hO.fr, by rw [cmpD_zero (.inl hz)]; rfl⟩)
      | (have hz : N2 = 0 := blen_eq_zero (by omega)
         exact ⟨hO.fr, by rw [cmpD_zero (.inr hz)]; rfl⟩)
      | (have hz : N ≠ 0 := fun hz => ph1 (by rw [hz]; rfl)
         first
         | exact ⟨hO.fr, by rw [cmpD_hi hge hz (by omega)]; rfl⟩
         | exact ⟨hO.fr, by rw [cmpD_lo hge hz (by omega)]; rfl⟩
         | exact ⟨hO.fr, by rw [cmpD_ge hge]; rfl⟩)
    · refine WP.skip ?_
      refine WP.seq ?_
      refine WP.rs ?_
      refine WPL.mv (v := .int .i64 _) rfl rfl ?_
      refine WPL.mv (v := .int .i64 _) rfl rfl ?_
      refine WPL.lt rfl rfl rfl ?_
      refine WPL.nil ?_
      refine WP.condP rfl (fun h3 => ?_) (fun h3 => ?_)
      · exact absurd h3 (by omega)
      · refine WP.skip ?_
        refine WP.rs ?_
        refine WPL.mv (v := .int .i64 _) rfl rfl ?_
        refine WPL.cm_u64I rfl rfl ?_
        refine WPL.mv (v := .int .i64 _) rfl rfl ?_
        refine WPL.cm_u64I rfl rfl ?_
        refine WPL.sub_u64 rfl rfl (by omega) rfl ?_
        have ed : ((e % 18446744073709551616).toNat + 18446744073709551616 - (f % 18446744073709551616).toNat) % 18446744073709551616 = (e - f).toNat := by omega
        rw [ed]
        refine WPL.as (v := .int .u64 _) rfl rfl ?_
        refine WPL.nil ?_
        refine WP.seq ?_
        refine WP.rs ?_
        refine WPL.mv (v := .int .u64 _) rfl rfl ?_
        refine WPL.gt rfl rfl rfl ?_
        refine WPL.mv (v := .bool _) rfl rfl ?_
        refine WPL.split (s := 43) rfl (fun h4 => ?_) (fun h4 => ?_)
        · have ph4 := of_decide_eq_true h4
          exact absurd (of_decide_eq_true h4) (by omega)
        · have ph4 := of_decide_eq_false h4
          refine WPL.guardT rfl rfl h4 ?_
          refine WPL.mv (v := .int .u64 _) rfl rfl ?_
          refine WPL.guardT rfl rfl h4 ?_
          refine WPL.mv (v := .int .u64 _) rfl rfl ?_
          refine WPL.guardT rfl rfl h4 ?_
          refine WPL.u64To (blen N + (e - f).toNat) (.inr (.inl rfl)) rfl rfl (.inr (.inl ⟨rfl, rfl⟩)) (by omega) rfl ?_
          refine WPL.guardT rfl rfl h4 ?_
          refine WPL.mv (v := .int .u64 _) rfl rfl ?_
          refine WPL.guardT rfl rfl h4 ?_
          refine WPL.gt rfl rfl rfl ?_
          refine WPL.pkF (v := .bool _) rfl h4 rfl rfl ?_
          refine WPL.nil ?_
          refine WP.condP rfl (fun h5 => ?_) (fun h5 => ?_)
          · refine WP.rs ?_
            refine WPL.as (v := .int .i64 1) rfl rfl ?_
            refine WPL.nil ?_
            refine WP.ret ?_
            refine ⟨rfl, ?_⟩
            refine RO.tmp (v := .int .i64 _) rfl ?_
            refine RO.nil ?_
            first
            | (have hz : N = 0 := blen_eq_zero (by omega)
               exact ⟨hO.fr, by rw [cmpD_zero (.inl hz)]; rfl⟩)
            | (have hz : N2 = 0 := blen_eq_zero (by omega)
               exact ⟨hO.fr, by rw [cmpD_zero (.inr hz)]; rfl⟩)
            | (have hz : N ≠ 0 := fun hz => ph1 (by rw [hz]; rfl)
               first
               | exact ⟨hO.fr, by rw [cmpD_hi hge hz (by omega)]; rfl⟩
               | exact ⟨hO.fr, by rw [cmpD_lo hge hz (by omega)]; rfl⟩
               | exact ⟨hO.fr, by rw [cmpD_ge hge]; rfl⟩)
          · refine WP.skip ?_
            refine WP.seq ?_
            refine WP.rs ?_
            refine WPL.mv (v := .int .u64 _) rfl rfl ?_
            refine WPL.mv (v := .int .u64 _) rfl rfl ?_
            refine WPL.u64To (blen N + (e - f).toNat) (.inr (.inl rfl)) rfl rfl (.inr (.inl ⟨rfl, rfl⟩)) (by omega) rfl ?_
            refine WPL.mv (v := .int .u64 _) rfl rfl ?_
            refine WPL.lt rfl rfl rfl ?_
            refine WPL.nil ?_
            refine WP.condP rfl (fun h6 => ?_) (fun h6 => ?_)
            · refine WP.rs ?_
              refine WPL.as (v := .int .i64 (-1)) rfl rfl ?_
              refine WPL.nil ?_
              refine WP.ret ?_
              refine ⟨rfl, ?_⟩
              refine RO.tmp (v := .int .i64 _) rfl ?_
              refine RO.nil ?_
              first
              | (have hz : N = 0 := blen_eq_zero (by omega)
                 exact ⟨hO.fr, by rw [cmpD_zero (.inl hz)]; rfl⟩)
              | (have hz : N2 = 0 := blen_eq_zero (by omega)
                 exact ⟨hO.fr, by rw [cmpD_zero (.inr hz)]; rfl⟩)
              | (have hz : N ≠ 0 := fun hz => ph1 (by rw [hz]; rfl)
                 first
                 | exact ⟨hO.fr, by rw [cmpD_hi hge hz (by omega)]; rfl⟩
                 | exact ⟨hO.fr, by rw [cmpD_lo hge hz (by omega)]; rfl⟩
                 | exact ⟨hO.fr, by rw [cmpD_ge hge]; rfl⟩)
            · refine WP.skip ?_
              refine WP.rs ?_
              refine WPL.mv (v := .slice _ _ _) rfl rfl ?_
              refine WPL.mv (v := .int .u64 _) rfl rfl ?_
              refine WPL.cv_i64 rfl (by omega) rfl ?_
              have hbm := @blen_mul2 N (e - f).toNat
              have hlm := len_blen (k := 10000000) (show blen (N * 2 ^ (e - f).toNat) ≤ 32 * 10000000 by omega)
              refine WPL.call rfl (r2_Moved a l _ hO.rd hw hN hc rfl (by omega) (((e - f).toNat : Nat) : Int) (by omega) (by omega)) Tryz.func68 rfl rfl rfl ?_
              rintro _ w ⟨hf58, a58, c58, rfl, hc58, hr58⟩
              have es : shiftN N (((e - f).toNat : Nat) : Int) = N * 2 ^ (e - f).toNat := by rw [shiftN_pos (by omega)]; congr 1
              rw [es] at hc58 hr58
              simp only [es]
              have hO := hO.res hf58 hr58
              refine WPL.mv (v := .slice _ _ _) rfl rfl ?_
              refine WPL.call rfl (r2_Cmp a58 (dig (N * 2 ^ (e - f).toNat)) _ hO.rd (dig_wd _) (val_dig _) hc58 rfl (by omega) a2 l2 _ hO.rd hw2 hN2 hc2 rfl (by omega)) Tryz.func72 rfl rfl rfl ?_
              rintro _ w ⟨rfl, hf60⟩
              have hO := hO.call hf60
              refine WPL.as (v := .int .i64 _) rfl rfl ?_
              refine WPL.nil ?_
              refine WP.ret ?_
              refine ⟨rfl, ?_⟩
              refine RO.tmp (v := .int .i64 _) rfl ?_
              refine RO.nil ?_
              first
              | (have hz : N = 0 := blen_eq_zero (by omega)
                 exact ⟨hO.fr, by rw [cmpD_zero (.inl hz)]; rfl⟩)
              | (have hz : N2 = 0 := blen_eq_zero (by omega)
                 exact ⟨hO.fr, by rw [cmpD_zero (.inr hz)]; rfl⟩)
              | (have hz : N ≠ 0 := fun hz => ph1 (by rw [hz]; rfl)
                 first
                 | exact ⟨hO.fr, by rw [cmpD_hi hge hz (by omega)]; rfl⟩
                 | exact ⟨hO.fr, by rw [cmpD_lo hge hz (by omega)]; rfl⟩
                 | exact ⟨hO.fr, by rw [cmpD_ge hge]; rfl⟩)

theorem r3_Against_lt {w0 : World} (a : Option Addr) (l : List Nat) (c : Nat) {n N : Nat} (hr : RowOk w0 [] ⟨a, ws .u32 l⟩) (hw : Wd l) (hN : val l = N) (hc : l.length ≤ c) (hn : n = l.length) (hb : l.length ≤ 1000000)(a2 : Option Addr) (l2 : List Nat) (c2 : Nat) {n2 N2 : Nat} (hr2 : RowOk w0 [] ⟨a2, ws .u32 l2⟩) (hw2 : Wd l2) (hN2 : val l2 = N2) (hc2 : l2.length ≤ c2) (hn2 : n2 = l2.length) (hb2 : l2.length ≤ 1000000) (e f : Int) (he : -10000000 ≤ e ∧ e ≤ 10000000) (hf : -10000000 ≤ f ∧ f ≤ 10000000) (hge : e < f) : Spec Tryz.prog 93 [.slice a n c, .int .i64 e, .slice a2 n2 c2, .int .i64 f] w0 (fun v w' => FrX [] w0 w' ∧ v = .int .i64 (cmpD N e N2 f)) := by
  subst hn hn2
  have hO : Own [] w0 [] [] [⟨a, ws .u32 l⟩, ⟨a2, ws .u32 l2⟩] w0 := Own.start (by intro e he; cases he) (by
      simp only [List.mem_cons, List.not_mem_nil, or_false]
      rintro r (rfl | rfl)
      · exact hr
      · exact hr2)
  have hbn := blen_len N
  have hbn2 := blen_len N2
  have hdl := dig_length_le hw
  have hdl2 := dig_length_le hw2
  rw [hN] at hdl
  rw [hN2] at hdl2
  refine Spec.enter (n := 61) (rs := [.tmp 8]) Tryz.func93 rfl rfl rfl rfl ?_
  refine WP.rs ?_
  refine WPL.as (v := .int .i64 0) rfl rfl ?_
  refine WPL.nil ?_
  refine WP.rs ?_
  refine WPL.mv (v := .slice _ _ _) rfl rfl ?_
  refine WPL.call rfl (r2_Len a l _ hO.rd hw hN hc rfl (by omega)) Tryz.func67 rfl rfl rfl ?_
  rintro _ _ ⟨rfl, rfl⟩
  refine WPL.cv_u64 (a := blen N) rfl (by omega) rfl ?_
  refine WPL.as (v := .int .u64 _) rfl rfl ?_
  refine WPL.nil ?_
  refine WP.rs ?_
  refine WPL.mv (v := .slice _ _ _) rfl rfl ?_
  refine WPL.call rfl (r2_Len a2 l2 _ hO.rd hw2 hN2 hc2 rfl (by omega)) Tryz.func67 rfl rfl rfl ?_
  rintro _ _ ⟨rfl, rfl⟩
  refine WPL.cv_u64 (a := blen N2) rfl (by omega) rfl ?_
  refine WPL.as (v := .int .u64 _) rfl rfl ?_
  refine WPL.nil ?_
  refine WP.seq ?_
  refine WP.rs ?_
  refine WPL.mv (v := .int .u64 _) rfl rfl ?_
  refine WPL.eq rfl rfl rfl ?_
  refine WPL.mv (v := .bool _) rfl rfl ?_
  refine WPL.split (s := 20) rfl (fun h1 => ?_) (fun h1 => ?_)
  · have ph1 := of_decide_eq_true h1
    refine WPL.guardF rfl rfl rfl h1 ?_
    refine WPL.guardF rfl rfl rfl h1 ?_
    refine WPL.pkT (v := .bool true) rfl h1 rfl rfl ?_
    refine WPL.nil ?_
    refine WP.cT rfl rfl ?_
    refine WP.rs ?_
    refine WPL.mv (v := .slice _ _ _) rfl rfl ?_
    refine WPL.mv (v := .slice _ _ _) rfl rfl ?_
    refine WPL.call rfl (r2_Cmp a l _ hO.rd hw hN hc rfl (by omega) a2 l2 _ hO.rd hw2 hN2 hc2 rfl (by omega)) Tryz.func72 rfl rfl rfl ?_
    rintro _ w ⟨rfl, hf26⟩
    have hO := hO.call hf26
    refine WPL.as (v := .int .i64 _) rfl rfl ?_
    refine WPL.nil ?_
    refine WP.ret ?_
    refine ⟨rfl, ?_⟩
    refine RO.tmp (v := .int .i64 _) rfl ?_
    refine RO.nil ?_
    first
    | (have hz : N = 0 := blen_eq_zero (by omega)
       exact ⟨hO.fr, by rw [cmpD_zero (.inl hz)]; rfl⟩)
    | (have hz : N2 = 0 := blen_eq_zero (by omega)
       exact ⟨hO.fr, by rw [cmpD_zero (.inr hz)]; rfl⟩)
    | exact ⟨hO.fr, congrArg (Value.int .i64) (cmpD_swap N N2 e f).symm⟩
  · have ph1 := of_decide_eq_false h1
    refine WPL.guardT rfl rfl h1 ?_
    refine WPL.mv (v := .int .u64 _) rfl rfl ?_
    refine WPL.guardT rfl rfl h1 ?_
    refine WPL.eq rfl rfl rfl ?_
    refine WPL.pkF (v := .bool _) rfl h1 rfl rfl ?_
    refine WPL.nil ?_
    refine WP.condP rfl (fun h2 => ?_) (fun h2 => ?_)
    · refine WP.rs ?_
      refine WPL.mv (v := .slice _ _ _) rfl rfl ?_
      refine WPL.mv (v := .slice _ _ _) rfl rfl ?_
      refine WPL.call rfl (r2_Cmp a l _ hO.rd hw hN hc rfl (by omega) a2 l2 _ hO.rd hw2 hN2 hc2 rfl (by omega)) Tryz.func72 rfl rfl rfl ?_
      rintro _ w ⟨rfl, hf26⟩
      have hO := hO.call hf26
      refine WPL.as (v := .int .i64 _) rfl rfl ?_
      refine WPL.nil ?_
      refine WP.ret ?_
      refine ⟨rfl, ?_⟩
      refine RO.tmp (v := .int .i64 _) rfl ?_
      refine RO.nil ?_
      first
      | (have hz : N = 0 := blen_eq_zero (by omega)
         exact ⟨hO.fr, by rw [cmpD_zero (.inl hz)]; rfl⟩)
      | (have hz : N2 = 0 := blen_eq_zero (by omega)
         exact ⟨hO.fr, by rw [cmpD_zero (.inr hz)]; rfl⟩)
      | exact ⟨hO.fr, congrArg (Value.int .i64) (cmpD_swap N N2 e f).symm⟩
    · refine WP.skip ?_
      refine WP.seq ?_
      refine WP.rs ?_
      refine WPL.mv (v := .int .i64 _) rfl rfl ?_
      refine WPL.mv (v := .int .i64 _) rfl rfl ?_
      refine WPL.lt rfl rfl rfl ?_
      refine WPL.nil ?_
      refine WP.condP rfl (fun h3 => ?_) (fun h3 => ?_)
      · refine WP.rs ?_
        refine WPL.mv (v := .slice _ _ _) rfl rfl ?_
        refine WPL.mv (v := .int .i64 _) rfl rfl ?_
        refine WPL.mv (v := .slice _ _ _) rfl rfl ?_
        refine WPL.mv (v := .int .i64 _) rfl rfl ?_
        have hcd := cmpD_one N2 f N e
        refine WPL.call rfl (r3_Against_ge a2 l2 _ hO.rd hw2 hN2 hc2 rfl hb2 a l _ hO.rd hw hN hc rfl hb f e hf he (by omega)) Tryz.func93 rfl rfl rfl ?_
        rintro _ w ⟨hf34, rfl⟩
        have hO := hO.call hf34
        refine WPL.negI rfl (by omega) rfl ?_
        refine WPL.as (v := .int .i64 _) rfl rfl ?_
        refine WPL.nil ?_
        refine WP.ret ?_
        refine ⟨rfl, ?_⟩
        refine RO.tmp (v := .int .i64 _) rfl ?_
        refine RO.nil ?_
        first
        | (have hz : N = 0 := blen_eq_zero (by omega)
           exact ⟨hO.fr, by rw [cmpD_zero (.inl hz)]; rfl⟩)
        | (have hz : N2 = 0 := blen_eq_zero (by omega)
           exact ⟨hO.fr, by rw [cmpD_zero (.inr hz)]; rfl⟩)
        | exact ⟨hO.fr, congrArg (Value.int .i64) (cmpD_swap N N2 e f).symm⟩
      · exact absurd hge h3

theorem r3_Against {w0 : World} (a : Option Addr) (l : List Nat) (c : Nat) {n N : Nat} (hr : RowOk w0 [] ⟨a, ws .u32 l⟩) (hw : Wd l) (hN : val l = N) (hc : l.length ≤ c) (hn : n = l.length) (hb : l.length ≤ 1000000)(a2 : Option Addr) (l2 : List Nat) (c2 : Nat) {n2 N2 : Nat} (hr2 : RowOk w0 [] ⟨a2, ws .u32 l2⟩) (hw2 : Wd l2) (hN2 : val l2 = N2) (hc2 : l2.length ≤ c2) (hn2 : n2 = l2.length) (hb2 : l2.length ≤ 1000000) (e f : Int) (he : -10000000 ≤ e ∧ e ≤ 10000000) (hf : -10000000 ≤ f ∧ f ≤ 10000000) : Spec Tryz.prog 93 [.slice a n c, .int .i64 e, .slice a2 n2 c2, .int .i64 f] w0 (fun v w' => FrX [] w0 w' ∧ v = .int .i64 (cmpD N e N2 f)) := by
  rcases Int.lt_or_le e f with h | h
  · exact r3_Against_lt a l c hr hw hN hc hn hb a2 l2 c2 hr2 hw2 hN2 hc2 hn2 hb2 e f he hf h
  · exact r3_Against_ge a l c hr hw hN hc hn hb a2 l2 c2 hr2 hw2 hN2 hc2 hn2 hb2 e f he hf h

theorem r3_below {w0 : World} (p : Nat) (low : Int) (inf : Nat) (hG : 24 ≤ p ∧ p ≤ 53 ∧ -1074 ≤ low ∧ low ≤ -149 ∧ inf / 2 ^ (p - 1) ≤ 2047 ∧ 1 < inf ∧ inf < 9223372036854775808)(a : Option Addr) (l : List Nat) (c : Nat) {n N : Nat} (hr : RowOk w0 [] ⟨a, ws .u32 l⟩) (hw : Wd l) (hN : val l = N) (hc : l.length ≤ c) (hn : n = l.length) (hb : l.length ≤ 1000000) (e : Int) (he : -10000000 ≤ e ∧ e ≤ 10000000) : Spec Tryz.prog 92 [.agg #[.int .i64 (p : Int), .int .i64 low, .int .u64 (inf : Int)], .slice a n c, .int .i64 e] w0 (fun v w' => FrX [] w0 w' ∧ ∃ k : Nat, v = .int .u64 (k : Int) ∧ k < inf ∧ cmpD (numM p (k)) (numE p low (k)) N e ≤ 0 ∧ (k + 1 = inf ∨ 0 < cmpD (numM p (k + 1)) (numE p low (k + 1)) N e)) := by
  subst hn
  have hO : Own [] w0 [] [] [⟨a, ws .u32 l⟩] w0 := Own.start (by intro e he; cases he) (by
      simp only [List.mem_cons, List.not_mem_nil, or_false]
      rintro r rfl
      · exact hr)
  have hG4 : 24 ≤ p ∧ p ≤ 53 ∧ -1074 ≤ low ∧ low ≤ -149 := ⟨hG.1, hG.2.1, hG.2.2.1, hG.2.2.2.1⟩
  have hp2 : 2 ^ p ≤ 2 ^ 53 := Nat.pow_le_pow_right (by omega) (by omega)
  have hE : ∀ k, k ≤ inf → low ≤ numE p low k ∧ numE p low k ≤ low + 2047 ∧ blen (numM p k) ≤ 53 ∧ (dig (numM p k)).length ≤ 2 := by
    intro k hk
    have h1 : k / 2 ^ (p - 1) ≤ inf / 2 ^ (p - 1) := Nat.div_le_div_right hk
    have h2 := @numE_low p low k
    have h3 := @numM_lt p k (by omega)
    have h4 : blen (numM p k) ≤ 53 := blen_le.2 (by omega)
    refine ⟨h2, ?_, h4, len_blen (by omega)⟩
    unfold numE; split <;> omega
  refine Spec.enter (n := 37) (rs := [.tmp 6]) Tryz.func92 rfl rfl rfl rfl ?_
  refine WP.rs ?_
  refine WPL.bx (v := .agg #[.int .i64 _, .int .i64 _, .int .u64 _]) rfl rfl hO rfl (fun b1 w hO => ?_)
  refine WPL.as (v := .int .u64 ((0 : Nat) : Int)) rfl rfl ?_
  refine WPL.nil ?_
  refine WP.rs ?_
  refine WPL.as (v := .int .u64 ((0 : Nat) : Int)) rfl rfl ?_
  refine WPL.nil ?_
  refine WP.rs ?_
  refine WPL.fa rfl rfl ?_
  refine WPL.ldL rfl hO inferInstance rfl rfl rfl ?_
  refine WPL.as (v := .int .u64 _) rfl rfl ?_
  refine WPL.nil ?_
  refine WP.seq ?_
  refine WP.block ?_
  refine WP.loop (fun m σ ds w' => ∃ f t : Nat, m = t - f ∧ f < t ∧ t ≤ inf ∧ cmpD (numM p (f)) (numE p low (f)) N e ≤ 0 ∧ (t = inf ∨ 0 < cmpD (numM p (t)) (numE p low (t)) N e) ∧ Has σ [(3, .pointer (some ⟨b1, 0, none⟩)), (1, .slice a l.length c), (2, .int .i64 e), (7, .int .u64 (f : Int)), (8, .int .u64 (t : Int))] ∧ ds = [] ∧ Own [] w0 [] [⟨b1, [.int .i64 (p : Int), .int .i64 low, .int .u64 (inf : Int)], 116⟩] [⟨a, ws .u32 l⟩] w') inf ?_ ?_
  · exact ⟨0, inf, rfl, by omega, Nat.le_refl _, cmpD_num0, .inl rfl, ⟨rfl, rfl, rfl, rfl, rfl, trivial⟩, rfl, hO⟩
  · rintro m σ ds w ⟨f, t, hm, hft, ht, hf, hft2, hH, rfl, hO⟩
    refine WP.reset hH ?_
    refine WP.seq ?_
    refine WP.rs ?_
    refine WPL.mv (v := .int .u64 _) rfl rfl ?_
    refine WPL.mv (v := .int .u64 _) rfl rfl ?_
    refine WPL.u64To (t - f) (.inl rfl) rfl rfl (.inl ⟨rfl, by omega⟩) (by omega) rfl ?_
    refine WPL.gt rfl rfl rfl ?_
    refine WPL.nil ?_
    refine WP.condP rfl (fun h1 => ?_) (fun h1 => ?_)
    · refine WP.skip ?_
      refine WP.block ?_
      refine WP.rs ?_
      refine WPL.mv (v := .int .u64 _) rfl rfl ?_
      refine WPL.mv (v := .int .u64 _) rfl rfl ?_
      refine WPL.u64To (f + t) (.inr (.inl rfl)) rfl rfl (.inr (.inl ⟨rfl, rfl⟩)) (by omega) rfl ?_
      refine WPL.quo_u64 (b := 2) rfl rfl (by omega) (by omega) rfl ?_
      refine WPL.as (v := .int .u64 _) rfl rfl ?_
      refine WPL.nil ?_
      refine WP.rs ?_
      refine WPL.ldLA (T := T116) [.int .i64 _, .int .i64 _, .int .u64 _] rfl hO inferInstance rfl agg116 rfl rfl ?_
      refine WPL.mv (v := .int .u64 _) rfl rfl ?_
      refine WPL.call rfl (r3_Number p low inf hG4 ((f + t) / 2) (by omega)) Tryz.func90 rfl rfl rfl ?_
      rintro _ w ⟨hf25, a25, c25, rfl, hc25, hr25⟩
      have hO := hO.res hf25 hr25
      have hE25 := hE ((f + t) / 2) (by omega)
      refine WPL.mv (v := .tuple #[.slice _ _ _, .int .i64 _]) rfl rfl ?_
      refine WPL.ext (v := .slice _ _ _) rfl rfl rfl ?_
      refine WPL.ext (v := .int .i64 _) rfl rfl rfl ?_
      refine WPL.as (v := .slice _ _ _) rfl rfl ?_
      refine WPL.as (v := .int .i64 _) rfl rfl ?_
      refine WPL.nil ?_
      refine WP.rs ?_
      refine WPL.mv (v := .slice _ _ _) rfl rfl ?_
      refine WPL.mv (v := .int .i64 _) rfl rfl ?_
      refine WPL.mv (v := .slice _ _ _) rfl rfl ?_
      refine WPL.mv (v := .int .i64 _) rfl rfl ?_
      refine WPL.call rfl (r3_Against a25 (dig (numM p ((f + t) / 2))) _ hO.rd (dig_wd _) (val_dig _) hc25 rfl (by omega) a l _ hO.rd hw hN hc rfl hb (numE p low ((f + t) / 2)) e (by omega) he) Tryz.func93 rfl rfl rfl ?_
      rintro _ w ⟨hf32, rfl⟩
      have hO := hO.call hf32
      refine WPL.le rfl rfl rfl ?_
      refine WPL.nil ?_
      refine WP.condP rfl (fun h2 => ?_) (fun h2 => ?_)
      · refine WP.region ?_
        refine WPL.mv (v := .int .u64 _) rfl rfl ?_
        refine WPL.as (v := .int .u64 _) rfl rfl ?_
        refine WPL.nil ?_
        first
        | exact ⟨t - (f + t) / 2, by omega, (f + t) / 2, t, rfl, by omega, ht, by assumption, hft2, ⟨rfl, rfl, rfl, rfl, rfl, trivial⟩, rfl, hO.subR⟩
        | exact ⟨(f + t) / 2 - f, by omega, f, (f + t) / 2, rfl, by omega, by omega, hf, .inr (by omega), ⟨rfl, rfl, rfl, rfl, rfl, trivial⟩, rfl, hO.subR⟩
      · refine WP.region ?_
        refine WPL.mv (v := .int .u64 _) rfl rfl ?_
        refine WPL.as (v := .int .u64 _) rfl rfl ?_
        refine WPL.nil ?_
        first
        | exact ⟨t - (f + t) / 2, by omega, (f + t) / 2, t, rfl, by omega, ht, by assumption, hft2, ⟨rfl, rfl, rfl, rfl, rfl, trivial⟩, rfl, hO.subR⟩
        | exact ⟨(f + t) / 2 - f, by omega, f, (f + t) / 2, rfl, by omega, by omega, hf, .inr (by omega), ⟨rfl, rfl, rfl, rfl, rfl, trivial⟩, rfl, hO.subR⟩
    · refine WP.exit ?_
      refine WP.rs ?_
      refine WPL.mv (v := .int .u64 _) rfl rfl ?_
      refine WPL.as (v := .int .u64 _) rfl rfl ?_
      refine WPL.nil ?_
      refine WP.ret ?_
      refine ⟨rfl, ?_⟩
      refine RO.tmp (v := .int .u64 _) rfl ?_
      refine RO.nil ?_
      obtain rfl : t = f + 1 := by omega
      exact ⟨hO.fr, f, rfl, by omega, hf, hft2⟩

theorem r3_half {w0 : World} (p : Nat) (low : Int) (inf : Nat) (hG : 24 ≤ p ∧ p ≤ 53 ∧ -1074 ≤ low ∧ low ≤ -149 ∧ inf / 2 ^ (p - 1) ≤ 2047 ∧ 1 < inf ∧ inf < 9223372036854775808) (k : Nat) (hk : k < inf)(a : Option Addr) (l : List Nat) (c : Nat) {n N : Nat} (hr : RowOk w0 [] ⟨a, ws .u32 l⟩) (hw : Wd l) (hN : val l = N) (hc : l.length ≤ c) (hn : n = l.length) (hb : l.length ≤ 900000) (e : Int) (he : -10000000 ≤ e ∧ e ≤ 10000000) : Spec Tryz.prog 94 [.agg #[.int .i64 (p : Int), .int .i64 low, .int .u64 (inf : Int)], .int .u64 (k : Int), .slice a n c, .int .i64 e] w0 (fun v w' => FrX [] w0 w' ∧ v = .int .i64 (cmpD (N * 2) e (numM p k + shiftN (numM p (k + 1)) (numE p low (k + 1) - numE p low k)) (numE p low k))) := by
  subst hn
  have hO : Own [] w0 [] [] [⟨a, ws .u32 l⟩] w0 := Own.start (by intro e he; cases he) (by
      simp only [List.mem_cons, List.not_mem_nil, or_false]
      rintro r rfl
      · exact hr)
  have hG4 : 24 ≤ p ∧ p ≤ 53 ∧ -1074 ≤ low ∧ low ≤ -149 := ⟨hG.1, hG.2.1, hG.2.2.1, hG.2.2.2.1⟩
  have hp2 : 2 ^ p ≤ 2 ^ 53 := Nat.pow_le_pow_right (by omega) (by omega)
  have hE : ∀ k, k ≤ inf → low ≤ numE p low k ∧ numE p low k ≤ low + 2047 ∧ blen (numM p k) ≤ 53 ∧ (dig (numM p k)).length ≤ 2 := by
    intro k hk
    have h1 : k / 2 ^ (p - 1) ≤ inf / 2 ^ (p - 1) := Nat.div_le_div_right hk
    have h2 := @numE_low p low k
    have h3 := @numM_lt p k (by omega)
    have h4 : blen (numM p k) ≤ 53 := blen_le.2 (by omega)
    refine ⟨h2, ?_, h4, len_blen (by omega)⟩
    unfold numE; split <;> omega
  have hmono := @numE_mono p k low
  have hstep := @numE_step p k low
  refine Spec.enter (n := 44) (rs := [.tmp 8]) Tryz.func94 rfl rfl rfl rfl ?_
  refine WP.rs ?_
  refine WPL.bx (v := .agg #[.int .i64 _, .int .i64 _, .int .u64 _]) rfl rfl hO rfl (fun b1 w hO => ?_)
  refine WPL.as (v := .int .i64 0) rfl rfl ?_
  refine WPL.nil ?_
  refine WP.rs ?_
  refine WPL.ldLA (T := T116) [.int .i64 _, .int .i64 _, .int .u64 _] rfl hO inferInstance rfl agg116 rfl rfl ?_
  refine WPL.mv (v := .int .u64 _) rfl rfl ?_
  refine WPL.call rfl (r3_Number p low inf hG4 (k) (by omega)) Tryz.func90 rfl rfl rfl ?_
  rintro _ w ⟨hf17, a17, c17, rfl, hc17, hr17⟩
  have hO := hO.res hf17 hr17
  have hE17 := hE (k) (by omega)
  refine WPL.mv (v := .tuple #[.slice _ _ _, .int .i64 _]) rfl rfl ?_
  refine WPL.ext (v := .slice _ _ _) rfl rfl rfl ?_
  refine WPL.ext (v := .int .i64 _) rfl rfl rfl ?_
  refine WPL.as (v := .slice _ _ _) rfl rfl ?_
  refine WPL.as (v := .int .i64 _) rfl rfl ?_
  refine WPL.nil ?_
  refine WP.rs ?_
  refine WPL.ldLA (T := T116) [.int .i64 _, .int .i64 _, .int .u64 _] rfl hO inferInstance rfl agg116 rfl rfl ?_
  refine WPL.mv (v := .int .u64 _) rfl rfl ?_
  refine WPL.u64To (a := k) (b := 1) (k + 1) (.inr (.inl rfl)) rfl rfl (.inr (.inl ⟨rfl, rfl⟩)) (by omega) rfl ?_
  refine WPL.call rfl (r3_Number p low inf hG4 (k + 1) (by omega)) Tryz.func90 rfl rfl rfl ?_
  rintro _ w ⟨hf24, a24, c24, rfl, hc24, hr24⟩
  have hO := hO.res hf24 hr24
  have hE24 := hE (k + 1) (by omega)
  refine WPL.mv (v := .tuple #[.slice _ _ _, .int .i64 _]) rfl rfl ?_
  refine WPL.ext (v := .slice _ _ _) rfl rfl rfl ?_
  refine WPL.ext (v := .int .i64 _) rfl rfl rfl ?_
  refine WPL.as (v := .slice _ _ _) rfl rfl ?_
  refine WPL.as (v := .int .i64 _) rfl rfl ?_
  refine WPL.nil ?_
  refine WP.seq ?_
  refine WP.rs ?_
  refine WPL.mv (v := .int .i64 _) rfl rfl ?_
  refine WPL.mv (v := .int .i64 _) rfl rfl ?_
  refine WPL.lt rfl rfl rfl ?_
  refine WPL.nil ?_
  refine WP.condP rfl (fun h1 => ?_) (fun h1 => ?_)
  · exact absurd h1 (by omega)
  · refine WP.skip ?_
    refine WP.rs ?_
    refine WPL.mv (v := .slice _ _ _) rfl rfl ?_
    refine WPL.mv (v := .slice _ _ _) rfl rfl ?_
    refine WPL.mv (v := .int .i64 _) rfl rfl ?_
    refine WPL.mv (v := .int .i64 _) rfl rfl ?_
    refine WPL.subI rfl rfl (by omega) rfl ?_
    have hbsh := @blen_shift (numM p (k + 1)) (numE p low (k + 1) - numE p low k) (by omega)
    have hlsh := len_blen (k := 3) (show blen (shiftN (numM p (k + 1)) (numE p low (k + 1) - numE p low k)) ≤ 32 * 3 by omega)
    have hbad := blen_add (k := 54) (a := numM p k) (b := shiftN (numM p (k + 1)) (numE p low (k + 1) - numE p low k)) (by omega) (by omega)
    have hlad := len_blen (k := 3) (show blen (numM p k + shiftN (numM p (k + 1)) (numE p low (k + 1) - numE p low k)) ≤ 32 * 3 by omega)
    refine WPL.call rfl (r2_Moved a24 (dig (numM p (k + 1))) _ hO.rd (dig_wd _) (val_dig _) hc24 rfl (by omega) (numE p low (k + 1) - numE p low k) (by omega) (by omega)) Tryz.func68 rfl rfl rfl ?_
    rintro _ w ⟨hf35, a35, c35, rfl, hc35, hr35⟩
    have hO := hO.res hf35 hr35
    refine WPL.call rfl (r2_Plus a17 (dig (numM p k)) _ hO.rd (dig_wd _) (val_dig _) hc17 rfl (by omega) a35 (dig (shiftN (numM p (k + 1)) (numE p low (k + 1) - numE p low k))) _ hO.rd (dig_wd _) (val_dig _) hc35 rfl (by omega)) Tryz.func71 rfl rfl rfl ?_
    rintro _ w ⟨hf36, a36, c36, rfl, hc36, hr36⟩
    have hO := hO.res hf36 hr36
    refine WPL.as (v := .slice _ _ _) rfl rfl ?_
    refine WPL.nil ?_
    refine WP.rs ?_
    refine WPL.mv (v := .slice _ _ _) rfl rfl ?_
    refine WPL.bs1 (pv := [(0, .int .u32 ((2 : Nat) : Int))]) (vs := [_]) rfl hO rfl rfl rfl rfl (fun b2 w hO => ?_)
    have hdl := dig_length_le hw
    rw [hN] at hdl
    have hbn := blen_len N
    have hb2 := @blen_mul N 2
    have hb22 : blen 2 ≤ 32 := blen_le.2 (by decide)
    have hln2 := len_blen (k := 1000000) (show blen (N * 2) ≤ 32 * 1000000 by omega)
    refine WPL.call rfl (r2_Times a l _ hO.rd hw hN hc rfl (by omega) _ [2] _ (hO.rdA (b := b2) inferInstance) (.cons (by decide) .nil) (N2 := 2) (val_one 2) (by simp) rfl (by simp)) Tryz.func45 rfl rfl rfl ?_
    rintro _ w ⟨hf39, a39, c39, rfl, hc39, hr39⟩
    have hO := hO.res hf39 hr39
    refine WPL.mv (v := .int .i64 _) rfl rfl ?_
    refine WPL.mv (v := .slice _ _ _) rfl rfl ?_
    refine WPL.mv (v := .int .i64 _) rfl rfl ?_
    refine WPL.call rfl (r3_Against a39 (dig (N * 2)) _ hO.rd (dig_wd _) (val_dig _) hc39 rfl (by omega) a36 (dig (numM p k + shiftN (numM p (k + 1)) (numE p low (k + 1) - numE p low k))) _ hO.rd (dig_wd _) (val_dig _) hc36 rfl (by omega) e (numE p low k) he (by omega)) Tryz.func93 rfl rfl rfl ?_
    rintro _ w ⟨hf43, rfl⟩
    have hO := hO.call hf43
    refine WPL.as (v := .int .i64 _) rfl rfl ?_
    refine WPL.nil ?_
    refine WP.ret ?_
    refine ⟨rfl, ?_⟩
    refine RO.tmp (v := .int .i64 _) rfl ?_
    refine RO.nil ?_
    exact ⟨hO.fr, rfl⟩

theorem r3_Nearby {w0 : World} (p : Nat) (low : Int) (inf : Nat) (hG : 24 ≤ p ∧ p ≤ 53 ∧ -1074 ≤ low ∧ low ≤ -149 ∧ inf / 2 ^ (p - 1) ≤ 2047 ∧ 1 < inf ∧ inf < 9223372036854775808) (hQ : ∃ Q, 1 ≤ Q ∧ inf = Q * 2 ^ (p - 1)) (d : Dy) (a : Option Addr) (c : Nat) (hr : RowOk w0 [] ⟨a, ws .u32 (dig d.m)⟩) (hc : (dig d.m).length ≤ c) (hk : d.Can) (hb : d.B 200000) (mode : Int) (hm : 0 ≤ mode ∧ mode ≤ 4) : Spec Tryz.prog 66 [.agg #[.int .i64 (p : Int), .int .i64 low, .int .u64 (inf : Int)], .bool d.s, .slice a (dig d.m).length c, .int .i64 d.e, .int .i64 mode] w0 (fun v w' => FrX [] w0 w' ∧ v = .int .u64 ((roundN p low inf mode d : Nat) : Int)) := by
  obtain ⟨Q, hQ1, hQ2⟩ := hQ
  have hO : Own [] w0 [] [] [⟨a, ws .u32 (dig d.m)⟩] w0 := Own.start (by intro e he; cases he) (by
      simp only [List.mem_cons, List.not_mem_nil, or_false]
      rintro r rfl
      · exact hr)
  have hG4 : 24 ≤ p ∧ p ≤ 53 ∧ -1074 ≤ low ∧ low ≤ -149 := ⟨hG.1, hG.2.1, hG.2.2.1, hG.2.2.2.1⟩
  have hp2 : 2 ^ p ≤ 2 ^ 53 := Nat.pow_le_pow_right (by omega) (by omega)
  have hE : ∀ k, k ≤ inf → low ≤ numE p low k ∧ numE p low k ≤ low + 2047 ∧ blen (numM p k) ≤ 53 ∧ (dig (numM p k)).length ≤ 2 := by
    intro k hk
    have h1 : k / 2 ^ (p - 1) ≤ inf / 2 ^ (p - 1) := Nat.div_le_div_right hk
    have h2 := @numE_low p low k
    have h3 := @numM_lt p k (by omega)
    have h4 : blen (numM p k) ≤ 53 := blen_le.2 (by omega)
    refine ⟨h2, ?_, h4, len_blen (by omega)⟩
    unfold numE; split <;> omega
  have hb' := hb
  unfold Dy.B at hb'
  have hl := len_blen (k := 8192) (show blen d.m ≤ 32 * 8192 by omega)
  refine Spec.enter (n := 67) (rs := [.tmp 10]) Tryz.func66 rfl rfl rfl rfl ?_
  refine WP.rs ?_
  refine WPL.bx (v := .agg #[.int .i64 _, .int .i64 _, .int .u64 _]) rfl rfl hO rfl (fun b1 w hO => ?_)
  refine WPL.as (v := .int .u64 ((0 : Nat) : Int)) rfl rfl ?_
  refine WPL.nil ?_
  refine WP.rs ?_
  refine WPL.ldLA (T := T116) [.int .i64 _, .int .i64 _, .int .u64 _] rfl hO inferInstance rfl agg116 rfl rfl ?_
  refine WPL.mv (v := .slice _ _ _) rfl rfl ?_
  refine WPL.mv (v := .int .i64 _) rfl rfl ?_
  refine WPL.call rfl (r3_below p low inf hG a (dig d.m) _ hO.rd (dig_wd _) (val_dig _) hc rfl (by omega) d.e (by omega)) Tryz.func92 rfl rfl rfl ?_
  rintro _ w ⟨hf19, k, rfl, hk1, hk2, hk3⟩
  have hO := hO.call hf19
  have hrr := round_ref (p := p) (low := low) (mode := mode) (by omega) hQ1 hQ2 hk hm hk1 hk2 hk3 rfl numE_mono
  refine WPL.as (v := .int .u64 _) rfl rfl ?_
  refine WPL.nil ?_
  refine WP.rs ?_
  refine WPL.ldLA (T := T116) [.int .i64 _, .int .i64 _, .int .u64 _] rfl hO inferInstance rfl agg116 rfl rfl ?_
  refine WPL.mv (v := .int .u64 _) rfl rfl ?_
  refine WPL.call rfl (r3_Number p low inf hG4 (k) (by omega)) Tryz.func90 rfl rfl rfl ?_
  rintro _ w ⟨hf23, a23, c23, rfl, hc23, hr23⟩
  have hO := hO.res hf23 hr23
  have hE23 := hE (k) (by omega)
  refine WPL.mv (v := .tuple #[.slice _ _ _, .int .i64 _]) rfl rfl ?_
  refine WPL.ext (v := .slice _ _ _) rfl rfl rfl ?_
  refine WPL.ext (v := .int .i64 _) rfl rfl rfl ?_
  refine WPL.as (v := .slice _ _ _) rfl rfl ?_
  refine WPL.as (v := .int .i64 _) rfl rfl ?_
  refine WPL.nil ?_
  refine WP.seq ?_
  refine WP.rs ?_
  refine WPL.mv (v := .slice _ _ _) rfl rfl ?_
  refine WPL.mv (v := .int .i64 _) rfl rfl ?_
  refine WPL.mv (v := .slice _ _ _) rfl rfl ?_
  refine WPL.mv (v := .int .i64 _) rfl rfl ?_
  refine WPL.call rfl (r3_Against a23 (dig (numM p k)) _ hO.rd (dig_wd _) (val_dig _) hc23 rfl (by omega) a (dig d.m) _ hO.rd (dig_wd _) (val_dig _) hc rfl (by omega) (numE p low k) d.e (by omega) (by omega)) Tryz.func93 rfl rfl rfl ?_
  rintro _ w ⟨hf30, rfl⟩
  have hO := hO.call hf30
  refine WPL.eq rfl rfl rfl ?_
  refine WPL.nil ?_
  refine WP.condP rfl (fun h1 => ?_) (fun h1 => ?_)
  · refine WP.rs ?_
    refine WPL.mv (v := .int .u64 _) rfl rfl ?_
    refine WPL.as (v := .int .u64 _) rfl rfl ?_
    refine WPL.nil ?_
    refine WP.ret ?_
    refine ⟨rfl, ?_⟩
    refine RO.tmp (v := .int .u64 _) rfl ?_
    refine RO.nil ?_
    first
    | (rw [if_pos (show cmpD (numM p k) (numE p low k) d.m d.e = 0 by assumption)] at hrr
       exact ⟨hO.fr, by rw [hrr]; rfl⟩)
    | (have ho : onB mode d.s hh k = true := by
         unfold onB
         (repeat' split) <;> first | (exfalso; omega) | assumption | (simp only [Bool.or_eq_true, Bool.and_eq_true, decide_eq_true_eq]; omega) | (simp only [decide_eq_true_eq]; omega) | simp [*]
       rw [if_pos ho] at hrr
       exact ⟨hO.fr, by rw [hrr]; rfl⟩)
    | (have ho : ¬ onB mode d.s hh k = true := by
         unfold onB
         (repeat' split) <;> first | (exfalso; omega) | assumption | (simp only [Bool.or_eq_true, Bool.and_eq_true, decide_eq_true_eq]; omega) | (simp only [decide_eq_true_eq]; omega) | simp [*]
       rw [if_neg ho] at hrr
       exact ⟨hO.fr, by rw [hrr]; rfl⟩)
  · refine WP.skip ?_
    refine WP.rs ?_
    refine WPL.ldLA (T := T116) [.int .i64 _, .int .i64 _, .int .u64 _] rfl hO inferInstance rfl agg116 rfl rfl ?_
    refine WPL.mv (v := .int .u64 _) rfl rfl ?_
    refine WPL.mv (v := .slice _ _ _) rfl rfl ?_
    refine WPL.mv (v := .int .i64 _) rfl rfl ?_
    refine WPL.call rfl (r3_half p low inf hG k hk1 a (dig d.m) _ hO.rd (dig_wd _) (val_dig _) hc rfl (by omega) d.e (by omega)) Tryz.func94 rfl rfl rfl ?_
    rintro _ w ⟨hf37, rfl⟩
    have hO := hO.call hf37
    obtain ⟨hh, hhh⟩ : ∃ hh, hh = cmpD (d.m * 2) d.e (numM p k + shiftN (numM p (k + 1)) (numE p low (k + 1) - numE p low k)) (numE p low k) := ⟨_, rfl⟩
    rw [← hhh] at hrr ⊢
    rw [if_neg (by assumption)] at hrr
    refine WPL.as (v := .int .i64 _) rfl rfl ?_
    refine WPL.nil ?_
    refine WP.rs ?_
    refine WPL.as (v := .bool false) rfl rfl ?_
    refine WPL.nil ?_
    refine WP.seq ?_
    refine WP.rs ?_
    refine WPL.mv (v := .int .i64 _) rfl rfl ?_
    refine WPL.nil ?_
    refine WP.block ?_
    refine WP.rs ?_
    refine WPL.eq rfl rfl rfl ?_
    refine WPL.as (v := .bool _) rfl rfl ?_
    refine WPL.nil ?_
    refine WP.condP rfl (fun h2 => ?_) (fun h2 => ?_)
    · refine WP.region ?_
      refine WPL.mv (v := .int .i64 _) rfl rfl ?_
      refine WPL.gt rfl rfl rfl ?_
      refine WPL.mv (v := .bool _) rfl rfl ?_
      refine WPL.split (s := 43) rfl (fun h3 => ?_) (fun h3 => ?_)
      · have ph3 := of_decide_eq_true h3
        refine WPL.guardF rfl rfl rfl h3 ?_
        refine WPL.guardF rfl rfl rfl h3 ?_
        refine WPL.guardF rfl rfl rfl h3 ?_
        refine WPL.guardU rfl rfl rfl ?_
        refine WPL.guardU rfl rfl rfl ?_
        refine WPL.guardU rfl rfl rfl ?_
        refine WPL.guardF rfl rfl rfl h3 ?_
        refine WPL.pkT (v := .bool true) rfl h3 rfl rfl ?_
        refine WPL.as (v := .bool _) rfl rfl ?_
        refine WPL.nil ?_
        refine WP.seq ?_
        refine WP.rs ?_
        refine WPL.mv (v := .bool _) rfl rfl ?_
        refine WPL.nil ?_
        refine WP.cT rfl rfl ?_
        refine WP.region ?_
        refine WPL.mv (v := .int .u64 _) rfl rfl ?_
        refine WPL.u64To (a := k) (b := 1) (k + 1) (.inr (.inl rfl)) rfl rfl (.inr (.inl ⟨rfl, rfl⟩)) (by omega) rfl ?_
        refine WPL.as (v := .int .u64 _) rfl rfl ?_
        refine WPL.nil ?_
        refine WP.rs ?_
        refine WPL.mv (v := .int .u64 _) rfl rfl ?_
        refine WPL.as (v := .int .u64 _) rfl rfl ?_
        refine WPL.nil ?_
        refine WP.ret ?_
        refine ⟨rfl, ?_⟩
        refine RO.tmp (v := .int .u64 _) rfl ?_
        refine RO.nil ?_
        first
        | (rw [if_pos (show cmpD (numM p k) (numE p low k) d.m d.e = 0 by assumption)] at hrr
           exact ⟨hO.fr, by rw [hrr]; rfl⟩)
        | (have ho : onB mode d.s hh k = true := by
             unfold onB
             (repeat' split) <;> first | (exfalso; omega) | assumption | (simp only [Bool.or_eq_true, Bool.and_eq_true, decide_eq_true_eq]; omega) | (simp only [decide_eq_true_eq]; omega) | simp [*]
           rw [if_pos ho] at hrr
           exact ⟨hO.fr, by rw [hrr]; rfl⟩)
        | (have ho : ¬ onB mode d.s hh k = true := by
             unfold onB
             (repeat' split) <;> first | (exfalso; omega) | assumption | (simp only [Bool.or_eq_true, Bool.and_eq_true, decide_eq_true_eq]; omega) | (simp only [decide_eq_true_eq]; omega) | simp [*]
           rw [if_neg ho] at hrr
           exact ⟨hO.fr, by rw [hrr]; rfl⟩)
      · have ph3 := of_decide_eq_false h3
        refine WPL.guardT rfl rfl h3 ?_
        refine WPL.mv (v := .int .i64 _) rfl rfl ?_
        refine WPL.guardT rfl rfl h3 ?_
        refine WPL.eq rfl rfl rfl ?_
        refine WPL.guardT rfl rfl h3 ?_
        refine WPL.mv (v := .bool _) rfl rfl ?_
        refine WPL.split (s := 46) rfl (fun h4 => ?_) (fun h4 => ?_)
        · have ph4 := of_decide_eq_true h4
          refine WPL.guardT rfl rfl h4 ?_
          refine WPL.mv (v := .int .u64 _) rfl rfl ?_
          refine WPL.guardT rfl rfl h4 ?_
          refine WPL.rem_u64 (a := k) (b := 2) rfl rfl (by omega) rfl ?_
          refine WPL.guardT rfl rfl h4 ?_
          refine WPL.eq rfl rfl rfl ?_
          refine WPL.guardT rfl rfl h3 ?_
          refine WPL.pkT (v := .bool _) rfl h4 rfl rfl ?_
          refine WPL.pkF (v := .bool _) rfl h3 rfl rfl ?_
          refine WPL.as (v := .bool _) rfl rfl ?_
          refine WPL.nil ?_
          refine WP.seq ?_
          refine WP.rs ?_
          refine WPL.mv (v := .bool _) rfl rfl ?_
          refine WPL.nil ?_
          refine WP.condP rfl (fun h5 => ?_) (fun h5 => ?_)
          · refine WP.region ?_
            refine WPL.mv (v := .int .u64 _) rfl rfl ?_
            refine WPL.u64To (a := k) (b := 1) (k + 1) (.inr (.inl rfl)) rfl rfl (.inr (.inl ⟨rfl, rfl⟩)) (by omega) rfl ?_
            refine WPL.as (v := .int .u64 _) rfl rfl ?_
            refine WPL.nil ?_
            refine WP.rs ?_
            refine WPL.mv (v := .int .u64 _) rfl rfl ?_
            refine WPL.as (v := .int .u64 _) rfl rfl ?_
            refine WPL.nil ?_
            refine WP.ret ?_
            refine ⟨rfl, ?_⟩
            refine RO.tmp (v := .int .u64 _) rfl ?_
            refine RO.nil ?_
            first
            | (rw [if_pos (show cmpD (numM p k) (numE p low k) d.m d.e = 0 by assumption)] at hrr
               exact ⟨hO.fr, by rw [hrr]; rfl⟩)
            | (have ho : onB mode d.s hh k = true := by
                 unfold onB
                 (repeat' split) <;> first | (exfalso; omega) | assumption | (simp only [Bool.or_eq_true, Bool.and_eq_true, decide_eq_true_eq]; omega) | (simp only [decide_eq_true_eq]; omega) | simp [*]
               rw [if_pos ho] at hrr
               exact ⟨hO.fr, by rw [hrr]; rfl⟩)
            | (have ho : ¬ onB mode d.s hh k = true := by
                 unfold onB
                 (repeat' split) <;> first | (exfalso; omega) | assumption | (simp only [Bool.or_eq_true, Bool.and_eq_true, decide_eq_true_eq]; omega) | (simp only [decide_eq_true_eq]; omega) | simp [*]
               rw [if_neg ho] at hrr
               exact ⟨hO.fr, by rw [hrr]; rfl⟩)
          · refine WP.skip ?_
            refine WP.rs ?_
            refine WPL.mv (v := .int .u64 _) rfl rfl ?_
            refine WPL.as (v := .int .u64 _) rfl rfl ?_
            refine WPL.nil ?_
            refine WP.ret ?_
            refine ⟨rfl, ?_⟩
            refine RO.tmp (v := .int .u64 _) rfl ?_
            refine RO.nil ?_
            first
            | (rw [if_pos (show cmpD (numM p k) (numE p low k) d.m d.e = 0 by assumption)] at hrr
               exact ⟨hO.fr, by rw [hrr]; rfl⟩)
            | (have ho : onB mode d.s hh k = true := by
                 unfold onB
                 (repeat' split) <;> first | (exfalso; omega) | assumption | (simp only [Bool.or_eq_true, Bool.and_eq_true, decide_eq_true_eq]; omega) | (simp only [decide_eq_true_eq]; omega) | simp [*]
               rw [if_pos ho] at hrr
               exact ⟨hO.fr, by rw [hrr]; rfl⟩)
            | (have ho : ¬ onB mode d.s hh k = true := by
                 unfold onB
                 (repeat' split) <;> first | (exfalso; omega) | assumption | (simp only [Bool.or_eq_true, Bool.and_eq_true, decide_eq_true_eq]; omega) | (simp only [decide_eq_true_eq]; omega) | simp [*]
               rw [if_neg ho] at hrr
               exact ⟨hO.fr, by rw [hrr]; rfl⟩)
        · have ph4 := of_decide_eq_false h4
          refine WPL.guardF rfl rfl rfl h4 ?_
          refine WPL.guardF rfl rfl rfl h4 ?_
          refine WPL.guardF rfl rfl rfl h4 ?_
          refine WPL.guardT rfl rfl h3 ?_
          refine WPL.pkF (v := .bool false) rfl h4 rfl rfl ?_
          refine WPL.pkF (v := .bool _) rfl h3 rfl rfl ?_
          refine WPL.as (v := .bool _) rfl rfl ?_
          refine WPL.nil ?_
          refine WP.seq ?_
          refine WP.rs ?_
          refine WPL.mv (v := .bool _) rfl rfl ?_
          refine WPL.nil ?_
          refine WP.cF rfl rfl ?_
          refine WP.skip ?_
          refine WP.rs ?_
          refine WPL.mv (v := .int .u64 _) rfl rfl ?_
          refine WPL.as (v := .int .u64 _) rfl rfl ?_
          refine WPL.nil ?_
          refine WP.ret ?_
          refine ⟨rfl, ?_⟩
          refine RO.tmp (v := .int .u64 _) rfl ?_
          refine RO.nil ?_
          first
          | (rw [if_pos (show cmpD (numM p k) (numE p low k) d.m d.e = 0 by assumption)] at hrr
             exact ⟨hO.fr, by rw [hrr]; rfl⟩)
          | (have ho : onB mode d.s hh k = true := by
               unfold onB
               (repeat' split) <;> first | (exfalso; omega) | assumption | (simp only [Bool.or_eq_true, Bool.and_eq_true, decide_eq_true_eq]; omega) | (simp only [decide_eq_true_eq]; omega) | simp [*]
             rw [if_pos ho] at hrr
             exact ⟨hO.fr, by rw [hrr]; rfl⟩)
          | (have ho : ¬ onB mode d.s hh k = true := by
               unfold onB
               (repeat' split) <;> first | (exfalso; omega) | assumption | (simp only [Bool.or_eq_true, Bool.and_eq_true, decide_eq_true_eq]; omega) | (simp only [decide_eq_true_eq]; omega) | simp [*]
             rw [if_neg ho] at hrr
             exact ⟨hO.fr, by rw [hrr]; rfl⟩)
    · refine WP.rs ?_
      refine WPL.eq rfl rfl rfl ?_
      refine WPL.as (v := .bool _) rfl rfl ?_
      refine WPL.nil ?_
      refine WP.condP rfl (fun h6 => ?_) (fun h6 => ?_)
      · refine WP.region ?_
        refine WPL.mv (v := .bool _) rfl rfl ?_
        refine WPL.not rfl rfl ?_
        refine WPL.as (v := .bool _) rfl rfl ?_
        refine WPL.nil ?_
        refine WP.seq ?_
        refine WP.rs ?_
        refine WPL.mv (v := .bool _) rfl rfl ?_
        refine WPL.nil ?_
        refine WP.condB rfl (fun h7 => ?_) (fun h7 => ?_)
        · refine WP.region ?_
          refine WPL.mv (v := .int .u64 _) rfl rfl ?_
          refine WPL.u64To (a := k) (b := 1) (k + 1) (.inr (.inl rfl)) rfl rfl (.inr (.inl ⟨rfl, rfl⟩)) (by omega) rfl ?_
          refine WPL.as (v := .int .u64 _) rfl rfl ?_
          refine WPL.nil ?_
          refine WP.rs ?_
          refine WPL.mv (v := .int .u64 _) rfl rfl ?_
          refine WPL.as (v := .int .u64 _) rfl rfl ?_
          refine WPL.nil ?_
          refine WP.ret ?_
          refine ⟨rfl, ?_⟩
          refine RO.tmp (v := .int .u64 _) rfl ?_
          refine RO.nil ?_
          first
          | (rw [if_pos (show cmpD (numM p k) (numE p low k) d.m d.e = 0 by assumption)] at hrr
             exact ⟨hO.fr, by rw [hrr]; rfl⟩)
          | (have ho : onB mode d.s hh k = true := by
               unfold onB
               (repeat' split) <;> first | (exfalso; omega) | assumption | (simp only [Bool.or_eq_true, Bool.and_eq_true, decide_eq_true_eq]; omega) | (simp only [decide_eq_true_eq]; omega) | simp [*]
             rw [if_pos ho] at hrr
             exact ⟨hO.fr, by rw [hrr]; rfl⟩)
          | (have ho : ¬ onB mode d.s hh k = true := by
               unfold onB
               (repeat' split) <;> first | (exfalso; omega) | assumption | (simp only [Bool.or_eq_true, Bool.and_eq_true, decide_eq_true_eq]; omega) | (simp only [decide_eq_true_eq]; omega) | simp [*]
             rw [if_neg ho] at hrr
             exact ⟨hO.fr, by rw [hrr]; rfl⟩)
        · refine WP.skip ?_
          refine WP.rs ?_
          refine WPL.mv (v := .int .u64 _) rfl rfl ?_
          refine WPL.as (v := .int .u64 _) rfl rfl ?_
          refine WPL.nil ?_
          refine WP.ret ?_
          refine ⟨rfl, ?_⟩
          refine RO.tmp (v := .int .u64 _) rfl ?_
          refine RO.nil ?_
          first
          | (rw [if_pos (show cmpD (numM p k) (numE p low k) d.m d.e = 0 by assumption)] at hrr
             exact ⟨hO.fr, by rw [hrr]; rfl⟩)
          | (have ho : onB mode d.s hh k = true := by
               unfold onB
               (repeat' split) <;> first | (exfalso; omega) | assumption | (simp only [Bool.or_eq_true, Bool.and_eq_true, decide_eq_true_eq]; omega) | (simp only [decide_eq_true_eq]; omega) | simp [*]
             rw [if_pos ho] at hrr
             exact ⟨hO.fr, by rw [hrr]; rfl⟩)
          | (have ho : ¬ onB mode d.s hh k = true := by
               unfold onB
               (repeat' split) <;> first | (exfalso; omega) | assumption | (simp only [Bool.or_eq_true, Bool.and_eq_true, decide_eq_true_eq]; omega) | (simp only [decide_eq_true_eq]; omega) | simp [*]
             rw [if_neg ho] at hrr
             exact ⟨hO.fr, by rw [hrr]; rfl⟩)
      · refine WP.rs ?_
        refine WPL.eq rfl rfl rfl ?_
        refine WPL.as (v := .bool _) rfl rfl ?_
        refine WPL.nil ?_
        refine WP.condP rfl (fun h8 => ?_) (fun h8 => ?_)
        · refine WP.region ?_
          refine WPL.mv (v := .bool _) rfl rfl ?_
          refine WPL.as (v := .bool _) rfl rfl ?_
          refine WPL.nil ?_
          refine WP.seq ?_
          refine WP.rs ?_
          refine WPL.mv (v := .bool _) rfl rfl ?_
          refine WPL.nil ?_
          refine WP.condB rfl (fun h9 => ?_) (fun h9 => ?_)
          · refine WP.region ?_
            refine WPL.mv (v := .int .u64 _) rfl rfl ?_
            refine WPL.u64To (a := k) (b := 1) (k + 1) (.inr (.inl rfl)) rfl rfl (.inr (.inl ⟨rfl, rfl⟩)) (by omega) rfl ?_
            refine WPL.as (v := .int .u64 _) rfl rfl ?_
            refine WPL.nil ?_
            refine WP.rs ?_
            refine WPL.mv (v := .int .u64 _) rfl rfl ?_
            refine WPL.as (v := .int .u64 _) rfl rfl ?_
            refine WPL.nil ?_
            refine WP.ret ?_
            refine ⟨rfl, ?_⟩
            refine RO.tmp (v := .int .u64 _) rfl ?_
            refine RO.nil ?_
            first
            | (rw [if_pos (show cmpD (numM p k) (numE p low k) d.m d.e = 0 by assumption)] at hrr
               exact ⟨hO.fr, by rw [hrr]; rfl⟩)
            | (have ho : onB mode d.s hh k = true := by
                 unfold onB
                 (repeat' split) <;> first | (exfalso; omega) | assumption | (simp only [Bool.or_eq_true, Bool.and_eq_true, decide_eq_true_eq]; omega) | (simp only [decide_eq_true_eq]; omega) | simp [*]
               rw [if_pos ho] at hrr
               exact ⟨hO.fr, by rw [hrr]; rfl⟩)
            | (have ho : ¬ onB mode d.s hh k = true := by
                 unfold onB
                 (repeat' split) <;> first | (exfalso; omega) | assumption | (simp only [Bool.or_eq_true, Bool.and_eq_true, decide_eq_true_eq]; omega) | (simp only [decide_eq_true_eq]; omega) | simp [*]
               rw [if_neg ho] at hrr
               exact ⟨hO.fr, by rw [hrr]; rfl⟩)
          · refine WP.skip ?_
            refine WP.rs ?_
            refine WPL.mv (v := .int .u64 _) rfl rfl ?_
            refine WPL.as (v := .int .u64 _) rfl rfl ?_
            refine WPL.nil ?_
            refine WP.ret ?_
            refine ⟨rfl, ?_⟩
            refine RO.tmp (v := .int .u64 _) rfl ?_
            refine RO.nil ?_
            first
            | (rw [if_pos (show cmpD (numM p k) (numE p low k) d.m d.e = 0 by assumption)] at hrr
               exact ⟨hO.fr, by rw [hrr]; rfl⟩)
            | (have ho : onB mode d.s hh k = true := by
                 unfold onB
                 (repeat' split) <;> first | (exfalso; omega) | assumption | (simp only [Bool.or_eq_true, Bool.and_eq_true, decide_eq_true_eq]; omega) | (simp only [decide_eq_true_eq]; omega) | simp [*]
               rw [if_pos ho] at hrr
               exact ⟨hO.fr, by rw [hrr]; rfl⟩)
            | (have ho : ¬ onB mode d.s hh k = true := by
                 unfold onB
                 (repeat' split) <;> first | (exfalso; omega) | assumption | (simp only [Bool.or_eq_true, Bool.and_eq_true, decide_eq_true_eq]; omega) | (simp only [decide_eq_true_eq]; omega) | simp [*]
               rw [if_neg ho] at hrr
               exact ⟨hO.fr, by rw [hrr]; rfl⟩)
        · refine WP.rs ?_
          refine WPL.eq rfl rfl rfl ?_
          refine WPL.as (v := .bool _) rfl rfl ?_
          refine WPL.nil ?_
          refine WP.condP rfl (fun h10 => ?_) (fun h10 => ?_)
          · refine WP.region ?_
            refine WPL.mv (v := .int .i64 _) rfl rfl ?_
            refine WPL.ge rfl rfl rfl ?_
            refine WPL.as (v := .bool _) rfl rfl ?_
            refine WPL.nil ?_
            refine WP.seq ?_
            refine WP.rs ?_
            refine WPL.mv (v := .bool _) rfl rfl ?_
            refine WPL.nil ?_
            refine WP.condP rfl (fun h11 => ?_) (fun h11 => ?_)
            · refine WP.region ?_
              refine WPL.mv (v := .int .u64 _) rfl rfl ?_
              refine WPL.u64To (a := k) (b := 1) (k + 1) (.inr (.inl rfl)) rfl rfl (.inr (.inl ⟨rfl, rfl⟩)) (by omega) rfl ?_
              refine WPL.as (v := .int .u64 _) rfl rfl ?_
              refine WPL.nil ?_
              refine WP.rs ?_
              refine WPL.mv (v := .int .u64 _) rfl rfl ?_
              refine WPL.as (v := .int .u64 _) rfl rfl ?_
              refine WPL.nil ?_
              refine WP.ret ?_
              refine ⟨rfl, ?_⟩
              refine RO.tmp (v := .int .u64 _) rfl ?_
              refine RO.nil ?_
              first
              | (rw [if_pos (show cmpD (numM p k) (numE p low k) d.m d.e = 0 by assumption)] at hrr
                 exact ⟨hO.fr, by rw [hrr]; rfl⟩)
              | (have ho : onB mode d.s hh k = true := by
                   unfold onB
                   (repeat' split) <;> first | (exfalso; omega) | assumption | (simp only [Bool.or_eq_true, Bool.and_eq_true, decide_eq_true_eq]; omega) | (simp only [decide_eq_true_eq]; omega) | simp [*]
                 rw [if_pos ho] at hrr
                 exact ⟨hO.fr, by rw [hrr]; rfl⟩)
              | (have ho : ¬ onB mode d.s hh k = true := by
                   unfold onB
                   (repeat' split) <;> first | (exfalso; omega) | assumption | (simp only [Bool.or_eq_true, Bool.and_eq_true, decide_eq_true_eq]; omega) | (simp only [decide_eq_true_eq]; omega) | simp [*]
                 rw [if_neg ho] at hrr
                 exact ⟨hO.fr, by rw [hrr]; rfl⟩)
            · refine WP.skip ?_
              refine WP.rs ?_
              refine WPL.mv (v := .int .u64 _) rfl rfl ?_
              refine WPL.as (v := .int .u64 _) rfl rfl ?_
              refine WPL.nil ?_
              refine WP.ret ?_
              refine ⟨rfl, ?_⟩
              refine RO.tmp (v := .int .u64 _) rfl ?_
              refine RO.nil ?_
              first
              | (rw [if_pos (show cmpD (numM p k) (numE p low k) d.m d.e = 0 by assumption)] at hrr
                 exact ⟨hO.fr, by rw [hrr]; rfl⟩)
              | (have ho : onB mode d.s hh k = true := by
                   unfold onB
                   (repeat' split) <;> first | (exfalso; omega) | assumption | (simp only [Bool.or_eq_true, Bool.and_eq_true, decide_eq_true_eq]; omega) | (simp only [decide_eq_true_eq]; omega) | simp [*]
                 rw [if_pos ho] at hrr
                 exact ⟨hO.fr, by rw [hrr]; rfl⟩)
              | (have ho : ¬ onB mode d.s hh k = true := by
                   unfold onB
                   (repeat' split) <;> first | (exfalso; omega) | assumption | (simp only [Bool.or_eq_true, Bool.and_eq_true, decide_eq_true_eq]; omega) | (simp only [decide_eq_true_eq]; omega) | simp [*]
                 rw [if_neg ho] at hrr
                 exact ⟨hO.fr, by rw [hrr]; rfl⟩)
          · refine WP.skip ?_
            refine WP.seq ?_
            refine WP.rs ?_
            refine WPL.mv (v := .bool _) rfl rfl ?_
            refine WPL.nil ?_
            refine WP.cF rfl rfl ?_
            refine WP.skip ?_
            refine WP.rs ?_
            refine WPL.mv (v := .int .u64 _) rfl rfl ?_
            refine WPL.as (v := .int .u64 _) rfl rfl ?_
            refine WPL.nil ?_
            refine WP.ret ?_
            refine ⟨rfl, ?_⟩
            refine RO.tmp (v := .int .u64 _) rfl ?_
            refine RO.nil ?_
            first
            | (rw [if_pos (show cmpD (numM p k) (numE p low k) d.m d.e = 0 by assumption)] at hrr
               exact ⟨hO.fr, by rw [hrr]; rfl⟩)
            | (have ho : onB mode d.s hh k = true := by
                 unfold onB
                 (repeat' split) <;> first | (exfalso; omega) | assumption | (simp only [Bool.or_eq_true, Bool.and_eq_true, decide_eq_true_eq]; omega) | (simp only [decide_eq_true_eq]; omega) | simp [*]
               rw [if_pos ho] at hrr
               exact ⟨hO.fr, by rw [hrr]; rfl⟩)
            | (have ho : ¬ onB mode d.s hh k = true := by
                 unfold onB
                 (repeat' split) <;> first | (exfalso; omega) | assumption | (simp only [Bool.or_eq_true, Bool.and_eq_true, decide_eq_true_eq]; omega) | (simp only [decide_eq_true_eq]; omega) | simp [*]
               rw [if_neg ho] at hrr
               exact ⟨hO.fr, by rw [hrr]; rfl⟩)

theorem r3_Round_bad {w0 : World} (d : Dy) (a : Option Addr) (c : Nat) {D : Dy} (hr : RowOk w0 [] ⟨a, ws .u32 (dig d.m)⟩) (hc : (dig d.m).length ≤ c) (hD : d.nf = D) (hb : d.B 100000) (mode : Int) (hm : mode < 0 ∨ 4 < mode) : Spec Tryz.prog 42 [dyV d a c, .int .i64 mode] w0 (fun v w' => FrX [] w0 w' ∧ v = .tuple #[.float .f64 0, .int .i64 1]) := by
  have hO : Own [] w0 [] [] [⟨a, ws .u32 (dig d.m)⟩] w0 := Own.start (by intro e he; cases he) (by
      simp only [List.mem_cons, List.not_mem_nil, or_false]
      rintro r rfl
      · exact hr)
  have hB := Dy.nf_B hb
  have hk := Dy.nf_can d
  rw [hD] at hB hk
  unfold dyV
  refine Spec.enter (n := 37) (rs := [.tmp 4, .tmp 5]) Tryz.func42 rfl rfl rfl rfl ?_
  refine WP.rs ?_
  refine WPL.bx (v := .agg #[.bool _, .slice _ _ _, .int .i64 _]) rfl rfl hO rfl (fun b1 w hO => ?_)
  refine WPL.as (v := .float .f64 0) rfl rfl ?_
  refine WPL.as (v := .int .i64 0) rfl rfl ?_
  refine WPL.nil ?_
  refine WP.seq ?_
  refine WP.rs ?_
  refine WPL.mv (v := .int .i64 _) rfl rfl ?_
  refine WPL.lt rfl rfl rfl ?_
  refine WPL.mv (v := .bool _) rfl rfl ?_
  refine WPL.split (s := 11) rfl (fun h1 => ?_) (fun h1 => ?_)
  · have ph1 := of_decide_eq_true h1
    refine WPL.guardF rfl rfl rfl h1 ?_
    refine WPL.guardF rfl rfl rfl h1 ?_
    refine WPL.pkT (v := .bool true) rfl h1 rfl rfl ?_
    refine WPL.nil ?_
    refine WP.cT rfl rfl ?_
    refine WP.rs ?_
    refine WPL.as (v := .float .f64 0) rfl rfl ?_
    refine WPL.as (v := .int .i64 1) rfl rfl ?_
    refine WPL.nil ?_
    refine WP.ret ?_
    refine ⟨rfl, ?_⟩
    refine RO.tmp (v := .float .f64 _) rfl ?_
    refine RO.tmp (v := .int .i64 _) rfl ?_
    refine RO.nil ?_
    exact ⟨hO.fr, rfl⟩
  · have ph1 := of_decide_eq_false h1
    refine WPL.guardT rfl rfl h1 ?_
    refine WPL.mv (v := .int .i64 _) rfl rfl ?_
    refine WPL.guardT rfl rfl h1 ?_
    refine WPL.gt rfl rfl rfl ?_
    refine WPL.pkF (v := .bool _) rfl h1 rfl rfl ?_
    refine WPL.nil ?_
    refine WP.condP rfl (fun h2 => ?_) (fun h2 => ?_)
    · refine WP.rs ?_
      refine WPL.as (v := .float .f64 0) rfl rfl ?_
      refine WPL.as (v := .int .i64 1) rfl rfl ?_
      refine WPL.nil ?_
      refine WP.ret ?_
      refine ⟨rfl, ?_⟩
      refine RO.tmp (v := .float .f64 _) rfl ?_
      refine RO.tmp (v := .int .i64 _) rfl ?_
      refine RO.nil ?_
      exact ⟨hO.fr, rfl⟩
    · exfalso; omega

theorem r3_Round_ok {w0 : World} (d : Dy) (a : Option Addr) (c : Nat) {D : Dy} (hr : RowOk w0 [] ⟨a, ws .u32 (dig d.m)⟩) (hc : (dig d.m).length ≤ c) (hD : d.nf = D) (hb : d.B 100000) (mode : Int) (hm : 0 ≤ mode ∧ mode ≤ 4) : Spec Tryz.prog 42 [dyV d a c, .int .i64 mode] w0 (fun v w' => FrX [] w0 w' ∧ v = .tuple #[.float .f64 (round64 mode D), .int .i64 0]) := by
  have hO : Own [] w0 [] [] [⟨a, ws .u32 (dig d.m)⟩] w0 := Own.start (by intro e he; cases he) (by
      simp only [List.mem_cons, List.not_mem_nil, or_false]
      rintro r rfl
      · exact hr)
  have hB := Dy.nf_B hb
  have hk := Dy.nf_can d
  rw [hD] at hB hk
  unfold dyV
  have hle : roundN 53 (-1074) 9218868437227405312 mode D ≤ 9218868437227405312 := roundN_le (by decide) ⟨2047, by decide, by decide⟩
  refine Spec.enter (n := 37) (rs := [.tmp 4, .tmp 5]) Tryz.func42 rfl rfl rfl rfl ?_
  refine WP.rs ?_
  refine WPL.bx (v := .agg #[.bool _, .slice _ _ _, .int .i64 _]) rfl rfl hO rfl (fun b1 w hO => ?_)
  refine WPL.as (v := .float .f64 0) rfl rfl ?_
  refine WPL.as (v := .int .i64 0) rfl rfl ?_
  refine WPL.nil ?_
  refine WP.seq ?_
  refine WP.rs ?_
  refine WPL.mv (v := .int .i64 _) rfl rfl ?_
  refine WPL.lt rfl rfl rfl ?_
  refine WPL.mv (v := .bool _) rfl rfl ?_
  refine WPL.split (s := 11) rfl (fun h1 => ?_) (fun h1 => ?_)
  · have ph1 := of_decide_eq_true h1
    exact absurd (of_decide_eq_true h1) (by omega)
  · have ph1 := of_decide_eq_false h1
    refine WPL.guardT rfl rfl h1 ?_
    refine WPL.mv (v := .int .i64 _) rfl rfl ?_
    refine WPL.guardT rfl rfl h1 ?_
    refine WPL.gt rfl rfl rfl ?_
    refine WPL.pkF (v := .bool _) rfl h1 rfl rfl ?_
    refine WPL.nil ?_
    refine WP.condP rfl (fun h2 => ?_) (fun h2 => ?_)
    · exact absurd h2 (by omega)
    · refine WP.skip ?_
      refine WP.rs ?_
      refine WPL.ldLA (T := T46) [.bool _, .slice _ _ _, .int .i64 _] rfl hO inferInstance rfl agg46 rfl rfl ?_
      refine WPL.call rfl (r3_Made d a c hO.rd hc hD (hb.mono (by decide))) Tryz.func65 rfl rfl rfl ?_
      rintro _ w ⟨hfm, p1, q1, rfl, hq1, hrm⟩
      obtain ⟨GG1, hg1, hO⟩ := hO.resL hfm hrm
      unfold dyV
      refine WPL.mv (v := .tuple #[.agg #[.bool _, .slice _ _ _, .int .i64 _], .bool _]) rfl rfl ?_
      refine WPL.ext (v := .agg #[.bool _, .slice _ _ _, .int .i64 _]) rfl rfl rfl ?_
      refine WPL.ext (v := .bool _) rfl rfl rfl ?_
      refine WPL.al hO rfl (fun b2 w hO => ?_)
      refine WPL.stLA (T := T46) rfl rfl hO inferInstance inferInstance (by simp [Value.oneCell']) rfl rfl (fun w hO => ?_)
      refine WPL.as (v := .bool _) rfl rfl ?_
      refine WPL.nil ?_
      refine WP.seq ?_
      refine WP.rs ?_
      refine WPL.mv (v := .bool _) rfl rfl ?_
      refine WPL.not rfl rfl ?_
      refine WPL.nil ?_
      refine WP.condB rfl (fun h3 => ?_) (fun h3 => ?_)
      · exact absurd h3 (by decide)
      · refine WP.skip ?_
        refine WP.seq ?_
        refine WP.draw [(1, 0), (2, 1), (3, 0), (4, 1), (5, 0), (6, 1), (7, 0), (0, 2), (8, 2), (9, 0)] [] mixed (by kernel_rfl) (by kernel_rfl) rfl hO (fun w hO => ?_)
        refine WPD.pv rfl rfl (fun w k' h => WPL.fa rfl rfl (WPL.nil h)) ?_
        refine WPD.val rfl rfl (fun w hO k' h => WPL.ldL rfl hO inferInstance rfl rfl rfl (WPL.nil h)) ?_
        refine WPD.pv rfl rfl (fun w k' h => WPL.fa rfl rfl (WPL.nil h)) ?_
        refine WPD.val rfl rfl (fun w hO k' h => WPL.ldL rfl hO inferInstance rfl rfl rfl (WPL.nil h)) ?_
        refine WPD.pv rfl rfl (fun w k' h => WPL.fa rfl rfl (WPL.nil h)) ?_
        refine WPD.val rfl rfl (fun w hO k' h => WPL.ldL rfl hO inferInstance rfl rfl rfl (WPL.nil h)) ?_
        refine WPD.pv rfl rfl (fun w k' h => WPL.mv (v := .int .i64 _) rfl rfl (WPL.nil h)) ?_
        refine WPD.eff rfl hO ?_
        refine WPL.call rfl (r3_Of64) Tryz.func63 rfl rfl rfl ?_
        rintro _ w ⟨hf22, rfl⟩
        have hO := hO.call hf22
        refine WPL.nil ?_
        refine WPD.eff rfl hO ?_
        refine WPL.call rfl (r3_Nearby 53 (-1074) 9218868437227405312 (by decide) ⟨2047, by decide, by decide⟩ D p1 q1 (hO.rdG hg1) hq1 hk (by unfold Dy.B; omega) mode hm) Tryz.func66 rfl rfl rfl ?_
        rintro _ w ⟨hf30, rfl⟩
        have hO := hO.call hf30
        refine WPL.nil ?_
        refine WPD.pv rfl rfl (fun w k' h => WPL.as (v := .int .u64 _) rfl rfl (WPL.nil h)) ?_
        refine WPD.nil hO ?_
        refine WP.seq ?_
        refine WP.rs ?_
        refine WPL.fa rfl rfl ?_
        refine WPL.ldL rfl hO inferInstance rfl rfl rfl ?_
        refine WPL.nil ?_
        refine WP.condB rfl (fun h4 => ?_) (fun h4 => ?_)
        · refine WP.region ?_
          refine WPL.mv (v := .int .u64 _) rfl rfl ?_
          refine WPL.u64To (a := roundN 53 (-1074) 9218868437227405312 mode D) (b := 9223372036854775808) (roundN 53 (-1074) 9218868437227405312 mode D + 9223372036854775808) (.inr (.inl rfl)) rfl rfl (.inr (.inl ⟨rfl, rfl⟩)) (by omega) rfl ?_
          refine WPL.as (v := .int .u64 _) rfl rfl ?_
          refine WPL.nil ?_
          refine WP.rs ?_
          refine WPL.mv (v := .int .u64 _) rfl rfl ?_
          refine WPL.f64from ext_F64from rfl rfl ?_
          refine WPL.as (v := .float .f64 _) rfl rfl ?_
          refine WPL.as (v := .int .i64 0) rfl rfl ?_
          refine WPL.nil ?_
          refine WP.ret ?_
          refine ⟨rfl, ?_⟩
          refine RO.tmp (v := .float .f64 _) rfl ?_
          refine RO.tmp (v := .int .i64 _) rfl ?_
          refine RO.nil ?_
          first
          | exact ⟨hO.fr, by rw [round64_add, if_pos (by assumption)]; rfl⟩
          | exact ⟨hO.fr, by rw [round64_add, if_neg (by simp [*])]; rfl⟩
        · refine WP.skip ?_
          refine WP.rs ?_
          refine WPL.mv (v := .int .u64 _) rfl rfl ?_
          refine WPL.f64from ext_F64from rfl rfl ?_
          refine WPL.as (v := .float .f64 _) rfl rfl ?_
          refine WPL.as (v := .int .i64 0) rfl rfl ?_
          refine WPL.nil ?_
          refine WP.ret ?_
          refine ⟨rfl, ?_⟩
          refine RO.tmp (v := .float .f64 _) rfl ?_
          refine RO.tmp (v := .int .i64 _) rfl ?_
          refine RO.nil ?_
          first
          | exact ⟨hO.fr, by rw [round64_add, if_pos (by assumption)]; rfl⟩
          | exact ⟨hO.fr, by rw [round64_add, if_neg (by simp [*])]; rfl⟩

theorem r3_Round {w0 : World} (d : Dy) (a : Option Addr) (c : Nat) {D : Dy} (hr : RowOk w0 [] ⟨a, ws .u32 (dig d.m)⟩) (hc : (dig d.m).length ≤ c) (hD : d.nf = D) (hb : d.B 100000) (mode : Int) : Spec Tryz.prog 42 [dyV d a c, .int .i64 mode] w0 (fun v w' => FrX [] w0 w' ∧ v = if mode < 0 ∨ 4 < mode then .tuple #[.float .f64 0, .int .i64 1] else .tuple #[.float .f64 (round64 mode D), .int .i64 0]) := by
  by_cases hm : mode < 0 ∨ 4 < mode
  · simp only [if_pos hm]; exact r3_Round_bad d a c hr hc hD hb mode hm
  · simp only [if_neg hm]; exact r3_Round_ok d a c hr hc hD hb mode (by omega)

theorem r3_Same {w0 : World} (d : Dy) (a : Option Addr) (c : Nat) (a2 : Option Addr) (c2 : Nat) (hr : RowOk w0 [] ⟨a, ws .u32 (dig d.m)⟩) (hr2 : RowOk w0 [] ⟨a2, ws .u32 (dig d.m)⟩) (hb : (dig d.m).length ≤ 1000000000) : Spec Tryz.prog 7 [dyV d a c, dyV d a2 c2] w0 (fun v w' => FrX [] w0 w' ∧ v = .bool true) := by
  have hO : Own [] w0 [] [] [⟨a, ws .u32 (dig d.m)⟩, ⟨a2, ws .u32 (dig d.m)⟩] w0 := Own.start (by intro e he; cases he) (by
      simp only [List.mem_cons, List.not_mem_nil, or_false]
      rintro r (rfl | rfl)
      · exact hr
      · exact hr2)
  unfold dyV
  refine Spec.enter (n := 45) (rs := [.tmp 4]) Tryz.func7 rfl rfl rfl rfl ?_
  refine WP.rs ?_
  refine WPL.bx (v := .agg #[.bool _, .slice _ _ _, .int .i64 _]) rfl rfl hO rfl (fun b1 w hO => ?_)
  refine WPL.bx (v := .agg #[.bool _, .slice _ _ _, .int .i64 _]) rfl rfl hO rfl (fun b2 w hO => ?_)
  refine WPL.as (v := .bool false) rfl rfl ?_
  refine WPL.nil ?_
  refine WP.seq ?_
  refine WP.rs ?_
  refine WPL.fa rfl rfl ?_
  refine WPL.ldL rfl hO inferInstance rfl rfl rfl ?_
  refine WPL.fa rfl rfl ?_
  refine WPL.ldL rfl hO inferInstance rfl rfl rfl ?_
  refine WPL.neB rfl rfl rfl ?_
  refine WPL.mv (v := .bool _) rfl rfl ?_
  refine WPL.split (s := 11) rfl (fun h1 => ?_) (fun h1 => ?_)
  · exact absurd h1 (by simp)
  · refine WPL.guardT rfl rfl h1 ?_
    refine WPL.fa rfl rfl ?_
    refine WPL.guardT rfl rfl h1 ?_
    refine WPL.ldL rfl hO inferInstance rfl rfl rfl ?_
    refine WPL.guardT rfl rfl h1 ?_
    refine WPL.fa rfl rfl ?_
    refine WPL.guardT rfl rfl h1 ?_
    refine WPL.ldL rfl hO inferInstance rfl rfl rfl ?_
    refine WPL.guardT rfl rfl h1 ?_
    refine WPL.ne rfl rfl rfl ?_
    refine WPL.pkF (v := .bool _) rfl h1 rfl rfl ?_
    refine WPL.mv (v := .bool _) rfl rfl ?_
    refine WPL.split (s := 18) rfl (fun h2 => ?_) (fun h2 => ?_)
    · have ph2 := of_decide_eq_true h2
      exact absurd h2 (by simp)
    · have ph2 := of_decide_eq_false h2
      refine WPL.guardT rfl rfl h2 ?_
      refine WPL.fa rfl rfl ?_
      refine WPL.guardT rfl rfl h2 ?_
      refine WPL.ldL rfl hO inferInstance rfl rfl rfl ?_
      refine WPL.guardT rfl rfl h2 ?_
      refine WPL.len rfl rfl ?_
      refine WPL.guardT rfl rfl h2 ?_
      refine WPL.fa rfl rfl ?_
      refine WPL.guardT rfl rfl h2 ?_
      refine WPL.ldL rfl hO inferInstance rfl rfl rfl ?_
      refine WPL.guardT rfl rfl h2 ?_
      refine WPL.len rfl rfl ?_
      refine WPL.guardT rfl rfl h2 ?_
      refine WPL.ne rfl rfl rfl ?_
      refine WPL.pkF (v := .bool _) rfl h2 rfl rfl ?_
      refine WPL.nil ?_
      refine WP.condP rfl (fun h3 => ?_) (fun h3 => ?_)
      · exact absurd h3 (by simp)
      · refine WP.skip ?_
        refine WP.seq ?_
        refine WP.rs ?_
        refine WPL.as (v := .int .i64 0) rfl rfl ?_
        refine WPL.nil ?_
        refine WP.block ?_
        refine WP.loop (fun m σ ds w' => ∃ i, m + i = (dig d.m).length ∧ Has σ [(2, .pointer (some ⟨b1, 0, none⟩)), (3, .pointer (some ⟨b2, 0, none⟩)), (5, .int .i64 (i : Int))] ∧ ds = [] ∧ Own [] w0 [] [⟨b2, [.bool d.s, .slice a2 (dig d.m).length c2, .int .i64 d.e], 46⟩, ⟨b1, [.bool d.s, .slice a (dig d.m).length c, .int .i64 d.e], 46⟩] [⟨a, ws .u32 (dig d.m)⟩, ⟨a2, ws .u32 (dig d.m)⟩] w') (dig d.m).length ?_ ?_
        · exact ⟨0, rfl, ⟨rfl, rfl, rfl, trivial⟩, rfl, hO⟩
        · rintro m σ ds w ⟨i, hi, hH, rfl, hO⟩
          refine WP.reset hH ?_
          refine WP.seq ?_
          refine WP.rs ?_
          refine WPL.mv (v := .int .i64 _) rfl rfl ?_
          refine WPL.fa rfl rfl ?_
          refine WPL.ldL rfl hO inferInstance rfl rfl rfl ?_
          refine WPL.len rfl rfl ?_
          refine WPL.lt rfl rfl rfl ?_
          refine WPL.nil ?_
          refine WP.condP rfl (fun h4 => ?_) (fun h4 => ?_)
          · refine WP.skip ?_
            refine WP.seq ?_
            refine WP.block ?_
            refine WP.seq ?_
            refine WP.draw [(0, 0), (1, 1), (2, 0), (3, 1), (4, 1), (5, 0), (6, 1), (7, 0), (8, 1), (9, 1), (10, 0)] [] mixed (by kernel_rfl) (by kernel_rfl) rfl hO (fun w hO => ?_)
            refine WPD.pv rfl rfl (fun w k' h => WPL.fa rfl rfl (WPL.nil h)) ?_
            refine WPD.val rfl rfl (fun w hO k' h => WPL.ldL rfl hO inferInstance rfl rfl rfl (WPL.nil h)) ?_
            refine WPD.pv rfl rfl (fun w k' h => WPL.mv (v := .int .i64 _) rfl rfl (WPL.nil h)) ?_
            refine WPD.val rfl rfl (fun w hO k' h => WPL.ixR rfl hO inferInstance rfl rfl (by first | omega | (simp; omega)) (by first | omega | (simp; omega)) rfl (WPL.nil h)) ?_
            refine WPD.val rfl rfl (fun w hO k' h => WPL.ldR (vals := ws .u32 (dig d.m)) rfl hO inferInstance (ws_get1 rfl (by omega)) rfl rfl (WPL.nil h)) ?_
            refine WPD.pv rfl rfl (fun w k' h => WPL.fa rfl rfl (WPL.nil h)) ?_
            refine WPD.val rfl rfl (fun w hO k' h => WPL.ldL rfl hO inferInstance rfl rfl rfl (WPL.nil h)) ?_
            refine WPD.pv rfl rfl (fun w k' h => WPL.mv (v := .int .i64 _) rfl rfl (WPL.nil h)) ?_
            refine WPD.val rfl rfl (fun w hO k' h => WPL.ixR rfl hO inferInstance rfl rfl (by first | omega | (simp; omega)) (by first | omega | (simp; omega)) rfl (WPL.nil h)) ?_
            refine WPD.val rfl rfl (fun w hO k' h => WPL.ldR (vals := ws .u32 (dig d.m)) rfl hO inferInstance (ws_get1 rfl (by omega)) rfl rfl (WPL.nil h)) ?_
            refine WPD.pv rfl rfl (fun w k' h => WPL.ne rfl rfl rfl (WPL.nil h)) ?_
            refine WPD.nil hO ?_
            refine WP.condP rfl (fun h5 => ?_) (fun h5 => ?_)
            · exact absurd rfl h5
            · refine WP.skip ?_
              refine WP.region ?_
              refine WPL.mv (v := .int .i64 _) rfl rfl ?_
              refine WPL.addI rfl rfl (by omega) rfl ?_
              refine WPL.as (v := .int .i64 _) rfl rfl ?_
              refine WPL.nil ?_
              exact ⟨m - 1, by omega, i + 1, by omega, ⟨rfl, rfl, rfl, trivial⟩, rfl, hO⟩
          · refine WP.exit ?_
            refine WP.rs ?_
            refine WPL.as (v := .bool true) rfl rfl ?_
            refine WPL.nil ?_
            refine WP.ret ?_
            refine ⟨rfl, ?_⟩
            refine RO.tmp (v := .bool _) rfl ?_
            refine RO.nil ?_
            exact ⟨hO.fr, rfl⟩

theorem r3_Alike {w0 : World} (x y : Nat) : Spec Tryz.prog 23 [.float .f64 x, .float .f64 y] w0 (fun v w' => v = .bool (decide (x = y)) ∧ w0 = w') := by
  refine Spec.enter (n := 10) (rs := [.tmp 4]) Tryz.func23 rfl rfl rfl rfl ?_
  refine WP.rs ?_
  refine WPL.as (v := .bool false) rfl rfl ?_
  refine WPL.nil ?_
  refine WP.rs ?_
  refine WPL.mv (v := .float .f64 _) rfl rfl ?_
  refine WPL.f64bits ext_F64bits rfl rfl ?_
  refine WPL.mv (v := .float .f64 _) rfl rfl ?_
  refine WPL.f64bits ext_F64bits rfl rfl ?_
  refine WPL.eq rfl rfl rfl ?_
  refine WPL.as (v := .bool _) rfl rfl ?_
  refine WPL.nil ?_
  refine WP.ret ?_
  refine ⟨rfl, ?_⟩
  refine RO.tmp (v := .bool _) rfl ?_
  refine RO.nil ?_
  exact ⟨congrArg Value.bool (decide_eq_decide.2 (by omega)), rfl⟩
end Go.Sw
