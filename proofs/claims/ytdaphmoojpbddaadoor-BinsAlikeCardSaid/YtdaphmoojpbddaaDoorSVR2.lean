/- A part of the proof that BinsAlike answers true: steps of the walk, or plain laws that it needs. No conditions of its own. -/
import Derived.Test.YtdaphmoojpbddaaDoorSVR1
set_option linter.all false
namespace Go.Sw
set_option autoImplicit false
set_option linter.all false
open Go.Proofs Go.RowKit
noncomputable abbrev D64 : TypeDesc := (Tryd.prog.underlying 64).getD .bool
instance T64 : Ty Tryd.prog 64 D64 [.int .i64 0, .int .i64 0, .int .u64 0] 24 := Ty.mk' (by kernel_rfl) (by kernel_rfl)
theorem agg64 : TypeDesc.agg D64 = true := by kernel_rfl
theorem pl64 : placesOf Tryd.prog 64 = some [(0, 1), (1, 1), (2, 1)] := by kernel_rfl
instance F64_0 : Fld Tryd.prog 64 0 0 := Fld.mk' (sz := 0) (by kernel_rfl)
instance F64_1 : Fld Tryd.prog 64 1 1 := Fld.mk' (sz := 0) (by kernel_rfl)
instance F64_2 : Fld Tryd.prog 64 2 2 := Fld.mk' (sz := 0) (by kernel_rfl)
instance T67 : Ty Tryd.prog 67 (.int .u64) [.int .u64 0] 8 := Ty.mk' Tryd.underlying67 (by kernel_rfl)
theorem r3_Form {w0 : World} (s : Bool) (a : Option Addr) (l : List Nat) (c : Nat) {n N : Nat} (hr : RowOk w0 [] ⟨a, ws .u32 l⟩) (hw : Wd l) (hN : val l = N) (hc : l.length ≤ c) (hn : n = l.length) (hb : l.length ≤ 1000000000) (e : Int) (hf : blen N ≤ 262144) (he : -700000 ≤ e ∧ e ≤ 700000) : Spec Tryd.prog 35 [.bool s, .slice a n c, .int .i64 e] w0 (fun v w' => FrX [] w0 w' ∧ DyOk w0 w' 60 (Dy.fm s N e) v) := by
  subst hn
  have hO : Own [] w0 [] [] [⟨a, ws .u32 l⟩] w0 := Own.start (by intro e he; cases he) (by
      simp only [List.mem_cons, List.not_mem_nil, or_false]
      rintro r rfl
      · exact hr)
  refine Spec.enter (n := 47) (rs := [.cell 6 34, .tmp 7]) Tryd.func35 rfl rfl rfl rfl ?_
  refine WP.rs ?_
  refine WPL.al hO rfl (fun b1 w hO => ?_)
  refine WPL.as (v := .bool false) rfl rfl ?_
  refine WPL.nil ?_
  refine WP.rs ?_
  refine WPL.mv (v := .slice _ _ _) rfl rfl ?_
  refine WPL.call rfl (r2_Norm _ l _ hO.rd hw hN hc rfl (by omega)) Tryd.func50 rfl rfl rfl ?_
  rintro _ w ⟨hf11, a11, c11, rfl, hc11, hr11⟩
  have hO := hO.res hf11 hr11
  refine WPL.as (v := .slice _ _ _) rfl rfl ?_
  refine WPL.nil ?_
  refine WP.seq ?_
  refine WP.rs ?_
  refine WPL.mv (v := .slice _ _ _) rfl rfl ?_
  refine WPL.len rfl rfl ?_
  refine WPL.eq rfl rfl rfl ?_
  refine WPL.nil ?_
  refine WP.condP rfl (fun h1 => ?_) (fun h1 => ?_)
  · refine WP.rs ?_
    refine WPL.bd (pv := []) (vs := [_, _, _]) rfl (bd_of pl34 rfl rfl) rfl ?_
    refine WPL.stLA (T := T34) rfl rfl hO inferInstance inferInstance (by simp [Value.oneCell']) rfl rfl (fun w hO => ?_)
    refine WPL.as (v := .bool true) rfl rfl ?_
    refine WPL.nil ?_
    refine WP.ret ?_
    refine ⟨rfl, ?_⟩
    refine RO.cell (T := T34) [.bool _, .slice _ _ _, .int .i64 _] rfl hO inferInstance rfl agg34 rfl ?_
    refine RO.tmp (v := .bool _) rfl ?_
    refine RO.nil ?_
    have e0 := dig_len_zero (by omega : (dig N).length = 0)
    rw [e0, Dy.fm_zero]
    exact ⟨hO.fr, none, 0, by simp only [dyV, dig_zero]; rfl, by simp [dig_zero], by simp only [dig_zero]; exact Res.nil rfl⟩
  · refine WP.skip ?_
    refine WP.rs ?_
    have hn0 : N ≠ 0 := fun e => h1 (by rw [e, dig_zero]; rfl)
    have htz := tz_le_blen hn0
    have hln := len_blen (k := 8192) (show blen N ≤ 32 * 8192 by omega)
    refine WPL.mv (v := .slice _ _ _) rfl rfl ?_
    refine WPL.call rfl (r2_Low a11 (dig N) _ hO.rd (dig_wd _) (val_dig _) hc11 rfl (by omega)) Tryd.func54 rfl rfl rfl ?_
    rintro _ _ ⟨rfl, rfl⟩
    refine WPL.as (v := .int .i64 _) rfl rfl ?_
    refine WPL.nil ?_
    refine WP.seq ?_
    refine WP.rs ?_
    refine WPL.mv (v := .int .i64 _) rfl rfl ?_
    refine WPL.gt rfl rfl rfl ?_
    refine WPL.mv (v := .bool _) rfl rfl ?_
    refine WPL.split (s := 20) rfl (fun h2 => ?_) (fun h2 => ?_)
    · have ph2 := of_decide_eq_true h2
      exact absurd (of_decide_eq_true h2) (by omega)
    · have ph2 := of_decide_eq_false h2
      refine WPL.guardT rfl rfl h2 ?_
      refine WPL.mv (v := .int .i64 _) rfl rfl ?_
      refine WPL.guardT rfl rfl h2 ?_
      refine WPL.mv (v := .int .i64 _) rfl rfl ?_
      refine WPL.guardT rfl rfl h2 ?_
      refine WPL.addI rfl rfl (by omega) rfl ?_
      refine WPL.guardT rfl rfl h2 ?_
      refine WPL.gt rfl rfl rfl ?_
      refine WPL.pkF (v := .bool _) rfl h2 rfl rfl ?_
      refine WPL.mv (v := .bool _) rfl rfl ?_
      refine WPL.split (s := 26) rfl (fun h3 => ?_) (fun h3 => ?_)
      · have ph3 := of_decide_eq_true h3
        exact absurd (of_decide_eq_true h3) (by omega)
      · have ph3 := of_decide_eq_false h3
        refine WPL.guardT rfl rfl h3 ?_
        refine WPL.mv (v := .int .i64 _) rfl rfl ?_
        refine WPL.guardT rfl rfl h3 ?_
        refine WPL.mv (v := .int .i64 _) rfl rfl ?_
        refine WPL.guardT rfl rfl h3 ?_
        refine WPL.addI rfl rfl (by omega) rfl ?_
        refine WPL.guardT rfl rfl h3 ?_
        refine WPL.lt rfl rfl rfl ?_
        refine WPL.pkF (v := .bool _) rfl h3 rfl rfl ?_
        refine WPL.nil ?_
        refine WP.condP rfl (fun h4 => ?_) (fun h4 => ?_)
        · exact absurd h4 (by omega)
        · refine WP.skip ?_
          refine WP.rs ?_
          refine WPL.mv (v := .slice _ _ _) rfl rfl ?_
          refine WPL.mv (v := .int .i64 _) rfl rfl ?_
          refine WPL.negI rfl (by omega) rfl ?_
          refine WPL.call rfl (r2_Moved a11 (dig N) _ hO.rd (dig_wd _) (val_dig _) hc11 rfl (by omega) (-(tz N : Int)) (by omega) (by omega)) Tryd.func29 rfl rfl rfl ?_
          rintro _ w ⟨hf36, a36, c36, rfl, hc36, hr36⟩
          rw [shiftN_tz] at hc36 hr36
          obtain ⟨G36, hG36, hO⟩ := hO.resL hf36 hr36
          simp only [shiftN_tz]
          refine WPL.as (v := .slice _ _ _) rfl rfl ?_
          refine WPL.nil ?_
          refine WP.seq ?_
          refine WP.rs ?_
          refine WPL.mv (v := .slice _ _ _) rfl rfl ?_
          refine WPL.len rfl rfl ?_
          refine WPL.gt rfl rfl rfl ?_
          refine WPL.nil ?_
          refine WP.condP rfl (fun h5 => ?_) (fun h5 => ?_)
          · exact absurd h5 (by have := len_blen (k := 8192) (show blen (N / 2 ^ tz N) ≤ 32 * 8192 by have := @blen_div N (tz N); omega); omega)
          · refine WP.skip ?_
            refine WP.rs ?_
            refine WPL.mv (v := .bool _) rfl rfl ?_
            refine WPL.mv (v := .slice _ _ _) rfl rfl ?_
            refine WPL.mv (v := .int .i64 _) rfl rfl ?_
            refine WPL.mv (v := .int .i64 _) rfl rfl ?_
            refine WPL.addI rfl rfl (by omega) rfl ?_
            refine WPL.bd (pv := [(0, .bool _), (1, .slice _ _ _), (2, .int .i64 _)]) (vs := [_, _, _]) rfl (bd_of pl34 rfl rfl) rfl ?_
            refine WPL.stLA (T := T34) rfl rfl hO inferInstance inferInstance (by simp [Value.oneCell']) rfl rfl (fun w hO => ?_)
            refine WPL.as (v := .bool true) rfl rfl ?_
            refine WPL.nil ?_
            refine WP.ret ?_
            refine ⟨rfl, ?_⟩
            refine RO.cell (T := T34) [.bool _, .slice _ _ _, .int .i64 _] rfl hO inferInstance rfl agg34 rfl ?_
            refine RO.tmp (v := .bool _) rfl ?_
            refine RO.nil ?_
            rw [Dy.fm_pos hn0]
            exact ⟨hO.fr, a36, c36, rfl, hc36, hO.giveG hG36⟩

theorem r3_Made {w0 : World} (d : Dy) (a : Option Addr) (c : Nat) {D : Dy} (hr : RowOk w0 [] ⟨a, ws .u32 (dig d.m)⟩) (hc : (dig d.m).length ≤ c) (hD : d.nf = D) (hb : d.B 262144) : Spec Tryd.prog 28 [dyV d a c] w0 (fun v w' => FrX [] w0 w' ∧ DyOk w0 w' 60 D v) := by
  have hO : Own [] w0 [] [] [⟨a, ws .u32 (dig d.m)⟩] w0 := Own.start (by intro e he; cases he) (by
      simp only [List.mem_cons, List.not_mem_nil, or_false]
      rintro r rfl
      · exact hr)
  subst hD
  have hl := len_blen (k := 8192) (show blen d.m ≤ 32 * 8192 by unfold Dy.B at *; omega)
  have hb' := hb
  unfold Dy.B at hb'
  unfold dyV
  refine Spec.enter (n := 13) (rs := [.cell 2 34, .tmp 3]) Tryd.func28 rfl rfl rfl rfl ?_
  refine WP.rs ?_
  refine WPL.bx (v := .agg #[.bool _, .slice _ _ _, .int .i64 _]) rfl rfl hO rfl (fun b1 w hO => ?_)
  refine WPL.al hO rfl (fun b2 w hO => ?_)
  refine WPL.as (v := .bool false) rfl rfl ?_
  refine WPL.nil ?_
  refine WP.rs ?_
  refine WPL.fa rfl rfl ?_
  refine WPL.ldL rfl hO inferInstance rfl rfl rfl ?_
  refine WPL.fa rfl rfl ?_
  refine WPL.ldL rfl hO inferInstance rfl rfl rfl ?_
  refine WPL.fa rfl rfl ?_
  refine WPL.ldL rfl hO inferInstance rfl rfl rfl ?_
  refine WPL.call rfl (r3_Form d.s a (dig d.m) _ hO.rd (dig_wd _) (val_dig _) hc rfl (by omega) d.e (by omega) (by omega)) Tryd.func35 rfl rfl rfl ?_
  rintro _ w ⟨hf10, a10, c10, rfl, hc10, hr10⟩
  obtain ⟨G10, hG10, hO⟩ := hO.resL hf10 hr10
  unfold dyV
  refine WPL.ext (v := .agg #[.bool _, .slice _ _ _, .int .i64 _]) rfl rfl rfl ?_
  refine WPL.ext (v := .bool _) rfl rfl rfl ?_
  refine WPL.stLA (T := T34) rfl rfl hO inferInstance inferInstance (by simp [Value.oneCell']) rfl rfl (fun w hO => ?_)
  refine WPL.as (v := .bool _) rfl rfl ?_
  refine WPL.nil ?_
  refine WP.ret ?_
  refine ⟨rfl, ?_⟩
  refine RO.cell (T := T34) [.bool _, .slice _ _ _, .int .i64 _] rfl hO inferInstance rfl agg34 rfl ?_
  refine RO.tmp (v := .bool _) rfl ?_
  refine RO.nil ?_
  exact ⟨hO.fr, a10, c10, rfl, hc10, hO.giveG hG10⟩

theorem r3_told {w0 : World} (s : Bool) (a : Option Addr) (l : List Nat) (c : Nat) {n N : Nat} (hr : RowOk w0 [] ⟨a, ws .u32 l⟩) (hw : Wd l) (hN : val l = N) (hc : l.length ≤ c) (hn : n = l.length) (hb : l.length ≤ 1000000000) (e : Int) (hf : blen N ≤ 262144) (he : -700000 ≤ e ∧ e ≤ 700000) : Spec Tryd.prog 30 [.bool s, .slice a n c, .int .i64 e] w0 (fun v w' => FrX [] w0 w' ∧ DyErr w0 w' 60 (Dy.fm s N e) v) := by
  subst hn
  have hO : Own [] w0 [] [] [⟨a, ws .u32 l⟩] w0 := Own.start (by intro e he; cases he) (by
      simp only [List.mem_cons, List.not_mem_nil, or_false]
      rintro r rfl
      · exact hr)
  refine Spec.enter (n := 21) (rs := [.cell 6 34, .tmp 7]) Tryd.func30 rfl rfl rfl rfl ?_
  refine WP.rs ?_
  refine WPL.al hO rfl (fun b1 w hO => ?_)
  refine WPL.as (v := .int .i64 0) rfl rfl ?_
  refine WPL.nil ?_
  refine WP.rs ?_
  refine WPL.mv (v := .bool _) rfl rfl ?_
  refine WPL.mv (v := .slice _ _ _) rfl rfl ?_
  refine WPL.mv (v := .int .i64 _) rfl rfl ?_
  refine WPL.call rfl (r3_Form s a l _ hO.rd hw hN hc rfl hb e hf he) Tryd.func35 rfl rfl rfl ?_
  rintro _ w ⟨hf14, a14, c14, rfl, hc14, hr14⟩
  obtain ⟨G14, hG14, hO⟩ := hO.resL hf14 hr14
  unfold dyV
  refine WPL.mv (v := .tuple #[.agg #[.bool _, .slice _ _ _, .int .i64 _], .bool _]) rfl rfl ?_
  refine WPL.ext (v := .agg #[.bool _, .slice _ _ _, .int .i64 _]) rfl rfl rfl ?_
  refine WPL.ext (v := .bool _) rfl rfl rfl ?_
  refine WPL.al hO rfl (fun b2 w hO => ?_)
  refine WPL.stLA (T := T34) rfl rfl hO inferInstance inferInstance (by simp [Value.oneCell']) rfl rfl (fun w hO => ?_)
  refine WPL.as (v := .bool _) rfl rfl ?_
  refine WPL.nil ?_
  refine WP.seq ?_
  refine WP.rs ?_
  refine WPL.mv (v := .bool _) rfl rfl ?_
  refine WPL.not rfl rfl ?_
  refine WPL.nil ?_
  refine WP.condB rfl (fun h1 => ?_) (fun h1 => ?_)
  · exact absurd h1 (by decide)
  · refine WP.skip ?_
    refine WP.rs ?_
    refine WPL.ldLA (T := T34) [.bool _, .slice _ _ _, .int .i64 _] rfl hO inferInstance rfl agg34 rfl rfl ?_
    refine WPL.stLA (T := T34) rfl rfl hO inferInstance inferInstance (by simp [Value.oneCell']) rfl rfl (fun w hO => ?_)
    refine WPL.as (v := .int .i64 0) rfl rfl ?_
    refine WPL.nil ?_
    refine WP.ret ?_
    refine ⟨rfl, ?_⟩
    refine RO.cell (T := T34) [.bool _, .slice _ _ _, .int .i64 _] rfl hO inferInstance rfl agg34 rfl ?_
    refine RO.tmp (v := .int .i64 _) rfl ?_
    refine RO.nil ?_
    exact ⟨hO.fr, a14, c14, rfl, hc14, hO.giveG hG14⟩

theorem r3_Of64 {w0 : World} : Spec Tryd.prog 26 [] w0 (fun v w' => FrX [] w0 w' ∧ v = .agg #[.int .i64 53, .int .i64 (-1074), .int .u64 9218868437227405312]) := by
  have hO : Own [] w0 [] [] [] w0 := Own.start (by intro e he; cases he) (by intro r hr'; cases hr')
  refine Spec.enter (n := 2) (rs := [.cell 0 64]) Tryd.func26 rfl rfl rfl rfl ?_
  refine WP.rs ?_
  refine WPL.al hO rfl (fun b1 w hO => ?_)
  refine WPL.nil ?_
  refine WP.rs ?_
  refine WPL.bd (pv := [(0, .int .i64 53), (1, .int .i64 (-1074)), (2, .int .u64 ((9218868437227405312 : Nat) : Int))]) (vs := [_, _, _]) rfl (bd_of pl64 rfl rfl) rfl ?_
  refine WPL.stLA (T := T64) rfl rfl hO inferInstance inferInstance (by simp [Value.oneCell']) rfl rfl (fun w hO => ?_)
  refine WPL.nil ?_
  refine WP.ret ?_
  refine ⟨rfl, ?_⟩
  refine RO.cell (T := T64) [.int .i64 _, .int .i64 _, .int .u64 _] rfl hO inferInstance rfl agg64 rfl ?_
  refine RO.nil ?_
  exact ⟨hO.fr, rfl⟩

theorem r3_Number {w0 : World} (p : Nat) (low : Int) (inf : Nat) (hG : 24 ≤ p ∧ p ≤ 53 ∧ -1074 ≤ low ∧ low ≤ -149) (k : Nat) (hk : k < 18446744073709551616) : Spec Tryd.prog 48 [.agg #[.int .i64 (p : Int), .int .i64 low, .int .u64 (inf : Int)], .int .u64 (k : Int)] w0 (fun v w' => FrX [] w0 w' ∧ ∃ a c, v = .tuple #[.slice a (dig (numM p k)).length c, .int .i64 (numE p low k)] ∧ (dig (numM p k)).length ≤ c ∧ Res w0 w' a c 1 (ws .u32 (dig (numM p k))) 60) := by
  have hO : Own [] w0 [] [] [] w0 := Own.start (by intro e he; cases he) (by intro r hr'; cases hr')
  have hH1 : 0 < 2 ^ (p - 1) := Nat.two_pow_pos _
  have hH2 : 2 ^ (p - 1) ≤ 2 ^ 52 := Nat.pow_le_pow_right (by omega) (by omega)
  have hH3 : 2 ^ 23 ≤ 2 ^ (p - 1) := Nat.pow_le_pow_right (by omega) (by omega)
  obtain ⟨H, hH⟩ : ∃ H, H = 2 ^ (p - 1) := ⟨_, rfl⟩
  rw [← hH] at hH1 hH2 hH3
  have hmod := Nat.mod_lt k hH1
  have hdiv : k / H ≤ k / 2 ^ 23 := Nat.div_le_div_left hH3 (by decide)
  have hnn : (0 : Int) ≤ ((k / H : Nat) : Int) := Int.natCast_nonneg _
  refine Spec.enter (n := 36) (rs := [.tmp 4, .tmp 5]) Tryd.func48 rfl rfl rfl rfl ?_
  refine WP.rs ?_
  refine WPL.bx (v := .agg #[.int .i64 _, .int .i64 _, .int .u64 _]) rfl rfl hO rfl (fun b1 w hO => ?_)
  refine WPL.as (v := .slice none 0 0) rfl rfl ?_
  refine WPL.as (v := .int .i64 0) rfl rfl ?_
  refine WPL.nil ?_
  refine WP.rs ?_
  refine WPL.fa rfl rfl ?_
  refine WPL.ldL rfl hO inferInstance rfl rfl rfl ?_
  refine WPL.subTo ((p - 1 : Nat) : Int) rfl rfl (by omega) (by omega) rfl ?_
  refine WPL.cv_u64 (a := p - 1) rfl (by omega) rfl ?_
  refine WPL.shl_u64 (a := 1) (s := p - 1) rfl rfl rfl ?_
  refine WPL.as (v := .int .u64 _) rfl rfl ?_
  refine WPL.nil ?_
  refine WP.rs ?_
  refine WPL.mv (v := .int .u64 _) rfl rfl ?_
  refine WPL.mv (v := .int .u64 _) rfl rfl ?_
  refine WPL.quo_u64 (a := k) (b := H) rfl (congrArg (fun z : Nat => Value.int .u64 (z : Int)) (show 1 * 2 ^ (p - 1) % 18446744073709551616 = H by rw [← hH]; omega)) (by omega) (by omega) rfl ?_
  refine WPL.as (v := .int .u64 _) rfl rfl ?_
  refine WPL.nil ?_
  refine WP.rs ?_
  refine WPL.mv (v := .int .u64 _) rfl rfl ?_
  refine WPL.mv (v := .int .u64 _) rfl rfl ?_
  refine WPL.rem_u64 (a := k) (b := H) rfl (congrArg (fun z : Nat => Value.int .u64 (z : Int)) (show 1 * 2 ^ (p - 1) % 18446744073709551616 = H by rw [← hH]; omega)) (by omega) rfl ?_
  refine WPL.as (v := .int .u64 _) rfl rfl ?_
  refine WPL.nil ?_
  refine WP.seq ?_
  refine WP.rs ?_
  refine WPL.mv (v := .int .u64 _) rfl rfl ?_
  refine WPL.eq rfl rfl rfl ?_
  refine WPL.nil ?_
  refine WP.condP rfl (fun h1 => ?_) (fun h1 => ?_)
  · refine WP.seq ?_
    refine WP.draw [(0, 0), (2, 0), (3, 1), (1, 2), (4, 0), (5, 0)] [] mixed (by kernel_rfl) (by kernel_rfl) rfl hO (fun w hO => ?_)
    refine WPD.pv rfl rfl (fun w k' h => WPL.mv (v := .int .u64 _) rfl rfl (WPL.nil h)) ?_
    refine WPD.pv rfl rfl (fun w k' h => WPL.fa rfl rfl (WPL.nil h)) ?_
    refine WPD.val rfl rfl (fun w hO k' h => WPL.ldL rfl hO inferInstance rfl rfl rfl (WPL.nil h)) ?_
    refine WPD.eff rfl hO ?_
    refine WPL.call rfl (r2_Of (k % H) (by omega)) Tryd.func68 rfl rfl rfl ?_
    rintro _ w ⟨hf23, a23, c23, rfl, hc23, hr23⟩
    obtain ⟨G23, hG23, hO⟩ := hO.resL hf23 hr23
    refine WPL.nil ?_
    refine WPD.pv rfl rfl (fun w k' h => WPL.as (v := .slice _ _ _) rfl rfl (WPL.nil h)) ?_
    refine WPD.pv rfl rfl (fun w k' h => WPL.as (v := .int .i64 _) rfl rfl (WPL.nil h)) ?_
    refine WPD.nil (Own.drop hO) ?_
    refine WP.ret ?_
    refine ⟨rfl, ?_⟩
    refine RO.tmp (v := .slice _ _ _) rfl ?_
    refine RO.tmp (v := .int .i64 _) rfl ?_
    refine RO.nil ?_
    unfold numM numE
    rw [← hH]
    first
    | (have hz : k / H = 0 := by omega
       simp only [if_pos hz]
       exact ⟨hO.fr, a23, c23, rfl, hc23, hO.giveG hG23⟩)
    | (have hz : ¬ k / H = 0 := by omega
       simp only [if_neg hz]
       exact ⟨hO.fr, a29, c29, rfl, hc29, hO.giveG hG29⟩)
  · refine WP.skip ?_
    refine WP.seq ?_
    refine WP.draw [(0, 0), (1, 0), (2, 0), (4, 0), (5, 1), (6, 0), (7, 0), (8, 0), (9, 0), (3, 2), (10, 0), (11, 0)] [] mixed (by kernel_rfl) (by kernel_rfl) rfl hO (fun w hO => ?_)
    refine WPD.pv rfl rfl (fun w k' h => WPL.mv (v := .int .u64 _) rfl rfl (WPL.nil h)) ?_
    refine WPD.pv rfl rfl (fun w k' h => WPL.mv (v := .int .u64 _) rfl rfl (WPL.nil h)) ?_
    refine WPD.pv rfl rfl (fun w k' h => WPL.u64To (a := H) (b := k % H) (H + k % H) (.inr (.inl rfl)) (congrArg (fun z : Nat => Value.int .u64 (z : Int)) (show 1 * 2 ^ (p - 1) % 18446744073709551616 = H by rw [← hH]; omega)) rfl (.inr (.inl ⟨rfl, rfl⟩)) (by omega) rfl (WPL.nil h)) ?_
    refine WPD.pv rfl rfl (fun w k' h => WPL.fa rfl rfl (WPL.nil h)) ?_
    refine WPD.val rfl rfl (fun w hO k' h => WPL.ldL rfl hO inferInstance rfl rfl rfl (WPL.nil h)) ?_
    refine WPD.pv rfl rfl (fun w k' h => WPL.mv (v := .int .u64 _) rfl rfl (WPL.nil h)) ?_
    refine WPD.pv rfl rfl (fun w k' h => WPL.cv_i64 rfl (by first | omega | exact Nat.mod_lt _ (by decide) | exact Wd.get (by assumption) _ | exact (dig_wd _).get _ | exact Nat.lt_of_le_of_lt (Nat.div_le_self ..) (Wd.get (by assumption) _) | exact Nat.lt_of_lt_of_le (Wd.get (by assumption) _) (by decide)) rfl (WPL.nil h)) ?_
    refine WPD.pv rfl rfl (fun w k' h => WPL.addI rfl rfl (by omega) rfl (WPL.nil h)) ?_
    refine WPD.pv rfl rfl (fun w k' h => WPL.subI rfl rfl (by omega) rfl (WPL.nil h)) ?_
    refine WPD.eff rfl hO ?_
    refine WPL.call rfl (r2_Of (H + k % H) (by omega)) Tryd.func68 rfl rfl rfl ?_
    rintro _ w ⟨hf29, a29, c29, rfl, hc29, hr29⟩
    obtain ⟨G29, hG29, hO⟩ := hO.resL hf29 hr29
    refine WPL.nil ?_
    refine WPD.pv rfl rfl (fun w k' h => WPL.as (v := .slice _ _ _) rfl rfl (WPL.nil h)) ?_
    refine WPD.pv rfl rfl (fun w k' h => WPL.as (v := .int .i64 _) rfl rfl (WPL.nil h)) ?_
    refine WPD.nil (Own.drop hO) ?_
    refine WP.ret ?_
    refine ⟨rfl, ?_⟩
    refine RO.tmp (v := .slice _ _ _) rfl ?_
    refine RO.tmp (v := .int .i64 _) rfl ?_
    refine RO.nil ?_
    unfold numM numE
    rw [← hH]
    first
    | (have hz : k / H = 0 := by omega
       simp only [if_pos hz]
       exact ⟨hO.fr, a23, c23, rfl, hc23, hO.giveG hG23⟩)
    | (have hz : ¬ k / H = 0 := by omega
       simp only [if_neg hz]
       exact ⟨hO.fr, a29, c29, rfl, hc29, hO.giveG hG29⟩)

theorem r3_Bits {w0 : World} (p : Nat) (low : Int) (inf : Nat) (hG : 24 ≤ p ∧ p ≤ 53 ∧ -1074 ≤ low ∧ low ≤ -149) (s : Bool) (k : Nat) (hk : k < inf) (hinf : inf < 18446744073709551616) (hke : numE p low k ≤ 100000) : Spec Tryd.prog 27 [.agg #[.int .i64 (p : Int), .int .i64 low, .int .u64 (inf : Int)], .bool s, .int .u64 (k : Int)] w0 (fun v w' => FrX [] w0 w' ∧ DyOk w0 w' 60 (Dy.fm s (numM p k) (numE p low k)) v) := by
  have hO : Own [] w0 [] [] [] w0 := Own.start (by intro e he; cases he) (by intro r hr'; cases hr')
  have hml := @numM_lt p k (by omega)
  have hp2 : 2 ^ p ≤ 2 ^ 53 := Nat.pow_le_pow_right (by omega) (by omega)
  have hbm : blen (numM p k) ≤ 53 := blen_le.2 (by omega)
  have hlm := len_blen (k := 2) (show blen (numM p k) ≤ 32 * 2 by omega)
  have hEl := @numE_low p low k
  have hEh : numE p low k ≤ low + (k / 2 ^ 23 : Nat) := by
    have hH3 : 2 ^ 23 ≤ 2 ^ (p - 1) := Nat.pow_le_pow_right (by omega) (by omega)
    have hdiv : k / 2 ^ (p - 1) ≤ k / 2 ^ 23 := Nat.div_le_div_left hH3 (by decide)
    unfold numE; split <;> omega
  refine Spec.enter (n := 27) (rs := [.cell 6 34, .tmp 7]) Tryd.func27 rfl rfl rfl rfl ?_
  refine WP.rs ?_
  refine WPL.bx (v := .agg #[.int .i64 _, .int .i64 _, .int .u64 _]) rfl rfl hO rfl (fun b1 w hO => ?_)
  refine WPL.al hO rfl (fun b2 w hO => ?_)
  refine WPL.as (v := .bool false) rfl rfl ?_
  refine WPL.nil ?_
  refine WP.seq ?_
  refine WP.rs ?_
  refine WPL.mv (v := .int .u64 _) rfl rfl ?_
  refine WPL.fa rfl rfl ?_
  refine WPL.ldL rfl hO inferInstance rfl rfl rfl ?_
  refine WPL.ge rfl rfl rfl ?_
  refine WPL.nil ?_
  refine WP.condP rfl (fun h1 => ?_) (fun h1 => ?_)
  · exact absurd h1 (by omega)
  · refine WP.skip ?_
    refine WP.rs ?_
    refine WPL.ldLA (T := T64) [.int .i64 _, .int .i64 _, .int .u64 _] rfl hO inferInstance rfl agg64 rfl rfl ?_
    refine WPL.mv (v := .int .u64 _) rfl rfl ?_
    refine WPL.call rfl (r3_Number p low inf hG k (by omega)) Tryd.func48 rfl rfl rfl ?_
    rintro _ w ⟨hf18, a18, c18, rfl, hc18, hr18⟩
    have hO := hO.res hf18 hr18
    refine WPL.mv (v := .tuple #[.slice _ _ _, .int .i64 _]) rfl rfl ?_
    refine WPL.ext (v := .slice _ _ _) rfl rfl rfl ?_
    refine WPL.ext (v := .int .i64 _) rfl rfl rfl ?_
    refine WPL.as (v := .slice _ _ _) rfl rfl ?_
    refine WPL.as (v := .int .i64 _) rfl rfl ?_
    refine WPL.nil ?_
    refine WP.rs ?_
    refine WPL.mv (v := .bool _) rfl rfl ?_
    refine WPL.mv (v := .slice _ _ _) rfl rfl ?_
    refine WPL.mv (v := .int .i64 _) rfl rfl ?_
    refine WPL.call rfl (r3_Form s a18 (dig (numM p k)) _ hO.rd (dig_wd _) (val_dig _) hc18 rfl (by omega) (numE p low k) (by omega) (by omega)) Tryd.func35 rfl rfl rfl ?_
    rintro _ w ⟨hf24, a24, c24, rfl, hc24, hr24⟩
    obtain ⟨G24, hG24, hO⟩ := hO.resL hf24 hr24
    unfold dyV
    refine WPL.ext (v := .agg #[.bool _, .slice _ _ _, .int .i64 _]) rfl rfl rfl ?_
    refine WPL.ext (v := .bool _) rfl rfl rfl ?_
    refine WPL.stLA (T := T34) rfl rfl hO inferInstance inferInstance (by simp [Value.oneCell']) rfl rfl (fun w hO => ?_)
    refine WPL.as (v := .bool _) rfl rfl ?_
    refine WPL.nil ?_
    refine WP.ret ?_
    refine ⟨rfl, ?_⟩
    refine RO.cell (T := T34) [.bool _, .slice _ _ _, .int .i64 _] rfl hO inferInstance rfl agg34 rfl ?_
    refine RO.tmp (v := .bool _) rfl ?_
    refine RO.nil ?_
    exact ⟨hO.fr, a24, c24, rfl, hc24, hO.giveG hG24⟩

theorem r3_Bits_no {w0 : World} (p : Nat) (low : Int) (inf : Nat) (hG : 24 ≤ p ∧ p ≤ 53 ∧ -1074 ≤ low ∧ low ≤ -149) (s : Bool) (k : Nat) (hk : inf ≤ k) (hinf : k < 18446744073709551616) : Spec Tryd.prog 27 [.agg #[.int .i64 (p : Int), .int .i64 low, .int .u64 (inf : Int)], .bool s, .int .u64 (k : Int)] w0 (fun v w' => FrX [] w0 w' ∧ v = .tuple #[.agg #[.bool false, .slice none 0 0, .int .i64 0], .bool false]) := by
  have hO : Own [] w0 [] [] [] w0 := Own.start (by intro e he; cases he) (by intro r hr'; cases hr')
  refine Spec.enter (n := 27) (rs := [.cell 6 34, .tmp 7]) Tryd.func27 rfl rfl rfl rfl ?_
  refine WP.rs ?_
  refine WPL.bx (v := .agg #[.int .i64 _, .int .i64 _, .int .u64 _]) rfl rfl hO rfl (fun b1 w hO => ?_)
  refine WPL.al hO rfl (fun b2 w hO => ?_)
  refine WPL.as (v := .bool false) rfl rfl ?_
  refine WPL.nil ?_
  refine WP.seq ?_
  refine WP.rs ?_
  refine WPL.mv (v := .int .u64 _) rfl rfl ?_
  refine WPL.fa rfl rfl ?_
  refine WPL.ldL rfl hO inferInstance rfl rfl rfl ?_
  refine WPL.ge rfl rfl rfl ?_
  refine WPL.nil ?_
  refine WP.condP rfl (fun h1 => ?_) (fun h1 => ?_)
  · refine WP.rs ?_
    refine WPL.bd (pv := []) (vs := [_, _, _]) rfl (bd_of pl34 rfl rfl) rfl ?_
    refine WPL.stLA (T := T34) rfl rfl hO inferInstance inferInstance (by simp [Value.oneCell']) rfl rfl (fun w hO => ?_)
    refine WPL.as (v := .bool false) rfl rfl ?_
    refine WPL.nil ?_
    refine WP.ret ?_
    refine ⟨rfl, ?_⟩
    refine RO.cell (T := T34) [.bool _, .slice _ _ _, .int .i64 _] rfl hO inferInstance rfl agg34 rfl ?_
    refine RO.tmp (v := .bool _) rfl ?_
    refine RO.nil ?_
    exact ⟨hO.fr, rfl⟩
  · exact absurd hk (by omega)

theorem r3_Of_ok {w0 : World} (x : Nat) (hx : x < 18446744073709551616) (hfin : x % 9223372036854775808 < 9218868437227405312) : Spec Tryd.prog 11 [.float .f64 x] w0 (fun v w' => FrX [] w0 w' ∧ DyErr w0 w' 60 (fval x) v) := by
  have hO : Own [] w0 [] [] [] w0 := Own.start (by intro e he; cases he) (by intro r hr'; cases hr')
  refine Spec.enter (n := 24) (rs := [.cell 2 34, .tmp 3]) Tryd.func11 rfl rfl rfl rfl ?_
  refine WP.rs ?_
  refine WPL.al hO rfl (fun b1 w hO => ?_)
  refine WPL.as (v := .int .i64 0) rfl rfl ?_
  refine WPL.nil ?_
  refine WP.rs ?_
  refine WPL.mv (v := .float .f64 _) rfl rfl ?_
  refine WPL.f64bits ext_F64bits rfl rfl ?_
  refine WPL.as (v := .int .u64 _) rfl rfl ?_
  refine WPL.nil ?_
  refine WP.rs ?_
  refine WPL.call rfl (r3_Of64) Tryd.func26 rfl rfl rfl ?_
  rintro _ w ⟨hf10, rfl⟩
  have hO := hO.call hf10
  refine WPL.mv (v := .int .u64 _) rfl rfl ?_
  refine WPL.shrc_u64 (p := 9223372036854775808) rfl rfl rfl hx rfl ?_
  refine WPL.eq rfl rfl rfl ?_
  refine WPL.mv (v := .int .u64 _) rfl rfl ?_
  refine WPL.shlc_u64 (p := 2) rfl rfl rfl rfl ?_
  refine WPL.shrc_u64 (p := 2) rfl rfl rfl (Nat.mod_lt _ (by decide)) rfl ?_
  have e1 : x * 2 % 18446744073709551616 / 2 = x % 9223372036854775808 := by omega
  have e2 : decide (((x / 9223372036854775808 : Nat) : Int) = 1) = decide (x / 9223372036854775808 = 1) := decide_eq_decide.2 (by omega)
  rw [← e1] at hfin
  have hke : numE 53 (-1074) (x * 2 % 18446744073709551616 / 2) ≤ 100000 := by
    unfold numE; split <;> omega
  refine WPL.call rfl (r3_Bits 53 (-1074) 9218868437227405312 (by decide) (decide (((x / 9223372036854775808 : Nat) : Int) = 1)) (x * 2 % 18446744073709551616 / 2) hfin (by decide) hke) Tryd.func27 rfl rfl rfl ?_
  rintro _ w ⟨hf17, a17, c17, rfl, hc17, hr17⟩
  rw [e1, e2] at hc17 hr17
  obtain ⟨G17, hG17, hO⟩ := hO.resL hf17 hr17
  rw [e1, e2]
  unfold dyV
  refine WPL.mv (v := .tuple #[.agg #[.bool _, .slice _ _ _, .int .i64 _], .bool _]) rfl rfl ?_
  refine WPL.ext (v := .agg #[.bool _, .slice _ _ _, .int .i64 _]) rfl rfl rfl ?_
  refine WPL.ext (v := .bool _) rfl rfl rfl ?_
  refine WPL.al hO rfl (fun b2 w hO => ?_)
  refine WPL.stLA (T := T34) rfl rfl hO inferInstance inferInstance (by simp [Value.oneCell']) rfl rfl (fun w hO => ?_)
  refine WPL.as (v := .bool _) rfl rfl ?_
  refine WPL.nil ?_
  refine WP.seq ?_
  refine WP.rs ?_
  refine WPL.mv (v := .bool _) rfl rfl ?_
  refine WPL.not rfl rfl ?_
  refine WPL.nil ?_
  refine WP.condB rfl (fun h1 => ?_) (fun h1 => ?_)
  · exact absurd h1 (by decide)
  · refine WP.skip ?_
    refine WP.rs ?_
    refine WPL.ldLA (T := T34) [.bool _, .slice _ _ _, .int .i64 _] rfl hO inferInstance rfl agg34 rfl rfl ?_
    refine WPL.stLA (T := T34) rfl rfl hO inferInstance inferInstance (by simp [Value.oneCell']) rfl rfl (fun w hO => ?_)
    refine WPL.as (v := .int .i64 0) rfl rfl ?_
    refine WPL.nil ?_
    refine WP.ret ?_
    refine ⟨rfl, ?_⟩
    refine RO.cell (T := T34) [.bool _, .slice _ _ _, .int .i64 _] rfl hO inferInstance rfl agg34 rfl ?_
    refine RO.tmp (v := .int .i64 _) rfl ?_
    refine RO.nil ?_
    exact ⟨hO.fr, a17, c17, rfl, hc17, hO.giveG hG17⟩

theorem r3_Of_no {w0 : World} (x : Nat) (hx : x < 18446744073709551616) (hfin : 9218868437227405312 ≤ x % 9223372036854775808) : Spec Tryd.prog 11 [.float .f64 x] w0 (fun v w' => FrX [] w0 w' ∧ v = .tuple #[.agg #[.bool false, .slice none 0 0, .int .i64 0], .int .i64 30]) := by
  have hO : Own [] w0 [] [] [] w0 := Own.start (by intro e he; cases he) (by intro r hr'; cases hr')
  refine Spec.enter (n := 24) (rs := [.cell 2 34, .tmp 3]) Tryd.func11 rfl rfl rfl rfl ?_
  refine WP.rs ?_
  refine WPL.al hO rfl (fun b1 w hO => ?_)
  refine WPL.as (v := .int .i64 0) rfl rfl ?_
  refine WPL.nil ?_
  refine WP.rs ?_
  refine WPL.mv (v := .float .f64 _) rfl rfl ?_
  refine WPL.f64bits ext_F64bits rfl rfl ?_
  refine WPL.as (v := .int .u64 _) rfl rfl ?_
  refine WPL.nil ?_
  refine WP.rs ?_
  refine WPL.call rfl (r3_Of64) Tryd.func26 rfl rfl rfl ?_
  rintro _ w ⟨hf10, rfl⟩
  have hO := hO.call hf10
  refine WPL.mv (v := .int .u64 _) rfl rfl ?_
  refine WPL.shrc_u64 (p := 9223372036854775808) rfl rfl rfl hx rfl ?_
  refine WPL.eq rfl rfl rfl ?_
  refine WPL.mv (v := .int .u64 _) rfl rfl ?_
  refine WPL.shlc_u64 (p := 2) rfl rfl rfl rfl ?_
  refine WPL.shrc_u64 (p := 2) rfl rfl rfl (Nat.mod_lt _ (by decide)) rfl ?_
  have e1 : x * 2 % 18446744073709551616 / 2 = x % 9223372036854775808 := by omega
  rw [← e1] at hfin
  refine WPL.call rfl (r3_Bits_no 53 (-1074) 9218868437227405312 (by decide) (decide (((x / 9223372036854775808 : Nat) : Int) = 1)) (x * 2 % 18446744073709551616 / 2) hfin (by omega)) Tryd.func27 rfl rfl rfl ?_
  rintro _ w ⟨hf17, rfl⟩
  have hO := hO.call hf17
  refine WPL.mv (v := .tuple #[.agg #[.bool _, .slice _ _ _, .int .i64 _], .bool _]) rfl rfl ?_
  refine WPL.ext (v := .agg #[.bool _, .slice _ _ _, .int .i64 _]) rfl rfl rfl ?_
  refine WPL.ext (v := .bool _) rfl rfl rfl ?_
  refine WPL.al hO rfl (fun b2 w hO => ?_)
  refine WPL.stLA (T := T34) rfl rfl hO inferInstance inferInstance (by simp [Value.oneCell']) rfl rfl (fun w hO => ?_)
  refine WPL.as (v := .bool _) rfl rfl ?_
  refine WPL.nil ?_
  refine WP.seq ?_
  refine WP.rs ?_
  refine WPL.mv (v := .bool _) rfl rfl ?_
  refine WPL.not rfl rfl ?_
  refine WPL.nil ?_
  refine WP.condB rfl (fun h1 => ?_) (fun h1 => ?_)
  · refine WP.rs ?_
    refine WPL.bd (pv := []) (vs := [_, _, _]) rfl (bd_of pl34 rfl rfl) rfl ?_
    refine WPL.stLA (T := T34) rfl rfl hO inferInstance inferInstance (by simp [Value.oneCell']) rfl rfl (fun w hO => ?_)
    refine WPL.as (v := .int .i64 30) rfl rfl ?_
    refine WPL.nil ?_
    refine WP.ret ?_
    refine ⟨rfl, ?_⟩
    refine RO.cell (T := T34) [.bool _, .slice _ _ _, .int .i64 _] rfl hO inferInstance rfl agg34 rfl ?_
    refine RO.tmp (v := .int .i64 _) rfl ?_
    refine RO.nil ?_
    exact ⟨hO.fr, rfl⟩
  · exact absurd h1 (by decide)

theorem r3_Add {w0 : World} (d1 : Dy) (a1 : Option Addr) (c1 : Nat) {D1 : Dy} (hr1 : RowOk w0 [] ⟨a1, ws .u32 (dig d1.m)⟩) (hc1 : (dig d1.m).length ≤ c1) (hD1 : d1.nf = D1) (hb1 : d1.B 60000) (d2 : Dy) (a2 : Option Addr) (c2 : Nat) {D2 : Dy} (hr2 : RowOk w0 [] ⟨a2, ws .u32 (dig d2.m)⟩) (hc2 : (dig d2.m).length ≤ c2) (hD2 : d2.nf = D2) (hb2 : d2.B 60000) : Spec Tryd.prog 12 [dyV d1 a1 c1, dyV d2 a2 c2] w0 (fun v w' => FrX [] w0 w' ∧ DyErr w0 w' 60 (Dy.add D1 D2) v) := by
  have hO : Own [] w0 [] [] [⟨a1, ws .u32 (dig d1.m)⟩, ⟨a2, ws .u32 (dig d2.m)⟩] w0 := Own.start (by intro e he; cases he) (by
      simp only [List.mem_cons, List.not_mem_nil, or_false]
      rintro r (rfl | rfl)
      · exact hr1
      · exact hr2)
  have hB1 := Dy.nf_B hb1
  have hB2 := Dy.nf_B hb2
  rw [hD1] at hB1
  rw [hD2] at hB2
  have hl1 := len_blen (k := 8192) (show blen D1.m ≤ 32 * 8192 by omega)
  have hl2 := len_blen (k := 8192) (show blen D2.m ≤ 32 * 8192 by omega)
  unfold dyV
  refine Spec.enter (n := 104) (rs := [.cell 4 34, .tmp 5]) Tryd.func12 rfl rfl rfl rfl ?_
  refine WP.rs ?_
  refine WPL.bx (v := .agg #[.bool _, .slice _ _ _, .int .i64 _]) rfl rfl hO rfl (fun b1 w hO => ?_)
  refine WPL.bx (v := .agg #[.bool _, .slice _ _ _, .int .i64 _]) rfl rfl hO rfl (fun b2 w hO => ?_)
  refine WPL.al hO rfl (fun b3 w hO => ?_)
  refine WPL.as (v := .int .i64 0) rfl rfl ?_
  refine WPL.nil ?_
  refine WP.rs ?_
  refine WPL.ldLA (T := T34) [.bool _, .slice _ _ _, .int .i64 _] rfl hO inferInstance rfl agg34 rfl rfl ?_
  refine WPL.call rfl (r3_Made d1 a1 c1 hO.rd hc1 hD1 (hb1.mono (by decide))) Tryd.func28 rfl rfl rfl ?_
  rintro _ w ⟨hfm1, p1, q1, rfl, hq1, hrm1⟩
  obtain ⟨GG1, hg1, hO⟩ := hO.resL hfm1 hrm1
  unfold dyV
  refine WPL.mv (v := .tuple #[.agg #[.bool _, .slice _ _ _, .int .i64 _], .bool _]) rfl rfl ?_
  refine WPL.ext (v := .agg #[.bool _, .slice _ _ _, .int .i64 _]) rfl rfl rfl ?_
  refine WPL.ext (v := .bool _) rfl rfl rfl ?_
  refine WPL.al hO rfl (fun b4 w hO => ?_)
  refine WPL.stLA (T := T34) rfl rfl hO inferInstance inferInstance (by simp [Value.oneCell']) rfl rfl (fun w hO => ?_)
  refine WPL.as (v := .bool _) rfl rfl ?_
  refine WPL.nil ?_
  refine WP.rs ?_
  refine WPL.ldLA (T := T34) [.bool _, .slice _ _ _, .int .i64 _] rfl hO inferInstance rfl agg34 rfl rfl ?_
  refine WPL.call rfl (r3_Made d2 a2 c2 hO.rd hc2 hD2 (hb2.mono (by decide))) Tryd.func28 rfl rfl rfl ?_
  rintro _ w ⟨hfm2, p2, q2, rfl, hq2, hrm2⟩
  obtain ⟨GG2, hg2, hO⟩ := hO.resL hfm2 hrm2
  unfold dyV
  refine WPL.mv (v := .tuple #[.agg #[.bool _, .slice _ _ _, .int .i64 _], .bool _]) rfl rfl ?_
  refine WPL.ext (v := .agg #[.bool _, .slice _ _ _, .int .i64 _]) rfl rfl rfl ?_
  refine WPL.ext (v := .bool _) rfl rfl rfl ?_
  refine WPL.al hO rfl (fun b5 w hO => ?_)
  refine WPL.stLA (T := T34) rfl rfl hO inferInstance inferInstance (by simp [Value.oneCell']) rfl rfl (fun w hO => ?_)
  refine WPL.as (v := .bool _) rfl rfl ?_
  refine WPL.nil ?_
  refine WP.seq ?_
  refine WP.rs ?_
  refine WPL.mv (v := .bool _) rfl rfl ?_
  refine WPL.not rfl rfl ?_
  refine WPL.mv (v := .bool _) rfl rfl ?_
  refine WPL.split (s := 25) rfl (fun h1 => ?_) (fun h1 => ?_)
  · exact absurd h1 (by decide)
  · refine WPL.guardT rfl rfl h1 ?_
    refine WPL.mv (v := .bool _) rfl rfl ?_
    refine WPL.guardT rfl rfl h1 ?_
    refine WPL.not rfl rfl ?_
    refine WPL.pkF (v := .bool _) rfl h1 rfl rfl ?_
    refine WPL.nil ?_
    refine WP.condB rfl (fun h2 => ?_) (fun h2 => ?_)
    · exact absurd h2 (by decide)
    · refine WP.skip ?_
      refine WP.seq ?_
      refine WP.rs ?_
      refine WPL.fa rfl rfl ?_
      refine WPL.ldL rfl hO inferInstance rfl rfl rfl ?_
      refine WPL.len rfl rfl ?_
      refine WPL.eq rfl rfl rfl ?_
      refine WPL.nil ?_
      refine WP.condP rfl (fun h3 => ?_) (fun h3 => ?_)
      · refine WP.rs ?_
        refine WPL.ldLA (T := T34) [.bool _, .slice _ _ _, .int .i64 _] rfl hO inferInstance rfl agg34 rfl rfl ?_
        refine WPL.stLA (T := T34) rfl rfl hO inferInstance inferInstance (by simp [Value.oneCell']) rfl rfl (fun w hO => ?_)
        refine WPL.as (v := .int .i64 0) rfl rfl ?_
        refine WPL.nil ?_
        refine WP.ret ?_
        refine ⟨rfl, ?_⟩
        refine RO.cell (T := T34) [.bool _, .slice _ _ _, .int .i64 _] rfl hO inferInstance rfl agg34 rfl ?_
        refine RO.tmp (v := .int .i64 _) rfl ?_
        refine RO.nil ?_
        have e0 := dig_len_zero (by omega : (dig D1.m).length = 0)
        exact ⟨hO.fr, p2, q2, by rw [Dy.add, if_pos e0]; rfl, by rw [Dy.add, if_pos e0]; exact hq2, by rw [Dy.add, if_pos e0]; exact hO.giveG hg2⟩
      · refine WP.skip ?_
        refine WP.seq ?_
        refine WP.rs ?_
        refine WPL.fa rfl rfl ?_
        refine WPL.ldL rfl hO inferInstance rfl rfl rfl ?_
        refine WPL.len rfl rfl ?_
        refine WPL.eq rfl rfl rfl ?_
        refine WPL.nil ?_
        refine WP.condP rfl (fun h4 => ?_) (fun h4 => ?_)
        · refine WP.rs ?_
          refine WPL.ldLA (T := T34) [.bool _, .slice _ _ _, .int .i64 _] rfl hO inferInstance rfl agg34 rfl rfl ?_
          refine WPL.stLA (T := T34) rfl rfl hO inferInstance inferInstance (by simp [Value.oneCell']) rfl rfl (fun w hO => ?_)
          refine WPL.as (v := .int .i64 0) rfl rfl ?_
          refine WPL.nil ?_
          refine WP.ret ?_
          refine ⟨rfl, ?_⟩
          refine RO.cell (T := T34) [.bool _, .slice _ _ _, .int .i64 _] rfl hO inferInstance rfl agg34 rfl ?_
          refine RO.tmp (v := .int .i64 _) rfl ?_
          refine RO.nil ?_
          have e0 := dig_len_zero (by omega : (dig D2.m).length = 0)
          have e1 : D1.m ≠ 0 := fun e => h3 (by rw [e, dig_zero]; rfl)
          exact ⟨hO.fr, p1, q1, by rw [Dy.add, if_neg e1, if_pos e0]; rfl, by rw [Dy.add, if_neg e1, if_pos e0]; exact hq1, by rw [Dy.add, if_neg e1, if_pos e0]; exact hO.giveG hg1⟩
        · refine WP.skip ?_
          refine WP.rs ?_
          refine WPL.fa rfl rfl ?_
          refine WPL.ldL rfl hO inferInstance rfl rfl rfl ?_
          refine WPL.fa rfl rfl ?_
          refine WPL.ldL rfl hO inferInstance rfl rfl rfl ?_
          refine WPL.min2 rfl rfl rfl ?_
          refine WPL.as (v := .int .i64 _) rfl rfl ?_
          refine WPL.nil ?_
          refine WP.rs ?_
          refine WPL.fa rfl rfl ?_
          refine WPL.ldL rfl hO inferInstance rfl rfl rfl ?_
          refine WPL.fa rfl rfl ?_
          refine WPL.ldL rfl hO inferInstance rfl rfl rfl ?_
          refine WPL.mv (v := .int .i64 _) rfl rfl ?_
          refine WPL.subI rfl rfl (by omega) rfl ?_
          refine WPL.call rfl (r2_Moved p1 (dig D1.m) _ (hO.rdG hg1) (dig_wd _) (val_dig _) hq1 rfl (by omega) (D1.e - min D1.e D2.e) (by omega) (by omega)) Tryd.func29 rfl rfl rfl ?_
          rintro _ w ⟨hf51, a51, c51, rfl, hc51, hr51⟩
          have hO := hO.res hf51 hr51
          have hbs1 := @blen_shift D1.m (D1.e - min D1.e D2.e) (by omega)
          have hls1 := len_blen (k := 8192) (show blen (shiftN D1.m (D1.e - min D1.e D2.e)) ≤ 32 * 8192 by omega)
          refine WPL.as (v := .slice _ _ _) rfl rfl ?_
          refine WPL.nil ?_
          refine WP.rs ?_
          refine WPL.fa rfl rfl ?_
          refine WPL.ldL rfl hO inferInstance rfl rfl rfl ?_
          refine WPL.fa rfl rfl ?_
          refine WPL.ldL rfl hO inferInstance rfl rfl rfl ?_
          refine WPL.mv (v := .int .i64 _) rfl rfl ?_
          refine WPL.subI rfl rfl (by omega) rfl ?_
          refine WPL.call rfl (r2_Moved p2 (dig D2.m) _ (hO.rdG hg2) (dig_wd _) (val_dig _) hq2 rfl (by omega) (D2.e - min D1.e D2.e) (by omega) (by omega)) Tryd.func29 rfl rfl rfl ?_
          rintro _ w ⟨hf58, a58, c58, rfl, hc58, hr58⟩
          have hO := hO.res hf58 hr58
          have hbs2 := @blen_shift D2.m (D2.e - min D1.e D2.e) (by omega)
          have hls2 := len_blen (k := 8192) (show blen (shiftN D2.m (D2.e - min D1.e D2.e)) ≤ 32 * 8192 by omega)
          refine WPL.as (v := .slice _ _ _) rfl rfl ?_
          refine WPL.nil ?_
          refine WP.seq ?_
          refine WP.rs ?_
          refine WPL.mv (v := .slice _ _ _) rfl rfl ?_
          refine WPL.len rfl rfl ?_
          refine WPL.gt rfl rfl rfl ?_
          refine WPL.mv (v := .bool _) rfl rfl ?_
          refine WPL.split (s := 62) rfl (fun h5 => ?_) (fun h5 => ?_)
          · have ph5 := of_decide_eq_true h5
            exact absurd (of_decide_eq_true h5) (by omega)
          · have ph5 := of_decide_eq_false h5
            refine WPL.guardT rfl rfl h5 ?_
            refine WPL.mv (v := .slice _ _ _) rfl rfl ?_
            refine WPL.guardT rfl rfl h5 ?_
            refine WPL.len rfl rfl ?_
            refine WPL.guardT rfl rfl h5 ?_
            refine WPL.gt rfl rfl rfl ?_
            refine WPL.pkF (v := .bool _) rfl h5 rfl rfl ?_
            refine WPL.nil ?_
            refine WP.condP rfl (fun h6 => ?_) (fun h6 => ?_)
            · exact absurd h6 (by omega)
            · refine WP.skip ?_
              refine WP.seq ?_
              refine WP.rs ?_
              refine WPL.fa rfl rfl ?_
              refine WPL.ldL rfl hO inferInstance rfl rfl rfl ?_
              refine WPL.fa rfl rfl ?_
              refine WPL.ldL rfl hO inferInstance rfl rfl rfl ?_
              refine WPL.eqB rfl rfl rfl ?_
              refine WPL.nil ?_
              refine WP.condB rfl (fun h7 => ?_) (fun h7 => ?_)
              · refine WP.seq ?_
                refine WP.draw [(0, 0), (1, 1), (2, 0), (3, 0), (5, 0), (4, 2), (6, 2), (7, 0), (8, 0), (9, 2), (10, 0)] [9] mixed (by kernel_rfl) (by kernel_rfl) rfl hO (fun w hO => ?_)
                refine WPD.pv rfl rfl (fun w k' h => WPL.fa rfl rfl (WPL.nil h)) ?_
                refine WPD.val rfl rfl (fun w hO k' h => WPL.ldL rfl hO inferInstance rfl rfl rfl (WPL.nil h)) ?_
                refine WPD.pv rfl rfl (fun w k' h => WPL.mv (v := .slice _ _ _) rfl rfl (WPL.nil h)) ?_
                refine WPD.pv rfl rfl (fun w k' h => WPL.mv (v := .slice _ _ _) rfl rfl (WPL.nil h)) ?_
                refine WPD.pv rfl rfl (fun w k' h => WPL.mv (v := .int .i64 _) rfl rfl (WPL.nil h)) ?_
                refine WPD.eff rfl hO ?_
                refine WPL.call rfl (r2_Plus a51 (dig (shiftN D1.m (D1.e - min D1.e D2.e))) _ hO.rd (dig_wd _) (val_dig _) hc51 rfl (by omega) a58 (dig (shiftN D2.m (D2.e - min D1.e D2.e))) _ hO.rd (dig_wd _) (val_dig _) hc58 rfl (by omega)) Tryd.func31 rfl rfl rfl ?_
                rintro _ w ⟨hf77, a77, c77, rfl, hc77, hr77⟩
                have hO := hO.res hf77 hr77
                refine WPL.nil ?_
                refine WPD.eff rfl (Own.dropR hO) ?_
                have hba := blen_add (k := 262143) (a := shiftN D1.m (D1.e - min D1.e D2.e)) (b := shiftN D2.m (D2.e - min D1.e D2.e)) (by omega) (by omega)
                have hlt := len_blen (k := 8192) (show blen (shiftN D1.m (D1.e - min D1.e D2.e) + shiftN D2.m (D2.e - min D1.e D2.e)) ≤ 32 * 8192 by omega)
                refine WPL.call rfl (r3_told (D1.s) a77 (dig (shiftN D1.m (D1.e - min D1.e D2.e) + shiftN D2.m (D2.e - min D1.e D2.e))) _ hO.rd (dig_wd _) (val_dig _) (by assumption) rfl (by omega) (min D1.e D2.e) (by omega) (by omega)) Tryd.func30 rfl rfl rfl ?_
                rintro _ w ⟨hf79, a79, c79, rfl, hc79, hr79⟩
                obtain ⟨G79, hG79, hO⟩ := hO.resL hf79 hr79
                unfold dyV
                refine WPL.nil ?_
                refine WPD.pv rfl rfl (fun w k' h => WPL.ext (v := .agg #[.bool _, .slice _ _ _, .int .i64 _]) rfl rfl rfl (WPL.nil h)) ?_
                refine WPD.pv rfl rfl (fun w k' h => WPL.ext (v := .int .i64 _) rfl rfl rfl (WPL.nil h)) ?_
                refine WPD.eff rfl (Own.dropR (Own.drop hO)) ?_
                refine WPL.stLA (T := T34) rfl rfl hO inferInstance inferInstance (by simp [Value.oneCell']) rfl rfl (fun w hO => ?_)
                refine WPL.nil ?_
                refine WPD.pv rfl rfl (fun w k' h => WPL.as (v := .int .i64 _) rfl rfl (WPL.nil h)) ?_
                refine WPD.nilX (by kernel_rfl) ?_
                refine WP.ret ?_
                refine ⟨rfl, ?_⟩
                refine RO.cell (T := T34) [.bool _, .slice _ _ _, .int .i64 _] rfl hO inferInstance rfl agg34 rfl ?_
                refine RO.tmp (v := .int .i64 _) rfl ?_
                refine RO.nil ?_
                have e1 : D1.m ≠ 0 := fun e => h3 (by rw [e, dig_zero]; rfl)
                have e2 : D2.m ≠ 0 := fun e => h4 (by rw [e, dig_zero]; rfl)
                first
                | (rw [Dy.add_same e1 e2 (by simpa using h7)]
                   exact ⟨hO.fr, a79, c79, rfl, hc79, hO.giveG hG79⟩)
                | (rw [Dy.add_ge e1 e2 (by simpa using h7) (by omega)]
                   exact ⟨hO.fr, a92, c92, rfl, hc92, hO.giveG hG92⟩)
                | (rw [Dy.add_lt e1 e2 (by simpa using h7) hlt0]
                   exact ⟨hO.fr, a101, c101, rfl, hc101, hO.giveG hG101⟩)
              · refine WP.skip ?_
                refine WP.seq ?_
                refine WP.rs ?_
                refine WPL.mv (v := .slice _ _ _) rfl rfl ?_
                refine WPL.mv (v := .slice _ _ _) rfl rfl ?_
                refine WPL.call rfl (r2_Cmp a51 (dig (shiftN D1.m (D1.e - min D1.e D2.e))) _ hO.rd (dig_wd _) (val_dig _) hc51 rfl (by omega) a58 (dig (shiftN D2.m (D2.e - min D1.e D2.e))) _ hO.rd (dig_wd _) (val_dig _) hc58 rfl (by omega)) Tryd.func32 rfl rfl rfl ?_
                rintro _ w ⟨rfl, hf84⟩
                have hO := hO.call hf84
                refine WPL.ge rfl rfl rfl ?_
                refine WPL.nil ?_
                refine WP.condP rfl (fun h8 => ?_) (fun h8 => ?_)
                · refine WP.seq ?_
                  refine WP.draw [(0, 0), (1, 1), (2, 0), (3, 0), (5, 0), (4, 2), (6, 2), (7, 0), (8, 0), (9, 2), (10, 0)] [9] mixed (by kernel_rfl) (by kernel_rfl) rfl hO (fun w hO => ?_)
                  refine WPD.pv rfl rfl (fun w k' h => WPL.fa rfl rfl (WPL.nil h)) ?_
                  refine WPD.val rfl rfl (fun w hO k' h => WPL.ldL rfl hO inferInstance rfl rfl rfl (WPL.nil h)) ?_
                  refine WPD.pv rfl rfl (fun w k' h => WPL.mv (v := .slice _ _ _) rfl rfl (WPL.nil h)) ?_
                  refine WPD.pv rfl rfl (fun w k' h => WPL.mv (v := .slice _ _ _) rfl rfl (WPL.nil h)) ?_
                  refine WPD.pv rfl rfl (fun w k' h => WPL.mv (v := .int .i64 _) rfl rfl (WPL.nil h)) ?_
                  refine WPD.eff rfl hO ?_
                  have hle : shiftN D2.m (D2.e - min D1.e D2.e) ≤ shiftN D1.m (D1.e - min D1.e D2.e) := by
                    rcases Nat.lt_or_ge (shiftN D1.m (D1.e - min D1.e D2.e)) (shiftN D2.m (D2.e - min D1.e D2.e)) with h | h
                    · rw [cmpN_lt h] at *; omega
                    · exact h
                  refine WPL.call rfl (r2_Minus a51 (dig (shiftN D1.m (D1.e - min D1.e D2.e))) _ hO.rd (dig_wd _) (val_dig _) hc51 rfl (by omega) a58 (dig (shiftN D2.m (D2.e - min D1.e D2.e))) _ hO.rd (dig_wd _) (val_dig _) hc58 rfl (by omega) hle (len_mono hle)) Tryd.func33 rfl rfl rfl ?_
                  rintro _ w ⟨hf90, a90, c90, rfl, hc90, hr90⟩
                  have hO := hO.res hf90 hr90
                  refine WPL.nil ?_
                  refine WPD.eff rfl (Own.dropR hO) ?_
                  have hbm := blen_mono (Nat.sub_le (shiftN D1.m (D1.e - min D1.e D2.e)) (shiftN D2.m (D2.e - min D1.e D2.e)))
                  have hlt := len_blen (k := 8192) (show blen (shiftN D1.m (D1.e - min D1.e D2.e) - shiftN D2.m (D2.e - min D1.e D2.e)) ≤ 32 * 8192 by omega)
                  refine WPL.call rfl (r3_told (D1.s) a90 (dig (shiftN D1.m (D1.e - min D1.e D2.e) - shiftN D2.m (D2.e - min D1.e D2.e))) _ hO.rd (dig_wd _) (val_dig _) (by assumption) rfl (by omega) (min D1.e D2.e) (by omega) (by omega)) Tryd.func30 rfl rfl rfl ?_
                  rintro _ w ⟨hf92, a92, c92, rfl, hc92, hr92⟩
                  obtain ⟨G92, hG92, hO⟩ := hO.resL hf92 hr92
                  unfold dyV
                  refine WPL.nil ?_
                  refine WPD.pv rfl rfl (fun w k' h => WPL.ext (v := .agg #[.bool _, .slice _ _ _, .int .i64 _]) rfl rfl rfl (WPL.nil h)) ?_
                  refine WPD.pv rfl rfl (fun w k' h => WPL.ext (v := .int .i64 _) rfl rfl rfl (WPL.nil h)) ?_
                  refine WPD.eff rfl (Own.dropR (Own.drop hO)) ?_
                  refine WPL.stLA (T := T34) rfl rfl hO inferInstance inferInstance (by simp [Value.oneCell']) rfl rfl (fun w hO => ?_)
                  refine WPL.nil ?_
                  refine WPD.pv rfl rfl (fun w k' h => WPL.as (v := .int .i64 _) rfl rfl (WPL.nil h)) ?_
                  refine WPD.nilX (by kernel_rfl) ?_
                  refine WP.ret ?_
                  refine ⟨rfl, ?_⟩
                  refine RO.cell (T := T34) [.bool _, .slice _ _ _, .int .i64 _] rfl hO inferInstance rfl agg34 rfl ?_
                  refine RO.tmp (v := .int .i64 _) rfl ?_
                  refine RO.nil ?_
                  have e1 : D1.m ≠ 0 := fun e => h3 (by rw [e, dig_zero]; rfl)
                  have e2 : D2.m ≠ 0 := fun e => h4 (by rw [e, dig_zero]; rfl)
                  first
                  | (rw [Dy.add_same e1 e2 (by simpa using h7)]
                     exact ⟨hO.fr, a79, c79, rfl, hc79, hO.giveG hG79⟩)
                  | (rw [Dy.add_ge e1 e2 (by simpa using h7) (by omega)]
                     exact ⟨hO.fr, a92, c92, rfl, hc92, hO.giveG hG92⟩)
                  | (rw [Dy.add_lt e1 e2 (by simpa using h7) hlt0]
                     exact ⟨hO.fr, a101, c101, rfl, hc101, hO.giveG hG101⟩)
                · refine WP.skip ?_
                  refine WP.seq ?_
                  refine WP.draw [(0, 0), (1, 1), (2, 0), (3, 0), (5, 0), (4, 2), (6, 2), (7, 0), (8, 0), (9, 2), (10, 0)] [9] mixed (by kernel_rfl) (by kernel_rfl) rfl hO (fun w hO => ?_)
                  refine WPD.pv rfl rfl (fun w k' h => WPL.fa rfl rfl (WPL.nil h)) ?_
                  refine WPD.val rfl rfl (fun w hO k' h => WPL.ldL rfl hO inferInstance rfl rfl rfl (WPL.nil h)) ?_
                  refine WPD.pv rfl rfl (fun w k' h => WPL.mv (v := .slice _ _ _) rfl rfl (WPL.nil h)) ?_
                  refine WPD.pv rfl rfl (fun w k' h => WPL.mv (v := .slice _ _ _) rfl rfl (WPL.nil h)) ?_
                  refine WPD.pv rfl rfl (fun w k' h => WPL.mv (v := .int .i64 _) rfl rfl (WPL.nil h)) ?_
                  refine WPD.eff rfl hO ?_
                  have hlt0 : shiftN D1.m (D1.e - min D1.e D2.e) < shiftN D2.m (D2.e - min D1.e D2.e) := by
                    rcases Nat.lt_or_ge (shiftN D1.m (D1.e - min D1.e D2.e)) (shiftN D2.m (D2.e - min D1.e D2.e)) with h | h
                    · exact h
                    · exfalso
                      rcases Nat.lt_or_ge (shiftN D2.m (D2.e - min D1.e D2.e)) (shiftN D1.m (D1.e - min D1.e D2.e)) with h' | h'
                      · rw [cmpN_gt h'] at *; omega
                      · rw [cmpN_eq (Nat.le_antisymm h' h)] at *; omega
                  have hle := Nat.le_of_lt hlt0
                  refine WPL.call rfl (r2_Minus a58 (dig (shiftN D2.m (D2.e - min D1.e D2.e))) _ hO.rd (dig_wd _) (val_dig _) hc58 rfl (by omega) a51 (dig (shiftN D1.m (D1.e - min D1.e D2.e))) _ hO.rd (dig_wd _) (val_dig _) hc51 rfl (by omega) hle (len_mono hle)) Tryd.func33 rfl rfl rfl ?_
                  rintro _ w ⟨hf99, a99, c99, rfl, hc99, hr99⟩
                  have hO := hO.res hf99 hr99
                  refine WPL.nil ?_
                  refine WPD.eff rfl (Own.dropR hO) ?_
                  have hbm := blen_mono (Nat.sub_le (shiftN D2.m (D2.e - min D1.e D2.e)) (shiftN D1.m (D1.e - min D1.e D2.e)))
                  have hlt := len_blen (k := 8192) (show blen (shiftN D2.m (D2.e - min D1.e D2.e) - shiftN D1.m (D1.e - min D1.e D2.e)) ≤ 32 * 8192 by omega)
                  refine WPL.call rfl (r3_told (D2.s) a99 (dig (shiftN D2.m (D2.e - min D1.e D2.e) - shiftN D1.m (D1.e - min D1.e D2.e))) _ hO.rd (dig_wd _) (val_dig _) (by assumption) rfl (by omega) (min D1.e D2.e) (by omega) (by omega)) Tryd.func30 rfl rfl rfl ?_
                  rintro _ w ⟨hf101, a101, c101, rfl, hc101, hr101⟩
                  obtain ⟨G101, hG101, hO⟩ := hO.resL hf101 hr101
                  unfold dyV
                  refine WPL.nil ?_
                  refine WPD.pv rfl rfl (fun w k' h => WPL.ext (v := .agg #[.bool _, .slice _ _ _, .int .i64 _]) rfl rfl rfl (WPL.nil h)) ?_
                  refine WPD.pv rfl rfl (fun w k' h => WPL.ext (v := .int .i64 _) rfl rfl rfl (WPL.nil h)) ?_
                  refine WPD.eff rfl (Own.dropR (Own.drop hO)) ?_
                  refine WPL.stLA (T := T34) rfl rfl hO inferInstance inferInstance (by simp [Value.oneCell']) rfl rfl (fun w hO => ?_)
                  refine WPL.nil ?_
                  refine WPD.pv rfl rfl (fun w k' h => WPL.as (v := .int .i64 _) rfl rfl (WPL.nil h)) ?_
                  refine WPD.nilX (by kernel_rfl) ?_
                  refine WP.ret ?_
                  refine ⟨rfl, ?_⟩
                  refine RO.cell (T := T34) [.bool _, .slice _ _ _, .int .i64 _] rfl hO inferInstance rfl agg34 rfl ?_
                  refine RO.tmp (v := .int .i64 _) rfl ?_
                  refine RO.nil ?_
                  have e1 : D1.m ≠ 0 := fun e => h3 (by rw [e, dig_zero]; rfl)
                  have e2 : D2.m ≠ 0 := fun e => h4 (by rw [e, dig_zero]; rfl)
                  first
                  | (rw [Dy.add_same e1 e2 (by simpa using h7)]
                     exact ⟨hO.fr, a79, c79, rfl, hc79, hO.giveG hG79⟩)
                  | (rw [Dy.add_ge e1 e2 (by simpa using h7) (by omega)]
                     exact ⟨hO.fr, a92, c92, rfl, hc92, hO.giveG hG92⟩)
                  | (rw [Dy.add_lt e1 e2 (by simpa using h7) hlt0]
                     exact ⟨hO.fr, a101, c101, rfl, hc101, hO.giveG hG101⟩)

theorem r3_Against_ge {w0 : World} (a : Option Addr) (l : List Nat) (c : Nat) {n N : Nat} (hr : RowOk w0 [] ⟨a, ws .u32 l⟩) (hw : Wd l) (hN : val l = N) (hc : l.length ≤ c) (hn : n = l.length) (hb : l.length ≤ 1000000)(a2 : Option Addr) (l2 : List Nat) (c2 : Nat) {n2 N2 : Nat} (hr2 : RowOk w0 [] ⟨a2, ws .u32 l2⟩) (hw2 : Wd l2) (hN2 : val l2 = N2) (hc2 : l2.length ≤ c2) (hn2 : n2 = l2.length) (hb2 : l2.length ≤ 1000000) (e f : Int) (he : -10000000 ≤ e ∧ e ≤ 10000000) (hf : -10000000 ≤ f ∧ f ≤ 10000000) (hge : f ≤ e) : Spec Tryd.prog 37 [.slice a n c, .int .i64 e, .slice a2 n2 c2, .int .i64 f] w0 (fun v w' => FrX [] w0 w' ∧ v = .int .i64 (cmpD N e N2 f)) := by
  subst hn hn2
  have hO : Own [] w0 [] [] [⟨a, ws .u32 l⟩, ⟨a2, ws .u32 l2⟩] w0 := Own.start (by intro e he; cases he) (by
      simp only [List.mem_cons, List.not_mem_nil, or_false]
      rintro r (rfl | rfl)
      · exact hr
      · exact hr2)
  have hbn := blen_len N
  have hbn2 := blen_len N2
  have hdl := dig_length_le hw
  have hdl2 := dig_length_le hw2
  rw [hN] at hdl
  rw [hN2] at hdl2
  refine Spec.enter (n := 61) (rs := [.tmp 8]) Tryd.func37 rfl rfl rfl rfl ?_
  refine WP.rs ?_
  refine WPL.as (v := .int .i64 0) rfl rfl ?_
  refine WPL.nil ?_
  refine WP.rs ?_
  refine WPL.mv (v := .slice _ _ _) rfl rfl ?_
  refine WPL.call rfl (r2_Len a l _ hO.rd hw hN hc rfl (by omega)) Tryd.func36 rfl rfl rfl ?_
  rintro _ _ ⟨rfl, rfl⟩
  refine WPL.cv_u64 (a := blen N) rfl (by omega) rfl ?_
  refine WPL.as (v := .int .u64 _) rfl rfl ?_
  refine WPL.nil ?_
  refine WP.rs ?_
  refine WPL.mv (v := .slice _ _ _) rfl rfl ?_
  refine WPL.call rfl (r2_Len a2 l2 _ hO.rd hw2 hN2 hc2 rfl (by omega)) Tryd.func36 rfl rfl rfl ?_
  rintro _ _ ⟨rfl, rfl⟩
  refine WPL.cv_u64 (a := blen N2) rfl (by omega) rfl ?_
  refine WPL.as (v := .int .u64 _) rfl rfl ?_
  refine WPL.nil ?_
  refine WP.seq ?_
  refine WP.rs ?_
  refine WPL.mv (v := .int .u64 _) rfl rfl ?_
  refine WPL.eq rfl rfl rfl ?_
  refine WPL.mv (v := .bool _) rfl rfl ?_
  refine WPL.split (s := 20) rfl (fun h1 => ?_) (fun h1 => ?_)
  · have ph1 := of_decide_eq_true h1
    refine WPL.guardF rfl rfl rfl h1 ?_
    refine WPL.guardF rfl rfl rfl h1 ?_
    refine WPL.pkT (v := .bool true) rfl h1 rfl rfl ?_
    refine WPL.nil ?_
    refine WP.cT rfl rfl ?_
    refine WP.rs ?_
    refine WPL.mv (v := .slice _ _ _) rfl rfl ?_
    refine WPL.mv (v := .slice _ _ _) rfl rfl ?_
    refine WPL.call rfl (r2_Cmp a l _ hO.rd hw hN hc rfl (by omega) a2 l2 _ hO.rd hw2 hN2 hc2 rfl (by omega)) Tryd.func32 rfl rfl rfl ?_
    rintro _ w ⟨rfl, hf26⟩
    have hO := hO.call hf26
    refine WPL.as (v := .int .i64 _) rfl rfl ?_
    refine WPL.nil ?_
    refine WP.ret ?_
    refine ⟨rfl, ?_⟩
    refine RO.tmp (v := .int .i64 _) rfl ?_
    refine RO.nil ?_
    first
    | (have hz : N = 0 := blen_eq_zero (by omega)
       exact ⟨hO.fr, by rw [cmpD_zero (.inl hz)]; rfl⟩)
    | (have hz : N2 = 0 := blen_eq_zero (by omega)
       exact ⟨hO.fr, by rw [cmpD_zero (.inr hz)]; rfl⟩)
    | (have hz : N ≠ 0 := fun hz => ph1 (by rw [hz]; rfl)
       first
       | exact ⟨hO.fr, by rw [cmpD_hi hge hz (by omega)]; rfl⟩
       | exact ⟨hO.fr, by rw [cmpD_lo hge hz (by omega)]; rfl⟩
       | exact ⟨hO.fr, by rw [cmpD_ge hge]; rfl⟩)
  · have ph1 := of_decide_eq_false h1
    refine WPL.guardT rfl rfl h1 ?_
    refine WPL.mv (v := .int .u64 _) rfl rfl ?_
    refine WPL.guardT rfl rfl h1 ?_
    refine WPL.eq rfl rfl rfl ?_
    refine WPL.pkF (v := .bool _) rfl h1 rfl rfl ?_
    refine WPL.nil ?_
    refine WP.condP rfl (fun h2 => ?_) (fun h2 => ?_)
    · refine WP.rs ?_
      refine WPL.mv (v := .slice _ _ _) rfl rfl ?_
      refine WPL.mv (v := .slice _ _ _) rfl rfl ?_
      refine WPL.call rfl (r2_Cmp a l _ hO.rd hw hN hc rfl (by omega) a2 l2 _ hO.rd hw2 hN2 hc2 rfl (by omega)) Tryd.func32 rfl rfl rfl ?_
      rintro _ w ⟨rfl, hf26⟩
      have hO := hO.call hf26
      refine WPL.as (v := .int .i64 _) rfl rfl ?_
      refine WPL.nil ?_
      refine WP.ret ?_
      refine ⟨rfl, ?_⟩
      refine RO.tmp (v := .int .i64 _) rfl ?_
      refine RO.nil ?_
      first
      | (have hz : N = 0 := blen_eq_zero (by omega)
         exact ⟨hO.fr, by rw [cmpD_zero (.inl hz)]; rfl⟩)
      | (have hz : N2 = 0 := blen_eq_zero (by omega)
         exact ⟨hO.fr, by rw [cmpD_zero (.inr hz)]; rfl⟩)
      | (have hz : N ≠ 0 := fun hz => ph1 (by rw [hz]; rfl)
         first
         | exact ⟨hO.fr, by rw [cmpD_hi hge hz (by omega)]; rfl⟩
         | exact ⟨hO.fr, by rw [cmpD_lo hge hz (by omega)]; rfl⟩
         | exact ⟨hO.fr, by rw [cmpD_ge hge]; rfl⟩)
    · refine WP.skip ?_
      refine WP.seq ?_
      refine WP.rs ?_
      refine WPL.mv (v := .int .i64 _) rfl rfl ?_
      refine WPL.mv (v := .int .i64 _) rfl rfl ?_
      refine WPL.lt rfl rfl rfl ?_
      refine WPL.nil ?_
      refine WP.condP rfl (fun h3 => ?_) (fun h3 => ?_)
      · exact absurd h3 (by omega)
      · refine WP.skip ?_
        refine WP.rs ?_
        refine WPL.mv (v := .int .i64 _) rfl rfl ?_
        refine WPL.cm_u64I rfl rfl ?_
        refine WPL.mv (v := .int .i64 _) rfl rfl ?_
        refine WPL.cm_u64I rfl rfl ?_
        refine WPL.sub_u64 rfl rfl (by omega) rfl ?_
        have ed : ((e % 18446744073709551616).toNat + 18446744073709551616 - (f % 18446744073709551616).toNat) % 18446744073709551616 = (e - f).toNat := by omega
        rw [ed]
        refine WPL.as (v := .int .u64 _) rfl rfl ?_
        refine WPL.nil ?_
        refine WP.seq ?_
        refine WP.rs ?_
        refine WPL.mv (v := .int .u64 _) rfl rfl ?_
        refine WPL.gt rfl rfl rfl ?_
        refine WPL.mv (v := .bool _) rfl rfl ?_
        refine WPL.split (s := 43) rfl (fun h4 => ?_) (fun h4 => ?_)
        · have ph4 := of_decide_eq_true h4
          exact absurd (of_decide_eq_true h4) (by omega)
        · have ph4 := of_decide_eq_false h4
          refine WPL.guardT rfl rfl h4 ?_
          refine WPL.mv (v := .int .u64 _) rfl rfl ?_
          refine WPL.guardT rfl rfl h4 ?_
          refine WPL.mv (v := .int .u64 _) rfl rfl ?_
          refine WPL.guardT rfl rfl h4 ?_
          refine WPL.u64To (blen N + (e - f).toNat) (.inr (.inl rfl)) rfl rfl (.inr (.inl ⟨rfl, rfl⟩)) (by omega) rfl ?_
          refine WPL.guardT rfl rfl h4 ?_
          refine WPL.mv (v := .int .u64 _) rfl rfl ?_
          refine WPL.guardT rfl rfl h4 ?_
          refine WPL.gt rfl rfl rfl ?_
          refine WPL.pkF (v := .bool _) rfl h4 rfl rfl ?_
          refine WPL.nil ?_
          refine WP.condP rfl (fun h5 => ?_) (fun h5 => ?_)
          · refine WP.rs ?_
            refine WPL.as (v := .int .i64 1) rfl rfl ?_
            refine WPL.nil ?_
            refine WP.ret ?_
            refine ⟨rfl, ?_⟩
            refine RO.tmp (v := .int .i64 _) rfl ?_
            refine RO.nil ?_
            first
            | (have hz : N = 0 := blen_eq_zero (by omega)
               exact ⟨hO.fr, by rw [cmpD_zero (.inl hz)]; rfl⟩)
            | (have hz : N2 = 0 := blen_eq_zero (by omega)
               exact ⟨hO.fr, by rw [cmpD_zero (.inr hz)]; rfl⟩)
            | (have hz : N ≠ 0 := fun hz => ph1 (by rw [hz]; rfl)
               first
               | exact ⟨hO.fr, by rw [cmpD_hi hge hz (by omega)]; rfl⟩
               | exact ⟨hO.fr, by rw [cmpD_lo hge hz (by omega)]; rfl⟩
               | exact ⟨hO.fr, by rw [cmpD_ge hge]; rfl⟩)
          · refine WP.skip ?_
            refine WP.seq ?_
            refine WP.rs ?_
            refine WPL.mv (v := .int .u64 _) rfl rfl ?_
            refine WPL.mv (v := .int .u64 _) rfl rfl ?_
            refine WPL.u64To (blen N + (e - f).toNat) (.inr (.inl rfl)) rfl rfl (.inr (.inl ⟨rfl, rfl⟩)) (by omega) rfl ?_
            refine WPL.mv (v := .int .u64 _) rfl rfl ?_
            refine WPL.lt rfl rfl rfl ?_
            refine WPL.nil ?_
            refine WP.condP rfl (fun h6 => ?_) (fun h6 => ?_)
            · refine WP.rs ?_
              refine WPL.as (v := .int .i64 (-1)) rfl rfl ?_
              refine WPL.nil ?_
              refine WP.ret ?_
              refine ⟨rfl, ?_⟩
              refine RO.tmp (v := .int .i64 _) rfl ?_
              refine RO.nil ?_
              first
              | (have hz : N = 0 := blen_eq_zero (by omega)
                 exact ⟨hO.fr, by rw [cmpD_zero (.inl hz)]; rfl⟩)
              | (have hz : N2 = 0 := blen_eq_zero (by omega)
                 exact ⟨hO.fr, by rw [cmpD_zero (.inr hz)]; rfl⟩)
              | (have hz : N ≠ 0 := fun hz => ph1 (by rw [hz]; rfl)
                 first
                 | exact ⟨hO.fr, by rw [cmpD_hi hge hz (by omega)]; rfl⟩
                 | exact ⟨hO.fr, by rw [cmpD_lo hge hz (by omega)]; rfl⟩
                 | exact ⟨hO.fr, by rw [cmpD_ge hge]; rfl⟩)
            · refine WP.skip ?_
              refine WP.rs ?_
              refine WPL.mv (v := .slice _ _ _) rfl rfl ?_
              refine WPL.mv (v := .int .u64 _) rfl rfl ?_
              refine WPL.cv_i64 rfl (by omega) rfl ?_
              have hbm := @blen_mul2 N (e - f).toNat
              have hlm := len_blen (k := 10000000) (show blen (N * 2 ^ (e - f).toNat) ≤ 32 * 10000000 by omega)
              refine WPL.call rfl (r2_Moved a l _ hO.rd hw hN hc rfl (by omega) (((e - f).toNat : Nat) : Int) (by omega) (by omega)) Tryd.func29 rfl rfl rfl ?_
              rintro _ w ⟨hf58, a58, c58, rfl, hc58, hr58⟩
              have es : shiftN N (((e - f).toNat : Nat) : Int) = N * 2 ^ (e - f).toNat := by rw [shiftN_pos (by omega)]; congr 1
              rw [es] at hc58 hr58
              simp only [es]
              have hO := hO.res hf58 hr58
              refine WPL.mv (v := .slice _ _ _) rfl rfl ?_
              refine WPL.call rfl (r2_Cmp a58 (dig (N * 2 ^ (e - f).toNat)) _ hO.rd (dig_wd _) (val_dig _) hc58 rfl (by omega) a2 l2 _ hO.rd hw2 hN2 hc2 rfl (by omega)) Tryd.func32 rfl rfl rfl ?_
              rintro _ w ⟨rfl, hf60⟩
              have hO := hO.call hf60
              refine WPL.as (v := .int .i64 _) rfl rfl ?_
              refine WPL.nil ?_
              refine WP.ret ?_
              refine ⟨rfl, ?_⟩
              refine RO.tmp (v := .int .i64 _) rfl ?_
              refine RO.nil ?_
              first
              | (have hz : N = 0 := blen_eq_zero (by omega)
                 exact ⟨hO.fr, by rw [cmpD_zero (.inl hz)]; rfl⟩)
              | (have hz : N2 = 0 := blen_eq_zero (by omega)
                 exact ⟨hO.fr, by rw [cmpD_zero (.inr hz)]; rfl⟩)
              | (have hz : N ≠ 0 := fun hz => ph1 (by rw [hz]; rfl)
                 first
                 | exact ⟨hO.fr, by rw [cmpD_hi hge hz (by omega)]; rfl⟩
                 | exact ⟨hO.fr, by rw [cmpD_lo hge hz (by omega)]; rfl⟩
                 | exact ⟨hO.fr, by rw [cmpD_ge hge]; rfl⟩)

theorem r3_Against_lt {w0 : World} (a : Option Addr) (l : List Nat) (c : Nat) {n N : Nat} (hr : RowOk w0 [] ⟨a, ws .u32 l⟩) (hw : Wd l) (hN : val l = N) (hc : l.length ≤ c) (hn : n = l.length) (hb : l.length ≤ 1000000)(a2 : Option Addr) (l2 : List Nat) (c2 : Nat) {n2 N2 : Nat} (hr2 : RowOk w0 [] ⟨a2, ws .u32 l2⟩) (hw2 : Wd l2) (hN2 : val l2 = N2) (hc2 : l2.length ≤ c2) (hn2 : n2 = l2.length) (hb2 : l2.length ≤ 1000000) (e f : Int) (he : -10000000 ≤ e ∧ e ≤ 10000000) (hf : -10000000 ≤ f ∧ f ≤ 10000000) (hge : e < f) : Spec Tryd.prog 37 [.slice a n c, .int .i64 e, .slice a2 n2 c2, .int .i64 f] w0 (fun v w' => FrX [] w0 w' ∧ v = .int .i64 (cmpD N e N2 f)) := by
  subst hn hn2
  have hO : Own [] w0 [] [] [⟨a, ws .u32 l⟩, ⟨a2, ws .u32 l2⟩] w0 := Own.start (by intro e he; cases he) (by
      simp only [List.mem_cons, List.not_mem_nil, or_false]
      rintro r (rfl | rfl)
      · exact hr
      · exact hr2)
  have hbn := blen_len N
  have hbn2 := blen_len N2
  have hdl := dig_length_le hw
  have hdl2 := dig_length_le hw2
  rw [hN] at hdl
  rw [hN2] at hdl2
  refine Spec.enter (n := 61) (rs := [.tmp 8]) Tryd.func37 rfl rfl rfl rfl ?_
  refine WP.rs ?_
  refine WPL.as (v := .int .i64 0) rfl rfl ?_
  refine WPL.nil ?_
  refine WP.rs ?_
  refine WPL.mv (v := .slice _ _ _) rfl rfl ?_
  refine WPL.call rfl (r2_Len a l _ hO.rd hw hN hc rfl (by omega)) Tryd.func36 rfl rfl rfl ?_
  rintro _ _ ⟨rfl, rfl⟩
  refine WPL.cv_u64 (a := blen N) rfl (by omega) rfl ?_
  refine WPL.as (v := .int .u64 _) rfl rfl ?_
  refine WPL.nil ?_
  refine WP.rs ?_
  refine WPL.mv (v := .slice _ _ _) rfl rfl ?_
  refine WPL.call rfl (r2_Len a2 l2 _ hO.rd hw2 hN2 hc2 rfl (by omega)) Tryd.func36 rfl rfl rfl ?_
  rintro _ _ ⟨rfl, rfl⟩
  refine WPL.cv_u64 (a := blen N2) rfl (by omega) rfl ?_
  refine WPL.as (v := .int .u64 _) rfl rfl ?_
  refine WPL.nil ?_
  refine WP.seq ?_
  refine WP.rs ?_
  refine WPL.mv (v := .int .u64 _) rfl rfl ?_
  refine WPL.eq rfl rfl rfl ?_
  refine WPL.mv (v := .bool _) rfl rfl ?_
  refine WPL.split (s := 20) rfl (fun h1 => ?_) (fun h1 => ?_)
  · have ph1 := of_decide_eq_true h1
    refine WPL.guardF rfl rfl rfl h1 ?_
    refine WPL.guardF rfl rfl rfl h1 ?_
    refine WPL.pkT (v := .bool true) rfl h1 rfl rfl ?_
    refine WPL.nil ?_
    refine WP.cT rfl rfl ?_
    refine WP.rs ?_
    refine WPL.mv (v := .slice _ _ _) rfl rfl ?_
    refine WPL.mv (v := .slice _ _ _) rfl rfl ?_
    refine WPL.call rfl (r2_Cmp a l _ hO.rd hw hN hc rfl (by omega) a2 l2 _ hO.rd hw2 hN2 hc2 rfl (by omega)) Tryd.func32 rfl rfl rfl ?_
    rintro _ w ⟨rfl, hf26⟩
    have hO := hO.call hf26
    refine WPL.as (v := .int .i64 _) rfl rfl ?_
    refine WPL.nil ?_
    refine WP.ret ?_
    refine ⟨rfl, ?_⟩
    refine RO.tmp (v := .int .i64 _) rfl ?_
    refine RO.nil ?_
    first
    | (have hz : N = 0 := blen_eq_zero (by omega)
       exact ⟨hO.fr, by rw [cmpD_zero (.inl hz)]; rfl⟩)
    | (have hz : N2 = 0 := blen_eq_zero (by omega)
       exact ⟨hO.fr, by rw [cmpD_zero (.inr hz)]; rfl⟩)
    | exact ⟨hO.fr, congrArg (Value.int .i64) (cmpD_swap N N2 e f).symm⟩
  · have ph1 := of_decide_eq_false h1
    refine WPL.guardT rfl rfl h1 ?_
    refine WPL.mv (v := .int .u64 _) rfl rfl ?_
    refine WPL.guardT rfl rfl h1 ?_
    refine WPL.eq rfl rfl rfl ?_
    refine WPL.pkF (v := .bool _) rfl h1 rfl rfl ?_
    refine WPL.nil ?_
    refine WP.condP rfl (fun h2 => ?_) (fun h2 => ?_)
    · refine WP.rs ?_
      refine WPL.mv (v := .slice _ _ _) rfl rfl ?_
      refine WPL.mv (v := .slice _ _ _) rfl rfl ?_
      refine WPL.call rfl (r2_Cmp a l _ hO.rd hw hN hc rfl (by omega) a2 l2 _ hO.rd hw2 hN2 hc2 rfl (by omega)) Tryd.func32 rfl rfl rfl ?_
      rintro _ w ⟨rfl, hf26⟩
      have hO := hO.call hf26
      refine WPL.as (v := .int .i64 _) rfl rfl ?_
      refine WPL.nil ?_
      refine WP.ret ?_
      refine ⟨rfl, ?_⟩
      refine RO.tmp (v := .int .i64 _) rfl ?_
      refine RO.nil ?_
      first
      | (have hz : N = 0 := blen_eq_zero (by omega)
         exact ⟨hO.fr, by rw [cmpD_zero (.inl hz)]; rfl⟩)
      | (have hz : N2 = 0 := blen_eq_zero (by omega)
         exact ⟨hO.fr, by rw [cmpD_zero (.inr hz)]; rfl⟩)
      | exact ⟨hO.fr, congrArg (Value.int .i64) (cmpD_swap N N2 e f).symm⟩
    · refine WP.skip ?_
      refine WP.seq ?_
      refine WP.rs ?_
      refine WPL.mv (v := .int .i64 _) rfl rfl ?_
      refine WPL.mv (v := .int .i64 _) rfl rfl ?_
      refine WPL.lt rfl rfl rfl ?_
      refine WPL.nil ?_
      refine WP.condP rfl (fun h3 => ?_) (fun h3 => ?_)
      · refine WP.rs ?_
        refine WPL.mv (v := .slice _ _ _) rfl rfl ?_
        refine WPL.mv (v := .int .i64 _) rfl rfl ?_
        refine WPL.mv (v := .slice _ _ _) rfl rfl ?_
        refine WPL.mv (v := .int .i64 _) rfl rfl ?_
        have hcd := cmpD_one N2 f N e
        refine WPL.call rfl (r3_Against_ge a2 l2 _ hO.rd hw2 hN2 hc2 rfl hb2 a l _ hO.rd hw hN hc rfl hb f e hf he (by omega)) Tryd.func37 rfl rfl rfl ?_
        rintro _ w ⟨hf34, rfl⟩
        have hO := hO.call hf34
        refine WPL.negI rfl (by omega) rfl ?_
        refine WPL.as (v := .int .i64 _) rfl rfl ?_
        refine WPL.nil ?_
        refine WP.ret ?_
        refine ⟨rfl, ?_⟩
        refine RO.tmp (v := .int .i64 _) rfl ?_
        refine RO.nil ?_
        first
        | (have hz : N = 0 := blen_eq_zero (by omega)
           exact ⟨hO.fr, by rw [cmpD_zero (.inl hz)]; rfl⟩)
        | (have hz : N2 = 0 := blen_eq_zero (by omega)
           exact ⟨hO.fr, by rw [cmpD_zero (.inr hz)]; rfl⟩)
        | exact ⟨hO.fr, congrArg (Value.int .i64) (cmpD_swap N N2 e f).symm⟩
      · exact absurd hge h3

theorem r3_Against {w0 : World} (a : Option Addr) (l : List Nat) (c : Nat) {n N : Nat} (hr : RowOk w0 [] ⟨a, ws .u32 l⟩) (hw : Wd l) (hN : val l = N) (hc : l.length ≤ c) (hn : n = l.length) (hb : l.length ≤ 1000000)(a2 : Option Addr) (l2 : List Nat) (c2 : Nat) {n2 N2 : Nat} (hr2 : RowOk w0 [] ⟨a2, ws .u32 l2⟩) (hw2 : Wd l2) (hN2 : val l2 = N2) (hc2 : l2.length ≤ c2) (hn2 : n2 = l2.length) (hb2 : l2.length ≤ 1000000) (e f : Int) (he : -10000000 ≤ e ∧ e ≤ 10000000) (hf : -10000000 ≤ f ∧ f ≤ 10000000) : Spec Tryd.prog 37 [.slice a n c, .int .i64 e, .slice a2 n2 c2, .int .i64 f] w0 (fun v w' => FrX [] w0 w' ∧ v = .int .i64 (cmpD N e N2 f)) := by
  rcases Int.lt_or_le e f with h | h
  · exact r3_Against_lt a l c hr hw hN hc hn hb a2 l2 c2 hr2 hw2 hN2 hc2 hn2 hb2 e f he hf h
  · exact r3_Against_ge a l c hr hw hN hc hn hb a2 l2 c2 hr2 hw2 hN2 hc2 hn2 hb2 e f he hf h


theorem r3_Same {w0 : World} (d : Dy) (a : Option Addr) (c : Nat) (a2 : Option Addr) (c2 : Nat) (hr : RowOk w0 [] ⟨a, ws .u32 (dig d.m)⟩) (hr2 : RowOk w0 [] ⟨a2, ws .u32 (dig d.m)⟩) (hb : (dig d.m).length ≤ 1000000000) : Spec Tryd.prog 9 [dyV d a c, dyV d a2 c2] w0 (fun v w' => FrX [] w0 w' ∧ v = .bool true) := by
  have hO : Own [] w0 [] [] [⟨a, ws .u32 (dig d.m)⟩, ⟨a2, ws .u32 (dig d.m)⟩] w0 := Own.start (by intro e he; cases he) (by
      simp only [List.mem_cons, List.not_mem_nil, or_false]
      rintro r (rfl | rfl)
      · exact hr
      · exact hr2)
  unfold dyV
  refine Spec.enter (n := 45) (rs := [.tmp 4]) Tryd.func9 rfl rfl rfl rfl ?_
  refine WP.rs ?_
  refine WPL.bx (v := .agg #[.bool _, .slice _ _ _, .int .i64 _]) rfl rfl hO rfl (fun b1 w hO => ?_)
  refine WPL.bx (v := .agg #[.bool _, .slice _ _ _, .int .i64 _]) rfl rfl hO rfl (fun b2 w hO => ?_)
  refine WPL.as (v := .bool false) rfl rfl ?_
  refine WPL.nil ?_
  refine WP.seq ?_
  refine WP.rs ?_
  refine WPL.fa rfl rfl ?_
  refine WPL.ldL rfl hO inferInstance rfl rfl rfl ?_
  refine WPL.fa rfl rfl ?_
  refine WPL.ldL rfl hO inferInstance rfl rfl rfl ?_
  refine WPL.neB rfl rfl rfl ?_
  refine WPL.mv (v := .bool _) rfl rfl ?_
  refine WPL.split (s := 11) rfl (fun h1 => ?_) (fun h1 => ?_)
  · exact absurd h1 (by simp)
  · refine WPL.guardT rfl rfl h1 ?_
    refine WPL.fa rfl rfl ?_
    refine WPL.guardT rfl rfl h1 ?_
    refine WPL.ldL rfl hO inferInstance rfl rfl rfl ?_
    refine WPL.guardT rfl rfl h1 ?_
    refine WPL.fa rfl rfl ?_
    refine WPL.guardT rfl rfl h1 ?_
    refine WPL.ldL rfl hO inferInstance rfl rfl rfl ?_
    refine WPL.guardT rfl rfl h1 ?_
    refine WPL.ne rfl rfl rfl ?_
    refine WPL.pkF (v := .bool _) rfl h1 rfl rfl ?_
    refine WPL.mv (v := .bool _) rfl rfl ?_
    refine WPL.split (s := 18) rfl (fun h2 => ?_) (fun h2 => ?_)
    · have ph2 := of_decide_eq_true h2
      exact absurd h2 (by simp)
    · have ph2 := of_decide_eq_false h2
      refine WPL.guardT rfl rfl h2 ?_
      refine WPL.fa rfl rfl ?_
      refine WPL.guardT rfl rfl h2 ?_
      refine WPL.ldL rfl hO inferInstance rfl rfl rfl ?_
      refine WPL.guardT rfl rfl h2 ?_
      refine WPL.len rfl rfl ?_
      refine WPL.guardT rfl rfl h2 ?_
      refine WPL.fa rfl rfl ?_
      refine WPL.guardT rfl rfl h2 ?_
      refine WPL.ldL rfl hO inferInstance rfl rfl rfl ?_
      refine WPL.guardT rfl rfl h2 ?_
      refine WPL.len rfl rfl ?_
      refine WPL.guardT rfl rfl h2 ?_
      refine WPL.ne rfl rfl rfl ?_
      refine WPL.pkF (v := .bool _) rfl h2 rfl rfl ?_
      refine WPL.nil ?_
      refine WP.condP rfl (fun h3 => ?_) (fun h3 => ?_)
      · exact absurd h3 (by simp)
      · refine WP.skip ?_
        refine WP.seq ?_
        refine WP.rs ?_
        refine WPL.as (v := .int .i64 0) rfl rfl ?_
        refine WPL.nil ?_
        refine WP.block ?_
        refine WP.loop (fun m σ ds w' => ∃ i, m + i = (dig d.m).length ∧ Has σ [(2, .pointer (some ⟨b1, 0, none⟩)), (3, .pointer (some ⟨b2, 0, none⟩)), (5, .int .i64 (i : Int))] ∧ ds = [] ∧ Own [] w0 [] [⟨b2, [.bool d.s, .slice a2 (dig d.m).length c2, .int .i64 d.e], 34⟩, ⟨b1, [.bool d.s, .slice a (dig d.m).length c, .int .i64 d.e], 34⟩] [⟨a, ws .u32 (dig d.m)⟩, ⟨a2, ws .u32 (dig d.m)⟩] w') (dig d.m).length ?_ ?_
        · exact ⟨0, rfl, ⟨rfl, rfl, rfl, trivial⟩, rfl, hO⟩
        · rintro m σ ds w ⟨i, hi, hH, rfl, hO⟩
          refine WP.reset hH ?_
          refine WP.seq ?_
          refine WP.rs ?_
          refine WPL.mv (v := .int .i64 _) rfl rfl ?_
          refine WPL.fa rfl rfl ?_
          refine WPL.ldL rfl hO inferInstance rfl rfl rfl ?_
          refine WPL.len rfl rfl ?_
          refine WPL.lt rfl rfl rfl ?_
          refine WPL.nil ?_
          refine WP.condP rfl (fun h4 => ?_) (fun h4 => ?_)
          · refine WP.skip ?_
            refine WP.seq ?_
            refine WP.block ?_
            refine WP.seq ?_
            refine WP.draw [(0, 0), (1, 1), (2, 0), (3, 1), (4, 1), (5, 0), (6, 1), (7, 0), (8, 1), (9, 1), (10, 0)] [] mixed (by kernel_rfl) (by kernel_rfl) rfl hO (fun w hO => ?_)
            refine WPD.pv rfl rfl (fun w k' h => WPL.fa rfl rfl (WPL.nil h)) ?_
            refine WPD.val rfl rfl (fun w hO k' h => WPL.ldL rfl hO inferInstance rfl rfl rfl (WPL.nil h)) ?_
            refine WPD.pv rfl rfl (fun w k' h => WPL.mv (v := .int .i64 _) rfl rfl (WPL.nil h)) ?_
            refine WPD.val rfl rfl (fun w hO k' h => WPL.ixR rfl hO inferInstance rfl rfl (by first | omega | (simp; omega)) (by first | omega | (simp; omega)) rfl (WPL.nil h)) ?_
            refine WPD.val rfl rfl (fun w hO k' h => WPL.ldR (vals := ws .u32 (dig d.m)) rfl hO inferInstance (ws_get1 rfl (by omega)) rfl rfl (WPL.nil h)) ?_
            refine WPD.pv rfl rfl (fun w k' h => WPL.fa rfl rfl (WPL.nil h)) ?_
            refine WPD.val rfl rfl (fun w hO k' h => WPL.ldL rfl hO inferInstance rfl rfl rfl (WPL.nil h)) ?_
            refine WPD.pv rfl rfl (fun w k' h => WPL.mv (v := .int .i64 _) rfl rfl (WPL.nil h)) ?_
            refine WPD.val rfl rfl (fun w hO k' h => WPL.ixR rfl hO inferInstance rfl rfl (by first | omega | (simp; omega)) (by first | omega | (simp; omega)) rfl (WPL.nil h)) ?_
            refine WPD.val rfl rfl (fun w hO k' h => WPL.ldR (vals := ws .u32 (dig d.m)) rfl hO inferInstance (ws_get1 rfl (by omega)) rfl rfl (WPL.nil h)) ?_
            refine WPD.pv rfl rfl (fun w k' h => WPL.ne rfl rfl rfl (WPL.nil h)) ?_
            refine WPD.nil hO ?_
            refine WP.condP rfl (fun h5 => ?_) (fun h5 => ?_)
            · exact absurd rfl h5
            · refine WP.skip ?_
              refine WP.region ?_
              refine WPL.mv (v := .int .i64 _) rfl rfl ?_
              refine WPL.addI rfl rfl (by omega) rfl ?_
              refine WPL.as (v := .int .i64 _) rfl rfl ?_
              refine WPL.nil ?_
              exact ⟨m - 1, by omega, i + 1, by omega, ⟨rfl, rfl, rfl, trivial⟩, rfl, hO⟩
          · refine WP.exit ?_
            refine WP.rs ?_
            refine WPL.as (v := .bool true) rfl rfl ?_
            refine WPL.nil ?_
            refine WP.ret ?_
            refine ⟨rfl, ?_⟩
            refine RO.tmp (v := .bool _) rfl ?_
            refine RO.nil ?_
            exact ⟨hO.fr, rfl⟩

theorem r3_Alike {w0 : World} (x y : Nat) : Spec Tryd.prog 10 [.float .f64 x, .float .f64 y] w0 (fun v w' => v = .bool (decide (x = y)) ∧ w0 = w') := by
  refine Spec.enter (n := 10) (rs := [.tmp 4]) Tryd.func10 rfl rfl rfl rfl ?_
  refine WP.rs ?_
  refine WPL.as (v := .bool false) rfl rfl ?_
  refine WPL.nil ?_
  refine WP.rs ?_
  refine WPL.mv (v := .float .f64 _) rfl rfl ?_
  refine WPL.f64bits ext_F64bits rfl rfl ?_
  refine WPL.mv (v := .float .f64 _) rfl rfl ?_
  refine WPL.f64bits ext_F64bits rfl rfl ?_
  refine WPL.eq rfl rfl rfl ?_
  refine WPL.as (v := .bool _) rfl rfl ?_
  refine WPL.nil ?_
  refine WP.ret ?_
  refine ⟨rfl, ?_⟩
  refine RO.tmp (v := .bool _) rfl ?_
  refine RO.nil ?_
  exact ⟨congrArg Value.bool (decide_eq_decide.2 (by omega)), rfl⟩
end Go.Sw
