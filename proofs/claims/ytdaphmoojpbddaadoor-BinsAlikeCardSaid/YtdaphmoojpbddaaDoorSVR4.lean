/- A part of the proof that BinsAlike answers true: steps of the walk, or plain laws that it needs. No conditions of its own. -/
import Derived.Test.YtdaphmoojpbddaaDoorSVR2
set_option linter.all false
namespace Go.Sw
set_option autoImplicit false
set_option linter.all false
open Go.Proofs Go.RowKit

theorem r3_turned {w0 : World} (d : Dy) (a : Option Addr) (c : Nat) (hr : RowOk w0 [] ⟨a, ws .u32 (dig d.m)⟩) : Spec Tryd.prog 34 [dyV d a c] w0 (fun v w' => FrX [] w0 w' ∧ v = dyV ⟨!d.s, d.m, d.e⟩ a c) := by
  have hO : Own [] w0 [] [] [⟨a, ws .u32 (dig d.m)⟩] w0 := Own.start (by intro e he; cases he) (by
      simp only [List.mem_cons, List.not_mem_nil, or_false]
      rintro r rfl
      · exact hr)
  unfold dyV
  refine Spec.enter (n := 11) (rs := [.cell 2 34]) Tryd.func34 rfl rfl rfl rfl ?_
  refine WP.rs ?_
  refine WPL.bx (v := .agg #[.bool _, .slice _ _ _, .int .i64 _]) rfl rfl hO rfl (fun b1 w hO => ?_)
  refine WPL.al hO rfl (fun b2 w hO => ?_)
  refine WPL.nil ?_
  refine WP.rs ?_
  refine WPL.fa rfl rfl ?_
  refine WPL.ldL rfl hO inferInstance rfl rfl rfl ?_
  refine WPL.not rfl rfl ?_
  refine WPL.fa rfl rfl ?_
  refine WPL.ldL rfl hO inferInstance rfl rfl rfl ?_
  refine WPL.fa rfl rfl ?_
  refine WPL.ldL rfl hO inferInstance rfl rfl rfl ?_
  refine WPL.bd (pv := [(0, .bool _), (1, .slice _ _ _), (2, .int .i64 _)]) (vs := [_, _, _]) rfl (bd_of pl34 rfl rfl) rfl ?_
  refine WPL.stLA (T := T34) rfl rfl hO inferInstance inferInstance (by simp [Value.oneCell']) rfl rfl (fun w hO => ?_)
  refine WPL.nil ?_
  refine WP.ret ?_
  refine ⟨rfl, ?_⟩
  refine RO.cell (T := T34) [.bool _, .slice _ _ _, .int .i64 _] rfl hO inferInstance rfl agg34 rfl ?_
  refine RO.nil ?_
  exact ⟨hO.fr, rfl⟩

theorem r3_Sign {w0 : World} (d : Dy) (a : Option Addr) (c : Nat) (hr : RowOk w0 [] ⟨a, ws .u32 (dig d.m)⟩) (hc : (dig d.m).length ≤ c) (hb : blen d.m ≤ 262144) : Spec Tryd.prog 15 [dyV d a c] w0 (fun v w' => FrX [] w0 w' ∧ v = .int .i64 (if d.m = 0 then 0 else if d.s = true then -1 else 1)) := by
  have hO : Own [] w0 [] [] [⟨a, ws .u32 (dig d.m)⟩] w0 := Own.start (by intro e he; cases he) (by
      simp only [List.mem_cons, List.not_mem_nil, or_false]
      rintro r rfl
      · exact hr)
  have hl := len_blen (k := 8192) (show blen d.m ≤ 32 * 8192 by omega)
  unfold dyV
  refine Spec.enter (n := 9) (rs := [.tmp 2]) Tryd.func15 rfl rfl rfl rfl ?_
  refine WP.rs ?_
  refine WPL.bx (v := .agg #[.bool _, .slice _ _ _, .int .i64 _]) rfl rfl hO rfl (fun b1 w hO => ?_)
  refine WPL.as (v := .int .i64 0) rfl rfl ?_
  refine WPL.nil ?_
  refine WP.seq ?_
  refine WP.rs ?_
  refine WPL.fa rfl rfl ?_
  refine WPL.ldL rfl hO inferInstance rfl rfl rfl ?_
  refine WPL.call rfl (r2_Len a (dig d.m) c hO.rd (dig_wd _) (val_dig _) hc rfl (by omega)) Tryd.func36 rfl rfl rfl ?_
  rintro _ _ ⟨rfl, rfl⟩
  refine WPL.eq rfl rfl rfl ?_
  refine WPL.nil ?_
  refine WP.condP rfl (fun h1 => ?_) (fun h1 => ?_)
  · refine WP.rs ?_
    refine WPL.as (v := .int .i64 0) rfl rfl ?_
    refine WPL.nil ?_
    refine WP.ret ?_
    refine ⟨rfl, ?_⟩
    refine RO.tmp (v := .int .i64 _) rfl ?_
    refine RO.nil ?_
    refine ⟨hO.fr, ?_⟩
    show Value.int .i64 _ = Value.int .i64 _
    congr 1
    by_cases e : d.m = 0
    · first | (rw [if_pos e]; done) | (rw [e, blen_zero] at h1; omega)
    · have := blen_pos e
      rw [if_neg e]
      first
      | (exfalso; omega)
      | (rw [if_pos h2])
      | (rw [if_neg (by rw [h2]; decide)])
  · refine WP.skip ?_
    refine WP.seq ?_
    refine WP.rs ?_
    refine WPL.fa rfl rfl ?_
    refine WPL.ldL rfl hO inferInstance rfl rfl rfl ?_
    refine WPL.nil ?_
    refine WP.condB rfl (fun h2 => ?_) (fun h2 => ?_)
    · refine WP.rs ?_
      refine WPL.as (v := .int .i64 (-1)) rfl rfl ?_
      refine WPL.nil ?_
      refine WP.ret ?_
      refine ⟨rfl, ?_⟩
      refine RO.tmp (v := .int .i64 _) rfl ?_
      refine RO.nil ?_
      refine ⟨hO.fr, ?_⟩
      show Value.int .i64 _ = Value.int .i64 _
      congr 1
      by_cases e : d.m = 0
      · first | (rw [if_pos e]; done) | (rw [e, blen_zero] at h1; omega)
      · have := blen_pos e
        rw [if_neg e]
        first
        | (exfalso; omega)
        | (rw [if_pos h2])
        | (rw [if_neg (by rw [h2]; decide)])
    · refine WP.skip ?_
      refine WP.rs ?_
      refine WPL.as (v := .int .i64 1) rfl rfl ?_
      refine WPL.nil ?_
      refine WP.ret ?_
      refine ⟨rfl, ?_⟩
      refine RO.tmp (v := .int .i64 _) rfl ?_
      refine RO.nil ?_
      refine ⟨hO.fr, ?_⟩
      show Value.int .i64 _ = Value.int .i64 _
      congr 1
      by_cases e : d.m = 0
      · first | (rw [if_pos e]; done) | (rw [e, blen_zero] at h1; omega)
      · have := blen_pos e
        rw [if_neg e]
        first
        | (exfalso; omega)
        | (rw [if_pos h2])
        | (rw [if_neg (by rw [h2]; decide)])

theorem r3_Neg {w0 : World} (d : Dy) (a : Option Addr) (c : Nat) (hr : RowOk w0 [] ⟨a, ws .u32 (dig d.m)⟩) (hc : (dig d.m).length ≤ c) (hb : d.B 60000) {D : Dy} (hD : Dy.fm (!d.s) d.m d.e = D) : Spec Tryd.prog 14 [dyV d a c] w0 (fun v w' => FrX [] w0 w' ∧ ∃ a' c', v = dyV D a' c' ∧ (dig D.m).length ≤ c' ∧ Res w0 w' a' c' 1 (ws .u32 (dig D.m)) 60) := by
  have hO : Own [] w0 [] [] [⟨a, ws .u32 (dig d.m)⟩] w0 := Own.start (by intro e he; cases he) (by
      simp only [List.mem_cons, List.not_mem_nil, or_false]
      rintro r rfl
      · exact hr)
  subst hD
  have hl := len_blen (k := 8192) (show blen d.m ≤ 32 * 8192 by unfold Dy.B at hb; omega)
  unfold Dy.B at hb
  unfold dyV
  refine Spec.enter (n := 17) (rs := [.cell 2 34]) Tryd.func14 rfl rfl rfl rfl ?_
  refine WP.rs ?_
  refine WPL.bx (v := .agg #[.bool _, .slice _ _ _, .int .i64 _]) rfl rfl hO rfl (fun b1 w hO => ?_)
  refine WPL.al hO rfl (fun b2 w hO => ?_)
  refine WPL.nil ?_
  refine WP.rs ?_
  refine WPL.fa rfl rfl ?_
  refine WPL.ldL rfl hO inferInstance rfl rfl rfl ?_
  refine WPL.not rfl rfl ?_
  refine WPL.fa rfl rfl ?_
  refine WPL.ldL rfl hO inferInstance rfl rfl rfl ?_
  refine WPL.fa rfl rfl ?_
  refine WPL.ldL rfl hO inferInstance rfl rfl rfl ?_
  refine WPL.call rfl (r3_Form (!d.s) a (dig d.m) c hO.rd (dig_wd _) (val_dig _) hc rfl (by omega) d.e (by omega) (by omega)) Tryd.func35 rfl rfl rfl ?_
  rintro _ w ⟨hf13, a13, c13, rfl, hc13, hr13⟩
  obtain ⟨G13, hG13, hO⟩ := hO.resL hf13 hr13
  unfold dyV
  refine WPL.mv (v := .tuple #[.agg #[.bool _, .slice _ _ _, .int .i64 _], .bool _]) rfl rfl ?_
  refine WPL.ext (v := .agg #[.bool _, .slice _ _ _, .int .i64 _]) rfl rfl rfl ?_
  refine WPL.ext (v := .bool _) rfl rfl rfl ?_
  refine WPL.al hO rfl (fun b3 w hO => ?_)
  refine WPL.stLA (T := T34) rfl rfl hO inferInstance inferInstance (by simp [Value.oneCell']) rfl rfl (fun w hO => ?_)
  refine WPL.as (v := .bool _) rfl rfl ?_
  refine WPL.nil ?_
  refine WP.rs ?_
  refine WPL.ldLA (T := T34) [.bool _, .slice _ _ _, .int .i64 _] rfl hO inferInstance rfl agg34 rfl rfl ?_
  refine WPL.stLA (T := T34) rfl rfl hO inferInstance inferInstance (by simp [Value.oneCell']) rfl rfl (fun w hO => ?_)
  refine WPL.nil ?_
  refine WP.ret ?_
  refine ⟨rfl, ?_⟩
  refine RO.cell (T := T34) [.bool _, .slice _ _ _, .int .i64 _] rfl hO inferInstance rfl agg34 rfl ?_
  refine RO.nil ?_
  exact ⟨hO.fr, a13, c13, rfl, hc13, hO.giveG hG13⟩

theorem r3_Sub {w0 : World} (d1 : Dy) (a1 : Option Addr) (c1 : Nat) {D1 : Dy} (hr1 : RowOk w0 [] ⟨a1, ws .u32 (dig d1.m)⟩) (hc1 : (dig d1.m).length ≤ c1) (hD1 : d1.nf = D1) (hb1 : d1.B 60000) (d2 : Dy) (a2 : Option Addr) (c2 : Nat) {D2 : Dy} (hr2 : RowOk w0 [] ⟨a2, ws .u32 (dig d2.m)⟩) (hc2 : (dig d2.m).length ≤ c2) (hD2 : Dy.nf ⟨!d2.s, d2.m, d2.e⟩ = D2) (hb2 : d2.B 60000) : Spec Tryd.prog 13 [dyV d1 a1 c1, dyV d2 a2 c2] w0 (fun v w' => FrX [] w0 w' ∧ DyErr w0 w' 60 (Dy.add D1 D2) v) := by
  have hO : Own [] w0 [] [] [⟨a1, ws .u32 (dig d1.m)⟩, ⟨a2, ws .u32 (dig d2.m)⟩] w0 := Own.start (by intro e he; cases he) (by
      simp only [List.mem_cons, List.not_mem_nil, or_false]
      rintro r (rfl | rfl)
      · exact hr1
      · exact hr2)
  unfold dyV
  refine Spec.enter (n := 12) (rs := [.cell 4 34, .tmp 5]) Tryd.func13 rfl rfl rfl rfl ?_
  refine WP.rs ?_
  refine WPL.bx (v := .agg #[.bool _, .slice _ _ _, .int .i64 _]) rfl rfl hO rfl (fun b1 w hO => ?_)
  refine WPL.bx (v := .agg #[.bool _, .slice _ _ _, .int .i64 _]) rfl rfl hO rfl (fun b2 w hO => ?_)
  refine WPL.al hO rfl (fun b3 w hO => ?_)
  refine WPL.as (v := .int .i64 0) rfl rfl ?_
  refine WPL.nil ?_
  refine WP.seq ?_
  refine WP.draw [(0, 1), (1, 1), (2, 2), (3, 2), (4, 0), (5, 0), (6, 2), (7, 0)] [6] mixed (by kernel_rfl) (by kernel_rfl) rfl hO (fun w hO => ?_)
  refine WPD.val rfl rfl (fun w hO k' h => WPL.ldLA (T := T34) [.bool _, .slice _ _ _, .int .i64 _] rfl hO inferInstance rfl agg34 rfl rfl (WPL.nil h)) ?_
  refine WPD.val rfl rfl (fun w hO k' h => WPL.ldLA (T := T34) [.bool _, .slice _ _ _, .int .i64 _] rfl hO inferInstance rfl agg34 rfl rfl (WPL.nil h)) ?_
  refine WPD.eff rfl hO ?_
  refine WPL.call rfl (r3_turned d2 a2 c2 hO.rd) Tryd.func34 rfl rfl rfl ?_
  rintro _ w ⟨hf8, rfl⟩
  have hO := hO.call hf8
  unfold dyV
  refine WPL.nil ?_
  refine WPD.eff rfl hO ?_
  refine WPL.call rfl (r3_Add d1 a1 c1 hO.rd hc1 hD1 hb1 ⟨!d2.s, d2.m, d2.e⟩ a2 c2 hO.rd hc2 hD2 hb2) Tryd.func12 rfl rfl rfl ?_
  rintro _ w ⟨hf9, a9, c9, rfl, hc9, hr9⟩
  obtain ⟨G9, hG9, hO⟩ := hO.resL hf9 hr9
  unfold dyV
  refine WPL.nil ?_
  refine WPD.pv rfl rfl (fun w k' h => WPL.ext (v := .agg #[.bool _, .slice _ _ _, .int .i64 _]) rfl rfl rfl (WPL.nil h)) ?_
  refine WPD.pv rfl rfl (fun w k' h => WPL.ext (v := .int .i64 _) rfl rfl rfl (WPL.nil h)) ?_
  refine WPD.eff rfl (Own.drop hO) ?_
  refine WPL.stLA (T := T34) rfl rfl hO inferInstance inferInstance (by simp [Value.oneCell']) rfl rfl (fun w hO => ?_)
  refine WPL.nil ?_
  refine WPD.pv rfl rfl (fun w k' h => WPL.as (v := .int .i64 _) rfl rfl (WPL.nil h)) ?_
  refine WPD.nilX (by kernel_rfl) ?_
  refine WP.ret ?_
  refine ⟨rfl, ?_⟩
  refine RO.cell (T := T34) [.bool _, .slice _ _ _, .int .i64 _] rfl hO inferInstance rfl agg34 rfl ?_
  refine RO.tmp (v := .int .i64 _) rfl ?_
  refine RO.nil ?_
  exact ⟨hO.fr, a9, c9, rfl, hc9, hO.giveG hG9⟩

theorem r3_Cmp {w0 : World} (d1 : Dy) (a1 : Option Addr) (c1 : Nat) (hr1 : RowOk w0 [] ⟨a1, ws .u32 (dig d1.m)⟩) (hc1 : (dig d1.m).length ≤ c1) (hb1 : d1.B 60000) (hs1 : d1.s = false) (d2 : Dy) (a2 : Option Addr) (c2 : Nat) (hr2 : RowOk w0 [] ⟨a2, ws .u32 (dig d2.m)⟩) (hc2 : (dig d2.m).length ≤ c2) (hb2 : d2.B 60000) (hs2 : d2.s = false) (hm2 : d2.m ≠ 0) : Spec Tryd.prog 16 [dyV d1 a1 c1, dyV d2 a2 c2] w0 (fun v w' => FrX [] w0 w' ∧ v = .int .i64 (if d1.m = 0 then -1 else cmpD d1.m d1.e d2.m d2.e)) := by
  have hO : Own [] w0 [] [] [⟨a1, ws .u32 (dig d1.m)⟩, ⟨a2, ws .u32 (dig d2.m)⟩] w0 := Own.start (by intro e he; cases he) (by
      simp only [List.mem_cons, List.not_mem_nil, or_false]
      rintro r (rfl | rfl)
      · exact hr1
      · exact hr2)
  unfold Dy.B at hb1 hb2
  have hl1 := len_blen (k := 8192) (show blen d1.m ≤ 32 * 8192 by omega)
  have hl2 := len_blen (k := 8192) (show blen d2.m ≤ 32 * 8192 by omega)
  unfold dyV
  refine Spec.enter (n := 40) (rs := [.tmp 4]) Tryd.func16 rfl rfl rfl rfl ?_
  refine WP.rs ?_
  refine WPL.bx (v := .agg #[.bool _, .slice _ _ _, .int .i64 _]) rfl rfl hO rfl (fun b1 w hO => ?_)
  refine WPL.bx (v := .agg #[.bool _, .slice _ _ _, .int .i64 _]) rfl rfl hO rfl (fun b2 w hO => ?_)
  refine WPL.as (v := .int .i64 0) rfl rfl ?_
  refine WPL.nil ?_
  refine WP.rs ?_
  refine WPL.ldLA (T := T34) [.bool _, .slice _ _ _, .int .i64 _] rfl hO inferInstance rfl agg34 rfl rfl ?_
  refine WPL.call rfl (r3_Sign d1 a1 c1 hO.rd hc1 (by omega)) Tryd.func15 rfl rfl rfl ?_
  rintro _ w ⟨hf8, rfl⟩
  have hO := hO.call hf8
  rw [hs1]
  refine WPL.as (v := .int .i64 _) rfl rfl ?_
  refine WPL.nil ?_
  refine WP.rs ?_
  refine WPL.ldLA (T := T34) [.bool _, .slice _ _ _, .int .i64 _] rfl hO inferInstance rfl agg34 rfl rfl ?_
  refine WPL.call rfl (r3_Sign d2 a2 c2 hO.rd hc2 (by omega)) Tryd.func15 rfl rfl rfl ?_
  rintro _ w ⟨hf10, rfl⟩
  have hO := hO.call hf10
  rw [if_neg hm2, hs2, if_neg (c := false = true) (by decide)]
  refine WPL.as (v := .int .i64 _) rfl rfl ?_
  refine WPL.nil ?_
  refine WP.seq ?_
  refine WP.block ?_
  refine WP.rs ?_
  refine WPL.mv (v := .int .i64 _) rfl rfl ?_
  refine WPL.mv (v := .int .i64 _) rfl rfl ?_
  refine WPL.lt rfl rfl rfl ?_
  refine WPL.as (v := .bool _) rfl rfl ?_
  refine WPL.nil ?_
  refine WP.condP rfl (fun h1 => ?_) (fun h1 => ?_)
  · refine WP.rs ?_
    refine WPL.as (v := .int .i64 (-1)) rfl rfl ?_
    refine WPL.nil ?_
    refine WP.ret ?_
    refine ⟨rfl, ?_⟩
    refine RO.tmp (v := .int .i64 _) rfl ?_
    refine RO.nil ?_
    refine ⟨hO.fr, ?_⟩
    show Value.int .i64 _ = _
    by_cases e : d1.m = 0
    · first | (rw [if_pos e]; done) | (rw [if_pos e] at h1; omega)
    · first | (rw [if_neg e] at h1; omega) | (rw [if_neg e]; done)
  · refine WP.rs ?_
    refine WPL.mv (v := .int .i64 _) rfl rfl ?_
    refine WPL.mv (v := .int .i64 _) rfl rfl ?_
    refine WPL.gt rfl rfl rfl ?_
    refine WPL.as (v := .bool _) rfl rfl ?_
    refine WPL.nil ?_
    refine WP.condP rfl (fun h2 => ?_) (fun h2 => ?_)
    · exact absurd h2 (by split <;> omega)
    · refine WP.rs ?_
      refine WPL.mv (v := .int .i64 _) rfl rfl ?_
      refine WPL.lt rfl rfl rfl ?_
      refine WPL.as (v := .bool _) rfl rfl ?_
      refine WPL.nil ?_
      refine WP.condP rfl (fun h3 => ?_) (fun h3 => ?_)
      · exact absurd h3 (by split <;> omega)
      · refine WP.skip ?_
        refine WP.rs ?_
        refine WPL.fa rfl rfl ?_
        refine WPL.ldL rfl hO inferInstance rfl rfl rfl ?_
        refine WPL.fa rfl rfl ?_
        refine WPL.ldL rfl hO inferInstance rfl rfl rfl ?_
        refine WPL.fa rfl rfl ?_
        refine WPL.ldL rfl hO inferInstance rfl rfl rfl ?_
        refine WPL.fa rfl rfl ?_
        refine WPL.ldL rfl hO inferInstance rfl rfl rfl ?_
        refine WPL.call rfl (r3_Against a1 (dig d1.m) c1 hO.rd (dig_wd _) (val_dig _) hc1 rfl (by omega) a2 (dig d2.m) c2 hO.rd (dig_wd _) (val_dig _) hc2 rfl (by omega) d1.e d2.e (by omega) (by omega)) Tryd.func37 rfl rfl rfl ?_
        rintro _ w ⟨hf39, rfl⟩
        have hO := hO.call hf39
        refine WPL.as (v := .int .i64 _) rfl rfl ?_
        refine WPL.nil ?_
        refine WP.ret ?_
        refine ⟨rfl, ?_⟩
        refine RO.tmp (v := .int .i64 _) rfl ?_
        refine RO.nil ?_
        refine ⟨hO.fr, ?_⟩
        show Value.int .i64 _ = _
        by_cases e : d1.m = 0
        · first | (rw [if_pos e]; done) | (rw [if_pos e] at h1; omega)
        · first | (rw [if_neg e] at h1; omega) | (rw [if_neg e]; done)
end Go.Sw
