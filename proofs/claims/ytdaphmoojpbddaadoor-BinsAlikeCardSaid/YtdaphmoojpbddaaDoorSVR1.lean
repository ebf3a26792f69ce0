/- A part of the proof that BinsAlike answers true: steps of the walk, or plain laws that it needs. No conditions of its own. -/
import Derived.Test.YtdaphmoojpbddaaDoorSVW9
import Derived.Test.YtdaphmoojpbddaaDoorSK3
set_option linter.all false
namespace Go.Sw
set_option autoImplicit false
set_option linter.all false
open Go.Proofs Go.RowKit
instance T31 : Ty Tryd.prog 31 (.slice 60) [.slice none 0 0] 24 := Ty.mk' Tryd.underlying31 (by kernel_rfl)
theorem r2_size {w : World} (a : Option Addr) (l : List Nat) (c : Nat) {n N : Nat} (hr : RowOk w [] ⟨a, ws .u32 l⟩) (hw : Wd l) (hN : val l = N) (hc : l.length ≤ c) (hn : n = l.length) (hb : l.length ≤ 17592186044416) : Spec Tryd.prog 53 [.slice a n c] w (fun v w' => v = .int .i64 ((dig N).length : Int) ∧ w = w') := by
  subst hn
  subst hN
  have hO : Own [] w [] [] [⟨a, ws .u32 l⟩] w := Own.start (by intro e he; cases he) (by
      simp only [List.mem_cons, List.not_mem_nil, or_false]
      rintro r rfl
      · exact hr)
  refine Spec.enter (n := 19) (rs := [.tmp 2]) Tryd.func53 rfl rfl rfl rfl ?_
  refine WP.rs ?_
  refine WPL.as (v := .int .i64 0) rfl rfl ?_
  refine WPL.nil ?_
  refine WP.rs ?_
  refine WPL.mv (v := .slice _ _ _) rfl rfl ?_
  refine WPL.len rfl rfl ?_
  refine WPL.as (v := .int .i64 _) rfl rfl ?_
  refine WPL.nil ?_
  refine WP.seq ?_
  refine WP.block ?_
  refine WP.loop (fun m σ ds w' => m ≤ l.length ∧ val (l.take m) = val l ∧ Has σ [(3, .int .i64 (m : Int)), (0, .slice a l.length c)] ∧ ds = [] ∧ w = w') l.length ?_ ?_
  · exact ⟨Nat.le_refl _, by simp, ⟨rfl, rfl, trivial⟩, rfl, rfl⟩
  · rintro m σ ds _ ⟨hm, hv, hH, rfl, rfl⟩
    refine WP.reset hH ?_
    refine WP.seq ?_
    refine WP.rs ?_
    refine WPL.mv (v := .int .i64 _) rfl rfl ?_
    refine WPL.gt rfl rfl rfl ?_
    refine WPL.mv (v := .bool _) rfl rfl ?_
    refine WPL.split (s := 8) rfl (fun h1 => ?_) (fun h1 => ?_)
    · have ph1 := of_decide_eq_true h1
      refine WPL.guardT rfl rfl h1 ?_
      refine WPL.mv (v := .slice _ _ _) rfl rfl ?_
      refine WPL.guardT rfl rfl h1 ?_
      refine WPL.mv (v := .int .i64 _) rfl rfl ?_
      refine WPL.guardT rfl rfl h1 ?_
      refine WPL.subI rfl rfl (by omega) rfl ?_
      refine WPL.guardT rfl rfl h1 ?_
      refine WPL.ixR (j := m - 1) rfl hO inferInstance rfl (by omega) (by omega) (by simp; omega) rfl ?_
      refine WPL.guardT rfl rfl h1 ?_
      refine WPL.ldR rfl hO inferInstance (ws_get1 rfl (by omega)) rfl rfl ?_
      refine WPL.guardT rfl rfl h1 ?_
      refine WPL.eq rfl rfl rfl ?_
      refine WPL.pkT (v := .bool _) rfl h1 rfl rfl ?_
      refine WPL.nil ?_
      refine WP.condP rfl (fun h2 => ?_) (fun h2 => ?_)
      · refine WP.skip ?_
        refine WP.block ?_
        refine WP.region ?_
        refine WPL.mv (v := .int .i64 _) rfl rfl ?_
        refine WPL.subI rfl rfl (by omega) rfl ?_
        refine WPL.as (v := .int .i64 _) rfl rfl ?_
        refine WPL.nil ?_
        refine ⟨m - 1, by omega, by omega, ?_, ⟨by show Value.int .i64 _ = _; congr 1; omega, rfl, trivial⟩, rfl, rfl⟩
        have hp : 0 < m := by omega
        rw [← hv]; exact val_take_pred hp hm (by omega)
      · refine WP.exit ?_
        refine WP.rs ?_
        refine WPL.mv (v := .int .i64 _) rfl rfl ?_
        refine WPL.as (v := .int .i64 _) rfl rfl ?_
        refine WPL.nil ?_
        refine WP.ret ?_
        refine ⟨rfl, ?_⟩
        refine RO.tmp (v := .int .i64 _) rfl ?_
        refine RO.nil ?_
        refine ⟨?_, rfl⟩
        show Value.int .i64 _ = _
        rw [dig_take_length hw hm hv (by first | exact .inr (by omega) | exact .inl (by omega))]
    · have ph1 := of_decide_eq_false h1
      refine WPL.guardF rfl rfl rfl h1 ?_
      refine WPL.guardF rfl rfl rfl h1 ?_
      refine WPL.guardF rfl rfl rfl h1 ?_
      refine WPL.guardF rfl rfl rfl h1 ?_
      refine WPL.guardF rfl rfl rfl h1 ?_
      refine WPL.guardF rfl rfl rfl h1 ?_
      refine WPL.pkF (v := .bool false) rfl h1 rfl rfl ?_
      refine WPL.nil ?_
      refine WP.cF rfl rfl ?_
      refine WP.exit ?_
      refine WP.rs ?_
      refine WPL.mv (v := .int .i64 _) rfl rfl ?_
      refine WPL.as (v := .int .i64 _) rfl rfl ?_
      refine WPL.nil ?_
      refine WP.ret ?_
      refine ⟨rfl, ?_⟩
      refine RO.tmp (v := .int .i64 _) rfl ?_
      refine RO.nil ?_
      refine ⟨?_, rfl⟩
      show Value.int .i64 _ = _
      rw [dig_take_length hw hm hv (by first | exact .inr (by omega) | exact .inl (by omega))]

theorem r2_Norm {w : World} (a : Option Addr) (l : List Nat) (c : Nat) {n N : Nat} (hr : RowOk w [] ⟨a, ws .u32 l⟩) (hw : Wd l) (hN : val l = N) (hc : l.length ≤ c) (hn : n = l.length) (hb : l.length ≤ 17592186044416) : Spec Tryd.prog 50 [.slice a n c] w (fun v w' => FrX [] w w' ∧ NatRes w w' 60 N v) := by
  subst hn
  subst hN
  have hO : Own [] w [] [] [⟨a, ws .u32 l⟩] w := Own.start (by intro e he; cases he) (by
      simp only [List.mem_cons, List.not_mem_nil, or_false]
      rintro r rfl
      · exact hr)
  have hle := dig_length_le hw
  refine Spec.enter (n := 10) (rs := [.tmp 2]) Tryd.func50 rfl rfl rfl rfl ?_
  refine WP.rs ?_
  refine WPL.as (v := .slice none 0 0) rfl rfl ?_
  refine WPL.nil ?_
  refine WP.rs ?_
  refine WPL.as (v := .slice none 0 0) rfl rfl ?_
  refine WPL.nil ?_
  refine WP.rs ?_
  refine WPL.mv (v := .slice _ _ _) rfl rfl ?_
  refine WPL.mv (v := .slice _ _ _) rfl rfl ?_
  refine WPL.mv (v := .slice _ _ _) rfl rfl ?_
  refine WPL.call rfl (r2_size _ _ _ (by first | exact hO.rd | exact hO.rdG (by assumption)) (by first | assumption | exact dig_wd _) (by first | assumption | exact val_dig _ | exact val_one _) (by first | omega | (simp; omega) | simp) (by first | rfl | omega | simp) (by first | omega | (simp; omega) | simp)) Tryd.func53 rfl rfl rfl ?_
  rintro _ _ ⟨rfl, rfl⟩
  refine WPL.slH rfl rfl rfl (by omega) rfl ?_
  have hsrc : SrcRow w (.slice a (dig (val l)).length c) (dig (val l)).length 1 (ws .u32 (dig (val l))) := ⟨_, _, rfl, by simp, (hO.rd (a := a) (vals := ws .u32 l)).pre' (ws_prefix hw), ws_one _ _⟩
  refine WPL.app (ze := [.int .u32 0]) (vals := []) (G := []) (L := []) rfl hO (.inl ⟨rfl, rfl, rfl, rfl⟩) (by simp) (by omega) hsrc (by decide) (by omega) (by omega) rfl (fun a9 c9 G9 w hG9 hc9 hO => ?_)
  refine WPL.as (v := .slice _ _ _) rfl rfl ?_
  refine WPL.nil ?_
  refine WP.ret ?_
  refine ⟨rfl, ?_⟩
  refine RO.tmp (v := .slice _ _ _) rfl ?_
  refine RO.nil ?_
  refine ⟨hO.fr, a9, c9, ?_, by omega, hO.giveG hG9⟩
  show Value.slice _ _ _ = _
  rw [Nat.zero_add]

theorem r2_Of {w : World} (x : Nat) (hx : x < 18446744073709551616) : Spec Tryd.prog 68 [.int .u64 (x : Int)] w (fun v w' => FrX [] w w' ∧ NatRes w w' 60 x v) := by
  have hO : Own [] w [] [] [] w := Own.start (by intro e he; cases he) (by intro r hr'; cases hr')
  refine Spec.enter (n := 10) (rs := [.tmp 2]) Tryd.func68 rfl rfl rfl rfl ?_
  refine WP.rs ?_
  refine WPL.as (v := .slice none 0 0) rfl rfl ?_
  refine WPL.nil ?_
  refine WP.rs ?_
  refine WPL.mv (v := .int .u64 _) rfl rfl ?_
  refine WPL.cm_u32 rfl rfl ?_
  refine WPL.mv (v := .int .u64 _) rfl rfl ?_
  refine WPL.shrc_u64 (p := 4294967296) rfl rfl rfl (by first | omega | exact Nat.mod_lt _ (by decide) | exact Wd.get (by assumption) _ | exact (dig_wd _).get _ | exact Nat.lt_of_le_of_lt (Nat.div_le_self ..) (Wd.get (by assumption) _) | exact Nat.lt_of_lt_of_le (Wd.get (by assumption) _) (by decide)) rfl ?_
  refine WPL.cm_u32 rfl rfl ?_
  refine WPL.bs1 (pv := [(0, .int .u32 _), (1, .int .u32 _)]) (vs := [_, _]) rfl hO rfl rfl rfl rfl (fun b1 w hO => ?_)
  have hrow := hO.rdA (b := b1) inferInstance
  refine WPL.call rfl (r2_Norm _ [x % 4294967296, x / 4294967296 % 4294967296] _ hrow (.cons (Nat.mod_lt _ (by decide)) (.cons (Nat.mod_lt _ (by decide)) .nil)) (N := x) (by simp only [val_cons, val_nil]; omega) (by simp) rfl (by simp)) Tryd.func50 rfl rfl rfl ?_
  rintro _ w' ⟨hf, a, c, rfl, hc, hr⟩
  refine WPL.as (v := .slice _ _ _) rfl rfl ?_
  refine WPL.nil ?_
  refine WP.ret ?_
  refine ⟨rfl, ?_⟩
  refine RO.tmp (v := .slice _ _ _) rfl ?_
  refine RO.nil ?_
  exact ⟨hO.fr.trans hf, a, c, rfl, hc, hr.mono hO.fr.size⟩

theorem r2_Cmp {w : World} (a : Option Addr) (l : List Nat) (c : Nat) {n N : Nat} (hr : RowOk w [] ⟨a, ws .u32 l⟩) (hw : Wd l) (hN : val l = N) (hc : l.length ≤ c) (hn : n = l.length) (hb : l.length ≤ 17592186044416)(a2 : Option Addr) (l2 : List Nat) (c2 : Nat) {n2 N2 : Nat} (hr2 : RowOk w [] ⟨a2, ws .u32 l2⟩) (hw2 : Wd l2) (hN2 : val l2 = N2) (hc2 : l2.length ≤ c2) (hn2 : n2 = l2.length) (hb2 : l2.length ≤ 17592186044416) : Spec Tryd.prog 32 [.slice a n c, .slice a2 n2 c2] w (fun v w' => v = .int .i64 (cmpN N N2) ∧ FrX [] w w') := by
  subst hn hn2
  have hO : Own [] w [] [] [⟨a, ws .u32 l⟩, ⟨a2, ws .u32 l2⟩] w := Own.start (by intro e he; cases he) (by
      simp only [List.mem_cons, List.not_mem_nil, or_false]
      rintro r (rfl | rfl)
      · exact hr
      · exact hr2)
  have hle := dig_length_le hw
  have hle2 := dig_length_le hw2
  rw [hN] at hle
  rw [hN2] at hle2
  refine Spec.enter (n := 41) (rs := [.tmp 4]) Tryd.func32 rfl rfl rfl rfl ?_
  refine WP.rs ?_
  refine WPL.as (v := .int .i64 0) rfl rfl ?_
  refine WPL.nil ?_
  refine WP.rs ?_
  refine WPL.mv (v := .slice _ _ _) rfl rfl ?_
  refine WPL.call rfl (r2_size a l _ hO.rd hw hN hc rfl hb) Tryd.func53 rfl rfl rfl ?_
  rintro _ _ ⟨rfl, rfl⟩
  refine WPL.as (v := .int .i64 _) rfl rfl ?_
  refine WPL.nil ?_
  refine WP.rs ?_
  refine WPL.mv (v := .slice _ _ _) rfl rfl ?_
  refine WPL.call rfl (r2_size a2 l2 _ hO.rd hw2 hN2 hc2 rfl hb2) Tryd.func53 rfl rfl rfl ?_
  rintro _ _ ⟨rfl, rfl⟩
  refine WPL.as (v := .int .i64 _) rfl rfl ?_
  refine WPL.nil ?_
  refine WP.seq ?_
  refine WP.rs ?_
  refine WPL.mv (v := .int .i64 _) rfl rfl ?_
  refine WPL.mv (v := .int .i64 _) rfl rfl ?_
  refine WPL.ne rfl rfl rfl ?_
  refine WPL.nil ?_
  refine WP.condP rfl (fun h1 => ?_) (fun h1 => ?_)
  · refine WP.seq ?_
    refine WP.rs ?_
    refine WPL.mv (v := .int .i64 _) rfl rfl ?_
    refine WPL.mv (v := .int .i64 _) rfl rfl ?_
    refine WPL.lt rfl rfl rfl ?_
    refine WPL.nil ?_
    refine WP.condP rfl (fun h2 => ?_) (fun h2 => ?_)
    · refine WP.rs ?_
      refine WPL.as (v := .int .i64 (-1)) rfl rfl ?_
      refine WPL.nil ?_
      refine WP.ret ?_
      refine ⟨rfl, ?_⟩
      refine RO.tmp (v := .int .i64 _) rfl ?_
      refine RO.nil ?_
      exact ⟨by rw [cmpN_lt (cmp_len (by omega))]; rfl, hO.fr⟩
    · refine WP.skip ?_
      refine WP.rs ?_
      refine WPL.as (v := .int .i64 1) rfl rfl ?_
      refine WPL.nil ?_
      refine WP.ret ?_
      refine ⟨rfl, ?_⟩
      refine RO.tmp (v := .int .i64 _) rfl ?_
      refine RO.nil ?_
      exact ⟨by rw [cmpN_gt (cmp_len (by omega))]; rfl, hO.fr⟩
  · refine WP.skip ?_
    refine WP.seq ?_
    refine WP.rs ?_
    have hO := (hO.takeV (a := a2) inferInstance hw2 hN2).takeV (a := a) inferInstance hw hN
    refine WPL.mv (v := .int .i64 _) rfl rfl ?_
    refine WPL.subI rfl rfl (by omega) rfl ?_
    refine WPL.as (v := .int .i64 _) rfl rfl ?_
    refine WPL.nil ?_
    refine WP.block ?_
    refine WP.loop (fun m σ ds w' => m ≤ (dig N).length ∧ val ((dig N).drop m) = val ((dig N2).drop m) ∧ Has σ [(0, .slice a l.length c), (1, .slice a2 l2.length c2), (5, .int .i64 ((m : Int) - 1))] ∧ ds = [] ∧ Own [] w [] [] [⟨a, ws .u32 (dig N)⟩, ⟨a2, ws .u32 (dig N2)⟩, ⟨a, ws .u32 l⟩, ⟨a2, ws .u32 l2⟩] w') (dig N).length ?_ ?_
    · exact ⟨Nat.le_refl _, by rw [List.drop_length, show (dig N).length = (dig N2).length by omega, List.drop_length], ⟨rfl, rfl, rfl, trivial⟩, rfl, hO⟩
    · rintro m σ ds w ⟨hm, hv, hH, rfl, hO⟩
      refine WP.reset hH ?_
      refine WP.seq ?_
      refine WP.rs ?_
      refine WPL.mv (v := .int .i64 _) rfl rfl ?_
      refine WPL.ge rfl rfl rfl ?_
      refine WPL.nil ?_
      refine WP.condP rfl (fun h3 => ?_) (fun h3 => ?_)
      · refine WP.skip ?_
        refine WP.seq ?_
        refine WP.block ?_
        refine WP.seq ?_
        refine WP.seq ?_
        refine WP.draw [(0, 0), (1, 0), (2, 1), (3, 1), (4, 0), (5, 0), (6, 1), (7, 1), (8, 0)] [] mixed (by kernel_rfl) (by kernel_rfl) rfl hO (fun w hO => ?_)
        refine WPD.pv rfl rfl (fun w k' h => WPL.mv (v := .slice _ _ _) rfl rfl (WPL.nil h)) ?_
        refine WPD.pv rfl rfl (fun w k' h => WPL.mv (v := .int .i64 _) rfl rfl (WPL.nil h)) ?_
        refine WPD.val rfl rfl (fun w hO k' h => WPL.ixR (j := m - 1) (vals := ws .u32 (dig N)) rfl hO inferInstance rfl (by omega) (by omega) (by simp; omega) rfl (WPL.nil h)) ?_
        refine WPD.val rfl rfl (fun w hO k' h => WPL.ldR rfl hO inferInstance (ws_get1 rfl (by omega)) rfl rfl (WPL.nil h)) ?_
        refine WPD.pv rfl rfl (fun w k' h => WPL.mv (v := .slice _ _ _) rfl rfl (WPL.nil h)) ?_
        refine WPD.pv rfl rfl (fun w k' h => WPL.mv (v := .int .i64 _) rfl rfl (WPL.nil h)) ?_
        refine WPD.val rfl rfl (fun w hO k' h => WPL.ixR (j := m - 1) (vals := ws .u32 (dig N2)) rfl hO inferInstance rfl (by omega) (by omega) (by simp; omega) rfl (WPL.nil h)) ?_
        refine WPD.val rfl rfl (fun w hO k' h => WPL.ldR rfl hO inferInstance (ws_get1 rfl (by omega)) rfl rfl (WPL.nil h)) ?_
        refine WPD.pv rfl rfl (fun w k' h => WPL.lt rfl rfl rfl (WPL.nil h)) ?_
        refine WPD.nil hO ?_
        refine WP.condP rfl (fun h4 => ?_) (fun h4 => ?_)
        · refine WP.rs ?_
          refine WPL.as (v := .int .i64 (-1)) rfl rfl ?_
          refine WPL.nil ?_
          refine WP.ret ?_
          refine ⟨rfl, ?_⟩
          refine RO.tmp (v := .int .i64 _) rfl ?_
          refine RO.nil ?_
          have := cmp_word (dig_wd N) (dig_wd N2) (i := m - 1) (by omega) (by omega) (by rw [show m - 1 + 1 = m by omega]; exact hv) (by omega)
          rw [val_dig, val_dig] at this
          exact ⟨by rw [cmpN_lt this]; rfl, hO.fr⟩
        · refine WP.skip ?_
          refine WP.seq ?_
          refine WP.draw [(0, 0), (1, 0), (2, 1), (3, 1), (4, 0), (5, 0), (6, 1), (7, 1), (8, 0)] [] mixed (by kernel_rfl) (by kernel_rfl) rfl hO (fun w hO => ?_)
          refine WPD.pv rfl rfl (fun w k' h => WPL.mv (v := .slice _ _ _) rfl rfl (WPL.nil h)) ?_
          refine WPD.pv rfl rfl (fun w k' h => WPL.mv (v := .int .i64 _) rfl rfl (WPL.nil h)) ?_
          refine WPD.val rfl rfl (fun w hO k' h => WPL.ixR (j := m - 1) (vals := ws .u32 (dig N)) rfl hO inferInstance rfl (by omega) (by omega) (by simp; omega) rfl (WPL.nil h)) ?_
          refine WPD.val rfl rfl (fun w hO k' h => WPL.ldR rfl hO inferInstance (ws_get1 rfl (by omega)) rfl rfl (WPL.nil h)) ?_
          refine WPD.pv rfl rfl (fun w k' h => WPL.mv (v := .slice _ _ _) rfl rfl (WPL.nil h)) ?_
          refine WPD.pv rfl rfl (fun w k' h => WPL.mv (v := .int .i64 _) rfl rfl (WPL.nil h)) ?_
          refine WPD.val rfl rfl (fun w hO k' h => WPL.ixR (j := m - 1) (vals := ws .u32 (dig N2)) rfl hO inferInstance rfl (by omega) (by omega) (by simp; omega) rfl (WPL.nil h)) ?_
          refine WPD.val rfl rfl (fun w hO k' h => WPL.ldR rfl hO inferInstance (ws_get1 rfl (by omega)) rfl rfl (WPL.nil h)) ?_
          refine WPD.pv rfl rfl (fun w k' h => WPL.gt rfl rfl rfl (WPL.nil h)) ?_
          refine WPD.nil hO ?_
          refine WP.condP rfl (fun h5 => ?_) (fun h5 => ?_)
          · refine WP.rs ?_
            refine WPL.as (v := .int .i64 1) rfl rfl ?_
            refine WPL.nil ?_
            refine WP.ret ?_
            refine ⟨rfl, ?_⟩
            refine RO.tmp (v := .int .i64 _) rfl ?_
            refine RO.nil ?_
            have := cmp_word (dig_wd N2) (dig_wd N) (i := m - 1) (by omega) (by omega) (by rw [show m - 1 + 1 = m by omega]; exact hv.symm) (by omega)
            rw [val_dig, val_dig] at this
            exact ⟨by rw [cmpN_gt this]; rfl, hO.fr⟩
          · refine WP.skip ?_
            refine WP.region ?_
            refine WPL.mv (v := .int .i64 _) rfl rfl ?_
            refine WPL.subI rfl rfl (by omega) rfl ?_
            refine WPL.as (v := .int .i64 _) rfl rfl ?_
            refine WPL.nil ?_
            refine ⟨m - 1, by omega, by omega, ?_, ⟨rfl, rfl, by show Value.int .i64 _ = _; congr 1; omega, trivial⟩, rfl, hO⟩
            exact drop_step (by rw [show m - 1 + 1 = m by omega]; exact hv) (by omega)
      · refine WP.exit ?_
        refine WP.rs ?_
        refine WPL.as (v := .int .i64 0) rfl rfl ?_
        refine WPL.nil ?_
        refine WP.ret ?_
        refine ⟨rfl, ?_⟩
        refine RO.tmp (v := .int .i64 _) rfl ?_
        refine RO.nil ?_
        have e0 : m = 0 := by omega
        subst e0
        rw [List.drop_zero, List.drop_zero, val_dig, val_dig] at hv
        exact ⟨by rw [cmpN_eq hv]; rfl, hO.fr⟩

theorem r2_at {w : World} (a : Option Addr) (l : List Nat) (c : Nat) {n : Nat} (hr : RowOk w [] ⟨a, ws .u32 l⟩) (hw : Wd l) (hc : l.length ≤ c) (hn : n = l.length) (hb : l.length ≤ 17592186044416) (i : Nat) (hi : i < 4398046511104) : Spec Tryd.prog 52 [.slice a n c, .int .i64 (i : Int)] w (fun v w' => v = .int .u64 ((l.getD i 0 : Nat) : Int) ∧ w = w') := by
  subst hn
  have hO : Own [] w [] [] [⟨a, ws .u32 l⟩] w := Own.start (by intro e he; cases he) (by
      simp only [List.mem_cons, List.not_mem_nil, or_false]
      rintro r rfl
      · exact hr)
  refine Spec.enter (n := 14) (rs := [.tmp 4]) Tryd.func52 rfl rfl rfl rfl ?_
  refine WP.rs ?_
  refine WPL.as (v := .int .u64 ((0 : Nat) : Int)) rfl rfl ?_
  refine WPL.nil ?_
  refine WP.seq ?_
  refine WP.rs ?_
  refine WPL.mv (v := .int .i64 _) rfl rfl ?_
  refine WPL.mv (v := .slice _ _ _) rfl rfl ?_
  refine WPL.len rfl rfl ?_
  refine WPL.ge rfl rfl rfl ?_
  refine WPL.nil ?_
  refine WP.condP rfl (fun h1 => ?_) (fun h1 => ?_)
  · refine WP.rs ?_
    refine WPL.as (v := .int .u64 ((0 : Nat) : Int)) rfl rfl ?_
    refine WPL.nil ?_
    refine WP.ret ?_
    refine ⟨rfl, ?_⟩
    refine RO.tmp (v := .int .u64 _) rfl ?_
    refine RO.nil ?_
    refine ⟨?_, rfl⟩
    rw [getD_ge (by omega)]; rfl
  · refine WP.skip ?_
    refine WP.rs ?_
    refine WPL.mv (v := .slice _ _ _) rfl rfl ?_
    refine WPL.mv (v := .int .i64 _) rfl rfl ?_
    refine WPL.ixR rfl hO inferInstance rfl rfl (by first | omega | (simp; omega)) (by first | omega | (simp; omega)) rfl ?_
    refine WPL.ldR rfl hO inferInstance (ws_get1 rfl (by omega)) rfl rfl ?_
    refine WPL.cv_u64 rfl (by first | omega | exact Nat.mod_lt _ (by decide) | exact Wd.get (by assumption) _ | exact (dig_wd _).get _ | exact Nat.lt_of_le_of_lt (Nat.div_le_self ..) (Wd.get (by assumption) _) | exact Nat.lt_of_lt_of_le (Wd.get (by assumption) _) (by decide)) rfl ?_
    refine WPL.as (v := .int .u64 _) rfl rfl ?_
    refine WPL.nil ?_
    refine WP.ret ?_
    refine ⟨rfl, ?_⟩
    refine RO.tmp (v := .int .u64 _) rfl ?_
    refine RO.nil ?_
    exact ⟨rfl, rfl⟩

theorem r2_Plus {w0 : World} (a : Option Addr) (l : List Nat) (c : Nat) {n N : Nat} (hr : RowOk w0 [] ⟨a, ws .u32 l⟩) (hw : Wd l) (hN : val l = N) (hc : l.length ≤ c) (hn : n = l.length) (hb : l.length ≤ 1099511627776)(a2 : Option Addr) (l2 : List Nat) (c2 : Nat) {n2 N2 : Nat} (hr2 : RowOk w0 [] ⟨a2, ws .u32 l2⟩) (hw2 : Wd l2) (hN2 : val l2 = N2) (hc2 : l2.length ≤ c2) (hn2 : n2 = l2.length) (hb2 : l2.length ≤ 1099511627776) : Spec Tryd.prog 31 [.slice a n c, .slice a2 n2 c2] w0 (fun v w' => FrX [] w0 w' ∧ NatRes w0 w' 60 (N + N2) v) := by
  subst hn hn2 hN hN2
  have hO : Own [] w0 [] [] [⟨a, ws .u32 l⟩, ⟨a2, ws .u32 l2⟩] w0 := Own.start (by intro e he; cases he) (by
      simp only [List.mem_cons, List.not_mem_nil, or_false]
      rintro r (rfl | rfl)
      · exact hr
      · exact hr2)
  refine Spec.enter (n := 43) (rs := [.tmp 4]) Tryd.func31 rfl rfl rfl rfl ?_
  refine WP.rs ?_
  refine WPL.as (v := .slice none 0 0) rfl rfl ?_
  refine WPL.nil ?_
  refine WP.rs ?_
  refine WPL.as (v := .slice none 0 0) rfl rfl ?_
  refine WPL.nil ?_
  refine WP.rs ?_
  refine WPL.as (v := .int .u64 ((0 : Nat) : Int)) rfl rfl ?_
  refine WPL.nil ?_
  refine WP.seq ?_
  refine WP.rs ?_
  refine WPL.as (v := .int .i64 0) rfl rfl ?_
  refine WPL.nil ?_
  refine WP.block ?_
  refine WP.loop (fun m σ ds w' => ∃ i q o a5 c5 G, (max l.length l2.length + 2 = m + i) ∧ (q = 0 ∨ i ≤ max l.length l2.length) ∧ o.length = i ∧ Wd o ∧ q ≤ 1 ∧ val o + q * 4294967296 ^ i = val (l.take i) + val (l2.take i) ∧ i ≤ c5 ∧ Grown a5 c5 1 (ws .u32 o) 60 G ∧ Has σ [(0, .slice a l.length c), (1, .slice a2 l2.length c2), (5, .slice a5 i c5), (6, .int .u64 (q : Int)), (7, .int .i64 (i : Int))] ∧ ds = [] ∧ Own [] w0 [] (G ++ []) [⟨a, ws .u32 l⟩, ⟨a2, ws .u32 l2⟩] w') (max l.length l2.length + 2) ?_ ?_
  · exact ⟨0, 0, [], none, 0, [], rfl, .inl rfl, rfl, .nil, by decide, by simp [val], Nat.le_refl _, .inl ⟨rfl, rfl, rfl, rfl⟩, ⟨rfl, rfl, rfl, rfl, rfl, trivial⟩, rfl, hO⟩
  · rintro m σ ds w ⟨i, q, o, a5, c5, G, hi, hqi, ho, hwo, hq, hv, hc5, hG, hH, rfl, hO⟩
    refine WP.reset hH ?_
    have hx := hw.get i
    have hy := hw2.get i
    obtain ⟨t, ht⟩ : ∃ t, t = l.getD i 0 + l2.getD i 0 + q := ⟨_, rfl⟩
    refine WP.seq ?_
    refine WP.rs ?_
    refine WPL.mv (v := .int .i64 _) rfl rfl ?_
    refine WPL.mv (v := .slice _ _ _) rfl rfl ?_
    refine WPL.len rfl rfl ?_
    refine WPL.lt rfl rfl rfl ?_
    refine WPL.mv (v := .bool _) rfl rfl ?_
    refine WPL.split (s := 13) rfl (fun h1 => ?_) (fun h1 => ?_)
    · have ph1 := of_decide_eq_true h1
      refine WPL.guardF rfl rfl rfl h1 ?_
      refine WPL.guardF rfl rfl rfl h1 ?_
      refine WPL.guardF rfl rfl rfl h1 ?_
      refine WPL.guardF rfl rfl rfl h1 ?_
      refine WPL.pkT (v := .bool true) rfl h1 rfl rfl ?_
      refine WPL.mv (v := .bool _) rfl rfl ?_
      refine WPL.guardF rfl rfl rfl rfl ?_
      refine WPL.guardF rfl rfl rfl rfl ?_
      refine WPL.pkT (v := .bool true) rfl rfl rfl rfl ?_
      refine WPL.nil ?_
      refine WP.cT rfl rfl ?_
      refine WP.skip ?_
      refine WP.seq ?_
      refine WP.block ?_
      refine WP.rs ?_
      refine WPL.mv (v := .slice _ _ _) rfl rfl ?_
      refine WPL.mv (v := .int .i64 _) rfl rfl ?_
      refine WPL.call rfl (r2_at a l _ hO.rd hw hc rfl (by omega) i (by omega)) Tryd.func52 rfl rfl rfl ?_
      rintro _ _ ⟨rfl, rfl⟩
      refine WPL.mv (v := .slice _ _ _) rfl rfl ?_
      refine WPL.mv (v := .int .i64 _) rfl rfl ?_
      refine WPL.call rfl (r2_at a2 l2 _ hO.rd hw2 hc2 rfl (by omega) i (by omega)) Tryd.func52 rfl rfl rfl ?_
      rintro _ _ ⟨rfl, rfl⟩
      refine WPL.u64To (l.getD i 0 + l2.getD i 0) (.inr (.inl rfl)) rfl rfl (.inr (.inl ⟨rfl, rfl⟩)) (by omega) rfl ?_
      refine WPL.mv (v := .int .u64 _) rfl rfl ?_
      refine WPL.u64To t (.inr (.inl rfl)) rfl rfl (.inr (.inl ⟨rfl, ht.symm⟩)) (by omega) rfl ?_
      refine WPL.as (v := .int .u64 _) rfl rfl ?_
      refine WPL.nil ?_
      refine WP.rs ?_
      refine WPL.mv (v := .slice _ _ _) rfl rfl ?_
      refine WPL.mv (v := .int .u64 _) rfl rfl ?_
      refine WPL.cm_u32 rfl rfl ?_
      refine WPL.bs1 (pv := [(0, .int .u32 _)]) (vs := [_]) rfl hO rfl rfl rfl rfl (fun b1 w hO => ?_)
      have hO := hO.freeze
      have hsrc : SrcRow w (.slice (some ⟨b1, 0, none⟩) 1 1) 1 1 (ws .u32 [t % 4294967296]) := ⟨_, _, rfl, by simp, hO.rd, ws_one _ _⟩
      refine WPL.app (ze := [.int .u32 0]) (vals := ws .u32 o) (L := []) rfl hO hG (by simp [ho]) hc5 hsrc (by decide) (by omega) (by omega) rfl (fun a38 c38 G38 w hG38 hc38 hO => ?_)
      have hO := hO.dropR
      rw [← ws_append] at hG38
      refine WPL.as (v := .slice _ _ _) rfl rfl ?_
      refine WPL.nil ?_
      refine WP.region ?_
      refine WPL.mv (v := .int .u64 _) rfl rfl ?_
      refine WPL.shrc_u64 (p := 4294967296) rfl rfl rfl (by first | omega | exact Nat.mod_lt _ (by decide) | exact Wd.get (by assumption) _ | exact (dig_wd _).get _ | exact Nat.lt_of_le_of_lt (Nat.div_le_self ..) (Wd.get (by assumption) _) | exact Nat.lt_of_lt_of_le (Wd.get (by assumption) _) (by decide)) rfl ?_
      refine WPL.as (v := .int .u64 _) rfl rfl ?_
      refine WPL.nil ?_
      refine WP.region ?_
      refine WPL.mv (v := .int .i64 _) rfl rfl ?_
      refine WPL.addI rfl rfl (by omega) rfl ?_
      refine WPL.as (v := .int .i64 _) rfl rfl ?_
      refine WPL.nil ?_
      have st := plus_next ho hwo hw hw2 hq ht hv
      exact ⟨m - 1, by omega, i + 1, _, _, a38, c38, G38, by omega, by first | exact .inr (by omega) | exact .inl (by have := @getD_ge l i; have := @getD_ge l2 i; omega), st.1, st.2.1, st.2.2.1, st.2.2.2, hc38, hG38, ⟨rfl, rfl, rfl, rfl, rfl, trivial⟩, rfl, hO⟩
    · have ph1 := of_decide_eq_false h1
      refine WPL.guardT rfl rfl h1 ?_
      refine WPL.mv (v := .int .i64 _) rfl rfl ?_
      refine WPL.guardT rfl rfl h1 ?_
      refine WPL.mv (v := .slice _ _ _) rfl rfl ?_
      refine WPL.guardT rfl rfl h1 ?_
      refine WPL.len rfl rfl ?_
      refine WPL.guardT rfl rfl h1 ?_
      refine WPL.lt rfl rfl rfl ?_
      refine WPL.pkF (v := .bool _) rfl h1 rfl rfl ?_
      refine WPL.mv (v := .bool _) rfl rfl ?_
      refine WPL.split (s := 19) rfl (fun h2 => ?_) (fun h2 => ?_)
      · have ph2 := of_decide_eq_true h2
        refine WPL.guardF rfl rfl rfl h2 ?_
        refine WPL.guardF rfl rfl rfl h2 ?_
        refine WPL.pkT (v := .bool true) rfl h2 rfl rfl ?_
        refine WPL.nil ?_
        refine WP.cT rfl rfl ?_
        refine WP.skip ?_
        refine WP.seq ?_
        refine WP.block ?_
        refine WP.rs ?_
        refine WPL.mv (v := .slice _ _ _) rfl rfl ?_
        refine WPL.mv (v := .int .i64 _) rfl rfl ?_
        refine WPL.call rfl (r2_at a l _ hO.rd hw hc rfl (by omega) i (by omega)) Tryd.func52 rfl rfl rfl ?_
        rintro _ _ ⟨rfl, rfl⟩
        refine WPL.mv (v := .slice _ _ _) rfl rfl ?_
        refine WPL.mv (v := .int .i64 _) rfl rfl ?_
        refine WPL.call rfl (r2_at a2 l2 _ hO.rd hw2 hc2 rfl (by omega) i (by omega)) Tryd.func52 rfl rfl rfl ?_
        rintro _ _ ⟨rfl, rfl⟩
        refine WPL.u64To (l.getD i 0 + l2.getD i 0) (.inr (.inl rfl)) rfl rfl (.inr (.inl ⟨rfl, rfl⟩)) (by omega) rfl ?_
        refine WPL.mv (v := .int .u64 _) rfl rfl ?_
        refine WPL.u64To t (.inr (.inl rfl)) rfl rfl (.inr (.inl ⟨rfl, ht.symm⟩)) (by omega) rfl ?_
        refine WPL.as (v := .int .u64 _) rfl rfl ?_
        refine WPL.nil ?_
        refine WP.rs ?_
        refine WPL.mv (v := .slice _ _ _) rfl rfl ?_
        refine WPL.mv (v := .int .u64 _) rfl rfl ?_
        refine WPL.cm_u32 rfl rfl ?_
        refine WPL.bs1 (pv := [(0, .int .u32 _)]) (vs := [_]) rfl hO rfl rfl rfl rfl (fun b2 w hO => ?_)
        have hO := hO.freeze
        have hsrc : SrcRow w (.slice (some ⟨b2, 0, none⟩) 1 1) 1 1 (ws .u32 [t % 4294967296]) := ⟨_, _, rfl, by simp, hO.rd, ws_one _ _⟩
        refine WPL.app (ze := [.int .u32 0]) (vals := ws .u32 o) (L := []) rfl hO hG (by simp [ho]) hc5 hsrc (by decide) (by omega) (by omega) rfl (fun a38 c38 G38 w hG38 hc38 hO => ?_)
        have hO := hO.dropR
        rw [← ws_append] at hG38
        refine WPL.as (v := .slice _ _ _) rfl rfl ?_
        refine WPL.nil ?_
        refine WP.region ?_
        refine WPL.mv (v := .int .u64 _) rfl rfl ?_
        refine WPL.shrc_u64 (p := 4294967296) rfl rfl rfl (by first | omega | exact Nat.mod_lt _ (by decide) | exact Wd.get (by assumption) _ | exact (dig_wd _).get _ | exact Nat.lt_of_le_of_lt (Nat.div_le_self ..) (Wd.get (by assumption) _) | exact Nat.lt_of_lt_of_le (Wd.get (by assumption) _) (by decide)) rfl ?_
        refine WPL.as (v := .int .u64 _) rfl rfl ?_
        refine WPL.nil ?_
        refine WP.region ?_
        refine WPL.mv (v := .int .i64 _) rfl rfl ?_
        refine WPL.addI rfl rfl (by omega) rfl ?_
        refine WPL.as (v := .int .i64 _) rfl rfl ?_
        refine WPL.nil ?_
        have st := plus_next ho hwo hw hw2 hq ht hv
        exact ⟨m - 1, by omega, i + 1, _, _, a38, c38, G38, by omega, by first | exact .inr (by omega) | exact .inl (by have := @getD_ge l i; have := @getD_ge l2 i; omega), st.1, st.2.1, st.2.2.1, st.2.2.2, hc38, hG38, ⟨rfl, rfl, rfl, rfl, rfl, trivial⟩, rfl, hO⟩
      · have ph2 := of_decide_eq_false h2
        refine WPL.guardT rfl rfl h2 ?_
        refine WPL.mv (v := .int .u64 _) rfl rfl ?_
        refine WPL.guardT rfl rfl h2 ?_
        refine WPL.gt rfl rfl rfl ?_
        refine WPL.pkF (v := .bool _) rfl h2 rfl rfl ?_
        refine WPL.nil ?_
        refine WP.condP rfl (fun h3 => ?_) (fun h3 => ?_)
        · refine WP.skip ?_
          refine WP.seq ?_
          refine WP.block ?_
          refine WP.rs ?_
          refine WPL.mv (v := .slice _ _ _) rfl rfl ?_
          refine WPL.mv (v := .int .i64 _) rfl rfl ?_
          refine WPL.call rfl (r2_at a l _ hO.rd hw hc rfl (by omega) i (by omega)) Tryd.func52 rfl rfl rfl ?_
          rintro _ _ ⟨rfl, rfl⟩
          refine WPL.mv (v := .slice _ _ _) rfl rfl ?_
          refine WPL.mv (v := .int .i64 _) rfl rfl ?_
          refine WPL.call rfl (r2_at a2 l2 _ hO.rd hw2 hc2 rfl (by omega) i (by omega)) Tryd.func52 rfl rfl rfl ?_
          rintro _ _ ⟨rfl, rfl⟩
          refine WPL.u64To (l.getD i 0 + l2.getD i 0) (.inr (.inl rfl)) rfl rfl (.inr (.inl ⟨rfl, rfl⟩)) (by omega) rfl ?_
          refine WPL.mv (v := .int .u64 _) rfl rfl ?_
          refine WPL.u64To t (.inr (.inl rfl)) rfl rfl (.inr (.inl ⟨rfl, ht.symm⟩)) (by omega) rfl ?_
          refine WPL.as (v := .int .u64 _) rfl rfl ?_
          refine WPL.nil ?_
          refine WP.rs ?_
          refine WPL.mv (v := .slice _ _ _) rfl rfl ?_
          refine WPL.mv (v := .int .u64 _) rfl rfl ?_
          refine WPL.cm_u32 rfl rfl ?_
          refine WPL.bs1 (pv := [(0, .int .u32 _)]) (vs := [_]) rfl hO rfl rfl rfl rfl (fun b3 w hO => ?_)
          have hO := hO.freeze
          have hsrc : SrcRow w (.slice (some ⟨b3, 0, none⟩) 1 1) 1 1 (ws .u32 [t % 4294967296]) := ⟨_, _, rfl, by simp, hO.rd, ws_one _ _⟩
          refine WPL.app (ze := [.int .u32 0]) (vals := ws .u32 o) (L := []) rfl hO hG (by simp [ho]) hc5 hsrc (by decide) (by omega) (by omega) rfl (fun a38 c38 G38 w hG38 hc38 hO => ?_)
          have hO := hO.dropR
          rw [← ws_append] at hG38
          refine WPL.as (v := .slice _ _ _) rfl rfl ?_
          refine WPL.nil ?_
          refine WP.region ?_
          refine WPL.mv (v := .int .u64 _) rfl rfl ?_
          refine WPL.shrc_u64 (p := 4294967296) rfl rfl rfl (by first | omega | exact Nat.mod_lt _ (by decide) | exact Wd.get (by assumption) _ | exact (dig_wd _).get _ | exact Nat.lt_of_le_of_lt (Nat.div_le_self ..) (Wd.get (by assumption) _) | exact Nat.lt_of_lt_of_le (Wd.get (by assumption) _) (by decide)) rfl ?_
          refine WPL.as (v := .int .u64 _) rfl rfl ?_
          refine WPL.nil ?_
          refine WP.region ?_
          refine WPL.mv (v := .int .i64 _) rfl rfl ?_
          refine WPL.addI rfl rfl (by omega) rfl ?_
          refine WPL.as (v := .int .i64 _) rfl rfl ?_
          refine WPL.nil ?_
          have st := plus_next ho hwo hw hw2 hq ht hv
          exact ⟨m - 1, by omega, i + 1, _, _, a38, c38, G38, by omega, by first | exact .inr (by omega) | exact .inl (by have := @getD_ge l i; have := @getD_ge l2 i; omega), st.1, st.2.1, st.2.2.1, st.2.2.2, hc38, hG38, ⟨rfl, rfl, rfl, rfl, rfl, trivial⟩, rfl, hO⟩
        · refine WP.exit ?_
          refine WP.rs ?_
          refine WPL.mv (v := .slice _ _ _) rfl rfl ?_
          have hs0 := hO.fr.size
          have hvo := plus_end (l := l) (l2 := l2) (i := i) (by omega) (by omega) (by omega) hv
          refine WPL.call rfl (r2_Norm _ o _ (hO.rdG hG) hwo hvo (by omega) ho.symm (by omega)) Tryd.func50 rfl rfl rfl ?_
          rintro _ w ⟨hf42, a42, c42, rfl, hc42, hr42⟩
          have hO := hO.res hf42 hr42
          refine WPL.as (v := .slice _ _ _) rfl rfl ?_
          refine WPL.nil ?_
          refine WP.ret ?_
          refine ⟨rfl, ?_⟩
          refine RO.tmp (v := .slice _ _ _) rfl ?_
          refine RO.nil ?_
          exact ⟨hO.fr, a42, c42, rfl, hc42, hr42.mono hs0⟩

theorem r2_Minus {w0 : World} (a : Option Addr) (l : List Nat) (c : Nat) {n N : Nat} (hr : RowOk w0 [] ⟨a, ws .u32 l⟩) (hw : Wd l) (hN : val l = N) (hc : l.length ≤ c) (hn : n = l.length) (hb : l.length ≤ 1099511627776)(a2 : Option Addr) (l2 : List Nat) (c2 : Nat) {n2 N2 : Nat} (hr2 : RowOk w0 [] ⟨a2, ws .u32 l2⟩) (hw2 : Wd l2) (hN2 : val l2 = N2) (hc2 : l2.length ≤ c2) (hn2 : n2 = l2.length) (hb2 : l2.length ≤ 1099511627776) (hle : N2 ≤ N) (hll : l2.length ≤ l.length) : Spec Tryd.prog 33 [.slice a n c, .slice a2 n2 c2] w0 (fun v w' => FrX [] w0 w' ∧ NatRes w0 w' 60 (N - N2) v) := by
  subst hn hn2 hN hN2
  have hO : Own [] w0 [] [] [⟨a, ws .u32 l⟩, ⟨a2, ws .u32 l2⟩] w0 := Own.start (by intro e he; cases he) (by
      simp only [List.mem_cons, List.not_mem_nil, or_false]
      rintro r (rfl | rfl)
      · exact hr
      · exact hr2)
  refine Spec.enter (n := 35) (rs := [.tmp 4]) Tryd.func33 rfl rfl rfl rfl ?_
  refine WP.rs ?_
  refine WPL.as (v := .slice none 0 0) rfl rfl ?_
  refine WPL.nil ?_
  refine WP.rs ?_
  refine WPL.as (v := .slice none 0 0) rfl rfl ?_
  refine WPL.nil ?_
  refine WP.rs ?_
  refine WPL.as (v := .int .u64 ((0 : Nat) : Int)) rfl rfl ?_
  refine WPL.nil ?_
  refine WP.seq ?_
  refine WP.rs ?_
  refine WPL.as (v := .int .i64 0) rfl rfl ?_
  refine WPL.nil ?_
  refine WP.block ?_
  refine WP.loop (fun m σ ds w' => ∃ i q o a5 c5 G, m + i = l.length ∧ o.length = i ∧ Wd o ∧ q ≤ 1 ∧ val o + val (l2.take i) = val (l.take i) + q * 4294967296 ^ i ∧ i ≤ c5 ∧ Grown a5 c5 1 (ws .u32 o) 60 G ∧ Has σ [(0, .slice a l.length c), (1, .slice a2 l2.length c2), (5, .slice a5 i c5), (6, .int .u64 (q : Int)), (7, .int .i64 (i : Int))] ∧ ds = [] ∧ Own [] w0 [] (G ++ []) [⟨a, ws .u32 l⟩, ⟨a2, ws .u32 l2⟩] w') l.length ?_ ?_
  · exact ⟨0, 0, [], none, 0, [], rfl, rfl, .nil, by decide, by simp [val], Nat.le_refl _, .inl ⟨rfl, rfl, rfl, rfl⟩, ⟨rfl, rfl, rfl, rfl, rfl, trivial⟩, rfl, hO⟩
  · rintro m σ ds w ⟨i, q, o, a5, c5, G, hi, ho, hwo, hq, hv, hc5, hG, hH, rfl, hO⟩
    refine WP.reset hH ?_
    have hx := hw.get i
    have hy := hw2.get i
    obtain ⟨t, ht⟩ : ∃ t, t = l.getD i 0 + 4294967296 - l2.getD i 0 - q := ⟨_, rfl⟩
    refine WP.seq ?_
    refine WP.rs ?_
    refine WPL.mv (v := .int .i64 _) rfl rfl ?_
    refine WPL.mv (v := .slice _ _ _) rfl rfl ?_
    refine WPL.len rfl rfl ?_
    refine WPL.lt rfl rfl rfl ?_
    refine WPL.nil ?_
    refine WP.condP rfl (fun h1 => ?_) (fun h1 => ?_)
    · refine WP.skip ?_
      refine WP.seq ?_
      refine WP.block ?_
      refine WP.rs ?_
      refine WPL.mv (v := .slice _ _ _) rfl rfl ?_
      refine WPL.mv (v := .int .i64 _) rfl rfl ?_
      refine WPL.call rfl (r2_at a l _ hO.rd hw hc rfl (by omega) i (by omega)) Tryd.func52 rfl rfl rfl ?_
      rintro _ _ ⟨rfl, rfl⟩
      refine WPL.u64To (b := 4294967296) (l.getD i 0 + 4294967296) (.inr (.inl rfl)) rfl rfl (.inr (.inl ⟨rfl, rfl⟩)) (by omega) rfl ?_
      refine WPL.mv (v := .slice _ _ _) rfl rfl ?_
      refine WPL.mv (v := .int .i64 _) rfl rfl ?_
      refine WPL.call rfl (r2_at a2 l2 _ hO.rd hw2 hc2 rfl (by omega) i (by omega)) Tryd.func52 rfl rfl rfl ?_
      rintro _ _ ⟨rfl, rfl⟩
      refine WPL.u64To (l.getD i 0 + 4294967296 - l2.getD i 0) (.inl rfl) rfl rfl (.inl ⟨rfl, by omega⟩) (by omega) rfl ?_
      refine WPL.mv (v := .int .u64 _) rfl rfl ?_
      refine WPL.u64To t (.inl rfl) rfl rfl (.inl ⟨rfl, by omega⟩) (by omega) rfl ?_
      refine WPL.as (v := .int .u64 _) rfl rfl ?_
      refine WPL.nil ?_
      refine WP.rs ?_
      refine WPL.mv (v := .slice _ _ _) rfl rfl ?_
      refine WPL.mv (v := .int .u64 _) rfl rfl ?_
      refine WPL.cm_u32 rfl rfl ?_
      refine WPL.bs1 (pv := [(0, .int .u32 _)]) (vs := [_]) rfl hO rfl rfl rfl rfl (fun b1 w hO => ?_)
      have hO := hO.freeze
      have hsrc : SrcRow w (.slice (some ⟨b1, 0, none⟩) 1 1) 1 1 (ws .u32 [t % 4294967296]) := ⟨_, _, rfl, by simp, hO.rd, ws_one _ _⟩
      refine WPL.app (ze := [.int .u32 0]) (vals := ws .u32 o) (L := []) rfl hO hG (by simp [ho]) hc5 hsrc (by decide) (by omega) (by omega) rfl (fun a29 c29 G29 w hG29 hc29 hO => ?_)
      have hO := hO.dropR
      rw [← ws_append] at hG29
      refine WPL.as (v := .slice _ _ _) rfl rfl ?_
      refine WPL.nil ?_
      refine WP.region ?_
      refine WPL.mv (v := .int .u64 _) rfl rfl ?_
      refine WPL.shrc_u64 (p := 4294967296) rfl rfl rfl (by first | omega | exact Nat.mod_lt _ (by decide) | exact Wd.get (by assumption) _ | exact (dig_wd _).get _ | exact Nat.lt_of_le_of_lt (Nat.div_le_self ..) (Wd.get (by assumption) _) | exact Nat.lt_of_lt_of_le (Wd.get (by assumption) _) (by decide)) rfl ?_
      refine WPL.u64To (a := 1) (1 - t / 4294967296) (.inl rfl) rfl rfl (.inl ⟨rfl, by omega⟩) (by omega) rfl ?_
      refine WPL.as (v := .int .u64 _) rfl rfl ?_
      refine WPL.nil ?_
      refine WP.region ?_
      refine WPL.mv (v := .int .i64 _) rfl rfl ?_
      refine WPL.addI rfl rfl (by omega) rfl ?_
      refine WPL.as (v := .int .i64 _) rfl rfl ?_
      refine WPL.nil ?_
      have st := minus_next ho hwo hw hw2 hq ht hv
      exact ⟨m - 1, by omega, i + 1, _, _, a29, c29, G29, by omega, st.1, st.2.1, st.2.2.1, st.2.2.2, hc29, hG29, ⟨rfl, rfl, rfl, rfl, rfl, trivial⟩, rfl, hO⟩
    · refine WP.exit ?_
      refine WP.rs ?_
      refine WPL.mv (v := .slice _ _ _) rfl rfl ?_
      have hs0 := hO.fr.size
      obtain rfl : i = l.length := by omega
      have hvo := minus_end ho hwo hll hle hv
      refine WPL.call rfl (r2_Norm _ o _ (hO.rdG hG) hwo hvo (by omega) ho.symm (by omega)) Tryd.func50 rfl rfl rfl ?_
      rintro _ w ⟨hf34, a34, c34, rfl, hc34, hr34⟩
      have hO := hO.res hf34 hr34
      refine WPL.as (v := .slice _ _ _) rfl rfl ?_
      refine WPL.nil ?_
      refine WP.ret ?_
      refine ⟨rfl, ?_⟩
      refine RO.tmp (v := .slice _ _ _) rfl ?_
      refine RO.nil ?_
      exact ⟨hO.fr, a34, c34, rfl, hc34, hr34.mono hs0⟩

theorem r2_Times {w0 : World} (a : Option Addr) (l : List Nat) (c : Nat) {n N : Nat} (hr : RowOk w0 [] ⟨a, ws .u32 l⟩) (hw : Wd l) (hN : val l = N) (hc : l.length ≤ c) (hn : n = l.length) (hb : l.length ≤ 1099511627776)(a2 : Option Addr) (l2 : List Nat) (c2 : Nat) {n2 N2 : Nat} (hr2 : RowOk w0 [] ⟨a2, ws .u32 l2⟩) (hw2 : Wd l2) (hN2 : val l2 = N2) (hc2 : l2.length ≤ c2) (hn2 : n2 = l2.length) (hb2 : l2.length ≤ 1099511627776) : Spec Tryd.prog 51 [.slice a n c, .slice a2 n2 c2] w0 (fun v w' => FrX [] w0 w' ∧ NatRes w0 w' 60 (N * N2) v) := by
  subst hn hn2 hN hN2
  have hO : Own [] w0 [] [] [⟨a, ws .u32 l⟩, ⟨a2, ws .u32 l2⟩] w0 := Own.start (by intro e he; cases he) (by
      simp only [List.mem_cons, List.not_mem_nil, or_false]
      rintro r (rfl | rfl)
      · exact hr
      · exact hr2)
  refine Spec.enter (n := 68) (rs := [.tmp 4]) Tryd.func51 rfl rfl rfl rfl ?_
  refine WP.rs ?_
  refine WPL.as (v := .slice none 0 0) rfl rfl ?_
  refine WPL.nil ?_
  refine WP.rs ?_
  refine WPL.mv (v := .slice _ _ _) rfl rfl ?_
  refine WPL.len rfl rfl ?_
  refine WPL.mv (v := .slice _ _ _) rfl rfl ?_
  refine WPL.len rfl rfl ?_
  refine WPL.addI rfl rfl (by omega) rfl ?_
  refine WPL.mkW (l := l.length + l2.length) (c := l.length + l2.length) rfl rfl rfl rfl hO (by omega) (by omega) (by omega) rfl (fun b1 w hO => ?_)
  refine WPL.as (v := .slice _ _ _) rfl rfl ?_
  refine WPL.nil ?_
  refine WP.seq ?_
  refine WP.rs ?_
  refine WPL.as (v := .int .i64 0) rfl rfl ?_
  refine WPL.nil ?_
  refine WP.block ?_
  refine WP.loop (fun m σ ds w' => ∃ i o, m + i = l.length ∧ o.length = l.length + l2.length ∧ Wd o ∧ val o = val (l.take i) * val l2 ∧ (∀ k, i + l2.length ≤ k → o.getD k 0 = 0) ∧ Has σ [(0, .slice a l.length c), (1, .slice a2 l2.length c2), (5, .slice (some ⟨b1, 0, none⟩) (l.length + l2.length) (l.length + l2.length)), (6, .int .i64 (i : Int))] ∧ ds = [] ∧ Own [] w0 [] [⟨b1, ws .u32 o, 60⟩] [⟨a, ws .u32 l⟩, ⟨a2, ws .u32 l2⟩] w') l.length ?_ ?_
  · exact ⟨0, _, rfl, by simp, wd_zeros _, by simp [val, val_zeros], fun k _ => getD_replicate _ _, ⟨rfl, rfl, rfl, rfl, trivial⟩, rfl, hO⟩
  · rintro m σ ds w ⟨i, o, hi, ho, hwo, hv, hz, hH, rfl, hO⟩
    refine WP.reset hH ?_
    refine WP.seq ?_
    refine WP.rs ?_
    refine WPL.mv (v := .int .i64 _) rfl rfl ?_
    refine WPL.mv (v := .slice _ _ _) rfl rfl ?_
    refine WPL.len rfl rfl ?_
    refine WPL.lt rfl rfl rfl ?_
    refine WPL.nil ?_
    refine WP.condP rfl (fun h1 => ?_) (fun h1 => ?_)
    · refine WP.skip ?_
      refine WP.seq ?_
      refine WP.block ?_
      refine WP.rs ?_
      refine WPL.as (v := .int .u64 ((0 : Nat) : Int)) rfl rfl ?_
      refine WPL.nil ?_
      refine WP.seq ?_
      refine WP.rs ?_
      refine WPL.as (v := .int .i64 0) rfl rfl ?_
      refine WPL.nil ?_
      refine WP.block ?_
      refine WP.loop (fun m' σ ds w' => ∃ j q o, m' + j = l2.length ∧ o.length = l.length + l2.length ∧ Wd o ∧ q < 4294967296 ∧ val o + q * 4294967296 ^ (i + j) = val (l.take i) * val l2 + l.getD i 0 * val (l2.take j) * 4294967296 ^ i ∧ (∀ k, i + l2.length ≤ k → o.getD k 0 = 0) ∧ Has σ [(0, .slice a l.length c), (1, .slice a2 l2.length c2), (5, .slice (some ⟨b1, 0, none⟩) (l.length + l2.length) (l.length + l2.length)), (6, .int .i64 (i : Int)), (7, .int .u64 (q : Int)), (8, .int .i64 (j : Int))] ∧ ds = [] ∧ Own [] w0 [] [⟨b1, ws .u32 o, 60⟩] [⟨a, ws .u32 l⟩, ⟨a2, ws .u32 l2⟩] w') l2.length ?_ ?_
      · exact ⟨0, 0, _, rfl, ho, hwo, by decide, by rw [hv]; simp [val], hz, ⟨rfl, rfl, rfl, rfl, rfl, rfl, trivial⟩, rfl, hO⟩
      · clear ho hwo hv hz hO
        rintro m' σ ds w ⟨j, q, o, hj, ho, hwo, hq, hv, hz, hH, rfl, hO⟩
        refine WP.reset hH ?_
        refine WP.seq ?_
        refine WP.rs ?_
        refine WPL.mv (v := .int .i64 _) rfl rfl ?_
        refine WPL.mv (v := .slice _ _ _) rfl rfl ?_
        refine WPL.len rfl rfl ?_
        refine WPL.lt rfl rfl rfl ?_
        refine WPL.nil ?_
        refine WP.condP rfl (fun h2 => ?_) (fun h2 => ?_)
        · refine WP.skip ?_
          refine WP.seq ?_
          refine WP.block ?_
          refine WP.seq ?_
          refine WP.draw [(0, 0), (1, 0), (2, 1), (3, 1), (4, 0), (5, 0), (6, 0), (7, 1), (8, 1), (9, 0), (10, 0), (11, 0), (12, 0), (13, 0), (14, 0), (15, 0), (16, 1), (17, 0), (18, 0), (19, 0), (20, 0), (21, 0)] [] mixed (by kernel_rfl) (by kernel_rfl) rfl hO (fun w hO => ?_)
          refine WPD.pv rfl rfl (fun w k' h => WPL.mv (v := .slice _ _ _) rfl rfl (WPL.nil h)) ?_
          refine WPD.pv rfl rfl (fun w k' h => WPL.mv (v := .int .i64 _) rfl rfl (WPL.nil h)) ?_
          refine WPD.val rfl rfl (fun w hO k' h => WPL.ixR rfl hO inferInstance rfl rfl (by first | omega | (simp; omega)) (by first | omega | (simp; omega)) rfl (WPL.nil h)) ?_
          refine WPD.val rfl rfl (fun w hO k' h => WPL.ldR rfl hO inferInstance (ws_get1 rfl (by omega)) rfl rfl (WPL.nil h)) ?_
          refine WPD.pv rfl rfl (fun w k' h => WPL.cv_u64 (a := l.getD i 0) rfl (by have := hw.get i; omega) rfl (WPL.nil h)) ?_
          refine WPD.pv rfl rfl (fun w k' h => WPL.mv (v := .slice _ _ _) rfl rfl (WPL.nil h)) ?_
          refine WPD.pv rfl rfl (fun w k' h => WPL.mv (v := .int .i64 _) rfl rfl (WPL.nil h)) ?_
          refine WPD.val rfl rfl (fun w hO k' h => WPL.ixR rfl hO inferInstance rfl rfl (by first | omega | (simp; omega)) (by first | omega | (simp; omega)) rfl (WPL.nil h)) ?_
          refine WPD.val rfl rfl (fun w hO k' h => WPL.ldR rfl hO inferInstance (ws_get1 rfl (by omega)) rfl rfl (WPL.nil h)) ?_
          refine WPD.pv rfl rfl (fun w k' h => WPL.cv_u64 rfl (by have := hw2.get j; omega) rfl (WPL.nil h)) ?_
          refine WPD.pv rfl rfl (fun w k' h => WPL.mul_u64 rfl rfl rfl (WPL.nil h)) ?_
          refine WPD.pv rfl rfl (fun w k' h => WPL.mv (v := .slice _ _ _) rfl rfl (WPL.nil h)) ?_
          refine WPD.pv rfl rfl (fun w k' h => WPL.mv (v := .int .i64 _) rfl rfl (WPL.nil h)) ?_
          refine WPD.pv rfl rfl (fun w k' h => WPL.mv (v := .int .i64 _) rfl rfl (WPL.nil h)) ?_
          refine WPD.pv rfl rfl (fun w k' h => WPL.addI rfl rfl (by omega) rfl (WPL.nil h)) ?_
          refine WPD.pv rfl rfl (fun w k' h => WPL.ixL (j := i + j) rfl rfl rfl (by omega) rfl (WPL.nil h)) ?_
          refine WPD.val rfl rfl (fun w hO k' h => WPL.ldW rfl rfl hO inferInstance (by first | omega | (simp; omega)) rfl rfl (WPL.nil h)) ?_
          refine WPD.pv rfl rfl (fun w k' h => WPL.cv_u64 rfl (by have := hwo.get (i + j); omega) rfl (WPL.nil h)) ?_
          refine WPD.pv rfl rfl (fun w k' h => WPL.add_u64 rfl rfl rfl (WPL.nil h)) ?_
          refine WPD.pv rfl rfl (fun w k' h => WPL.mv (v := .int .u64 _) rfl rfl (WPL.nil h)) ?_
          refine WPD.pv rfl rfl (fun w k' h => WPL.add_u64 rfl rfl rfl (WPL.nil h)) ?_
          refine WPD.pv rfl rfl (fun w k' h => WPL.as (v := .int .u64 _) rfl rfl (WPL.nil h)) ?_
          refine WPD.nil hO ?_
          refine WP.rs ?_
          refine WPL.mv (v := .slice _ _ _) rfl rfl ?_
          refine WPL.mv (v := .int .i64 _) rfl rfl ?_
          refine WPL.mv (v := .int .i64 _) rfl rfl ?_
          refine WPL.addI rfl rfl (by omega) rfl ?_
          refine WPL.mv (v := .int .u64 _) rfl rfl ?_
          refine WPL.cm_u32 rfl rfl ?_
          refine WPL.ixL (j := i + j) rfl rfl rfl (by omega) rfl ?_
          refine WPL.stW rfl rfl rfl hO inferInstance inferInstance rfl (by first | omega | (simp; omega)) (fun w hO => ?_)
          refine WPL.nil ?_
          refine WP.region ?_
          refine WPL.mv (v := .int .u64 _) rfl rfl ?_
          refine WPL.shrc_u64 (p := 4294967296) rfl rfl rfl (Nat.mod_lt _ (by decide)) rfl ?_
          refine WPL.as (v := .int .u64 _) rfl rfl ?_
          refine WPL.nil ?_
          refine WP.region ?_
          refine WPL.mv (v := .int .i64 _) rfl rfl ?_
          refine WPL.addI rfl rfl (by omega) rfl ?_
          refine WPL.as (v := .int .i64 _) rfl rfl ?_
          refine WPL.nil ?_
          have st := mul_next (hw.get i) (show i + j < o.length by omega) hwo hw2 hq hv
          refine ⟨m' - 1, by omega, j + 1, _, _, by omega, by simp [ho], st.2.1, st.1, st.2.2, ?_, ⟨rfl, rfl, rfl, rfl, rfl, rfl, trivial⟩, rfl, hO⟩
          intro k hk
          rw [getD_set_other (by omega)]; exact hz _ hk
        · refine WP.exit ?_
          refine WP.region ?_
          refine WPL.mv (v := .slice _ _ _) rfl rfl ?_
          refine WPL.mv (v := .int .i64 _) rfl rfl ?_
          refine WPL.mv (v := .slice _ _ _) rfl rfl ?_
          refine WPL.len rfl rfl ?_
          refine WPL.addI rfl rfl (by omega) rfl ?_
          refine WPL.mv (v := .int .u64 _) rfl rfl ?_
          refine WPL.cm_u32 rfl rfl ?_
          refine WPL.ixL (j := i + l2.length) rfl rfl rfl (by omega) rfl ?_
          refine WPL.stW rfl rfl rfl hO inferInstance inferInstance rfl (by first | omega | (simp; omega)) (fun w hO => ?_)
          refine WPL.nil ?_
          refine WP.region ?_
          refine WPL.mv (v := .int .i64 _) rfl rfl ?_
          refine WPL.addI rfl rfl (by omega) rfl ?_
          refine WPL.as (v := .int .i64 _) rfl rfl ?_
          refine WPL.nil ?_
          have ej : j = l2.length := by omega
          subst ej
          refine ⟨m - 1, by omega, i + 1, _, by omega, by simp [ho], hwo.set _ (Nat.mod_lt _ (by decide)), mul_row (by omega) ho hq (hz _ (by omega)) hv, ?_, ⟨rfl, rfl, rfl, rfl, trivial⟩, rfl, hO⟩
          intro k hk
          rw [getD_set_other (by omega)]; exact hz _ (by omega)
    · refine WP.exit ?_
      refine WP.rs ?_
      refine WPL.mv (v := .slice _ _ _) rfl rfl ?_
      have hs0 := hO.fr.size
      obtain rfl : i = l.length := by omega
      rw [List.take_length] at hv
      refine WPL.call rfl (r2_Norm _ o _ (hO.rdA inferInstance) hwo hv (by omega) ho.symm (by omega)) Tryd.func50 rfl rfl rfl ?_
      rintro _ w ⟨hf67, a67, c67, rfl, hc67, hr67⟩
      have hO := hO.res hf67 hr67
      refine WPL.as (v := .slice _ _ _) rfl rfl ?_
      refine WPL.nil ?_
      refine WP.ret ?_
      refine ⟨rfl, ?_⟩
      refine RO.tmp (v := .slice _ _ _) rfl ?_
      refine RO.nil ?_
      exact ⟨hO.fr, a67, c67, rfl, hc67, hr67.mono hs0⟩

theorem r2_digit {w0 : World} (a : Option Addr) (l : List Nat) (c : Nat) {n N : Nat} (hr : RowOk w0 [] ⟨a, ws .u32 l⟩) (hw : Wd l) (hN : val l = N) (hc : l.length ≤ c) (hn : n = l.length) (hb : l.length ≤ 1099511627776)(a2 : Option Addr) (l2 : List Nat) (c2 : Nat) {n2 N2 : Nat} (hr2 : RowOk w0 [] ⟨a2, ws .u32 l2⟩) (hw2 : Wd l2) (hN2 : val l2 = N2) (hc2 : l2.length ≤ c2) (hn2 : n2 = l2.length) (hb2 : l2.length ≤ 1099511627776) (hlt : N < N2 * 4294967296) : Spec Tryd.prog 69 [.slice a n c, .slice a2 n2 c2] w0 (fun v w' => FrX [] w0 w' ∧ ∃ a1 c1, v = .tuple #[.int .u32 ((N / N2 : Nat) : Int), .slice a1 (dig (N2 * (N / N2))).length c1] ∧ (dig (N2 * (N / N2))).length ≤ c1 ∧ RRes w0 w' a1 (ws .u32 (dig (N2 * (N / N2))))) := by
  subst hn hn2 hN hN2
  have hO : Own [] w0 [] [] [⟨a, ws .u32 l⟩, ⟨a2, ws .u32 l2⟩] w0 := Own.start (by intro e he; cases he) (by
      simp only [List.mem_cons, List.not_mem_nil, or_false]
      rintro r (rfl | rfl)
      · exact hr
      · exact hr2)
  refine Spec.enter (n := 34) (rs := [.tmp 4, .tmp 5]) Tryd.func69 rfl rfl rfl rfl ?_
  refine WP.rs ?_
  refine WPL.as (v := .int .u32 ((0 : Nat) : Int)) rfl rfl ?_
  refine WPL.as (v := .slice none 0 0) rfl rfl ?_
  refine WPL.nil ?_
  refine WP.rs ?_
  refine WPL.as (v := .int .u64 ((0 : Nat) : Int)) rfl rfl ?_
  refine WPL.nil ?_
  refine WP.rs ?_
  refine WPL.as (v := .int .u64 ((4294967296 : Nat) : Int)) rfl rfl ?_
  refine WPL.nil ?_
  refine WP.rs ?_
  refine WPL.as (v := .slice none 0 0) rfl rfl ?_
  refine WPL.nil ?_
  refine WP.seq ?_
  refine WP.block ?_
  refine WP.loop (fun m σ ds w' => ∃ f t ab cb, m = t - f ∧ f < t ∧ t ≤ 4294967296 ∧ val l2 * f ≤ val l ∧ val l < val l2 * t ∧ (dig (val l2 * f)).length ≤ cb ∧ Fresh w0 ab (ws .u32 (dig (val l2 * f))) ∧ Has σ [(0, .slice a l.length c), (1, .slice a2 l2.length c2), (6, .int .u64 (f : Int)), (7, .int .u64 (t : Int)), (8, .slice ab (dig (val l2 * f)).length cb)] ∧ ds = [] ∧ Own [] w0 [] [] [⟨ab, ws .u32 (dig (val l2 * f))⟩, ⟨a, ws .u32 l⟩, ⟨a2, ws .u32 l2⟩] w') 4294967296 ?_ ?_
  · refine ⟨0, 4294967296, none, 0, rfl, by decide, Nat.le_refl _, by simp, hlt, by simp [dig_zero], (fun p hp => by cases hp), ⟨rfl, rfl, rfl, rfl, by simp [dig_zero]; rfl, trivial⟩, rfl, ?_⟩
    rw [Nat.mul_zero, dig_zero]; exact hO.row (.nil fun p hp => by cases hp)
  · rintro m σ ds w ⟨f, t, ab, cb, hm, hft, ht, hf1, hf2, hcb, hfb, hH, rfl, hO⟩
    refine WP.reset hH ?_
    refine WP.seq ?_
    refine WP.rs ?_
    refine WPL.mv (v := .int .u64 _) rfl rfl ?_
    refine WPL.mv (v := .int .u64 _) rfl rfl ?_
    refine WPL.u64To (t - f) (.inl rfl) rfl rfl (.inl ⟨rfl, by omega⟩) (by omega) rfl ?_
    refine WPL.gt rfl rfl rfl ?_
    refine WPL.nil ?_
    refine WP.condP rfl (fun h1 => ?_) (fun h1 => ?_)
    · refine WP.skip ?_
      refine WP.block ?_
      refine WP.rs ?_
      refine WPL.mv (v := .int .u64 _) rfl rfl ?_
      refine WPL.mv (v := .int .u64 _) rfl rfl ?_
      refine WPL.u64To (f + t) (.inr (.inl rfl)) rfl rfl (.inr (.inl ⟨rfl, rfl⟩)) (by omega) rfl ?_
      refine WPL.quo_u64 (b := 2) rfl rfl (by omega) (by omega) rfl ?_
      refine WPL.as (v := .int .u64 _) rfl rfl ?_
      refine WPL.nil ?_
      refine WP.rs ?_
      refine WPL.mv (v := .slice _ _ _) rfl rfl ?_
      refine WPL.mv (v := .int .u64 _) rfl rfl ?_
      refine WPL.cm_u32 rfl rfl ?_
      refine WPL.bs1 (pv := [(0, .int .u32 _)]) (vs := [_]) rfl hO rfl rfl rfl rfl (fun b1 w hO => ?_)
      have hO := hO.freeze
      have hsz := hO.fr.size
      refine WPL.call rfl (r2_Times (N2 := (f + t) / 2) a2 l2 _ hO.rd hw2 rfl hc2 rfl hb2 _ [(f + t) / 2 % 4294967296] _ hO.rd (.cons (Nat.mod_lt _ (by decide)) .nil) (by rw [val_one]; exact Nat.mod_eq_of_lt (by omega)) (by simp) rfl (by simp)) Tryd.func51 rfl rfl rfl ?_
      rintro _ w ⟨hf23, a23, c23, rfl, hc23, hr23⟩
      have hO := hO.res hf23 hr23
      refine WPL.as (v := .slice _ _ _) rfl rfl ?_
      refine WPL.nil ?_
      refine WP.rs ?_
      refine WPL.mv (v := .slice _ _ _) rfl rfl ?_
      refine WPL.mv (v := .slice _ _ _) rfl rfl ?_
      have hlx := dig_length_le hw2
      have hbx := blen_len (val l2)
      have hlen : (dig (val l2 * ((f + t) / 2))).length ≤ l2.length + 1 := by
        refine dig_lt ?_
        rw [Nat.pow_succ]
        exact Nat.mul_lt_mul_of_lt_of_le (val_lt hw2) (by omega) (by decide)
      refine WPL.call rfl (r2_Cmp a23 (dig (val l2 * ((f + t) / 2))) _ hO.rd (dig_wd _) (val_dig _) hc23 rfl (by omega) a l _ hO.rd hw rfl hc rfl (by omega)) Tryd.func32 rfl rfl rfl ?_
      rintro _ w ⟨rfl, hf26⟩
      have hO := hO.call hf26
      refine WPL.le rfl rfl rfl ?_
      refine WPL.nil ?_
      refine WP.condP rfl (fun h2 => ?_) (fun h2 => ?_)
      · refine WP.rs ?_
        refine WPL.mv (v := .int .u64 _) rfl rfl ?_
        refine WPL.as (v := .int .u64 _) rfl rfl ?_
        refine WPL.nil ?_
        refine WP.region ?_
        refine WPL.mv (v := .slice _ _ _) rfl rfl ?_
        refine WPL.as (v := .slice _ _ _) rfl rfl ?_
        refine WPL.nil ?_
        have hmid : (f + t) / 2 % 4294967296 = (f + t) / 2 := Nat.mod_eq_of_lt (by omega)
        first
        | (have hle : val l2 * ((f + t) / 2) ≤ val l := by
             rcases Nat.lt_or_ge (val l) (val l2 * ((f + t) / 2)) with h | h
             · rw [cmpN_gt h] at *; omega
             · exact h
           have hfr := hr23.rr.2.mono hsz
           exact ⟨t - (f + t) / 2, by omega, (f + t) / 2, t, a23, c23, rfl, by omega, ht, hle, hf2, hc23, hfr, ⟨rfl, rfl, rfl, rfl, rfl, trivial⟩, rfl, hO.subR⟩)
        | (have hgt : val l < val l2 * ((f + t) / 2) := by
             rcases Nat.lt_or_ge (val l) (val l2 * ((f + t) / 2)) with h | h
             · exact h
             · exfalso
               rcases Nat.lt_or_ge (val l2 * ((f + t) / 2)) (val l) with h' | h'
               · rw [cmpN_lt h'] at *; omega
               · rw [cmpN_eq (Nat.le_antisymm h h')] at *; omega
           exact ⟨(f + t) / 2 - f, by omega, f, (f + t) / 2, ab, cb, rfl, by omega, by omega, hf1, hgt, hcb, hfb, ⟨rfl, rfl, rfl, rfl, rfl, trivial⟩, rfl, hO.subR⟩)
      · refine WP.region ?_
        refine WPL.mv (v := .int .u64 _) rfl rfl ?_
        refine WPL.as (v := .int .u64 _) rfl rfl ?_
        refine WPL.nil ?_
        have hmid : (f + t) / 2 % 4294967296 = (f + t) / 2 := Nat.mod_eq_of_lt (by omega)
        first
        | (have hle : val l2 * ((f + t) / 2) ≤ val l := by
             rcases Nat.lt_or_ge (val l) (val l2 * ((f + t) / 2)) with h | h
             · rw [cmpN_gt h] at *; omega
             · exact h
           have hfr := hr23.rr.2.mono hsz
           exact ⟨t - (f + t) / 2, by omega, (f + t) / 2, t, a23, c23, rfl, by omega, ht, hle, hf2, hc23, hfr, ⟨rfl, rfl, rfl, rfl, rfl, trivial⟩, rfl, hO.subR⟩)
        | (have hgt : val l < val l2 * ((f + t) / 2) := by
             rcases Nat.lt_or_ge (val l) (val l2 * ((f + t) / 2)) with h | h
             · exact h
             · exfalso
               rcases Nat.lt_or_ge (val l2 * ((f + t) / 2)) (val l) with h' | h'
               · rw [cmpN_lt h'] at *; omega
               · rw [cmpN_eq (Nat.le_antisymm h h')] at *; omega
           exact ⟨(f + t) / 2 - f, by omega, f, (f + t) / 2, ab, cb, rfl, by omega, by omega, hf1, hgt, hcb, hfb, ⟨rfl, rfl, rfl, rfl, rfl, trivial⟩, rfl, hO.subR⟩)
    · refine WP.exit ?_
      refine WP.rs ?_
      refine WPL.mv (v := .int .u64 _) rfl rfl ?_
      refine WPL.cm_u32 rfl rfl ?_
      refine WPL.mv (v := .slice _ _ _) rfl rfl ?_
      refine WPL.as (v := .int .u32 _) rfl rfl ?_
      refine WPL.as (v := .slice _ _ _) rfl rfl ?_
      refine WPL.nil ?_
      refine WP.ret ?_
      refine ⟨rfl, ?_⟩
      refine RO.tmp (v := .int .u32 _) rfl ?_
      refine RO.tmp (v := .slice _ _ _) rfl ?_
      refine RO.nil ?_
      obtain rfl : t = f + 1 := by omega
      obtain ⟨e1, e2⟩ := digit_end hf1 hf2
      rw [← e1]
      refine ⟨hO.fr, ab, cb, ?_, hcb, hO.giveR hfb⟩
      show Value.tuple #[.int .u32 _, _] = _
      rw [Nat.mod_eq_of_lt (by omega)]

theorem r2_Parts {w0 : World} (a : Option Addr) (l : List Nat) (c : Nat) {n N : Nat} (hr : RowOk w0 [] ⟨a, ws .u32 l⟩) (hw : Wd l) (hN : val l = N) (hc : l.length ≤ c) (hn : n = l.length) (hb : l.length ≤ 1099511627776)(a2 : Option Addr) (l2 : List Nat) (c2 : Nat) {n2 N2 : Nat} (hr2 : RowOk w0 [] ⟨a2, ws .u32 l2⟩) (hw2 : Wd l2) (hN2 : val l2 = N2) (hc2 : l2.length ≤ c2) (hn2 : n2 = l2.length) (hb2 : l2.length ≤ 1000000000) (hpos : 0 < N2) : Spec Tryd.prog 49 [.slice a n c, .slice a2 n2 c2] w0 (fun v w' => FrX [] w0 w' ∧ ∃ a1 c1 a3 c3, v = .tuple #[.slice a1 (dig (N / N2)).length c1, .slice a3 (dig (N % N2)).length c3] ∧ (dig (N / N2)).length ≤ c1 ∧ Res w0 w' a1 c1 1 (ws .u32 (dig (N / N2))) 60 ∧ (dig (N % N2)).length ≤ c3 ∧ RowOk w' [] ⟨a3, ws .u32 (dig (N % N2))⟩) := by
  subst hn hn2 hN hN2
  have hO : Own [] w0 [] [] [⟨a, ws .u32 l⟩, ⟨a2, ws .u32 l2⟩] w0 := Own.start (by intro e he; cases he) (by
      simp only [List.mem_cons, List.not_mem_nil, or_false]
      rintro r (rfl | rfl)
      · exact hr
      · exact hr2)
  refine Spec.enter (n := 52) (rs := [.tmp 4, .tmp 5]) Tryd.func49 rfl rfl rfl rfl ?_
  refine WP.rs ?_
  refine WPL.as (v := .slice none 0 0) rfl rfl ?_
  refine WPL.as (v := .slice none 0 0) rfl rfl ?_
  refine WPL.nil ?_
  refine WP.rs ?_
  refine WPL.mv (v := .slice _ _ _) rfl rfl ?_
  refine WPL.len rfl rfl ?_
  refine WPL.mkW (l := l.length) (c := l.length) rfl rfl rfl rfl hO (by omega) (by omega) (by omega) rfl (fun b1 w hO => ?_)
  refine WPL.as (v := .slice _ _ _) rfl rfl ?_
  refine WPL.nil ?_
  refine WP.rs ?_
  refine WPL.as (v := .slice none 0 0) rfl rfl ?_
  refine WPL.nil ?_
  refine WP.seq ?_
  refine WP.rs ?_
  refine WPL.mv (v := .slice _ _ _) rfl rfl ?_
  refine WPL.len rfl rfl ?_
  refine WPL.subI rfl rfl (by omega) rfl ?_
  refine WPL.as (v := .int .i64 _) rfl rfl ?_
  refine WPL.nil ?_
  refine WP.block ?_
  refine WP.loop (fun m σ ds w' => m ≤ l.length ∧ ∃ q ar cr, q.length = l.length ∧ Wd q ∧ (∀ k, k < m → q.getD k 0 = 0) ∧ val q = 4294967296 ^ m * (val (l.drop m) / val l2) ∧ (dig (val (l.drop m) % val l2)).length ≤ cr ∧ Has σ [(0, .slice a l.length c), (1, .slice a2 l2.length c2), (6, .slice (some ⟨b1, 0, none⟩) l.length l.length), (7, .slice ar (dig (val (l.drop m) % val l2)).length cr), (8, .int .i64 ((m : Int) - 1))] ∧ ds = [] ∧ Own [] w0 [] [⟨b1, ws .u32 q, 60⟩] [⟨ar, ws .u32 (dig (val (l.drop m) % val l2))⟩, ⟨a, ws .u32 l⟩, ⟨a2, ws .u32 l2⟩] w') l.length ?_ ?_
  · have hd0 : val (l.drop l.length) = 0 := by rw [List.drop_length]; rfl
    refine ⟨Nat.le_refl _, List.replicate l.length 0, none, 0, by simp, wd_zeros _, fun k _ => getD_replicate _ _, by rw [hd0, val_zeros, Nat.zero_div, Nat.mul_zero], by rw [hd0, Nat.zero_mod, dig_zero]; exact Nat.le_refl _, ⟨rfl, rfl, rfl, by rw [hd0, Nat.zero_mod, dig_zero]; rfl, rfl, trivial⟩, rfl, ?_⟩
    rw [hd0, Nat.zero_mod, dig_zero]; exact hO.row (.nil fun p hp => by cases hp)
  · rintro m σ ds w ⟨hm, q, ar, cr, hq, hwq, hz, hv, hcr, hH, rfl, hO⟩
    refine WP.reset hH ?_
    have hx := hw.get (m - 1)
    have hlr : (dig (val (l.drop m) % val l2)).length ≤ l2.length := Nat.le_trans (len_mono (Nat.le_of_lt (Nat.mod_lt _ hpos))) (dig_length_le hw2)
    have hvx : val (l.getD (m - 1) 0 :: dig (val (l.drop m) % val l2)) = (l.getD (m - 1) 0 + 4294967296 * (val (l.drop m) % val l2)) := by rw [val_cons, val_dig]
    have hlt : (l.getD (m - 1) 0 + 4294967296 * (val (l.drop m) % val l2)) < val l2 * 4294967296 := parts_lt hpos hx
    have hlx : (dig (l.getD (m - 1) 0 + 4294967296 * (val (l.drop m) % val l2))).length ≤ l2.length + 1 := by
      refine dig_lt ?_
      rw [Nat.pow_succ]
      exact Nat.lt_of_lt_of_le hlt (Nat.mul_le_mul_right _ (Nat.le_of_lt (val_lt hw2)))
    refine WP.seq ?_
    refine WP.rs ?_
    refine WPL.mv (v := .int .i64 _) rfl rfl ?_
    refine WPL.ge rfl rfl rfl ?_
    refine WPL.nil ?_
    refine WP.condP rfl (fun h1 => ?_) (fun h1 => ?_)
    · refine WP.skip ?_
      refine WP.seq ?_
      refine WP.block ?_
      refine WP.rs ?_
      refine WPL.mv (v := .slice _ _ _) rfl rfl ?_
      refine WPL.mv (v := .int .i64 _) rfl rfl ?_
      refine WPL.ixR (j := m - 1) (vals := ws .u32 l) rfl hO inferInstance rfl (by omega) (by omega) (by simp; omega) rfl ?_
      refine WPL.ldR (vals := ws .u32 l) rfl hO inferInstance (ws_get1 rfl (by omega)) rfl rfl ?_
      refine WPL.bs1 (pv := [(0, .int .u32 _)]) (vs := [_]) rfl hO rfl rfl rfl rfl (fun b2 w hO => ?_)
      refine WPL.as (v := .slice _ _ _) rfl rfl ?_
      refine WPL.nil ?_
      refine WP.rs ?_
      refine WPL.mv (v := .slice _ _ _) rfl rfl ?_
      refine WPL.mv (v := .slice _ _ _) rfl rfl ?_
      have hsrc : SrcRow w (.slice ar (dig (val (l.drop m) % val l2)).length cr) (dig (val (l.drop m) % val l2)).length 1 (ws .u32 (dig (val (l.drop m) % val l2))) := ⟨_, _, rfl, by simp, hO.rd, ws_one _ _⟩
      refine WPL.app (ze := [.int .u32 0]) (vals := ws .u32 [l.getD (m - 1) 0]) (G := [⟨b2, ws .u32 [l.getD (m - 1) 0], 60⟩]) (L := [⟨b1, ws .u32 q, 60⟩]) rfl hO (.inr ⟨b2, [], rfl, by simp, by simp⟩) (by simp) (Nat.le_refl _) hsrc (by decide) (by omega) (by omega) rfl (fun a29 c29 G29 w hG29 hc29 hO => ?_)
      refine WPL.as (v := .slice _ _ _) rfl rfl ?_
      refine WPL.nil ?_
      refine WP.rs ?_
      refine WPL.mv (v := .slice _ _ _) rfl rfl ?_
      refine WPL.call rfl (r2_Norm a29 (l.getD (m - 1) 0 :: dig (val (l.drop m) % val l2)) _ (hO.rdG hG29) (.cons hx (dig_wd _)) hvx (by simp; omega) (by simp; omega) (by simp; omega)) Tryd.func50 rfl rfl rfl ?_
      rintro _ w ⟨hf31, a31, c31, rfl, hc31, hr31⟩
      have hO := hO.res hf31 hr31
      have hO := hO.drop
      refine WPL.as (v := .slice _ _ _) rfl rfl ?_
      refine WPL.nil ?_
      refine WP.rs ?_
      refine WPL.mv (v := .slice _ _ _) rfl rfl ?_
      refine WPL.mv (v := .slice _ _ _) rfl rfl ?_
      refine WPL.call rfl (r2_Cmp a31 (dig (l.getD (m - 1) 0 + 4294967296 * (val (l.drop m) % val l2))) _ hO.rd (dig_wd _) (val_dig _) hc31 rfl (by omega) a2 l2 _ hO.rd hw2 rfl hc2 rfl (by omega)) Tryd.func32 rfl rfl rfl ?_
      rintro _ w ⟨rfl, hf34⟩
      have hO := hO.call hf34
      refine WPL.ge rfl rfl rfl ?_
      refine WPL.nil ?_
      refine WP.condP rfl (fun h2 => ?_) (fun h2 => ?_)
      · refine WP.rs ?_
        refine WPL.mv (v := .slice _ _ _) rfl rfl ?_
        refine WPL.mv (v := .slice _ _ _) rfl rfl ?_
        refine WPL.call rfl (r2_digit a31 (dig (l.getD (m - 1) 0 + 4294967296 * (val (l.drop m) % val l2))) _ hO.rd (dig_wd _) (val_dig _) hc31 rfl (by omega) a2 l2 _ hO.rd hw2 rfl hc2 rfl (by omega) hlt) Tryd.func69 rfl rfl rfl ?_
        rintro _ w ⟨hf39, a39, c39, rfl, hc39, hr39⟩
        have hO := hO.rres hf39 hr39
        have hdx : (dig (val l2 * ((l.getD (m - 1) 0 + 4294967296 * (val (l.drop m) % val l2)) / val l2))).length ≤ (dig (l.getD (m - 1) 0 + 4294967296 * (val (l.drop m) % val l2))).length := len_mono (Nat.mul_div_le _ _)
        refine WPL.mv (v := .tuple #[.int .u32 _, .slice _ _ _]) rfl rfl ?_
        refine WPL.ext (v := .int .u32 _) rfl rfl rfl ?_
        refine WPL.ext (v := .slice _ _ _) rfl rfl rfl ?_
        refine WPL.as (v := .int .u32 _) rfl rfl ?_
        refine WPL.as (v := .slice _ _ _) rfl rfl ?_
        refine WPL.nil ?_
        refine WP.rs ?_
        refine WPL.mv (v := .slice _ _ _) rfl rfl ?_
        refine WPL.mv (v := .int .i64 _) rfl rfl ?_
        refine WPL.mv (v := .int .u32 _) rfl rfl ?_
        refine WPL.ixL (j := m - 1) rfl rfl (by omega) (by omega) rfl ?_
        refine WPL.stW rfl rfl rfl hO inferInstance inferInstance rfl (by first | omega | (simp; omega)) (fun w hO => ?_)
        refine WPL.nil ?_
        refine WP.region ?_
        refine WPL.mv (v := .slice _ _ _) rfl rfl ?_
        refine WPL.mv (v := .slice _ _ _) rfl rfl ?_
        refine WPL.call rfl (r2_Minus a31 (dig (l.getD (m - 1) 0 + 4294967296 * (val (l.drop m) % val l2))) _ hO.rd (dig_wd _) (val_dig _) hc31 rfl (by omega) a39 (dig (val l2 * ((l.getD (m - 1) 0 + 4294967296 * (val (l.drop m) % val l2)) / val l2))) _ hO.rd (dig_wd _) (val_dig _) hc39 rfl (by omega) (Nat.mul_div_le _ _) hdx) Tryd.func33 rfl rfl rfl ?_
        rintro _ w ⟨hf48, a48, c48, rfl, hc48, hr48⟩
        have hO := hO.res hf48 hr48
        refine WPL.as (v := .slice _ _ _) rfl rfl ?_
        refine WPL.nil ?_
        refine WP.region ?_
        refine WPL.mv (v := .int .i64 _) rfl rfl ?_
        refine WPL.subI rfl rfl (by omega) rfl ?_
        refine WPL.as (v := .int .i64 _) rfl rfl ?_
        refine WPL.nil ?_
        have st := fun hp => parts_next (d := (l.getD (m - 1) 0 + 4294967296 * (val (l.drop m) % val l2)) / val l2) hpos hw hwq hp hm hq hz hv rfl
        have st := st (by omega)
        first
        | (have hge : val l2 ≤ (l.getD (m - 1) 0 + 4294967296 * (val (l.drop m) % val l2)) := by
             rcases Nat.lt_or_ge (l.getD (m - 1) 0 + 4294967296 * (val (l.drop m) % val l2)) (val l2) with h | h
             · rw [cmpN_lt h] at *; omega
             · exact h
           have e1 : (l.getD (m - 1) 0 + 4294967296 * (val (l.drop m) % val l2)) - val l2 * ((l.getD (m - 1) 0 + 4294967296 * (val (l.drop m) % val l2)) / val l2) = val (l.drop (m - 1)) % val l2 := by
             rw [st.2.2]; have := Nat.div_add_mod (l.getD (m - 1) 0 + 4294967296 * (val (l.drop m) % val l2)) (val l2); omega
           rw [e1] at hc48 hO
           refine ⟨m - 1, by omega, by omega, _, a48, c48, by simp [hq], hwq.set _ st.2.1, fun k hk => by rw [getD_set_other (by omega)]; exact hz k (by omega), st.1, hc48, ⟨rfl, rfl, rfl, by show Value.slice _ _ _ = _; rw [e1], by show Value.int .i64 _ = _; congr 1; omega, trivial⟩, rfl, hO.subR⟩)
        | (have hlt2 : (l.getD (m - 1) 0 + 4294967296 * (val (l.drop m) % val l2)) < val l2 := by
             rcases Nat.lt_or_ge (l.getD (m - 1) 0 + 4294967296 * (val (l.drop m) % val l2)) (val l2) with h | h
             · exact h
             · exfalso
               rcases Nat.lt_or_ge (val l2) (l.getD (m - 1) 0 + 4294967296 * (val (l.drop m) % val l2)) with h' | h'
               · rw [cmpN_gt h'] at *; omega
               · rw [cmpN_eq (Nat.le_antisymm h' h)] at *; omega
           have e0 : (l.getD (m - 1) 0 + 4294967296 * (val (l.drop m) % val l2)) / val l2 = 0 := Nat.div_eq_of_lt hlt2
           have e1 : (l.getD (m - 1) 0 + 4294967296 * (val (l.drop m) % val l2)) = val (l.drop (m - 1)) % val l2 := by rw [st.2.2, Nat.mod_eq_of_lt hlt2]
           rw [e0, set_zero_same (hz _ (by omega))] at st
           rw [e1] at hc31 hO
           refine ⟨m - 1, by omega, by omega, q, a31, c31, hq, hwq, fun k hk => hz k (by omega), st.1, hc31, ⟨rfl, rfl, rfl, by show Value.slice _ _ _ = _; rw [e1], by show Value.int .i64 _ = _; congr 1; omega, trivial⟩, rfl, hO.subR⟩)
      · refine WP.skip ?_
        refine WP.region ?_
        refine WPL.mv (v := .int .i64 _) rfl rfl ?_
        refine WPL.subI rfl rfl (by omega) rfl ?_
        refine WPL.as (v := .int .i64 _) rfl rfl ?_
        refine WPL.nil ?_
        have st := fun hp => parts_next (d := (l.getD (m - 1) 0 + 4294967296 * (val (l.drop m) % val l2)) / val l2) hpos hw hwq hp hm hq hz hv rfl
        have st := st (by omega)
        first
        | (have hge : val l2 ≤ (l.getD (m - 1) 0 + 4294967296 * (val (l.drop m) % val l2)) := by
             rcases Nat.lt_or_ge (l.getD (m - 1) 0 + 4294967296 * (val (l.drop m) % val l2)) (val l2) with h | h
             · rw [cmpN_lt h] at *; omega
             · exact h
           have e1 : (l.getD (m - 1) 0 + 4294967296 * (val (l.drop m) % val l2)) - val l2 * ((l.getD (m - 1) 0 + 4294967296 * (val (l.drop m) % val l2)) / val l2) = val (l.drop (m - 1)) % val l2 := by
             rw [st.2.2]; have := Nat.div_add_mod (l.getD (m - 1) 0 + 4294967296 * (val (l.drop m) % val l2)) (val l2); omega
           rw [e1] at hc48 hO
           refine ⟨m - 1, by omega, by omega, _, a48, c48, by simp [hq], hwq.set _ st.2.1, fun k hk => by rw [getD_set_other (by omega)]; exact hz k (by omega), st.1, hc48, ⟨rfl, rfl, rfl, by show Value.slice _ _ _ = _; rw [e1], by show Value.int .i64 _ = _; congr 1; omega, trivial⟩, rfl, hO.subR⟩)
        | (have hlt2 : (l.getD (m - 1) 0 + 4294967296 * (val (l.drop m) % val l2)) < val l2 := by
             rcases Nat.lt_or_ge (l.getD (m - 1) 0 + 4294967296 * (val (l.drop m) % val l2)) (val l2) with h | h
             · exact h
             · exfalso
               rcases Nat.lt_or_ge (val l2) (l.getD (m - 1) 0 + 4294967296 * (val (l.drop m) % val l2)) with h' | h'
               · rw [cmpN_gt h'] at *; omega
               · rw [cmpN_eq (Nat.le_antisymm h' h)] at *; omega
           have e0 : (l.getD (m - 1) 0 + 4294967296 * (val (l.drop m) % val l2)) / val l2 = 0 := Nat.div_eq_of_lt hlt2
           have e1 : (l.getD (m - 1) 0 + 4294967296 * (val (l.drop m) % val l2)) = val (l.drop (m - 1)) % val l2 := by rw [st.2.2, Nat.mod_eq_of_lt hlt2]
           rw [e0, set_zero_same (hz _ (by omega))] at st
           rw [e1] at hc31 hO
           refine ⟨m - 1, by omega, by omega, q, a31, c31, hq, hwq, fun k hk => hz k (by omega), st.1, hc31, ⟨rfl, rfl, rfl, by show Value.slice _ _ _ = _; rw [e1], by show Value.int .i64 _ = _; congr 1; omega, trivial⟩, rfl, hO.subR⟩)
    · refine WP.exit ?_
      refine WP.rs ?_
      refine WPL.mv (v := .slice _ _ _) rfl rfl ?_
      obtain rfl : m = 0 := by omega
      rw [Nat.pow_zero, Nat.one_mul, List.drop_zero] at hv
      rw [List.drop_zero] at hO hcr
      have hs0 := hO.fr.size
      refine WPL.call rfl (r2_Norm _ q _ (hO.rdA inferInstance) hwq hv (by omega) hq.symm (by omega)) Tryd.func50 rfl rfl rfl ?_
      rintro _ w ⟨hf50, a50, c50, rfl, hc50, hr50⟩
      have hO := hO.res hf50 hr50
      refine WPL.mv (v := .slice _ _ _) rfl rfl ?_
      refine WPL.as (v := .slice _ _ _) rfl rfl ?_
      refine WPL.as (v := .slice _ _ _) rfl rfl ?_
      refine WPL.nil ?_
      refine WP.ret ?_
      refine ⟨rfl, ?_⟩
      refine RO.tmp (v := .slice _ _ _) rfl ?_
      refine RO.tmp (v := .slice _ _ _) rfl ?_
      refine RO.nil ?_
      exact ⟨hO.fr, a50, c50, ar, cr, by rw [List.drop_zero]; rfl, hc50, hr50.mono hs0, hcr, hO.rd⟩

theorem r2_Len {w : World} (a : Option Addr) (l : List Nat) (c : Nat) {n N : Nat} (hr : RowOk w [] ⟨a, ws .u32 l⟩) (hw : Wd l) (hN : val l = N) (hc : l.length ≤ c) (hn : n = l.length) (hb : l.length ≤ 17592186044416) : Spec Tryd.prog 36 [.slice a n c] w (fun v w' => v = .int .i64 ((blen N : Nat) : Int) ∧ w = w') := by
  subst hn
  have hO : Own [] w [] [] [⟨a, ws .u32 l⟩] w := Own.start (by intro e he; cases he) (by
      simp only [List.mem_cons, List.not_mem_nil, or_false]
      rintro r rfl
      · exact hr)
  have hle := dig_length_le hw
  rw [hN] at hle
  have hO := hO.takeV (a := a) inferInstance hw hN
  refine Spec.enter (n := 25) (rs := [.tmp 2]) Tryd.func36 rfl rfl rfl rfl ?_
  refine WP.rs ?_
  refine WPL.as (v := .int .i64 0) rfl rfl ?_
  refine WPL.nil ?_
  refine WP.rs ?_
  refine WPL.mv (v := .slice _ _ _) rfl rfl ?_
  refine WPL.call rfl (r2_size a l _ hr hw hN hc rfl hb) Tryd.func53 rfl rfl rfl ?_
  rintro _ _ ⟨rfl, rfl⟩
  refine WPL.as (v := .int .i64 _) rfl rfl ?_
  refine WPL.nil ?_
  refine WP.seq ?_
  refine WP.rs ?_
  refine WPL.mv (v := .int .i64 _) rfl rfl ?_
  refine WPL.eq rfl rfl rfl ?_
  refine WPL.nil ?_
  refine WP.condP rfl (fun h1 => ?_) (fun h1 => ?_)
  · refine WP.rs ?_
    refine WPL.as (v := .int .i64 0) rfl rfl ?_
    refine WPL.nil ?_
    refine WP.ret ?_
    refine ⟨rfl, ?_⟩
    refine RO.tmp (v := .int .i64 _) rfl ?_
    refine RO.nil ?_
    refine ⟨?_, rfl⟩
    have : N = 0 := dig_len_zero (by omega)
    rw [this]; rfl
  · refine WP.skip ?_
    refine WP.rs ?_
    refine WPL.mv (v := .int .i64 _) rfl rfl ?_
    refine WPL.subI rfl rfl (by omega) rfl ?_
    refine WPL.mulI rfl rfl (by omega) rfl ?_
    refine WPL.as (v := .int .i64 _) rfl rfl ?_
    refine WPL.nil ?_
    refine WP.seq ?_
    refine WP.rs ?_
    refine WPL.mv (v := .slice _ _ _) rfl rfl ?_
    refine WPL.mv (v := .int .i64 _) rfl rfl ?_
    refine WPL.subI rfl rfl (by omega) rfl ?_
    refine WPL.ixR (vals := ws .u32 (dig N)) (j := (dig N).length - 1) rfl hO inferInstance rfl (by omega) (by omega) (by simp; omega) rfl ?_
    refine WPL.ldR rfl hO inferInstance (ws_get1 rfl (by omega)) rfl rfl ?_
    refine WPL.as (v := .int .u32 _) rfl rfl ?_
    refine WPL.nil ?_
    refine WP.block ?_
    have hne : N ≠ 0 := fun e => by rw [e, dig_zero] at h1; exact h1 rfl
    have hbl := blen_dig hne
    have hb32 := @blen_le ((dig N).getD ((dig N).length - 1) 0) 32
    have hgt := (dig_wd N).get ((dig N).length - 1)
    refine WP.loop (fun m σ ds w' => ∃ y b, m = y ∧ y < 4294967296 ∧ blen y + b = blen N ∧ Has σ [(4, .int .i64 (b : Nat)), (5, .int .u32 (y : Int))] ∧ ds = [] ∧ w = w') ((dig N).getD ((dig N).length - 1) 0) ?_ ?_
    · exact ⟨_, 32 * ((dig N).length - 1), rfl, hgt, by omega, ⟨by show Value.int .i64 _ = _; congr 1; omega, rfl, trivial⟩, rfl, rfl⟩
    · rintro m σ ds _ ⟨y, b, rfl, hy, hyb, hH, rfl, rfl⟩
      refine WP.reset hH ?_
      have hbn := blen_len N
      refine WP.seq ?_
      refine WP.rs ?_
      refine WPL.mv (v := .int .u32 _) rfl rfl ?_
      refine WPL.gt rfl rfl rfl ?_
      refine WPL.nil ?_
      refine WP.condP rfl (fun h2 => ?_) (fun h2 => ?_)
      · refine WP.skip ?_
        refine WP.seq ?_
        refine WP.block ?_
        refine WP.region ?_
        refine WPL.mv (v := .int .i64 _) rfl rfl ?_
        refine WPL.addI rfl rfl (by omega) rfl ?_
        refine WPL.as (v := .int .i64 _) rfl rfl ?_
        refine WPL.nil ?_
        refine WP.region ?_
        refine WPL.mv (v := .int .u32 _) rfl rfl ?_
        refine WPL.quo_u32 (b := 2) rfl rfl (by omega) (by omega) rfl ?_
        refine WPL.as (v := .int .u32 _) rfl rfl ?_
        refine WPL.nil ?_
        exact ⟨m / 2, by omega, m / 2, b + 1, rfl, by omega, by have := blen_half (x := m) (by omega); omega, ⟨rfl, rfl, trivial⟩, rfl, rfl⟩
      · refine WP.exit ?_
        refine WP.rs ?_
        refine WPL.mv (v := .int .i64 _) rfl rfl ?_
        refine WPL.as (v := .int .i64 _) rfl rfl ?_
        refine WPL.nil ?_
        refine WP.ret ?_
        refine ⟨rfl, ?_⟩
        refine RO.tmp (v := .int .i64 _) rfl ?_
        refine RO.nil ?_
        refine ⟨?_, rfl⟩
        have e : m = 0 := by omega
        rw [e, blen_zero] at hyb
        show Value.int .i64 _ = _
        congr 1; omega

theorem r2_Bit {w : World} (a : Option Addr) (l : List Nat) (c : Nat) {n N : Nat} (hr : RowOk w [] ⟨a, ws .u32 l⟩) (hw : Wd l) (hN : val l = N) (hc : l.length ≤ c) (hn : n = l.length) (hb : l.length ≤ 17592186044416) (k : Nat) (hk : k ≤ 9223372036854775807) : Spec Tryd.prog 70 [.slice a n c, .int .i64 (k : Int)] w (fun v w' => v = .bool (decide (N / 2 ^ k % 2 = 1)) ∧ w = w') := by
  subst hn hN
  have hO : Own [] w [] [] [⟨a, ws .u32 l⟩] w := Own.start (by intro e he; cases he) (by
      simp only [List.mem_cons, List.not_mem_nil, or_false]
      rintro r rfl
      · exact hr)
  refine Spec.enter (n := 24) (rs := [.tmp 4]) Tryd.func70 rfl rfl rfl rfl ?_
  refine WP.rs ?_
  refine WPL.as (v := .bool false) rfl rfl ?_
  refine WPL.nil ?_
  refine WP.seq ?_
  refine WP.rs ?_
  refine WPL.mv (v := .int .i64 _) rfl rfl ?_
  refine WPL.lt rfl rfl rfl ?_
  refine WPL.mv (v := .bool _) rfl rfl ?_
  refine WPL.split (s := 7) rfl (fun h1 => ?_) (fun h1 => ?_)
  · have ph1 := of_decide_eq_true h1
    exact absurd (of_decide_eq_true h1) (by omega)
  · have ph1 := of_decide_eq_false h1
    refine WPL.guardT rfl rfl h1 ?_
    refine WPL.mv (v := .int .i64 _) rfl rfl ?_
    refine WPL.guardT rfl rfl h1 ?_
    refine WPL.quoN (b := 32) rfl rfl (by omega) (by omega) rfl ?_
    refine WPL.guardT rfl rfl h1 ?_
    refine WPL.mv (v := .slice _ _ _) rfl rfl ?_
    refine WPL.guardT rfl rfl h1 ?_
    refine WPL.len rfl rfl ?_
    refine WPL.guardT rfl rfl h1 ?_
    refine WPL.ge rfl rfl rfl ?_
    refine WPL.pkF (v := .bool _) rfl h1 rfl rfl ?_
    refine WPL.nil ?_
    refine WP.condP rfl (fun h2 => ?_) (fun h2 => ?_)
    · refine WP.rs ?_
      refine WPL.as (v := .bool false) rfl rfl ?_
      refine WPL.nil ?_
      refine WP.ret ?_
      refine ⟨rfl, ?_⟩
      refine RO.tmp (v := .bool _) rfl ?_
      refine RO.nil ?_
      refine ⟨?_, rfl⟩
      have e := bit_far (k := k) hw (by omega)
      rw [e]; rfl
    · refine WP.skip ?_
      refine WP.rs ?_
      refine WPL.mv (v := .slice _ _ _) rfl rfl ?_
      refine WPL.mv (v := .int .i64 _) rfl rfl ?_
      refine WPL.quoN (b := 32) rfl rfl (by omega) (by omega) rfl ?_
      refine WPL.ixR rfl hO inferInstance rfl rfl (by first | omega | (simp; omega)) (by first | omega | (simp; omega)) rfl ?_
      refine WPL.ldR rfl hO inferInstance (ws_get1 rfl (by omega)) rfl rfl ?_
      refine WPL.mv (v := .int .i64 _) rfl rfl ?_
      refine WPL.remN (b := 32) rfl rfl (by omega) rfl ?_
      refine WPL.shr_u32 rfl rfl (by first | omega | exact Nat.mod_lt _ (by decide) | exact Wd.get (by assumption) _ | exact (dig_wd _).get _ | exact Nat.lt_of_le_of_lt (Nat.div_le_self ..) (Wd.get (by assumption) _) | exact Nat.lt_of_lt_of_le (Wd.get (by assumption) _) (by decide)) rfl ?_
      refine WPL.and_u32 (b := 1) rfl rfl (by first | omega | exact Nat.mod_lt _ (by decide) | exact Wd.get (by assumption) _ | exact (dig_wd _).get _ | exact Nat.lt_of_le_of_lt (Nat.div_le_self ..) (Wd.get (by assumption) _) | exact Nat.lt_of_lt_of_le (Wd.get (by assumption) _) (by decide)) (by first | omega | exact Nat.mod_lt _ (by decide) | exact Wd.get (by assumption) _ | exact (dig_wd _).get _ | exact Nat.lt_of_le_of_lt (Nat.div_le_self ..) (Wd.get (by assumption) _) | exact Nat.lt_of_lt_of_le (Wd.get (by assumption) _) (by decide)) rfl ?_
      refine WPL.eq rfl rfl rfl ?_
      refine WPL.as (v := .bool _) rfl rfl ?_
      refine WPL.nil ?_
      refine WP.ret ?_
      refine ⟨rfl, ?_⟩
      refine RO.tmp (v := .bool _) rfl ?_
      refine RO.nil ?_
      refine ⟨?_, rfl⟩
      show Value.bool (decide (((l.getD (k / 32) 0 / 2 ^ (k % 32) &&& 1 : Nat) : Int) = 1)) = _
      rw [bit_get hw k, Nat.and_one_is_mod]
      congr 1
      exact decide_eq_decide.2 (by omega)

theorem r2_Low {w : World} (a : Option Addr) (l : List Nat) (c : Nat) {n N : Nat} (hr : RowOk w [] ⟨a, ws .u32 l⟩) (hw : Wd l) (hN : val l = N) (hc : l.length ≤ c) (hn : n = l.length) (hb : l.length ≤ 17592186044416) : Spec Tryd.prog 54 [.slice a n c] w (fun v w' => v = .int .i64 ((tz N : Nat) : Int) ∧ w = w') := by
  subst hn
  have hO : Own [] w [] [] [⟨a, ws .u32 l⟩] w := Own.start (by intro e he; cases he) (by
      simp only [List.mem_cons, List.not_mem_nil, or_false]
      rintro r rfl
      · exact hr)
  have htl := tz_lt_len hw
  rw [hN] at htl
  refine Spec.enter (n := 14) (rs := [.tmp 2]) Tryd.func54 rfl rfl rfl rfl ?_
  refine WP.rs ?_
  refine WPL.as (v := .int .i64 0) rfl rfl ?_
  refine WPL.nil ?_
  refine WP.seq ?_
  refine WP.rs ?_
  refine WPL.mv (v := .slice _ _ _) rfl rfl ?_
  refine WPL.call rfl (r2_size a l _ hr hw hN hc rfl hb) Tryd.func53 rfl rfl rfl ?_
  rintro _ _ ⟨rfl, rfl⟩
  refine WPL.eq rfl rfl rfl ?_
  refine WPL.nil ?_
  refine WP.condP rfl (fun h1 => ?_) (fun h1 => ?_)
  · refine WP.rs ?_
    refine WPL.as (v := .int .i64 0) rfl rfl ?_
    refine WPL.nil ?_
    refine WP.ret ?_
    refine ⟨rfl, ?_⟩
    refine RO.tmp (v := .int .i64 _) rfl ?_
    refine RO.nil ?_
    refine ⟨?_, rfl⟩
    have : N = 0 := dig_len_zero (by omega)
    rw [this, tz_zero]; rfl
  · refine WP.skip ?_
    refine WP.rs ?_
    refine WPL.as (v := .int .i64 0) rfl rfl ?_
    refine WPL.nil ?_
    refine WP.seq ?_
    refine WP.block ?_
    have hne : N ≠ 0 := fun e => by rw [e, dig_zero] at h1; exact h1 rfl
    refine WP.loop (fun m σ ds w' => ∃ i, m + i = tz N ∧ Has σ [(0, .slice a l.length c), (3, .int .i64 (i : Int))] ∧ ds = [] ∧ w = w') (tz N) ?_ ?_
    · exact ⟨0, rfl, ⟨rfl, rfl, trivial⟩, rfl, rfl⟩
    · rintro m σ ds _ ⟨i, hi, hH, rfl, rfl⟩
      refine WP.reset hH ?_
      refine WP.seq ?_
      refine WP.rs ?_
      refine WPL.mv (v := .slice _ _ _) rfl rfl ?_
      refine WPL.mv (v := .int .i64 _) rfl rfl ?_
      refine WPL.call rfl (r2_Bit a l _ hr hw hN hc rfl hb i (by omega)) Tryd.func70 rfl rfl rfl ?_
      rintro _ _ ⟨rfl, rfl⟩
      refine WPL.not rfl rfl ?_
      refine WPL.nil ?_
      refine WP.condB rfl (fun h2 => ?_) (fun h2 => ?_)
      · refine WP.skip ?_
        refine WP.block ?_
        refine WP.region ?_
        refine WPL.mv (v := .int .i64 _) rfl rfl ?_
        refine WPL.addI rfl rfl (by omega) rfl ?_
        refine WPL.as (v := .int .i64 _) rfl rfl ?_
        refine WPL.nil ?_
        have hb1 : ¬ N / 2 ^ i % 2 = 1 := by simpa using h2
        have hlt : i ≠ tz N := fun e => hb1 (by rw [e]; exact tz_odd hne)
        exact ⟨m - 1, by omega, i + 1, by omega, ⟨rfl, rfl, trivial⟩, rfl, rfl⟩
      · refine WP.exit ?_
        refine WP.rs ?_
        refine WPL.mv (v := .int .i64 _) rfl rfl ?_
        refine WPL.as (v := .int .i64 _) rfl rfl ?_
        refine WPL.nil ?_
        refine WP.ret ?_
        refine ⟨rfl, ?_⟩
        refine RO.tmp (v := .int .i64 _) rfl ?_
        refine RO.nil ?_
        refine ⟨?_, rfl⟩
        have hb1 : N / 2 ^ i % 2 = 1 := by simpa using h2
        have : i = tz N := by
          rcases Nat.lt_or_ge i (tz N) with h | h
          · rw [tz_bit0 h] at hb1; cases hb1
          · omega
        rw [← this]; rfl

theorem r2_Moved {w0 : World} (a : Option Addr) (l : List Nat) (c : Nat) {n N : Nat} (hr : RowOk w0 [] ⟨a, ws .u32 l⟩) (hw : Wd l) (hN : val l = N) (hc : l.length ≤ c) (hn : n = l.length) (hb : l.length ≤ 1000000000) (k : Int) (hk1 : -1000000000 ≤ k) (hk2 : k ≤ 1000000000) : Spec Tryd.prog 29 [.slice a n c, .int .i64 k] w0 (fun v w' => FrX [] w0 w' ∧ NatRes w0 w' 60 (shiftN N k) v) := by
  subst hn
  have hO : Own [] w0 [] [] [⟨a, ws .u32 l⟩] w0 := Own.start (by intro e he; cases he) (by
      simp only [List.mem_cons, List.not_mem_nil, or_false]
      rintro r rfl
      · exact hr)
  have hlk : l.length ≤ (-k).toNat / 32 → shiftN N k = 0 := fun h => by
    rcases Int.lt_or_le k 0 with h0 | h0
    · rw [shiftN_neg h0]
      have h1 := val_lt hw
      rw [pow_B, hN] at h1
      exact shift_small (blen_le.2 (Nat.lt_of_lt_of_le h1 (Nat.pow_le_pow_right (by decide) (by omega))))
    · have : l.length = 0 := by omega
      have e : l = [] := List.eq_nil_of_length_eq_zero this
      subst e
      rw [← hN]; exact shift_zero
  refine Spec.enter (n := 48) (rs := [.tmp 4]) Tryd.func29 rfl rfl rfl rfl ?_
  refine WP.rs ?_
  refine WPL.as (v := .slice none 0 0) rfl rfl ?_
  refine WPL.nil ?_
  refine WP.seq ?_
  refine WP.rs ?_
  refine WPL.mv (v := .int .i64 _) rfl rfl ?_
  refine WPL.lt rfl rfl rfl ?_
  refine WPL.nil ?_
  refine WP.condP rfl (fun h1 => ?_) (fun h1 => ?_)
  · refine WP.rs ?_
    refine WPL.mv (v := .int .i64 _) rfl rfl ?_
    refine WPL.negI rfl (by omega) rfl ?_
    refine WPL.quoN (a := (-k).toNat) (b := 32) (congrArg (Value.int .i64) (show -k = _ by omega)) rfl (by omega) (by omega) rfl ?_
    refine WPL.as (v := .int .i64 _) rfl rfl ?_
    refine WPL.nil ?_
    refine WP.seq ?_
    refine WP.rs ?_
    refine WPL.mv (v := .int .i64 _) rfl rfl ?_
    refine WPL.mv (v := .slice _ _ _) rfl rfl ?_
    refine WPL.len rfl rfl ?_
    refine WPL.ge rfl rfl rfl ?_
    refine WPL.mv (v := .bool _) rfl rfl ?_
    refine WPL.split (s := 18) rfl (fun h2 => ?_) (fun h2 => ?_)
    · have ph2 := of_decide_eq_true h2
      refine WPL.guardF rfl rfl rfl h2 ?_
      refine WPL.guardF rfl rfl rfl h2 ?_
      refine WPL.pkT (v := .bool true) rfl h2 rfl rfl ?_
      refine WPL.nil ?_
      refine WP.cT rfl rfl ?_
      refine WP.rs ?_
      refine WPL.as (v := .slice none 0 0) rfl rfl ?_
      refine WPL.nil ?_
      refine WP.ret ?_
      refine ⟨rfl, ?_⟩
      refine RO.tmp (v := .slice _ _ _) rfl ?_
      refine RO.nil ?_
      refine ⟨hO.fr, ?_⟩
      rw [hlk (by omega)]; exact NatRes.nil
    · have ph2 := of_decide_eq_false h2
      refine WPL.guardT rfl rfl h2 ?_
      refine WPL.mv (v := .int .i64 _) rfl rfl ?_
      refine WPL.guardT rfl rfl h2 ?_
      refine WPL.lt rfl rfl rfl ?_
      refine WPL.pkF (v := .bool _) rfl h2 rfl rfl ?_
      refine WPL.nil ?_
      refine WP.condP rfl (fun h3 => ?_) (fun h3 => ?_)
      · refine WP.rs ?_
        refine WPL.as (v := .slice none 0 0) rfl rfl ?_
        refine WPL.nil ?_
        refine WP.ret ?_
        refine ⟨rfl, ?_⟩
        refine RO.tmp (v := .slice _ _ _) rfl ?_
        refine RO.nil ?_
        exfalso; omega
      · refine WP.skip ?_
        refine WP.seq ?_
        refine WP.drawE 15 [] mixed (by kernel_rfl) rfl hO (fun w hO => ?_)
        refine WPE.pv (i := 0) (by kernel_rfl) rfl rfl (fun w k' h => WPL.mv (v := .slice _ _ _) rfl rfl (WPL.nil h)) ?_
        refine WPE.pv (i := 1) (by kernel_rfl) rfl rfl (fun w k' h => WPL.mv (v := .int .i64 _) rfl rfl (WPL.nil h)) ?_
        refine WPE.pv (i := 2) (by kernel_rfl) rfl rfl (fun w k' h => WPL.slL (lo := (-k).toNat / 32) rfl rfl rfl (by omega) rfl (WPL.nil h)) ?_
        refine WPE.pv (i := 4) (by kernel_rfl) rfl rfl (fun w k' h => WPL.mv (v := .int .i64 _) rfl rfl (WPL.nil h)) ?_
        refine WPE.pv (i := 5) (by kernel_rfl) rfl rfl (fun w k' h => WPL.negI rfl (by omega) rfl (WPL.nil h)) ?_
        refine WPE.pv (i := 6) (by kernel_rfl) rfl rfl (fun w k' h => WPL.remN (a := (-k).toNat) (b := 32) (congrArg (Value.int .i64) (show -k = _ by omega)) rfl (by omega) rfl (WPL.nil h)) ?_
        refine WPE.pv (i := 7) (by kernel_rfl) rfl rfl (fun w k' h => WPL.shl_u32 (a := 1) (s := (-k).toNat % 32) rfl rfl rfl (WPL.nil h)) ?_
        refine WPE.fork2 (i := 3) (j := 8) (by kernel_rfl) rfl rfl (.inr hO) ?_ ?_
        · have hrow : RowOk w [] ⟨cutA a c ((-k).toNat / 32) 1, ws .u32 (l.drop ((-k).toNat / 32))⟩ := by
            have := ((hO.cut' (a := a) (vals := ws .u32 l) (l := l.length) (c := c) (lo := (-k).toNat / 32) (sz := 1) inferInstance (by simp) (by omega) (by omega)).rows _ (List.mem_cons_self ..)).weak
            rw [Nat.mul_one, ← ws_drop] at this; exact this
          refine WPL.call rfl (r2_Norm _ (l.drop ((-k).toNat / 32)) _ hrow (hw.drop _) rfl (by simp; omega) (by simp) (by simp; omega)) Tryd.func50 rfl rfl rfl ?_
          clear hrow
          rintro _ w ⟨hf26, a26, c26, rfl, hc26, hr26⟩
          have hO := hO.res hf26 hr26
          have hl26 : (dig (val (l.drop ((-k).toNat / 32)))).length ≤ 1000000000 := Nat.le_trans (dig_length_le (hw.drop _)) (by simp; omega)
          refine WPL.nil ?_
          refine WPE.eff (i := 8) (by kernel_rfl) rfl (Own.dropR hO) ?_
          refine WPL.bs1 (pv := [(0, .int .u32 _)]) (vs := [_]) rfl hO rfl rfl rfl rfl (fun b1 w hO => ?_)
          refine WPL.nil ?_
          refine WPE.eff (i := 9) (by kernel_rfl) rfl (Own.dropR (Own.drop1 hO)) ?_
          have hs0 := hO.fr.size
          refine WPL.call rfl (r2_Parts a26 (dig (val (l.drop ((-k).toNat / 32)))) _ hO.rd (dig_wd _) (val_dig _) hc26 rfl (by omega) _ [1 * 2 ^ ((-k).toNat % 32) % 4294967296] _ (hO.rdA (b := b1) inferInstance) (.cons (Nat.mod_lt _ (by decide)) .nil) (N2 := 2 ^ ((-k).toNat % 32)) (by rw [val_one]; exact p32 (by omega)) (by simp) rfl (by simp) (Nat.two_pow_pos _)) Tryd.func49 rfl rfl rfl ?_
          rintro _ w ⟨hf32, a32, c32, a33, c33, rfl, hc32, hr32, -, -⟩
          have hO := hO.call hf32
          rw [moved_dn hw hN, ← shiftN_neg (by omega)] at hc32 hr32
          simp only [moved_dn hw hN]
          refine WPL.nil ?_
          refine WPE.pv (i := 10) (by kernel_rfl) rfl rfl (fun w k' h => WPL.mv (v := .tuple #[.slice _ _ _, .slice _ _ _]) rfl rfl (WPL.nil h)) ?_
          refine WPE.pv (i := 11) (by kernel_rfl) rfl rfl (fun w k' h => WPL.ext (v := .slice _ _ _) rfl rfl rfl (WPL.nil h)) ?_
          refine WPE.pv (i := 12) (by kernel_rfl) rfl rfl (fun w k' h => WPL.ext (v := .slice _ _ _) rfl rfl rfl (WPL.nil h)) ?_
          refine WPE.pv (i := 13) (by kernel_rfl) rfl rfl (fun w k' h => WPL.as (v := .slice _ _ _) rfl rfl (WPL.nil h)) ?_
          refine WPE.pv (i := 14) (by kernel_rfl) rfl rfl (fun w k' h => WPL.as (v := .slice _ _ _) rfl rfl (WPL.nil h)) ?_
          refine WPE.nil (by kernel_rfl) (Own.dropR (Own.drop1 hO)) ?_
          refine WP.rs ?_
          refine WPL.mv (v := .slice _ _ _) rfl rfl ?_
          refine WPL.as (v := .slice _ _ _) rfl rfl ?_
          refine WPL.nil ?_
          refine WP.ret ?_
          refine ⟨rfl, ?_⟩
          refine RO.tmp (v := .slice _ _ _) rfl ?_
          refine RO.nil ?_
          first
          | exact ⟨hO.fr, a32, c32, by rw [shiftN_neg (by omega)]; rfl, hc32, hr32.mono hs0⟩
          | exact ⟨hO.fr, a47, c47, by rw [shiftN_pos (by omega)]; rfl, hc47, hr47.mono hs0⟩
        · refine WPL.bs1 (pv := [(0, .int .u32 _)]) (vs := [_]) rfl hO rfl rfl rfl rfl (fun b2 w hO => ?_)
          refine WPL.nil ?_
          refine WPE.eff (i := 3) (by kernel_rfl) rfl (Own.drop1 hO) ?_
          have hrow : RowOk w [] ⟨cutA a c ((-k).toNat / 32) 1, ws .u32 (l.drop ((-k).toNat / 32))⟩ := by
            have := ((hO.cut' (a := a) (vals := ws .u32 l) (l := l.length) (c := c) (lo := (-k).toNat / 32) (sz := 1) inferInstance (by simp) (by omega) (by omega)).rows _ (List.mem_cons_self ..)).weak
            rw [Nat.mul_one, ← ws_drop] at this; exact this
          refine WPL.call rfl (r2_Norm _ (l.drop ((-k).toNat / 32)) _ hrow (hw.drop _) rfl (by simp; omega) (by simp) (by simp; omega)) Tryd.func50 rfl rfl rfl ?_
          clear hrow
          rintro _ w ⟨hf26, a26, c26, rfl, hc26, hr26⟩
          have hO := hO.res hf26 hr26
          have hl26 : (dig (val (l.drop ((-k).toNat / 32)))).length ≤ 1000000000 := Nat.le_trans (dig_length_le (hw.drop _)) (by simp; omega)
          refine WPL.nil ?_
          refine WPE.eff (i := 9) (by kernel_rfl) rfl (Own.drop1 (Own.dropR hO)) ?_
          have hs0 := hO.fr.size
          refine WPL.call rfl (r2_Parts a26 (dig (val (l.drop ((-k).toNat / 32)))) _ hO.rd (dig_wd _) (val_dig _) hc26 rfl (by omega) _ [1 * 2 ^ ((-k).toNat % 32) % 4294967296] _ (hO.rdA (b := b2) inferInstance) (.cons (Nat.mod_lt _ (by decide)) .nil) (N2 := 2 ^ ((-k).toNat % 32)) (by rw [val_one]; exact p32 (by omega)) (by simp) rfl (by simp) (Nat.two_pow_pos _)) Tryd.func49 rfl rfl rfl ?_
          rintro _ w ⟨hf32, a32, c32, a33, c33, rfl, hc32, hr32, -, -⟩
          have hO := hO.call hf32
          rw [moved_dn hw hN, ← shiftN_neg (by omega)] at hc32 hr32
          simp only [moved_dn hw hN]
          refine WPL.nil ?_
          refine WPE.pv (i := 10) (by kernel_rfl) rfl rfl (fun w k' h => WPL.mv (v := .tuple #[.slice _ _ _, .slice _ _ _]) rfl rfl (WPL.nil h)) ?_
          refine WPE.pv (i := 11) (by kernel_rfl) rfl rfl (fun w k' h => WPL.ext (v := .slice _ _ _) rfl rfl rfl (WPL.nil h)) ?_
          refine WPE.pv (i := 12) (by kernel_rfl) rfl rfl (fun w k' h => WPL.ext (v := .slice _ _ _) rfl rfl rfl (WPL.nil h)) ?_
          refine WPE.pv (i := 13) (by kernel_rfl) rfl rfl (fun w k' h => WPL.as (v := .slice _ _ _) rfl rfl (WPL.nil h)) ?_
          refine WPE.pv (i := 14) (by kernel_rfl) rfl rfl (fun w k' h => WPL.as (v := .slice _ _ _) rfl rfl (WPL.nil h)) ?_
          refine WPE.nil (by kernel_rfl) (Own.drop1 (Own.dropR hO)) ?_
          refine WP.rs ?_
          refine WPL.mv (v := .slice _ _ _) rfl rfl ?_
          refine WPL.as (v := .slice _ _ _) rfl rfl ?_
          refine WPL.nil ?_
          refine WP.ret ?_
          refine ⟨rfl, ?_⟩
          refine RO.tmp (v := .slice _ _ _) rfl ?_
          refine RO.nil ?_
          first
          | exact ⟨hO.fr, a32, c32, by rw [shiftN_neg (by omega)]; rfl, hc32, hr32.mono hs0⟩
          | exact ⟨hO.fr, a47, c47, by rw [shiftN_pos (by omega)]; rfl, hc47, hr47.mono hs0⟩
  · refine WP.skip ?_
    refine WP.rs ?_
    refine WPL.mv (v := .int .i64 _) rfl rfl ?_
    refine WPL.quoN (a := k.toNat) (b := 32) (congrArg (Value.int .i64) (show k = _ by omega)) rfl (by omega) (by omega) rfl ?_
    refine WPL.mkW (l := k.toNat / 32) (c := k.toNat / 32) rfl rfl rfl rfl hO (by omega) (by omega) (by omega) rfl (fun b1 w hO => ?_)
    refine WPL.as (v := .slice _ _ _) rfl rfl ?_
    refine WPL.nil ?_
    refine WP.rs ?_
    refine WPL.mv (v := .slice _ _ _) rfl rfl ?_
    refine WPL.mv (v := .slice _ _ _) rfl rfl ?_
    have hsrc : SrcRow w (.slice a l.length c) l.length 1 (ws .u32 l) := ⟨_, _, rfl, by simp, hO.rd, ws_one _ _⟩
    refine WPL.app (ze := [.int .u32 0]) (vals := ws .u32 (List.replicate (k.toNat / 32) 0)) (G := [⟨b1, ws .u32 (List.replicate (k.toNat / 32) 0), 60⟩]) (L := []) rfl hO (.inr ⟨b1, [], rfl, by simp, by simp⟩) (by simp) (Nat.le_refl _) hsrc (by decide) (by omega) (by omega) rfl (fun a41 c41 G41 w hG41 hc41 hO => ?_)
    rw [← ws_append] at hG41
    refine WPL.as (v := .slice _ _ _) rfl rfl ?_
    refine WPL.nil ?_
    refine WP.rs ?_
    refine WPL.mv (v := .slice _ _ _) rfl rfl ?_
    refine WPL.mv (v := .int .i64 _) rfl rfl ?_
    refine WPL.remN (a := k.toNat) (b := 32) (congrArg (Value.int .i64) (show k = _ by omega)) rfl (by omega) rfl ?_
    refine WPL.shl_u32 (a := 1) (s := k.toNat % 32) rfl rfl rfl ?_
    refine WPL.bs1 (pv := [(0, .int .u32 _)]) (vs := [_]) rfl hO rfl rfl rfl rfl (fun b4 w hO => ?_)
    have hs0 := hO.fr.size
    refine WPL.call rfl (r2_Times a41 (List.replicate (k.toNat / 32) 0 ++ l) _ (hO.rdG hG41) (Wd.append (wd_zeros _) hw) rfl (by simp; omega) (by simp) (by simp; omega) _ [1 * 2 ^ (k.toNat % 32) % 4294967296] _ (hO.rdA (b := b4) inferInstance) (.cons (Nat.mod_lt _ (by decide)) .nil) (N2 := 2 ^ (k.toNat % 32)) (by rw [val_one]; exact p32 (by omega)) (by simp) rfl (by simp)) Tryd.func51 rfl rfl rfl ?_
    rintro _ w ⟨hf47, a47, c47, rfl, hc47, hr47⟩
    have hO := hO.call hf47
    rw [moved_up hN, ← shiftN_pos (by omega)] at hc47 hr47
    simp only [moved_up hN]
    refine WPL.as (v := .slice _ _ _) rfl rfl ?_
    refine WPL.nil ?_
    refine WP.ret ?_
    refine ⟨rfl, ?_⟩
    refine RO.tmp (v := .slice _ _ _) rfl ?_
    refine RO.nil ?_
    first
    | exact ⟨hO.fr, a32, c32, by rw [shiftN_neg (by omega)]; rfl, hc32, hr32.mono hs0⟩
    | exact ⟨hO.fr, a47, c47, by rw [shiftN_pos (by omega)]; rfl, hc47, hr47.mono hs0⟩
end Go.Sw
