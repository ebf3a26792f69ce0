/- A part of the proof that BinsAlike answers true: steps of the walk, or plain laws that it needs. No conditions of its own. -/
import Derived.Test.YtdaphmoojpbddaaDoorSK2
import Derived.Test.YtdaphmoojpbddaaDoorSVW1
set_option linter.all false
namespace Go.Sw
set_option autoImplicit false
set_option linter.all false
open Go.Proofs Go.RowKit
instance T4 : Ty Tryd.prog 4 .bool [.bool false] 1 := Ty.mk' Tryd.underlying4 (by kernel_rfl)
noncomputable abbrev D34 : TypeDesc := (Tryd.prog.underlying 34).getD .bool
instance T34 : Ty Tryd.prog 34 D34 [.bool false, .slice none 0 0, .int .i64 0] 40 := Ty.mk' (by kernel_rfl) (by kernel_rfl)
theorem agg34 : TypeDesc.agg D34 = true := by kernel_rfl
theorem pl34 : placesOf Tryd.prog 34 = some [(0, 1), (1, 1), (2, 1)] := by kernel_rfl
instance F34_0 : Fld Tryd.prog 34 0 0 := Fld.mk' (sz := 0) (by kernel_rfl)
instance F34_1 : Fld Tryd.prog 34 1 1 := Fld.mk' (sz := 0) (by kernel_rfl)
instance F34_2 : Fld Tryd.prog 34 2 2 := Fld.mk' (sz := 0) (by kernel_rfl)
theorem dyad_lower {w0 : World} (a : Option Addr) (l : List Nat) (c : Nat) {n : Nat} (hr : RowOk w0 [] ⟨a, ws .u32 l⟩) (hw : Wd l) (hc : l.length ≤ c) (hn : n = l.length) (hb : l.length ≤ 70368744177664) (b : Nat) (hb32 : b < 32) (hl0 : 0 < l.length) (htop : 4294967296 ^ (l.length - 1) ≤ val l) : Spec Tryd.prog 73 [.slice a n c, .int .i64 (b : Int)] w0 (fun v w' => FrX [] w0 w' ∧ NatRes w0 w' 60 (val l / 2 ^ b) v) := by
  subst hn
  have hO : Own [] w0 [] [] [⟨a, ws .u32 l⟩] w0 := Own.start (by intro e he; cases he) (by
      simp only [List.mem_cons, List.not_mem_nil, or_false]
      rintro r rfl
      · exact hr)
  refine Spec.enter (n := 62) (rs := [.tmp 4]) Tryd.func73 rfl rfl rfl rfl ?_
  refine WP.rs ?_
  refine WPL.as (v := .slice none 0 0) rfl rfl ?_
  refine WPL.nil ?_
  refine WP.rs ?_
  refine WPL.mv (v := .slice _ _ _) rfl rfl ?_
  refine WPL.len rfl rfl ?_
  refine WPL.mkW rfl rfl rfl rfl hO (by omega) (by omega) (by omega) rfl (fun b1 w hO => ?_)
  refine WPL.as (v := .slice _ _ _) rfl rfl ?_
  refine WPL.nil ?_
  refine WP.seq ?_
  refine WP.rs ?_
  refine WPL.mv (v := .slice _ _ _) rfl rfl ?_
  refine WPL.len rfl rfl ?_
  refine WPL.mv (v := .int .i64 0) rfl rfl ?_
  refine WPL.nil ?_
  refine WP.block ?_
  refine WP.loop (fun m σ ds w' => ∃ i o, m + i = l.length ∧ o.length = l.length ∧ Wd o ∧ val (o.take i) = val l / 2 ^ b % 4294967296 ^ i ∧ Has σ [(0, .slice a l.length c), (1, .int .i64 (b : Int)), (5, .slice (some ⟨b1, 0, none⟩) l.length l.length), (12, .slice a l.length c), (13, .int .i64 (l.length : Int)), (14, .int .i64 (i : Int))] ∧ ds = [] ∧ Own [] w0 [] [⟨b1, ws .u32 o, 60⟩] [⟨a, ws .u32 l⟩] w') l.length ?_ ?_
  · exact ⟨0, _, rfl, by simp, wd_zeros _, by simp [val, Nat.mod_one], ⟨rfl, rfl, rfl, rfl, rfl, rfl, trivial⟩, rfl, hO⟩
  · rintro m σ ds w ⟨i, o, hi, ho, hwo, hv, hH, rfl, hO⟩
    refine WP.reset hH ?_
    refine WP.rs ?_
    refine WPL.lt rfl rfl rfl ?_
    refine WPL.nil ?_
    refine WP.seq ?_
    refine WP.condP rfl (fun h1 => ?_) (fun h1 => ?_)
    · refine WP.skip ?_
      refine WP.seq ?_
      refine WP.block ?_
      refine WP.rs ?_
      refine WPL.mv (v := .int .i64 _) rfl rfl ?_
      refine WPL.ixR rfl hO inferInstance rfl rfl (by first | omega | (simp; omega)) (by first | omega | (simp; omega)) rfl ?_
      refine WPL.ldR rfl hO inferInstance (ws_get1 rfl (by omega)) rfl rfl ?_
      refine WPL.as (v := .int .i64 _) rfl rfl ?_
      refine WPL.as (v := .int .u32 _) rfl rfl ?_
      refine WPL.nil ?_
      refine WP.rs ?_
      refine WPL.mv (v := .slice _ _ _) rfl rfl ?_
      refine WPL.mv (v := .int .i64 _) rfl rfl ?_
      refine WPL.mv (v := .int .u32 _) rfl rfl ?_
      refine WPL.mv (v := .int .i64 _) rfl rfl ?_
      refine WPL.shr_u32 rfl rfl (by first | omega | exact Nat.mod_lt _ (by decide) | exact Wd.get (by assumption) _ | exact (dig_wd _).get _ | exact Nat.lt_of_le_of_lt (Nat.div_le_self ..) (Wd.get (by assumption) _) | exact Nat.lt_of_lt_of_le (Wd.get (by assumption) _) (by decide)) rfl ?_
      refine WPL.ixL rfl rfl rfl (by omega) rfl ?_
      refine WPL.stW rfl rfl rfl hO inferInstance inferInstance rfl (by first | omega | (simp; omega)) (fun w hO => ?_)
      refine WPL.nil ?_
      refine WP.rs ?_
      refine WPL.mv (v := .int .i64 _) rfl rfl ?_
      refine WPL.gt rfl rfl rfl ?_
      refine WPL.mv (v := .bool _) rfl rfl ?_
      refine WPL.split (s := 27) rfl (fun h2 => ?_) (fun h2 => ?_)
      · have ph2 := of_decide_eq_true h2
        refine WPL.guardT rfl rfl h2 ?_
        refine WPL.mv (v := .int .i64 _) rfl rfl ?_
        refine WPL.guardT rfl rfl h2 ?_
        refine WPL.addI rfl rfl (by omega) rfl ?_
        refine WPL.guardT rfl rfl h2 ?_
        refine WPL.mv (v := .slice _ _ _) rfl rfl ?_
        refine WPL.guardT rfl rfl h2 ?_
        refine WPL.len rfl rfl ?_
        refine WPL.guardT rfl rfl h2 ?_
        refine WPL.lt rfl rfl rfl ?_
        refine WPL.pkT (v := .bool _) rfl h2 rfl rfl ?_
        refine WPL.nil ?_
        refine WP.condP rfl (fun h3 => ?_) (fun h3 => ?_)
        · refine WP.draw [(0, 0), (1, 0), (2, 0), (3, 1), (4, 0), (5, 0), (6, 0), (7, 1), (8, 1), (9, 0), (10, 0), (11, 0), (12, 0), (13, 0), (14, 2)] [14] mixed (by kernel_rfl) (by kernel_rfl) rfl hO (fun w hO => ?_)
          refine WPD.pv rfl rfl (fun w k' h => WPL.mv (v := .slice _ _ _) rfl rfl (WPL.nil h)) ?_
          refine WPD.pv rfl rfl (fun w k' h => WPL.mv (v := .int .i64 _) rfl rfl (WPL.nil h)) ?_
          refine WPD.pv rfl rfl (fun w k' h => WPL.ixL rfl rfl rfl (by omega) rfl (WPL.nil h)) ?_
          refine WPD.val rfl rfl (fun w hO k' h => WPL.ldW (o := o.set i (l.getD i 0 / 2 ^ b)) (j := i) rfl rfl hO inferInstance (by simp; omega) rfl rfl (WPL.nil h)) ?_
          refine WPD.pv rfl rfl (fun w k' h => WPL.mv (v := .slice _ _ _) rfl rfl (WPL.nil h)) ?_
          refine WPD.pv rfl rfl (fun w k' h => WPL.mv (v := .int .i64 _) rfl rfl (WPL.nil h)) ?_
          refine WPD.pv rfl rfl (fun w k' h => WPL.addI rfl rfl (by omega) rfl (WPL.nil h)) ?_
          refine WPD.val rfl rfl (fun w hO k' h => WPL.ixR (j := i + 1) rfl hO inferInstance rfl rfl (by omega) (by first | omega | (simp; omega)) rfl (WPL.nil h)) ?_
          refine WPD.val rfl rfl (fun w hO k' h => WPL.ldR rfl hO inferInstance (ws_get1 rfl (by omega)) rfl rfl (WPL.nil h)) ?_
          refine WPD.pv rfl rfl (fun w k' h => WPL.mv (v := .int .i64 _) rfl rfl (WPL.nil h)) ?_
          refine WPD.pv rfl rfl (fun w k' h => WPL.subI rfl rfl (by omega) rfl (WPL.nil h)) ?_
          refine WPD.pv rfl rfl (fun w k' h => WPL.shl_u32 (a := l.getD (i + 1) 0) (s := 32 - b) rfl (congrArg (Value.int .i64) (show (32 : Int) - b = _ by omega)) rfl (WPL.nil h)) ?_
          refine WPD.pv rfl rfl (fun w k' h => WPL.or_u32 rfl rfl ((hwo.set i (Nat.lt_of_le_of_lt (Nat.div_le_self ..) (hw.get i))).get _) (Nat.mod_lt _ (by decide)) rfl (WPL.nil h)) ?_
          refine WPD.pv rfl rfl (fun w k' h => WPL.ixL rfl rfl rfl (by omega) rfl (WPL.nil h)) ?_
          refine WPD.eff rfl hO ?_
          refine WPL.stW rfl rfl rfl hO inferInstance inferInstance rfl (by first | omega | (simp; omega)) (fun w hO => ?_)
          refine WPL.nil ?_
          refine WPD.nilX (by kernel_rfl) ?_
          refine WP.region ?_
          refine WPL.addI rfl rfl (by omega) rfl ?_
          refine WPL.mv (v := .int .i64 _) rfl rfl ?_
          refine WPL.nil ?_
          first
          | (have st := lower_next (show i < l.length by omega) ho hwo hw hb32 hv (.inr ⟨by omega, rfl⟩)
             exact ⟨m - 1, by omega, i + 1, _, by omega, st.1, st.2.1, st.2.2, ⟨rfl, rfl, rfl, rfl, rfl, rfl, trivial⟩, rfl, hO⟩)
          | (have st := lower_next (show i < l.length by omega) ho hwo hw hb32 hv (.inl ⟨by omega, by omega, rfl⟩)
             rw [List.set_set, getD_set_self (by omega)] at hO
             exact ⟨m - 1, by omega, i + 1, _, by omega, st.1, st.2.1, st.2.2, ⟨rfl, rfl, rfl, rfl, rfl, rfl, trivial⟩, rfl, hO⟩)
        · refine WP.skip ?_
          refine WP.region ?_
          refine WPL.addI rfl rfl (by omega) rfl ?_
          refine WPL.mv (v := .int .i64 _) rfl rfl ?_
          refine WPL.nil ?_
          first
          | (have st := lower_next (show i < l.length by omega) ho hwo hw hb32 hv (.inr ⟨by omega, rfl⟩)
             exact ⟨m - 1, by omega, i + 1, _, by omega, st.1, st.2.1, st.2.2, ⟨rfl, rfl, rfl, rfl, rfl, rfl, trivial⟩, rfl, hO⟩)
          | (have st := lower_next (show i < l.length by omega) ho hwo hw hb32 hv (.inl ⟨by omega, by omega, rfl⟩)
             rw [List.set_set, getD_set_self (by omega)] at hO
             exact ⟨m - 1, by omega, i + 1, _, by omega, st.1, st.2.1, st.2.2, ⟨rfl, rfl, rfl, rfl, rfl, rfl, trivial⟩, rfl, hO⟩)
      · have ph2 := of_decide_eq_false h2
        refine WPL.guardF rfl rfl rfl h2 ?_
        refine WPL.guardF rfl rfl rfl h2 ?_
        refine WPL.guardF rfl rfl rfl h2 ?_
        refine WPL.guardF rfl rfl rfl h2 ?_
        refine WPL.guardF rfl rfl rfl h2 ?_
        refine WPL.pkF (v := .bool false) rfl h2 rfl rfl ?_
        refine WPL.nil ?_
        refine WP.cF rfl rfl ?_
        refine WP.skip ?_
        refine WP.region ?_
        refine WPL.addI rfl rfl (by omega) rfl ?_
        refine WPL.mv (v := .int .i64 _) rfl rfl ?_
        refine WPL.nil ?_
        first
        | (have st := lower_next (show i < l.length by omega) ho hwo hw hb32 hv (.inr ⟨by omega, rfl⟩)
           exact ⟨m - 1, by omega, i + 1, _, by omega, st.1, st.2.1, st.2.2, ⟨rfl, rfl, rfl, rfl, rfl, rfl, trivial⟩, rfl, hO⟩)
        | (have st := lower_next (show i < l.length by omega) ho hwo hw hb32 hv (.inl ⟨by omega, by omega, rfl⟩)
           rw [List.set_set, getD_set_self (by omega)] at hO
           exact ⟨m - 1, by omega, i + 1, _, by omega, st.1, st.2.1, st.2.2, ⟨rfl, rfl, rfl, rfl, rfl, rfl, trivial⟩, rfl, hO⟩)
    · refine WP.exit ?_
      refine WP.seq ?_
      refine WP.rs ?_
      refine WPL.mv (v := .slice _ _ _) rfl rfl ?_
      refine WPL.len rfl rfl ?_
      refine WPL.subI rfl rfl (by omega) rfl ?_
      refine WPL.as (v := .int .i64 _) rfl rfl ?_
      refine WPL.nil ?_
      refine WP.rs ?_
      refine WPL.mv (v := .slice _ _ _) rfl rfl ?_
      refine WPL.mv (v := .int .i64 _) rfl rfl ?_
      refine WPL.ixL (j := l.length - 1) rfl rfl (by omega) (by omega) rfl ?_
      refine WPL.ldW rfl rfl hO inferInstance (by first | omega | (simp; omega)) rfl rfl ?_
      refine WPL.eq rfl rfl rfl ?_
      refine WPL.nil ?_
      refine WP.condP rfl (fun h4 => ?_) (fun h4 => ?_)
      · refine WP.region ?_
        refine WPL.mv (v := .slice _ _ _) rfl rfl ?_
        refine WPL.mv (v := .int .i64 _) rfl rfl ?_
        refine WPL.mv (v := .int .i64 _) rfl rfl ?_
        refine WPL.slHM (h := l.length - 1) (m := l.length - 1) rfl rfl rfl (by omega) (by omega) (by omega) (by omega) rfl ?_
        refine WPL.as (v := .slice _ _ _) rfl rfl ?_
        refine WPL.nil ?_
        refine WP.rs ?_
        refine WPL.mv (v := .slice _ _ _) rfl rfl ?_
        refine WPL.as (v := .slice _ _ _) rfl rfl ?_
        refine WPL.nil ?_
        refine WP.ret ?_
        refine ⟨rfl, ?_⟩
        refine RO.tmp (v := .slice _ _ _) rfl ?_
        refine RO.nil ?_
        have e : i = l.length := by omega
        subst e
        have hvo := down_end ho hw hv
        have hll := lower_len (k := l.length - 1) hwo (by omega) (by rw [hvo]; exact lower_top hb32 hl0 htop)
        have hfull : Res w0 w (some ⟨b1, 0, none⟩) l.length 1 (ws .u32 o) 60 := hO.give1 (sp := []) inferInstance (by simp) (by simp [ho])
        refine ⟨hO.fr, ?_⟩
        first
        | (rw [if_pos (by omega), hvo] at hll
           rw [show l.length - 1 = (dig (val l / 2 ^ b)).length from hll.symm]
           exact hfull.natCut hwo hvo (Nat.le_refl _) (by omega))
        | (rw [if_neg (by omega), hvo] at hll
           have e2 : l.length = (dig (val l / 2 ^ b)).length := by omega
           rw [e2] at hfull ⊢
           exact hfull.natCut hwo hvo (Nat.le_refl _) (Nat.le_refl _))
      · refine WP.skip ?_
        refine WP.rs ?_
        refine WPL.mv (v := .slice _ _ _) rfl rfl ?_
        refine WPL.as (v := .slice _ _ _) rfl rfl ?_
        refine WPL.nil ?_
        refine WP.ret ?_
        refine ⟨rfl, ?_⟩
        refine RO.tmp (v := .slice _ _ _) rfl ?_
        refine RO.nil ?_
        have e : i = l.length := by omega
        subst e
        have hvo := down_end ho hw hv
        have hll := lower_len (k := l.length - 1) hwo (by omega) (by rw [hvo]; exact lower_top hb32 hl0 htop)
        have hfull : Res w0 w (some ⟨b1, 0, none⟩) l.length 1 (ws .u32 o) 60 := hO.give1 (sp := []) inferInstance (by simp) (by simp [ho])
        refine ⟨hO.fr, ?_⟩
        first
        | (rw [if_pos (by omega), hvo] at hll
           rw [show l.length - 1 = (dig (val l / 2 ^ b)).length from hll.symm]
           exact hfull.natCut hwo hvo (Nat.le_refl _) (by omega))
        | (rw [if_neg (by omega), hvo] at hll
           have e2 : l.length = (dig (val l / 2 ^ b)).length := by omega
           rw [e2] at hfull ⊢
           exact hfull.natCut hwo hvo (Nat.le_refl _) (Nat.le_refl _))

theorem dyad_form {w0 : World} (ht : TabOk tabs w0) (s : Bool) (a : Option Addr) (l : List Nat) (c : Nat) {n : Nat} (hr : RowOk w0 [] ⟨a, ws .u32 l⟩) (hw : Wd l) (hc : l.length ≤ c) (hn : n = l.length) (hb : l.length ≤ 70368744177664) (e : Int) (hf : blen (val l) ≤ 262144) (he : -700000 ≤ e ∧ e ≤ 700000) : Spec Tryd.prog 57 [.bool s, .slice a n c, .int .i64 e] w0 (fun v w' => FrX [] w0 w' ∧ DyErr w0 w' 60 (Dy.fm s (val l) e) v) := by
  subst hn
  have hO : Own tabs w0 [] [] [⟨a, ws .u32 l⟩] w0 := Own.start ht (by
      simp only [List.mem_cons, List.not_mem_nil, or_false]
      rintro r rfl
      · exact hr)
  refine Spec.enter (n := 47) (rs := [.cell 6 34, .tmp 7]) Tryd.func57 rfl rfl rfl rfl ?_
  refine WP.rs ?_
  refine WPL.al hO rfl (fun b1 w hO => ?_)
  refine WPL.as (v := .int .i64 0) rfl rfl ?_
  refine WPL.nil ?_
  refine WP.rs ?_
  refine WPL.mv (v := .slice _ _ _) rfl rfl ?_
  refine WPL.call rfl (wide_Norm _ l _ hO.rd hw rfl hb) Tryd.func71 rfl rfl rfl ?_
  rintro _ w ⟨hf11, a11, c11, rfl, hc11, hr11⟩
  have hO := hO.res hf11 hr11
  have hlen := dig_length_le hw
  refine WPL.as (v := .slice _ _ _) rfl rfl ?_
  refine WPL.nil ?_
  refine WP.seq ?_
  refine WP.rs ?_
  refine WPL.mv (v := .slice _ _ _) rfl rfl ?_
  refine WPL.len rfl rfl ?_
  refine WPL.eq rfl rfl rfl ?_
  refine WPL.nil ?_
  refine WP.condP rfl (fun h1 => ?_) (fun h1 => ?_)
  · refine WP.rs ?_
    refine WPL.bd (pv := []) (vs := [_, _, _]) rfl (bd_of pl34 rfl rfl) rfl ?_
    refine WPL.stLA (T := T34) rfl rfl hO inferInstance inferInstance (by simp [Value.oneCell']) rfl rfl (fun w hO => ?_)
    refine WPL.as (v := .int .i64 0) rfl rfl ?_
    refine WPL.nil ?_
    refine WP.ret ?_
    refine ⟨rfl, ?_⟩
    refine RO.cell (T := T34) [.bool _, .slice _ _ _, .int .i64 _] rfl hO inferInstance rfl agg34 rfl ?_
    refine RO.tmp (v := .int .i64 _) rfl ?_
    refine RO.nil ?_
    have e0 := dig_len_zero (by omega : (dig (val l)).length = 0)
    rw [e0, Dy.fm_zero]
    exact ⟨hO.fr, none, 0, by simp only [dyV, dig_zero]; rfl, by simp [dig_zero], by simp only [dig_zero]; exact Res.nil rfl⟩
  · refine WP.skip ?_
    refine WP.rs ?_
    have hn0 : val l ≠ 0 := fun e => h1 (by rw [e, dig_zero]; rfl)
    have htz := tz_le_blen hn0
    have hll := low_len hn0
    refine WPL.mv (v := .slice _ _ _) rfl rfl ?_
    refine WPL.call rfl (wide_Low hO.tab _ _ _ (by first | exact hO.rd | exact hO.rdG (by assumption)) (by first | assumption | exact dig_wd _) (by first | omega | simp) rfl (by first | omega | simp)) Tryd.func72 rfl rfl rfl ?_
    rintro _ _ ⟨rfl, rfl⟩
    try simp only [val_dig]
    refine WPL.as (v := .int .i64 _) rfl rfl ?_
    refine WPL.nil ?_
    refine WP.rs ?_
    refine WPL.mv (v := .slice _ _ _) rfl rfl ?_
    refine WPL.mv (v := .int .i64 _) rfl rfl ?_
    refine WPL.quoN (b := 32) rfl rfl (by omega) (by omega) rfl ?_
    refine WPL.slL rfl rfl rfl (by omega) rfl ?_
    refine WPL.mv (v := .int .i64 _) rfl rfl ?_
    refine WPL.remN (b := 32) rfl rfl (by omega) rfl ?_
    have hrow : RowOk w [] ⟨cutA a11 c11 (tz (val l) / 32) 1, ws .u32 ((dig (val l)).drop (tz (val l) / 32))⟩ := by
      have := ((hO.cut' (a := a11) (vals := ws .u32 (dig (val l))) (l := (dig (val l)).length) (c := c11) (lo := tz (val l) / 32) (sz := 1) inferInstance (by simp) (by omega) (by omega)).rows _ (List.mem_cons_self ..)).weak
      rw [Nat.mul_one, ← ws_drop] at this; exact this
    refine WPL.call rfl (dyad_lower _ ((dig (val l)).drop (tz (val l) / 32)) _ hrow ((dig_wd _).drop _) (by simp; omega) (by simp) (by simp; omega) _ (by omega) (by simp; omega) (drop_top hll)) Tryd.func73 rfl rfl rfl ?_
    rintro _ w ⟨hf24, a24, c24, rfl, hc24, hr24⟩
    rw [shift_dn] at hc24 hr24
    obtain ⟨G24, hG24, hO⟩ := hO.resL hf24 hr24
    simp only [shift_dn]
    refine WPL.as (v := .slice _ _ _) rfl rfl ?_
    refine WPL.nil ?_
    refine WP.seq ?_
    refine WP.rs ?_
    refine WPL.mv (v := .int .i64 _) rfl rfl ?_
    refine WPL.mv (v := .int .i64 _) rfl rfl ?_
    refine WPL.subI rfl rfl (by omega) rfl ?_
    refine WPL.gt rfl rfl rfl ?_
    refine WPL.mv (v := .bool _) rfl rfl ?_
    refine WPL.split (s := 29) rfl (fun h2 => ?_) (fun h2 => ?_)
    · have ph2 := of_decide_eq_true h2
      exact absurd (of_decide_eq_true h2) (by omega)
    · have ph2 := of_decide_eq_false h2
      refine WPL.guardT rfl rfl h2 ?_
      refine WPL.mv (v := .int .i64 _) rfl rfl ?_
      refine WPL.guardT rfl rfl h2 ?_
      refine WPL.mv (v := .int .i64 _) rfl rfl ?_
      refine WPL.guardT rfl rfl h2 ?_
      refine WPL.subI rfl rfl (by omega) rfl ?_
      refine WPL.guardT rfl rfl h2 ?_
      refine WPL.lt rfl rfl rfl ?_
      refine WPL.pkF (v := .bool _) rfl h2 rfl rfl ?_
      refine WPL.mv (v := .bool _) rfl rfl ?_
      refine WPL.split (s := 35) rfl (fun h3 => ?_) (fun h3 => ?_)
      · have ph3 := of_decide_eq_true h3
        exact absurd (of_decide_eq_true h3) (by omega)
      · have ph3 := of_decide_eq_false h3
        refine WPL.guardT rfl rfl h3 ?_
        refine WPL.mv (v := .slice _ _ _) rfl rfl ?_
        refine WPL.guardT rfl rfl h3 ?_
        refine WPL.len rfl rfl ?_
        refine WPL.guardT rfl rfl h3 ?_
        refine WPL.gt rfl rfl rfl ?_
        refine WPL.pkF (v := .bool _) rfl h3 rfl rfl ?_
        refine WPL.nil ?_
        refine WP.condP rfl (fun h4 => ?_) (fun h4 => ?_)
        · exact absurd h4 (by have := len_blen (k := 8192) (show blen (val l / 2 ^ tz (val l)) ≤ 32 * 8192 by have := @blen_div (val l) (tz (val l)); omega); omega)
        · refine WP.skip ?_
          refine WP.rs ?_
          refine WPL.mv (v := .bool _) rfl rfl ?_
          refine WPL.mv (v := .slice _ _ _) rfl rfl ?_
          refine WPL.mv (v := .int .i64 _) rfl rfl ?_
          refine WPL.mv (v := .int .i64 _) rfl rfl ?_
          refine WPL.addI rfl rfl (by omega) rfl ?_
          refine WPL.bd (pv := [(0, .bool _), (1, .slice _ _ _), (2, .int .i64 _)]) (vs := [_, _, _]) rfl (bd_of pl34 rfl rfl) rfl ?_
          refine WPL.stLA (T := T34) rfl rfl hO inferInstance inferInstance (by simp [Value.oneCell']) rfl rfl (fun w hO => ?_)
          refine WPL.as (v := .int .i64 0) rfl rfl ?_
          refine WPL.nil ?_
          refine WP.ret ?_
          refine ⟨rfl, ?_⟩
          refine RO.cell (T := T34) [.bool _, .slice _ _ _, .int .i64 _] rfl hO inferInstance rfl agg34 rfl ?_
          refine RO.tmp (v := .int .i64 _) rfl ?_
          refine RO.nil ?_
          rw [Dy.fm_pos hn0]
          exact ⟨hO.fr, a24, c24, rfl, hc24, hO.giveG hG24⟩

theorem dyad_sum {w0 : World} (a : Option Addr) (l : List Nat) (c : Nat) {n : Nat} (hr : RowOk w0 [] ⟨a, ws .u32 l⟩) (hw : Wd l) (hc : l.length ≤ c) (hn : n = l.length) (hb : l.length ≤ 70368744177664)(a2 : Option Addr) (l2 : List Nat) (c2 : Nat) {n2 : Nat} (hr2 : RowOk w0 [] ⟨a2, ws .u32 l2⟩) (hw2 : Wd l2) (hc2 : l2.length ≤ c2) (hn2 : n2 = l2.length) (hb2 : l2.length ≤ 70368744177664) (hb1 : l.length < 70368744177664) (hb3 : l2.length < 70368744177664) : Spec Tryd.prog 60 [.slice a n c, .slice a2 n2 c2] w0 (fun v w' => FrX [] w0 w' ∧ ∃ k, k ≤ l.length + l2.length + 1 ∧ WRes w0 w' 60 (val l + val l2) k v) := by
  subst hn hn2
  have hO : Own [] w0 [] [] [⟨a, ws .u32 l⟩, ⟨a2, ws .u32 l2⟩] w0 := Own.start (by intro e he; cases he) (by
      simp only [List.mem_cons, List.not_mem_nil, or_false]
      rintro r (rfl | rfl)
      · exact hr
      · exact hr2)
  refine Spec.enter (n := 53) (rs := [.tmp 4]) Tryd.func60 rfl rfl rfl rfl ?_
  refine WP.rs ?_
  refine WPL.as (v := .slice none 0 0) rfl rfl ?_
  refine WPL.nil ?_
  refine WP.seq ?_
  refine WP.rs ?_
  refine WPL.mv (v := .slice _ _ _) rfl rfl ?_
  refine WPL.len rfl rfl ?_
  refine WPL.mv (v := .slice _ _ _) rfl rfl ?_
  refine WPL.len rfl rfl ?_
  refine WPL.lt rfl rfl rfl ?_
  refine WPL.nil ?_
  refine WP.condP rfl (fun h1 => ?_) (fun h1 => ?_)
  · refine WP.region ?_
    refine WPL.mv (v := .slice _ _ _) rfl rfl ?_
    refine WPL.mv (v := .slice _ _ _) rfl rfl ?_
    refine WPL.as (v := .slice _ _ _) rfl rfl ?_
    refine WPL.as (v := .slice _ _ _) rfl rfl ?_
    refine WPL.nil ?_
    refine WP.rs ?_
    refine WPL.mv (v := .slice _ _ _) rfl rfl ?_
    refine WPL.len rfl rfl ?_
    refine WPL.addI rfl rfl (by omega) rfl ?_
    refine WPL.mkW (l := l2.length + 1) (c := l2.length + 1) rfl rfl rfl rfl hO (by omega) (by omega) (by omega) rfl (fun b1 w hO => ?_)
    refine WPL.as (v := .slice _ _ _) rfl rfl ?_
    refine WPL.nil ?_
    refine WP.rs ?_
    refine WPL.as (v := .int .u32 ((0 : Nat) : Int)) rfl rfl ?_
    refine WPL.nil ?_
    refine WP.seq ?_
    refine WP.rs ?_
    refine WPL.mv (v := .slice _ _ _) rfl rfl ?_
    refine WPL.len rfl rfl ?_
    refine WPL.mv (v := .int .i64 0) rfl rfl ?_
    refine WPL.nil ?_
    refine WP.block ?_
    refine WP.loop (fun m σ ds w' => ∃ i q o, m + i = l2.length ∧ o.length = l2.length + 1 ∧ Wd o ∧ q ≤ 1 ∧ val (o.take i) + q * 4294967296 ^ i = val (l2.take i) + val (l.take i) ∧ Has σ [(0, .slice a2 l2.length c2), (1, .slice a l.length c), (5, .slice (some ⟨b1, 0, none⟩) (l2.length + 1) (l2.length + 1)), (6, .int .u32 (q : Int)), (21, .int .i64 (l2.length : Int)), (22, .int .i64 (i : Int))] ∧ ds = [] ∧ Own [] w0 [] [⟨b1, ws .u32 o, 60⟩] [⟨a, ws .u32 l⟩, ⟨a2, ws .u32 l2⟩] w') l2.length ?_ ?_
    · exact ⟨0, 0, _, rfl, by simp, wd_zeros _, by decide, by simp [val], ⟨rfl, rfl, rfl, rfl, rfl, rfl, trivial⟩, rfl, hO⟩
    · rintro m σ ds w ⟨i, q, o, hi, ho, hwo, hq, hv, hH, rfl, hO⟩
      refine WP.reset hH ?_
      refine WP.rs ?_
      refine WPL.lt rfl rfl rfl ?_
      refine WPL.nil ?_
      refine WP.seq ?_
      refine WP.condP rfl (fun h2 => ?_) (fun h2 => ?_)
      · refine WP.skip ?_
        refine WP.seq ?_
        refine WP.block ?_
        refine WP.rs ?_
        refine WPL.mv (v := .int .i64 _) rfl rfl ?_
        refine WPL.as (v := .int .i64 _) rfl rfl ?_
        refine WPL.nil ?_
        refine WP.rs ?_
        refine WPL.as (v := .int .u32 ((0 : Nat) : Int)) rfl rfl ?_
        refine WPL.nil ?_
        refine WP.seq ?_
        refine WP.rs ?_
        refine WPL.mv (v := .int .i64 _) rfl rfl ?_
        refine WPL.mv (v := .slice _ _ _) rfl rfl ?_
        refine WPL.len rfl rfl ?_
        refine WPL.lt rfl rfl rfl ?_
        refine WPL.nil ?_
        refine WP.condP rfl (fun h3 => ?_) (fun h3 => ?_)
        · refine WP.region ?_
          refine WPL.mv (v := .slice _ _ _) rfl rfl ?_
          refine WPL.mv (v := .int .i64 _) rfl rfl ?_
          refine WPL.ixR rfl hO inferInstance rfl rfl (by first | omega | (simp; omega)) (by first | omega | (simp; omega)) rfl ?_
          refine WPL.ldR rfl hO inferInstance (ws_get1 rfl (by omega)) rfl rfl ?_
          refine WPL.as (v := .int .u32 _) rfl rfl ?_
          refine WPL.nil ?_
          refine WP.region ?_
          refine WPL.mv (v := .slice _ _ _) rfl rfl ?_
          refine WPL.mv (v := .int .i64 _) rfl rfl ?_
          refine WPL.mv (v := .slice _ _ _) rfl rfl ?_
          refine WPL.mv (v := .int .i64 _) rfl rfl ?_
          refine WPL.ixR rfl hO inferInstance rfl rfl (by first | omega | (simp; omega)) (by first | omega | (simp; omega)) rfl ?_
          refine WPL.ldR rfl hO inferInstance (ws_get1 rfl (by omega)) rfl rfl ?_
          refine WPL.mv (v := .int .u32 _) rfl rfl ?_
          refine WPL.mv (v := .int .u32 _) rfl rfl ?_
          refine WPL.call rfl (add32 _ _ _ (by first | assumption | exact Wd.get (by assumption) _ | omega | decide) (by first | assumption | exact Wd.get (by assumption) _ | omega | decide) (by omega)) Tryd.func79 rfl rfl rfl ?_
          rintro _ _ ⟨rfl, rfl⟩
          refine WPL.mv (v := .tuple #[.int .u32 _, .int .u32 _]) rfl rfl ?_
          refine WPL.ext (v := .int .u32 _) rfl rfl rfl ?_
          refine WPL.ext (v := .int .u32 _) rfl rfl rfl ?_
          refine WPL.ixL rfl rfl rfl (by omega) rfl ?_
          refine WPL.stW rfl rfl rfl hO inferInstance inferInstance rfl (by first | omega | (simp; omega)) (fun w hO => ?_)
          refine WPL.as (v := .int .u32 _) rfl rfl ?_
          refine WPL.nil ?_
          refine WP.region ?_
          refine WPL.addI rfl rfl (by omega) rfl ?_
          refine WPL.mv (v := .int .i64 _) rfl rfl ?_
          refine WPL.nil ?_
          first
          | (have st := add_next (l := l2) (l2 := l) (c := q) (show i < l2.length + 1 by omega) ho hwo hw2 hw hq (y := 0) (getD_ge (by omega)) hv
             exact ⟨m - 1, by omega, i + 1, _, _, by omega, st.1, st.2.1, st.2.2.1, st.2.2.2, ⟨rfl, rfl, rfl, rfl, rfl, rfl, trivial⟩, rfl, hO⟩)
          | (have st := add_next (l := l2) (l2 := l) (c := q) (show i < l2.length + 1 by omega) ho hwo hw2 hw hq (y := l.getD i 0) (rfl) hv
             exact ⟨m - 1, by omega, i + 1, _, _, by omega, st.1, st.2.1, st.2.2.1, st.2.2.2, ⟨rfl, rfl, rfl, rfl, rfl, rfl, trivial⟩, rfl, hO⟩)
        · refine WP.skip ?_
          refine WP.region ?_
          refine WPL.mv (v := .slice _ _ _) rfl rfl ?_
          refine WPL.mv (v := .int .i64 _) rfl rfl ?_
          refine WPL.mv (v := .slice _ _ _) rfl rfl ?_
          refine WPL.mv (v := .int .i64 _) rfl rfl ?_
          refine WPL.ixR rfl hO inferInstance rfl rfl (by first | omega | (simp; omega)) (by first | omega | (simp; omega)) rfl ?_
          refine WPL.ldR rfl hO inferInstance (ws_get1 rfl (by omega)) rfl rfl ?_
          refine WPL.mv (v := .int .u32 _) rfl rfl ?_
          refine WPL.mv (v := .int .u32 _) rfl rfl ?_
          refine WPL.call rfl (add32 _ _ _ (by first | assumption | exact Wd.get (by assumption) _ | omega | decide) (by first | assumption | exact Wd.get (by assumption) _ | omega | decide) (by omega)) Tryd.func79 rfl rfl rfl ?_
          rintro _ _ ⟨rfl, rfl⟩
          refine WPL.mv (v := .tuple #[.int .u32 _, .int .u32 _]) rfl rfl ?_
          refine WPL.ext (v := .int .u32 _) rfl rfl rfl ?_
          refine WPL.ext (v := .int .u32 _) rfl rfl rfl ?_
          refine WPL.ixL rfl rfl rfl (by omega) rfl ?_
          refine WPL.stW rfl rfl rfl hO inferInstance inferInstance rfl (by first | omega | (simp; omega)) (fun w hO => ?_)
          refine WPL.as (v := .int .u32 _) rfl rfl ?_
          refine WPL.nil ?_
          refine WP.region ?_
          refine WPL.addI rfl rfl (by omega) rfl ?_
          refine WPL.mv (v := .int .i64 _) rfl rfl ?_
          refine WPL.nil ?_
          first
          | (have st := add_next (l := l2) (l2 := l) (c := q) (show i < l2.length + 1 by omega) ho hwo hw2 hw hq (y := 0) (getD_ge (by omega)) hv
             exact ⟨m - 1, by omega, i + 1, _, _, by omega, st.1, st.2.1, st.2.2.1, st.2.2.2, ⟨rfl, rfl, rfl, rfl, rfl, rfl, trivial⟩, rfl, hO⟩)
          | (have st := add_next (l := l2) (l2 := l) (c := q) (show i < l2.length + 1 by omega) ho hwo hw2 hw hq (y := l.getD i 0) (rfl) hv
             exact ⟨m - 1, by omega, i + 1, _, _, by omega, st.1, st.2.1, st.2.2.1, st.2.2.2, ⟨rfl, rfl, rfl, rfl, rfl, rfl, trivial⟩, rfl, hO⟩)
      · refine WP.exit ?_
        refine WP.rs ?_
        refine WPL.mv (v := .slice _ _ _) rfl rfl ?_
        refine WPL.mv (v := .slice _ _ _) rfl rfl ?_
        refine WPL.len rfl rfl ?_
        refine WPL.mv (v := .int .u32 _) rfl rfl ?_
        refine WPL.ixL rfl rfl rfl (by omega) rfl ?_
        refine WPL.stW rfl rfl rfl hO inferInstance inferInstance rfl (by first | omega | (simp; omega)) (fun w hO => ?_)
        refine WPL.nil ?_
        refine WP.rs ?_
        refine WPL.mv (v := .slice _ _ _) rfl rfl ?_
        refine WPL.as (v := .slice _ _ _) rfl rfl ?_
        refine WPL.nil ?_
        refine WP.ret ?_
        refine ⟨rfl, ?_⟩
        refine RO.tmp (v := .slice _ _ _) rfl ?_
        refine RO.nil ?_
        have e : i = l2.length := by omega
        subst e
        rw [List.take_length, List.take_of_length_le (show l.length ≤ l2.length by omega)] at hv
        have hv2 := add_end ho hv
        refine ⟨hO.fr, l2.length + 1, by omega, hO.giveW inferInstance (by simp [ho]) (hwo.set _ (by omega)) (by rw [hv2, Nat.add_comm])⟩
  · refine WP.skip ?_
    refine WP.rs ?_
    refine WPL.mv (v := .slice _ _ _) rfl rfl ?_
    refine WPL.len rfl rfl ?_
    refine WPL.addI rfl rfl (by omega) rfl ?_
    refine WPL.mkW (l := l.length + 1) (c := l.length + 1) rfl rfl rfl rfl hO (by omega) (by omega) (by omega) rfl (fun b1 w hO => ?_)
    refine WPL.as (v := .slice _ _ _) rfl rfl ?_
    refine WPL.nil ?_
    refine WP.rs ?_
    refine WPL.as (v := .int .u32 ((0 : Nat) : Int)) rfl rfl ?_
    refine WPL.nil ?_
    refine WP.seq ?_
    refine WP.rs ?_
    refine WPL.mv (v := .slice _ _ _) rfl rfl ?_
    refine WPL.len rfl rfl ?_
    refine WPL.mv (v := .int .i64 0) rfl rfl ?_
    refine WPL.nil ?_
    refine WP.block ?_
    refine WP.loop (fun m σ ds w' => ∃ i q o, m + i = l.length ∧ o.length = l.length + 1 ∧ Wd o ∧ q ≤ 1 ∧ val (o.take i) + q * 4294967296 ^ i = val (l.take i) + val (l2.take i) ∧ Has σ [(0, .slice a l.length c), (1, .slice a2 l2.length c2), (5, .slice (some ⟨b1, 0, none⟩) (l.length + 1) (l.length + 1)), (6, .int .u32 (q : Int)), (21, .int .i64 (l.length : Int)), (22, .int .i64 (i : Int))] ∧ ds = [] ∧ Own [] w0 [] [⟨b1, ws .u32 o, 60⟩] [⟨a, ws .u32 l⟩, ⟨a2, ws .u32 l2⟩] w') l.length ?_ ?_
    · exact ⟨0, 0, _, rfl, by simp, wd_zeros _, by decide, by simp [val], ⟨rfl, rfl, rfl, rfl, rfl, rfl, trivial⟩, rfl, hO⟩
    · rintro m σ ds w ⟨i, q, o, hi, ho, hwo, hq, hv, hH, rfl, hO⟩
      refine WP.reset hH ?_
      refine WP.rs ?_
      refine WPL.lt rfl rfl rfl ?_
      refine WPL.nil ?_
      refine WP.seq ?_
      refine WP.condP rfl (fun h4 => ?_) (fun h4 => ?_)
      · refine WP.skip ?_
        refine WP.seq ?_
        refine WP.block ?_
        refine WP.rs ?_
        refine WPL.mv (v := .int .i64 _) rfl rfl ?_
        refine WPL.as (v := .int .i64 _) rfl rfl ?_
        refine WPL.nil ?_
        refine WP.rs ?_
        refine WPL.as (v := .int .u32 ((0 : Nat) : Int)) rfl rfl ?_
        refine WPL.nil ?_
        refine WP.seq ?_
        refine WP.rs ?_
        refine WPL.mv (v := .int .i64 _) rfl rfl ?_
        refine WPL.mv (v := .slice _ _ _) rfl rfl ?_
        refine WPL.len rfl rfl ?_
        refine WPL.lt rfl rfl rfl ?_
        refine WPL.nil ?_
        refine WP.condP rfl (fun h5 => ?_) (fun h5 => ?_)
        · refine WP.region ?_
          refine WPL.mv (v := .slice _ _ _) rfl rfl ?_
          refine WPL.mv (v := .int .i64 _) rfl rfl ?_
          refine WPL.ixR rfl hO inferInstance rfl rfl (by first | omega | (simp; omega)) (by first | omega | (simp; omega)) rfl ?_
          refine WPL.ldR rfl hO inferInstance (ws_get1 rfl (by omega)) rfl rfl ?_
          refine WPL.as (v := .int .u32 _) rfl rfl ?_
          refine WPL.nil ?_
          refine WP.region ?_
          refine WPL.mv (v := .slice _ _ _) rfl rfl ?_
          refine WPL.mv (v := .int .i64 _) rfl rfl ?_
          refine WPL.mv (v := .slice _ _ _) rfl rfl ?_
          refine WPL.mv (v := .int .i64 _) rfl rfl ?_
          refine WPL.ixR rfl hO inferInstance rfl rfl (by first | omega | (simp; omega)) (by first | omega | (simp; omega)) rfl ?_
          refine WPL.ldR rfl hO inferInstance (ws_get1 rfl (by omega)) rfl rfl ?_
          refine WPL.mv (v := .int .u32 _) rfl rfl ?_
          refine WPL.mv (v := .int .u32 _) rfl rfl ?_
          refine WPL.call rfl (add32 _ _ _ (by first | assumption | exact Wd.get (by assumption) _ | omega | decide) (by first | assumption | exact Wd.get (by assumption) _ | omega | decide) (by omega)) Tryd.func79 rfl rfl rfl ?_
          rintro _ _ ⟨rfl, rfl⟩
          refine WPL.mv (v := .tuple #[.int .u32 _, .int .u32 _]) rfl rfl ?_
          refine WPL.ext (v := .int .u32 _) rfl rfl rfl ?_
          refine WPL.ext (v := .int .u32 _) rfl rfl rfl ?_
          refine WPL.ixL rfl rfl rfl (by omega) rfl ?_
          refine WPL.stW rfl rfl rfl hO inferInstance inferInstance rfl (by first | omega | (simp; omega)) (fun w hO => ?_)
          refine WPL.as (v := .int .u32 _) rfl rfl ?_
          refine WPL.nil ?_
          refine WP.region ?_
          refine WPL.addI rfl rfl (by omega) rfl ?_
          refine WPL.mv (v := .int .i64 _) rfl rfl ?_
          refine WPL.nil ?_
          first
          | (have st := add_next (l := l) (l2 := l2) (c := q) (show i < l.length + 1 by omega) ho hwo hw hw2 hq (y := 0) (getD_ge (by omega)) hv
             exact ⟨m - 1, by omega, i + 1, _, _, by omega, st.1, st.2.1, st.2.2.1, st.2.2.2, ⟨rfl, rfl, rfl, rfl, rfl, rfl, trivial⟩, rfl, hO⟩)
          | (have st := add_next (l := l) (l2 := l2) (c := q) (show i < l.length + 1 by omega) ho hwo hw hw2 hq (y := l2.getD i 0) (rfl) hv
             exact ⟨m - 1, by omega, i + 1, _, _, by omega, st.1, st.2.1, st.2.2.1, st.2.2.2, ⟨rfl, rfl, rfl, rfl, rfl, rfl, trivial⟩, rfl, hO⟩)
        · refine WP.skip ?_
          refine WP.region ?_
          refine WPL.mv (v := .slice _ _ _) rfl rfl ?_
          refine WPL.mv (v := .int .i64 _) rfl rfl ?_
          refine WPL.mv (v := .slice _ _ _) rfl rfl ?_
          refine WPL.mv (v := .int .i64 _) rfl rfl ?_
          refine WPL.ixR rfl hO inferInstance rfl rfl (by first | omega | (simp; omega)) (by first | omega | (simp; omega)) rfl ?_
          refine WPL.ldR rfl hO inferInstance (ws_get1 rfl (by omega)) rfl rfl ?_
          refine WPL.mv (v := .int .u32 _) rfl rfl ?_
          refine WPL.mv (v := .int .u32 _) rfl rfl ?_
          refine WPL.call rfl (add32 _ _ _ (by first | assumption | exact Wd.get (by assumption) _ | omega | decide) (by first | assumption | exact Wd.get (by assumption) _ | omega | decide) (by omega)) Tryd.func79 rfl rfl rfl ?_
          rintro _ _ ⟨rfl, rfl⟩
          refine WPL.mv (v := .tuple #[.int .u32 _, .int .u32 _]) rfl rfl ?_
          refine WPL.ext (v := .int .u32 _) rfl rfl rfl ?_
          refine WPL.ext (v := .int .u32 _) rfl rfl rfl ?_
          refine WPL.ixL rfl rfl rfl (by omega) rfl ?_
          refine WPL.stW rfl rfl rfl hO inferInstance inferInstance rfl (by first | omega | (simp; omega)) (fun w hO => ?_)
          refine WPL.as (v := .int .u32 _) rfl rfl ?_
          refine WPL.nil ?_
          refine WP.region ?_
          refine WPL.addI rfl rfl (by omega) rfl ?_
          refine WPL.mv (v := .int .i64 _) rfl rfl ?_
          refine WPL.nil ?_
          first
          | (have st := add_next (l := l) (l2 := l2) (c := q) (show i < l.length + 1 by omega) ho hwo hw hw2 hq (y := 0) (getD_ge (by omega)) hv
             exact ⟨m - 1, by omega, i + 1, _, _, by omega, st.1, st.2.1, st.2.2.1, st.2.2.2, ⟨rfl, rfl, rfl, rfl, rfl, rfl, trivial⟩, rfl, hO⟩)
          | (have st := add_next (l := l) (l2 := l2) (c := q) (show i < l.length + 1 by omega) ho hwo hw hw2 hq (y := l2.getD i 0) (rfl) hv
             exact ⟨m - 1, by omega, i + 1, _, _, by omega, st.1, st.2.1, st.2.2.1, st.2.2.2, ⟨rfl, rfl, rfl, rfl, rfl, rfl, trivial⟩, rfl, hO⟩)
      · refine WP.exit ?_
        refine WP.rs ?_
        refine WPL.mv (v := .slice _ _ _) rfl rfl ?_
        refine WPL.mv (v := .slice _ _ _) rfl rfl ?_
        refine WPL.len rfl rfl ?_
        refine WPL.mv (v := .int .u32 _) rfl rfl ?_
        refine WPL.ixL rfl rfl rfl (by omega) rfl ?_
        refine WPL.stW rfl rfl rfl hO inferInstance inferInstance rfl (by first | omega | (simp; omega)) (fun w hO => ?_)
        refine WPL.nil ?_
        refine WP.rs ?_
        refine WPL.mv (v := .slice _ _ _) rfl rfl ?_
        refine WPL.as (v := .slice _ _ _) rfl rfl ?_
        refine WPL.nil ?_
        refine WP.ret ?_
        refine ⟨rfl, ?_⟩
        refine RO.tmp (v := .slice _ _ _) rfl ?_
        refine RO.nil ?_
        have e : i = l.length := by omega
        subst e
        rw [List.take_length, List.take_of_length_le (show l2.length ≤ l.length by omega)] at hv
        have hv2 := add_end ho hv
        refine ⟨hO.fr, l.length + 1, by omega, hO.giveW inferInstance (by simp [ho]) (hwo.set _ (by omega)) hv2⟩

theorem dyad_both {w0 : World} (ht : TabOk tabs w0) (d1 : Dy) (a1 : Option Addr) (c1 : Nat) (hr1 : RowOk w0 [] ⟨a1, ws .u32 (dig d1.m)⟩) (hc1 : (dig d1.m).length ≤ c1) (hk1 : d1.Can) (hb1 : blen d1.m ≤ 262144 ∧ -700000 ≤ d1.e ∧ d1.e ≤ 700000) (d2 : Dy) (a2 : Option Addr) (c2 : Nat) (hr2 : RowOk w0 [] ⟨a2, ws .u32 (dig d2.m)⟩) (hc2 : (dig d2.m).length ≤ c2) (hk2 : d2.Can) (hb2 : blen d2.m ≤ 262144 ∧ -700000 ≤ d2.e ∧ d2.e ≤ 700000) : Spec Tryd.prog 58 [dyV d1 a1 c1, dyV d2 a2 c2] w0 (fun v w' => FrX [] w0 w' ∧ ∃ b1 e1 b2 e2 G1 G2, v = .tuple #[dyV d1 b1 e1, dyV d2 b2 e2, .int .i64 0] ∧ (dig d1.m).length ≤ e1 ∧ (dig d2.m).length ≤ e2 ∧ Grown b1 e1 1 (ws .u32 (dig d1.m)) 60 G1 ∧ Grown b2 e2 1 (ws .u32 (dig d2.m)) 60 G2 ∧ Owns w0 w' (G2 ++ G1)) := by
  have hO : Own tabs w0 [] [] [⟨a1, ws .u32 (dig d1.m)⟩, ⟨a2, ws .u32 (dig d2.m)⟩] w0 := Own.start ht (by
      simp only [List.mem_cons, List.not_mem_nil, or_false]
      rintro r (rfl | rfl)
      · exact hr1
      · exact hr2)
  have hl1 := len_blen (k := 8192) (show blen d1.m ≤ 32 * 8192 by omega)
  have hl2 := len_blen (k := 8192) (show blen d2.m ≤ 32 * 8192 by omega)
  obtain ⟨s1, m1, x1⟩ := d1
  obtain ⟨s2, m2, x2⟩ := d2
  simp only at hr1 hc1 hb1 hr2 hc2 hb2 hO hl1 hl2
  unfold dyV
  simp only
  refine Spec.enter (n := 32) (rs := [.cell 4 34, .cell 5 34, .tmp 6]) Tryd.func58 rfl rfl rfl rfl ?_
  refine WP.rs ?_
  refine WPL.bx (v := .agg #[.bool _, .slice _ _ _, .int .i64 _]) rfl rfl hO rfl (fun b1 w hO => ?_)
  refine WPL.bx (v := .agg #[.bool _, .slice _ _ _, .int .i64 _]) rfl rfl hO rfl (fun b2 w hO => ?_)
  refine WPL.al hO rfl (fun b3 w hO => ?_)
  refine WPL.al hO rfl (fun b4 w hO => ?_)
  refine WPL.as (v := .int .i64 0) rfl rfl ?_
  refine WPL.nil ?_
  refine WP.rs ?_
  refine WPL.fa rfl rfl ?_
  refine WPL.ldL rfl hO inferInstance rfl rfl rfl ?_
  refine WPL.fa rfl rfl ?_
  refine WPL.ldL rfl hO inferInstance rfl rfl rfl ?_
  refine WPL.fa rfl rfl ?_
  refine WPL.ldL rfl hO inferInstance rfl rfl rfl ?_
  refine WPL.call rfl (dyad_form hO.tab s1 _ (dig m1) _ hO.rd (dig_wd _) hc1 rfl (by omega) x1 (by rw [val_dig]; omega) (by omega)) Tryd.func57 rfl rfl rfl ?_
  rintro _ w ⟨hf14, a14, c14, rfl, hc14, hr14⟩
  rw [val_dig, (show Dy.fm s1 m1 x1 = _ from hk1)] at hc14 hr14
  rw [val_dig, (show Dy.fm s1 m1 x1 = _ from hk1)]
  obtain ⟨G14, hG14, hO⟩ := hO.resL hf14 hr14
  unfold dyV
  refine WPL.mv (v := .tuple #[.agg #[.bool _, .slice _ _ _, .int .i64 _], .int .i64 _]) rfl rfl ?_
  refine WPL.ext (v := .agg #[.bool _, .slice _ _ _, .int .i64 _]) rfl rfl rfl ?_
  refine WPL.ext (v := .int .i64 _) rfl rfl rfl ?_
  refine WPL.stLA (T := T34) rfl rfl hO inferInstance inferInstance (by simp [Value.oneCell']) rfl rfl (fun w hO => ?_)
  refine WPL.as (v := .int .i64 _) rfl rfl ?_
  refine WPL.nil ?_
  refine WP.seq ?_
  refine WP.rs ?_
  refine WPL.mv (v := .int .i64 _) rfl rfl ?_
  refine WPL.eq rfl rfl rfl ?_
  refine WPL.nil ?_
  refine WP.condP rfl (fun h1 => ?_) (fun h1 => ?_)
  · refine WP.region ?_
    refine WPL.fa rfl rfl ?_
    refine WPL.ldL rfl hO inferInstance rfl rfl rfl ?_
    refine WPL.fa rfl rfl ?_
    refine WPL.ldL rfl hO inferInstance rfl rfl rfl ?_
    refine WPL.fa rfl rfl ?_
    refine WPL.ldL rfl hO inferInstance rfl rfl rfl ?_
    refine WPL.call rfl (dyad_form hO.tab s2 _ (dig m2) _ hO.rd (dig_wd _) hc2 rfl (by omega) x2 (by rw [val_dig]; omega) (by omega)) Tryd.func57 rfl rfl rfl ?_
    rintro _ w ⟨hf26, a26, c26, rfl, hc26, hr26⟩
    rw [val_dig, (show Dy.fm s2 m2 x2 = _ from hk2)] at hc26 hr26
    rw [val_dig, (show Dy.fm s2 m2 x2 = _ from hk2)]
    obtain ⟨G26, hG26, hO⟩ := hO.resL hf26 hr26
    unfold dyV
    refine WPL.mv (v := .tuple #[.agg #[.bool _, .slice _ _ _, .int .i64 _], .int .i64 _]) rfl rfl ?_
    refine WPL.ext (v := .agg #[.bool _, .slice _ _ _, .int .i64 _]) rfl rfl rfl ?_
    refine WPL.ext (v := .int .i64 _) rfl rfl rfl ?_
    refine WPL.stLA (T := T34) rfl rfl hO inferInstance inferInstance (by simp [Value.oneCell']) rfl rfl (fun w hO => ?_)
    refine WPL.as (v := .int .i64 _) rfl rfl ?_
    refine WPL.nil ?_
    refine WP.seq ?_
    refine WP.drawE 6 [3, 4] mixed (by kernel_rfl) rfl hO (fun w hO => ?_)
    refine WPE.val (i := 0) (by kernel_rfl) rfl rfl (fun w hO k' h => WPL.ldLA (T := T34) [.bool _, .slice _ _ _, .int .i64 _] rfl hO inferInstance rfl agg34 rfl rfl (WPL.nil h)) ?_
    refine WPE.pv (i := 2) (by kernel_rfl) rfl rfl (fun w k' h => WPL.mv (v := .int .i64 _) rfl rfl (WPL.nil h)) ?_
    refine WPE.fork2 (i := 1) (j := 3) (by kernel_rfl) rfl rfl (.inr hO) ?_ ?_
    · refine WPL.ldLA (T := T34) [.bool _, .slice _ _ _, .int .i64 _] rfl hO inferInstance rfl agg34 rfl rfl ?_
      refine WPL.nil ?_
      refine WPE.eff (i := 3) (by kernel_rfl) rfl hO ?_
      refine WPL.stLA (T := T34) rfl rfl hO inferInstance inferInstance (by simp [Value.oneCell']) rfl rfl (fun w hO => ?_)
      refine WPL.nil ?_
      refine WPE.effX (i := 4) (by kernel_rfl) rfl (by kernel_rfl) ?_
      refine WPL.stLA (T := T34) rfl rfl hO inferInstance inferInstance (by simp [Value.oneCell']) rfl rfl (fun w hO => ?_)
      refine WPL.nil ?_
      refine WPE.pv (i := 5) (by kernel_rfl) rfl rfl (fun w k' h => WPL.as (v := .int .i64 _) rfl rfl (WPL.nil h)) ?_
      refine WPE.nilX (by kernel_rfl) (by kernel_rfl) ?_
      refine WP.ret ?_
      refine ⟨rfl, ?_⟩
      refine RO.cell (T := T34) [.bool _, .slice _ _ _, .int .i64 _] rfl hO inferInstance rfl agg34 rfl ?_
      refine RO.cell (T := T34) [.bool _, .slice _ _ _, .int .i64 _] rfl hO inferInstance rfl agg34 rfl ?_
      refine RO.tmp (v := .int .i64 _) rfl ?_
      refine RO.nil ?_
      exact ⟨hO.fr, a14, c14, a26, c26, G14, G26, rfl, hc14, hc26, hG14, hG26, hO.giveS (G26 ++ G14)⟩
    · refine WPL.stLA (T := T34) rfl rfl hO inferInstance inferInstance (by simp [Value.oneCell']) rfl rfl (fun w hO => ?_)
      refine WPL.nil ?_
      refine WPE.effX (i := 1) (by kernel_rfl) rfl (by kernel_rfl) ?_
      refine WPL.ldLA (T := T34) [.bool _, .slice _ _ _, .int .i64 _] rfl hO inferInstance rfl agg34 rfl rfl ?_
      refine WPL.nil ?_
      refine WPE.effX (i := 4) (by kernel_rfl) rfl (by kernel_rfl) ?_
      refine WPL.stLA (T := T34) rfl rfl hO inferInstance inferInstance (by simp [Value.oneCell']) rfl rfl (fun w hO => ?_)
      refine WPL.nil ?_
      refine WPE.pv (i := 5) (by kernel_rfl) rfl rfl (fun w k' h => WPL.as (v := .int .i64 _) rfl rfl (WPL.nil h)) ?_
      refine WPE.nilX (by kernel_rfl) (by kernel_rfl) ?_
      refine WP.ret ?_
      refine ⟨rfl, ?_⟩
      refine RO.cell (T := T34) [.bool _, .slice _ _ _, .int .i64 _] rfl hO inferInstance rfl agg34 rfl ?_
      refine RO.cell (T := T34) [.bool _, .slice _ _ _, .int .i64 _] rfl hO inferInstance rfl agg34 rfl ?_
      refine RO.tmp (v := .int .i64 _) rfl ?_
      refine RO.nil ?_
      exact ⟨hO.fr, a14, c14, a26, c26, G14, G26, rfl, hc14, hc26, hG14, hG26, hO.giveS (G26 ++ G14)⟩
  · exact absurd rfl h1

theorem dyad_Add {w0 : World} (ht : TabOk tabs w0) (d1 : Dy) (a1 : Option Addr) (c1 : Nat) (hr1 : RowOk w0 [] ⟨a1, ws .u32 (dig d1.m)⟩) (hc1 : (dig d1.m).length ≤ c1) (hk1 : d1.Can) (hb1 : d1.B 80000) (d2 : Dy) (a2 : Option Addr) (c2 : Nat) (hr2 : RowOk w0 [] ⟨a2, ws .u32 (dig d2.m)⟩) (hc2 : (dig d2.m).length ≤ c2) (hk2 : d2.Can) (hb2 : d2.B 80000) : Spec Tryd.prog 43 [dyV d1 a1 c1, dyV d2 a2 c2] w0 (fun v w' => FrX [] w0 w' ∧ DyErr w0 w' 60 (Dy.add d1 d2) v) := by
  have hO : Own tabs w0 [] [] [⟨a1, ws .u32 (dig d1.m)⟩, ⟨a2, ws .u32 (dig d2.m)⟩] w0 := Own.start ht (by
      simp only [List.mem_cons, List.not_mem_nil, or_false]
      rintro r (rfl | rfl)
      · exact hr1
      · exact hr2)
  have hl1 := len_blen (k := 8192) (show blen d1.m ≤ 32 * 8192 by unfold Dy.B at *; omega)
  have hl2 := len_blen (k := 8192) (show blen d2.m ≤ 32 * 8192 by unfold Dy.B at *; omega)
  have hb1' := hb1
  have hb2' := hb2
  unfold Dy.B at hb1' hb2'
  unfold dyV
  refine Spec.enter (n := 108) (rs := [.cell 4 34, .tmp 5]) Tryd.func43 rfl rfl rfl rfl ?_
  refine WP.rs ?_
  refine WPL.bx (v := .agg #[.bool _, .slice _ _ _, .int .i64 _]) rfl rfl hO rfl (fun b1 w hO => ?_)
  refine WPL.bx (v := .agg #[.bool _, .slice _ _ _, .int .i64 _]) rfl rfl hO rfl (fun b2 w hO => ?_)
  refine WPL.al hO rfl (fun b3 w hO => ?_)
  refine WPL.as (v := .int .i64 0) rfl rfl ?_
  refine WPL.nil ?_
  refine WP.rs ?_
  refine WPL.ldLA (T := T34) [.bool _, .slice _ _ _, .int .i64 _] rfl hO inferInstance rfl agg34 rfl rfl ?_
  refine WPL.ldLA (T := T34) [.bool _, .slice _ _ _, .int .i64 _] rfl hO inferInstance rfl agg34 rfl rfl ?_
  refine WPL.call rfl (dyad_both hO.tab d1 _ _ hO.rd hc1 hk1 (by unfold Dy.B at *; omega) d2 _ _ hO.rd hc2 hk2 (by unfold Dy.B at *; omega)) Tryd.func58 rfl rfl rfl ?_
  rintro _ w ⟨hf, p1, q1, p2, q2, GG1, GG2, rfl, hq1, hq2, hg1, hg2, hgg⟩
  have hO := hO.resLs hf hgg
  rw [List.append_assoc] at hO
  unfold dyV
  refine WPL.mv (v := .tuple #[.agg #[.bool _, .slice _ _ _, .int .i64 _], .agg #[.bool _, .slice _ _ _, .int .i64 _], .int .i64 _]) rfl rfl ?_
  refine WPL.ext (v := .agg #[.bool _, .slice _ _ _, .int .i64 _]) rfl rfl rfl ?_
  refine WPL.ext (v := .agg #[.bool _, .slice _ _ _, .int .i64 _]) rfl rfl rfl ?_
  refine WPL.ext (v := .int .i64 _) rfl rfl rfl ?_
  refine WPL.al hO rfl (fun b4 w hO => ?_)
  refine WPL.al hO rfl (fun b5 w hO => ?_)
  refine WPL.stLA (T := T34) rfl rfl hO inferInstance inferInstance (by simp [Value.oneCell']) rfl rfl (fun w hO => ?_)
  refine WPL.stLA (T := T34) rfl rfl hO inferInstance inferInstance (by simp [Value.oneCell']) rfl rfl (fun w hO => ?_)
  refine WPL.as (v := .int .i64 _) rfl rfl ?_
  refine WPL.nil ?_
  refine WP.seq ?_
  refine WP.block ?_
  refine WP.rs ?_
  refine WPL.mv (v := .int .i64 _) rfl rfl ?_
  refine WPL.ne rfl rfl rfl ?_
  refine WPL.as (v := .bool _) rfl rfl ?_
  refine WPL.nil ?_
  refine WP.condP rfl (fun h1 => ?_) (fun h1 => ?_)
  · exact absurd rfl h1
  · refine WP.rs ?_
    refine WPL.fa rfl rfl ?_
    refine WPL.ldL rfl hO inferInstance rfl rfl rfl ?_
    refine WPL.len rfl rfl ?_
    refine WPL.eq rfl rfl rfl ?_
    refine WPL.as (v := .bool _) rfl rfl ?_
    refine WPL.nil ?_
    refine WP.condP rfl (fun h2 => ?_) (fun h2 => ?_)
    · refine WP.rs ?_
      refine WPL.ldLA (T := T34) [.bool _, .slice _ _ _, .int .i64 _] rfl hO inferInstance rfl agg34 rfl rfl ?_
      refine WPL.stLA (T := T34) rfl rfl hO inferInstance inferInstance (by simp [Value.oneCell']) rfl rfl (fun w hO => ?_)
      refine WPL.as (v := .int .i64 0) rfl rfl ?_
      refine WPL.nil ?_
      refine WP.ret ?_
      refine ⟨rfl, ?_⟩
      refine RO.cell (T := T34) [.bool _, .slice _ _ _, .int .i64 _] rfl hO inferInstance rfl agg34 rfl ?_
      refine RO.tmp (v := .int .i64 _) rfl ?_
      refine RO.nil ?_
      have e0 := dig_len_zero (by omega : (dig d1.m).length = 0)
      exact ⟨hO.fr, p2, q2, by rw [Dy.add, if_pos e0]; rfl, by rw [Dy.add, if_pos e0]; exact hq2, by rw [Dy.add, if_pos e0]; exact hO.giveG hg2⟩
    · refine WP.rs ?_
      refine WPL.fa rfl rfl ?_
      refine WPL.ldL rfl hO inferInstance rfl rfl rfl ?_
      refine WPL.len rfl rfl ?_
      refine WPL.eq rfl rfl rfl ?_
      refine WPL.as (v := .bool _) rfl rfl ?_
      refine WPL.nil ?_
      refine WP.condP rfl (fun h3 => ?_) (fun h3 => ?_)
      · refine WP.rs ?_
        refine WPL.ldLA (T := T34) [.bool _, .slice _ _ _, .int .i64 _] rfl hO inferInstance rfl agg34 rfl rfl ?_
        refine WPL.stLA (T := T34) rfl rfl hO inferInstance inferInstance (by simp [Value.oneCell']) rfl rfl (fun w hO => ?_)
        refine WPL.as (v := .int .i64 0) rfl rfl ?_
        refine WPL.nil ?_
        refine WP.ret ?_
        refine ⟨rfl, ?_⟩
        refine RO.cell (T := T34) [.bool _, .slice _ _ _, .int .i64 _] rfl hO inferInstance rfl agg34 rfl ?_
        refine RO.tmp (v := .int .i64 _) rfl ?_
        refine RO.nil ?_
        have e0 := dig_len_zero (by omega : (dig d2.m).length = 0)
        have e1 : d1.m ≠ 0 := fun e => h2 (by rw [e, dig_zero]; rfl)
        exact ⟨hO.fr, p1, q1, by rw [Dy.add, if_neg e1, if_pos e0]; rfl, by rw [Dy.add, if_neg e1, if_pos e0]; exact hq1, by rw [Dy.add, if_neg e1, if_pos e0]; exact hO.giveG hg1⟩
      · refine WP.skip ?_
        refine WP.rs ?_
        refine WPL.fa rfl rfl ?_
        refine WPL.ldL rfl hO inferInstance rfl rfl rfl ?_
        refine WPL.fa rfl rfl ?_
        refine WPL.ldL rfl hO inferInstance rfl rfl rfl ?_
        refine WPL.min2 rfl rfl rfl ?_
        refine WPL.as (v := .int .i64 _) rfl rfl ?_
        refine WPL.nil ?_
        refine WP.rs ?_
        refine WPL.fa rfl rfl ?_
        refine WPL.ldL rfl hO inferInstance rfl rfl rfl ?_
        refine WPL.fa rfl rfl ?_
        refine WPL.ldL rfl hO inferInstance rfl rfl rfl ?_
        refine WPL.mv (v := .int .i64 _) rfl rfl ?_
        refine WPL.subI rfl rfl (by omega) rfl ?_
        refine WPL.call rfl (wide_Shift _ (dig d1.m) _ (hO.rdG hg1) (dig_wd _) (by omega) rfl (by omega) (d1.e - min d1.e d2.e) (by rw [val_dig]; omega) (by omega) (by rw [val_dig]; omega)) Tryd.func59 rfl rfl rfl ?_
        rintro _ w ⟨hf51, a51, c51, rfl, hc51, hr51⟩
        have hO := hO.res hf51 hr51
        simp only [val_dig] at hO hc51 ⊢
        have hbs1 := @blen_shift d1.m (d1.e - min d1.e d2.e) (by omega)
        have hls1 := len_blen (k := 8192) (show blen (shiftN d1.m (d1.e - min d1.e d2.e)) ≤ 32 * 8192 by omega)
        refine WPL.mv (v := .tuple #[.slice _ _ _, .int .i64 _]) rfl rfl ?_
        refine WPL.ext (v := .slice _ _ _) rfl rfl rfl ?_
        refine WPL.ext (v := .int .i64 _) rfl rfl rfl ?_
        refine WPL.as (v := .slice _ _ _) rfl rfl ?_
        refine WPL.as (v := .int .i64 _) rfl rfl ?_
        refine WPL.nil ?_
        refine WP.rs ?_
        refine WPL.fa rfl rfl ?_
        refine WPL.ldL rfl hO inferInstance rfl rfl rfl ?_
        refine WPL.fa rfl rfl ?_
        refine WPL.ldL rfl hO inferInstance rfl rfl rfl ?_
        refine WPL.mv (v := .int .i64 _) rfl rfl ?_
        refine WPL.subI rfl rfl (by omega) rfl ?_
        refine WPL.call rfl (wide_Shift _ (dig d2.m) _ (hO.rdG hg2) (dig_wd _) (by omega) rfl (by omega) (d2.e - min d1.e d2.e) (by rw [val_dig]; omega) (by omega) (by rw [val_dig]; omega)) Tryd.func59 rfl rfl rfl ?_
        rintro _ w ⟨hf61, a61, c61, rfl, hc61, hr61⟩
        have hO := hO.res hf61 hr61
        simp only [val_dig] at hO hc61 ⊢
        have hbs2 := @blen_shift d2.m (d2.e - min d1.e d2.e) (by omega)
        have hls2 := len_blen (k := 8192) (show blen (shiftN d2.m (d2.e - min d1.e d2.e)) ≤ 32 * 8192 by omega)
        refine WPL.mv (v := .tuple #[.slice _ _ _, .int .i64 _]) rfl rfl ?_
        refine WPL.ext (v := .slice _ _ _) rfl rfl rfl ?_
        refine WPL.ext (v := .int .i64 _) rfl rfl rfl ?_
        refine WPL.as (v := .slice _ _ _) rfl rfl ?_
        refine WPL.as (v := .int .i64 _) rfl rfl ?_
        refine WPL.nil ?_
        refine WP.seq ?_
        refine WP.block ?_
        refine WP.rs ?_
        refine WPL.mv (v := .int .i64 _) rfl rfl ?_
        refine WPL.ne rfl rfl rfl ?_
        refine WPL.mv (v := .bool _) rfl rfl ?_
        refine WPL.split (s := 67) rfl (fun h4 => ?_) (fun h4 => ?_)
        · have ph4 := of_decide_eq_true h4
          exact absurd (of_decide_eq_true h4) (by simp)
        · have ph4 := of_decide_eq_false h4
          refine WPL.guardT rfl rfl h4 ?_
          refine WPL.mv (v := .int .i64 _) rfl rfl ?_
          refine WPL.guardT rfl rfl h4 ?_
          refine WPL.ne rfl rfl rfl ?_
          refine WPL.pkF (v := .bool _) rfl h4 rfl rfl ?_
          refine WPL.as (v := .bool _) rfl rfl ?_
          refine WPL.nil ?_
          refine WP.condP rfl (fun h5 => ?_) (fun h5 => ?_)
          · exact absurd h5 (by simp)
          · refine WP.rs ?_
            refine WPL.fa rfl rfl ?_
            refine WPL.ldL rfl hO inferInstance rfl rfl rfl ?_
            refine WPL.fa rfl rfl ?_
            refine WPL.ldL rfl hO inferInstance rfl rfl rfl ?_
            refine WPL.eqB rfl rfl rfl ?_
            refine WPL.as (v := .bool _) rfl rfl ?_
            refine WPL.nil ?_
            refine WP.condB rfl (fun h6 => ?_) (fun h6 => ?_)
            · refine WP.seq ?_
              refine WP.draw [(0, 0), (1, 1), (2, 0), (3, 0), (5, 0), (4, 2), (6, 2), (7, 0), (8, 0), (9, 2), (10, 0)] [9] mixed (by kernel_rfl) (by kernel_rfl) rfl hO (fun w hO => ?_)
              refine WPD.pv rfl rfl (fun w k' h => WPL.fa rfl rfl (WPL.nil h)) ?_
              refine WPD.val rfl rfl (fun w hO k' h => WPL.ldL rfl hO inferInstance rfl rfl rfl (WPL.nil h)) ?_
              refine WPD.pv rfl rfl (fun w k' h => WPL.mv (v := .slice _ _ _) rfl rfl (WPL.nil h)) ?_
              refine WPD.pv rfl rfl (fun w k' h => WPL.mv (v := .slice _ _ _) rfl rfl (WPL.nil h)) ?_
              refine WPD.pv rfl rfl (fun w k' h => WPL.mv (v := .int .i64 _) rfl rfl (WPL.nil h)) ?_
              refine WPD.eff rfl hO ?_
              refine WPL.call rfl (dyad_sum _ (dig (shiftN d1.m (d1.e - min d1.e d2.e))) _ hO.rd (dig_wd _) (by omega) rfl (by omega) _ (dig (shiftN d2.m (d2.e - min d1.e d2.e))) _ hO.rd (dig_wd _) (by omega) rfl (by omega) (by omega) (by omega)) Tryd.func60 rfl rfl rfl ?_
              rintro _ w ⟨hf82, k82, hk82, a82, c82, o82, rfl, hc82, ho82, hw82, hv82, hr82⟩
              have hO := hO.res hf82 hr82
              simp only [val_dig] at hv82
              have hba := blen_add (k := 260000) (a := shiftN d1.m (d1.e - min d1.e d2.e)) (b := shiftN d2.m (d2.e - min d1.e d2.e)) (by omega) (by omega)
              refine WPL.nil ?_
              refine WPD.eff rfl (Own.dropR hO) ?_
              refine WPL.call rfl (dyad_form hO.tab (d1.s) _ (o82) _ hO.rd hw82 (by omega) (by first | omega | (simp; omega)) (by omega) (min d1.e d2.e) (by rw [hv82]; omega) (by omega)) Tryd.func57 rfl rfl rfl ?_
              rintro _ w ⟨hf84, a84, c84, rfl, hc84, hr84⟩
              rw [hv82] at hc84 hr84
              obtain ⟨G84, hG84, hO⟩ := hO.resL hf84 hr84
              simp only [hv82]
              unfold dyV
              refine WPL.nil ?_
              refine WPD.pv rfl rfl (fun w k' h => WPL.ext (v := .agg #[.bool _, .slice _ _ _, .int .i64 _]) rfl rfl rfl (WPL.nil h)) ?_
              refine WPD.pv rfl rfl (fun w k' h => WPL.ext (v := .int .i64 _) rfl rfl rfl (WPL.nil h)) ?_
              refine WPD.eff rfl (Own.dropR (Own.drop hO)) ?_
              refine WPL.stLA (T := T34) rfl rfl hO inferInstance inferInstance (by simp [Value.oneCell']) rfl rfl (fun w hO => ?_)
              refine WPL.nil ?_
              refine WPD.pv rfl rfl (fun w k' h => WPL.as (v := .int .i64 _) rfl rfl (WPL.nil h)) ?_
              refine WPD.nilX (by kernel_rfl) ?_
              refine WP.ret ?_
              refine ⟨rfl, ?_⟩
              refine RO.cell (T := T34) [.bool _, .slice _ _ _, .int .i64 _] rfl hO inferInstance rfl agg34 rfl ?_
              refine RO.tmp (v := .int .i64 _) rfl ?_
              refine RO.nil ?_
              have e1 : d1.m ≠ 0 := fun e => h2 (by rw [e, dig_zero]; rfl)
              have e2 : d2.m ≠ 0 := fun e => h3 (by rw [e, dig_zero]; rfl)
              rw [Dy.add_same e1 e2 (by simpa using h6)]
              exact ⟨hO.fr, a84, c84, rfl, hc84, hO.giveG hG84⟩
            · refine WP.rs ?_
              refine WPL.mv (v := .slice _ _ _) rfl rfl ?_
              refine WPL.mv (v := .slice _ _ _) rfl rfl ?_
              refine WPL.call rfl (wide_Cmp _ (dig (shiftN d1.m (d1.e - min d1.e d2.e))) _ hO.rd (dig_wd _) (by omega) rfl (by omega) _ (dig (shiftN d2.m (d2.e - min d1.e d2.e))) _ hO.rd (dig_wd _) (by omega) rfl (by omega)) Tryd.func61 rfl rfl rfl ?_
              rintro _ w ⟨rfl, hf90⟩
              have hO := hO.call hf90
              simp only [val_dig]
              refine WPL.lt rfl rfl rfl ?_
              refine WPL.as (v := .bool _) rfl rfl ?_
              refine WPL.nil ?_
              refine WP.condP rfl (fun h7 => ?_) (fun h7 => ?_)
              · have h7 := cmpN_neg.1 h7
                refine WP.region ?_
                refine WPL.ldLA (T := T34) [.bool _, .slice _ _ _, .int .i64 _] rfl hO inferInstance rfl agg34 rfl rfl ?_
                refine WPL.mv (v := .slice _ _ _) rfl rfl ?_
                refine WPL.mv (v := .slice _ _ _) rfl rfl ?_
                refine WPL.stLA (T := T34) rfl rfl hO inferInstance inferInstance (by simp [Value.oneCell']) rfl rfl (fun w hO => ?_)
                refine WPL.as (v := .slice _ _ _) rfl rfl ?_
                refine WPL.as (v := .slice _ _ _) rfl rfl ?_
                refine WPL.nil ?_
                refine WP.rs ?_
                refine WPL.mv (v := .slice _ _ _) rfl rfl ?_
                refine WPL.mv (v := .slice _ _ _) rfl rfl ?_
                refine WPL.call rfl (wide_Sub _ (dig (shiftN d2.m (d2.e - min d1.e d2.e))) _ hO.rd (dig_wd _) (by omega) rfl (by omega) _ (dig (shiftN d1.m (d1.e - min d1.e d2.e))) _ hO.rd (dig_wd _) (by omega) rfl (by omega) (by rw [val_dig]; omega) (by rw [val_dig]; omega) (by simp only [val_dig]; omega)) Tryd.func62 rfl rfl rfl ?_
                rintro _ w ⟨hf98, a98, c98, rfl, hc98, hr98⟩
                have hO := hO.res hf98 hr98
                simp only [val_dig] at hO hc98 ⊢
                have hbm := blen_mono (Nat.sub_le (shiftN d2.m (d2.e - min d1.e d2.e)) (shiftN d1.m (d1.e - min d1.e d2.e)))
                have hlm := len_blen (k := 8192) (show blen (shiftN d2.m (d2.e - min d1.e d2.e) - shiftN d1.m (d1.e - min d1.e d2.e)) ≤ 32 * 8192 by omega)
                refine WPL.mv (v := .tuple #[.slice _ _ _, .int .i64 _]) rfl rfl ?_
                refine WPL.ext (v := .slice _ _ _) rfl rfl rfl ?_
                refine WPL.ext (v := .int .i64 _) rfl rfl rfl ?_
                refine WPL.as (v := .slice _ _ _) rfl rfl ?_
                refine WPL.as (v := .int .i64 _) rfl rfl ?_
                refine WPL.nil ?_
                refine WP.rs ?_
                refine WPL.fa rfl rfl ?_
                refine WPL.ldL rfl hO inferInstance rfl rfl rfl ?_
                refine WPL.mv (v := .slice _ _ _) rfl rfl ?_
                refine WPL.mv (v := .int .i64 _) rfl rfl ?_
                refine WPL.call rfl (dyad_form hO.tab (d2.s) _ (dig (shiftN d2.m (d2.e - min d1.e d2.e) - shiftN d1.m (d1.e - min d1.e d2.e))) _ hO.rd (dig_wd _) (by omega) (by first | omega | (simp; omega)) (by omega) (min d1.e d2.e) (by rw [val_dig]; omega) (by omega)) Tryd.func57 rfl rfl rfl ?_
                rintro _ w ⟨hf105, a105, c105, rfl, hc105, hr105⟩
                rw [val_dig] at hc105 hr105
                obtain ⟨G105, hG105, hO⟩ := hO.resL hf105 hr105
                simp only [val_dig]
                unfold dyV
                refine WPL.ext (v := .agg #[.bool _, .slice _ _ _, .int .i64 _]) rfl rfl rfl ?_
                refine WPL.ext (v := .int .i64 _) rfl rfl rfl ?_
                refine WPL.stLA (T := T34) rfl rfl hO inferInstance inferInstance (by simp [Value.oneCell']) rfl rfl (fun w hO => ?_)
                refine WPL.as (v := .int .i64 _) rfl rfl ?_
                refine WPL.nil ?_
                refine WP.ret ?_
                refine ⟨rfl, ?_⟩
                refine RO.cell (T := T34) [.bool _, .slice _ _ _, .int .i64 _] rfl hO inferInstance rfl agg34 rfl ?_
                refine RO.tmp (v := .int .i64 _) rfl ?_
                refine RO.nil ?_
                have e1 : d1.m ≠ 0 := fun e => h2 (by rw [e, dig_zero]; rfl)
                have e2 : d2.m ≠ 0 := fun e => h3 (by rw [e, dig_zero]; rfl)
                rw [Dy.add_lt e1 e2 (by simpa using h6) h7]
                exact ⟨hO.fr, a105, c105, rfl, hc105, hO.giveG hG105⟩
              · have h7 : ¬ (shiftN d1.m (d1.e - min d1.e d2.e) < shiftN d2.m (d2.e - min d1.e d2.e)) := fun e => h7 (cmpN_neg.2 e)
                refine WP.skip ?_
                refine WP.rs ?_
                refine WPL.mv (v := .slice _ _ _) rfl rfl ?_
                refine WPL.mv (v := .slice _ _ _) rfl rfl ?_
                refine WPL.call rfl (wide_Sub _ (dig (shiftN d1.m (d1.e - min d1.e d2.e))) _ hO.rd (dig_wd _) (by omega) rfl (by omega) _ (dig (shiftN d2.m (d2.e - min d1.e d2.e))) _ hO.rd (dig_wd _) (by omega) rfl (by omega) (by rw [val_dig]; omega) (by rw [val_dig]; omega) (by simp only [val_dig]; omega)) Tryd.func62 rfl rfl rfl ?_
                rintro _ w ⟨hf98, a98, c98, rfl, hc98, hr98⟩
                have hO := hO.res hf98 hr98
                simp only [val_dig] at hO hc98 ⊢
                have hbm := blen_mono (Nat.sub_le (shiftN d1.m (d1.e - min d1.e d2.e)) (shiftN d2.m (d2.e - min d1.e d2.e)))
                have hlm := len_blen (k := 8192) (show blen (shiftN d1.m (d1.e - min d1.e d2.e) - shiftN d2.m (d2.e - min d1.e d2.e)) ≤ 32 * 8192 by omega)
                refine WPL.mv (v := .tuple #[.slice _ _ _, .int .i64 _]) rfl rfl ?_
                refine WPL.ext (v := .slice _ _ _) rfl rfl rfl ?_
                refine WPL.ext (v := .int .i64 _) rfl rfl rfl ?_
                refine WPL.as (v := .slice _ _ _) rfl rfl ?_
                refine WPL.as (v := .int .i64 _) rfl rfl ?_
                refine WPL.nil ?_
                refine WP.rs ?_
                refine WPL.fa rfl rfl ?_
                refine WPL.ldL rfl hO inferInstance rfl rfl rfl ?_
                refine WPL.mv (v := .slice _ _ _) rfl rfl ?_
                refine WPL.mv (v := .int .i64 _) rfl rfl ?_
                refine WPL.call rfl (dyad_form hO.tab (d1.s) _ (dig (shiftN d1.m (d1.e - min d1.e d2.e) - shiftN d2.m (d2.e - min d1.e d2.e))) _ hO.rd (dig_wd _) (by omega) (by first | omega | (simp; omega)) (by omega) (min d1.e d2.e) (by rw [val_dig]; omega) (by omega)) Tryd.func57 rfl rfl rfl ?_
                rintro _ w ⟨hf105, a105, c105, rfl, hc105, hr105⟩
                rw [val_dig] at hc105 hr105
                obtain ⟨G105, hG105, hO⟩ := hO.resL hf105 hr105
                simp only [val_dig]
                unfold dyV
                refine WPL.ext (v := .agg #[.bool _, .slice _ _ _, .int .i64 _]) rfl rfl rfl ?_
                refine WPL.ext (v := .int .i64 _) rfl rfl rfl ?_
                refine WPL.stLA (T := T34) rfl rfl hO inferInstance inferInstance (by simp [Value.oneCell']) rfl rfl (fun w hO => ?_)
                refine WPL.as (v := .int .i64 _) rfl rfl ?_
                refine WPL.nil ?_
                refine WP.ret ?_
                refine ⟨rfl, ?_⟩
                refine RO.cell (T := T34) [.bool _, .slice _ _ _, .int .i64 _] rfl hO inferInstance rfl agg34 rfl ?_
                refine RO.tmp (v := .int .i64 _) rfl ?_
                refine RO.nil ?_
                have e1 : d1.m ≠ 0 := fun e => h2 (by rw [e, dig_zero]; rfl)
                have e2 : d2.m ≠ 0 := fun e => h3 (by rw [e, dig_zero]; rfl)
                rw [Dy.add_ge e1 e2 (by simpa using h6) h7]
                exact ⟨hO.fr, a105, c105, rfl, hc105, hO.giveG hG105⟩

theorem dyad_Mul {w0 : World} (ht : TabOk tabs w0) (d1 : Dy) (a1 : Option Addr) (c1 : Nat) (hr1 : RowOk w0 [] ⟨a1, ws .u32 (dig d1.m)⟩) (hc1 : (dig d1.m).length ≤ c1) (hk1 : d1.Can) (hb1 : d1.B 80000) (d2 : Dy) (a2 : Option Addr) (c2 : Nat) (hr2 : RowOk w0 [] ⟨a2, ws .u32 (dig d2.m)⟩) (hc2 : (dig d2.m).length ≤ c2) (hk2 : d2.Can) (hb2 : d2.B 80000) : Spec Tryd.prog 45 [dyV d1 a1 c1, dyV d2 a2 c2] w0 (fun v w' => FrX [] w0 w' ∧ DyErr w0 w' 60 (Dy.mul d1 d2) v) := by
  have hO : Own tabs w0 [] [] [⟨a1, ws .u32 (dig d1.m)⟩, ⟨a2, ws .u32 (dig d2.m)⟩] w0 := Own.start ht (by
      simp only [List.mem_cons, List.not_mem_nil, or_false]
      rintro r (rfl | rfl)
      · exact hr1
      · exact hr2)
  have hl1 := len_blen (k := 8192) (show blen d1.m ≤ 32 * 8192 by unfold Dy.B at *; omega)
  have hl2 := len_blen (k := 8192) (show blen d2.m ≤ 32 * 8192 by unfold Dy.B at *; omega)
  have hb1' := hb1
  have hb2' := hb2
  unfold Dy.B at hb1' hb2'
  have hbm := @blen_mul d1.m d2.m
  have hlm := len_blen (k := 8192) (show blen (d1.m * d2.m) ≤ 32 * 8192 by omega)
  unfold dyV
  refine Spec.enter (n := 47) (rs := [.cell 4 34, .tmp 5]) Tryd.func45 rfl rfl rfl rfl ?_
  refine WP.rs ?_
  refine WPL.bx (v := .agg #[.bool _, .slice _ _ _, .int .i64 _]) rfl rfl hO rfl (fun b1 w hO => ?_)
  refine WPL.bx (v := .agg #[.bool _, .slice _ _ _, .int .i64 _]) rfl rfl hO rfl (fun b2 w hO => ?_)
  refine WPL.al hO rfl (fun b3 w hO => ?_)
  refine WPL.as (v := .int .i64 0) rfl rfl ?_
  refine WPL.nil ?_
  refine WP.rs ?_
  refine WPL.ldLA (T := T34) [.bool _, .slice _ _ _, .int .i64 _] rfl hO inferInstance rfl agg34 rfl rfl ?_
  refine WPL.ldLA (T := T34) [.bool _, .slice _ _ _, .int .i64 _] rfl hO inferInstance rfl agg34 rfl rfl ?_
  refine WPL.call rfl (dyad_both hO.tab d1 _ _ hO.rd hc1 hk1 (by unfold Dy.B at *; omega) d2 _ _ hO.rd hc2 hk2 (by unfold Dy.B at *; omega)) Tryd.func58 rfl rfl rfl ?_
  rintro _ w ⟨hf, p1, q1, p2, q2, GG1, GG2, rfl, hq1, hq2, hg1, hg2, hgg⟩
  have hO := hO.resLs hf hgg
  rw [List.append_assoc] at hO
  unfold dyV
  refine WPL.mv (v := .tuple #[.agg #[.bool _, .slice _ _ _, .int .i64 _], .agg #[.bool _, .slice _ _ _, .int .i64 _], .int .i64 _]) rfl rfl ?_
  refine WPL.ext (v := .agg #[.bool _, .slice _ _ _, .int .i64 _]) rfl rfl rfl ?_
  refine WPL.ext (v := .agg #[.bool _, .slice _ _ _, .int .i64 _]) rfl rfl rfl ?_
  refine WPL.ext (v := .int .i64 _) rfl rfl rfl ?_
  refine WPL.al hO rfl (fun b4 w hO => ?_)
  refine WPL.al hO rfl (fun b5 w hO => ?_)
  refine WPL.stLA (T := T34) rfl rfl hO inferInstance inferInstance (by simp [Value.oneCell']) rfl rfl (fun w hO => ?_)
  refine WPL.stLA (T := T34) rfl rfl hO inferInstance inferInstance (by simp [Value.oneCell']) rfl rfl (fun w hO => ?_)
  refine WPL.as (v := .int .i64 _) rfl rfl ?_
  refine WPL.nil ?_
  refine WP.seq ?_
  refine WP.rs ?_
  refine WPL.mv (v := .int .i64 _) rfl rfl ?_
  refine WPL.ne rfl rfl rfl ?_
  refine WPL.nil ?_
  refine WP.condP rfl (fun h1 => ?_) (fun h1 => ?_)
  · exact absurd rfl h1
  · refine WP.skip ?_
    refine WP.rs ?_
    refine WPL.fa rfl rfl ?_
    refine WPL.ldL rfl hO inferInstance rfl rfl rfl ?_
    refine WPL.fa rfl rfl ?_
    refine WPL.ldL rfl hO inferInstance rfl rfl rfl ?_
    refine WPL.call rfl (wide_Mul _ (dig d1.m) _ (hO.rdG hg1) (dig_wd _) (by omega) rfl (by omega) _ (dig d2.m) _ (hO.rdG hg2) (dig_wd _) (by omega) rfl (by omega) (by rw [val_dig]; omega) (by rw [val_dig]; omega) (by simp only [val_dig]; omega)) Tryd.func66 rfl rfl rfl ?_
    rintro _ w ⟨hf26, a26, c26, rfl, hc26, hr26⟩
    have hO := hO.res hf26 hr26
    simp only [val_dig] at hO hc26 ⊢
    refine WPL.mv (v := .tuple #[.slice _ _ _, .int .i64 _]) rfl rfl ?_
    refine WPL.ext (v := .slice _ _ _) rfl rfl rfl ?_
    refine WPL.ext (v := .int .i64 _) rfl rfl rfl ?_
    refine WPL.as (v := .slice _ _ _) rfl rfl ?_
    refine WPL.as (v := .int .i64 _) rfl rfl ?_
    refine WPL.nil ?_
    refine WP.seq ?_
    refine WP.rs ?_
    refine WPL.mv (v := .int .i64 _) rfl rfl ?_
    refine WPL.ne rfl rfl rfl ?_
    refine WPL.nil ?_
    refine WP.condP rfl (fun h2 => ?_) (fun h2 => ?_)
    · exact absurd rfl h2
    · refine WP.skip ?_
      refine WP.rs ?_
      refine WPL.fa rfl rfl ?_
      refine WPL.ldL rfl hO inferInstance rfl rfl rfl ?_
      refine WPL.fa rfl rfl ?_
      refine WPL.ldL rfl hO inferInstance rfl rfl rfl ?_
      refine WPL.neB rfl rfl rfl ?_
      refine WPL.mv (v := .slice _ _ _) rfl rfl ?_
      refine WPL.fa rfl rfl ?_
      refine WPL.ldL rfl hO inferInstance rfl rfl rfl ?_
      refine WPL.fa rfl rfl ?_
      refine WPL.ldL rfl hO inferInstance rfl rfl rfl ?_
      refine WPL.addI rfl rfl (by omega) rfl ?_
      refine WPL.call rfl (dyad_form hO.tab (d1.s != d2.s) _ (dig (d1.m * d2.m)) _ hO.rd (dig_wd _) (by omega) (by first | omega | (simp; omega)) (by omega) (d1.e + d2.e) (by rw [val_dig]; omega) (by omega)) Tryd.func57 rfl rfl rfl ?_
      rintro _ w ⟨hf44, a44, c44, rfl, hc44, hr44⟩
      rw [val_dig] at hc44 hr44
      obtain ⟨G44, hG44, hO⟩ := hO.resL hf44 hr44
      simp only [val_dig]
      unfold dyV
      refine WPL.ext (v := .agg #[.bool _, .slice _ _ _, .int .i64 _]) rfl rfl rfl ?_
      refine WPL.ext (v := .int .i64 _) rfl rfl rfl ?_
      refine WPL.stLA (T := T34) rfl rfl hO inferInstance inferInstance (by simp [Value.oneCell']) rfl rfl (fun w hO => ?_)
      refine WPL.as (v := .int .i64 _) rfl rfl ?_
      refine WPL.nil ?_
      refine WP.ret ?_
      refine ⟨rfl, ?_⟩
      refine RO.cell (T := T34) [.bool _, .slice _ _ _, .int .i64 _] rfl hO inferInstance rfl agg34 rfl ?_
      refine RO.tmp (v := .int .i64 _) rfl ?_
      refine RO.nil ?_
      exact ⟨hO.fr, a44, c44, rfl, hc44, hO.giveG hG44⟩

theorem dyad_Make {w0 : World} (ht : TabOk tabs w0) (s : Bool) (a : Option Addr) (l : List Nat) (c : Nat) {n : Nat} (hr : RowOk w0 [] ⟨a, ws .u32 l⟩) (hw : Wd l) (hc : l.length ≤ c) (hn : n = l.length) (hb : l.length ≤ 70368744177664) (e : Int) (hf : blen (val l) ≤ 262144) (he : -700000 ≤ e ∧ e ≤ 700000) : Spec Tryd.prog 42 [.bool s, .slice a n c, .int .i64 e] w0 (fun v w' => FrX [] w0 w' ∧ DyErr w0 w' 60 (Dy.fm s (val l) e) v) := by
  subst hn
  have hO : Own tabs w0 [] [] [⟨a, ws .u32 l⟩] w0 := Own.start ht (by
      simp only [List.mem_cons, List.not_mem_nil, or_false]
      rintro r rfl
      · exact hr)
  refine Spec.enter (n := 14) (rs := [.cell 6 34, .tmp 7]) Tryd.func42 rfl rfl rfl rfl ?_
  refine WP.rs ?_
  refine WPL.al hO rfl (fun b1 w hO => ?_)
  refine WPL.as (v := .int .i64 0) rfl rfl ?_
  refine WPL.nil ?_
  refine WP.rs ?_
  refine WPL.mv (v := .bool _) rfl rfl ?_
  refine WPL.mv (v := .slice _ _ _) rfl rfl ?_
  refine WPL.mv (v := .int .i64 _) rfl rfl ?_
  refine WPL.call rfl (dyad_form hO.tab s _ l _ hO.rd hw hc rfl hb e hf he) Tryd.func57 rfl rfl rfl ?_
  rintro _ w ⟨hf11, a11, c11, rfl, hc11, hr11⟩
  obtain ⟨G11, hG11, hO⟩ := hO.resL hf11 hr11
  unfold dyV
  refine WPL.ext (v := .agg #[.bool _, .slice _ _ _, .int .i64 _]) rfl rfl rfl ?_
  refine WPL.ext (v := .int .i64 _) rfl rfl rfl ?_
  refine WPL.stLA (T := T34) rfl rfl hO inferInstance inferInstance (by simp [Value.oneCell']) rfl rfl (fun w hO => ?_)
  refine WPL.as (v := .int .i64 _) rfl rfl ?_
  refine WPL.nil ?_
  refine WP.ret ?_
  refine ⟨rfl, ?_⟩
  refine RO.cell (T := T34) [.bool _, .slice _ _ _, .int .i64 _] rfl hO inferInstance rfl agg34 rfl ?_
  refine RO.tmp (v := .int .i64 _) rfl ?_
  refine RO.nil ?_
  exact ⟨hO.fr, a11, c11, rfl, hc11, hO.giveG hG11⟩

theorem dyad_Int {w0 : World} (ht : TabOk tabs w0) (n : Nat) (hn : n < 9223372036854775808) : Spec Tryd.prog 46 [.int .i64 (n : Int)] w0 (fun v w' => FrX [] w0 w' ∧ DyRes w0 w' 60 (Dy.fm false n 0) v) := by
  have hO : Own tabs w0 [] [] [] w0 := Own.start ht (by intro r hr'; cases hr')
  refine Spec.enter (n := 21) (rs := [.cell 2 34]) Tryd.func46 rfl rfl rfl rfl ?_
  refine WP.rs ?_
  refine WPL.al hO rfl (fun b1 w hO => ?_)
  refine WPL.nil ?_
  refine WP.rs ?_
  refine WPL.mv (v := .int .i64 _) rfl rfl ?_
  refine WPL.cv_u64 rfl (by first | omega | exact Nat.mod_lt _ (by decide) | exact Wd.get (by assumption) _ | exact (dig_wd _).get _ | exact Nat.lt_of_le_of_lt (Nat.div_le_self ..) (Wd.get (by assumption) _) | exact Nat.lt_of_lt_of_le (Wd.get (by assumption) _) (by decide)) rfl ?_
  refine WPL.as (v := .int .u64 _) rfl rfl ?_
  refine WPL.nil ?_
  refine WP.seq ?_
  refine WP.rs ?_
  refine WPL.mv (v := .int .i64 _) rfl rfl ?_
  refine WPL.lt rfl rfl rfl ?_
  refine WPL.nil ?_
  refine WP.condP rfl (fun h1 => ?_) (fun h1 => ?_)
  · exact absurd h1 (by omega)
  · refine WP.skip ?_
    refine WP.rs ?_
    refine WPL.mv (v := .int .i64 _) rfl rfl ?_
    refine WPL.lt rfl rfl rfl ?_
    refine WPL.mv (v := .int .u64 _) rfl rfl ?_
    refine WPL.call rfl (wide_Of n (by omega)) Tryd.func67 rfl rfl rfl ?_
    rintro _ w ⟨hf16, a16, c16, rfl, hc16, hr16⟩
    have hO := hO.res hf16 hr16
    have hbn := @blen_le n 64
    refine WPL.call rfl (dyad_form hO.tab (decide ((n : Int) < 0)) _ (dig n) _ hO.rd (dig_wd _) hc16 rfl (by have := @len_blen n 2; omega) 0 (by rw [val_dig]; omega) (by omega)) Tryd.func57 rfl rfl rfl ?_
    rintro _ w ⟨hf17, a17, c17, rfl, hc17, hr17⟩
    rw [val_dig, show decide ((n : Int) < 0) = false from decide_eq_false (by omega)] at hc17 hr17
    obtain ⟨G17, hG17, hO⟩ := hO.resL hf17 hr17
    simp only [val_dig, show decide ((n : Int) < 0) = false from decide_eq_false (by omega)]
    unfold dyV
    refine WPL.mv (v := .tuple #[.agg #[.bool _, .slice _ _ _, .int .i64 _], .int .i64 _]) rfl rfl ?_
    refine WPL.ext (v := .agg #[.bool _, .slice _ _ _, .int .i64 _]) rfl rfl rfl ?_
    refine WPL.ext (v := .int .i64 _) rfl rfl rfl ?_
    refine WPL.al hO rfl (fun b3 w hO => ?_)
    refine WPL.stLA (T := T34) rfl rfl hO inferInstance inferInstance (by simp [Value.oneCell']) rfl rfl (fun w hO => ?_)
    refine WPL.as (v := .int .i64 _) rfl rfl ?_
    refine WPL.nil ?_
    refine WP.rs ?_
    refine WPL.ldLA (T := T34) [.bool _, .slice _ _ _, .int .i64 _] rfl hO inferInstance rfl agg34 rfl rfl ?_
    refine WPL.stLA (T := T34) rfl rfl hO inferInstance inferInstance (by simp [Value.oneCell']) rfl rfl (fun w hO => ?_)
    refine WPL.nil ?_
    refine WP.ret ?_
    refine ⟨rfl, ?_⟩
    refine RO.cell (T := T34) [.bool _, .slice _ _ _, .int .i64 _] rfl hO inferInstance rfl agg34 rfl ?_
    refine RO.nil ?_
    exact ⟨hO.fr, a17, c17, rfl, hc17, hO.giveG hG17⟩

theorem dyad_told_ok {w0 : World} (ht : TabOk tabs w0) (d : Dy) (a : Option Addr) (c : Nat) (hr : RowOk w0 [] ⟨a, ws .u32 (dig d.m)⟩) (hc : (dig d.m).length ≤ c) (hk : d.Can) (hb : d.B 80000) (mode : Int) (hm : 0 ≤ mode ∧ mode ≤ 4) : Spec Tryd.prog 63 [dyV d a c, .int .i64 mode] w0 (fun v w' => FrX [] w0 w' ∧ DyErr w0 w' 60 d v) := by
  have hO : Own tabs w0 [] [] [⟨a, ws .u32 (dig d.m)⟩] w0 := Own.start ht (by
      simp only [List.mem_cons, List.not_mem_nil, or_false]
      rintro r rfl
      · exact hr)
  have hl := len_blen (k := 8192) (show blen d.m ≤ 32 * 8192 by unfold Dy.B at *; omega)
  have hb' := hb
  unfold Dy.B at hb'
  unfold dyV
  refine Spec.enter (n := 22) (rs := [.cell 4 34, .tmp 5]) Tryd.func63 rfl rfl rfl rfl ?_
  refine WP.rs ?_
  refine WPL.bx (v := .agg #[.bool _, .slice _ _ _, .int .i64 _]) rfl rfl hO rfl (fun b1 w hO => ?_)
  refine WPL.al hO rfl (fun b2 w hO => ?_)
  refine WPL.as (v := .int .i64 0) rfl rfl ?_
  refine WPL.nil ?_
  refine WP.seq ?_
  refine WP.rs ?_
  refine WPL.mv (v := .int .i64 _) rfl rfl ?_
  refine WPL.lt rfl rfl rfl ?_
  refine WPL.mv (v := .bool _) rfl rfl ?_
  refine WPL.split (s := 8) rfl (fun h1 => ?_) (fun h1 => ?_)
  · have ph1 := of_decide_eq_true h1
    refine WPL.guardF rfl rfl rfl h1 ?_
    refine WPL.guardF rfl rfl rfl h1 ?_
    refine WPL.pkT (v := .bool true) rfl h1 rfl rfl ?_
    refine WPL.nil ?_
    refine WP.cT rfl rfl ?_
    refine WP.rs ?_
    refine WPL.bd (pv := []) (vs := [_, _, _]) rfl (bd_of pl34 rfl rfl) rfl ?_
    refine WPL.stLA (T := T34) rfl rfl hO inferInstance inferInstance (by simp [Value.oneCell']) rfl rfl (fun w hO => ?_)
    refine WPL.as (v := .int .i64 1) rfl rfl ?_
    refine WPL.nil ?_
    refine WP.ret ?_
    refine ⟨rfl, ?_⟩
    refine RO.cell (T := T34) [.bool _, .slice _ _ _, .int .i64 _] rfl hO inferInstance rfl agg34 rfl ?_
    refine RO.tmp (v := .int .i64 _) rfl ?_
    refine RO.nil ?_
    first
    | (exfalso; omega)
    | exact ⟨hO.fr, a19, c19, rfl, hc19, hO.giveG hG19⟩
  · have ph1 := of_decide_eq_false h1
    refine WPL.guardT rfl rfl h1 ?_
    refine WPL.mv (v := .int .i64 _) rfl rfl ?_
    refine WPL.guardT rfl rfl h1 ?_
    refine WPL.gt rfl rfl rfl ?_
    refine WPL.pkF (v := .bool _) rfl h1 rfl rfl ?_
    refine WPL.nil ?_
    refine WP.condP rfl (fun h2 => ?_) (fun h2 => ?_)
    · refine WP.rs ?_
      refine WPL.bd (pv := []) (vs := [_, _, _]) rfl (bd_of pl34 rfl rfl) rfl ?_
      refine WPL.stLA (T := T34) rfl rfl hO inferInstance inferInstance (by simp [Value.oneCell']) rfl rfl (fun w hO => ?_)
      refine WPL.as (v := .int .i64 1) rfl rfl ?_
      refine WPL.nil ?_
      refine WP.ret ?_
      refine ⟨rfl, ?_⟩
      refine RO.cell (T := T34) [.bool _, .slice _ _ _, .int .i64 _] rfl hO inferInstance rfl agg34 rfl ?_
      refine RO.tmp (v := .int .i64 _) rfl ?_
      refine RO.nil ?_
      first
      | (exfalso; omega)
      | exact ⟨hO.fr, a19, c19, rfl, hc19, hO.giveG hG19⟩
    · refine WP.skip ?_
      refine WP.rs ?_
      refine WPL.fa rfl rfl ?_
      refine WPL.ldL rfl hO inferInstance rfl rfl rfl ?_
      refine WPL.fa rfl rfl ?_
      refine WPL.ldL rfl hO inferInstance rfl rfl rfl ?_
      refine WPL.fa rfl rfl ?_
      refine WPL.ldL rfl hO inferInstance rfl rfl rfl ?_
      refine WPL.call rfl (dyad_form hO.tab d.s _ (dig d.m) _ hO.rd (dig_wd _) hc rfl (by omega) d.e (by rw [val_dig]; omega) (by omega)) Tryd.func57 rfl rfl rfl ?_
      rintro _ w ⟨hf19, a19, c19, rfl, hc19, hr19⟩
      rw [val_dig, (show Dy.fm d.s d.m d.e = d from hk)] at hc19 hr19
      obtain ⟨G19, hG19, hO⟩ := hO.resL hf19 hr19
      simp only [val_dig, (show Dy.fm d.s d.m d.e = d from hk)]
      unfold dyV
      refine WPL.ext (v := .agg #[.bool _, .slice _ _ _, .int .i64 _]) rfl rfl rfl ?_
      refine WPL.ext (v := .int .i64 _) rfl rfl rfl ?_
      refine WPL.stLA (T := T34) rfl rfl hO inferInstance inferInstance (by simp [Value.oneCell']) rfl rfl (fun w hO => ?_)
      refine WPL.as (v := .int .i64 _) rfl rfl ?_
      refine WPL.nil ?_
      refine WP.ret ?_
      refine ⟨rfl, ?_⟩
      refine RO.cell (T := T34) [.bool _, .slice _ _ _, .int .i64 _] rfl hO inferInstance rfl agg34 rfl ?_
      refine RO.tmp (v := .int .i64 _) rfl ?_
      refine RO.nil ?_
      first
      | (exfalso; omega)
      | exact ⟨hO.fr, a19, c19, rfl, hc19, hO.giveG hG19⟩

theorem dyad_told_bad {w0 : World} (ht : TabOk tabs w0) (d : Dy) (a : Option Addr) (c : Nat) (hr : RowOk w0 [] ⟨a, ws .u32 (dig d.m)⟩) (hc : (dig d.m).length ≤ c) (hk : d.Can) (hb : d.B 80000) (mode : Int) (hm : mode < 0 ∨ 4 < mode) : Spec Tryd.prog 63 [dyV d a c, .int .i64 mode] w0 (fun v w' => FrX [] w0 w' ∧ v = .tuple #[.agg #[.bool false, .slice none 0 0, .int .i64 0], .int .i64 1]) := by
  have hO : Own tabs w0 [] [] [⟨a, ws .u32 (dig d.m)⟩] w0 := Own.start ht (by
      simp only [List.mem_cons, List.not_mem_nil, or_false]
      rintro r rfl
      · exact hr)
  have hl := len_blen (k := 8192) (show blen d.m ≤ 32 * 8192 by unfold Dy.B at *; omega)
  have hb' := hb
  unfold Dy.B at hb'
  unfold dyV
  refine Spec.enter (n := 22) (rs := [.cell 4 34, .tmp 5]) Tryd.func63 rfl rfl rfl rfl ?_
  refine WP.rs ?_
  refine WPL.bx (v := .agg #[.bool _, .slice _ _ _, .int .i64 _]) rfl rfl hO rfl (fun b1 w hO => ?_)
  refine WPL.al hO rfl (fun b2 w hO => ?_)
  refine WPL.as (v := .int .i64 0) rfl rfl ?_
  refine WPL.nil ?_
  refine WP.seq ?_
  refine WP.rs ?_
  refine WPL.mv (v := .int .i64 _) rfl rfl ?_
  refine WPL.lt rfl rfl rfl ?_
  refine WPL.mv (v := .bool _) rfl rfl ?_
  refine WPL.split (s := 8) rfl (fun h1 => ?_) (fun h1 => ?_)
  · have ph1 := of_decide_eq_true h1
    refine WPL.guardF rfl rfl rfl h1 ?_
    refine WPL.guardF rfl rfl rfl h1 ?_
    refine WPL.pkT (v := .bool true) rfl h1 rfl rfl ?_
    refine WPL.nil ?_
    refine WP.cT rfl rfl ?_
    refine WP.rs ?_
    refine WPL.bd (pv := []) (vs := [_, _, _]) rfl (bd_of pl34 rfl rfl) rfl ?_
    refine WPL.stLA (T := T34) rfl rfl hO inferInstance inferInstance (by simp [Value.oneCell']) rfl rfl (fun w hO => ?_)
    refine WPL.as (v := .int .i64 1) rfl rfl ?_
    refine WPL.nil ?_
    refine WP.ret ?_
    refine ⟨rfl, ?_⟩
    refine RO.cell (T := T34) [.bool _, .slice _ _ _, .int .i64 _] rfl hO inferInstance rfl agg34 rfl ?_
    refine RO.tmp (v := .int .i64 _) rfl ?_
    refine RO.nil ?_
    first
    | exact ⟨hO.fr, rfl⟩
    | (exfalso; omega)
  · have ph1 := of_decide_eq_false h1
    refine WPL.guardT rfl rfl h1 ?_
    refine WPL.mv (v := .int .i64 _) rfl rfl ?_
    refine WPL.guardT rfl rfl h1 ?_
    refine WPL.gt rfl rfl rfl ?_
    refine WPL.pkF (v := .bool _) rfl h1 rfl rfl ?_
    refine WPL.nil ?_
    refine WP.condP rfl (fun h2 => ?_) (fun h2 => ?_)
    · refine WP.rs ?_
      refine WPL.bd (pv := []) (vs := [_, _, _]) rfl (bd_of pl34 rfl rfl) rfl ?_
      refine WPL.stLA (T := T34) rfl rfl hO inferInstance inferInstance (by simp [Value.oneCell']) rfl rfl (fun w hO => ?_)
      refine WPL.as (v := .int .i64 1) rfl rfl ?_
      refine WPL.nil ?_
      refine WP.ret ?_
      refine ⟨rfl, ?_⟩
      refine RO.cell (T := T34) [.bool _, .slice _ _ _, .int .i64 _] rfl hO inferInstance rfl agg34 rfl ?_
      refine RO.tmp (v := .int .i64 _) rfl ?_
      refine RO.nil ?_
      first
      | exact ⟨hO.fr, rfl⟩
      | (exfalso; omega)
    · refine WP.skip ?_
      refine WP.rs ?_
      refine WPL.fa rfl rfl ?_
      refine WPL.ldL rfl hO inferInstance rfl rfl rfl ?_
      refine WPL.fa rfl rfl ?_
      refine WPL.ldL rfl hO inferInstance rfl rfl rfl ?_
      refine WPL.fa rfl rfl ?_
      refine WPL.ldL rfl hO inferInstance rfl rfl rfl ?_
      refine WPL.call rfl (dyad_form hO.tab d.s _ (dig d.m) _ hO.rd (dig_wd _) hc rfl (by omega) d.e (by rw [val_dig]; omega) (by omega)) Tryd.func57 rfl rfl rfl ?_
      rintro _ w ⟨hf19, a19, c19, rfl, hc19, hr19⟩
      rw [val_dig, (show Dy.fm d.s d.m d.e = d from hk)] at hc19 hr19
      obtain ⟨G19, hG19, hO⟩ := hO.resL hf19 hr19
      simp only [val_dig, (show Dy.fm d.s d.m d.e = d from hk)]
      unfold dyV
      refine WPL.ext (v := .agg #[.bool _, .slice _ _ _, .int .i64 _]) rfl rfl rfl ?_
      refine WPL.ext (v := .int .i64 _) rfl rfl rfl ?_
      refine WPL.stLA (T := T34) rfl rfl hO inferInstance inferInstance (by simp [Value.oneCell']) rfl rfl (fun w hO => ?_)
      refine WPL.as (v := .int .i64 _) rfl rfl ?_
      refine WPL.nil ?_
      refine WP.ret ?_
      refine ⟨rfl, ?_⟩
      refine RO.cell (T := T34) [.bool _, .slice _ _ _, .int .i64 _] rfl hO inferInstance rfl agg34 rfl ?_
      refine RO.tmp (v := .int .i64 _) rfl ?_
      refine RO.nil ?_
      first
      | exact ⟨hO.fr, rfl⟩
      | (exfalso; omega)
end Go.Sw
