/- A part of the proof that BinsPlays answers true: steps of the walk, or plain laws that it needs. No conditions of its own. -/
import Derived.Test.YtdaphmoojpbddaaGreatDoorSR2
import Derived.Test.YtdaphmoojpbddaaGreatDoorSB7
set_option linter.all false
namespace Go.Sw
set_option autoImplicit false
set_option linter.all false
open Go.Proofs Go.RowKit
instance T85 : Ty Tryz.prog 85 (.slice 91) [.slice none 0 0] 24 := Ty.mk' Tryz.underlying85 (by kernel_rfl)
noncomputable abbrev D87 : TypeDesc := (Tryz.prog.underlying 87).getD .bool
instance T87 : Ty Tryz.prog 87 D87 [.int .i64 0, .slice none 0 0, .int .i64 0] 40 := Ty.mk' (by kernel_rfl) (by kernel_rfl)
theorem agg87 : TypeDesc.agg D87 = true := by kernel_rfl
theorem pl87 : placesOf Tryz.prog 87 = some [(0, 1), (1, 1), (2, 1)] := by kernel_rfl
instance F87_0 : Fld Tryz.prog 87 0 0 := Fld.mk' (sz := 0) (by kernel_rfl)
instance F87_1 : Fld Tryz.prog 87 1 1 := Fld.mk' (sz := 0) (by kernel_rfl)
instance F87_2 : Fld Tryz.prog 87 2 2 := Fld.mk' (sz := 0) (by kernel_rfl)
noncomputable abbrev D91 : TypeDesc := (Tryz.prog.underlying 91).getD .bool
instance T91 : Ty Tryz.prog 91 D91 [.int .u64 0, .int .i64 0] 16 := Ty.mk' (by kernel_rfl) (by kernel_rfl)
theorem agg91 : TypeDesc.agg D91 = true := by kernel_rfl
theorem pl91 : placesOf Tryz.prog 91 = some [(0, 1), (1, 1)] := by kernel_rfl
instance F91_0 : Fld Tryz.prog 91 0 0 := Fld.mk' (sz := 0) (by kernel_rfl)
instance F91_1 : Fld Tryz.prog 91 1 1 := Fld.mk' (sz := 0) (by kernel_rfl)
theorem r9_more {w0 : World} (r : Nat) (R : Rf) (a : Option Addr) (c : Nat) (G : List Blk) (hG : Grown a c 2 (oc R.l) 91 G) (hc : R.l.length ≤ c) (hL : Own [] w0 (keys (⟨r, rfC R a c, 87⟩ :: G)) (⟨r, rfC R a c, 87⟩ :: G) [] w0) (hR : R.Ok) (o : Nat × Nat) (ho : okE o) (hn : R.n + o.2 ≤ 1099511627776) : Spec Tryz.prog 41 [.pointer (some ⟨r, 0, none⟩), .agg #[.int .u64 (o.1 : Int), .int .i64 (o.2 : Int)]] w0 (fun v w' => v = .tuple #[] ∧ ∃ a' c' G', Grown a' c' 2 (oc (R.more o).l) 91 G' ∧ (R.more o).l.length ≤ c' ∧ Own [] w0 (keys (⟨r, rfC R a c, 87⟩ :: G)) (⟨r, rfC (R.more o) a' c', 87⟩ :: G') [] w') := by
  have hO : Own [] w0 (keys (⟨r, rfC R a c, 87⟩ :: G)) (⟨r, rfC R a c, 87⟩ :: (G ++ [])) [] w0 := by rw [List.append_nil]; exact hL
  obtain ⟨K, hK⟩ : ∃ K, K = (keys (⟨r, rfC R a c, 87⟩ :: G)) := ⟨_, rfl⟩
  rw [← hK] at hO ⊢
  have hlen := hR.ok.len
  have hsum := hR.sum
  have hRn := hR.n
  have hol := oc_length R.l
  unfold rfC at hO
  refine Spec.enter (n := 63) (rs := []) Tryz.func41 rfl rfl rfl rfl ?_
  refine WP.rs ?_
  refine WPL.bx (v := .agg #[.int .u64 _, .int .i64 _]) rfl rfl hO rfl (fun b1 w hO => ?_)
  refine WPL.nil ?_
  refine WP.seq ?_
  refine WP.draw [(0, 0), (1, 0), (2, 0), (3, 0), (4, 1), (5, 0), (6, 1), (7, 0), (8, 0), (9, 0), (10, 2)] [10] mixed (by kernel_rfl) (by kernel_rfl) rfl hO (fun w hO => ?_)
  refine WPD.pv rfl rfl (fun w k' h => WPL.mv (v := .pointer _) rfl rfl (WPL.nil h)) ?_
  refine WPD.pv rfl rfl (fun w k' h => WPL.mv (v := .pointer _) rfl rfl (WPL.nil h)) ?_
  refine WPD.pv rfl rfl (fun w k' h => WPL.nc rfl rfl (WPL.nil h)) ?_
  refine WPD.pv rfl rfl (fun w k' h => WPL.fa rfl rfl (WPL.nil h)) ?_
  refine WPD.val rfl rfl (fun w hO k' h => WPL.ldL rfl hO inferInstance rfl rfl rfl (WPL.nil h)) ?_
  refine WPD.pv rfl rfl (fun w k' h => WPL.fa rfl rfl (WPL.nil h)) ?_
  refine WPD.val rfl rfl (fun w hO k' h => WPL.ldL rfl hO inferInstance rfl rfl rfl (WPL.nil h)) ?_
  refine WPD.pv rfl rfl (fun w k' h => WPL.addTo ((R.n + o.2 : Nat) : Int) rfl rfl (by omega) (by omega) rfl (WPL.nil h)) ?_
  refine WPD.pv rfl rfl (fun w k' h => WPL.nc rfl rfl (WPL.nil h)) ?_
  refine WPD.pv rfl rfl (fun w k' h => WPL.fa rfl rfl (WPL.nil h)) ?_
  refine WPD.eff rfl hO ?_
  refine WPL.stL (v := .int .i64 _) rfl rfl hO inferInstance inferInstance rfl rfl rfl (fun w hO => ?_)
  refine WPL.nil ?_
  refine WPD.nilX (by kernel_rfl) ?_
  refine WP.seq ?_
  refine WP.rs ?_
  refine WPL.as (v := .int .i64 0) rfl rfl ?_
  refine WPL.nil ?_
  refine WP.block ?_
  refine WP.loop (fun m σ ds w' => ∃ i, m + i = R.l.length ∧ firstL o.1 R.l i ∧ Has σ [(0, .pointer (some ⟨r, 0, none⟩)), (3, .pointer (some ⟨b1, 0, none⟩)), (4, .int .i64 (i : Int))] ∧ ds = [] ∧ Own [] w0 K (⟨b1, [.int .u64 (o.1 : Int), .int .i64 (o.2 : Int)], 91⟩ :: ⟨r, [.int .i64 (R.fold : Int), .slice a R.l.length c, .int .i64 ((R.n + o.2 : Nat) : Int)], 87⟩ :: (G ++ [])) [] w') R.l.length ?_ ?_
  · exact ⟨0, rfl, fun j hj => absurd hj (by omega), ⟨rfl, rfl, rfl, trivial⟩, rfl, hO⟩
  · rintro m σ ds w ⟨i, hi, hf, hH, rfl, hO⟩
    refine WP.reset hH ?_
    refine WP.seq ?_
    refine WP.rs ?_
    refine WPL.mv (v := .int .i64 _) rfl rfl ?_
    refine WPL.mv (v := .pointer _) rfl rfl ?_
    refine WPL.nc rfl rfl ?_
    refine WPL.fa rfl rfl ?_
    refine WPL.ldL rfl hO inferInstance rfl rfl rfl ?_
    refine WPL.len rfl rfl ?_
    refine WPL.lt rfl rfl rfl ?_
    refine WPL.nil ?_
    refine WP.condP rfl (fun h1 => ?_) (fun h1 => ?_)
    · refine WP.skip ?_
      refine WP.seq ?_
      refine WP.block ?_
      refine WP.seq ?_
      refine WP.draw [(0, 0), (1, 0), (2, 0), (3, 1), (4, 0), (5, 1), (6, 0), (7, 1), (8, 0), (9, 1), (10, 0)] [] mixed (by kernel_rfl) (by kernel_rfl) rfl hO (fun w hO => ?_)
      refine WPD.pv rfl rfl (fun w k' h => WPL.mv (v := .pointer _) rfl rfl (WPL.nil h)) ?_
      refine WPD.pv rfl rfl (fun w k' h => WPL.nc rfl rfl (WPL.nil h)) ?_
      refine WPD.pv rfl rfl (fun w k' h => WPL.fa rfl rfl (WPL.nil h)) ?_
      refine WPD.val rfl rfl (fun w hO k' h => WPL.ldL rfl hO inferInstance rfl rfl rfl (WPL.nil h)) ?_
      refine WPD.pv rfl rfl (fun w k' h => WPL.mv (v := .int .i64 _) rfl rfl (WPL.nil h)) ?_
      refine WPD.val rfl rfl (fun w hO k' h => WPL.ixG (j := i) (vals := oc R.l) rfl (hO.rdG hG) rfl rfl (by omega) (by show i * 2 < _; omega) rfl (WPL.nil h)) ?_
      refine WPD.pv rfl rfl (fun w k' h => WPL.fa rfl rfl (WPL.nil h)) ?_
      refine WPD.val rfl rfl (fun w hO k' h => WPL.ldG (i * 2) rfl (hO.rdG hG) (oc_bits (by omega)) rfl rfl (WPL.nil h)) ?_
      refine WPD.pv rfl rfl (fun w k' h => WPL.fa rfl rfl (WPL.nil h)) ?_
      refine WPD.val rfl rfl (fun w hO k' h => WPL.ldL rfl hO inferInstance rfl rfl rfl (WPL.nil h)) ?_
      refine WPD.pv rfl rfl (fun w k' h => WPL.eq rfl rfl rfl (WPL.nil h)) ?_
      refine WPD.nil hO ?_
      refine WP.condP rfl (fun h2 => ?_) (fun h2 => ?_)
      · refine WP.seq ?_
        refine WP.draw [(0, 0), (1, 0), (2, 0), (3, 1), (4, 0), (5, 0), (6, 0), (7, 0), (8, 1), (9, 0), (10, 1), (11, 0), (12, 1), (13, 0), (14, 1), (15, 0), (16, 1), (17, 0), (18, 2)] [18] mixed (by kernel_rfl) (by kernel_rfl) rfl hO (fun w hO => ?_)
        refine WPD.pv rfl rfl (fun w k' h => WPL.mv (v := .pointer _) rfl rfl (WPL.nil h)) ?_
        refine WPD.pv rfl rfl (fun w k' h => WPL.nc rfl rfl (WPL.nil h)) ?_
        refine WPD.pv rfl rfl (fun w k' h => WPL.fa rfl rfl (WPL.nil h)) ?_
        refine WPD.val rfl rfl (fun w hO k' h => WPL.ldL rfl hO inferInstance rfl rfl rfl (WPL.nil h)) ?_
        refine WPD.pv rfl rfl (fun w k' h => WPL.mv (v := .int .i64 _) rfl rfl (WPL.nil h)) ?_
        refine WPD.pv rfl rfl (fun w k' h => WPL.mv (v := .pointer _) rfl rfl (WPL.nil h)) ?_
        refine WPD.pv rfl rfl (fun w k' h => WPL.nc rfl rfl (WPL.nil h)) ?_
        refine WPD.pv rfl rfl (fun w k' h => WPL.fa rfl rfl (WPL.nil h)) ?_
        refine WPD.val rfl rfl (fun w hO k' h => WPL.ldL rfl hO inferInstance rfl rfl rfl (WPL.nil h)) ?_
        refine WPD.pv rfl rfl (fun w k' h => WPL.mv (v := .int .i64 _) rfl rfl (WPL.nil h)) ?_
        refine WPD.val rfl rfl (fun w hO k' h => WPL.ixG (j := i) (vals := oc R.l) rfl (hO.rdG hG) rfl rfl (by omega) (by show i * 2 < _; omega) rfl (WPL.nil h)) ?_
        refine WPD.pv rfl rfl (fun w k' h => WPL.fa rfl rfl (WPL.nil h)) ?_
        refine WPD.val rfl rfl (fun w hO k' h => WPL.ldG (i * 2 + 1) rfl (hO.rdG hG) (oc_times (by omega)) rfl rfl (WPL.nil h)) ?_
        refine WPD.pv rfl rfl (fun w k' h => WPL.fa rfl rfl (WPL.nil h)) ?_
        refine WPD.val rfl rfl (fun w hO k' h => WPL.ldL rfl hO inferInstance rfl rfl rfl (WPL.nil h)) ?_
        refine WPD.pv rfl rfl (fun w k' h => WPL.addTo (((R.l.getD i (0, 0)).2 + o.2 : Nat) : Int) rfl rfl (by omega) (by have := sumT_get (l := R.l) (i := i) (by omega); omega) rfl (WPL.nil h)) ?_
        refine WPD.val rfl rfl (fun w hO k' h => WPL.ixG (j := i) (vals := oc R.l) rfl (hO.rdG hG) rfl rfl (by omega) (by show i * 2 < _; omega) rfl (WPL.nil h)) ?_
        refine WPD.pv rfl rfl (fun w k' h => WPL.fa rfl rfl (WPL.nil h)) ?_
        refine WPD.eff rfl hO ?_
        refine WPL.stG [⟨b1, [.int .u64 (o.1 : Int), .int .i64 (o.2 : Int)], 91⟩, ⟨r, [.int .i64 (R.fold : Int), .slice a R.l.length c, .int .i64 ((R.n + o.2 : Nat) : Int)], 87⟩] [] (i * 2 + 1) rfl rfl hO hG (by omega) rfl rfl (fun G52 w hG52 hO => ?_)
        refine WPL.nil ?_
        refine WPD.nilX (by kernel_rfl) ?_
        refine WP.ret ?_
        refine ⟨rfl, ?_⟩
        refine RO.nil ?_
        first
        | (have em : (R.more o).l = _ := moreL_hit o (l := R.l) (i := i) (by omega) hf (by omega)
           have hl : (R.more o).l.length = R.l.length := by rw [em]; simp
           refine ⟨rfl, a, c, G52, by rw [em, ← oc_set]; exact hG52, by rw [hl]; exact hc, ?_⟩
           have h9 := Own.drop1 (b := ⟨b1, [.int .u64 (o.1 : Int), .int .i64 (o.2 : Int)], 91⟩) (L := ⟨r, [.int .i64 (R.fold : Int), .slice a R.l.length c, .int .i64 ((R.n + o.2 : Nat) : Int)], 87⟩ :: (G52 ++ [])) hO
           rw [List.append_nil] at h9
           unfold rfC; rw [hl]; exact h9)
        | (obtain rfl : i = R.l.length := by omega
           have em : (R.more o).l = _ := moreL_miss o (l := R.l) hf
           have hl : (R.more o).l.length = R.l.length + 1 := by rw [em]; simp
           refine ⟨rfl, a60, c60, G60, by rw [em]; exact hG60, by rw [hl]; exact hc60, ?_⟩
           have h9 := Own.drop1 hO
           rw [List.append_nil] at h9
           unfold rfC; rw [hl]; exact h9)
      · refine WP.skip ?_
        refine WP.region ?_
        refine WPL.mv (v := .int .i64 _) rfl rfl ?_
        refine WPL.addI rfl rfl (by omega) rfl ?_
        refine WPL.as (v := .int .i64 _) rfl rfl ?_
        refine WPL.nil ?_
        refine ⟨m - 1, by omega, i + 1, by omega, ?_, ⟨rfl, rfl, rfl, trivial⟩, rfl, hO⟩
        intro j hj
        rcases Nat.lt_or_ge j i with h | h
        · exact hf j h
        · obtain rfl : j = i := by omega
          intro e; omega
    · refine WP.exit ?_
      refine WP.draw [(0, 0), (1, 0), (2, 0), (3, 0), (4, 1), (5, 1), (6, 2), (7, 2), (8, 0), (9, 0), (10, 2)] [7, 10] mixed (by kernel_rfl) (by kernel_rfl) rfl hO (fun w hO => ?_)
      refine WPD.pv rfl rfl (fun w k' h => WPL.mv (v := .pointer _) rfl rfl (WPL.nil h)) ?_
      refine WPD.pv rfl rfl (fun w k' h => WPL.mv (v := .pointer _) rfl rfl (WPL.nil h)) ?_
      refine WPD.pv rfl rfl (fun w k' h => WPL.nc rfl rfl (WPL.nil h)) ?_
      refine WPD.pv rfl rfl (fun w k' h => WPL.fa rfl rfl (WPL.nil h)) ?_
      refine WPD.val rfl rfl (fun w hO k' h => WPL.ldL rfl hO inferInstance rfl rfl rfl (WPL.nil h)) ?_
      refine WPD.val rfl rfl (fun w hO k' h => WPL.ldLA (T := T91) [.int .u64 _, .int .i64 _] rfl hO inferInstance rfl agg91 rfl rfl (WPL.nil h)) ?_
      refine WPD.eff rfl hO ?_
      refine WPL.bs1 (pv := [(0, .agg #[.int .u64 _, .int .i64 _])]) (vs := [_, _]) rfl hO rfl rfl rfl rfl (fun b2 w hO => ?_)
      refine WPL.nil ?_
      refine WPD.eff rfl (Own.drop1 hO) ?_
      have hO := hO.freeze
      have hsrc : SrcRow w (.slice (some ⟨b2, 0, none⟩) 1 1) 1 2 (oc [o]) := ⟨_, _, rfl, by simp [oc], hO.rd, oc_one _⟩
      have hO := Own.front (A := [⟨b1, [.int .u64 (o.1 : Int), .int .i64 (o.2 : Int)], 91⟩, ⟨r, [.int .i64 (R.fold : Int), .slice a R.l.length c, .int .i64 ((R.n + o.2 : Nat) : Int)], 87⟩]) (G := G) (L := []) hO
      refine WPL.app (ze := [.int .u64 0, .int .i64 0]) (vals := oc R.l) (L := [⟨b1, [.int .u64 (o.1 : Int), .int .i64 (o.2 : Int)], 91⟩, ⟨r, [.int .i64 (R.fold : Int), .slice a R.l.length c, .int .i64 ((R.n + o.2 : Nat) : Int)], 87⟩] ++ []) rfl hO hG (by simp [oc_length]) hc hsrc (by decide) (by omega) (by omega) rfl (fun a60 c60 G60 w hG60 hc60 hO => ?_)
      have hO := hO.dropR
      have hO := Own.front (A := G60) (G := [⟨b1, [.int .u64 (o.1 : Int), .int .i64 (o.2 : Int)], 91⟩, ⟨r, [.int .i64 (R.fold : Int), .slice a R.l.length c, .int .i64 ((R.n + o.2 : Nat) : Int)], 87⟩]) (L := []) hO
      rw [← oc_append] at hG60
      have hO : Own [] w0 K (⟨b1, [.int .u64 (o.1 : Int), .int .i64 (o.2 : Int)], 91⟩ :: ⟨r, [.int .i64 (R.fold : Int), .slice a R.l.length c, .int .i64 ((R.n + o.2 : Nat) : Int)], 87⟩ :: (G60 ++ [])) [] w := hO
      refine WPL.nil ?_
      refine WPD.pv rfl rfl (fun w k' h => WPL.nc rfl rfl (WPL.nil h)) ?_
      refine WPD.pv rfl rfl (fun w k' h => WPL.fa rfl rfl (WPL.nil h)) ?_
      refine WPD.effX rfl (by kernel_rfl) ?_
      refine WPL.stL (v := .slice _ _ _) rfl rfl hO inferInstance inferInstance rfl rfl rfl (fun w hO => ?_)
      refine WPL.nil ?_
      refine WPD.nilX (by kernel_rfl) ?_
      refine ⟨rfl, ?_⟩
      refine RO.nil ?_
      first
      | (have em : (R.more o).l = _ := moreL_hit o (l := R.l) (i := i) (by omega) hf (by omega)
         have hl : (R.more o).l.length = R.l.length := by rw [em]; simp
         refine ⟨rfl, a, c, G52, by rw [em, ← oc_set]; exact hG52, by rw [hl]; exact hc, ?_⟩
         have h9 := Own.drop1 (b := ⟨b1, [.int .u64 (o.1 : Int), .int .i64 (o.2 : Int)], 91⟩) (L := ⟨r, [.int .i64 (R.fold : Int), .slice a R.l.length c, .int .i64 ((R.n + o.2 : Nat) : Int)], 87⟩ :: (G52 ++ [])) hO
         rw [List.append_nil] at h9
         unfold rfC; rw [hl]; exact h9)
      | (obtain rfl : i = R.l.length := by omega
         have em : (R.more o).l = _ := moreL_miss o (l := R.l) hf
         have hl : (R.more o).l.length = R.l.length + 1 := by rw [em]; simp
         refine ⟨rfl, a60, c60, G60, by rw [em]; exact hG60, by rw [hl]; exact hc60, ?_⟩
         have h9 := Own.drop1 hO
         rw [List.append_nil] at h9
         unfold rfC; rw [hl]; exact h9)

theorem r3_Of_any {w0 : World} (x : Nat) (hx : x < 18446744073709551616) : Spec Tryz.prog 39 [.float .f64 x] w0 (fun v w' => FrX [] w0 w' ∧ ∃ s a n c e, v = .tuple #[.agg #[.bool s, .slice a n c, .int .i64 e], .int .i64 (if finB x then 0 else 30)]) := by
  by_cases h : finB x
  · refine (r3_Of_ok x hx h).mono ?_
    rintro v w' ⟨h1, a, c, rfl, -, -⟩
    exact ⟨h1, _, _, _, _, _, by rw [if_pos h]; rfl⟩
  · refine (r3_Of_no x hx (by unfold finB at h; omega)).mono ?_
    rintro v w' ⟨h1, rfl⟩
    exact ⟨h1, _, _, _, _, _, by rw [if_neg h]⟩

theorem r9_Add {w0 : World} (r : Nat) (R : Rf) (a : Option Addr) (c : Nat) (G : List Blk) (hG : Grown a c 2 (oc R.l) 91 G) (hc : R.l.length ≤ c) (hL : Own [] w0 (keys (⟨r, rfC R a c, 87⟩ :: G)) (⟨r, rfC R a c, 87⟩ :: G) [] w0) (hR : R.Ok) (x : Nat) (hx : x < 18446744073709551616) : Spec Tryz.prog 19 [.pointer (some ⟨r, 0, none⟩), .float .f64 x] w0 (fun v w' => v = .int .i64 (R.addE x) ∧ ∃ a' c' G', Grown a' c' 2 (oc (R.addF x).l) 91 G' ∧ (R.addF x).l.length ≤ c' ∧ Own [] w0 (keys (⟨r, rfC R a c, 87⟩ :: G)) (⟨r, rfC (R.addF x) a' c', 87⟩ :: G') [] w') := by
  have hO : Own [] w0 (keys (⟨r, rfC R a c, 87⟩ :: G)) (⟨r, rfC R a c, 87⟩ :: (G ++ [])) [] w0 := by rw [List.append_nil]; exact hL
  obtain ⟨K, hK⟩ : ∃ K, K = (keys (⟨r, rfC R a c, 87⟩ :: G)) := ⟨_, rfl⟩
  rw [← hK] at hO ⊢
  have hlen := hR.ok.len
  have hsum := hR.sum
  have hRn := hR.n
  have hol := oc_length R.l
  unfold rfC at hO
  obtain ⟨E, hE⟩ : ∃ E, E = (if finB x then (0 : Int) else 30) := ⟨_, rfl⟩
  refine Spec.enter (n := 39) (rs := [.tmp 4]) Tryz.func19 rfl rfl rfl rfl ?_
  refine WP.rs ?_
  refine WPL.as (v := .int .i64 0) rfl rfl ?_
  refine WPL.nil ?_
  refine WP.seq ?_
  refine WP.rs ?_
  refine WPL.mv (v := .pointer _) rfl rfl ?_
  refine WPL.nc rfl rfl ?_
  refine WPL.fa rfl rfl ?_
  refine WPL.ldL rfl hO inferInstance rfl rfl rfl ?_
  refine WPL.ge rfl rfl rfl ?_
  refine WPL.nil ?_
  refine WP.condP rfl (fun h1 => ?_) (fun h1 => ?_)
  · refine WP.rs ?_
    refine WPL.as (v := .int .i64 2) rfl rfl ?_
    refine WPL.nil ?_
    refine WP.ret ?_
    refine ⟨rfl, ?_⟩
    refine RO.tmp (v := .int .i64 _) rfl ?_
    refine RO.nil ?_
    have e1 : R.addE x = 2 := if_pos (by omega)
    have e2 : R.addF x = R := if_pos (by omega)
    rw [e1, e2]
    have h9 := hO
    rw [List.append_nil] at h9
    exact ⟨rfl, a, c, G, hG, hc, h9⟩
  · refine WP.skip ?_
    refine WP.rs ?_
    refine WPL.mv (v := .float .f64 _) rfl rfl ?_
    refine WPL.call rfl (r3_Of_any x hx) Tryz.func39 rfl rfl rfl ?_
    rintro _ w ⟨hf14, s14, a14, n14, c14, e14, rfl⟩
    have hO := hO.call hf14
    rw [← hE]
    refine WPL.mv (v := .tuple #[.agg #[.bool _, .slice _ _ _, .int .i64 _], .int .i64 _]) rfl rfl ?_
    refine WPL.ext (v := .agg #[.bool _, .slice _ _ _, .int .i64 _]) rfl rfl rfl ?_
    refine WPL.ext (v := .int .i64 _) rfl rfl rfl ?_
    refine WPL.al hO rfl (fun b1 w hO => ?_)
    refine WPL.stLA (T := T46) (vs := [.bool s14, .slice a14 n14 c14, .int .i64 e14]) rfl rfl hO inferInstance inferInstance (by simp [Value.oneCell']) rfl rfl (fun w hO => ?_)
    refine WPL.as (v := .int .i64 _) rfl rfl ?_
    refine WPL.nil ?_
    refine WP.seq ?_
    refine WP.rs ?_
    refine WPL.mv (v := .int .i64 _) rfl rfl ?_
    refine WPL.ne rfl rfl rfl ?_
    refine WPL.nil ?_
    refine WP.condP rfl (fun h2 => ?_) (fun h2 => ?_)
    · refine WP.rs ?_
      refine WPL.mv (v := .int .i64 _) rfl rfl ?_
      refine WPL.as (v := .int .i64 _) rfl rfl ?_
      refine WPL.nil ?_
      refine WP.ret ?_
      refine ⟨rfl, ?_⟩
      refine RO.tmp (v := .int .i64 _) rfl ?_
      refine RO.nil ?_
      have hfin : ¬ finB x := fun h => h2 (by rw [hE, if_pos h])
      have e1 : R.addE x = 30 := by unfold Rf.addE; rw [if_neg (by omega), if_neg hfin]
      have e2 : R.addF x = R := by unfold Rf.addF; rw [if_neg (by omega), if_neg hfin]
      have e3 : E = 30 := by rw [hE, if_neg hfin]
      rw [e1, e2]
      have h9 := Own.drop1 hO
      rw [List.append_nil] at h9
      exact ⟨by rw [e3]; rfl, a, c, G, hG, hc, h9⟩
    · refine WP.skip ?_
      refine WP.seq ?_
      refine WP.draw [(0, 0), (1, 0), (2, 0), (3, 0), (4, 1), (5, 0), (6, 2), (7, 0), (8, 2), (9, 2), (10, 0), (11, 0), (12, 2)] [9, 12] mixed (by kernel_rfl) (by kernel_rfl) rfl hO (fun w hO => ?_)
      refine WPD.pv rfl rfl (fun w k' h => WPL.mv (v := .pointer _) rfl rfl (WPL.nil h)) ?_
      refine WPD.pv rfl rfl (fun w k' h => WPL.mv (v := .pointer _) rfl rfl (WPL.nil h)) ?_
      refine WPD.pv rfl rfl (fun w k' h => WPL.nc rfl rfl (WPL.nil h)) ?_
      refine WPD.pv rfl rfl (fun w k' h => WPL.fa rfl rfl (WPL.nil h)) ?_
      refine WPD.val rfl rfl (fun w hO k' h => WPL.ldL rfl hO inferInstance rfl rfl rfl (WPL.nil h)) ?_
      refine WPD.pv rfl rfl (fun w k' h => WPL.mv (v := .float .f64 _) rfl rfl (WPL.nil h)) ?_
      refine WPD.eff rfl hO ?_
      refine WPL.f64bits ext_F64bits rfl rfl ?_
      refine WPL.nil ?_
      refine WPD.pv rfl rfl (fun w k' h => WPL.bd (pv := [(0, .int .u64 _), (1, .int .i64 1)]) (vs := [_, _]) rfl (bd_of pl91 rfl rfl) rfl (WPL.nil h)) ?_
      refine WPD.eff rfl hO ?_
      refine WPL.bs1 (pv := [(0, .agg #[.int .u64 _, .int .i64 _])]) (vs := [_, _]) rfl hO rfl rfl rfl rfl (fun b2 w hO => ?_)
      refine WPL.nil ?_
      refine WPD.eff rfl (Own.drop1 hO) ?_
      have hO := hO.freeze
      have hsrc : SrcRow w (.slice (some ⟨b2, 0, none⟩) 1 1) 1 2 (oc [(x, 1)]) := ⟨_, _, rfl, by simp [oc], hO.rd, oc_one _⟩
      have hO := Own.front (A := [⟨b1, [.bool s14, .slice a14 n14 c14, .int .i64 e14], 46⟩, ⟨r, [.int .i64 (R.fold : Int), .slice a R.l.length c, .int .i64 (R.n : Int)], 87⟩]) (G := G) (L := []) hO
      refine WPL.app (ze := [.int .u64 0, .int .i64 0]) (vals := oc R.l) (L := [⟨b1, [.bool s14, .slice a14 n14 c14, .int .i64 e14], 46⟩, ⟨r, [.int .i64 (R.fold : Int), .slice a R.l.length c, .int .i64 (R.n : Int)], 87⟩] ++ []) rfl hO hG (by simp [oc_length]) hc hsrc (by decide) (by omega) (by omega) rfl (fun a29 c29 G29 w hG29 hc29 hO => ?_)
      have hO := hO.dropR
      have hO := Own.front (A := G29) (G := [⟨b1, [.bool s14, .slice a14 n14 c14, .int .i64 e14], 46⟩, ⟨r, [.int .i64 (R.fold : Int), .slice a R.l.length c, .int .i64 (R.n : Int)], 87⟩]) (L := []) hO
      rw [← oc_append] at hG29
      have hO : Own [] w0 K (⟨b1, [.bool s14, .slice a14 n14 c14, .int .i64 e14], 46⟩ :: ⟨r, [.int .i64 (R.fold : Int), .slice a R.l.length c, .int .i64 (R.n : Int)], 87⟩ :: (G29 ++ [])) [] w := hO
      refine WPL.nil ?_
      refine WPD.pv rfl rfl (fun w k' h => WPL.nc rfl rfl (WPL.nil h)) ?_
      refine WPD.pv rfl rfl (fun w k' h => WPL.fa rfl rfl (WPL.nil h)) ?_
      refine WPD.effX rfl (by kernel_rfl) ?_
      refine WPL.stL (v := .slice _ _ _) rfl rfl hO inferInstance inferInstance rfl rfl rfl (fun w hO => ?_)
      refine WPL.nil ?_
      refine WPD.nilX (by kernel_rfl) ?_
      refine WP.rs ?_
      refine WPL.mv (v := .pointer _) rfl rfl ?_
      refine WPL.nc rfl rfl ?_
      refine WPL.fa rfl rfl ?_
      refine WPL.ldL rfl hO inferInstance rfl rfl rfl ?_
      refine WPL.addTo ((R.n + 1 : Nat) : Int) rfl rfl (by omega) (by omega) rfl ?_
      refine WPL.nc rfl rfl ?_
      refine WPL.fa rfl rfl ?_
      refine WPL.stL (v := .int .i64 _) rfl rfl hO inferInstance inferInstance rfl rfl rfl (fun w hO => ?_)
      refine WPL.nil ?_
      refine WP.rs ?_
      refine WPL.as (v := .int .i64 0) rfl rfl ?_
      refine WPL.nil ?_
      refine WP.ret ?_
      refine ⟨rfl, ?_⟩
      refine RO.tmp (v := .int .i64 _) rfl ?_
      refine RO.nil ?_
      have hfin : finB x := by
        rcases Decidable.em (finB x) with h | h
        · exact h
        · exact absurd (by rw [hE, if_neg h]; decide) h2
      have e1 : R.addE x = 0 := by unfold Rf.addE; rw [if_neg (by omega), if_pos hfin]
      have e2 : R.addF x = R.add x := by unfold Rf.addF; rw [if_neg (by omega), if_pos hfin]
      rw [e1, e2]
      have hl : (R.add x).l.length = R.l.length + 1 := by simp [Rf.add]
      refine ⟨rfl, a29, c29, G29, hG29, by rw [hl]; exact hc29, ?_⟩
      have h9 := Own.drop1 hO
      rw [List.append_nil] at h9
      unfold rfC; rw [hl]; exact h9

theorem r9_Merge {w0 : World} (r : Nat) (R : Rf) (a : Option Addr) (c : Nat) (G : List Blk) (hG : Grown a c 2 (oc R.l) 91 G) (hc : R.l.length ≤ c) (r2 : Nat) (O : Rf) (a2 : Option Addr) (c2 : Nat) (hL : Own [] w0 (keys (⟨r, rfC R a c, 87⟩ :: G)) (⟨r, rfC R a c, 87⟩ :: G) [⟨some ⟨r2, 0, none⟩, rfC O a2 c2⟩, ⟨a2, oc O.l⟩] w0) (hc2 : O.l.length ≤ c2) (hR : R.Ok) (hO2 : O.Ok) (hf : R.fold = O.fold) (hn : R.n + O.n ≤ 1099511627776) : Spec Tryz.prog 21 [.pointer (some ⟨r, 0, none⟩), .pointer (some ⟨r2, 0, none⟩)] w0 (fun v w' => v = .int .i64 0 ∧ ∃ a' c' G', Grown a' c' 2 (oc (R.merge O).l) 91 G' ∧ (R.merge O).l.length ≤ c' ∧ Own [] w0 (keys (⟨r, rfC R a c, 87⟩ :: G)) (⟨r, rfC (R.merge O) a' c', 87⟩ :: G') [] w') := by
  have hO : Own [] w0 (keys (⟨r, rfC R a c, 87⟩ :: G)) (⟨r, rfC R a c, 87⟩ :: (G ++ [])) [⟨some ⟨r2, 0, none⟩, rfC O a2 c2⟩, ⟨a2, oc O.l⟩] w0 := by rw [List.append_nil]; exact hL
  obtain ⟨K, hK⟩ : ∃ K, K = (keys (⟨r, rfC R a c, 87⟩ :: G)) := ⟨_, rfl⟩
  rw [← hK] at hO ⊢
  have hlen := hR.ok.len
  have hsum := hR.sum
  have hRn := hR.n
  have hol := oc_length R.l
  unfold rfC at hO
  have hlen2 := hO2.ok.len
  have hsum2 := hO2.sum
  refine Spec.enter (n := 44) (rs := [.tmp 4]) Tryz.func21 rfl rfl rfl rfl ?_
  refine WP.rs ?_
  refine WPL.as (v := .int .i64 0) rfl rfl ?_
  refine WPL.nil ?_
  refine WP.seq ?_
  refine WP.seq ?_
  refine WP.draw [(0, 0), (1, 0), (2, 0), (3, 1), (4, 0), (5, 0), (6, 0), (7, 1), (8, 0)] [] mixed (by kernel_rfl) (by kernel_rfl) rfl hO (fun w hO => ?_)
  refine WPD.pv rfl rfl (fun w k' h => WPL.mv (v := .pointer _) rfl rfl (WPL.nil h)) ?_
  refine WPD.pv rfl rfl (fun w k' h => WPL.nc rfl rfl (WPL.nil h)) ?_
  refine WPD.pv rfl rfl (fun w k' h => WPL.fa rfl rfl (WPL.nil h)) ?_
  refine WPD.val rfl rfl (fun w hO k' h => WPL.ldL rfl hO inferInstance rfl rfl rfl (WPL.nil h)) ?_
  refine WPD.pv rfl rfl (fun w k' h => WPL.mv (v := .pointer _) rfl rfl (WPL.nil h)) ?_
  refine WPD.pv rfl rfl (fun w k' h => WPL.nc rfl rfl (WPL.nil h)) ?_
  refine WPD.pv rfl rfl (fun w k' h => WPL.fa rfl rfl (WPL.nil h)) ?_
  refine WPD.val rfl rfl (fun w hO k' h => WPL.ldR (a := some ⟨r2, 0, none⟩) (j := 0) rfl hO inferInstance rfl rfl rfl (WPL.nil h)) ?_
  refine WPD.pv rfl rfl (fun w k' h => WPL.ne rfl rfl rfl (WPL.nil h)) ?_
  refine WPD.nil hO ?_
  refine WP.condP rfl (fun h1 => ?_) (fun h1 => ?_)
  · exact absurd h1 (by omega)
  · refine WP.skip ?_
    refine WP.seq ?_
    refine WP.seq ?_
    refine WP.draw [(0, 0), (1, 0), (2, 0), (3, 1), (4, 0), (5, 0), (6, 0), (7, 1), (8, 0), (9, 0)] [] mixed (by kernel_rfl) (by kernel_rfl) rfl hO (fun w hO => ?_)
    refine WPD.pv rfl rfl (fun w k' h => WPL.mv (v := .pointer _) rfl rfl (WPL.nil h)) ?_
    refine WPD.pv rfl rfl (fun w k' h => WPL.nc rfl rfl (WPL.nil h)) ?_
    refine WPD.pv rfl rfl (fun w k' h => WPL.fa rfl rfl (WPL.nil h)) ?_
    refine WPD.val rfl rfl (fun w hO k' h => WPL.ldL rfl hO inferInstance rfl rfl rfl (WPL.nil h)) ?_
    refine WPD.pv rfl rfl (fun w k' h => WPL.mv (v := .pointer _) rfl rfl (WPL.nil h)) ?_
    refine WPD.pv rfl rfl (fun w k' h => WPL.nc rfl rfl (WPL.nil h)) ?_
    refine WPD.pv rfl rfl (fun w k' h => WPL.fa rfl rfl (WPL.nil h)) ?_
    refine WPD.val rfl rfl (fun w hO k' h => WPL.ldR (a := some ⟨r2, 0, none⟩) (j := 2) rfl hO inferInstance rfl rfl rfl (WPL.nil h)) ?_
    refine WPD.pv rfl rfl (fun w k' h => WPL.addI rfl rfl (by omega) rfl (WPL.nil h)) ?_
    refine WPD.pv rfl rfl (fun w k' h => WPL.gt rfl rfl rfl (WPL.nil h)) ?_
    refine WPD.nil hO ?_
    refine WP.condP rfl (fun h2 => ?_) (fun h2 => ?_)
    · exact absurd h2 (by omega)
    · refine WP.skip ?_
      refine WP.rs ?_
      refine WPL.as (v := .slice none 0 0) rfl rfl ?_
      refine WPL.nil ?_
      refine WP.rs ?_
      refine WPL.mv (v := .slice _ _ _) rfl rfl ?_
      refine WPL.mv (v := .pointer _) rfl rfl ?_
      refine WPL.nc rfl rfl ?_
      refine WPL.fa rfl rfl ?_
      refine WPL.ldR (a := some ⟨r2, 0, none⟩) (j := 1) rfl hO inferInstance rfl rfl rfl ?_
      have hsrc : SrcRow w (.slice a2 O.l.length c2) O.l.length 2 (oc O.l) := ⟨_, _, rfl, by simp [oc_length], hO.rd, oc_one _⟩
      refine WPL.app (ze := [.int .u64 0, .int .i64 0]) (vals := []) (G := []) (L := ⟨r, [.int .i64 (R.fold : Int), .slice a R.l.length c, .int .i64 (R.n : Int)], 87⟩ :: (G ++ [])) rfl hO (.inl ⟨rfl, rfl, rfl, rfl⟩) (by simp) (by omega) hsrc (by decide) (by omega) (by omega) rfl (fun a31 c31 G31 w hG31 hc31 hO => ?_)
      have hO := hO.freezeG hG31
      rw [List.nil_append] at hO
      refine WPL.as (v := .slice _ _ _) rfl rfl ?_
      refine WPL.nil ?_
      refine WP.seq ?_
      refine WP.rs ?_
      refine WPL.as (v := .int .i64 0) rfl rfl ?_
      refine WPL.nil ?_
      refine WP.block ?_
      refine WP.loop (fun m σ ds w' => ∃ i a5 c5 G5, m + i = O.l.length ∧ Grown a5 c5 2 (oc (Rf.mergeN R O.l i).l) 91 G5 ∧ (Rf.mergeN R O.l i).l.length ≤ c5 ∧ Has σ [(0, .pointer (some ⟨r, 0, none⟩)), (5, .slice a31 O.l.length c31), (6, .int .i64 (i : Int))] ∧ ds = [] ∧ Own [] w0 K (⟨r, rfC (Rf.mergeN R O.l i) a5 c5, 87⟩ :: (G5 ++ [])) [⟨a31, oc O.l⟩] w') O.l.length ?_ ?_
      · exact ⟨0, a, c, G, rfl, hG, hc, ⟨rfl, by show Value.slice _ _ _ = _; rw [Nat.zero_add], rfl, trivial⟩, rfl, hO.subR⟩
      · rintro m σ ds w ⟨i, a5, c5, G5, hi, hG5, hc5, hH, rfl, hO⟩
        refine WP.reset hH ?_
        refine WP.seq ?_
        refine WP.rs ?_
        refine WPL.mv (v := .int .i64 _) rfl rfl ?_
        refine WPL.mv (v := .slice _ _ _) rfl rfl ?_
        refine WPL.len rfl rfl ?_
        refine WPL.lt rfl rfl rfl ?_
        refine WPL.nil ?_
        refine WP.condP rfl (fun h3 => ?_) (fun h3 => ?_)
        · refine WP.skip ?_
          refine WP.seq ?_
          refine WP.block ?_
          refine WP.region ?_
          refine WPL.mv (v := .pointer _) rfl rfl ?_
          refine WPL.mv (v := .slice _ _ _) rfl rfl ?_
          refine WPL.mv (v := .int .i64 _) rfl rfl ?_
          refine WPL.ixR (j := i) rfl hO inferInstance rfl rfl (by omega) (by rw [oc_length]; show i * 2 < _; omega) rfl ?_
          refine WPL.ldRA (T := T91) [.int .u64 ((O.l.getD i (0, 0)).1 : Int), .int .i64 ((O.l.getD i (0, 0)).2 : Int)] rfl hO inferInstance (oc_pair (by omega)) agg91 rfl rfl ?_
          have hmN := mergeN_succ (R := R) (l := O.l) (i := i) (by omega)
          have hmo := mergeN_ok hR hO2 hn i
          have hst := Own.startO (A := ⟨r, rfC (Rf.mergeN R O.l i) a5 c5, 87⟩ :: G5) (L := []) hO
          have hob := hO2.ok.get (i := i) (by omega)
          have hon := mergeN_n hR hO2 hn (i := i) (by omega)
          have hsp := r9_more r (Rf.mergeN R O.l i) a5 c5 G5 hG5 hc5 hst hmo (O.l.getD i (0, 0)) hob hon
          refine WPL.call rfl hsp Tryz.func41 rfl rfl rfl ?_
          rintro _ w ⟨-, a6, c6, G6, hG6, hc6, hk6⟩
          have hO : Own [] w0 K (⟨r, rfC (Rf.more (Rf.mergeN R O.l i) (O.l.getD i (0, 0))) a6 c6, 87⟩ :: (G6 ++ [])) [⟨a31, oc O.l⟩] w := Own.callO (A := ⟨r, rfC (Rf.mergeN R O.l i) a5 c5, 87⟩ :: G5) (L := []) hO hk6
          refine WPL.nil ?_
          refine WP.region ?_
          refine WPL.mv (v := .int .i64 _) rfl rfl ?_
          refine WPL.addI rfl rfl (by omega) rfl ?_
          refine WPL.as (v := .int .i64 _) rfl rfl ?_
          refine WPL.nil ?_
          exact ⟨m - 1, by omega, i + 1, a6, c6, G6, by omega, by rw [hmN]; exact hG6, by rw [hmN]; exact hc6, ⟨rfl, rfl, rfl, trivial⟩, rfl, by rw [hmN]; exact hO⟩
        · refine WP.exit ?_
          refine WP.rs ?_
          refine WPL.as (v := .int .i64 0) rfl rfl ?_
          refine WPL.nil ?_
          refine WP.ret ?_
          refine ⟨rfl, ?_⟩
          refine RO.tmp (v := .int .i64 _) rfl ?_
          refine RO.nil ?_
          obtain rfl : i = O.l.length := by omega
          rw [mergeN_all] at hG5 hc5 hO
          have h9 := Own.dropR hO
          rw [List.append_nil] at h9
          exact ⟨rfl, a5, c5, G5, hG5, hc5, h9⟩

theorem r9_MergeSelf {w0 : World} (r : Nat) (R : Rf) (a : Option Addr) (c : Nat) (G : List Blk) (hG : Grown a c 2 (oc R.l) 91 G) (hc : R.l.length ≤ c) (hL : Own [] w0 (keys (⟨r, rfC R a c, 87⟩ :: G)) (⟨r, rfC R a c, 87⟩ :: G) [] w0) (hR : R.Ok) (hn : R.n + R.n ≤ 1099511627776) : Spec Tryz.prog 21 [.pointer (some ⟨r, 0, none⟩), .pointer (some ⟨r, 0, none⟩)] w0 (fun v w' => v = .int .i64 0 ∧ ∃ a' c' G', Grown a' c' 2 (oc (R.merge R).l) 91 G' ∧ (R.merge R).l.length ≤ c' ∧ Own [] w0 (keys (⟨r, rfC R a c, 87⟩ :: G)) (⟨r, rfC (R.merge R) a' c', 87⟩ :: G') [] w') := by
  have hO : Own [] w0 (keys (⟨r, rfC R a c, 87⟩ :: G)) (⟨r, rfC R a c, 87⟩ :: (G ++ [])) [] w0 := by rw [List.append_nil]; exact hL
  obtain ⟨K, hK⟩ : ∃ K, K = (keys (⟨r, rfC R a c, 87⟩ :: G)) := ⟨_, rfl⟩
  rw [← hK] at hO ⊢
  have hlen := hR.ok.len
  have hsum := hR.sum
  have hRn := hR.n
  have hol := oc_length R.l
  unfold rfC at hO
  refine Spec.enter (n := 44) (rs := [.tmp 4]) Tryz.func21 rfl rfl rfl rfl ?_
  refine WP.rs ?_
  refine WPL.as (v := .int .i64 0) rfl rfl ?_
  refine WPL.nil ?_
  refine WP.seq ?_
  refine WP.seq ?_
  refine WP.draw [(0, 0), (1, 0), (2, 0), (3, 1), (4, 0), (5, 0), (6, 0), (7, 1), (8, 0)] [] mixed (by kernel_rfl) (by kernel_rfl) rfl hO (fun w hO => ?_)
  refine WPD.pv rfl rfl (fun w k' h => WPL.mv (v := .pointer _) rfl rfl (WPL.nil h)) ?_
  refine WPD.pv rfl rfl (fun w k' h => WPL.nc rfl rfl (WPL.nil h)) ?_
  refine WPD.pv rfl rfl (fun w k' h => WPL.fa rfl rfl (WPL.nil h)) ?_
  refine WPD.val rfl rfl (fun w hO k' h => WPL.ldL rfl hO inferInstance rfl rfl rfl (WPL.nil h)) ?_
  refine WPD.pv rfl rfl (fun w k' h => WPL.mv (v := .pointer _) rfl rfl (WPL.nil h)) ?_
  refine WPD.pv rfl rfl (fun w k' h => WPL.nc rfl rfl (WPL.nil h)) ?_
  refine WPD.pv rfl rfl (fun w k' h => WPL.fa rfl rfl (WPL.nil h)) ?_
  refine WPD.val rfl rfl (fun w hO k' h => WPL.ldL rfl hO inferInstance rfl rfl rfl (WPL.nil h)) ?_
  refine WPD.pv rfl rfl (fun w k' h => WPL.ne rfl rfl rfl (WPL.nil h)) ?_
  refine WPD.nil hO ?_
  refine WP.condP rfl (fun h1 => ?_) (fun h1 => ?_)
  · exact absurd h1 (by omega)
  · refine WP.skip ?_
    refine WP.seq ?_
    refine WP.seq ?_
    refine WP.draw [(0, 0), (1, 0), (2, 0), (3, 1), (4, 0), (5, 0), (6, 0), (7, 1), (8, 0), (9, 0)] [] mixed (by kernel_rfl) (by kernel_rfl) rfl hO (fun w hO => ?_)
    refine WPD.pv rfl rfl (fun w k' h => WPL.mv (v := .pointer _) rfl rfl (WPL.nil h)) ?_
    refine WPD.pv rfl rfl (fun w k' h => WPL.nc rfl rfl (WPL.nil h)) ?_
    refine WPD.pv rfl rfl (fun w k' h => WPL.fa rfl rfl (WPL.nil h)) ?_
    refine WPD.val rfl rfl (fun w hO k' h => WPL.ldL rfl hO inferInstance rfl rfl rfl (WPL.nil h)) ?_
    refine WPD.pv rfl rfl (fun w k' h => WPL.mv (v := .pointer _) rfl rfl (WPL.nil h)) ?_
    refine WPD.pv rfl rfl (fun w k' h => WPL.nc rfl rfl (WPL.nil h)) ?_
    refine WPD.pv rfl rfl (fun w k' h => WPL.fa rfl rfl (WPL.nil h)) ?_
    refine WPD.val rfl rfl (fun w hO k' h => WPL.ldL rfl hO inferInstance rfl rfl rfl (WPL.nil h)) ?_
    refine WPD.pv rfl rfl (fun w k' h => WPL.addI rfl rfl (by omega) rfl (WPL.nil h)) ?_
    refine WPD.pv rfl rfl (fun w k' h => WPL.gt rfl rfl rfl (WPL.nil h)) ?_
    refine WPD.nil hO ?_
    refine WP.condP rfl (fun h2 => ?_) (fun h2 => ?_)
    · exact absurd h2 (by omega)
    · refine WP.skip ?_
      refine WP.rs ?_
      refine WPL.as (v := .slice none 0 0) rfl rfl ?_
      refine WPL.nil ?_
      refine WP.rs ?_
      refine WPL.mv (v := .slice _ _ _) rfl rfl ?_
      refine WPL.mv (v := .pointer _) rfl rfl ?_
      refine WPL.nc rfl rfl ?_
      refine WPL.fa rfl rfl ?_
      refine WPL.ldL rfl hO inferInstance rfl rfl rfl ?_
      have hsrc : SrcRow w (.slice a R.l.length c) R.l.length 2 (oc R.l) := ⟨_, _, rfl, by simp [oc_length], (hO.rdG hG), oc_one _⟩
      refine WPL.app (ze := [.int .u64 0, .int .i64 0]) (vals := []) (G := []) (L := ⟨r, [.int .i64 (R.fold : Int), .slice a R.l.length c, .int .i64 (R.n : Int)], 87⟩ :: (G ++ [])) rfl hO (.inl ⟨rfl, rfl, rfl, rfl⟩) (by simp) (by omega) hsrc (by decide) (by omega) (by omega) rfl (fun a31 c31 G31 w hG31 hc31 hO => ?_)
      have hO := hO.freezeG hG31
      rw [List.nil_append] at hO
      refine WPL.as (v := .slice _ _ _) rfl rfl ?_
      refine WPL.nil ?_
      refine WP.seq ?_
      refine WP.rs ?_
      refine WPL.as (v := .int .i64 0) rfl rfl ?_
      refine WPL.nil ?_
      refine WP.block ?_
      refine WP.loop (fun m σ ds w' => ∃ i a5 c5 G5, m + i = R.l.length ∧ Grown a5 c5 2 (oc (Rf.mergeN R R.l i).l) 91 G5 ∧ (Rf.mergeN R R.l i).l.length ≤ c5 ∧ Has σ [(0, .pointer (some ⟨r, 0, none⟩)), (5, .slice a31 R.l.length c31), (6, .int .i64 (i : Int))] ∧ ds = [] ∧ Own [] w0 K (⟨r, rfC (Rf.mergeN R R.l i) a5 c5, 87⟩ :: (G5 ++ [])) [⟨a31, oc R.l⟩] w') R.l.length ?_ ?_
      · exact ⟨0, a, c, G, rfl, hG, hc, ⟨rfl, by show Value.slice _ _ _ = _; rw [Nat.zero_add], rfl, trivial⟩, rfl, hO.subR⟩
      · rintro m σ ds w ⟨i, a5, c5, G5, hi, hG5, hc5, hH, rfl, hO⟩
        refine WP.reset hH ?_
        refine WP.seq ?_
        refine WP.rs ?_
        refine WPL.mv (v := .int .i64 _) rfl rfl ?_
        refine WPL.mv (v := .slice _ _ _) rfl rfl ?_
        refine WPL.len rfl rfl ?_
        refine WPL.lt rfl rfl rfl ?_
        refine WPL.nil ?_
        refine WP.condP rfl (fun h3 => ?_) (fun h3 => ?_)
        · refine WP.skip ?_
          refine WP.seq ?_
          refine WP.block ?_
          refine WP.region ?_
          refine WPL.mv (v := .pointer _) rfl rfl ?_
          refine WPL.mv (v := .slice _ _ _) rfl rfl ?_
          refine WPL.mv (v := .int .i64 _) rfl rfl ?_
          refine WPL.ixR (j := i) rfl hO inferInstance rfl rfl (by omega) (by rw [oc_length]; show i * 2 < _; omega) rfl ?_
          refine WPL.ldRA (T := T91) [.int .u64 ((R.l.getD i (0, 0)).1 : Int), .int .i64 ((R.l.getD i (0, 0)).2 : Int)] rfl hO inferInstance (oc_pair (by omega)) agg91 rfl rfl ?_
          have hmN := mergeN_succ (R := R) (l := R.l) (i := i) (by omega)
          have hmo := mergeN_ok hR hR hn i
          have hst := Own.startO (A := ⟨r, rfC (Rf.mergeN R R.l i) a5 c5, 87⟩ :: G5) (L := []) hO
          have hob := hR.ok.get (i := i) (by omega)
          have hon := mergeN_n hR hR hn (i := i) (by omega)
          have hsp := r9_more r (Rf.mergeN R R.l i) a5 c5 G5 hG5 hc5 hst hmo (R.l.getD i (0, 0)) hob hon
          refine WPL.call rfl hsp Tryz.func41 rfl rfl rfl ?_
          rintro _ w ⟨-, a6, c6, G6, hG6, hc6, hk6⟩
          have hO : Own [] w0 K (⟨r, rfC (Rf.more (Rf.mergeN R R.l i) (R.l.getD i (0, 0))) a6 c6, 87⟩ :: (G6 ++ [])) [⟨a31, oc R.l⟩] w := Own.callO (A := ⟨r, rfC (Rf.mergeN R R.l i) a5 c5, 87⟩ :: G5) (L := []) hO hk6
          refine WPL.nil ?_
          refine WP.region ?_
          refine WPL.mv (v := .int .i64 _) rfl rfl ?_
          refine WPL.addI rfl rfl (by omega) rfl ?_
          refine WPL.as (v := .int .i64 _) rfl rfl ?_
          refine WPL.nil ?_
          exact ⟨m - 1, by omega, i + 1, a6, c6, G6, by omega, by rw [hmN]; exact hG6, by rw [hmN]; exact hc6, ⟨rfl, rfl, rfl, trivial⟩, rfl, by rw [hmN]; exact hO⟩
        · refine WP.exit ?_
          refine WP.rs ?_
          refine WPL.as (v := .int .i64 0) rfl rfl ?_
          refine WPL.nil ?_
          refine WP.ret ?_
          refine ⟨rfl, ?_⟩
          refine RO.tmp (v := .int .i64 _) rfl ?_
          refine RO.nil ?_
          obtain rfl : i = R.l.length := by omega
          rw [mergeN_all (O := R)] at hG5 hc5 hO
          have h9 := Own.dropR hO
          rw [List.append_nil] at h9
          exact ⟨rfl, a5, c5, G5, hG5, hc5, h9⟩

theorem r9_MergeArg {w0 : World} (r : Nat) (R : Rf) (a : Option Addr) (c : Nat) (hr : RowOk w0 [] ⟨some ⟨r, 0, none⟩, rfC R a c⟩) (r2 : Nat) (O : Rf) (a2 : Option Addr) (c2 : Nat) (hr2 : RowOk w0 [] ⟨some ⟨r2, 0, none⟩, rfC O a2 c2⟩) (hf : R.fold ≠ O.fold) : Spec Tryz.prog 21 [.pointer (some ⟨r, 0, none⟩), .pointer (some ⟨r2, 0, none⟩)] w0 (fun v w' => v = .int .i64 1 ∧ FrX [] w0 w') := by
  have hO : Own [] w0 [] [] [⟨some ⟨r, 0, none⟩, rfC R a c⟩, ⟨some ⟨r2, 0, none⟩, rfC O a2 c2⟩] w0 := Own.start (by intro e he; cases he) (by
      simp only [List.mem_cons, List.not_mem_nil, or_false]
      rintro r (rfl | rfl)
      · exact hr
      · exact hr2)
  refine Spec.enter (n := 44) (rs := [.tmp 4]) Tryz.func21 rfl rfl rfl rfl ?_
  refine WP.rs ?_
  refine WPL.as (v := .int .i64 0) rfl rfl ?_
  refine WPL.nil ?_
  refine WP.seq ?_
  refine WP.seq ?_
  refine WP.draw [(0, 0), (1, 0), (2, 0), (3, 1), (4, 0), (5, 0), (6, 0), (7, 1), (8, 0)] [] mixed (by kernel_rfl) (by kernel_rfl) rfl hO (fun w hO => ?_)
  refine WPD.pv rfl rfl (fun w k' h => WPL.mv (v := .pointer _) rfl rfl (WPL.nil h)) ?_
  refine WPD.pv rfl rfl (fun w k' h => WPL.nc rfl rfl (WPL.nil h)) ?_
  refine WPD.pv rfl rfl (fun w k' h => WPL.fa rfl rfl (WPL.nil h)) ?_
  refine WPD.val rfl rfl (fun w hO k' h => WPL.ldR (a := some ⟨r, 0, none⟩) (j := 0) rfl hO inferInstance rfl rfl rfl (WPL.nil h)) ?_
  refine WPD.pv rfl rfl (fun w k' h => WPL.mv (v := .pointer _) rfl rfl (WPL.nil h)) ?_
  refine WPD.pv rfl rfl (fun w k' h => WPL.nc rfl rfl (WPL.nil h)) ?_
  refine WPD.pv rfl rfl (fun w k' h => WPL.fa rfl rfl (WPL.nil h)) ?_
  refine WPD.val rfl rfl (fun w hO k' h => WPL.ldR (a := some ⟨r2, 0, none⟩) (j := 0) rfl hO inferInstance rfl rfl rfl (WPL.nil h)) ?_
  refine WPD.pv rfl rfl (fun w k' h => WPL.ne rfl rfl rfl (WPL.nil h)) ?_
  refine WPD.nil hO ?_
  refine WP.condP rfl (fun h1 => ?_) (fun h1 => ?_)
  · refine WP.rs ?_
    refine WPL.as (v := .int .i64 1) rfl rfl ?_
    refine WPL.nil ?_
    refine WP.ret ?_
    refine ⟨rfl, ?_⟩
    refine RO.tmp (v := .int .i64 _) rfl ?_
    refine RO.nil ?_
    exact ⟨rfl, hO.fr⟩
  · exact absurd h1 (by omega)

theorem r9_MergeLong {w0 : World} (r : Nat) (R : Rf) (a : Option Addr) (c : Nat) (hr : RowOk w0 [] ⟨some ⟨r, 0, none⟩, rfC R a c⟩) (r2 : Nat) (O : Rf) (a2 : Option Addr) (c2 : Nat) (hr2 : RowOk w0 [] ⟨some ⟨r2, 0, none⟩, rfC O a2 c2⟩) (hf : R.fold = O.fold) (hR : R.n ≤ 1099511627776) (hO2 : O.n ≤ 1099511627776) (hs : 1099511627776 < R.n + O.n) : Spec Tryz.prog 21 [.pointer (some ⟨r, 0, none⟩), .pointer (some ⟨r2, 0, none⟩)] w0 (fun v w' => v = .int .i64 2 ∧ FrX [] w0 w') := by
  have hO : Own [] w0 [] [] [⟨some ⟨r, 0, none⟩, rfC R a c⟩, ⟨some ⟨r2, 0, none⟩, rfC O a2 c2⟩] w0 := Own.start (by intro e he; cases he) (by
      simp only [List.mem_cons, List.not_mem_nil, or_false]
      rintro r (rfl | rfl)
      · exact hr
      · exact hr2)
  refine Spec.enter (n := 44) (rs := [.tmp 4]) Tryz.func21 rfl rfl rfl rfl ?_
  refine WP.rs ?_
  refine WPL.as (v := .int .i64 0) rfl rfl ?_
  refine WPL.nil ?_
  refine WP.seq ?_
  refine WP.seq ?_
  refine WP.draw [(0, 0), (1, 0), (2, 0), (3, 1), (4, 0), (5, 0), (6, 0), (7, 1), (8, 0)] [] mixed (by kernel_rfl) (by kernel_rfl) rfl hO (fun w hO => ?_)
  refine WPD.pv rfl rfl (fun w k' h => WPL.mv (v := .pointer _) rfl rfl (WPL.nil h)) ?_
  refine WPD.pv rfl rfl (fun w k' h => WPL.nc rfl rfl (WPL.nil h)) ?_
  refine WPD.pv rfl rfl (fun w k' h => WPL.fa rfl rfl (WPL.nil h)) ?_
  refine WPD.val rfl rfl (fun w hO k' h => WPL.ldR (a := some ⟨r, 0, none⟩) (j := 0) rfl hO inferInstance rfl rfl rfl (WPL.nil h)) ?_
  refine WPD.pv rfl rfl (fun w k' h => WPL.mv (v := .pointer _) rfl rfl (WPL.nil h)) ?_
  refine WPD.pv rfl rfl (fun w k' h => WPL.nc rfl rfl (WPL.nil h)) ?_
  refine WPD.pv rfl rfl (fun w k' h => WPL.fa rfl rfl (WPL.nil h)) ?_
  refine WPD.val rfl rfl (fun w hO k' h => WPL.ldR (a := some ⟨r2, 0, none⟩) (j := 0) rfl hO inferInstance rfl rfl rfl (WPL.nil h)) ?_
  refine WPD.pv rfl rfl (fun w k' h => WPL.ne rfl rfl rfl (WPL.nil h)) ?_
  refine WPD.nil hO ?_
  refine WP.condP rfl (fun h1 => ?_) (fun h1 => ?_)
  · exact absurd h1 (by omega)
  · refine WP.skip ?_
    refine WP.seq ?_
    refine WP.seq ?_
    refine WP.draw [(0, 0), (1, 0), (2, 0), (3, 1), (4, 0), (5, 0), (6, 0), (7, 1), (8, 0), (9, 0)] [] mixed (by kernel_rfl) (by kernel_rfl) rfl hO (fun w hO => ?_)
    refine WPD.pv rfl rfl (fun w k' h => WPL.mv (v := .pointer _) rfl rfl (WPL.nil h)) ?_
    refine WPD.pv rfl rfl (fun w k' h => WPL.nc rfl rfl (WPL.nil h)) ?_
    refine WPD.pv rfl rfl (fun w k' h => WPL.fa rfl rfl (WPL.nil h)) ?_
    refine WPD.val rfl rfl (fun w hO k' h => WPL.ldR (a := some ⟨r, 0, none⟩) (j := 2) rfl hO inferInstance rfl rfl rfl (WPL.nil h)) ?_
    refine WPD.pv rfl rfl (fun w k' h => WPL.mv (v := .pointer _) rfl rfl (WPL.nil h)) ?_
    refine WPD.pv rfl rfl (fun w k' h => WPL.nc rfl rfl (WPL.nil h)) ?_
    refine WPD.pv rfl rfl (fun w k' h => WPL.fa rfl rfl (WPL.nil h)) ?_
    refine WPD.val rfl rfl (fun w hO k' h => WPL.ldR (a := some ⟨r2, 0, none⟩) (j := 2) rfl hO inferInstance rfl rfl rfl (WPL.nil h)) ?_
    refine WPD.pv rfl rfl (fun w k' h => WPL.addI rfl rfl (by omega) rfl (WPL.nil h)) ?_
    refine WPD.pv rfl rfl (fun w k' h => WPL.gt rfl rfl rfl (WPL.nil h)) ?_
    refine WPD.nil hO ?_
    refine WP.condP rfl (fun h2 => ?_) (fun h2 => ?_)
    · refine WP.rs ?_
      refine WPL.as (v := .int .i64 2) rfl rfl ?_
      refine WPL.nil ?_
      refine WP.ret ?_
      refine ⟨rfl, ?_⟩
      refine RO.tmp (v := .int .i64 _) rfl ?_
      refine RO.nil ?_
      exact ⟨rfl, hO.fr⟩
    · exact absurd h2 (by omega)

theorem r9_Count {w0 : World} (r : Nat) (R : Rf) (a : Option Addr) (c : Nat) (hr : RowOk w0 [] ⟨some ⟨r, 0, none⟩, rfC R a c⟩) : Spec Tryz.prog 27 [.pointer (some ⟨r, 0, none⟩)] w0 (fun v w' => v = .int .i64 (R.n : Int) ∧ FrX [] w0 w') := by
  have hO : Own [] w0 [] [] [⟨some ⟨r, 0, none⟩, rfC R a c⟩] w0 := Own.start (by intro e he; cases he) (by
      simp only [List.mem_cons, List.not_mem_nil, or_false]
      rintro r rfl
      · exact hr)
  refine Spec.enter (n := 7) (rs := [.tmp 2]) Tryz.func27 rfl rfl rfl rfl ?_
  refine WP.rs ?_
  refine WPL.as (v := .int .i64 0) rfl rfl ?_
  refine WPL.nil ?_
  refine WP.rs ?_
  refine WPL.mv (v := .pointer _) rfl rfl ?_
  refine WPL.nc rfl rfl ?_
  refine WPL.fa rfl rfl ?_
  refine WPL.ldR (a := some ⟨r, 0, none⟩) (j := 2) rfl hO inferInstance rfl rfl rfl ?_
  refine WPL.as (v := .int .i64 _) rfl rfl ?_
  refine WPL.nil ?_
  refine WP.ret ?_
  refine ⟨rfl, ?_⟩
  refine RO.tmp (v := .int .i64 _) rfl ?_
  refine RO.nil ?_
  exact ⟨rfl, hO.fr⟩

theorem r9_Fold {w0 : World} (r : Nat) (R : Rf) (a : Option Addr) (c : Nat) (hr : RowOk w0 [] ⟨some ⟨r, 0, none⟩, rfC R a c⟩) : Spec Tryz.prog 26 [.pointer (some ⟨r, 0, none⟩)] w0 (fun v w' => v = .int .i64 (R.fold : Int) ∧ FrX [] w0 w') := by
  have hO : Own [] w0 [] [] [⟨some ⟨r, 0, none⟩, rfC R a c⟩] w0 := Own.start (by intro e he; cases he) (by
      simp only [List.mem_cons, List.not_mem_nil, or_false]
      rintro r rfl
      · exact hr)
  refine Spec.enter (n := 7) (rs := [.tmp 2]) Tryz.func26 rfl rfl rfl rfl ?_
  refine WP.rs ?_
  refine WPL.as (v := .int .i64 0) rfl rfl ?_
  refine WPL.nil ?_
  refine WP.rs ?_
  refine WPL.mv (v := .pointer _) rfl rfl ?_
  refine WPL.nc rfl rfl ?_
  refine WPL.fa rfl rfl ?_
  refine WPL.ldR (a := some ⟨r, 0, none⟩) (j := 0) rfl hO inferInstance rfl rfl rfl ?_
  refine WPL.as (v := .int .i64 _) rfl rfl ?_
  refine WPL.nil ?_
  refine WP.ret ?_
  refine ⟨rfl, ?_⟩
  refine RO.tmp (v := .int .i64 _) rfl ?_
  refine RO.nil ?_
  exact ⟨rfl, hO.fr⟩

theorem r9_New {w0 : World} (n : Int) : Spec Tryz.prog 17 [.int .i64 n] w0 (fun v w' => ((n < 1 ∨ 8 < n) ∧ v = .pointer none ∧ w0 = w') ∨ ((1 ≤ n ∧ n ≤ 8) ∧ ∃ b, v = .pointer (some ⟨b, 0, none⟩) ∧ FrX [] w0 w' ∧ FreshB w0 w' b (rfC ⟨n.toNat, [], 0⟩ none 0) 87)) := by
  have hO : Own [] w0 [] [] [] w0 := Own.start (by intro e he; cases he) (by intro r hr'; cases hr')
  refine Spec.enter (n := 12) (rs := [.tmp 2]) Tryz.func17 rfl rfl rfl rfl ?_
  refine WP.rs ?_
  refine WPL.as (v := .pointer none) rfl rfl ?_
  refine WPL.nil ?_
  refine WP.seq ?_
  refine WP.rs ?_
  refine WPL.mv (v := .int .i64 _) rfl rfl ?_
  refine WPL.lt rfl rfl rfl ?_
  refine WPL.mv (v := .bool _) rfl rfl ?_
  refine WPL.split (s := 5) rfl (fun h1 => ?_) (fun h1 => ?_)
  · have ph1 := of_decide_eq_true h1
    refine WPL.guardF rfl rfl rfl h1 ?_
    refine WPL.guardF rfl rfl rfl h1 ?_
    refine WPL.pkT (v := .bool true) rfl h1 rfl rfl ?_
    refine WPL.nil ?_
    refine WP.cT rfl rfl ?_
    refine WP.rs ?_
    refine WPL.as (v := .pointer none) rfl rfl ?_
    refine WPL.nil ?_
    refine WP.ret ?_
    refine ⟨rfl, ?_⟩
    refine RO.tmp (v := .pointer _) rfl ?_
    refine RO.nil ?_
    first
    | exact .inl ⟨by omega, rfl, rfl⟩
    | (refine .inr ⟨by omega, b1, rfl, hO.fr, ?_⟩
       have e : rfC ⟨n.toNat, [], 0⟩ none 0 = [.int .i64 n, .slice none 0 0, .int .i64 0] := by
         show [Value.int .i64 (n.toNat : Int), _, _] = _
         rw [show (n.toNat : Int) = n by omega]; rfl
       rw [e]; exact hO.giveB inferInstance)
  · have ph1 := of_decide_eq_false h1
    refine WPL.guardT rfl rfl h1 ?_
    refine WPL.mv (v := .int .i64 _) rfl rfl ?_
    refine WPL.guardT rfl rfl h1 ?_
    refine WPL.gt rfl rfl rfl ?_
    refine WPL.pkF (v := .bool _) rfl h1 rfl rfl ?_
    refine WPL.nil ?_
    refine WP.condP rfl (fun h2 => ?_) (fun h2 => ?_)
    · refine WP.rs ?_
      refine WPL.as (v := .pointer none) rfl rfl ?_
      refine WPL.nil ?_
      refine WP.ret ?_
      refine ⟨rfl, ?_⟩
      refine RO.tmp (v := .pointer _) rfl ?_
      refine RO.nil ?_
      first
      | exact .inl ⟨by omega, rfl, rfl⟩
      | (refine .inr ⟨by omega, b1, rfl, hO.fr, ?_⟩
         have e : rfC ⟨n.toNat, [], 0⟩ none 0 = [.int .i64 n, .slice none 0 0, .int .i64 0] := by
           show [Value.int .i64 (n.toNat : Int), _, _] = _
           rw [show (n.toNat : Int) = n by omega]; rfl
         rw [e]; exact hO.giveB inferInstance)
    · refine WP.skip ?_
      refine WP.rs ?_
      refine WPL.mv (v := .int .i64 _) rfl rfl ?_
      refine WPL.bd (pv := [(0, .int .i64 n)]) (vs := [.int .i64 n, .slice none 0 0, .int .i64 0]) rfl (bd_of pl87 rfl rfl) rfl ?_
      refine WPL.bx (v := .agg #[.int .i64 _, .slice _ _ _, .int .i64 _]) rfl rfl hO rfl (fun b1 w hO => ?_)
      refine WPL.as (v := .pointer _) rfl rfl ?_
      refine WPL.nil ?_
      refine WP.ret ?_
      refine ⟨rfl, ?_⟩
      refine RO.tmp (v := .pointer _) rfl ?_
      refine RO.nil ?_
      first
      | exact .inl ⟨by omega, rfl, rfl⟩
      | (refine .inr ⟨by omega, b1, rfl, hO.fr, ?_⟩
         have e : rfC ⟨n.toNat, [], 0⟩ none 0 = [.int .i64 n, .slice none 0 0, .int .i64 0] := by
           show [Value.int .i64 (n.toNat : Int), _, _] = _
           rw [show (n.toNat : Int) = n by omega]; rfl
         rw [e]; exact hO.giveB inferInstance)

theorem r9_Slice {w0 : World} (x : Nat) (hfin : finB x) (j : Int) (hj : -1000 ≤ j ∧ j ≤ 1000) : Spec Tryz.prog 44 [.int .u64 (x : Int), .int .i64 j] w0 (fun v w' => FrX [] w0 w' ∧ v = .int .u32 ((sliceN x j : Nat) : Int)) := by
  have hO : Own [] w0 [] [] [] w0 := Own.start (by intro e he; cases he) (by intro r hr'; cases hr')
  have hin := fabs_in hfin
  refine Spec.enter (n := 30) (rs := [.tmp 4]) Tryz.func44 rfl rfl rfl rfl ?_
  refine WP.rs ?_
  refine WPL.as (v := .int .u32 ((0 : Nat) : Int)) rfl rfl ?_
  refine WPL.nil ?_
  refine WP.rs ?_
  refine WPL.call rfl (r3_Of64) Tryz.func63 rfl rfl rfl ?_
  rintro _ w ⟨hf9, rfl⟩
  have hO := hO.call hf9
  refine WPL.mv (v := .int .u64 _) rfl rfl ?_
  refine WPL.shlc_u64 (p := 2) rfl rfl rfl rfl ?_
  refine WPL.shrc_u64 (p := 2) rfl rfl rfl (Nat.mod_lt _ (by decide)) rfl ?_
  have hfin' : x * 2 % 18446744073709551616 / 2 < 9218868437227405312 := by rw [half_bits]; exact hfin
  have hke : numE 53 (-1074) (x * 2 % 18446744073709551616 / 2) ≤ 100000 := numE_fin hfin'
  refine WPL.call rfl (r3_Bits 53 (-1074) 9218868437227405312 (by decide) false (x * 2 % 18446744073709551616 / 2) hfin' (by decide) hke) Tryz.func64 rfl rfl rfl ?_
  rintro _ w ⟨hf13, a13, c13, rfl, hc13, hr13⟩
  rw [half_bits, ← fabs] at hc13 hr13
  rw [half_bits, ← fabs]
  have hO := hO.res hf13 hr13
  unfold dyV
  refine WPL.mv (v := .tuple #[.agg #[.bool _, .slice _ _ _, .int .i64 _], .bool _]) rfl rfl ?_
  refine WPL.ext (v := .agg #[.bool _, .slice _ _ _, .int .i64 _]) rfl rfl rfl ?_
  refine WPL.ext (v := .bool _) rfl rfl rfl ?_
  refine WPL.al hO rfl (fun b1 w hO => ?_)
  refine WPL.stLA (T := T46) rfl rfl hO inferInstance inferInstance (by simp [Value.oneCell']) rfl rfl (fun w hO => ?_)
  refine WPL.as (v := .bool _) rfl rfl ?_
  refine WPL.nil ?_
  refine WP.rs ?_
  refine WPL.fa rfl rfl ?_
  refine WPL.ldL rfl hO inferInstance rfl rfl rfl ?_
  refine WPL.fa rfl rfl ?_
  refine WPL.ldL rfl hO inferInstance rfl rfl rfl ?_
  refine WPL.mv (v := .int .i64 _) rfl rfl ?_
  refine WPL.mulI rfl rfl (by omega) rfl ?_
  refine WPL.subI rfl rfl (by omega) rfl ?_
  refine WPL.call rfl (r2_Moved a13 (dig (fabs x).m) _ hO.rd (dig_wd _) (val_dig _) hc13 rfl (by have := len_blen (k := 8192) (show blen (fabs x).m ≤ 32 * 8192 by omega); omega) ((fabs x).e - 32 * j) (by omega) (by omega)) Tryz.func68 rfl rfl rfl ?_
  rintro _ w ⟨hf23, a23, c23, rfl, hc23, hr23⟩
  have hO := hO.res hf23 hr23
  refine WPL.as (v := .slice _ _ _) rfl rfl ?_
  refine WPL.nil ?_
  refine WP.seq ?_
  refine WP.rs ?_
  refine WPL.mv (v := .slice _ _ _) rfl rfl ?_
  refine WPL.len rfl rfl ?_
  refine WPL.eq rfl rfl rfl ?_
  refine WPL.nil ?_
  refine WP.condP rfl (fun h1 => ?_) (fun h1 => ?_)
  · refine WP.rs ?_
    refine WPL.as (v := .int .u32 ((0 : Nat) : Int)) rfl rfl ?_
    refine WPL.nil ?_
    refine WP.ret ?_
    refine ⟨rfl, ?_⟩
    refine RO.tmp (v := .int .u32 _) rfl ?_
    refine RO.nil ?_
    have hz := dig_len_zero (by omega : (dig (shiftN (fabs x).m ((fabs x).e - 32 * j))).length = 0)
    exact ⟨hO.fr, by unfold sliceN; rw [hz]; rfl⟩
  · refine WP.skip ?_
    refine WP.rs ?_
    refine WPL.mv (v := .slice _ _ _) rfl rfl ?_
    refine WPL.ixR (j := 0) rfl hO inferInstance rfl rfl (by first | omega | (simp; omega)) (by first | omega | (simp; omega)) rfl ?_
    refine WPL.ldR rfl hO inferInstance (ws_get1 rfl (by omega)) rfl rfl ?_
    refine WPL.as (v := .int .u32 _) rfl rfl ?_
    refine WPL.nil ?_
    refine WP.ret ?_
    refine ⟨rfl, ?_⟩
    refine RO.tmp (v := .int .u32 _) rfl ?_
    refine RO.nil ?_
    have hz : shiftN (fabs x).m ((fabs x).e - 32 * j) ≠ 0 := fun e => h1 (by rw [e, dig_zero]; rfl)
    exact ⟨hO.fr, by unfold sliceN; rw [← dig_head]; rfl⟩

theorem r9_top {w0 : World} (r : Nat) (R : Rf) (a : Option Addr) (c : Nat) (hr : RowOk w0 [] ⟨some ⟨r, 0, none⟩, rfC R a c⟩) (hra : RowOk w0 [] ⟨a, oc R.l⟩) (hc : R.l.length ≤ c) (hR : R.Ok) : Spec Tryz.prog 43 [.pointer (some ⟨r, 0, none⟩)] w0 (fun v w' => FrX [] w0 w' ∧ v = .tuple #[.int .i64 (topL R.l), .bool (decide (-34 ≤ topL R.l))]) := by
  have hO : Own [] w0 [] [] [⟨some ⟨r, 0, none⟩, rfC R a c⟩, ⟨a, oc R.l⟩] w0 := Own.start (by intro e he; cases he) (by
      simp only [List.mem_cons, List.not_mem_nil, or_false]
      rintro r (rfl | rfl)
      · exact hr
      · exact hra)
  have hlen := hR.ok.len
  have hsum := hR.sum
  have hRn := hR.n
  have hol := oc_length R.l
  have hfo := hR.fold
  refine Spec.enter (n := 54) (rs := [.tmp 2, .tmp 3]) Tryz.func43 rfl rfl rfl rfl ?_
  refine WP.rs ?_
  refine WPL.as (v := .int .i64 0) rfl rfl ?_
  refine WPL.as (v := .bool false) rfl rfl ?_
  refine WPL.nil ?_
  refine WP.rs ?_
  refine WPL.as (v := .int .i64 (-35)) rfl rfl ?_
  refine WPL.nil ?_
  refine WP.seq ?_
  refine WP.rs ?_
  refine WPL.as (v := .int .i64 0) rfl rfl ?_
  refine WPL.nil ?_
  refine WP.block ?_
  refine WP.loop (fun m σ ds w' => ∃ i, m + i = R.l.length ∧ Has σ [(0, .pointer (some ⟨r, 0, none⟩)), (4, .int .i64 (topN R.l i)), (5, .int .i64 (i : Int))] ∧ ds = [] ∧ Own [] w0 [] [] [⟨some ⟨r, 0, none⟩, rfC R a c⟩, ⟨a, oc R.l⟩] w') R.l.length ?_ ?_
  · exact ⟨0, rfl, ⟨rfl, rfl, rfl, trivial⟩, rfl, hO⟩
  · rintro m σ ds w ⟨i, hi, hH, rfl, hO⟩
    refine WP.reset hH ?_
    have htn := topN_le hR.ok i
    refine WP.seq ?_
    refine WP.rs ?_
    refine WPL.mv (v := .int .i64 _) rfl rfl ?_
    refine WPL.mv (v := .pointer _) rfl rfl ?_
    refine WPL.nc rfl rfl ?_
    refine WPL.fa rfl rfl ?_
    refine WPL.ldR (a := some ⟨r, 0, none⟩) (j := 1) rfl hO inferInstance rfl rfl rfl ?_
    refine WPL.len rfl rfl ?_
    refine WPL.lt rfl rfl rfl ?_
    refine WPL.nil ?_
    refine WP.condP rfl (fun h1 => ?_) (fun h1 => ?_)
    · refine WP.skip ?_
      refine WP.seq ?_
      refine WP.block ?_
      refine WP.seq ?_
      refine WP.drawE 18 [16] mixed (by kernel_rfl) rfl hO (fun w hO => ?_)
      refine WPE.pv (i := 1) (by kernel_rfl) rfl rfl (fun w k' h => WPL.mv (v := .pointer _) rfl rfl (WPL.nil h)) ?_
      refine WPE.pv (i := 2) (by kernel_rfl) rfl rfl (fun w k' h => WPL.nc rfl rfl (WPL.nil h)) ?_
      refine WPE.pv (i := 3) (by kernel_rfl) rfl rfl (fun w k' h => WPL.fa rfl rfl (WPL.nil h)) ?_
      refine WPE.val (i := 4) (by kernel_rfl) rfl rfl (fun w hO k' h => WPL.ldR (a := some ⟨r, 0, none⟩) (j := 1) rfl hO inferInstance rfl rfl rfl (WPL.nil h)) ?_
      refine WPE.pv (i := 5) (by kernel_rfl) rfl rfl (fun w k' h => WPL.mv (v := .int .i64 _) rfl rfl (WPL.nil h)) ?_
      refine WPE.val (i := 6) (by kernel_rfl) rfl rfl (fun w hO k' h => WPL.ixR (a := a) (j := i) (vals := oc R.l) rfl hO inferInstance rfl rfl (by omega) (by show i * 2 < _; omega) rfl (WPL.nil h)) ?_
      refine WPE.pv (i := 7) (by kernel_rfl) rfl rfl (fun w k' h => WPL.fa rfl rfl (WPL.nil h)) ?_
      refine WPE.val (i := 8) (by kernel_rfl) rfl rfl (fun w hO k' h => WPL.ldR (a := a) (j := i * 2) (vals := oc R.l) rfl hO inferInstance (oc_bits (by omega)) rfl rfl (WPL.nil h)) ?_
      refine WPE.pv (i := 9) (by kernel_rfl) rfl rfl (fun w k' h => WPL.shlc_u64 (p := 2) rfl rfl rfl rfl (WPL.nil h)) ?_
      refine WPE.pv (i := 10) (by kernel_rfl) rfl rfl (fun w k' h => WPL.shrc_u64 (p := 2) rfl rfl rfl (Nat.mod_lt _ (by decide)) rfl (WPL.nil h)) ?_
      refine WPE.fork2 (i := 0) (j := 15) (by kernel_rfl) rfl rfl (.inr hO) ?_ ?_
      · refine WPL.call rfl (r3_Of64) Tryz.func63 rfl rfl rfl ?_
        rintro _ w ⟨hf19, rfl⟩
        have hO := hO.call hf19
        refine WPL.nil ?_
        refine WPE.fork2 (i := 11) (j := 15) (by kernel_rfl) rfl rfl (.inr hO) ?_ ?_
        · have hfin' : (R.l.getD i (0, 0)).1 * 2 % 18446744073709551616 / 2 < 9218868437227405312 := by rw [half_bits]; exact (hR.ok.get (i := i) (by omega)).2.1
          have hke : numE 53 (-1074) ((R.l.getD i (0, 0)).1 * 2 % 18446744073709551616 / 2) ≤ 100000 := numE_fin hfin'
          refine WPL.call rfl (r3_Bits 53 (-1074) 9218868437227405312 (by decide) false ((R.l.getD i (0, 0)).1 * 2 % 18446744073709551616 / 2) hfin' (by decide) hke) Tryz.func64 rfl rfl rfl ?_
          rintro _ w ⟨hf30, a30, c30, rfl, hc30, hr30⟩
          rw [half_bits, ← fabs] at hc30 hr30
          rw [half_bits, ← fabs]
          have hO := hO.res hf30 hr30
          unfold dyV
          refine WPL.nil ?_
          refine WPE.pv (i := 12) (by kernel_rfl) rfl rfl (fun w k' h => WPL.mv (v := .tuple #[.agg #[.bool _, .slice _ _ _, .int .i64 _], .bool _]) rfl rfl (WPL.nil h)) ?_
          refine WPE.pv (i := 13) (by kernel_rfl) rfl rfl (fun w k' h => WPL.ext (v := .agg #[.bool _, .slice _ _ _, .int .i64 _]) rfl rfl rfl (WPL.nil h)) ?_
          refine WPE.pv (i := 14) (by kernel_rfl) rfl rfl (fun w k' h => WPL.ext (v := .bool _) rfl rfl rfl (WPL.nil h)) ?_
          refine WPE.eff (i := 15) (by kernel_rfl) rfl (Own.dropR hO) ?_
          refine WPL.al hO rfl (fun b1 w hO => ?_)
          refine WPL.nil ?_
          refine WPE.eff (i := 16) (by kernel_rfl) rfl (Own.dropR (Own.drop1 hO)) ?_
          refine WPL.stLA (T := T46) (vs := [.bool (fabs (R.l.getD i (0, 0)).1).s, .slice a30 (dig (fabs (R.l.getD i (0, 0)).1).m).length c30, .int .i64 (fabs (R.l.getD i (0, 0)).1).e]) rfl rfl hO inferInstance inferInstance (by simp [Value.oneCell']) rfl rfl (fun w hO => ?_)
          refine WPL.nil ?_
          refine WPE.pv (i := 17) (by kernel_rfl) rfl rfl (fun w k' h => WPL.as (v := .bool _) rfl rfl (WPL.nil h)) ?_
          refine WPE.nilX (by kernel_rfl) (by kernel_rfl) ?_
          refine WP.rs ?_
          refine WPL.fa rfl rfl ?_
          refine WPL.ldL rfl hO inferInstance rfl rfl rfl ?_
          have hfi := fabs_in (hR.ok.get (i := i) (by omega)).2.1
          have hlf := len_blen (k := 8192) (show blen (fabs (R.l.getD i (0, 0)).1).m ≤ 32 * 8192 by omega)
          refine WPL.call rfl (r2_Len a30 (dig (fabs (R.l.getD i (0, 0)).1).m) _ hO.rd (dig_wd _) (val_dig _) hc30 rfl (by omega)) Tryz.func67 rfl rfl rfl ?_
          rintro _ _ ⟨rfl, rfl⟩
          refine WPL.as (v := .int .i64 _) rfl rfl ?_
          refine WPL.nil ?_
          refine WP.block ?_
          simp only [putAt, List.set] at hO
          have hfi := fabs_in (hR.ok.get (i := i) (by omega)).2.1
          refine WP.loop (fun m' σ ds w' => ∃ t, (m' : Int) = 100000 - t ∧ topN R.l i ≤ t ∧ t ≤ 1000 ∧ (t = topN R.l i ∨ (0 < blen (fabs (R.l.getD i (0, 0)).1).m ∧ 32 * t ≤ (blen (fabs (R.l.getD i (0, 0)).1).m : Int) - 1 + (fabs (R.l.getD i (0, 0)).1).e)) ∧ Has σ [(0, .pointer (some ⟨r, 0, none⟩)), (4, .int .i64 t), (5, .int .i64 (i : Int)), (6, .pointer (some ⟨b1, 0, none⟩)), (8, .int .i64 (blen (fabs (R.l.getD i (0, 0)).1).m : Int))] ∧ ds = [] ∧ Own [] w0 [] [⟨b1, [.bool (fabs (R.l.getD i (0, 0)).1).s, .slice a30 (dig (fabs (R.l.getD i (0, 0)).1).m).length c30, .int .i64 (fabs (R.l.getD i (0, 0)).1).e], 46⟩] [⟨some ⟨r, 0, none⟩, rfC R a c⟩, ⟨a, oc R.l⟩] w') (100000 - topN R.l i).toNat ?_ ?_
          · exact ⟨topN R.l i, by omega, by omega, by omega, .inl rfl, ⟨rfl, rfl, rfl, rfl, rfl, trivial⟩, rfl, hO.subL.subR⟩
          · rintro m' σ ds w ⟨t, hm', ht1, ht2, ht3, hH, rfl, hO⟩
            refine WP.reset hH ?_
            refine WP.seq ?_
            refine WP.rs ?_
            refine WPL.mv (v := .int .i64 _) rfl rfl ?_
            refine WPL.gt rfl rfl rfl ?_
            refine WPL.mv (v := .bool _) rfl rfl ?_
            refine WPL.split (s := 38) rfl (fun h2 => ?_) (fun h2 => ?_)
            · have ph2 := of_decide_eq_true h2
              refine WPL.guardT rfl rfl h2 ?_
              refine WPL.mv (v := .int .i64 _) rfl rfl ?_
              refine WPL.guardT rfl rfl h2 ?_
              refine WPL.addI rfl rfl (by omega) rfl ?_
              refine WPL.guardT rfl rfl h2 ?_
              refine WPL.mulI rfl rfl (by omega) rfl ?_
              refine WPL.guardT rfl rfl h2 ?_
              refine WPL.mv (v := .int .i64 _) rfl rfl ?_
              refine WPL.guardT rfl rfl h2 ?_
              refine WPL.subI rfl rfl (by omega) rfl ?_
              refine WPL.guardT rfl rfl h2 ?_
              refine WPL.fa rfl rfl ?_
              refine WPL.guardT rfl rfl h2 ?_
              refine WPL.ldL rfl hO inferInstance rfl rfl rfl ?_
              refine WPL.guardT rfl rfl h2 ?_
              refine WPL.addI rfl rfl (by omega) rfl ?_
              refine WPL.guardT rfl rfl h2 ?_
              refine WPL.le rfl rfl rfl ?_
              refine WPL.pkT (v := .bool _) rfl h2 rfl rfl ?_
              refine WPL.nil ?_
              refine WP.condP rfl (fun h3 => ?_) (fun h3 => ?_)
              · refine WP.skip ?_
                refine WP.block ?_
                refine WP.region ?_
                refine WPL.mv (v := .int .i64 _) rfl rfl ?_
                refine WPL.addI rfl rfl (by omega) rfl ?_
                refine WPL.as (v := .int .i64 _) rfl rfl ?_
                refine WPL.nil ?_
                exact ⟨m' - 1, by omega, t + 1, by omega, by omega, by omega, .inr (by omega), ⟨rfl, rfl, rfl, rfl, rfl, trivial⟩, rfl, hO⟩
              · refine WP.exit ?_
                refine WP.region ?_
                refine WPL.mv (v := .int .i64 _) rfl rfl ?_
                refine WPL.addI rfl rfl (by omega) rfl ?_
                refine WPL.as (v := .int .i64 _) rfl rfl ?_
                refine WPL.nil ?_
                have et : t = topN R.l (i + 1) := by
                  rw [topN_succ (by omega)]
                  unfold topS
                  split
                  · rename_i hm
                    have hb0 : blen (fabs (R.l.getD i (0, 0)).1).m = 0 := by rw [hm]; rfl
                    omega
                  · rename_i hm
                    have hb0 := blen_pos hm
                    omega
                exact ⟨m - 1, by omega, i + 1, by omega, ⟨rfl, by rw [← et]; rfl, rfl, trivial⟩, rfl, hO.subL.subR⟩
            · have ph2 := of_decide_eq_false h2
              refine WPL.guardF rfl rfl rfl h2 ?_
              refine WPL.guardF rfl rfl rfl h2 ?_
              refine WPL.guardF rfl rfl rfl h2 ?_
              refine WPL.guardF rfl rfl rfl h2 ?_
              refine WPL.guardF rfl rfl rfl h2 ?_
              refine WPL.guardF rfl rfl rfl h2 ?_
              refine WPL.guardF rfl rfl rfl h2 ?_
              refine WPL.guardF rfl rfl rfl h2 ?_
              refine WPL.guardF rfl rfl rfl h2 ?_
              refine WPL.pkF (v := .bool false) rfl h2 rfl rfl ?_
              refine WPL.nil ?_
              refine WP.cF rfl rfl ?_
              refine WP.exit ?_
              refine WP.region ?_
              refine WPL.mv (v := .int .i64 _) rfl rfl ?_
              refine WPL.addI rfl rfl (by omega) rfl ?_
              refine WPL.as (v := .int .i64 _) rfl rfl ?_
              refine WPL.nil ?_
              have et : t = topN R.l (i + 1) := by
                rw [topN_succ (by omega)]
                unfold topS
                split
                · rename_i hm
                  have hb0 : blen (fabs (R.l.getD i (0, 0)).1).m = 0 := by rw [hm]; rfl
                  omega
                · rename_i hm
                  have hb0 := blen_pos hm
                  omega
              exact ⟨m - 1, by omega, i + 1, by omega, ⟨rfl, by rw [← et]; rfl, rfl, trivial⟩, rfl, hO.subL.subR⟩
        · refine WPL.al hO rfl (fun b2 w hO => ?_)
          refine WPL.nil ?_
          refine WPE.eff (i := 11) (by kernel_rfl) rfl (Own.drop1 hO) ?_
          have hfin' : (R.l.getD i (0, 0)).1 * 2 % 18446744073709551616 / 2 < 9218868437227405312 := by rw [half_bits]; exact (hR.ok.get (i := i) (by omega)).2.1
          have hke : numE 53 (-1074) ((R.l.getD i (0, 0)).1 * 2 % 18446744073709551616 / 2) ≤ 100000 := numE_fin hfin'
          refine WPL.call rfl (r3_Bits 53 (-1074) 9218868437227405312 (by decide) false ((R.l.getD i (0, 0)).1 * 2 % 18446744073709551616 / 2) hfin' (by decide) hke) Tryz.func64 rfl rfl rfl ?_
          rintro _ w ⟨hf30, a30, c30, rfl, hc30, hr30⟩
          rw [half_bits, ← fabs] at hc30 hr30
          rw [half_bits, ← fabs]
          have hO := hO.res hf30 hr30
          unfold dyV
          refine WPL.nil ?_
          refine WPE.pv (i := 12) (by kernel_rfl) rfl rfl (fun w k' h => WPL.mv (v := .tuple #[.agg #[.bool _, .slice _ _ _, .int .i64 _], .bool _]) rfl rfl (WPL.nil h)) ?_
          refine WPE.pv (i := 13) (by kernel_rfl) rfl rfl (fun w k' h => WPL.ext (v := .agg #[.bool _, .slice _ _ _, .int .i64 _]) rfl rfl rfl (WPL.nil h)) ?_
          refine WPE.pv (i := 14) (by kernel_rfl) rfl rfl (fun w k' h => WPL.ext (v := .bool _) rfl rfl rfl (WPL.nil h)) ?_
          refine WPE.eff (i := 16) (by kernel_rfl) rfl (Own.drop1 (Own.dropR hO)) ?_
          refine WPL.stLA (T := T46) (vs := [.bool (fabs (R.l.getD i (0, 0)).1).s, .slice a30 (dig (fabs (R.l.getD i (0, 0)).1).m).length c30, .int .i64 (fabs (R.l.getD i (0, 0)).1).e]) rfl rfl hO inferInstance inferInstance (by simp [Value.oneCell']) rfl rfl (fun w hO => ?_)
          refine WPL.nil ?_
          refine WPE.pv (i := 17) (by kernel_rfl) rfl rfl (fun w k' h => WPL.as (v := .bool _) rfl rfl (WPL.nil h)) ?_
          refine WPE.nilX (by kernel_rfl) (by kernel_rfl) ?_
          refine WP.rs ?_
          refine WPL.fa rfl rfl ?_
          refine WPL.ldL rfl hO inferInstance rfl rfl rfl ?_
          have hfi := fabs_in (hR.ok.get (i := i) (by omega)).2.1
          have hlf := len_blen (k := 8192) (show blen (fabs (R.l.getD i (0, 0)).1).m ≤ 32 * 8192 by omega)
          refine WPL.call rfl (r2_Len a30 (dig (fabs (R.l.getD i (0, 0)).1).m) _ hO.rd (dig_wd _) (val_dig _) hc30 rfl (by omega)) Tryz.func67 rfl rfl rfl ?_
          rintro _ _ ⟨rfl, rfl⟩
          refine WPL.as (v := .int .i64 _) rfl rfl ?_
          refine WPL.nil ?_
          refine WP.block ?_
          simp only [putAt, List.set] at hO
          have hfi := fabs_in (hR.ok.get (i := i) (by omega)).2.1
          refine WP.loop (fun m' σ ds w' => ∃ t, (m' : Int) = 100000 - t ∧ topN R.l i ≤ t ∧ t ≤ 1000 ∧ (t = topN R.l i ∨ (0 < blen (fabs (R.l.getD i (0, 0)).1).m ∧ 32 * t ≤ (blen (fabs (R.l.getD i (0, 0)).1).m : Int) - 1 + (fabs (R.l.getD i (0, 0)).1).e)) ∧ Has σ [(0, .pointer (some ⟨r, 0, none⟩)), (4, .int .i64 t), (5, .int .i64 (i : Int)), (6, .pointer (some ⟨b2, 0, none⟩)), (8, .int .i64 (blen (fabs (R.l.getD i (0, 0)).1).m : Int))] ∧ ds = [] ∧ Own [] w0 [] [⟨b2, [.bool (fabs (R.l.getD i (0, 0)).1).s, .slice a30 (dig (fabs (R.l.getD i (0, 0)).1).m).length c30, .int .i64 (fabs (R.l.getD i (0, 0)).1).e], 46⟩] [⟨some ⟨r, 0, none⟩, rfC R a c⟩, ⟨a, oc R.l⟩] w') (100000 - topN R.l i).toNat ?_ ?_
          · exact ⟨topN R.l i, by omega, by omega, by omega, .inl rfl, ⟨rfl, rfl, rfl, rfl, rfl, trivial⟩, rfl, hO.subL.subR⟩
          · rintro m' σ ds w ⟨t, hm', ht1, ht2, ht3, hH, rfl, hO⟩
            refine WP.reset hH ?_
            refine WP.seq ?_
            refine WP.rs ?_
            refine WPL.mv (v := .int .i64 _) rfl rfl ?_
            refine WPL.gt rfl rfl rfl ?_
            refine WPL.mv (v := .bool _) rfl rfl ?_
            refine WPL.split (s := 38) rfl (fun h4 => ?_) (fun h4 => ?_)
            · have ph4 := of_decide_eq_true h4
              refine WPL.guardT rfl rfl h4 ?_
              refine WPL.mv (v := .int .i64 _) rfl rfl ?_
              refine WPL.guardT rfl rfl h4 ?_
              refine WPL.addI rfl rfl (by omega) rfl ?_
              refine WPL.guardT rfl rfl h4 ?_
              refine WPL.mulI rfl rfl (by omega) rfl ?_
              refine WPL.guardT rfl rfl h4 ?_
              refine WPL.mv (v := .int .i64 _) rfl rfl ?_
              refine WPL.guardT rfl rfl h4 ?_
              refine WPL.subI rfl rfl (by omega) rfl ?_
              refine WPL.guardT rfl rfl h4 ?_
              refine WPL.fa rfl rfl ?_
              refine WPL.guardT rfl rfl h4 ?_
              refine WPL.ldL rfl hO inferInstance rfl rfl rfl ?_
              refine WPL.guardT rfl rfl h4 ?_
              refine WPL.addI rfl rfl (by omega) rfl ?_
              refine WPL.guardT rfl rfl h4 ?_
              refine WPL.le rfl rfl rfl ?_
              refine WPL.pkT (v := .bool _) rfl h4 rfl rfl ?_
              refine WPL.nil ?_
              refine WP.condP rfl (fun h5 => ?_) (fun h5 => ?_)
              · refine WP.skip ?_
                refine WP.block ?_
                refine WP.region ?_
                refine WPL.mv (v := .int .i64 _) rfl rfl ?_
                refine WPL.addI rfl rfl (by omega) rfl ?_
                refine WPL.as (v := .int .i64 _) rfl rfl ?_
                refine WPL.nil ?_
                exact ⟨m' - 1, by omega, t + 1, by omega, by omega, by omega, .inr (by omega), ⟨rfl, rfl, rfl, rfl, rfl, trivial⟩, rfl, hO⟩
              · refine WP.exit ?_
                refine WP.region ?_
                refine WPL.mv (v := .int .i64 _) rfl rfl ?_
                refine WPL.addI rfl rfl (by omega) rfl ?_
                refine WPL.as (v := .int .i64 _) rfl rfl ?_
                refine WPL.nil ?_
                have et : t = topN R.l (i + 1) := by
                  rw [topN_succ (by omega)]
                  unfold topS
                  split
                  · rename_i hm
                    have hb0 : blen (fabs (R.l.getD i (0, 0)).1).m = 0 := by rw [hm]; rfl
                    omega
                  · rename_i hm
                    have hb0 := blen_pos hm
                    omega
                exact ⟨m - 1, by omega, i + 1, by omega, ⟨rfl, by rw [← et]; rfl, rfl, trivial⟩, rfl, hO.subL.subR⟩
            · have ph4 := of_decide_eq_false h4
              refine WPL.guardF rfl rfl rfl h4 ?_
              refine WPL.guardF rfl rfl rfl h4 ?_
              refine WPL.guardF rfl rfl rfl h4 ?_
              refine WPL.guardF rfl rfl rfl h4 ?_
              refine WPL.guardF rfl rfl rfl h4 ?_
              refine WPL.guardF rfl rfl rfl h4 ?_
              refine WPL.guardF rfl rfl rfl h4 ?_
              refine WPL.guardF rfl rfl rfl h4 ?_
              refine WPL.guardF rfl rfl rfl h4 ?_
              refine WPL.pkF (v := .bool false) rfl h4 rfl rfl ?_
              refine WPL.nil ?_
              refine WP.cF rfl rfl ?_
              refine WP.exit ?_
              refine WP.region ?_
              refine WPL.mv (v := .int .i64 _) rfl rfl ?_
              refine WPL.addI rfl rfl (by omega) rfl ?_
              refine WPL.as (v := .int .i64 _) rfl rfl ?_
              refine WPL.nil ?_
              have et : t = topN R.l (i + 1) := by
                rw [topN_succ (by omega)]
                unfold topS
                split
                · rename_i hm
                  have hb0 : blen (fabs (R.l.getD i (0, 0)).1).m = 0 := by rw [hm]; rfl
                  omega
                · rename_i hm
                  have hb0 := blen_pos hm
                  omega
              exact ⟨m - 1, by omega, i + 1, by omega, ⟨rfl, by rw [← et]; rfl, rfl, trivial⟩, rfl, hO.subL.subR⟩
      · refine WPL.al hO rfl (fun b3 w hO => ?_)
        refine WPL.nil ?_
        refine WPE.eff (i := 0) (by kernel_rfl) rfl (Own.drop1 hO) ?_
        refine WPL.call rfl (r3_Of64) Tryz.func63 rfl rfl rfl ?_
        rintro _ w ⟨hf19, rfl⟩
        have hO := hO.call hf19
        refine WPL.nil ?_
        refine WPE.eff (i := 11) (by kernel_rfl) rfl (Own.drop1 hO) ?_
        have hfin' : (R.l.getD i (0, 0)).1 * 2 % 18446744073709551616 / 2 < 9218868437227405312 := by rw [half_bits]; exact (hR.ok.get (i := i) (by omega)).2.1
        have hke : numE 53 (-1074) ((R.l.getD i (0, 0)).1 * 2 % 18446744073709551616 / 2) ≤ 100000 := numE_fin hfin'
        refine WPL.call rfl (r3_Bits 53 (-1074) 9218868437227405312 (by decide) false ((R.l.getD i (0, 0)).1 * 2 % 18446744073709551616 / 2) hfin' (by decide) hke) Tryz.func64 rfl rfl rfl ?_
        rintro _ w ⟨hf30, a30, c30, rfl, hc30, hr30⟩
        rw [half_bits, ← fabs] at hc30 hr30
        rw [half_bits, ← fabs]
        have hO := hO.res hf30 hr30
        unfold dyV
        refine WPL.nil ?_
        refine WPE.pv (i := 12) (by kernel_rfl) rfl rfl (fun w k' h => WPL.mv (v := .tuple #[.agg #[.bool _, .slice _ _ _, .int .i64 _], .bool _]) rfl rfl (WPL.nil h)) ?_
        refine WPE.pv (i := 13) (by kernel_rfl) rfl rfl (fun w k' h => WPL.ext (v := .agg #[.bool _, .slice _ _ _, .int .i64 _]) rfl rfl rfl (WPL.nil h)) ?_
        refine WPE.pv (i := 14) (by kernel_rfl) rfl rfl (fun w k' h => WPL.ext (v := .bool _) rfl rfl rfl (WPL.nil h)) ?_
        refine WPE.eff (i := 16) (by kernel_rfl) rfl (Own.drop1 (Own.dropR hO)) ?_
        refine WPL.stLA (T := T46) (vs := [.bool (fabs (R.l.getD i (0, 0)).1).s, .slice a30 (dig (fabs (R.l.getD i (0, 0)).1).m).length c30, .int .i64 (fabs (R.l.getD i (0, 0)).1).e]) rfl rfl hO inferInstance inferInstance (by simp [Value.oneCell']) rfl rfl (fun w hO => ?_)
        refine WPL.nil ?_
        refine WPE.pv (i := 17) (by kernel_rfl) rfl rfl (fun w k' h => WPL.as (v := .bool _) rfl rfl (WPL.nil h)) ?_
        refine WPE.nilX (by kernel_rfl) (by kernel_rfl) ?_
        refine WP.rs ?_
        refine WPL.fa rfl rfl ?_
        refine WPL.ldL rfl hO inferInstance rfl rfl rfl ?_
        have hfi := fabs_in (hR.ok.get (i := i) (by omega)).2.1
        have hlf := len_blen (k := 8192) (show blen (fabs (R.l.getD i (0, 0)).1).m ≤ 32 * 8192 by omega)
        refine WPL.call rfl (r2_Len a30 (dig (fabs (R.l.getD i (0, 0)).1).m) _ hO.rd (dig_wd _) (val_dig _) hc30 rfl (by omega)) Tryz.func67 rfl rfl rfl ?_
        rintro _ _ ⟨rfl, rfl⟩
        refine WPL.as (v := .int .i64 _) rfl rfl ?_
        refine WPL.nil ?_
        refine WP.block ?_
        simp only [putAt, List.set] at hO
        have hfi := fabs_in (hR.ok.get (i := i) (by omega)).2.1
        refine WP.loop (fun m' σ ds w' => ∃ t, (m' : Int) = 100000 - t ∧ topN R.l i ≤ t ∧ t ≤ 1000 ∧ (t = topN R.l i ∨ (0 < blen (fabs (R.l.getD i (0, 0)).1).m ∧ 32 * t ≤ (blen (fabs (R.l.getD i (0, 0)).1).m : Int) - 1 + (fabs (R.l.getD i (0, 0)).1).e)) ∧ Has σ [(0, .pointer (some ⟨r, 0, none⟩)), (4, .int .i64 t), (5, .int .i64 (i : Int)), (6, .pointer (some ⟨b3, 0, none⟩)), (8, .int .i64 (blen (fabs (R.l.getD i (0, 0)).1).m : Int))] ∧ ds = [] ∧ Own [] w0 [] [⟨b3, [.bool (fabs (R.l.getD i (0, 0)).1).s, .slice a30 (dig (fabs (R.l.getD i (0, 0)).1).m).length c30, .int .i64 (fabs (R.l.getD i (0, 0)).1).e], 46⟩] [⟨some ⟨r, 0, none⟩, rfC R a c⟩, ⟨a, oc R.l⟩] w') (100000 - topN R.l i).toNat ?_ ?_
        · exact ⟨topN R.l i, by omega, by omega, by omega, .inl rfl, ⟨rfl, rfl, rfl, rfl, rfl, trivial⟩, rfl, hO.subL.subR⟩
        · rintro m' σ ds w ⟨t, hm', ht1, ht2, ht3, hH, rfl, hO⟩
          refine WP.reset hH ?_
          refine WP.seq ?_
          refine WP.rs ?_
          refine WPL.mv (v := .int .i64 _) rfl rfl ?_
          refine WPL.gt rfl rfl rfl ?_
          refine WPL.mv (v := .bool _) rfl rfl ?_
          refine WPL.split (s := 38) rfl (fun h6 => ?_) (fun h6 => ?_)
          · have ph6 := of_decide_eq_true h6
            refine WPL.guardT rfl rfl h6 ?_
            refine WPL.mv (v := .int .i64 _) rfl rfl ?_
            refine WPL.guardT rfl rfl h6 ?_
            refine WPL.addI rfl rfl (by omega) rfl ?_
            refine WPL.guardT rfl rfl h6 ?_
            refine WPL.mulI rfl rfl (by omega) rfl ?_
            refine WPL.guardT rfl rfl h6 ?_
            refine WPL.mv (v := .int .i64 _) rfl rfl ?_
            refine WPL.guardT rfl rfl h6 ?_
            refine WPL.subI rfl rfl (by omega) rfl ?_
            refine WPL.guardT rfl rfl h6 ?_
            refine WPL.fa rfl rfl ?_
            refine WPL.guardT rfl rfl h6 ?_
            refine WPL.ldL rfl hO inferInstance rfl rfl rfl ?_
            refine WPL.guardT rfl rfl h6 ?_
            refine WPL.addI rfl rfl (by omega) rfl ?_
            refine WPL.guardT rfl rfl h6 ?_
            refine WPL.le rfl rfl rfl ?_
            refine WPL.pkT (v := .bool _) rfl h6 rfl rfl ?_
            refine WPL.nil ?_
            refine WP.condP rfl (fun h7 => ?_) (fun h7 => ?_)
            · refine WP.skip ?_
              refine WP.block ?_
              refine WP.region ?_
              refine WPL.mv (v := .int .i64 _) rfl rfl ?_
              refine WPL.addI rfl rfl (by omega) rfl ?_
              refine WPL.as (v := .int .i64 _) rfl rfl ?_
              refine WPL.nil ?_
              exact ⟨m' - 1, by omega, t + 1, by omega, by omega, by omega, .inr (by omega), ⟨rfl, rfl, rfl, rfl, rfl, trivial⟩, rfl, hO⟩
            · refine WP.exit ?_
              refine WP.region ?_
              refine WPL.mv (v := .int .i64 _) rfl rfl ?_
              refine WPL.addI rfl rfl (by omega) rfl ?_
              refine WPL.as (v := .int .i64 _) rfl rfl ?_
              refine WPL.nil ?_
              have et : t = topN R.l (i + 1) := by
                rw [topN_succ (by omega)]
                unfold topS
                split
                · rename_i hm
                  have hb0 : blen (fabs (R.l.getD i (0, 0)).1).m = 0 := by rw [hm]; rfl
                  omega
                · rename_i hm
                  have hb0 := blen_pos hm
                  omega
              exact ⟨m - 1, by omega, i + 1, by omega, ⟨rfl, by rw [← et]; rfl, rfl, trivial⟩, rfl, hO.subL.subR⟩
          · have ph6 := of_decide_eq_false h6
            refine WPL.guardF rfl rfl rfl h6 ?_
            refine WPL.guardF rfl rfl rfl h6 ?_
            refine WPL.guardF rfl rfl rfl h6 ?_
            refine WPL.guardF rfl rfl rfl h6 ?_
            refine WPL.guardF rfl rfl rfl h6 ?_
            refine WPL.guardF rfl rfl rfl h6 ?_
            refine WPL.guardF rfl rfl rfl h6 ?_
            refine WPL.guardF rfl rfl rfl h6 ?_
            refine WPL.guardF rfl rfl rfl h6 ?_
            refine WPL.pkF (v := .bool false) rfl h6 rfl rfl ?_
            refine WPL.nil ?_
            refine WP.cF rfl rfl ?_
            refine WP.exit ?_
            refine WP.region ?_
            refine WPL.mv (v := .int .i64 _) rfl rfl ?_
            refine WPL.addI rfl rfl (by omega) rfl ?_
            refine WPL.as (v := .int .i64 _) rfl rfl ?_
            refine WPL.nil ?_
            have et : t = topN R.l (i + 1) := by
              rw [topN_succ (by omega)]
              unfold topS
              split
              · rename_i hm
                have hb0 : blen (fabs (R.l.getD i (0, 0)).1).m = 0 := by rw [hm]; rfl
                omega
              · rename_i hm
                have hb0 := blen_pos hm
                omega
            exact ⟨m - 1, by omega, i + 1, by omega, ⟨rfl, by rw [← et]; rfl, rfl, trivial⟩, rfl, hO.subL.subR⟩
    · refine WP.exit ?_
      refine WP.rs ?_
      refine WPL.mv (v := .int .i64 _) rfl rfl ?_
      refine WPL.mv (v := .int .i64 _) rfl rfl ?_
      refine WPL.ge rfl rfl rfl ?_
      refine WPL.as (v := .int .i64 _) rfl rfl ?_
      refine WPL.as (v := .bool _) rfl rfl ?_
      refine WPL.nil ?_
      refine WP.ret ?_
      refine ⟨rfl, ?_⟩
      refine RO.tmp (v := .int .i64 _) rfl ?_
      refine RO.tmp (v := .bool _) rfl ?_
      refine RO.nil ?_
      obtain rfl : i = R.l.length := by omega
      exact ⟨hO.fr, by rw [topN_all]; rfl⟩

theorem r9_Kept {w0 : World} (r : Nat) (R : Rf) (a : Option Addr) (c : Nat) (hr : RowOk w0 [] ⟨some ⟨r, 0, none⟩, rfC R a c⟩) (hra : RowOk w0 [] ⟨a, oc R.l⟩) (hc : R.l.length ≤ c) (hR : R.Ok) : Spec Tryz.prog 24 [.pointer (some ⟨r, 0, none⟩)] w0 (fun v w' => FrX [] w0 w' ∧ ∃ D : Dy, Worth D R.sumV ∧ DyRes w0 w' 62 D v) := by
  have hO : Own [] w0 [] [] [⟨some ⟨r, 0, none⟩, rfC R a c⟩, ⟨a, oc R.l⟩] w0 := Own.start (by intro e he; cases he) (by
      simp only [List.mem_cons, List.not_mem_nil, or_false]
      rintro r (rfl | rfl)
      · exact hr
      · exact hra)
  have hlen := hR.ok.len
  have hsum := hR.sum
  have hRn := hR.n
  have hol := oc_length R.l
  have hfo := hR.fold
  have htl := topN_le hR.ok R.l.length
  rw [topN_all] at htl
  refine Spec.enter (n := 88) (rs := [.cell 2 46]) Tryz.func24 rfl rfl rfl rfl ?_
  refine WP.rs ?_
  refine WPL.al hO rfl (fun b1 w hO => ?_)
  refine WPL.nil ?_
  refine WP.rs ?_
  refine WPL.al hO rfl (fun b2 w hO => ?_)
  refine WPL.nil ?_
  refine WP.rs ?_
  refine WPL.mv (v := .pointer _) rfl rfl ?_
  refine WPL.call rfl (r9_top r R a c (hO.rows _ (List.mem_cons_self ..)).weak (hO.rows _ (List.mem_cons_of_mem _ (List.mem_cons_self ..))).weak hc hR) Tryz.func43 rfl rfl rfl ?_
  rintro _ w ⟨hf14, rfl⟩
  have hO := hO.call hf14
  refine WPL.mv (v := .tuple #[.int .i64 _, .bool _]) rfl rfl ?_
  refine WPL.ext (v := .int .i64 _) rfl rfl rfl ?_
  refine WPL.ext (v := .bool _) rfl rfl rfl ?_
  refine WPL.as (v := .int .i64 _) rfl rfl ?_
  refine WPL.as (v := .bool _) rfl rfl ?_
  refine WPL.nil ?_
  refine WP.seq ?_
  refine WP.rs ?_
  refine WPL.mv (v := .int .i64 _) rfl rfl ?_
  refine WPL.as (v := .int .i64 _) rfl rfl ?_
  refine WPL.nil ?_
  refine WP.block ?_
  refine WP.loop (fun m σ ds w' => ∃ (q : Nat) (D : Dy) (a3 : Option Addr) (c3 : Nat) (G : List Blk), m + q = R.fold ∧ (-34 ≤ topL R.l ∨ q = 0) ∧ D.Can ∧ D.Ge 1400 ∧ dv 1400 D = rsumN R.l (topL R.l) q ∧ Grown a3 c3 1 (ws .u32 (dig D.m)) 62 G ∧ (dig D.m).length ≤ c3 ∧ Has σ [(0, .pointer (some ⟨r, 0, none⟩)), (2, .pointer (some ⟨b1, 0, none⟩)), (3, .pointer (some ⟨b2, 0, none⟩)), (4, .int .i64 (topL R.l)), (5, .bool (decide (-34 ≤ topL R.l))), (6, .int .i64 (topL R.l - q))] ∧ ds = [] ∧ Own [] w0 [] (G ++ [⟨b2, [.bool (D).s, .slice a3 (dig (D).m).length c3, .int .i64 (D).e], 46⟩, ⟨b1, [.bool false, .slice none 0 0, .int .i64 0], 46⟩]) [⟨some ⟨r, 0, none⟩, rfC R a c⟩, ⟨a, oc R.l⟩] w') R.fold ?_ ?_
  · refine ⟨0, ⟨false, 0, 0⟩, none, 0, [], rfl, .inr rfl, zero_can, by unfold Dy.Ge; decide, dv_zero, .inl ⟨rfl, rfl, by simp [dig_zero, ws], rfl⟩, by simp [dig_zero], ⟨rfl, rfl, rfl, rfl, rfl, by show Value.int .i64 _ = _; congr 1; omega, trivial⟩, rfl, ?_⟩
    simp only [dig_zero]; exact hO
  · rintro m σ ds w ⟨q, D, a3, c3, G, hq, hq0, hDc, hDg, hDv, hG, hc3, hH, rfl, hO⟩
    refine WP.reset hH ?_
    refine WP.seq ?_
    refine WP.rs ?_
    refine WPL.mv (v := .bool _) rfl rfl ?_
    refine WPL.mv (v := .bool _) rfl rfl ?_
    refine WPL.split (s := 19) rfl (fun h1 => ?_) (fun h1 => ?_)
    · refine WPL.guardT rfl rfl h1 ?_
      refine WPL.mv (v := .int .i64 _) rfl rfl ?_
      refine WPL.guardT rfl rfl h1 ?_
      refine WPL.mv (v := .int .i64 _) rfl rfl ?_
      refine WPL.guardT rfl rfl h1 ?_
      refine WPL.mv (v := .pointer _) rfl rfl ?_
      refine WPL.guardT rfl rfl h1 ?_
      refine WPL.nc rfl rfl ?_
      refine WPL.guardT rfl rfl h1 ?_
      refine WPL.fa rfl rfl ?_
      refine WPL.guardT rfl rfl h1 ?_
      refine WPL.ldR (a := some ⟨r, 0, none⟩) (j := 0) rfl hO inferInstance rfl rfl rfl ?_
      refine WPL.guardT rfl rfl h1 ?_
      refine WPL.subI rfl rfl (by omega) rfl ?_
      refine WPL.guardT rfl rfl h1 ?_
      refine WPL.gt rfl rfl rfl ?_
      refine WPL.pkT (v := .bool _) rfl h1 rfl rfl ?_
      refine WPL.nil ?_
      refine WP.condP rfl (fun h2 => ?_) (fun h2 => ?_)
      · refine WP.skip ?_
        refine WP.seq ?_
        refine WP.block ?_
        refine WP.rs ?_
        refine WPL.as (v := .int .i64 0) rfl rfl ?_
        refine WPL.nil ?_
        refine WP.block ?_
        refine WP.loop (fun m' σ ds w' => ∃ (i : Nat) (D : Dy) (a3 : Option Addr) (c3 : Nat) (G : List Blk), m' + i = R.l.length ∧ D.Can ∧ D.Ge 1400 ∧ dv 1400 D = rsumN R.l (topL R.l) q + RS (topL R.l - q) (R.l.take i) * (pw (topL R.l - q) : Int) ∧ Grown a3 c3 1 (ws .u32 (dig D.m)) 62 G ∧ (dig D.m).length ≤ c3 ∧ Has σ [(0, .pointer (some ⟨r, 0, none⟩)), (2, .pointer (some ⟨b1, 0, none⟩)), (3, .pointer (some ⟨b2, 0, none⟩)), (4, .int .i64 (topL R.l)), (5, .bool (decide (-34 ≤ topL R.l))), (6, .int .i64 (topL R.l - q)), (7, .int .i64 (i : Int))] ∧ ds = [] ∧ Own [] w0 [] (G ++ [⟨b2, [.bool (D).s, .slice a3 (dig (D).m).length c3, .int .i64 (D).e], 46⟩, ⟨b1, [.bool false, .slice none 0 0, .int .i64 0], 46⟩]) [⟨some ⟨r, 0, none⟩, rfC R a c⟩, ⟨a, oc R.l⟩] w') R.l.length ?_ ?_
        · exact ⟨0, D, a3, c3, G, rfl, hDc, hDg, by simp [RS, hDv], hG, hc3, ⟨rfl, rfl, rfl, rfl, rfl, rfl, rfl, trivial⟩, rfl, hO⟩
        · clear hO hG
          rintro m' σ ds w ⟨i, D', a4, c4, G', hi, hEc, hEg, hEv, hG', hc4, hH, rfl, hO⟩
          refine WP.reset hH ?_
          have hb2468 := part_le (l := R.l) (top := topL R.l) (by omega) (by omega) (q := q) (by omega) i
          rw [← hEv] at hb2468
          have hEB : D'.B 60000 := Dy.B_of_dv hEc hEg hb2468 (by decide) (by decide)
          clear hb2468
          refine WP.seq ?_
          refine WP.rs ?_
          refine WPL.mv (v := .int .i64 _) rfl rfl ?_
          refine WPL.mv (v := .pointer _) rfl rfl ?_
          refine WPL.nc rfl rfl ?_
          refine WPL.fa rfl rfl ?_
          refine WPL.ldR (a := some ⟨r, 0, none⟩) (j := 1) rfl hO inferInstance rfl rfl rfl ?_
          refine WPL.len rfl rfl ?_
          refine WPL.lt rfl rfl rfl ?_
          refine WPL.nil ?_
          refine WP.condP rfl (fun h3 => ?_) (fun h3 => ?_)
          · refine WP.skip ?_
            refine WP.seq ?_
            refine WP.block ?_
            refine WP.rs ?_
            refine WPL.mv (v := .pointer _) rfl rfl ?_
            refine WPL.nc rfl rfl ?_
            refine WPL.fa rfl rfl ?_
            refine WPL.ldR (a := some ⟨r, 0, none⟩) (j := 1) rfl hO inferInstance rfl rfl rfl ?_
            refine WPL.mv (v := .int .i64 _) rfl rfl ?_
            refine WPL.ixR (a := a) (j := i) (vals := oc R.l) rfl hO inferInstance rfl rfl (by omega) (by show i * 2 < _; omega) rfl ?_
            refine WPL.fa rfl rfl ?_
            refine WPL.ldR (a := a) (j := i * 2) (vals := oc R.l) rfl hO inferInstance (oc_bits (by omega)) rfl rfl ?_
            refine WPL.mv (v := .int .i64 _) rfl rfl ?_
            refine WPL.call rfl (r9_Slice (R.l.getD i (0, 0)).1 (hR.ok.get (i := i) (by omega)).2.1 (topL R.l - q) (by omega)) Tryz.func44 rfl rfl rfl ?_
            rintro _ w ⟨hf49, rfl⟩
            have hO := hO.call hf49
            have hti := sumT_get (l := R.l) (i := i) (by omega)
            refine WPL.as (v := .int .u32 _) rfl rfl ?_
            refine WPL.nil ?_
            refine WP.seq ?_
            refine WP.draw [(0, 0), (1, 0), (3, 0), (4, 0), (5, 0), (6, 1), (7, 0), (8, 1), (9, 0), (10, 1), (11, 0), (2, 2), (12, 2), (13, 2), (14, 0)] [] mixed (by kernel_rfl) (by kernel_rfl) rfl hO (fun w hO => ?_)
            refine WPD.pv rfl rfl (fun w k' h => WPL.mv (v := .int .u32 _) rfl rfl (WPL.nil h)) ?_
            refine WPD.pv rfl rfl (fun w k' h => WPL.cv_u64 (a := sliceN (R.l.getD i (0, 0)).1 (topL R.l - q)) rfl (by have := sliceN_lt (R.l.getD i (0, 0)).1 (topL R.l - q); omega) rfl (WPL.nil h)) ?_
            refine WPD.pv rfl rfl (fun w k' h => WPL.mv (v := .pointer _) rfl rfl (WPL.nil h)) ?_
            refine WPD.pv rfl rfl (fun w k' h => WPL.nc rfl rfl (WPL.nil h)) ?_
            refine WPD.pv rfl rfl (fun w k' h => WPL.fa rfl rfl (WPL.nil h)) ?_
            refine WPD.val rfl rfl (fun w hO k' h => WPL.ldR (a := some ⟨r, 0, none⟩) (j := 1) rfl hO inferInstance rfl rfl rfl (WPL.nil h)) ?_
            refine WPD.pv rfl rfl (fun w k' h => WPL.mv (v := .int .i64 _) rfl rfl (WPL.nil h)) ?_
            refine WPD.val rfl rfl (fun w hO k' h => WPL.ixR (a := a) (j := i) (vals := oc R.l) rfl hO inferInstance rfl rfl (by omega) (by show i * 2 < _; omega) rfl (WPL.nil h)) ?_
            refine WPD.pv rfl rfl (fun w k' h => WPL.fa rfl rfl (WPL.nil h)) ?_
            refine WPD.val rfl rfl (fun w hO k' h => WPL.ldR (a := a) (j := i * 2 + 1) (vals := oc R.l) rfl hO inferInstance (oc_times (by omega)) rfl rfl (WPL.nil h)) ?_
            refine WPD.pv rfl rfl (fun w k' h => WPL.cv_u64 (a := (R.l.getD i (0, 0)).2) rfl (by omega) rfl (WPL.nil h)) ?_
            refine WPD.eff rfl hO ?_
            refine WPL.call rfl (r2_Of (sliceN (R.l.getD i (0, 0)).1 (topL R.l - q)) (by have := sliceN_lt (R.l.getD i (0, 0)).1 (topL R.l - q); omega)) Tryz.func46 rfl rfl rfl ?_
            rintro _ w ⟨hf52, a52, c52, rfl, hc52, hr52⟩
            have hO := hO.res hf52 hr52
            refine WPL.nil ?_
            refine WPD.eff rfl (Own.dropR hO) ?_
            refine WPL.call rfl (r2_Of ((R.l.getD i (0, 0)).2) (by omega)) Tryz.func46 rfl rfl rfl ?_
            rintro _ w ⟨hf62, a62, c62, rfl, hc62, hr62⟩
            have hO := hO.res hf62 hr62
            refine WPL.nil ?_
            refine WPD.eff rfl (Own.dropR (Own.dropR hO)) ?_
            have hl52 := len_blen (k := 1) (show blen (sliceN (R.l.getD i (0, 0)).1 (topL R.l - q)) ≤ 32 * 1 from blen_le.2 (sliceN_lt _ _))
            have hl62 := len_blen (k := 2) (show blen ((R.l.getD i (0, 0)).2) ≤ 32 * 2 from blen_le.2 (by omega))
            refine WPL.call rfl (r2_Times a52 (dig (sliceN (R.l.getD i (0, 0)).1 (topL R.l - q))) _ hO.rd (dig_wd _) (val_dig _) hc52 rfl (by omega) a62 (dig ((R.l.getD i (0, 0)).2)) _ hO.rd (dig_wd _) (val_dig _) hc62 rfl (by omega)) Tryz.func45 rfl rfl rfl ?_
            rintro _ w ⟨hf63, a63, c63, rfl, hc63, hr63⟩
            have hO := hO.res hf63 hr63
            refine WPL.nil ?_
            refine WPD.pv rfl rfl (fun w k' h => WPL.as (v := .slice _ _ _) rfl rfl (WPL.nil h)) ?_
            refine WPD.nil (Own.dropR (Own.dropR (Own.dropR hO))) ?_
            refine WP.rs ?_
            refine WPL.mv (v := .pointer _) rfl rfl ?_
            refine WPL.nc rfl rfl ?_
            refine WPL.fa rfl rfl ?_
            refine WPL.ldR (a := some ⟨r, 0, none⟩) (j := 1) rfl hO inferInstance rfl rfl rfl ?_
            refine WPL.mv (v := .int .i64 _) rfl rfl ?_
            refine WPL.ixR (a := a) (j := i) (vals := oc R.l) rfl hO inferInstance rfl rfl (by omega) (by show i * 2 < _; omega) rfl ?_
            refine WPL.fa rfl rfl ?_
            refine WPL.ldR (a := a) (j := i * 2) (vals := oc R.l) rfl hO inferInstance (oc_bits (by omega)) rfl rfl ?_
            refine WPL.shrc_u64 (p := 9223372036854775808) rfl rfl rfl (by have := (hR.ok.get (i := i) (by omega)).1; omega) rfl ?_
            refine WPL.eq rfl rfl rfl ?_
            refine WPL.mv (v := .slice _ _ _) rfl rfl ?_
            refine WPL.mv (v := .int .i64 _) rfl rfl ?_
            refine WPL.mulI rfl rfl (by omega) rfl ?_
            have hneg : decide ((((R.l.getD i (0, 0)).1 / 9223372036854775808 : Nat) : Int) = 1) = decide ((R.l.getD i (0, 0)).1 / 9223372036854775808 = 1) := decide_eq_decide.2 (by omega)
            have hbt : blen (sliceN (R.l.getD i (0, 0)).1 (topL R.l - q) * (R.l.getD i (0, 0)).2) ≤ 100 := by
              have h1 := @blen_mul (sliceN (R.l.getD i (0, 0)).1 (topL R.l - q)) (R.l.getD i (0, 0)).2
              have h2 : blen (sliceN (R.l.getD i (0, 0)).1 (topL R.l - q)) ≤ 32 := blen_le.2 (sliceN_lt _ _)
              have h3 : blen (R.l.getD i (0, 0)).2 ≤ 41 := blen_le.2 (by omega)
              omega
            have hlt := len_blen (k := 100) (show blen (sliceN (R.l.getD i (0, 0)).1 (topL R.l - q) * (R.l.getD i (0, 0)).2) ≤ 32 * 100 by omega)
            refine WPL.call rfl (r3_Make (decide ((((R.l.getD i (0, 0)).1 / 9223372036854775808 : Nat) : Int) = 1)) a63 (dig (sliceN (R.l.getD i (0, 0)).1 (topL R.l - q) * (R.l.getD i (0, 0)).2)) _ hO.rd (dig_wd _) (val_dig _) hc63 rfl (by omega) (32 * (topL R.l - q)) (by omega) (by omega)) Tryz.func47 rfl rfl rfl ?_
            rintro _ w ⟨hf78, a78, c78, rfl, hc78, hr78⟩
            rw [hneg, ← termD] at hc78 hr78
            rw [hneg, ← termD]
            obtain ⟨G78, hG78, hO⟩ := hO.resL hf78 hr78
            unfold dyV
            refine WPL.mv (v := .tuple #[.agg #[.bool _, .slice _ _ _, .int .i64 _], .int .i64 _]) rfl rfl ?_
            refine WPL.ext (v := .agg #[.bool _, .slice _ _ _, .int .i64 _]) rfl rfl rfl ?_
            refine WPL.ext (v := .int .i64 _) rfl rfl rfl ?_
            refine WPL.al hO rfl (fun b3 w hO => ?_)
            refine WPL.stLA (T := T46) rfl rfl hO inferInstance inferInstance (by simp [Value.oneCell']) rfl rfl (fun w hO => ?_)
            refine WPL.as (v := .int .i64 _) rfl rfl ?_
            refine WPL.nil ?_
            refine WP.region ?_
            refine WPL.ldLA (T := T46) [.bool _, .slice _ _ _, .int .i64 _] rfl hO inferInstance rfl agg46 rfl rfl ?_
            refine WPL.ldLA (T := T46) [.bool _, .slice _ _ _, .int .i64 _] rfl hO inferInstance rfl agg46 rfl rfl ?_
            refine WPL.call rfl (r3_Add D' a4 c4 (hO.rdG hG') hc4 hEc.nf hEB (termD (R.l.getD i (0, 0)) (topL R.l - q)) a78 c78 (hO.rdG hG78) hc78 (show Dy.nf (termD (R.l.getD i (0, 0)) (topL R.l - q)) = (termD (R.l.getD i (0, 0)) (topL R.l - q)) from Dy.Can.nf (Dy.fm_can ..)) (termD_B (by omega) (by omega))) Tryz.func48 rfl rfl rfl ?_
            rintro _ w ⟨hf84, a84, c84, rfl, hc84, hr84⟩
            obtain ⟨G84, hG84, hO⟩ := hO.resL hf84 hr84
            unfold dyV
            refine WPL.mv (v := .tuple #[.agg #[.bool _, .slice _ _ _, .int .i64 _], .int .i64 _]) rfl rfl ?_
            refine WPL.ext (v := .agg #[.bool _, .slice _ _ _, .int .i64 _]) rfl rfl rfl ?_
            refine WPL.ext (v := .int .i64 _) rfl rfl rfl ?_
            refine WPL.stLA (T := T46) rfl rfl hO inferInstance inferInstance (by simp [Value.oneCell']) rfl rfl (fun w hO => ?_)
            refine WPL.nil ?_
            refine WP.region ?_
            refine WPL.mv (v := .int .i64 _) rfl rfl ?_
            refine WPL.addI rfl rfl (by omega) rfl ?_
            refine WPL.as (v := .int .i64 _) rfl rfl ?_
            refine WPL.nil ?_
            have ht := termD_dv (p := R.l.getD i (0, 0)) (j := (topL R.l - q)) (by omega)
            have ha := dv_add hEg ht.2
            have hv' : dv 1400 (D'.add (termD (R.l.getD i (0, 0)) (topL R.l - q))) = rsumN R.l (topL R.l) q + RS (topL R.l - q) (R.l.take (i + 1)) * (pw (topL R.l - q) : Int) := by
              rw [ha.1, hEv, ht.1, RS_take_succ (by omega), Int.add_mul, Int.add_assoc]
            simp only [putAt, List.set] at hO
            exact ⟨m' - 1, by omega, i + 1, D'.add (termD (R.l.getD i (0, 0)) (topL R.l - q)), a84, c84, G84, by omega, Dy.add_can hEc (Dy.fm_can ..), ha.2, hv', hG84, hc84, ⟨rfl, rfl, rfl, rfl, rfl, rfl, rfl, trivial⟩, rfl, hO.subL.subR⟩
          · refine WP.exit ?_
            refine WP.region ?_
            refine WPL.mv (v := .int .i64 _) rfl rfl ?_
            refine WPL.subI rfl rfl (by omega) rfl ?_
            refine WPL.as (v := .int .i64 _) rfl rfl ?_
            refine WPL.nil ?_
            obtain rfl : i = R.l.length := by omega
            rw [List.take_length] at hEv
            refine ⟨m - 1, by omega, q + 1, D', a4, c4, G', by omega, .inl (by first | omega | exact of_decide_eq_true (by assumption)), hEc, hEg, hEv, hG', hc4, ⟨rfl, rfl, rfl, rfl, rfl, by show Value.int .i64 _ = _; congr 1; omega, trivial⟩, rfl, hO⟩
      · refine WP.exit ?_
        refine WP.rs ?_
        refine WPL.ldLA (T := T46) [.bool _, .slice _ _ _, .int .i64 _] rfl hO inferInstance rfl agg46 rfl rfl ?_
        refine WPL.stLA (T := T46) rfl rfl hO inferInstance inferInstance (by simp [Value.oneCell']) rfl rfl (fun w hO => ?_)
        refine WPL.nil ?_
        refine WP.ret ?_
        refine ⟨rfl, ?_⟩
        refine RO.cell (T := T46) [.bool _, .slice _ _ _, .int .i64 _] rfl hO inferInstance rfl agg46 rfl ?_
        refine RO.nil ?_
        have hfin : dv 1400 D = R.sumV := by
          unfold Rf.sumV
          by_cases h34 : -34 ≤ topL R.l
          · rw [if_pos h34, hDv]
            congr 1
            first
            | omega
            | (exfalso; rw [decide_eq_true h34] at h1; cases h1)
          · rw [if_neg h34]
            have : q = 0 := by omega
            rw [hDv, this]; rfl
        have hb2468 := part_le (l := R.l) (top := topL R.l) (by omega) (by omega) (q := q) (by omega) 0
        simp only [List.take_zero, RS, Int.zero_mul, Int.add_zero] at hb2468
        rw [← hDv] at hb2468
        have hB : D.B 60000 := Dy.B_of_dv hDc hDg hb2468 (by decide) (by decide)
        clear hb2468
        simp only [putAt, List.set] at hO
        exact ⟨hO.fr, D, ⟨hDc, hDg, hfin, hB⟩, a3, c3, rfl, hc3, hO.giveG hG⟩
    · refine WPL.guardF rfl rfl rfl h1 ?_
      refine WPL.guardF rfl rfl rfl h1 ?_
      refine WPL.guardF rfl rfl rfl h1 ?_
      refine WPL.guardF rfl rfl rfl h1 ?_
      refine WPL.guardF rfl rfl rfl h1 ?_
      refine WPL.guardF rfl rfl rfl h1 ?_
      refine WPL.guardF rfl rfl rfl h1 ?_
      refine WPL.guardF rfl rfl rfl h1 ?_
      refine WPL.pkF (v := .bool false) rfl h1 rfl rfl ?_
      refine WPL.nil ?_
      refine WP.cF rfl rfl ?_
      refine WP.exit ?_
      refine WP.rs ?_
      refine WPL.ldLA (T := T46) [.bool _, .slice _ _ _, .int .i64 _] rfl hO inferInstance rfl agg46 rfl rfl ?_
      refine WPL.stLA (T := T46) rfl rfl hO inferInstance inferInstance (by simp [Value.oneCell']) rfl rfl (fun w hO => ?_)
      refine WPL.nil ?_
      refine WP.ret ?_
      refine ⟨rfl, ?_⟩
      refine RO.cell (T := T46) [.bool _, .slice _ _ _, .int .i64 _] rfl hO inferInstance rfl agg46 rfl ?_
      refine RO.nil ?_
      have hfin : dv 1400 D = R.sumV := by
        unfold Rf.sumV
        by_cases h34 : -34 ≤ topL R.l
        · rw [if_pos h34, hDv]
          congr 1
          first
          | omega
          | (exfalso; rw [decide_eq_true h34] at h1; cases h1)
        · rw [if_neg h34]
          have : q = 0 := by omega
          rw [hDv, this]; rfl
      have hb2468 := part_le (l := R.l) (top := topL R.l) (by omega) (by omega) (q := q) (by omega) 0
      simp only [List.take_zero, RS, Int.zero_mul, Int.add_zero] at hb2468
      rw [← hDv] at hb2468
      have hB : D.B 60000 := Dy.B_of_dv hDc hDg hb2468 (by decide) (by decide)
      clear hb2468
      simp only [putAt, List.set] at hO
      exact ⟨hO.fr, D, ⟨hDc, hDg, hfin, hB⟩, a3, c3, rfl, hc3, hO.giveG hG⟩

theorem r9_Round {w0 : World} (r : Nat) (R : Rf) (a : Option Addr) (c : Nat) (hr : RowOk w0 [] ⟨some ⟨r, 0, none⟩, rfC R a c⟩) (hra : RowOk w0 [] ⟨a, oc R.l⟩) (hc : R.l.length ≤ c) (hR : R.Ok) (mode : Int) : Spec Tryz.prog 22 [.pointer (some ⟨r, 0, none⟩), .int .i64 mode] w0 (fun v w' => FrX [] w0 w' ∧ ∃ D : Dy, Worth D R.sumV ∧ v = .tuple #[.float .f64 (rnd64 mode D), .int .i64 (rndE mode)]) := by
  have hO : Own [] w0 [] [] [⟨some ⟨r, 0, none⟩, rfC R a c⟩, ⟨a, oc R.l⟩] w0 := Own.start (by intro e he; cases he) (by
      simp only [List.mem_cons, List.not_mem_nil, or_false]
      rintro r (rfl | rfl)
      · exact hr
      · exact hra)
  have hlen := hR.ok.len
  have hsum := hR.sum
  have hRn := hR.n
  have hol := oc_length R.l
  have hfo := hR.fold
  refine Spec.enter (n := 12) (rs := [.tmp 4, .tmp 5]) Tryz.func22 rfl rfl rfl rfl ?_
  refine WP.rs ?_
  refine WPL.as (v := .float .f64 0) rfl rfl ?_
  refine WPL.as (v := .int .i64 0) rfl rfl ?_
  refine WPL.nil ?_
  refine WP.rs ?_
  refine WPL.mv (v := .pointer _) rfl rfl ?_
  refine WPL.call rfl (r9_Kept r R a c (hO.rows _ (List.mem_cons_self ..)).weak (hO.rows _ (List.mem_cons_of_mem _ (List.mem_cons_self ..))).weak hc hR) Tryz.func24 rfl rfl rfl ?_
  rintro _ w ⟨hf7, D, hDW, a7, c7, rfl, hc7, hr7⟩
  have hO := hO.res hf7 hr7
  refine WPL.mv (v := .int .i64 _) rfl rfl ?_
  refine WPL.call rfl (r3_Round D a7 c7 hO.rd hc7 hDW.can.nf (hDW.b.mono (by decide)) mode) Tryz.func42 rfl rfl rfl ?_
  rintro _ w ⟨hf9, rfl⟩
  have hO := hO.call hf9
  rw [rnd_eq]
  refine WPL.ext (v := .float .f64 _) rfl rfl rfl ?_
  refine WPL.ext (v := .int .i64 _) rfl rfl rfl ?_
  refine WPL.as (v := .float .f64 _) rfl rfl ?_
  refine WPL.as (v := .int .i64 _) rfl rfl ?_
  refine WPL.nil ?_
  refine WP.ret ?_
  refine ⟨rfl, ?_⟩
  refine RO.tmp (v := .float .f64 _) rfl ?_
  refine RO.tmp (v := .int .i64 _) rfl ?_
  refine RO.nil ?_
  exact ⟨hO.fr, D, hDW, rfl⟩

theorem r9_Bound {w0 : World} (r : Nat) (R : Rf) (a : Option Addr) (c : Nat) (hr : RowOk w0 [] ⟨some ⟨r, 0, none⟩, rfC R a c⟩) (hra : RowOk w0 [] ⟨a, oc R.l⟩) (hc : R.l.length ≤ c) (hR : R.Ok) : Spec Tryz.prog 25 [.pointer (some ⟨r, 0, none⟩)] w0 (fun v w' => FrX [] w0 w' ∧ v = .float .f64 (if -34 ≤ topL R.l then round64 2 (Dy.fm false R.n (32 * (topL R.l - R.fold + 1))) else 0)) := by
  have hO : Own [] w0 [] [] [⟨some ⟨r, 0, none⟩, rfC R a c⟩, ⟨a, oc R.l⟩] w0 := Own.start (by intro e he; cases he) (by
      simp only [List.mem_cons, List.not_mem_nil, or_false]
      rintro r (rfl | rfl)
      · exact hr
      · exact hra)
  have hlen := hR.ok.len
  have hsum := hR.sum
  have hRn := hR.n
  have hol := oc_length R.l
  have hfo := hR.fold
  have htl := topN_le hR.ok R.l.length
  rw [topN_all] at htl
  have hbn : blen R.n ≤ 41 := blen_le.2 (by omega)
  have hln := len_blen (k := 2) (show blen R.n ≤ 32 * 2 by omega)
  refine Spec.enter (n := 38) (rs := [.tmp 2]) Tryz.func25 rfl rfl rfl rfl ?_
  refine WP.rs ?_
  refine WPL.as (v := .float .f64 0) rfl rfl ?_
  refine WPL.nil ?_
  refine WP.rs ?_
  refine WPL.mv (v := .pointer _) rfl rfl ?_
  refine WPL.call rfl (r9_top r R a c (hO.rows _ (List.mem_cons_self ..)).weak (hO.rows _ (List.mem_cons_of_mem _ (List.mem_cons_self ..))).weak hc hR) Tryz.func43 rfl rfl rfl ?_
  rintro _ w ⟨hf11, rfl⟩
  have hO := hO.call hf11
  refine WPL.mv (v := .tuple #[.int .i64 _, .bool _]) rfl rfl ?_
  refine WPL.ext (v := .int .i64 _) rfl rfl rfl ?_
  refine WPL.ext (v := .bool _) rfl rfl rfl ?_
  refine WPL.as (v := .int .i64 _) rfl rfl ?_
  refine WPL.as (v := .bool _) rfl rfl ?_
  refine WPL.nil ?_
  refine WP.seq ?_
  refine WP.rs ?_
  refine WPL.mv (v := .bool _) rfl rfl ?_
  refine WPL.not rfl rfl ?_
  refine WPL.nil ?_
  refine WP.condB rfl (fun h1 => ?_) (fun h1 => ?_)
  · refine WP.rs ?_
    refine WPL.as (v := .float .f64 0) rfl rfl ?_
    refine WPL.nil ?_
    refine WP.ret ?_
    refine ⟨rfl, ?_⟩
    refine RO.tmp (v := .float .f64 _) rfl ?_
    refine RO.nil ?_
    first
    | (have h34 : ¬ -34 ≤ topL R.l := by simpa using h1
       exact ⟨hO.fr, by rw [if_neg h34]; rfl⟩)
    | (have h34 : -34 ≤ topL R.l := by simpa using h1
       exact ⟨hO.fr, by rw [if_pos h34]; rfl⟩)
  · refine WP.skip ?_
    refine WP.seq ?_
    refine WP.drawE 19 [17] mixed (by kernel_rfl) rfl hO (fun w hO => ?_)
    refine WPE.pv (i := 0) (by kernel_rfl) rfl rfl (fun w k' h => WPL.mv (v := .pointer _) rfl rfl (WPL.nil h)) ?_
    refine WPE.pv (i := 4) (by kernel_rfl) rfl rfl (fun w k' h => WPL.mv (v := .int .i64 _) rfl rfl (WPL.nil h)) ?_
    refine WPE.pv (i := 5) (by kernel_rfl) rfl rfl (fun w k' h => WPL.mv (v := .pointer _) rfl rfl (WPL.nil h)) ?_
    refine WPE.pv (i := 6) (by kernel_rfl) rfl rfl (fun w k' h => WPL.nc rfl rfl (WPL.nil h)) ?_
    refine WPE.pv (i := 7) (by kernel_rfl) rfl rfl (fun w k' h => WPL.fa rfl rfl (WPL.nil h)) ?_
    refine WPE.val (i := 8) (by kernel_rfl) rfl rfl (fun w hO k' h => WPL.ldR (a := some ⟨r, 0, none⟩) (j := 0) rfl hO inferInstance rfl rfl rfl (WPL.nil h)) ?_
    refine WPE.pv (i := 9) (by kernel_rfl) rfl rfl (fun w k' h => WPL.subI rfl rfl (by omega) rfl (WPL.nil h)) ?_
    refine WPE.pv (i := 10) (by kernel_rfl) rfl rfl (fun w k' h => WPL.addI rfl rfl (by omega) rfl (WPL.nil h)) ?_
    refine WPE.pv (i := 11) (by kernel_rfl) rfl rfl (fun w k' h => WPL.mulI rfl rfl (by omega) rfl (WPL.nil h)) ?_
    refine WPE.fork2 (i := 1) (j := 16) (by kernel_rfl) rfl rfl (.inr hO) ?_ ?_
    · refine WPL.call rfl (r9_Count r R a c (hO.rd (a := some ⟨r, 0, none⟩))) Tryz.func27 rfl rfl rfl ?_
      rintro _ w ⟨rfl, hf18⟩
      have hO := hO.call hf18
      refine WPL.nil ?_
      refine WPE.pv (i := 2) (by kernel_rfl) rfl rfl (fun w k' h => WPL.cv_u64 (a := R.n) rfl (by omega) rfl (WPL.nil h)) ?_
      refine WPE.fork2 (i := 3) (j := 16) (by kernel_rfl) rfl rfl (.inr hO) ?_ ?_
      · refine WPL.call rfl (r2_Of R.n (by omega)) Tryz.func46 rfl rfl rfl ?_
        rintro _ w ⟨hf20, a20, c20, rfl, hc20, hr20⟩
        have hO := hO.res hf20 hr20
        refine WPL.nil ?_
        refine WPE.fork2 (i := 12) (j := 16) (by kernel_rfl) rfl rfl (.inr (Own.dropR hO)) ?_ ?_
        · refine WPL.call rfl (r3_Make false a20 (dig R.n) _ hO.rd (dig_wd _) (val_dig _) hc20 rfl (by omega) (32 * (topL R.l - R.fold + 1)) (by omega) (by omega)) Tryz.func47 rfl rfl rfl ?_
          rintro _ w ⟨hf29, a29, c29, rfl, hc29, hr29⟩
          have hO := hO.res hf29 hr29
          unfold dyV
          refine WPL.nil ?_
          refine WPE.pv (i := 13) (by kernel_rfl) rfl rfl (fun w k' h => WPL.mv (v := .tuple #[.agg #[.bool _, .slice _ _ _, .int .i64 _], .int .i64 _]) rfl rfl (WPL.nil h)) ?_
          refine WPE.pv (i := 14) (by kernel_rfl) rfl rfl (fun w k' h => WPL.ext (v := .agg #[.bool _, .slice _ _ _, .int .i64 _]) rfl rfl rfl (WPL.nil h)) ?_
          refine WPE.pv (i := 15) (by kernel_rfl) rfl rfl (fun w k' h => WPL.ext (v := .int .i64 _) rfl rfl rfl (WPL.nil h)) ?_
          refine WPE.eff (i := 16) (by kernel_rfl) rfl (Own.dropR (Own.dropR hO)) ?_
          refine WPL.al hO rfl (fun b1 w hO => ?_)
          refine WPL.nil ?_
          refine WPE.eff (i := 17) (by kernel_rfl) rfl (Own.dropR (Own.dropR (Own.drop1 hO))) ?_
          refine WPL.stLA (T := T46) rfl rfl hO inferInstance inferInstance (by simp [Value.oneCell']) rfl rfl (fun w hO => ?_)
          refine WPL.nil ?_
          refine WPE.pv (i := 18) (by kernel_rfl) rfl rfl (fun w k' h => WPL.as (v := .int .i64 _) rfl rfl (WPL.nil h)) ?_
          refine WPE.nilX (by kernel_rfl) (by kernel_rfl) ?_
          refine WP.rs ?_
          refine WPL.ldLA (T := T46) [.bool _, .slice _ _ _, .int .i64 _] rfl hO inferInstance rfl agg46 rfl rfl ?_
          refine WPL.call rfl (r3_Round (Dy.fm false R.n (32 * (topL R.l - R.fold + 1))) a29 c29 hO.rd hc29 (Dy.Can.nf (Dy.fm_can ..)) ((Dy.In.fm (lo := -1400) (hi := 1400) (by omega) (by omega)).B (Dy.fm_can ..) (by omega) (by omega) (by omega)) 2) Tryz.func42 rfl rfl rfl ?_
          rintro _ w ⟨hf34, rfl⟩
          have hO := hO.call hf34
          rw [rnd_eq, rnd64_up]
          refine WPL.mv (v := .tuple #[.float .f64 _, .int .i64 _]) rfl rfl ?_
          refine WPL.ext (v := .float .f64 _) rfl rfl rfl ?_
          refine WPL.ext (v := .int .i64 _) rfl rfl rfl ?_
          refine WPL.as (v := .float .f64 _) rfl rfl ?_
          refine WPL.as (v := .int .i64 _) rfl rfl ?_
          refine WPL.nil ?_
          refine WP.rs ?_
          refine WPL.mv (v := .float .f64 _) rfl rfl ?_
          refine WPL.as (v := .float .f64 _) rfl rfl ?_
          refine WPL.nil ?_
          refine WP.ret ?_
          refine ⟨rfl, ?_⟩
          refine RO.tmp (v := .float .f64 _) rfl ?_
          refine RO.nil ?_
          first
          | (have h34 : ¬ -34 ≤ topL R.l := by simpa using h1
             exact ⟨hO.fr, by rw [if_neg h34]; rfl⟩)
          | (have h34 : -34 ≤ topL R.l := by simpa using h1
             exact ⟨hO.fr, by rw [if_pos h34]; rfl⟩)
        · refine WPL.al hO rfl (fun b2 w hO => ?_)
          refine WPL.nil ?_
          refine WPE.eff (i := 12) (by kernel_rfl) rfl (Own.dropR (Own.drop1 hO)) ?_
          refine WPL.call rfl (r3_Make false a20 (dig R.n) _ hO.rd (dig_wd _) (val_dig _) hc20 rfl (by omega) (32 * (topL R.l - R.fold + 1)) (by omega) (by omega)) Tryz.func47 rfl rfl rfl ?_
          rintro _ w ⟨hf29, a29, c29, rfl, hc29, hr29⟩
          have hO := hO.res hf29 hr29
          unfold dyV
          refine WPL.nil ?_
          refine WPE.pv (i := 13) (by kernel_rfl) rfl rfl (fun w k' h => WPL.mv (v := .tuple #[.agg #[.bool _, .slice _ _ _, .int .i64 _], .int .i64 _]) rfl rfl (WPL.nil h)) ?_
          refine WPE.pv (i := 14) (by kernel_rfl) rfl rfl (fun w k' h => WPL.ext (v := .agg #[.bool _, .slice _ _ _, .int .i64 _]) rfl rfl rfl (WPL.nil h)) ?_
          refine WPE.pv (i := 15) (by kernel_rfl) rfl rfl (fun w k' h => WPL.ext (v := .int .i64 _) rfl rfl rfl (WPL.nil h)) ?_
          refine WPE.eff (i := 17) (by kernel_rfl) rfl (Own.dropR (Own.drop1 (Own.dropR hO))) ?_
          refine WPL.stLA (T := T46) rfl rfl hO inferInstance inferInstance (by simp [Value.oneCell']) rfl rfl (fun w hO => ?_)
          refine WPL.nil ?_
          refine WPE.pv (i := 18) (by kernel_rfl) rfl rfl (fun w k' h => WPL.as (v := .int .i64 _) rfl rfl (WPL.nil h)) ?_
          refine WPE.nilX (by kernel_rfl) (by kernel_rfl) ?_
          refine WP.rs ?_
          refine WPL.ldLA (T := T46) [.bool _, .slice _ _ _, .int .i64 _] rfl hO inferInstance rfl agg46 rfl rfl ?_
          refine WPL.call rfl (r3_Round (Dy.fm false R.n (32 * (topL R.l - R.fold + 1))) a29 c29 hO.rd hc29 (Dy.Can.nf (Dy.fm_can ..)) ((Dy.In.fm (lo := -1400) (hi := 1400) (by omega) (by omega)).B (Dy.fm_can ..) (by omega) (by omega) (by omega)) 2) Tryz.func42 rfl rfl rfl ?_
          rintro _ w ⟨hf34, rfl⟩
          have hO := hO.call hf34
          rw [rnd_eq, rnd64_up]
          refine WPL.mv (v := .tuple #[.float .f64 _, .int .i64 _]) rfl rfl ?_
          refine WPL.ext (v := .float .f64 _) rfl rfl rfl ?_
          refine WPL.ext (v := .int .i64 _) rfl rfl rfl ?_
          refine WPL.as (v := .float .f64 _) rfl rfl ?_
          refine WPL.as (v := .int .i64 _) rfl rfl ?_
          refine WPL.nil ?_
          refine WP.rs ?_
          refine WPL.mv (v := .float .f64 _) rfl rfl ?_
          refine WPL.as (v := .float .f64 _) rfl rfl ?_
          refine WPL.nil ?_
          refine WP.ret ?_
          refine ⟨rfl, ?_⟩
          refine RO.tmp (v := .float .f64 _) rfl ?_
          refine RO.nil ?_
          first
          | (have h34 : ¬ -34 ≤ topL R.l := by simpa using h1
             exact ⟨hO.fr, by rw [if_neg h34]; rfl⟩)
          | (have h34 : -34 ≤ topL R.l := by simpa using h1
             exact ⟨hO.fr, by rw [if_pos h34]; rfl⟩)
      · refine WPL.al hO rfl (fun b3 w hO => ?_)
        refine WPL.nil ?_
        refine WPE.eff (i := 3) (by kernel_rfl) rfl (Own.drop1 hO) ?_
        refine WPL.call rfl (r2_Of R.n (by omega)) Tryz.func46 rfl rfl rfl ?_
        rintro _ w ⟨hf20, a20, c20, rfl, hc20, hr20⟩
        have hO := hO.res hf20 hr20
        refine WPL.nil ?_
        refine WPE.eff (i := 12) (by kernel_rfl) rfl (Own.drop1 (Own.dropR hO)) ?_
        refine WPL.call rfl (r3_Make false a20 (dig R.n) _ hO.rd (dig_wd _) (val_dig _) hc20 rfl (by omega) (32 * (topL R.l - R.fold + 1)) (by omega) (by omega)) Tryz.func47 rfl rfl rfl ?_
        rintro _ w ⟨hf29, a29, c29, rfl, hc29, hr29⟩
        have hO := hO.res hf29 hr29
        unfold dyV
        refine WPL.nil ?_
        refine WPE.pv (i := 13) (by kernel_rfl) rfl rfl (fun w k' h => WPL.mv (v := .tuple #[.agg #[.bool _, .slice _ _ _, .int .i64 _], .int .i64 _]) rfl rfl (WPL.nil h)) ?_
        refine WPE.pv (i := 14) (by kernel_rfl) rfl rfl (fun w k' h => WPL.ext (v := .agg #[.bool _, .slice _ _ _, .int .i64 _]) rfl rfl rfl (WPL.nil h)) ?_
        refine WPE.pv (i := 15) (by kernel_rfl) rfl rfl (fun w k' h => WPL.ext (v := .int .i64 _) rfl rfl rfl (WPL.nil h)) ?_
        refine WPE.eff (i := 17) (by kernel_rfl) rfl (Own.drop1 (Own.dropR (Own.dropR hO))) ?_
        refine WPL.stLA (T := T46) rfl rfl hO inferInstance inferInstance (by simp [Value.oneCell']) rfl rfl (fun w hO => ?_)
        refine WPL.nil ?_
        refine WPE.pv (i := 18) (by kernel_rfl) rfl rfl (fun w k' h => WPL.as (v := .int .i64 _) rfl rfl (WPL.nil h)) ?_
        refine WPE.nilX (by kernel_rfl) (by kernel_rfl) ?_
        refine WP.rs ?_
        refine WPL.ldLA (T := T46) [.bool _, .slice _ _ _, .int .i64 _] rfl hO inferInstance rfl agg46 rfl rfl ?_
        refine WPL.call rfl (r3_Round (Dy.fm false R.n (32 * (topL R.l - R.fold + 1))) a29 c29 hO.rd hc29 (Dy.Can.nf (Dy.fm_can ..)) ((Dy.In.fm (lo := -1400) (hi := 1400) (by omega) (by omega)).B (Dy.fm_can ..) (by omega) (by omega) (by omega)) 2) Tryz.func42 rfl rfl rfl ?_
        rintro _ w ⟨hf34, rfl⟩
        have hO := hO.call hf34
        rw [rnd_eq, rnd64_up]
        refine WPL.mv (v := .tuple #[.float .f64 _, .int .i64 _]) rfl rfl ?_
        refine WPL.ext (v := .float .f64 _) rfl rfl rfl ?_
        refine WPL.ext (v := .int .i64 _) rfl rfl rfl ?_
        refine WPL.as (v := .float .f64 _) rfl rfl ?_
        refine WPL.as (v := .int .i64 _) rfl rfl ?_
        refine WPL.nil ?_
        refine WP.rs ?_
        refine WPL.mv (v := .float .f64 _) rfl rfl ?_
        refine WPL.as (v := .float .f64 _) rfl rfl ?_
        refine WPL.nil ?_
        refine WP.ret ?_
        refine ⟨rfl, ?_⟩
        refine RO.tmp (v := .float .f64 _) rfl ?_
        refine RO.nil ?_
        first
        | (have h34 : ¬ -34 ≤ topL R.l := by simpa using h1
           exact ⟨hO.fr, by rw [if_neg h34]; rfl⟩)
        | (have h34 : -34 ≤ topL R.l := by simpa using h1
           exact ⟨hO.fr, by rw [if_pos h34]; rfl⟩)
    · refine WPL.al hO rfl (fun b4 w hO => ?_)
      refine WPL.nil ?_
      refine WPE.eff (i := 1) (by kernel_rfl) rfl (Own.drop1 hO) ?_
      refine WPL.call rfl (r9_Count r R a c (hO.rd (a := some ⟨r, 0, none⟩))) Tryz.func27 rfl rfl rfl ?_
      rintro _ w ⟨rfl, hf18⟩
      have hO := hO.call hf18
      refine WPL.nil ?_
      refine WPE.pv (i := 2) (by kernel_rfl) rfl rfl (fun w k' h => WPL.cv_u64 (a := R.n) rfl (by omega) rfl (WPL.nil h)) ?_
      refine WPE.eff (i := 3) (by kernel_rfl) rfl (Own.drop1 hO) ?_
      refine WPL.call rfl (r2_Of R.n (by omega)) Tryz.func46 rfl rfl rfl ?_
      rintro _ w ⟨hf20, a20, c20, rfl, hc20, hr20⟩
      have hO := hO.res hf20 hr20
      refine WPL.nil ?_
      refine WPE.eff (i := 12) (by kernel_rfl) rfl (Own.drop1 (Own.dropR hO)) ?_
      refine WPL.call rfl (r3_Make false a20 (dig R.n) _ hO.rd (dig_wd _) (val_dig _) hc20 rfl (by omega) (32 * (topL R.l - R.fold + 1)) (by omega) (by omega)) Tryz.func47 rfl rfl rfl ?_
      rintro _ w ⟨hf29, a29, c29, rfl, hc29, hr29⟩
      have hO := hO.res hf29 hr29
      unfold dyV
      refine WPL.nil ?_
      refine WPE.pv (i := 13) (by kernel_rfl) rfl rfl (fun w k' h => WPL.mv (v := .tuple #[.agg #[.bool _, .slice _ _ _, .int .i64 _], .int .i64 _]) rfl rfl (WPL.nil h)) ?_
      refine WPE.pv (i := 14) (by kernel_rfl) rfl rfl (fun w k' h => WPL.ext (v := .agg #[.bool _, .slice _ _ _, .int .i64 _]) rfl rfl rfl (WPL.nil h)) ?_
      refine WPE.pv (i := 15) (by kernel_rfl) rfl rfl (fun w k' h => WPL.ext (v := .int .i64 _) rfl rfl rfl (WPL.nil h)) ?_
      refine WPE.eff (i := 17) (by kernel_rfl) rfl (Own.drop1 (Own.dropR (Own.dropR hO))) ?_
      refine WPL.stLA (T := T46) rfl rfl hO inferInstance inferInstance (by simp [Value.oneCell']) rfl rfl (fun w hO => ?_)
      refine WPL.nil ?_
      refine WPE.pv (i := 18) (by kernel_rfl) rfl rfl (fun w k' h => WPL.as (v := .int .i64 _) rfl rfl (WPL.nil h)) ?_
      refine WPE.nilX (by kernel_rfl) (by kernel_rfl) ?_
      refine WP.rs ?_
      refine WPL.ldLA (T := T46) [.bool _, .slice _ _ _, .int .i64 _] rfl hO inferInstance rfl agg46 rfl rfl ?_
      refine WPL.call rfl (r3_Round (Dy.fm false R.n (32 * (topL R.l - R.fold + 1))) a29 c29 hO.rd hc29 (Dy.Can.nf (Dy.fm_can ..)) ((Dy.In.fm (lo := -1400) (hi := 1400) (by omega) (by omega)).B (Dy.fm_can ..) (by omega) (by omega) (by omega)) 2) Tryz.func42 rfl rfl rfl ?_
      rintro _ w ⟨hf34, rfl⟩
      have hO := hO.call hf34
      rw [rnd_eq, rnd64_up]
      refine WPL.mv (v := .tuple #[.float .f64 _, .int .i64 _]) rfl rfl ?_
      refine WPL.ext (v := .float .f64 _) rfl rfl rfl ?_
      refine WPL.ext (v := .int .i64 _) rfl rfl rfl ?_
      refine WPL.as (v := .float .f64 _) rfl rfl ?_
      refine WPL.as (v := .int .i64 _) rfl rfl ?_
      refine WPL.nil ?_
      refine WP.rs ?_
      refine WPL.mv (v := .float .f64 _) rfl rfl ?_
      refine WPL.as (v := .float .f64 _) rfl rfl ?_
      refine WPL.nil ?_
      refine WP.ret ?_
      refine ⟨rfl, ?_⟩
      refine RO.tmp (v := .float .f64 _) rfl ?_
      refine RO.nil ?_
      first
      | (have h34 : ¬ -34 ≤ topL R.l := by simpa using h1
         exact ⟨hO.fr, by rw [if_neg h34]; rfl⟩)
      | (have h34 : -34 ≤ topL R.l := by simpa using h1
         exact ⟨hO.fr, by rw [if_pos h34]; rfl⟩)
end Go.Sw
