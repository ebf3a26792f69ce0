/- A part of the proof that BinsPlays answers true: steps of the walk, or plain laws that it needs. No conditions of its own. -/
import Derived.Test.YtdaphmoojpbddaaGreatDoorSW10
import Derived.Test.YtdaphmoojpbddaaGreatDoorSR3
import Derived.Test.YtdaphmoojpbddaaGreatDoorSB8
set_option linter.all false
namespace Go.Sw
set_option autoImplicit false
set_option linter.all false
open Go.Proofs Go.RowKit
instance T26 : Ty Tryz.prog 26 (.slice 46) [.slice none 0 0] 24 := Ty.mk' Tryz.underlying26 (by kernel_rfl)
noncomputable abbrev D28 : TypeDesc := (Tryz.prog.underlying 28).getD .bool
instance T28 : Ty Tryz.prog 28 D28 [.slice none 0 0, .slice none 0 0, .slice none 0 0] 72 := Ty.mk' (by kernel_rfl) (by kernel_rfl)
theorem agg28 : TypeDesc.agg D28 = true := by kernel_rfl
theorem pl28 : placesOf Tryz.prog 28 = some [(0, 1), (1, 1), (2, 1)] := by kernel_rfl
instance F28_0 : Fld Tryz.prog 28 0 0 := Fld.mk' (sz := 0) (by kernel_rfl)
instance F28_1 : Fld Tryz.prog 28 1 1 := Fld.mk' (sz := 0) (by kernel_rfl)
instance F28_2 : Fld Tryz.prog 28 2 2 := Fld.mk' (sz := 0) (by kernel_rfl)
instance T35 : Ty Tryz.prog 35 (.pointer 87) [.pointer none] 8 := Ty.mk' Tryz.underlying35 (by kernel_rfl)
noncomputable abbrev D37 : TypeDesc := (Tryz.prog.underlying 37).getD .bool
instance T37 : Ty Tryz.prog 37 D37 [.pointer none, .pointer none] 16 := Ty.mk' (by kernel_rfl) (by kernel_rfl)
theorem agg37 : TypeDesc.agg D37 = true := by kernel_rfl
theorem pl37 : placesOf Tryz.prog 37 = some [(0, 1), (1, 1)] := by kernel_rfl
instance F37_0 : Fld Tryz.prog 37 0 0 := Fld.mk' (sz := 0) (by kernel_rfl)
instance F37_1 : Fld Tryz.prog 37 1 1 := Fld.mk' (sz := 0) (by kernel_rfl)
/-- Bins and the reference's beside them: where they lie. -/
structure Pr where
  bk : Nat
  B : Bn
  rk : Nat
  R : Rf
  a : Option Addr
  c : Nat
  G : List Blk
structure Pr.Ok (x : Pr) : Prop where
  grown : Grown x.a x.c 2 (oc x.R.l) 91 x.G
  cap : x.R.l.length ≤ x.c
  mt : Match x.B x.R
def Pr.blk (x : Pr) : List Blk := ⟨x.bk, bnC x.B, 68⟩ :: ⟨x.rk, rfC x.R x.a x.c, 87⟩ :: x.G
def bc : List Pr → List Value
  | [] => []
  | x :: l => .pointer (some ⟨x.bk, 0, none⟩) :: .pointer (some ⟨x.rk, 0, none⟩) :: bc l
theorem bc_length : ∀ l : List Pr, (bc l).length = l.length * 2
  | [] => rfl
  | _ :: l => by simp [bc, bc_length l]; omega
theorem bc_append : ∀ (l m : List Pr), bc (l ++ m) = bc l ++ bc m
  | [], _ => rfl
  | _ :: l, m => by simp [bc, bc_append l m]
theorem bc_one (l : List Pr) : ∀ v ∈ bc l, v.oneCell' = true := by
  induction l with
  | nil => intro v hv; cases hv
  | cons p l ih =>
    intro v hv
    simp only [bc, List.mem_cons] at hv
    rcases hv with rfl | rfl | hv
    · rfl
    · rfl
    · exact ih v hv
theorem bc_get : ∀ {l : List Pr} {i : Nat} {x : Pr}, l[i]? = some x → ∀ (j : Nat) (v : Value), [Value.pointer (some ⟨x.bk, 0, none⟩), .pointer (some ⟨x.rk, 0, none⟩)][j]? = some v → (bc l)[i * 2 + j]? = some v
  | y :: l, 0, x, h, j, v, hj => by
    obtain rfl : y = x := by simpa using h
    match j, hj with
    | 0, hj => simpa [bc] using hj
    | 1, hj => simpa [bc] using hj
    | j + 2, hj => simp at hj
  | y :: l, i + 1, x, h, j, v, hj => by
    have := bc_get (l := l) (i := i) (by simpa using h) j v hj
    rw [show (i + 1) * 2 + j = i * 2 + j + 1 + 1 by omega]
    simpa [bc] using this
/-- A dyad that came out: where its words lie. -/
structure Cm where
  D : Dy
  a : Option Addr
  c : Nat
  G : List Blk
structure Cm.Ok (x : Cm) : Prop where
  grown : Grown x.a x.c 1 (ws .u32 (dig x.D.m)) 62 x.G
  cap : (dig x.D.m).length ≤ x.c
  small : (dig x.D.m).length ≤ 8192
def Cm.cells (x : Cm) : List Value := [.bool x.D.s, .slice x.a (dig x.D.m).length x.c, .int .i64 x.D.e]
def dc : List Cm → List Value
  | [] => []
  | x :: l => .bool x.D.s :: .slice x.a (dig x.D.m).length x.c :: .int .i64 x.D.e :: dc l
theorem dc_length : ∀ l : List Cm, (dc l).length = l.length * 3
  | [] => rfl
  | _ :: l => by simp [dc, dc_length l]; omega
theorem dc_append : ∀ (l m : List Cm), dc (l ++ m) = dc l ++ dc m
  | [], _ => rfl
  | _ :: l, m => by simp [dc, dc_append l m]
theorem dc_one (l : List Cm) : ∀ v ∈ dc l, v.oneCell' = true := by
  induction l with
  | nil => intro v hv; cases hv
  | cons p l ih =>
    intro v hv
    simp only [dc, List.mem_cons] at hv
    rcases hv with rfl | rfl | rfl | hv
    · rfl
    · rfl
    · rfl
    · exact ih v hv
theorem dc_get : ∀ {l : List Cm} {i : Nat} {x : Cm}, l[i]? = some x → ∀ (j : Nat) (v : Value), x.cells[j]? = some v → (dc l)[i * 3 + j]? = some v
  | y :: l, 0, x, h, j, v, hj => by
    obtain rfl : y = x := by simpa using h
    match j, hj with
    | 0, hj => simpa [dc, Cm.cells] using hj
    | 1, hj => simpa [dc, Cm.cells] using hj
    | 2, hj => simpa [dc, Cm.cells] using hj
    | j + 3, hj => simp [Cm.cells] at hj
  | y :: l, i + 1, x, h, j, v, hj => by
    have := dc_get (l := l) (i := i) (by simpa using h) j v hj
    rw [show (i + 1) * 3 + j = i * 3 + j + 1 + 1 + 1 by omega]
    simpa [dc] using this
theorem notab {w0 w : World} {M : List Nat} {L : List Blk} {R : List Row} (h : Own tabs w0 M L R w) {b : Nat} (hb : b ∈ keys L) : b ≠ 1 := by
  rintro rfl
  exact (h.tabs ⟨1, ws .u8 deb, 0⟩ (List.mem_cons_self ..)).1 hb

theorem law_asked {w0 : World} (p : Nat) (la : Option Addr) (nl lc : Nat) (came want : List Cm) (ca wa : Option Addr) (cc wc : Nat) (GC GW : List Blk) (hGC : Grown ca cc 3 (dc came) 46 GC) (hGW : Grown wa wc 3 (dc want) 46 GW) (hcc : came.length ≤ cc) (hwc : want.length ≤ wc) (hcl : came.length ≤ 1000000) (hwl : want.length ≤ 1000000) (x : Pr) (hx : x.Ok) (hL : Own tabs w0 (keys (⟨p, [.slice la nl lc, .slice ca came.length cc, .slice wa want.length wc], 28⟩ :: ⟨x.bk, bnC x.B, 68⟩ :: ⟨x.rk, rfC x.R x.a x.c, 87⟩ :: (x.G ++ (GC ++ (GW ++ []))))) (⟨p, [.slice la nl lc, .slice ca came.length cc, .slice wa want.length wc], 28⟩ :: ⟨x.bk, bnC x.B, 68⟩ :: ⟨x.rk, rfC x.R x.a x.c, 87⟩ :: (x.G ++ (GC ++ (GW ++ [])))) [] w0) : Spec Tryz.prog 6 [.pointer (some ⟨p, 0, none⟩), .agg #[.pointer (some ⟨x.bk, 0, none⟩), .pointer (some ⟨x.rk, 0, none⟩)]] w0 (fun v w' => v = .bool true ∧ ∃ a1 c1 G1 a2 c2 G2 ca' cc' GC' wa' wc' GW', Cm.Ok ⟨x.B.kept, a1, c1, G1⟩ ∧ Cm.Ok ⟨x.B.kept, a2, c2, G2⟩ ∧ Grown ca' cc' 3 (dc (came ++ [⟨x.B.kept, a1, c1, G1⟩])) 46 GC' ∧ Grown wa' wc' 3 (dc (want ++ [⟨x.B.kept, a2, c2, G2⟩])) 46 GW' ∧ came.length + 1 ≤ cc' ∧ want.length + 1 ≤ wc' ∧ Own tabs w0 (keys (⟨p, [.slice la nl lc, .slice ca came.length cc, .slice wa want.length wc], 28⟩ :: ⟨x.bk, bnC x.B, 68⟩ :: ⟨x.rk, rfC x.R x.a x.c, 87⟩ :: (x.G ++ (GC ++ (GW ++ []))))) (⟨p, [.slice la nl lc, .slice ca' (came.length + 1) cc', .slice wa' (want.length + 1) wc'], 28⟩ :: ⟨x.bk, bnC x.B, 68⟩ :: ⟨x.rk, rfC x.R x.a x.c, 87⟩ :: (x.G ++ (GC' ++ (GW' ++ (G1 ++ (G2 ++ [])))))) [] w') := by
  have hO := hL
  obtain ⟨K, hK⟩ : ∃ K, K = keys (⟨p, [.slice la nl lc, .slice ca came.length cc, .slice wa want.length wc], 28⟩ :: ⟨x.bk, bnC x.B, 68⟩ :: ⟨x.rk, rfC x.R x.a x.c, 87⟩ :: (x.G ++ (GC ++ (GW ++ [])))) := ⟨_, rfl⟩
  rw [← hK] at hO ⊢
  have hxc : x.B.count ≤ 1099511627776 := by have := hx.mt.count; have := hx.mt.ok.n; omega
  refine Spec.enter (n := 63) (rs := [.tmp 4]) Tryz.func6 rfl rfl rfl rfl ?_
  refine WP.rs ?_
  refine WPL.bx (v := .agg #[.pointer _, .pointer _]) rfl rfl hO rfl (fun b1 w hO => ?_)
  refine WPL.as (v := .bool false) rfl rfl ?_
  refine WPL.nil ?_
  refine WP.rs ?_
  refine WPL.fa rfl rfl ?_
  refine WPL.ldL rfl hO inferInstance rfl rfl rfl ?_
  refine WPL.call rfl (bins_Kept hO.tab x.bk (notab hO (b := x.bk) (by simp [keys])) x.B (hO.cells ⟨x.bk, bnC x.B, 68⟩ (by simp)) 4722366482869645213696 (by decide) hx.mt.Ok) Tryz.func12 rfl rfl rfl ?_
  rintro _ w ⟨hf9, a9, c9, rfl, hc9, hr9⟩
  obtain ⟨G9, hG9, hO⟩ := hO.resL hf9 hr9
  unfold dyV
  refine WPL.al hO rfl (fun b2 w hO => ?_)
  refine WPL.stLA (T := T46) rfl rfl hO inferInstance inferInstance (by simp [Value.oneCell']) rfl rfl (fun w hO => ?_)
  refine WPL.nil ?_
  refine WP.rs ?_
  refine WPL.fa rfl rfl ?_
  refine WPL.ldL rfl hO inferInstance rfl rfl rfl ?_
  refine WPL.call rfl (r9_Kept x.rk x.R x.a x.c (hO.rdA (b := x.rk) (cs := rfC x.R x.a x.c) inferInstance) (hO.rdG hx.grown) hx.cap hx.mt.ok) Tryz.func24 rfl rfl rfl ?_
  rintro _ w ⟨hf12, D, hD, a12, c12, rfl, hc12, hr12⟩
  obtain rfl := hx.mt.kept hD
  obtain ⟨G12, hG12, hO⟩ := hO.resL hf12 hr12
  unfold dyV
  refine WPL.al hO rfl (fun b3 w hO => ?_)
  refine WPL.stLA (T := T46) rfl rfl hO inferInstance inferInstance (by simp [Value.oneCell']) rfl rfl (fun w hO => ?_)
  refine WPL.nil ?_
  refine WP.seq ?_
  refine WP.draw [(0, 0), (1, 0), (2, 0), (3, 0), (4, 1), (5, 1), (6, 2), (7, 2), (8, 0), (9, 0), (10, 2)] [7, 10] mixed (by kernel_rfl) (by kernel_rfl) rfl hO (fun w hO => ?_)
  refine WPD.pv rfl rfl (fun w k' h => WPL.mv (v := .pointer _) rfl rfl (WPL.nil h)) ?_
  refine WPD.pv rfl rfl (fun w k' h => WPL.mv (v := .pointer _) rfl rfl (WPL.nil h)) ?_
  refine WPD.pv rfl rfl (fun w k' h => WPL.nc rfl rfl (WPL.nil h)) ?_
  refine WPD.pv rfl rfl (fun w k' h => WPL.fa rfl rfl (WPL.nil h)) ?_
  refine WPD.val rfl rfl (fun w hO k' h => WPL.ldL rfl hO inferInstance rfl rfl rfl (WPL.nil h)) ?_
  refine WPD.val rfl rfl (fun w hO k' h => WPL.ldLA (T := T46) [.bool _, .slice _ _ _, .int .i64 _] rfl hO inferInstance rfl agg46 rfl rfl (WPL.nil h)) ?_
  refine WPD.eff rfl hO ?_
  refine WPL.bs1 (pv := [(0, .agg #[.bool _, .slice _ _ _, .int .i64 _])]) (vs := [_, _, _]) rfl hO rfl rfl rfl rfl (fun b4 w hO => ?_)
  refine WPL.nil ?_
  refine WPD.eff rfl (Own.drop1 hO) ?_
  simp only [putAt, List.set] at hO
  have hO := hO.freeze
  have hsrc : SrcRow w (.slice (some ⟨b4, 0, none⟩) 1 1) 1 3 (dc [⟨x.B.kept, a9, c9, G9⟩]) := ⟨_, _, rfl, by simp [dc], hO.rd, dc_one _⟩
  have hO : Own tabs w0 K (GC ++ (⟨b3, [.bool x.B.kept.s, .slice a12 (dig x.B.kept.m).length c12, .int .i64 x.B.kept.e], 46⟩ :: (G12 ++ (⟨b2, [.bool x.B.kept.s, .slice a9 (dig x.B.kept.m).length c9, .int .i64 x.B.kept.e], 46⟩ :: (G9 ++ (⟨b1, [.pointer (some ⟨x.bk, 0, none⟩), .pointer (some ⟨x.rk, 0, none⟩)], 37⟩ :: ⟨p, [.slice la nl lc, .slice ca came.length cc, .slice wa want.length wc], 28⟩ :: ⟨x.bk, bnC x.B, 68⟩ :: ⟨x.rk, rfC x.R x.a x.c, 87⟩ :: (x.G ++ GW))))))) _ w := hO.perm (by classical exact List.perm_iff_count.2 (fun z => by simp only [List.count_append, List.count_cons, List.count_nil]; omega))
  refine WPL.app (ze := [.bool false, .slice none 0 0, .int .i64 0]) (vals := dc came) rfl hO hGC (by simp [dc_length]) hcc hsrc (by decide) (by omega) (by omega) rfl (fun a20 c20 G20 w hG20 hc20 hO => ?_)
  have hO := hO.dropR
  rw [← dc_append] at hG20
  have hO : Own tabs w0 K (⟨b3, [.bool x.B.kept.s, .slice a12 (dig x.B.kept.m).length c12, .int .i64 x.B.kept.e], 46⟩ :: (G12 ++ (⟨b2, [.bool x.B.kept.s, .slice a9 (dig x.B.kept.m).length c9, .int .i64 x.B.kept.e], 46⟩ :: (G9 ++ (⟨b1, [.pointer (some ⟨x.bk, 0, none⟩), .pointer (some ⟨x.rk, 0, none⟩)], 37⟩ :: ⟨p, [.slice la nl lc, .slice ca came.length cc, .slice wa want.length wc], 28⟩ :: ⟨x.bk, bnC x.B, 68⟩ :: ⟨x.rk, rfC x.R x.a x.c, 87⟩ :: (x.G ++ (G20 ++ (GW ++ [])))))))) [] w := hO.perm (by classical exact List.perm_iff_count.2 (fun z => by simp only [List.count_append, List.count_cons, List.count_nil]; omega))
  refine WPL.nil ?_
  refine WPD.pv rfl rfl (fun w k' h => WPL.nc rfl rfl (WPL.nil h)) ?_
  refine WPD.pv rfl rfl (fun w k' h => WPL.fa rfl rfl (WPL.nil h)) ?_
  refine WPD.effX rfl (by kernel_rfl) ?_
  refine WPL.stL (v := .slice _ _ _) rfl rfl hO inferInstance inferInstance rfl rfl rfl (fun w hO => ?_)
  refine WPL.nil ?_
  refine WPD.nilX (by kernel_rfl) ?_
  refine WP.seq ?_
  refine WP.draw [(0, 0), (1, 0), (2, 0), (3, 0), (4, 1), (5, 1), (6, 2), (7, 2), (8, 0), (9, 0), (10, 2)] [7, 10] mixed (by kernel_rfl) (by kernel_rfl) rfl hO (fun w hO => ?_)
  refine WPD.pv rfl rfl (fun w k' h => WPL.mv (v := .pointer _) rfl rfl (WPL.nil h)) ?_
  refine WPD.pv rfl rfl (fun w k' h => WPL.mv (v := .pointer _) rfl rfl (WPL.nil h)) ?_
  refine WPD.pv rfl rfl (fun w k' h => WPL.nc rfl rfl (WPL.nil h)) ?_
  refine WPD.pv rfl rfl (fun w k' h => WPL.fa rfl rfl (WPL.nil h)) ?_
  refine WPD.val rfl rfl (fun w hO k' h => WPL.ldL rfl hO inferInstance rfl rfl rfl (WPL.nil h)) ?_
  refine WPD.val rfl rfl (fun w hO k' h => WPL.ldLA (T := T46) [.bool _, .slice _ _ _, .int .i64 _] rfl hO inferInstance rfl agg46 rfl rfl (WPL.nil h)) ?_
  refine WPD.eff rfl hO ?_
  refine WPL.bs1 (pv := [(0, .agg #[.bool _, .slice _ _ _, .int .i64 _])]) (vs := [_, _, _]) rfl hO rfl rfl rfl rfl (fun b5 w hO => ?_)
  refine WPL.nil ?_
  refine WPD.eff rfl (Own.drop1 hO) ?_
  simp only [putAt, List.set] at hO
  have hO := hO.freeze
  have hsrc : SrcRow w (.slice (some ⟨b5, 0, none⟩) 1 1) 1 3 (dc [⟨x.B.kept, a12, c12, G12⟩]) := ⟨_, _, rfl, by simp [dc], hO.rd, dc_one _⟩
  have hO : Own tabs w0 K (GW ++ (⟨b3, [.bool x.B.kept.s, .slice a12 (dig x.B.kept.m).length c12, .int .i64 x.B.kept.e], 46⟩ :: (G12 ++ (⟨b2, [.bool x.B.kept.s, .slice a9 (dig x.B.kept.m).length c9, .int .i64 x.B.kept.e], 46⟩ :: (G9 ++ (⟨b1, [.pointer (some ⟨x.bk, 0, none⟩), .pointer (some ⟨x.rk, 0, none⟩)], 37⟩ :: ⟨p, [.slice la nl lc, .slice a20 (came.length + 1) c20, .slice wa want.length wc], 28⟩ :: ⟨x.bk, bnC x.B, 68⟩ :: ⟨x.rk, rfC x.R x.a x.c, 87⟩ :: (x.G ++ G20))))))) _ w := hO.perm (by classical exact List.perm_iff_count.2 (fun z => by simp only [List.count_append, List.count_cons, List.count_nil]; omega))
  refine WPL.app (ze := [.bool false, .slice none 0 0, .int .i64 0]) (vals := dc want) rfl hO hGW (by simp [dc_length]) hwc hsrc (by decide) (by omega) (by omega) rfl (fun a30 c30 G30 w hG30 hc30 hO => ?_)
  have hO := hO.dropR
  rw [← dc_append] at hG30
  have hO : Own tabs w0 K (⟨b3, [.bool x.B.kept.s, .slice a12 (dig x.B.kept.m).length c12, .int .i64 x.B.kept.e], 46⟩ :: (G12 ++ (⟨b2, [.bool x.B.kept.s, .slice a9 (dig x.B.kept.m).length c9, .int .i64 x.B.kept.e], 46⟩ :: (G9 ++ (⟨b1, [.pointer (some ⟨x.bk, 0, none⟩), .pointer (some ⟨x.rk, 0, none⟩)], 37⟩ :: ⟨p, [.slice la nl lc, .slice a20 (came.length + 1) c20, .slice wa want.length wc], 28⟩ :: ⟨x.bk, bnC x.B, 68⟩ :: ⟨x.rk, rfC x.R x.a x.c, 87⟩ :: (x.G ++ (G20 ++ (G30 ++ [])))))))) [] w := hO.perm (by classical exact List.perm_iff_count.2 (fun z => by simp only [List.count_append, List.count_cons, List.count_nil]; omega))
  refine WPL.nil ?_
  refine WPD.pv rfl rfl (fun w k' h => WPL.nc rfl rfl (WPL.nil h)) ?_
  refine WPD.pv rfl rfl (fun w k' h => WPL.fa rfl rfl (WPL.nil h)) ?_
  refine WPD.effX rfl (by kernel_rfl) ?_
  refine WPL.stL (v := .slice _ _ _) rfl rfl hO inferInstance inferInstance rfl rfl rfl (fun w hO => ?_)
  refine WPL.nil ?_
  refine WPD.nilX (by kernel_rfl) ?_
  refine WP.seq ?_
  refine WP.draw [(0, 1), (1, 1), (2, 2), (3, 0), (4, 0), (5, 1), (7, 0), (8, 1), (6, 2), (9, 2), (10, 2), (11, 0), (12, 0), (13, 0), (14, 1), (16, 0), (17, 1), (15, 2), (18, 2), (19, 0), (20, 0), (21, 0), (22, 0), (23, 1), (25, 0), (26, 1), (24, 2), (27, 2), (28, 0), (29, 0), (30, 0)] [] mixed (by kernel_rfl) (by kernel_rfl) rfl hO (fun w hO => ?_)
  refine WPD.val rfl rfl (fun w hO k' h => WPL.ldLA (T := T46) [.bool _, .slice _ _ _, .int .i64 _] rfl hO inferInstance rfl agg46 rfl rfl (WPL.nil h)) ?_
  refine WPD.val rfl rfl (fun w hO k' h => WPL.ldLA (T := T46) [.bool _, .slice _ _ _, .int .i64 _] rfl hO inferInstance rfl agg46 rfl rfl (WPL.nil h)) ?_
  refine WPD.eff rfl hO ?_
  have hlk := len_blen (k := 8192) (show blen x.B.kept.m ≤ 32 * 8192 by have := (x.B.keptN_B (q := 4722366482869645213696) (by decide) hx.mt.Ok hx.mt.Ok.fold).1; unfold Bn.kept; omega)
  refine WPL.call rfl (r3_Same x.B.kept a9 c9 a12 c12 (hO.rdG hG9) (hO.rdG hG12) (by omega)) Tryz.func7 rfl rfl rfl ?_
  rintro _ w ⟨hf35, rfl⟩
  have hO := hO.call hf35
  refine WPL.nil ?_
  refine WPD.pv rfl rfl (fun w k' h => WPL.mv (v := .bool _) rfl rfl (WPL.nil h)) ?_
  refine WPD.split (s := 36) rfl (fun h1 => ?_) (fun h1 => ?_)
  · refine WPD.pv rfl rfl (fun w k' h => WPL.guardT rfl rfl h1 (WPL.fa rfl rfl (WPL.nil h))) ?_
    refine WPD.val rfl rfl (fun w hO k' h => WPL.guardT rfl rfl h1 (WPL.ldL rfl hO inferInstance rfl rfl rfl (WPL.nil h))) ?_
    refine WPD.pv rfl rfl (fun w k' h => WPL.guardT rfl rfl h1 (WPL.fa rfl rfl (WPL.nil h))) ?_
    refine WPD.val rfl rfl (fun w hO k' h => WPL.guardT rfl rfl h1 (WPL.ldL rfl hO inferInstance rfl rfl rfl (WPL.nil h))) ?_
    refine WPD.eff rfl hO ?_
    refine WPL.guardT rfl rfl h1 ?_
    refine WPL.call rfl (bins_Bound hO.tab x.bk (notab hO (b := x.bk) (by simp [keys])) x.B (hO.cells ⟨x.bk, bnC x.B, 68⟩ (by simp)) 4722366482869645213696 (by decide) hx.mt.Ok hxc) Tryz.func14 rfl rfl rfl ?_
    rintro _ w ⟨hf39, rfl⟩
    have hO := hO.call hf39
    refine WPL.nil ?_
    refine WPD.eff rfl hO ?_
    refine WPL.guardT rfl rfl h1 ?_
    refine WPL.call rfl (r9_Bound x.rk x.R x.a x.c (hO.rdA (b := x.rk) (cs := rfC x.R x.a x.c) inferInstance) (hO.rdG hx.grown) hx.cap hx.mt.ok) Tryz.func25 rfl rfl rfl ?_
    rintro _ w ⟨hf42, rfl⟩
    have hO := hO.call hf42
    refine WPL.nil ?_
    refine WPD.eff rfl hO ?_
    refine WPL.guardT rfl rfl h1 ?_
    refine WPL.call rfl (r3_Alike _ _) Tryz.func23 rfl rfl rfl ?_
    rintro _ _ ⟨rfl, rfl⟩
    rw [decide_eq_true hx.mt.bound]
    refine WPL.nil ?_
    refine WPD.pv rfl rfl (fun w k' h => WPL.pkT (v := .bool _) rfl h1 rfl rfl (WPL.nil h)) ?_
    refine WPD.pv rfl rfl (fun w k' h => WPL.mv (v := .bool _) rfl rfl (WPL.nil h)) ?_
    refine WPD.split (s := 45) rfl (fun h2 => ?_) (fun h2 => ?_)
    · refine WPD.pv rfl rfl (fun w k' h => WPL.guardT rfl rfl h2 (WPL.fa rfl rfl (WPL.nil h))) ?_
      refine WPD.val rfl rfl (fun w hO k' h => WPL.guardT rfl rfl h2 (WPL.ldL rfl hO inferInstance rfl rfl rfl (WPL.nil h))) ?_
      refine WPD.pv rfl rfl (fun w k' h => WPL.guardT rfl rfl h2 (WPL.fa rfl rfl (WPL.nil h))) ?_
      refine WPD.val rfl rfl (fun w hO k' h => WPL.guardT rfl rfl h2 (WPL.ldL rfl hO inferInstance rfl rfl rfl (WPL.nil h))) ?_
      refine WPD.eff rfl hO ?_
      refine WPL.guardT rfl rfl h2 ?_
      refine WPL.call rfl (bins_Fold x.bk x.B (hO.cells ⟨x.bk, bnC x.B, 68⟩ (by simp))) Tryz.func16 rfl rfl rfl ?_
      rintro _ _ ⟨rfl, rfl⟩
      refine WPL.nil ?_
      refine WPD.eff rfl hO ?_
      refine WPL.guardT rfl rfl h2 ?_
      refine WPL.call rfl (r9_Fold x.rk x.R x.a x.c (hO.rdA (b := x.rk) (cs := rfC x.R x.a x.c) inferInstance)) Tryz.func26 rfl rfl rfl ?_
      rintro _ w ⟨rfl, hf51⟩
      have hO := hO.call hf51
      refine WPL.nil ?_
      refine WPD.pv rfl rfl (fun w k' h => WPL.guardT rfl rfl h2 (WPL.eq rfl rfl rfl (WPL.nil h))) ?_
      refine WPD.pv rfl rfl (fun w k' h => WPL.pkT (v := .bool _) rfl h2 rfl rfl (WPL.nil h)) ?_
      refine WPD.pv rfl rfl (fun w k' h => WPL.mv (v := .bool _) rfl rfl (WPL.nil h)) ?_
      refine WPD.split (s := 54) rfl (fun h3 => ?_) (fun h3 => ?_)
      · have ph3 := of_decide_eq_true h3
        refine WPD.pv rfl rfl (fun w k' h => WPL.guardT rfl rfl h3 (WPL.fa rfl rfl (WPL.nil h))) ?_
        refine WPD.val rfl rfl (fun w hO k' h => WPL.guardT rfl rfl h3 (WPL.ldL rfl hO inferInstance rfl rfl rfl (WPL.nil h))) ?_
        refine WPD.pv rfl rfl (fun w k' h => WPL.guardT rfl rfl h3 (WPL.fa rfl rfl (WPL.nil h))) ?_
        refine WPD.val rfl rfl (fun w hO k' h => WPL.guardT rfl rfl h3 (WPL.ldL rfl hO inferInstance rfl rfl rfl (WPL.nil h))) ?_
        refine WPD.eff rfl hO ?_
        refine WPL.guardT rfl rfl h3 ?_
        refine WPL.call rfl (bins_Count x.bk x.B (hO.cells ⟨x.bk, bnC x.B, 68⟩ (by simp))) Tryz.func15 rfl rfl rfl ?_
        rintro _ _ ⟨rfl, rfl⟩
        refine WPL.nil ?_
        refine WPD.eff rfl hO ?_
        refine WPL.guardT rfl rfl h3 ?_
        refine WPL.call rfl (r9_Count x.rk x.R x.a x.c (hO.rdA (b := x.rk) (cs := rfC x.R x.a x.c) inferInstance)) Tryz.func27 rfl rfl rfl ?_
        rintro _ w ⟨rfl, hf60⟩
        have hO := hO.call hf60
        refine WPL.nil ?_
        refine WPD.pv rfl rfl (fun w k' h => WPL.guardT rfl rfl h3 (WPL.eq rfl rfl rfl (WPL.nil h))) ?_
        refine WPD.pv rfl rfl (fun w k' h => WPL.pkT (v := .bool _) rfl h3 rfl rfl (WPL.nil h)) ?_
        refine WPD.pv rfl rfl (fun w k' h => WPL.as (v := .bool _) rfl rfl (WPL.nil h)) ?_
        refine WPD.nil hO ?_
        refine WP.ret ?_
        refine ⟨rfl, ?_⟩
        refine RO.tmp (v := .bool _) rfl ?_
        refine RO.nil ?_
        simp only [putAt, List.set] at hO
        refine ⟨congrArg Value.bool (decide_eq_true (by have := hx.mt.count; omega)), a9, c9, G9, a12, c12, G12, a20, c20, G20, a30, c30, G30, ⟨hG9, hc9, hlk⟩, ⟨hG12, hc12, hlk⟩, hG20, hG30, hc20, hc30, ?_⟩
        have hO : Own tabs w0 K (⟨b1, [.pointer (some ⟨x.bk, 0, none⟩), .pointer (some ⟨x.rk, 0, none⟩)], 37⟩ :: ⟨b2, [.bool x.B.kept.s, .slice a9 (dig x.B.kept.m).length c9, .int .i64 x.B.kept.e], 46⟩ :: ⟨b3, [.bool x.B.kept.s, .slice a12 (dig x.B.kept.m).length c12, .int .i64 x.B.kept.e], 46⟩ :: ⟨p, [.slice la nl lc, .slice a20 (came.length + 1) c20, .slice a30 (want.length + 1) c30], 28⟩ :: ⟨x.bk, bnC x.B, 68⟩ :: ⟨x.rk, rfC x.R x.a x.c, 87⟩ :: (x.G ++ (G20 ++ (G30 ++ (G9 ++ (G12 ++ [])))))) [] w := hO.perm (by classical exact List.perm_iff_count.2 (fun z => by simp only [List.count_append, List.count_cons, List.count_nil]; omega))
        exact hO.drop1.drop1.drop1
      · have ph3 := of_decide_eq_false h3
        exact absurd (by have := hx.mt.fold; omega) (of_decide_eq_false h3)
    · cases h2
  · cases h1
end Go.Sw
