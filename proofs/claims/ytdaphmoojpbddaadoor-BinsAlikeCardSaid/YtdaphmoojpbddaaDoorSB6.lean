/- A part of the proof that BinsAlike answers true: steps of the walk, or plain laws that it needs. No conditions of its own. -/
import Derived.Test.YtdaphmoojpbddaaDoorSB5
set_option linter.all false
/-! Rules over slices of the call's own that may be nil. -/
namespace Go.Sw
set_option autoImplicit false
set_option linter.all false
open Go.RowKit
section
variable {P : Program} {n : Nat} {σ : Env} {ds : List Deferred} {ops : Array Oper} {rest : List Oper} {k : Env → List Deferred → World → Prop} {w w0 : World}
  {d : Nat} {ty : TypeId} {pos : String} {af : Array Edge} {tb : List Blk} {M : List Nat} {L L' : List Blk} {R : List Row} {x y : Operand} {t : TypeId}
/-- An element's address, of a row that reads so. -/
theorem WPL.ixG {a : Option Addr} {l c j : Nat} {E : TypeId} {z ze : List Value} {by' be : Nat} {kk : IntKind} {i : Int} {vals : List Value} {DE : TypeDesc} [T : Ty P t (.slice E) z by'] [TE : Ty P E DE ze be]
    (hx : ev σ x = .slice a l c) (hr : RowOk w [] ⟨a, vals⟩) (hy : ev σ y = .int kk i) (hj : i = (j : Int)) (hlt : j < l) (hjv : j * ze.length < vals.length) (hd : Nat.blt d n = true)
    (h : WPL P n ops rest k (upd σ d (.pointer (some ⟨(addrOf a).block, (addrOf a).off + j * ze.length, none⟩))) ds w) :
    WPL P n ops (⟨some d, .indexAddr t x y, ty, pos, af, none⟩ :: rest) k σ ds w := by
  have hne : vals ≠ [] := by intro e; rw [e] at hjv; simp at hjv
  have e := row_some hr hne
  simp only at e
  rw [e] at hx
  exact WPL.ixL hx hy hj hlt hd h
theorem WPL.ldG {D : TypeDesc} {zs vals : List Value} {by' : Nat} {a : Option Addr} {v : Value} (j : Nat) [T : Ty P t D zs by'] (hx : ev σ x = .pointer (some ⟨(addrOf a).block, (addrOf a).off + j, none⟩)) (hr : RowOk w [] ⟨a, vals⟩) (hv : vals[j]? = some v)
    (hD : TypeDesc.agg D = false) (hd : Nat.blt d n = true) (h : WPL P n ops rest k (upd σ d v) ds w) : WPL P n ops (⟨some d, .load t x, ty, pos, af, none⟩ :: rest) k σ ds w := by
  refine WPL.val hd ?_ h
  have := run_loadVar1 (P := P) (t := t) hD (hr.2.2 j v hv)
  simp [execOp, hx, Instr.loadAt, Instr.sureAddr, this]
theorem WPL.ldGA {D : TypeDesc} {zs vals : List Value} {by' : Nat} {a : Option Addr} (j : Nat) (vs : List Value) [T : Ty P t D zs by'] (hx : ev σ x = .pointer (some ⟨(addrOf a).block, (addrOf a).off + j, none⟩)) (hr : RowOk w [] ⟨a, vals⟩) (hv : ∀ i v, vs[i]? = some v → vals[j + i]? = some v)
    (hD : TypeDesc.agg D = true) (hn : vs.length = zs.length) (hd : Nat.blt d n = true) (h : WPL P n ops rest k (upd σ d (.agg vs.toArray)) ds w) : WPL P n ops (⟨some d, .load t x, ty, pos, af, none⟩ :: rest) k σ ds w := by
  refine WPL.val hd ?_ h
  have := run_loadVarN (P := P) (t := t) (w := w) (a := ⟨(addrOf a).block, (addrOf a).off + j, none⟩) hD hn (fun i v hi => by
    rw [add_addr, Nat.add_assoc]; exact hr.2.2 (j + i) v (hv i v hi))
  simp [execOp, hx, Instr.loadAt, Instr.sureAddr, this]
/-- A store into an element of a slice of the call's own. -/
theorem WPL.stG {D : TypeDesc} {zs vals : List Value} {by' : Nat} {a : Option Addr} {v : Value} {c sz : Nat} {E : TypeId} {G : List Blk} (A L' : List Blk) (j : Nat) [T : Ty P t D zs by'] (hx : ev σ x = .pointer (some ⟨(addrOf a).block, (addrOf a).off + j, none⟩)) (hy : ev σ y = v)
    (hO : Own tb w0 M (A ++ (G ++ L')) R w) (hG : Grown a c sz vals E G) (hj : j < vals.length) (hv : v.oneCell' = true) (hn : zs.length = 1)
    (h : ∀ G' w, Grown a c sz (vals.set j v) E G' → Own tb w0 M (A ++ (G' ++ L')) R w → WPL P n ops rest k σ ds w) : WPL P n ops (⟨none, .store t x y, ty, pos, af, none⟩ :: rest) k σ ds w := by
  rcases hG with ⟨_, _, rfl, _⟩ | ⟨b, sp, rfl, rfl, hc⟩
  · simp at hj
  · have hx' : ev σ x = .pointer (some ⟨b, j, none⟩) := by rw [hx]; simp [addrOf]
    have hset : (vals ++ sp).set j v = vals.set j v ++ sp := List.set_append_left _ _ hj
    have ht : Turn (A ++ ([⟨b, vals ++ sp, E⟩] ++ L')) b ((vals ++ sp).set j v) (A ++ ([⟨b, (vals ++ sp).set j v, E⟩] ++ L')) := ⟨A, L', _, _, rfl, rfl⟩
    have hl : Look (A ++ ([⟨b, vals ++ sp, E⟩] ++ L')) b (vals ++ sp) E := ⟨by simp⟩
    refine WPL.stL hx' hy hO hl ht hv hn (by simp [Nat.blt_eq]; omega) (fun w hO => ?_)
    refine h [⟨b, vals.set j v ++ sp, E⟩] w (.inr ⟨b, sp, rfl, rfl, by simpa using hc⟩) ?_
    rw [← hset]; exact hO
end
section
variable {tb : List Blk} {w0 w : World} {M : List Nat} {R : List Row}
theorem Own.front {A G L : List Blk} (h : Own tb w0 M (A ++ (G ++ L)) R w) : Own tb w0 M (G ++ (A ++ L)) R w :=
  h.perm (by rw [← List.append_assoc, ← List.append_assoc]; exact List.Perm.append_right _ List.perm_append_comm)
end
end Go.Sw
namespace Go.Sw
/-- Merged so far. -/
def Rf.mergeN (R : Rf) (l : List (Nat × Nat)) (i : Nat) : Rf := (l.take i).foldl Rf.more R
theorem mergeN_succ {R : Rf} {l : List (Nat × Nat)} {i : Nat} (h : i < l.length) : R.mergeN l (i + 1) = (R.mergeN l i).more (l.getD i (0, 0)) := by
  unfold Rf.mergeN
  rw [List.take_succ_eq_append_getElem h, List.foldl_append, List.getD_eq_getElem?_getD, List.getElem?_eq_getElem h]; rfl
theorem mergeN_all {R O : Rf} : R.mergeN O.l O.l.length = R.merge O := by unfold Rf.mergeN Rf.merge; rw [List.take_length]
theorem foldl_more_n (l : List (Nat × Nat)) : ∀ R : Rf, (l.foldl Rf.more R).n = R.n + sumT l := by
  induction l with
  | nil => intro R; simp [sumT]
  | cons p l ih => intro R; rw [List.foldl_cons, ih]; simp [Rf.more, sumT]; omega
theorem foldl_more_fold (l : List (Nat × Nat)) : ∀ R : Rf, (l.foldl Rf.more R).fold = R.fold := by
  induction l with
  | nil => intro R; rfl
  | cons p l ih => intro R; rw [List.foldl_cons, ih]; rfl
theorem foldl_more_ok : ∀ (l : List (Nat × Nat)) (R : Rf), R.Ok → okL l → R.n + sumT l ≤ 1099511627776 → (l.foldl Rf.more R).Ok
  | [], R, h, _, _ => h
  | p :: l, R, h, hl, hn => by
    simp only [sumT] at hn
    exact foldl_more_ok l (R.more p) (h.more (hl p (List.mem_cons_self ..)) (by omega)) (fun q hq => hl q (List.mem_cons_of_mem _ hq)) (by show R.n + p.2 + sumT l ≤ _; omega)
theorem okL.take {l : List (Nat × Nat)} (h : okL l) (i : Nat) : okL (l.take i) := fun p hp => h p (List.mem_of_mem_take hp)
theorem sumT_take (l : List (Nat × Nat)) (i : Nat) : sumT (l.take i) ≤ sumT l := by
  conv => rhs; rw [← List.take_append_drop i l, sumT_append]
  omega
theorem sumT_take_succ {l : List (Nat × Nat)} {i : Nat} (h : i < l.length) : sumT (l.take i) + (l.getD i (0, 0)).2 ≤ sumT l := by
  have := sumT_take l (i + 1)
  rw [List.take_succ_eq_append_getElem h, sumT_append] at this
  rw [List.getD_eq_getElem?_getD, List.getElem?_eq_getElem h]
  simpa [sumT] using this
theorem mergeN_ok {R O : Rf} (h : R.Ok) (hO : O.Ok) (hn : R.n + O.n ≤ 1099511627776) (i : Nat) : (R.mergeN O.l i).Ok :=
  foldl_more_ok _ _ h (hO.ok.take i) (by have := sumT_take O.l i; have := hO.sum; omega)
theorem mergeN_n {R O : Rf} (h : R.Ok) (hO : O.Ok) (hn : R.n + O.n ≤ 1099511627776) {i : Nat} (hi : i < O.l.length) : (R.mergeN O.l i).n + (O.l.getD i (0, 0)).2 ≤ 1099511627776 := by
  rw [Rf.mergeN, foldl_more_n]
  have := sumT_take_succ hi
  have := hO.sum
  omega
theorem Rf.Ok.merge {R O : Rf} (h : R.Ok) (hO : O.Ok) (hn : R.n + O.n ≤ 1099511627776) : (R.merge O).Ok := by
  have := mergeN_ok h hO hn O.l.length
  rwa [mergeN_all] at this
theorem oc_pair {l : List (Nat × Nat)} {i : Nat} (h : i < l.length) : ∀ (j : Nat) (v : Value), [Value.int .u64 ((l.getD i (0, 0)).1 : Int), .int .i64 ((l.getD i (0, 0)).2 : Int)][j]? = some v → (oc l)[i * 2 + j]? = some v := by
  intro j v hj
  match j, hj with
  | 0, hj => simp only [List.getElem?_cons_zero, Option.some.injEq] at hj; subst hj; exact oc_bits h
  | 1, hj => simp only [List.getElem?_cons_succ, List.getElem?_cons_zero, Option.some.injEq] at hj; subst hj; exact oc_times h
  | j + 2, hj => simp at hj
end Go.Sw
