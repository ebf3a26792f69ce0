/- A part of the proof that BinsAlike answers true: steps of the walk, or plain laws that it needs. No conditions of its own. -/
import Derived.Test.YtdaphmoojpbddaaDoorSD
set_option linter.all false
/-! Rules for memory, calls, numbers with a point. -/
namespace Go.Sw
set_option autoImplicit false
open Go.RowKit
variable {P : Program} {n : Nat} {σ : Env} {ds : List Deferred} {ops : Array Oper} {rest : List Oper} {k : Env → List Deferred → World → Prop} {w w0 : World}
  {d : Nat} {ty : TypeId} {pos : String} {af : Array Edge} {tb : List Blk} {M : List Nat} {L L' : List Blk} {R : List Row} {x y : Operand} {t : TypeId}

class Fld (P : Program) (s f : Nat) (off : outParam Nat) : Prop where
  is : ∃ fs fd i, P.underlying s = some (.struct fs) ∧ fs[f]? = some fd ∧ fd.offset = off ∧ P.info? fd.type = some i ∧ i.size ≠ 0
theorem add_addr (b off o : Nat) : (⟨b, off, none⟩ : Addr).add o = ⟨b, off + o, none⟩ := by
  unfold Addr.add; split
  · rename_i h; subst h; rfl
  · rfl
theorem WPL.fa {b off f o : Nat} (hx : ev σ x = .pointer (some ⟨b, off, none⟩)) [F : Fld P t f o] (hd : Nat.blt d n = true) (h : WPL P n ops rest k (upd σ d (.pointer (some ⟨b, off + o, none⟩))) ds w) :
    WPL P n ops (⟨some d, .fieldAddr t x f, ty, pos, af, none⟩ :: rest) k σ ds w := by
  obtain ⟨fs, fd, i, h1, h2, h3, h4, h5⟩ := F.is
  refine WPL.val hd ?_ h
  simp [execOp, hx, Instr.fieldAt, underlying, h1, h2, Instr.sureAddr, fieldPlace, sizeOf, typeInfo, h4, h5, h3, add_addr]
/-- An element's address: of a slice (or an array) of the call's own. -/
theorem WPL.ixL {b off l c j : Nat} {E : TypeId} {z ze : List Value} {by' be : Nat} {kk : IntKind} {i : Int} {DE : TypeDesc} [T : Ty P t (.slice E) z by'] [TE : Ty P E DE ze be]
    (hx : ev σ x = .slice (some ⟨b, off, none⟩) l c) (hy : ev σ y = .int kk i) (hj : i = (j : Int)) (hlt : j < l) (hd : Nat.blt d n = true)
    (h : WPL P n ops rest k (upd σ d (.pointer (some ⟨b, off + j * ze.length, none⟩))) ds w) :
    WPL P n ops (⟨some d, .indexAddr t x y, ty, pos, af, none⟩ :: rest) k σ ds w := by
  subst hj
  obtain ⟨ie, ze', h1, h2, h3, h4, h5⟩ := TE.info
  refine WPL.val hd ?_ h
  have hi : (0 : Int) ≤ (j : Int) ∧ (j : Int) < (l : Int) := by omega
  simp [execOp, hx, hy, Instr.indexAt, asIntOf, underlying, T.und, hi, sizeOf, typeInfo, h1, h4, add_addr]
  exact fun h => absurd h (by omega)
theorem WPL.ixA {b off m j : Nat} {E : TypeId} {z ze : List Value} {by' be : Nat} {kk : IntKind} {i : Int} {DE : TypeDesc} [T : Ty P t (.array m E) z by'] [TE : Ty P E DE ze be]
    (hx : ev σ x = .pointer (some ⟨b, off, none⟩)) (hy : ev σ y = .int kk i) (hj : i = (j : Int)) (hlt : j < m) (hd : Nat.blt d n = true)
    (h : WPL P n ops rest k (upd σ d (.pointer (some ⟨b, off + j * ze.length, none⟩))) ds w) :
    WPL P n ops (⟨some d, .indexAddr t x y, ty, pos, af, none⟩ :: rest) k σ ds w := by
  subst hj
  obtain ⟨ie, ze', h1, h2, h3, h4, h5⟩ := TE.info
  refine WPL.val hd ?_ h
  have hi : (0 : Int) ≤ (j : Int) ∧ (j : Int) < (m : Int) := by omega
  simp [execOp, hx, hy, Instr.indexAt, asIntOf, underlying, T.und, hi, sizeOf, typeInfo, h1, h4, add_addr, Instr.sureAddr]
  exact fun h => absurd h (by omega)
theorem row_some {r : Row} {ks : List Nat} (h : RowOk w ks r) (hne : r.vals ≠ []) : r.a = some ⟨(addrOf r.a).block, (addrOf r.a).off, none⟩ := by
  obtain ⟨p, hp⟩ := Option.isSome_iff_exists.1 (h.2.1 hne)
  have hs := (h.1 p hp).1
  rw [hp]
  simp only [addrOf, Option.getD_some]
  cases p with
  | mk b o s => simp only at hs; subst hs; rfl
/-- An element's address: of a slice that is only read. -/
theorem WPL.ixR {a : Option Addr} {l c j : Nat} {E : TypeId} {z ze : List Value} {by' be : Nat} {kk : IntKind} {i : Int} {vals : List Value} {DE : TypeDesc} [T : Ty P t (.slice E) z by'] [TE : Ty P E DE ze be]
    (hx : ev σ x = .slice a l c) (hO : Own tb w0 M L R w) (hr : Reads R a vals) (hy : ev σ y = .int kk i) (hj : i = (j : Int)) (hlt : j < l) (hjv : j * ze.length < vals.length) (hd : Nat.blt d n = true)
    (h : WPL P n ops rest k (upd σ d (.pointer (some ⟨(addrOf a).block, (addrOf a).off + j * ze.length, none⟩))) ds w) :
    WPL P n ops (⟨some d, .indexAddr t x y, ty, pos, af, none⟩ :: rest) k σ ds w := by
  have hne : vals ≠ [] := by intro e; rw [e] at hjv; simp at hjv
  have e := row_some (hO.rows _ hr.mem) hne
  simp only at e
  rw [e] at hx
  exact WPL.ixL hx hy hj hlt hd h

theorem run_loadVar1 {D : TypeDesc} {zs : List Value} {by' : Nat} [T : Ty P t D zs by'] (hD : TypeDesc.agg D = false) {a : Addr} {v : Value} (h : w.cell? a = some v) : (loadVar t a).run P w = .ok v w := by
  have : (isAgg t).run P w = .ok false w := by
    simp only [isAgg, Sem.run_bind, underlying, T.und, run_program, Result.andThen_ok]
    cases D <;> simp_all [TypeDesc.agg]
  simp [loadVar, this, h]
theorem run_loadVarN {D : TypeDesc} {zs : List Value} {by' : Nat} [T : Ty P t D zs by'] (hD : TypeDesc.agg D = true) {a : Addr} {vs : List Value} (hn : vs.length = zs.length) (h : ∀ j v, vs[j]? = some v → w.cell? (a.add j) = some v) :
    (loadVar t a).run P w = .ok (.agg vs.toArray) w := by
  have : (isAgg t).run P w = .ok true w := by
    simp only [isAgg, Sem.run_bind, underlying, T.und, run_program, Result.andThen_ok]
    cases D <;> simp_all [TypeDesc.agg]
  obtain ⟨i, z, h1, h2, h3, h4, h5⟩ := T.info
  have hc := run_loadCells_list (P := P) (w := w) a vs h
  simp [loadVar, this, sizeOf, typeInfo, h1, h4, ← hn, hc]
/-- A load: of a cell of the call's own; of one that is only read; of a table. -/
theorem WPL.ldL {D : TypeDesc} {zs cs : List Value} {by' b off : Nat} {v : Value} {T' : TypeId} [T : Ty P t D zs by'] (hx : ev σ x = .pointer (some ⟨b, off, none⟩)) (hO : Own tb w0 M L R w) (hl : Look L b cs T') (hv : cs[off]? = some v)
    (hD : TypeDesc.agg D = false) (hd : Nat.blt d n = true) (h : WPL P n ops rest k (upd σ d v) ds w) : WPL P n ops (⟨some d, .load t x, ty, pos, af, none⟩ :: rest) k σ ds w := by
  refine WPL.val hd ?_ h
  have := run_loadVar1 (P := P) (t := t) hD ((hO.cellL (off := off) hl).trans hv)
  simp [execOp, hx, Instr.loadAt, Instr.sureAddr, this]
theorem WPL.ldLA {D : TypeDesc} {zs cs : List Value} {by' b off : Nat} (vs : List Value) {T' : TypeId} [T : Ty P t D zs by'] (hx : ev σ x = .pointer (some ⟨b, off, none⟩)) (hO : Own tb w0 M L R w) (hl : Look L b cs T') (hv : (cs.drop off).take vs.length = vs)
    (hD : TypeDesc.agg D = true) (hn : vs.length = zs.length) (hd : Nat.blt d n = true) (h : WPL P n ops rest k (upd σ d (.agg vs.toArray)) ds w) : WPL P n ops (⟨some d, .load t x, ty, pos, af, none⟩ :: rest) k σ ds w := by
  refine WPL.val hd ?_ h
  have := run_loadVarN (P := P) (t := t) (w := w) (a := ⟨b, off, none⟩) hD hn (fun j v hj => by
    rw [add_addr, hO.cellL hl, ← List.getElem?_drop]
    rw [← hv] at hj
    rw [List.getElem?_take] at hj
    split at hj
    · exact hj
    · simp at hj)
  simp [execOp, hx, Instr.loadAt, Instr.sureAddr, this]
theorem WPL.ldR {D : TypeDesc} {zs vals : List Value} {by' j : Nat} {a : Option Addr} {v : Value} [T : Ty P t D zs by'] (hx : ev σ x = .pointer (some ⟨(addrOf a).block, (addrOf a).off + j, none⟩)) (hO : Own tb w0 M L R w) (hr : Reads R a vals) (hv : vals[j]? = some v)
    (hD : TypeDesc.agg D = false) (hd : Nat.blt d n = true) (h : WPL P n ops rest k (upd σ d v) ds w) : WPL P n ops (⟨some d, .load t x, ty, pos, af, none⟩ :: rest) k σ ds w := by
  refine WPL.val hd ?_ h
  have := run_loadVar1 (P := P) (t := t) hD ((hO.rows _ hr.mem).2.2 j v hv)
  simp [execOp, hx, Instr.loadAt, Instr.sureAddr, this]
theorem WPL.ldRA {D : TypeDesc} {zs vals : List Value} {by' j : Nat} {a : Option Addr} (vs : List Value) [T : Ty P t D zs by'] (hx : ev σ x = .pointer (some ⟨(addrOf a).block, (addrOf a).off + j, none⟩)) (hO : Own tb w0 M L R w) (hr : Reads R a vals) (hv : ∀ i v, vs[i]? = some v → vals[j + i]? = some v)
    (hD : TypeDesc.agg D = true) (hn : vs.length = zs.length) (hd : Nat.blt d n = true) (h : WPL P n ops rest k (upd σ d (.agg vs.toArray)) ds w) : WPL P n ops (⟨some d, .load t x, ty, pos, af, none⟩ :: rest) k σ ds w := by
  refine WPL.val hd ?_ h
  have := run_loadVarN (P := P) (t := t) (w := w) (a := ⟨(addrOf a).block, (addrOf a).off + j, none⟩) hD hn (fun i v hi => by
    rw [add_addr, Nat.add_assoc]; exact (hO.rows _ hr.mem).2.2 (j + i) v (hv i v hi))
  simp [execOp, hx, Instr.loadAt, Instr.sureAddr, this]
theorem WPL.ldT {D : TypeDesc} {zs cs : List Value} {by' b off : Nat} {v : Value} {T' : TypeId} [T : Ty P t D zs by'] (hx : ev σ x = .pointer (some ⟨b, off, none⟩)) (hO : Own tb w0 M L R w) (hl : Look tb b cs T') (hv : cs[off]? = some v)
    (hD : TypeDesc.agg D = false) (hd : Nat.blt d n = true) (h : WPL P n ops rest k (upd σ d v) ds w) : WPL P n ops (⟨some d, .load t x, ty, pos, af, none⟩ :: rest) k σ ds w := by
  refine WPL.val hd ?_ h
  have := run_loadVar1 (P := P) (t := t) hD ((hO.tabs _ hl.mem).2.2 off v hv)
  simp [execOp, hx, Instr.loadAt, Instr.sureAddr, this]

theorem cells_one {v : Value} (h : v.oneCell' = true) : v.cells = #[v] := by cases v <;> simp_all [Value.oneCell', Value.cells]
/-- A store of one cell. -/
theorem WPL.stL {D : TypeDesc} {zs cs : List Value} {by' b off : Nat} {v : Value} {T' : TypeId} [T : Ty P t D zs by'] (hx : ev σ x = .pointer (some ⟨b, off, none⟩)) (hy : ev σ y = v) (hO : Own tb w0 M L R w) (hl : Look L b cs T') (ht : Turn L b (cs.set off v) L')
    (hv : v.oneCell' = true) (hn : zs.length = 1) (hlt0 : Nat.blt off cs.length = true) (h : ∀ w, Own tb w0 M L' R w → WPL P n ops rest k σ ds w) : WPL P n ops (⟨none, .store t x y, ty, pos, af, none⟩ :: rest) k σ ds w := by
  have hlt : off < cs.length := by simpa [Nat.blt_eq] using hlt0
  refine WPL.unit ?_ (h _ (hO.store hl ht))
  obtain ⟨i, z, h1, h2, h3, h4, h5⟩ := T.info
  have hc : w.cell? ⟨b, off, none⟩ = some cs[off] := by rw [hO.cellL hl, List.getElem?_eq_getElem hlt]
  have hf := hO.frozenL (off := off) hl
  have := run_store P w ⟨b, off, none⟩ v .plain hv
  rw [hc] at this
  simp only [hf, Bool.false_eq_true, if_false] at this
  simp [execOp, hx, hy, Instr.storeAt, Instr.sureAddr, storeVar, cells_one hv, sizeOf, typeInfo, h1, h4, hn, storeCells, add_addr, this]
/-- What a store of several cells makes of a block. -/
def putAt (cs : List Value) (off : Nat) : List Value → List Value
  | [] => cs
  | v :: vs => putAt (cs.set off v) (off + 1) vs
theorem putAt_length (vs : List Value) : ∀ (cs : List Value) (off : Nat), (putAt cs off vs).length = cs.length := by
  induction vs with
  | nil => intro cs off; rfl
  | cons v vs ih => intro cs off; rw [putAt, ih]; simp
theorem run_storeCells (b : Nat) (T' : TypeId) (vs : List Value) : ∀ (cs : List Value) (w : World) (off i : Nat), w.heap[b]? = some (.cells cs.toArray T' (0, 0)) → off + i + vs.length ≤ cs.length → (∀ v ∈ vs, v.oneCell' = true) →
    ∃ w', (storeCells ⟨b, off, none⟩ vs i).run P w = .ok () w' ∧ FrX [b] w w' ∧ w'.heap[b]? = some (.cells (putAt cs (off + i) vs).toArray T' (0, 0)) := by
  induction vs with
  | nil => intro cs w off i hb _ _; exact ⟨w, by simp [storeCells], .refl _ _, hb⟩
  | cons v vs ih =>
    intro cs w off i hb hlen hone
    have hlt : off + i < cs.length := by simp at hlen; omega
    have hc : w.cell? ⟨b, off + i, none⟩ = some cs[off + i] := by rw [cellB hb, List.getElem?_eq_getElem hlt]
    have hf : w.frozen? ⟨b, off + i, none⟩ = false := frozen_of_row w b (off + i) _ T' hb
    have hs := run_store P w ⟨b, off + i, none⟩ v .plain (hone v (List.mem_cons_self ..))
    rw [hc] at hs
    simp only [hf, Bool.false_eq_true, if_false] at hs
    have hb' : (w.setCell ⟨b, off + i, none⟩ v).heap[b]? = some (.cells (cs.set (off + i) v).toArray T' (0, 0)) := by
      rw [heap_setCell_same w b (off + i) _ T' v hb]; simp
    obtain ⟨w', h1, h2, h3⟩ := ih (cs.set (off + i) v) _ off (i + 1) hb' (by simp at hlen ⊢; omega) (fun u hu => hone u (List.mem_cons_of_mem _ hu))
    refine ⟨w', ?_, (FrX.setCell _ _ _ (by simp)).trans h2, h3⟩
    simp only [storeCells, Sem.run_bind, add_addr, hs, Result.andThen_ok]; exact h1
theorem Own.storeN {b off : Nat} {cs vs : List Value} {T' : TypeId} {w' : World} (hO : Own tb w0 M L R w) (hl : Look L b cs T') (ht : Turn L b (putAt cs off vs) L')
    (hf : FrX [b] w w') (hb : w'.heap[b]? = some (.cells (putAt cs off vs).toArray T' (0, 0))) : Own tb w0 M L' R w' := by
  refine hO.turn ht hf ?_
  intro c T'' hm
  have h1 := hO.cells _ hl.mem
  have h2 := hO.cells _ hm
  simp only at h1 h2
  rw [h1] at h2
  simp only [Option.some.injEq, Obj.cells.injEq] at h2
  rw [← h2.2.1]; exact hb
/-- A store of several cells. -/
theorem WPL.stLA {D : TypeDesc} {zs cs : List Value} {by' b off : Nat} {vs : List Value} {T' : TypeId} [T : Ty P t D zs by'] (hx : ev σ x = .pointer (some ⟨b, off, none⟩)) (hy : ev σ y = .agg vs.toArray) (hO : Own tb w0 M L R w) (hl : Look L b cs T') (ht : Turn L b (putAt cs off vs) L')
    (hv : ∀ v ∈ vs, v.oneCell' = true) (hn : vs.length = zs.length) (hlt0 : Nat.ble (off + vs.length) cs.length = true) (h : ∀ w, Own tb w0 M L' R w → WPL P n ops rest k σ ds w) : WPL P n ops (⟨none, .store t x y, ty, pos, af, none⟩ :: rest) k σ ds w := by
  have hlt : off + vs.length ≤ cs.length := by simpa using hlt0
  obtain ⟨w', h1, h2, h3⟩ := run_storeCells (P := P) b T' vs cs w off 0 (hO.cells _ hl.mem) (by simpa using hlt) hv
  refine WPL.unit ?_ (h w' (hO.storeN hl ht h2 h3))
  obtain ⟨i, z, h4, h5, h6, h7, h8⟩ := T.info
  simp [execOp, hx, hy, Instr.storeAt, Instr.sureAddr, storeVar, Value.cells, sizeOf, typeInfo, h4, h7, hn, h1]
end Go.Sw
