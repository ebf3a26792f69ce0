/- A part of the proof that BinsAlike answers true: steps of the walk, or plain laws that it needs. No conditions of its own. -/
import Derived.Test.YtdaphmoojpbddaaDoorSE
import Derived.Laws.MakeOwn
set_option linter.all false
/-! Rules that make memory; slices; calls; numbers with a point. -/
namespace Go.Sw
set_option autoImplicit false
open Go.RowKit
variable {P : Program} {n : Nat} {σ : Env} {ds : List Deferred} {ops : Array Oper} {rest : List Oper} {k : Env → List Deferred → World → Prop} {w w0 : World}
  {d : Nat} {ty : TypeId} {pos : String} {af : Array Edge} {tb : List Blk} {M : List Nat} {L L' : List Blk} {R : List Row} {x y : Operand} {t : TypeId}

theorem WPL.al {D : TypeDesc} {zs : List Value} {by' : Nat} [T : Ty P t D zs by'] (hO : Own tb w0 M L R w) (hd : Nat.blt d n = true)
    (h : ∀ b w, Own tb w0 M (⟨b, zs, t⟩ :: L) R w → WPL P n ops rest k (upd σ d (.pointer (some ⟨b, 0, none⟩))) ds w) : WPL P n ops (⟨some d, .alloc t, ty, pos, af, none⟩ :: rest) k σ ds w := by
  obtain ⟨i, z, h1, h2, h3, h4, h5⟩ := T.info
  refine WPL.val hd ?_ (h _ _ (hO.alloc zs t))
  simp [execOp, Instr.alloc, zeroValue, typeInfo, h1, h2, newVar, newRow, h3]
theorem WPL.bx {vs : List Value} {v : Value} (hx : ev σ x = v) (hc : v.cells = vs.toArray) (hO : Own tb w0 M L R w) (hd : Nat.blt d n = true)
    (h : ∀ b w, Own tb w0 M (⟨b, vs, t⟩ :: L) R w → WPL P n ops rest k (upd σ d (.pointer (some ⟨b, 0, none⟩))) ds w) : WPL P n ops (⟨some d, .box t x, ty, pos, af, none⟩ :: rest) k σ ds w := by
  refine WPL.val hd ?_ (h _ _ (hO.alloc vs t))
  simp [execOp, hx, Instr.box, newVar, newRow, hc]
/-- A struct put together: the cells are told; that they are is a closed fact. -/
theorem WPL.bd {parts : List (Nat × Operand)} {pv : List (Nat × Value)} {vs : List Value} (hp : parts.map (fun p => (p.1, ev σ p.2)) = pv) (hb : (Instr.build t pv.toArray).run P w = .ok (.agg vs.toArray) w) (hd : Nat.blt d n = true)
    (h : WPL P n ops rest k (upd σ d (.agg vs.toArray)) ds w) : WPL P n ops (⟨some d, .build t parts.toArray, ty, pos, af, none⟩ :: rest) k σ ds w := by
  refine WPL.val hd ?_ h
  have : (parts.toArray.map fun (i, x) => (i, ev σ x)) = pv.toArray := by rw [← hp]; simp
  simp [execOp, this, hb]
theorem run_build {fs : List Field} {zs : List Value} {by' : Nat} [T : Ty P t (.struct fs.toArray) zs by'] {pv : List (Nat × Value)} {pl : List (Nat × Nat)} {vs : List Value}
    (hpl : (fs.map fun f => (f.offset, ((P.info? f.type).map (·.size)).getD 0)) = pl) (hsz : (fs.all fun f => (P.info? f.type).isSome) = true)
    (hf : Instr.fill (pl.toArray[·]?) zs.toArray pv = some vs.toArray) : (Instr.build t pv.toArray).run P w = .ok (.agg vs.toArray) w := by
  obtain ⟨i, z, h1, h2, h3, h4, h5⟩ := T.info
  have hm : ∀ (l : List Field), (l.all fun f => (P.info? f.type).isSome) = true →
      (l.mapM (m := Sem) fun f => do pure (f.offset, ← sizeOf f.type)).run P w = .ok (l.map fun f => (f.offset, ((P.info? f.type).map (·.size)).getD 0)) w := by
    intro l
    induction l with
    | nil => intro _; simp
    | cons f l ih =>
      intro hl
      simp only [List.all_cons, Bool.and_eq_true] at hl
      obtain ⟨j, hj⟩ := Option.isSome_iff_exists.1 hl.1
      have h1 := ih hl.2
      simp only [List.mapM_cons, Sem.run_bind, sizeOf, typeInfo, hj, run_program, Result.andThen_ok, Sem.run_pure, bind_assoc, pure_bind] at h1 ⊢
      rw [h1]
      simp [hj]
  have hm' := hm fs hsz
  simp only [Instr.build, Sem.run_bind, zeroValue, typeInfo, h1, h2, run_program, Result.andThen_ok, Sem.run_pure, underlying, T.und, List.mapM_toArray, Sem.run_map, hm', h3, hpl, hf]
theorem WPL.bsl {E : TypeId} {z ze : List Value} {by' be m : Nat} {DE : TypeDesc} {parts : List (Nat × Operand)} {pv : List (Nat × Value)} {vs : List Value} [T : Ty P t (.slice E) z by'] [TE : Ty P E DE ze be]
    (hp : parts.map (fun p => (p.1, ev σ p.2)) = pv) (hO : Own tb w0 M L R w) (hm : m * ze.length ≤ 16777216) (hf : Instr.fill (fun i => some (i * ze.length, ze.length)) ((Array.range (m * ze.length)).map (ze.toArray[· % ze.toArray.size]!)) pv = some vs.toArray) (hd : Nat.blt d n = true)
    (h : ∀ b w, Own tb w0 M (⟨b, vs, E⟩ :: L) R w → WPL P n ops rest k (upd σ d (.slice (some ⟨b, 0, none⟩) m m)) ds w) : WPL P n ops (⟨some d, .buildSlice t m parts.toArray, ty, pos, af, none⟩ :: rest) k σ ds w := by
  obtain ⟨i, z', h1, h2, h3, h4, h5⟩ := TE.info
  refine WPL.val hd ?_ (h _ _ (hO.alloc vs E))
  have hq : (parts.toArray.map fun (i, x) => (i, ev σ x)) = pv.toArray := by rw [← hp]; simp
  have hn : ¬ (m * ze.length > 2 ^ 24) := by omega
  by_cases h0 : m * ze.length = 0
  · have e : ∀ (zz : Array Value), ((Array.range (m * ze.length)).map (fun j => zz[j % zz.size]!)) = #[] := by intro zz; simp [h0]
    have hf' := hf
    rw [e] at hf'
    simp [execOp, hq, Instr.buildSlice, underlying, T.und, sizeOf, typeInfo, h1, h4, h0, newRow]
    have e0 : Array.map (fun _ => (default : Value)) (Array.range 0) = #[] := by simp
    rw [e0, hf']
    simp
  · simp only [execOp, hq, Instr.buildSlice, underlying, T.und, sizeOf, typeInfo, h1, h2, h3, h4, zeroValue, Sem.run_bind, run_program, Result.andThen_ok, Sem.run_pure, hn, if_false, h0, hf, newRow, run_newObj]
    rfl

theorem flat_get (ze : List Value) (c : Nat) : ∀ j, j < c * ze.length → (List.replicate c ze).flatten[j]? = ze[j % ze.length]? := by
  induction c with
  | zero => intro j hj; omega
  | succ c ih =>
    intro j hj
    rw [List.replicate_succ, List.flatten_cons]
    rcases Nat.lt_or_ge j ze.length with h | h
    · rw [List.getElem?_append_left h, Nat.mod_eq_of_lt h]
    · rw [List.getElem?_append_right h, ih _ (by rw [Nat.succ_mul] at hj; omega), ← Nat.mod_eq_sub_mod h]
theorem made_cells {z : Value} {ze : List Value} (hz : z.cells = ze.toArray) (c : Nat) : madeCells z.cells (c * ze.length) = (List.replicate c ze).flatten.toArray := by
  rw [hz]
  apply Array.ext'
  apply List.ext_getElem?
  intro j
  simp only [madeCells, Array.toList_map, Array.toList_range, List.getElem?_map, List.getElem?_range]
  rcases Nat.lt_or_ge j (c * ze.length) with h | h
  · rw [List.getElem?_range h, flat_get ze c j h]
    have hp : 0 < ze.length := by rcases Nat.eq_zero_or_pos ze.length with e | e; · rw [e] at h; omega
                                  · exact e
    have hm : j % ze.length < ze.length := Nat.mod_lt _ hp
    simp [hm]
  · rw [List.getElem?_eq_none (by simpa using h), List.getElem?_eq_none (by simp; exact h)]
    rfl
/-- A slice that is made: so many zeros. -/
theorem WPL.mks {E : TypeId} {z ze : List Value} {by' be l c : Nat} {kl kc : IntKind} {li ci : Int} {DE : TypeDesc} [T : Ty P t (.slice E) z by'] [TE : Ty P E DE ze be]
    (hx : ev σ x = .int kl li) (hy : ev σ y = .int kc ci) (hl : li = (l : Int)) (hc : ci = (c : Int)) (hO : Own tb w0 M L R w) (hlc : l ≤ c) (hb : c * be ≤ 281474976710656) (hc63 : c ≤ 9223372036854775807) (hd : Nat.blt d n = true)
    (h : ∀ b w, Own tb w0 M (⟨b, (List.replicate c ze).flatten, E⟩ :: L) R w → WPL P n ops rest k (upd σ d (.slice (some ⟨b, 0, none⟩) l c)) ds w) : WPL P n ops (⟨some d, .makeSlice t x y, ty, pos, af, none⟩ :: rest) k σ ds w := by
  subst hl hc
  obtain ⟨i, z', h1, h2, h3, h4, h5⟩ := TE.info
  refine WPL.val hd ?_ (h _ _ (hO.alloc _ E))
  have hbb : ((i.bytes : Int) * (c : Int)) ≤ 281474976710656 := by
    have : (i.bytes : Int) * (c : Int) = ((c * be : Nat) : Int) := by rw [h5, Nat.mul_comm]; simp
    rw [this]; omega
  have hr := run_make w t E i z' T.und h1 h2 kl kc l c (by omega) (by omega) hbb (by omega)
  simp only [Int.toNat_natCast, h4, made_cells h3] at hr
  simp [execOp, hx, hy, hr]
end Go.Sw
