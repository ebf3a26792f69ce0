/- A part of the proof that BinsAlike answers true: steps of the walk, or plain laws that it needs. No conditions of its own. -/
import Derived.Test.YtdaphmoojpbddaaDoorSG
set_option linter.all false
/-! Append, copy, conversions, calls, numbers with a point. -/
namespace Go.Sw
set_option autoImplicit false
open Go.RowKit
variable {P : Program} {n : Nat} {σ : Env} {ds : List Deferred} {ops : Array Oper} {rest : List Oper} {k : Env → List Deferred → World → Prop} {w w0 : World}
  {d : Nat} {ty : TypeId} {pos : String} {af : Array Edge} {tb : List Blk} {M : List Nat} {L L' : List Blk} {R : List Row} {x y : Operand} {t : TypeId}

/-- What is appended or copied: a slice of m elements that reads as these cells. -/
def SrcRow (w : World) (v : Value) (m sz : Nat) (news : List Value) : Prop :=
  ∃ a c, v = .slice a m c ∧ news.length = m * sz ∧ RowOk w [] ⟨a, news⟩ ∧ ∀ u ∈ news, u.oneCell' = true
theorem SrcRow.src {v : Value} {m sz : Nat} {news : List Value} {E : TypeId} {z : List Value} {by' : Nat} [T : Ty P t (.slice E) z by'] (hsz : 0 < sz) (h : SrcRow w v m sz news) : Src P sz t v m news w := by
  obtain ⟨a, c, rfl, hl, hr, h1⟩ := h
  by_cases e : news = []
  · subst e
    obtain rfl : m = 0 := by
      rcases Nat.eq_zero_or_pos m with e | e
      · exact e
      · have := Nat.mul_pos e hsz; simp at hl; omega
    cases a with
    | none => exact Src.ofNil w T.und c
    | some p => exact Src.ofSlice w T.und p 0 c [] (by simp) (by simp) (by simp)
  · have hs := row_some hr e
    simp only at hs
    rw [hs]
    refine Src.ofSlice w T.und _ m c news hl (fun j u hj => ?_) h1
    rw [add_addr]; exact hr.2.2 j u hj
theorem Grown.some' {a : Option Addr} {c sz : Nat} {vals : List Value} {E : TypeId} {G : List Blk} (h : Grown a c sz vals E G) : (∀ e ∈ G, e.ty = E) := by
  rcases h with ⟨_, _, _, rfl⟩ | ⟨b, sp, _, rfl, _⟩ <;> simp
theorem keys_fresh (h : Own tb w0 M L R w) : w.heap.size ∉ keys L := fun hm => Nat.lt_irrefl _ (h.lt' hm)
/-- Append to a slice of the call's own (or nil): it may grow. -/
theorem WPL.app {E : TypeId} {z ze : List Value} {by' be : Nat} {DE : TypeDesc} [T : Ty P t (.slice E) z by'] [TE : Ty P E DE ze be] {a : Option Addr} {l c m : Nat} {vals news : List Value} {G : List Blk}
    (hx : ev σ x = .slice a l c) (hO : Own tb w0 M (G ++ L) R w) (hG : Grown a c ze.length vals E G) (hl : vals.length = l * ze.length) (hlc : l ≤ c) (hs : SrcRow w (ev σ y) m ze.length news) (hsz : 0 < ze.length)
    (hfit : (l + m) * be ≤ 140737488355328) (h63 : l + m ≤ 9223372036854775807) (hd : Nat.blt d n = true)
    (h : ∀ a' c' G' w, Grown a' c' ze.length (vals ++ news) E G' → l + m ≤ c' → Own tb w0 M (G' ++ L) R w → WPL P n ops rest k (upd σ d (.slice a' (l + m) c')) ds w) :
    WPL P n ops (⟨some d, .call ⟨.builtin .append, #[x, y], #[t, t]⟩, ty, pos, af, none⟩ :: rest) k σ ds w := by
  obtain ⟨i, z', h1, h2, h3, h4, h5⟩ := TE.info
  have hsrc := hs.src (P := P) (t := t) hsz
  have hn := hsrc.newsLen
  rw [← h4] at hsrc
  have key : ∀ {v : Value} {w' : World}, (Builtin.append_ #[t, t] ty #[.slice a l c, ev σ y]).run P w = .ok v w' → (execOp (ev σ) ⟨some d, .call ⟨.builtin .append, #[x, y], #[t, t]⟩, ty, pos, af, none⟩).run P w = .ok (.value v) w' := by
    intro v w' hr
    simp [execOp, resolve, invoke, builtin, hx, hr]
  rcases Nat.lt_or_ge c (l + m) with hg | hg
  · -- a new block
    have hold : (Builtin.firstCells i.size l (.slice a l c)).run P w.drew = .ok vals.toArray w.drew := by
      rcases hG with ⟨rfl, rfl, rfl, rfl⟩ | ⟨b, sp, rfl, rfl, hlen⟩
      · exact run_firstCells_none _ _ _ _ _
      · refine run_firstCells_some _ _ _ _ _ _ _ (by rw [h4]; exact hl) (fun j v hv => ?_)
        rw [add_addr, World.cell?_drew, Nat.zero_add, hO.cellL (cs := vals ++ sp) (T := E) Look.here, List.getElem?_append_left (List.getElem?_eq_some_iff.1 hv).1]
        exact hv
    have hr := run_append_grow_src w t t ty E i z' T.und h1 h2 a l c vals hold (ev σ y) m news hsrc hg (by omega) (by rw [h5]; exact growslice_fits hg hfit)
    refine WPL.val hd (key hr) ?_
    have hcap : l + m ≤ grownCap w (l + m) c E := Nat.le_add_right _ _
    have hzc : (Builtin.zeroCells z'.cells (grownCap w (l + m) c E - (l + m))).size = (grownCap w (l + m) c E - (l + m)) * ze.length := by
      simp [Builtin.zeroCells, h3]
    generalize hzz : Builtin.zeroCells z'.cells (grownCap w (l + m) c E - (l + m)) = zz at hzc
    generalize hcc : grownCap w (l + m) c E = c' at hcap hzc
    have e : (vals ++ news).toArray ++ zz = ((vals ++ news) ++ zz.toList).toArray := by apply Array.ext'; simp
    rw [e]
    refine h (some ⟨w.heap.size, 0, none⟩) c' [⟨w.heap.size, (vals ++ news) ++ zz.toList, E⟩] _ (.inr ⟨_, zz.toList, rfl, rfl, ?_⟩) hcap ?_
    · rw [List.length_append, List.length_append, hl, hn, show zz.toList.length = zz.size from rfl, hzc, ← Nat.add_mul, ← Nat.add_mul]
      exact Nat.mul_le_mul_right _ (by omega)
    · exact (hO.drop.drew).alloc _ _
  · -- there is room
    rcases hG with ⟨rfl, rfl, rfl, rfl⟩ | ⟨b, sp, rfl, rfl, hlen⟩
    · obtain rfl : m = 0 := by omega
      obtain rfl : l = 0 := by omega
      have hne : news = [] := List.eq_nil_of_length_eq_zero (by rw [hn]; simp)
      subst hne
      refine WPL.val hd (key (v := .slice none 0 0) (w' := w) ?_) (h none 0 [] w (.inl ⟨rfl, rfl, rfl, rfl⟩) (by omega) hO)
      rcases hsrc.kind with ⟨e', hk⟩ | hk <;> simp [Builtin.append_, underlying, T.und, hk, sizeOf, typeInfo, h1, hsrc.len, hsrc.cells]
    · have hL : Look ([⟨b, vals ++ sp, E⟩] ++ L) b (vals ++ sp) E := Look.here
      have hlen' : vals.length + news.length ≤ (vals ++ sp).length := by
        rw [hl, hn, ← Nat.add_mul]; exact Nat.le_trans (Nat.mul_le_mul_right _ hg) hlen
      have hr := run_append_room_src w t t ty E i T.und h1 b 0 l c (ev σ y) m news hsrc hg (fun j hj => by
        have : 0 + l * i.size + j < (vals ++ sp).length := by rw [h4, ← hl]; omega
        rw [hO.cellL hL, List.getElem?_eq_getElem this]; rfl) (fun j hj => hO.frozenL hL)
      obtain ⟨w', s1, s2, s3⟩ := run_storeCells (P := P) b E news (vals ++ sp) w (0 + l * i.size) 0 (hO.cells _ hL.mem) (by rw [h4, ← hl]; omega) hsrc.one
      have s4 := run_storeCells_cells (P := P) b (0 + l * i.size) news 0 w (fun j hj => by
        have : 0 + l * i.size + 0 + j < (vals ++ sp).length := by rw [h4, ← hl]; omega
        rw [hO.cellL hL, List.getElem?_eq_getElem this]; rfl) (fun j hj => hO.frozenL hL) hsrc.one
      have hw : w.setCells b (0 + l * i.size) news = w' := by
        rw [s1] at s4
        have := s4
        simp only [Result.ok.injEq, true_and, Nat.add_zero] at this
        exact this.symm
      rw [hw] at hr
      refine WPL.val hd (key hr) ?_
      have hput : putAt (vals ++ sp) (0 + l * i.size + 0) news = (vals ++ news) ++ sp.drop news.length := by
        rw [h4, ← hl, putAt_eq _ _ _ (by omega)]
        simp
      rw [hput] at s3
      refine h (some ⟨b, 0, none⟩) c [⟨b, (vals ++ news) ++ sp.drop news.length, E⟩] w' (.inr ⟨b, _, rfl, rfl, ?_⟩) hg ?_
      · simp only [List.length_append, List.length_drop] at hlen hlen' ⊢; omega
      · exact hO.turn (b := b) Turn.here s2 (fun c0 T0 hm => by
          have e1 := hO.cells _ hm
          have e2 := hO.cells _ hL.mem
          simp only at e1 e2
          rw [e1] at e2
          simp only [Option.some.injEq, Obj.cells.injEq] at e2
          rw [e2.2.1]; exact s3)

/-- Copy into a block of the call's own. -/
theorem WPL.cpy {E E' : TypeId} {z z2 ze : List Value} {by' by2 be : Nat} {DE : TypeDesc} {t2 : TypeId} [T : Ty P t (.slice E) z by'] [T2 : Ty P t2 (.slice E') z2 by2] [TE : Ty P E DE ze be] {b dl dc m c q : Nat} {a : Option Addr} {cs vals : List Value} {T' : TypeId}
    (hx : ev σ x = .slice (some ⟨b, 0, none⟩) dl dc) (hy : ev σ y = .slice a m c) (hr : RowOk w [] ⟨a, vals⟩) (hv : vals.length = m * ze.length) (h1 : ∀ u ∈ vals, u.oneCell' = true) (hO : Own tb w0 M L R w) (hl : Look L b cs T') (hq : min m dl = q)
    (ht : Turn L b (vals.take (q * ze.length) ++ cs.drop (q * ze.length)) L') (hsz : 0 < ze.length) (hlen : dl * ze.length ≤ cs.length)
    (hd : Nat.blt d n = true) (h : ∀ w, Own tb w0 M L' R w → WPL P n ops rest k (upd σ d (.int .i64 (q : Int))) ds w) :
    WPL P n ops (⟨some d, .call ⟨.builtin .copy, #[x, y], #[t, t2]⟩, ty, pos, af, none⟩ :: rest) k σ ds w := by
  obtain ⟨i, z', i1, i2, i3, i4, i5⟩ := TE.info
  have hqm : q ≤ m := by omega
  have hqd : q ≤ dl := by omega
  have hn : (vals.take (q * ze.length)).length = q * ze.length := by
    rw [List.length_take, hv]; exact Nat.min_eq_left (Nat.mul_le_mul_right _ hqm)
  have hone : ∀ u ∈ vals.take (q * ze.length), u.oneCell' = true := fun u hu => h1 u (List.mem_of_mem_take hu)
  have hle : q * ze.length ≤ cs.length := Nat.le_trans (Nat.mul_le_mul_right _ hqd) hlen
  have hcells : (Builtin.firstCells i.size q (.slice a m c)).run P w = .ok (vals.take (q * ze.length)).toArray w := by
    by_cases e : vals.take (q * ze.length) = []
    · have h0 : q * ze.length = 0 := by rw [← hn, e]; rfl
      have hq0 : q = 0 := by
        rcases Nat.eq_zero_or_pos q with e | e
        · exact e
        · have := Nat.mul_pos e hsz; omega
      rw [e, hq0]
      cases a with
      | none => exact run_firstCells_none _ _ _ _ _
      | some p => exact run_firstCells_some _ _ _ _ _ _ _ (by simp) (by simp)
    · have hne : vals ≠ [] := fun e' => e (by rw [e']; simp)
      have hs := row_some hr hne
      simp only at hs
      rw [hs]
      refine run_firstCells_some _ _ _ _ _ _ _ (by rw [hn, i4]) (fun j u hj => ?_)
      rw [add_addr]
      refine hr.2.2 j u ?_
      rw [List.getElem?_take] at hj
      split at hj
      · exact hj
      · cases hj
  obtain ⟨w', s1, s2, s3⟩ := run_storeCells (P := P) b T' (vals.take (q * ze.length)) cs w 0 0 (hO.cells _ hl.mem) (by rw [hn]; omega) hone
  have hput : putAt cs (0 + 0) (vals.take (q * ze.length)) = vals.take (q * ze.length) ++ cs.drop (q * ze.length) := by rw [putAt_eq _ _ _ (by rw [hn]; omega), hn]; simp
  rw [hput] at s3
  refine WPL.val hd ?_ (h w' (hO.turn ht s2 (fun c0 T0 hm => by
    have e1 := hO.cells _ hm
    have e2 := hO.cells _ hl.mem
    simp only at e1 e2
    rw [e1] at e2
    simp only [Option.some.injEq, Obj.cells.injEq] at e2
    rw [e2.2.1]; exact s3)))
  have hmin : Nat.min m dl = q := hq
  simp [execOp, resolve, invoke, builtin, hx, hy, Builtin.copy_, underlying, T.und, Builtin.lenOf, hmin, sizeOf, typeInfo, i1, hcells, s1, goInt]
/-! Calls. -/
theorem run_callFunc {f : FuncId} {fn : Func} {args : Array Value} (hf : P.funcs[f]? = some fn) (hb : fn.body.isNone = false) (hnm : (fn.name == "runtime.NumGoroutine") = false) : (callFunc f args).run P w = .ok (.enter f args) w := by
  simp only [callFunc, Sem.run_bind, run_program, Result.andThen_ok, hf, hnm, hb, Bool.false_eq_true, if_false, Sem.run_pure]
theorem WPL.enter {op : Op} {dst : Option Nat} {f : FuncId} {args : List Value} {R' : Value → World → Prop} (hr : (execOp (ev σ) ⟨dst, op, ty, pos, af, none⟩).run P w = .ok (.enter f args.toArray) w) (hs : Spec P f args w R')
    (hd : ∀ d, dst = some d → Nat.blt d n = true) (h : ∀ v w', R' v w' → WPL P n ops rest k (match dst with | some d => upd σ d v | none => σ) ds w') :
    WPL P n ops (⟨dst, op, ty, pos, af, none⟩ :: rest) k σ ds w := by
  intro a ha
  unfold wpList
  rw [if_pos (by simp [Region.wanted])]
  left
  unfold Oper.wp
  rw [ha.eval, hr]
  refine Calls.mono hs fun e w' he => ?_
  cases e with
  | returned v =>
    have := h v w' he
    cases dst with
    | none => exact this _ ha
    | some d => exact this _ (ha.put (hd d rfl))
  | _ => exact he.elim
/-- A call of a function by its name. -/
theorem WPL.call {f : FuncId} {fn : Func} {xs : List Operand} {args : List Value} {R' : Value → World → Prop} {at' : Array TypeId} (ha : xs.map (ev σ) = args) (hs : Spec P f args w R') (hf : P.funcs[f]? = some fn) (hb : fn.body.isNone = false) (hnm : (fn.name == "runtime.NumGoroutine") = false)
    (hd : Nat.blt d n = true) (h : ∀ v w', R' v w' → WPL P n ops rest k (upd σ d v) ds w') :
    WPL P n ops (⟨some d, .call ⟨.value (.func f), xs.toArray, at'⟩, ty, pos, af, none⟩ :: rest) k σ ds w :=
  WPL.enter (by simp [execOp, resolve, ev, Deferred.ofValue, invoke, ha, run_callFunc hf hb hnm]) hs (fun _ e => by cases e; exact hd) h
theorem WPL.call0 {f : FuncId} {fn : Func} {xs : List Operand} {args : List Value} {R' : Value → World → Prop} {at' : Array TypeId} (ha : xs.map (ev σ) = args) (hs : Spec P f args w R') (hf : P.funcs[f]? = some fn) (hb : fn.body.isNone = false) (hnm : (fn.name == "runtime.NumGoroutine") = false)
    (h : ∀ v w', R' v w' → WPL P n ops rest k σ ds w') :
    WPL P n ops (⟨none, .call ⟨.value (.func f), xs.toArray, at'⟩, ty, pos, af, none⟩ :: rest) k σ ds w :=
  WPL.enter (by simp [execOp, resolve, ev, Deferred.ofValue, invoke, ha, run_callFunc hf hb hnm]) hs (fun _ e => by cases e) h
/-- A call of a function value. -/
theorem WPL.callv {f : FuncId} {fn : Func} {xs : List Operand} {args fs cs : List Value} {R' : Value → World → Prop} {at' : Array TypeId} (hx : ev σ x = .func (.func f) fs.toArray cs.toArray) (ha : xs.map (ev σ) = args) (hs : Spec P f (fs ++ args ++ cs) w R') (hf : P.funcs[f]? = some fn) (hb : fn.body.isNone = false) (hnm : (fn.name == "runtime.NumGoroutine") = false)
    (hd : Nat.blt d n = true) (h : ∀ v w', R' v w' → WPL P n ops rest k (upd σ d v) ds w') :
    WPL P n ops (⟨some d, .call ⟨.value x, xs.toArray, at'⟩, ty, pos, af, none⟩ :: rest) k σ ds w :=
  WPL.enter (by simp [execOp, resolve, hx, Deferred.ofValue, invoke, ha, run_callFunc hf hb hnm]) hs (fun _ e => by cases e; exact hd) h
theorem WPL.callv0 {f : FuncId} {fn : Func} {xs : List Operand} {args fs cs : List Value} {R' : Value → World → Prop} {at' : Array TypeId} (hx : ev σ x = .func (.func f) fs.toArray cs.toArray) (ha : xs.map (ev σ) = args) (hs : Spec P f (fs ++ args ++ cs) w R') (hf : P.funcs[f]? = some fn) (hb : fn.body.isNone = false) (hnm : (fn.name == "runtime.NumGoroutine") = false)
    (h : ∀ v w', R' v w' → WPL P n ops rest k σ ds w') :
    WPL P n ops (⟨none, .call ⟨.value x, xs.toArray, at'⟩, ty, pos, af, none⟩ :: rest) k σ ds w :=
  WPL.enter (by simp [execOp, resolve, hx, Deferred.ofValue, invoke, ha, run_callFunc hf hb hnm]) hs (fun _ e => by cases e) h
/-- A function of the library's without a body of its own. -/
structure Ext (P : Program) (f : FuncId) (e : Array Value → Sem Value) : Prop where
  is : ∃ fn, P.funcs[f]? = some fn ∧ fn.body.isNone = true ∧ (fn.name == "runtime.NumGoroutine") = false ∧ Extern.findNext fn = none ∧ Extern.find fn = some e
theorem WPL.ext' {f : FuncId} {e : Array Value → Sem Value} {xs : List Operand} {args : List Value} {v : Value} {at' : Array TypeId} (hE : Ext P f e) (ha : xs.map (ev σ) = args) (hr : (e args.toArray).run P w = .ok v w)
    (hd : Nat.blt d n = true) (h : WPL P n ops rest k (upd σ d v) ds w) :
    WPL P n ops (⟨some d, .call ⟨.value (.func f), xs.toArray, at'⟩, ty, pos, af, none⟩ :: rest) k σ ds w := by
  obtain ⟨fn, h1, h2, h3, h4, h5⟩ := hE.is
  refine WPL.val hd ?_ h
  have hc : (callFunc f args.toArray).run P w = .ok (.value v) w := by
    simp only [callFunc, Sem.run_bind, run_program, Result.andThen_ok, h1, h2, h3, Bool.false_eq_true, if_false, if_true, run_mark, h4, h5, hr, Sem.run_pure]
  simp [execOp, resolve, ev, Deferred.ofValue, invoke, ha, hc]
theorem WPL.f64bits {f b : Nat} {at' : Array TypeId} (hE : Ext P f Extern.MathFloatBits.float64bits) (hx : ev σ x = .float .f64 b) (hd : Nat.blt d n = true) (h : WPL P n ops rest k (upd σ d (.int .u64 (b : Int))) ds w) :
    WPL P n ops (⟨some d, .call ⟨.value (.func f), #[x], at'⟩, ty, pos, af, none⟩ :: rest) k σ ds w :=
  WPL.ext' (xs := [x]) hE (by simp only [List.map_cons, List.map_nil, hx]; rfl) (by rfl) hd h
theorem WPL.f64from {f b : Nat} {at' : Array TypeId} (hE : Ext P f Extern.MathFloatBits.float64frombits) (hx : ev σ x = .int .u64 (b : Int)) (hd : Nat.blt d n = true) (h : WPL P n ops rest k (upd σ d (.float .f64 b)) ds w) :
    WPL P n ops (⟨some d, .call ⟨.value (.func f), #[x], at'⟩, ty, pos, af, none⟩ :: rest) k σ ds w :=
  WPL.ext' (xs := [x]) hE (by simp only [List.map_cons, List.map_nil, hx]; rfl) (by rfl) hd h
theorem WPL.f32bits {f b : Nat} {at' : Array TypeId} (hE : Ext P f Extern.MathFloatBits.float32bits) (hx : ev σ x = .float .f32 b) (hd : Nat.blt d n = true) (h : WPL P n ops rest k (upd σ d (.int .u32 (b : Int))) ds w) :
    WPL P n ops (⟨some d, .call ⟨.value (.func f), #[x], at'⟩, ty, pos, af, none⟩ :: rest) k σ ds w :=
  WPL.ext' (xs := [x]) hE (by simp only [List.map_cons, List.map_nil, hx]; rfl) (by rfl) hd h
theorem WPL.f32from {f b : Nat} {at' : Array TypeId} (hE : Ext P f Extern.MathFloatBits.float32frombits) (hx : ev σ x = .int .u32 (b : Int)) (hd : Nat.blt d n = true) (h : WPL P n ops rest k (upd σ d (.float .f32 b)) ds w) :
    WPL P n ops (⟨some d, .call ⟨.value (.func f), #[x], at'⟩, ty, pos, af, none⟩ :: rest) k σ ds w :=
  WPL.ext' (xs := [x]) hE (by simp only [List.map_cons, List.map_nil, hx]; rfl) (by rfl) hd h
end Go.Sw
