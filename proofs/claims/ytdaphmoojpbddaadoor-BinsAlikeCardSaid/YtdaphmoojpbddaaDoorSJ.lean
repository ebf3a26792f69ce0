/- A part of the proof that BinsAlike answers true: steps of the walk, or plain laws that it needs. No conditions of its own. -/
import Derived.Test.YtdaphmoojpbddaaDoorSB2
import Derived.Orders
set_option linter.all false
/-! Regions that draw their order: values are taken as soon as they may be, what has an effect when it must. -/
namespace Go.Sw
set_option autoImplicit false
section
variable {P : Program} {ops : Array Oper} {Q : Exit → Act → World → Prop} {S : World → Prop} {KK : List Nat}
def YS (P : Program) (ops : Array Oper) (S : World → Prop) (o : Oper) (v : Value) (a : Act) : Prop :=
  (Region.wanted o (yielded ops a.tmps) = true ∧ ∀ w, S w → (execOp a.eval o).run P w = .ok (.value v) w) ∨
  (Region.wanted o (yielded ops a.tmps) = false ∧ v = undef)
theorem YS.wpOp {i : Nat} {o : Oper} {v : Value} {a : Act} (hi : ops[i]? = some o) (hy : YS P ops S o v a)
    {K : Act → World → Prop} {w : World} (hS : S w) (h : K (a.put o.dst v) w) : Go.wpOp P ops Q i K a w := by
  unfold Go.wpOp
  simp only [hi]
  rcases hy with ⟨hw, hv⟩ | ⟨hw, rfl⟩
  · simp only [hw, if_true, Oper.wp, hv w hS, Oper.upon]; exact .inl h
  · simp only [hw, Bool.false_eq_true, if_false]; exact h
theorem YS.of_same {o : Oper} {v : Value} {a a' : Act} (hy : YS P ops S o v a) (he : execOp a'.eval o = execOp a.eval o)
    (hw : Region.wanted o (yielded ops a'.tmps) = Region.wanted o (yielded ops a.tmps)) : YS P ops S o v a' := by
  unfold YS at *
  rw [he, hw]
  exact hy
theorem wpOp_putS {j : Nat} {oi oj : Oper} {v : Value} (hj : ops[j]? = some oj) (hap : oi.apart ops oj = true)
    (hsi : ∀ cs b, oi.op ≠ .select cs b) (hsj : ∀ cs b, oj.op ≠ .select cs b)
    (hQ : ∀ c a w, ¬ Q (.panic c) a w) {K : Act → World → Prop} {a : Act} {w : World}
    (hy : YS P ops S oi v a) (h : wpOp P ops Q j K (a.put oi.dst v) w) :
    wpOp P ops Q j (fun a' w' => YS P ops S oi v a' ∧ K (a'.put oi.dst v) w') a w := by
  obtain ⟨h1, h2, h3⟩ := Oper.apart_spec hap
  have keep : ∀ (a : Act), YS P ops S oi v a → ∀ u, YS P ops S oi v (a.put oj.dst u) := fun a hy u =>
    hy.of_same (execOp_put oi hsi a oj.dst u h3) (wanted_put oi a oj.dst u h3)
  have keepD : ∀ d, YS P ops S oi v { a with defers := d :: a.defers } := fun d => hy.of_same rfl rfl
  unfold wpOp at *
  simp only [hj] at *
  rw [wanted_put oj a oi.dst v h1] at h
  split
  · rename_i hw
    simp only [hw, if_true] at h
    rcases h with h | ⟨hasks, hlets⟩
    case inr => exact .inr ⟨by unfold Oper.asks at *; rw [execOp_put oj hsj a oi.dst v h1] at hasks; exact hasks, hlets⟩
    refine .inl ?_
    unfold Oper.wp at *
    rw [execOp_put oj hsj a oi.dst v h1] at h
    generalize (execOp a.eval oj).run P w = r at *
    cases r with
    | ok n w' =>
      cases n <;> simp only [Oper.upon] at h ⊢
      case value u => exact ⟨keep a hy u, by rw [← Act.put_comm a v u h2]; exact h⟩
      case skip => exact ⟨keep a hy _, by rw [← Act.put_comm a v undef h2]; exact h⟩
      case defer d =>
        refine ⟨keep _ (keepD d) _, ?_⟩
        rw [← Act.put_comm _ v undef h2, ← Act.put_defers]
        exact h
      case enter f args =>
        refine Calls.mono h fun e w'' he => ?_
        cases e with
        | returned u => exact ⟨keep a hy u, by rw [← Act.put_comm a v u h2]; exact he⟩
        | panicked c => exact absurd he (hQ _ _ _)
        | outgrown => exact he
      case row row args => exact Rows.mono h fun u w'' he => ⟨keep a hy u, by rw [← Act.put_comm a v u h2]; exact he⟩
    | halt x w' =>
      cases x <;> simp only [Oper.upon] at h ⊢
      case panic u => exact absurd h (hQ _ _ _)
  · rename_i hw
    simp only [hw, Bool.false_eq_true, if_false] at h
    exact ⟨keep a hy _, by rw [← Act.put_comm a v undef h2]; exact h⟩

def unl (KK : List Nat) (listed : Array Bool) : Prop := ∀ k ∈ KK, listed.getD k true = false
/-- What is to hold at every stage: S as long as none of KK has been done; then whatever may come next. -/
def wpG (P : Program) (ops : Array Oper) (Q : Exit → Act → World → Prop) (KK : List Nat) (S : World → Prop) : Nat → Array Bool → Act → World → Prop
  | 0, listed, a, w => (unl KK listed → S w) ∧ Region.ready .any ops listed = [] ∧ Q .normal a w
  | fuel + 1, listed, a, w => (unl KK listed → S w) ∧ (Region.ready .any ops listed = [] → Q .normal a w) ∧
    ∀ i ∈ Region.ready .any ops listed, wpOp P ops Q i (wpG P ops Q KK S fuel (listed.setIfInBounds i true)) a w
theorem wpG.inv {fuel : Nat} {listed : Array Bool} {a : Act} {w : World} (h : wpG P ops Q KK S fuel listed a w) : unl KK listed → S w := by
  cases fuel <;> exact h.1
theorem wpG.any : ∀ {fuel : Nat} {listed : Array Bool} {a : Act} {w : World}, wpG P ops Q KK S fuel listed a w → wpAny P .any ops Q fuel listed a w := by
  intro fuel
  induction fuel with
  | zero => intro listed a w h; exact h.2
  | succ fuel ih => intro listed a w h; exact ⟨h.2.1, fun i hi => wpOp_mono (fun _ _ hh => ih hh) (h.2.2 i hi)⟩

/-- C: what can be done without i. -/
def closedWithout (ops : Array Oper) (i : Nat) (C : Array Bool) : Prop := ∀ j, j ≠ i → j ∈ Region.ready .any ops C → False
theorem wpG_first {S' : World → Prop} {i : Nat} {oi : Oper} {v : Value} {C : Array Bool} (hi : ops[i]? = some oi) (hsel : ∀ (j : Nat) (o : Oper) cs b, ops[j]? = some o → o.op ≠ .select cs b)
    (hQ : ∀ c a w, ¬ Q (.panic c) a w) (hC : closedWithout ops i C) (hKi : ∀ k ∈ KK, k ≠ i)
    (hSw : ∀ {fuel : Nat} {listed : Array Bool} {a : Act} {w : World}, (∀ j, listed.getD j true = true → C.getD j true = true) → wpG P ops Q KK S fuel (listed.setIfInBounds i true) a w → S' w) :
    ∀ (fuel : Nat) (listed : Array Bool) (a : Act) (w : World), listed.size = C.size →
      (∀ j oj, ops[j]? = some oj → j ≠ i → listed.getD j true = false → (∀ e ∈ oj.after, Region.binds .any e = true → e.on ≠ i) → oi.apart ops oj = true) →
      i ∈ Region.ready .any ops listed → (∀ j, listed.getD j true = true → C.getD j true = true) → YS P ops S' oi v a →
      wpG P ops Q KK S fuel (listed.setIfInBounds i true) (a.put oi.dst v) w → wpG P ops Q KK S (fuel + 1) listed a w := by
  intro fuel
  have hinv : ∀ {fuel : Nat} {listed : Array Bool} {a : Act} {w : World}, wpG P ops Q KK S fuel (listed.setIfInBounds i true) a w → unl KK listed → S w := by
    intro fuel listed a w H hu
    exact H.inv fun k hk => by rw [getD_set_ne true (Ne.symm (hKi k hk))]; exact hu k hk
  induction fuel with
  | zero =>
    intro listed a w _ _ hr hl hy H
    have hS := hSw hl H
    refine ⟨hinv H, fun h => (by rw [h] at hr; cases hr), fun j hj => ?_⟩
    by_cases hji : j = i
    · subst hji; exact hy.wpOp hi hS H
    · have := ready_mono hj hji
      rw [H.2.1] at this
      cases this
  | succ fuel ih =>
    intro listed a w hsz hfree hr hl hy H
    have hS := hSw hl H
    refine ⟨hinv H, fun h => (by rw [h] at hr; cases hr), fun j hj => ?_⟩
    by_cases hji : j = i
    · subst hji; exact hy.wpOp hi hS H
    · have h1 := H.2.2 j (ready_mono hj hji)
      obtain ⟨hjun, oj, hoj, hall⟩ := mem_ready.1 hj
      have hnot : ∀ e ∈ oj.after, Region.binds .any e = true → e.on ≠ i := fun e he hb heq => by
        have h1 := hall e he hb
        have h0 := (mem_ready.1 hr).1
        rw [heq] at h1
        rcases Nat.lt_or_ge i listed.size with h' | h'
        · simp [h'] at h0 h1; rw [h0] at h1; cases h1
        · simp [Array.getElem?_eq_none h'] at h1
      have h2 := wpOp_putS hoj (hfree j oj hoj hji hjun hnot) (fun cs b => hsel i oi cs b hi) (fun cs b => hsel j oj cs b hoj) hQ hy h1
      have hfree' : ∀ k ok, ops[k]? = some ok → k ≠ i → (listed.setIfInBounds j true).getD k true = false →
          (∀ e ∈ ok.after, Region.binds .any e = true → e.on ≠ i) → oi.apart ops ok = true := fun k ok hk hki hun hno => by
        refine hfree k ok hk hki ?_ hno
        by_cases hjk : j = k
        · subst hjk; exact hjun
        · rw [getD_set_ne true hjk] at hun; exact hun
      have hl' : ∀ k, (listed.setIfInBounds j true).getD k true = true → C.getD k true = true := by
        intro k hk
        by_cases hjk : j = k
        · subst hjk
          cases hc : C.getD j true
          · exfalso
            refine hC j hji (mem_ready.2 ⟨hc, oj, hoj, fun e he hb => ?_⟩)
            have h3 := hall e he hb
            have h4 : listed.getD e.on true = true := by
              cases h5 : listed[e.on]? with
              | none => simp [Array.getD_eq_getD_getElem?, h5]
              | some x => simp only [Array.getD_eq_getD_getElem?, h5, Option.getD_some] at h3 ⊢; exact h3
            have h6 := hl _ h4
            cases h7 : C[e.on]? with
            | none =>
              have h8 : C.size ≤ e.on := by simpa using h7
              rw [← hsz] at h8
              simp [Array.getD_eq_getD_getElem?, Array.getElem?_eq_none h8] at h3
            | some x => simp only [Array.getD_eq_getD_getElem?, h7, Option.getD_some] at h6 ⊢; exact h6
          · rfl
        · rw [getD_set_ne true hjk] at hk; exact hl k hk
      refine wpOp_mono (fun a' w' h3 => ih (listed.setIfInBounds j true) a' w' (by simpa using hsz) hfree' (ready_mono hr (Ne.symm hji)) hl' h3.1 ?_) h2
      rw [Array.setIfInBounds_comm _ _ hji]
      exact h3.2
end

/-! The plan of a region: places and kinds (0: a value in whatever world; 1: a value under S; 2: an effect). -/
def closeWithout (ops : Array Oper) (i : Nat) : Nat → Array Bool → Array Bool
  | 0, C => C
  | n + 1, C => match (Region.ready .any ops C).find? (· != i) with
    | some j => closeWithout ops i n (C.setIfInBounds j true)
    | none => C
def subB (A C : Array Bool) : Bool := (List.range A.size).all fun j => !A.getD j true || C.getD j true
def loadOk (ops : Array Oper) (KK : List Nat) (listed : Array Bool) (i : Nat) : Bool :=
  let C := closeWithout ops i ops.size listed
  (Region.ready .any ops C).all (· == i) && subB listed C && C.size == listed.size && KK.all fun k => k != i && !C.getD k true
def plainOp : Op → Bool
  | .move _ | .assign _ | .pick .. | .load .. | .nilCheck _ | .binOp .. | .unOp .. | .convert .. | .slice .. | .fieldAddr .. | .field .. | .indexAddr .. | .index .. | .extract .. | .build .. | .makeFunc .. => true
  | .call ⟨.builtin .len, _, _⟩ | .call ⟨.builtin .min, _, _⟩ | .call ⟨.builtin .max, _, _⟩ | .call ⟨.builtin .cap, _, _⟩ => true
  | _ => false
def valOk (ops : Array Oper) (i : Nat) : Bool := match ops[i]? with | some o => plainOp o.op && o.dst.isSome | none => false
def stepOk (ops : Array Oper) (KK : List Nat) (listed : Array Bool) (p : Nat × Nat) : Bool :=
  match p.2 with
  | 0 => valOk ops p.1 && ((Region.ready .any ops listed).contains p.1 && (Region.free .any ops listed p.1 && (loadOk ops [] listed p.1 && KK.all (· != p.1))))
  | 1 => valOk ops p.1 && ((Region.ready .any ops listed).contains p.1 && (Region.free .any ops listed p.1 && (loadOk ops KK listed p.1 && KK.all (· != p.1))))
  | _ => Region.ready .any ops listed == [p.1]
def planOk (ops : Array Oper) (KK : List Nat) : Array Bool → List (Nat × Nat) → Bool
  | listed, [] => Region.ready .any ops listed == []
  | listed, p :: rest => stepOk ops KK listed p && planOk ops KK (listed.setIfInBounds p.1 true) rest
theorem value_of_plain {P : Program} {ρ : Operand → Value} {o : Oper} {w w' : World} {nx : Next} (hp : plainOp o.op = true) (h : (execOp ρ o).run P w = .ok nx w') : ∃ v, nx = .value v := by
  have key : ∀ (s : Sem Value), ((do pure (Next.value (← s))) : Sem Next).run P w = .ok nx w' → ∃ v, nx = .value v := by
    intro s hs
    rw [Sem.run_bind] at hs
    cases hr : s.run P w with
    | ok v w1 => rw [hr] at hs; simp at hs; exact ⟨v, hs.1.symm⟩
    | halt x w1 => rw [hr] at hs; simp at hs
  have kp : ∀ (v : Value), ((pure (Next.value v)) : Sem Next).run P w = .ok nx w' → ∃ v, nx = .value v := by
    intro v hs; simp at hs; exact ⟨v, hs.1.symm⟩
  have kp' : ∀ (v : Value) (w : World), ((pure (Next.value v)) : Sem Next).run P w = .ok nx w' → ∃ v, nx = .value v := by
    intro v w hs; simp at hs; exact ⟨v, hs.1.symm⟩
  have kb : ∀ {β : Type} (s : Sem β) (f : β → Sem Next) (w : World), (s >>= f).run P w = .ok nx w' → ∃ b w1, (f b).run P w1 = .ok nx w' := by
    intro β s f w hs
    rw [Sem.run_bind] at hs
    cases hr : s.run P w with
    | ok v w1 => rw [hr] at hs; exact ⟨v, w1, hs⟩
    | halt x w1 => rw [hr] at hs; simp at hs
  obtain ⟨dst, op, ty, pos, af, g⟩ := o
  cases op with
  | move x => exact kp _ h
  | assign x => exact kp _ h
  | pick c a b =>
    simp only [execOp, Sem.run_bind] at h
    cases hr : (asBool (ρ c)).run P w with
    | ok v w1 => rw [hr] at h; simp at h; exact ⟨_, h.1.symm⟩
    | halt x w1 => rw [hr] at h; simp at h
  | load t a => exact key _ h
  | nilCheck x =>
    simp only [execOp] at h
    split at h
    · simp [runtimePanic] at h
    · simp [runtimePanic] at h
    · simp [runtimePanic] at h
    · split at h
      · simp [runtimePanic] at h
      · obtain ⟨b, w1, h⟩ := kb _ _ _ h
        obtain ⟨b, w2, h⟩ := kb _ _ _ h
        split at h
        · simp at h
        · exact kp' _ _ h
      · exact kp _ h
    · exact kp _ h
  | binOp o t x y u => exact key _ h
  | unOp o t x => exact key _ h
  | convert s d x => exact key _ h
  | slice t x lo hi mx => exact key _ h
  | fieldAddr s x f => exact key _ h
  | field s x f => exact key _ h
  | indexAddr t x i => exact key _ h
  | index t x i => exact key _ h
  | extract t i => exact key _ h
  | build t ps => exact key _ h
  | makeFunc f a b => exact key _ h
  | call c =>
    obtain ⟨cal, args, at'⟩ := c
    cases cal with
    | value f => simp [plainOp] at hp
    | invoke r m => simp [plainOp] at hp
    | builtin b =>
      simp only [execOp, resolve, pure_bind] at h
      cases b <;> first | (simp [plainOp] at hp; done) | exact key _ h
  | _ => simp [plainOp] at hp

/-- A region that draws, by a plan. -/
def WPD (P : Program) (n : Nat) (ops : Array Oper) (KK : List Nat) (S : World → Prop) (plan : List (Nat × Nat)) (listed : Array Bool) (k : Env → List Deferred → World → Prop) (σ : Env) (ds : List Deferred) (w : World) : Prop :=
  planOk ops KK listed plan = true → Region.noSelect ops = true → ∀ a, Rel n σ ds a → wpG P ops (liftK n (onN k)) KK S plan.length listed a w
def unlB (KK : List Nat) (listed : Array Bool) : Bool := KK.all fun k => !listed.getD k true
section
variable {P : Program} {n : Nat} {ops : Array Oper} {KK : List Nat} {S : World → Prop} {rest : List (Nat × Nat)} {listed : Array Bool} {k : Env → List Deferred → World → Prop} {σ : Env} {ds : List Deferred} {w : World}
theorem noPanic {K : Env → List Deferred → World → Prop} : ∀ c a w, ¬ liftK n (onN K) (.panic c) a w := by
  rintro c a w ⟨_, _, _, h⟩; exact h
theorem unl_of {h : unlB KK listed = false} : ¬ unl KK listed := by
  intro hu
  have : unlB KK listed = true := by
    simp only [unlB, List.all_eq_true, Bool.not_eq_true']
    exact hu
  rw [this] at h; cases h
theorem WPD.nil (hS : S w) (h : k σ ds w) : WPD P n ops KK S [] listed k σ ds w := by
  intro hp _ a ha
  simp only [planOk, beq_iff_eq] at hp
  exact ⟨fun _ => hS, hp, σ, ds, ha, h⟩
theorem WPD.nilX (hx : unlB KK listed = false) (h : k σ ds w) : WPD P n ops KK S [] listed k σ ds w := by
  intro hp _ a ha
  simp only [planOk, beq_iff_eq] at hp
  exact ⟨fun hu => absurd hu (unl_of (h := hx)), hp, σ, ds, ha, h⟩
theorem WPD.eff' {i kd : Nat} {o : Oper} (hk : 2 ≤ kd) (hi : ops[i]? = some o) (hS : unl KK listed → S w) (h : WPL P n ops [o] (fun σ ds w => WPD P n ops KK S rest (listed.setIfInBounds i true) k σ ds w) σ ds w) :
    WPD P n ops KK S ((i, kd) :: rest) listed k σ ds w := by
  intro hp hs a ha
  simp only [planOk, Bool.and_eq_true] at hp
  obtain ⟨h1, h2⟩ := hp
  have hr : Region.ready .any ops listed = [i] := by
    match kd, hk with
    | kd + 2, _ => simpa [stepOk] using h1
  refine ⟨hS, (fun h0 => by rw [hr] at h0; cases h0), fun j hj => ?_⟩
  rw [hr] at hj
  obtain rfl : j = i := by simpa using hj
  have := h a ha
  unfold wpOp
  rw [hi]
  simp only
  unfold wpList at this
  have hK : ∀ a' w', wpList P ops (liftK n (onN fun σ ds w => WPD P n ops KK S rest (listed.setIfInBounds j true) k σ ds w)) [] a' w' → wpG P ops (liftK n (onN k)) KK S rest.length (listed.setIfInBounds j true) a' w' := by
    rintro a' w' ⟨σ', ds', hr', hk'⟩
    exact hk' h2 hs a' hr'
  split at this
  · rename_i hw
    rw [if_pos hw]
    rcases this with this | ⟨_, a₀, w₀, σ', ds', hr', hk'⟩
    · left
      unfold Oper.wp at this ⊢
      revert this
      generalize (execOp a.eval o).run P w = r
      intro this
      unfold Oper.upon at this ⊢
      split at this
      · exact hK _ _ this
      · exact hK _ _ this
      · exact hK _ _ this
      · refine Calls.mono this fun e w' he => ?_
        cases e with
        | returned v => exact hK _ _ he
        | panicked c => exact absurd he (noPanic _ _ _)
        | outgrown => obtain ⟨a₀, w₀, σ', ds', hr', hk'⟩ := he; exact hk'.elim
      · exact Rows.mono this fun v w' he => hK _ _ he
      · exact absurd this (noPanic _ _ _)
      · exact this.elim
    · exact hk'.elim
  · rename_i hw
    rw [if_neg hw]
    exact hK _ _ this
theorem WPD.eff {i : Nat} {o : Oper} (hi : ops[i]? = some o) (hS : S w) (h : WPL P n ops [o] (fun σ ds w => WPD P n ops KK S rest (listed.setIfInBounds i true) k σ ds w) σ ds w) :
    WPD P n ops KK S ((i, 2) :: rest) listed k σ ds w := WPD.eff' (by decide) hi (fun _ => hS) h
theorem WPD.effX {i : Nat} {o : Oper} (hi : ops[i]? = some o) (hx : unlB KK listed = false) (h : WPL P n ops [o] (fun σ ds w => WPD P n ops KK S rest (listed.setIfInBounds i true) k σ ds w) σ ds w) :
    WPD P n ops KK S ((i, 2) :: rest) listed k σ ds w := WPD.eff' (by decide) hi (fun hu => absurd hu (unl_of (h := hx))) h
theorem loadOk_spec {i : Nat} (h : loadOk ops KK listed i = true) : ∃ C : Array Bool, closedWithout ops i C ∧ (∀ k ∈ KK, k ≠ i ∧ C.getD k true = false) ∧ listed.size = C.size ∧ ∀ j, listed.getD j true = true → C.getD j true = true := by
  simp only [loadOk, Bool.and_eq_true, List.all_eq_true, beq_iff_eq, bne_iff_ne, ne_eq, Bool.not_eq_true'] at h
  obtain ⟨⟨⟨h1, h2⟩, h3⟩, h4⟩ := h
  refine ⟨_, fun j hj hr => hj (h1 j hr), fun k hk => h4 k hk, h3.symm, fun j hj => ?_⟩
  simp only [subB, List.all_eq_true, List.mem_range, Bool.or_eq_true, Bool.not_eq_true'] at h2
  rcases Nat.lt_or_ge j listed.size with hlt | hge
  · rcases h2 j hlt with h5 | h5
    · rw [hj] at h5; cases h5
    · exact h5
  · have : (closeWithout ops i ops.size listed).size ≤ j := by rw [h3]; exact hge
    simp [Array.getD_eq_getD_getElem?, Array.getElem?_eq_none this]
theorem ys_of {S' : World → Prop} {d : Nat} {op : Op} {ty : TypeId} {pos : String} {af : Array Edge} {g : Option (Nat × Bool)} {v : Value} {a : Act} (ha : Rel n σ ds a) (hd : Nat.blt d n = true) (hpl : plainOp op = true) (hSw : S' w)
    (hstep : ∀ w, S' w → ∀ k', k' (upd σ d v) ds w → WPL P n ops [⟨some d, op, ty, pos, af, g⟩] k' σ ds w) : YS P ops S' ⟨some d, op, ty, pos, af, g⟩ v a := by
  have hgetd : ∀ {u : Value} {σ' : Env} {ds' : List Deferred}, Rel n σ' ds' (a.put (some d) u) → σ' = upd σ d v → u = v := by
    intro u σ' ds' hr he
    have := hr.get d
    rw [he] at this
    have hlt : d < a.tmps.size := by rw [ha.size]; simpa [Nat.blt_eq] using hd
    have e : Nat.beq d d = true := Nat.beq_refl d
    simpa [Act.put, hlt, upd, e] using this
  cases hw : Region.wanted (⟨some d, op, ty, pos, af, g⟩ : Oper) (yielded ops a.tmps) with
  | true =>
    refine .inl ⟨hw, fun w1 hS1 => ?_⟩
    have h6 := hstep w1 hS1 (fun σ' ds' w' => σ' = upd σ d v ∧ w' = w1) ⟨rfl, rfl⟩ a ha
    unfold wpList at h6
    rw [if_pos hw] at h6
    rcases h6 with h6 | ⟨_, a₀, w₀, σ', ds', hr', hk'⟩
    · unfold Oper.wp at h6
      cases hrun : (execOp a.eval ⟨some d, op, ty, pos, af, g⟩).run P w1 with
      | ok nx w' =>
        obtain ⟨u, rfl⟩ := value_of_plain (o := ⟨some d, op, ty, pos, af, g⟩) hpl hrun
        rw [hrun] at h6
        obtain ⟨σ', ds', hr', he, hww⟩ := h6
        rw [hgetd hr' he, hww]
      | halt x w' =>
        rw [hrun] at h6
        cases x <;> first | exact h6.elim | exact absurd h6 (noPanic _ _ _)
    · exact hk'.elim
  | false =>
    refine .inr ⟨hw, ?_⟩
    have h6 := hstep w hSw (fun σ' ds' w' => σ' = upd σ d v ∧ w' = w) ⟨rfl, rfl⟩ a ha
    unfold wpList at h6
    rw [if_neg (by rw [hw]; simp)] at h6
    obtain ⟨σ', ds', hr', he, hww⟩ := h6
    exact (hgetd hr' he).symm
/-- A value that reads memory is taken as soon as it may be. -/
theorem WPD.val {i d : Nat} {op : Op} {ty : TypeId} {pos : String} {af : Array Edge} {g : Option (Nat × Bool)} {v : Value} (hi : ops[i]? = some ⟨some d, op, ty, pos, af, g⟩) (hd : Nat.blt d n = true)
    (hstep : ∀ w, S w → ∀ k', k' (upd σ d v) ds w → WPL P n ops [⟨some d, op, ty, pos, af, g⟩] k' σ ds w) (h : WPD P n ops KK S rest (listed.setIfInBounds i true) k (upd σ d v) ds w) :
    WPD P n ops KK S ((i, 1) :: rest) listed k σ ds w := by
  intro hp hs a ha
  simp only [planOk, stepOk, Bool.and_eq_true, List.all_eq_true, bne_iff_ne, ne_eq] at hp
  obtain ⟨⟨h1, h2, h3, h4, h6⟩, h5⟩ := hp
  have hpl : plainOp op = true := by
    simp only [valOk, hi, Bool.and_eq_true] at h1; exact h1.1
  obtain ⟨C, c1, c2, c3, c4⟩ := loadOk_spec h4
  have hSw : ∀ {fuel : Nat} {listed : Array Bool} {a : Act} {w : World}, (∀ j, listed.getD j true = true → C.getD j true = true) → wpG P ops (liftK n (onN k)) KK S fuel (listed.setIfInBounds i true) a w → S w := by
    intro fuel listed a w hl H
    refine H.inv fun k hk => ?_
    obtain ⟨h1, h2⟩ := c2 k hk
    rw [getD_set_ne true (Ne.symm h1)]
    cases h : listed.getD k true
    · rfl
    · rw [hl k h] at h2; cases h2
  exact wpG_first (S' := S) hi (Region.noSelect_spec hs) noPanic c1 h6 hSw _ listed a w c3 (Region.free_spec hi h3) (by simpa using h2) c4 (ys_of ha hd hpl (hSw c4 (h h5 hs _ (ha.put hd))) hstep) (h h5 hs _ (ha.put hd))
/-- A value that reads none. -/
theorem WPD.pv {i d : Nat} {op : Op} {ty : TypeId} {pos : String} {af : Array Edge} {g : Option (Nat × Bool)} {v : Value} (hi : ops[i]? = some ⟨some d, op, ty, pos, af, g⟩) (hd : Nat.blt d n = true)
    (hstep : ∀ w, ∀ k', k' (upd σ d v) ds w → WPL P n ops [⟨some d, op, ty, pos, af, g⟩] k' σ ds w) (h : WPD P n ops KK S rest (listed.setIfInBounds i true) k (upd σ d v) ds w) :
    WPD P n ops KK S ((i, 0) :: rest) listed k σ ds w := by
  intro hp hs a ha
  simp only [planOk, stepOk, Bool.and_eq_true, List.all_eq_true, bne_iff_ne, ne_eq] at hp
  obtain ⟨⟨h1, h2, h3, h4, h6⟩, h5⟩ := hp
  have hpl : plainOp op = true := by
    simp only [valOk, hi, Bool.and_eq_true] at h1; exact h1.1
  obtain ⟨C, c1, c2, c3, c4⟩ := loadOk_spec h4
  exact wpG_first (S' := fun _ => True) hi (Region.noSelect_spec hs) noPanic c1 h6 (fun _ _ => trivial) _ listed a w c3 (Region.free_spec hi h3) (by simpa using h2) c4 (ys_of (w := w) ha hd hpl trivial (fun w _ => hstep w)) (h h5 hs _ (ha.put hd))
end
theorem WP.draw {P : Program} {n id : Nat} {l : List Oper} {K : Post} {σ : Env} {ds : List Deferred} {w w0 : World} {tb : List Blk} {M : List Nat} {L : List Blk} {R : List Row} (plan : List (Nat × Nat)) (KK : List Nat)
    (hm : P.follows .mixedOrders = true) (hp : planOk l.toArray KK (Array.replicate l.toArray.size false) plan = true) (hs : Region.noSelect l.toArray = true) (hl : plan.length = l.toArray.size) (hO : Own tb w0 M L R w)
    (h : ∀ w, Own tb w0 M L R w → WPD P n l.toArray KK (Own tb w0 M L R) plan (Array.replicate l.toArray.size false) (K .normal) σ ds w) : WP P n (.region id l.toArray true) K σ ds w := by
  intro a ha
  have := h w.drew hO.drew hp hs a ha
  rw [hl] at this
  refine wp_mono (wp_region_any hm this.any) ?_
  rintro e a' w' ⟨σ', ds', hr', hk⟩
  cases e with
  | normal => exact ⟨σ', ds', hr', hk⟩
  | _ => exact hk.elim
end Go.Sw
