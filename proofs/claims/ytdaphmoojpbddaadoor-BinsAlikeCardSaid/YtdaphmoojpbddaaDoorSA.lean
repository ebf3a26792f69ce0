/- A part of the proof that BinsAlike answers true: steps of the walk, or plain laws that it needs. No conditions of its own. -/
import Derived.Tactics
import Derived.RowKit3
set_option linter.all false
/-! Walks over environments: a frame is told by a function from slots to values. -/
namespace Go.Sw
set_option autoImplicit false

abbrev Env := Nat → Value
def upd (σ : Env) (d : Nat) (v : Value) : Env := fun i => bif Nat.beq i d then v else σ i
def ev (σ : Env) : Operand → Value
  | .tmp t => σ t
  | .const v => v
  | .global g => .pointer (some ⟨g, 0, none⟩)
  | .func f => .func (.func f) #[] #[]

theorem beq_ne {i d : Nat} (e : ¬ i = d) : Nat.beq i d = false := by
  cases h : Nat.beq i d
  · rfl
  · exact absurd (Nat.eq_of_beq_eq_true h) e

structure Rel (n : Nat) (σ : Env) (ds : List Deferred) (a : Act) : Prop where
  size : a.tmps.size = n
  get : ∀ i, a.tmps.getD i undef = σ i
  defs : a.defers = ds

variable {n : Nat} {σ : Env} {ds : List Deferred} {a : Act} {P : Program} {w : World}

theorem Rel.eval (h : Rel n σ ds a) : a.eval = ev σ := by
  funext x
  cases x with
  | tmp t => exact h.get t
  | const v => rfl
  | global g => rfl
  | func f => rfl

theorem Rel.put (h : Rel n σ ds a) {d : Nat} {v : Value} (hd : Nat.blt d n = true) : Rel n (upd σ d v) ds (a.put (some d) v) := by
  have hlt : d < a.tmps.size := by rw [h.size]; simpa [Nat.blt_eq] using hd
  refine ⟨?_, ?_, ?_⟩
  · simp [Act.put, h.size]
  · intro i
    by_cases e : i = d
    · subst e; simp [Act.put, upd, hlt]
    · have : Nat.beq i d = false := beq_ne e
      simp only [Act.put, upd, this, cond_false]
      rw [← h.get i]
      simp only [Array.getD_eq_getD_getElem?]
      rw [Array.getElem?_setIfInBounds_ne (by omega)]
  · exact h.defs

abbrev Post := Exit → Env → List Deferred → World → Prop
def liftK (n : Nat) (K : Post) : Exit → Act → World → Prop := fun e a w => ∃ σ ds, Rel n σ ds a ∧ K e σ ds w
def WP (P : Program) (n : Nat) (c : Code) (K : Post) (σ : Env) (ds : List Deferred) (w : World) : Prop :=
  ∀ a, Rel n σ ds a → c.wp P (liftK n K) a w
def onN (k : Env → List Deferred → World → Prop) : Post := fun e σ ds w => match e with | .normal => k σ ds w | _ => False
def thenK (k : Env → List Deferred → World → Prop) (K : Post) : Post := fun e σ ds w => match e with | .normal => k σ ds w | e => K e σ ds w
def blockK (id : Nat) (K : Post) : Post := fun e σ ds w => match e with | .exit i => bif Nat.beq i id then K .normal σ ds w else K (.exit i) σ ds w | e => K e σ ds w
def WPL (P : Program) (n : Nat) (ops : Array Oper) (l : List Oper) (k : Env → List Deferred → World → Prop) (σ : Env) (ds : List Deferred) (w : World) : Prop :=
  ∀ a, Rel n σ ds a → wpList P ops (liftK n (onN k)) l a w

theorem wpList_mono' {ops : Array Oper} {Q Q' : Exit → Act → World → Prop} (hq : ∀ e a w, Q e a w → Q' e a w) :
    ∀ (l : List Oper) (a : Act) (w : World), wpList P ops Q l a w → wpList P ops Q' l a w
  | [], a, w, h => hq _ _ _ h
  | o :: rest, a, w, h => by
    unfold wpList at h ⊢
    split
    · rename_i hw
      rw [if_pos hw] at h
      rcases h with h | ⟨h1, a₀, w₀, h2⟩
      · left
        unfold Oper.wp at h ⊢
        revert h
        generalize (execOp a.eval o).run P w = r
        intro h
        unfold Oper.upon at h ⊢
        split at h
        · exact wpList_mono' hq rest _ _ h
        · exact wpList_mono' hq rest _ _ h
        · exact wpList_mono' hq rest _ _ h
        · refine Calls.mono h fun e w' he => ?_
          cases e with
          | returned v => exact wpList_mono' hq rest _ _ he
          | panicked c => exact hq _ _ _ he
          | outgrown => obtain ⟨a₀, w₀, h2⟩ := he; exact ⟨a₀, w₀, hq _ _ _ h2⟩
        · exact Rows.mono h fun v w' he => wpList_mono' hq rest _ _ he
        · exact hq _ _ _ h
        · exact h.elim
      · right; exact ⟨h1, a₀, w₀, hq _ _ _ h2⟩
    · rename_i hw
      rw [if_neg hw] at h
      exact wpList_mono' hq rest _ _ h
theorem liftK_mono {K K' : Post} (h : ∀ e σ ds w, K e σ ds w → K' e σ ds w) (e : Exit) (a : Act) (w : World) : liftK n K e a w → liftK n K' e a w :=
  fun ⟨σ, ds, hr, hk⟩ => ⟨σ, ds, hr, h _ _ _ _ hk⟩
theorem WP.mono {c : Code} {K K' : Post} (h : WP P n c K σ ds w) (hk : ∀ e σ ds w, K e σ ds w → K' e σ ds w) : WP P n c K' σ ds w :=
  fun a hr => wp_mono (h a hr) (liftK_mono hk)

section control
variable {K : Post} {x y : Code} {k : Env → List Deferred → World → Prop}
theorem WP.seq (h : WP P n x (thenK (fun σ ds w => WP P n y K σ ds w) K) σ ds w) : WP P n (.seq x y) K σ ds w := by
  intro a hr
  refine wp_seq (wp_mono (h a hr) ?_)
  rintro e a' w' ⟨σ', ds', hr', hk⟩
  cases e with
  | normal => exact hk a' hr'
  | exit i => exact ⟨σ', ds', hr', hk⟩
  | goto i => exact ⟨σ', ds', hr', hk⟩
  | ret => exact ⟨σ', ds', hr', hk⟩
  | panic i => exact ⟨σ', ds', hr', hk⟩
  | outgrown => exact ⟨σ', ds', hr', hk⟩
theorem WP.region {id : Nat} {l : List Oper} (h : WPL P n l.toArray l (K .normal) σ ds w) : WP P n (.region id l.toArray false) K σ ds w := by
  intro a hr
  refine wp_region_lit ?_
  have := h a hr
  refine wpList_mono' ?_ _ _ _ this
  rintro e a' w' ⟨σ', ds', hr', hk⟩
  cases e with
  | normal => exact ⟨σ', ds', hr', hk⟩
  | _ => exact hk.elim
theorem WP.rs {id : Nat} {l : List Oper} (h : WPL P n l.toArray l (fun σ ds w => WP P n y K σ ds w) σ ds w) : WP P n (.seq (.region id l.toArray false) y) K σ ds w :=
  WP.seq (WP.region h)
theorem WP.skip (h : K .normal σ ds w) : WP P n .skip K σ ds w := fun a hr => wp_skip ⟨σ, ds, hr, h⟩
theorem WP.ret (h : K .ret σ ds w) : WP P n .ret K σ ds w := fun a hr => wp_ret ⟨σ, ds, hr, h⟩
theorem WP.exit {id : Nat} (h : K (.exit id) σ ds w) : WP P n (.exit id) K σ ds w := fun a hr => wp_exit ⟨σ, ds, hr, h⟩
theorem WP.block {id : Nat} (h : WP P n x (blockK id K) σ ds w) : WP P n (.block id x) K σ ds w := by
  intro a hr
  refine wp_block (wp_mono (h a hr) ?_)
  rintro e a' w' ⟨σ', ds', hr', hk⟩
  cases e with
  | exit i =>
    simp only [blockK] at hk
    simp only [Exit.inBlock]
    by_cases e : i = id
    · rw [if_pos e]; subst e; rw [Nat.beq_refl] at hk; exact ⟨σ', ds', hr', hk⟩
    · rw [if_neg e]; rw [beq_ne e] at hk; exact ⟨σ', ds', hr', hk⟩
  | _ => exact ⟨σ', ds', hr', hk⟩
theorem WP.condB {c : Operand} {b : Bool} (hc : ev σ c = .bool b) (ht : b = true → WP P n x K σ ds w) (hf : b = false → WP P n y K σ ds w) : WP P n (.cond c x y) K σ ds w := by
  intro a hr
  exact wp_cond_split (t := b) (by rw [hr.eval]; exact hc) (fun h => ht h a hr) (fun h => hf h a hr)
theorem WP.condP {c : Operand} {p : Prop} [Decidable p] (hc : ev σ c = .bool (decide p)) (ht : p → WP P n x K σ ds w) (hf : ¬ p → WP P n y K σ ds w) : WP P n (.cond c x y) K σ ds w :=
  WP.condB hc (fun h => ht (of_decide_eq_true h)) (fun h => hf (of_decide_eq_false h))
theorem WP.condT {c : Operand} (hc : ev σ c = .bool true) (ht : WP P n x K σ ds w) : WP P n (.cond c x y) K σ ds w :=
  WP.condB hc (fun _ => ht) (fun h => by cases h)
theorem WP.condF {c : Operand} (hc : ev σ c = .bool false) (hf : WP P n y K σ ds w) : WP P n (.cond c x y) K σ ds w :=
  WP.condB hc (fun h => by cases h) (fun _ => hf)
/-- A loop: what holds at each round's head, and a number that each round lowers. -/
theorem WP.loop (I : Nat → Env → List Deferred → World → Prop) (m : Nat) (h0 : I m σ ds w)
    (round : ∀ m σ ds w, I m σ ds w → WP P n x (thenK (fun σ ds w => ∃ m', m' < m ∧ I m' σ ds w) K) σ ds w) : WP P n (.loop x) K σ ds w := by
  intro a hr
  revert a σ ds w
  have key : ∀ m σ ds w, I m σ ds w → ∀ a, Rel n σ ds a → ∀ (b : Frame) (k : List Item) (cs : List Frame),
      ∃ e a' w', liftK n K e a' w' ∧ Arrives P (lone (b.at a (.code x :: .inLoop x :: k)) cs w) b k cs e a' w' := by
    intro m
    induction m using Nat.strongRecOn with
    | _ m ih =>
      intro σ ds w hI a hr b k cs
      obtain ⟨e, a₁, w₁, ⟨σ', ds', hr', hq⟩, harr⟩ := round m σ ds w hI a hr b (.inLoop x :: k) cs
      cases e with
      | normal =>
        obtain ⟨m', hlt, hI'⟩ := hq
        obtain ⟨e₂, a₂, w₂, hq₂, harr₂⟩ := ih m' hlt σ' ds' w₁ hI' a₁ hr' b k cs
        exact ⟨e₂, a₂, w₂, hq₂, .of_steps (Steps.trans harr (.one step_inLoop)) harr₂⟩
      | exit id => exact ⟨_, a₁, w₁, ⟨σ', ds', hr', hq⟩, .pass (x := .inLoop x) rfl (fun _ _ => .inl (by simp)) harr⟩
      | goto l => exact ⟨_, a₁, w₁, ⟨σ', ds', hr', hq⟩, .pass (x := .inLoop x) rfl (fun _ _ => .inl (by simp)) harr⟩
      | ret => exact ⟨_, a₁, w₁, ⟨σ', ds', hr', hq⟩, .pass (x := .inLoop x) rfl (fun _ _ => .inl (by simp)) harr⟩
      | panic ch => exact ⟨_, a₁, w₁, ⟨σ', ds', hr', hq⟩, .pass (x := .inLoop x) rfl (fun _ _ => .inl (by simp)) harr⟩
      | outgrown => exact ⟨_, a₁, w₁, ⟨σ', ds', hr', hq⟩, .pass (x := .inLoop x) rfl (fun _ _ => .inl (by simp)) harr⟩
  intro σ ds w h0 a hr b k cs
  obtain ⟨e, a', w', hq, harr⟩ := key m σ ds w h0 a hr b k cs
  exact ⟨e, a', w', hq, .of_steps (.one step_loop) harr⟩
theorem WPL.nil {ops : Array Oper} (h : k σ ds w) : WPL P n ops [] k σ ds w := fun a hr => wpList_nil ⟨σ, ds, hr, h⟩
end control

/-! What is known of slots, told again as updates: lookups compute. -/
def Has (σ : Env) : List (Nat × Value) → Prop
  | [] => True
  | p :: l => σ p.1 = p.2 ∧ Has σ l
def upds (σ : Env) : List (Nat × Value) → Env
  | [] => σ
  | p :: l => upd (upds σ l) p.1 p.2
theorem upd_self {d : Nat} {v : Value} (h : σ d = v) : upd σ d v = σ := by
  funext i
  simp only [upd]
  by_cases e : i = d
  · subst e; simp [h]
  · have : Nat.beq i d = false := beq_ne e
    rw [this]; rfl
theorem upds_self : ∀ {l : List (Nat × Value)}, Has σ l → upds σ l = σ
  | [], _ => rfl
  | p :: l, h => by
    have := upds_self h.2
    simp only [upds, this]
    exact upd_self h.1
theorem WP.reset {c : Code} {K : Post} {l : List (Nat × Value)} (h : Has σ l) (hw : WP P n c K (upds σ l) ds w) : WP P n c K σ ds w := by
  rw [upds_self h] at hw; exact hw

/-! Contracts. -/
def Spec (P : Program) (f : FuncId) (args : List Value) (w : World) (R : Value → World → Prop) : Prop :=
  Calls P f args.toArray w fun e w' => match e with | .returned v => R v w' | _ => False
theorem Spec.mono {f : FuncId} {args : List Value} {R R' : Value → World → Prop} (h : Spec P f args w R) (hr : ∀ v w', R v w' → R' v w') : Spec P f args w R' :=
  Calls.mono h fun e w' he => by cases e <;> first | exact hr _ _ he | exact he
/-- The results of a call, one behind the other; a result in memory is loaded. -/
def ResOK (P : Program) (σ : Env) (w : World) : List ResultVar → (List Value → Prop) → Prop
  | [], Q => Q []
  | .tmp t :: rs, Q => ResOK P σ w rs fun vs => Q (σ t :: vs)
  | .cell a t :: rs, Q => ∃ v, (∃ p, σ a = .pointer (some p) ∧ (loadVar t p).run P w = .ok v w) ∧ ResOK P σ w rs fun vs => Q (v :: vs)
def pack : List Value → Value
  | [v] => v
  | vs => .tuple vs.toArray
/-- What a function's body must end in. -/
def fin (P : Program) (rs : List ResultVar) (R : Value → World → Prop) : Post := fun e σ ds w =>
  match e with
  | .normal | .ret => ds = [] ∧ ResOK P σ w rs fun vs => R (pack vs) w
  | _ => False
def resOf (tmps : Array Value) : ResultVar → Sem Value
  | .tmp t => pure (tmps.getD t undef)
  | .cell p t => do loadVar t (← asAddr (tmps.getD p undef))
theorem mapM_res {σ : Env} {ds : List Deferred} {a : Act} {w : World} (hr : Rel n σ ds a) : ∀ (rs : List ResultVar) (Q : List Value → Prop), ResOK P σ w rs Q →
    ∃ vs, (rs.mapM (resOf a.tmps)).run P w = .ok vs w ∧ Q vs
  | [], _, h => ⟨[], by simp, h⟩
  | .tmp t :: rs, Q, h => by
    obtain ⟨vs, h1, h2⟩ := mapM_res hr rs _ h
    refine ⟨σ t :: vs, ?_, h2⟩
    have h0 : (resOf a.tmps (.tmp t)).run P w = .ok (σ t) w := by rw [← hr.get t]; rfl
    rw [List.mapM_cons, Sem.run_bind, h0]
    simp only [Result.andThen_ok, Sem.run_bind, h1, Sem.run_pure]
  | .cell p t :: rs, Q, ⟨v, ⟨q, hq, hv⟩, h⟩ => by
    obtain ⟨vs, h1, h2⟩ := mapM_res hr rs _ h
    refine ⟨v :: vs, ?_, h2⟩
    have h0 : (resOf a.tmps (.cell p t)).run P w = .ok v w := by
      simp only [resOf, hr.get, hq, asAddr, pure_bind, hv]
    rw [List.mapM_cons, Sem.run_bind, h0]
    simp only [Result.andThen_ok, Sem.run_bind, h1, Sem.run_pure]
theorem results_run {fn : Func} {rs : List ResultVar} {σ : Env} {ds : List Deferred} {a : Act} {w : World} {R : Value → World → Prop} (hr : Rel n σ ds a) (hres : fn.results = rs.toArray) (h : ResOK P σ w rs fun vs => R (pack vs) w) :
    ∃ v, (Go.results fn a.tmps).run P w = .ok v w ∧ R v w := by
  obtain ⟨vs, h1, h2⟩ := mapM_res hr rs _ h
  refine ⟨pack vs, ?_, h2⟩
  have e : Go.results fn a.tmps = (do let vs ← fn.results.mapM (resOf a.tmps); pure (if h : vs.size = 1 then vs[0] else .tuple vs)) := by
    unfold Go.results
    congr 1
  rw [e, hres, List.mapM_toArray]
  simp only [Sem.run_bind, Sem.run_map, h1, Result.andThen_ok, Sem.run_pure, List.size_toArray]
  match vs with
  | [] => rfl
  | [v] => rfl
  | v :: u :: vs => simp [pack]
def env0 (args : List Value) : Env := fun i => args.getD i undef
theorem Spec.enter {f : FuncId} {fn : Func} {c : Code} {args : List Value} {R : Value → World → Prop} {rs : List ResultVar}
    (hf : P.funcs[f]? = some fn) (hb : fn.body = some c) (hn : fn.ntmps = n) (hargs : Nat.ble args.length n = true) (hres : fn.results = rs.toArray)
    (h : WP P n c (fin P rs R) (env0 args) [] w) : Spec P f args w R := by
  refine calls_of_wp hf hb ?_
  have hr : Rel n (env0 args) [] { tmps := args.toArray ++ Array.replicate (fn.ntmps - args.toArray.size) undef, defers := [] } := by
    have hle : args.length ≤ n := by simpa using hargs
    refine ⟨by simp [hn]; omega, ?_, rfl⟩
    intro i
    simp only [env0, Array.getD_eq_getD_getElem?, List.getD_eq_getElem?_getD, Array.getElem?_append, List.size_toArray, List.getElem?_toArray]
    by_cases e : i < args.length
    · simp [e]
    · simp [e, Array.getElem?_replicate]
      split <;> simp
  refine wp_mono (h _ hr) ?_
  rintro e a' w' ⟨σ', ds', hr', hk⟩
  cases e with
  | normal => obtain ⟨rfl, hv⟩ := hk; exact ⟨hr'.defs, results_run hr' hres hv⟩
  | ret => obtain ⟨rfl, hv⟩ := hk; exact ⟨hr'.defs, results_run hr' hres hv⟩
  | _ => exact hk.elim
end Go.Sw
