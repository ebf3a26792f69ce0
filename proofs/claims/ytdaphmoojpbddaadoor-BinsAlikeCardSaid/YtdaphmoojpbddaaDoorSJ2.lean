/- A part of the proof that BinsAlike answers true: steps of the walk, or plain laws that it needs. No conditions of its own. -/
import Derived.Test.YtdaphmoojpbddaaDoorSJ
set_option linter.all false
/-! Regions that draw, where several effects may come next: each order is walked. -/
namespace Go.Sw
set_option autoImplicit false
def WPE (P : Program) (n : Nat) (ops : Array Oper) (KK : List Nat) (S : World → Prop) (fuel : Nat) (listed : Array Bool) (k : Env → List Deferred → World → Prop) (σ : Env) (ds : List Deferred) (w : World) : Prop :=
  Region.noSelect ops = true → ∀ a, Rel n σ ds a → wpG P ops (liftK n (onN k)) KK S fuel listed a w
section
variable {P : Program} {n fuel : Nat} {ops : Array Oper} {KK : List Nat} {S : World → Prop} {listed : Array Bool} {k : Env → List Deferred → World → Prop} {σ : Env} {ds : List Deferred} {w : World}
theorem WPE.nil (hr : (Region.ready .any ops listed == []) = true) (hS : S w) (h : k σ ds w) : WPE P n ops KK S 0 listed k σ ds w := by
  intro _ a ha
  exact ⟨fun _ => hS, by simpa using hr, σ, ds, ha, h⟩
theorem WPE.nilX (hr : (Region.ready .any ops listed == []) = true) (hx : unlB KK listed = false) (h : k σ ds w) : WPE P n ops KK S 0 listed k σ ds w := by
  intro _ a ha
  exact ⟨fun hu => absurd hu (unl_of (h := hx)), by simpa using hr, σ, ds, ha, h⟩
theorem WPE.effs {is : List Nat} (hr : (Region.ready .any ops listed == is) = true) (hne : is ≠ []) (hS : unl KK listed → S w)
    (h : ∀ i ∈ is, ∃ o, ops[i]? = some o ∧ WPL P n ops [o] (fun σ ds w => WPE P n ops KK S fuel (listed.setIfInBounds i true) k σ ds w) σ ds w) :
    WPE P n ops KK S (fuel + 1) listed k σ ds w := by
  intro hs a ha
  have hr : Region.ready .any ops listed = is := by simpa using hr
  refine ⟨hS, (fun h0 => by rw [hr] at h0; exact absurd h0 hne), fun j hj => ?_⟩
  rw [hr] at hj
  obtain ⟨o, hi, h⟩ := h j hj
  have := h a ha
  unfold wpOp
  rw [hi]
  simp only
  unfold wpList at this
  have hK : ∀ a' w', wpList P ops (liftK n (onN fun σ ds w => WPE P n ops KK S fuel (listed.setIfInBounds j true) k σ ds w)) [] a' w' → wpG P ops (liftK n (onN k)) KK S fuel (listed.setIfInBounds j true) a' w' := by
    rintro a' w' ⟨σ', ds', hr', hk'⟩
    exact hk' hs a' hr'
  split at this
  · rename_i hw
    rw [if_pos hw]
    rcases this with this | ⟨_, a₀, w₀, σ', ds', hr', hk'⟩
    · left
      unfold Oper.wp at this ⊢
      revert this
      generalize (execOp a.eval o).run P w = r
      intro this
      unfold Oper.upon at this ⊢
      split at this
      · exact hK _ _ this
      · exact hK _ _ this
      · exact hK _ _ this
      · refine Calls.mono this fun e w' he => ?_
        cases e with
        | returned v => exact hK _ _ he
        | panicked c => exact absurd he (noPanic _ _ _)
        | outgrown => obtain ⟨a₀, w₀, σ', ds', hr', hk'⟩ := he; exact hk'.elim
      · exact Rows.mono this fun v w' he => hK _ _ he
      · exact absurd this (noPanic _ _ _)
      · exact this.elim
    · exact hk'.elim
  · rename_i hw
    rw [if_neg hw]
    exact hK _ _ this
theorem WPE.eff {i : Nat} {o : Oper} (hr : (Region.ready .any ops listed == [i]) = true) (hi : ops[i]? = some o) (hS : S w) (h : WPL P n ops [o] (fun σ ds w => WPE P n ops KK S fuel (listed.setIfInBounds i true) k σ ds w) σ ds w) :
    WPE P n ops KK S (fuel + 1) listed k σ ds w := WPE.effs hr (by simp) (fun _ => hS) (fun j hj => by obtain rfl := List.mem_singleton.1 hj; exact ⟨o, hi, h⟩)
theorem WPE.effX {i : Nat} {o : Oper} (hr : (Region.ready .any ops listed == [i]) = true) (hi : ops[i]? = some o) (hx : unlB KK listed = false) (h : WPL P n ops [o] (fun σ ds w => WPE P n ops KK S fuel (listed.setIfInBounds i true) k σ ds w) σ ds w) :
    WPE P n ops KK S (fuel + 1) listed k σ ds w := WPE.effs hr (by simp) (fun hu => absurd hu (unl_of (h := hx))) (fun j hj => by obtain rfl := List.mem_singleton.1 hj; exact ⟨o, hi, h⟩)
theorem WPE.fork2 {i j : Nat} {o o' : Oper} (hr : (Region.ready .any ops listed == [i, j]) = true) (hi : ops[i]? = some o) (hj : ops[j]? = some o') (hS : unlB KK listed = false ∨ S w)
    (h : WPL P n ops [o] (fun σ ds w => WPE P n ops KK S fuel (listed.setIfInBounds i true) k σ ds w) σ ds w) (h' : WPL P n ops [o'] (fun σ ds w => WPE P n ops KK S fuel (listed.setIfInBounds j true) k σ ds w) σ ds w) :
    WPE P n ops KK S (fuel + 1) listed k σ ds w := by
  refine WPE.effs hr (by simp) (fun hu => hS.elim (fun hx => absurd hu (unl_of (h := hx))) id) (fun x hx => ?_)
  simp only [List.mem_cons, List.not_mem_nil, or_false] at hx
  rcases hx with rfl | rfl
  · exact ⟨o, hi, h⟩
  · exact ⟨o', hj, h'⟩
theorem WPE.fork3 {i j l : Nat} {o o' o'' : Oper} (hr : (Region.ready .any ops listed == [i, j, l]) = true) (hi : ops[i]? = some o) (hj : ops[j]? = some o') (hl : ops[l]? = some o'') (hS : unlB KK listed = false ∨ S w)
    (h : WPL P n ops [o] (fun σ ds w => WPE P n ops KK S fuel (listed.setIfInBounds i true) k σ ds w) σ ds w) (h' : WPL P n ops [o'] (fun σ ds w => WPE P n ops KK S fuel (listed.setIfInBounds j true) k σ ds w) σ ds w)
    (h'' : WPL P n ops [o''] (fun σ ds w => WPE P n ops KK S fuel (listed.setIfInBounds l true) k σ ds w) σ ds w) :
    WPE P n ops KK S (fuel + 1) listed k σ ds w := by
  refine WPE.effs hr (by simp) (fun hu => hS.elim (fun hx => absurd hu (unl_of (h := hx))) id) (fun x hx => ?_)
  simp only [List.mem_cons, List.not_mem_nil, or_false] at hx
  rcases hx with rfl | rfl | rfl
  · exact ⟨o, hi, h⟩
  · exact ⟨o', hj, h'⟩
  · exact ⟨o'', hl, h''⟩
theorem WPE.val {i d : Nat} {op : Op} {ty : TypeId} {pos : String} {af : Array Edge} {g : Option (Nat × Bool)} {v : Value} (hp : stepOk ops KK listed (i, 1) = true) (hi : ops[i]? = some ⟨some d, op, ty, pos, af, g⟩) (hd : Nat.blt d n = true)
    (hstep : ∀ w, S w → ∀ k', k' (upd σ d v) ds w → WPL P n ops [⟨some d, op, ty, pos, af, g⟩] k' σ ds w) (h : WPE P n ops KK S fuel (listed.setIfInBounds i true) k (upd σ d v) ds w) :
    WPE P n ops KK S (fuel + 1) listed k σ ds w := by
  intro hs a ha
  simp only [stepOk, Bool.and_eq_true, List.all_eq_true, bne_iff_ne, ne_eq] at hp
  obtain ⟨h1, h2, h3, h4, h6⟩ := hp
  have hpl : plainOp op = true := by
    simp only [valOk, hi, Bool.and_eq_true] at h1; exact h1.1
  obtain ⟨C, c1, c2, c3, c4⟩ := loadOk_spec h4
  have hSw : ∀ {fuel : Nat} {listed : Array Bool} {a : Act} {w : World}, (∀ j, listed.getD j true = true → C.getD j true = true) → wpG P ops (liftK n (onN k)) KK S fuel (listed.setIfInBounds i true) a w → S w := by
    intro fuel listed a w hl H
    refine H.inv fun k hk => ?_
    obtain ⟨h1, h2⟩ := c2 k hk
    rw [getD_set_ne true (Ne.symm h1)]
    cases h : listed.getD k true
    · rfl
    · rw [hl k h] at h2; cases h2
  exact wpG_first (S' := S) hi (Region.noSelect_spec hs) noPanic c1 h6 hSw _ listed a w c3 (Region.free_spec hi h3) (by simpa using h2) c4 (ys_of ha hd hpl (hSw c4 (h hs _ (ha.put hd))) hstep) (h hs _ (ha.put hd))
theorem WPE.pv {i d : Nat} {op : Op} {ty : TypeId} {pos : String} {af : Array Edge} {g : Option (Nat × Bool)} {v : Value} (hp : stepOk ops KK listed (i, 0) = true) (hi : ops[i]? = some ⟨some d, op, ty, pos, af, g⟩) (hd : Nat.blt d n = true)
    (hstep : ∀ w, ∀ k', k' (upd σ d v) ds w → WPL P n ops [⟨some d, op, ty, pos, af, g⟩] k' σ ds w) (h : WPE P n ops KK S fuel (listed.setIfInBounds i true) k (upd σ d v) ds w) :
    WPE P n ops KK S (fuel + 1) listed k σ ds w := by
  intro hs a ha
  simp only [stepOk, Bool.and_eq_true, List.all_eq_true, bne_iff_ne, ne_eq] at hp
  obtain ⟨h1, h2, h3, h4, h6⟩ := hp
  have hpl : plainOp op = true := by
    simp only [valOk, hi, Bool.and_eq_true] at h1; exact h1.1
  obtain ⟨C, c1, c2, c3, c4⟩ := loadOk_spec h4
  exact wpG_first (S' := fun _ => True) hi (Region.noSelect_spec hs) noPanic c1 h6 (fun _ _ => trivial) _ listed a w c3 (Region.free_spec hi h3) (by simpa using h2) c4 (ys_of (w := w) ha hd hpl trivial (fun w _ => hstep w)) (h hs _ (ha.put hd))
theorem WPE.split {s : Nat} {b : Bool} (_hs : σ s = .bool b) (ht : b = true → WPE P n ops KK S fuel listed k σ ds w) (hf : b = false → WPE P n ops KK S fuel listed k σ ds w) : WPE P n ops KK S fuel listed k σ ds w := by
  cases b
  · exact hf rfl
  · exact ht rfl
end
theorem WP.drawE {P : Program} {n id : Nat} {l : List Oper} {K : Post} {σ : Env} {ds : List Deferred} {w w0 : World} {tb : List Blk} {M : List Nat} {L : List Blk} {R : List Row} (fuel : Nat) (KK : List Nat)
    (hm : P.follows .mixedOrders = true) (hs : Region.noSelect l.toArray = true) (hl : fuel = l.toArray.size) (hO : Own tb w0 M L R w)
    (h : ∀ w, Own tb w0 M L R w → WPE P n l.toArray KK (Own tb w0 M L R) fuel (Array.replicate l.toArray.size false) (K .normal) σ ds w) : WP P n (.region id l.toArray true) K σ ds w := by
  intro a ha
  have := h w.drew hO.drew hs a ha
  rw [hl] at this
  refine wp_mono (wp_region_any hm this.any) ?_
  rintro e a' w' ⟨σ', ds', hr', hk⟩
  cases e with
  | normal => exact ⟨σ', ds', hr', hk⟩
  | _ => exact hk.elim
end Go.Sw
