/- A part of the proof that BinsAlike answers true: steps of the walk, or plain laws that it needs. No conditions of its own. -/
import Derived.Test.YtdaphmoojpbddaaDoorSB4
set_option linter.all false
/-! The reference's bins; frames over calls that turn blocks. -/
namespace Go.Sw
set_option autoImplicit false
set_option linter.all false
open Go.RowKit
section
variable {tb tb' : List Blk} {w0 w w' : World} {M : List Nat} {L A A' : List Blk} {R : List Row}
theorem keys_app (A L : List Blk) : keys (A ++ L) = keys A ++ keys L := by simp [keys]
/-- A call that turns the blocks A of the caller's into A'. -/
theorem Own.callO (h : Own tb w0 M (A ++ L) R w) {R' : List Row} (hk : Own tb' w (keys A) A' R' w') : Own tb w0 M (A' ++ L) R w' := by
  have hnd := h.nodup
  rw [keys_app] at hnd
  have hnd' := List.nodup_append.1 hnd
  have hAM : ∀ k ∈ keys A, k ∈ M ∨ w0.heap.size ≤ k := by
    intro k hk'
    obtain ⟨e, he, rfl⟩ := List.mem_map.1 hk'
    exact h.own e (List.mem_append_left _ he)
  have hsz := h.fr.size
  have hsz' := hk.fr.size
  have hA' : ∀ e ∈ A', e.key ∈ keys A ∨ w.heap.size ≤ e.key := hk.own
  have hLlt : ∀ e ∈ L, e.key < w.heap.size := fun e he => h.lt (List.mem_append_right _ he)
  have hLA : ∀ e ∈ L, e.key ∉ keys A := fun e he hm => hnd'.2.2 e.key hm e.key (List.mem_map_of_mem he) rfl
  have hfree : ∀ k, k < w.heap.size → k ∉ keys A → k ∉ keys A' := by
    intro k hlt hn hm
    obtain ⟨e, he, rfl⟩ := List.mem_map.1 hm
    rcases hA' e he with h1 | h1
    · exact hn h1
    · omega
  refine ⟨?_, ?_, ?_, ?_, ?_, ?_⟩
  · refine ⟨hk.fr.os.trans h.fr.os, hk.fr.tape.trans h.fr.tape, hk.fr.output.trans h.fr.output, Nat.le_trans hsz hsz', fun k hlt hn => ?_⟩
    have hnA : k ∉ keys A := fun hm => (hAM k hm).elim hn (fun h1 => by omega)
    rw [hk.fr.block k (by omega) hnA]
    exact h.fr.block k hlt hn
  · rw [keys_app, List.nodup_append]
    refine ⟨hk.nodup, hnd'.2.1, fun a ha b hb e => ?_⟩
    subst e
    obtain ⟨e2, he2, rfl⟩ := List.mem_map.1 hb
    exact hfree _ (hLlt e2 he2) (hLA e2 he2) ha
  · intro e he
    rcases List.mem_append.1 he with he | he
    · rcases hA' e he with h1 | h1
      · exact hAM _ h1
      · right; omega
    · exact h.own e (List.mem_append_right _ he)
  · intro e he
    rcases List.mem_append.1 he with he | he
    · exact hk.cells e he
    · rw [hk.fr.block _ (hLlt e he) (hLA e he)]
      exact h.cells e (List.mem_append_right _ he)
  · intro r hr
    refine (h.rows r hr).mono (fun p hp hv hm => ?_) (fun p hp hv => ?_)
    · have hlt := (h.rows r hr).block_lt hp hv
      have hn := ((h.rows r hr).1 p hp).2 hv
      rw [keys_app] at hm hn ⊢
      rcases List.mem_append.1 hm with hm | hm
      · exfalso; exact hfree _ hlt (fun hx => hn (List.mem_append_left _ hx)) hm
      · exact List.mem_append_right _ hm
    · have hlt := (h.rows r hr).block_lt hp hv
      have hn := ((h.rows r hr).1 p hp).2 hv
      rw [keys_app] at hn
      exact hk.fr.block _ hlt (fun hx => hn (List.mem_append_left _ hx))
  · intro e he
    obtain ⟨h1, h2, h3⟩ := h.tabs e he
    rw [keys_app] at h1
    have hnA : e.key ∉ keys A := fun hx => h1 (List.mem_append_left _ hx)
    refine ⟨?_, by omega, fun i v hv => ?_⟩
    · rw [keys_app]
      intro hm
      rcases List.mem_append.1 hm with hm | hm
      · exact hfree _ h2 hnA hm
      · exact h1 (List.mem_append_right _ hm)
    · rw [World.cell?_of_block (w := w) (hk.fr.block _ h2 hnA)]; exact h3 i v hv
/-- A grown slice that is no more written is read. -/
theorem Own.freezeG {a : Option Addr} {c sz : Nat} {vals : List Value} {E : TypeId} {G : List Blk} (h : Own tb w0 M (G ++ L) R w) (hG : Grown a c sz vals E G) : Own tb w0 M L (⟨a, vals⟩ :: R) w := by
  rcases hG with ⟨rfl, _, rfl, rfl⟩ | ⟨b, sp, rfl, rfl, _⟩
  · exact h.row (.nil fun p hp => by cases hp)
  · have h1 : Own tb w0 M L (⟨some ⟨b, 0, none⟩, vals ++ sp⟩ :: R) w := Own.freeze h
    have h2 := h1.row ((h1.rows _ (List.mem_cons_self ..)).pre' (vals' := vals) (List.prefix_append _ _))
    exact ⟨h2.fr, h2.nodup, h2.own, h2.cells, fun r hr => h2.rows r (by
      rcases List.mem_cons.1 hr with e | e
      · rw [e]; exact List.mem_cons_self ..
      · exact List.mem_cons_of_mem _ (List.mem_cons_of_mem _ e)), h2.tabs⟩
/-- The start of a call that may turn these blocks. -/
theorem Own.startO {A : List Blk} (h : Own tb w0 M (A ++ L) R w) : Own [] w (keys A) A [] w := by
  have hnd := h.nodup
  rw [keys_app] at hnd
  exact Own.startM (by intro e he; cases he) (fun e he => h.cells e (List.mem_append_left _ he)) (List.nodup_append.1 hnd).1 (by intro e he; cases he) (by intro r hr; cases hr)
theorem Own.startT {A : List Blk} (h : Own tb w0 M (A ++ L) R w) : Own tb w (keys A) A [] w := by
  have hnd := h.nodup
  rw [keys_app] at hnd
  exact Own.startM h.tab (fun e he => h.cells e (List.mem_append_left _ he)) (List.nodup_append.1 hnd).1 (fun e he hm => (h.tabs e he).1 (by rw [keys_app]; exact List.mem_append_left _ hm)) (by intro r hr; cases hr)
end
/-- What was added, and how often: as cells. -/
def oc : List (Nat × Nat) → List Value
  | [] => []
  | p :: l => .int .u64 (p.1 : Int) :: .int .i64 (p.2 : Int) :: oc l
theorem oc_length : ∀ l : List (Nat × Nat), (oc l).length = l.length * 2
  | [] => rfl
  | _ :: l => by simp [oc, oc_length l]; omega
theorem oc_bits : ∀ {l : List (Nat × Nat)} {i : Nat}, i < l.length → (oc l)[i * 2]? = some (.int .u64 ((l.getD i (0, 0)).1 : Int))
  | _ :: _, 0, _ => rfl
  | _ :: l, i + 1, h => by
    have := oc_bits (l := l) (i := i) (by simpa using h)
    rw [show (i + 1) * 2 = i * 2 + 1 + 1 by omega]
    simpa [oc] using this
theorem oc_times : ∀ {l : List (Nat × Nat)} {i : Nat}, i < l.length → (oc l)[i * 2 + 1]? = some (.int .i64 ((l.getD i (0, 0)).2 : Int))
  | _ :: _, 0, _ => rfl
  | _ :: l, i + 1, h => by
    have := oc_times (l := l) (i := i) (by simpa using h)
    rw [show (i + 1) * 2 + 1 = i * 2 + 1 + 1 + 1 by omega]
    simpa [oc] using this
theorem oc_append : ∀ (l m : List (Nat × Nat)), oc (l ++ m) = oc l ++ oc m
  | [], _ => rfl
  | _ :: l, m => by simp [oc, oc_append l m]
theorem oc_one (l : List (Nat × Nat)) : ∀ v ∈ oc l, v.oneCell' = true := by
  induction l with
  | nil => intro v hv; cases hv
  | cons p l ih =>
    intro v hv
    simp only [oc, List.mem_cons] at hv
    rcases hv with rfl | rfl | hv
    · rfl
    · rfl
    · exact ih v hv
theorem oc_set : ∀ {l : List (Nat × Nat)} {i : Nat} {t : Nat}, (oc l).set (i * 2 + 1) (.int .i64 (t : Int)) = oc (l.set i ((l.getD i (0, 0)).1, t))
  | [], _, _ => by simp [oc]
  | _ :: _, 0, _ => by simp [oc]
  | _ :: l, i + 1, t => by
    have := oc_set (l := l) (i := i) (t := t)
    rw [show (i + 1) * 2 + 1 = i * 2 + 1 + 1 + 1 by omega]
    simpa [oc] using this
/-- One more, into what stands there of it. -/
def moreL (o : Nat × Nat) : List (Nat × Nat) → List (Nat × Nat)
  | [] => [o]
  | p :: l => if p.1 = o.1 then (p.1, p.2 + o.2) :: l else p :: moreL o l
/-- The first that has these bits. -/
def firstL (b : Nat) (l : List (Nat × Nat)) (i : Nat) : Prop := ∀ j, j < i → (l.getD j (0, 0)).1 ≠ b
theorem moreL_hit (o : Nat × Nat) : ∀ {l : List (Nat × Nat)} {i : Nat}, i < l.length → firstL o.1 l i → (l.getD i (0, 0)).1 = o.1 → moreL o l = l.set i ((l.getD i (0, 0)).1, (l.getD i (0, 0)).2 + o.2)
  | p :: l, 0, _, _, h => by
    have h : p.1 = o.1 := h
    rw [moreL, if_pos h]; rfl
  | p :: l, i + 1, hi, hf, h => by
    have h0 : ¬ p.1 = o.1 := hf 0 (by omega)
    rw [moreL, if_neg h0, moreL_hit o (l := l) (i := i) (by simpa using hi) (fun j hj => hf (j + 1) (by omega)) h]
    rfl
theorem moreL_miss (o : Nat × Nat) : ∀ {l : List (Nat × Nat)}, firstL o.1 l l.length → moreL o l = l ++ [o]
  | [], _ => rfl
  | p :: l, hf => by
    have h0 : ¬ p.1 = o.1 := hf 0 (by simp)
    rw [moreL, if_neg h0, moreL_miss o (l := l) (fun j hj => hf (j + 1) (by simpa using hj))]
    rfl
def sumT : List (Nat × Nat) → Nat
  | [] => 0
  | p :: l => p.2 + sumT l
theorem sumT_append : ∀ (l m : List (Nat × Nat)), sumT (l ++ m) = sumT l + sumT m
  | [], _ => by simp [sumT]
  | _ :: l, m => by simp [sumT, sumT_append l m]; omega
theorem sumT_more (o : Nat × Nat) : ∀ l : List (Nat × Nat), sumT (moreL o l) = sumT l + o.2
  | [] => by simp [moreL, sumT]
  | p :: l => by
    rw [moreL]; split
    · simp [sumT]; omega
    · simp [sumT, sumT_more o l]; omega
/-- Numbers that may stand there. -/
def okE (p : Nat × Nat) : Prop := p.1 < 18446744073709551616 ∧ p.1 % 9223372036854775808 < 9218868437227405312 ∧ 1 ≤ p.2
def okL (l : List (Nat × Nat)) : Prop := ∀ p ∈ l, okE p
theorem okL.more {o : Nat × Nat} (ho : okE o) : ∀ {l : List (Nat × Nat)}, okL l → okL (moreL o l)
  | [], _ => by intro p hp; simp [moreL] at hp; rw [hp]; exact ho
  | q :: l, h => by
    rw [moreL]
    have hq := h q (List.mem_cons_self ..)
    have hl : okL l := fun p hp => h p (List.mem_cons_of_mem _ hp)
    split
    · intro p hp
      rcases List.mem_cons.1 hp with rfl | hp
      · exact ⟨hq.1, hq.2.1, Nat.le_trans hq.2.2 (Nat.le_add_right _ _)⟩
      · exact hl p hp
    · intro p hp
      rcases List.mem_cons.1 hp with rfl | hp
      · exact hq
      · exact okL.more ho hl p hp
theorem okL.len : ∀ {l : List (Nat × Nat)}, okL l → l.length ≤ sumT l
  | [], _ => by simp [sumT]
  | p :: l, h => by
    have h1 := (h p (List.mem_cons_self ..)).2.2
    have h2 := okL.len (l := l) (fun q hq => h q (List.mem_cons_of_mem _ hq))
    simp [sumT]; omega
theorem okL.get {l : List (Nat × Nat)} (h : okL l) {i : Nat} (hi : i < l.length) : okE (l.getD i (0, 0)) := by
  rw [List.getD_eq_getElem?_getD, List.getElem?_eq_getElem hi]
  exact h _ (List.getElem_mem hi)
theorem sumT_get : ∀ {l : List (Nat × Nat)} {i : Nat}, i < l.length → (l.getD i (0, 0)).2 ≤ sumT l
  | p :: l, 0, _ => by simp [sumT]
  | p :: l, i + 1, h => by
    have := sumT_get (l := l) (i := i) (by simpa using h)
    simp only [List.getD_cons_succ, sumT]; omega
structure Rf where
  fold : Nat
  l : List (Nat × Nat)
  n : Nat
structure Rf.Ok (R : Rf) : Prop where
  fold : 1 ≤ R.fold ∧ R.fold ≤ 8
  ok : okL R.l
  sum : sumT R.l = R.n
  n : R.n ≤ 1099511627776
def Rf.more (R : Rf) (o : Nat × Nat) : Rf := ⟨R.fold, moreL o R.l, R.n + o.2⟩
theorem Rf.Ok.more {R : Rf} {o : Nat × Nat} (h : R.Ok) (ho : okE o) (hn : R.n + o.2 ≤ 1099511627776) : (R.more o).Ok :=
  ⟨h.fold, h.ok.more ho, by rw [Rf.more, sumT_more, h.sum], hn⟩
def Rf.merge (R O : Rf) : Rf := O.l.foldl Rf.more R
def Rf.add (R : Rf) (x : Nat) : Rf := ⟨R.fold, R.l ++ [(x, 1)], R.n + 1⟩
def finB (x : Nat) : Prop := x % 9223372036854775808 < 9218868437227405312
instance (x : Nat) : Decidable (finB x) := inferInstanceAs (Decidable (_ < _))
def Rf.addE (R : Rf) (x : Nat) : Int := if 1099511627776 ≤ R.n then 2 else if finB x then 0 else 30
def Rf.addF (R : Rf) (x : Nat) : Rf := if 1099511627776 ≤ R.n then R else if finB x then R.add x else R
theorem Rf.Ok.addF {R : Rf} {x : Nat} (h : R.Ok) (hx : x < 18446744073709551616) : (R.addF x).Ok := by
  unfold Rf.addF
  split
  · exact h
  split
  · rename_i h1 h2
    refine ⟨h.fold, ?_, ?_, ?_⟩
    · intro p hp
      rcases List.mem_append.1 hp with hp | hp
      · exact h.ok p hp
      · obtain rfl := List.mem_singleton.1 hp
        exact ⟨hx, h2, Nat.le_refl _⟩
    · show sumT (R.l ++ [(x, 1)]) = R.n + 1
      rw [sumT_append, h.sum]; rfl
    · show R.n + 1 ≤ _
      omega
  · exact h
/-- The reference's cells. -/
def rfC (R : Rf) (a : Option Addr) (c : Nat) : List Value := [.int .i64 (R.fold : Int), .slice a R.l.length c, .int .i64 (R.n : Int)]
end Go.Sw
