/- A part of the proof that BinsAlike answers true: steps of the walk, or plain laws that it needs. No conditions of its own. -/
import Derived.Test.YtdaphmoojpbddaaDoorSA
import Derived.Laws.Rows
import Derived.Below
set_option linter.all false
/-! Memory: what a call has of its own, and what it only reads. -/
namespace Go.Sw
set_option autoImplicit false
open Go.RowKit

/-- All blocks of w but those of M are in w' as they were. -/
structure FrX (M : List Nat) (w w' : World) : Prop where
  os : w'.os = w.os
  tape : w'.tape = w.tape
  output : w'.output = w.output
  size : w.heap.size ≤ w'.heap.size
  block : ∀ k, k < w.heap.size → k ∉ M → w'.heap[k]? = w.heap[k]?
theorem FrX.refl (M : List Nat) (w : World) : FrX M w w := ⟨rfl, rfl, rfl, Nat.le_refl _, fun _ _ _ => rfl⟩
theorem FrX.trans {M : List Nat} {a b c : World} (h : FrX M a b) (k : FrX M b c) : FrX M a c :=
  ⟨k.os.trans h.os, k.tape.trans h.tape, k.output.trans h.output, Nat.le_trans h.size k.size, fun i hi hm => (k.block i (Nat.lt_of_lt_of_le hi h.size) hm).trans (h.block i hi hm)⟩
theorem FrX.mono {M N : List Nat} {a b : World} (h : FrX M a b) (hs : ∀ x, x ∈ M → x ∈ N) : FrX N a b :=
  ⟨h.os, h.tape, h.output, h.size, fun i hi hn => h.block i hi (fun hm => hn (hs _ hm))⟩
theorem FrX.below {w w' : World} (h : FrX [] w w') : Below w.heap.size w w' := ⟨h.os, h.tape, h.output, h.size, fun k hk => h.block k hk (by simp)⟩
theorem FrX.alloc {M : List Nat} (w : World) (o : Obj) : FrX M w (w.alloc o) :=
  ⟨rfl, rfl, rfl, by simp, fun k hk _ => Below.heap_alloc _ _ _ hk⟩
theorem FrX.drew {M : List Nat} (w : World) : FrX M w w.drew := ⟨rfl, rfl, rfl, Nat.le_refl _, fun _ _ _ => rfl⟩
theorem FrX.setCell {M : List Nat} (w : World) (a : Addr) (v : Value) (h : a.block ∈ M) : FrX M w (w.setCell a v) :=
  ⟨rfl, rfl, rfl, by simp, fun k _ hm => Below.heap_setCell _ _ _ _ (fun e => hm (e ▸ h))⟩

/-- A block of the call's own: its number, its cells, the type of its elements. -/
structure Blk where
  key : Nat
  cells : List Value
  ty : TypeId
/-- A row that is only read: where it begins (if it has a cell), what it holds. -/
structure Row where
  a : Option Addr
  vals : List Value
def addrOf (a : Option Addr) : Addr := a.getD ⟨0, 0, none⟩
def RowOk (w : World) (ks : List Nat) (r : Row) : Prop :=
  (∀ p, r.a = some p → p.spot = none ∧ (r.vals ≠ [] → p.block ∉ ks)) ∧ (r.vals ≠ [] → r.a.isSome = true) ∧
  ∀ i v, r.vals[i]? = some v → w.cell? ⟨(addrOf r.a).block, (addrOf r.a).off + i, none⟩ = some v
def keys (L : List Blk) : List Nat := L.map Blk.key

theorem cellB {w : World} {b : Nat} {cs : List Value} {T : TypeId} {f : Nat × Nat} (h : w.heap[b]? = some (.cells cs.toArray T f)) (i : Nat) : w.cell? ⟨b, i, none⟩ = cs[i]? := by
  rw [cell_of_row w b i _ T f h]; simp
theorem lt_of_get {w : World} {b : Nat} {o : Obj} (h : w.heap[b]? = some o) : b < w.heap.size := by
  rcases Nat.lt_or_ge b w.heap.size with h' | h'
  · exact h'
  · simp [Array.getElem?_eq_none h'] at h

theorem RowOk.mono {w w' : World} {ks ks' : List Nat} {r : Row} (h : RowOk w ks r) (hs : ∀ p, r.a = some p → r.vals ≠ [] → p.block ∈ ks' → p.block ∈ ks)
    (hw : ∀ p, r.a = some p → r.vals ≠ [] → w'.heap[p.block]? = w.heap[p.block]?) : RowOk w' ks' r := by
  refine ⟨fun p hp => ⟨(h.1 p hp).1, fun hv hk => (h.1 p hp).2 hv (hs p hp hv hk)⟩, h.2.1, fun i v hv => ?_⟩
  have hne : r.vals ≠ [] := by intro e; rw [e] at hv; simp at hv
  have hsome := h.2.1 hne
  obtain ⟨p, hp⟩ := Option.isSome_iff_exists.1 hsome
  have e : addrOf r.a = p := by rw [hp]; rfl
  have hc := h.2.2 i v hv
  rw [e] at hc ⊢
  exact (World.cell?_of_block (w := w) (a := ⟨p.block, p.off + i, none⟩) (hw p hp hne)).trans hc
theorem RowOk.block_lt {w : World} {ks : List Nat} {r : Row} (h : RowOk w ks r) {p : Addr} (hp : r.a = some p) (hv : r.vals ≠ []) : p.block < w.heap.size := by
  obtain ⟨v, l, e⟩ := List.exists_cons_of_ne_nil hv
  have := h.2.2 0 v (by rw [e]; rfl)
  have hb := World.block_lt_of_cell? _ _ this
  rw [hp] at hb; exact hb
theorem RowOk.weak {w : World} {ks : List Nat} {r : Row} (h : RowOk w ks r) : RowOk w [] r := h.mono (fun _ _ _ hk => by simp at hk) (fun _ _ _ => rfl)
theorem RowOk.nil {w : World} {ks : List Nat} {a : Option Addr} (h : ∀ p, a = some p → p.spot = none) : RowOk w ks ⟨a, []⟩ :=
  ⟨fun p hp => ⟨h p hp, fun hv => absurd rfl hv⟩, fun hv => absurd rfl hv, fun i v hv => by simp at hv⟩
theorem RowOk.fr {w w' : World} {M ks : List Nat} {r : Row} (h : RowOk w ks r) (hf : FrX M w w') (hM : ∀ p, r.a = some p → r.vals ≠ [] → p.block ∉ M) : RowOk w' ks r :=
  h.mono (fun _ _ _ hk => hk) (fun p hp hv => hf.block _ (h.block_lt hp hv) (hM p hp hv))
theorem RowOk.fr0 {w w' : World} {ks : List Nat} {r : Row} (h : RowOk w ks r) (hf : FrX [] w w') : RowOk w' ks r := h.fr hf (fun _ _ _ => by simp)

/-- The tables: package variables that hold what the text lays. -/
structure Tabs where
  l : List Blk
/-- The memory of a call: w0 when it began, M what it may turn of that, L what it has (or may turn), R what it reads. -/
structure Own (tb : List Blk) (w0 : World) (M : List Nat) (L : List Blk) (R : List Row) (w : World) : Prop where
  fr : FrX M w0 w
  nodup : (keys L).Nodup
  own : ∀ e ∈ L, e.key ∈ M ∨ w0.heap.size ≤ e.key
  cells : ∀ e ∈ L, w.heap[e.key]? = some (.cells e.cells.toArray e.ty (0, 0))
  rows : ∀ r ∈ R, RowOk w (keys L) r
  tabs : ∀ e ∈ tb, e.key ∉ keys L ∧ e.key < w.heap.size ∧ ∀ i v, e.cells[i]? = some v → w.cell? ⟨e.key, i, none⟩ = some v
def TabOk (tb : List Blk) (w : World) : Prop := ∀ e ∈ tb, e.key < w.heap.size ∧ ∀ i v, e.cells[i]? = some v → w.cell? ⟨e.key, i, none⟩ = some v

variable {tb : List Blk} {w0 w w' : World} {M : List Nat} {L : List Blk} {R : List Row}
theorem Own.tab (h : Own tb w0 M L R w) : TabOk tb w := fun e he => (h.tabs e he).2
theorem Own.start (ht : TabOk tb w) (hr : ∀ r ∈ R, RowOk w [] r) : Own tb w [] [] R w :=
  ⟨.refl _ _, by simp [keys], by simp, by simp, hr, fun e he => ⟨by simp [keys], ht e he⟩⟩
theorem Own.startM (ht : TabOk tb w) (hL : ∀ e ∈ L, w.heap[e.key]? = some (.cells e.cells.toArray e.ty (0, 0))) (hn : (keys L).Nodup)
    (htl : ∀ e ∈ tb, e.key ∉ keys L) (hr : ∀ r ∈ R, RowOk w (keys L) r) : Own tb w (keys L) L R w :=
  ⟨.refl _ _, hn, fun e he => .inl (List.mem_map_of_mem he), hL, hr, fun e he => ⟨htl e he, ht e he⟩⟩
theorem Own.lt (h : Own tb w0 M L R w) {e : Blk} (he : e ∈ L) : e.key < w.heap.size := lt_of_get (h.cells e he)
theorem Own.lt' (h : Own tb w0 M L R w) {b : Nat} (hb : b ∈ keys L) : b < w.heap.size := by
  obtain ⟨e, he, rfl⟩ := List.mem_map.1 hb; exact h.lt he

/-- A new block. -/
theorem Own.alloc (h : Own tb w0 M L R w) (cs : List Value) (T : TypeId) : Own tb w0 M (⟨w.heap.size, cs, T⟩ :: L) R (w.alloc (.cells cs.toArray T)) := by
  have hnew : w.heap.size ∉ keys L := fun hm => Nat.lt_irrefl _ (h.lt' hm)
  refine ⟨h.fr.trans (.alloc _ _), ?_, ?_, ?_, ?_, ?_⟩
  · simp only [keys, List.map_cons, List.nodup_cons]; exact ⟨hnew, h.nodup⟩
  · intro e he
    rcases List.mem_cons.1 he with rfl | he
    · exact .inr h.fr.size
    · exact h.own e he
  · intro e he
    rcases List.mem_cons.1 he with rfl | he
    · exact heap_alloc_new _ _
    · rw [heap_alloc_old _ _ _ (h.lt he)]; exact h.cells e he
  · intro r hr
    refine (h.rows r hr).mono ?_ ?_
    · intro p hp hv hk
      have hlt := (h.rows r hr).block_lt hp hv
      simp only [keys, List.map_cons, List.mem_cons] at hk
      rcases hk with hk | hk
      · omega
      · exact hk
    · intro p hp hv; exact heap_alloc_old _ _ _ ((h.rows r hr).block_lt hp hv)
  · intro e he
    obtain ⟨h1, h2, h3⟩ := h.tabs e he
    refine ⟨?_, by simp; omega, fun i v hv => ?_⟩
    · simp only [keys, List.map_cons, List.mem_cons]
      rintro (hk | hk)
      · omega
      · exact h1 hk
    · rw [World.cell?_alloc_lt _ _ _ h2]; exact h3 i v hv
theorem Own.drew (h : Own tb w0 M L R w) : Own tb w0 M L R w.drew :=
  ⟨h.fr.trans (.drew _), h.nodup, h.own, h.cells, fun r hr => (h.rows r hr).mono (fun _ _ _ hk => hk) (fun _ _ _ => rfl), h.tabs⟩

/-- Which block of the list has this number. -/
class Look (L : List Blk) (b : Nat) (cs : outParam (List Value)) (T : outParam TypeId) : Prop where
  mem : (⟨b, cs, T⟩ : Blk) ∈ L
instance Look.here {L : List Blk} {b : Nat} {cs : List Value} {T : TypeId} : Look (⟨b, cs, T⟩ :: L) b cs T := ⟨List.mem_cons_self ..⟩
instance Look.there {L : List Blk} {b : Nat} {cs : List Value} {T : TypeId} {x : Blk} [h : Look L b cs T] : Look (x :: L) b cs T := ⟨List.mem_cons_of_mem _ h.mem⟩
/-- The list with that block's cells turned. -/
class Turn (L : List Blk) (b : Nat) (cs : List Value) (L' : outParam (List Blk)) : Prop where
  is : ∃ A B c T, L = A ++ ⟨b, c, T⟩ :: B ∧ L' = A ++ ⟨b, cs, T⟩ :: B
instance Turn.here {L : List Blk} {b : Nat} {c cs : List Value} {T : TypeId} : Turn (⟨b, c, T⟩ :: L) b cs (⟨b, cs, T⟩ :: L) := ⟨[], L, c, T, rfl, rfl⟩
instance Turn.there {L L' : List Blk} {b : Nat} {cs : List Value} {x : Blk} [h : Turn L b cs L'] : Turn (x :: L) b cs (x :: L') :=
  ⟨by obtain ⟨A, B, c, T, h1, h2⟩ := h.is; exact ⟨x :: A, B, c, T, by rw [h1]; rfl, by rw [h2]; rfl⟩⟩
theorem Turn.keys {L L' : List Blk} {b : Nat} {cs : List Value} (h : Turn L b cs L') : Sw.keys L' = Sw.keys L := by
  obtain ⟨A, B, c, T, h1, h2⟩ := h.is
  rw [h1, h2]; simp [Sw.keys]

theorem nodup_mid {A B : List Nat} {b : Nat} (h : (A ++ b :: B).Nodup) : b ∉ A ∧ b ∉ B := by
  rw [List.nodup_append] at h
  obtain ⟨_, h2, h3⟩ := h
  exact ⟨fun hA => h3 b hA b (List.mem_cons_self ..) rfl, (List.nodup_cons.1 h2).1⟩
/-- The world may be turned at that block alone: by whatever writes cells there. -/
theorem Own.turn {b : Nat} {cs : List Value} {L' : List Blk} (h : Own tb w0 M L R w) (ht : Turn L b cs L') (hf : FrX [b] w w')
    (hc : ∀ c T, (⟨b, c, T⟩ : Blk) ∈ L → w'.heap[b]? = some (.cells cs.toArray T (0, 0))) : Own tb w0 M L' R w' := by
  have hk := ht.keys
  obtain ⟨A, B, c, T, h1, h2⟩ := ht.is
  have hmem : (⟨b, c, T⟩ : Blk) ∈ L := by rw [h1]; simp
  have hbk : b ∈ keys L := List.mem_map_of_mem hmem
  have hnd := h.nodup
  rw [h1] at hnd
  simp only [keys, List.map_append, List.map_cons] at hnd
  obtain ⟨hA, hB⟩ := nodup_mid hnd
  have hother : ∀ e ∈ L, e.key ≠ b → w'.heap[e.key]? = w.heap[e.key]? := fun e he hne => hf.block _ (h.lt he) (by simpa using hne)
  refine ⟨?_, by rw [hk]; exact h.nodup, ?_, ?_, ?_, ?_⟩
  · have := h.fr
    refine ⟨hf.os.trans this.os, hf.tape.trans this.tape, hf.output.trans this.output, Nat.le_trans this.size hf.size, fun i hi hm => ?_⟩
    have hne : i ≠ b := by
      rintro rfl
      rcases h.own _ hmem with ho | ho
      · exact hm ho
      · simp only at ho; omega
    rw [hf.block i (Nat.lt_of_lt_of_le hi this.size) (by simpa using hne)]
    exact this.block i hi hm
  · intro e he
    have : e.key ∈ keys L := by rw [← hk]; exact List.mem_map_of_mem he
    obtain ⟨e', he', hke⟩ := List.mem_map.1 this
    rw [← hke]; exact h.own e' he'
  · intro e he
    rw [h2] at he
    rcases List.mem_append.1 he with he | he
    · have hne : e.key ≠ b := fun ek => hA (ek ▸ List.mem_map_of_mem he)
      have heL : e ∈ L := by rw [h1]; exact List.mem_append_left _ he
      rw [hother e heL hne]; exact h.cells e heL
    · rcases List.mem_cons.1 he with rfl | he
      · exact hc c T hmem
      · have hne : e.key ≠ b := fun ek => hB (ek ▸ List.mem_map_of_mem he)
        have heL : e ∈ L := by rw [h1]; exact List.mem_append_right _ (List.mem_cons_of_mem _ he)
        rw [hother e heL hne]; exact h.cells e heL
  · intro r hr
    refine (h.rows r hr).mono (fun _ _ _ => by rw [hk]; exact id) (fun p hp hv => ?_)
    have hpb : p.block ≠ b := fun e => ((h.rows r hr).1 p hp).2 hv (e ▸ hbk)
    exact hf.block _ ((h.rows r hr).block_lt hp hv) (by simpa using hpb)
  · intro e he
    obtain ⟨h3, h4, h5⟩ := h.tabs e he
    have hne : e.key ≠ b := fun ek => h3 (ek ▸ hbk)
    refine ⟨by rw [hk]; exact h3, Nat.lt_of_lt_of_le h4 hf.size, fun i v hv => ?_⟩
    rw [World.cell?_of_block (w := w) (hf.block _ h4 (by simpa using hne))]; exact h5 i v hv
/-- A store into a cell of the call's own. -/
theorem Own.store {b off : Nat} {c : List Value} {T : TypeId} {v : Value} {L' : List Blk} (h : Own tb w0 M L R w) (hl : Look L b c T) (ht : Turn L b (c.set off v) L') :
    Own tb w0 M L' R (w.setCell ⟨b, off, none⟩ v) := by
  refine h.turn ht (.setCell _ _ _ (by simp)) ?_
  intro c' T' hm
  have h1 := h.cells _ hl.mem
  have h2 := h.cells _ hm
  simp only at h1 h2
  rw [h1] at h2
  simp only [Option.some.injEq, Obj.cells.injEq] at h2
  obtain ⟨e1, rfl, _⟩ := h2
  obtain rfl : c = c' := by simpa using congrArg Array.toList e1
  rw [heap_setCell_same w b off _ T v h1]
  simp
/-- A call that turns nothing of the caller's. -/
theorem Own.call (h : Own tb w0 M L R w) (hf : FrX [] w w') : Own tb w0 M L R w' := by
  refine ⟨h.fr.trans (hf.mono (by simp)), h.nodup, h.own, ?_, fun r hr => (h.rows r hr).fr0 hf, ?_⟩
  · intro e he; rw [hf.block _ (h.lt he) (by simp)]; exact h.cells e he
  · intro e he
    obtain ⟨h3, h4, h5⟩ := h.tabs e he
    refine ⟨h3, Nat.lt_of_lt_of_le h4 hf.size, fun i v hv => ?_⟩
    rw [World.cell?_of_block (w := w) (hf.block _ h4 (by simp))]; exact h5 i v hv
/-- A new block that a call has made is the caller's from now on. -/
theorem Own.take (h : Own tb w0 M L R w') {b : Nat} {cs : List Value} {T : TypeId} (hb : w'.heap[b]? = some (.cells cs.toArray T (0, 0))) (hk : b ∉ keys L) (h0 : w0.heap.size ≤ b)
    (hr : ∀ r ∈ R, ∀ p, r.a = some p → r.vals ≠ [] → p.block ≠ b) (ht : ∀ e ∈ tb, e.key ≠ b) : Own tb w0 M (⟨b, cs, T⟩ :: L) R w' := by
  refine ⟨h.fr, ?_, ?_, ?_, ?_, ?_⟩
  · simp only [keys, List.map_cons, List.nodup_cons]; exact ⟨hk, h.nodup⟩
  · intro e he
    rcases List.mem_cons.1 he with rfl | he
    · exact .inr h0
    · exact h.own e he
  · intro e he
    rcases List.mem_cons.1 he with rfl | he
    · exact hb
    · exact h.cells e he
  · intro r hm
    refine (h.rows r hm).mono (fun p hp hv hk' => ?_) (fun _ _ _ => rfl)
    simp only [keys, List.map_cons, List.mem_cons] at hk'
    rcases hk' with e | e
    · exact absurd e (hr r hm p hp hv)
    · exact e
  · intro e he
    refine ⟨?_, (h.tabs e he).2⟩
    simp only [keys, List.map_cons, List.mem_cons, not_or]
    exact ⟨ht e he, (h.tabs e he).1⟩
/-- A new row to read. -/
theorem Own.row (h : Own tb w0 M L R w) {r : Row} (hr : RowOk w (keys L) r) : Own tb w0 M L (r :: R) w :=
  ⟨h.fr, h.nodup, h.own, h.cells, fun x hx => (List.mem_cons.1 hx).elim (fun e => e ▸ hr) (h.rows x), h.tabs⟩
/-- A row of a fresh block is none of the caller's blocks. -/
theorem Own.fresh (h : Own tb w0 M L R w) (hf : FrX [] w w') {r : Row} (hr : RowOk w' [] r) (hn : ∀ p, r.a = some p → r.vals ≠ [] → w.heap.size ≤ p.block) : Own tb w0 M L (r :: R) w' := by
  refine (h.call hf).row ?_
  refine ⟨fun p hp => ⟨(hr.1 p hp).1, fun hv hk => ?_⟩, hr.2.1, hr.2.2⟩
  have := h.lt' hk
  have := hn p hp hv
  omega
theorem Own.rowL (h : Own tb w0 M L R w) {b off : Nat} {cs : List Value} {T : TypeId} (hl : Look L b cs T) {vals : List Value} (hv : ∀ i v, vals[i]? = some v → cs[off + i]? = some v) : RowOk w [] ⟨some ⟨b, off, none⟩, vals⟩ := by
  refine ⟨fun p hp => ?_, fun _ => rfl, fun i v hi => ?_⟩
  · simp only [Option.some.injEq] at hp; subst hp; exact ⟨rfl, fun _ => by simp⟩
  · show w.cell? ⟨b, off + i, none⟩ = some v
    rw [cellB (h.cells _ hl.mem)]; exact hv i v hi
theorem Own.cellL (h : Own tb w0 M L R w) {b off : Nat} {cs : List Value} {T : TypeId} (hl : Look L b cs T) : w.cell? ⟨b, off, none⟩ = cs[off]? := cellB (h.cells _ hl.mem) off
theorem Own.frozenL (h : Own tb w0 M L R w) {b off : Nat} {cs : List Value} {T : TypeId} (hl : Look L b cs T) : w.frozen? ⟨b, off, none⟩ = false := frozen_of_row w b off _ T (h.cells _ hl.mem)
/-- Which row is read. -/
class Reads (R : List Row) (a : Option Addr) (vals : outParam (List Value)) : Prop where
  mem : (⟨a, vals⟩ : Row) ∈ R
instance Reads.here {R : List Row} {a : Option Addr} {vals : List Value} : Reads (⟨a, vals⟩ :: R) a vals := ⟨List.mem_cons_self ..⟩
instance Reads.there {R : List Row} {a : Option Addr} {vals : List Value} {x : Row} [h : Reads R a vals] : Reads (x :: R) a vals := ⟨List.mem_cons_of_mem _ h.mem⟩
end Go.Sw
