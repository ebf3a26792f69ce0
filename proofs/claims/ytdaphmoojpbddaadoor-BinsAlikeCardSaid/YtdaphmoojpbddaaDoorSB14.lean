/- A part of the proof that BinsAlike answers true: steps of the walk, or plain laws that it needs. No conditions of its own. -/
import Derived.Test.YtdaphmoojpbddaaDoorSB9
set_option linter.all false
/-! A slice of the call's own that begins somewhere in its block: cut, read, appended to. -/
namespace Go.Sw
set_option autoImplicit false
set_option linter.all false
open Go.RowKit
variable {P : Program} {n : Nat} {σ : Env} {ds : List Deferred} {ops : Array Oper} {rest : List Oper} {k : Env → List Deferred → World → Prop} {w w0 : World}
  {d : Nat} {ty : TypeId} {pos : String} {af : Array Edge} {tb : List Blk} {M : List Nat} {L L' : List Blk} {R : List Row} {x y : Operand} {t : TypeId}
def GrownO (a : Option Addr) (c sz : Nat) (vals : List Value) (E : TypeId) (G : List Blk) : Prop :=
  (a = none ∧ c = 0 ∧ vals = [] ∧ G = []) ∨ ∃ b pre sp, a = some ⟨b, pre.length, none⟩ ∧ G = [⟨b, pre ++ (vals ++ sp), E⟩] ∧ c * sz ≤ (vals ++ sp).length
theorem Grown.o {a : Option Addr} {c sz : Nat} {vals : List Value} {E : TypeId} {G : List Blk} (h : Grown a c sz vals E G) : GrownO a c sz vals E G := by
  rcases h with h | ⟨b, sp, h1, h2, h3⟩
  · exact .inl h
  · exact .inr ⟨b, [], sp, h1, h2, h3⟩
theorem Own.rdO {a : Option Addr} {c sz : Nat} {vals : List Value} {E : TypeId} {G : List Blk} (h : Own tb w0 M L R w) (hG : GrownO a c sz vals E G) [s : SubL G L] : RowOk w [] ⟨a, vals⟩ := by
  rcases hG with ⟨rfl, _, rfl, _⟩ | ⟨b, pre, sp, rfl, rfl, _⟩
  · exact .nil fun p hp => by cases hp
  · have hb := h.cells _ (s.sub _ (List.mem_singleton.2 rfl))
    refine ⟨fun p hp => ?_, fun _ => rfl, fun i v hv => ?_⟩
    · simp only [Option.some.injEq] at hp; subst hp; exact ⟨rfl, fun _ => by simp⟩
    · show w.cell? ⟨b, pre.length + i, none⟩ = some v
      rw [cellB hb, List.getElem?_append_right (Nat.le_add_right ..), Nat.add_sub_cancel_left, List.getElem?_append_left (List.getElem?_eq_some_iff.1 hv).1]
      exact hv
theorem GrownO.cut {a : Option Addr} {c sz lo : Nat} {vals : List Value} {E : TypeId} {G : List Blk} (h : GrownO a c sz vals E G) (h1 : lo * sz ≤ vals.length) (h2 : vals.length ≤ c * sz) (h3 : lo ≤ c) : GrownO (cutA a c lo sz) (c - lo) sz (vals.drop (lo * sz)) E G := by
  rcases h with ⟨rfl, rfl, rfl, rfl⟩ | ⟨b, pre, sp, rfl, rfl, hlen⟩
  · obtain rfl : lo = 0 := by omega
    left
    refine ⟨?_, rfl, by simp, rfl⟩
    unfold cutA; rfl
  · right
    by_cases hc : c = lo
    · subst hc
      have e : vals.drop (c * sz) = [] := List.drop_eq_nil_of_le h2
      rw [e, Nat.sub_self]
      refine ⟨b, pre, vals ++ sp, ?_, rfl, by rw [Nat.zero_mul]; exact Nat.zero_le _⟩
      unfold cutA; rw [if_pos rfl]
    · refine ⟨b, pre ++ vals.take (lo * sz), sp, ?_, ?_, ?_⟩
      · unfold cutA
        rw [if_neg hc, List.length_append, List.length_take, Nat.min_eq_left h1]
        show some ((⟨b, pre.length, none⟩ : Addr).add (lo * sz)) = _
        rw [Go.WideShapes.add_plain]
      · congr 2
        rw [List.append_assoc, ← List.append_assoc (vals.take (lo * sz)), List.take_append_drop]
      · rw [List.length_append] at hlen ⊢
        rw [List.length_drop, Nat.sub_mul]; omega
/-- Append to such a slice: it may grow; what it leaves behind is dropped from sight. -/
theorem WPL.appO {E : TypeId} {z ze : List Value} {by' be : Nat} {DE : TypeDesc} [T : Ty P t (.slice E) z by'] [TE : Ty P E DE ze be] {a : Option Addr} {l c m : Nat} {vals news : List Value} {G : List Blk}
    (hx : ev σ x = .slice a l c) (hO : Own tb w0 M (G ++ L) R w) (hG : GrownO a c ze.length vals E G) (hl : vals.length = l * ze.length) (hlc : l ≤ c) (hs : SrcRow w (ev σ y) m ze.length news) (hsz : 0 < ze.length)
    (hfit : (l + m) * be ≤ 140737488355328) (h63 : l + m ≤ 9223372036854775807) (hd : Nat.blt d n = true)
    (h : ∀ a' c' G' w, GrownO a' c' ze.length (vals ++ news) E G' → l + m ≤ c' → Own tb w0 M (G' ++ L) R w → WPL P n ops rest k (upd σ d (.slice a' (l + m) c')) ds w) :
    WPL P n ops (⟨some d, .call ⟨.builtin .append, #[x, y], #[t, t]⟩, ty, pos, af, none⟩ :: rest) k σ ds w := by
  obtain ⟨i, z', h1, h2, h3, h4, h5⟩ := TE.info
  have hsrc := hs.src (P := P) (t := t) hsz
  have hn := hsrc.newsLen
  rw [← h4] at hsrc
  have key : ∀ {v : Value} {w' : World}, (Builtin.append_ #[t, t] ty #[.slice a l c, ev σ y]).run P w = .ok v w' → (execOp (ev σ) ⟨some d, .call ⟨.builtin .append, #[x, y], #[t, t]⟩, ty, pos, af, none⟩).run P w = .ok (.value v) w' := by
    intro v w' hr
    simp [execOp, resolve, invoke, builtin, hx, hr]
  rcases Nat.lt_or_ge c (l + m) with hg | hg
  · -- a new block
    have hold : (Builtin.firstCells i.size l (.slice a l c)).run P w.drew = .ok vals.toArray w.drew := by
      rcases hG with ⟨rfl, rfl, rfl, rfl⟩ | ⟨b, pre, sp, rfl, rfl, hlen⟩
      · exact run_firstCells_none _ _ _ _ _
      · refine run_firstCells_some _ _ _ _ _ _ _ (by rw [h4]; exact hl) (fun j v hv => ?_)
        rw [add_addr, World.cell?_drew, hO.cellL (cs := pre ++ (vals ++ sp)) (T := E) Look.here, List.getElem?_append_right (Nat.le_add_right ..), Nat.add_sub_cancel_left, List.getElem?_append_left (List.getElem?_eq_some_iff.1 hv).1]
        exact hv
    have hr := run_append_grow_src w t t ty E i z' T.und h1 h2 a l c vals hold (ev σ y) m news hsrc hg (by omega) (by rw [h5]; exact growslice_fits hg hfit)
    refine WPL.val hd (key hr) ?_
    have hcap : l + m ≤ grownCap w (l + m) c E := Nat.le_add_right _ _
    have hzc : (Builtin.zeroCells z'.cells (grownCap w (l + m) c E - (l + m))).size = (grownCap w (l + m) c E - (l + m)) * ze.length := by
      simp [Builtin.zeroCells, h3]
    generalize hzz : Builtin.zeroCells z'.cells (grownCap w (l + m) c E - (l + m)) = zz at hzc
    generalize hcc : grownCap w (l + m) c E = c' at hcap hzc
    have e : (vals ++ news).toArray ++ zz = ((vals ++ news) ++ zz.toList).toArray := by apply Array.ext'; simp
    rw [e]
    refine h (some ⟨w.heap.size, 0, none⟩) c' [⟨w.heap.size, (vals ++ news) ++ zz.toList, E⟩] _ (Grown.o (.inr ⟨_, zz.toList, rfl, rfl, ?_⟩)) hcap ?_
    · rw [List.length_append, List.length_append, hl, hn, show zz.toList.length = zz.size from rfl, hzc, ← Nat.add_mul, ← Nat.add_mul]
      exact Nat.mul_le_mul_right _ (by omega)
    · exact (hO.drop.drew).alloc _ _
  · -- there is room
    rcases hG with ⟨rfl, rfl, rfl, rfl⟩ | ⟨b, pre, sp, rfl, rfl, hlen⟩
    · obtain rfl : m = 0 := by omega
      obtain rfl : l = 0 := by omega
      have hne : news = [] := List.eq_nil_of_length_eq_zero (by rw [hn]; simp)
      subst hne
      refine WPL.val hd (key (v := .slice none 0 0) (w' := w) ?_) (h none 0 [] w (.inl ⟨rfl, rfl, rfl, rfl⟩) (by omega) hO)
      rcases hsrc.kind with ⟨e', hk⟩ | hk <;> simp [Builtin.append_, underlying, T.und, hk, sizeOf, typeInfo, h1, hsrc.len, hsrc.cells]
    · have hL : Look ([⟨b, pre ++ (vals ++ sp), E⟩] ++ L) b (pre ++ (vals ++ sp)) E := Look.here
      have hlen' : vals.length + news.length ≤ (vals ++ sp).length := by
        rw [hl, hn, ← Nat.add_mul]; exact Nat.le_trans (Nat.mul_le_mul_right _ hg) hlen
      have hlp : (pre ++ (vals ++ sp)).length = pre.length + (vals ++ sp).length := List.length_append ..
      have hr := run_append_room_src w t t ty E i T.und h1 b pre.length l c (ev σ y) m news hsrc hg (fun j hj => by
        have : pre.length + l * i.size + j < (pre ++ (vals ++ sp)).length := by rw [h4, ← hl]; omega
        rw [hO.cellL hL, List.getElem?_eq_getElem this]; rfl) (fun j hj => hO.frozenL hL)
      obtain ⟨w', s1, s2, s3⟩ := run_storeCells (P := P) b E news (pre ++ (vals ++ sp)) w (pre.length + l * i.size) 0 (hO.cells _ hL.mem) (by rw [h4, ← hl]; omega) hsrc.one
      have s4 := run_storeCells_cells (P := P) b (pre.length + l * i.size) news 0 w (fun j hj => by
        have : pre.length + l * i.size + 0 + j < (pre ++ (vals ++ sp)).length := by rw [h4, ← hl]; omega
        rw [hO.cellL hL, List.getElem?_eq_getElem this]; rfl) (fun j hj => hO.frozenL hL) hsrc.one
      have hw : w.setCells b (pre.length + l * i.size) news = w' := by
        rw [s1] at s4
        have := s4
        simp only [Result.ok.injEq, true_and, Nat.add_zero] at this
        exact this.symm
      rw [hw] at hr
      refine WPL.val hd (key hr) ?_
      have hput : putAt (pre ++ (vals ++ sp)) (pre.length + l * i.size + 0) news = pre ++ ((vals ++ news) ++ sp.drop news.length) := by
        rw [h4, ← hl, putAt_eq _ _ _ (by omega)]
        simp [List.take_append, List.drop_append, Nat.add_assoc]
        rw [List.take_of_length_le (by omega), List.drop_eq_nil_of_le (by omega), List.drop_eq_nil_of_le (by omega)]; simp
      rw [hput] at s3
      refine h (some ⟨b, pre.length, none⟩) c [⟨b, pre ++ ((vals ++ news) ++ sp.drop news.length), E⟩] w' (.inr ⟨b, pre, _, rfl, rfl, ?_⟩) hg ?_
      · simp only [List.length_append, List.length_drop] at hlen hlen' ⊢; omega
      · exact hO.turn (b := b) Turn.here s2 (fun c0 T0 hm => by
          have e1 := hO.cells _ hm
          have e2 := hO.cells _ hL.mem
          simp only at e1 e2
          rw [e1] at e2
          simp only [Option.some.injEq, Obj.cells.injEq] at e2
          rw [e2.2.1]; exact s3)
end Go.Sw
