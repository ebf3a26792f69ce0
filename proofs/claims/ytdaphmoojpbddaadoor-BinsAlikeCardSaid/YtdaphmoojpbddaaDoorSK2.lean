/- A part of the proof that BinsAlike answers true: steps of the walk, or plain laws that it needs. No conditions of its own. -/
import Derived.Test.YtdaphmoojpbddaaDoorSK
import Derived.Test.YtdaphmoojpbddaaDoorSM7
set_option linter.all false
namespace Go.Sw
set_option autoImplicit false
open Go.RowKit
/-- These blocks are among those. -/
class SubL (G L : List Blk) : Prop where
  sub : ∀ e ∈ G, e ∈ L
instance SubL.refl {G : List Blk} : SubL G G := ⟨fun _ h => h⟩
instance SubL.appL {G L : List Blk} : SubL G (G ++ L) := ⟨fun _ h => List.mem_append_left _ h⟩
instance SubL.appR {G G' L : List Blk} [h : SubL G L] : SubL G (G' ++ L) := ⟨fun e he => List.mem_append_right _ (h.sub e he)⟩
instance SubL.cons {G L : List Blk} {x : Blk} [h : SubL G L] : SubL G (x :: L) := ⟨fun e he => List.mem_cons_of_mem _ (h.sub e he)⟩
section
variable {tb : List Blk} {w0 w : World} {M : List Nat} {L : List Blk} {R : List Row} {a : Option Addr} {c sz : Nat} {vals : List Value} {E : TypeId} {G : List Blk}
theorem Own.rdG (h : Own tb w0 M L R w) (hG : Grown a c sz vals E G) [s : SubL G L] : RowOk w [] ⟨a, vals⟩ := by
  rcases hG with ⟨rfl, _, rfl, _⟩ | ⟨b, sp, rfl, rfl, _⟩
  · exact .nil fun p hp => by cases hp
  · have hb := h.cells _ (s.sub _ (List.mem_singleton.2 rfl))
    refine ⟨fun p hp => ?_, fun _ => rfl, fun i v hv => ?_⟩
    · simp only [Option.some.injEq] at hp; subst hp; exact ⟨rfl, fun _ => by simp⟩
    · show w.cell? ⟨b, 0 + i, none⟩ = some v
      rw [Nat.zero_add, cellB hb, List.getElem?_append_left (List.getElem?_eq_some_iff.1 hv).1]
      exact hv
theorem Own.giveG (h : Own tb w0 [] L R w) (hG : Grown a c sz vals E G) [s : SubL G L] : Res w0 w a c sz vals E :=
  ⟨G, hG, fun e he => ⟨(h.own e (s.sub e he)).resolve_left (by simp), h.cells e (s.sub e he)⟩⟩
end
/-- A dyad's value: its number lies at an address. -/
def dyV (d : Dy) (a : Option Addr) (c : Nat) : Value := .agg #[.bool d.s, .slice a (dig d.m).length c, .int .i64 d.e]
/-- What is new since then. -/
def Fresh (w0 : World) (a : Option Addr) (vals : List Value) : Prop := ∀ p, a = some p → vals ≠ [] → w0.heap.size ≤ p.block
theorem Fresh.mono {w w0 : World} {a : Option Addr} {vals : List Value} (h : Fresh w a vals) (hs : w0.heap.size ≤ w.heap.size) : Fresh w0 a vals := fun p hp hv => Nat.le_trans hs (h p hp hv)
/-- A result that is only read. -/
def RRes (w w' : World) (a : Option Addr) (vals : List Value) : Prop := RowOk w' [] ⟨a, vals⟩ ∧ Fresh w a vals
theorem Res.rr {w w' : World} {a : Option Addr} {c sz : Nat} {vals : List Value} {E : TypeId} (h : Res w w' a c sz vals E) : RRes w w' a vals := ⟨h.row, fun p hp _ => h.fresh p hp⟩
theorem RRes.nil {w w' : World} : RRes w w' none [] := ⟨.nil (fun p hp => by cases hp), fun p hp _ => by cases hp⟩
theorem Own.rres {tb : List Blk} {w0 w w' : World} {M : List Nat} {L : List Blk} {R : List Row} {a : Option Addr} {vals : List Value} (h : Own tb w0 M L R w) (hf : FrX [] w w') (hr : RRes w w' a vals) : Own tb w0 M L (⟨a, vals⟩ :: R) w' :=
  h.fresh hf hr.1 hr.2
theorem Own.rres1 {tb : List Blk} {w0 w w' : World} {M : List Nat} {L : List Blk} {R : List Row} {a : Option Addr} {vals : List Value} (h : Own tb w0 M L R w') (hs : L = []) (hr : RowOk w' [] ⟨a, vals⟩) : Own tb w0 M L (⟨a, vals⟩ :: R) w' := by
  subst hs; exact h.row hr
theorem Own.giveR {tb : List Blk} {w0 w : World} {M : List Nat} {L : List Blk} {R : List Row} {a : Option Addr} {vals : List Value} (h : Own tb w0 M L R w) [hr : Reads R a vals] (hn : Fresh w0 a vals) : RRes w0 w a vals := ⟨h.rd, hn⟩
/-- A second row that came out of the same call. -/
theorem Own.rres2 {tb : List Blk} {w0 w w' : World} {M : List Nat} {L : List Blk} {R : List Row} {a a2 : Option Addr} {vals vals2 : List Value} (h : Own tb w0 M L R w) (hf : FrX [] w w') (hr : RRes w w' a vals) (hr2 : RRes w w' a2 vals2) : Own tb w0 M L (⟨a2, vals2⟩ :: ⟨a, vals⟩ :: R) w' := by
  have h1 := h.rres hf hr
  have h2 := h.rres hf hr2
  exact ⟨h1.fr, h1.nodup, h1.own, h1.cells, fun r hr => (List.mem_cons.1 hr).elim (fun e => e ▸ h2.rows _ (List.mem_cons_self ..)) (h1.rows r), h1.tabs⟩
/-- Blocks in new memory. -/
def Owns (w w' : World) (G : List Blk) : Prop := (keys G).Nodup ∧ ∀ e ∈ G, w.heap.size ≤ e.key ∧ w'.heap[e.key]? = some (.cells e.cells.toArray e.ty (0, 0))
theorem Own.resLs {tb : List Blk} {w0 w w' : World} {M : List Nat} {L : List Blk} {R : List Row} (h : Own tb w0 M L R w) (hf : FrX [] w w') : ∀ {G : List Blk}, Owns w w' G → Own tb w0 M (G ++ L) R w' := by
  intro G
  induction G with
  | nil => intro _; exact h.call hf
  | cons e G ih =>
    intro hg
    have h1 := ih ⟨(List.nodup_cons.1 hg.1).2, fun x hx => hg.2 x (List.mem_cons_of_mem _ hx)⟩
    obtain ⟨g1, g2⟩ := hg.2 e (List.mem_cons_self ..)
    refine h1.take g2 (fun hk => ?_) (Nat.le_trans h.fr.size g1) (fun r hr p hp hv ek => ?_) (fun x hx ek => ?_)
    · simp only [keys, List.map_append, List.mem_append] at hk
      rcases hk with hk | hk
      · exact (List.nodup_cons.1 hg.1).1 hk
      · have := h.lt' hk; omega
    · have := (h.rows r hr).block_lt hp hv; omega
    · have := (h.tabs x hx).2.1; omega
/-- One list of blocks in another, in its order. -/
class SubS (G L : List Blk) : Prop where
  sub : G.Sublist L
instance (priority := 1100) SubS.nil {L : List Blk} : SubS [] L := ⟨List.nil_sublist _⟩
instance (priority := 1050) SubS.refl {G : List Blk} : SubS G G := ⟨List.Sublist.refl _⟩
instance (priority := 1040) SubS.appL {G L : List Blk} : SubS G (G ++ L) := ⟨List.sublist_append_left _ _⟩
instance (priority := 1030) SubS.app {G G' L : List Blk} [h : SubS G' L] : SubS (G ++ G') (G ++ L) := ⟨(List.Sublist.refl _).append h.sub⟩
instance SubS.skip {G L : List Blk} {x : Blk} [h : SubS G L] : SubS G (x :: L) := ⟨h.sub.cons _⟩
instance SubS.skipA {G G' L : List Blk} [h : SubS G L] : SubS G (G' ++ L) := ⟨h.sub.trans (List.sublist_append_right _ _)⟩
theorem Own.giveS {tb : List Blk} {w0 w : World} {L : List Blk} {R : List Row} (h : Own tb w0 [] L R w) (G : List Blk) [s : SubS G L] : Owns w0 w G :=
  ⟨(s.sub.map _).nodup h.nodup, fun e he => ⟨(h.own e (s.sub.subset he)).resolve_left (by simp), h.cells e (s.sub.subset he)⟩⟩
/-- A dyad in new memory. -/
def DyRes (w w' : World) (T : TypeId) (d : Dy) (v : Value) : Prop := ∃ a c, v = dyV d a c ∧ (dig d.m).length ≤ c ∧ Res w w' a c 1 (ws .u32 (dig d.m)) T
def DyErr (w w' : World) (T : TypeId) (d : Dy) (v : Value) : Prop := ∃ a c, v = .tuple #[dyV d a c, .int .i64 0] ∧ (dig d.m).length ≤ c ∧ Res w w' a c 1 (ws .u32 (dig d.m)) T
/-- A number's parts as a value. -/
def ptV (p : Pt) : Value := .agg #[.bool p.neg, .int .i64 p.cls, .int .i64 p.e, .int .u64 (p.f : Int)]
end Go.Sw
