/- A part of the proof that BinsAlike answers true: steps of the walk, or plain laws that it needs. No conditions of its own. -/
import Derived.Test.YtdaphmoojpbddaaDoorSB6
set_option linter.all false
/-! Append, and what it leaves behind. -/
namespace Go.Sw
set_option autoImplicit false
set_option linter.all false
open Go.RowKit
variable {P : Program} {n : Nat} {σ : Env} {ds : List Deferred} {ops : Array Oper} {rest : List Oper} {k : Env → List Deferred → World → Prop} {w w0 : World}
  {d : Nat} {ty : TypeId} {pos : String} {af : Array Edge} {tb : List Blk} {M : List Nat} {L L' : List Blk} {R : List Row} {x y : Operand} {t : TypeId}
/-- Append to a slice of the call's own (or nil): it may grow; what it leaves behind stays. -/
theorem WPL.app2 {E : TypeId} {z ze : List Value} {by' be : Nat} {DE : TypeDesc} [T : Ty P t (.slice E) z by'] [TE : Ty P E DE ze be] {a : Option Addr} {l c m : Nat} {vals news : List Value} {G : List Blk}
    (hx : ev σ x = .slice a l c) (hO : Own tb w0 M (G ++ L) R w) (hG : Grown a c ze.length vals E G) (hl : vals.length = l * ze.length) (hlc : l ≤ c) (hs : SrcRow w (ev σ y) m ze.length news) (hsz : 0 < ze.length)
    (hfit : (l + m) * be ≤ 140737488355328) (h63 : l + m ≤ 9223372036854775807) (hd : Nat.blt d n = true)
    (h : ∀ a' c' G' O w, Grown a' c' ze.length (vals ++ news) E G' → l + m ≤ c' → ((O = [] ∧ a' = a ∧ keys G' = keys G) ∨ O = G) → Own tb w0 M (G' ++ (O ++ L)) R w → WPL P n ops rest k (upd σ d (.slice a' (l + m) c')) ds w) :
    WPL P n ops (⟨some d, .call ⟨.builtin .append, #[x, y], #[t, t]⟩, ty, pos, af, none⟩ :: rest) k σ ds w := by
  obtain ⟨i, z', h1, h2, h3, h4, h5⟩ := TE.info
  have hsrc := hs.src (P := P) (t := t) hsz
  have hn := hsrc.newsLen
  rw [← h4] at hsrc
  have key : ∀ {v : Value} {w' : World}, (Builtin.append_ #[t, t] ty #[.slice a l c, ev σ y]).run P w = .ok v w' → (execOp (ev σ) ⟨some d, .call ⟨.builtin .append, #[x, y], #[t, t]⟩, ty, pos, af, none⟩).run P w = .ok (.value v) w' := by
    intro v w' hr
    simp [execOp, resolve, invoke, builtin, hx, hr]
  rcases Nat.lt_or_ge c (l + m) with hg | hg
  · -- a new block
    have hold : (Builtin.firstCells i.size l (.slice a l c)).run P w.drew = .ok vals.toArray w.drew := by
      rcases hG with ⟨rfl, rfl, rfl, rfl⟩ | ⟨b, sp, rfl, rfl, hlen⟩
      · exact run_firstCells_none _ _ _ _ _
      · refine run_firstCells_some _ _ _ _ _ _ _ (by rw [h4]; exact hl) (fun j v hv => ?_)
        rw [add_addr, World.cell?_drew, Nat.zero_add, hO.cellL (cs := vals ++ sp) (T := E) Look.here, List.getElem?_append_left (List.getElem?_eq_some_iff.1 hv).1]
        exact hv
    have hr := run_append_grow_src w t t ty E i z' T.und h1 h2 a l c vals hold (ev σ y) m news hsrc hg (by omega) (by rw [h5]; exact growslice_fits hg hfit)
    refine WPL.val hd (key hr) ?_
    have hcap : l + m ≤ grownCap w (l + m) c E := Nat.le_add_right _ _
    have hzc : (Builtin.zeroCells z'.cells (grownCap w (l + m) c E - (l + m))).size = (grownCap w (l + m) c E - (l + m)) * ze.length := by
      simp [Builtin.zeroCells, h3]
    generalize hzz : Builtin.zeroCells z'.cells (grownCap w (l + m) c E - (l + m)) = zz at hzc
    generalize hcc : grownCap w (l + m) c E = c' at hcap hzc
    have e : (vals ++ news).toArray ++ zz = ((vals ++ news) ++ zz.toList).toArray := by apply Array.ext'; simp
    rw [e]
    refine h (some ⟨w.heap.size, 0, none⟩) c' [⟨w.heap.size, (vals ++ news) ++ zz.toList, E⟩] G _ (.inr ⟨_, zz.toList, rfl, rfl, ?_⟩) hcap (.inr rfl) ?_
    · rw [List.length_append, List.length_append, hl, hn, show zz.toList.length = zz.size from rfl, hzc, ← Nat.add_mul, ← Nat.add_mul]
      exact Nat.mul_le_mul_right _ (by omega)
    · exact (hO.drew).alloc _ _
  · -- there is room
    rcases hG with ⟨rfl, rfl, rfl, rfl⟩ | ⟨b, sp, rfl, rfl, hlen⟩
    · obtain rfl : m = 0 := by omega
      obtain rfl : l = 0 := by omega
      have hne : news = [] := List.eq_nil_of_length_eq_zero (by rw [hn]; simp)
      subst hne
      refine WPL.val hd (key (v := .slice none 0 0) (w' := w) ?_) (h none 0 [] [] w (.inl ⟨rfl, rfl, rfl, rfl⟩) (by omega) (.inl ⟨rfl, rfl, rfl⟩) hO)
      rcases hsrc.kind with ⟨e', hk⟩ | hk <;> simp [Builtin.append_, underlying, T.und, hk, sizeOf, typeInfo, h1, hsrc.len, hsrc.cells]
    · have hL : Look ([⟨b, vals ++ sp, E⟩] ++ L) b (vals ++ sp) E := Look.here
      have hlen' : vals.length + news.length ≤ (vals ++ sp).length := by
        rw [hl, hn, ← Nat.add_mul]; exact Nat.le_trans (Nat.mul_le_mul_right _ hg) hlen
      have hr := run_append_room_src w t t ty E i T.und h1 b 0 l c (ev σ y) m news hsrc hg (fun j hj => by
        have : 0 + l * i.size + j < (vals ++ sp).length := by rw [h4, ← hl]; omega
        rw [hO.cellL hL, List.getElem?_eq_getElem this]; rfl) (fun j hj => hO.frozenL hL)
      obtain ⟨w', s1, s2, s3⟩ := run_storeCells (P := P) b E news (vals ++ sp) w (0 + l * i.size) 0 (hO.cells _ hL.mem) (by rw [h4, ← hl]; omega) hsrc.one
      have s4 := run_storeCells_cells (P := P) b (0 + l * i.size) news 0 w (fun j hj => by
        have : 0 + l * i.size + 0 + j < (vals ++ sp).length := by rw [h4, ← hl]; omega
        rw [hO.cellL hL, List.getElem?_eq_getElem this]; rfl) (fun j hj => hO.frozenL hL) hsrc.one
      have hw : w.setCells b (0 + l * i.size) news = w' := by
        rw [s1] at s4
        have := s4
        simp only [Result.ok.injEq, true_and, Nat.add_zero] at this
        exact this.symm
      rw [hw] at hr
      refine WPL.val hd (key hr) ?_
      have hput : putAt (vals ++ sp) (0 + l * i.size + 0) news = (vals ++ news) ++ sp.drop news.length := by
        rw [h4, ← hl, putAt_eq _ _ _ (by omega)]
        simp
      rw [hput] at s3
      refine h (some ⟨b, 0, none⟩) c [⟨b, (vals ++ news) ++ sp.drop news.length, E⟩] [] w' (.inr ⟨b, _, rfl, rfl, ?_⟩) hg (.inl ⟨rfl, rfl, rfl⟩) ?_
      · simp only [List.length_append, List.length_drop] at hlen hlen' ⊢; omega
      · exact hO.turn (b := b) Turn.here s2 (fun c0 T0 hm => by
          have e1 := hO.cells _ hm
          have e2 := hO.cells _ hL.mem
          simp only at e1 e2
          rw [e1] at e2
          simp only [Option.some.injEq, Obj.cells.injEq] at e2
          rw [e2.2.1]; exact s3)


/-- A list of words in new memory, as its owner holds it. -/
structure Sl where
  a : Option Addr
  l : List Nat
  c : Nat
  G : List Blk
def Sl.cell (x : Sl) : Value := .slice x.a x.l.length x.c
def sc (s : List Sl) : List Value := s.map Sl.cell
theorem sc_length (s : List Sl) : (sc s).length = s.length := by simp [sc]
theorem sc_append (s t : List Sl) : sc (s ++ t) = sc s ++ sc t := by simp [sc]
theorem sc_one (s : List Sl) : ∀ v ∈ sc s, v.oneCell' = true := by
  intro v hv; obtain ⟨x, _, rfl⟩ := List.mem_map.1 hv; rfl
theorem sc_get {s : List Sl} {i : Nat} {x : Sl} (h : s[i]? = some x) : (sc s)[i]? = some x.cell := by simp [sc, h]
def SB (s : List Sl) : List Blk := s.flatMap Sl.G
theorem SB_append (s t : List Sl) : SB (s ++ t) = SB s ++ SB t := by simp [SB]
theorem SB_cons (x : Sl) (t : List Sl) : SB (x :: t) = x.G ++ SB t := by simp [SB]
theorem SB_one (x : Sl) : SB [x] = x.G := by simp [SB]
/-- All are written full with their marks. -/
def Marked (s : List Sl) : Prop := ∀ j x, s[j]? = some x → x.l = List.replicate x.l.length (1000 + j)
theorem Marked.snoc {s : List Sl} {x : Sl} (h : Marked s) (hx : x.l = List.replicate x.l.length (1000 + s.length)) : Marked (s ++ [x]) := by
  intro j y hy
  rcases Nat.lt_or_ge j s.length with hj | hj
  · rw [List.getElem?_append_left hj] at hy; exact h j y hy
  · rw [List.getElem?_append_right hj] at hy
    have : j - s.length = 0 := by
      rcases Nat.eq_zero_or_pos (j - s.length) with e | e
      · exact e
      · rw [List.getElem?_eq_none (by simp; omega)] at hy; cases hy
    rw [this] at hy
    obtain rfl : x = y := by simpa using hy
    rw [show j = s.length by omega]; exact hx
/-- What was put into the list of all: a slice as it was then. -/
structure Ent where
  a : Option Addr
  n : Nat
  v : Nat
  c : Nat
def Ent.cell (e : Ent) : Value := .slice e.a e.n e.c
def ec (s : List Ent) : List Value := s.map Ent.cell
theorem ec_length (s : List Ent) : (ec s).length = s.length := by simp [ec]
theorem ec_append (s t : List Ent) : ec (s ++ t) = ec s ++ ec t := by simp [ec]
theorem ec_one (s : List Ent) : ∀ v ∈ ec s, v.oneCell' = true := by
  intro v hv; obtain ⟨x, _, rfl⟩ := List.mem_map.1 hv; rfl
theorem ec_get {s : List Ent} {i : Nat} {x : Ent} (h : s[i]? = some x) : (ec s)[i]? = some x.cell := by simp [ec, h]
def EntIn (T : TypeId) (G : List Blk) (e : Ent) : Prop :=
  (e.n = 0 ∧ ∀ p, e.a = some p → p.spot = none) ∨ ∃ b m sp, e.a = some ⟨b, 0, none⟩ ∧ e.n ≤ m ∧ (⟨b, ws .u32 (List.replicate m e.v) ++ sp, T⟩ : Blk) ∈ G
theorem EntIn.mono {T : TypeId} {G G' : List Blk} {e : Ent} (h : EntIn T G e) (hs : ∀ b ∈ G, b ∈ G') : EntIn T G' e := by
  rcases h with h | ⟨b, m, sp, h1, h2, h3⟩
  · exact .inl h
  · exact .inr ⟨b, m, sp, h1, h2, hs _ h3⟩
theorem EntIn.of {T : TypeId} {G : List Blk} {a : Option Addr} {n v c : Nat} (h : Grown a c 1 (ws .u32 (List.replicate n v)) T G) : EntIn T G ⟨a, n, v, c⟩ := by
  rcases h with ⟨rfl, _, h3, rfl⟩ | ⟨b, sp, rfl, rfl, _⟩
  · left
    refine ⟨?_, fun p hp => by cases hp⟩
    have := congrArg List.length h3
    simpa using this
  · exact .inr ⟨b, n, sp, rfl, Nat.le_refl _, List.mem_singleton.2 rfl⟩
/-- One word more with the same mark: who reads the shorter slice reads the same. -/
theorem EntIn.grow {T : TypeId} {G G' : List Blk} {a a' : Option Addr} {c c' n v : Nat} {e : Ent} (h : EntIn T G e) (hv : e.v = v) (hG : Grown a c 1 (ws .u32 (List.replicate n v)) T G) (hG' : Grown a' c' 1 (ws .u32 (List.replicate (n + 1) v)) T G')
    (hk : keys G' = keys G) (hn : e.n ≤ n) : EntIn T G' e := by
  rcases h with h | ⟨b, m, sp, h1, h2, h3⟩
  · exact .inl h
  · rcases hG with ⟨rfl, _, _, rfl⟩ | ⟨b2, sp2, rfl, rfl, _⟩
    · cases h3
    · rcases hG' with ⟨_, _, _, rfl⟩ | ⟨b3, sp3, rfl, rfl, _⟩
      · simp [keys] at hk
      · have hb : b3 = b2 := by simpa [keys] using hk
        have hb2 : b = b2 := by have := List.mem_singleton.1 h3; exact congrArg Blk.key this
        subst hb hb2
        refine .inr ⟨_, n + 1, sp3, h1, by omega, ?_⟩
        rw [hv]; exact List.mem_singleton.2 rfl
theorem EntIn.row {T : TypeId} {e : Ent} {G : List Blk} (hO : Own tb w0 M L R w) (h : EntIn T G e) (hs : ∀ b ∈ G, b ∈ L) : RowOk w [] ⟨e.a, ws .u32 (List.replicate e.n e.v)⟩ := by
  rcases h with ⟨h1, h2⟩ | ⟨b, m, sp, h1, h2, h3⟩
  · rw [h1]; exact .nil h2
  · have hb := hO.cells _ (hs _ h3)
    rw [h1]
    refine ⟨fun p hp => ?_, fun _ => rfl, fun i v hv => ?_⟩
    · simp only [Option.some.injEq] at hp; subst hp; exact ⟨rfl, fun _ => by simp⟩
    · show w.cell? ⟨b, 0 + i, none⟩ = some v
      have hi : i < e.n := by have := (List.getElem?_eq_some_iff.1 hv).1; simpa using this
      rw [Nat.zero_add, cellB hb, List.getElem?_append_left (by simp; omega)]
      simp only [ws, List.getElem?_map, List.getElem?_replicate] at hv ⊢
      rw [if_pos hi] at hv
      rw [if_pos (by omega)]; exact hv
theorem EntIn.step {T : TypeId} {G G' O Pc : List Blk} {a a' : Option Addr} {c c' n v : Nat} {e : Ent} (h : EntIn T (G ++ Pc) e) (hv : e.v = v) (hG : Grown a c 1 (ws .u32 (List.replicate n v)) T G) (hG' : Grown a' c' 1 (ws .u32 (List.replicate (n + 1) v)) T G')
    (hor : (O = [] ∧ a' = a ∧ keys G' = keys G) ∨ O = G) (hn : e.n ≤ n) : EntIn T (G' ++ (O ++ Pc)) e := by
  rcases hor with ⟨rfl, _, hk⟩ | rfl
  · rcases h with h | ⟨b, m, sp, h1, h2, h3⟩
    · exact .inl h
    · rcases List.mem_append.1 h3 with h3 | h3
      · exact (EntIn.grow (.inr ⟨b, m, sp, h1, h2, h3⟩) hv hG hG' hk hn).mono (fun b hb => List.mem_append_left _ hb)
      · exact .inr ⟨b, m, sp, h1, h2, List.mem_append_right _ h3⟩
  · exact h.mono (fun b hb => List.mem_append_right _ hb)
def SlOk (T : TypeId) (x : Sl) : Prop := Grown x.a x.c 1 (ws .u32 x.l) T x.G ∧ x.l.length ≤ x.c ∧ x.l.length ≤ 1000000
theorem mark_set {l : List Nat} {k v : Nat} (h : k < l.length) : (List.replicate k v ++ l.drop k).set k v = List.replicate (k + 1) v ++ l.drop (k + 1) := by
  rw [List.set_append_right _ _ (by simp), List.length_replicate, Nat.sub_self, List.drop_eq_getElem_cons h, List.set_cons_zero, List.replicate_succ', List.append_assoc]
  rfl
theorem mark_len {l : List Nat} {k v : Nat} (h : k ≤ l.length) : (List.replicate k v ++ l.drop k).length = l.length := by simp; omega
theorem mark_all {l : List Nat} {v : Nat} : List.replicate l.length v ++ l.drop l.length = List.replicate l.length v := by simp
theorem ws_rep1 {n v : Nat} : ws .u32 (List.replicate n v) ++ ws .u32 [v] = ws .u32 (List.replicate (n + 1) v) := by
  rw [← ws_append, List.replicate_succ']
theorem ws_repget {n v k : Nat} (h : k < n) : (ws .u32 (List.replicate n v))[k * 1]? = some (.int .u32 (v : Int)) := by
  simp [ws, h]
theorem get1 {α : Type} {l : List α} {i : Nat} {x : α} (h : l[i]? = some x) : l[i * 1]? = some x := by rw [Nat.mul_one]; exact h
theorem run_eqP {E : TypeId} {zs : List Value} {by' : Nat} [T : Ty P t (.pointer E) zs by'] (a : Option Addr) : (Op.equal t (.pointer a) (.pointer none)).run P w = .ok a.isNone w := by
  show (Op.equalIn (9999 + 1) t (.pointer a) (.pointer none)).run P w = _
  generalize 9999 = q
  cases a <;> simp [Op.equalIn, underlying, T.und]
theorem WPL.eqP {E : TypeId} {u : TypeId} {zs : List Value} {by' : Nat} [T : Ty P t (.pointer E) zs by'] {a : Option Addr} (hx : ev σ x = .pointer a) (hy : ev σ y = .pointer none) (hd : Nat.blt d n = true) (h : WPL P n ops rest k (upd σ d (.bool a.isNone)) ds w) :
    WPL P n ops (⟨some d, .binOp .eql t x y u, ty, pos, af, none⟩ :: rest) k σ ds w := by
  refine WPL.val hd ?_ h
  have hg : (eqGuard .eql t x y (.pointer a) (.pointer none)).run P w = .ok () w := by
    unfold eqGuard; simp
  simp only [execOp, hx, hy, bind_assoc, Sem.run_bind, hg, Result.andThen_ok]
  simp [Go.binOp, run_eqP]
theorem WPL.neP {E : TypeId} {u : TypeId} {zs : List Value} {by' : Nat} [T : Ty P t (.pointer E) zs by'] {a : Option Addr} (hx : ev σ x = .pointer a) (hy : ev σ y = .pointer none) (hd : Nat.blt d n = true) (h : WPL P n ops rest k (upd σ d (.bool (!a.isNone))) ds w) :
    WPL P n ops (⟨some d, .binOp .neq t x y u, ty, pos, af, none⟩ :: rest) k σ ds w := by
  refine WPL.val hd ?_ h
  have hg : (eqGuard .neq t x y (.pointer a) (.pointer none)).run P w = .ok () w := by
    unfold eqGuard; simp
  simp only [execOp, hx, hy, bind_assoc, Sem.run_bind, hg, Result.andThen_ok]
  simp [Go.binOp, run_eqP]
theorem Own.turn1 {w' : World} {b : Nat} {c0 cs : List Value} {T0 : TypeId} (h : Own tb w0 M L R w) (hl : Look L b c0 T0) (ht : Turn L b cs L') (hf : FrX [b] w w') (hc : w'.heap[b]? = some (.cells cs.toArray T0 (0, 0))) : Own tb w0 M L' R w' :=
  h.turn ht hf (fun c T hm => by
    have h1 := h.cells _ hl.mem
    have h2 := h.cells _ hm
    simp only at h1 h2
    rw [h1] at h2
    simp only [Option.some.injEq, Obj.cells.injEq] at h2
    rw [← h2.2.1]; exact hc)
theorem Own.rowOf {A : List Blk} (h : Own tb w0 M (A ++ L) R w) {e : Blk} (he : e ∈ L) : RowOk w (keys A) ⟨some ⟨e.key, 0, none⟩, e.cells⟩ := by
  have hnd := h.nodup
  rw [show keys (A ++ L) = keys A ++ keys L by simp [keys]] at hnd
  have hn : e.key ∉ keys A := fun hm => (List.nodup_append.1 hnd).2.2 _ hm _ (List.mem_map_of_mem he) rfl
  refine ⟨fun p hp => ?_, fun _ => rfl, fun i v hv => ?_⟩
  · simp only [Option.some.injEq] at hp; subst hp; exact ⟨rfl, fun _ => hn⟩
  · show w.cell? ⟨e.key, 0 + i, none⟩ = some v
    rw [Nat.zero_add, cellB (h.cells e (List.mem_append_right _ he))]; exact hv
theorem Own.rowOfG {A : List Blk} {a : Option Addr} {c sz : Nat} {vals : List Value} {E : TypeId} {G : List Blk} (h : Own tb w0 M (A ++ L) R w) (hG : Grown a c sz vals E G) (hs : ∀ e ∈ G, e ∈ L) : RowOk w (keys A) ⟨a, vals⟩ := by
  rcases hG with ⟨rfl, _, rfl, rfl⟩ | ⟨b, sp, rfl, rfl, _⟩
  · exact .nil fun p hp => by cases hp
  · exact (h.rowOf (hs _ (List.mem_singleton.2 rfl))).pre' (List.prefix_append _ _)
theorem Own.head_ne {b : Blk} (h : Own tb w0 M (b :: L) R w) {e : Blk} (he : e ∈ L) : b.key ≠ e.key := by
  have hnd := h.nodup
  simp only [keys, List.map_cons, List.nodup_cons] at hnd
  exact fun h' => hnd.1 (by rw [h']; exact List.mem_map_of_mem he)
/-- A cut between two pieces of code. -/
theorem WP.seqI {cx cy : Code} {K : Post} (I : Env → List Deferred → World → Prop) (hx : WP P n cx (thenK I K) σ ds w) (hy : ∀ σ ds w, I σ ds w → WP P n cy K σ ds w) : WP P n (.seq cx cy) K σ ds w :=
  WP.seq (hx.mono (fun e σ' ds' w' h => by
    cases e with
    | normal => exact hy _ _ _ h
    | _ => exact h))
theorem Own.startT' {tb : List Blk} {w0 w : World} {M : List Nat} {L : List Blk} {R : List Row} (h : Own tb w0 M L R w) : Own tb w (keys L) L [] w :=
  Own.startT (A := L) (L := []) (by rw [List.append_nil]; exact h)
theorem Own.callO' {tb tb' : List Blk} {w0 w w' : World} {M : List Nat} {L L' : List Blk} {R R' : List Row} (h : Own tb w0 M L R w) (hk : Own tb' w (keys L) L' R' w') : Own tb w0 M L' R w' := by
  have := Own.callO (A := L) (L := []) (by rw [List.append_nil]; exact h) hk
  rwa [List.append_nil] at this
end Go.Sw
