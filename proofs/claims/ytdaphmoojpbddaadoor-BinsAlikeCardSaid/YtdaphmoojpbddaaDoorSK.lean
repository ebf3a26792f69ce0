/- A part of the proof that BinsAlike answers true: steps of the walk, or plain laws that it needs. No conditions of its own. -/
import Derived.Test.YtdaphmoojpbddaaDoorSJ2
import Derived.Test.YtdaphmoojpbddaaDoorSM4
import Derived.KernelRfl
set_option linter.all false
/-! The program's tables; results; words. -/
namespace Go.Sw
set_option autoImplicit false
open Go.RowKit
theorem Ty.mk' {P : Program} {t : TypeId} {d : TypeDesc} {zs : List Value} {bytes : Nat} (hu : P.underlying t = some d)
    (h : (P.info? t).map (fun i => (i.zero.map Value.cells, i.size, i.bytes)) = some (some zs.toArray, zs.length, bytes)) : Ty P t d zs bytes := by
  refine ⟨hu, ?_⟩
  cases hi : P.info? t with
  | none => rw [hi] at h; simp at h
  | some i =>
    rw [hi] at h
    simp only [Option.map_some, Option.some.injEq, Prod.mk.injEq, Option.map_eq_some_iff] at h
    obtain ⟨⟨z, hz, hc⟩, hs, hb⟩ := h
    exact ⟨i, z, rfl, hz, hc, hs, hb⟩
def fldOf (P : Program) (s f : Nat) : Option (Nat × Nat) :=
  match P.underlying s with
  | some (.struct fs) => match fs[f]? with | some fd => some (fd.offset, ((P.info? fd.type).map (·.size)).getD 0) | none => none
  | _ => none
theorem Fld.mk' {P : Program} {s f off sz : Nat} (h : fldOf P s f = some (off, sz + 1)) : Fld P s f off := by
  unfold fldOf at h
  split at h
  · rename_i fs hu
    split at h
    · rename_i fd hf
      simp only [Option.some.injEq, Prod.mk.injEq] at h
      cases hi : P.info? fd.type with
      | none => rw [hi] at h; simp at h
      | some i => rw [hi] at h; simp at h; exact ⟨fs, fd, i, hu, hf, h.1, hi, by omega⟩
    · cases h
  · cases h
def placesOf (P : Program) (s : Nat) : Option (List (Nat × Nat)) :=
  match P.underlying s with
  | some (.struct fs) => if (fs.toList.all fun f => (P.info? f.type).isSome) then some (fs.toList.map fun f => (f.offset, ((P.info? f.type).map (·.size)).getD 0)) else none
  | _ => none
/-- Cells put together, over lists. -/
def fillL (pl : List (Nat × Nat)) (cs : List Value) : List (Nat × Value) → List Value
  | [] => cs
  | (i, v) :: rest => fillL pl (putAt cs (pl.getD i (0, 0)).1 v.cells.toList) rest
def okFill (pl : List (Nat × Nat)) (n : Nat) : List (Nat × Value) → Bool
  | [] => true
  | (i, v) :: rest => Nat.blt i pl.length && (Nat.beq v.cells.toList.length (pl.getD i (0, 0)).2 && (Nat.ble ((pl.getD i (0, 0)).1 + v.cells.toList.length) n && okFill pl n rest))
theorem foldl_put (off : Nat) (vs : List Value) : ∀ (cs : Array Value) (i : Nat), (vs.zipIdx i).foldl (fun cs (c, j) => cs.setIfInBounds (off + j) c) cs = (putAt cs.toList (off + i) vs).toArray := by
  induction vs with
  | nil => intro cs i; simp [putAt]
  | cons v vs ih =>
    intro cs i
    simp only [List.zipIdx_cons, List.foldl_cons, putAt]
    rw [ih]
    simp [Nat.add_assoc]
theorem fill_eq (place : Nat → Option (Nat × Nat)) (pl : List (Nat × Nat)) (hpl : ∀ i, i < pl.length → place i = some (pl.getD i (0, 0))) : ∀ (pv : List (Nat × Value)) (cs : List Value), okFill pl cs.length pv = true → Instr.fill place cs.toArray pv = some (fillL pl cs pv).toArray := by
  intro pv
  induction pv with
  | nil => intro cs _; rfl
  | cons p pv ih =>
    intro cs h
    obtain ⟨i, v⟩ := p
    simp only [okFill, Bool.and_eq_true, Nat.blt_eq, Nat.beq_eq, Nat.ble_eq] at h
    obtain ⟨h1, h2, h3, h4⟩ := h
    simp only [Instr.fill, hpl i h1]
    generalize hq : pl.getD i (0, 0) = q at h2 h3 ⊢
    have e1 : v.cells.size = q.2 := by rw [← h2]; simp
    have e2 : ¬ ((decide (v.cells.size ≠ q.2) || decide (q.1 + v.cells.size > cs.toArray.size)) = true) := by
      simp only [e1, ne_eq, not_true_eq_false, decide_false, Bool.false_or, decide_eq_true_eq, List.size_toArray]
      rw [← h2]; omega
    rw [if_neg e2]
    have e3 : v.cells.zipIdx.foldl (fun cs (c, j) => cs.setIfInBounds (q.1 + j) c) cs.toArray = (putAt cs q.1 v.cells.toList).toArray := by
      have := foldl_put q.1 v.cells.toList cs.toArray 0
      simp only [Nat.add_zero] at this
      rw [← this, ← Array.toList_zipIdx, Array.foldl_toList]
    rw [e3]
    simp only [fillL, hq]
    exact ih _ (by rw [putAt_length]; exact h4)
theorem bd_of {P : Program} {w : World} {t : TypeId} {d : TypeDesc} {zs : List Value} {by' : Nat} [T : Ty P t d zs by'] {pl : List (Nat × Nat)} (hp : placesOf P t = some pl) {pv : List (Nat × Value)} {vs : List Value}
    (hok : okFill pl zs.length pv = true) (hvs : fillL pl zs pv = vs) : (Instr.build t pv.toArray).run P w = .ok (.agg vs.toArray) w := by
  have hf : Instr.fill (pl.toArray[·]?) zs.toArray pv = some vs.toArray := by
    rw [← hvs]
    exact fill_eq _ pl (fun i hi => by simp [hi]) pv zs hok
  unfold placesOf at hp
  rw [T.und] at hp
  split at hp
  · rename_i fs hu
    simp only [Option.some.injEq] at hu
    subst hu
    split at hp
    · rename_i hall
      simp only [Option.some.injEq] at hp
      have : fs = fs.toList.toArray := by simp
      rw [this] at T
      exact run_build (T := T) hp hall hf
    · cases hp
  · cases hp

variable {tb : List Blk} {w0 w w' : World} {M : List Nat} {L : List Blk} {R : List Row}
theorem Own.rd {a : Option Addr} {vals : List Value} [hr : Reads R a vals] (h : Own tb w0 M L R w) : RowOk w [] ⟨a, vals⟩ := (h.rows _ hr.mem).weak
/-- A result in new memory. -/
def Res (w w' : World) (a : Option Addr) (c sz : Nat) (vals : List Value) (E : TypeId) : Prop :=
  ∃ G, Grown a c sz vals E G ∧ ∀ e ∈ G, w.heap.size ≤ e.key ∧ w'.heap[e.key]? = some (.cells e.cells.toArray e.ty (0, 0))
theorem Res.nil {c sz : Nat} {E : TypeId} (hc : c = 0) : Res w w' none c sz [] E := ⟨[], .inl ⟨rfl, hc, rfl, rfl⟩, by simp⟩
theorem Res.row {a : Option Addr} {c sz : Nat} {vals : List Value} {E : TypeId} (h : Res w w' a c sz vals E) : RowOk w' [] ⟨a, vals⟩ := by
  obtain ⟨G, hG, hg⟩ := h
  rcases hG with ⟨rfl, _, rfl, _⟩ | ⟨b, sp, rfl, rfl, _⟩
  · exact .nil fun p hp => by cases hp
  · have hb := (hg _ (List.mem_singleton.2 rfl)).2
    refine ⟨fun p hp => ?_, fun _ => rfl, fun i v hv => ?_⟩
    · simp only [Option.some.injEq] at hp; subst hp; exact ⟨rfl, fun _ => by simp⟩
    · show w'.cell? ⟨b, 0 + i, none⟩ = some v
      rw [Nat.zero_add, cellB hb, List.getElem?_append_left (List.getElem?_eq_some_iff.1 hv).1]
      exact hv
theorem Res.fresh {a : Option Addr} {c sz : Nat} {vals : List Value} {E : TypeId} (h : Res w w' a c sz vals E) : ∀ p, a = some p → w.heap.size ≤ p.block := by
  obtain ⟨G, hG, hg⟩ := h
  rcases hG with ⟨rfl, _, _, _⟩ | ⟨b, sp, rfl, rfl, _⟩
  · intro p hp; cases hp
  · intro p hp; simp only [Option.some.injEq] at hp; subst hp; exact (hg _ (List.mem_singleton.2 rfl)).1
theorem Res.mono {w1 : World} {a : Option Addr} {c sz : Nat} {vals : List Value} {E : TypeId} (h : Res w w' a c sz vals E) (hs : w1.heap.size ≤ w.heap.size) : Res w1 w' a c sz vals E := by
  obtain ⟨G, hG, hg⟩ := h
  exact ⟨G, hG, fun e he => ⟨Nat.le_trans hs (hg e he).1, (hg e he).2⟩⟩
theorem Res.fr {w2 : World} {a : Option Addr} {c sz : Nat} {vals : List Value} {E : TypeId} (h : Res w w' a c sz vals E) (hf : FrX [] w' w2) : Res w w2 a c sz vals E := by
  obtain ⟨G, hG, hg⟩ := h
  exact ⟨G, hG, fun e he => ⟨(hg e he).1, by rw [hf.block _ (lt_of_get (hg e he).2) (by simp)]; exact (hg e he).2⟩⟩
/-- The caller reads it. -/
theorem Own.res {a : Option Addr} {c sz : Nat} {vals : List Value} {E : TypeId} (h : Own tb w0 M L R w) (hf : FrX [] w w') (hr : Res w w' a c sz vals E) : Own tb w0 M L (⟨a, vals⟩ :: R) w' :=
  h.fresh hf hr.row (fun p hp _ => hr.fresh p hp)
/-- The caller has it. -/
theorem Own.resL {a : Option Addr} {c sz : Nat} {vals : List Value} {E : TypeId} (h : Own tb w0 M L R w) (hf : FrX [] w w') (hr : Res w w' a c sz vals E) : ∃ G, Grown a c sz vals E G ∧ Own tb w0 M (G ++ L) R w' := by
  obtain ⟨G, hG, hg⟩ := hr
  refine ⟨G, hG, ?_⟩
  rcases hG with ⟨_, _, _, rfl⟩ | ⟨b, sp, _, rfl, _⟩
  · exact h.call hf
  · obtain ⟨h1, h2⟩ := hg _ (List.mem_singleton.2 rfl)
    simp only at h1 h2
    refine (h.call hf).take h2 (fun hk => ?_) (Nat.le_trans h.fr.size h1) (fun r hr p hp hv e => ?_) (fun e he ek => ?_)
    · have := h.lt' hk; omega
    · have := (h.rows r hr).block_lt hp hv; omega
    · have := (h.tabs e he).2.1; omega
/-- What the call has made is a result. -/
theorem Own.give {a : Option Addr} {c sz : Nat} {vals : List Value} {E : TypeId} {G : List Blk} (h : Own tb w0 [] (G ++ L) R w) (hG : Grown a c sz vals E G) : Res w0 w a c sz vals E :=
  ⟨G, hG, fun e he => ⟨(h.own e (List.mem_append_left _ he)).resolve_left (by simp), h.cells e (List.mem_append_left _ he)⟩⟩
/-- A block that is no more written is read. -/
theorem Own.freeze {b : Nat} {cs : List Value} {T : TypeId} (h : Own tb w0 M (⟨b, cs, T⟩ :: L) R w) : Own tb w0 M L (⟨some ⟨b, 0, none⟩, cs⟩ :: R) w := by
  have hnd := h.nodup
  simp only [keys, List.map_cons, List.nodup_cons] at hnd
  refine h.drop1.row ⟨fun p hp => ?_, fun _ => rfl, fun i v hv => ?_⟩
  · simp only [Option.some.injEq] at hp; subst hp; exact ⟨rfl, fun _ => hnd.1⟩
  · show w.cell? ⟨b, 0 + i, none⟩ = some v
    rw [Nat.zero_add, cellB (h.cells _ (List.mem_cons_self ..))]; exact hv
theorem RowOk.pre' {ks : List Nat} {a : Option Addr} {vals vals' : List Value} (h : RowOk w ks ⟨a, vals⟩) (hp : vals' <+: vals) : RowOk w ks ⟨a, vals'⟩ := by
  have hne : vals' ≠ [] → vals ≠ [] := fun h1 h2 => h1 (by rw [h2] at hp; exact List.prefix_nil.1 hp)
  refine ⟨fun p hq => ⟨(h.1 p hq).1, fun hv => (h.1 p hq).2 (hne hv)⟩, fun hv => h.2.1 (hne hv), fun i v hv => h.2.2 i v ?_⟩
  obtain ⟨t, rfl⟩ := hp
  rw [List.getElem?_append_left (List.getElem?_eq_some_iff.1 hv).1]; exact hv
theorem Own.take' {a : Option Addr} {vals vals' : List Value} (h : Own tb w0 M L R w) (hr : Reads R a vals) (hp : vals' <+: vals) : Own tb w0 M L (⟨a, vals'⟩ :: R) w := h.row ((h.rows _ hr.mem).pre' hp)
theorem Own.cut' {a : Option Addr} {vals : List Value} (h : Own tb w0 M L R w) (hr : Reads R a vals) {l c lo sz : Nat} (hl : vals.length = l * sz) (hc : l ≤ c) (hlo : lo ≤ l) : Own tb w0 M L (⟨cutA a c lo sz, vals.drop (lo * sz)⟩ :: R) w := h.row ((h.rows _ hr.mem).cut hl hc hlo)

theorem okFill_lt {pl : List (Nat × Nat)} {n : Nat} : ∀ {pv : List (Nat × Value)}, okFill pl n pv = true → ∀ p ∈ pv, p.1 < pl.length := by
  intro pv
  induction pv with
  | nil => intro _ p hp; cases hp
  | cons q pv ih =>
    intro h p hp
    obtain ⟨i, v⟩ := q
    simp only [okFill, Bool.and_eq_true, Nat.blt_eq] at h
    rcases List.mem_cons.1 hp with rfl | hp
    · exact h.1
    · exact ih h.2.2.2 p hp
theorem fill_congr (f g : Nat → Option (Nat × Nat)) : ∀ (pv : List (Nat × Value)) (cs : Array Value), (∀ p ∈ pv, f p.1 = g p.1) → Instr.fill f cs pv = Instr.fill g cs pv := by
  intro pv
  induction pv with
  | nil => intro cs _; rfl
  | cons q pv ih =>
    intro cs h
    obtain ⟨i, v⟩ := q
    have h1 := h (i, v) (List.mem_cons_self ..)
    simp only at h1
    simp only [Instr.fill, h1]
    split
    · rfl
    · split
      · rfl
      · exact ih _ (fun p hp => h p (List.mem_cons_of_mem _ hp))
/-- A slice put together of single elements. -/
theorem WPL.bs1 {P : Program} {n : Nat} {σ : Env} {ds : List Deferred} {ops : Array Oper} {rest : List Oper} {k : Env → List Deferred → World → Prop} {d : Nat} {ty : TypeId} {pos : String} {af : Array Edge} {t : TypeId}
    {E : TypeId} {z ze : List Value} {by' be m : Nat} {DE : TypeDesc} {parts : List (Nat × Operand)} {pv : List (Nat × Value)} {vs : List Value} [T : Ty P t (.slice E) z by'] [TE : Ty P E DE ze be]
    (hp : parts.map (fun p => (p.1, ev σ p.2)) = pv) (hO : Own tb w0 M L R w) (hm : Nat.ble (m * ze.length) 16777216 = true) (hok : okFill ((List.range m).map fun i => (i * ze.length, ze.length)) (m * ze.length) pv = true)
    (hvs : fillL ((List.range m).map fun i => (i * ze.length, ze.length)) (List.replicate m ze).flatten pv = vs) (hd : Nat.blt d n = true)
    (h : ∀ b w, Own tb w0 M (⟨b, vs, E⟩ :: L) R w → WPL P n ops rest k (upd σ d (.slice (some ⟨b, 0, none⟩) m m)) ds w) : WPL P n ops (⟨some d, .buildSlice t m parts.toArray, ty, pos, af, none⟩ :: rest) k σ ds w := by
  have hlen : (List.replicate m ze).flatten.length = m * ze.length := by simp
  have h0 : (Array.range (m * ze.length)).map (ze.toArray[· % ze.toArray.size]!) = (List.replicate m ze).flatten.toArray := by
    obtain ⟨i, z', h1, h2, h3, h4, h5⟩ := TE.info
    have := made_cells h3 m
    rw [h3] at this
    exact this
  refine WPL.bsl hp hO (by simpa using hm) ?_ hd h
  rw [h0, ← hvs]
  have e := fill_eq (fun i => if i < m then some (i * ze.length, ze.length) else none) ((List.range m).map fun i => (i * ze.length, ze.length)) (fun i hi => by
    have hi' : i < m := by simpa using hi
    simp [hi', List.getD_eq_getElem?_getD]) pv (List.replicate m ze).flatten (by rw [hlen]; exact hok)
  rw [← e]
  exact fill_congr _ _ _ _ (fun p hp => by
    have := okFill_lt hok p hp
    simp only [List.length_map, List.length_range] at this
    simp [this])
/-! Words. -/
def ws (kk : IntKind) (l : List Nat) : List Value := l.map fun x : Nat => Value.int kk (x : Int)
@[simp] theorem ws_length (kk : IntKind) (l : List Nat) : (ws kk l).length = l.length := by simp [ws]
theorem ws_get {kk : IntKind} {l : List Nat} {i : Nat} (h : i < l.length) : (ws kk l)[i]? = some (.int kk ((l.getD i 0 : Nat) : Int)) := by simp [ws, h, List.getD_eq_getElem?_getD]
theorem ws_get1 {kk : IntKind} {l : List Nat} {i m : Nat} (hm : m = 1) (h : i < l.length) : (ws kk l)[i * m]? = some (.int kk ((l.getD i 0 : Nat) : Int)) := by subst hm; rw [Nat.mul_one]; exact ws_get h
theorem ws_set (kk : IntKind) (l : List Nat) (i x : Nat) : (ws kk l).set i (.int kk (x : Int)) = ws kk (l.set i x) := by simp [ws, List.map_set]
theorem ws_append (kk : IntKind) (a b : List Nat) : ws kk (a ++ b) = ws kk a ++ ws kk b := by simp [ws]
theorem ws_drop (kk : IntKind) (a : List Nat) (k : Nat) : ws kk (a.drop k) = (ws kk a).drop k := by simp [ws]
theorem ws_take (kk : IntKind) (a : List Nat) (k : Nat) : ws kk (a.take k) = (ws kk a).take k := by simp [ws]
theorem ws_zeros (kk : IntKind) (c : Nat) : (List.replicate c [Value.int kk 0]).flatten = ws kk (List.replicate c 0) := by
  induction c with
  | zero => rfl
  | succ c ih => rw [List.replicate_succ, List.flatten_cons, ih]; rfl
theorem ws_one (kk : IntKind) (l : List Nat) : ∀ v ∈ ws kk l, v.oneCell' = true := by
  intro v hv; obtain ⟨x, _, rfl⟩ := List.mem_map.1 hv; rfl
section
variable {P : Program} {n : Nat} {σ : Env} {ds : List Deferred} {ops : Array Oper} {rest : List Oper} {k : Env → List Deferred → World → Prop} {L' : List Blk} {d : Nat} {ty : TypeId} {pos : String} {af : Array Edge} {x y : Operand} {t : TypeId}
theorem WPL.ldW {D : TypeDesc} {zs : List Value} {o : List Nat} {by' b j m : Nat} {kk : IntKind} {T' : TypeId} [T : Ty P t D zs by'] (hx : ev σ x = .pointer (some ⟨b, 0 + j * m, none⟩)) (hm : m = 1) (hO : Own tb w0 M L R w) (hl : Look L b (ws kk o) T') (hlt : j < o.length)
    (hD : TypeDesc.agg D = false) (hd : Nat.blt d n = true) (h : WPL P n ops rest k (upd σ d (.int kk ((o.getD j 0 : Nat) : Int))) ds w) : WPL P n ops (⟨some d, .load t x, ty, pos, af, none⟩ :: rest) k σ ds w :=
  WPL.ldL hx hO hl (by rw [Nat.zero_add]; exact ws_get1 hm hlt) hD hd h
theorem WPL.stW {D : TypeDesc} {zs : List Value} {o : List Nat} {by' b j m v : Nat} {kk : IntKind} {T' : TypeId} [T : Ty P t D zs by'] (hx : ev σ x = .pointer (some ⟨b, 0 + j * m, none⟩)) (hm : m = 1) (hy : ev σ y = .int kk (v : Int)) (hO : Own tb w0 M L R w) (hl : Look L b (ws kk o) T') (ht : Turn L b (ws kk (o.set j v)) L')
    (hn : zs.length = 1) (hlt : j < o.length) (h : ∀ w, Own tb w0 M L' R w → WPL P n ops rest k σ ds w) : WPL P n ops (⟨none, .store t x y, ty, pos, af, none⟩ :: rest) k σ ds w := by
  subst hm
  rw [Nat.zero_add, Nat.mul_one] at hx
  exact WPL.stL (v := .int kk (v : Int)) hx hy hO hl (by rw [ws_set]; exact ht) rfl hn (by simpa [Nat.blt_eq] using hlt) h
theorem WPL.mkW {E : TypeId} {z : List Value} {by' be l c : Nat} {kl kc kk : IntKind} {li ci : Int} {DE : TypeDesc} [T : Ty P t (.slice E) z by'] [TE : Ty P E DE [.int kk 0] be]
    (hx : ev σ x = .int kl li) (hy : ev σ y = .int kc ci) (hl : li = (l : Int)) (hc : ci = (c : Int)) (hO : Own tb w0 M L R w) (hlc : l ≤ c) (hb : c * be ≤ 281474976710656) (hc63 : c ≤ 9223372036854775807) (hd : Nat.blt d n = true)
    (h : ∀ b w, Own tb w0 M (⟨b, ws kk (List.replicate c 0), E⟩ :: L) R w → WPL P n ops rest k (upd σ d (.slice (some ⟨b, 0, none⟩) l c)) ds w) : WPL P n ops (⟨some d, .makeSlice t x y, ty, pos, af, none⟩ :: rest) k σ ds w :=
  WPL.mks hx hy hl hc hO hlc hb hc63 hd (fun b w hO => h b w (by rw [ws_zeros] at hO; exact hO))
end
theorem sub32_bits {x y c : Nat} (hx : x < 4294967296) (hy : y < 4294967296) (hc : c ≤ 1) :
    pack [Value.int .u32 (((((x + 4294967296 - y) % 4294967296) + 4294967296 - c) % 4294967296 : Nat) : Int), .int .u32 ((((4294967295 - x) &&& y ||| ((4294967295 - (x ^^^ y)) &&& ((((x + 4294967296 - y) % 4294967296) + 4294967296 - c) % 4294967296))) / 2 ^ 31 : Nat) : Int)] =
    .tuple #[.int .u32 (((x + 4294967296 - y - c + 4294967296) % 4294967296 : Nat) : Int), .int .u32 (((if x < y + c then 1 else 0 : Nat)) : Int)] := by
  have e : (((x + 4294967296 - y) % 4294967296) + 4294967296 - c) % 4294967296 = (x + 4294967296 - y - c + 4294967296) % 4294967296 := by omega
  rw [e, sub32_core hx hy hc]
  rfl
/-! Two ways on. -/
section
variable {P : Program} {n : Nat} {σ : Env} {ds : List Deferred} {ops : Array Oper} {l : List Oper} {k : Env → List Deferred → World → Prop} {rest : List Oper} {d : Nat} {ty : TypeId} {pos : String} {af : Array Edge} {x y z : Operand}
theorem WPL.split {s : Nat} {b : Bool} (_hs : σ s = .bool b) (ht : b = true → WPL P n ops l k σ ds w) (hf : b = false → WPL P n ops l k σ ds w) : WPL P n ops l k σ ds w := by
  cases b
  · exact hf rfl
  · exact ht rfl
theorem WPD.split {KK : List Nat} {S : World → Prop} {plan : List (Nat × Nat)} {listed : Array Bool} {s : Nat} {b : Bool} (_hs : σ s = .bool b) (ht : b = true → WPD P n ops KK S plan listed k σ ds w) (hf : b = false → WPD P n ops KK S plan listed k σ ds w) : WPD P n ops KK S plan listed k σ ds w := by
  cases b
  · exact hf rfl
  · exact ht rfl
theorem WPL.pkT {b : Bool} {v : Value} (hc : ev σ z = .bool b) (hb : b = true) (hx : ev σ x = v) (hd : Nat.blt d n = true) (h : WPL P n ops rest k (upd σ d v) ds w) :
    WPL P n ops (⟨some d, .pick z x y, ty, pos, af, none⟩ :: rest) k σ ds w := WPL.pickT (by rw [hc, hb]) hx hd h
theorem WPL.pkF {b : Bool} {v : Value} (hc : ev σ z = .bool b) (hb : b = false) (hy : ev σ y = v) (hd : Nat.blt d n = true) (h : WPL P n ops rest k (upd σ d v) ds w) :
    WPL P n ops (⟨some d, .pick z x y, ty, pos, af, none⟩ :: rest) k σ ds w := WPL.pickF (by rw [hc, hb]) hy hd h
theorem WP.cT {K : Post} {c : Operand} {cx cy : Code} {b : Bool} (hc : ev σ c = .bool b) (hb : b = true) (h : WP P n cx K σ ds w) : WP P n (.cond c cx cy) K σ ds w := WP.condT (by rw [hc, hb]) h
theorem WP.cF {K : Post} {c : Operand} {cx cy : Code} {b : Bool} (hc : ev σ c = .bool b) (hb : b = false) (h : WP P n cy K σ ds w) : WP P n (.cond c cx cy) K σ ds w := WP.condF (by rw [hc, hb]) h
end
/-- A new block that a call has handed back. -/
def FreshB (w w' : World) (b : Nat) (cs : List Value) (T : TypeId) : Prop := w.heap.size ≤ b ∧ w'.heap[b]? = some (.cells cs.toArray T (0, 0))
theorem Own.takeB (h : Own tb w0 M L R w) (hf : FrX [] w w') {b : Nat} {cs : List Value} {T : TypeId} (hb : FreshB w w' b cs T) : Own tb w0 M (⟨b, cs, T⟩ :: L) R w' := by
  refine (h.call hf).take hb.2 (fun hk => ?_) (Nat.le_trans h.fr.size hb.1) (fun r hr p hp hv e => ?_) (fun e he ek => ?_)
  · have := h.lt' hk; have := hb.1; omega
  · have := (h.rows r hr).block_lt hp hv; have := hb.1; omega
  · have := (h.tabs e he).2.1; have := hb.1; omega
theorem Own.giveB {b : Nat} {cs : List Value} {T : TypeId} (h : Own tb w0 [] L R w) (hl : Look L b cs T) : FreshB w0 w b cs T := ⟨(h.own _ hl.mem).resolve_left (by simp), h.cells _ hl.mem⟩
theorem Own.give1 {b c sz : Nat} {cs vals sp : List Value} {T : TypeId} (h : Own tb w0 [] L R w) (hl : Look L b cs T) (e : cs = vals ++ sp) (hc : c * sz ≤ cs.length) : Res w0 w (some ⟨b, 0, none⟩) c sz vals T :=
  ⟨[⟨b, cs, T⟩], .inr ⟨b, sp, rfl, by rw [e], by rw [← e]; exact hc⟩, fun x hx => by obtain rfl := List.mem_singleton.1 hx; exact h.giveB hl⟩
theorem Own.rdL (h : Own tb w0 M L R w) {b : Nat} {cs vals sp : List Value} {T : TypeId} (hl : Look L b cs T) (e : cs = vals ++ sp) : RowOk w [] ⟨some ⟨b, 0, none⟩, vals⟩ :=
  h.rowL hl (off := 0) (fun i v hv => by rw [Nat.zero_add, e, List.getElem?_append_left (List.getElem?_eq_some_iff.1 hv).1]; exact hv)
theorem Own.rdA (h : Own tb w0 M L R w) {b : Nat} {cs : List Value} {T : TypeId} (hl : Look L b cs T) : RowOk w [] ⟨some ⟨b, 0, none⟩, cs⟩ := h.rdL hl (List.append_nil cs).symm
/-- A number in new memory. -/
def NatRes (w w' : World) (T : TypeId) (n : Nat) (v : Value) : Prop := ∃ a c, v = .slice a (dig n).length c ∧ (dig n).length ≤ c ∧ Res w w' a c 1 (ws .u32 (dig n)) T
theorem NatRes.nil {T : TypeId} : NatRes w w' T 0 (.slice none 0 0) := ⟨none, 0, by rw [dig_zero]; rfl, by rw [dig_zero]; simp, by rw [dig_zero]; exact Res.nil rfl⟩
theorem ws_dig {l : List Nat} (hw : Wd l) (kk : IntKind) : ∃ sp, ws kk l = ws kk (dig (val l)) ++ sp := by
  obtain ⟨k, hk⟩ := dig_prefix hw
  exact ⟨ws kk (List.replicate k 0), by rw [← ws_append, ← hk]⟩
/-! Results. -/
theorem RO.nil {P : Program} {σ : Env} {Q : List Value → Prop} (h : Q []) : ResOK P σ w [] Q := h
theorem RO.tmp {P : Program} {σ : Env} {Q : List Value → Prop} {t : Nat} {rs : List ResultVar} {v : Value} (hv : σ t = v) (h : ResOK P σ w rs fun vs => Q (v :: vs)) : ResOK P σ w (.tmp t :: rs) Q := by
  subst hv; exact h
theorem RO.cell {P : Program} {σ : Env} {Q : List Value → Prop} {t a b off : Nat} {T' : TypeId} {D : TypeDesc} {zs cs : List Value} {by' : Nat} {rs : List ResultVar} (vs : List Value) [T : Ty P t D zs by'] (hx : σ a = .pointer (some ⟨b, off, none⟩)) (hO : Own tb w0 M L R w) (hl : Look L b cs T')
    (hv : (cs.drop off).take vs.length = vs) (hD : TypeDesc.agg D = true) (hn : vs.length = zs.length) (h : ResOK P σ w rs fun us => Q (.agg vs.toArray :: us)) : ResOK P σ w (.cell a t :: rs) Q := by
  refine ⟨.agg vs.toArray, ⟨_, hx, ?_⟩, h⟩
  exact run_loadVarN (P := P) (t := t) (w := w) (a := ⟨b, off, none⟩) hD hn (fun j v hj => by
    rw [add_addr, hO.cellL hl, ← List.getElem?_drop]
    rw [← hv] at hj
    rw [List.getElem?_take] at hj
    split at hj
    · exact hj
    · simp at hj)
theorem RO.cell1 {P : Program} {σ : Env} {Q : List Value → Prop} {t a b off : Nat} {T' : TypeId} {D : TypeDesc} {zs cs : List Value} {by' : Nat} {rs : List ResultVar} {v : Value} [T : Ty P t D zs by'] (hx : σ a = .pointer (some ⟨b, off, none⟩)) (hO : Own tb w0 M L R w) (hl : Look L b cs T')
    (hv : cs[off]? = some v) (hD : TypeDesc.agg D = false) (h : ResOK P σ w rs fun us => Q (v :: us)) : ResOK P σ w (.cell a t :: rs) Q :=
  ⟨v, ⟨_, hx, run_loadVar1 (P := P) (t := t) hD ((hO.cellL (off := off) hl).trans hv)⟩, h⟩
theorem ws_prefix {kk : IntKind} {l : List Nat} (hw : Wd l) : ws kk (dig (val l)) <+: ws kk l := by
  obtain ⟨k, hk⟩ := dig_prefix hw
  conv => rhs; rw [hk]
  rw [ws_append]
  exact List.prefix_append _ _
/-- A byte of a constant text. -/
def getB (s : ByteArray) (j : Nat) : Nat := ((s.data[j]?).map UInt8.toNat).getD 0
theorem WPL.ixS {P : Program} {n : Nat} {σ : Env} {ds : List Deferred} {ops : Array Oper} {rest : List Oper} {k : Env → List Deferred → World → Prop} {d : Nat} {ty : TypeId} {pos : String} {af : Array Edge} {x y : Operand} {t : TypeId} {z : List Value} {by' : Nat} {s : ByteArray} {kk : IntKind} {i : Int} {j N : Nat} (f : Nat → Nat) [T : Ty P t .string z by']
    (hx : ev σ x = .string s) (hy : ev σ y = .int kk i) (hj : i = (j : Int)) (hlt : j < N) (hN : s.size = N) (hf : ∀ j, j < N → getB s j = f j) (hd : Nat.blt d n = true) (h : WPL P n ops rest k (upd σ d (.int .u8 (f j : Int))) ds w) :
    WPL P n ops (⟨some d, .index t x y, ty, pos, af, none⟩ :: rest) k σ ds w := by
  subst hj
  refine WPL.val hd ?_ h
  have h1 : j < s.data.size := by have : s.data.size = N := hN; omega
  have h2 : s[j]? = some s.data[j] := by
    have : j < s.size := h1
    simp [this]; rfl
  have h3 := hf j hlt
  simp only [getB, Array.getElem?_eq_getElem h1, Option.map_some, Option.getD_some] at h3
  simp [execOp, hx, hy, Instr.index, asIntOf, underlying, T.und, h2, h3]
/-- Which row a call was about: for the reader of the next step. -/
def Named (_ : Option Addr) (_ : List Nat) : Prop := True
theorem Own.takeN {tb : List Blk} {w0 w : World} {M : List Nat} {L : List Blk} {R : List Row} {a : Option Addr} {l : List Nat} (h : Own tb w0 M L R w) (_ : Named a l) (hr : Reads R a (ws .u32 l)) (hw : Wd l) : Own tb w0 M L (⟨a, ws .u32 (dig (val l))⟩ :: R) w :=
  h.take' hr (ws_prefix hw)
/-- A list of words in new memory. -/
def WRes (w w' : World) (T : TypeId) (n k : Nat) (v : Value) : Prop := ∃ a c o, v = .slice a k c ∧ k ≤ c ∧ o.length = k ∧ Wd o ∧ val o = n ∧ Res w w' a c 1 (ws .u32 o) T
theorem Own.giveW {tb : List Blk} {w0 w : World} {L : List Blk} {R : List Row} {b k n : Nat} {o : List Nat} {T : TypeId} (h : Own tb w0 [] L R w) (hl : Look L b (ws .u32 o) T) (ho : o.length = k) (hw : Wd o) (hv : val o = n) :
    WRes w0 w T n k (.slice (some ⟨b, 0, none⟩) k k) :=
  ⟨_, _, o, rfl, Nat.le_refl _, ho, hw, hv, h.give1 (sp := []) hl (by simp) (by simp [ho])⟩
theorem Grown.cutV {a : Option Addr} {c c' sz : Nat} {vals vals' : List Value} {E : TypeId} {G : List Blk} (h : Grown a c sz vals E G) (hp : vals' <+: vals) (hc : c' ≤ c) : Grown a c' sz vals' E G := by
  obtain ⟨t, rfl⟩ := hp
  rcases h with ⟨h1, h2, h3, h4⟩ | ⟨b, sp, h1, h2, h3⟩
  · have : vals' = [] := (List.append_eq_nil_iff.1 h3).1
    exact .inl ⟨h1, by omega, this, h4⟩
  · exact .inr ⟨b, t ++ sp, h1, by rw [h2, List.append_assoc], by rw [← List.append_assoc]; exact Nat.le_trans (Nat.mul_le_mul_right _ hc) h3⟩
theorem Res.cutV {w w' : World} {a : Option Addr} {c c' sz : Nat} {vals vals' : List Value} {E : TypeId} (h : Res w w' a c sz vals E) (hp : vals' <+: vals) (hc : c' ≤ c) : Res w w' a c' sz vals' E := by
  obtain ⟨G, hG, hg⟩ := h
  exact ⟨G, hG.cutV hp hc, hg⟩
/-- A list's number without its noughts. -/
theorem Res.natCut {w w' : World} {a : Option Addr} {c c' n : Nat} {o : List Nat} {T : TypeId} (h : Res w w' a c 1 (ws .u32 o) T) (hw : Wd o) (hv : val o = n) (h1 : (dig n).length ≤ c') (hc : c' ≤ c) : NatRes w w' T n (.slice a (dig n).length c') :=
  ⟨a, c', rfl, h1, h.cutV (by rw [← hv]; exact ws_prefix hw) hc⟩
/-- A number and no error. -/
def NatErr (w w' : World) (T : TypeId) (n : Nat) (v : Value) : Prop := ∃ a c, v = .tuple #[.slice a (dig n).length c, .int .i64 0] ∧ (dig n).length ≤ c ∧ Res w w' a c 1 (ws .u32 (dig n)) T
theorem NatErr.nil {w w' : World} {T : TypeId} {n : Nat} (h : n = 0) : NatErr w w' T n (.tuple #[.slice none 0 0, .int .i64 0]) := by
  subst h; exact ⟨none, 0, by rw [dig_zero]; rfl, by rw [dig_zero]; simp, by rw [dig_zero]; exact Res.nil rfl⟩
end Go.Sw
