/- A part of the proof that BinsAlike answers true: steps of the walk, or plain laws that it needs. No conditions of its own. -/
import Derived.Test.YtdaphmoojpbddaaDoorSF
import Derived.Deep.AppendSrc
import Derived.Laws.CopyRow
import Derived.Laws.Slices
import Derived.Laws.IdiomCopy
set_option linter.all false
/-! Slices, append, copy, conversions, calls. -/
namespace Go.Sw
set_option autoImplicit false
open Go.RowKit
variable {P : Program} {n : Nat} {σ : Env} {ds : List Deferred} {ops : Array Oper} {rest : List Oper} {k : Env → List Deferred → World → Prop} {w w0 : World}
  {d : Nat} {ty : TypeId} {pos : String} {af : Array Edge} {tb : List Blk} {M : List Nat} {L L' : List Blk} {R : List Row} {x y : Operand} {t : TypeId}

/-- Where a slice that is cut at its begin begins. -/
def cutA (a : Option Addr) (c l sz : Nat) : Option Addr := if c = l then a else a.map (·.add (l * sz))
theorem run_slice3 {E : TypeId} {z ze : List Value} {by' be : Nat} {DE : TypeDesc} [T : Ty P t (.slice E) z by'] [TE : Ty P E DE ze be] {a : Option Addr} {l c lo hi mx : Nat} {vl vh vm : Option Value}
    (hb : (Instr.sliceBounds true l c vl vh vm).run P w = .ok (lo, hi, mx) w) :
    (Instr.sliceAt t (.slice a l c) vl vh vm).run P w = .ok (.slice (if mx = lo then a else a.map (·.add (lo * ze.length))) (hi - lo) (mx - lo)) w := by
  obtain ⟨i, z', h1, h2, h3, h4, h5⟩ := TE.info
  simp only [Instr.sliceAt, Instr.slice, underlying, T.und, Sem.run_bind, run_program, Result.andThen_ok, Sem.run_pure, hb, sizeOf, typeInfo, h1, h4]
theorem run_bound {kk : IntKind} {i y : Nat} {code : BoundsCode} (h : i ≤ y) : (Instr.sliceBound (.int kk (i : Int)) y code).run P w = .ok i w := by
  have : (0 : Int) ≤ (i : Int) ∧ (i : Int) ≤ (y : Int) := by omega
  simp only [Instr.sliceBound, asIntOf, pure_bind, this, and_self, if_true, Sem.run_pure, Int.toNat_natCast]
theorem map_add_zero (a : Option Addr) (s : Nat) : a.map (·.add (0 * s)) = a := by cases a <;> simp [Addr.add]
theorem WPL.slH {E : TypeId} {z ze : List Value} {by' be : Nat} {DE : TypeDesc} [T : Ty P t (.slice E) z by'] [TE : Ty P E DE ze be] {a : Option Addr} {l c h : Nat} {kk : IntKind} {hi : Int}
    (hx : ev σ x = .slice a l c) (hy : ev σ y = .int kk hi) (hh : hi = (h : Int)) (hle : h ≤ c) (hd : Nat.blt d n = true) (hw : WPL P n ops rest k (upd σ d (.slice a h c)) ds w) :
    WPL P n ops (⟨some d, .slice t x none (some y) none, ty, pos, af, none⟩ :: rest) k σ ds w := by
  subst hh
  refine WPL.val hd ?_ hw
  have := run_slice3 (P := P) (w := w) (t := t) (ze := ze) (a := a) (l := l) (c := c) (lo := 0) (hi := h) (mx := c) (vl := none) (vh := some (.int kk (h : Int))) (vm := none) (by
    simp only [Instr.sliceBounds, if_true, Sem.run_bind, Sem.run_pure, Result.andThen_ok, run_bound hle])
  rw [map_add_zero] at this
  simp only [ite_self, Nat.sub_zero] at this
  simp [execOp, hx, hy, this]
theorem WPL.slL {E : TypeId} {z ze : List Value} {by' be : Nat} {DE : TypeDesc} [T : Ty P t (.slice E) z by'] [TE : Ty P E DE ze be] {a : Option Addr} {l c lo : Nat} {kk : IntKind} {hi : Int}
    (hx : ev σ x = .slice a l c) (hy : ev σ y = .int kk hi) (hh : hi = (lo : Int)) (hle : lo ≤ l) (hd : Nat.blt d n = true) (hw : WPL P n ops rest k (upd σ d (.slice (cutA a c lo ze.length) (l - lo) (c - lo))) ds w) :
    WPL P n ops (⟨some d, .slice t x (some y) none none, ty, pos, af, none⟩ :: rest) k σ ds w := by
  subst hh
  refine WPL.val hd ?_ hw
  have := run_slice3 (P := P) (w := w) (t := t) (ze := ze) (a := a) (l := l) (c := c) (lo := lo) (hi := l) (mx := c) (vl := some (.int kk (lo : Int))) (vh := none) (vm := none) (by
    simp only [Instr.sliceBounds, if_true, Sem.run_bind, Sem.run_pure, Result.andThen_ok, run_bound hle, Option.isSome_none, Bool.false_eq_true, if_false])
  simp [execOp, hx, hy, this, cutA]
theorem WPL.slLH {E : TypeId} {z ze : List Value} {by' be : Nat} {DE : TypeDesc} {y2 : Operand} [T : Ty P t (.slice E) z by'] [TE : Ty P E DE ze be] {a : Option Addr} {l c lo h : Nat} {kk kl : IntKind} {li hi : Int}
    (hx : ev σ x = .slice a l c) (hy : ev σ y = .int kl li) (hy2 : ev σ y2 = .int kk hi) (hl : li = (lo : Int)) (hh : hi = (h : Int)) (hle : lo ≤ h) (hlc : h ≤ c) (hd : Nat.blt d n = true) (hw : WPL P n ops rest k (upd σ d (.slice (cutA a c lo ze.length) (h - lo) (c - lo))) ds w) :
    WPL P n ops (⟨some d, .slice t x (some y) (some y2) none, ty, pos, af, none⟩ :: rest) k σ ds w := by
  subst hh hl
  refine WPL.val hd ?_ hw
  have := run_slice3 (P := P) (w := w) (t := t) (ze := ze) (a := a) (l := l) (c := c) (lo := lo) (hi := h) (mx := c) (vl := some (.int kl (lo : Int))) (vh := some (.int kk (h : Int))) (vm := none) (by
    simp only [Instr.sliceBounds, if_true, Sem.run_bind, Sem.run_pure, Result.andThen_ok, run_bound hle, run_bound hlc, Option.isSome_none, Bool.false_eq_true, if_false])
  simp [execOp, hx, hy, hy2, this, cutA]
theorem WPL.slHM {E : TypeId} {z ze : List Value} {by' be : Nat} {DE : TypeDesc} {y2 : Operand} [T : Ty P t (.slice E) z by'] [TE : Ty P E DE ze be] {a : Option Addr} {l c h m : Nat} {kk km : IntKind} {hi mi : Int}
    (hx : ev σ x = .slice a l c) (hy : ev σ y = .int kk hi) (hy2 : ev σ y2 = .int km mi) (hh : hi = (h : Int)) (hm : mi = (m : Int)) (hle : h ≤ m) (hlc : m ≤ c) (hd : Nat.blt d n = true) (hw : WPL P n ops rest k (upd σ d (.slice a h m)) ds w) :
    WPL P n ops (⟨some d, .slice t x none (some y) (some y2), ty, pos, af, none⟩ :: rest) k σ ds w := by
  subst hh hm
  refine WPL.val hd ?_ hw
  have := run_slice3 (P := P) (w := w) (t := t) (ze := ze) (a := a) (l := l) (c := c) (lo := 0) (hi := h) (mx := m) (vl := none) (vh := some (.int kk (h : Int))) (vm := some (.int km (m : Int))) (by
    simp only [Instr.sliceBounds, if_true, Sem.run_bind, Sem.run_pure, Result.andThen_ok, run_bound hle, run_bound hlc])
  rw [map_add_zero] at this
  simp only [ite_self, Nat.sub_zero] at this
  simp [execOp, hx, hy, hy2, this]
/-- A slice of a whole array in memory, from its begin on. -/
theorem WPL.slArr {E : TypeId} {z ze : List Value} {by' be N : Nat} {DE : TypeDesc} [T : Ty P t (.array N E) z by'] [TE : Ty P E DE ze be] {b off h : Nat} {kk : IntKind} {hi : Int}
    (hx : ev σ x = .pointer (some ⟨b, off, none⟩)) (hy : ev σ y = .int kk hi) (hh : hi = (h : Int)) (hle : h ≤ N) (hd : Nat.blt d n = true) (hw : WPL P n ops rest k (upd σ d (.slice (some ⟨b, off, none⟩) h N)) ds w) :
    WPL P n ops (⟨some d, .slice t x none (some y) none, ty, pos, af, none⟩ :: rest) k σ ds w := by
  subst hh
  refine WPL.val hd ?_ hw
  obtain ⟨i, z', h1, h2, h3, h4, h5⟩ := TE.info
  have hb : (Instr.sliceBounds false N N none (some (.int kk (h : Int))) none).run P w = .ok (0, h, N) w := by
    simp only [Instr.sliceBounds, Sem.run_bind, Sem.run_pure, Result.andThen_ok, Bool.false_eq_true, if_false, run_bound hle]
  simp [execOp, hx, hy, Instr.sliceAt, underlying, T.und, Instr.sureAddr, hb, sizeOf, typeInfo, h1, h4, Addr.add]

theorem RowOk.cut {ks : List Nat} {a : Option Addr} {vals : List Value} (h : RowOk w ks ⟨a, vals⟩) {l c lo sz : Nat} (hl : vals.length = l * sz) (hc : l ≤ c) (hlo : lo ≤ l) : RowOk w ks ⟨cutA a c lo sz, vals.drop (lo * sz)⟩ := by
  unfold cutA
  split
  · rename_i e
    have : vals.drop (lo * sz) = [] := by
      rw [List.drop_eq_nil_iff, hl]
      exact Nat.mul_le_mul_right _ (by omega)
    rw [this]
    exact .nil fun p hp => (h.1 p hp).1
  · cases a with
    | none => 
      have he : vals = [] := by
        by_cases e : vals = []
        · exact e
        · have := h.2.1 e; simp at this
      subst he
      simp only [Option.map_none, List.drop_nil]
      exact .nil fun p hp => by simp at hp
    | some p =>
      have hs := (h.1 p rfl).1
      simp only [Option.map_some]
      have ea : p.add (lo * sz) = ⟨p.block, p.off + lo * sz, none⟩ := by
        cases p with
        | mk b o s => simp only at hs; subst hs; exact add_addr _ _ _
      rw [ea]
      refine ⟨fun q hq => ?_, fun _ => rfl, fun i v hv => ?_⟩
      · simp only [Option.some.injEq] at hq
        subst hq
        refine ⟨rfl, fun hne => (h.1 p rfl).2 (fun e => hne (by show List.drop _ vals = []; rw [show vals = [] from e]; simp))⟩
      · have := h.2.2 (lo * sz + i) v (by rw [← List.getElem?_drop]; exact hv)
        simp only [addrOf, Option.getD_some] at this ⊢
        rw [Nat.add_assoc]; exact this

/-! Slices that grow. -/
instance Look.app {G L : List Blk} {b : Nat} {cs : List Value} {T : TypeId} [h : Look L b cs T] : Look (G ++ L) b cs T := ⟨List.mem_append_right _ h.mem⟩
instance Turn.app {G L L' : List Blk} {b : Nat} {cs : List Value} [h : Turn L b cs L'] : Turn (G ++ L) b cs (G ++ L') :=
  ⟨by obtain ⟨A, B, c, T, h1, h2⟩ := h.is; exact ⟨G ++ A, B, c, T, by rw [h1, List.append_assoc], by rw [h2, List.append_assoc]⟩⟩
/-- A slice of the call's own, nil as long as nothing is there: its block is G. -/
def Grown (a : Option Addr) (c sz : Nat) (vals : List Value) (E : TypeId) (G : List Blk) : Prop :=
  (a = none ∧ c = 0 ∧ vals = [] ∧ G = []) ∨ ∃ b sp, a = some ⟨b, 0, none⟩ ∧ G = [⟨b, vals ++ sp, E⟩] ∧ c * sz ≤ (vals ++ sp).length
theorem Own.perm {L1 L2 : List Blk} (h : Own tb w0 M L1 R w) (hp : L1.Perm L2) : Own tb w0 M L2 R w := by
  have hk : (keys L1).Perm (keys L2) := hp.map _
  refine ⟨h.fr, hk.nodup_iff.1 h.nodup, fun e he => h.own e (hp.mem_iff.2 he), fun e he => h.cells e (hp.mem_iff.2 he), ?_, ?_⟩
  · exact fun r hr => (h.rows r hr).mono (fun _ _ _ hm => hk.mem_iff.2 hm) (fun _ _ _ => rfl)
  · exact fun e he => ⟨fun hm => (h.tabs e he).1 (hk.mem_iff.2 hm), (h.tabs e he).2⟩
/-- Blocks may be forgotten. -/
theorem Own.drop {G : List Blk} (h : Own tb w0 M (G ++ L) R w) : Own tb w0 M L R w := by
  have hk : keys (G ++ L) = keys G ++ keys L := by simp [keys]
  refine ⟨h.fr, (List.nodup_append.1 (hk ▸ h.nodup)).2.1, fun e he => h.own e (List.mem_append_right _ he), fun e he => h.cells e (List.mem_append_right _ he), ?_, ?_⟩
  · exact fun r hr => (h.rows r hr).mono (fun _ _ _ hm => by rw [hk]; exact List.mem_append_right _ hm) (fun _ _ _ => rfl)
  · exact fun e he => ⟨fun hm => (h.tabs e he).1 (by rw [hk]; exact List.mem_append_right _ hm), (h.tabs e he).2⟩
theorem Own.drop1 {b : Blk} (h : Own tb w0 M (b :: L) R w) : Own tb w0 M L R w := Own.drop (G := [b]) h
theorem Own.dropR {r : Row} (h : Own tb w0 M L (r :: R) w) : Own tb w0 M L R w := ⟨h.fr, h.nodup, h.own, h.cells, fun x hx => h.rows x (List.mem_cons_of_mem _ hx), h.tabs⟩
theorem putAt_eq : ∀ (vs cs : List Value) (off : Nat), off + vs.length ≤ cs.length → putAt cs off vs = cs.take off ++ vs ++ cs.drop (off + vs.length) := by
  intro vs
  induction vs with
  | nil => intro cs off _; simp [putAt]
  | cons v vs ih =>
    intro cs off h
    have hlt : off < cs.length := by simp at h; omega
    rw [putAt, ih _ _ (by simp at h ⊢; omega)]
    have h1 : (cs.set off v).take (off + 1) = cs.take off ++ [v] := by
      rw [List.take_succ_eq_append_getElem (by simpa using hlt)]
      simp [List.take_set_of_le]
    have h2 : (cs.set off v).drop (off + 1 + vs.length) = cs.drop (off + (v :: vs).length) := by
      rw [List.drop_set_of_lt (by omega)]
      congr 1
      simp; omega
    rw [h1, h2]
    simp
end Go.Sw
