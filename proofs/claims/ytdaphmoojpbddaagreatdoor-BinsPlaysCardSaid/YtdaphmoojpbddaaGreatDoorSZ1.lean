/- A part of the proof that BinsPlays answers true: steps of the walk, or plain laws that it needs. No conditions of its own. -/
import Derived.Test.YtdaphmoojpbddaaGreatDoorSW15
import Derived.Test.YtdaphmoojpbddaaGreatDoorCards
import Derived.Test.YtdaphmoojpbddaaGreatDoorTie
import Derived.WalkKit
import Derived.ProofKit
import Derived.OpenShut
import Derived.Deep.DeepHandedRow
import Derived.Deep.Slices
import Derived.Carry
import Derived.Lib.LaidTab
set_option linter.all false
namespace Go.Sw
set_option autoImplicit false
open Go.Proofs Go.RowKit Go.ChangeShapes Go.WideShapes
theorem opc_inv {l : List OpV} {q : Nat} {v : Value} (h : (opc l)[q]? = some v) : ∃ o, l[q / 5]? = some o ∧ o.cells[q % 5]? = some v := by
  have hq : q < (opc l).length := (List.getElem?_eq_some_iff.1 h).1
  rw [opc_length] at hq
  have hi : q / 5 < l.length := by omega
  have hj : q % 5 < 5 := Nat.mod_lt _ (by decide)
  have ho : l[q / 5]? = some l[q / 5] := List.getElem?_eq_getElem hi
  have hl : l[q / 5].cells.length = 5 := rfl
  have hc : l[q / 5].cells[q % 5]? = some (l[q / 5].cells[q % 5]'(by omega)) := List.getElem?_eq_getElem (by omega)
  refine ⟨_, ho, ?_⟩
  have := opc_get ho (q % 5) _ hc
  rw [show q / 5 * 5 + q % 5 = q by omega, h] at this
  rw [hc, this]
section
variable {H : Type} {enc : TypeId × Value → H} {P : Program} {W : World} {base : Nat} {sp : Nat → Bool} {held : Bool}
theorem trod_f64 {t : TypeId} {fuel : Nat} {cs : List Value} {x : DataW H × List MemPlace} (ht : P.underlying t = some (.float .f64)) (h : DataW.trod enc P W base sp held fuel t cs = some x) : ∃ b, cs = [.float .f64 b] ∧ b < 18446744073709551616 := by
  cases fuel with
  | zero => simp [DataW.trod] at h
  | succ n =>
    unfold DataW.trod at h
    rw [ht] at h
    split at h <;> simp_all
    rename_i heq
    cases heq
    simp only [Lit.wf, decide_eq_true_eq] at h
    exact h.1.2
theorem open_op {tE tI tF : TypeId} {fs : Array Field} (hE : P.underlying tE = some (.struct fs)) (hI : P.underlying tI = some (.int .i64)) (hF : P.underlying tF = some (.float .f64)) (hs : fs.size = 5)
    (hc : P.cellsOf tE = 5) (hcI : P.cellsOf tI = 1) (hcF : P.cellsOf tF = 1) (hfs : ∀ i, i < 4 → ∃ f, fs[i]? = some f ∧ f.type = tI ∧ f.offset = i) (hf4 : ∃ f, fs[4]? = some f ∧ f.type = tF ∧ f.offset = 4)
    {fuel : Nat} {cs : List Value} {x : DataW H × List MemPlace} (h : DataW.trod enc P W base sp held fuel tE cs = some x) : ∃ o : OpV, o.Ok ∧ cs = o.cells := by
  obtain ⟨xs, n, _, _, hlen, hxs, hf⟩ := DataW.trod_struct hE h
  rw [hc] at hlen
  rw [hs] at hxs
  have hi : ∀ i, i < 4 → ∃ k, cs[i]? = some (.int .i64 k) ∧ -9223372036854775808 ≤ k ∧ k ≤ 9223372036854775807 := by
    intro i hi
    obtain ⟨f, hf1, hf2, hf3⟩ := hfs i hi
    have h1 := hf i f hf1
    rw [hf2, hf3, hcI, List.getElem?_eq_getElem (by omega)] at h1
    obtain ⟨k, hk, _, hw⟩ := DataW.trod_int hI h1
    refine ⟨k, ?_, bounds_i64 hw⟩
    have := congrArg (fun l => l[0]?) hk
    simpa [List.getElem?_take, List.getElem?_drop] using this
  obtain ⟨f, hf1, hf2, hf3⟩ := hf4
  have h1 := hf 4 f hf1
  rw [hf2, hf3, hcF, List.getElem?_eq_getElem (by omega)] at h1
  obtain ⟨b, hb, hw⟩ := trod_f64 hF h1
  have hb : cs[4]? = some (.float .f64 b) := by
    have := congrArg (fun l => l[0]?) hb
    simpa [List.getElem?_take, List.getElem?_drop] using this
  obtain ⟨k0, e0, b0⟩ := hi 0 (by omega)
  obtain ⟨k1, e1, b1⟩ := hi 1 (by omega)
  obtain ⟨k2, e2, b2⟩ := hi 2 (by omega)
  obtain ⟨k3, e3, b3⟩ := hi 3 (by omega)
  refine ⟨⟨k0, k1, k2, k3, b⟩, ⟨hw, b1, b2⟩, ?_⟩
  refine List.ext_getElem? (fun i => ?_)
  match i with
  | 0 => exact e0
  | 1 => exact e1
  | 2 => exact e2
  | 3 => exact e3
  | 4 => exact hb
  | i + 5 => rw [List.getElem?_eq_none (by omega)]; rfl
instance : Inhabited OpV := ⟨⟨0, 0, 0, 0, 0⟩⟩
theorem open_ops {tS tE tI tF : TypeId} {fs : Array Field} (hS : P.underlying tS = some (.slice tE)) (hE : P.underlying tE = some (.struct fs)) (hI : P.underlying tI = some (.int .i64)) (hF : P.underlying tF = some (.float .f64)) (hs : fs.size = 5)
    (hc : P.cellsOf tE = 5) (hcI : P.cellsOf tI = 1) (hcF : P.cellsOf tF = 1) (hfs : ∀ i, i < 4 → ∃ f, fs[i]? = some f ∧ f.type = tI ∧ f.offset = i) (hf4 : ∃ f, fs[4]? = some f ∧ f.type = tF ∧ f.offset = 4)
    {v : Value} {d : DataW H} {ps : List MemPlace} (hval : Value.okWide P W .any base tS v) (h : DataW.Trod enc P W 0 sp held tS v d ps) :
    ∃ a c, ∃ l : List OpV, v = .slice a l.length c ∧ RowOk W [] ⟨a, opc l⟩ ∧ ∀ o ∈ l, o.Ok := by
  obtain ⟨n, hn⟩ := h
  obtain ⟨a, len, cap, rfl⟩ := okWide_slice hS hval
  rcases Deep.open_slice hS hn with ⟨h0, _⟩ | ⟨a', len', cap', m, n', D, Pl, h0, _, hl, _, hm, _, hx⟩
  · have h0 : [Value.slice a len cap] = [.slice none 0 0] := h0
    simp only [List.cons.injEq, Value.slice.injEq, and_true] at h0
    obtain ⟨rfl, rfl, rfl⟩ := h0
    exact ⟨none, 0, [], rfl, .nil (fun p hp => by cases hp), fun o ho => by cases ho⟩
  · have h0 : [Value.slice a len cap] = [.slice (some a') len' cap'] := h0
    simp only [List.cons.injEq, Value.slice.injEq, and_true] at h0
    obtain ⟨rfl, rfl, rfl⟩ := h0
    have hsp : a'.spot = none := by
      simp only [Value.okWide, hS, Cell.okWide, Cell.ok, World.has] at hval
      exact hval.2.2.2.1
    obtain ⟨b, off, spot⟩ := a'
    simp only at hsp
    subst hsp
    rw [hc] at hx
    have hlm : len ≤ m := by rw [hm]; split <;> omega
    obtain ⟨F, hFx⟩ := Deep.choose_lt (α := OpV) (n := len) (p := fun i o => o.Ok ∧ W.cells? 0 ((⟨b, off, none⟩ : Addr).add (i * 5)) 5 = some o.cells) (fun i hi => by
      obtain ⟨cs, h1, h2⟩ := hx i (by omega)
      obtain ⟨o, ho, rfl⟩ := open_op hE hI hF hs hc hcI hcF hfs hf4 h2
      exact ⟨o, ho, h1⟩)
    refine ⟨some ⟨b, off, none⟩, cap, (List.range len).map F, by simp, ⟨fun p hp => ?_, fun _ => rfl, fun q v hq => ?_⟩, ?_⟩
    · simp only [Option.some.injEq] at hp
      subst hp
      exact ⟨rfl, fun _ => by simp⟩
    · obtain ⟨o, ho, hoc⟩ := opc_inv hq
      have hi : q / 5 < len := by
        have := (List.getElem?_eq_some_iff.1 ho).1
        simpa using this
      rw [List.getElem?_map, List.getElem?_range hi] at ho
      simp only [Option.map_some, Option.some.injEq] at ho
      subst ho
      have h2 := (World.cells?_some (hFx _ hi).2).2.2 (q % 5) (Nat.mod_lt _ (by decide))
      rw [Deep.add_add, show q / 5 * 5 + q % 5 = q by omega, add_plain, hoc] at h2
      exact h2
    · intro o ho
      obtain ⟨i, hi, rfl⟩ := List.mem_map.1 ho
      exact (hFx i (List.mem_range.1 hi)).1
end
end Go.Sw
