/- The law BinsAlike of package steelyardlaw09 answers true for every fold, every list of numbers and every number of shares, and leaves its arguments as they were. Conditions: that math/bits.deBruijn32tab holds, when the call begins, what the text of the program lays (the card ties it to that text); no others. -/
import Derived.Test.YtdaphmoojpbddaaDoorSVX2
import Derived.Test.YtdaphmoojpbddaaDoorCards
import Derived.Test.YtdaphmoojpbddaaDoorTie
import Derived.WalkKit
import Derived.ProofKit
import Derived.OpenShut
import Derived.Deep.DeepHandedRow
import Derived.Deep.Slices
import Derived.Carry
import Derived.Lib.LaidTab
set_option linter.all false
namespace Go.Sw
set_option autoImplicit false
open Go.Proofs Go.RowKit Go.ChangeShapes Go.WideShapes
section
variable {H : Type} {enc : TypeId × Value → H} {P : Program} {W : World} {base : Nat} {sp : Nat → Bool} {held : Bool}
theorem trod_f64 {t : TypeId} {fuel : Nat} {cs : List Value} {x : DataW H × List MemPlace} (ht : P.underlying t = some (.float .f64)) (h : DataW.trod enc P W base sp held fuel t cs = some x) : ∃ b, cs = [.float .f64 b] ∧ b < 18446744073709551616 := by
  cases fuel with
  | zero => simp [DataW.trod] at h
  | succ n =>
    unfold DataW.trod at h
    rw [ht] at h
    split at h <;> simp_all
    rename_i heq
    cases heq
    simp only [Lit.wf, decide_eq_true_eq] at h
    exact h.1.2
theorem open_floats {tS tE : TypeId} (hS : P.underlying tS = some (.slice tE)) (hE : P.underlying tE = some (.float .f64)) (hc : P.cellsOf tE = 1)
    {v : Value} {d : DataW H} {ps : List MemPlace} (hval : Value.okWide P W .any base tS v) (h : DataW.Trod enc P W 0 sp held tS v d ps) :
    ∃ a c, ∃ l : List Nat, v = .slice a l.length c ∧ RowOk W [] ⟨a, fc l⟩ ∧ W64 l := by
  obtain ⟨n, hn⟩ := h
  obtain ⟨a, len, cap, rfl⟩ := okWide_slice hS hval
  rcases Deep.open_slice1 hS hc hn with ⟨h0, _⟩ | ⟨a', len', cap', m, n', V, D, Pl, h0, _, hl, _, hm, _, hx⟩
  · have h0 : [Value.slice a len cap] = [.slice none 0 0] := h0
    simp only [List.cons.injEq, Value.slice.injEq, and_true] at h0
    obtain ⟨rfl, rfl, rfl⟩ := h0
    exact ⟨none, 0, [], rfl, .nil (fun p hp => by cases hp), fun o ho => by cases ho⟩
  · have h0 : [Value.slice a len cap] = [.slice (some a') len' cap'] := h0
    simp only [List.cons.injEq, Value.slice.injEq, and_true] at h0
    obtain ⟨rfl, rfl, rfl⟩ := h0
    have hsp : a'.spot = none := by
      simp only [Value.okWide, hS, Cell.okWide, Cell.ok, World.has] at hval
      exact hval.2.2.2.1
    obtain ⟨b, off, spot⟩ := a'
    simp only at hsp
    subst hsp
    have hlm : len ≤ m := by rw [hm]; split <;> omega
    obtain ⟨F, hFx⟩ := Deep.choose_lt (α := Nat) (n := len) (p := fun i x => x < 18446744073709551616 ∧ W.cell? ((⟨b, off, none⟩ : Addr).add i) = some (.float .f64 x)) (fun i hi => by
      obtain ⟨h1, h2⟩ := hx i (by omega)
      obtain ⟨x, hx1, hx2⟩ := trod_f64 hE h2
      simp only [List.cons.injEq, and_true] at hx1
      exact ⟨x, hx2, by rw [h1, hx1]⟩)
    refine ⟨some ⟨b, off, none⟩, cap, (List.range len).map F, by simp, ⟨fun p hp => ?_, fun _ => rfl, fun q v hq => ?_⟩, ?_⟩
    · simp only [Option.some.injEq] at hp
      subst hp
      exact ⟨rfl, fun _ => by simp⟩
    · have hi : q < len := by
        have := (List.getElem?_eq_some_iff.1 hq).1
        simpa [fc] using this
      have e : (fc ((List.range len).map F))[q]? = some (.float .f64 (F q)) := by simp [fc, hi]
      have h9 : some v = some (Value.float .f64 (F q)) := hq.symm.trans e
      have h2 := (hFx q hi).2
      rw [add_plain] at h2
      rw [Option.some.inj h9]
      exact h2
    · intro o ho
      obtain ⟨i, hi, rfl⟩ := List.mem_map.1 ho
      exact (hFx i (List.mem_range.1 hi)).1
end
end Go.Sw
namespace Go.Proofs.YtdaphmoojpbddaaDoor.BinsAlike
set_option autoImplicit false
open Go.ChangeShapes Go.WideShapes Go.ChangeAt Go.RowKit Go.Sw
theorem own : ownKnob Tryd.prog.godebug = none := by kernel_rfl
theorem gTab : Tryd.prog.globalNamed "math/bits.deBruijn32tab" = some 1 := by kernel_rfl
theorem gTabType : (Tryd.prog.globals[1]?).map (·.type) = some 122 := by kernel_rfl
theorem cells122 : Tryd.prog.cellsOf 122 = 32 := by kernel_rfl
theorem cellsU8 : Tryd.prog.cellsOf 5 = 1 := by kernel_rfl
theorem cells3 : Tryd.prog.cellsOf 3 = 1 := by kernel_rfl
theorem cells26 : Tryd.prog.cellsOf 26 = 1 := by kernel_rfl
theorem laidOut : laidOutB Tryd.prog = true := by kernel_rfl
def zs : List Int := [0, 1, 28, 2, 29, 14, 24, 3, 30, 22, 20, 15, 25, 17, 4, 8, 31, 27, 13, 23, 21, 19, 16, 7, 26, 12, 18, 6, 11, 5, 10, 9]

/-- WHAT THE ROW's LIST GIVES: the table's cells hold its numbers. -/
theorem table {W : World} (h : laidMetH Tryd.prog Rows.binsAlikeRow.laid W) : Lib.TabIs Tryd.prog W "math/bits.deBruijn32tab" .u8 zs :=
  Lib.tabIs_of_head (rest := []) gTab gTabType Tryd.underlying122 Tryd.underlying5 cellsU8 cells122 h
theorem tabOk {W : World} (h : laidMetH Tryd.prog Rows.binsAlikeRow.laid W) : TabOk tabs W := by
  have ht := table h
  have hc : ∀ i, i < 32 → W.cell? ⟨1, i, none⟩ = some (.int .u8 (zs.getD i 0)) := fun i hi => ht.cell gTab i hi
  intro e he
  obtain rfl := List.mem_singleton.1 he
  refine ⟨?_, fun i v hv => ?_⟩
  · have h0 := hc 0 (by decide)
    rcases Nat.lt_or_ge 1 W.heap.size with h1 | h1
    · exact h1
    · simp [World.cell?, Array.getElem?_eq_none h1] at h0
  · have hi : i < 32 := by
      have := (List.getElem?_eq_some_iff.1 hv).1
      simpa [ws, deb] using this
    have h1 := hc i hi
    rw [show v = .int .u8 (zs.getD i 0) by
      have : (ws .u8 deb)[i]? = some (.int .u8 (zs.getD i 0)) := by
        rw [show ws .u8 deb = zs.map (fun z => Value.int .u8 z) from rfl, List.getElem?_map, List.getD_eq_getElem?_getD, List.getElem?_eq_getElem (show i < zs.length from hi)]; rfl
      exact Option.some.inj (hv.symm.trans this)]
    exact h1

set_option maxRecDepth 100000 in
theorem contract (H : Type) (enc : TypeId × Value → H) (W : World) (base : Nat) (args : Array Value) (ds gs : List (DataW H)) (before : List MemPlace)
    (hval : ∀ (j : Nat) t v, Tryd.f3.params[j]? = some t → args[j]? = some v → Value.okWide Tryd.prog W .any base t v)
    (hW : DataW.Whole enc Tryd.prog Tryd.f3.params.toList Rows.binsAlikeSpec.vars false W args.toList ds gs before) (hL : laidMetH Tryd.prog Rows.binsAlikeRow.laid W) :
    Calls Tryd.prog 3 args W fun e W' => ∃ v, e = .returned v ∧ Rows.binsAlikeSpec.post enc Tryd.prog Tryd.f3 false true false false W args v W' := by
  have hW' := hW
  obtain ⟨p, q, hA0, hV, rfl, hfz, hnd⟩ := hW
  have hA : DataW.TrodAll enc Tryd.prog W 0 (fun _ => true) true Tryd.f3.params.toList args.toList ds p := hA0
  rw [Tryd.params3] at hA hval
  obtain ⟨v0, v1, v2, d0, d1, d2, p0, p1, p2, rfl, rfl, rfl, h0, h1, h2⟩ := trodAll_three hA
  obtain ⟨rfl, rfl⟩ := trodVars_none hV
  have hv0 := hval 0 3 v0 rfl rfl
  have hv1 := hval 1 22 v1 rfl rfl
  have hv2 := hval 2 3 v2 rfl rfl
  obtain ⟨fold, rfl, rfl, rfl, wf⟩ := open_int Tryd.underlying3 hv0 h0
  obtain ⟨sh, rfl, rfl, rfl, wf2⟩ := open_int Tryd.underlying3 hv2 h2
  obtain ⟨a, c, l, rfl, hr, hok⟩ := open_floats Tryd.underlying22 Tryd.underlying26 cells26 hv1 h1
  clear hA0 hA
  have walk := law_BinsAlike (w0 := W) (tabOk hL) fold a l c sh hr rfl hok
  refine Calls.mono (show Calls Tryd.prog 3 #[.int .i64 fold, .slice a l.length c, .int .i64 sh] W _ from walk) (fun e W' he => ?_)
  match e, he with
  | .returned v, he =>
    obtain ⟨hf, rfl⟩ := he
    have hb := hf.below
    have hlt : ∀ x ∈ p1, x.block < W.heap.size := fun x hx => by simpa using hW'.lt x (by simp [hx])
    refine ⟨_, rfl, _, _, _, [], _, [], hW', trodAll_mk1 (shut_bool Tryd.underlying4 _), trodAll_mk3 (shut_int Tryd.underlying3 wf) (Below.trod laidOut (by kernel_rfl) (of_decide_eq_true (by kernel_rfl)) h1 hb hlt) (shut_int Tryd.underlying3 wf2), rfl, hb.frame _, fun h => by cases h⟩
/-- A world for the witness: the settled one, the table holding what its initialiser lays. -/
noncomputable def laidWorld (os : Os) : World :=
  { World.holding Tryd.prog os ⟨#[], #[], []⟩ with heap := (World.holding Tryd.prog os ⟨#[], #[], []⟩).heap.modify 1 fun
      | .cells _ t frozen => .cells (zs.map fun z => Value.int .u8 z).toArray t frozen
      | o => o }
theorem laid_met (os : Os) : laidMet Tryd.prog Rows.binsAlikeRow.laid ((laidWorld os).forCall (fun _ _ => 0) ⟨#[], #[.int .i64 1, .slice none 0 0, .int .i64 1], []⟩).memory :=
  laidMet_of_run' 8 (by kernel_rfl) (by kernel_rfl)
theorem reads (os : Os) {H : Type} (enc : TypeId × Value → H) : ∃ places, DataW.whole enc Tryd.prog ((laidWorld os).forCall (fun _ _ => 0) ⟨#[], #[.int .i64 1, .slice none 0 0, .int .i64 1], []⟩).memory Tryd.f3.params.toList Rows.binsAlikeSpec.vars false #[Value.int .i64 1, .slice none 0 0, .int .i64 1].toList 8 = some ([.lit (.int .i64 1), .nil, .lit (.int .i64 1)], [], places) :=
  ⟨[], by kernel_rfl⟩
set_option maxRecDepth 100000 in
theorem lifted (os : Os) (started : os.Started) (H : Type) (enc : TypeId × Value → H) (F : Stop.Interp) :
    ReturnsInHanded {} Tryd.checked os 3 .any ((OpenSpec.ofChange Rows.binsAlikeSpec).preRow enc Tryd.prog Tryd.f3 Rows.binsAlikeRow.domain false Rows.binsAlikeRow.laid) (((OpenSpec.ofChange Rows.binsAlikeSpec).at F).post enc Tryd.prog Tryd.f3 false true false false) := by
  obtain ⟨places, hx⟩ := reads os enc
  refine returnsInHanded_of_row (C := Tryd.checked) (s := OpenSpec.ofChange Rows.binsAlikeSpec) own started (by kernel_rfl) Tryd.func3
    (witness_row_at (enc := enc) (C := Tryd.checked) false (laidWorld os) #[.int .i64 1, .slice none 0 0, .int .i64 1] rfl (by kernel_rfl) (by kernel_rfl) (by kernel_rfl)
      (OpenSpec.preRow_of_cond 8 hx (by kernel_rfl) (fun k hk => by cases hk) (by kernel_rfl) (laid_met os))) ?_
  intro W base args ds gs before hval hW _ _ _ hL _ _
  exact contract H enc W base args ds gs before hval hW hL

theorem said : Rows.BinsAlikeSaid :=
  OpenClaim.holds_of_cond 3 Tryd.f3 rfl rfl rfl rfl rfl rfl rfl ⟨rfl, rfl, rfl, rfl, rfl⟩ rfl rfl rfl rfl rfl (by kernel_rfl) Tryd.func3 (by kernel_rfl)
    (of_decide_eq_true (by kernel_rfl)) (by unfold Func.isWrapper; first | (rw [if_pos (by decide +kernel)]; kernel_rfl) | (rw [if_neg (by decide +kernel)]; exact ⟨rfl, rfl⟩))
    (fun os started H enc _ F => by rw [OpenClaim.pre_eq_preRow]; exact lifted os started H enc F)

theorem plain (f : FuncId) (fn : Func) (hf : Tryd.pinned.checked.prog.funcNamed "steelyard/steelyardlaw09.BinsAlike" = some f) (hfn : Tryd.pinned.checked.prog.funcs[f]? = some fn) :
    false = Tryd.pinned.checked.prog.looks [] ∧ ∀ (j : Nat) t, fn.params[j]? = some t → Tryd.pinned.checked.prog.wantsStandIn t = false := by
  obtain rfl : f = 3 := Option.some.inj ((show Tryd.prog.funcNamed "steelyard/steelyardlaw09.BinsAlike" = some 3 by kernel_rfl).symm.trans hf) |>.symm
  obtain rfl : fn = Tryd.f3 := (Option.some.inj (Tryd.func3.symm.trans hfn)).symm
  refine ⟨by kernel_rfl, fun j t ht => ?_⟩
  rw [Tryd.params3] at ht
  have hm : t ∈ [3, 22, 3] := by simpa using Array.mem_of_getElem? ht
  have hall : ([3, 22, 3].all fun u => !Tryd.prog.wantsStandIn u) = true := by kernel_rfl
  exact (show Tryd.prog.wantsStandIn t = false by simpa using List.all_eq_true.1 hall t hm)

/-- THE CARD. -/
theorem card : Rows.BinsAlikeCardSaid :=
  Claim7.holds_tied_plain_at .later [] _ _ _ _ said (fun _ h => by cases h) (by kernel_rfl) (fun _ h => by cases h) binsAlike_row_tie rfl ⟨rfl, rfl⟩ (by kernel_rfl) rfl plain (by kernel_rfl)
end Go.Proofs.YtdaphmoojpbddaaDoor.BinsAlike
namespace Go.Proofs.YtdaphmoojpbddaaDoor
/-- The card of 'steelyardlaw09.BinsAlike'. -/
theorem binsAlike_card : Rows.BinsAlikeCardSaid := BinsAlike.card
end Go.Proofs.YtdaphmoojpbddaaDoor
