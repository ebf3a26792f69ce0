/- The law BinsPlays of package steelyardlaw09 answers true for every fold and every list of operations, and leaves its arguments as they were. Conditions: that math/bits.deBruijn32tab holds, when the call begins, what the text of the program lays (the card ties it to that text); no others. -/
import Derived.Test.YtdaphmoojpbddaaGreatDoorSZ1
set_option linter.all false
namespace Go.Proofs.YtdaphmoojpbddaaGreatDoor.BinsPlays
set_option autoImplicit false
open Go.ChangeShapes Go.WideShapes Go.ChangeAt Go.RowKit Go.Sw
theorem own : ownKnob Tryz.prog.godebug = none := by kernel_rfl
theorem gTab : Tryz.prog.globalNamed "math/bits.deBruijn32tab" = some 1 := by kernel_rfl
theorem gTabType : (Tryz.prog.globals[1]?).map (·.type) = some 146 := by kernel_rfl
theorem cells146 : Tryz.prog.cellsOf 146 = 32 := by kernel_rfl
theorem cellsU8 : Tryz.prog.cellsOf 5 = 1 := by kernel_rfl
theorem cells3 : Tryz.prog.cellsOf 3 = 1 := by kernel_rfl
theorem cells30 : Tryz.prog.cellsOf 30 = 1 := by kernel_rfl
theorem cells32 : Tryz.prog.cellsOf 32 = 5 := by kernel_rfl
theorem laidOut : laidOutB Tryz.prog = true := by kernel_rfl
def zs : List Int := [0, 1, 28, 2, 29, 14, 24, 3, 30, 22, 20, 15, 25, 17, 4, 8, 31, 27, 13, 23, 21, 19, 16, 7, 26, 12, 18, 6, 11, 5, 10, 9]

/-- WHAT THE ROW's LIST GIVES: the table's cells hold its numbers. -/
theorem table {W : World} (h : laidMetH Tryz.prog Rows.binsPlaysRow.laid W) : Lib.TabIs Tryz.prog W "math/bits.deBruijn32tab" .u8 zs :=
  Lib.tabIs_of_head (rest := []) gTab gTabType Tryz.underlying146 Tryz.underlying5 cellsU8 cells146 h
theorem tabOk {W : World} (h : laidMetH Tryz.prog Rows.binsPlaysRow.laid W) : TabOk tabs W := by
  have ht := table h
  have hc : ∀ i, i < 32 → W.cell? ⟨1, i, none⟩ = some (.int .u8 (zs.getD i 0)) := fun i hi => ht.cell gTab i hi
  intro e he
  obtain rfl := List.mem_singleton.1 he
  refine ⟨?_, fun i v hv => ?_⟩
  · have h0 := hc 0 (by decide)
    rcases Nat.lt_or_ge 1 W.heap.size with h1 | h1
    · exact h1
    · simp [World.cell?, Array.getElem?_eq_none h1] at h0
  · have hi : i < 32 := by
      have := (List.getElem?_eq_some_iff.1 hv).1
      simpa [ws, deb] using this
    have h1 := hc i hi
    rw [show v = .int .u8 (zs.getD i 0) by
      have : (ws .u8 deb)[i]? = some (.int .u8 (zs.getD i 0)) := by
        rw [show ws .u8 deb = zs.map (fun z => Value.int .u8 z) from rfl, List.getElem?_map, List.getD_eq_getElem?_getD, List.getElem?_eq_getElem (show i < zs.length from hi)]; rfl
      exact Option.some.inj (hv.symm.trans this)]
    exact h1

set_option maxRecDepth 100000 in
theorem contract (H : Type) (enc : TypeId × Value → H) (W : World) (base : Nat) (args : Array Value) (ds gs : List (DataW H)) (before : List MemPlace)
    (hval : ∀ (j : Nat) t v, Tryz.f3.params[j]? = some t → args[j]? = some v → Value.okWide Tryz.prog W .any base t v)
    (hW : DataW.Whole enc Tryz.prog Tryz.f3.params.toList Rows.binsPlaysSpec.vars false W args.toList ds gs before) (hL : laidMetH Tryz.prog Rows.binsPlaysRow.laid W) :
    Calls Tryz.prog 3 args W fun e W' => ∃ v, e = .returned v ∧ Rows.binsPlaysSpec.post enc Tryz.prog Tryz.f3 false true false false W args v W' := by
  have hW' := hW
  obtain ⟨p, q, hA0, hV, rfl, hfz, hnd⟩ := hW
  have hA : DataW.TrodAll enc Tryz.prog W 0 (fun _ => true) true Tryz.f3.params.toList args.toList ds p := hA0
  rw [Tryz.params3] at hA hval
  obtain ⟨v0, v1, d0, d1, p0, p1, rfl, rfl, rfl, h0, h1⟩ := trodAll_two hA
  obtain ⟨rfl, rfl⟩ := trodVars_none hV
  have hv0 := hval 0 3 v0 rfl rfl
  have hv1 := hval 1 22 v1 rfl rfl
  obtain ⟨fold, rfl, rfl, rfl, wf⟩ := open_int Tryz.underlying3 hv0 h0
  obtain ⟨a, c, l, rfl, hr, hok⟩ := open_ops Tryz.underlying22 Tryz.underlying32 Tryz.underlying3 Tryz.underlying30 (by kernel_rfl) cells32 cells3 cells30
    (fun i hi => match i, hi with | 0, _ => ⟨_, rfl, rfl, rfl⟩ | 1, _ => ⟨_, rfl, rfl, rfl⟩ | 2, _ => ⟨_, rfl, rfl, rfl⟩ | 3, _ => ⟨_, rfl, rfl, rfl⟩) ⟨_, rfl, rfl, rfl⟩ hv1 h1
  clear hA0 hA
  have walk := law_BinsPlays (w0 := W) (tabOk hL) fold a l c hr rfl hok
  refine Calls.mono (show Calls Tryz.prog 3 #[.int .i64 fold, .slice a l.length c] W _ from walk) (fun e W' he => ?_)
  match e, he with
  | .returned v, he =>
    obtain ⟨hf, rfl⟩ := he
    have hb := hf.below
    have hlt : ∀ x ∈ p1, x.block < W.heap.size := fun x hx => by simpa using hW'.lt x (by simp [hx])
    refine ⟨_, rfl, _, _, _, [], _, [], hW', trodAll_mk1 (shut_bool Tryz.underlying4 _), trodAll_mk2 (shut_int Tryz.underlying3 wf) (Below.trod laidOut (by kernel_rfl) (of_decide_eq_true (by kernel_rfl)) h1 hb hlt), rfl, hb.frame _, fun h => by cases h⟩
/-- A world for the witness: the settled one, the table holding what its initialiser lays. -/
noncomputable def laidWorld (os : Os) : World :=
  { World.holding Tryz.prog os ⟨#[], #[], []⟩ with heap := (World.holding Tryz.prog os ⟨#[], #[], []⟩).heap.modify 1 fun
      | .cells _ t frozen => .cells (zs.map fun z => Value.int .u8 z).toArray t frozen
      | o => o }
theorem laid_met (os : Os) : laidMet Tryz.prog Rows.binsPlaysRow.laid ((laidWorld os).forCall (fun _ _ => 0) ⟨#[], #[.int .i64 1, .slice none 0 0], []⟩).memory :=
  laidMet_of_run' 8 (by kernel_rfl) (by kernel_rfl)
theorem reads (os : Os) {H : Type} (enc : TypeId × Value → H) : ∃ places, DataW.whole enc Tryz.prog ((laidWorld os).forCall (fun _ _ => 0) ⟨#[], #[.int .i64 1, .slice none 0 0], []⟩).memory Tryz.f3.params.toList Rows.binsPlaysSpec.vars false #[Value.int .i64 1, .slice none 0 0].toList 8 = some ([.lit (.int .i64 1), .nil], [], places) :=
  ⟨[], by kernel_rfl⟩
set_option maxRecDepth 100000 in
theorem lifted (os : Os) (started : os.Started) (H : Type) (enc : TypeId × Value → H) (F : Stop.Interp) :
    ReturnsInHanded {} Tryz.checked os 3 .any ((OpenSpec.ofChange Rows.binsPlaysSpec).preRow enc Tryz.prog Tryz.f3 Rows.binsPlaysRow.domain false Rows.binsPlaysRow.laid) (((OpenSpec.ofChange Rows.binsPlaysSpec).at F).post enc Tryz.prog Tryz.f3 false true false false) := by
  obtain ⟨places, hx⟩ := reads os enc
  refine returnsInHanded_of_row (C := Tryz.checked) (s := OpenSpec.ofChange Rows.binsPlaysSpec) own started (by kernel_rfl) Tryz.func3
    (witness_row_at (enc := enc) (C := Tryz.checked) false (laidWorld os) #[.int .i64 1, .slice none 0 0] rfl (by kernel_rfl) (by kernel_rfl) (by kernel_rfl)
      (OpenSpec.preRow_of_cond 8 hx (by kernel_rfl) (fun k hk => by cases hk) (by kernel_rfl) (laid_met os))) ?_
  intro W base args ds gs before hval hW _ _ _ hL _ _
  exact contract H enc W base args ds gs before hval hW hL

theorem said : Rows.BinsPlaysSaid :=
  OpenClaim.holds_of_cond 3 Tryz.f3 rfl rfl rfl rfl rfl rfl rfl ⟨rfl, rfl, rfl, rfl, rfl⟩ rfl rfl rfl rfl rfl (by kernel_rfl) Tryz.func3 (by kernel_rfl)
    (of_decide_eq_true (by kernel_rfl)) (by unfold Func.isWrapper; first | (rw [if_pos (by decide +kernel)]; kernel_rfl) | (rw [if_neg (by decide +kernel)]; exact ⟨rfl, rfl⟩))
    (fun os started H enc _ F => by rw [OpenClaim.pre_eq_preRow]; exact lifted os started H enc F)

theorem plain (f : FuncId) (fn : Func) (hf : Tryz.pinned.checked.prog.funcNamed "steelyard/steelyardlaw09.BinsPlays" = some f) (hfn : Tryz.pinned.checked.prog.funcs[f]? = some fn) :
    false = Tryz.pinned.checked.prog.looks [] ∧ ∀ (j : Nat) t, fn.params[j]? = some t → Tryz.pinned.checked.prog.wantsStandIn t = false := by
  obtain rfl : f = 3 := Option.some.inj ((show Tryz.prog.funcNamed "steelyard/steelyardlaw09.BinsPlays" = some 3 by kernel_rfl).symm.trans hf) |>.symm
  obtain rfl : fn = Tryz.f3 := (Option.some.inj (Tryz.func3.symm.trans hfn)).symm
  refine ⟨by kernel_rfl, fun j t ht => ?_⟩
  rw [Tryz.params3] at ht
  have hm : t ∈ [3, 22] := by simpa using Array.mem_of_getElem? ht
  have hall : ([3, 22].all fun u => !Tryz.prog.wantsStandIn u) = true := by kernel_rfl
  exact (show Tryz.prog.wantsStandIn t = false by simpa using List.all_eq_true.1 hall t hm)

/-- THE CARD. -/
theorem card : Rows.BinsPlaysCardSaid :=
  Claim7.holds_tied_plain_at .later [] _ _ _ _ said (fun _ h => by cases h) (by kernel_rfl) (fun _ h => by cases h) binsPlays_row_tie rfl ⟨rfl, rfl⟩ (by kernel_rfl) rfl plain (by kernel_rfl)
end Go.Proofs.YtdaphmoojpbddaaGreatDoor.BinsPlays
namespace Go.Proofs.YtdaphmoojpbddaaGreatDoor
/-- The card of 'steelyardlaw09.BinsPlays'. -/
theorem binsPlays_card : Rows.BinsPlaysCardSaid := BinsPlays.card
end Go.Proofs.YtdaphmoojpbddaaGreatDoor
