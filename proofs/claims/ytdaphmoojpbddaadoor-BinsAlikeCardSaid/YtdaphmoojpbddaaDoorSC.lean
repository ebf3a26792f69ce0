/- A part of the proof that BinsAlike answers true: steps of the walk, or plain laws that it needs. No conditions of its own. -/
import Derived.Test.YtdaphmoojpbddaaDoorSB
import Derived.Laws.Cells
import Derived.WalkKit
set_option linter.all false
/-! One rule an operation. -/
namespace Go.Sw
set_option autoImplicit false
open Go.RowKit

/-- What the program's table says of a type. -/
class Ty (P : Program) (t : TypeId) (d : outParam TypeDesc) (zs : outParam (List Value)) (bytes : outParam Nat) : Prop where
  und : P.underlying t = some d
  info : ∃ i z, P.info? t = some i ∧ i.zero = some z ∧ z.cells = zs.toArray ∧ i.size = zs.length ∧ i.bytes = bytes
def TypeDesc.agg : TypeDesc → Bool
  | .struct _ => true
  | .array _ _ => true
  | _ => false

variable {P : Program} {n : Nat} {σ : Env} {ds : List Deferred} {ops : Array Oper} {rest : List Oper} {k : Env → List Deferred → World → Prop} {w : World}
  {d : Nat} {ty : TypeId} {pos : String} {af : Array Edge}

/-- The general step: an operation that gives a value. -/
theorem WPL.val {op : Op} {v : Value} {w' : World} (hd : Nat.blt d n = true) (hr : (execOp (ev σ) ⟨some d, op, ty, pos, af, none⟩).run P w = .ok (.value v) w')
    (h : WPL P n ops rest k (upd σ d v) ds w') : WPL P n ops (⟨some d, op, ty, pos, af, none⟩ :: rest) k σ ds w := by
  intro a ha
  unfold wpList
  rw [if_pos (by simp [Region.wanted])]
  left
  unfold Oper.wp
  rw [ha.eval, hr]
  exact h _ (ha.put hd)
/-- One that gives none. -/
theorem WPL.unit {op : Op} {w' : World} (hr : (execOp (ev σ) ⟨none, op, ty, pos, af, none⟩).run P w = .ok .skip w')
    (h : WPL P n ops rest k σ ds w') : WPL P n ops (⟨none, op, ty, pos, af, none⟩ :: rest) k σ ds w := by
  intro a ha
  unfold wpList
  rw [if_pos (by simp [Region.wanted])]
  left
  unfold Oper.wp
  rw [ha.eval, hr]
  exact h _ ha
/-- A value that nobody takes. -/
theorem WPL.val0 {op : Op} {v : Value} {w' : World} (hr : (execOp (ev σ) ⟨none, op, ty, pos, af, none⟩).run P w = .ok (.value v) w')
    (h : WPL P n ops rest k σ ds w') : WPL P n ops (⟨none, op, ty, pos, af, none⟩ :: rest) k σ ds w := by
  intro a ha
  unfold wpList
  rw [if_pos (by simp [Region.wanted])]
  left
  unfold Oper.wp
  rw [ha.eval, hr]
  exact h _ ha
/-- Guards. -/
theorem yielded_of {a : Act} {j s : Nat} {b : Bool} (ha : Rel n σ ds a) (hj : (ops[j]?).bind (·.dst) = some s) (hs : σ s = .bool b) : yielded ops a.tmps j = some b := by
  unfold yielded
  rw [hj]
  have := ha.get s
  rw [hs] at this
  simp only [Option.bind_some]
  cases he : a.tmps[s]? with
  | none => simp [Array.getD_eq_getD_getElem?, he, undef] at this
  | some v => simp only [Array.getD_eq_getD_getElem?, he, Option.getD_some] at this; rw [this]
theorem WPL.guardT {op : Op} {dst : Option Nat} {j s : Nat} {b want : Bool} (hj : (ops[j]?).bind (·.dst) = some s) (hs : σ s = .bool b) (hb : b = want)
    (h : WPL P n ops (⟨dst, op, ty, pos, af, none⟩ :: rest) k σ ds w) : WPL P n ops (⟨dst, op, ty, pos, af, some (j, want)⟩ :: rest) k σ ds w := by
  intro a ha
  have := h a ha
  unfold wpList at this ⊢
  rw [if_pos (by simp [Region.wanted])] at this
  rw [if_pos (by simp [Region.wanted, yielded_of ha hj hs, hb])]
  exact this
theorem WPL.guardF {op : Op} {j s : Nat} {b want : Bool} (hd : Nat.blt d n = true) (hj : (ops[j]?).bind (·.dst) = some s) (hs : σ s = .bool b) (hb : b = !want)
    (h : WPL P n ops rest k (upd σ d undef) ds w) : WPL P n ops (⟨some d, op, ty, pos, af, some (j, want)⟩ :: rest) k σ ds w := by
  intro a ha
  unfold wpList
  rw [if_neg (by simp [Region.wanted, yielded_of ha hj hs, hb])]
  exact h _ (ha.put hd)

section pureops
variable {x y z : Operand}
theorem WPL.mv {v : Value} (hx : ev σ x = v) (hd : Nat.blt d n = true) (h : WPL P n ops rest k (upd σ d v) ds w) :
    WPL P n ops (⟨some d, .move x, ty, pos, af, none⟩ :: rest) k σ ds w := WPL.val hd (by simp [execOp, hx]) h
theorem WPL.as {v : Value} (hx : ev σ x = v) (hd : Nat.blt d n = true) (h : WPL P n ops rest k (upd σ d v) ds w) :
    WPL P n ops (⟨some d, .assign x, ty, pos, af, none⟩ :: rest) k σ ds w := WPL.val hd (by simp [execOp, hx]) h
theorem WPL.pickT {v : Value} (hc : ev σ z = .bool true) (hx : ev σ x = v) (hd : Nat.blt d n = true) (h : WPL P n ops rest k (upd σ d v) ds w) :
    WPL P n ops (⟨some d, .pick z x y, ty, pos, af, none⟩ :: rest) k σ ds w := WPL.val hd (by simp [execOp, hc, hx, asBool]) h
theorem WPL.pickF {v : Value} (hc : ev σ z = .bool false) (hy : ev σ y = v) (hd : Nat.blt d n = true) (h : WPL P n ops rest k (upd σ d v) ds w) :
    WPL P n ops (⟨some d, .pick z x y, ty, pos, af, none⟩ :: rest) k σ ds w := WPL.val hd (by simp [execOp, hc, hy, asBool]) h
theorem WPL.pickB {b b1 b2 : Bool} (hc : ev σ z = .bool b) (hx : ev σ x = .bool b1) (hy : ev σ y = .bool b2) (hd : Nat.blt d n = true) (h : WPL P n ops rest k (upd σ d (.bool (if b = true then b1 else b2))) ds w) :
    WPL P n ops (⟨some d, .pick z x y, ty, pos, af, none⟩ :: rest) k σ ds w := WPL.val hd (by cases b <;> simp [execOp, hc, hx, hy, asBool]) h
theorem WPL.not {b : Bool} (hx : ev σ x = .bool b) (hd : Nat.blt d n = true) (h : WPL P n ops rest k (upd σ d (.bool (!b))) ds w) {t : TypeId} :
    WPL P n ops (⟨some d, .unOp .not t x, ty, pos, af, none⟩ :: rest) k σ ds w := WPL.val hd (by simp [execOp, hx, Op.unary]) h
theorem WPL.ext {vs : Array Value} {i : Nat} {v : Value} (hx : ev σ x = .tuple vs) (hv : vs[i]? = some v) (hd : Nat.blt d n = true) (h : WPL P n ops rest k (upd σ d v) ds w) :
    WPL P n ops (⟨some d, .extract x i, ty, pos, af, none⟩ :: rest) k σ ds w := WPL.val hd (by simp [execOp, hx, Instr.extract, hv]) h
theorem WPL.nc {a : Addr} (hx : ev σ x = .pointer (some a)) (hd : Nat.blt d n = true) (h : WPL P n ops rest k (upd σ d (.pointer (some a))) ds w) :
    WPL P n ops (⟨some d, .nilCheck x, ty, pos, af, none⟩ :: rest) k σ ds w := WPL.val hd (by simp [execOp, hx]) h
theorem WPL.mkf {f : Fn} {fs cs : List Operand} {vf vc : List Value} (hf : fs.map (ev σ) = vf) (hc : cs.map (ev σ) = vc) (hd : Nat.blt d n = true) (h : WPL P n ops rest k (upd σ d (.func f vf.toArray vc.toArray)) ds w) :
    WPL P n ops (⟨some d, .makeFunc f fs.toArray cs.toArray, ty, pos, af, none⟩ :: rest) k σ ds w := WPL.val hd (by simp [execOp, Instr.makeFunc, ← hf, ← hc]) h
theorem WPL.len {a : Option Addr} {l c : Nat} {t E : TypeId} {z : List Value} {b : Nat} [T : Ty P t (.slice E) z b] (hx : ev σ x = .slice a l c) (hd : Nat.blt d n = true)
    (h : WPL P n ops rest k (upd σ d (.int .i64 (l : Int))) ds w) :
    WPL P n ops (⟨some d, .call ⟨.builtin .len, #[x], #[t]⟩, ty, pos, af, none⟩ :: rest) k σ ds w :=
  WPL.val hd (by simp [execOp, resolve, invoke, builtin, Builtin.len_, hx, underlying, T.und, goInt]) h
end pureops
end Go.Sw
