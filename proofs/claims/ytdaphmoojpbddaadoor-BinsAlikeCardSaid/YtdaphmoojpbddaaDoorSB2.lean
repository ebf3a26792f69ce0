/- A part of the proof that BinsAlike answers true: steps of the walk, or plain laws that it needs. No conditions of its own. -/
import Derived.Test.YtdaphmoojpbddaaDoorSI
set_option linter.all false
namespace Go.Sw
set_option autoImplicit false
open Go.RowKit
variable {P : Program} {n : Nat} {σ : Env} {ds : List Deferred} {ops : Array Oper} {rest : List Oper} {k : Env → List Deferred → World → Prop} {w w0 : World}
  {d : Nat} {ty : TypeId} {pos : String} {af : Array Edge} {x y : Operand} {t : TypeId} {u : TypeId}
theorem run_binb {op : BinOp} {a b : Bool} {v : Value} {w' : World} (hx : ev σ x = .bool a) (hy : ev σ y = .bool b)
    (h : (Go.binOp op t (.bool a) (.bool b)).run P w = .ok v w') : (execOp (ev σ) ⟨some d, .binOp op t x y u, ty, pos, af, none⟩).run P w = .ok (.value v) w' := by
  have hg : (eqGuard op t x y (.bool a) (.bool b)).run P w = .ok () w := by
    unfold eqGuard
    cases op <;> simp
  simp only [execOp, hx, hy, bind_assoc, Sem.run_bind, hg, Result.andThen_ok, h]
  rfl
theorem run_eqB {zs : List Value} {by' : Nat} [T : Ty P t .bool zs by'] (a b : Bool) : (Op.equal t (.bool a) (.bool b)).run P w = .ok (a == b) w := by
  show (Op.equalIn (9999 + 1) t (.bool a) (.bool b)).run P w = _
  generalize 9999 = q
  simp [Op.equalIn, underlying, T.und]
theorem WPL.eqB {zs : List Value} {by' : Nat} [T : Ty P t .bool zs by'] {a b : Bool} (hx : ev σ x = .bool a) (hy : ev σ y = .bool b) (hd : Nat.blt d n = true) (h : WPL P n ops rest k (upd σ d (.bool (a == b))) ds w) :
    WPL P n ops (⟨some d, .binOp .eql t x y u, ty, pos, af, none⟩ :: rest) k σ ds w := WPL.val hd (run_binb hx hy (by simp [Go.binOp, run_eqB])) h
theorem WPL.neB {zs : List Value} {by' : Nat} [T : Ty P t .bool zs by'] {a b : Bool} (hx : ev σ x = .bool a) (hy : ev σ y = .bool b) (hd : Nat.blt d n = true) (h : WPL P n ops rest k (upd σ d (.bool (a != b))) ds w) :
    WPL P n ops (⟨some d, .binOp .neq t x y u, ty, pos, af, none⟩ :: rest) k σ ds w := WPL.val hd (run_binb hx hy (by simp [Go.binOp, run_eqB, bne])) h
theorem WPL.guardU {op : Op} {j s : Nat} {want : Bool} (hd : Nat.blt d n = true) (hj : (ops[j]?).bind (·.dst) = some s) (hs : σ s = undef)
    (h : WPL P n ops rest k (upd σ d undef) ds w) : WPL P n ops (⟨some d, op, ty, pos, af, some (j, want)⟩ :: rest) k σ ds w := by
  intro a ha
  unfold wpList
  have hy : yielded ops a.tmps j = none := by
    unfold yielded
    rw [hj]
    have := ha.get s
    rw [hs] at this
    simp only [Option.bind_some]
    cases he : a.tmps[s]? with
    | none => rfl
    | some v =>
      simp only [Array.getD_eq_getD_getElem?, he, Option.getD_some] at this
      rw [this]; rfl
  rw [if_neg (by simp [Region.wanted, hy])]
  exact h _ (ha.put hd)
theorem WPL.subTo {a b : Int} (r : Int) (hx : ev σ x = .int .i64 a) (hy : ev σ y = .int .i64 b) (hr : a - b = r) (hb : -9223372036854775808 ≤ r ∧ r ≤ 9223372036854775807) (hd : Nat.blt d n = true) (h : WPL P n ops rest k (upd σ d (.int .i64 r)) ds w) :
    WPL P n ops (⟨some d, .binOp .sub t x y u, ty, pos, af, none⟩ :: rest) k σ ds w := by subst hr; exact WPL.subI hx hy hb hd h
theorem WPL.addTo {a b : Int} (r : Int) (hx : ev σ x = .int .i64 a) (hy : ev σ y = .int .i64 b) (hr : a + b = r) (hb : -9223372036854775808 ≤ r ∧ r ≤ 9223372036854775807) (hd : Nat.blt d n = true) (h : WPL P n ops rest k (upd σ d (.int .i64 r)) ds w) :
    WPL P n ops (⟨some d, .binOp .add t x y u, ty, pos, af, none⟩ :: rest) k σ ds w := by subst hr; exact WPL.addI hx hy hb hd h
theorem WPL.negTo {a : Int} (r : Int) (hx : ev σ x = .int .i64 a) (hr : -a = r) (hb : -9223372036854775808 ≤ r ∧ r ≤ 9223372036854775807) (hd : Nat.blt d n = true) (h : WPL P n ops rest k (upd σ d (.int .i64 r)) ds w) :
    WPL P n ops (⟨some d, .unOp .neg t x, ty, pos, af, none⟩ :: rest) k σ ds w := by subst hr; exact WPL.negI hx hb hd h
theorem run_and_i64 {a b : Nat} (ha : a < 9223372036854775808) (hb : b < 9223372036854775808) : (Go.binOp .and t (.int .i64 (a : Int)) (.int .i64 (b : Int))).run P w = .ok (.int .i64 ((a &&& b : Nat) : Int)) w := by
  have e : (BitVec.ofInt 64 (a : Int) &&& BitVec.ofInt 64 (b : Int)).toNat = a &&& b := by
    rw [BitVec.toNat_and, BitVec.ofInt_natCast, BitVec.ofInt_natCast, BitVec.toNat_ofNat, BitVec.toNat_ofNat, Nat.mod_eq_of_lt (by omega), Nat.mod_eq_of_lt (by omega)]
  have h : (Go.binOp .and t (.int .i64 (a : Int)) (.int .i64 (b : Int))).run P w = .ok (.int .i64 (IntKind.i64.wrap ((BitVec.ofInt 64 (a : Int) &&& BitVec.ofInt 64 (b : Int)).toNat : Int))) w := by
    simp only [Go.binOp, Op.intBits, ne_eq, not_true_eq_false, if_false]; rfl
  have hl : a &&& b < 2 ^ 63 := Nat.and_lt_two_pow _ hb
  rw [h, e, wrap_i64 (by omega)]
theorem WPL.and_i64 {a b : Nat} (hx : ev σ x = .int .i64 (a : Int)) (hy : ev σ y = .int .i64 (b : Int)) (ha : a < 9223372036854775808) (hb : b < 9223372036854775808) (hd : Nat.blt d n = true) (h : WPL P n ops rest k (upd σ d (.int .i64 ((a &&& b : Nat) : Int))) ds w) :
    WPL P n ops (⟨some d, .binOp .and t x y u, ty, pos, af, none⟩ :: rest) k σ ds w := WPL.val hd (run_bin hx hy (run_and_i64 ha hb)) h
theorem WPL.shlI {a r : Int} {s : Nat} {sk : IntKind} (hx : ev σ x = .int .i64 a) (hy : ev σ y = .int sk (s : Int)) (hs : s ≤ 64) (hr : a * 2 ^ s = r) (hb : -9223372036854775808 ≤ r ∧ r ≤ 9223372036854775807) (hd : Nat.blt d n = true) (h : WPL P n ops rest k (upd σ d (.int .i64 r)) ds w) :
    WPL P n ops (⟨some d, .binOp .shl t x y u, ty, pos, af, none⟩ :: rest) k σ ds w := by
  refine WPL.val hd (run_bin hx hy ?_) h
  rw [run_shl (by omega)]
  have : min ((s : Int)).toNat IntKind.i64.bits = s := by simp [IntKind.bits]; omega
  rw [this, hr, wrap_i64 hb]
theorem WPL.shrI {a : Int} {s p : Nat} {sk : IntKind} (hx : ev σ x = .int .i64 a) (hy : ev σ y = .int sk (s : Int)) (hs : s ≤ 64) (hp : 2 ^ s = p) (hd : Nat.blt d n = true) (h : WPL P n ops rest k (upd σ d (.int .i64 (a / (p : Int)))) ds w) :
    WPL P n ops (⟨some d, .binOp .shr t x y u, ty, pos, af, none⟩ :: rest) k σ ds w := by
  refine WPL.val hd (run_bin hx hy ?_) h
  rw [run_shr (by omega)]
  have : min ((s : Int)).toNat IntKind.i64.bits = s := by simp [IntKind.bits]; omega
  rw [this, Int.fdiv_eq_ediv_of_nonneg _ (Int.pow_nonneg (by decide)), ← hp]
  simp
/-- Values of 64 digits with a told outcome. -/
theorem WPL.u64To {op : BinOp} {a b : Nat} (r : Nat) (ho : op = .sub ∨ op = .add ∨ op = .mul) (hx : ev σ x = .int .u64 (a : Int)) (hy : ev σ y = .int .u64 (b : Int)) (hr : op = .sub ∧ r + b = a ∨ op = .add ∧ a + b = r ∨ op = .mul ∧ a * b = r) (hb : r < 18446744073709551616) (hd : Nat.blt d n = true) (h : WPL P n ops rest k (upd σ d (.int .u64 (r : Int))) ds w) :
    WPL P n ops (⟨some d, .binOp op t x y u, ty, pos, af, none⟩ :: rest) k σ ds w := by
  refine WPL.val hd (run_bin hx hy ?_) h
  rcases hr with ⟨rfl, hr⟩ | ⟨rfl, hr⟩ | ⟨rfl, hr⟩
  · rw [run_arith (.inr (.inl ⟨rfl, rfl⟩)), wrap_u64]; simp only [Result.ok.injEq, Value.int.injEq, and_true, true_and]; omega
  · rw [run_arith (.inl ⟨rfl, rfl⟩), wrap_u64]; simp only [Result.ok.injEq, Value.int.injEq, and_true, true_and]; omega
  · rw [run_arith (.inr (.inr ⟨rfl, rfl⟩)), wrap_u64]; simp only [Result.ok.injEq, Value.int.injEq, and_true, true_and]
    rw [← Int.natCast_mul, hr]; omega
end Go.Sw
