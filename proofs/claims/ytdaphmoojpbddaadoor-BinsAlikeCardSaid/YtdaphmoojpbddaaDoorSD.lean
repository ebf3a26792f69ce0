/- A part of the proof that BinsAlike answers true: steps of the walk, or plain laws that it needs. No conditions of its own. -/
import Derived.Test.YtdaphmoojpbddaaDoorSC
set_option linter.all false
/-! Rules for whole numbers. -/
namespace Go.Sw
set_option autoImplicit false
variable {P : Program} {n : Nat} {σ : Env} {ds : List Deferred} {ops : Array Oper} {rest : List Oper} {k : Env → List Deferred → World → Prop} {w : World}
  {d : Nat} {ty : TypeId} {pos : String} {af : Array Edge}
theorem wrap_i64 {r : Int} (h : -9223372036854775808 ≤ r ∧ r ≤ 9223372036854775807) : IntKind.i64.wrap r = r := by
  have : IntKind.i64.wrap r = if r % 18446744073709551616 ≥ 9223372036854775808 then r % 18446744073709551616 - 18446744073709551616 else r % 18446744073709551616 := by
    simp [IntKind.wrap, IntKind.bits, IntKind.signed]
  rw [this]; split <;> omega
theorem wrap_u64 (r : Int) : IntKind.u64.wrap r = r % 18446744073709551616 := by simp [IntKind.wrap, IntKind.bits, IntKind.signed]
theorem wrap_u32 (r : Int) : IntKind.u32.wrap r = r % 4294967296 := by simp [IntKind.wrap, IntKind.bits, IntKind.signed]
theorem wrap_u8 (r : Int) : IntKind.u8.wrap r = r % 256 := by simp [IntKind.wrap, IntKind.bits, IntKind.signed]
section
variable {x y : Operand} {t u : TypeId}
theorem run_bin {op : BinOp} {kk kl : IntKind} {a b : Int} {v : Value} (hx : ev σ x = .int kk a) (hy : ev σ y = .int kl b)
    (h : (Go.binOp op t (.int kk a) (.int kl b)).run P w = .ok v w) : (execOp (ev σ) ⟨some d, .binOp op t x y u, ty, pos, af, none⟩).run P w = .ok (.value v) w := by
  have hg : (eqGuard op t x y (.int kk a) (.int kl b)).run P w = .ok () w := by
    unfold eqGuard
    cases op <;> simp
  simp only [execOp, hx, hy, bind_assoc, Sem.run_bind, hg, Result.andThen_ok, h]
  rfl
theorem run_arith {op : BinOp} {kk : IntKind} {a b r : Int} (hop : (op = .add ∧ r = kk.wrap (a + b)) ∨ (op = .sub ∧ r = kk.wrap (a - b)) ∨ (op = .mul ∧ r = kk.wrap (a * b))) :
    (Go.binOp op t (.int kk a) (.int kk b)).run P w = .ok (.int kk r) w := by
  rcases hop with ⟨rfl, rfl⟩ | ⟨rfl, rfl⟩ | ⟨rfl, rfl⟩ <;> simp [Go.binOp, Op.intArith]
theorem run_quo {kk : IntKind} {a b : Int} (hb : b ≠ 0) : (Go.binOp .quo t (.int kk a) (.int kk b)).run P w = .ok (.int kk (kk.wrap (a.tdiv b))) w := by
  simp [Go.binOp, Op.intDiv, hb]
theorem run_rem {kk : IntKind} {a b : Int} (hb : b ≠ 0) : (Go.binOp .rem t (.int kk a) (.int kk b)).run P w = .ok (.int kk (a.tmod b)) w := by
  simp [Go.binOp, Op.intDiv, hb]
theorem run_cmp {op : BinOp} {kk : IntKind} {a b : Int} {r : Bool} (hop : (op = .lss ∧ r = decide (a < b)) ∨ (op = .leq ∧ r = decide (a ≤ b)) ∨ (op = .gtr ∧ r = decide (b < a)) ∨ (op = .geq ∧ r = decide (b ≤ a)) ∨ (op = .eql ∧ r = decide (a = b)) ∨ (op = .neq ∧ r = decide (a ≠ b))) :
    (Go.binOp op t (.int kk a) (.int kk b)).run P w = .ok (.bool r) w := by
  rcases hop with ⟨rfl, rfl⟩ | ⟨rfl, rfl⟩ | ⟨rfl, rfl⟩ | ⟨rfl, rfl⟩ | ⟨rfl, rfl⟩ | ⟨rfl, rfl⟩ <;> simp [Go.binOp, Op.intCmp]
  all_goals (by_cases e : a = b <;> simp [e])
theorem run_shl {kk sk : IntKind} {a s : Int} (hs : 0 ≤ s) : (Go.binOp .shl t (.int kk a) (.int sk s)).run P w = .ok (.int kk (kk.wrap (a * 2 ^ min s.toNat kk.bits))) w := by
  have : ¬ s < 0 := by omega
  simp [Go.binOp, Op.shift, this]
theorem run_shr {kk sk : IntKind} {a s : Int} (hs : 0 ≤ s) : (Go.binOp .shr t (.int kk a) (.int sk s)).run P w = .ok (.int kk (a.fdiv (2 ^ min s.toNat kk.bits))) w := by
  have : ¬ s < 0 := by omega
  simp [Go.binOp, Op.shift, this]
theorem bits_u64 {r : BitVec 64} : IntKind.u64.wrap (r.toNat : Int) = (r.toNat : Int) := by
  rw [wrap_u64]; have := r.isLt; omega
theorem bits_u32 {r : BitVec 32} : IntKind.u32.wrap (r.toNat : Int) = (r.toNat : Int) := by
  rw [wrap_u32]; have := r.isLt; omega
theorem run_and_u64 {a b : Nat} (ha : a < 18446744073709551616) (hb : b < 18446744073709551616) : (Go.binOp .and t (.int .u64 (a : Int)) (.int .u64 (b : Int))).run P w = .ok (.int .u64 ((a &&& b : Nat) : Int)) w := by
  have e : (BitVec.ofInt 64 (a : Int) &&& BitVec.ofInt 64 (b : Int)).toNat = a &&& b := by
    rw [BitVec.toNat_and, BitVec.ofInt_natCast, BitVec.ofInt_natCast, BitVec.toNat_ofNat, BitVec.toNat_ofNat, Nat.mod_eq_of_lt ha, Nat.mod_eq_of_lt hb]
  have h : (Go.binOp .and t (.int .u64 (a : Int)) (.int .u64 (b : Int))).run P w = .ok (.int .u64 (IntKind.u64.wrap ((BitVec.ofInt 64 (a : Int) &&& BitVec.ofInt 64 (b : Int)).toNat : Int))) w := by
    simp only [Go.binOp, Op.intBits, ne_eq, not_true_eq_false, if_false]; rfl
  rw [h, bits_u64, e]
theorem run_or_u64 {a b : Nat} (ha : a < 18446744073709551616) (hb : b < 18446744073709551616) : (Go.binOp .or t (.int .u64 (a : Int)) (.int .u64 (b : Int))).run P w = .ok (.int .u64 ((a ||| b : Nat) : Int)) w := by
  have e : (BitVec.ofInt 64 (a : Int) ||| BitVec.ofInt 64 (b : Int)).toNat = a ||| b := by
    rw [BitVec.toNat_or, BitVec.ofInt_natCast, BitVec.ofInt_natCast, BitVec.toNat_ofNat, BitVec.toNat_ofNat, Nat.mod_eq_of_lt ha, Nat.mod_eq_of_lt hb]
  have h : (Go.binOp .or t (.int .u64 (a : Int)) (.int .u64 (b : Int))).run P w = .ok (.int .u64 (IntKind.u64.wrap ((BitVec.ofInt 64 (a : Int) ||| BitVec.ofInt 64 (b : Int)).toNat : Int))) w := by
    simp only [Go.binOp, Op.intBits, ne_eq, not_true_eq_false, if_false]; rfl
  rw [h, bits_u64, e]
theorem run_xor_u64 {a b : Nat} (ha : a < 18446744073709551616) (hb : b < 18446744073709551616) : (Go.binOp .xor t (.int .u64 (a : Int)) (.int .u64 (b : Int))).run P w = .ok (.int .u64 ((a ^^^ b : Nat) : Int)) w := by
  have e : (BitVec.ofInt 64 (a : Int) ^^^ BitVec.ofInt 64 (b : Int)).toNat = a ^^^ b := by
    rw [BitVec.toNat_xor, BitVec.ofInt_natCast, BitVec.ofInt_natCast, BitVec.toNat_ofNat, BitVec.toNat_ofNat, Nat.mod_eq_of_lt ha, Nat.mod_eq_of_lt hb]
  have h : (Go.binOp .xor t (.int .u64 (a : Int)) (.int .u64 (b : Int))).run P w = .ok (.int .u64 (IntKind.u64.wrap ((BitVec.ofInt 64 (a : Int) ^^^ BitVec.ofInt 64 (b : Int)).toNat : Int))) w := by
    simp only [Go.binOp, Op.intBits, ne_eq, not_true_eq_false, if_false]; rfl
  rw [h, bits_u64, e]
theorem run_anot_u64 {a b : Nat} (ha : a < 18446744073709551616) (hb : b < 18446744073709551616) : (Go.binOp .andNot t (.int .u64 (a : Int)) (.int .u64 (b : Int))).run P w = .ok (.int .u64 ((a &&& (18446744073709551615 - b) : Nat) : Int)) w := by
  have e : (BitVec.ofInt 64 (a : Int) &&& ~~~ BitVec.ofInt 64 (b : Int)).toNat = a &&& (18446744073709551615 - b) := by
    rw [BitVec.toNat_and, BitVec.toNat_not, BitVec.ofInt_natCast, BitVec.ofInt_natCast, BitVec.toNat_ofNat, BitVec.toNat_ofNat, Nat.mod_eq_of_lt ha, Nat.mod_eq_of_lt hb]
  have h : (Go.binOp .andNot t (.int .u64 (a : Int)) (.int .u64 (b : Int))).run P w = .ok (.int .u64 (IntKind.u64.wrap ((BitVec.ofInt 64 (a : Int) &&& ~~~ BitVec.ofInt 64 (b : Int)).toNat : Int))) w := by
    simp only [Go.binOp, Op.intBits, ne_eq, not_true_eq_false, if_false]; rfl
  rw [h, bits_u64, e]
theorem run_and_u32 {a b : Nat} (ha : a < 4294967296) (hb : b < 4294967296) : (Go.binOp .and t (.int .u32 (a : Int)) (.int .u32 (b : Int))).run P w = .ok (.int .u32 ((a &&& b : Nat) : Int)) w := by
  have e : (BitVec.ofInt 32 (a : Int) &&& BitVec.ofInt 32 (b : Int)).toNat = a &&& b := by
    rw [BitVec.toNat_and, BitVec.ofInt_natCast, BitVec.ofInt_natCast, BitVec.toNat_ofNat, BitVec.toNat_ofNat, Nat.mod_eq_of_lt ha, Nat.mod_eq_of_lt hb]
  have h : (Go.binOp .and t (.int .u32 (a : Int)) (.int .u32 (b : Int))).run P w = .ok (.int .u32 (IntKind.u32.wrap ((BitVec.ofInt 32 (a : Int) &&& BitVec.ofInt 32 (b : Int)).toNat : Int))) w := by
    simp only [Go.binOp, Op.intBits, ne_eq, not_true_eq_false, if_false]; rfl
  rw [h, bits_u32, e]
theorem run_or_u32 {a b : Nat} (ha : a < 4294967296) (hb : b < 4294967296) : (Go.binOp .or t (.int .u32 (a : Int)) (.int .u32 (b : Int))).run P w = .ok (.int .u32 ((a ||| b : Nat) : Int)) w := by
  have e : (BitVec.ofInt 32 (a : Int) ||| BitVec.ofInt 32 (b : Int)).toNat = a ||| b := by
    rw [BitVec.toNat_or, BitVec.ofInt_natCast, BitVec.ofInt_natCast, BitVec.toNat_ofNat, BitVec.toNat_ofNat, Nat.mod_eq_of_lt ha, Nat.mod_eq_of_lt hb]
  have h : (Go.binOp .or t (.int .u32 (a : Int)) (.int .u32 (b : Int))).run P w = .ok (.int .u32 (IntKind.u32.wrap ((BitVec.ofInt 32 (a : Int) ||| BitVec.ofInt 32 (b : Int)).toNat : Int))) w := by
    simp only [Go.binOp, Op.intBits, ne_eq, not_true_eq_false, if_false]; rfl
  rw [h, bits_u32, e]
theorem run_xor_u32 {a b : Nat} (ha : a < 4294967296) (hb : b < 4294967296) : (Go.binOp .xor t (.int .u32 (a : Int)) (.int .u32 (b : Int))).run P w = .ok (.int .u32 ((a ^^^ b : Nat) : Int)) w := by
  have e : (BitVec.ofInt 32 (a : Int) ^^^ BitVec.ofInt 32 (b : Int)).toNat = a ^^^ b := by
    rw [BitVec.toNat_xor, BitVec.ofInt_natCast, BitVec.ofInt_natCast, BitVec.toNat_ofNat, BitVec.toNat_ofNat, Nat.mod_eq_of_lt ha, Nat.mod_eq_of_lt hb]
  have h : (Go.binOp .xor t (.int .u32 (a : Int)) (.int .u32 (b : Int))).run P w = .ok (.int .u32 (IntKind.u32.wrap ((BitVec.ofInt 32 (a : Int) ^^^ BitVec.ofInt 32 (b : Int)).toNat : Int))) w := by
    simp only [Go.binOp, Op.intBits, ne_eq, not_true_eq_false, if_false]; rfl
  rw [h, bits_u32, e]
theorem run_anot_u32 {a b : Nat} (ha : a < 4294967296) (hb : b < 4294967296) : (Go.binOp .andNot t (.int .u32 (a : Int)) (.int .u32 (b : Int))).run P w = .ok (.int .u32 ((a &&& (4294967295 - b) : Nat) : Int)) w := by
  have e : (BitVec.ofInt 32 (a : Int) &&& ~~~ BitVec.ofInt 32 (b : Int)).toNat = a &&& (4294967295 - b) := by
    rw [BitVec.toNat_and, BitVec.toNat_not, BitVec.ofInt_natCast, BitVec.ofInt_natCast, BitVec.toNat_ofNat, BitVec.toNat_ofNat, Nat.mod_eq_of_lt ha, Nat.mod_eq_of_lt hb]
  have h : (Go.binOp .andNot t (.int .u32 (a : Int)) (.int .u32 (b : Int))).run P w = .ok (.int .u32 (IntKind.u32.wrap ((BitVec.ofInt 32 (a : Int) &&& ~~~ BitVec.ofInt 32 (b : Int)).toNat : Int))) w := by
    simp only [Go.binOp, Op.intBits, ne_eq, not_true_eq_false, if_false]; rfl
  rw [h, bits_u32, e]
theorem shl_aux {a s bits : Nat} {m : Int} (hm : m = 2 ^ bits) : (a : Int) * 2 ^ min (s : Int).toNat bits % m = ((a * 2 ^ s % m.toNat : Nat) : Int) := by
  subst hm
  have e : ((2 : Int) ^ bits).toNat = 2 ^ bits := by
    have : (2 : Int) ^ bits = ((2 ^ bits : Nat) : Int) := by push_cast; rfl
    rw [this, Int.toNat_natCast]
  rw [e, Int.toNat_natCast]
  have : (a : Int) * 2 ^ min s bits % 2 ^ bits = ((a * 2 ^ min s bits % 2 ^ bits : Nat) : Int) := by simp
  rw [this]
  congr 1
  rcases Nat.le_total s bits with h | h
  · rw [Nat.min_eq_left h]
  · rw [Nat.min_eq_right h, Nat.mul_mod_left]
    obtain ⟨c, rfl⟩ : ∃ c, s = bits + c := ⟨s - bits, by omega⟩
    rw [Nat.pow_add, ← Nat.mul_assoc, Nat.mul_right_comm, Nat.mul_mod_left]
theorem shr_aux {a s bits : Nat} (ha : a < 2 ^ bits) : (a : Int).fdiv (2 ^ min (s : Int).toNat bits) = ((a / 2 ^ s : Nat) : Int) := by
  rw [Int.toNat_natCast]
  have h1 : (a : Int).fdiv (2 ^ min s bits) = ((a / 2 ^ min s bits : Nat) : Int) := by
    rw [show ((2 : Int) ^ min s bits) = ((2 ^ min s bits : Nat) : Int) by push_cast; rfl, Int.ofNat_fdiv]
  rw [h1]
  congr 1
  rcases Nat.le_total s bits with h | h
  · rw [Nat.min_eq_left h]
  · rw [Nat.min_eq_right h, Nat.div_eq_of_lt ha, Nat.div_eq_of_lt (Nat.lt_of_lt_of_le ha (Nat.pow_le_pow_right (by omega) h))]
theorem WPL.addI {a b : Int} (hx : ev σ x = .int .i64 a) (hy : ev σ y = .int .i64 b) (hb : -9223372036854775808 ≤ a + b ∧ a + b ≤ 9223372036854775807) (hd : Nat.blt d n = true) (h : WPL P n ops rest k (upd σ d (.int .i64 (a + b))) ds w) :
    WPL P n ops (⟨some d, .binOp .add t x y u, ty, pos, af, none⟩ :: rest) k σ ds w := by
  refine WPL.val hd (run_bin hx hy ?_) h
  rw [run_arith (.inl ⟨rfl, rfl⟩), wrap_i64 hb]
theorem WPL.addIw {a b : Int} (hx : ev σ x = .int .i64 a) (hy : ev σ y = .int .i64 b) (hd : Nat.blt d n = true) (h : WPL P n ops rest k (upd σ d (.int .i64 (IntKind.i64.wrap (a + b)))) ds w) :
    WPL P n ops (⟨some d, .binOp .add t x y u, ty, pos, af, none⟩ :: rest) k σ ds w := by
  refine WPL.val hd (run_bin hx hy ?_) h
  exact run_arith (.inl ⟨rfl, rfl⟩)
theorem WPL.subI {a b : Int} (hx : ev σ x = .int .i64 a) (hy : ev σ y = .int .i64 b) (hb : -9223372036854775808 ≤ a - b ∧ a - b ≤ 9223372036854775807) (hd : Nat.blt d n = true) (h : WPL P n ops rest k (upd σ d (.int .i64 (a - b))) ds w) :
    WPL P n ops (⟨some d, .binOp .sub t x y u, ty, pos, af, none⟩ :: rest) k σ ds w := by
  refine WPL.val hd (run_bin hx hy ?_) h
  rw [run_arith (.inr (.inl ⟨rfl, rfl⟩)), wrap_i64 hb]
theorem WPL.subIw {a b : Int} (hx : ev σ x = .int .i64 a) (hy : ev σ y = .int .i64 b) (hd : Nat.blt d n = true) (h : WPL P n ops rest k (upd σ d (.int .i64 (IntKind.i64.wrap (a - b)))) ds w) :
    WPL P n ops (⟨some d, .binOp .sub t x y u, ty, pos, af, none⟩ :: rest) k σ ds w := by
  refine WPL.val hd (run_bin hx hy ?_) h
  exact run_arith (.inr (.inl ⟨rfl, rfl⟩))
theorem WPL.mulI {a b : Int} (hx : ev σ x = .int .i64 a) (hy : ev σ y = .int .i64 b) (hb : -9223372036854775808 ≤ a * b ∧ a * b ≤ 9223372036854775807) (hd : Nat.blt d n = true) (h : WPL P n ops rest k (upd σ d (.int .i64 (a * b))) ds w) :
    WPL P n ops (⟨some d, .binOp .mul t x y u, ty, pos, af, none⟩ :: rest) k σ ds w := by
  refine WPL.val hd (run_bin hx hy ?_) h
  rw [run_arith (.inr (.inr ⟨rfl, rfl⟩)), wrap_i64 hb]
theorem WPL.mulIw {a b : Int} (hx : ev σ x = .int .i64 a) (hy : ev σ y = .int .i64 b) (hd : Nat.blt d n = true) (h : WPL P n ops rest k (upd σ d (.int .i64 (IntKind.i64.wrap (a * b)))) ds w) :
    WPL P n ops (⟨some d, .binOp .mul t x y u, ty, pos, af, none⟩ :: rest) k σ ds w := by
  refine WPL.val hd (run_bin hx hy ?_) h
  exact run_arith (.inr (.inr ⟨rfl, rfl⟩))
theorem WPL.add_u64 {a b : Nat} (hx : ev σ x = .int .u64 (a : Int)) (hy : ev σ y = .int .u64 (b : Int)) (hd : Nat.blt d n = true) (h : WPL P n ops rest k (upd σ d (.int .u64 (((a + b) % 18446744073709551616 : Nat) : Int))) ds w) :
    WPL P n ops (⟨some d, .binOp .add t x y u, ty, pos, af, none⟩ :: rest) k σ ds w := by
  refine WPL.val hd (run_bin hx hy ?_) h
  rw [run_arith (.inl ⟨rfl, rfl⟩), wrap_u64]; simp only [Result.ok.injEq, Value.int.injEq, and_true, true_and]; omega
theorem WPL.sub_u64 {a b : Nat} (hx : ev σ x = .int .u64 (a : Int)) (hy : ev σ y = .int .u64 (b : Int)) (hb : b ≤ 18446744073709551616) (hd : Nat.blt d n = true) (h : WPL P n ops rest k (upd σ d (.int .u64 (((a + 18446744073709551616 - b) % 18446744073709551616 : Nat) : Int))) ds w) :
    WPL P n ops (⟨some d, .binOp .sub t x y u, ty, pos, af, none⟩ :: rest) k σ ds w := by
  refine WPL.val hd (run_bin hx hy ?_) h
  rw [run_arith (.inr (.inl ⟨rfl, rfl⟩)), wrap_u64]; simp only [Result.ok.injEq, Value.int.injEq, and_true, true_and]; omega
theorem WPL.mul_u64 {a b : Nat} (hx : ev σ x = .int .u64 (a : Int)) (hy : ev σ y = .int .u64 (b : Int)) (hd : Nat.blt d n = true) (h : WPL P n ops rest k (upd σ d (.int .u64 (((a * b) % 18446744073709551616 : Nat) : Int))) ds w) :
    WPL P n ops (⟨some d, .binOp .mul t x y u, ty, pos, af, none⟩ :: rest) k σ ds w := by
  refine WPL.val hd (run_bin hx hy ?_) h
  rw [run_arith (.inr (.inr ⟨rfl, rfl⟩)), wrap_u64]; simp only [Result.ok.injEq, Value.int.injEq, and_true, true_and]; rw [Int.natCast_emod, Int.natCast_mul]; rfl
theorem WPL.quo_u64 {a b : Nat} (hx : ev σ x = .int .u64 (a : Int)) (hy : ev σ y = .int .u64 (b : Int)) (ha : a < 18446744073709551616) (hb : 0 < b) (hd : Nat.blt d n = true) (h : WPL P n ops rest k (upd σ d (.int .u64 ((a / b : Nat) : Int))) ds w) :
    WPL P n ops (⟨some d, .binOp .quo t x y u, ty, pos, af, none⟩ :: rest) k σ ds w := by
  refine WPL.val hd (run_bin hx hy ?_) h
  have h1 : a / b < 18446744073709551616 := Nat.lt_of_le_of_lt (Nat.div_le_self ..) ha
  rw [run_quo (by omega), wrap_u64, ← Int.ofNat_tdiv]; simp only [Result.ok.injEq, Value.int.injEq, and_true, true_and]; generalize a / b = q at *; omega
theorem WPL.rem_u64 {a b : Nat} (hx : ev σ x = .int .u64 (a : Int)) (hy : ev σ y = .int .u64 (b : Int)) (hb : 0 < b) (hd : Nat.blt d n = true) (h : WPL P n ops rest k (upd σ d (.int .u64 ((a % b : Nat) : Int))) ds w) :
    WPL P n ops (⟨some d, .binOp .rem t x y u, ty, pos, af, none⟩ :: rest) k σ ds w := by
  refine WPL.val hd (run_bin hx hy ?_) h
  rw [run_rem (by omega), ← Int.ofNat_tmod]
theorem WPL.add_u32 {a b : Nat} (hx : ev σ x = .int .u32 (a : Int)) (hy : ev σ y = .int .u32 (b : Int)) (hd : Nat.blt d n = true) (h : WPL P n ops rest k (upd σ d (.int .u32 (((a + b) % 4294967296 : Nat) : Int))) ds w) :
    WPL P n ops (⟨some d, .binOp .add t x y u, ty, pos, af, none⟩ :: rest) k σ ds w := by
  refine WPL.val hd (run_bin hx hy ?_) h
  rw [run_arith (.inl ⟨rfl, rfl⟩), wrap_u32]; simp only [Result.ok.injEq, Value.int.injEq, and_true, true_and]; omega
theorem WPL.sub_u32 {a b : Nat} (hx : ev σ x = .int .u32 (a : Int)) (hy : ev σ y = .int .u32 (b : Int)) (hb : b ≤ 4294967296) (hd : Nat.blt d n = true) (h : WPL P n ops rest k (upd σ d (.int .u32 (((a + 4294967296 - b) % 4294967296 : Nat) : Int))) ds w) :
    WPL P n ops (⟨some d, .binOp .sub t x y u, ty, pos, af, none⟩ :: rest) k σ ds w := by
  refine WPL.val hd (run_bin hx hy ?_) h
  rw [run_arith (.inr (.inl ⟨rfl, rfl⟩)), wrap_u32]; simp only [Result.ok.injEq, Value.int.injEq, and_true, true_and]; omega
theorem WPL.mul_u32 {a b : Nat} (hx : ev σ x = .int .u32 (a : Int)) (hy : ev σ y = .int .u32 (b : Int)) (hd : Nat.blt d n = true) (h : WPL P n ops rest k (upd σ d (.int .u32 (((a * b) % 4294967296 : Nat) : Int))) ds w) :
    WPL P n ops (⟨some d, .binOp .mul t x y u, ty, pos, af, none⟩ :: rest) k σ ds w := by
  refine WPL.val hd (run_bin hx hy ?_) h
  rw [run_arith (.inr (.inr ⟨rfl, rfl⟩)), wrap_u32]; simp only [Result.ok.injEq, Value.int.injEq, and_true, true_and]; rw [Int.natCast_emod, Int.natCast_mul]; rfl
theorem WPL.quo_u32 {a b : Nat} (hx : ev σ x = .int .u32 (a : Int)) (hy : ev σ y = .int .u32 (b : Int)) (ha : a < 4294967296) (hb : 0 < b) (hd : Nat.blt d n = true) (h : WPL P n ops rest k (upd σ d (.int .u32 ((a / b : Nat) : Int))) ds w) :
    WPL P n ops (⟨some d, .binOp .quo t x y u, ty, pos, af, none⟩ :: rest) k σ ds w := by
  refine WPL.val hd (run_bin hx hy ?_) h
  have h1 : a / b < 4294967296 := Nat.lt_of_le_of_lt (Nat.div_le_self ..) ha
  rw [run_quo (by omega), wrap_u32, ← Int.ofNat_tdiv]; simp only [Result.ok.injEq, Value.int.injEq, and_true, true_and]; generalize a / b = q at *; omega
theorem WPL.rem_u32 {a b : Nat} (hx : ev σ x = .int .u32 (a : Int)) (hy : ev σ y = .int .u32 (b : Int)) (hb : 0 < b) (hd : Nat.blt d n = true) (h : WPL P n ops rest k (upd σ d (.int .u32 ((a % b : Nat) : Int))) ds w) :
    WPL P n ops (⟨some d, .binOp .rem t x y u, ty, pos, af, none⟩ :: rest) k σ ds w := by
  refine WPL.val hd (run_bin hx hy ?_) h
  rw [run_rem (by omega), ← Int.ofNat_tmod]
theorem WPL.quoN {a b : Nat} (hx : ev σ x = .int .i64 (a : Int)) (hy : ev σ y = .int .i64 (b : Int)) (ha : a ≤ 9223372036854775807) (hb : 0 < b) (hd : Nat.blt d n = true) (h : WPL P n ops rest k (upd σ d (.int .i64 ((a / b : Nat) : Int))) ds w) :
    WPL P n ops (⟨some d, .binOp .quo t x y u, ty, pos, af, none⟩ :: rest) k σ ds w := by
  refine WPL.val hd (run_bin hx hy ?_) h
  have h1 : a / b ≤ 9223372036854775807 := Nat.le_trans (Nat.div_le_self ..) ha
  rw [run_quo (by omega), ← Int.ofNat_tdiv]; generalize a / b = q at *; rw [wrap_i64 (by omega)]
theorem WPL.remN {a b : Nat} (hx : ev σ x = .int .i64 (a : Int)) (hy : ev σ y = .int .i64 (b : Int)) (hb : 0 < b) (hd : Nat.blt d n = true) (h : WPL P n ops rest k (upd σ d (.int .i64 ((a % b : Nat) : Int))) ds w) :
    WPL P n ops (⟨some d, .binOp .rem t x y u, ty, pos, af, none⟩ :: rest) k σ ds w := by
  refine WPL.val hd (run_bin hx hy ?_) h
  rw [run_rem (by omega), ← Int.ofNat_tmod]
theorem WPL.quoI {a b : Int} (hx : ev σ x = .int .i64 a) (hy : ev σ y = .int .i64 b) (hb : b ≠ 0) (hc : -9223372036854775808 ≤ a.tdiv b ∧ a.tdiv b ≤ 9223372036854775807) (hd : Nat.blt d n = true) (h : WPL P n ops rest k (upd σ d (.int .i64 (a.tdiv b))) ds w) :
    WPL P n ops (⟨some d, .binOp .quo t x y u, ty, pos, af, none⟩ :: rest) k σ ds w := by
  refine WPL.val hd (run_bin hx hy ?_) h
  rw [run_quo hb, wrap_i64 hc]
theorem WPL.remI {a b : Int} (hx : ev σ x = .int .i64 a) (hy : ev σ y = .int .i64 b) (hb : b ≠ 0) (hd : Nat.blt d n = true) (h : WPL P n ops rest k (upd σ d (.int .i64 (a.tmod b))) ds w) :
    WPL P n ops (⟨some d, .binOp .rem t x y u, ty, pos, af, none⟩ :: rest) k σ ds w := by
  refine WPL.val hd (run_bin hx hy ?_) h
  exact run_rem hb
theorem WPL.lt {kk : IntKind} {a b : Int} (hx : ev σ x = .int kk a) (hy : ev σ y = .int kk b) (hd : Nat.blt d n = true) (h : WPL P n ops rest k (upd σ d (.bool (decide (a < b)))) ds w) :
    WPL P n ops (⟨some d, .binOp .lss t x y u, ty, pos, af, none⟩ :: rest) k σ ds w := by
  refine WPL.val hd (run_bin hx hy ?_) h
  exact run_cmp (.inl ⟨rfl, rfl⟩)
theorem WPL.le {kk : IntKind} {a b : Int} (hx : ev σ x = .int kk a) (hy : ev σ y = .int kk b) (hd : Nat.blt d n = true) (h : WPL P n ops rest k (upd σ d (.bool (decide (a ≤ b)))) ds w) :
    WPL P n ops (⟨some d, .binOp .leq t x y u, ty, pos, af, none⟩ :: rest) k σ ds w := by
  refine WPL.val hd (run_bin hx hy ?_) h
  exact run_cmp (.inr (.inl ⟨rfl, rfl⟩))
theorem WPL.gt {kk : IntKind} {a b : Int} (hx : ev σ x = .int kk a) (hy : ev σ y = .int kk b) (hd : Nat.blt d n = true) (h : WPL P n ops rest k (upd σ d (.bool (decide (b < a)))) ds w) :
    WPL P n ops (⟨some d, .binOp .gtr t x y u, ty, pos, af, none⟩ :: rest) k σ ds w := by
  refine WPL.val hd (run_bin hx hy ?_) h
  exact run_cmp (.inr (.inr (.inl ⟨rfl, rfl⟩)))
theorem WPL.ge {kk : IntKind} {a b : Int} (hx : ev σ x = .int kk a) (hy : ev σ y = .int kk b) (hd : Nat.blt d n = true) (h : WPL P n ops rest k (upd σ d (.bool (decide (b ≤ a)))) ds w) :
    WPL P n ops (⟨some d, .binOp .geq t x y u, ty, pos, af, none⟩ :: rest) k σ ds w := by
  refine WPL.val hd (run_bin hx hy ?_) h
  exact run_cmp (.inr (.inr (.inr (.inl ⟨rfl, rfl⟩))))
theorem WPL.eq {kk : IntKind} {a b : Int} (hx : ev σ x = .int kk a) (hy : ev σ y = .int kk b) (hd : Nat.blt d n = true) (h : WPL P n ops rest k (upd σ d (.bool (decide (a = b)))) ds w) :
    WPL P n ops (⟨some d, .binOp .eql t x y u, ty, pos, af, none⟩ :: rest) k σ ds w := by
  refine WPL.val hd (run_bin hx hy ?_) h
  exact run_cmp (.inr (.inr (.inr (.inr (.inl ⟨rfl, rfl⟩)))))
theorem WPL.ne {kk : IntKind} {a b : Int} (hx : ev σ x = .int kk a) (hy : ev σ y = .int kk b) (hd : Nat.blt d n = true) (h : WPL P n ops rest k (upd σ d (.bool (decide (a ≠ b)))) ds w) :
    WPL P n ops (⟨some d, .binOp .neq t x y u, ty, pos, af, none⟩ :: rest) k σ ds w := by
  refine WPL.val hd (run_bin hx hy ?_) h
  exact run_cmp (.inr (.inr (.inr (.inr (.inr ⟨rfl, rfl⟩)))))
theorem WPL.and_u64 {a b : Nat} (hx : ev σ x = .int .u64 (a : Int)) (hy : ev σ y = .int .u64 (b : Int)) (ha : a < 18446744073709551616) (hb : b < 18446744073709551616) (hd : Nat.blt d n = true) (h : WPL P n ops rest k (upd σ d (.int .u64 ((a &&& b : Nat) : Int))) ds w) :
    WPL P n ops (⟨some d, .binOp .and t x y u, ty, pos, af, none⟩ :: rest) k σ ds w := by
  refine WPL.val hd (run_bin hx hy ?_) h
  exact run_and_u64 ha hb
theorem WPL.or_u64 {a b : Nat} (hx : ev σ x = .int .u64 (a : Int)) (hy : ev σ y = .int .u64 (b : Int)) (ha : a < 18446744073709551616) (hb : b < 18446744073709551616) (hd : Nat.blt d n = true) (h : WPL P n ops rest k (upd σ d (.int .u64 ((a ||| b : Nat) : Int))) ds w) :
    WPL P n ops (⟨some d, .binOp .or t x y u, ty, pos, af, none⟩ :: rest) k σ ds w := by
  refine WPL.val hd (run_bin hx hy ?_) h
  exact run_or_u64 ha hb
theorem WPL.xor_u64 {a b : Nat} (hx : ev σ x = .int .u64 (a : Int)) (hy : ev σ y = .int .u64 (b : Int)) (ha : a < 18446744073709551616) (hb : b < 18446744073709551616) (hd : Nat.blt d n = true) (h : WPL P n ops rest k (upd σ d (.int .u64 ((a ^^^ b : Nat) : Int))) ds w) :
    WPL P n ops (⟨some d, .binOp .xor t x y u, ty, pos, af, none⟩ :: rest) k σ ds w := by
  refine WPL.val hd (run_bin hx hy ?_) h
  exact run_xor_u64 ha hb
theorem WPL.anot_u64 {a b : Nat} (hx : ev σ x = .int .u64 (a : Int)) (hy : ev σ y = .int .u64 (b : Int)) (ha : a < 18446744073709551616) (hb : b < 18446744073709551616) (hd : Nat.blt d n = true) (h : WPL P n ops rest k (upd σ d (.int .u64 ((a &&& (18446744073709551615 - b) : Nat) : Int))) ds w) :
    WPL P n ops (⟨some d, .binOp .andNot t x y u, ty, pos, af, none⟩ :: rest) k σ ds w := by
  refine WPL.val hd (run_bin hx hy ?_) h
  exact run_anot_u64 ha hb
theorem WPL.shl_u64 {a s : Nat} {sk : IntKind} (hx : ev σ x = .int .u64 (a : Int)) (hy : ev σ y = .int sk (s : Int)) (hd : Nat.blt d n = true) (h : WPL P n ops rest k (upd σ d (.int .u64 ((a * 2 ^ s % 18446744073709551616 : Nat) : Int))) ds w) :
    WPL P n ops (⟨some d, .binOp .shl t x y u, ty, pos, af, none⟩ :: rest) k σ ds w := by
  refine WPL.val hd (run_bin hx hy ?_) h
  rw [run_shl (by omega), wrap_u64]
  simp only [Result.ok.injEq, Value.int.injEq, and_true, true_and]
  exact shl_aux (bits := 64) rfl
theorem WPL.shr_u64 {a s : Nat} {sk : IntKind} (hx : ev σ x = .int .u64 (a : Int)) (hy : ev σ y = .int sk (s : Int)) (ha : a < 18446744073709551616) (hd : Nat.blt d n = true) (h : WPL P n ops rest k (upd σ d (.int .u64 ((a / 2 ^ s : Nat) : Int))) ds w) :
    WPL P n ops (⟨some d, .binOp .shr t x y u, ty, pos, af, none⟩ :: rest) k σ ds w := by
  refine WPL.val hd (run_bin hx hy ?_) h
  rw [run_shr (by omega)]
  simp only [Result.ok.injEq, Value.int.injEq, and_true, true_and]
  exact shr_aux (bits := 64) ha
theorem WPL.and_u32 {a b : Nat} (hx : ev σ x = .int .u32 (a : Int)) (hy : ev σ y = .int .u32 (b : Int)) (ha : a < 4294967296) (hb : b < 4294967296) (hd : Nat.blt d n = true) (h : WPL P n ops rest k (upd σ d (.int .u32 ((a &&& b : Nat) : Int))) ds w) :
    WPL P n ops (⟨some d, .binOp .and t x y u, ty, pos, af, none⟩ :: rest) k σ ds w := by
  refine WPL.val hd (run_bin hx hy ?_) h
  exact run_and_u32 ha hb
theorem WPL.or_u32 {a b : Nat} (hx : ev σ x = .int .u32 (a : Int)) (hy : ev σ y = .int .u32 (b : Int)) (ha : a < 4294967296) (hb : b < 4294967296) (hd : Nat.blt d n = true) (h : WPL P n ops rest k (upd σ d (.int .u32 ((a ||| b : Nat) : Int))) ds w) :
    WPL P n ops (⟨some d, .binOp .or t x y u, ty, pos, af, none⟩ :: rest) k σ ds w := by
  refine WPL.val hd (run_bin hx hy ?_) h
  exact run_or_u32 ha hb
theorem WPL.xor_u32 {a b : Nat} (hx : ev σ x = .int .u32 (a : Int)) (hy : ev σ y = .int .u32 (b : Int)) (ha : a < 4294967296) (hb : b < 4294967296) (hd : Nat.blt d n = true) (h : WPL P n ops rest k (upd σ d (.int .u32 ((a ^^^ b : Nat) : Int))) ds w) :
    WPL P n ops (⟨some d, .binOp .xor t x y u, ty, pos, af, none⟩ :: rest) k σ ds w := by
  refine WPL.val hd (run_bin hx hy ?_) h
  exact run_xor_u32 ha hb
theorem WPL.anot_u32 {a b : Nat} (hx : ev σ x = .int .u32 (a : Int)) (hy : ev σ y = .int .u32 (b : Int)) (ha : a < 4294967296) (hb : b < 4294967296) (hd : Nat.blt d n = true) (h : WPL P n ops rest k (upd σ d (.int .u32 ((a &&& (4294967295 - b) : Nat) : Int))) ds w) :
    WPL P n ops (⟨some d, .binOp .andNot t x y u, ty, pos, af, none⟩ :: rest) k σ ds w := by
  refine WPL.val hd (run_bin hx hy ?_) h
  exact run_anot_u32 ha hb
theorem WPL.shl_u32 {a s : Nat} {sk : IntKind} (hx : ev σ x = .int .u32 (a : Int)) (hy : ev σ y = .int sk (s : Int)) (hd : Nat.blt d n = true) (h : WPL P n ops rest k (upd σ d (.int .u32 ((a * 2 ^ s % 4294967296 : Nat) : Int))) ds w) :
    WPL P n ops (⟨some d, .binOp .shl t x y u, ty, pos, af, none⟩ :: rest) k σ ds w := by
  refine WPL.val hd (run_bin hx hy ?_) h
  rw [run_shl (by omega), wrap_u32]
  simp only [Result.ok.injEq, Value.int.injEq, and_true, true_and]
  exact shl_aux (bits := 32) rfl
theorem WPL.shr_u32 {a s : Nat} {sk : IntKind} (hx : ev σ x = .int .u32 (a : Int)) (hy : ev σ y = .int sk (s : Int)) (ha : a < 4294967296) (hd : Nat.blt d n = true) (h : WPL P n ops rest k (upd σ d (.int .u32 ((a / 2 ^ s : Nat) : Int))) ds w) :
    WPL P n ops (⟨some d, .binOp .shr t x y u, ty, pos, af, none⟩ :: rest) k σ ds w := by
  refine WPL.val hd (run_bin hx hy ?_) h
  rw [run_shr (by omega)]
  simp only [Result.ok.injEq, Value.int.injEq, and_true, true_and]
  exact shr_aux (bits := 32) ha
theorem WPL.shrc_u64 {a s p : Nat} {sk : IntKind} (hx : ev σ x = .int .u64 (a : Int)) (hy : ev σ y = .int sk (s : Int)) (hp : 2 ^ s = p) (ha : a < 18446744073709551616) (hd : Nat.blt d n = true) (h : WPL P n ops rest k (upd σ d (.int .u64 ((a / p : Nat) : Int))) ds w) :
    WPL P n ops (⟨some d, .binOp .shr t x y u, ty, pos, af, none⟩ :: rest) k σ ds w := by subst hp; exact WPL.shr_u64 hx hy ha hd h
theorem WPL.shlc_u64 {a s p : Nat} {sk : IntKind} (hx : ev σ x = .int .u64 (a : Int)) (hy : ev σ y = .int sk (s : Int)) (hp : 2 ^ s = p) (hd : Nat.blt d n = true) (h : WPL P n ops rest k (upd σ d (.int .u64 ((a * p % 18446744073709551616 : Nat) : Int))) ds w) :
    WPL P n ops (⟨some d, .binOp .shl t x y u, ty, pos, af, none⟩ :: rest) k σ ds w := by subst hp; exact WPL.shl_u64 hx hy hd h
theorem WPL.shrc_u32 {a s p : Nat} {sk : IntKind} (hx : ev σ x = .int .u32 (a : Int)) (hy : ev σ y = .int sk (s : Int)) (hp : 2 ^ s = p) (ha : a < 4294967296) (hd : Nat.blt d n = true) (h : WPL P n ops rest k (upd σ d (.int .u32 ((a / p : Nat) : Int))) ds w) :
    WPL P n ops (⟨some d, .binOp .shr t x y u, ty, pos, af, none⟩ :: rest) k σ ds w := by subst hp; exact WPL.shr_u32 hx hy ha hd h
theorem WPL.shlc_u32 {a s p : Nat} {sk : IntKind} (hx : ev σ x = .int .u32 (a : Int)) (hy : ev σ y = .int sk (s : Int)) (hp : 2 ^ s = p) (hd : Nat.blt d n = true) (h : WPL P n ops rest k (upd σ d (.int .u32 ((a * p % 4294967296 : Nat) : Int))) ds w) :
    WPL P n ops (⟨some d, .binOp .shl t x y u, ty, pos, af, none⟩ :: rest) k σ ds w := by subst hp; exact WPL.shl_u32 hx hy hd h
end
end Go.Sw
