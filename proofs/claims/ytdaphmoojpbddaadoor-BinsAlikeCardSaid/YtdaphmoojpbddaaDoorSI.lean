/- A part of the proof that BinsAlike answers true: steps of the walk, or plain laws that it needs. No conditions of its own. -/
import Derived.Test.YtdaphmoojpbddaaDoorSH
set_option linter.all false
/-! Numbers with a point; conversions; least and greatest. -/
namespace Go.Sw
set_option autoImplicit false
open Go.RowKit
variable {P : Program} {n : Nat} {σ : Env} {ds : List Deferred} {ops : Array Oper} {rest : List Oper} {k : Env → List Deferred → World → Prop} {w w0 : World}
  {d : Nat} {ty : TypeId} {pos : String} {af : Array Edge} {tb : List Blk} {M : List Nat} {L L' : List Blk} {R : List Row} {x y : Operand} {t u : TypeId}
theorem run_binf {op : BinOp} {kk : FloatKind} {a b : Nat} {v : Value} {w' : World} (hx : ev σ x = .float kk a) (hy : ev σ y = .float kk b)
    (h : (Go.binOp op t (.float kk a) (.float kk b)).run P w = .ok v w') : (execOp (ev σ) ⟨some d, .binOp op t x y u, ty, pos, af, none⟩).run P w = .ok (.value v) w' := by
  have hg : (eqGuard op t x y (.float kk a) (.float kk b)).run P w = .ok () w := by
    unfold eqGuard
    cases op <;> simp
  simp only [execOp, hx, hy, bind_assoc, Sem.run_bind, hg, Result.andThen_ok, h]
  rfl
theorem WPL.feq {kk : FloatKind} {a b : Nat} (hx : ev σ x = .float kk a) (hy : ev σ y = .float kk b) (hd : Nat.blt d n = true) (h : WPL P n ops rest k (upd σ d (.bool (kk.format.order a b == some .eq))) ds w) :
    WPL P n ops (⟨some d, .binOp .eql t x y u, ty, pos, af, none⟩ :: rest) k σ ds w := WPL.val hd (run_binf hx hy (by simp [Go.binOp, Op.floatCmp])) h
theorem WPL.fne {kk : FloatKind} {a b : Nat} (hx : ev σ x = .float kk a) (hy : ev σ y = .float kk b) (hd : Nat.blt d n = true) (h : WPL P n ops rest k (upd σ d (.bool (kk.format.order a b != some .eq))) ds w) :
    WPL P n ops (⟨some d, .binOp .neq t x y u, ty, pos, af, none⟩ :: rest) k σ ds w := WPL.val hd (run_binf hx hy (by simp [Go.binOp, Op.floatCmp])) h
theorem WPL.flt {kk : FloatKind} {a b : Nat} (hx : ev σ x = .float kk a) (hy : ev σ y = .float kk b) (hd : Nat.blt d n = true) (h : WPL P n ops rest k (upd σ d (.bool (kk.format.order a b == some .lt))) ds w) :
    WPL P n ops (⟨some d, .binOp .lss t x y u, ty, pos, af, none⟩ :: rest) k σ ds w := WPL.val hd (run_binf hx hy (by simp [Go.binOp, Op.floatCmp])) h
theorem WPL.fle {kk : FloatKind} {a b : Nat} (hx : ev σ x = .float kk a) (hy : ev σ y = .float kk b) (hd : Nat.blt d n = true) (h : WPL P n ops rest k (upd σ d (.bool (kk.format.order a b == some .lt || kk.format.order a b == some .eq))) ds w) :
    WPL P n ops (⟨some d, .binOp .leq t x y u, ty, pos, af, none⟩ :: rest) k σ ds w := WPL.val hd (run_binf hx hy (by simp [Go.binOp, Op.floatCmp])) h
theorem WPL.fgt {kk : FloatKind} {a b : Nat} (hx : ev σ x = .float kk a) (hy : ev σ y = .float kk b) (hd : Nat.blt d n = true) (h : WPL P n ops rest k (upd σ d (.bool (kk.format.order a b == some .gt))) ds w) :
    WPL P n ops (⟨some d, .binOp .gtr t x y u, ty, pos, af, none⟩ :: rest) k σ ds w := WPL.val hd (run_binf hx hy (by simp [Go.binOp, Op.floatCmp])) h
theorem WPL.fge {kk : FloatKind} {a b : Nat} (hx : ev σ x = .float kk a) (hy : ev σ y = .float kk b) (hd : Nat.blt d n = true) (h : WPL P n ops rest k (upd σ d (.bool (kk.format.order a b == some .gt || kk.format.order a b == some .eq))) ds w) :
    WPL P n ops (⟨some d, .binOp .geq t x y u, ty, pos, af, none⟩ :: rest) k σ ds w := WPL.val hd (run_binf hx hy (by simp [Go.binOp, Op.floatCmp])) h
/-- The bits of a step's answer: of a NaN any bits that are a NaN's. -/
def FStep (kk : FloatKind) (o : Option Nat) (r : Nat) : Prop := match o with | some q => r = q | none => (kk.decode r).isNaN = true
theorem nan_f64 (t : Nat) : (FloatKind.f64.decode ((t % 2) * 2 ^ 63 + 0x7ff0000000000000 + 1 + (t / 2) % (2 ^ 52 - 1))).isNaN = true := by
  generalize hr : (t % 2) * 2 ^ 63 + 0x7ff0000000000000 + 1 + (t / 2) % (2 ^ 52 - 1) = r
  have e : r % 2 ^ 63 = 0x7ff0000000000000 + 1 + (t / 2) % (2 ^ 52 - 1) := by omega
  have h1 : ¬ (r % 2 ^ 63 < 2 ^ 52) := by omega
  have h2 : ¬ (r % 2 ^ 63 < 0x7ff0000000000000) := by omega
  have h3 : ¬ (r % 2 ^ 63 = 0x7ff0000000000000) := by omega
  show (Ieee.double.read r).isNaN = true
  unfold Ieee.Format.read
  rw [show Ieee.double.signWeight = 2 ^ 63 from rfl, show Ieee.double.binade = 2 ^ 52 from rfl, show Ieee.double.infRung = 0x7ff0000000000000 from rfl]
  dsimp only
  rw [if_neg h1, if_neg h2, if_neg h3]
  rfl
theorem nan_f32 (t : Nat) : (FloatKind.f32.decode ((t % 2) * 2 ^ 31 + 0x7f800000 + 1 + (t / 2) % (2 ^ 23 - 1))).isNaN = true := by
  generalize hr : (t % 2) * 2 ^ 31 + 0x7f800000 + 1 + (t / 2) % (2 ^ 23 - 1) = r
  have e : r % 2 ^ 31 = 0x7f800000 + 1 + (t / 2) % (2 ^ 23 - 1) := by omega
  have h1 : ¬ (r % 2 ^ 31 < 2 ^ 23) := by omega
  have h2 : ¬ (r % 2 ^ 31 < 0x7f800000) := by omega
  have h3 : ¬ (r % 2 ^ 31 = 0x7f800000) := by omega
  show (Ieee.single.read r).isNaN = true
  unfold Ieee.Format.read
  rw [show Ieee.single.signWeight = 2 ^ 31 from rfl, show Ieee.single.binade = 2 ^ 23 from rfl, show Ieee.single.infRung = 0x7f800000 from rfl]
  dsimp only
  rw [if_neg h1, if_neg h2, if_neg h3]
  rfl
theorem cut_nan (kk : FloatKind) (a b t : Nat) : (kk.decode ((Question.nanBits kk a b).cut t)).isNaN = true := by
  cases kk
  · exact nan_f32 t
  · exact nan_f64 t
theorem cut_nanConv (kk : FloatKind) (a t : Nat) : (kk.decode ((Question.nanConv kk a).cut t)).isNaN = true := by
  cases kk
  · exact nan_f32 t
  · exact nan_f64 t
theorem run_fstep {kk : FloatKind} {a b : Nat} {o : Option Nat} (h : Own tb w0 M L R w) :
    ∃ r w', (match o with | some q => (Pure.pure (Value.float kk q) : Sem Value) | none => do pure (.float kk (← choose (.nanBits kk a b)))).run P w = .ok (.float kk r) w' ∧ FStep kk o r ∧ Own tb w0 M L R w' := by
  cases o with
  | some q => exact ⟨q, w, rfl, rfl, h⟩
  | none => exact ⟨_, w.drew, by simp [Question.forced]; rfl, cut_nan kk a b _, h.drew⟩
theorem WPL.fadd {kk : FloatKind} {a b : Nat} (hx : ev σ x = .float kk a) (hy : ev σ y = .float kk b) (hO : Own tb w0 M L R w) (hd : Nat.blt d n = true)
    (h : ∀ r w, FStep kk (kk.format.add a b) r → Own tb w0 M L R w → WPL P n ops rest k (upd σ d (.float kk r)) ds w) :
    WPL P n ops (⟨some d, .binOp .add t x y u, ty, pos, af, none⟩ :: rest) k σ ds w := by
  obtain ⟨r, w', h1, h2, h3⟩ := run_fstep (P := P) (kk := kk) (a := a) (b := b) (o := kk.format.add a b) hO
  refine WPL.val hd (run_binf hx hy ?_) (h r w' h2 h3)
  simp only [Go.binOp, Op.floatArith, ne_eq, not_true_eq_false, if_false, pure_bind]
  exact h1
theorem WPL.fsub {kk : FloatKind} {a b : Nat} (hx : ev σ x = .float kk a) (hy : ev σ y = .float kk b) (hO : Own tb w0 M L R w) (hd : Nat.blt d n = true)
    (h : ∀ r w, FStep kk (kk.format.sub a b) r → Own tb w0 M L R w → WPL P n ops rest k (upd σ d (.float kk r)) ds w) :
    WPL P n ops (⟨some d, .binOp .sub t x y u, ty, pos, af, none⟩ :: rest) k σ ds w := by
  obtain ⟨r, w', h1, h2, h3⟩ := run_fstep (P := P) (kk := kk) (a := a) (b := b) (o := kk.format.sub a b) hO
  refine WPL.val hd (run_binf hx hy ?_) (h r w' h2 h3)
  simp only [Go.binOp, Op.floatArith, ne_eq, not_true_eq_false, if_false, pure_bind]
  exact h1
theorem WPL.fmul {kk : FloatKind} {a b : Nat} (hx : ev σ x = .float kk a) (hy : ev σ y = .float kk b) (hO : Own tb w0 M L R w) (hd : Nat.blt d n = true)
    (h : ∀ r w, FStep kk (kk.format.mul a b) r → Own tb w0 M L R w → WPL P n ops rest k (upd σ d (.float kk r)) ds w) :
    WPL P n ops (⟨some d, .binOp .mul t x y u, ty, pos, af, none⟩ :: rest) k σ ds w := by
  obtain ⟨r, w', h1, h2, h3⟩ := run_fstep (P := P) (kk := kk) (a := a) (b := b) (o := kk.format.mul a b) hO
  refine WPL.val hd (run_binf hx hy ?_) (h r w' h2 h3)
  simp only [Go.binOp, Op.floatArith, ne_eq, not_true_eq_false, if_false, pure_bind]
  exact h1
theorem WPL.fdiv {kk : FloatKind} {a b : Nat} (hx : ev σ x = .float kk a) (hy : ev σ y = .float kk b) (hO : Own tb w0 M L R w) (hd : Nat.blt d n = true)
    (h : ∀ r w, FStep kk (kk.format.div a b) r → Own tb w0 M L R w → WPL P n ops rest k (upd σ d (.float kk r)) ds w) :
    WPL P n ops (⟨some d, .binOp .quo t x y u, ty, pos, af, none⟩ :: rest) k σ ds w := by
  obtain ⟨r, w', h1, h2, h3⟩ := run_fstep (P := P) (kk := kk) (a := a) (b := b) (o := kk.format.div a b) hO
  refine WPL.val hd (run_binf hx hy ?_) (h r w' h2 h3)
  simp only [Go.binOp, Op.floatArith, ne_eq, not_true_eq_false, if_false, pure_bind]
  exact h1
theorem WPL.fneg {kk : FloatKind} {b : Nat} (hx : ev σ x = .float kk b) (hd : Nat.blt d n = true) (h : WPL P n ops rest k (upd σ d (.float kk (Op.negFloat kk b))) ds w) :
    WPL P n ops (⟨some d, .unOp .neg t x, ty, pos, af, none⟩ :: rest) k σ ds w := WPL.val hd (by simp [execOp, hx, Op.unary]) h
theorem WPL.negI {a : Int} (hx : ev σ x = .int .i64 a) (hb : -9223372036854775808 ≤ -a ∧ -a ≤ 9223372036854775807) (hd : Nat.blt d n = true) (h : WPL P n ops rest k (upd σ d (.int .i64 (-a))) ds w) :
    WPL P n ops (⟨some d, .unOp .neg t x, ty, pos, af, none⟩ :: rest) k σ ds w := WPL.val hd (by simp [execOp, hx, Op.unary, Op.intArith, wrap_i64 hb]) h
theorem WPL.negIw {a : Int} (hx : ev σ x = .int .i64 a) (hd : Nat.blt d n = true) (h : WPL P n ops rest k (upd σ d (.int .i64 (IntKind.i64.wrap (-a)))) ds w) :
    WPL P n ops (⟨some d, .unOp .neg t x, ty, pos, af, none⟩ :: rest) k σ ds w := WPL.val hd (by simp [execOp, hx, Op.unary, Op.intArith]) h
theorem WPL.neg_u64 {a : Nat} (hx : ev σ x = .int .u64 (a : Int)) (ha : a < 18446744073709551616) (hd : Nat.blt d n = true) (h : WPL P n ops rest k (upd σ d (.int .u64 (((18446744073709551616 - a) % 18446744073709551616 : Nat) : Int))) ds w) :
    WPL P n ops (⟨some d, .unOp .neg t x, ty, pos, af, none⟩ :: rest) k σ ds w := by
  refine WPL.val hd ?_ h
  have : IntKind.u64.wrap (0 - (a : Int)) = (((18446744073709551616 - a) % 18446744073709551616 : Nat) : Int) := by rw [wrap_u64]; omega
  simp [execOp, hx, Op.unary, Op.intArith]
  simpa using this
theorem WPL.neg_u32 {a : Nat} (hx : ev σ x = .int .u32 (a : Int)) (ha : a < 4294967296) (hd : Nat.blt d n = true) (h : WPL P n ops rest k (upd σ d (.int .u32 (((4294967296 - a) % 4294967296 : Nat) : Int))) ds w) :
    WPL P n ops (⟨some d, .unOp .neg t x, ty, pos, af, none⟩ :: rest) k σ ds w := by
  refine WPL.val hd ?_ h
  have : IntKind.u32.wrap (0 - (a : Int)) = (((4294967296 - a) % 4294967296 : Nat) : Int) := by rw [wrap_u32]; omega
  simp [execOp, hx, Op.unary, Op.intArith]
  simpa using this
theorem WPL.xor_u64' {a : Nat} (hx : ev σ x = .int .u64 (a : Int)) (ha : a < 18446744073709551616) (hd : Nat.blt d n = true) (h : WPL P n ops rest k (upd σ d (.int .u64 ((18446744073709551615 - a : Nat) : Int))) ds w) :
    WPL P n ops (⟨some d, .unOp .xor t x, ty, pos, af, none⟩ :: rest) k σ ds w := by
  refine WPL.val hd ?_ h
  have e : (BitVec.ofInt 64 IntKind.u64.max ^^^ BitVec.ofInt 64 (a : Int)).toNat = 18446744073709551615 - a := by
    have h1 : BitVec.ofInt 64 IntKind.u64.max = BitVec.allOnes 64 := by decide
    rw [h1, BitVec.allOnes_xor, BitVec.toNat_not, BitVec.ofInt_natCast, BitVec.toNat_ofNat, Nat.mod_eq_of_lt ha]
  have h2 : (Op.unary .xor (.int .u64 (a : Int))).run P w = .ok (.int .u64 (IntKind.u64.wrap ((BitVec.ofInt 64 IntKind.u64.max ^^^ BitVec.ofInt 64 (a : Int)).toNat : Int))) w := rfl
  rw [bits_u64, e] at h2
  simp [execOp, hx, h2]
theorem WPL.xor_u32' {a : Nat} (hx : ev σ x = .int .u32 (a : Int)) (ha : a < 4294967296) (hd : Nat.blt d n = true) (h : WPL P n ops rest k (upd σ d (.int .u32 ((4294967295 - a : Nat) : Int))) ds w) :
    WPL P n ops (⟨some d, .unOp .xor t x, ty, pos, af, none⟩ :: rest) k σ ds w := by
  refine WPL.val hd ?_ h
  have e : (BitVec.ofInt 32 IntKind.u32.max ^^^ BitVec.ofInt 32 (a : Int)).toNat = 4294967295 - a := by
    have h1 : BitVec.ofInt 32 IntKind.u32.max = BitVec.allOnes 32 := by decide
    rw [h1, BitVec.allOnes_xor, BitVec.toNat_not, BitVec.ofInt_natCast, BitVec.toNat_ofNat, Nat.mod_eq_of_lt ha]
  have h2 : (Op.unary .xor (.int .u32 (a : Int))).run P w = .ok (.int .u32 (IntKind.u32.wrap ((BitVec.ofInt 32 IntKind.u32.max ^^^ BitVec.ofInt 32 (a : Int)).toNat : Int))) w := rfl
  rw [bits_u32, e] at h2
  simp [execOp, hx, h2]
/-! Conversions of whole numbers. -/
theorem run_cv {ks kd : IntKind} {src dst : TypeId} {Ds : TypeDesc} {zs zd : List Value} {bs bd : Nat} [Ts : Ty P src Ds zs bs] [Td : Ty P dst (.int kd) zd bd] {a : Int} (hx : ev σ x = .int ks a) :
    (execOp (ev σ) ⟨some d, .convert src dst x, ty, pos, af, none⟩).run P w = .ok (.value (.int kd (kd.wrap a))) w := by
  simp only [execOp, hx, convert, underlying, Ts.und, Td.und, Sem.run_bind, run_program, Result.andThen_ok, Sem.run_pure]
  rfl
section
variable {ks : IntKind} {src dst : TypeId} {Ds : TypeDesc} {zs zd : List Value} {bs bd : Nat} [Ts : Ty P src Ds zs bs]
include Ts
theorem WPL.cvw {kd : IntKind} [Td : Ty P dst (.int kd) zd bd] {a : Int} (hx : ev σ x = .int ks a) (hd : Nat.blt d n = true) (h : WPL P n ops rest k (upd σ d (.int kd (kd.wrap a))) ds w) :
    WPL P n ops (⟨some d, .convert src dst x, ty, pos, af, none⟩ :: rest) k σ ds w := WPL.val hd (run_cv hx) h
theorem WPL.cv_i64 [Td : Ty P dst (.int .i64) zd bd] {a : Nat} (hx : ev σ x = .int ks (a : Int)) (ha : a < 9223372036854775808) (hd : Nat.blt d n = true) (h : WPL P n ops rest k (upd σ d (.int .i64 (a : Int))) ds w) :
    WPL P n ops (⟨some d, .convert src dst x, ty, pos, af, none⟩ :: rest) k σ ds w := by
  refine WPL.val hd (run_cv hx) ?_
  rw [wrap_i64 (by omega)]; exact h
theorem WPL.cv_u64 [Td : Ty P dst (.int .u64) zd bd] {a : Nat} (hx : ev σ x = .int ks (a : Int)) (ha : a < 18446744073709551616) (hd : Nat.blt d n = true) (h : WPL P n ops rest k (upd σ d (.int .u64 (a : Int))) ds w) :
    WPL P n ops (⟨some d, .convert src dst x, ty, pos, af, none⟩ :: rest) k σ ds w := by
  refine WPL.val hd (run_cv hx) ?_
  rw [wrap_u64, show (a : Int) % 18446744073709551616 = (a : Int) by omega]; exact h
theorem WPL.cv_u32 [Td : Ty P dst (.int .u32) zd bd] {a : Nat} (hx : ev σ x = .int ks (a : Int)) (ha : a < 4294967296) (hd : Nat.blt d n = true) (h : WPL P n ops rest k (upd σ d (.int .u32 (a : Int))) ds w) :
    WPL P n ops (⟨some d, .convert src dst x, ty, pos, af, none⟩ :: rest) k σ ds w := by
  refine WPL.val hd (run_cv hx) ?_
  rw [wrap_u32, show (a : Int) % 4294967296 = (a : Int) by omega]; exact h
theorem WPL.cm_u64 [Td : Ty P dst (.int .u64) zd bd] {a : Nat} (hx : ev σ x = .int ks (a : Int)) (hd : Nat.blt d n = true) (h : WPL P n ops rest k (upd σ d (.int .u64 ((a % 18446744073709551616 : Nat) : Int))) ds w) :
    WPL P n ops (⟨some d, .convert src dst x, ty, pos, af, none⟩ :: rest) k σ ds w := by
  refine WPL.val hd (run_cv hx) ?_
  rw [wrap_u64, show (a : Int) % 18446744073709551616 = ((a % 18446744073709551616 : Nat) : Int) by omega]; exact h
theorem WPL.cm_u64I [Td : Ty P dst (.int .u64) zd bd] {a : Int} (hx : ev σ x = .int ks a) (hd : Nat.blt d n = true) (h : WPL P n ops rest k (upd σ d (.int .u64 (((a % 18446744073709551616).toNat : Nat) : Int))) ds w) :
    WPL P n ops (⟨some d, .convert src dst x, ty, pos, af, none⟩ :: rest) k σ ds w := by
  refine WPL.val hd (run_cv hx) ?_
  rw [wrap_u64, show a % 18446744073709551616 = (((a % 18446744073709551616).toNat : Nat) : Int) by omega]; exact h
theorem WPL.cm_u32 [Td : Ty P dst (.int .u32) zd bd] {a : Nat} (hx : ev σ x = .int ks (a : Int)) (hd : Nat.blt d n = true) (h : WPL P n ops rest k (upd σ d (.int .u32 ((a % 4294967296 : Nat) : Int))) ds w) :
    WPL P n ops (⟨some d, .convert src dst x, ty, pos, af, none⟩ :: rest) k σ ds w := by
  refine WPL.val hd (run_cv hx) ?_
  rw [wrap_u32, show (a : Int) % 4294967296 = ((a % 4294967296 : Nat) : Int) by omega]; exact h
theorem WPL.cm_u32I [Td : Ty P dst (.int .u32) zd bd] {a : Int} (hx : ev σ x = .int ks a) (hd : Nat.blt d n = true) (h : WPL P n ops rest k (upd σ d (.int .u32 (((a % 4294967296).toNat : Nat) : Int))) ds w) :
    WPL P n ops (⟨some d, .convert src dst x, ty, pos, af, none⟩ :: rest) k σ ds w := by
  refine WPL.val hd (run_cv hx) ?_
  rw [wrap_u32, show a % 4294967296 = (((a % 4294967296).toNat : Nat) : Int) by omega]; exact h
theorem WPL.cm_u8 [Td : Ty P dst (.int .u8) zd bd] {a : Nat} (hx : ev σ x = .int ks (a : Int)) (hd : Nat.blt d n = true) (h : WPL P n ops rest k (upd σ d (.int .u8 ((a % 256 : Nat) : Int))) ds w) :
    WPL P n ops (⟨some d, .convert src dst x, ty, pos, af, none⟩ :: rest) k σ ds w := by
  refine WPL.val hd (run_cv hx) ?_
  rw [wrap_u8, show (a : Int) % 256 = ((a % 256 : Nat) : Int) by omega]; exact h
/-- An int that stays what it is. -/
theorem WPL.cvI [Td : Ty P dst (.int .i64) zd bd] {a : Int} (hx : ev σ x = .int ks a) (ha : -9223372036854775808 ≤ a ∧ a ≤ 9223372036854775807) (hd : Nat.blt d n = true) (h : WPL P n ops rest k (upd σ d (.int .i64 a)) ds w) :
    WPL P n ops (⟨some d, .convert src dst x, ty, pos, af, none⟩ :: rest) k σ ds w := by
  refine WPL.val hd (run_cv hx) ?_
  rw [wrap_i64 ha]; exact h
end
/-! Least and greatest of two ints. -/
theorem WPL.max2 {kk : IntKind} {a b : Int} {at' : Array TypeId} (hx : ev σ x = .int kk a) (hy : ev σ y = .int kk b) (hd : Nat.blt d n = true) (h : WPL P n ops rest k (upd σ d (.int kk (max a b))) ds w) :
    WPL P n ops (⟨some d, .call ⟨.builtin .max, #[x, y], at'⟩, ty, pos, af, none⟩ :: rest) k σ ds w := by
  refine WPL.val hd ?_ h
  have : (if b > a then b else a) = max a b := by omega
  simp [execOp, resolve, invoke, builtin, Builtin.max_, hx, hy, Builtin.max2, this]
theorem WPL.min2 {kk : IntKind} {a b : Int} {at' : Array TypeId} (hx : ev σ x = .int kk a) (hy : ev σ y = .int kk b) (hd : Nat.blt d n = true) (h : WPL P n ops rest k (upd σ d (.int kk (min a b))) ds w) :
    WPL P n ops (⟨some d, .call ⟨.builtin .min, #[x, y], at'⟩, ty, pos, af, none⟩ :: rest) k σ ds w := by
  refine WPL.val hd ?_ h
  have : (if b < a then b else a) = min a b := by omega
  simp [execOp, resolve, invoke, builtin, Builtin.min_, hx, hy, Builtin.min2, this]
end Go.Sw
