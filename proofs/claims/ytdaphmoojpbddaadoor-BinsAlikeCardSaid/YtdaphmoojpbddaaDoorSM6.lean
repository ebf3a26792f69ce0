/- A part of the proof that BinsAlike answers true: steps of the walk, or plain laws that it needs. No conditions of its own. -/
import Derived.Test.YtdaphmoojpbddaaDoorSM5
set_option linter.all false
/-! Rounding, plain maths. -/
namespace Go.Sw
set_option autoImplicit false
set_option linter.all false
def awayB (mode : Int) (s : Bool) (n : Nat) (half one : Bool) : Bool :=
  if mode = 0 then (if half then (if one then decide (n % 2 = 1) else true) else false) else if mode = 4 then half else if mode = 2 then !s else if mode = 3 then s else false
def overB (mode : Int) (s : Bool) : Bool := decide (mode = 1) || (decide (mode = 2) && s) || (decide (mode = 3) && !s)
/-- The exponent of a dyad's number on a grid of p digits. -/
def gexp (p : Nat) (low : Int) (d : Dy) : Int := max ((blen d.m : Int) + d.e - p) low
def gnum (p : Nat) (low : Int) (mode : Int) (d : Dy) : Nat :=
  if 0 < gexp p low d - d.e ∧ awayB mode d.s (shiftN d.m (d.e - gexp p low d)) (decide (d.m / 2 ^ (gexp p low d - d.e - 1).toNat % 2 = 1)) (decide (gexp p low d - d.e = 1)) = true
  then shiftN d.m (d.e - gexp p low d) + 1 else shiftN d.m (d.e - gexp p low d)
/-- A dyad's bits on a grid, without its sign. -/
def roundN (p : Nat) (low : Int) (inf : Nat) (mode : Int) (d : Dy) : Nat :=
  if d.m = 0 then 0
  else if low + (inf / 2 ^ (p - 1) : Nat) - 1 + p - 1 < (blen d.m : Int) + d.e then (if overB mode d.s then inf - 1 else inf)
  else gnum p low mode d + (gexp p low d - low).toNat * 2 ^ (p - 1)
theorem shiftN_blen {n : Nat} {k : Int} {q : Nat} (h : (blen n : Int) + k ≤ q) : shiftN n k < 2 ^ q := by
  rcases Int.lt_or_le k 0 with hk | hk
  · rw [shiftN_neg hk, Nat.div_lt_iff_lt_mul (Nat.two_pow_pos _), ← Nat.pow_add]
    exact blen_le.1 (by omega)
  · rw [shiftN_pos hk]
    have := @blen_mul2 n k.toNat
    exact blen_le.1 (by omega)
theorem gnum_T {p : Nat} {low mode : Int} {d : Dy} (h0 : 0 < gexp p low d - d.e) (ha : awayB mode d.s (shiftN d.m (d.e - gexp p low d)) (decide (d.m / 2 ^ (gexp p low d - d.e - 1).toNat % 2 = 1)) (decide (gexp p low d - d.e = 1)) = true) :
    gnum p low mode d = shiftN d.m (d.e - gexp p low d) + 1 := by unfold gnum; rw [if_pos ⟨h0, ha⟩]
theorem gnum_F {p : Nat} {low mode : Int} {d : Dy} (h0 : 0 < gexp p low d - d.e → awayB mode d.s (shiftN d.m (d.e - gexp p low d)) (decide (d.m / 2 ^ (gexp p low d - d.e - 1).toNat % 2 = 1)) (decide (gexp p low d - d.e = 1)) = false) :
    gnum p low mode d = shiftN d.m (d.e - gexp p low d) := by
  unfold gnum; rw [if_neg]; rintro ⟨h1, h2⟩; rw [h0 h1] at h2; cases h2
theorem gshift_lt {p : Nat} {low : Int} {d : Dy} : shiftN d.m (d.e - gexp p low d) < 2 ^ p := shiftN_blen (by unfold gexp; omega)
theorem gnum_le {p : Nat} {low mode : Int} {d : Dy} : gnum p low mode d ≤ 2 ^ p := by
  have := @gshift_lt p low d
  unfold gnum; split <;> omega
theorem on_leaf {p inf n' : Nat} {low mode : Int} {d : Dy} (hG : 24 ≤ p ∧ p ≤ 53 ∧ -1074 ≤ low ∧ low ≤ -149 ∧ inf / 2 ^ (p - 1) ≤ 2047 ∧ 0 < inf ∧ inf < 18446744073709551616) (hm : d.m ≠ 0)
    (ht : ¬ low + (inf / 2 ^ (p - 1) : Nat) - 1 + p - 1 < (blen d.m : Int) + d.e) (hn : n' = gnum p low mode d) :
    (n' + (gexp p low d - low).toNat * 2 ^ (p - 1) % 18446744073709551616) % 18446744073709551616 = roundN p low inf mode d := by
  rw [roundN, if_neg hm, if_neg ht, hn]
  have h1 := @gnum_le p low mode d
  have h2 : 2 ^ p ≤ 2 ^ 53 := Nat.pow_le_pow_right (by omega) (by omega)
  have h3 : 2 ^ (p - 1) ≤ 2 ^ 52 := Nat.pow_le_pow_right (by omega) (by omega)
  have h4 : (gexp p low d - low).toNat ≤ 2047 := by unfold gexp; omega
  have h5 : (gexp p low d - low).toNat * 2 ^ (p - 1) ≤ 2047 * 2 ^ 52 := Nat.mul_le_mul h4 h3
  generalize (gexp p low d - low).toNat * 2 ^ (p - 1) = z at *
  omega
theorem blen_eq_zero {n : Nat} (h : blen n = 0) : n = 0 := by
  rcases Nat.eq_zero_or_pos n with e | e
  · exact e
  · have := blen_pos (show n ≠ 0 by omega); omega
theorem round_over {p inf : Nat} {low mode : Int} {d : Dy} (hm : d.m ≠ 0) (h : low + (inf / 2 ^ (p - 1) : Nat) - 1 + p - 1 < (blen d.m : Int) + d.e) : roundN p low inf mode d = if overB mode d.s then inf - 1 else inf := by
  rw [roundN, if_neg hm, if_pos h]
/-- A dyad's number of 64 digits. -/
def round64 (mode : Int) (d : Dy) : Nat := if d.s then roundN 53 (-1074) 9218868437227405312 mode d ^^^ 9223372036854775808 else roundN 53 (-1074) 9218868437227405312 mode d
def round32 (mode : Int) (d : Dy) : Nat := if d.s then roundN 24 (-149) 2139095040 mode d ^^^ 2147483648 else roundN 24 (-149) 2139095040 mode d
end Go.Sw
