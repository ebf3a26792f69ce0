/- A part of the proof that BinsAlike answers true: steps of the walk, or plain laws that it needs. No conditions of its own. -/
import Derived.Test.YtdaphmoojpbddaaDoorSM6
set_option linter.all false
/-! A number's parts. -/
namespace Go.Sw
set_option autoImplicit false
set_option linter.all false
structure Pt where
  neg : Bool
  cls : Int
  e : Int
  f : Nat
def split (b : Nat) : Pt :=
  if b / 4503599627370496 % 2048 = 2047 then (if b % 4503599627370496 = 0 then ⟨decide (9223372036854775808 ≤ b), 3, 0, 0⟩ else ⟨false, 4, 0, 0⟩)
  else if 0 < b / 4503599627370496 % 2048 then ⟨decide (9223372036854775808 ≤ b), 2, -1074 + (b / 4503599627370496 % 2048 : Nat) - 1, b % 4503599627370496 + 4503599627370496⟩
  else if 0 < b % 4503599627370496 then ⟨decide (9223372036854775808 ≤ b), 1, -1074, b % 4503599627370496⟩
  else ⟨decide (9223372036854775808 ≤ b), 0, -1074, 0⟩
theorem split_odd {b : Nat} (h1 : b / 4503599627370496 % 2048 = 2047) (h2 : b % 4503599627370496 ≠ 0) : split b = ⟨false, 4, 0, 0⟩ := by unfold split; rw [if_pos h1, if_neg h2]
theorem split_end {b : Nat} (h1 : b / 4503599627370496 % 2048 = 2047) (h2 : b % 4503599627370496 = 0) : split b = ⟨decide (9223372036854775808 ≤ b), 3, 0, 0⟩ := by unfold split; rw [if_pos h1, if_pos h2]
theorem split_plain {b : Nat} (h1 : b / 4503599627370496 % 2048 ≠ 2047) (h2 : 0 < b / 4503599627370496 % 2048) : split b = ⟨decide (9223372036854775808 ≤ b), 2, -1074 + (b / 4503599627370496 % 2048 : Nat) - 1, b % 4503599627370496 + 4503599627370496⟩ := by unfold split; rw [if_neg h1, if_pos h2]
theorem split_small {b : Nat} (h1 : b / 4503599627370496 % 2048 = 0) (h2 : 0 < b % 4503599627370496) : split b = ⟨decide (9223372036854775808 ≤ b), 1, -1074, b % 4503599627370496⟩ := by unfold split; rw [if_neg (by omega), if_neg (by omega), if_pos h2]
theorem split_zero {b : Nat} (h1 : b / 4503599627370496 % 2048 = 0) (h2 : b % 4503599627370496 = 0) : split b = ⟨decide (9223372036854775808 ≤ b), 0, -1074, 0⟩ := by unfold split; rw [if_neg (by omega), if_neg (by omega), if_neg (by omega)]
end Go.Sw
