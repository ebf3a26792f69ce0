/- A part of the proof that BinsAlike answers true: steps of the walk, or plain laws that it needs. No conditions of its own. -/
import Derived.Test.YtdaphmoojpbddaaDoorSM3
set_option linter.all false
/-! What a round of each loop over words leaves true. -/
namespace Go.Sw
set_option autoImplicit false
set_option linter.all false
theorem pow_succ_B (i : Nat) : (4294967296 : Nat) ^ (i + 1) = 4294967296 ^ i * 4294967296 := Nat.pow_succ ..
theorem less_next {l l2 o : List Nat} {i c y : Nat} (hi : i < l.length) (ho : o.length = l.length) (hwo : Wd o) (hw : Wd l) (hw2 : Wd l2) (hc : c ≤ 1) (hy : l2.getD i 0 = y)
    (h : val (o.take i) + val (l2.take i) = val (l.take i) + c * 4294967296 ^ i) :
    (o.set i ((l.getD i 0 + 4294967296 - y - c + 4294967296) % 4294967296)).length = l.length ∧ Wd (o.set i ((l.getD i 0 + 4294967296 - y - c + 4294967296) % 4294967296)) ∧ (if l.getD i 0 < y + c then 1 else 0) ≤ 1 ∧
    val ((o.set i ((l.getD i 0 + 4294967296 - y - c + 4294967296) % 4294967296)).take (i + 1)) + val (l2.take (i + 1)) = val (l.take (i + 1)) + (if l.getD i 0 < y + c then 1 else 0) * 4294967296 ^ (i + 1) := by
  subst hy
  refine ⟨by simp [ho], hwo.set i (Nat.mod_lt _ (by decide)), by split <;> decide, ?_⟩
  rw [val_take_set (by omega), val_take_succ, val_take_succ, pow_succ_B]
  exact sub_step h (hw.get i) (hw2.get i) hc
theorem add_next {l l2 o : List Nat} {i c y n : Nat} (hn : i < n) (ho : o.length = n) (hwo : Wd o) (hw : Wd l) (hw2 : Wd l2) (hc : c ≤ 1) (hy : l2.getD i 0 = y)
    (h : val (o.take i) + c * 4294967296 ^ i = val (l.take i) + val (l2.take i)) :
    (o.set i ((l.getD i 0 + y + c) % 4294967296)).length = n ∧ Wd (o.set i ((l.getD i 0 + y + c) % 4294967296)) ∧ (l.getD i 0 + y + c) / 4294967296 ≤ 1 ∧
    val ((o.set i ((l.getD i 0 + y + c) % 4294967296)).take (i + 1)) + (l.getD i 0 + y + c) / 4294967296 * 4294967296 ^ (i + 1) = val (l.take (i + 1)) + val (l2.take (i + 1)) := by
  subst hy
  have h1 := hw.get i
  have h2 := hw2.get i
  refine ⟨by simp [ho], hwo.set i (Nat.mod_lt _ (by decide)), by omega, ?_⟩
  rw [val_take_set (by omega), val_take_succ, val_take_succ, pow_succ_B]
  exact add_step h h1 h2 hc
theorem add_end {l l2 o : List Nat} {c k : Nat} (ho : o.length = k + 1) (h : val (o.take k) + c * 4294967296 ^ k = val l + val l2) : val (o.set k c) = val l + val l2 := by
  have e := val_take_set (l := o) (i := k) (x := c) (by omega)
  rw [← h, Nat.mul_comm c, ← e]
  congr 1
  rw [List.take_of_length_le]; simp [ho]
theorem up_next {l o : List Nat} {i b : Nat} (hi : i < l.length) (ho : o.length = l.length + 1) (hwo : Wd o) (hw : Wd l) (hb : b < 32) (h : val o = val (l.take i) * 2 ^ b) (hz : ∀ k, i < k → o.getD k 0 = 0) (hl : o.getD i 0 < 2 ^ b) :
    ((o.set i (o.getD i 0 ||| l.getD i 0 * 2 ^ b % 18446744073709551616 % 4294967296)).set (i + 1) (l.getD i 0 * 2 ^ b % 18446744073709551616 / 4294967296 % 4294967296)).length = l.length + 1 ∧
    Wd ((o.set i (o.getD i 0 ||| l.getD i 0 * 2 ^ b % 18446744073709551616 % 4294967296)).set (i + 1) (l.getD i 0 * 2 ^ b % 18446744073709551616 / 4294967296 % 4294967296)) ∧
    val ((o.set i (o.getD i 0 ||| l.getD i 0 * 2 ^ b % 18446744073709551616 % 4294967296)).set (i + 1) (l.getD i 0 * 2 ^ b % 18446744073709551616 / 4294967296 % 4294967296)) = val (l.take (i + 1)) * 2 ^ b ∧
    (∀ k, i + 1 < k → ((o.set i (o.getD i 0 ||| l.getD i 0 * 2 ^ b % 18446744073709551616 % 4294967296)).set (i + 1) (l.getD i 0 * 2 ^ b % 18446744073709551616 / 4294967296 % 4294967296)).getD k 0 = 0) ∧
    ((o.set i (o.getD i 0 ||| l.getD i 0 * 2 ^ b % 18446744073709551616 % 4294967296)).set (i + 1) (l.getD i 0 * 2 ^ b % 18446744073709551616 / 4294967296 % 4294967296)).getD (i + 1) 0 < 2 ^ b := by
  have hx := hw.get i
  have h32 : 2 ^ b ≤ 2 ^ 31 := Nat.pow_le_pow_right (by omega) (by omega)
  have ht : l.getD i 0 * 2 ^ b < 18446744073709551616 := by
    have : l.getD i 0 * 2 ^ b ≤ 4294967295 * 2147483648 := Nat.mul_le_mul (by omega) h32
    omega
  rw [Nat.mod_eq_of_lt ht]
  have hq : l.getD i 0 * 2 ^ b / 4294967296 < 2 ^ b := up_lt hx hb
  rw [Nat.mod_eq_of_lt (show l.getD i 0 * 2 ^ b / 4294967296 < 4294967296 by omega)]
  have hor : o.getD i 0 ||| l.getD i 0 * 2 ^ b % 4294967296 = o.getD i 0 + l.getD i 0 * 2 ^ b % 4294967296 := by
    obtain ⟨r, hr⟩ := up_low (x := l.getD i 0) hb
    rw [hr]; exact or_add hl
  rw [hor]
  have hlt : o.getD i 0 + l.getD i 0 * 2 ^ b % 4294967296 < 4294967296 := by
    have : o.getD i 0 ||| l.getD i 0 * 2 ^ b % 4294967296 < 2 ^ 32 := Nat.or_lt_two_pow (by omega) (Nat.mod_lt _ (by decide))
    omega
  refine ⟨by simp [ho], (hwo.set i hlt).set _ (by omega), ?_, ?_, ?_⟩
  · have e1 := val_set (l := o) (i := i) (x := o.getD i 0 + l.getD i 0 * 2 ^ b % 4294967296) (by omega)
    have e2 := val_set0 (l := o.set i (o.getD i 0 + l.getD i 0 * 2 ^ b % 4294967296)) (i := i + 1) (x := l.getD i 0 * 2 ^ b / 4294967296) (by simp; omega) (by rw [getD_set_other (by omega)]; exact hz _ (by omega))
    rw [pow_succ_B] at e2
    rw [val_take_succ]
    exact up_step (x := l.getD i 0) h e1 e2 rfl
  · intro k hk
    rw [getD_set_other (by omega), getD_set_other (by omega)]; exact hz _ (by omega)
  · rw [getD_set_self (by simp; omega)]; exact hq
theorem down_next {l o : List Nat} {i b X : Nat} (hi : i < l.length) (ho : o.length = l.length) (hwo : Wd o) (hw : Wd l) (hb : b < 32) (h : val (o.take i) = val l / 2 ^ b % 4294967296 ^ i)
    (hX : X = (l.getD i 0 + 4294967296 * l.getD (i + 1) 0) / 2 ^ b % 4294967296) :
    (o.set i X).length = l.length ∧ Wd (o.set i X) ∧ val ((o.set i X).take (i + 1)) = val l / 2 ^ b % 4294967296 ^ (i + 1) := by
  refine ⟨by simp [ho], hwo.set i (by rw [hX]; exact Nat.mod_lt _ (by decide)), ?_⟩
  rw [val_take_set (by omega), pow_succ_B]
  exact down_step h (by rw [hX, down_get hw hb])
theorem down_two {x y b : Nat} (hx : x < 4294967296) (hy : y < 4294967296) : (x ||| y * 4294967296 % 18446744073709551616) / 2 ^ b % 4294967296 = (x + 4294967296 * y) / 2 ^ b % 4294967296 := by
  rw [Nat.mod_eq_of_lt (show y * 4294967296 < 18446744073709551616 by omega), or_add (k := 32) hx, show x + y * 2 ^ 32 = x + 4294967296 * y by omega]
theorem down_end {l o : List Nat} {b : Nat} (ho : o.length = l.length) (hw : Wd l) (h : val (o.take l.length) = val l / 2 ^ b % 4294967296 ^ l.length) : val o = val l / 2 ^ b := by
  rw [List.take_of_length_le (by omega)] at h
  rw [h, Nat.mod_eq_of_lt]
  exact Nat.lt_of_le_of_lt (Nat.div_le_self ..) (val_lt hw)
theorem mul_next {l2 o : List Nat} {i j c T x : Nat} (hx : x < 4294967296) (hj : i + j < o.length) (hwo : Wd o) (hw2 : Wd l2) (hc : c < 4294967296)
    (h : val o + c * 4294967296 ^ (i + j) = T + x * val (l2.take j) * 4294967296 ^ i) :
    ((x * l2.getD j 0 % 18446744073709551616 + o.getD (i + j) 0) % 18446744073709551616 + c) % 18446744073709551616 / 4294967296 < 4294967296 ∧
    Wd (o.set (i + j) (((x * l2.getD j 0 % 18446744073709551616 + o.getD (i + j) 0) % 18446744073709551616 + c) % 18446744073709551616 % 4294967296)) ∧
    val (o.set (i + j) (((x * l2.getD j 0 % 18446744073709551616 + o.getD (i + j) 0) % 18446744073709551616 + c) % 18446744073709551616 % 4294967296)) + ((x * l2.getD j 0 % 18446744073709551616 + o.getD (i + j) 0) % 18446744073709551616 + c) % 18446744073709551616 / 4294967296 * 4294967296 ^ (i + (j + 1)) = T + x * val (l2.take (j + 1)) * 4294967296 ^ i := by
  have hy := hw2.get j
  have hoo := hwo.get (i + j)
  have hlt := mul_step_lt hx hy hoo hc
  have e : ((x * l2.getD j 0 % 18446744073709551616 + o.getD (i + j) 0) % 18446744073709551616 + c) % 18446744073709551616 = x * l2.getD j 0 + o.getD (i + j) 0 + c := by
    generalize x * l2.getD j 0 = z at *; omega
  rw [e]
  refine ⟨by generalize x * l2.getD j 0 = z at *; omega, hwo.set _ (Nat.mod_lt _ (by decide)), ?_⟩
  have hV := val_set (l := o) (i := i + j) (x := (x * l2.getD j 0 + o.getD (i + j) 0 + c) % 4294967296) hj
  have := mul_step (q := (x * l2.getD j 0 + o.getD (i + j) 0 + c) / 4294967296) hV h rfl rfl
  rw [show i + (j + 1) = i + j + 1 from rfl, pow_succ_B, this, val_take_succ, Nat.mul_add, Nat.add_mul, Nat.pow_add]
  simp only [Nat.mul_assoc, Nat.add_assoc, Nat.mul_comm, Nat.mul_left_comm]
theorem mul_row {l l2 o : List Nat} {i c : Nat} (hi : i < l.length) (ho : o.length = l.length + l2.length) (hc : c < 4294967296) (hz : o.getD (i + l2.length) 0 = 0)
    (h : val o + c * 4294967296 ^ (i + l2.length) = val (l.take i) * val l2 + l.getD i 0 * val (l2.take l2.length) * 4294967296 ^ i) :
    val (o.set (i + l2.length) (c % 4294967296)) = val (l.take (i + 1)) * val l2 := by
  rw [val_set0 (by omega) hz, Nat.mod_eq_of_lt hc, Nat.mul_comm _ c, h, List.take_length, val_take_succ, Nat.add_mul]
  congr 1
  simp only [Nat.mul_assoc, Nat.mul_comm, Nat.mul_left_comm]
theorem cmpN_neg {a b : Nat} : cmpN a b < 0 ↔ a < b := by
  unfold cmpN; split
  · simp_all
  · split <;> simp_all <;> omega
theorem down_one {x y b : Nat} (hy : y = 0) : x / 2 ^ b % 4294967296 = (x + 4294967296 * y) / 2 ^ b % 4294967296 := by subst hy; rfl
/-- A number by a power of two, up or down. -/
def shiftN (n : Nat) (k : Int) : Nat := if 0 ≤ k then n * 2 ^ k.toNat else n / 2 ^ (-k).toNat
theorem shiftN_neg {n : Nat} {k : Int} (h : k < 0) : shiftN n k = n / 2 ^ (-k).toNat := by unfold shiftN; rw [if_neg (by omega)]
theorem shiftN_pos {n : Nat} {k : Int} (h : 0 ≤ k) : shiftN n k = n * 2 ^ k.toNat := by unfold shiftN; rw [if_pos h]
theorem shift_small {n j : Nat} (h : blen n ≤ j) : n / 2 ^ j = 0 := Nat.div_eq_of_lt (blen_le.1 h)
theorem shift_zero {k : Int} : shiftN 0 k = 0 := by unfold shiftN; split <;> simp
theorem shift_dn {n j : Nat} : val ((dig n).drop (j / 32)) / 2 ^ (j % 32) = n / 2 ^ j := by
  rw [← val_shift (dig_wd n), val_dig, Nat.div_div_eq_div_mul, ← pow_split]
theorem shift_up {o : List Nat} {n k : Nat} (h : val o = n * 2 ^ (k % 32)) : val (List.replicate (k / 32) 0 ++ o) = n * 2 ^ k := by
  rw [val_append, val_zeros, List.length_replicate, h, Nat.zero_add, Nat.mul_left_comm, ← pow_split]
theorem blen_len (n : Nat) : blen n ≤ 32 * (dig n).length := by
  rw [blen_le, ← pow_B]; exact dig_len_le.1 (Nat.le_refl _)
theorem len_blen {n k : Nat} (h : blen n ≤ 32 * k) : (dig n).length ≤ k := by
  rw [dig_len_le, pow_B]; exact blen_le.1 h
theorem dig_len_zero {n : Nat} (h : (dig n).length = 0) : n = 0 := dig_eq_nil.1 (List.eq_nil_of_length_eq_zero h)
theorem blen_mul2 {n k : Nat} : blen (n * 2 ^ k) ≤ blen n + k := by
  rw [blen_le, Nat.pow_add]; exact Nat.mul_lt_mul_of_pos_right (blen_le.1 (Nat.le_refl _)) (Nat.two_pow_pos _)
theorem len_mono {a b : Nat} (h : a ≤ b) : (dig a).length ≤ (dig b).length := by
  rw [dig_len_le]; exact Nat.lt_of_le_of_lt h (dig_len_le.1 (Nat.le_refl _))
end Go.Sw
