/- A part of the proof that BinsAlike answers true: steps of the walk, or plain laws that it needs. No conditions of its own. -/
import Derived.Test.YtdaphmoojpbddaaDoorSM
set_option linter.all false
/-! Plain maths of the loops over words. -/
namespace Go.Sw
set_option autoImplicit false
/-- A step of a sum. -/
theorem add_step {O A Bv p a y c : Nat} (h : O + c * p = A + Bv) (ha : a < 4294967296) (hy : y < 4294967296) (hc : c ≤ 1) :
    O + p * ((a + y + c) % 4294967296) + (a + y + c) / 4294967296 * (p * 4294967296) = (A + p * a) + (Bv + p * y) := by
  have e := Nat.div_add_mod (a + y + c) 4294967296
  generalize (a + y + c) / 4294967296 = q at *
  generalize (a + y + c) % 4294967296 = r at *
  have : p * (a + y + c) = p * (4294967296 * q + r) := by rw [e]
  simp only [Nat.mul_add] at this
  have e2 : q * (p * 4294967296) = p * (4294967296 * q) := by rw [Nat.mul_comm p 4294967296, ← Nat.mul_assoc, Nat.mul_comm q, Nat.mul_comm (4294967296 * q) p]
  rw [e2]
  have e3 : c * p = p * c := Nat.mul_comm _ _
  omega
/-- A step of a difference. -/
theorem sub_step {O A Bv p a y c : Nat} (h : O + Bv = A + c * p) (ha : a < 4294967296) (hy : y < 4294967296) (hc : c ≤ 1) :
    O + p * ((a + 4294967296 - y - c + 4294967296) % 4294967296) + (Bv + p * y) = (A + p * a) + (if a < y + c then 1 else 0) * (p * 4294967296) := by
  have e : (a + 4294967296 - y - c + 4294967296) % 4294967296 + y + c = a + (if a < y + c then 1 else 0) * 4294967296 := by split <;> omega
  generalize (a + 4294967296 - y - c + 4294967296) % 4294967296 = r at *
  generalize (if a < y + c then 1 else 0) = q at *
  have : p * (r + y + c) = p * (a + q * 4294967296) := by rw [e]
  simp only [Nat.mul_add] at this
  have e2 : q * (p * 4294967296) = p * (q * 4294967296) := by rw [← Nat.mul_assoc, Nat.mul_comm q p, Nat.mul_assoc]
  rw [e2]
  have e3 : c * p = p * c := Nat.mul_comm _ _
  omega
/-- A step of a product: word i of a times word j of b. -/
theorem mul_step_lt {x y o c : Nat} (hx : x < 4294967296) (hy : y < 4294967296) (ho : o < 4294967296) (hc : c < 4294967296) : x * y + o + c < 18446744073709551616 := by
  have : x * y ≤ 4294967295 * 4294967295 := Nat.mul_le_mul (by omega) (by omega)
  omega
theorem mul_step {V V' T o t x y p c q : Nat} (hV : V' + p * o = V + p * (t % 4294967296)) (h : V + c * p = T) (ht : t = x * y + o + c) (hq : q = t / 4294967296) : V' + q * (p * 4294967296) = T + x * y * p := by
  subst hq
  have e := Nat.div_add_mod t 4294967296
  generalize t / 4294967296 = q at *
  generalize t % 4294967296 = r at *
  have h1 : p * (4294967296 * q + r) = p * (x * y + o + c) := by rw [e, ht]
  simp only [Nat.mul_add] at h1
  have e2 : q * (p * 4294967296) = p * (4294967296 * q) := by rw [Nat.mul_comm p 4294967296, ← Nat.mul_assoc, Nat.mul_comm q, Nat.mul_comm (4294967296 * q) p]
  have e3 : c * p = p * c := Nat.mul_comm _ _
  have e4 : x * y * p = p * (x * y) := Nat.mul_comm _ _
  rw [e2, e4]
  omega
theorem val_set0 {l : List Nat} {i x : Nat} (h : i < l.length) (h0 : l.getD i 0 = 0) : val (l.set i x) = val l + 4294967296 ^ i * x := by
  have := val_set (x := x) h
  rw [h0] at this; simpa using this
theorem or_add {c r k : Nat} (hc : c < 2 ^ k) : c ||| (r * 2 ^ k) = c + r * 2 ^ k := by
  rw [Nat.or_comm, Nat.mul_comm, ← Nat.two_pow_add_eq_or_of_lt hc, Nat.add_comm]
/-- The words of a number times 2^by (by below 32): the low part of a word's. -/
theorem up_low {x by' : Nat} (hb : by' < 32) : ∃ r, x * 2 ^ by' % 4294967296 = r * 2 ^ by' := by
  refine ⟨x % 2 ^ (32 - by'), ?_⟩
  have : (4294967296 : Nat) = 2 ^ (32 - by') * 2 ^ by' := by rw [← Nat.pow_add, show 32 - by' + by' = 32 by omega]
  rw [this, Nat.mul_mod_mul_right]
theorem up_lt {x by' : Nat} (hx : x < 4294967296) (hb : by' < 32) : x * 2 ^ by' / 4294967296 < 2 ^ by' := by
  rw [Nat.div_lt_iff_lt_mul (by omega), Nat.mul_comm (2 ^ by')]
  exact Nat.mul_lt_mul_of_pos_right hx (Nat.two_pow_pos _)
theorem up_step {V V' V'' N p x c t by' : Nat} (h : V = N * 2 ^ by') (hV : V' + p * c = V + p * (c + t % 4294967296)) (hV2 : V'' = V' + p * 4294967296 * (t / 4294967296)) (ht : t = x * 2 ^ by') : V'' = (N + p * x) * 2 ^ by' := by
  have e := Nat.div_add_mod t 4294967296
  rw [hV2]
  generalize t / 4294967296 = q at *
  generalize t % 4294967296 = r at *
  rw [Nat.mul_add] at hV
  have h1 : p * (4294967296 * q + r) = p * (x * 2 ^ by') := by rw [e, ht]
  rw [Nat.mul_add, ← Nat.mul_assoc] at h1
  rw [Nat.add_mul, ← h, Nat.mul_assoc p x, ← h1]
  omega
/-- The words of a number by 2^by. -/
theorem val_shift {l : List Nat} (hw : Wd l) (i : Nat) : val l / 4294967296 ^ i = val (l.drop i) := by
  rcases Nat.lt_or_ge i l.length with h | h
  · have h1 := val_take_drop l i (by omega)
    have h2 := val_lt (hw.take i)
    rw [List.length_take, Nat.min_eq_left (by omega)] at h2
    rw [h1, Nat.add_mul_div_left _ _ (Nat.pow_pos (by omega)), Nat.div_eq_of_lt h2, Nat.zero_add]
  · rw [List.drop_eq_nil_iff.2 h, val_nil]
    exact Nat.div_eq_of_lt (Nat.lt_of_lt_of_le (val_lt hw) (Nat.pow_le_pow_right (by omega) h))
theorem drop_getD {l : List Nat} {i : Nat} : val (l.drop i) = l.getD i 0 + 4294967296 * val (l.drop (i + 1)) := by
  rcases Nat.lt_or_ge i l.length with h | h
  · rw [List.drop_eq_getElem_cons h, val_cons, List.getD_eq_getElem?_getD, List.getElem?_eq_getElem h]; rfl
  · rw [List.drop_eq_nil_iff.2 h, List.drop_eq_nil_iff.2 (by omega), getD_ge h]; rfl
theorem down_word {n by' : Nat} (hb : by' < 32) (X r : Nat) (hn : n = X + 18446744073709551616 * r) (hX : X < 18446744073709551616) : n / 2 ^ by' % 4294967296 = X / 2 ^ by' % 4294967296 := by
  have e : (18446744073709551616 : Nat) = 2 ^ by' * (4294967296 * 2 ^ (32 - by')) := by
    rw [← Nat.mul_assoc, Nat.mul_comm (2 ^ by'), Nat.mul_assoc, ← Nat.pow_add, show by' + (32 - by') = 32 by omega]
  rw [hn, e, Nat.mul_assoc, Nat.add_mul_div_left _ _ (Nat.two_pow_pos _), Nat.mul_assoc, Nat.add_mul_mod_self_left]
/-- Word i of a number by 2^by. -/
theorem down_get {l : List Nat} (hw : Wd l) {i by' : Nat} (hb : by' < 32) : val l / 2 ^ by' / 4294967296 ^ i % 4294967296 = (l.getD i 0 + 4294967296 * l.getD (i + 1) 0) / 2 ^ by' % 4294967296 := by
  rw [Nat.div_div_eq_div_mul, Nat.mul_comm, ← Nat.div_div_eq_div_mul, val_shift hw]
  refine down_word hb _ (val (l.drop (i + 2))) ?_ ?_
  · rw [drop_getD, drop_getD, show i + 2 = i + 1 + 1 from rfl]; omega
  · have := hw.get i; have := hw.get (i + 1); omega
theorem down_step {V n p w : Nat} (h : V = n % p) (hw : w = n / p % 4294967296) : V + p * w = n % (p * 4294967296) := by
  rw [h, hw, Nat.mod_mul]
/-- What the one-word form makes of two words. -/
theorem lower_word {x y by' : Nat} (hx : x < 4294967296) (hy : y < 4294967296) (hb : 0 < by') (hb2 : by' < 32) : x / 2 ^ by' ||| (y * 2 ^ (32 - by') % 4294967296) = (x + 4294967296 * y) / 2 ^ by' % 4294967296 := by
  have e : (4294967296 : Nat) = 2 ^ by' * 2 ^ (32 - by') := by rw [← Nat.pow_add, show by' + (32 - by') = 32 by omega]
  have h1 : x / 2 ^ by' < 2 ^ (32 - by') := by
    rw [Nat.div_lt_iff_lt_mul (Nat.two_pow_pos _), Nat.mul_comm]; rw [← e]; exact hx
  have h2 : y * 2 ^ (32 - by') % 4294967296 = (y % 2 ^ by') * 2 ^ (32 - by') := by
    conv => lhs; rhs; rw [e]
    rw [Nat.mul_mod_mul_right]
  rw [h2, or_add h1]
  have h3 : (x + 4294967296 * y) / 2 ^ by' = x / 2 ^ by' + 2 ^ (32 - by') * y := by
    conv => lhs; rw [e]
    rw [Nat.mul_assoc, Nat.add_mul_div_left _ _ (Nat.two_pow_pos _)]
  rw [h3]
  have h4 : 2 ^ (32 - by') * y % 4294967296 = (y % 2 ^ by') * 2 ^ (32 - by') := by rw [Nat.mul_comm, h2]
  have h5 : (y % 2 ^ by') * 2 ^ (32 - by') + 2 ^ (32 - by') ≤ 4294967296 := by
    have : (y % 2 ^ by' + 1) * 2 ^ (32 - by') ≤ 2 ^ by' * 2 ^ (32 - by') := Nat.mul_le_mul_right _ (Nat.mod_lt _ (Nat.two_pow_pos _))
    rw [← e] at this; rw [Nat.add_mul] at this; omega
  clear h2 h3 e
  generalize x / 2 ^ by' = A at *
  generalize y % 2 ^ by' * 2 ^ (32 - by') = Q at *
  generalize 2 ^ (32 - by') * y = Z at *
  generalize 2 ^ (32 - by') = p at *
  omega
theorem blen_shr {x k : Nat} (h : 2 ^ k ≤ x) : blen (x / 2 ^ k) + k = blen x := by
  have hne : x / 2 ^ k ≠ 0 := by
    have := Nat.div_pos h (Nat.two_pow_pos k); omega
  have h1 := blen_mul_pow hne k
  rw [← h1]
  refine (blen_unique ?_ (.inr ?_)).symm
  · have := blen_le.1 (Nat.le_refl (blen (x / 2 ^ k)))
    rw [h1, Nat.pow_add]
    exact (Nat.div_lt_iff_lt_mul (Nat.two_pow_pos k)).1 this
  · have hp := blen_pos hne
    have : 2 ^ (blen (x / 2 ^ k) - 1) ≤ x / 2 ^ k := lt_blen.1 (by omega)
    rw [h1, show blen (x / 2 ^ k) + k - 1 = (blen (x / 2 ^ k) - 1) + k by omega, Nat.pow_add]
    exact (Nat.le_div_iff_mul_le (Nat.two_pow_pos k)).1 this
theorem blen_dig {n : Nat} (h : n ≠ 0) : 32 * ((dig n).length - 1) + blen ((dig n).getD ((dig n).length - 1) 0) = blen n := by
  have hne : dig n ≠ [] := fun e => h (dig_eq_nil.1 e)
  obtain ⟨a, x, e⟩ : ∃ a x, dig n = a ++ [x] := ⟨_, _, (List.dropLast_concat_getLast hne).symm⟩
  have hx : x ≠ 0 := dig_fm n x (by rw [e]; simp)
  have hw : Wd a := (e ▸ dig_wd n : Wd (a ++ [x])).left
  have := blen_snoc hw hx
  rw [← e, val_dig] at this
  rw [e]
  simp [List.getD_eq_getElem?_getD, this]
theorem land_neg {x : Nat} (hx : x < 4294967296) (h0 : x ≠ 0) : x &&& ((4294967296 - x) % 4294967296) = 2 ^ tz x := by
  obtain ⟨m, hm, hodd⟩ := tz_spec h0
  have ht : tz x < 32 := by
    rcases Nat.lt_or_ge (tz x) 32 with h | h
    · exact h
    · have : 2 ^ 32 ≤ 2 ^ tz x := Nat.pow_le_pow_right (by omega) h
      have h1 : 0 < m := by omega
      have : 2 ^ tz x * 1 ≤ 2 ^ tz x * m := Nat.mul_le_mul_left _ h1
      omega
  generalize hk : tz x = t at *
  have e : (4294967296 : Nat) = 2 ^ t * 2 ^ (32 - t) := by rw [← Nat.pow_add, show t + (32 - t) = 32 by omega]
  have hml : m < 2 ^ (32 - t) := by
    rcases Nat.lt_or_ge m (2 ^ (32 - t)) with h | h
    · exact h
    · have : 2 ^ t * 2 ^ (32 - t) ≤ 2 ^ t * m := Nat.mul_le_mul_left _ h
      omega
  have h2 : (4294967296 - x) % 4294967296 = 2 ^ t * (2 ^ (32 - t) - m) := by
    rw [Nat.mul_sub, ← e, ← hm, Nat.mod_eq_of_lt (by omega)]
  rw [h2]
  conv => lhs; lhs; rw [hm]
  rw [Nat.mul_comm (2 ^ t), Nat.mul_comm (2 ^ t), ← Nat.shiftLeft_eq, ← Nat.shiftLeft_eq, ← Nat.shiftLeft_and_distrib, Nat.shiftLeft_eq]
  have h3 : m &&& (2 ^ (32 - t) - m) = 1 := by
    apply Nat.eq_of_testBit_eq
    intro i
    rw [Nat.testBit_and]
    have hm1 : 2 ^ (32 - t) - m = 2 ^ (32 - t) - ((m - 1) + 1) := by omega
    rw [hm1, Nat.testBit_two_pow_sub_succ (by omega)]
    cases i with
    | zero => 
      have : 0 < 32 - t := by omega
      simp [this, hodd]; omega
    | succ i =>
      have h4 : (m - 1).testBit (i + 1) = m.testBit (i + 1) := by
        rw [Nat.testBit_succ, Nat.testBit_succ]; congr 1; omega
      rw [h4]
      have h5 : Nat.testBit 1 (i + 1) = false := by rw [Nat.testBit_succ]; simp
      rw [h5]
      cases m.testBit (i + 1) <;> simp
  rw [h3, Nat.one_mul]
theorem blen_mod (j : Nat) : blen (j % 256) ≤ 8 := blen_le.2 (Nat.mod_lt _ (by decide))
theorem i64_small {a : Int} {b : Nat} (h : b ≤ 8) (ha : 0 ≤ a ∧ a ≤ 100) : -9223372036854775808 ≤ a + (b : Int) ∧ a + (b : Int) ≤ 9223372036854775807 := by omega
theorem len32_leaf {x k y : Nat} (h : 2 ^ k ≤ x) (hy : x / 2 ^ k < 256) (e : y = x / 2 ^ k % 256) : k + blen y = blen x := by
  rw [e, Nat.mod_eq_of_lt hy, Nat.add_comm]; exact blen_shr h
end Go.Sw
