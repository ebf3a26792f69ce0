/- A part of the proof that BinsAlike answers true: steps of the walk, or plain laws that it needs. No conditions of its own. -/
import Derived.Test.YtdaphmoojpbddaaDoorSM2
set_option linter.all false
namespace Go.Sw
set_option autoImplicit false
set_option linter.all false
theorem val2 : ∀ {l : List Nat}, l.length ≤ 2 → val l = l.getD 0 0 + 4294967296 * l.getD 1 0
  | [], _ => by simp [val]
  | [x], _ => by simp [val]
  | [x, y], _ => by simp [val]
  | _ :: _ :: _ :: _, h => by simp at h
theorem val_take_zero_step {l : List Nat} {i : Nat} (hv : val (l.take i) = 0) (hx : l.getD i 0 = 0) : val (l.take (i + 1)) = 0 := by
  rw [val_take_succ, hv, hx]; simp
theorem tz_lt32 {x : Nat} (hx : x < 4294967296) (h0 : x ≠ 0) : tz x < 32 := by
  obtain ⟨m, hm, hodd⟩ := tz_spec h0
  rcases Nat.lt_or_ge (tz x) 32 with h | h
  · exact h
  · have : 2 ^ 32 ≤ 2 ^ tz x := Nat.pow_le_pow_right (by omega) h
    have : 2 ^ tz x * 1 ≤ 2 ^ tz x * m := Nat.mul_le_mul_left _ (by omega)
    omega
theorem tz_words {l : List Nat} (hw : Wd l) {i : Nat} (hi : i < l.length) (hv : val (l.take i) = 0) (hx : l.getD i 0 ≠ 0) : tz (val l) = 32 * i + tz (l.getD i 0) := by
  have e := val_take_drop l i (by omega)
  rw [hv, Nat.zero_add, drop_getD] at e
  have hlt := tz_lt32 (hw.get i) hx
  obtain ⟨m, hm, hodd⟩ := tz_spec hx
  generalize l.getD i 0 = x at *
  generalize val (l.drop (i + 1)) = r at *
  have e2 : (4294967296 : Nat) = 2 ^ tz x * (2 * 2 ^ (31 - tz x)) := by
    rw [← Nat.pow_succ', ← Nat.pow_add, show tz x + (31 - tz x + 1) = 32 by omega]
  have e3 : val l = 2 ^ (32 * i + tz x) * (m + 2 * (2 ^ (31 - tz x) * r)) := by
    rw [e, pow_B, Nat.pow_add, Nat.mul_assoc]
    congr 1
    rw [Nat.mul_add, ← hm, ← Nat.mul_assoc, ← Nat.mul_assoc]
    congr 1
    rw [← Nat.mul_assoc] at e2
    rw [e2]
  rw [e3]
  exact tz_unique (by omega)
theorem pow_split {k : Nat} : 2 ^ k = 4294967296 ^ (k / 32) * 2 ^ (k % 32) := by
  rw [pow_B, ← Nat.pow_add, Nat.div_add_mod]
theorem bit_get {l : List Nat} (hw : Wd l) (k : Nat) : val l / 2 ^ k % 2 = l.getD (k / 32) 0 / 2 ^ (k % 32) % 2 := by
  have hb : k % 32 < 32 := Nat.mod_lt _ (by decide)
  have h := down_get hw (i := k / 32) hb
  have e : val l / 2 ^ k = val l / 2 ^ (k % 32) / 4294967296 ^ (k / 32) := by
    rw [Nat.div_div_eq_div_mul, Nat.mul_comm, ← pow_split]
  rw [e]
  have h2 : val l / 2 ^ (k % 32) / 4294967296 ^ (k / 32) % 2 = val l / 2 ^ (k % 32) / 4294967296 ^ (k / 32) % 4294967296 % 2 := by omega
  rw [h2, h]
  generalize l.getD (k / 32) 0 = x
  generalize l.getD (k / 32 + 1) 0 = y
  generalize k % 32 = b at hb
  have e2 : (4294967296 : Nat) = 2 ^ b * (2 * 2 ^ (31 - b)) := by
    rw [← Nat.pow_succ', ← Nat.pow_add, show b + (31 - b + 1) = 32 by omega]
  have e3 : (x + 4294967296 * y) / 2 ^ b = x / 2 ^ b + 2 * (2 ^ (31 - b) * y) := by
    rw [e2, Nat.mul_assoc, Nat.add_mul_div_left _ _ (Nat.two_pow_pos b), Nat.mul_assoc]
  rw [e3]; omega
theorem bit_far {l : List Nat} (hw : Wd l) {k : Nat} (h : l.length ≤ k / 32) : val l / 2 ^ k % 2 = 0 := by
  rw [bit_get hw, getD_ge h]; simp
/-- The order of two numbers. -/
def cmpN (a b : Nat) : Int := if a < b then -1 else if b < a then 1 else 0
theorem cmpN_lt {a b : Nat} (h : a < b) : cmpN a b = -1 := by unfold cmpN; rw [if_pos h]
theorem cmpN_gt {a b : Nat} (h : b < a) : cmpN a b = 1 := by unfold cmpN; rw [if_neg (by omega), if_pos h]
theorem cmpN_eq {a b : Nat} (h : a = b) : cmpN a b = 0 := by unfold cmpN; rw [if_neg (by omega), if_neg (by omega)]
theorem cmp_len {a b : Nat} (h : (dig a).length < (dig b).length) : a < b := by
  have h1 := lt_dig_len.1 h
  have h2 : a < 4294967296 ^ (dig a).length := dig_len_le.1 (Nat.le_refl _)
  omega
theorem val_eq_take_drop (l : List Nat) (k : Nat) (hk : k ≤ l.length) : val l = val (l.take k) + 4294967296 ^ k * val (l.drop k) := val_take_drop l k hk
theorem cmp_word {x y : List Nat} (hx : Wd x) (hy : Wd y) {i : Nat} (h1 : i < x.length) (h2 : i < y.length) (he : val (x.drop (i + 1)) = val (y.drop (i + 1))) (hlt : x.getD i 0 < y.getD i 0) : val x < val y := by
  rw [val_take_drop x i (by omega), val_take_drop y i (by omega), drop_getD (l := x), drop_getD (l := y) (i := i), he]
  have a1 := val_lt (hx.take i)
  rw [List.length_take, Nat.min_eq_left (by omega)] at a1
  generalize 4294967296 ^ i = p at *
  generalize 4294967296 * val (y.drop (i + 1)) = r
  generalize x.getD i 0 = u at *
  generalize y.getD i 0 = v at *
  have : p * (u + r + 1) ≤ p * (v + r) := Nat.mul_le_mul_left _ (by omega)
  rw [Nat.mul_add, Nat.mul_one] at this
  omega
theorem drop_step {x y : List Nat} {i : Nat} (he : val (x.drop (i + 1)) = val (y.drop (i + 1))) (h : x.getD i 0 = y.getD i 0) : val (x.drop i) = val (y.drop i) := by
  rw [drop_getD (l := x), drop_getD (l := y) (i := i), he, h]
theorem less_end {o a b : List Nat} {c : Nat} (ho : Wd o) (h : val o + val b = val a + c * 4294967296 ^ o.length) (hle : val b ≤ val a) : val o = val a - val b := by
  have := val_lt ho
  rcases Nat.eq_zero_or_pos c with h0 | h0
  · subst h0; omega
  · have : 1 * 4294967296 ^ o.length ≤ c * 4294967296 ^ o.length := Nat.mul_le_mul_right _ h0
    omega
theorem getD_take_lt {l : List Nat} {i k : Nat} (h : i < k) : (l.take k).getD i 0 = l.getD i 0 := by
  simp [List.getD_eq_getElem?_getD, List.getElem?_take, h]
end Go.Sw
