/- A part of the proof that BinsAlike answers true: steps of the walk, or plain laws that it needs. No conditions of its own. -/

set_option linter.all false
/-! Plain maths: words, binary digits. -/
namespace Go.Sw
set_option autoImplicit false

/-- The number of a list of words of 32 bits, the lowest first. -/
def val : List Nat → Nat
  | [] => 0
  | x :: l => x + 4294967296 * val l
def Wd (l : List Nat) : Prop := ∀ x ∈ l, x < 4294967296
/-- A number's words. -/
def dig (n : Nat) : List Nat := if n = 0 then [] else n % 4294967296 :: dig (n / 4294967296)
termination_by n
decreasing_by omega

@[simp] theorem val_nil : val [] = 0 := rfl
@[simp] theorem val_cons (x : Nat) (l : List Nat) : val (x :: l) = x + 4294967296 * val l := rfl
theorem Wd.nil : Wd [] := by intro x h; cases h
theorem Wd.cons {x : Nat} {l : List Nat} (hx : x < 4294967296) (hl : Wd l) : Wd (x :: l) := by
  intro y hy
  rcases List.mem_cons.1 hy with rfl | hy
  · exact hx
  · exact hl y hy
theorem Wd.of_cons {x : Nat} {l : List Nat} (h : Wd (x :: l)) : x < 4294967296 ∧ Wd l := ⟨h x (List.mem_cons_self ..), fun y hy => h y (List.mem_cons_of_mem _ hy)⟩
theorem Wd.append {a b : List Nat} (ha : Wd a) (hb : Wd b) : Wd (a ++ b) := by
  intro x hx
  rcases List.mem_append.1 hx with h | h
  · exact ha x h
  · exact hb x h
theorem Wd.left {a b : List Nat} (h : Wd (a ++ b)) : Wd a := fun x hx => h x (List.mem_append_left _ hx)
theorem Wd.right {a b : List Nat} (h : Wd (a ++ b)) : Wd b := fun x hx => h x (List.mem_append_right _ hx)
theorem Wd.take {l : List Nat} (h : Wd l) (k : Nat) : Wd (l.take k) := fun x hx => h x (List.mem_of_mem_take hx)
theorem Wd.drop {l : List Nat} (h : Wd l) (k : Nat) : Wd (l.drop k) := fun x hx => h x (List.mem_of_mem_drop hx)
theorem Wd.get {l : List Nat} (h : Wd l) (i : Nat) : l.getD i 0 < 4294967296 := by
  rw [List.getD_eq_getElem?_getD]
  cases e : l[i]? with
  | none => simp
  | some x => exact h x (List.mem_of_getElem? e)
theorem Wd.set {l : List Nat} (h : Wd l) (i : Nat) {x : Nat} (hx : x < 4294967296) : Wd (l.set i x) := by
  intro y hy
  rcases List.mem_or_eq_of_mem_set hy with h1 | rfl
  · exact h y h1
  · exact hx
theorem val_append (a b : List Nat) : val (a ++ b) = val a + 4294967296 ^ a.length * val b := by
  induction a with
  | nil => simp
  | cons x a ih => simp only [List.cons_append, val_cons, ih, List.length_cons, Nat.pow_succ, Nat.mul_add]; rw [Nat.mul_comm (4294967296 ^ a.length) 4294967296, Nat.mul_assoc]; omega
theorem val_lt {l : List Nat} (h : Wd l) : val l < 4294967296 ^ l.length := by
  induction l with
  | nil => simp
  | cons x l ih =>
    have h1 := h.of_cons
    have := ih h1.2
    simp only [val_cons, List.length_cons, Nat.pow_succ]
    have : 4294967296 * (val l + 1) ≤ 4294967296 * 4294967296 ^ l.length := Nat.mul_le_mul_left _ this
    rw [Nat.mul_comm (4294967296 ^ l.length)]
    omega
theorem val_take_drop (l : List Nat) (k : Nat) (hk : k ≤ l.length) : val l = val (l.take k) + 4294967296 ^ k * val (l.drop k) := by
  conv => lhs; rw [← List.take_append_drop k l]
  rw [val_append, List.length_take, Nat.min_eq_left hk]
theorem dig_zero : dig 0 = [] := by rw [dig]; simp
theorem dig_pos {n : Nat} (h : n ≠ 0) : dig n = n % 4294967296 :: dig (n / 4294967296) := by rw [dig]; simp [h]
theorem val_dig (n : Nat) : val (dig n) = n := by
  induction n using Nat.strongRecOn with
  | _ n ih =>
    by_cases h : n = 0
    · subst h; rw [dig_zero]; rfl
    · rw [dig_pos h, val_cons, ih _ (by omega)]; omega
theorem dig_wd (n : Nat) : Wd (dig n) := by
  induction n using Nat.strongRecOn with
  | _ n ih =>
    by_cases h : n = 0
    · subst h; rw [dig_zero]; exact .nil
    · rw [dig_pos h]; exact .cons (by omega) (ih _ (by omega))
theorem dig_eq_nil {n : Nat} : dig n = [] ↔ n = 0 := by
  constructor
  · intro h; have := val_dig n; rw [h] at this; simpa using this.symm
  · rintro rfl; exact dig_zero
/-- In its form: no zero word at its end. -/
def Fm (l : List Nat) : Prop := ∀ x, l.getLast? = some x → x ≠ 0
theorem dig_fm (n : Nat) : Fm (dig n) := by
  induction n using Nat.strongRecOn with
  | _ n ih =>
    by_cases h : n = 0
    · subst h; rw [dig_zero]; intro x hx; cases hx
    · rw [dig_pos h]
      intro x hx
      by_cases h2 : n / 4294967296 = 0
      · rw [h2, dig_zero] at hx; simp at hx; omega
      · have h3 : dig (n / 4294967296) ≠ [] := fun e => h2 (dig_eq_nil.1 e)
        rw [List.getLast?_cons, Option.some_inj] at hx
        cases h4 : (dig (n / 4294967296)).getLast? with
        | none => simp at h4; exact absurd h4 h3
        | some y => rw [h4] at hx; simp at hx; exact hx ▸ ih _ (by omega) y h4
theorem dig_val {l : List Nat} (hw : Wd l) (hf : Fm l) : dig (val l) = l := by
  induction l with
  | nil => exact dig_zero
  | cons x l ih =>
    obtain ⟨h1, h2⟩ := hw.of_cons
    have hne : val (x :: l) ≠ 0 := by
      intro e
      simp only [val_cons] at e
      have hx : x = 0 := by omega
      have hv : val l = 0 := by omega
      by_cases hl : l = []
      · subst hl; exact hf x (by simp) hx
      · have hf' : Fm l := fun y hy => hf y (by rw [List.getLast?_cons]; simp [hy])
        have := ih h2 hf'
        rw [hv, dig_zero] at this
        exact hl this.symm
    rw [dig_pos hne]
    have e1 : (x + 4294967296 * val l) % 4294967296 = x := by omega
    have e2 : (x + 4294967296 * val l) / 4294967296 = val l := by omega
    simp only [val_cons, e1, e2]
    by_cases hl : l = []
    · subst hl; simp [dig_zero]
    · rw [ih h2 (fun y hy => hf y (by rw [List.getLast?_cons]; simp [hy]))]
theorem val_zeros (k : Nat) : val (List.replicate k 0) = 0 := by induction k <;> simp_all [List.replicate_succ]
theorem val_append_zeros (l : List Nat) (k : Nat) : val (l ++ List.replicate k 0) = val l := by rw [val_append, val_zeros]; simp
/-- A list is its number's words, and zeros. -/
theorem dig_prefix {l : List Nat} (hw : Wd l) : ∃ k, l = dig (val l) ++ List.replicate k 0 := by
  induction l with
  | nil => exact ⟨0, by simp [dig_zero]⟩
  | cons x l ih =>
    obtain ⟨h1, h2⟩ := hw.of_cons
    obtain ⟨k, hk⟩ := ih h2
    by_cases hv : val l = 0
    · rw [hv, dig_zero, List.nil_append] at hk
      by_cases hx : x = 0
      · refine ⟨k + 1, ?_⟩
        rw [show val (x :: l) = 0 by simp [hx, hv], dig_zero, List.nil_append, List.replicate_succ, hx]
        exact congrArg _ hk
      · refine ⟨k, ?_⟩
        have : dig (val (x :: l)) = [x] := by
          rw [show val (x :: l) = val [x] by simp [hv]]
          exact dig_val (.cons h1 .nil) (by intro y hy; simp at hy; exact hy ▸ hx)
        rw [this]; exact congrArg _ hk
    · refine ⟨k, ?_⟩
      have hne : val (x :: l) ≠ 0 := by simp only [val_cons]; omega
      rw [dig_pos hne]
      have e1 : (x + 4294967296 * val l) % 4294967296 = x := by omega
      have e2 : (x + 4294967296 * val l) / 4294967296 = val l := by omega
      simp only [val_cons, e1, e2, List.cons_append]
      exact congrArg _ hk
theorem dig_length_le {l : List Nat} (hw : Wd l) : (dig (val l)).length ≤ l.length := by
  obtain ⟨k, hk⟩ := dig_prefix hw
  have := congrArg List.length hk
  simp at this; omega
theorem dig_len_le {n k : Nat} : (dig n).length ≤ k ↔ n < 4294967296 ^ k := by
  constructor
  · intro h
    have h1 := val_lt (dig_wd n)
    rw [val_dig] at h1
    exact Nat.lt_of_lt_of_le h1 (Nat.pow_le_pow_right (by omega) h)
  · intro h
    induction k generalizing n with
    | zero => simp at h; subst h; simp [dig_zero]
    | succ k ih =>
      by_cases hn : n = 0
      · subst hn; simp [dig_zero]
      · rw [dig_pos hn, List.length_cons]
        have : n / 4294967296 < 4294967296 ^ k := by rw [Nat.pow_succ] at h; omega
        have := ih this
        omega
theorem lt_dig_len {n k : Nat} : k < (dig n).length ↔ 4294967296 ^ k ≤ n := by
  have := @dig_len_le n k; omega
theorem dig_inj {a b : Nat} (h : dig a = dig b) : a = b := by rw [← val_dig a, h, val_dig]
theorem fm_snoc {l : List Nat} {x : Nat} (h : x ≠ 0) : Fm (l ++ [x]) := by intro y hy; simp at hy; exact hy ▸ h
theorem val_snoc_zero (l : List Nat) : val (l ++ [0]) = val l := val_append_zeros l 1
theorem val_eq_of_prefix {l : List Nat} {k : Nat} (h : ∀ i, k ≤ i → l.getD i 0 = 0) : val (l.take k) = val l := by
  induction l generalizing k with
  | nil => simp
  | cons x l ih =>
    cases k with
    | zero =>
      have hx : x = 0 := by simpa using h 0 (by omega)
      have h0 : ∀ i, 0 ≤ i → l.getD i 0 = 0 := fun i _ => by simpa using h (i + 1) (by omega)
      have := ih (k := 0) h0
      simp at this ⊢
      omega
    | succ k =>
      have := ih (k := k) (fun i hi => by simpa using h (i + 1) (by omega))
      simp [this]
end Go.Sw
namespace Go.Sw
theorem take_succ_getD {l : List Nat} {m : Nat} (h : m < l.length) : l.take (m + 1) = l.take m ++ [l.getD m 0] := by
  rw [List.take_succ_eq_append_getElem h, List.getD_eq_getElem?_getD, List.getElem?_eq_getElem h]; rfl
theorem val_take_pred {l : List Nat} {m : Nat} (hp : 0 < m) (hm : m ≤ l.length) (h : l.getD (m - 1) 0 = 0) : val (l.take (m - 1)) = val (l.take m) := by
  obtain ⟨k, rfl⟩ : ∃ k, m = k + 1 := ⟨m - 1, by omega⟩
  simp only [Nat.add_sub_cancel] at h ⊢
  rw [take_succ_getD (by omega), h, val_snoc_zero]
theorem dig_take {l : List Nat} {m : Nat} (hw : Wd l) (hm : m ≤ l.length) (hv : val (l.take m) = val l) (hz : m = 0 ∨ l.getD (m - 1) 0 ≠ 0) : dig (val l) = l.take m := by
  rw [← hv]
  refine dig_val (hw.take m) ?_
  rcases hz with rfl | hz
  · intro x hx; simp at hx
  · intro x hx
    by_cases h0 : m = 0
    · subst h0; simp at hx
    obtain ⟨k, rfl⟩ : ∃ k, m = k + 1 := ⟨m - 1, by omega⟩
    rw [take_succ_getD (by omega)] at hx
    simp only [Nat.add_sub_cancel] at hz
    simp at hx
    rw [← hx]
    simpa using hz
theorem dig_take_length {l : List Nat} {m : Nat} (hw : Wd l) (hm : m ≤ l.length) (hv : val (l.take m) = val l) (hz : m = 0 ∨ l.getD (m - 1) 0 ≠ 0) : (dig (val l)).length = m := by
  rw [dig_take hw hm hv hz, List.length_take, Nat.min_eq_left hm]
end Go.Sw
namespace Go.Sw
theorem getD_ge {l : List Nat} {i : Nat} (h : l.length ≤ i) : l.getD i 0 = 0 := by
  rw [List.getD_eq_getElem?_getD, List.getElem?_eq_none h]; rfl
theorem val_take_succ (l : List Nat) (i : Nat) : val (l.take (i + 1)) = val (l.take i) + 4294967296 ^ i * l.getD i 0 := by
  rcases Nat.lt_or_ge i l.length with h | h
  · rw [take_succ_getD h, val_append, List.length_take, Nat.min_eq_left (by omega)]; simp
  · rw [List.take_of_length_le (by omega), List.take_of_length_le h, getD_ge h]; simp
theorem val_set {l : List Nat} {i x : Nat} (h : i < l.length) : val (l.set i x) + 4294967296 ^ i * l.getD i 0 = val l + 4294967296 ^ i * x := by
  induction l generalizing i with
  | nil => simp at h
  | cons y l ih =>
    cases i with
    | zero => simp; omega
    | succ i =>
      have := ih (i := i) (by simpa using h)
      simp only [List.set_cons_succ, val_cons, List.getD_cons_succ, Nat.pow_succ]
      generalize 4294967296 ^ i = p at *
      have e1 : p * 4294967296 * l.getD i 0 = 4294967296 * (p * l.getD i 0) := by rw [Nat.mul_comm p, Nat.mul_assoc]
      have e2 : p * 4294967296 * x = 4294967296 * (p * x) := by rw [Nat.mul_comm p, Nat.mul_assoc]
      rw [e1, e2]
      omega
theorem val_take_set {l : List Nat} {i x : Nat} (h : i < l.length) : val ((l.set i x).take (i + 1)) = val (l.take i) + 4294967296 ^ i * x := by
  rw [val_take_succ]
  have h1 : (l.set i x).take i = l.take i := by rw [List.take_set_of_le (Nat.le_refl _)]
  have h2 : (l.set i x).getD i 0 = x := by simp [List.getD_eq_getElem?_getD, h]
  rw [h1, h2]
theorem getD_set_other {l : List Nat} {i j x : Nat} (h : i ≠ j) : (l.set i x).getD j 0 = l.getD j 0 := by
  simp [List.getD_eq_getElem?_getD, List.getElem?_set_ne h]
theorem getD_set_self {l : List Nat} {i x : Nat} (h : i < l.length) : (l.set i x).getD i 0 = x := by
  simp [List.getD_eq_getElem?_getD, h]
theorem getD_replicate (c i : Nat) : (List.replicate c 0).getD i 0 = 0 := by
  rw [List.getD_eq_getElem?_getD]
  cases h : (List.replicate c 0)[i]? with
  | none => rfl
  | some x => have := List.mem_of_getElem? h; simp at this; simp [this.2]
theorem wd_zeros (c : Nat) : Wd (List.replicate c 0) := by intro x hx; simp at hx; omega
theorem val_all {l : List Nat} : val (l.take l.length) = val l := by rw [List.take_length]
theorem dig_lt {n k : Nat} (h : n < 4294967296 ^ k) : (dig n).length ≤ k := dig_len_le.2 h
/-- Bits. -/
def blen (n : Nat) : Nat := if n = 0 then 0 else n.log2 + 1
theorem blen_le {n k : Nat} : blen n ≤ k ↔ n < 2 ^ k := by
  unfold blen
  split
  · rename_i h; subst h; simp
    exact Nat.two_pow_pos k
  · rename_i h
    constructor
    · intro hk
      exact Nat.lt_of_lt_of_le Nat.lt_log2_self (Nat.pow_le_pow_right (by omega) hk)
    · intro hk
      exact (Nat.log2_lt h).2 hk
theorem lt_blen {n k : Nat} : k < blen n ↔ 2 ^ k ≤ n := by have := @blen_le n k; omega
theorem blen_zero : blen 0 = 0 := rfl
theorem blen_pos {n : Nat} (h : n ≠ 0) : 0 < blen n := by unfold blen; rw [if_neg h]; omega
theorem blen_unique {n k : Nat} (h1 : n < 2 ^ k) (h2 : k = 0 ∨ 2 ^ (k - 1) ≤ n) : blen n = k := by
  have := blen_le.2 h1
  rcases h2 with rfl | h2
  · omega
  · have := lt_blen.2 h2; omega
theorem blen_mul_pow {n : Nat} (h : n ≠ 0) (k : Nat) : blen (n * 2 ^ k) = blen n + k := by
  refine blen_unique ?_ ?_
  · rw [Nat.pow_add]; exact Nat.mul_lt_mul_of_pos_right (blen_le.1 (Nat.le_refl _)) (Nat.two_pow_pos k)
  · right
    have hp := blen_pos h
    have : 2 ^ (blen n - 1) ≤ n := lt_blen.1 (by omega)
    rw [show blen n + k - 1 = (blen n - 1) + k by omega, Nat.pow_add]
    exact Nat.mul_le_mul_right _ this
theorem pow_B (k : Nat) : 4294967296 ^ k = 2 ^ (32 * k) := by rw [show (4294967296 : Nat) = 2 ^ 32 by rfl, ← Nat.pow_mul]
/-- The binary digits of a list in its form. -/
theorem blen_snoc {l : List Nat} {x : Nat} (hw : Wd l) (hx : x ≠ 0) : blen (val (l ++ [x])) = 32 * l.length + blen x := by
  have hv : val (l ++ [x]) = val l + 2 ^ (32 * l.length) * x := by rw [val_append, pow_B]; simp
  have hl : val l < 2 ^ (32 * l.length) := by rw [← pow_B]; exact val_lt hw
  have h1 : x < 2 ^ blen x := blen_le.1 (Nat.le_refl _)
  have h2 : 2 ^ (blen x - 1) ≤ x := lt_blen.1 (by have := blen_pos hx; omega)
  have hp := blen_pos hx
  rw [hv]
  refine blen_unique ?_ (.inr ?_)
  · rw [Nat.pow_add]
    have : 2 ^ (32 * l.length) * (x + 1) ≤ 2 ^ (32 * l.length) * 2 ^ blen x := Nat.mul_le_mul_left _ h1
    rw [Nat.mul_add] at this
    omega
  · rw [show 32 * l.length + blen x - 1 = 32 * l.length + (blen x - 1) by omega, Nat.pow_add]
    have : 2 ^ (32 * l.length) * 2 ^ (blen x - 1) ≤ 2 ^ (32 * l.length) * x := Nat.mul_le_mul_left _ h2
    omega
/-- How many noughts stand at the low end. -/
def tz (n : Nat) : Nat := if n = 0 then 0 else if n % 2 = 1 then 0 else tz (n / 2) + 1
termination_by n
decreasing_by omega
theorem tz_spec {n : Nat} (h : n ≠ 0) : ∃ m, n = 2 ^ tz n * m ∧ m % 2 = 1 := by
  induction n using Nat.strongRecOn with
  | _ n ih =>
    rw [tz]
    simp only [h, if_false]
    split
    · exact ⟨n, by simp, by assumption⟩
    · obtain ⟨m, h1, h2⟩ := ih (n / 2) (by omega) (by omega)
      refine ⟨m, ?_, h2⟩
      rw [Nat.pow_succ, Nat.mul_comm (2 ^ _) 2, Nat.mul_assoc, ← h1]; omega
theorem tz_unique {k m : Nat} (hm : m % 2 = 1) : tz (2 ^ k * m) = k := by
  induction k with
  | zero => rw [tz]; simp [hm]
  | succ k ih =>
    have hm0 : m ≠ 0 := by omega
    have e : 2 ^ (k + 1) * m = 2 * (2 ^ k * m) := by rw [Nat.pow_succ, Nat.mul_comm (2 ^ k) 2, Nat.mul_assoc]
    have hne : 2 ^ k * m ≠ 0 := Nat.mul_ne_zero (Nat.ne_of_gt (Nat.two_pow_pos k)) hm0
    rw [e, tz, if_neg (by omega), if_neg (by omega), show 2 * (2 ^ k * m) / 2 = 2 ^ k * m by omega, ih]
theorem tz_dvd (n : Nat) : 2 ^ tz n ∣ n := by
  by_cases h : n = 0
  · subst h; exact ⟨0, rfl⟩
  · obtain ⟨m, h1, _⟩ := tz_spec h; exact ⟨m, h1⟩
theorem tz_odd {n : Nat} (h : n ≠ 0) : (n / 2 ^ tz n) % 2 = 1 := by
  obtain ⟨m, h1, h2⟩ := tz_spec h
  conv => lhs; lhs; lhs; rw [h1]
  rw [Nat.mul_div_cancel_left _ (Nat.two_pow_pos _)]; exact h2
end Go.Sw
namespace Go.Sw
theorem sub32_core {x y c : Nat} (hx : x < 4294967296) (hy : y < 4294967296) (hc : c ≤ 1) :
    ((4294967295 - x) &&& y ||| ((4294967295 - (x ^^^ y)) &&& ((x + 4294967296 - y - c + 4294967296) % 4294967296))) / 2 ^ 31 = if x < y + c then 1 else 0 := by
  have hxy : x ^^^ y < 2 ^ 32 := Nat.xor_lt_two_pow hx hy
  generalize hd : (x + 4294967296 - y - c + 4294967296) % 4294967296 = dd
  have hdd : dd < 2 ^ 32 := by omega
  have key : ∀ v : Nat, v < 2 ^ 32 → v / 2 ^ 31 = if v.testBit 31 then 1 else 0 := by
    intro v hv
    rw [Nat.testBit_eq_decide_div_mod_eq]
    have h2 : v / 2 ^ 31 = 0 ∨ v / 2 ^ 31 = 1 := by omega
    rcases h2 with h2 | h2 <;> rw [h2] <;> rfl
  have hb : ∀ v : Nat, v < 2 ^ 32 → v.testBit 31 = decide (2147483648 ≤ v) := by
    intro v hv
    rw [Nat.testBit_eq_decide_div_mod_eq]
    by_cases h : 2147483648 ≤ v
    · have h2 : v / 2 ^ 31 = 1 := by omega
      rw [h2, decide_eq_true h]; rfl
    · have h2 : v / 2 ^ 31 = 0 := by omega
      rw [h2, decide_eq_false h]; rfl
  have hn : ∀ v : Nat, v < 2 ^ 32 → (4294967295 - v).testBit 31 = !v.testBit 31 := by
    intro v hv
    rw [hb _ (by omega), hb _ hv]
    by_cases h : 2147483648 ≤ v
    · have : ¬ 2147483648 ≤ 4294967295 - v := by omega
      simp [h, this]
    · have : 2147483648 ≤ 4294967295 - v := by omega
      simp [h, this]
  rw [key _ (Nat.or_lt_two_pow (Nat.and_lt_two_pow _ hy) (Nat.and_lt_two_pow _ hdd))]
  rw [Nat.testBit_or, Nat.testBit_and, Nat.testBit_and, hn x hx, hn _ hxy, Nat.testBit_xor, hb x hx, hb y hy, hb dd hdd]
  by_cases h1 : 2147483648 ≤ x <;> by_cases h2 : 2147483648 ≤ y <;> by_cases h3 : 2147483648 ≤ dd <;> simp [h1, h2, h3] <;> omega
end Go.Sw
