/- A part of the proof that BinsAlike answers true: steps of the walk, or plain laws that it needs. No conditions of its own. -/
import Derived.Test.YtdaphmoojpbddaaDoorSM4
set_option linter.all false
/-! Dyads: whole numbers by powers of two, plain maths. -/
namespace Go.Sw
set_option autoImplicit false
set_option linter.all false
theorem lower_next {l o : List Nat} {i b : Nat} (hi : i < l.length) (ho : o.length = l.length) (hwo : Wd o) (hw : Wd l) (hb : b < 32) (h : val (o.take i) = val l / 2 ^ b % 4294967296 ^ i)
    {X : Nat} (hX : (0 < b ∧ i + 1 < l.length ∧ X = l.getD i 0 / 2 ^ b ||| l.getD (i + 1) 0 * 2 ^ (32 - b) % 4294967296) ∨ (b = 0 ∨ l.length ≤ i + 1) ∧ X = l.getD i 0 / 2 ^ b) :
    (o.set i X).length = l.length ∧ Wd (o.set i X) ∧ val ((o.set i X).take (i + 1)) = val l / 2 ^ b % 4294967296 ^ (i + 1) := by
  refine down_next hi ho hwo hw hb h ?_
  have h1 := hw.get i
  have h2 := hw.get (i + 1)
  rcases hX with ⟨hb0, hi1, rfl⟩ | ⟨h0, rfl⟩
  · exact lower_word h1 h2 hb0 hb
  · have h3 : l.getD i 0 / 2 ^ b ≤ l.getD i 0 := Nat.div_le_self ..
    rcases h0 with rfl | h0
    · simp only [Nat.pow_zero, Nat.div_one]; omega
    · rw [getD_ge h0, Nat.mul_zero, Nat.add_zero, Nat.mod_eq_of_lt (by omega)]
theorem lower_len {o : List Nat} {k : Nat} (hw : Wd o) (ho : o.length = k + 1) (hv : k = 0 ∨ 4294967296 ^ (k - 1) ≤ val o) : (dig (val o)).length = if o.getD k 0 = 0 then k else k + 1 := by
  have hle := dig_length_le hw
  split
  · rename_i h
    have e : val (o.take k) = val o := by
      have := @val_take_pred o (k + 1) (by omega) (by omega) (by simpa using h)
      rw [show k + 1 - 1 = k from rfl] at this
      rw [this, List.take_of_length_le (by omega)]
    have h1 : (dig (val o)).length ≤ k := by
      rw [← e]; refine Nat.le_trans (dig_length_le (hw.take k)) ?_; rw [List.length_take]; omega
    rcases hv with hv | hv
    · omega
    · have := lt_dig_len.2 hv; omega
  · rename_i h
    have := dig_take_length hw (m := k + 1) (by omega) (by rw [List.take_of_length_le (by omega)]) (.inr (by simpa using h))
    exact this
theorem lower_top {l : List Nat} {b : Nat} (hb : b < 32) (hl : 0 < l.length) (h : 4294967296 ^ (l.length - 1) ≤ val l) : l.length - 1 = 0 ∨ 4294967296 ^ (l.length - 1 - 1) ≤ val l / 2 ^ b := by
  rcases Nat.eq_zero_or_pos (l.length - 1) with e | e
  · exact .inl e
  · right
    rw [Nat.le_div_iff_mul_le (Nat.two_pow_pos _)]
    refine Nat.le_trans ?_ h
    have : l.length - 1 = l.length - 1 - 1 + 1 := by omega
    conv => rhs; rw [this, Nat.pow_succ]
    exact Nat.mul_le_mul_left _ (Nat.pow_le_pow_right (n := 2) (j := 32) (by omega) (by omega))
/-- A dyad: its sign, its size, its exponent. -/
structure Dy where
  s : Bool
  m : Nat
  e : Int
/-- A dyad in its one form: odd, or nought. -/
def Dy.fm (s : Bool) (m : Nat) (e : Int) : Dy := if m = 0 then ⟨false, 0, 0⟩ else ⟨s, m / 2 ^ tz m, e + tz m⟩
theorem Dy.fm_zero {s : Bool} {e : Int} : Dy.fm s 0 e = ⟨false, 0, 0⟩ := by simp [Dy.fm]
theorem Dy.fm_pos {s : Bool} {m : Nat} {e : Int} (h : m ≠ 0) : Dy.fm s m e = ⟨s, m / 2 ^ tz m, e + tz m⟩ := by simp [Dy.fm, h]
/-- In the one form. -/
def Dy.Can (d : Dy) : Prop := Dy.fm d.s d.m d.e = d
theorem Dy.fm_can (s : Bool) (m : Nat) (e : Int) : (Dy.fm s m e).Can := by
  unfold Dy.Can
  by_cases h : m = 0
  · subst h; rw [Dy.fm_zero]; exact Dy.fm_zero
  · rw [Dy.fm_pos h]
    have ho := tz_odd h
    have h0 : m / 2 ^ tz m ≠ 0 := by intro e; rw [e] at ho; simp at ho
    have ht : tz (m / 2 ^ tz m) = 0 := by
      have := tz_unique (k := 0) ho; simpa using this
    simp only
    rw [Dy.fm_pos h0, ht]; simp
theorem Dy.can_iff {d : Dy} : d.Can ↔ (d = ⟨false, 0, 0⟩ ∨ d.m % 2 = 1) := by
  obtain ⟨s, m, e⟩ := d
  unfold Dy.Can
  by_cases h : m = 0
  · subst h; simp only; rw [Dy.fm_zero]; simp [eq_comm]
  · simp only [Dy.fm_pos h, Dy.mk.injEq, true_and]
    constructor
    · rintro ⟨h1, h2⟩
      right
      have := tz_odd h
      rw [h1] at this; exact this
    · rintro (⟨_, h1, _⟩ | h1)
      · exact absurd h1 h
      · have : tz m = 0 := by have := tz_unique (k := 0) h1; simpa using this
        simp [this]
theorem tz_le_blen {m : Nat} (h : m ≠ 0) : tz m < blen m := by
  rw [lt_blen]; exact Nat.le_of_dvd (by omega) (tz_dvd m)
theorem blen_div {m k : Nat} : blen (m / 2 ^ k) ≤ blen m := by
  rw [blen_le]; exact Nat.lt_of_le_of_lt (Nat.div_le_self ..) (blen_le.1 (Nat.le_refl _))
theorem blen_dvd {m : Nat} : blen (m / 2 ^ tz m) + tz m = blen m ∨ m = 0 := by
  by_cases h : m = 0
  · exact .inr h
  · exact .inl (blen_shr (Nat.le_of_dvd (by omega) (tz_dvd m)))
theorem dig_top {m : Nat} (h : m ≠ 0) : 4294967296 ^ ((dig m).length - 1) ≤ m := by
  have : (dig m).length ≠ 0 := fun e => h (dig_len_zero e)
  exact lt_dig_len.1 (by omega)
theorem low_len {m : Nat} (h : m ≠ 0) : tz m / 32 < (dig m).length := by
  rw [lt_dig_len, pow_B]
  refine Nat.le_trans (Nat.pow_le_pow_right (by omega) (Nat.mul_div_le _ 32)) (Nat.le_of_dvd (by omega) (tz_dvd m))
theorem drop_top {m q : Nat} (h : q < (dig m).length) : 4294967296 ^ (((dig m).drop q).length - 1) ≤ val ((dig m).drop q) := by
  have hm : m ≠ 0 := by intro e; subst e; rw [dig_zero] at h; simp at h
  rw [← val_shift (dig_wd m), val_dig, List.length_drop, Nat.le_div_iff_mul_le (Nat.pow_pos (by omega)), ← Nat.pow_add]
  rw [show (dig m).length - q - 1 + q = (dig m).length - 1 by omega]
  exact dig_top hm
/-- The sum, as it is made. -/
def Dy.add (x y : Dy) : Dy :=
  if x.m = 0 then y else if y.m = 0 then x else
  if x.s = y.s then Dy.fm x.s (shiftN x.m (x.e - min x.e y.e) + shiftN y.m (y.e - min x.e y.e)) (min x.e y.e)
  else if shiftN x.m (x.e - min x.e y.e) < shiftN y.m (y.e - min x.e y.e) then Dy.fm y.s (shiftN y.m (y.e - min x.e y.e) - shiftN x.m (x.e - min x.e y.e)) (min x.e y.e)
  else Dy.fm x.s (shiftN x.m (x.e - min x.e y.e) - shiftN y.m (y.e - min x.e y.e)) (min x.e y.e)
def Dy.mul (x y : Dy) : Dy := Dy.fm (x.s != y.s) (x.m * y.m) (x.e + y.e)
def Dy.B (K : Nat) (d : Dy) : Prop := blen d.m ≤ K ∧ -(K : Int) ≤ d.e ∧ d.e ≤ K
theorem Dy.B.mono {K K' : Nat} {d : Dy} (h : d.B K) (hk : K ≤ K') : d.B K' := by unfold Dy.B at *; omega
theorem Dy.add_can {x y : Dy} (hx : x.Can) (hy : y.Can) : (x.add y).Can := by
  unfold Dy.add; split
  · exact hy
  split
  · exact hx
  split
  · exact Dy.fm_can ..
  split <;> exact Dy.fm_can ..
theorem Dy.mul_can {x y : Dy} : (x.mul y).Can := Dy.fm_can ..
theorem blen_shift {n : Nat} {k : Int} (h : 0 ≤ k) : (blen (shiftN n k) : Int) ≤ blen n + k := by
  rw [shiftN_pos h]; have := @blen_mul2 n k.toNat; omega
theorem blen_add {a b k : Nat} (ha : blen a ≤ k) (hb : blen b ≤ k) : blen (a + b) ≤ k + 1 := by
  rw [blen_le] at *; rw [Nat.pow_succ]; omega
theorem blen_mono {a b : Nat} (h : a ≤ b) : blen a ≤ blen b := blen_le.2 (Nat.lt_of_le_of_lt h (blen_le.1 (Nat.le_refl _)))
theorem blen_mul {a b : Nat} : blen (a * b) ≤ blen a + blen b := by
  rw [blen_le, Nat.pow_add]
  rcases Nat.eq_zero_or_pos b with h | h
  · subst h; rw [Nat.mul_zero]; exact Nat.mul_pos (Nat.two_pow_pos _) (Nat.two_pow_pos _)
  · exact Nat.lt_of_lt_of_le (Nat.mul_lt_mul_of_pos_right (blen_le.1 (Nat.le_refl _)) h) (Nat.mul_le_mul_left _ (Nat.le_of_lt (blen_le.1 (Nat.le_refl _))))
theorem Dy.add_same {x y : Dy} (h1 : x.m ≠ 0) (h2 : y.m ≠ 0) (h : x.s = y.s) : Dy.add x y = Dy.fm x.s (shiftN x.m (x.e - min x.e y.e) + shiftN y.m (y.e - min x.e y.e)) (min x.e y.e) := by
  rw [Dy.add, if_neg h1, if_neg h2, if_pos h]
theorem Dy.add_lt {x y : Dy} (h1 : x.m ≠ 0) (h2 : y.m ≠ 0) (h : x.s ≠ y.s) (hl : shiftN x.m (x.e - min x.e y.e) < shiftN y.m (y.e - min x.e y.e)) : Dy.add x y = Dy.fm y.s (shiftN y.m (y.e - min x.e y.e) - shiftN x.m (x.e - min x.e y.e)) (min x.e y.e) := by
  rw [Dy.add, if_neg h1, if_neg h2, if_neg h, if_pos hl]
theorem Dy.add_ge {x y : Dy} (h1 : x.m ≠ 0) (h2 : y.m ≠ 0) (h : x.s ≠ y.s) (hl : ¬ (shiftN x.m (x.e - min x.e y.e) < shiftN y.m (y.e - min x.e y.e))) : Dy.add x y = Dy.fm x.s (shiftN x.m (x.e - min x.e y.e) - shiftN y.m (y.e - min x.e y.e)) (min x.e y.e) := by
  rw [Dy.add, if_neg h1, if_neg h2, if_neg h, if_neg hl]
end Go.Sw
