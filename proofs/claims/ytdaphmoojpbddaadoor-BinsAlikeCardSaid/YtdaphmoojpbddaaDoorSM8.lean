/- A part of the proof that BinsAlike answers true: steps of the walk, or plain laws that it needs. No conditions of its own. -/
import Derived.Test.YtdaphmoojpbddaaDoorSM7
set_option linter.all false
/-! Dyads by their values. -/
namespace Go.Sw
set_option autoImplicit false
set_option linter.all false
def sgn (s : Bool) (n : Nat) : Int := if s then -(n : Int) else n
theorem sgn_zero (s : Bool) : sgn s 0 = 0 := by cases s <;> rfl
theorem sgn_natAbs (s : Bool) (n : Nat) : (sgn s n).natAbs = n := by cases s <;> simp [sgn]
theorem sgn_mul (s : Bool) (n k : Nat) : sgn s (n * k) = sgn s n * (k : Int) := by cases s <;> simp [sgn, Int.neg_mul]
theorem sgn_add (s : Bool) (n k : Nat) : sgn s (n + k) = sgn s n + sgn s k := by cases s <;> simp only [sgn] <;> simp <;> omega
theorem sgn_xor (s t : Bool) (n k : Nat) : sgn (s != t) (n * k) = sgn s n * sgn t k := by cases s <;> cases t <;> simp [sgn, Int.neg_mul, Int.mul_neg]
/-- A dyad's value in steps of 2^-E. -/
def dv (E : Nat) (d : Dy) : Int := sgn d.s (d.m * 2 ^ (d.e + E).toNat)
def Dy.Ge (E : Nat) (d : Dy) : Prop := 0 ≤ d.e + E
theorem pow_toNat_add {a b : Int} (ha : 0 ≤ a) (hb : 0 ≤ b) : 2 ^ a.toNat * 2 ^ b.toNat = 2 ^ (a + b).toNat := by
  rw [← Nat.pow_add]; congr 1; omega
theorem dv_fm {E : Nat} {s : Bool} {m : Nat} {e : Int} (h : 0 ≤ e + E) : dv E (Dy.fm s m e) = sgn s (m * 2 ^ (e + E).toNat) ∧ (Dy.fm s m e).Ge E := by
  by_cases hm : m = 0
  · subst hm; rw [Dy.fm_zero]; simp [dv, sgn, Dy.Ge]
  · rw [Dy.fm_pos hm]
    simp only [dv, Dy.Ge]
    refine ⟨?_, by omega⟩
    have h1 : m / 2 ^ tz m * 2 ^ tz m = m := Nat.div_mul_cancel (tz_dvd m)
    have h2 : 2 ^ (e + (tz m : Nat) + (E : Int)).toNat = 2 ^ tz m * 2 ^ (e + E).toNat := by
      rw [← Nat.pow_add]; congr 1; omega
    rw [h2, ← Nat.mul_assoc, h1]
theorem dv_shift {E : Nat} {m : Nat} {e x : Int} (h : x ≤ e) (h0 : 0 ≤ x + E) : shiftN m (e - x) * 2 ^ (x + E).toNat = m * 2 ^ (e + E).toNat := by
  rw [shiftN_pos (by omega), Nat.mul_assoc, pow_toNat_add (by omega) h0]; congr 3; omega
theorem dv_add {E : Nat} {x y : Dy} (hx : x.Ge E) (hy : y.Ge E) : dv E (x.add y) = dv E x + dv E y ∧ (x.add y).Ge E := by
  unfold Dy.Ge at hx hy
  by_cases h1 : x.m = 0
  · rw [Dy.add, if_pos h1]; refine ⟨?_, hy⟩
    simp [dv, h1, sgn_zero]
  by_cases h2 : y.m = 0
  · rw [Dy.add, if_neg h1, if_pos h2]; refine ⟨?_, hx⟩
    simp [dv, h2, sgn_zero]
  have hm : 0 ≤ min x.e y.e + (E : Int) := by omega
  have e1 := dv_shift (E := E) (m := x.m) (show min x.e y.e ≤ x.e by omega) hm
  have e2 := dv_shift (E := E) (m := y.m) (show min x.e y.e ≤ y.e by omega) hm
  by_cases hs : x.s = y.s
  · rw [Dy.add_same h1 h2 hs]
    refine ⟨?_, (dv_fm hm).2⟩
    rw [(dv_fm hm).1, Nat.add_mul, e1, e2, sgn_add]
    simp [dv, hs]
  · by_cases hl : shiftN x.m (x.e - min x.e y.e) < shiftN y.m (y.e - min x.e y.e)
    · rw [Dy.add_lt h1 h2 hs hl]
      refine ⟨?_, (dv_fm hm).2⟩
      rw [(dv_fm hm).1, Nat.sub_mul, e1, e2]
      have hle : x.m * 2 ^ (x.e + E).toNat ≤ y.m * 2 ^ (y.e + E).toNat := by
        rw [← e1, ← e2]; exact Nat.mul_le_mul_right _ (Nat.le_of_lt hl)
      simp only [dv]
      generalize x.m * 2 ^ (x.e + E).toNat = X at *
      generalize y.m * 2 ^ (y.e + E).toNat = Y at *
      cases hxs : x.s <;> cases hys : y.s
      · exact absurd (hxs.trans hys.symm) hs
      · simp [sgn]; omega
      · simp [sgn]; omega
      · exact absurd (hxs.trans hys.symm) hs
    · rw [Dy.add_ge h1 h2 hs hl]
      refine ⟨?_, (dv_fm hm).2⟩
      rw [(dv_fm hm).1, Nat.sub_mul, e1, e2]
      have hle : y.m * 2 ^ (y.e + E).toNat ≤ x.m * 2 ^ (x.e + E).toNat := by
        rw [← e1, ← e2]; exact Nat.mul_le_mul_right _ (by omega)
      simp only [dv]
      generalize x.m * 2 ^ (x.e + E).toNat = X at *
      generalize y.m * 2 ^ (y.e + E).toNat = Y at *
      cases hxs : x.s <;> cases hys : y.s
      · exact absurd (hxs.trans hys.symm) hs
      · simp [sgn]; omega
      · simp [sgn]; omega
      · exact absurd (hxs.trans hys.symm) hs
theorem dv_mul {E F : Nat} {x y : Dy} (hx : x.Ge E) (hy : y.Ge F) : dv (E + F) (x.mul y) = dv E x * dv F y ∧ (x.mul y).Ge (E + F) := by
  unfold Dy.Ge at hx hy
  have h : 0 ≤ x.e + y.e + ((E + F : Nat) : Int) := by omega
  rw [Dy.mul]
  refine ⟨?_, (dv_fm h).2⟩
  rw [(dv_fm h).1]
  simp only [dv]
  rw [← sgn_xor]
  congr 1
  rw [show x.e + y.e + ((E + F : Nat) : Int) = (x.e + E) + (y.e + F) by omega, ← pow_toNat_add hx hy]
  simp only [Nat.mul_assoc, Nat.mul_left_comm]
theorem tz_mul_pow {m k : Nat} (h : m ≠ 0) : tz (m * 2 ^ k) = tz m + k := by
  obtain ⟨q, hq, ho⟩ := tz_spec h
  have : m * 2 ^ k = 2 ^ (tz m + k) * q := by
    conv => lhs; rw [hq]
    rw [Nat.pow_add]; simp only [Nat.mul_assoc, Nat.mul_comm, Nat.mul_left_comm]
  rw [this]; exact tz_unique ho
theorem dv_inj {E : Nat} {x y : Dy} (hx : x.Can) (hy : y.Can) (h1 : x.Ge E) (h2 : y.Ge E) (h : dv E x = dv E y) : x = y := by
  unfold Dy.Ge at h1 h2
  have habs : x.m * 2 ^ (x.e + E).toNat = y.m * 2 ^ (y.e + E).toNat := by
    have := congrArg Int.natAbs h
    simpa only [dv, sgn_natAbs] using this
  rcases Dy.can_iff.1 hx with ex | ox
  · rcases Dy.can_iff.1 hy with ey | oy
    · rw [ex, ey]
    · exfalso
      rw [ex] at habs
      have : y.m * 2 ^ (y.e + E).toNat = 0 := by rw [← habs]; simp
      rcases Nat.mul_eq_zero.1 this with h | h
      · rw [h] at oy; simp at oy
      · exact absurd h (Nat.ne_of_gt (Nat.two_pow_pos _))
  · rcases Dy.can_iff.1 hy with ey | oy
    · exfalso
      rw [ey] at habs
      have : x.m * 2 ^ (x.e + E).toNat = 0 := by rw [habs]; simp
      rcases Nat.mul_eq_zero.1 this with h | h
      · rw [h] at ox; simp at ox
      · exact absurd h (Nat.ne_of_gt (Nat.two_pow_pos _))
    · have e1 : tz (x.m * 2 ^ (x.e + E).toNat) = (x.e + E).toNat := by rw [Nat.mul_comm]; exact tz_unique ox
      have e2 : tz (y.m * 2 ^ (y.e + E).toNat) = (y.e + E).toNat := by rw [Nat.mul_comm]; exact tz_unique oy
      have e3 : (x.e + E).toNat = (y.e + E).toNat := by rw [← e1, habs, e2]
      have e4 : x.e = y.e := by omega
      have e5 : x.m = y.m := by
        rw [e3] at habs; exact Nat.eq_of_mul_eq_mul_right (Nat.two_pow_pos _) habs
      have e6 : x.s = y.s := by
        have hp : 0 < x.m * 2 ^ (x.e + E).toNat := Nat.mul_pos (by omega) (Nat.two_pow_pos _)
        simp only [dv] at h
        rw [← habs] at h
        generalize x.m * 2 ^ (x.e + E).toNat = X at h hp
        by_cases hs : x.s = y.s
        · exact hs
        · exfalso
          cases hxs : x.s <;> cases hys : y.s <;> rw [hxs, hys] at h hs
          · exact hs rfl
          · simp [sgn] at h; omega
          · simp [sgn] at h; omega
          · exact hs rfl
      cases x; cases y; simp_all
end Go.Sw
