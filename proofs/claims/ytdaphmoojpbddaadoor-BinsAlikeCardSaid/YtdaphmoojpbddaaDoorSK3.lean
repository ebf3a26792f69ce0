/- A part of the proof that BinsAlike answers true: steps of the walk, or plain laws that it needs. No conditions of its own. -/
import Derived.Test.YtdaphmoojpbddaaDoorSM9
import Derived.Test.YtdaphmoojpbddaaDoorSM10
set_option linter.all false
/-! The references' dyads. -/
namespace Go.Sw
set_option autoImplicit false
set_option linter.all false
open Go.RowKit
def DyOk (w w' : World) (T : TypeId) (d : Dy) (v : Value) : Prop := ∃ a c, v = .tuple #[dyV d a c, .bool true] ∧ (dig d.m).length ≤ c ∧ Res w w' a c 1 (ws .u32 (dig d.m)) T
/-- A dyad brought into its form. -/
def Dy.nf (d : Dy) : Dy := Dy.fm d.s d.m d.e
theorem Dy.nf_can (d : Dy) : d.nf.Can := Dy.fm_can ..
theorem Dy.Can.nf {d : Dy} (h : d.Can) : d.nf = d := h
theorem Dy.nf_B {d : Dy} {K : Nat} (h : d.B K) : blen d.nf.m ≤ K ∧ -(K : Int) ≤ d.nf.e ∧ d.nf.e ≤ 2 * K ∧ (blen d.nf.m : Int) + d.nf.e ≤ 2 * K := by
  unfold Dy.B at h
  unfold Dy.nf
  by_cases hm : d.m = 0
  · rw [hm, Dy.fm_zero]; simp [blen_zero]; omega
  · rw [Dy.fm_pos hm]
    have h1 := blen_dvd (m := d.m)
    have h2 := tz_le_blen hm
    simp only
    omega
theorem shiftN_tz (N : Nat) : shiftN N (-(tz N : Int)) = N / 2 ^ tz N := by
  rcases Nat.eq_zero_or_pos (tz N) with h | h
  · rw [h]; simp [shiftN]
  · rw [shiftN_neg (by omega)]; congr 2; omega
/-- A number's value by its bits. -/
def fval (b : Nat) : Dy := Dy.fm (decide (b / 9223372036854775808 = 1)) (numM 53 (b % 9223372036854775808)) (numE 53 (-1074) (b % 9223372036854775808))
theorem numM_lt {p k : Nat} (hp : 1 ≤ p) : numM p k < 2 ^ p := by
  have h2 : 2 ^ p = 2 ^ (p - 1) * 2 := by rw [← Nat.pow_succ]; congr 1; omega
  have := Nat.mod_lt k (Nat.two_pow_pos (p - 1))
  unfold numM; split <;> omega
theorem cmpN_le {a b : Nat} : cmpN a b ≤ 0 ↔ a ≤ b := by
  unfold cmpN; split
  · simp; omega
  · split
    · simp; omega
    · simp; omega
theorem cmpN_zero {a b : Nat} : cmpN a b = 0 ↔ a = b := by
  unfold cmpN; split
  · simp; omega
  · split
    · simp; omega
    · simp; omega
theorem round_ref {p Q : Nat} {low mode : Int} {d : Dy} {k infn : Nat} (hp : 2 ≤ p) (hQ : 1 ≤ Q) (hinf : infn = Q * 2 ^ (p - 1)) (hc : d.Can) (hm : 0 ≤ mode ∧ mode ≤ 4)
    (hk : k < infn) (h1 : cmpD (numM p k) (numE p low k) d.m d.e ≤ 0) (h2 : k + 1 = infn ∨ 0 < cmpD (numM p (k + 1)) (numE p low (k + 1)) d.m d.e) {h : Int}
    (hh : h = cmpD (d.m * 2) d.e (numM p k + shiftN (numM p (k + 1)) (numE p low (k + 1) - numE p low k)) (numE p low k)) (hge : numE p low k ≤ numE p low (k + 1)) :
    roundN p low infn mode d = if cmpD (numM p k) (numE p low k) d.m d.e = 0 then k else if onB mode d.s h k = true then k + 1 else k := by
  obtain ⟨E, hE⟩ : ∃ E : Nat, 0 ≤ low + E ∧ 0 ≤ d.e + E := ⟨low.natAbs + d.e.natAbs, by omega, by omega⟩
  have n1 := @numE_low p low k
  have n2 := @numE_low p low (k + 1)
  have c1 : cmpD (numM p k) (numE p low k) d.m d.e = cmpN (NV p low E k) (d.m * 2 ^ (d.e + E).toNat) := cmpD_eq E (by omega) (by omega)
  have c2 : cmpD (numM p (k + 1)) (numE p low (k + 1)) d.m d.e = cmpN (NV p low E (k + 1)) (d.m * 2 ^ (d.e + E).toNat) := cmpD_eq E (by omega) (by omega)
  have c3 : h = cmpN (2 * (d.m * 2 ^ (d.e + E).toNat)) (NV p low E k + NV p low E (k + 1)) := by
    rw [hh, cmpD_eq E (by omega) (by omega), Nat.add_mul, dv_shift hge (by omega)]
    rw [Nat.mul_comm d.m 2, Nat.mul_assoc]; rfl
  have := round_near (inf := 0) hp hQ hinf hE.1 hE.2 hc hm hk (by rw [c1] at h1; exact cmpN_le.1 h1) (by
    rcases h2 with h2 | h2
    · exact .inl h2
    · right
      rw [c2] at h2
      rcases Nat.lt_or_ge (d.m * 2 ^ (d.e + E).toNat) (NV p low E (k + 1)) with hl | hl
      · exact hl
      · have := cmpN_le.2 hl; omega) c3
  rw [this, c1]
  by_cases e : NV p low E k = d.m * 2 ^ (d.e + E).toNat
  · rw [if_pos e, if_pos (cmpN_zero.2 e)]
  · rw [if_neg e, if_neg (fun hx => e (cmpN_zero.1 hx))]
theorem numE_mono {p k : Nat} {low : Int} : numE p low k ≤ numE p low (k + 1) := by
  have : k / 2 ^ (p - 1) ≤ (k + 1) / 2 ^ (p - 1) := Nat.div_le_div_right (by omega)
  unfold numE
  generalize k / 2 ^ (p - 1) = a at *
  generalize (k + 1) / 2 ^ (p - 1) = b at *
  split <;> split <;> omega
theorem numE_step {p k : Nat} {low : Int} : numE p low (k + 1) ≤ numE p low k + 1 := by
  have : (k + 1) / 2 ^ (p - 1) ≤ k / 2 ^ (p - 1) + 1 := by
    have hp := Nat.two_pow_pos (p - 1)
    rw [← Nat.add_div_right _ hp]
    exact Nat.div_le_div_right (by omega)
  unfold numE
  generalize k / 2 ^ (p - 1) = a at *
  generalize (k + 1) / 2 ^ (p - 1) = b at *
  split <;> split <;> omega
theorem roundN_le {p inf : Nat} {low mode : Int} {d : Dy} (hp : 2 ≤ p) (hQ : ∃ Q, 1 ≤ Q ∧ inf = Q * 2 ^ (p - 1)) : roundN p low inf mode d ≤ inf := by
  obtain ⟨Q, hQ, hinf⟩ := hQ
  have hpp := Nat.two_pow_pos (p - 1)
  by_cases hm0 : d.m = 0
  · rw [roundN, if_pos hm0]; omega
  rw [roundN, if_neg hm0]
  split
  · split <;> omega
  · rename_i hov
    rw [hinf, Nat.mul_div_cancel _ hpp] at hov
    have h1 := @gnum_le p low mode d
    have h2p : 2 ^ p = 2 ^ (p - 1) * 2 := by rw [← Nat.pow_succ]; congr 1; omega
    by_cases hg : gexp p low d = low
    · rw [hg, Int.sub_self]
      simp only [Int.toNat_zero, Nat.zero_mul, Nat.add_zero]
      by_cases hQ1 : Q = 1
      · -- one binade: what is rounded lies below its half
        have : gnum p low mode d ≤ 2 ^ (p - 1) := by
          have hsh : shiftN d.m (d.e - gexp p low d) < 2 ^ (p - 1) := shiftN_blen (by rw [hg]; omega)
          unfold gnum; split <;> omega
        rw [hinf, hQ1]; omega
      · rw [hinf]
        have : 2 * 2 ^ (p - 1) ≤ Q * 2 ^ (p - 1) := Nat.mul_le_mul_right _ (by omega)
        omega
    · have hg2 : gexp p low d = (blen d.m : Int) + d.e - p := by unfold gexp at *; omega
      have hg3 : low < gexp p low d := by unfold gexp at *; omega
      have hle : (gexp p low d - low).toNat + 2 ≤ Q + 0 + 0 := by omega
      have : ((gexp p low d - low).toNat + 2) * 2 ^ (p - 1) ≤ Q * 2 ^ (p - 1) := Nat.mul_le_mul_right _ hle
      rw [hinf, Nat.add_mul] at *
      omega
theorem xor_add {x : Nat} (h : x < 2 ^ 63) : x ^^^ 9223372036854775808 = x + 9223372036854775808 := by
  have h1 := or_add (c := x) (r := 1) (k := 63) h
  rw [show 1 * 2 ^ 63 = 9223372036854775808 by decide] at h1
  rw [← h1]
  apply Nat.eq_of_testBit_eq
  intro i
  rw [Nat.testBit_xor, Nat.testBit_or]
  rcases Nat.lt_or_ge i 63 with hi | hi
  · rw [show (9223372036854775808 : Nat) = 2 ^ 63 by rfl, Nat.testBit_two_pow_of_ne (by omega)]; simp
  · rw [Nat.testBit_lt_two_pow (Nat.lt_of_lt_of_le h (Nat.pow_le_pow_right (by decide) hi))]; simp
theorem round64_add {mode : Int} {d : Dy} : round64 mode d = roundN 53 (-1074) 9218868437227405312 mode d + (if d.s = true then 9223372036854775808 else 0) := by
  have h : roundN 53 (-1074) 9218868437227405312 mode d ≤ 9218868437227405312 := roundN_le (by decide) ⟨2047, by decide, by decide⟩
  unfold round64
  split
  · rw [xor_add (Nat.lt_of_le_of_lt h (by decide))]
  · rfl
end Go.Sw
namespace Go.Sw
theorem cmpD_one (m : Nat) (e : Int) (n : Nat) (f : Int) : -1 ≤ cmpD m e n f ∧ cmpD m e n f ≤ 1 := by
  unfold cmpD cmpN; split
  · omega
  · split <;> omega
theorem cmpD_num0 {p n : Nat} {low f : Int} : cmpD (numM p 0) (numE p low 0) n f ≤ 0 := by
  have : numM p 0 = 0 := by unfold numM; simp
  rw [this, cmpD_zero (.inl rfl), cmpN_le]; omega
/-- Rounded, with the error that a mode brings. -/
def rnd64 (mode : Int) (d : Dy) : Nat := if mode < 0 ∨ 4 < mode then 0 else round64 mode d
def rndE (mode : Int) : Int := if mode < 0 ∨ 4 < mode then 1 else 0
theorem rnd_eq {mode : Int} {d : Dy} : (if mode < 0 ∨ 4 < mode then Value.tuple #[.float .f64 0, .int .i64 1] else .tuple #[.float .f64 (round64 mode d), .int .i64 0]) = .tuple #[.float .f64 (rnd64 mode d), .int .i64 (rndE mode)] := by
  unfold rnd64 rndE; split <;> rfl
end Go.Sw
