/- A part of the proof that BinsAlike answers true: steps of the walk, or plain laws that it needs. No conditions of its own. -/
import Derived.Test.YtdaphmoojpbddaaDoorSM8
set_option linter.all false
/-! The references' rounding: the neighbours among all numbers; plain maths. -/
namespace Go.Sw
set_option autoImplicit false
set_option linter.all false
/-- How m 2^e stands to n 2^f. -/
def cmpD (m : Nat) (e : Int) (n : Nat) (f : Int) : Int := cmpN (shiftN m (e - min e f)) (shiftN n (f - min e f))
theorem cmpN_mul {a b k : Nat} (hk : 0 < k) : cmpN (a * k) (b * k) = cmpN a b := by
  unfold cmpN
  simp only [Nat.mul_lt_mul_right hk]
theorem cmpN_add {a b k : Nat} : cmpN (a + k) (b + k) = cmpN a b := by
  unfold cmpN
  simp only [Nat.add_lt_add_iff_right]
theorem cmpN_swap (a b : Nat) : cmpN a b = -cmpN b a := by
  unfold cmpN; split <;> split <;> first | rfl | omega | (split <;> first | rfl | omega)
theorem cmpD_eq {m n : Nat} {e f : Int} (E : Nat) (he : 0 ≤ e + E) (hf : 0 ≤ f + E) : cmpD m e n f = cmpN (m * 2 ^ (e + E).toNat) (n * 2 ^ (f + E).toNat) := by
  have hm : 0 ≤ min e f + (E : Int) := by omega
  rw [← dv_shift (m := m) (show min e f ≤ e by omega) hm, ← dv_shift (m := n) (show min e f ≤ f by omega) hm, cmpN_mul (Nat.two_pow_pos _)]; rfl
theorem cmpD_zero {m n : Nat} {e f : Int} (h : m = 0 ∨ n = 0) : cmpD m e n f = cmpN m n := by
  rw [cmpD_eq (e.natAbs + f.natAbs) (by omega) (by omega)]
  rcases h with rfl | rfl
  · rw [Nat.zero_mul]
    rcases Nat.eq_zero_or_pos n with e0 | e0
    · subst e0; rw [Nat.zero_mul]
    · rw [cmpN_lt e0, cmpN_lt (Nat.mul_pos e0 (Nat.two_pow_pos _))]
  · rw [Nat.zero_mul]
    rcases Nat.eq_zero_or_pos m with e0 | e0
    · subst e0; rw [Nat.zero_mul]
    · rw [cmpN_gt e0, cmpN_gt (Nat.mul_pos e0 (Nat.two_pow_pos _))]
theorem cmpD_swap (m n : Nat) (e f : Int) : cmpD m e n f = -cmpD n f m e := by
  unfold cmpD; rw [cmpN_swap, Int.min_comm]
theorem cmpD_ge {m n : Nat} {e f : Int} (h : f ≤ e) : cmpD m e n f = cmpN (m * 2 ^ (e - f).toNat) n := by
  unfold cmpD
  rw [show min e f = f by omega, shiftN_pos (by omega), shiftN_pos (k := f - f) (by omega)]
  simp
theorem cmpD_hi {m n : Nat} {e f : Int} (h : f ≤ e) (hm : m ≠ 0) (hl : blen n < blen m + (e - f).toNat) : cmpD m e n f = 1 := by
  rw [cmpD_ge h]
  refine cmpN_gt ?_
  have h1 := blen_mul_pow hm (e - f).toNat
  have h2 : n < 2 ^ blen n := blen_le.1 (Nat.le_refl _)
  have h3 : 2 ^ blen n ≤ m * 2 ^ (e - f).toNat := lt_blen.1 (by omega)
  omega
theorem cmpD_lo {m n : Nat} {e f : Int} (h : f ≤ e) (hm : m ≠ 0) (hl : blen m + (e - f).toNat < blen n) : cmpD m e n f = -1 := by
  rw [cmpD_ge h]
  refine cmpN_lt ?_
  have h1 := blen_mul_pow hm (e - f).toNat
  have h2 : m * 2 ^ (e - f).toNat < 2 ^ blen (m * 2 ^ (e - f).toNat) := blen_le.1 (Nat.le_refl _)
  have h3 : 2 ^ blen (m * 2 ^ (e - f).toNat) ≤ n := lt_blen.1 (by omega)
  omega

/-- The k-th number of a grid: a whole number, and its power of two. -/
def numM (p k : Nat) : Nat := if k / 2 ^ (p - 1) = 0 then k % 2 ^ (p - 1) else 2 ^ (p - 1) + k % 2 ^ (p - 1)
def numE (p : Nat) (low : Int) (k : Nat) : Int := if k / 2 ^ (p - 1) = 0 then low else low + (k / 2 ^ (p - 1) : Nat) - 1
/-- In steps of 2^-E. -/
def NV (p : Nat) (low : Int) (E k : Nat) : Nat := numM p k * 2 ^ (numE p low k + E).toNat
theorem numE_low {p : Nat} {low : Int} {k : Nat} : low ≤ numE p low k := by
  unfold numE
  generalize k / 2 ^ (p - 1) = q
  split <;> omega
theorem NV_succ {p : Nat} {low : Int} {E k : Nat} (hE : 0 ≤ low + E) : NV p low E (k + 1) = NV p low E k + 2 ^ (numE p low k + E).toNat := by
  have hp : 0 < 2 ^ (p - 1) := Nat.two_pow_pos _
  obtain ⟨h, hh⟩ : ∃ h, h = 2 ^ (p - 1) := ⟨_, rfl⟩
  unfold NV numM numE
  rw [← hh] at hp ⊢
  obtain ⟨q, hq⟩ : ∃ q, q = k / h := ⟨_, rfl⟩
  obtain ⟨r, hr⟩ : ∃ r, r = k % h := ⟨_, rfl⟩
  have hrl : r < h := hr ▸ Nat.mod_lt _ hp
  have hk : k = h * q + r := by rw [hq, hr]; exact (Nat.div_add_mod k h).symm
  by_cases hc : r + 1 < h
  · have e1 : (k + 1) / h = q := by rw [hk, Nat.add_assoc, Nat.mul_add_div hp, Nat.div_eq_of_lt hc]; omega
    have e2 : (k + 1) % h = r + 1 := by rw [hk, Nat.add_assoc, Nat.mul_add_mod, Nat.mod_eq_of_lt hc]
    rw [e1, e2, ← hq, ← hr]
    split
    · rw [Nat.add_mul]; omega
    · rw [← Nat.add_assoc, Nat.add_mul]; omega
  · have hc' : r + 1 = h := by omega
    have e1 : (k + 1) / h = q + 1 := by rw [hk, Nat.add_assoc, hc', ← Nat.mul_succ]; exact Nat.mul_div_cancel_left _ hp
    have e2 : (k + 1) % h = 0 := by rw [hk, Nat.add_assoc, hc', ← Nat.mul_succ]; exact Nat.mul_mod_right _ _
    rw [e1, e2, ← hq, ← hr, if_neg (by omega), if_neg (by omega), Nat.add_zero]
    by_cases h0 : q = 0
    · rw [if_pos h0, if_pos h0, h0, show low + ((0 + 1 : Nat) : Int) - 1 = low by omega]
      conv => lhs; rw [← hc', Nat.add_mul]
      omega
    · rw [if_neg h0, if_neg h0]
      have e3 : (low + ((q + 1 : Nat) : Int) - 1 + (E : Int)).toNat = (low + (q : Int) - 1 + (E : Int)).toNat + 1 := by omega
      rw [e3, Nat.pow_succ]
      generalize 2 ^ (low + (q : Int) - 1 + (E : Int)).toNat = z
      have : h * (z * 2) = (h + r) * z + z := by
        have e4 : h + r + 1 = h * 2 := by omega
        have : (h + r) * z + z = (h + r + 1) * z := by rw [Nat.add_mul (h + r) 1 z]; omega
        rw [this, e4, Nat.mul_assoc, Nat.mul_comm z 2]
      exact this
theorem NV_zero {p : Nat} {low : Int} {E : Nat} : NV p low E 0 = 0 := by
  unfold NV numM; simp
theorem NV_lt_succ {p : Nat} {low : Int} {E k : Nat} (hE : 0 ≤ low + E) : NV p low E k < NV p low E (k + 1) := by
  rw [NV_succ hE]; have := Nat.two_pow_pos (numE p low k + E).toNat; omega
theorem NV_mono {p : Nat} {low : Int} {E : Nat} (hE : 0 ≤ low + E) {i j : Nat} (h : i ≤ j) : NV p low E i ≤ NV p low E j := by
  induction j with
  | zero => obtain rfl : i = 0 := by omega
            exact Nat.le_refl _
  | succ j ih =>
    rcases Nat.lt_or_ge i (j + 1) with hl | hl
    · exact Nat.le_trans (ih (by omega)) (Nat.le_of_lt (NV_lt_succ hE))
    · obtain rfl : i = j + 1 := by omega
      exact Nat.le_refl _
theorem NV_lt {p : Nat} {low : Int} {E : Nat} (hE : 0 ≤ low + E) {i j : Nat} (h : NV p low E i < NV p low E j) : i < j := by
  rcases Nat.lt_or_ge i j with hl | hl
  · exact hl
  · have := NV_mono (p := p) hE hl; omega
/-- A number's place from its parts. -/
theorem num_at {p : Nat} {low g : Int} {n : Nat} (hg : low ≤ g) (hn : n < 2 * 2 ^ (p - 1)) (hh : low < g → 2 ^ (p - 1) ≤ n) :
    numM p (n + (g - low).toNat * 2 ^ (p - 1)) = n ∧ numE p low (n + (g - low).toNat * 2 ^ (p - 1)) = g := by
  have hp : 0 < 2 ^ (p - 1) := Nat.two_pow_pos _
  unfold numM numE
  generalize 2 ^ (p - 1) = h at *
  rw [Nat.add_mul_div_right _ _ hp, Nat.add_mul_mod_self_right]
  by_cases hlt : n < h
  · have : ¬ low < g := fun hc => by have := hh hc; omega
    obtain rfl : g = low := by omega
    rw [Nat.div_eq_of_lt hlt, Nat.mod_eq_of_lt hlt]
    simp
  · have e1 : n / h = 1 := by rw [Nat.div_eq_iff hp]; omega
    have e2 : n % h = n - h := by rw [Nat.mod_eq_sub_mod (by omega), Nat.mod_eq_of_lt (by omega)]
    rw [e1, e2, if_neg (by omega), if_neg (by omega)]
    constructor
    · omega
    · omega
/-- Where a value stands: its place by its highest digits. -/
theorem gexp_at {p : Nat} {low : Int} {d : Dy} {E : Nat} (hp : 0 < p) (hE : 0 ≤ low + E) (hd : 0 ≤ d.e + E) (hm : d.m ≠ 0) :
    low ≤ gexp p low d ∧ shiftN d.m (d.e - gexp p low d) < 2 * 2 ^ (p - 1) ∧ (low < gexp p low d → 2 ^ (p - 1) ≤ shiftN d.m (d.e - gexp p low d)) ∧
    shiftN d.m (d.e - gexp p low d) * 2 ^ (gexp p low d + E).toNat ≤ d.m * 2 ^ (d.e + E).toNat ∧ d.m * 2 ^ (d.e + E).toNat < (shiftN d.m (d.e - gexp p low d) + 1) * 2 ^ (gexp p low d + E).toNat := by
  have hgl : low ≤ gexp p low d := by unfold gexp; omega
  have h2 : 2 * 2 ^ (p - 1) = 2 ^ p := by rw [Nat.mul_comm, ← Nat.pow_succ]; congr 1; omega
  refine ⟨hgl, by rw [h2]; exact gshift_lt, ?_, ?_⟩
  · intro hlt
    have hg : gexp p low d = (blen d.m : Int) + d.e - p := by unfold gexp at hlt ⊢; omega
    rw [hg]
    have hb : 2 ^ (blen d.m - 1) ≤ d.m := lt_blen.1 (by have := blen_pos hm; omega)
    have hb0 := blen_pos hm
    rcases Int.lt_or_le (d.e - ((blen d.m : Int) + d.e - p)) 0 with h0 | h0
    · rw [shiftN_neg h0, Nat.le_div_iff_mul_le (Nat.two_pow_pos _), ← Nat.pow_add]
      refine Nat.le_trans (Nat.pow_le_pow_right (by decide) ?_) hb
      omega
    · rw [shiftN_pos h0]
      refine Nat.le_trans ?_ (Nat.mul_le_mul_right _ hb)
      rw [← Nat.pow_add]
      exact Nat.pow_le_pow_right (by decide) (by omega)
  · generalize gexp p low d = g at *
    rcases Int.lt_or_le (d.e - g) 0 with h0 | h0
    · rw [shiftN_neg h0]
      have e : 2 ^ (g + E).toNat = 2 ^ (-(d.e - g)).toNat * 2 ^ (d.e + E).toNat := by rw [← Nat.pow_add]; congr 1; omega
      rw [e]
      generalize 2 ^ (-(d.e - g)).toNat = c at *
      rw [← Nat.mul_assoc, ← Nat.mul_assoc]
      have hc : 0 < c ∨ c = 0 := by omega
      constructor
      · exact Nat.mul_le_mul_right _ (Nat.div_mul_le_self _ _)
      · refine Nat.mul_lt_mul_of_pos_right ?_ (Nat.two_pow_pos _)
        rcases hc with hc | hc
        · have := Nat.lt_div_mul_add (a := d.m) hc
          rw [Nat.add_mul]; omega
        · exfalso; subst hc
          have h1 : 0 < 2 ^ (g + E).toNat := Nat.two_pow_pos _
          rw [e] at h1; simp at h1
    · have := dv_shift (E := E) (m := d.m) (show g ≤ d.e by omega) (by omega)
      rw [this, Nat.add_mul, this]
      have := Nat.two_pow_pos (g + E).toNat
      omega
def onB (mode : Int) (s : Bool) (h : Int) (k : Nat) : Bool :=
  if mode = 0 then (decide (0 < h) || (decide (h = 0) && decide (k % 2 = 1))) else if mode = 2 then !s else if mode = 3 then s else if mode = 4 then decide (0 ≤ h) else false
theorem half_odd {m c : Nat} (hodd : m % 2 = 1) (hc : 0 < c) : (m % 2 ^ c) % 2 = 1 := by
  obtain ⟨q, rfl⟩ : ∃ q, c = q + 1 := ⟨c - 1, by omega⟩
  rw [Nat.pow_succ, Nat.mul_comm, Nat.mod_mul_right_mod]; exact hodd
theorem half_bit {m c : Nat} (hc : 0 < c) : (m / 2 ^ (c - 1) % 2 = 1) ↔ 2 ^ (c - 1) ≤ m % 2 ^ c := by
  obtain ⟨q, rfl⟩ : ∃ q, c = q + 1 := ⟨c - 1, by omega⟩
  simp only [Nat.add_sub_cancel, Nat.pow_succ]
  have hp := Nat.two_pow_pos q
  generalize 2 ^ q = z at *
  have h1 := Nat.mod_mul (a := z) (b := 2) (x := m)
  have h2 := Nat.mod_lt m hp
  rw [h1]
  rcases Nat.mod_two_eq_zero_or_one (m / z) with e | e
  · rw [e]; simp; omega
  · rw [e]; simp
/-- Rounded as the reference does: the greatest number below, the next, the middle. -/
theorem round_near {p Q : Nat} {low : Int} {inf mode : Int} {d : Dy} {E k infn : Nat} (hp : 2 ≤ p) (hQ : 1 ≤ Q) (hinf : infn = Q * 2 ^ (p - 1)) (hE : 0 ≤ low + E) (hd : 0 ≤ d.e + E) (hc : d.Can) (hm : 0 ≤ mode ∧ mode ≤ 4)
    (hk : k < infn) (h1 : NV p low E k ≤ d.m * 2 ^ (d.e + E).toNat) (h2 : k + 1 = infn ∨ d.m * 2 ^ (d.e + E).toNat < NV p low E (k + 1)) {h : Int} (hh : h = cmpN (2 * (d.m * 2 ^ (d.e + E).toNat)) (NV p low E k + NV p low E (k + 1))) :
    roundN p low infn mode d = if NV p low E k = d.m * 2 ^ (d.e + E).toNat then k else if onB mode d.s h k = true then k + 1 else k := by
  have hpp := Nat.two_pow_pos (p - 1)
  by_cases hm0 : d.m = 0
  · rw [hm0, Nat.zero_mul] at h1 ⊢
    have hk0 : k = 0 := by
      rcases Nat.eq_zero_or_pos k with e | e
      · exact e
      · exfalso
        have := NV_mono (p := p) hE (show 0 + 1 ≤ k by omega)
        have := NV_lt_succ (p := p) (k := 0) hE
        omega
    subst hk0
    rw [NV_zero, if_pos rfl, roundN, if_pos hm0]
  have hodd : d.m % 2 = 1 := by
    rcases Dy.can_iff.1 hc with e | e
    · rw [e] at hm0; exact absurd rfl hm0
    · exact e
  obtain ⟨hg1, hg2, hg3, hg4, hg5⟩ := gexp_at (d := d) (p := p) (low := low) (E := E) (by omega) hE hd hm0
  obtain ⟨V, hV⟩ : ∃ V, V = d.m * 2 ^ (d.e + E).toNat := ⟨_, rfl⟩
  obtain ⟨g, hg⟩ : ∃ g, g = gexp p low d := ⟨_, rfl⟩
  obtain ⟨n, hn⟩ : ∃ n, n = shiftN d.m (d.e - g) := ⟨_, rfl⟩
  rw [← hg, ← hn] at hg2 hg3 hg4 hg5
  rw [← hg] at hg1
  rw [← hV] at h1 h2 hh hg4 hg5 ⊢
  obtain ⟨hjm, hje⟩ := num_at hg1 hg2 hg3
  have hNj : NV p low E (n + (g - low).toNat * 2 ^ (p - 1)) = n * 2 ^ (g + E).toNat := by unfold NV; rw [hjm, hje]
  have hNj1 : NV p low E (n + (g - low).toNat * 2 ^ (p - 1) + 1) = (n + 1) * 2 ^ (g + E).toNat := by
    rw [NV_succ hE, hNj, hje, Nat.add_mul]; omega
  have hinfM : numM p infn = 2 ^ (p - 1) ∧ numE p low infn = low + Q - 1 := by
    unfold numM numE
    rw [hinf, Nat.mul_div_cancel _ hpp, Nat.mul_mod_left, if_neg (by omega), if_neg (by omega)]
    simp
  have hNinf : NV p low E infn = 2 ^ ((p : Int) - 1 + (low + Q - 1) + E).toNat := by
    unfold NV; rw [hinfM.1, hinfM.2, ← Nat.pow_add]; congr 1; omega
  have hdiv : infn / 2 ^ (p - 1) = Q := by rw [hinf]; exact Nat.mul_div_cancel _ hpp
  have hVb : blen V = blen d.m + (d.e + E).toNat := by rw [hV]; exact blen_mul_pow hm0 _
  by_cases hov : low + (infn / 2 ^ (p - 1) : Nat) - 1 + p - 1 < (blen d.m : Int) + d.e
  · -- beyond
    rw [round_over hm0 hov]
    have hVi : NV p low E infn ≤ V := by
      rw [hNinf]; refine lt_blen.1 ?_
      rw [hdiv] at hov; rw [hVb]; omega
    have hk1 : k + 1 = infn := by
      rcases h2 with h2 | h2
      · exact h2
      · exfalso
        have := NV_mono (p := p) hE (show k + 1 ≤ infn by omega)
        omega
    have hlt := NV_lt_succ (p := p) (k := k) hE
    rw [hk1] at hlt hh
    have hh1 : h = 1 := by rw [hh]; exact cmpN_gt (by omega)
    have hne : ¬ NV p low E k = V := by omega
    rw [if_neg hne]
    have e1 : infn - 1 = k := by omega
    rw [e1, hk1]
    subst hh1
    obtain ⟨hm1, hm2⟩ := hm
    have : mode = 0 ∨ mode = 1 ∨ mode = 2 ∨ mode = 3 ∨ mode = 4 := by omega
    rcases this with rfl | rfl | rfl | rfl | rfl <;> cases d.s <;> simp [overB, onB]
  · have hVi : V < NV p low E infn := by
      rw [hNinf]; refine blen_le.1 ?_
      rw [hdiv] at hov; rw [hVb]; omega
    have h2' : V < NV p low E (k + 1) := by
      rcases h2 with h2 | h2
      · rw [h2]; exact hVi
      · exact h2
    have hkj : k = n + (g - low).toNat * 2 ^ (p - 1) := by
      have a1 := NV_lt (p := p) hE (show NV p low E k < NV p low E (n + (g - low).toNat * 2 ^ (p - 1) + 1) by rw [hNj1]; omega)
      have a2 := NV_lt (p := p) hE (show NV p low E (n + (g - low).toNat * 2 ^ (p - 1)) < NV p low E (k + 1) by rw [hNj]; omega)
      omega
    rw [roundN, if_neg hm0, if_neg hov, ← hg]
    by_cases hcut : 0 < g - d.e
    · -- something is cut off
      have hpar : k % 2 = n % 2 := by
        obtain ⟨q, hq⟩ : ∃ q, p - 1 = q + 1 := ⟨p - 2, by omega⟩
        rw [hkj, hq, Nat.pow_succ, ← Nat.mul_assoc]; omega
      obtain ⟨c, hcc⟩ : ∃ c : Nat, (c : Int) = g - d.e := ⟨(g - d.e).toNat, by omega⟩
      have hc0 : 0 < c := by omega
      have hnd : n = d.m / 2 ^ c := by rw [hn, shiftN_neg (by omega)]; congr 2; omega
      have hpw : 2 ^ (g + E).toNat = 2 ^ c * 2 ^ (d.e + E).toNat := by rw [← Nat.pow_add]; congr 1; omega
      have hr := half_odd hodd hc0
      have hdm := Nat.div_add_mod d.m (2 ^ c)
      have hrl := Nat.mod_lt d.m (Nat.two_pow_pos c)
      have hb := half_bit (m := d.m) hc0
      have hz := Nat.two_pow_pos (d.e + E).toNat
      have hVr : V = n * 2 ^ (g + E).toNat + (d.m % 2 ^ c) * 2 ^ (d.e + E).toNat := by
        rw [hpw, hnd, ← Nat.mul_assoc, ← Nat.add_mul, Nat.mul_comm _ (2 ^ c), hdm, hV]
      rw [hkj] at hh
      rw [hNj, hNj1] at hh
      rw [hkj, hNj]
      have hne : ¬ n * 2 ^ (g + E).toNat = V := by
        intro e
        rw [hVr] at e
        have : d.m % 2 ^ c * 2 ^ (d.e + E).toNat = 0 := by omega
        rcases Nat.mul_eq_zero.1 this with h | h
        · rw [h] at hr; cases hr
        · omega
      rw [if_neg hne, ← hkj]
      have hhc : h = cmpN (2 * (d.m % 2 ^ c)) (2 ^ c) := by
        rw [hh, hVr, Nat.add_mul, Nat.one_mul]
        have e1 : 2 * (n * 2 ^ (g + E).toNat + d.m % 2 ^ c * 2 ^ (d.e + E).toNat) = 2 * (d.m % 2 ^ c) * 2 ^ (d.e + E).toNat + 2 * (n * 2 ^ (g + E).toNat) := by
          rw [Nat.mul_add, Nat.mul_assoc 2 (d.m % 2 ^ c)]; omega
        have e2 : n * 2 ^ (g + E).toNat + (n * 2 ^ (g + E).toNat + 2 ^ (g + E).toNat) = 2 ^ c * 2 ^ (d.e + E).toNat + 2 * (n * 2 ^ (g + E).toNat) := by rw [← hpw]; omega
        rw [e1, e2]
        rw [cmpN_add, cmpN_mul hz]
      have haw : awayB mode d.s n (decide (d.m / 2 ^ (c - 1) % 2 = 1)) (decide ((c : Int) = 1)) = onB mode d.s h k := by
        unfold awayB onB
        rw [hpar]
        have h5 : mode = 0 ∨ mode = 1 ∨ mode = 2 ∨ mode = 3 ∨ mode = 4 := by omega
        by_cases c1 : c = 1
        · subst c1
          have r1 : d.m % 2 ^ 1 = 1 := hodd
          rw [r1] at hhc
          have hh0 : h = 0 := by rw [hhc]; rfl
          have hb' : d.m / 2 ^ (1 - 1) % 2 = 1 := by simpa using hodd
          rw [hh0]
          rcases h5 with rfl | rfl | rfl | rfl | rfl <;> simp [hb', hodd]
        · have hne2 : d.m % 2 ^ c ≠ 2 ^ (c - 1) := by
            intro e
            obtain ⟨q, hq⟩ : ∃ q, c - 1 = q + 1 := ⟨c - 2, by omega⟩
            rw [e, hq, Nat.pow_succ] at hr; omega
          have h2c : 2 ^ c = 2 ^ (c - 1) * 2 := by rw [← Nat.pow_succ]; congr 1; omega
          have hone : ¬ ((c : Int) = 1) := by omega
          by_cases hbit : d.m / 2 ^ (c - 1) % 2 = 1
          · have := hb.1 hbit
            have hh1 : h = 1 := by rw [hhc]; exact cmpN_gt (by omega)
            rw [hh1]; rcases h5 with rfl | rfl | rfl | rfl | rfl <;> simp [hbit, hone]
          · have : ¬ 2 ^ (c - 1) ≤ d.m % 2 ^ c := fun e => hbit (hb.2 e)
            have hh1 : h = -1 := by rw [hhc]; exact cmpN_lt (by omega)
            rw [hh1]; rcases h5 with rfl | rfl | rfl | rfl | rfl <;> simp [hbit]
      have hgn : gnum p low mode d = if onB mode d.s h k = true then n + 1 else n := by
        unfold gnum
        rw [← hg, ← hn]
        have e1 : (g - d.e - 1).toNat = c - 1 := by omega
        have e2 : decide (g - d.e = 1) = decide ((c : Int) = 1) := by rw [hcc]
        rw [e1, e2, haw]
        by_cases ho : onB mode d.s h k = true
        · rw [if_pos ⟨hcut, ho⟩, if_pos ho]
        · rw [if_neg (fun hx => ho hx.2), if_neg ho]
      rw [hgn]
      by_cases ho : onB mode d.s h k = true
      · rw [if_pos ho, if_pos ho, hkj]; omega
      · rw [if_neg ho, if_neg ho, hkj]
    · have hex : n * 2 ^ (g + E).toNat = V := by
        rw [hn, hV]; exact dv_shift (by omega) (by omega)
      rw [hkj, hNj, if_pos hex]
      have : gnum p low mode d = n := by rw [gnum_F (fun h0 => by rw [← hg] at h0; omega), ← hg, ← hn]
      rw [this]
end Go.Sw
