/- A part of the proof that BinsAlike answers true: steps of the walk, or plain laws that it needs. No conditions of its own. -/
import Derived.Test.YtdaphmoojpbddaaDoorSB7
set_option linter.all false
/-! The bins have what the reference has: plain maths. -/
namespace Go.Sw
set_option autoImplicit false
set_option linter.all false
open Go.RowKit
theorem shiftN_scale {m : Nat} {e b : Int} (E : Nat) (he : 0 ≤ e + E) (hb : 0 ≤ b + E) : shiftN m (e - b) = m * 2 ^ (e + E).toNat / 2 ^ (b + E).toNat := by
  rcases Int.lt_or_le (e - b) 0 with h | h
  · rw [shiftN_neg h]
    have : 2 ^ (b + E).toNat = 2 ^ (e + E).toNat * 2 ^ (-(e - b)).toNat := by rw [← Nat.pow_add]; congr 1; omega
    rw [this, Nat.mul_comm m, Nat.mul_div_mul_left _ _ (Nat.two_pow_pos _)]
  · rw [shiftN_pos h]
    have : 2 ^ (e + E).toNat = 2 ^ (e - b).toNat * 2 ^ (b + E).toNat := by rw [← Nat.pow_add]; congr 1; omega
    rw [this, ← Nat.mul_assoc, Nat.mul_div_cancel _ (Nat.two_pow_pos _)]
/-- A number's size in steps of 2^-1088. -/
def XX (x : Nat) : Nat := numM 53 (x % 9223372036854775808) * 2 ^ (numE 53 (-1074) (x % 9223372036854775808) + 1088).toNat
theorem fabs_XX (x : Nat) : (fabs x).m * 2 ^ ((fabs x).e + 1088).toNat = XX x := by
  have h := @numE_low 53 (-1074) (x % 9223372036854775808)
  have := (dv_fm (E := 1088) (s := false) (m := numM 53 (x % 9223372036854775808)) (e := numE 53 (-1074) (x % 9223372036854775808)) (by omega)).1
  unfold dv sgn at this
  have hs : (fabs x).s = false := by
    unfold fabs Dy.fm; split <;> rfl
  unfold fabs XX at *
  rw [hs] at this
  simp only [Bool.false_eq_true, if_false] at this
  exact Int.ofNat.inj this
theorem fabs_e {x : Nat} : -1074 ≤ (fabs x).e ∨ (fabs x).m = 0 := by
  have h := @numE_low 53 (-1074) (x % 9223372036854775808)
  unfold fabs Dy.fm
  split
  · right; rfl
  · left; simp only; omega
theorem sliceN_hi {x : Nat} {j : Int} (hj : -34 ≤ j) : sliceN x j = XX x / 2 ^ (32 * (j + 34)).toNat % 4294967296 := by
  unfold sliceN
  rcases fabs_e (x := x) with h | h
  · rw [shiftN_scale 1088 (by omega) (by omega), show ((1088 : Nat) : Int) = 1088 from rfl, fabs_XX]; congr 4; omega
  · have : XX x = 0 := by rw [← fabs_XX, h, Nat.zero_mul]
    rw [this, h, shift_zero, Nat.zero_div]
theorem sliceN_lo {x : Nat} {j : Int} (hj : j < -34) : sliceN x j = 0 := by
  unfold sliceN
  rcases fabs_e (x := x) with h | h
  · rw [shiftN_pos (by omega)]
    have : 2 ^ ((fabs x).e - 32 * j).toNat = 4294967296 * 2 ^ ((fabs x).e - 32 * j - 32).toNat := by
      rw [show (4294967296 : Nat) = 2 ^ 32 by rfl, ← Nat.pow_add]; congr 1; omega
    rw [this, Nat.mul_left_comm]; exact Nat.mul_mod_right _ _
  · rw [h, shift_zero]
theorem fin_exp {x : Nat} (h : finB x) : x / 4503599627370496 % 2048 ≠ 2047 := by unfold finB at h; omega
theorem inf_exp {x : Nat} (h : ¬ finB x) : x / 4503599627370496 % 2048 = 2047 := by unfold finB at h; omega
theorem split_cls {x : Nat} : ((split x).cls = 3 ∨ (split x).cls = 4) ↔ ¬ finB x := by
  by_cases h : finB x
  · have h1 := fin_exp h
    unfold split
    rw [if_neg h1]
    split
    · simp [h]
    split <;> simp [h]
  · have h1 := inf_exp h
    unfold split
    rw [if_pos h1]
    split <;> simp [h]
theorem split_XX {x : Nat} (h : finB x) : XX x = (split x).f * 2 ^ ptA (split x) := by
  have h1 := fin_exp h
  have e1 : x % 9223372036854775808 / 2 ^ 52 = x / 4503599627370496 % 2048 := by omega
  have e2 : x % 9223372036854775808 % 2 ^ 52 = x % 4503599627370496 := by omega
  unfold XX numM numE split ptA
  rw [show 53 - 1 = 52 from rfl, e1, e2, if_neg h1]
  by_cases h2 : x / 4503599627370496 % 2048 = 0
  · rw [if_pos h2, if_pos h2, if_neg (by omega)]
    split
    · rfl
    · rename_i h3
      have : x % 4503599627370496 = 0 := by omega
      rw [this]
  · rw [if_neg h2, if_neg h2, if_pos (by omega)]
    rw [Nat.add_comm]
theorem split_neg {x : Nat} (h : finB x) (hx : x < 18446744073709551616) : (split x).neg = decide (x / 9223372036854775808 = 1) := by
  have h1 := fin_exp h
  have e : decide (9223372036854775808 ≤ x) = decide (x / 9223372036854775808 = 1) := decide_eq_decide.2 (by omega)
  unfold split
  rw [if_neg h1]
  split
  · exact e
  split <;> exact e
theorem split_f {x : Nat} (h : finB x) : (split x).f < 2 ^ 53 ∧ -1074 ≤ (split x).e ∧ (split x).e ≤ 971 := by
  have h1 := fin_exp h
  unfold finB at h
  unfold split
  rw [if_neg h1]
  split
  · simp only; omega
  split
  · simp only; omega
  · simp
/-- The three slices, and no more. -/
theorem slices3 {x : Nat} (h : finB x) : -34 ≤ ptBin (split x) ∧ ptBin (split x) ≤ 40 ∧ sliceN x (ptBin (split x) + 2) = ptHigh (split x) % 4294967296 ∧ sliceN x (ptBin (split x) + 1) = ptLow (split x) / 4294967296 % 4294967296 ∧
    sliceN x (ptBin (split x)) = ptLow (split x) % 4294967296 ∧ ∀ j, j ≠ ptBin (split x) → j ≠ ptBin (split x) + 1 → j ≠ ptBin (split x) + 2 → sliceN x j = 0 := by
  obtain ⟨hf, he, he2⟩ := split_f h
  have hX := split_XX h
  generalize split x = p at *
  obtain ⟨A, hA⟩ : ∃ A, A = ptA p := ⟨_, rfl⟩
  have hAe : (A : Int) = p.e + 1088 := by rw [hA]; unfold ptA; omega
  have hr : A % 32 < 32 := Nat.mod_lt _ (by decide)
  obtain ⟨Y, hY⟩ : ∃ Y, Y = p.f * 2 ^ (A % 32) := ⟨_, rfl⟩
  have hYlt : Y < 2 ^ 84 := by
    rw [hY, show (84 : Nat) = 53 + 31 by rfl, Nat.pow_add]
    refine Nat.lt_of_lt_of_le (Nat.mul_lt_mul_of_pos_right hf (Nat.two_pow_pos _)) (Nat.mul_le_mul_left _ (Nat.pow_le_pow_right (by decide) (by omega)))
  have hXY : XX x = Y * 2 ^ (32 * (A / 32)) := by
    rw [hX, ← hA, hY, Nat.mul_assoc, ← Nat.pow_add]; congr 2; omega
  have hbin : ptBin p = ((A / 32 : Nat) : Int) - 34 := by rw [hA]; rfl
  have hlow : ptLow p = Y % 18446744073709551616 := by rw [hY, hA]; rfl
  have hhigh : ptHigh p = Y / 18446744073709551616 := by
    rw [hY]; unfold ptHigh; rw [← hA]
    have e : 18446744073709551616 = 2 ^ (A % 32) * 2 ^ (64 - A % 32) := by
      rw [← Nat.pow_add, show A % 32 + (64 - A % 32) = 64 by omega]
    rw [e, Nat.mul_comm p.f, Nat.mul_div_mul_left _ _ (Nat.two_pow_pos _)]
  have hsl : ∀ i : Nat, sliceN x (ptBin p + i) = Y / 2 ^ (32 * i) % 4294967296 := by
    intro i
    rw [sliceN_hi (by omega), hXY]
    have e : (32 * (ptBin p + (i : Int) + 34)).toNat = 32 * (A / 32) + 32 * i := by omega
    rw [e, Nat.pow_add, Nat.mul_comm Y, Nat.mul_div_mul_left _ _ (Nat.two_pow_pos _)]
  refine ⟨by omega, by omega, ?_, ?_, ?_, ?_⟩
  · have := hsl 2
    rw [show ptBin p + ((2 : Nat) : Int) = ptBin p + 2 by rfl] at this
    rw [this, hhigh]
  · have := hsl 1
    rw [show ptBin p + ((1 : Nat) : Int) = ptBin p + 1 by rfl] at this
    rw [this, hlow]
    show Y / 4294967296 % 4294967296 = _
    omega
  · have := hsl 0
    rw [show ptBin p + ((0 : Nat) : Int) = ptBin p by omega] at this
    rw [this, hlow]
    show Y / 1 % 4294967296 = _
    omega
  · intro j h0 h1 h2
    rcases Int.lt_or_le j (ptBin p) with hj | hj
    · rcases Int.lt_or_le j (-34) with hk | hk
      · exact sliceN_lo hk
      · rw [sliceN_hi hk, hXY]
        have e : 32 * (A / 32) = (32 * (ptBin p - j - 1)).toNat + 32 + (32 * (j + 34)).toNat := by omega
        rw [e, Nat.pow_add, ← Nat.mul_assoc, Nat.mul_div_cancel _ (Nat.two_pow_pos _), Nat.pow_add, ← Nat.mul_assoc]
        exact Nat.mul_mod_left _ _
    · obtain ⟨i, hi⟩ : ∃ i : Nat, j = ptBin p + i := ⟨(j - ptBin p).toNat, by omega⟩
      rw [hi, hsl]
      have : Y / 2 ^ (32 * i) = 0 := by
        refine Nat.div_eq_of_lt (Nat.lt_of_lt_of_le hYlt (Nat.pow_le_pow_right (by decide) (by omega)))
      rw [this]
theorem top_slice {x : Nat} (hm : (fabs x).m ≠ 0) {h : Int} (hh : h = ((blen (fabs x).m : Int) - 1 + (fabs x).e) / 32) : -34 ≤ h ∧ sliceN x h ≠ 0 ∧ ∀ j, h < j → sliceN x j = 0 := by
  have he := (fabs_e (x := x)).resolve_right hm
  have hp := blen_pos hm
  have hb : blen (XX x) = blen (fabs x).m + ((fabs x).e + 1088).toNat := by rw [← fabs_XX]; exact blen_mul_pow hm _
  have h34 : -34 ≤ h := by omega
  refine ⟨h34, ?_, ?_⟩
  · rw [sliceN_hi h34]
    have h1 : 2 ^ (32 * (h + 34)).toNat ≤ XX x := lt_blen.1 (by omega)
    have h2 : XX x < 2 ^ (32 * (h + 34)).toNat * 4294967296 := by
      rw [show (4294967296 : Nat) = 2 ^ 32 by rfl, ← Nat.pow_add]; exact blen_le.1 (by omega)
    have h3 : 0 < XX x / 2 ^ (32 * (h + 34)).toNat := Nat.div_pos h1 (Nat.two_pow_pos _)
    have h4 : XX x / 2 ^ (32 * (h + 34)).toNat < 4294967296 := by rw [Nat.div_lt_iff_lt_mul (Nat.two_pow_pos _), Nat.mul_comm]; exact h2
    rw [Nat.mod_eq_of_lt h4]; omega
  · intro j hj
    rw [sliceN_hi (by omega), Nat.div_eq_of_lt (blen_le.1 (by omega))]
theorem zero_slice {x : Nat} (hm : (fabs x).m = 0) (j : Int) : sliceN x j = 0 := by
  unfold sliceN; rw [hm, shift_zero]
/-- The bins hold f, from the top t down; none, if t lies below all. -/
structure Rep (B : Bn) (f : Int → Int) (t : Int) : Prop where
  len : B.ks.length = 8
  fold : 1 ≤ B.fold ∧ B.fold ≤ 8
  any : B.any = decide (-34 ≤ t)
  top : -34 ≤ t → B.top = t
  top0 : ¬ -34 ≤ t → B.top = 0
  ks : -34 ≤ t → ∀ i, i < B.fold → B.ks.getD i 0 = f (t - i)
  ks0 : ¬ -34 ≤ t → ∀ i, B.ks.getD i 0 = 0
  hi : ∀ i, B.fold ≤ i → B.ks.getD i 0 = 0
  above : ∀ j, t < j → f j = 0
  none : ¬ -34 ≤ t → ∀ j, f j = 0
theorem getD_set_eq (l : List Int) (i : Nat) (v : Int) (h : i < l.length) (j : Nat) : (l.set i v).getD j 0 = if j = i then v else l.getD j 0 := by
  simp only [List.getD_eq_getElem?_getD, List.getElem?_set]
  by_cases e : i = j
  · subst e; simp [h]
  · rw [if_neg e, if_neg (fun h => e h.symm)]
theorem getD_out (l : List Int) (j : Nat) (h : l.length ≤ j) : l.getD j 0 = 0 := by
  rw [List.getD_eq_getElem?_getD, List.getElem?_eq_none h]; rfl
theorem getD_map8 (g : Nat → Int) (j : Nat) : ((List.range 8).map g).getD j 0 = if j < 8 then g j else 0 := by
  by_cases h : j < 8
  · rw [if_pos h, List.getD_eq_getElem?_getD, List.getElem?_map, List.getElem?_range h]; rfl
  · rw [if_neg h]; exact getD_out _ _ (by simp; omega)
theorem Rep.raise {B : Bn} {f : Int → Int} {t bin : Int} (h : Rep B f t) (hb : -34 ≤ bin) : (B.raise bin).top = max t bin ∧ (B.raise bin).any = true ∧ (B.raise bin).fold = B.fold ∧ (B.raise bin).ks.length = 8 ∧
    (∀ i, i < B.fold → (B.raise bin).ks.getD i 0 = f (max t bin - i)) ∧ (∀ i, B.fold ≤ i → (B.raise bin).ks.getD i 0 = 0) := by
  obtain ⟨fold, count, any, top, ks⟩ := B
  obtain ⟨hlen, hfold, hany, htop, htop0, hks, hks0, hhi, habove, hnone⟩ := h
  simp only at *
  by_cases h34 : -34 ≤ t
  · have e1 : any = true := by rw [hany]; exact decide_eq_true h34
    have e2 := htop h34
    subst e1 e2
    by_cases hlt : top < bin
    · rw [raise_up hlt]
      have em : max top bin = bin := by omega
      rw [em]
      refine ⟨rfl, rfl, rfl, by simp, ?_, ?_⟩
      · intro i hi
        simp only
        rw [getD_map8, if_pos (by omega)]
        unfold shiftK
        by_cases hc : bin - top ≤ (i : Int)
        · rw [if_pos ⟨hc, hi⟩, hks h34 _ (by omega)]; congr 1; omega
        · rw [if_neg (fun hx => hc hx.1), habove _ (by omega)]
      · intro i hi
        simp only
        rw [getD_map8]
        split
        · unfold shiftK; rw [if_neg (fun hx => by omega)]
        · rfl
    · rw [raise_same hlt]
      have em : max top bin = top := by omega
      rw [em]
      exact ⟨rfl, rfl, rfl, hlen, hks h34, hhi⟩
  · have e1 : any = false := by rw [hany]; exact decide_eq_false h34
    subst e1
    rw [raise_first]
    have em : max t bin = bin := by omega
    rw [em]
    exact ⟨rfl, rfl, rfl, hlen, fun i _ => by rw [hnone h34]; exact hks0 h34 i, hhi⟩
theorem Rep.put {B : Bn} {f : Int → Int} {t bin : Int} {neg : Bool} {s : Nat} (h : Rep B f t) (hb : -34 ≤ bin) (hs : s ≠ 0) :
    Rep (B.put neg bin s) (fun j => f j + if j = bin then sgn neg s else 0) (max t bin) ∧ (B.put neg bin s).fold = B.fold ∧ (B.put neg bin s).count = B.count := by
  obtain ⟨h1, h2, h3, h4, h5, h6⟩ := h.raise hb
  have hc := @raise_count B bin
  have hfold := h.fold
  have hO : (if neg then -(s : Int) else (s : Int)) = sgn neg s := rfl
  have h34 : -34 ≤ max t bin := by omega
  by_cases hin : (B.raise bin).top - bin < (B.raise bin).fold
  · rw [put_T hs hin hO]
    have hat : ((B.raise bin).top - bin).toNat < B.fold := by omega
    refine ⟨⟨by simp [h4], by simp only; omega, by simp only; rw [h2, decide_eq_true h34], fun _ => h1, fun hx => absurd h34 hx, fun _ i hi => ?_, fun hx => absurd h34 hx, fun i hi => ?_, fun j hj => ?_, fun hx => absurd h34 hx⟩, h3, hc⟩
    · simp only at hi ⊢
      rw [h3] at hi
      rw [getD_set_eq _ _ _ (by omega)]
      by_cases e : i = ((B.raise bin).top - bin).toNat
      · rw [if_pos e, ← e, h5 i hi, if_pos (by omega)]
      · rw [if_neg e, h5 i hi, if_neg (by omega), Int.add_zero]
    · simp only at hi ⊢
      rw [h3] at hi
      rw [getD_set_eq _ _ _ (by omega), if_neg (by omega), h6 i hi]
    · rw [h.above j (by omega), if_neg (by omega)]; rfl
  · rw [put_F hs hin]
    refine ⟨⟨h4, by omega, by rw [h2, decide_eq_true h34], fun _ => h1, fun hx => absurd h34 hx, fun _ i hi => ?_, fun hx => absurd h34 hx, fun i hi => ?_, fun j hj => ?_, fun hx => absurd h34 hx⟩, h3, hc⟩
    · rw [h3] at hi
      rw [h5 i hi, if_neg (by omega), Int.add_zero]
    · rw [h3] at hi
      exact h6 i hi
    · rw [h.above j (by omega), if_neg (by omega)]; rfl
theorem Rep.congr {B : Bn} {f g : Int → Int} {t t' : Int} (h : Rep B f t) (hf : ∀ j, f j = g j) (ht : t = t') : Rep B g t' := by
  obtain rfl : f = g := funext hf
  subst ht; exact h
/-- A slice, nought or not. -/
theorem Rep.put' {B : Bn} {f : Int → Int} {t bin : Int} {neg : Bool} {s : Nat} (h : Rep B f t) (hb : -34 ≤ bin) :
    Rep (B.put neg bin s) (fun j => f j + if j = bin then sgn neg s else 0) (if s = 0 then t else max t bin) ∧ (B.put neg bin s).fold = B.fold ∧ (B.put neg bin s).count = B.count := by
  by_cases hs : s = 0
  · rw [put_0 hs, if_pos hs]
    refine ⟨h.congr (fun j => ?_) rfl, rfl, rfl⟩
    rw [hs, sgn_zero]; split <;> omega
  · rw [if_neg hs]; exact h.put hb hs
/-- A finite number's three slices. -/
theorem Rep.addPt {B : Bn} {f : Int → Int} {t : Int} {x : Nat} (h : Rep B f t) (hfin : finB x) (hx : x < 18446744073709551616) (ht : -35 ≤ t) :
    Rep (B.addPt (split x)) (fun j => f j + sl x j) (topS t x) ∧ (B.addPt (split x)).fold = B.fold ∧ (B.addPt (split x)).count = B.count := by
  obtain ⟨b1, _, s2, s1, s0, sz⟩ := slices3 hfin
  have hneg := split_neg hfin hx
  unfold Bn.addPt
  rw [← s2, ← s1, ← s0, hneg]
  obtain ⟨bin, hbin⟩ : ∃ bin, bin = ptBin (split x) := ⟨_, rfl⟩
  rw [← hbin] at b1 sz ⊢
  obtain ⟨r1, f1, c1⟩ := h.put' (neg := decide (x / 9223372036854775808 = 1)) (bin := bin + 2) (s := sliceN x (bin + 2)) (by omega)
  obtain ⟨r2, f2, c2⟩ := r1.put' (neg := decide (x / 9223372036854775808 = 1)) (bin := bin + 1) (s := sliceN x (bin + 1)) (by omega)
  obtain ⟨r3, f3, c3⟩ := r2.put' (neg := decide (x / 9223372036854775808 = 1)) (bin := bin) (s := sliceN x bin) (by omega)
  refine ⟨r3.congr (fun j => ?_) ?_, by rw [f3, f2, f1], by rw [c3, c2, c1]⟩
  · unfold sl
    by_cases e2 : j = bin + 2
    · rw [if_pos e2, if_neg (by omega), if_neg (by omega), e2]; omega
    by_cases e1 : j = bin + 1
    · rw [if_neg e2, if_pos e1, if_neg (by omega), e1]; omega
    by_cases e0 : j = bin
    · rw [if_neg e2, if_neg e1, if_pos e0, e0]; omega
    · rw [if_neg e2, if_neg e1, if_neg e0, sz j e0 e1 e2, sgn_zero]; omega
  · unfold topS
    by_cases hm : (fabs x).m = 0
    · rw [if_pos hm, zero_slice hm, zero_slice hm, zero_slice hm]; simp
    · rw [if_neg hm]
      obtain ⟨h34, hne, hab⟩ := top_slice hm rfl
      obtain ⟨hh, hhh⟩ : ∃ hh, hh = ((blen (fabs x).m : Int) - 1 + (fabs x).e) / 32 := ⟨_, rfl⟩
      rw [← hhh] at h34 hne hab ⊢
      have hin : hh = bin ∨ hh = bin + 1 ∨ hh = bin + 2 := by
        by_cases e0 : hh = bin
        · exact .inl e0
        by_cases e1 : hh = bin + 1
        · exact .inr (.inl e1)
        by_cases e2 : hh = bin + 2
        · exact .inr (.inr e2)
        · exact absurd (sz hh e0 e1 e2) hne
      rcases hin with e | e | e
      · rw [hab (bin + 2) (by omega), hab (bin + 1) (by omega)]
        rw [e] at hne ⊢
        simp only [if_true]
        rw [if_neg hne]
      · rw [hab (bin + 2) (by omega)]
        rw [e] at hne ⊢
        simp only [if_true]
        rw [if_neg hne]
        split <;> omega
      · rw [e] at hne ⊢
        rw [if_neg hne]
        split <;> split <;> omega
theorem mergeK_val {ks os : List Int} {a : Nat} : ∀ {i : Nat} (_ : a + i ≤ ks.length) (j : Nat), (mergeK ks a os i).getD j 0 = ks.getD j 0 + if a ≤ j ∧ j < a + i then os.getD (j - a) 0 else 0
  | 0, _, j => by rw [mergeK, if_neg (by omega)]; omega
  | i + 1, h, j => by
    have ih := mergeK_val (ks := ks) (os := os) (a := a) (i := i) (by omega)
    rw [mergeK, getD_set_eq _ _ _ (by rw [mergeK_len]; omega)]
    by_cases e : j = a + i
    · rw [if_pos e, ih, if_neg (by omega), e, if_pos (by omega)]
      rw [show a + i - a = i by omega]; omega
    · rw [if_neg e, ih]
      by_cases hc : a ≤ j ∧ j < a + i
      · rw [if_pos hc, if_pos (by omega)]
      · rw [if_neg hc, if_neg (by omega)]
theorem Rep.merge {B O : Bn} {f g : Int → Int} {t u : Int} (h : Rep B f t) (hO : Rep O g u) (hf : B.fold = O.fold) (ht : -35 ≤ t) (hu : -35 ≤ u) :
    Rep (B.mergeF O) (fun j => f j + g j) (max t u) ∧ (B.mergeF O).fold = B.fold ∧ (B.mergeF O).count = B.count + O.count := by
  unfold Bn.mergeF
  by_cases ha : -34 ≤ u
  · have ea : O.any = true := by rw [hO.any]; exact decide_eq_true ha
    have et := hO.top ha
    have h' : Rep { B with count := B.count + O.count } f t := ⟨h.len, h.fold, h.any, h.top, h.top0, h.ks, h.ks0, h.hi, h.above, h.none⟩
    obtain ⟨h1, h2, h3, h4, h5, h6⟩ := h'.raise (bin := O.top) (by omega)
    have hc := @raise_count { B with count := B.count + O.count } O.top
    have h34 : -34 ≤ max t u := by omega
    rw [if_pos ea]
    simp only at h3 hc h5 h6 ⊢
    generalize Bn.raise { fold := B.fold, count := B.count + O.count, any := B.any, top := B.top, ks := B.ks } O.top = B2 at *
    have hfold := h.fold
    obtain ⟨a, hat⟩ : ∃ a, a = (B2.top - O.top).toNat := ⟨_, rfl⟩
    have hatI : (a : Int) = max t u - u := by rw [hat, h1, et]; omega
    have hle : a + (B.fold - a) ≤ B2.ks.length ∨ B.fold < a := by omega
    have hval : ∀ j, (mergeK B2.ks a O.ks (B.fold - a)).getD j 0 = B2.ks.getD j 0 + if a ≤ j ∧ j < B.fold then O.ks.getD (j - a) 0 else 0 := by
      intro j
      rcases hle with hle | hle
      · rw [mergeK_val hle]
        by_cases hcc : a ≤ j ∧ j < B.fold
        · rw [if_pos hcc, if_pos (by omega)]
        · rw [if_neg hcc, if_neg (by omega)]
      · rw [show B.fold - a = 0 by omega, mergeK, if_neg (by omega)]; omega
    rw [← hat]
    refine ⟨⟨by rw [mergeK_len]; exact h4, by simp only; omega, by simp only; rw [h2, decide_eq_true h34], fun _ => by simp only; rw [h1, et], fun hx => absurd h34 hx, fun _ i hi => ?_, fun hx => absurd h34 hx, fun i hi => ?_, fun j hj => ?_, fun hx => absurd h34 hx⟩, h3, hc⟩
    · simp only at hi ⊢
      rw [h3] at hi
      rw [hval, h5 i hi, et]
      congr 1
      by_cases hcc : a ≤ i
      · rw [if_pos ⟨hcc, hi⟩, hO.ks ha _ (by omega)]; congr 1; omega
      · rw [if_neg (fun hx => hcc hx.1), hO.above _ (by omega)]
    · simp only at hi ⊢
      rw [h3] at hi
      rw [hval, h6 i hi, if_neg (by omega)]; rfl
    · rw [h.above j (by omega), hO.above j (by omega)]; rfl
  · have ea : ¬ O.any = true := by rw [hO.any, decide_eq_false ha]; decide
    rw [if_neg ea]
    have hz := hO.none ha
    have h' : Rep { B with count := B.count + O.count } f t := ⟨h.len, h.fold, h.any, h.top, h.top0, h.ks, h.ks0, h.hi, h.above, h.none⟩
    refine ⟨h'.congr (fun j => by rw [hz j]; omega) (by omega), rfl, rfl⟩
/-! The reference's sums. -/
theorem topS_max {t s : Int} {x : Nat} : topS (max t s) x = max t (topS s x) := by
  unfold topS; split
  · rfl
  · omega
theorem topF_max : ∀ (l : List (Nat × Nat)) (t s : Int), topF (max t s) l = max t (topF s l)
  | [], _, _ => rfl
  | p :: l, t, s => by
    unfold topF
    simp only [List.foldl_cons]
    rw [topS_max]
    exact topF_max l t (topS s p.1)
theorem topF_ge : ∀ (l : List (Nat × Nat)) (t : Int), t ≤ topF t l
  | [], _ => Int.le_refl _
  | p :: l, t => by
    have h1 := topF_ge l (topS t p.1)
    have h2 : t ≤ topS t p.1 := by unfold topS; split <;> omega
    unfold topF at *
    simp only [List.foldl_cons]
    omega
theorem topF_eq (l : List (Nat × Nat)) {t : Int} (ht : -35 ≤ t) : topF t l = max t (topL l) := by
  have := topF_max l t (-35)
  rw [show max t (-35) = t by omega] at this
  exact this
theorem topS_eq {t : Int} {x : Nat} (ht : -35 ≤ t) : topS t x = max t (topS (-35) x) := by
  have := topS_max (t := t) (s := -35) (x := x)
  rwa [show max t (-35) = t by omega] at this
theorem topL_ge (l : List (Nat × Nat)) : -35 ≤ topL l := topF_ge l _
theorem topL_cons (p : Nat × Nat) (l : List (Nat × Nat)) : topL (p :: l) = max (topS (-35) p.1) (topL l) := by
  have : topL (p :: l) = topF (topS (-35) p.1) l := rfl
  rw [this, topF_eq]
  unfold topS; split <;> omega
theorem topL_append (l m : List (Nat × Nat)) : topL (l ++ m) = max (topL l) (topL m) := by
  have : topL (l ++ m) = topF (topL l) m := by unfold topL topF; rw [List.foldl_append]
  rw [this, topF_eq _ (topL_ge l)]
theorem RS_more (j : Int) (o : Nat × Nat) : ∀ l : List (Nat × Nat), RS j (moreL o l) = RS j l + sl o.1 j * (o.2 : Int)
  | [] => by simp [moreL, RS]
  | p :: l => by
    rw [moreL]; split
    · rename_i h
      simp only [RS, h]
      rw [show ((p.2 + o.2 : Nat) : Int) = (p.2 : Int) + (o.2 : Int) by omega, Int.mul_add]; omega
    · simp only [RS, RS_more j o l]; omega
theorem topL_more (o : Nat × Nat) : ∀ l : List (Nat × Nat), topL (moreL o l) = max (topL l) (topS (-35) o.1)
  | [] => by
    rw [moreL, topL_cons]
    have : topL [] = -35 := rfl
    rw [this]; omega
  | p :: l => by
    rw [moreL]; split
    · rename_i h
      rw [topL_cons, topL_cons, h]; omega
    · rw [topL_cons, topL_cons, topL_more o l]; omega
theorem RS_foldl (j : Int) : ∀ (l : List (Nat × Nat)) (R : Rf), RS j (l.foldl Rf.more R).l = RS j R.l + RS j l
  | [], _ => by simp [RS]
  | p :: l, R => by
    rw [List.foldl_cons, RS_foldl j l (R.more p)]
    show RS j (moreL p R.l) + RS j l = _
    rw [RS_more]; simp only [RS]; omega
theorem topL_foldl : ∀ (l : List (Nat × Nat)) (R : Rf), topL (l.foldl Rf.more R).l = max (topL R.l) (topL l)
  | [], R => by
    have h1 : topL [] = -35 := rfl
    have h2 := topL_ge R.l
    rw [List.foldl_nil, h1]; omega
  | p :: l, R => by
    rw [List.foldl_cons, topL_foldl l (R.more p)]
    have : topL (R.more p).l = max (topL R.l) (topS (-35) p.1) := topL_more p R.l
    rw [this, topL_cons]; omega
/-- The bins and the reference's have the same. -/
structure Match (B : Bn) (R : Rf) : Prop where
  ok : R.Ok
  fold : B.fold = R.fold
  count : B.count = R.n
  rep : Rep B (fun j => RS j R.l) (topL R.l)
theorem Match.new {n : Nat} (h : 1 ≤ n ∧ n ≤ 8) : Match ⟨n, 0, false, 0, List.replicate 8 0⟩ ⟨n, [], 0⟩ := by
  refine ⟨⟨h, (fun p hp => by cases hp), rfl, Nat.zero_le _⟩, rfl, rfl, ?_⟩
  have ht : topL [] = -35 := rfl
  refine ⟨by simp, h, by simp only; rw [ht]; rfl, fun hx => by rw [ht] at hx; omega, fun _ => rfl, fun hx => by rw [ht] at hx; omega, fun _ i => ?_, fun i _ => ?_, fun _ _ => rfl, fun _ _ => rfl⟩
  all_goals
    simp only [List.getD_eq_getElem?_getD, List.getElem?_replicate]
    split <;> rfl
theorem Match.add {B : Bn} {R : Rf} {x : Nat} (h : Match B R) (hx : x < 18446744073709551616) : B.addE x = R.addE x ∧ Match (B.addF x) (R.addF x) := by
  have hc := h.count
  have hok := h.ok.addF hx
  unfold Bn.addE Rf.addE
  unfold Bn.addF
  unfold Rf.addF at hok ⊢
  by_cases h1 : 1099511627776 ≤ R.n
  · have hb1 : 1099511627776 ≤ B.count := by omega
    simp only [if_pos hb1, if_pos h1]
    exact ⟨trivial, h⟩
  · have hb1 : ¬ 1099511627776 ≤ B.count := by omega
    rw [if_neg h1] at hok
    simp only [if_neg hb1, if_neg h1]
    by_cases h2 : finB x
    · rw [if_pos h2] at hok
      have h3 : ¬ ((split x).cls = 3 ∨ (split x).cls = 4) := fun hx => split_cls.1 hx h2
      rw [if_neg h3, if_pos h2, if_neg h3, if_pos h2]
      have h' : Rep { B with count := B.count + 1 } (fun j => RS j R.l) (topL R.l) := ⟨h.rep.len, h.rep.fold, h.rep.any, h.rep.top, h.rep.top0, h.rep.ks, h.rep.ks0, h.rep.hi, h.rep.above, h.rep.none⟩
      obtain ⟨r1, f1, c1⟩ := h'.addPt h2 hx (topL_ge _)
      refine ⟨rfl, hok, by rw [f1]; exact h.fold, by rw [c1]; show B.count + 1 = R.n + 1; omega, r1.congr (fun j => ?_) ?_⟩
      · show RS j R.l + sl x j = RS j (R.l ++ [(x, 1)])
        rw [RS_append]; simp [RS]
      · show topS (topL R.l) x = topL (R.l ++ [(x, 1)])
        rw [topL_append, topS_eq (topL_ge _), topL_cons]
        have : topL [] = -35 := rfl
        have h4 : -35 ≤ topS (-35) x := by unfold topS; split <;> omega
        rw [this]; simp only; omega
    · have h3 : (split x).cls = 3 ∨ (split x).cls = 4 := split_cls.2 h2
      rw [if_pos h3, if_neg h2, if_pos h3, if_neg h2]
      exact ⟨rfl, h⟩
theorem Match.merge {B O : Bn} {R S : Rf} (h : Match B R) (hO : Match O S) (hf : R.fold = S.fold) (hn : R.n + S.n ≤ 1099511627776) : Match (B.mergeF O) (R.merge S) := by
  obtain ⟨r1, f1, c1⟩ := h.rep.merge hO.rep (by rw [h.fold, hO.fold, hf]) (topL_ge _) (topL_ge _)
  refine ⟨h.ok.merge hO.ok hn, ?_, ?_, r1.congr (fun j => ?_) ?_⟩
  · rw [f1, h.fold]; exact (foldl_more_fold _ _).symm
  · rw [c1, h.count, hO.count]
    have := foldl_more_n S.l R
    rw [hO.ok.sum] at this
    exact this.symm
  · exact (RS_foldl j S.l R).symm
  · exact (topL_foldl S.l R).symm
/-- Bounds that the walks want. -/
theorem Match.Ok {B : Bn} {R : Rf} (h : Match B R) : B.Ok 4722366482869645213696 100 := by
  have hs : sumT R.l ≤ 1099511627776 := by have := h.ok.sum; have := h.ok.n; omega
  have ht := topL_ge R.l
  have ht2 : topL R.l ≤ 31 := by have := topN_le h.ok.ok R.l.length; rw [topN_all] at this; omega
  refine ⟨h.rep.len, h.rep.fold.2, ?_, ?_⟩
  · intro K hK
    obtain ⟨i, hi, rfl⟩ := List.mem_iff_getElem.1 hK
    have e : B.ks[i] = B.ks.getD i 0 := by rw [List.getD_eq_getElem?_getD, List.getElem?_eq_getElem hi]; rfl
    rw [e]
    by_cases h34 : -34 ≤ topL R.l
    · rcases Nat.lt_or_ge i B.fold with hl | hl
      · rw [h.rep.ks h34 i hl]
        have := RS_le (topL R.l - i) R.l
        omega
      · rw [h.rep.hi i hl]; omega
    · rw [h.rep.ks0 h34]; omega
  · by_cases h34 : -34 ≤ topL R.l
    · rw [h.rep.top h34]; omega
    · rw [h.rep.top0 h34]; omega
theorem partD_dv {B : Bn} {i : Nat} (h : -43 ≤ B.top - i) : dv 1400 (B.partD i) = B.ks.getD i 0 * (pw (B.top - i) : Int) ∧ (B.partD i).Ge 1400 := by
  have h1 := dv_fm (E := 1400) (s := decide (B.ks.getD i 0 < 0)) (m := (B.ks.getD i 0).natAbs) (e := 32 * (B.top - i)) (by omega)
  refine ⟨?_, h1.2⟩
  rw [Bn.partD, h1.1, sgn_mul]
  have : sgn (decide (B.ks.getD i 0 < 0)) (B.ks.getD i 0).natAbs = B.ks.getD i 0 := by
    unfold sgn; split
    · rename_i hx; have := of_decide_eq_true hx; omega
    · rename_i hx; have : ¬ B.ks.getD i 0 < 0 := fun hy => hx (decide_eq_true hy); omega
  rw [this]; rfl
theorem Match.kept_dv {B : Bn} {R : Rf} (h : Match B R) : ∀ i, i ≤ B.fold → dv 1400 (B.keptN i) = (if -34 ≤ topL R.l then rsumN R.l (topL R.l) i else 0) ∧ (B.keptN i).Ge 1400
  | 0, _ => by
    refine ⟨?_, by unfold Dy.Ge Bn.keptN; decide⟩
    rw [Bn.keptN, dv_zero]; split <;> rfl
  | i + 1, hi => by
    obtain ⟨h1, h2⟩ := Match.kept_dv h i (by omega)
    have hfold := h.rep.fold
    have htop : -34 ≤ B.top := by
      by_cases h34 : -34 ≤ topL R.l
      · rw [h.rep.top h34]; exact h34
      · rw [h.rep.top0 h34]; decide
    obtain ⟨h3, h4⟩ := partD_dv (B := B) (i := i) (by omega)
    obtain ⟨h5, h6⟩ := dv_add h2 h4
    refine ⟨?_, h6⟩
    rw [Bn.keptN, h5, h1, h3]
    by_cases h34 : -34 ≤ topL R.l
    · rw [if_pos h34, if_pos h34, rsumN, h.rep.ks h34 i (by omega), h.rep.top h34]
    · rw [if_neg h34, if_neg h34, h.rep.ks0 h34]; simp
/-- The same is kept. -/
theorem Match.kept {B : Bn} {R : Rf} (h : Match B R) {D : Dy} (hD : Worth D R.sumV) : B.kept = D := by
  obtain ⟨h1, h2⟩ := h.kept_dv B.fold (Nat.le_refl _)
  refine dv_inj (B.keptN_can _) hD.can h2 hD.ge ?_
  rw [hD.val, Bn.kept, h1, h.fold]; rfl
theorem Match.bound {B : Bn} {R : Rf} (h : Match B R) : (if B.any = true then round64 2 (Dy.fm false B.count (32 * (B.top - B.fold + 1))) else 0) = (if -34 ≤ topL R.l then round64 2 (Dy.fm false R.n (32 * (topL R.l - R.fold + 1))) else 0) := by
  rw [h.rep.any]
  by_cases h34 : -34 ≤ topL R.l
  · rw [if_pos (decide_eq_true h34), if_pos h34, h.count, h.fold, h.rep.top h34]
  · rw [if_neg (by rw [decide_eq_false h34]; decide), if_neg h34]
end Go.Sw
