/- A part of the proof that BinsAlike answers true: steps of the walk, or plain laws that it needs. No conditions of its own. -/
import Derived.Test.YtdaphmoojpbddaaDoorSB6
set_option linter.all false
/-! Slices of numbers, sums of slices. -/
namespace Go.Sw
set_option autoImplicit false
set_option exponentiation.threshold 4000
set_option linter.all false
open Go.RowKit
/-- A number's size as a dyad. -/
def fabs (x : Nat) : Dy := Dy.fm false (numM 53 (x % 9223372036854775808)) (numE 53 (-1074) (x % 9223372036854775808))
theorem half_bits (x : Nat) : x * 2 % 18446744073709551616 / 2 = x % 9223372036854775808 := by omega
theorem numE_fin {k : Nat} (h : k < 9218868437227405312) : numE 53 (-1074) k ≤ 100000 := by
  unfold numE; split <;> omega
theorem numE_fin2 {k : Nat} (h : k < 9218868437227405312) : numE 53 (-1074) k ≤ 971 := by
  unfold numE; split <;> omega
theorem fabs_can (x : Nat) : (fabs x).Can := Dy.fm_can ..
theorem fabs_In {x : Nat} (h : finB x) : (fabs x).In (-1074) 1024 := by
  have h1 := numE_fin2 h
  have h2 := @numE_low 53 (-1074) (x % 9223372036854775808)
  have h3 : blen (numM 53 (x % 9223372036854775808)) ≤ 53 := blen_le.2 (numM_lt (by decide))
  exact .fm h2 (by omega)
theorem fabs_in {x : Nat} (h : finB x) : blen (fabs x).m ≤ 3000 ∧ -1074 ≤ (fabs x).e ∧ (fabs x).e ≤ 1024 := by
  have h1 := fabs_In h
  rcases h1 with h1 | h1
  · rcases Dy.can_iff.1 (fabs_can x) with e | e
    · rw [e]; simp [blen_zero]
    · rw [h1] at e; simp at e
  · omega
def sliceN (x : Nat) (j : Int) : Nat := shiftN (fabs x).m ((fabs x).e - 32 * j) % 4294967296
theorem dig_head (n : Nat) : (dig n).getD 0 0 = n % 4294967296 := by
  by_cases h : n = 0
  · subst h; rw [dig_zero]; rfl
  · rw [dig_pos h]; rfl
/-- The highest bin of a number, over what came before. -/
def topS (t : Int) (x : Nat) : Int := if (fabs x).m = 0 then t else max t (((blen (fabs x).m : Int) - 1 + (fabs x).e) / 32)
def topF (t : Int) (l : List (Nat × Nat)) : Int := l.foldl (fun t p => topS t p.1) t
def topL (l : List (Nat × Nat)) : Int := topF (-35) l
def topN (l : List (Nat × Nat)) (i : Nat) : Int := topF (-35) (l.take i)
theorem topN_succ {l : List (Nat × Nat)} {i : Nat} (h : i < l.length) : topN l (i + 1) = topS (topN l i) (l.getD i (0, 0)).1 := by
  unfold topN topF
  rw [List.take_succ_eq_append_getElem h, List.foldl_append, List.getD_eq_getElem?_getD, List.getElem?_eq_getElem h]; rfl
theorem topN_all {l : List (Nat × Nat)} : topN l l.length = topL l := by unfold topN topL; rw [List.take_length]
theorem topS_le {t : Int} {x : Nat} (h : finB x) (ht : -35 ≤ t ∧ t ≤ 31) : -35 ≤ topS t x ∧ topS t x ≤ 31 := by
  unfold topS
  split
  · exact ht
  · rename_i hm
    have := (fabs_In h).resolve_left hm
    omega
theorem topF_le : ∀ (l : List (Nat × Nat)) (t : Int), okL l → (-35 ≤ t ∧ t ≤ 31) → -35 ≤ topF t l ∧ topF t l ≤ 31
  | [], _, _, h => h
  | p :: l, t, hl, h => topF_le l (topS t p.1) (fun q hq => hl q (List.mem_cons_of_mem _ hq)) (topS_le (hl p (List.mem_cons_self ..)).2.1 h)
theorem topN_le {l : List (Nat × Nat)} (h : okL l) (i : Nat) : -35 ≤ topN l i ∧ topN l i ≤ 31 := topF_le _ _ (h.take i) (by omega)
/-- A slice with its sign; what a bin has of all. -/
def sl (x : Nat) (j : Int) : Int := sgn (decide (x / 9223372036854775808 = 1)) (sliceN x j)
def RS (j : Int) : List (Nat × Nat) → Int
  | [] => 0
  | p :: l => sl p.1 j * (p.2 : Int) + RS j l
theorem RS_append (j : Int) : ∀ (l m : List (Nat × Nat)), RS j (l ++ m) = RS j l + RS j m
  | [], _ => by simp [RS]
  | _ :: l, m => by simp [RS, RS_append j l m]; omega
theorem RS_take_succ {j : Int} {l : List (Nat × Nat)} {i : Nat} (h : i < l.length) : RS j (l.take (i + 1)) = RS j (l.take i) + sl (l.getD i (0, 0)).1 j * ((l.getD i (0, 0)).2 : Int) := by
  rw [List.take_succ_eq_append_getElem h, RS_append, List.getD_eq_getElem?_getD, List.getElem?_eq_getElem h]; simp [RS]
theorem sliceN_lt (x : Nat) (j : Int) : sliceN x j < 4294967296 := Nat.mod_lt _ (by decide)
theorem sl_le (x : Nat) (j : Int) : (sl x j).natAbs < 4294967296 := by
  unfold sl; rw [sgn_natAbs]; exact sliceN_lt x j
theorem RS_le (j : Int) : ∀ l : List (Nat × Nat), (RS j l).natAbs ≤ 4294967296 * sumT l
  | [] => by simp [RS]
  | p :: l => by
    have h1 := RS_le j l
    have h2 := sl_le p.1 j
    have h3 : (sl p.1 j * (p.2 : Int)).natAbs ≤ 4294967296 * p.2 := by
      rw [Int.natAbs_mul, Int.natAbs_natCast]; exact Nat.mul_le_mul_right _ (Nat.le_of_lt h2)
    simp only [RS, sumT, Nat.mul_add]
    have := Int.natAbs_add_le (sl p.1 j * (p.2 : Int)) (RS j l)
    omega
def pw (j : Int) : Nat := 2 ^ (32 * j + 1400).toNat
/-- The sum of the bins from the top down. -/
def rsumN (l : List (Nat × Nat)) (top : Int) : Nat → Int
  | 0 => 0
  | q + 1 => rsumN l top q + RS (top - q) l * (pw (top - q) : Int)
theorem pw_le {j : Int} (h : j ≤ 31) : pw j ≤ 2 ^ 2392 := Nat.pow_le_pow_right (by decide) (by omega)
theorem RSp_le {l m : List (Nat × Nat)} {j : Int} (hj : j ≤ 31) (hs : sumT m ≤ 1099511627776) : (RS j m * (pw j : Int)).natAbs ≤ 2 ^ 2464 := by
  rw [Int.natAbs_mul, Int.natAbs_natCast]
  have h1 := RS_le j m
  have h2 : (RS j m).natAbs ≤ 2 ^ 72 := by omega
  calc (RS j m).natAbs * pw j ≤ 2 ^ 72 * 2 ^ 2392 := Nat.mul_le_mul h2 (pw_le hj)
    _ = 2 ^ 2464 := by rw [← Nat.pow_add]
theorem rsumN_le {l : List (Nat × Nat)} {top : Int} (ht : top ≤ 31) (hs : sumT l ≤ 1099511627776) : ∀ q, (rsumN l top q).natAbs ≤ q * 2 ^ 2464
  | 0 => by simp [rsumN]
  | q + 1 => by
    have h1 := rsumN_le ht hs q
    have h2 := RSp_le (l := l) (m := l) (j := top - q) (by omega) hs
    have h3 := Int.natAbs_add_le (rsumN l top q) (RS (top - q) l * (pw (top - q) : Int))
    rw [rsumN, Nat.add_mul]
    generalize 2 ^ 2464 = z at *
    omega
theorem part_le {l : List (Nat × Nat)} {top : Int} (ht : top ≤ 31) (hs : sumT l ≤ 1099511627776) {q : Nat} (hq : q ≤ 8) (i : Nat) :
    (rsumN l top q + RS (top - q) (l.take i) * (pw (top - q) : Int)).natAbs < 2 ^ 2468 := by
  have h1 := rsumN_le ht hs q
  have h2 := RSp_le (l := l) (m := l.take i) (j := top - q) (by omega) (Nat.le_trans (sumT_take l i) hs)
  have h3 := Int.natAbs_add_le (rsumN l top q) (RS (top - q) (l.take i) * (pw (top - q) : Int))
  have h4 : q * 2 ^ 2464 ≤ 8 * 2 ^ 2464 := Nat.mul_le_mul_right _ hq
  have h5 : (2 : Nat) ^ 2468 = 16 * 2 ^ 2464 := by rw [show (16 : Nat) = 2 ^ 4 by rfl, ← Nat.pow_add]
  have h6 : 0 < 2 ^ 2464 := Nat.two_pow_pos _
  generalize 2 ^ 2464 = z at *
  generalize q * z = y at *
  omega
theorem Dy.B_of_dv {D : Dy} {E H K : Nat} (hc : D.Can) (hg : D.Ge E) (hb : (dv E D).natAbs < 2 ^ H) (hE : E ≤ K) (hH : H ≤ K) : D.B K := by
  unfold Dy.Ge at hg
  rcases Dy.can_iff.1 hc with e | e
  · rw [e]; unfold Dy.B; simp [blen_zero]
  · have hm : D.m ≠ 0 := by intro h; rw [h] at e; simp at e
    have h1 : (dv E D).natAbs = D.m * 2 ^ (D.e + E).toNat := by unfold dv; rw [sgn_natAbs]
    rw [h1] at hb
    have h2 := blen_le.2 hb
    rw [blen_mul_pow hm] at h2
    unfold Dy.B; omega
/-- One entry's share of a bin, as a dyad. -/
def termD (p : Nat × Nat) (j : Int) : Dy := Dy.fm (decide (p.1 / 9223372036854775808 = 1)) (sliceN p.1 j * p.2) (32 * j)
theorem termD_dv {p : Nat × Nat} {j : Int} (hj : -43 ≤ j) : dv 1400 (termD p j) = sl p.1 j * (p.2 : Int) * (pw j : Int) ∧ (termD p j).Ge 1400 := by
  have h := dv_fm (E := 1400) (s := decide (p.1 / 9223372036854775808 = 1)) (m := sliceN p.1 j * p.2) (e := 32 * j) (by omega)
  refine ⟨?_, h.2⟩
  rw [termD, h.1, sgn_mul, sgn_mul]; rfl
theorem termD_B {p : Nat × Nat} {j : Int} (hj : -43 ≤ j ∧ j ≤ 31) (hp : p.2 ≤ 1099511627776) : (termD p j).B 60000 := by
  have h1 := @blen_mul (sliceN p.1 j) p.2
  have h2 : blen (sliceN p.1 j) ≤ 32 := blen_le.2 (sliceN_lt _ _)
  have h3 : blen p.2 ≤ 41 := blen_le.2 (by omega)
  exact (Dy.In.fm (lo := -1400) (hi := 1200) (by omega) (by omega)).B (Dy.fm_can ..) (by omega) (by omega) (by omega)
theorem dv_zero {E : Nat} : dv E ⟨false, 0, 0⟩ = 0 := by simp [dv, sgn]
/-- What the reference's bins have, in steps of 2^-1400. -/
def Rf.sumV (R : Rf) : Int := if -34 ≤ topL R.l then rsumN R.l (topL R.l) R.fold else 0
/-- A dyad that is worth so much. -/
structure Worth (D : Dy) (V : Int) : Prop where
  can : D.Can
  ge : D.Ge 1400
  val : dv 1400 D = V
  b : D.B 60000
theorem rnd64_up {D : Dy} : rnd64 2 D = round64 2 D := if_neg (by decide)
end Go.Sw
