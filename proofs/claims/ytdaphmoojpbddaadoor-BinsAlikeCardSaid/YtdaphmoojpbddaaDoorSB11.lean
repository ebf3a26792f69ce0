/- A part of the proof that BinsAlike answers true: steps of the walk, or plain laws that it needs. No conditions of its own. -/
import Derived.Test.YtdaphmoojpbddaaDoorSB8
set_option linter.all false
/-! The same numbers in whatever order and shares: the same bins. Plain maths. -/
namespace Go.Sw
set_option autoImplicit false
set_option linter.all false
open Go.RowKit
/-- The numbers that count, each once. -/
def ent (l : List Nat) : List (Nat × Nat) := (l.filter (fun x => decide (finB x))).map (fun x => (x, 1))
theorem ent_append (l m : List Nat) : ent (l ++ m) = ent l ++ ent m := by simp [ent]
theorem ent_perm {l m : List Nat} (h : l.Perm m) : (ent l).Perm (ent m) := (h.filter _).map _
theorem ent_len (l : List Nat) : (ent l).length ≤ l.length := by
  simp only [ent, List.length_map]; exact List.length_filter_le _ _
theorem ent_fin {x : Nat} (h : finB x) : ent [x] = [(x, 1)] := by simp [ent, h]
theorem ent_inf {x : Nat} (h : ¬ finB x) : ent [x] = [] := by simp [ent, h]
theorem ent_cons (x : Nat) (l : List Nat) : ent (x :: l) = ent [x] ++ ent l := ent_append [x] l
theorem sumT_ent : ∀ l : List Nat, sumT (ent l) = (ent l).length
  | [] => rfl
  | x :: l => by
    rw [ent_cons, sumT_append, List.length_append, sumT_ent l]
    by_cases h : finB x
    · rw [ent_fin h]; rfl
    · rw [ent_inf h]; rfl
theorem RS_perm (j : Int) {l m : List (Nat × Nat)} (h : l.Perm m) : RS j l = RS j m := by
  induction h with
  | nil => rfl
  | cons x _ ih => simp only [RS, ih]
  | swap x y l => simp only [RS]; omega
  | trans _ _ h1 h2 => exact h1.trans h2
theorem topL_perm {l m : List (Nat × Nat)} (h : l.Perm m) : topL l = topL m := by
  induction h with
  | nil => rfl
  | cons x _ ih => rw [topL_cons, topL_cons, ih]
  | swap x y l => simp only [topL_cons]; omega
  | trans _ _ h1 h2 => exact h1.trans h2
def W64 (l : List Nat) : Prop := ∀ x ∈ l, x < 18446744073709551616
theorem ent_ok {l : List Nat} (h : W64 l) : okL (ent l) := by
  intro p hp
  obtain ⟨x, hx, rfl⟩ := List.mem_map.1 hp
  obtain ⟨h1, h2⟩ := List.mem_filter.1 hx
  exact ⟨h x h1, of_decide_eq_true h2, Nat.le_refl _⟩
def rf (fold : Nat) (l : List Nat) : Rf := ⟨fold, ent l, (ent l).length⟩
theorem rf_ok {fold : Nat} {l : List Nat} (hf : 1 ≤ fold ∧ fold ≤ 8) (hl : W64 l) (hn : l.length ≤ 1099511627776) : (rf fold l).Ok :=
  ⟨hf, ent_ok hl, sumT_ent l, Nat.le_trans (ent_len l) hn⟩
/-- The bins hold these numbers. -/
def Cn (B : Bn) (fold : Nat) (l : List Nat) : Prop := Match B (rf fold l)
theorem Cn.new {n : Nat} (h : 1 ≤ n ∧ n ≤ 8) : Cn ⟨n, 0, false, 0, List.replicate 8 0⟩ n [] := Match.new h
theorem Cn.add {B : Bn} {fold x : Nat} {l : List Nat} (h : Cn B fold l) (hl : W64 l) (hx : x < 18446744073709551616) (hn : l.length < 1099511627776) : Cn (B.addF x) fold (l ++ [x]) := by
  have h1 := (Match.add h hx).2
  have hlen := ent_len l
  unfold Rf.addF at h1
  rw [if_neg (show ¬ 1099511627776 ≤ (rf fold l).n by show ¬ 1099511627776 ≤ (ent l).length; omega)] at h1
  unfold Cn
  by_cases hf : finB x
  · rw [if_pos hf] at h1
    have e : rf fold (l ++ [x]) = (rf fold l).add x := by
      unfold rf Rf.add
      rw [ent_append, ent_fin hf]; simp
    rw [e]; exact h1
  · rw [if_neg hf] at h1
    have e : rf fold (l ++ [x]) = rf fold l := by
      unfold rf
      rw [ent_append, ent_inf hf, List.append_nil]
    rw [e]; exact h1
theorem Cn.merge {B O : Bn} {fold : Nat} {l m : List Nat} (h : Cn B fold l) (hO : Cn O fold m) (hl : W64 l) (hm : W64 m) (hn : l.length + m.length ≤ 1099511627776) : Cn (B.mergeF O) fold (l ++ m) := by
  have h1 := ent_len l
  have h2 := ent_len m
  have h3 := Match.merge h hO rfl (show (ent l).length + (ent m).length ≤ _ by omega)
  have hw : W64 (l ++ m) := fun x hx => (List.mem_append.1 hx).elim (hl x) (hm x)
  refine ⟨rf_ok h.ok.fold hw (by rw [List.length_append]; exact hn), ?_, ?_, h3.rep.congr (fun j => ?_) ?_⟩
  · rw [h3.fold]; exact foldl_more_fold _ _
  · rw [h3.count]
    have := foldl_more_n (ent m) (rf fold l)
    rw [sumT_ent] at this
    show (List.foldl Rf.more (rf fold l) (ent m)).n = (ent (l ++ m)).length
    rw [this, ent_append, List.length_append]; rfl
  · show RS j ((ent m).foldl Rf.more (rf fold l)).l = RS j (ent (l ++ m))
    rw [RS_foldl, ent_append, RS_append]; rfl
  · show topL ((ent m).foldl Rf.more (rf fold l)).l = topL (ent (l ++ m))
    rw [topL_foldl, ent_append, topL_append]; rfl
theorem W64.perm {l m : List Nat} (hl : W64 l) (h : l.Perm m) : W64 m := fun x hx => hl x (h.mem_iff.2 hx)
theorem Cn.perm {B : Bn} {fold : Nat} {l m : List Nat} (h : Cn B fold l) (hp : l.Perm m) (hl : W64 l) (hn : l.length ≤ 1099511627776) : Cn B fold m := by
  have he := ent_perm hp
  refine ⟨rf_ok h.ok.fold (hl.perm hp) (by rw [← hp.length_eq]; exact hn), h.fold, ?_, h.rep.congr (fun j => RS_perm j he) (topL_perm he)⟩
  rw [h.count]; exact he.length_eq
theorem Cn.uniq {B O : Bn} {fold : Nat} {l : List Nat} (h : Cn B fold l) (hO : Cn O fold l) : B = O := by
  obtain ⟨f1, c1, a1, t1, k1⟩ := B
  obtain ⟨f2, c2, a2, t2, k2⟩ := O
  obtain rfl : f1 = f2 := by have h1 := h.fold; have h2 := hO.fold; exact h1.trans h2.symm
  obtain rfl : c1 = c2 := by have h1 := h.count; have h2 := hO.count; exact h1.trans h2.symm
  obtain rfl : a1 = a2 := by have h1 := h.rep.any; have h2 := hO.rep.any; exact h1.trans h2.symm
  have hk : k1 = k2 := by
    refine List.ext_getElem (by have h1 := h.rep.len; have h2 := hO.rep.len; exact h1.trans h2.symm) (fun i hi1 hi2 => ?_)
    have e1 : k1[i] = k1.getD i 0 := by rw [List.getD_eq_getElem?_getD, List.getElem?_eq_getElem hi1]; rfl
    have e2 : k2[i] = k2.getD i 0 := by rw [List.getD_eq_getElem?_getD, List.getElem?_eq_getElem hi2]; rfl
    rw [e1, e2]
    by_cases h34 : -34 ≤ topL (rf fold l).l
    · rcases Nat.lt_or_ge i f1 with hl | hl
      · exact (h.rep.ks h34 i hl).trans (hO.rep.ks h34 i hl).symm
      · exact (h.rep.hi i hl).trans (hO.rep.hi i hl).symm
    · exact (h.rep.ks0 h34 i).trans (hO.rep.ks0 h34 i).symm
  subst hk
  have ht : t1 = t2 := by
    by_cases h34 : -34 ≤ topL (rf fold l).l
    · exact (h.rep.top h34).trans (hO.rep.top h34).symm
    · exact (h.rep.top0 h34).trans (hO.rep.top0 h34).symm
  subst ht; rfl
/-! Shares. -/
/-- k numbers, from the i-th on, each s-th. -/
def evs (xs : List Nat) (s i k : Nat) : List Nat := (List.range k).flatMap (fun q => (xs[i + s * q]?).toList)
theorem evs_zero (xs : List Nat) (s i : Nat) : evs xs s i 0 = [] := rfl
theorem evs_succ (xs : List Nat) (s i k : Nat) : evs xs s i (k + 1) = evs xs s i k ++ (xs[i + s * k]?).toList := by
  simp [evs, List.range_succ]
theorem evs_more {xs : List Nat} {s i k : Nat} (h : xs.length ≤ i + s * k) : ∀ m, evs xs s i (k + m) = evs xs s i k
  | 0 => rfl
  | m + 1 => by
    rw [← Nat.add_assoc, evs_succ, evs_more h m, List.getElem?_eq_none (by rw [Nat.mul_add]; omega)]; simp
theorem fm_app (f g : Nat → List Nat) : ∀ l : List Nat, (l.flatMap (fun x => f x ++ g x)).Perm (l.flatMap f ++ l.flatMap g)
  | [] => .refl _
  | x :: l => by
    have ih := fm_app f g l
    simp only [List.flatMap_cons]
    refine (ih.append_left (f x ++ g x)).trans ?_
    exact List.perm_iff_count.2 (fun z => by simp only [List.count_append]; omega)
theorem range_take (ys : List Nat) : ∀ s, (List.range s).flatMap (fun i => (ys[i]?).toList) = ys.take s
  | 0 => by simp
  | s + 1 => by rw [List.range_succ, List.flatMap_append, range_take ys s, List.take_succ]; simp
theorem evs_all {xs : List Nat} {s : Nat} : ∀ m, ((List.range s).flatMap (fun i => evs xs s i m)).Perm (xs.take (s * m))
  | 0 => by simp [evs]
  | m + 1 => by
    have e : (fun i => evs xs s i (m + 1)) = fun i => evs xs s i m ++ (xs[i + s * m]?).toList := funext fun i => evs_succ ..
    rw [e]
    refine (fm_app _ _ _).trans ((List.Perm.append (evs_all m) (.refl _)).trans ?_)
    have e2 : (List.range s).flatMap (fun i => (xs[i + s * m]?).toList) = (xs.drop (s * m)).take s := by
      rw [← range_take]
      congr 1; funext i
      rw [List.getElem?_drop, Nat.add_comm]
    rw [e2, Nat.mul_add, Nat.mul_one, List.take_add]
theorem evs_perm {xs : List Nat} {s m : Nat} (h : xs.length ≤ s * m) : ((List.range s).flatMap (fun i => evs xs s i m)).Perm xs := by
  have := evs_all (xs := xs) (s := s) m
  rwa [List.take_of_length_le h] at this
theorem evs_one {xs : List Nat} {k : Nat} : evs xs 1 0 k = xs.take k := by
  unfold evs
  rw [← range_take]
  congr 1; funext q; congr 2; omega
theorem evs_mem {xs : List Nat} {s i k x : Nat} (h : x ∈ evs xs s i k) : x ∈ xs := by
  obtain ⟨q, _, hq⟩ := List.mem_flatMap.1 h
  exact List.mem_of_getElem? (Option.mem_toList.1 hq)
theorem evs_len (xs : List Nat) (s i : Nat) : ∀ k, (evs xs s i k).length ≤ k
  | 0 => Nat.le_refl _
  | k + 1 => by
    rw [evs_succ, List.length_append]
    have := evs_len xs s i k
    have h2 : (xs[i + s * k]?).toList.length ≤ 1 := by cases xs[i + s * k]? <;> simp
    omega
end Go.Sw
/-! What is kept lies near the sum. Plain maths. -/
namespace Go.Sw
set_option autoImplicit false
set_option linter.all false
set_option exponentiation.threshold 400
open Go.RowKit
/-- The step from 2^-1088 to 2^-1400. -/
@[irreducible] def C312 : Nat := 2 ^ (300 + 12)
theorem C312_def : C312 = 2 ^ 312 := by unfold C312; rfl
theorem C312_pos : 0 < C312 := by rw [C312_def]; exact Nat.two_pow_pos _
def sb (x : Nat) : Bool := decide (x / 9223372036854775808 = 1)
/-- The sum, in steps of 2^-1400; what of it lies below a bin. -/
def VS : List (Nat × Nat) → Int
  | [] => 0
  | p :: l => sgn (sb p.1) (XX p.1 * C312) * (p.2 : Int) + VS l
def LO (M : Nat) : List (Nat × Nat) → Int
  | [] => 0
  | p :: l => sgn (sb p.1) (XX p.1 % M * C312) * (p.2 : Int) + LO M l
theorem VS_append : ∀ (l m : List (Nat × Nat)), VS (l ++ m) = VS l + VS m
  | [], _ => by simp [VS]
  | _ :: l, m => by simp only [List.cons_append, VS, VS_append l m]; omega
def EE (k : Int) : Nat := 2 ^ (32 * k).toNat
theorem EE_pos (k : Int) : 0 < EE k := Nat.two_pow_pos _
theorem slice_step (x : Nat) (j : Int) : sgn (sb x) (XX x % EE (j + 35) * C312) = sgn (sb x) (XX x % EE (j + 34) * C312) + sl x j * (pw j : Int) := by
  have e : sl x j * (pw j : Int) = sgn (sb x) (sliceN x j * pw j) := by rw [sgn_mul]; rfl
  rw [e, ← sgn_add]
  congr 1
  by_cases h : -34 ≤ j
  · rw [sliceN_hi h]
    have e1 : EE (j + 35) = EE (j + 34) * 4294967296 := by
      unfold EE; rw [show (4294967296 : Nat) = 2 ^ 32 by rfl, ← Nat.pow_add]; congr 1; omega
    have e2 : pw j = EE (j + 34) * C312 := by
      unfold EE pw; rw [C312_def, ← Nat.pow_add]; congr 1; omega
    rw [e1, e2, Nat.mod_mul]
    show _ = _ + XX x / EE (j + 34) % 4294967296 * _
    rw [Nat.add_mul]
    congr 1
    rw [Nat.mul_comm (EE (j + 34)), Nat.mul_assoc]
  · have e1 : EE (j + 35) = EE (j + 34) := by unfold EE; congr 1; omega
    rw [sliceN_lo (by omega), e1]; simp
theorem LO_step (j : Int) : ∀ l : List (Nat × Nat), RS j l * (pw j : Int) = LO (EE (j + 35)) l - LO (EE (j + 34)) l
  | [] => by simp [RS, LO]
  | p :: l => by
    have ih := LO_step j l
    simp only [RS, LO]
    rw [Int.add_mul, ih, slice_step, Int.add_mul, Int.mul_right_comm]
    omega
theorem rsum_LO (l : List (Nat × Nat)) (t : Int) : ∀ q : Nat, rsumN l t q = LO (EE (t + 35)) l - LO (EE (t + 35 - q)) l
  | 0 => by rw [rsumN]; simp
  | q + 1 => by
    rw [rsumN, rsum_LO l t q, LO_step, show t - (q : Int) + 35 = t + 35 - q by omega, show t - (q : Int) + 34 = t + 35 - ((q + 1 : Nat) : Int) by omega]
    omega
theorem XX_top {x : Nat} {t : Int} (h : topS (-35) x ≤ t) (ht : -35 ≤ t) : XX x < EE (t + 35) := by
  by_cases hm : (fabs x).m = 0
  · have : XX x = 0 := by rw [← fabs_XX, hm, Nat.zero_mul]
    rw [this]; exact EE_pos _
  · have he := (fabs_e (x := x)).resolve_right hm
    have hb : blen (XX x) = blen (fabs x).m + ((fabs x).e + 1088).toNat := by rw [← fabs_XX]; exact blen_mul_pow hm _
    unfold topS at h
    rw [if_neg hm] at h
    exact blen_le.1 (by omega)
theorem LO_top : ∀ {l : List (Nat × Nat)} {t : Int}, topL l ≤ t → -35 ≤ t → LO (EE (t + 35)) l = VS l
  | [], _, _, _ => rfl
  | p :: l, t, h, ht => by
    rw [topL_cons] at h
    simp only [LO, VS]
    rw [Nat.mod_eq_of_lt (XX_top (by omega) ht), LO_top (by omega) ht]
theorem LO_le {M : Nat} (hM : 0 < M) : ∀ l : List (Nat × Nat), (LO M l).natAbs + sumT l * C312 ≤ sumT l * (M * C312)
  | [] => by simp [LO, sumT]
  | p :: l => by
    have ih := LO_le hM l
    have h1 : (XX p.1 % M * C312 + C312) ≤ M * C312 := by
      have := Nat.mod_lt (XX p.1) hM
      calc XX p.1 % M * C312 + C312 = (XX p.1 % M + 1) * C312 := by rw [Nat.add_mul, Nat.one_mul]
        _ ≤ M * C312 := Nat.mul_le_mul_right _ this
    have h2 := Nat.mul_le_mul_left p.2 h1
    have h3 : (sgn (sb p.1) (XX p.1 % M * C312) * (p.2 : Int)).natAbs = p.2 * (XX p.1 % M * C312) := by
      rw [Int.natAbs_mul, sgn_natAbs, Int.natAbs_natCast, Nat.mul_comm]
    have h4 := Int.natAbs_add_le (sgn (sb p.1) (XX p.1 % M * C312) * (p.2 : Int)) (LO M l)
    simp only [LO, sumT, Nat.add_mul]
    rw [Nat.mul_add] at h2
    omega
/-- What is kept, in steps of 2^-1400. -/
theorem Cn.kept {B : Bn} {fold : Nat} {l : List Nat} (h : Cn B fold l) : dv 1400 B.kept = (rf fold l).sumV ∧ B.kept.Ge 1400 := by
  obtain ⟨h1, h2⟩ := Match.kept_dv h B.fold (Nat.le_refl _)
  have hf : B.fold = (rf fold l).fold := h.fold
  refine ⟨?_, h2⟩
  rw [Bn.kept, h1, hf]; rfl
theorem Cn.none {B : Bn} {fold : Nat} {l : List Nat} (h : Cn B fold l) (ha : B.any = false) : VS (ent l) = 0 ∧ (rf fold l).sumV = 0 := by
  have h34 : ¬ -34 ≤ topL (ent l) := by
    have := h.rep.any
    rw [ha] at this
    exact of_decide_eq_false this.symm
  have h1 := topL_ge (ent l)
  have h2 := LO_top (l := ent l) (t := -35) (by omega) (Int.le_refl _)
  refine ⟨?_, if_neg h34⟩
  rw [← h2]
  have h3 := LO_le (M := 1) (by decide) (ent l)
  have h4 : EE (-35 + 35) = 1 := rfl
  rw [h4]
  rw [Nat.one_mul] at h3
  omega
theorem Cn.near {B : Bn} {fold : Nat} {l : List Nat} (h : Cn B fold l) (ha : B.any = true) : 1 ≤ B.count ∧ -34 ≤ B.top ∧ B.top ≤ 31 ∧ (VS (ent l) - (rf fold l).sumV).natAbs < B.count * pw (B.top - B.fold + 1) := by
  have h34 : -34 ≤ topL (ent l) := by
    have := h.rep.any
    rw [ha] at this
    exact of_decide_eq_true this.symm
  have ht : B.top = topL (ent l) := h.rep.top h34
  have h9 : okL (ent l) := h.ok.ok
  have ht2 : topL (ent l) ≤ 31 := by
    have := topN_le h9 (ent l).length; rw [topN_all] at this; exact this.2
  have hcount : B.count = (ent l).length := h.count
  have hc1 : 1 ≤ (ent l).length := by
    rcases Nat.eq_zero_or_pos (ent l).length with e | e
    · have := List.eq_nil_of_length_eq_zero e
      rw [this] at h34
      exact absurd h34 (by decide)
    · exact e
  have hf : B.fold = fold := h.fold
  have hf8 := h.ok.fold
  refine ⟨by omega, by omega, by omega, ?_⟩
  have e1 : (rf fold l).sumV = rsumN (ent l) (topL (ent l)) fold := if_pos h34
  rw [e1, rsum_LO, LO_top (Int.le_refl _) (by omega)]
  have e2 : VS (ent l) - (VS (ent l) - LO (EE (topL (ent l) + 35 - fold)) (ent l)) = LO (EE (topL (ent l) + 35 - fold)) (ent l) := by omega
  rw [e2]
  have h3 := LO_le (EE_pos (topL (ent l) + 35 - fold)) (ent l)
  rw [sumT_ent] at h3
  have hp := C312_pos
  have h4 : 0 < (ent l).length * C312 := Nat.mul_pos hc1 hp
  rw [hcount, ht, hf]
  by_cases hj : -34 ≤ topL (ent l) - fold + 1
  · have e3 : pw (topL (ent l) - fold + 1) = EE (topL (ent l) + 35 - fold) * C312 := by
      unfold EE pw; rw [C312_def, ← Nat.pow_add]; congr 1; omega
    rw [e3]; omega
  · have e4 : EE (topL (ent l) + 35 - fold) = 1 := by
      unfold EE; rw [show (32 * (topL (ent l) + 35 - (fold : Int))).toNat = 0 by omega]
    rw [e4] at h3 ⊢
    rw [Nat.one_mul] at h3
    have h5 : (LO 1 (ent l)).natAbs = 0 := by omega
    rw [h5]
    exact Nat.mul_pos hc1 (Nat.two_pow_pos _)
/-- A number's value. -/
theorem fval_dv (x : Nat) : dv 1400 (fval x) = sgn (sb x) (XX x * C312) ∧ (fval x).Ge 1400 := by
  have h := @numE_low 53 (-1074) (x % 9223372036854775808)
  obtain ⟨h1, h2⟩ := dv_fm (E := 1400) (s := sb x) (m := numM 53 (x % 9223372036854775808)) (e := numE 53 (-1074) (x % 9223372036854775808)) (by omega)
  refine ⟨?_, h2⟩
  have e : numM 53 (x % 9223372036854775808) * 2 ^ (numE 53 (-1074) (x % 9223372036854775808) + (1400 : Nat)).toNat = XX x * C312 := by
    unfold XX; rw [C312_def, Nat.mul_assoc, ← Nat.pow_add]; congr 2; omega
  rw [← e]; exact h1
theorem fval_In {x : Nat} (h : finB x) : (fval x).In (-1074) 1024 := by
  have h1 := numE_fin2 h
  have h2 := @numE_low 53 (-1074) (x % 9223372036854775808)
  have h3 : blen (numM 53 (x % 9223372036854775808)) ≤ 53 := blen_le.2 (numM_lt (by decide))
  exact .fm h2 (by omega)
theorem fval_can (x : Nat) : (fval x).Can := Dy.fm_can ..
/-- A sum so far. -/
structure Sum (S : Dy) (V : Int) (n : Nat) : Prop where
  can : S.Can
  ge : S.Ge 1400
  val : dv 1400 S = V
  inn : S.In (-1074) (1024 + n)
theorem Sum.zero : Sum ⟨false, 0, 0⟩ 0 0 := ⟨zero_can, by show (0 : Int) ≤ 0 + 1400; decide, dv_zero, .inl rfl⟩
theorem Sum.skip {S : Dy} {V : Int} {n : Nat} (h : Sum S V n) : Sum S V (n + 1) := ⟨h.can, h.ge, h.val, h.inn.mono (by omega)⟩
theorem Sum.add {S : Dy} {V : Int} {n x : Nat} (h : Sum S V n) (hx : finB x) : Sum (S.add (fval x)) (V + sgn (sb x) (XX x * C312)) (n + 1) := by
  obtain ⟨h1, h2⟩ := fval_dv x
  obtain ⟨h3, h4⟩ := dv_add h.ge h2
  refine ⟨Dy.add_can h.can (fval_can x), h4, by rw [h3, h.val, h1], ?_⟩
  have := h.inn.add ((fval_In hx).mono (hi' := 1024 + n) (by omega))
  rw [show 1024 + ((n + 1 : Nat) : Int) = 1024 + (n : Int) + 1 by omega]
  exact this
theorem Sum.B {S : Dy} {V : Int} {n : Nat} (h : Sum S V n) (hn : n ≤ 4000) : S.B 60000 := h.inn.B h.can (by omega) (by omega) (by omega)
theorem VS_take {xs : List Nat} {i x : Nat} (h : xs[i]? = some x) : VS (ent (xs.take (i + 1))) = VS (ent (xs.take i)) + if finB x then sgn (sb x) (XX x * C312) else 0 := by
  rw [List.take_succ, h]
  simp only [Option.toList_some, ent_append, VS_append]
  congr 1
  split
  · rename_i hf; rw [ent_fin hf]; simp [VS]
  · rename_i hf; rw [ent_inf hf]; rfl
end Go.Sw
/-! The bound lies above. Plain maths. -/
namespace Go.Sw
set_option autoImplicit false
set_option linter.all false
set_option exponentiation.threshold 3000
open Go.RowKit
theorem floor_at {V : Nat} {f : Nat → Nat} (h0 : f 0 ≤ V) : ∀ n, V < f n → ∃ k, k < n ∧ f k ≤ V ∧ V < f (k + 1)
  | 0, h => absurd h (by omega)
  | n + 1, h => by
    rcases Nat.lt_or_ge V (f n) with hl | hl
    · obtain ⟨k, h1, h2, h3⟩ := floor_at h0 n hl
      exact ⟨k, by omega, h2, h3⟩
    · exact ⟨n, by omega, hl, h⟩
/-- Rounded up: not below, and a number. -/
theorem round_up {d : Dy} (hc : d.Can) (hs : d.s = false) (hge : d.Ge 1400) {M : Nat} (hM : M + 1 = 9218868437227405312) (hle : d.m * 2 ^ (d.e + (1400 : Nat)).toNat ≤ NV 53 (-1074) 1400 M) :
    round64 2 d < 9218868437227405312 ∧ d.m * 2 ^ (d.e + (1400 : Nat)).toNat ≤ NV 53 (-1074) 1400 (round64 2 d) := by
  obtain ⟨V, hV⟩ : ∃ V, V = d.m * 2 ^ (d.e + (1400 : Nat)).toNat := ⟨_, rfl⟩
  have hE : (0 : Int) ≤ -1074 + (1400 : Nat) := by decide
  have hlt : V < NV 53 (-1074) 1400 (M + 1) := by
    have := NV_lt_succ (p := 53) (low := -1074) (E := 1400) (k := M) hE
    omega
  obtain ⟨k, hk, h1, h2⟩ := floor_at (f := NV 53 (-1074) 1400) (V := V) (by rw [NV_zero]; exact Nat.zero_le _) (M + 1) hlt
  rw [hM] at hk
  have hr := round_near (p := 53) (Q := 2047) (low := -1074) (inf := 0) (mode := 2) (d := d) (E := 1400) (k := k) (infn := 9218868437227405312) (by decide) (by decide) (by decide) hE hge hc (by decide) hk (by rw [← hV]; exact h1) (.inr (by rw [← hV]; exact h2)) rfl
  rw [round64_add, hs, if_neg (by decide), Nat.add_zero, hr, ← hV]
  by_cases he : NV 53 (-1074) 1400 k = V
  · rw [if_pos he]
    exact ⟨hk, Nat.le_of_eq he.symm⟩
  · rw [if_neg he, hs]
    have ho : ∀ h : Int, onB 2 false h k = true := fun h => by unfold onB; rfl
    rw [if_pos (ho _)]
    have hkM : k < M := NV_lt (p := 53) hE (by omega)
    exact ⟨by omega, Nat.le_of_lt h2⟩
theorem NV_max {M : Nat} (hM : M + 1 = 9218868437227405312) : NV 53 (-1074) 1400 M = 9007199254740991 * 2 ^ 2371 := by
  obtain ⟨h1, h2⟩ := num_at (p := 53) (low := -1074) (g := 971) (n := 9007199254740991) (by decide) (by decide) (fun _ => by decide)
  have e : 9007199254740991 + (971 - (-1074 : Int)).toNat * 2 ^ (53 - 1) = M := by
    exact Nat.succ.inj (Eq.trans (show (9007199254740991 + (971 - (-1074 : Int)).toNat * 2 ^ (53 - 1)) + 1 = 9218868437227405312 by decide) hM.symm)
  rw [e] at h1 h2
  unfold NV
  rw [h1, h2, show ((971 : Int) + ((1400 : Nat) : Int)).toNat = 2371 from by decide]
theorem fm_pos {n : Nat} {e : Int} : (Dy.fm false n e).s = false := by unfold Dy.fm; split <;> rfl
theorem fm_val {n : Nat} {e : Int} (h : 0 ≤ e + 1400) : (Dy.fm false n e).m * 2 ^ ((Dy.fm false n e).e + (1400 : Nat)).toNat = n * 2 ^ (e + (1400 : Nat)).toNat := by
  have := (dv_fm (E := 1400) (s := false) (m := n) (e := e) h).1
  unfold dv at this
  rw [fm_pos] at this
  simp only [sgn, Bool.false_eq_true, if_false] at this
  exact Int.ofNat.inj this
theorem pw_small {n : Nat} {j : Int} (hn : n ≤ 4096) (hj : j ≤ 31) : n * pw j ≤ 9007199254740991 * 2 ^ 2371 := by
  have h1 : pw j ≤ 2 ^ 21 * 2 ^ 2371 := by
    unfold pw; rw [← Nat.pow_add]; exact Nat.pow_le_pow_right (by decide) (by omega)
  calc n * pw j ≤ 4096 * (2 ^ 21 * 2 ^ 2371) := Nat.mul_le_mul hn h1
    _ = (4096 * 2 ^ 21) * 2 ^ 2371 := by rw [Nat.mul_assoc]
    _ ≤ 9007199254740991 * 2 ^ 2371 := Nat.mul_le_mul_right _ (by decide)
def bnd (B : Bn) : Nat := if B.any = true then round64 2 (Dy.fm false B.count (32 * (B.top - B.fold + 1))) else 0
theorem bnd_none {B : Bn} (h : B.any = false) : bnd B = 0 := by unfold bnd; rw [if_neg (by rw [h]; decide)]
theorem fval_zero : (fval 0).m = 0 := by
  have : numM 53 0 = 0 := by unfold numM; rfl
  unfold fval
  rw [show (0 : Nat) % 9223372036854775808 = 0 from rfl, this, Dy.fm_zero]
theorem fval_NV {x : Nat} (hx : x < 9223372036854775808) : (fval x).s = false ∧ (fval x).m * 2 ^ ((fval x).e + (1400 : Nat)).toNat = NV 53 (-1074) 1400 x := by
  have h := @numE_low 53 (-1074) x
  have e : decide (x / 9223372036854775808 = 1) = false := decide_eq_false (by omega)
  unfold fval
  rw [Nat.mod_eq_of_lt hx, e]
  exact ⟨fm_pos, fm_val (by omega)⟩
/-- What is left out is less than the bound. -/
theorem Cn.less {B : Bn} {fold : Nat} {l : List Nat} (h : Cn B fold l) (ha : B.any = true) (hn : B.count ≤ 4096) {off : Dy} (ho : off.Ge 1400)
    (hv : off.m * 2 ^ (off.e + (1400 : Nat)).toNat = (VS (ent l) - (rf fold l).sumV).natAbs) :
    bnd B < 9218868437227405312 ∧ (fval (bnd B)).m ≠ 0 ∧ (fval (bnd B)).s = false ∧ (fval (bnd B)).B 60000 ∧ cmpD off.m off.e (fval (bnd B)).m (fval (bnd B)).e = -1 := by
  obtain ⟨h1, h2, h3, h4⟩ := h.near ha
  have hf := h.fold
  have hf8 := h.ok.fold
  have hfB : 1 ≤ B.fold ∧ B.fold ≤ 8 := by rw [hf]; exact hf8
  have hj : 0 ≤ 32 * (B.top - B.fold + 1) + 1400 := by omega
  have hval := fm_val (n := B.count) hj
  have hpw : 2 ^ (32 * (B.top - (B.fold : Int) + 1) + (1400 : Nat)).toNat = pw (B.top - B.fold + 1) := rfl
  rw [hpw] at hval
  obtain ⟨M, hM⟩ : ∃ M, M + 1 = 9218868437227405312 := ⟨9218868437227405311, rfl⟩
  have hle : (Dy.fm false B.count (32 * (B.top - B.fold + 1))).m * 2 ^ ((Dy.fm false B.count (32 * (B.top - B.fold + 1))).e + (1400 : Nat)).toNat ≤ NV 53 (-1074) 1400 M := by
    rw [hval, NV_max hM]; exact pw_small hn (by omega)
  obtain ⟨r1, r2⟩ := round_up (Dy.fm_can ..) fm_pos (dv_fm (E := 1400) (s := false) (m := B.count) hj).2 hM hle
  have hb : bnd B = round64 2 (Dy.fm false B.count (32 * (B.top - B.fold + 1))) := if_pos ha
  rw [← hb] at r1 r2
  rw [hval] at r2
  have hx : bnd B < 9223372036854775808 := Nat.lt_of_lt_of_le r1 (by decide)
  obtain ⟨s1, s2⟩ := fval_NV hx
  have hfin : finB (bnd B) := by unfold finB; rw [Nat.mod_eq_of_lt hx]; exact r1
  have hlt : (VS (ent l) - (rf fold l).sumV).natAbs < NV 53 (-1074) 1400 (bnd B) := Nat.lt_of_lt_of_le h4 r2
  have hge := (fval_dv (bnd B)).2
  refine ⟨r1, ?_, s1, (fval_In hfin).B (fval_can _) (by omega) (by omega) (by omega), ?_⟩
  · intro e
    rw [← s2, e, Nat.zero_mul] at hlt
    exact absurd hlt (Nat.not_lt_zero _)
  · rw [cmpD_eq 1400 ho hge, hv, s2]
    exact cmpN_lt hlt
end Go.Sw
/-! How far what is kept lies from the sum. Plain maths. -/
namespace Go.Sw
set_option autoImplicit false
set_option linter.all false
open Go.RowKit
theorem Dy.In.lo {lo lo' hi : Int} {d : Dy} (h : d.In lo hi) (hl : lo' ≤ lo) : d.In lo' hi := by
  rcases h with h | h
  · exact .inl h
  · exact .inr ⟨by omega, h.2⟩
theorem Dy.In.turn {lo hi : Int} {d : Dy} (h : d.In lo hi) : (Dy.fm (!d.s) d.m d.e).In lo hi := by
  rcases h with h | h
  · rw [h, Dy.fm_zero]; exact .inl rfl
  · exact .fm h.1 h.2
theorem dv_turn {d : Dy} (h : d.Ge 1400) : dv 1400 (Dy.fm (!d.s) d.m d.e) = -dv 1400 d ∧ (Dy.fm (!d.s) d.m d.e).Ge 1400 := by
  obtain ⟨h1, h2⟩ := dv_fm (E := 1400) (s := !d.s) (m := d.m) h
  refine ⟨?_, h2⟩
  rw [h1]
  unfold dv sgn
  cases d.s <;> simp
/-- A size: no sign, and so much. -/
structure Off (O : Dy) (N : Nat) : Prop where
  s : O.s = false
  ge : O.Ge 1400
  b : O.B 60000
  val : O.m * 2 ^ (O.e + (1400 : Nat)).toNat = N
structure Far (O : Dy) (V : Int) : Prop where
  can : O.Can
  ge : O.Ge 1400
  val : dv 1400 O = V
  inn : O.In (-3456) 9000
theorem Far.B {O : Dy} {V : Int} (h : Far O V) : O.B 60000 := h.inn.B h.can (by omega) (by omega) (by omega)
theorem far_of {S K : Dy} {V W : Int} {n : Nat} (hS : Sum S V n) (hn : n ≤ 4000) (hk : dv 1400 K = W) (hg : K.Ge 1400) (hi : K.In (-3456) 3308) : Far (S.add (Dy.nf ⟨!K.s, K.m, K.e⟩)) (V - W) := by
  obtain ⟨h1, h2⟩ := dv_turn hg
  obtain ⟨h3, h4⟩ := dv_add hS.ge (show (Dy.nf ⟨!K.s, K.m, K.e⟩).Ge 1400 from h2)
  refine ⟨Dy.add_can hS.can (Dy.fm_can ..), h4, ?_, ?_⟩
  · rw [h3, hS.val, show dv 1400 (Dy.nf ⟨!K.s, K.m, K.e⟩) = -dv 1400 K from h1, hk]; omega
  · have h5 := (hS.inn.lo (lo' := -3456) (by omega)).mono (hi' := 8000) (by omega)
    have h6 : (Dy.nf ⟨!K.s, K.m, K.e⟩).In (-3456) 8000 := hi.turn.mono (by omega)
    exact (h5.add h6).mono (by omega)
theorem Far.off {O : Dy} {V : Int} (h : Far O V) (hs : O.s = false) : Off O V.natAbs := by
  refine ⟨hs, h.ge, h.B, ?_⟩
  rw [← h.val]
  unfold dv; rw [sgn_natAbs]
theorem Far.neg {O : Dy} {V : Int} (h : Far O V) (hs : O.s = true) : Off (Dy.fm (!O.s) O.m O.e) V.natAbs := by
  obtain ⟨h1, h2⟩ := dv_turn h.ge
  have h3 : (Dy.fm (!O.s) O.m O.e).s = false := by rw [hs]; exact fm_pos
  refine ⟨h3, h2, h.inn.turn.B (Dy.fm_can ..) (by omega) (by omega) (by omega), ?_⟩
  have h4 : (dv 1400 (Dy.fm (!O.s) O.m O.e)).natAbs = V.natAbs := by rw [h1, h.val, Int.natAbs_neg]
  rw [← h4]
  unfold dv; rw [sgn_natAbs]
theorem dv_null {D : Dy} (h : dv 1400 D = 0) : D.m = 0 := by
  have : D.m * 2 ^ (D.e + (1400 : Nat)).toNat = 0 := by
    have h2 := congrArg Int.natAbs h
    unfold dv at h2
    rw [sgn_natAbs] at h2
    exact h2
  rcases Nat.mul_eq_zero.1 this with e | e
  · exact e
  · exact absurd e (Nat.pos_iff_ne_zero.1 (Nat.two_pow_pos _))
theorem Cn.bnd_fin {B : Bn} {fold : Nat} {l : List Nat} (h : Cn B fold l) (hn : B.count ≤ 4096) {O : Dy} (ho : Off O (VS (ent l) - (rf fold l).sumV).natAbs) :
    finB (bnd B) ∧ bnd B < 18446744073709551616 := by
  have key : bnd B < 9218868437227405312 := by
    cases ha : B.any with
    | false => rw [bnd_none ha]; decide
    | true => exact (h.less ha hn ho.ge ho.val).1
  exact ⟨by unfold finB; omega, by omega⟩
theorem fval_B {x : Nat} (h : finB x) : (fval x).B 60000 := (fval_In h).B (fval_can _) (by omega) (by omega) (by omega)
def sign3 (d : Dy) : Int := if d.m = 0 then 0 else if d.s = true then -1 else 1
theorem Cn.null {B : Bn} {fold : Nat} {l : List Nat} (h : Cn B fold l) (hn : B.count ≤ 4096) {S O : Dy} {n : Nat} (ho : Off O (VS (ent l) - (rf fold l).sumV).natAbs) (hS : Sum S (VS (ent l)) n)
    (hs : (if (fval (bnd B)).m = 0 then (0 : Int) else if (fval (bnd B)).s = true then -1 else 1) = 0) : S.m = 0 ∧ B.kept.m = 0 := by
  have ha : B.any = false := by
    cases ha : B.any with
    | false => rfl
    | true =>
      obtain ⟨_, h2, h3, _, _⟩ := h.less ha hn ho.ge ho.val
      rw [if_neg h2, h3] at hs
      exact absurd hs (by decide)
  obtain ⟨h1, h2⟩ := h.none ha
  exact ⟨dv_null (by rw [hS.val, h1]), dv_null (by rw [h.kept.1, h2])⟩
theorem Cn.past {B : Bn} {fold : Nat} {l : List Nat} (h : Cn B fold l) (hn : B.count ≤ 4096) {O : Dy} (ho : Off O (VS (ent l) - (rf fold l).sumV).natAbs)
    (hs : ¬ (if (fval (bnd B)).m = 0 then (0 : Int) else if (fval (bnd B)).s = true then -1 else 1) = 0) : (fval (bnd B)).m ≠ 0 ∧ (fval (bnd B)).s = false ∧ cmpD O.m O.e (fval (bnd B)).m (fval (bnd B)).e = -1 := by
  have hm : (fval (bnd B)).m ≠ 0 := fun e => hs (if_pos e)
  have ha : B.any = true := by
    cases ha : B.any with
    | true => rfl
    | false => rw [bnd_none ha, fval_zero] at hm; exact absurd rfl hm
  obtain ⟨_, _, h3, _, h5⟩ := h.less ha hn ho.ge ho.val
  exact ⟨hm, h3, h5⟩
end Go.Sw
