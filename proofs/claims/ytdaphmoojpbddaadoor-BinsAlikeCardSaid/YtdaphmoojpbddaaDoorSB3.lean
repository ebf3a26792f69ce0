/- A part of the proof that BinsAlike answers true: steps of the walk, or plain laws that it needs. No conditions of its own. -/
import Derived.Test.YtdaphmoojpbddaaDoorSK2
set_option linter.all false
namespace Go.Sw
set_option autoImplicit false
open Go.RowKit
variable {P : Program} {n : Nat} {σ : Env} {ds : List Deferred} {ops : Array Oper} {rest : List Oper} {k : Env → List Deferred → World → Prop} {w w0 : World}
  {d : Nat} {ty : TypeId} {pos : String} {af : Array Edge} {x y z : Operand} {t : TypeId} {u : TypeId}
def add64E : Array Value → Sem Value := (Extern.MathBitsCarry.rows.getD 0 ("", fun _ => pure undef)).2
def sub64E : Array Value → Sem Value := (Extern.MathBitsCarry.rows.getD 1 ("", fun _ => pure undef)).2
theorem run_add64 {a b c : Nat} (hc : c ≤ 1) : (add64E #[.int .u64 (a : Int), .int .u64 (b : Int), .int .u64 (c : Int)]).run P w = .ok (.tuple #[.int .u64 (((a + b + c) % 18446744073709551616 : Nat) : Int), .int .u64 (((a + b + c) / 18446744073709551616 : Nat) : Int)]) w := by
  have h : ¬ 1 < c := by omega
  obtain rfl | rfl : c = 0 ∨ c = 1 := by omega
  · rfl
  · rfl
theorem run_sub64 {a b c : Nat} (hc : c ≤ 1) : (sub64E #[.int .u64 (a : Int), .int .u64 (b : Int), .int .u64 (c : Int)]).run P w = .ok (.tuple #[.int .u64 (((a + 18446744073709551616 - b - c) % 18446744073709551616 : Nat) : Int), .int .u64 ((if a < b + c then 1 else 0 : Nat) : Int)]) w := by
  have h : ¬ 1 < c := by omega
  obtain rfl | rfl : c = 0 ∨ c = 1 := by omega
  · rfl
  · rfl
theorem WPL.add64 {f a b c : Nat} {at' : Array TypeId} (hE : Ext P f add64E) (hx : ev σ x = .int .u64 (a : Int)) (hy : ev σ y = .int .u64 (b : Int)) (hz : ev σ z = .int .u64 (c : Int)) (hc : c ≤ 1) (hd : Nat.blt d n = true)
    (h : WPL P n ops rest k (upd σ d (.tuple #[.int .u64 (((a + b + c) % 18446744073709551616 : Nat) : Int), .int .u64 (((a + b + c) / 18446744073709551616 : Nat) : Int)])) ds w) :
    WPL P n ops (⟨some d, .call ⟨.value (.func f), #[x, y, z], at'⟩, ty, pos, af, none⟩ :: rest) k σ ds w :=
  WPL.ext' (xs := [x, y, z]) hE (by simp only [List.map_cons, List.map_nil, hx, hy, hz]) (run_add64 hc) hd h
theorem WPL.sub64 {f a b c : Nat} {at' : Array TypeId} (hE : Ext P f sub64E) (hx : ev σ x = .int .u64 (a : Int)) (hy : ev σ y = .int .u64 (b : Int)) (hz : ev σ z = .int .u64 (c : Int)) (hc : c ≤ 1) (hd : Nat.blt d n = true)
    (h : WPL P n ops rest k (upd σ d (.tuple #[.int .u64 (((a + 18446744073709551616 - b - c) % 18446744073709551616 : Nat) : Int), .int .u64 ((if a < b + c then 1 else 0 : Nat) : Int)])) ds w) :
    WPL P n ops (⟨some d, .call ⟨.value (.func f), #[x, y, z], at'⟩, ty, pos, af, none⟩ :: rest) k σ ds w :=
  WPL.ext' (xs := [x, y, z]) hE (by simp only [List.map_cons, List.map_nil, hx, hy, hz]) (run_sub64 hc) hd h
/-- A part's two cells: a whole number in two words. -/
def loK (K : Int) : Nat := (K % 18446744073709551616).toNat
def hiK (K : Int) : Int := K / 18446744073709551616
theorem lo_add (K O : Int) : (loK K + loK O + 0) % 18446744073709551616 = loK (K + O) := by unfold loK; omega
theorem hi_add (K O : Int) : hiK K + hiK O + ((loK K + loK O + 0) / 18446744073709551616 : Nat) = hiK (K + O) := by unfold loK hiK; omega
/-- The bins' state: the parts as whole numbers, from the top down. -/
structure Bn where
  fold : Nat
  count : Nat
  any : Bool
  top : Int
  ks : List Int
def kc : List Int → List Value
  | [] => []
  | K :: ks => .int .u64 (loK K : Int) :: .int .i64 (hiK K) :: kc ks
def bnC (B : Bn) : List Value := .int .i64 (B.fold : Int) :: .int .i64 (B.count : Int) :: .bool B.any :: .int .i64 B.top :: kc B.ks
theorem kc_length : ∀ ks : List Int, (kc ks).length = 2 * ks.length
  | [] => rfl
  | _ :: ks => by simp [kc, kc_length ks]; omega
theorem kc_lo : ∀ {ks : List Int} {i : Nat}, i < ks.length → (kc ks)[i * 2]? = some (.int .u64 (loK (ks.getD i 0) : Int))
  | _ :: _, 0, _ => rfl
  | _ :: ks, i + 1, h => by
    have := kc_lo (ks := ks) (i := i) (by simpa using h)
    rw [show (i + 1) * 2 = i * 2 + 1 + 1 by omega]
    simpa [kc] using this
theorem kc_hi : ∀ {ks : List Int} {i : Nat}, i < ks.length → (kc ks)[i * 2 + 1]? = some (.int .i64 (hiK (ks.getD i 0)))
  | _ :: _, 0, _ => rfl
  | _ :: ks, i + 1, h => by
    have := kc_hi (ks := ks) (i := i) (by simpa using h)
    rw [show (i + 1) * 2 + 1 = i * 2 + 1 + 1 + 1 by omega]
    simpa [kc] using this
theorem kc_set : ∀ {ks : List Int} {i : Nat} {K : Int}, ((kc ks).set (i * 2) (.int .u64 (loK K : Int))).set (i * 2 + 1) (.int .i64 (hiK K)) = kc (ks.set i K)
  | [], _, _ => by simp [kc]
  | _ :: _, 0, _ => by simp [kc]
  | _ :: ks, i + 1, K => by
    have := kc_set (ks := ks) (i := i) (K := K)
    rw [show (i + 1) * 2 = i * 2 + 1 + 1 by omega]
    simpa [kc] using this
theorem kc_one (ks : List Int) : ∀ v ∈ kc ks, v.oneCell' = true := by
  induction ks with
  | nil => intro v hv; cases hv
  | cons K ks ih =>
    intro v hv
    simp only [kc, List.mem_cons] at hv
    rcases hv with rfl | rfl | hv
    · rfl
    · rfl
    · exact ih v hv
theorem loK_zero : loK 0 = 0 := rfl
theorem hiK_zero : hiK 0 = 0 := rfl
/-- A bin is asked for: the top may rise. -/
def Bn.raise (B : Bn) (bin : Int) : Bn :=
  let t := if B.any then B.top else bin
  if t < bin then { B with any := true, top := bin, ks := (List.range 8).map fun (i : Nat) => if bin - t ≤ (i : Int) ∧ i < B.fold then B.ks.getD (i - (bin - t).toNat) 0 else 0 }
  else { B with any := true, top := t }
theorem put_part {a b c d : Value} {ks : List Int} {i : Nat} {K : Int} : putAt (a :: b :: c :: d :: kc ks) (0 + 4 + i * 2) [.int .u64 (loK K : Int), .int .i64 (hiK K)] = a :: b :: c :: d :: kc (ks.set i K) := by
  simp only [putAt]
  rw [show 0 + 4 + i * 2 = i * 2 + 1 + 1 + 1 + 1 by omega, show i * 2 + 1 + 1 + 1 + 1 + 1 = (i * 2 + 1) + 1 + 1 + 1 + 1 by omega]
  simp only [List.set_cons_succ]
  rw [kc_set]
theorem put_all {cs vs : List Value} (h : vs.length = cs.length) : putAt cs 0 vs = vs := by
  rw [putAt_eq _ _ _ (by omega)]; simp [h]
theorem kc_take {ks : List Int} {i : Nat} (h : i < ks.length) : ((kc ks).drop (0 + i * 2)).take 2 = [.int .u64 (loK (ks.getD i 0) : Int), .int .i64 (hiK (ks.getD i 0))] := by
  have h1 := kc_lo h
  have h2 := kc_hi h
  have hl := kc_length ks
  rw [Nat.zero_add, List.drop_eq_getElem_cons (by omega), List.take_succ_cons, List.drop_eq_getElem_cons (by omega), List.take_succ_cons, List.take_zero]
  rw [List.getElem?_eq_getElem (by omega)] at h1 h2
  simp only [Option.some.injEq] at h1 h2
  rw [h1, h2]
/-- The parts moved down by so many. -/
def shiftK (ks : List Int) (up : Int) (fold : Nat) (i : Nat) : Int := if up ≤ (i : Int) ∧ i < fold then ks.getD (i - up.toNat) 0 else 0
def partK (ks : List Int) (up : Int) (fold i : Nat) : List Int := (List.range i).map (shiftK ks up fold) ++ ks.drop i
theorem partK_zero {ks : List Int} {up : Int} {fold : Nat} : partK ks up fold 0 = ks := by simp [partK]
theorem partK_len {ks : List Int} {up : Int} {fold i : Nat} (h : i ≤ ks.length) : (partK ks up fold i).length = ks.length := by simp [partK]; omega
theorem partK_set {ks : List Int} {up : Int} {fold i : Nat} (h : i < ks.length) {K : Int} (hK : K = shiftK ks up fold i) : (partK ks up fold i).set i K = partK ks up fold (i + 1) := by
  subst hK
  unfold partK
  rw [List.set_append_right _ _ (by simp), List.length_map, List.length_range, Nat.sub_self, List.drop_eq_getElem_cons h, List.set_cons_zero, List.range_succ, List.map_append, List.append_assoc]
  rfl
theorem partK_all {ks : List Int} {up : Int} {fold : Nat} (h : ks.length = 8) : partK ks up fold 8 = (List.range 8).map (shiftK ks up fold) := by
  simp [partK, h]
theorem put_zero {a b c d : Value} {ks : List Int} {i : Nat} : putAt (a :: b :: c :: d :: kc ks) (0 + 4 + i * 2) [.int .u64 0, .int .i64 0] = a :: b :: c :: d :: kc (ks.set i 0) := put_part (K := 0)
theorem raise_first {fold count : Nat} {top bin : Int} {ks : List Int} : (Bn.mk fold count false top ks).raise bin = ⟨fold, count, true, bin, ks⟩ := by simp [Bn.raise]
theorem raise_up {fold count : Nat} {top bin : Int} {ks : List Int} (h : top < bin) : (Bn.mk fold count true top ks).raise bin = ⟨fold, count, true, bin, (List.range 8).map (shiftK ks (bin - top) fold)⟩ := by
  simp only [Bn.raise, if_true, if_pos h]; rfl
theorem raise_same {fold count : Nat} {top bin : Int} {ks : List Int} (h : ¬ top < bin) : (Bn.mk fold count true top ks).raise bin = ⟨fold, count, true, top, ks⟩ := by
  simp [Bn.raise, h]
/-- A slice is put into a bin. -/
def Bn.put (B : Bn) (neg : Bool) (bin : Int) (s : Nat) : Bn :=
  if s = 0 then B
  else if (B.raise bin).top - bin < (B.raise bin).fold then
    { B.raise bin with ks := (B.raise bin).ks.set ((B.raise bin).top - bin).toNat ((B.raise bin).ks.getD ((B.raise bin).top - bin).toNat 0 + (if neg then -(s : Int) else s)) }
  else B.raise bin
theorem raise_cases (B : Bn) (bin : Int) : (∃ ks', (∀ K ∈ ks', K = 0 ∨ ∃ i, K = B.ks.getD i 0) ∧ ks'.length = 8 ∧ B.raise bin = ⟨B.fold, B.count, true, bin, ks'⟩) ∨ ∃ t, bin ≤ t ∧ (t = bin ∨ t = B.top) ∧ B.raise bin = ⟨B.fold, B.count, true, t, B.ks⟩ := by
  obtain ⟨fold, count, any, top, ks⟩ := B
  cases any with
  | false => exact .inr ⟨bin, Int.le_refl _, .inl rfl, raise_first⟩
  | true =>
    by_cases h : top < bin
    · refine .inl ⟨_, ?_, by simp, raise_up h⟩
      intro K hK
      obtain ⟨i, _, rfl⟩ := List.mem_map.1 hK
      unfold shiftK
      split
      · exact .inr ⟨_, rfl⟩
      · exact .inl rfl
    · exact .inr ⟨top, by omega, .inr rfl, raise_same h⟩
theorem raise_len {B : Bn} {bin : Int} (h : B.ks.length = 8) : (B.raise bin).ks.length = 8 := by
  rcases raise_cases B bin with ⟨ks', _, h2, e⟩ | ⟨t, _, _, e⟩
  · rw [e]; exact h2
  · rw [e]; exact h
theorem raise_fold {B : Bn} {bin : Int} : (B.raise bin).fold = B.fold := by
  rcases raise_cases B bin with ⟨ks', _, h2, e⟩ | ⟨t, _, _, e⟩ <;> rw [e]
theorem raise_count {B : Bn} {bin : Int} : (B.raise bin).count = B.count := by
  rcases raise_cases B bin with ⟨ks', _, h2, e⟩ | ⟨t, _, _, e⟩ <;> rw [e]
theorem raise_top {B : Bn} {bin : Int} : bin ≤ (B.raise bin).top ∧ ((B.raise bin).top = bin ∨ (B.raise bin).top = B.top) := by
  rcases raise_cases B bin with ⟨ks', _, h2, e⟩ | ⟨t, h1, h2, e⟩
  · rw [e]; simp
  · rw [e]; exact ⟨h1, h2⟩
/-- Every part is bounded. -/
def Bn.le (B : Bn) (q : Int) : Prop := ∀ K ∈ B.ks, -q ≤ K ∧ K ≤ q
theorem Bn.le.get {B : Bn} {q : Int} (h : B.le q) (hq : 0 ≤ q) (i : Nat) : -q ≤ B.ks.getD i 0 ∧ B.ks.getD i 0 ≤ q := by
  rw [List.getD_eq_getElem?_getD]
  cases e : B.ks[i]? with
  | none => simp only [Option.getD_none]; omega
  | some K => exact h K (List.mem_of_getElem? e)
theorem Bn.le.raise {B : Bn} {q bin : Int} (h : B.le q) (hq : 0 ≤ q) : (B.raise bin).le q := by
  rcases raise_cases B bin with ⟨ks', h1, h2, e⟩ | ⟨t, _, _, e⟩
  · rw [e]; intro K hK
    rcases h1 K hK with rfl | ⟨i, rfl⟩
    · omega
    · exact h.get hq i
  · rw [e]; exact h
theorem Bn.le.put {B : Bn} {q bin : Int} {neg : Bool} {s : Nat} (h : B.le q) (hq : 0 ≤ q) (hs : s < 4294967296) : (B.put neg bin s).le (q + 4294967296) := by
  unfold Bn.put
  have hr := h.raise (bin := bin) hq
  split
  · intro K hK; have := h K hK; omega
  split
  · intro K hK
    have hg := hr.get hq ((B.raise bin).top - bin).toNat
    rcases List.mem_or_eq_of_mem_set hK with h1 | h1
    · have := hr K h1; omega
    · subst h1; split <;> omega
  · intro K hK; have := hr K hK; omega
theorem bn_lo {B : Bn} {i : Nat} (h : i < B.ks.length) : (bnC B)[0 + 4 + i * 2]? = some (.int .u64 (loK (B.ks.getD i 0) : Int)) := by
  rw [show 0 + 4 + i * 2 = i * 2 + 1 + 1 + 1 + 1 by omega]; exact kc_lo h
theorem bn_hi {B : Bn} {i : Nat} (h : i < B.ks.length) : (bnC B)[0 + 4 + i * 2 + 1]? = some (.int .i64 (hiK (B.ks.getD i 0))) := by
  rw [show 0 + 4 + i * 2 + 1 = (i * 2 + 1) + 1 + 1 + 1 + 1 by omega]; exact kc_hi h
theorem bn_set {B : Bn} {i : Nat} {K : Int} : ((bnC B).set (0 + 4 + i * 2) (.int .u64 (loK K : Int))).set (0 + 4 + i * 2 + 1) (.int .i64 (hiK K)) = bnC { B with ks := B.ks.set i K } := by
  have := @put_part (.int .i64 (B.fold : Int)) (.int .i64 (B.count : Int)) (.bool B.any) (.int .i64 B.top) B.ks i K
  exact this
theorem WPL.shrTo {a r : Int} {s p : Nat} {sk : IntKind} (hx : ev σ x = .int .i64 a) (hy : ev σ y = .int sk (s : Int)) (hs : s ≤ 64) (hp : 2 ^ s = p) (hr : a / (p : Int) = r) (hd : Nat.blt d n = true) (h : WPL P n ops rest k (upd σ d (.int .i64 r)) ds w) :
    WPL P n ops (⟨some d, .binOp .shr t x y u, ty, pos, af, none⟩ :: rest) k σ ds w := by subst hr; exact WPL.shrI hx hy hs hp hd h
theorem put_T {B : Bn} {neg : Bool} {bin : Int} {s : Nat} (h0 : s ≠ 0) (h1 : (B.raise bin).top - bin < (B.raise bin).fold) {O : Int} (hO : (if neg then -(s : Int) else s) = O) :
    B.put neg bin s = { B.raise bin with ks := (B.raise bin).ks.set ((B.raise bin).top - bin).toNat ((B.raise bin).ks.getD ((B.raise bin).top - bin).toNat 0 + O) } := by
  unfold Bn.put; rw [if_neg h0, if_pos h1, hO]
theorem put_F {B : Bn} {neg : Bool} {bin : Int} {s : Nat} (h0 : s ≠ 0) (h1 : ¬ (B.raise bin).top - bin < (B.raise bin).fold) : B.put neg bin s = B.raise bin := by
  unfold Bn.put; rw [if_neg h0, if_neg h1]
theorem put_0 {B : Bn} {neg : Bool} {bin : Int} {s : Nat} (h0 : s = 0) : B.put neg bin s = B := by
  unfold Bn.put; rw [if_pos h0]
theorem FrX.less {M M' : List Nat} {w w' : World} (h : FrX M w w') (hs : ∀ x ∈ M, x ∉ M' → w'.heap[x]? = w.heap[x]?) : FrX M' w w' :=
  ⟨h.os, h.tape, h.output, h.size, fun k hk hm => by
    by_cases hx : k ∈ M
    · exact hs k hx hm
    · exact h.block k hk hx⟩
/-- In good form, with a bound for the parts and for the top. -/
structure Bn.Ok (B : Bn) (q t : Int) : Prop where
  len : B.ks.length = 8
  fold : B.fold ≤ 8
  le : B.le q
  top : -t ≤ B.top ∧ B.top ≤ t
theorem Bn.Ok.put {B : Bn} {q t bin : Int} {neg : Bool} {s : Nat} (h : B.Ok q t) (hq : 0 ≤ q) (hb : -t ≤ bin ∧ bin ≤ t) (hs : s < 4294967296) : (B.put neg bin s).Ok (q + 4294967296) t := by
  have h1 := raise_len (bin := bin) h.len
  have h2 := @raise_fold B bin
  have h3 := @raise_top B bin
  have h4 := h.top
  have h5 := h.fold
  refine ⟨?_, ?_, h.le.put hq hs, ?_⟩
  · unfold Bn.put; split
    · exact h.len
    split
    · simp [h1]
    · exact h1
  · unfold Bn.put; split
    · exact h5
    split
    · show (B.raise bin).fold ≤ 8; omega
    · omega
  · unfold Bn.put; split
    · exact h4
    split
    · show -t ≤ (B.raise bin).top ∧ (B.raise bin).top ≤ t; omega
    · omega
/-- The first bin of a number, and how far its digits are shifted there. -/
def ptA (p : Pt) : Nat := (p.e + 1088).toNat
def ptBin (p : Pt) : Int := (ptA p / 32 : Nat) - 34
def ptHigh (p : Pt) : Nat := p.f / 2 ^ (64 - ptA p % 32)
def ptLow (p : Pt) : Nat := p.f * 2 ^ (ptA p % 32) % 18446744073709551616
def Bn.addPt (B : Bn) (p : Pt) : Bn :=
  ((B.put p.neg (ptBin p + 2) (ptHigh p % 4294967296)).put p.neg (ptBin p + 1) (ptLow p / 4294967296 % 4294967296)).put p.neg (ptBin p) (ptLow p % 4294967296)
/-- A number is added: what is answered, and the state then. -/
def Bn.addE (B : Bn) (x : Nat) : Int := if 1099511627776 ≤ B.count then 2 else if (split x).cls = 3 ∨ (split x).cls = 4 then 30 else 0
def Bn.addF (B : Bn) (x : Nat) : Bn := if 1099511627776 ≤ B.count then B else if (split x).cls = 3 ∨ (split x).cls = 4 then B else Bn.addPt { B with count := B.count + 1 } (split x)
theorem split_ok {x : Nat} (h : x < 18446744073709551616) : -1074 ≤ (split x).e ∧ (split x).e ≤ 1000 ∧ (split x).f < 18446744073709551616 := by
  unfold split
  have h1 : x / 4503599627370496 % 2048 < 2048 := Nat.mod_lt _ (by decide)
  have h2 : x % 4503599627370496 < 4503599627370496 := Nat.mod_lt _ (by decide)
  split
  · split <;> simp
  split
  · simp only; omega
  split
  · simp only; omega
  · simp
/-- The parts of another are added from a place on. -/
def mergeK (ks : List Int) (at' : Nat) (os : List Int) : Nat → List Int
  | 0 => ks
  | i + 1 => (mergeK ks at' os i).set (at' + i) ((mergeK ks at' os i).getD (at' + i) 0 + os.getD i 0)
theorem mergeK_len {ks : List Int} {at' : Nat} {os : List Int} : ∀ i, (mergeK ks at' os i).length = ks.length
  | 0 => rfl
  | i + 1 => by simp [mergeK, mergeK_len i]
theorem mergeK_get {ks : List Int} {at' : Nat} {os : List Int} : ∀ {i j : Nat}, at' + i ≤ j → (mergeK ks at' os i).getD j 0 = ks.getD j 0
  | 0, _, _ => rfl
  | i + 1, j, h => by
    rw [mergeK, List.getD_eq_getElem?_getD, List.getElem?_set_ne (by omega), ← List.getD_eq_getElem?_getD]
    exact mergeK_get (by omega)
/-- One is merged into another of the same fold. -/
def Bn.mergeF (B O : Bn) : Bn :=
  if O.any then
    let B2 := Bn.raise { B with count := B.count + O.count } O.top
    { B2 with ks := mergeK B2.ks (B2.top - O.top).toNat O.ks (B.fold - (B2.top - O.top).toNat) }
  else { B with count := B.count + O.count }
end Go.Sw
