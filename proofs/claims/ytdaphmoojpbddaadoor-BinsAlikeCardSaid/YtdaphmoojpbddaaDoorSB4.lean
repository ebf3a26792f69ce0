/- A part of the proof that BinsAlike answers true: steps of the walk, or plain laws that it needs. No conditions of its own. -/
import Derived.Test.YtdaphmoojpbddaaDoorSB3
import Derived.Test.YtdaphmoojpbddaaDoorSK3
set_option linter.all false
/-! What the bins have, as a dyad. -/
namespace Go.Sw
set_option autoImplicit false
set_option linter.all false
/-- Between these places. -/
def Dy.In (lo hi : Int) (d : Dy) : Prop := d.m = 0 ∨ (lo ≤ d.e ∧ (blen d.m : Int) + d.e ≤ hi)
theorem Dy.In.mono {lo hi hi' : Int} {d : Dy} (h : d.In lo hi) (hh : hi ≤ hi') : d.In lo hi' := by
  rcases h with h | h
  · exact .inl h
  · exact .inr ⟨h.1, by omega⟩
theorem Dy.In.fm {lo hi : Int} {s : Bool} {m : Nat} {e : Int} (h1 : lo ≤ e) (h2 : (blen m : Int) + e ≤ hi) : (Dy.fm s m e).In lo hi := by
  by_cases hm : m = 0
  · left; rw [hm, Dy.fm_zero]
  · right; rw [Dy.fm_pos hm]
    have := blen_dvd (m := m)
    simp only; omega
theorem Dy.In.add {lo hi : Int} {x y : Dy} (hx : x.In lo hi) (hy : y.In lo hi) : (x.add y).In lo (hi + 1) := by
  by_cases h1 : x.m = 0
  · rw [Dy.add, if_pos h1]; exact hy.mono (by omega)
  by_cases h2 : y.m = 0
  · rw [Dy.add, if_neg h1, if_pos h2]; exact hx.mono (by omega)
  obtain ⟨a1, a2⟩ := hx.resolve_left h1
  obtain ⟨b1, b2⟩ := hy.resolve_left h2
  have c1 := @blen_shift x.m (x.e - min x.e y.e) (by omega)
  have c2 := @blen_shift y.m (y.e - min x.e y.e) (by omega)
  have hsum := blen_add (k := (hi - min x.e y.e).toNat) (a := shiftN x.m (x.e - min x.e y.e)) (b := shiftN y.m (y.e - min x.e y.e)) (by omega) (by omega)
  have p1 := blen_pos h1
  have p2 := blen_pos h2
  by_cases hs : x.s = y.s
  · rw [Dy.add_same h1 h2 hs]; exact .fm (by omega) (by omega)
  · by_cases hl : shiftN x.m (x.e - min x.e y.e) < shiftN y.m (y.e - min x.e y.e)
    · rw [Dy.add_lt h1 h2 hs hl]
      have := blen_mono (Nat.sub_le (shiftN y.m (y.e - min x.e y.e)) (shiftN x.m (x.e - min x.e y.e)))
      exact .fm (by omega) (by omega)
    · rw [Dy.add_ge h1 h2 hs hl]
      have := blen_mono (Nat.sub_le (shiftN x.m (x.e - min x.e y.e)) (shiftN y.m (y.e - min x.e y.e)))
      exact .fm (by omega) (by omega)
theorem Dy.In.B {lo hi : Int} {d : Dy} {K : Nat} (h : d.In lo hi) (hc : d.Can) (h1 : -(K : Int) ≤ lo) (h2 : hi - lo ≤ K) (h3 : hi ≤ K) : d.B K := by
  unfold Dy.B
  rcases h with h | h
  · rcases Dy.can_iff.1 hc with e | e
    · rw [e]; simp [blen_zero]
    · rw [h] at e; simp at e
  · omega
theorem Dy.In.Ge {lo hi : Int} {d : Dy} {E : Nat} (h : d.In lo hi) (hc : d.Can) (h1 : -(E : Int) ≤ lo) : d.Ge E := by
  unfold Dy.Ge
  rcases h with h | h
  · rcases Dy.can_iff.1 hc with e | e
    · rw [e]; simp
    · rw [h] at e; simp at e
  · omega
/-- A part as a dyad. -/
def Bn.partD (B : Bn) (i : Nat) : Dy := Dy.fm (decide (B.ks.getD i 0 < 0)) (B.ks.getD i 0).natAbs (32 * (B.top - i))
def Bn.keptN (B : Bn) : Nat → Dy
  | 0 => ⟨false, 0, 0⟩
  | i + 1 => (B.keptN i).add (B.partD i)
def Bn.kept (B : Bn) : Dy := B.keptN B.fold
theorem zero_can : (Dy.mk false 0 0).Can := Dy.can_iff.2 (.inl rfl)
theorem Bn.keptN_can (B : Bn) : ∀ i, (B.keptN i).Can
  | 0 => zero_can
  | i + 1 => Dy.add_can (B.keptN_can i) (Dy.fm_can ..)
theorem Bn.partD_in {B : Bn} {q : Int} (hq : 0 ≤ q ∧ q ≤ 10000000000000000000000) (hk : B.Ok q 100) {i : Nat} (hi : i < 8) : (B.partD i).In (-3456) 3300 := by
  have h1 := hk.le.get hq.1 i
  have h2 := hk.top
  have h3 : blen (B.ks.getD i 0).natAbs ≤ 74 := blen_le.2 (by omega)
  exact .fm (by omega) (by omega)
theorem Bn.keptN_in {B : Bn} {q : Int} (hq : 0 ≤ q ∧ q ≤ 10000000000000000000000) (hk : B.Ok q 100) : ∀ {i : Nat}, i ≤ 8 → (B.keptN i).In (-3456) (3300 + i)
  | 0, _ => .inl rfl
  | i + 1, h => by
    have h1 := Bn.keptN_in hq hk (i := i) (by omega)
    have h2 := (Bn.partD_in hq hk (i := i) (by omega)).mono (hi' := 3300 + i) (by omega)
    have := h1.add h2
    rw [show 3300 + ((i + 1 : Nat) : Int) = 3300 + (i : Int) + 1 by omega]
    exact this
theorem Bn.keptN_B {B : Bn} {q : Int} (hq : 0 ≤ q ∧ q ≤ 10000000000000000000000) (hk : B.Ok q 100) {i : Nat} (hi : i ≤ 8) : (B.keptN i).B 7000 :=
  (Bn.keptN_in hq hk hi).B (B.keptN_can i) (by omega) (by omega) (by omega)
theorem Bn.partD_B {B : Bn} {q : Int} (hq : 0 ≤ q ∧ q ≤ 10000000000000000000000) (hk : B.Ok q 100) {i : Nat} (hi : i < 8) : (B.partD i).B 7000 :=
  (Bn.partD_in hq hk hi).B (Dy.fm_can ..) (by omega) (by omega) (by omega)
/-- A number's four words. -/
def kw (A : Int) : List Nat := [loK A % 4294967296, loK A / 4294967296 % 4294967296, (hiK A % 4294967296).toNat, (hiK A / 4294967296 % 4294967296).toNat]
theorem kw_wd (A : Int) : Wd (kw A) := .cons (Nat.mod_lt _ (by decide)) (.cons (Nat.mod_lt _ (by decide)) (.cons (by omega) (.cons (by omega) .nil)))
theorem kw_val {A : Int} (h0 : 0 ≤ A) (h1 : A ≤ 10000000000000000000000) : val (kw A) = A.natAbs := by
  simp only [kw, val_cons, val_nil]
  unfold loK hiK; omega
theorem lo_neg {K : Int} (h : 0 ≤ loK K) : (0 + 18446744073709551616 - loK K - 0) % 18446744073709551616 = loK (-K) := by unfold loK; omega
theorem hi_neg {K : Int} : -hiK K - ((if 0 < loK K + 0 then 1 else 0 : Nat) : Int) = hiK (-K) := by unfold loK hiK; split <;> omega
theorem bn_take {B : Bn} {i : Nat} (h : i < B.ks.length) : ((bnC B).drop (0 + 4 + i * 2)).take 2 = [.int .u64 (loK (B.ks.getD i 0) : Int), .int .i64 (hiK (B.ks.getD i 0))] := by
  have := kc_take h
  rw [Nat.zero_add] at this
  rw [← this, show 0 + 4 + i * 2 = i * 2 + 1 + 1 + 1 + 1 by omega]
  rfl
theorem hiK_lt {K : Int} : hiK K < 0 ↔ K < 0 := by unfold hiK; omega
/-- What a call might have turned, and has not. -/
theorem Own.still {tb : List Blk} {w0 w : World} {L : List Blk} {R : List Row} {b : Nat} {cs : List Value} {T : TypeId} (h : Own tb w0 [b] (L ++ [⟨b, cs, T⟩]) R w) (hb : w0.heap[b]? = some (.cells cs.toArray T (0, 0))) : Own tb w0 [] L R w := by
  have hk : keys (L ++ [⟨b, cs, T⟩]) = keys L ++ [b] := by simp [keys]
  have hnd := h.nodup
  rw [hk] at hnd
  have hnb : b ∉ keys L := fun hm => (List.nodup_append.1 hnd).2.2 b hm b (by simp) rfl
  have hcb := h.cells ⟨b, cs, T⟩ (by simp)
  refine ⟨h.fr.less (fun x hx _ => ?_), (List.nodup_append.1 hnd).1, fun e he => ?_, fun e he => h.cells e (List.mem_append_left _ he), ?_, ?_⟩
  · obtain rfl := List.mem_singleton.1 hx
    exact hcb.trans hb.symm
  · rcases h.own e (List.mem_append_left _ he) with ho | ho
    · exfalso
      have := List.mem_singleton.1 ho
      exact hnb (this ▸ List.mem_map_of_mem he)
    · exact .inr ho
  · exact fun r hr => (h.rows r hr).mono (fun _ _ _ hm => by rw [hk]; exact List.mem_append_left _ hm) (fun _ _ _ => rfl)
  · exact fun e he => ⟨fun hm => (h.tabs e he).1 (by rw [hk]; exact List.mem_append_left _ hm), (h.tabs e he).2⟩
theorem Dy.mul_pow {s : Bool} {c : Nat} {e E : Int} : Dy.mul (Dy.fm s c e) ⟨false, 1, E⟩ = Dy.fm s c (e + E) := by
  by_cases h : c = 0
  · subst h; rw [Dy.fm_zero, Dy.fm_zero, Dy.mul]; simp [Dy.fm]
  · rw [Dy.fm_pos h, Dy.fm_pos h, Dy.mul]
    simp only [Nat.mul_one, Bool.bne_false]
    have ho := tz_odd h
    have h0 : c / 2 ^ tz c ≠ 0 := by intro e; rw [e] at ho; simp at ho
    have ht : tz (c / 2 ^ tz c) = 0 := by
      have := tz_unique (k := 0) ho; simpa using this
    rw [Dy.fm_pos h0, ht]
    simp; omega
theorem dig_one : dig 1 = [1] := by rw [dig_pos (by decide)]; simp [dig_zero]
theorem blen_one : blen 1 = 1 := blen_unique (by decide) (.inr (by decide))
end Go.Sw
