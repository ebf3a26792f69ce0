/- A part of the proof that BinsAlike answers true: steps of the walk, or plain laws that it needs. No conditions of its own. -/
import Derived.Test.YtdaphmoojpbddaaDoorSM8
import Derived.Test.YtdaphmoojpbddaaDoorSK2
set_option linter.all false
/-! The references' loops over words, plain maths; rows and blocks picked out. -/
namespace Go.Sw
set_option autoImplicit false
set_option linter.all false
theorem val_one (x : Nat) : val [x] = x := by simp [val]
theorem val_snoc (o : List Nat) (x : Nat) : val (o ++ [x]) = val o + 4294967296 ^ o.length * x := by rw [val_append, val_one]
theorem plus_next {l l2 o : List Nat} {i q t : Nat} (ho : o.length = i) (hwo : Wd o) (hw : Wd l) (hw2 : Wd l2) (hq : q ≤ 1) (ht : t = l.getD i 0 + l2.getD i 0 + q)
    (h : val o + q * 4294967296 ^ i = val (l.take i) + val (l2.take i)) :
    (o ++ [t % 4294967296]).length = i + 1 ∧ Wd (o ++ [t % 4294967296]) ∧ t / 4294967296 ≤ 1 ∧ val (o ++ [t % 4294967296]) + t / 4294967296 * 4294967296 ^ (i + 1) = val (l.take (i + 1)) + val (l2.take (i + 1)) := by
  have h1 := hw.get i
  have h2 := hw2.get i
  refine ⟨by simp [ho], hwo.append (.cons (Nat.mod_lt _ (by decide)) .nil), by omega, ?_⟩
  rw [val_snoc, ho, val_take_succ, val_take_succ, pow_succ_B, ht]
  exact add_step h h1 h2 hq
theorem minus_next {l l2 o : List Nat} {i q t : Nat} (ho : o.length = i) (hwo : Wd o) (hw : Wd l) (hw2 : Wd l2) (hq : q ≤ 1) (ht : t = l.getD i 0 + 4294967296 - l2.getD i 0 - q)
    (h : val o + val (l2.take i) = val (l.take i) + q * 4294967296 ^ i) :
    (o ++ [t % 4294967296]).length = i + 1 ∧ Wd (o ++ [t % 4294967296]) ∧ 1 - t / 4294967296 ≤ 1 ∧ val (o ++ [t % 4294967296]) + val (l2.take (i + 1)) = val (l.take (i + 1)) + (1 - t / 4294967296) * 4294967296 ^ (i + 1) := by
  have h1 := hw.get i
  have h2 := hw2.get i
  refine ⟨by simp [ho], hwo.append (.cons (Nat.mod_lt _ (by decide)) .nil), by omega, ?_⟩
  rw [val_snoc, ho, val_take_succ, val_take_succ, pow_succ_B, ht]
  have := sub_step h h1 h2 hq
  have e1 : (l.getD i 0 + 4294967296 - l2.getD i 0 - q + 4294967296) % 4294967296 = (l.getD i 0 + 4294967296 - l2.getD i 0 - q) % 4294967296 := by omega
  have e2 : (if l.getD i 0 < l2.getD i 0 + q then 1 else 0) = 1 - (l.getD i 0 + 4294967296 - l2.getD i 0 - q) / 4294967296 := by split <;> omega
  rw [e1, e2] at this
  exact this
theorem minus_end {l l2 o : List Nat} {q : Nat} (ho : o.length = l.length) (hwo : Wd o) (hll : l2.length ≤ l.length) (hle : val l2 ≤ val l)
    (h : val o + val (l2.take l.length) = val (l.take l.length) + q * 4294967296 ^ l.length) : val o = val l - val l2 := by
  rw [List.take_length, List.take_of_length_le hll, ← ho] at h
  exact less_end hwo h hle
theorem plus_end {l l2 o : List Nat} {i q : Nat} (h1 : l.length ≤ i) (h2 : l2.length ≤ i) (hq : q = 0)
    (h : val o + q * 4294967296 ^ i = val (l.take i) + val (l2.take i)) : val o = val l + val l2 := by
  rw [List.take_of_length_le h1, List.take_of_length_le h2, hq] at h
  omega
theorem dig_getD {l : List Nat} (hw : Wd l) {i : Nat} (h : i < (dig (val l)).length) : l.getD i 0 = (dig (val l)).getD i 0 := by
  obtain ⟨k, hk⟩ := dig_prefix hw
  conv => lhs; rw [hk]
  simp only [List.getD_eq_getElem?_getD]
  rw [List.getElem?_append_left h]
theorem blen_half {x : Nat} (h : x ≠ 0) : blen (x / 2) + 1 = blen x := by
  by_cases h1 : x = 1
  · subst h1; decide
  · have := @blen_shr x 1 (show 2 ^ 1 ≤ x by omega)
    simpa using this
theorem tz_bit0 {n i : Nat} (h : i < tz n) : n / 2 ^ i % 2 = 0 := by
  obtain ⟨q, hq⟩ := tz_dvd n
  have e : n = 2 ^ i * (2 * (2 ^ (tz n - i - 1) * q)) := by
    have h1 : (2 : Nat) ^ tz n = 2 ^ i * (2 * 2 ^ (tz n - i - 1)) := by
      rw [← Nat.mul_assoc, ← Nat.pow_succ, ← Nat.pow_add]; congr 1; omega
    conv => lhs; rw [hq, h1]
    simp only [Nat.mul_assoc]
  rw [e, Nat.mul_div_cancel_left _ (Nat.two_pow_pos _)]; omega
theorem tz_zero : tz 0 = 0 := by rw [tz]; rfl
theorem tz_lt_len {l : List Nat} (hw : Wd l) : tz (val l) ≤ 32 * l.length := by
  by_cases h : val l = 0
  · rw [h, tz_zero]; omega
  · have h1 := tz_le_blen h
    have h2 := blen_len (val l)
    have h3 := dig_length_le hw
    omega
theorem parts_step {x N b R Q : Nat} (hb : 0 < b) : (x + 4294967296 * N) / b = 4294967296 * (N / b) + (x + 4294967296 * (N % b)) / b ∧ (x + 4294967296 * N) % b = (x + 4294967296 * (N % b)) % b := by
  have h := Nat.div_add_mod N b
  have e : x + 4294967296 * N = x + 4294967296 * (N % b) + b * (4294967296 * (N / b)) := by
    conv => lhs; rw [← h]
    rw [Nat.mul_add, Nat.mul_left_comm]; omega
  rw [e]
  constructor
  · rw [Nat.add_mul_div_left _ _ hb]; omega
  · rw [Nat.add_mul_mod_self_left]
theorem parts_lt {x N b : Nat} (hb : 0 < b) (hx : x < 4294967296) : x + 4294967296 * (N % b) < b * 4294967296 := by
  have := Nat.mod_lt N hb
  have h2 : 4294967296 * (N % b + 1) ≤ 4294967296 * b := Nat.mul_le_mul_left _ this
  rw [Nat.mul_comm b]; omega
theorem digit_end {b f r : Nat} (h1 : b * f ≤ r) (h2 : r < b * (f + 1)) : f = r / b ∧ r % b = r - b * f := by
  have hb : 0 < b := by
    rcases Nat.eq_zero_or_pos b with e | e
    · subst e; simp at h2
    · exact e
  have e : r / b = f := by
    rw [Nat.div_eq_iff hb]; rw [Nat.mul_add] at h2; rw [Nat.mul_comm f b]; omega
  refine ⟨e.symm, ?_⟩
  have := Nat.div_add_mod r b
  rw [e] at this; omega
/-- The quotient's words so far: those of i and above. -/
theorem parts_next {l q : List Nat} {m b d : Nat} (hb : 0 < b) (hw : Wd l) (hwq : Wd q) (hm : 0 < m) (hml : m ≤ l.length) (hq : q.length = l.length) (hz : ∀ k, k < m → q.getD k 0 = 0)
    (hv : val q = 4294967296 ^ m * (val (l.drop m) / b)) (hd : d = (l.getD (m - 1) 0 + 4294967296 * (val (l.drop m) % b)) / b) :
    val (q.set (m - 1) d) = 4294967296 ^ (m - 1) * (val (l.drop (m - 1)) / b) ∧ d < 4294967296 ∧ val (l.drop (m - 1)) % b = (l.getD (m - 1) 0 + 4294967296 * (val (l.drop m) % b)) % b := by
  obtain ⟨j, rfl⟩ : ∃ j, m = j + 1 := ⟨m - 1, by omega⟩
  simp only [Nat.add_sub_cancel] at *
  have e : val (l.drop j) = l.getD j 0 + 4294967296 * val (l.drop (j + 1)) := drop_getD
  have hst := @parts_step (l.getD j 0) (val (l.drop (j + 1))) b 0 0 hb
  have hlt := @parts_lt (l.getD j 0) (val (l.drop (j + 1))) b hb (hw.get j)
  have hd2 : d < 4294967296 := by rw [hd, Nat.div_lt_iff_lt_mul hb, Nat.mul_comm 4294967296 b]; exact hlt
  refine ⟨?_, hd2, by rw [e, hst.2]⟩
  rw [val_set0 (by omega) (hz j (by omega)), hv, e, hst.1, ← hd, pow_succ_B, Nat.mul_add, Nat.mul_assoc]
theorem set_zero_same {q : List Nat} {j : Nat} (h : q.getD j 0 = 0) : q.set j 0 = q := by
  apply List.ext_getElem?
  intro i
  rw [List.getElem?_set]
  by_cases e : j = i
  · subst e
    rw [if_pos rfl]
    split
    · rename_i hlt
      rw [List.getD_eq_getElem?_getD, List.getElem?_eq_getElem hlt] at h
      simp at h
      rw [List.getElem?_eq_getElem hlt, h]
    · rename_i hlt
      rw [List.getElem?_eq_none (by omega)]
  · rw [if_neg e]

theorem p32 {s : Nat} (h : s < 32) : (1 : Nat) * 2 ^ s % 4294967296 = 2 ^ s := by
  rw [Nat.one_mul, Nat.mod_eq_of_lt]
  exact Nat.pow_lt_pow_right (n := 32) (by decide) h
theorem moved_dn {l : List Nat} {N j : Nat} (hw : Wd l) (hN : val l = N) : val (l.drop (j / 32)) / 2 ^ (j % 32) = N / 2 ^ j := by
  rw [← val_shift hw, hN, Nat.div_div_eq_div_mul, ← pow_split]
theorem moved_up {l : List Nat} {N j : Nat} (hN : val l = N) : val (List.replicate (j / 32) 0 ++ l) * 2 ^ (j % 32) = N * 2 ^ j := by
  rw [val_append, val_zeros, List.length_replicate, hN, Nat.zero_add, Nat.mul_comm _ N, Nat.mul_assoc, ← pow_split]
/-! Rows and blocks picked out of a call's. -/
section
variable {tb : List Blk} {w0 w w' : World} {M : List Nat} {L L' : List Blk} {R R' : List Row}
class MemR (x : Row) (R : List Row) : Prop where
  mem : x ∈ R
instance MemR.here {x : Row} {R : List Row} : MemR x (x :: R) := ⟨List.mem_cons_self ..⟩
instance MemR.there {x y : Row} {R : List Row} [h : MemR x R] : MemR x (y :: R) := ⟨List.mem_cons_of_mem _ h.mem⟩
class SubR (R' R : List Row) : Prop where
  sub : ∀ r ∈ R', r ∈ R
instance SubR.nil {R : List Row} : SubR [] R := ⟨fun r h => by cases h⟩
instance SubR.cons {x : Row} {R' R : List Row} [h : MemR x R] [s : SubR R' R] : SubR (x :: R') R := ⟨fun r hr => by
  rcases List.mem_cons.1 hr with e | e
  · rw [e]; exact h.mem
  · exact s.sub r e⟩
theorem Own.subR (h : Own tb w0 M L R w) [s : SubR R' R] : Own tb w0 M L R' w := ⟨h.fr, h.nodup, h.own, h.cells, fun r hr => h.rows r (s.sub r hr), h.tabs⟩
theorem Own.subL (h : Own tb w0 M L R w) [s : SubS L' L] : Own tb w0 M L' R w := by
  have hk : (keys L').Sublist (keys L) := s.sub.map _
  exact ⟨h.fr, hk.nodup h.nodup, fun e he => h.own e (s.sub.subset he), fun e he => h.cells e (s.sub.subset he),
    fun r hr => (h.rows r hr).mono (fun _ _ _ hm => hk.subset hm) (fun _ _ _ => rfl), fun e he => ⟨fun hm => (h.tabs e he).1 (hk.subset hm), (h.tabs e he).2⟩⟩
theorem Own.takeV {a : Option Addr} {l : List Nat} {N : Nat} (h : Own tb w0 M L R w) (hr : Reads R a (ws .u32 l)) (hw : Wd l) (hN : val l = N) : Own tb w0 M L (⟨a, ws .u32 (dig N)⟩ :: R) w := by
  subst hN; exact h.take' hr (ws_prefix hw)
/-- A row that a call has handed back beside others. -/
theorem Own.rowF (h : Own tb w0 M L R w') {w1 : World} {r : Row} (hr : RowOk w' [] r) (hn : ∀ p, r.a = some p → r.vals ≠ [] → w1.heap.size ≤ p.block) (hl : ∀ b ∈ keys L, b < w1.heap.size) : Own tb w0 M L (r :: R) w' :=
  h.row ⟨fun p hp => ⟨(hr.1 p hp).1, fun hv hk => by have := hl _ hk; have := hn p hp hv; omega⟩, hr.2.1, hr.2.2⟩
end
end Go.Sw
