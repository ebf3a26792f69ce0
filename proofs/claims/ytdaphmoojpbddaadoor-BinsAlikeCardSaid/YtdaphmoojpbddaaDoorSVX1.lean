/- A part of the proof that BinsAlike answers true: steps of the walk, or plain laws that it needs. No conditions of its own. -/
import Derived.Test.YtdaphmoojpbddaaDoorSVW10
import Derived.Test.YtdaphmoojpbddaaDoorSVR4
import Derived.Test.YtdaphmoojpbddaaDoorSB11
import Derived.Test.YtdaphmoojpbddaaDoorSB9
import Derived.Test.YtdaphmoojpbddaaDoorSB10
set_option linter.all false
namespace Go.Sw
set_option autoImplicit false
set_option linter.all false
open Go.Proofs Go.RowKit
instance T22 : Ty Tryd.prog 22 (.slice 26) [.slice none 0 0] 24 := Ty.mk' Tryd.underlying22 (by kernel_rfl)
instance T26 : Ty Tryd.prog 26 (.float .f64) [.float .f64 0] 8 := Ty.mk' Tryd.underlying26 (by kernel_rfl)
theorem law_told {w0 : World} (ht : TabOk tabs w0) (b : Nat) (htb : b ≠ 1) (B : Bn) (hb : w0.heap[b]? = some (.cells (bnC B).toArray 57 (0, 0))) (hk : B.Ok 4722366482869645213696 100) (hcnt : B.count ≤ 1099511627776) : Spec Tryd.prog 8 [.pointer (some ⟨b, 0, none⟩)] w0 (fun v w' => FrX [] w0 w' ∧ ∃ a c, v = .tuple #[dyV B.kept a c, .float .f64 (bnd B), .int .i64 (B.count : Int)] ∧ (dig B.kept.m).length ≤ c ∧ Res w0 w' a c 1 (ws .u32 (dig B.kept.m)) 60) := by
  have hO : Own tabs w0 [b] [⟨b, bnC B, 57⟩] [] w0 := Own.startM (L := [⟨b, bnC B, 57⟩]) ht (by intro e he; obtain rfl := List.mem_singleton.1 he; exact hb) (by simp [keys]) (by intro e he; obtain rfl := List.mem_singleton.1 he; simpa [keys] using fun h => htb h.symm) (by intro r hr; cases hr)
  refine Spec.enter (n := 11) (rs := [.cell 2 34, .tmp 3, .tmp 4]) Tryd.func8 rfl rfl rfl rfl ?_
  refine WP.rs ?_
  refine WPL.al hO rfl (fun b1 w hO => ?_)
  refine WPL.as (v := .float .f64 0) rfl rfl ?_
  refine WPL.as (v := .int .i64 0) rfl rfl ?_
  refine WPL.nil ?_
  refine WP.rs ?_
  refine WPL.mv (v := .pointer _) rfl rfl ?_
  refine WPL.call rfl (bins_Kept hO.tab b htb B (hO.cells ⟨b, bnC B, 57⟩ (by simp)) 4722366482869645213696 (by decide) hk) Tryd.func18 rfl rfl rfl ?_
  rintro _ w ⟨hf6, a6, c6, rfl, hc6, hr6⟩
  obtain ⟨G6, hG6, hO⟩ := hO.resL hf6 hr6
  unfold dyV
  refine WPL.mv (v := .pointer _) rfl rfl ?_
  refine WPL.call rfl (bins_Bound hO.tab b htb B (hO.cells ⟨b, bnC B, 57⟩ (by simp)) 4722366482869645213696 (by decide) hk hcnt) Tryd.func20 rfl rfl rfl ?_
  rintro _ w ⟨hf8, rfl⟩
  have hO := hO.call hf8
  refine WPL.mv (v := .pointer _) rfl rfl ?_
  refine WPL.call rfl (bins_Count b B (hO.cells ⟨b, bnC B, 57⟩ (by simp))) Tryd.func21 rfl rfl rfl ?_
  rintro _ _ ⟨rfl, rfl⟩
  refine WPL.stLA (T := T34) rfl rfl hO inferInstance inferInstance (by simp [Value.oneCell']) rfl rfl (fun w hO => ?_)
  refine WPL.as (v := .float .f64 _) rfl rfl ?_
  refine WPL.as (v := .int .i64 _) rfl rfl ?_
  refine WPL.nil ?_
  refine WP.ret ?_
  refine ⟨rfl, ?_⟩
  refine RO.cell (T := T34) [.bool _, .slice _ _ _, .int .i64 _] rfl hO inferInstance rfl agg34 rfl ?_
  refine RO.tmp (v := .float .f64 _) rfl ?_
  refine RO.tmp (v := .int .i64 _) rfl ?_
  refine RO.nil ?_
  simp only [putAt, List.set] at hO
  have hO : Own tabs w0 [b] ((G6 ++ [⟨b1, [.bool B.kept.s, .slice a6 (dig B.kept.m).length c6, .int .i64 B.kept.e], 34⟩]) ++ [⟨b, bnC B, 57⟩]) [] w := hO.perm (by classical exact List.perm_iff_count.2 (fun z => by simp only [List.count_append, List.count_cons, List.count_nil]; omega))
  have hO2 := hO.still hb
  exact ⟨hO2.fr, a6, c6, rfl, hc6, hO2.giveG hG6⟩

theorem notab {w0 w : World} {M : List Nat} {L : List Blk} {R : List Row} (h : Own tabs w0 M L R w) {b : Nat} (hb : b ∈ keys L) : b ≠ 1 := by
  rintro rfl
  exact (h.tabs ⟨1, ws .u8 deb, 0⟩ (List.mem_cons_self ..)).1 hb
/-- Numbers as cells. -/
def fc (l : List Nat) : List Value := l.map (fun x => .float .f64 x)
theorem fc_length (l : List Nat) : (fc l).length = l.length := by simp [fc]
theorem fc_get {l : List Nat} {i x : Nat} (h : l[i]? = some x) : (fc l)[i]? = some (.float .f64 x) := by simp [fc, h]
theorem fc_get1 {l : List Nat} {i x : Nat} (h : l[i]? = some x) : (fc l)[i * 1]? = some (.float .f64 x) := by rw [Nat.mul_one]; exact fc_get h
theorem fc_append (l m : List Nat) : fc (l ++ m) = fc l ++ fc m := by simp [fc]
theorem fc_one (l : List Nat) : ∀ v ∈ fc l, v.oneCell' = true := by
  intro v hv
  obtain ⟨x, _, rfl⟩ := List.mem_map.1 hv
  rfl

theorem law_filled {w0 : World} (fold : Nat) (hf : 1 ≤ fold ∧ fold ≤ 8) (xs : List Nat) (hx : W64 xs) (hn : xs.length ≤ 4000) (a : Option Addr) (c : Nat) (i s m : Nat) (hs : 1 ≤ s) (hm : xs.length ≤ i + s * m) (hi : i ≤ 64) (hs2 : s ≤ 64) (hm2 : m ≤ 100000) {nl : Nat} (hnl : nl = xs.length) (hr : RowOk w0 [] ⟨a, fc xs⟩) : Spec Tryd.prog 6 [.int .i64 (fold : Int), .slice a nl c, .int .i64 (i : Int), .int .i64 (s : Int)] w0 (fun v w' => FrX [] w0 w' ∧ ∃ b B, v = .pointer (some ⟨b, 0, none⟩) ∧ Cn B fold (evs xs s i m) ∧ FreshB w0 w' b (bnC B) 57) := by
  subst hnl
  have hO : Own [] w0 [] [] [⟨a, fc xs⟩] w0 := Own.start (by intro e he; cases he) (by intro r hr'; obtain rfl := List.mem_singleton.1 hr'; exact hr)
  refine Spec.enter (n := 32) (rs := [.tmp 8]) Tryd.func6 rfl rfl rfl rfl ?_
  refine WP.rs ?_
  refine WPL.as (v := .pointer none) rfl rfl ?_
  refine WPL.nil ?_
  refine WP.rs ?_
  refine WPL.mv (v := .int .i64 _) rfl rfl ?_
  refine WPL.call rfl (bins_New (fold : Int)) Tryd.func5 rfl rfl rfl ?_
  rintro _ w (⟨hbad, _⟩ | ⟨_, bb, rfl, hf12, hfr⟩)
  · exact absurd hbad (by omega)
  rw [Int.toNat_natCast] at hfr
  have hO := hO.takeB hf12 hfr
  refine WPL.as (v := .pointer _) rfl rfl ?_
  refine WPL.nil ?_
  refine WP.seq ?_
  refine WP.rs ?_
  refine WPL.mv (v := .int .i64 _) rfl rfl ?_
  refine WPL.as (v := .int .i64 _) rfl rfl ?_
  refine WPL.nil ?_
  refine WP.block ?_
  have hB0 := Cn.new hf
  refine WP.loop (fun mm σ ds w' => ∃ k B, mm + k = m ∧ Cn B fold (evs xs s i k) ∧ Has σ [(1, .slice a xs.length c), (3, .int .i64 (s : Int)), (9, .pointer (some ⟨bb, 0, none⟩)), (10, .int .i64 ((i + s * k : Nat) : Int))] ∧ ds = [] ∧ Own [] w0 [] [⟨bb, bnC B, 57⟩] [⟨a, fc xs⟩] w') m ?_ ?_
  · exact ⟨0, _, rfl, hB0, ⟨rfl, rfl, rfl, rfl, trivial⟩, rfl, hO⟩
  · clear hO
    rintro mm σ ds w ⟨k, B, hmk, hB, hH, rfl, hO⟩
    refine WP.reset hH ?_
    have hsk : s * (k + 1) = s * k + s := by rw [Nat.mul_add, Nat.mul_one]
    obtain ⟨sk, hskE⟩ : ∃ sk, sk = s * k := ⟨_, rfl⟩
    refine WP.seq ?_
    refine WP.rs ?_
    refine WPL.mv (v := .int .i64 _) rfl rfl ?_
    refine WPL.mv (v := .slice _ _ _) rfl rfl ?_
    refine WPL.len rfl rfl ?_
    refine WPL.lt rfl rfl rfl ?_
    refine WPL.mv (v := .bool _) rfl rfl ?_
    refine WPL.split (s := 18) rfl (fun h1 => ?_) (fun h1 => ?_)
    · have ph1 := of_decide_eq_true h1
      refine WPL.guardT rfl rfl h1 ?_
      refine WPL.mv (v := .pointer _) rfl rfl ?_
      refine WPL.guardT rfl rfl h1 ?_
      refine WPL.neP rfl rfl rfl ?_
      refine WPL.pkT (v := .bool _) rfl h1 rfl rfl ?_
      refine WPL.nil ?_
      refine WP.condB rfl (fun h2 => ?_) (fun h2 => ?_)
      · refine WP.skip ?_
        refine WP.seq ?_
        refine WP.block ?_
        refine WP.region ?_
        have hlt : i + s * k < xs.length := by omega
        have hk : k < m := Nat.lt_of_not_le (fun hle => by have := Nat.mul_le_mul_left s hle; omega)
        obtain ⟨x0, hx0⟩ : ∃ x0, xs[i + s * k]? = some x0 := ⟨xs[i + s * k]'hlt, List.getElem?_eq_getElem _⟩
        have hx1 := hx x0 (List.mem_of_getElem? hx0)
        refine WPL.mv (v := .pointer _) rfl rfl ?_
        refine WPL.mv (v := .slice _ _ _) rfl rfl ?_
        refine WPL.mv (v := .int .i64 _) rfl rfl ?_
        refine WPL.ixR (a := a) (j := i + s * k) (vals := fc xs) rfl hO inferInstance rfl rfl (by omega) (by rw [fc_length]; show (i + s * k) * 1 < _; omega) rfl ?_
        refine WPL.ldR (a := a) (j := (i + s * k) * 1) (vals := fc xs) rfl hO inferInstance (fc_get1 hx0) rfl rfl ?_
        refine WPL.call rfl (bins_Add bb B (hO.cells ⟨bb, bnC B, 57⟩ (by simp)) 4722366482869645213696 (by decide) (Bn.Ok.mono hB.Ok (by decide)) x0 hx1) Tryd.func17 rfl rfl rfl ?_
        rintro _ w ⟨rfl, hf30, hb30⟩
        have hO := hO.turn1 (L' := [⟨bb, bnC (B.addF x0), 57⟩]) (c0 := bnC B) inferInstance inferInstance hf30 hb30
        have hB2 := hB.add (fun z hz => hx z (evs_mem hz)) hx1 (by have := evs_len xs s i k; omega)
        refine WPL.nil ?_
        refine WP.region ?_
        refine WPL.mv (v := .int .i64 _) rfl rfl ?_
        refine WPL.mv (v := .int .i64 _) rfl rfl ?_
        refine WPL.addI rfl rfl (by omega) rfl ?_
        refine WPL.as (v := .int .i64 _) rfl rfl ?_
        refine WPL.nil ?_
        have e9 : evs xs s i (k + 1) = evs xs s i k ++ [x0] := by rw [evs_succ, hx0]; rfl
        rw [← e9] at hB2
        exact ⟨mm - 1, by omega, k + 1, B.addF x0, by omega, hB2, ⟨rfl, rfl, rfl, by show Value.int .i64 _ = _; congr 1; omega, trivial⟩, rfl, hO⟩
      · exact absurd h2 (by simp)
    · have ph1 := of_decide_eq_false h1
      refine WPL.guardF rfl rfl rfl h1 ?_
      refine WPL.guardF rfl rfl rfl h1 ?_
      refine WPL.pkF (v := .bool false) rfl h1 rfl rfl ?_
      refine WPL.nil ?_
      refine WP.cF rfl rfl ?_
      refine WP.exit ?_
      refine WP.rs ?_
      refine WPL.mv (v := .pointer _) rfl rfl ?_
      refine WPL.as (v := .pointer _) rfl rfl ?_
      refine WPL.nil ?_
      refine WP.ret ?_
      refine ⟨rfl, ?_⟩
      refine RO.tmp (v := .pointer _) rfl ?_
      refine RO.nil ?_
      have hge : xs.length ≤ i + s * k := by omega
      have e9 : evs xs s i m = evs xs s i k := by
        have := evs_more hge (m - k)
        rwa [show k + (m - k) = m by omega] at this
      rw [← e9] at hB
      exact ⟨hO.fr, bb, B, rfl, hB, hO.giveB inferInstance⟩
end Go.Sw
