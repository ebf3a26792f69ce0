/- A part of the proof that BinsAlike answers true: steps of the walk, or plain laws that it needs. No conditions of its own. -/
import Derived.Test.YtdaphmoojpbddaaDoorSK2
import Derived.Test.YtdaphmoojpbddaaDoorProg
set_option linter.all false
namespace Go.Sw
set_option autoImplicit false
set_option linter.all false
open Go.Proofs Go.RowKit
theorem mixed : Tryd.prog.follows .mixedOrders = true := by kernel_rfl
instance T3 : Ty Tryd.prog 3 (.int .i64) [.int .i64 0] 8 := Ty.mk' Tryd.underlying3 (by kernel_rfl)
instance T5 : Ty Tryd.prog 5 (.int .u8) [.int .u8 0] 1 := Ty.mk' Tryd.underlying5 (by kernel_rfl)
instance T9 : Ty Tryd.prog 9 .string [.string ⟨#[]⟩] 16 := Ty.mk' Tryd.underlying9 (by kernel_rfl)
instance T32 : Ty Tryd.prog 32 (.slice 60) [.slice none 0 0] 24 := Ty.mk' Tryd.underlying32 (by kernel_rfl)
instance T52 : Ty Tryd.prog 52 (.int .u64) [.int .u64 0] 8 := Ty.mk' Tryd.underlying52 (by kernel_rfl)
instance T60 : Ty Tryd.prog 60 (.int .u32) [.int .u32 0] 4 := Ty.mk' Tryd.underlying60 (by kernel_rfl)
instance T122 : Ty Tryd.prog 122 (.array 32 5) (List.replicate 32 (.int .u8 0)) 32 := Ty.mk' Tryd.underlying122 (by kernel_rfl)
theorem add32 {w : World} (x y c : Nat) (hx : x < 4294967296) (hy : y < 4294967296) (hc : c ≤ 1) : Spec Tryd.prog 79 [.int .u32 (x : Int), .int .u32 (y : Int), .int .u32 (c : Int)] w (fun v w' => v = .tuple #[.int .u32 (((x + y + c) % 4294967296 : Nat) : Int), .int .u32 (((x + y + c) / 4294967296 : Nat) : Int)] ∧ w = w') := by
  refine Spec.enter (n := 22) (rs := [.tmp 6, .tmp 7]) Tryd.func79 rfl rfl rfl rfl ?_
  refine WP.rs ?_
  refine WPL.as (v := .int .u32 ((0 : Nat) : Int)) rfl rfl ?_
  refine WPL.as (v := .int .u32 ((0 : Nat) : Int)) rfl rfl ?_
  refine WPL.nil ?_
  refine WP.rs ?_
  refine WPL.mv (v := .int .u32 _) rfl rfl ?_
  refine WPL.cv_u64 rfl (by first | omega | exact Nat.mod_lt _ (by decide) | exact Wd.get (by assumption) _ | exact (dig_wd _).get _ | exact Nat.lt_of_le_of_lt (Nat.div_le_self ..) (Wd.get (by assumption) _) | exact Nat.lt_of_lt_of_le (Wd.get (by assumption) _) (by decide)) rfl ?_
  refine WPL.mv (v := .int .u32 _) rfl rfl ?_
  refine WPL.cv_u64 rfl (by first | omega | exact Nat.mod_lt _ (by decide) | exact Wd.get (by assumption) _ | exact (dig_wd _).get _ | exact Nat.lt_of_le_of_lt (Nat.div_le_self ..) (Wd.get (by assumption) _) | exact Nat.lt_of_lt_of_le (Wd.get (by assumption) _) (by decide)) rfl ?_
  refine WPL.add_u64 rfl rfl rfl ?_
  refine WPL.mv (v := .int .u32 _) rfl rfl ?_
  refine WPL.cv_u64 rfl (by first | omega | exact Nat.mod_lt _ (by decide) | exact Wd.get (by assumption) _ | exact (dig_wd _).get _ | exact Nat.lt_of_le_of_lt (Nat.div_le_self ..) (Wd.get (by assumption) _) | exact Nat.lt_of_lt_of_le (Wd.get (by assumption) _) (by decide)) rfl ?_
  refine WPL.add_u64 rfl rfl rfl ?_
  refine WPL.as (v := .int .u64 _) rfl rfl ?_
  refine WPL.nil ?_
  refine WP.rs ?_
  refine WPL.mv (v := .int .u64 _) rfl rfl ?_
  refine WPL.cm_u32 rfl rfl ?_
  refine WPL.as (v := .int .u32 _) rfl rfl ?_
  refine WPL.nil ?_
  refine WP.rs ?_
  refine WPL.mv (v := .int .u64 _) rfl rfl ?_
  refine WPL.shrc_u64 (p := 4294967296) rfl rfl rfl (by first | omega | exact Nat.mod_lt _ (by decide) | exact Wd.get (by assumption) _ | exact (dig_wd _).get _ | exact Nat.lt_of_le_of_lt (Nat.div_le_self ..) (Wd.get (by assumption) _) | exact Nat.lt_of_lt_of_le (Wd.get (by assumption) _) (by decide)) rfl ?_
  refine WPL.cm_u32 rfl rfl ?_
  refine WPL.as (v := .int .u32 _) rfl rfl ?_
  refine WPL.nil ?_
  refine WP.ret ?_
  refine ⟨rfl, ?_⟩
  refine RO.tmp (v := .int .u32 _) rfl ?_
  refine RO.tmp (v := .int .u32 _) rfl ?_
  refine RO.nil ?_
  refine ⟨?_, rfl⟩
  have e1 : ((x + y) % 18446744073709551616 + c) % 18446744073709551616 = x + y + c := by omega
  show Value.tuple #[_, _] = _
  rw [e1, show (x + y + c) / 2 ^ 32 % 4294967296 = (x + y + c) / 4294967296 by omega]

theorem sub32 {w : World} (x y c : Nat) (hx : x < 4294967296) (hy : y < 4294967296) (hc : c ≤ 1) : Spec Tryd.prog 89 [.int .u32 (x : Int), .int .u32 (y : Int), .int .u32 (c : Int)] w (fun v w' => v = .tuple #[.int .u32 (((x + 4294967296 - y - c + 4294967296) % 4294967296 : Nat) : Int), .int .u32 (((if x < y + c then 1 else 0 : Nat)) : Int)] ∧ w = w') := by
  refine Spec.enter (n := 25) (rs := [.tmp 6, .tmp 7]) Tryd.func89 rfl rfl rfl rfl ?_
  refine WP.rs ?_
  refine WPL.as (v := .int .u32 ((0 : Nat) : Int)) rfl rfl ?_
  refine WPL.as (v := .int .u32 ((0 : Nat) : Int)) rfl rfl ?_
  refine WPL.nil ?_
  refine WP.rs ?_
  refine WPL.mv (v := .int .u32 _) rfl rfl ?_
  refine WPL.mv (v := .int .u32 _) rfl rfl ?_
  refine WPL.sub_u32 rfl rfl (by omega) rfl ?_
  refine WPL.mv (v := .int .u32 _) rfl rfl ?_
  refine WPL.sub_u32 rfl rfl (by omega) rfl ?_
  refine WPL.as (v := .int .u32 _) rfl rfl ?_
  refine WPL.nil ?_
  refine WP.rs ?_
  refine WPL.mv (v := .int .u32 _) rfl rfl ?_
  refine WPL.xor_u32' rfl (by omega) rfl ?_
  refine WPL.mv (v := .int .u32 _) rfl rfl ?_
  refine WPL.and_u32 rfl rfl (by omega) (by omega) rfl ?_
  refine WPL.mv (v := .int .u32 _) rfl rfl ?_
  refine WPL.mv (v := .int .u32 _) rfl rfl ?_
  refine WPL.xor_u32 rfl rfl (by omega) (by omega) rfl ?_
  refine WPL.xor_u32' rfl (Nat.xor_lt_two_pow (n := 32) hx hy) rfl ?_
  refine WPL.mv (v := .int .u32 _) rfl rfl ?_
  refine WPL.and_u32 rfl rfl (by omega) (by omega) rfl ?_
  refine WPL.or_u32 rfl rfl (Nat.and_lt_two_pow (n := 32) _ hy) (Nat.and_lt_two_pow (n := 32) _ (Nat.mod_lt _ (by decide))) rfl ?_
  refine WPL.shr_u32 rfl rfl (Nat.or_lt_two_pow (n := 32) (Nat.and_lt_two_pow (n := 32) _ hy) (Nat.and_lt_two_pow (n := 32) _ (Nat.mod_lt _ (by decide)))) rfl ?_
  refine WPL.as (v := .int .u32 _) rfl rfl ?_
  refine WPL.nil ?_
  refine WP.ret ?_
  refine ⟨rfl, ?_⟩
  refine RO.tmp (v := .int .u32 _) rfl ?_
  refine RO.tmp (v := .int .u32 _) rfl ?_
  refine RO.nil ?_
  refine ⟨?_, rfl⟩
  exact sub32_bits hx hy hc

theorem wide_cut {w : World} (a : Option Addr) (l : List Nat) (c : Nat) {n : Nat} (hr : RowOk w [] ⟨a, ws .u32 l⟩) (hw : Wd l) (hc : l.length ≤ c) (hn : n = l.length) (hb : l.length ≤ 70368744177664) : Spec Tryd.prog 74 [.slice a n c] w (fun v w' => v = .slice a (dig (val l)).length c ∧ Named a l ∧ w = w') := by
  subst hn
  have hO : Own [] w [] [] [⟨a, ws .u32 l⟩] w := Own.start (by intro e he; cases he) (by
      simp only [List.mem_cons, List.not_mem_nil, or_false]
      rintro r rfl
      · exact hr)
  refine Spec.enter (n := 21) (rs := [.tmp 2]) Tryd.func74 rfl rfl rfl rfl ?_
  refine WP.rs ?_
  refine WPL.as (v := .slice none 0 0) rfl rfl ?_
  refine WPL.nil ?_
  refine WP.seq ?_
  refine WP.block ?_
  refine WP.loop (fun m σ ds w' => m ≤ l.length ∧ val (l.take m) = val l ∧ Has σ [(0, .slice a m c)] ∧ ds = [] ∧ w = w') l.length ?_ ?_
  · exact ⟨Nat.le_refl _, by simp, ⟨rfl, trivial⟩, rfl, rfl⟩
  · rintro m σ ds _ ⟨hm, hv, hH, rfl, rfl⟩
    refine WP.reset hH ?_
    refine WP.seq ?_
    refine WP.rs ?_
    refine WPL.mv (v := .slice _ _ _) rfl rfl ?_
    refine WPL.len rfl rfl ?_
    refine WPL.gt rfl rfl rfl ?_
    refine WPL.mv (v := .bool _) rfl rfl ?_
    refine WPL.split (s := 6) rfl (fun h1 => ?_) (fun h1 => ?_)
    · have ph1 := of_decide_eq_true h1
      refine WPL.guardT rfl rfl h1 ?_
      refine WPL.mv (v := .slice _ _ _) rfl rfl ?_
      refine WPL.guardT rfl rfl h1 ?_
      refine WPL.mv (v := .slice _ _ _) rfl rfl ?_
      refine WPL.guardT rfl rfl h1 ?_
      refine WPL.len rfl rfl ?_
      refine WPL.guardT rfl rfl h1 ?_
      refine WPL.subI rfl rfl (by omega) rfl ?_
      refine WPL.guardT rfl rfl h1 ?_
      refine WPL.ixR (j := m - 1) rfl hO inferInstance rfl (by omega) (by omega) (by simp; omega) rfl ?_
      refine WPL.guardT rfl rfl h1 ?_
      refine WPL.ldR rfl hO inferInstance (ws_get1 rfl (by omega)) rfl rfl ?_
      refine WPL.guardT rfl rfl h1 ?_
      refine WPL.eq rfl rfl rfl ?_
      refine WPL.pkT (v := .bool _) rfl h1 rfl rfl ?_
      refine WPL.nil ?_
      refine WP.condP rfl (fun h2 => ?_) (fun h2 => ?_)
      · refine WP.skip ?_
        refine WP.block ?_
        refine WP.region ?_
        refine WPL.mv (v := .slice _ _ _) rfl rfl ?_
        refine WPL.mv (v := .slice _ _ _) rfl rfl ?_
        refine WPL.len rfl rfl ?_
        refine WPL.subI rfl rfl (by omega) rfl ?_
        refine WPL.slH (h := m - 1) rfl rfl (by omega) (by omega) rfl ?_
        refine WPL.as (v := .slice _ _ _) rfl rfl ?_
        refine WPL.nil ?_
        refine ⟨m - 1, by omega, by omega, ?_, ⟨rfl, trivial⟩, rfl, rfl⟩
        have hp : 0 < m := by omega
        rw [← hv]; exact val_take_pred hp hm (by omega)
      · refine WP.exit ?_
        refine WP.rs ?_
        refine WPL.mv (v := .slice _ _ _) rfl rfl ?_
        refine WPL.as (v := .slice _ _ _) rfl rfl ?_
        refine WPL.nil ?_
        refine WP.ret ?_
        refine ⟨rfl, ?_⟩
        refine RO.tmp (v := .slice _ _ _) rfl ?_
        refine RO.nil ?_
        refine ⟨?_, True.intro, rfl⟩
        show Value.slice a m c = _
        rw [dig_take_length hw hm hv (.inr (by omega))]
    · have ph1 := of_decide_eq_false h1
      refine WPL.guardF rfl rfl rfl h1 ?_
      refine WPL.guardF rfl rfl rfl h1 ?_
      refine WPL.guardF rfl rfl rfl h1 ?_
      refine WPL.guardF rfl rfl rfl h1 ?_
      refine WPL.guardF rfl rfl rfl h1 ?_
      refine WPL.guardF rfl rfl rfl h1 ?_
      refine WPL.guardF rfl rfl rfl h1 ?_
      refine WPL.pkF (v := .bool false) rfl h1 rfl rfl ?_
      refine WPL.nil ?_
      refine WP.cF rfl rfl ?_
      refine WP.exit ?_
      refine WP.rs ?_
      refine WPL.mv (v := .slice _ _ _) rfl rfl ?_
      refine WPL.as (v := .slice _ _ _) rfl rfl ?_
      refine WPL.nil ?_
      refine WP.ret ?_
      refine ⟨rfl, ?_⟩
      refine RO.tmp (v := .slice _ _ _) rfl ?_
      refine RO.nil ?_
      refine ⟨?_, True.intro, rfl⟩
      show Value.slice a m c = _
      rw [dig_take_length hw hm hv (.inl (by omega))]

theorem wide_Norm {w : World} (a : Option Addr) (l : List Nat) (c : Nat) {n : Nat} (hr : RowOk w [] ⟨a, ws .u32 l⟩) (hw : Wd l) (hn : n = l.length) (hb : l.length ≤ 70368744177664) : Spec Tryd.prog 71 [.slice a n c] w (fun v w' => FrX [] w w' ∧ NatRes w w' 60 (val l) v) := by
  subst hn
  have hO : Own [] w [] [] [⟨a, ws .u32 l⟩] w := Own.start (by intro e he; cases he) (by
      simp only [List.mem_cons, List.not_mem_nil, or_false]
      rintro r rfl
      · exact hr)
  refine Spec.enter (n := 25) (rs := [.tmp 2]) Tryd.func71 rfl rfl rfl rfl ?_
  refine WP.rs ?_
  refine WPL.as (v := .slice none 0 0) rfl rfl ?_
  refine WPL.nil ?_
  refine WP.rs ?_
  refine WPL.mv (v := .slice _ _ _) rfl rfl ?_
  refine WPL.len rfl rfl ?_
  refine WPL.as (v := .int .i64 _) rfl rfl ?_
  refine WPL.nil ?_
  refine WP.seq ?_
  refine WP.block ?_
  refine WP.loop (fun m σ ds w' => m ≤ l.length ∧ val (l.take m) = val l ∧ Has σ [(3, .int .i64 (m : Int)), (0, .slice a l.length c)] ∧ ds = [] ∧ w = w') l.length ?_ ?_
  · exact ⟨Nat.le_refl _, by simp, ⟨rfl, rfl, trivial⟩, rfl, rfl⟩
  · rintro m σ ds _ ⟨hm, hv, hH, rfl, rfl⟩
    refine WP.reset hH ?_
    refine WP.seq ?_
    refine WP.rs ?_
    refine WPL.mv (v := .int .i64 _) rfl rfl ?_
    refine WPL.gt rfl rfl rfl ?_
    refine WPL.mv (v := .bool _) rfl rfl ?_
    refine WPL.split (s := 9) rfl (fun h1 => ?_) (fun h1 => ?_)
    · have ph1 := of_decide_eq_true h1
      refine WPL.guardT rfl rfl h1 ?_
      refine WPL.mv (v := .slice _ _ _) rfl rfl ?_
      refine WPL.guardT rfl rfl h1 ?_
      refine WPL.mv (v := .int .i64 _) rfl rfl ?_
      refine WPL.guardT rfl rfl h1 ?_
      refine WPL.subI rfl rfl (by omega) rfl ?_
      refine WPL.guardT rfl rfl h1 ?_
      refine WPL.ixR (j := m - 1) rfl hO inferInstance rfl (by omega) (by omega) (by simp; omega) rfl ?_
      refine WPL.guardT rfl rfl h1 ?_
      refine WPL.ldR rfl hO inferInstance (ws_get1 rfl (by omega)) rfl rfl ?_
      refine WPL.guardT rfl rfl h1 ?_
      refine WPL.eq rfl rfl rfl ?_
      refine WPL.pkT (v := .bool _) rfl h1 rfl rfl ?_
      refine WPL.nil ?_
      refine WP.condP rfl (fun h2 => ?_) (fun h2 => ?_)
      · refine WP.skip ?_
        refine WP.block ?_
        refine WP.region ?_
        refine WPL.mv (v := .int .i64 _) rfl rfl ?_
        refine WPL.subI rfl rfl (by omega) rfl ?_
        refine WPL.as (v := .int .i64 _) rfl rfl ?_
        refine WPL.nil ?_
        refine ⟨m - 1, by omega, by omega, ?_, ⟨by show Value.int .i64 _ = _; congr 1; omega, rfl, trivial⟩, rfl, rfl⟩
        have hp : 0 < m := by omega
        rw [← hv]; exact val_take_pred hp hm (by omega)
      · refine WP.exit ?_
        refine WP.rs ?_
        refine WPL.mv (v := .int .i64 _) rfl rfl ?_
        refine WPL.mkW rfl rfl rfl rfl hO (by omega) (by omega) (by omega) rfl (fun b1 w hO => ?_)
        refine WPL.as (v := .slice _ _ _) rfl rfl ?_
        refine WPL.nil ?_
        refine WP.rs ?_
        refine WPL.mv (v := .slice _ _ _) rfl rfl ?_
        refine WPL.mv (v := .slice _ _ _) rfl rfl ?_
        have hr' := hO.rd (a := a) (vals := ws .u32 l)
        refine WPL.cpy (q := m) rfl rfl hr' (by simp) (ws_one _ _) hO inferInstance (by omega) inferInstance (by decide) (by simp) rfl (fun w hO => ?_)
        refine WPL.nil ?_
        refine WP.rs ?_
        refine WPL.mv (v := .slice _ _ _) rfl rfl ?_
        refine WPL.as (v := .slice _ _ _) rfl rfl ?_
        refine WPL.nil ?_
        refine WP.ret ?_
        refine ⟨rfl, ?_⟩
        refine RO.tmp (v := .slice _ _ _) rfl ?_
        refine RO.nil ?_
        have e : (ws .u32 l).take (m * [Value.int .u32 0].length) ++ (ws .u32 (List.replicate m 0)).drop (m * [Value.int .u32 0].length) = ws .u32 (dig (val l)) ++ [] := by
          rw [dig_take hw hm hv (by first | exact .inl (by omega) | exact .inr (by omega)), ws_take, List.append_nil, show m * [Value.int .u32 0].length = m by simp, List.drop_of_length_le (by simp), List.append_nil]
        have hl : (dig (val l)).length = m := dig_take_length hw hm hv (by first | exact .inl (by omega) | exact .inr (by omega))
        exact ⟨hO.fr, _, m, by show Value.slice _ m m = _; rw [hl], by omega, hO.give1 inferInstance e (by rw [e]; simp [hl])⟩
    · have ph1 := of_decide_eq_false h1
      refine WPL.guardF rfl rfl rfl h1 ?_
      refine WPL.guardF rfl rfl rfl h1 ?_
      refine WPL.guardF rfl rfl rfl h1 ?_
      refine WPL.guardF rfl rfl rfl h1 ?_
      refine WPL.guardF rfl rfl rfl h1 ?_
      refine WPL.guardF rfl rfl rfl h1 ?_
      refine WPL.pkF (v := .bool false) rfl h1 rfl rfl ?_
      refine WPL.nil ?_
      refine WP.cF rfl rfl ?_
      refine WP.exit ?_
      refine WP.rs ?_
      refine WPL.mv (v := .int .i64 _) rfl rfl ?_
      refine WPL.mkW rfl rfl rfl rfl hO (by omega) (by omega) (by omega) rfl (fun b2 w hO => ?_)
      refine WPL.as (v := .slice _ _ _) rfl rfl ?_
      refine WPL.nil ?_
      refine WP.rs ?_
      refine WPL.mv (v := .slice _ _ _) rfl rfl ?_
      refine WPL.mv (v := .slice _ _ _) rfl rfl ?_
      have hr' := hO.rd (a := a) (vals := ws .u32 l)
      refine WPL.cpy (q := m) rfl rfl hr' (by simp) (ws_one _ _) hO inferInstance (by omega) inferInstance (by decide) (by simp) rfl (fun w hO => ?_)
      refine WPL.nil ?_
      refine WP.rs ?_
      refine WPL.mv (v := .slice _ _ _) rfl rfl ?_
      refine WPL.as (v := .slice _ _ _) rfl rfl ?_
      refine WPL.nil ?_
      refine WP.ret ?_
      refine ⟨rfl, ?_⟩
      refine RO.tmp (v := .slice _ _ _) rfl ?_
      refine RO.nil ?_
      have e : (ws .u32 l).take (m * [Value.int .u32 0].length) ++ (ws .u32 (List.replicate m 0)).drop (m * [Value.int .u32 0].length) = ws .u32 (dig (val l)) ++ [] := by
        rw [dig_take hw hm hv (by first | exact .inl (by omega) | exact .inr (by omega)), ws_take, List.append_nil, show m * [Value.int .u32 0].length = m by simp, List.drop_of_length_le (by simp), List.append_nil]
      have hl : (dig (val l)).length = m := dig_take_length hw hm hv (by first | exact .inl (by omega) | exact .inr (by omega))
      exact ⟨hO.fr, _, m, by show Value.slice _ m m = _; rw [hl], by omega, hO.give1 inferInstance e (by rw [e]; simp [hl])⟩

theorem len32 {w : World} (x : Nat) (hx : x < 4294967296) : Spec Tryd.prog 88 [.int .u32 (x : Int)] w (fun v w' => v = .int .i64 ((blen x : Nat) : Int) ∧ w = w') := by
  refine Spec.enter (n := 19) (rs := [.tmp 2]) Tryd.func88 rfl rfl rfl rfl ?_
  refine WP.rs ?_
  refine WPL.as (v := .int .i64 0) rfl rfl ?_
  refine WPL.nil ?_
  refine WP.seq ?_
  refine WP.rs ?_
  refine WPL.mv (v := .int .u32 _) rfl rfl ?_
  refine WPL.ge rfl rfl rfl ?_
  refine WPL.nil ?_
  refine WP.condP rfl (fun h1 => ?_) (fun h1 => ?_)
  · refine WP.rs ?_
    refine WPL.mv (v := .int .u32 _) rfl rfl ?_
    refine WPL.shrc_u32 (p := 65536) rfl rfl rfl (by first | omega | exact Nat.mod_lt _ (by decide) | exact Wd.get (by assumption) _ | exact (dig_wd _).get _ | exact Nat.lt_of_le_of_lt (Nat.div_le_self ..) (Wd.get (by assumption) _) | exact Nat.lt_of_lt_of_le (Wd.get (by assumption) _) (by decide)) rfl ?_
    refine WPL.as (v := .int .u32 _) rfl rfl ?_
    refine WPL.nil ?_
    refine WP.region ?_
    refine WPL.as (v := .int .i64 16) rfl rfl ?_
    refine WPL.nil ?_
    refine WP.seq ?_
    refine WP.rs ?_
    refine WPL.mv (v := .int .u32 _) rfl rfl ?_
    refine WPL.ge rfl rfl rfl ?_
    refine WPL.nil ?_
    refine WP.condP rfl (fun h2 => ?_) (fun h2 => ?_)
    · refine WP.rs ?_
      refine WPL.mv (v := .int .u32 _) rfl rfl ?_
      refine WPL.shrc_u32 (p := 256) rfl rfl rfl (by first | omega | exact Nat.mod_lt _ (by decide) | exact Wd.get (by assumption) _ | exact (dig_wd _).get _ | exact Nat.lt_of_le_of_lt (Nat.div_le_self ..) (Wd.get (by assumption) _) | exact Nat.lt_of_lt_of_le (Wd.get (by assumption) _) (by decide)) rfl ?_
      refine WPL.as (v := .int .u32 _) rfl rfl ?_
      refine WPL.nil ?_
      refine WP.region ?_
      refine WPL.mv (v := .int .i64 _) rfl rfl ?_
      refine WPL.addI rfl rfl (by omega) rfl ?_
      refine WPL.as (v := .int .i64 _) rfl rfl ?_
      refine WPL.nil ?_
      refine WP.rs ?_
      refine WPL.mv (v := .int .i64 _) rfl rfl ?_
      refine WPL.mv (v := .int .u32 _) rfl rfl ?_
      refine WPL.cm_u8 rfl rfl ?_
      refine WPL.ixS (N := 256) blen rfl rfl rfl (by omega) (by kernel_rfl) (by decide +kernel) rfl ?_
      refine WPL.cv_i64 rfl (Nat.lt_of_le_of_lt (blen_mod _) (by decide)) rfl ?_
      refine WPL.addI rfl rfl (i64_small (blen_mod _) (by decide)) rfl ?_
      refine WPL.as (v := .int .i64 _) rfl rfl ?_
      refine WPL.nil ?_
      refine WP.ret ?_
      refine ⟨rfl, ?_⟩
      refine RO.tmp (v := .int .i64 _) rfl ?_
      refine RO.nil ?_
      refine ⟨?_, rfl⟩
      show Value.int .i64 _ = _
      congr 1
      first
      | (have := len32_leaf (x := x) (k := 24) (by omega) (by omega) (show x / 65536 / 256 % 256 = x / 2 ^ 24 % 256 by omega); omega)
      | (have := len32_leaf (x := x) (k := 16) (by omega) (by omega) (show x / 65536 % 256 = x / 2 ^ 16 % 256 by omega); omega)
      | (have := len32_leaf (x := x) (k := 8) (by omega) (by omega) (show x / 256 % 256 = x / 2 ^ 8 % 256 by omega); omega)
      | (rw [Nat.mod_eq_of_lt (show x < 256 by omega)]; omega)
    · refine WP.skip ?_
      refine WP.rs ?_
      refine WPL.mv (v := .int .i64 _) rfl rfl ?_
      refine WPL.mv (v := .int .u32 _) rfl rfl ?_
      refine WPL.cm_u8 rfl rfl ?_
      refine WPL.ixS (N := 256) blen rfl rfl rfl (by omega) (by kernel_rfl) (by decide +kernel) rfl ?_
      refine WPL.cv_i64 rfl (Nat.lt_of_le_of_lt (blen_mod _) (by decide)) rfl ?_
      refine WPL.addI rfl rfl (i64_small (blen_mod _) (by decide)) rfl ?_
      refine WPL.as (v := .int .i64 _) rfl rfl ?_
      refine WPL.nil ?_
      refine WP.ret ?_
      refine ⟨rfl, ?_⟩
      refine RO.tmp (v := .int .i64 _) rfl ?_
      refine RO.nil ?_
      refine ⟨?_, rfl⟩
      show Value.int .i64 _ = _
      congr 1
      first
      | (have := len32_leaf (x := x) (k := 24) (by omega) (by omega) (show x / 65536 / 256 % 256 = x / 2 ^ 24 % 256 by omega); omega)
      | (have := len32_leaf (x := x) (k := 16) (by omega) (by omega) (show x / 65536 % 256 = x / 2 ^ 16 % 256 by omega); omega)
      | (have := len32_leaf (x := x) (k := 8) (by omega) (by omega) (show x / 256 % 256 = x / 2 ^ 8 % 256 by omega); omega)
      | (rw [Nat.mod_eq_of_lt (show x < 256 by omega)]; omega)
  · refine WP.skip ?_
    refine WP.seq ?_
    refine WP.rs ?_
    refine WPL.mv (v := .int .u32 _) rfl rfl ?_
    refine WPL.ge rfl rfl rfl ?_
    refine WPL.nil ?_
    refine WP.condP rfl (fun h3 => ?_) (fun h3 => ?_)
    · refine WP.rs ?_
      refine WPL.mv (v := .int .u32 _) rfl rfl ?_
      refine WPL.shrc_u32 (p := 256) rfl rfl rfl (by first | omega | exact Nat.mod_lt _ (by decide) | exact Wd.get (by assumption) _ | exact (dig_wd _).get _ | exact Nat.lt_of_le_of_lt (Nat.div_le_self ..) (Wd.get (by assumption) _) | exact Nat.lt_of_lt_of_le (Wd.get (by assumption) _) (by decide)) rfl ?_
      refine WPL.as (v := .int .u32 _) rfl rfl ?_
      refine WPL.nil ?_
      refine WP.region ?_
      refine WPL.mv (v := .int .i64 _) rfl rfl ?_
      refine WPL.addI rfl rfl (by omega) rfl ?_
      refine WPL.as (v := .int .i64 _) rfl rfl ?_
      refine WPL.nil ?_
      refine WP.rs ?_
      refine WPL.mv (v := .int .i64 _) rfl rfl ?_
      refine WPL.mv (v := .int .u32 _) rfl rfl ?_
      refine WPL.cm_u8 rfl rfl ?_
      refine WPL.ixS (N := 256) blen rfl rfl rfl (by omega) (by kernel_rfl) (by decide +kernel) rfl ?_
      refine WPL.cv_i64 rfl (Nat.lt_of_le_of_lt (blen_mod _) (by decide)) rfl ?_
      refine WPL.addI rfl rfl (i64_small (blen_mod _) (by decide)) rfl ?_
      refine WPL.as (v := .int .i64 _) rfl rfl ?_
      refine WPL.nil ?_
      refine WP.ret ?_
      refine ⟨rfl, ?_⟩
      refine RO.tmp (v := .int .i64 _) rfl ?_
      refine RO.nil ?_
      refine ⟨?_, rfl⟩
      show Value.int .i64 _ = _
      congr 1
      first
      | (have := len32_leaf (x := x) (k := 24) (by omega) (by omega) (show x / 65536 / 256 % 256 = x / 2 ^ 24 % 256 by omega); omega)
      | (have := len32_leaf (x := x) (k := 16) (by omega) (by omega) (show x / 65536 % 256 = x / 2 ^ 16 % 256 by omega); omega)
      | (have := len32_leaf (x := x) (k := 8) (by omega) (by omega) (show x / 256 % 256 = x / 2 ^ 8 % 256 by omega); omega)
      | (rw [Nat.mod_eq_of_lt (show x < 256 by omega)]; omega)
    · refine WP.skip ?_
      refine WP.rs ?_
      refine WPL.mv (v := .int .i64 _) rfl rfl ?_
      refine WPL.mv (v := .int .u32 _) rfl rfl ?_
      refine WPL.cm_u8 rfl rfl ?_
      refine WPL.ixS (N := 256) blen rfl rfl rfl (by omega) (by kernel_rfl) (by decide +kernel) rfl ?_
      refine WPL.cv_i64 rfl (Nat.lt_of_le_of_lt (blen_mod _) (by decide)) rfl ?_
      refine WPL.addI rfl rfl (i64_small (blen_mod _) (by decide)) rfl ?_
      refine WPL.as (v := .int .i64 _) rfl rfl ?_
      refine WPL.nil ?_
      refine WP.ret ?_
      refine ⟨rfl, ?_⟩
      refine RO.tmp (v := .int .i64 _) rfl ?_
      refine RO.nil ?_
      refine ⟨?_, rfl⟩
      show Value.int .i64 _ = _
      congr 1
      first
      | (have := len32_leaf (x := x) (k := 24) (by omega) (by omega) (show x / 65536 / 256 % 256 = x / 2 ^ 24 % 256 by omega); omega)
      | (have := len32_leaf (x := x) (k := 16) (by omega) (by omega) (show x / 65536 % 256 = x / 2 ^ 16 % 256 by omega); omega)
      | (have := len32_leaf (x := x) (k := 8) (by omega) (by omega) (show x / 256 % 256 = x / 2 ^ 8 % 256 by omega); omega)
      | (rw [Nat.mod_eq_of_lt (show x < 256 by omega)]; omega)

def deb : List Nat := [0, 1, 28, 2, 29, 14, 24, 3, 30, 22, 20, 15, 25, 17, 4, 8, 31, 27, 13, 23, 21, 19, 16, 7, 26, 12, 18, 6, 11, 5, 10, 9]
abbrev tabs : List Blk := [⟨1, ws .u8 deb, 0⟩]
theorem deb_ok : ∀ t, t < 32 → deb.getD (2 ^ t * 125613361 % 4294967296 / 134217728) 0 = t ∧ 2 ^ t * 125613361 % 4294967296 / 134217728 < 32 := by decide +kernel

theorem tz32 {w : World} (ht : TabOk tabs w) (x : Nat) (hx : x < 4294967296) (h0 : x ≠ 0) : Spec Tryd.prog 87 [.int .u32 (x : Int)] w (fun v w' => v = .int .i64 ((tz x : Nat) : Int) ∧ w = w') := by
  have hO : Own tabs w [] [] [] w := Own.start ht (by intro r hr'; cases hr')
  have hz := tz_lt32 hx h0
  have hd := deb_ok _ hz
  refine Spec.enter (n := 14) (rs := [.tmp 2]) Tryd.func87 rfl rfl rfl rfl ?_
  refine WP.rs ?_
  refine WPL.as (v := .int .i64 0) rfl rfl ?_
  refine WPL.nil ?_
  refine WP.seq ?_
  refine WP.rs ?_
  refine WPL.mv (v := .int .u32 _) rfl rfl ?_
  refine WPL.eq rfl rfl rfl ?_
  refine WPL.nil ?_
  refine WP.condP rfl (fun h1 => ?_) (fun h1 => ?_)
  · exact absurd h1 (by omega)
  · refine WP.skip ?_
    refine WP.rs ?_
    refine WPL.mv (v := .int .u32 _) rfl rfl ?_
    refine WPL.mv (v := .int .u32 _) rfl rfl ?_
    refine WPL.neg_u32 rfl (by omega) rfl ?_
    refine WPL.and_u32 rfl rfl (by omega) (Nat.mod_lt _ (by decide)) rfl ?_
    refine WPL.mul_u32 (b := 125613361) rfl rfl rfl ?_
    refine WPL.shrc_u32 (p := 134217728) rfl rfl rfl (Nat.mod_lt _ (by decide)) rfl ?_
    refine WPL.ixA (j := 2 ^ tz x * 125613361 % 4294967296 / 134217728) rfl rfl (by rw [land_neg hx h0]) hd.2 rfl ?_
    refine WPL.ldT (v := .int .u8 (tz x : Int)) rfl hO inferInstance (by have e := ws_get1 (kk := .u8) (l := deb) (m := 1) rfl hd.2; rw [hd.1] at e; rw [Nat.zero_add]; exact e) rfl rfl ?_
    refine WPL.cv_i64 rfl (by first | omega | exact Nat.mod_lt _ (by decide) | exact Wd.get (by assumption) _ | exact (dig_wd _).get _ | exact Nat.lt_of_le_of_lt (Nat.div_le_self ..) (Wd.get (by assumption) _) | exact Nat.lt_of_lt_of_le (Wd.get (by assumption) _) (by decide)) rfl ?_
    refine WPL.as (v := .int .i64 _) rfl rfl ?_
    refine WPL.nil ?_
    refine WP.ret ?_
    refine ⟨rfl, ?_⟩
    refine RO.tmp (v := .int .i64 _) rfl ?_
    refine RO.nil ?_
    exact ⟨rfl, rfl⟩

theorem wide_Of {w : World} (x : Nat) (hx : x < 18446744073709551616) : Spec Tryd.prog 67 [.int .u64 (x : Int)] w (fun v w' => FrX [] w w' ∧ NatRes w w' 60 x v) := by
  have hO : Own [] w [] [] [] w := Own.start (by intro e he; cases he) (by intro r hr'; cases hr')
  refine Spec.enter (n := 10) (rs := [.tmp 2]) Tryd.func67 rfl rfl rfl rfl ?_
  refine WP.rs ?_
  refine WPL.as (v := .slice none 0 0) rfl rfl ?_
  refine WPL.nil ?_
  refine WP.rs ?_
  refine WPL.mv (v := .int .u64 _) rfl rfl ?_
  refine WPL.cm_u32 rfl rfl ?_
  refine WPL.mv (v := .int .u64 _) rfl rfl ?_
  refine WPL.shrc_u64 (p := 4294967296) rfl rfl rfl (by first | omega | exact Nat.mod_lt _ (by decide) | exact Wd.get (by assumption) _ | exact (dig_wd _).get _ | exact Nat.lt_of_le_of_lt (Nat.div_le_self ..) (Wd.get (by assumption) _) | exact Nat.lt_of_lt_of_le (Wd.get (by assumption) _) (by decide)) rfl ?_
  refine WPL.cm_u32 rfl rfl ?_
  refine WPL.bs1 (pv := [(0, .int .u32 _), (1, .int .u32 _)]) (vs := [_, _]) rfl hO rfl rfl rfl rfl (fun b1 w hO => ?_)
  have hrow := hO.rdA (b := b1) inferInstance
  refine WPL.call rfl (wide_Norm _ [x % 4294967296, x / 4294967296 % 4294967296] _ hrow (.cons (Nat.mod_lt _ (by decide)) (.cons (Nat.mod_lt _ (by decide)) .nil)) rfl (by simp)) Tryd.func71 rfl rfl rfl ?_
  rintro _ w' ⟨hf, a, c, rfl, hc, hr⟩
  refine WPL.as (v := .slice _ _ _) rfl rfl ?_
  refine WPL.nil ?_
  refine WP.ret ?_
  refine ⟨rfl, ?_⟩
  refine RO.tmp (v := .slice _ _ _) rfl ?_
  refine RO.nil ?_
  have e : val [x % 4294967296, x / 4294967296 % 4294967296] = x := by simp only [val_cons, val_nil]; omega
  rw [e] at hc hr
  refine ⟨hO.fr.trans hf, a, c, ?_, hc, hr.mono hO.fr.size⟩
  rw [e]; rfl

theorem wide_Small {w : World} (a : Option Addr) (l : List Nat) (c : Nat) {n : Nat} (hr : RowOk w [] ⟨a, ws .u32 l⟩) (hw : Wd l) (hc : l.length ≤ c) (hn : n = l.length) (hb : l.length ≤ 70368744177664) (hs : val l < 18446744073709551616) : Spec Tryd.prog 83 [.slice a n c] w (fun v w' => v = .tuple #[.int .u64 ((val l : Nat) : Int), .int .i64 0] ∧ w = w') := by
  subst hn
  have hO : Own [] w [] [] [⟨a, ws .u32 l⟩] w := Own.start (by intro e he; cases he) (by
      simp only [List.mem_cons, List.not_mem_nil, or_false]
      rintro r rfl
      · exact hr)
  have hlen := @dig_len_le (val l) 2
  have hwd := dig_wd (val l)
  have hvd := val_dig (val l)
  refine Spec.enter (n := 30) (rs := [.tmp 2, .tmp 3]) Tryd.func83 rfl rfl rfl rfl ?_
  refine WP.rs ?_
  refine WPL.as (v := .int .u64 ((0 : Nat) : Int)) rfl rfl ?_
  refine WPL.as (v := .int .i64 0) rfl rfl ?_
  refine WPL.nil ?_
  refine WP.rs ?_
  refine WPL.as (v := .int .u64 ((0 : Nat) : Int)) rfl rfl ?_
  refine WPL.nil ?_
  refine WP.seq ?_
  refine WP.rs ?_
  refine WPL.mv (v := .slice _ _ _) rfl rfl ?_
  refine WPL.call rfl (wide_cut _ _ _ (by first | exact hO.rd | exact hO.rdG (by assumption)) (by first | assumption | exact dig_wd _) (by first | omega | (simp only [val_dig]; omega)) rfl (by first | omega | (simp only [val_dig]; omega))) Tryd.func74 rfl rfl rfl ?_
  rintro _ _ ⟨rfl, nm6, rfl⟩
  have hO := hO.takeN nm6 inferInstance (by first | assumption | exact dig_wd _)
  try simp only [val_dig] at hO ⊢
  refine WPL.as (v := .slice _ _ _) rfl rfl ?_
  refine WPL.nil ?_
  refine WP.block ?_
  refine WP.rs ?_
  refine WPL.mv (v := .slice _ _ _) rfl rfl ?_
  refine WPL.len rfl rfl ?_
  refine WPL.gt rfl rfl rfl ?_
  refine WPL.as (v := .bool _) rfl rfl ?_
  refine WPL.nil ?_
  refine WP.condP rfl (fun h1 => ?_) (fun h1 => ?_)
  · exact absurd h1 (by omega)
  · refine WP.rs ?_
    refine WPL.mv (v := .slice _ _ _) rfl rfl ?_
    refine WPL.len rfl rfl ?_
    refine WPL.eq rfl rfl rfl ?_
    refine WPL.as (v := .bool _) rfl rfl ?_
    refine WPL.nil ?_
    refine WP.condP rfl (fun h2 => ?_) (fun h2 => ?_)
    · refine WP.region ?_
      refine WPL.mv (v := .slice _ _ _) rfl rfl ?_
      refine WPL.ixR (j := 1) rfl hO inferInstance rfl rfl (by first | omega | (simp; omega)) (by first | omega | (simp; omega)) rfl ?_
      refine WPL.ldR rfl hO inferInstance (ws_get1 rfl (by omega)) rfl rfl ?_
      refine WPL.cv_u64 rfl (by have := hwd.get 1; omega) rfl ?_
      refine WPL.shlc_u64 (p := 4294967296) rfl rfl rfl rfl ?_
      refine WPL.as (v := .int .u64 _) rfl rfl ?_
      refine WPL.nil ?_
      refine WP.seq ?_
      refine WP.rs ?_
      refine WPL.mv (v := .slice _ _ _) rfl rfl ?_
      refine WPL.len rfl rfl ?_
      refine WPL.gt rfl rfl rfl ?_
      refine WPL.nil ?_
      refine WP.condP rfl (fun h3 => ?_) (fun h3 => ?_)
      · refine WP.region ?_
        refine WPL.mv (v := .int .u64 _) rfl rfl ?_
        refine WPL.mv (v := .slice _ _ _) rfl rfl ?_
        refine WPL.ixR (j := 0) rfl hO inferInstance rfl rfl (by first | omega | (simp; omega)) (by first | omega | (simp; omega)) rfl ?_
        refine WPL.ldR rfl hO inferInstance (ws_get1 rfl (by omega)) rfl rfl ?_
        refine WPL.cv_u64 rfl (by first | decide | have := hwd.get 0; omega) rfl ?_
        refine WPL.or_u64 rfl rfl (by first | decide | omega | (have := hwd.get 0; have := hwd.get 1; omega)) (by have := hwd.get 0; omega) rfl ?_
        refine WPL.as (v := .int .u64 _) rfl rfl ?_
        refine WPL.nil ?_
        refine WP.rs ?_
        refine WPL.mv (v := .int .u64 _) rfl rfl ?_
        refine WPL.as (v := .int .u64 _) rfl rfl ?_
        refine WPL.as (v := .int .i64 0) rfl rfl ?_
        refine WPL.nil ?_
        refine WP.ret ?_
        refine ⟨rfl, ?_⟩
        refine RO.tmp (v := .int .u64 _) rfl ?_
        refine RO.tmp (v := .int .i64 _) rfl ?_
        refine RO.nil ?_
        refine ⟨?_, rfl⟩
        have e := val2 (l := dig (val l)) (by omega)
        have g0 := hwd.get 0
        have g1 := hwd.get 1
        rw [hvd] at e
        show Value.tuple #[.int .u64 _, _] = _
        rw [Nat.mod_eq_of_lt (by omega), Nat.or_comm, or_add (k := 32) (by omega)]
        rw [show (dig (val l)).getD 0 0 + (dig (val l)).getD 1 0 * 2 ^ 32 = val l by omega]
      · refine WP.skip ?_
        refine WP.rs ?_
        refine WPL.mv (v := .int .u64 _) rfl rfl ?_
        refine WPL.as (v := .int .u64 _) rfl rfl ?_
        refine WPL.as (v := .int .i64 0) rfl rfl ?_
        refine WPL.nil ?_
        refine WP.ret ?_
        refine ⟨rfl, ?_⟩
        refine RO.tmp (v := .int .u64 _) rfl ?_
        refine RO.tmp (v := .int .i64 _) rfl ?_
        refine RO.nil ?_
        exact absurd h3 (by omega)
    · refine WP.skip ?_
      refine WP.seq ?_
      refine WP.rs ?_
      refine WPL.mv (v := .slice _ _ _) rfl rfl ?_
      refine WPL.len rfl rfl ?_
      refine WPL.gt rfl rfl rfl ?_
      refine WPL.nil ?_
      refine WP.condP rfl (fun h4 => ?_) (fun h4 => ?_)
      · refine WP.region ?_
        refine WPL.mv (v := .int .u64 _) rfl rfl ?_
        refine WPL.mv (v := .slice _ _ _) rfl rfl ?_
        refine WPL.ixR (j := 0) rfl hO inferInstance rfl rfl (by first | omega | (simp; omega)) (by first | omega | (simp; omega)) rfl ?_
        refine WPL.ldR rfl hO inferInstance (ws_get1 rfl (by omega)) rfl rfl ?_
        refine WPL.cv_u64 rfl (by first | decide | have := hwd.get 0; omega) rfl ?_
        refine WPL.or_u64 rfl rfl (by first | decide | omega | (have := hwd.get 0; have := hwd.get 1; omega)) (by have := hwd.get 0; omega) rfl ?_
        refine WPL.as (v := .int .u64 _) rfl rfl ?_
        refine WPL.nil ?_
        refine WP.rs ?_
        refine WPL.mv (v := .int .u64 _) rfl rfl ?_
        refine WPL.as (v := .int .u64 _) rfl rfl ?_
        refine WPL.as (v := .int .i64 0) rfl rfl ?_
        refine WPL.nil ?_
        refine WP.ret ?_
        refine ⟨rfl, ?_⟩
        refine RO.tmp (v := .int .u64 _) rfl ?_
        refine RO.tmp (v := .int .i64 _) rfl ?_
        refine RO.nil ?_
        refine ⟨?_, rfl⟩
        have e := val2 (l := dig (val l)) (by omega)
        rw [getD_ge (i := 1) (by omega), hvd] at e
        show Value.tuple #[.int .u64 _, _] = _
        rw [Nat.zero_or, show (dig (val l)).getD 0 0 = val l by omega]
      · refine WP.skip ?_
        refine WP.rs ?_
        refine WPL.mv (v := .int .u64 _) rfl rfl ?_
        refine WPL.as (v := .int .u64 _) rfl rfl ?_
        refine WPL.as (v := .int .i64 0) rfl rfl ?_
        refine WPL.nil ?_
        refine WP.ret ?_
        refine ⟨rfl, ?_⟩
        refine RO.tmp (v := .int .u64 _) rfl ?_
        refine RO.tmp (v := .int .i64 _) rfl ?_
        refine RO.nil ?_
        refine ⟨?_, rfl⟩
        have e := val2 (l := dig (val l)) (by omega)
        rw [getD_ge (i := 1) (by omega), getD_ge (i := 0) (by omega), hvd] at e
        show Value.tuple #[.int .u64 _, _] = _
        rw [show val l = 0 by omega]

theorem wide_both {w : World} (a a2 : Option Addr) (l l2 : List Nat) (c c2 : Nat) {n n2 : Nat} (hr : RowOk w [] ⟨a, ws .u32 l⟩) (hw : Wd l) (hc : l.length ≤ c) (hn : n = l.length) (hb : l.length ≤ 70368744177664) (hr2 : RowOk w [] ⟨a2, ws .u32 l2⟩) (hw2 : Wd l2) (hc2 : l2.length ≤ c2) (hn2 : n2 = l2.length) (hb2 : l2.length ≤ 70368744177664) (hf : (dig (val l)).length ≤ 8192) (hf2 : (dig (val l2)).length ≤ 8192) : Spec Tryd.prog 80 [.slice a n c, .slice a2 n2 c2] w (fun v w' => v = .tuple #[.slice a (dig (val l)).length c, .slice a2 (dig (val l2)).length c2, .int .i64 0] ∧ Named a l ∧ Named a2 l2 ∧ w = w') := by
  subst hn hn2
  have hO : Own [] w [] [] [⟨a, ws .u32 l⟩, ⟨a2, ws .u32 l2⟩] w := Own.start (by intro e he; cases he) (by
      simp only [List.mem_cons, List.not_mem_nil, or_false]
      rintro r (rfl | rfl)
      · exact hr
      · exact hr2)
  have hle := dig_length_le hw
  have hle2 := dig_length_le hw2
  refine Spec.enter (n := 19) (rs := [.tmp 4, .tmp 5, .tmp 6]) Tryd.func80 rfl rfl rfl rfl ?_
  refine WP.rs ?_
  refine WPL.as (v := .slice none 0 0) rfl rfl ?_
  refine WPL.as (v := .slice none 0 0) rfl rfl ?_
  refine WPL.as (v := .int .i64 0) rfl rfl ?_
  refine WPL.nil ?_
  refine WP.rs ?_
  refine WPL.mv (v := .slice _ _ _) rfl rfl ?_
  refine WPL.call rfl (wide_cut _ _ _ (hO.rows ⟨a, ws .u32 l⟩ (by simp)).weak hw hc rfl hb) Tryd.func74 rfl rfl rfl ?_
  rintro _ _ ⟨rfl, -, rfl⟩
  refine WPL.mv (v := .slice _ _ _) rfl rfl ?_
  refine WPL.call rfl (wide_cut _ _ _ (hO.rows ⟨a2, ws .u32 l2⟩ (by simp)).weak hw2 hc2 rfl hb2) Tryd.func74 rfl rfl rfl ?_
  rintro _ _ ⟨rfl, -, rfl⟩
  refine WPL.as (v := .slice _ _ _) rfl rfl ?_
  refine WPL.as (v := .slice _ _ _) rfl rfl ?_
  refine WPL.nil ?_
  refine WP.seq ?_
  refine WP.rs ?_
  refine WPL.mv (v := .slice _ _ _) rfl rfl ?_
  refine WPL.len rfl rfl ?_
  refine WPL.mv (v := .slice _ _ _) rfl rfl ?_
  refine WPL.len rfl rfl ?_
  refine WPL.max2 rfl rfl rfl ?_
  refine WPL.gt rfl rfl rfl ?_
  refine WPL.nil ?_
  refine WP.condP rfl (fun h1 => ?_) (fun h1 => ?_)
  · refine WP.rs ?_
    refine WPL.as (v := .slice none 0 0) rfl rfl ?_
    refine WPL.as (v := .slice none 0 0) rfl rfl ?_
    refine WPL.as (v := .int .i64 2) rfl rfl ?_
    refine WPL.nil ?_
    refine WP.ret ?_
    refine ⟨rfl, ?_⟩
    refine RO.tmp (v := .slice _ _ _) rfl ?_
    refine RO.tmp (v := .slice _ _ _) rfl ?_
    refine RO.tmp (v := .int .i64 _) rfl ?_
    refine RO.nil ?_
    exfalso; omega
  · refine WP.skip ?_
    refine WP.rs ?_
    refine WPL.mv (v := .slice _ _ _) rfl rfl ?_
    refine WPL.mv (v := .slice _ _ _) rfl rfl ?_
    refine WPL.as (v := .slice _ _ _) rfl rfl ?_
    refine WPL.as (v := .slice _ _ _) rfl rfl ?_
    refine WPL.as (v := .int .i64 0) rfl rfl ?_
    refine WPL.nil ?_
    refine WP.ret ?_
    refine ⟨rfl, ?_⟩
    refine RO.tmp (v := .slice _ _ _) rfl ?_
    refine RO.tmp (v := .slice _ _ _) rfl ?_
    refine RO.tmp (v := .int .i64 _) rfl ?_
    refine RO.nil ?_
    exact ⟨rfl, True.intro, True.intro, rfl⟩

theorem wide_fits {w : World} (a : Option Addr) (l : List Nat) (c : Nat) {n : Nat} (hr : RowOk w [] ⟨a, ws .u32 l⟩) (hw : Wd l) (hc : l.length ≤ c) (hn : n = l.length) (hb : l.length ≤ 70368744177664) (hf : (dig (val l)).length ≤ 8192) : Spec Tryd.prog 77 [.slice a n c] w (fun v w' => v = .tuple #[.slice a (dig (val l)).length (dig (val l)).length, .int .i64 0] ∧ w = w') := by
  subst hn
  have hO : Own [] w [] [] [⟨a, ws .u32 l⟩] w := Own.start (by intro e he; cases he) (by
      simp only [List.mem_cons, List.not_mem_nil, or_false]
      rintro r rfl
      · exact hr)
  have hle := dig_length_le hw
  refine Spec.enter (n := 15) (rs := [.tmp 2, .tmp 3]) Tryd.func77 rfl rfl rfl rfl ?_
  refine WP.rs ?_
  refine WPL.as (v := .slice none 0 0) rfl rfl ?_
  refine WPL.as (v := .int .i64 0) rfl rfl ?_
  refine WPL.nil ?_
  refine WP.seq ?_
  refine WP.rs ?_
  refine WPL.mv (v := .slice _ _ _) rfl rfl ?_
  refine WPL.call rfl (wide_cut _ _ _ (by first | exact hO.rd | exact hO.rdG (by assumption)) (by first | assumption | exact dig_wd _) (by first | omega | (simp only [val_dig]; omega)) rfl (by first | omega | (simp only [val_dig]; omega))) Tryd.func74 rfl rfl rfl ?_
  rintro _ _ ⟨rfl, nm5, rfl⟩
  have hO := hO.takeN nm5 inferInstance (by first | assumption | exact dig_wd _)
  try simp only [val_dig] at hO ⊢
  refine WPL.as (v := .slice _ _ _) rfl rfl ?_
  refine WPL.nil ?_
  refine WP.rs ?_
  refine WPL.mv (v := .slice _ _ _) rfl rfl ?_
  refine WPL.len rfl rfl ?_
  refine WPL.gt rfl rfl rfl ?_
  refine WPL.nil ?_
  refine WP.condP rfl (fun h1 => ?_) (fun h1 => ?_)
  · refine WP.rs ?_
    refine WPL.as (v := .slice none 0 0) rfl rfl ?_
    refine WPL.as (v := .int .i64 2) rfl rfl ?_
    refine WPL.nil ?_
    refine WP.ret ?_
    refine ⟨rfl, ?_⟩
    refine RO.tmp (v := .slice _ _ _) rfl ?_
    refine RO.tmp (v := .int .i64 _) rfl ?_
    refine RO.nil ?_
    exfalso; omega
  · refine WP.skip ?_
    refine WP.rs ?_
    refine WPL.mv (v := .slice _ _ _) rfl rfl ?_
    refine WPL.mv (v := .slice _ _ _) rfl rfl ?_
    refine WPL.len rfl rfl ?_
    refine WPL.mv (v := .slice _ _ _) rfl rfl ?_
    refine WPL.len rfl rfl ?_
    refine WPL.slHM rfl rfl rfl rfl rfl (by omega) (by omega) rfl ?_
    refine WPL.as (v := .slice _ _ _) rfl rfl ?_
    refine WPL.as (v := .int .i64 0) rfl rfl ?_
    refine WPL.nil ?_
    refine WP.ret ?_
    refine ⟨rfl, ?_⟩
    refine RO.tmp (v := .slice _ _ _) rfl ?_
    refine RO.tmp (v := .int .i64 _) rfl ?_
    refine RO.nil ?_
    exact ⟨rfl, rfl⟩

theorem wide_Len {w : World} (a : Option Addr) (l : List Nat) (c : Nat) {n : Nat} (hr : RowOk w [] ⟨a, ws .u32 l⟩) (hw : Wd l) (hc : l.length ≤ c) (hn : n = l.length) (hb : l.length ≤ 70368744177664) : Spec Tryd.prog 75 [.slice a n c] w (fun v w' => v = .int .i64 ((blen (val l) : Nat) : Int) ∧ w = w') := by
  subst hn
  have hO : Own [] w [] [] [⟨a, ws .u32 l⟩] w := Own.start (by intro e he; cases he) (by
      simp only [List.mem_cons, List.not_mem_nil, or_false]
      rintro r rfl
      · exact hr)
  have hle := dig_length_le hw
  refine Spec.enter (n := 20) (rs := [.tmp 2]) Tryd.func75 rfl rfl rfl rfl ?_
  refine WP.rs ?_
  refine WPL.as (v := .int .i64 0) rfl rfl ?_
  refine WPL.nil ?_
  refine WP.seq ?_
  refine WP.rs ?_
  refine WPL.mv (v := .slice _ _ _) rfl rfl ?_
  refine WPL.call rfl (wide_cut _ _ _ (by first | exact hO.rd | exact hO.rdG (by assumption)) (by first | assumption | exact dig_wd _) (by first | omega | (simp only [val_dig]; omega)) rfl (by first | omega | (simp only [val_dig]; omega))) Tryd.func74 rfl rfl rfl ?_
  rintro _ _ ⟨rfl, nm4, rfl⟩
  have hO := hO.takeN nm4 inferInstance (by first | assumption | exact dig_wd _)
  try simp only [val_dig] at hO ⊢
  refine WPL.as (v := .slice _ _ _) rfl rfl ?_
  refine WPL.nil ?_
  refine WP.rs ?_
  refine WPL.mv (v := .slice _ _ _) rfl rfl ?_
  refine WPL.len rfl rfl ?_
  refine WPL.eq rfl rfl rfl ?_
  refine WPL.nil ?_
  refine WP.condP rfl (fun h1 => ?_) (fun h1 => ?_)
  · refine WP.rs ?_
    refine WPL.as (v := .int .i64 0) rfl rfl ?_
    refine WPL.nil ?_
    refine WP.ret ?_
    refine ⟨rfl, ?_⟩
    refine RO.tmp (v := .int .i64 _) rfl ?_
    refine RO.nil ?_
    refine ⟨?_, rfl⟩
    have : val l = 0 := dig_eq_nil.1 (List.eq_nil_of_length_eq_zero (by omega))
    rw [this]; rfl
  · refine WP.skip ?_
    refine WP.rs ?_
    refine WPL.mv (v := .slice _ _ _) rfl rfl ?_
    refine WPL.len rfl rfl ?_
    refine WPL.subI rfl rfl (by omega) rfl ?_
    refine WPL.mulI rfl rfl (by omega) rfl ?_
    refine WPL.mv (v := .slice _ _ _) rfl rfl ?_
    refine WPL.mv (v := .slice _ _ _) rfl rfl ?_
    refine WPL.len rfl rfl ?_
    refine WPL.subI rfl rfl (by omega) rfl ?_
    refine WPL.ixR (vals := ws .u32 (dig (val l))) (j := (dig (val l)).length - 1) rfl hO inferInstance rfl (by omega) (by omega) (by simp; omega) rfl ?_
    refine WPL.ldR rfl hO inferInstance (ws_get1 rfl (by omega)) rfl rfl ?_
    refine WPL.call rfl (len32 _ (by first | assumption | exact (dig_wd _).get _ | exact Wd.get (by assumption) _)) Tryd.func88 rfl rfl rfl ?_
    rintro _ _ ⟨rfl, rfl⟩
    refine WPL.addI rfl rfl (by have := @blen_le ((dig (val l)).getD ((dig (val l)).length - 1) 0) 32; have := (dig_wd (val l)).get ((dig (val l)).length - 1); omega) rfl ?_
    refine WPL.as (v := .int .i64 _) rfl rfl ?_
    refine WPL.nil ?_
    refine WP.ret ?_
    refine ⟨rfl, ?_⟩
    refine RO.tmp (v := .int .i64 _) rfl ?_
    refine RO.nil ?_
    refine ⟨?_, rfl⟩
    have hne : val l ≠ 0 := fun e => by rw [e, dig_zero] at h1; exact h1 rfl
    have := blen_dig hne
    show Value.int .i64 _ = _
    congr 1; omega

theorem wide_Low {w : World} (ht : TabOk tabs w) (a : Option Addr) (l : List Nat) (c : Nat) {n : Nat} (hr : RowOk w [] ⟨a, ws .u32 l⟩) (hw : Wd l) (hc : l.length ≤ c) (hn : n = l.length) (hb : l.length ≤ 70368744177664) : Spec Tryd.prog 72 [.slice a n c] w (fun v w' => v = .int .i64 ((tz (val l) : Nat) : Int) ∧ w = w') := by
  subst hn
  have hO : Own tabs w [] [] [⟨a, ws .u32 l⟩] w := Own.start ht (by
      simp only [List.mem_cons, List.not_mem_nil, or_false]
      rintro r rfl
      · exact hr)
  refine Spec.enter (n := 20) (rs := [.tmp 2]) Tryd.func72 rfl rfl rfl rfl ?_
  refine WP.rs ?_
  refine WPL.as (v := .int .i64 0) rfl rfl ?_
  refine WPL.nil ?_
  refine WP.seq ?_
  refine WP.rs ?_
  refine WPL.mv (v := .slice _ _ _) rfl rfl ?_
  refine WPL.len rfl rfl ?_
  refine WPL.mv (v := .int .i64 0) rfl rfl ?_
  refine WPL.nil ?_
  refine WP.block ?_
  refine WP.loop (fun m σ ds w' => ∃ i, m + i = l.length ∧ val (l.take i) = 0 ∧ Has σ [(5, .slice a l.length c), (6, .int .i64 (l.length : Int)), (7, .int .i64 (i : Int))] ∧ ds = [] ∧ w = w') l.length ?_ ?_
  · exact ⟨0, rfl, rfl, ⟨rfl, rfl, rfl, trivial⟩, rfl, rfl⟩
  · rintro m σ ds _ ⟨i, hi, hv, hH, rfl, rfl⟩
    refine WP.reset hH ?_
    refine WP.rs ?_
    refine WPL.lt rfl rfl rfl ?_
    refine WPL.nil ?_
    refine WP.seq ?_
    refine WP.condP rfl (fun h1 => ?_) (fun h1 => ?_)
    · refine WP.skip ?_
      refine WP.seq ?_
      refine WP.block ?_
      refine WP.rs ?_
      refine WPL.mv (v := .int .i64 _) rfl rfl ?_
      refine WPL.ixR rfl hO inferInstance rfl rfl (by first | omega | (simp; omega)) (by first | omega | (simp; omega)) rfl ?_
      refine WPL.ldR rfl hO inferInstance (ws_get1 rfl (by omega)) rfl rfl ?_
      refine WPL.as (v := .int .i64 _) rfl rfl ?_
      refine WPL.as (v := .int .u32 _) rfl rfl ?_
      refine WPL.nil ?_
      refine WP.rs ?_
      refine WPL.mv (v := .int .u32 _) rfl rfl ?_
      refine WPL.ne rfl rfl rfl ?_
      refine WPL.nil ?_
      refine WP.condP rfl (fun h2 => ?_) (fun h2 => ?_)
      · refine WP.rs ?_
        refine WPL.mv (v := .int .i64 _) rfl rfl ?_
        refine WPL.mulI rfl rfl (by omega) rfl ?_
        refine WPL.mv (v := .int .u32 _) rfl rfl ?_
        refine WPL.call rfl (tz32 hO.tab _ (hw.get _) (by omega)) Tryd.func87 rfl rfl rfl ?_
        rintro _ _ ⟨rfl, rfl⟩
        have htz := tz_lt32 (hw.get i) (by omega)
        refine WPL.addI rfl rfl (by omega) rfl ?_
        refine WPL.as (v := .int .i64 _) rfl rfl ?_
        refine WPL.nil ?_
        refine WP.ret ?_
        refine ⟨rfl, ?_⟩
        refine RO.tmp (v := .int .i64 _) rfl ?_
        refine RO.nil ?_
        refine ⟨?_, rfl⟩
        show Value.int .i64 _ = _
        rw [tz_words hw (by omega) hv (by omega)]
        show Value.int .i64 _ = _
        congr 1
      · refine WP.skip ?_
        refine WP.region ?_
        refine WPL.addI rfl rfl (by omega) rfl ?_
        refine WPL.mv (v := .int .i64 _) rfl rfl ?_
        refine WPL.nil ?_
        refine ⟨m - 1, by omega, i + 1, by omega, val_take_zero_step hv (by omega), ⟨rfl, rfl, rfl, trivial⟩, rfl, rfl⟩
    · refine WP.exit ?_
      refine WP.rs ?_
      refine WPL.as (v := .int .i64 0) rfl rfl ?_
      refine WPL.nil ?_
      refine WP.ret ?_
      refine ⟨rfl, ?_⟩
      refine RO.tmp (v := .int .i64 _) rfl ?_
      refine RO.nil ?_
      refine ⟨?_, rfl⟩
      have e : i = l.length := by omega
      rw [e, List.take_length] at hv
      rw [hv]; show Value.int .i64 _ = _; rw [show tz 0 = 0 from by rw [tz]; rfl]; rfl

theorem wide_Bit {w : World} (a : Option Addr) (l : List Nat) (c : Nat) {n : Nat} (hr : RowOk w [] ⟨a, ws .u32 l⟩) (hw : Wd l) (hc : l.length ≤ c) (hn : n = l.length) (hb : l.length ≤ 70368744177664) (k : Nat) (hk : k ≤ 9223372036854775807) : Spec Tryd.prog 85 [.slice a n c, .int .i64 (k : Int)] w (fun v w' => v = .bool (decide (val l / 2 ^ k % 2 = 1)) ∧ w = w') := by
  subst hn
  have hO : Own [] w [] [] [⟨a, ws .u32 l⟩] w := Own.start (by intro e he; cases he) (by
      simp only [List.mem_cons, List.not_mem_nil, or_false]
      rintro r rfl
      · exact hr)
  refine Spec.enter (n := 26) (rs := [.tmp 4]) Tryd.func85 rfl rfl rfl rfl ?_
  refine WP.rs ?_
  refine WPL.as (v := .bool false) rfl rfl ?_
  refine WPL.nil ?_
  refine WP.rs ?_
  refine WPL.mv (v := .int .i64 _) rfl rfl ?_
  refine WPL.ge rfl rfl rfl ?_
  refine WPL.mv (v := .bool _) rfl rfl ?_
  refine WPL.split (s := 7) rfl (fun h1 => ?_) (fun h1 => ?_)
  · have ph1 := of_decide_eq_true h1
    refine WPL.guardT rfl rfl h1 ?_
    refine WPL.mv (v := .int .i64 _) rfl rfl ?_
    refine WPL.guardT rfl rfl h1 ?_
    refine WPL.quoN (b := 32) rfl rfl (by omega) (by omega) rfl ?_
    refine WPL.guardT rfl rfl h1 ?_
    refine WPL.mv (v := .slice _ _ _) rfl rfl ?_
    refine WPL.guardT rfl rfl h1 ?_
    refine WPL.len rfl rfl ?_
    refine WPL.guardT rfl rfl h1 ?_
    refine WPL.lt rfl rfl rfl ?_
    refine WPL.pkT (v := .bool _) rfl h1 rfl rfl ?_
    refine WPL.mv (v := .bool _) rfl rfl ?_
    refine WPL.split (s := 14) rfl (fun h2 => ?_) (fun h2 => ?_)
    · have ph2 := of_decide_eq_true h2
      refine WPL.guardT rfl rfl h2 ?_
      refine WPL.mv (v := .slice _ _ _) rfl rfl ?_
      refine WPL.guardT rfl rfl h2 ?_
      refine WPL.mv (v := .int .i64 _) rfl rfl ?_
      refine WPL.guardT rfl rfl h2 ?_
      refine WPL.quoN (b := 32) rfl rfl (by omega) (by omega) rfl ?_
      refine WPL.guardT rfl rfl h2 ?_
      refine WPL.ixR rfl hO inferInstance rfl rfl (by first | omega | (simp; omega)) (by first | omega | (simp; omega)) rfl ?_
      refine WPL.guardT rfl rfl h2 ?_
      refine WPL.ldR rfl hO inferInstance (ws_get1 rfl (by omega)) rfl rfl ?_
      refine WPL.guardT rfl rfl h2 ?_
      refine WPL.mv (v := .int .i64 _) rfl rfl ?_
      refine WPL.guardT rfl rfl h2 ?_
      refine WPL.remN (b := 32) rfl rfl (by omega) rfl ?_
      refine WPL.guardT rfl rfl h2 ?_
      refine WPL.shr_u32 rfl rfl (by first | omega | exact Nat.mod_lt _ (by decide) | exact Wd.get (by assumption) _ | exact (dig_wd _).get _ | exact Nat.lt_of_le_of_lt (Nat.div_le_self ..) (Wd.get (by assumption) _) | exact Nat.lt_of_lt_of_le (Wd.get (by assumption) _) (by decide)) rfl ?_
      refine WPL.guardT rfl rfl h2 ?_
      refine WPL.and_u32 (b := 1) rfl rfl (by first | omega | exact Nat.mod_lt _ (by decide) | exact Wd.get (by assumption) _ | exact (dig_wd _).get _ | exact Nat.lt_of_le_of_lt (Nat.div_le_self ..) (Wd.get (by assumption) _) | exact Nat.lt_of_lt_of_le (Wd.get (by assumption) _) (by decide)) (by first | omega | exact Nat.mod_lt _ (by decide) | exact Wd.get (by assumption) _ | exact (dig_wd _).get _ | exact Nat.lt_of_le_of_lt (Nat.div_le_self ..) (Wd.get (by assumption) _) | exact Nat.lt_of_lt_of_le (Wd.get (by assumption) _) (by decide)) rfl ?_
      refine WPL.guardT rfl rfl h2 ?_
      refine WPL.eq rfl rfl rfl ?_
      refine WPL.pkT (v := .bool _) rfl h2 rfl rfl ?_
      refine WPL.as (v := .bool _) rfl rfl ?_
      refine WPL.nil ?_
      refine WP.ret ?_
      refine ⟨rfl, ?_⟩
      refine RO.tmp (v := .bool _) rfl ?_
      refine RO.nil ?_
      refine ⟨?_, rfl⟩
      show Value.bool (decide (((l.getD (k / 32) 0 / 2 ^ (k % 32) &&& 1 : Nat) : Int) = 1)) = _
      rw [bit_get hw k, Nat.and_one_is_mod]
      congr 1
      exact decide_eq_decide.2 (by omega)
    · have ph2 := of_decide_eq_false h2
      refine WPL.guardF rfl rfl rfl h2 ?_
      refine WPL.guardF rfl rfl rfl h2 ?_
      refine WPL.guardF rfl rfl rfl h2 ?_
      refine WPL.guardF rfl rfl rfl h2 ?_
      refine WPL.guardF rfl rfl rfl h2 ?_
      refine WPL.guardF rfl rfl rfl h2 ?_
      refine WPL.guardF rfl rfl rfl h2 ?_
      refine WPL.guardF rfl rfl rfl h2 ?_
      refine WPL.guardF rfl rfl rfl h2 ?_
      refine WPL.guardF rfl rfl rfl h2 ?_
      refine WPL.pkF (v := .bool false) rfl h2 rfl rfl ?_
      refine WPL.as (v := .bool _) rfl rfl ?_
      refine WPL.nil ?_
      refine WP.ret ?_
      refine ⟨rfl, ?_⟩
      refine RO.tmp (v := .bool _) rfl ?_
      refine RO.nil ?_
      refine ⟨?_, rfl⟩
      have e := bit_far (k := k) hw (by omega)
      rw [e]; rfl
  · have ph1 := of_decide_eq_false h1
    exact absurd (of_decide_eq_false h1) (by omega)

theorem wide_Cmp {w : World} (a : Option Addr) (l : List Nat) (c : Nat) {n : Nat} (hr : RowOk w [] ⟨a, ws .u32 l⟩) (hw : Wd l) (hc : l.length ≤ c) (hn : n = l.length) (hb : l.length ≤ 70368744177664)(a2 : Option Addr) (l2 : List Nat) (c2 : Nat) {n2 : Nat} (hr2 : RowOk w [] ⟨a2, ws .u32 l2⟩) (hw2 : Wd l2) (hc2 : l2.length ≤ c2) (hn2 : n2 = l2.length) (hb2 : l2.length ≤ 70368744177664) : Spec Tryd.prog 61 [.slice a n c, .slice a2 n2 c2] w (fun v w' => v = .int .i64 (cmpN (val l) (val l2)) ∧ FrX [] w w') := by
  subst hn hn2
  have hO : Own [] w [] [] [⟨a, ws .u32 l⟩, ⟨a2, ws .u32 l2⟩] w := Own.start (by intro e he; cases he) (by
      simp only [List.mem_cons, List.not_mem_nil, or_false]
      rintro r (rfl | rfl)
      · exact hr
      · exact hr2)
  have hle := dig_length_le hw
  have hle2 := dig_length_le hw2
  refine Spec.enter (n := 49) (rs := [.tmp 4]) Tryd.func61 rfl rfl rfl rfl ?_
  refine WP.rs ?_
  refine WPL.as (v := .int .i64 0) rfl rfl ?_
  refine WPL.nil ?_
  refine WP.rs ?_
  refine WPL.mv (v := .slice _ _ _) rfl rfl ?_
  refine WPL.call rfl (wide_cut _ _ _ hO.rd (by assumption) (by assumption) rfl (by assumption)) Tryd.func74 rfl rfl rfl ?_
  rintro _ _ ⟨rfl, nm, rfl⟩
  have hO := hO.takeN nm inferInstance (by assumption)
  clear nm
  refine WPL.mv (v := .slice _ _ _) rfl rfl ?_
  refine WPL.call rfl (wide_cut _ _ _ hO.rd (by assumption) (by assumption) rfl (by assumption)) Tryd.func74 rfl rfl rfl ?_
  rintro _ _ ⟨rfl, nm, rfl⟩
  have hO := hO.takeN nm inferInstance (by assumption)
  clear nm
  refine WPL.as (v := .slice _ _ _) rfl rfl ?_
  refine WPL.as (v := .slice _ _ _) rfl rfl ?_
  refine WPL.nil ?_
  refine WP.seq ?_
  refine WP.block ?_
  refine WP.rs ?_
  refine WPL.mv (v := .slice _ _ _) rfl rfl ?_
  refine WPL.len rfl rfl ?_
  refine WPL.mv (v := .slice _ _ _) rfl rfl ?_
  refine WPL.len rfl rfl ?_
  refine WPL.lt rfl rfl rfl ?_
  refine WPL.as (v := .bool _) rfl rfl ?_
  refine WPL.nil ?_
  refine WP.condP rfl (fun h1 => ?_) (fun h1 => ?_)
  · refine WP.rs ?_
    refine WPL.as (v := .int .i64 (-1)) rfl rfl ?_
    refine WPL.nil ?_
    refine WP.ret ?_
    refine ⟨rfl, ?_⟩
    refine RO.tmp (v := .int .i64 _) rfl ?_
    refine RO.nil ?_
    exact ⟨by rw [cmpN_lt (cmp_len (by omega))]; rfl, hO.fr⟩
  · refine WP.rs ?_
    refine WPL.mv (v := .slice _ _ _) rfl rfl ?_
    refine WPL.len rfl rfl ?_
    refine WPL.mv (v := .slice _ _ _) rfl rfl ?_
    refine WPL.len rfl rfl ?_
    refine WPL.gt rfl rfl rfl ?_
    refine WPL.as (v := .bool _) rfl rfl ?_
    refine WPL.nil ?_
    refine WP.condP rfl (fun h2 => ?_) (fun h2 => ?_)
    · refine WP.rs ?_
      refine WPL.as (v := .int .i64 1) rfl rfl ?_
      refine WPL.nil ?_
      refine WP.ret ?_
      refine ⟨rfl, ?_⟩
      refine RO.tmp (v := .int .i64 _) rfl ?_
      refine RO.nil ?_
      exact ⟨by rw [cmpN_gt (cmp_len (by omega))]; rfl, hO.fr⟩
    · refine WP.skip ?_
      refine WP.seq ?_
      refine WP.rs ?_
      refine WPL.mv (v := .slice _ _ _) rfl rfl ?_
      refine WPL.len rfl rfl ?_
      refine WPL.subI rfl rfl (by omega) rfl ?_
      refine WPL.as (v := .int .i64 _) rfl rfl ?_
      refine WPL.nil ?_
      refine WP.block ?_
      refine WP.loop (fun m σ ds w' => m ≤ (dig (val l)).length ∧ val ((dig (val l)).drop m) = val ((dig (val l2)).drop m) ∧ Has σ [(0, .slice a (dig (val l)).length c), (1, .slice a2 (dig (val l2)).length c2), (5, .int .i64 ((m : Int) - 1))] ∧ ds = [] ∧ Own [] w [] [] [⟨a2, ws .u32 (dig (val l2))⟩, ⟨a, ws .u32 (dig (val l))⟩, ⟨a, ws .u32 l⟩, ⟨a2, ws .u32 l2⟩] w') (dig (val l)).length ?_ ?_
      · exact ⟨Nat.le_refl _, by rw [List.drop_length, show (dig (val l)).length = (dig (val l2)).length by omega, List.drop_length], ⟨rfl, rfl, rfl, trivial⟩, rfl, hO⟩
      · rintro m σ ds w ⟨hm, hv, hH, rfl, hO⟩
        refine WP.reset hH ?_
        refine WP.seq ?_
        refine WP.rs ?_
        refine WPL.mv (v := .int .i64 _) rfl rfl ?_
        refine WPL.ge rfl rfl rfl ?_
        refine WPL.nil ?_
        refine WP.condP rfl (fun h3 => ?_) (fun h3 => ?_)
        · refine WP.skip ?_
          refine WP.seq ?_
          refine WP.block ?_
          refine WP.block ?_
          refine WP.seq ?_
          refine WP.draw [(0, 0), (1, 0), (2, 1), (3, 1), (4, 0), (5, 0), (6, 1), (7, 1), (8, 0), (9, 0)] [] mixed (by kernel_rfl) (by kernel_rfl) rfl hO (fun w hO => ?_)
          refine WPD.pv rfl rfl (fun w k' h => WPL.mv (v := .slice _ _ _) rfl rfl (WPL.nil h)) ?_
          refine WPD.pv rfl rfl (fun w k' h => WPL.mv (v := .int .i64 _) rfl rfl (WPL.nil h)) ?_
          refine WPD.val rfl rfl (fun w hO k' h => WPL.ixR (j := m - 1) rfl hO inferInstance rfl (by omega) (by omega) (by first | omega | (simp; omega)) rfl (WPL.nil h)) ?_
          refine WPD.val rfl rfl (fun w hO k' h => WPL.ldR rfl hO inferInstance (ws_get1 rfl (by omega)) rfl rfl (WPL.nil h)) ?_
          refine WPD.pv rfl rfl (fun w k' h => WPL.mv (v := .slice _ _ _) rfl rfl (WPL.nil h)) ?_
          refine WPD.pv rfl rfl (fun w k' h => WPL.mv (v := .int .i64 _) rfl rfl (WPL.nil h)) ?_
          refine WPD.val rfl rfl (fun w hO k' h => WPL.ixR (j := m - 1) rfl hO inferInstance rfl (by omega) (by omega) (by first | omega | (simp; omega)) rfl (WPL.nil h)) ?_
          refine WPD.val rfl rfl (fun w hO k' h => WPL.ldR rfl hO inferInstance (ws_get1 rfl (by omega)) rfl rfl (WPL.nil h)) ?_
          refine WPD.pv rfl rfl (fun w k' h => WPL.lt rfl rfl rfl (WPL.nil h)) ?_
          refine WPD.pv rfl rfl (fun w k' h => WPL.as (v := .bool _) rfl rfl (WPL.nil h)) ?_
          refine WPD.nil hO ?_
          refine WP.condP rfl (fun h4 => ?_) (fun h4 => ?_)
          · refine WP.rs ?_
            refine WPL.as (v := .int .i64 (-1)) rfl rfl ?_
            refine WPL.nil ?_
            refine WP.ret ?_
            refine ⟨rfl, ?_⟩
            refine RO.tmp (v := .int .i64 _) rfl ?_
            refine RO.nil ?_
            have := cmp_word (dig_wd (val l)) (dig_wd (val l2)) (i := m - 1) (by omega) (by omega) (by rw [show m - 1 + 1 = m by omega]; exact hv) (by omega)
            rw [val_dig, val_dig] at this
            exact ⟨by rw [cmpN_lt this]; rfl, hO.fr⟩
          · refine WP.seq ?_
            refine WP.draw [(0, 0), (1, 0), (2, 1), (3, 1), (4, 0), (5, 0), (6, 1), (7, 1), (8, 0), (9, 0)] [] mixed (by kernel_rfl) (by kernel_rfl) rfl hO (fun w hO => ?_)
            refine WPD.pv rfl rfl (fun w k' h => WPL.mv (v := .slice _ _ _) rfl rfl (WPL.nil h)) ?_
            refine WPD.pv rfl rfl (fun w k' h => WPL.mv (v := .int .i64 _) rfl rfl (WPL.nil h)) ?_
            refine WPD.val rfl rfl (fun w hO k' h => WPL.ixR (j := m - 1) rfl hO inferInstance rfl (by omega) (by omega) (by first | omega | (simp; omega)) rfl (WPL.nil h)) ?_
            refine WPD.val rfl rfl (fun w hO k' h => WPL.ldR rfl hO inferInstance (ws_get1 rfl (by omega)) rfl rfl (WPL.nil h)) ?_
            refine WPD.pv rfl rfl (fun w k' h => WPL.mv (v := .slice _ _ _) rfl rfl (WPL.nil h)) ?_
            refine WPD.pv rfl rfl (fun w k' h => WPL.mv (v := .int .i64 _) rfl rfl (WPL.nil h)) ?_
            refine WPD.val rfl rfl (fun w hO k' h => WPL.ixR (j := m - 1) rfl hO inferInstance rfl (by omega) (by omega) (by first | omega | (simp; omega)) rfl (WPL.nil h)) ?_
            refine WPD.val rfl rfl (fun w hO k' h => WPL.ldR rfl hO inferInstance (ws_get1 rfl (by omega)) rfl rfl (WPL.nil h)) ?_
            refine WPD.pv rfl rfl (fun w k' h => WPL.gt rfl rfl rfl (WPL.nil h)) ?_
            refine WPD.pv rfl rfl (fun w k' h => WPL.as (v := .bool _) rfl rfl (WPL.nil h)) ?_
            refine WPD.nil hO ?_
            refine WP.condP rfl (fun h5 => ?_) (fun h5 => ?_)
            · refine WP.rs ?_
              refine WPL.as (v := .int .i64 1) rfl rfl ?_
              refine WPL.nil ?_
              refine WP.ret ?_
              refine ⟨rfl, ?_⟩
              refine RO.tmp (v := .int .i64 _) rfl ?_
              refine RO.nil ?_
              have := cmp_word (dig_wd (val l2)) (dig_wd (val l)) (i := m - 1) (by omega) (by omega) (by rw [show m - 1 + 1 = m by omega]; exact hv.symm) (by omega)
              rw [val_dig, val_dig] at this
              exact ⟨by rw [cmpN_gt this]; rfl, hO.fr⟩
            · refine WP.skip ?_
              refine WP.region ?_
              refine WPL.mv (v := .int .i64 _) rfl rfl ?_
              refine WPL.subI rfl rfl (by omega) rfl ?_
              refine WPL.as (v := .int .i64 _) rfl rfl ?_
              refine WPL.nil ?_
              refine ⟨m - 1, by omega, by omega, ?_, ⟨rfl, rfl, by show Value.int .i64 _ = _; congr 1; omega, trivial⟩, rfl, hO⟩
              exact drop_step (by rw [show m - 1 + 1 = m by omega]; exact hv) (by omega)
        · refine WP.exit ?_
          refine WP.rs ?_
          refine WPL.as (v := .int .i64 0) rfl rfl ?_
          refine WPL.nil ?_
          refine WP.ret ?_
          refine ⟨rfl, ?_⟩
          refine RO.tmp (v := .int .i64 _) rfl ?_
          refine RO.nil ?_
          have e0 : m = 0 := by omega
          subst e0
          rw [List.drop_zero, List.drop_zero, val_dig, val_dig] at hv
          exact ⟨by rw [cmpN_eq hv]; rfl, hO.fr⟩

theorem wide_less {w0 : World} (a : Option Addr) (l : List Nat) (c : Nat) {n : Nat} (hr : RowOk w0 [] ⟨a, ws .u32 l⟩) (hw : Wd l) (hc : l.length ≤ c) (hn : n = l.length) (hb : l.length ≤ 70368744177664)(a2 : Option Addr) (l2 : List Nat) (c2 : Nat) {n2 : Nat} (hr2 : RowOk w0 [] ⟨a2, ws .u32 l2⟩) (hw2 : Wd l2) (hc2 : l2.length ≤ c2) (hn2 : n2 = l2.length) (hb2 : l2.length ≤ 70368744177664) (hle : val l2 ≤ val l) (hll : l2.length ≤ l.length) : Spec Tryd.prog 81 [.slice a n c, .slice a2 n2 c2] w0 (fun v w' => FrX [] w0 w' ∧ WRes w0 w' 60 (val l - val l2) l.length v) := by
  subst hn hn2
  have hO : Own [] w0 [] [] [⟨a, ws .u32 l⟩, ⟨a2, ws .u32 l2⟩] w0 := Own.start (by intro e he; cases he) (by
      simp only [List.mem_cons, List.not_mem_nil, or_false]
      rintro r (rfl | rfl)
      · exact hr
      · exact hr2)
  refine Spec.enter (n := 40) (rs := [.tmp 4]) Tryd.func81 rfl rfl rfl rfl ?_
  refine WP.rs ?_
  refine WPL.as (v := .slice none 0 0) rfl rfl ?_
  refine WPL.nil ?_
  refine WP.rs ?_
  refine WPL.mv (v := .slice _ _ _) rfl rfl ?_
  refine WPL.len rfl rfl ?_
  refine WPL.mkW rfl rfl rfl rfl hO (by omega) (by omega) (by omega) rfl (fun b1 w hO => ?_)
  refine WPL.as (v := .slice _ _ _) rfl rfl ?_
  refine WPL.nil ?_
  refine WP.rs ?_
  refine WPL.as (v := .int .u32 ((0 : Nat) : Int)) rfl rfl ?_
  refine WPL.nil ?_
  refine WP.seq ?_
  refine WP.rs ?_
  refine WPL.mv (v := .slice _ _ _) rfl rfl ?_
  refine WPL.len rfl rfl ?_
  refine WPL.mv (v := .int .i64 0) rfl rfl ?_
  refine WPL.nil ?_
  refine WP.block ?_
  refine WP.loop (fun m σ ds w' => ∃ i q o, m + i = l.length ∧ o.length = l.length ∧ Wd o ∧ q ≤ 1 ∧ val (o.take i) + val (l2.take i) = val (l.take i) + q * 4294967296 ^ i ∧ Has σ [(0, .slice a l.length c), (1, .slice a2 l2.length c2), (5, .slice (some ⟨b1, 0, none⟩) l.length l.length), (6, .int .u32 (q : Int)), (13, .int .i64 (l.length : Int)), (14, .int .i64 (i : Int))] ∧ ds = [] ∧ Own [] w0 [] [⟨b1, ws .u32 o, 60⟩] [⟨a, ws .u32 l⟩, ⟨a2, ws .u32 l2⟩] w') l.length ?_ ?_
  · exact ⟨0, 0, _, rfl, by simp, wd_zeros _, by decide, by simp [val], ⟨rfl, rfl, rfl, rfl, rfl, rfl, trivial⟩, rfl, hO⟩
  · rintro m σ ds w ⟨i, q, o, hi, ho, hwo, hq, hv, hH, rfl, hO⟩
    refine WP.reset hH ?_
    refine WP.rs ?_
    refine WPL.lt rfl rfl rfl ?_
    refine WPL.nil ?_
    refine WP.seq ?_
    refine WP.condP rfl (fun h1 => ?_) (fun h1 => ?_)
    · refine WP.skip ?_
      refine WP.seq ?_
      refine WP.block ?_
      refine WP.rs ?_
      refine WPL.mv (v := .int .i64 _) rfl rfl ?_
      refine WPL.as (v := .int .i64 _) rfl rfl ?_
      refine WPL.nil ?_
      refine WP.rs ?_
      refine WPL.as (v := .int .u32 ((0 : Nat) : Int)) rfl rfl ?_
      refine WPL.nil ?_
      refine WP.seq ?_
      refine WP.rs ?_
      refine WPL.mv (v := .int .i64 _) rfl rfl ?_
      refine WPL.mv (v := .slice _ _ _) rfl rfl ?_
      refine WPL.len rfl rfl ?_
      refine WPL.lt rfl rfl rfl ?_
      refine WPL.nil ?_
      refine WP.condP rfl (fun h2 => ?_) (fun h2 => ?_)
      · refine WP.region ?_
        refine WPL.mv (v := .slice _ _ _) rfl rfl ?_
        refine WPL.mv (v := .int .i64 _) rfl rfl ?_
        refine WPL.ixR rfl hO inferInstance rfl rfl (by first | omega | (simp; omega)) (by first | omega | (simp; omega)) rfl ?_
        refine WPL.ldR rfl hO inferInstance (ws_get1 rfl (by omega)) rfl rfl ?_
        refine WPL.as (v := .int .u32 _) rfl rfl ?_
        refine WPL.nil ?_
        refine WP.region ?_
        refine WPL.mv (v := .slice _ _ _) rfl rfl ?_
        refine WPL.mv (v := .int .i64 _) rfl rfl ?_
        refine WPL.mv (v := .slice _ _ _) rfl rfl ?_
        refine WPL.mv (v := .int .i64 _) rfl rfl ?_
        refine WPL.ixR rfl hO inferInstance rfl rfl (by first | omega | (simp; omega)) (by first | omega | (simp; omega)) rfl ?_
        refine WPL.ldR rfl hO inferInstance (ws_get1 rfl (by omega)) rfl rfl ?_
        refine WPL.mv (v := .int .u32 _) rfl rfl ?_
        refine WPL.mv (v := .int .u32 _) rfl rfl ?_
        refine WPL.call rfl (sub32 _ _ _ (by first | assumption | exact Wd.get (by assumption) _ | omega | decide) (by first | assumption | exact Wd.get (by assumption) _ | omega | decide) (by omega)) Tryd.func89 rfl rfl rfl ?_
        rintro _ _ ⟨rfl, rfl⟩
        refine WPL.mv (v := .tuple #[.int .u32 _, .int .u32 _]) rfl rfl ?_
        refine WPL.ext (v := .int .u32 _) rfl rfl rfl ?_
        refine WPL.ext (v := .int .u32 _) rfl rfl rfl ?_
        refine WPL.ixL rfl rfl rfl (by omega) rfl ?_
        refine WPL.stW rfl rfl rfl hO inferInstance inferInstance rfl (by first | omega | (simp; omega)) (fun w hO => ?_)
        refine WPL.as (v := .int .u32 _) rfl rfl ?_
        refine WPL.nil ?_
        refine WP.region ?_
        refine WPL.addI rfl rfl (by omega) rfl ?_
        refine WPL.mv (v := .int .i64 _) rfl rfl ?_
        refine WPL.nil ?_
        first
        | (have st := less_next (c := q) (show i < l.length by omega) ho hwo hw hw2 hq (y := 0) (getD_ge (by omega)) hv
           exact ⟨m - 1, by omega, i + 1, _, _, by omega, st.1, st.2.1, st.2.2.1, st.2.2.2, ⟨rfl, rfl, rfl, rfl, rfl, rfl, trivial⟩, rfl, hO⟩)
        | (have st := less_next (c := q) (show i < l.length by omega) ho hwo hw hw2 hq (y := l2.getD i 0) (rfl) hv
           exact ⟨m - 1, by omega, i + 1, _, _, by omega, st.1, st.2.1, st.2.2.1, st.2.2.2, ⟨rfl, rfl, rfl, rfl, rfl, rfl, trivial⟩, rfl, hO⟩)
      · refine WP.skip ?_
        refine WP.region ?_
        refine WPL.mv (v := .slice _ _ _) rfl rfl ?_
        refine WPL.mv (v := .int .i64 _) rfl rfl ?_
        refine WPL.mv (v := .slice _ _ _) rfl rfl ?_
        refine WPL.mv (v := .int .i64 _) rfl rfl ?_
        refine WPL.ixR rfl hO inferInstance rfl rfl (by first | omega | (simp; omega)) (by first | omega | (simp; omega)) rfl ?_
        refine WPL.ldR rfl hO inferInstance (ws_get1 rfl (by omega)) rfl rfl ?_
        refine WPL.mv (v := .int .u32 _) rfl rfl ?_
        refine WPL.mv (v := .int .u32 _) rfl rfl ?_
        refine WPL.call rfl (sub32 _ _ _ (by first | assumption | exact Wd.get (by assumption) _ | omega | decide) (by first | assumption | exact Wd.get (by assumption) _ | omega | decide) (by omega)) Tryd.func89 rfl rfl rfl ?_
        rintro _ _ ⟨rfl, rfl⟩
        refine WPL.mv (v := .tuple #[.int .u32 _, .int .u32 _]) rfl rfl ?_
        refine WPL.ext (v := .int .u32 _) rfl rfl rfl ?_
        refine WPL.ext (v := .int .u32 _) rfl rfl rfl ?_
        refine WPL.ixL rfl rfl rfl (by omega) rfl ?_
        refine WPL.stW rfl rfl rfl hO inferInstance inferInstance rfl (by first | omega | (simp; omega)) (fun w hO => ?_)
        refine WPL.as (v := .int .u32 _) rfl rfl ?_
        refine WPL.nil ?_
        refine WP.region ?_
        refine WPL.addI rfl rfl (by omega) rfl ?_
        refine WPL.mv (v := .int .i64 _) rfl rfl ?_
        refine WPL.nil ?_
        first
        | (have st := less_next (c := q) (show i < l.length by omega) ho hwo hw hw2 hq (y := 0) (getD_ge (by omega)) hv
           exact ⟨m - 1, by omega, i + 1, _, _, by omega, st.1, st.2.1, st.2.2.1, st.2.2.2, ⟨rfl, rfl, rfl, rfl, rfl, rfl, trivial⟩, rfl, hO⟩)
        | (have st := less_next (c := q) (show i < l.length by omega) ho hwo hw hw2 hq (y := l2.getD i 0) (rfl) hv
           exact ⟨m - 1, by omega, i + 1, _, _, by omega, st.1, st.2.1, st.2.2.1, st.2.2.2, ⟨rfl, rfl, rfl, rfl, rfl, rfl, trivial⟩, rfl, hO⟩)
    · refine WP.exit ?_
      refine WP.rs ?_
      refine WPL.mv (v := .slice _ _ _) rfl rfl ?_
      refine WPL.as (v := .slice _ _ _) rfl rfl ?_
      refine WPL.nil ?_
      refine WP.ret ?_
      refine ⟨rfl, ?_⟩
      refine RO.tmp (v := .slice _ _ _) rfl ?_
      refine RO.nil ?_
      have e : i = l.length := by omega
      subst e
      rw [List.take_length, List.take_of_length_le (show o.length ≤ l.length by omega), List.take_of_length_le hll] at hv
      rw [← ho] at hv
      exact ⟨hO.fr, hO.giveW inferInstance ho hwo (less_end hwo hv hle)⟩

theorem wide_times {w0 : World} (a : Option Addr) (l : List Nat) (c : Nat) {n : Nat} (hr : RowOk w0 [] ⟨a, ws .u32 l⟩) (hw : Wd l) (hc : l.length ≤ c) (hn : n = l.length) (hb : l.length ≤ 70368744177664)(a2 : Option Addr) (l2 : List Nat) (c2 : Nat) {n2 : Nat} (hr2 : RowOk w0 [] ⟨a2, ws .u32 l2⟩) (hw2 : Wd l2) (hc2 : l2.length ≤ c2) (hn2 : n2 = l2.length) (hb2 : l2.length ≤ 70368744177664) (hsum : l.length + l2.length ≤ 70368744177664) : Spec Tryd.prog 86 [.slice a n c, .slice a2 n2 c2] w0 (fun v w' => FrX [] w0 w' ∧ WRes w0 w' 60 (val l * val l2) (l.length + l2.length) v) := by
  subst hn hn2
  have hO : Own [] w0 [] [] [⟨a, ws .u32 l⟩, ⟨a2, ws .u32 l2⟩] w0 := Own.start (by intro e he; cases he) (by
      simp only [List.mem_cons, List.not_mem_nil, or_false]
      rintro r (rfl | rfl)
      · exact hr
      · exact hr2)
  refine Spec.enter (n := 67) (rs := [.tmp 4]) Tryd.func86 rfl rfl rfl rfl ?_
  refine WP.rs ?_
  refine WPL.as (v := .slice none 0 0) rfl rfl ?_
  refine WPL.nil ?_
  refine WP.rs ?_
  refine WPL.mv (v := .slice _ _ _) rfl rfl ?_
  refine WPL.len rfl rfl ?_
  refine WPL.mv (v := .slice _ _ _) rfl rfl ?_
  refine WPL.len rfl rfl ?_
  refine WPL.addI rfl rfl (by omega) rfl ?_
  refine WPL.mkW (l := l.length + l2.length) (c := l.length + l2.length) rfl rfl rfl rfl hO (by omega) (by omega) (by omega) rfl (fun b1 w hO => ?_)
  refine WPL.as (v := .slice _ _ _) rfl rfl ?_
  refine WPL.nil ?_
  refine WP.seq ?_
  refine WP.rs ?_
  refine WPL.mv (v := .slice _ _ _) rfl rfl ?_
  refine WPL.len rfl rfl ?_
  refine WPL.mv (v := .int .i64 0) rfl rfl ?_
  refine WPL.nil ?_
  refine WP.block ?_
  refine WP.loop (fun m σ ds w' => ∃ i o, m + i = l.length ∧ o.length = l.length + l2.length ∧ Wd o ∧ val o = val (l.take i) * val l2 ∧ (∀ k, i + l2.length ≤ k → o.getD k 0 = 0) ∧ Has σ [(0, .slice a l.length c), (1, .slice a2 l2.length c2), (5, .slice (some ⟨b1, 0, none⟩) (l.length + l2.length) (l.length + l2.length)), (18, .slice a l.length c), (19, .int .i64 (l.length : Int)), (20, .int .i64 (i : Int))] ∧ ds = [] ∧ Own [] w0 [] [⟨b1, ws .u32 o, 60⟩] [⟨a, ws .u32 l⟩, ⟨a2, ws .u32 l2⟩] w') l.length ?_ ?_
  · exact ⟨0, _, rfl, by simp, wd_zeros _, by simp [val, val_zeros], fun k _ => getD_replicate _ _, ⟨rfl, rfl, rfl, rfl, rfl, rfl, trivial⟩, rfl, hO⟩
  · rintro m σ ds w ⟨i, o, hi, ho, hwo, hv, hz, hH, rfl, hO⟩
    refine WP.reset hH ?_
    refine WP.rs ?_
    refine WPL.lt rfl rfl rfl ?_
    refine WPL.nil ?_
    refine WP.seq ?_
    refine WP.condP rfl (fun h1 => ?_) (fun h1 => ?_)
    · refine WP.skip ?_
      refine WP.seq ?_
      refine WP.block ?_
      refine WP.rs ?_
      refine WPL.mv (v := .int .i64 _) rfl rfl ?_
      refine WPL.ixR rfl hO inferInstance rfl rfl (by first | omega | (simp; omega)) (by first | omega | (simp; omega)) rfl ?_
      refine WPL.ldR rfl hO inferInstance (ws_get1 rfl (by omega)) rfl rfl ?_
      refine WPL.as (v := .int .i64 _) rfl rfl ?_
      refine WPL.as (v := .int .u32 _) rfl rfl ?_
      refine WPL.nil ?_
      refine WP.rs ?_
      refine WPL.as (v := .int .u64 ((0 : Nat) : Int)) rfl rfl ?_
      refine WPL.nil ?_
      refine WP.seq ?_
      refine WP.rs ?_
      refine WPL.mv (v := .slice _ _ _) rfl rfl ?_
      refine WPL.len rfl rfl ?_
      refine WPL.mv (v := .int .i64 0) rfl rfl ?_
      refine WPL.nil ?_
      refine WP.block ?_
      refine WP.loop (fun m' σ ds w' => ∃ j q o, m' + j = l2.length ∧ o.length = l.length + l2.length ∧ Wd o ∧ q < 4294967296 ∧ val o + q * 4294967296 ^ (i + j) = val (l.take i) * val l2 + l.getD i 0 * val (l2.take j) * 4294967296 ^ i ∧ (∀ k, i + l2.length ≤ k → o.getD k 0 = 0) ∧ Has σ [(0, .slice a l.length c), (1, .slice a2 l2.length c2), (5, .slice (some ⟨b1, 0, none⟩) (l.length + l2.length) (l.length + l2.length)), (18, .slice a l.length c), (19, .int .i64 (l.length : Int)), (20, .int .i64 (i : Int)), (6, .int .i64 (i : Int)), (7, .int .u32 ((l.getD i 0 : Nat) : Int)), (8, .int .u64 (q : Int)), (25, .slice a2 l2.length c2), (26, .int .i64 (l2.length : Int)), (27, .int .i64 (j : Int))] ∧ ds = [] ∧ Own [] w0 [] [⟨b1, ws .u32 o, 60⟩] [⟨a, ws .u32 l⟩, ⟨a2, ws .u32 l2⟩] w') l2.length ?_ ?_
      · exact ⟨0, 0, _, rfl, ho, hwo, by decide, by rw [hv]; simp [val], hz, ⟨rfl, rfl, rfl, rfl, rfl, rfl, rfl, rfl, rfl, rfl, rfl, rfl, trivial⟩, rfl, hO⟩
      · clear ho hwo hv hz hO
        rintro m' σ ds w ⟨j, q, o, hj, ho, hwo, hq, hv, hz, hH, rfl, hO⟩
        refine WP.reset hH ?_
        refine WP.rs ?_
        refine WPL.lt rfl rfl rfl ?_
        refine WPL.nil ?_
        refine WP.seq ?_
        refine WP.condP rfl (fun h2 => ?_) (fun h2 => ?_)
        · refine WP.skip ?_
          refine WP.seq ?_
          refine WP.block ?_
          refine WP.rs ?_
          refine WPL.mv (v := .int .i64 _) rfl rfl ?_
          refine WPL.ixR rfl hO inferInstance rfl rfl (by first | omega | (simp; omega)) (by first | omega | (simp; omega)) rfl ?_
          refine WPL.ldR rfl hO inferInstance (ws_get1 rfl (by omega)) rfl rfl ?_
          refine WPL.as (v := .int .i64 _) rfl rfl ?_
          refine WPL.as (v := .int .u32 _) rfl rfl ?_
          refine WPL.nil ?_
          refine WP.rs ?_
          refine WPL.mv (v := .int .u32 _) rfl rfl ?_
          refine WPL.cv_u64 (a := l.getD i 0) rfl (by have := hw.get i; omega) rfl ?_
          refine WPL.mv (v := .int .u32 _) rfl rfl ?_
          refine WPL.cv_u64 rfl (by have := hw2.get j; omega) rfl ?_
          refine WPL.mul_u64 rfl rfl rfl ?_
          refine WPL.mv (v := .slice _ _ _) rfl rfl ?_
          refine WPL.mv (v := .int .i64 _) rfl rfl ?_
          refine WPL.mv (v := .int .i64 _) rfl rfl ?_
          refine WPL.addI rfl rfl (by omega) rfl ?_
          refine WPL.ixL (j := i + j) rfl rfl rfl (by omega) rfl ?_
          refine WPL.ldW rfl rfl hO inferInstance (by first | omega | (simp; omega)) rfl rfl ?_
          refine WPL.cv_u64 rfl (by have := hwo.get (i + j); omega) rfl ?_
          refine WPL.add_u64 rfl rfl rfl ?_
          refine WPL.mv (v := .int .u64 _) rfl rfl ?_
          refine WPL.add_u64 rfl rfl rfl ?_
          refine WPL.as (v := .int .u64 _) rfl rfl ?_
          refine WPL.nil ?_
          refine WP.region ?_
          refine WPL.mv (v := .slice _ _ _) rfl rfl ?_
          refine WPL.mv (v := .int .i64 _) rfl rfl ?_
          refine WPL.mv (v := .int .i64 _) rfl rfl ?_
          refine WPL.addI rfl rfl (by omega) rfl ?_
          refine WPL.mv (v := .int .u64 _) rfl rfl ?_
          refine WPL.cm_u32 rfl rfl ?_
          refine WPL.mv (v := .int .u64 _) rfl rfl ?_
          refine WPL.shrc_u64 (p := 4294967296) rfl rfl rfl (Nat.mod_lt _ (by decide)) rfl ?_
          refine WPL.ixL (j := i + j) rfl rfl rfl (by omega) rfl ?_
          refine WPL.stW rfl rfl rfl hO inferInstance inferInstance rfl (by first | omega | (simp; omega)) (fun w hO => ?_)
          refine WPL.as (v := .int .u64 _) rfl rfl ?_
          refine WPL.nil ?_
          refine WP.region ?_
          refine WPL.addI rfl rfl (by omega) rfl ?_
          refine WPL.mv (v := .int .i64 _) rfl rfl ?_
          refine WPL.nil ?_
          have st := mul_next (hw.get i) (show i + j < o.length by omega) hwo hw2 hq hv
          refine ⟨m' - 1, by omega, j + 1, _, _, by omega, by simp [ho], st.2.1, st.1, st.2.2, ?_, ⟨rfl, rfl, rfl, rfl, rfl, rfl, rfl, rfl, rfl, rfl, rfl, rfl, trivial⟩, rfl, hO⟩
          intro k hk
          rw [getD_set_other (by omega)]; exact hz _ hk
        · refine WP.exit ?_
          refine WP.region ?_
          refine WPL.mv (v := .slice _ _ _) rfl rfl ?_
          refine WPL.mv (v := .int .i64 _) rfl rfl ?_
          refine WPL.mv (v := .slice _ _ _) rfl rfl ?_
          refine WPL.len rfl rfl ?_
          refine WPL.addI rfl rfl (by omega) rfl ?_
          refine WPL.mv (v := .int .u64 _) rfl rfl ?_
          refine WPL.cm_u32 rfl rfl ?_
          refine WPL.ixL (j := i + l2.length) rfl rfl rfl (by omega) rfl ?_
          refine WPL.stW rfl rfl rfl hO inferInstance inferInstance rfl (by first | omega | (simp; omega)) (fun w hO => ?_)
          refine WPL.nil ?_
          refine WP.region ?_
          refine WPL.addI rfl rfl (by omega) rfl ?_
          refine WPL.mv (v := .int .i64 _) rfl rfl ?_
          refine WPL.nil ?_
          have ej : j = l2.length := by omega
          subst ej
          refine ⟨m - 1, by omega, i + 1, _, by omega, by simp [ho], hwo.set _ (Nat.mod_lt _ (by decide)), mul_row (by omega) ho hq (hz _ (by omega)) hv, ?_, ⟨rfl, rfl, rfl, rfl, rfl, rfl, trivial⟩, rfl, hO⟩
          intro k hk
          rw [getD_set_other (by omega)]; exact hz _ (by omega)
    · refine WP.exit ?_
      refine WP.rs ?_
      refine WPL.mv (v := .slice _ _ _) rfl rfl ?_
      refine WPL.as (v := .slice _ _ _) rfl rfl ?_
      refine WPL.nil ?_
      refine WP.ret ?_
      refine ⟨rfl, ?_⟩
      refine RO.tmp (v := .slice _ _ _) rfl ?_
      refine RO.nil ?_
      have e : i = l.length := by omega
      subst e
      rw [List.take_length] at hv
      exact ⟨hO.fr, hO.giveW inferInstance ho hwo hv⟩

theorem wide_up {w0 : World} (a : Option Addr) (l : List Nat) (c : Nat) {n : Nat} (hr : RowOk w0 [] ⟨a, ws .u32 l⟩) (hw : Wd l) (hc : l.length ≤ c) (hn : n = l.length) (hb : l.length ≤ 70368744177664) (hb1 : l.length + 1 ≤ 70368744177664) (b : Nat) (hb32 : b < 32) : Spec Tryd.prog 78 [.slice a n c, .int .i64 (b : Int)] w0 (fun v w' => FrX [] w0 w' ∧ WRes w0 w' 60 (val l * 2 ^ b) (l.length + 1) v) := by
  subst hn
  have hO : Own [] w0 [] [] [⟨a, ws .u32 l⟩] w0 := Own.start (by intro e he; cases he) (by
      simp only [List.mem_cons, List.not_mem_nil, or_false]
      rintro r rfl
      · exact hr)
  have h1b := Nat.one_le_two_pow (n := b)
  refine Spec.enter (n := 41) (rs := [.tmp 4]) Tryd.func78 rfl rfl rfl rfl ?_
  refine WP.rs ?_
  refine WPL.as (v := .slice none 0 0) rfl rfl ?_
  refine WPL.nil ?_
  refine WP.rs ?_
  refine WPL.mv (v := .slice _ _ _) rfl rfl ?_
  refine WPL.len rfl rfl ?_
  refine WPL.addI rfl rfl (by omega) rfl ?_
  refine WPL.mkW (l := l.length + 1) (c := l.length + 1) rfl rfl rfl rfl hO (by omega) (by omega) (by omega) rfl (fun b1 w hO => ?_)
  refine WPL.as (v := .slice _ _ _) rfl rfl ?_
  refine WPL.nil ?_
  refine WP.seq ?_
  refine WP.rs ?_
  refine WPL.mv (v := .slice _ _ _) rfl rfl ?_
  refine WPL.len rfl rfl ?_
  refine WPL.mv (v := .int .i64 0) rfl rfl ?_
  refine WPL.nil ?_
  refine WP.block ?_
  refine WP.loop (fun m σ ds w' => ∃ i o, m + i = l.length ∧ o.length = l.length + 1 ∧ Wd o ∧ val o = val (l.take i) * 2 ^ b ∧ (∀ k, i < k → o.getD k 0 = 0) ∧ o.getD i 0 < 2 ^ b ∧ Has σ [(0, .slice a l.length c), (1, .int .i64 (b : Int)), (5, .slice (some ⟨b1, 0, none⟩) (l.length + 1) (l.length + 1)), (13, .slice a l.length c), (14, .int .i64 (l.length : Int)), (15, .int .i64 (i : Int))] ∧ ds = [] ∧ Own [] w0 [] [⟨b1, ws .u32 o, 60⟩] [⟨a, ws .u32 l⟩] w') l.length ?_ ?_
  · exact ⟨0, _, rfl, by simp, wd_zeros _, by simp [val, val_zeros], fun k _ => getD_replicate _ _, by rw [getD_replicate]; omega, ⟨rfl, rfl, rfl, rfl, rfl, rfl, trivial⟩, rfl, hO⟩
  · rintro m σ ds w ⟨i, o, hi, ho, hwo, hv, hz, hl, hH, rfl, hO⟩
    refine WP.reset hH ?_
    refine WP.rs ?_
    refine WPL.lt rfl rfl rfl ?_
    refine WPL.nil ?_
    refine WP.seq ?_
    refine WP.condP rfl (fun h1 => ?_) (fun h1 => ?_)
    · refine WP.skip ?_
      refine WP.seq ?_
      refine WP.block ?_
      refine WP.rs ?_
      refine WPL.mv (v := .int .i64 _) rfl rfl ?_
      refine WPL.ixR rfl hO inferInstance rfl rfl (by first | omega | (simp; omega)) (by first | omega | (simp; omega)) rfl ?_
      refine WPL.ldR rfl hO inferInstance (ws_get1 rfl (by omega)) rfl rfl ?_
      refine WPL.as (v := .int .i64 _) rfl rfl ?_
      refine WPL.as (v := .int .u32 _) rfl rfl ?_
      refine WPL.nil ?_
      refine WP.rs ?_
      refine WPL.mv (v := .int .u32 _) rfl rfl ?_
      refine WPL.cv_u64 rfl (by first | omega | exact Nat.mod_lt _ (by decide) | exact Wd.get (by assumption) _ | exact (dig_wd _).get _ | exact Nat.lt_of_le_of_lt (Nat.div_le_self ..) (Wd.get (by assumption) _) | exact Nat.lt_of_lt_of_le (Wd.get (by assumption) _) (by decide)) rfl ?_
      refine WPL.mv (v := .int .i64 _) rfl rfl ?_
      refine WPL.shl_u64 rfl rfl rfl ?_
      refine WPL.as (v := .int .u64 _) rfl rfl ?_
      refine WPL.nil ?_
      refine WP.rs ?_
      refine WPL.mv (v := .slice _ _ _) rfl rfl ?_
      refine WPL.mv (v := .int .i64 _) rfl rfl ?_
      refine WPL.ixL rfl rfl rfl (by omega) rfl ?_
      refine WPL.ldW rfl rfl hO inferInstance (by first | omega | (simp; omega)) rfl rfl ?_
      refine WPL.mv (v := .int .u64 _) rfl rfl ?_
      refine WPL.cm_u32 rfl rfl ?_
      refine WPL.or_u32 rfl rfl (by first | omega | exact Nat.mod_lt _ (by decide) | exact Wd.get (by assumption) _ | exact (dig_wd _).get _ | exact Nat.lt_of_le_of_lt (Nat.div_le_self ..) (Wd.get (by assumption) _) | exact Nat.lt_of_lt_of_le (Wd.get (by assumption) _) (by decide)) (by first | omega | exact Nat.mod_lt _ (by decide) | exact Wd.get (by assumption) _ | exact (dig_wd _).get _ | exact Nat.lt_of_le_of_lt (Nat.div_le_self ..) (Wd.get (by assumption) _) | exact Nat.lt_of_lt_of_le (Wd.get (by assumption) _) (by decide)) rfl ?_
      refine WPL.ixL rfl rfl rfl (by omega) rfl ?_
      refine WPL.stW rfl rfl rfl hO inferInstance inferInstance rfl (by first | omega | (simp; omega)) (fun w hO => ?_)
      refine WPL.nil ?_
      refine WP.region ?_
      refine WPL.mv (v := .slice _ _ _) rfl rfl ?_
      refine WPL.mv (v := .int .i64 _) rfl rfl ?_
      refine WPL.addI rfl rfl (by omega) rfl ?_
      refine WPL.mv (v := .int .u64 _) rfl rfl ?_
      refine WPL.shrc_u64 (p := 4294967296) rfl rfl rfl (by first | omega | exact Nat.mod_lt _ (by decide) | exact Wd.get (by assumption) _ | exact (dig_wd _).get _ | exact Nat.lt_of_le_of_lt (Nat.div_le_self ..) (Wd.get (by assumption) _) | exact Nat.lt_of_lt_of_le (Wd.get (by assumption) _) (by decide)) rfl ?_
      refine WPL.cm_u32 rfl rfl ?_
      refine WPL.ixL (j := i + 1) rfl rfl rfl (by omega) rfl ?_
      refine WPL.stW rfl rfl rfl hO inferInstance inferInstance rfl (by first | omega | (simp; omega)) (fun w hO => ?_)
      refine WPL.nil ?_
      refine WP.region ?_
      refine WPL.addI rfl rfl (by omega) rfl ?_
      refine WPL.mv (v := .int .i64 _) rfl rfl ?_
      refine WPL.nil ?_
      have st := up_next (show i < l.length by omega) ho hwo hw hb32 hv hz hl
      exact ⟨m - 1, by omega, i + 1, _, by omega, st.1, st.2.1, st.2.2.1, st.2.2.2.1, st.2.2.2.2, ⟨rfl, rfl, rfl, rfl, rfl, rfl, trivial⟩, rfl, hO⟩
    · refine WP.exit ?_
      refine WP.rs ?_
      refine WPL.mv (v := .slice _ _ _) rfl rfl ?_
      refine WPL.as (v := .slice _ _ _) rfl rfl ?_
      refine WPL.nil ?_
      refine WP.ret ?_
      refine ⟨rfl, ?_⟩
      refine RO.tmp (v := .slice _ _ _) rfl ?_
      refine RO.nil ?_
      have e : i = l.length := by omega
      subst e
      rw [List.take_length] at hv
      exact ⟨hO.fr, hO.giveW inferInstance ho hwo hv⟩

theorem wide_down {w0 : World} (a : Option Addr) (l : List Nat) (c : Nat) {n : Nat} (hr : RowOk w0 [] ⟨a, ws .u32 l⟩) (hw : Wd l) (hc : l.length ≤ c) (hn : n = l.length) (hb : l.length ≤ 70368744177664) (b : Nat) (hb32 : b < 32) : Spec Tryd.prog 76 [.slice a n c, .int .i64 (b : Int)] w0 (fun v w' => FrX [] w0 w' ∧ WRes w0 w' 60 (val l / 2 ^ b) l.length v) := by
  subst hn
  have hO : Own [] w0 [] [] [⟨a, ws .u32 l⟩] w0 := Own.start (by intro e he; cases he) (by
      simp only [List.mem_cons, List.not_mem_nil, or_false]
      rintro r rfl
      · exact hr)
  refine Spec.enter (n := 44) (rs := [.tmp 4]) Tryd.func76 rfl rfl rfl rfl ?_
  refine WP.rs ?_
  refine WPL.as (v := .slice none 0 0) rfl rfl ?_
  refine WPL.nil ?_
  refine WP.rs ?_
  refine WPL.mv (v := .slice _ _ _) rfl rfl ?_
  refine WPL.len rfl rfl ?_
  refine WPL.mkW rfl rfl rfl rfl hO (by omega) (by omega) (by omega) rfl (fun b1 w hO => ?_)
  refine WPL.as (v := .slice _ _ _) rfl rfl ?_
  refine WPL.nil ?_
  refine WP.seq ?_
  refine WP.rs ?_
  refine WPL.mv (v := .slice _ _ _) rfl rfl ?_
  refine WPL.len rfl rfl ?_
  refine WPL.mv (v := .int .i64 0) rfl rfl ?_
  refine WPL.nil ?_
  refine WP.block ?_
  refine WP.loop (fun m σ ds w' => ∃ i o, m + i = l.length ∧ o.length = l.length ∧ Wd o ∧ val (o.take i) = val l / 2 ^ b % 4294967296 ^ i ∧ Has σ [(0, .slice a l.length c), (1, .int .i64 (b : Int)), (5, .slice (some ⟨b1, 0, none⟩) l.length l.length), (12, .slice a l.length c), (13, .int .i64 (l.length : Int)), (14, .int .i64 (i : Int))] ∧ ds = [] ∧ Own [] w0 [] [⟨b1, ws .u32 o, 60⟩] [⟨a, ws .u32 l⟩] w') l.length ?_ ?_
  · exact ⟨0, _, rfl, by simp, wd_zeros _, by simp [val, Nat.mod_one], ⟨rfl, rfl, rfl, rfl, rfl, rfl, trivial⟩, rfl, hO⟩
  · rintro m σ ds w ⟨i, o, hi, ho, hwo, hv, hH, rfl, hO⟩
    refine WP.reset hH ?_
    refine WP.rs ?_
    refine WPL.lt rfl rfl rfl ?_
    refine WPL.nil ?_
    refine WP.seq ?_
    refine WP.condP rfl (fun h1 => ?_) (fun h1 => ?_)
    · refine WP.skip ?_
      refine WP.seq ?_
      refine WP.block ?_
      refine WP.rs ?_
      refine WPL.mv (v := .int .i64 _) rfl rfl ?_
      refine WPL.ixR rfl hO inferInstance rfl rfl (by first | omega | (simp; omega)) (by first | omega | (simp; omega)) rfl ?_
      refine WPL.ldR rfl hO inferInstance (ws_get1 rfl (by omega)) rfl rfl ?_
      refine WPL.as (v := .int .i64 _) rfl rfl ?_
      refine WPL.as (v := .int .u32 _) rfl rfl ?_
      refine WPL.nil ?_
      refine WP.rs ?_
      refine WPL.mv (v := .int .u32 _) rfl rfl ?_
      refine WPL.cv_u64 rfl (by first | omega | exact Nat.mod_lt _ (by decide) | exact Wd.get (by assumption) _ | exact (dig_wd _).get _ | exact Nat.lt_of_le_of_lt (Nat.div_le_self ..) (Wd.get (by assumption) _) | exact Nat.lt_of_lt_of_le (Wd.get (by assumption) _) (by decide)) rfl ?_
      refine WPL.as (v := .int .u64 _) rfl rfl ?_
      refine WPL.nil ?_
      refine WP.seq ?_
      refine WP.rs ?_
      refine WPL.mv (v := .int .i64 _) rfl rfl ?_
      refine WPL.addI rfl rfl (by omega) rfl ?_
      refine WPL.mv (v := .slice _ _ _) rfl rfl ?_
      refine WPL.len rfl rfl ?_
      refine WPL.lt rfl rfl rfl ?_
      refine WPL.nil ?_
      refine WP.condP rfl (fun h2 => ?_) (fun h2 => ?_)
      · refine WP.region ?_
        refine WPL.mv (v := .int .u64 _) rfl rfl ?_
        refine WPL.mv (v := .slice _ _ _) rfl rfl ?_
        refine WPL.mv (v := .int .i64 _) rfl rfl ?_
        refine WPL.addI rfl rfl (by omega) rfl ?_
        refine WPL.ixR (j := i + 1) rfl hO inferInstance rfl rfl (by omega) (by first | omega | (simp; omega)) rfl ?_
        refine WPL.ldR rfl hO inferInstance (ws_get1 rfl (by omega)) rfl rfl ?_
        refine WPL.cv_u64 rfl (by first | omega | exact Nat.mod_lt _ (by decide) | exact Wd.get (by assumption) _ | exact (dig_wd _).get _ | exact Nat.lt_of_le_of_lt (Nat.div_le_self ..) (Wd.get (by assumption) _) | exact Nat.lt_of_lt_of_le (Wd.get (by assumption) _) (by decide)) rfl ?_
        refine WPL.shlc_u64 (p := 4294967296) rfl rfl rfl rfl ?_
        refine WPL.or_u64 rfl rfl (by have := hw.get i; omega) (Nat.mod_lt _ (by decide)) rfl ?_
        refine WPL.as (v := .int .u64 _) rfl rfl ?_
        refine WPL.nil ?_
        refine WP.region ?_
        refine WPL.mv (v := .slice _ _ _) rfl rfl ?_
        refine WPL.mv (v := .int .i64 _) rfl rfl ?_
        refine WPL.mv (v := .int .u64 _) rfl rfl ?_
        refine WPL.mv (v := .int .i64 _) rfl rfl ?_
        refine WPL.shr_u64 rfl rfl (by first | exact Nat.or_lt_two_pow (n := 64) (by have := hw.get i; omega) (Nat.mod_lt _ (by decide)) | (have := hw.get i; omega)) rfl ?_
        refine WPL.cm_u32 rfl rfl ?_
        refine WPL.ixL rfl rfl rfl (by omega) rfl ?_
        refine WPL.stW rfl rfl rfl hO inferInstance inferInstance rfl (by first | omega | (simp; omega)) (fun w hO => ?_)
        refine WPL.nil ?_
        refine WP.region ?_
        refine WPL.addI rfl rfl (by omega) rfl ?_
        refine WPL.mv (v := .int .i64 _) rfl rfl ?_
        refine WPL.nil ?_
        first
        | (have st := down_next (X := l.getD i 0 / 2 ^ b % 4294967296) (show i < l.length by omega) ho hwo hw hb32 hv (down_one (getD_ge (by omega)))
           exact ⟨m - 1, by omega, i + 1, _, by omega, st.1, st.2.1, st.2.2, ⟨rfl, rfl, rfl, rfl, rfl, rfl, trivial⟩, rfl, hO⟩)
        | (have st := down_next (X := (l.getD i 0 ||| l.getD (i + 1) 0 * 4294967296 % 18446744073709551616) / 2 ^ b % 4294967296) (show i < l.length by omega) ho hwo hw hb32 hv (down_two (hw.get i) (hw.get (i + 1)))
           exact ⟨m - 1, by omega, i + 1, _, by omega, st.1, st.2.1, st.2.2, ⟨rfl, rfl, rfl, rfl, rfl, rfl, trivial⟩, rfl, hO⟩)
      · refine WP.skip ?_
        refine WP.region ?_
        refine WPL.mv (v := .slice _ _ _) rfl rfl ?_
        refine WPL.mv (v := .int .i64 _) rfl rfl ?_
        refine WPL.mv (v := .int .u64 _) rfl rfl ?_
        refine WPL.mv (v := .int .i64 _) rfl rfl ?_
        refine WPL.shr_u64 rfl rfl (by first | exact Nat.or_lt_two_pow (n := 64) (by have := hw.get i; omega) (Nat.mod_lt _ (by decide)) | (have := hw.get i; omega)) rfl ?_
        refine WPL.cm_u32 rfl rfl ?_
        refine WPL.ixL rfl rfl rfl (by omega) rfl ?_
        refine WPL.stW rfl rfl rfl hO inferInstance inferInstance rfl (by first | omega | (simp; omega)) (fun w hO => ?_)
        refine WPL.nil ?_
        refine WP.region ?_
        refine WPL.addI rfl rfl (by omega) rfl ?_
        refine WPL.mv (v := .int .i64 _) rfl rfl ?_
        refine WPL.nil ?_
        first
        | (have st := down_next (X := l.getD i 0 / 2 ^ b % 4294967296) (show i < l.length by omega) ho hwo hw hb32 hv (down_one (getD_ge (by omega)))
           exact ⟨m - 1, by omega, i + 1, _, by omega, st.1, st.2.1, st.2.2, ⟨rfl, rfl, rfl, rfl, rfl, rfl, trivial⟩, rfl, hO⟩)
        | (have st := down_next (X := (l.getD i 0 ||| l.getD (i + 1) 0 * 4294967296 % 18446744073709551616) / 2 ^ b % 4294967296) (show i < l.length by omega) ho hwo hw hb32 hv (down_two (hw.get i) (hw.get (i + 1)))
           exact ⟨m - 1, by omega, i + 1, _, by omega, st.1, st.2.1, st.2.2, ⟨rfl, rfl, rfl, rfl, rfl, rfl, trivial⟩, rfl, hO⟩)
    · refine WP.exit ?_
      refine WP.rs ?_
      refine WPL.mv (v := .slice _ _ _) rfl rfl ?_
      refine WPL.as (v := .slice _ _ _) rfl rfl ?_
      refine WPL.nil ?_
      refine WP.ret ?_
      refine ⟨rfl, ?_⟩
      refine RO.tmp (v := .slice _ _ _) rfl ?_
      refine RO.nil ?_
      have e : i = l.length := by omega
      subst e
      exact ⟨hO.fr, hO.giveW inferInstance ho hwo (down_end ho hw hv)⟩

theorem wide_Shift {w0 : World} (a : Option Addr) (l : List Nat) (c : Nat) {n : Nat} (hr : RowOk w0 [] ⟨a, ws .u32 l⟩) (hw : Wd l) (hc : l.length ≤ c) (hn : n = l.length) (hb : l.length ≤ 70368744177664) (k : Int) (hf : (dig (val l)).length ≤ 8192) (hk1 : -1000000000 ≤ k) (hk2 : (blen (val l) : Int) + k ≤ 262144) : Spec Tryd.prog 59 [.slice a n c, .int .i64 k] w0 (fun v w' => FrX [] w0 w' ∧ NatErr w0 w' 60 (shiftN (val l) k) v) := by
  subst hn
  have hO : Own [] w0 [] [] [⟨a, ws .u32 l⟩] w0 := Own.start (by intro e he; cases he) (by
      simp only [List.mem_cons, List.not_mem_nil, or_false]
      rintro r rfl
      · exact hr)
  have hle := dig_length_le hw
  have hbl := blen_len (val l)
  refine Spec.enter (n := 61) (rs := [.tmp 4, .tmp 5]) Tryd.func59 rfl rfl rfl rfl ?_
  refine WP.rs ?_
  refine WPL.as (v := .slice none 0 0) rfl rfl ?_
  refine WPL.as (v := .int .i64 0) rfl rfl ?_
  refine WPL.nil ?_
  refine WP.rs ?_
  refine WPL.mv (v := .slice _ _ _) rfl rfl ?_
  refine WPL.call rfl (wide_cut _ _ _ (by first | exact hO.rd | exact hO.rdG (by assumption)) (by first | assumption | exact dig_wd _) (by first | omega | (simp only [val_dig]; omega)) rfl (by first | omega | (simp only [val_dig]; omega))) Tryd.func74 rfl rfl rfl ?_
  rintro _ _ ⟨rfl, nm8, rfl⟩
  have hO := hO.takeN nm8 inferInstance (by first | assumption | exact dig_wd _)
  try simp only [val_dig] at hO ⊢
  refine WPL.as (v := .slice _ _ _) rfl rfl ?_
  refine WPL.nil ?_
  refine WP.seq ?_
  refine WP.block ?_
  refine WP.rs ?_
  refine WPL.mv (v := .slice _ _ _) rfl rfl ?_
  refine WPL.len rfl rfl ?_
  refine WPL.gt rfl rfl rfl ?_
  refine WPL.as (v := .bool _) rfl rfl ?_
  refine WPL.nil ?_
  refine WP.condP rfl (fun h1 => ?_) (fun h1 => ?_)
  · exact absurd h1 (by omega)
  · refine WP.rs ?_
    refine WPL.mv (v := .slice _ _ _) rfl rfl ?_
    refine WPL.len rfl rfl ?_
    refine WPL.eq rfl rfl rfl ?_
    refine WPL.mv (v := .bool _) rfl rfl ?_
    refine WPL.split (s := 17) rfl (fun h2 => ?_) (fun h2 => ?_)
    · have ph2 := of_decide_eq_true h2
      refine WPL.guardF rfl rfl rfl h2 ?_
      refine WPL.guardF rfl rfl rfl h2 ?_
      refine WPL.guardF rfl rfl rfl h2 ?_
      refine WPL.guardF rfl rfl rfl h2 ?_
      refine WPL.guardF rfl rfl rfl h2 ?_
      refine WPL.pkT (v := .bool true) rfl h2 rfl rfl ?_
      refine WPL.as (v := .bool _) rfl rfl ?_
      refine WPL.nil ?_
      refine WP.cT rfl rfl ?_
      refine WP.rs ?_
      refine WPL.as (v := .slice none 0 0) rfl rfl ?_
      refine WPL.as (v := .int .i64 0) rfl rfl ?_
      refine WPL.nil ?_
      refine WP.ret ?_
      refine ⟨rfl, ?_⟩
      refine RO.tmp (v := .slice _ _ _) rfl ?_
      refine RO.tmp (v := .int .i64 _) rfl ?_
      refine RO.nil ?_
      exact ⟨hO.fr, NatErr.nil (by rw [dig_len_zero (by omega : (dig (val l)).length = 0)]; exact shift_zero)⟩
    · have ph2 := of_decide_eq_false h2
      refine WPL.guardT rfl rfl h2 ?_
      refine WPL.mv (v := .int .i64 _) rfl rfl ?_
      refine WPL.guardT rfl rfl h2 ?_
      refine WPL.mv (v := .slice _ _ _) rfl rfl ?_
      refine WPL.guardT rfl rfl h2 ?_
      refine WPL.call rfl (wide_Len _ _ _ (by first | exact hO.rd | exact hO.rdG (by assumption)) (by first | assumption | exact dig_wd _) (by first | assumption | omega) (by first | rfl | simp) (by first | omega | simp)) Tryd.func75 rfl rfl rfl ?_
      rintro _ _ ⟨rfl, rfl⟩
      try simp only [val_dig]
      refine WPL.guardT rfl rfl h2 ?_
      refine WPL.negI rfl (by omega) rfl ?_
      refine WPL.guardT rfl rfl h2 ?_
      refine WPL.le rfl rfl rfl ?_
      refine WPL.pkF (v := .bool _) rfl h2 rfl rfl ?_
      refine WPL.as (v := .bool _) rfl rfl ?_
      refine WPL.nil ?_
      refine WP.condP rfl (fun h3 => ?_) (fun h3 => ?_)
      · refine WP.rs ?_
        refine WPL.as (v := .slice none 0 0) rfl rfl ?_
        refine WPL.as (v := .int .i64 0) rfl rfl ?_
        refine WPL.nil ?_
        refine WP.ret ?_
        refine ⟨rfl, ?_⟩
        refine RO.tmp (v := .slice _ _ _) rfl ?_
        refine RO.tmp (v := .int .i64 _) rfl ?_
        refine RO.nil ?_
        exact ⟨hO.fr, NatErr.nil (by rw [shiftN_neg (by have := @blen_pos (val l) (fun e => ph2 (by rw [e, dig_zero]; rfl)); omega)]; exact shift_small (by omega))⟩
      · refine WP.rs ?_
        refine WPL.mv (v := .int .i64 _) rfl rfl ?_
        refine WPL.lt rfl rfl rfl ?_
        refine WPL.as (v := .bool _) rfl rfl ?_
        refine WPL.nil ?_
        refine WP.condP rfl (fun h4 => ?_) (fun h4 => ?_)
        · refine WP.rs ?_
          refine WPL.mv (v := .slice _ _ _) rfl rfl ?_
          refine WPL.mv (v := .int .i64 _) rfl rfl ?_
          refine WPL.negI rfl (by omega) rfl ?_
          refine WPL.quoN (a := (-k).toNat) (b := 32) (congrArg (Value.int .i64) (show -k = _ by omega)) rfl (by omega) (by omega) rfl ?_
          refine WPL.slL (lo := (-k).toNat / 32) rfl rfl rfl (by omega) rfl ?_
          refine WPL.mv (v := .int .i64 _) rfl rfl ?_
          refine WPL.negI rfl (by omega) rfl ?_
          refine WPL.remN (a := (-k).toNat) (b := 32) (congrArg (Value.int .i64) (show -k = _ by omega)) rfl (by omega) rfl ?_
          have hrow : RowOk w0 [] ⟨cutA a c ((-k).toNat / 32) 1, ws .u32 ((dig (val l)).drop ((-k).toNat / 32))⟩ := by
            have := ((hO.cut' (a := a) (vals := ws .u32 (dig (val l))) (l := (dig (val l)).length) (c := c) (lo := (-k).toNat / 32) (sz := 1) inferInstance (by simp) (by omega) (by omega)).rows _ (List.mem_cons_self ..)).weak
            rw [Nat.mul_one, ← ws_drop] at this; exact this
          refine WPL.call rfl (wide_down _ ((dig (val l)).drop ((-k).toNat / 32)) _ hrow ((dig_wd _).drop _) (by simp; omega) (by simp) (by simp; omega) _ (by omega)) Tryd.func76 rfl rfl rfl ?_
          rintro _ w ⟨hf1, a1, c1, o1, rfl, hc1, ho1, hw1, hv1, hr1⟩
          rw [shift_dn] at hv1
          have hm1 := hr1.mono hO.fr.size
          have hO := hO.res hf1 hr1
          rw [List.length_drop] at ho1 hc1
          refine WPL.call rfl (wide_Norm _ o1 _ hO.rd hw1 (by first | omega | (simp; omega)) (by first | omega | (simp; omega))) Tryd.func71 rfl rfl rfl ?_
          rintro _ w ⟨hf2, a2, c2, rfl, hc2, hr2⟩
          have hm2 := hr2.mono hO.fr.size
          have hO := hO.res hf2 hr2
          refine WPL.as (v := .slice _ _ _) rfl rfl ?_
          refine WPL.as (v := .int .i64 0) rfl rfl ?_
          refine WPL.nil ?_
          refine WP.ret ?_
          refine ⟨rfl, ?_⟩
          refine RO.tmp (v := .slice _ _ _) rfl ?_
          refine RO.tmp (v := .int .i64 _) rfl ?_
          refine RO.nil ?_
          refine ⟨hO.fr, a2, c2, ?_, by rw [shiftN_neg (by omega), ← hv1]; exact hc2, by rw [shiftN_neg (by omega), ← hv1]; exact hr2.mono (Nat.le_trans hf1.size (Nat.le_refl _))⟩
          rw [shiftN_neg (by omega), ← hv1]; rfl
        · refine WP.rs ?_
          refine WPL.mv (v := .int .i64 _) rfl rfl ?_
          refine WPL.mv (v := .slice _ _ _) rfl rfl ?_
          refine WPL.call rfl (wide_Len _ _ _ (by first | exact hO.rd | exact hO.rdG (by assumption)) (by first | assumption | exact dig_wd _) (by first | assumption | omega) (by first | rfl | simp) (by first | omega | simp)) Tryd.func75 rfl rfl rfl ?_
          rintro _ _ ⟨rfl, rfl⟩
          try simp only [val_dig]
          refine WPL.subI rfl rfl (by omega) rfl ?_
          refine WPL.gt rfl rfl rfl ?_
          refine WPL.as (v := .bool _) rfl rfl ?_
          refine WPL.nil ?_
          refine WP.condP rfl (fun h5 => ?_) (fun h5 => ?_)
          · exact absurd h5 (by omega)
          · refine WP.skip ?_
            refine WP.rs ?_
            refine WPL.mv (v := .int .i64 _) rfl rfl ?_
            refine WPL.quoN (a := k.toNat) (b := 32) (congrArg (Value.int .i64) (show k = _ by omega)) rfl (by omega) (by omega) rfl ?_
            refine WPL.mv (v := .int .i64 _) rfl rfl ?_
            refine WPL.quoN (a := k.toNat) (b := 32) (congrArg (Value.int .i64) (show k = _ by omega)) rfl (by omega) (by omega) rfl ?_
            refine WPL.mv (v := .slice _ _ _) rfl rfl ?_
            refine WPL.len rfl rfl ?_
            refine WPL.addI rfl rfl (by omega) rfl ?_
            refine WPL.addI rfl rfl (by omega) rfl ?_
            refine WPL.mkW (l := k.toNat / 32) (c := k.toNat / 32 + (dig (val l)).length + 1) rfl rfl rfl rfl hO (by omega) (by omega) (by omega) rfl (fun b1 w hO => ?_)
            refine WPL.as (v := .slice _ _ _) rfl rfl ?_
            refine WPL.nil ?_
            refine WP.rs ?_
            refine WPL.mv (v := .slice _ _ _) rfl rfl ?_
            refine WPL.mv (v := .slice _ _ _) rfl rfl ?_
            refine WPL.mv (v := .int .i64 _) rfl rfl ?_
            refine WPL.remN (a := k.toNat) (b := 32) (congrArg (Value.int .i64) (show k = _ by omega)) rfl (by omega) rfl ?_
            refine WPL.call rfl (wide_up _ _ _ (by first | exact hO.rd | exact hO.rdG (by assumption)) (by first | assumption | exact dig_wd _) (by first | omega | simp) (by first | rfl | simp) (by first | omega | simp) (by omega) _ (by omega)) Tryd.func78 rfl rfl rfl ?_
            rintro _ w ⟨hf56, a56, c56, o56, rfl, hc56, ho56, hw56, hv56, hr56⟩
            have hm56 := hr56.mono hO.fr.size
            have hO := hO.res hf56 hr56
            try simp only [val_dig] at hv56
            have hsrc : SrcRow w (.slice a56 ((dig (val l)).length + 1) c56) ((dig (val l)).length + 1) 1 (ws .u32 o56) := ⟨_, _, rfl, by simp [ho56], hO.rd, ws_one _ _⟩
            refine WPL.app (ze := [.int .u32 0]) (vals := ws .u32 (List.replicate (k.toNat / 32) 0)) (G := [⟨b1, ws .u32 (List.replicate (k.toNat / 32 + (dig (val l)).length + 1) 0), 60⟩]) (L := []) rfl hO (.inr ⟨b1, ws .u32 (List.replicate ((dig (val l)).length + 1) 0), rfl, by rw [← ws_append, List.replicate_append_replicate, Nat.add_assoc], by simp; omega⟩) (by simp) (by omega) hsrc (by decide) (by omega) (by omega) rfl (fun a57 c57 G57 w hG57 hc57 hO => ?_)
            have hrow : RowOk w [] ⟨a57, ws .u32 (List.replicate (k.toNat / 32) 0 ++ o56)⟩ := by rw [ws_append]; exact (hO.give hG57).row
            have hwo : Wd (List.replicate (k.toNat / 32) 0 ++ o56) := Wd.append (wd_zeros _) hw56
            have hvo := shift_up hv56
            have hbk := @blen_mul2 (val l) k.toNat
            have hlk : (dig (val l * 2 ^ k.toNat)).length ≤ 8192 := len_blen (by omega)
            refine WPL.call rfl (wide_fits _ (List.replicate (k.toNat / 32) 0 ++ o56) _ hrow hwo (by simp; omega) (by simp; omega) (by simp; omega) (by rw [hvo]; exact hlk)) Tryd.func77 rfl rfl rfl ?_
            rintro _ _ ⟨rfl, rfl⟩
            simp only [hvo]
            refine WPL.ext (v := .slice _ _ _) rfl rfl rfl ?_
            refine WPL.ext (v := .int .i64 _) rfl rfl rfl ?_
            refine WPL.as (v := .slice _ _ _) rfl rfl ?_
            refine WPL.as (v := .int .i64 _) rfl rfl ?_
            refine WPL.nil ?_
            refine WP.ret ?_
            refine ⟨rfl, ?_⟩
            refine RO.tmp (v := .slice _ _ _) rfl ?_
            refine RO.tmp (v := .int .i64 _) rfl ?_
            refine RO.nil ?_
            have hn := (hO.give hG57)
            rw [← ws_append] at hn
            obtain ⟨a', c', e, h1, h2⟩ := hn.natCut hwo hvo (Nat.le_refl _) (by have := dig_length_le hwo; rw [hvo] at this; simp at this; omega)
            simp only [Value.slice.injEq] at e
            obtain ⟨rfl, _, rfl⟩ := e
            refine ⟨hO.fr, _, _, ?_, by rw [shiftN_pos (by omega)]; exact h1, by rw [shiftN_pos (by omega)]; exact h2⟩
            rw [shiftN_pos (by omega)]; rfl

theorem wide_Sub {w0 : World} (a : Option Addr) (l : List Nat) (c : Nat) {n : Nat} (hr : RowOk w0 [] ⟨a, ws .u32 l⟩) (hw : Wd l) (hc : l.length ≤ c) (hn : n = l.length) (hb : l.length ≤ 70368744177664)(a2 : Option Addr) (l2 : List Nat) (c2 : Nat) {n2 : Nat} (hr2 : RowOk w0 [] ⟨a2, ws .u32 l2⟩) (hw2 : Wd l2) (hc2 : l2.length ≤ c2) (hn2 : n2 = l2.length) (hb2 : l2.length ≤ 70368744177664) (hf : (dig (val l)).length ≤ 8192) (hf2 : (dig (val l2)).length ≤ 8192) (hle : val l2 ≤ val l) : Spec Tryd.prog 62 [.slice a n c, .slice a2 n2 c2] w0 (fun v w' => FrX [] w0 w' ∧ NatErr w0 w' 60 (val l - val l2) v) := by
  subst hn hn2
  have hO : Own [] w0 [] [] [⟨a, ws .u32 l⟩, ⟨a2, ws .u32 l2⟩] w0 := Own.start (by intro e he; cases he) (by
      simp only [List.mem_cons, List.not_mem_nil, or_false]
      rintro r (rfl | rfl)
      · exact hr
      · exact hr2)
  have hlm := len_mono hle
  refine Spec.enter (n := 29) (rs := [.tmp 4, .tmp 5]) Tryd.func62 rfl rfl rfl rfl ?_
  refine WP.rs ?_
  refine WPL.as (v := .slice none 0 0) rfl rfl ?_
  refine WPL.as (v := .int .i64 0) rfl rfl ?_
  refine WPL.nil ?_
  refine WP.rs ?_
  refine WPL.mv (v := .slice _ _ _) rfl rfl ?_
  refine WPL.mv (v := .slice _ _ _) rfl rfl ?_
  refine WPL.call rfl (wide_both _ _ _ _ _ _ hO.rd hw hc rfl hb hO.rd hw2 hc2 rfl hb2 hf hf2) Tryd.func80 rfl rfl rfl ?_
  rintro _ _ ⟨rfl, nm, nn, rfl⟩
  have hO := (hO.takeN nm inferInstance hw).takeN nn inferInstance hw2
  refine WPL.mv (v := .tuple #[.slice _ _ _, .slice _ _ _, .int .i64 _]) rfl rfl ?_
  refine WPL.ext (v := .slice _ _ _) rfl rfl rfl ?_
  refine WPL.ext (v := .slice _ _ _) rfl rfl rfl ?_
  refine WPL.ext (v := .int .i64 _) rfl rfl rfl ?_
  refine WPL.as (v := .slice _ _ _) rfl rfl ?_
  refine WPL.as (v := .slice _ _ _) rfl rfl ?_
  refine WPL.as (v := .int .i64 _) rfl rfl ?_
  refine WPL.nil ?_
  refine WP.seq ?_
  refine WP.block ?_
  refine WP.rs ?_
  refine WPL.mv (v := .int .i64 _) rfl rfl ?_
  refine WPL.ne rfl rfl rfl ?_
  refine WPL.as (v := .bool _) rfl rfl ?_
  refine WPL.nil ?_
  refine WP.condP rfl (fun h1 => ?_) (fun h1 => ?_)
  · exact absurd rfl h1
  · refine WP.rs ?_
    refine WPL.mv (v := .slice _ _ _) rfl rfl ?_
    refine WPL.mv (v := .slice _ _ _) rfl rfl ?_
    refine WPL.call rfl (wide_Cmp _ _ _ hO.rd (dig_wd (val l)) (by have := dig_length_le hw; omega) rfl (by omega) _ _ _ hO.rd (dig_wd (val l2)) (by have := dig_length_le hw2; omega) rfl (by omega)) Tryd.func61 rfl rfl rfl ?_
    rintro _ w ⟨rfl, hf5⟩
    have hO := hO.call hf5
    simp only [val_dig]
    refine WPL.lt rfl rfl rfl ?_
    refine WPL.as (v := .bool _) rfl rfl ?_
    refine WPL.nil ?_
    refine WP.condP rfl (fun h2 => ?_) (fun h2 => ?_)
    · exact absurd (cmpN_neg.1 h2) (by omega)
    · refine WP.skip ?_
      refine WP.rs ?_
      refine WPL.mv (v := .slice _ _ _) rfl rfl ?_
      refine WPL.mv (v := .slice _ _ _) rfl rfl ?_
      refine WPL.call rfl (wide_less _ _ _ hO.rd (dig_wd (val l)) (by first | omega | assumption | (have := dig_length_le hw; omega)) rfl (by omega) _ _ _ hO.rd (dig_wd (val l2)) (by have := dig_length_le hw2; omega) rfl (by omega) (by simp only [val_dig]; exact hle) hlm) Tryd.func81 rfl rfl rfl ?_
      rintro _ w ⟨hf7, a7, c7, o7, rfl, hc7, ho7, hw7, hv7, hr7⟩
      simp only [val_dig] at hv7
      have hm7 := hr7.mono hO.fr.size
      have hO := hO.res hf7 hr7
      refine WPL.call rfl (wide_fits _ o7 _ hO.rd hw7 (by omega) (by omega) (by omega) (by rw [hv7]; have := len_mono (Nat.sub_le (val l) (val l2)); omega)) Tryd.func77 rfl rfl rfl ?_
      rintro _ _ ⟨rfl, rfl⟩
      simp only [hv7]
      refine WPL.ext (v := .slice _ _ _) rfl rfl rfl ?_
      refine WPL.ext (v := .int .i64 _) rfl rfl rfl ?_
      refine WPL.as (v := .slice _ _ _) rfl rfl ?_
      refine WPL.as (v := .int .i64 _) rfl rfl ?_
      refine WPL.nil ?_
      refine WP.ret ?_
      refine ⟨rfl, ?_⟩
      refine RO.tmp (v := .slice _ _ _) rfl ?_
      refine RO.tmp (v := .int .i64 _) rfl ?_
      refine RO.nil ?_
      obtain ⟨a', c', e, h1, h2⟩ := hm7.natCut hw7 hv7 (Nat.le_refl _) (by have := dig_length_le hw7; rw [hv7] at this; omega)
      simp only [Value.slice.injEq] at e
      obtain ⟨rfl, _, rfl⟩ := e
      exact ⟨hO.fr, _, _, rfl, h1, h2⟩

theorem wide_Mul {w0 : World} (a : Option Addr) (l : List Nat) (c : Nat) {n : Nat} (hr : RowOk w0 [] ⟨a, ws .u32 l⟩) (hw : Wd l) (hc : l.length ≤ c) (hn : n = l.length) (hb : l.length ≤ 70368744177664)(a2 : Option Addr) (l2 : List Nat) (c2 : Nat) {n2 : Nat} (hr2 : RowOk w0 [] ⟨a2, ws .u32 l2⟩) (hw2 : Wd l2) (hc2 : l2.length ≤ c2) (hn2 : n2 = l2.length) (hb2 : l2.length ≤ 70368744177664) (hf : (dig (val l)).length ≤ 8192) (hf2 : (dig (val l2)).length ≤ 8192) (hp : (dig (val l * val l2)).length ≤ 8192) : Spec Tryd.prog 66 [.slice a n c, .slice a2 n2 c2] w0 (fun v w' => FrX [] w0 w' ∧ NatErr w0 w' 60 (val l * val l2) v) := by
  subst hn hn2
  have hO : Own [] w0 [] [] [⟨a, ws .u32 l⟩, ⟨a2, ws .u32 l2⟩] w0 := Own.start (by intro e he; cases he) (by
      simp only [List.mem_cons, List.not_mem_nil, or_false]
      rintro r (rfl | rfl)
      · exact hr
      · exact hr2)
  refine Spec.enter (n := 23) (rs := [.tmp 4, .tmp 5]) Tryd.func66 rfl rfl rfl rfl ?_
  refine WP.rs ?_
  refine WPL.as (v := .slice none 0 0) rfl rfl ?_
  refine WPL.as (v := .int .i64 0) rfl rfl ?_
  refine WPL.nil ?_
  refine WP.rs ?_
  refine WPL.mv (v := .slice _ _ _) rfl rfl ?_
  refine WPL.mv (v := .slice _ _ _) rfl rfl ?_
  refine WPL.call rfl (wide_both _ _ _ _ _ _ hO.rd hw hc rfl hb hO.rd hw2 hc2 rfl hb2 hf hf2) Tryd.func80 rfl rfl rfl ?_
  rintro _ _ ⟨rfl, nm, nn, rfl⟩
  have hO := (hO.takeN nm inferInstance hw).takeN nn inferInstance hw2
  refine WPL.mv (v := .tuple #[.slice _ _ _, .slice _ _ _, .int .i64 _]) rfl rfl ?_
  refine WPL.ext (v := .slice _ _ _) rfl rfl rfl ?_
  refine WPL.ext (v := .slice _ _ _) rfl rfl rfl ?_
  refine WPL.ext (v := .int .i64 _) rfl rfl rfl ?_
  refine WPL.as (v := .slice _ _ _) rfl rfl ?_
  refine WPL.as (v := .slice _ _ _) rfl rfl ?_
  refine WPL.as (v := .int .i64 _) rfl rfl ?_
  refine WPL.nil ?_
  refine WP.seq ?_
  refine WP.rs ?_
  refine WPL.mv (v := .int .i64 _) rfl rfl ?_
  refine WPL.ne rfl rfl rfl ?_
  refine WPL.nil ?_
  refine WP.condP rfl (fun h1 => ?_) (fun h1 => ?_)
  · exact absurd rfl h1
  · refine WP.skip ?_
    refine WP.rs ?_
    refine WPL.mv (v := .slice _ _ _) rfl rfl ?_
    refine WPL.mv (v := .slice _ _ _) rfl rfl ?_
    refine WPL.call rfl (wide_times _ _ _ hO.rd (dig_wd (val l)) (by have := dig_length_le hw; omega) rfl (by omega) _ _ _ hO.rd (dig_wd (val l2)) (by have := dig_length_le hw2; omega) rfl (by omega) (by omega)) Tryd.func86 rfl rfl rfl ?_
    rintro _ w ⟨hf7, a7, c7, o7, rfl, hc7, ho7, hw7, hv7, hr7⟩
    simp only [val_dig] at hv7
    have hm7 := hr7.mono hO.fr.size
    have hO := hO.res hf7 hr7
    refine WPL.call rfl (wide_fits _ o7 _ hO.rd hw7 (by omega) (by omega) (by omega) (by rw [hv7]; exact hp)) Tryd.func77 rfl rfl rfl ?_
    rintro _ _ ⟨rfl, rfl⟩
    simp only [hv7]
    refine WPL.ext (v := .slice _ _ _) rfl rfl rfl ?_
    refine WPL.ext (v := .int .i64 _) rfl rfl rfl ?_
    refine WPL.as (v := .slice _ _ _) rfl rfl ?_
    refine WPL.as (v := .int .i64 _) rfl rfl ?_
    refine WPL.nil ?_
    refine WP.ret ?_
    refine ⟨rfl, ?_⟩
    refine RO.tmp (v := .slice _ _ _) rfl ?_
    refine RO.tmp (v := .int .i64 _) rfl ?_
    refine RO.nil ?_
    obtain ⟨a', c', e, h1, h2⟩ := hm7.natCut hw7 hv7 (Nat.le_refl _) (by have := dig_length_le hw7; rw [hv7] at this; omega)
    simp only [Value.slice.injEq] at e
    obtain ⟨rfl, _, rfl⟩ := e
    exact ⟨hO.fr, _, _, rfl, h1, h2⟩
end Go.Sw
