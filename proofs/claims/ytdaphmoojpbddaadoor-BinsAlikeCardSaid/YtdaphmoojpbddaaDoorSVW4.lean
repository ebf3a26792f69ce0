/- A part of the proof that BinsAlike answers true: steps of the walk, or plain laws that it needs. No conditions of its own. -/
import Derived.Test.YtdaphmoojpbddaaDoorSVW3
set_option linter.all false
namespace Go.Sw
set_option autoImplicit false
set_option linter.all false
open Go.Proofs Go.RowKit
noncomputable abbrev D77 : TypeDesc := (Tryd.prog.underlying 77).getD .bool
instance T77 : Ty Tryd.prog 77 D77 [.bool false, .int .i64 0, .int .i64 0, .int .u64 0] 32 := Ty.mk' (by kernel_rfl) (by kernel_rfl)
theorem agg77 : TypeDesc.agg D77 = true := by kernel_rfl
theorem pl77 : placesOf Tryd.prog 77 = some [(0, 1), (1, 1), (2, 1), (3, 1)] := by kernel_rfl
instance F77_0 : Fld Tryd.prog 77 0 0 := Fld.mk' (sz := 0) (by kernel_rfl)
instance F77_1 : Fld Tryd.prog 77 1 1 := Fld.mk' (sz := 0) (by kernel_rfl)
instance F77_2 : Fld Tryd.prog 77 2 2 := Fld.mk' (sz := 0) (by kernel_rfl)
instance F77_3 : Fld Tryd.prog 77 3 3 := Fld.mk' (sz := 0) (by kernel_rfl)
noncomputable abbrev D95 : TypeDesc := (Tryd.prog.underlying 95).getD .bool
instance T95 : Ty Tryd.prog 95 D95 [.int .i64 0, .int .i64 0, .int .i64 0] 24 := Ty.mk' (by kernel_rfl) (by kernel_rfl)
theorem agg95 : TypeDesc.agg D95 = true := by kernel_rfl
theorem pl95 : placesOf Tryd.prog 95 = some [(0, 1), (1, 1), (2, 1)] := by kernel_rfl
instance F95_0 : Fld Tryd.prog 95 0 0 := Fld.mk' (sz := 0) (by kernel_rfl)
instance F95_1 : Fld Tryd.prog 95 1 1 := Fld.mk' (sz := 0) (by kernel_rfl)
instance F95_2 : Fld Tryd.prog 95 2 2 := Fld.mk' (sz := 0) (by kernel_rfl)
theorem ext_F64bits : Ext Tryd.prog 25 Extern.MathFloatBits.float64bits := ⟨⟨_, Tryd.func25, rfl, rfl, by kernel_rfl, by kernel_rfl⟩⟩
theorem bits_long {w0 : World} : Spec Tryd.prog 55 [] w0 (fun v w' => FrX [] w0 w' ∧ v = .agg #[.int .i64 11, .int .i64 52, .int .i64 (-1074)]) := by
  have hO : Own [] w0 [] [] [] w0 := Own.start (by intro e he; cases he) (by intro r hr'; cases hr')
  refine Spec.enter (n := 2) (rs := [.cell 0 95]) Tryd.func55 rfl rfl rfl rfl ?_
  refine WP.rs ?_
  refine WPL.al hO rfl (fun b1 w hO => ?_)
  refine WPL.nil ?_
  refine WP.rs ?_
  refine WPL.bd (pv := [(0, .int .i64 11), (1, .int .i64 52), (2, .int .i64 (-1074))]) (vs := [_, _, _]) rfl (bd_of pl95 rfl rfl) rfl ?_
  refine WPL.stLA (T := T95) rfl rfl hO inferInstance inferInstance (by simp [Value.oneCell']) rfl rfl (fun w hO => ?_)
  refine WPL.nil ?_
  refine WP.ret ?_
  refine ⟨rfl, ?_⟩
  refine RO.cell (T := T95) [.int .i64 _, .int .i64 _, .int .i64 _] rfl hO inferInstance rfl agg95 rfl ?_
  refine RO.nil ?_
  exact ⟨hO.fr, rfl⟩

theorem bits_parts {w0 : World} (b : Nat) (hb : b < 18446744073709551616) : Spec Tryd.prog 56 [.agg #[.int .i64 11, .int .i64 52, .int .i64 (-1074)], .int .u64 (b : Int)] w0 (fun v w' => FrX [] w0 w' ∧ v = ptV (split b)) := by
  have hO : Own [] w0 [] [] [] w0 := Own.start (by intro e he; cases he) (by intro r hr'; cases hr')
  refine Spec.enter (n := 81) (rs := [.cell 4 77]) Tryd.func56 rfl rfl rfl rfl ?_
  refine WP.rs ?_
  refine WPL.bx (v := .agg #[.int .i64 _, .int .i64 _, .int .i64 _]) rfl rfl hO rfl (fun b1 w hO => ?_)
  refine WPL.al hO rfl (fun b2 w hO => ?_)
  refine WPL.nil ?_
  refine WP.rs ?_
  refine WPL.mv (v := .int .u64 _) rfl rfl ?_
  refine WPL.fa rfl rfl ?_
  refine WPL.ldL rfl hO inferInstance rfl rfl rfl ?_
  refine WPL.shlc_u64 (a := 1) (s := 52) (p := 4503599627370496) rfl rfl rfl rfl ?_
  refine WPL.u64To (op := .sub) (b := 1) 4503599627370495 (.inl rfl) rfl rfl (.inl ⟨rfl, rfl⟩) (by decide) rfl ?_
  refine WPL.and_u64 rfl rfl (by first | omega | exact Nat.mod_lt _ (by decide) | exact Wd.get (by assumption) _ | exact (dig_wd _).get _ | exact Nat.lt_of_le_of_lt (Nat.div_le_self ..) (Wd.get (by assumption) _) | exact Nat.lt_of_lt_of_le (Wd.get (by assumption) _) (by decide)) (by first | omega | exact Nat.mod_lt _ (by decide) | exact Wd.get (by assumption) _ | exact (dig_wd _).get _ | exact Nat.lt_of_le_of_lt (Nat.div_le_self ..) (Wd.get (by assumption) _) | exact Nat.lt_of_lt_of_le (Wd.get (by assumption) _) (by decide)) rfl ?_
  refine WPL.as (v := .int .u64 ((b % 4503599627370496 : Nat) : Int)) (congrArg (fun z : Nat => Value.int .u64 (z : Int)) (Nat.and_two_pow_sub_one_eq_mod b 52)) rfl ?_
  refine WPL.nil ?_
  refine WP.seq ?_
  refine WP.draw [(0, 0), (1, 0), (2, 1), (3, 0), (4, 0), (5, 0), (6, 1), (7, 0), (8, 0), (9, 0), (10, 0)] [] mixed (by kernel_rfl) (by kernel_rfl) rfl hO (fun w hO => ?_)
  refine WPD.pv rfl rfl (fun w k' h => WPL.mv (v := .int .u64 _) rfl rfl (WPL.nil h)) ?_
  refine WPD.pv rfl rfl (fun w k' h => WPL.fa rfl rfl (WPL.nil h)) ?_
  refine WPD.val rfl rfl (fun w hO k' h => WPL.ldL rfl hO inferInstance rfl rfl rfl (WPL.nil h)) ?_
  refine WPD.pv rfl rfl (fun w k' h => WPL.shrc_u64 (a := b) (s := 52) (p := 4503599627370496) rfl rfl rfl hb rfl (WPL.nil h)) ?_
  refine WPD.pv rfl rfl (fun w k' h => WPL.cv_i64 rfl (by first | omega | exact Nat.mod_lt _ (by decide) | exact Wd.get (by assumption) _ | exact (dig_wd _).get _ | exact Nat.lt_of_le_of_lt (Nat.div_le_self ..) (Wd.get (by assumption) _) | exact Nat.lt_of_lt_of_le (Wd.get (by assumption) _) (by decide)) rfl (WPL.nil h)) ?_
  refine WPD.pv rfl rfl (fun w k' h => WPL.fa rfl rfl (WPL.nil h)) ?_
  refine WPD.val rfl rfl (fun w hO k' h => WPL.ldL rfl hO inferInstance rfl rfl rfl (WPL.nil h)) ?_
  refine WPD.pv rfl rfl (fun w k' h => WPL.shlI (s := 11) (r := 2048) rfl rfl (by decide) (by decide) (by decide) rfl (WPL.nil h)) ?_
  refine WPD.pv rfl rfl (fun w k' h => WPL.subTo ((2047 : Nat) : Int) rfl rfl (by decide) (by decide) rfl (WPL.nil h)) ?_
  refine WPD.pv rfl rfl (fun w k' h => WPL.and_i64 (a := b / 4503599627370496) (b := 2047) rfl rfl (by omega) (by decide) rfl (WPL.nil h)) ?_
  refine WPD.pv rfl rfl (fun w k' h => WPL.as (v := .int .i64 ((b / 4503599627370496 % 2048 : Nat) : Int)) (congrArg (fun z : Nat => Value.int .i64 (z : Int)) (Nat.and_two_pow_sub_one_eq_mod (b / 4503599627370496) 11)) rfl (WPL.nil h)) ?_
  refine WPD.nil hO ?_
  refine WP.rs ?_
  refine WPL.mv (v := .int .u64 _) rfl rfl ?_
  refine WPL.fa rfl rfl ?_
  refine WPL.ldL rfl hO inferInstance rfl rfl rfl ?_
  refine WPL.fa rfl rfl ?_
  refine WPL.ldL rfl hO inferInstance rfl rfl rfl ?_
  refine WPL.addTo ((63 : Nat) : Int) rfl rfl (by decide) (by decide) rfl ?_
  refine WPL.shrc_u64 (a := b) (s := 63) (p := 9223372036854775808) rfl rfl rfl hb rfl ?_
  refine WPL.and_u64 (b := 1) rfl rfl (by first | omega | exact Nat.mod_lt _ (by decide) | exact Wd.get (by assumption) _ | exact (dig_wd _).get _ | exact Nat.lt_of_le_of_lt (Nat.div_le_self ..) (Wd.get (by assumption) _) | exact Nat.lt_of_lt_of_le (Wd.get (by assumption) _) (by decide)) (by first | omega | exact Nat.mod_lt _ (by decide) | exact Wd.get (by assumption) _ | exact (dig_wd _).get _ | exact Nat.lt_of_le_of_lt (Nat.div_le_self ..) (Wd.get (by assumption) _) | exact Nat.lt_of_lt_of_le (Wd.get (by assumption) _) (by decide)) rfl ?_
  refine WPL.eq rfl rfl rfl ?_
  refine WPL.as (v := .bool (decide (9223372036854775808 ≤ b))) (congrArg Value.bool (decide_eq_decide.2 (by rw [Nat.and_one_is_mod]; omega))) rfl ?_
  refine WPL.nil ?_
  refine WP.seq ?_
  refine WP.block ?_
  refine WP.rs ?_
  refine WPL.mv (v := .int .i64 _) rfl rfl ?_
  refine WPL.fa rfl rfl ?_
  refine WPL.ldL rfl hO inferInstance rfl rfl rfl ?_
  refine WPL.shlI (s := 11) (r := 2048) rfl rfl (by decide) (by decide) (by decide) rfl ?_
  refine WPL.subTo ((2047 : Nat) : Int) rfl rfl (by decide) (by decide) rfl ?_
  refine WPL.eq rfl rfl rfl ?_
  refine WPL.mv (v := .bool _) rfl rfl ?_
  refine WPL.split (s := 40) rfl (fun h1 => ?_) (fun h1 => ?_)
  · have ph1 := of_decide_eq_true h1
    refine WPL.guardT rfl rfl h1 ?_
    refine WPL.mv (v := .int .u64 _) rfl rfl ?_
    refine WPL.guardT rfl rfl h1 ?_
    refine WPL.ne rfl rfl rfl ?_
    refine WPL.pkT (v := .bool _) rfl h1 rfl rfl ?_
    refine WPL.as (v := .bool _) rfl rfl ?_
    refine WPL.nil ?_
    refine WP.condP rfl (fun h2 => ?_) (fun h2 => ?_)
    · refine WP.rs ?_
      refine WPL.bd (pv := [(1, .int .i64 4)]) (vs := [_, _, _, _]) rfl (bd_of pl77 rfl rfl) rfl ?_
      refine WPL.stLA (T := T77) rfl rfl hO inferInstance inferInstance (by simp [Value.oneCell']) rfl rfl (fun w hO => ?_)
      refine WPL.nil ?_
      refine WP.ret ?_
      refine ⟨rfl, ?_⟩
      refine RO.cell (T := T77) [.bool _, .int .i64 _, .int .i64 _, .int .u64 _] rfl hO inferInstance rfl agg77 rfl ?_
      refine RO.nil ?_
      first
      | exact ⟨hO.fr, by rw [split_odd (by omega) (by omega)]; rfl⟩
      | exact ⟨hO.fr, by rw [split_end (by omega) (by omega)]; rfl⟩
      | exact ⟨hO.fr, by rw [split_small (by omega) (by omega)]; rfl⟩
      | exact ⟨hO.fr, by rw [split_zero (by omega) (by omega)]; rfl⟩
      | (have eor : (b % 4503599627370496 ||| 1 * 4503599627370496 % 18446744073709551616) = b % 4503599627370496 + 4503599627370496 := or_add (r := 1) (k := 52) (Nat.mod_lt _ (by decide))
         refine ⟨hO.fr, ?_⟩
         rw [split_plain (by omega) (by omega)]
         show Value.agg #[_, _, _, Value.int .u64 _] = _
         rw [eor]; rfl)
    · refine WP.rs ?_
      refine WPL.mv (v := .int .i64 _) rfl rfl ?_
      refine WPL.fa rfl rfl ?_
      refine WPL.ldL rfl hO inferInstance rfl rfl rfl ?_
      refine WPL.shlI (s := 11) (r := 2048) rfl rfl (by decide) (by decide) (by decide) rfl ?_
      refine WPL.subTo ((2047 : Nat) : Int) rfl rfl (by decide) (by decide) rfl ?_
      refine WPL.eq rfl rfl rfl ?_
      refine WPL.as (v := .bool _) rfl rfl ?_
      refine WPL.nil ?_
      refine WP.condP rfl (fun h3 => ?_) (fun h3 => ?_)
      · refine WP.rs ?_
        refine WPL.mv (v := .bool _) rfl rfl ?_
        refine WPL.bd (pv := [(0, .bool _), (1, .int .i64 3)]) (vs := [_, _, _, _]) rfl (bd_of pl77 rfl rfl) rfl ?_
        refine WPL.stLA (T := T77) rfl rfl hO inferInstance inferInstance (by simp [Value.oneCell']) rfl rfl (fun w hO => ?_)
        refine WPL.nil ?_
        refine WP.ret ?_
        refine ⟨rfl, ?_⟩
        refine RO.cell (T := T77) [.bool _, .int .i64 _, .int .i64 _, .int .u64 _] rfl hO inferInstance rfl agg77 rfl ?_
        refine RO.nil ?_
        first
        | exact ⟨hO.fr, by rw [split_odd (by omega) (by omega)]; rfl⟩
        | exact ⟨hO.fr, by rw [split_end (by omega) (by omega)]; rfl⟩
        | exact ⟨hO.fr, by rw [split_small (by omega) (by omega)]; rfl⟩
        | exact ⟨hO.fr, by rw [split_zero (by omega) (by omega)]; rfl⟩
        | (have eor : (b % 4503599627370496 ||| 1 * 4503599627370496 % 18446744073709551616) = b % 4503599627370496 + 4503599627370496 := or_add (r := 1) (k := 52) (Nat.mod_lt _ (by decide))
           refine ⟨hO.fr, ?_⟩
           rw [split_plain (by omega) (by omega)]
           show Value.agg #[_, _, _, Value.int .u64 _] = _
           rw [eor]; rfl)
      · refine WP.rs ?_
        refine WPL.mv (v := .int .i64 _) rfl rfl ?_
        refine WPL.gt rfl rfl rfl ?_
        refine WPL.as (v := .bool _) rfl rfl ?_
        refine WPL.nil ?_
        refine WP.condP rfl (fun h4 => ?_) (fun h4 => ?_)
        · refine WP.seq ?_
          refine WP.draw [(0, 0), (1, 0), (2, 1), (3, 0), (4, 0), (5, 0), (6, 0), (7, 0), (8, 1), (9, 0), (10, 0), (11, 0), (12, 2)] [12] mixed (by kernel_rfl) (by kernel_rfl) rfl hO (fun w hO => ?_)
          refine WPD.pv rfl rfl (fun w k' h => WPL.mv (v := .bool _) rfl rfl (WPL.nil h)) ?_
          refine WPD.pv rfl rfl (fun w k' h => WPL.fa rfl rfl (WPL.nil h)) ?_
          refine WPD.val rfl rfl (fun w hO k' h => WPL.ldL rfl hO inferInstance rfl rfl rfl (WPL.nil h)) ?_
          refine WPD.pv rfl rfl (fun w k' h => WPL.mv (v := .int .i64 _) rfl rfl (WPL.nil h)) ?_
          refine WPD.pv rfl rfl (fun w k' h => WPL.addI rfl rfl (by omega) rfl (WPL.nil h)) ?_
          refine WPD.pv rfl rfl (fun w k' h => WPL.subI rfl rfl (by omega) rfl (WPL.nil h)) ?_
          refine WPD.pv rfl rfl (fun w k' h => WPL.mv (v := .int .u64 _) rfl rfl (WPL.nil h)) ?_
          refine WPD.pv rfl rfl (fun w k' h => WPL.fa rfl rfl (WPL.nil h)) ?_
          refine WPD.val rfl rfl (fun w hO k' h => WPL.ldL rfl hO inferInstance rfl rfl rfl (WPL.nil h)) ?_
          refine WPD.pv rfl rfl (fun w k' h => WPL.shlc_u64 (a := 1) (s := 52) (p := 4503599627370496) rfl rfl rfl rfl (WPL.nil h)) ?_
          refine WPD.pv rfl rfl (fun w k' h => WPL.or_u64 rfl rfl (by first | omega | exact Nat.mod_lt _ (by decide) | exact Wd.get (by assumption) _ | exact (dig_wd _).get _ | exact Nat.lt_of_le_of_lt (Nat.div_le_self ..) (Wd.get (by assumption) _) | exact Nat.lt_of_lt_of_le (Wd.get (by assumption) _) (by decide)) (by first | omega | exact Nat.mod_lt _ (by decide) | exact Wd.get (by assumption) _ | exact (dig_wd _).get _ | exact Nat.lt_of_le_of_lt (Nat.div_le_self ..) (Wd.get (by assumption) _) | exact Nat.lt_of_lt_of_le (Wd.get (by assumption) _) (by decide)) rfl (WPL.nil h)) ?_
          refine WPD.pv rfl rfl (fun w k' h => WPL.bd (pv := [(0, .bool _), (1, .int .i64 2), (2, .int .i64 _), (3, .int .u64 _)]) (vs := [_, _, _, _]) rfl (bd_of pl77 rfl rfl) rfl (WPL.nil h)) ?_
          refine WPD.eff rfl hO ?_
          refine WPL.stLA (T := T77) rfl rfl hO inferInstance inferInstance (by simp [Value.oneCell']) rfl rfl (fun w hO => ?_)
          refine WPL.nil ?_
          refine WPD.nilX (by kernel_rfl) ?_
          refine WP.ret ?_
          refine ⟨rfl, ?_⟩
          refine RO.cell (T := T77) [.bool _, .int .i64 _, .int .i64 _, .int .u64 _] rfl hO inferInstance rfl agg77 rfl ?_
          refine RO.nil ?_
          first
          | exact ⟨hO.fr, by rw [split_odd (by omega) (by omega)]; rfl⟩
          | exact ⟨hO.fr, by rw [split_end (by omega) (by omega)]; rfl⟩
          | exact ⟨hO.fr, by rw [split_small (by omega) (by omega)]; rfl⟩
          | exact ⟨hO.fr, by rw [split_zero (by omega) (by omega)]; rfl⟩
          | (have eor : (b % 4503599627370496 ||| 1 * 4503599627370496 % 18446744073709551616) = b % 4503599627370496 + 4503599627370496 := or_add (r := 1) (k := 52) (Nat.mod_lt _ (by decide))
             refine ⟨hO.fr, ?_⟩
             rw [split_plain (by omega) (by omega)]
             show Value.agg #[_, _, _, Value.int .u64 _] = _
             rw [eor]; rfl)
        · refine WP.rs ?_
          refine WPL.mv (v := .int .u64 _) rfl rfl ?_
          refine WPL.gt rfl rfl rfl ?_
          refine WPL.as (v := .bool _) rfl rfl ?_
          refine WPL.nil ?_
          refine WP.condP rfl (fun h5 => ?_) (fun h5 => ?_)
          · refine WP.rs ?_
            refine WPL.mv (v := .bool _) rfl rfl ?_
            refine WPL.fa rfl rfl ?_
            refine WPL.ldL rfl hO inferInstance rfl rfl rfl ?_
            refine WPL.mv (v := .int .u64 _) rfl rfl ?_
            refine WPL.bd (pv := [(0, .bool _), (1, .int .i64 1), (2, .int .i64 _), (3, .int .u64 _)]) (vs := [_, _, _, _]) rfl (bd_of pl77 rfl rfl) rfl ?_
            refine WPL.stLA (T := T77) rfl rfl hO inferInstance inferInstance (by simp [Value.oneCell']) rfl rfl (fun w hO => ?_)
            refine WPL.nil ?_
            refine WP.ret ?_
            refine ⟨rfl, ?_⟩
            refine RO.cell (T := T77) [.bool _, .int .i64 _, .int .i64 _, .int .u64 _] rfl hO inferInstance rfl agg77 rfl ?_
            refine RO.nil ?_
            first
            | exact ⟨hO.fr, by rw [split_odd (by omega) (by omega)]; rfl⟩
            | exact ⟨hO.fr, by rw [split_end (by omega) (by omega)]; rfl⟩
            | exact ⟨hO.fr, by rw [split_small (by omega) (by omega)]; rfl⟩
            | exact ⟨hO.fr, by rw [split_zero (by omega) (by omega)]; rfl⟩
            | (have eor : (b % 4503599627370496 ||| 1 * 4503599627370496 % 18446744073709551616) = b % 4503599627370496 + 4503599627370496 := or_add (r := 1) (k := 52) (Nat.mod_lt _ (by decide))
               refine ⟨hO.fr, ?_⟩
               rw [split_plain (by omega) (by omega)]
               show Value.agg #[_, _, _, Value.int .u64 _] = _
               rw [eor]; rfl)
          · refine WP.skip ?_
            refine WP.rs ?_
            refine WPL.mv (v := .bool _) rfl rfl ?_
            refine WPL.fa rfl rfl ?_
            refine WPL.ldL rfl hO inferInstance rfl rfl rfl ?_
            refine WPL.bd (pv := [(0, .bool _), (1, .int .i64 0), (2, .int .i64 _)]) (vs := [_, _, _, _]) rfl (bd_of pl77 rfl rfl) rfl ?_
            refine WPL.stLA (T := T77) rfl rfl hO inferInstance inferInstance (by simp [Value.oneCell']) rfl rfl (fun w hO => ?_)
            refine WPL.nil ?_
            refine WP.ret ?_
            refine ⟨rfl, ?_⟩
            refine RO.cell (T := T77) [.bool _, .int .i64 _, .int .i64 _, .int .u64 _] rfl hO inferInstance rfl agg77 rfl ?_
            refine RO.nil ?_
            first
            | exact ⟨hO.fr, by rw [split_odd (by omega) (by omega)]; rfl⟩
            | exact ⟨hO.fr, by rw [split_end (by omega) (by omega)]; rfl⟩
            | exact ⟨hO.fr, by rw [split_small (by omega) (by omega)]; rfl⟩
            | exact ⟨hO.fr, by rw [split_zero (by omega) (by omega)]; rfl⟩
            | (have eor : (b % 4503599627370496 ||| 1 * 4503599627370496 % 18446744073709551616) = b % 4503599627370496 + 4503599627370496 := or_add (r := 1) (k := 52) (Nat.mod_lt _ (by decide))
               refine ⟨hO.fr, ?_⟩
               rw [split_plain (by omega) (by omega)]
               show Value.agg #[_, _, _, Value.int .u64 _] = _
               rw [eor]; rfl)
  · have ph1 := of_decide_eq_false h1
    refine WPL.guardF rfl rfl rfl h1 ?_
    refine WPL.guardF rfl rfl rfl h1 ?_
    refine WPL.pkF (v := .bool false) rfl h1 rfl rfl ?_
    refine WPL.as (v := .bool _) rfl rfl ?_
    refine WPL.nil ?_
    refine WP.cF rfl rfl ?_
    refine WP.rs ?_
    refine WPL.mv (v := .int .i64 _) rfl rfl ?_
    refine WPL.fa rfl rfl ?_
    refine WPL.ldL rfl hO inferInstance rfl rfl rfl ?_
    refine WPL.shlI (s := 11) (r := 2048) rfl rfl (by decide) (by decide) (by decide) rfl ?_
    refine WPL.subTo ((2047 : Nat) : Int) rfl rfl (by decide) (by decide) rfl ?_
    refine WPL.eq rfl rfl rfl ?_
    refine WPL.as (v := .bool _) rfl rfl ?_
    refine WPL.nil ?_
    refine WP.condP rfl (fun h6 => ?_) (fun h6 => ?_)
    · refine WP.rs ?_
      refine WPL.mv (v := .bool _) rfl rfl ?_
      refine WPL.bd (pv := [(0, .bool _), (1, .int .i64 3)]) (vs := [_, _, _, _]) rfl (bd_of pl77 rfl rfl) rfl ?_
      refine WPL.stLA (T := T77) rfl rfl hO inferInstance inferInstance (by simp [Value.oneCell']) rfl rfl (fun w hO => ?_)
      refine WPL.nil ?_
      refine WP.ret ?_
      refine ⟨rfl, ?_⟩
      refine RO.cell (T := T77) [.bool _, .int .i64 _, .int .i64 _, .int .u64 _] rfl hO inferInstance rfl agg77 rfl ?_
      refine RO.nil ?_
      first
      | exact ⟨hO.fr, by rw [split_odd (by omega) (by omega)]; rfl⟩
      | exact ⟨hO.fr, by rw [split_end (by omega) (by omega)]; rfl⟩
      | exact ⟨hO.fr, by rw [split_small (by omega) (by omega)]; rfl⟩
      | exact ⟨hO.fr, by rw [split_zero (by omega) (by omega)]; rfl⟩
      | (have eor : (b % 4503599627370496 ||| 1 * 4503599627370496 % 18446744073709551616) = b % 4503599627370496 + 4503599627370496 := or_add (r := 1) (k := 52) (Nat.mod_lt _ (by decide))
         refine ⟨hO.fr, ?_⟩
         rw [split_plain (by omega) (by omega)]
         show Value.agg #[_, _, _, Value.int .u64 _] = _
         rw [eor]; rfl)
    · refine WP.rs ?_
      refine WPL.mv (v := .int .i64 _) rfl rfl ?_
      refine WPL.gt rfl rfl rfl ?_
      refine WPL.as (v := .bool _) rfl rfl ?_
      refine WPL.nil ?_
      refine WP.condP rfl (fun h7 => ?_) (fun h7 => ?_)
      · refine WP.seq ?_
        refine WP.draw [(0, 0), (1, 0), (2, 1), (3, 0), (4, 0), (5, 0), (6, 0), (7, 0), (8, 1), (9, 0), (10, 0), (11, 0), (12, 2)] [12] mixed (by kernel_rfl) (by kernel_rfl) rfl hO (fun w hO => ?_)
        refine WPD.pv rfl rfl (fun w k' h => WPL.mv (v := .bool _) rfl rfl (WPL.nil h)) ?_
        refine WPD.pv rfl rfl (fun w k' h => WPL.fa rfl rfl (WPL.nil h)) ?_
        refine WPD.val rfl rfl (fun w hO k' h => WPL.ldL rfl hO inferInstance rfl rfl rfl (WPL.nil h)) ?_
        refine WPD.pv rfl rfl (fun w k' h => WPL.mv (v := .int .i64 _) rfl rfl (WPL.nil h)) ?_
        refine WPD.pv rfl rfl (fun w k' h => WPL.addI rfl rfl (by omega) rfl (WPL.nil h)) ?_
        refine WPD.pv rfl rfl (fun w k' h => WPL.subI rfl rfl (by omega) rfl (WPL.nil h)) ?_
        refine WPD.pv rfl rfl (fun w k' h => WPL.mv (v := .int .u64 _) rfl rfl (WPL.nil h)) ?_
        refine WPD.pv rfl rfl (fun w k' h => WPL.fa rfl rfl (WPL.nil h)) ?_
        refine WPD.val rfl rfl (fun w hO k' h => WPL.ldL rfl hO inferInstance rfl rfl rfl (WPL.nil h)) ?_
        refine WPD.pv rfl rfl (fun w k' h => WPL.shlc_u64 (a := 1) (s := 52) (p := 4503599627370496) rfl rfl rfl rfl (WPL.nil h)) ?_
        refine WPD.pv rfl rfl (fun w k' h => WPL.or_u64 rfl rfl (by first | omega | exact Nat.mod_lt _ (by decide) | exact Wd.get (by assumption) _ | exact (dig_wd _).get _ | exact Nat.lt_of_le_of_lt (Nat.div_le_self ..) (Wd.get (by assumption) _) | exact Nat.lt_of_lt_of_le (Wd.get (by assumption) _) (by decide)) (by first | omega | exact Nat.mod_lt _ (by decide) | exact Wd.get (by assumption) _ | exact (dig_wd _).get _ | exact Nat.lt_of_le_of_lt (Nat.div_le_self ..) (Wd.get (by assumption) _) | exact Nat.lt_of_lt_of_le (Wd.get (by assumption) _) (by decide)) rfl (WPL.nil h)) ?_
        refine WPD.pv rfl rfl (fun w k' h => WPL.bd (pv := [(0, .bool _), (1, .int .i64 2), (2, .int .i64 _), (3, .int .u64 _)]) (vs := [_, _, _, _]) rfl (bd_of pl77 rfl rfl) rfl (WPL.nil h)) ?_
        refine WPD.eff rfl hO ?_
        refine WPL.stLA (T := T77) rfl rfl hO inferInstance inferInstance (by simp [Value.oneCell']) rfl rfl (fun w hO => ?_)
        refine WPL.nil ?_
        refine WPD.nilX (by kernel_rfl) ?_
        refine WP.ret ?_
        refine ⟨rfl, ?_⟩
        refine RO.cell (T := T77) [.bool _, .int .i64 _, .int .i64 _, .int .u64 _] rfl hO inferInstance rfl agg77 rfl ?_
        refine RO.nil ?_
        first
        | exact ⟨hO.fr, by rw [split_odd (by omega) (by omega)]; rfl⟩
        | exact ⟨hO.fr, by rw [split_end (by omega) (by omega)]; rfl⟩
        | exact ⟨hO.fr, by rw [split_small (by omega) (by omega)]; rfl⟩
        | exact ⟨hO.fr, by rw [split_zero (by omega) (by omega)]; rfl⟩
        | (have eor : (b % 4503599627370496 ||| 1 * 4503599627370496 % 18446744073709551616) = b % 4503599627370496 + 4503599627370496 := or_add (r := 1) (k := 52) (Nat.mod_lt _ (by decide))
           refine ⟨hO.fr, ?_⟩
           rw [split_plain (by omega) (by omega)]
           show Value.agg #[_, _, _, Value.int .u64 _] = _
           rw [eor]; rfl)
      · refine WP.rs ?_
        refine WPL.mv (v := .int .u64 _) rfl rfl ?_
        refine WPL.gt rfl rfl rfl ?_
        refine WPL.as (v := .bool _) rfl rfl ?_
        refine WPL.nil ?_
        refine WP.condP rfl (fun h8 => ?_) (fun h8 => ?_)
        · refine WP.rs ?_
          refine WPL.mv (v := .bool _) rfl rfl ?_
          refine WPL.fa rfl rfl ?_
          refine WPL.ldL rfl hO inferInstance rfl rfl rfl ?_
          refine WPL.mv (v := .int .u64 _) rfl rfl ?_
          refine WPL.bd (pv := [(0, .bool _), (1, .int .i64 1), (2, .int .i64 _), (3, .int .u64 _)]) (vs := [_, _, _, _]) rfl (bd_of pl77 rfl rfl) rfl ?_
          refine WPL.stLA (T := T77) rfl rfl hO inferInstance inferInstance (by simp [Value.oneCell']) rfl rfl (fun w hO => ?_)
          refine WPL.nil ?_
          refine WP.ret ?_
          refine ⟨rfl, ?_⟩
          refine RO.cell (T := T77) [.bool _, .int .i64 _, .int .i64 _, .int .u64 _] rfl hO inferInstance rfl agg77 rfl ?_
          refine RO.nil ?_
          first
          | exact ⟨hO.fr, by rw [split_odd (by omega) (by omega)]; rfl⟩
          | exact ⟨hO.fr, by rw [split_end (by omega) (by omega)]; rfl⟩
          | exact ⟨hO.fr, by rw [split_small (by omega) (by omega)]; rfl⟩
          | exact ⟨hO.fr, by rw [split_zero (by omega) (by omega)]; rfl⟩
          | (have eor : (b % 4503599627370496 ||| 1 * 4503599627370496 % 18446744073709551616) = b % 4503599627370496 + 4503599627370496 := or_add (r := 1) (k := 52) (Nat.mod_lt _ (by decide))
             refine ⟨hO.fr, ?_⟩
             rw [split_plain (by omega) (by omega)]
             show Value.agg #[_, _, _, Value.int .u64 _] = _
             rw [eor]; rfl)
        · refine WP.skip ?_
          refine WP.rs ?_
          refine WPL.mv (v := .bool _) rfl rfl ?_
          refine WPL.fa rfl rfl ?_
          refine WPL.ldL rfl hO inferInstance rfl rfl rfl ?_
          refine WPL.bd (pv := [(0, .bool _), (1, .int .i64 0), (2, .int .i64 _)]) (vs := [_, _, _, _]) rfl (bd_of pl77 rfl rfl) rfl ?_
          refine WPL.stLA (T := T77) rfl rfl hO inferInstance inferInstance (by simp [Value.oneCell']) rfl rfl (fun w hO => ?_)
          refine WPL.nil ?_
          refine WP.ret ?_
          refine ⟨rfl, ?_⟩
          refine RO.cell (T := T77) [.bool _, .int .i64 _, .int .i64 _, .int .u64 _] rfl hO inferInstance rfl agg77 rfl ?_
          refine RO.nil ?_
          first
          | exact ⟨hO.fr, by rw [split_odd (by omega) (by omega)]; rfl⟩
          | exact ⟨hO.fr, by rw [split_end (by omega) (by omega)]; rfl⟩
          | exact ⟨hO.fr, by rw [split_small (by omega) (by omega)]; rfl⟩
          | exact ⟨hO.fr, by rw [split_zero (by omega) (by omega)]; rfl⟩
          | (have eor : (b % 4503599627370496 ||| 1 * 4503599627370496 % 18446744073709551616) = b % 4503599627370496 + 4503599627370496 := or_add (r := 1) (k := 52) (Nat.mod_lt _ (by decide))
             refine ⟨hO.fr, ?_⟩
             rw [split_plain (by omega) (by omega)]
             show Value.agg #[_, _, _, Value.int .u64 _] = _
             rw [eor]; rfl)

theorem bits_Split {w0 : World} (b : Nat) (hb : b < 18446744073709551616) : Spec Tryd.prog 38 [.float .f64 b] w0 (fun v w' => FrX [] w0 w' ∧ v = ptV (split b)) := by
  have hO : Own [] w0 [] [] [] w0 := Own.start (by intro e he; cases he) (by intro r hr'; cases hr')
  refine Spec.enter (n := 7) (rs := [.cell 2 77]) Tryd.func38 rfl rfl rfl rfl ?_
  refine WP.rs ?_
  refine WPL.al hO rfl (fun b1 w hO => ?_)
  refine WPL.nil ?_
  refine WP.rs ?_
  refine WPL.call rfl bits_long Tryd.func55 rfl rfl rfl ?_
  rintro _ w ⟨hf3, rfl⟩
  have hO := hO.call hf3
  refine WPL.mv (v := .float .f64 _) rfl rfl ?_
  refine WPL.f64bits ext_F64bits rfl rfl ?_
  refine WPL.call rfl (bits_parts _ (by assumption)) Tryd.func56 rfl rfl rfl ?_
  rintro _ w ⟨hf6, rfl⟩
  have hO := hO.call hf6
  unfold ptV
  refine WPL.stLA (T := T77) rfl rfl hO inferInstance inferInstance (by simp [Value.oneCell']) rfl rfl (fun w hO => ?_)
  refine WPL.nil ?_
  refine WP.ret ?_
  refine ⟨rfl, ?_⟩
  refine RO.cell (T := T77) [.bool _, .int .i64 _, .int .i64 _, .int .u64 _] rfl hO inferInstance rfl agg77 rfl ?_
  refine RO.nil ?_
  exact ⟨hO.fr, rfl⟩
end Go.Sw
