/- A part of the proof that BinsAlike answers true: steps of the walk, or plain laws that it needs. No conditions of its own. -/
import Derived.Test.YtdaphmoojpbddaaDoorSVW2
set_option linter.all false
namespace Go.Sw
set_option autoImplicit false
set_option linter.all false
open Go.Proofs Go.RowKit
noncomputable abbrev D106 : TypeDesc := (Tryd.prog.underlying 106).getD .bool
instance T106 : Ty Tryd.prog 106 D106 [.int .i64 0, .int .i64 0, .int .u64 0] 24 := Ty.mk' (by kernel_rfl) (by kernel_rfl)
theorem agg106 : TypeDesc.agg D106 = true := by kernel_rfl
theorem pl106 : placesOf Tryd.prog 106 = some [(0, 1), (1, 1), (2, 1)] := by kernel_rfl
instance F106_0 : Fld Tryd.prog 106 0 0 := Fld.mk' (sz := 0) (by kernel_rfl)
instance F106_1 : Fld Tryd.prog 106 1 1 := Fld.mk' (sz := 0) (by kernel_rfl)
instance F106_2 : Fld Tryd.prog 106 2 2 := Fld.mk' (sz := 0) (by kernel_rfl)
theorem ext_F64from : Ext Tryd.prog 64 Extern.MathFloatBits.float64frombits := ⟨⟨_, Tryd.func64, rfl, rfl, by kernel_rfl, by kernel_rfl⟩⟩
theorem dyad_away {w : World} (mode : Int) (s : Bool) (n : Nat) (half one : Bool) (hn : n < 18446744073709551616) : Spec Tryd.prog 84 [.int .i64 mode, .bool s, .int .u64 (n : Int), .bool half, .bool one] w (fun v w' => v = .bool (awayB mode s n half one) ∧ w = w') := by
  refine Spec.enter (n := 34) (rs := [.tmp 10]) Tryd.func84 rfl rfl rfl rfl ?_
  refine WP.rs ?_
  refine WPL.as (v := .bool false) rfl rfl ?_
  refine WPL.nil ?_
  refine WP.seq ?_
  refine WP.rs ?_
  refine WPL.mv (v := .int .i64 _) rfl rfl ?_
  refine WPL.nil ?_
  refine WP.block ?_
  refine WP.rs ?_
  refine WPL.eq rfl rfl rfl ?_
  refine WPL.as (v := .bool _) rfl rfl ?_
  refine WPL.nil ?_
  refine WP.condP rfl (fun h1 => ?_) (fun h1 => ?_)
  · refine WP.rs ?_
    refine WPL.mv (v := .bool _) rfl rfl ?_
    refine WPL.mv (v := .bool _) rfl rfl ?_
    refine WPL.split (s := 15) rfl (fun h2 => ?_) (fun h2 => ?_)
    · refine WPL.guardT rfl rfl h2 ?_
      refine WPL.mv (v := .bool _) rfl rfl ?_
      refine WPL.guardT rfl rfl h2 ?_
      refine WPL.not rfl rfl ?_
      refine WPL.guardT rfl rfl h2 ?_
      refine WPL.mv (v := .bool _) rfl rfl ?_
      refine WPL.split (s := 18) rfl (fun h3 => ?_) (fun h3 => ?_)
      · refine WPL.guardF rfl rfl rfl h3 ?_
        refine WPL.guardF rfl rfl rfl h3 ?_
        refine WPL.guardF rfl rfl rfl h3 ?_
        refine WPL.guardT rfl rfl h2 ?_
        refine WPL.pkT (v := .bool true) rfl h3 rfl rfl ?_
        refine WPL.pkT (v := .bool _) rfl h2 rfl rfl ?_
        refine WPL.as (v := .bool _) rfl rfl ?_
        refine WPL.nil ?_
        refine WP.ret ?_
        refine ⟨rfl, ?_⟩
        refine RO.tmp (v := .bool _) rfl ?_
        refine RO.nil ?_
        refine ⟨?_, rfl⟩
        unfold awayB
        try rw [Nat.and_one_is_mod]
        simp_all [pack]
        try omega
      · refine WPL.guardT rfl rfl h3 ?_
        refine WPL.mv (v := .int .u64 _) rfl rfl ?_
        refine WPL.guardT rfl rfl h3 ?_
        refine WPL.and_u64 (b := 1) rfl rfl (by first | omega | exact Nat.mod_lt _ (by decide) | exact Wd.get (by assumption) _ | exact (dig_wd _).get _ | exact Nat.lt_of_le_of_lt (Nat.div_le_self ..) (Wd.get (by assumption) _) | exact Nat.lt_of_lt_of_le (Wd.get (by assumption) _) (by decide)) (by first | omega | exact Nat.mod_lt _ (by decide) | exact Wd.get (by assumption) _ | exact (dig_wd _).get _ | exact Nat.lt_of_le_of_lt (Nat.div_le_self ..) (Wd.get (by assumption) _) | exact Nat.lt_of_lt_of_le (Wd.get (by assumption) _) (by decide)) rfl ?_
        refine WPL.guardT rfl rfl h3 ?_
        refine WPL.eq rfl rfl rfl ?_
        refine WPL.guardT rfl rfl h2 ?_
        refine WPL.pkF (v := .bool _) rfl h3 rfl rfl ?_
        refine WPL.pkT (v := .bool _) rfl h2 rfl rfl ?_
        refine WPL.as (v := .bool _) rfl rfl ?_
        refine WPL.nil ?_
        refine WP.ret ?_
        refine ⟨rfl, ?_⟩
        refine RO.tmp (v := .bool _) rfl ?_
        refine RO.nil ?_
        refine ⟨?_, rfl⟩
        unfold awayB
        try rw [Nat.and_one_is_mod]
        simp_all [pack]
        try omega
    · refine WPL.guardF rfl rfl rfl h2 ?_
      refine WPL.guardF rfl rfl rfl h2 ?_
      refine WPL.guardF rfl rfl rfl h2 ?_
      refine WPL.guardU rfl rfl rfl ?_
      refine WPL.guardU rfl rfl rfl ?_
      refine WPL.guardU rfl rfl rfl ?_
      refine WPL.guardF rfl rfl rfl h2 ?_
      refine WPL.pkF (v := .bool false) rfl h2 rfl rfl ?_
      refine WPL.as (v := .bool _) rfl rfl ?_
      refine WPL.nil ?_
      refine WP.ret ?_
      refine ⟨rfl, ?_⟩
      refine RO.tmp (v := .bool _) rfl ?_
      refine RO.nil ?_
      refine ⟨?_, rfl⟩
      unfold awayB
      try rw [Nat.and_one_is_mod]
      simp_all [pack]
      try omega
  · refine WP.rs ?_
    refine WPL.eq rfl rfl rfl ?_
    refine WPL.as (v := .bool _) rfl rfl ?_
    refine WPL.nil ?_
    refine WP.condP rfl (fun h4 => ?_) (fun h4 => ?_)
    · refine WP.rs ?_
      refine WPL.mv (v := .bool _) rfl rfl ?_
      refine WPL.as (v := .bool _) rfl rfl ?_
      refine WPL.nil ?_
      refine WP.ret ?_
      refine ⟨rfl, ?_⟩
      refine RO.tmp (v := .bool _) rfl ?_
      refine RO.nil ?_
      refine ⟨?_, rfl⟩
      unfold awayB
      try rw [Nat.and_one_is_mod]
      simp_all [pack]
      try omega
    · refine WP.rs ?_
      refine WPL.eq rfl rfl rfl ?_
      refine WPL.as (v := .bool _) rfl rfl ?_
      refine WPL.nil ?_
      refine WP.condP rfl (fun h5 => ?_) (fun h5 => ?_)
      · refine WP.rs ?_
        refine WPL.mv (v := .bool _) rfl rfl ?_
        refine WPL.not rfl rfl ?_
        refine WPL.as (v := .bool _) rfl rfl ?_
        refine WPL.nil ?_
        refine WP.ret ?_
        refine ⟨rfl, ?_⟩
        refine RO.tmp (v := .bool _) rfl ?_
        refine RO.nil ?_
        refine ⟨?_, rfl⟩
        unfold awayB
        try rw [Nat.and_one_is_mod]
        simp_all [pack]
        try omega
      · refine WP.rs ?_
        refine WPL.eq rfl rfl rfl ?_
        refine WPL.as (v := .bool _) rfl rfl ?_
        refine WPL.nil ?_
        refine WP.condP rfl (fun h6 => ?_) (fun h6 => ?_)
        · refine WP.rs ?_
          refine WPL.mv (v := .bool _) rfl rfl ?_
          refine WPL.as (v := .bool _) rfl rfl ?_
          refine WPL.nil ?_
          refine WP.ret ?_
          refine ⟨rfl, ?_⟩
          refine RO.tmp (v := .bool _) rfl ?_
          refine RO.nil ?_
          refine ⟨?_, rfl⟩
          unfold awayB
          try rw [Nat.and_one_is_mod]
          simp_all [pack]
          try omega
        · refine WP.skip ?_
          refine WP.rs ?_
          refine WPL.as (v := .bool false) rfl rfl ?_
          refine WPL.nil ?_
          refine WP.ret ?_
          refine ⟨rfl, ?_⟩
          refine RO.tmp (v := .bool _) rfl ?_
          refine RO.nil ?_
          refine ⟨?_, rfl⟩
          unfold awayB
          try rw [Nat.and_one_is_mod]
          simp_all [pack]
          try omega

theorem dyad_beyond {w0 : World} (p : Nat) (low : Int) (inf : Nat) (hG : 24 ≤ p ∧ p ≤ 53 ∧ -1074 ≤ low ∧ low ≤ -149 ∧ inf / 2 ^ (p - 1) ≤ 2047 ∧ 0 < inf ∧ inf < 18446744073709551616) (s : Bool) (mode : Int) : Spec Tryd.prog 82 [.agg #[.int .i64 (p : Int), .int .i64 low, .int .u64 (inf : Int)], .bool s, .int .i64 mode] w0 (fun v w' => FrX [] w0 w' ∧ v = .int .u64 ((if overB mode s then inf - 1 else inf : Nat) : Int)) := by
  have hO : Own [] w0 [] [] [] w0 := Own.start (by intro e he; cases he) (by intro r hr'; cases hr')
  refine Spec.enter (n := 29) (rs := [.tmp 6]) Tryd.func82 rfl rfl rfl rfl ?_
  refine WP.rs ?_
  refine WPL.bx (v := .agg #[.int .i64 _, .int .i64 _, .int .u64 _]) rfl rfl hO rfl (fun b1 w hO => ?_)
  refine WPL.as (v := .int .u64 ((0 : Nat) : Int)) rfl rfl ?_
  refine WPL.nil ?_
  refine WP.seq ?_
  refine WP.rs ?_
  refine WPL.mv (v := .int .i64 _) rfl rfl ?_
  refine WPL.eq rfl rfl rfl ?_
  refine WPL.mv (v := .bool _) rfl rfl ?_
  refine WPL.split (s := 9) rfl (fun h1 => ?_) (fun h1 => ?_)
  · have ph1 := of_decide_eq_true h1
    refine WPL.guardF rfl rfl rfl h1 ?_
    refine WPL.guardF rfl rfl rfl h1 ?_
    refine WPL.guardF rfl rfl rfl h1 ?_
    refine WPL.guardU rfl rfl rfl ?_
    refine WPL.guardF rfl rfl rfl h1 ?_
    refine WPL.pkT (v := .bool true) rfl h1 rfl rfl ?_
    refine WPL.mv (v := .bool _) rfl rfl ?_
    refine WPL.guardF rfl rfl rfl rfl ?_
    refine WPL.guardF rfl rfl rfl rfl ?_
    refine WPL.guardF rfl rfl rfl rfl ?_
    refine WPL.guardU rfl rfl rfl ?_
    refine WPL.guardU rfl rfl rfl ?_
    refine WPL.guardF rfl rfl rfl rfl ?_
    refine WPL.pkT (v := .bool true) rfl rfl rfl rfl ?_
    refine WPL.nil ?_
    refine WP.cT rfl rfl ?_
    refine WP.rs ?_
    refine WPL.fa rfl rfl ?_
    refine WPL.ldL rfl hO inferInstance rfl rfl rfl ?_
    refine WPL.sub_u64 (b := 1) rfl rfl (by omega) rfl ?_
    refine WPL.as (v := .int .u64 _) rfl rfl ?_
    refine WPL.nil ?_
    refine WP.ret ?_
    refine ⟨rfl, ?_⟩
    refine RO.tmp (v := .int .u64 _) rfl ?_
    refine RO.nil ?_
    refine ⟨hO.fr, ?_⟩
    first
    | (have eo : (inf + 18446744073709551616 - 1) % 18446744073709551616 = inf - 1 := by omega
       have hov : overB mode s = true := by simp_all [overB]
       rw [if_pos hov, eo]; rfl)
    | (have hov : overB mode s = false := by simp_all [overB]
       rw [hov]; rfl)
  · have ph1 := of_decide_eq_false h1
    refine WPL.guardT rfl rfl h1 ?_
    refine WPL.mv (v := .int .i64 _) rfl rfl ?_
    refine WPL.guardT rfl rfl h1 ?_
    refine WPL.eq rfl rfl rfl ?_
    refine WPL.guardT rfl rfl h1 ?_
    refine WPL.mv (v := .bool _) rfl rfl ?_
    refine WPL.split (s := 12) rfl (fun h2 => ?_) (fun h2 => ?_)
    · have ph2 := of_decide_eq_true h2
      refine WPL.guardT rfl rfl h2 ?_
      refine WPL.mv (v := .bool _) rfl rfl ?_
      refine WPL.guardT rfl rfl h1 ?_
      refine WPL.pkT (v := .bool _) rfl h2 rfl rfl ?_
      refine WPL.pkF (v := .bool _) rfl h1 rfl rfl ?_
      refine WPL.mv (v := .bool _) rfl rfl ?_
      refine WPL.split (s := 16) rfl (fun h3 => ?_) (fun h3 => ?_)
      · refine WPL.guardF rfl rfl rfl h3 ?_
        refine WPL.guardF rfl rfl rfl h3 ?_
        refine WPL.guardF rfl rfl rfl h3 ?_
        refine WPL.guardU rfl rfl rfl ?_
        refine WPL.guardU rfl rfl rfl ?_
        refine WPL.guardF rfl rfl rfl h3 ?_
        refine WPL.pkT (v := .bool true) rfl h3 rfl rfl ?_
        refine WPL.nil ?_
        refine WP.cT rfl rfl ?_
        refine WP.rs ?_
        refine WPL.fa rfl rfl ?_
        refine WPL.ldL rfl hO inferInstance rfl rfl rfl ?_
        refine WPL.sub_u64 (b := 1) rfl rfl (by omega) rfl ?_
        refine WPL.as (v := .int .u64 _) rfl rfl ?_
        refine WPL.nil ?_
        refine WP.ret ?_
        refine ⟨rfl, ?_⟩
        refine RO.tmp (v := .int .u64 _) rfl ?_
        refine RO.nil ?_
        refine ⟨hO.fr, ?_⟩
        first
        | (have eo : (inf + 18446744073709551616 - 1) % 18446744073709551616 = inf - 1 := by omega
           have hov : overB mode s = true := by simp_all [overB]
           rw [if_pos hov, eo]; rfl)
        | (have hov : overB mode s = false := by simp_all [overB]
           rw [hov]; rfl)
      · refine WPL.guardT rfl rfl h3 ?_
        refine WPL.mv (v := .int .i64 _) rfl rfl ?_
        refine WPL.guardT rfl rfl h3 ?_
        refine WPL.eq rfl rfl rfl ?_
        refine WPL.guardT rfl rfl h3 ?_
        refine WPL.mv (v := .bool _) rfl rfl ?_
        refine WPL.split (s := 19) rfl (fun h4 => ?_) (fun h4 => ?_)
        · have ph4 := of_decide_eq_true h4
          refine WPL.guardT rfl rfl h4 ?_
          refine WPL.mv (v := .bool _) rfl rfl ?_
          refine WPL.guardT rfl rfl h4 ?_
          refine WPL.not rfl rfl ?_
          refine WPL.guardT rfl rfl h3 ?_
          refine WPL.pkT (v := .bool _) rfl h4 rfl rfl ?_
          refine WPL.pkF (v := .bool _) rfl h3 rfl rfl ?_
          refine WPL.nil ?_
          refine WP.condB rfl (fun h5 => ?_) (fun h5 => ?_)
          · refine WP.rs ?_
            refine WPL.fa rfl rfl ?_
            refine WPL.ldL rfl hO inferInstance rfl rfl rfl ?_
            refine WPL.sub_u64 (b := 1) rfl rfl (by omega) rfl ?_
            refine WPL.as (v := .int .u64 _) rfl rfl ?_
            refine WPL.nil ?_
            refine WP.ret ?_
            refine ⟨rfl, ?_⟩
            refine RO.tmp (v := .int .u64 _) rfl ?_
            refine RO.nil ?_
            refine ⟨hO.fr, ?_⟩
            first
            | (have eo : (inf + 18446744073709551616 - 1) % 18446744073709551616 = inf - 1 := by omega
               have hov : overB mode s = true := by simp_all [overB]
               rw [if_pos hov, eo]; rfl)
            | (have hov : overB mode s = false := by simp_all [overB]
               rw [hov]; rfl)
          · refine WP.skip ?_
            refine WP.rs ?_
            refine WPL.fa rfl rfl ?_
            refine WPL.ldL rfl hO inferInstance rfl rfl rfl ?_
            refine WPL.as (v := .int .u64 _) rfl rfl ?_
            refine WPL.nil ?_
            refine WP.ret ?_
            refine ⟨rfl, ?_⟩
            refine RO.tmp (v := .int .u64 _) rfl ?_
            refine RO.nil ?_
            refine ⟨hO.fr, ?_⟩
            first
            | (have eo : (inf + 18446744073709551616 - 1) % 18446744073709551616 = inf - 1 := by omega
               have hov : overB mode s = true := by simp_all [overB]
               rw [if_pos hov, eo]; rfl)
            | (have hov : overB mode s = false := by simp_all [overB]
               rw [hov]; rfl)
        · have ph4 := of_decide_eq_false h4
          refine WPL.guardF rfl rfl rfl h4 ?_
          refine WPL.guardF rfl rfl rfl h4 ?_
          refine WPL.guardT rfl rfl h3 ?_
          refine WPL.pkF (v := .bool false) rfl h4 rfl rfl ?_
          refine WPL.pkF (v := .bool _) rfl h3 rfl rfl ?_
          refine WPL.nil ?_
          refine WP.cF rfl rfl ?_
          refine WP.skip ?_
          refine WP.rs ?_
          refine WPL.fa rfl rfl ?_
          refine WPL.ldL rfl hO inferInstance rfl rfl rfl ?_
          refine WPL.as (v := .int .u64 _) rfl rfl ?_
          refine WPL.nil ?_
          refine WP.ret ?_
          refine ⟨rfl, ?_⟩
          refine RO.tmp (v := .int .u64 _) rfl ?_
          refine RO.nil ?_
          refine ⟨hO.fr, ?_⟩
          first
          | (have eo : (inf + 18446744073709551616 - 1) % 18446744073709551616 = inf - 1 := by omega
             have hov : overB mode s = true := by simp_all [overB]
             rw [if_pos hov, eo]; rfl)
          | (have hov : overB mode s = false := by simp_all [overB]
             rw [hov]; rfl)
    · have ph2 := of_decide_eq_false h2
      refine WPL.guardF rfl rfl rfl h2 ?_
      refine WPL.guardT rfl rfl h1 ?_
      refine WPL.pkF (v := .bool false) rfl h2 rfl rfl ?_
      refine WPL.pkF (v := .bool _) rfl h1 rfl rfl ?_
      refine WPL.mv (v := .bool _) rfl rfl ?_
      refine WPL.guardT rfl rfl rfl ?_
      refine WPL.mv (v := .int .i64 _) rfl rfl ?_
      refine WPL.guardT rfl rfl rfl ?_
      refine WPL.eq rfl rfl rfl ?_
      refine WPL.guardT rfl rfl rfl ?_
      refine WPL.mv (v := .bool _) rfl rfl ?_
      refine WPL.split (s := 19) rfl (fun h6 => ?_) (fun h6 => ?_)
      · have ph6 := of_decide_eq_true h6
        refine WPL.guardT rfl rfl h6 ?_
        refine WPL.mv (v := .bool _) rfl rfl ?_
        refine WPL.guardT rfl rfl h6 ?_
        refine WPL.not rfl rfl ?_
        refine WPL.guardT rfl rfl rfl ?_
        refine WPL.pkT (v := .bool _) rfl h6 rfl rfl ?_
        refine WPL.pkF (v := .bool _) rfl rfl rfl rfl ?_
        refine WPL.nil ?_
        refine WP.condB rfl (fun h7 => ?_) (fun h7 => ?_)
        · refine WP.rs ?_
          refine WPL.fa rfl rfl ?_
          refine WPL.ldL rfl hO inferInstance rfl rfl rfl ?_
          refine WPL.sub_u64 (b := 1) rfl rfl (by omega) rfl ?_
          refine WPL.as (v := .int .u64 _) rfl rfl ?_
          refine WPL.nil ?_
          refine WP.ret ?_
          refine ⟨rfl, ?_⟩
          refine RO.tmp (v := .int .u64 _) rfl ?_
          refine RO.nil ?_
          refine ⟨hO.fr, ?_⟩
          first
          | (have eo : (inf + 18446744073709551616 - 1) % 18446744073709551616 = inf - 1 := by omega
             have hov : overB mode s = true := by simp_all [overB]
             rw [if_pos hov, eo]; rfl)
          | (have hov : overB mode s = false := by simp_all [overB]
             rw [hov]; rfl)
        · refine WP.skip ?_
          refine WP.rs ?_
          refine WPL.fa rfl rfl ?_
          refine WPL.ldL rfl hO inferInstance rfl rfl rfl ?_
          refine WPL.as (v := .int .u64 _) rfl rfl ?_
          refine WPL.nil ?_
          refine WP.ret ?_
          refine ⟨rfl, ?_⟩
          refine RO.tmp (v := .int .u64 _) rfl ?_
          refine RO.nil ?_
          refine ⟨hO.fr, ?_⟩
          first
          | (have eo : (inf + 18446744073709551616 - 1) % 18446744073709551616 = inf - 1 := by omega
             have hov : overB mode s = true := by simp_all [overB]
             rw [if_pos hov, eo]; rfl)
          | (have hov : overB mode s = false := by simp_all [overB]
             rw [hov]; rfl)
      · have ph6 := of_decide_eq_false h6
        refine WPL.guardF rfl rfl rfl h6 ?_
        refine WPL.guardF rfl rfl rfl h6 ?_
        refine WPL.guardT rfl rfl rfl ?_
        refine WPL.pkF (v := .bool false) rfl h6 rfl rfl ?_
        refine WPL.pkF (v := .bool _) rfl rfl rfl rfl ?_
        refine WPL.nil ?_
        refine WP.cF rfl rfl ?_
        refine WP.skip ?_
        refine WP.rs ?_
        refine WPL.fa rfl rfl ?_
        refine WPL.ldL rfl hO inferInstance rfl rfl rfl ?_
        refine WPL.as (v := .int .u64 _) rfl rfl ?_
        refine WPL.nil ?_
        refine WP.ret ?_
        refine ⟨rfl, ?_⟩
        refine RO.tmp (v := .int .u64 _) rfl ?_
        refine RO.nil ?_
        refine ⟨hO.fr, ?_⟩
        first
        | (have eo : (inf + 18446744073709551616 - 1) % 18446744073709551616 = inf - 1 := by omega
           have hov : overB mode s = true := by simp_all [overB]
           rw [if_pos hov, eo]; rfl)
        | (have hov : overB mode s = false := by simp_all [overB]
           rw [hov]; rfl)

theorem dyad_on {w0 : World} (ht : TabOk tabs w0) (p : Nat) (low : Int) (inf : Nat) (hG : 24 ≤ p ∧ p ≤ 53 ∧ -1074 ≤ low ∧ low ≤ -149 ∧ inf / 2 ^ (p - 1) ≤ 2047 ∧ 0 < inf ∧ inf < 18446744073709551616) (d : Dy) (a : Option Addr) (c : Nat) (hr : RowOk w0 [] ⟨a, ws .u32 (dig d.m)⟩) (hc : (dig d.m).length ≤ c) (hk : d.Can) (hb : d.B 80000) (mode : Int) : Spec Tryd.prog 65 [.agg #[.int .i64 (p : Int), .int .i64 low, .int .u64 (inf : Int)], dyV d a c, .int .i64 mode] w0 (fun v w' => FrX [] w0 w' ∧ v = .int .u64 ((roundN p low inf mode d : Nat) : Int)) := by
  have hO : Own tabs w0 [] [] [⟨a, ws .u32 (dig d.m)⟩] w0 := Own.start ht (by
      simp only [List.mem_cons, List.not_mem_nil, or_false]
      rintro r rfl
      · exact hr)
  have hl := len_blen (k := 8192) (show blen d.m ≤ 32 * 8192 by unfold Dy.B at *; omega)
  have hb' := hb
  unfold Dy.B at hb'
  have hge : gexp p low d = max ((blen d.m : Int) + d.e - p) low := rfl
  have hgs := @gshift_lt p low d
  have h2p : 2 ^ p ≤ 2 ^ 53 := Nat.pow_le_pow_right (by omega) (by omega)
  obtain ⟨qt, hqt⟩ : ∃ qt, qt = inf / 2 ^ (p - 1) := ⟨_, rfl⟩
  unfold dyV
  refine Spec.enter (n := 113) (rs := [.tmp 6]) Tryd.func65 rfl rfl rfl rfl ?_
  refine WP.rs ?_
  refine WPL.bx (v := .agg #[.int .i64 _, .int .i64 _, .int .u64 _]) rfl rfl hO rfl (fun b1 w hO => ?_)
  refine WPL.bx (v := .agg #[.bool _, .slice _ _ _, .int .i64 _]) rfl rfl hO rfl (fun b2 w hO => ?_)
  refine WPL.as (v := .int .u64 ((0 : Nat) : Int)) rfl rfl ?_
  refine WPL.nil ?_
  refine WP.rs ?_
  refine WPL.fa rfl rfl ?_
  refine WPL.ldL rfl hO inferInstance rfl rfl rfl ?_
  refine WPL.call rfl (wide_Len _ (dig d.m) _ hO.rd (dig_wd _) hc rfl (by omega)) Tryd.func75 rfl rfl rfl ?_
  rintro _ _ ⟨rfl, rfl⟩
  simp only [val_dig]
  refine WPL.as (v := .int .i64 _) rfl rfl ?_
  refine WPL.nil ?_
  refine WP.seq ?_
  refine WP.rs ?_
  refine WPL.mv (v := .int .i64 _) rfl rfl ?_
  refine WPL.eq rfl rfl rfl ?_
  refine WPL.nil ?_
  refine WP.condP rfl (fun h1 => ?_) (fun h1 => ?_)
  · refine WP.rs ?_
    refine WPL.as (v := .int .u64 ((0 : Nat) : Int)) rfl rfl ?_
    refine WPL.nil ?_
    refine WP.ret ?_
    refine ⟨rfl, ?_⟩
    refine RO.tmp (v := .int .u64 _) rfl ?_
    refine RO.nil ?_
    have e0 := blen_eq_zero (by omega : blen d.m = 0)
    exact ⟨hO.fr, by rw [roundN, if_pos e0]; rfl⟩
  · refine WP.skip ?_
    refine WP.seq ?_
    refine WP.draw [(0, 0), (1, 1), (2, 0), (3, 1), (4, 0), (5, 1), (6, 0), (7, 0), (8, 0), (9, 0), (10, 0), (11, 0), (12, 1), (13, 0), (14, 0), (15, 0)] [] mixed (by kernel_rfl) (by kernel_rfl) rfl hO (fun w hO => ?_)
    refine WPD.pv rfl rfl (fun w k' h => WPL.fa rfl rfl (WPL.nil h)) ?_
    refine WPD.val rfl rfl (fun w hO k' h => WPL.ldL rfl hO inferInstance rfl rfl rfl (WPL.nil h)) ?_
    refine WPD.pv rfl rfl (fun w k' h => WPL.fa rfl rfl (WPL.nil h)) ?_
    refine WPD.val rfl rfl (fun w hO k' h => WPL.ldL rfl hO inferInstance rfl rfl rfl (WPL.nil h)) ?_
    refine WPD.pv rfl rfl (fun w k' h => WPL.fa rfl rfl (WPL.nil h)) ?_
    refine WPD.val rfl rfl (fun w hO k' h => WPL.ldL rfl hO inferInstance rfl rfl rfl (WPL.nil h)) ?_
    refine WPD.pv rfl rfl (fun w k' h => WPL.subTo ((p - 1 : Nat) : Int) rfl rfl (by omega) (by omega) rfl (WPL.nil h)) ?_
    refine WPD.pv rfl rfl (fun w k' h => WPL.shr_u64 (a := inf) (s := p - 1) rfl rfl (by omega) rfl (WPL.nil h)) ?_
    refine WPD.pv rfl rfl (fun w k' h => WPL.cv_i64 (a := qt) (congrArg (fun z : Nat => Value.int .u64 (z : Int)) hqt.symm) (by omega) rfl (WPL.nil h)) ?_
    refine WPD.pv rfl rfl (fun w k' h => WPL.addI rfl rfl (by omega) rfl (WPL.nil h)) ?_
    refine WPD.pv rfl rfl (fun w k' h => WPL.subI rfl rfl (by omega) rfl (WPL.nil h)) ?_
    refine WPD.pv rfl rfl (fun w k' h => WPL.fa rfl rfl (WPL.nil h)) ?_
    refine WPD.val rfl rfl (fun w hO k' h => WPL.ldL rfl hO inferInstance rfl rfl rfl (WPL.nil h)) ?_
    refine WPD.pv rfl rfl (fun w k' h => WPL.addI rfl rfl (by omega) rfl (WPL.nil h)) ?_
    refine WPD.pv rfl rfl (fun w k' h => WPL.subI rfl rfl (by omega) rfl (WPL.nil h)) ?_
    refine WPD.pv rfl rfl (fun w k' h => WPL.as (v := .int .i64 _) rfl rfl (WPL.nil h)) ?_
    refine WPD.nil hO ?_
    refine WP.rs ?_
    refine WPL.mv (v := .int .i64 _) rfl rfl ?_
    refine WPL.fa rfl rfl ?_
    refine WPL.ldL rfl hO inferInstance rfl rfl rfl ?_
    refine WPL.addI rfl rfl (by omega) rfl ?_
    refine WPL.fa rfl rfl ?_
    refine WPL.ldL rfl hO inferInstance rfl rfl rfl ?_
    refine WPL.subI rfl rfl (by omega) rfl ?_
    refine WPL.fa rfl rfl ?_
    refine WPL.ldL rfl hO inferInstance rfl rfl rfl ?_
    refine WPL.max2 rfl rfl rfl ?_
    refine WPL.as (v := .int .i64 (gexp p low d)) rfl rfl ?_
    refine WPL.nil ?_
    refine WP.seq ?_
    refine WP.rs ?_
    refine WPL.mv (v := .int .i64 _) rfl rfl ?_
    refine WPL.fa rfl rfl ?_
    refine WPL.ldL rfl hO inferInstance rfl rfl rfl ?_
    refine WPL.addI rfl rfl (by omega) rfl ?_
    refine WPL.mv (v := .int .i64 _) rfl rfl ?_
    refine WPL.gt rfl rfl rfl ?_
    refine WPL.nil ?_
    refine WP.condP rfl (fun h2 => ?_) (fun h2 => ?_)
    · refine WP.rs ?_
      refine WPL.ldLA (T := T106) [.int .i64 _, .int .i64 _, .int .u64 _] rfl hO inferInstance rfl agg106 rfl rfl ?_
      refine WPL.fa rfl rfl ?_
      refine WPL.ldL rfl hO inferInstance rfl rfl rfl ?_
      refine WPL.mv (v := .int .i64 _) rfl rfl ?_
      refine WPL.call rfl (dyad_beyond p low inf hG _ mode) Tryd.func82 rfl rfl rfl ?_
      rintro _ w ⟨hf54, rfl⟩
      have hO := hO.call hf54
      refine WPL.as (v := .int .u64 _) rfl rfl ?_
      refine WPL.nil ?_
      refine WP.ret ?_
      refine ⟨rfl, ?_⟩
      refine RO.tmp (v := .int .u64 _) rfl ?_
      refine RO.nil ?_
      have hm : d.m ≠ 0 := fun e => h1 (by rw [e]; rfl)
      exact ⟨hO.fr, by rw [round_over hm (by rw [← hqt]; exact h2)]; rfl⟩
    · refine WP.skip ?_
      refine WP.rs ?_
      refine WPL.mv (v := .int .i64 _) rfl rfl ?_
      refine WPL.fa rfl rfl ?_
      refine WPL.ldL rfl hO inferInstance rfl rfl rfl ?_
      refine WPL.subI rfl rfl (by omega) rfl ?_
      refine WPL.as (v := .int .i64 _) rfl rfl ?_
      refine WPL.nil ?_
      refine WP.rs ?_
      refine WPL.as (v := .int .u64 ((0 : Nat) : Int)) rfl rfl ?_
      refine WPL.nil ?_
      refine WP.seq ?_
      refine WP.rs ?_
      refine WPL.mv (v := .int .i64 _) rfl rfl ?_
      refine WPL.le rfl rfl rfl ?_
      refine WPL.nil ?_
      refine WP.condP rfl (fun h3 => ?_) (fun h3 => ?_)
      · refine WP.rs ?_
        refine WPL.fa rfl rfl ?_
        refine WPL.ldL rfl hO inferInstance rfl rfl rfl ?_
        have hm64 : d.m < 18446744073709551616 := by
          have h1 := blen_le.1 (show blen d.m ≤ 53 by omega)
          omega
        refine WPL.call rfl (wide_Small _ (dig d.m) _ hO.rd (dig_wd _) hc rfl (by omega) (by rw [val_dig]; exact hm64)) Tryd.func83 rfl rfl rfl ?_
        rintro _ _ ⟨rfl, rfl⟩
        simp only [val_dig]
        refine WPL.mv (v := .tuple #[.int .u64 _, .int .i64 _]) rfl rfl ?_
        refine WPL.ext (v := .int .u64 _) rfl rfl rfl ?_
        refine WPL.ext (v := .int .i64 _) rfl rfl rfl ?_
        refine WPL.as (v := .int .u64 _) rfl rfl ?_
        refine WPL.nil ?_
        refine WP.region ?_
        refine WPL.mv (v := .int .u64 _) rfl rfl ?_
        refine WPL.mv (v := .int .i64 _) rfl rfl ?_
        refine WPL.negTo (((d.e - gexp p low d).toNat : Nat) : Int) rfl (by omega) (by omega) rfl ?_
        refine WPL.shl_u64 rfl rfl rfl ?_
        refine WPL.as (v := .int .u64 _) rfl rfl ?_
        refine WPL.nil ?_
        refine WP.seq ?_
        refine WP.seq ?_
        refine WP.draw [(0, 0), (1, 0), (2, 0), (3, 0), (4, 0), (5, 1), (6, 0), (7, 0), (8, 1), (9, 0), (10, 0), (12, 0), (13, 0), (11, 2), (14, 2), (15, 0)] [] mixed (by kernel_rfl) (by kernel_rfl) rfl hO (fun w hO => ?_)
        refine WPD.pv rfl rfl (fun w k' h => WPL.mv (v := .int .i64 _) rfl rfl (WPL.nil h)) ?_
        refine WPD.pv rfl rfl (fun w k' h => WPL.gt rfl rfl rfl (WPL.nil h)) ?_
        refine WPD.pv rfl rfl (fun w k' h => WPL.mv (v := .bool _) rfl rfl (WPL.nil h)) ?_
        refine WPD.split (s := 86) rfl (fun h4 => ?_) (fun h4 => ?_)
        · have ph4 := of_decide_eq_true h4
          refine WPD.pv rfl rfl (fun w k' h => WPL.guardT rfl rfl h4 (WPL.mv (v := .int .i64 _) rfl rfl (WPL.nil h))) ?_
          refine WPD.pv rfl rfl (fun w k' h => WPL.guardT rfl rfl h4 (WPL.fa rfl rfl (WPL.nil h))) ?_
          refine WPD.val rfl rfl (fun w hO k' h => WPL.guardT rfl rfl h4 (WPL.ldL rfl hO inferInstance rfl rfl rfl (WPL.nil h))) ?_
          refine WPD.pv rfl rfl (fun w k' h => WPL.guardT rfl rfl h4 (WPL.mv (v := .int .u64 _) rfl rfl (WPL.nil h))) ?_
          refine WPD.pv rfl rfl (fun w k' h => WPL.guardT rfl rfl h4 (WPL.fa rfl rfl (WPL.nil h))) ?_
          refine WPD.val rfl rfl (fun w hO k' h => WPL.guardT rfl rfl h4 (WPL.ldL rfl hO inferInstance rfl rfl rfl (WPL.nil h))) ?_
          refine WPD.pv rfl rfl (fun w k' h => WPL.guardT rfl rfl h4 (WPL.mv (v := .int .i64 _) rfl rfl (WPL.nil h))) ?_
          refine WPD.pv rfl rfl (fun w k' h => WPL.guardT rfl rfl h4 (WPL.subTo (((gexp p low d - d.e - 1).toNat : Nat) : Int) rfl rfl (by omega) (by omega) rfl (WPL.nil h))) ?_
          refine WPD.pv rfl rfl (fun w k' h => WPL.guardT rfl rfl h4 (WPL.mv (v := .int .i64 _) rfl rfl (WPL.nil h))) ?_
          refine WPD.pv rfl rfl (fun w k' h => WPL.guardT rfl rfl h4 (WPL.eq rfl rfl rfl (WPL.nil h))) ?_
          refine WPD.eff rfl hO ?_
          refine WPL.guardT rfl rfl h4 ?_
          refine WPL.call rfl (wide_Bit _ (dig d.m) _ hO.rd (dig_wd _) hc rfl (by omega) (gexp p low d - d.e - 1).toNat (by omega)) Tryd.func85 rfl rfl rfl ?_
          rintro _ _ ⟨rfl, rfl⟩
          simp only [val_dig]
          refine WPL.nil ?_
          refine WPD.eff rfl hO ?_
          refine WPL.guardT rfl rfl h4 ?_
          refine WPL.call rfl (dyad_away _ _ _ _ _ (by first | omega | assumption)) Tryd.func84 rfl rfl rfl ?_
          rintro _ _ ⟨rfl, rfl⟩
          refine WPL.nil ?_
          refine WPD.pv rfl rfl (fun w k' h => WPL.pkT (v := .bool _) rfl h4 rfl rfl (WPL.nil h)) ?_
          refine WPD.nil hO ?_
          refine WP.condB rfl (fun h5 => ?_) (fun h5 => ?_)
          · refine WP.region ?_
            refine WPL.mv (v := .int .u64 _) rfl rfl ?_
            refine WPL.add_u64 (b := 1) rfl rfl rfl ?_
            refine WPL.as (v := .int .u64 _) rfl rfl ?_
            refine WPL.nil ?_
            refine WP.rs ?_
            refine WPL.mv (v := .int .u64 _) rfl rfl ?_
            refine WPL.mv (v := .int .i64 _) rfl rfl ?_
            refine WPL.fa rfl rfl ?_
            refine WPL.ldL rfl hO inferInstance rfl rfl rfl ?_
            refine WPL.subTo (((gexp p low d - low).toNat : Nat) : Int) rfl rfl (by omega) (by omega) rfl ?_
            refine WPL.cv_u64 rfl (by first | omega | exact Nat.mod_lt _ (by decide) | exact Wd.get (by assumption) _ | exact (dig_wd _).get _ | exact Nat.lt_of_le_of_lt (Nat.div_le_self ..) (Wd.get (by assumption) _) | exact Nat.lt_of_lt_of_le (Wd.get (by assumption) _) (by decide)) rfl ?_
            refine WPL.fa rfl rfl ?_
            refine WPL.ldL rfl hO inferInstance rfl rfl rfl ?_
            refine WPL.subTo ((p - 1 : Nat) : Int) rfl rfl (by omega) (by omega) rfl ?_
            refine WPL.shl_u64 rfl rfl rfl ?_
            refine WPL.add_u64 rfl rfl rfl ?_
            refine WPL.as (v := .int .u64 _) rfl rfl ?_
            refine WPL.nil ?_
            refine WP.ret ?_
            refine ⟨rfl, ?_⟩
            refine RO.tmp (v := .int .u64 _) rfl ?_
            refine RO.nil ?_
            have hm : d.m ≠ 0 := fun e => h1 (by rw [e]; rfl)
            have htp : ¬ low + (inf / 2 ^ (p - 1) : Nat) - 1 + p - 1 < (blen d.m : Int) + d.e := by rw [← hqt]; exact h2
            first
            | (exfalso; omega)
            | exact ⟨hO.fr, congrArg (fun z : Nat => Value.int .u64 (z : Int)) (on_leaf hG hm htp (by rw [gnum_F (fun h => absurd h (by omega)), shiftN_pos (by omega), Nat.mod_eq_of_lt (by rw [← shiftN_pos (by omega)]; omega)]))⟩
            | exact ⟨hO.fr, congrArg (fun z : Nat => Value.int .u64 (z : Int)) (on_leaf hG hm htp (by rw [gnum_T (by omega) (by assumption)]; exact Nat.mod_eq_of_lt (by omega)))⟩
            | exact ⟨hO.fr, congrArg (fun z : Nat => Value.int .u64 (z : Int)) (on_leaf hG hm htp (by rw [gnum_F (fun _ => by assumption)]))⟩
          · refine WP.skip ?_
            refine WP.rs ?_
            refine WPL.mv (v := .int .u64 _) rfl rfl ?_
            refine WPL.mv (v := .int .i64 _) rfl rfl ?_
            refine WPL.fa rfl rfl ?_
            refine WPL.ldL rfl hO inferInstance rfl rfl rfl ?_
            refine WPL.subTo (((gexp p low d - low).toNat : Nat) : Int) rfl rfl (by omega) (by omega) rfl ?_
            refine WPL.cv_u64 rfl (by first | omega | exact Nat.mod_lt _ (by decide) | exact Wd.get (by assumption) _ | exact (dig_wd _).get _ | exact Nat.lt_of_le_of_lt (Nat.div_le_self ..) (Wd.get (by assumption) _) | exact Nat.lt_of_lt_of_le (Wd.get (by assumption) _) (by decide)) rfl ?_
            refine WPL.fa rfl rfl ?_
            refine WPL.ldL rfl hO inferInstance rfl rfl rfl ?_
            refine WPL.subTo ((p - 1 : Nat) : Int) rfl rfl (by omega) (by omega) rfl ?_
            refine WPL.shl_u64 rfl rfl rfl ?_
            refine WPL.add_u64 rfl rfl rfl ?_
            refine WPL.as (v := .int .u64 _) rfl rfl ?_
            refine WPL.nil ?_
            refine WP.ret ?_
            refine ⟨rfl, ?_⟩
            refine RO.tmp (v := .int .u64 _) rfl ?_
            refine RO.nil ?_
            have hm : d.m ≠ 0 := fun e => h1 (by rw [e]; rfl)
            have htp : ¬ low + (inf / 2 ^ (p - 1) : Nat) - 1 + p - 1 < (blen d.m : Int) + d.e := by rw [← hqt]; exact h2
            first
            | (exfalso; omega)
            | exact ⟨hO.fr, congrArg (fun z : Nat => Value.int .u64 (z : Int)) (on_leaf hG hm htp (by rw [gnum_F (fun h => absurd h (by omega)), shiftN_pos (by omega), Nat.mod_eq_of_lt (by rw [← shiftN_pos (by omega)]; omega)]))⟩
            | exact ⟨hO.fr, congrArg (fun z : Nat => Value.int .u64 (z : Int)) (on_leaf hG hm htp (by rw [gnum_T (by omega) (by assumption)]; exact Nat.mod_eq_of_lt (by omega)))⟩
            | exact ⟨hO.fr, congrArg (fun z : Nat => Value.int .u64 (z : Int)) (on_leaf hG hm htp (by rw [gnum_F (fun _ => by assumption)]))⟩
        · have ph4 := of_decide_eq_false h4
          refine WPD.pv (v := undef) rfl rfl (fun w k' h => WPL.guardF rfl rfl rfl h4 (WPL.nil h)) ?_
          refine WPD.pv (v := undef) rfl rfl (fun w k' h => WPL.guardF rfl rfl rfl h4 (WPL.nil h)) ?_
          refine WPD.val (v := undef) rfl rfl (fun w hO k' h => WPL.guardF rfl rfl rfl h4 (WPL.nil h)) ?_
          refine WPD.pv (v := undef) rfl rfl (fun w k' h => WPL.guardF rfl rfl rfl h4 (WPL.nil h)) ?_
          refine WPD.pv (v := undef) rfl rfl (fun w k' h => WPL.guardF rfl rfl rfl h4 (WPL.nil h)) ?_
          refine WPD.val (v := undef) rfl rfl (fun w hO k' h => WPL.guardF rfl rfl rfl h4 (WPL.nil h)) ?_
          refine WPD.pv (v := undef) rfl rfl (fun w k' h => WPL.guardF rfl rfl rfl h4 (WPL.nil h)) ?_
          refine WPD.pv (v := undef) rfl rfl (fun w k' h => WPL.guardF rfl rfl rfl h4 (WPL.nil h)) ?_
          refine WPD.pv (v := undef) rfl rfl (fun w k' h => WPL.guardF rfl rfl rfl h4 (WPL.nil h)) ?_
          refine WPD.pv (v := undef) rfl rfl (fun w k' h => WPL.guardF rfl rfl rfl h4 (WPL.nil h)) ?_
          refine WPD.eff rfl hO ?_
          refine WPL.guardF rfl rfl rfl h4 ?_
          refine WPL.nil ?_
          refine WPD.eff rfl hO ?_
          refine WPL.guardF rfl rfl rfl h4 ?_
          refine WPL.nil ?_
          refine WPD.pv rfl rfl (fun w k' h => WPL.pkF (v := .bool false) rfl h4 rfl rfl (WPL.nil h)) ?_
          refine WPD.nil hO ?_
          refine WP.cF rfl rfl ?_
          refine WP.skip ?_
          refine WP.rs ?_
          refine WPL.mv (v := .int .u64 _) rfl rfl ?_
          refine WPL.mv (v := .int .i64 _) rfl rfl ?_
          refine WPL.fa rfl rfl ?_
          refine WPL.ldL rfl hO inferInstance rfl rfl rfl ?_
          refine WPL.subTo (((gexp p low d - low).toNat : Nat) : Int) rfl rfl (by omega) (by omega) rfl ?_
          refine WPL.cv_u64 rfl (by first | omega | exact Nat.mod_lt _ (by decide) | exact Wd.get (by assumption) _ | exact (dig_wd _).get _ | exact Nat.lt_of_le_of_lt (Nat.div_le_self ..) (Wd.get (by assumption) _) | exact Nat.lt_of_lt_of_le (Wd.get (by assumption) _) (by decide)) rfl ?_
          refine WPL.fa rfl rfl ?_
          refine WPL.ldL rfl hO inferInstance rfl rfl rfl ?_
          refine WPL.subTo ((p - 1 : Nat) : Int) rfl rfl (by omega) (by omega) rfl ?_
          refine WPL.shl_u64 rfl rfl rfl ?_
          refine WPL.add_u64 rfl rfl rfl ?_
          refine WPL.as (v := .int .u64 _) rfl rfl ?_
          refine WPL.nil ?_
          refine WP.ret ?_
          refine ⟨rfl, ?_⟩
          refine RO.tmp (v := .int .u64 _) rfl ?_
          refine RO.nil ?_
          have hm : d.m ≠ 0 := fun e => h1 (by rw [e]; rfl)
          have htp : ¬ low + (inf / 2 ^ (p - 1) : Nat) - 1 + p - 1 < (blen d.m : Int) + d.e := by rw [← hqt]; exact h2
          first
          | (exfalso; omega)
          | exact ⟨hO.fr, congrArg (fun z : Nat => Value.int .u64 (z : Int)) (on_leaf hG hm htp (by rw [gnum_F (fun h => absurd h (by omega)), shiftN_pos (by omega), Nat.mod_eq_of_lt (by rw [← shiftN_pos (by omega)]; omega)]))⟩
          | exact ⟨hO.fr, congrArg (fun z : Nat => Value.int .u64 (z : Int)) (on_leaf hG hm htp (by rw [gnum_T (by omega) (by assumption)]; exact Nat.mod_eq_of_lt (by omega)))⟩
          | exact ⟨hO.fr, congrArg (fun z : Nat => Value.int .u64 (z : Int)) (on_leaf hG hm htp (by rw [gnum_F (fun _ => by assumption)]))⟩
      · refine WP.rs ?_
        refine WPL.fa rfl rfl ?_
        refine WPL.ldL rfl hO inferInstance rfl rfl rfl ?_
        refine WPL.mv (v := .int .i64 _) rfl rfl ?_
        refine WPL.negTo (d.e - gexp p low d) rfl (by omega) (by omega) rfl ?_
        refine WPL.call rfl (wide_Shift _ (dig d.m) _ hO.rd (dig_wd _) hc rfl (by omega) (d.e - gexp p low d) (by rw [val_dig]; omega) (by omega) (by rw [val_dig]; omega)) Tryd.func59 rfl rfl rfl ?_
        rintro _ w ⟨hf76, a76, c76, rfl, hc76, hr76⟩
        have hO := hO.res hf76 hr76
        simp only [val_dig] at hO hc76 ⊢
        refine WPL.mv (v := .tuple #[.slice _ _ _, .int .i64 _]) rfl rfl ?_
        refine WPL.ext (v := .slice _ _ _) rfl rfl rfl ?_
        refine WPL.ext (v := .int .i64 _) rfl rfl rfl ?_
        refine WPL.as (v := .slice _ _ _) rfl rfl ?_
        refine WPL.as (v := .int .i64 _) rfl rfl ?_
        refine WPL.nil ?_
        refine WP.region ?_
        refine WPL.mv (v := .slice _ _ _) rfl rfl ?_
        refine WPL.call rfl (wide_Small _ (dig (shiftN d.m (d.e - gexp p low d))) _ hO.rd (dig_wd _) hc76 rfl (by have := len_mono (show shiftN d.m (d.e - gexp p low d) ≤ 2 ^ 53 by omega); have := @len_blen (2 ^ 53) 2; have : blen (2 ^ 53) ≤ 32 * 2 := blen_le.2 (by decide); omega) (by rw [val_dig]; omega)) Tryd.func83 rfl rfl rfl ?_
        rintro _ _ ⟨rfl, rfl⟩
        simp only [val_dig]
        refine WPL.mv (v := .tuple #[.int .u64 _, .int .i64 _]) rfl rfl ?_
        refine WPL.ext (v := .int .u64 _) rfl rfl rfl ?_
        refine WPL.ext (v := .int .i64 _) rfl rfl rfl ?_
        refine WPL.as (v := .int .u64 _) rfl rfl ?_
        refine WPL.nil ?_
        refine WP.seq ?_
        refine WP.seq ?_
        refine WP.draw [(0, 0), (1, 0), (2, 0), (3, 0), (4, 0), (5, 1), (6, 0), (7, 0), (8, 1), (9, 0), (10, 0), (12, 0), (13, 0), (11, 2), (14, 2), (15, 0)] [] mixed (by kernel_rfl) (by kernel_rfl) rfl hO (fun w hO => ?_)
        refine WPD.pv rfl rfl (fun w k' h => WPL.mv (v := .int .i64 _) rfl rfl (WPL.nil h)) ?_
        refine WPD.pv rfl rfl (fun w k' h => WPL.gt rfl rfl rfl (WPL.nil h)) ?_
        refine WPD.pv rfl rfl (fun w k' h => WPL.mv (v := .bool _) rfl rfl (WPL.nil h)) ?_
        refine WPD.split (s := 86) rfl (fun h6 => ?_) (fun h6 => ?_)
        · have ph6 := of_decide_eq_true h6
          refine WPD.pv rfl rfl (fun w k' h => WPL.guardT rfl rfl h6 (WPL.mv (v := .int .i64 _) rfl rfl (WPL.nil h))) ?_
          refine WPD.pv rfl rfl (fun w k' h => WPL.guardT rfl rfl h6 (WPL.fa rfl rfl (WPL.nil h))) ?_
          refine WPD.val rfl rfl (fun w hO k' h => WPL.guardT rfl rfl h6 (WPL.ldL rfl hO inferInstance rfl rfl rfl (WPL.nil h))) ?_
          refine WPD.pv rfl rfl (fun w k' h => WPL.guardT rfl rfl h6 (WPL.mv (v := .int .u64 _) rfl rfl (WPL.nil h))) ?_
          refine WPD.pv rfl rfl (fun w k' h => WPL.guardT rfl rfl h6 (WPL.fa rfl rfl (WPL.nil h))) ?_
          refine WPD.val rfl rfl (fun w hO k' h => WPL.guardT rfl rfl h6 (WPL.ldL rfl hO inferInstance rfl rfl rfl (WPL.nil h))) ?_
          refine WPD.pv rfl rfl (fun w k' h => WPL.guardT rfl rfl h6 (WPL.mv (v := .int .i64 _) rfl rfl (WPL.nil h))) ?_
          refine WPD.pv rfl rfl (fun w k' h => WPL.guardT rfl rfl h6 (WPL.subTo (((gexp p low d - d.e - 1).toNat : Nat) : Int) rfl rfl (by omega) (by omega) rfl (WPL.nil h))) ?_
          refine WPD.pv rfl rfl (fun w k' h => WPL.guardT rfl rfl h6 (WPL.mv (v := .int .i64 _) rfl rfl (WPL.nil h))) ?_
          refine WPD.pv rfl rfl (fun w k' h => WPL.guardT rfl rfl h6 (WPL.eq rfl rfl rfl (WPL.nil h))) ?_
          refine WPD.eff rfl hO ?_
          refine WPL.guardT rfl rfl h6 ?_
          refine WPL.call rfl (wide_Bit _ (dig d.m) _ hO.rd (dig_wd _) hc rfl (by omega) (gexp p low d - d.e - 1).toNat (by omega)) Tryd.func85 rfl rfl rfl ?_
          rintro _ _ ⟨rfl, rfl⟩
          simp only [val_dig]
          refine WPL.nil ?_
          refine WPD.eff rfl hO ?_
          refine WPL.guardT rfl rfl h6 ?_
          refine WPL.call rfl (dyad_away _ _ _ _ _ (by first | omega | assumption)) Tryd.func84 rfl rfl rfl ?_
          rintro _ _ ⟨rfl, rfl⟩
          refine WPL.nil ?_
          refine WPD.pv rfl rfl (fun w k' h => WPL.pkT (v := .bool _) rfl h6 rfl rfl (WPL.nil h)) ?_
          refine WPD.nil hO ?_
          refine WP.condB rfl (fun h7 => ?_) (fun h7 => ?_)
          · refine WP.region ?_
            refine WPL.mv (v := .int .u64 _) rfl rfl ?_
            refine WPL.add_u64 (b := 1) rfl rfl rfl ?_
            refine WPL.as (v := .int .u64 _) rfl rfl ?_
            refine WPL.nil ?_
            refine WP.rs ?_
            refine WPL.mv (v := .int .u64 _) rfl rfl ?_
            refine WPL.mv (v := .int .i64 _) rfl rfl ?_
            refine WPL.fa rfl rfl ?_
            refine WPL.ldL rfl hO inferInstance rfl rfl rfl ?_
            refine WPL.subTo (((gexp p low d - low).toNat : Nat) : Int) rfl rfl (by omega) (by omega) rfl ?_
            refine WPL.cv_u64 rfl (by first | omega | exact Nat.mod_lt _ (by decide) | exact Wd.get (by assumption) _ | exact (dig_wd _).get _ | exact Nat.lt_of_le_of_lt (Nat.div_le_self ..) (Wd.get (by assumption) _) | exact Nat.lt_of_lt_of_le (Wd.get (by assumption) _) (by decide)) rfl ?_
            refine WPL.fa rfl rfl ?_
            refine WPL.ldL rfl hO inferInstance rfl rfl rfl ?_
            refine WPL.subTo ((p - 1 : Nat) : Int) rfl rfl (by omega) (by omega) rfl ?_
            refine WPL.shl_u64 rfl rfl rfl ?_
            refine WPL.add_u64 rfl rfl rfl ?_
            refine WPL.as (v := .int .u64 _) rfl rfl ?_
            refine WPL.nil ?_
            refine WP.ret ?_
            refine ⟨rfl, ?_⟩
            refine RO.tmp (v := .int .u64 _) rfl ?_
            refine RO.nil ?_
            have hm : d.m ≠ 0 := fun e => h1 (by rw [e]; rfl)
            have htp : ¬ low + (inf / 2 ^ (p - 1) : Nat) - 1 + p - 1 < (blen d.m : Int) + d.e := by rw [← hqt]; exact h2
            first
            | (exfalso; omega)
            | exact ⟨hO.fr, congrArg (fun z : Nat => Value.int .u64 (z : Int)) (on_leaf hG hm htp (by rw [gnum_F (fun h => absurd h (by omega)), shiftN_pos (by omega), Nat.mod_eq_of_lt (by rw [← shiftN_pos (by omega)]; omega)]))⟩
            | exact ⟨hO.fr, congrArg (fun z : Nat => Value.int .u64 (z : Int)) (on_leaf hG hm htp (by rw [gnum_T (by omega) (by assumption)]; exact Nat.mod_eq_of_lt (by omega)))⟩
            | exact ⟨hO.fr, congrArg (fun z : Nat => Value.int .u64 (z : Int)) (on_leaf hG hm htp (by rw [gnum_F (fun _ => by assumption)]))⟩
          · refine WP.skip ?_
            refine WP.rs ?_
            refine WPL.mv (v := .int .u64 _) rfl rfl ?_
            refine WPL.mv (v := .int .i64 _) rfl rfl ?_
            refine WPL.fa rfl rfl ?_
            refine WPL.ldL rfl hO inferInstance rfl rfl rfl ?_
            refine WPL.subTo (((gexp p low d - low).toNat : Nat) : Int) rfl rfl (by omega) (by omega) rfl ?_
            refine WPL.cv_u64 rfl (by first | omega | exact Nat.mod_lt _ (by decide) | exact Wd.get (by assumption) _ | exact (dig_wd _).get _ | exact Nat.lt_of_le_of_lt (Nat.div_le_self ..) (Wd.get (by assumption) _) | exact Nat.lt_of_lt_of_le (Wd.get (by assumption) _) (by decide)) rfl ?_
            refine WPL.fa rfl rfl ?_
            refine WPL.ldL rfl hO inferInstance rfl rfl rfl ?_
            refine WPL.subTo ((p - 1 : Nat) : Int) rfl rfl (by omega) (by omega) rfl ?_
            refine WPL.shl_u64 rfl rfl rfl ?_
            refine WPL.add_u64 rfl rfl rfl ?_
            refine WPL.as (v := .int .u64 _) rfl rfl ?_
            refine WPL.nil ?_
            refine WP.ret ?_
            refine ⟨rfl, ?_⟩
            refine RO.tmp (v := .int .u64 _) rfl ?_
            refine RO.nil ?_
            have hm : d.m ≠ 0 := fun e => h1 (by rw [e]; rfl)
            have htp : ¬ low + (inf / 2 ^ (p - 1) : Nat) - 1 + p - 1 < (blen d.m : Int) + d.e := by rw [← hqt]; exact h2
            first
            | (exfalso; omega)
            | exact ⟨hO.fr, congrArg (fun z : Nat => Value.int .u64 (z : Int)) (on_leaf hG hm htp (by rw [gnum_F (fun h => absurd h (by omega)), shiftN_pos (by omega), Nat.mod_eq_of_lt (by rw [← shiftN_pos (by omega)]; omega)]))⟩
            | exact ⟨hO.fr, congrArg (fun z : Nat => Value.int .u64 (z : Int)) (on_leaf hG hm htp (by rw [gnum_T (by omega) (by assumption)]; exact Nat.mod_eq_of_lt (by omega)))⟩
            | exact ⟨hO.fr, congrArg (fun z : Nat => Value.int .u64 (z : Int)) (on_leaf hG hm htp (by rw [gnum_F (fun _ => by assumption)]))⟩
        · have ph6 := of_decide_eq_false h6
          refine WPD.pv (v := undef) rfl rfl (fun w k' h => WPL.guardF rfl rfl rfl h6 (WPL.nil h)) ?_
          refine WPD.pv (v := undef) rfl rfl (fun w k' h => WPL.guardF rfl rfl rfl h6 (WPL.nil h)) ?_
          refine WPD.val (v := undef) rfl rfl (fun w hO k' h => WPL.guardF rfl rfl rfl h6 (WPL.nil h)) ?_
          refine WPD.pv (v := undef) rfl rfl (fun w k' h => WPL.guardF rfl rfl rfl h6 (WPL.nil h)) ?_
          refine WPD.pv (v := undef) rfl rfl (fun w k' h => WPL.guardF rfl rfl rfl h6 (WPL.nil h)) ?_
          refine WPD.val (v := undef) rfl rfl (fun w hO k' h => WPL.guardF rfl rfl rfl h6 (WPL.nil h)) ?_
          refine WPD.pv (v := undef) rfl rfl (fun w k' h => WPL.guardF rfl rfl rfl h6 (WPL.nil h)) ?_
          refine WPD.pv (v := undef) rfl rfl (fun w k' h => WPL.guardF rfl rfl rfl h6 (WPL.nil h)) ?_
          refine WPD.pv (v := undef) rfl rfl (fun w k' h => WPL.guardF rfl rfl rfl h6 (WPL.nil h)) ?_
          refine WPD.pv (v := undef) rfl rfl (fun w k' h => WPL.guardF rfl rfl rfl h6 (WPL.nil h)) ?_
          refine WPD.eff rfl hO ?_
          refine WPL.guardF rfl rfl rfl h6 ?_
          refine WPL.nil ?_
          refine WPD.eff rfl hO ?_
          refine WPL.guardF rfl rfl rfl h6 ?_
          refine WPL.nil ?_
          refine WPD.pv rfl rfl (fun w k' h => WPL.pkF (v := .bool false) rfl h6 rfl rfl (WPL.nil h)) ?_
          refine WPD.nil hO ?_
          refine WP.cF rfl rfl ?_
          refine WP.skip ?_
          refine WP.rs ?_
          refine WPL.mv (v := .int .u64 _) rfl rfl ?_
          refine WPL.mv (v := .int .i64 _) rfl rfl ?_
          refine WPL.fa rfl rfl ?_
          refine WPL.ldL rfl hO inferInstance rfl rfl rfl ?_
          refine WPL.subTo (((gexp p low d - low).toNat : Nat) : Int) rfl rfl (by omega) (by omega) rfl ?_
          refine WPL.cv_u64 rfl (by first | omega | exact Nat.mod_lt _ (by decide) | exact Wd.get (by assumption) _ | exact (dig_wd _).get _ | exact Nat.lt_of_le_of_lt (Nat.div_le_self ..) (Wd.get (by assumption) _) | exact Nat.lt_of_lt_of_le (Wd.get (by assumption) _) (by decide)) rfl ?_
          refine WPL.fa rfl rfl ?_
          refine WPL.ldL rfl hO inferInstance rfl rfl rfl ?_
          refine WPL.subTo ((p - 1 : Nat) : Int) rfl rfl (by omega) (by omega) rfl ?_
          refine WPL.shl_u64 rfl rfl rfl ?_
          refine WPL.add_u64 rfl rfl rfl ?_
          refine WPL.as (v := .int .u64 _) rfl rfl ?_
          refine WPL.nil ?_
          refine WP.ret ?_
          refine ⟨rfl, ?_⟩
          refine RO.tmp (v := .int .u64 _) rfl ?_
          refine RO.nil ?_
          have hm : d.m ≠ 0 := fun e => h1 (by rw [e]; rfl)
          have htp : ¬ low + (inf / 2 ^ (p - 1) : Nat) - 1 + p - 1 < (blen d.m : Int) + d.e := by rw [← hqt]; exact h2
          first
          | (exfalso; omega)
          | exact ⟨hO.fr, congrArg (fun z : Nat => Value.int .u64 (z : Int)) (on_leaf hG hm htp (by rw [gnum_F (fun h => absurd h (by omega)), shiftN_pos (by omega), Nat.mod_eq_of_lt (by rw [← shiftN_pos (by omega)]; omega)]))⟩
          | exact ⟨hO.fr, congrArg (fun z : Nat => Value.int .u64 (z : Int)) (on_leaf hG hm htp (by rw [gnum_T (by omega) (by assumption)]; exact Nat.mod_eq_of_lt (by omega)))⟩
          | exact ⟨hO.fr, congrArg (fun z : Nat => Value.int .u64 (z : Int)) (on_leaf hG hm htp (by rw [gnum_F (fun _ => by assumption)]))⟩

theorem dyad_Round_bad {w0 : World} (ht : TabOk tabs w0) (d : Dy) (a : Option Addr) (c : Nat) (hr : RowOk w0 [] ⟨a, ws .u32 (dig d.m)⟩) (hc : (dig d.m).length ≤ c) (hk : d.Can) (hb : d.B 80000) (mode : Int) (hm : mode < 0 ∨ 4 < mode) : Spec Tryd.prog 44 [dyV d a c, .int .i64 mode] w0 (fun v w' => FrX [] w0 w' ∧ v = .tuple #[.float .f64 0, .int .i64 1]) := by
  have hO : Own tabs w0 [] [] [⟨a, ws .u32 (dig d.m)⟩] w0 := Own.start ht (by
      simp only [List.mem_cons, List.not_mem_nil, or_false]
      rintro r rfl
      · exact hr)
  unfold dyV
  refine Spec.enter (n := 28) (rs := [.tmp 4, .tmp 5]) Tryd.func44 rfl rfl rfl rfl ?_
  refine WP.rs ?_
  refine WPL.bx (v := .agg #[.bool _, .slice _ _ _, .int .i64 _]) rfl rfl hO rfl (fun b1 w hO => ?_)
  refine WPL.as (v := .float .f64 0) rfl rfl ?_
  refine WPL.as (v := .int .i64 0) rfl rfl ?_
  refine WPL.nil ?_
  refine WP.rs ?_
  refine WPL.ldLA (T := T34) [.bool _, .slice _ _ _, .int .i64 _] rfl hO inferInstance rfl agg34 rfl rfl ?_
  refine WPL.mv (v := .int .i64 _) rfl rfl ?_
  refine WPL.call rfl (dyad_told_bad hO.tab d _ _ hO.rd hc hk hb mode hm) Tryd.func63 rfl rfl rfl ?_
  rintro _ w ⟨hf, rfl⟩
  have hO := hO.call hf
  refine WPL.mv (v := .tuple #[.agg #[.bool _, .slice _ _ _, .int .i64 _], .int .i64 _]) rfl rfl ?_
  refine WPL.ext (v := .agg #[.bool _, .slice _ _ _, .int .i64 _]) rfl rfl rfl ?_
  refine WPL.ext (v := .int .i64 _) rfl rfl rfl ?_
  refine WPL.al hO rfl (fun b2 w hO => ?_)
  refine WPL.stLA (T := T34) rfl rfl hO inferInstance inferInstance (by simp [Value.oneCell']) rfl rfl (fun w hO => ?_)
  refine WPL.as (v := .int .i64 _) rfl rfl ?_
  refine WPL.nil ?_
  refine WP.seq ?_
  refine WP.rs ?_
  refine WPL.mv (v := .int .i64 _) rfl rfl ?_
  refine WPL.ne rfl rfl rfl ?_
  refine WPL.nil ?_
  refine WP.condP rfl (fun h1 => ?_) (fun h1 => ?_)
  · refine WP.rs ?_
    refine WPL.mv (v := .int .i64 _) rfl rfl ?_
    refine WPL.as (v := .float .f64 0) rfl rfl ?_
    refine WPL.as (v := .int .i64 _) rfl rfl ?_
    refine WPL.nil ?_
    refine WP.ret ?_
    refine ⟨rfl, ?_⟩
    refine RO.tmp (v := .float .f64 _) rfl ?_
    refine RO.tmp (v := .int .i64 _) rfl ?_
    refine RO.nil ?_
    exact ⟨hO.fr, rfl⟩
  · exact absurd (by decide) h1

theorem dyad_Round_ok {w0 : World} (ht : TabOk tabs w0) (d : Dy) (a : Option Addr) (c : Nat) (hr : RowOk w0 [] ⟨a, ws .u32 (dig d.m)⟩) (hc : (dig d.m).length ≤ c) (hk : d.Can) (hb : d.B 80000) (mode : Int) (hm : 0 ≤ mode ∧ mode ≤ 4) : Spec Tryd.prog 44 [dyV d a c, .int .i64 mode] w0 (fun v w' => FrX [] w0 w' ∧ v = .tuple #[.float .f64 (round64 mode d), .int .i64 0]) := by
  have hO : Own tabs w0 [] [] [⟨a, ws .u32 (dig d.m)⟩] w0 := Own.start ht (by
      simp only [List.mem_cons, List.not_mem_nil, or_false]
      rintro r rfl
      · exact hr)
  unfold dyV
  refine Spec.enter (n := 28) (rs := [.tmp 4, .tmp 5]) Tryd.func44 rfl rfl rfl rfl ?_
  refine WP.rs ?_
  refine WPL.bx (v := .agg #[.bool _, .slice _ _ _, .int .i64 _]) rfl rfl hO rfl (fun b1 w hO => ?_)
  refine WPL.as (v := .float .f64 0) rfl rfl ?_
  refine WPL.as (v := .int .i64 0) rfl rfl ?_
  refine WPL.nil ?_
  refine WP.rs ?_
  refine WPL.ldLA (T := T34) [.bool _, .slice _ _ _, .int .i64 _] rfl hO inferInstance rfl agg34 rfl rfl ?_
  refine WPL.mv (v := .int .i64 _) rfl rfl ?_
  refine WPL.call rfl (dyad_told_ok hO.tab d _ _ hO.rd hc hk hb mode hm) Tryd.func63 rfl rfl rfl ?_
  rintro _ w ⟨hf, p1, q1, rfl, hq1, hr1⟩
  obtain ⟨G1, hG1, hO⟩ := hO.resL hf hr1
  unfold dyV
  refine WPL.mv (v := .tuple #[.agg #[.bool _, .slice _ _ _, .int .i64 _], .int .i64 _]) rfl rfl ?_
  refine WPL.ext (v := .agg #[.bool _, .slice _ _ _, .int .i64 _]) rfl rfl rfl ?_
  refine WPL.ext (v := .int .i64 _) rfl rfl rfl ?_
  refine WPL.al hO rfl (fun b2 w hO => ?_)
  refine WPL.stLA (T := T34) rfl rfl hO inferInstance inferInstance (by simp [Value.oneCell']) rfl rfl (fun w hO => ?_)
  refine WPL.as (v := .int .i64 _) rfl rfl ?_
  refine WPL.nil ?_
  refine WP.seq ?_
  refine WP.rs ?_
  refine WPL.mv (v := .int .i64 _) rfl rfl ?_
  refine WPL.ne rfl rfl rfl ?_
  refine WPL.nil ?_
  refine WP.condP rfl (fun h1 => ?_) (fun h1 => ?_)
  · exact absurd rfl h1
  · refine WP.skip ?_
    refine WP.rs ?_
    refine WPL.bd (pv := [(0, .int .i64 53), (1, .int .i64 (-1074)), (2, .int .u64 ((9218868437227405312 : Nat) : Int))]) (vs := [_, _, _]) rfl (bd_of pl106 rfl rfl) rfl ?_
    refine WPL.ldLA (T := T34) [.bool _, .slice _ _ _, .int .i64 _] rfl hO inferInstance rfl agg34 rfl rfl ?_
    refine WPL.mv (v := .int .i64 _) rfl rfl ?_
    refine WPL.call rfl (dyad_on hO.tab 53 (-1074) 9218868437227405312 (by decide) d _ _ (hO.rdG hG1) hq1 hk hb mode) Tryd.func65 rfl rfl rfl ?_
    rintro _ w ⟨hf21, rfl⟩
    have hO := hO.call hf21
    refine WPL.f64from ext_F64from rfl rfl ?_
    refine WPL.as (v := .float .f64 _) rfl rfl ?_
    refine WPL.nil ?_
    refine WP.seq ?_
    refine WP.rs ?_
    refine WPL.fa rfl rfl ?_
    refine WPL.ldL rfl hO inferInstance rfl rfl rfl ?_
    refine WPL.nil ?_
    refine WP.condB rfl (fun h2 => ?_) (fun h2 => ?_)
    · refine WP.region ?_
      refine WPL.mv (v := .float .f64 _) rfl rfl ?_
      refine WPL.fneg rfl rfl ?_
      refine WPL.as (v := .float .f64 _) rfl rfl ?_
      refine WPL.nil ?_
      refine WP.rs ?_
      refine WPL.mv (v := .float .f64 _) rfl rfl ?_
      refine WPL.as (v := .float .f64 _) rfl rfl ?_
      refine WPL.as (v := .int .i64 0) rfl rfl ?_
      refine WPL.nil ?_
      refine WP.ret ?_
      refine ⟨rfl, ?_⟩
      refine RO.tmp (v := .float .f64 _) rfl ?_
      refine RO.tmp (v := .int .i64 _) rfl ?_
      refine RO.nil ?_
      first
      | exact ⟨hO.fr, by rw [round64, if_pos (by assumption)]; rfl⟩
      | exact ⟨hO.fr, by rw [round64, if_neg (by simp [*])]; rfl⟩
    · refine WP.skip ?_
      refine WP.rs ?_
      refine WPL.mv (v := .float .f64 _) rfl rfl ?_
      refine WPL.as (v := .float .f64 _) rfl rfl ?_
      refine WPL.as (v := .int .i64 0) rfl rfl ?_
      refine WPL.nil ?_
      refine WP.ret ?_
      refine ⟨rfl, ?_⟩
      refine RO.tmp (v := .float .f64 _) rfl ?_
      refine RO.tmp (v := .int .i64 _) rfl ?_
      refine RO.nil ?_
      first
      | exact ⟨hO.fr, by rw [round64, if_pos (by assumption)]; rfl⟩
      | exact ⟨hO.fr, by rw [round64, if_neg (by simp [*])]; rfl⟩

theorem dyad_Round {w0 : World} (ht : TabOk tabs w0) (d : Dy) (a : Option Addr) (c : Nat) (hr : RowOk w0 [] ⟨a, ws .u32 (dig d.m)⟩) (hc : (dig d.m).length ≤ c) (hk : d.Can) (hb : d.B 80000) (mode : Int) : Spec Tryd.prog 44 [dyV d a c, .int .i64 mode] w0 (fun v w' => FrX [] w0 w' ∧ v = if mode < 0 ∨ 4 < mode then .tuple #[.float .f64 0, .int .i64 1] else .tuple #[.float .f64 (round64 mode d), .int .i64 0]) := by
  by_cases hm : mode < 0 ∨ 4 < mode
  · simp only [if_pos hm]; exact dyad_Round_bad ht d a c hr hc hk hb mode hm
  · simp only [if_neg hm]; exact dyad_Round_ok ht d a c hr hc hk hb mode (by omega)
end Go.Sw
