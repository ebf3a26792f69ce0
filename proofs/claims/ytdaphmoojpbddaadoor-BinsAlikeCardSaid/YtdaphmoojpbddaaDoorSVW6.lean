/- A part of the proof that BinsAlike answers true: steps of the walk, or plain laws that it needs. No conditions of its own. -/
import Derived.Test.YtdaphmoojpbddaaDoorSVW5
set_option linter.all false
namespace Go.Sw
set_option autoImplicit false
set_option linter.all false
open Go.Proofs Go.RowKit
instance T24 : Ty Tryd.prog 24 (.pointer 57) [.pointer none] 8 := Ty.mk' Tryd.underlying24 (by kernel_rfl)
theorem bins_put {w0 : World} (b bv pv : Nat) (B : Bn) (p : Pt) (hb : w0.heap[b]? = some (.cells (bnC B).toArray 57 (0, 0))) (hbv : w0.heap[bv]? = some (.cells #[.pointer (some ⟨b, 0, none⟩)] 24 (0, 0))) (hpv : w0.heap[pv]? = some (.cells #[.bool p.neg, .int .i64 p.cls, .int .i64 p.e, .int .u64 (p.f : Int)] 77 (0, 0))) (hd1 : b ≠ bv) (hd2 : b ≠ pv) (hd3 : bv ≠ pv) (hlen : B.ks.length = 8) (hfold : B.fold ≤ 8) (hle : B.le 100000000000000000000000) (bin : Int) (hbin : -100000 ≤ bin ∧ bin ≤ 100000) (htop : -100000 ≤ B.top ∧ B.top ≤ 100000) (s : Nat) (hs : s < 4294967296) : Spec Tryd.prog 40 [.int .i64 bin, .int .u32 (s : Int), .pointer (some ⟨bv, 0, none⟩), .pointer (some ⟨pv, 0, none⟩)] w0 (fun v w' => v = .tuple #[] ∧ FrX [b] w0 w' ∧ w'.heap[b]? = some (.cells (bnC (B.put p.neg bin s)).toArray 57 (0, 0))) := by
  have hO : Own [] w0 [b, bv, pv] [⟨b, bnC B, 57⟩, ⟨bv, [.pointer (some ⟨b, 0, none⟩)], 24⟩, ⟨pv, [.bool p.neg, .int .i64 p.cls, .int .i64 p.e, .int .u64 (p.f : Int)], 77⟩] [] w0 := Own.startM (L := [⟨b, bnC B, 57⟩, ⟨bv, [.pointer (some ⟨b, 0, none⟩)], 24⟩, ⟨pv, [.bool p.neg, .int .i64 p.cls, .int .i64 p.e, .int .u64 (p.f : Int)], 77⟩]) (by intro e he; cases he) (by
    intro e he
    simp only [List.mem_cons, List.not_mem_nil, or_false] at he
    rcases he with rfl | rfl | rfl
    · exact hb
    · exact hbv
    · exact hpv) (by simp [keys, hd1, hd2, hd3]) (by intro e he; cases he) (by intro r hr; cases hr)
  have hrl := raise_len (bin := bin) hlen
  have hrf := @raise_fold B bin
  have hrt := @raise_top B bin
  have hrle := (hle.raise (bin := bin) (by decide)).get (by decide) ((B.raise bin).top - bin).toNat
  refine Spec.enter (n := 36) (rs := []) Tryd.func40 rfl rfl rfl rfl ?_
  refine WP.seq ?_
  refine WP.rs ?_
  refine WPL.mv (v := .int .u32 _) rfl rfl ?_
  refine WPL.eq rfl rfl rfl ?_
  refine WPL.nil ?_
  refine WP.condP rfl (fun h1 => ?_) (fun h1 => ?_)
  · refine WP.ret ?_
    refine ⟨rfl, ?_⟩
    refine RO.nil ?_
    have hbv' := hO.cells ⟨bv, _, _⟩ (List.mem_cons_of_mem _ (List.mem_cons_self ..))
    have hpv' := hO.cells ⟨pv, _, _⟩ (List.mem_cons_of_mem _ (List.mem_cons_of_mem _ (List.mem_cons_self ..)))
    have hfr := hO.fr.less (M' := [b]) (by
      intro x hx hn
      simp only [List.mem_cons, List.not_mem_nil, or_false] at hx hn
      rcases hx with rfl | rfl | rfl
      · exact absurd rfl hn
      · exact hbv'.trans hbv.symm
      · exact hpv'.trans hpv.symm)
    first
    | (rw [put_0 (by omega)]; exact ⟨rfl, hfr, hO.cells ⟨b, _, _⟩ (List.mem_cons_self ..)⟩)
    | (rw [put_F (by omega) (by omega)]; exact ⟨rfl, hfr, hO.cells ⟨b, _, _⟩ (List.mem_cons_self ..)⟩)
    | (rw [put_T (by omega) (by omega) (O := -(s : Int)) (by rw [if_pos (by assumption)])]; exact ⟨rfl, hfr, hO.cells ⟨b, _, _⟩ (List.mem_cons_self ..)⟩)
    | (rw [put_T (by omega) (by omega) (O := (s : Int)) (by rw [if_neg (by simp [*])])]; exact ⟨rfl, hfr, hO.cells ⟨b, _, _⟩ (List.mem_cons_self ..)⟩)
  · refine WP.skip ?_
    refine WP.rs ?_
    refine WPL.ldL rfl hO inferInstance rfl rfl rfl ?_
    refine WPL.mv (v := .int .i64 _) rfl rfl ?_
    refine WPL.call rfl (bins_raise b B (hO.cells ⟨b, bnC B, 57⟩ (List.mem_cons_self ..)) hlen hfold bin hbin htop) Tryd.func23 rfl rfl rfl ?_
    rintro _ w ⟨rfl, hf12, hc12⟩
    have hO := hO.turn (b := b) (cs := bnC (B.raise bin)) (L' := [⟨b, bnC (B.raise bin), 57⟩, ⟨bv, [.pointer (some ⟨b, 0, none⟩)], 24⟩, ⟨pv, [.bool p.neg, .int .i64 p.cls, .int .i64 p.e, .int .u64 (p.f : Int)], 77⟩]) inferInstance hf12 (by
      intro c T hm
      simp only [List.mem_cons, List.not_mem_nil, or_false, Blk.mk.injEq] at hm
      rcases hm with ⟨_, _, rfl⟩ | ⟨h, _⟩ | ⟨h, _⟩
      · exact hc12
      · exact absurd h hd1
      · exact absurd h hd2)
    refine WPL.as (v := .int .i64 _) rfl rfl ?_
    refine WPL.nil ?_
    refine WP.rs ?_
    refine WPL.mv (v := .int .i64 _) rfl rfl ?_
    refine WPL.ldL rfl hO inferInstance rfl rfl rfl ?_
    refine WPL.nc rfl rfl ?_
    refine WPL.fa rfl rfl ?_
    refine WPL.ldL rfl hO inferInstance rfl rfl rfl ?_
    refine WPL.lt rfl rfl rfl ?_
    refine WPL.nil ?_
    refine WP.condP rfl (fun h2 => ?_) (fun h2 => ?_)
    · refine WP.rs ?_
      refine WPL.mv (v := .int .u32 _) rfl rfl ?_
      refine WPL.cv_i64 rfl (by omega) rfl ?_
      refine WPL.as (v := .int .i64 _) rfl rfl ?_
      refine WPL.nil ?_
      refine WP.seq ?_
      refine WP.rs ?_
      refine WPL.fa rfl rfl ?_
      refine WPL.ldL rfl hO inferInstance rfl rfl rfl ?_
      refine WPL.nil ?_
      refine WP.condB rfl (fun h3 => ?_) (fun h3 => ?_)
      · refine WP.region ?_
        refine WPL.mv (v := .int .i64 _) rfl rfl ?_
        refine WPL.negI rfl (by omega) rfl ?_
        refine WPL.as (v := .int .i64 _) rfl rfl ?_
        refine WPL.nil ?_
        refine WP.region ?_
        refine WPL.ldL rfl hO inferInstance rfl rfl rfl ?_
        refine WPL.mv (v := .int .i64 _) rfl rfl ?_
        refine WPL.nc rfl rfl ?_
        refine WPL.fa rfl rfl ?_
        refine WPL.ixA (j := ((B.raise bin).top - bin).toNat) rfl rfl (by omega) (by omega) rfl ?_
        refine WPL.mv (v := .int .i64 _) rfl rfl ?_
        refine WPL.cm_u64I rfl rfl ?_
        refine WPL.mv (v := .int .i64 _) rfl rfl ?_
        refine WPL.shrTo (r := hiK (-(s : Int))) (s := 63) (p := 9223372036854775808) rfl rfl (by decide) rfl (by unfold hiK; omega) rfl ?_
        refine WPL.bd (pv := [(0, .int .u64 _), (1, .int .i64 _)]) (vs := [_, _]) rfl (bd_of pl54 rfl rfl) rfl ?_
        refine WPL.call rfl (part_add b (0 + 4 + ((B.raise bin).top - bin).toNat * 2) (bnC (B.raise bin)) 57 (hO.cells ⟨b, bnC (B.raise bin), 57⟩ (List.mem_cons_self ..)) ((B.raise bin).ks.getD ((B.raise bin).top - bin).toNat 0) (-(s : Int)) (by omega) (by omega) (bn_lo (by omega)) (bn_hi (by omega))) Tryd.func24 rfl rfl rfl ?_
        rintro _ w ⟨rfl, hf35, hc35⟩
        rw [bn_set] at hc35
        have hO := hO.turn (b := b) (cs := bnC { B.raise bin with ks := (B.raise bin).ks.set ((B.raise bin).top - bin).toNat ((B.raise bin).ks.getD ((B.raise bin).top - bin).toNat 0 + -(s : Int)) }) (L' := [⟨b, bnC { B.raise bin with ks := (B.raise bin).ks.set ((B.raise bin).top - bin).toNat ((B.raise bin).ks.getD ((B.raise bin).top - bin).toNat 0 + -(s : Int)) }, 57⟩, ⟨bv, [.pointer (some ⟨b, 0, none⟩)], 24⟩, ⟨pv, [.bool p.neg, .int .i64 p.cls, .int .i64 p.e, .int .u64 (p.f : Int)], 77⟩]) inferInstance hf35 (by
          intro c T hm
          simp only [List.mem_cons, List.not_mem_nil, or_false, Blk.mk.injEq] at hm
          rcases hm with ⟨_, _, rfl⟩ | ⟨h, _⟩ | ⟨h, _⟩
          · exact hc35
          · exact absurd h hd1
          · exact absurd h hd2)
        refine WPL.nil ?_
        refine ⟨rfl, ?_⟩
        refine RO.nil ?_
        have hbv' := hO.cells ⟨bv, _, _⟩ (List.mem_cons_of_mem _ (List.mem_cons_self ..))
        have hpv' := hO.cells ⟨pv, _, _⟩ (List.mem_cons_of_mem _ (List.mem_cons_of_mem _ (List.mem_cons_self ..)))
        have hfr := hO.fr.less (M' := [b]) (by
          intro x hx hn
          simp only [List.mem_cons, List.not_mem_nil, or_false] at hx hn
          rcases hx with rfl | rfl | rfl
          · exact absurd rfl hn
          · exact hbv'.trans hbv.symm
          · exact hpv'.trans hpv.symm)
        first
        | (rw [put_0 (by omega)]; exact ⟨rfl, hfr, hO.cells ⟨b, _, _⟩ (List.mem_cons_self ..)⟩)
        | (rw [put_F (by omega) (by omega)]; exact ⟨rfl, hfr, hO.cells ⟨b, _, _⟩ (List.mem_cons_self ..)⟩)
        | (rw [put_T (by omega) (by omega) (O := -(s : Int)) (by rw [if_pos (by assumption)])]; exact ⟨rfl, hfr, hO.cells ⟨b, _, _⟩ (List.mem_cons_self ..)⟩)
        | (rw [put_T (by omega) (by omega) (O := (s : Int)) (by rw [if_neg (by simp [*])])]; exact ⟨rfl, hfr, hO.cells ⟨b, _, _⟩ (List.mem_cons_self ..)⟩)
      · refine WP.skip ?_
        refine WP.region ?_
        refine WPL.ldL rfl hO inferInstance rfl rfl rfl ?_
        refine WPL.mv (v := .int .i64 _) rfl rfl ?_
        refine WPL.nc rfl rfl ?_
        refine WPL.fa rfl rfl ?_
        refine WPL.ixA (j := ((B.raise bin).top - bin).toNat) rfl rfl (by omega) (by omega) rfl ?_
        refine WPL.mv (v := .int .i64 _) rfl rfl ?_
        refine WPL.cm_u64I rfl rfl ?_
        refine WPL.mv (v := .int .i64 _) rfl rfl ?_
        refine WPL.shrTo (r := hiK ((s : Int))) (s := 63) (p := 9223372036854775808) rfl rfl (by decide) rfl (by unfold hiK; omega) rfl ?_
        refine WPL.bd (pv := [(0, .int .u64 _), (1, .int .i64 _)]) (vs := [_, _]) rfl (bd_of pl54 rfl rfl) rfl ?_
        refine WPL.call rfl (part_add b (0 + 4 + ((B.raise bin).top - bin).toNat * 2) (bnC (B.raise bin)) 57 (hO.cells ⟨b, bnC (B.raise bin), 57⟩ (List.mem_cons_self ..)) ((B.raise bin).ks.getD ((B.raise bin).top - bin).toNat 0) ((s : Int)) (by omega) (by omega) (bn_lo (by omega)) (bn_hi (by omega))) Tryd.func24 rfl rfl rfl ?_
        rintro _ w ⟨rfl, hf35, hc35⟩
        rw [bn_set] at hc35
        have hO := hO.turn (b := b) (cs := bnC { B.raise bin with ks := (B.raise bin).ks.set ((B.raise bin).top - bin).toNat ((B.raise bin).ks.getD ((B.raise bin).top - bin).toNat 0 + (s : Int)) }) (L' := [⟨b, bnC { B.raise bin with ks := (B.raise bin).ks.set ((B.raise bin).top - bin).toNat ((B.raise bin).ks.getD ((B.raise bin).top - bin).toNat 0 + (s : Int)) }, 57⟩, ⟨bv, [.pointer (some ⟨b, 0, none⟩)], 24⟩, ⟨pv, [.bool p.neg, .int .i64 p.cls, .int .i64 p.e, .int .u64 (p.f : Int)], 77⟩]) inferInstance hf35 (by
          intro c T hm
          simp only [List.mem_cons, List.not_mem_nil, or_false, Blk.mk.injEq] at hm
          rcases hm with ⟨_, _, rfl⟩ | ⟨h, _⟩ | ⟨h, _⟩
          · exact hc35
          · exact absurd h hd1
          · exact absurd h hd2)
        refine WPL.nil ?_
        refine ⟨rfl, ?_⟩
        refine RO.nil ?_
        have hbv' := hO.cells ⟨bv, _, _⟩ (List.mem_cons_of_mem _ (List.mem_cons_self ..))
        have hpv' := hO.cells ⟨pv, _, _⟩ (List.mem_cons_of_mem _ (List.mem_cons_of_mem _ (List.mem_cons_self ..)))
        have hfr := hO.fr.less (M' := [b]) (by
          intro x hx hn
          simp only [List.mem_cons, List.not_mem_nil, or_false] at hx hn
          rcases hx with rfl | rfl | rfl
          · exact absurd rfl hn
          · exact hbv'.trans hbv.symm
          · exact hpv'.trans hpv.symm)
        first
        | (rw [put_0 (by omega)]; exact ⟨rfl, hfr, hO.cells ⟨b, _, _⟩ (List.mem_cons_self ..)⟩)
        | (rw [put_F (by omega) (by omega)]; exact ⟨rfl, hfr, hO.cells ⟨b, _, _⟩ (List.mem_cons_self ..)⟩)
        | (rw [put_T (by omega) (by omega) (O := -(s : Int)) (by rw [if_pos (by assumption)])]; exact ⟨rfl, hfr, hO.cells ⟨b, _, _⟩ (List.mem_cons_self ..)⟩)
        | (rw [put_T (by omega) (by omega) (O := (s : Int)) (by rw [if_neg (by simp [*])])]; exact ⟨rfl, hfr, hO.cells ⟨b, _, _⟩ (List.mem_cons_self ..)⟩)
    · refine WP.skip ?_
      refine ⟨rfl, ?_⟩
      refine RO.nil ?_
      have hbv' := hO.cells ⟨bv, _, _⟩ (List.mem_cons_of_mem _ (List.mem_cons_self ..))
      have hpv' := hO.cells ⟨pv, _, _⟩ (List.mem_cons_of_mem _ (List.mem_cons_of_mem _ (List.mem_cons_self ..)))
      have hfr := hO.fr.less (M' := [b]) (by
        intro x hx hn
        simp only [List.mem_cons, List.not_mem_nil, or_false] at hx hn
        rcases hx with rfl | rfl | rfl
        · exact absurd rfl hn
        · exact hbv'.trans hbv.symm
        · exact hpv'.trans hpv.symm)
      first
      | (rw [put_0 (by omega)]; exact ⟨rfl, hfr, hO.cells ⟨b, _, _⟩ (List.mem_cons_self ..)⟩)
      | (rw [put_F (by omega) (by omega)]; exact ⟨rfl, hfr, hO.cells ⟨b, _, _⟩ (List.mem_cons_self ..)⟩)
      | (rw [put_T (by omega) (by omega) (O := -(s : Int)) (by rw [if_pos (by assumption)])]; exact ⟨rfl, hfr, hO.cells ⟨b, _, _⟩ (List.mem_cons_self ..)⟩)
      | (rw [put_T (by omega) (by omega) (O := (s : Int)) (by rw [if_neg (by simp [*])])]; exact ⟨rfl, hfr, hO.cells ⟨b, _, _⟩ (List.mem_cons_self ..)⟩)

theorem bins_slices {w0 : World} (b bv pv : Nat) (B : Bn) (p : Pt) (hb : w0.heap[b]? = some (.cells (bnC B).toArray 57 (0, 0))) (hbv : w0.heap[bv]? = some (.cells #[.pointer (some ⟨b, 0, none⟩)] 24 (0, 0))) (hpv : w0.heap[pv]? = some (.cells #[.bool p.neg, .int .i64 p.cls, .int .i64 p.e, .int .u64 (p.f : Int)] 77 (0, 0))) (hd1 : b ≠ bv) (hd2 : b ≠ pv) (hd3 : bv ≠ pv) (q : Int) (hq : 0 ≤ q ∧ q ≤ 10000000000000000000000) (hk0 : B.Ok q 1000) (hp : -1074 ≤ p.e ∧ p.e ≤ 1000 ∧ p.f < 18446744073709551616) : Spec Tryd.prog 39 [ptV p, .func (.func 40) #[] #[.pointer (some ⟨bv, 0, none⟩), .pointer (some ⟨pv, 0, none⟩)]] w0 (fun v w' => v = .tuple #[] ∧ FrX [b] w0 w' ∧ w'.heap[b]? = some (.cells (bnC (B.addPt p)).toArray 57 (0, 0))) := by
  have hO : Own [] w0 [b, bv, pv] [⟨b, bnC B, 57⟩, ⟨bv, [.pointer (some ⟨b, 0, none⟩)], 24⟩, ⟨pv, [.bool p.neg, .int .i64 p.cls, .int .i64 p.e, .int .u64 (p.f : Int)], 77⟩] [] w0 := Own.startM (L := [⟨b, bnC B, 57⟩, ⟨bv, [.pointer (some ⟨b, 0, none⟩)], 24⟩, ⟨pv, [.bool p.neg, .int .i64 p.cls, .int .i64 p.e, .int .u64 (p.f : Int)], 77⟩]) (by intro e he; cases he) (by
    intro e he
    simp only [List.mem_cons, List.not_mem_nil, or_false] at he
    rcases he with rfl | rfl | rfl
    · exact hb
    · exact hbv
    · exact hpv) (by simp [keys, hd1, hd2, hd3]) (by intro e he; cases he) (by intro r hr; cases hr)
  unfold ptV
  have hA : (ptA p : Int) = p.e + 1088 := by unfold ptA; omega
  have hBn : ptBin p = (ptA p / 32 : Nat) - 34 := rfl
  refine Spec.enter (n := 44) (rs := []) Tryd.func39 rfl rfl rfl rfl ?_
  refine WP.rs ?_
  refine WPL.bx (v := .agg #[.bool _, .int .i64 _, .int .i64 _, .int .u64 _]) rfl rfl hO rfl (fun b1 w hO => ?_)
  refine WPL.nil ?_
  refine WP.rs ?_
  refine WPL.fa rfl rfl ?_
  refine WPL.ldL rfl hO inferInstance rfl rfl rfl ?_
  refine WPL.subTo ((ptA p : Nat) : Int) rfl rfl (by omega) (by omega) rfl ?_
  refine WPL.as (v := .int .i64 _) rfl rfl ?_
  refine WPL.nil ?_
  refine WP.rs ?_
  refine WPL.mv (v := .int .i64 _) rfl rfl ?_
  refine WPL.remN (b := 32) rfl rfl (by omega) rfl ?_
  refine WPL.as (v := .int .i64 _) rfl rfl ?_
  refine WPL.nil ?_
  refine WP.rs ?_
  refine WPL.mv (v := .int .i64 _) rfl rfl ?_
  refine WPL.quoN (b := 32) rfl rfl (by omega) (by omega) rfl ?_
  refine WPL.addTo (ptBin p) rfl rfl (by omega) (by omega) rfl ?_
  refine WPL.as (v := .int .i64 _) rfl rfl ?_
  refine WPL.nil ?_
  refine WP.seq ?_
  refine WP.draw [(0, 0), (1, 1), (2, 0), (3, 0), (4, 0), (5, 0), (6, 1), (7, 0), (8, 0), (9, 0), (10, 0)] [] mixed (by kernel_rfl) (by kernel_rfl) rfl hO (fun w hO => ?_)
  refine WPD.pv rfl rfl (fun w k' h => WPL.fa rfl rfl (WPL.nil h)) ?_
  refine WPD.val rfl rfl (fun w hO k' h => WPL.ldL rfl hO inferInstance rfl rfl rfl (WPL.nil h)) ?_
  refine WPD.pv rfl rfl (fun w k' h => WPL.mv (v := .int .i64 _) rfl rfl (WPL.nil h)) ?_
  refine WPD.pv rfl rfl (fun w k' h => WPL.subTo ((64 - ptA p % 32 : Nat) : Int) rfl rfl (by omega) (by omega) rfl (WPL.nil h)) ?_
  refine WPD.pv rfl rfl (fun w k' h => WPL.shr_u64 rfl rfl (by first | omega | exact Nat.mod_lt _ (by decide) | exact Wd.get (by assumption) _ | exact (dig_wd _).get _ | exact Nat.lt_of_le_of_lt (Nat.div_le_self ..) (Wd.get (by assumption) _) | exact Nat.lt_of_lt_of_le (Wd.get (by assumption) _) (by decide)) rfl (WPL.nil h)) ?_
  refine WPD.pv rfl rfl (fun w k' h => WPL.fa rfl rfl (WPL.nil h)) ?_
  refine WPD.val rfl rfl (fun w hO k' h => WPL.ldL rfl hO inferInstance rfl rfl rfl (WPL.nil h)) ?_
  refine WPD.pv rfl rfl (fun w k' h => WPL.mv (v := .int .i64 _) rfl rfl (WPL.nil h)) ?_
  refine WPD.pv rfl rfl (fun w k' h => WPL.shl_u64 rfl rfl rfl (WPL.nil h)) ?_
  refine WPD.pv rfl rfl (fun w k' h => WPL.as (v := .int .u64 _) rfl rfl (WPL.nil h)) ?_
  refine WPD.pv rfl rfl (fun w k' h => WPL.as (v := .int .u64 _) rfl rfl (WPL.nil h)) ?_
  refine WPD.nil hO ?_
  refine WP.rs ?_
  refine WPL.mv (v := .func _ _ _) rfl rfl ?_
  refine WPL.mv (v := .int .i64 _) rfl rfl ?_
  refine WPL.addI rfl rfl (by omega) rfl ?_
  refine WPL.mv (v := .int .u64 _) rfl rfl ?_
  refine WPL.cm_u32 rfl rfl ?_
  have hBv := hO.cells ⟨bv, [.pointer (some ⟨b, 0, none⟩)], 24⟩ (List.mem_cons_of_mem _ (List.mem_cons_of_mem _ (List.mem_cons_self ..)))
  have hPv := hO.cells ⟨pv, [.bool p.neg, .int .i64 p.cls, .int .i64 p.e, .int .u64 (p.f : Int)], 77⟩ (List.mem_cons_of_mem _ (List.mem_cons_of_mem _ (List.mem_cons_of_mem _ (List.mem_cons_self ..))))
  refine WPL.callv rfl rfl (bins_put b bv pv B p (hO.cells ⟨b, bnC B, 57⟩ (List.mem_cons_of_mem _ (List.mem_cons_self ..))) hBv hPv hd1 hd2 hd3 hk0.len hk0.fold (fun K hK => by have := hk0.le K hK; omega) (ptBin p + 2) (by omega) (by have := hk0.top; omega) (ptHigh p % 4294967296) (Nat.mod_lt _ (by decide))) Tryd.func40 rfl rfl rfl ?_
  rintro _ w ⟨rfl, hfx, hcx⟩
  have hk1 := hk0.put (neg := p.neg) (bin := ptBin p + 2) (s := ptHigh p % 4294967296) (by omega) (by omega) (Nat.mod_lt _ (by decide))
  have hne1 : b1 ≠ b := fun e => by have := hO.nodup; simp [keys, e] at this
  have hO := hO.turn (b := b) (cs := bnC (B.put p.neg (ptBin p + 2) (ptHigh p % 4294967296))) (L' := [⟨b1, [.bool p.neg, .int .i64 p.cls, .int .i64 p.e, .int .u64 (p.f : Int)], 77⟩, ⟨b, bnC (B.put p.neg (ptBin p + 2) (ptHigh p % 4294967296)), 57⟩, ⟨bv, [.pointer (some ⟨b, 0, none⟩)], 24⟩, ⟨pv, [.bool p.neg, .int .i64 p.cls, .int .i64 p.e, .int .u64 (p.f : Int)], 77⟩]) inferInstance hfx (by
    intro c T hm
    simp only [List.mem_cons, List.not_mem_nil, or_false, Blk.mk.injEq] at hm
    rcases hm with ⟨h, _⟩ | ⟨_, _, rfl⟩ | ⟨h, _⟩ | ⟨h, _⟩
    · exact absurd h.symm hne1
    · exact hcx
    · exact absurd h hd1
    · exact absurd h hd2)
  clear hBv hPv hfx hcx
  refine WPL.nil ?_
  refine WP.rs ?_
  refine WPL.mv (v := .func _ _ _) rfl rfl ?_
  refine WPL.mv (v := .int .i64 _) rfl rfl ?_
  refine WPL.addI rfl rfl (by omega) rfl ?_
  refine WPL.mv (v := .int .u64 _) rfl rfl ?_
  refine WPL.shrc_u64 (p := 4294967296) rfl rfl rfl (by first | omega | exact Nat.mod_lt _ (by decide) | exact Wd.get (by assumption) _ | exact (dig_wd _).get _ | exact Nat.lt_of_le_of_lt (Nat.div_le_self ..) (Wd.get (by assumption) _) | exact Nat.lt_of_lt_of_le (Wd.get (by assumption) _) (by decide)) rfl ?_
  refine WPL.cm_u32 rfl rfl ?_
  have hBv := hO.cells ⟨bv, [.pointer (some ⟨b, 0, none⟩)], 24⟩ (List.mem_cons_of_mem _ (List.mem_cons_of_mem _ (List.mem_cons_self ..)))
  have hPv := hO.cells ⟨pv, [.bool p.neg, .int .i64 p.cls, .int .i64 p.e, .int .u64 (p.f : Int)], 77⟩ (List.mem_cons_of_mem _ (List.mem_cons_of_mem _ (List.mem_cons_of_mem _ (List.mem_cons_self ..))))
  refine WPL.callv rfl rfl (bins_put b bv pv (B.put p.neg (ptBin p + 2) (ptHigh p % 4294967296)) p (hO.cells ⟨b, bnC (B.put p.neg (ptBin p + 2) (ptHigh p % 4294967296)), 57⟩ (List.mem_cons_of_mem _ (List.mem_cons_self ..))) hBv hPv hd1 hd2 hd3 hk1.len hk1.fold (fun K hK => by have := hk1.le K hK; omega) (ptBin p + 1) (by omega) (by have := hk1.top; omega) (ptLow p / 4294967296 % 4294967296) (Nat.mod_lt _ (by decide))) Tryd.func40 rfl rfl rfl ?_
  rintro _ w ⟨rfl, hfx, hcx⟩
  have hk2 := hk1.put (neg := p.neg) (bin := ptBin p + 1) (s := ptLow p / 4294967296 % 4294967296) (by omega) (by omega) (Nat.mod_lt _ (by decide))
  have hne1 : b1 ≠ b := fun e => by have := hO.nodup; simp [keys, e] at this
  have hO := hO.turn (b := b) (cs := bnC ((B.put p.neg (ptBin p + 2) (ptHigh p % 4294967296)).put p.neg (ptBin p + 1) (ptLow p / 4294967296 % 4294967296))) (L' := [⟨b1, [.bool p.neg, .int .i64 p.cls, .int .i64 p.e, .int .u64 (p.f : Int)], 77⟩, ⟨b, bnC ((B.put p.neg (ptBin p + 2) (ptHigh p % 4294967296)).put p.neg (ptBin p + 1) (ptLow p / 4294967296 % 4294967296)), 57⟩, ⟨bv, [.pointer (some ⟨b, 0, none⟩)], 24⟩, ⟨pv, [.bool p.neg, .int .i64 p.cls, .int .i64 p.e, .int .u64 (p.f : Int)], 77⟩]) inferInstance hfx (by
    intro c T hm
    simp only [List.mem_cons, List.not_mem_nil, or_false, Blk.mk.injEq] at hm
    rcases hm with ⟨h, _⟩ | ⟨_, _, rfl⟩ | ⟨h, _⟩ | ⟨h, _⟩
    · exact absurd h.symm hne1
    · exact hcx
    · exact absurd h hd1
    · exact absurd h hd2)
  clear hBv hPv hfx hcx
  refine WPL.nil ?_
  refine WP.region ?_
  refine WPL.mv (v := .func _ _ _) rfl rfl ?_
  refine WPL.mv (v := .int .i64 _) rfl rfl ?_
  refine WPL.mv (v := .int .u64 _) rfl rfl ?_
  refine WPL.cm_u32 rfl rfl ?_
  have hBv := hO.cells ⟨bv, [.pointer (some ⟨b, 0, none⟩)], 24⟩ (List.mem_cons_of_mem _ (List.mem_cons_of_mem _ (List.mem_cons_self ..)))
  have hPv := hO.cells ⟨pv, [.bool p.neg, .int .i64 p.cls, .int .i64 p.e, .int .u64 (p.f : Int)], 77⟩ (List.mem_cons_of_mem _ (List.mem_cons_of_mem _ (List.mem_cons_of_mem _ (List.mem_cons_self ..))))
  refine WPL.callv rfl rfl (bins_put b bv pv ((B.put p.neg (ptBin p + 2) (ptHigh p % 4294967296)).put p.neg (ptBin p + 1) (ptLow p / 4294967296 % 4294967296)) p (hO.cells ⟨b, bnC ((B.put p.neg (ptBin p + 2) (ptHigh p % 4294967296)).put p.neg (ptBin p + 1) (ptLow p / 4294967296 % 4294967296)), 57⟩ (List.mem_cons_of_mem _ (List.mem_cons_self ..))) hBv hPv hd1 hd2 hd3 hk2.len hk2.fold (fun K hK => by have := hk2.le K hK; omega) (ptBin p) (by omega) (by have := hk2.top; omega) (ptLow p % 4294967296) (Nat.mod_lt _ (by decide))) Tryd.func40 rfl rfl rfl ?_
  rintro _ w ⟨rfl, hfx, hcx⟩
  have hk3 := hk2.put (neg := p.neg) (bin := ptBin p) (s := ptLow p % 4294967296) (by omega) (by omega) (Nat.mod_lt _ (by decide))
  have hne1 : b1 ≠ b := fun e => by have := hO.nodup; simp [keys, e] at this
  have hO := hO.turn (b := b) (cs := bnC (B.addPt p)) (L' := [⟨b1, [.bool p.neg, .int .i64 p.cls, .int .i64 p.e, .int .u64 (p.f : Int)], 77⟩, ⟨b, bnC (B.addPt p), 57⟩, ⟨bv, [.pointer (some ⟨b, 0, none⟩)], 24⟩, ⟨pv, [.bool p.neg, .int .i64 p.cls, .int .i64 p.e, .int .u64 (p.f : Int)], 77⟩]) inferInstance hfx (by
    intro c T hm
    simp only [List.mem_cons, List.not_mem_nil, or_false, Blk.mk.injEq] at hm
    rcases hm with ⟨h, _⟩ | ⟨_, _, rfl⟩ | ⟨h, _⟩ | ⟨h, _⟩
    · exact absurd h.symm hne1
    · exact hcx
    · exact absurd h hd1
    · exact absurd h hd2)
  clear hBv hPv hfx hcx
  refine WPL.nil ?_
  refine ⟨rfl, ?_⟩
  refine RO.nil ?_
  have hbv' := hO.cells ⟨bv, [.pointer (some ⟨b, 0, none⟩)], 24⟩ (List.mem_cons_of_mem _ (List.mem_cons_of_mem _ (List.mem_cons_self ..)))
  have hpv' := hO.cells ⟨pv, [.bool p.neg, .int .i64 p.cls, .int .i64 p.e, .int .u64 (p.f : Int)], 77⟩ (List.mem_cons_of_mem _ (List.mem_cons_of_mem _ (List.mem_cons_of_mem _ (List.mem_cons_self ..))))
  have hfr := hO.fr.less (M' := [b]) (by
    intro x hx hn
    simp only [List.mem_cons, List.not_mem_nil, or_false] at hx hn
    rcases hx with rfl | rfl | rfl
    · exact absurd rfl hn
    · exact hbv'.trans hbv.symm
    · exact hpv'.trans hpv.symm)
  exact ⟨rfl, hfr, hO.cells ⟨b, bnC (B.addPt p), 57⟩ (List.mem_cons_of_mem _ (List.mem_cons_self ..))⟩
end Go.Sw
