/- A part of the proof that BinsAlike answers true: steps of the walk, or plain laws that it needs. No conditions of its own. -/
import Derived.Test.YtdaphmoojpbddaaDoorSVW7
set_option linter.all false
namespace Go.Sw
set_option autoImplicit false
set_option linter.all false
open Go.Proofs Go.RowKit

theorem bins_Merge {w0 : World} (b o : Nat) (hne : b ≠ o) (B O : Bn) (hb : w0.heap[b]? = some (.cells (bnC B).toArray 57 (0, 0))) (ho : w0.heap[o]? = some (.cells (bnC O).toArray 57 (0, 0))) (q : Int) (hq : 0 ≤ q ∧ q ≤ 10000000000000000000000) (hkb : B.Ok q 1000) (hko : O.Ok q 1000) (hc : B.count ≤ 1099511627776 ∧ O.count ≤ 1099511627776) (hf : B.fold = O.fold) (hs : B.count + O.count ≤ 1099511627776) : Spec Tryd.prog 7 [.pointer (some ⟨b, 0, none⟩), .pointer (some ⟨o, 0, none⟩)] w0 (fun v w' => v = .int .i64 0 ∧ FrX [b] w0 w' ∧ w'.heap[b]? = some (.cells (bnC (B.mergeF O)).toArray 57 (0, 0))) := by
  have hO : Own [] w0 [b, o] [⟨b, bnC B, 57⟩, ⟨o, bnC O, 57⟩] [] w0 := Own.startM (L := [⟨b, bnC B, 57⟩, ⟨o, bnC O, 57⟩]) (by intro e he; cases he) (by
    intro e he
    simp only [List.mem_cons, List.not_mem_nil, or_false] at he
    rcases he with rfl | rfl
    · exact hb
    · exact ho) (by simp [keys, hne]) (by intro e he; cases he) (by intro r hr; cases hr)
  refine Spec.enter (n := 86) (rs := [.tmp 4]) Tryd.func7 rfl rfl rfl rfl ?_
  refine WP.rs ?_
  refine WPL.as (v := .int .i64 0) rfl rfl ?_
  refine WPL.nil ?_
  refine WP.seq ?_
  refine WP.block ?_
  refine WP.seq ?_
  refine WP.draw [(0, 0), (1, 0), (2, 0), (3, 1), (4, 0), (5, 0), (6, 0), (7, 1), (8, 0), (9, 0)] [] mixed (by kernel_rfl) (by kernel_rfl) rfl hO (fun w hO => ?_)
  refine WPD.pv rfl rfl (fun w k' h => WPL.mv (v := .pointer _) rfl rfl (WPL.nil h)) ?_
  refine WPD.pv rfl rfl (fun w k' h => WPL.nc rfl rfl (WPL.nil h)) ?_
  refine WPD.pv rfl rfl (fun w k' h => WPL.fa rfl rfl (WPL.nil h)) ?_
  refine WPD.val rfl rfl (fun w hO k' h => WPL.ldL rfl hO inferInstance rfl rfl rfl (WPL.nil h)) ?_
  refine WPD.pv rfl rfl (fun w k' h => WPL.mv (v := .pointer _) rfl rfl (WPL.nil h)) ?_
  refine WPD.pv rfl rfl (fun w k' h => WPL.nc rfl rfl (WPL.nil h)) ?_
  refine WPD.pv rfl rfl (fun w k' h => WPL.fa rfl rfl (WPL.nil h)) ?_
  refine WPD.val rfl rfl (fun w hO k' h => WPL.ldL rfl hO inferInstance rfl rfl rfl (WPL.nil h)) ?_
  refine WPD.pv rfl rfl (fun w k' h => WPL.ne rfl rfl rfl (WPL.nil h)) ?_
  refine WPD.pv rfl rfl (fun w k' h => WPL.as (v := .bool _) rfl rfl (WPL.nil h)) ?_
  refine WPD.nil hO ?_
  refine WP.condP rfl (fun h1 => ?_) (fun h1 => ?_)
  · exact absurd h1 (by omega)
  · refine WP.seq ?_
    refine WP.draw [(0, 0), (1, 0), (2, 0), (3, 1), (4, 0), (5, 0), (6, 0), (7, 1), (8, 0), (9, 0), (10, 0)] [] mixed (by kernel_rfl) (by kernel_rfl) rfl hO (fun w hO => ?_)
    refine WPD.pv rfl rfl (fun w k' h => WPL.mv (v := .pointer _) rfl rfl (WPL.nil h)) ?_
    refine WPD.pv rfl rfl (fun w k' h => WPL.nc rfl rfl (WPL.nil h)) ?_
    refine WPD.pv rfl rfl (fun w k' h => WPL.fa rfl rfl (WPL.nil h)) ?_
    refine WPD.val rfl rfl (fun w hO k' h => WPL.ldL rfl hO inferInstance rfl rfl rfl (WPL.nil h)) ?_
    refine WPD.pv rfl rfl (fun w k' h => WPL.mv (v := .pointer _) rfl rfl (WPL.nil h)) ?_
    refine WPD.pv rfl rfl (fun w k' h => WPL.nc rfl rfl (WPL.nil h)) ?_
    refine WPD.pv rfl rfl (fun w k' h => WPL.fa rfl rfl (WPL.nil h)) ?_
    refine WPD.val rfl rfl (fun w hO k' h => WPL.ldL rfl hO inferInstance rfl rfl rfl (WPL.nil h)) ?_
    refine WPD.pv rfl rfl (fun w k' h => WPL.addI rfl rfl (by omega) rfl (WPL.nil h)) ?_
    refine WPD.pv rfl rfl (fun w k' h => WPL.gt rfl rfl rfl (WPL.nil h)) ?_
    refine WPD.pv rfl rfl (fun w k' h => WPL.as (v := .bool _) rfl rfl (WPL.nil h)) ?_
    refine WPD.nil hO ?_
    refine WP.condP rfl (fun h2 => ?_) (fun h2 => ?_)
    · exact absurd h2 (by omega)
    · refine WP.skip ?_
      refine WP.seq ?_
      refine WP.draw [(0, 0), (1, 0), (2, 0), (3, 1), (4, 0), (5, 0), (6, 0), (7, 1), (8, 0), (9, 0), (10, 0), (11, 2)] [11] mixed (by kernel_rfl) (by kernel_rfl) rfl hO (fun w hO => ?_)
      refine WPD.pv rfl rfl (fun w k' h => WPL.mv (v := .pointer _) rfl rfl (WPL.nil h)) ?_
      refine WPD.pv rfl rfl (fun w k' h => WPL.nc rfl rfl (WPL.nil h)) ?_
      refine WPD.pv rfl rfl (fun w k' h => WPL.fa rfl rfl (WPL.nil h)) ?_
      refine WPD.val rfl rfl (fun w hO k' h => WPL.ldL rfl hO inferInstance rfl rfl rfl (WPL.nil h)) ?_
      refine WPD.pv rfl rfl (fun w k' h => WPL.mv (v := .pointer _) rfl rfl (WPL.nil h)) ?_
      refine WPD.pv rfl rfl (fun w k' h => WPL.nc rfl rfl (WPL.nil h)) ?_
      refine WPD.pv rfl rfl (fun w k' h => WPL.fa rfl rfl (WPL.nil h)) ?_
      refine WPD.val rfl rfl (fun w hO k' h => WPL.ldL rfl hO inferInstance rfl rfl rfl (WPL.nil h)) ?_
      refine WPD.pv rfl rfl (fun w k' h => WPL.addI rfl rfl (by omega) rfl (WPL.nil h)) ?_
      refine WPD.pv rfl rfl (fun w k' h => WPL.nc rfl rfl (WPL.nil h)) ?_
      refine WPD.pv rfl rfl (fun w k' h => WPL.fa rfl rfl (WPL.nil h)) ?_
      refine WPD.eff rfl hO ?_
      refine WPL.stL (v := .int .i64 _) rfl rfl hO inferInstance inferInstance rfl rfl rfl (fun w hO => ?_)
      refine WPL.nil ?_
      refine WPD.nilX (by kernel_rfl) ?_
      refine WP.seq ?_
      refine WP.rs ?_
      refine WPL.mv (v := .pointer _) rfl rfl ?_
      refine WPL.nc rfl rfl ?_
      refine WPL.fa rfl rfl ?_
      refine WPL.ldL rfl hO inferInstance rfl rfl rfl ?_
      refine WPL.not rfl rfl ?_
      refine WPL.nil ?_
      refine WP.condB rfl (fun h3 => ?_) (fun h3 => ?_)
      · refine WP.rs ?_
        refine WPL.as (v := .int .i64 0) rfl rfl ?_
        refine WPL.nil ?_
        refine WP.ret ?_
        refine ⟨rfl, ?_⟩
        refine RO.tmp (v := .int .i64 _) rfl ?_
        refine RO.nil ?_
        first
        | (have ea : O.any = false := by simpa using h3
           have em : B.mergeF O = { B with count := B.count + O.count } := by unfold Bn.mergeF; rw [ea]; rfl
           have hOo := hO.cells ⟨o, bnC O, 57⟩ (List.mem_cons_of_mem _ (List.mem_cons_self ..))
           have hfr := hO.fr.less (M' := [b]) (by
             intro x hx hn
             simp only [List.mem_cons, List.not_mem_nil, or_false] at hx hn
             rcases hx with rfl | rfl
             · exact absurd rfl hn
             · exact hOo.trans ho.symm)
           rw [em]
           exact ⟨rfl, hfr, hO.cells ⟨b, _, _⟩ (List.mem_cons_self ..)⟩)
        | (have ea : O.any = true := by simpa using h3
           have ei : i = B.fold - (B2.top - O.top).toNat := by omega
           have em : B.mergeF O = Bn.mk B2.fold B2.count B2.any B2.top (mergeK B2.ks (B2.top - O.top).toNat O.ks i) := by unfold Bn.mergeF; rw [ea, ei, hB2]; rfl
           have hOo := hO.cells ⟨o, bnC O, 57⟩ (List.mem_cons_of_mem _ (List.mem_cons_of_mem _ (List.mem_cons_self ..)))
           have hfr := hO.fr.less (M' := [b]) (by
             intro x hx hn
             simp only [List.mem_cons, List.not_mem_nil, or_false] at hx hn
             rcases hx with rfl | rfl
             · exact absurd rfl hn
             · exact hOo.trans ho.symm)
           rw [em]
           exact ⟨rfl, hfr, hO.cells ⟨b, _, _⟩ (List.mem_cons_of_mem _ (List.mem_cons_self ..))⟩)
      · refine WP.skip ?_
        refine WP.seq ?_
        refine WP.draw [(0, 0), (1, 0), (2, 0), (3, 1), (4, 0), (5, 0), (6, 0), (7, 1), (8, 2), (9, 0), (10, 2)] [10] mixed (by kernel_rfl) (by kernel_rfl) rfl hO (fun w hO => ?_)
        refine WPD.pv rfl rfl (fun w k' h => WPL.mv (v := .pointer _) rfl rfl (WPL.nil h)) ?_
        refine WPD.pv rfl rfl (fun w k' h => WPL.nc rfl rfl (WPL.nil h)) ?_
        refine WPD.pv rfl rfl (fun w k' h => WPL.fa rfl rfl (WPL.nil h)) ?_
        refine WPD.val rfl rfl (fun w hO k' h => WPL.ldL rfl hO inferInstance rfl rfl rfl (WPL.nil h)) ?_
        refine WPD.pv rfl rfl (fun w k' h => WPL.mv (v := .pointer _) rfl rfl (WPL.nil h)) ?_
        refine WPD.pv rfl rfl (fun w k' h => WPL.nc rfl rfl (WPL.nil h)) ?_
        refine WPD.pv rfl rfl (fun w k' h => WPL.fa rfl rfl (WPL.nil h)) ?_
        refine WPD.val rfl rfl (fun w hO k' h => WPL.ldLA (T := T55) (kc O.ks) rfl hO inferInstance (by simp [bnC]) rfl (by simp [kc_length, hko.len]) rfl (WPL.nil h)) ?_
        refine WPD.eff rfl hO ?_
        refine WPL.al hO rfl (fun b1 w hO => ?_)
        refine WPL.nil ?_
        refine WPD.pv rfl rfl (fun w k' h => WPL.as (v := .int .i64 _) rfl rfl (WPL.nil h)) ?_
        refine WPD.eff rfl (Own.drop1 hO) ?_
        refine WPL.stLA (T := T55) (vs := kc O.ks) rfl rfl hO inferInstance inferInstance (kc_one O.ks) (by simp [kc_length, hko.len]) (by simp [kc_length, hko.len]) (fun w hO => ?_)
        refine WPL.nil ?_
        refine WPD.nilX (by kernel_rfl) ?_
        refine WP.rs ?_
        refine WPL.mv (v := .pointer _) rfl rfl ?_
        refine WPL.mv (v := .int .i64 _) rfl rfl ?_
        rw [put_all (by simp [kc_length, hko.len])] at hO
        have hn := hO.nodup
        have hO : Own [] w0 [b, o] [⟨b1, kc O.ks, 55⟩, ⟨b, bnC { B with count := B.count + O.count }, 57⟩, ⟨o, bnC O, 57⟩] [] w := hO
        refine WPL.call rfl (bins_raise b { B with count := B.count + O.count } (hO.cells ⟨b, bnC { B with count := B.count + O.count }, 57⟩ (List.mem_cons_of_mem _ (List.mem_cons_self ..))) hkb.len hkb.fold O.top (by have := hko.top; omega) (by show -100000 ≤ B.top ∧ B.top ≤ 100000; have := hkb.top; omega)) Tryd.func23 rfl rfl rfl ?_
        rintro _ w ⟨rfl, hfx, hcx⟩
        have hne1 : b1 ≠ b := fun e => by simp [keys, e] at hn
        have hO := hO.turn (b := b) (cs := bnC (Bn.raise { B with count := B.count + O.count } O.top)) (L' := [⟨b1, kc O.ks, 55⟩, ⟨b, bnC (Bn.raise { B with count := B.count + O.count } O.top), 57⟩, ⟨o, bnC O, 57⟩]) inferInstance hfx (by
          intro c T hm
          simp only [List.mem_cons, List.not_mem_nil, or_false, Blk.mk.injEq] at hm
          rcases hm with ⟨h, _⟩ | ⟨_, _, rfl⟩ | ⟨h, _⟩
          · exact absurd h.symm hne1
          · exact hcx
          · exact absurd h hne)
        refine WPL.as (v := .int .i64 _) rfl rfl ?_
        refine WPL.nil ?_
        refine WP.seq ?_
        refine WP.rs ?_
        refine WPL.as (v := .int .i64 0) rfl rfl ?_
        refine WPL.nil ?_
        refine WP.block ?_
        obtain ⟨B2, hB2⟩ : ∃ B2, B2 = (Bn.raise { B with count := B.count + O.count } O.top) := ⟨_, rfl⟩
        have hr1 := raise_len (B := { B with count := B.count + O.count }) (bin := O.top) hkb.len
        have hr2 := @raise_fold { B with count := B.count + O.count } O.top
        have hr3 := @raise_top { B with count := B.count + O.count } O.top
        have hr4 : B2.le q := by rw [hB2]; exact Bn.le.raise hkb.le hq.1
        have htb := hkb.top
        have hto := hko.top
        rw [← hB2] at hO hr1 hr2 hr3
        have hr3 : O.top ≤ B2.top ∧ (B2.top = O.top ∨ B2.top = B.top) := hr3
        have hr2 : B2.fold = B.fold := hr2
        have hfb := hkb.fold
        refine WP.loop (fun m σ ds w' => ∃ i, m + i = 8 ∧ i ≤ B.fold - (B2.top - O.top).toNat ∧ Has σ [(0, .pointer (some ⟨b, 0, none⟩)), (1, .pointer (some ⟨o, 0, none⟩)), (6, .pointer (some ⟨b1, 0, none⟩)), (7, .int .i64 (B2.top - O.top)), (8, .int .i64 (i : Int))] ∧ ds = [] ∧ Own [] w0 [b, o] [⟨b1, kc O.ks, 55⟩, ⟨b, bnC { B2 with ks := mergeK B2.ks (B2.top - O.top).toNat O.ks i }, 57⟩, ⟨o, bnC O, 57⟩] [] w') 8 ?_ ?_
        · exact ⟨0, rfl, Nat.zero_le _, ⟨rfl, rfl, rfl, by rw [hB2]; rfl, rfl, trivial⟩, rfl, hO⟩
        · rintro m σ ds w ⟨i, hi, hin, hH, rfl, hO⟩
          have hgf : (Bn.mk B2.fold B2.count B2.any B2.top (mergeK B2.ks (B2.top - O.top).toNat O.ks i)).fold = B.fold := hr2
          refine WP.reset hH ?_
          refine WP.seq ?_
          refine WP.rs ?_
          refine WPL.mv (v := .int .i64 _) rfl rfl ?_
          refine WPL.mv (v := .pointer _) rfl rfl ?_
          refine WPL.nc rfl rfl ?_
          refine WPL.fa rfl rfl ?_
          refine WPL.ldL rfl hO inferInstance rfl rfl rfl ?_
          refine WPL.lt rfl rfl rfl ?_
          refine WPL.mv (v := .bool _) rfl rfl ?_
          refine WPL.split (s := 63) rfl (fun h4 => ?_) (fun h4 => ?_)
          · have ph4 := of_decide_eq_true h4
            refine WPL.guardT rfl rfl h4 ?_
            refine WPL.mv (v := .int .i64 _) rfl rfl ?_
            refine WPL.guardT rfl rfl h4 ?_
            refine WPL.mv (v := .int .i64 _) rfl rfl ?_
            refine WPL.guardT rfl rfl h4 ?_
            refine WPL.addI rfl rfl (by omega) rfl ?_
            refine WPL.guardT rfl rfl h4 ?_
            refine WPL.mv (v := .pointer _) rfl rfl ?_
            refine WPL.guardT rfl rfl h4 ?_
            refine WPL.nc rfl rfl ?_
            refine WPL.guardT rfl rfl h4 ?_
            refine WPL.fa rfl rfl ?_
            refine WPL.guardT rfl rfl h4 ?_
            refine WPL.ldL rfl hO inferInstance rfl rfl rfl ?_
            refine WPL.guardT rfl rfl h4 ?_
            refine WPL.lt rfl rfl rfl ?_
            refine WPL.pkT (v := .bool _) rfl h4 rfl rfl ?_
            refine WPL.nil ?_
            refine WP.condP rfl (fun h5 => ?_) (fun h5 => ?_)
            · refine WP.skip ?_
              refine WP.seq ?_
              refine WP.block ?_
              refine WP.draw [(0, 0), (1, 0), (2, 0), (3, 0), (4, 0), (5, 0), (6, 0), (7, 0), (8, 0), (9, 1), (10, 2)] [10] mixed (by kernel_rfl) (by kernel_rfl) rfl hO (fun w hO => ?_)
              refine WPD.pv rfl rfl (fun w k' h => WPL.mv (v := .pointer _) rfl rfl (WPL.nil h)) ?_
              refine WPD.pv rfl rfl (fun w k' h => WPL.mv (v := .int .i64 _) rfl rfl (WPL.nil h)) ?_
              refine WPD.pv rfl rfl (fun w k' h => WPL.mv (v := .int .i64 _) rfl rfl (WPL.nil h)) ?_
              refine WPD.pv rfl rfl (fun w k' h => WPL.addTo ((((B2.top - O.top).toNat + i : Nat)) : Int) rfl rfl (by omega) (by omega) rfl (WPL.nil h)) ?_
              refine WPD.pv rfl rfl (fun w k' h => WPL.nc rfl rfl (WPL.nil h)) ?_
              refine WPD.pv rfl rfl (fun w k' h => WPL.fa rfl rfl (WPL.nil h)) ?_
              refine WPD.pv rfl rfl (fun w k' h => WPL.ixA (j := (B2.top - O.top).toNat + i) rfl rfl rfl (by omega) rfl (WPL.nil h)) ?_
              refine WPD.pv rfl rfl (fun w k' h => WPL.mv (v := .int .i64 _) rfl rfl (WPL.nil h)) ?_
              refine WPD.pv rfl rfl (fun w k' h => WPL.ixA rfl rfl rfl (by omega) rfl (WPL.nil h)) ?_
              refine WPD.val rfl rfl (fun w hO k' h => WPL.ldLA (T := T54) [.int .u64 (loK (O.ks.getD i 0) : Int), .int .i64 (hiK (O.ks.getD i 0))] rfl hO inferInstance (kc_take (by have := hko.len; omega)) agg54 rfl rfl (WPL.nil h)) ?_
              refine WPD.eff rfl hO ?_
              have hml := @mergeK_len B2.ks (B2.top - O.top).toNat O.ks i
              have hmg := @mergeK_get B2.ks (B2.top - O.top).toNat O.ks i ((B2.top - O.top).toNat + i) (by omega)
              have hg1 := hr4.get hq.1 ((B2.top - O.top).toNat + i)
              have hg2 := hko.le.get hq.1 i
              have hn := hO.nodup
              have hne1 : b1 ≠ b := fun e => by simp [keys, e] at hn
              refine WPL.call rfl (part_add b (0 + 4 + ((B2.top - O.top).toNat + i) * 2) (bnC (Bn.mk B2.fold B2.count B2.any B2.top (mergeK B2.ks (B2.top - O.top).toNat O.ks i))) 57 (hO.cells ⟨b, bnC (Bn.mk B2.fold B2.count B2.any B2.top (mergeK B2.ks (B2.top - O.top).toNat O.ks i)), 57⟩ (List.mem_cons_of_mem _ (List.mem_cons_self ..))) ((mergeK B2.ks (B2.top - O.top).toNat O.ks i).getD ((B2.top - O.top).toNat + i) 0) (O.ks.getD i 0) (by omega) (by omega) (bn_lo (by show _ < (mergeK _ _ _ _).length; omega)) (bn_hi (by show _ < (mergeK _ _ _ _).length; omega))) Tryd.func24 rfl rfl rfl ?_
              rintro _ w ⟨rfl, hfx, hcx⟩
              rw [bn_set] at hcx
              have hO := hO.turn (b := b) (cs := bnC (Bn.mk B2.fold B2.count B2.any B2.top (mergeK B2.ks (B2.top - O.top).toNat O.ks (i + 1)))) (L' := [⟨b1, kc O.ks, 55⟩, ⟨b, bnC (Bn.mk B2.fold B2.count B2.any B2.top (mergeK B2.ks (B2.top - O.top).toNat O.ks (i + 1))), 57⟩, ⟨o, bnC O, 57⟩]) inferInstance hfx (by
                intro c T hm
                simp only [List.mem_cons, List.not_mem_nil, or_false, Blk.mk.injEq] at hm
                rcases hm with ⟨h, _⟩ | ⟨_, _, rfl⟩ | ⟨h, _⟩
                · exact absurd h.symm hne1
                · exact hcx
                · exact absurd h hne)
              refine WPL.nil ?_
              refine WPD.nilX (by kernel_rfl) ?_
              refine WP.region ?_
              refine WPL.mv (v := .int .i64 _) rfl rfl ?_
              refine WPL.addI rfl rfl (by omega) rfl ?_
              refine WPL.as (v := .int .i64 _) rfl rfl ?_
              refine WPL.nil ?_
              exact ⟨m - 1, by omega, i + 1, by omega, by omega, ⟨rfl, rfl, rfl, rfl, rfl, trivial⟩, rfl, hO⟩
            · refine WP.exit ?_
              refine WP.rs ?_
              refine WPL.as (v := .int .i64 0) rfl rfl ?_
              refine WPL.nil ?_
              refine WP.ret ?_
              refine ⟨rfl, ?_⟩
              refine RO.tmp (v := .int .i64 _) rfl ?_
              refine RO.nil ?_
              first
              | (have ea : O.any = false := by simpa using h3
                 have em : B.mergeF O = { B with count := B.count + O.count } := by unfold Bn.mergeF; rw [ea]; rfl
                 have hOo := hO.cells ⟨o, bnC O, 57⟩ (List.mem_cons_of_mem _ (List.mem_cons_self ..))
                 have hfr := hO.fr.less (M' := [b]) (by
                   intro x hx hn
                   simp only [List.mem_cons, List.not_mem_nil, or_false] at hx hn
                   rcases hx with rfl | rfl
                   · exact absurd rfl hn
                   · exact hOo.trans ho.symm)
                 rw [em]
                 exact ⟨rfl, hfr, hO.cells ⟨b, _, _⟩ (List.mem_cons_self ..)⟩)
              | (have ea : O.any = true := by simpa using h3
                 have ei : i = B.fold - (B2.top - O.top).toNat := by omega
                 have em : B.mergeF O = Bn.mk B2.fold B2.count B2.any B2.top (mergeK B2.ks (B2.top - O.top).toNat O.ks i) := by unfold Bn.mergeF; rw [ea, ei, hB2]; rfl
                 have hOo := hO.cells ⟨o, bnC O, 57⟩ (List.mem_cons_of_mem _ (List.mem_cons_of_mem _ (List.mem_cons_self ..)))
                 have hfr := hO.fr.less (M' := [b]) (by
                   intro x hx hn
                   simp only [List.mem_cons, List.not_mem_nil, or_false] at hx hn
                   rcases hx with rfl | rfl
                   · exact absurd rfl hn
                   · exact hOo.trans ho.symm)
                 rw [em]
                 exact ⟨rfl, hfr, hO.cells ⟨b, _, _⟩ (List.mem_cons_of_mem _ (List.mem_cons_self ..))⟩)
          · have ph4 := of_decide_eq_false h4
            refine WPL.guardF rfl rfl rfl h4 ?_
            refine WPL.guardF rfl rfl rfl h4 ?_
            refine WPL.guardF rfl rfl rfl h4 ?_
            refine WPL.guardF rfl rfl rfl h4 ?_
            refine WPL.guardF rfl rfl rfl h4 ?_
            refine WPL.guardF rfl rfl rfl h4 ?_
            refine WPL.guardF rfl rfl rfl h4 ?_
            refine WPL.guardF rfl rfl rfl h4 ?_
            refine WPL.pkF (v := .bool false) rfl h4 rfl rfl ?_
            refine WPL.nil ?_
            refine WP.cF rfl rfl ?_
            refine WP.exit ?_
            refine WP.rs ?_
            refine WPL.as (v := .int .i64 0) rfl rfl ?_
            refine WPL.nil ?_
            refine WP.ret ?_
            refine ⟨rfl, ?_⟩
            refine RO.tmp (v := .int .i64 _) rfl ?_
            refine RO.nil ?_
            first
            | (have ea : O.any = false := by simpa using h3
               have em : B.mergeF O = { B with count := B.count + O.count } := by unfold Bn.mergeF; rw [ea]; rfl
               have hOo := hO.cells ⟨o, bnC O, 57⟩ (List.mem_cons_of_mem _ (List.mem_cons_self ..))
               have hfr := hO.fr.less (M' := [b]) (by
                 intro x hx hn
                 simp only [List.mem_cons, List.not_mem_nil, or_false] at hx hn
                 rcases hx with rfl | rfl
                 · exact absurd rfl hn
                 · exact hOo.trans ho.symm)
               rw [em]
               exact ⟨rfl, hfr, hO.cells ⟨b, _, _⟩ (List.mem_cons_self ..)⟩)
            | (have ea : O.any = true := by simpa using h3
               have ei : i = B.fold - (B2.top - O.top).toNat := by omega
               have em : B.mergeF O = Bn.mk B2.fold B2.count B2.any B2.top (mergeK B2.ks (B2.top - O.top).toNat O.ks i) := by unfold Bn.mergeF; rw [ea, ei, hB2]; rfl
               have hOo := hO.cells ⟨o, bnC O, 57⟩ (List.mem_cons_of_mem _ (List.mem_cons_of_mem _ (List.mem_cons_self ..)))
               have hfr := hO.fr.less (M' := [b]) (by
                 intro x hx hn
                 simp only [List.mem_cons, List.not_mem_nil, or_false] at hx hn
                 rcases hx with rfl | rfl
                 · exact absurd rfl hn
                 · exact hOo.trans ho.symm)
               rw [em]
               exact ⟨rfl, hfr, hO.cells ⟨b, _, _⟩ (List.mem_cons_of_mem _ (List.mem_cons_self ..))⟩)
end Go.Sw
