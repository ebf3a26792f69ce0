/- A part of the proof that BinsAlike answers true: steps of the walk, or plain laws that it needs. No conditions of its own. -/
import Derived.Test.YtdaphmoojpbddaaDoorSB3
import Derived.Test.YtdaphmoojpbddaaDoorSVW4
set_option linter.all false
namespace Go.Sw
set_option autoImplicit false
set_option linter.all false
open Go.Proofs Go.RowKit
instance T2 : Ty Tryd.prog 2 (.int .i64) [.int .i64 0] 8 := Ty.mk' Tryd.underlying2 (by kernel_rfl)
noncomputable abbrev D54 : TypeDesc := (Tryd.prog.underlying 54).getD .bool
instance T54 : Ty Tryd.prog 54 D54 [.int .u64 0, .int .i64 0] 16 := Ty.mk' (by kernel_rfl) (by kernel_rfl)
theorem agg54 : TypeDesc.agg D54 = true := by kernel_rfl
theorem pl54 : placesOf Tryd.prog 54 = some [(0, 1), (1, 1)] := by kernel_rfl
instance F54_0 : Fld Tryd.prog 54 0 0 := Fld.mk' (sz := 0) (by kernel_rfl)
instance F54_1 : Fld Tryd.prog 54 1 1 := Fld.mk' (sz := 0) (by kernel_rfl)
instance T55 : Ty Tryd.prog 55 (.array 8 54) [.int .u64 0, .int .i64 0, .int .u64 0, .int .i64 0, .int .u64 0, .int .i64 0, .int .u64 0, .int .i64 0, .int .u64 0, .int .i64 0, .int .u64 0, .int .i64 0, .int .u64 0, .int .i64 0, .int .u64 0, .int .i64 0] 128 := Ty.mk' Tryd.underlying55 (by kernel_rfl)
noncomputable abbrev D57 : TypeDesc := (Tryd.prog.underlying 57).getD .bool
instance T57 : Ty Tryd.prog 57 D57 [.int .i64 0, .int .i64 0, .bool false, .int .i64 0, .int .u64 0, .int .i64 0, .int .u64 0, .int .i64 0, .int .u64 0, .int .i64 0, .int .u64 0, .int .i64 0, .int .u64 0, .int .i64 0, .int .u64 0, .int .i64 0, .int .u64 0, .int .i64 0, .int .u64 0, .int .i64 0] 160 := Ty.mk' (by kernel_rfl) (by kernel_rfl)
theorem agg57 : TypeDesc.agg D57 = true := by kernel_rfl
theorem pl57 : placesOf Tryd.prog 57 = some [(0, 1), (1, 1), (2, 1), (3, 1), (4, 16)] := by kernel_rfl
instance F57_0 : Fld Tryd.prog 57 0 0 := Fld.mk' (sz := 0) (by kernel_rfl)
instance F57_1 : Fld Tryd.prog 57 1 1 := Fld.mk' (sz := 0) (by kernel_rfl)
instance F57_2 : Fld Tryd.prog 57 2 2 := Fld.mk' (sz := 0) (by kernel_rfl)
instance F57_3 : Fld Tryd.prog 57 3 3 := Fld.mk' (sz := 0) (by kernel_rfl)
instance F57_4 : Fld Tryd.prog 57 4 4 := Fld.mk' (sz := 15) (by kernel_rfl)
theorem ext_Add64 : Ext Tryd.prog 47 add64E := ⟨⟨_, Tryd.func47, rfl, rfl, by kernel_rfl, by kernel_rfl⟩⟩
theorem part_add {w0 : World} (b off : Nat) (cs : List Value) (T : TypeId) (hb : w0.heap[b]? = some (.cells cs.toArray T (0, 0))) (K O : Int) (hK : -1267650600228229401496703205376 ≤ K ∧ K ≤ 1267650600228229401496703205376) (hO' : -1267650600228229401496703205376 ≤ O ∧ O ≤ 1267650600228229401496703205376) (h1 : cs[off]? = some (.int .u64 (loK K : Int))) (h2 : cs[off + 1]? = some (.int .i64 (hiK K))) : Spec Tryd.prog 24 [.pointer (some ⟨b, off, none⟩), .agg #[.int .u64 (loK O : Int), .int .i64 (hiK O)]] w0 (fun v w' => v = .tuple #[] ∧ FrX [b] w0 w' ∧ w'.heap[b]? = some (.cells ((cs.set off (.int .u64 (loK (K + O) : Int))).set (off + 1) (.int .i64 (hiK (K + O)))).toArray T (0, 0))) := by
  have hO : Own [] w0 [b] [⟨b, cs, T⟩] [] w0 := Own.startM (L := [⟨b, cs, T⟩]) (by intro e he; cases he) (by intro e he; obtain rfl := List.mem_singleton.1 he; exact hb) (by simp [keys]) (by intro e he; cases he) (by intro r hr; cases hr)
  have hk1 : -1000000000000000 ≤ hiK K ∧ hiK K ≤ 1000000000000000 := by unfold hiK; omega
  have hk2 : -1000000000000000 ≤ hiK O ∧ hiK O ≤ 1000000000000000 := by unfold hiK; omega
  have hk3 : -1000000000000000 ≤ hiK (K + O) ∧ hiK (K + O) ≤ 1000000000000000 := by unfold hiK; omega
  have hk4 : loK K < 18446744073709551616 ∧ loK O < 18446744073709551616 := by unfold loK; omega
  have hl1 : Nat.blt off cs.length = true := by simpa [Nat.blt_eq] using (List.getElem?_eq_some_iff.1 h1).1
  have hl2 : Nat.blt (off + 1) cs.length = true := by simpa [Nat.blt_eq] using (List.getElem?_eq_some_iff.1 h2).1
  refine Spec.enter (n := 33) (rs := []) Tryd.func24 rfl rfl rfl rfl ?_
  refine WP.rs ?_
  refine WPL.bx (v := .agg #[.int .u64 _, .int .i64 _]) rfl rfl hO rfl (fun b1 w hO => ?_)
  refine WPL.nil ?_
  refine WP.seq ?_
  refine WP.draw [(0, 0), (1, 0), (2, 0), (3, 1), (4, 0), (5, 1), (6, 2), (7, 0), (8, 0), (9, 0), (10, 0), (11, 0)] [] mixed (by kernel_rfl) (by kernel_rfl) rfl hO (fun w hO => ?_)
  refine WPD.pv rfl rfl (fun w k' h => WPL.mv (v := .pointer _) rfl rfl (WPL.nil h)) ?_
  refine WPD.pv rfl rfl (fun w k' h => WPL.nc rfl rfl (WPL.nil h)) ?_
  refine WPD.pv rfl rfl (fun w k' h => WPL.fa rfl rfl (WPL.nil h)) ?_
  refine WPD.val rfl rfl (fun w hO k' h => WPL.ldL (v := .int .u64 (loK K : Int)) rfl hO inferInstance h1 rfl rfl (WPL.nil h)) ?_
  refine WPD.pv rfl rfl (fun w k' h => WPL.fa rfl rfl (WPL.nil h)) ?_
  refine WPD.val rfl rfl (fun w hO k' h => WPL.ldL rfl hO inferInstance rfl rfl rfl (WPL.nil h)) ?_
  refine WPD.eff rfl hO ?_
  refine WPL.add64 (c := 0) ext_Add64 rfl rfl rfl (by omega) rfl ?_
  refine WPL.nil ?_
  refine WPD.pv rfl rfl (fun w k' h => WPL.mv (v := .tuple #[.int .u64 _, .int .u64 _]) rfl rfl (WPL.nil h)) ?_
  refine WPD.pv rfl rfl (fun w k' h => WPL.ext (v := .int .u64 _) rfl rfl rfl (WPL.nil h)) ?_
  refine WPD.pv rfl rfl (fun w k' h => WPL.ext (v := .int .u64 _) rfl rfl rfl (WPL.nil h)) ?_
  refine WPD.pv rfl rfl (fun w k' h => WPL.as (v := .int .u64 _) rfl rfl (WPL.nil h)) ?_
  refine WPD.pv rfl rfl (fun w k' h => WPL.as (v := .int .u64 _) rfl rfl (WPL.nil h)) ?_
  refine WPD.nil hO ?_
  refine WP.drawE 19 [15, 18] mixed (by kernel_rfl) rfl hO (fun w hO => ?_)
  refine WPE.pv (i := 0) (by kernel_rfl) rfl rfl (fun w k' h => WPL.mv (v := .pointer _) rfl rfl (WPL.nil h)) ?_
  refine WPE.pv (i := 1) (by kernel_rfl) rfl rfl (fun w k' h => WPL.mv (v := .pointer _) rfl rfl (WPL.nil h)) ?_
  refine WPE.pv (i := 2) (by kernel_rfl) rfl rfl (fun w k' h => WPL.mv (v := .int .u64 _) rfl rfl (WPL.nil h)) ?_
  refine WPE.pv (i := 3) (by kernel_rfl) rfl rfl (fun w k' h => WPL.mv (v := .pointer _) rfl rfl (WPL.nil h)) ?_
  refine WPE.pv (i := 4) (by kernel_rfl) rfl rfl (fun w k' h => WPL.nc rfl rfl (WPL.nil h)) ?_
  refine WPE.pv (i := 5) (by kernel_rfl) rfl rfl (fun w k' h => WPL.fa rfl rfl (WPL.nil h)) ?_
  refine WPE.val (i := 6) (by kernel_rfl) rfl rfl (fun w hO k' h => WPL.ldL (v := .int .i64 (hiK K)) rfl hO inferInstance (by first | exact h2 | (rw [List.getElem?_set_ne (by omega)]; exact h2)) rfl rfl (WPL.nil h)) ?_
  refine WPE.pv (i := 7) (by kernel_rfl) rfl rfl (fun w k' h => WPL.fa rfl rfl (WPL.nil h)) ?_
  refine WPE.pv (i := 10) (by kernel_rfl) rfl rfl (fun w k' h => WPL.mv (v := .int .u64 _) rfl rfl (WPL.nil h)) ?_
  refine WPE.pv (i := 11) (by kernel_rfl) rfl rfl (fun w k' h => WPL.cv_i64 rfl (by first | omega | exact Nat.mod_lt _ (by decide) | exact Wd.get (by assumption) _ | exact (dig_wd _).get _ | exact Nat.lt_of_le_of_lt (Nat.div_le_self ..) (Wd.get (by assumption) _) | exact Nat.lt_of_lt_of_le (Wd.get (by assumption) _) (by decide)) rfl (WPL.nil h)) ?_
  refine WPE.pv (i := 13) (by kernel_rfl) rfl rfl (fun w k' h => WPL.nc rfl rfl (WPL.nil h)) ?_
  refine WPE.pv (i := 14) (by kernel_rfl) rfl rfl (fun w k' h => WPL.fa rfl rfl (WPL.nil h)) ?_
  refine WPE.fork2 (i := 8) (j := 15) (by kernel_rfl) rfl rfl (.inr hO) ?_ ?_
  · refine WPL.ldL rfl hO inferInstance rfl rfl rfl ?_
    refine WPL.nil ?_
    refine WPE.pv (i := 9) (by kernel_rfl) rfl rfl (fun w k' h => WPL.addI rfl rfl (by omega) rfl (WPL.nil h)) ?_
    refine WPE.pv (i := 12) (by kernel_rfl) rfl rfl (fun w k' h => WPL.addTo (hiK (K + O)) rfl rfl (hi_add K O) (by omega) rfl (WPL.nil h)) ?_
    refine WPE.eff (i := 15) (by kernel_rfl) rfl hO ?_
    refine WPL.stL (v := .int .u64 (loK (K + O) : Int)) rfl (congrArg (fun z : Nat => Value.int .u64 (z : Int)) (lo_add K O)) hO inferInstance inferInstance rfl rfl hl1 (fun w hO => ?_)
    refine WPL.nil ?_
    refine WPE.pv (i := 16) (by kernel_rfl) rfl rfl (fun w k' h => WPL.nc rfl rfl (WPL.nil h)) ?_
    refine WPE.pv (i := 17) (by kernel_rfl) rfl rfl (fun w k' h => WPL.fa rfl rfl (WPL.nil h)) ?_
    refine WPE.effX (i := 18) (by kernel_rfl) rfl (by kernel_rfl) ?_
    refine WPL.stL (v := .int .i64 (hiK (K + O))) rfl rfl hO inferInstance inferInstance rfl rfl (by simpa using hl2) (fun w hO => ?_)
    refine WPL.nil ?_
    refine WPE.nilX (by kernel_rfl) (by kernel_rfl) ?_
    refine ⟨rfl, ?_⟩
    refine RO.nil ?_
    exact ⟨rfl, hO.fr, hO.cells _ (List.mem_cons_of_mem _ (List.mem_cons_self ..))⟩
  · refine WPL.stL (v := .int .u64 (loK (K + O) : Int)) rfl (congrArg (fun z : Nat => Value.int .u64 (z : Int)) (lo_add K O)) hO inferInstance inferInstance rfl rfl hl1 (fun w hO => ?_)
    refine WPL.nil ?_
    refine WPE.effX (i := 8) (by kernel_rfl) rfl (by kernel_rfl) ?_
    refine WPL.ldL rfl hO inferInstance rfl rfl rfl ?_
    refine WPL.nil ?_
    refine WPE.pv (i := 9) (by kernel_rfl) rfl rfl (fun w k' h => WPL.addI rfl rfl (by omega) rfl (WPL.nil h)) ?_
    refine WPE.pv (i := 12) (by kernel_rfl) rfl rfl (fun w k' h => WPL.addTo (hiK (K + O)) rfl rfl (hi_add K O) (by omega) rfl (WPL.nil h)) ?_
    refine WPE.pv (i := 16) (by kernel_rfl) rfl rfl (fun w k' h => WPL.nc rfl rfl (WPL.nil h)) ?_
    refine WPE.pv (i := 17) (by kernel_rfl) rfl rfl (fun w k' h => WPL.fa rfl rfl (WPL.nil h)) ?_
    refine WPE.effX (i := 18) (by kernel_rfl) rfl (by kernel_rfl) ?_
    refine WPL.stL (v := .int .i64 (hiK (K + O))) rfl rfl hO inferInstance inferInstance rfl rfl (by simpa using hl2) (fun w hO => ?_)
    refine WPL.nil ?_
    refine WPE.nilX (by kernel_rfl) (by kernel_rfl) ?_
    refine ⟨rfl, ?_⟩
    refine RO.nil ?_
    exact ⟨rfl, hO.fr, hO.cells _ (List.mem_cons_of_mem _ (List.mem_cons_self ..))⟩

theorem bins_raise {w0 : World} (b : Nat) (B : Bn) (hb : w0.heap[b]? = some (.cells (bnC B).toArray 57 (0, 0))) (hlen : B.ks.length = 8) (hfold : B.fold ≤ 8) (bin : Int) (hbin : -100000 ≤ bin ∧ bin ≤ 100000) (htop : -100000 ≤ B.top ∧ B.top ≤ 100000) : Spec Tryd.prog 23 [.pointer (some ⟨b, 0, none⟩), .int .i64 bin] w0 (fun v w' => v = .int .i64 ((B.raise bin).top - bin) ∧ FrX [b] w0 w' ∧ w'.heap[b]? = some (.cells (bnC (B.raise bin)).toArray 57 (0, 0))) := by
  have hO : Own [] w0 [b] [⟨b, bnC B, 57⟩] [] w0 := Own.startM (L := [⟨b, bnC B, 57⟩]) (by intro e he; cases he) (by intro e he; obtain rfl := List.mem_singleton.1 he; exact hb) (by simp [keys]) (by intro e he; cases he) (by intro r hr; cases hr)
  obtain ⟨fold, count, any, top, ks⟩ := B
  simp only at hlen hfold htop
  unfold bnC at hO
  simp only at hO
  have hkl := kc_length ks
  refine Spec.enter (n := 73) (rs := [.tmp 4]) Tryd.func23 rfl rfl rfl rfl ?_
  refine WP.rs ?_
  refine WPL.as (v := .int .i64 0) rfl rfl ?_
  refine WPL.nil ?_
  refine WP.seq ?_
  refine WP.rs ?_
  refine WPL.mv (v := .pointer _) rfl rfl ?_
  refine WPL.nc rfl rfl ?_
  refine WPL.fa rfl rfl ?_
  refine WPL.ldL rfl hO inferInstance rfl rfl rfl ?_
  refine WPL.not rfl rfl ?_
  refine WPL.nil ?_
  refine WP.condB rfl (fun h1 => ?_) (fun h1 => ?_)
  · have h1t : any = false := by simpa using h1
    subst h1t
    refine WP.region ?_
    refine WPL.mv (v := .pointer _) rfl rfl ?_
    refine WPL.mv (v := .pointer _) rfl rfl ?_
    refine WPL.mv (v := .int .i64 _) rfl rfl ?_
    refine WPL.nc rfl rfl ?_
    refine WPL.fa rfl rfl ?_
    refine WPL.stL (v := .bool true) rfl rfl hO inferInstance inferInstance rfl rfl rfl (fun w hO => ?_)
    refine WPL.nc rfl rfl ?_
    refine WPL.fa rfl rfl ?_
    refine WPL.stL (v := .int .i64 _) rfl rfl hO inferInstance inferInstance rfl rfl rfl (fun w hO => ?_)
    refine WPL.nil ?_
    refine WP.seq ?_
    refine WP.rs ?_
    refine WPL.mv (v := .int .i64 _) rfl rfl ?_
    refine WPL.mv (v := .pointer _) rfl rfl ?_
    refine WPL.nc rfl rfl ?_
    refine WPL.fa rfl rfl ?_
    refine WPL.ldL rfl hO inferInstance rfl rfl rfl ?_
    refine WPL.subI rfl rfl (by omega) rfl ?_
    refine WPL.as (v := .int .i64 _) rfl rfl ?_
    refine WPL.nil ?_
    refine WP.rs ?_
    refine WPL.mv (v := .int .i64 _) rfl rfl ?_
    refine WPL.gt rfl rfl rfl ?_
    refine WPL.nil ?_
    refine WP.condP rfl (fun h2 => ?_) (fun h2 => ?_)
    · exact absurd h2 (by omega)
    · refine WP.skip ?_
      refine WP.rs ?_
      refine WPL.mv (v := .pointer _) rfl rfl ?_
      refine WPL.nc rfl rfl ?_
      refine WPL.fa rfl rfl ?_
      refine WPL.ldL rfl hO inferInstance rfl rfl rfl ?_
      refine WPL.mv (v := .int .i64 _) rfl rfl ?_
      refine WPL.subI rfl rfl (by omega) rfl ?_
      refine WPL.as (v := .int .i64 _) rfl rfl ?_
      refine WPL.nil ?_
      refine WP.ret ?_
      refine ⟨rfl, ?_⟩
      refine RO.tmp (v := .int .i64 _) rfl ?_
      refine RO.nil ?_
      first
      | (rw [raise_first]; exact ⟨rfl, hO.fr, hO.cells ⟨b, _, _⟩ (List.mem_cons_self ..)⟩)
      | (rw [raise_same (by omega)]; exact ⟨rfl, hO.fr, hO.cells ⟨b, _, _⟩ (List.mem_cons_self ..)⟩)
      | (have e8 : i = 8 := by omega
         subst e8
         rw [partK_all hlen] at hO
         rw [raise_up (by omega)]
         exact ⟨rfl, hO.fr, hO.cells ⟨b, _, _⟩ (List.mem_cons_of_mem _ (List.mem_cons_self ..))⟩)
  · have h1t : any = true := by simpa using h1
    subst h1t
    refine WP.skip ?_
    refine WP.seq ?_
    refine WP.rs ?_
    refine WPL.mv (v := .int .i64 _) rfl rfl ?_
    refine WPL.mv (v := .pointer _) rfl rfl ?_
    refine WPL.nc rfl rfl ?_
    refine WPL.fa rfl rfl ?_
    refine WPL.ldL rfl hO inferInstance rfl rfl rfl ?_
    refine WPL.subI rfl rfl (by omega) rfl ?_
    refine WPL.as (v := .int .i64 _) rfl rfl ?_
    refine WPL.nil ?_
    refine WP.rs ?_
    refine WPL.mv (v := .int .i64 _) rfl rfl ?_
    refine WPL.gt rfl rfl rfl ?_
    refine WPL.nil ?_
    refine WP.condP rfl (fun h6 => ?_) (fun h6 => ?_)
    · refine WP.rs ?_
      refine WPL.mv (v := .pointer _) rfl rfl ?_
      refine WPL.nc rfl rfl ?_
      refine WPL.fa rfl rfl ?_
      refine WPL.ldLA (T := T55) (kc ks) rfl hO inferInstance (by simp) rfl (by simp [hkl, hlen]) rfl ?_
      refine WPL.al hO rfl (fun b2 w hO => ?_)
      refine WPL.stLA (T := T55) (vs := kc ks) rfl rfl hO inferInstance inferInstance (kc_one ks) (by simp [hkl, hlen]) (by simp [hkl, hlen]) (fun w hO => ?_)
      refine WPL.nil ?_
      refine WP.seq ?_
      refine WP.rs ?_
      rw [put_all (by simp [hkl, hlen])] at hO
      refine WPL.mv (v := .int .i64 0) rfl rfl ?_
      refine WPL.nil ?_
      refine WP.block ?_
      refine WP.loop (fun m σ ds w' => ∃ i, m + i = 8 ∧ Has σ [(0, .pointer (some ⟨b, 0, none⟩)), (1, .int .i64 bin), (5, .int .i64 (bin - top)), (6, .pointer (some ⟨b2, 0, none⟩)), (32, .int .i64 (i : Int))] ∧ ds = [] ∧ Own [] w0 [b] [⟨b2, kc ks, 55⟩, ⟨b, .int .i64 (fold : Int) :: .int .i64 (count : Int) :: .bool true :: .int .i64 top :: kc (partK ks (bin - top) fold i), 57⟩] [] w') 8 ?_ ?_
      · exact ⟨0, rfl, ⟨rfl, rfl, rfl, rfl, rfl, trivial⟩, rfl, by rw [partK_zero]; exact hO⟩
      · rintro m σ ds w ⟨i, hi, hH, rfl, hO⟩
        refine WP.reset hH ?_
        have hpl := partK_len (ks := ks) (up := bin - top) (fold := fold) (i := i) (by omega)
        refine WP.rs ?_
        refine WPL.lt rfl rfl rfl ?_
        refine WPL.nil ?_
        refine WP.seq ?_
        refine WP.condP rfl (fun h7 => ?_) (fun h7 => ?_)
        · refine WP.skip ?_
          refine WP.seq ?_
          refine WP.block ?_
          refine WP.rs ?_
          refine WPL.mv (v := .int .i64 _) rfl rfl ?_
          refine WPL.as (v := .int .i64 _) rfl rfl ?_
          refine WPL.nil ?_
          refine WP.rs ?_
          refine WPL.mv (v := .pointer _) rfl rfl ?_
          refine WPL.mv (v := .int .i64 _) rfl rfl ?_
          refine WPL.bd (pv := []) (vs := [_, _]) rfl (bd_of pl54 rfl rfl) rfl ?_
          refine WPL.nc rfl rfl ?_
          refine WPL.fa rfl rfl ?_
          refine WPL.ixA rfl rfl rfl (by omega) rfl ?_
          refine WPL.stLA (T := T54) (vs := [.int .u64 0, .int .i64 0]) rfl rfl hO inferInstance inferInstance (by simp [Value.oneCell']) rfl (by simp [Nat.blt_eq, Nat.ble_eq, kc_length]; omega) (fun w hO => ?_)
          have hO : Own [] w0 [b] [⟨b2, kc ks, 55⟩, ⟨b, .int .i64 (fold : Int) :: .int .i64 (count : Int) :: .bool true :: .int .i64 top :: kc ((partK ks (bin - top) fold i).set i 0), 57⟩] [] w := by rw [← put_zero]; exact hO
          have hpl2 : ((partK ks (bin - top) fold i).set i 0).length = 8 := by simp [hpl, hlen]
          refine WPL.nil ?_
          refine WP.rs ?_
          refine WPL.mv (v := .int .i64 _) rfl rfl ?_
          refine WPL.mv (v := .int .i64 _) rfl rfl ?_
          refine WPL.ge rfl rfl rfl ?_
          refine WPL.mv (v := .bool _) rfl rfl ?_
          refine WPL.split (s := 44) rfl (fun h8 => ?_) (fun h8 => ?_)
          · have ph8 := of_decide_eq_true h8
            refine WPL.guardT rfl rfl h8 ?_
            refine WPL.mv (v := .int .i64 _) rfl rfl ?_
            refine WPL.guardT rfl rfl h8 ?_
            refine WPL.mv (v := .pointer _) rfl rfl ?_
            refine WPL.guardT rfl rfl h8 ?_
            refine WPL.nc rfl rfl ?_
            refine WPL.guardT rfl rfl h8 ?_
            refine WPL.fa rfl rfl ?_
            refine WPL.guardT rfl rfl h8 ?_
            refine WPL.ldL rfl hO inferInstance rfl rfl rfl ?_
            refine WPL.guardT rfl rfl h8 ?_
            refine WPL.lt rfl rfl rfl ?_
            refine WPL.pkT (v := .bool _) rfl h8 rfl rfl ?_
            refine WPL.nil ?_
            refine WP.condP rfl (fun h9 => ?_) (fun h9 => ?_)
            · refine WP.draw [(0, 0), (1, 0), (2, 0), (3, 0), (4, 0), (5, 0), (6, 1), (7, 0), (8, 0), (9, 0), (10, 2)] [10] mixed (by kernel_rfl) (by kernel_rfl) rfl hO (fun w hO => ?_)
              refine WPD.pv rfl rfl (fun w k' h => WPL.mv (v := .pointer _) rfl rfl (WPL.nil h)) ?_
              refine WPD.pv rfl rfl (fun w k' h => WPL.mv (v := .int .i64 _) rfl rfl (WPL.nil h)) ?_
              refine WPD.pv rfl rfl (fun w k' h => WPL.mv (v := .int .i64 _) rfl rfl (WPL.nil h)) ?_
              refine WPD.pv rfl rfl (fun w k' h => WPL.mv (v := .int .i64 _) rfl rfl (WPL.nil h)) ?_
              refine WPD.pv rfl rfl (fun w k' h => WPL.subI rfl rfl (by omega) rfl (WPL.nil h)) ?_
              refine WPD.pv rfl rfl (fun w k' h => WPL.ixA (j := ((i : Int) - (bin - top)).toNat) rfl rfl (by omega) (by omega) rfl (WPL.nil h)) ?_
              refine WPD.val rfl rfl (fun w hO k' h => WPL.ldLA (T := T54) [.int .u64 (loK (ks.getD ((i : Int) - (bin - top)).toNat 0) : Int), .int .i64 (hiK (ks.getD ((i : Int) - (bin - top)).toNat 0))] rfl hO inferInstance (kc_take (by omega)) agg54 rfl rfl (WPL.nil h)) ?_
              refine WPD.pv rfl rfl (fun w k' h => WPL.nc rfl rfl (WPL.nil h)) ?_
              refine WPD.pv rfl rfl (fun w k' h => WPL.fa rfl rfl (WPL.nil h)) ?_
              refine WPD.pv rfl rfl (fun w k' h => WPL.ixA rfl rfl rfl (by omega) rfl (WPL.nil h)) ?_
              refine WPD.eff rfl hO ?_
              refine WPL.stLA (T := T54) (vs := [.int .u64 (loK (ks.getD ((i : Int) - (bin - top)).toNat 0) : Int), .int .i64 (hiK (ks.getD ((i : Int) - (bin - top)).toNat 0))]) rfl rfl hO inferInstance inferInstance (by simp [Value.oneCell']) rfl (by simp [Nat.blt_eq, Nat.ble_eq, kc_length]; omega) (fun w hO => ?_)
              refine WPL.nil ?_
              refine WPD.nilX (by kernel_rfl) ?_
              refine WP.region ?_
              refine WPL.addI rfl rfl (by omega) rfl ?_
              refine WPL.mv (v := .int .i64 _) rfl rfl ?_
              refine WPL.nil ?_
              first
              | (have e : (0 : Int) = shiftK ks (bin - top) fold i := (if_neg (by omega)).symm
                 rw [partK_set (by omega) e] at hO
                 exact ⟨m - 1, by omega, i + 1, by omega, ⟨rfl, rfl, rfl, rfl, rfl, trivial⟩, rfl, hO⟩)
              | (have e : ks.getD ((i : Int) - (bin - top)).toNat 0 = shiftK ks (bin - top) fold i := by unfold shiftK; rw [if_pos (by omega)]; congr 1; omega
                 have hO : Own [] w0 [b] [⟨b2, kc ks, 55⟩, ⟨b, .int .i64 (fold : Int) :: .int .i64 (count : Int) :: .bool true :: .int .i64 top :: kc (((partK ks (bin - top) fold i).set i 0).set i (ks.getD ((i : Int) - (bin - top)).toNat 0)), 57⟩] [] w := by rw [← put_part]; exact hO
                 rw [List.set_set, partK_set (by omega) e] at hO
                 exact ⟨m - 1, by omega, i + 1, by omega, ⟨rfl, rfl, rfl, rfl, rfl, trivial⟩, rfl, hO⟩)
            · refine WP.skip ?_
              refine WP.region ?_
              refine WPL.addI rfl rfl (by omega) rfl ?_
              refine WPL.mv (v := .int .i64 _) rfl rfl ?_
              refine WPL.nil ?_
              first
              | (have e : (0 : Int) = shiftK ks (bin - top) fold i := (if_neg (by omega)).symm
                 rw [partK_set (by omega) e] at hO
                 exact ⟨m - 1, by omega, i + 1, by omega, ⟨rfl, rfl, rfl, rfl, rfl, trivial⟩, rfl, hO⟩)
              | (have e : ks.getD ((i : Int) - (bin - top)).toNat 0 = shiftK ks (bin - top) fold i := by unfold shiftK; rw [if_pos (by omega)]; congr 1; omega
                 have hO : Own [] w0 [b] [⟨b2, kc ks, 55⟩, ⟨b, .int .i64 (fold : Int) :: .int .i64 (count : Int) :: .bool true :: .int .i64 top :: kc (((partK ks (bin - top) fold i).set i 0).set i (ks.getD ((i : Int) - (bin - top)).toNat 0)), 57⟩] [] w := by rw [← put_part]; exact hO
                 rw [List.set_set, partK_set (by omega) e] at hO
                 exact ⟨m - 1, by omega, i + 1, by omega, ⟨rfl, rfl, rfl, rfl, rfl, trivial⟩, rfl, hO⟩)
          · have ph8 := of_decide_eq_false h8
            refine WPL.guardF rfl rfl rfl h8 ?_
            refine WPL.guardF rfl rfl rfl h8 ?_
            refine WPL.guardF rfl rfl rfl h8 ?_
            refine WPL.guardF rfl rfl rfl h8 ?_
            refine WPL.guardF rfl rfl rfl h8 ?_
            refine WPL.guardF rfl rfl rfl h8 ?_
            refine WPL.pkF (v := .bool false) rfl h8 rfl rfl ?_
            refine WPL.nil ?_
            refine WP.cF rfl rfl ?_
            refine WP.skip ?_
            refine WP.region ?_
            refine WPL.addI rfl rfl (by omega) rfl ?_
            refine WPL.mv (v := .int .i64 _) rfl rfl ?_
            refine WPL.nil ?_
            first
            | (have e : (0 : Int) = shiftK ks (bin - top) fold i := (if_neg (by omega)).symm
               rw [partK_set (by omega) e] at hO
               exact ⟨m - 1, by omega, i + 1, by omega, ⟨rfl, rfl, rfl, rfl, rfl, trivial⟩, rfl, hO⟩)
            | (have e : ks.getD ((i : Int) - (bin - top)).toNat 0 = shiftK ks (bin - top) fold i := by unfold shiftK; rw [if_pos (by omega)]; congr 1; omega
               have hO : Own [] w0 [b] [⟨b2, kc ks, 55⟩, ⟨b, .int .i64 (fold : Int) :: .int .i64 (count : Int) :: .bool true :: .int .i64 top :: kc (((partK ks (bin - top) fold i).set i 0).set i (ks.getD ((i : Int) - (bin - top)).toNat 0)), 57⟩] [] w := by rw [← put_part]; exact hO
               rw [List.set_set, partK_set (by omega) e] at hO
               exact ⟨m - 1, by omega, i + 1, by omega, ⟨rfl, rfl, rfl, rfl, rfl, trivial⟩, rfl, hO⟩)
        · refine WP.exit ?_
          refine WP.region ?_
          refine WPL.mv (v := .pointer _) rfl rfl ?_
          refine WPL.mv (v := .int .i64 _) rfl rfl ?_
          refine WPL.nc rfl rfl ?_
          refine WPL.fa rfl rfl ?_
          refine WPL.stL (v := .int .i64 _) rfl rfl hO inferInstance inferInstance rfl rfl rfl (fun w hO => ?_)
          refine WPL.nil ?_
          refine WP.rs ?_
          refine WPL.mv (v := .pointer _) rfl rfl ?_
          refine WPL.nc rfl rfl ?_
          refine WPL.fa rfl rfl ?_
          refine WPL.ldL rfl hO inferInstance rfl rfl rfl ?_
          refine WPL.mv (v := .int .i64 _) rfl rfl ?_
          refine WPL.subI rfl rfl (by omega) rfl ?_
          refine WPL.as (v := .int .i64 _) rfl rfl ?_
          refine WPL.nil ?_
          refine WP.ret ?_
          refine ⟨rfl, ?_⟩
          refine RO.tmp (v := .int .i64 _) rfl ?_
          refine RO.nil ?_
          first
          | (rw [raise_first]; exact ⟨rfl, hO.fr, hO.cells ⟨b, _, _⟩ (List.mem_cons_self ..)⟩)
          | (rw [raise_same (by omega)]; exact ⟨rfl, hO.fr, hO.cells ⟨b, _, _⟩ (List.mem_cons_self ..)⟩)
          | (have e8 : i = 8 := by omega
             subst e8
             rw [partK_all hlen] at hO
             rw [raise_up (by omega)]
             exact ⟨rfl, hO.fr, hO.cells ⟨b, _, _⟩ (List.mem_cons_of_mem _ (List.mem_cons_self ..))⟩)
    · refine WP.skip ?_
      refine WP.rs ?_
      refine WPL.mv (v := .pointer _) rfl rfl ?_
      refine WPL.nc rfl rfl ?_
      refine WPL.fa rfl rfl ?_
      refine WPL.ldL rfl hO inferInstance rfl rfl rfl ?_
      refine WPL.mv (v := .int .i64 _) rfl rfl ?_
      refine WPL.subI rfl rfl (by omega) rfl ?_
      refine WPL.as (v := .int .i64 _) rfl rfl ?_
      refine WPL.nil ?_
      refine WP.ret ?_
      refine ⟨rfl, ?_⟩
      refine RO.tmp (v := .int .i64 _) rfl ?_
      refine RO.nil ?_
      first
      | (rw [raise_first]; exact ⟨rfl, hO.fr, hO.cells ⟨b, _, _⟩ (List.mem_cons_self ..)⟩)
      | (rw [raise_same (by omega)]; exact ⟨rfl, hO.fr, hO.cells ⟨b, _, _⟩ (List.mem_cons_self ..)⟩)
      | (have e8 : i = 8 := by omega
         subst e8
         rw [partK_all hlen] at hO
         rw [raise_up (by omega)]
         exact ⟨rfl, hO.fr, hO.cells ⟨b, _, _⟩ (List.mem_cons_of_mem _ (List.mem_cons_self ..))⟩)

theorem bins_Count {w0 : World} (b : Nat) (B : Bn) (hb : w0.heap[b]? = some (.cells (bnC B).toArray 57 (0, 0))) : Spec Tryd.prog 21 [.pointer (some ⟨b, 0, none⟩)] w0 (fun v w' => v = .int .i64 (B.count : Int) ∧ w0 = w') := by
  have hO : Own [] w0 [b] [⟨b, bnC B, 57⟩] [] w0 := Own.startM (L := [⟨b, bnC B, 57⟩]) (by intro e he; cases he) (by intro e he; obtain rfl := List.mem_singleton.1 he; exact hb) (by simp [keys]) (by intro e he; cases he) (by intro r hr; cases hr)
  unfold bnC at hO
  refine Spec.enter (n := 7) (rs := [.tmp 2]) Tryd.func21 rfl rfl rfl rfl ?_
  refine WP.rs ?_
  refine WPL.as (v := .int .i64 0) rfl rfl ?_
  refine WPL.nil ?_
  refine WP.rs ?_
  refine WPL.mv (v := .pointer _) rfl rfl ?_
  refine WPL.nc rfl rfl ?_
  refine WPL.fa rfl rfl ?_
  refine WPL.ldL rfl hO inferInstance rfl rfl rfl ?_
  refine WPL.as (v := .int .i64 _) rfl rfl ?_
  refine WPL.nil ?_
  refine WP.ret ?_
  refine ⟨rfl, ?_⟩
  refine RO.tmp (v := .int .i64 _) rfl ?_
  refine RO.nil ?_
  exact ⟨rfl, rfl⟩

theorem bins_Fold {w0 : World} (b : Nat) (B : Bn) (hb : w0.heap[b]? = some (.cells (bnC B).toArray 57 (0, 0))) : Spec Tryd.prog 22 [.pointer (some ⟨b, 0, none⟩)] w0 (fun v w' => v = .int .i64 (B.fold : Int) ∧ w0 = w') := by
  have hO : Own [] w0 [b] [⟨b, bnC B, 57⟩] [] w0 := Own.startM (L := [⟨b, bnC B, 57⟩]) (by intro e he; cases he) (by intro e he; obtain rfl := List.mem_singleton.1 he; exact hb) (by simp [keys]) (by intro e he; cases he) (by intro r hr; cases hr)
  unfold bnC at hO
  refine Spec.enter (n := 7) (rs := [.tmp 2]) Tryd.func22 rfl rfl rfl rfl ?_
  refine WP.rs ?_
  refine WPL.as (v := .int .i64 0) rfl rfl ?_
  refine WPL.nil ?_
  refine WP.rs ?_
  refine WPL.mv (v := .pointer _) rfl rfl ?_
  refine WPL.nc rfl rfl ?_
  refine WPL.fa rfl rfl ?_
  refine WPL.ldL rfl hO inferInstance rfl rfl rfl ?_
  refine WPL.as (v := .int .i64 _) rfl rfl ?_
  refine WPL.nil ?_
  refine WP.ret ?_
  refine ⟨rfl, ?_⟩
  refine RO.tmp (v := .int .i64 _) rfl ?_
  refine RO.nil ?_
  exact ⟨rfl, rfl⟩

theorem bins_New {w0 : World} (n : Int) : Spec Tryd.prog 5 [.int .i64 n] w0 (fun v w' => ((n < 1 ∨ 8 < n) ∧ v = .pointer none ∧ w0 = w') ∨ ((1 ≤ n ∧ n ≤ 8) ∧ ∃ b, v = .pointer (some ⟨b, 0, none⟩) ∧ FrX [] w0 w' ∧ FreshB w0 w' b (bnC ⟨n.toNat, 0, false, 0, List.replicate 8 0⟩) 57)) := by
  have hO : Own [] w0 [] [] [] w0 := Own.start (by intro e he; cases he) (by intro r hr'; cases hr')
  refine Spec.enter (n := 12) (rs := [.tmp 2]) Tryd.func5 rfl rfl rfl rfl ?_
  refine WP.rs ?_
  refine WPL.as (v := .pointer none) rfl rfl ?_
  refine WPL.nil ?_
  refine WP.seq ?_
  refine WP.rs ?_
  refine WPL.mv (v := .int .i64 _) rfl rfl ?_
  refine WPL.lt rfl rfl rfl ?_
  refine WPL.mv (v := .bool _) rfl rfl ?_
  refine WPL.split (s := 5) rfl (fun h1 => ?_) (fun h1 => ?_)
  · have ph1 := of_decide_eq_true h1
    refine WPL.guardF rfl rfl rfl h1 ?_
    refine WPL.guardF rfl rfl rfl h1 ?_
    refine WPL.pkT (v := .bool true) rfl h1 rfl rfl ?_
    refine WPL.nil ?_
    refine WP.cT rfl rfl ?_
    refine WP.rs ?_
    refine WPL.as (v := .pointer none) rfl rfl ?_
    refine WPL.nil ?_
    refine WP.ret ?_
    refine ⟨rfl, ?_⟩
    refine RO.tmp (v := .pointer _) rfl ?_
    refine RO.nil ?_
    first
    | exact .inl ⟨by omega, rfl, rfl⟩
    | (refine .inr ⟨by omega, b1, rfl, hO.fr, ?_⟩
       have e : bnC ⟨n.toNat, 0, false, 0, List.replicate 8 0⟩ = [.int .i64 n, .int .i64 0, .bool false, .int .i64 0, .int .u64 0, .int .i64 0, .int .u64 0, .int .i64 0, .int .u64 0, .int .i64 0, .int .u64 0, .int .i64 0, .int .u64 0, .int .i64 0, .int .u64 0, .int .i64 0, .int .u64 0, .int .i64 0, .int .u64 0, .int .i64 0] := by
         show (Value.int .i64 (n.toNat : Int)) :: _ = _
         rw [show (n.toNat : Int) = n by omega]; rfl
       rw [e]; exact hO.giveB inferInstance)
  · have ph1 := of_decide_eq_false h1
    refine WPL.guardT rfl rfl h1 ?_
    refine WPL.mv (v := .int .i64 _) rfl rfl ?_
    refine WPL.guardT rfl rfl h1 ?_
    refine WPL.gt rfl rfl rfl ?_
    refine WPL.pkF (v := .bool _) rfl h1 rfl rfl ?_
    refine WPL.nil ?_
    refine WP.condP rfl (fun h2 => ?_) (fun h2 => ?_)
    · refine WP.rs ?_
      refine WPL.as (v := .pointer none) rfl rfl ?_
      refine WPL.nil ?_
      refine WP.ret ?_
      refine ⟨rfl, ?_⟩
      refine RO.tmp (v := .pointer _) rfl ?_
      refine RO.nil ?_
      first
      | exact .inl ⟨by omega, rfl, rfl⟩
      | (refine .inr ⟨by omega, b1, rfl, hO.fr, ?_⟩
         have e : bnC ⟨n.toNat, 0, false, 0, List.replicate 8 0⟩ = [.int .i64 n, .int .i64 0, .bool false, .int .i64 0, .int .u64 0, .int .i64 0, .int .u64 0, .int .i64 0, .int .u64 0, .int .i64 0, .int .u64 0, .int .i64 0, .int .u64 0, .int .i64 0, .int .u64 0, .int .i64 0, .int .u64 0, .int .i64 0, .int .u64 0, .int .i64 0] := by
           show (Value.int .i64 (n.toNat : Int)) :: _ = _
           rw [show (n.toNat : Int) = n by omega]; rfl
         rw [e]; exact hO.giveB inferInstance)
    · refine WP.skip ?_
      refine WP.rs ?_
      refine WPL.mv (v := .int .i64 _) rfl rfl ?_
      refine WPL.bd (pv := [(0, .int .i64 n)]) (vs := [.int .i64 n, .int .i64 0, .bool false, .int .i64 0, .int .u64 0, .int .i64 0, .int .u64 0, .int .i64 0, .int .u64 0, .int .i64 0, .int .u64 0, .int .i64 0, .int .u64 0, .int .i64 0, .int .u64 0, .int .i64 0, .int .u64 0, .int .i64 0, .int .u64 0, .int .i64 0]) rfl (bd_of pl57 rfl rfl) rfl ?_
      refine WPL.bx (v := _) rfl rfl hO rfl (fun b1 w hO => ?_)
      refine WPL.as (v := .pointer _) rfl rfl ?_
      refine WPL.nil ?_
      refine WP.ret ?_
      refine ⟨rfl, ?_⟩
      refine RO.tmp (v := .pointer _) rfl ?_
      refine RO.nil ?_
      first
      | exact .inl ⟨by omega, rfl, rfl⟩
      | (refine .inr ⟨by omega, b1, rfl, hO.fr, ?_⟩
         have e : bnC ⟨n.toNat, 0, false, 0, List.replicate 8 0⟩ = [.int .i64 n, .int .i64 0, .bool false, .int .i64 0, .int .u64 0, .int .i64 0, .int .u64 0, .int .i64 0, .int .u64 0, .int .i64 0, .int .u64 0, .int .i64 0, .int .u64 0, .int .i64 0, .int .u64 0, .int .i64 0, .int .u64 0, .int .i64 0, .int .u64 0, .int .i64 0] := by
           show (Value.int .i64 (n.toNat : Int)) :: _ = _
           rw [show (n.toNat : Int) = n by omega]; rfl
         rw [e]; exact hO.giveB inferInstance)
end Go.Sw
