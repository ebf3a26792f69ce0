/- A part of the proof that BinsAlike answers true: steps of the walk, or plain laws that it needs. No conditions of its own. -/
import Derived.Test.YtdaphmoojpbddaaDoorSVR2
import Derived.Test.YtdaphmoojpbddaaDoorSB4
set_option linter.all false
namespace Go.Sw
set_option autoImplicit false
set_option linter.all false
open Go.Proofs Go.RowKit
instance T81 : Ty Tryd.prog 81 (.slice 54) [.slice none 0 0] 24 := Ty.mk' Tryd.underlying81 (by kernel_rfl)
theorem ext_Sub64 : Ext Tryd.prog 41 sub64E := ⟨⟨_, Tryd.func41, rfl, rfl, by kernel_rfl, by kernel_rfl⟩⟩
theorem bins_Kept {w0 : World} (ht : TabOk tabs w0) (b : Nat) (htb : b ≠ 1) (B : Bn) (hb : w0.heap[b]? = some (.cells (bnC B).toArray 57 (0, 0))) (q : Int) (hq : 0 ≤ q ∧ q ≤ 10000000000000000000000) (hk : B.Ok q 100) : Spec Tryd.prog 18 [.pointer (some ⟨b, 0, none⟩)] w0 (fun v w' => FrX [] w0 w' ∧ DyRes w0 w' 60 B.kept v) := by
  have hO : Own tabs w0 [b] [⟨b, bnC B, 57⟩] [] w0 := Own.startM (L := [⟨b, bnC B, 57⟩]) ht (by intro e he; obtain rfl := List.mem_singleton.1 he; exact hb) (by simp [keys]) (by intro e he; obtain rfl := List.mem_singleton.1 he; simpa [keys] using fun h => htb h.symm) (by intro r hr; cases hr)
  have hfold := hk.fold
  refine Spec.enter (n := 80) (rs := [.cell 2 34]) Tryd.func18 rfl rfl rfl rfl ?_
  refine WP.rs ?_
  refine WPL.al hO rfl (fun b1 w hO => ?_)
  refine WPL.nil ?_
  refine WP.rs ?_
  refine WPL.al hO rfl (fun b2 w hO => ?_)
  refine WPL.nil ?_
  refine WP.seq ?_
  refine WP.seq ?_
  refine WP.draw [(0, 0), (1, 0), (2, 0), (3, 0), (4, 0), (5, 0), (6, 1), (7, 0), (8, 0), (9, 0)] [] mixed (by kernel_rfl) (by kernel_rfl) rfl hO (fun w hO => ?_)
  refine WPD.pv rfl rfl (fun w k' h => WPL.mv (v := .pointer _) rfl rfl (WPL.nil h)) ?_
  refine WPD.pv rfl rfl (fun w k' h => WPL.nc rfl rfl (WPL.nil h)) ?_
  refine WPD.pv rfl rfl (fun w k' h => WPL.fa rfl rfl (WPL.nil h)) ?_
  refine WPD.pv rfl rfl (fun w k' h => WPL.mv (v := .pointer _) rfl rfl (WPL.nil h)) ?_
  refine WPD.pv rfl rfl (fun w k' h => WPL.nc rfl rfl (WPL.nil h)) ?_
  refine WPD.pv rfl rfl (fun w k' h => WPL.fa rfl rfl (WPL.nil h)) ?_
  refine WPD.val rfl rfl (fun w hO k' h => WPL.ldL rfl hO inferInstance rfl rfl rfl (WPL.nil h)) ?_
  refine WPD.pv rfl rfl (fun w k' h => WPL.slArr rfl rfl rfl (by omega) rfl (WPL.nil h)) ?_
  refine WPD.pv rfl rfl (fun w k' h => WPL.len rfl rfl (WPL.nil h)) ?_
  refine WPD.pv rfl rfl (fun w k' h => WPL.mv (v := .int .i64 0) rfl rfl (WPL.nil h)) ?_
  refine WPD.nil hO ?_
  refine WP.block ?_
  refine WP.loop (fun m σ ds w' => ∃ i a3 c3 G, m + i = B.fold ∧ Grown a3 c3 1 (ws .u32 (dig (B.keptN i).m)) 60 G ∧ (dig (B.keptN i).m).length ≤ c3 ∧ Has σ [(0, .pointer (some ⟨b, 0, none⟩)), (2, .pointer (some ⟨b1, 0, none⟩)), (3, .pointer (some ⟨b2, 0, none⟩)), (19, .slice (some ⟨b, 0 + 4, none⟩) B.fold 8), (20, .int .i64 (B.fold : Int)), (21, .int .i64 (i : Int))] ∧ ds = [] ∧ Own tabs w0 [b] (G ++ [⟨b2, [.bool (B.keptN i).s, .slice a3 (dig (B.keptN i).m).length c3, .int .i64 (B.keptN i).e], 34⟩, ⟨b1, [.bool false, .slice none 0 0, .int .i64 0], 34⟩, ⟨b, bnC B, 57⟩]) [] w') B.fold ?_ ?_
  · exact ⟨0, none, 0, [], rfl, .inl ⟨rfl, rfl, by simp [Bn.keptN, dig_zero, ws], rfl⟩, by simp [Bn.keptN, dig_zero], ⟨rfl, rfl, rfl, rfl, rfl, rfl, trivial⟩, rfl, by simp only [Bn.keptN, dig_zero]; exact hO⟩
  · rintro m σ ds w ⟨i, a3, c3, G, hi, hG, hc3, hH, rfl, hO⟩
    refine WP.reset hH ?_
    have hki := hk.le.get hq.1 i
    have hkl := hk.len
    have hkt := hk.top
    refine WP.rs ?_
    refine WPL.lt rfl rfl rfl ?_
    refine WPL.nil ?_
    refine WP.seq ?_
    refine WP.condP rfl (fun h1 => ?_) (fun h1 => ?_)
    · refine WP.skip ?_
      refine WP.seq ?_
      refine WP.block ?_
      refine WP.rs ?_
      refine WPL.mv (v := .int .i64 _) rfl rfl ?_
      refine WPL.ixL (j := i) rfl rfl rfl (by omega) rfl ?_
      refine WPL.ldLA (T := T54) [.int .u64 (loK (B.ks.getD i 0) : Int), .int .i64 (hiK (B.ks.getD i 0))] rfl hO inferInstance (bn_take (by omega)) agg54 rfl rfl ?_
      refine WPL.al hO rfl (fun b3 w hO => ?_)
      refine WPL.as (v := .int .i64 _) rfl rfl ?_
      refine WPL.stLA (T := T54) rfl rfl hO inferInstance inferInstance (by simp [Value.oneCell']) rfl rfl (fun w hO => ?_)
      refine WPL.nil ?_
      refine WP.rs ?_
      refine WPL.fa rfl rfl ?_
      refine WPL.ldL rfl hO inferInstance rfl rfl rfl ?_
      refine WPL.lt rfl rfl rfl ?_
      refine WPL.as (v := .bool _) rfl rfl ?_
      refine WPL.nil ?_
      refine WP.seq ?_
      refine WP.rs ?_
      refine WPL.mv (v := .bool _) rfl rfl ?_
      refine WPL.nil ?_
      refine WP.condP rfl (fun h2 => ?_) (fun h2 => ?_)
      · refine WP.rs ?_
        refine WPL.fa rfl rfl ?_
        refine WPL.ldL rfl hO inferInstance rfl rfl rfl ?_
        refine WPL.sub64 (a := 0) (c := 0) ext_Sub64 rfl rfl rfl (by omega) rfl ?_
        refine WPL.mv (v := .tuple #[.int .u64 _, .int .u64 _]) rfl rfl ?_
        refine WPL.ext (v := .int .u64 _) rfl rfl rfl ?_
        refine WPL.ext (v := .int .u64 _) rfl rfl rfl ?_
        refine WPL.as (v := .int .u64 _) rfl rfl ?_
        refine WPL.as (v := .int .u64 _) rfl rfl ?_
        refine WPL.nil ?_
        refine WP.region ?_
        rw [lo_neg (Nat.zero_le _)]
        refine WPL.mv (v := .int .u64 _) rfl rfl ?_
        refine WPL.fa rfl rfl ?_
        refine WPL.ldL rfl hO inferInstance rfl rfl rfl ?_
        refine WPL.negI rfl (by unfold hiK; omega) rfl ?_
        refine WPL.mv (v := .int .u64 _) rfl rfl ?_
        refine WPL.cv_i64 rfl (by split <;> decide) rfl ?_
        refine WPL.subTo (hiK (-(B.ks.getD i 0))) rfl rfl hi_neg (by unfold hiK; omega) rfl ?_
        refine WPL.bd (pv := [(0, .int .u64 _), (1, .int .i64 _)]) (vs := [_, _]) rfl (bd_of pl54 rfl rfl) rfl ?_
        refine WPL.stLA (T := T54) rfl rfl hO inferInstance inferInstance (by simp [Value.oneCell']) rfl rfl (fun w hO => ?_)
        refine WPL.nil ?_
        refine WP.rs ?_
        refine WPL.fa rfl rfl ?_
        refine WPL.ldL rfl hO inferInstance rfl rfl rfl ?_
        refine WPL.cm_u32 rfl rfl ?_
        refine WPL.fa rfl rfl ?_
        refine WPL.ldL rfl hO inferInstance rfl rfl rfl ?_
        refine WPL.shrc_u64 (p := 4294967296) rfl rfl rfl (by unfold loK; omega) rfl ?_
        refine WPL.cm_u32 rfl rfl ?_
        refine WPL.fa rfl rfl ?_
        refine WPL.ldL rfl hO inferInstance rfl rfl rfl ?_
        refine WPL.cm_u32I rfl rfl ?_
        refine WPL.fa rfl rfl ?_
        refine WPL.ldL rfl hO inferInstance rfl rfl rfl ?_
        refine WPL.shrTo (r := hiK (-(B.ks.getD i 0)) / 4294967296) (s := 32) (p := 4294967296) rfl rfl (by decide) rfl rfl rfl ?_
        refine WPL.cm_u32I rfl rfl ?_
        refine WPL.bs1 (pv := [(0, .int .u32 _), (1, .int .u32 _), (2, .int .u32 _), (3, .int .u32 _)]) (vs := [_, _, _, _]) rfl hO rfl rfl rfl rfl (fun b4 w hO => ?_)
        refine WPL.as (v := .slice _ _ _) rfl rfl ?_
        refine WPL.nil ?_
        refine WP.rs ?_
        refine WPL.mv (v := .bool _) rfl rfl ?_
        refine WPL.mv (v := .slice _ _ _) rfl rfl ?_
        refine WPL.mv (v := .pointer _) rfl rfl ?_
        refine WPL.nc rfl rfl ?_
        refine WPL.fa rfl rfl ?_
        refine WPL.ldL rfl hO inferInstance rfl rfl rfl ?_
        refine WPL.mv (v := .int .i64 _) rfl rfl ?_
        refine WPL.subI rfl rfl (by omega) rfl ?_
        refine WPL.mulI rfl rfl (by omega) rfl ?_
        have hK0 : (B.ks.getD i 0) < 0 := hiK_lt.1 (by first | assumption | exact of_decide_eq_true (by assumption))
        have hvk : val (kw (-(B.ks.getD i 0))) = (B.ks.getD i 0).natAbs := by first | exact kw_val (by omega) (by omega) | (rw [kw_val (by omega) (by omega)]; omega)
        have hbk : blen (B.ks.getD i 0).natAbs ≤ 74 := blen_le.2 (by omega)
        have hneg : decide (hiK (B.ks.getD i 0) < 0) = decide ((B.ks.getD i 0) < 0) := decide_eq_decide.2 hiK_lt
        refine WPL.call rfl (dyad_Make hO.tab (decide (hiK (B.ks.getD i 0) < 0)) _ (kw (-(B.ks.getD i 0))) _ (hO.rdA (b := b4) inferInstance) (kw_wd _) (by simp [kw]) (by simp [kw]) (by simp [kw]) (32 * (B.top - (i : Int))) (by rw [hvk]; omega) (by omega)) Tryd.func42 rfl rfl rfl ?_
        rintro _ w ⟨hf69, a69, c69, rfl, hc69, hr69⟩
        rw [hvk, hneg] at hc69 hr69
        rw [hvk, hneg]
        obtain ⟨G69, hG69, hO⟩ := hO.resL hf69 hr69
        unfold dyV
        refine WPL.mv (v := .tuple #[.agg #[.bool _, .slice _ _ _, .int .i64 _], .int .i64 _]) rfl rfl ?_
        refine WPL.ext (v := .agg #[.bool _, .slice _ _ _, .int .i64 _]) rfl rfl rfl ?_
        refine WPL.ext (v := .int .i64 _) rfl rfl rfl ?_
        refine WPL.al hO rfl (fun b5 w hO => ?_)
        refine WPL.stLA (T := T34) rfl rfl hO inferInstance inferInstance (by simp [Value.oneCell']) rfl rfl (fun w hO => ?_)
        refine WPL.as (v := .int .i64 _) rfl rfl ?_
        refine WPL.nil ?_
        refine WP.region ?_
        refine WPL.ldLA (T := T34) [.bool _, .slice _ _ _, .int .i64 _] rfl hO inferInstance rfl agg34 rfl rfl ?_
        refine WPL.ldLA (T := T34) [.bool _, .slice _ _ _, .int .i64 _] rfl hO inferInstance rfl agg34 rfl rfl ?_
        refine WPL.call rfl (dyad_Add hO.tab (B.keptN i) a3 c3 (hO.rdG hG) hc3 (B.keptN_can i) ((B.keptN_B hq hk (by omega)).mono (by decide)) (B.partD i) a69 c69 (hO.rdG hG69) hc69 (Dy.fm_can ..) ((B.partD_B hq hk (by omega)).mono (by decide))) Tryd.func43 rfl rfl rfl ?_
        rintro _ w ⟨hf75, a75, c75, rfl, hc75, hr75⟩
        obtain ⟨G75, hG75, hO⟩ := hO.resL hf75 hr75
        unfold dyV
        refine WPL.mv (v := .tuple #[.agg #[.bool _, .slice _ _ _, .int .i64 _], .int .i64 _]) rfl rfl ?_
        refine WPL.ext (v := .agg #[.bool _, .slice _ _ _, .int .i64 _]) rfl rfl rfl ?_
        refine WPL.ext (v := .int .i64 _) rfl rfl rfl ?_
        refine WPL.stLA (T := T34) rfl rfl hO inferInstance inferInstance (by simp [Value.oneCell']) rfl rfl (fun w hO => ?_)
        refine WPL.nil ?_
        refine WP.region ?_
        refine WPL.addI rfl rfl (by omega) rfl ?_
        refine WPL.mv (v := .int .i64 _) rfl rfl ?_
        refine WPL.nil ?_
        simp only [putAt, List.set] at hO
        have ek : (B.keptN i).add (B.partD i) = B.keptN (i + 1) := rfl
        rw [ek] at hO hG75 hc75
        exact ⟨m - 1, by omega, i + 1, a75, c75, G75, by omega, hG75, hc75, ⟨rfl, rfl, rfl, rfl, rfl, rfl, trivial⟩, rfl, hO.subL⟩
      · refine WP.skip ?_
        refine WP.rs ?_
        refine WPL.fa rfl rfl ?_
        refine WPL.ldL rfl hO inferInstance rfl rfl rfl ?_
        refine WPL.cm_u32 rfl rfl ?_
        refine WPL.fa rfl rfl ?_
        refine WPL.ldL rfl hO inferInstance rfl rfl rfl ?_
        refine WPL.shrc_u64 (p := 4294967296) rfl rfl rfl (by unfold loK; omega) rfl ?_
        refine WPL.cm_u32 rfl rfl ?_
        refine WPL.fa rfl rfl ?_
        refine WPL.ldL rfl hO inferInstance rfl rfl rfl ?_
        refine WPL.cm_u32I rfl rfl ?_
        refine WPL.fa rfl rfl ?_
        refine WPL.ldL rfl hO inferInstance rfl rfl rfl ?_
        refine WPL.shrTo (r := hiK (B.ks.getD i 0) / 4294967296) (s := 32) (p := 4294967296) rfl rfl (by decide) rfl rfl rfl ?_
        refine WPL.cm_u32I rfl rfl ?_
        refine WPL.bs1 (pv := [(0, .int .u32 _), (1, .int .u32 _), (2, .int .u32 _), (3, .int .u32 _)]) (vs := [_, _, _, _]) rfl hO rfl rfl rfl rfl (fun b6 w hO => ?_)
        refine WPL.as (v := .slice _ _ _) rfl rfl ?_
        refine WPL.nil ?_
        refine WP.rs ?_
        refine WPL.mv (v := .bool _) rfl rfl ?_
        refine WPL.mv (v := .slice _ _ _) rfl rfl ?_
        refine WPL.mv (v := .pointer _) rfl rfl ?_
        refine WPL.nc rfl rfl ?_
        refine WPL.fa rfl rfl ?_
        refine WPL.ldL rfl hO inferInstance rfl rfl rfl ?_
        refine WPL.mv (v := .int .i64 _) rfl rfl ?_
        refine WPL.subI rfl rfl (by omega) rfl ?_
        refine WPL.mulI rfl rfl (by omega) rfl ?_
        have hK0 : ¬ (B.ks.getD i 0) < 0 := fun h => absurd (hiK_lt.2 h) (by first | assumption | exact of_decide_eq_false (by assumption))
        have hvk : val (kw (B.ks.getD i 0)) = (B.ks.getD i 0).natAbs := by first | exact kw_val (by omega) (by omega) | (rw [kw_val (by omega) (by omega)]; omega)
        have hbk : blen (B.ks.getD i 0).natAbs ≤ 74 := blen_le.2 (by omega)
        have hneg : decide (hiK (B.ks.getD i 0) < 0) = decide ((B.ks.getD i 0) < 0) := decide_eq_decide.2 hiK_lt
        refine WPL.call rfl (dyad_Make hO.tab (decide (hiK (B.ks.getD i 0) < 0)) _ (kw (B.ks.getD i 0)) _ (hO.rdA (b := b6) inferInstance) (kw_wd _) (by simp [kw]) (by simp [kw]) (by simp [kw]) (32 * (B.top - (i : Int))) (by rw [hvk]; omega) (by omega)) Tryd.func42 rfl rfl rfl ?_
        rintro _ w ⟨hf69, a69, c69, rfl, hc69, hr69⟩
        rw [hvk, hneg] at hc69 hr69
        rw [hvk, hneg]
        obtain ⟨G69, hG69, hO⟩ := hO.resL hf69 hr69
        unfold dyV
        refine WPL.mv (v := .tuple #[.agg #[.bool _, .slice _ _ _, .int .i64 _], .int .i64 _]) rfl rfl ?_
        refine WPL.ext (v := .agg #[.bool _, .slice _ _ _, .int .i64 _]) rfl rfl rfl ?_
        refine WPL.ext (v := .int .i64 _) rfl rfl rfl ?_
        refine WPL.al hO rfl (fun b7 w hO => ?_)
        refine WPL.stLA (T := T34) rfl rfl hO inferInstance inferInstance (by simp [Value.oneCell']) rfl rfl (fun w hO => ?_)
        refine WPL.as (v := .int .i64 _) rfl rfl ?_
        refine WPL.nil ?_
        refine WP.region ?_
        refine WPL.ldLA (T := T34) [.bool _, .slice _ _ _, .int .i64 _] rfl hO inferInstance rfl agg34 rfl rfl ?_
        refine WPL.ldLA (T := T34) [.bool _, .slice _ _ _, .int .i64 _] rfl hO inferInstance rfl agg34 rfl rfl ?_
        refine WPL.call rfl (dyad_Add hO.tab (B.keptN i) a3 c3 (hO.rdG hG) hc3 (B.keptN_can i) ((B.keptN_B hq hk (by omega)).mono (by decide)) (B.partD i) a69 c69 (hO.rdG hG69) hc69 (Dy.fm_can ..) ((B.partD_B hq hk (by omega)).mono (by decide))) Tryd.func43 rfl rfl rfl ?_
        rintro _ w ⟨hf75, a75, c75, rfl, hc75, hr75⟩
        obtain ⟨G75, hG75, hO⟩ := hO.resL hf75 hr75
        unfold dyV
        refine WPL.mv (v := .tuple #[.agg #[.bool _, .slice _ _ _, .int .i64 _], .int .i64 _]) rfl rfl ?_
        refine WPL.ext (v := .agg #[.bool _, .slice _ _ _, .int .i64 _]) rfl rfl rfl ?_
        refine WPL.ext (v := .int .i64 _) rfl rfl rfl ?_
        refine WPL.stLA (T := T34) rfl rfl hO inferInstance inferInstance (by simp [Value.oneCell']) rfl rfl (fun w hO => ?_)
        refine WPL.nil ?_
        refine WP.region ?_
        refine WPL.addI rfl rfl (by omega) rfl ?_
        refine WPL.mv (v := .int .i64 _) rfl rfl ?_
        refine WPL.nil ?_
        simp only [putAt, List.set] at hO
        have ek : (B.keptN i).add (B.partD i) = B.keptN (i + 1) := rfl
        rw [ek] at hO hG75 hc75
        exact ⟨m - 1, by omega, i + 1, a75, c75, G75, by omega, hG75, hc75, ⟨rfl, rfl, rfl, rfl, rfl, rfl, trivial⟩, rfl, hO.subL⟩
    · refine WP.exit ?_
      refine WP.rs ?_
      refine WPL.ldLA (T := T34) [.bool _, .slice _ _ _, .int .i64 _] rfl hO inferInstance rfl agg34 rfl rfl ?_
      refine WPL.stLA (T := T34) rfl rfl hO inferInstance inferInstance (by simp [Value.oneCell']) rfl rfl (fun w hO => ?_)
      refine WPL.nil ?_
      refine WP.ret ?_
      refine ⟨rfl, ?_⟩
      refine RO.cell (T := T34) [.bool _, .slice _ _ _, .int .i64 _] rfl hO inferInstance rfl agg34 rfl ?_
      refine RO.nil ?_
      obtain rfl : i = B.fold := by omega
      simp only [putAt, List.set] at hO
      have hO : Own tabs w0 [b] ((G ++ [⟨b2, [.bool (B.keptN B.fold).s, .slice a3 (dig (B.keptN B.fold).m).length c3, .int .i64 (B.keptN B.fold).e], 34⟩, ⟨b1, [.bool (B.keptN B.fold).s, .slice a3 (dig (B.keptN B.fold).m).length c3, .int .i64 (B.keptN B.fold).e], 34⟩]) ++ [⟨b, bnC B, 57⟩]) [] w := by
        rw [List.append_assoc]; exact hO
      have hO2 := hO.still hb
      exact ⟨hO2.fr, a3, c3, rfl, hc3, hO2.giveG hG⟩

theorem bins_Round {w0 : World} (ht : TabOk tabs w0) (b : Nat) (htb : b ≠ 1) (B : Bn) (hb : w0.heap[b]? = some (.cells (bnC B).toArray 57 (0, 0))) (q : Int) (hq : 0 ≤ q ∧ q ≤ 10000000000000000000000) (hk : B.Ok q 100) (mode : Int) : Spec Tryd.prog 19 [.pointer (some ⟨b, 0, none⟩), .int .i64 mode] w0 (fun v w' => FrX [] w0 w' ∧ v = .tuple #[.float .f64 (rnd64 mode B.kept), .int .i64 (rndE mode)]) := by
  have hO : Own tabs w0 [b] [⟨b, bnC B, 57⟩] [] w0 := Own.startM (L := [⟨b, bnC B, 57⟩]) ht (by intro e he; obtain rfl := List.mem_singleton.1 he; exact hb) (by simp [keys]) (by intro e he; obtain rfl := List.mem_singleton.1 he; simpa [keys] using fun h => htb h.symm) (by intro r hr; cases hr)
  refine Spec.enter (n := 12) (rs := [.tmp 4, .tmp 5]) Tryd.func19 rfl rfl rfl rfl ?_
  refine WP.rs ?_
  refine WPL.as (v := .float .f64 0) rfl rfl ?_
  refine WPL.as (v := .int .i64 0) rfl rfl ?_
  refine WPL.nil ?_
  refine WP.rs ?_
  refine WPL.mv (v := .pointer _) rfl rfl ?_
  refine WPL.call rfl (bins_Kept hO.tab b htb B (hO.cells ⟨b, bnC B, 57⟩ (List.mem_cons_self ..)) q hq hk) Tryd.func18 rfl rfl rfl ?_
  rintro _ w ⟨hf7, a7, c7, rfl, hc7, hr7⟩
  have hO := hO.res hf7 hr7
  have hkc := B.keptN_can B.fold
  have hkB := (B.keptN_B hq hk hk.fold).mono (K' := 80000) (by decide)
  refine WPL.mv (v := .int .i64 _) rfl rfl ?_
  refine WPL.call rfl (dyad_Round hO.tab B.kept a7 c7 hO.rd hc7 hkc hkB mode) Tryd.func44 rfl rfl rfl ?_
  rintro _ w ⟨hf9, rfl⟩
  have hO := hO.call hf9
  rw [rnd_eq]
  refine WPL.ext (v := .float .f64 _) rfl rfl rfl ?_
  refine WPL.ext (v := .int .i64 _) rfl rfl rfl ?_
  refine WPL.as (v := .float .f64 _) rfl rfl ?_
  refine WPL.as (v := .int .i64 _) rfl rfl ?_
  refine WPL.nil ?_
  refine WP.ret ?_
  refine ⟨rfl, ?_⟩
  refine RO.tmp (v := .float .f64 _) rfl ?_
  refine RO.tmp (v := .int .i64 _) rfl ?_
  refine RO.nil ?_
  have hO : Own tabs w0 [b] ([] ++ [⟨b, bnC B, 57⟩]) _ w := hO
  have hO2 := hO.still hb
  exact ⟨hO2.fr, rfl⟩

theorem bins_Bound {w0 : World} (ht : TabOk tabs w0) (b : Nat) (htb : b ≠ 1) (B : Bn) (hb : w0.heap[b]? = some (.cells (bnC B).toArray 57 (0, 0))) (q : Int) (hq : 0 ≤ q ∧ q ≤ 10000000000000000000000) (hk : B.Ok q 100) (hcnt : B.count ≤ 1099511627776) : Spec Tryd.prog 20 [.pointer (some ⟨b, 0, none⟩)] w0 (fun v w' => FrX [] w0 w' ∧ v = .float .f64 (if B.any = true then round64 2 (Dy.fm false B.count (32 * (B.top - B.fold + 1))) else 0)) := by
  have hO : Own tabs w0 [b] [⟨b, bnC B, 57⟩] [] w0 := Own.startM (L := [⟨b, bnC B, 57⟩]) ht (by intro e he; obtain rfl := List.mem_singleton.1 he; exact hb) (by simp [keys]) (by intro e he; obtain rfl := List.mem_singleton.1 he; simpa [keys] using fun h => htb h.symm) (by intro r hr; cases hr)
  have hfold := hk.fold
  have htop := hk.top
  have hbc : blen B.count ≤ 41 := blen_le.2 (by omega)
  refine Spec.enter (n := 40) (rs := [.tmp 2]) Tryd.func20 rfl rfl rfl rfl ?_
  refine WP.rs ?_
  refine WPL.as (v := .float .f64 0) rfl rfl ?_
  refine WPL.nil ?_
  refine WP.seq ?_
  refine WP.rs ?_
  refine WPL.mv (v := .pointer _) rfl rfl ?_
  refine WPL.nc rfl rfl ?_
  refine WPL.fa rfl rfl ?_
  refine WPL.ldL rfl hO inferInstance rfl rfl rfl ?_
  refine WPL.not rfl rfl ?_
  refine WPL.nil ?_
  refine WP.condB rfl (fun h1 => ?_) (fun h1 => ?_)
  · refine WP.rs ?_
    refine WPL.as (v := .float .f64 0) rfl rfl ?_
    refine WPL.nil ?_
    refine WP.ret ?_
    refine ⟨rfl, ?_⟩
    refine RO.tmp (v := .float .f64 _) rfl ?_
    refine RO.nil ?_
    have hO2 := Own.still (L := []) (hO.subL (L' := [⟨b, bnC B, 57⟩])) hb
    first
    | (have ha : B.any = false := by simpa using h1
       exact ⟨hO2.fr, by rw [ha]; rfl⟩)
    | (have ha : B.any = true := by simpa using h1
       exact ⟨hO2.fr, by rw [ha]; rfl⟩)
  · refine WP.skip ?_
    refine WP.seq ?_
    refine WP.drawE 25 [23] mixed (by kernel_rfl) rfl hO (fun w hO => ?_)
    refine WPE.pv (i := 0) (by kernel_rfl) rfl rfl (fun w k' h => WPL.mv (v := .pointer _) rfl rfl (WPL.nil h)) ?_
    refine WPE.pv (i := 1) (by kernel_rfl) rfl rfl (fun w k' h => WPL.nc rfl rfl (WPL.nil h)) ?_
    refine WPE.pv (i := 2) (by kernel_rfl) rfl rfl (fun w k' h => WPL.fa rfl rfl (WPL.nil h)) ?_
    refine WPE.val (i := 3) (by kernel_rfl) rfl rfl (fun w hO k' h => WPL.ldL rfl hO inferInstance rfl rfl rfl (WPL.nil h)) ?_
    refine WPE.pv (i := 6) (by kernel_rfl) rfl rfl (fun w k' h => WPL.mv (v := .pointer _) rfl rfl (WPL.nil h)) ?_
    refine WPE.pv (i := 7) (by kernel_rfl) rfl rfl (fun w k' h => WPL.nc rfl rfl (WPL.nil h)) ?_
    refine WPE.pv (i := 8) (by kernel_rfl) rfl rfl (fun w k' h => WPL.fa rfl rfl (WPL.nil h)) ?_
    refine WPE.val (i := 9) (by kernel_rfl) rfl rfl (fun w hO k' h => WPL.ldL rfl hO inferInstance rfl rfl rfl (WPL.nil h)) ?_
    refine WPE.pv (i := 10) (by kernel_rfl) rfl rfl (fun w k' h => WPL.mv (v := .pointer _) rfl rfl (WPL.nil h)) ?_
    refine WPE.pv (i := 11) (by kernel_rfl) rfl rfl (fun w k' h => WPL.nc rfl rfl (WPL.nil h)) ?_
    refine WPE.pv (i := 12) (by kernel_rfl) rfl rfl (fun w k' h => WPL.fa rfl rfl (WPL.nil h)) ?_
    refine WPE.val (i := 13) (by kernel_rfl) rfl rfl (fun w hO k' h => WPL.ldL rfl hO inferInstance rfl rfl rfl (WPL.nil h)) ?_
    refine WPE.pv (i := 14) (by kernel_rfl) rfl rfl (fun w k' h => WPL.subI rfl rfl (by omega) rfl (WPL.nil h)) ?_
    refine WPE.pv (i := 15) (by kernel_rfl) rfl rfl (fun w k' h => WPL.addI rfl rfl (by omega) rfl (WPL.nil h)) ?_
    refine WPE.pv (i := 16) (by kernel_rfl) rfl rfl (fun w k' h => WPL.mulI rfl rfl (by omega) rfl (WPL.nil h)) ?_
    refine WPE.fork3 (i := 4) (j := 5) (l := 22) (by kernel_rfl) rfl rfl rfl (.inr hO) ?_ ?_ ?_
    · refine WPL.call rfl (dyad_Int hO.tab B.count (by omega)) Tryd.func46 rfl rfl rfl ?_
      rintro _ w ⟨hf17, a17, c17, rfl, hc17, hr17⟩
      have hO := hO.res hf17 hr17
      unfold dyV
      refine WPL.nil ?_
      refine WPE.fork2 (i := 5) (j := 22) (by kernel_rfl) rfl rfl (.inr (Own.dropR hO)) ?_ ?_
      · refine WPL.bs1 (pv := [(0, .int .u32 ((1 : Nat) : Int))]) (vs := [_]) rfl hO rfl rfl rfl rfl (fun b1 w hO => ?_)
        refine WPL.nil ?_
        refine WPE.pv (i := 17) (by kernel_rfl) rfl rfl (fun w k' h => WPL.bd (pv := [(1, .slice _ _ _), (2, .int .i64 _)]) (vs := [_, _, _]) rfl (bd_of pl34 rfl rfl) rfl (WPL.nil h)) ?_
        refine WPE.fork2 (i := 18) (j := 22) (by kernel_rfl) rfl rfl (.inr (Own.dropR (Own.drop1 hO))) ?_ ?_
        · have hB1 : (Dy.fm false B.count 0).B 80000 := (Dy.In.fm (lo := 0) (hi := 41) (by omega) (by omega)).B (Dy.fm_can ..) (by omega) (by omega) (by omega)
          refine WPL.call (by rw [show dyV ⟨false, 1, 32 * (B.top - B.fold + 1)⟩ (some ⟨b1, 0, none⟩) 1 = Value.agg #[.bool false, .slice (some ⟨b1, 0, none⟩) 1 1, .int .i64 (32 * (B.top - B.fold + 1))] by simp only [dyV, dig_one]; rfl]; rfl) (dyad_Mul hO.tab (Dy.fm false B.count 0) a17 c17 hO.rd hc17 (Dy.fm_can ..) hB1 ⟨false, 1, 32 * (B.top - B.fold + 1)⟩ (some ⟨b1, 0, none⟩) 1 (by simp only [dig_one]; exact hO.rdA (b := b1) inferInstance) (by simp [dig_one]) (Dy.can_iff.2 (.inr rfl)) (by unfold Dy.B; simp only [blen_one]; omega)) Tryd.func45 rfl rfl rfl ?_
          rintro _ w ⟨hf31, a31, c31, rfl, hc31, hr31⟩
          rw [Dy.mul_pow, Int.zero_add] at hc31 hr31
          rw [Dy.mul_pow, Int.zero_add]
          have hO := hO.res hf31 hr31
          unfold dyV
          refine WPL.nil ?_
          refine WPE.pv (i := 19) (by kernel_rfl) rfl rfl (fun w k' h => WPL.mv (v := .tuple #[.agg #[.bool _, .slice _ _ _, .int .i64 _], .int .i64 _]) rfl rfl (WPL.nil h)) ?_
          refine WPE.pv (i := 20) (by kernel_rfl) rfl rfl (fun w k' h => WPL.ext (v := .agg #[.bool _, .slice _ _ _, .int .i64 _]) rfl rfl rfl (WPL.nil h)) ?_
          refine WPE.pv (i := 21) (by kernel_rfl) rfl rfl (fun w k' h => WPL.ext (v := .int .i64 _) rfl rfl rfl (WPL.nil h)) ?_
          refine WPE.eff (i := 22) (by kernel_rfl) rfl (Own.dropR (Own.drop1 (Own.dropR hO))) ?_
          refine WPL.al hO rfl (fun b2 w hO => ?_)
          refine WPL.nil ?_
          refine WPE.eff (i := 23) (by kernel_rfl) rfl (Own.dropR (Own.drop1 (Own.dropR (Own.drop1 hO)))) ?_
          refine WPL.stLA (T := T34) rfl rfl hO inferInstance inferInstance (by simp [Value.oneCell']) rfl rfl (fun w hO => ?_)
          refine WPL.nil ?_
          refine WPE.pv (i := 24) (by kernel_rfl) rfl rfl (fun w k' h => WPL.as (v := .int .i64 _) rfl rfl (WPL.nil h)) ?_
          refine WPE.nilX (by kernel_rfl) (by kernel_rfl) ?_
          refine WP.rs ?_
          refine WPL.ldLA (T := T34) [.bool _, .slice _ _ _, .int .i64 _] rfl hO inferInstance rfl agg34 rfl rfl ?_
          refine WPL.call rfl (dyad_Round hO.tab (Dy.fm false B.count (32 * (B.top - B.fold + 1))) a31 c31 hO.rd hc31 (Dy.fm_can ..) ((Dy.In.fm (lo := -4000) (hi := 4000) (by omega) (by omega)).B (Dy.fm_can ..) (by omega) (by omega) (by omega)) 2) Tryd.func44 rfl rfl rfl ?_
          rintro _ w ⟨hf36, rfl⟩
          have hO := hO.call hf36
          rw [rnd_eq]
          refine WPL.mv (v := .tuple #[.float .f64 _, .int .i64 _]) rfl rfl ?_
          refine WPL.ext (v := .float .f64 _) rfl rfl rfl ?_
          refine WPL.ext (v := .int .i64 _) rfl rfl rfl ?_
          refine WPL.as (v := .float .f64 _) rfl rfl ?_
          refine WPL.as (v := .int .i64 _) rfl rfl ?_
          refine WPL.nil ?_
          refine WP.rs ?_
          refine WPL.mv (v := .float .f64 _) rfl rfl ?_
          refine WPL.as (v := .float .f64 _) rfl rfl ?_
          refine WPL.nil ?_
          refine WP.ret ?_
          refine ⟨rfl, ?_⟩
          refine RO.tmp (v := .float .f64 _) rfl ?_
          refine RO.nil ?_
          have hO2 := Own.still (L := []) (hO.subL (L' := [⟨b, bnC B, 57⟩])) hb
          first
          | (have ha : B.any = false := by simpa using h1
             exact ⟨hO2.fr, by rw [ha]; rfl⟩)
          | (have ha : B.any = true := by simpa using h1
             exact ⟨hO2.fr, by rw [ha]; rfl⟩)
        · refine WPL.al hO rfl (fun b3 w hO => ?_)
          refine WPL.nil ?_
          refine WPE.eff (i := 18) (by kernel_rfl) rfl (Own.dropR (Own.drop1 (Own.drop1 hO))) ?_
          have hB1 : (Dy.fm false B.count 0).B 80000 := (Dy.In.fm (lo := 0) (hi := 41) (by omega) (by omega)).B (Dy.fm_can ..) (by omega) (by omega) (by omega)
          refine WPL.call (by rw [show dyV ⟨false, 1, 32 * (B.top - B.fold + 1)⟩ (some ⟨b1, 0, none⟩) 1 = Value.agg #[.bool false, .slice (some ⟨b1, 0, none⟩) 1 1, .int .i64 (32 * (B.top - B.fold + 1))] by simp only [dyV, dig_one]; rfl]; rfl) (dyad_Mul hO.tab (Dy.fm false B.count 0) a17 c17 hO.rd hc17 (Dy.fm_can ..) hB1 ⟨false, 1, 32 * (B.top - B.fold + 1)⟩ (some ⟨b1, 0, none⟩) 1 (by simp only [dig_one]; exact hO.rdA (b := b1) inferInstance) (by simp [dig_one]) (Dy.can_iff.2 (.inr rfl)) (by unfold Dy.B; simp only [blen_one]; omega)) Tryd.func45 rfl rfl rfl ?_
          rintro _ w ⟨hf31, a31, c31, rfl, hc31, hr31⟩
          rw [Dy.mul_pow, Int.zero_add] at hc31 hr31
          rw [Dy.mul_pow, Int.zero_add]
          have hO := hO.res hf31 hr31
          unfold dyV
          refine WPL.nil ?_
          refine WPE.pv (i := 19) (by kernel_rfl) rfl rfl (fun w k' h => WPL.mv (v := .tuple #[.agg #[.bool _, .slice _ _ _, .int .i64 _], .int .i64 _]) rfl rfl (WPL.nil h)) ?_
          refine WPE.pv (i := 20) (by kernel_rfl) rfl rfl (fun w k' h => WPL.ext (v := .agg #[.bool _, .slice _ _ _, .int .i64 _]) rfl rfl rfl (WPL.nil h)) ?_
          refine WPE.pv (i := 21) (by kernel_rfl) rfl rfl (fun w k' h => WPL.ext (v := .int .i64 _) rfl rfl rfl (WPL.nil h)) ?_
          refine WPE.eff (i := 23) (by kernel_rfl) rfl (Own.dropR (Own.drop1 (Own.drop1 (Own.dropR hO)))) ?_
          refine WPL.stLA (T := T34) rfl rfl hO inferInstance inferInstance (by simp [Value.oneCell']) rfl rfl (fun w hO => ?_)
          refine WPL.nil ?_
          refine WPE.pv (i := 24) (by kernel_rfl) rfl rfl (fun w k' h => WPL.as (v := .int .i64 _) rfl rfl (WPL.nil h)) ?_
          refine WPE.nilX (by kernel_rfl) (by kernel_rfl) ?_
          refine WP.rs ?_
          refine WPL.ldLA (T := T34) [.bool _, .slice _ _ _, .int .i64 _] rfl hO inferInstance rfl agg34 rfl rfl ?_
          refine WPL.call rfl (dyad_Round hO.tab (Dy.fm false B.count (32 * (B.top - B.fold + 1))) a31 c31 hO.rd hc31 (Dy.fm_can ..) ((Dy.In.fm (lo := -4000) (hi := 4000) (by omega) (by omega)).B (Dy.fm_can ..) (by omega) (by omega) (by omega)) 2) Tryd.func44 rfl rfl rfl ?_
          rintro _ w ⟨hf36, rfl⟩
          have hO := hO.call hf36
          rw [rnd_eq]
          refine WPL.mv (v := .tuple #[.float .f64 _, .int .i64 _]) rfl rfl ?_
          refine WPL.ext (v := .float .f64 _) rfl rfl rfl ?_
          refine WPL.ext (v := .int .i64 _) rfl rfl rfl ?_
          refine WPL.as (v := .float .f64 _) rfl rfl ?_
          refine WPL.as (v := .int .i64 _) rfl rfl ?_
          refine WPL.nil ?_
          refine WP.rs ?_
          refine WPL.mv (v := .float .f64 _) rfl rfl ?_
          refine WPL.as (v := .float .f64 _) rfl rfl ?_
          refine WPL.nil ?_
          refine WP.ret ?_
          refine ⟨rfl, ?_⟩
          refine RO.tmp (v := .float .f64 _) rfl ?_
          refine RO.nil ?_
          have hO2 := Own.still (L := []) (hO.subL (L' := [⟨b, bnC B, 57⟩])) hb
          first
          | (have ha : B.any = false := by simpa using h1
             exact ⟨hO2.fr, by rw [ha]; rfl⟩)
          | (have ha : B.any = true := by simpa using h1
             exact ⟨hO2.fr, by rw [ha]; rfl⟩)
      · refine WPL.al hO rfl (fun b4 w hO => ?_)
        refine WPL.nil ?_
        refine WPE.eff (i := 5) (by kernel_rfl) rfl (Own.dropR (Own.drop1 hO)) ?_
        refine WPL.bs1 (pv := [(0, .int .u32 ((1 : Nat) : Int))]) (vs := [_]) rfl hO rfl rfl rfl rfl (fun b5 w hO => ?_)
        refine WPL.nil ?_
        refine WPE.pv (i := 17) (by kernel_rfl) rfl rfl (fun w k' h => WPL.bd (pv := [(1, .slice _ _ _), (2, .int .i64 _)]) (vs := [_, _, _]) rfl (bd_of pl34 rfl rfl) rfl (WPL.nil h)) ?_
        refine WPE.eff (i := 18) (by kernel_rfl) rfl (Own.dropR (Own.drop1 (Own.drop1 hO))) ?_
        have hB1 : (Dy.fm false B.count 0).B 80000 := (Dy.In.fm (lo := 0) (hi := 41) (by omega) (by omega)).B (Dy.fm_can ..) (by omega) (by omega) (by omega)
        refine WPL.call (by rw [show dyV ⟨false, 1, 32 * (B.top - B.fold + 1)⟩ (some ⟨b5, 0, none⟩) 1 = Value.agg #[.bool false, .slice (some ⟨b5, 0, none⟩) 1 1, .int .i64 (32 * (B.top - B.fold + 1))] by simp only [dyV, dig_one]; rfl]; rfl) (dyad_Mul hO.tab (Dy.fm false B.count 0) a17 c17 hO.rd hc17 (Dy.fm_can ..) hB1 ⟨false, 1, 32 * (B.top - B.fold + 1)⟩ (some ⟨b5, 0, none⟩) 1 (by simp only [dig_one]; exact hO.rdA (b := b5) inferInstance) (by simp [dig_one]) (Dy.can_iff.2 (.inr rfl)) (by unfold Dy.B; simp only [blen_one]; omega)) Tryd.func45 rfl rfl rfl ?_
        rintro _ w ⟨hf31, a31, c31, rfl, hc31, hr31⟩
        rw [Dy.mul_pow, Int.zero_add] at hc31 hr31
        rw [Dy.mul_pow, Int.zero_add]
        have hO := hO.res hf31 hr31
        unfold dyV
        refine WPL.nil ?_
        refine WPE.pv (i := 19) (by kernel_rfl) rfl rfl (fun w k' h => WPL.mv (v := .tuple #[.agg #[.bool _, .slice _ _ _, .int .i64 _], .int .i64 _]) rfl rfl (WPL.nil h)) ?_
        refine WPE.pv (i := 20) (by kernel_rfl) rfl rfl (fun w k' h => WPL.ext (v := .agg #[.bool _, .slice _ _ _, .int .i64 _]) rfl rfl rfl (WPL.nil h)) ?_
        refine WPE.pv (i := 21) (by kernel_rfl) rfl rfl (fun w k' h => WPL.ext (v := .int .i64 _) rfl rfl rfl (WPL.nil h)) ?_
        refine WPE.eff (i := 23) (by kernel_rfl) rfl (Own.dropR (Own.drop1 (Own.drop1 (Own.dropR hO)))) ?_
        refine WPL.stLA (T := T34) rfl rfl hO inferInstance inferInstance (by simp [Value.oneCell']) rfl rfl (fun w hO => ?_)
        refine WPL.nil ?_
        refine WPE.pv (i := 24) (by kernel_rfl) rfl rfl (fun w k' h => WPL.as (v := .int .i64 _) rfl rfl (WPL.nil h)) ?_
        refine WPE.nilX (by kernel_rfl) (by kernel_rfl) ?_
        refine WP.rs ?_
        refine WPL.ldLA (T := T34) [.bool _, .slice _ _ _, .int .i64 _] rfl hO inferInstance rfl agg34 rfl rfl ?_
        refine WPL.call rfl (dyad_Round hO.tab (Dy.fm false B.count (32 * (B.top - B.fold + 1))) a31 c31 hO.rd hc31 (Dy.fm_can ..) ((Dy.In.fm (lo := -4000) (hi := 4000) (by omega) (by omega)).B (Dy.fm_can ..) (by omega) (by omega) (by omega)) 2) Tryd.func44 rfl rfl rfl ?_
        rintro _ w ⟨hf36, rfl⟩
        have hO := hO.call hf36
        rw [rnd_eq]
        refine WPL.mv (v := .tuple #[.float .f64 _, .int .i64 _]) rfl rfl ?_
        refine WPL.ext (v := .float .f64 _) rfl rfl rfl ?_
        refine WPL.ext (v := .int .i64 _) rfl rfl rfl ?_
        refine WPL.as (v := .float .f64 _) rfl rfl ?_
        refine WPL.as (v := .int .i64 _) rfl rfl ?_
        refine WPL.nil ?_
        refine WP.rs ?_
        refine WPL.mv (v := .float .f64 _) rfl rfl ?_
        refine WPL.as (v := .float .f64 _) rfl rfl ?_
        refine WPL.nil ?_
        refine WP.ret ?_
        refine ⟨rfl, ?_⟩
        refine RO.tmp (v := .float .f64 _) rfl ?_
        refine RO.nil ?_
        have hO2 := Own.still (L := []) (hO.subL (L' := [⟨b, bnC B, 57⟩])) hb
        first
        | (have ha : B.any = false := by simpa using h1
           exact ⟨hO2.fr, by rw [ha]; rfl⟩)
        | (have ha : B.any = true := by simpa using h1
           exact ⟨hO2.fr, by rw [ha]; rfl⟩)
    · refine WPL.bs1 (pv := [(0, .int .u32 ((1 : Nat) : Int))]) (vs := [_]) rfl hO rfl rfl rfl rfl (fun b6 w hO => ?_)
      refine WPL.nil ?_
      refine WPE.pv (i := 17) (by kernel_rfl) rfl rfl (fun w k' h => WPL.bd (pv := [(1, .slice _ _ _), (2, .int .i64 _)]) (vs := [_, _, _]) rfl (bd_of pl34 rfl rfl) rfl (WPL.nil h)) ?_
      refine WPE.fork2 (i := 4) (j := 22) (by kernel_rfl) rfl rfl (.inr (Own.drop1 hO)) ?_ ?_
      · refine WPL.call rfl (dyad_Int hO.tab B.count (by omega)) Tryd.func46 rfl rfl rfl ?_
        rintro _ w ⟨hf17, a17, c17, rfl, hc17, hr17⟩
        have hO := hO.res hf17 hr17
        unfold dyV
        refine WPL.nil ?_
        refine WPE.fork2 (i := 18) (j := 22) (by kernel_rfl) rfl rfl (.inr (Own.drop1 (Own.dropR hO))) ?_ ?_
        · have hB1 : (Dy.fm false B.count 0).B 80000 := (Dy.In.fm (lo := 0) (hi := 41) (by omega) (by omega)).B (Dy.fm_can ..) (by omega) (by omega) (by omega)
          refine WPL.call (by rw [show dyV ⟨false, 1, 32 * (B.top - B.fold + 1)⟩ (some ⟨b6, 0, none⟩) 1 = Value.agg #[.bool false, .slice (some ⟨b6, 0, none⟩) 1 1, .int .i64 (32 * (B.top - B.fold + 1))] by simp only [dyV, dig_one]; rfl]; rfl) (dyad_Mul hO.tab (Dy.fm false B.count 0) a17 c17 hO.rd hc17 (Dy.fm_can ..) hB1 ⟨false, 1, 32 * (B.top - B.fold + 1)⟩ (some ⟨b6, 0, none⟩) 1 (by simp only [dig_one]; exact hO.rdA (b := b6) inferInstance) (by simp [dig_one]) (Dy.can_iff.2 (.inr rfl)) (by unfold Dy.B; simp only [blen_one]; omega)) Tryd.func45 rfl rfl rfl ?_
          rintro _ w ⟨hf31, a31, c31, rfl, hc31, hr31⟩
          rw [Dy.mul_pow, Int.zero_add] at hc31 hr31
          rw [Dy.mul_pow, Int.zero_add]
          have hO := hO.res hf31 hr31
          unfold dyV
          refine WPL.nil ?_
          refine WPE.pv (i := 19) (by kernel_rfl) rfl rfl (fun w k' h => WPL.mv (v := .tuple #[.agg #[.bool _, .slice _ _ _, .int .i64 _], .int .i64 _]) rfl rfl (WPL.nil h)) ?_
          refine WPE.pv (i := 20) (by kernel_rfl) rfl rfl (fun w k' h => WPL.ext (v := .agg #[.bool _, .slice _ _ _, .int .i64 _]) rfl rfl rfl (WPL.nil h)) ?_
          refine WPE.pv (i := 21) (by kernel_rfl) rfl rfl (fun w k' h => WPL.ext (v := .int .i64 _) rfl rfl rfl (WPL.nil h)) ?_
          refine WPE.eff (i := 22) (by kernel_rfl) rfl (Own.drop1 (Own.dropR (Own.dropR hO))) ?_
          refine WPL.al hO rfl (fun b7 w hO => ?_)
          refine WPL.nil ?_
          refine WPE.eff (i := 23) (by kernel_rfl) rfl (Own.drop1 (Own.dropR (Own.dropR (Own.drop1 hO)))) ?_
          refine WPL.stLA (T := T34) rfl rfl hO inferInstance inferInstance (by simp [Value.oneCell']) rfl rfl (fun w hO => ?_)
          refine WPL.nil ?_
          refine WPE.pv (i := 24) (by kernel_rfl) rfl rfl (fun w k' h => WPL.as (v := .int .i64 _) rfl rfl (WPL.nil h)) ?_
          refine WPE.nilX (by kernel_rfl) (by kernel_rfl) ?_
          refine WP.rs ?_
          refine WPL.ldLA (T := T34) [.bool _, .slice _ _ _, .int .i64 _] rfl hO inferInstance rfl agg34 rfl rfl ?_
          refine WPL.call rfl (dyad_Round hO.tab (Dy.fm false B.count (32 * (B.top - B.fold + 1))) a31 c31 hO.rd hc31 (Dy.fm_can ..) ((Dy.In.fm (lo := -4000) (hi := 4000) (by omega) (by omega)).B (Dy.fm_can ..) (by omega) (by omega) (by omega)) 2) Tryd.func44 rfl rfl rfl ?_
          rintro _ w ⟨hf36, rfl⟩
          have hO := hO.call hf36
          rw [rnd_eq]
          refine WPL.mv (v := .tuple #[.float .f64 _, .int .i64 _]) rfl rfl ?_
          refine WPL.ext (v := .float .f64 _) rfl rfl rfl ?_
          refine WPL.ext (v := .int .i64 _) rfl rfl rfl ?_
          refine WPL.as (v := .float .f64 _) rfl rfl ?_
          refine WPL.as (v := .int .i64 _) rfl rfl ?_
          refine WPL.nil ?_
          refine WP.rs ?_
          refine WPL.mv (v := .float .f64 _) rfl rfl ?_
          refine WPL.as (v := .float .f64 _) rfl rfl ?_
          refine WPL.nil ?_
          refine WP.ret ?_
          refine ⟨rfl, ?_⟩
          refine RO.tmp (v := .float .f64 _) rfl ?_
          refine RO.nil ?_
          have hO2 := Own.still (L := []) (hO.subL (L' := [⟨b, bnC B, 57⟩])) hb
          first
          | (have ha : B.any = false := by simpa using h1
             exact ⟨hO2.fr, by rw [ha]; rfl⟩)
          | (have ha : B.any = true := by simpa using h1
             exact ⟨hO2.fr, by rw [ha]; rfl⟩)
        · refine WPL.al hO rfl (fun b8 w hO => ?_)
          refine WPL.nil ?_
          refine WPE.eff (i := 18) (by kernel_rfl) rfl (Own.drop1 (Own.dropR (Own.drop1 hO))) ?_
          have hB1 : (Dy.fm false B.count 0).B 80000 := (Dy.In.fm (lo := 0) (hi := 41) (by omega) (by omega)).B (Dy.fm_can ..) (by omega) (by omega) (by omega)
          refine WPL.call (by rw [show dyV ⟨false, 1, 32 * (B.top - B.fold + 1)⟩ (some ⟨b6, 0, none⟩) 1 = Value.agg #[.bool false, .slice (some ⟨b6, 0, none⟩) 1 1, .int .i64 (32 * (B.top - B.fold + 1))] by simp only [dyV, dig_one]; rfl]; rfl) (dyad_Mul hO.tab (Dy.fm false B.count 0) a17 c17 hO.rd hc17 (Dy.fm_can ..) hB1 ⟨false, 1, 32 * (B.top - B.fold + 1)⟩ (some ⟨b6, 0, none⟩) 1 (by simp only [dig_one]; exact hO.rdA (b := b6) inferInstance) (by simp [dig_one]) (Dy.can_iff.2 (.inr rfl)) (by unfold Dy.B; simp only [blen_one]; omega)) Tryd.func45 rfl rfl rfl ?_
          rintro _ w ⟨hf31, a31, c31, rfl, hc31, hr31⟩
          rw [Dy.mul_pow, Int.zero_add] at hc31 hr31
          rw [Dy.mul_pow, Int.zero_add]
          have hO := hO.res hf31 hr31
          unfold dyV
          refine WPL.nil ?_
          refine WPE.pv (i := 19) (by kernel_rfl) rfl rfl (fun w k' h => WPL.mv (v := .tuple #[.agg #[.bool _, .slice _ _ _, .int .i64 _], .int .i64 _]) rfl rfl (WPL.nil h)) ?_
          refine WPE.pv (i := 20) (by kernel_rfl) rfl rfl (fun w k' h => WPL.ext (v := .agg #[.bool _, .slice _ _ _, .int .i64 _]) rfl rfl rfl (WPL.nil h)) ?_
          refine WPE.pv (i := 21) (by kernel_rfl) rfl rfl (fun w k' h => WPL.ext (v := .int .i64 _) rfl rfl rfl (WPL.nil h)) ?_
          refine WPE.eff (i := 23) (by kernel_rfl) rfl (Own.drop1 (Own.dropR (Own.drop1 (Own.dropR hO)))) ?_
          refine WPL.stLA (T := T34) rfl rfl hO inferInstance inferInstance (by simp [Value.oneCell']) rfl rfl (fun w hO => ?_)
          refine WPL.nil ?_
          refine WPE.pv (i := 24) (by kernel_rfl) rfl rfl (fun w k' h => WPL.as (v := .int .i64 _) rfl rfl (WPL.nil h)) ?_
          refine WPE.nilX (by kernel_rfl) (by kernel_rfl) ?_
          refine WP.rs ?_
          refine WPL.ldLA (T := T34) [.bool _, .slice _ _ _, .int .i64 _] rfl hO inferInstance rfl agg34 rfl rfl ?_
          refine WPL.call rfl (dyad_Round hO.tab (Dy.fm false B.count (32 * (B.top - B.fold + 1))) a31 c31 hO.rd hc31 (Dy.fm_can ..) ((Dy.In.fm (lo := -4000) (hi := 4000) (by omega) (by omega)).B (Dy.fm_can ..) (by omega) (by omega) (by omega)) 2) Tryd.func44 rfl rfl rfl ?_
          rintro _ w ⟨hf36, rfl⟩
          have hO := hO.call hf36
          rw [rnd_eq]
          refine WPL.mv (v := .tuple #[.float .f64 _, .int .i64 _]) rfl rfl ?_
          refine WPL.ext (v := .float .f64 _) rfl rfl rfl ?_
          refine WPL.ext (v := .int .i64 _) rfl rfl rfl ?_
          refine WPL.as (v := .float .f64 _) rfl rfl ?_
          refine WPL.as (v := .int .i64 _) rfl rfl ?_
          refine WPL.nil ?_
          refine WP.rs ?_
          refine WPL.mv (v := .float .f64 _) rfl rfl ?_
          refine WPL.as (v := .float .f64 _) rfl rfl ?_
          refine WPL.nil ?_
          refine WP.ret ?_
          refine ⟨rfl, ?_⟩
          refine RO.tmp (v := .float .f64 _) rfl ?_
          refine RO.nil ?_
          have hO2 := Own.still (L := []) (hO.subL (L' := [⟨b, bnC B, 57⟩])) hb
          first
          | (have ha : B.any = false := by simpa using h1
             exact ⟨hO2.fr, by rw [ha]; rfl⟩)
          | (have ha : B.any = true := by simpa using h1
             exact ⟨hO2.fr, by rw [ha]; rfl⟩)
      · refine WPL.al hO rfl (fun b9 w hO => ?_)
        refine WPL.nil ?_
        refine WPE.eff (i := 4) (by kernel_rfl) rfl (Own.drop1 (Own.drop1 hO)) ?_
        refine WPL.call rfl (dyad_Int hO.tab B.count (by omega)) Tryd.func46 rfl rfl rfl ?_
        rintro _ w ⟨hf17, a17, c17, rfl, hc17, hr17⟩
        have hO := hO.res hf17 hr17
        unfold dyV
        refine WPL.nil ?_
        refine WPE.eff (i := 18) (by kernel_rfl) rfl (Own.drop1 (Own.drop1 (Own.dropR hO))) ?_
        have hB1 : (Dy.fm false B.count 0).B 80000 := (Dy.In.fm (lo := 0) (hi := 41) (by omega) (by omega)).B (Dy.fm_can ..) (by omega) (by omega) (by omega)
        refine WPL.call (by rw [show dyV ⟨false, 1, 32 * (B.top - B.fold + 1)⟩ (some ⟨b6, 0, none⟩) 1 = Value.agg #[.bool false, .slice (some ⟨b6, 0, none⟩) 1 1, .int .i64 (32 * (B.top - B.fold + 1))] by simp only [dyV, dig_one]; rfl]; rfl) (dyad_Mul hO.tab (Dy.fm false B.count 0) a17 c17 hO.rd hc17 (Dy.fm_can ..) hB1 ⟨false, 1, 32 * (B.top - B.fold + 1)⟩ (some ⟨b6, 0, none⟩) 1 (by simp only [dig_one]; exact hO.rdA (b := b6) inferInstance) (by simp [dig_one]) (Dy.can_iff.2 (.inr rfl)) (by unfold Dy.B; simp only [blen_one]; omega)) Tryd.func45 rfl rfl rfl ?_
        rintro _ w ⟨hf31, a31, c31, rfl, hc31, hr31⟩
        rw [Dy.mul_pow, Int.zero_add] at hc31 hr31
        rw [Dy.mul_pow, Int.zero_add]
        have hO := hO.res hf31 hr31
        unfold dyV
        refine WPL.nil ?_
        refine WPE.pv (i := 19) (by kernel_rfl) rfl rfl (fun w k' h => WPL.mv (v := .tuple #[.agg #[.bool _, .slice _ _ _, .int .i64 _], .int .i64 _]) rfl rfl (WPL.nil h)) ?_
        refine WPE.pv (i := 20) (by kernel_rfl) rfl rfl (fun w k' h => WPL.ext (v := .agg #[.bool _, .slice _ _ _, .int .i64 _]) rfl rfl rfl (WPL.nil h)) ?_
        refine WPE.pv (i := 21) (by kernel_rfl) rfl rfl (fun w k' h => WPL.ext (v := .int .i64 _) rfl rfl rfl (WPL.nil h)) ?_
        refine WPE.eff (i := 23) (by kernel_rfl) rfl (Own.drop1 (Own.drop1 (Own.dropR (Own.dropR hO)))) ?_
        refine WPL.stLA (T := T34) rfl rfl hO inferInstance inferInstance (by simp [Value.oneCell']) rfl rfl (fun w hO => ?_)
        refine WPL.nil ?_
        refine WPE.pv (i := 24) (by kernel_rfl) rfl rfl (fun w k' h => WPL.as (v := .int .i64 _) rfl rfl (WPL.nil h)) ?_
        refine WPE.nilX (by kernel_rfl) (by kernel_rfl) ?_
        refine WP.rs ?_
        refine WPL.ldLA (T := T34) [.bool _, .slice _ _ _, .int .i64 _] rfl hO inferInstance rfl agg34 rfl rfl ?_
        refine WPL.call rfl (dyad_Round hO.tab (Dy.fm false B.count (32 * (B.top - B.fold + 1))) a31 c31 hO.rd hc31 (Dy.fm_can ..) ((Dy.In.fm (lo := -4000) (hi := 4000) (by omega) (by omega)).B (Dy.fm_can ..) (by omega) (by omega) (by omega)) 2) Tryd.func44 rfl rfl rfl ?_
        rintro _ w ⟨hf36, rfl⟩
        have hO := hO.call hf36
        rw [rnd_eq]
        refine WPL.mv (v := .tuple #[.float .f64 _, .int .i64 _]) rfl rfl ?_
        refine WPL.ext (v := .float .f64 _) rfl rfl rfl ?_
        refine WPL.ext (v := .int .i64 _) rfl rfl rfl ?_
        refine WPL.as (v := .float .f64 _) rfl rfl ?_
        refine WPL.as (v := .int .i64 _) rfl rfl ?_
        refine WPL.nil ?_
        refine WP.rs ?_
        refine WPL.mv (v := .float .f64 _) rfl rfl ?_
        refine WPL.as (v := .float .f64 _) rfl rfl ?_
        refine WPL.nil ?_
        refine WP.ret ?_
        refine ⟨rfl, ?_⟩
        refine RO.tmp (v := .float .f64 _) rfl ?_
        refine RO.nil ?_
        have hO2 := Own.still (L := []) (hO.subL (L' := [⟨b, bnC B, 57⟩])) hb
        first
        | (have ha : B.any = false := by simpa using h1
           exact ⟨hO2.fr, by rw [ha]; rfl⟩)
        | (have ha : B.any = true := by simpa using h1
           exact ⟨hO2.fr, by rw [ha]; rfl⟩)
    · refine WPL.al hO rfl (fun b10 w hO => ?_)
      refine WPL.nil ?_
      refine WPE.fork2 (i := 4) (j := 5) (by kernel_rfl) rfl rfl (.inr (Own.drop1 hO)) ?_ ?_
      · refine WPL.call rfl (dyad_Int hO.tab B.count (by omega)) Tryd.func46 rfl rfl rfl ?_
        rintro _ w ⟨hf17, a17, c17, rfl, hc17, hr17⟩
        have hO := hO.res hf17 hr17
        unfold dyV
        refine WPL.nil ?_
        refine WPE.eff (i := 5) (by kernel_rfl) rfl (Own.drop1 (Own.dropR hO)) ?_
        refine WPL.bs1 (pv := [(0, .int .u32 ((1 : Nat) : Int))]) (vs := [_]) rfl hO rfl rfl rfl rfl (fun b11 w hO => ?_)
        refine WPL.nil ?_
        refine WPE.pv (i := 17) (by kernel_rfl) rfl rfl (fun w k' h => WPL.bd (pv := [(1, .slice _ _ _), (2, .int .i64 _)]) (vs := [_, _, _]) rfl (bd_of pl34 rfl rfl) rfl (WPL.nil h)) ?_
        refine WPE.eff (i := 18) (by kernel_rfl) rfl (Own.drop1 (Own.dropR (Own.drop1 hO))) ?_
        have hB1 : (Dy.fm false B.count 0).B 80000 := (Dy.In.fm (lo := 0) (hi := 41) (by omega) (by omega)).B (Dy.fm_can ..) (by omega) (by omega) (by omega)
        refine WPL.call (by rw [show dyV ⟨false, 1, 32 * (B.top - B.fold + 1)⟩ (some ⟨b11, 0, none⟩) 1 = Value.agg #[.bool false, .slice (some ⟨b11, 0, none⟩) 1 1, .int .i64 (32 * (B.top - B.fold + 1))] by simp only [dyV, dig_one]; rfl]; rfl) (dyad_Mul hO.tab (Dy.fm false B.count 0) a17 c17 hO.rd hc17 (Dy.fm_can ..) hB1 ⟨false, 1, 32 * (B.top - B.fold + 1)⟩ (some ⟨b11, 0, none⟩) 1 (by simp only [dig_one]; exact hO.rdA (b := b11) inferInstance) (by simp [dig_one]) (Dy.can_iff.2 (.inr rfl)) (by unfold Dy.B; simp only [blen_one]; omega)) Tryd.func45 rfl rfl rfl ?_
        rintro _ w ⟨hf31, a31, c31, rfl, hc31, hr31⟩
        rw [Dy.mul_pow, Int.zero_add] at hc31 hr31
        rw [Dy.mul_pow, Int.zero_add]
        have hO := hO.res hf31 hr31
        unfold dyV
        refine WPL.nil ?_
        refine WPE.pv (i := 19) (by kernel_rfl) rfl rfl (fun w k' h => WPL.mv (v := .tuple #[.agg #[.bool _, .slice _ _ _, .int .i64 _], .int .i64 _]) rfl rfl (WPL.nil h)) ?_
        refine WPE.pv (i := 20) (by kernel_rfl) rfl rfl (fun w k' h => WPL.ext (v := .agg #[.bool _, .slice _ _ _, .int .i64 _]) rfl rfl rfl (WPL.nil h)) ?_
        refine WPE.pv (i := 21) (by kernel_rfl) rfl rfl (fun w k' h => WPL.ext (v := .int .i64 _) rfl rfl rfl (WPL.nil h)) ?_
        refine WPE.eff (i := 23) (by kernel_rfl) rfl (Own.drop1 (Own.dropR (Own.drop1 (Own.dropR hO)))) ?_
        refine WPL.stLA (T := T34) rfl rfl hO inferInstance inferInstance (by simp [Value.oneCell']) rfl rfl (fun w hO => ?_)
        refine WPL.nil ?_
        refine WPE.pv (i := 24) (by kernel_rfl) rfl rfl (fun w k' h => WPL.as (v := .int .i64 _) rfl rfl (WPL.nil h)) ?_
        refine WPE.nilX (by kernel_rfl) (by kernel_rfl) ?_
        refine WP.rs ?_
        refine WPL.ldLA (T := T34) [.bool _, .slice _ _ _, .int .i64 _] rfl hO inferInstance rfl agg34 rfl rfl ?_
        refine WPL.call rfl (dyad_Round hO.tab (Dy.fm false B.count (32 * (B.top - B.fold + 1))) a31 c31 hO.rd hc31 (Dy.fm_can ..) ((Dy.In.fm (lo := -4000) (hi := 4000) (by omega) (by omega)).B (Dy.fm_can ..) (by omega) (by omega) (by omega)) 2) Tryd.func44 rfl rfl rfl ?_
        rintro _ w ⟨hf36, rfl⟩
        have hO := hO.call hf36
        rw [rnd_eq]
        refine WPL.mv (v := .tuple #[.float .f64 _, .int .i64 _]) rfl rfl ?_
        refine WPL.ext (v := .float .f64 _) rfl rfl rfl ?_
        refine WPL.ext (v := .int .i64 _) rfl rfl rfl ?_
        refine WPL.as (v := .float .f64 _) rfl rfl ?_
        refine WPL.as (v := .int .i64 _) rfl rfl ?_
        refine WPL.nil ?_
        refine WP.rs ?_
        refine WPL.mv (v := .float .f64 _) rfl rfl ?_
        refine WPL.as (v := .float .f64 _) rfl rfl ?_
        refine WPL.nil ?_
        refine WP.ret ?_
        refine ⟨rfl, ?_⟩
        refine RO.tmp (v := .float .f64 _) rfl ?_
        refine RO.nil ?_
        have hO2 := Own.still (L := []) (hO.subL (L' := [⟨b, bnC B, 57⟩])) hb
        first
        | (have ha : B.any = false := by simpa using h1
           exact ⟨hO2.fr, by rw [ha]; rfl⟩)
        | (have ha : B.any = true := by simpa using h1
           exact ⟨hO2.fr, by rw [ha]; rfl⟩)
      · refine WPL.bs1 (pv := [(0, .int .u32 ((1 : Nat) : Int))]) (vs := [_]) rfl hO rfl rfl rfl rfl (fun b12 w hO => ?_)
        refine WPL.nil ?_
        refine WPE.pv (i := 17) (by kernel_rfl) rfl rfl (fun w k' h => WPL.bd (pv := [(1, .slice _ _ _), (2, .int .i64 _)]) (vs := [_, _, _]) rfl (bd_of pl34 rfl rfl) rfl (WPL.nil h)) ?_
        refine WPE.eff (i := 4) (by kernel_rfl) rfl (Own.drop1 (Own.drop1 hO)) ?_
        refine WPL.call rfl (dyad_Int hO.tab B.count (by omega)) Tryd.func46 rfl rfl rfl ?_
        rintro _ w ⟨hf17, a17, c17, rfl, hc17, hr17⟩
        have hO := hO.res hf17 hr17
        unfold dyV
        refine WPL.nil ?_
        refine WPE.eff (i := 18) (by kernel_rfl) rfl (Own.drop1 (Own.drop1 (Own.dropR hO))) ?_
        have hB1 : (Dy.fm false B.count 0).B 80000 := (Dy.In.fm (lo := 0) (hi := 41) (by omega) (by omega)).B (Dy.fm_can ..) (by omega) (by omega) (by omega)
        refine WPL.call (by rw [show dyV ⟨false, 1, 32 * (B.top - B.fold + 1)⟩ (some ⟨b12, 0, none⟩) 1 = Value.agg #[.bool false, .slice (some ⟨b12, 0, none⟩) 1 1, .int .i64 (32 * (B.top - B.fold + 1))] by simp only [dyV, dig_one]; rfl]; rfl) (dyad_Mul hO.tab (Dy.fm false B.count 0) a17 c17 hO.rd hc17 (Dy.fm_can ..) hB1 ⟨false, 1, 32 * (B.top - B.fold + 1)⟩ (some ⟨b12, 0, none⟩) 1 (by simp only [dig_one]; exact hO.rdA (b := b12) inferInstance) (by simp [dig_one]) (Dy.can_iff.2 (.inr rfl)) (by unfold Dy.B; simp only [blen_one]; omega)) Tryd.func45 rfl rfl rfl ?_
        rintro _ w ⟨hf31, a31, c31, rfl, hc31, hr31⟩
        rw [Dy.mul_pow, Int.zero_add] at hc31 hr31
        rw [Dy.mul_pow, Int.zero_add]
        have hO := hO.res hf31 hr31
        unfold dyV
        refine WPL.nil ?_
        refine WPE.pv (i := 19) (by kernel_rfl) rfl rfl (fun w k' h => WPL.mv (v := .tuple #[.agg #[.bool _, .slice _ _ _, .int .i64 _], .int .i64 _]) rfl rfl (WPL.nil h)) ?_
        refine WPE.pv (i := 20) (by kernel_rfl) rfl rfl (fun w k' h => WPL.ext (v := .agg #[.bool _, .slice _ _ _, .int .i64 _]) rfl rfl rfl (WPL.nil h)) ?_
        refine WPE.pv (i := 21) (by kernel_rfl) rfl rfl (fun w k' h => WPL.ext (v := .int .i64 _) rfl rfl rfl (WPL.nil h)) ?_
        refine WPE.eff (i := 23) (by kernel_rfl) rfl (Own.drop1 (Own.drop1 (Own.dropR (Own.dropR hO)))) ?_
        refine WPL.stLA (T := T34) rfl rfl hO inferInstance inferInstance (by simp [Value.oneCell']) rfl rfl (fun w hO => ?_)
        refine WPL.nil ?_
        refine WPE.pv (i := 24) (by kernel_rfl) rfl rfl (fun w k' h => WPL.as (v := .int .i64 _) rfl rfl (WPL.nil h)) ?_
        refine WPE.nilX (by kernel_rfl) (by kernel_rfl) ?_
        refine WP.rs ?_
        refine WPL.ldLA (T := T34) [.bool _, .slice _ _ _, .int .i64 _] rfl hO inferInstance rfl agg34 rfl rfl ?_
        refine WPL.call rfl (dyad_Round hO.tab (Dy.fm false B.count (32 * (B.top - B.fold + 1))) a31 c31 hO.rd hc31 (Dy.fm_can ..) ((Dy.In.fm (lo := -4000) (hi := 4000) (by omega) (by omega)).B (Dy.fm_can ..) (by omega) (by omega) (by omega)) 2) Tryd.func44 rfl rfl rfl ?_
        rintro _ w ⟨hf36, rfl⟩
        have hO := hO.call hf36
        rw [rnd_eq]
        refine WPL.mv (v := .tuple #[.float .f64 _, .int .i64 _]) rfl rfl ?_
        refine WPL.ext (v := .float .f64 _) rfl rfl rfl ?_
        refine WPL.ext (v := .int .i64 _) rfl rfl rfl ?_
        refine WPL.as (v := .float .f64 _) rfl rfl ?_
        refine WPL.as (v := .int .i64 _) rfl rfl ?_
        refine WPL.nil ?_
        refine WP.rs ?_
        refine WPL.mv (v := .float .f64 _) rfl rfl ?_
        refine WPL.as (v := .float .f64 _) rfl rfl ?_
        refine WPL.nil ?_
        refine WP.ret ?_
        refine ⟨rfl, ?_⟩
        refine RO.tmp (v := .float .f64 _) rfl ?_
        refine RO.nil ?_
        have hO2 := Own.still (L := []) (hO.subL (L' := [⟨b, bnC B, 57⟩])) hb
        first
        | (have ha : B.any = false := by simpa using h1
           exact ⟨hO2.fr, by rw [ha]; rfl⟩)
        | (have ha : B.any = true := by simpa using h1
           exact ⟨hO2.fr, by rw [ha]; rfl⟩)

theorem bins_MergeArg {w0 : World} (b o : Nat) (hne : b ≠ o) (B O : Bn) (hb : w0.heap[b]? = some (.cells (bnC B).toArray 57 (0, 0))) (ho : w0.heap[o]? = some (.cells (bnC O).toArray 57 (0, 0))) (hc : B.count ≤ 1099511627776 ∧ O.count ≤ 1099511627776) (hf : B.fold ≠ O.fold) : Spec Tryd.prog 7 [.pointer (some ⟨b, 0, none⟩), .pointer (some ⟨o, 0, none⟩)] w0 (fun v w' => v = .int .i64 1 ∧ FrX [] w0 w') := by
  have hO : Own [] w0 [b, o] [⟨b, bnC B, 57⟩, ⟨o, bnC O, 57⟩] [] w0 := Own.startM (L := [⟨b, bnC B, 57⟩, ⟨o, bnC O, 57⟩]) (by intro e he; cases he) (by
    intro e he
    simp only [List.mem_cons, List.not_mem_nil, or_false] at he
    rcases he with rfl | rfl
    · exact hb
    · exact ho) (by simp [keys, hne]) (by intro e he; cases he) (by intro r hr; cases hr)
  unfold bnC at hO
  refine Spec.enter (n := 86) (rs := [.tmp 4]) Tryd.func7 rfl rfl rfl rfl ?_
  refine WP.rs ?_
  refine WPL.as (v := .int .i64 0) rfl rfl ?_
  refine WPL.nil ?_
  refine WP.seq ?_
  refine WP.block ?_
  refine WP.seq ?_
  refine WP.draw [(0, 0), (1, 0), (2, 0), (3, 1), (4, 0), (5, 0), (6, 0), (7, 1), (8, 0), (9, 0)] [] mixed (by kernel_rfl) (by kernel_rfl) rfl hO (fun w hO => ?_)
  refine WPD.pv rfl rfl (fun w k' h => WPL.mv (v := .pointer _) rfl rfl (WPL.nil h)) ?_
  refine WPD.pv rfl rfl (fun w k' h => WPL.nc rfl rfl (WPL.nil h)) ?_
  refine WPD.pv rfl rfl (fun w k' h => WPL.fa rfl rfl (WPL.nil h)) ?_
  refine WPD.val rfl rfl (fun w hO k' h => WPL.ldL rfl hO inferInstance rfl rfl rfl (WPL.nil h)) ?_
  refine WPD.pv rfl rfl (fun w k' h => WPL.mv (v := .pointer _) rfl rfl (WPL.nil h)) ?_
  refine WPD.pv rfl rfl (fun w k' h => WPL.nc rfl rfl (WPL.nil h)) ?_
  refine WPD.pv rfl rfl (fun w k' h => WPL.fa rfl rfl (WPL.nil h)) ?_
  refine WPD.val rfl rfl (fun w hO k' h => WPL.ldL rfl hO inferInstance rfl rfl rfl (WPL.nil h)) ?_
  refine WPD.pv rfl rfl (fun w k' h => WPL.ne rfl rfl rfl (WPL.nil h)) ?_
  refine WPD.pv rfl rfl (fun w k' h => WPL.as (v := .bool _) rfl rfl (WPL.nil h)) ?_
  refine WPD.nil hO ?_
  refine WP.condP rfl (fun h1 => ?_) (fun h1 => ?_)
  · refine WP.rs ?_
    refine WPL.as (v := .int .i64 1) rfl rfl ?_
    refine WPL.nil ?_
    refine WP.ret ?_
    refine ⟨rfl, ?_⟩
    refine RO.tmp (v := .int .i64 _) rfl ?_
    refine RO.nil ?_
    have hfr := hO.fr.less (M' := []) (by
      intro x hx _
      simp only [List.mem_cons, List.not_mem_nil, or_false] at hx
      rcases hx with rfl | rfl
      · exact (hO.cells _ (List.mem_cons_self ..)).trans hb.symm
      · exact (hO.cells _ (List.mem_cons_of_mem _ (List.mem_cons_self ..))).trans ho.symm)
    exact ⟨rfl, hfr⟩
  · exact absurd h1 (by omega)

theorem bins_MergeLongSelf {w0 : World} (b : Nat) (B : Bn) (hb : w0.heap[b]? = some (.cells (bnC B).toArray 57 (0, 0))) (hc : B.count ≤ 1099511627776) (hs : 1099511627776 < B.count + B.count) : Spec Tryd.prog 7 [.pointer (some ⟨b, 0, none⟩), .pointer (some ⟨b, 0, none⟩)] w0 (fun v w' => v = .int .i64 2 ∧ FrX [] w0 w') := by
  have hO : Own [] w0 [b] [⟨b, bnC B, 57⟩] [] w0 := Own.startM (L := [⟨b, bnC B, 57⟩]) (by intro e he; cases he) (by intro e he; obtain rfl := List.mem_singleton.1 he; exact hb) (by simp [keys]) (by intro e he; cases he) (by intro r hr; cases hr)
  unfold bnC at hO
  refine Spec.enter (n := 86) (rs := [.tmp 4]) Tryd.func7 rfl rfl rfl rfl ?_
  refine WP.rs ?_
  refine WPL.as (v := .int .i64 0) rfl rfl ?_
  refine WPL.nil ?_
  refine WP.seq ?_
  refine WP.block ?_
  refine WP.seq ?_
  refine WP.draw [(0, 0), (1, 0), (2, 0), (3, 1), (4, 0), (5, 0), (6, 0), (7, 1), (8, 0), (9, 0)] [] mixed (by kernel_rfl) (by kernel_rfl) rfl hO (fun w hO => ?_)
  refine WPD.pv rfl rfl (fun w k' h => WPL.mv (v := .pointer _) rfl rfl (WPL.nil h)) ?_
  refine WPD.pv rfl rfl (fun w k' h => WPL.nc rfl rfl (WPL.nil h)) ?_
  refine WPD.pv rfl rfl (fun w k' h => WPL.fa rfl rfl (WPL.nil h)) ?_
  refine WPD.val rfl rfl (fun w hO k' h => WPL.ldL rfl hO inferInstance rfl rfl rfl (WPL.nil h)) ?_
  refine WPD.pv rfl rfl (fun w k' h => WPL.mv (v := .pointer _) rfl rfl (WPL.nil h)) ?_
  refine WPD.pv rfl rfl (fun w k' h => WPL.nc rfl rfl (WPL.nil h)) ?_
  refine WPD.pv rfl rfl (fun w k' h => WPL.fa rfl rfl (WPL.nil h)) ?_
  refine WPD.val rfl rfl (fun w hO k' h => WPL.ldL rfl hO inferInstance rfl rfl rfl (WPL.nil h)) ?_
  refine WPD.pv rfl rfl (fun w k' h => WPL.ne rfl rfl rfl (WPL.nil h)) ?_
  refine WPD.pv rfl rfl (fun w k' h => WPL.as (v := .bool _) rfl rfl (WPL.nil h)) ?_
  refine WPD.nil hO ?_
  refine WP.condP rfl (fun h1 => ?_) (fun h1 => ?_)
  · exact absurd h1 (by omega)
  · refine WP.seq ?_
    refine WP.draw [(0, 0), (1, 0), (2, 0), (3, 1), (4, 0), (5, 0), (6, 0), (7, 1), (8, 0), (9, 0), (10, 0)] [] mixed (by kernel_rfl) (by kernel_rfl) rfl hO (fun w hO => ?_)
    refine WPD.pv rfl rfl (fun w k' h => WPL.mv (v := .pointer _) rfl rfl (WPL.nil h)) ?_
    refine WPD.pv rfl rfl (fun w k' h => WPL.nc rfl rfl (WPL.nil h)) ?_
    refine WPD.pv rfl rfl (fun w k' h => WPL.fa rfl rfl (WPL.nil h)) ?_
    refine WPD.val rfl rfl (fun w hO k' h => WPL.ldL rfl hO inferInstance rfl rfl rfl (WPL.nil h)) ?_
    refine WPD.pv rfl rfl (fun w k' h => WPL.mv (v := .pointer _) rfl rfl (WPL.nil h)) ?_
    refine WPD.pv rfl rfl (fun w k' h => WPL.nc rfl rfl (WPL.nil h)) ?_
    refine WPD.pv rfl rfl (fun w k' h => WPL.fa rfl rfl (WPL.nil h)) ?_
    refine WPD.val rfl rfl (fun w hO k' h => WPL.ldL rfl hO inferInstance rfl rfl rfl (WPL.nil h)) ?_
    refine WPD.pv rfl rfl (fun w k' h => WPL.addI rfl rfl (by omega) rfl (WPL.nil h)) ?_
    refine WPD.pv rfl rfl (fun w k' h => WPL.gt rfl rfl rfl (WPL.nil h)) ?_
    refine WPD.pv rfl rfl (fun w k' h => WPL.as (v := .bool _) rfl rfl (WPL.nil h)) ?_
    refine WPD.nil hO ?_
    refine WP.condP rfl (fun h2 => ?_) (fun h2 => ?_)
    · refine WP.rs ?_
      refine WPL.as (v := .int .i64 2) rfl rfl ?_
      refine WPL.nil ?_
      refine WP.ret ?_
      refine ⟨rfl, ?_⟩
      refine RO.tmp (v := .int .i64 _) rfl ?_
      refine RO.nil ?_
      have hfr := hO.fr.less (M' := []) (by
        intro x hx _
        simp only [List.mem_cons, List.not_mem_nil, or_false] at hx
        subst hx
        exact (hO.cells _ (List.mem_cons_self ..)).trans hb.symm)
      exact ⟨rfl, hfr⟩
    · exact absurd h2 (by omega)

theorem bins_MergeLong {w0 : World} (b o : Nat) (hne : b ≠ o) (B O : Bn) (hb : w0.heap[b]? = some (.cells (bnC B).toArray 57 (0, 0))) (ho : w0.heap[o]? = some (.cells (bnC O).toArray 57 (0, 0))) (hc : B.count ≤ 1099511627776 ∧ O.count ≤ 1099511627776) (hf : B.fold = O.fold) (hs : 1099511627776 < B.count + O.count) : Spec Tryd.prog 7 [.pointer (some ⟨b, 0, none⟩), .pointer (some ⟨o, 0, none⟩)] w0 (fun v w' => v = .int .i64 2 ∧ FrX [] w0 w') := by
  have hO : Own [] w0 [b, o] [⟨b, bnC B, 57⟩, ⟨o, bnC O, 57⟩] [] w0 := Own.startM (L := [⟨b, bnC B, 57⟩, ⟨o, bnC O, 57⟩]) (by intro e he; cases he) (by
    intro e he
    simp only [List.mem_cons, List.not_mem_nil, or_false] at he
    rcases he with rfl | rfl
    · exact hb
    · exact ho) (by simp [keys, hne]) (by intro e he; cases he) (by intro r hr; cases hr)
  unfold bnC at hO
  refine Spec.enter (n := 86) (rs := [.tmp 4]) Tryd.func7 rfl rfl rfl rfl ?_
  refine WP.rs ?_
  refine WPL.as (v := .int .i64 0) rfl rfl ?_
  refine WPL.nil ?_
  refine WP.seq ?_
  refine WP.block ?_
  refine WP.seq ?_
  refine WP.draw [(0, 0), (1, 0), (2, 0), (3, 1), (4, 0), (5, 0), (6, 0), (7, 1), (8, 0), (9, 0)] [] mixed (by kernel_rfl) (by kernel_rfl) rfl hO (fun w hO => ?_)
  refine WPD.pv rfl rfl (fun w k' h => WPL.mv (v := .pointer _) rfl rfl (WPL.nil h)) ?_
  refine WPD.pv rfl rfl (fun w k' h => WPL.nc rfl rfl (WPL.nil h)) ?_
  refine WPD.pv rfl rfl (fun w k' h => WPL.fa rfl rfl (WPL.nil h)) ?_
  refine WPD.val rfl rfl (fun w hO k' h => WPL.ldL rfl hO inferInstance rfl rfl rfl (WPL.nil h)) ?_
  refine WPD.pv rfl rfl (fun w k' h => WPL.mv (v := .pointer _) rfl rfl (WPL.nil h)) ?_
  refine WPD.pv rfl rfl (fun w k' h => WPL.nc rfl rfl (WPL.nil h)) ?_
  refine WPD.pv rfl rfl (fun w k' h => WPL.fa rfl rfl (WPL.nil h)) ?_
  refine WPD.val rfl rfl (fun w hO k' h => WPL.ldL rfl hO inferInstance rfl rfl rfl (WPL.nil h)) ?_
  refine WPD.pv rfl rfl (fun w k' h => WPL.ne rfl rfl rfl (WPL.nil h)) ?_
  refine WPD.pv rfl rfl (fun w k' h => WPL.as (v := .bool _) rfl rfl (WPL.nil h)) ?_
  refine WPD.nil hO ?_
  refine WP.condP rfl (fun h1 => ?_) (fun h1 => ?_)
  · exact absurd h1 (by omega)
  · refine WP.seq ?_
    refine WP.draw [(0, 0), (1, 0), (2, 0), (3, 1), (4, 0), (5, 0), (6, 0), (7, 1), (8, 0), (9, 0), (10, 0)] [] mixed (by kernel_rfl) (by kernel_rfl) rfl hO (fun w hO => ?_)
    refine WPD.pv rfl rfl (fun w k' h => WPL.mv (v := .pointer _) rfl rfl (WPL.nil h)) ?_
    refine WPD.pv rfl rfl (fun w k' h => WPL.nc rfl rfl (WPL.nil h)) ?_
    refine WPD.pv rfl rfl (fun w k' h => WPL.fa rfl rfl (WPL.nil h)) ?_
    refine WPD.val rfl rfl (fun w hO k' h => WPL.ldL rfl hO inferInstance rfl rfl rfl (WPL.nil h)) ?_
    refine WPD.pv rfl rfl (fun w k' h => WPL.mv (v := .pointer _) rfl rfl (WPL.nil h)) ?_
    refine WPD.pv rfl rfl (fun w k' h => WPL.nc rfl rfl (WPL.nil h)) ?_
    refine WPD.pv rfl rfl (fun w k' h => WPL.fa rfl rfl (WPL.nil h)) ?_
    refine WPD.val rfl rfl (fun w hO k' h => WPL.ldL rfl hO inferInstance rfl rfl rfl (WPL.nil h)) ?_
    refine WPD.pv rfl rfl (fun w k' h => WPL.addI rfl rfl (by omega) rfl (WPL.nil h)) ?_
    refine WPD.pv rfl rfl (fun w k' h => WPL.gt rfl rfl rfl (WPL.nil h)) ?_
    refine WPD.pv rfl rfl (fun w k' h => WPL.as (v := .bool _) rfl rfl (WPL.nil h)) ?_
    refine WPD.nil hO ?_
    refine WP.condP rfl (fun h2 => ?_) (fun h2 => ?_)
    · refine WP.rs ?_
      refine WPL.as (v := .int .i64 2) rfl rfl ?_
      refine WPL.nil ?_
      refine WP.ret ?_
      refine ⟨rfl, ?_⟩
      refine RO.tmp (v := .int .i64 _) rfl ?_
      refine RO.nil ?_
      have hfr := hO.fr.less (M' := []) (by
        intro x hx _
        simp only [List.mem_cons, List.not_mem_nil, or_false] at hx
        rcases hx with rfl | rfl
        · exact (hO.cells _ (List.mem_cons_self ..)).trans hb.symm
        · exact (hO.cells _ (List.mem_cons_of_mem _ (List.mem_cons_self ..))).trans ho.symm)
      exact ⟨rfl, hfr⟩
    · exact absurd h2 (by omega)
end Go.Sw
