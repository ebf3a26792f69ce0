/- A part of the proof that BinsPlays answers true: steps of the walk, or plain laws that it needs. No conditions of its own. -/
import Derived.Test.YtdaphmoojpbddaaGreatDoorSW11
import Derived.Test.YtdaphmoojpbddaaGreatDoorSB9
set_option linter.all false
namespace Go.Sw
set_option autoImplicit false
set_option linter.all false
open Go.Proofs Go.RowKit
instance T39 : Ty Tryz.prog 39 (.slice 44) [.slice none 0 0] 24 := Ty.mk' Tryz.underlying39 (by kernel_rfl)
noncomputable abbrev D41 : TypeDesc := (Tryz.prog.underlying 41).getD .bool
instance T41 : Ty Tryz.prog 41 D41 [.slice none 0 0] 24 := Ty.mk' (by kernel_rfl) (by kernel_rfl)
theorem agg41 : TypeDesc.agg D41 = true := by kernel_rfl
theorem pl41 : placesOf Tryz.prog 41 = some [(0, 1)] := by kernel_rfl
instance F41_0 : Fld Tryz.prog 41 0 0 := Fld.mk' (sz := 0) (by kernel_rfl)
theorem law_Take {w0 : World} (kb : Nat) (s : List Sl) (a : Option Addr) (c : Nat) (G : List Blk) (hG : Grown a c 1 (sc s) 44 G) (hc : s.length ≤ c) (hs : s.length ≤ 1000000) (x : Sl) (hL : Own [] w0 (keys (⟨kb, [.slice a s.length c], 41⟩ :: (G ++ []))) (⟨kb, [.slice a s.length c], 41⟩ :: (G ++ [])) [] w0) : Spec Tryz.prog 8 [.pointer (some ⟨kb, 0, none⟩), .slice x.a x.l.length x.c] w0 (fun v w' => v = .tuple #[] ∧ ∃ a' c' G', Grown a' c' 1 (sc (s ++ [x])) 44 G' ∧ s.length + 1 ≤ c' ∧ Own [] w0 (keys (⟨kb, [.slice a s.length c], 41⟩ :: (G ++ []))) (⟨kb, [.slice a' (s.length + 1) c'], 41⟩ :: (G' ++ [])) [] w') := by
  have hO := hL
  obtain ⟨K, hK⟩ : ∃ K, K = keys (⟨kb, [.slice a s.length c], 41⟩ :: (G ++ [])) := ⟨_, rfl⟩
  rw [← hK] at hO ⊢
  refine Spec.enter (n := 14) (rs := []) Tryz.func8 rfl rfl rfl rfl ?_
  refine WP.region ?_
  refine WPL.mv (v := .pointer _) rfl rfl ?_
  refine WPL.mv (v := .pointer _) rfl rfl ?_
  refine WPL.nc rfl rfl ?_
  refine WPL.fa rfl rfl ?_
  refine WPL.ldL rfl hO inferInstance rfl rfl rfl ?_
  refine WPL.mv (v := .slice _ _ _) rfl rfl ?_
  refine WPL.bs1 (pv := [(0, .slice _ _ _)]) (vs := [_]) rfl hO rfl rfl rfl rfl (fun b1 w hO => ?_)
  have hO := hO.freeze
  have hsrc : SrcRow w (.slice (some ⟨b1, 0, none⟩) 1 1) 1 1 (sc [x]) := ⟨_, _, rfl, by simp [sc], hO.rd, sc_one _⟩
  have hO : Own [] w0 K (G ++ [⟨kb, [.slice a s.length c], 41⟩]) _ w := hO.perm (by classical exact List.perm_iff_count.2 (fun z => by simp only [List.count_append, List.count_cons, List.count_nil]; omega))
  refine WPL.app (ze := [.slice none 0 0]) (vals := sc s) rfl hO hG (by simp [sc_length]) hc hsrc (by decide) (by omega) (by omega) rfl (fun a11 c11 G11 w hG11 hc11 hO => ?_)
  have hO := hO.dropR
  rw [← sc_append] at hG11
  have hO : Own [] w0 K (⟨kb, [.slice a s.length c], 41⟩ :: (G11 ++ [])) [] w := hO.perm (by classical exact List.perm_iff_count.2 (fun z => by simp only [List.count_append, List.count_cons, List.count_nil]; omega))
  refine WPL.nc rfl rfl ?_
  refine WPL.fa rfl rfl ?_
  refine WPL.stL (v := .slice _ _ _) rfl rfl hO inferInstance inferInstance rfl rfl rfl (fun w hO => ?_)
  refine WPL.nil ?_
  refine ⟨rfl, ?_⟩
  refine RO.nil ?_
  exact ⟨rfl, a11, c11, G11, hG11, hc11, hO⟩

theorem law_Owned {w0 : World} (kb : Nat) (S : List Sl) (a : Option Addr) (c : Nat) (G : List Blk) (hG : Grown a c 1 (sc S) 44 G) (hc : S.length ≤ c) (hs : S.length ≤ 1000000) (hok : ∀ x ∈ S, SlOk 62 x) (hL : Own [] w0 (keys (⟨kb, [.slice a S.length c], 41⟩ :: (G ++ (SB S ++ [])))) (⟨kb, [.slice a S.length c], 41⟩ :: (G ++ (SB S ++ []))) [] w0) : Spec Tryz.prog 9 [.pointer (some ⟨kb, 0, none⟩)] w0 (fun v w' => v = .bool true ∧ ∃ A', Own [] w0 (keys (⟨kb, [.slice a S.length c], 41⟩ :: (G ++ (SB S ++ [])))) A' [] w') := by
  have hO := hL
  obtain ⟨K, hK⟩ : ∃ K, K = keys (⟨kb, [.slice a S.length c], 41⟩ :: (G ++ (SB S ++ []))) := ⟨_, rfl⟩
  rw [← hK] at hO ⊢
  have hscl := sc_length S
  refine Spec.enter (n := 101) (rs := [.tmp 2]) Tryz.func9 rfl rfl rfl rfl ?_
  refine WP.rs ?_
  refine WPL.as (v := .bool false) rfl rfl ?_
  refine WPL.nil ?_
  refine WP.seq ?_
  refine WP.rs ?_
  refine WPL.as (v := .int .i64 0) rfl rfl ?_
  refine WPL.nil ?_
  refine WP.block ?_
  refine WP.loop (fun m σ ds w' => ∃ (s1 s2 : List Sl), m + s1.length = S.length ∧ sc (s1 ++ s2) = sc S ∧ (∀ x ∈ s1 ++ s2, SlOk 62 x) ∧ Marked s1 ∧ Has σ [(0, .pointer (some ⟨kb, 0, none⟩)), (3, .int .i64 (s1.length : Int))] ∧ ds = [] ∧ Own [] w0 K (⟨kb, [.slice a S.length c], 41⟩ :: (G ++ (SB s1 ++ (SB s2 ++ [])))) [] w') S.length ?_ ?_
  · exact ⟨[], S, rfl, rfl, hok, fun j x h => by simp at h, ⟨rfl, rfl, trivial⟩, rfl, hO⟩
  · rintro m σ ds w ⟨s1, s2, hm, hsc, hok1, hmk, hH, rfl, hO⟩
    refine WP.reset hH ?_
    have hl12 : s1.length + s2.length = S.length := by have := congrArg List.length hsc; rw [sc_length, sc_length, List.length_append] at this; exact this
    refine WP.seq ?_
    refine WP.rs ?_
    refine WPL.mv (v := .int .i64 _) rfl rfl ?_
    refine WPL.mv (v := .pointer _) rfl rfl ?_
    refine WPL.nc rfl rfl ?_
    refine WPL.fa rfl rfl ?_
    refine WPL.ldL rfl hO inferInstance rfl rfl rfl ?_
    refine WPL.len rfl rfl ?_
    refine WPL.lt rfl rfl rfl ?_
    refine WPL.nil ?_
    refine WP.condP rfl (fun h1 => ?_) (fun h1 => ?_)
    · refine WP.skip ?_
      refine WP.seq ?_
      refine WP.block ?_
      refine WP.rs ?_
      refine WPL.as (v := .int .i64 0) rfl rfl ?_
      refine WPL.nil ?_
      refine WP.block ?_
      obtain ⟨x, s2, rfl⟩ : ∃ x s2', s2 = x :: s2' := List.exists_cons_of_ne_nil (fun e => by rw [e] at hl12; simp at hl12; omega)
      have hxo := hok1 x (by simp)
      have hcell : (sc S)[s1.length * 1]? = some x.cell := by rw [← hsc]; exact get1 (sc_get (by simp))
      refine WP.loop (fun m' σ ds w' => ∃ (k : Nat) (yG : List Blk), m' + k = x.l.length ∧ Grown x.a x.c 1 (ws .u32 (List.replicate k (1000 + s1.length) ++ x.l.drop k)) 62 yG ∧ Has σ [(0, .pointer (some ⟨kb, 0, none⟩)), (3, .int .i64 (s1.length : Int)), (4, .int .i64 (k : Int))] ∧ ds = [] ∧ Own [] w0 K (⟨kb, [.slice a S.length c], 41⟩ :: (G ++ (SB s1 ++ (yG ++ (SB s2 ++ []))))) [] w') x.l.length ?_ ?_
      · exact ⟨0, x.G, rfl, hxo.1, ⟨rfl, rfl, rfl, trivial⟩, rfl, by rw [SB_cons] at hO; simpa only [List.append_assoc] using hO⟩
      · rintro m' σ ds w ⟨k, yG, hmk', hy, hH, rfl, hO⟩
        refine WP.reset hH ?_
        have hx6 := hxo.2.2
        refine WP.seq ?_
        refine WP.rs ?_
        refine WPL.mv (v := .int .i64 _) rfl rfl ?_
        refine WPL.mv (v := .pointer _) rfl rfl ?_
        refine WPL.nc rfl rfl ?_
        refine WPL.fa rfl rfl ?_
        refine WPL.ldL rfl hO inferInstance rfl rfl rfl ?_
        refine WPL.mv (v := .int .i64 _) rfl rfl ?_
        refine WPL.ixG (j := s1.length) (vals := sc S) rfl (hO.rdG hG) rfl rfl (by omega) (by rw [sc_length]; show s1.length * 1 < _; omega) rfl ?_
        refine WPL.ldG (s1.length * 1) rfl (hO.rdG hG) hcell rfl rfl ?_
        refine WPL.len rfl rfl ?_
        refine WPL.lt rfl rfl rfl ?_
        refine WPL.nil ?_
        refine WP.condP rfl (fun h2 => ?_) (fun h2 => ?_)
        · refine WP.skip ?_
          refine WP.seq ?_
          refine WP.block ?_
          refine WP.region ?_
          refine WPL.mv (v := .pointer _) rfl rfl ?_
          refine WPL.nc rfl rfl ?_
          refine WPL.fa rfl rfl ?_
          refine WPL.ldL rfl hO inferInstance rfl rfl rfl ?_
          refine WPL.mv (v := .int .i64 _) rfl rfl ?_
          refine WPL.ixG (j := s1.length) (vals := sc S) rfl (hO.rdG hG) rfl rfl (by omega) (by rw [sc_length]; show s1.length * 1 < _; omega) rfl ?_
          refine WPL.ldG (s1.length * 1) rfl (hO.rdG hG) hcell rfl rfl ?_
          refine WPL.mv (v := .int .i64 _) rfl rfl ?_
          refine WPL.mv (v := .int .i64 _) rfl rfl ?_
          refine WPL.addTo (((1000 + s1.length : Nat)) : Int) rfl rfl (by omega) (by omega) rfl ?_
          refine WPL.cv_u32 (a := 1000 + s1.length) rfl (by omega) rfl ?_
          refine WPL.ixG (j := k) (vals := ws .u32 (List.replicate k (1000 + s1.length) ++ x.l.drop k)) rfl (hO.rdG hy) rfl rfl (by omega) (by rw [ws_length, mark_len (by omega)]; show k * 1 < _; omega) rfl ?_
          have hO : Own [] w0 K ((⟨kb, [.slice a S.length c], 41⟩ :: (G ++ SB s1)) ++ (yG ++ (SB s2 ++ []))) [] w := by simpa only [List.cons_append, List.append_assoc] using hO
          refine WPL.stG (v := .int .u32 ((1000 + s1.length : Nat) : Int)) (⟨kb, [.slice a S.length c], 41⟩ :: (G ++ SB s1)) (SB s2 ++ []) (k * 1) rfl rfl hO hy (by rw [ws_length, mark_len (by omega)]; omega) rfl rfl (fun zG w hz hO => ?_)
          refine WPL.nil ?_
          refine WP.region ?_
          refine WPL.mv (v := .int .i64 _) rfl rfl ?_
          refine WPL.addI rfl rfl (by omega) rfl ?_
          refine WPL.as (v := .int .i64 _) rfl rfl ?_
          refine WPL.nil ?_
          simp only [List.cons_append, List.append_assoc] at hO
          rw [Nat.mul_one, ws_set, mark_set (by omega)] at hz
          exact ⟨m' - 1, by omega, k + 1, zG, by omega, hz, ⟨rfl, rfl, rfl, trivial⟩, rfl, hO⟩
        · refine WP.exit ?_
          refine WP.region ?_
          refine WPL.mv (v := .int .i64 _) rfl rfl ?_
          refine WPL.addI rfl rfl (by omega) rfl ?_
          refine WPL.as (v := .int .i64 _) rfl rfl ?_
          refine WPL.nil ?_
          obtain rfl : k = x.l.length := by omega
          rw [mark_all] at hy
          have hsc' : sc ((s1 ++ [⟨x.a, List.replicate x.l.length (1000 + s1.length), x.c, yG⟩]) ++ s2) = sc S := by
            rw [← hsc]; simp [sc, Sl.cell]
          refine ⟨m - 1, by omega, s1 ++ [⟨x.a, List.replicate x.l.length (1000 + s1.length), x.c, yG⟩], s2, by simp; omega, hsc', ?_, hmk.snoc (by simp), ⟨rfl, by show Value.int .i64 _ = _; congr 1; simp, trivial⟩, rfl, ?_⟩
          · intro z hz
            simp only [List.mem_append, List.mem_singleton] at hz
            rcases hz with (hz | rfl) | hz
            · exact hok1 z (List.mem_append_left _ hz)
            · exact ⟨hy, by simp only [List.length_replicate]; exact hxo.2.1, by simp only [List.length_replicate]; exact hxo.2.2⟩
            · exact hok1 z (List.mem_append_right _ (List.mem_cons_of_mem _ hz))
          · rw [SB_append, SB_one, List.append_assoc]; exact hO
    · refine WP.exit ?_
      refine WP.rs ?_
      refine WPL.as (v := .slice none 0 0) rfl rfl ?_
      refine WPL.nil ?_
      refine WP.seq ?_
      refine WP.rs ?_
      refine WPL.as (v := .int .i64 0) rfl rfl ?_
      refine WPL.nil ?_
      refine WP.block ?_
      have es2 : s2 = [] := List.eq_nil_of_length_eq_zero (by omega)
      subst es2
      have hs1 : s1.length = S.length := by omega
      rw [List.append_nil] at hsc hok1
      refine WP.loop (fun m σ ds w' => ∃ (sd : Nat) (E : List Ent) (Pool : List Blk) (aA : Option Addr) (cA : Nat) (GA : List Blk), m + sd = S.length ∧ E.length = 5 * sd ∧ Grown aA cA 1 (ec E) 44 GA ∧ E.length ≤ cA ∧ (∀ j e, E[j]? = some e → e.v = 1000 + j / 5 ∧ e.n ≤ 1000010 ∧ EntIn 62 Pool e) ∧ Has σ [(0, .pointer (some ⟨kb, 0, none⟩)), (5, .slice aA E.length cA), (6, .int .i64 (sd : Int))] ∧ ds = [] ∧ Own [] w0 K (⟨kb, [.slice a S.length c], 41⟩ :: (G ++ (GA ++ (Pool ++ (SB (s1.drop sd) ++ []))))) [] w') S.length ?_ ?_
      · exact ⟨0, [], [], none, 0, [], rfl, rfl, .inl ⟨rfl, rfl, rfl, rfl⟩, Nat.le_refl _, fun j e h => by simp at h, ⟨rfl, rfl, rfl, trivial⟩, rfl, by simpa [SB] using hO⟩
      · rintro m σ ds w ⟨sd, E, Pool, aA, cA, GA, hm2, hEl, hGA, hcA, hE, hH, rfl, hO⟩
        refine WP.reset hH ?_
        refine WP.seq ?_
        refine WP.rs ?_
        refine WPL.mv (v := .int .i64 _) rfl rfl ?_
        refine WPL.mv (v := .pointer _) rfl rfl ?_
        refine WPL.nc rfl rfl ?_
        refine WPL.fa rfl rfl ?_
        refine WPL.ldL rfl hO inferInstance rfl rfl rfl ?_
        refine WPL.len rfl rfl ?_
        refine WPL.lt rfl rfl rfl ?_
        refine WPL.nil ?_
        refine WP.condP rfl (fun h3 => ?_) (fun h3 => ?_)
        · refine WP.skip ?_
          refine WP.seq ?_
          refine WP.block ?_
          refine WP.rs ?_
          obtain ⟨x, hx⟩ : ∃ x, s1[sd]? = some x := ⟨s1[sd]'(by omega), List.getElem?_eq_getElem _⟩
          have hxo := hok1 x (List.mem_of_getElem? hx)
          have hxl := hmk sd x hx
          have hdrop : s1.drop sd = x :: s1.drop (sd + 1) := by
            rw [List.drop_eq_getElem_cons (show sd < s1.length by omega)]
            rw [List.getElem?_eq_getElem (show sd < s1.length by omega)] at hx
            simp only [Option.some.injEq] at hx
            rw [hx]
          have hcell : (sc S)[sd * 1]? = some x.cell := by rw [← hsc]; exact get1 (sc_get hx)
          refine WPL.mv (v := .pointer _) rfl rfl ?_
          refine WPL.nc rfl rfl ?_
          refine WPL.fa rfl rfl ?_
          refine WPL.ldL rfl hO inferInstance rfl rfl rfl ?_
          refine WPL.mv (v := .int .i64 _) rfl rfl ?_
          refine WPL.ixG (j := sd) (vals := sc S) rfl (hO.rdG hG) rfl rfl (by omega) (by rw [sc_length]; show sd * 1 < _; omega) rfl ?_
          refine WPL.ldG (sd * 1) rfl (hO.rdG hG) hcell rfl rfl ?_
          refine WPL.as (v := .slice _ _ _) rfl rfl ?_
          refine WPL.nil ?_
          refine WP.rs ?_
          refine WPL.as (v := .int .i64 0) rfl rfl ?_
          refine WPL.nil ?_
          refine WP.block ?_
          refine WP.loop (fun m' σ ds w' => ∃ (k : Nat) (ax : Option Addr) (cx : Nat) (Gx Pc : List Blk) (Ec : List Ent) (aB : Option Addr) (cB : Nat) (GB : List Blk), m' + k = 5 ∧ Grown ax cx 1 (ws .u32 (List.replicate (x.l.length + k) (1000 + sd))) 62 Gx ∧ x.l.length + k ≤ cx ∧ Ec.length = k ∧ Grown aB cB 1 (ec (E ++ Ec)) 44 GB ∧ E.length + k ≤ cB ∧ (∀ e ∈ Ec, e.v = (1000 + sd) ∧ e.n ≤ x.l.length + k ∧ EntIn 62 (Gx ++ Pc) e) ∧ Has σ [(0, .pointer (some ⟨kb, 0, none⟩)), (5, .slice aB (E.length + k) cB), (6, .int .i64 (sd : Int)), (7, .slice ax (x.l.length + k) cx), (8, .int .i64 (k : Int))] ∧ ds = [] ∧ Own [] w0 K (⟨kb, [.slice a S.length c], 41⟩ :: (G ++ (GB ++ (Gx ++ (Pc ++ (Pool ++ (SB (s1.drop (sd + 1)) ++ []))))))) [] w') 5 ?_ ?_
          · refine ⟨0, x.a, x.c, x.G, [], [], aA, cA, GA, rfl, by rw [Nat.add_zero, ← hxl]; exact hxo.1, hxo.2.1, rfl, by rw [List.append_nil]; exact hGA, hcA, (fun e he => by cases he), ⟨rfl, rfl, rfl, rfl, rfl, trivial⟩, rfl, ?_⟩
            rw [hdrop, SB_cons] at hO
            exact hO.perm (by classical exact List.perm_iff_count.2 (fun z => by simp only [List.count_append, List.count_cons, List.count_nil]; omega))
          · rintro m' σ ds w ⟨k, ax, cx, Gx, Pc, Ec, aB, cB, GB, hm3, hGx, hcx, hEcl, hGB, hcB, hEc, hH, rfl, hO⟩
            refine WP.reset hH ?_
            have hx6 := hxo.2.2
            refine WP.seq ?_
            refine WP.rs ?_
            refine WPL.mv (v := .int .i64 _) rfl rfl ?_
            refine WPL.lt rfl rfl rfl ?_
            refine WPL.nil ?_
            refine WP.condP rfl (fun h4 => ?_) (fun h4 => ?_)
            · refine WP.skip ?_
              refine WP.seq ?_
              refine WP.block ?_
              refine WP.rs ?_
              refine WPL.mv (v := .slice _ _ _) rfl rfl ?_
              refine WPL.mv (v := .slice _ _ _) rfl rfl ?_
              refine WPL.bs1 (pv := [(0, .slice _ _ _)]) (vs := [_]) rfl hO rfl rfl rfl rfl (fun b1 w hO => ?_)
              have hO := hO.freeze
              have hsrc : SrcRow w (.slice (some ⟨b1, 0, none⟩) 1 1) 1 1 (ec [⟨ax, x.l.length + k, (1000 + sd), cx⟩]) := ⟨_, _, rfl, by simp [ec], hO.rd, ec_one _⟩
              have hO : Own [] w0 K (GB ++ (⟨kb, [.slice a S.length c], 41⟩ :: (G ++ (Gx ++ (Pc ++ (Pool ++ (SB (s1.drop (sd + 1)) ++ []))))))) _ w := hO.perm (by classical exact List.perm_iff_count.2 (fun z => by simp only [List.count_append, List.count_cons, List.count_nil]; omega))
              refine WPL.app (ze := [.slice none 0 0]) (vals := ec (E ++ Ec)) rfl hO hGB (by simp [ec_length]; omega) hcB hsrc (by decide) (by omega) (by omega) rfl (fun a67 c67 G67 w hG67 hc67 hO => ?_)
              have hO := hO.dropR
              rw [← ec_append] at hG67
              have hO : Own [] w0 K (⟨kb, [.slice a S.length c], 41⟩ :: (G ++ (G67 ++ (Gx ++ (Pc ++ (Pool ++ (SB (s1.drop (sd + 1)) ++ []))))))) [] w := hO.perm (by classical exact List.perm_iff_count.2 (fun z => by simp only [List.count_append, List.count_cons, List.count_nil]; omega))
              refine WPL.as (v := .slice _ _ _) rfl rfl ?_
              refine WPL.nil ?_
              refine WP.region ?_
              refine WPL.mv (v := .slice _ _ _) rfl rfl ?_
              refine WPL.mv (v := .int .i64 _) rfl rfl ?_
              refine WPL.addTo (((1000 + sd : Nat)) : Int) rfl rfl (by omega) (by omega) rfl ?_
              refine WPL.cv_u32 (a := 1000 + sd) rfl (by omega) rfl ?_
              refine WPL.bs1 (pv := [(0, .int .u32 _)]) (vs := [_]) rfl hO rfl rfl rfl rfl (fun b2 w hO => ?_)
              have hO := hO.freeze
              have hsrc : SrcRow w (.slice (some ⟨b2, 0, none⟩) 1 1) 1 1 (ws .u32 [1000 + sd]) := ⟨_, _, rfl, by simp, hO.rd, ws_one _ _⟩
              have hO : Own [] w0 K (Gx ++ (⟨kb, [.slice a S.length c], 41⟩ :: (G ++ (G67 ++ (Pc ++ (Pool ++ (SB (s1.drop (sd + 1)) ++ []))))))) _ w := hO.perm (by classical exact List.perm_iff_count.2 (fun z => by simp only [List.count_append, List.count_cons, List.count_nil]; omega))
              refine WPL.app2 (ze := [.int .u32 0]) (vals := ws .u32 (List.replicate (x.l.length + k) (1000 + sd))) rfl hO hGx (by simp) hcx hsrc (by decide) (by omega) (by omega) rfl (fun a73 c73 G73 O73 w hG73 hc73 hor73 hO => ?_)
              have hO := hO.dropR
              have hO : Own [] w0 K (⟨kb, [.slice a S.length c], 41⟩ :: (G ++ (G67 ++ (G73 ++ ((O73 ++ Pc) ++ (Pool ++ (SB (s1.drop (sd + 1)) ++ []))))))) [] w := hO.perm (by classical exact List.perm_iff_count.2 (fun z => by simp only [List.count_append, List.count_cons, List.count_nil]; omega))
              refine WPL.as (v := .slice _ _ _) rfl rfl ?_
              refine WPL.nil ?_
              refine WP.region ?_
              refine WPL.mv (v := .int .i64 _) rfl rfl ?_
              refine WPL.addI rfl rfl (by omega) rfl ?_
              refine WPL.as (v := .int .i64 _) rfl rfl ?_
              refine WPL.nil ?_
              refine ⟨m' - 1, by omega, k + 1, a73, c73, G73, O73 ++ Pc, Ec ++ [⟨ax, x.l.length + k, (1000 + sd), cx⟩], a67, c67, G67, by omega, by rw [ws_rep1] at hG73; exact hG73, by omega, by simp; omega, by rw [← List.append_assoc]; exact hG67, by omega, ?_, ⟨rfl, rfl, rfl, rfl, rfl, trivial⟩, rfl, hO⟩
              rw [ws_rep1] at hG73
              intro e he
              rcases List.mem_append.1 he with he | he
              · have h9 := hEc e he
                exact ⟨h9.1, by omega, h9.2.2.step h9.1 hGx hG73 hor73 h9.2.1⟩
              · obtain rfl := List.mem_singleton.1 he
                exact ⟨rfl, Nat.le_succ _, ((EntIn.of hGx).mono (fun b hb => List.mem_append_left Pc hb)).step rfl hGx hG73 hor73 (Nat.le_refl _)⟩
            · refine WP.exit ?_
              refine WP.region ?_
              refine WPL.mv (v := .int .i64 _) rfl rfl ?_
              refine WPL.addI rfl rfl (by omega) rfl ?_
              refine WPL.as (v := .int .i64 _) rfl rfl ?_
              refine WPL.nil ?_
              obtain rfl : k = 5 := by omega
              refine ⟨m - 1, by omega, sd + 1, E ++ Ec, Gx ++ (Pc ++ Pool), aB, cB, GB, by omega, by simp; omega, hGB, by simp; omega, ?_, ⟨rfl, by show Value.slice _ _ _ = _; congr 1; simp; omega, rfl, trivial⟩, rfl, hO.perm (by classical exact List.perm_iff_count.2 (fun z => by simp only [List.count_append, List.count_cons, List.count_nil]; omega))⟩
              intro j e hj
              rcases Nat.lt_or_ge j E.length with hl | hl
              · rw [List.getElem?_append_left hl] at hj
                have h9 := hE j e hj
                exact ⟨h9.1, h9.2.1, h9.2.2.mono (fun b hb => List.mem_append_right _ (List.mem_append_right _ hb))⟩
              · rw [List.getElem?_append_right hl] at hj
                have hlt : j - E.length < Ec.length := (List.getElem?_eq_some_iff.1 hj).1
                have h9 := hEc e (List.mem_of_getElem? hj)
                exact ⟨by rw [h9.1]; omega, by omega, h9.2.2.mono (fun b hb => by
                  rcases List.mem_append.1 hb with hb | hb
                  · exact List.mem_append_left _ hb
                  · exact List.mem_append_right _ (List.mem_append_left _ hb))⟩
        · refine WP.exit ?_
          refine WP.seq ?_
          refine WP.rs ?_
          refine WPL.as (v := .int .i64 0) rfl rfl ?_
          refine WPL.nil ?_
          refine WP.block ?_
          have hsd : sd = S.length := by omega
          refine WP.loop (fun m σ ds w' => ∃ i, m + i = E.length ∧ Has σ [(5, .slice aA E.length cA), (9, .int .i64 (i : Int))] ∧ ds = [] ∧ Own [] w0 K (⟨kb, [.slice a S.length c], 41⟩ :: (G ++ (GA ++ (Pool ++ (SB (s1.drop sd) ++ []))))) [] w') E.length ?_ ?_
          · exact ⟨0, rfl, ⟨rfl, rfl, trivial⟩, rfl, hO⟩
          · clear hO
            rintro m σ ds w ⟨i, hi, hH, rfl, hO⟩
            refine WP.reset hH ?_
            refine WP.seq ?_
            refine WP.rs ?_
            refine WPL.mv (v := .int .i64 _) rfl rfl ?_
            refine WPL.mv (v := .slice _ _ _) rfl rfl ?_
            refine WPL.len rfl rfl ?_
            refine WPL.lt rfl rfl rfl ?_
            refine WPL.nil ?_
            refine WP.condP rfl (fun h5 => ?_) (fun h5 => ?_)
            · refine WP.skip ?_
              refine WP.seq ?_
              refine WP.block ?_
              refine WP.rs ?_
              refine WPL.as (v := .int .i64 0) rfl rfl ?_
              refine WPL.nil ?_
              refine WP.block ?_
              obtain ⟨e, he⟩ : ∃ e, E[i]? = some e := ⟨E[i]'(by omega), List.getElem?_eq_getElem _⟩
              obtain ⟨hev, hen, hein⟩ := hE i e he
              have hsub : ∀ b ∈ Pool, b ∈ (⟨kb, [.slice a S.length c], 41⟩ :: (G ++ (GA ++ (Pool ++ (SB (s1.drop sd) ++ []))))) := fun b hb => List.mem_cons_of_mem _ (List.mem_append_right _ (List.mem_append_right _ (List.mem_append_left _ hb)))
              refine WP.loop (fun m' σ ds w' => ∃ k, m' + k = e.n ∧ Has σ [(5, .slice aA E.length cA), (9, .int .i64 (i : Int)), (10, .int .i64 (k : Int))] ∧ ds = [] ∧ Own [] w0 K (⟨kb, [.slice a S.length c], 41⟩ :: (G ++ (GA ++ (Pool ++ (SB (s1.drop sd) ++ []))))) [] w') e.n ?_ ?_
              · exact ⟨0, rfl, ⟨rfl, rfl, rfl, trivial⟩, rfl, hO⟩
              · clear hO
                rintro m' σ ds w ⟨k, hk, hH, rfl, hO⟩
                refine WP.reset hH ?_
                refine WP.seq ?_
                refine WP.rs ?_
                refine WPL.mv (v := .int .i64 _) rfl rfl ?_
                refine WPL.mv (v := .slice _ _ _) rfl rfl ?_
                refine WPL.mv (v := .int .i64 _) rfl rfl ?_
                refine WPL.ixG (j := i) (vals := ec E) rfl (hO.rdG hGA) rfl rfl (by omega) (by rw [ec_length]; show i * 1 < _; omega) rfl ?_
                refine WPL.ldG (i * 1) rfl (hO.rdG hGA) (get1 (ec_get he)) rfl rfl ?_
                refine WPL.len rfl rfl ?_
                refine WPL.lt rfl rfl rfl ?_
                refine WPL.nil ?_
                refine WP.condP rfl (fun h6 => ?_) (fun h6 => ?_)
                · refine WP.skip ?_
                  refine WP.seq ?_
                  refine WP.block ?_
                  refine WP.rs ?_
                  refine WPL.mv (v := .slice _ _ _) rfl rfl ?_
                  refine WPL.mv (v := .int .i64 _) rfl rfl ?_
                  refine WPL.ixG (j := i) (vals := ec E) rfl (hO.rdG hGA) rfl rfl (by omega) (by rw [ec_length]; show i * 1 < _; omega) rfl ?_
                  refine WPL.ldG (i * 1) rfl (hO.rdG hGA) (get1 (ec_get he)) rfl rfl ?_
                  refine WPL.mv (v := .int .i64 _) rfl rfl ?_
                  refine WPL.ixG (j := k) (vals := ws .u32 (List.replicate e.n e.v)) rfl (EntIn.row hO hein hsub) rfl rfl (by omega) (by rw [ws_length, List.length_replicate]; show k * 1 < _; omega) rfl ?_
                  refine WPL.ldG (k * 1) rfl (EntIn.row hO hein hsub) (ws_repget (by omega)) rfl rfl ?_
                  refine WPL.mv (v := .int .i64 _) rfl rfl ?_
                  refine WPL.quoN (a := i) (b := 5) rfl rfl (by omega) (by omega) rfl ?_
                  refine WPL.addTo (((1000 + i / 5 : Nat)) : Int) rfl rfl (by omega) (by omega) rfl ?_
                  refine WPL.cv_u32 (a := 1000 + i / 5) rfl (by omega) rfl ?_
                  refine WPL.ne rfl rfl rfl ?_
                  refine WPL.nil ?_
                  refine WP.condP rfl (fun h7 => ?_) (fun h7 => ?_)
                  · exact absurd (by omega) h7
                  · refine WP.skip ?_
                    refine WP.region ?_
                    refine WPL.mv (v := .int .i64 _) rfl rfl ?_
                    refine WPL.addI rfl rfl (by omega) rfl ?_
                    refine WPL.as (v := .int .i64 _) rfl rfl ?_
                    refine WPL.nil ?_
                    exact ⟨m' - 1, by omega, k + 1, by omega, ⟨rfl, rfl, rfl, trivial⟩, rfl, hO⟩
                · refine WP.exit ?_
                  refine WP.region ?_
                  refine WPL.mv (v := .int .i64 _) rfl rfl ?_
                  refine WPL.addI rfl rfl (by omega) rfl ?_
                  refine WPL.as (v := .int .i64 _) rfl rfl ?_
                  refine WPL.nil ?_
                  exact ⟨m - 1, by omega, i + 1, by omega, ⟨rfl, rfl, trivial⟩, rfl, hO⟩
            · refine WP.exit ?_
              refine WP.rs ?_
              refine WPL.as (v := .bool true) rfl rfl ?_
              refine WPL.nil ?_
              refine WP.ret ?_
              refine ⟨rfl, ?_⟩
              refine RO.tmp (v := .bool _) rfl ?_
              refine RO.nil ?_
              exact ⟨rfl, _, hO⟩
end Go.Sw
