/- A part of the proof that BinsAlike answers true: steps of the walk, or plain laws that it needs. No conditions of its own. -/
import Derived.Test.YtdaphmoojpbddaaDoorSVX1
import Derived.Test.YtdaphmoojpbddaaDoorSB10
set_option linter.all false
namespace Go.Sw
set_option autoImplicit false
set_option linter.all false
open Go.Proofs Go.RowKit

theorem law_awake {w0 : World} (ht : TabOk tabs w0) : Spec Tryd.prog 4 [] w0 (fun v w' => FrX [] w0 w' ∧ v = .bool true) := by
  have hO : Own tabs w0 [] [] [] w0 := Own.start ht (by intro r hr'; cases hr')
  refine Spec.enter (n := 74) (rs := [.tmp 0]) Tryd.func4 rfl rfl rfl rfl ?_
  refine WP.rs ?_
  refine WPL.as (v := .bool false) rfl rfl ?_
  refine WPL.nil ?_
  refine WP.rs ?_
  refine WPL.call rfl (bins_New 1) Tryd.func5 rfl rfl rfl ?_
  rintro _ w hpost
  obtain ⟨-, b, rfl, hfb, hnb⟩ := hpost.resolve_left (fun hx => by have := hx.1; omega)
  have hO := hO.takeB hfb hnb
  have hO : Own tabs w0 [] [⟨b, bnC aw0, 57⟩] [] w := hO
  refine WPL.as (v := .pointer _) rfl rfl ?_
  refine WPL.nil ?_
  refine WP.rs ?_
  refine WPL.call rfl (bins_New 9) Tryd.func5 rfl rfl rfl ?_
  rintro _ w hpost
  obtain ⟨-, rfl, rfl⟩ := hpost.resolve_right (fun hx => by have := hx.1; omega)
  refine WPL.as (v := .pointer _) rfl rfl ?_
  refine WPL.nil ?_
  refine WP.seq ?_
  refine WP.rs ?_
  refine WPL.mv (v := .pointer _) rfl rfl ?_
  refine WPL.eqP rfl rfl rfl ?_
  refine WPL.mv (v := .bool _) rfl rfl ?_
  refine WPL.split (s := 13) rfl (fun h1 => ?_) (fun h1 => ?_)
  · cases h1
  · refine WPL.guardT rfl rfl h1 ?_
    refine WPL.mv (v := .pointer _) rfl rfl ?_
    refine WPL.guardT rfl rfl h1 ?_
    refine WPL.neP rfl rfl rfl ?_
    refine WPL.pkF (v := .bool _) rfl h1 rfl rfl ?_
    refine WPL.nil ?_
    refine WP.condB rfl (fun h2 => ?_) (fun h2 => ?_)
    · cases h2
    · refine WP.skip ?_
      refine WP.rs ?_
      refine WPL.mv (v := .pointer _) rfl rfl ?_
      refine WPL.call rfl (bins_Add b (aw0) (hO.cells ⟨b, bnC (aw0), 57⟩ (by simp)) 4722366482869645213696 (by decide) (aw_m0.Ok.mono (by decide)) 4607182418800017408 (by decide)) Tryd.func17 rfl rfl rfl ?_
      rintro _ w ⟨rfl, hfx, hcx⟩
      rw [aw_add1]
      have hO := hO.turn1 (b := b) (cs := bnC ((aw0).addF 4607182418800017408)) inferInstance inferInstance hfx hcx
      clear hfx hcx
      refine WPL.as (v := .int .i64 _) rfl rfl ?_
      refine WPL.nil ?_
      refine WP.rs ?_
      refine WPL.mv (v := .pointer _) rfl rfl ?_
      refine WPL.call rfl (bins_Add b (aw0.addF 4607182418800017408) (hO.cells ⟨b, bnC (aw0.addF 4607182418800017408), 57⟩ (by simp)) 4722366482869645213696 (by decide) (aw_m1.Ok.mono (by decide)) 4458563631096791040 (by decide)) Tryd.func17 rfl rfl rfl ?_
      rintro _ w ⟨rfl, hfx, hcx⟩
      rw [aw_add2]
      have hO := hO.turn1 (b := b) (cs := bnC ((aw0.addF 4607182418800017408).addF 4458563631096791040)) inferInstance inferInstance hfx hcx
      clear hfx hcx
      refine WPL.as (v := .int .i64 _) rfl rfl ?_
      refine WPL.nil ?_
      refine WP.rs ?_
      refine WPL.mv (v := .pointer _) rfl rfl ?_
      refine WPL.call rfl (bins_Add b ((aw0.addF 4607182418800017408).addF 4458563631096791040) (hO.cells ⟨b, bnC ((aw0.addF 4607182418800017408).addF 4458563631096791040), 57⟩ (by simp)) 4722366482869645213696 (by decide) (aw_m2.Ok.mono (by decide)) 4751297606876921856 (by decide)) Tryd.func17 rfl rfl rfl ?_
      rintro _ w ⟨rfl, hfx, hcx⟩
      rw [aw_add3]
      have hO := hO.turn1 (b := b) (cs := bnC (((aw0.addF 4607182418800017408).addF 4458563631096791040).addF 4751297606876921856)) inferInstance inferInstance hfx hcx
      clear hfx hcx
      rw [aw_state] at hO
      refine WPL.as (v := .int .i64 _) rfl rfl ?_
      refine WPL.nil ?_
      refine WP.rs ?_
      refine WPL.mv (v := .pointer _) rfl rfl ?_
      refine WPL.call rfl (bins_Kept hO.tab b (notab hO (b := b) (by simp [keys])) aw3 (hO.cells ⟨b, bnC aw3, 57⟩ (by simp)) 4722366482869645213696 (by decide) aw_ok) Tryd.func18 rfl rfl rfl ?_
      rintro _ w ⟨hf24, a24, c24, rfl, hc24, hr24⟩
      rw [aw_kept] at hc24 hr24
      rw [aw_kept]
      have hO := hO.call hf24
      unfold dyV
      refine WPL.al hO rfl (fun b1 w hO => ?_)
      refine WPL.stLA (T := T34) rfl rfl hO inferInstance inferInstance (by simp [Value.oneCell']) rfl rfl (fun w hO => ?_)
      refine WPL.nil ?_
      refine WP.rs ?_
      refine WPL.mv (v := .pointer _) rfl rfl ?_
      refine WPL.call rfl (bins_Round hO.tab b (notab hO (b := b) (by simp [keys])) aw3 (hO.cells ⟨b, bnC aw3, 57⟩ (by simp)) 4722366482869645213696 (by decide) aw_ok 0) Tryd.func19 rfl rfl rfl ?_
      rintro _ w ⟨hf27, rfl⟩
      rw [aw_kept, aw_round]
      have hO := hO.call hf27
      refine WPL.mv (v := .tuple #[.float .f64 _, .int .i64 _]) rfl rfl ?_
      refine WPL.ext (v := .float .f64 _) rfl rfl rfl ?_
      refine WPL.ext (v := .int .i64 _) rfl rfl rfl ?_
      refine WPL.as (v := .float .f64 _) rfl rfl ?_
      refine WPL.as (v := .int .i64 _) rfl rfl ?_
      refine WPL.nil ?_
      refine WP.rs ?_
      refine WPL.mv (v := .int .i64 _) rfl rfl ?_
      refine WPL.eq rfl rfl rfl ?_
      refine WPL.mv (v := .bool _) rfl rfl ?_
      refine WPL.split (s := 32) rfl (fun h3 => ?_) (fun h3 => ?_)
      · have ph3 := of_decide_eq_true h3
        refine WPL.guardT rfl rfl h3 ?_
        refine WPL.mv (v := .int .i64 _) rfl rfl ?_
        refine WPL.guardT rfl rfl h3 ?_
        refine WPL.eq rfl rfl rfl ?_
        refine WPL.pkT (v := .bool _) rfl h3 rfl rfl ?_
        refine WPL.mv (v := .bool _) rfl rfl ?_
        refine WPL.split (s := 36) rfl (fun h4 => ?_) (fun h4 => ?_)
        · have ph4 := of_decide_eq_true h4
          refine WPL.guardT rfl rfl h4 ?_
          refine WPL.mv (v := .int .i64 _) rfl rfl ?_
          refine WPL.guardT rfl rfl h4 ?_
          refine WPL.eq rfl rfl rfl ?_
          refine WPL.pkT (v := .bool _) rfl h4 rfl rfl ?_
          refine WPL.mv (v := .bool _) rfl rfl ?_
          refine WPL.split (s := 40) rfl (fun h5 => ?_) (fun h5 => ?_)
          · have ph5 := of_decide_eq_true h5
            refine WPL.guardT rfl rfl h5 ?_
            refine WPL.mv (v := .int .i64 _) rfl rfl ?_
            refine WPL.guardT rfl rfl h5 ?_
            refine WPL.eq rfl rfl rfl ?_
            refine WPL.pkT (v := .bool _) rfl h5 rfl rfl ?_
            refine WPL.mv (v := .bool _) rfl rfl ?_
            refine WPL.split (s := 44) rfl (fun h6 => ?_) (fun h6 => ?_)
            · have ph6 := of_decide_eq_true h6
              refine WPL.guardT rfl rfl h6 ?_
              refine WPL.mv (v := .float .f64 _) rfl rfl ?_
              refine WPL.guardT rfl rfl h6 ?_
              refine WPL.feq rfl rfl rfl ?_
              refine WPL.pkT (v := .bool _) rfl h6 rfl rfl ?_
              refine WPL.mv (v := .bool _) rfl rfl ?_
              refine WPL.split (s := 48) rfl (fun h7 => ?_) (fun h7 => ?_)
              · refine WPL.guardT rfl rfl h7 ?_
                refine WPL.fa rfl rfl ?_
                refine WPL.guardT rfl rfl h7 ?_
                refine WPL.ldL rfl hO inferInstance rfl rfl rfl ?_
                refine WPL.guardT rfl rfl h7 ?_
                refine WPL.len rfl rfl ?_
                refine WPL.guardT rfl rfl h7 ?_
                refine WPL.eq rfl rfl rfl ?_
                refine WPL.pkT (v := .bool _) rfl h7 rfl rfl ?_
                refine WPL.mv (v := .bool _) rfl rfl ?_
                refine WPL.split (s := 54) rfl (fun h8 => ?_) (fun h8 => ?_)
                · have ph8 := of_decide_eq_true h8
                  refine WPL.guardT rfl rfl h8 ?_
                  refine WPL.fa rfl rfl ?_
                  refine WPL.guardT rfl rfl h8 ?_
                  refine WPL.ldL rfl hO inferInstance rfl rfl rfl ?_
                  refine WPL.guardT rfl rfl h8 ?_
                  refine WPL.eq rfl rfl rfl ?_
                  refine WPL.pkT (v := .bool _) rfl h8 rfl rfl ?_
                  refine WPL.mv (v := .bool _) rfl rfl ?_
                  refine WPL.split (s := 59) rfl (fun h9 => ?_) (fun h9 => ?_)
                  · have ph9 := of_decide_eq_true h9
                    refine WPL.guardT rfl rfl h9 ?_
                    refine WPL.mv (v := .pointer _) rfl rfl ?_
                    refine WPL.guardT rfl rfl h9 ?_
                    refine WPL.call rfl (bins_Bound hO.tab b (notab hO (b := b) (by simp [keys])) aw3 (hO.cells ⟨b, bnC aw3, 57⟩ (by simp)) 4722366482869645213696 (by decide) aw_ok (by decide)) Tryd.func20 rfl rfl rfl ?_
                    rintro _ w ⟨hf61, rfl⟩
                    rw [if_pos (show aw3.any = true from rfl), aw_bound]
                    have hO := hO.call hf61
                    refine WPL.guardT rfl rfl h9 ?_
                    refine WPL.feq rfl rfl rfl ?_
                    refine WPL.pkT (v := .bool _) rfl h9 rfl rfl ?_
                    refine WPL.mv (v := .bool _) rfl rfl ?_
                    refine WPL.split (s := 64) rfl (fun h10 => ?_) (fun h10 => ?_)
                    · refine WPL.guardT rfl rfl h10 ?_
                      refine WPL.mv (v := .pointer _) rfl rfl ?_
                      refine WPL.guardT rfl rfl h10 ?_
                      refine WPL.call rfl (bins_Count b aw3 (hO.cells ⟨b, bnC aw3, 57⟩ (by simp))) Tryd.func21 rfl rfl rfl ?_
                      rintro _ _ ⟨rfl, rfl⟩
                      refine WPL.guardT rfl rfl h10 ?_
                      refine WPL.eq rfl rfl rfl ?_
                      refine WPL.pkT (v := .bool _) rfl h10 rfl rfl ?_
                      refine WPL.mv (v := .bool _) rfl rfl ?_
                      refine WPL.split (s := 69) rfl (fun h11 => ?_) (fun h11 => ?_)
                      · have ph11 := of_decide_eq_true h11
                        refine WPL.guardT rfl rfl h11 ?_
                        refine WPL.mv (v := .pointer _) rfl rfl ?_
                        refine WPL.guardT rfl rfl h11 ?_
                        refine WPL.call rfl (bins_Fold b aw3 (hO.cells ⟨b, bnC aw3, 57⟩ (by simp))) Tryd.func22 rfl rfl rfl ?_
                        rintro _ _ ⟨rfl, rfl⟩
                        refine WPL.guardT rfl rfl h11 ?_
                        refine WPL.eq rfl rfl rfl ?_
                        refine WPL.pkT (v := .bool _) rfl h11 rfl rfl ?_
                        refine WPL.as (v := .bool _) rfl rfl ?_
                        refine WPL.nil ?_
                        refine WP.ret ?_
                        refine ⟨rfl, ?_⟩
                        refine RO.tmp (v := .bool _) rfl ?_
                        refine RO.nil ?_
                        exact ⟨hO.fr, rfl⟩
                      · have ph11 := of_decide_eq_false h11
                        exact absurd (h11.symm.trans (by kernel_rfl)) Bool.false_ne_true
                    · exact absurd (h10.symm.trans (by kernel_rfl)) Bool.false_ne_true
                  · have ph9 := of_decide_eq_false h9
                    exact absurd (h9.symm.trans (by kernel_rfl)) Bool.false_ne_true
                · have ph8 := of_decide_eq_false h8
                  rw [dig_one] at h8; exact absurd h8 (by decide)
              · exact absurd (h7.symm.trans (by kernel_rfl)) Bool.false_ne_true
            · have ph6 := of_decide_eq_false h6
              exact absurd (h6.symm.trans (by kernel_rfl)) Bool.false_ne_true
          · have ph5 := of_decide_eq_false h5
            exact absurd (h5.symm.trans (by kernel_rfl)) Bool.false_ne_true
        · have ph4 := of_decide_eq_false h4
          exact absurd (h4.symm.trans (by kernel_rfl)) Bool.false_ne_true
      · have ph3 := of_decide_eq_false h3
        exact absurd (h3.symm.trans (by kernel_rfl)) Bool.false_ne_true
end Go.Sw
