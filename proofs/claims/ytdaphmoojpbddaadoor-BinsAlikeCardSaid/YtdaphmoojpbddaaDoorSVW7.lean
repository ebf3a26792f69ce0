/- A part of the proof that BinsAlike answers true: steps of the walk, or plain laws that it needs. No conditions of its own. -/
import Derived.Test.YtdaphmoojpbddaaDoorSVW6
set_option linter.all false
namespace Go.Sw
set_option autoImplicit false
set_option linter.all false
open Go.Proofs Go.RowKit

theorem bins_Add {w0 : World} (b : Nat) (B : Bn) (hb : w0.heap[b]? = some (.cells (bnC B).toArray 57 (0, 0))) (q : Int) (hq : 0 ≤ q ∧ q ≤ 10000000000000000000000) (hk : B.Ok q 1000) (x : Nat) (hx : x < 18446744073709551616) : Spec Tryd.prog 17 [.pointer (some ⟨b, 0, none⟩), .float .f64 x] w0 (fun v w' => v = .int .i64 (B.addE x) ∧ FrX [b] w0 w' ∧ w'.heap[b]? = some (.cells (bnC (B.addF x)).toArray 57 (0, 0))) := by
  have hO : Own [] w0 [b] [⟨b, bnC B, 57⟩] [] w0 := Own.startM (L := [⟨b, bnC B, 57⟩]) (by intro e he; cases he) (by intro e he; obtain rfl := List.mem_singleton.1 he; exact hb) (by simp [keys]) (by intro e he; cases he) (by intro r hr; cases hr)
  have hsp := split_ok hx
  refine Spec.enter (n := 33) (rs := [.tmp 4]) Tryd.func17 rfl rfl rfl rfl ?_
  refine WP.rs ?_
  refine WPL.bx (v := .pointer _) rfl rfl hO rfl (fun b1 w hO => ?_)
  refine WPL.as (v := .int .i64 0) rfl rfl ?_
  refine WPL.nil ?_
  refine WP.rs ?_
  refine WPL.mv (v := .float .f64 _) rfl rfl ?_
  refine WPL.call rfl (bits_Split _ (by assumption)) Tryd.func38 rfl rfl rfl ?_
  rintro _ w ⟨hf7, rfl⟩
  have hO := hO.call hf7
  unfold ptV
  refine WPL.al hO rfl (fun b2 w hO => ?_)
  refine WPL.stLA (T := T77) rfl rfl hO inferInstance inferInstance (by simp [Value.oneCell']) rfl rfl (fun w hO => ?_)
  refine WPL.nil ?_
  refine WP.seq ?_
  refine WP.block ?_
  refine WP.rs ?_
  refine WPL.ldL rfl hO inferInstance rfl rfl rfl ?_
  refine WPL.nc rfl rfl ?_
  refine WPL.fa rfl rfl ?_
  refine WPL.ldL rfl hO inferInstance rfl rfl rfl ?_
  refine WPL.ge rfl rfl rfl ?_
  refine WPL.as (v := .bool _) rfl rfl ?_
  refine WPL.nil ?_
  refine WP.condP rfl (fun h1 => ?_) (fun h1 => ?_)
  · refine WP.rs ?_
    refine WPL.as (v := .int .i64 2) rfl rfl ?_
    refine WPL.nil ?_
    refine WP.ret ?_
    refine ⟨rfl, ?_⟩
    refine RO.tmp (v := .int .i64 _) rfl ?_
    refine RO.nil ?_
    first
    | (rw [show B.addE x = _ from if_pos (by omega), show B.addF x = _ from if_pos (by omega)]; exact ⟨rfl, hO.fr, hO.cells ⟨b, _, _⟩ (List.mem_cons_of_mem _ (List.mem_cons_of_mem _ (List.mem_cons_self ..)))⟩)
    | (rw [show B.addE x = _ from (if_neg (by omega)).trans (if_pos (by omega)), show B.addF x = _ from (if_neg (by omega)).trans (if_pos (by omega))]; exact ⟨rfl, hO.fr, hO.cells ⟨b, _, _⟩ (List.mem_cons_of_mem _ (List.mem_cons_of_mem _ (List.mem_cons_self ..)))⟩)
    | (rw [show B.addE x = _ from (if_neg (by omega)).trans (if_neg (by omega)), show B.addF x = _ from (if_neg (by omega)).trans (if_neg (by omega))]; exact ⟨rfl, hO.fr, hO.cells ⟨b, _, _⟩ (List.mem_cons_of_mem _ (List.mem_cons_of_mem _ (List.mem_cons_self ..)))⟩)
  · refine WP.rs ?_
    refine WPL.fa rfl rfl ?_
    refine WPL.ldL rfl hO inferInstance rfl rfl rfl ?_
    refine WPL.eq rfl rfl rfl ?_
    refine WPL.mv (v := .bool _) rfl rfl ?_
    refine WPL.split (s := 18) rfl (fun h2 => ?_) (fun h2 => ?_)
    · have ph2 := of_decide_eq_true h2
      refine WPL.guardF rfl rfl rfl h2 ?_
      refine WPL.guardF rfl rfl rfl h2 ?_
      refine WPL.guardF rfl rfl rfl h2 ?_
      refine WPL.pkT (v := .bool true) rfl h2 rfl rfl ?_
      refine WPL.as (v := .bool _) rfl rfl ?_
      refine WPL.nil ?_
      refine WP.cT rfl rfl ?_
      refine WP.rs ?_
      refine WPL.as (v := .int .i64 30) rfl rfl ?_
      refine WPL.nil ?_
      refine WP.ret ?_
      refine ⟨rfl, ?_⟩
      refine RO.tmp (v := .int .i64 _) rfl ?_
      refine RO.nil ?_
      first
      | (rw [show B.addE x = _ from if_pos (by omega), show B.addF x = _ from if_pos (by omega)]; exact ⟨rfl, hO.fr, hO.cells ⟨b, _, _⟩ (List.mem_cons_of_mem _ (List.mem_cons_of_mem _ (List.mem_cons_self ..)))⟩)
      | (rw [show B.addE x = _ from (if_neg (by omega)).trans (if_pos (by omega)), show B.addF x = _ from (if_neg (by omega)).trans (if_pos (by omega))]; exact ⟨rfl, hO.fr, hO.cells ⟨b, _, _⟩ (List.mem_cons_of_mem _ (List.mem_cons_of_mem _ (List.mem_cons_self ..)))⟩)
      | (rw [show B.addE x = _ from (if_neg (by omega)).trans (if_neg (by omega)), show B.addF x = _ from (if_neg (by omega)).trans (if_neg (by omega))]; exact ⟨rfl, hO.fr, hO.cells ⟨b, _, _⟩ (List.mem_cons_of_mem _ (List.mem_cons_of_mem _ (List.mem_cons_self ..)))⟩)
    · have ph2 := of_decide_eq_false h2
      refine WPL.guardT rfl rfl h2 ?_
      refine WPL.fa rfl rfl ?_
      refine WPL.guardT rfl rfl h2 ?_
      refine WPL.ldL rfl hO inferInstance rfl rfl rfl ?_
      refine WPL.guardT rfl rfl h2 ?_
      refine WPL.eq rfl rfl rfl ?_
      refine WPL.pkF (v := .bool _) rfl h2 rfl rfl ?_
      refine WPL.as (v := .bool _) rfl rfl ?_
      refine WPL.nil ?_
      refine WP.condP rfl (fun h3 => ?_) (fun h3 => ?_)
      · refine WP.rs ?_
        refine WPL.as (v := .int .i64 30) rfl rfl ?_
        refine WPL.nil ?_
        refine WP.ret ?_
        refine ⟨rfl, ?_⟩
        refine RO.tmp (v := .int .i64 _) rfl ?_
        refine RO.nil ?_
        first
        | (rw [show B.addE x = _ from if_pos (by omega), show B.addF x = _ from if_pos (by omega)]; exact ⟨rfl, hO.fr, hO.cells ⟨b, _, _⟩ (List.mem_cons_of_mem _ (List.mem_cons_of_mem _ (List.mem_cons_self ..)))⟩)
        | (rw [show B.addE x = _ from (if_neg (by omega)).trans (if_pos (by omega)), show B.addF x = _ from (if_neg (by omega)).trans (if_pos (by omega))]; exact ⟨rfl, hO.fr, hO.cells ⟨b, _, _⟩ (List.mem_cons_of_mem _ (List.mem_cons_of_mem _ (List.mem_cons_self ..)))⟩)
        | (rw [show B.addE x = _ from (if_neg (by omega)).trans (if_neg (by omega)), show B.addF x = _ from (if_neg (by omega)).trans (if_neg (by omega))]; exact ⟨rfl, hO.fr, hO.cells ⟨b, _, _⟩ (List.mem_cons_of_mem _ (List.mem_cons_of_mem _ (List.mem_cons_self ..)))⟩)
      · refine WP.skip ?_
        refine WP.rs ?_
        refine WPL.ldL rfl hO inferInstance rfl rfl rfl ?_
        refine WPL.nc rfl rfl ?_
        refine WPL.fa rfl rfl ?_
        refine WPL.ldL rfl hO inferInstance rfl rfl rfl ?_
        refine WPL.addI rfl rfl (by omega) rfl ?_
        refine WPL.nc rfl rfl ?_
        refine WPL.fa rfl rfl ?_
        refine WPL.stL (v := .int .i64 _) rfl rfl hO inferInstance inferInstance rfl rfl rfl (fun w hO => ?_)
        refine WPL.nil ?_
        refine WP.rs ?_
        refine WPL.ldLA (T := T77) [.bool _, .int .i64 _, .int .i64 _, .int .u64 _] rfl hO inferInstance rfl agg77 rfl rfl ?_
        refine WPL.mkf rfl rfl rfl ?_
        have hn := hO.nodup
        have hd1 : b ≠ b1 := fun e => by simp [keys, e] at hn
        have hd2 : b ≠ b2 := fun e => by simp [keys, e] at hn
        have hd3 : b1 ≠ b2 := fun e => by simp [keys, e] at hn
        have hO : Own [] w0 [b] [⟨b2, [.bool (split x).neg, .int .i64 (split x).cls, .int .i64 (split x).e, .int .u64 ((split x).f : Int)], 77⟩, ⟨b1, [.pointer (some ⟨b, 0, none⟩)], 24⟩, ⟨b, bnC { B with count := B.count + 1 }, 57⟩] [] w := hO
        have hk' : Bn.Ok { B with count := B.count + 1 } q 1000 := ⟨hk.len, hk.fold, hk.le, hk.top⟩
        refine WPL.call rfl (bins_slices b b1 b2 { B with count := B.count + 1 } (split x) (hO.cells ⟨b, bnC { B with count := B.count + 1 }, 57⟩ (List.mem_cons_of_mem _ (List.mem_cons_of_mem _ (List.mem_cons_self ..)))) (hO.cells ⟨b1, [.pointer (some ⟨b, 0, none⟩)], 24⟩ (List.mem_cons_of_mem _ (List.mem_cons_self ..))) (hO.cells ⟨b2, [.bool (split x).neg, .int .i64 (split x).cls, .int .i64 (split x).e, .int .u64 ((split x).f : Int)], 77⟩ (List.mem_cons_self ..)) hd1 hd2 hd3 q hq hk' hsp) Tryd.func39 rfl rfl rfl ?_
        rintro _ w ⟨rfl, hfx, hcx⟩
        have hO := hO.turn (b := b) (cs := bnC ({ B with count := B.count + 1 }.addPt (split x))) (L' := [⟨b2, [.bool (split x).neg, .int .i64 (split x).cls, .int .i64 (split x).e, .int .u64 ((split x).f : Int)], 77⟩, ⟨b1, [.pointer (some ⟨b, 0, none⟩)], 24⟩, ⟨b, bnC ({ B with count := B.count + 1 }.addPt (split x)), 57⟩]) inferInstance hfx (by
          intro c T hm
          simp only [List.mem_cons, List.not_mem_nil, or_false, Blk.mk.injEq] at hm
          rcases hm with ⟨h, _⟩ | ⟨h, _⟩ | ⟨_, _, rfl⟩
          · exact absurd h hd2
          · exact absurd h hd1
          · exact hcx)
        refine WPL.nil ?_
        refine WP.rs ?_
        refine WPL.as (v := .int .i64 0) rfl rfl ?_
        refine WPL.nil ?_
        refine WP.ret ?_
        refine ⟨rfl, ?_⟩
        refine RO.tmp (v := .int .i64 _) rfl ?_
        refine RO.nil ?_
        first
        | (rw [show B.addE x = _ from if_pos (by omega), show B.addF x = _ from if_pos (by omega)]; exact ⟨rfl, hO.fr, hO.cells ⟨b, _, _⟩ (List.mem_cons_of_mem _ (List.mem_cons_of_mem _ (List.mem_cons_self ..)))⟩)
        | (rw [show B.addE x = _ from (if_neg (by omega)).trans (if_pos (by omega)), show B.addF x = _ from (if_neg (by omega)).trans (if_pos (by omega))]; exact ⟨rfl, hO.fr, hO.cells ⟨b, _, _⟩ (List.mem_cons_of_mem _ (List.mem_cons_of_mem _ (List.mem_cons_self ..)))⟩)
        | (rw [show B.addE x = _ from (if_neg (by omega)).trans (if_neg (by omega)), show B.addF x = _ from (if_neg (by omega)).trans (if_neg (by omega))]; exact ⟨rfl, hO.fr, hO.cells ⟨b, _, _⟩ (List.mem_cons_of_mem _ (List.mem_cons_of_mem _ (List.mem_cons_self ..)))⟩)
end Go.Sw
