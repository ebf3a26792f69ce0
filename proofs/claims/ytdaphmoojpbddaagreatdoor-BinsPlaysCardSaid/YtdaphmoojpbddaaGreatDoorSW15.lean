/- A part of the proof that BinsPlays answers true: steps of the walk, or plain laws that it needs. No conditions of its own. -/
import Derived.Test.YtdaphmoojpbddaaGreatDoorSW14
set_option linter.all false
namespace Go.Sw
set_option autoImplicit false
set_option linter.all false
open Go.Proofs Go.RowKit
instance T22 : Ty Tryz.prog 22 (.slice 32) [.slice none 0 0] 24 := Ty.mk' Tryz.underlying22 (by kernel_rfl)
theorem law_ask {w0 : World} (p : Nat) (s : St) (N : Nat) (hs : s.Ok N) (hN : N ≤ 900000) (x : Pr) (hx : x ∈ s.pl) (hL : Own tabs w0 (keys (s.L p)) (s.L p) [] w0) : Spec Tryz.prog 6 [.pointer (some ⟨p, 0, none⟩), .agg #[.pointer (some ⟨x.bk, 0, none⟩), .pointer (some ⟨x.rk, 0, none⟩)]] w0 (fun v w' => v = .bool true ∧ ∃ s' : St, s'.Ok (N + 1) ∧ s'.pl = s.pl ∧ Own tabs w0 (keys (s.L p)) (s'.L p) [] w') := by
  obtain ⟨p1, p2, hsp⟩ : ∃ p1 p2, s.pl = p1 ++ x :: p2 := List.append_of_mem hx
  have hxo := hs.pok x hx
  have hcn := hs.cn
  have hwn := hs.wn
  have hO : Own tabs w0 (keys (s.L p)) ((⟨p, [.slice s.la (p1.length + 1 + p2.length) s.lc, .slice s.ca s.came.length s.cc, .slice s.wa s.want.length s.wc], 28⟩ :: ⟨x.bk, bnC x.B, 68⟩ :: ⟨x.rk, rfC x.R x.a x.c, 87⟩ :: (x.G ++ (s.GC ++ (s.GW ++ [])))) ++ (s.GL ++ (PB p1 ++ (PB p2 ++ (CB s.came ++ (CB s.want ++ [])))))) [] w0 := hL.perm ((St.split hsp).trans (by classical exact List.perm_iff_count.2 (fun z => by unfold St.rest; simp only [List.count_append, List.count_cons, List.count_nil]; omega)))
  refine (law_asked p s.la _ s.lc s.came s.want s.ca s.wa s.cc s.wc s.GC s.GW hs.gc hs.gw hs.ccap hs.wcap (by omega) (by omega) x hxo hO.startT).mono ?_
  rintro v w ⟨rfl, a1, c1, G1, a2, c2, G2, ca', cc', GC', wa', wc', GW', hm1, hm2, hg1, hg2, hc1, hc2, hk⟩
  have hO := hO.callO hk
  refine ⟨rfl, ⟨s.pl, s.came ++ [⟨x.B.kept, a1, c1, G1⟩], s.want ++ [⟨x.B.kept, a2, c2, G2⟩], s.la, ca', wa', s.lc, cc', wc', s.GL, GC', GW'⟩, hs.ask hm1 hm2 hg1 hg2 hc1 hc2, rfl, hO.perm ?_⟩
  unfold St.L
  simp only
  rw [hsp, show (p1 ++ x :: p2).length = p1.length + 1 + p2.length by simp; omega, show (s.came ++ [(⟨x.B.kept, a1, c1, G1⟩ : Cm)]).length = s.came.length + 1 by simp, show (s.want ++ [(⟨x.B.kept, a2, c2, G2⟩ : Cm)]).length = s.want.length + 1 by simp, PB_append, PB_cons, Pr.blk, CB_append, CB_append, CB_one, CB_one]
  exact (by classical exact List.perm_iff_count.2 (fun z => by simp only [List.count_append, List.count_cons, List.count_nil]; omega))
structure OpV where
  kd : Int
  on : Int
  wi : Int
  n : Int
  xb : Nat
def OpV.Ok (o : OpV) : Prop := o.xb < 18446744073709551616 ∧ (-9223372036854775808 ≤ o.on ∧ o.on ≤ 9223372036854775807) ∧ (-9223372036854775808 ≤ o.wi ∧ o.wi ≤ 9223372036854775807)
def OpV.cells (o : OpV) : List Value := [.int .i64 o.kd, .int .i64 o.on, .int .i64 o.wi, .int .i64 o.n, .float .f64 o.xb]
def opc (l : List OpV) : List Value := l.flatMap OpV.cells
theorem opc_length (l : List OpV) : (opc l).length = l.length * 5 := by
  induction l with
  | nil => rfl
  | cons o l ih => simp only [opc, List.flatMap_cons, List.length_append] at ih ⊢; rw [ih]; simp [OpV.cells]; omega
theorem opc_get : ∀ {l : List OpV} {i : Nat} {x : OpV}, l[i]? = some x → ∀ (j : Nat) (v : Value), x.cells[j]? = some v → (opc l)[i * 5 + j]? = some v
  | y :: l, 0, x, h, j, v, hj => by
    obtain rfl : y = x := by simpa using h
    have hlt : j < y.cells.length := (List.getElem?_eq_some_iff.1 hj).1
    show (y.cells ++ opc l)[0 * 5 + j]? = some v
    rw [show 0 * 5 + j = j by omega, List.getElem?_append_left hlt]; exact hj
  | y :: l, i + 1, x, h, j, v, hj => by
    have ih := opc_get (l := l) (i := i) (by simpa using h) j v hj
    show (y.cells ++ opc l)[(i + 1) * 5 + j]? = some v
    rw [List.getElem?_append_right (by simp [OpV.cells]; omega)]
    rw [show (i + 1) * 5 + j - y.cells.length = i * 5 + j by simp [OpV.cells]; omega]; exact ih
def St0 : St := ⟨[], [], [], none, none, none, 0, 0, 0, [], [], []⟩
theorem St0_ok : St0.Ok 0 := ⟨.inl ⟨rfl, rfl, rfl, rfl⟩, Nat.le_refl _, .inl ⟨rfl, rfl, rfl, rfl⟩, Nat.le_refl _, .inl ⟨rfl, rfl, rfl, rfl⟩, Nat.le_refl _, (fun x h => by cases h), (fun x h => by cases h), (fun x h => by cases h), Nat.zero_le _, Nat.le_refl _, rfl⟩
def Cm.sl (x : Cm) : Sl := ⟨x.a, dig x.D.m, x.c, x.G⟩
theorem SB_sl (l : List Cm) : SB (l.map Cm.sl) = CB l := by
  induction l with
  | nil => rfl
  | cons x l ih => simp only [List.map_cons, SB_cons, ih, CB, List.flatMap_cons]; rfl

theorem law_BinsPlays {w0 : World} (ht : TabOk tabs w0) (fold : Int) (a : Option Addr) (l : List OpV) (c : Nat) {nl : Nat} (hr : RowOk w0 [] ⟨a, opc l⟩) (hn : nl = l.length) (hok : ∀ o ∈ l, o.Ok) : Spec Tryz.prog 3 [.int .i64 fold, .slice a nl c] w0 (fun v w' => FrX [] w0 w' ∧ v = .bool true) := by
  subst hn
  have hO : Own tabs w0 [] [] [⟨a, opc l⟩] w0 := Own.start ht (by
      simp only [List.mem_cons, List.not_mem_nil, or_false]
      rintro r rfl
      · exact hr)
  refine Spec.enter (n := 129) (rs := [.tmp 4]) Tryz.func3 rfl rfl rfl rfl ?_
  refine WP.rs ?_
  refine WPL.as (v := .bool false) rfl rfl ?_
  refine WPL.nil ?_
  refine WP.rs ?_
  refine WPL.call rfl (law_awake hO.tab) Tryz.func4 rfl rfl rfl ?_
  rintro _ w ⟨hf17, rfl⟩
  have hO := hO.call hf17
  refine WPL.as (v := .bool _) rfl rfl ?_
  refine WPL.nil ?_
  refine WP.rs ?_
  refine WPL.bd (pv := []) (vs := [_, _, _]) rfl (bd_of pl28 rfl rfl) rfl ?_
  refine WPL.bx (v := .agg #[.slice _ _ _, .slice _ _ _, .slice _ _ _]) rfl rfl hO rfl (fun b1 w hO => ?_)
  refine WPL.as (v := .pointer _) rfl rfl ?_
  refine WPL.nil ?_
  refine WP.rs ?_
  refine WPL.mv (v := .pointer _) rfl rfl ?_
  refine WPL.mv (v := .int .i64 _) rfl rfl ?_
  refine WPL.bd (pv := [(0, .int .i64 1), (3, .int .i64 _)]) (vs := [_, _, _, _, _]) rfl (bd_of pl32 rfl rfl) rfl ?_
  have hO : Own tabs w0 [] (St0.L b1) [⟨a, opc l⟩] w := hO
  refine WPL.call rfl (law_step b1 St0 _ St0_ok (by omega) 1 0 0 fold 0 (by decide) (by omega) (by omega) (.inr rfl) (Own.startT' hO)) Tryz.func5 rfl rfl rfl ?_
  rintro _ w ⟨rfl, s, hs, hpl0, hk⟩
  have hO := hO.callO' hk
  have hO9 := hO
  unfold St.L at hO
  refine WPL.as (v := .bool _) rfl rfl ?_
  refine WPL.nil ?_
  refine WP.seq ?_
  refine WP.rs ?_
  refine WPL.mv (v := .bool _) rfl rfl ?_
  refine WPL.not rfl rfl ?_
  refine WPL.mv (v := .bool _) rfl rfl ?_
  refine WPL.split (s := 26) rfl (fun h1 => ?_) (fun h1 => ?_)
  · cases h1
  · refine WPL.guardT rfl rfl h1 ?_
    refine WPL.mv (v := .bool _) rfl rfl ?_
    refine WPL.guardT rfl rfl h1 ?_
    refine WPL.not rfl rfl ?_
    refine WPL.pkF (v := .bool _) rfl h1 rfl rfl ?_
    refine WPL.nil ?_
    refine WP.condB rfl (fun h2 => ?_) (fun h2 => ?_)
    · cases h2
    · refine WP.skip ?_
      refine WP.seqI (I := fun σ ds w' => ∃ (s : St), s.Ok 2 ∧ 1 ≤ s.pl.length ∧ Has σ [(1, .slice a l.length c), (6, .pointer (some ⟨b1, 0, none⟩))] ∧ ds = [] ∧ Own tabs w0 [] (s.L b1) [⟨a, opc l⟩] w') ?_ ?_
      · refine WP.rs ?_
        refine WPL.mv (v := .pointer _) rfl rfl ?_
        refine WPL.nc rfl rfl ?_
        refine WPL.fa rfl rfl ?_
        refine WPL.ldL rfl hO inferInstance rfl rfl rfl ?_
        refine WPL.len rfl rfl ?_
        refine WPL.eq rfl rfl rfl ?_
        refine WPL.nil ?_
        refine WP.condP rfl (fun h3 => ?_) (fun h3 => ?_)
        · refine WP.region ?_
          refine WPL.mv (v := .pointer _) rfl rfl ?_
          refine WPL.bd (pv := [(0, .int .i64 1), (3, .int .i64 2)]) (vs := [_, _, _, _, _]) rfl (bd_of pl32 rfl rfl) rfl ?_
          have hO : Own tabs w0 [] (s.L b1) [⟨a, opc l⟩] w := hO
          refine WPL.call rfl (law_step_new b1 s _ hs (by omega) 1 0 0 2 0 (by decide) (by omega) (by omega) rfl (by omega) (Own.startT' hO)) Tryz.func5 rfl rfl rfl ?_
          rintro _ w ⟨rfl, s2, hs2, -, hpl2, hk⟩
          have hO := hO.callO' hk
          refine WPL.nil ?_
          first | exact ⟨s2, hs2, hpl2 (by omega), ⟨rfl, rfl, trivial⟩, rfl, hO⟩ | exact ⟨s, hs.mono (by omega), by omega, ⟨rfl, rfl, trivial⟩, rfl, hO9⟩
        · refine WP.skip ?_
          first | exact ⟨s2, hs2, hpl2 (by omega), ⟨rfl, rfl, trivial⟩, rfl, hO⟩ | exact ⟨s, hs.mono (by omega), by omega, ⟨rfl, rfl, trivial⟩, rfl, hO9⟩
      · rintro σ ds w ⟨s, hs, hpl, hH, rfl, hO⟩
        refine WP.reset hH ?_
        refine WP.seqI (I := fun σ ds w' => ∃ (s : St), s.Ok 2002 ∧ 1 ≤ s.pl.length ∧ Has σ [(1, .slice a l.length c), (6, .pointer (some ⟨b1, 0, none⟩))] ∧ ds = [] ∧ Own tabs w0 [] (s.L b1) [⟨a, opc l⟩] w') ?_ ?_
        · refine WP.rs ?_
          refine WPL.as (v := .int .i64 0) rfl rfl ?_
          refine WPL.nil ?_
          refine WP.block ?_
          refine WP.loop (fun m σ ds w' => ∃ (i : Nat) (s : St), m + i = 2000 ∧ s.Ok (2 + i) ∧ 1 ≤ s.pl.length ∧ Has σ [(1, .slice a l.length c), (6, .pointer (some ⟨b1, 0, none⟩)), (8, .int .i64 (i : Int))] ∧ ds = [] ∧ Own tabs w0 [] (s.L b1) [⟨a, opc l⟩] w') 2000 ?_ ?_
          · exact ⟨0, s, rfl, hs.mono (by omega), hpl, ⟨rfl, rfl, rfl, trivial⟩, rfl, hO⟩
          · clear hO
            rintro m σ ds w ⟨i, s, hm, hs, hpl, hH, rfl, hO⟩
            refine WP.reset hH ?_
            have hol := opc_length l
            refine WP.seq ?_
            refine WP.rs ?_
            have hO9 := hO
            unfold St.L at hO
            
            refine WPL.mv (v := .int .i64 _) rfl rfl ?_
            refine WPL.mv (v := .slice _ _ _) rfl rfl ?_
            refine WPL.len rfl rfl ?_
            refine WPL.lt rfl rfl rfl ?_
            refine WPL.mv (v := .bool _) rfl rfl ?_
            refine WPL.split (s := 43) rfl (fun h4 => ?_) (fun h4 => ?_)
            · have ph4 := of_decide_eq_true h4
              refine WPL.guardT rfl rfl h4 ?_
              refine WPL.mv (v := .int .i64 _) rfl rfl ?_
              refine WPL.guardT rfl rfl h4 ?_
              refine WPL.lt rfl rfl rfl ?_
              refine WPL.pkT (v := .bool _) rfl h4 rfl rfl ?_
              refine WPL.nil ?_
              refine WP.condP rfl (fun h5 => ?_) (fun h5 => ?_)
              · refine WP.skip ?_
                refine WP.seq ?_
                refine WP.block ?_
                refine WP.rs ?_
                obtain ⟨o, hgo⟩ : ∃ o, l[i]? = some o := ⟨l[i]'(by omega), List.getElem?_eq_getElem _⟩
                have ho := hok o (List.mem_of_getElem? hgo)
                refine WPL.mv (v := .pointer _) rfl rfl ?_
                refine WPL.mv (v := .slice _ _ _) rfl rfl ?_
                refine WPL.mv (v := .int .i64 _) rfl rfl ?_
                refine WPL.ixR (a := a) (j := i) (vals := opc l) rfl hO inferInstance rfl rfl (by omega) (by rw [hol]; show i * 5 < _; omega) rfl ?_
                refine WPL.ldRA (T := T32) (a := a) (j := i * 5) (vals := opc l) [.int .i64 o.kd, .int .i64 o.on, .int .i64 o.wi, .int .i64 o.n, .float .f64 o.xb] rfl hO inferInstance (opc_get hgo) agg32 rfl rfl ?_
                have hO : Own tabs w0 [] (s.L b1) [⟨a, opc l⟩] w := hO
                refine WPL.call rfl (law_step b1 s _ hs (by omega) o.kd o.on o.wi o.n o.xb ho.1 ho.2.1 ho.2.2 (.inl hpl) (Own.startT' hO)) Tryz.func5 rfl rfl rfl ?_
                rintro _ w ⟨rfl, s2, hs2, hpl2, hk⟩
                have hO := hO.callO' hk
                refine WPL.as (v := .bool _) rfl rfl ?_
                refine WPL.nil ?_
                refine WP.rs ?_
                refine WPL.mv (v := .bool _) rfl rfl ?_
                refine WPL.not rfl rfl ?_
                refine WPL.nil ?_
                refine WP.condB rfl (fun h6 => ?_) (fun h6 => ?_)
                · cases h6
                · refine WP.skip ?_
                  refine WP.region ?_
                  refine WPL.mv (v := .int .i64 _) rfl rfl ?_
                  refine WPL.addI rfl rfl (by omega) rfl ?_
                  refine WPL.as (v := .int .i64 _) rfl rfl ?_
                  refine WPL.nil ?_
                  exact ⟨m - 1, by omega, i + 1, s2, by omega, hs2.mono (by omega), by omega, ⟨rfl, rfl, rfl, trivial⟩, rfl, hO⟩
              · refine WP.exit ?_
                exact ⟨s, hs.mono (by omega), hpl, ⟨rfl, rfl, trivial⟩, rfl, hO⟩
            · have ph4 := of_decide_eq_false h4
              refine WPL.guardF rfl rfl rfl h4 ?_
              refine WPL.guardF rfl rfl rfl h4 ?_
              refine WPL.pkF (v := .bool false) rfl h4 rfl rfl ?_
              refine WPL.nil ?_
              refine WP.cF rfl rfl ?_
              refine WP.exit ?_
              exact ⟨s, hs.mono (by omega), hpl, ⟨rfl, rfl, trivial⟩, rfl, hO⟩
        · rintro σ ds w ⟨s, hs, hpl, hH, rfl, hO⟩
          refine WP.reset hH ?_
          refine WP.seqI (I := fun σ ds w' => ∃ (s : St), s.Ok 2020 ∧ 1 ≤ s.pl.length ∧ Has σ [(1, .slice a l.length c), (6, .pointer (some ⟨b1, 0, none⟩))] ∧ ds = [] ∧ Own tabs w0 [] (s.L b1) [⟨a, opc l⟩] w') ?_ ?_
          · refine WP.rs ?_
            refine WPL.as (v := .int .i64 0) rfl rfl ?_
            refine WPL.nil ?_
            refine WP.block ?_
            obtain ⟨np, hnp⟩ : ∃ np, np = s.pl.length := ⟨_, rfl⟩
            have hp16 := hs.pn
            refine WP.loop (fun m σ ds w' => ∃ (i : Nat) (s : St), m + i = np ∧ s.pl.length = np ∧ s.Ok (2002 + i) ∧ Has σ [(1, .slice a l.length c), (6, .pointer (some ⟨b1, 0, none⟩)), (10, .int .i64 (i : Int))] ∧ ds = [] ∧ Own tabs w0 [] (s.L b1) [⟨a, opc l⟩] w') np ?_ ?_
            · exact ⟨0, s, rfl, hnp.symm, hs, ⟨rfl, rfl, rfl, trivial⟩, rfl, hO⟩
            · clear hO hs
              rintro m σ ds w ⟨i, s, hm, hsn, hs, hH, rfl, hO⟩
              refine WP.reset hH ?_
              refine WP.seq ?_
              refine WP.rs ?_
              have hO9 := hO
              unfold St.L at hO
              
              refine WPL.mv (v := .int .i64 _) rfl rfl ?_
              refine WPL.mv (v := .pointer _) rfl rfl ?_
              refine WPL.nc rfl rfl ?_
              refine WPL.fa rfl rfl ?_
              refine WPL.ldL rfl hO inferInstance rfl rfl rfl ?_
              refine WPL.len rfl rfl ?_
              refine WPL.lt rfl rfl rfl ?_
              refine WPL.nil ?_
              refine WP.condP rfl (fun h7 => ?_) (fun h7 => ?_)
              · refine WP.skip ?_
                refine WP.seq ?_
                refine WP.block ?_
                refine WP.rs ?_
                obtain ⟨x, hx⟩ : ∃ x, s.pl[i]? = some x := ⟨s.pl[i]'(by omega), List.getElem?_eq_getElem _⟩
                refine WPL.mv (v := .pointer _) rfl rfl ?_
                refine WPL.mv (v := .pointer _) rfl rfl ?_
                refine WPL.nc rfl rfl ?_
                refine WPL.fa rfl rfl ?_
                refine WPL.ldL rfl hO inferInstance rfl rfl rfl ?_
                refine WPL.mv (v := .int .i64 _) rfl rfl ?_
                refine WPL.ixG (j := i) (vals := bc s.pl) rfl (hO.rdG hs.gl) rfl rfl (by omega) (by rw [bc_length]; show i * 2 < _; omega) rfl ?_
                refine WPL.ldGA (T := T37) (i * 2) [.pointer (some ⟨x.bk, 0, none⟩), .pointer (some ⟨x.rk, 0, none⟩)] rfl (hO.rdG hs.gl) (bc_get hx) agg37 rfl rfl ?_
                have hO : Own tabs w0 [] (s.L b1) [⟨a, opc l⟩] w := hO
                refine WPL.call rfl (law_ask b1 s _ hs (by omega) x (List.mem_of_getElem? hx) (Own.startT' hO)) Tryz.func6 rfl rfl rfl ?_
                rintro _ w ⟨rfl, s2, hs2, hpe, hk⟩
                have hO := hO.callO' hk
                refine WPL.as (v := .bool _) rfl rfl ?_
                refine WPL.nil ?_
                refine WP.rs ?_
                refine WPL.mv (v := .bool _) rfl rfl ?_
                refine WPL.not rfl rfl ?_
                refine WPL.nil ?_
                refine WP.condB rfl (fun h8 => ?_) (fun h8 => ?_)
                · cases h8
                · refine WP.skip ?_
                  refine WP.region ?_
                  refine WPL.mv (v := .int .i64 _) rfl rfl ?_
                  refine WPL.addI rfl rfl (by omega) rfl ?_
                  refine WPL.as (v := .int .i64 _) rfl rfl ?_
                  refine WPL.nil ?_
                  exact ⟨m - 1, by omega, i + 1, s2, by omega, by rw [hpe]; exact hsn, hs2.mono (by omega), ⟨rfl, rfl, rfl, trivial⟩, rfl, hO⟩
              · refine WP.exit ?_
                exact ⟨s, hs.mono (by have := hs.pn; omega), by omega, ⟨rfl, rfl, trivial⟩, rfl, hO⟩
          · rintro σ ds w ⟨s, hs, hpl, hH, rfl, hO⟩
            refine WP.reset hH ?_
            refine WP.rs ?_
            refine WPL.bd (pv := []) (vs := [_]) rfl (bd_of pl41 rfl rfl) rfl ?_
            refine WPL.bx (v := .agg #[.slice _ _ _]) rfl rfl hO rfl (fun b2 w hO => ?_)
            refine WPL.as (v := .pointer _) rfl rfl ?_
            refine WPL.nil ?_
            refine WP.seq ?_
            refine WP.rs ?_
            refine WPL.as (v := .int .i64 0) rfl rfl ?_
            refine WPL.nil ?_
            refine WP.block ?_
            have hO : Own tabs w0 [] (⟨b2, [.slice none 0 0], 41⟩ :: s.L b1) [⟨a, opc l⟩] w := hO
            have hcn := hs.cn
            refine WP.loop (fun m σ ds w' => ∃ (i : Nat) (ba : Option Addr) (bc' : Nat) (GB : List Blk), m + i = s.came.length ∧ Grown ba bc' 1 (sc ((s.came.take i).map Cm.sl)) 44 GB ∧ i ≤ bc' ∧ Has σ [(6, .pointer (some ⟨b1, 0, none⟩)), (12, .pointer (some ⟨b2, 0, none⟩)), (13, .int .i64 (i : Int))] ∧ ds = [] ∧ Own tabs w0 [] (⟨b2, [.slice ba i bc'], 41⟩ :: (GB ++ s.L b1)) [⟨a, opc l⟩] w') s.came.length ?_ ?_
            · exact ⟨0, none, 0, [], rfl, .inl ⟨rfl, rfl, by simp [sc], rfl⟩, Nat.le_refl _, ⟨rfl, rfl, rfl, trivial⟩, rfl, hO⟩
            · clear hO
              rintro m σ ds w ⟨i, ba, bc', GB, hm, hGB, hbc, hH, rfl, hO⟩
              refine WP.reset hH ?_
              unfold St.L at hO
              refine WP.seq ?_
              refine WP.rs ?_
              refine WPL.mv (v := .int .i64 _) rfl rfl ?_
              refine WPL.mv (v := .pointer _) rfl rfl ?_
              refine WPL.nc rfl rfl ?_
              refine WPL.fa rfl rfl ?_
              refine WPL.ldL rfl hO inferInstance rfl rfl rfl ?_
              refine WPL.len rfl rfl ?_
              refine WPL.lt rfl rfl rfl ?_
              refine WPL.nil ?_
              refine WP.condP rfl (fun h9 => ?_) (fun h9 => ?_)
              · refine WP.skip ?_
                refine WP.seq ?_
                refine WP.block ?_
                refine WP.seq ?_
                refine WP.draw [(0, 0), (1, 0), (2, 0), (3, 1), (4, 0), (5, 1), (6, 1), (7, 0), (8, 0), (9, 0), (10, 1), (11, 0), (12, 1), (13, 1), (14, 2), (15, 0)] [] mixed (by kernel_rfl) (by kernel_rfl) rfl hO (fun w hO => ?_)
                have hilt : i < s.came.length := by omega
                obtain ⟨y, hy⟩ : ∃ y, s.came[i]? = some y := ⟨s.came[i]'hilt, List.getElem?_eq_getElem _⟩
                have hym := List.mem_of_getElem? hy
                have hwl : s.want.length = s.came.length := by have := congrArg List.length hs.same; rw [List.length_map, List.length_map] at this; exact this.symm
                obtain ⟨z, hz⟩ : ∃ z, s.want[i]? = some z := ⟨s.want[i]'(by omega), List.getElem?_eq_getElem _⟩
                have hzm := List.mem_of_getElem? hz
                have hDz : z.D = y.D := by
                  have h9 := congrArg (fun l => l[i]?) hs.same
                  simp only [List.getElem?_map, hy, hz, Option.map_some] at h9
                  exact (Option.some.inj h9).symm
                have hyo := hs.cok y hym
                have hzo := hs.wok z hzm
                have hzg : Grown z.a z.c 1 (ws .u32 (dig y.D.m)) 62 z.G := by have := hzo.grown; rwa [hDz] at this
                have hzget := dc_get hz
                unfold Cm.cells at hzget
                rw [hDz] at hzget
                refine WPD.pv rfl rfl (fun w k' h => WPL.mv (v := .pointer _) rfl rfl (WPL.nil h)) ?_
                refine WPD.pv rfl rfl (fun w k' h => WPL.nc rfl rfl (WPL.nil h)) ?_
                refine WPD.pv rfl rfl (fun w k' h => WPL.fa rfl rfl (WPL.nil h)) ?_
                refine WPD.val rfl rfl (fun w hO k' h => WPL.ldL rfl hO inferInstance rfl rfl rfl (WPL.nil h)) ?_
                refine WPD.pv rfl rfl (fun w k' h => WPL.mv (v := .int .i64 _) rfl rfl (WPL.nil h)) ?_
                refine WPD.val rfl rfl (fun w hO k' h => WPL.ixG (j := i) (vals := dc s.came) rfl (hO.rdG hs.gc) rfl rfl (by omega) (by rw [dc_length]; show i * 3 < _; omega) rfl (WPL.nil h)) ?_
                refine WPD.val rfl rfl (fun w hO k' h => WPL.ldGA (T := T46) (i * 3) [.bool y.D.s, .slice y.a (dig y.D.m).length y.c, .int .i64 y.D.e] rfl (hO.rdG hs.gc) (dc_get hy) agg46 rfl rfl (WPL.nil h)) ?_
                refine WPD.pv rfl rfl (fun w k' h => WPL.mv (v := .pointer _) rfl rfl (WPL.nil h)) ?_
                refine WPD.pv rfl rfl (fun w k' h => WPL.nc rfl rfl (WPL.nil h)) ?_
                refine WPD.pv rfl rfl (fun w k' h => WPL.fa rfl rfl (WPL.nil h)) ?_
                refine WPD.val rfl rfl (fun w hO k' h => WPL.ldL rfl hO inferInstance rfl rfl rfl (WPL.nil h)) ?_
                refine WPD.pv rfl rfl (fun w k' h => WPL.mv (v := .int .i64 _) rfl rfl (WPL.nil h)) ?_
                refine WPD.val rfl rfl (fun w hO k' h => WPL.ixG (j := i) (vals := dc s.want) rfl (hO.rdG hs.gw) rfl rfl (by omega) (by rw [dc_length]; show i * 3 < _; omega) rfl (WPL.nil h)) ?_
                refine WPD.val rfl rfl (fun w hO k' h => WPL.ldGA (T := T46) (i * 3) [.bool y.D.s, .slice z.a (dig y.D.m).length z.c, .int .i64 y.D.e] rfl (hO.rdG hs.gw) hzget agg46 rfl rfl (WPL.nil h)) ?_
                refine WPD.eff rfl hO ?_
                refine WPL.call rfl (r3_Same y.D y.a y.c z.a z.c (Own.rowOfG (A := []) hO hyo.grown (fun e he => by have h9 : e ∈ CB s.came := List.mem_flatMap.2 ⟨y, hym, he⟩; simp [h9])) (Own.rowOfG (A := []) hO hzg (fun e he => by have h9 : e ∈ CB s.want := List.mem_flatMap.2 ⟨z, hzm, he⟩; simp [h9])) (by have := hyo.small; omega)) Tryz.func7 rfl rfl rfl ?_
                rintro _ w ⟨hf102, rfl⟩
                have hO := hO.call hf102
                refine WPL.nil ?_
                refine WPD.pv rfl rfl (fun w k' h => WPL.as (v := .bool _) rfl rfl (WPL.nil h)) ?_
                refine WPD.nil hO ?_
                refine WP.seq ?_
                refine WP.rs ?_
                refine WPL.mv (v := .bool _) rfl rfl ?_
                refine WPL.not rfl rfl ?_
                refine WPL.nil ?_
                refine WP.condB rfl (fun h10 => ?_) (fun h10 => ?_)
                · cases h10
                · refine WP.skip ?_
                  refine WP.region ?_
                  refine WPL.mv (v := .pointer _) rfl rfl ?_
                  refine WPL.mv (v := .pointer _) rfl rfl ?_
                  refine WPL.nc rfl rfl ?_
                  refine WPL.fa rfl rfl ?_
                  refine WPL.ldL rfl hO inferInstance rfl rfl rfl ?_
                  refine WPL.mv (v := .int .i64 _) rfl rfl ?_
                  refine WPL.ixG (j := i) (vals := dc s.came) rfl (hO.rdG hs.gc) rfl rfl (by omega) (by rw [dc_length]; show i * 3 < _; omega) rfl ?_
                  refine WPL.fa rfl rfl ?_
                  refine WPL.ldG (v := .slice y.a (dig y.D.m).length y.c) (i * 3 + 1) rfl (hO.rdG hs.gc) (dc_get hy 1 _ rfl) rfl rfl ?_
                  have hSl : ((s.came.take i).map Cm.sl).length = i := by rw [List.length_map, List.length_take]; omega
                  have hS2 : (s.came.take i).map Cm.sl ++ [y.sl] = (s.came.take (i + 1)).map Cm.sl := by rw [List.take_succ, hy]; simp
                  have hO : Own tabs w0 [] ((⟨b2, [.slice ba ((s.came.take i).map Cm.sl).length bc'], 41⟩ :: (GB ++ [])) ++ s.L b1) [⟨a, opc l⟩] w := by rw [hSl, List.append_nil]; exact hO
                  refine WPL.call rfl (law_Take b2 ((s.came.take i).map Cm.sl) ba bc' GB hGB (by rw [hSl]; exact hbc) (by rw [hSl]; omega) y.sl hO.startO) Tryz.func8 rfl rfl rfl ?_
                  rintro _ w ⟨rfl, ba2, bc2, GB2, hGB2, hbc2, hk⟩
                  have hO := hO.callO hk
                  refine WPL.nil ?_
                  refine WP.region ?_
                  refine WPL.mv (v := .int .i64 _) rfl rfl ?_
                  refine WPL.addI rfl rfl (by omega) rfl ?_
                  refine WPL.as (v := .int .i64 _) rfl rfl ?_
                  refine WPL.nil ?_
                  rw [hS2] at hGB2
                  rw [hSl] at hbc2 hO
                  exact ⟨m - 1, by omega, i + 1, ba2, bc2, GB2, by omega, hGB2, by omega, ⟨rfl, rfl, rfl, trivial⟩, rfl, by rw [List.append_nil] at hO; exact hO⟩
              · refine WP.exit ?_
                refine WP.rs ?_
                obtain rfl : i = s.came.length := by omega
                rw [List.take_length] at hGB
                have hO : Own tabs w0 [] ((⟨b2, [.slice ba (s.came.map Cm.sl).length bc'], 41⟩ :: (GB ++ (SB (s.came.map Cm.sl) ++ []))) ++ (⟨b1, [.slice s.la s.pl.length s.lc, .slice s.ca s.came.length s.cc, .slice s.wa s.want.length s.wc], 28⟩ :: (s.GL ++ (s.GC ++ (s.GW ++ (PB s.pl ++ (CB s.want ++ []))))))) [⟨a, opc l⟩] w := by
                  rw [SB_sl, List.length_map]; exact hO.perm (by classical exact List.perm_iff_count.2 (fun z => by simp only [List.count_append, List.count_cons, List.count_nil]; omega))
                refine WPL.mv (v := .pointer _) rfl rfl ?_
                refine WPL.call rfl (law_Owned b2 (s.came.map Cm.sl) ba bc' GB hGB (by rw [List.length_map]; exact hbc) (by rw [List.length_map]; omega) (fun x hx => by
                  obtain ⟨y, hy, rfl⟩ := List.mem_map.1 hx
                  have hyo := hs.cok y hy
                  exact ⟨hyo.grown, hyo.cap, Nat.le_trans hyo.small (by decide)⟩) hO.startO) Tryz.func9 rfl rfl rfl ?_
                rintro _ w ⟨rfl, A', hk⟩
                have hO := hO.callO hk
                refine WPL.as (v := .bool _) rfl rfl ?_
                refine WPL.nil ?_
                refine WP.rs ?_
                refine WPL.mv (v := .pointer _) rfl rfl ?_
                refine WPL.mv (v := .pointer _) rfl rfl ?_
                refine WPL.nc rfl rfl ?_
                refine WPL.fa rfl rfl ?_
                obtain ⟨x, hx⟩ : ∃ x, s.pl[0]? = some x := ⟨s.pl[0]'(by omega), List.getElem?_eq_getElem _⟩
                refine WPL.ldL rfl hO inferInstance rfl rfl rfl ?_
                refine WPL.ixG (j := 0) (vals := bc s.pl) rfl (hO.rdG hs.gl) rfl rfl (by omega) (by rw [bc_length]; show 0 * 2 < _; omega) rfl ?_
                refine WPL.ldGA (T := T37) (0 * 2) [.pointer (some ⟨x.bk, 0, none⟩), .pointer (some ⟨x.rk, 0, none⟩)] rfl (hO.rdG hs.gl) (bc_get hx) agg37 rfl rfl ?_
                have hxm := List.mem_of_getElem? hx
                obtain ⟨p1, p2, hsp⟩ := split_get hx
                have hwl : s.want.length = s.came.length := by have := congrArg List.length hs.same; rw [List.length_map, List.length_map] at this; exact this.symm
                have hO : Own tabs w0 [] ((⟨b1, [.slice s.la (p1.length + 1 + p2.length) s.lc, .slice s.ca s.came.length s.cc, .slice s.wa s.want.length s.wc], 28⟩ :: ⟨x.bk, bnC x.B, 68⟩ :: ⟨x.rk, rfC x.R x.a x.c, 87⟩ :: (x.G ++ (s.GC ++ (s.GW ++ [])))) ++ (A' ++ (s.GL ++ (PB p1 ++ (PB p2 ++ (CB s.want ++ [])))))) [⟨a, opc l⟩] w := by
                  rw [show PB s.pl = PB p1 ++ (⟨x.bk, bnC x.B, 68⟩ :: ⟨x.rk, rfC x.R x.a x.c, 87⟩ :: x.G ++ PB p2) by rw [hsp, PB_append, PB_cons, Pr.blk], show s.pl.length = p1.length + 1 + p2.length by rw [hsp]; simp; omega] at hO
                  exact hO.perm (by classical exact List.perm_iff_count.2 (fun z => by simp only [List.count_append, List.count_cons, List.count_nil]; omega))
                refine WPL.call rfl (law_asked b1 s.la _ s.lc s.came s.want s.ca s.wa s.cc s.wc s.GC s.GW hs.gc hs.gw hs.ccap hs.wcap (by have := hs.cn; omega) (by have := hs.cn; omega) x (hs.pok x hxm) hO.startT) Tryz.func6 rfl rfl rfl ?_
                rintro _ w ⟨rfl, a1, c1, G1, a2, c2, G2, ca', cc', GC', wa', wc', GW', -, -, -, -, -, -, hk⟩
                have hO := hO.callO hk
                refine WPL.as (v := .bool _) rfl rfl ?_
                refine WPL.nil ?_
                refine WP.rs ?_
                refine WPL.mv (v := .bool _) rfl rfl ?_
                refine WPL.mv (v := .bool _) rfl rfl ?_
                refine WPL.split (s := 126) rfl (fun h11 => ?_) (fun h11 => ?_)
                · refine WPL.guardT rfl rfl h11 ?_
                  refine WPL.mv (v := .bool _) rfl rfl ?_
                  refine WPL.pkT (v := .bool _) rfl h11 rfl rfl ?_
                  refine WPL.as (v := .bool _) rfl rfl ?_
                  refine WPL.nil ?_
                  refine WP.ret ?_
                  refine ⟨rfl, ?_⟩
                  refine RO.tmp (v := .bool _) rfl ?_
                  refine RO.nil ?_
                  exact ⟨hO.fr, rfl⟩
                · cases h11
end Go.Sw
