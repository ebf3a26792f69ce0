/- A part of the proof that BinsAlike answers true: steps of the walk, or plain laws that it needs. No conditions of its own. -/
import Derived.Test.YtdaphmoojpbddaaDoorSVW13
import Derived.Test.YtdaphmoojpbddaaDoorSB14
import Derived.Test.YtdaphmoojpbddaaDoorSB11
set_option linter.all false
namespace Go.Sw
set_option autoImplicit false
set_option linter.all false
open Go.Proofs Go.RowKit
instance T27 : Ty Tryd.prog 27 (.slice 24) [.slice none 0 0] 24 := Ty.mk' Tryd.underlying27 (by kernel_rfl)
/-- A share: its block, its bins, its numbers. -/
structure Part where
  bk : Nat
  B : Bn
  l : List Nat
def pc (P : List Part) : List Value := P.map (fun p => .pointer (some ⟨p.bk, 0, none⟩))
def QB (P : List Part) : List Blk := P.map (fun p => ⟨p.bk, bnC p.B, 57⟩)
def pl (P : List Part) : List Nat := P.flatMap Part.l
theorem pc_length (P : List Part) : (pc P).length = P.length := by simp [pc]
theorem pc_append (P Q : List Part) : pc (P ++ Q) = pc P ++ pc Q := by simp [pc]
theorem pc_one (P : List Part) : ∀ v ∈ pc P, v.oneCell' = true := by
  intro v hv
  obtain ⟨x, _, rfl⟩ := List.mem_map.1 hv
  rfl
theorem QB_append (P Q : List Part) : QB (P ++ Q) = QB P ++ QB Q := by simp [QB]
theorem QB_cons (p : Part) (Q : List Part) : QB (p :: Q) = ⟨p.bk, bnC p.B, 57⟩ :: QB Q := rfl
theorem QB_nil : QB [] = [] := rfl
theorem pl_append (P Q : List Part) : pl (P ++ Q) = pl P ++ pl Q := by simp [pl]
theorem two_of {P : List Part} (h : 1 < P.length) : ∃ p0 p1 rest, P = p0 :: p1 :: rest := by
  rcases P with _ | ⟨p0, _ | ⟨p1, rest⟩⟩
  · simp at h
  · simp at h
  · exact ⟨p0, p1, rest, rfl⟩
theorem one_of {P : List Part} (h : P.length = 1) : ∃ p, P = [p] := List.length_eq_one_iff.1 h
theorem law_newx {w0 : World} (n : Int) : Spec Tryd.prog 5 [.int .i64 n] w0 (fun v w' => ∃ A, v = .pointer A ∧ FrX [] w0 w' ∧ (A.isNone = false → 1 ≤ n ∧ n ≤ 8)) := by
  refine (bins_New n).mono ?_
  rintro v w (⟨_, rfl, rfl⟩ | ⟨hn, b, rfl, hf, _⟩)
  · exact ⟨none, rfl, .refl _ _, fun h => by cases h⟩
  · exact ⟨_, rfl, hf, fun _ => hn⟩
theorem r3_Of {w0 : World} (x : Nat) (hx : x < 18446744073709551616) : Spec Tryd.prog 11 [.float .f64 x] w0 (fun v w' => FrX [] w0 w' ∧ ∃ D a c e, v = .tuple #[dyV D a c, .int .i64 e] ∧ (dig D.m).length ≤ c ∧ Res w0 w' a c 1 (ws .u32 (dig D.m)) 60 ∧ (finB x → D = fval x ∧ e = 0) ∧ (¬ finB x → e ≠ 0)) := by
  by_cases h : finB x
  · refine (r3_Of_ok x hx h).mono ?_
    rintro v w ⟨hf, a, c, rfl, h1, h2⟩
    exact ⟨hf, fval x, a, c, 0, rfl, h1, h2, fun _ => ⟨rfl, rfl⟩, fun hn => absurd h hn⟩
  · refine (r3_Of_no x hx (by unfold finB at h; omega)).mono ?_
    rintro v w ⟨hf, rfl⟩
    exact ⟨hf, ⟨false, 0, 0⟩, none, 0, 30, by simp [dyV, dig_zero], by simp [dig_zero], by simp only [dig_zero]; exact Res.nil rfl, fun hh => absurd hh h, fun _ => by decide⟩

theorem law_BinsAlike {w0 : World} (ht : TabOk tabs w0) (fold : Int) (a : Option Addr) (xs : List Nat) (c : Nat) (sh : Int) {nl : Nat} (hr : RowOk w0 [] ⟨a, fc xs⟩) (hnl : nl = xs.length) (hx : W64 xs) : Spec Tryd.prog 3 [.int .i64 fold, .slice a nl c, .int .i64 sh] w0 (fun v w' => FrX [] w0 w' ∧ v = .bool true) := by
  subst hnl
  obtain ⟨M4, hM4⟩ : ∃ M4, M4 = 4000 := ⟨_, rfl⟩
  have hO : Own tabs w0 [] [] [⟨a, fc xs⟩] w0 := Own.start ht (by intro r hr'; obtain rfl := List.mem_singleton.1 hr'; exact hr)
  refine Spec.enter (n := 214) (rs := [.tmp 6]) Tryd.func3 rfl rfl rfl rfl ?_
  refine WP.rs ?_
  refine WPL.as (v := .bool false) rfl rfl ?_
  refine WPL.nil ?_
  refine WP.rs ?_
  refine WPL.call rfl (law_awake hO.tab) Tryd.func4 rfl rfl rfl ?_
  rintro _ w ⟨hf31, rfl⟩
  have hO := hO.call hf31
  refine WPL.as (v := .bool _) rfl rfl ?_
  refine WPL.nil ?_
  refine WP.rs ?_
  refine WPL.mv (v := .int .i64 _) rfl rfl ?_
  refine WPL.call rfl (law_newx fold) Tryd.func5 rfl rfl rfl ?_
  rintro _ w ⟨A, rfl, hf33, hA⟩
  have hO := hO.call hf33
  refine WPL.as (v := .pointer _) rfl rfl ?_
  refine WPL.nil ?_
  refine WP.seqI (I := fun σ ds w' => ∃ f : Nat, fold = (f : Int) ∧ (1 ≤ f ∧ f ≤ 8) ∧ xs.length ≤ 4000 ∧ Has σ [(0, .int .i64 fold), (1, .slice a xs.length c), (2, .int .i64 sh)] ∧ ds = [] ∧ Own tabs w0 [] [] [⟨a, fc xs⟩] w') ?_ ?_
  · refine WP.rs ?_
    refine WPL.mv (v := .bool _) rfl rfl ?_
    refine WPL.not rfl rfl ?_
    refine WPL.mv (v := .bool _) rfl rfl ?_
    refine WPL.split (s := 36) rfl (fun h1 => ?_) (fun h1 => ?_)
    · cases h1
    · refine WPL.guardT rfl rfl h1 ?_
      refine WPL.mv (v := .pointer _) rfl rfl ?_
      refine WPL.guardT rfl rfl h1 ?_
      refine WPL.eqP rfl rfl rfl ?_
      refine WPL.pkF (v := .bool _) rfl h1 rfl rfl ?_
      refine WPL.mv (v := .bool _) rfl rfl ?_
      refine WPL.split (s := 40) rfl (fun h2 => ?_) (fun h2 => ?_)
      · refine WPL.guardF rfl rfl rfl h2 ?_
        refine WPL.guardF rfl rfl rfl h2 ?_
        refine WPL.guardF rfl rfl rfl h2 ?_
        refine WPL.pkT (v := .bool true) rfl h2 rfl rfl ?_
        refine WPL.nil ?_
        refine WP.cT rfl rfl ?_
        refine WP.rs ?_
        refine WPL.mv (v := .bool _) rfl rfl ?_
        refine WPL.as (v := .bool _) rfl rfl ?_
        refine WPL.nil ?_
        refine WP.ret ?_
        refine ⟨rfl, ?_⟩
        refine RO.tmp (v := .bool _) rfl ?_
        refine RO.nil ?_
        exact ⟨hO.fr, rfl⟩
      · refine WPL.guardT rfl rfl h2 ?_
        refine WPL.mv (v := .slice _ _ _) rfl rfl ?_
        refine WPL.guardT rfl rfl h2 ?_
        refine WPL.len rfl rfl ?_
        refine WPL.guardT rfl rfl h2 ?_
        refine WPL.gt rfl rfl rfl ?_
        refine WPL.pkF (v := .bool _) rfl h2 rfl rfl ?_
        refine WPL.nil ?_
        refine WP.condP rfl (fun h3 => ?_) (fun h3 => ?_)
        · refine WP.rs ?_
          refine WPL.mv (v := .bool _) rfl rfl ?_
          refine WPL.as (v := .bool _) rfl rfl ?_
          refine WPL.nil ?_
          refine WP.ret ?_
          refine ⟨rfl, ?_⟩
          refine RO.tmp (v := .bool _) rfl ?_
          refine RO.nil ?_
          exact ⟨hO.fr, rfl⟩
        · refine WP.skip ?_
          have hAr := hA h2
          exact ⟨fold.toNat, by omega, by omega, by omega, ⟨rfl, rfl, rfl, trivial⟩, rfl, hO⟩
  · rintro σ ds w ⟨f, rfl, hf8, hlen, hH, rfl, hO⟩
    refine WP.reset hH ?_
    refine WP.rs ?_
    refine WPL.as (v := .slice none 0 0) rfl rfl ?_
    refine WPL.nil ?_
    refine WP.seqI (I := fun σ ds w' => ∃ ab cb GB, Grown ab cb 1 (fc xs.reverse) 26 GB ∧ xs.length ≤ cb ∧ Has σ [(0, .int .i64 (f : Int)), (1, .slice a xs.length c), (2, .int .i64 sh), (9, .slice ab xs.length cb)] ∧ ds = [] ∧ Own tabs w0 [] (GB ++ []) [⟨a, fc xs⟩] w') ?_ ?_
    · refine WP.rs ?_
      refine WPL.mv (v := .slice _ _ _) rfl rfl ?_
      refine WPL.len rfl rfl ?_
      refine WPL.subI rfl rfl (by omega) rfl ?_
      refine WPL.as (v := .int .i64 _) rfl rfl ?_
      refine WPL.nil ?_
      refine WP.block ?_
      refine WP.loop (fun m σ ds w' => ∃ k ab cb GB, m + k = xs.length ∧ Grown ab cb 1 (fc (xs.reverse.take k)) 26 GB ∧ k ≤ cb ∧ Has σ [(0, .int .i64 (f : Int)), (1, .slice a xs.length c), (2, .int .i64 sh), (9, .slice ab k cb), (10, .int .i64 ((xs.length : Int) - 1 - (k : Int)))] ∧ ds = [] ∧ Own tabs w0 [] (GB ++ []) [⟨a, fc xs⟩] w') xs.length ?_ ?_
      · exact ⟨0, none, 0, [], rfl, .inl ⟨rfl, rfl, by simp [fc], rfl⟩, Nat.le_refl _, ⟨rfl, rfl, rfl, rfl, by show Value.int .i64 _ = Value.int .i64 _; exact congrArg _ (by omega), trivial⟩, rfl, hO⟩
      · clear hO
        rintro m σ ds w ⟨k, ab, cb, GB, hm, hG, hcb, hH, rfl, hO⟩
        refine WP.reset hH ?_
        refine WP.seq ?_
        refine WP.rs ?_
        refine WPL.mv (v := .int .i64 _) rfl rfl ?_
        refine WPL.ge rfl rfl rfl ?_
        refine WPL.nil ?_
        refine WP.condP rfl (fun h4 => ?_) (fun h4 => ?_)
        · refine WP.skip ?_
          refine WP.seq ?_
          refine WP.block ?_
          refine WP.region ?_
          obtain ⟨x0, hx0⟩ : ∃ x0, xs[xs.length - 1 - k]? = some x0 := ⟨xs[xs.length - 1 - k]'(by omega), List.getElem?_eq_getElem _⟩
          have hrev : xs.reverse[k]? = some x0 := by rw [List.getElem?_reverse (by omega), hx0]
          refine WPL.mv (v := .slice _ _ _) rfl rfl ?_
          refine WPL.mv (v := .slice _ _ _) rfl rfl ?_
          refine WPL.mv (v := .int .i64 _) rfl rfl ?_
          refine WPL.ixR (a := a) (j := xs.length - 1 - k) (vals := fc xs) rfl hO inferInstance rfl (by omega) (by omega) (by rw [fc_length]; show (xs.length - 1 - k) * 1 < _; omega) rfl ?_
          refine WPL.ldR (a := a) (j := (xs.length - 1 - k) * 1) (vals := fc xs) rfl hO inferInstance (fc_get1 hx0) rfl rfl ?_
          refine WPL.bs1 (pv := [(0, .float .f64 _)]) (vs := [_]) rfl hO rfl rfl rfl rfl (fun b1 w hO => ?_)
          have hO := hO.freeze
          have hsrc : SrcRow w (.slice (some ⟨b1, 0, none⟩) 1 1) 1 1 (fc [x0]) := ⟨_, _, rfl, by simp [fc], hO.rd, fc_one _⟩
          refine WPL.app (ze := [.float .f64 0]) (vals := fc (xs.reverse.take k)) rfl hO hG (by rw [fc_length, List.length_take, List.length_reverse]; show _ = k * 1; omega) hcb hsrc (by decide) (by omega) (by omega) rfl (fun a59 c59 G59 w hG59 hc59 hO => ?_)
          have hO := hO.dropR
          rw [← fc_append] at hG59
          refine WPL.as (v := .slice _ _ _) rfl rfl ?_
          refine WPL.nil ?_
          refine WP.region ?_
          refine WPL.mv (v := .int .i64 _) rfl rfl ?_
          refine WPL.subI rfl rfl (by omega) rfl ?_
          refine WPL.as (v := .int .i64 _) rfl rfl ?_
          refine WPL.nil ?_
          have e9 : xs.reverse.take k ++ [x0] = xs.reverse.take (k + 1) := by rw [List.take_succ, hrev]; rfl
          rw [e9] at hG59
          exact ⟨m - 1, by omega, k + 1, a59, c59, G59, by omega, hG59, hc59, ⟨rfl, rfl, rfl, rfl, by show Value.int .i64 _ = Value.int .i64 _; exact congrArg _ (by omega), trivial⟩, rfl, hO⟩
        · refine WP.exit ?_
          obtain rfl : k = xs.length := by omega
          rw [List.take_of_length_le (by simp)] at hG
          exact ⟨ab, cb, GB, hG, hcb, ⟨rfl, rfl, rfl, rfl, trivial⟩, rfl, hO⟩
    · rintro σ ds w ⟨ab, cb, GB, hGB, hcb, hH, rfl, hO⟩
      refine WP.reset hH ?_
      refine WP.seqI (I := fun σ ds w' => ∃ s : Nat, 1 ≤ s ∧ s ≤ 64 ∧ Has σ [(0, .int .i64 (f : Int)), (1, .slice a xs.length c), (9, .slice ab xs.length cb), (2, .int .i64 (s : Int))] ∧ ds = [] ∧ Own tabs w0 [] (GB ++ []) [⟨a, fc xs⟩] w') ?_ ?_
      · refine WP.rs ?_
        refine WPL.mv (v := .int .i64 _) rfl rfl ?_
        refine WPL.lt rfl rfl rfl ?_
        refine WPL.mv (v := .bool _) rfl rfl ?_
        refine WPL.split (s := 62) rfl (fun h5 => ?_) (fun h5 => ?_)
        · have ph5 := of_decide_eq_true h5
          refine WPL.guardF rfl rfl rfl h5 ?_
          refine WPL.guardF rfl rfl rfl h5 ?_
          refine WPL.pkT (v := .bool true) rfl h5 rfl rfl ?_
          refine WPL.nil ?_
          refine WP.cT rfl rfl ?_
          refine WP.region ?_
          refine WPL.mv (v := .slice _ _ _) rfl rfl ?_
          refine WPL.len rfl rfl ?_
          refine WPL.remN (a := xs.length) (b := 7) rfl rfl (by omega) rfl ?_
          refine WPL.addI rfl rfl (by omega) rfl ?_
          refine WPL.as (v := .int .i64 _) rfl rfl ?_
          refine WPL.nil ?_
          first
          | exact ⟨sh.toNat, by omega, by omega, ⟨rfl, rfl, rfl, by show Value.int .i64 _ = Value.int .i64 _; exact congrArg _ (by omega), trivial⟩, rfl, hO⟩
          | exact ⟨1 + xs.length % 7, by omega, by omega, ⟨rfl, rfl, rfl, by show Value.int .i64 _ = Value.int .i64 _; exact congrArg _ (by omega), trivial⟩, rfl, hO⟩
        · have ph5 := of_decide_eq_false h5
          refine WPL.guardT rfl rfl h5 ?_
          refine WPL.mv (v := .int .i64 _) rfl rfl ?_
          refine WPL.guardT rfl rfl h5 ?_
          refine WPL.gt rfl rfl rfl ?_
          refine WPL.pkF (v := .bool _) rfl h5 rfl rfl ?_
          refine WPL.nil ?_
          refine WP.condP rfl (fun h6 => ?_) (fun h6 => ?_)
          · refine WP.region ?_
            refine WPL.mv (v := .slice _ _ _) rfl rfl ?_
            refine WPL.len rfl rfl ?_
            refine WPL.remN (a := xs.length) (b := 7) rfl rfl (by omega) rfl ?_
            refine WPL.addI rfl rfl (by omega) rfl ?_
            refine WPL.as (v := .int .i64 _) rfl rfl ?_
            refine WPL.nil ?_
            first
            | exact ⟨sh.toNat, by omega, by omega, ⟨rfl, rfl, rfl, by show Value.int .i64 _ = Value.int .i64 _; exact congrArg _ (by omega), trivial⟩, rfl, hO⟩
            | exact ⟨1 + xs.length % 7, by omega, by omega, ⟨rfl, rfl, rfl, by show Value.int .i64 _ = Value.int .i64 _; exact congrArg _ (by omega), trivial⟩, rfl, hO⟩
          · refine WP.skip ?_
            first
            | exact ⟨sh.toNat, by omega, by omega, ⟨rfl, rfl, rfl, by show Value.int .i64 _ = Value.int .i64 _; exact congrArg _ (by omega), trivial⟩, rfl, hO⟩
            | exact ⟨1 + xs.length % 7, by omega, by omega, ⟨rfl, rfl, rfl, by show Value.int .i64 _ = Value.int .i64 _; exact congrArg _ (by omega), trivial⟩, rfl, hO⟩
      · rintro σ ds w ⟨s, hs1, hs64, hH, rfl, hO⟩
        refine WP.reset hH ?_
        refine WP.rs ?_
        refine WPL.as (v := .slice none 0 0) rfl rfl ?_
        refine WPL.nil ?_
        refine WP.seqI (I := fun σ ds w' => ∃ P ap cp GP, 1 ≤ P.length ∧ P.length ≤ 64 ∧ GrownO ap cp 1 (pc P) 24 GP ∧ P.length ≤ cp ∧ (∀ p ∈ P, Cn p.B f p.l) ∧ (pl P).Perm xs ∧ Has σ [(0, .int .i64 (f : Int)), (1, .slice a xs.length c), (9, .slice ab xs.length cb), (11, .slice ap P.length cp)] ∧ ds = [] ∧ Own tabs w0 [] (GP ++ (QB P ++ (GB ++ []))) [⟨a, fc xs⟩] w') ?_ ?_
        · refine WP.rs ?_
          refine WPL.as (v := .int .i64 0) rfl rfl ?_
          refine WPL.nil ?_
          refine WP.block ?_
          refine WP.loop (fun m σ ds w' => ∃ k P ap cp GP, m + k = s ∧ P.length = k ∧ GrownO ap cp 1 (pc P) 24 GP ∧ P.length ≤ cp ∧ (∀ p ∈ P, Cn p.B f p.l) ∧ (pl P).Perm ((List.range k).flatMap (fun i => evs xs s i M4)) ∧ Has σ [(0, .int .i64 (f : Int)), (1, .slice a xs.length c), (9, .slice ab xs.length cb), (2, .int .i64 (s : Int)), (11, .slice ap k cp), (12, .int .i64 (k : Int))] ∧ ds = [] ∧ Own tabs w0 [] (GP ++ (QB P ++ (GB ++ []))) [⟨a, fc xs⟩] w') s ?_ ?_
          · exact ⟨0, [], none, 0, [], rfl, rfl, .inl ⟨rfl, rfl, rfl, rfl⟩, Nat.le_refl _, (fun p hp => by cases hp), .refl _, ⟨rfl, rfl, rfl, rfl, rfl, rfl, trivial⟩, rfl, hO⟩
          · clear hO
            rintro m σ ds w ⟨k, P, ap, cp, GP, hm, hPl, hGP, hcP, hPB, hpm, hH, rfl, hO⟩
            refine WP.reset hH ?_
            refine WP.seq ?_
            refine WP.rs ?_
            refine WPL.mv (v := .int .i64 _) rfl rfl ?_
            refine WPL.mv (v := .int .i64 _) rfl rfl ?_
            refine WPL.lt rfl rfl rfl ?_
            refine WPL.nil ?_
            refine WP.condP rfl (fun h7 => ?_) (fun h7 => ?_)
            · refine WP.skip ?_
              refine WP.seq ?_
              refine WP.block ?_
              refine WP.region ?_
              refine WPL.mv (v := .slice _ _ _) rfl rfl ?_
              refine WPL.mv (v := .int .i64 _) rfl rfl ?_
              refine WPL.mv (v := .slice _ _ _) rfl rfl ?_
              refine WPL.mv (v := .int .i64 _) rfl rfl ?_
              refine WPL.mv (v := .int .i64 _) rfl rfl ?_
              refine WPL.call rfl (law_filled f hf8 xs hx hlen a c k s M4 (by omega) (by rw [hM4]; omega) (by omega) (by omega) (by omega) rfl hO.rd) Tryd.func6 rfl rfl rfl ?_
              rintro _ w ⟨hf80, bb, Bb, rfl, hB80, hfr80⟩
              have hO := hO.takeB hf80 hfr80
              refine WPL.bs1 (pv := [(0, .pointer _)]) (vs := [_]) rfl hO rfl rfl rfl rfl (fun b2 w hO => ?_)
              have hO := hO.freeze
              have hsrc : SrcRow w (.slice (some ⟨b2, 0, none⟩) 1 1) 1 1 (pc [⟨bb, Bb, evs xs s k M4⟩]) := ⟨_, _, rfl, by simp [pc], hO.rd, pc_one _⟩
              have hO : Own tabs w0 [] (GP ++ (QB P ++ (⟨bb, bnC Bb, 57⟩ :: (GB ++ [])))) _ w := hO.perm (by classical exact List.perm_iff_count.2 (fun z => by simp only [List.count_append, List.count_cons, List.count_nil]; omega))
              refine WPL.appO (ze := [.pointer none]) (vals := pc P) rfl hO hGP (by rw [pc_length, hPl]; show k = k * 1; omega) (by omega) hsrc (by decide) (by omega) (by omega) rfl (fun a82 c82 G82 w hG82 hc82 hO => ?_)
              have hO := hO.dropR
              rw [← pc_append] at hG82
              refine WPL.as (v := .slice _ _ _) rfl rfl ?_
              refine WPL.nil ?_
              refine WP.region ?_
              refine WPL.mv (v := .int .i64 _) rfl rfl ?_
              refine WPL.addI rfl rfl (by omega) rfl ?_
              refine WPL.as (v := .int .i64 _) rfl rfl ?_
              refine WPL.nil ?_
              refine ⟨m - 1, by omega, k + 1, P ++ [⟨bb, Bb, evs xs s k M4⟩], a82, c82, G82, by omega, by simp; omega, hG82, by simp; omega, ?_, ?_, ⟨rfl, rfl, rfl, rfl, rfl, rfl, trivial⟩, rfl, ?_⟩
              · intro p hp
                rcases List.mem_append.1 hp with hp | hp
                · exact hPB p hp
                · obtain rfl := List.mem_singleton.1 hp; exact hB80
              · rw [pl_append, List.range_succ, List.flatMap_append]
                exact hpm.append (by simp [pl])
              · rw [QB_append, QB_cons, QB_nil]
                exact hO.perm (by classical exact List.perm_iff_count.2 (fun z => by simp only [List.count_append, List.count_cons, List.count_nil]; omega))
            · refine WP.exit ?_
              obtain rfl : k = s := by omega
              exact ⟨P, ap, cp, GP, by omega, by omega, hGP, hcP, hPB, hpm.trans (evs_perm (by rw [hM4]; omega)), ⟨rfl, rfl, rfl, by show Value.slice _ _ _ = _; rw [hPl], trivial⟩, rfl, hO⟩
        · rintro σ ds w ⟨P, ap, cp, GP, hP1, hP64, hGP, hcP, hPB, hpm, hH, rfl, hO⟩
          refine WP.reset hH ?_
          refine WP.seqI (I := fun σ ds w' => ∃ p ap cp GP, GrownO ap cp 1 (pc [p]) 24 GP ∧ Cn p.B f xs ∧ Has σ [(0, .int .i64 (f : Int)), (1, .slice a xs.length c), (9, .slice ab xs.length cb), (11, .slice ap 1 cp)] ∧ ds = [] ∧ Own tabs w0 [] (GP ++ (⟨p.bk, bnC p.B, 57⟩ :: (GB ++ []))) [⟨a, fc xs⟩] w') ?_ ?_
          · refine WP.block ?_
            obtain ⟨np, hnp⟩ : ∃ np, P.length = np + 1 := ⟨P.length - 1, by omega⟩
            refine WP.loop (fun m σ ds w' => ∃ P ap cp GP, P.length = m + 1 ∧ P.length ≤ 64 ∧ GrownO ap cp 1 (pc P) 24 GP ∧ P.length ≤ cp ∧ (∀ p ∈ P, Cn p.B f p.l) ∧ (pl P).Perm xs ∧ Has σ [(0, .int .i64 (f : Int)), (1, .slice a xs.length c), (9, .slice ab xs.length cb), (11, .slice ap P.length cp)] ∧ ds = [] ∧ Own tabs w0 [] (GP ++ (QB P ++ (GB ++ []))) [⟨a, fc xs⟩] w') np ?_ ?_
            · exact ⟨P, ap, cp, GP, hnp, hP64, hGP, hcP, hPB, hpm, ⟨rfl, rfl, rfl, rfl, trivial⟩, rfl, hO⟩
            · clear hO hPB hpm hGP hcP hP1 hP64 hnp
              rintro m σ ds w ⟨P, ap, cp, GP, hm, hP64, hGP, hcP, hPB, hpm, hH, rfl, hO⟩
              refine WP.reset hH ?_
              refine WP.seq ?_
              refine WP.rs ?_
              refine WPL.mv (v := .slice _ _ _) rfl rfl ?_
              refine WPL.len rfl rfl ?_
              refine WPL.gt rfl rfl rfl ?_
              refine WPL.nil ?_
              refine WP.condP rfl (fun h8 => ?_) (fun h8 => ?_)
              · obtain ⟨p0, p1, rest, rfl⟩ := two_of (P := P) (by omega)
                have hB0 := hPB p0 (by simp)
                have hB1 := hPB p1 (by simp)
                have hO : Own tabs w0 [] (⟨p1.bk, bnC p1.B, 57⟩ :: ⟨p0.bk, bnC p0.B, 57⟩ :: (GP ++ (QB rest ++ (GB ++ [])))) [⟨a, fc xs⟩] w := by
                  rw [QB_cons, QB_cons] at hO; exact hO.perm (by classical exact List.perm_iff_count.2 (fun z => by simp only [List.count_append, List.count_cons, List.count_nil]; omega))
                have hne := hO.head_ne (e := ⟨p0.bk, bnC p0.B, 57⟩) (by simp)
                have epl : pl (p0 :: p1 :: rest) = p0.l ++ (p1.l ++ pl rest) := by simp [pl]
                have hple := hpm.length_eq
                rw [epl, List.length_append, List.length_append] at hple
                have hw0 : W64 p0.l := fun z hz => hx z (hpm.mem_iff.1 (by rw [epl]; simp [hz]))
                have hw1 : W64 p1.l := fun z hz => hx z (hpm.mem_iff.1 (by rw [epl]; simp [hz]))
                have hc0 : p0.B.count ≤ p0.l.length := by
                  have h1 : p0.B.count = (ent p0.l).length := hB0.count
                  have h2 := ent_len p0.l; omega
                have hc1 : p1.B.count ≤ p1.l.length := by
                  have h1 : p1.B.count = (ent p1.l).length := hB1.count
                  have h2 := ent_len p1.l; omega
                have hm2 : rest.length + 1 = m := by simpa using hm
                have hcP2 : rest.length + 2 ≤ cp := by simpa using hcP
                refine WP.skip ?_
                refine WP.block ?_
                refine WP.seq ?_
                refine WP.draw [(0, 0), (1, 1), (2, 1), (3, 0), (4, 1), (5, 1), (6, 2), (7, 0)] [6] mixed (by kernel_rfl) (by kernel_rfl) rfl hO (fun w hO => ?_)
                refine WPD.pv rfl rfl (fun w k' h => WPL.mv (v := .slice _ _ _) rfl rfl (WPL.nil h)) ?_
                refine WPD.val rfl rfl (fun w hO k' h => WPL.ixG (j := 1) (vals := pc (p0 :: p1 :: rest)) rfl (hO.rdO hGP) rfl rfl (by simp) (by simp [pc]) rfl (WPL.nil h)) ?_
                refine WPD.val rfl rfl (fun w hO k' h => WPL.ldG (v := .pointer (some ⟨p1.bk, 0, none⟩)) (1 * 1) rfl (hO.rdO hGP) rfl rfl rfl (WPL.nil h)) ?_
                refine WPD.pv rfl rfl (fun w k' h => WPL.mv (v := .slice _ _ _) rfl rfl (WPL.nil h)) ?_
                refine WPD.val rfl rfl (fun w hO k' h => WPL.ixG (j := 0) (vals := pc (p0 :: p1 :: rest)) rfl (hO.rdO hGP) rfl rfl (by simp) (by simp [pc]) rfl (WPL.nil h)) ?_
                refine WPD.val rfl rfl (fun w hO k' h => WPL.ldG (v := .pointer (some ⟨p0.bk, 0, none⟩)) (0 * 1) rfl (hO.rdO hGP) rfl rfl rfl (WPL.nil h)) ?_
                refine WPD.eff rfl hO ?_
                refine WPL.call rfl (bins_Merge p1.bk p0.bk hne p1.B p0.B (hO.cells ⟨p1.bk, bnC p1.B, 57⟩ (by simp)) (hO.cells ⟨p0.bk, bnC p0.B, 57⟩ (by simp)) 4722366482869645213696 (by decide) (Bn.Ok.mono hB1.Ok (by decide)) (Bn.Ok.mono hB0.Ok (by decide)) (by omega) (hB1.fold.trans hB0.fold.symm) (by omega)) Tryd.func7 rfl rfl rfl ?_
                rintro _ w ⟨rfl, hf92, hb92⟩
                have hB2 := hB1.merge hB0 hw1 hw0 (by omega)
                have hO := hO.turn1 (L' := ⟨p1.bk, bnC (p1.B.mergeF p0.B), 57⟩ :: ⟨p0.bk, bnC p0.B, 57⟩ :: (GP ++ (QB rest ++ (GB ++ [])))) (c0 := bnC p1.B) inferInstance inferInstance hf92 hb92
                refine WPL.nil ?_
                refine WPD.pv rfl rfl (fun w k' h => WPL.as (v := .int .i64 _) rfl rfl (WPL.nil h)) ?_
                refine WPD.nilX (by kernel_rfl) ?_
                refine WP.seq ?_
                refine WP.rs ?_
                refine WPL.mv (v := .int .i64 _) rfl rfl ?_
                refine WPL.ne rfl rfl rfl ?_
                refine WPL.nil ?_
                refine WP.condP rfl (fun h9 => ?_) (fun h9 => ?_)
                · exact absurd rfl h9
                · refine WP.skip ?_
                  refine WP.draw [(0, 0), (1, 0), (2, 0), (3, 1), (4, 1), (5, 2), (6, 2), (7, 0)] [6] mixed (by kernel_rfl) (by kernel_rfl) rfl hO (fun w hO => ?_)
                  refine WPD.pv rfl rfl (fun w k' h => WPL.mv (v := .slice _ _ _) rfl rfl (WPL.nil h)) ?_
                  refine WPD.pv rfl rfl (fun w k' h => WPL.slL (lo := 2) rfl rfl rfl (by simp) rfl (WPL.nil h)) ?_
                  refine WPD.pv rfl rfl (fun w k' h => WPL.mv (v := .slice _ _ _) rfl rfl (WPL.nil h)) ?_
                  refine WPD.val rfl rfl (fun w hO k' h => WPL.ixG (j := 1) (vals := pc (p0 :: p1 :: rest)) rfl (hO.rdO hGP) rfl rfl (by simp) (by simp [pc]) rfl (WPL.nil h)) ?_
                  refine WPD.val rfl rfl (fun w hO k' h => WPL.ldG (v := .pointer (some ⟨p1.bk, 0, none⟩)) (1 * 1) rfl (hO.rdO hGP) rfl rfl rfl (WPL.nil h)) ?_
                  refine WPD.eff rfl hO ?_
                  refine WPL.bs1 (pv := [(0, .pointer _)]) (vs := [_]) rfl hO rfl rfl rfl rfl (fun b3 w hO => ?_)
                  refine WPL.nil ?_
                  refine WPD.eff rfl (Own.drop1 hO) ?_
                  have hO := hO.freeze
                  have hsrc : SrcRow w (.slice (some ⟨b3, 0, none⟩) 1 1) 1 1 (pc [⟨p1.bk, p1.B.mergeF p0.B, p1.l ++ p0.l⟩]) := ⟨_, _, rfl, by simp [pc], hO.rd, pc_one _⟩
                  have hGc : GrownO (cutA ap cp 2 1) (cp - 2) 1 (pc rest) 24 GP := hGP.cut (lo := 2) (by simp [pc]) (by simp [pc]; omega) (by omega)
                  have hO : Own tabs w0 [] (GP ++ (⟨p1.bk, bnC (p1.B.mergeF p0.B), 57⟩ :: ⟨p0.bk, bnC p0.B, 57⟩ :: (QB rest ++ (GB ++ [])))) _ w := hO.perm (by classical exact List.perm_iff_count.2 (fun z => by simp only [List.count_append, List.count_cons, List.count_nil]; omega))
                  refine WPL.appO (ze := [.pointer none]) (l := rest.length) (vals := pc rest) rfl hO hGc (by rw [pc_length]; show _ = rest.length * 1; omega) (by omega) hsrc (by decide) (by omega) (by omega) rfl (fun a101 c101 G101 w hG101 hc101 hO => ?_)
                  have hO := hO.dropR
                  rw [← pc_append] at hG101
                  refine WPL.nil ?_
                  refine WPD.pv rfl rfl (fun w k' h => WPL.as (v := .slice _ _ _) rfl rfl (WPL.nil h)) ?_
                  refine WPD.nilX (by kernel_rfl) ?_
                  have hO : Own tabs w0 [] (G101 ++ (QB rest ++ (⟨p1.bk, bnC (p1.B.mergeF p0.B), 57⟩ :: (GB ++ [])))) [⟨a, fc xs⟩] w := by
                    have hO2 : Own tabs w0 [] (⟨p0.bk, bnC p0.B, 57⟩ :: (G101 ++ (QB rest ++ (⟨p1.bk, bnC (p1.B.mergeF p0.B), 57⟩ :: (GB ++ []))))) [⟨a, fc xs⟩] w := hO.perm (by classical exact List.perm_iff_count.2 (fun z => by simp only [List.count_append, List.count_cons, List.count_nil]; omega))
                    exact hO2.drop1
                  refine ⟨m - 1, by omega, rest ++ [⟨p1.bk, p1.B.mergeF p0.B, p1.l ++ p0.l⟩], a101, c101, G101, by simp; omega, by simp at hP64 ⊢; omega, hG101, by simp; omega, ?_, ?_, ⟨rfl, rfl, rfl, by show Value.slice _ _ _ = _; congr 1; simp, trivial⟩, rfl, ?_⟩
                  · intro p hp
                    rcases List.mem_append.1 hp with hp | hp
                    · exact hPB p (by simp [hp])
                    · obtain rfl := List.mem_singleton.1 hp; exact hB2
                  · refine List.Perm.trans ?_ hpm
                    rw [pl_append, epl]
                    have e1 : pl [⟨p1.bk, p1.B.mergeF p0.B, p1.l ++ p0.l⟩] = p1.l ++ p0.l := by simp [pl]
                    rw [e1]
                    exact (by classical exact List.perm_iff_count.2 (fun z => by simp only [List.count_append, List.count_cons, List.count_nil]; omega))
                  · rw [QB_append, QB_cons, QB_nil]
                    exact hO.perm (by classical exact List.perm_iff_count.2 (fun z => by simp only [List.count_append, List.count_cons, List.count_nil]; omega))
              · refine WP.exit ?_
                obtain ⟨p, rfl⟩ := one_of (P := P) (by omega)
                have hpx : (pl [p]).Perm xs := hpm
                exact ⟨p, ap, cp, GP, hGP, (hPB p (by simp)).perm (by simpa [pl] using hpx) (W64.perm hx (by simpa [pl] using hpx.symm)) (by have := hpx.length_eq; simp [pl] at this; omega), ⟨rfl, rfl, rfl, rfl, trivial⟩, rfl, hO⟩
          · rintro σ ds w ⟨p, ap, cp, GP, hGP, hpB, hH, rfl, hO⟩
            refine WP.reset hH ?_
            refine WP.rs ?_
            have hpB' := hpB
            refine WPL.mv (v := .int .i64 _) rfl rfl ?_
            refine WPL.mv (v := .slice _ _ _) rfl rfl ?_
            refine WPL.call rfl (law_filled f hf8 xs hx hlen a c 0 1 M4 (by omega) (by first | omega | (rw [List.length_reverse]; omega)) (by omega) (by omega) (by omega) rfl hO.rd) Tryd.func6 rfl rfl rfl ?_
            rintro _ w ⟨hf105, q5, B5, rfl, hB5, hfr5⟩
            rw [evs_one, List.take_of_length_le (by first | omega | (rw [List.length_reverse]; omega))] at hB5
            have hO := hO.takeB hf105 hfr5
            have hcnt5 : B5.count ≤ 1099511627776 := by
              have h1 : B5.count = (ent xs).length := hB5.count
              have h2 := ent_len xs; omega
            have hkl := len_blen (k := 8192) (show blen B5.kept.m ≤ 32 * 8192 by have := (B5.keptN_B (q := 4722366482869645213696) (by decide) hB5.Ok hB5.Ok.fold).1; unfold Bn.kept; omega)
            refine WPL.call rfl (law_told hO.tab q5 (notab hO (b := q5) (by simp [keys])) B5 (hO.cells ⟨q5, bnC B5, 57⟩ (by simp)) hB5.Ok hcnt5) Tryd.func8 rfl rfl rfl ?_
            rintro _ w ⟨hf106, ak, ck, rfl, hck, hrk⟩
            obtain ⟨Gk, hGk, hO⟩ := hO.resL hf106 hrk
            unfold dyV
            refine WPL.mv (v := .tuple #[.agg #[.bool _, .slice _ _ _, .int .i64 _], .float .f64 _, .int .i64 _]) rfl rfl ?_
            refine WPL.ext (v := .agg #[.bool _, .slice _ _ _, .int .i64 _]) rfl rfl rfl ?_
            refine WPL.ext (v := .float .f64 _) rfl rfl rfl ?_
            refine WPL.ext (v := .int .i64 _) rfl rfl rfl ?_
            refine WPL.al hO rfl (fun b4 w hO => ?_)
            refine WPL.stLA (T := T34) rfl rfl hO inferInstance inferInstance (by simp [Value.oneCell']) rfl rfl (fun w hO => ?_)
            refine WPL.as (v := .float .f64 _) rfl rfl ?_
            refine WPL.as (v := .int .i64 _) rfl rfl ?_
            refine WPL.nil ?_
            refine WP.rs ?_
            refine WPL.mv (v := .int .i64 _) rfl rfl ?_
            refine WPL.mv (v := .slice _ _ _) rfl rfl ?_
            refine WPL.call rfl (law_filled f hf8 xs.reverse (fun z hz => hx z (List.mem_reverse.1 hz)) (by rw [List.length_reverse]; exact hlen) ab cb 0 1 M4 (by omega) (by first | omega | (rw [List.length_reverse]; omega)) (by omega) (by omega) (by omega) (by rw [List.length_reverse]) (hO.rdG hGB)) Tryd.func6 rfl rfl rfl ?_
            rintro _ w ⟨hf113, q6, B6, rfl, hB6, hfr6⟩
            rw [evs_one, List.take_of_length_le (by first | omega | (rw [List.length_reverse]; omega))] at hB6
            have e6 := (hB6.perm (List.reverse_perm xs) (fun z hz => hx z (List.mem_reverse.1 hz)) (by rw [List.length_reverse]; omega)).uniq hB5
            rw [e6] at hfr6
            have hO := hO.takeB hf113 hfr6
            refine WPL.call rfl (law_told hO.tab q6 (notab hO (b := q6) (by simp [keys])) B5 (hO.cells ⟨q6, bnC B5, 57⟩ (by simp)) hB5.Ok hcnt5) Tryd.func8 rfl rfl rfl ?_
            rintro _ w ⟨hf114, am, cm, rfl, hcm, hrm⟩
            obtain ⟨Gm, hGm, hO⟩ := hO.resL hf114 hrm
            unfold dyV
            refine WPL.mv (v := .tuple #[.agg #[.bool _, .slice _ _ _, .int .i64 _], .float .f64 _, .int .i64 _]) rfl rfl ?_
            refine WPL.ext (v := .agg #[.bool _, .slice _ _ _, .int .i64 _]) rfl rfl rfl ?_
            refine WPL.ext (v := .float .f64 _) rfl rfl rfl ?_
            refine WPL.ext (v := .int .i64 _) rfl rfl rfl ?_
            refine WPL.al hO rfl (fun b5 w hO => ?_)
            refine WPL.stLA (T := T34) rfl rfl hO inferInstance inferInstance (by simp [Value.oneCell']) rfl rfl (fun w hO => ?_)
            refine WPL.as (v := .float .f64 _) rfl rfl ?_
            refine WPL.as (v := .int .i64 _) rfl rfl ?_
            refine WPL.nil ?_
            refine WP.rs ?_
            refine WPL.mv (v := .slice _ _ _) rfl rfl ?_
            refine WPL.ixG (j := 0) (vals := pc [p]) rfl (hO.rdO hGP) rfl rfl (by decide) (by simp [pc]) rfl ?_
            refine WPL.ldG (v := .pointer (some ⟨p.bk, 0, none⟩)) (0 * 1) rfl (hO.rdO hGP) rfl rfl rfl ?_
            have e7 := hpB.uniq hB5
            rw [e7] at hO
            refine WPL.call rfl (law_told hO.tab p.bk (notab hO (b := p.bk) (by simp [keys])) B5 (hO.cells ⟨p.bk, bnC B5, 57⟩ (by simp)) hB5.Ok hcnt5) Tryd.func8 rfl rfl rfl ?_
            rintro _ w ⟨hf122, aq, cq, rfl, hcq, hrq⟩
            obtain ⟨Gq, hGq, hO⟩ := hO.resL hf122 hrq
            unfold dyV
            refine WPL.mv (v := .tuple #[.agg #[.bool _, .slice _ _ _, .int .i64 _], .float .f64 _, .int .i64 _]) rfl rfl ?_
            refine WPL.ext (v := .agg #[.bool _, .slice _ _ _, .int .i64 _]) rfl rfl rfl ?_
            refine WPL.ext (v := .float .f64 _) rfl rfl rfl ?_
            refine WPL.ext (v := .int .i64 _) rfl rfl rfl ?_
            refine WPL.al hO rfl (fun b6 w hO => ?_)
            refine WPL.stLA (T := T34) rfl rfl hO inferInstance inferInstance (by simp [Value.oneCell']) rfl rfl (fun w hO => ?_)
            refine WPL.as (v := .float .f64 _) rfl rfl ?_
            refine WPL.as (v := .int .i64 _) rfl rfl ?_
            refine WPL.nil ?_
            refine WP.seqI (I := fun σ ds w' => ∃ ak ck Gk, Grown ak ck 1 (ws .u32 (dig B5.kept.m)) 60 Gk ∧ (dig B5.kept.m).length ≤ ck ∧ Has σ [(1, .slice a xs.length c), (14, .pointer (some ⟨b4, 0, none⟩)), (15, .float .f64 (bnd B5))] ∧ ds = [] ∧ Own tabs w0 [] (⟨b4, [.bool B5.kept.s, .slice ak (dig B5.kept.m).length ck, .int .i64 B5.kept.e], 34⟩ :: (Gk ++ [])) [⟨a, fc xs⟩] w') ?_ ?_
            · refine WP.rs ?_
              refine WPL.ldLA (T := T34) [.bool _, .slice _ _ _, .int .i64 _] rfl hO inferInstance rfl agg34 rfl rfl ?_
              refine WPL.ldLA (T := T34) [.bool _, .slice _ _ _, .int .i64 _] rfl hO inferInstance rfl agg34 rfl rfl ?_
              refine WPL.call rfl (r3_Same B5.kept ak ck am cm (hO.rdG hGk) (hO.rdG hGm) (by omega)) Tryd.func9 rfl rfl rfl ?_
              rintro _ w ⟨hf128, rfl⟩
              have hO := hO.call hf128
              refine WPL.not rfl rfl ?_
              refine WPL.mv (v := .bool _) rfl rfl ?_
              refine WPL.split (s := 130) rfl (fun h10 => ?_) (fun h10 => ?_)
              · cases h10
              · refine WPL.guardT rfl rfl h10 ?_
                refine WPL.ldLA (T := T34) [.bool _, .slice _ _ _, .int .i64 _] rfl hO inferInstance rfl agg34 rfl rfl ?_
                refine WPL.guardT rfl rfl h10 ?_
                refine WPL.ldLA (T := T34) [.bool _, .slice _ _ _, .int .i64 _] rfl hO inferInstance rfl agg34 rfl rfl ?_
                refine WPL.guardT rfl rfl h10 ?_
                refine WPL.call rfl (r3_Same B5.kept ak ck aq cq (hO.rdG hGk) (hO.rdG hGq) (by omega)) Tryd.func9 rfl rfl rfl ?_
                rintro _ w ⟨hf133, rfl⟩
                have hO := hO.call hf133
                refine WPL.guardT rfl rfl h10 ?_
                refine WPL.not rfl rfl ?_
                refine WPL.pkF (v := .bool _) rfl h10 rfl rfl ?_
                refine WPL.mv (v := .bool _) rfl rfl ?_
                refine WPL.split (s := 136) rfl (fun h11 => ?_) (fun h11 => ?_)
                · cases h11
                · refine WPL.guardT rfl rfl h11 ?_
                  refine WPL.mv (v := .float .f64 _) rfl rfl ?_
                  refine WPL.guardT rfl rfl h11 ?_
                  refine WPL.mv (v := .float .f64 _) rfl rfl ?_
                  refine WPL.guardT rfl rfl h11 ?_
                  refine WPL.call rfl (r3_Alike _ _) Tryd.func10 rfl rfl rfl ?_
                  rintro _ _ ⟨rfl, rfl⟩
                  rw [decide_eq_true (show bnd B5 = bnd B5 from rfl)]
                  refine WPL.guardT rfl rfl h11 ?_
                  refine WPL.not rfl rfl ?_
                  refine WPL.pkF (v := .bool _) rfl h11 rfl rfl ?_
                  refine WPL.mv (v := .bool _) rfl rfl ?_
                  refine WPL.split (s := 142) rfl (fun h12 => ?_) (fun h12 => ?_)
                  · cases h12
                  · refine WPL.guardT rfl rfl h12 ?_
                    refine WPL.mv (v := .float .f64 _) rfl rfl ?_
                    refine WPL.guardT rfl rfl h12 ?_
                    refine WPL.mv (v := .float .f64 _) rfl rfl ?_
                    refine WPL.guardT rfl rfl h12 ?_
                    refine WPL.call rfl (r3_Alike _ _) Tryd.func10 rfl rfl rfl ?_
                    rintro _ _ ⟨rfl, rfl⟩
                    rw [decide_eq_true (show bnd B5 = bnd B5 from rfl)]
                    refine WPL.guardT rfl rfl h12 ?_
                    refine WPL.not rfl rfl ?_
                    refine WPL.pkF (v := .bool _) rfl h12 rfl rfl ?_
                    refine WPL.mv (v := .bool _) rfl rfl ?_
                    refine WPL.split (s := 148) rfl (fun h13 => ?_) (fun h13 => ?_)
                    · cases h13
                    · refine WPL.guardT rfl rfl h13 ?_
                      refine WPL.mv (v := .int .i64 _) rfl rfl ?_
                      refine WPL.guardT rfl rfl h13 ?_
                      refine WPL.mv (v := .int .i64 _) rfl rfl ?_
                      refine WPL.guardT rfl rfl h13 ?_
                      refine WPL.ne rfl rfl rfl ?_
                      refine WPL.pkF (v := .bool _) rfl h13 rfl rfl ?_
                      refine WPL.mv (v := .bool _) rfl rfl ?_
                      refine WPL.split (s := 153) rfl (fun h14 => ?_) (fun h14 => ?_)
                      · have ph14 := of_decide_eq_true h14
                        exact absurd h14 (by simp)
                      · have ph14 := of_decide_eq_false h14
                        refine WPL.guardT rfl rfl h14 ?_
                        refine WPL.mv (v := .int .i64 _) rfl rfl ?_
                        refine WPL.guardT rfl rfl h14 ?_
                        refine WPL.mv (v := .int .i64 _) rfl rfl ?_
                        refine WPL.guardT rfl rfl h14 ?_
                        refine WPL.ne rfl rfl rfl ?_
                        refine WPL.pkF (v := .bool _) rfl h14 rfl rfl ?_
                        refine WPL.nil ?_
                        refine WP.condP rfl (fun h15 => ?_) (fun h15 => ?_)
                        · exact absurd rfl h15
                        · refine WP.skip ?_
                          simp only [putAt, List.set] at hO
                          have hO : Own tabs w0 [] ((⟨b6, [.bool B5.kept.s, .slice aq (dig B5.kept.m).length cq, .int .i64 B5.kept.e], 34⟩ :: (Gq ++ (⟨b5, [.bool B5.kept.s, .slice am (dig B5.kept.m).length cm, .int .i64 B5.kept.e], 34⟩ :: (Gm ++ (⟨q6, bnC B5, 57⟩ :: (⟨q5, bnC B5, 57⟩ :: (GP ++ (⟨p.bk, bnC B5, 57⟩ :: (GB ++ []))))))))) ++ (⟨b4, [.bool B5.kept.s, .slice ak (dig B5.kept.m).length ck, .int .i64 B5.kept.e], 34⟩ :: (Gk ++ []))) [⟨a, fc xs⟩] w := hO.perm (by classical exact List.perm_iff_count.2 (fun z => by simp only [List.count_append, List.count_cons, List.count_nil]; omega))
                          exact ⟨ak, ck, Gk, hGk, hck, ⟨rfl, rfl, rfl, trivial⟩, rfl, hO.drop⟩
            · rintro σ ds w ⟨ak, ck, Gk, hGk, hck, hH, rfl, hO⟩
              refine WP.reset hH ?_
              refine WP.rs ?_
              refine WPL.al hO rfl (fun b7 w hO => ?_)
              refine WPL.nil ?_
              refine WP.seqI (I := fun σ ds w' => ∃ S az cz GS, Sum S (VS (ent xs)) xs.length ∧ Grown az cz 1 (ws .u32 (dig S.m)) 60 GS ∧ (dig S.m).length ≤ cz ∧ Has σ [(1, .slice a xs.length c), (14, .pointer (some ⟨b4, 0, none⟩)), (15, .float .f64 (bnd B5)), (23, .pointer (some ⟨b7, 0, none⟩))] ∧ ds = [] ∧ Own tabs w0 [] (⟨b7, [.bool (S).s, .slice az (dig (S).m).length cz, .int .i64 (S).e], 34⟩ :: (GS ++ (⟨b4, [.bool B5.kept.s, .slice ak (dig B5.kept.m).length ck, .int .i64 B5.kept.e], 34⟩ :: (Gk ++ [])))) [⟨a, fc xs⟩] w') ?_ ?_
              · refine WP.rs ?_
                refine WPL.as (v := .int .i64 0) rfl rfl ?_
                refine WPL.nil ?_
                refine WP.block ?_
                refine WP.loop (fun m σ ds w' => ∃ i S az cz GS, m + i = xs.length ∧ Sum S (VS (ent (xs.take i))) i ∧ Grown az cz 1 (ws .u32 (dig S.m)) 60 GS ∧ (dig S.m).length ≤ cz ∧ Has σ [(1, .slice a xs.length c), (14, .pointer (some ⟨b4, 0, none⟩)), (15, .float .f64 (bnd B5)), (23, .pointer (some ⟨b7, 0, none⟩)), (24, .int .i64 (i : Int))] ∧ ds = [] ∧ Own tabs w0 [] (⟨b7, [.bool (S).s, .slice az (dig (S).m).length cz, .int .i64 (S).e], 34⟩ :: (GS ++ (⟨b4, [.bool B5.kept.s, .slice ak (dig B5.kept.m).length ck, .int .i64 B5.kept.e], 34⟩ :: (Gk ++ [])))) [⟨a, fc xs⟩] w') xs.length ?_ ?_
                · exact ⟨0, ⟨false, 0, 0⟩, none, 0, [], rfl, by rw [List.take_zero]; exact Sum.zero, .inl ⟨rfl, rfl, by simp [dig_zero, ws], rfl⟩, by simp [dig_zero], ⟨rfl, rfl, rfl, rfl, rfl, trivial⟩, rfl, by simp only [dig_zero]; exact hO⟩
                · clear hO
                  rintro m σ ds w ⟨i, S, az, cz, GS, hm, hS, hGS, hcz, hH, rfl, hO⟩
                  refine WP.reset hH ?_
                  refine WP.seq ?_
                  refine WP.rs ?_
                  refine WPL.mv (v := .int .i64 _) rfl rfl ?_
                  refine WPL.mv (v := .slice _ _ _) rfl rfl ?_
                  refine WPL.len rfl rfl ?_
                  refine WPL.lt rfl rfl rfl ?_
                  refine WPL.nil ?_
                  refine WP.condP rfl (fun h16 => ?_) (fun h16 => ?_)
                  · refine WP.skip ?_
                    refine WP.seq ?_
                    refine WP.block ?_
                    refine WP.rs ?_
                    obtain ⟨x0, hx0⟩ : ∃ x0, xs[i]? = some x0 := ⟨xs[i]'(by omega), List.getElem?_eq_getElem _⟩
                    have hx1 := hx x0 (List.mem_of_getElem? hx0)
                    refine WPL.mv (v := .slice _ _ _) rfl rfl ?_
                    refine WPL.mv (v := .int .i64 _) rfl rfl ?_
                    refine WPL.ixR (a := a) (j := i) (vals := fc xs) rfl hO inferInstance rfl rfl (by omega) (by rw [fc_length]; show i * 1 < _; omega) rfl ?_
                    refine WPL.ldR (a := a) (j := i * 1) (vals := fc xs) rfl hO inferInstance (fc_get1 hx0) rfl rfl ?_
                    refine WPL.call rfl (r3_Of x0 hx1) Tryd.func11 rfl rfl rfl ?_
                    rintro _ w ⟨hf169, D, aD, cD, e9, rfl, hcD, hrD, hfin, hinf⟩
                    obtain ⟨GD, hGD, hO⟩ := hO.resL hf169 hrD
                    unfold dyV
                    refine WPL.mv (v := .tuple #[.agg #[.bool _, .slice _ _ _, .int .i64 _], .int .i64 _]) rfl rfl ?_
                    refine WPL.ext (v := .agg #[.bool _, .slice _ _ _, .int .i64 _]) rfl rfl rfl ?_
                    refine WPL.ext (v := .int .i64 _) rfl rfl rfl ?_
                    refine WPL.al hO rfl (fun b8 w hO => ?_)
                    refine WPL.stLA (T := T34) rfl rfl hO inferInstance inferInstance (by simp [Value.oneCell']) rfl rfl (fun w hO => ?_)
                    refine WPL.as (v := .int .i64 _) rfl rfl ?_
                    refine WPL.nil ?_
                    refine WP.rs ?_
                    refine WPL.mv (v := .int .i64 _) rfl rfl ?_
                    refine WPL.eq rfl rfl rfl ?_
                    refine WPL.nil ?_
                    refine WP.condP rfl (fun h17 => ?_) (fun h17 => ?_)
                    · refine WP.region ?_
                      have hfx : finB x0 := Classical.byContradiction (fun hn => hinf hn (by assumption))
                      obtain ⟨hD, -⟩ := hfin hfx
                      subst hD
                      refine WPL.ldLA (T := T34) [.bool _, .slice _ _ _, .int .i64 _] rfl hO inferInstance rfl agg34 rfl rfl ?_
                      refine WPL.ldLA (T := T34) [.bool _, .slice _ _ _, .int .i64 _] rfl hO inferInstance rfl agg34 rfl rfl ?_
                      refine WPL.call rfl (r3_Add S az cz (hO.rdG hGS) hcz hS.can.nf (hS.B (by omega)) (fval x0) aD cD (hO.rdG hGD) hcD (fval_can x0).nf ((fval_In hfx).B (fval_can _) (by omega) (by omega) (by omega))) Tryd.func12 rfl rfl rfl ?_
                      rintro _ w ⟨hf177, a177, c177, rfl, hc177, hr177⟩
                      obtain ⟨G177, hG177, hO⟩ := hO.resL hf177 hr177
                      unfold dyV
                      refine WPL.mv (v := .tuple #[.agg #[.bool _, .slice _ _ _, .int .i64 _], .int .i64 _]) rfl rfl ?_
                      refine WPL.ext (v := .agg #[.bool _, .slice _ _ _, .int .i64 _]) rfl rfl rfl ?_
                      refine WPL.ext (v := .int .i64 _) rfl rfl rfl ?_
                      refine WPL.stLA (T := T34) rfl rfl hO inferInstance inferInstance (by simp [Value.oneCell']) rfl rfl (fun w hO => ?_)
                      refine WPL.nil ?_
                      refine WP.region ?_
                      refine WPL.mv (v := .int .i64 _) rfl rfl ?_
                      refine WPL.addI rfl rfl (by omega) rfl ?_
                      refine WPL.as (v := .int .i64 _) rfl rfl ?_
                      refine WPL.nil ?_
                      simp only [putAt, List.set] at hO
                      first
                      | (have hO : Own tabs w0 [] ((⟨b8, [.bool (fval x0).s, .slice aD (dig (fval x0).m).length cD, .int .i64 (fval x0).e], 34⟩ :: (GD ++ (GS ++ []))) ++ (⟨b7, [.bool (S.add (fval x0)).s, .slice a177 (dig (S.add (fval x0)).m).length c177, .int .i64 (S.add (fval x0)).e], 34⟩ :: (G177 ++ (⟨b4, [.bool B5.kept.s, .slice ak (dig B5.kept.m).length ck, .int .i64 B5.kept.e], 34⟩ :: (Gk ++ []))))) [⟨a, fc xs⟩] w := hO.perm (by classical exact List.perm_iff_count.2 (fun z => by simp only [List.count_append, List.count_cons, List.count_nil]; omega))
                         exact ⟨m - 1, by omega, i + 1, S.add (fval x0), a177, c177, G177, by omega, by rw [VS_take hx0, if_pos hfx]; exact hS.add hfx, hG177, hc177, ⟨rfl, rfl, rfl, rfl, rfl, trivial⟩, rfl, hO.drop⟩)
                      | (have hnf : ¬ finB x0 := fun hf => absurd (hfin hf).2 (by assumption)
                         have hO : Own tabs w0 [] ((⟨b8, [.bool (D).s, .slice aD (dig (D).m).length cD, .int .i64 (D).e], 34⟩ :: (GD ++ [])) ++ (⟨b7, [.bool (S).s, .slice az (dig (S).m).length cz, .int .i64 (S).e], 34⟩ :: (GS ++ (⟨b4, [.bool B5.kept.s, .slice ak (dig B5.kept.m).length ck, .int .i64 B5.kept.e], 34⟩ :: (Gk ++ []))))) [⟨a, fc xs⟩] w := hO.perm (by classical exact List.perm_iff_count.2 (fun z => by simp only [List.count_append, List.count_cons, List.count_nil]; omega))
                         exact ⟨m - 1, by omega, i + 1, S, az, cz, GS, by omega, by rw [VS_take hx0, if_neg hnf, Int.add_zero]; exact hS.skip, hGS, hcz, ⟨rfl, rfl, rfl, rfl, rfl, trivial⟩, rfl, hO.drop⟩)
                    · refine WP.skip ?_
                      refine WP.region ?_
                      refine WPL.mv (v := .int .i64 _) rfl rfl ?_
                      refine WPL.addI rfl rfl (by omega) rfl ?_
                      refine WPL.as (v := .int .i64 _) rfl rfl ?_
                      refine WPL.nil ?_
                      simp only [putAt, List.set] at hO
                      first
                      | (have hO : Own tabs w0 [] ((⟨b8, [.bool (fval x0).s, .slice aD (dig (fval x0).m).length cD, .int .i64 (fval x0).e], 34⟩ :: (GD ++ (GS ++ []))) ++ (⟨b7, [.bool (S.add (fval x0)).s, .slice a177 (dig (S.add (fval x0)).m).length c177, .int .i64 (S.add (fval x0)).e], 34⟩ :: (G177 ++ (⟨b4, [.bool B5.kept.s, .slice ak (dig B5.kept.m).length ck, .int .i64 B5.kept.e], 34⟩ :: (Gk ++ []))))) [⟨a, fc xs⟩] w := hO.perm (by classical exact List.perm_iff_count.2 (fun z => by simp only [List.count_append, List.count_cons, List.count_nil]; omega))
                         exact ⟨m - 1, by omega, i + 1, S.add (fval x0), a177, c177, G177, by omega, by rw [VS_take hx0, if_pos hfx]; exact hS.add hfx, hG177, hc177, ⟨rfl, rfl, rfl, rfl, rfl, trivial⟩, rfl, hO.drop⟩)
                      | (have hnf : ¬ finB x0 := fun hf => absurd (hfin hf).2 (by assumption)
                         have hO : Own tabs w0 [] ((⟨b8, [.bool (D).s, .slice aD (dig (D).m).length cD, .int .i64 (D).e], 34⟩ :: (GD ++ [])) ++ (⟨b7, [.bool (S).s, .slice az (dig (S).m).length cz, .int .i64 (S).e], 34⟩ :: (GS ++ (⟨b4, [.bool B5.kept.s, .slice ak (dig B5.kept.m).length ck, .int .i64 B5.kept.e], 34⟩ :: (Gk ++ []))))) [⟨a, fc xs⟩] w := hO.perm (by classical exact List.perm_iff_count.2 (fun z => by simp only [List.count_append, List.count_cons, List.count_nil]; omega))
                         exact ⟨m - 1, by omega, i + 1, S, az, cz, GS, by omega, by rw [VS_take hx0, if_neg hnf, Int.add_zero]; exact hS.skip, hGS, hcz, ⟨rfl, rfl, rfl, rfl, rfl, trivial⟩, rfl, hO.drop⟩)
                  · refine WP.exit ?_
                    obtain rfl : i = xs.length := by omega
                    rw [List.take_of_length_le (Nat.le_refl _)] at hS
                    exact ⟨S, az, cz, GS, hS, hGS, hcz, ⟨rfl, rfl, rfl, rfl, trivial⟩, rfl, hO⟩
              · rintro σ ds w ⟨S, az, cz, GS, hS, hGS, hcz, hH, rfl, hO⟩
                refine WP.reset hH ?_
                refine WP.rs ?_
                refine WPL.ldLA (T := T34) [.bool _, .slice _ _ _, .int .i64 _] rfl hO inferInstance rfl agg34 rfl rfl ?_
                refine WPL.ldLA (T := T34) [.bool _, .slice _ _ _, .int .i64 _] rfl hO inferInstance rfl agg34 rfl rfl ?_
                obtain ⟨hkv, hkg⟩ := hB5.kept
                have hkI := B5.keptN_in (q := 4722366482869645213696) (by decide) hB5.Ok hB5.Ok.fold
                have hkB := B5.keptN_B (q := 4722366482869645213696) (by decide) hB5.Ok hB5.Ok.fold
                have hfar := far_of hS hlen hkv hkg (hkI.mono (by have := hB5.Ok.fold; omega))
                refine WPL.call rfl (r3_Sub S az cz (hO.rdG hGS) hcz hS.can.nf (hS.B hlen) B5.kept ak ck (hO.rdG hGk) hck rfl (hkB.mono (by decide))) Tryd.func13 rfl rfl rfl ?_
                rintro _ w ⟨hf183, ao, co, rfl, hco, hro⟩
                obtain ⟨Go, hGo, hO⟩ := hO.resL hf183 hro
                unfold dyV
                refine WPL.mv (v := .tuple #[.agg #[.bool _, .slice _ _ _, .int .i64 _], .int .i64 _]) rfl rfl ?_
                refine WPL.ext (v := .agg #[.bool _, .slice _ _ _, .int .i64 _]) rfl rfl rfl ?_
                refine WPL.ext (v := .int .i64 _) rfl rfl rfl ?_
                refine WPL.al hO rfl (fun b9 w hO => ?_)
                refine WPL.stLA (T := T34) rfl rfl hO inferInstance inferInstance (by simp [Value.oneCell']) rfl rfl (fun w hO => ?_)
                refine WPL.as (v := .int .i64 _) rfl rfl ?_
                refine WPL.nil ?_
                refine WP.seqI (I := fun σ ds w' => ∃ O ao co Go, Off O (VS (ent xs) - (rf f xs).sumV).natAbs ∧ Grown ao co 1 (ws .u32 (dig O.m)) 60 Go ∧ (dig O.m).length ≤ co ∧ Has σ [(1, .slice a xs.length c), (14, .pointer (some ⟨b4, 0, none⟩)), (15, .float .f64 (bnd B5)), (23, .pointer (some ⟨b7, 0, none⟩)), (27, .pointer (some ⟨b9, 0, none⟩))] ∧ ds = [] ∧ Own tabs w0 [] (⟨b9, [.bool (O).s, .slice ao (dig (O).m).length co, .int .i64 (O).e], 34⟩ :: (Go ++ (⟨b7, [.bool (S).s, .slice az (dig (S).m).length cz, .int .i64 (S).e], 34⟩ :: (GS ++ (⟨b4, [.bool B5.kept.s, .slice ak (dig B5.kept.m).length ck, .int .i64 B5.kept.e], 34⟩ :: (Gk ++ [])))))) [⟨a, fc xs⟩] w') ?_ ?_
                · refine WP.rs ?_
                  refine WPL.fa rfl rfl ?_
                  refine WPL.ldL rfl hO inferInstance rfl rfl rfl ?_
                  refine WPL.nil ?_
                  refine WP.condB rfl (fun h18 => ?_) (fun h18 => ?_)
                  · refine WP.region ?_
                    refine WPL.ldLA (T := T34) [.bool _, .slice _ _ _, .int .i64 _] rfl hO inferInstance rfl agg34 rfl rfl ?_
                    refine WPL.call rfl (r3_Neg (S.add (Dy.nf ⟨!B5.kept.s, B5.kept.m, B5.kept.e⟩)) ao co (hO.rdG hGo) hco hfar.B rfl) Tryd.func14 rfl rfl rfl ?_
                    rintro _ w ⟨hf189, an, cn, rfl, hcn, hrn⟩
                    obtain ⟨Gn, hGn, hO⟩ := hO.resL hf189 hrn
                    unfold dyV
                    refine WPL.stLA (T := T34) rfl rfl hO inferInstance inferInstance (by simp [Value.oneCell']) rfl rfl (fun w hO => ?_)
                    refine WPL.nil ?_
                    simp only [putAt, List.set] at hO
                    first
                    | (have hO : Own tabs w0 [] (Go ++ (⟨b9, [.bool ((Dy.fm (!(S.add (Dy.nf ⟨!B5.kept.s, B5.kept.m, B5.kept.e⟩)).s) (S.add (Dy.nf ⟨!B5.kept.s, B5.kept.m, B5.kept.e⟩)).m (S.add (Dy.nf ⟨!B5.kept.s, B5.kept.m, B5.kept.e⟩)).e)).s, .slice an (dig ((Dy.fm (!(S.add (Dy.nf ⟨!B5.kept.s, B5.kept.m, B5.kept.e⟩)).s) (S.add (Dy.nf ⟨!B5.kept.s, B5.kept.m, B5.kept.e⟩)).m (S.add (Dy.nf ⟨!B5.kept.s, B5.kept.m, B5.kept.e⟩)).e)).m).length cn, .int .i64 ((Dy.fm (!(S.add (Dy.nf ⟨!B5.kept.s, B5.kept.m, B5.kept.e⟩)).s) (S.add (Dy.nf ⟨!B5.kept.s, B5.kept.m, B5.kept.e⟩)).m (S.add (Dy.nf ⟨!B5.kept.s, B5.kept.m, B5.kept.e⟩)).e)).e], 34⟩ :: (Gn ++ (⟨b7, [.bool (S).s, .slice az (dig (S).m).length cz, .int .i64 (S).e], 34⟩ :: (GS ++ (⟨b4, [.bool B5.kept.s, .slice ak (dig B5.kept.m).length ck, .int .i64 B5.kept.e], 34⟩ :: (Gk ++ []))))))) [⟨a, fc xs⟩] w := hO.perm (by classical exact List.perm_iff_count.2 (fun z => by simp only [List.count_append, List.count_cons, List.count_nil]; omega))
                       exact ⟨_, an, cn, Gn, hfar.neg (by assumption), hGn, hcn, ⟨rfl, rfl, rfl, rfl, rfl, trivial⟩, rfl, hO.drop⟩)
                    | exact ⟨_, ao, co, Go, hfar.off (by assumption), hGo, hco, ⟨rfl, rfl, rfl, rfl, rfl, trivial⟩, rfl, hO⟩
                  · refine WP.skip ?_
                    simp only [putAt, List.set] at hO
                    first
                    | (have hO : Own tabs w0 [] (Go ++ (⟨b9, [.bool ((Dy.fm (!(S.add (Dy.nf ⟨!B5.kept.s, B5.kept.m, B5.kept.e⟩)).s) (S.add (Dy.nf ⟨!B5.kept.s, B5.kept.m, B5.kept.e⟩)).m (S.add (Dy.nf ⟨!B5.kept.s, B5.kept.m, B5.kept.e⟩)).e)).s, .slice an (dig ((Dy.fm (!(S.add (Dy.nf ⟨!B5.kept.s, B5.kept.m, B5.kept.e⟩)).s) (S.add (Dy.nf ⟨!B5.kept.s, B5.kept.m, B5.kept.e⟩)).m (S.add (Dy.nf ⟨!B5.kept.s, B5.kept.m, B5.kept.e⟩)).e)).m).length cn, .int .i64 ((Dy.fm (!(S.add (Dy.nf ⟨!B5.kept.s, B5.kept.m, B5.kept.e⟩)).s) (S.add (Dy.nf ⟨!B5.kept.s, B5.kept.m, B5.kept.e⟩)).m (S.add (Dy.nf ⟨!B5.kept.s, B5.kept.m, B5.kept.e⟩)).e)).e], 34⟩ :: (Gn ++ (⟨b7, [.bool (S).s, .slice az (dig (S).m).length cz, .int .i64 (S).e], 34⟩ :: (GS ++ (⟨b4, [.bool B5.kept.s, .slice ak (dig B5.kept.m).length ck, .int .i64 B5.kept.e], 34⟩ :: (Gk ++ []))))))) [⟨a, fc xs⟩] w := hO.perm (by classical exact List.perm_iff_count.2 (fun z => by simp only [List.count_append, List.count_cons, List.count_nil]; omega))
                       exact ⟨_, an, cn, Gn, hfar.neg (by assumption), hGn, hcn, ⟨rfl, rfl, rfl, rfl, rfl, trivial⟩, rfl, hO.drop⟩)
                    | exact ⟨_, ao, co, Go, hfar.off (by assumption), hGo, hco, ⟨rfl, rfl, rfl, rfl, rfl, trivial⟩, rfl, hO⟩
                · rintro σ ds w ⟨O, ao, co, Go, hoff, hGo, hco, hH, rfl, hO⟩
                  refine WP.reset hH ?_
                  refine WP.rs ?_
                  refine WPL.mv (v := .float .f64 _) rfl rfl ?_
                  have hcnt : B5.count ≤ 4096 := by
                    have h1 : B5.count = (ent xs).length := hB5.count
                    have h2 := ent_len xs; omega
                  obtain ⟨hbf, hbx⟩ := hB5.bnd_fin hcnt hoff
                  have hbB := fval_B hbf
                  refine WPL.call rfl (r3_Of (bnd B5) hbx) Tryd.func11 rfl rfl rfl ?_
                  rintro _ w ⟨hf192, Db, abd, cbd, eb, rfl, hcb2, hrb, hfinb, -⟩
                  obtain ⟨hDb, heb⟩ := hfinb hbf
                  subst hDb heb
                  obtain ⟨Gb, hGb, hO⟩ := hO.resL hf192 hrb
                  unfold dyV
                  refine WPL.mv (v := .tuple #[.agg #[.bool _, .slice _ _ _, .int .i64 _], .int .i64 _]) rfl rfl ?_
                  refine WPL.ext (v := .agg #[.bool _, .slice _ _ _, .int .i64 _]) rfl rfl rfl ?_
                  refine WPL.ext (v := .int .i64 _) rfl rfl rfl ?_
                  refine WPL.al hO rfl (fun b10 w hO => ?_)
                  refine WPL.stLA (T := T34) rfl rfl hO inferInstance inferInstance (by simp [Value.oneCell']) rfl rfl (fun w hO => ?_)
                  refine WPL.as (v := .int .i64 _) rfl rfl ?_
                  refine WPL.nil ?_
                  refine WP.seq ?_
                  refine WP.rs ?_
                  refine WPL.mv (v := .int .i64 _) rfl rfl ?_
                  refine WPL.ne rfl rfl rfl ?_
                  refine WPL.nil ?_
                  refine WP.condP rfl (fun h19 => ?_) (fun h19 => ?_)
                  · exact absurd rfl h19
                  · refine WP.skip ?_
                    refine WP.seq ?_
                    refine WP.rs ?_
                    refine WPL.ldLA (T := T34) [.bool _, .slice _ _ _, .int .i64 _] rfl hO inferInstance rfl agg34 rfl rfl ?_
                    refine WPL.call rfl (r3_Sign (fval (bnd B5)) abd cbd (hO.rdG hGb) hcb2 (by unfold Dy.B at hbB; omega)) Tryd.func15 rfl rfl rfl ?_
                    rintro _ w ⟨hf200, rfl⟩
                    have hO := hO.call hf200
                    refine WPL.eq rfl rfl rfl ?_
                    refine WPL.nil ?_
                    refine WP.condP rfl (fun h20 => ?_) (fun h20 => ?_)
                    · refine WP.rs ?_
                      refine WPL.ldLA (T := T34) [.bool _, .slice _ _ _, .int .i64 _] rfl hO inferInstance rfl agg34 rfl rfl ?_
                      obtain ⟨hSm, hKm⟩ := hB5.null hcnt hoff hS (by assumption)
                      refine WPL.call rfl (r3_Sign S az cz (hO.rdG hGS) hcz (by rw [hSm, blen_zero]; decide)) Tryd.func15 rfl rfl rfl ?_
                      rintro _ w ⟨hf203, rfl⟩
                      have hO := hO.call hf203
                      rw [if_pos hSm]
                      refine WPL.eq rfl rfl rfl ?_
                      refine WPL.mv (v := .bool _) rfl rfl ?_
                      refine WPL.split (s := 205) rfl (fun h21 => ?_) (fun h21 => ?_)
                      · have ph21 := of_decide_eq_true h21
                        refine WPL.guardT rfl rfl h21 ?_
                        refine WPL.ldLA (T := T34) [.bool _, .slice _ _ _, .int .i64 _] rfl hO inferInstance rfl agg34 rfl rfl ?_
                        refine WPL.guardT rfl rfl h21 ?_
                        refine WPL.call rfl (r3_Sign B5.kept ak ck (hO.rdG hGk) hck (by rw [hKm, blen_zero]; decide)) Tryd.func15 rfl rfl rfl ?_
                        rintro _ w ⟨hf207, rfl⟩
                        have hO := hO.call hf207
                        rw [if_pos hKm]
                        refine WPL.guardT rfl rfl h21 ?_
                        refine WPL.eq rfl rfl rfl ?_
                        refine WPL.pkT (v := .bool _) rfl h21 rfl rfl ?_
                        refine WPL.as (v := .bool _) rfl rfl ?_
                        refine WPL.nil ?_
                        refine WP.ret ?_
                        refine ⟨rfl, ?_⟩
                        refine RO.tmp (v := .bool _) rfl ?_
                        refine RO.nil ?_
                        exact ⟨hO.fr, rfl⟩
                      · have ph21 := of_decide_eq_false h21
                        exact absurd h21 (by decide)
                    · refine WP.skip ?_
                      refine WP.rs ?_
                      refine WPL.ldLA (T := T34) [.bool _, .slice _ _ _, .int .i64 _] rfl hO inferInstance rfl agg34 rfl rfl ?_
                      refine WPL.ldLA (T := T34) [.bool _, .slice _ _ _, .int .i64 _] rfl hO inferInstance rfl agg34 rfl rfl ?_
                      obtain ⟨hbm, hbs, hcmp⟩ := hB5.past hcnt hoff (by assumption)
                      refine WPL.call rfl (r3_Cmp O ao co (hO.rdG hGo) hco hoff.b hoff.s (fval (bnd B5)) abd cbd (hO.rdG hGb) hcb2 hbB hbs hbm) Tryd.func16 rfl rfl rfl ?_
                      rintro _ w ⟨hf212, rfl⟩
                      have hO := hO.call hf212
                      rw [hcmp, ite_self]
                      refine WPL.lt rfl rfl rfl ?_
                      refine WPL.as (v := .bool _) rfl rfl ?_
                      refine WPL.nil ?_
                      refine WP.ret ?_
                      refine ⟨rfl, ?_⟩
                      refine RO.tmp (v := .bool _) rfl ?_
                      refine RO.nil ?_
                      exact ⟨hO.fr, rfl⟩
end Go.Sw
