/- A part of the proof that BinsPlays answers true: steps of the walk, or plain laws that it needs. No conditions of its own. -/
import Derived.Test.YtdaphmoojpbddaaGreatDoorSW13
set_option linter.all false
namespace Go.Sw
set_option autoImplicit false
set_option linter.all false
open Go.Proofs Go.RowKit
instance T30 : Ty Tryz.prog 30 (.float .f64) [.float .f64 0] 8 := Ty.mk' Tryz.underlying30 (by kernel_rfl)
noncomputable abbrev D32 : TypeDesc := (Tryz.prog.underlying 32).getD .bool
instance T32 : Ty Tryz.prog 32 D32 [.int .i64 0, .int .i64 0, .int .i64 0, .int .i64 0, .float .f64 0] 40 := Ty.mk' (by kernel_rfl) (by kernel_rfl)
theorem agg32 : TypeDesc.agg D32 = true := by kernel_rfl
theorem pl32 : placesOf Tryz.prog 32 = some [(0, 1), (1, 1), (2, 1), (3, 1), (4, 1)] := by kernel_rfl
instance F32_0 : Fld Tryz.prog 32 0 0 := Fld.mk' (sz := 0) (by kernel_rfl)
instance F32_1 : Fld Tryz.prog 32 1 1 := Fld.mk' (sz := 0) (by kernel_rfl)
instance F32_2 : Fld Tryz.prog 32 2 2 := Fld.mk' (sz := 0) (by kernel_rfl)
instance F32_3 : Fld Tryz.prog 32 3 3 := Fld.mk' (sz := 0) (by kernel_rfl)
instance F32_4 : Fld Tryz.prog 32 4 4 := Fld.mk' (sz := 0) (by kernel_rfl)
structure St where
  pl : List Pr
  came : List Cm
  want : List Cm
  la : Option Addr
  ca : Option Addr
  wa : Option Addr
  lc : Nat
  cc : Nat
  wc : Nat
  GL : List Blk
  GC : List Blk
  GW : List Blk
def PB (l : List Pr) : List Blk := l.flatMap Pr.blk
theorem PB_append (s t : List Pr) : PB (s ++ t) = PB s ++ PB t := by simp [PB]
theorem PB_cons (x : Pr) (t : List Pr) : PB (x :: t) = x.blk ++ PB t := by simp [PB]
def CB (l : List Cm) : List Blk := l.flatMap Cm.G
theorem CB_append (s t : List Cm) : CB (s ++ t) = CB s ++ CB t := by simp [CB]
theorem CB_one (x : Cm) : CB [x] = x.G := by simp [CB]
def St.L (s : St) (p : Nat) : List Blk := ⟨p, [.slice s.la s.pl.length s.lc, .slice s.ca s.came.length s.cc, .slice s.wa s.want.length s.wc], 28⟩ :: (s.GL ++ (s.GC ++ (s.GW ++ (PB s.pl ++ (CB s.came ++ (CB s.want ++ []))))))
structure St.Ok (s : St) (N : Nat) : Prop where
  gl : Grown s.la s.lc 2 (bc s.pl) 37 s.GL
  lcap : s.pl.length ≤ s.lc
  gc : Grown s.ca s.cc 3 (dc s.came) 46 s.GC
  ccap : s.came.length ≤ s.cc
  gw : Grown s.wa s.wc 3 (dc s.want) 46 s.GW
  wcap : s.want.length ≤ s.wc
  pok : ∀ x ∈ s.pl, x.Ok
  cok : ∀ x ∈ s.came, x.Ok
  wok : ∀ x ∈ s.want, x.Ok
  pn : s.pl.length ≤ 16
  cn : s.came.length ≤ N
  same : s.came.map Cm.D = s.want.map Cm.D
theorem St.Ok.mono {s : St} {N N' : Nat} (h : s.Ok N) (hn : N ≤ N') : s.Ok N' := ⟨h.gl, h.lcap, h.gc, h.ccap, h.gw, h.wcap, h.pok, h.cok, h.wok, h.pn, Nat.le_trans h.cn hn, h.same⟩
def St.rest (s : St) (p : Nat) (p1 p2 : List Pr) : List Blk := ⟨p, [.slice s.la (p1.length + 1 + p2.length) s.lc, .slice s.ca s.came.length s.cc, .slice s.wa s.want.length s.wc], 28⟩ :: (s.GL ++ (s.GC ++ (s.GW ++ (PB p1 ++ (PB p2 ++ (CB s.came ++ (CB s.want ++ [])))))))
theorem St.split {s : St} {p : Nat} {p1 p2 : List Pr} {x : Pr} (h : s.pl = p1 ++ x :: p2) : (s.L p).Perm (⟨x.bk, bnC x.B, 68⟩ :: ⟨x.rk, rfC x.R x.a x.c, 87⟩ :: (x.G ++ s.rest p p1 p2)) := by
  unfold St.L St.rest
  rw [h, PB_append, PB_cons, Pr.blk, show (p1 ++ x :: p2).length = p1.length + 1 + p2.length by simp; omega]
  exact (by classical exact List.perm_iff_count.2 (fun z => by simp only [List.count_append, List.count_cons, List.count_nil]; omega))
theorem split_get {α : Type} {l : List α} {k : Nat} {x : α} (h : l[k]? = some x) : ∃ p1 p2, l = p1 ++ x :: p2 := by
  have hk := (List.getElem?_eq_some_iff.1 h).1
  refine ⟨l.take k, l.drop (k + 1), ?_⟩
  have e : l[k] = x := by rw [List.getElem?_eq_getElem hk] at h; exact Option.some.inj h
  rw [← e, ← List.drop_eq_getElem_cons hk, List.take_append_drop]
theorem bc_turn {p1 p2 : List Pr} {x y : Pr} (h1 : y.bk = x.bk) (h2 : y.rk = x.rk) : bc (p1 ++ y :: p2) = bc (p1 ++ x :: p2) := by
  rw [bc_append, bc_append]; simp [bc, h1, h2]
/-- One pair of bins has turned. -/
def St.put (s : St) (p1 p2 : List Pr) (y : Pr) : St := ⟨p1 ++ y :: p2, s.came, s.want, s.la, s.ca, s.wa, s.lc, s.cc, s.wc, s.GL, s.GC, s.GW⟩
theorem St.Ok.put {s : St} {N : Nat} (h : s.Ok N) {p1 p2 : List Pr} {x y : Pr} (hs : s.pl = p1 ++ x :: p2) (h1 : y.bk = x.bk) (h2 : y.rk = x.rk) (hy : y.Ok) : (s.put p1 p2 y).Ok N := by
  have hl : (p1 ++ y :: p2).length = s.pl.length := by rw [hs]; simp
  refine ⟨?_, ?_, h.gc, h.ccap, h.gw, h.wcap, ?_, h.cok, h.wok, ?_, h.cn, h.same⟩
  · show Grown s.la s.lc 2 (bc (p1 ++ y :: p2)) _ s.GL
    rw [bc_turn h1 h2, ← hs]; exact h.gl
  · show (p1 ++ y :: p2).length ≤ s.lc
    rw [hl]; exact h.lcap
  · intro z hz
    have hz : z ∈ p1 ++ y :: p2 := hz
    rcases List.mem_append.1 hz with hz | hz
    · exact h.pok z (by rw [hs]; exact List.mem_append_left _ hz)
    · rcases List.mem_cons.1 hz with rfl | hz
      · exact hy
      · exact h.pok z (by rw [hs]; exact List.mem_append_right _ (List.mem_cons_of_mem _ hz))
  · show (p1 ++ y :: p2).length ≤ 16
    rw [hl]; exact h.pn
theorem St.put_len {s : St} {p1 p2 : List Pr} {x y : Pr} (hs : s.pl = p1 ++ x :: p2) : (s.put p1 p2 y).pl.length = s.pl.length := by
  show (p1 ++ y :: p2).length = _
  rw [hs]; simp

theorem law_step_add {w0 : World} (p : Nat) (s : St) (N : Nat) (hs : s.Ok N) (hN : N ≤ 900000) (kd on wi n : Int) (xb : Nat) (hxb : xb < 18446744073709551616) (hon : -9223372036854775808 ≤ on ∧ on ≤ 9223372036854775807) (hwi : -9223372036854775808 ≤ wi ∧ wi ≤ 9223372036854775807) (hpl : 1 ≤ s.pl.length) (hkd : kd = 2) (hL : Own tabs w0 (keys (s.L p)) (s.L p) [] w0) : Spec Tryz.prog 5 [.pointer (some ⟨p, 0, none⟩), .agg #[.int .i64 kd, .int .i64 on, .int .i64 wi, .int .i64 n, .float .f64 xb]] w0 (fun v w' => v = .bool true ∧ ∃ s' : St, s'.Ok (N + 1) ∧ s.pl.length ≤ s'.pl.length ∧ Own tabs w0 (keys (s.L p)) (s'.L p) [] w') := by
  have hO := hL
  obtain ⟨K, hK⟩ : ∃ K, K = (keys (s.L p)) := ⟨_, rfl⟩
  rw [← hK] at hO ⊢
  unfold St.L at hO
  refine Spec.enter (n := 166) (rs := [.tmp 4]) Tryz.func5 rfl rfl rfl rfl ?_
  refine WP.rs ?_
  refine WPL.bx (v := .agg #[.int .i64 _, .int .i64 _, .int .i64 _, .int .i64 _, .float .f64 _]) rfl rfl hO rfl (fun b1 w hO => ?_)
  refine WPL.as (v := .bool false) rfl rfl ?_
  refine WPL.nil ?_
  refine WP.seq ?_
  refine WP.rs ?_
  refine WPL.fa rfl rfl ?_
  refine WPL.ldL rfl hO inferInstance rfl rfl rfl ?_
  refine WPL.eq rfl rfl rfl ?_
  refine WPL.nil ?_
  refine WP.condP rfl (fun h1 => ?_) (fun h1 => ?_)
  · omega
  · refine WP.skip ?_
    refine WP.rs ?_
    refine WPL.mv (v := .pointer _) rfl rfl ?_
    refine WPL.fa rfl rfl ?_
    refine WPL.ldL rfl hO inferInstance rfl rfl rfl ?_
    refine WPL.call rfl (law_at p s.pl s.la s.lc _ _ (hO.rdA (b := p) inferInstance) (hO.rdG hs.gl) ⟨hpl, hs.pn⟩ on hon) Tryz.func18 rfl rfl rfl ?_
    rintro _ w ⟨hf58, k0, x, hx, rfl⟩
    have hO := hO.call hf58
    obtain ⟨p1, p2, hsp⟩ := split_get hx
    have hxo := hs.pok x (by rw [hsp]; simp)
    refine WPL.al hO rfl (fun b2 w hO => ?_)
    refine WPL.stLA (T := T37) rfl rfl hO inferInstance inferInstance (by simp [Value.oneCell']) rfl rfl (fun w hO => ?_)
    refine WPL.nil ?_
    refine WP.seq ?_
    refine WP.rs ?_
    refine WPL.fa rfl rfl ?_
    refine WPL.ldL rfl hO inferInstance rfl rfl rfl ?_
    refine WPL.nil ?_
    refine WP.block ?_
    refine WP.rs ?_
    refine WPL.eq rfl rfl rfl ?_
    refine WPL.as (v := .bool _) rfl rfl ?_
    refine WPL.nil ?_
    refine WP.condP rfl (fun h2 => ?_) (fun h2 => ?_)
    · refine WP.seq ?_
      refine WP.drawE 12 [4, 9] mixed (by kernel_rfl) rfl hO (fun w hO => ?_)
      refine WPE.pv (i := 0) (by kernel_rfl) rfl rfl (fun w k' h => WPL.fa rfl rfl (WPL.nil h)) ?_
      refine WPE.val (i := 1) (by kernel_rfl) rfl rfl (fun w hO k' h => WPL.ldL rfl hO inferInstance rfl rfl rfl (WPL.nil h)) ?_
      refine WPE.pv (i := 2) (by kernel_rfl) rfl rfl (fun w k' h => WPL.fa rfl rfl (WPL.nil h)) ?_
      refine WPE.val (i := 3) (by kernel_rfl) rfl rfl (fun w hO k' h => WPL.ldL rfl hO inferInstance rfl rfl rfl (WPL.nil h)) ?_
      refine WPE.pv (i := 5) (by kernel_rfl) rfl rfl (fun w k' h => WPL.fa rfl rfl (WPL.nil h)) ?_
      refine WPE.pv (i := 7) (by kernel_rfl) rfl rfl (fun w k' h => WPL.fa rfl rfl (WPL.nil h)) ?_
      refine WPE.fork3 (i := 4) (j := 6) (l := 8) (by kernel_rfl) rfl rfl rfl (.inr hO) ?_ ?_ ?_
      · simp only [putAt, List.set] at hO
        have hO : Own tabs w0 K (⟨x.bk, bnC x.B, 68⟩ :: ⟨x.rk, rfC x.R x.a x.c, 87⟩ :: (x.G ++ (⟨b2, [.pointer (some ⟨x.bk, 0, none⟩), .pointer (some ⟨x.rk, 0, none⟩)], 37⟩ :: ⟨b1, [.int .i64 kd, .int .i64 on, .int .i64 wi, .int .i64 n, .float .f64 xb], 32⟩ :: s.rest p p1 p2))) [] w := hO.perm ((List.Perm.cons _ (List.Perm.cons _ (St.split hsp))).trans (by classical exact List.perm_iff_count.2 (fun z => by simp only [List.count_append, List.count_cons, List.count_nil]; omega)))
        refine WPL.call rfl (bins_Add x.bk x.B (hO.cells ⟨x.bk, bnC x.B, 68⟩ (by simp)) 4722366482869645213696 (by decide) (hxo.mt.Ok.mono (by decide)) xb hxb) Tryz.func11 rfl rfl rfl ?_
        rintro _ w ⟨rfl, hfx, hcx⟩
        have hO := hO.turn1 (b := x.bk) (cs := bnC (x.B.addF xb)) inferInstance inferInstance hfx hcx
        refine WPL.nil ?_
        refine WPE.fork2 (i := 6) (j := 8) (by kernel_rfl) rfl rfl (.inl (by kernel_rfl)) ?_ ?_
        · refine WPL.ldL rfl hO inferInstance rfl rfl rfl ?_
          refine WPL.nil ?_
          refine WPE.effX (i := 8) (by kernel_rfl) rfl (by kernel_rfl) ?_
          refine WPL.ldL rfl hO inferInstance rfl rfl rfl ?_
          refine WPL.nil ?_
          refine WPE.effX (i := 9) (by kernel_rfl) rfl (by kernel_rfl) ?_
          have hO : Own tabs w0 K ((⟨x.rk, rfC x.R x.a x.c, 87⟩ :: x.G) ++ (⟨x.bk, bnC (x.B.addF xb), 68⟩ :: ⟨b2, [.pointer (some ⟨x.bk, 0, none⟩), .pointer (some ⟨x.rk, 0, none⟩)], 37⟩ :: ⟨b1, [.int .i64 kd, .int .i64 on, .int .i64 wi, .int .i64 n, .float .f64 xb], 32⟩ :: s.rest p p1 p2)) [] w := hO.perm (by classical exact List.perm_iff_count.2 (fun z => by simp only [List.count_append, List.count_cons, List.count_nil]; omega))
          refine WPL.call rfl (r9_Add x.rk x.R x.a x.c x.G hxo.grown hxo.cap hO.startO hxo.mt.ok xb hxb) Tryz.func19 rfl rfl rfl ?_
          rintro _ w ⟨rfl, a6, c6, G6, hG6, hc6, hk6⟩
          have hO := hO.callO hk6
          refine WPL.nil ?_
          refine WPE.pv (i := 10) (by kernel_rfl) rfl rfl (fun w k' h => WPL.eq rfl rfl rfl (WPL.nil h)) ?_
          refine WPE.pv (i := 11) (by kernel_rfl) rfl rfl (fun w k' h => WPL.as (v := .bool _) rfl rfl (WPL.nil h)) ?_
          refine WPE.nilX (by kernel_rfl) (by kernel_rfl) ?_
          refine WP.ret ?_
          refine ⟨rfl, ?_⟩
          refine RO.tmp (v := .bool _) rfl ?_
          refine RO.nil ?_
          have hm := hxo.mt.add hxb
          refine ⟨congrArg Value.bool (decide_eq_true hm.1), s.put p1 p2 ⟨x.bk, x.B.addF xb, x.rk, x.R.addF xb, a6, c6, G6⟩, (hs.put (y := ⟨x.bk, x.B.addF xb, x.rk, x.R.addF xb, a6, c6, G6⟩) hsp rfl rfl ⟨hG6, hc6, hm.2⟩).mono (Nat.le_succ _), Nat.le_of_eq (St.put_len hsp).symm, ?_⟩
          have hO : Own tabs w0 K (⟨b2, [.pointer (some ⟨x.bk, 0, none⟩), .pointer (some ⟨x.rk, 0, none⟩)], 37⟩ :: ⟨b1, [.int .i64 kd, .int .i64 on, .int .i64 wi, .int .i64 n, .float .f64 xb], 32⟩ :: (⟨x.bk, bnC (x.B.addF xb), 68⟩ :: ⟨x.rk, rfC (x.R.addF xb) a6 c6, 87⟩ :: (G6 ++ s.rest p p1 p2))) [] w := hO.perm (by classical exact List.perm_iff_count.2 (fun z => by simp only [List.count_append, List.count_cons, List.count_nil]; omega))
          exact (hO.drop1.drop1).perm (St.split (s := s.put p1 p2 ⟨x.bk, x.B.addF xb, x.rk, x.R.addF xb, a6, c6, G6⟩) rfl).symm
        · refine WPL.ldL rfl hO inferInstance rfl rfl rfl ?_
          refine WPL.nil ?_
          refine WPE.effX (i := 6) (by kernel_rfl) rfl (by kernel_rfl) ?_
          refine WPL.ldL rfl hO inferInstance rfl rfl rfl ?_
          refine WPL.nil ?_
          refine WPE.effX (i := 9) (by kernel_rfl) rfl (by kernel_rfl) ?_
          have hO : Own tabs w0 K ((⟨x.rk, rfC x.R x.a x.c, 87⟩ :: x.G) ++ (⟨x.bk, bnC (x.B.addF xb), 68⟩ :: ⟨b2, [.pointer (some ⟨x.bk, 0, none⟩), .pointer (some ⟨x.rk, 0, none⟩)], 37⟩ :: ⟨b1, [.int .i64 kd, .int .i64 on, .int .i64 wi, .int .i64 n, .float .f64 xb], 32⟩ :: s.rest p p1 p2)) [] w := hO.perm (by classical exact List.perm_iff_count.2 (fun z => by simp only [List.count_append, List.count_cons, List.count_nil]; omega))
          refine WPL.call rfl (r9_Add x.rk x.R x.a x.c x.G hxo.grown hxo.cap hO.startO hxo.mt.ok xb hxb) Tryz.func19 rfl rfl rfl ?_
          rintro _ w ⟨rfl, a6, c6, G6, hG6, hc6, hk6⟩
          have hO := hO.callO hk6
          refine WPL.nil ?_
          refine WPE.pv (i := 10) (by kernel_rfl) rfl rfl (fun w k' h => WPL.eq rfl rfl rfl (WPL.nil h)) ?_
          refine WPE.pv (i := 11) (by kernel_rfl) rfl rfl (fun w k' h => WPL.as (v := .bool _) rfl rfl (WPL.nil h)) ?_
          refine WPE.nilX (by kernel_rfl) (by kernel_rfl) ?_
          refine WP.ret ?_
          refine ⟨rfl, ?_⟩
          refine RO.tmp (v := .bool _) rfl ?_
          refine RO.nil ?_
          have hm := hxo.mt.add hxb
          refine ⟨congrArg Value.bool (decide_eq_true hm.1), s.put p1 p2 ⟨x.bk, x.B.addF xb, x.rk, x.R.addF xb, a6, c6, G6⟩, (hs.put (y := ⟨x.bk, x.B.addF xb, x.rk, x.R.addF xb, a6, c6, G6⟩) hsp rfl rfl ⟨hG6, hc6, hm.2⟩).mono (Nat.le_succ _), Nat.le_of_eq (St.put_len hsp).symm, ?_⟩
          have hO : Own tabs w0 K (⟨b2, [.pointer (some ⟨x.bk, 0, none⟩), .pointer (some ⟨x.rk, 0, none⟩)], 37⟩ :: ⟨b1, [.int .i64 kd, .int .i64 on, .int .i64 wi, .int .i64 n, .float .f64 xb], 32⟩ :: (⟨x.bk, bnC (x.B.addF xb), 68⟩ :: ⟨x.rk, rfC (x.R.addF xb) a6 c6, 87⟩ :: (G6 ++ s.rest p p1 p2))) [] w := hO.perm (by classical exact List.perm_iff_count.2 (fun z => by simp only [List.count_append, List.count_cons, List.count_nil]; omega))
          exact (hO.drop1.drop1).perm (St.split (s := s.put p1 p2 ⟨x.bk, x.B.addF xb, x.rk, x.R.addF xb, a6, c6, G6⟩) rfl).symm
      · refine WPL.ldL rfl hO inferInstance rfl rfl rfl ?_
        refine WPL.nil ?_
        refine WPE.fork2 (i := 4) (j := 8) (by kernel_rfl) rfl rfl (.inr hO) ?_ ?_
        · simp only [putAt, List.set] at hO
          have hO : Own tabs w0 K (⟨x.bk, bnC x.B, 68⟩ :: ⟨x.rk, rfC x.R x.a x.c, 87⟩ :: (x.G ++ (⟨b2, [.pointer (some ⟨x.bk, 0, none⟩), .pointer (some ⟨x.rk, 0, none⟩)], 37⟩ :: ⟨b1, [.int .i64 kd, .int .i64 on, .int .i64 wi, .int .i64 n, .float .f64 xb], 32⟩ :: s.rest p p1 p2))) [] w := hO.perm ((List.Perm.cons _ (List.Perm.cons _ (St.split hsp))).trans (by classical exact List.perm_iff_count.2 (fun z => by simp only [List.count_append, List.count_cons, List.count_nil]; omega)))
          refine WPL.call rfl (bins_Add x.bk x.B (hO.cells ⟨x.bk, bnC x.B, 68⟩ (by simp)) 4722366482869645213696 (by decide) (hxo.mt.Ok.mono (by decide)) xb hxb) Tryz.func11 rfl rfl rfl ?_
          rintro _ w ⟨rfl, hfx, hcx⟩
          have hO := hO.turn1 (b := x.bk) (cs := bnC (x.B.addF xb)) inferInstance inferInstance hfx hcx
          refine WPL.nil ?_
          refine WPE.effX (i := 8) (by kernel_rfl) rfl (by kernel_rfl) ?_
          refine WPL.ldL rfl hO inferInstance rfl rfl rfl ?_
          refine WPL.nil ?_
          refine WPE.effX (i := 9) (by kernel_rfl) rfl (by kernel_rfl) ?_
          have hO : Own tabs w0 K ((⟨x.rk, rfC x.R x.a x.c, 87⟩ :: x.G) ++ (⟨x.bk, bnC (x.B.addF xb), 68⟩ :: ⟨b2, [.pointer (some ⟨x.bk, 0, none⟩), .pointer (some ⟨x.rk, 0, none⟩)], 37⟩ :: ⟨b1, [.int .i64 kd, .int .i64 on, .int .i64 wi, .int .i64 n, .float .f64 xb], 32⟩ :: s.rest p p1 p2)) [] w := hO.perm (by classical exact List.perm_iff_count.2 (fun z => by simp only [List.count_append, List.count_cons, List.count_nil]; omega))
          refine WPL.call rfl (r9_Add x.rk x.R x.a x.c x.G hxo.grown hxo.cap hO.startO hxo.mt.ok xb hxb) Tryz.func19 rfl rfl rfl ?_
          rintro _ w ⟨rfl, a6, c6, G6, hG6, hc6, hk6⟩
          have hO := hO.callO hk6
          refine WPL.nil ?_
          refine WPE.pv (i := 10) (by kernel_rfl) rfl rfl (fun w k' h => WPL.eq rfl rfl rfl (WPL.nil h)) ?_
          refine WPE.pv (i := 11) (by kernel_rfl) rfl rfl (fun w k' h => WPL.as (v := .bool _) rfl rfl (WPL.nil h)) ?_
          refine WPE.nilX (by kernel_rfl) (by kernel_rfl) ?_
          refine WP.ret ?_
          refine ⟨rfl, ?_⟩
          refine RO.tmp (v := .bool _) rfl ?_
          refine RO.nil ?_
          have hm := hxo.mt.add hxb
          refine ⟨congrArg Value.bool (decide_eq_true hm.1), s.put p1 p2 ⟨x.bk, x.B.addF xb, x.rk, x.R.addF xb, a6, c6, G6⟩, (hs.put (y := ⟨x.bk, x.B.addF xb, x.rk, x.R.addF xb, a6, c6, G6⟩) hsp rfl rfl ⟨hG6, hc6, hm.2⟩).mono (Nat.le_succ _), Nat.le_of_eq (St.put_len hsp).symm, ?_⟩
          have hO : Own tabs w0 K (⟨b2, [.pointer (some ⟨x.bk, 0, none⟩), .pointer (some ⟨x.rk, 0, none⟩)], 37⟩ :: ⟨b1, [.int .i64 kd, .int .i64 on, .int .i64 wi, .int .i64 n, .float .f64 xb], 32⟩ :: (⟨x.bk, bnC (x.B.addF xb), 68⟩ :: ⟨x.rk, rfC (x.R.addF xb) a6 c6, 87⟩ :: (G6 ++ s.rest p p1 p2))) [] w := hO.perm (by classical exact List.perm_iff_count.2 (fun z => by simp only [List.count_append, List.count_cons, List.count_nil]; omega))
          exact (hO.drop1.drop1).perm (St.split (s := s.put p1 p2 ⟨x.bk, x.B.addF xb, x.rk, x.R.addF xb, a6, c6, G6⟩) rfl).symm
        · refine WPL.ldL rfl hO inferInstance rfl rfl rfl ?_
          refine WPL.nil ?_
          refine WPE.eff (i := 4) (by kernel_rfl) rfl hO ?_
          simp only [putAt, List.set] at hO
          have hO : Own tabs w0 K (⟨x.bk, bnC x.B, 68⟩ :: ⟨x.rk, rfC x.R x.a x.c, 87⟩ :: (x.G ++ (⟨b2, [.pointer (some ⟨x.bk, 0, none⟩), .pointer (some ⟨x.rk, 0, none⟩)], 37⟩ :: ⟨b1, [.int .i64 kd, .int .i64 on, .int .i64 wi, .int .i64 n, .float .f64 xb], 32⟩ :: s.rest p p1 p2))) [] w := hO.perm ((List.Perm.cons _ (List.Perm.cons _ (St.split hsp))).trans (by classical exact List.perm_iff_count.2 (fun z => by simp only [List.count_append, List.count_cons, List.count_nil]; omega)))
          refine WPL.call rfl (bins_Add x.bk x.B (hO.cells ⟨x.bk, bnC x.B, 68⟩ (by simp)) 4722366482869645213696 (by decide) (hxo.mt.Ok.mono (by decide)) xb hxb) Tryz.func11 rfl rfl rfl ?_
          rintro _ w ⟨rfl, hfx, hcx⟩
          have hO := hO.turn1 (b := x.bk) (cs := bnC (x.B.addF xb)) inferInstance inferInstance hfx hcx
          refine WPL.nil ?_
          refine WPE.effX (i := 9) (by kernel_rfl) rfl (by kernel_rfl) ?_
          have hO : Own tabs w0 K ((⟨x.rk, rfC x.R x.a x.c, 87⟩ :: x.G) ++ (⟨x.bk, bnC (x.B.addF xb), 68⟩ :: ⟨b2, [.pointer (some ⟨x.bk, 0, none⟩), .pointer (some ⟨x.rk, 0, none⟩)], 37⟩ :: ⟨b1, [.int .i64 kd, .int .i64 on, .int .i64 wi, .int .i64 n, .float .f64 xb], 32⟩ :: s.rest p p1 p2)) [] w := hO.perm (by classical exact List.perm_iff_count.2 (fun z => by simp only [List.count_append, List.count_cons, List.count_nil]; omega))
          refine WPL.call rfl (r9_Add x.rk x.R x.a x.c x.G hxo.grown hxo.cap hO.startO hxo.mt.ok xb hxb) Tryz.func19 rfl rfl rfl ?_
          rintro _ w ⟨rfl, a6, c6, G6, hG6, hc6, hk6⟩
          have hO := hO.callO hk6
          refine WPL.nil ?_
          refine WPE.pv (i := 10) (by kernel_rfl) rfl rfl (fun w k' h => WPL.eq rfl rfl rfl (WPL.nil h)) ?_
          refine WPE.pv (i := 11) (by kernel_rfl) rfl rfl (fun w k' h => WPL.as (v := .bool _) rfl rfl (WPL.nil h)) ?_
          refine WPE.nilX (by kernel_rfl) (by kernel_rfl) ?_
          refine WP.ret ?_
          refine ⟨rfl, ?_⟩
          refine RO.tmp (v := .bool _) rfl ?_
          refine RO.nil ?_
          have hm := hxo.mt.add hxb
          refine ⟨congrArg Value.bool (decide_eq_true hm.1), s.put p1 p2 ⟨x.bk, x.B.addF xb, x.rk, x.R.addF xb, a6, c6, G6⟩, (hs.put (y := ⟨x.bk, x.B.addF xb, x.rk, x.R.addF xb, a6, c6, G6⟩) hsp rfl rfl ⟨hG6, hc6, hm.2⟩).mono (Nat.le_succ _), Nat.le_of_eq (St.put_len hsp).symm, ?_⟩
          have hO : Own tabs w0 K (⟨b2, [.pointer (some ⟨x.bk, 0, none⟩), .pointer (some ⟨x.rk, 0, none⟩)], 37⟩ :: ⟨b1, [.int .i64 kd, .int .i64 on, .int .i64 wi, .int .i64 n, .float .f64 xb], 32⟩ :: (⟨x.bk, bnC (x.B.addF xb), 68⟩ :: ⟨x.rk, rfC (x.R.addF xb) a6 c6, 87⟩ :: (G6 ++ s.rest p p1 p2))) [] w := hO.perm (by classical exact List.perm_iff_count.2 (fun z => by simp only [List.count_append, List.count_cons, List.count_nil]; omega))
          exact (hO.drop1.drop1).perm (St.split (s := s.put p1 p2 ⟨x.bk, x.B.addF xb, x.rk, x.R.addF xb, a6, c6, G6⟩) rfl).symm
      · refine WPL.ldL rfl hO inferInstance rfl rfl rfl ?_
        refine WPL.nil ?_
        refine WPE.fork2 (i := 4) (j := 6) (by kernel_rfl) rfl rfl (.inr hO) ?_ ?_
        · simp only [putAt, List.set] at hO
          have hO : Own tabs w0 K (⟨x.bk, bnC x.B, 68⟩ :: ⟨x.rk, rfC x.R x.a x.c, 87⟩ :: (x.G ++ (⟨b2, [.pointer (some ⟨x.bk, 0, none⟩), .pointer (some ⟨x.rk, 0, none⟩)], 37⟩ :: ⟨b1, [.int .i64 kd, .int .i64 on, .int .i64 wi, .int .i64 n, .float .f64 xb], 32⟩ :: s.rest p p1 p2))) [] w := hO.perm ((List.Perm.cons _ (List.Perm.cons _ (St.split hsp))).trans (by classical exact List.perm_iff_count.2 (fun z => by simp only [List.count_append, List.count_cons, List.count_nil]; omega)))
          refine WPL.call rfl (bins_Add x.bk x.B (hO.cells ⟨x.bk, bnC x.B, 68⟩ (by simp)) 4722366482869645213696 (by decide) (hxo.mt.Ok.mono (by decide)) xb hxb) Tryz.func11 rfl rfl rfl ?_
          rintro _ w ⟨rfl, hfx, hcx⟩
          have hO := hO.turn1 (b := x.bk) (cs := bnC (x.B.addF xb)) inferInstance inferInstance hfx hcx
          refine WPL.nil ?_
          refine WPE.effX (i := 6) (by kernel_rfl) rfl (by kernel_rfl) ?_
          refine WPL.ldL rfl hO inferInstance rfl rfl rfl ?_
          refine WPL.nil ?_
          refine WPE.effX (i := 9) (by kernel_rfl) rfl (by kernel_rfl) ?_
          have hO : Own tabs w0 K ((⟨x.rk, rfC x.R x.a x.c, 87⟩ :: x.G) ++ (⟨x.bk, bnC (x.B.addF xb), 68⟩ :: ⟨b2, [.pointer (some ⟨x.bk, 0, none⟩), .pointer (some ⟨x.rk, 0, none⟩)], 37⟩ :: ⟨b1, [.int .i64 kd, .int .i64 on, .int .i64 wi, .int .i64 n, .float .f64 xb], 32⟩ :: s.rest p p1 p2)) [] w := hO.perm (by classical exact List.perm_iff_count.2 (fun z => by simp only [List.count_append, List.count_cons, List.count_nil]; omega))
          refine WPL.call rfl (r9_Add x.rk x.R x.a x.c x.G hxo.grown hxo.cap hO.startO hxo.mt.ok xb hxb) Tryz.func19 rfl rfl rfl ?_
          rintro _ w ⟨rfl, a6, c6, G6, hG6, hc6, hk6⟩
          have hO := hO.callO hk6
          refine WPL.nil ?_
          refine WPE.pv (i := 10) (by kernel_rfl) rfl rfl (fun w k' h => WPL.eq rfl rfl rfl (WPL.nil h)) ?_
          refine WPE.pv (i := 11) (by kernel_rfl) rfl rfl (fun w k' h => WPL.as (v := .bool _) rfl rfl (WPL.nil h)) ?_
          refine WPE.nilX (by kernel_rfl) (by kernel_rfl) ?_
          refine WP.ret ?_
          refine ⟨rfl, ?_⟩
          refine RO.tmp (v := .bool _) rfl ?_
          refine RO.nil ?_
          have hm := hxo.mt.add hxb
          refine ⟨congrArg Value.bool (decide_eq_true hm.1), s.put p1 p2 ⟨x.bk, x.B.addF xb, x.rk, x.R.addF xb, a6, c6, G6⟩, (hs.put (y := ⟨x.bk, x.B.addF xb, x.rk, x.R.addF xb, a6, c6, G6⟩) hsp rfl rfl ⟨hG6, hc6, hm.2⟩).mono (Nat.le_succ _), Nat.le_of_eq (St.put_len hsp).symm, ?_⟩
          have hO : Own tabs w0 K (⟨b2, [.pointer (some ⟨x.bk, 0, none⟩), .pointer (some ⟨x.rk, 0, none⟩)], 37⟩ :: ⟨b1, [.int .i64 kd, .int .i64 on, .int .i64 wi, .int .i64 n, .float .f64 xb], 32⟩ :: (⟨x.bk, bnC (x.B.addF xb), 68⟩ :: ⟨x.rk, rfC (x.R.addF xb) a6 c6, 87⟩ :: (G6 ++ s.rest p p1 p2))) [] w := hO.perm (by classical exact List.perm_iff_count.2 (fun z => by simp only [List.count_append, List.count_cons, List.count_nil]; omega))
          exact (hO.drop1.drop1).perm (St.split (s := s.put p1 p2 ⟨x.bk, x.B.addF xb, x.rk, x.R.addF xb, a6, c6, G6⟩) rfl).symm
        · refine WPL.ldL rfl hO inferInstance rfl rfl rfl ?_
          refine WPL.nil ?_
          refine WPE.eff (i := 4) (by kernel_rfl) rfl hO ?_
          simp only [putAt, List.set] at hO
          have hO : Own tabs w0 K (⟨x.bk, bnC x.B, 68⟩ :: ⟨x.rk, rfC x.R x.a x.c, 87⟩ :: (x.G ++ (⟨b2, [.pointer (some ⟨x.bk, 0, none⟩), .pointer (some ⟨x.rk, 0, none⟩)], 37⟩ :: ⟨b1, [.int .i64 kd, .int .i64 on, .int .i64 wi, .int .i64 n, .float .f64 xb], 32⟩ :: s.rest p p1 p2))) [] w := hO.perm ((List.Perm.cons _ (List.Perm.cons _ (St.split hsp))).trans (by classical exact List.perm_iff_count.2 (fun z => by simp only [List.count_append, List.count_cons, List.count_nil]; omega)))
          refine WPL.call rfl (bins_Add x.bk x.B (hO.cells ⟨x.bk, bnC x.B, 68⟩ (by simp)) 4722366482869645213696 (by decide) (hxo.mt.Ok.mono (by decide)) xb hxb) Tryz.func11 rfl rfl rfl ?_
          rintro _ w ⟨rfl, hfx, hcx⟩
          have hO := hO.turn1 (b := x.bk) (cs := bnC (x.B.addF xb)) inferInstance inferInstance hfx hcx
          refine WPL.nil ?_
          refine WPE.effX (i := 9) (by kernel_rfl) rfl (by kernel_rfl) ?_
          have hO : Own tabs w0 K ((⟨x.rk, rfC x.R x.a x.c, 87⟩ :: x.G) ++ (⟨x.bk, bnC (x.B.addF xb), 68⟩ :: ⟨b2, [.pointer (some ⟨x.bk, 0, none⟩), .pointer (some ⟨x.rk, 0, none⟩)], 37⟩ :: ⟨b1, [.int .i64 kd, .int .i64 on, .int .i64 wi, .int .i64 n, .float .f64 xb], 32⟩ :: s.rest p p1 p2)) [] w := hO.perm (by classical exact List.perm_iff_count.2 (fun z => by simp only [List.count_append, List.count_cons, List.count_nil]; omega))
          refine WPL.call rfl (r9_Add x.rk x.R x.a x.c x.G hxo.grown hxo.cap hO.startO hxo.mt.ok xb hxb) Tryz.func19 rfl rfl rfl ?_
          rintro _ w ⟨rfl, a6, c6, G6, hG6, hc6, hk6⟩
          have hO := hO.callO hk6
          refine WPL.nil ?_
          refine WPE.pv (i := 10) (by kernel_rfl) rfl rfl (fun w k' h => WPL.eq rfl rfl rfl (WPL.nil h)) ?_
          refine WPE.pv (i := 11) (by kernel_rfl) rfl rfl (fun w k' h => WPL.as (v := .bool _) rfl rfl (WPL.nil h)) ?_
          refine WPE.nilX (by kernel_rfl) (by kernel_rfl) ?_
          refine WP.ret ?_
          refine ⟨rfl, ?_⟩
          refine RO.tmp (v := .bool _) rfl ?_
          refine RO.nil ?_
          have hm := hxo.mt.add hxb
          refine ⟨congrArg Value.bool (decide_eq_true hm.1), s.put p1 p2 ⟨x.bk, x.B.addF xb, x.rk, x.R.addF xb, a6, c6, G6⟩, (hs.put (y := ⟨x.bk, x.B.addF xb, x.rk, x.R.addF xb, a6, c6, G6⟩) hsp rfl rfl ⟨hG6, hc6, hm.2⟩).mono (Nat.le_succ _), Nat.le_of_eq (St.put_len hsp).symm, ?_⟩
          have hO : Own tabs w0 K (⟨b2, [.pointer (some ⟨x.bk, 0, none⟩), .pointer (some ⟨x.rk, 0, none⟩)], 37⟩ :: ⟨b1, [.int .i64 kd, .int .i64 on, .int .i64 wi, .int .i64 n, .float .f64 xb], 32⟩ :: (⟨x.bk, bnC (x.B.addF xb), 68⟩ :: ⟨x.rk, rfC (x.R.addF xb) a6 c6, 87⟩ :: (G6 ++ s.rest p p1 p2))) [] w := hO.perm (by classical exact List.perm_iff_count.2 (fun z => by simp only [List.count_append, List.count_cons, List.count_nil]; omega))
          exact (hO.drop1.drop1).perm (St.split (s := s.put p1 p2 ⟨x.bk, x.B.addF xb, x.rk, x.R.addF xb, a6, c6, G6⟩) rfl).symm
    · omega

def Bn.mergeE (B O : Bn) : Int := if B.fold ≠ O.fold then 1 else if 1099511627776 < B.count + O.count then 2 else 0
def Bn.mergeX (B O : Bn) : Bn := if B.fold ≠ O.fold then B else if 1099511627776 < B.count + O.count then B else B.mergeF O
def Rf.mergeE (B O : Rf) : Int := if B.fold ≠ O.fold then 1 else if 1099511627776 < B.n + O.n then 2 else 0
def Rf.mergeX (B O : Rf) : Rf := if B.fold ≠ O.fold then B else if 1099511627776 < B.n + O.n then B else B.merge O
theorem Match.mergeX {B O : Bn} {R S : Rf} (h : Match B R) (hO : Match O S) : B.mergeE O = R.mergeE S ∧ Match (B.mergeX O) (R.mergeX S) := by
  unfold Bn.mergeE Bn.mergeX Rf.mergeE Rf.mergeX
  rw [h.fold, hO.fold, h.count, hO.count]
  refine ⟨rfl, ?_⟩
  by_cases h1 : R.fold = S.fold
  · simp only [if_neg (show ¬ (R.fold ≠ S.fold) from fun hx => hx h1)]
    by_cases h2 : 1099511627776 < R.n + S.n
    · simp only [if_pos h2]; exact h
    · simp only [if_neg h2]; exact h.merge hO h1 (by omega)
  · simp only [if_pos (show R.fold ≠ S.fold from h1)]; exact h
theorem bins_MergeAny {w0 : World} (b o : Nat) (B O : Bn) (hb : w0.heap[b]? = some (.cells (bnC B).toArray 68 (0, 0))) (ho : w0.heap[o]? = some (.cells (bnC O).toArray 68 (0, 0))) (hbo : b = o → B = O) (q : Int) (hq : 0 ≤ q ∧ q ≤ 10000000000000000000000) (hkb : B.Ok q 1000) (hko : O.Ok q 1000) (hc : B.count ≤ 1099511627776 ∧ O.count ≤ 1099511627776) :
    Spec Tryz.prog 20 [.pointer (some ⟨b, 0, none⟩), .pointer (some ⟨o, 0, none⟩)] w0 (fun v w' => v = .int .i64 (B.mergeE O) ∧ FrX [b] w0 w' ∧ w'.heap[b]? = some (.cells (bnC (B.mergeX O)).toArray 68 (0, 0))) := by
  have still : ∀ {v : Value} {w' : World}, FrX [] w0 w' → FrX [b] w0 w' ∧ w'.heap[b]? = some (.cells (bnC B).toArray 68 (0, 0)) := fun h => ⟨h.mono (by simp), by rw [h.block b (lt_of_get hb) (by simp)]; exact hb⟩
  unfold Bn.mergeE Bn.mergeX
  by_cases hbe : b = o
  · subst hbe
    obtain rfl := hbo rfl
    simp only [if_neg (show ¬ (B.fold ≠ B.fold) from fun hx => hx rfl)]
    by_cases h2 : 1099511627776 < B.count + B.count
    · simp only [if_pos h2]
      exact (bins_MergeLongSelf b B hb hc.1 h2).mono (fun v w' ⟨h3, h4⟩ => ⟨h3, still (v := v) h4⟩)
    · simp only [if_neg h2]
      exact bins_MergeSelf b B hb q hq hkb (by omega)
  · by_cases h1 : B.fold = O.fold
    · simp only [if_neg (show ¬ (B.fold ≠ O.fold) from fun hx => hx h1)]
      by_cases h2 : 1099511627776 < B.count + O.count
      · simp only [if_pos h2]
        exact (bins_MergeLong b o hbe B O hb ho hc h1 h2).mono (fun v w' ⟨h3, h4⟩ => ⟨h3, still (v := v) h4⟩)
      · simp only [if_neg h2]
        exact bins_Merge b o hbe B O hb ho q hq hkb hko hc h1 (by omega)
    · simp only [if_pos (show B.fold ≠ O.fold from h1)]
      exact (bins_MergeArg b o hbe B O hb ho hc h1).mono (fun v w' ⟨h3, h4⟩ => ⟨h3, still (v := v) h4⟩)
theorem r9_MergeAny {w0 : World} (r : Nat) (R : Rf) (a : Option Addr) (c : Nat) (G : List Blk) (hG : Grown a c 2 (oc R.l) 91 G) (hc : R.l.length ≤ c) (hL : Own [] w0 (keys (⟨r, rfC R a c, 87⟩ :: G)) (⟨r, rfC R a c, 87⟩ :: G) [] w0) (hR : R.Ok) (r2 : Nat) (O : Rf) (a2 : Option Addr) (c2 : Nat) (hO2 : O.Ok) (hc2 : O.l.length ≤ c2) (hoth : (r2 = r ∧ O = R) ∨ (RowOk w0 (keys (⟨r, rfC R a c, 87⟩ :: G)) ⟨some ⟨r2, 0, none⟩, rfC O a2 c2⟩ ∧ RowOk w0 (keys (⟨r, rfC R a c, 87⟩ :: G)) ⟨a2, oc O.l⟩)) :
    Spec Tryz.prog 21 [.pointer (some ⟨r, 0, none⟩), .pointer (some ⟨r2, 0, none⟩)] w0 (fun v w' => v = .int .i64 (R.mergeE O) ∧ ∃ a' c' G', Grown a' c' 2 (oc (R.mergeX O).l) 91 G' ∧ (R.mergeX O).l.length ≤ c' ∧ Own [] w0 (keys (⟨r, rfC R a c, 87⟩ :: G)) (⟨r, rfC (R.mergeX O) a' c', 87⟩ :: G') [] w') := by
  have hn1 := hR.n
  have hn2 := hO2.n
  have still : ∀ {w' : World}, FrX [] w0 w' → ∃ a' c' G', Grown a' c' 2 (oc (R).l) 91 G' ∧ (R).l.length ≤ c' ∧ Own [] w0 (keys (⟨r, rfC R a c, 87⟩ :: G)) (⟨r, rfC (R) a' c', 87⟩ :: G') [] w' := fun h => ⟨a, c, G, hG, hc, hL.call h⟩
  have hrow : RowOk w0 [] ⟨some ⟨r, 0, none⟩, rfC R a c⟩ := hL.rdA (b := r) inferInstance
  unfold Rf.mergeE Rf.mergeX
  rcases hoth with ⟨rfl, rfl⟩ | ⟨hr2, hra2⟩
  · simp only [if_neg (show ¬ (O.fold ≠ O.fold) from fun hx => hx rfl)]
    by_cases h2 : 1099511627776 < O.n + O.n
    · simp only [if_pos h2]
      exact (r9_MergeLong r2 O a c hrow r2 O a c hrow rfl hn1 hn1 h2).mono (fun v w' ⟨h3, h4⟩ => ⟨h3, still h4⟩)
    · simp only [if_neg h2]
      exact r9_MergeSelf r2 O a c G hG hc hL hR (by omega)
  · by_cases h1 : R.fold = O.fold
    · simp only [if_neg (show ¬ (R.fold ≠ O.fold) from fun hx => hx h1)]
      by_cases h2 : 1099511627776 < R.n + O.n
      · simp only [if_pos h2]
        exact (r9_MergeLong r R a c hrow r2 O a2 c2 hr2.weak h1 hn1 hn2 h2).mono (fun v w' ⟨h3, h4⟩ => ⟨h3, still h4⟩)
      · simp only [if_neg h2]
        exact r9_Merge r R a c G hG hc r2 O a2 c2 ((hL.row hra2).row hr2) hc2 hR hO2 h1 (by omega)
    · simp only [if_pos (show R.fold ≠ O.fold from h1)]
      exact (r9_MergeArg r R a c hrow r2 O a2 c2 hr2.weak h1).mono (fun v w' ⟨h3, h4⟩ => ⟨h3, still h4⟩)

theorem St.mem_rest {s : St} {p : Nat} {p1 p2 : List Pr} {y : Pr} (h : y ∈ p1 ∨ y ∈ p2) : ∀ e ∈ y.blk, e ∈ s.rest p p1 p2 := by
  intro e he
  have h1 : e ∈ PB p1 ∨ e ∈ PB p2 := h.imp (fun h => List.mem_flatMap.2 ⟨y, h, he⟩) (fun h => List.mem_flatMap.2 ⟨y, h, he⟩)
  unfold St.rest
  simp only [List.mem_cons, List.mem_append]
  rcases h1 with h1 | h1
  · exact .inr (.inr (.inr (.inr (.inl h1))))
  · exact .inr (.inr (.inr (.inr (.inr (.inl h1)))))
theorem Pr.Ok.count {x : Pr} (h : x.Ok) : x.B.count ≤ 1099511627776 := by have := h.mt.count; have := h.mt.ok.n; omega

theorem law_step_merge {w0 : World} (p : Nat) (s : St) (N : Nat) (hs : s.Ok N) (hN : N ≤ 900000) (kd on wi n : Int) (xb : Nat) (hxb : xb < 18446744073709551616) (hon : -9223372036854775808 ≤ on ∧ on ≤ 9223372036854775807) (hwi : -9223372036854775808 ≤ wi ∧ wi ≤ 9223372036854775807) (hpl : 1 ≤ s.pl.length) (hkd : kd = 3) (hL : Own tabs w0 (keys (s.L p)) (s.L p) [] w0) : Spec Tryz.prog 5 [.pointer (some ⟨p, 0, none⟩), .agg #[.int .i64 kd, .int .i64 on, .int .i64 wi, .int .i64 n, .float .f64 xb]] w0 (fun v w' => v = .bool true ∧ ∃ s' : St, s'.Ok (N + 1) ∧ s.pl.length ≤ s'.pl.length ∧ Own tabs w0 (keys (s.L p)) (s'.L p) [] w') := by
  have hO := hL
  obtain ⟨K, hK⟩ : ∃ K, K = (keys (s.L p)) := ⟨_, rfl⟩
  rw [← hK] at hO ⊢
  unfold St.L at hO
  refine Spec.enter (n := 166) (rs := [.tmp 4]) Tryz.func5 rfl rfl rfl rfl ?_
  refine WP.rs ?_
  refine WPL.bx (v := .agg #[.int .i64 _, .int .i64 _, .int .i64 _, .int .i64 _, .float .f64 _]) rfl rfl hO rfl (fun b1 w hO => ?_)
  refine WPL.as (v := .bool false) rfl rfl ?_
  refine WPL.nil ?_
  refine WP.seq ?_
  refine WP.rs ?_
  refine WPL.fa rfl rfl ?_
  refine WPL.ldL rfl hO inferInstance rfl rfl rfl ?_
  refine WPL.eq rfl rfl rfl ?_
  refine WPL.nil ?_
  refine WP.condP rfl (fun h1 => ?_) (fun h1 => ?_)
  · omega
  · refine WP.skip ?_
    refine WP.rs ?_
    refine WPL.mv (v := .pointer _) rfl rfl ?_
    refine WPL.fa rfl rfl ?_
    refine WPL.ldL rfl hO inferInstance rfl rfl rfl ?_
    refine WPL.call rfl (law_at p s.pl s.la s.lc _ _ (hO.rdA (b := p) inferInstance) (hO.rdG hs.gl) ⟨hpl, hs.pn⟩ on hon) Tryz.func18 rfl rfl rfl ?_
    rintro _ w ⟨hf58, k0, x, hx, rfl⟩
    have hO := hO.call hf58
    obtain ⟨p1, p2, hsp⟩ := split_get hx
    have hxo := hs.pok x (by rw [hsp]; simp)
    refine WPL.al hO rfl (fun b2 w hO => ?_)
    refine WPL.stLA (T := T37) rfl rfl hO inferInstance inferInstance (by simp [Value.oneCell']) rfl rfl (fun w hO => ?_)
    refine WPL.nil ?_
    refine WP.seq ?_
    refine WP.rs ?_
    refine WPL.fa rfl rfl ?_
    refine WPL.ldL rfl hO inferInstance rfl rfl rfl ?_
    refine WPL.nil ?_
    refine WP.block ?_
    refine WP.rs ?_
    refine WPL.eq rfl rfl rfl ?_
    refine WPL.as (v := .bool _) rfl rfl ?_
    refine WPL.nil ?_
    refine WP.condP rfl (fun h2 => ?_) (fun h2 => ?_)
    · omega
    · refine WP.rs ?_
      refine WPL.eq rfl rfl rfl ?_
      refine WPL.as (v := .bool _) rfl rfl ?_
      refine WPL.nil ?_
      refine WP.condP rfl (fun h3 => ?_) (fun h3 => ?_)
      · omega
      · refine WP.rs ?_
        refine WPL.eq rfl rfl rfl ?_
        refine WPL.as (v := .bool _) rfl rfl ?_
        refine WPL.nil ?_
        refine WP.condP rfl (fun h4 => ?_) (fun h4 => ?_)
        · refine WP.rs ?_
          refine WPL.mv (v := .pointer _) rfl rfl ?_
          refine WPL.fa rfl rfl ?_
          refine WPL.ldL rfl hO inferInstance rfl rfl rfl ?_
          refine WPL.call rfl (law_at p s.pl s.la s.lc _ _ (hO.rdA (b := p) inferInstance) (hO.rdG hs.gl) ⟨hpl, hs.pn⟩ wi hwi) Tryz.func18 rfl rfl rfl ?_
          rintro _ w ⟨hf102, k1, y, hy, rfl⟩
          have hO := hO.call hf102
          have hym : y ∈ s.pl := List.mem_of_getElem? hy
          have hyo := hs.pok y hym
          have hyx : y = x ∨ (y ∈ p1 ∨ y ∈ p2) := by
            rw [hsp] at hym
            rcases List.mem_append.1 hym with h | h
            · exact .inr (.inl h)
            · rcases List.mem_cons.1 h with h | h
              · exact .inl h
              · exact .inr (.inr h)
          refine WPL.al hO rfl (fun b3 w hO => ?_)
          refine WPL.stLA (T := T37) rfl rfl hO inferInstance inferInstance (by simp [Value.oneCell']) rfl rfl (fun w hO => ?_)
          refine WPL.nil ?_
          refine WP.seq ?_
          refine WP.drawE 12 [4, 9] mixed (by kernel_rfl) rfl hO (fun w hO => ?_)
          refine WPE.pv (i := 0) (by kernel_rfl) rfl rfl (fun w k' h => WPL.fa rfl rfl (WPL.nil h)) ?_
          refine WPE.val (i := 1) (by kernel_rfl) rfl rfl (fun w hO k' h => WPL.ldL rfl hO inferInstance rfl rfl rfl (WPL.nil h)) ?_
          refine WPE.pv (i := 2) (by kernel_rfl) rfl rfl (fun w k' h => WPL.fa rfl rfl (WPL.nil h)) ?_
          refine WPE.val (i := 3) (by kernel_rfl) rfl rfl (fun w hO k' h => WPL.ldL rfl hO inferInstance rfl rfl rfl (WPL.nil h)) ?_
          refine WPE.pv (i := 5) (by kernel_rfl) rfl rfl (fun w k' h => WPL.fa rfl rfl (WPL.nil h)) ?_
          refine WPE.pv (i := 7) (by kernel_rfl) rfl rfl (fun w k' h => WPL.fa rfl rfl (WPL.nil h)) ?_
          refine WPE.fork3 (i := 4) (j := 6) (l := 8) (by kernel_rfl) rfl rfl rfl (.inr hO) ?_ ?_ ?_
          · simp only [putAt, List.set] at hO
            have hO : Own tabs w0 K (⟨x.bk, bnC x.B, 68⟩ :: ⟨x.rk, rfC x.R x.a x.c, 87⟩ :: (x.G ++ (⟨b3, [.pointer (some ⟨y.bk, 0, none⟩), .pointer (some ⟨y.rk, 0, none⟩)], 37⟩ :: ⟨b2, [.pointer (some ⟨x.bk, 0, none⟩), .pointer (some ⟨x.rk, 0, none⟩)], 37⟩ :: ⟨b1, [.int .i64 kd, .int .i64 on, .int .i64 wi, .int .i64 n, .float .f64 xb], 32⟩ :: s.rest p p1 p2))) [] w := hO.perm ((List.Perm.cons _ (List.Perm.cons _ (List.Perm.cons _ (St.split hsp)))).trans (by classical exact List.perm_iff_count.2 (fun z => by simp only [List.count_append, List.count_cons, List.count_nil]; omega)))
            have hyb : w.heap[y.bk]? = some (.cells (bnC y.B).toArray 68 (0, 0)) ∧ (x.bk = y.bk → x.B = y.B) := by
              rcases hyx with rfl | hyp
              · exact ⟨hO.cells ⟨y.bk, bnC y.B, 68⟩ (by simp), fun _ => rfl⟩
              · have hm := St.mem_rest (s := s) (p := p) hyp ⟨y.bk, bnC y.B, 68⟩ (List.mem_cons_self ..)
                exact ⟨hO.cells ⟨y.bk, bnC y.B, 68⟩ (by simp only [List.mem_cons, List.mem_append]; exact .inr (.inr (.inr (.inr (.inr (.inr hm)))))), fun e => absurd e (hO.head_ne (by simp only [List.mem_cons, List.mem_append]; exact .inr (.inr (.inr (.inr (.inr hm))))))⟩
            refine WPL.call rfl (bins_MergeAny x.bk y.bk x.B y.B (hO.cells ⟨x.bk, bnC x.B, 68⟩ (by simp)) hyb.1 hyb.2 4722366482869645213696 (by decide) (hxo.mt.Ok.mono (by decide)) (hyo.mt.Ok.mono (by decide)) ⟨hxo.count, hyo.count⟩) Tryz.func20 rfl rfl rfl ?_
            rintro _ w ⟨rfl, hfx, hcx⟩
            have hO := hO.turn1 (b := x.bk) (cs := bnC (x.B.mergeX y.B)) inferInstance inferInstance hfx hcx
            refine WPL.nil ?_
            refine WPE.fork2 (i := 6) (j := 8) (by kernel_rfl) rfl rfl (.inl (by kernel_rfl)) ?_ ?_
            · refine WPL.ldL rfl hO inferInstance rfl rfl rfl ?_
              refine WPL.nil ?_
              refine WPE.effX (i := 8) (by kernel_rfl) rfl (by kernel_rfl) ?_
              refine WPL.ldL rfl hO inferInstance rfl rfl rfl ?_
              refine WPL.nil ?_
              refine WPE.effX (i := 9) (by kernel_rfl) rfl (by kernel_rfl) ?_
              have hO : Own tabs w0 K ((⟨x.rk, rfC x.R x.a x.c, 87⟩ :: x.G) ++ (⟨x.bk, bnC (x.B.mergeX y.B), 68⟩ :: ⟨b3, [.pointer (some ⟨y.bk, 0, none⟩), .pointer (some ⟨y.rk, 0, none⟩)], 37⟩ :: ⟨b2, [.pointer (some ⟨x.bk, 0, none⟩), .pointer (some ⟨x.rk, 0, none⟩)], 37⟩ :: ⟨b1, [.int .i64 kd, .int .i64 on, .int .i64 wi, .int .i64 n, .float .f64 xb], 32⟩ :: s.rest p p1 p2)) [] w := hO.perm (by classical exact List.perm_iff_count.2 (fun z => by simp only [List.count_append, List.count_cons, List.count_nil]; omega))
              have hoth : (y.rk = x.rk ∧ y.R = x.R) ∨ (RowOk w (keys (⟨x.rk, rfC x.R x.a x.c, 87⟩ :: x.G)) ⟨some ⟨y.rk, 0, none⟩, rfC y.R y.a y.c⟩ ∧ RowOk w (keys (⟨x.rk, rfC x.R x.a x.c, 87⟩ :: x.G)) ⟨y.a, oc y.R.l⟩) := by
                rcases hyx with rfl | hyp
                · exact .inl ⟨rfl, rfl⟩
                · have hm := St.mem_rest (s := s) (p := p) hyp
                  refine .inr ⟨hO.rowOf (e := ⟨y.rk, rfC y.R y.a y.c, 87⟩) ?_, hO.rowOfG hyo.grown (fun e he => ?_)⟩
                  · have := hm ⟨y.rk, rfC y.R y.a y.c, 87⟩ (List.mem_cons_of_mem _ (List.mem_cons_self ..))
                    simp only [List.mem_cons]; exact .inr (.inr (.inr (.inr this)))
                  · have := hm e (List.mem_cons_of_mem _ (List.mem_cons_of_mem _ he))
                    simp only [List.mem_cons]; exact .inr (.inr (.inr (.inr this)))
              refine WPL.call rfl (r9_MergeAny x.rk x.R x.a x.c x.G hxo.grown hxo.cap hO.startO hxo.mt.ok y.rk y.R y.a y.c hyo.mt.ok hyo.cap hoth) Tryz.func21 rfl rfl rfl ?_
              rintro _ w ⟨rfl, a6, c6, G6, hG6, hc6, hk6⟩
              have hO := hO.callO hk6
              refine WPL.nil ?_
              refine WPE.pv (i := 10) (by kernel_rfl) rfl rfl (fun w k' h => WPL.eq rfl rfl rfl (WPL.nil h)) ?_
              refine WPE.pv (i := 11) (by kernel_rfl) rfl rfl (fun w k' h => WPL.as (v := .bool _) rfl rfl (WPL.nil h)) ?_
              refine WPE.nilX (by kernel_rfl) (by kernel_rfl) ?_
              refine WP.ret ?_
              refine ⟨rfl, ?_⟩
              refine RO.tmp (v := .bool _) rfl ?_
              refine RO.nil ?_
              have hm := hxo.mt.mergeX hyo.mt
              refine ⟨congrArg Value.bool (decide_eq_true hm.1), s.put p1 p2 ⟨x.bk, x.B.mergeX y.B, x.rk, x.R.mergeX y.R, a6, c6, G6⟩, (hs.put (y := ⟨x.bk, x.B.mergeX y.B, x.rk, x.R.mergeX y.R, a6, c6, G6⟩) hsp rfl rfl ⟨hG6, hc6, hm.2⟩).mono (Nat.le_succ _), Nat.le_of_eq (St.put_len hsp).symm, ?_⟩
              have hO : Own tabs w0 K (⟨b3, [.pointer (some ⟨y.bk, 0, none⟩), .pointer (some ⟨y.rk, 0, none⟩)], 37⟩ :: ⟨b2, [.pointer (some ⟨x.bk, 0, none⟩), .pointer (some ⟨x.rk, 0, none⟩)], 37⟩ :: ⟨b1, [.int .i64 kd, .int .i64 on, .int .i64 wi, .int .i64 n, .float .f64 xb], 32⟩ :: (⟨x.bk, bnC (x.B.mergeX y.B), 68⟩ :: ⟨x.rk, rfC (x.R.mergeX y.R) a6 c6, 87⟩ :: (G6 ++ s.rest p p1 p2))) [] w := hO.perm (by classical exact List.perm_iff_count.2 (fun z => by simp only [List.count_append, List.count_cons, List.count_nil]; omega))
              exact (hO.drop1.drop1.drop1).perm (St.split (s := s.put p1 p2 ⟨x.bk, x.B.mergeX y.B, x.rk, x.R.mergeX y.R, a6, c6, G6⟩) rfl).symm
            · refine WPL.ldL rfl hO inferInstance rfl rfl rfl ?_
              refine WPL.nil ?_
              refine WPE.effX (i := 6) (by kernel_rfl) rfl (by kernel_rfl) ?_
              refine WPL.ldL rfl hO inferInstance rfl rfl rfl ?_
              refine WPL.nil ?_
              refine WPE.effX (i := 9) (by kernel_rfl) rfl (by kernel_rfl) ?_
              have hO : Own tabs w0 K ((⟨x.rk, rfC x.R x.a x.c, 87⟩ :: x.G) ++ (⟨x.bk, bnC (x.B.mergeX y.B), 68⟩ :: ⟨b3, [.pointer (some ⟨y.bk, 0, none⟩), .pointer (some ⟨y.rk, 0, none⟩)], 37⟩ :: ⟨b2, [.pointer (some ⟨x.bk, 0, none⟩), .pointer (some ⟨x.rk, 0, none⟩)], 37⟩ :: ⟨b1, [.int .i64 kd, .int .i64 on, .int .i64 wi, .int .i64 n, .float .f64 xb], 32⟩ :: s.rest p p1 p2)) [] w := hO.perm (by classical exact List.perm_iff_count.2 (fun z => by simp only [List.count_append, List.count_cons, List.count_nil]; omega))
              have hoth : (y.rk = x.rk ∧ y.R = x.R) ∨ (RowOk w (keys (⟨x.rk, rfC x.R x.a x.c, 87⟩ :: x.G)) ⟨some ⟨y.rk, 0, none⟩, rfC y.R y.a y.c⟩ ∧ RowOk w (keys (⟨x.rk, rfC x.R x.a x.c, 87⟩ :: x.G)) ⟨y.a, oc y.R.l⟩) := by
                rcases hyx with rfl | hyp
                · exact .inl ⟨rfl, rfl⟩
                · have hm := St.mem_rest (s := s) (p := p) hyp
                  refine .inr ⟨hO.rowOf (e := ⟨y.rk, rfC y.R y.a y.c, 87⟩) ?_, hO.rowOfG hyo.grown (fun e he => ?_)⟩
                  · have := hm ⟨y.rk, rfC y.R y.a y.c, 87⟩ (List.mem_cons_of_mem _ (List.mem_cons_self ..))
                    simp only [List.mem_cons]; exact .inr (.inr (.inr (.inr this)))
                  · have := hm e (List.mem_cons_of_mem _ (List.mem_cons_of_mem _ he))
                    simp only [List.mem_cons]; exact .inr (.inr (.inr (.inr this)))
              refine WPL.call rfl (r9_MergeAny x.rk x.R x.a x.c x.G hxo.grown hxo.cap hO.startO hxo.mt.ok y.rk y.R y.a y.c hyo.mt.ok hyo.cap hoth) Tryz.func21 rfl rfl rfl ?_
              rintro _ w ⟨rfl, a6, c6, G6, hG6, hc6, hk6⟩
              have hO := hO.callO hk6
              refine WPL.nil ?_
              refine WPE.pv (i := 10) (by kernel_rfl) rfl rfl (fun w k' h => WPL.eq rfl rfl rfl (WPL.nil h)) ?_
              refine WPE.pv (i := 11) (by kernel_rfl) rfl rfl (fun w k' h => WPL.as (v := .bool _) rfl rfl (WPL.nil h)) ?_
              refine WPE.nilX (by kernel_rfl) (by kernel_rfl) ?_
              refine WP.ret ?_
              refine ⟨rfl, ?_⟩
              refine RO.tmp (v := .bool _) rfl ?_
              refine RO.nil ?_
              have hm := hxo.mt.mergeX hyo.mt
              refine ⟨congrArg Value.bool (decide_eq_true hm.1), s.put p1 p2 ⟨x.bk, x.B.mergeX y.B, x.rk, x.R.mergeX y.R, a6, c6, G6⟩, (hs.put (y := ⟨x.bk, x.B.mergeX y.B, x.rk, x.R.mergeX y.R, a6, c6, G6⟩) hsp rfl rfl ⟨hG6, hc6, hm.2⟩).mono (Nat.le_succ _), Nat.le_of_eq (St.put_len hsp).symm, ?_⟩
              have hO : Own tabs w0 K (⟨b3, [.pointer (some ⟨y.bk, 0, none⟩), .pointer (some ⟨y.rk, 0, none⟩)], 37⟩ :: ⟨b2, [.pointer (some ⟨x.bk, 0, none⟩), .pointer (some ⟨x.rk, 0, none⟩)], 37⟩ :: ⟨b1, [.int .i64 kd, .int .i64 on, .int .i64 wi, .int .i64 n, .float .f64 xb], 32⟩ :: (⟨x.bk, bnC (x.B.mergeX y.B), 68⟩ :: ⟨x.rk, rfC (x.R.mergeX y.R) a6 c6, 87⟩ :: (G6 ++ s.rest p p1 p2))) [] w := hO.perm (by classical exact List.perm_iff_count.2 (fun z => by simp only [List.count_append, List.count_cons, List.count_nil]; omega))
              exact (hO.drop1.drop1.drop1).perm (St.split (s := s.put p1 p2 ⟨x.bk, x.B.mergeX y.B, x.rk, x.R.mergeX y.R, a6, c6, G6⟩) rfl).symm
          · refine WPL.ldL rfl hO inferInstance rfl rfl rfl ?_
            refine WPL.nil ?_
            refine WPE.fork2 (i := 4) (j := 8) (by kernel_rfl) rfl rfl (.inr hO) ?_ ?_
            · simp only [putAt, List.set] at hO
              have hO : Own tabs w0 K (⟨x.bk, bnC x.B, 68⟩ :: ⟨x.rk, rfC x.R x.a x.c, 87⟩ :: (x.G ++ (⟨b3, [.pointer (some ⟨y.bk, 0, none⟩), .pointer (some ⟨y.rk, 0, none⟩)], 37⟩ :: ⟨b2, [.pointer (some ⟨x.bk, 0, none⟩), .pointer (some ⟨x.rk, 0, none⟩)], 37⟩ :: ⟨b1, [.int .i64 kd, .int .i64 on, .int .i64 wi, .int .i64 n, .float .f64 xb], 32⟩ :: s.rest p p1 p2))) [] w := hO.perm ((List.Perm.cons _ (List.Perm.cons _ (List.Perm.cons _ (St.split hsp)))).trans (by classical exact List.perm_iff_count.2 (fun z => by simp only [List.count_append, List.count_cons, List.count_nil]; omega)))
              have hyb : w.heap[y.bk]? = some (.cells (bnC y.B).toArray 68 (0, 0)) ∧ (x.bk = y.bk → x.B = y.B) := by
                rcases hyx with rfl | hyp
                · exact ⟨hO.cells ⟨y.bk, bnC y.B, 68⟩ (by simp), fun _ => rfl⟩
                · have hm := St.mem_rest (s := s) (p := p) hyp ⟨y.bk, bnC y.B, 68⟩ (List.mem_cons_self ..)
                  exact ⟨hO.cells ⟨y.bk, bnC y.B, 68⟩ (by simp only [List.mem_cons, List.mem_append]; exact .inr (.inr (.inr (.inr (.inr (.inr hm)))))), fun e => absurd e (hO.head_ne (by simp only [List.mem_cons, List.mem_append]; exact .inr (.inr (.inr (.inr (.inr hm))))))⟩
              refine WPL.call rfl (bins_MergeAny x.bk y.bk x.B y.B (hO.cells ⟨x.bk, bnC x.B, 68⟩ (by simp)) hyb.1 hyb.2 4722366482869645213696 (by decide) (hxo.mt.Ok.mono (by decide)) (hyo.mt.Ok.mono (by decide)) ⟨hxo.count, hyo.count⟩) Tryz.func20 rfl rfl rfl ?_
              rintro _ w ⟨rfl, hfx, hcx⟩
              have hO := hO.turn1 (b := x.bk) (cs := bnC (x.B.mergeX y.B)) inferInstance inferInstance hfx hcx
              refine WPL.nil ?_
              refine WPE.effX (i := 8) (by kernel_rfl) rfl (by kernel_rfl) ?_
              refine WPL.ldL rfl hO inferInstance rfl rfl rfl ?_
              refine WPL.nil ?_
              refine WPE.effX (i := 9) (by kernel_rfl) rfl (by kernel_rfl) ?_
              have hO : Own tabs w0 K ((⟨x.rk, rfC x.R x.a x.c, 87⟩ :: x.G) ++ (⟨x.bk, bnC (x.B.mergeX y.B), 68⟩ :: ⟨b3, [.pointer (some ⟨y.bk, 0, none⟩), .pointer (some ⟨y.rk, 0, none⟩)], 37⟩ :: ⟨b2, [.pointer (some ⟨x.bk, 0, none⟩), .pointer (some ⟨x.rk, 0, none⟩)], 37⟩ :: ⟨b1, [.int .i64 kd, .int .i64 on, .int .i64 wi, .int .i64 n, .float .f64 xb], 32⟩ :: s.rest p p1 p2)) [] w := hO.perm (by classical exact List.perm_iff_count.2 (fun z => by simp only [List.count_append, List.count_cons, List.count_nil]; omega))
              have hoth : (y.rk = x.rk ∧ y.R = x.R) ∨ (RowOk w (keys (⟨x.rk, rfC x.R x.a x.c, 87⟩ :: x.G)) ⟨some ⟨y.rk, 0, none⟩, rfC y.R y.a y.c⟩ ∧ RowOk w (keys (⟨x.rk, rfC x.R x.a x.c, 87⟩ :: x.G)) ⟨y.a, oc y.R.l⟩) := by
                rcases hyx with rfl | hyp
                · exact .inl ⟨rfl, rfl⟩
                · have hm := St.mem_rest (s := s) (p := p) hyp
                  refine .inr ⟨hO.rowOf (e := ⟨y.rk, rfC y.R y.a y.c, 87⟩) ?_, hO.rowOfG hyo.grown (fun e he => ?_)⟩
                  · have := hm ⟨y.rk, rfC y.R y.a y.c, 87⟩ (List.mem_cons_of_mem _ (List.mem_cons_self ..))
                    simp only [List.mem_cons]; exact .inr (.inr (.inr (.inr this)))
                  · have := hm e (List.mem_cons_of_mem _ (List.mem_cons_of_mem _ he))
                    simp only [List.mem_cons]; exact .inr (.inr (.inr (.inr this)))
              refine WPL.call rfl (r9_MergeAny x.rk x.R x.a x.c x.G hxo.grown hxo.cap hO.startO hxo.mt.ok y.rk y.R y.a y.c hyo.mt.ok hyo.cap hoth) Tryz.func21 rfl rfl rfl ?_
              rintro _ w ⟨rfl, a6, c6, G6, hG6, hc6, hk6⟩
              have hO := hO.callO hk6
              refine WPL.nil ?_
              refine WPE.pv (i := 10) (by kernel_rfl) rfl rfl (fun w k' h => WPL.eq rfl rfl rfl (WPL.nil h)) ?_
              refine WPE.pv (i := 11) (by kernel_rfl) rfl rfl (fun w k' h => WPL.as (v := .bool _) rfl rfl (WPL.nil h)) ?_
              refine WPE.nilX (by kernel_rfl) (by kernel_rfl) ?_
              refine WP.ret ?_
              refine ⟨rfl, ?_⟩
              refine RO.tmp (v := .bool _) rfl ?_
              refine RO.nil ?_
              have hm := hxo.mt.mergeX hyo.mt
              refine ⟨congrArg Value.bool (decide_eq_true hm.1), s.put p1 p2 ⟨x.bk, x.B.mergeX y.B, x.rk, x.R.mergeX y.R, a6, c6, G6⟩, (hs.put (y := ⟨x.bk, x.B.mergeX y.B, x.rk, x.R.mergeX y.R, a6, c6, G6⟩) hsp rfl rfl ⟨hG6, hc6, hm.2⟩).mono (Nat.le_succ _), Nat.le_of_eq (St.put_len hsp).symm, ?_⟩
              have hO : Own tabs w0 K (⟨b3, [.pointer (some ⟨y.bk, 0, none⟩), .pointer (some ⟨y.rk, 0, none⟩)], 37⟩ :: ⟨b2, [.pointer (some ⟨x.bk, 0, none⟩), .pointer (some ⟨x.rk, 0, none⟩)], 37⟩ :: ⟨b1, [.int .i64 kd, .int .i64 on, .int .i64 wi, .int .i64 n, .float .f64 xb], 32⟩ :: (⟨x.bk, bnC (x.B.mergeX y.B), 68⟩ :: ⟨x.rk, rfC (x.R.mergeX y.R) a6 c6, 87⟩ :: (G6 ++ s.rest p p1 p2))) [] w := hO.perm (by classical exact List.perm_iff_count.2 (fun z => by simp only [List.count_append, List.count_cons, List.count_nil]; omega))
              exact (hO.drop1.drop1.drop1).perm (St.split (s := s.put p1 p2 ⟨x.bk, x.B.mergeX y.B, x.rk, x.R.mergeX y.R, a6, c6, G6⟩) rfl).symm
            · refine WPL.ldL rfl hO inferInstance rfl rfl rfl ?_
              refine WPL.nil ?_
              refine WPE.eff (i := 4) (by kernel_rfl) rfl hO ?_
              simp only [putAt, List.set] at hO
              have hO : Own tabs w0 K (⟨x.bk, bnC x.B, 68⟩ :: ⟨x.rk, rfC x.R x.a x.c, 87⟩ :: (x.G ++ (⟨b3, [.pointer (some ⟨y.bk, 0, none⟩), .pointer (some ⟨y.rk, 0, none⟩)], 37⟩ :: ⟨b2, [.pointer (some ⟨x.bk, 0, none⟩), .pointer (some ⟨x.rk, 0, none⟩)], 37⟩ :: ⟨b1, [.int .i64 kd, .int .i64 on, .int .i64 wi, .int .i64 n, .float .f64 xb], 32⟩ :: s.rest p p1 p2))) [] w := hO.perm ((List.Perm.cons _ (List.Perm.cons _ (List.Perm.cons _ (St.split hsp)))).trans (by classical exact List.perm_iff_count.2 (fun z => by simp only [List.count_append, List.count_cons, List.count_nil]; omega)))
              have hyb : w.heap[y.bk]? = some (.cells (bnC y.B).toArray 68 (0, 0)) ∧ (x.bk = y.bk → x.B = y.B) := by
                rcases hyx with rfl | hyp
                · exact ⟨hO.cells ⟨y.bk, bnC y.B, 68⟩ (by simp), fun _ => rfl⟩
                · have hm := St.mem_rest (s := s) (p := p) hyp ⟨y.bk, bnC y.B, 68⟩ (List.mem_cons_self ..)
                  exact ⟨hO.cells ⟨y.bk, bnC y.B, 68⟩ (by simp only [List.mem_cons, List.mem_append]; exact .inr (.inr (.inr (.inr (.inr (.inr hm)))))), fun e => absurd e (hO.head_ne (by simp only [List.mem_cons, List.mem_append]; exact .inr (.inr (.inr (.inr (.inr hm))))))⟩
              refine WPL.call rfl (bins_MergeAny x.bk y.bk x.B y.B (hO.cells ⟨x.bk, bnC x.B, 68⟩ (by simp)) hyb.1 hyb.2 4722366482869645213696 (by decide) (hxo.mt.Ok.mono (by decide)) (hyo.mt.Ok.mono (by decide)) ⟨hxo.count, hyo.count⟩) Tryz.func20 rfl rfl rfl ?_
              rintro _ w ⟨rfl, hfx, hcx⟩
              have hO := hO.turn1 (b := x.bk) (cs := bnC (x.B.mergeX y.B)) inferInstance inferInstance hfx hcx
              refine WPL.nil ?_
              refine WPE.effX (i := 9) (by kernel_rfl) rfl (by kernel_rfl) ?_
              have hO : Own tabs w0 K ((⟨x.rk, rfC x.R x.a x.c, 87⟩ :: x.G) ++ (⟨x.bk, bnC (x.B.mergeX y.B), 68⟩ :: ⟨b3, [.pointer (some ⟨y.bk, 0, none⟩), .pointer (some ⟨y.rk, 0, none⟩)], 37⟩ :: ⟨b2, [.pointer (some ⟨x.bk, 0, none⟩), .pointer (some ⟨x.rk, 0, none⟩)], 37⟩ :: ⟨b1, [.int .i64 kd, .int .i64 on, .int .i64 wi, .int .i64 n, .float .f64 xb], 32⟩ :: s.rest p p1 p2)) [] w := hO.perm (by classical exact List.perm_iff_count.2 (fun z => by simp only [List.count_append, List.count_cons, List.count_nil]; omega))
              have hoth : (y.rk = x.rk ∧ y.R = x.R) ∨ (RowOk w (keys (⟨x.rk, rfC x.R x.a x.c, 87⟩ :: x.G)) ⟨some ⟨y.rk, 0, none⟩, rfC y.R y.a y.c⟩ ∧ RowOk w (keys (⟨x.rk, rfC x.R x.a x.c, 87⟩ :: x.G)) ⟨y.a, oc y.R.l⟩) := by
                rcases hyx with rfl | hyp
                · exact .inl ⟨rfl, rfl⟩
                · have hm := St.mem_rest (s := s) (p := p) hyp
                  refine .inr ⟨hO.rowOf (e := ⟨y.rk, rfC y.R y.a y.c, 87⟩) ?_, hO.rowOfG hyo.grown (fun e he => ?_)⟩
                  · have := hm ⟨y.rk, rfC y.R y.a y.c, 87⟩ (List.mem_cons_of_mem _ (List.mem_cons_self ..))
                    simp only [List.mem_cons]; exact .inr (.inr (.inr (.inr this)))
                  · have := hm e (List.mem_cons_of_mem _ (List.mem_cons_of_mem _ he))
                    simp only [List.mem_cons]; exact .inr (.inr (.inr (.inr this)))
              refine WPL.call rfl (r9_MergeAny x.rk x.R x.a x.c x.G hxo.grown hxo.cap hO.startO hxo.mt.ok y.rk y.R y.a y.c hyo.mt.ok hyo.cap hoth) Tryz.func21 rfl rfl rfl ?_
              rintro _ w ⟨rfl, a6, c6, G6, hG6, hc6, hk6⟩
              have hO := hO.callO hk6
              refine WPL.nil ?_
              refine WPE.pv (i := 10) (by kernel_rfl) rfl rfl (fun w k' h => WPL.eq rfl rfl rfl (WPL.nil h)) ?_
              refine WPE.pv (i := 11) (by kernel_rfl) rfl rfl (fun w k' h => WPL.as (v := .bool _) rfl rfl (WPL.nil h)) ?_
              refine WPE.nilX (by kernel_rfl) (by kernel_rfl) ?_
              refine WP.ret ?_
              refine ⟨rfl, ?_⟩
              refine RO.tmp (v := .bool _) rfl ?_
              refine RO.nil ?_
              have hm := hxo.mt.mergeX hyo.mt
              refine ⟨congrArg Value.bool (decide_eq_true hm.1), s.put p1 p2 ⟨x.bk, x.B.mergeX y.B, x.rk, x.R.mergeX y.R, a6, c6, G6⟩, (hs.put (y := ⟨x.bk, x.B.mergeX y.B, x.rk, x.R.mergeX y.R, a6, c6, G6⟩) hsp rfl rfl ⟨hG6, hc6, hm.2⟩).mono (Nat.le_succ _), Nat.le_of_eq (St.put_len hsp).symm, ?_⟩
              have hO : Own tabs w0 K (⟨b3, [.pointer (some ⟨y.bk, 0, none⟩), .pointer (some ⟨y.rk, 0, none⟩)], 37⟩ :: ⟨b2, [.pointer (some ⟨x.bk, 0, none⟩), .pointer (some ⟨x.rk, 0, none⟩)], 37⟩ :: ⟨b1, [.int .i64 kd, .int .i64 on, .int .i64 wi, .int .i64 n, .float .f64 xb], 32⟩ :: (⟨x.bk, bnC (x.B.mergeX y.B), 68⟩ :: ⟨x.rk, rfC (x.R.mergeX y.R) a6 c6, 87⟩ :: (G6 ++ s.rest p p1 p2))) [] w := hO.perm (by classical exact List.perm_iff_count.2 (fun z => by simp only [List.count_append, List.count_cons, List.count_nil]; omega))
              exact (hO.drop1.drop1.drop1).perm (St.split (s := s.put p1 p2 ⟨x.bk, x.B.mergeX y.B, x.rk, x.R.mergeX y.R, a6, c6, G6⟩) rfl).symm
          · refine WPL.ldL rfl hO inferInstance rfl rfl rfl ?_
            refine WPL.nil ?_
            refine WPE.fork2 (i := 4) (j := 6) (by kernel_rfl) rfl rfl (.inr hO) ?_ ?_
            · simp only [putAt, List.set] at hO
              have hO : Own tabs w0 K (⟨x.bk, bnC x.B, 68⟩ :: ⟨x.rk, rfC x.R x.a x.c, 87⟩ :: (x.G ++ (⟨b3, [.pointer (some ⟨y.bk, 0, none⟩), .pointer (some ⟨y.rk, 0, none⟩)], 37⟩ :: ⟨b2, [.pointer (some ⟨x.bk, 0, none⟩), .pointer (some ⟨x.rk, 0, none⟩)], 37⟩ :: ⟨b1, [.int .i64 kd, .int .i64 on, .int .i64 wi, .int .i64 n, .float .f64 xb], 32⟩ :: s.rest p p1 p2))) [] w := hO.perm ((List.Perm.cons _ (List.Perm.cons _ (List.Perm.cons _ (St.split hsp)))).trans (by classical exact List.perm_iff_count.2 (fun z => by simp only [List.count_append, List.count_cons, List.count_nil]; omega)))
              have hyb : w.heap[y.bk]? = some (.cells (bnC y.B).toArray 68 (0, 0)) ∧ (x.bk = y.bk → x.B = y.B) := by
                rcases hyx with rfl | hyp
                · exact ⟨hO.cells ⟨y.bk, bnC y.B, 68⟩ (by simp), fun _ => rfl⟩
                · have hm := St.mem_rest (s := s) (p := p) hyp ⟨y.bk, bnC y.B, 68⟩ (List.mem_cons_self ..)
                  exact ⟨hO.cells ⟨y.bk, bnC y.B, 68⟩ (by simp only [List.mem_cons, List.mem_append]; exact .inr (.inr (.inr (.inr (.inr (.inr hm)))))), fun e => absurd e (hO.head_ne (by simp only [List.mem_cons, List.mem_append]; exact .inr (.inr (.inr (.inr (.inr hm))))))⟩
              refine WPL.call rfl (bins_MergeAny x.bk y.bk x.B y.B (hO.cells ⟨x.bk, bnC x.B, 68⟩ (by simp)) hyb.1 hyb.2 4722366482869645213696 (by decide) (hxo.mt.Ok.mono (by decide)) (hyo.mt.Ok.mono (by decide)) ⟨hxo.count, hyo.count⟩) Tryz.func20 rfl rfl rfl ?_
              rintro _ w ⟨rfl, hfx, hcx⟩
              have hO := hO.turn1 (b := x.bk) (cs := bnC (x.B.mergeX y.B)) inferInstance inferInstance hfx hcx
              refine WPL.nil ?_
              refine WPE.effX (i := 6) (by kernel_rfl) rfl (by kernel_rfl) ?_
              refine WPL.ldL rfl hO inferInstance rfl rfl rfl ?_
              refine WPL.nil ?_
              refine WPE.effX (i := 9) (by kernel_rfl) rfl (by kernel_rfl) ?_
              have hO : Own tabs w0 K ((⟨x.rk, rfC x.R x.a x.c, 87⟩ :: x.G) ++ (⟨x.bk, bnC (x.B.mergeX y.B), 68⟩ :: ⟨b3, [.pointer (some ⟨y.bk, 0, none⟩), .pointer (some ⟨y.rk, 0, none⟩)], 37⟩ :: ⟨b2, [.pointer (some ⟨x.bk, 0, none⟩), .pointer (some ⟨x.rk, 0, none⟩)], 37⟩ :: ⟨b1, [.int .i64 kd, .int .i64 on, .int .i64 wi, .int .i64 n, .float .f64 xb], 32⟩ :: s.rest p p1 p2)) [] w := hO.perm (by classical exact List.perm_iff_count.2 (fun z => by simp only [List.count_append, List.count_cons, List.count_nil]; omega))
              have hoth : (y.rk = x.rk ∧ y.R = x.R) ∨ (RowOk w (keys (⟨x.rk, rfC x.R x.a x.c, 87⟩ :: x.G)) ⟨some ⟨y.rk, 0, none⟩, rfC y.R y.a y.c⟩ ∧ RowOk w (keys (⟨x.rk, rfC x.R x.a x.c, 87⟩ :: x.G)) ⟨y.a, oc y.R.l⟩) := by
                rcases hyx with rfl | hyp
                · exact .inl ⟨rfl, rfl⟩
                · have hm := St.mem_rest (s := s) (p := p) hyp
                  refine .inr ⟨hO.rowOf (e := ⟨y.rk, rfC y.R y.a y.c, 87⟩) ?_, hO.rowOfG hyo.grown (fun e he => ?_)⟩
                  · have := hm ⟨y.rk, rfC y.R y.a y.c, 87⟩ (List.mem_cons_of_mem _ (List.mem_cons_self ..))
                    simp only [List.mem_cons]; exact .inr (.inr (.inr (.inr this)))
                  · have := hm e (List.mem_cons_of_mem _ (List.mem_cons_of_mem _ he))
                    simp only [List.mem_cons]; exact .inr (.inr (.inr (.inr this)))
              refine WPL.call rfl (r9_MergeAny x.rk x.R x.a x.c x.G hxo.grown hxo.cap hO.startO hxo.mt.ok y.rk y.R y.a y.c hyo.mt.ok hyo.cap hoth) Tryz.func21 rfl rfl rfl ?_
              rintro _ w ⟨rfl, a6, c6, G6, hG6, hc6, hk6⟩
              have hO := hO.callO hk6
              refine WPL.nil ?_
              refine WPE.pv (i := 10) (by kernel_rfl) rfl rfl (fun w k' h => WPL.eq rfl rfl rfl (WPL.nil h)) ?_
              refine WPE.pv (i := 11) (by kernel_rfl) rfl rfl (fun w k' h => WPL.as (v := .bool _) rfl rfl (WPL.nil h)) ?_
              refine WPE.nilX (by kernel_rfl) (by kernel_rfl) ?_
              refine WP.ret ?_
              refine ⟨rfl, ?_⟩
              refine RO.tmp (v := .bool _) rfl ?_
              refine RO.nil ?_
              have hm := hxo.mt.mergeX hyo.mt
              refine ⟨congrArg Value.bool (decide_eq_true hm.1), s.put p1 p2 ⟨x.bk, x.B.mergeX y.B, x.rk, x.R.mergeX y.R, a6, c6, G6⟩, (hs.put (y := ⟨x.bk, x.B.mergeX y.B, x.rk, x.R.mergeX y.R, a6, c6, G6⟩) hsp rfl rfl ⟨hG6, hc6, hm.2⟩).mono (Nat.le_succ _), Nat.le_of_eq (St.put_len hsp).symm, ?_⟩
              have hO : Own tabs w0 K (⟨b3, [.pointer (some ⟨y.bk, 0, none⟩), .pointer (some ⟨y.rk, 0, none⟩)], 37⟩ :: ⟨b2, [.pointer (some ⟨x.bk, 0, none⟩), .pointer (some ⟨x.rk, 0, none⟩)], 37⟩ :: ⟨b1, [.int .i64 kd, .int .i64 on, .int .i64 wi, .int .i64 n, .float .f64 xb], 32⟩ :: (⟨x.bk, bnC (x.B.mergeX y.B), 68⟩ :: ⟨x.rk, rfC (x.R.mergeX y.R) a6 c6, 87⟩ :: (G6 ++ s.rest p p1 p2))) [] w := hO.perm (by classical exact List.perm_iff_count.2 (fun z => by simp only [List.count_append, List.count_cons, List.count_nil]; omega))
              exact (hO.drop1.drop1.drop1).perm (St.split (s := s.put p1 p2 ⟨x.bk, x.B.mergeX y.B, x.rk, x.R.mergeX y.R, a6, c6, G6⟩) rfl).symm
            · refine WPL.ldL rfl hO inferInstance rfl rfl rfl ?_
              refine WPL.nil ?_
              refine WPE.eff (i := 4) (by kernel_rfl) rfl hO ?_
              simp only [putAt, List.set] at hO
              have hO : Own tabs w0 K (⟨x.bk, bnC x.B, 68⟩ :: ⟨x.rk, rfC x.R x.a x.c, 87⟩ :: (x.G ++ (⟨b3, [.pointer (some ⟨y.bk, 0, none⟩), .pointer (some ⟨y.rk, 0, none⟩)], 37⟩ :: ⟨b2, [.pointer (some ⟨x.bk, 0, none⟩), .pointer (some ⟨x.rk, 0, none⟩)], 37⟩ :: ⟨b1, [.int .i64 kd, .int .i64 on, .int .i64 wi, .int .i64 n, .float .f64 xb], 32⟩ :: s.rest p p1 p2))) [] w := hO.perm ((List.Perm.cons _ (List.Perm.cons _ (List.Perm.cons _ (St.split hsp)))).trans (by classical exact List.perm_iff_count.2 (fun z => by simp only [List.count_append, List.count_cons, List.count_nil]; omega)))
              have hyb : w.heap[y.bk]? = some (.cells (bnC y.B).toArray 68 (0, 0)) ∧ (x.bk = y.bk → x.B = y.B) := by
                rcases hyx with rfl | hyp
                · exact ⟨hO.cells ⟨y.bk, bnC y.B, 68⟩ (by simp), fun _ => rfl⟩
                · have hm := St.mem_rest (s := s) (p := p) hyp ⟨y.bk, bnC y.B, 68⟩ (List.mem_cons_self ..)
                  exact ⟨hO.cells ⟨y.bk, bnC y.B, 68⟩ (by simp only [List.mem_cons, List.mem_append]; exact .inr (.inr (.inr (.inr (.inr (.inr hm)))))), fun e => absurd e (hO.head_ne (by simp only [List.mem_cons, List.mem_append]; exact .inr (.inr (.inr (.inr (.inr hm))))))⟩
              refine WPL.call rfl (bins_MergeAny x.bk y.bk x.B y.B (hO.cells ⟨x.bk, bnC x.B, 68⟩ (by simp)) hyb.1 hyb.2 4722366482869645213696 (by decide) (hxo.mt.Ok.mono (by decide)) (hyo.mt.Ok.mono (by decide)) ⟨hxo.count, hyo.count⟩) Tryz.func20 rfl rfl rfl ?_
              rintro _ w ⟨rfl, hfx, hcx⟩
              have hO := hO.turn1 (b := x.bk) (cs := bnC (x.B.mergeX y.B)) inferInstance inferInstance hfx hcx
              refine WPL.nil ?_
              refine WPE.effX (i := 9) (by kernel_rfl) rfl (by kernel_rfl) ?_
              have hO : Own tabs w0 K ((⟨x.rk, rfC x.R x.a x.c, 87⟩ :: x.G) ++ (⟨x.bk, bnC (x.B.mergeX y.B), 68⟩ :: ⟨b3, [.pointer (some ⟨y.bk, 0, none⟩), .pointer (some ⟨y.rk, 0, none⟩)], 37⟩ :: ⟨b2, [.pointer (some ⟨x.bk, 0, none⟩), .pointer (some ⟨x.rk, 0, none⟩)], 37⟩ :: ⟨b1, [.int .i64 kd, .int .i64 on, .int .i64 wi, .int .i64 n, .float .f64 xb], 32⟩ :: s.rest p p1 p2)) [] w := hO.perm (by classical exact List.perm_iff_count.2 (fun z => by simp only [List.count_append, List.count_cons, List.count_nil]; omega))
              have hoth : (y.rk = x.rk ∧ y.R = x.R) ∨ (RowOk w (keys (⟨x.rk, rfC x.R x.a x.c, 87⟩ :: x.G)) ⟨some ⟨y.rk, 0, none⟩, rfC y.R y.a y.c⟩ ∧ RowOk w (keys (⟨x.rk, rfC x.R x.a x.c, 87⟩ :: x.G)) ⟨y.a, oc y.R.l⟩) := by
                rcases hyx with rfl | hyp
                · exact .inl ⟨rfl, rfl⟩
                · have hm := St.mem_rest (s := s) (p := p) hyp
                  refine .inr ⟨hO.rowOf (e := ⟨y.rk, rfC y.R y.a y.c, 87⟩) ?_, hO.rowOfG hyo.grown (fun e he => ?_)⟩
                  · have := hm ⟨y.rk, rfC y.R y.a y.c, 87⟩ (List.mem_cons_of_mem _ (List.mem_cons_self ..))
                    simp only [List.mem_cons]; exact .inr (.inr (.inr (.inr this)))
                  · have := hm e (List.mem_cons_of_mem _ (List.mem_cons_of_mem _ he))
                    simp only [List.mem_cons]; exact .inr (.inr (.inr (.inr this)))
              refine WPL.call rfl (r9_MergeAny x.rk x.R x.a x.c x.G hxo.grown hxo.cap hO.startO hxo.mt.ok y.rk y.R y.a y.c hyo.mt.ok hyo.cap hoth) Tryz.func21 rfl rfl rfl ?_
              rintro _ w ⟨rfl, a6, c6, G6, hG6, hc6, hk6⟩
              have hO := hO.callO hk6
              refine WPL.nil ?_
              refine WPE.pv (i := 10) (by kernel_rfl) rfl rfl (fun w k' h => WPL.eq rfl rfl rfl (WPL.nil h)) ?_
              refine WPE.pv (i := 11) (by kernel_rfl) rfl rfl (fun w k' h => WPL.as (v := .bool _) rfl rfl (WPL.nil h)) ?_
              refine WPE.nilX (by kernel_rfl) (by kernel_rfl) ?_
              refine WP.ret ?_
              refine ⟨rfl, ?_⟩
              refine RO.tmp (v := .bool _) rfl ?_
              refine RO.nil ?_
              have hm := hxo.mt.mergeX hyo.mt
              refine ⟨congrArg Value.bool (decide_eq_true hm.1), s.put p1 p2 ⟨x.bk, x.B.mergeX y.B, x.rk, x.R.mergeX y.R, a6, c6, G6⟩, (hs.put (y := ⟨x.bk, x.B.mergeX y.B, x.rk, x.R.mergeX y.R, a6, c6, G6⟩) hsp rfl rfl ⟨hG6, hc6, hm.2⟩).mono (Nat.le_succ _), Nat.le_of_eq (St.put_len hsp).symm, ?_⟩
              have hO : Own tabs w0 K (⟨b3, [.pointer (some ⟨y.bk, 0, none⟩), .pointer (some ⟨y.rk, 0, none⟩)], 37⟩ :: ⟨b2, [.pointer (some ⟨x.bk, 0, none⟩), .pointer (some ⟨x.rk, 0, none⟩)], 37⟩ :: ⟨b1, [.int .i64 kd, .int .i64 on, .int .i64 wi, .int .i64 n, .float .f64 xb], 32⟩ :: (⟨x.bk, bnC (x.B.mergeX y.B), 68⟩ :: ⟨x.rk, rfC (x.R.mergeX y.R) a6 c6, 87⟩ :: (G6 ++ s.rest p p1 p2))) [] w := hO.perm (by classical exact List.perm_iff_count.2 (fun z => by simp only [List.count_append, List.count_cons, List.count_nil]; omega))
              exact (hO.drop1.drop1.drop1).perm (St.split (s := s.put p1 p2 ⟨x.bk, x.B.mergeX y.B, x.rk, x.R.mergeX y.R, a6, c6, G6⟩) rfl).symm
        · omega

theorem law_step_times {w0 : World} (p : Nat) (s : St) (N : Nat) (hs : s.Ok N) (hN : N ≤ 900000) (kd on wi n : Int) (xb : Nat) (hxb : xb < 18446744073709551616) (hon : -9223372036854775808 ≤ on ∧ on ≤ 9223372036854775807) (hwi : -9223372036854775808 ≤ wi ∧ wi ≤ 9223372036854775807) (hpl : 1 ≤ s.pl.length) (hkd : kd = 6) (hL : Own tabs w0 (keys (s.L p)) (s.L p) [] w0) : Spec Tryz.prog 5 [.pointer (some ⟨p, 0, none⟩), .agg #[.int .i64 kd, .int .i64 on, .int .i64 wi, .int .i64 n, .float .f64 xb]] w0 (fun v w' => v = .bool true ∧ ∃ s' : St, s'.Ok (N + 1) ∧ s.pl.length ≤ s'.pl.length ∧ Own tabs w0 (keys (s.L p)) (s'.L p) [] w') := by
  have hO := hL
  obtain ⟨K, hK⟩ : ∃ K, K = (keys (s.L p)) := ⟨_, rfl⟩
  rw [← hK] at hO ⊢
  unfold St.L at hO
  refine Spec.enter (n := 166) (rs := [.tmp 4]) Tryz.func5 rfl rfl rfl rfl ?_
  refine WP.rs ?_
  refine WPL.bx (v := .agg #[.int .i64 _, .int .i64 _, .int .i64 _, .int .i64 _, .float .f64 _]) rfl rfl hO rfl (fun b1 w hO => ?_)
  refine WPL.as (v := .bool false) rfl rfl ?_
  refine WPL.nil ?_
  refine WP.seq ?_
  refine WP.rs ?_
  refine WPL.fa rfl rfl ?_
  refine WPL.ldL rfl hO inferInstance rfl rfl rfl ?_
  refine WPL.eq rfl rfl rfl ?_
  refine WPL.nil ?_
  refine WP.condP rfl (fun h1 => ?_) (fun h1 => ?_)
  · omega
  · refine WP.skip ?_
    refine WP.rs ?_
    refine WPL.mv (v := .pointer _) rfl rfl ?_
    refine WPL.fa rfl rfl ?_
    refine WPL.ldL rfl hO inferInstance rfl rfl rfl ?_
    refine WPL.call rfl (law_at p s.pl s.la s.lc _ _ (hO.rdA (b := p) inferInstance) (hO.rdG hs.gl) ⟨hpl, hs.pn⟩ on hon) Tryz.func18 rfl rfl rfl ?_
    rintro _ w ⟨hf58, k0, x, hx, rfl⟩
    have hO := hO.call hf58
    obtain ⟨p1, p2, hsp⟩ := split_get hx
    have hxo := hs.pok x (by rw [hsp]; simp)
    refine WPL.al hO rfl (fun b2 w hO => ?_)
    refine WPL.stLA (T := T37) rfl rfl hO inferInstance inferInstance (by simp [Value.oneCell']) rfl rfl (fun w hO => ?_)
    refine WPL.nil ?_
    refine WP.seq ?_
    refine WP.rs ?_
    refine WPL.fa rfl rfl ?_
    refine WPL.ldL rfl hO inferInstance rfl rfl rfl ?_
    refine WPL.nil ?_
    refine WP.block ?_
    refine WP.rs ?_
    refine WPL.eq rfl rfl rfl ?_
    refine WPL.as (v := .bool _) rfl rfl ?_
    refine WPL.nil ?_
    refine WP.condP rfl (fun h2 => ?_) (fun h2 => ?_)
    · omega
    · refine WP.rs ?_
      refine WPL.eq rfl rfl rfl ?_
      refine WPL.as (v := .bool _) rfl rfl ?_
      refine WPL.nil ?_
      refine WP.condP rfl (fun h3 => ?_) (fun h3 => ?_)
      · refine WP.seq ?_
        refine WP.rs ?_
        refine WPL.as (v := .int .i64 0) rfl rfl ?_
        refine WPL.nil ?_
        refine WP.block ?_
        simp only [putAt, List.set] at hO
        have hO : Own tabs w0 K (⟨x.bk, bnC x.B, 68⟩ :: ⟨x.rk, rfC x.R x.a x.c, 87⟩ :: (x.G ++ (⟨b2, [.pointer (some ⟨x.bk, 0, none⟩), .pointer (some ⟨x.rk, 0, none⟩)], 37⟩ :: ⟨b1, [.int .i64 kd, .int .i64 on, .int .i64 wi, .int .i64 n, .float .f64 xb], 32⟩ :: s.rest p p1 p2))) [] w := hO.perm ((List.Perm.cons _ (List.Perm.cons _ (St.split hsp))).trans (by classical exact List.perm_iff_count.2 (fun z => by simp only [List.count_append, List.count_cons, List.count_nil]; omega)))
        refine WP.loop (fun m σ ds w' => ∃ (i : Nat) (B : Bn) (R : Rf) (a : Option Addr) (c : Nat) (G : List Blk), m + i = 100 ∧ Pr.Ok ⟨x.bk, B, x.rk, R, a, c, G⟩ ∧ Has σ [(0, .pointer (some ⟨p, 0, none⟩)), (3, .pointer (some ⟨b1, 0, none⟩)), (7, .pointer (some ⟨b2, 0, none⟩)), (8, .int .i64 (i : Int))] ∧ ds = [] ∧ Own tabs w0 K (⟨x.bk, bnC (B), 68⟩ :: ⟨x.rk, rfC (R) a c, 87⟩ :: (G ++ (⟨b2, [.pointer (some ⟨x.bk, 0, none⟩), .pointer (some ⟨x.rk, 0, none⟩)], 37⟩ :: ⟨b1, [.int .i64 kd, .int .i64 on, .int .i64 wi, .int .i64 n, .float .f64 xb], 32⟩ :: s.rest p p1 p2))) [] w') 100 ?_ ?_
        · exact ⟨0, x.B, x.R, x.a, x.c, x.G, rfl, hxo, ⟨rfl, rfl, rfl, rfl, trivial⟩, rfl, hO⟩
        · clear hO
          rintro m σ ds w ⟨i, B, R, a, c, G, hmi, hxm, hH, rfl, hO⟩
          refine WP.reset hH ?_
          refine WP.seq ?_
          refine WP.rs ?_
          refine WPL.mv (v := .int .i64 _) rfl rfl ?_
          refine WPL.fa rfl rfl ?_
          refine WPL.ldL rfl hO inferInstance rfl rfl rfl ?_
          refine WPL.lt rfl rfl rfl ?_
          refine WPL.mv (v := .bool _) rfl rfl ?_
          refine WPL.split (s := 80) rfl (fun h4 => ?_) (fun h4 => ?_)
          · have ph4 := of_decide_eq_true h4
            refine WPL.guardT rfl rfl h4 ?_
            refine WPL.mv (v := .int .i64 _) rfl rfl ?_
            refine WPL.guardT rfl rfl h4 ?_
            refine WPL.lt rfl rfl rfl ?_
            refine WPL.pkT (v := .bool _) rfl h4 rfl rfl ?_
            refine WPL.nil ?_
            refine WP.condP rfl (fun h5 => ?_) (fun h5 => ?_)
            · refine WP.skip ?_
              refine WP.seq ?_
              refine WP.block ?_
              refine WP.seq ?_
              refine WP.drawE 11 [4, 9] mixed (by kernel_rfl) rfl hO (fun w hO => ?_)
              refine WPE.pv (i := 0) (by kernel_rfl) rfl rfl (fun w k' h => WPL.fa rfl rfl (WPL.nil h)) ?_
              refine WPE.val (i := 1) (by kernel_rfl) rfl rfl (fun w hO k' h => WPL.ldL rfl hO inferInstance rfl rfl rfl (WPL.nil h)) ?_
              refine WPE.pv (i := 2) (by kernel_rfl) rfl rfl (fun w k' h => WPL.fa rfl rfl (WPL.nil h)) ?_
              refine WPE.val (i := 3) (by kernel_rfl) rfl rfl (fun w hO k' h => WPL.ldL rfl hO inferInstance rfl rfl rfl (WPL.nil h)) ?_
              refine WPE.pv (i := 5) (by kernel_rfl) rfl rfl (fun w k' h => WPL.fa rfl rfl (WPL.nil h)) ?_
              refine WPE.pv (i := 7) (by kernel_rfl) rfl rfl (fun w k' h => WPL.fa rfl rfl (WPL.nil h)) ?_
              refine WPE.fork3 (i := 4) (j := 6) (l := 8) (by kernel_rfl) rfl rfl rfl (.inr hO) ?_ ?_ ?_
              · have hm6 := hxm.mt.add hxb
                refine WPL.call rfl (bins_Add x.bk B (hO.cells ⟨x.bk, bnC B, 68⟩ (by simp)) 4722366482869645213696 (by decide) (hxm.mt.Ok.mono (by decide)) xb hxb) Tryz.func11 rfl rfl rfl ?_
                rintro _ w ⟨rfl, hfx, hcx⟩
                have hO := hO.turn1 (b := x.bk) (cs := bnC (B.addF xb)) inferInstance inferInstance hfx hcx
                refine WPL.nil ?_
                refine WPE.fork2 (i := 6) (j := 8) (by kernel_rfl) rfl rfl (.inl (by kernel_rfl)) ?_ ?_
                · refine WPL.ldL rfl hO inferInstance rfl rfl rfl ?_
                  refine WPL.nil ?_
                  refine WPE.effX (i := 8) (by kernel_rfl) rfl (by kernel_rfl) ?_
                  refine WPL.ldL rfl hO inferInstance rfl rfl rfl ?_
                  refine WPL.nil ?_
                  refine WPE.effX (i := 9) (by kernel_rfl) rfl (by kernel_rfl) ?_
                  have hO : Own tabs w0 K ((⟨x.rk, rfC R a c, 87⟩ :: G) ++ (⟨x.bk, bnC (B.addF xb), 68⟩ :: ⟨b2, [.pointer (some ⟨x.bk, 0, none⟩), .pointer (some ⟨x.rk, 0, none⟩)], 37⟩ :: ⟨b1, [.int .i64 kd, .int .i64 on, .int .i64 wi, .int .i64 n, .float .f64 xb], 32⟩ :: s.rest p p1 p2)) [] w := hO.perm (by classical exact List.perm_iff_count.2 (fun z => by simp only [List.count_append, List.count_cons, List.count_nil]; omega))
                  refine WPL.call rfl (r9_Add x.rk R a c G hxm.grown hxm.cap hO.startO hxm.mt.ok xb hxb) Tryz.func19 rfl rfl rfl ?_
                  rintro _ w ⟨rfl, a6, c6, G6, hG6, hc6, hk6⟩
                  have hO := hO.callO hk6
                  refine WPL.nil ?_
                  refine WPE.pv (i := 10) (by kernel_rfl) rfl rfl (fun w k' h => WPL.ne rfl rfl rfl (WPL.nil h)) ?_
                  refine WPE.nilX (by kernel_rfl) (by kernel_rfl) ?_
                  refine WP.condP rfl (fun h6 => ?_) (fun h6 => ?_)
                  · exact absurd hm6.1 h6
                  · refine WP.skip ?_
                    refine WP.region ?_
                    refine WPL.mv (v := .int .i64 _) rfl rfl ?_
                    refine WPL.addI rfl rfl (by omega) rfl ?_
                    refine WPL.as (v := .int .i64 _) rfl rfl ?_
                    refine WPL.nil ?_
                    have hO : Own tabs w0 K (⟨x.bk, bnC (B.addF xb), 68⟩ :: ⟨x.rk, rfC (R.addF xb) a6 c6, 87⟩ :: (G6 ++ (⟨b2, [.pointer (some ⟨x.bk, 0, none⟩), .pointer (some ⟨x.rk, 0, none⟩)], 37⟩ :: ⟨b1, [.int .i64 kd, .int .i64 on, .int .i64 wi, .int .i64 n, .float .f64 xb], 32⟩ :: s.rest p p1 p2))) [] w := hO.perm (by classical exact List.perm_iff_count.2 (fun z => by simp only [List.count_append, List.count_cons, List.count_nil]; omega))
                    exact ⟨m - 1, by omega, i + 1, B.addF xb, R.addF xb, a6, c6, G6, by omega, ⟨hG6, hc6, hm6.2⟩, ⟨rfl, rfl, rfl, rfl, trivial⟩, rfl, hO⟩
                · refine WPL.ldL rfl hO inferInstance rfl rfl rfl ?_
                  refine WPL.nil ?_
                  refine WPE.effX (i := 6) (by kernel_rfl) rfl (by kernel_rfl) ?_
                  refine WPL.ldL rfl hO inferInstance rfl rfl rfl ?_
                  refine WPL.nil ?_
                  refine WPE.effX (i := 9) (by kernel_rfl) rfl (by kernel_rfl) ?_
                  have hO : Own tabs w0 K ((⟨x.rk, rfC R a c, 87⟩ :: G) ++ (⟨x.bk, bnC (B.addF xb), 68⟩ :: ⟨b2, [.pointer (some ⟨x.bk, 0, none⟩), .pointer (some ⟨x.rk, 0, none⟩)], 37⟩ :: ⟨b1, [.int .i64 kd, .int .i64 on, .int .i64 wi, .int .i64 n, .float .f64 xb], 32⟩ :: s.rest p p1 p2)) [] w := hO.perm (by classical exact List.perm_iff_count.2 (fun z => by simp only [List.count_append, List.count_cons, List.count_nil]; omega))
                  refine WPL.call rfl (r9_Add x.rk R a c G hxm.grown hxm.cap hO.startO hxm.mt.ok xb hxb) Tryz.func19 rfl rfl rfl ?_
                  rintro _ w ⟨rfl, a6, c6, G6, hG6, hc6, hk6⟩
                  have hO := hO.callO hk6
                  refine WPL.nil ?_
                  refine WPE.pv (i := 10) (by kernel_rfl) rfl rfl (fun w k' h => WPL.ne rfl rfl rfl (WPL.nil h)) ?_
                  refine WPE.nilX (by kernel_rfl) (by kernel_rfl) ?_
                  refine WP.condP rfl (fun h7 => ?_) (fun h7 => ?_)
                  · exact absurd hm6.1 h7
                  · refine WP.skip ?_
                    refine WP.region ?_
                    refine WPL.mv (v := .int .i64 _) rfl rfl ?_
                    refine WPL.addI rfl rfl (by omega) rfl ?_
                    refine WPL.as (v := .int .i64 _) rfl rfl ?_
                    refine WPL.nil ?_
                    have hO : Own tabs w0 K (⟨x.bk, bnC (B.addF xb), 68⟩ :: ⟨x.rk, rfC (R.addF xb) a6 c6, 87⟩ :: (G6 ++ (⟨b2, [.pointer (some ⟨x.bk, 0, none⟩), .pointer (some ⟨x.rk, 0, none⟩)], 37⟩ :: ⟨b1, [.int .i64 kd, .int .i64 on, .int .i64 wi, .int .i64 n, .float .f64 xb], 32⟩ :: s.rest p p1 p2))) [] w := hO.perm (by classical exact List.perm_iff_count.2 (fun z => by simp only [List.count_append, List.count_cons, List.count_nil]; omega))
                    exact ⟨m - 1, by omega, i + 1, B.addF xb, R.addF xb, a6, c6, G6, by omega, ⟨hG6, hc6, hm6.2⟩, ⟨rfl, rfl, rfl, rfl, trivial⟩, rfl, hO⟩
              · refine WPL.ldL rfl hO inferInstance rfl rfl rfl ?_
                refine WPL.nil ?_
                refine WPE.fork2 (i := 4) (j := 8) (by kernel_rfl) rfl rfl (.inr hO) ?_ ?_
                · have hm6 := hxm.mt.add hxb
                  refine WPL.call rfl (bins_Add x.bk B (hO.cells ⟨x.bk, bnC B, 68⟩ (by simp)) 4722366482869645213696 (by decide) (hxm.mt.Ok.mono (by decide)) xb hxb) Tryz.func11 rfl rfl rfl ?_
                  rintro _ w ⟨rfl, hfx, hcx⟩
                  have hO := hO.turn1 (b := x.bk) (cs := bnC (B.addF xb)) inferInstance inferInstance hfx hcx
                  refine WPL.nil ?_
                  refine WPE.effX (i := 8) (by kernel_rfl) rfl (by kernel_rfl) ?_
                  refine WPL.ldL rfl hO inferInstance rfl rfl rfl ?_
                  refine WPL.nil ?_
                  refine WPE.effX (i := 9) (by kernel_rfl) rfl (by kernel_rfl) ?_
                  have hO : Own tabs w0 K ((⟨x.rk, rfC R a c, 87⟩ :: G) ++ (⟨x.bk, bnC (B.addF xb), 68⟩ :: ⟨b2, [.pointer (some ⟨x.bk, 0, none⟩), .pointer (some ⟨x.rk, 0, none⟩)], 37⟩ :: ⟨b1, [.int .i64 kd, .int .i64 on, .int .i64 wi, .int .i64 n, .float .f64 xb], 32⟩ :: s.rest p p1 p2)) [] w := hO.perm (by classical exact List.perm_iff_count.2 (fun z => by simp only [List.count_append, List.count_cons, List.count_nil]; omega))
                  refine WPL.call rfl (r9_Add x.rk R a c G hxm.grown hxm.cap hO.startO hxm.mt.ok xb hxb) Tryz.func19 rfl rfl rfl ?_
                  rintro _ w ⟨rfl, a6, c6, G6, hG6, hc6, hk6⟩
                  have hO := hO.callO hk6
                  refine WPL.nil ?_
                  refine WPE.pv (i := 10) (by kernel_rfl) rfl rfl (fun w k' h => WPL.ne rfl rfl rfl (WPL.nil h)) ?_
                  refine WPE.nilX (by kernel_rfl) (by kernel_rfl) ?_
                  refine WP.condP rfl (fun h8 => ?_) (fun h8 => ?_)
                  · exact absurd hm6.1 h8
                  · refine WP.skip ?_
                    refine WP.region ?_
                    refine WPL.mv (v := .int .i64 _) rfl rfl ?_
                    refine WPL.addI rfl rfl (by omega) rfl ?_
                    refine WPL.as (v := .int .i64 _) rfl rfl ?_
                    refine WPL.nil ?_
                    have hO : Own tabs w0 K (⟨x.bk, bnC (B.addF xb), 68⟩ :: ⟨x.rk, rfC (R.addF xb) a6 c6, 87⟩ :: (G6 ++ (⟨b2, [.pointer (some ⟨x.bk, 0, none⟩), .pointer (some ⟨x.rk, 0, none⟩)], 37⟩ :: ⟨b1, [.int .i64 kd, .int .i64 on, .int .i64 wi, .int .i64 n, .float .f64 xb], 32⟩ :: s.rest p p1 p2))) [] w := hO.perm (by classical exact List.perm_iff_count.2 (fun z => by simp only [List.count_append, List.count_cons, List.count_nil]; omega))
                    exact ⟨m - 1, by omega, i + 1, B.addF xb, R.addF xb, a6, c6, G6, by omega, ⟨hG6, hc6, hm6.2⟩, ⟨rfl, rfl, rfl, rfl, trivial⟩, rfl, hO⟩
                · refine WPL.ldL rfl hO inferInstance rfl rfl rfl ?_
                  refine WPL.nil ?_
                  refine WPE.eff (i := 4) (by kernel_rfl) rfl hO ?_
                  have hm6 := hxm.mt.add hxb
                  refine WPL.call rfl (bins_Add x.bk B (hO.cells ⟨x.bk, bnC B, 68⟩ (by simp)) 4722366482869645213696 (by decide) (hxm.mt.Ok.mono (by decide)) xb hxb) Tryz.func11 rfl rfl rfl ?_
                  rintro _ w ⟨rfl, hfx, hcx⟩
                  have hO := hO.turn1 (b := x.bk) (cs := bnC (B.addF xb)) inferInstance inferInstance hfx hcx
                  refine WPL.nil ?_
                  refine WPE.effX (i := 9) (by kernel_rfl) rfl (by kernel_rfl) ?_
                  have hO : Own tabs w0 K ((⟨x.rk, rfC R a c, 87⟩ :: G) ++ (⟨x.bk, bnC (B.addF xb), 68⟩ :: ⟨b2, [.pointer (some ⟨x.bk, 0, none⟩), .pointer (some ⟨x.rk, 0, none⟩)], 37⟩ :: ⟨b1, [.int .i64 kd, .int .i64 on, .int .i64 wi, .int .i64 n, .float .f64 xb], 32⟩ :: s.rest p p1 p2)) [] w := hO.perm (by classical exact List.perm_iff_count.2 (fun z => by simp only [List.count_append, List.count_cons, List.count_nil]; omega))
                  refine WPL.call rfl (r9_Add x.rk R a c G hxm.grown hxm.cap hO.startO hxm.mt.ok xb hxb) Tryz.func19 rfl rfl rfl ?_
                  rintro _ w ⟨rfl, a6, c6, G6, hG6, hc6, hk6⟩
                  have hO := hO.callO hk6
                  refine WPL.nil ?_
                  refine WPE.pv (i := 10) (by kernel_rfl) rfl rfl (fun w k' h => WPL.ne rfl rfl rfl (WPL.nil h)) ?_
                  refine WPE.nilX (by kernel_rfl) (by kernel_rfl) ?_
                  refine WP.condP rfl (fun h9 => ?_) (fun h9 => ?_)
                  · exact absurd hm6.1 h9
                  · refine WP.skip ?_
                    refine WP.region ?_
                    refine WPL.mv (v := .int .i64 _) rfl rfl ?_
                    refine WPL.addI rfl rfl (by omega) rfl ?_
                    refine WPL.as (v := .int .i64 _) rfl rfl ?_
                    refine WPL.nil ?_
                    have hO : Own tabs w0 K (⟨x.bk, bnC (B.addF xb), 68⟩ :: ⟨x.rk, rfC (R.addF xb) a6 c6, 87⟩ :: (G6 ++ (⟨b2, [.pointer (some ⟨x.bk, 0, none⟩), .pointer (some ⟨x.rk, 0, none⟩)], 37⟩ :: ⟨b1, [.int .i64 kd, .int .i64 on, .int .i64 wi, .int .i64 n, .float .f64 xb], 32⟩ :: s.rest p p1 p2))) [] w := hO.perm (by classical exact List.perm_iff_count.2 (fun z => by simp only [List.count_append, List.count_cons, List.count_nil]; omega))
                    exact ⟨m - 1, by omega, i + 1, B.addF xb, R.addF xb, a6, c6, G6, by omega, ⟨hG6, hc6, hm6.2⟩, ⟨rfl, rfl, rfl, rfl, trivial⟩, rfl, hO⟩
              · refine WPL.ldL rfl hO inferInstance rfl rfl rfl ?_
                refine WPL.nil ?_
                refine WPE.fork2 (i := 4) (j := 6) (by kernel_rfl) rfl rfl (.inr hO) ?_ ?_
                · have hm6 := hxm.mt.add hxb
                  refine WPL.call rfl (bins_Add x.bk B (hO.cells ⟨x.bk, bnC B, 68⟩ (by simp)) 4722366482869645213696 (by decide) (hxm.mt.Ok.mono (by decide)) xb hxb) Tryz.func11 rfl rfl rfl ?_
                  rintro _ w ⟨rfl, hfx, hcx⟩
                  have hO := hO.turn1 (b := x.bk) (cs := bnC (B.addF xb)) inferInstance inferInstance hfx hcx
                  refine WPL.nil ?_
                  refine WPE.effX (i := 6) (by kernel_rfl) rfl (by kernel_rfl) ?_
                  refine WPL.ldL rfl hO inferInstance rfl rfl rfl ?_
                  refine WPL.nil ?_
                  refine WPE.effX (i := 9) (by kernel_rfl) rfl (by kernel_rfl) ?_
                  have hO : Own tabs w0 K ((⟨x.rk, rfC R a c, 87⟩ :: G) ++ (⟨x.bk, bnC (B.addF xb), 68⟩ :: ⟨b2, [.pointer (some ⟨x.bk, 0, none⟩), .pointer (some ⟨x.rk, 0, none⟩)], 37⟩ :: ⟨b1, [.int .i64 kd, .int .i64 on, .int .i64 wi, .int .i64 n, .float .f64 xb], 32⟩ :: s.rest p p1 p2)) [] w := hO.perm (by classical exact List.perm_iff_count.2 (fun z => by simp only [List.count_append, List.count_cons, List.count_nil]; omega))
                  refine WPL.call rfl (r9_Add x.rk R a c G hxm.grown hxm.cap hO.startO hxm.mt.ok xb hxb) Tryz.func19 rfl rfl rfl ?_
                  rintro _ w ⟨rfl, a6, c6, G6, hG6, hc6, hk6⟩
                  have hO := hO.callO hk6
                  refine WPL.nil ?_
                  refine WPE.pv (i := 10) (by kernel_rfl) rfl rfl (fun w k' h => WPL.ne rfl rfl rfl (WPL.nil h)) ?_
                  refine WPE.nilX (by kernel_rfl) (by kernel_rfl) ?_
                  refine WP.condP rfl (fun h10 => ?_) (fun h10 => ?_)
                  · exact absurd hm6.1 h10
                  · refine WP.skip ?_
                    refine WP.region ?_
                    refine WPL.mv (v := .int .i64 _) rfl rfl ?_
                    refine WPL.addI rfl rfl (by omega) rfl ?_
                    refine WPL.as (v := .int .i64 _) rfl rfl ?_
                    refine WPL.nil ?_
                    have hO : Own tabs w0 K (⟨x.bk, bnC (B.addF xb), 68⟩ :: ⟨x.rk, rfC (R.addF xb) a6 c6, 87⟩ :: (G6 ++ (⟨b2, [.pointer (some ⟨x.bk, 0, none⟩), .pointer (some ⟨x.rk, 0, none⟩)], 37⟩ :: ⟨b1, [.int .i64 kd, .int .i64 on, .int .i64 wi, .int .i64 n, .float .f64 xb], 32⟩ :: s.rest p p1 p2))) [] w := hO.perm (by classical exact List.perm_iff_count.2 (fun z => by simp only [List.count_append, List.count_cons, List.count_nil]; omega))
                    exact ⟨m - 1, by omega, i + 1, B.addF xb, R.addF xb, a6, c6, G6, by omega, ⟨hG6, hc6, hm6.2⟩, ⟨rfl, rfl, rfl, rfl, trivial⟩, rfl, hO⟩
                · refine WPL.ldL rfl hO inferInstance rfl rfl rfl ?_
                  refine WPL.nil ?_
                  refine WPE.eff (i := 4) (by kernel_rfl) rfl hO ?_
                  have hm6 := hxm.mt.add hxb
                  refine WPL.call rfl (bins_Add x.bk B (hO.cells ⟨x.bk, bnC B, 68⟩ (by simp)) 4722366482869645213696 (by decide) (hxm.mt.Ok.mono (by decide)) xb hxb) Tryz.func11 rfl rfl rfl ?_
                  rintro _ w ⟨rfl, hfx, hcx⟩
                  have hO := hO.turn1 (b := x.bk) (cs := bnC (B.addF xb)) inferInstance inferInstance hfx hcx
                  refine WPL.nil ?_
                  refine WPE.effX (i := 9) (by kernel_rfl) rfl (by kernel_rfl) ?_
                  have hO : Own tabs w0 K ((⟨x.rk, rfC R a c, 87⟩ :: G) ++ (⟨x.bk, bnC (B.addF xb), 68⟩ :: ⟨b2, [.pointer (some ⟨x.bk, 0, none⟩), .pointer (some ⟨x.rk, 0, none⟩)], 37⟩ :: ⟨b1, [.int .i64 kd, .int .i64 on, .int .i64 wi, .int .i64 n, .float .f64 xb], 32⟩ :: s.rest p p1 p2)) [] w := hO.perm (by classical exact List.perm_iff_count.2 (fun z => by simp only [List.count_append, List.count_cons, List.count_nil]; omega))
                  refine WPL.call rfl (r9_Add x.rk R a c G hxm.grown hxm.cap hO.startO hxm.mt.ok xb hxb) Tryz.func19 rfl rfl rfl ?_
                  rintro _ w ⟨rfl, a6, c6, G6, hG6, hc6, hk6⟩
                  have hO := hO.callO hk6
                  refine WPL.nil ?_
                  refine WPE.pv (i := 10) (by kernel_rfl) rfl rfl (fun w k' h => WPL.ne rfl rfl rfl (WPL.nil h)) ?_
                  refine WPE.nilX (by kernel_rfl) (by kernel_rfl) ?_
                  refine WP.condP rfl (fun h11 => ?_) (fun h11 => ?_)
                  · exact absurd hm6.1 h11
                  · refine WP.skip ?_
                    refine WP.region ?_
                    refine WPL.mv (v := .int .i64 _) rfl rfl ?_
                    refine WPL.addI rfl rfl (by omega) rfl ?_
                    refine WPL.as (v := .int .i64 _) rfl rfl ?_
                    refine WPL.nil ?_
                    have hO : Own tabs w0 K (⟨x.bk, bnC (B.addF xb), 68⟩ :: ⟨x.rk, rfC (R.addF xb) a6 c6, 87⟩ :: (G6 ++ (⟨b2, [.pointer (some ⟨x.bk, 0, none⟩), .pointer (some ⟨x.rk, 0, none⟩)], 37⟩ :: ⟨b1, [.int .i64 kd, .int .i64 on, .int .i64 wi, .int .i64 n, .float .f64 xb], 32⟩ :: s.rest p p1 p2))) [] w := hO.perm (by classical exact List.perm_iff_count.2 (fun z => by simp only [List.count_append, List.count_cons, List.count_nil]; omega))
                    exact ⟨m - 1, by omega, i + 1, B.addF xb, R.addF xb, a6, c6, G6, by omega, ⟨hG6, hc6, hm6.2⟩, ⟨rfl, rfl, rfl, rfl, trivial⟩, rfl, hO⟩
            · refine WP.exit ?_
              refine WP.rs ?_
              refine WPL.as (v := .bool true) rfl rfl ?_
              refine WPL.nil ?_
              refine WP.ret ?_
              refine ⟨rfl, ?_⟩
              refine RO.tmp (v := .bool _) rfl ?_
              refine RO.nil ?_
              have hm := (show True ∧ Match B R from ⟨trivial, hxm.mt⟩)
              refine ⟨rfl, s.put p1 p2 ⟨x.bk, B, x.rk, R, a, c, G⟩, (hs.put (y := ⟨x.bk, B, x.rk, R, a, c, G⟩) hsp rfl rfl hxm).mono (Nat.le_succ _), Nat.le_of_eq (St.put_len hsp).symm, ?_⟩
              have hO : Own tabs w0 K (⟨b2, [.pointer (some ⟨x.bk, 0, none⟩), .pointer (some ⟨x.rk, 0, none⟩)], 37⟩ :: ⟨b1, [.int .i64 kd, .int .i64 on, .int .i64 wi, .int .i64 n, .float .f64 xb], 32⟩ :: (⟨x.bk, bnC (B), 68⟩ :: ⟨x.rk, rfC (R) a c, 87⟩ :: (G ++ s.rest p p1 p2))) [] w := hO.perm (by classical exact List.perm_iff_count.2 (fun z => by simp only [List.count_append, List.count_cons, List.count_nil]; omega))
              exact (hO.drop1.drop1).perm (St.split (s := s.put p1 p2 ⟨x.bk, B, x.rk, R, a, c, G⟩) rfl).symm
          · have ph4 := of_decide_eq_false h4
            refine WPL.guardF rfl rfl rfl h4 ?_
            refine WPL.guardF rfl rfl rfl h4 ?_
            refine WPL.pkF (v := .bool false) rfl h4 rfl rfl ?_
            refine WPL.nil ?_
            refine WP.cF rfl rfl ?_
            refine WP.exit ?_
            refine WP.rs ?_
            refine WPL.as (v := .bool true) rfl rfl ?_
            refine WPL.nil ?_
            refine WP.ret ?_
            refine ⟨rfl, ?_⟩
            refine RO.tmp (v := .bool _) rfl ?_
            refine RO.nil ?_
            have hm := (show True ∧ Match B R from ⟨trivial, hxm.mt⟩)
            refine ⟨rfl, s.put p1 p2 ⟨x.bk, B, x.rk, R, a, c, G⟩, (hs.put (y := ⟨x.bk, B, x.rk, R, a, c, G⟩) hsp rfl rfl hxm).mono (Nat.le_succ _), Nat.le_of_eq (St.put_len hsp).symm, ?_⟩
            have hO : Own tabs w0 K (⟨b2, [.pointer (some ⟨x.bk, 0, none⟩), .pointer (some ⟨x.rk, 0, none⟩)], 37⟩ :: ⟨b1, [.int .i64 kd, .int .i64 on, .int .i64 wi, .int .i64 n, .float .f64 xb], 32⟩ :: (⟨x.bk, bnC (B), 68⟩ :: ⟨x.rk, rfC (R) a c, 87⟩ :: (G ++ s.rest p p1 p2))) [] w := hO.perm (by classical exact List.perm_iff_count.2 (fun z => by simp only [List.count_append, List.count_cons, List.count_nil]; omega))
            exact (hO.drop1.drop1).perm (St.split (s := s.put p1 p2 ⟨x.bk, B, x.rk, R, a, c, G⟩) rfl).symm
      · omega

theorem law_step_twice {w0 : World} (p : Nat) (s : St) (N : Nat) (hs : s.Ok N) (hN : N ≤ 900000) (kd on wi n : Int) (xb : Nat) (hxb : xb < 18446744073709551616) (hon : -9223372036854775808 ≤ on ∧ on ≤ 9223372036854775807) (hwi : -9223372036854775808 ≤ wi ∧ wi ≤ 9223372036854775807) (hpl : 1 ≤ s.pl.length) (hkd : kd = 4) (hL : Own tabs w0 (keys (s.L p)) (s.L p) [] w0) : Spec Tryz.prog 5 [.pointer (some ⟨p, 0, none⟩), .agg #[.int .i64 kd, .int .i64 on, .int .i64 wi, .int .i64 n, .float .f64 xb]] w0 (fun v w' => v = .bool true ∧ ∃ s' : St, s'.Ok (N + 1) ∧ s.pl.length ≤ s'.pl.length ∧ Own tabs w0 (keys (s.L p)) (s'.L p) [] w') := by
  have hO := hL
  obtain ⟨K, hK⟩ : ∃ K, K = (keys (s.L p)) := ⟨_, rfl⟩
  rw [← hK] at hO ⊢
  unfold St.L at hO
  refine Spec.enter (n := 166) (rs := [.tmp 4]) Tryz.func5 rfl rfl rfl rfl ?_
  refine WP.rs ?_
  refine WPL.bx (v := .agg #[.int .i64 _, .int .i64 _, .int .i64 _, .int .i64 _, .float .f64 _]) rfl rfl hO rfl (fun b1 w hO => ?_)
  refine WPL.as (v := .bool false) rfl rfl ?_
  refine WPL.nil ?_
  refine WP.seq ?_
  refine WP.rs ?_
  refine WPL.fa rfl rfl ?_
  refine WPL.ldL rfl hO inferInstance rfl rfl rfl ?_
  refine WPL.eq rfl rfl rfl ?_
  refine WPL.nil ?_
  refine WP.condP rfl (fun h1 => ?_) (fun h1 => ?_)
  · omega
  · refine WP.skip ?_
    refine WP.rs ?_
    refine WPL.mv (v := .pointer _) rfl rfl ?_
    refine WPL.fa rfl rfl ?_
    refine WPL.ldL rfl hO inferInstance rfl rfl rfl ?_
    refine WPL.call rfl (law_at p s.pl s.la s.lc _ _ (hO.rdA (b := p) inferInstance) (hO.rdG hs.gl) ⟨hpl, hs.pn⟩ on hon) Tryz.func18 rfl rfl rfl ?_
    rintro _ w ⟨hf58, k0, x, hx, rfl⟩
    have hO := hO.call hf58
    obtain ⟨p1, p2, hsp⟩ := split_get hx
    have hxo := hs.pok x (by rw [hsp]; simp)
    refine WPL.al hO rfl (fun b2 w hO => ?_)
    refine WPL.stLA (T := T37) rfl rfl hO inferInstance inferInstance (by simp [Value.oneCell']) rfl rfl (fun w hO => ?_)
    refine WPL.nil ?_
    refine WP.seq ?_
    refine WP.rs ?_
    refine WPL.fa rfl rfl ?_
    refine WPL.ldL rfl hO inferInstance rfl rfl rfl ?_
    refine WPL.nil ?_
    refine WP.block ?_
    refine WP.rs ?_
    refine WPL.eq rfl rfl rfl ?_
    refine WPL.as (v := .bool _) rfl rfl ?_
    refine WPL.nil ?_
    refine WP.condP rfl (fun h2 => ?_) (fun h2 => ?_)
    · omega
    · refine WP.rs ?_
      refine WPL.eq rfl rfl rfl ?_
      refine WPL.as (v := .bool _) rfl rfl ?_
      refine WPL.nil ?_
      refine WP.condP rfl (fun h3 => ?_) (fun h3 => ?_)
      · omega
      · refine WP.rs ?_
        refine WPL.eq rfl rfl rfl ?_
        refine WPL.as (v := .bool _) rfl rfl ?_
        refine WPL.nil ?_
        refine WP.condP rfl (fun h4 => ?_) (fun h4 => ?_)
        · omega
        · refine WP.rs ?_
          refine WPL.eq rfl rfl rfl ?_
          refine WPL.as (v := .bool _) rfl rfl ?_
          refine WPL.nil ?_
          refine WP.condP rfl (fun h5 => ?_) (fun h5 => ?_)
          · refine WP.seq ?_
            refine WP.rs ?_
            refine WPL.as (v := .int .i64 0) rfl rfl ?_
            refine WPL.nil ?_
            refine WP.block ?_
            simp only [putAt, List.set] at hO
            have hO : Own tabs w0 K (⟨x.bk, bnC x.B, 68⟩ :: ⟨x.rk, rfC x.R x.a x.c, 87⟩ :: (x.G ++ (⟨b2, [.pointer (some ⟨x.bk, 0, none⟩), .pointer (some ⟨x.rk, 0, none⟩)], 37⟩ :: ⟨b1, [.int .i64 kd, .int .i64 on, .int .i64 wi, .int .i64 n, .float .f64 xb], 32⟩ :: s.rest p p1 p2))) [] w := hO.perm ((List.Perm.cons _ (List.Perm.cons _ (St.split hsp))).trans (by classical exact List.perm_iff_count.2 (fun z => by simp only [List.count_append, List.count_cons, List.count_nil]; omega)))
            refine WP.loop (fun m σ ds w' => ∃ (i : Nat) (B : Bn) (R : Rf) (a : Option Addr) (c : Nat) (G : List Blk), m + i = 50 ∧ Pr.Ok ⟨x.bk, B, x.rk, R, a, c, G⟩ ∧ Has σ [(0, .pointer (some ⟨p, 0, none⟩)), (3, .pointer (some ⟨b1, 0, none⟩)), (7, .pointer (some ⟨b2, 0, none⟩)), (10, .int .i64 (i : Int))] ∧ ds = [] ∧ Own tabs w0 K (⟨x.bk, bnC (B), 68⟩ :: ⟨x.rk, rfC (R) a c, 87⟩ :: (G ++ (⟨b2, [.pointer (some ⟨x.bk, 0, none⟩), .pointer (some ⟨x.rk, 0, none⟩)], 37⟩ :: ⟨b1, [.int .i64 kd, .int .i64 on, .int .i64 wi, .int .i64 n, .float .f64 xb], 32⟩ :: s.rest p p1 p2))) [] w') 50 ?_ ?_
            · exact ⟨0, x.B, x.R, x.a, x.c, x.G, rfl, hxo, ⟨rfl, rfl, rfl, rfl, trivial⟩, rfl, hO⟩
            · clear hO
              rintro m σ ds w ⟨i, B, R, a, c, G, hmi, hxm, hH, rfl, hO⟩
              refine WP.reset hH ?_
              refine WP.seq ?_
              refine WP.rs ?_
              refine WPL.mv (v := .int .i64 _) rfl rfl ?_
              refine WPL.fa rfl rfl ?_
              refine WPL.ldL rfl hO inferInstance rfl rfl rfl ?_
              refine WPL.lt rfl rfl rfl ?_
              refine WPL.mv (v := .bool _) rfl rfl ?_
              refine WPL.split (s := 120) rfl (fun h6 => ?_) (fun h6 => ?_)
              · have ph6 := of_decide_eq_true h6
                refine WPL.guardT rfl rfl h6 ?_
                refine WPL.mv (v := .int .i64 _) rfl rfl ?_
                refine WPL.guardT rfl rfl h6 ?_
                refine WPL.lt rfl rfl rfl ?_
                refine WPL.pkT (v := .bool _) rfl h6 rfl rfl ?_
                refine WPL.nil ?_
                refine WP.condP rfl (fun h7 => ?_) (fun h7 => ?_)
                · refine WP.skip ?_
                  refine WP.seq ?_
                  refine WP.block ?_
                  refine WP.seq ?_
                  refine WP.drawE 11 [4, 9] mixed (by kernel_rfl) rfl hO (fun w hO => ?_)
                  refine WPE.pv (i := 0) (by kernel_rfl) rfl rfl (fun w k' h => WPL.fa rfl rfl (WPL.nil h)) ?_
                  refine WPE.val (i := 1) (by kernel_rfl) rfl rfl (fun w hO k' h => WPL.ldL rfl hO inferInstance rfl rfl rfl (WPL.nil h)) ?_
                  refine WPE.pv (i := 2) (by kernel_rfl) rfl rfl (fun w k' h => WPL.fa rfl rfl (WPL.nil h)) ?_
                  refine WPE.val (i := 3) (by kernel_rfl) rfl rfl (fun w hO k' h => WPL.ldL rfl hO inferInstance rfl rfl rfl (WPL.nil h)) ?_
                  refine WPE.pv (i := 5) (by kernel_rfl) rfl rfl (fun w k' h => WPL.fa rfl rfl (WPL.nil h)) ?_
                  refine WPE.pv (i := 7) (by kernel_rfl) rfl rfl (fun w k' h => WPL.fa rfl rfl (WPL.nil h)) ?_
                  refine WPE.fork3 (i := 4) (j := 6) (l := 8) (by kernel_rfl) rfl rfl rfl (.inr hO) ?_ ?_ ?_
                  · have hm6 := hxm.mt.mergeX hxm.mt
                    refine WPL.call rfl (bins_MergeAny x.bk x.bk B B (hO.cells ⟨x.bk, bnC B, 68⟩ (by simp)) (hO.cells ⟨x.bk, bnC B, 68⟩ (by simp)) (fun _ => rfl) 4722366482869645213696 (by decide) (hxm.mt.Ok.mono (by decide)) (hxm.mt.Ok.mono (by decide)) ⟨hxm.count, hxm.count⟩) Tryz.func20 rfl rfl rfl ?_
                    rintro _ w ⟨rfl, hfx, hcx⟩
                    have hO := hO.turn1 (b := x.bk) (cs := bnC (B.mergeX B)) inferInstance inferInstance hfx hcx
                    refine WPL.nil ?_
                    refine WPE.fork2 (i := 6) (j := 8) (by kernel_rfl) rfl rfl (.inl (by kernel_rfl)) ?_ ?_
                    · refine WPL.ldL rfl hO inferInstance rfl rfl rfl ?_
                      refine WPL.nil ?_
                      refine WPE.effX (i := 8) (by kernel_rfl) rfl (by kernel_rfl) ?_
                      refine WPL.ldL rfl hO inferInstance rfl rfl rfl ?_
                      refine WPL.nil ?_
                      refine WPE.effX (i := 9) (by kernel_rfl) rfl (by kernel_rfl) ?_
                      have hO : Own tabs w0 K ((⟨x.rk, rfC R a c, 87⟩ :: G) ++ (⟨x.bk, bnC (B.mergeX B), 68⟩ :: ⟨b2, [.pointer (some ⟨x.bk, 0, none⟩), .pointer (some ⟨x.rk, 0, none⟩)], 37⟩ :: ⟨b1, [.int .i64 kd, .int .i64 on, .int .i64 wi, .int .i64 n, .float .f64 xb], 32⟩ :: s.rest p p1 p2)) [] w := hO.perm (by classical exact List.perm_iff_count.2 (fun z => by simp only [List.count_append, List.count_cons, List.count_nil]; omega))
                      refine WPL.call rfl (r9_MergeAny x.rk R a c G hxm.grown hxm.cap hO.startO hxm.mt.ok x.rk R a c hxm.mt.ok hxm.cap (.inl ⟨rfl, rfl⟩)) Tryz.func21 rfl rfl rfl ?_
                      rintro _ w ⟨rfl, a6, c6, G6, hG6, hc6, hk6⟩
                      have hO := hO.callO hk6
                      refine WPL.nil ?_
                      refine WPE.pv (i := 10) (by kernel_rfl) rfl rfl (fun w k' h => WPL.ne rfl rfl rfl (WPL.nil h)) ?_
                      refine WPE.nilX (by kernel_rfl) (by kernel_rfl) ?_
                      refine WP.condP rfl (fun h8 => ?_) (fun h8 => ?_)
                      · exact absurd hm6.1 h8
                      · refine WP.skip ?_
                        refine WP.region ?_
                        refine WPL.mv (v := .int .i64 _) rfl rfl ?_
                        refine WPL.addI rfl rfl (by omega) rfl ?_
                        refine WPL.as (v := .int .i64 _) rfl rfl ?_
                        refine WPL.nil ?_
                        have hO : Own tabs w0 K (⟨x.bk, bnC (B.mergeX B), 68⟩ :: ⟨x.rk, rfC (R.mergeX R) a6 c6, 87⟩ :: (G6 ++ (⟨b2, [.pointer (some ⟨x.bk, 0, none⟩), .pointer (some ⟨x.rk, 0, none⟩)], 37⟩ :: ⟨b1, [.int .i64 kd, .int .i64 on, .int .i64 wi, .int .i64 n, .float .f64 xb], 32⟩ :: s.rest p p1 p2))) [] w := hO.perm (by classical exact List.perm_iff_count.2 (fun z => by simp only [List.count_append, List.count_cons, List.count_nil]; omega))
                        exact ⟨m - 1, by omega, i + 1, B.mergeX B, R.mergeX R, a6, c6, G6, by omega, ⟨hG6, hc6, hm6.2⟩, ⟨rfl, rfl, rfl, rfl, trivial⟩, rfl, hO⟩
                    · refine WPL.ldL rfl hO inferInstance rfl rfl rfl ?_
                      refine WPL.nil ?_
                      refine WPE.effX (i := 6) (by kernel_rfl) rfl (by kernel_rfl) ?_
                      refine WPL.ldL rfl hO inferInstance rfl rfl rfl ?_
                      refine WPL.nil ?_
                      refine WPE.effX (i := 9) (by kernel_rfl) rfl (by kernel_rfl) ?_
                      have hO : Own tabs w0 K ((⟨x.rk, rfC R a c, 87⟩ :: G) ++ (⟨x.bk, bnC (B.mergeX B), 68⟩ :: ⟨b2, [.pointer (some ⟨x.bk, 0, none⟩), .pointer (some ⟨x.rk, 0, none⟩)], 37⟩ :: ⟨b1, [.int .i64 kd, .int .i64 on, .int .i64 wi, .int .i64 n, .float .f64 xb], 32⟩ :: s.rest p p1 p2)) [] w := hO.perm (by classical exact List.perm_iff_count.2 (fun z => by simp only [List.count_append, List.count_cons, List.count_nil]; omega))
                      refine WPL.call rfl (r9_MergeAny x.rk R a c G hxm.grown hxm.cap hO.startO hxm.mt.ok x.rk R a c hxm.mt.ok hxm.cap (.inl ⟨rfl, rfl⟩)) Tryz.func21 rfl rfl rfl ?_
                      rintro _ w ⟨rfl, a6, c6, G6, hG6, hc6, hk6⟩
                      have hO := hO.callO hk6
                      refine WPL.nil ?_
                      refine WPE.pv (i := 10) (by kernel_rfl) rfl rfl (fun w k' h => WPL.ne rfl rfl rfl (WPL.nil h)) ?_
                      refine WPE.nilX (by kernel_rfl) (by kernel_rfl) ?_
                      refine WP.condP rfl (fun h9 => ?_) (fun h9 => ?_)
                      · exact absurd hm6.1 h9
                      · refine WP.skip ?_
                        refine WP.region ?_
                        refine WPL.mv (v := .int .i64 _) rfl rfl ?_
                        refine WPL.addI rfl rfl (by omega) rfl ?_
                        refine WPL.as (v := .int .i64 _) rfl rfl ?_
                        refine WPL.nil ?_
                        have hO : Own tabs w0 K (⟨x.bk, bnC (B.mergeX B), 68⟩ :: ⟨x.rk, rfC (R.mergeX R) a6 c6, 87⟩ :: (G6 ++ (⟨b2, [.pointer (some ⟨x.bk, 0, none⟩), .pointer (some ⟨x.rk, 0, none⟩)], 37⟩ :: ⟨b1, [.int .i64 kd, .int .i64 on, .int .i64 wi, .int .i64 n, .float .f64 xb], 32⟩ :: s.rest p p1 p2))) [] w := hO.perm (by classical exact List.perm_iff_count.2 (fun z => by simp only [List.count_append, List.count_cons, List.count_nil]; omega))
                        exact ⟨m - 1, by omega, i + 1, B.mergeX B, R.mergeX R, a6, c6, G6, by omega, ⟨hG6, hc6, hm6.2⟩, ⟨rfl, rfl, rfl, rfl, trivial⟩, rfl, hO⟩
                  · refine WPL.ldL rfl hO inferInstance rfl rfl rfl ?_
                    refine WPL.nil ?_
                    refine WPE.fork2 (i := 4) (j := 8) (by kernel_rfl) rfl rfl (.inr hO) ?_ ?_
                    · have hm6 := hxm.mt.mergeX hxm.mt
                      refine WPL.call rfl (bins_MergeAny x.bk x.bk B B (hO.cells ⟨x.bk, bnC B, 68⟩ (by simp)) (hO.cells ⟨x.bk, bnC B, 68⟩ (by simp)) (fun _ => rfl) 4722366482869645213696 (by decide) (hxm.mt.Ok.mono (by decide)) (hxm.mt.Ok.mono (by decide)) ⟨hxm.count, hxm.count⟩) Tryz.func20 rfl rfl rfl ?_
                      rintro _ w ⟨rfl, hfx, hcx⟩
                      have hO := hO.turn1 (b := x.bk) (cs := bnC (B.mergeX B)) inferInstance inferInstance hfx hcx
                      refine WPL.nil ?_
                      refine WPE.effX (i := 8) (by kernel_rfl) rfl (by kernel_rfl) ?_
                      refine WPL.ldL rfl hO inferInstance rfl rfl rfl ?_
                      refine WPL.nil ?_
                      refine WPE.effX (i := 9) (by kernel_rfl) rfl (by kernel_rfl) ?_
                      have hO : Own tabs w0 K ((⟨x.rk, rfC R a c, 87⟩ :: G) ++ (⟨x.bk, bnC (B.mergeX B), 68⟩ :: ⟨b2, [.pointer (some ⟨x.bk, 0, none⟩), .pointer (some ⟨x.rk, 0, none⟩)], 37⟩ :: ⟨b1, [.int .i64 kd, .int .i64 on, .int .i64 wi, .int .i64 n, .float .f64 xb], 32⟩ :: s.rest p p1 p2)) [] w := hO.perm (by classical exact List.perm_iff_count.2 (fun z => by simp only [List.count_append, List.count_cons, List.count_nil]; omega))
                      refine WPL.call rfl (r9_MergeAny x.rk R a c G hxm.grown hxm.cap hO.startO hxm.mt.ok x.rk R a c hxm.mt.ok hxm.cap (.inl ⟨rfl, rfl⟩)) Tryz.func21 rfl rfl rfl ?_
                      rintro _ w ⟨rfl, a6, c6, G6, hG6, hc6, hk6⟩
                      have hO := hO.callO hk6
                      refine WPL.nil ?_
                      refine WPE.pv (i := 10) (by kernel_rfl) rfl rfl (fun w k' h => WPL.ne rfl rfl rfl (WPL.nil h)) ?_
                      refine WPE.nilX (by kernel_rfl) (by kernel_rfl) ?_
                      refine WP.condP rfl (fun h10 => ?_) (fun h10 => ?_)
                      · exact absurd hm6.1 h10
                      · refine WP.skip ?_
                        refine WP.region ?_
                        refine WPL.mv (v := .int .i64 _) rfl rfl ?_
                        refine WPL.addI rfl rfl (by omega) rfl ?_
                        refine WPL.as (v := .int .i64 _) rfl rfl ?_
                        refine WPL.nil ?_
                        have hO : Own tabs w0 K (⟨x.bk, bnC (B.mergeX B), 68⟩ :: ⟨x.rk, rfC (R.mergeX R) a6 c6, 87⟩ :: (G6 ++ (⟨b2, [.pointer (some ⟨x.bk, 0, none⟩), .pointer (some ⟨x.rk, 0, none⟩)], 37⟩ :: ⟨b1, [.int .i64 kd, .int .i64 on, .int .i64 wi, .int .i64 n, .float .f64 xb], 32⟩ :: s.rest p p1 p2))) [] w := hO.perm (by classical exact List.perm_iff_count.2 (fun z => by simp only [List.count_append, List.count_cons, List.count_nil]; omega))
                        exact ⟨m - 1, by omega, i + 1, B.mergeX B, R.mergeX R, a6, c6, G6, by omega, ⟨hG6, hc6, hm6.2⟩, ⟨rfl, rfl, rfl, rfl, trivial⟩, rfl, hO⟩
                    · refine WPL.ldL rfl hO inferInstance rfl rfl rfl ?_
                      refine WPL.nil ?_
                      refine WPE.eff (i := 4) (by kernel_rfl) rfl hO ?_
                      have hm6 := hxm.mt.mergeX hxm.mt
                      refine WPL.call rfl (bins_MergeAny x.bk x.bk B B (hO.cells ⟨x.bk, bnC B, 68⟩ (by simp)) (hO.cells ⟨x.bk, bnC B, 68⟩ (by simp)) (fun _ => rfl) 4722366482869645213696 (by decide) (hxm.mt.Ok.mono (by decide)) (hxm.mt.Ok.mono (by decide)) ⟨hxm.count, hxm.count⟩) Tryz.func20 rfl rfl rfl ?_
                      rintro _ w ⟨rfl, hfx, hcx⟩
                      have hO := hO.turn1 (b := x.bk) (cs := bnC (B.mergeX B)) inferInstance inferInstance hfx hcx
                      refine WPL.nil ?_
                      refine WPE.effX (i := 9) (by kernel_rfl) rfl (by kernel_rfl) ?_
                      have hO : Own tabs w0 K ((⟨x.rk, rfC R a c, 87⟩ :: G) ++ (⟨x.bk, bnC (B.mergeX B), 68⟩ :: ⟨b2, [.pointer (some ⟨x.bk, 0, none⟩), .pointer (some ⟨x.rk, 0, none⟩)], 37⟩ :: ⟨b1, [.int .i64 kd, .int .i64 on, .int .i64 wi, .int .i64 n, .float .f64 xb], 32⟩ :: s.rest p p1 p2)) [] w := hO.perm (by classical exact List.perm_iff_count.2 (fun z => by simp only [List.count_append, List.count_cons, List.count_nil]; omega))
                      refine WPL.call rfl (r9_MergeAny x.rk R a c G hxm.grown hxm.cap hO.startO hxm.mt.ok x.rk R a c hxm.mt.ok hxm.cap (.inl ⟨rfl, rfl⟩)) Tryz.func21 rfl rfl rfl ?_
                      rintro _ w ⟨rfl, a6, c6, G6, hG6, hc6, hk6⟩
                      have hO := hO.callO hk6
                      refine WPL.nil ?_
                      refine WPE.pv (i := 10) (by kernel_rfl) rfl rfl (fun w k' h => WPL.ne rfl rfl rfl (WPL.nil h)) ?_
                      refine WPE.nilX (by kernel_rfl) (by kernel_rfl) ?_
                      refine WP.condP rfl (fun h11 => ?_) (fun h11 => ?_)
                      · exact absurd hm6.1 h11
                      · refine WP.skip ?_
                        refine WP.region ?_
                        refine WPL.mv (v := .int .i64 _) rfl rfl ?_
                        refine WPL.addI rfl rfl (by omega) rfl ?_
                        refine WPL.as (v := .int .i64 _) rfl rfl ?_
                        refine WPL.nil ?_
                        have hO : Own tabs w0 K (⟨x.bk, bnC (B.mergeX B), 68⟩ :: ⟨x.rk, rfC (R.mergeX R) a6 c6, 87⟩ :: (G6 ++ (⟨b2, [.pointer (some ⟨x.bk, 0, none⟩), .pointer (some ⟨x.rk, 0, none⟩)], 37⟩ :: ⟨b1, [.int .i64 kd, .int .i64 on, .int .i64 wi, .int .i64 n, .float .f64 xb], 32⟩ :: s.rest p p1 p2))) [] w := hO.perm (by classical exact List.perm_iff_count.2 (fun z => by simp only [List.count_append, List.count_cons, List.count_nil]; omega))
                        exact ⟨m - 1, by omega, i + 1, B.mergeX B, R.mergeX R, a6, c6, G6, by omega, ⟨hG6, hc6, hm6.2⟩, ⟨rfl, rfl, rfl, rfl, trivial⟩, rfl, hO⟩
                  · refine WPL.ldL rfl hO inferInstance rfl rfl rfl ?_
                    refine WPL.nil ?_
                    refine WPE.fork2 (i := 4) (j := 6) (by kernel_rfl) rfl rfl (.inr hO) ?_ ?_
                    · have hm6 := hxm.mt.mergeX hxm.mt
                      refine WPL.call rfl (bins_MergeAny x.bk x.bk B B (hO.cells ⟨x.bk, bnC B, 68⟩ (by simp)) (hO.cells ⟨x.bk, bnC B, 68⟩ (by simp)) (fun _ => rfl) 4722366482869645213696 (by decide) (hxm.mt.Ok.mono (by decide)) (hxm.mt.Ok.mono (by decide)) ⟨hxm.count, hxm.count⟩) Tryz.func20 rfl rfl rfl ?_
                      rintro _ w ⟨rfl, hfx, hcx⟩
                      have hO := hO.turn1 (b := x.bk) (cs := bnC (B.mergeX B)) inferInstance inferInstance hfx hcx
                      refine WPL.nil ?_
                      refine WPE.effX (i := 6) (by kernel_rfl) rfl (by kernel_rfl) ?_
                      refine WPL.ldL rfl hO inferInstance rfl rfl rfl ?_
                      refine WPL.nil ?_
                      refine WPE.effX (i := 9) (by kernel_rfl) rfl (by kernel_rfl) ?_
                      have hO : Own tabs w0 K ((⟨x.rk, rfC R a c, 87⟩ :: G) ++ (⟨x.bk, bnC (B.mergeX B), 68⟩ :: ⟨b2, [.pointer (some ⟨x.bk, 0, none⟩), .pointer (some ⟨x.rk, 0, none⟩)], 37⟩ :: ⟨b1, [.int .i64 kd, .int .i64 on, .int .i64 wi, .int .i64 n, .float .f64 xb], 32⟩ :: s.rest p p1 p2)) [] w := hO.perm (by classical exact List.perm_iff_count.2 (fun z => by simp only [List.count_append, List.count_cons, List.count_nil]; omega))
                      refine WPL.call rfl (r9_MergeAny x.rk R a c G hxm.grown hxm.cap hO.startO hxm.mt.ok x.rk R a c hxm.mt.ok hxm.cap (.inl ⟨rfl, rfl⟩)) Tryz.func21 rfl rfl rfl ?_
                      rintro _ w ⟨rfl, a6, c6, G6, hG6, hc6, hk6⟩
                      have hO := hO.callO hk6
                      refine WPL.nil ?_
                      refine WPE.pv (i := 10) (by kernel_rfl) rfl rfl (fun w k' h => WPL.ne rfl rfl rfl (WPL.nil h)) ?_
                      refine WPE.nilX (by kernel_rfl) (by kernel_rfl) ?_
                      refine WP.condP rfl (fun h12 => ?_) (fun h12 => ?_)
                      · exact absurd hm6.1 h12
                      · refine WP.skip ?_
                        refine WP.region ?_
                        refine WPL.mv (v := .int .i64 _) rfl rfl ?_
                        refine WPL.addI rfl rfl (by omega) rfl ?_
                        refine WPL.as (v := .int .i64 _) rfl rfl ?_
                        refine WPL.nil ?_
                        have hO : Own tabs w0 K (⟨x.bk, bnC (B.mergeX B), 68⟩ :: ⟨x.rk, rfC (R.mergeX R) a6 c6, 87⟩ :: (G6 ++ (⟨b2, [.pointer (some ⟨x.bk, 0, none⟩), .pointer (some ⟨x.rk, 0, none⟩)], 37⟩ :: ⟨b1, [.int .i64 kd, .int .i64 on, .int .i64 wi, .int .i64 n, .float .f64 xb], 32⟩ :: s.rest p p1 p2))) [] w := hO.perm (by classical exact List.perm_iff_count.2 (fun z => by simp only [List.count_append, List.count_cons, List.count_nil]; omega))
                        exact ⟨m - 1, by omega, i + 1, B.mergeX B, R.mergeX R, a6, c6, G6, by omega, ⟨hG6, hc6, hm6.2⟩, ⟨rfl, rfl, rfl, rfl, trivial⟩, rfl, hO⟩
                    · refine WPL.ldL rfl hO inferInstance rfl rfl rfl ?_
                      refine WPL.nil ?_
                      refine WPE.eff (i := 4) (by kernel_rfl) rfl hO ?_
                      have hm6 := hxm.mt.mergeX hxm.mt
                      refine WPL.call rfl (bins_MergeAny x.bk x.bk B B (hO.cells ⟨x.bk, bnC B, 68⟩ (by simp)) (hO.cells ⟨x.bk, bnC B, 68⟩ (by simp)) (fun _ => rfl) 4722366482869645213696 (by decide) (hxm.mt.Ok.mono (by decide)) (hxm.mt.Ok.mono (by decide)) ⟨hxm.count, hxm.count⟩) Tryz.func20 rfl rfl rfl ?_
                      rintro _ w ⟨rfl, hfx, hcx⟩
                      have hO := hO.turn1 (b := x.bk) (cs := bnC (B.mergeX B)) inferInstance inferInstance hfx hcx
                      refine WPL.nil ?_
                      refine WPE.effX (i := 9) (by kernel_rfl) rfl (by kernel_rfl) ?_
                      have hO : Own tabs w0 K ((⟨x.rk, rfC R a c, 87⟩ :: G) ++ (⟨x.bk, bnC (B.mergeX B), 68⟩ :: ⟨b2, [.pointer (some ⟨x.bk, 0, none⟩), .pointer (some ⟨x.rk, 0, none⟩)], 37⟩ :: ⟨b1, [.int .i64 kd, .int .i64 on, .int .i64 wi, .int .i64 n, .float .f64 xb], 32⟩ :: s.rest p p1 p2)) [] w := hO.perm (by classical exact List.perm_iff_count.2 (fun z => by simp only [List.count_append, List.count_cons, List.count_nil]; omega))
                      refine WPL.call rfl (r9_MergeAny x.rk R a c G hxm.grown hxm.cap hO.startO hxm.mt.ok x.rk R a c hxm.mt.ok hxm.cap (.inl ⟨rfl, rfl⟩)) Tryz.func21 rfl rfl rfl ?_
                      rintro _ w ⟨rfl, a6, c6, G6, hG6, hc6, hk6⟩
                      have hO := hO.callO hk6
                      refine WPL.nil ?_
                      refine WPE.pv (i := 10) (by kernel_rfl) rfl rfl (fun w k' h => WPL.ne rfl rfl rfl (WPL.nil h)) ?_
                      refine WPE.nilX (by kernel_rfl) (by kernel_rfl) ?_
                      refine WP.condP rfl (fun h13 => ?_) (fun h13 => ?_)
                      · exact absurd hm6.1 h13
                      · refine WP.skip ?_
                        refine WP.region ?_
                        refine WPL.mv (v := .int .i64 _) rfl rfl ?_
                        refine WPL.addI rfl rfl (by omega) rfl ?_
                        refine WPL.as (v := .int .i64 _) rfl rfl ?_
                        refine WPL.nil ?_
                        have hO : Own tabs w0 K (⟨x.bk, bnC (B.mergeX B), 68⟩ :: ⟨x.rk, rfC (R.mergeX R) a6 c6, 87⟩ :: (G6 ++ (⟨b2, [.pointer (some ⟨x.bk, 0, none⟩), .pointer (some ⟨x.rk, 0, none⟩)], 37⟩ :: ⟨b1, [.int .i64 kd, .int .i64 on, .int .i64 wi, .int .i64 n, .float .f64 xb], 32⟩ :: s.rest p p1 p2))) [] w := hO.perm (by classical exact List.perm_iff_count.2 (fun z => by simp only [List.count_append, List.count_cons, List.count_nil]; omega))
                        exact ⟨m - 1, by omega, i + 1, B.mergeX B, R.mergeX R, a6, c6, G6, by omega, ⟨hG6, hc6, hm6.2⟩, ⟨rfl, rfl, rfl, rfl, trivial⟩, rfl, hO⟩
                · refine WP.exit ?_
                  refine WP.rs ?_
                  refine WPL.as (v := .bool true) rfl rfl ?_
                  refine WPL.nil ?_
                  refine WP.ret ?_
                  refine ⟨rfl, ?_⟩
                  refine RO.tmp (v := .bool _) rfl ?_
                  refine RO.nil ?_
                  have hm := (show True ∧ Match B R from ⟨trivial, hxm.mt⟩)
                  refine ⟨rfl, s.put p1 p2 ⟨x.bk, B, x.rk, R, a, c, G⟩, (hs.put (y := ⟨x.bk, B, x.rk, R, a, c, G⟩) hsp rfl rfl hxm).mono (Nat.le_succ _), Nat.le_of_eq (St.put_len hsp).symm, ?_⟩
                  have hO : Own tabs w0 K (⟨b2, [.pointer (some ⟨x.bk, 0, none⟩), .pointer (some ⟨x.rk, 0, none⟩)], 37⟩ :: ⟨b1, [.int .i64 kd, .int .i64 on, .int .i64 wi, .int .i64 n, .float .f64 xb], 32⟩ :: (⟨x.bk, bnC (B), 68⟩ :: ⟨x.rk, rfC (R) a c, 87⟩ :: (G ++ s.rest p p1 p2))) [] w := hO.perm (by classical exact List.perm_iff_count.2 (fun z => by simp only [List.count_append, List.count_cons, List.count_nil]; omega))
                  exact (hO.drop1.drop1).perm (St.split (s := s.put p1 p2 ⟨x.bk, B, x.rk, R, a, c, G⟩) rfl).symm
              · have ph6 := of_decide_eq_false h6
                refine WPL.guardF rfl rfl rfl h6 ?_
                refine WPL.guardF rfl rfl rfl h6 ?_
                refine WPL.pkF (v := .bool false) rfl h6 rfl rfl ?_
                refine WPL.nil ?_
                refine WP.cF rfl rfl ?_
                refine WP.exit ?_
                refine WP.rs ?_
                refine WPL.as (v := .bool true) rfl rfl ?_
                refine WPL.nil ?_
                refine WP.ret ?_
                refine ⟨rfl, ?_⟩
                refine RO.tmp (v := .bool _) rfl ?_
                refine RO.nil ?_
                have hm := (show True ∧ Match B R from ⟨trivial, hxm.mt⟩)
                refine ⟨rfl, s.put p1 p2 ⟨x.bk, B, x.rk, R, a, c, G⟩, (hs.put (y := ⟨x.bk, B, x.rk, R, a, c, G⟩) hsp rfl rfl hxm).mono (Nat.le_succ _), Nat.le_of_eq (St.put_len hsp).symm, ?_⟩
                have hO : Own tabs w0 K (⟨b2, [.pointer (some ⟨x.bk, 0, none⟩), .pointer (some ⟨x.rk, 0, none⟩)], 37⟩ :: ⟨b1, [.int .i64 kd, .int .i64 on, .int .i64 wi, .int .i64 n, .float .f64 xb], 32⟩ :: (⟨x.bk, bnC (B), 68⟩ :: ⟨x.rk, rfC (R) a c, 87⟩ :: (G ++ s.rest p p1 p2))) [] w := hO.perm (by classical exact List.perm_iff_count.2 (fun z => by simp only [List.count_append, List.count_cons, List.count_nil]; omega))
                exact (hO.drop1.drop1).perm (St.split (s := s.put p1 p2 ⟨x.bk, B, x.rk, R, a, c, G⟩) rfl).symm
          · omega

theorem law_step_round {w0 : World} (p : Nat) (s : St) (N : Nat) (hs : s.Ok N) (hN : N ≤ 900000) (kd on wi n : Int) (xb : Nat) (hxb : xb < 18446744073709551616) (hon : -9223372036854775808 ≤ on ∧ on ≤ 9223372036854775807) (hwi : -9223372036854775808 ≤ wi ∧ wi ≤ 9223372036854775807) (hpl : 1 ≤ s.pl.length) (hkd : kd = 5) (hL : Own tabs w0 (keys (s.L p)) (s.L p) [] w0) : Spec Tryz.prog 5 [.pointer (some ⟨p, 0, none⟩), .agg #[.int .i64 kd, .int .i64 on, .int .i64 wi, .int .i64 n, .float .f64 xb]] w0 (fun v w' => v = .bool true ∧ ∃ s' : St, s'.Ok (N + 1) ∧ s.pl.length ≤ s'.pl.length ∧ Own tabs w0 (keys (s.L p)) (s'.L p) [] w') := by
  have hO := hL
  obtain ⟨K, hK⟩ : ∃ K, K = (keys (s.L p)) := ⟨_, rfl⟩
  rw [← hK] at hO ⊢
  unfold St.L at hO
  refine Spec.enter (n := 166) (rs := [.tmp 4]) Tryz.func5 rfl rfl rfl rfl ?_
  refine WP.rs ?_
  refine WPL.bx (v := .agg #[.int .i64 _, .int .i64 _, .int .i64 _, .int .i64 _, .float .f64 _]) rfl rfl hO rfl (fun b1 w hO => ?_)
  refine WPL.as (v := .bool false) rfl rfl ?_
  refine WPL.nil ?_
  refine WP.seq ?_
  refine WP.rs ?_
  refine WPL.fa rfl rfl ?_
  refine WPL.ldL rfl hO inferInstance rfl rfl rfl ?_
  refine WPL.eq rfl rfl rfl ?_
  refine WPL.nil ?_
  refine WP.condP rfl (fun h1 => ?_) (fun h1 => ?_)
  · omega
  · refine WP.skip ?_
    refine WP.rs ?_
    refine WPL.mv (v := .pointer _) rfl rfl ?_
    refine WPL.fa rfl rfl ?_
    refine WPL.ldL rfl hO inferInstance rfl rfl rfl ?_
    refine WPL.call rfl (law_at p s.pl s.la s.lc _ _ (hO.rdA (b := p) inferInstance) (hO.rdG hs.gl) ⟨hpl, hs.pn⟩ on hon) Tryz.func18 rfl rfl rfl ?_
    rintro _ w ⟨hf58, k0, x, hx, rfl⟩
    have hO := hO.call hf58
    obtain ⟨p1, p2, hsp⟩ := split_get hx
    have hxo := hs.pok x (by rw [hsp]; simp)
    refine WPL.al hO rfl (fun b2 w hO => ?_)
    refine WPL.stLA (T := T37) rfl rfl hO inferInstance inferInstance (by simp [Value.oneCell']) rfl rfl (fun w hO => ?_)
    refine WPL.nil ?_
    refine WP.seq ?_
    refine WP.rs ?_
    refine WPL.fa rfl rfl ?_
    refine WPL.ldL rfl hO inferInstance rfl rfl rfl ?_
    refine WPL.nil ?_
    refine WP.block ?_
    refine WP.rs ?_
    refine WPL.eq rfl rfl rfl ?_
    refine WPL.as (v := .bool _) rfl rfl ?_
    refine WPL.nil ?_
    refine WP.condP rfl (fun h2 => ?_) (fun h2 => ?_)
    · omega
    · refine WP.rs ?_
      refine WPL.eq rfl rfl rfl ?_
      refine WPL.as (v := .bool _) rfl rfl ?_
      refine WPL.nil ?_
      refine WP.condP rfl (fun h3 => ?_) (fun h3 => ?_)
      · omega
      · refine WP.rs ?_
        refine WPL.eq rfl rfl rfl ?_
        refine WPL.as (v := .bool _) rfl rfl ?_
        refine WPL.nil ?_
        refine WP.condP rfl (fun h4 => ?_) (fun h4 => ?_)
        · omega
        · refine WP.rs ?_
          refine WPL.eq rfl rfl rfl ?_
          refine WPL.as (v := .bool _) rfl rfl ?_
          refine WPL.nil ?_
          refine WP.condP rfl (fun h5 => ?_) (fun h5 => ?_)
          · omega
          · refine WP.rs ?_
            refine WPL.eq rfl rfl rfl ?_
            refine WPL.as (v := .bool _) rfl rfl ?_
            refine WPL.nil ?_
            refine WP.condP rfl (fun h6 => ?_) (fun h6 => ?_)
            · refine WP.rs ?_
              refine WPL.fa rfl rfl ?_
              refine WPL.ldL rfl hO inferInstance rfl rfl rfl ?_
              refine WPL.fa rfl rfl ?_
              refine WPL.ldL rfl hO inferInstance rfl rfl rfl ?_
              simp only [putAt, List.set] at hO
              have hO : Own tabs w0 K (⟨x.bk, bnC x.B, 68⟩ :: ⟨x.rk, rfC x.R x.a x.c, 87⟩ :: (x.G ++ (⟨b2, [.pointer (some ⟨x.bk, 0, none⟩), .pointer (some ⟨x.rk, 0, none⟩)], 37⟩ :: ⟨b1, [.int .i64 kd, .int .i64 on, .int .i64 wi, .int .i64 n, .float .f64 xb], 32⟩ :: s.rest p p1 p2))) [] w := hO.perm ((List.Perm.cons _ (List.Perm.cons _ (St.split hsp))).trans (by classical exact List.perm_iff_count.2 (fun z => by simp only [List.count_append, List.count_cons, List.count_nil]; omega)))
              refine WPL.call rfl (bins_Round hO.tab x.bk (notab hO (b := x.bk) (by simp [keys])) x.B (hO.cells ⟨x.bk, bnC x.B, 68⟩ (by simp)) 4722366482869645213696 (by decide) hxo.mt.Ok n) Tryz.func13 rfl rfl rfl ?_
              rintro _ w ⟨hf144, rfl⟩
              have hO := hO.call hf144
              refine WPL.mv (v := .tuple #[.float .f64 _, .int .i64 _]) rfl rfl ?_
              refine WPL.ext (v := .float .f64 _) rfl rfl rfl ?_
              refine WPL.ext (v := .int .i64 _) rfl rfl rfl ?_
              refine WPL.as (v := .float .f64 _) rfl rfl ?_
              refine WPL.as (v := .int .i64 _) rfl rfl ?_
              refine WPL.nil ?_
              refine WP.rs ?_
              refine WPL.fa rfl rfl ?_
              refine WPL.ldL rfl hO inferInstance rfl rfl rfl ?_
              refine WPL.fa rfl rfl ?_
              refine WPL.ldL rfl hO inferInstance rfl rfl rfl ?_
              refine WPL.call rfl (r9_Round x.rk x.R x.a x.c (hO.rdA (b := x.rk) (cs := rfC x.R x.a x.c) inferInstance) (hO.rdG hxo.grown) hxo.cap hxo.mt.ok n) Tryz.func22 rfl rfl rfl ?_
              rintro _ w ⟨hf152, D, hD, rfl⟩
              obtain rfl := hxo.mt.kept hD
              have hO := hO.call hf152
              refine WPL.mv (v := .tuple #[.float .f64 _, .int .i64 _]) rfl rfl ?_
              refine WPL.ext (v := .float .f64 _) rfl rfl rfl ?_
              refine WPL.ext (v := .int .i64 _) rfl rfl rfl ?_
              refine WPL.as (v := .float .f64 _) rfl rfl ?_
              refine WPL.as (v := .int .i64 _) rfl rfl ?_
              refine WPL.nil ?_
              refine WP.rs ?_
              refine WPL.mv (v := .int .i64 _) rfl rfl ?_
              refine WPL.mv (v := .int .i64 _) rfl rfl ?_
              refine WPL.eq rfl rfl rfl ?_
              refine WPL.mv (v := .bool _) rfl rfl ?_
              refine WPL.split (s := 158) rfl (fun h7 => ?_) (fun h7 => ?_)
              · have ph7 := of_decide_eq_true h7
                refine WPL.guardT rfl rfl h7 ?_
                refine WPL.mv (v := .float .f64 _) rfl rfl ?_
                refine WPL.guardT rfl rfl h7 ?_
                refine WPL.mv (v := .float .f64 _) rfl rfl ?_
                refine WPL.guardT rfl rfl h7 ?_
                refine WPL.call rfl (r3_Alike _ _) Tryz.func23 rfl rfl rfl ?_
                rintro _ _ ⟨rfl, rfl⟩
                rw [decide_eq_true (show rnd64 n x.B.kept = rnd64 n x.B.kept from rfl)]
                refine WPL.pkT (v := .bool _) rfl h7 rfl rfl ?_
                refine WPL.as (v := .bool _) rfl rfl ?_
                refine WPL.nil ?_
                refine WP.ret ?_
                refine ⟨rfl, ?_⟩
                refine RO.tmp (v := .bool _) rfl ?_
                refine RO.nil ?_
                have hO : Own tabs w0 K (⟨b2, [.pointer (some ⟨x.bk, 0, none⟩), .pointer (some ⟨x.rk, 0, none⟩)], 37⟩ :: ⟨b1, [.int .i64 kd, .int .i64 on, .int .i64 wi, .int .i64 n, .float .f64 xb], 32⟩ :: (⟨x.bk, bnC x.B, 68⟩ :: ⟨x.rk, rfC x.R x.a x.c, 87⟩ :: (x.G ++ s.rest p p1 p2))) [] w := hO.perm (by classical exact List.perm_iff_count.2 (fun z => by simp only [List.count_append, List.count_cons, List.count_nil]; omega))
                have hO := hO.drop1.drop1.perm (St.split hsp).symm
                exact ⟨rfl, s, hs.mono (Nat.le_succ _), Nat.le_refl _, hO⟩
              · have ph7 := of_decide_eq_false h7
                exact absurd rfl (of_decide_eq_false h7)
            · omega

theorem St.Ok.wn {s : St} {N : Nat} (h : s.Ok N) : s.want.length ≤ N := by
  have := congrArg List.length h.same
  simp only [List.length_map] at this
  have := h.cn
  omega
theorem St.Ok.ask {s : St} {N : Nat} (hs : s.Ok N) {D : Dy} {a1 a2 ca' wa' : Option Addr} {c1 c2 cc' wc' : Nat} {G1 G2 GC' GW' : List Blk} (h1 : Cm.Ok ⟨D, a1, c1, G1⟩) (h2 : Cm.Ok ⟨D, a2, c2, G2⟩) (hg1 : Grown ca' cc' 3 (dc (s.came ++ [⟨D, a1, c1, G1⟩])) 46 GC') (hg2 : Grown wa' wc' 3 (dc (s.want ++ [⟨D, a2, c2, G2⟩])) 46 GW')
    (hc1 : s.came.length + 1 ≤ cc') (hc2 : s.want.length + 1 ≤ wc') : St.Ok ⟨s.pl, s.came ++ [⟨D, a1, c1, G1⟩], s.want ++ [⟨D, a2, c2, G2⟩], s.la, ca', wa', s.lc, cc', wc', s.GL, GC', GW'⟩ (N + 1) := by
  refine ⟨hs.gl, hs.lcap, hg1, by simpa using hc1, hg2, by simpa using hc2, hs.pok, ?_, ?_, hs.pn, by have := hs.cn; simp; omega, by simp [hs.same]⟩
  · intro z hz
    rcases List.mem_append.1 hz with hz | hz
    · exact hs.cok z hz
    · obtain rfl := List.mem_singleton.1 hz; exact h1
  · intro z hz
    rcases List.mem_append.1 hz with hz | hz
    · exact hs.wok z hz
    · obtain rfl := List.mem_singleton.1 hz; exact h2

theorem law_step_ask {w0 : World} (p : Nat) (s : St) (N : Nat) (hs : s.Ok N) (hN : N ≤ 900000) (kd on wi n : Int) (xb : Nat) (hxb : xb < 18446744073709551616) (hon : -9223372036854775808 ≤ on ∧ on ≤ 9223372036854775807) (hwi : -9223372036854775808 ≤ wi ∧ wi ≤ 9223372036854775807) (hpl : 1 ≤ s.pl.length) (hkd : kd ≠ 1 ∧ kd ≠ 2 ∧ kd ≠ 3 ∧ kd ≠ 4 ∧ kd ≠ 5 ∧ kd ≠ 6) (hL : Own tabs w0 (keys (s.L p)) (s.L p) [] w0) : Spec Tryz.prog 5 [.pointer (some ⟨p, 0, none⟩), .agg #[.int .i64 kd, .int .i64 on, .int .i64 wi, .int .i64 n, .float .f64 xb]] w0 (fun v w' => v = .bool true ∧ ∃ s' : St, s'.Ok (N + 1) ∧ s.pl.length ≤ s'.pl.length ∧ Own tabs w0 (keys (s.L p)) (s'.L p) [] w') := by
  have hO := hL
  obtain ⟨K, hK⟩ : ∃ K, K = (keys (s.L p)) := ⟨_, rfl⟩
  rw [← hK] at hO ⊢
  unfold St.L at hO
  refine Spec.enter (n := 166) (rs := [.tmp 4]) Tryz.func5 rfl rfl rfl rfl ?_
  refine WP.rs ?_
  refine WPL.bx (v := .agg #[.int .i64 _, .int .i64 _, .int .i64 _, .int .i64 _, .float .f64 _]) rfl rfl hO rfl (fun b1 w hO => ?_)
  refine WPL.as (v := .bool false) rfl rfl ?_
  refine WPL.nil ?_
  refine WP.seq ?_
  refine WP.rs ?_
  refine WPL.fa rfl rfl ?_
  refine WPL.ldL rfl hO inferInstance rfl rfl rfl ?_
  refine WPL.eq rfl rfl rfl ?_
  refine WPL.nil ?_
  refine WP.condP rfl (fun h1 => ?_) (fun h1 => ?_)
  · omega
  · refine WP.skip ?_
    refine WP.rs ?_
    refine WPL.mv (v := .pointer _) rfl rfl ?_
    refine WPL.fa rfl rfl ?_
    refine WPL.ldL rfl hO inferInstance rfl rfl rfl ?_
    refine WPL.call rfl (law_at p s.pl s.la s.lc _ _ (hO.rdA (b := p) inferInstance) (hO.rdG hs.gl) ⟨hpl, hs.pn⟩ on hon) Tryz.func18 rfl rfl rfl ?_
    rintro _ w ⟨hf58, k0, x, hx, rfl⟩
    have hO := hO.call hf58
    obtain ⟨p1, p2, hsp⟩ := split_get hx
    have hxo := hs.pok x (by rw [hsp]; simp)
    refine WPL.al hO rfl (fun b2 w hO => ?_)
    refine WPL.stLA (T := T37) rfl rfl hO inferInstance inferInstance (by simp [Value.oneCell']) rfl rfl (fun w hO => ?_)
    refine WPL.nil ?_
    refine WP.seq ?_
    refine WP.rs ?_
    refine WPL.fa rfl rfl ?_
    refine WPL.ldL rfl hO inferInstance rfl rfl rfl ?_
    refine WPL.nil ?_
    refine WP.block ?_
    refine WP.rs ?_
    refine WPL.eq rfl rfl rfl ?_
    refine WPL.as (v := .bool _) rfl rfl ?_
    refine WPL.nil ?_
    refine WP.condP rfl (fun h2 => ?_) (fun h2 => ?_)
    · omega
    · refine WP.rs ?_
      refine WPL.eq rfl rfl rfl ?_
      refine WPL.as (v := .bool _) rfl rfl ?_
      refine WPL.nil ?_
      refine WP.condP rfl (fun h3 => ?_) (fun h3 => ?_)
      · omega
      · refine WP.rs ?_
        refine WPL.eq rfl rfl rfl ?_
        refine WPL.as (v := .bool _) rfl rfl ?_
        refine WPL.nil ?_
        refine WP.condP rfl (fun h4 => ?_) (fun h4 => ?_)
        · omega
        · refine WP.rs ?_
          refine WPL.eq rfl rfl rfl ?_
          refine WPL.as (v := .bool _) rfl rfl ?_
          refine WPL.nil ?_
          refine WP.condP rfl (fun h5 => ?_) (fun h5 => ?_)
          · omega
          · refine WP.rs ?_
            refine WPL.eq rfl rfl rfl ?_
            refine WPL.as (v := .bool _) rfl rfl ?_
            refine WPL.nil ?_
            refine WP.condP rfl (fun h6 => ?_) (fun h6 => ?_)
            · omega
            · refine WP.skip ?_
              refine WP.rs ?_
              refine WPL.mv (v := .pointer _) rfl rfl ?_
              refine WPL.ldLA (T := T37) [.pointer _, .pointer _] rfl hO inferInstance rfl agg37 rfl rfl ?_
              simp only [putAt, List.set] at hO
              have hO : Own tabs w0 K (⟨x.bk, bnC x.B, 68⟩ :: ⟨x.rk, rfC x.R x.a x.c, 87⟩ :: (x.G ++ (⟨b2, [.pointer (some ⟨x.bk, 0, none⟩), .pointer (some ⟨x.rk, 0, none⟩)], 37⟩ :: ⟨b1, [.int .i64 kd, .int .i64 on, .int .i64 wi, .int .i64 n, .float .f64 xb], 32⟩ :: s.rest p p1 p2))) [] w := hO.perm ((List.Perm.cons _ (List.Perm.cons _ (St.split hsp))).trans (by classical exact List.perm_iff_count.2 (fun z => by simp only [List.count_append, List.count_cons, List.count_nil]; omega)))
              have hcn := hs.cn
              have hwn := hs.wn
              have hO : Own tabs w0 K ((⟨p, [.slice s.la (p1.length + 1 + p2.length) s.lc, .slice s.ca s.came.length s.cc, .slice s.wa s.want.length s.wc], 28⟩ :: ⟨x.bk, bnC x.B, 68⟩ :: ⟨x.rk, rfC x.R x.a x.c, 87⟩ :: (x.G ++ (s.GC ++ (s.GW ++ [])))) ++ (⟨b2, [.pointer (some ⟨x.bk, 0, none⟩), .pointer (some ⟨x.rk, 0, none⟩)], 37⟩ :: ⟨b1, [.int .i64 kd, .int .i64 on, .int .i64 wi, .int .i64 n, .float .f64 xb], 32⟩ :: (s.GL ++ (PB p1 ++ (PB p2 ++ (CB s.came ++ (CB s.want ++ []))))))) [] w := hO.perm (by classical exact List.perm_iff_count.2 (fun z => by unfold St.rest; simp only [List.count_append, List.count_cons, List.count_nil]; omega))
              refine WPL.call rfl (law_asked p s.la _ s.lc s.came s.want s.ca s.wa s.cc s.wc s.GC s.GW hs.gc hs.gw hs.ccap hs.wcap (by omega) (by omega) x hxo hO.startT) Tryz.func6 rfl rfl rfl ?_
              rintro _ w ⟨rfl, a1, c1, G1, a2, c2, G2, ca', cc', GC', wa', wc', GW', hm1, hm2, hg1, hg2, hc1, hc2, hk⟩
              have hO := hO.callO hk
              refine WPL.as (v := .bool _) rfl rfl ?_
              refine WPL.nil ?_
              refine WP.ret ?_
              refine ⟨rfl, ?_⟩
              refine RO.tmp (v := .bool _) rfl ?_
              refine RO.nil ?_
              have hO : Own tabs w0 K (⟨b2, [.pointer (some ⟨x.bk, 0, none⟩), .pointer (some ⟨x.rk, 0, none⟩)], 37⟩ :: ⟨b1, [.int .i64 kd, .int .i64 on, .int .i64 wi, .int .i64 n, .float .f64 xb], 32⟩ :: (St.L ⟨s.pl, s.came ++ [⟨x.B.kept, a1, c1, G1⟩], s.want ++ [⟨x.B.kept, a2, c2, G2⟩], s.la, ca', wa', s.lc, cc', wc', s.GL, GC', GW'⟩ p)) [] w := by
                refine hO.perm ?_
                unfold St.L
                simp only
                rw [hsp, show (p1 ++ x :: p2).length = p1.length + 1 + p2.length by simp; omega, show (s.came ++ [(⟨x.B.kept, a1, c1, G1⟩ : Cm)]).length = s.came.length + 1 by simp, show (s.want ++ [(⟨x.B.kept, a2, c2, G2⟩ : Cm)]).length = s.want.length + 1 by simp, PB_append, PB_cons, Pr.blk, CB_append, CB_append, CB_one, CB_one]
                exact (by classical exact List.perm_iff_count.2 (fun z => by simp only [List.count_append, List.count_cons, List.count_nil]; omega))
              exact ⟨rfl, ⟨s.pl, s.came ++ [⟨x.B.kept, a1, c1, G1⟩], s.want ++ [⟨x.B.kept, a2, c2, G2⟩], s.la, ca', wa', s.lc, cc', wc', s.GL, GC', GW'⟩, hs.ask hm1 hm2 hg1 hg2 hc1 hc2, Nat.le_refl _, hO.drop1.drop1⟩

theorem St.Ok.new {s : St} {N : Nat} (hs : s.Ok N) {x : Pr} {a : Option Addr} {c : Nat} {G : List Blk} (hx : x.Ok) (hg : Grown a c 2 (bc (s.pl ++ [x])) 37 G) (hc : s.pl.length + 1 ≤ c) (hn : s.pl.length < 16) : St.Ok ⟨s.pl ++ [x], s.came, s.want, a, s.ca, s.wa, c, s.cc, s.wc, G, s.GC, s.GW⟩ N := by
  refine ⟨hg, by simpa using hc, hs.gc, hs.ccap, hs.gw, hs.wcap, ?_, hs.cok, hs.wok, by simp; omega, hs.cn, hs.same⟩
  intro z hz
  rcases List.mem_append.1 hz with hz | hz
  · exact hs.pok z hz
  · obtain rfl := List.mem_singleton.1 hz; exact hx

theorem law_step_new {w0 : World} (p : Nat) (s : St) (N : Nat) (hs : s.Ok N) (hN : N ≤ 900000) (kd on wi n : Int) (xb : Nat) (hxb : xb < 18446744073709551616) (hon : -9223372036854775808 ≤ on ∧ on ≤ 9223372036854775807) (hwi : -9223372036854775808 ≤ wi ∧ wi ≤ 9223372036854775807) (hkd : kd = 1) (hn : 1 ≤ n ∧ n ≤ 8) (hL : Own tabs w0 (keys (s.L p)) (s.L p) [] w0) : Spec Tryz.prog 5 [.pointer (some ⟨p, 0, none⟩), .agg #[.int .i64 kd, .int .i64 on, .int .i64 wi, .int .i64 n, .float .f64 xb]] w0 (fun v w' => v = .bool true ∧ ∃ s' : St, s'.Ok (N + 1) ∧ s.pl.length ≤ s'.pl.length ∧ (s.pl.length = 0 → 1 ≤ s'.pl.length) ∧ Own tabs w0 (keys (s.L p)) (s'.L p) [] w') := by
  have hO := hL
  obtain ⟨K, hK⟩ : ∃ K, K = (keys (s.L p)) := ⟨_, rfl⟩
  rw [← hK] at hO ⊢
  unfold St.L at hO
  refine Spec.enter (n := 166) (rs := [.tmp 4]) Tryz.func5 rfl rfl rfl rfl ?_
  refine WP.rs ?_
  refine WPL.bx (v := .agg #[.int .i64 _, .int .i64 _, .int .i64 _, .int .i64 _, .float .f64 _]) rfl rfl hO rfl (fun b1 w hO => ?_)
  refine WPL.as (v := .bool false) rfl rfl ?_
  refine WPL.nil ?_
  refine WP.seq ?_
  refine WP.rs ?_
  refine WPL.fa rfl rfl ?_
  refine WPL.ldL rfl hO inferInstance rfl rfl rfl ?_
  refine WPL.eq rfl rfl rfl ?_
  refine WPL.nil ?_
  refine WP.condP rfl (fun h1 => ?_) (fun h1 => ?_)
  · refine WP.rs ?_
    refine WPL.fa rfl rfl ?_
    refine WPL.ldL rfl hO inferInstance rfl rfl rfl ?_
    refine WPL.call rfl (bins_New n) Tryz.func10 rfl rfl rfl ?_
    rintro _ w hpost
    obtain ⟨-, b, rfl, hfb, hnb⟩ := hpost.resolve_left (fun hx => by have := hx.1; omega)
    have hO := hO.takeB hfb hnb
    refine WPL.as (v := .pointer _) rfl rfl ?_
    refine WPL.nil ?_
    refine WP.rs ?_
    refine WPL.fa rfl rfl ?_
    refine WPL.ldL rfl hO inferInstance rfl rfl rfl ?_
    refine WPL.call rfl (r9_New n) Tryz.func17 rfl rfl rfl ?_
    rintro _ w hpost
    obtain ⟨-, r, rfl, hfr, hnr⟩ := hpost.resolve_left (fun hx => by have := hx.1; omega)
    have hO := hO.takeB hfr hnr
    refine WPL.as (v := .pointer _) rfl rfl ?_
    refine WPL.nil ?_
    refine WP.seq ?_
    refine WP.rs ?_
    refine WPL.mv (v := .pointer _) rfl rfl ?_
    refine WPL.neP rfl rfl rfl ?_
    refine WPL.mv (v := .bool _) rfl rfl ?_
    refine WPL.split (s := 26) rfl (fun h2 => ?_) (fun h2 => ?_)
    · refine WPL.guardT rfl rfl h2 ?_
      refine WPL.mv (v := .pointer _) rfl rfl ?_
      refine WPL.guardT rfl rfl h2 ?_
      refine WPL.neP rfl rfl rfl ?_
      refine WPL.pkT (v := .bool _) rfl h2 rfl rfl ?_
      refine WPL.mv (v := .bool _) rfl rfl ?_
      refine WPL.split (s := 30) rfl (fun h3 => ?_) (fun h3 => ?_)
      · refine WPL.guardT rfl rfl h3 ?_
        refine WPL.mv (v := .pointer _) rfl rfl ?_
        refine WPL.guardT rfl rfl h3 ?_
        refine WPL.nc rfl rfl ?_
        refine WPL.guardT rfl rfl h3 ?_
        refine WPL.fa rfl rfl ?_
        refine WPL.guardT rfl rfl h3 ?_
        refine WPL.ldL rfl hO inferInstance rfl rfl rfl ?_
        refine WPL.guardT rfl rfl h3 ?_
        refine WPL.len rfl rfl ?_
        refine WPL.guardT rfl rfl h3 ?_
        refine WPL.lt rfl rfl rfl ?_
        refine WPL.pkT (v := .bool _) rfl h3 rfl rfl ?_
        refine WPL.nil ?_
        refine WP.condP rfl (fun h4 => ?_) (fun h4 => ?_)
        · refine WP.region ?_
          refine WPL.mv (v := .pointer _) rfl rfl ?_
          refine WPL.mv (v := .pointer _) rfl rfl ?_
          refine WPL.nc rfl rfl ?_
          refine WPL.fa rfl rfl ?_
          refine WPL.ldL rfl hO inferInstance rfl rfl rfl ?_
          refine WPL.mv (v := .pointer _) rfl rfl ?_
          refine WPL.mv (v := .pointer _) rfl rfl ?_
          refine WPL.bd (pv := [(0, .pointer _), (1, .pointer _)]) (vs := [_, _]) rfl (bd_of pl37 rfl rfl) rfl ?_
          refine WPL.bs1 (pv := [(0, .agg #[.pointer _, .pointer _])]) (vs := [_, _]) rfl hO rfl rfl rfl rfl (fun b2 w hO => ?_)
          have hO := hO.freeze
          have hsrc : SrcRow w (.slice (some ⟨b2, 0, none⟩) 1 1) 1 2 (bc [⟨b, ⟨n.toNat, 0, false, 0, List.replicate 8 0⟩, r, ⟨n.toNat, [], 0⟩, none, 0, []⟩]) := ⟨_, _, rfl, by simp [bc], hO.rd, bc_one _⟩
          have hpn := hs.pn
          have hO : Own tabs w0 K (s.GL ++ (⟨r, rfC ⟨n.toNat, [], 0⟩ none 0, 87⟩ :: ⟨b, bnC ⟨n.toNat, 0, false, 0, List.replicate 8 0⟩, 68⟩ :: ⟨b1, [.int .i64 kd, .int .i64 on, .int .i64 wi, .int .i64 n, .float .f64 xb], 32⟩ :: ⟨p, [.slice s.la s.pl.length s.lc, .slice s.ca s.came.length s.cc, .slice s.wa s.want.length s.wc], 28⟩ :: (s.GC ++ (s.GW ++ (PB s.pl ++ (CB s.came ++ (CB s.want ++ []))))))) _ w := hO.perm (by classical exact List.perm_iff_count.2 (fun z => by simp only [List.count_append, List.count_cons, List.count_nil]; omega))
          refine WPL.app (ze := [.pointer none, .pointer none]) (vals := bc s.pl) rfl hO hs.gl (by simp [bc_length]) hs.lcap hsrc (by decide) (by omega) (by omega) rfl (fun a47 c47 G47 w hG47 hc47 hO => ?_)
          have hO := hO.dropR
          rw [← bc_append] at hG47
          have hO : Own tabs w0 K (⟨r, rfC ⟨n.toNat, [], 0⟩ none 0, 87⟩ :: ⟨b, bnC ⟨n.toNat, 0, false, 0, List.replicate 8 0⟩, 68⟩ :: ⟨b1, [.int .i64 kd, .int .i64 on, .int .i64 wi, .int .i64 n, .float .f64 xb], 32⟩ :: ⟨p, [.slice s.la s.pl.length s.lc, .slice s.ca s.came.length s.cc, .slice s.wa s.want.length s.wc], 28⟩ :: (G47 ++ (s.GC ++ (s.GW ++ (PB s.pl ++ (CB s.came ++ (CB s.want ++ []))))))) [] w := hO.perm (by classical exact List.perm_iff_count.2 (fun z => by simp only [List.count_append, List.count_cons, List.count_nil]; omega))
          refine WPL.nc rfl rfl ?_
          refine WPL.fa rfl rfl ?_
          refine WPL.stL (v := .slice _ _ _) rfl rfl hO inferInstance inferInstance rfl rfl rfl (fun w hO => ?_)
          refine WPL.nil ?_
          refine WP.rs ?_
          refine WPL.mv (v := .pointer _) rfl rfl ?_
          refine WPL.eqP rfl rfl rfl ?_
          refine WPL.mv (v := .pointer _) rfl rfl ?_
          refine WPL.eqP rfl rfl rfl ?_
          refine WPL.eqB rfl rfl rfl ?_
          refine WPL.as (v := .bool _) rfl rfl ?_
          refine WPL.nil ?_
          refine WP.ret ?_
          refine ⟨rfl, ?_⟩
          refine RO.tmp (v := .bool _) rfl ?_
          refine RO.nil ?_
          first
          | (simp only [List.set] at hO
             have hO9 := (hO.perm (L2 := (⟨b1, [.int .i64 kd, .int .i64 on, .int .i64 wi, .int .i64 n, .float .f64 xb], 32⟩ :: (St.L ⟨s.pl ++ [⟨b, ⟨n.toNat, 0, false, 0, List.replicate 8 0⟩, r, ⟨n.toNat, [], 0⟩, none, 0, []⟩], s.came, s.want, a47, s.ca, s.wa, c47, s.cc, s.wc, G47, s.GC, s.GW⟩ p))) (by
               unfold St.L
               simp only
               rw [show (s.pl ++ [(⟨b, ⟨n.toNat, 0, false, 0, List.replicate 8 0⟩, r, ⟨n.toNat, [], 0⟩, none, 0, []⟩ : Pr)]).length = s.pl.length + 1 by simp, PB_append, show PB [(⟨b, ⟨n.toNat, 0, false, 0, List.replicate 8 0⟩, r, ⟨n.toNat, [], 0⟩, none, 0, []⟩ : Pr)] = [⟨b, bnC ⟨n.toNat, 0, false, 0, List.replicate 8 0⟩, 68⟩, ⟨r, rfC ⟨n.toNat, [], 0⟩ none 0, 87⟩] by simp [PB, Pr.blk]]
               exact (by classical exact List.perm_iff_count.2 (fun z => by simp only [List.count_append, List.count_cons, List.count_nil]; omega)))).drop1
             exact ⟨rfl, ⟨s.pl ++ [⟨b, ⟨n.toNat, 0, false, 0, List.replicate 8 0⟩, r, ⟨n.toNat, [], 0⟩, none, 0, []⟩], s.came, s.want, a47, s.ca, s.wa, c47, s.cc, s.wc, G47, s.GC, s.GW⟩, (hs.new ⟨.inl ⟨rfl, rfl, rfl, rfl⟩, Nat.le_refl _, Match.new (by omega)⟩ hG47 hc47 (by omega)).mono (Nat.le_succ _), by simp, fun _ => by simp, hO9⟩)
          | exact ⟨rfl, s, hs.mono (Nat.le_succ _), Nat.le_refl _, fun h0 => absurd h0 (by omega), hO.drop1.drop1.drop1⟩
        · refine WP.skip ?_
          refine WP.rs ?_
          refine WPL.mv (v := .pointer _) rfl rfl ?_
          refine WPL.eqP rfl rfl rfl ?_
          refine WPL.mv (v := .pointer _) rfl rfl ?_
          refine WPL.eqP rfl rfl rfl ?_
          refine WPL.eqB rfl rfl rfl ?_
          refine WPL.as (v := .bool _) rfl rfl ?_
          refine WPL.nil ?_
          refine WP.ret ?_
          refine ⟨rfl, ?_⟩
          refine RO.tmp (v := .bool _) rfl ?_
          refine RO.nil ?_
          first
          | (simp only [List.set] at hO
             have hO9 := (hO.perm (L2 := (⟨b1, [.int .i64 kd, .int .i64 on, .int .i64 wi, .int .i64 n, .float .f64 xb], 32⟩ :: (St.L ⟨s.pl ++ [⟨b, ⟨n.toNat, 0, false, 0, List.replicate 8 0⟩, r, ⟨n.toNat, [], 0⟩, none, 0, []⟩], s.came, s.want, a47, s.ca, s.wa, c47, s.cc, s.wc, G47, s.GC, s.GW⟩ p))) (by
               unfold St.L
               simp only
               rw [show (s.pl ++ [(⟨b, ⟨n.toNat, 0, false, 0, List.replicate 8 0⟩, r, ⟨n.toNat, [], 0⟩, none, 0, []⟩ : Pr)]).length = s.pl.length + 1 by simp, PB_append, show PB [(⟨b, ⟨n.toNat, 0, false, 0, List.replicate 8 0⟩, r, ⟨n.toNat, [], 0⟩, none, 0, []⟩ : Pr)] = [⟨b, bnC ⟨n.toNat, 0, false, 0, List.replicate 8 0⟩, 68⟩, ⟨r, rfC ⟨n.toNat, [], 0⟩ none 0, 87⟩] by simp [PB, Pr.blk]]
               exact (by classical exact List.perm_iff_count.2 (fun z => by simp only [List.count_append, List.count_cons, List.count_nil]; omega)))).drop1
             exact ⟨rfl, ⟨s.pl ++ [⟨b, ⟨n.toNat, 0, false, 0, List.replicate 8 0⟩, r, ⟨n.toNat, [], 0⟩, none, 0, []⟩], s.came, s.want, a47, s.ca, s.wa, c47, s.cc, s.wc, G47, s.GC, s.GW⟩, (hs.new ⟨.inl ⟨rfl, rfl, rfl, rfl⟩, Nat.le_refl _, Match.new (by omega)⟩ hG47 hc47 (by omega)).mono (Nat.le_succ _), by simp, fun _ => by simp, hO9⟩)
          | exact ⟨rfl, s, hs.mono (Nat.le_succ _), Nat.le_refl _, fun h0 => absurd h0 (by omega), hO.drop1.drop1.drop1⟩
      · cases h3
    · cases h2
  · omega

theorem law_step_none {w0 : World} (p : Nat) (s : St) (N : Nat) (hs : s.Ok N) (hN : N ≤ 900000) (kd on wi n : Int) (xb : Nat) (hxb : xb < 18446744073709551616) (hon : -9223372036854775808 ≤ on ∧ on ≤ 9223372036854775807) (hwi : -9223372036854775808 ≤ wi ∧ wi ≤ 9223372036854775807) (hkd : kd = 1) (hn : ¬ (1 ≤ n ∧ n ≤ 8)) (hL : Own tabs w0 (keys (s.L p)) (s.L p) [] w0) : Spec Tryz.prog 5 [.pointer (some ⟨p, 0, none⟩), .agg #[.int .i64 kd, .int .i64 on, .int .i64 wi, .int .i64 n, .float .f64 xb]] w0 (fun v w' => v = .bool true ∧ ∃ s' : St, s'.Ok (N + 1) ∧ s.pl.length ≤ s'.pl.length ∧ Own tabs w0 (keys (s.L p)) (s'.L p) [] w') := by
  have hO := hL
  obtain ⟨K, hK⟩ : ∃ K, K = (keys (s.L p)) := ⟨_, rfl⟩
  rw [← hK] at hO ⊢
  unfold St.L at hO
  refine Spec.enter (n := 166) (rs := [.tmp 4]) Tryz.func5 rfl rfl rfl rfl ?_
  refine WP.rs ?_
  refine WPL.bx (v := .agg #[.int .i64 _, .int .i64 _, .int .i64 _, .int .i64 _, .float .f64 _]) rfl rfl hO rfl (fun b1 w hO => ?_)
  refine WPL.as (v := .bool false) rfl rfl ?_
  refine WPL.nil ?_
  refine WP.seq ?_
  refine WP.rs ?_
  refine WPL.fa rfl rfl ?_
  refine WPL.ldL rfl hO inferInstance rfl rfl rfl ?_
  refine WPL.eq rfl rfl rfl ?_
  refine WPL.nil ?_
  refine WP.condP rfl (fun h1 => ?_) (fun h1 => ?_)
  · refine WP.rs ?_
    refine WPL.fa rfl rfl ?_
    refine WPL.ldL rfl hO inferInstance rfl rfl rfl ?_
    refine WPL.call rfl (bins_New n) Tryz.func10 rfl rfl rfl ?_
    rintro _ w hpost
    obtain ⟨-, rfl, rfl⟩ := hpost.resolve_right (fun hx => by have := hx.1; omega)
    refine WPL.as (v := .pointer _) rfl rfl ?_
    refine WPL.nil ?_
    refine WP.rs ?_
    refine WPL.fa rfl rfl ?_
    refine WPL.ldL rfl hO inferInstance rfl rfl rfl ?_
    refine WPL.call rfl (r9_New n) Tryz.func17 rfl rfl rfl ?_
    rintro _ w hpost
    obtain ⟨-, rfl, rfl⟩ := hpost.resolve_right (fun hx => by have := hx.1; omega)
    refine WPL.as (v := .pointer _) rfl rfl ?_
    refine WPL.nil ?_
    refine WP.seq ?_
    refine WP.rs ?_
    refine WPL.mv (v := .pointer _) rfl rfl ?_
    refine WPL.neP rfl rfl rfl ?_
    refine WPL.mv (v := .bool _) rfl rfl ?_
    refine WPL.split (s := 26) rfl (fun h2 => ?_) (fun h2 => ?_)
    · cases h2
    · refine WPL.guardF rfl rfl rfl h2 ?_
      refine WPL.guardF rfl rfl rfl h2 ?_
      refine WPL.pkF (v := .bool false) rfl h2 rfl rfl ?_
      refine WPL.mv (v := .bool _) rfl rfl ?_
      refine WPL.guardF rfl rfl rfl rfl ?_
      refine WPL.guardF rfl rfl rfl rfl ?_
      refine WPL.guardF rfl rfl rfl rfl ?_
      refine WPL.guardF rfl rfl rfl rfl ?_
      refine WPL.guardF rfl rfl rfl rfl ?_
      refine WPL.guardF rfl rfl rfl rfl ?_
      refine WPL.pkF (v := .bool false) rfl rfl rfl rfl ?_
      refine WPL.nil ?_
      refine WP.cF rfl rfl ?_
      refine WP.skip ?_
      refine WP.rs ?_
      refine WPL.mv (v := .pointer _) rfl rfl ?_
      refine WPL.eqP rfl rfl rfl ?_
      refine WPL.mv (v := .pointer _) rfl rfl ?_
      refine WPL.eqP rfl rfl rfl ?_
      refine WPL.eqB rfl rfl rfl ?_
      refine WPL.as (v := .bool _) rfl rfl ?_
      refine WPL.nil ?_
      refine WP.ret ?_
      refine ⟨rfl, ?_⟩
      refine RO.tmp (v := .bool _) rfl ?_
      refine RO.nil ?_
      exact ⟨rfl, s, hs.mono (Nat.le_succ _), Nat.le_refl _, hO.drop1⟩
  · omega

theorem law_step {w0 : World} (p : Nat) (s : St) (N : Nat) (hs : s.Ok N) (hN : N ≤ 900000) (kd on wi n : Int) (xb : Nat) (hxb : xb < 18446744073709551616) (hon : -9223372036854775808 ≤ on ∧ on ≤ 9223372036854775807) (hwi : -9223372036854775808 ≤ wi ∧ wi ≤ 9223372036854775807) (hpl : 1 ≤ s.pl.length ∨ kd = 1) (hL : Own tabs w0 (keys (s.L p)) (s.L p) [] w0) : Spec Tryz.prog 5 [.pointer (some ⟨p, 0, none⟩), .agg #[.int .i64 kd, .int .i64 on, .int .i64 wi, .int .i64 n, .float .f64 xb]] w0 (fun v w' => v = .bool true ∧ ∃ s' : St, s'.Ok (N + 1) ∧ s.pl.length ≤ s'.pl.length ∧ Own tabs w0 (keys (s.L p)) (s'.L p) [] w') := by
  by_cases h1 : kd = 1
  · by_cases hn : 1 ≤ n ∧ n ≤ 8
    · refine (law_step_new p s N hs hN kd on wi n xb hxb hon hwi h1 hn hL).mono ?_
      rintro v w' ⟨h, s', a, b, -, d⟩
      exact ⟨h, s', a, b, d⟩
    · exact law_step_none p s N hs hN kd on wi n xb hxb hon hwi h1 hn hL
  have hpl : 1 ≤ s.pl.length := hpl.resolve_right h1
  by_cases h2 : kd = 2
  · exact law_step_add p s N hs hN kd on wi n xb hxb hon hwi hpl h2 hL
  by_cases h3 : kd = 3
  · exact law_step_merge p s N hs hN kd on wi n xb hxb hon hwi hpl h3 hL
  by_cases h4 : kd = 4
  · exact law_step_twice p s N hs hN kd on wi n xb hxb hon hwi hpl h4 hL
  by_cases h5 : kd = 5
  · exact law_step_round p s N hs hN kd on wi n xb hxb hon hwi hpl h5 hL
  by_cases h6 : kd = 6
  · exact law_step_times p s N hs hN kd on wi n xb hxb hon hwi hpl h6 hL
  exact law_step_ask p s N hs hN kd on wi n xb hxb hon hwi hpl ⟨h1, h2, h3, h4, h5, h6⟩ hL
end Go.Sw
