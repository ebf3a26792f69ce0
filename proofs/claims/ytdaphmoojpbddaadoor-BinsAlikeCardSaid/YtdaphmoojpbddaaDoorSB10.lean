/- A part of the proof that BinsAlike answers true: steps of the walk, or plain laws that it needs. No conditions of its own. -/
import Derived.Test.YtdaphmoojpbddaaDoorSB8
import Derived.Test.YtdaphmoojpbddaaDoorSB9
set_option linter.all false
/-! The chapter's first example. -/
namespace Go.Sw
set_option autoImplicit false
set_option linter.all false
def aw0 : Bn := ⟨1, 0, false, 0, List.replicate 8 0⟩
def aw3 : Bn := ⟨1, 3, true, 1, [1, 0, 0, 0, 0, 0, 0, 0]⟩
theorem aw_add1 : aw0.addE 4607182418800017408 = 0 := by kernel_rfl
theorem aw_add2 : (aw0.addF 4607182418800017408).addE 4458563631096791040 = 0 := by kernel_rfl
theorem aw_add3 : ((aw0.addF 4607182418800017408).addF 4458563631096791040).addE 4751297606876921856 = 0 := by kernel_rfl
theorem aw_state : ((aw0.addF 4607182418800017408).addF 4458563631096791040).addF 4751297606876921856 = aw3 := by kernel_rfl
theorem tz_odd0 {n : Nat} (h : n % 2 = 1) : tz n = 0 := by
  have := tz_unique (k := 0) h
  simpa using this
theorem fm_odd {s : Bool} {m : Nat} {e : Int} (h : m % 2 = 1) : Dy.fm s m e = ⟨s, m, e⟩ := by
  rw [Dy.fm_pos (by intro e0; rw [e0] at h; simp at h), tz_odd0 h]; simp
theorem aw_kept : aw3.kept = ⟨false, 1, 32⟩ := by
  show Dy.add ⟨false, 0, 0⟩ (aw3.partD 0) = _
  rw [Dy.add, if_pos rfl]
  show Dy.fm (decide ((1 : Int) < 0)) (1 : Int).natAbs (32 * ((1 : Int) - ((0 : Nat) : Int))) = _
  rw [fm_odd (by decide)]; rfl
theorem blen_three : blen 3 = 2 := blen_unique (by decide) (.inr (by decide))
theorem aw_round : rnd64 0 ⟨false, 1, 32⟩ = 4751297606875873280 := by
  rw [rnd64, if_neg (by decide), round64]
  simp only [Bool.false_eq_true, if_false]
  have hg : gexp 53 (-1074) ⟨false, 1, 32⟩ = -20 := by unfold gexp; simp only [blen_one]; decide
  rw [roundN, if_neg (by decide), if_neg (by simp only [blen_one]; decide), hg, gnum_F (fun h => by rw [hg] at h; simp at h), hg]
  decide
theorem aw_bound : round64 2 (Dy.fm false aw3.count (32 * (aw3.top - aw3.fold + 1))) = 4758053006316929024 := by
  show round64 2 (Dy.fm false 3 32) = _
  rw [fm_odd (by decide), round64]
  simp only [Bool.false_eq_true, if_false]
  have hg : gexp 53 (-1074) ⟨false, 3, 32⟩ = -19 := by unfold gexp; simp only [blen_three]; decide
  rw [roundN, if_neg (by decide), if_neg (by simp only [blen_three]; decide), hg, gnum_F (fun h => by rw [hg] at h; simp at h), hg]
  decide
theorem aw_ok : aw3.Ok 4722366482869645213696 100 := by
  refine ⟨rfl, by decide, ?_, by decide⟩
  intro K hK
  simp only [aw3, List.mem_cons, List.not_mem_nil, or_false] at hK
  omega
theorem Bn.Ok.mono {B : Bn} {q t t' : Int} (h : B.Ok q t) (ht : t ≤ t') : B.Ok q t' := ⟨h.len, h.fold, h.le, by have := h.top; omega⟩
theorem aw_m0 : Match aw0 ⟨1, [], 0⟩ := Match.new (by decide)
theorem aw_m1 : Match (aw0.addF 4607182418800017408) (Rf.addF ⟨1, [], 0⟩ 4607182418800017408) := (aw_m0.add (by decide)).2
theorem aw_m2 : Match ((aw0.addF 4607182418800017408).addF 4458563631096791040) ((Rf.addF ⟨1, [], 0⟩ 4607182418800017408).addF 4458563631096791040) := (aw_m1.add (by decide)).2
end Go.Sw
