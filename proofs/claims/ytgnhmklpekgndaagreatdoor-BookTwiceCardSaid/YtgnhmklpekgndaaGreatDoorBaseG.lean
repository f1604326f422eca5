/-
  HELPING TEXT, shared by the claims on the book. Own work (AI agent).
-/
import Derived.Test.YtgnhmklpekgndaaGreatDoorBaseF
import Derived.Laws.Externs
set_option linter.all false
/- part BkApply -/
section
namespace Go.Proofs
open Go.Av Go.Pu
theorem set_self {α : Type} [Inhabited α] {l : List α} {i : Nat} (h : i < l.length) : l.set i (l.getD i default) = l := by
  rw [getD_lt h, List.set_getElem_self]
theorem gradeE_fail {e : Ev} {y : En} (h : (gradeE e y).1 ≠ 0) : (gradeE e y).2 = y := by
  unfold gradeE at h ⊢
  split
  · rfl
  · rename_i h1
    rw [if_neg h1] at h
    split
    · rfl
    · rename_i h2
      rw [if_neg h2] at h
      exact absurd rfl h
theorem appealE_fail {e : Ev} {y : En} (h : (appealE e y).1 ≠ 0) : (appealE e y).2 = y := by
  unfold appealE at h ⊢
  split
  · rfl
  · rename_i h1
    rw [if_neg h1] at h
    split
    · rfl
    · rename_i h2
      rw [if_neg h2] at h
      exact absurd rfl h
theorem decideE_fail {e : Ev} {y : En} (h : (decideE e y).1 ≠ 0) : (decideE e y).2 = y := by
  unfold decideE at h ⊢
  split
  · rename_i h1
    rw [if_pos h1] at h
    exact absurd rfl h
  · rfl
@[reducible] def XN : Nat := 900001
def ρ3 (q : Nat) : Nat := bif Nat.beq q PB then QN else bif Nat.beq q XN then PB else q
theorem apply_grade (t : Int) (l : List En) (e : Ev) (hk : e.kind = 1) (hs : SmV l) :
    SpecR Tryz.prog 45 [.loc PB 0, .agg (evA e)] [(PB, .blk 76 [.int .i64 t, .ref QN]), (QN, enR l)] (.int .i64 (applyB ⟨t, l⟩ e).1) [(PB, .blk 76 [.int .i64 (applyB ⟨t, l⟩ e).2.tick, .ref QN]), (QN, enR (applyB ⟨t, l⟩ e).2.ens)] := by
  have hb := hs.b
  obtain ⟨kind, key, tick, ver, hun, text, acc⟩ := e
  dsimp only at hk
  subst hk
  refine specR ok45 fun C _ => ?_
  refine wpS_seq ?_; refine wpS_reg ?_; (repeat (refine run_step rfl (by ((repeat' (first | exact allP_nil | refine allP_cons ?_ ?_ | intro _)) <;> first | assumption | omega | (simp only [cond_true, cond_false, bif_and, bif_or, decide_eq_true_eq, decide_eq_false_iff_not, Bool.and_eq_true, Bool.or_eq_true, Bool.not_eq_true', Bool.not_eq_false'] at *; omega) | (intros; first | rfl | assumption | omega | simp_all; done))) ?_)); refine run_nil ?_
  refine wpS_seq ?_; refine wpS_reg ?_; (repeat (refine run_step rfl (by ((repeat' (first | exact allP_nil | refine allP_cons ?_ ?_ | intro _)) <;> first | assumption | omega | (simp only [cond_true, cond_false, bif_and, bif_or, decide_eq_true_eq, decide_eq_false_iff_not, Bool.and_eq_true, Bool.or_eq_true, Bool.not_eq_true', Bool.not_eq_false'] at *; omega) | (intros; first | rfl | assumption | omega | simp_all; done))) ?_)); refine run_nil ?_
  (repeat (first | refine wpS_seq ?_ | refine wpS_reg ?_ | refine run_step rfl (by ((repeat' (first | exact allP_nil | refine allP_cons ?_ ?_ | intro _)) <;> first | assumption | omega | (simp only [cond_true, cond_false, bif_and, bif_or, decide_eq_true_eq, decide_eq_false_iff_not, Bool.and_eq_true, Bool.or_eq_true, Bool.not_eq_true', Bool.not_eq_false'] at *; omega) | (intros; first | rfl | assumption | omega | simp_all; done))) ?_ | refine run_nil ?_ | refine wpS_block ?_ | refine wpS_skip ?_ | refine wpS_exit ?_ | refine wpS_ret ?_))
  refine wpS_D (by kernel_rfl) ?_
  (repeat (refine trg_step rfl (by ((repeat' (first | exact allP_nil | refine allP_cons ?_ ?_ | intro _)) <;> first | assumption | omega | (simp only [cond_true, cond_false, bif_and, bif_or, decide_eq_true_eq, decide_eq_false_iff_not, Bool.and_eq_true, Bool.or_eq_true, Bool.not_eq_true', Bool.not_eq_false'] at *; omega) | (intros; first | rfl | assumption | omega | simp_all; done))) ?_))
  refine trg_c ((has_spec ⟨t, l⟩ ⟨1, key, tick, ver, hun, text, acc⟩ hs)) rfl (by ((repeat' (first | exact allP_nil | refine allP_cons ?_ ?_ | intro _)) <;> first | assumption | omega | (simp only [cond_true, cond_false, bif_and, bif_or, decide_eq_true_eq, decide_eq_false_iff_not, Bool.and_eq_true, Bool.or_eq_true, Bool.not_eq_true', Bool.not_eq_false'] at *; omega) | (intros; first | rfl | assumption | omega | simp_all; done))) rfl rfl (.inl rfl) ?_
  (repeat (refine trg_step rfl (by ((repeat' (first | exact allP_nil | refine allP_cons ?_ ?_ | intro _)) <;> first | assumption | omega | (simp only [cond_true, cond_false, bif_and, bif_or, decide_eq_true_eq, decide_eq_false_iff_not, Bool.and_eq_true, Bool.or_eq_true, Bool.not_eq_true', Bool.not_eq_false'] at *; omega) | (intros; first | rfl | assumption | omega | simp_all; done))) ?_))
  refine trg_nil ⟨rfl, ?_⟩
  refine wpS_cond rfl (by ((repeat' (first | exact allP_nil | refine allP_cons ?_ ?_ | intro _)) <;> first | assumption | omega | (simp only [cond_true, cond_false, bif_and, bif_or, decide_eq_true_eq, decide_eq_false_iff_not, Bool.and_eq_true, Bool.or_eq_true, Bool.not_eq_true', Bool.not_eq_false'] at *; omega) | (intros; first | rfl | assumption | omega | simp_all; done))) (fun h => ?_) (fun h => ?_)
  · have hA : applyB ⟨t, l⟩ ⟨1, key, tick, ver, hun, text, acc⟩ = (6, ⟨t, l⟩) := by unfold applyB; rw [if_pos h]
    rw [hA]
    (repeat (first | refine wpS_seq ?_ | refine wpS_reg ?_ | refine run_step rfl (by ((repeat' (first | exact allP_nil | refine allP_cons ?_ ?_ | intro _)) <;> first | assumption | omega | (simp only [cond_true, cond_false, bif_and, bif_or, decide_eq_true_eq, decide_eq_false_iff_not, Bool.and_eq_true, Bool.or_eq_true, Bool.not_eq_true', Bool.not_eq_false'] at *; omega) | (intros; first | rfl | assumption | omega | simp_all; done))) ?_ | refine run_nil ?_ | refine wpS_block ?_ | refine wpS_skip ?_ | refine wpS_exit ?_ | refine wpS_ret ?_))
    refine fin_mkR rfl ?_ ?_ <;> (repeat' (first | exact allP_nil | refine allP_cons ?_ ?_))
    all_goals first | rfl | exact ⟨rfl, rfl, .inl rfl, fun _ _ => rfl⟩
  have hh : ¬ hasB l ⟨1, key, tick, ver, hun, text, acc⟩ = true := by rw [show hasB l ⟨1, key, tick, ver, hun, text, acc⟩ = false from h]; simp
  clear h
  (repeat (first | refine wpS_seq ?_ | refine wpS_reg ?_ | refine run_step rfl (by ((repeat' (first | exact allP_nil | refine allP_cons ?_ ?_ | intro _)) <;> first | assumption | omega | (simp only [cond_true, cond_false, bif_and, bif_or, decide_eq_true_eq, decide_eq_false_iff_not, Bool.and_eq_true, Bool.or_eq_true, Bool.not_eq_true', Bool.not_eq_false'] at *; omega) | (intros; first | rfl | assumption | omega | simp_all; done))) ?_ | refine run_nil ?_ | refine wpS_block ?_ | refine wpS_skip ?_ | refine wpS_exit ?_ | refine wpS_ret ?_))
  refine wpS_D (by kernel_rfl) ?_; (repeat (refine trg_step rfl (by ((repeat' (first | exact allP_nil | refine allP_cons ?_ ?_ | intro _)) <;> first | assumption | omega | (simp only [cond_true, cond_false, bif_and, bif_or, decide_eq_true_eq, decide_eq_false_iff_not, Bool.and_eq_true, Bool.or_eq_true, Bool.not_eq_true', Bool.not_eq_false'] at *; omega) | (intros; first | rfl | assumption | omega | simp_all; done))) ?_)); refine trg_nil ⟨rfl, ?_⟩
  refine wpS_cond rfl (by ((repeat' (first | exact allP_nil | refine allP_cons ?_ ?_ | intro _)) <;> first | assumption | omega | (simp only [cond_true, cond_false, bif_and, bif_or, decide_eq_true_eq, decide_eq_false_iff_not, Bool.and_eq_true, Bool.or_eq_true, Bool.not_eq_true', Bool.not_eq_false'] at *; omega) | (intros; first | rfl | assumption | omega | simp_all; done))) (fun h => ?_) (fun h => ?_)
  · have ht : tick < t := by simpa using h
    have hA : applyB ⟨t, l⟩ ⟨1, key, tick, ver, hun, text, acc⟩ = (2, ⟨t, l⟩) := by unfold applyB; rw [if_neg hh, if_pos ht]
    rw [hA]
    (repeat (first | refine wpS_seq ?_ | refine wpS_reg ?_ | refine run_step rfl (by ((repeat' (first | exact allP_nil | refine allP_cons ?_ ?_ | intro _)) <;> first | assumption | omega | (simp only [cond_true, cond_false, bif_and, bif_or, decide_eq_true_eq, decide_eq_false_iff_not, Bool.and_eq_true, Bool.or_eq_true, Bool.not_eq_true', Bool.not_eq_false'] at *; omega) | (intros; first | rfl | assumption | omega | simp_all; done))) ?_ | refine run_nil ?_ | refine wpS_block ?_ | refine wpS_skip ?_ | refine wpS_exit ?_ | refine wpS_ret ?_))
    refine fin_mkR rfl ?_ ?_ <;> (repeat' (first | exact allP_nil | refine allP_cons ?_ ?_))
    all_goals first | rfl | exact ⟨rfl, rfl, .inl rfl, fun _ _ => rfl⟩
  have ht : ¬ tick < t := by simpa using h
  clear h
  (repeat (first | refine wpS_seq ?_ | refine wpS_reg ?_ | refine run_step rfl (by ((repeat' (first | exact allP_nil | refine allP_cons ?_ ?_ | intro _)) <;> first | assumption | omega | (simp only [cond_true, cond_false, bif_and, bif_or, decide_eq_true_eq, decide_eq_false_iff_not, Bool.and_eq_true, Bool.or_eq_true, Bool.not_eq_true', Bool.not_eq_false'] at *; omega) | (intros; first | rfl | assumption | omega | simp_all; done))) ?_ | refine run_nil ?_ | refine wpS_block ?_ | refine wpS_skip ?_ | refine wpS_exit ?_ | refine wpS_ret ?_))
  refine wpS_D (by kernel_rfl) ?_
  (repeat (refine trg_step rfl (by ((repeat' (first | exact allP_nil | refine allP_cons ?_ ?_ | intro _)) <;> first | assumption | omega | (simp only [cond_true, cond_false, bif_and, bif_or, decide_eq_true_eq, decide_eq_false_iff_not, Bool.and_eq_true, Bool.or_eq_true, Bool.not_eq_true', Bool.not_eq_false'] at *; omega) | (intros; first | rfl | assumption | omega | simp_all; done))) ?_))
  refine trg_c ((find_spec ⟨t, l⟩ key hb.l)) rfl (by ((repeat' (first | exact allP_nil | refine allP_cons ?_ ?_ | intro _)) <;> first | assumption | omega | (simp only [cond_true, cond_false, bif_and, bif_or, decide_eq_true_eq, decide_eq_false_iff_not, Bool.and_eq_true, Bool.or_eq_true, Bool.not_eq_true', Bool.not_eq_false'] at *; omega) | (intros; first | rfl | assumption | omega | simp_all; done))) rfl rfl (.inl rfl) ?_
  (repeat (refine trg_step rfl (by ((repeat' (first | exact allP_nil | refine allP_cons ?_ ?_ | intro _)) <;> first | assumption | omega | (simp only [cond_true, cond_false, bif_and, bif_or, decide_eq_true_eq, decide_eq_false_iff_not, Bool.and_eq_true, Bool.or_eq_true, Bool.not_eq_true', Bool.not_eq_false'] at *; omega) | (intros; first | rfl | assumption | omega | simp_all; done))) ?_))
  refine trg_nil ⟨rfl, ?_⟩
  rw [findI_eq]
  cases hf : findK (Bk.ens ⟨t, l⟩) key with
  | none =>
    have hA : applyB ⟨t, l⟩ ⟨1, key, tick, ver, hun, text, acc⟩ = (7, ⟨t, l⟩) := by
      unfold applyB
      rw [if_neg hh, if_neg ht, if_neg (by simp)]
      dsimp only at hf ⊢
      rw [hf]
    rw [hA]
    (repeat (first | refine wpS_seq ?_ | refine wpS_reg ?_ | refine run_step rfl (by ((repeat' (first | exact allP_nil | refine allP_cons ?_ ?_ | intro _)) <;> first | assumption | omega | (simp only [cond_true, cond_false, bif_and, bif_or, decide_eq_true_eq, decide_eq_false_iff_not, Bool.and_eq_true, Bool.or_eq_true, Bool.not_eq_true', Bool.not_eq_false'] at *; omega) | (intros; first | rfl | assumption | omega | simp_all; done))) ?_ | refine run_nil ?_ | refine wpS_block ?_ | refine wpS_skip ?_ | refine wpS_exit ?_ | refine wpS_ret ?_))
    refine wpS_condF rfl (by ((repeat' (first | exact allP_nil | refine allP_cons ?_ ?_ | intro _)) <;> first | assumption | omega | (simp only [cond_true, cond_false, bif_and, bif_or, decide_eq_true_eq, decide_eq_false_iff_not, Bool.and_eq_true, Bool.or_eq_true, Bool.not_eq_true', Bool.not_eq_false'] at *; omega) | (intros; first | rfl | assumption | omega | simp_all; done))) ?_
    (repeat (first | refine wpS_seq ?_ | refine wpS_reg ?_ | refine run_step rfl (by ((repeat' (first | exact allP_nil | refine allP_cons ?_ ?_ | intro _)) <;> first | assumption | omega | (simp only [cond_true, cond_false, bif_and, bif_or, decide_eq_true_eq, decide_eq_false_iff_not, Bool.and_eq_true, Bool.or_eq_true, Bool.not_eq_true', Bool.not_eq_false'] at *; omega) | (intros; first | rfl | assumption | omega | simp_all; done))) ?_ | refine run_nil ?_ | refine wpS_block ?_ | refine wpS_skip ?_ | refine wpS_exit ?_ | refine wpS_ret ?_))
    refine wpS_condT rfl (by ((repeat' (first | exact allP_nil | refine allP_cons ?_ ?_ | intro _)) <;> first | assumption | omega | (simp only [cond_true, cond_false, bif_and, bif_or, decide_eq_true_eq, decide_eq_false_iff_not, Bool.and_eq_true, Bool.or_eq_true, Bool.not_eq_true', Bool.not_eq_false'] at *; omega) | (intros; first | rfl | assumption | omega | simp_all; done))) ?_
    (repeat (first | refine wpS_seq ?_ | refine wpS_reg ?_ | refine run_step rfl (by ((repeat' (first | exact allP_nil | refine allP_cons ?_ ?_ | intro _)) <;> first | assumption | omega | (simp only [cond_true, cond_false, bif_and, bif_or, decide_eq_true_eq, decide_eq_false_iff_not, Bool.and_eq_true, Bool.or_eq_true, Bool.not_eq_true', Bool.not_eq_false'] at *; omega) | (intros; first | rfl | assumption | omega | simp_all; done))) ?_ | refine run_nil ?_ | refine wpS_block ?_ | refine wpS_skip ?_ | refine wpS_exit ?_ | refine wpS_ret ?_))
    refine fin_mkR rfl ?_ ?_ <;> (repeat' (first | exact allP_nil | refine allP_cons ?_ ?_))
    all_goals first | rfl | exact ⟨rfl, rfl, .inl rfl, fun _ _ => rfl⟩
  | some i =>
    dsimp only at hf ⊢
    obtain ⟨hi, hik, _⟩ := findK_some hf
    have hsy := hb.2 _ (getD_mem hi)
    (repeat (first | refine wpS_seq ?_ | refine wpS_reg ?_ | refine run_step rfl (by ((repeat' (first | exact allP_nil | refine allP_cons ?_ ?_ | intro _)) <;> first | assumption | omega | (simp only [cond_true, cond_false, bif_and, bif_or, decide_eq_true_eq, decide_eq_false_iff_not, Bool.and_eq_true, Bool.or_eq_true, Bool.not_eq_true', Bool.not_eq_false'] at *; omega) | (intros; first | rfl | assumption | omega | simp_all; done))) ?_ | refine run_nil ?_ | refine wpS_block ?_ | refine wpS_skip ?_ | refine wpS_exit ?_ | refine wpS_ret ?_))
    refine wpS_cond rfl (by ((repeat' (first | exact allP_nil | refine allP_cons ?_ ?_ | intro _)) <;> first | assumption | omega | (simp only [cond_true, cond_false, bif_and, bif_or, decide_eq_true_eq, decide_eq_false_iff_not, Bool.and_eq_true, Bool.or_eq_true, Bool.not_eq_true', Bool.not_eq_false'] at *; omega) | (intros; first | rfl | assumption | omega | simp_all; done))) (fun h => ?_) (fun h => ?_)
    · clear h
      (repeat (first | refine wpS_seq ?_ | refine wpS_reg ?_ | refine run_step rfl (by ((repeat' (first | exact allP_nil | refine allP_cons ?_ ?_ | intro _)) <;> first | assumption | omega | (simp only [cond_true, cond_false, bif_and, bif_or, decide_eq_true_eq, decide_eq_false_iff_not, Bool.and_eq_true, Bool.or_eq_true, Bool.not_eq_true', Bool.not_eq_false'] at *; omega) | (intros; first | rfl | assumption | omega | simp_all; done))) ?_ | refine run_nil ?_ | refine wpS_block ?_ | refine wpS_skip ?_ | refine wpS_exit ?_ | refine wpS_ret ?_))
      refine wpS_D (by kernel_rfl) ?_
      (repeat (refine trg_step rfl (by ((repeat' (first | exact allP_nil | refine allP_cons ?_ ?_ | intro _)) <;> first | assumption | omega | (simp only [cond_true, cond_false, bif_and, bif_or, decide_eq_true_eq, decide_eq_false_iff_not, Bool.and_eq_true, Bool.or_eq_true, Bool.not_eq_true', Bool.not_eq_false'] at *; omega) | (intros; first | rfl | assumption | omega | simp_all; done))) ?_))
      refine trg_cR (env := keepE _ [0, 3, 48, 49, 50, 51]) ρ3 [PB] (ent_keep [0, 3, 48, 49, 50, 51] [PB, QN, 3]) (specR_leA (args' := [.loc XN 0, .agg (evA ⟨1, key, tick, ver, hun, text, acc⟩), .locE PB 7 i 0]) (grade_spec l i ⟨1, key, tick, ver, hun, text, acc⟩ hi hsy) ⟨rfl, rfl, rfl, rfl, rfl, rfl, rfl, rfl, rfl, ⟨rfl, rfl⟩, trivial⟩) rfl rfl ⟨rfl, trivial⟩ rfl ?_
      (repeat (refine trg_step rfl (by ((repeat' (first | exact allP_nil | refine allP_cons ?_ ?_ | intro _)) <;> first | assumption | omega | (simp only [cond_true, cond_false, bif_and, bif_or, decide_eq_true_eq, decide_eq_false_iff_not, Bool.and_eq_true, Bool.or_eq_true, Bool.not_eq_true', Bool.not_eq_false'] at *; omega) | (intros; first | rfl | assumption | omega | simp_all; done))) ?_))
      refine trg_nil ⟨rfl, ?_⟩
      have hA : applyB ⟨t, l⟩ ⟨1, key, tick, ver, hun, text, acc⟩ = if (gradeE ⟨1, key, tick, ver, hun, text, acc⟩ (l.getD i default)).1 = 0 then (0, ⟨tick, l.set i (gradeE ⟨1, key, tick, ver, hun, text, acc⟩ (l.getD i default)).2⟩) else ((gradeE ⟨1, key, tick, ver, hun, text, acc⟩ (l.getD i default)).1, ⟨t, l⟩) := by
        unfold applyB
        rw [if_neg hh, if_neg ht, if_neg (by simp)]
        dsimp only
        rw [hf]
        rfl
      have hfail := gradeE_fail (e := ⟨1, key, tick, ver, hun, text, acc⟩) (y := l.getD i default)
      rw [hA]
      generalize hR : gradeE ⟨1, key, tick, ver, hun, text, acc⟩ (l.getD i default) = R at hfail ⊢
      obtain ⟨code, y'⟩ := R
      dsimp only at hfail ⊢
      (repeat (first | refine wpS_seq ?_ | refine wpS_reg ?_ | refine run_step rfl (by ((repeat' (first | exact allP_nil | refine allP_cons ?_ ?_ | intro _)) <;> first | assumption | omega | (simp only [cond_true, cond_false, bif_and, bif_or, decide_eq_true_eq, decide_eq_false_iff_not, Bool.and_eq_true, Bool.or_eq_true, Bool.not_eq_true', Bool.not_eq_false'] at *; omega) | (intros; first | rfl | assumption | omega | simp_all; done))) ?_ | refine run_nil ?_ | refine wpS_block ?_ | refine wpS_skip ?_ | refine wpS_exit ?_ | refine wpS_ret ?_))
      refine wpS_cond rfl (by ((repeat' (first | exact allP_nil | refine allP_cons ?_ ?_ | intro _)) <;> first | assumption | omega | (simp only [cond_true, cond_false, bif_and, bif_or, decide_eq_true_eq, decide_eq_false_iff_not, Bool.and_eq_true, Bool.or_eq_true, Bool.not_eq_true', Bool.not_eq_false'] at *; omega) | (intros; first | rfl | assumption | omega | simp_all; done))) (fun h => ?_) (fun h => ?_)
      · have hc : code ≠ 0 := by simpa using h
        have hy' := hfail hc
        rw [if_neg hc]
        (repeat (first | refine wpS_seq ?_ | refine wpS_reg ?_ | refine run_step rfl (by ((repeat' (first | exact allP_nil | refine allP_cons ?_ ?_ | intro _)) <;> first | assumption | omega | (simp only [cond_true, cond_false, bif_and, bif_or, decide_eq_true_eq, decide_eq_false_iff_not, Bool.and_eq_true, Bool.or_eq_true, Bool.not_eq_true', Bool.not_eq_false'] at *; omega) | (intros; first | rfl | assumption | omega | simp_all; done))) ?_ | refine run_nil ?_ | refine wpS_block ?_ | refine wpS_skip ?_ | refine wpS_exit ?_ | refine wpS_ret ?_))
        refine fin_mkR rfl ?_ ?_ <;> (repeat' (first | exact allP_nil | refine allP_cons ?_ ?_))
        all_goals first | rfl | (refine ⟨by simp, rfl, .inl rfl, fun _ _ => ?_⟩; rw [hy', set_self hi])
      · have hc : code = 0 := by simpa using h
        rw [if_pos hc]
        (repeat (first | refine wpS_seq ?_ | refine wpS_reg ?_ | refine run_step rfl (by ((repeat' (first | exact allP_nil | refine allP_cons ?_ ?_ | intro _)) <;> first | assumption | omega | (simp only [cond_true, cond_false, bif_and, bif_or, decide_eq_true_eq, decide_eq_false_iff_not, Bool.and_eq_true, Bool.or_eq_true, Bool.not_eq_true', Bool.not_eq_false'] at *; omega) | (intros; first | rfl | assumption | omega | simp_all; done))) ?_ | refine run_nil ?_ | refine wpS_block ?_ | refine wpS_skip ?_ | refine wpS_exit ?_ | refine wpS_ret ?_))
        refine fin_mkR rfl ?_ ?_ <;> (repeat' (first | exact allP_nil | refine allP_cons ?_ ?_))
        all_goals first | rfl | exact ⟨rfl, rfl, .inl rfl, fun _ _ => rfl⟩
    · simp at h
theorem apply_appeal (t : Int) (l : List En) (e : Ev) (hk : e.kind = 2) (hs : SmV l) :
    SpecR Tryz.prog 45 [.loc PB 0, .agg (evA e)] [(PB, .blk 76 [.int .i64 t, .ref QN]), (QN, enR l)] (.int .i64 (applyB ⟨t, l⟩ e).1) [(PB, .blk 76 [.int .i64 (applyB ⟨t, l⟩ e).2.tick, .ref QN]), (QN, enR (applyB ⟨t, l⟩ e).2.ens)] := by
  have hb := hs.b
  obtain ⟨kind, key, tick, ver, hun, text, acc⟩ := e
  dsimp only at hk
  subst hk
  refine specR ok45 fun C _ => ?_
  refine wpS_seq ?_; refine wpS_reg ?_; (repeat (refine run_step rfl (by ((repeat' (first | exact allP_nil | refine allP_cons ?_ ?_ | intro _)) <;> first | assumption | omega | (simp only [cond_true, cond_false, bif_and, bif_or, decide_eq_true_eq, decide_eq_false_iff_not, Bool.and_eq_true, Bool.or_eq_true, Bool.not_eq_true', Bool.not_eq_false'] at *; omega) | (intros; first | rfl | assumption | omega | simp_all; done))) ?_)); refine run_nil ?_
  refine wpS_seq ?_; refine wpS_reg ?_; (repeat (refine run_step rfl (by ((repeat' (first | exact allP_nil | refine allP_cons ?_ ?_ | intro _)) <;> first | assumption | omega | (simp only [cond_true, cond_false, bif_and, bif_or, decide_eq_true_eq, decide_eq_false_iff_not, Bool.and_eq_true, Bool.or_eq_true, Bool.not_eq_true', Bool.not_eq_false'] at *; omega) | (intros; first | rfl | assumption | omega | simp_all; done))) ?_)); refine run_nil ?_
  (repeat (first | refine wpS_seq ?_ | refine wpS_reg ?_ | refine run_step rfl (by ((repeat' (first | exact allP_nil | refine allP_cons ?_ ?_ | intro _)) <;> first | assumption | omega | (simp only [cond_true, cond_false, bif_and, bif_or, decide_eq_true_eq, decide_eq_false_iff_not, Bool.and_eq_true, Bool.or_eq_true, Bool.not_eq_true', Bool.not_eq_false'] at *; omega) | (intros; first | rfl | assumption | omega | simp_all; done))) ?_ | refine run_nil ?_ | refine wpS_block ?_ | refine wpS_skip ?_ | refine wpS_exit ?_ | refine wpS_ret ?_))
  refine wpS_D (by kernel_rfl) ?_
  (repeat (refine trg_step rfl (by ((repeat' (first | exact allP_nil | refine allP_cons ?_ ?_ | intro _)) <;> first | assumption | omega | (simp only [cond_true, cond_false, bif_and, bif_or, decide_eq_true_eq, decide_eq_false_iff_not, Bool.and_eq_true, Bool.or_eq_true, Bool.not_eq_true', Bool.not_eq_false'] at *; omega) | (intros; first | rfl | assumption | omega | simp_all; done))) ?_))
  refine trg_c ((has_spec ⟨t, l⟩ ⟨2, key, tick, ver, hun, text, acc⟩ hs)) rfl (by ((repeat' (first | exact allP_nil | refine allP_cons ?_ ?_ | intro _)) <;> first | assumption | omega | (simp only [cond_true, cond_false, bif_and, bif_or, decide_eq_true_eq, decide_eq_false_iff_not, Bool.and_eq_true, Bool.or_eq_true, Bool.not_eq_true', Bool.not_eq_false'] at *; omega) | (intros; first | rfl | assumption | omega | simp_all; done))) rfl rfl (.inl rfl) ?_
  (repeat (refine trg_step rfl (by ((repeat' (first | exact allP_nil | refine allP_cons ?_ ?_ | intro _)) <;> first | assumption | omega | (simp only [cond_true, cond_false, bif_and, bif_or, decide_eq_true_eq, decide_eq_false_iff_not, Bool.and_eq_true, Bool.or_eq_true, Bool.not_eq_true', Bool.not_eq_false'] at *; omega) | (intros; first | rfl | assumption | omega | simp_all; done))) ?_))
  refine trg_nil ⟨rfl, ?_⟩
  refine wpS_cond rfl (by ((repeat' (first | exact allP_nil | refine allP_cons ?_ ?_ | intro _)) <;> first | assumption | omega | (simp only [cond_true, cond_false, bif_and, bif_or, decide_eq_true_eq, decide_eq_false_iff_not, Bool.and_eq_true, Bool.or_eq_true, Bool.not_eq_true', Bool.not_eq_false'] at *; omega) | (intros; first | rfl | assumption | omega | simp_all; done))) (fun h => ?_) (fun h => ?_)
  · have hA : applyB ⟨t, l⟩ ⟨2, key, tick, ver, hun, text, acc⟩ = (6, ⟨t, l⟩) := by unfold applyB; rw [if_pos h]
    rw [hA]
    (repeat (first | refine wpS_seq ?_ | refine wpS_reg ?_ | refine run_step rfl (by ((repeat' (first | exact allP_nil | refine allP_cons ?_ ?_ | intro _)) <;> first | assumption | omega | (simp only [cond_true, cond_false, bif_and, bif_or, decide_eq_true_eq, decide_eq_false_iff_not, Bool.and_eq_true, Bool.or_eq_true, Bool.not_eq_true', Bool.not_eq_false'] at *; omega) | (intros; first | rfl | assumption | omega | simp_all; done))) ?_ | refine run_nil ?_ | refine wpS_block ?_ | refine wpS_skip ?_ | refine wpS_exit ?_ | refine wpS_ret ?_))
    refine fin_mkR rfl ?_ ?_ <;> (repeat' (first | exact allP_nil | refine allP_cons ?_ ?_))
    all_goals first | rfl | exact ⟨rfl, rfl, .inl rfl, fun _ _ => rfl⟩
  have hh : ¬ hasB l ⟨2, key, tick, ver, hun, text, acc⟩ = true := by rw [show hasB l ⟨2, key, tick, ver, hun, text, acc⟩ = false from h]; simp
  clear h
  (repeat (first | refine wpS_seq ?_ | refine wpS_reg ?_ | refine run_step rfl (by ((repeat' (first | exact allP_nil | refine allP_cons ?_ ?_ | intro _)) <;> first | assumption | omega | (simp only [cond_true, cond_false, bif_and, bif_or, decide_eq_true_eq, decide_eq_false_iff_not, Bool.and_eq_true, Bool.or_eq_true, Bool.not_eq_true', Bool.not_eq_false'] at *; omega) | (intros; first | rfl | assumption | omega | simp_all; done))) ?_ | refine run_nil ?_ | refine wpS_block ?_ | refine wpS_skip ?_ | refine wpS_exit ?_ | refine wpS_ret ?_))
  refine wpS_D (by kernel_rfl) ?_; (repeat (refine trg_step rfl (by ((repeat' (first | exact allP_nil | refine allP_cons ?_ ?_ | intro _)) <;> first | assumption | omega | (simp only [cond_true, cond_false, bif_and, bif_or, decide_eq_true_eq, decide_eq_false_iff_not, Bool.and_eq_true, Bool.or_eq_true, Bool.not_eq_true', Bool.not_eq_false'] at *; omega) | (intros; first | rfl | assumption | omega | simp_all; done))) ?_)); refine trg_nil ⟨rfl, ?_⟩
  refine wpS_cond rfl (by ((repeat' (first | exact allP_nil | refine allP_cons ?_ ?_ | intro _)) <;> first | assumption | omega | (simp only [cond_true, cond_false, bif_and, bif_or, decide_eq_true_eq, decide_eq_false_iff_not, Bool.and_eq_true, Bool.or_eq_true, Bool.not_eq_true', Bool.not_eq_false'] at *; omega) | (intros; first | rfl | assumption | omega | simp_all; done))) (fun h => ?_) (fun h => ?_)
  · have ht : tick < t := by simpa using h
    have hA : applyB ⟨t, l⟩ ⟨2, key, tick, ver, hun, text, acc⟩ = (2, ⟨t, l⟩) := by unfold applyB; rw [if_neg hh, if_pos ht]
    rw [hA]
    (repeat (first | refine wpS_seq ?_ | refine wpS_reg ?_ | refine run_step rfl (by ((repeat' (first | exact allP_nil | refine allP_cons ?_ ?_ | intro _)) <;> first | assumption | omega | (simp only [cond_true, cond_false, bif_and, bif_or, decide_eq_true_eq, decide_eq_false_iff_not, Bool.and_eq_true, Bool.or_eq_true, Bool.not_eq_true', Bool.not_eq_false'] at *; omega) | (intros; first | rfl | assumption | omega | simp_all; done))) ?_ | refine run_nil ?_ | refine wpS_block ?_ | refine wpS_skip ?_ | refine wpS_exit ?_ | refine wpS_ret ?_))
    refine fin_mkR rfl ?_ ?_ <;> (repeat' (first | exact allP_nil | refine allP_cons ?_ ?_))
    all_goals first | rfl | exact ⟨rfl, rfl, .inl rfl, fun _ _ => rfl⟩
  have ht : ¬ tick < t := by simpa using h
  clear h
  (repeat (first | refine wpS_seq ?_ | refine wpS_reg ?_ | refine run_step rfl (by ((repeat' (first | exact allP_nil | refine allP_cons ?_ ?_ | intro _)) <;> first | assumption | omega | (simp only [cond_true, cond_false, bif_and, bif_or, decide_eq_true_eq, decide_eq_false_iff_not, Bool.and_eq_true, Bool.or_eq_true, Bool.not_eq_true', Bool.not_eq_false'] at *; omega) | (intros; first | rfl | assumption | omega | simp_all; done))) ?_ | refine run_nil ?_ | refine wpS_block ?_ | refine wpS_skip ?_ | refine wpS_exit ?_ | refine wpS_ret ?_))
  refine wpS_D (by kernel_rfl) ?_
  (repeat (refine trg_step rfl (by ((repeat' (first | exact allP_nil | refine allP_cons ?_ ?_ | intro _)) <;> first | assumption | omega | (simp only [cond_true, cond_false, bif_and, bif_or, decide_eq_true_eq, decide_eq_false_iff_not, Bool.and_eq_true, Bool.or_eq_true, Bool.not_eq_true', Bool.not_eq_false'] at *; omega) | (intros; first | rfl | assumption | omega | simp_all; done))) ?_))
  refine trg_c ((find_spec ⟨t, l⟩ key hb.l)) rfl (by ((repeat' (first | exact allP_nil | refine allP_cons ?_ ?_ | intro _)) <;> first | assumption | omega | (simp only [cond_true, cond_false, bif_and, bif_or, decide_eq_true_eq, decide_eq_false_iff_not, Bool.and_eq_true, Bool.or_eq_true, Bool.not_eq_true', Bool.not_eq_false'] at *; omega) | (intros; first | rfl | assumption | omega | simp_all; done))) rfl rfl (.inl rfl) ?_
  (repeat (refine trg_step rfl (by ((repeat' (first | exact allP_nil | refine allP_cons ?_ ?_ | intro _)) <;> first | assumption | omega | (simp only [cond_true, cond_false, bif_and, bif_or, decide_eq_true_eq, decide_eq_false_iff_not, Bool.and_eq_true, Bool.or_eq_true, Bool.not_eq_true', Bool.not_eq_false'] at *; omega) | (intros; first | rfl | assumption | omega | simp_all; done))) ?_))
  refine trg_nil ⟨rfl, ?_⟩
  rw [findI_eq]
  cases hf : findK (Bk.ens ⟨t, l⟩) key with
  | none =>
    have hA : applyB ⟨t, l⟩ ⟨2, key, tick, ver, hun, text, acc⟩ = (7, ⟨t, l⟩) := by
      unfold applyB
      rw [if_neg hh, if_neg ht, if_neg (by simp)]
      dsimp only at hf ⊢
      rw [hf]
    rw [hA]
    (repeat (first | refine wpS_seq ?_ | refine wpS_reg ?_ | refine run_step rfl (by ((repeat' (first | exact allP_nil | refine allP_cons ?_ ?_ | intro _)) <;> first | assumption | omega | (simp only [cond_true, cond_false, bif_and, bif_or, decide_eq_true_eq, decide_eq_false_iff_not, Bool.and_eq_true, Bool.or_eq_true, Bool.not_eq_true', Bool.not_eq_false'] at *; omega) | (intros; first | rfl | assumption | omega | simp_all; done))) ?_ | refine run_nil ?_ | refine wpS_block ?_ | refine wpS_skip ?_ | refine wpS_exit ?_ | refine wpS_ret ?_))
    refine wpS_condF rfl (by ((repeat' (first | exact allP_nil | refine allP_cons ?_ ?_ | intro _)) <;> first | assumption | omega | (simp only [cond_true, cond_false, bif_and, bif_or, decide_eq_true_eq, decide_eq_false_iff_not, Bool.and_eq_true, Bool.or_eq_true, Bool.not_eq_true', Bool.not_eq_false'] at *; omega) | (intros; first | rfl | assumption | omega | simp_all; done))) ?_
    (repeat (first | refine wpS_seq ?_ | refine wpS_reg ?_ | refine run_step rfl (by ((repeat' (first | exact allP_nil | refine allP_cons ?_ ?_ | intro _)) <;> first | assumption | omega | (simp only [cond_true, cond_false, bif_and, bif_or, decide_eq_true_eq, decide_eq_false_iff_not, Bool.and_eq_true, Bool.or_eq_true, Bool.not_eq_true', Bool.not_eq_false'] at *; omega) | (intros; first | rfl | assumption | omega | simp_all; done))) ?_ | refine run_nil ?_ | refine wpS_block ?_ | refine wpS_skip ?_ | refine wpS_exit ?_ | refine wpS_ret ?_))
    refine wpS_condT rfl (by ((repeat' (first | exact allP_nil | refine allP_cons ?_ ?_ | intro _)) <;> first | assumption | omega | (simp only [cond_true, cond_false, bif_and, bif_or, decide_eq_true_eq, decide_eq_false_iff_not, Bool.and_eq_true, Bool.or_eq_true, Bool.not_eq_true', Bool.not_eq_false'] at *; omega) | (intros; first | rfl | assumption | omega | simp_all; done))) ?_
    (repeat (first | refine wpS_seq ?_ | refine wpS_reg ?_ | refine run_step rfl (by ((repeat' (first | exact allP_nil | refine allP_cons ?_ ?_ | intro _)) <;> first | assumption | omega | (simp only [cond_true, cond_false, bif_and, bif_or, decide_eq_true_eq, decide_eq_false_iff_not, Bool.and_eq_true, Bool.or_eq_true, Bool.not_eq_true', Bool.not_eq_false'] at *; omega) | (intros; first | rfl | assumption | omega | simp_all; done))) ?_ | refine run_nil ?_ | refine wpS_block ?_ | refine wpS_skip ?_ | refine wpS_exit ?_ | refine wpS_ret ?_))
    refine fin_mkR rfl ?_ ?_ <;> (repeat' (first | exact allP_nil | refine allP_cons ?_ ?_))
    all_goals first | rfl | exact ⟨rfl, rfl, .inl rfl, fun _ _ => rfl⟩
  | some i =>
    dsimp only at hf ⊢
    obtain ⟨hi, hik, _⟩ := findK_some hf
    have hsy := hb.2 _ (getD_mem hi)
    (repeat (first | refine wpS_seq ?_ | refine wpS_reg ?_ | refine run_step rfl (by ((repeat' (first | exact allP_nil | refine allP_cons ?_ ?_ | intro _)) <;> first | assumption | omega | (simp only [cond_true, cond_false, bif_and, bif_or, decide_eq_true_eq, decide_eq_false_iff_not, Bool.and_eq_true, Bool.or_eq_true, Bool.not_eq_true', Bool.not_eq_false'] at *; omega) | (intros; first | rfl | assumption | omega | simp_all; done))) ?_ | refine run_nil ?_ | refine wpS_block ?_ | refine wpS_skip ?_ | refine wpS_exit ?_ | refine wpS_ret ?_))
    refine wpS_cond rfl (by ((repeat' (first | exact allP_nil | refine allP_cons ?_ ?_ | intro _)) <;> first | assumption | omega | (simp only [cond_true, cond_false, bif_and, bif_or, decide_eq_true_eq, decide_eq_false_iff_not, Bool.and_eq_true, Bool.or_eq_true, Bool.not_eq_true', Bool.not_eq_false'] at *; omega) | (intros; first | rfl | assumption | omega | simp_all; done))) (fun h => ?_) (fun h => ?_)
    · clear h
      (repeat (first | refine wpS_seq ?_ | refine wpS_reg ?_ | refine run_step rfl (by ((repeat' (first | exact allP_nil | refine allP_cons ?_ ?_ | intro _)) <;> first | assumption | omega | (simp only [cond_true, cond_false, bif_and, bif_or, decide_eq_true_eq, decide_eq_false_iff_not, Bool.and_eq_true, Bool.or_eq_true, Bool.not_eq_true', Bool.not_eq_false'] at *; omega) | (intros; first | rfl | assumption | omega | simp_all; done))) ?_ | refine run_nil ?_ | refine wpS_block ?_ | refine wpS_skip ?_ | refine wpS_exit ?_ | refine wpS_ret ?_))
      refine wpS_D (by kernel_rfl) ?_
      (repeat (refine trg_step rfl (by ((repeat' (first | exact allP_nil | refine allP_cons ?_ ?_ | intro _)) <;> first | assumption | omega | (simp only [cond_true, cond_false, bif_and, bif_or, decide_eq_true_eq, decide_eq_false_iff_not, Bool.and_eq_true, Bool.or_eq_true, Bool.not_eq_true', Bool.not_eq_false'] at *; omega) | (intros; first | rfl | assumption | omega | simp_all; done))) ?_))
      refine trg_cR (env := keepE _ [0, 3, 48, 49, 50, 51]) ρ3 [PB] (ent_keep [0, 3, 48, 49, 50, 51] [PB, QN, 3]) (specR_leA (args' := [.loc XN 0, .agg (evA ⟨2, key, tick, ver, hun, text, acc⟩), .locE PB 7 i 0]) (appeal_spec l i ⟨2, key, tick, ver, hun, text, acc⟩ hi hsy) ⟨rfl, rfl, rfl, rfl, rfl, rfl, rfl, rfl, rfl, ⟨rfl, rfl⟩, trivial⟩) rfl rfl ⟨rfl, trivial⟩ rfl ?_
      (repeat (refine trg_step rfl (by ((repeat' (first | exact allP_nil | refine allP_cons ?_ ?_ | intro _)) <;> first | assumption | omega | (simp only [cond_true, cond_false, bif_and, bif_or, decide_eq_true_eq, decide_eq_false_iff_not, Bool.and_eq_true, Bool.or_eq_true, Bool.not_eq_true', Bool.not_eq_false'] at *; omega) | (intros; first | rfl | assumption | omega | simp_all; done))) ?_))
      refine trg_nil ⟨rfl, ?_⟩
      have hA : applyB ⟨t, l⟩ ⟨2, key, tick, ver, hun, text, acc⟩ = if (appealE ⟨2, key, tick, ver, hun, text, acc⟩ (l.getD i default)).1 = 0 then (0, ⟨tick, l.set i (appealE ⟨2, key, tick, ver, hun, text, acc⟩ (l.getD i default)).2⟩) else ((appealE ⟨2, key, tick, ver, hun, text, acc⟩ (l.getD i default)).1, ⟨t, l⟩) := by
        unfold applyB
        rw [if_neg hh, if_neg ht, if_neg (by simp)]
        dsimp only
        rw [hf]
        rfl
      have hfail := appealE_fail (e := ⟨2, key, tick, ver, hun, text, acc⟩) (y := l.getD i default)
      rw [hA]
      generalize hR : appealE ⟨2, key, tick, ver, hun, text, acc⟩ (l.getD i default) = R at hfail ⊢
      obtain ⟨code, y'⟩ := R
      dsimp only at hfail ⊢
      (repeat (first | refine wpS_seq ?_ | refine wpS_reg ?_ | refine run_step rfl (by ((repeat' (first | exact allP_nil | refine allP_cons ?_ ?_ | intro _)) <;> first | assumption | omega | (simp only [cond_true, cond_false, bif_and, bif_or, decide_eq_true_eq, decide_eq_false_iff_not, Bool.and_eq_true, Bool.or_eq_true, Bool.not_eq_true', Bool.not_eq_false'] at *; omega) | (intros; first | rfl | assumption | omega | simp_all; done))) ?_ | refine run_nil ?_ | refine wpS_block ?_ | refine wpS_skip ?_ | refine wpS_exit ?_ | refine wpS_ret ?_))
      refine wpS_cond rfl (by ((repeat' (first | exact allP_nil | refine allP_cons ?_ ?_ | intro _)) <;> first | assumption | omega | (simp only [cond_true, cond_false, bif_and, bif_or, decide_eq_true_eq, decide_eq_false_iff_not, Bool.and_eq_true, Bool.or_eq_true, Bool.not_eq_true', Bool.not_eq_false'] at *; omega) | (intros; first | rfl | assumption | omega | simp_all; done))) (fun h => ?_) (fun h => ?_)
      · have hc : code ≠ 0 := by simpa using h
        have hy' := hfail hc
        rw [if_neg hc]
        (repeat (first | refine wpS_seq ?_ | refine wpS_reg ?_ | refine run_step rfl (by ((repeat' (first | exact allP_nil | refine allP_cons ?_ ?_ | intro _)) <;> first | assumption | omega | (simp only [cond_true, cond_false, bif_and, bif_or, decide_eq_true_eq, decide_eq_false_iff_not, Bool.and_eq_true, Bool.or_eq_true, Bool.not_eq_true', Bool.not_eq_false'] at *; omega) | (intros; first | rfl | assumption | omega | simp_all; done))) ?_ | refine run_nil ?_ | refine wpS_block ?_ | refine wpS_skip ?_ | refine wpS_exit ?_ | refine wpS_ret ?_))
        refine fin_mkR rfl ?_ ?_ <;> (repeat' (first | exact allP_nil | refine allP_cons ?_ ?_))
        all_goals first | rfl | (refine ⟨by simp, rfl, .inl rfl, fun _ _ => ?_⟩; rw [hy', set_self hi])
      · have hc : code = 0 := by simpa using h
        rw [if_pos hc]
        (repeat (first | refine wpS_seq ?_ | refine wpS_reg ?_ | refine run_step rfl (by ((repeat' (first | exact allP_nil | refine allP_cons ?_ ?_ | intro _)) <;> first | assumption | omega | (simp only [cond_true, cond_false, bif_and, bif_or, decide_eq_true_eq, decide_eq_false_iff_not, Bool.and_eq_true, Bool.or_eq_true, Bool.not_eq_true', Bool.not_eq_false'] at *; omega) | (intros; first | rfl | assumption | omega | simp_all; done))) ?_ | refine run_nil ?_ | refine wpS_block ?_ | refine wpS_skip ?_ | refine wpS_exit ?_ | refine wpS_ret ?_))
        refine fin_mkR rfl ?_ ?_ <;> (repeat' (first | exact allP_nil | refine allP_cons ?_ ?_))
        all_goals first | rfl | exact ⟨rfl, rfl, .inl rfl, fun _ _ => rfl⟩
    · simp at h
theorem apply_decide (t : Int) (l : List En) (e : Ev) (hk : e.kind = 3) (hs : SmV l) :
    SpecR Tryz.prog 45 [.loc PB 0, .agg (evA e)] [(PB, .blk 76 [.int .i64 t, .ref QN]), (QN, enR l)] (.int .i64 (applyB ⟨t, l⟩ e).1) [(PB, .blk 76 [.int .i64 (applyB ⟨t, l⟩ e).2.tick, .ref QN]), (QN, enR (applyB ⟨t, l⟩ e).2.ens)] := by
  have hb := hs.b
  obtain ⟨kind, key, tick, ver, hun, text, acc⟩ := e
  dsimp only at hk
  subst hk
  refine specR ok45 fun C _ => ?_
  refine wpS_seq ?_; refine wpS_reg ?_; (repeat (refine run_step rfl (by ((repeat' (first | exact allP_nil | refine allP_cons ?_ ?_ | intro _)) <;> first | assumption | omega | (simp only [cond_true, cond_false, bif_and, bif_or, decide_eq_true_eq, decide_eq_false_iff_not, Bool.and_eq_true, Bool.or_eq_true, Bool.not_eq_true', Bool.not_eq_false'] at *; omega) | (intros; first | rfl | assumption | omega | simp_all; done))) ?_)); refine run_nil ?_
  refine wpS_seq ?_; refine wpS_reg ?_; (repeat (refine run_step rfl (by ((repeat' (first | exact allP_nil | refine allP_cons ?_ ?_ | intro _)) <;> first | assumption | omega | (simp only [cond_true, cond_false, bif_and, bif_or, decide_eq_true_eq, decide_eq_false_iff_not, Bool.and_eq_true, Bool.or_eq_true, Bool.not_eq_true', Bool.not_eq_false'] at *; omega) | (intros; first | rfl | assumption | omega | simp_all; done))) ?_)); refine run_nil ?_
  (repeat (first | refine wpS_seq ?_ | refine wpS_reg ?_ | refine run_step rfl (by ((repeat' (first | exact allP_nil | refine allP_cons ?_ ?_ | intro _)) <;> first | assumption | omega | (simp only [cond_true, cond_false, bif_and, bif_or, decide_eq_true_eq, decide_eq_false_iff_not, Bool.and_eq_true, Bool.or_eq_true, Bool.not_eq_true', Bool.not_eq_false'] at *; omega) | (intros; first | rfl | assumption | omega | simp_all; done))) ?_ | refine run_nil ?_ | refine wpS_block ?_ | refine wpS_skip ?_ | refine wpS_exit ?_ | refine wpS_ret ?_))
  refine wpS_D (by kernel_rfl) ?_
  (repeat (refine trg_step rfl (by ((repeat' (first | exact allP_nil | refine allP_cons ?_ ?_ | intro _)) <;> first | assumption | omega | (simp only [cond_true, cond_false, bif_and, bif_or, decide_eq_true_eq, decide_eq_false_iff_not, Bool.and_eq_true, Bool.or_eq_true, Bool.not_eq_true', Bool.not_eq_false'] at *; omega) | (intros; first | rfl | assumption | omega | simp_all; done))) ?_))
  refine trg_c ((has_spec ⟨t, l⟩ ⟨3, key, tick, ver, hun, text, acc⟩ hs)) rfl (by ((repeat' (first | exact allP_nil | refine allP_cons ?_ ?_ | intro _)) <;> first | assumption | omega | (simp only [cond_true, cond_false, bif_and, bif_or, decide_eq_true_eq, decide_eq_false_iff_not, Bool.and_eq_true, Bool.or_eq_true, Bool.not_eq_true', Bool.not_eq_false'] at *; omega) | (intros; first | rfl | assumption | omega | simp_all; done))) rfl rfl (.inl rfl) ?_
  (repeat (refine trg_step rfl (by ((repeat' (first | exact allP_nil | refine allP_cons ?_ ?_ | intro _)) <;> first | assumption | omega | (simp only [cond_true, cond_false, bif_and, bif_or, decide_eq_true_eq, decide_eq_false_iff_not, Bool.and_eq_true, Bool.or_eq_true, Bool.not_eq_true', Bool.not_eq_false'] at *; omega) | (intros; first | rfl | assumption | omega | simp_all; done))) ?_))
  refine trg_nil ⟨rfl, ?_⟩
  refine wpS_cond rfl (by ((repeat' (first | exact allP_nil | refine allP_cons ?_ ?_ | intro _)) <;> first | assumption | omega | (simp only [cond_true, cond_false, bif_and, bif_or, decide_eq_true_eq, decide_eq_false_iff_not, Bool.and_eq_true, Bool.or_eq_true, Bool.not_eq_true', Bool.not_eq_false'] at *; omega) | (intros; first | rfl | assumption | omega | simp_all; done))) (fun h => ?_) (fun h => ?_)
  · have hA : applyB ⟨t, l⟩ ⟨3, key, tick, ver, hun, text, acc⟩ = (6, ⟨t, l⟩) := by unfold applyB; rw [if_pos h]
    rw [hA]
    (repeat (first | refine wpS_seq ?_ | refine wpS_reg ?_ | refine run_step rfl (by ((repeat' (first | exact allP_nil | refine allP_cons ?_ ?_ | intro _)) <;> first | assumption | omega | (simp only [cond_true, cond_false, bif_and, bif_or, decide_eq_true_eq, decide_eq_false_iff_not, Bool.and_eq_true, Bool.or_eq_true, Bool.not_eq_true', Bool.not_eq_false'] at *; omega) | (intros; first | rfl | assumption | omega | simp_all; done))) ?_ | refine run_nil ?_ | refine wpS_block ?_ | refine wpS_skip ?_ | refine wpS_exit ?_ | refine wpS_ret ?_))
    refine fin_mkR rfl ?_ ?_ <;> (repeat' (first | exact allP_nil | refine allP_cons ?_ ?_))
    all_goals first | rfl | exact ⟨rfl, rfl, .inl rfl, fun _ _ => rfl⟩
  have hh : ¬ hasB l ⟨3, key, tick, ver, hun, text, acc⟩ = true := by rw [show hasB l ⟨3, key, tick, ver, hun, text, acc⟩ = false from h]; simp
  clear h
  (repeat (first | refine wpS_seq ?_ | refine wpS_reg ?_ | refine run_step rfl (by ((repeat' (first | exact allP_nil | refine allP_cons ?_ ?_ | intro _)) <;> first | assumption | omega | (simp only [cond_true, cond_false, bif_and, bif_or, decide_eq_true_eq, decide_eq_false_iff_not, Bool.and_eq_true, Bool.or_eq_true, Bool.not_eq_true', Bool.not_eq_false'] at *; omega) | (intros; first | rfl | assumption | omega | simp_all; done))) ?_ | refine run_nil ?_ | refine wpS_block ?_ | refine wpS_skip ?_ | refine wpS_exit ?_ | refine wpS_ret ?_))
  refine wpS_D (by kernel_rfl) ?_; (repeat (refine trg_step rfl (by ((repeat' (first | exact allP_nil | refine allP_cons ?_ ?_ | intro _)) <;> first | assumption | omega | (simp only [cond_true, cond_false, bif_and, bif_or, decide_eq_true_eq, decide_eq_false_iff_not, Bool.and_eq_true, Bool.or_eq_true, Bool.not_eq_true', Bool.not_eq_false'] at *; omega) | (intros; first | rfl | assumption | omega | simp_all; done))) ?_)); refine trg_nil ⟨rfl, ?_⟩
  refine wpS_cond rfl (by ((repeat' (first | exact allP_nil | refine allP_cons ?_ ?_ | intro _)) <;> first | assumption | omega | (simp only [cond_true, cond_false, bif_and, bif_or, decide_eq_true_eq, decide_eq_false_iff_not, Bool.and_eq_true, Bool.or_eq_true, Bool.not_eq_true', Bool.not_eq_false'] at *; omega) | (intros; first | rfl | assumption | omega | simp_all; done))) (fun h => ?_) (fun h => ?_)
  · have ht : tick < t := by simpa using h
    have hA : applyB ⟨t, l⟩ ⟨3, key, tick, ver, hun, text, acc⟩ = (2, ⟨t, l⟩) := by unfold applyB; rw [if_neg hh, if_pos ht]
    rw [hA]
    (repeat (first | refine wpS_seq ?_ | refine wpS_reg ?_ | refine run_step rfl (by ((repeat' (first | exact allP_nil | refine allP_cons ?_ ?_ | intro _)) <;> first | assumption | omega | (simp only [cond_true, cond_false, bif_and, bif_or, decide_eq_true_eq, decide_eq_false_iff_not, Bool.and_eq_true, Bool.or_eq_true, Bool.not_eq_true', Bool.not_eq_false'] at *; omega) | (intros; first | rfl | assumption | omega | simp_all; done))) ?_ | refine run_nil ?_ | refine wpS_block ?_ | refine wpS_skip ?_ | refine wpS_exit ?_ | refine wpS_ret ?_))
    refine fin_mkR rfl ?_ ?_ <;> (repeat' (first | exact allP_nil | refine allP_cons ?_ ?_))
    all_goals first | rfl | exact ⟨rfl, rfl, .inl rfl, fun _ _ => rfl⟩
  have ht : ¬ tick < t := by simpa using h
  clear h
  (repeat (first | refine wpS_seq ?_ | refine wpS_reg ?_ | refine run_step rfl (by ((repeat' (first | exact allP_nil | refine allP_cons ?_ ?_ | intro _)) <;> first | assumption | omega | (simp only [cond_true, cond_false, bif_and, bif_or, decide_eq_true_eq, decide_eq_false_iff_not, Bool.and_eq_true, Bool.or_eq_true, Bool.not_eq_true', Bool.not_eq_false'] at *; omega) | (intros; first | rfl | assumption | omega | simp_all; done))) ?_ | refine run_nil ?_ | refine wpS_block ?_ | refine wpS_skip ?_ | refine wpS_exit ?_ | refine wpS_ret ?_))
  refine wpS_D (by kernel_rfl) ?_
  (repeat (refine trg_step rfl (by ((repeat' (first | exact allP_nil | refine allP_cons ?_ ?_ | intro _)) <;> first | assumption | omega | (simp only [cond_true, cond_false, bif_and, bif_or, decide_eq_true_eq, decide_eq_false_iff_not, Bool.and_eq_true, Bool.or_eq_true, Bool.not_eq_true', Bool.not_eq_false'] at *; omega) | (intros; first | rfl | assumption | omega | simp_all; done))) ?_))
  refine trg_c ((find_spec ⟨t, l⟩ key hb.l)) rfl (by ((repeat' (first | exact allP_nil | refine allP_cons ?_ ?_ | intro _)) <;> first | assumption | omega | (simp only [cond_true, cond_false, bif_and, bif_or, decide_eq_true_eq, decide_eq_false_iff_not, Bool.and_eq_true, Bool.or_eq_true, Bool.not_eq_true', Bool.not_eq_false'] at *; omega) | (intros; first | rfl | assumption | omega | simp_all; done))) rfl rfl (.inl rfl) ?_
  (repeat (refine trg_step rfl (by ((repeat' (first | exact allP_nil | refine allP_cons ?_ ?_ | intro _)) <;> first | assumption | omega | (simp only [cond_true, cond_false, bif_and, bif_or, decide_eq_true_eq, decide_eq_false_iff_not, Bool.and_eq_true, Bool.or_eq_true, Bool.not_eq_true', Bool.not_eq_false'] at *; omega) | (intros; first | rfl | assumption | omega | simp_all; done))) ?_))
  refine trg_nil ⟨rfl, ?_⟩
  rw [findI_eq]
  cases hf : findK (Bk.ens ⟨t, l⟩) key with
  | none =>
    have hA : applyB ⟨t, l⟩ ⟨3, key, tick, ver, hun, text, acc⟩ = (7, ⟨t, l⟩) := by
      unfold applyB
      rw [if_neg hh, if_neg ht, if_neg (by simp)]
      dsimp only at hf ⊢
      rw [hf]
    rw [hA]
    (repeat (first | refine wpS_seq ?_ | refine wpS_reg ?_ | refine run_step rfl (by ((repeat' (first | exact allP_nil | refine allP_cons ?_ ?_ | intro _)) <;> first | assumption | omega | (simp only [cond_true, cond_false, bif_and, bif_or, decide_eq_true_eq, decide_eq_false_iff_not, Bool.and_eq_true, Bool.or_eq_true, Bool.not_eq_true', Bool.not_eq_false'] at *; omega) | (intros; first | rfl | assumption | omega | simp_all; done))) ?_ | refine run_nil ?_ | refine wpS_block ?_ | refine wpS_skip ?_ | refine wpS_exit ?_ | refine wpS_ret ?_))
    refine wpS_condF rfl (by ((repeat' (first | exact allP_nil | refine allP_cons ?_ ?_ | intro _)) <;> first | assumption | omega | (simp only [cond_true, cond_false, bif_and, bif_or, decide_eq_true_eq, decide_eq_false_iff_not, Bool.and_eq_true, Bool.or_eq_true, Bool.not_eq_true', Bool.not_eq_false'] at *; omega) | (intros; first | rfl | assumption | omega | simp_all; done))) ?_
    (repeat (first | refine wpS_seq ?_ | refine wpS_reg ?_ | refine run_step rfl (by ((repeat' (first | exact allP_nil | refine allP_cons ?_ ?_ | intro _)) <;> first | assumption | omega | (simp only [cond_true, cond_false, bif_and, bif_or, decide_eq_true_eq, decide_eq_false_iff_not, Bool.and_eq_true, Bool.or_eq_true, Bool.not_eq_true', Bool.not_eq_false'] at *; omega) | (intros; first | rfl | assumption | omega | simp_all; done))) ?_ | refine run_nil ?_ | refine wpS_block ?_ | refine wpS_skip ?_ | refine wpS_exit ?_ | refine wpS_ret ?_))
    refine wpS_condT rfl (by ((repeat' (first | exact allP_nil | refine allP_cons ?_ ?_ | intro _)) <;> first | assumption | omega | (simp only [cond_true, cond_false, bif_and, bif_or, decide_eq_true_eq, decide_eq_false_iff_not, Bool.and_eq_true, Bool.or_eq_true, Bool.not_eq_true', Bool.not_eq_false'] at *; omega) | (intros; first | rfl | assumption | omega | simp_all; done))) ?_
    (repeat (first | refine wpS_seq ?_ | refine wpS_reg ?_ | refine run_step rfl (by ((repeat' (first | exact allP_nil | refine allP_cons ?_ ?_ | intro _)) <;> first | assumption | omega | (simp only [cond_true, cond_false, bif_and, bif_or, decide_eq_true_eq, decide_eq_false_iff_not, Bool.and_eq_true, Bool.or_eq_true, Bool.not_eq_true', Bool.not_eq_false'] at *; omega) | (intros; first | rfl | assumption | omega | simp_all; done))) ?_ | refine run_nil ?_ | refine wpS_block ?_ | refine wpS_skip ?_ | refine wpS_exit ?_ | refine wpS_ret ?_))
    refine fin_mkR rfl ?_ ?_ <;> (repeat' (first | exact allP_nil | refine allP_cons ?_ ?_))
    all_goals first | rfl | exact ⟨rfl, rfl, .inl rfl, fun _ _ => rfl⟩
  | some i =>
    dsimp only at hf ⊢
    obtain ⟨hi, hik, _⟩ := findK_some hf
    have hsy := hb.2 _ (getD_mem hi)
    (repeat (first | refine wpS_seq ?_ | refine wpS_reg ?_ | refine run_step rfl (by ((repeat' (first | exact allP_nil | refine allP_cons ?_ ?_ | intro _)) <;> first | assumption | omega | (simp only [cond_true, cond_false, bif_and, bif_or, decide_eq_true_eq, decide_eq_false_iff_not, Bool.and_eq_true, Bool.or_eq_true, Bool.not_eq_true', Bool.not_eq_false'] at *; omega) | (intros; first | rfl | assumption | omega | simp_all; done))) ?_ | refine run_nil ?_ | refine wpS_block ?_ | refine wpS_skip ?_ | refine wpS_exit ?_ | refine wpS_ret ?_))
    refine wpS_cond rfl (by ((repeat' (first | exact allP_nil | refine allP_cons ?_ ?_ | intro _)) <;> first | assumption | omega | (simp only [cond_true, cond_false, bif_and, bif_or, decide_eq_true_eq, decide_eq_false_iff_not, Bool.and_eq_true, Bool.or_eq_true, Bool.not_eq_true', Bool.not_eq_false'] at *; omega) | (intros; first | rfl | assumption | omega | simp_all; done))) (fun h => ?_) (fun h => ?_)
    · clear h
      (repeat (first | refine wpS_seq ?_ | refine wpS_reg ?_ | refine run_step rfl (by ((repeat' (first | exact allP_nil | refine allP_cons ?_ ?_ | intro _)) <;> first | assumption | omega | (simp only [cond_true, cond_false, bif_and, bif_or, decide_eq_true_eq, decide_eq_false_iff_not, Bool.and_eq_true, Bool.or_eq_true, Bool.not_eq_true', Bool.not_eq_false'] at *; omega) | (intros; first | rfl | assumption | omega | simp_all; done))) ?_ | refine run_nil ?_ | refine wpS_block ?_ | refine wpS_skip ?_ | refine wpS_exit ?_ | refine wpS_ret ?_))
      refine wpS_D (by kernel_rfl) ?_
      (repeat (refine trg_step rfl (by ((repeat' (first | exact allP_nil | refine allP_cons ?_ ?_ | intro _)) <;> first | assumption | omega | (simp only [cond_true, cond_false, bif_and, bif_or, decide_eq_true_eq, decide_eq_false_iff_not, Bool.and_eq_true, Bool.or_eq_true, Bool.not_eq_true', Bool.not_eq_false'] at *; omega) | (intros; first | rfl | assumption | omega | simp_all; done))) ?_))
      refine trg_cR (env := keepE _ [0, 3, 48, 49, 50, 51]) ρ3 [PB] (ent_keep [0, 3, 48, 49, 50, 51] [PB, QN, 3]) (specR_leA (args' := [.loc XN 0, .agg (evA ⟨3, key, tick, ver, hun, text, acc⟩), .locE PB 7 i 0]) (decide_spec l i ⟨3, key, tick, ver, hun, text, acc⟩ hi hsy) ⟨rfl, rfl, rfl, rfl, rfl, rfl, rfl, rfl, rfl, ⟨rfl, rfl⟩, trivial⟩) rfl rfl ⟨rfl, trivial⟩ rfl ?_
      (repeat (refine trg_step rfl (by ((repeat' (first | exact allP_nil | refine allP_cons ?_ ?_ | intro _)) <;> first | assumption | omega | (simp only [cond_true, cond_false, bif_and, bif_or, decide_eq_true_eq, decide_eq_false_iff_not, Bool.and_eq_true, Bool.or_eq_true, Bool.not_eq_true', Bool.not_eq_false'] at *; omega) | (intros; first | rfl | assumption | omega | simp_all; done))) ?_))
      refine trg_nil ⟨rfl, ?_⟩
      have hA : applyB ⟨t, l⟩ ⟨3, key, tick, ver, hun, text, acc⟩ = if (decideE ⟨3, key, tick, ver, hun, text, acc⟩ (l.getD i default)).1 = 0 then (0, ⟨tick, l.set i (decideE ⟨3, key, tick, ver, hun, text, acc⟩ (l.getD i default)).2⟩) else ((decideE ⟨3, key, tick, ver, hun, text, acc⟩ (l.getD i default)).1, ⟨t, l⟩) := by
        unfold applyB
        rw [if_neg hh, if_neg ht, if_neg (by simp)]
        dsimp only
        rw [hf]
        rfl
      have hfail := decideE_fail (e := ⟨3, key, tick, ver, hun, text, acc⟩) (y := l.getD i default)
      rw [hA]
      generalize hR : decideE ⟨3, key, tick, ver, hun, text, acc⟩ (l.getD i default) = R at hfail ⊢
      obtain ⟨code, y'⟩ := R
      dsimp only at hfail ⊢
      (repeat (first | refine wpS_seq ?_ | refine wpS_reg ?_ | refine run_step rfl (by ((repeat' (first | exact allP_nil | refine allP_cons ?_ ?_ | intro _)) <;> first | assumption | omega | (simp only [cond_true, cond_false, bif_and, bif_or, decide_eq_true_eq, decide_eq_false_iff_not, Bool.and_eq_true, Bool.or_eq_true, Bool.not_eq_true', Bool.not_eq_false'] at *; omega) | (intros; first | rfl | assumption | omega | simp_all; done))) ?_ | refine run_nil ?_ | refine wpS_block ?_ | refine wpS_skip ?_ | refine wpS_exit ?_ | refine wpS_ret ?_))
      refine wpS_cond rfl (by ((repeat' (first | exact allP_nil | refine allP_cons ?_ ?_ | intro _)) <;> first | assumption | omega | (simp only [cond_true, cond_false, bif_and, bif_or, decide_eq_true_eq, decide_eq_false_iff_not, Bool.and_eq_true, Bool.or_eq_true, Bool.not_eq_true', Bool.not_eq_false'] at *; omega) | (intros; first | rfl | assumption | omega | simp_all; done))) (fun h => ?_) (fun h => ?_)
      · have hc : code ≠ 0 := by simpa using h
        have hy' := hfail hc
        rw [if_neg hc]
        (repeat (first | refine wpS_seq ?_ | refine wpS_reg ?_ | refine run_step rfl (by ((repeat' (first | exact allP_nil | refine allP_cons ?_ ?_ | intro _)) <;> first | assumption | omega | (simp only [cond_true, cond_false, bif_and, bif_or, decide_eq_true_eq, decide_eq_false_iff_not, Bool.and_eq_true, Bool.or_eq_true, Bool.not_eq_true', Bool.not_eq_false'] at *; omega) | (intros; first | rfl | assumption | omega | simp_all; done))) ?_ | refine run_nil ?_ | refine wpS_block ?_ | refine wpS_skip ?_ | refine wpS_exit ?_ | refine wpS_ret ?_))
        refine fin_mkR rfl ?_ ?_ <;> (repeat' (first | exact allP_nil | refine allP_cons ?_ ?_))
        all_goals first | rfl | (refine ⟨by simp, rfl, .inl rfl, fun _ _ => ?_⟩; rw [hy', set_self hi])
      · have hc : code = 0 := by simpa using h
        rw [if_pos hc]
        (repeat (first | refine wpS_seq ?_ | refine wpS_reg ?_ | refine run_step rfl (by ((repeat' (first | exact allP_nil | refine allP_cons ?_ ?_ | intro _)) <;> first | assumption | omega | (simp only [cond_true, cond_false, bif_and, bif_or, decide_eq_true_eq, decide_eq_false_iff_not, Bool.and_eq_true, Bool.or_eq_true, Bool.not_eq_true', Bool.not_eq_false'] at *; omega) | (intros; first | rfl | assumption | omega | simp_all; done))) ?_ | refine run_nil ?_ | refine wpS_block ?_ | refine wpS_skip ?_ | refine wpS_exit ?_ | refine wpS_ret ?_))
        refine fin_mkR rfl ?_ ?_ <;> (repeat' (first | exact allP_nil | refine allP_cons ?_ ?_))
        all_goals first | rfl | exact ⟨rfl, rfl, .inl rfl, fun _ _ => rfl⟩
    · simp at h
theorem apply_submit (t : Int) (l : List En) (e : Ev) (hk : e.kind = 0) (hs : SmV l) :
    SpecR Tryz.prog 45 [.loc PB 0, .agg (evA e)] [(PB, .blk 76 [.int .i64 t, .ref QN]), (QN, enR l)] (.int .i64 (applyB ⟨t, l⟩ e).1) [(PB, .blk 76 [.int .i64 (applyB ⟨t, l⟩ e).2.tick, .ref QN]), (QN, enR (applyB ⟨t, l⟩ e).2.ens)] := by
  have hb := hs.b
  obtain ⟨kind, key, tick, ver, hun, text, acc⟩ := e
  dsimp only at hk
  subst hk
  refine specR ok45 fun C _ => ?_
  refine wpS_seq ?_; refine wpS_reg ?_; (repeat (refine run_step rfl (by ((repeat' (first | exact allP_nil | refine allP_cons ?_ ?_ | intro _)) <;> first | assumption | omega | (simp only [cond_true, cond_false, bif_and, bif_or, decide_eq_true_eq, decide_eq_false_iff_not, Bool.and_eq_true, Bool.or_eq_true, Bool.not_eq_true', Bool.not_eq_false'] at *; omega) | (intros; first | rfl | assumption | omega | simp_all; done))) ?_)); refine run_nil ?_
  refine wpS_seq ?_; refine wpS_reg ?_; (repeat (refine run_step rfl (by ((repeat' (first | exact allP_nil | refine allP_cons ?_ ?_ | intro _)) <;> first | assumption | omega | (simp only [cond_true, cond_false, bif_and, bif_or, decide_eq_true_eq, decide_eq_false_iff_not, Bool.and_eq_true, Bool.or_eq_true, Bool.not_eq_true', Bool.not_eq_false'] at *; omega) | (intros; first | rfl | assumption | omega | simp_all; done))) ?_)); refine run_nil ?_
  (repeat (first | refine wpS_seq ?_ | refine wpS_reg ?_ | refine run_step rfl (by ((repeat' (first | exact allP_nil | refine allP_cons ?_ ?_ | intro _)) <;> first | assumption | omega | (simp only [cond_true, cond_false, bif_and, bif_or, decide_eq_true_eq, decide_eq_false_iff_not, Bool.and_eq_true, Bool.or_eq_true, Bool.not_eq_true', Bool.not_eq_false'] at *; omega) | (intros; first | rfl | assumption | omega | simp_all; done))) ?_ | refine run_nil ?_ | refine wpS_block ?_ | refine wpS_skip ?_ | refine wpS_exit ?_ | refine wpS_ret ?_))
  refine wpS_D (by kernel_rfl) ?_
  (repeat (refine trg_step rfl (by ((repeat' (first | exact allP_nil | refine allP_cons ?_ ?_ | intro _)) <;> first | assumption | omega | (simp only [cond_true, cond_false, bif_and, bif_or, decide_eq_true_eq, decide_eq_false_iff_not, Bool.and_eq_true, Bool.or_eq_true, Bool.not_eq_true', Bool.not_eq_false'] at *; omega) | (intros; first | rfl | assumption | omega | simp_all; done))) ?_))
  refine trg_c ((has_spec ⟨t, l⟩ ⟨0, key, tick, ver, hun, text, acc⟩ hs)) rfl (by ((repeat' (first | exact allP_nil | refine allP_cons ?_ ?_ | intro _)) <;> first | assumption | omega | (simp only [cond_true, cond_false, bif_and, bif_or, decide_eq_true_eq, decide_eq_false_iff_not, Bool.and_eq_true, Bool.or_eq_true, Bool.not_eq_true', Bool.not_eq_false'] at *; omega) | (intros; first | rfl | assumption | omega | simp_all; done))) rfl rfl (.inl rfl) ?_
  (repeat (refine trg_step rfl (by ((repeat' (first | exact allP_nil | refine allP_cons ?_ ?_ | intro _)) <;> first | assumption | omega | (simp only [cond_true, cond_false, bif_and, bif_or, decide_eq_true_eq, decide_eq_false_iff_not, Bool.and_eq_true, Bool.or_eq_true, Bool.not_eq_true', Bool.not_eq_false'] at *; omega) | (intros; first | rfl | assumption | omega | simp_all; done))) ?_))
  refine trg_nil ⟨rfl, ?_⟩
  refine wpS_cond rfl (by ((repeat' (first | exact allP_nil | refine allP_cons ?_ ?_ | intro _)) <;> first | assumption | omega | (simp only [cond_true, cond_false, bif_and, bif_or, decide_eq_true_eq, decide_eq_false_iff_not, Bool.and_eq_true, Bool.or_eq_true, Bool.not_eq_true', Bool.not_eq_false'] at *; omega) | (intros; first | rfl | assumption | omega | simp_all; done))) (fun h => ?_) (fun h => ?_)
  · have hA : applyB ⟨t, l⟩ ⟨0, key, tick, ver, hun, text, acc⟩ = (6, ⟨t, l⟩) := by unfold applyB; rw [if_pos h]
    rw [hA]
    (repeat (first | refine wpS_seq ?_ | refine wpS_reg ?_ | refine run_step rfl (by ((repeat' (first | exact allP_nil | refine allP_cons ?_ ?_ | intro _)) <;> first | assumption | omega | (simp only [cond_true, cond_false, bif_and, bif_or, decide_eq_true_eq, decide_eq_false_iff_not, Bool.and_eq_true, Bool.or_eq_true, Bool.not_eq_true', Bool.not_eq_false'] at *; omega) | (intros; first | rfl | assumption | omega | simp_all; done))) ?_ | refine run_nil ?_ | refine wpS_block ?_ | refine wpS_skip ?_ | refine wpS_exit ?_ | refine wpS_ret ?_))
    refine fin_mkR rfl ?_ ?_ <;> (repeat' (first | exact allP_nil | refine allP_cons ?_ ?_))
    all_goals first | rfl | exact ⟨rfl, rfl, .inl rfl, fun _ _ => rfl⟩
  have hh : ¬ hasB l ⟨0, key, tick, ver, hun, text, acc⟩ = true := by rw [show hasB l ⟨0, key, tick, ver, hun, text, acc⟩ = false from h]; simp
  clear h
  (repeat (first | refine wpS_seq ?_ | refine wpS_reg ?_ | refine run_step rfl (by ((repeat' (first | exact allP_nil | refine allP_cons ?_ ?_ | intro _)) <;> first | assumption | omega | (simp only [cond_true, cond_false, bif_and, bif_or, decide_eq_true_eq, decide_eq_false_iff_not, Bool.and_eq_true, Bool.or_eq_true, Bool.not_eq_true', Bool.not_eq_false'] at *; omega) | (intros; first | rfl | assumption | omega | simp_all; done))) ?_ | refine run_nil ?_ | refine wpS_block ?_ | refine wpS_skip ?_ | refine wpS_exit ?_ | refine wpS_ret ?_))
  refine wpS_D (by kernel_rfl) ?_; (repeat (refine trg_step rfl (by ((repeat' (first | exact allP_nil | refine allP_cons ?_ ?_ | intro _)) <;> first | assumption | omega | (simp only [cond_true, cond_false, bif_and, bif_or, decide_eq_true_eq, decide_eq_false_iff_not, Bool.and_eq_true, Bool.or_eq_true, Bool.not_eq_true', Bool.not_eq_false'] at *; omega) | (intros; first | rfl | assumption | omega | simp_all; done))) ?_)); refine trg_nil ⟨rfl, ?_⟩
  refine wpS_cond rfl (by ((repeat' (first | exact allP_nil | refine allP_cons ?_ ?_ | intro _)) <;> first | assumption | omega | (simp only [cond_true, cond_false, bif_and, bif_or, decide_eq_true_eq, decide_eq_false_iff_not, Bool.and_eq_true, Bool.or_eq_true, Bool.not_eq_true', Bool.not_eq_false'] at *; omega) | (intros; first | rfl | assumption | omega | simp_all; done))) (fun h => ?_) (fun h => ?_)
  · have ht : tick < t := by simpa using h
    have hA : applyB ⟨t, l⟩ ⟨0, key, tick, ver, hun, text, acc⟩ = (2, ⟨t, l⟩) := by unfold applyB; rw [if_neg hh, if_pos ht]
    rw [hA]
    (repeat (first | refine wpS_seq ?_ | refine wpS_reg ?_ | refine run_step rfl (by ((repeat' (first | exact allP_nil | refine allP_cons ?_ ?_ | intro _)) <;> first | assumption | omega | (simp only [cond_true, cond_false, bif_and, bif_or, decide_eq_true_eq, decide_eq_false_iff_not, Bool.and_eq_true, Bool.or_eq_true, Bool.not_eq_true', Bool.not_eq_false'] at *; omega) | (intros; first | rfl | assumption | omega | simp_all; done))) ?_ | refine run_nil ?_ | refine wpS_block ?_ | refine wpS_skip ?_ | refine wpS_exit ?_ | refine wpS_ret ?_))
    refine fin_mkR rfl ?_ ?_ <;> (repeat' (first | exact allP_nil | refine allP_cons ?_ ?_))
    all_goals first | rfl | exact ⟨rfl, rfl, .inl rfl, fun _ _ => rfl⟩
  have ht : ¬ tick < t := by simpa using h
  clear h
  (repeat (first | refine wpS_seq ?_ | refine wpS_reg ?_ | refine run_step rfl (by ((repeat' (first | exact allP_nil | refine allP_cons ?_ ?_ | intro _)) <;> first | assumption | omega | (simp only [cond_true, cond_false, bif_and, bif_or, decide_eq_true_eq, decide_eq_false_iff_not, Bool.and_eq_true, Bool.or_eq_true, Bool.not_eq_true', Bool.not_eq_false'] at *; omega) | (intros; first | rfl | assumption | omega | simp_all; done))) ?_ | refine run_nil ?_ | refine wpS_block ?_ | refine wpS_skip ?_ | refine wpS_exit ?_ | refine wpS_ret ?_))
  refine wpS_D (by kernel_rfl) ?_
  (repeat (refine trg_step rfl (by ((repeat' (first | exact allP_nil | refine allP_cons ?_ ?_ | intro _)) <;> first | assumption | omega | (simp only [cond_true, cond_false, bif_and, bif_or, decide_eq_true_eq, decide_eq_false_iff_not, Bool.and_eq_true, Bool.or_eq_true, Bool.not_eq_true', Bool.not_eq_false'] at *; omega) | (intros; first | rfl | assumption | omega | simp_all; done))) ?_))
  refine trg_c ((find_spec ⟨t, l⟩ key hb.l)) rfl (by ((repeat' (first | exact allP_nil | refine allP_cons ?_ ?_ | intro _)) <;> first | assumption | omega | (simp only [cond_true, cond_false, bif_and, bif_or, decide_eq_true_eq, decide_eq_false_iff_not, Bool.and_eq_true, Bool.or_eq_true, Bool.not_eq_true', Bool.not_eq_false'] at *; omega) | (intros; first | rfl | assumption | omega | simp_all; done))) rfl rfl (.inl rfl) ?_
  (repeat (refine trg_step rfl (by ((repeat' (first | exact allP_nil | refine allP_cons ?_ ?_ | intro _)) <;> first | assumption | omega | (simp only [cond_true, cond_false, bif_and, bif_or, decide_eq_true_eq, decide_eq_false_iff_not, Bool.and_eq_true, Bool.or_eq_true, Bool.not_eq_true', Bool.not_eq_false'] at *; omega) | (intros; first | rfl | assumption | omega | simp_all; done))) ?_))
  refine trg_nil ⟨rfl, ?_⟩
  have hA : applyB ⟨t, l⟩ ⟨0, key, tick, ver, hun, text, acc⟩ = if (submitE l ⟨0, key, tick, ver, hun, text, acc⟩).1 = 0 then (0, ⟨tick, (submitE l ⟨0, key, tick, ver, hun, text, acc⟩).2⟩) else ((submitE l ⟨0, key, tick, ver, hun, text, acc⟩).1, ⟨t, l⟩) := by
    unfold applyB submitE
    rw [if_neg hh, if_neg ht, if_pos rfl]
    dsimp only
    split
    · rfl
    · split
      · rfl
      · rfl
  have hfail : (submitE l ⟨0, key, tick, ver, hun, text, acc⟩).1 ≠ 0 → (submitE l ⟨0, key, tick, ver, hun, text, acc⟩).2 = l := by
    unfold submitE
    split
    · exact fun _ => rfl
    · split
      · exact fun _ => rfl
      · exact fun h => absurd rfl h
  rw [findI_eq]
  cases hf : findK (Bk.ens ⟨t, l⟩) key with
  | none =>
    dsimp only at hf ⊢
    (repeat (first | refine wpS_seq ?_ | refine wpS_reg ?_ | refine run_step rfl (by ((repeat' (first | exact allP_nil | refine allP_cons ?_ ?_ | intro _)) <;> first | assumption | omega | (simp only [cond_true, cond_false, bif_and, bif_or, decide_eq_true_eq, decide_eq_false_iff_not, Bool.and_eq_true, Bool.or_eq_true, Bool.not_eq_true', Bool.not_eq_false'] at *; omega) | (intros; first | rfl | assumption | omega | simp_all; done))) ?_ | refine run_nil ?_ | refine wpS_block ?_ | refine wpS_skip ?_ | refine wpS_exit ?_ | refine wpS_ret ?_))
    refine wpS_condF rfl (by ((repeat' (first | exact allP_nil | refine allP_cons ?_ ?_ | intro _)) <;> first | assumption | omega | (simp only [cond_true, cond_false, bif_and, bif_or, decide_eq_true_eq, decide_eq_false_iff_not, Bool.and_eq_true, Bool.or_eq_true, Bool.not_eq_true', Bool.not_eq_false'] at *; omega) | (intros; first | rfl | assumption | omega | simp_all; done))) ?_
    (repeat (first | refine wpS_seq ?_ | refine wpS_reg ?_ | refine run_step rfl (by ((repeat' (first | exact allP_nil | refine allP_cons ?_ ?_ | intro _)) <;> first | assumption | omega | (simp only [cond_true, cond_false, bif_and, bif_or, decide_eq_true_eq, decide_eq_false_iff_not, Bool.and_eq_true, Bool.or_eq_true, Bool.not_eq_true', Bool.not_eq_false'] at *; omega) | (intros; first | rfl | assumption | omega | simp_all; done))) ?_ | refine run_nil ?_ | refine wpS_block ?_ | refine wpS_skip ?_ | refine wpS_exit ?_ | refine wpS_ret ?_))
    refine wpS_condF rfl (by ((repeat' (first | exact allP_nil | refine allP_cons ?_ ?_ | intro _)) <;> first | assumption | omega | (simp only [cond_true, cond_false, bif_and, bif_or, decide_eq_true_eq, decide_eq_false_iff_not, Bool.and_eq_true, Bool.or_eq_true, Bool.not_eq_true', Bool.not_eq_false'] at *; omega) | (intros; first | rfl | assumption | omega | simp_all; done))) ?_
    (repeat (first | refine wpS_seq ?_ | refine wpS_reg ?_ | refine run_step rfl (by ((repeat' (first | exact allP_nil | refine allP_cons ?_ ?_ | intro _)) <;> first | assumption | omega | (simp only [cond_true, cond_false, bif_and, bif_or, decide_eq_true_eq, decide_eq_false_iff_not, Bool.and_eq_true, Bool.or_eq_true, Bool.not_eq_true', Bool.not_eq_false'] at *; omega) | (intros; first | rfl | assumption | omega | simp_all; done))) ?_ | refine run_nil ?_ | refine wpS_block ?_ | refine wpS_skip ?_ | refine wpS_exit ?_ | refine wpS_ret ?_))
    refine wpS_D (by kernel_rfl) ?_
    (repeat (refine trg_step rfl (by ((repeat' (first | exact allP_nil | refine allP_cons ?_ ?_ | intro _)) <;> first | assumption | omega | (simp only [cond_true, cond_false, bif_and, bif_or, decide_eq_true_eq, decide_eq_false_iff_not, Bool.and_eq_true, Bool.or_eq_true, Bool.not_eq_true', Bool.not_eq_false'] at *; omega) | (intros; first | rfl | assumption | omega | simp_all; done))) ?_))
    refine trg_cR (env := keepE _ [0, 3, 48, 49, 50]) id [PB, QN] (ent_keep [0, 3, 48, 49, 50] [PB, QN, 3]) (submit_spec l t ⟨0, key, tick, ver, hun, text, acc⟩ hb.1) rfl rfl ⟨rfl, rfl, trivial⟩ rfl ?_
    (repeat (refine trg_step rfl (by ((repeat' (first | exact allP_nil | refine allP_cons ?_ ?_ | intro _)) <;> first | assumption | omega | (simp only [cond_true, cond_false, bif_and, bif_or, decide_eq_true_eq, decide_eq_false_iff_not, Bool.and_eq_true, Bool.or_eq_true, Bool.not_eq_true', Bool.not_eq_false'] at *; omega) | (intros; first | rfl | assumption | omega | simp_all; done))) ?_))
    refine trg_nil ⟨rfl, ?_⟩
    rw [hA]
    generalize hR : submitE l ⟨0, key, tick, ver, hun, text, acc⟩ = R at hfail ⊢
    obtain ⟨code, l'⟩ := R
    dsimp only at hfail ⊢
    (repeat (first | refine wpS_seq ?_ | refine wpS_reg ?_ | refine run_step rfl (by ((repeat' (first | exact allP_nil | refine allP_cons ?_ ?_ | intro _)) <;> first | assumption | omega | (simp only [cond_true, cond_false, bif_and, bif_or, decide_eq_true_eq, decide_eq_false_iff_not, Bool.and_eq_true, Bool.or_eq_true, Bool.not_eq_true', Bool.not_eq_false'] at *; omega) | (intros; first | rfl | assumption | omega | simp_all; done))) ?_ | refine run_nil ?_ | refine wpS_block ?_ | refine wpS_skip ?_ | refine wpS_exit ?_ | refine wpS_ret ?_))
    refine wpS_cond rfl (by ((repeat' (first | exact allP_nil | refine allP_cons ?_ ?_ | intro _)) <;> first | assumption | omega | (simp only [cond_true, cond_false, bif_and, bif_or, decide_eq_true_eq, decide_eq_false_iff_not, Bool.and_eq_true, Bool.or_eq_true, Bool.not_eq_true', Bool.not_eq_false'] at *; omega) | (intros; first | rfl | assumption | omega | simp_all; done))) (fun h => ?_) (fun h => ?_)
    · have hc : code ≠ 0 := by simpa using h
      have hy' := hfail hc
      rw [if_neg hc]
      (repeat (first | refine wpS_seq ?_ | refine wpS_reg ?_ | refine run_step rfl (by ((repeat' (first | exact allP_nil | refine allP_cons ?_ ?_ | intro _)) <;> first | assumption | omega | (simp only [cond_true, cond_false, bif_and, bif_or, decide_eq_true_eq, decide_eq_false_iff_not, Bool.and_eq_true, Bool.or_eq_true, Bool.not_eq_true', Bool.not_eq_false'] at *; omega) | (intros; first | rfl | assumption | omega | simp_all; done))) ?_ | refine run_nil ?_ | refine wpS_block ?_ | refine wpS_skip ?_ | refine wpS_exit ?_ | refine wpS_ret ?_))
      refine fin_mkR rfl ?_ ?_ <;> (repeat' (first | exact allP_nil | refine allP_cons ?_ ?_))
      all_goals first | rfl | (refine ⟨by rw [hy'], rfl, .inl rfl, fun _ _ => ?_⟩; rw [hy'])
    · have hc : code = 0 := by simpa using h
      rw [if_pos hc]
      (repeat (first | refine wpS_seq ?_ | refine wpS_reg ?_ | refine run_step rfl (by ((repeat' (first | exact allP_nil | refine allP_cons ?_ ?_ | intro _)) <;> first | assumption | omega | (simp only [cond_true, cond_false, bif_and, bif_or, decide_eq_true_eq, decide_eq_false_iff_not, Bool.and_eq_true, Bool.or_eq_true, Bool.not_eq_true', Bool.not_eq_false'] at *; omega) | (intros; first | rfl | assumption | omega | simp_all; done))) ?_ | refine run_nil ?_ | refine wpS_block ?_ | refine wpS_skip ?_ | refine wpS_exit ?_ | refine wpS_ret ?_))
      refine fin_mkR rfl ?_ ?_ <;> (repeat' (first | exact allP_nil | refine allP_cons ?_ ?_))
      all_goals first | rfl | exact ⟨rfl, rfl, .inl rfl, fun _ _ => rfl⟩

  | some i =>
    dsimp only at hf ⊢
    obtain ⟨hi, hik, _⟩ := findK_some hf
    (repeat (first | refine wpS_seq ?_ | refine wpS_reg ?_ | refine run_step rfl (by ((repeat' (first | exact allP_nil | refine allP_cons ?_ ?_ | intro _)) <;> first | assumption | omega | (simp only [cond_true, cond_false, bif_and, bif_or, decide_eq_true_eq, decide_eq_false_iff_not, Bool.and_eq_true, Bool.or_eq_true, Bool.not_eq_true', Bool.not_eq_false'] at *; omega) | (intros; first | rfl | assumption | omega | simp_all; done))) ?_ | refine run_nil ?_ | refine wpS_block ?_ | refine wpS_skip ?_ | refine wpS_exit ?_ | refine wpS_ret ?_))
    refine wpS_cond rfl (by ((repeat' (first | exact allP_nil | refine allP_cons ?_ ?_ | intro _)) <;> first | assumption | omega | (simp only [cond_true, cond_false, bif_and, bif_or, decide_eq_true_eq, decide_eq_false_iff_not, Bool.and_eq_true, Bool.or_eq_true, Bool.not_eq_true', Bool.not_eq_false'] at *; omega) | (intros; first | rfl | assumption | omega | simp_all; done))) (fun h => ?_) (fun h => ?_)
    · clear h
      (repeat (first | refine wpS_seq ?_ | refine wpS_reg ?_ | refine run_step rfl (by ((repeat' (first | exact allP_nil | refine allP_cons ?_ ?_ | intro _)) <;> first | assumption | omega | (simp only [cond_true, cond_false, bif_and, bif_or, decide_eq_true_eq, decide_eq_false_iff_not, Bool.and_eq_true, Bool.or_eq_true, Bool.not_eq_true', Bool.not_eq_false'] at *; omega) | (intros; first | rfl | assumption | omega | simp_all; done))) ?_ | refine run_nil ?_ | refine wpS_block ?_ | refine wpS_skip ?_ | refine wpS_exit ?_ | refine wpS_ret ?_))
      refine wpS_D (by kernel_rfl) ?_
      (repeat (refine trg_step rfl (by ((repeat' (first | exact allP_nil | refine allP_cons ?_ ?_ | intro _)) <;> first | assumption | omega | (simp only [cond_true, cond_false, bif_and, bif_or, decide_eq_true_eq, decide_eq_false_iff_not, Bool.and_eq_true, Bool.or_eq_true, Bool.not_eq_true', Bool.not_eq_false'] at *; omega) | (intros; first | rfl | assumption | omega | simp_all; done))) ?_))
      refine trg_cR (env := keepE _ [0, 3, 48, 49, 50]) id [PB, QN] (ent_keep [0, 3, 48, 49, 50] [PB, QN, 3]) (submit_spec l t ⟨0, key, tick, ver, hun, text, acc⟩ hb.1) rfl rfl ⟨rfl, rfl, trivial⟩ rfl ?_
      (repeat (refine trg_step rfl (by ((repeat' (first | exact allP_nil | refine allP_cons ?_ ?_ | intro _)) <;> first | assumption | omega | (simp only [cond_true, cond_false, bif_and, bif_or, decide_eq_true_eq, decide_eq_false_iff_not, Bool.and_eq_true, Bool.or_eq_true, Bool.not_eq_true', Bool.not_eq_false'] at *; omega) | (intros; first | rfl | assumption | omega | simp_all; done))) ?_))
      refine trg_nil ⟨rfl, ?_⟩
      rw [hA]
      generalize hR : submitE l ⟨0, key, tick, ver, hun, text, acc⟩ = R at hfail ⊢
      obtain ⟨code, l'⟩ := R
      dsimp only at hfail ⊢
      (repeat (first | refine wpS_seq ?_ | refine wpS_reg ?_ | refine run_step rfl (by ((repeat' (first | exact allP_nil | refine allP_cons ?_ ?_ | intro _)) <;> first | assumption | omega | (simp only [cond_true, cond_false, bif_and, bif_or, decide_eq_true_eq, decide_eq_false_iff_not, Bool.and_eq_true, Bool.or_eq_true, Bool.not_eq_true', Bool.not_eq_false'] at *; omega) | (intros; first | rfl | assumption | omega | simp_all; done))) ?_ | refine run_nil ?_ | refine wpS_block ?_ | refine wpS_skip ?_ | refine wpS_exit ?_ | refine wpS_ret ?_))
      refine wpS_cond rfl (by ((repeat' (first | exact allP_nil | refine allP_cons ?_ ?_ | intro _)) <;> first | assumption | omega | (simp only [cond_true, cond_false, bif_and, bif_or, decide_eq_true_eq, decide_eq_false_iff_not, Bool.and_eq_true, Bool.or_eq_true, Bool.not_eq_true', Bool.not_eq_false'] at *; omega) | (intros; first | rfl | assumption | omega | simp_all; done))) (fun h => ?_) (fun h => ?_)
      · have hc : code ≠ 0 := by simpa using h
        have hy' := hfail hc
        rw [if_neg hc]
        (repeat (first | refine wpS_seq ?_ | refine wpS_reg ?_ | refine run_step rfl (by ((repeat' (first | exact allP_nil | refine allP_cons ?_ ?_ | intro _)) <;> first | assumption | omega | (simp only [cond_true, cond_false, bif_and, bif_or, decide_eq_true_eq, decide_eq_false_iff_not, Bool.and_eq_true, Bool.or_eq_true, Bool.not_eq_true', Bool.not_eq_false'] at *; omega) | (intros; first | rfl | assumption | omega | simp_all; done))) ?_ | refine run_nil ?_ | refine wpS_block ?_ | refine wpS_skip ?_ | refine wpS_exit ?_ | refine wpS_ret ?_))
        refine fin_mkR rfl ?_ ?_ <;> (repeat' (first | exact allP_nil | refine allP_cons ?_ ?_))
        all_goals first | rfl | (refine ⟨by rw [hy'], rfl, .inl rfl, fun _ _ => ?_⟩; rw [hy'])
      · have hc : code = 0 := by simpa using h
        rw [if_pos hc]
        (repeat (first | refine wpS_seq ?_ | refine wpS_reg ?_ | refine run_step rfl (by ((repeat' (first | exact allP_nil | refine allP_cons ?_ ?_ | intro _)) <;> first | assumption | omega | (simp only [cond_true, cond_false, bif_and, bif_or, decide_eq_true_eq, decide_eq_false_iff_not, Bool.and_eq_true, Bool.or_eq_true, Bool.not_eq_true', Bool.not_eq_false'] at *; omega) | (intros; first | rfl | assumption | omega | simp_all; done))) ?_ | refine run_nil ?_ | refine wpS_block ?_ | refine wpS_skip ?_ | refine wpS_exit ?_ | refine wpS_ret ?_))
        refine fin_mkR rfl ?_ ?_ <;> (repeat' (first | exact allP_nil | refine allP_cons ?_ ?_))
        all_goals first | rfl | exact ⟨rfl, rfl, .inl rfl, fun _ _ => rfl⟩
    · simp at h
end Go.Proofs
end
/- part BkValid -/
section
namespace Go.Proofs
open Go.Av Go.Pu
theorem apply_spec (t : Int) (l : List En) (e : Ev) (hk : 0 ≤ e.kind ∧ e.kind ≤ 3) (hs : SmV l) :
    SpecR Tryz.prog 45 [.loc PB 0, .agg (evA e)] [(PB, .blk 76 [.int .i64 t, .ref QN]), (QN, enR l)] (.int .i64 (applyB ⟨t, l⟩ e).1) [(PB, .blk 76 [.int .i64 (applyB ⟨t, l⟩ e).2.tick, .ref QN]), (QN, enR (applyB ⟨t, l⟩ e).2.ens)] := by
  have : e.kind = 0 ∨ e.kind = 1 ∨ e.kind = 2 ∨ e.kind = 3 := by omega
  rcases this with h | h | h | h
  · exact apply_submit t l e h hs
  · exact apply_grade t l e h hs
  · exact apply_appeal t l e h hs
  · exact apply_decide t l e h hs
def ρv (q : Nat) : Nat := bif Nat.beq q PB then 11 else q
theorem replay_none {l : List Ev} {b c : Bk} {k : Nat} (hk : k < l.length) (h : replay (l.take k) b = some c) (hs : stepB c (l.getD k default) = none) : replay l b = none := by
  have h1 := List.take_append_drop k l
  rw [List.drop_eq_getElem_cons hk] at h1
  rw [← h1, replay_append, h, Option.bind_some, replay_cons, show l[k] = l.getD k default by simp [List.getD_eq_getElem?_getD, hk], hs]
  rfl
theorem replay_some {l : List Ev} {b c d : Bk} {k : Nat} (hk : k < l.length) (h : replay (l.take k) b = some c) (hs : stepB c (l.getD k default) = some d) : replay (l.take (k + 1)) b = some d := by
  rw [List.take_succ_eq_append_getElem hk, replay_append, h, Option.bind_some, replay_cons, show l[k] = l.getD k default by simp [List.getD_eq_getElem?_getD, hk], hs]
  rfl
theorem bk_eta (b : Bk) : (⟨b.tick, b.ens⟩ : Bk) = b := rfl
set_option maxHeartbeats 1000000 in
theorem valid_spec (b : Bk) (hs : SmV b.ens) (hn : ∀ e ∈ evsBk b.ens, e.key.stu.length ≤ maxL ∧ e.key.ex.length ≤ maxL) : Spec0 Tryz.prog 32 [bkA b] (.bool (validB b)) := by
  have hb := hs.b
  have hbl := hb.1
  have hel : (evsBk b.ens).length ≤ 1000000 := by unfold evsBk; rw [length_sortS]; exact hs
  obtain ⟨l, hl⟩ : ∃ l, l = evsBk b.ens := ⟨_, rfl⟩
  rw [← hl] at hel hn
  refine spec0 ok32 rfl fun C _ => ?_
  (repeat (first | refine wpS_seq ?_ | refine wpS_reg ?_ | refine run_step rfl (by ((repeat' (first | exact allP_nil | refine allP_cons ?_ ?_ | intro _)) <;> first | assumption | omega | (simp only [cond_true, cond_false, bif_and, bif_or, decide_eq_true_eq, decide_eq_false_iff_not, Bool.and_eq_true, Bool.or_eq_true, Bool.not_eq_true', Bool.not_eq_false'] at *; omega) | (intros; first | rfl | assumption | omega | simp_all; done))) ?_ | refine run_nil ?_ | refine wpS_block ?_ | refine wpS_skip ?_ | refine wpS_exit ?_ | refine wpS_ret ?_))
  refine wpS_cond rfl (by ((repeat' (first | exact allP_nil | refine allP_cons ?_ ?_ | intro _)) <;> first | assumption | omega | (simp only [cond_true, cond_false, bif_and, bif_or, decide_eq_true_eq, decide_eq_false_iff_not, Bool.and_eq_true, Bool.or_eq_true, Bool.not_eq_true', Bool.not_eq_false'] at *; omega) | (intros; first | rfl | assumption | omega | simp_all; done))) (fun h => ?_) (fun h => ?_)
  · have h9 : ¬ b.ens.length ≤ 256 := by simp at h; omega
    (repeat (first | refine wpS_seq ?_ | refine wpS_reg ?_ | refine run_step rfl (by ((repeat' (first | exact allP_nil | refine allP_cons ?_ ?_ | intro _)) <;> first | assumption | omega | (simp only [cond_true, cond_false, bif_and, bif_or, decide_eq_true_eq, decide_eq_false_iff_not, Bool.and_eq_true, Bool.or_eq_true, Bool.not_eq_true', Bool.not_eq_false'] at *; omega) | (intros; first | rfl | assumption | omega | simp_all; done))) ?_ | refine run_nil ?_ | refine wpS_block ?_ | refine wpS_skip ?_ | refine wpS_exit ?_ | refine wpS_ret ?_))
    refine fin_mk rfl ?_; (repeat' (first | exact allP_nil | refine allP_cons ?_ ?_))
    unfold validB
    simp [h9]
  have h9 : b.ens.length ≤ 256 := by simp at h; omega
  clear h
  (repeat (first | refine wpS_seq ?_ | refine wpS_reg ?_ | refine run_step rfl (by ((repeat' (first | exact allP_nil | refine allP_cons ?_ ?_ | intro _)) <;> first | assumption | omega | (simp only [cond_true, cond_false, bif_and, bif_or, decide_eq_true_eq, decide_eq_false_iff_not, Bool.and_eq_true, Bool.or_eq_true, Bool.not_eq_true', Bool.not_eq_false'] at *; omega) | (intros; first | rfl | assumption | omega | simp_all; done))) ?_ | refine run_nil ?_ | refine wpS_block ?_ | refine wpS_skip ?_ | refine wpS_exit ?_ | refine wpS_ret ?_))
  refine run_c ((events_spec b hs)) rfl (by ((repeat' (first | exact allP_nil | refine allP_cons ?_ ?_ | intro _)) <;> first | assumption | omega | (simp only [cond_true, cond_false, bif_and, bif_or, decide_eq_true_eq, decide_eq_false_iff_not, Bool.and_eq_true, Bool.or_eq_true, Bool.not_eq_true', Bool.not_eq_false'] at *; omega) | (intros; first | rfl | assumption | omega | simp_all; done))) rfl rfl (.inr rfl) ?_
  rw [← hl]
  (repeat (first | refine wpS_seq ?_ | refine wpS_reg ?_ | refine run_step rfl (by ((repeat' (first | exact allP_nil | refine allP_cons ?_ ?_ | intro _)) <;> first | assumption | omega | (simp only [cond_true, cond_false, bif_and, bif_or, decide_eq_true_eq, decide_eq_false_iff_not, Bool.and_eq_true, Bool.or_eq_true, Bool.not_eq_true', Bool.not_eq_false'] at *; omega) | (intros; first | rfl | assumption | omega | simp_all; done))) ?_ | refine run_nil ?_ | refine wpS_block ?_ | refine wpS_skip ?_ | refine wpS_exit ?_))
  refine wpS_ent (ent_nameB 11 1 QN 39 7 (enF []) rfl rfl rfl) ?_
  refine wpS_ent (ent_rowO QN rfl) ?_
  refine wpS_loop (fun p : Nat × Bk => p.1 ≤ l.length ∧ replay (l.take p.1) empty = some p.2) (fun p => ⟨[(1, .loc 1 0), (3, .loc 11 0), (13, evsA l), (14, .int .i64 (l.length : Nat)), (15, .int .i64 (p.1 : Nat))], [(1, .blk 31 [.int .i64 b.tick, lsA 7 enA b.ens]), (11, .blk 76 [.int .i64 p.2.tick, .ref QN]), (QN, enR p.2.ens)]⟩) (fun p => l.length - p.1) (0, empty) ⟨by omega, rfl⟩
    (by refine ent_le ?_; (repeat' (first | exact allP_nil | refine allP_cons ?_ ?_)) <;> first | rfl | exact ⟨rfl, rfl, .inl rfl, fun _ _ => rfl⟩ | exact ⟨rfl, fun _ _ => rfl⟩) ?_
  rintro ⟨k, c⟩ ⟨hk, hr⟩
  dsimp only at hk hr ⊢
  have hcl := replay_len hr
  rw [List.length_take, Nat.min_eq_left hk, show (evsRaw empty.ens).length = 0 from rfl, Nat.zero_add] at hcl
  have hcs : SmV c.ens := by unfold SmV; omega
  (repeat (first | refine wpS_seq ?_ | refine wpS_reg ?_ | refine run_step rfl (by ((repeat' (first | exact allP_nil | refine allP_cons ?_ ?_ | intro _)) <;> first | assumption | omega | (simp only [cond_true, cond_false, bif_and, bif_or, decide_eq_true_eq, decide_eq_false_iff_not, Bool.and_eq_true, Bool.or_eq_true, Bool.not_eq_true', Bool.not_eq_false'] at *; omega) | (intros; first | rfl | assumption | omega | simp_all; done))) ?_ | refine run_nil ?_ | refine wpS_block ?_ | refine wpS_skip ?_ | refine wpS_exit ?_ | refine wpS_ret ?_))
  refine wpS_cond rfl (by ((repeat' (first | exact allP_nil | refine allP_cons ?_ ?_ | intro _)) <;> first | assumption | omega | (simp only [cond_true, cond_false, bif_and, bif_or, decide_eq_true_eq, decide_eq_false_iff_not, Bool.and_eq_true, Bool.or_eq_true, Bool.not_eq_true', Bool.not_eq_false'] at *; omega) | (intros; first | rfl | assumption | omega | simp_all; done))) (fun h => ?_) (fun h => ?_)
  · have hlt : k < l.length := by simpa using h
    clear h
    have hm := hn _ (getD_mem hlt)
    obtain ⟨e, he⟩ : ∃ e, e = l.getD k default := ⟨_, rfl⟩
    rw [← he] at hm
    (repeat (first | refine wpS_seq ?_ | refine wpS_reg ?_ | refine run_step rfl (by ((repeat' (first | exact allP_nil | refine allP_cons ?_ ?_ | intro _)) <;> first | assumption | omega | (simp only [cond_true, cond_false, bif_and, bif_or, decide_eq_true_eq, decide_eq_false_iff_not, Bool.and_eq_true, Bool.or_eq_true, Bool.not_eq_true', Bool.not_eq_false'] at *; omega) | (intros; first | rfl | assumption | omega | simp_all; done))) ?_ | refine run_nil ?_ | refine wpS_block ?_ | refine wpS_skip ?_ | refine wpS_exit ?_ | refine wpS_ret ?_))
    rw [show ((k : Int)).toNat = k from Int.toNat_natCast k, ← he]
    (repeat (first | refine wpS_seq ?_ | refine wpS_reg ?_ | refine run_step rfl (by ((repeat' (first | exact allP_nil | refine allP_cons ?_ ?_ | intro _)) <;> first | assumption | omega | (simp only [cond_true, cond_false, bif_and, bif_or, decide_eq_true_eq, decide_eq_false_iff_not, Bool.and_eq_true, Bool.or_eq_true, Bool.not_eq_true', Bool.not_eq_false'] at *; omega) | (intros; first | rfl | assumption | omega | simp_all; done))) ?_ | refine run_nil ?_ | refine wpS_block ?_ | refine wpS_skip ?_ | refine wpS_exit ?_ | refine wpS_ret ?_))
    refine run_c ((validEvent_spec e hm.1 hm.2)) rfl (by ((repeat' (first | exact allP_nil | refine allP_cons ?_ ?_ | intro _)) <;> first | assumption | omega | (simp only [cond_true, cond_false, bif_and, bif_or, decide_eq_true_eq, decide_eq_false_iff_not, Bool.and_eq_true, Bool.or_eq_true, Bool.not_eq_true', Bool.not_eq_false'] at *; omega) | (intros; first | rfl | assumption | omega | simp_all; done))) rfl rfl (.inl rfl) ?_
    cases hv : validEv e with
    | false =>
      have hst : stepB c e = none := by unfold stepB; rw [hv]; rfl
      (repeat (first | refine wpS_seq ?_ | refine wpS_reg ?_ | refine run_step rfl (by ((repeat' (first | exact allP_nil | refine allP_cons ?_ ?_ | intro _)) <;> first | assumption | omega | (simp only [cond_true, cond_false, bif_and, bif_or, decide_eq_true_eq, decide_eq_false_iff_not, Bool.and_eq_true, Bool.or_eq_true, Bool.not_eq_true', Bool.not_eq_false'] at *; omega) | (intros; first | rfl | assumption | omega | simp_all; done))) ?_ | refine run_nil ?_ | refine wpS_block ?_ | refine wpS_skip ?_ | refine wpS_exit ?_))
      refine run_skipC (.int .i64 0) rfl ?_
      (repeat (first | refine wpS_seq ?_ | refine wpS_reg ?_ | refine run_step rfl (by ((repeat' (first | exact allP_nil | refine allP_cons ?_ ?_ | intro _)) <;> first | assumption | omega | (simp only [cond_true, cond_false, bif_and, bif_or, decide_eq_true_eq, decide_eq_false_iff_not, Bool.and_eq_true, Bool.or_eq_true, Bool.not_eq_true', Bool.not_eq_false'] at *; omega) | (intros; first | rfl | assumption | omega | simp_all; done))) ?_ | refine run_nil ?_ | refine wpS_block ?_ | refine wpS_skip ?_ | refine wpS_exit ?_ | refine wpS_ret ?_))
      refine wpS_condT rfl (by ((repeat' (first | exact allP_nil | refine allP_cons ?_ ?_ | intro _)) <;> first | assumption | omega | (simp only [cond_true, cond_false, bif_and, bif_or, decide_eq_true_eq, decide_eq_false_iff_not, Bool.and_eq_true, Bool.or_eq_true, Bool.not_eq_true', Bool.not_eq_false'] at *; omega) | (intros; first | rfl | assumption | omega | simp_all; done))) ?_
      (repeat (first | refine wpS_seq ?_ | refine wpS_reg ?_ | refine run_step rfl (by ((repeat' (first | exact allP_nil | refine allP_cons ?_ ?_ | intro _)) <;> first | assumption | omega | (simp only [cond_true, cond_false, bif_and, bif_or, decide_eq_true_eq, decide_eq_false_iff_not, Bool.and_eq_true, Bool.or_eq_true, Bool.not_eq_true', Bool.not_eq_false'] at *; omega) | (intros; first | rfl | assumption | omega | simp_all; done))) ?_ | refine run_nil ?_ | refine wpS_block ?_ | refine wpS_skip ?_ | refine wpS_exit ?_ | refine wpS_ret ?_))
      refine fin_mk rfl ?_; (repeat' (first | exact allP_nil | refine allP_cons ?_ ?_))
      unfold validB
      rw [← hl, replay_none hlt hr (by rw [← he]; exact hst)]
      simp
    | true =>
      (repeat (first | refine wpS_seq ?_ | refine wpS_reg ?_ | refine run_step rfl (by ((repeat' (first | exact allP_nil | refine allP_cons ?_ ?_ | intro _)) <;> first | assumption | omega | (simp only [cond_true, cond_false, bif_and, bif_or, decide_eq_true_eq, decide_eq_false_iff_not, Bool.and_eq_true, Bool.or_eq_true, Bool.not_eq_true', Bool.not_eq_false'] at *; omega) | (intros; first | rfl | assumption | omega | simp_all; done))) ?_ | refine run_nil ?_ | refine wpS_block ?_ | refine wpS_skip ?_ | refine wpS_exit ?_))
      refine run_ent (ent_und 23 rfl) ?_
      refine run_ent (ent_und 24 rfl) ?_
      refine run_cRg ρv [PB, QN] rfl (apply_spec c.tick c.ens e (validEv_kind hv) hcs) rfl rfl ⟨rfl, rfl, trivial⟩ rfl ?_
      rw [bk_eta]
      (repeat (first | refine wpS_seq ?_ | refine wpS_reg ?_ | refine run_step rfl (by ((repeat' (first | exact allP_nil | refine allP_cons ?_ ?_ | intro _)) <;> first | assumption | omega | (simp only [cond_true, cond_false, bif_and, bif_or, decide_eq_true_eq, decide_eq_false_iff_not, Bool.and_eq_true, Bool.or_eq_true, Bool.not_eq_true', Bool.not_eq_false'] at *; omega) | (intros; first | rfl | assumption | omega | simp_all; done))) ?_ | refine run_nil ?_ | refine wpS_block ?_ | refine wpS_skip ?_ | refine wpS_exit ?_))
      refine wpS_cond rfl (by ((repeat' (first | exact allP_nil | refine allP_cons ?_ ?_ | intro _)) <;> first | assumption | omega | (simp only [cond_true, cond_false, bif_and, bif_or, decide_eq_true_eq, decide_eq_false_iff_not, Bool.and_eq_true, Bool.or_eq_true, Bool.not_eq_true', Bool.not_eq_false'] at *; omega) | (intros; first | rfl | assumption | omega | simp_all; done))) (fun h => ?_) (fun h => ?_)
      · have hst : stepB c e = none := by
          unfold stepB; rw [hv]
          have : (applyB c e).1 ≠ 0 := by simpa using h
          simp [this]
        (repeat (first | refine wpS_seq ?_ | refine wpS_reg ?_ | refine run_step rfl (by ((repeat' (first | exact allP_nil | refine allP_cons ?_ ?_ | intro _)) <;> first | assumption | omega | (simp only [cond_true, cond_false, bif_and, bif_or, decide_eq_true_eq, decide_eq_false_iff_not, Bool.and_eq_true, Bool.or_eq_true, Bool.not_eq_true', Bool.not_eq_false'] at *; omega) | (intros; first | rfl | assumption | omega | simp_all; done))) ?_ | refine run_nil ?_ | refine wpS_block ?_ | refine wpS_skip ?_ | refine wpS_exit ?_ | refine wpS_ret ?_))
        refine fin_mk rfl ?_; (repeat' (first | exact allP_nil | refine allP_cons ?_ ?_))
        unfold validB
        rw [← hl, replay_none hlt hr (by rw [← he]; exact hst)]
        simp
      · have hst : stepB c e = some (applyB c e).2 := by
          unfold stepB; rw [hv]
          have : (applyB c e).1 = 0 := by simpa using h
          simp [this]
        (repeat (first | refine wpS_seq ?_ | refine wpS_reg ?_ | refine run_step rfl (by ((repeat' (first | exact allP_nil | refine allP_cons ?_ ?_ | intro _)) <;> first | assumption | omega | (simp only [cond_true, cond_false, bif_and, bif_or, decide_eq_true_eq, decide_eq_false_iff_not, Bool.and_eq_true, Bool.or_eq_true, Bool.not_eq_true', Bool.not_eq_false'] at *; omega) | (intros; first | rfl | assumption | omega | simp_all; done))) ?_ | refine run_nil ?_ | refine wpS_block ?_ | refine wpS_skip ?_ | refine wpS_exit ?_ | refine wpS_ret ?_))
        refine ⟨(k + 1, (applyB c e).2), ⟨by dsimp only; omega, replay_some hlt hr (by rw [← he]; exact hst)⟩, by dsimp only; omega, ?_⟩
        (refine ent_le ?_; (repeat' (first | exact allP_nil | refine allP_cons ?_ ?_)) <;> first | rfl | exact ⟨rfl, rfl, .inl rfl, fun _ _ => rfl⟩ | exact ⟨rfl, fun _ _ => rfl⟩)
  · have hlt : k = l.length := by simp at h; omega
    subst hlt
    clear h
    rw [List.take_length] at hr
    (repeat (first | refine wpS_seq ?_ | refine wpS_reg ?_ | refine run_step rfl (by ((repeat' (first | exact allP_nil | refine allP_cons ?_ ?_ | intro _)) <;> first | assumption | omega | (simp only [cond_true, cond_false, bif_and, bif_or, decide_eq_true_eq, decide_eq_false_iff_not, Bool.and_eq_true, Bool.or_eq_true, Bool.not_eq_true', Bool.not_eq_false'] at *; omega) | (intros; first | rfl | assumption | omega | simp_all; done))) ?_ | refine run_nil ?_ | refine wpS_block ?_ | refine wpS_skip ?_ | refine wpS_exit ?_ | refine wpS_ret ?_))
    refine wpS_D (by kernel_rfl) ?_
    (repeat (refine trg_step rfl (by ((repeat' (first | exact allP_nil | refine allP_cons ?_ ?_ | intro _)) <;> first | assumption | omega | (simp only [cond_true, cond_false, bif_and, bif_or, decide_eq_true_eq, decide_eq_false_iff_not, Bool.and_eq_true, Bool.or_eq_true, Bool.not_eq_true', Bool.not_eq_false'] at *; omega) | (intros; first | rfl | assumption | omega | simp_all; done))) ?_))
    refine trg_c ((same_spec c b hcs.b)) rfl (by ((repeat' (first | exact allP_nil | refine allP_cons ?_ ?_ | intro _)) <;> first | assumption | omega | (simp only [cond_true, cond_false, bif_and, bif_or, decide_eq_true_eq, decide_eq_false_iff_not, Bool.and_eq_true, Bool.or_eq_true, Bool.not_eq_true', Bool.not_eq_false'] at *; omega) | (intros; first | rfl | assumption | omega | simp_all; done))) rfl rfl (.inl rfl) ?_
    (repeat (refine trg_step rfl (by ((repeat' (first | exact allP_nil | refine allP_cons ?_ ?_ | intro _)) <;> first | assumption | omega | (simp only [cond_true, cond_false, bif_and, bif_or, decide_eq_true_eq, decide_eq_false_iff_not, Bool.and_eq_true, Bool.or_eq_true, Bool.not_eq_true', Bool.not_eq_false'] at *; omega) | (intros; first | rfl | assumption | omega | simp_all; done))) ?_))
    refine trg_nil ⟨rfl, ?_⟩
    (repeat (first | refine wpS_seq ?_ | refine wpS_reg ?_ | refine run_step rfl (by ((repeat' (first | exact allP_nil | refine allP_cons ?_ ?_ | intro _)) <;> first | assumption | omega | (simp only [cond_true, cond_false, bif_and, bif_or, decide_eq_true_eq, decide_eq_false_iff_not, Bool.and_eq_true, Bool.or_eq_true, Bool.not_eq_true', Bool.not_eq_false'] at *; omega) | (intros; first | rfl | assumption | omega | simp_all; done))) ?_ | refine run_nil ?_ | refine wpS_block ?_ | refine wpS_skip ?_ | refine wpS_exit ?_ | refine wpS_ret ?_))
    refine fin_mk rfl ?_; (repeat' (first | exact allP_nil | refine allP_cons ?_ ?_))
    unfold validB
    rw [← hl, hr]
    simp [h9]
end Go.Proofs
end
/- part BkApplyX -/
section
namespace Go.Proofs
open Go.Av Go.Pu
def Sm (b : Bk) : Prop := SmV b.ens ∧ ∀ e ∈ evsBk b.ens, e.key.stu.length ≤ maxL ∧ e.key.ex.length ≤ maxL
def SmK (e : Ev) : Prop := e.key.stu.length ≤ maxL ∧ e.key.ex.length ≤ maxL
def ρc (q : Nat) : Nat := bif Nat.beq q 8 then QN else q
def ρa (q : Nat) : Nat := bif Nat.beq q PB then 20 else q
theorem applyX_spec (b : Bk) (e : Ev) (hs : Sm b) (he : SmK e) : Spec0 Tryz.prog 14 [bkA b, .agg (evA e)] (.tup [bkA (applyX b e).2, .int .i64 (applyX b e).1]) := by
  have hb := hs.1.b
  have hbl := hb.1
  refine spec0 ok14 rfl fun C _ => ?_
  (repeat (first | refine wpS_seq ?_ | refine wpS_reg ?_ | refine run_step rfl (by ((repeat' (first | exact allP_nil | refine allP_cons ?_ ?_ | intro _)) <;> first | assumption | omega | (simp only [cond_true, cond_false, bif_and, bif_or, decide_eq_true_eq, decide_eq_false_iff_not, Bool.and_eq_true, Bool.or_eq_true, Bool.not_eq_true', Bool.not_eq_false'] at *; omega) | (intros; first | rfl | assumption | omega | simp_all; done))) ?_ | refine run_nil ?_ | refine wpS_block ?_ | refine wpS_skip ?_ | refine wpS_exit ?_ | refine wpS_ret ?_))
  refine run_c ((valid_spec b hs.1 hs.2)) rfl (by ((repeat' (first | exact allP_nil | refine allP_cons ?_ ?_ | intro _)) <;> first | assumption | omega | (simp only [cond_true, cond_false, bif_and, bif_or, decide_eq_true_eq, decide_eq_false_iff_not, Bool.and_eq_true, Bool.or_eq_true, Bool.not_eq_true', Bool.not_eq_false'] at *; omega) | (intros; first | rfl | assumption | omega | simp_all; done))) rfl rfl (.inl rfl) ?_
  (repeat (first | refine wpS_seq ?_ | refine wpS_reg ?_ | refine run_step rfl (by ((repeat' (first | exact allP_nil | refine allP_cons ?_ ?_ | intro _)) <;> first | assumption | omega | (simp only [cond_true, cond_false, bif_and, bif_or, decide_eq_true_eq, decide_eq_false_iff_not, Bool.and_eq_true, Bool.or_eq_true, Bool.not_eq_true', Bool.not_eq_false'] at *; omega) | (intros; first | rfl | assumption | omega | simp_all; done))) ?_ | refine run_nil ?_ | refine wpS_block ?_ | refine wpS_skip ?_ | refine wpS_exit ?_ | refine wpS_ret ?_))
  refine run_cg rfl (fun hG => ((validEvent_spec e he.1 he.2))) rfl (fun hG => by ((repeat' (first | exact allP_nil | refine allP_cons ?_ ?_ | intro _)) <;> first | assumption | omega | (simp only [cond_true, cond_false, bif_and, bif_or, decide_eq_true_eq, decide_eq_false_iff_not, Bool.and_eq_true, Bool.or_eq_true, Bool.not_eq_true', Bool.not_eq_false'] at *; omega) | (intros; first | rfl | assumption | omega | simp_all; done))) rfl rfl (.inl rfl) ?_
  (repeat (first | refine wpS_seq ?_ | refine wpS_reg ?_ | refine run_step rfl (by ((repeat' (first | exact allP_nil | refine allP_cons ?_ ?_ | intro _)) <;> first | assumption | omega | (simp only [cond_true, cond_false, bif_and, bif_or, decide_eq_true_eq, decide_eq_false_iff_not, Bool.and_eq_true, Bool.or_eq_true, Bool.not_eq_true', Bool.not_eq_false'] at *; omega) | (intros; first | rfl | assumption | omega | simp_all; done))) ?_ | refine run_nil ?_ | refine wpS_block ?_ | refine wpS_skip ?_ | refine wpS_exit ?_))
  refine wpS_cond rfl (by ((repeat' (first | exact allP_nil | refine allP_cons ?_ ?_ | intro _)) <;> first | assumption | omega | (simp only [cond_true, cond_false, bif_and, bif_or, decide_eq_true_eq, decide_eq_false_iff_not, Bool.and_eq_true, Bool.or_eq_true, Bool.not_eq_true', Bool.not_eq_false'] at *; omega) | (intros; first | rfl | assumption | omega | simp_all; done))) (fun h => ?_) (fun h => ?_)
  · have hA : applyX b e = (1, empty) := by
      unfold applyX
      rw [if_neg]
      simp at h
      cases h1 : validB b <;> cases h2 : validEv e <;> simp_all
    rw [hA]
    (repeat (first | refine wpS_seq ?_ | refine wpS_reg ?_ | refine run_step rfl (by ((repeat' (first | exact allP_nil | refine allP_cons ?_ ?_ | intro _)) <;> first | assumption | omega | (simp only [cond_true, cond_false, bif_and, bif_or, decide_eq_true_eq, decide_eq_false_iff_not, Bool.and_eq_true, Bool.or_eq_true, Bool.not_eq_true', Bool.not_eq_false'] at *; omega) | (intros; first | rfl | assumption | omega | simp_all; done))) ?_ | refine run_nil ?_ | refine wpS_block ?_ | refine wpS_skip ?_ | refine wpS_exit ?_ | refine wpS_ret ?_))
    refine fin_mk rfl ?_; (repeat' (first | exact allP_nil | refine allP_cons ?_ ?_))
    all_goals first | rfl | exact ⟨rfl, fun _ hi => absurd hi (Nat.not_lt_zero _)⟩
  have hve : validB b = true ∧ validEv e = true := by
    simp at h
    cases h1 : validB b <;> cases h2 : validEv e <;> simp_all
  have hA : applyX b e = (if (applyB b e).1 = 0 then applyB b e else ((applyB b e).1, empty)) := by
    unfold applyX
    rw [hve.1, hve.2]
    rfl
  clear h
  (repeat (first | refine wpS_seq ?_ | refine wpS_reg ?_ | refine run_step rfl (by ((repeat' (first | exact allP_nil | refine allP_cons ?_ ?_ | intro _)) <;> first | assumption | omega | (simp only [cond_true, cond_false, bif_and, bif_or, decide_eq_true_eq, decide_eq_false_iff_not, Bool.and_eq_true, Bool.or_eq_true, Bool.not_eq_true', Bool.not_eq_false'] at *; omega) | (intros; first | rfl | assumption | omega | simp_all; done))) ?_ | refine run_nil ?_ | refine wpS_block ?_ | refine wpS_skip ?_ | refine wpS_exit ?_ | refine wpS_ret ?_))
  refine run_cR ρc [8] (clone_spec b hb) rfl rfl trivial rfl ?_
  (repeat (first | refine wpS_seq ?_ | refine wpS_reg ?_ | refine run_step rfl (by ((repeat' (first | exact allP_nil | refine allP_cons ?_ ?_ | intro _)) <;> first | assumption | omega | (simp only [cond_true, cond_false, bif_and, bif_or, decide_eq_true_eq, decide_eq_false_iff_not, Bool.and_eq_true, Bool.or_eq_true, Bool.not_eq_true', Bool.not_eq_false'] at *; omega) | (intros; first | rfl | assumption | omega | simp_all; done))) ?_ | refine run_nil ?_ | refine wpS_block ?_ | refine wpS_skip ?_ | refine wpS_exit ?_ | refine wpS_ret ?_))
  refine run_ent (ent_keep [4, 5, 6, 21, 22] [20, QN, 4]) ?_
  refine run_cR ρa [PB, QN] (apply_spec b.tick b.ens e (validEv_kind hve.2) hs.1) rfl rfl ⟨rfl, rfl, trivial⟩ rfl ?_
  rw [bk_eta, hA]
  generalize applyB b e = R
  obtain ⟨code, c⟩ := R
  (repeat (first | refine wpS_seq ?_ | refine wpS_reg ?_ | refine run_step rfl (by ((repeat' (first | exact allP_nil | refine allP_cons ?_ ?_ | intro _)) <;> first | assumption | omega | (simp only [cond_true, cond_false, bif_and, bif_or, decide_eq_true_eq, decide_eq_false_iff_not, Bool.and_eq_true, Bool.or_eq_true, Bool.not_eq_true', Bool.not_eq_false'] at *; omega) | (intros; first | rfl | assumption | omega | simp_all; done))) ?_ | refine run_nil ?_ | refine wpS_block ?_ | refine wpS_skip ?_ | refine wpS_exit ?_ | refine wpS_ret ?_))
  refine wpS_cond rfl (by ((repeat' (first | exact allP_nil | refine allP_cons ?_ ?_ | intro _)) <;> first | assumption | omega | (simp only [cond_true, cond_false, bif_and, bif_or, decide_eq_true_eq, decide_eq_false_iff_not, Bool.and_eq_true, Bool.or_eq_true, Bool.not_eq_true', Bool.not_eq_false'] at *; omega) | (intros; first | rfl | assumption | omega | simp_all; done))) (fun h => ?_) (fun h => ?_)
  · have hc : code ≠ 0 := by simpa using h
    rw [if_neg hc]
    (repeat (first | refine wpS_seq ?_ | refine wpS_reg ?_ | refine run_step rfl (by ((repeat' (first | exact allP_nil | refine allP_cons ?_ ?_ | intro _)) <;> first | assumption | omega | (simp only [cond_true, cond_false, bif_and, bif_or, decide_eq_true_eq, decide_eq_false_iff_not, Bool.and_eq_true, Bool.or_eq_true, Bool.not_eq_true', Bool.not_eq_false'] at *; omega) | (intros; first | rfl | assumption | omega | simp_all; done))) ?_ | refine run_nil ?_ | refine wpS_block ?_ | refine wpS_skip ?_ | refine wpS_exit ?_ | refine wpS_ret ?_))
    refine fin_mk rfl ?_; (repeat' (first | exact allP_nil | refine allP_cons ?_ ?_))
    all_goals first | rfl | exact ⟨rfl, fun _ hi => absurd hi (Nat.not_lt_zero _)⟩
  · have hc : code = 0 := by simpa using h
    rw [if_pos hc, hc]
    (repeat (first | refine wpS_seq ?_ | refine wpS_reg ?_ | refine run_step rfl (by ((repeat' (first | exact allP_nil | refine allP_cons ?_ ?_ | intro _)) <;> first | assumption | omega | (simp only [cond_true, cond_false, bif_and, bif_or, decide_eq_true_eq, decide_eq_false_iff_not, Bool.and_eq_true, Bool.or_eq_true, Bool.not_eq_true', Bool.not_eq_false'] at *; omega) | (intros; first | rfl | assumption | omega | simp_all; done))) ?_ | refine run_nil ?_ | refine wpS_block ?_ | refine wpS_skip ?_ | refine wpS_exit ?_))
    refine wpS_ent (ent_keep [4, 5] [4, QN]) ?_
    refine wpS_ent (ent_fzO QN) ?_
    (repeat (first | refine wpS_seq ?_ | refine wpS_reg ?_ | refine run_step rfl (by ((repeat' (first | exact allP_nil | refine allP_cons ?_ ?_ | intro _)) <;> first | assumption | omega | (simp only [cond_true, cond_false, bif_and, bif_or, decide_eq_true_eq, decide_eq_false_iff_not, Bool.and_eq_true, Bool.or_eq_true, Bool.not_eq_true', Bool.not_eq_false'] at *; omega) | (intros; first | rfl | assumption | omega | simp_all; done))) ?_ | refine run_nil ?_ | refine wpS_block ?_ | refine wpS_skip ?_ | refine wpS_exit ?_ | refine wpS_ret ?_))
    refine fin_mk rfl ?_; (repeat' (first | exact allP_nil | refine allP_cons ?_ ?_))
    all_goals first | rfl | exact ⟨rfl, fun _ _ => rfl⟩
end Go.Proofs
end
/- part BkFew -/
section
namespace Go.Proofs
open Go.Av Go.Pu
def fewE (e : Ev) : Bool := decide (e.text.length ≤ 60) && (decide (e.key.stu.length ≤ 40) && decide (e.key.ex.length ≤ 40))
def fewB (l : List Ev) (most : Int) : Bool := l.all fewE && decide ((l.length : Int) ≤ most)
theorem few_spec (l : List Ev) (most : Int) (hl : l.length ≤ 9223372036854775807) : Spec0 Tryz.prog 12 [evsA l, .int .i64 most] (.bool (fewB l most)) := by
  refine spec0 ok12 rfl fun C _ => ?_
  (repeat (first | refine wpS_seq ?_ | refine wpS_reg ?_ | refine run_step rfl (by ((repeat' (first | exact allP_nil | refine allP_cons ?_ ?_ | intro _)) <;> first | assumption | omega | (simp only [cond_true, cond_false, bif_and, bif_or, decide_eq_true_eq, decide_eq_false_iff_not, Bool.and_eq_true, Bool.or_eq_true, Bool.not_eq_true', Bool.not_eq_false'] at *; omega) | (intros; first | rfl | assumption | omega | simp_all; done))) ?_ | refine run_nil ?_ | refine wpS_block ?_ | refine wpS_skip ?_ | refine wpS_exit ?_ | refine wpS_ret ?_))
  refine wpS_loop (fun k => k ≤ l.length ∧ (l.take k).all fewE = true) (fun k => ⟨[(0, evsA l), (1, .int .i64 most), (5, .int .i64 (k : Nat))], []⟩) (fun k => l.length - k) 0 ⟨by omega, by simp⟩ (by refine ent_le ?_; (repeat' (first | exact allP_nil | refine allP_cons ?_ ?_)) <;> simp) ?_
  rintro k ⟨hk, hall⟩
  (repeat (first | refine wpS_seq ?_ | refine wpS_reg ?_ | refine run_step rfl (by ((repeat' (first | exact allP_nil | refine allP_cons ?_ ?_ | intro _)) <;> first | assumption | omega | (simp only [cond_true, cond_false, bif_and, bif_or, decide_eq_true_eq, decide_eq_false_iff_not, Bool.and_eq_true, Bool.or_eq_true, Bool.not_eq_true', Bool.not_eq_false'] at *; omega) | (intros; first | rfl | assumption | omega | simp_all; done))) ?_ | refine run_nil ?_ | refine wpS_block ?_ | refine wpS_skip ?_ | refine wpS_exit ?_ | refine wpS_ret ?_))
  refine wpS_cond rfl (by ((repeat' (first | exact allP_nil | refine allP_cons ?_ ?_ | intro _)) <;> first | assumption | omega | (simp only [cond_true, cond_false, bif_and, bif_or, decide_eq_true_eq, decide_eq_false_iff_not, Bool.and_eq_true, Bool.or_eq_true, Bool.not_eq_true', Bool.not_eq_false'] at *; omega) | (intros; first | rfl | assumption | omega | simp_all; done))) (fun h => ?_) (fun h => ?_)
  · have hlt : k < l.length := by simpa using h
    (repeat (first | refine wpS_seq ?_ | refine wpS_reg ?_ | refine run_step rfl (by ((repeat' (first | exact allP_nil | refine allP_cons ?_ ?_ | intro _)) <;> first | assumption | omega | (simp only [cond_true, cond_false, bif_and, bif_or, decide_eq_true_eq, decide_eq_false_iff_not, Bool.and_eq_true, Bool.or_eq_true, Bool.not_eq_true', Bool.not_eq_false'] at *; omega) | (intros; first | rfl | assumption | omega | simp_all; done))) ?_ | refine run_nil ?_ | refine wpS_block ?_ | refine wpS_skip ?_ | refine wpS_exit ?_ | refine wpS_ret ?_))
    refine wpS_cond rfl (by ((repeat' (first | exact allP_nil | refine allP_cons ?_ ?_ | intro _)) <;> first | assumption | omega | (simp only [cond_true, cond_false, bif_and, bif_or, decide_eq_true_eq, decide_eq_false_iff_not, Bool.and_eq_true, Bool.or_eq_true, Bool.not_eq_true', Bool.not_eq_false'] at *; omega) | (intros; first | rfl | assumption | omega | simp_all; done))) (fun h => ?_) (fun h => ?_)
    · (repeat (first | refine wpS_seq ?_ | refine wpS_reg ?_ | refine run_step rfl (by ((repeat' (first | exact allP_nil | refine allP_cons ?_ ?_ | intro _)) <;> first | assumption | omega | (simp only [cond_true, cond_false, bif_and, bif_or, decide_eq_true_eq, decide_eq_false_iff_not, Bool.and_eq_true, Bool.or_eq_true, Bool.not_eq_true', Bool.not_eq_false'] at *; omega) | (intros; first | rfl | assumption | omega | simp_all; done))) ?_ | refine run_nil ?_ | refine wpS_block ?_ | refine wpS_skip ?_ | refine wpS_exit ?_ | refine wpS_ret ?_))
      refine fin_mk rfl ?_; (repeat' (first | exact allP_nil | refine allP_cons ?_ ?_))
      simp only [Int.toNat_natCast, getD_lt hlt] at h
      have hf : fewE l[k] = false := by
        cases hh : fewE l[k] with
        | false => rfl
        | true =>
          simp only [fewE, Bool.and_eq_true, decide_eq_true_eq] at hh
          simp only [show ¬ (60 < (l[k].text.length : Int)) by omega, show ¬ (40 < (l[k].key.stu.length : Int)) by omega, show ¬ (40 < (l[k].key.ex.length : Int)) by omega, decide_false, cond_false] at h
          cases h
      have ha : l.all fewE = false := by
        rw [List.all_eq_false]
        exact ⟨l[k], List.getElem_mem hlt, by simp [hf]⟩
      simp [fewB, ha]
    · (repeat (first | refine wpS_seq ?_ | refine wpS_reg ?_ | refine run_step rfl (by ((repeat' (first | exact allP_nil | refine allP_cons ?_ ?_ | intro _)) <;> first | assumption | omega | (simp only [cond_true, cond_false, bif_and, bif_or, decide_eq_true_eq, decide_eq_false_iff_not, Bool.and_eq_true, Bool.or_eq_true, Bool.not_eq_true', Bool.not_eq_false'] at *; omega) | (intros; first | rfl | assumption | omega | simp_all; done))) ?_ | refine run_nil ?_ | refine wpS_block ?_ | refine wpS_skip ?_ | refine wpS_exit ?_ | refine wpS_ret ?_))
      refine ⟨k + 1, ⟨by omega, ?_⟩, by dsimp only; omega, ?_⟩
      · rw [all_take_succ hlt, hall]
        simp only [Int.toNat_natCast, getD_lt hlt] at h
        simp only [fewE, Bool.true_and, Bool.and_eq_true, decide_eq_true_eq]
        by_cases h1 : 60 < (l[k].text.length : Int)
        · simp [h1] at h
        · by_cases h2 : 40 < (l[k].key.stu.length : Int)
          · simp [h1, h2] at h
          · simp [h1, h2] at h
            omega
      · refine ent_le ?_; (repeat' (first | exact allP_nil | refine allP_cons ?_ ?_)) <;> simp
  · have hlt : k = l.length := by simp at h; omega
    (repeat (first | refine wpS_seq ?_ | refine wpS_reg ?_ | refine run_step rfl (by ((repeat' (first | exact allP_nil | refine allP_cons ?_ ?_ | intro _)) <;> first | assumption | omega | (simp only [cond_true, cond_false, bif_and, bif_or, decide_eq_true_eq, decide_eq_false_iff_not, Bool.and_eq_true, Bool.or_eq_true, Bool.not_eq_true', Bool.not_eq_false'] at *; omega) | (intros; first | rfl | assumption | omega | simp_all; done))) ?_ | refine run_nil ?_ | refine wpS_block ?_ | refine wpS_skip ?_ | refine wpS_exit ?_ | refine wpS_ret ?_))
    refine fin_mk rfl ?_; (repeat' (first | exact allP_nil | refine allP_cons ?_ ?_))
    subst hlt
    simp at hall
    simp [fewB]
    exact fun _ => hall
end Go.Proofs
end
/- part BkMake -/
section
namespace Go.Proofs
open Go.Av Go.Pu
theorem validEv_smK {e : Ev} (h : validEv e = true) : SmK e := by
  have hk := validEv_key h
  have hn : ∀ s, nameB s = true → s.length ≤ maxL := by
    intro s hs
    unfold nameB at hs
    cases s with
    | nil => cases hs
    | cons c r =>
      simp only [Bool.and_eq_true, decide_eq_true_eq] at hs
      have := hs.1.1.1
      simp only [List.length_cons]
      exact Nat.le_trans (show r.length + 1 ≤ 17 by omega) (by decide)
  simp only [keyB, Bool.and_eq_true] at hk
  exact ⟨hn _ hk.1.1.1, hn _ hk.1.1.2⟩
theorem applyX_ok {b : Bk} {e : Ev} (h : (applyX b e).1 = 0) : validB b = true ∧ validEv e = true ∧ (applyB b e).1 = 0 ∧ (applyX b e).2 = (applyB b e).2 := by
  unfold applyX at h ⊢
  split at h
  · rename_i h1
    rw [if_pos h1]
    simp only [Bool.and_eq_true] at h1
    split at h
    · rename_i h2
      rw [if_pos h2]
      exact ⟨h1.1, h1.2, h2, rfl⟩
    · rename_i h2; exact absurd h h2
  · cases h
theorem make_app (l : List Ev) (x : Ev) : make (l ++ [x]) = if (applyX (make l) x).1 = 0 then (applyX (make l) x).2 else make l := by
  unfold make
  rw [List.foldl_append]
  rfl
theorem make_take {l : List Ev} {k : Nat} (h : k < l.length) : make (l.take (k + 1)) = if (applyX (make (l.take k)) (l.getD k default)).1 = 0 then (applyX (make (l.take k)) (l.getD k default)).2 else make (l.take k) := by
  rw [take_succ_get h, make_app, getD_lt h]
theorem make_inv (l : List Ev) : (evsRaw (make l).ens).length ≤ l.length ∧ ∀ e ∈ evsRaw (make l).ens, validEv e = true := by
  have key : ∀ k, k ≤ l.length → (evsRaw (make (l.take k)).ens).length ≤ k ∧ ∀ e ∈ evsRaw (make (l.take k)).ens, validEv e = true := by
    intro k
    induction k with
    | zero => intro _; exact ⟨by simp [make, empty, evsRaw], by simp [make, empty, evsRaw]⟩
    | succ k ih =>
      intro hk
      obtain ⟨h1, h2⟩ := ih (by omega)
      rw [make_take (by omega)]
      split
      · rename_i h
        obtain ⟨_, h4, h5, h6⟩ := applyX_ok h
        rw [h6]
        obtain ⟨L, R, e1, e2⟩ := stepR_ins h4 (applyB_iff.1 (Prod.ext h5 rfl)).2.2
        rw [e2]
        rw [e1] at h1 h2
        simp only [List.length_append, List.length_cons, List.mem_append, List.mem_cons] at *
        refine ⟨by omega, ?_⟩
        rintro e (he | rfl | he)
        · exact h2 e (.inl he)
        · exact h4
        · exact h2 e (.inr he)
      · exact ⟨by omega, h2⟩
  have := key l.length (Nat.le_refl _)
  rwa [List.take_length] at this
theorem make_sm {l : List Ev} (hl : l.length ≤ 1000000) : Sm (make l) := by
  obtain ⟨h1, h2⟩ := make_inv l
  refine ⟨Nat.le_trans h1 hl, fun e he => ?_⟩
  unfold evsBk at he
  rw [mem_sortS] at he
  exact validEv_smK (h2 e he)
theorem make_spec (l : List Ev) (hl : l.length ≤ 1000000) (he : ∀ e ∈ l, SmK e) : Spec0 Tryz.prog 13 [evsA l] (bkA (make l)) := by
  refine spec0 ok13 rfl fun C _ => ?_
  (repeat (first | refine wpS_seq ?_ | refine wpS_reg ?_ | refine run_step rfl (by ((repeat' (first | exact allP_nil | refine allP_cons ?_ ?_ | intro _)) <;> first | assumption | omega | (simp only [cond_true, cond_false, bif_and, bif_or, decide_eq_true_eq, decide_eq_false_iff_not, Bool.and_eq_true, Bool.or_eq_true, Bool.not_eq_true', Bool.not_eq_false'] at *; omega) | (intros; first | rfl | assumption | omega | simp_all; done))) ?_ | refine run_nil ?_ | refine wpS_block ?_ | refine wpS_skip ?_ | refine wpS_exit ?_ | refine wpS_ret ?_))
  refine wpS_loop (fun k => k ≤ l.length) (fun k => ⟨[(2, .loc 2 0), (3, .loc 3 0), (9, evsA l), (10, .int .i64 (l.length : Nat)), (11, .int .i64 (k : Nat))], [(2, .blk 31 [.int .i64 0, .nils]), (3, .blk 31 [.int .i64 (make (l.take k)).tick, lsA 7 enA (make (l.take k)).ens])]⟩) (fun k => l.length - k) 0 (by omega)
    (by refine ent_le ?_; (repeat' (first | exact allP_nil | refine allP_cons ?_ ?_)) <;> first | rfl | exact ⟨rfl, fun _ _ => rfl⟩ | exact ⟨rfl, fun _ hi => absurd hi (Nat.not_lt_zero _)⟩) ?_
  rintro k hk
  have hms : Sm (make (l.take k)) := make_sm (by rw [List.length_take]; omega)
  (repeat (first | refine wpS_seq ?_ | refine wpS_reg ?_ | refine run_step rfl (by ((repeat' (first | exact allP_nil | refine allP_cons ?_ ?_ | intro _)) <;> first | assumption | omega | (simp only [cond_true, cond_false, bif_and, bif_or, decide_eq_true_eq, decide_eq_false_iff_not, Bool.and_eq_true, Bool.or_eq_true, Bool.not_eq_true', Bool.not_eq_false'] at *; omega) | (intros; first | rfl | assumption | omega | simp_all; done))) ?_ | refine run_nil ?_ | refine wpS_block ?_ | refine wpS_skip ?_ | refine wpS_exit ?_ | refine wpS_ret ?_))
  refine wpS_cond rfl (by ((repeat' (first | exact allP_nil | refine allP_cons ?_ ?_ | intro _)) <;> first | assumption | omega | (simp only [cond_true, cond_false, bif_and, bif_or, decide_eq_true_eq, decide_eq_false_iff_not, Bool.and_eq_true, Bool.or_eq_true, Bool.not_eq_true', Bool.not_eq_false'] at *; omega) | (intros; first | rfl | assumption | omega | simp_all; done))) (fun h => ?_) (fun h => ?_)
  · have hlt : k < l.length := by simpa using h
    clear h
    have hm := he _ (getD_mem hlt)
    have hmt := make_take hlt
    obtain ⟨e, hee⟩ : ∃ e, e = l.getD k default := ⟨_, rfl⟩
    rw [← hee] at hm hmt
    obtain ⟨c, hc⟩ : ∃ c, c = make (l.take k) := ⟨_, rfl⟩
    rw [← hc] at hms hmt ⊢
    (repeat (first | refine wpS_seq ?_ | refine wpS_reg ?_ | refine run_step rfl (by ((repeat' (first | exact allP_nil | refine allP_cons ?_ ?_ | intro _)) <;> first | assumption | omega | (simp only [cond_true, cond_false, bif_and, bif_or, decide_eq_true_eq, decide_eq_false_iff_not, Bool.and_eq_true, Bool.or_eq_true, Bool.not_eq_true', Bool.not_eq_false'] at *; omega) | (intros; first | rfl | assumption | omega | simp_all; done))) ?_ | refine run_nil ?_ | refine wpS_block ?_ | refine wpS_skip ?_ | refine wpS_exit ?_ | refine wpS_ret ?_))
    rw [show ((k : Int)).toNat = k from Int.toNat_natCast k, ← hee]
    (repeat (first | refine wpS_seq ?_ | refine wpS_reg ?_ | refine run_step rfl (by ((repeat' (first | exact allP_nil | refine allP_cons ?_ ?_ | intro _)) <;> first | assumption | omega | (simp only [cond_true, cond_false, bif_and, bif_or, decide_eq_true_eq, decide_eq_false_iff_not, Bool.and_eq_true, Bool.or_eq_true, Bool.not_eq_true', Bool.not_eq_false'] at *; omega) | (intros; first | rfl | assumption | omega | simp_all; done))) ?_ | refine run_nil ?_ | refine wpS_block ?_ | refine wpS_skip ?_ | refine wpS_exit ?_ | refine wpS_ret ?_))
    refine run_c ((applyX_spec c e hms hm)) rfl (by ((repeat' (first | exact allP_nil | refine allP_cons ?_ ?_ | intro _)) <;> first | assumption | omega | (simp only [cond_true, cond_false, bif_and, bif_or, decide_eq_true_eq, decide_eq_false_iff_not, Bool.and_eq_true, Bool.or_eq_true, Bool.not_eq_true', Bool.not_eq_false'] at *; omega) | (intros; first | rfl | assumption | omega | simp_all; done))) rfl rfl (.inr rfl) ?_
    generalize applyX c e = R at hmt ⊢
    obtain ⟨code, d⟩ := R
    dsimp only at hmt ⊢
    (repeat (first | refine wpS_seq ?_ | refine wpS_reg ?_ | refine run_step rfl (by ((repeat' (first | exact allP_nil | refine allP_cons ?_ ?_ | intro _)) <;> first | assumption | omega | (simp only [cond_true, cond_false, bif_and, bif_or, decide_eq_true_eq, decide_eq_false_iff_not, Bool.and_eq_true, Bool.or_eq_true, Bool.not_eq_true', Bool.not_eq_false'] at *; omega) | (intros; first | rfl | assumption | omega | simp_all; done))) ?_ | refine run_nil ?_ | refine wpS_block ?_ | refine wpS_skip ?_ | refine wpS_exit ?_ | refine wpS_ret ?_))
    refine wpS_cond rfl (by ((repeat' (first | exact allP_nil | refine allP_cons ?_ ?_ | intro _)) <;> first | assumption | omega | (simp only [cond_true, cond_false, bif_and, bif_or, decide_eq_true_eq, decide_eq_false_iff_not, Bool.and_eq_true, Bool.or_eq_true, Bool.not_eq_true', Bool.not_eq_false'] at *; omega) | (intros; first | rfl | assumption | omega | simp_all; done))) (fun h => ?_) (fun h => ?_)
    · have h0 : code = 0 := by simpa using h
      rw [if_pos h0] at hmt
      (repeat (first | refine wpS_seq ?_ | refine wpS_reg ?_ | refine run_step rfl (by ((repeat' (first | exact allP_nil | refine allP_cons ?_ ?_ | intro _)) <;> first | assumption | omega | (simp only [cond_true, cond_false, bif_and, bif_or, decide_eq_true_eq, decide_eq_false_iff_not, Bool.and_eq_true, Bool.or_eq_true, Bool.not_eq_true', Bool.not_eq_false'] at *; omega) | (intros; first | rfl | assumption | omega | simp_all; done))) ?_ | refine run_nil ?_ | refine wpS_block ?_ | refine wpS_skip ?_ | refine wpS_exit ?_ | refine wpS_ret ?_))
      refine ⟨k + 1, by omega, by dsimp only; omega, ?_⟩
      dsimp only
      rw [hmt]
      refine ent_le ?_; (repeat' (first | exact allP_nil | refine allP_cons ?_ ?_)) <;> first | rfl | exact ⟨rfl, fun _ _ => rfl⟩
    · have h0 : code ≠ 0 := by simpa using h
      rw [if_neg h0] at hmt
      (repeat (first | refine wpS_seq ?_ | refine wpS_reg ?_ | refine run_step rfl (by ((repeat' (first | exact allP_nil | refine allP_cons ?_ ?_ | intro _)) <;> first | assumption | omega | (simp only [cond_true, cond_false, bif_and, bif_or, decide_eq_true_eq, decide_eq_false_iff_not, Bool.and_eq_true, Bool.or_eq_true, Bool.not_eq_true', Bool.not_eq_false'] at *; omega) | (intros; first | rfl | assumption | omega | simp_all; done))) ?_ | refine run_nil ?_ | refine wpS_block ?_ | refine wpS_skip ?_ | refine wpS_exit ?_ | refine wpS_ret ?_))
      refine ⟨k + 1, by omega, by dsimp only; omega, ?_⟩
      dsimp only
      rw [hmt]
      refine ent_le ?_; (repeat' (first | exact allP_nil | refine allP_cons ?_ ?_)) <;> first | rfl | exact ⟨rfl, fun _ _ => rfl⟩
  · have hlt : k = l.length := by simp at h; omega
    subst hlt
    clear h
    rw [List.take_length]
    (repeat (first | refine wpS_seq ?_ | refine wpS_reg ?_ | refine run_step rfl (by ((repeat' (first | exact allP_nil | refine allP_cons ?_ ?_ | intro _)) <;> first | assumption | omega | (simp only [cond_true, cond_false, bif_and, bif_or, decide_eq_true_eq, decide_eq_false_iff_not, Bool.and_eq_true, Bool.or_eq_true, Bool.not_eq_true', Bool.not_eq_false'] at *; omega) | (intros; first | rfl | assumption | omega | simp_all; done))) ?_ | refine run_nil ?_ | refine wpS_block ?_ | refine wpS_skip ?_ | refine wpS_exit ?_ | refine wpS_ret ?_))
    refine fin_mk rfl ?_; (repeat' (first | exact allP_nil | refine allP_cons ?_ ?_))
    all_goals first | rfl | exact ⟨rfl, fun _ _ => rfl⟩
end Go.Proofs
end
/- part BkStr -/
section
namespace Go.Proofs
open Go.Av Go.Pu
theorem call131 (v : Value) (w : World) : (callFunc 131 #[v]).run Tryz.prog w = .ok (.value v) w := by
  rw [run_callFunc_extern (e := Go.Extern.AbiNoEscape.same) Tryz.func131 (by kernel_rfl) (by kernel_rfl) (by kernel_rfl) (by kernel_rfl)]
  rfl
def smallS (n : Nat) : List UInt8 := if n < 10 then [UInt8.ofNat (48 + n)] else [UInt8.ofNat (48 + n / 10), UInt8.ofNat (48 + n % 10)]
theorem small1 : ∀ n, n < 10 → List.take 1 (List.drop n [48, 49, 50, 51, 52, 53, 54, 55, 56, 57, 97, 98, 99, 100, 101, 102, 103, 104, 105, 106, 107, 108, 109, 110, 111, 112, 113, 114, 115, 116, 117, 118, 119, 120, 121, 122]) = smallS n := by decide +kernel
theorem small2 : ∀ n, n < 100 → ¬ n < 10 → List.take 2 (List.drop (n * 2) [48, 48, 48, 49, 48, 50, 48, 51, 48, 52, 48, 53, 48, 54, 48, 55, 48, 56, 48, 57, 49, 48, 49, 49, 49, 50, 49, 51, 49, 52, 49, 53, 49, 54, 49, 55, 49, 56, 49, 57, 50, 48, 50, 49, 50, 50, 50, 51, 50, 52, 50, 53, 50, 54, 50, 55, 50, 56, 50, 57, 51, 48, 51, 49, 51, 50, 51, 51, 51, 52, 51, 53, 51, 54, 51, 55, 51, 56, 51, 57, 52, 48, 52, 49, 52, 50, 52, 51, 52, 52, 52, 53, 52, 54, 52, 55, 52, 56, 52, 57, 53, 48, 53, 49, 53, 50, 53, 51, 53, 52, 53, 53, 53, 54, 53, 55, 53, 56, 53, 57, 54, 48, 54, 49, 54, 50, 54, 51, 54, 52, 54, 53, 54, 54, 54, 55, 54, 56, 54, 57, 55, 48, 55, 49, 55, 50, 55, 51, 55, 52, 55, 53, 55, 54, 55, 55, 55, 56, 55, 57, 56, 48, 56, 49, 56, 50, 56, 51, 56, 52, 56, 53, 56, 54, 56, 55, 56, 56, 56, 57, 57, 48, 57, 49, 57, 50, 57, 51, 57, 52, 57, 53, 57, 54, 57, 55, 57, 56, 57, 57]) = smallS n := by decide +kernel
set_option maxRecDepth 10000 in
theorem small_spec (n : Nat) (hn : n < 100) : Spec0 Tryz.prog 132 [.int .i64 n] (.str (smallS n)) := by
  refine spec0 ok132 rfl fun C _ => ?_
  (repeat (first | refine wpS_seq ?_ | refine wpS_reg ?_ | refine run_step rfl (by ((repeat' (first | exact allP_nil | refine allP_cons ?_ ?_ | intro _)) <;> first | assumption | omega | (simp only [cond_true, cond_false, bif_and, bif_or, decide_eq_true_eq, decide_eq_false_iff_not, Bool.and_eq_true, Bool.or_eq_true, Bool.not_eq_true', Bool.not_eq_false'] at *; omega) | (intros; first | rfl | assumption | omega | simp_all; done))) ?_ | refine run_nil ?_ | refine wpS_block ?_ | refine wpS_skip ?_ | refine wpS_exit ?_ | refine wpS_ret ?_))
  refine wpS_cond rfl (by ((repeat' (first | exact allP_nil | refine allP_cons ?_ ?_ | intro _)) <;> first | assumption | omega | (simp only [cond_true, cond_false, bif_and, bif_or, decide_eq_true_eq, decide_eq_false_iff_not, Bool.and_eq_true, Bool.or_eq_true, Bool.not_eq_true', Bool.not_eq_false'] at *; omega) | (intros; first | rfl | assumption | omega | simp_all; done))) (fun h => ?_) (fun h => ?_)
  · have h1 : n < 10 := by simp at h; omega
    refine wpS_seq ?_
    refine wpS_reg ?_
    iterate 3 refine run_step rfl (by ((repeat' (first | exact allP_nil | refine allP_cons ?_ ?_ | intro _)) <;> first | assumption | omega | (simp only [cond_true, cond_false, bif_and, bif_or, decide_eq_true_eq, decide_eq_false_iff_not, Bool.and_eq_true, Bool.or_eq_true, Bool.not_eq_true', Bool.not_eq_false'] at *; omega) | (intros; first | rfl | assumption | omega | simp_all; done))) ?_
    refine run_step rfl (allP_cons ⟨show (0 : Int) ≤ (n : Int) by omega, show (n : Int) ≤ (n : Int) + 1 by omega, Int.le_trans (b := 36) (show (n : Int) + 1 ≤ 36 by omega) (Int.ofNat_le.2 (Nat.le_of_ble_eq_true rfl))⟩ (by ((repeat' (first | exact allP_nil | refine allP_cons ?_ ?_ | intro _)) <;> first | assumption | omega | (simp only [cond_true, cond_false, bif_and, bif_or, decide_eq_true_eq, decide_eq_false_iff_not, Bool.and_eq_true, Bool.or_eq_true, Bool.not_eq_true', Bool.not_eq_false'] at *; omega) | (intros; first | rfl | assumption | omega | simp_all; done)))) ?_
    (repeat (first | refine wpS_seq ?_ | refine wpS_reg ?_ | refine run_step rfl (by ((repeat' (first | exact allP_nil | refine allP_cons ?_ ?_ | intro _)) <;> first | assumption | omega | (simp only [cond_true, cond_false, bif_and, bif_or, decide_eq_true_eq, decide_eq_false_iff_not, Bool.and_eq_true, Bool.or_eq_true, Bool.not_eq_true', Bool.not_eq_false'] at *; omega) | (intros; first | rfl | assumption | omega | simp_all; done))) ?_ | refine run_nil ?_ | refine wpS_block ?_ | refine wpS_skip ?_ | refine wpS_exit ?_ | refine wpS_ret ?_))
    refine fin_mk rfl ?_; (repeat' (first | exact allP_nil | refine allP_cons ?_ ?_))
    have e1 : ((n : Int) + 1).toNat - (n : Int).toNat = 1 := by omega
    dsimp only
    rw [e1, Int.toNat_natCast]
    exact small1 n h1
  · have h1 : ¬ n < 10 := by simp at h; omega
    refine wpS_skip ?_
    refine wpS_seq ?_
    refine wpS_reg ?_
    iterate 5 refine run_step rfl (by ((repeat' (first | exact allP_nil | refine allP_cons ?_ ?_ | intro _)) <;> first | assumption | omega | (simp only [cond_true, cond_false, bif_and, bif_or, decide_eq_true_eq, decide_eq_false_iff_not, Bool.and_eq_true, Bool.or_eq_true, Bool.not_eq_true', Bool.not_eq_false'] at *; omega) | (intros; first | rfl | assumption | omega | simp_all; done))) ?_
    refine run_step rfl (allP_cons ⟨show (0 : Int) ≤ (n : Int) * 2 by omega, show (n : Int) * 2 ≤ (n : Int) * 2 + 2 by omega, Int.le_trans (b := 200) (show (n : Int) * 2 + 2 ≤ 200 by omega) (Int.ofNat_le.2 (Nat.le_of_ble_eq_true rfl))⟩ (by ((repeat' (first | exact allP_nil | refine allP_cons ?_ ?_ | intro _)) <;> first | assumption | omega | (simp only [cond_true, cond_false, bif_and, bif_or, decide_eq_true_eq, decide_eq_false_iff_not, Bool.and_eq_true, Bool.or_eq_true, Bool.not_eq_true', Bool.not_eq_false'] at *; omega) | (intros; first | rfl | assumption | omega | simp_all; done)))) ?_
    (repeat (first | refine wpS_seq ?_ | refine wpS_reg ?_ | refine run_step rfl (by ((repeat' (first | exact allP_nil | refine allP_cons ?_ ?_ | intro _)) <;> first | assumption | omega | (simp only [cond_true, cond_false, bif_and, bif_or, decide_eq_true_eq, decide_eq_false_iff_not, Bool.and_eq_true, Bool.or_eq_true, Bool.not_eq_true', Bool.not_eq_false'] at *; omega) | (intros; first | rfl | assumption | omega | simp_all; done))) ?_ | refine run_nil ?_ | refine wpS_block ?_ | refine wpS_skip ?_ | refine wpS_exit ?_ | refine wpS_ret ?_))
    refine fin_mk rfl ?_; (repeat' (first | exact allP_nil | refine allP_cons ?_ ?_))
    have e1 : ((n : Int) * 2 + 2).toNat - ((n : Int) * 2).toNat = 2 := by omega
    have e2 : ((n : Int) * 2).toNat = n * 2 := by omega
    dsimp only
    rw [e1, e2]
    exact small2 n hn h1
theorem fmtInt_spec (n : Nat) (hn : n < 100) : Spec0 Tryz.prog 111 [.int .i64 n, .int .i64 10] (.str (smallS n)) := by
  refine spec0 ok111 rfl fun C _ => ?_
  (repeat (first | refine wpS_condT rfl (by ((repeat' (first | exact allP_nil | refine allP_cons ?_ ?_ | intro _)) <;> first | assumption | omega | (simp only [cond_true, cond_false, bif_and, bif_or, decide_eq_true_eq, decide_eq_false_iff_not, Bool.and_eq_true, Bool.or_eq_true, Bool.not_eq_true', Bool.not_eq_false'] at *; omega) | (intros; first | rfl | assumption | omega | simp_all; done))) ?_ | refine wpS_condF rfl (by ((repeat' (first | exact allP_nil | refine allP_cons ?_ ?_ | intro _)) <;> first | assumption | omega | (simp only [cond_true, cond_false, bif_and, bif_or, decide_eq_true_eq, decide_eq_false_iff_not, Bool.and_eq_true, Bool.or_eq_true, Bool.not_eq_true', Bool.not_eq_false'] at *; omega) | (intros; first | rfl | assumption | omega | simp_all; done))) ?_ | refine wpS_seq ?_ | refine wpS_reg ?_ | refine run_step rfl (by ((repeat' (first | exact allP_nil | refine allP_cons ?_ ?_ | intro _)) <;> first | assumption | omega | (simp only [cond_true, cond_false, bif_and, bif_or, decide_eq_true_eq, decide_eq_false_iff_not, Bool.and_eq_true, Bool.or_eq_true, Bool.not_eq_true', Bool.not_eq_false'] at *; omega) | (intros; first | rfl | assumption | omega | simp_all; done))) ?_ | refine run_nil ?_ | refine wpS_block ?_ | refine wpS_skip ?_ | refine wpS_exit ?_ | refine wpS_ret ?_))
  have e1 : decide ((0 : Int) ≤ (n : Int)) = true := by simp
  have e2 : decide ((n : Int) < 100) = true := by simp; omega
  simp only [e1, e2]
  (repeat (first | refine wpS_condT rfl (by ((repeat' (first | exact allP_nil | refine allP_cons ?_ ?_ | intro _)) <;> first | assumption | omega | (simp only [cond_true, cond_false, bif_and, bif_or, decide_eq_true_eq, decide_eq_false_iff_not, Bool.and_eq_true, Bool.or_eq_true, Bool.not_eq_true', Bool.not_eq_false'] at *; omega) | (intros; first | rfl | assumption | omega | simp_all; done))) ?_ | refine wpS_condF rfl (by ((repeat' (first | exact allP_nil | refine allP_cons ?_ ?_ | intro _)) <;> first | assumption | omega | (simp only [cond_true, cond_false, bif_and, bif_or, decide_eq_true_eq, decide_eq_false_iff_not, Bool.and_eq_true, Bool.or_eq_true, Bool.not_eq_true', Bool.not_eq_false'] at *; omega) | (intros; first | rfl | assumption | omega | simp_all; done))) ?_ | refine wpS_seq ?_ | refine wpS_reg ?_ | refine run_step rfl (by ((repeat' (first | exact allP_nil | refine allP_cons ?_ ?_ | intro _)) <;> first | assumption | omega | (simp only [cond_true, cond_false, bif_and, bif_or, decide_eq_true_eq, decide_eq_false_iff_not, Bool.and_eq_true, Bool.or_eq_true, Bool.not_eq_true', Bool.not_eq_false'] at *; omega) | (intros; first | rfl | assumption | omega | simp_all; done))) ?_ | refine run_nil ?_ | refine wpS_block ?_ | refine wpS_skip ?_ | refine wpS_exit ?_ | refine wpS_ret ?_))
  refine run_c ((small_spec n hn)) rfl (by ((repeat' (first | exact allP_nil | refine allP_cons ?_ ?_ | intro _)) <;> first | assumption | omega | (simp only [cond_true, cond_false, bif_and, bif_or, decide_eq_true_eq, decide_eq_false_iff_not, Bool.and_eq_true, Bool.or_eq_true, Bool.not_eq_true', Bool.not_eq_false'] at *; omega) | (intros; first | rfl | assumption | omega | simp_all; done))) rfl rfl (.inl rfl) ?_
  (repeat (first | refine wpS_seq ?_ | refine wpS_reg ?_ | refine run_step rfl (by ((repeat' (first | exact allP_nil | refine allP_cons ?_ ?_ | intro _)) <;> first | assumption | omega | (simp only [cond_true, cond_false, bif_and, bif_or, decide_eq_true_eq, decide_eq_false_iff_not, Bool.and_eq_true, Bool.or_eq_true, Bool.not_eq_true', Bool.not_eq_false'] at *; omega) | (intros; first | rfl | assumption | omega | simp_all; done))) ?_ | refine run_nil ?_ | refine wpS_block ?_ | refine wpS_skip ?_ | refine wpS_exit ?_ | refine wpS_ret ?_))
  refine fin_mk rfl ?_; (repeat' (first | exact allP_nil | refine allP_cons ?_ ?_))
  rfl
theorem itoa_in (n : Nat) (hn : n < 100) : Spec0 Tryz.prog 94 [.int .i64 n] (.str (smallS n)) := by
  refine spec0 ok94 rfl fun C _ => ?_
  (repeat (first | refine wpS_seq ?_ | refine wpS_reg ?_ | refine run_step rfl (by ((repeat' (first | exact allP_nil | refine allP_cons ?_ ?_ | intro _)) <;> first | assumption | omega | (simp only [cond_true, cond_false, bif_and, bif_or, decide_eq_true_eq, decide_eq_false_iff_not, Bool.and_eq_true, Bool.or_eq_true, Bool.not_eq_true', Bool.not_eq_false'] at *; omega) | (intros; first | rfl | assumption | omega | simp_all; done))) ?_ | refine run_nil ?_ | refine wpS_block ?_ | refine wpS_skip ?_ | refine wpS_exit ?_ | refine wpS_ret ?_))
  refine run_c ((fmtInt_spec n hn)) rfl (by ((repeat' (first | exact allP_nil | refine allP_cons ?_ ?_ | intro _)) <;> first | assumption | omega | (simp only [cond_true, cond_false, bif_and, bif_or, decide_eq_true_eq, decide_eq_false_iff_not, Bool.and_eq_true, Bool.or_eq_true, Bool.not_eq_true', Bool.not_eq_false'] at *; omega) | (intros; first | rfl | assumption | omega | simp_all; done))) rfl rfl (.inl rfl) ?_
  (repeat (first | refine wpS_seq ?_ | refine wpS_reg ?_ | refine run_step rfl (by ((repeat' (first | exact allP_nil | refine allP_cons ?_ ?_ | intro _)) <;> first | assumption | omega | (simp only [cond_true, cond_false, bif_and, bif_or, decide_eq_true_eq, decide_eq_false_iff_not, Bool.and_eq_true, Bool.or_eq_true, Bool.not_eq_true', Bool.not_eq_false'] at *; omega) | (intros; first | rfl | assumption | omega | simp_all; done))) ?_ | refine run_nil ?_ | refine wpS_block ?_ | refine wpS_skip ?_ | refine wpS_exit ?_ | refine wpS_ret ?_))
  refine fin_mk rfl ?_; (repeat' (first | exact allP_nil | refine allP_cons ?_ ?_))
  rfl
theorem itoa_small (n : Nat) (hn : n < 100) : Spec0 Tryz.prog 67 [.int .i64 n] (.str (smallS n)) := by
  refine spec0 ok67 rfl fun C _ => ?_
  (repeat (first | refine wpS_seq ?_ | refine wpS_reg ?_ | refine run_step rfl (by ((repeat' (first | exact allP_nil | refine allP_cons ?_ ?_ | intro _)) <;> first | assumption | omega | (simp only [cond_true, cond_false, bif_and, bif_or, decide_eq_true_eq, decide_eq_false_iff_not, Bool.and_eq_true, Bool.or_eq_true, Bool.not_eq_true', Bool.not_eq_false'] at *; omega) | (intros; first | rfl | assumption | omega | simp_all; done))) ?_ | refine run_nil ?_ | refine wpS_block ?_ | refine wpS_skip ?_ | refine wpS_exit ?_ | refine wpS_ret ?_))
  refine run_c ((itoa_in n hn)) rfl (by ((repeat' (first | exact allP_nil | refine allP_cons ?_ ?_ | intro _)) <;> first | assumption | omega | (simp only [cond_true, cond_false, bif_and, bif_or, decide_eq_true_eq, decide_eq_false_iff_not, Bool.and_eq_true, Bool.or_eq_true, Bool.not_eq_true', Bool.not_eq_false'] at *; omega) | (intros; first | rfl | assumption | omega | simp_all; done))) rfl rfl (.inl rfl) ?_
  (repeat (first | refine wpS_seq ?_ | refine wpS_reg ?_ | refine run_step rfl (by ((repeat' (first | exact allP_nil | refine allP_cons ?_ ?_ | intro _)) <;> first | assumption | omega | (simp only [cond_true, cond_false, bif_and, bif_or, decide_eq_true_eq, decide_eq_false_iff_not, Bool.and_eq_true, Bool.or_eq_true, Bool.not_eq_true', Bool.not_eq_false'] at *; omega) | (intros; first | rfl | assumption | omega | simp_all; done))) ?_ | refine run_nil ?_ | refine wpS_block ?_ | refine wpS_skip ?_ | refine wpS_exit ?_ | refine wpS_ret ?_))
  refine fin_mk rfl ?_; (repeat' (first | exact allP_nil | refine allP_cons ?_ ?_))
  rfl
end Go.Proofs
end
/- part BkBuf -/
section
namespace Go.Proofs
open Go.Av Go.Pu
@[reducible] def byF (s : List UInt8) : Nat → List AV := fun i => [.int .u8 ((s.getD i 0).toNat : Int)]
@[reducible] def byR (s : List UInt8) : Rt := .row 5 1 s.length (byF s)
theorem check0 : SpecR Tryz.prog 110 [.loc PB 0] [(PB, .blk 124 [.nilp, .nils])] .any [(PB, .blk 124 [.loc PB 0, .nils])] := by
  refine specR ok110 fun C _ => ?_
  (repeat (first | refine wpS_seq ?_ | refine wpS_reg ?_ | refine run_step rfl (by ((repeat' (first | exact allP_nil | refine allP_cons ?_ ?_ | intro _)) <;> first | assumption | omega | (simp only [cond_true, cond_false, bif_and, bif_or, decide_eq_true_eq, decide_eq_false_iff_not, Bool.and_eq_true, Bool.or_eq_true, Bool.not_eq_true', Bool.not_eq_false'] at *; omega) | (intros; first | rfl | assumption | omega | simp_all; done))) ?_ | refine run_nil ?_ | refine wpS_block ?_ | refine wpS_skip ?_ | refine wpS_exit ?_ | refine wpS_ret ?_))
  refine wpS_condT rfl (by ((repeat' (first | exact allP_nil | refine allP_cons ?_ ?_ | intro _)) <;> first | assumption | omega | (simp only [cond_true, cond_false, bif_and, bif_or, decide_eq_true_eq, decide_eq_false_iff_not, Bool.and_eq_true, Bool.or_eq_true, Bool.not_eq_true', Bool.not_eq_false'] at *; omega) | (intros; first | rfl | assumption | omega | simp_all; done))) ?_
  (repeat (first | refine wpS_seq ?_ | refine wpS_reg ?_ | refine run_step rfl (by ((repeat' (first | exact allP_nil | refine allP_cons ?_ ?_ | intro _)) <;> first | assumption | omega | (simp only [cond_true, cond_false, bif_and, bif_or, decide_eq_true_eq, decide_eq_false_iff_not, Bool.and_eq_true, Bool.or_eq_true, Bool.not_eq_true', Bool.not_eq_false'] at *; omega) | (intros; first | rfl | assumption | omega | simp_all; done))) ?_ | refine run_nil ?_ | refine wpS_block ?_ | refine wpS_skip ?_ | refine wpS_exit ?_ | refine wpS_ret ?_))
  refine run_same call131 ?_
  (repeat (first | refine wpS_seq ?_ | refine wpS_reg ?_ | refine run_step rfl (by ((repeat' (first | exact allP_nil | refine allP_cons ?_ ?_ | intro _)) <;> first | assumption | omega | (simp only [cond_true, cond_false, bif_and, bif_or, decide_eq_true_eq, decide_eq_false_iff_not, Bool.and_eq_true, Bool.or_eq_true, Bool.not_eq_true', Bool.not_eq_false'] at *; omega) | (intros; first | rfl | assumption | omega | simp_all; done))) ?_ | refine run_nil ?_ | refine wpS_block ?_ | refine wpS_skip ?_ | refine wpS_exit ?_ | refine wpS_ret ?_))
  refine fin_mkR rfl ?_ ?_ <;> (repeat' (first | exact allP_nil | refine allP_cons ?_ ?_))
  all_goals rfl
theorem check1 (s : List UInt8) : SpecR Tryz.prog 110 [.loc PB 0] [(PB, .blk 124 [.loc PB 0, .ref QN]), (QN, byR s)] .any [(PB, .blk 124 [.loc PB 0, .ref QN]), (QN, byR s)] := by
  refine specR ok110 fun C _ => ?_
  (repeat (first | refine wpS_seq ?_ | refine wpS_reg ?_ | refine run_step rfl (by ((repeat' (first | exact allP_nil | refine allP_cons ?_ ?_ | intro _)) <;> first | assumption | omega | (simp only [cond_true, cond_false, bif_and, bif_or, decide_eq_true_eq, decide_eq_false_iff_not, Bool.and_eq_true, Bool.or_eq_true, Bool.not_eq_true', Bool.not_eq_false'] at *; omega) | (intros; first | rfl | assumption | omega | simp_all; done))) ?_ | refine run_nil ?_ | refine wpS_block ?_ | refine wpS_skip ?_ | refine wpS_exit ?_ | refine wpS_ret ?_))
  refine wpS_condF rfl (by ((repeat' (first | exact allP_nil | refine allP_cons ?_ ?_ | intro _)) <;> first | assumption | omega | (simp only [cond_true, cond_false, bif_and, bif_or, decide_eq_true_eq, decide_eq_false_iff_not, Bool.and_eq_true, Bool.or_eq_true, Bool.not_eq_true', Bool.not_eq_false'] at *; omega) | (intros; first | rfl | assumption | omega | simp_all; done))) ?_
  (repeat (first | refine wpS_seq ?_ | refine wpS_reg ?_ | refine run_step rfl (by ((repeat' (first | exact allP_nil | refine allP_cons ?_ ?_ | intro _)) <;> first | assumption | omega | (simp only [cond_true, cond_false, bif_and, bif_or, decide_eq_true_eq, decide_eq_false_iff_not, Bool.and_eq_true, Bool.or_eq_true, Bool.not_eq_true', Bool.not_eq_false'] at *; omega) | (intros; first | rfl | assumption | omega | simp_all; done))) ?_ | refine run_nil ?_ | refine wpS_block ?_ | refine wpS_skip ?_ | refine wpS_exit ?_ | refine wpS_ret ?_))
  refine wpS_condF rfl (by ((repeat' (first | exact allP_nil | refine allP_cons ?_ ?_ | intro _)) <;> first | assumption | omega | (simp only [cond_true, cond_false, bif_and, bif_or, decide_eq_true_eq, decide_eq_false_iff_not, Bool.and_eq_true, Bool.or_eq_true, Bool.not_eq_true', Bool.not_eq_false'] at *; omega) | (intros; first | rfl | assumption | omega | simp_all; done))) ?_
  (repeat (first | refine wpS_seq ?_ | refine wpS_reg ?_ | refine run_step rfl (by ((repeat' (first | exact allP_nil | refine allP_cons ?_ ?_ | intro _)) <;> first | assumption | omega | (simp only [cond_true, cond_false, bif_and, bif_or, decide_eq_true_eq, decide_eq_false_iff_not, Bool.and_eq_true, Bool.or_eq_true, Bool.not_eq_true', Bool.not_eq_false'] at *; omega) | (intros; first | rfl | assumption | omega | simp_all; done))) ?_ | refine run_nil ?_ | refine wpS_block ?_ | refine wpS_skip ?_ | refine wpS_exit ?_ | refine wpS_ret ?_))
  refine fin_mkR rfl ?_ ?_ <;> (repeat' (first | exact allP_nil | refine allP_cons ?_ ?_))
  all_goals first | rfl | exact ⟨rfl, fun _ _ => rfl⟩
theorem write0 (s : List UInt8) (hs : s.length ≤ maxL) : SpecR Tryz.prog 91 [.loc PB 0, .str s] [(PB, .blk 124 [.nilp, .nils])] (.tup [.int .i64 (s.length : Nat), .nilif]) [(PB, .blk 124 [.loc PB 0, .ref QN]), (QN, byR s)] := by
  rw [maxL_eq] at hs
  refine specR ok91 fun C _ => ?_
  (repeat (first | refine wpS_seq ?_ | refine wpS_reg ?_ | refine run_step rfl (by ((repeat' (first | exact allP_nil | refine allP_cons ?_ ?_ | intro _)) <;> first | assumption | omega | (simp only [cond_true, cond_false, bif_and, bif_or, decide_eq_true_eq, decide_eq_false_iff_not, Bool.and_eq_true, Bool.or_eq_true, Bool.not_eq_true', Bool.not_eq_false'] at *; omega) | (intros; first | rfl | assumption | omega | simp_all; done))) ?_ | refine run_nil ?_ | refine wpS_block ?_ | refine wpS_skip ?_ | refine wpS_exit ?_ | refine wpS_ret ?_))
  refine run_cR id [PB] check0 rfl rfl ⟨rfl, trivial⟩ rfl ?_
  (repeat (first | refine wpS_seq ?_ | refine wpS_reg ?_ | refine run_step rfl (by ((repeat' (first | exact allP_nil | refine allP_cons ?_ ?_ | intro _)) <;> first | assumption | omega | (simp only [cond_true, cond_false, bif_and, bif_or, decide_eq_true_eq, decide_eq_false_iff_not, Bool.and_eq_true, Bool.or_eq_true, Bool.not_eq_true', Bool.not_eq_false'] at *; omega) | (intros; first | rfl | assumption | omega | simp_all; done))) ?_ | refine run_nil ?_ | refine wpS_block ?_ | refine wpS_skip ?_ | refine wpS_exit ?_))
  refine wpS_ent (Ent.trans (ent_keep [4, 5, 0, 1] [PB, 14]) (ent_ren 14 QN rfl)) ?_
  (repeat (first | refine wpS_seq ?_ | refine wpS_reg ?_ | refine run_step rfl (by ((repeat' (first | exact allP_nil | refine allP_cons ?_ ?_ | intro _)) <;> first | assumption | omega | (simp only [cond_true, cond_false, bif_and, bif_or, decide_eq_true_eq, decide_eq_false_iff_not, Bool.and_eq_true, Bool.or_eq_true, Bool.not_eq_true', Bool.not_eq_false'] at *; omega) | (intros; first | rfl | assumption | omega | simp_all; done))) ?_ | refine run_nil ?_ | refine wpS_block ?_ | refine wpS_skip ?_ | refine wpS_exit ?_ | refine wpS_ret ?_))
  refine fin_mkR rfl ?_ ?_ <;> (repeat' (first | exact allP_nil | refine allP_cons ?_ ?_))
  all_goals first | rfl | exact ⟨rfl, fun _ _ => rfl⟩
theorem write1 (t s : List UInt8) (hs : t.length + s.length ≤ maxL) : SpecR Tryz.prog 91 [.loc PB 0, .str s] [(PB, .blk 124 [.loc PB 0, .ref QN]), (QN, byR t)] (.tup [.int .i64 (s.length : Nat), .nilif]) [(PB, .blk 124 [.loc PB 0, .ref QN]), (QN, byR (t ++ s))] := by
  rw [maxL_eq] at hs
  refine specR ok91 fun C _ => ?_
  (repeat (first | refine wpS_seq ?_ | refine wpS_reg ?_ | refine run_step rfl (by ((repeat' (first | exact allP_nil | refine allP_cons ?_ ?_ | intro _)) <;> first | assumption | omega | (simp only [cond_true, cond_false, bif_and, bif_or, decide_eq_true_eq, decide_eq_false_iff_not, Bool.and_eq_true, Bool.or_eq_true, Bool.not_eq_true', Bool.not_eq_false'] at *; omega) | (intros; first | rfl | assumption | omega | simp_all; done))) ?_ | refine run_nil ?_ | refine wpS_block ?_ | refine wpS_skip ?_ | refine wpS_exit ?_ | refine wpS_ret ?_))
  refine run_cR id [PB, QN] (check1 t) rfl rfl ⟨rfl, rfl, trivial⟩ rfl ?_
  (repeat (first | refine wpS_seq ?_ | refine wpS_reg ?_ | refine run_step rfl (by ((repeat' (first | exact allP_nil | refine allP_cons ?_ ?_ | intro _)) <;> first | assumption | omega | (simp only [cond_true, cond_false, bif_and, bif_or, decide_eq_true_eq, decide_eq_false_iff_not, Bool.and_eq_true, Bool.or_eq_true, Bool.not_eq_true', Bool.not_eq_false'] at *; omega) | (intros; first | rfl | assumption | omega | simp_all; done))) ?_ | refine run_nil ?_ | refine wpS_block ?_ | refine wpS_skip ?_ | refine wpS_exit ?_))
  refine wpS_ent (Ent.trans (ent_keep [4, 5, 0, 1] [PB, 14]) (ent_ren 14 QN rfl)) ?_
  refine wpS_ent (ent_row QN (t ++ s).length (byF (t ++ s)) rfl (by simp) (fun i hi => ?_)) ?_
  · rw [joined_eq]
    simp only [byF, List.getD_eq_getElem?_getD, List.getElem?_append]
    split <;> rfl
  (repeat (first | refine wpS_seq ?_ | refine wpS_reg ?_ | refine run_step rfl (by ((repeat' (first | exact allP_nil | refine allP_cons ?_ ?_ | intro _)) <;> first | assumption | omega | (simp only [cond_true, cond_false, bif_and, bif_or, decide_eq_true_eq, decide_eq_false_iff_not, Bool.and_eq_true, Bool.or_eq_true, Bool.not_eq_true', Bool.not_eq_false'] at *; omega) | (intros; first | rfl | assumption | omega | simp_all; done))) ?_ | refine run_nil ?_ | refine wpS_block ?_ | refine wpS_skip ?_ | refine wpS_exit ?_ | refine wpS_ret ?_))
  refine fin_mkR rfl ?_ ?_ <;> (repeat' (first | exact allP_nil | refine allP_cons ?_ ?_))
  all_goals first | rfl | exact ⟨rfl, fun _ _ => rfl⟩
theorem bytesOf_byF (s : List UInt8) : bytesOf s.length (byF s) = s := by
  refine List.ext_getElem? fun i => ?_
  by_cases h : i < s.length
  · rw [bytesOf_get h, byteOf_eq, List.getD_eq_getElem?_getD, List.getElem?_eq_getElem h]
    rfl
  · have hl : (bytesOf s.length (byF s)).length = s.length := by simp [bytesOf]
    rw [List.getElem?_eq_none (by omega), List.getElem?_eq_none (by omega)]
theorem string_spec (s : List UInt8) (hs : 0 < s.length) : SpecR Tryz.prog 92 [.loc PB 0] [(PB, .blk 124 [.loc PB 0, .ref QN]), (QN, byR s)] (.str s) [] := by
  refine specR ok92 fun C _ => ?_
  (repeat (first | refine wpS_seq ?_ | refine wpS_reg ?_ | refine run_step rfl (by ((repeat' (first | exact allP_nil | refine allP_cons ?_ ?_ | intro _)) <;> first | assumption | omega | (simp only [cond_true, cond_false, bif_and, bif_or, decide_eq_true_eq, decide_eq_false_iff_not, Bool.and_eq_true, Bool.or_eq_true, Bool.not_eq_true', Bool.not_eq_false'] at *; omega) | (intros; first | rfl | assumption | omega | simp_all; done))) ?_ | refine run_nil ?_ | refine wpS_block ?_ | refine wpS_skip ?_ | refine wpS_exit ?_ | refine wpS_ret ?_))
  refine wpS_D (by kernel_rfl) ?_
  iterate 4 refine trg_step rfl (by ((repeat' (first | exact allP_nil | refine allP_cons ?_ ?_ | intro _)) <;> first | assumption | omega | (simp only [cond_true, cond_false, bif_and, bif_or, decide_eq_true_eq, decide_eq_false_iff_not, Bool.and_eq_true, Bool.or_eq_true, Bool.not_eq_true', Bool.not_eq_false'] at *; omega) | (intros; first | rfl | assumption | omega | simp_all; done))) ?_
  refine trg_step rfl (allP_cons (hs) (by ((repeat' (first | exact allP_nil | refine allP_cons ?_ ?_ | intro _)) <;> first | assumption | omega | (simp only [cond_true, cond_false, bif_and, bif_or, decide_eq_true_eq, decide_eq_false_iff_not, Bool.and_eq_true, Bool.or_eq_true, Bool.not_eq_true', Bool.not_eq_false'] at *; omega) | (intros; first | rfl | assumption | omega | simp_all; done)))) ?_
  iterate 5 refine trg_step rfl (by ((repeat' (first | exact allP_nil | refine allP_cons ?_ ?_ | intro _)) <;> first | assumption | omega | (simp only [cond_true, cond_false, bif_and, bif_or, decide_eq_true_eq, decide_eq_false_iff_not, Bool.and_eq_true, Bool.or_eq_true, Bool.not_eq_true', Bool.not_eq_false'] at *; omega) | (intros; first | rfl | assumption | omega | simp_all; done))) ?_
  refine trg_step rfl (allP_cons ⟨rfl, hs⟩ (allP_cons (fun i _ => ⟨s.getD i 0, rfl⟩) (by ((repeat' (first | exact allP_nil | refine allP_cons ?_ ?_ | intro _)) <;> first | assumption | omega | (simp only [cond_true, cond_false, bif_and, bif_or, decide_eq_true_eq, decide_eq_false_iff_not, Bool.and_eq_true, Bool.or_eq_true, Bool.not_eq_true', Bool.not_eq_false'] at *; omega) | (intros; first | rfl | assumption | omega | simp_all; done))))) ?_
  (repeat (refine trg_step rfl (by ((repeat' (first | exact allP_nil | refine allP_cons ?_ ?_ | intro _)) <;> first | assumption | omega | (simp only [cond_true, cond_false, bif_and, bif_or, decide_eq_true_eq, decide_eq_false_iff_not, Bool.and_eq_true, Bool.or_eq_true, Bool.not_eq_true', Bool.not_eq_false'] at *; omega) | (intros; first | rfl | assumption | omega | simp_all; done))) ?_))
  refine trg_nil ⟨rfl, ?_⟩
  rw [bytesOf_byF]
  (repeat (first | refine wpS_seq ?_ | refine wpS_reg ?_ | refine run_step rfl (by ((repeat' (first | exact allP_nil | refine allP_cons ?_ ?_ | intro _)) <;> first | assumption | omega | (simp only [cond_true, cond_false, bif_and, bif_or, decide_eq_true_eq, decide_eq_false_iff_not, Bool.and_eq_true, Bool.or_eq_true, Bool.not_eq_true', Bool.not_eq_false'] at *; omega) | (intros; first | rfl | assumption | omega | simp_all; done))) ?_ | refine run_nil ?_ | refine wpS_block ?_ | refine wpS_skip ?_ | refine wpS_exit ?_ | refine wpS_ret ?_))
  refine fin_mkR rfl ?_ ?_ <;> (repeat' (first | exact allP_nil | refine allP_cons ?_ ?_))
  all_goals first | rfl | exact ⟨rfl, fun _ _ => rfl⟩
end Go.Proofs
end
/- part BkPack -/
section
namespace Go.Proofs
open Go.Av Go.Pu
def itoaS (n : Nat) : List UInt8 := if n < 10 then [UInt8.ofNat (48 + n)] else itoaS (n / 10) ++ [UInt8.ofNat (48 + n % 10)]
theorem itoaS_small {n : Nat} (h : n < 100) : smallS n = itoaS n := by
  unfold smallS
  rw [itoaS]
  split
  · rfl
  · rw [itoaS, if_pos (by omega)]
    rfl
theorem itoaS_pos (n : Nat) : 0 < (itoaS n).length := by
  rw [itoaS]
  split
  · simp
  · simp
def ItoaOK (n : Nat) : Prop := Spec0 Tryz.prog 67 [.int .i64 n] (.str (itoaS n))
theorem itoaOK_small {n : Nat} (h : n < 100) : ItoaOK n := by
  unfold ItoaOK
  rw [← itoaS_small h]
  exact itoa_small n h
def packF (s : List UInt8) : List UInt8 := itoaS s.length ++ 58 :: s
def packS (l : List (List UInt8)) : List UInt8 := l.flatMap packF
theorem packS_take {l : List (List UInt8)} {k : Nat} (h : k < l.length) : packS (l.take (k + 1)) = packS (l.take k) ++ packF (l.getD k default) := by
  rw [take_succ_get h, getD_lt h]
  unfold packS
  rw [List.flatMap_append]
  simp only [List.flatMap_cons, List.flatMap_nil, List.append_nil]
theorem packS_le {l : List (List UInt8)} (k : Nat) : (packS (l.take k)).length ≤ (packS l).length := by
  conv => rhs; rw [← List.take_append_drop k l]
  unfold packS
  rw [List.flatMap_append, List.length_append]
  omega
def ρb (q : Nat) : Nat := bif Nat.beq q PB then 7 else q
@[reducible] def pkS (l : List (List UInt8)) : Nat → St
  | 0 => ⟨[(7, .loc 7 0), (34, lsA 1 strA l), (35, .int .i64 (l.length : Nat)), (36, .int .i64 (0 : Nat))], [(7, .blk 124 [.nilp, .nils])]⟩
  | k + 1 => ⟨[(7, .loc 7 0), (34, lsA 1 strA l), (35, .int .i64 (l.length : Nat)), (36, .int .i64 ((k + 1 : Nat)))], [(7, .blk 124 [.loc 7 0, .ref QN]), (QN, byR (packS (l.take (k + 1))))]⟩
theorem pack_spec (l : List (List UInt8)) (h0 : l ≠ []) (hl : l.length ≤ 4096) (hs : (packS l).length ≤ 30000) (hI : ∀ s ∈ l, ItoaOK s.length) : Spec0 Tryz.prog 58 [lsA 1 strA l] (.tup [.str (packS l), .int .i64 0]) := by
  have hpos : 0 < l.length := List.length_pos_iff.2 h0
  have hmono := @packS_le l
  refine spec0 ok58 rfl fun C _ => ?_
  (repeat (first | refine wpS_seq ?_ | refine wpS_reg ?_ | refine run_step rfl (by ((repeat' (first | exact allP_nil | refine allP_cons ?_ ?_ | intro _)) <;> first | assumption | omega | (simp only [cond_true, cond_false, bif_and, bif_or, decide_eq_true_eq, decide_eq_false_iff_not, Bool.and_eq_true, Bool.or_eq_true, Bool.not_eq_true', Bool.not_eq_false'] at *; omega) | (intros; first | rfl | assumption | omega | simp_all; done))) ?_ | refine run_nil ?_ | refine wpS_block ?_ | refine wpS_skip ?_ | refine wpS_exit ?_ | refine wpS_ret ?_))
  refine wpS_loop (fun k => k ≤ l.length) (fun k => ⟨[(0, lsA 1 strA l), (10, lsA 1 strA l), (11, .int .i64 (l.length : Nat)), (12, .int .i64 (k : Nat)), (4, .int .i64 ((packS (l.take k)).length : Nat))], []⟩) (fun k => l.length - k) 0 (by omega)
    (by refine ent_le ?_; (repeat' (first | exact allP_nil | refine allP_cons ?_ ?_)) <;> first | rfl | exact ⟨rfl, fun _ _ => rfl⟩) ?_
  rintro k hk
  have hmk := hmono k
  (repeat (first | refine wpS_seq ?_ | refine wpS_reg ?_ | refine run_step rfl (by ((repeat' (first | exact allP_nil | refine allP_cons ?_ ?_ | intro _)) <;> first | assumption | omega | (simp only [cond_true, cond_false, bif_and, bif_or, decide_eq_true_eq, decide_eq_false_iff_not, Bool.and_eq_true, Bool.or_eq_true, Bool.not_eq_true', Bool.not_eq_false'] at *; omega) | (intros; first | rfl | assumption | omega | simp_all; done))) ?_ | refine run_nil ?_ | refine wpS_block ?_ | refine wpS_skip ?_ | refine wpS_exit ?_ | refine wpS_ret ?_))
  refine wpS_cond rfl (by ((repeat' (first | exact allP_nil | refine allP_cons ?_ ?_ | intro _)) <;> first | assumption | omega | (simp only [cond_true, cond_false, bif_and, bif_or, decide_eq_true_eq, decide_eq_false_iff_not, Bool.and_eq_true, Bool.or_eq_true, Bool.not_eq_true', Bool.not_eq_false'] at *; omega) | (intros; first | rfl | assumption | omega | simp_all; done))) (fun h => ?_) (fun h => ?_)
  · have hlt : k < l.length := by simpa using h
    clear h
    have hm := hI _ (getD_mem hlt)
    have hpt := packS_take hlt
    have hmk1 := hmono (k + 1)
    obtain ⟨s, hse⟩ : ∃ s, s = l.getD k default := ⟨_, rfl⟩
    rw [← hse] at hm hpt
    have hpl : (packS (l.take (k + 1))).length = (packS (l.take k)).length + ((itoaS s.length).length + 1 + s.length) := by
      rw [hpt]; simp only [packF, List.length_append, List.length_cons]; omega
    (repeat (first | refine wpS_seq ?_ | refine wpS_reg ?_ | refine run_step rfl (by ((repeat' (first | exact allP_nil | refine allP_cons ?_ ?_ | intro _)) <;> first | assumption | omega | (simp only [cond_true, cond_false, bif_and, bif_or, decide_eq_true_eq, decide_eq_false_iff_not, Bool.and_eq_true, Bool.or_eq_true, Bool.not_eq_true', Bool.not_eq_false'] at *; omega) | (intros; first | rfl | assumption | omega | simp_all; done))) ?_ | refine run_nil ?_ | refine wpS_block ?_ | refine wpS_skip ?_ | refine wpS_exit ?_ | refine wpS_ret ?_))
    rw [show ((k : Int)).toNat = k from Int.toNat_natCast k, ← hse]
    (repeat (first | refine wpS_seq ?_ | refine wpS_reg ?_ | refine run_step rfl (by ((repeat' (first | exact allP_nil | refine allP_cons ?_ ?_ | intro _)) <;> first | assumption | omega | (simp only [cond_true, cond_false, bif_and, bif_or, decide_eq_true_eq, decide_eq_false_iff_not, Bool.and_eq_true, Bool.or_eq_true, Bool.not_eq_true', Bool.not_eq_false'] at *; omega) | (intros; first | rfl | assumption | omega | simp_all; done))) ?_ | refine run_nil ?_ | refine wpS_block ?_ | refine wpS_skip ?_ | refine wpS_exit ?_ | refine wpS_ret ?_))
    refine run_c (hm) rfl (by ((repeat' (first | exact allP_nil | refine allP_cons ?_ ?_ | intro _)) <;> first | assumption | omega | (simp only [cond_true, cond_false, bif_and, bif_or, decide_eq_true_eq, decide_eq_false_iff_not, Bool.and_eq_true, Bool.or_eq_true, Bool.not_eq_true', Bool.not_eq_false'] at *; omega) | (intros; first | rfl | assumption | omega | simp_all; done))) rfl rfl (.inl rfl) ?_
    (repeat (first | refine wpS_seq ?_ | refine wpS_reg ?_ | refine run_step rfl (by ((repeat' (first | exact allP_nil | refine allP_cons ?_ ?_ | intro _)) <;> first | assumption | omega | (simp only [cond_true, cond_false, bif_and, bif_or, decide_eq_true_eq, decide_eq_false_iff_not, Bool.and_eq_true, Bool.or_eq_true, Bool.not_eq_true', Bool.not_eq_false'] at *; omega) | (intros; first | rfl | assumption | omega | simp_all; done))) ?_ | refine run_nil ?_ | refine wpS_block ?_ | refine wpS_skip ?_ | refine wpS_exit ?_ | refine wpS_ret ?_))
    refine ⟨k + 1, by omega, by dsimp only; omega, ?_⟩
    dsimp only
    refine ent_le ?_; (repeat' (first | exact allP_nil | refine allP_cons ?_ ?_)) <;> first | rfl | exact ⟨rfl, fun _ _ => rfl⟩ | (rw [hpl]; omega)
  have hlt : k = l.length := by simp at h; omega
  subst hlt
  clear h
  rw [List.take_length]
  (repeat (first | refine wpS_seq ?_ | refine wpS_reg ?_ | refine run_step rfl (by ((repeat' (first | exact allP_nil | refine allP_cons ?_ ?_ | intro _)) <;> first | assumption | omega | (simp only [cond_true, cond_false, bif_and, bif_or, decide_eq_true_eq, decide_eq_false_iff_not, Bool.and_eq_true, Bool.or_eq_true, Bool.not_eq_true', Bool.not_eq_false'] at *; omega) | (intros; first | rfl | assumption | omega | simp_all; done))) ?_ | refine run_nil ?_ | refine wpS_block ?_ | refine wpS_skip ?_ | refine wpS_exit ?_ | refine wpS_ret ?_))
  refine wpS_cond rfl (by ((repeat' (first | exact allP_nil | refine allP_cons ?_ ?_ | intro _)) <;> first | assumption | omega | (simp only [cond_true, cond_false, bif_and, bif_or, decide_eq_true_eq, decide_eq_false_iff_not, Bool.and_eq_true, Bool.or_eq_true, Bool.not_eq_true', Bool.not_eq_false'] at *; omega) | (intros; first | rfl | assumption | omega | simp_all; done))) (fun h => ?_) (fun h => ?_)
  · exfalso
    by_cases h1 : 4096 < l.length
    · omega
    · have e1 : decide ((4096 : Int) < (l.length : Int)) = false := by simp; omega
      have e2 : decide ((30000 : Int) < ((packS l).length : Int)) = false := by simp; omega
      simp only [e1, e2] at h
      cases h
  clear h
  (repeat (first | refine wpS_seq ?_ | refine wpS_reg ?_ | refine run_step rfl (by ((repeat' (first | exact allP_nil | refine allP_cons ?_ ?_ | intro _)) <;> first | assumption | omega | (simp only [cond_true, cond_false, bif_and, bif_or, decide_eq_true_eq, decide_eq_false_iff_not, Bool.and_eq_true, Bool.or_eq_true, Bool.not_eq_true', Bool.not_eq_false'] at *; omega) | (intros; first | rfl | assumption | omega | simp_all; done))) ?_ | refine run_nil ?_ | refine wpS_block ?_ | refine wpS_skip ?_ | refine wpS_exit ?_ | refine wpS_ret ?_))
  refine wpS_loop (fun k => k ≤ l.length) (pkS l) (fun k => l.length - k) 0 (by omega)
    (by refine ent_le ?_; (repeat' (first | exact allP_nil | refine allP_cons ?_ ?_)) <;> first | rfl | exact ⟨rfl, fun _ _ => rfl⟩) ?_
  rintro k hk
  have hmk := hmono k
  cases k with
  | zero =>
    (repeat (first | refine wpS_seq ?_ | refine wpS_reg ?_ | refine run_step rfl (by ((repeat' (first | exact allP_nil | refine allP_cons ?_ ?_ | intro _)) <;> first | assumption | omega | (simp only [cond_true, cond_false, bif_and, bif_or, decide_eq_true_eq, decide_eq_false_iff_not, Bool.and_eq_true, Bool.or_eq_true, Bool.not_eq_true', Bool.not_eq_false'] at *; omega) | (intros; first | rfl | assumption | omega | simp_all; done))) ?_ | refine run_nil ?_ | refine wpS_block ?_ | refine wpS_skip ?_ | refine wpS_exit ?_ | refine wpS_ret ?_))
    refine wpS_cond rfl (by ((repeat' (first | exact allP_nil | refine allP_cons ?_ ?_ | intro _)) <;> first | assumption | omega | (simp only [cond_true, cond_false, bif_and, bif_or, decide_eq_true_eq, decide_eq_false_iff_not, Bool.and_eq_true, Bool.or_eq_true, Bool.not_eq_true', Bool.not_eq_false'] at *; omega) | (intros; first | rfl | assumption | omega | simp_all; done))) (fun h => ?_) (fun h => ?_)
    · have hlt : 0 < l.length := hpos
      clear h
      have hm := hI _ (getD_mem hlt)
      have hpt := packS_take hlt
      have hmk1 := hmono (0 + 1)
      obtain ⟨s, hse⟩ : ∃ s, s = l.getD 0 default := ⟨_, rfl⟩
      rw [← hse] at hm hpt
      have hpq : packS (l.take (0 + 1)) = itoaS s.length ++ [58] ++ s := by rw [hpt]; simp [packF, packS]
      rw [hpq] at hmk1
      have ho : (itoaS s.length ++ [58]).length + s.length ≤ 9223372036854775807 := by rw [← List.length_append]; simp only [List.length_append] at *; omega
      have ho2 : (itoaS s.length).length + [(58 : UInt8)].length ≤ 9223372036854775807 := by simp only [List.length_append] at *; omega
      (repeat (first | refine wpS_seq ?_ | refine wpS_reg ?_ | refine run_step rfl (by ((repeat' (first | exact allP_nil | refine allP_cons ?_ ?_ | intro _)) <;> first | assumption | omega | (simp only [cond_true, cond_false, bif_and, bif_or, decide_eq_true_eq, decide_eq_false_iff_not, Bool.and_eq_true, Bool.or_eq_true, Bool.not_eq_true', Bool.not_eq_false'] at *; omega) | (intros; first | rfl | assumption | omega | simp_all; done))) ?_ | refine run_nil ?_ | refine wpS_block ?_ | refine wpS_skip ?_ | refine wpS_exit ?_ | refine wpS_ret ?_))
      rw [show (((0 : Nat) : Int)).toNat = 0 from rfl, ← hse]
      (repeat (first | refine wpS_seq ?_ | refine wpS_reg ?_ | refine run_step rfl (by ((repeat' (first | exact allP_nil | refine allP_cons ?_ ?_ | intro _)) <;> first | assumption | omega | (simp only [cond_true, cond_false, bif_and, bif_or, decide_eq_true_eq, decide_eq_false_iff_not, Bool.and_eq_true, Bool.or_eq_true, Bool.not_eq_true', Bool.not_eq_false'] at *; omega) | (intros; first | rfl | assumption | omega | simp_all; done))) ?_ | refine run_nil ?_ | refine wpS_block ?_ | refine wpS_skip ?_ | refine wpS_exit ?_ | refine wpS_ret ?_))
      refine run_c (hm) rfl (by ((repeat' (first | exact allP_nil | refine allP_cons ?_ ?_ | intro _)) <;> first | assumption | omega | (simp only [cond_true, cond_false, bif_and, bif_or, decide_eq_true_eq, decide_eq_false_iff_not, Bool.and_eq_true, Bool.or_eq_true, Bool.not_eq_true', Bool.not_eq_false'] at *; omega) | (intros; first | rfl | assumption | omega | simp_all; done))) rfl rfl (.inl rfl) ?_
      (repeat (first | refine wpS_seq ?_ | refine wpS_reg ?_ | refine run_step rfl (by ((repeat' (first | exact allP_nil | refine allP_cons ?_ ?_ | intro _)) <;> first | assumption | omega | (simp only [cond_true, cond_false, bif_and, bif_or, decide_eq_true_eq, decide_eq_false_iff_not, Bool.and_eq_true, Bool.or_eq_true, Bool.not_eq_true', Bool.not_eq_false'] at *; omega) | (intros; first | rfl | assumption | omega | simp_all; done))) ?_ | refine run_nil ?_ | refine wpS_block ?_ | refine wpS_skip ?_ | refine wpS_exit ?_ | refine wpS_ret ?_))
      refine run_cR ρb [PB, QN] (write0 (itoaS s.length ++ [58] ++ s) (by rw [maxL_eq]; omega)) rfl rfl ⟨rfl, trivial⟩ rfl ?_
      (repeat (first | refine wpS_seq ?_ | refine wpS_reg ?_ | refine run_step rfl (by ((repeat' (first | exact allP_nil | refine allP_cons ?_ ?_ | intro _)) <;> first | assumption | omega | (simp only [cond_true, cond_false, bif_and, bif_or, decide_eq_true_eq, decide_eq_false_iff_not, Bool.and_eq_true, Bool.or_eq_true, Bool.not_eq_true', Bool.not_eq_false'] at *; omega) | (intros; first | rfl | assumption | omega | simp_all; done))) ?_ | refine run_nil ?_ | refine wpS_block ?_ | refine wpS_skip ?_ | refine wpS_exit ?_ | refine wpS_ret ?_))
      refine ⟨0 + 1, by omega, by dsimp only; omega, ?_⟩
      unfold pkS
      dsimp only
      rw [hpq]
      refine ent_le ?_; (repeat' (first | exact allP_nil | refine allP_cons ?_ ?_)) <;> first | rfl | exact ⟨rfl, fun _ _ => rfl⟩
    · exfalso; simp at h; exact h0 h
  | succ k =>
    (repeat (first | refine wpS_seq ?_ | refine wpS_reg ?_ | refine run_step rfl (by ((repeat' (first | exact allP_nil | refine allP_cons ?_ ?_ | intro _)) <;> first | assumption | omega | (simp only [cond_true, cond_false, bif_and, bif_or, decide_eq_true_eq, decide_eq_false_iff_not, Bool.and_eq_true, Bool.or_eq_true, Bool.not_eq_true', Bool.not_eq_false'] at *; omega) | (intros; first | rfl | assumption | omega | simp_all; done))) ?_ | refine run_nil ?_ | refine wpS_block ?_ | refine wpS_skip ?_ | refine wpS_exit ?_ | refine wpS_ret ?_))
    refine wpS_cond rfl (by ((repeat' (first | exact allP_nil | refine allP_cons ?_ ?_ | intro _)) <;> first | assumption | omega | (simp only [cond_true, cond_false, bif_and, bif_or, decide_eq_true_eq, decide_eq_false_iff_not, Bool.and_eq_true, Bool.or_eq_true, Bool.not_eq_true', Bool.not_eq_false'] at *; omega) | (intros; first | rfl | assumption | omega | simp_all; done))) (fun h => ?_) (fun h => ?_)
    · have hlt : k + 1 < l.length := by simp at h; omega
      clear h
      have hm := hI _ (getD_mem hlt)
      have hpt := packS_take hlt
      have hmk1 := hmono (k + 1 + 1)
      obtain ⟨s, hse⟩ : ∃ s, s = l.getD (k + 1) default := ⟨_, rfl⟩
      rw [← hse] at hm hpt
      have hpq : packS (l.take (k + 1 + 1)) = packS (l.take (k + 1)) ++ (itoaS s.length ++ [58] ++ s) := by rw [hpt]; simp [packF]
      rw [hpq] at hmk1
      have ho : (itoaS s.length ++ [58]).length + s.length ≤ 9223372036854775807 := by rw [← List.length_append]; simp only [List.length_append] at *; omega
      have ho2 : (itoaS s.length).length + [(58 : UInt8)].length ≤ 9223372036854775807 := by simp only [List.length_append] at *; omega
      obtain ⟨t, ht⟩ : ∃ t, t = packS (l.take (k + 1)) := ⟨_, rfl⟩
      rw [← ht] at hpq hmk1 ⊢
      (repeat (first | refine wpS_seq ?_ | refine wpS_reg ?_ | refine run_step rfl (by ((repeat' (first | exact allP_nil | refine allP_cons ?_ ?_ | intro _)) <;> first | assumption | omega | (simp only [cond_true, cond_false, bif_and, bif_or, decide_eq_true_eq, decide_eq_false_iff_not, Bool.and_eq_true, Bool.or_eq_true, Bool.not_eq_true', Bool.not_eq_false'] at *; omega) | (intros; first | rfl | assumption | omega | simp_all; done))) ?_ | refine run_nil ?_ | refine wpS_block ?_ | refine wpS_skip ?_ | refine wpS_exit ?_ | refine wpS_ret ?_))
      rw [show (((k + 1 : Nat) : Int)).toNat = k + 1 from Int.toNat_natCast _, ← hse]
      (repeat (first | refine wpS_seq ?_ | refine wpS_reg ?_ | refine run_step rfl (by ((repeat' (first | exact allP_nil | refine allP_cons ?_ ?_ | intro _)) <;> first | assumption | omega | (simp only [cond_true, cond_false, bif_and, bif_or, decide_eq_true_eq, decide_eq_false_iff_not, Bool.and_eq_true, Bool.or_eq_true, Bool.not_eq_true', Bool.not_eq_false'] at *; omega) | (intros; first | rfl | assumption | omega | simp_all; done))) ?_ | refine run_nil ?_ | refine wpS_block ?_ | refine wpS_skip ?_ | refine wpS_exit ?_ | refine wpS_ret ?_))
      refine run_c (hm) rfl (by ((repeat' (first | exact allP_nil | refine allP_cons ?_ ?_ | intro _)) <;> first | assumption | omega | (simp only [cond_true, cond_false, bif_and, bif_or, decide_eq_true_eq, decide_eq_false_iff_not, Bool.and_eq_true, Bool.or_eq_true, Bool.not_eq_true', Bool.not_eq_false'] at *; omega) | (intros; first | rfl | assumption | omega | simp_all; done))) rfl rfl (.inl rfl) ?_
      (repeat (first | refine wpS_seq ?_ | refine wpS_reg ?_ | refine run_step rfl (by ((repeat' (first | exact allP_nil | refine allP_cons ?_ ?_ | intro _)) <;> first | assumption | omega | (simp only [cond_true, cond_false, bif_and, bif_or, decide_eq_true_eq, decide_eq_false_iff_not, Bool.and_eq_true, Bool.or_eq_true, Bool.not_eq_true', Bool.not_eq_false'] at *; omega) | (intros; first | rfl | assumption | omega | simp_all; done))) ?_ | refine run_nil ?_ | refine wpS_block ?_ | refine wpS_skip ?_ | refine wpS_exit ?_ | refine wpS_ret ?_))
      refine run_cR ρb [PB, QN] (write1 t (itoaS s.length ++ [58] ++ s) (by rw [maxL_eq, ← List.length_append]; omega)) rfl rfl ⟨rfl, rfl, trivial⟩ rfl ?_
      (repeat (first | refine wpS_seq ?_ | refine wpS_reg ?_ | refine run_step rfl (by ((repeat' (first | exact allP_nil | refine allP_cons ?_ ?_ | intro _)) <;> first | assumption | omega | (simp only [cond_true, cond_false, bif_and, bif_or, decide_eq_true_eq, decide_eq_false_iff_not, Bool.and_eq_true, Bool.or_eq_true, Bool.not_eq_true', Bool.not_eq_false'] at *; omega) | (intros; first | rfl | assumption | omega | simp_all; done))) ?_ | refine run_nil ?_ | refine wpS_block ?_ | refine wpS_skip ?_ | refine wpS_exit ?_ | refine wpS_ret ?_))
      refine ⟨k + 1 + 1, by omega, by dsimp only; omega, ?_⟩
      unfold pkS
      dsimp only
      rw [hpq]
      refine ent_le ?_; (repeat' (first | exact allP_nil | refine allP_cons ?_ ?_)) <;> first | rfl | exact ⟨rfl, fun _ _ => rfl⟩
    · have hlt : k + 1 = l.length := by simp at h; omega
      rw [hlt, List.take_length]
      clear h
      have hps : 0 < (packS l).length := by
        have h1 := hmono 1
        have h2 := packS_take (l := l) (k := 0) hpos
        rw [h2] at h1
        simp only [packF, List.length_append, List.length_cons] at h1
        omega
      (repeat (first | refine wpS_seq ?_ | refine wpS_reg ?_ | refine run_step rfl (by ((repeat' (first | exact allP_nil | refine allP_cons ?_ ?_ | intro _)) <;> first | assumption | omega | (simp only [cond_true, cond_false, bif_and, bif_or, decide_eq_true_eq, decide_eq_false_iff_not, Bool.and_eq_true, Bool.or_eq_true, Bool.not_eq_true', Bool.not_eq_false'] at *; omega) | (intros; first | rfl | assumption | omega | simp_all; done))) ?_ | refine run_nil ?_ | refine wpS_block ?_ | refine wpS_skip ?_ | refine wpS_exit ?_ | refine wpS_ret ?_))
      refine run_cR ρb [PB, QN] (string_spec (packS l) hps) rfl rfl ⟨rfl, rfl, trivial⟩ rfl ?_
      (repeat (first | refine wpS_seq ?_ | refine wpS_reg ?_ | refine run_step rfl (by ((repeat' (first | exact allP_nil | refine allP_cons ?_ ?_ | intro _)) <;> first | assumption | omega | (simp only [cond_true, cond_false, bif_and, bif_or, decide_eq_true_eq, decide_eq_false_iff_not, Bool.and_eq_true, Bool.or_eq_true, Bool.not_eq_true', Bool.not_eq_false'] at *; omega) | (intros; first | rfl | assumption | omega | simp_all; done))) ?_ | refine run_nil ?_ | refine wpS_block ?_ | refine wpS_skip ?_ | refine wpS_exit ?_ | refine wpS_ret ?_))
      refine fin_mk rfl ?_; (repeat' (first | exact allP_nil | refine allP_cons ?_ ?_))
      all_goals first | rfl | exact ⟨rfl, fun _ _ => rfl⟩
end Go.Proofs
end
/- part BkEnc -/
section
namespace Go.Proofs
open Go.Av Go.Pu
theorem pack_spec' (l : List (List UInt8)) (n : Nat) (f : Nat → List AV) (hn : n = l.length) (hf : ∀ i, i < n → f i = strA (l.getD i default)) (h0 : l ≠ []) (hl : l.length ≤ 4096) (hs : (packS l).length ≤ 30000) (hI : ∀ s ∈ l, ItoaOK s.length) : Spec0 Tryz.prog 58 [.sl 1 n f] (.tup [.str (packS l), .int .i64 0]) :=
  spec0_leA (pack_spec l h0 hl hs hI) ⟨⟨hn, hf⟩, trivial⟩
def accS (b : Bool) : List UInt8 := bif b then [49] else [48]
def encL (e : Ev) : List (List UInt8) := [itoaS e.kind.toNat, e.key.stu, e.key.ex, itoaS e.key.att.toNat, itoaS e.tick.toNat, itoaS e.ver.toNat, itoaS e.hun.toNat, e.text, accS e.acc]
theorem itoaI {n : Int} (h0 : 0 ≤ n) (h : ItoaOK n.toNat) : Spec0 Tryz.prog 67 [.int .i64 n] (.str (itoaS n.toNat)) := by
  have := h
  unfold ItoaOK at this
  rwa [Int.toNat_of_nonneg h0] at this
set_option maxRecDepth 20000 in
theorem encode_spec (e : Ev) (hv : validEv e = true) (hl : ∀ s ∈ encL e, ItoaOK s.length) (hs : (packS (encL e)).length ≤ 30000) (h1 : ItoaOK e.kind.toNat) (h2 : ItoaOK e.key.att.toNat) (h3 : ItoaOK e.tick.toNat) (h4 : ItoaOK e.ver.toNat) (h5 : ItoaOK e.hun.toNat) :
    Spec0 Tryz.prog 38 [.agg (evA e)] (.tup [.str (packS (encL e)), .int .i64 0]) := by
  have hm := validEv_smK hv
  have k1 := (validEv_kind hv).1
  have k3 := (validEv_tick hv).1
  have k2 : 0 ≤ e.key.att := by
    have := validEv_key hv
    simp only [keyB, Bool.and_eq_true, decide_eq_true_eq] at this
    omega
  have k45 : 0 ≤ e.ver ∧ 0 ≤ e.hun := by
    by_cases hk : e.kind = 1
    · have := hv
      simp only [validEv, Bool.and_eq_true, if_pos hk, decide_eq_true_eq] at this
      omega
    · have := validEv_else hv hk
      omega
  refine spec0 ok38 rfl fun C _ => ?_
  (repeat (first | refine wpS_seq ?_ | refine wpS_reg ?_ | refine run_step rfl (by ((repeat' (first | exact allP_nil | refine allP_cons ?_ ?_ | intro _)) <;> first | assumption | omega | (simp only [cond_true, cond_false, bif_and, bif_or, decide_eq_true_eq, decide_eq_false_iff_not, Bool.and_eq_true, Bool.or_eq_true, Bool.not_eq_true', Bool.not_eq_false'] at *; omega) | (intros; first | rfl | assumption | omega | simp_all; done))) ?_ | refine run_nil ?_ | refine wpS_block ?_ | refine wpS_skip ?_ | refine wpS_exit ?_ | refine wpS_ret ?_))
  refine run_c ((validEvent_spec e hm.1 hm.2)) rfl (by ((repeat' (first | exact allP_nil | refine allP_cons ?_ ?_ | intro _)) <;> first | assumption | omega | (simp only [cond_true, cond_false, bif_and, bif_or, decide_eq_true_eq, decide_eq_false_iff_not, Bool.and_eq_true, Bool.or_eq_true, Bool.not_eq_true', Bool.not_eq_false'] at *; omega) | (intros; first | rfl | assumption | omega | simp_all; done))) rfl rfl (.inl rfl) ?_
  rw [hv]
  (repeat (first | refine wpS_seq ?_ | refine wpS_reg ?_ | refine run_step rfl (by ((repeat' (first | exact allP_nil | refine allP_cons ?_ ?_ | intro _)) <;> first | assumption | omega | (simp only [cond_true, cond_false, bif_and, bif_or, decide_eq_true_eq, decide_eq_false_iff_not, Bool.and_eq_true, Bool.or_eq_true, Bool.not_eq_true', Bool.not_eq_false'] at *; omega) | (intros; first | rfl | assumption | omega | simp_all; done))) ?_ | refine run_nil ?_ | refine wpS_block ?_ | refine wpS_skip ?_ | refine wpS_exit ?_ | refine wpS_ret ?_))
  refine wpS_condF rfl (by ((repeat' (first | exact allP_nil | refine allP_cons ?_ ?_ | intro _)) <;> first | assumption | omega | (simp only [cond_true, cond_false, bif_and, bif_or, decide_eq_true_eq, decide_eq_false_iff_not, Bool.and_eq_true, Bool.or_eq_true, Bool.not_eq_true', Bool.not_eq_false'] at *; omega) | (intros; first | rfl | assumption | omega | simp_all; done))) ?_
  (repeat (first | refine wpS_seq ?_ | refine wpS_reg ?_ | refine run_step rfl (by ((repeat' (first | exact allP_nil | refine allP_cons ?_ ?_ | intro _)) <;> first | assumption | omega | (simp only [cond_true, cond_false, bif_and, bif_or, decide_eq_true_eq, decide_eq_false_iff_not, Bool.and_eq_true, Bool.or_eq_true, Bool.not_eq_true', Bool.not_eq_false'] at *; omega) | (intros; first | rfl | assumption | omega | simp_all; done))) ?_ | refine run_nil ?_ | refine wpS_block ?_ | refine wpS_skip ?_ | refine wpS_exit ?_ | refine wpS_ret ?_))
  refine wpS_join (fun _ : Unit => True) (fun _ => ⟨[(1, .loc 1 0), (2, .str []), (3, .int .i64 0), (4, .str (accS e.acc))], [(1, .blk 26 (evA e))]⟩) ?_ ?_
  · refine wpS_cond rfl (by ((repeat' (first | exact allP_nil | refine allP_cons ?_ ?_ | intro _)) <;> first | assumption | omega | (simp only [cond_true, cond_false, bif_and, bif_or, decide_eq_true_eq, decide_eq_false_iff_not, Bool.and_eq_true, Bool.or_eq_true, Bool.not_eq_true', Bool.not_eq_false'] at *; omega) | (intros; first | rfl | assumption | omega | simp_all; done))) (fun h => ?_) (fun h => ?_)
    · (repeat (first | refine wpS_seq ?_ | refine wpS_reg ?_ | refine run_step rfl (by ((repeat' (first | exact allP_nil | refine allP_cons ?_ ?_ | intro _)) <;> first | assumption | omega | (simp only [cond_true, cond_false, bif_and, bif_or, decide_eq_true_eq, decide_eq_false_iff_not, Bool.and_eq_true, Bool.or_eq_true, Bool.not_eq_true', Bool.not_eq_false'] at *; omega) | (intros; first | rfl | assumption | omega | simp_all; done))) ?_ | refine run_nil ?_ | refine wpS_block ?_ | refine wpS_skip ?_ | refine wpS_exit ?_ | refine wpS_ret ?_))
      refine ⟨(), trivial, ?_⟩
      refine ent_le ?_; (repeat' (first | exact allP_nil | refine allP_cons ?_ ?_)) <;> first | rfl | (show (_ : List UInt8) = _; unfold accS; rw [show e.acc = true from h]; rfl)
    · (repeat (first | refine wpS_seq ?_ | refine wpS_reg ?_ | refine run_step rfl (by ((repeat' (first | exact allP_nil | refine allP_cons ?_ ?_ | intro _)) <;> first | assumption | omega | (simp only [cond_true, cond_false, bif_and, bif_or, decide_eq_true_eq, decide_eq_false_iff_not, Bool.and_eq_true, Bool.or_eq_true, Bool.not_eq_true', Bool.not_eq_false'] at *; omega) | (intros; first | rfl | assumption | omega | simp_all; done))) ?_ | refine run_nil ?_ | refine wpS_block ?_ | refine wpS_skip ?_ | refine wpS_exit ?_ | refine wpS_ret ?_))
      refine ⟨(), trivial, ?_⟩
      refine ent_le ?_; (repeat' (first | exact allP_nil | refine allP_cons ?_ ?_)) <;> first | rfl | (show (_ : List UInt8) = _; unfold accS; rw [show e.acc = false from h]; rfl)
  intro _ _
  (repeat (first | refine wpS_seq ?_ | refine wpS_reg ?_ | refine run_step rfl (by ((repeat' (first | exact allP_nil | refine allP_cons ?_ ?_ | intro _)) <;> first | assumption | omega | (simp only [cond_true, cond_false, bif_and, bif_or, decide_eq_true_eq, decide_eq_false_iff_not, Bool.and_eq_true, Bool.or_eq_true, Bool.not_eq_true', Bool.not_eq_false'] at *; omega) | (intros; first | rfl | assumption | omega | simp_all; done))) ?_ | refine run_nil ?_ | refine wpS_block ?_ | refine wpS_skip ?_ | refine wpS_exit ?_ | refine wpS_ret ?_))
  refine wpS_D (by kernel_rfl) ?_
  (repeat (refine trg_step rfl (by ((repeat' (first | exact allP_nil | refine allP_cons ?_ ?_ | intro _)) <;> first | assumption | omega | (simp only [cond_true, cond_false, bif_and, bif_or, decide_eq_true_eq, decide_eq_false_iff_not, Bool.and_eq_true, Bool.or_eq_true, Bool.not_eq_true', Bool.not_eq_false'] at *; omega) | (intros; first | rfl | assumption | omega | simp_all; done))) ?_))
  refine trg_c ((itoaI k1 h1)) rfl (by ((repeat' (first | exact allP_nil | refine allP_cons ?_ ?_ | intro _)) <;> first | assumption | omega | (simp only [cond_true, cond_false, bif_and, bif_or, decide_eq_true_eq, decide_eq_false_iff_not, Bool.and_eq_true, Bool.or_eq_true, Bool.not_eq_true', Bool.not_eq_false'] at *; omega) | (intros; first | rfl | assumption | omega | simp_all; done))) rfl rfl (.inl rfl) ?_
  (repeat (refine trg_step rfl (by ((repeat' (first | exact allP_nil | refine allP_cons ?_ ?_ | intro _)) <;> first | assumption | omega | (simp only [cond_true, cond_false, bif_and, bif_or, decide_eq_true_eq, decide_eq_false_iff_not, Bool.and_eq_true, Bool.or_eq_true, Bool.not_eq_true', Bool.not_eq_false'] at *; omega) | (intros; first | rfl | assumption | omega | simp_all; done))) ?_))
  refine trg_c ((itoaI k2 h2)) rfl (by ((repeat' (first | exact allP_nil | refine allP_cons ?_ ?_ | intro _)) <;> first | assumption | omega | (simp only [cond_true, cond_false, bif_and, bif_or, decide_eq_true_eq, decide_eq_false_iff_not, Bool.and_eq_true, Bool.or_eq_true, Bool.not_eq_true', Bool.not_eq_false'] at *; omega) | (intros; first | rfl | assumption | omega | simp_all; done))) rfl rfl (.inl rfl) ?_
  (repeat (refine trg_step rfl (by ((repeat' (first | exact allP_nil | refine allP_cons ?_ ?_ | intro _)) <;> first | assumption | omega | (simp only [cond_true, cond_false, bif_and, bif_or, decide_eq_true_eq, decide_eq_false_iff_not, Bool.and_eq_true, Bool.or_eq_true, Bool.not_eq_true', Bool.not_eq_false'] at *; omega) | (intros; first | rfl | assumption | omega | simp_all; done))) ?_))
  refine trg_c ((itoaI k3 h3)) rfl (by ((repeat' (first | exact allP_nil | refine allP_cons ?_ ?_ | intro _)) <;> first | assumption | omega | (simp only [cond_true, cond_false, bif_and, bif_or, decide_eq_true_eq, decide_eq_false_iff_not, Bool.and_eq_true, Bool.or_eq_true, Bool.not_eq_true', Bool.not_eq_false'] at *; omega) | (intros; first | rfl | assumption | omega | simp_all; done))) rfl rfl (.inl rfl) ?_
  (repeat (refine trg_step rfl (by ((repeat' (first | exact allP_nil | refine allP_cons ?_ ?_ | intro _)) <;> first | assumption | omega | (simp only [cond_true, cond_false, bif_and, bif_or, decide_eq_true_eq, decide_eq_false_iff_not, Bool.and_eq_true, Bool.or_eq_true, Bool.not_eq_true', Bool.not_eq_false'] at *; omega) | (intros; first | rfl | assumption | omega | simp_all; done))) ?_))
  refine trg_c ((itoaI k45.1 h4)) rfl (by ((repeat' (first | exact allP_nil | refine allP_cons ?_ ?_ | intro _)) <;> first | assumption | omega | (simp only [cond_true, cond_false, bif_and, bif_or, decide_eq_true_eq, decide_eq_false_iff_not, Bool.and_eq_true, Bool.or_eq_true, Bool.not_eq_true', Bool.not_eq_false'] at *; omega) | (intros; first | rfl | assumption | omega | simp_all; done))) rfl rfl (.inl rfl) ?_
  (repeat (refine trg_step rfl (by ((repeat' (first | exact allP_nil | refine allP_cons ?_ ?_ | intro _)) <;> first | assumption | omega | (simp only [cond_true, cond_false, bif_and, bif_or, decide_eq_true_eq, decide_eq_false_iff_not, Bool.and_eq_true, Bool.or_eq_true, Bool.not_eq_true', Bool.not_eq_false'] at *; omega) | (intros; first | rfl | assumption | omega | simp_all; done))) ?_))
  refine trg_c ((itoaI k45.2 h5)) rfl (by ((repeat' (first | exact allP_nil | refine allP_cons ?_ ?_ | intro _)) <;> first | assumption | omega | (simp only [cond_true, cond_false, bif_and, bif_or, decide_eq_true_eq, decide_eq_false_iff_not, Bool.and_eq_true, Bool.or_eq_true, Bool.not_eq_true', Bool.not_eq_false'] at *; omega) | (intros; first | rfl | assumption | omega | simp_all; done))) rfl rfl (.inl rfl) ?_
  (repeat (refine trg_step rfl (by ((repeat' (first | exact allP_nil | refine allP_cons ?_ ?_ | intro _)) <;> first | assumption | omega | (simp only [cond_true, cond_false, bif_and, bif_or, decide_eq_true_eq, decide_eq_false_iff_not, Bool.and_eq_true, Bool.or_eq_true, Bool.not_eq_true', Bool.not_eq_false'] at *; omega) | (intros; first | rfl | assumption | omega | simp_all; done))) ?_))
  refine trg_c ((pack_spec' (encL e) 9 (nth ((encL e).map strA)) (by simp [encL]) (fun i hi => (by match i, hi with | 0, _ | 1, _ | 2, _ | 3, _ | 4, _ | 5, _ | 6, _ | 7, _ | 8, _ => rfl)) (by unfold encL; simp) (by unfold encL; simp) hs hl)) rfl (by ((repeat' (first | exact allP_nil | refine allP_cons ?_ ?_ | intro _)) <;> first | assumption | omega | (simp only [cond_true, cond_false, bif_and, bif_or, decide_eq_true_eq, decide_eq_false_iff_not, Bool.and_eq_true, Bool.or_eq_true, Bool.not_eq_true', Bool.not_eq_false'] at *; omega) | (intros; first | rfl | assumption | omega | simp_all; done))) rfl rfl (.inl rfl) ?_
  (repeat (refine trg_step rfl (by ((repeat' (first | exact allP_nil | refine allP_cons ?_ ?_ | intro _)) <;> first | assumption | omega | (simp only [cond_true, cond_false, bif_and, bif_or, decide_eq_true_eq, decide_eq_false_iff_not, Bool.and_eq_true, Bool.or_eq_true, Bool.not_eq_true', Bool.not_eq_false'] at *; omega) | (intros; first | rfl | assumption | omega | simp_all; done))) ?_))
  refine trg_nil ⟨rfl, ?_⟩
  (repeat (first | refine wpS_seq ?_ | refine wpS_reg ?_ | refine run_step rfl (by ((repeat' (first | exact allP_nil | refine allP_cons ?_ ?_ | intro _)) <;> first | assumption | omega | (simp only [cond_true, cond_false, bif_and, bif_or, decide_eq_true_eq, decide_eq_false_iff_not, Bool.and_eq_true, Bool.or_eq_true, Bool.not_eq_true', Bool.not_eq_false'] at *; omega) | (intros; first | rfl | assumption | omega | simp_all; done))) ?_ | refine run_nil ?_ | refine wpS_block ?_ | refine wpS_skip ?_ | refine wpS_exit ?_ | refine wpS_ret ?_))
  refine fin_mk rfl ?_; (repeat' (first | exact allP_nil | refine allP_cons ?_ ?_))
  all_goals rfl
end Go.Proofs
end
/- part BkAwake -/
section
namespace Go.Proofs
open Go.Av Go.Pu
def awK : K := ⟨[97, 100, 97], [102, 105, 98], 1⟩
def aw1 : Ev := ⟨0, awK, 3, 0, 0, [], false⟩
def aw2 : Ev := ⟨1, awK, 5, 1, 750, [], false⟩
def aw3 : Ev := ⟨1, awK, 5, 1, 800, [], false⟩
def aw4 : Ev := ⟨1, awK, 5, 2, 800, [], false⟩
def awB1 : Bk := ⟨3, [⟨awK, 3, [], [], []⟩]⟩
def awB2 : Bk := ⟨5, [⟨awK, 3, [], [⟨1, 750, 5, []⟩], []⟩]⟩
def awB4 : Bk := ⟨5, [⟨awK, 3, [], [⟨1, 750, 5, []⟩, ⟨2, 800, 5, []⟩], []⟩]⟩
theorem awE1 : applyX empty aw1 = (0, awB1) := by decide +kernel
theorem awE2 : applyX awB1 aw2 = (0, awB2) := by decide +kernel
theorem awE3 : applyX awB2 aw3 = (9, empty) := by decide +kernel
theorem awE4 : applyX awB2 aw4 = (0, awB4) := by decide +kernel
theorem awV : validEv aw1 = true := by decide +kernel
theorem sm_empty : Sm empty := ⟨by unfold SmV; decide, fun e he => by simp [empty, evsBk, evsRaw, sortS] at he⟩
theorem sm_dec {b : Bk} (h1 : (evsRaw b.ens).length ≤ 1000000) (h2 : ∀ e ∈ evsRaw b.ens, validEv e = true) : Sm b := by
  refine ⟨h1, fun e he => ?_⟩
  unfold evsBk at he
  rw [mem_sortS] at he
  exact validEv_smK (h2 e he)
theorem sm_aw1 : Sm awB1 := sm_dec (by decide +kernel) (by decide +kernel)
theorem sm_aw2 : Sm awB2 := sm_dec (by decide +kernel) (by decide +kernel)
def awS : List UInt8 := [49, 58, 48, 51, 58, 97, 100, 97, 51, 58, 102, 105, 98, 49, 58, 49, 49, 58, 51, 49, 58, 48, 49, 58, 48, 48, 58, 49, 58, 48]
theorem itoaS_eq {n : Nat} (h : n < 100) : itoaS n = smallS n := (itoaS_small h).symm
theorem awP : packS (encL aw1) = awS := by
  unfold encL packS
  simp only [List.flatMap_cons, List.flatMap_nil, packF]
  rw [show aw1.kind.toNat = 0 from rfl, show aw1.key.att.toNat = 1 from rfl, show aw1.tick.toNat = 3 from rfl, show aw1.ver.toNat = 0 from rfl, show aw1.hun.toNat = 0 from rfl]
  rw [itoaS_eq (n := 0) (by omega), itoaS_eq (n := 1) (by omega), itoaS_eq (n := 3) (by omega), itoaS_eq (by decide +kernel), itoaS_eq (by decide +kernel), itoaS_eq (by decide +kernel), itoaS_eq (by decide +kernel), itoaS_eq (by decide +kernel), itoaS_eq (by decide +kernel)]
  decide +kernel
theorem awI (n : Nat) (h : n < 100) : ItoaOK n := itoaOK_small h
theorem awL : ∀ s ∈ encL aw1, s.length < 100 := by
  unfold encL
  rw [show aw1.kind.toNat = 0 from rfl, show aw1.key.att.toNat = 1 from rfl, show aw1.tick.toNat = 3 from rfl, show aw1.ver.toNat = 0 from rfl, show aw1.hun.toNat = 0 from rfl]
  rw [itoaS_eq (n := 0) (by omega), itoaS_eq (n := 1) (by omega), itoaS_eq (n := 3) (by omega)]
  decide +kernel
theorem smK_aw (e : Ev) (h : e.key = awK) : SmK e := by
  unfold SmK
  rw [h]
  exact ⟨by decide, by decide⟩
theorem awake_spec : Spec0 Tryz.prog 11 [] (.bool true) := by
  refine spec0 ok11 rfl fun C _ => ?_
  (repeat (first | refine wpS_seq ?_ | refine wpS_reg ?_ | refine run_step rfl (by ((repeat' (first | exact allP_nil | refine allP_cons ?_ ?_ | intro _)) <;> first | assumption | omega | (simp only [cond_true, cond_false, bif_and, bif_or, decide_eq_true_eq, decide_eq_false_iff_not, Bool.and_eq_true, Bool.or_eq_true, Bool.not_eq_true', Bool.not_eq_false'] at *; omega) | (intros; first | rfl | assumption | omega | simp_all; done))) ?_ | refine run_nil ?_ | refine wpS_block ?_ | refine wpS_skip ?_ | refine wpS_exit ?_ | refine wpS_ret ?_))
  refine run_c ((spec0_leA (args' := [.agg [.int .i64 0, .nils], .agg (evA aw1)]) (applyX_spec empty aw1 sm_empty (smK_aw _ rfl)) (by (repeat' (first | exact allP_nil | refine allP_cons ?_ ?_)) <;> first | rfl | exact ⟨rfl, fun _ hi => absurd hi (Nat.not_lt_zero _)⟩))) rfl (by ((repeat' (first | exact allP_nil | refine allP_cons ?_ ?_ | intro _)) <;> first | assumption | omega | (simp only [cond_true, cond_false, bif_and, bif_or, decide_eq_true_eq, decide_eq_false_iff_not, Bool.and_eq_true, Bool.or_eq_true, Bool.not_eq_true', Bool.not_eq_false'] at *; omega) | (intros; first | rfl | assumption | omega | simp_all; done))) rfl rfl (.inr rfl) ?_
  rw [awE1]
  (repeat (first | refine wpS_seq ?_ | refine wpS_reg ?_ | refine run_step rfl (by ((repeat' (first | exact allP_nil | refine allP_cons ?_ ?_ | intro _)) <;> first | assumption | omega | (simp only [cond_true, cond_false, bif_and, bif_or, decide_eq_true_eq, decide_eq_false_iff_not, Bool.and_eq_true, Bool.or_eq_true, Bool.not_eq_true', Bool.not_eq_false'] at *; omega) | (intros; first | rfl | assumption | omega | simp_all; done))) ?_ | refine run_nil ?_ | refine wpS_block ?_ | refine wpS_skip ?_ | refine wpS_exit ?_ | refine wpS_ret ?_))
  refine run_c ((applyX_spec awB1 aw2 sm_aw1 (smK_aw _ rfl))) rfl (by ((repeat' (first | exact allP_nil | refine allP_cons ?_ ?_ | intro _)) <;> first | assumption | omega | (simp only [cond_true, cond_false, bif_and, bif_or, decide_eq_true_eq, decide_eq_false_iff_not, Bool.and_eq_true, Bool.or_eq_true, Bool.not_eq_true', Bool.not_eq_false'] at *; omega) | (intros; first | rfl | assumption | omega | simp_all; done))) rfl rfl (.inr rfl) ?_
  rw [awE2]
  (repeat (first | refine wpS_seq ?_ | refine wpS_reg ?_ | refine run_step rfl (by ((repeat' (first | exact allP_nil | refine allP_cons ?_ ?_ | intro _)) <;> first | assumption | omega | (simp only [cond_true, cond_false, bif_and, bif_or, decide_eq_true_eq, decide_eq_false_iff_not, Bool.and_eq_true, Bool.or_eq_true, Bool.not_eq_true', Bool.not_eq_false'] at *; omega) | (intros; first | rfl | assumption | omega | simp_all; done))) ?_ | refine run_nil ?_ | refine wpS_block ?_ | refine wpS_skip ?_ | refine wpS_exit ?_ | refine wpS_ret ?_))
  refine run_c ((applyX_spec awB2 aw3 sm_aw2 (smK_aw _ rfl))) rfl (by ((repeat' (first | exact allP_nil | refine allP_cons ?_ ?_ | intro _)) <;> first | assumption | omega | (simp only [cond_true, cond_false, bif_and, bif_or, decide_eq_true_eq, decide_eq_false_iff_not, Bool.and_eq_true, Bool.or_eq_true, Bool.not_eq_true', Bool.not_eq_false'] at *; omega) | (intros; first | rfl | assumption | omega | simp_all; done))) rfl rfl (.inr rfl) ?_
  rw [awE3]
  (repeat (first | refine wpS_seq ?_ | refine wpS_reg ?_ | refine run_step rfl (by ((repeat' (first | exact allP_nil | refine allP_cons ?_ ?_ | intro _)) <;> first | assumption | omega | (simp only [cond_true, cond_false, bif_and, bif_or, decide_eq_true_eq, decide_eq_false_iff_not, Bool.and_eq_true, Bool.or_eq_true, Bool.not_eq_true', Bool.not_eq_false'] at *; omega) | (intros; first | rfl | assumption | omega | simp_all; done))) ?_ | refine run_nil ?_ | refine wpS_block ?_ | refine wpS_skip ?_ | refine wpS_exit ?_ | refine wpS_ret ?_))
  refine run_c ((applyX_spec awB2 aw4 sm_aw2 (smK_aw _ rfl))) rfl (by ((repeat' (first | exact allP_nil | refine allP_cons ?_ ?_ | intro _)) <;> first | assumption | omega | (simp only [cond_true, cond_false, bif_and, bif_or, decide_eq_true_eq, decide_eq_false_iff_not, Bool.and_eq_true, Bool.or_eq_true, Bool.not_eq_true', Bool.not_eq_false'] at *; omega) | (intros; first | rfl | assumption | omega | simp_all; done))) rfl rfl (.inr rfl) ?_
  rw [awE4]
  (repeat (first | refine wpS_seq ?_ | refine wpS_reg ?_ | refine run_step rfl (by ((repeat' (first | exact allP_nil | refine allP_cons ?_ ?_ | intro _)) <;> first | assumption | omega | (simp only [cond_true, cond_false, bif_and, bif_or, decide_eq_true_eq, decide_eq_false_iff_not, Bool.and_eq_true, Bool.or_eq_true, Bool.not_eq_true', Bool.not_eq_false'] at *; omega) | (intros; first | rfl | assumption | omega | simp_all; done))) ?_ | refine run_nil ?_ | refine wpS_block ?_ | refine wpS_skip ?_ | refine wpS_exit ?_ | refine wpS_ret ?_))
  refine run_c ((encode_spec aw1 awV (fun s hs => awI _ (awL s hs)) (by rw [awP]; decide) (awI _ (by decide)) (awI _ (by decide)) (awI _ (by decide)) (awI _ (by decide)) (awI _ (by decide)))) rfl (by ((repeat' (first | exact allP_nil | refine allP_cons ?_ ?_ | intro _)) <;> first | assumption | omega | (simp only [cond_true, cond_false, bif_and, bif_or, decide_eq_true_eq, decide_eq_false_iff_not, Bool.and_eq_true, Bool.or_eq_true, Bool.not_eq_true', Bool.not_eq_false'] at *; omega) | (intros; first | rfl | assumption | omega | simp_all; done))) rfl rfl (.inl rfl) ?_
  rw [awP]
  (repeat (first | refine wpS_seq ?_ | refine wpS_reg ?_ | refine run_step rfl (by ((repeat' (first | exact allP_nil | refine allP_cons ?_ ?_ | intro _)) <;> first | assumption | omega | (simp only [cond_true, cond_false, bif_and, bif_or, decide_eq_true_eq, decide_eq_false_iff_not, Bool.and_eq_true, Bool.or_eq_true, Bool.not_eq_true', Bool.not_eq_false'] at *; omega) | (intros; first | rfl | assumption | omega | simp_all; done))) ?_ | refine run_nil ?_ | refine wpS_block ?_ | refine wpS_skip ?_ | refine wpS_exit ?_ | refine wpS_ret ?_))
  refine fin_mk rfl ?_; (repeat' (first | exact allP_nil | refine allP_cons ?_ ?_))
  all_goals rfl
end Go.Proofs
end
/- part BkKeeps -/
section
namespace Go.Proofs
open Go.Av Go.Pu
theorem few_smK {l : List Ev} {m : Int} (h : fewB l m = true) : (∀ e ∈ l, SmK e) ∧ (l.length : Int) ≤ m := by
  simp only [fewB, Bool.and_eq_true, decide_eq_true_eq, List.all_eq_true] at h
  refine ⟨fun e he => ?_, h.2⟩
  have := h.1 e he
  simp only [fewE, Bool.and_eq_true, decide_eq_true_eq] at this
  exact ⟨Nat.le_trans this.2.1 (by decide), Nat.le_trans this.2.2 (by decide)⟩
theorem few_one (x : Ev) (n : Nat) (f : Nat → List AV) (m : Int) (hn : n = 1) (hf : ∀ i, i < n → f i = evA x) : Spec0 Tryz.prog 12 [.sl 9 n f, .int .i64 m] (.bool (fewB [x] m)) := by
  refine spec0_leA (few_spec [x] m (by simp)) ⟨⟨hn, fun i hi => ?_⟩, rfl, trivial⟩
  rw [hf i hi]
  subst hn
  cases i with
  | zero => rfl
  | succ i => omega
theorem grEq' (a b : List Gr) (n : Nat) (f : Nat → List AV) (hn : n = a.length) (hf : ∀ i, i < n → f i = grA (a.getD i default)) (hl : a.length ≤ maxL) : Spec0 Tryz.prog 15 [.sl 4 n f, lsA 4 grA b] (.bool (a == b)) :=
  spec0_leA (grEqual_spec a b hl) ⟨⟨hn, hf⟩, ⟨rfl, fun _ _ => rfl⟩, trivial⟩
theorem tot_le {b c : Bk} {i j : Nat} (h : i ≤ j) : tot b c i ≤ tot b c j := by
  induction j with
  | zero => cases Nat.le_zero.1 h; exact Nat.le_refl _
  | succ j ih =>
    by_cases hij : i = j + 1
    · subst hij; exact Nat.le_refl _
    · exact Nat.le_trans (ih (by omega)) (Nat.le_add_right _ _)
theorem cnt_le {p q : En} {i j : Nat} (h : i ≤ j) : cnt p q i ≤ cnt p q j := by
  induction j with
  | zero => cases Nat.le_zero.1 h; exact Nat.le_refl _
  | succ j ih =>
    by_cases hij : i = j + 1
    · subst hij; exact Nat.le_refl _
    · exact Nat.le_trans (ih (by omega)) (Nat.le_add_right _ _)
set_option maxRecDepth 20000 in
set_option maxHeartbeats 2000000 in
theorem keeps_spec (l : List Ev) (x : Ev) (hl : l.length ≤ 9223372036854775807) : Spec0 Tryz.prog 3 [evsA l, .agg (evA x)] (.bool true) := by
  refine spec0 ok3 rfl fun C _ => ?_
  (repeat (first | refine wpS_seq ?_ | refine wpS_reg ?_ | refine run_step rfl (by ((repeat' (first | exact allP_nil | refine allP_cons ?_ ?_ | intro _)) <;> first | assumption | omega | (simp only [cond_true, cond_false, bif_and, bif_or, decide_eq_true_eq, decide_eq_false_iff_not, Bool.and_eq_true, Bool.or_eq_true, Bool.not_eq_true', Bool.not_eq_false'] at *; omega) | (intros; first | rfl | assumption | omega | simp_all; done))) ?_ | refine run_nil ?_ | refine wpS_block ?_ | refine wpS_skip ?_ | refine wpS_exit ?_ | refine wpS_ret ?_))
  refine run_c (awake_spec) rfl (by ((repeat' (first | exact allP_nil | refine allP_cons ?_ ?_ | intro _)) <;> first | assumption | omega | (simp only [cond_true, cond_false, bif_and, bif_or, decide_eq_true_eq, decide_eq_false_iff_not, Bool.and_eq_true, Bool.or_eq_true, Bool.not_eq_true', Bool.not_eq_false'] at *; omega) | (intros; first | rfl | assumption | omega | simp_all; done))) rfl rfl (.inl rfl) ?_
  (repeat (first | refine wpS_seq ?_ | refine wpS_reg ?_ | refine run_step rfl (by ((repeat' (first | exact allP_nil | refine allP_cons ?_ ?_ | intro _)) <;> first | assumption | omega | (simp only [cond_true, cond_false, bif_and, bif_or, decide_eq_true_eq, decide_eq_false_iff_not, Bool.and_eq_true, Bool.or_eq_true, Bool.not_eq_true', Bool.not_eq_false'] at *; omega) | (intros; first | rfl | assumption | omega | simp_all; done))) ?_ | refine run_nil ?_ | refine wpS_block ?_ | refine wpS_skip ?_ | refine wpS_exit ?_ | refine wpS_ret ?_))
  refine wpS_condF rfl (by ((repeat' (first | exact allP_nil | refine allP_cons ?_ ?_ | intro _)) <;> first | assumption | omega | (simp only [cond_true, cond_false, bif_and, bif_or, decide_eq_true_eq, decide_eq_false_iff_not, Bool.and_eq_true, Bool.or_eq_true, Bool.not_eq_true', Bool.not_eq_false'] at *; omega) | (intros; first | rfl | assumption | omega | simp_all; done))) ?_
  (repeat (first | refine wpS_seq ?_ | refine wpS_reg ?_ | refine run_step rfl (by ((repeat' (first | exact allP_nil | refine allP_cons ?_ ?_ | intro _)) <;> first | assumption | omega | (simp only [cond_true, cond_false, bif_and, bif_or, decide_eq_true_eq, decide_eq_false_iff_not, Bool.and_eq_true, Bool.or_eq_true, Bool.not_eq_true', Bool.not_eq_false'] at *; omega) | (intros; first | rfl | assumption | omega | simp_all; done))) ?_ | refine run_nil ?_ | refine wpS_block ?_ | refine wpS_skip ?_ | refine wpS_exit ?_ | refine wpS_ret ?_))
  refine run_c ((few_spec l 24 hl)) rfl (by ((repeat' (first | exact allP_nil | refine allP_cons ?_ ?_ | intro _)) <;> first | assumption | omega | (simp only [cond_true, cond_false, bif_and, bif_or, decide_eq_true_eq, decide_eq_false_iff_not, Bool.and_eq_true, Bool.or_eq_true, Bool.not_eq_true', Bool.not_eq_false'] at *; omega) | (intros; first | rfl | assumption | omega | simp_all; done))) rfl rfl (.inl rfl) ?_
  cases hf : fewB l 24 with
  | false =>
    (repeat (first | refine wpS_seq ?_ | refine wpS_reg ?_ | refine run_step rfl (by ((repeat' (first | exact allP_nil | refine allP_cons ?_ ?_ | intro _)) <;> first | assumption | omega | (simp only [cond_true, cond_false, bif_and, bif_or, decide_eq_true_eq, decide_eq_false_iff_not, Bool.and_eq_true, Bool.or_eq_true, Bool.not_eq_true', Bool.not_eq_false'] at *; omega) | (intros; first | rfl | assumption | omega | simp_all; done))) ?_ | refine run_nil ?_ | refine wpS_block ?_ | refine wpS_skip ?_ | refine wpS_exit ?_))
    refine run_skipS .nils rfl rfl ?_
    refine run_skipC (.bool false) rfl ?_
    (repeat (first | refine wpS_seq ?_ | refine wpS_reg ?_ | refine run_step rfl (by ((repeat' (first | exact allP_nil | refine allP_cons ?_ ?_ | intro _)) <;> first | assumption | omega | (simp only [cond_true, cond_false, bif_and, bif_or, decide_eq_true_eq, decide_eq_false_iff_not, Bool.and_eq_true, Bool.or_eq_true, Bool.not_eq_true', Bool.not_eq_false'] at *; omega) | (intros; first | rfl | assumption | omega | simp_all; done))) ?_ | refine run_nil ?_ | refine wpS_block ?_ | refine wpS_skip ?_ | refine wpS_exit ?_ | refine wpS_ret ?_))
    refine wpS_condT rfl (by ((repeat' (first | exact allP_nil | refine allP_cons ?_ ?_ | intro _)) <;> first | assumption | omega | (simp only [cond_true, cond_false, bif_and, bif_or, decide_eq_true_eq, decide_eq_false_iff_not, Bool.and_eq_true, Bool.or_eq_true, Bool.not_eq_true', Bool.not_eq_false'] at *; omega) | (intros; first | rfl | assumption | omega | simp_all; done))) ?_
    (repeat (first | refine wpS_seq ?_ | refine wpS_reg ?_ | refine run_step rfl (by ((repeat' (first | exact allP_nil | refine allP_cons ?_ ?_ | intro _)) <;> first | assumption | omega | (simp only [cond_true, cond_false, bif_and, bif_or, decide_eq_true_eq, decide_eq_false_iff_not, Bool.and_eq_true, Bool.or_eq_true, Bool.not_eq_true', Bool.not_eq_false'] at *; omega) | (intros; first | rfl | assumption | omega | simp_all; done))) ?_ | refine run_nil ?_ | refine wpS_block ?_ | refine wpS_skip ?_ | refine wpS_exit ?_ | refine wpS_ret ?_))
    refine fin_mk rfl ?_; (repeat' (first | exact allP_nil | refine allP_cons ?_ ?_))
    rfl
  | true =>
  (repeat (first | refine wpS_seq ?_ | refine wpS_reg ?_ | refine run_step rfl (by ((repeat' (first | exact allP_nil | refine allP_cons ?_ ?_ | intro _)) <;> first | assumption | omega | (simp only [cond_true, cond_false, bif_and, bif_or, decide_eq_true_eq, decide_eq_false_iff_not, Bool.and_eq_true, Bool.or_eq_true, Bool.not_eq_true', Bool.not_eq_false'] at *; omega) | (intros; first | rfl | assumption | omega | simp_all; done))) ?_ | refine run_nil ?_ | refine wpS_block ?_ | refine wpS_skip ?_ | refine wpS_exit ?_))
  refine run_ent (ent_und 22 rfl) ?_
  refine run_met rfl rfl (by ((repeat' (first | exact allP_nil | refine allP_cons ?_ ?_ | intro _)) <;> first | assumption | omega | (simp only [cond_true, cond_false, bif_and, bif_or, decide_eq_true_eq, decide_eq_false_iff_not, Bool.and_eq_true, Bool.or_eq_true, Bool.not_eq_true', Bool.not_eq_false'] at *; omega) | (intros; first | rfl | assumption | omega | simp_all; done))) ?_
  (repeat (first | refine wpS_seq ?_ | refine wpS_reg ?_ | refine run_step rfl (by ((repeat' (first | exact allP_nil | refine allP_cons ?_ ?_ | intro _)) <;> first | assumption | omega | (simp only [cond_true, cond_false, bif_and, bif_or, decide_eq_true_eq, decide_eq_false_iff_not, Bool.and_eq_true, Bool.or_eq_true, Bool.not_eq_true', Bool.not_eq_false'] at *; omega) | (intros; first | rfl | assumption | omega | simp_all; done))) ?_ | refine run_nil ?_ | refine wpS_block ?_ | refine wpS_skip ?_ | refine wpS_exit ?_))
  refine run_cg rfl (fun hG => (few_one x 1 (nth [evA x]) 1 rfl (fun i hi => (by match i, hi with | 0, _ => rfl)))) rfl (fun hG => by ((repeat' (first | exact allP_nil | refine allP_cons ?_ ?_ | intro _)) <;> first | assumption | omega | (simp only [cond_true, cond_false, bif_and, bif_or, decide_eq_true_eq, decide_eq_false_iff_not, Bool.and_eq_true, Bool.or_eq_true, Bool.not_eq_true', Bool.not_eq_false'] at *; omega) | (intros; first | rfl | assumption | omega | simp_all; done))) rfl rfl (.inl rfl) ?_
  cases hf1 : fewB [x] 1 with
  | false =>
    (repeat (first | refine wpS_seq ?_ | refine wpS_reg ?_ | refine run_step rfl (by ((repeat' (first | exact allP_nil | refine allP_cons ?_ ?_ | intro _)) <;> first | assumption | omega | (simp only [cond_true, cond_false, bif_and, bif_or, decide_eq_true_eq, decide_eq_false_iff_not, Bool.and_eq_true, Bool.or_eq_true, Bool.not_eq_true', Bool.not_eq_false'] at *; omega) | (intros; first | rfl | assumption | omega | simp_all; done))) ?_ | refine run_nil ?_ | refine wpS_block ?_ | refine wpS_skip ?_ | refine wpS_exit ?_))
    refine wpS_condT rfl (by ((repeat' (first | exact allP_nil | refine allP_cons ?_ ?_ | intro _)) <;> first | assumption | omega | (simp only [cond_true, cond_false, bif_and, bif_or, decide_eq_true_eq, decide_eq_false_iff_not, Bool.and_eq_true, Bool.or_eq_true, Bool.not_eq_true', Bool.not_eq_false'] at *; omega) | (intros; first | rfl | assumption | omega | simp_all; done))) ?_
    (repeat (first | refine wpS_seq ?_ | refine wpS_reg ?_ | refine run_step rfl (by ((repeat' (first | exact allP_nil | refine allP_cons ?_ ?_ | intro _)) <;> first | assumption | omega | (simp only [cond_true, cond_false, bif_and, bif_or, decide_eq_true_eq, decide_eq_false_iff_not, Bool.and_eq_true, Bool.or_eq_true, Bool.not_eq_true', Bool.not_eq_false'] at *; omega) | (intros; first | rfl | assumption | omega | simp_all; done))) ?_ | refine run_nil ?_ | refine wpS_block ?_ | refine wpS_skip ?_ | refine wpS_exit ?_ | refine wpS_ret ?_))
    refine fin_mk rfl ?_; (repeat' (first | exact allP_nil | refine allP_cons ?_ ?_))
    rfl
  | true =>
  obtain ⟨hsk, hln⟩ := few_smK hf
  have hxk : SmK x := (few_smK hf1).1 x (List.mem_singleton.2 rfl)
  have hl' : l.length ≤ 1000000 := by omega
  (repeat (first | refine wpS_seq ?_ | refine wpS_reg ?_ | refine run_step rfl (by ((repeat' (first | exact allP_nil | refine allP_cons ?_ ?_ | intro _)) <;> first | assumption | omega | (simp only [cond_true, cond_false, bif_and, bif_or, decide_eq_true_eq, decide_eq_false_iff_not, Bool.and_eq_true, Bool.or_eq_true, Bool.not_eq_true', Bool.not_eq_false'] at *; omega) | (intros; first | rfl | assumption | omega | simp_all; done))) ?_ | refine run_nil ?_ | refine wpS_block ?_ | refine wpS_skip ?_ | refine wpS_exit ?_))
  refine wpS_condF rfl (by ((repeat' (first | exact allP_nil | refine allP_cons ?_ ?_ | intro _)) <;> first | assumption | omega | (simp only [cond_true, cond_false, bif_and, bif_or, decide_eq_true_eq, decide_eq_false_iff_not, Bool.and_eq_true, Bool.or_eq_true, Bool.not_eq_true', Bool.not_eq_false'] at *; omega) | (intros; first | rfl | assumption | omega | simp_all; done))) ?_
  (repeat (first | refine wpS_seq ?_ | refine wpS_reg ?_ | refine run_step rfl (by ((repeat' (first | exact allP_nil | refine allP_cons ?_ ?_ | intro _)) <;> first | assumption | omega | (simp only [cond_true, cond_false, bif_and, bif_or, decide_eq_true_eq, decide_eq_false_iff_not, Bool.and_eq_true, Bool.or_eq_true, Bool.not_eq_true', Bool.not_eq_false'] at *; omega) | (intros; first | rfl | assumption | omega | simp_all; done))) ?_ | refine run_nil ?_ | refine wpS_block ?_ | refine wpS_skip ?_ | refine wpS_exit ?_ | refine wpS_ret ?_))
  refine run_c ((make_spec l hl' hsk)) rfl (by ((repeat' (first | exact allP_nil | refine allP_cons ?_ ?_ | intro _)) <;> first | assumption | omega | (simp only [cond_true, cond_false, bif_and, bif_or, decide_eq_true_eq, decide_eq_false_iff_not, Bool.and_eq_true, Bool.or_eq_true, Bool.not_eq_true', Bool.not_eq_false'] at *; omega) | (intros; first | rfl | assumption | omega | simp_all; done))) rfl rfl (.inr rfl) ?_
  have hms := make_sm hl'
  generalize make l = b at hms ⊢
  (repeat (first | refine wpS_seq ?_ | refine wpS_reg ?_ | refine run_step rfl (by ((repeat' (first | exact allP_nil | refine allP_cons ?_ ?_ | intro _)) <;> first | assumption | omega | (simp only [cond_true, cond_false, bif_and, bif_or, decide_eq_true_eq, decide_eq_false_iff_not, Bool.and_eq_true, Bool.or_eq_true, Bool.not_eq_true', Bool.not_eq_false'] at *; omega) | (intros; first | rfl | assumption | omega | simp_all; done))) ?_ | refine run_nil ?_ | refine wpS_block ?_ | refine wpS_skip ?_ | refine wpS_exit ?_ | refine wpS_ret ?_))
  refine run_c ((applyX_spec b x hms hxk)) rfl (by ((repeat' (first | exact allP_nil | refine allP_cons ?_ ?_ | intro _)) <;> first | assumption | omega | (simp only [cond_true, cond_false, bif_and, bif_or, decide_eq_true_eq, decide_eq_false_iff_not, Bool.and_eq_true, Bool.or_eq_true, Bool.not_eq_true', Bool.not_eq_false'] at *; omega) | (intros; first | rfl | assumption | omega | simp_all; done))) rfl rfl (.inr rfl) ?_
  have hR : applyX b x = ((applyX b x).1, (applyX b x).2) := rfl
  generalize (applyX b x).1 = code at hR ⊢
  generalize (applyX b x).2 = c at hR ⊢
  (repeat (first | refine wpS_seq ?_ | refine wpS_reg ?_ | refine run_step rfl (by ((repeat' (first | exact allP_nil | refine allP_cons ?_ ?_ | intro _)) <;> first | assumption | omega | (simp only [cond_true, cond_false, bif_and, bif_or, decide_eq_true_eq, decide_eq_false_iff_not, Bool.and_eq_true, Bool.or_eq_true, Bool.not_eq_true', Bool.not_eq_false'] at *; omega) | (intros; first | rfl | assumption | omega | simp_all; done))) ?_ | refine run_nil ?_ | refine wpS_block ?_ | refine wpS_skip ?_ | refine wpS_exit ?_ | refine wpS_ret ?_))
  refine wpS_cond rfl (by ((repeat' (first | exact allP_nil | refine allP_cons ?_ ?_ | intro _)) <;> first | assumption | omega | (simp only [cond_true, cond_false, bif_and, bif_or, decide_eq_true_eq, decide_eq_false_iff_not, Bool.and_eq_true, Bool.or_eq_true, Bool.not_eq_true', Bool.not_eq_false'] at *; omega) | (intros; first | rfl | assumption | omega | simp_all; done))) (fun h => ?_) (fun h => ?_)
  · (repeat (first | refine wpS_seq ?_ | refine wpS_reg ?_ | refine run_step rfl (by ((repeat' (first | exact allP_nil | refine allP_cons ?_ ?_ | intro _)) <;> first | assumption | omega | (simp only [cond_true, cond_false, bif_and, bif_or, decide_eq_true_eq, decide_eq_false_iff_not, Bool.and_eq_true, Bool.or_eq_true, Bool.not_eq_true', Bool.not_eq_false'] at *; omega) | (intros; first | rfl | assumption | omega | simp_all; done))) ?_ | refine run_nil ?_ | refine wpS_block ?_ | refine wpS_skip ?_ | refine wpS_exit ?_ | refine wpS_ret ?_))
    refine fin_mk rfl ?_; (repeat' (first | exact allP_nil | refine allP_cons ?_ ?_))
    rfl
  have hc0 : code = 0 := by simpa using h
  subst hc0
  clear h
  obtain ⟨_, hve, hb0, hb2⟩ := applyX_ok (b := b) (e := x) (by rw [hR])
  have hap : applyB b x = (0, c) := Prod.ext hb0 (by rw [← hb2, hR])
  have K := keeps hap
  have hbs := hms.1.b
  have k1 := K.tick
  have k2 := K.le
  have k3 := K.ge
  have k4 := K.sub
  have k6 := K.all
  have hbl := hbs.1
  have hmono : ∀ i, i ≤ b.ens.length → tot b c i ≤ 1 := fun i hi => by rw [← k6]; exact tot_le hi
  (repeat (first | refine wpS_seq ?_ | refine wpS_reg ?_ | refine run_step rfl (by ((repeat' (first | exact allP_nil | refine allP_cons ?_ ?_ | intro _)) <;> first | assumption | omega | (simp only [cond_true, cond_false, bif_and, bif_or, decide_eq_true_eq, decide_eq_false_iff_not, Bool.and_eq_true, Bool.or_eq_true, Bool.not_eq_true', Bool.not_eq_false'] at *; omega) | (intros; first | rfl | assumption | omega | simp_all; done))) ?_ | refine run_nil ?_ | refine wpS_block ?_ | refine wpS_skip ?_ | refine wpS_exit ?_ | refine wpS_ret ?_))
  refine wpS_cond rfl (by ((repeat' (first | exact allP_nil | refine allP_cons ?_ ?_ | intro _)) <;> first | assumption | omega | (simp only [cond_true, cond_false, bif_and, bif_or, decide_eq_true_eq, decide_eq_false_iff_not, Bool.and_eq_true, Bool.or_eq_true, Bool.not_eq_true', Bool.not_eq_false'] at *; omega) | (intros; first | rfl | assumption | omega | simp_all; done))) (fun h => ?_) (fun h => ?_)
  · exfalso
    have e1 : (c.tick != x.tick) = false := by simp [k1]
    have e2 : decide ((c.ens.length : Int) < (b.ens.length : Int)) = false := by simp; omega
    have e3 : decide ((b.ens.length : Int) + 1 < (c.ens.length : Int)) = false := by simp; omega
    have e4 : decide ((b.ens.length : Int) < (c.ens.length : Int)) = (x.kind == 0) := by
      rw [Bool.eq_iff_iff, decide_eq_true_eq, beq_iff_eq, ← k4]; omega
    have e5 : decide (b.ens.length < c.ens.length) = (x.kind == 0) := by
      rw [Bool.eq_iff_iff, decide_eq_true_eq, beq_iff_eq, ← k4]
    simp [k1, e2, e3, e4] at h
    rcases h with h | h
    · omega
    · rw [e5, beq_self_eq_true] at h
      cases h
  clear h
  (repeat (first | refine wpS_seq ?_ | refine wpS_reg ?_ | refine run_step rfl (by ((repeat' (first | exact allP_nil | refine allP_cons ?_ ?_ | intro _)) <;> first | assumption | omega | (simp only [cond_true, cond_false, bif_and, bif_or, decide_eq_true_eq, decide_eq_false_iff_not, Bool.and_eq_true, Bool.or_eq_true, Bool.not_eq_true', Bool.not_eq_false'] at *; omega) | (intros; first | rfl | assumption | omega | simp_all; done))) ?_ | refine run_nil ?_ | refine wpS_block ?_ | refine wpS_skip ?_ | refine wpS_exit ?_ | refine wpS_ret ?_))
  have hsub : ((c.ens.length : Int) - (b.ens.length : Int)) = ((tot b c 0 : Nat) : Int) := by
    show _ = ((c.ens.length - b.ens.length : Nat) : Int)
    omega
  refine wpS_loop (fun i => i ≤ b.ens.length) (fun i => ⟨[(3, .loc 3 0), (5, .loc 5 0), (6, .loc 6 0), (8, .int .i64 (tot b c i : Nat)), (82, lsA 7 enA b.ens), (83, .int .i64 (b.ens.length : Nat)), (84, .int .i64 (i : Nat))], [(3, .blk 26 (evA x)), (5, .blk 31 [.int .i64 b.tick, lsA 7 enA b.ens]), (6, .blk 31 [.int .i64 c.tick, lsA 7 enA c.ens])]⟩) (fun i => b.ens.length - i) 0 (by omega)
    (by refine ent_le ?_; (repeat' (first | exact allP_nil | refine allP_cons ?_ ?_)) <;> first | rfl | exact hsub | exact ⟨rfl, fun _ _ => rfl⟩) ?_
  rintro i hi
  have hmi := hmono i hi
  (repeat (first | refine wpS_seq ?_ | refine wpS_reg ?_ | refine run_step rfl (by ((repeat' (first | exact allP_nil | refine allP_cons ?_ ?_ | intro _)) <;> first | assumption | omega | (simp only [cond_true, cond_false, bif_and, bif_or, decide_eq_true_eq, decide_eq_false_iff_not, Bool.and_eq_true, Bool.or_eq_true, Bool.not_eq_true', Bool.not_eq_false'] at *; omega) | (intros; first | rfl | assumption | omega | simp_all; done))) ?_ | refine run_nil ?_ | refine wpS_block ?_ | refine wpS_skip ?_ | refine wpS_exit ?_ | refine wpS_ret ?_))
  refine wpS_cond rfl (by ((repeat' (first | exact allP_nil | refine allP_cons ?_ ?_ | intro _)) <;> first | assumption | omega | (simp only [cond_true, cond_false, bif_and, bif_or, decide_eq_true_eq, decide_eq_false_iff_not, Bool.and_eq_true, Bool.or_eq_true, Bool.not_eq_true', Bool.not_eq_false'] at *; omega) | (intros; first | rfl | assumption | omega | simp_all; done))) (fun h => ?_) (fun h => ?_)
  · have hlt : i < b.ens.length := by simpa using h
    clear h
    have hp := K.pair i hlt
    have hmi1 := hmono (i + 1) hlt
    have hti : tot b c (i + 1) = tot b c i + chg (b.ens.getD i default) (c.ens.getD i default) := rfl
    have hsy := hbs.2 _ (getD_mem hlt)
    obtain ⟨p, hpe⟩ : ∃ p, p = b.ens.getD i default := ⟨_, rfl⟩
    obtain ⟨q, hqe⟩ : ∃ q, q = c.ens.getD i default := ⟨_, rfl⟩
    rw [← hpe, ← hqe] at hp hti
    rw [← hpe] at hsy
    rw [hti] at hmi1
    (repeat (first | refine wpS_seq ?_ | refine wpS_reg ?_ | refine run_step rfl (by ((repeat' (first | exact allP_nil | refine allP_cons ?_ ?_ | intro _)) <;> first | assumption | omega | (simp only [cond_true, cond_false, bif_and, bif_or, decide_eq_true_eq, decide_eq_false_iff_not, Bool.and_eq_true, Bool.or_eq_true, Bool.not_eq_true', Bool.not_eq_false'] at *; omega) | (intros; first | rfl | assumption | omega | simp_all; done))) ?_ | refine run_nil ?_ | refine wpS_block ?_ | refine wpS_skip ?_ | refine wpS_exit ?_ | refine wpS_ret ?_))
    rw [show ((i : Int)).toNat = i from Int.toNat_natCast i, ← hpe, ← hqe]
    obtain ⟨g1, g2⟩ := hsy
    have g3 := hp.grl
    have g4 := hp.apl
    have hch : chg p q = (q.grs.length - p.grs.length) + (q.aps.length - p.aps.length) + cnt p q p.aps.length := rfl
    rw [hch] at hmi1 hti
    have hpre : ∀ {i : Nat}, i < p.grs.length → q.grs.getD ((0 : Int).toNat + i) default = p.grs.getD i default := by
      intro i hi
      have := hp.pre
      rw [← this]
      simp [List.getD_eq_getElem?_getD, List.getElem?_take, hi]
    refine wpS_D (by kernel_rfl) ?_
    (repeat (refine trg_step rfl (by ((repeat' (first | exact allP_nil | refine allP_cons ?_ ?_ | intro _)) <;> first | assumption | omega | (simp only [cond_true, cond_false, bif_and, bif_or, decide_eq_true_eq, decide_eq_false_iff_not, Bool.and_eq_true, Bool.or_eq_true, Bool.not_eq_true', Bool.not_eq_false'] at *; omega) | (intros; first | rfl | assumption | omega | simp_all; done))) ?_))
    refine trg_nil ⟨rfl, ?_⟩
    (repeat (first | refine wpS_seq ?_ | refine wpS_reg ?_ | refine run_step rfl (by ((repeat' (first | exact allP_nil | refine allP_cons ?_ ?_ | intro _)) <;> first | assumption | omega | (simp only [cond_true, cond_false, bif_and, bif_or, decide_eq_true_eq, decide_eq_false_iff_not, Bool.and_eq_true, Bool.or_eq_true, Bool.not_eq_true', Bool.not_eq_false'] at *; omega) | (intros; first | rfl | assumption | omega | simp_all; done))) ?_ | refine run_nil ?_ | refine wpS_block ?_ | refine wpS_skip ?_ | refine wpS_exit ?_ | refine wpS_ret ?_))
    refine wpS_D (by kernel_rfl) ?_
    (repeat (refine trg_step rfl (by ((repeat' (first | exact allP_nil | refine allP_cons ?_ ?_ | intro _)) <;> first | assumption | omega | (simp only [cond_true, cond_false, bif_and, bif_or, decide_eq_true_eq, decide_eq_false_iff_not, Bool.and_eq_true, Bool.or_eq_true, Bool.not_eq_true', Bool.not_eq_false'] at *; omega) | (intros; first | rfl | assumption | omega | simp_all; done))) ?_))
    refine trg_cg rfl (fun hG => ((grEq' p.grs p.grs ((p.grs.length : Int).toNat - (0 : Int).toNat) (fun i => grA (q.grs.getD ((0 : Int).toNat + i) default)) (by simp) (fun i hi => by rw [hpre (by simpa using hi)]) (Nat.le_trans g1 (by decide))))) rfl (fun hG => by ((repeat' (first | exact allP_nil | refine allP_cons ?_ ?_ | intro _)) <;> first | assumption | omega | (simp only [cond_true, cond_false, bif_and, bif_or, decide_eq_true_eq, decide_eq_false_iff_not, Bool.and_eq_true, Bool.or_eq_true, Bool.not_eq_true', Bool.not_eq_false'] at *; omega) | (intros; first | rfl | assumption | omega | simp_all; done))) rfl rfl (.inl rfl) ?_
    (repeat (refine trg_step rfl (by ((repeat' (first | exact allP_nil | refine allP_cons ?_ ?_ | intro _)) <;> first | assumption | omega | (simp only [cond_true, cond_false, bif_and, bif_or, decide_eq_true_eq, decide_eq_false_iff_not, Bool.and_eq_true, Bool.or_eq_true, Bool.not_eq_true', Bool.not_eq_false'] at *; omega) | (intros; first | rfl | assumption | omega | simp_all; done))) ?_))
    refine trg_nil ⟨rfl, ?_⟩
    refine wpS_cond rfl (by ((repeat' (first | exact allP_nil | refine allP_cons ?_ ?_ | intro _)) <;> first | assumption | omega | (simp only [cond_true, cond_false, bif_and, bif_or, decide_eq_true_eq, decide_eq_false_iff_not, Bool.and_eq_true, Bool.or_eq_true, Bool.not_eq_true', Bool.not_eq_false'] at *; omega) | (intros; first | rfl | assumption | omega | simp_all; done))) (fun h => ?_) (fun h => ?_)
    · exfalso
      simp [hp.key, hp.tick, hp.text, xorb] at h
      omega
    clear h
    (repeat (first | refine wpS_seq ?_ | refine wpS_reg ?_ | refine run_step rfl (by ((repeat' (first | exact allP_nil | refine allP_cons ?_ ?_ | intro _)) <;> first | assumption | omega | (simp only [cond_true, cond_false, bif_and, bif_or, decide_eq_true_eq, decide_eq_false_iff_not, Bool.and_eq_true, Bool.or_eq_true, Bool.not_eq_true', Bool.not_eq_false'] at *; omega) | (intros; first | rfl | assumption | omega | simp_all; done))) ?_ | refine run_nil ?_ | refine wpS_block ?_ | refine wpS_skip ?_ | refine wpS_exit ?_ | refine wpS_ret ?_))
    have hst : ((tot b c i : Nat) : Int) + (((q.grs.length : Int) - (p.grs.length : Int)) + (q.aps.length : Int) - (p.aps.length : Int)) = ((tot b c i + ((q.grs.length - p.grs.length) + (q.aps.length - p.aps.length) + cnt p q 0) : Nat) : Int) := by
      rw [show cnt p q 0 = 0 from rfl]; omega
    refine wpS_loop (fun k => k ≤ p.aps.length) (fun k => ⟨[(3, .loc 3 0), (5, .loc 5 0), (6, .loc 6 0), (8, .int .i64 (tot b c i + ((q.grs.length - p.grs.length) + (q.aps.length - p.aps.length) + cnt p q k) : Nat)), (82, lsA 7 enA b.ens), (83, .int .i64 (b.ens.length : Nat)), (84, .int .i64 (i : Nat)), (10, .loc 10 0), (11, .loc 11 0), (12, .int .i64 (p.grs.length : Nat)), (13, .int .i64 (p.aps.length : Nat)), (157, lsA 6 apA p.aps), (158, .int .i64 (p.aps.length : Nat)), (159, .int .i64 (k : Nat))], [(3, .blk 26 (evA x)), (5, .blk 31 [.int .i64 b.tick, lsA 7 enA b.ens]), (6, .blk 31 [.int .i64 c.tick, lsA 7 enA c.ens]), (10, .blk 39 (enA p)), (11, .blk 39 (enA q))]⟩) (fun k => p.aps.length - k) 0 (by omega)
      (by refine ent_le ?_; (repeat' (first | exact allP_nil | refine allP_cons ?_ ?_)) <;> first | rfl | exact hst | exact ⟨rfl, fun _ _ => rfl⟩) ?_
    rintro k hk
    have hck : cnt p q k ≤ cnt p q p.aps.length := cnt_le hk
    (repeat (first | refine wpS_seq ?_ | refine wpS_reg ?_ | refine run_step rfl (by ((repeat' (first | exact allP_nil | refine allP_cons ?_ ?_ | intro _)) <;> first | assumption | omega | (simp only [cond_true, cond_false, bif_and, bif_or, decide_eq_true_eq, decide_eq_false_iff_not, Bool.and_eq_true, Bool.or_eq_true, Bool.not_eq_true', Bool.not_eq_false'] at *; omega) | (intros; first | rfl | assumption | omega | simp_all; done))) ?_ | refine run_nil ?_ | refine wpS_block ?_ | refine wpS_skip ?_ | refine wpS_exit ?_ | refine wpS_ret ?_))
    refine wpS_cond rfl (by ((repeat' (first | exact allP_nil | refine allP_cons ?_ ?_ | intro _)) <;> first | assumption | omega | (simp only [cond_true, cond_false, bif_and, bif_or, decide_eq_true_eq, decide_eq_false_iff_not, Bool.and_eq_true, Bool.or_eq_true, Bool.not_eq_true', Bool.not_eq_false'] at *; omega) | (intros; first | rfl | assumption | omega | simp_all; done))) (fun h => ?_) (fun h => ?_)
    · have hkl : k < p.aps.length := by simpa using h
      clear h
      have hap1 := hp.ap k hkl
      have hck1 : cnt p q (k + 1) ≤ cnt p q p.aps.length := cnt_le hkl
      have hcs : cnt p q (k + 1) = cnt p q k + if p.aps.getD k default = q.aps.getD k default then 0 else 1 := rfl
      obtain ⟨a, hae⟩ : ∃ a, a = p.aps.getD k default := ⟨_, rfl⟩
      obtain ⟨a', hae'⟩ : ∃ a', a' = q.aps.getD k default := ⟨_, rfl⟩
      rw [← hae, ← hae'] at hap1 hcs
      (repeat (first | refine wpS_seq ?_ | refine wpS_reg ?_ | refine run_step rfl (by ((repeat' (first | exact allP_nil | refine allP_cons ?_ ?_ | intro _)) <;> first | assumption | omega | (simp only [cond_true, cond_false, bif_and, bif_or, decide_eq_true_eq, decide_eq_false_iff_not, Bool.and_eq_true, Bool.or_eq_true, Bool.not_eq_true', Bool.not_eq_false'] at *; omega) | (intros; first | rfl | assumption | omega | simp_all; done))) ?_ | refine run_nil ?_ | refine wpS_block ?_ | refine wpS_skip ?_ | refine wpS_exit ?_ | refine wpS_ret ?_))
      rw [show ((k : Int)).toNat = k from Int.toNat_natCast k, ← hae]
      refine wpS_D (by kernel_rfl) ?_
      (repeat (refine trg_step rfl (by ((repeat' (first | exact allP_nil | refine allP_cons ?_ ?_ | intro _)) <;> first | assumption | omega | (simp only [cond_true, cond_false, bif_and, bif_or, decide_eq_true_eq, decide_eq_false_iff_not, Bool.and_eq_true, Bool.or_eq_true, Bool.not_eq_true', Bool.not_eq_false'] at *; omega) | (intros; first | rfl | assumption | omega | simp_all; done))) ?_))
      rw [show ((k : Int)).toNat = k from Int.toNat_natCast k, ← hae']
      (repeat (refine trg_step rfl (by ((repeat' (first | exact allP_nil | refine allP_cons ?_ ?_ | intro _)) <;> first | assumption | omega | (simp only [cond_true, cond_false, bif_and, bif_or, decide_eq_true_eq, decide_eq_false_iff_not, Bool.and_eq_true, Bool.or_eq_true, Bool.not_eq_true', Bool.not_eq_false'] at *; omega) | (intros; first | rfl | assumption | omega | simp_all; done))) ?_))
      refine trg_nil ⟨rfl, ?_⟩
      rw [ap_eq, xorb_f]
      refine wpS_cond rfl (by ((repeat' (first | exact allP_nil | refine allP_cons ?_ ?_ | intro _)) <;> first | assumption | omega | (simp only [cond_true, cond_false, bif_and, bif_or, decide_eq_true_eq, decide_eq_false_iff_not, Bool.and_eq_true, Bool.or_eq_true, Bool.not_eq_true', Bool.not_eq_false'] at *; omega) | (intros; first | rfl | assumption | omega | simp_all; done))) (fun h => ?_) (fun h => ?_)
      · have haa : a = a' := by simpa using h
        rw [if_pos haa] at hcs
        clear h
        (repeat (first | refine wpS_seq ?_ | refine wpS_reg ?_ | refine run_step rfl (by ((repeat' (first | exact allP_nil | refine allP_cons ?_ ?_ | intro _)) <;> first | assumption | omega | (simp only [cond_true, cond_false, bif_and, bif_or, decide_eq_true_eq, decide_eq_false_iff_not, Bool.and_eq_true, Bool.or_eq_true, Bool.not_eq_true', Bool.not_eq_false'] at *; omega) | (intros; first | rfl | assumption | omega | simp_all; done))) ?_ | refine run_nil ?_ | refine wpS_block ?_ | refine wpS_skip ?_ | refine wpS_exit ?_ | refine wpS_ret ?_))
        refine ⟨k + 1, by omega, by dsimp only; omega, ?_⟩
        dsimp only
        rw [hcs]
        refine ent_le ?_; (repeat' (first | exact allP_nil | refine allP_cons ?_ ?_)) <;> first | rfl | exact ⟨rfl, fun _ _ => rfl⟩
      · have haa : ¬ a = a' := by simpa using h
        rw [if_neg haa] at hcs
        obtain ⟨d1, d2, d3, d4, d5, d6⟩ := hap1.resolve_left haa
        clear h
        (repeat (first | refine wpS_seq ?_ | refine wpS_reg ?_ | refine run_step rfl (by ((repeat' (first | exact allP_nil | refine allP_cons ?_ ?_ | intro _)) <;> first | assumption | omega | (simp only [cond_true, cond_false, bif_and, bif_or, decide_eq_true_eq, decide_eq_false_iff_not, Bool.and_eq_true, Bool.or_eq_true, Bool.not_eq_true', Bool.not_eq_false'] at *; omega) | (intros; first | rfl | assumption | omega | simp_all; done))) ?_ | refine run_nil ?_ | refine wpS_block ?_ | refine wpS_skip ?_ | refine wpS_exit ?_ | refine wpS_ret ?_))
        refine wpS_D (by kernel_rfl) ?_
        (repeat (refine trg_step rfl (by ((repeat' (first | exact allP_nil | refine allP_cons ?_ ?_ | intro _)) <;> first | assumption | omega | (simp only [cond_true, cond_false, bif_and, bif_or, decide_eq_true_eq, decide_eq_false_iff_not, Bool.and_eq_true, Bool.or_eq_true, Bool.not_eq_true', Bool.not_eq_false'] at *; omega) | (intros; first | rfl | assumption | omega | simp_all; done))) ?_))
        refine trg_nil ⟨rfl, ?_⟩
        refine wpS_cond rfl (by ((repeat' (first | exact allP_nil | refine allP_cons ?_ ?_ | intro _)) <;> first | assumption | omega | (simp only [cond_true, cond_false, bif_and, bif_or, decide_eq_true_eq, decide_eq_false_iff_not, Bool.and_eq_true, Bool.or_eq_true, Bool.not_eq_true', Bool.not_eq_false'] at *; omega) | (intros; first | rfl | assumption | omega | simp_all; done))) (fun h => ?_) (fun h => ?_)
        · exfalso
          simp only [Int.toNat_natCast, ← hae'] at h
          have d2' : ((k : Int) != (p.aps.length : Int) - 1) = false := by simp; omega
          simp [d1, d2', d3, d4, d5, d6, xorb] at h
        clear h
        (repeat (first | refine wpS_seq ?_ | refine wpS_reg ?_ | refine run_step rfl (by ((repeat' (first | exact allP_nil | refine allP_cons ?_ ?_ | intro _)) <;> first | assumption | omega | (simp only [cond_true, cond_false, bif_and, bif_or, decide_eq_true_eq, decide_eq_false_iff_not, Bool.and_eq_true, Bool.or_eq_true, Bool.not_eq_true', Bool.not_eq_false'] at *; omega) | (intros; first | rfl | assumption | omega | simp_all; done))) ?_ | refine run_nil ?_ | refine wpS_block ?_ | refine wpS_skip ?_ | refine wpS_exit ?_ | refine wpS_ret ?_))
        refine ⟨k + 1, by omega, by dsimp only; omega, ?_⟩
        dsimp only
        rw [hcs]
        refine ent_le ?_; (repeat' (first | exact allP_nil | refine allP_cons ?_ ?_)) <;> first | rfl | exact ⟨rfl, fun _ _ => rfl⟩ | omega
    · have hkl : k = p.aps.length := by simp at h; omega
      subst hkl
      clear h
      rw [← hti]
      (repeat (first | refine wpS_seq ?_ | refine wpS_reg ?_ | refine run_step rfl (by ((repeat' (first | exact allP_nil | refine allP_cons ?_ ?_ | intro _)) <;> first | assumption | omega | (simp only [cond_true, cond_false, bif_and, bif_or, decide_eq_true_eq, decide_eq_false_iff_not, Bool.and_eq_true, Bool.or_eq_true, Bool.not_eq_true', Bool.not_eq_false'] at *; omega) | (intros; first | rfl | assumption | omega | simp_all; done))) ?_ | refine run_nil ?_ | refine wpS_block ?_ | refine wpS_skip ?_ | refine wpS_exit ?_ | refine wpS_ret ?_))
      refine ⟨i + 1, by omega, by dsimp only; omega, ?_⟩
      refine ent_le ?_; (repeat' (first | exact allP_nil | refine allP_cons ?_ ?_)) <;> first | rfl | exact ⟨rfl, fun _ _ => rfl⟩
  · have hil : i = b.ens.length := by simp at h; omega
    subst hil
    clear h
    rw [k6]
    (repeat (first | refine wpS_seq ?_ | refine wpS_reg ?_ | refine run_step rfl (by ((repeat' (first | exact allP_nil | refine allP_cons ?_ ?_ | intro _)) <;> first | assumption | omega | (simp only [cond_true, cond_false, bif_and, bif_or, decide_eq_true_eq, decide_eq_false_iff_not, Bool.and_eq_true, Bool.or_eq_true, Bool.not_eq_true', Bool.not_eq_false'] at *; omega) | (intros; first | rfl | assumption | omega | simp_all; done))) ?_ | refine run_nil ?_ | refine wpS_block ?_ | refine wpS_skip ?_ | refine wpS_exit ?_ | refine wpS_ret ?_))
    refine fin_mk rfl ?_; (repeat' (first | exact allP_nil | refine allP_cons ?_ ?_))
    rfl
end Go.Proofs
end
/- part BkTwice -/
section
namespace Go.Proofs
open Go.Av Go.Pu
theorem has20_spec (b : Bk) (e : Ev) (hs : Sm b) (he : SmK e) : Spec0 Tryz.prog 20 [bkA b, .agg (evA e)] (.bool (hasX b e)) := by
  refine spec0 ok20 rfl fun C _ => ?_
  (repeat (first | refine wpS_seq ?_ | refine wpS_reg ?_ | refine run_step rfl (by ((repeat' (first | exact allP_nil | refine allP_cons ?_ ?_ | intro _)) <;> first | assumption | omega | (simp only [cond_true, cond_false, bif_and, bif_or, decide_eq_true_eq, decide_eq_false_iff_not, Bool.and_eq_true, Bool.or_eq_true, Bool.not_eq_true', Bool.not_eq_false'] at *; omega) | (intros; first | rfl | assumption | omega | simp_all; done))) ?_ | refine run_nil ?_ | refine wpS_block ?_ | refine wpS_skip ?_ | refine wpS_exit ?_ | refine wpS_ret ?_))
  refine run_c ((validEvent_spec e he.1 he.2)) rfl (by ((repeat' (first | exact allP_nil | refine allP_cons ?_ ?_ | intro _)) <;> first | assumption | omega | (simp only [cond_true, cond_false, bif_and, bif_or, decide_eq_true_eq, decide_eq_false_iff_not, Bool.and_eq_true, Bool.or_eq_true, Bool.not_eq_true', Bool.not_eq_false'] at *; omega) | (intros; first | rfl | assumption | omega | simp_all; done))) rfl rfl (.inl rfl) ?_
  (repeat (first | refine wpS_seq ?_ | refine wpS_reg ?_ | refine run_step rfl (by ((repeat' (first | exact allP_nil | refine allP_cons ?_ ?_ | intro _)) <;> first | assumption | omega | (simp only [cond_true, cond_false, bif_and, bif_or, decide_eq_true_eq, decide_eq_false_iff_not, Bool.and_eq_true, Bool.or_eq_true, Bool.not_eq_true', Bool.not_eq_false'] at *; omega) | (intros; first | rfl | assumption | omega | simp_all; done))) ?_ | refine run_nil ?_ | refine wpS_block ?_ | refine wpS_skip ?_ | refine wpS_exit ?_ | refine wpS_ret ?_))
  refine run_cg rfl (fun hG => ((valid_spec b hs.1 hs.2))) rfl (fun hG => by ((repeat' (first | exact allP_nil | refine allP_cons ?_ ?_ | intro _)) <;> first | assumption | omega | (simp only [cond_true, cond_false, bif_and, bif_or, decide_eq_true_eq, decide_eq_false_iff_not, Bool.and_eq_true, Bool.or_eq_true, Bool.not_eq_true', Bool.not_eq_false'] at *; omega) | (intros; first | rfl | assumption | omega | simp_all; done))) rfl rfl (.inl rfl) ?_
  (repeat (first | refine wpS_seq ?_ | refine wpS_reg ?_ | refine run_step rfl (by ((repeat' (first | exact allP_nil | refine allP_cons ?_ ?_ | intro _)) <;> first | assumption | omega | (simp only [cond_true, cond_false, bif_and, bif_or, decide_eq_true_eq, decide_eq_false_iff_not, Bool.and_eq_true, Bool.or_eq_true, Bool.not_eq_true', Bool.not_eq_false'] at *; omega) | (intros; first | rfl | assumption | omega | simp_all; done))) ?_ | refine run_nil ?_ | refine wpS_block ?_ | refine wpS_skip ?_ | refine wpS_exit ?_ | refine wpS_ret ?_))
  refine run_cg rfl (fun hG => ((has_spec b e hs.1))) rfl (fun hG => by ((repeat' (first | exact allP_nil | refine allP_cons ?_ ?_ | intro _)) <;> first | assumption | omega | (simp only [cond_true, cond_false, bif_and, bif_or, decide_eq_true_eq, decide_eq_false_iff_not, Bool.and_eq_true, Bool.or_eq_true, Bool.not_eq_true', Bool.not_eq_false'] at *; omega) | (intros; first | rfl | assumption | omega | simp_all; done))) rfl rfl (.inl rfl) ?_
  (repeat (first | refine wpS_seq ?_ | refine wpS_reg ?_ | refine run_step rfl (by ((repeat' (first | exact allP_nil | refine allP_cons ?_ ?_ | intro _)) <;> first | assumption | omega | (simp only [cond_true, cond_false, bif_and, bif_or, decide_eq_true_eq, decide_eq_false_iff_not, Bool.and_eq_true, Bool.or_eq_true, Bool.not_eq_true', Bool.not_eq_false'] at *; omega) | (intros; first | rfl | assumption | omega | simp_all; done))) ?_ | refine run_nil ?_ | refine wpS_block ?_ | refine wpS_skip ?_ | refine wpS_exit ?_ | refine wpS_ret ?_))
  refine fin_mk rfl ?_; (repeat' (first | exact allP_nil | refine allP_cons ?_ ?_))
  unfold hasX
  cases validEv e <;> cases validB b <;> simp
theorem events24_spec (b : Bk) (hs : Sm b) : Spec0 Tryz.prog 24 [bkA b] (evsA (eventsX b)) := by
  refine spec0 ok24 rfl fun C _ => ?_
  (repeat (first | refine wpS_seq ?_ | refine wpS_reg ?_ | refine run_step rfl (by ((repeat' (first | exact allP_nil | refine allP_cons ?_ ?_ | intro _)) <;> first | assumption | omega | (simp only [cond_true, cond_false, bif_and, bif_or, decide_eq_true_eq, decide_eq_false_iff_not, Bool.and_eq_true, Bool.or_eq_true, Bool.not_eq_true', Bool.not_eq_false'] at *; omega) | (intros; first | rfl | assumption | omega | simp_all; done))) ?_ | refine run_nil ?_ | refine wpS_block ?_ | refine wpS_skip ?_ | refine wpS_exit ?_ | refine wpS_ret ?_))
  refine run_c ((valid_spec b hs.1 hs.2)) rfl (by ((repeat' (first | exact allP_nil | refine allP_cons ?_ ?_ | intro _)) <;> first | assumption | omega | (simp only [cond_true, cond_false, bif_and, bif_or, decide_eq_true_eq, decide_eq_false_iff_not, Bool.and_eq_true, Bool.or_eq_true, Bool.not_eq_true', Bool.not_eq_false'] at *; omega) | (intros; first | rfl | assumption | omega | simp_all; done))) rfl rfl (.inl rfl) ?_
  unfold eventsX
  (repeat (first | refine wpS_seq ?_ | refine wpS_reg ?_ | refine run_step rfl (by ((repeat' (first | exact allP_nil | refine allP_cons ?_ ?_ | intro _)) <;> first | assumption | omega | (simp only [cond_true, cond_false, bif_and, bif_or, decide_eq_true_eq, decide_eq_false_iff_not, Bool.and_eq_true, Bool.or_eq_true, Bool.not_eq_true', Bool.not_eq_false'] at *; omega) | (intros; first | rfl | assumption | omega | simp_all; done))) ?_ | refine run_nil ?_ | refine wpS_block ?_ | refine wpS_skip ?_ | refine wpS_exit ?_))
  cases hv : validB b with
  | false =>
    refine wpS_condT rfl (by ((repeat' (first | exact allP_nil | refine allP_cons ?_ ?_ | intro _)) <;> first | assumption | omega | (simp only [cond_true, cond_false, bif_and, bif_or, decide_eq_true_eq, decide_eq_false_iff_not, Bool.and_eq_true, Bool.or_eq_true, Bool.not_eq_true', Bool.not_eq_false'] at *; omega) | (intros; first | rfl | assumption | omega | simp_all; done))) ?_
    (repeat (first | refine wpS_seq ?_ | refine wpS_reg ?_ | refine run_step rfl (by ((repeat' (first | exact allP_nil | refine allP_cons ?_ ?_ | intro _)) <;> first | assumption | omega | (simp only [cond_true, cond_false, bif_and, bif_or, decide_eq_true_eq, decide_eq_false_iff_not, Bool.and_eq_true, Bool.or_eq_true, Bool.not_eq_true', Bool.not_eq_false'] at *; omega) | (intros; first | rfl | assumption | omega | simp_all; done))) ?_ | refine run_nil ?_ | refine wpS_block ?_ | refine wpS_skip ?_ | refine wpS_exit ?_ | refine wpS_ret ?_))
    refine fin_mk rfl ?_; (repeat' (first | exact allP_nil | refine allP_cons ?_ ?_))
    all_goals first | rfl | exact ⟨rfl, fun _ hi => absurd hi (Nat.not_lt_zero _)⟩
  | true =>
    refine wpS_condF rfl (by ((repeat' (first | exact allP_nil | refine allP_cons ?_ ?_ | intro _)) <;> first | assumption | omega | (simp only [cond_true, cond_false, bif_and, bif_or, decide_eq_true_eq, decide_eq_false_iff_not, Bool.and_eq_true, Bool.or_eq_true, Bool.not_eq_true', Bool.not_eq_false'] at *; omega) | (intros; first | rfl | assumption | omega | simp_all; done))) ?_
    (repeat (first | refine wpS_seq ?_ | refine wpS_reg ?_ | refine run_step rfl (by ((repeat' (first | exact allP_nil | refine allP_cons ?_ ?_ | intro _)) <;> first | assumption | omega | (simp only [cond_true, cond_false, bif_and, bif_or, decide_eq_true_eq, decide_eq_false_iff_not, Bool.and_eq_true, Bool.or_eq_true, Bool.not_eq_true', Bool.not_eq_false'] at *; omega) | (intros; first | rfl | assumption | omega | simp_all; done))) ?_ | refine run_nil ?_ | refine wpS_block ?_ | refine wpS_skip ?_ | refine wpS_exit ?_ | refine wpS_ret ?_))
    refine run_c ((events_spec b hs.1)) rfl (by ((repeat' (first | exact allP_nil | refine allP_cons ?_ ?_ | intro _)) <;> first | assumption | omega | (simp only [cond_true, cond_false, bif_and, bif_or, decide_eq_true_eq, decide_eq_false_iff_not, Bool.and_eq_true, Bool.or_eq_true, Bool.not_eq_true', Bool.not_eq_false'] at *; omega) | (intros; first | rfl | assumption | omega | simp_all; done))) rfl rfl (.inr rfl) ?_
    (repeat (first | refine wpS_seq ?_ | refine wpS_reg ?_ | refine run_step rfl (by ((repeat' (first | exact allP_nil | refine allP_cons ?_ ?_ | intro _)) <;> first | assumption | omega | (simp only [cond_true, cond_false, bif_and, bif_or, decide_eq_true_eq, decide_eq_false_iff_not, Bool.and_eq_true, Bool.or_eq_true, Bool.not_eq_true', Bool.not_eq_false'] at *; omega) | (intros; first | rfl | assumption | omega | simp_all; done))) ?_ | refine run_nil ?_ | refine wpS_block ?_ | refine wpS_skip ?_ | refine wpS_exit ?_ | refine wpS_ret ?_))
    refine fin_mk rfl ?_; (repeat' (first | exact allP_nil | refine allP_cons ?_ ?_))
    exact ⟨rfl, fun _ _ => rfl⟩
set_option maxRecDepth 20000 in
set_option maxHeartbeats 2000000 in
theorem twice_spec (l : List Ev) (x : Ev) (hl : l.length ≤ 9223372036854775807) : Spec0 Tryz.prog 5 [evsA l, .agg (evA x)] (.bool true) := by
  refine spec0 ok5 rfl fun C _ => ?_
  (repeat (first | refine wpS_seq ?_ | refine wpS_reg ?_ | refine run_step rfl (by ((repeat' (first | exact allP_nil | refine allP_cons ?_ ?_ | intro _)) <;> first | assumption | omega | (simp only [cond_true, cond_false, bif_and, bif_or, decide_eq_true_eq, decide_eq_false_iff_not, Bool.and_eq_true, Bool.or_eq_true, Bool.not_eq_true', Bool.not_eq_false'] at *; omega) | (intros; first | rfl | assumption | omega | simp_all; done))) ?_ | refine run_nil ?_ | refine wpS_block ?_ | refine wpS_skip ?_ | refine wpS_exit ?_ | refine wpS_ret ?_))
  refine run_c (awake_spec) rfl (by ((repeat' (first | exact allP_nil | refine allP_cons ?_ ?_ | intro _)) <;> first | assumption | omega | (simp only [cond_true, cond_false, bif_and, bif_or, decide_eq_true_eq, decide_eq_false_iff_not, Bool.and_eq_true, Bool.or_eq_true, Bool.not_eq_true', Bool.not_eq_false'] at *; omega) | (intros; first | rfl | assumption | omega | simp_all; done))) rfl rfl (.inl rfl) ?_
  (repeat (first | refine wpS_seq ?_ | refine wpS_reg ?_ | refine run_step rfl (by ((repeat' (first | exact allP_nil | refine allP_cons ?_ ?_ | intro _)) <;> first | assumption | omega | (simp only [cond_true, cond_false, bif_and, bif_or, decide_eq_true_eq, decide_eq_false_iff_not, Bool.and_eq_true, Bool.or_eq_true, Bool.not_eq_true', Bool.not_eq_false'] at *; omega) | (intros; first | rfl | assumption | omega | simp_all; done))) ?_ | refine run_nil ?_ | refine wpS_block ?_ | refine wpS_skip ?_ | refine wpS_exit ?_ | refine wpS_ret ?_))
  refine wpS_condF rfl (by ((repeat' (first | exact allP_nil | refine allP_cons ?_ ?_ | intro _)) <;> first | assumption | omega | (simp only [cond_true, cond_false, bif_and, bif_or, decide_eq_true_eq, decide_eq_false_iff_not, Bool.and_eq_true, Bool.or_eq_true, Bool.not_eq_true', Bool.not_eq_false'] at *; omega) | (intros; first | rfl | assumption | omega | simp_all; done))) ?_
  (repeat (first | refine wpS_seq ?_ | refine wpS_reg ?_ | refine run_step rfl (by ((repeat' (first | exact allP_nil | refine allP_cons ?_ ?_ | intro _)) <;> first | assumption | omega | (simp only [cond_true, cond_false, bif_and, bif_or, decide_eq_true_eq, decide_eq_false_iff_not, Bool.and_eq_true, Bool.or_eq_true, Bool.not_eq_true', Bool.not_eq_false'] at *; omega) | (intros; first | rfl | assumption | omega | simp_all; done))) ?_ | refine run_nil ?_ | refine wpS_block ?_ | refine wpS_skip ?_ | refine wpS_exit ?_ | refine wpS_ret ?_))
  refine run_c ((few_spec l 24 hl)) rfl (by ((repeat' (first | exact allP_nil | refine allP_cons ?_ ?_ | intro _)) <;> first | assumption | omega | (simp only [cond_true, cond_false, bif_and, bif_or, decide_eq_true_eq, decide_eq_false_iff_not, Bool.and_eq_true, Bool.or_eq_true, Bool.not_eq_true', Bool.not_eq_false'] at *; omega) | (intros; first | rfl | assumption | omega | simp_all; done))) rfl rfl (.inl rfl) ?_
  cases hf : fewB l 24 with
  | false =>
    (repeat (first | refine wpS_seq ?_ | refine wpS_reg ?_ | refine run_step rfl (by ((repeat' (first | exact allP_nil | refine allP_cons ?_ ?_ | intro _)) <;> first | assumption | omega | (simp only [cond_true, cond_false, bif_and, bif_or, decide_eq_true_eq, decide_eq_false_iff_not, Bool.and_eq_true, Bool.or_eq_true, Bool.not_eq_true', Bool.not_eq_false'] at *; omega) | (intros; first | rfl | assumption | omega | simp_all; done))) ?_ | refine run_nil ?_ | refine wpS_block ?_ | refine wpS_skip ?_ | refine wpS_exit ?_))
    refine run_skipS .nils rfl rfl ?_
    refine run_skipC (.bool false) rfl ?_
    (repeat (first | refine wpS_seq ?_ | refine wpS_reg ?_ | refine run_step rfl (by ((repeat' (first | exact allP_nil | refine allP_cons ?_ ?_ | intro _)) <;> first | assumption | omega | (simp only [cond_true, cond_false, bif_and, bif_or, decide_eq_true_eq, decide_eq_false_iff_not, Bool.and_eq_true, Bool.or_eq_true, Bool.not_eq_true', Bool.not_eq_false'] at *; omega) | (intros; first | rfl | assumption | omega | simp_all; done))) ?_ | refine run_nil ?_ | refine wpS_block ?_ | refine wpS_skip ?_ | refine wpS_exit ?_ | refine wpS_ret ?_))
    refine wpS_condT rfl (by ((repeat' (first | exact allP_nil | refine allP_cons ?_ ?_ | intro _)) <;> first | assumption | omega | (simp only [cond_true, cond_false, bif_and, bif_or, decide_eq_true_eq, decide_eq_false_iff_not, Bool.and_eq_true, Bool.or_eq_true, Bool.not_eq_true', Bool.not_eq_false'] at *; omega) | (intros; first | rfl | assumption | omega | simp_all; done))) ?_
    (repeat (first | refine wpS_seq ?_ | refine wpS_reg ?_ | refine run_step rfl (by ((repeat' (first | exact allP_nil | refine allP_cons ?_ ?_ | intro _)) <;> first | assumption | omega | (simp only [cond_true, cond_false, bif_and, bif_or, decide_eq_true_eq, decide_eq_false_iff_not, Bool.and_eq_true, Bool.or_eq_true, Bool.not_eq_true', Bool.not_eq_false'] at *; omega) | (intros; first | rfl | assumption | omega | simp_all; done))) ?_ | refine run_nil ?_ | refine wpS_block ?_ | refine wpS_skip ?_ | refine wpS_exit ?_ | refine wpS_ret ?_))
    refine fin_mk rfl ?_; (repeat' (first | exact allP_nil | refine allP_cons ?_ ?_))
    rfl
  | true =>
  (repeat (first | refine wpS_seq ?_ | refine wpS_reg ?_ | refine run_step rfl (by ((repeat' (first | exact allP_nil | refine allP_cons ?_ ?_ | intro _)) <;> first | assumption | omega | (simp only [cond_true, cond_false, bif_and, bif_or, decide_eq_true_eq, decide_eq_false_iff_not, Bool.and_eq_true, Bool.or_eq_true, Bool.not_eq_true', Bool.not_eq_false'] at *; omega) | (intros; first | rfl | assumption | omega | simp_all; done))) ?_ | refine run_nil ?_ | refine wpS_block ?_ | refine wpS_skip ?_ | refine wpS_exit ?_))
  refine run_ent (ent_und 16 rfl) ?_
  refine run_met rfl rfl (by ((repeat' (first | exact allP_nil | refine allP_cons ?_ ?_ | intro _)) <;> first | assumption | omega | (simp only [cond_true, cond_false, bif_and, bif_or, decide_eq_true_eq, decide_eq_false_iff_not, Bool.and_eq_true, Bool.or_eq_true, Bool.not_eq_true', Bool.not_eq_false'] at *; omega) | (intros; first | rfl | assumption | omega | simp_all; done))) ?_
  (repeat (first | refine wpS_seq ?_ | refine wpS_reg ?_ | refine run_step rfl (by ((repeat' (first | exact allP_nil | refine allP_cons ?_ ?_ | intro _)) <;> first | assumption | omega | (simp only [cond_true, cond_false, bif_and, bif_or, decide_eq_true_eq, decide_eq_false_iff_not, Bool.and_eq_true, Bool.or_eq_true, Bool.not_eq_true', Bool.not_eq_false'] at *; omega) | (intros; first | rfl | assumption | omega | simp_all; done))) ?_ | refine run_nil ?_ | refine wpS_block ?_ | refine wpS_skip ?_ | refine wpS_exit ?_))
  refine run_cg rfl (fun hG => (few_one x 1 (nth [evA x]) 1 rfl (fun i hi => (by match i, hi with | 0, _ => rfl)))) rfl (fun hG => by ((repeat' (first | exact allP_nil | refine allP_cons ?_ ?_ | intro _)) <;> first | assumption | omega | (simp only [cond_true, cond_false, bif_and, bif_or, decide_eq_true_eq, decide_eq_false_iff_not, Bool.and_eq_true, Bool.or_eq_true, Bool.not_eq_true', Bool.not_eq_false'] at *; omega) | (intros; first | rfl | assumption | omega | simp_all; done))) rfl rfl (.inl rfl) ?_
  cases hf1 : fewB [x] 1 with
  | false =>
    (repeat (first | refine wpS_seq ?_ | refine wpS_reg ?_ | refine run_step rfl (by ((repeat' (first | exact allP_nil | refine allP_cons ?_ ?_ | intro _)) <;> first | assumption | omega | (simp only [cond_true, cond_false, bif_and, bif_or, decide_eq_true_eq, decide_eq_false_iff_not, Bool.and_eq_true, Bool.or_eq_true, Bool.not_eq_true', Bool.not_eq_false'] at *; omega) | (intros; first | rfl | assumption | omega | simp_all; done))) ?_ | refine run_nil ?_ | refine wpS_block ?_ | refine wpS_skip ?_ | refine wpS_exit ?_))
    refine wpS_condT rfl (by ((repeat' (first | exact allP_nil | refine allP_cons ?_ ?_ | intro _)) <;> first | assumption | omega | (simp only [cond_true, cond_false, bif_and, bif_or, decide_eq_true_eq, decide_eq_false_iff_not, Bool.and_eq_true, Bool.or_eq_true, Bool.not_eq_true', Bool.not_eq_false'] at *; omega) | (intros; first | rfl | assumption | omega | simp_all; done))) ?_
    (repeat (first | refine wpS_seq ?_ | refine wpS_reg ?_ | refine run_step rfl (by ((repeat' (first | exact allP_nil | refine allP_cons ?_ ?_ | intro _)) <;> first | assumption | omega | (simp only [cond_true, cond_false, bif_and, bif_or, decide_eq_true_eq, decide_eq_false_iff_not, Bool.and_eq_true, Bool.or_eq_true, Bool.not_eq_true', Bool.not_eq_false'] at *; omega) | (intros; first | rfl | assumption | omega | simp_all; done))) ?_ | refine run_nil ?_ | refine wpS_block ?_ | refine wpS_skip ?_ | refine wpS_exit ?_ | refine wpS_ret ?_))
    refine fin_mk rfl ?_; (repeat' (first | exact allP_nil | refine allP_cons ?_ ?_))
    rfl
  | true =>
  obtain ⟨hsk, hln⟩ := few_smK hf
  have hxk : SmK x := (few_smK hf1).1 x (List.mem_singleton.2 rfl)
  have hl' : l.length ≤ 1000000 := by omega
  have hmi := (make_inv l).1
  (repeat (first | refine wpS_seq ?_ | refine wpS_reg ?_ | refine run_step rfl (by ((repeat' (first | exact allP_nil | refine allP_cons ?_ ?_ | intro _)) <;> first | assumption | omega | (simp only [cond_true, cond_false, bif_and, bif_or, decide_eq_true_eq, decide_eq_false_iff_not, Bool.and_eq_true, Bool.or_eq_true, Bool.not_eq_true', Bool.not_eq_false'] at *; omega) | (intros; first | rfl | assumption | omega | simp_all; done))) ?_ | refine run_nil ?_ | refine wpS_block ?_ | refine wpS_skip ?_ | refine wpS_exit ?_))
  refine wpS_condF rfl (by ((repeat' (first | exact allP_nil | refine allP_cons ?_ ?_ | intro _)) <;> first | assumption | omega | (simp only [cond_true, cond_false, bif_and, bif_or, decide_eq_true_eq, decide_eq_false_iff_not, Bool.and_eq_true, Bool.or_eq_true, Bool.not_eq_true', Bool.not_eq_false'] at *; omega) | (intros; first | rfl | assumption | omega | simp_all; done))) ?_
  (repeat (first | refine wpS_seq ?_ | refine wpS_reg ?_ | refine run_step rfl (by ((repeat' (first | exact allP_nil | refine allP_cons ?_ ?_ | intro _)) <;> first | assumption | omega | (simp only [cond_true, cond_false, bif_and, bif_or, decide_eq_true_eq, decide_eq_false_iff_not, Bool.and_eq_true, Bool.or_eq_true, Bool.not_eq_true', Bool.not_eq_false'] at *; omega) | (intros; first | rfl | assumption | omega | simp_all; done))) ?_ | refine run_nil ?_ | refine wpS_block ?_ | refine wpS_skip ?_ | refine wpS_exit ?_ | refine wpS_ret ?_))
  refine run_c ((make_spec l hl' hsk)) rfl (by ((repeat' (first | exact allP_nil | refine allP_cons ?_ ?_ | intro _)) <;> first | assumption | omega | (simp only [cond_true, cond_false, bif_and, bif_or, decide_eq_true_eq, decide_eq_false_iff_not, Bool.and_eq_true, Bool.or_eq_true, Bool.not_eq_true', Bool.not_eq_false'] at *; omega) | (intros; first | rfl | assumption | omega | simp_all; done))) rfl rfl (.inr rfl) ?_
  have hms := make_sm hl'
  generalize make l = b at hms hmi ⊢
  (repeat (first | refine wpS_seq ?_ | refine wpS_reg ?_ | refine run_step rfl (by ((repeat' (first | exact allP_nil | refine allP_cons ?_ ?_ | intro _)) <;> first | assumption | omega | (simp only [cond_true, cond_false, bif_and, bif_or, decide_eq_true_eq, decide_eq_false_iff_not, Bool.and_eq_true, Bool.or_eq_true, Bool.not_eq_true', Bool.not_eq_false'] at *; omega) | (intros; first | rfl | assumption | omega | simp_all; done))) ?_ | refine run_nil ?_ | refine wpS_block ?_ | refine wpS_skip ?_ | refine wpS_exit ?_ | refine wpS_ret ?_))
  refine run_c ((applyX_spec b x hms hxk)) rfl (by ((repeat' (first | exact allP_nil | refine allP_cons ?_ ?_ | intro _)) <;> first | assumption | omega | (simp only [cond_true, cond_false, bif_and, bif_or, decide_eq_true_eq, decide_eq_false_iff_not, Bool.and_eq_true, Bool.or_eq_true, Bool.not_eq_true', Bool.not_eq_false'] at *; omega) | (intros; first | rfl | assumption | omega | simp_all; done))) rfl rfl (.inr rfl) ?_
  have h6 := applyX_six b x
  have hfl := applyX_fail (b := b) (e := x)
  have hon := fun c => once (b := b) (c := c) (x := x)
  have hR : applyX b x = ((applyX b x).1, (applyX b x).2) := rfl
  generalize (applyX b x).1 = code at hR h6 hfl ⊢
  generalize (applyX b x).2 = c at hR hfl ⊢
  (repeat (first | refine wpS_seq ?_ | refine wpS_reg ?_ | refine run_step rfl (by ((repeat' (first | exact allP_nil | refine allP_cons ?_ ?_ | intro _)) <;> first | assumption | omega | (simp only [cond_true, cond_false, bif_and, bif_or, decide_eq_true_eq, decide_eq_false_iff_not, Bool.and_eq_true, Bool.or_eq_true, Bool.not_eq_true', Bool.not_eq_false'] at *; omega) | (intros; first | rfl | assumption | omega | simp_all; done))) ?_ | refine run_nil ?_ | refine wpS_block ?_ | refine wpS_skip ?_ | refine wpS_exit ?_ | refine wpS_ret ?_))
  refine run_c ((has20_spec b x hms hxk)) rfl (by ((repeat' (first | exact allP_nil | refine allP_cons ?_ ?_ | intro _)) <;> first | assumption | omega | (simp only [cond_true, cond_false, bif_and, bif_or, decide_eq_true_eq, decide_eq_false_iff_not, Bool.and_eq_true, Bool.or_eq_true, Bool.not_eq_true', Bool.not_eq_false'] at *; omega) | (intros; first | rfl | assumption | omega | simp_all; done))) rfl rfl (.inl rfl) ?_
  rw [← h6]
  (repeat (first | refine wpS_seq ?_ | refine wpS_reg ?_ | refine run_step rfl (by ((repeat' (first | exact allP_nil | refine allP_cons ?_ ?_ | intro _)) <;> first | assumption | omega | (simp only [cond_true, cond_false, bif_and, bif_or, decide_eq_true_eq, decide_eq_false_iff_not, Bool.and_eq_true, Bool.or_eq_true, Bool.not_eq_true', Bool.not_eq_false'] at *; omega) | (intros; first | rfl | assumption | omega | simp_all; done))) ?_ | refine run_nil ?_ | refine wpS_block ?_ | refine wpS_skip ?_ | refine wpS_exit ?_ | refine wpS_ret ?_))
  refine wpS_cond rfl (by ((repeat' (first | exact allP_nil | refine allP_cons ?_ ?_ | intro _)) <;> first | assumption | omega | (simp only [cond_true, cond_false, bif_and, bif_or, decide_eq_true_eq, decide_eq_false_iff_not, Bool.and_eq_true, Bool.or_eq_true, Bool.not_eq_true', Bool.not_eq_false'] at *; omega) | (intros; first | rfl | assumption | omega | simp_all; done))) (fun h => ?_) (fun h => ?_)
  · exfalso
    simp [xorb] at h
  clear h
  (repeat (first | refine wpS_seq ?_ | refine wpS_reg ?_ | refine run_step rfl (by ((repeat' (first | exact allP_nil | refine allP_cons ?_ ?_ | intro _)) <;> first | assumption | omega | (simp only [cond_true, cond_false, bif_and, bif_or, decide_eq_true_eq, decide_eq_false_iff_not, Bool.and_eq_true, Bool.or_eq_true, Bool.not_eq_true', Bool.not_eq_false'] at *; omega) | (intros; first | rfl | assumption | omega | simp_all; done))) ?_ | refine run_nil ?_ | refine wpS_block ?_ | refine wpS_skip ?_ | refine wpS_exit ?_ | refine wpS_ret ?_))
  refine wpS_cond rfl (by ((repeat' (first | exact allP_nil | refine allP_cons ?_ ?_ | intro _)) <;> first | assumption | omega | (simp only [cond_true, cond_false, bif_and, bif_or, decide_eq_true_eq, decide_eq_false_iff_not, Bool.and_eq_true, Bool.or_eq_true, Bool.not_eq_true', Bool.not_eq_false'] at *; omega) | (intros; first | rfl | assumption | omega | simp_all; done))) (fun h => ?_) (fun h => ?_)
  · have hne : code ≠ 0 := by simpa using h
    rw [hfl hne]
    (repeat (first | refine wpS_seq ?_ | refine wpS_reg ?_ | refine run_step rfl (by ((repeat' (first | exact allP_nil | refine allP_cons ?_ ?_ | intro _)) <;> first | assumption | omega | (simp only [cond_true, cond_false, bif_and, bif_or, decide_eq_true_eq, decide_eq_false_iff_not, Bool.and_eq_true, Bool.or_eq_true, Bool.not_eq_true', Bool.not_eq_false'] at *; omega) | (intros; first | rfl | assumption | omega | simp_all; done))) ?_ | refine run_nil ?_ | refine wpS_block ?_ | refine wpS_skip ?_ | refine wpS_exit ?_ | refine wpS_ret ?_))
    refine fin_mk rfl ?_; (repeat' (first | exact allP_nil | refine allP_cons ?_ ?_))
    rfl
  · have hc0 : code = 0 := by simpa using h
    subst hc0
    clear h
    have O := hon c hR
    have o1 := O.raw
    have o2 := O.len
    have o3 : (eventsX b).length ≤ 1000000 := by
      unfold eventsX evsBk
      split
      · rw [length_sortS]; omega
      · simp
    have o4 : ((eventsX c).length : Int) = ((eventsX b).length : Int) + 1 := by omega
    have hcs : Sm c := sm_dec (by omega) O.inv.valid
    (repeat (first | refine wpS_seq ?_ | refine wpS_reg ?_ | refine run_step rfl (by ((repeat' (first | exact allP_nil | refine allP_cons ?_ ?_ | intro _)) <;> first | assumption | omega | (simp only [cond_true, cond_false, bif_and, bif_or, decide_eq_true_eq, decide_eq_false_iff_not, Bool.and_eq_true, Bool.or_eq_true, Bool.not_eq_true', Bool.not_eq_false'] at *; omega) | (intros; first | rfl | assumption | omega | simp_all; done))) ?_ | refine run_nil ?_ | refine wpS_block ?_ | refine wpS_skip ?_ | refine wpS_exit ?_ | refine wpS_ret ?_))
    refine run_c ((applyX_spec c x hcs hxk)) rfl (by ((repeat' (first | exact allP_nil | refine allP_cons ?_ ?_ | intro _)) <;> first | assumption | omega | (simp only [cond_true, cond_false, bif_and, bif_or, decide_eq_true_eq, decide_eq_false_iff_not, Bool.and_eq_true, Bool.or_eq_true, Bool.not_eq_true', Bool.not_eq_false'] at *; omega) | (intros; first | rfl | assumption | omega | simp_all; done))) rfl rfl (.inr rfl) ?_
    rw [O.again]
    (repeat (first | refine wpS_seq ?_ | refine wpS_reg ?_ | refine run_step rfl (by ((repeat' (first | exact allP_nil | refine allP_cons ?_ ?_ | intro _)) <;> first | assumption | omega | (simp only [cond_true, cond_false, bif_and, bif_or, decide_eq_true_eq, decide_eq_false_iff_not, Bool.and_eq_true, Bool.or_eq_true, Bool.not_eq_true', Bool.not_eq_false'] at *; omega) | (intros; first | rfl | assumption | omega | simp_all; done))) ?_ | refine run_nil ?_ | refine wpS_block ?_ | refine wpS_skip ?_ | refine wpS_exit ?_ | refine wpS_ret ?_))
    refine wpS_D (by kernel_rfl) ?_
    (repeat (refine trg_step rfl (by ((repeat' (first | exact allP_nil | refine allP_cons ?_ ?_ | intro _)) <;> first | assumption | omega | (simp only [cond_true, cond_false, bif_and, bif_or, decide_eq_true_eq, decide_eq_false_iff_not, Bool.and_eq_true, Bool.or_eq_true, Bool.not_eq_true', Bool.not_eq_false'] at *; omega) | (intros; first | rfl | assumption | omega | simp_all; done))) ?_))
    refine trg_c ((has20_spec c x hcs hxk)) rfl (by ((repeat' (first | exact allP_nil | refine allP_cons ?_ ?_ | intro _)) <;> first | assumption | omega | (simp only [cond_true, cond_false, bif_and, bif_or, decide_eq_true_eq, decide_eq_false_iff_not, Bool.and_eq_true, Bool.or_eq_true, Bool.not_eq_true', Bool.not_eq_false'] at *; omega) | (intros; first | rfl | assumption | omega | simp_all; done))) rfl rfl (.inl rfl) ?_
    rw [O.has]
    (repeat (refine trg_step rfl (by ((repeat' (first | exact allP_nil | refine allP_cons ?_ ?_ | intro _)) <;> first | assumption | omega | (simp only [cond_true, cond_false, bif_and, bif_or, decide_eq_true_eq, decide_eq_false_iff_not, Bool.and_eq_true, Bool.or_eq_true, Bool.not_eq_true', Bool.not_eq_false'] at *; omega) | (intros; first | rfl | assumption | omega | simp_all; done))) ?_))
    refine trg_cg rfl (fun hG => (events24_spec c hcs)) rfl (fun hG => by ((repeat' (first | exact allP_nil | refine allP_cons ?_ ?_ | intro _)) <;> first | assumption | omega | (simp only [cond_true, cond_false, bif_and, bif_or, decide_eq_true_eq, decide_eq_false_iff_not, Bool.and_eq_true, Bool.or_eq_true, Bool.not_eq_true', Bool.not_eq_false'] at *; omega) | (intros; first | rfl | assumption | omega | simp_all; done))) rfl rfl (.inr rfl) ?_
    (repeat (refine trg_step rfl (by ((repeat' (first | exact allP_nil | refine allP_cons ?_ ?_ | intro _)) <;> first | assumption | omega | (simp only [cond_true, cond_false, bif_and, bif_or, decide_eq_true_eq, decide_eq_false_iff_not, Bool.and_eq_true, Bool.or_eq_true, Bool.not_eq_true', Bool.not_eq_false'] at *; omega) | (intros; first | rfl | assumption | omega | simp_all; done))) ?_))
    refine trg_cg rfl (fun hG => (events24_spec b hms)) rfl (fun hG => by ((repeat' (first | exact allP_nil | refine allP_cons ?_ ?_ | intro _)) <;> first | assumption | omega | (simp only [cond_true, cond_false, bif_and, bif_or, decide_eq_true_eq, decide_eq_false_iff_not, Bool.and_eq_true, Bool.or_eq_true, Bool.not_eq_true', Bool.not_eq_false'] at *; omega) | (intros; first | rfl | assumption | omega | simp_all; done))) rfl rfl (.inr rfl) ?_
    (repeat (refine trg_step rfl (by ((repeat' (first | exact allP_nil | refine allP_cons ?_ ?_ | intro _)) <;> first | assumption | omega | (simp only [cond_true, cond_false, bif_and, bif_or, decide_eq_true_eq, decide_eq_false_iff_not, Bool.and_eq_true, Bool.or_eq_true, Bool.not_eq_true', Bool.not_eq_false'] at *; omega) | (intros; first | rfl | assumption | omega | simp_all; done))) ?_))
    refine trg_nil ⟨rfl, ?_⟩
    (repeat (first | refine wpS_seq ?_ | refine wpS_reg ?_ | refine run_step rfl (by ((repeat' (first | exact allP_nil | refine allP_cons ?_ ?_ | intro _)) <;> first | assumption | omega | (simp only [cond_true, cond_false, bif_and, bif_or, decide_eq_true_eq, decide_eq_false_iff_not, Bool.and_eq_true, Bool.or_eq_true, Bool.not_eq_true', Bool.not_eq_false'] at *; omega) | (intros; first | rfl | assumption | omega | simp_all; done))) ?_ | refine run_nil ?_ | refine wpS_block ?_ | refine wpS_skip ?_ | refine wpS_exit ?_ | refine wpS_ret ?_))
    refine fin_mk rfl ?_; (repeat' (first | exact allP_nil | refine allP_cons ?_ ?_))
    rw [o4]
    simp [empty]
end Go.Proofs
end
