/-
  HELPING TEXT, shared by the claims on the book. Own work (AI agent).
-/
import Derived.Test.YtgnhmklpekgndaaGreatDoorStuE
import Derived.Laws.Externs
set_option linter.all false
/- part BkE -/
section
namespace Go.Proofs
open Go.Av Go.Pu
theorem indexFunc_spec (l : List En) (k : K) (hl : l.length ≤ maxL) : Spec0 Tryz.prog 51 [lsA 7 enA l, .fn 52 [.ptr (kA k)]] (.int .i64 (idxI (fun y => y.key == k) l)) := by
  rw [maxL_eq] at hl
  refine spec0 ok51 rfl fun C _ => ?_
  (repeat (first | refine wpS_seq ?_ | refine wpS_reg ?_ | refine run_step rfl (by ((repeat' (first | exact aN | refine aC ?_ ?_ | intro _)) <;> first | assumption | omega | (simp only [obS] at *; omega) | (intros; first | rfl | assumption | omega | simp_all; done))) ?_ | refine run_nil ?_ | refine wpS_block ?_ | refine wpS_skip ?_ | refine wpS_exit ?_ | refine wpS_ret ?_))
  refine wpS_loop (fun i => i ≤ l.length ∧ ∀ j (hj : j < i) (hl : j < l.length), (l[j].key == k) = false) (fun i => ⟨[(0, lsA 7 enA l), (1, .fn 52 [.ptr (kA k)]), (7, .int .i64 (l.length : Nat)), (8, .int .i64 (i : Nat))], []⟩) (fun i => l.length - i) 0 ⟨by omega, by intro j hj; omega⟩ (by refine ent_le ?_; (repeat' (first | exact aN | refine aC ?_ ?_)) <;> simp) ?_
  rintro i ⟨hk, hall⟩
  (repeat (first | refine wpS_seq ?_ | refine wpS_reg ?_ | refine run_step rfl (by ((repeat' (first | exact aN | refine aC ?_ ?_ | intro _)) <;> first | assumption | omega | (simp only [obS] at *; omega) | (intros; first | rfl | assumption | omega | simp_all; done))) ?_ | refine run_nil ?_ | refine wpS_block ?_ | refine wpS_skip ?_ | refine wpS_exit ?_ | refine wpS_ret ?_))
  refine wpS_cond rfl (by ((repeat' (first | exact aN | refine aC ?_ ?_ | intro _)) <;> first | assumption | omega | (simp only [obS] at *; omega) | (intros; first | rfl | assumption | omega | simp_all; done))) (fun h => ?_) (fun h => ?_)
  · have hlt : i < l.length := by simpa using h
    (repeat (first | refine wpS_seq ?_ | refine wpS_reg ?_ | refine run_step rfl (by ((repeat' (first | exact aN | refine aC ?_ ?_ | intro _)) <;> first | assumption | omega | (simp only [obS] at *; omega) | (intros; first | rfl | assumption | omega | simp_all; done))) ?_ | refine run_nil ?_ | refine wpS_block ?_ | refine wpS_skip ?_ | refine wpS_exit ?_ | refine wpS_ret ?_))
    refine run_c ((find1_spec (l.getD i default) k)) rfl (by ((repeat' (first | exact aN | refine aC ?_ ?_ | intro _)) <;> first | assumption | omega | (simp only [obS] at *; omega) | (intros; first | rfl | assumption | omega | simp_all; done))) rfl rfl (.inr rfl) ?_
    (repeat (first | refine wpS_seq ?_ | refine wpS_reg ?_ | refine run_step rfl (by ((repeat' (first | exact aN | refine aC ?_ ?_ | intro _)) <;> first | assumption | omega | (simp only [obS] at *; omega) | (intros; first | rfl | assumption | omega | simp_all; done))) ?_ | refine run_nil ?_ | refine wpS_block ?_ | refine wpS_skip ?_ | refine wpS_exit ?_ | refine wpS_ret ?_))
    refine wpS_cond rfl (by ((repeat' (first | exact aN | refine aC ?_ ?_ | intro _)) <;> first | assumption | omega | (simp only [obS] at *; omega) | (intros; first | rfl | assumption | omega | simp_all; done))) (fun h => ?_) (fun h => ?_)
    · (repeat (first | refine wpS_seq ?_ | refine wpS_reg ?_ | refine run_step rfl (by ((repeat' (first | exact aN | refine aC ?_ ?_ | intro _)) <;> first | assumption | omega | (simp only [obS] at *; omega) | (intros; first | rfl | assumption | omega | simp_all; done))) ?_ | refine run_nil ?_ | refine wpS_block ?_ | refine wpS_skip ?_ | refine wpS_exit ?_ | refine wpS_ret ?_))
      refine fin_mk rfl ?_; (repeat' (first | exact aN | refine aC ?_ ?_))
      simp only [getD_lt hlt] at h
      rw [idxI_at (p := fun y => y.key == k) hlt (fun j hj => hall j hj (by omega)) h]
    · (repeat (first | refine wpS_seq ?_ | refine wpS_reg ?_ | refine run_step rfl (by ((repeat' (first | exact aN | refine aC ?_ ?_ | intro _)) <;> first | assumption | omega | (simp only [obS] at *; omega) | (intros; first | rfl | assumption | omega | simp_all; done))) ?_ | refine run_nil ?_ | refine wpS_block ?_ | refine wpS_skip ?_ | refine wpS_exit ?_ | refine wpS_ret ?_))
      simp only [getD_lt hlt] at h
      refine ⟨i + 1, ⟨by omega, ?_⟩, by dsimp only; omega, ?_⟩
      · intro j hj hl
        by_cases hjk : j < i
        · exact hall j hjk hl
        · obtain rfl : j = i := by omega
          exact h
      · refine ent_le ?_; (repeat' (first | exact aN | refine aC ?_ ?_)) <;> simp
  · have hlt : i = l.length := by simp at h; omega
    (repeat (first | refine wpS_seq ?_ | refine wpS_reg ?_ | refine run_step rfl (by ((repeat' (first | exact aN | refine aC ?_ ?_ | intro _)) <;> first | assumption | omega | (simp only [obS] at *; omega) | (intros; first | rfl | assumption | omega | simp_all; done))) ?_ | refine run_nil ?_ | refine wpS_block ?_ | refine wpS_skip ?_ | refine wpS_exit ?_ | refine wpS_ret ?_))
    refine fin_mk rfl ?_; (repeat' (first | exact aN | refine aC ?_ ?_))
    rw [idxI_no (fun j hj => hall j (by omega) hj)]
def findI (l : List En) (k : K) : Int := idxI (fun y => y.key == k) l
theorem find_spec (b : Bk) (k : K) (hl : b.ens.length ≤ maxL) : Spec0 Tryz.prog 22 [bkA b, .agg (kA k)] (.int .i64 (findI b.ens k)) := by
  refine spec0 ok22 rfl fun C _ => ?_
  (repeat (first | refine wpS_seq ?_ | refine wpS_reg ?_ | refine run_step rfl (by ((repeat' (first | exact aN | refine aC ?_ ?_ | intro _)) <;> first | assumption | omega | (simp only [obS] at *; omega) | (intros; first | rfl | assumption | omega | simp_all; done))) ?_ | refine run_nil ?_ | refine wpS_block ?_ | refine wpS_skip ?_ | refine wpS_exit ?_ | refine wpS_ret ?_))
  refine run_c ((indexFunc_spec b.ens k hl)) rfl (by ((repeat' (first | exact aN | refine aC ?_ ?_ | intro _)) <;> first | assumption | omega | (simp only [obS] at *; omega) | (intros; first | rfl | assumption | omega | simp_all; done))) rfl rfl (.inl rfl) ?_
  (repeat (first | refine wpS_seq ?_ | refine wpS_reg ?_ | refine run_step rfl (by ((repeat' (first | exact aN | refine aC ?_ ?_ | intro _)) <;> first | assumption | omega | (simp only [obS] at *; omega) | (intros; first | rfl | assumption | omega | simp_all; done))) ?_ | refine run_nil ?_ | refine wpS_block ?_ | refine wpS_skip ?_ | refine wpS_exit ?_ | refine wpS_ret ?_))
  refine fin_mk rfl ?_; (repeat' (first | exact aN | refine aC ?_ ?_))
  rfl
def SmE (y : En) : Prop := y.grs.length ≤ 1000000 ∧ y.aps.length ≤ 1000000
theorem SmE.g {y : En} (h : SmE y) : y.grs.length ≤ maxL := Nat.le_trans h.1 (by decide)
theorem SmE.a {y : En} (h : SmE y) : y.aps.length ≤ maxL := Nat.le_trans h.2 (by decide)
theorem en_eq (a b : En) : (a.key == b.key && a.tick == b.tick && a.text == b.text && a.grs == b.grs && a.aps == b.aps) = (a == b) := by
  rw [Bool.eq_iff_iff]
  simp only [Bool.and_eq_true, beq_iff_eq]
  constructor
  · rintro ⟨⟨⟨⟨h1, h2⟩, h3⟩, h4⟩, h5⟩; cases a; cases b; simp_all
  · rintro rfl; simp
theorem same1_spec (a b : En) (h : SmE a) : Spec0 Tryz.prog 65 [.agg (enA a), .agg (enA b)] (.bool (a == b)) := by
  refine spec0 ok65 rfl fun C _ => ?_
  (repeat (first | refine wpS_seq ?_ | refine wpS_reg ?_ | refine run_step rfl (by ((repeat' (first | exact aN | refine aC ?_ ?_ | intro _)) <;> first | assumption | omega | (simp only [obS] at *; omega) | (intros; first | rfl | assumption | omega | simp_all; done))) ?_ | refine run_nil ?_ | refine wpS_block ?_ | refine wpS_skip ?_ | refine wpS_exit ?_ | refine wpS_ret ?_))
  refine run_cg rfl (fun hG => ((grEqual_spec a.grs b.grs h.g))) rfl (fun hG => by ((repeat' (first | exact aN | refine aC ?_ ?_ | intro _)) <;> first | assumption | omega | (simp only [obS] at *; omega) | (intros; first | rfl | assumption | omega | simp_all; done))) rfl rfl (.inl rfl) ?_
  (repeat (first | refine wpS_seq ?_ | refine wpS_reg ?_ | refine run_step rfl (by ((repeat' (first | exact aN | refine aC ?_ ?_ | intro _)) <;> first | assumption | omega | (simp only [obS] at *; omega) | (intros; first | rfl | assumption | omega | simp_all; done))) ?_ | refine run_nil ?_ | refine wpS_block ?_ | refine wpS_skip ?_ | refine wpS_exit ?_ | refine wpS_ret ?_))
  refine run_cg rfl (fun hG => ((apEqual_spec a.aps b.aps h.a))) rfl (fun hG => by ((repeat' (first | exact aN | refine aC ?_ ?_ | intro _)) <;> first | assumption | omega | (simp only [obS] at *; omega) | (intros; first | rfl | assumption | omega | simp_all; done))) rfl rfl (.inl rfl) ?_
  (repeat (first | refine wpS_seq ?_ | refine wpS_reg ?_ | refine run_step rfl (by ((repeat' (first | exact aN | refine aC ?_ ?_ | intro _)) <;> first | assumption | omega | (simp only [obS] at *; omega) | (intros; first | rfl | assumption | omega | simp_all; done))) ?_ | refine run_nil ?_ | refine wpS_block ?_ | refine wpS_skip ?_ | refine wpS_exit ?_ | refine wpS_ret ?_))
  refine fin_mk rfl ?_; (repeat' (first | exact aN | refine aC ?_ ?_))
  simp only [bif_and, k_eq, xorb_f, en_eq]
theorem equalFunc_spec (l m : List En) (hl : l.length ≤ maxL) (hs : ∀ y ∈ l, SmE y) : Spec0 Tryz.prog 64 [lsA 7 enA l, lsA 7 enA m, .fn 65 []] (.bool (l == m)) := by
  rw [maxL_eq] at hl
  refine spec0 ok64 rfl fun C _ => ?_
  (repeat (first | refine wpS_seq ?_ | refine wpS_reg ?_ | refine run_step rfl (by ((repeat' (first | exact aN | refine aC ?_ ?_ | intro _)) <;> first | assumption | omega | (simp only [obS] at *; omega) | (intros; first | rfl | assumption | omega | simp_all; done))) ?_ | refine run_nil ?_ | refine wpS_block ?_ | refine wpS_skip ?_ | refine wpS_exit ?_ | refine wpS_ret ?_))
  refine wpS_cond rfl (by ((repeat' (first | exact aN | refine aC ?_ ?_ | intro _)) <;> first | assumption | omega | (simp only [obS] at *; omega) | (intros; first | rfl | assumption | omega | simp_all; done))) (fun h => ?_) (fun h => ?_)
  · (repeat (first | refine wpS_seq ?_ | refine wpS_reg ?_ | refine run_step rfl (by ((repeat' (first | exact aN | refine aC ?_ ?_ | intro _)) <;> first | assumption | omega | (simp only [obS] at *; omega) | (intros; first | rfl | assumption | omega | simp_all; done))) ?_ | refine run_nil ?_ | refine wpS_block ?_ | refine wpS_skip ?_ | refine wpS_exit ?_ | refine wpS_ret ?_))
    refine fin_mk rfl ?_; (repeat' (first | exact aN | refine aC ?_ ?_))
    have hne : ¬ l = m := by rintro rfl; simp at h
    simpa using hne
  have hlm : l.length = m.length := by simp at h; omega
  (repeat (first | refine wpS_seq ?_ | refine wpS_reg ?_ | refine run_step rfl (by ((repeat' (first | exact aN | refine aC ?_ ?_ | intro _)) <;> first | assumption | omega | (simp only [obS] at *; omega) | (intros; first | rfl | assumption | omega | simp_all; done))) ?_ | refine run_nil ?_ | refine wpS_block ?_ | refine wpS_skip ?_ | refine wpS_exit ?_ | refine wpS_ret ?_))
  refine wpS_loop (fun k => k ≤ l.length ∧ ∀ j (hj : j < k) (hl : j < l.length), (l[j] == m[j]'(hlm ▸ hl)) = true) (fun k => ⟨[(1, lsA 7 enA m), (2, .fn 65 []), (15, lsA 7 enA l), (16, .int .i64 (l.length : Nat)), (17, .int .i64 (k : Nat))], []⟩) (fun k => l.length - k) 0 ⟨by omega, by intro j hj; omega⟩ (by refine ent_le ?_; (repeat' (first | exact aN | refine aC ?_ ?_)) <;> simp) ?_
  rintro k ⟨hk, hall⟩
  clear h
  (repeat (first | refine wpS_seq ?_ | refine wpS_reg ?_ | refine run_step rfl (by ((repeat' (first | exact aN | refine aC ?_ ?_ | intro _)) <;> first | assumption | omega | (simp only [obS] at *; omega) | (intros; first | rfl | assumption | omega | simp_all; done))) ?_ | refine run_nil ?_ | refine wpS_block ?_ | refine wpS_skip ?_ | refine wpS_exit ?_ | refine wpS_ret ?_))
  refine wpS_cond rfl (by ((repeat' (first | exact aN | refine aC ?_ ?_ | intro _)) <;> first | assumption | omega | (simp only [obS] at *; omega) | (intros; first | rfl | assumption | omega | simp_all; done))) (fun h => ?_) (fun h => ?_)
  · have hlt : k < l.length := by simpa using h
    have hlt' : k < m.length := hlm ▸ hlt
    (repeat (first | refine wpS_seq ?_ | refine wpS_reg ?_ | refine run_step rfl (by ((repeat' (first | exact aN | refine aC ?_ ?_ | intro _)) <;> first | assumption | omega | (simp only [obS] at *; omega) | (intros; first | rfl | assumption | omega | simp_all; done))) ?_ | refine run_nil ?_ | refine wpS_block ?_ | refine wpS_skip ?_ | refine wpS_exit ?_ | refine wpS_ret ?_))
    refine run_c ((same1_spec (l.getD k default) (m.getD k default) (hs _ (by rw [getD_lt hlt]; exact List.getElem_mem hlt)))) rfl (by ((repeat' (first | exact aN | refine aC ?_ ?_ | intro _)) <;> first | assumption | omega | (simp only [obS] at *; omega) | (intros; first | rfl | assumption | omega | simp_all; done))) rfl rfl (.inl rfl) ?_
    (repeat (first | refine wpS_seq ?_ | refine wpS_reg ?_ | refine run_step rfl (by ((repeat' (first | exact aN | refine aC ?_ ?_ | intro _)) <;> first | assumption | omega | (simp only [obS] at *; omega) | (intros; first | rfl | assumption | omega | simp_all; done))) ?_ | refine run_nil ?_ | refine wpS_block ?_ | refine wpS_skip ?_ | refine wpS_exit ?_ | refine wpS_ret ?_))
    refine wpS_cond rfl (by ((repeat' (first | exact aN | refine aC ?_ ?_ | intro _)) <;> first | assumption | omega | (simp only [obS] at *; omega) | (intros; first | rfl | assumption | omega | simp_all; done))) (fun h => ?_) (fun h => ?_)
    · (repeat (first | refine wpS_seq ?_ | refine wpS_reg ?_ | refine run_step rfl (by ((repeat' (first | exact aN | refine aC ?_ ?_ | intro _)) <;> first | assumption | omega | (simp only [obS] at *; omega) | (intros; first | rfl | assumption | omega | simp_all; done))) ?_ | refine run_nil ?_ | refine wpS_block ?_ | refine wpS_skip ?_ | refine wpS_exit ?_ | refine wpS_ret ?_))
      refine fin_mk rfl ?_; (repeat' (first | exact aN | refine aC ?_ ?_))
      simp only [getD_lt hlt, getD_lt hlt'] at h
      have hne : ¬ l = m := by rintro rfl; simp at h
      simpa using hne
    · (repeat (first | refine wpS_seq ?_ | refine wpS_reg ?_ | refine run_step rfl (by ((repeat' (first | exact aN | refine aC ?_ ?_ | intro _)) <;> first | assumption | omega | (simp only [obS] at *; omega) | (intros; first | rfl | assumption | omega | simp_all; done))) ?_ | refine run_nil ?_ | refine wpS_block ?_ | refine wpS_skip ?_ | refine wpS_exit ?_ | refine wpS_ret ?_))
      simp only [getD_lt hlt, getD_lt hlt'] at h
      refine ⟨k + 1, ⟨by omega, ?_⟩, by dsimp only; omega, ?_⟩
      · intro j hj hl
        by_cases hjk : j < k
        · exact hall j hjk hl
        · obtain rfl : j = k := by omega
          simpa using h
      · refine ent_le ?_; (repeat' (first | exact aN | refine aC ?_ ?_)) <;> simp
  · have hlt : k = l.length := by simp at h; omega
    (repeat (first | refine wpS_seq ?_ | refine wpS_reg ?_ | refine run_step rfl (by ((repeat' (first | exact aN | refine aC ?_ ?_ | intro _)) <;> first | assumption | omega | (simp only [obS] at *; omega) | (intros; first | rfl | assumption | omega | simp_all; done))) ?_ | refine run_nil ?_ | refine wpS_block ?_ | refine wpS_skip ?_ | refine wpS_exit ?_ | refine wpS_ret ?_))
    refine fin_mk rfl ?_; (repeat' (first | exact aN | refine aC ?_ ?_))
    exact (list_beq_true hlm fun j hj => hall j (by omega) hj).symm
def SmB (l : List En) : Prop := l.length ≤ 1000000 ∧ ∀ y ∈ l, SmE y
theorem SmB.l {l : List En} (h : SmB l) : l.length ≤ maxL := Nat.le_trans h.1 (by decide)
theorem bk_eq (a b : Bk) : (a.tick == b.tick && a.ens == b.ens) = (a == b) := by
  rw [Bool.eq_iff_iff]
  simp only [Bool.and_eq_true, beq_iff_eq]
  constructor
  · rintro ⟨h1, h2⟩; cases a; cases b; simp_all
  · rintro rfl; simp
theorem same_spec (a b : Bk) (h : SmB a.ens) : Spec0 Tryz.prog 37 [bkA a, bkA b] (.bool (a == b)) := by
  refine spec0 ok37 rfl fun C _ => ?_
  (repeat (first | refine wpS_seq ?_ | refine wpS_reg ?_ | refine run_step rfl (by ((repeat' (first | exact aN | refine aC ?_ ?_ | intro _)) <;> first | assumption | omega | (simp only [obS] at *; omega) | (intros; first | rfl | assumption | omega | simp_all; done))) ?_ | refine run_nil ?_ | refine wpS_block ?_ | refine wpS_skip ?_ | refine wpS_exit ?_ | refine wpS_ret ?_))
  refine run_cg rfl (fun hG => ((equalFunc_spec a.ens b.ens h.l h.2))) rfl (fun hG => by ((repeat' (first | exact aN | refine aC ?_ ?_ | intro _)) <;> first | assumption | omega | (simp only [obS] at *; omega) | (intros; first | rfl | assumption | omega | simp_all; done))) rfl rfl (.inl rfl) ?_
  (repeat (first | refine wpS_seq ?_ | refine wpS_reg ?_ | refine run_step rfl (by ((repeat' (first | exact aN | refine aC ?_ ?_ | intro _)) <;> first | assumption | omega | (simp only [obS] at *; omega) | (intros; first | rfl | assumption | omega | simp_all; done))) ?_ | refine run_nil ?_ | refine wpS_block ?_ | refine wpS_skip ?_ | refine wpS_exit ?_ | refine wpS_ret ?_))
  refine fin_mk rfl ?_; (repeat' (first | exact aN | refine aC ?_ ?_))
  simp only [bif_and, bk_eq]
end Go.Proofs
end
/- part BkF -/
section
namespace Go.Proofs
open Go.Av Go.Pu
theorem grClone_spec (l : List Gr) (hl : l.length ≤ 1000000) : SpecR Tryz.prog 74 [lsA 4 grA l] [] (.ref 7) [(7, .row 42 4 l.length fun i => grA (l.getD i default))] := by
  refine specR ok74 fun C _ => ?_
  refine wpS_seq ?_
  (repeat (first | refine wpS_seq ?_ | refine wpS_reg ?_ | refine run_step rfl (by ((repeat' (first | exact aN | refine aC ?_ ?_ | intro _)) <;> first | assumption | omega | (simp only [obS] at *; omega) | (intros; first | rfl | assumption | omega | simp_all; done))) ?_ | refine run_nil ?_ | refine wpS_block ?_ | refine wpS_skip ?_ | refine wpS_exit ?_ | refine wpS_ret ?_))
  refine run_eqnS rfl fun b hb => ?_
  (repeat (first | refine wpS_seq ?_ | refine wpS_reg ?_ | refine run_step rfl (by ((repeat' (first | exact aN | refine aC ?_ ?_ | intro _)) <;> first | assumption | omega | (simp only [obS] at *; omega) | (intros; first | rfl | assumption | omega | simp_all; done))) ?_ | refine run_nil ?_ | refine wpS_block ?_ | refine wpS_skip ?_ | refine wpS_exit ?_ | refine wpS_ret ?_))
  refine wpS_cond rfl (by ((repeat' (first | exact aN | refine aC ?_ ?_ | intro _)) <;> first | assumption | omega | (simp only [obS] at *; omega) | (intros; first | rfl | assumption | omega | simp_all; done))) (fun h => ?_) (fun h => ?_)
  · have hn := hb h
    (repeat (first | refine wpS_seq ?_ | refine wpS_reg ?_ | refine run_step rfl (by ((repeat' (first | exact aN | refine aC ?_ ?_ | intro _)) <;> first | assumption | omega | (simp only [obS] at *; omega) | (intros; first | rfl | assumption | omega | simp_all; done))) ?_ | refine run_nil ?_ | refine wpS_block ?_ | refine wpS_skip ?_ | refine wpS_exit ?_))
    refine wpS_ent (ent_name 2 7 42 4 (fun i => grA (l.getD i default)) (.inl rfl) rfl) ?_
    (repeat (first | refine wpS_seq ?_ | refine wpS_reg ?_ | refine run_step rfl (by ((repeat' (first | exact aN | refine aC ?_ ?_ | intro _)) <;> first | assumption | omega | (simp only [obS] at *; omega) | (intros; first | rfl | assumption | omega | simp_all; done))) ?_ | refine run_nil ?_ | refine wpS_block ?_ | refine wpS_skip ?_ | refine wpS_exit ?_ | refine wpS_ret ?_))
    refine fin_mkR rfl ?_ ?_ <;> (repeat' (first | exact aN | refine aC ?_ ?_))
    exact ⟨by simp [hn], fun i hi => by omega⟩
  · (repeat (first | refine wpS_seq ?_ | refine wpS_reg ?_ | refine run_step rfl (by ((repeat' (first | exact aN | refine aC ?_ ?_ | intro _)) <;> first | assumption | omega | (simp only [obS] at *; omega) | (intros; first | rfl | assumption | omega | simp_all; done))) ?_ | refine run_nil ?_ | refine wpS_block ?_ | refine wpS_skip ?_ | refine wpS_exit ?_ | refine wpS_ret ?_))
    refine fin_mkR rfl ?_ ?_ <;> (repeat' (first | exact aN | refine aC ?_ ?_))
    refine ⟨by simp, fun i hi => ?_⟩
    rfl
theorem apClone_spec (l : List Ap) (hl : l.length ≤ 1000000) : SpecR Tryz.prog 75 [lsA 6 apA l] [] (.ref 7) [(7, .row 44 6 l.length fun i => apA (l.getD i default))] := by
  refine specR ok75 fun C _ => ?_
  refine wpS_seq ?_
  (repeat (first | refine wpS_seq ?_ | refine wpS_reg ?_ | refine run_step rfl (by ((repeat' (first | exact aN | refine aC ?_ ?_ | intro _)) <;> first | assumption | omega | (simp only [obS] at *; omega) | (intros; first | rfl | assumption | omega | simp_all; done))) ?_ | refine run_nil ?_ | refine wpS_block ?_ | refine wpS_skip ?_ | refine wpS_exit ?_ | refine wpS_ret ?_))
  refine run_eqnS rfl fun b hb => ?_
  (repeat (first | refine wpS_seq ?_ | refine wpS_reg ?_ | refine run_step rfl (by ((repeat' (first | exact aN | refine aC ?_ ?_ | intro _)) <;> first | assumption | omega | (simp only [obS] at *; omega) | (intros; first | rfl | assumption | omega | simp_all; done))) ?_ | refine run_nil ?_ | refine wpS_block ?_ | refine wpS_skip ?_ | refine wpS_exit ?_ | refine wpS_ret ?_))
  refine wpS_cond rfl (by ((repeat' (first | exact aN | refine aC ?_ ?_ | intro _)) <;> first | assumption | omega | (simp only [obS] at *; omega) | (intros; first | rfl | assumption | omega | simp_all; done))) (fun h => ?_) (fun h => ?_)
  · have hn := hb h
    (repeat (first | refine wpS_seq ?_ | refine wpS_reg ?_ | refine run_step rfl (by ((repeat' (first | exact aN | refine aC ?_ ?_ | intro _)) <;> first | assumption | omega | (simp only [obS] at *; omega) | (intros; first | rfl | assumption | omega | simp_all; done))) ?_ | refine run_nil ?_ | refine wpS_block ?_ | refine wpS_skip ?_ | refine wpS_exit ?_))
    refine wpS_ent (ent_name 2 7 44 6 (fun i => apA (l.getD i default)) (.inl rfl) rfl) ?_
    (repeat (first | refine wpS_seq ?_ | refine wpS_reg ?_ | refine run_step rfl (by ((repeat' (first | exact aN | refine aC ?_ ?_ | intro _)) <;> first | assumption | omega | (simp only [obS] at *; omega) | (intros; first | rfl | assumption | omega | simp_all; done))) ?_ | refine run_nil ?_ | refine wpS_block ?_ | refine wpS_skip ?_ | refine wpS_exit ?_ | refine wpS_ret ?_))
    refine fin_mkR rfl ?_ ?_ <;> (repeat' (first | exact aN | refine aC ?_ ?_))
    exact ⟨by simp [hn], fun i hi => by omega⟩
  · (repeat (first | refine wpS_seq ?_ | refine wpS_reg ?_ | refine run_step rfl (by ((repeat' (first | exact aN | refine aC ?_ ?_ | intro _)) <;> first | assumption | omega | (simp only [obS] at *; omega) | (intros; first | rfl | assumption | omega | simp_all; done))) ?_ | refine run_nil ?_ | refine wpS_block ?_ | refine wpS_skip ?_ | refine wpS_exit ?_ | refine wpS_ret ?_))
    refine fin_mkR rfl ?_ ?_ <;> (repeat' (first | exact aN | refine aC ?_ ?_))
    refine ⟨by simp, fun i hi => ?_⟩
    rfl
end Go.Proofs
end
/- part BkG -/
section
namespace Go.Proofs
open Go.Av Go.Pu
@[reducible] def grF (l : List Gr) : Nat → List AV := fun i => grA (l.getD i default)
@[reducible] def apF (l : List Ap) : Nat → List AV := fun i => apA (l.getD i default)
@[reducible] def enO (e : En) : List AV := [.str e.key.stu, .str e.key.ex, .int .i64 e.key.att, .int .i64 e.tick, .str e.text, .own 42 4 e.grs.length (grF e.grs), .own 44 6 e.aps.length (apF e.aps)]
@[reducible] def enF (l : List En) : Nat → List AV := fun i => enO (l.getD i default)
/-- the root that holds entries -/
@[reducible] def enR (l : List En) : Rt := .rowO 39 7 l.length (enF l) 0 []
theorem getLast?_getD {α : Type} [Inhabited α] {l : List α} (h : 0 < l.length) : l.getLast? = some (l.getD (l.length - 1) default) := by
  rw [List.getLast?_eq_getElem?, List.getD_eq_getElem?_getD, List.getElem?_eq_getElem (by omega)]
  rfl
theorem lastV {α : Type} [Inhabited α] (l : List α) (p : α → Bool) : (bif decide (0 < (l.length : Int)) then p (l.getD ((l.length : Int) - 1).toNat default) else false) = lastP l p := by
  by_cases h : 0 < l.length
  · have h1 : (0 : Int) < (l.length : Int) := by omega
    have h2 : ((l.length : Int) - 1).toNat = l.length - 1 := by omega
    unfold lastP
    rw [getLast?_getD h]
    simp only [h1, h2, decide_true, cond_true]
  · have : l = [] := List.eq_nil_of_length_eq_zero (by omega)
    subst this; rfl
theorem open_spec (l : List En) (i : Nat) (hi : i < l.length) (hs : SmE (l.getD i default)) : SpecR Tryz.prog 99 [.locE PB 7 i 0] [(PB, enR l)] (.bool (openE (l.getD i default))) [(PB, enR l)] := by
  have hs2 := hs.2
  refine specR ok99 fun C _ => ?_
  refine wpS_ent (ent_open PB 900 i 6 rfl hi (.inl rfl) rfl rfl rfl) ?_
  (repeat (first | refine wpS_seq ?_ | refine wpS_reg ?_ | refine run_step rfl (by ((repeat' (first | exact aN | refine aC ?_ ?_ | intro _)) <;> first | assumption | omega | (simp only [obS] at *; omega) | (intros; first | rfl | assumption | omega | simp_all; done))) ?_ | refine run_nil ?_ | refine wpS_block ?_ | refine wpS_skip ?_ | refine wpS_exit ?_))
  refine wpS_ent (ent_close PB 900 6 rfl rfl rfl) ?_
  (repeat (first | refine wpS_seq ?_ | refine wpS_reg ?_ | refine run_step rfl (by ((repeat' (first | exact aN | refine aC ?_ ?_ | intro _)) <;> first | assumption | omega | (simp only [obS] at *; omega) | (intros; first | rfl | assumption | omega | simp_all; done))) ?_ | refine run_nil ?_ | refine wpS_block ?_ | refine wpS_skip ?_ | refine wpS_exit ?_ | refine wpS_ret ?_))
  refine fin_mkR rfl ?_ ?_ <;> (repeat' (first | exact aN | refine aC ?_ ?_))
  · exact lastV (l.getD i default).aps fun a => !a.dec
  · refine ⟨rfl, rfl, .inl rfl, fun j hj => ?_⟩
    rw [stored_eq]
    split
    · subst_vars; rfl
    · rfl
theorem set_getD {α : Type} [Inhabited α] {l : List α} {i : Nat} (hi : i < l.length) (x : α) (j : Nat) : (l.set i x).getD j default = if j = i then x else l.getD j default := by
  simp only [List.getD_eq_getElem?_getD, List.getElem?_set]
  by_cases h : i = j
  · subst h; simp [hi]
  · have : ¬ j = i := fun e => h e.symm
    simp [h, this]
theorem enF_same {l : List En} {i : Nat} {y : En} (hi : i < l.length) (h : y = l.getD i default) (j : Nat) : enF (l.set i y) j = enF l j := by
  simp only [enF, set_getD hi]
  split
  · subst_vars; rfl
  · rfl
theorem grade_spec (l : List En) (i : Nat) (e : Ev) (hi : i < l.length) (hs : SmE (l.getD i default)) :
    SpecR Tryz.prog 77 [.any, .agg (evA e), .locE PB 7 i 0] [(PB, enR l)] (.int .i64 (gradeE e (l.getD i default)).1) [(PB, enR (l.set i (gradeE e (l.getD i default)).2))] := by
  have hs1 := hs.1
  refine specR ok77 fun C _ => ?_
  refine wpS_ent (ent_open PB 900 i 5 rfl hi (.inl rfl) rfl rfl rfl) ?_
  (repeat (first | refine wpS_seq ?_ | refine wpS_reg ?_ | refine run_step rfl (by ((repeat' (first | exact aN | refine aC ?_ ?_ | intro _)) <;> first | assumption | omega | (simp only [obS] at *; omega) | (intros; first | rfl | assumption | omega | simp_all; done))) ?_ | refine run_nil ?_ | refine wpS_block ?_ | refine wpS_skip ?_ | refine wpS_exit ?_))
  refine wpS_D (by kernel_rfl) ?_; (repeat (refine trg_step rfl (by ((repeat' (first | exact aN | refine aC ?_ ?_ | intro _)) <;> first | assumption | omega | (simp only [obS] at *; omega) | (intros; first | rfl | assumption | omega | simp_all; done))) ?_)); refine trg_nil ⟨rfl, ?_⟩
  refine wpS_cond rfl (by ((repeat' (first | exact aN | refine aC ?_ ?_ | intro _)) <;> first | assumption | omega | (simp only [obS] at *; omega) | (intros; first | rfl | assumption | omega | simp_all; done))) (fun h => ?_) (fun h => ?_)
  · rw [lastV (l.getD i default).grs (fun g => decide (e.ver ≤ g.ver))] at h
    have hg : gradeE e (l.getD i default) = (9, l.getD i default) := by unfold gradeE; rw [if_pos h]
    rw [hg]
    (repeat (first | refine wpS_seq ?_ | refine wpS_reg ?_ | refine run_step rfl (by ((repeat' (first | exact aN | refine aC ?_ ?_ | intro _)) <;> first | assumption | omega | (simp only [obS] at *; omega) | (intros; first | rfl | assumption | omega | simp_all; done))) ?_ | refine run_nil ?_ | refine wpS_block ?_ | refine wpS_skip ?_ | refine wpS_exit ?_))
    refine wpS_ent (ent_close PB 900 5 rfl rfl rfl) ?_
    (repeat (first | refine wpS_seq ?_ | refine wpS_reg ?_ | refine run_step rfl (by ((repeat' (first | exact aN | refine aC ?_ ?_ | intro _)) <;> first | assumption | omega | (simp only [obS] at *; omega) | (intros; first | rfl | assumption | omega | simp_all; done))) ?_ | refine run_nil ?_ | refine wpS_block ?_ | refine wpS_skip ?_ | refine wpS_exit ?_ | refine wpS_ret ?_))
    refine fin_mkR rfl ?_ ?_ <;> (repeat' (first | exact aN | refine aC ?_ ?_))
    · rfl
    · refine ⟨by rw [List.length_set], rfl, .inl rfl, fun j hj => ?_⟩
      rw [stored_eq, enF_same hi rfl]
      split
      · subst_vars; rfl
      · rfl
  rw [lastV (l.getD i default).grs (fun g => decide (e.ver ≤ g.ver))] at h
  (repeat (first | refine wpS_seq ?_ | refine wpS_reg ?_ | refine run_step rfl (by ((repeat' (first | exact aN | refine aC ?_ ?_ | intro _)) <;> first | assumption | omega | (simp only [obS] at *; omega) | (intros; first | rfl | assumption | omega | simp_all; done))) ?_ | refine run_nil ?_ | refine wpS_block ?_ | refine wpS_skip ?_ | refine wpS_exit ?_))
  refine wpS_cond rfl (by ((repeat' (first | exact aN | refine aC ?_ ?_ | intro _)) <;> first | assumption | omega | (simp only [obS] at *; omega) | (intros; first | rfl | assumption | omega | simp_all; done))) (fun h => ?_) (fun h => ?_)
  · rename_i h0
    have hn : 16 ≤ (l.getD i default).grs.length := by have : (16 : Int) ≤ (l.getD i default).grs.length := by simpa using h
                                                       omega
    have hg : gradeE e (l.getD i default) = (8, l.getD i default) := by unfold gradeE; rw [if_neg (by rw [h0]; simp), if_pos hn]
    rw [hg]
    (repeat (first | refine wpS_seq ?_ | refine wpS_reg ?_ | refine run_step rfl (by ((repeat' (first | exact aN | refine aC ?_ ?_ | intro _)) <;> first | assumption | omega | (simp only [obS] at *; omega) | (intros; first | rfl | assumption | omega | simp_all; done))) ?_ | refine run_nil ?_ | refine wpS_block ?_ | refine wpS_skip ?_ | refine wpS_exit ?_))
    refine wpS_ent (ent_close PB 900 5 rfl rfl rfl) ?_
    (repeat (first | refine wpS_seq ?_ | refine wpS_reg ?_ | refine run_step rfl (by ((repeat' (first | exact aN | refine aC ?_ ?_ | intro _)) <;> first | assumption | omega | (simp only [obS] at *; omega) | (intros; first | rfl | assumption | omega | simp_all; done))) ?_ | refine run_nil ?_ | refine wpS_block ?_ | refine wpS_skip ?_ | refine wpS_exit ?_ | refine wpS_ret ?_))
    refine fin_mkR rfl ?_ ?_ <;> (repeat' (first | exact aN | refine aC ?_ ?_))
    · rfl
    · refine ⟨by rw [List.length_set], rfl, .inl rfl, fun j hj => ?_⟩
      rw [stored_eq, enF_same hi rfl]
      split
      · subst_vars; rfl
      · rfl
  rename_i h0
  have hn : ¬ 16 ≤ (l.getD i default).grs.length := by
    intro hh
    have : (16 : Int) ≤ (l.getD i default).grs.length := by omega
    simp only [this, decide_true] at h
    cases h
  have hg : gradeE e (l.getD i default) = (0, { l.getD i default with grs := (l.getD i default).grs ++ [⟨e.ver, e.hun, e.tick, e.text⟩] }) := by unfold gradeE; rw [if_neg (by rw [h0]; simp), if_neg hn]
  rw [hg]
  clear h h0
  (repeat (first | refine wpS_seq ?_ | refine wpS_reg ?_ | refine run_step rfl (by ((repeat' (first | exact aN | refine aC ?_ ?_ | intro _)) <;> first | assumption | omega | (simp only [obS] at *; omega) | (intros; first | rfl | assumption | omega | simp_all; done))) ?_ | refine run_nil ?_ | refine wpS_block ?_ | refine wpS_skip ?_ | refine wpS_exit ?_))
  refine wpS_D (by kernel_rfl) ?_; (repeat (refine trg_step rfl (by ((repeat' (first | exact aN | refine aC ?_ ?_ | intro _)) <;> first | assumption | omega | (simp only [obS] at *; omega) | (intros; first | rfl | assumption | omega | simp_all; done))) ?_)); refine trg_nil ⟨rfl, ?_⟩
  (repeat (first | refine wpS_seq ?_ | refine wpS_reg ?_ | refine run_step rfl (by ((repeat' (first | exact aN | refine aC ?_ ?_ | intro _)) <;> first | assumption | omega | (simp only [obS] at *; omega) | (intros; first | rfl | assumption | omega | simp_all; done))) ?_ | refine run_nil ?_ | refine wpS_block ?_ | refine wpS_skip ?_ | refine wpS_exit ?_))
  refine wpS_ent (ent_row 48 ((l.getD i default).grs ++ [(⟨e.ver, e.hun, e.tick, e.text⟩ : Gr)]).length (grF ((l.getD i default).grs ++ [(⟨e.ver, e.hun, e.tick, e.text⟩ : Gr)])) rfl (by simp) (app1 grA _ _ _ rfl)) ?_
  refine wpS_ent (ent_close PB 48 5 rfl rfl rfl) ?_
  (repeat (first | refine wpS_seq ?_ | refine wpS_reg ?_ | refine run_step rfl (by ((repeat' (first | exact aN | refine aC ?_ ?_ | intro _)) <;> first | assumption | omega | (simp only [obS] at *; omega) | (intros; first | rfl | assumption | omega | simp_all; done))) ?_ | refine run_nil ?_ | refine wpS_block ?_ | refine wpS_skip ?_ | refine wpS_exit ?_ | refine wpS_ret ?_))
  refine fin_mkR rfl ?_ ?_ <;> (repeat' (first | exact aN | refine aC ?_ ?_))
  · rfl
  · refine ⟨by rw [List.length_set], rfl, .inl rfl, fun j hj => ?_⟩
    rw [stored_eq]
    simp only [enF, set_getD hi]
    split
    · subst_vars; rfl
    · rfl
end Go.Proofs
end
/- part BkH -/
section
namespace Go.Proofs
open Go.Av Go.Pu
theorem appeal_spec (l : List En) (i : Nat) (e : Ev) (hi : i < l.length) (hs : SmE (l.getD i default)) :
    SpecR Tryz.prog 78 [.any, .agg (evA e), .locE PB 7 i 0] [(PB, enR l)] (.int .i64 (appealE e (l.getD i default)).1) [(PB, enR (l.set i (appealE e (l.getD i default)).2))] := by
  have hs1 := hs.2
  have same : ∀ j, j < l.length → Go.Av.stored i 5 [.own 42 4 (l.getD i default).grs.length (grF (l.getD i default).grs)] (enF l) j = enF l j := fun j _ => by
    rw [stored_eq]
    split
    · subst_vars; rfl
    · rfl
  have same6 : ∀ j, j < l.length → Go.Av.stored i 6 [.own 44 6 (l.getD i default).aps.length (apF (l.getD i default).aps)] (enF l) j = enF l j := fun j _ => by
    rw [stored_eq]
    split
    · subst_vars; rfl
    · rfl
  refine specR ok78 fun C _ => ?_
  refine wpS_ent (ent_open PB 901 i 5 rfl hi (.inl rfl) rfl rfl rfl) ?_
  (repeat (first | refine wpS_seq ?_ | refine wpS_reg ?_ | refine run_step rfl (by ((repeat' (first | exact aN | refine aC ?_ ?_ | intro _)) <;> first | assumption | omega | (simp only [obS] at *; omega) | (intros; first | rfl | assumption | omega | simp_all; done))) ?_ | refine run_nil ?_ | refine wpS_block ?_ | refine wpS_skip ?_ | refine wpS_exit ?_))
  refine run_ent (ent_close PB 901 5 rfl rfl rfl) ?_
  refine run_ent (ent_rows PB l.length (enF l) rfl rfl same) ?_
  generalize hb0 : ((↑(l.getD i default).grs.length : Int) == 0) = b0
  cases b0
  · refine run_ent (ent_und 15 rfl) ?_
    refine run_cRg id [PB] rfl (open_spec l i hi hs) rfl rfl ⟨rfl, trivial⟩ rfl ?_
    (repeat (first | refine wpS_seq ?_ | refine wpS_reg ?_ | refine run_step rfl (by ((repeat' (first | exact aN | refine aC ?_ ?_ | intro _)) <;> first | assumption | omega | (simp only [obS] at *; omega) | (intros; first | rfl | assumption | omega | simp_all; done))) ?_ | refine run_nil ?_ | refine wpS_block ?_ | refine wpS_skip ?_ | refine wpS_exit ?_))
    refine wpS_cond rfl (by ((repeat' (first | exact aN | refine aC ?_ ?_ | intro _)) <;> first | assumption | omega | (simp only [obS] at *; omega) | (intros; first | rfl | assumption | omega | simp_all; done))) (fun h => ?_) (fun h => ?_)
    · have hg : appealE e (l.getD i default) = (9, l.getD i default) := by
        unfold appealE
        rw [if_pos (by rw [show openE (l.getD i default) = true from h]; simp)]
      rw [hg]
      (repeat (first | refine wpS_seq ?_ | refine wpS_reg ?_ | refine run_step rfl (by ((repeat' (first | exact aN | refine aC ?_ ?_ | intro _)) <;> first | assumption | omega | (simp only [obS] at *; omega) | (intros; first | rfl | assumption | omega | simp_all; done))) ?_ | refine run_nil ?_ | refine wpS_block ?_ | refine wpS_skip ?_ | refine wpS_exit ?_ | refine wpS_ret ?_))
      refine fin_mkR rfl ?_ ?_ <;> (repeat' (first | exact aN | refine aC ?_ ?_))
      · rfl
      · exact ⟨by rw [List.length_set], rfl, .inl rfl, fun j hj => by rw [enF_same hi rfl]⟩
    have hc : ¬ ((l.getD i default).grs = [] || openE (l.getD i default)) = true := by
      rw [show openE (l.getD i default) = false from h]
      intro hh
      simp only [Bool.or_false, decide_eq_true_eq] at hh
      rw [hh] at hb0
      cases hb0
    refine wpS_ent (ent_open PB 902 i 6 rfl hi (.inl rfl) rfl rfl rfl) ?_
    (repeat (first | refine wpS_seq ?_ | refine wpS_reg ?_ | refine run_step rfl (by ((repeat' (first | exact aN | refine aC ?_ ?_ | intro _)) <;> first | assumption | omega | (simp only [obS] at *; omega) | (intros; first | rfl | assumption | omega | simp_all; done))) ?_ | refine run_nil ?_ | refine wpS_block ?_ | refine wpS_skip ?_ | refine wpS_exit ?_))
    refine wpS_cond rfl (by ((repeat' (first | exact aN | refine aC ?_ ?_ | intro _)) <;> first | assumption | omega | (simp only [obS] at *; omega) | (intros; first | rfl | assumption | omega | simp_all; done))) (fun h => ?_) (fun h => ?_)
    · have hn : 16 ≤ (l.getD i default).aps.length := by
        have : (16 : Int) ≤ (l.getD i default).aps.length := by simpa using h
        omega
      have hg : appealE e (l.getD i default) = (8, l.getD i default) := by unfold appealE; rw [if_neg hc, if_pos hn]
      rw [hg]
      (repeat (first | refine wpS_seq ?_ | refine wpS_reg ?_ | refine run_step rfl (by ((repeat' (first | exact aN | refine aC ?_ ?_ | intro _)) <;> first | assumption | omega | (simp only [obS] at *; omega) | (intros; first | rfl | assumption | omega | simp_all; done))) ?_ | refine run_nil ?_ | refine wpS_block ?_ | refine wpS_skip ?_ | refine wpS_exit ?_))
      refine wpS_ent (ent_close PB 902 6 rfl rfl rfl) ?_
      (repeat (first | refine wpS_seq ?_ | refine wpS_reg ?_ | refine run_step rfl (by ((repeat' (first | exact aN | refine aC ?_ ?_ | intro _)) <;> first | assumption | omega | (simp only [obS] at *; omega) | (intros; first | rfl | assumption | omega | simp_all; done))) ?_ | refine run_nil ?_ | refine wpS_block ?_ | refine wpS_skip ?_ | refine wpS_exit ?_ | refine wpS_ret ?_))
      refine fin_mkR rfl ?_ ?_ <;> (repeat' (first | exact aN | refine aC ?_ ?_))
      · rfl
      · exact ⟨by rw [List.length_set], rfl, .inl rfl, fun j hj => by rw [enF_same hi rfl]; exact same6 j hj⟩
    have hn : ¬ 16 ≤ (l.getD i default).aps.length := by
      intro hh
      have : (16 : Int) ≤ (l.getD i default).aps.length := by omega
      simp only [this, decide_true] at h
      cases h
    have hg : appealE e (l.getD i default) = (0, { l.getD i default with aps := (l.getD i default).aps ++ [⟨e.tick, e.text, false, false, 0, []⟩] }) := by unfold appealE; rw [if_neg hc, if_neg hn]
    rw [hg]
    (repeat (first | refine wpS_seq ?_ | refine wpS_reg ?_ | refine run_step rfl (by ((repeat' (first | exact aN | refine aC ?_ ?_ | intro _)) <;> first | assumption | omega | (simp only [obS] at *; omega) | (intros; first | rfl | assumption | omega | simp_all; done))) ?_ | refine run_nil ?_ | refine wpS_block ?_ | refine wpS_skip ?_ | refine wpS_exit ?_))
    refine wpS_D (by kernel_rfl) ?_; (repeat (refine trg_step rfl (by ((repeat' (first | exact aN | refine aC ?_ ?_ | intro _)) <;> first | assumption | omega | (simp only [obS] at *; omega) | (intros; first | rfl | assumption | omega | simp_all; done))) ?_)); refine trg_nil ⟨rfl, ?_⟩
    (repeat (first | refine wpS_seq ?_ | refine wpS_reg ?_ | refine run_step rfl (by ((repeat' (first | exact aN | refine aC ?_ ?_ | intro _)) <;> first | assumption | omega | (simp only [obS] at *; omega) | (intros; first | rfl | assumption | omega | simp_all; done))) ?_ | refine run_nil ?_ | refine wpS_block ?_ | refine wpS_skip ?_ | refine wpS_exit ?_))
    refine wpS_ent (ent_row 36 ((l.getD i default).aps ++ [(⟨e.tick, e.text, false, false, 0, []⟩ : Ap)]).length (apF ((l.getD i default).aps ++ [(⟨e.tick, e.text, false, false, 0, []⟩ : Ap)])) rfl (by simp) (app1 apA _ _ _ rfl)) ?_
    refine wpS_ent (ent_close PB 36 6 rfl rfl rfl) ?_
    (repeat (first | refine wpS_seq ?_ | refine wpS_reg ?_ | refine run_step rfl (by ((repeat' (first | exact aN | refine aC ?_ ?_ | intro _)) <;> first | assumption | omega | (simp only [obS] at *; omega) | (intros; first | rfl | assumption | omega | simp_all; done))) ?_ | refine run_nil ?_ | refine wpS_block ?_ | refine wpS_skip ?_ | refine wpS_exit ?_ | refine wpS_ret ?_))
    refine fin_mkR rfl ?_ ?_ <;> (repeat' (first | exact aN | refine aC ?_ ?_))
    · rfl
    · refine ⟨by rw [List.length_set], rfl, .inl rfl, fun j hj => ?_⟩
      rw [stored_eq]
      simp only [enF, set_getD hi]
      split
      · subst_vars; rfl
      · rfl
  · refine run_skipC (.bool false) rfl ?_
    have hg : appealE e (l.getD i default) = (9, l.getD i default) := by
      have hh : (l.getD i default).grs = [] := by
        have : ((l.getD i default).grs.length : Int) = 0 := by simpa using hb0
        exact List.eq_nil_of_length_eq_zero (by omega)
      unfold appealE
      rw [if_pos (by simp only [hh, decide_true, Bool.true_or])]
    rw [hg]
    (repeat (first | refine wpS_seq ?_ | refine wpS_reg ?_ | refine run_step rfl (by ((repeat' (first | exact aN | refine aC ?_ ?_ | intro _)) <;> first | assumption | omega | (simp only [obS] at *; omega) | (intros; first | rfl | assumption | omega | simp_all; done))) ?_ | refine run_nil ?_ | refine wpS_block ?_ | refine wpS_skip ?_ | refine wpS_exit ?_))
    refine wpS_condT rfl (by ((repeat' (first | exact aN | refine aC ?_ ?_ | intro _)) <;> first | assumption | omega | (simp only [obS] at *; omega) | (intros; first | rfl | assumption | omega | simp_all; done))) ?_
    (repeat (first | refine wpS_seq ?_ | refine wpS_reg ?_ | refine run_step rfl (by ((repeat' (first | exact aN | refine aC ?_ ?_ | intro _)) <;> first | assumption | omega | (simp only [obS] at *; omega) | (intros; first | rfl | assumption | omega | simp_all; done))) ?_ | refine run_nil ?_ | refine wpS_block ?_ | refine wpS_skip ?_ | refine wpS_exit ?_ | refine wpS_ret ?_))
    refine fin_mkR rfl ?_ ?_ <;> (repeat' (first | exact aN | refine aC ?_ ?_))
    · rfl
    · exact ⟨by rw [List.length_set], rfl, .inl rfl, fun j hj => by rw [enF_same hi rfl]⟩
theorem decide_spec (l : List En) (i : Nat) (e : Ev) (hi : i < l.length) (hs : SmE (l.getD i default)) :
    SpecR Tryz.prog 79 [.any, .agg (evA e), .locE PB 7 i 0] [(PB, enR l)] (.int .i64 (decideE e (l.getD i default)).1) [(PB, enR (l.set i (decideE e (l.getD i default)).2))] := by
  have hs1 := hs.2
  refine specR ok79 fun C _ => ?_
  (repeat (first | refine wpS_seq ?_ | refine wpS_reg ?_ | refine run_step rfl (by ((repeat' (first | exact aN | refine aC ?_ ?_ | intro _)) <;> first | assumption | omega | (simp only [obS] at *; omega) | (intros; first | rfl | assumption | omega | simp_all; done))) ?_ | refine run_nil ?_ | refine wpS_block ?_ | refine wpS_skip ?_ | refine wpS_exit ?_))
  refine run_cR id [PB] (open_spec l i hi hs) rfl rfl ⟨rfl, trivial⟩ rfl ?_
  (repeat (first | refine wpS_seq ?_ | refine wpS_reg ?_ | refine run_step rfl (by ((repeat' (first | exact aN | refine aC ?_ ?_ | intro _)) <;> first | assumption | omega | (simp only [obS] at *; omega) | (intros; first | rfl | assumption | omega | simp_all; done))) ?_ | refine run_nil ?_ | refine wpS_block ?_ | refine wpS_skip ?_ | refine wpS_exit ?_))
  generalize ho : openE (l.getD i default) = b0
  cases b0
  · refine wpS_condT rfl (by ((repeat' (first | exact aN | refine aC ?_ ?_ | intro _)) <;> first | assumption | omega | (simp only [obS] at *; omega) | (intros; first | rfl | assumption | omega | simp_all; done))) ?_
    have hg : decideE e (l.getD i default) = (9, l.getD i default) := by
      unfold decideE
      rw [if_neg (by rw [ho]; simp)]
    rw [hg]
    (repeat (first | refine wpS_seq ?_ | refine wpS_reg ?_ | refine run_step rfl (by ((repeat' (first | exact aN | refine aC ?_ ?_ | intro _)) <;> first | assumption | omega | (simp only [obS] at *; omega) | (intros; first | rfl | assumption | omega | simp_all; done))) ?_ | refine run_nil ?_ | refine wpS_block ?_ | refine wpS_skip ?_ | refine wpS_exit ?_ | refine wpS_ret ?_))
    refine fin_mkR rfl ?_ ?_ <;> (repeat' (first | exact aN | refine aC ?_ ?_))
    · rfl
    · exact ⟨by rw [List.length_set], rfl, .inl rfl, fun j hj => by rw [enF_same hi rfl]⟩
  refine wpS_condF rfl (by ((repeat' (first | exact aN | refine aC ?_ ?_ | intro _)) <;> first | assumption | omega | (simp only [obS] at *; omega) | (intros; first | rfl | assumption | omega | simp_all; done))) ?_
  have hpos : 0 < (l.getD i default).aps.length := by
    by_cases h : 0 < (l.getD i default).aps.length
    · exact h
    · have : (l.getD i default).aps = [] := List.eq_nil_of_length_eq_zero (by omega)
      unfold openE at ho
      rw [this] at ho
      cases ho
  refine wpS_ent (ent_open PB 902 i 6 rfl hi (.inl rfl) rfl rfl rfl) ?_
  (repeat (first | refine wpS_seq ?_ | refine wpS_reg ?_ | refine run_step rfl (by ((repeat' (first | exact aN | refine aC ?_ ?_ | intro _)) <;> first | assumption | omega | (simp only [obS] at *; omega) | (intros; first | rfl | assumption | omega | simp_all; done))) ?_ | refine run_nil ?_ | refine wpS_block ?_ | refine wpS_skip ?_ | refine wpS_exit ?_))
  refine wpS_D (by kernel_rfl) ?_; (repeat (refine trg_step rfl (by ((repeat' (first | exact aN | refine aC ?_ ?_ | intro _)) <;> first | assumption | omega | (simp only [obS] at *; omega) | (intros; first | rfl | assumption | omega | simp_all; done))) ?_)); refine trg_nil ⟨rfl, ?_⟩
  (repeat (first | refine wpS_seq ?_ | refine wpS_reg ?_ | refine run_step rfl (by ((repeat' (first | exact aN | refine aC ?_ ?_ | intro _)) <;> first | assumption | omega | (simp only [obS] at *; omega) | (intros; first | rfl | assumption | omega | simp_all; done))) ?_ | refine run_nil ?_ | refine wpS_block ?_ | refine wpS_skip ?_ | refine wpS_exit ?_))
  refine wpS_D (by kernel_rfl) ?_; (repeat (refine trg_step rfl (by ((repeat' (first | exact aN | refine aC ?_ ?_ | intro _)) <;> first | assumption | omega | (simp only [obS] at *; omega) | (intros; first | rfl | assumption | omega | simp_all; done))) ?_)); refine trg_nil ⟨rfl, ?_⟩
  have hk : (((l.getD i default).aps.length : Int) - 1).toNat = (l.getD i default).aps.length - 1 := by omega
  have hg : decideE e (l.getD i default) = (0, { l.getD i default with aps := (l.getD i default).aps.set ((l.getD i default).aps.length - 1) (decideA e ((l.getD i default).aps.getD ((l.getD i default).aps.length - 1) default)) }) := by
    unfold decideE
    rw [if_pos ho]
  rw [hg]
  (repeat (first | refine wpS_seq ?_ | refine wpS_reg ?_ | refine run_step rfl (by ((repeat' (first | exact aN | refine aC ?_ ?_ | intro _)) <;> first | assumption | omega | (simp only [obS] at *; omega) | (intros; first | rfl | assumption | omega | simp_all; done))) ?_ | refine run_nil ?_ | refine wpS_block ?_ | refine wpS_skip ?_ | refine wpS_exit ?_))
  refine wpS_ent (ent_row 902 ((l.getD i default).aps.set ((l.getD i default).aps.length - 1) (decideA e ((l.getD i default).aps.getD ((l.getD i default).aps.length - 1) default))).length (apF ((l.getD i default).aps.set ((l.getD i default).aps.length - 1) (decideA e ((l.getD i default).aps.getD ((l.getD i default).aps.length - 1) default)))) rfl (by simp) (fun j hj => ?_)) ?_
  · rw [hk]
    simp only [stored_eq, apF, set_getD (show (l.getD i default).aps.length - 1 < (l.getD i default).aps.length by omega)]
    split
    · subst_vars; rfl
    · rfl
  refine wpS_ent (ent_close PB 902 6 rfl rfl rfl) ?_
  (repeat (first | refine wpS_seq ?_ | refine wpS_reg ?_ | refine run_step rfl (by ((repeat' (first | exact aN | refine aC ?_ ?_ | intro _)) <;> first | assumption | omega | (simp only [obS] at *; omega) | (intros; first | rfl | assumption | omega | simp_all; done))) ?_ | refine run_nil ?_ | refine wpS_block ?_ | refine wpS_skip ?_ | refine wpS_exit ?_ | refine wpS_ret ?_))
  refine fin_mkR rfl ?_ ?_ <;> (repeat' (first | exact aN | refine aC ?_ ?_))
  · rfl
  · refine ⟨by rw [List.length_set], rfl, .inl rfl, fun j hj => ?_⟩
    rw [stored_eq]
    simp only [enF, set_getD hi]
    split
    · subst_vars; rfl
    · rfl
end Go.Proofs
end
/- part BkI -/
section
namespace Go.Proofs
open Go.Av Go.Pu
@[reducible] def QN : Nat := 900000
theorem countP_take_succ {α : Type} {p : α → Bool} {l : List α} {k : Nat} (h : k < l.length) : (l.take (k + 1)).countP p = (l.take k).countP p + if p l[k] then 1 else 0 := by
  rw [List.take_succ_eq_append_getElem h, List.countP_append, List.countP_singleton]
def subP (k : K) (y : En) : Bool := y.key.stu == k.stu && y.key.ex == k.ex
def submitE (l : List En) (e : Ev) : Int × List En :=
  if e.key.att ≠ countK l e.key + 1 then (9, l) else if 256 ≤ l.length then (8, l) else (0, l ++ [⟨e.key, e.tick, e.text, [], []⟩])
theorem submit_spec (l : List En) (t : Int) (e : Ev) (hl : l.length ≤ 1000000) :
    SpecR Tryz.prog 76 [.loc PB 0, .agg (evA e), .any] [(PB, .blk 76 [.int .i64 t, .ref QN]), (QN, enR l)] (.int .i64 (submitE l e).1) [(PB, .blk 76 [.int .i64 t, .ref QN]), (QN, enR (submitE l e).2)] := by
  refine specR ok76 fun C _ => ?_
  (repeat (first | refine wpS_seq ?_ | refine wpS_reg ?_ | refine run_step rfl (by ((repeat' (first | exact aN | refine aC ?_ ?_ | intro _)) <;> first | assumption | omega | (simp only [obS] at *; omega) | (intros; first | rfl | assumption | omega | simp_all; done))) ?_ | refine run_nil ?_ | refine wpS_block ?_ | refine wpS_skip ?_ | refine wpS_exit ?_ | refine wpS_ret ?_))
  refine wpS_loop (fun k => k ≤ l.length) (fun k => ⟨[(0, .loc PB 0), (4, .loc 4 0), (14, .ref QN), (15, .int .i64 (l.length : Nat)), (16, .int .i64 (k : Nat)), (7, .int .i64 ((l.take k).countP (subP e.key) : Nat))], [(PB, .blk 76 [.int .i64 t, .ref QN]), (QN, enR l), (4, .blk 26 (evA e))]⟩) (fun k => l.length - k) 0 (by omega) (by refine ent_le ?_; (repeat' (first | exact aN | refine aC ?_ ?_)) <;> simp) ?_
  rintro k hk
  (repeat (first | refine wpS_seq ?_ | refine wpS_reg ?_ | refine run_step rfl (by ((repeat' (first | exact aN | refine aC ?_ ?_ | intro _)) <;> first | assumption | omega | (simp only [obS] at *; omega) | (intros; first | rfl | assumption | omega | simp_all; done))) ?_ | refine run_nil ?_ | refine wpS_block ?_ | refine wpS_skip ?_ | refine wpS_exit ?_ | refine wpS_ret ?_))
  refine wpS_cond rfl (by ((repeat' (first | exact aN | refine aC ?_ ?_ | intro _)) <;> first | assumption | omega | (simp only [obS] at *; omega) | (intros; first | rfl | assumption | omega | simp_all; done))) (fun h => ?_) (fun h => ?_)
  · have hlt : k < l.length := by simpa using h
    have hcnt : (l.take k).countP (subP e.key) ≤ l.length := Nat.le_trans List.countP_le_length (by rw [List.length_take]; omega)
    (repeat (first | refine wpS_seq ?_ | refine wpS_reg ?_ | refine run_step rfl (by ((repeat' (first | exact aN | refine aC ?_ ?_ | intro _)) <;> first | assumption | omega | (simp only [obS] at *; omega) | (intros; first | rfl | assumption | omega | simp_all; done))) ?_ | refine run_nil ?_ | refine wpS_block ?_ | refine wpS_skip ?_ | refine wpS_exit ?_ | refine wpS_ret ?_))
    have hp : ∀ v, (bif (l.getD (↑k : Int).toNat default).key.stu == e.key.stu then (l.getD (↑k : Int).toNat default).key.ex == e.key.ex else false) = v → subP e.key l[k] = v := by
      intro v hv
      rw [bif_and, Int.toNat_natCast, getD_lt hlt] at hv
      exact hv
    refine wpS_cond rfl (by ((repeat' (first | exact aN | refine aC ?_ ?_ | intro _)) <;> first | assumption | omega | (simp only [obS] at *; omega) | (intros; first | rfl | assumption | omega | simp_all; done))) (fun h => ?_) (fun h => ?_)
    · (repeat (first | refine wpS_seq ?_ | refine wpS_reg ?_ | refine run_step rfl (by ((repeat' (first | exact aN | refine aC ?_ ?_ | intro _)) <;> first | assumption | omega | (simp only [obS] at *; omega) | (intros; first | rfl | assumption | omega | simp_all; done))) ?_ | refine run_nil ?_ | refine wpS_block ?_ | refine wpS_skip ?_ | refine wpS_exit ?_ | refine wpS_ret ?_))
      refine ⟨k + 1, by omega, by dsimp only; omega, ?_⟩
      have hc1 : (l.take (k + 1)).countP (subP e.key) = (l.take k).countP (subP e.key) + 1 := by rw [countP_take_succ hlt, if_pos (hp _ h)]
      refine ent_le ?_; (repeat' (first | exact aN | refine aC ?_ ?_)) <;> first | rfl | omega | exact ⟨rfl, rfl, .inl rfl, fun _ _ => rfl⟩
    · (repeat (first | refine wpS_seq ?_ | refine wpS_reg ?_ | refine run_step rfl (by ((repeat' (first | exact aN | refine aC ?_ ?_ | intro _)) <;> first | assumption | omega | (simp only [obS] at *; omega) | (intros; first | rfl | assumption | omega | simp_all; done))) ?_ | refine run_nil ?_ | refine wpS_block ?_ | refine wpS_skip ?_ | refine wpS_exit ?_ | refine wpS_ret ?_))
      refine ⟨k + 1, by omega, by dsimp only; omega, ?_⟩
      have hc1 : (l.take (k + 1)).countP (subP e.key) = (l.take k).countP (subP e.key) := by rw [countP_take_succ hlt, if_neg (by rw [hp _ h]; simp)]; rfl
      refine ent_le ?_; (repeat' (first | exact aN | refine aC ?_ ?_)) <;> first | rfl | omega | exact ⟨rfl, rfl, .inl rfl, fun _ _ => rfl⟩
  · have hlt : k = l.length := by simp at h; omega
    subst hlt
    have hcnt : (l.take l.length).countP (subP e.key) = countK l e.key := by rw [List.take_length]; rfl
    have hcl : countK l e.key ≤ l.length := List.countP_le_length
    rw [hcnt]
    clear h
    (repeat (first | refine wpS_seq ?_ | refine wpS_reg ?_ | refine run_step rfl (by ((repeat' (first | exact aN | refine aC ?_ ?_ | intro _)) <;> first | assumption | omega | (simp only [obS] at *; omega) | (intros; first | rfl | assumption | omega | simp_all; done))) ?_ | refine run_nil ?_ | refine wpS_block ?_ | refine wpS_skip ?_ | refine wpS_exit ?_ | refine wpS_ret ?_))
    refine wpS_cond rfl (by ((repeat' (first | exact aN | refine aC ?_ ?_ | intro _)) <;> first | assumption | omega | (simp only [obS] at *; omega) | (intros; first | rfl | assumption | omega | simp_all; done))) (fun h => ?_) (fun h => ?_)
    · have h1 : e.key.att ≠ countK l e.key + 1 := by simpa using h
      have hg : submitE l e = (9, l) := by unfold submitE; rw [if_pos h1]
      rw [hg]
      (repeat (first | refine wpS_seq ?_ | refine wpS_reg ?_ | refine run_step rfl (by ((repeat' (first | exact aN | refine aC ?_ ?_ | intro _)) <;> first | assumption | omega | (simp only [obS] at *; omega) | (intros; first | rfl | assumption | omega | simp_all; done))) ?_ | refine run_nil ?_ | refine wpS_block ?_ | refine wpS_skip ?_ | refine wpS_exit ?_ | refine wpS_ret ?_))
      refine fin_mkR rfl ?_ ?_ <;> (repeat' (first | exact aN | refine aC ?_ ?_))
      all_goals first | rfl | exact ⟨rfl, rfl, .inl rfl, fun _ _ => rfl⟩
    have h1 : ¬ e.key.att ≠ countK l e.key + 1 := by simpa using h
    (repeat (first | refine wpS_seq ?_ | refine wpS_reg ?_ | refine run_step rfl (by ((repeat' (first | exact aN | refine aC ?_ ?_ | intro _)) <;> first | assumption | omega | (simp only [obS] at *; omega) | (intros; first | rfl | assumption | omega | simp_all; done))) ?_ | refine run_nil ?_ | refine wpS_block ?_ | refine wpS_skip ?_ | refine wpS_exit ?_ | refine wpS_ret ?_))
    refine wpS_cond rfl (by ((repeat' (first | exact aN | refine aC ?_ ?_ | intro _)) <;> first | assumption | omega | (simp only [obS] at *; omega) | (intros; first | rfl | assumption | omega | simp_all; done))) (fun h => ?_) (fun h => ?_)
    · have h2 : 256 ≤ l.length := by have : (256 : Int) ≤ l.length := by simpa using h
                                     omega
      have hg : submitE l e = (8, l) := by unfold submitE; rw [if_neg h1, if_pos h2]
      rw [hg]
      (repeat (first | refine wpS_seq ?_ | refine wpS_reg ?_ | refine run_step rfl (by ((repeat' (first | exact aN | refine aC ?_ ?_ | intro _)) <;> first | assumption | omega | (simp only [obS] at *; omega) | (intros; first | rfl | assumption | omega | simp_all; done))) ?_ | refine run_nil ?_ | refine wpS_block ?_ | refine wpS_skip ?_ | refine wpS_exit ?_ | refine wpS_ret ?_))
      refine fin_mkR rfl ?_ ?_ <;> (repeat' (first | exact aN | refine aC ?_ ?_))
      all_goals first | rfl | exact ⟨rfl, rfl, .inl rfl, fun _ _ => rfl⟩
    have h2 : ¬ 256 ≤ l.length := by
      intro hh
      have : (256 : Int) ≤ l.length := by omega
      simp only [this, decide_true] at h
      cases h
    have hg : submitE l e = (0, l ++ [⟨e.key, e.tick, e.text, [], []⟩]) := by unfold submitE; rw [if_neg h1, if_neg h2]
    rw [hg]
    (repeat (first | refine wpS_seq ?_ | refine wpS_reg ?_ | refine run_step rfl (by ((repeat' (first | exact aN | refine aC ?_ ?_ | intro _)) <;> first | assumption | omega | (simp only [obS] at *; omega) | (intros; first | rfl | assumption | omega | simp_all; done))) ?_ | refine run_nil ?_ | refine wpS_block ?_ | refine wpS_skip ?_ | refine wpS_exit ?_ | refine wpS_ret ?_))
    refine wpS_D (by kernel_rfl) ?_; (repeat (refine trg_step rfl (by ((repeat' (first | exact aN | refine aC ?_ ?_ | intro _)) <;> first | assumption | omega | (simp only [obS] at *; omega) | (intros; first | rfl | assumption | omega | simp_all; done))) ?_)); refine trg_nil ⟨rfl, ?_⟩
    (repeat (first | refine wpS_seq ?_ | refine wpS_reg ?_ | refine run_step rfl (by ((repeat' (first | exact aN | refine aC ?_ ?_ | intro _)) <;> first | assumption | omega | (simp only [obS] at *; omega) | (intros; first | rfl | assumption | omega | simp_all; done))) ?_ | refine run_nil ?_ | refine wpS_block ?_ | refine wpS_skip ?_ | refine wpS_exit ?_))
    refine wpS_ent (ent_own 68 (l ++ [(⟨e.key, e.tick, e.text, [], []⟩ : En)]).length (enF (l ++ [(⟨e.key, e.tick, e.text, [], []⟩ : En)])) rfl (by simp) (fun j hj => ?_)) ?_
    · rw [joined_eq]
      simp only [enF, getD_app]
      split
      · exact .inl rfl
      · rw [show j - l.length = 0 by omega]
        exact .inr ⟨.inl rfl, .inl rfl, .inl rfl, .inl rfl, .inl rfl, .inr ⟨.inl rfl, _, _, _, rfl⟩, .inr ⟨.inl rfl, _, _, _, rfl⟩, trivial⟩
    refine wpS_ent (ent_keep [6] [PB, 68]) ?_
    refine wpS_ent (ent_ren 68 QN rfl) ?_
    (repeat (first | refine wpS_seq ?_ | refine wpS_reg ?_ | refine run_step rfl (by ((repeat' (first | exact aN | refine aC ?_ ?_ | intro _)) <;> first | assumption | omega | (simp only [obS] at *; omega) | (intros; first | rfl | assumption | omega | simp_all; done))) ?_ | refine run_nil ?_ | refine wpS_block ?_ | refine wpS_skip ?_ | refine wpS_exit ?_ | refine wpS_ret ?_))
    refine fin_mkR rfl ?_ ?_ <;> (repeat' (first | exact aN | refine aC ?_ ?_))
    all_goals first | rfl | exact ⟨rfl, rfl, .inl rfl, fun _ _ => rfl⟩
end Go.Proofs
end
/- part BkS -/
section
namespace Go.Proofs
open Go.Av Go.Pu
theorem cmpI_neg (x y : Int) : decide (cmpI x y < 0) = decide (x < y) := by
  unfold cmpI
  by_cases h : x < y
  · simp [h]
  · by_cases h2 : y < x
    · simp [h, h2]
    · simp [h, h2]
theorem evswap_spec (c : Nat → Ev) (n a b m : Nat) (h1 : a + m ≤ b) (h2 : b + m ≤ n) (hn : n ≤ maxL) : SpecR Tryz.prog 181 [.ref PB, .int .i64 (a : Nat), .int .i64 (b : Nat), .int .i64 (m : Nat), .fn 85 []] [(PB, .row 26 9 n fun t => evA (c t))] (.tup []) [(PB, .row 26 9 n fun t => evA (swapC c a b m t))] := by
  rw [maxL_eq] at hn
  refine specR ok181 fun C _ => ?_
  (repeat (first | refine wpS_seq ?_ | refine wpS_reg ?_ | refine run_step rfl (by ((repeat' (first | exact aN | refine aC ?_ ?_ | intro _)) <;> first | assumption | omega | (simp only [obS] at *; omega) | (intros; first | rfl | assumption | omega | simp_all; done))) ?_ | refine run_nil ?_ | refine wpS_block ?_ | refine wpS_skip ?_ | refine wpS_exit ?_ | refine wpS_ret ?_))
  refine wpS_loop (fun i => i ≤ m) (fun i => ⟨[(0, .ref PB), (1, .int .i64 (a : Nat)), (2, .int .i64 (b : Nat)), (3, .int .i64 (m : Nat)), (10, .int .i64 (i : Nat))], [(PB, .row 26 9 n fun t => evA (swapC c a b i t))]⟩) (fun i => m - i) 0 (by omega) (by refine ent_le ?_; (repeat' (first | exact aN | refine aC ?_ ?_)) <;> first | rfl | exact ⟨rfl, fun t _ => by rw [swapC_zero]⟩) ?_
  rintro i hi
  (repeat (first | refine wpS_seq ?_ | refine wpS_reg ?_ | refine run_step rfl (by ((repeat' (first | exact aN | refine aC ?_ ?_ | intro _)) <;> first | assumption | omega | (simp only [obS] at *; omega) | (intros; first | rfl | assumption | omega | simp_all; done))) ?_ | refine run_nil ?_ | refine wpS_block ?_ | refine wpS_skip ?_ | refine wpS_exit ?_ | refine wpS_ret ?_))
  refine wpS_cond rfl (by ((repeat' (first | exact aN | refine aC ?_ ?_ | intro _)) <;> first | assumption | omega | (simp only [obS] at *; omega) | (intros; first | rfl | assumption | omega | simp_all; done))) (fun h => ?_) (fun h => ?_)
  · have hlt : i < m := by simpa using h
    (repeat (first | refine wpS_seq ?_ | refine wpS_reg ?_ | refine run_step rfl (by ((repeat' (first | exact aN | refine aC ?_ ?_ | intro _)) <;> first | assumption | omega | (simp only [obS] at *; omega) | (intros; first | rfl | assumption | omega | simp_all; done))) ?_ | refine run_nil ?_ | refine wpS_block ?_ | refine wpS_skip ?_ | refine wpS_exit ?_ | refine wpS_ret ?_))
    refine wpS_D (by kernel_rfl) ?_; (repeat (refine trg_step rfl (by ((repeat' (first | exact aN | refine aC ?_ ?_ | intro _)) <;> first | assumption | omega | (simp only [obS] at *; omega) | (intros; first | rfl | assumption | omega | simp_all; done))) ?_)); refine trg_nil ⟨rfl, ?_⟩
    (repeat (first | refine wpS_seq ?_ | refine wpS_reg ?_ | refine run_step rfl (by ((repeat' (first | exact aN | refine aC ?_ ?_ | intro _)) <;> first | assumption | omega | (simp only [obS] at *; omega) | (intros; first | rfl | assumption | omega | simp_all; done))) ?_ | refine run_nil ?_ | refine wpS_block ?_ | refine wpS_skip ?_ | refine wpS_exit ?_ | refine wpS_ret ?_))
    refine ⟨i + 1, by omega, by dsimp only; omega, ?_⟩
    refine ent_le ?_; (repeat' (first | exact aN | refine aC ?_ ?_)) <;> first | rfl | (refine ⟨rfl, fun t _ => ?_⟩)
    have e1 : ((b : Int) + (i : Int)).toNat = b + i := by omega
    have e2 : ((a : Int) + (i : Int)).toNat = a + i := by omega
    simp only [e1, e2, stored_eq, swapC_succ c (show a + i < b by omega) t]
    by_cases t1 : t = b + i
    · have t2 : ¬ t = a + i := by omega
      simp only [if_pos t1, if_neg t2]; rfl
    · by_cases t2 : t = a + i
      · simp only [if_neg t1, if_pos t2]; rfl
      · simp only [if_neg t1, if_neg t2]
  · have hlt : i = m := by simp at h; omega
    subst hlt
    (repeat (first | refine wpS_seq ?_ | refine wpS_reg ?_ | refine run_step rfl (by ((repeat' (first | exact aN | refine aC ?_ ?_ | intro _)) <;> first | assumption | omega | (simp only [obS] at *; omega) | (intros; first | rfl | assumption | omega | simp_all; done))) ?_ | refine run_nil ?_ | refine wpS_block ?_ | refine wpS_skip ?_ | refine wpS_exit ?_ | refine wpS_ret ?_))
    refine fin_mkR rfl ?_ ?_ <;> (repeat' (first | exact aN | refine aC ?_ ?_))
    exact ⟨rfl, fun _ _ => rfl⟩
theorem evrot_spec (c : Nat → Ev) (n a m b : Nat) (h1 : a < m) (h2 : m < b) (h3 : b ≤ n) (hn : n ≤ maxL) : SpecR Tryz.prog 154 [.ref PB, .int .i64 (a : Nat), .int .i64 (m : Nat), .int .i64 (b : Nat), .fn 85 []] [(PB, .row 26 9 n fun t => evA (c t))] (.tup []) [(PB, .row 26 9 n fun t => evA (rotC c a m b t))] := by
  have hn' := hn
  rw [maxL_eq] at hn'
  refine specR ok154 fun C _ => ?_
  (repeat (first | refine wpS_seq ?_ | refine wpS_reg ?_ | refine run_step rfl (by ((repeat' (first | exact aN | refine aC ?_ ?_ | intro _)) <;> first | assumption | omega | (simp only [obS] at *; omega) | (intros; first | rfl | assumption | omega | simp_all; done))) ?_ | refine run_nil ?_ | refine wpS_block ?_ | refine wpS_skip ?_ | refine wpS_exit ?_ | refine wpS_ret ?_))
  refine wpS_loop (fun (p : Nat × Nat × (Nat → Ev)) => 0 < p.1 ∧ 0 < p.2.1 ∧ p.1 ≤ m ∧ m + p.2.1 ≤ n ∧ rotC p.2.2 (m - p.1) m (m + p.2.1) = rotC c a m b) (fun p => ⟨[(0, .ref PB), (2, .int .i64 (m : Nat)), (4, .fn 85 []), (10, .int .i64 (p.1 : Nat)), (11, .int .i64 (p.2.1 : Nat))], [(PB, .row 26 9 n fun t => evA (p.2.2 t))]⟩) (fun p => p.1 + p.2.1) (m - a, b - m, c)
    ⟨by dsimp only; omega, by dsimp only; omega, by dsimp only; omega, by dsimp only; omega, by dsimp only; rw [show m - (m - a) = a by omega, show m + (b - m) = b by omega]⟩ (by refine ent_le ?_; (repeat' (first | exact aN | refine aC ?_ ?_)) <;> first | rfl | (dsimp only; omega) | exact ⟨rfl, fun _ _ => rfl⟩) ?_
  rintro ⟨i, j, d⟩ ⟨p1, p2, p3, p4, p5⟩
  dsimp only at p1 p2 p3 p4 p5 ⊢
  (repeat (first | refine wpS_seq ?_ | refine wpS_reg ?_ | refine run_step rfl (by ((repeat' (first | exact aN | refine aC ?_ ?_ | intro _)) <;> first | assumption | omega | (simp only [obS] at *; omega) | (intros; first | rfl | assumption | omega | simp_all; done))) ?_ | refine run_nil ?_ | refine wpS_block ?_ | refine wpS_skip ?_ | refine wpS_exit ?_ | refine wpS_ret ?_))
  refine wpS_cond rfl (by ((repeat' (first | exact aN | refine aC ?_ ?_ | intro _)) <;> first | assumption | omega | (simp only [obS] at *; omega) | (intros; first | rfl | assumption | omega | simp_all; done))) (fun h => ?_) (fun h => ?_)
  · have hij : i ≠ j := fun e => by subst e; simp at h
    (repeat (first | refine wpS_seq ?_ | refine wpS_reg ?_ | refine run_step rfl (by ((repeat' (first | exact aN | refine aC ?_ ?_ | intro _)) <;> first | assumption | omega | (simp only [obS] at *; omega) | (intros; first | rfl | assumption | omega | simp_all; done))) ?_ | refine run_nil ?_ | refine wpS_block ?_ | refine wpS_skip ?_ | refine wpS_exit ?_ | refine wpS_ret ?_))
    refine wpS_cond rfl (by ((repeat' (first | exact aN | refine aC ?_ ?_ | intro _)) <;> first | assumption | omega | (simp only [obS] at *; omega) | (intros; first | rfl | assumption | omega | simp_all; done))) (fun h => ?_) (fun h => ?_)
    · have hlt : j < i := by simpa using h
      (repeat (first | refine wpS_seq ?_ | refine wpS_reg ?_ | refine run_step rfl (by ((repeat' (first | exact aN | refine aC ?_ ?_ | intro _)) <;> first | assumption | omega | (simp only [obS] at *; omega) | (intros; first | rfl | assumption | omega | simp_all; done))) ?_ | refine run_nil ?_ | refine wpS_block ?_ | refine wpS_skip ?_ | refine wpS_exit ?_ | refine wpS_ret ?_))
      have e1 : (m : Int) - (i : Int) = ((m - i : Nat) : Int) := by omega
      rw [e1]
      refine run_cR id [PB] (evswap_spec d n (m - i) m j (by omega) (by omega) hn) rfl rfl ⟨rfl, trivial⟩ rfl ?_
      (repeat (first | refine wpS_seq ?_ | refine wpS_reg ?_ | refine run_step rfl (by ((repeat' (first | exact aN | refine aC ?_ ?_ | intro _)) <;> first | assumption | omega | (simp only [obS] at *; omega) | (intros; first | rfl | assumption | omega | simp_all; done))) ?_ | refine run_nil ?_ | refine wpS_block ?_ | refine wpS_skip ?_ | refine wpS_exit ?_ | refine wpS_ret ?_))
      refine ⟨(i - j, j, swapC d (m - i) m j), ⟨by dsimp only; omega, p2, by dsimp only; omega, p4, ?_⟩, by dsimp only; omega, ?_⟩
      · dsimp only
        rw [← p5]
        exact rot_step1 d hlt p3
      · refine ent_le ?_; (repeat' (first | exact aN | refine aC ?_ ?_)) <;> first | rfl | (dsimp only; omega) | exact ⟨rfl, fun _ _ => rfl⟩
    · have hlt : i < j := by
        have : ¬ j < i := by simpa using h
        omega
      (repeat (first | refine wpS_seq ?_ | refine wpS_reg ?_ | refine run_step rfl (by ((repeat' (first | exact aN | refine aC ?_ ?_ | intro _)) <;> first | assumption | omega | (simp only [obS] at *; omega) | (intros; first | rfl | assumption | omega | simp_all; done))) ?_ | refine run_nil ?_ | refine wpS_block ?_ | refine wpS_skip ?_ | refine wpS_exit ?_ | refine wpS_ret ?_))
      have e1 : (m : Int) - (i : Int) = ((m - i : Nat) : Int) := by omega
      have e2 : (m : Int) + (j : Int) - (i : Int) = ((m + j - i : Nat) : Int) := by omega
      rw [e1, e2]
      refine run_cR id [PB] (evswap_spec d n (m - i) (m + j - i) i (by omega) (by omega) hn) rfl rfl ⟨rfl, trivial⟩ rfl ?_
      (repeat (first | refine wpS_seq ?_ | refine wpS_reg ?_ | refine run_step rfl (by ((repeat' (first | exact aN | refine aC ?_ ?_ | intro _)) <;> first | assumption | omega | (simp only [obS] at *; omega) | (intros; first | rfl | assumption | omega | simp_all; done))) ?_ | refine run_nil ?_ | refine wpS_block ?_ | refine wpS_skip ?_ | refine wpS_exit ?_ | refine wpS_ret ?_))
      refine ⟨(i, j - i, swapC d (m - i) (m + j - i) i), ⟨p1, by dsimp only; omega, p3, by dsimp only; omega, ?_⟩, by dsimp only; omega, ?_⟩
      · dsimp only
        rw [← p5]
        exact rot_step2 d hlt p3
      · refine ent_le ?_; (repeat' (first | exact aN | refine aC ?_ ?_)) <;> first | rfl | (dsimp only; omega) | exact ⟨rfl, fun _ _ => rfl⟩
  · have hij : i = j := by
      have : (i : Int) = (j : Int) := by simpa using h
      omega
    subst hij
    clear h
    (repeat (first | refine wpS_seq ?_ | refine wpS_reg ?_ | refine run_step rfl (by ((repeat' (first | exact aN | refine aC ?_ ?_ | intro _)) <;> first | assumption | omega | (simp only [obS] at *; omega) | (intros; first | rfl | assumption | omega | simp_all; done))) ?_ | refine run_nil ?_ | refine wpS_block ?_ | refine wpS_skip ?_ | refine wpS_exit ?_ | refine wpS_ret ?_))
    have e1 : (m : Int) - (i : Int) = ((m - i : Nat) : Int) := by omega
    rw [e1]
    refine run_cR id [PB] (evswap_spec d n (m - i) m i (by omega) (by omega) hn) rfl rfl ⟨rfl, trivial⟩ rfl ?_
    (repeat (first | refine wpS_seq ?_ | refine wpS_reg ?_ | refine run_step rfl (by ((repeat' (first | exact aN | refine aC ?_ ?_ | intro _)) <;> first | assumption | omega | (simp only [obS] at *; omega) | (intros; first | rfl | assumption | omega | simp_all; done))) ?_ | refine run_nil ?_ | refine wpS_block ?_ | refine wpS_skip ?_ | refine wpS_exit ?_ | refine wpS_ret ?_))
    refine fin_mkR rfl ?_ ?_ <;> (repeat' (first | exact aN | refine aC ?_ ?_))
    refine ⟨rfl, fun t _ => ?_⟩
    dsimp only
    rw [← p5, rot_end d p3]
theorem evins_spec (c : Nat → Ev) (n a b : Nat) (h1 : a ≤ b) (h2 : b ≤ n) (hn : n ≤ maxL) : SpecR Tryz.prog 126 [.ref PB, .int .i64 (a : Nat), .int .i64 (b : Nat), .fn 85 []] [(PB, .row 26 9 n fun t => evA (c t))] (.tup []) [(PB, .row 26 9 n fun t => evA (sortC Ev.tick c a b t))] := by
  rw [maxL_eq] at hn
  refine specR ok126 fun C _ => ?_
  (repeat (first | refine wpS_seq ?_ | refine wpS_reg ?_ | refine run_step rfl (by ((repeat' (first | exact aN | refine aC ?_ ?_ | intro _)) <;> first | assumption | omega | (simp only [obS] at *; omega) | (intros; first | rfl | assumption | omega | simp_all; done))) ?_ | refine run_nil ?_ | refine wpS_block ?_ | refine wpS_skip ?_ | refine wpS_exit ?_ | refine wpS_ret ?_))
  refine wpS_loop (fun i => a + 1 ≤ i ∧ (i ≤ b ∨ i = a + 1)) (fun i => ⟨[(0, .ref PB), (1, .int .i64 (a : Nat)), (2, .int .i64 (b : Nat)), (3, .fn 85 []), (8, .int .i64 (i : Nat))], [(PB, .row 26 9 n fun t => evA (sortC Ev.tick c a i t))]⟩) (fun i => b - i) (a + 1) ⟨by omega, by omega⟩
    (by refine ent_le ?_; (repeat' (first | exact aN | refine aC ?_ ?_)) <;> first | rfl | exact ⟨rfl, fun t _ => by rw [sortC_id (fun p q h1 h2 h3 => by omega)]⟩) ?_
  rintro i ⟨i1, i2⟩
  (repeat (first | refine wpS_seq ?_ | refine wpS_reg ?_ | refine run_step rfl (by ((repeat' (first | exact aN | refine aC ?_ ?_ | intro _)) <;> first | assumption | omega | (simp only [obS] at *; omega) | (intros; first | rfl | assumption | omega | simp_all; done))) ?_ | refine run_nil ?_ | refine wpS_block ?_ | refine wpS_skip ?_ | refine wpS_exit ?_ | refine wpS_ret ?_))
  refine wpS_cond rfl (by ((repeat' (first | exact aN | refine aC ?_ ?_ | intro _)) <;> first | assumption | omega | (simp only [obS] at *; omega) | (intros; first | rfl | assumption | omega | simp_all; done))) (fun h => ?_) (fun h => ?_)
  · have hlt : i < b := by simpa using h
    clear h
    (repeat (first | refine wpS_seq ?_ | refine wpS_reg ?_ | refine run_step rfl (by ((repeat' (first | exact aN | refine aC ?_ ?_ | intro _)) <;> first | assumption | omega | (simp only [obS] at *; omega) | (intros; first | rfl | assumption | omega | simp_all; done))) ?_ | refine run_nil ?_ | refine wpS_block ?_ | refine wpS_skip ?_ | refine wpS_exit ?_ | refine wpS_ret ?_))
    refine wpS_loop (fun j => a ≤ j ∧ j ≤ i ∧ ∀ t, j ≤ t → t < i → Ev.tick (c i) < Ev.tick (sortC Ev.tick c a i t)) (fun j => ⟨[(0, .ref PB), (1, .int .i64 (a : Nat)), (2, .int .i64 (b : Nat)), (3, .fn 85 []), (8, .int .i64 (i : Nat)), (9, .int .i64 (j : Nat))], [(PB, .row 26 9 n fun t => evA (insC (sortC Ev.tick c a i) (c i) j i t))]⟩) (fun j => j) i ⟨by omega, by omega, fun t h1 h2 => by omega⟩
      (by refine ent_le ?_; (repeat' (first | exact aN | refine aC ?_ ?_)) <;> first | rfl | exact ⟨rfl, fun t _ => by rw [insC_start _ (sortC_out (by omega))]⟩) ?_
    rintro j ⟨j1, j2, j3⟩
    (repeat (first | refine wpS_seq ?_ | refine wpS_reg ?_ | refine run_step rfl (by ((repeat' (first | exact aN | refine aC ?_ ?_ | intro _)) <;> first | assumption | omega | (simp only [obS] at *; omega) | (intros; first | rfl | assumption | omega | simp_all; done))) ?_ | refine run_nil ?_ | refine wpS_block ?_ | refine wpS_skip ?_ | refine wpS_exit ?_ | refine wpS_ret ?_))
    refine wpS_D (by kernel_rfl) ?_
    (repeat (refine trg_step rfl (by ((repeat' (first | exact aN | refine aC ?_ ?_ | intro _)) <;> first | assumption | omega | (simp only [obS] at *; omega) | (intros; first | rfl | assumption | omega | simp_all; done))) ?_))
    refine trg_cg rfl (fun hG => ((evcmp_spec (insC (sortC Ev.tick c a i) (c i) j i j) (insC (sortC Ev.tick c a i) (c i) j i ((j : Int) - 1).toNat)))) rfl (fun hG => by ((repeat' (first | exact aN | refine aC ?_ ?_ | intro _)) <;> first | assumption | omega | (simp only [obS] at *; omega) | (intros; first | rfl | assumption | omega | simp_all; done))) rfl rfl (.inl rfl) ?_
    (repeat (refine trg_step rfl (by ((repeat' (first | exact aN | refine aC ?_ ?_ | intro _)) <;> first | assumption | omega | (simp only [obS] at *; omega) | (intros; first | rfl | assumption | omega | simp_all; done))) ?_))
    refine trg_nil ⟨rfl, ?_⟩
    have hc : ∀ v : Bool, (bif decide ((a : Int) < (j : Int)) then decide (cmpI (Ev.tick (insC (sortC Ev.tick c a i) (c i) j i j)) (Ev.tick (insC (sortC Ev.tick c a i) (c i) j i ((j : Int) - 1).toNat)) < 0) else false) = v →
        v = (decide (a < j) && decide (Ev.tick (c i) < Ev.tick (sortC Ev.tick c a i (j - 1)))) := by
      intro v hv
      rw [← hv, insC_at, cmpI_neg]
      by_cases hja : a < j
      · have hj0 : ((j : Int) - 1).toNat = j - 1 := by omega
        have hai : (a : Int) < (j : Int) := by omega
        rw [hj0, insC_lo _ _ (show j - 1 < j by omega)]
        simp only [hja, hai, decide_true, cond_true, Bool.true_and]
      · have hai : ¬ (a : Int) < (j : Int) := by omega
        simp only [hja, hai, decide_false, cond_false, Bool.false_and]
    refine wpS_cond rfl (by ((repeat' (first | exact aN | refine aC ?_ ?_ | intro _)) <;> first | assumption | omega | (simp only [obS] at *; omega) | (intros; first | rfl | assumption | omega | simp_all; done))) (fun h => ?_) (fun h => ?_)
    · have hv := (hc _ h).symm
      simp only [Bool.and_eq_true, decide_eq_true_eq] at hv
      obtain ⟨hja, hlt2⟩ := hv
      clear h hc
      have e1 : ((j : Int) - 1).toNat = j - 1 := by omega
      (repeat (first | refine wpS_seq ?_ | refine wpS_reg ?_ | refine run_step rfl (by ((repeat' (first | exact aN | refine aC ?_ ?_ | intro _)) <;> first | assumption | omega | (simp only [obS] at *; omega) | (intros; first | rfl | assumption | omega | simp_all; done))) ?_ | refine run_nil ?_ | refine wpS_block ?_ | refine wpS_skip ?_ | refine wpS_exit ?_ | refine wpS_ret ?_))
      refine wpS_D (by kernel_rfl) ?_; (repeat (refine trg_step rfl (by ((repeat' (first | exact aN | refine aC ?_ ?_ | intro _)) <;> first | assumption | omega | (simp only [obS] at *; omega) | (intros; first | rfl | assumption | omega | simp_all; done))) ?_)); refine trg_nil ⟨rfl, ?_⟩
      (repeat (first | refine wpS_seq ?_ | refine wpS_reg ?_ | refine run_step rfl (by ((repeat' (first | exact aN | refine aC ?_ ?_ | intro _)) <;> first | assumption | omega | (simp only [obS] at *; omega) | (intros; first | rfl | assumption | omega | simp_all; done))) ?_ | refine run_nil ?_ | refine wpS_block ?_ | refine wpS_skip ?_ | refine wpS_exit ?_ | refine wpS_ret ?_))
      refine ⟨j - 1, ⟨by omega, by omega, fun t t1 t2 => ?_⟩, by dsimp only; omega, ?_⟩
      · by_cases ht : t = j - 1
        · subst ht; exact hlt2
        · exact j3 t (by omega) t2
      · refine ent_le ?_; (repeat' (first | exact aN | refine aC ?_ ?_)) <;> first | rfl | omega | (refine ⟨rfl, fun t _ => ?_⟩)
        simp only [Int.toNat_natCast, e1, stored_eq, insC_prev _ _ (show 0 < j by omega) j2 t]
        by_cases t1 : t = j - 1
        · have t2 : ¬ t = j := by omega
          simp only [if_pos t1, if_neg t2, insC_at]; rfl
        · by_cases t2 : t = j
          · simp only [if_neg t1, if_pos t2, insC_lo _ _ (show j - 1 < j by omega)]; rfl
          · simp only [if_neg t1, if_neg t2]
    · have hv := (hc _ h).symm
      clear h hc
      (repeat (first | refine wpS_seq ?_ | refine wpS_reg ?_ | refine run_step rfl (by ((repeat' (first | exact aN | refine aC ?_ ?_ | intro _)) <;> first | assumption | omega | (simp only [obS] at *; omega) | (intros; first | rfl | assumption | omega | simp_all; done))) ?_ | refine run_nil ?_ | refine wpS_block ?_ | refine wpS_skip ?_ | refine wpS_exit ?_ | refine wpS_ret ?_))
      have hd : insC (sortC Ev.tick c a i) (c i) j i = sortC Ev.tick c a (i + 1) := by
        refine ins_done j1 j2 j3 fun hja => ?_
        simp only [hja, decide_true, Bool.true_and, decide_eq_false_iff_not] at hv
        omega
      refine ⟨i + 1, ⟨by omega, by omega⟩, by dsimp only; omega, ?_⟩
      refine ent_le ?_; (repeat' (first | exact aN | refine aC ?_ ?_)) <;> first | rfl | omega | exact ⟨rfl, fun t _ => by rw [hd]⟩
  · have hge : b ≤ i := by simp at h; omega
    clear h
    (repeat (first | refine wpS_seq ?_ | refine wpS_reg ?_ | refine run_step rfl (by ((repeat' (first | exact aN | refine aC ?_ ?_ | intro _)) <;> first | assumption | omega | (simp only [obS] at *; omega) | (intros; first | rfl | assumption | omega | simp_all; done))) ?_ | refine run_nil ?_ | refine wpS_block ?_ | refine wpS_skip ?_ | refine wpS_exit ?_ | refine wpS_ret ?_))
    refine fin_mkR rfl ?_ ?_ <;> (repeat' (first | exact aN | refine aC ?_ ?_))
    refine ⟨rfl, fun t _ => ?_⟩
    dsimp only
    by_cases hib : i = b
    · rw [hib]
    · have ha : b = a := by omega
      rw [sortC_id (fun p q h1 h2 h3 => by omega), sortC_id (fun p q h1 h2 h3 => by omega)]
end Go.Proofs
end
/- part BkSym -/
section
namespace Go.Proofs
open Go.Av Go.Pu
theorem half (i j : Nat) (h : i + j ≤ 4611686018427387904) : IntKind.i64.wrap (IntKind.u64.wrap ((i : Int) + (j : Int)) / 2 ^ (min (Int.toNat 1) (IntKind.bits .u64))) = (((i + j) / 2 : Nat) : Int) := by
  have e1 : (2 : Int) ^ (min (Int.toNat 1) (IntKind.bits .u64)) = 2 := rfl
  rw [e1]
  have e2 : IntKind.u64.wrap ((i : Int) + (j : Int)) = (i : Int) + (j : Int) := by
    simp [IntKind.wrap, IntKind.bits, IntKind.signed]
    omega
  rw [e2]
  simp [IntKind.wrap, IntKind.bits, IntKind.signed]
  omega
set_option maxHeartbeats 8000000 in
theorem evsym_spec : ∀ (w : Nat) (c : Nat → Ev) (n a m b : Nat), b - a ≤ w → a < m → m < b → b ≤ n → n ≤ maxL → SrtA Ev.tick c a m → SrtA Ev.tick c m b →
    SpecR Tryz.prog 127 [.ref PB, .int .i64 (a : Nat), .int .i64 (m : Nat), .int .i64 (b : Nat), .fn 85 []] [(PB, .row 26 9 n fun t => evA (c t))] (.tup []) [(PB, .row 26 9 n fun t => evA (sortC Ev.tick c a b t))] := by
  intro w
  induction w with
  | zero => intro c n a m b hw h1 h2; omega
  | succ w ih =>
  intro c n a m b hw h1 h2 h3 hn hs1 hs2
  have hn' := hn
  rw [maxL_eq] at hn'
  refine specR ok127 fun C _ => ?_
  (repeat (first | refine wpS_seq ?_ | refine wpS_reg ?_ | refine run_step rfl (by ((repeat' (first | exact aN | refine aC ?_ ?_ | intro _)) <;> first | assumption | omega | (simp only [obS] at *; omega) | (intros; first | rfl | assumption | omega | simp_all; done))) ?_ | refine run_nil ?_ | refine wpS_block ?_ | refine wpS_skip ?_ | refine wpS_exit ?_ | refine wpS_ret ?_))
  refine wpS_cond rfl (by ((repeat' (first | exact aN | refine aC ?_ ?_ | intro _)) <;> first | assumption | omega | (simp only [obS] at *; omega) | (intros; first | rfl | assumption | omega | simp_all; done))) (fun h => ?_) (fun h => ?_)
  · have hm : m = a + 1 := by simp at h; omega
    clear h
    (repeat (first | refine wpS_seq ?_ | refine wpS_reg ?_ | refine run_step rfl (by ((repeat' (first | exact aN | refine aC ?_ ?_ | intro _)) <;> first | assumption | omega | (simp only [obS] at *; omega) | (intros; first | rfl | assumption | omega | simp_all; done))) ?_ | refine run_nil ?_ | refine wpS_block ?_ | refine wpS_skip ?_ | refine wpS_exit ?_ | refine wpS_ret ?_))
    refine wpS_loop (fun (p : Nat × Nat) => m ≤ p.1 ∧ p.1 ≤ p.2 ∧ p.2 ≤ b ∧ (∀ t, m ≤ t → t < p.1 → Ev.tick (c t) < Ev.tick (c a)) ∧ ∀ t, p.2 ≤ t → t < b → Ev.tick (c a) ≤ Ev.tick (c t)) (fun p => ⟨[(0, .ref PB), (1, .int .i64 (a : Nat)), (2, .int .i64 (m : Nat)), (3, .int .i64 (b : Nat)), (4, .fn 85 []), (10, .int .i64 (p.1 : Nat)), (11, .int .i64 (p.2 : Nat))], [(PB, .row 26 9 n fun t => evA (c t))]⟩) (fun p => p.2 - p.1) (m, b)
      ⟨Nat.le_refl _, by dsimp only; omega, Nat.le_refl _, by dsimp only; omega, by dsimp only; omega⟩ (by refine ent_le ?_; (repeat' (first | exact aN | refine aC ?_ ?_)) <;> first | rfl | exact ⟨rfl, fun _ _ => rfl⟩) ?_
    rintro ⟨i, j⟩ ⟨p1, p2, p3, p4, p5⟩
    dsimp only at p1 p2 p3 p4 p5 ⊢
    (repeat (first | refine wpS_seq ?_ | refine wpS_reg ?_ | refine run_step rfl (by ((repeat' (first | exact aN | refine aC ?_ ?_ | intro _)) <;> first | assumption | omega | (simp only [obS] at *; omega) | (intros; first | rfl | assumption | omega | simp_all; done))) ?_ | refine run_nil ?_ | refine wpS_block ?_ | refine wpS_skip ?_ | refine wpS_exit ?_ | refine wpS_ret ?_))
    refine wpS_cond rfl (by ((repeat' (first | exact aN | refine aC ?_ ?_ | intro _)) <;> first | assumption | omega | (simp only [obS] at *; omega) | (intros; first | rfl | assumption | omega | simp_all; done))) (fun h => ?_) (fun h => ?_)
    · have hlt : i < j := by simpa using h
      clear h
      (repeat (first | refine wpS_seq ?_ | refine wpS_reg ?_ | refine run_step rfl (by ((repeat' (first | exact aN | refine aC ?_ ?_ | intro _)) <;> first | assumption | omega | (simp only [obS] at *; omega) | (intros; first | rfl | assumption | omega | simp_all; done))) ?_ | refine run_nil ?_ | refine wpS_block ?_ | refine wpS_skip ?_ | refine wpS_exit ?_ | refine wpS_ret ?_))
      refine wpS_ent (ent_slot 12 (.int .i64 (((i + j) / 2 : Nat) : Int)) ⟨half i j (by omega), trivial⟩) ?_
      obtain ⟨q, hq⟩ : ∃ q, q = (i + j) / 2 := ⟨_, rfl⟩
      rw [← hq]
      have q1 : i ≤ q := by omega
      have q2 : q < j := by omega
      clear hq
      refine wpS_D (by kernel_rfl) ?_
      (repeat (refine trg_step rfl (by ((repeat' (first | exact aN | refine aC ?_ ?_ | intro _)) <;> first | assumption | omega | (simp only [obS] at *; omega) | (intros; first | rfl | assumption | omega | simp_all; done))) ?_))
      refine trg_c ((evcmp_spec (c q) (c a))) rfl (by ((repeat' (first | exact aN | refine aC ?_ ?_ | intro _)) <;> first | assumption | omega | (simp only [obS] at *; omega) | (intros; first | rfl | assumption | omega | simp_all; done))) rfl rfl (.inl rfl) ?_
      (repeat (refine trg_step rfl (by ((repeat' (first | exact aN | refine aC ?_ ?_ | intro _)) <;> first | assumption | omega | (simp only [obS] at *; omega) | (intros; first | rfl | assumption | omega | simp_all; done))) ?_))
      refine trg_nil ⟨rfl, ?_⟩
      refine wpS_cond rfl (by ((repeat' (first | exact aN | refine aC ?_ ?_ | intro _)) <;> first | assumption | omega | (simp only [obS] at *; omega) | (intros; first | rfl | assumption | omega | simp_all; done))) (fun h => ?_) (fun h => ?_)
      · rw [cmpI_neg] at h
        have hv : Ev.tick (c q) < Ev.tick (c a) := by simpa using h
        (repeat (first | refine wpS_seq ?_ | refine wpS_reg ?_ | refine run_step rfl (by ((repeat' (first | exact aN | refine aC ?_ ?_ | intro _)) <;> first | assumption | omega | (simp only [obS] at *; omega) | (intros; first | rfl | assumption | omega | simp_all; done))) ?_ | refine run_nil ?_ | refine wpS_block ?_ | refine wpS_skip ?_ | refine wpS_exit ?_ | refine wpS_ret ?_))
        refine ⟨(q + 1, j), ⟨by dsimp only; omega, by dsimp only; omega, p3, fun t t1 t2 => ?_, p5⟩, by dsimp only; omega, ?_⟩
        · have := hs2.le (i := t) (j := q) t1 (by dsimp only at t2; omega) (by omega)
          omega
        · refine ent_le ?_; (repeat' (first | exact aN | refine aC ?_ ?_)) <;> first | rfl | exact ⟨rfl, fun _ _ => rfl⟩
      · rw [cmpI_neg] at h
        have hv : ¬ Ev.tick (c q) < Ev.tick (c a) := by simpa using h
        (repeat (first | refine wpS_seq ?_ | refine wpS_reg ?_ | refine run_step rfl (by ((repeat' (first | exact aN | refine aC ?_ ?_ | intro _)) <;> first | assumption | omega | (simp only [obS] at *; omega) | (intros; first | rfl | assumption | omega | simp_all; done))) ?_ | refine run_nil ?_ | refine wpS_block ?_ | refine wpS_skip ?_ | refine wpS_exit ?_ | refine wpS_ret ?_))
        refine ⟨(i, q), ⟨p1, q1, by dsimp only; omega, p4, fun t t1 t2 => ?_⟩, by dsimp only; omega, ?_⟩
        · have := hs2.le (i := q) (j := t) (by omega) t1 t2
          omega
        · refine ent_le ?_; (repeat' (first | exact aN | refine aC ?_ ?_)) <;> first | rfl | exact ⟨rfl, fun _ _ => rfl⟩
    · have hij : i = j := by simp at h; omega
      subst hij
      clear h
      (repeat (first | refine wpS_seq ?_ | refine wpS_reg ?_ | refine run_step rfl (by ((repeat' (first | exact aN | refine aC ?_ ?_ | intro _)) <;> first | assumption | omega | (simp only [obS] at *; omega) | (intros; first | rfl | assumption | omega | simp_all; done))) ?_ | refine run_nil ?_ | refine wpS_block ?_ | refine wpS_skip ?_ | refine wpS_exit ?_ | refine wpS_ret ?_))
      refine wpS_loop (fun p => a ≤ p ∧ p ≤ i - 1) (fun p => ⟨[(0, .ref PB), (10, .int .i64 (i : Nat)), (13, .int .i64 (p : Nat))], [(PB, .row 26 9 n fun t => evA (shL c a p t))]⟩) (fun p => i - p) a ⟨by omega, by omega⟩
        (by refine ent_le ?_; (repeat' (first | exact aN | refine aC ?_ ?_)) <;> first | rfl | exact ⟨rfl, fun t _ => by rw [shL_zero]⟩) ?_
      rintro p ⟨r1, r2⟩
      (repeat (first | refine wpS_seq ?_ | refine wpS_reg ?_ | refine run_step rfl (by ((repeat' (first | exact aN | refine aC ?_ ?_ | intro _)) <;> first | assumption | omega | (simp only [obS] at *; omega) | (intros; first | rfl | assumption | omega | simp_all; done))) ?_ | refine run_nil ?_ | refine wpS_block ?_ | refine wpS_skip ?_ | refine wpS_exit ?_ | refine wpS_ret ?_))
      refine wpS_cond rfl (by ((repeat' (first | exact aN | refine aC ?_ ?_ | intro _)) <;> first | assumption | omega | (simp only [obS] at *; omega) | (intros; first | rfl | assumption | omega | simp_all; done))) (fun h => ?_) (fun h => ?_)
      · have hlt : p < i - 1 := by simp at h; omega
        clear h
        have e1 : ((p : Int) + 1).toNat = p + 1 := by omega
        (repeat (first | refine wpS_seq ?_ | refine wpS_reg ?_ | refine run_step rfl (by ((repeat' (first | exact aN | refine aC ?_ ?_ | intro _)) <;> first | assumption | omega | (simp only [obS] at *; omega) | (intros; first | rfl | assumption | omega | simp_all; done))) ?_ | refine run_nil ?_ | refine wpS_block ?_ | refine wpS_skip ?_ | refine wpS_exit ?_ | refine wpS_ret ?_))
        refine wpS_D (by kernel_rfl) ?_; (repeat (refine trg_step rfl (by ((repeat' (first | exact aN | refine aC ?_ ?_ | intro _)) <;> first | assumption | omega | (simp only [obS] at *; omega) | (intros; first | rfl | assumption | omega | simp_all; done))) ?_)); refine trg_nil ⟨rfl, ?_⟩
        (repeat (first | refine wpS_seq ?_ | refine wpS_reg ?_ | refine run_step rfl (by ((repeat' (first | exact aN | refine aC ?_ ?_ | intro _)) <;> first | assumption | omega | (simp only [obS] at *; omega) | (intros; first | rfl | assumption | omega | simp_all; done))) ?_ | refine run_nil ?_ | refine wpS_block ?_ | refine wpS_skip ?_ | refine wpS_exit ?_ | refine wpS_ret ?_))
        refine ⟨p + 1, ⟨by omega, by omega⟩, by dsimp only; omega, ?_⟩
        refine ent_le ?_; (repeat' (first | exact aN | refine aC ?_ ?_)) <;> first | rfl | omega | (refine ⟨rfl, fun t _ => ?_⟩)
        simp only [Int.toNat_natCast, e1, stored_eq, shL_next c r1 t]
        by_cases t1 : t = p + 1
        · have t2 : ¬ t = p := by omega
          simp only [if_pos t1, if_neg t2, shL_at]; rfl
        · by_cases t2 : t = p
          · simp only [if_neg t1, if_pos t2, shL_hi c (show p < p + 1 by omega)]; rfl
          · simp only [if_neg t1, if_neg t2]
      · have hge : p = i - 1 := by simp at h; omega
        subst hge
        clear h
        (repeat (first | refine wpS_seq ?_ | refine wpS_reg ?_ | refine run_step rfl (by ((repeat' (first | exact aN | refine aC ?_ ?_ | intro _)) <;> first | assumption | omega | (simp only [obS] at *; omega) | (intros; first | rfl | assumption | omega | simp_all; done))) ?_ | refine run_nil ?_ | refine wpS_block ?_ | refine wpS_skip ?_ | refine wpS_exit ?_ | refine wpS_ret ?_))
        refine fin_mkR rfl ?_ ?_ <;> (repeat' (first | exact aN | refine aC ?_ ?_))
        refine ⟨rfl, fun t _ => ?_⟩
        dsimp only
        subst hm
        rw [sh_done (by omega) p3 hs2 (fun t t1 t2 => p4 t t1 t2) (fun h => p5 i (Nat.le_refl _) h)]
  have hm1 : ¬ m = a + 1 := by intro e; subst e; simp at h; omega
  clear h
  (repeat (first | refine wpS_seq ?_ | refine wpS_reg ?_ | refine run_step rfl (by ((repeat' (first | exact aN | refine aC ?_ ?_ | intro _)) <;> first | assumption | omega | (simp only [obS] at *; omega) | (intros; first | rfl | assumption | omega | simp_all; done))) ?_ | refine run_nil ?_ | refine wpS_block ?_ | refine wpS_skip ?_ | refine wpS_exit ?_ | refine wpS_ret ?_))
  refine wpS_cond rfl (by ((repeat' (first | exact aN | refine aC ?_ ?_ | intro _)) <;> first | assumption | omega | (simp only [obS] at *; omega) | (intros; first | rfl | assumption | omega | simp_all; done))) (fun h => ?_) (fun h => ?_)
  · have hb : b = m + 1 := by simp at h; omega
    clear h
    (repeat (first | refine wpS_seq ?_ | refine wpS_reg ?_ | refine run_step rfl (by ((repeat' (first | exact aN | refine aC ?_ ?_ | intro _)) <;> first | assumption | omega | (simp only [obS] at *; omega) | (intros; first | rfl | assumption | omega | simp_all; done))) ?_ | refine run_nil ?_ | refine wpS_block ?_ | refine wpS_skip ?_ | refine wpS_exit ?_ | refine wpS_ret ?_))
    refine wpS_loop (fun (p : Nat × Nat) => a ≤ p.1 ∧ p.1 ≤ p.2 ∧ p.2 ≤ m ∧ (∀ t, a ≤ t → t < p.1 → Ev.tick (c t) ≤ Ev.tick (c m)) ∧ ∀ t, p.2 ≤ t → t < m → Ev.tick (c m) < Ev.tick (c t)) (fun p => ⟨[(0, .ref PB), (1, .int .i64 (a : Nat)), (2, .int .i64 (m : Nat)), (3, .int .i64 (b : Nat)), (4, .fn 85 []), (14, .int .i64 (p.1 : Nat)), (15, .int .i64 (p.2 : Nat))], [(PB, .row 26 9 n fun t => evA (c t))]⟩) (fun p => p.2 - p.1) (a, m)
      ⟨Nat.le_refl _, by dsimp only; omega, Nat.le_refl _, by dsimp only; omega, by dsimp only; omega⟩ (by refine ent_le ?_; (repeat' (first | exact aN | refine aC ?_ ?_)) <;> first | rfl | exact ⟨rfl, fun _ _ => rfl⟩) ?_
    rintro ⟨i, j⟩ ⟨p1, p2, p3, p4, p5⟩
    dsimp only at p1 p2 p3 p4 p5 ⊢
    (repeat (first | refine wpS_seq ?_ | refine wpS_reg ?_ | refine run_step rfl (by ((repeat' (first | exact aN | refine aC ?_ ?_ | intro _)) <;> first | assumption | omega | (simp only [obS] at *; omega) | (intros; first | rfl | assumption | omega | simp_all; done))) ?_ | refine run_nil ?_ | refine wpS_block ?_ | refine wpS_skip ?_ | refine wpS_exit ?_ | refine wpS_ret ?_))
    refine wpS_cond rfl (by ((repeat' (first | exact aN | refine aC ?_ ?_ | intro _)) <;> first | assumption | omega | (simp only [obS] at *; omega) | (intros; first | rfl | assumption | omega | simp_all; done))) (fun h => ?_) (fun h => ?_)
    · have hlt : i < j := by simpa using h
      clear h
      (repeat (first | refine wpS_seq ?_ | refine wpS_reg ?_ | refine run_step rfl (by ((repeat' (first | exact aN | refine aC ?_ ?_ | intro _)) <;> first | assumption | omega | (simp only [obS] at *; omega) | (intros; first | rfl | assumption | omega | simp_all; done))) ?_ | refine run_nil ?_ | refine wpS_block ?_ | refine wpS_skip ?_ | refine wpS_exit ?_ | refine wpS_ret ?_))
      refine wpS_ent (ent_slot 16 (.int .i64 (((i + j) / 2 : Nat) : Int)) ⟨half i j (by omega), trivial⟩) ?_
      obtain ⟨q, hq⟩ : ∃ q, q = (i + j) / 2 := ⟨_, rfl⟩
      rw [← hq]
      have q1 : i ≤ q := by omega
      have q2 : q < j := by omega
      clear hq
      refine wpS_D (by kernel_rfl) ?_
      (repeat (refine trg_step rfl (by ((repeat' (first | exact aN | refine aC ?_ ?_ | intro _)) <;> first | assumption | omega | (simp only [obS] at *; omega) | (intros; first | rfl | assumption | omega | simp_all; done))) ?_))
      refine trg_c ((evcmp_spec (c m) (c q))) rfl (by ((repeat' (first | exact aN | refine aC ?_ ?_ | intro _)) <;> first | assumption | omega | (simp only [obS] at *; omega) | (intros; first | rfl | assumption | omega | simp_all; done))) rfl rfl (.inl rfl) ?_
      (repeat (refine trg_step rfl (by ((repeat' (first | exact aN | refine aC ?_ ?_ | intro _)) <;> first | assumption | omega | (simp only [obS] at *; omega) | (intros; first | rfl | assumption | omega | simp_all; done))) ?_))
      refine trg_nil ⟨rfl, ?_⟩
      refine wpS_cond rfl (by ((repeat' (first | exact aN | refine aC ?_ ?_ | intro _)) <;> first | assumption | omega | (simp only [obS] at *; omega) | (intros; first | rfl | assumption | omega | simp_all; done))) (fun h => ?_) (fun h => ?_)
      · rw [cmpI_neg] at h
        have hv : ¬ Ev.tick (c m) < Ev.tick (c q) := by simpa using h
        (repeat (first | refine wpS_seq ?_ | refine wpS_reg ?_ | refine run_step rfl (by ((repeat' (first | exact aN | refine aC ?_ ?_ | intro _)) <;> first | assumption | omega | (simp only [obS] at *; omega) | (intros; first | rfl | assumption | omega | simp_all; done))) ?_ | refine run_nil ?_ | refine wpS_block ?_ | refine wpS_skip ?_ | refine wpS_exit ?_ | refine wpS_ret ?_))
        refine ⟨(q + 1, j), ⟨by dsimp only; omega, by dsimp only; omega, p3, fun t t1 t2 => ?_, p5⟩, by dsimp only; omega, ?_⟩
        · have := hs1.le (i := t) (j := q) t1 (by dsimp only at t2; omega) (by omega)
          omega
        · refine ent_le ?_; (repeat' (first | exact aN | refine aC ?_ ?_)) <;> first | rfl | exact ⟨rfl, fun _ _ => rfl⟩
      · rw [cmpI_neg] at h
        have hv : Ev.tick (c m) < Ev.tick (c q) := by simpa using h
        (repeat (first | refine wpS_seq ?_ | refine wpS_reg ?_ | refine run_step rfl (by ((repeat' (first | exact aN | refine aC ?_ ?_ | intro _)) <;> first | assumption | omega | (simp only [obS] at *; omega) | (intros; first | rfl | assumption | omega | simp_all; done))) ?_ | refine run_nil ?_ | refine wpS_block ?_ | refine wpS_skip ?_ | refine wpS_exit ?_ | refine wpS_ret ?_))
        refine ⟨(i, q), ⟨p1, q1, by dsimp only; omega, p4, fun t t1 t2 => ?_⟩, by dsimp only; omega, ?_⟩
        · have := hs1.le (i := q) (j := t) (by omega) t1 t2
          omega
        · refine ent_le ?_; (repeat' (first | exact aN | refine aC ?_ ?_)) <;> first | rfl | exact ⟨rfl, fun _ _ => rfl⟩
    · have hij : i = j := by simp at h; omega
      subst hij
      clear h
      (repeat (first | refine wpS_seq ?_ | refine wpS_reg ?_ | refine run_step rfl (by ((repeat' (first | exact aN | refine aC ?_ ?_ | intro _)) <;> first | assumption | omega | (simp only [obS] at *; omega) | (intros; first | rfl | assumption | omega | simp_all; done))) ?_ | refine run_nil ?_ | refine wpS_block ?_ | refine wpS_skip ?_ | refine wpS_exit ?_ | refine wpS_ret ?_))
      refine wpS_loop (fun p => i ≤ p ∧ p ≤ m) (fun p => ⟨[(0, .ref PB), (14, .int .i64 (i : Nat)), (17, .int .i64 (p : Nat))], [(PB, .row 26 9 n fun t => evA (insC c (c m) p m t))]⟩) (fun p => p) m ⟨by omega, by omega⟩
        (by refine ent_le ?_; (repeat' (first | exact aN | refine aC ?_ ?_)) <;> first | rfl | exact ⟨rfl, fun t _ => by rw [insC_zero]⟩) ?_
      rintro p ⟨r1, r2⟩
      (repeat (first | refine wpS_seq ?_ | refine wpS_reg ?_ | refine run_step rfl (by ((repeat' (first | exact aN | refine aC ?_ ?_ | intro _)) <;> first | assumption | omega | (simp only [obS] at *; omega) | (intros; first | rfl | assumption | omega | simp_all; done))) ?_ | refine run_nil ?_ | refine wpS_block ?_ | refine wpS_skip ?_ | refine wpS_exit ?_ | refine wpS_ret ?_))
      refine wpS_cond rfl (by ((repeat' (first | exact aN | refine aC ?_ ?_ | intro _)) <;> first | assumption | omega | (simp only [obS] at *; omega) | (intros; first | rfl | assumption | omega | simp_all; done))) (fun h => ?_) (fun h => ?_)
      · have hlt : i < p := by simp at h; omega
        clear h
        have e1 : ((p : Int) - 1).toNat = p - 1 := by omega
        (repeat (first | refine wpS_seq ?_ | refine wpS_reg ?_ | refine run_step rfl (by ((repeat' (first | exact aN | refine aC ?_ ?_ | intro _)) <;> first | assumption | omega | (simp only [obS] at *; omega) | (intros; first | rfl | assumption | omega | simp_all; done))) ?_ | refine run_nil ?_ | refine wpS_block ?_ | refine wpS_skip ?_ | refine wpS_exit ?_ | refine wpS_ret ?_))
        refine wpS_D (by kernel_rfl) ?_; (repeat (refine trg_step rfl (by ((repeat' (first | exact aN | refine aC ?_ ?_ | intro _)) <;> first | assumption | omega | (simp only [obS] at *; omega) | (intros; first | rfl | assumption | omega | simp_all; done))) ?_)); refine trg_nil ⟨rfl, ?_⟩
        (repeat (first | refine wpS_seq ?_ | refine wpS_reg ?_ | refine run_step rfl (by ((repeat' (first | exact aN | refine aC ?_ ?_ | intro _)) <;> first | assumption | omega | (simp only [obS] at *; omega) | (intros; first | rfl | assumption | omega | simp_all; done))) ?_ | refine run_nil ?_ | refine wpS_block ?_ | refine wpS_skip ?_ | refine wpS_exit ?_ | refine wpS_ret ?_))
        refine ⟨p - 1, ⟨by omega, by omega⟩, by dsimp only; omega, ?_⟩
        refine ent_le ?_; (repeat' (first | exact aN | refine aC ?_ ?_)) <;> first | rfl | omega | (refine ⟨rfl, fun t _ => ?_⟩)
        simp only [Int.toNat_natCast, e1, stored_eq, insC_prev _ _ (show 0 < p by omega) r2 t]
        by_cases t1 : t = p - 1
        · have t2 : ¬ t = p := by omega
          simp only [if_pos t1, if_neg t2, insC_at]; rfl
        · by_cases t2 : t = p
          · simp only [if_neg t1, if_pos t2, insC_lo _ _ (show p - 1 < p by omega)]; rfl
          · simp only [if_neg t1, if_neg t2]
      · have hge : p = i := by simp at h; omega
        subst hge
        clear h
        (repeat (first | refine wpS_seq ?_ | refine wpS_reg ?_ | refine run_step rfl (by ((repeat' (first | exact aN | refine aC ?_ ?_ | intro _)) <;> first | assumption | omega | (simp only [obS] at *; omega) | (intros; first | rfl | assumption | omega | simp_all; done))) ?_ | refine run_nil ?_ | refine wpS_block ?_ | refine wpS_skip ?_ | refine wpS_exit ?_ | refine wpS_ret ?_))
        refine fin_mkR rfl ?_ ?_ <;> (repeat' (first | exact aN | refine aC ?_ ?_))
        refine ⟨rfl, fun t _ => ?_⟩
        dsimp only
        subst hb
        rw [ins_done' p1 p3 hs1 (fun t t1 t2 => p5 t t1 t2) (fun h => p4 _ (by omega) (by omega))]
  have hb1 : ¬ b = m + 1 := by intro e; subst e; simp at h; omega
  clear h
  refine wpS_skip ?_
  refine wpS_seq ?_; refine wpS_reg ?_; (repeat (refine run_step rfl (by ((repeat' (first | exact aN | refine aC ?_ ?_ | intro _)) <;> first | assumption | omega | (simp only [obS] at *; omega) | (intros; first | rfl | assumption | omega | simp_all; done))) ?_)); refine run_nil ?_
  refine wpS_ent (ent_slot 18 (.int .i64 (((a + b) / 2 : Nat) : Int)) ⟨half a b (by omega), trivial⟩) ?_
  obtain ⟨mid, hmid⟩ : ∃ mid, mid = (a + b) / 2 := ⟨_, rfl⟩
  rw [← hmid]
  have m1 : 2 * mid ≤ a + b := by omega
  have m2 : a + b ≤ 2 * mid + 1 := by omega
  clear hmid
  refine wpS_seq ?_; refine wpS_reg ?_; (repeat (refine run_step rfl (by ((repeat' (first | exact aN | refine aC ?_ ?_ | intro _)) <;> first | assumption | omega | (simp only [obS] at *; omega) | (intros; first | rfl | assumption | omega | simp_all; done))) ?_)); refine run_nil ?_
  refine wpS_seq ?_; refine wpS_reg ?_; (repeat (refine run_step rfl (by ((repeat' (first | exact aN | refine aC ?_ ?_ | intro _)) <;> first | assumption | omega | (simp only [obS] at *; omega) | (intros; first | rfl | assumption | omega | simp_all; done))) ?_)); refine run_nil ?_
  refine wpS_seq ?_
  refine wpS_seq ?_; refine wpS_reg ?_; (repeat (refine run_step rfl (by ((repeat' (first | exact aN | refine aC ?_ ?_ | intro _)) <;> first | assumption | omega | (simp only [obS] at *; omega) | (intros; first | rfl | assumption | omega | simp_all; done))) ?_)); refine run_nil ?_
  refine wpS_join (fun (p : Nat × Nat) => a ≤ p.1 ∧ p.1 ≤ p.2 ∧ p.2 ≤ m ∧ p.2 ≤ mid ∧ mid ≤ p.1 + (b - m) ∧ (p.1 = a ∨ mid + m - p.1 = b) ∧ (p.2 = m ∨ p.2 = mid)) (fun p => ⟨[(0, .ref PB), (1, .int .i64 (a : Nat)), (2, .int .i64 (m : Nat)), (3, .int .i64 (b : Nat)), (4, .fn 85 []), (18, .int .i64 (mid : Nat)), (19, .int .i64 ((mid : Nat) + (m : Nat) : Int)), (20, .int .i64 (p.1 : Nat)), (21, .int .i64 (p.2 : Nat))], [(PB, .row 26 9 n fun t => evA (c t))]⟩) ?_ ?_
  · refine wpS_cond rfl (by ((repeat' (first | exact aN | refine aC ?_ ?_ | intro _)) <;> first | assumption | omega | (simp only [obS] at *; omega) | (intros; first | rfl | assumption | omega | simp_all; done))) (fun h => ?_) (fun h => ?_)
    · have hmm : mid < m := by simpa using h
      (repeat (first | refine wpS_seq ?_ | refine wpS_reg ?_ | refine run_step rfl (by ((repeat' (first | exact aN | refine aC ?_ ?_ | intro _)) <;> first | assumption | omega | (simp only [obS] at *; omega) | (intros; first | rfl | assumption | omega | simp_all; done))) ?_ | refine run_nil ?_ | refine wpS_block ?_ | refine wpS_skip ?_ | refine wpS_exit ?_ | refine wpS_ret ?_))
      refine ⟨(mid + m - b, mid), ⟨by dsimp only; omega, by dsimp only; omega, by dsimp only; omega, Nat.le_refl _, by dsimp only; omega, .inr (by dsimp only; omega), .inr rfl⟩, ?_⟩
      refine ent_le ?_; (repeat' (first | exact aN | refine aC ?_ ?_)) <;> first | rfl | omega | (dsimp only; omega) | exact ⟨rfl, fun _ _ => rfl⟩
    · have hmm : ¬ mid < m := by simpa using h
      (repeat (first | refine wpS_seq ?_ | refine wpS_reg ?_ | refine run_step rfl (by ((repeat' (first | exact aN | refine aC ?_ ?_ | intro _)) <;> first | assumption | omega | (simp only [obS] at *; omega) | (intros; first | rfl | assumption | omega | simp_all; done))) ?_ | refine run_nil ?_ | refine wpS_block ?_ | refine wpS_skip ?_ | refine wpS_exit ?_ | refine wpS_ret ?_))
      refine ⟨(a, m), ⟨Nat.le_refl _, by dsimp only; omega, Nat.le_refl _, by dsimp only; omega, by dsimp only; omega, .inl rfl, .inl rfl⟩, ?_⟩
      refine ent_le ?_; (repeat' (first | exact aN | refine aC ?_ ?_)) <;> first | rfl | omega | (dsimp only; omega) | exact ⟨rfl, fun _ _ => rfl⟩
  rintro ⟨st0, r0⟩ ⟨o1, o2, o3, o4, o5, o6, o7⟩
  dsimp only at o1 o2 o3 o4 o5 o6 o7 ⊢
  (repeat (first | refine wpS_seq ?_ | refine wpS_reg ?_ | refine run_step rfl (by ((repeat' (first | exact aN | refine aC ?_ ?_ | intro _)) <;> first | assumption | omega | (simp only [obS] at *; omega) | (intros; first | rfl | assumption | omega | simp_all; done))) ?_ | refine run_nil ?_ | refine wpS_block ?_ | refine wpS_skip ?_ | refine wpS_exit ?_ | refine wpS_ret ?_))
  refine wpS_loop (fun (p : Nat × Nat) => st0 ≤ p.1 ∧ p.1 ≤ p.2 ∧ p.2 ≤ r0 ∧ (st0 < p.1 → Ev.tick (c (p.1 - 1)) ≤ Ev.tick (c (mid + m - p.1))) ∧ (p.2 < r0 → Ev.tick (c (mid + m - 1 - p.2)) < Ev.tick (c p.2))) (fun p => ⟨[(0, .ref PB), (1, .int .i64 (a : Nat)), (2, .int .i64 (m : Nat)), (3, .int .i64 (b : Nat)), (4, .fn 85 []), (18, .int .i64 (mid : Nat)), (19, .int .i64 ((mid : Nat) + (m : Nat) : Int)), (20, .int .i64 (p.1 : Nat)), (21, .int .i64 (p.2 : Nat)), (22, .int .i64 ((mid : Nat) + (m : Nat) - 1 : Int))], [(PB, .row 26 9 n fun t => evA (c t))]⟩) (fun p => p.2 - p.1) (st0, r0)
    ⟨Nat.le_refl _, o2, Nat.le_refl _, by dsimp only; omega, by dsimp only; omega⟩ (by refine ent_le ?_; (repeat' (first | exact aN | refine aC ?_ ?_)) <;> first | rfl | omega | (dsimp only; omega) | exact ⟨rfl, fun _ _ => rfl⟩) ?_
  rintro ⟨st, r⟩ ⟨p1, p2, p3, p4, p5⟩
  dsimp only at p1 p2 p3 p4 p5 ⊢
  (repeat (first | refine wpS_seq ?_ | refine wpS_reg ?_ | refine run_step rfl (by ((repeat' (first | exact aN | refine aC ?_ ?_ | intro _)) <;> first | assumption | omega | (simp only [obS] at *; omega) | (intros; first | rfl | assumption | omega | simp_all; done))) ?_ | refine run_nil ?_ | refine wpS_block ?_ | refine wpS_skip ?_ | refine wpS_exit ?_ | refine wpS_ret ?_))
  refine wpS_cond rfl (by ((repeat' (first | exact aN | refine aC ?_ ?_ | intro _)) <;> first | assumption | omega | (simp only [obS] at *; omega) | (intros; first | rfl | assumption | omega | simp_all; done))) (fun h => ?_) (fun h => ?_)
  · have hlt : st < r := by simpa using h
    clear h
    (repeat (first | refine wpS_seq ?_ | refine wpS_reg ?_ | refine run_step rfl (by ((repeat' (first | exact aN | refine aC ?_ ?_ | intro _)) <;> first | assumption | omega | (simp only [obS] at *; omega) | (intros; first | rfl | assumption | omega | simp_all; done))) ?_ | refine run_nil ?_ | refine wpS_block ?_ | refine wpS_skip ?_ | refine wpS_exit ?_ | refine wpS_ret ?_))
    refine wpS_ent (ent_slot 23 (.int .i64 (((st + r) / 2 : Nat) : Int)) ⟨half st r (by omega), trivial⟩) ?_
    obtain ⟨q, hq⟩ : ∃ q, q = (st + r) / 2 := ⟨_, rfl⟩
    rw [← hq]
    have q1 : st ≤ q := by omega
    have q2 : q < r := by omega
    clear hq
    have e1 : ((mid : Int) + (m : Int) - 1 - (q : Int)).toNat = mid + m - 1 - q := by omega
    refine wpS_D (by kernel_rfl) ?_
    (repeat (refine trg_step rfl (by ((repeat' (first | exact aN | refine aC ?_ ?_ | intro _)) <;> first | assumption | omega | (simp only [obS] at *; omega) | (intros; first | rfl | assumption | omega | simp_all; done))) ?_))
    refine trg_c ((evcmp_spec (c ((mid : Int) + (m : Int) - 1 - (q : Int)).toNat) (c q))) rfl (by ((repeat' (first | exact aN | refine aC ?_ ?_ | intro _)) <;> first | assumption | omega | (simp only [obS] at *; omega) | (intros; first | rfl | assumption | omega | simp_all; done))) rfl rfl (.inl rfl) ?_
    (repeat (refine trg_step rfl (by ((repeat' (first | exact aN | refine aC ?_ ?_ | intro _)) <;> first | assumption | omega | (simp only [obS] at *; omega) | (intros; first | rfl | assumption | omega | simp_all; done))) ?_))
    refine trg_nil ⟨rfl, ?_⟩
    refine wpS_cond rfl (by ((repeat' (first | exact aN | refine aC ?_ ?_ | intro _)) <;> first | assumption | omega | (simp only [obS] at *; omega) | (intros; first | rfl | assumption | omega | simp_all; done))) (fun h => ?_) (fun h => ?_)
    · rw [cmpI_neg, e1] at h
      have hv : ¬ Ev.tick (c (mid + m - 1 - q)) < Ev.tick (c q) := by simpa using h
      (repeat (first | refine wpS_seq ?_ | refine wpS_reg ?_ | refine run_step rfl (by ((repeat' (first | exact aN | refine aC ?_ ?_ | intro _)) <;> first | assumption | omega | (simp only [obS] at *; omega) | (intros; first | rfl | assumption | omega | simp_all; done))) ?_ | refine run_nil ?_ | refine wpS_block ?_ | refine wpS_skip ?_ | refine wpS_exit ?_ | refine wpS_ret ?_))
      refine ⟨(q + 1, r), ⟨by dsimp only; omega, by dsimp only; omega, p3, fun _ => ?_, p5⟩, by dsimp only; omega, ?_⟩
      · dsimp only
        rw [show q + 1 - 1 = q by omega, show mid + m - (q + 1) = mid + m - 1 - q by omega]
        omega
      · refine ent_le ?_; (repeat' (first | exact aN | refine aC ?_ ?_)) <;> first | rfl | exact ⟨rfl, fun _ _ => rfl⟩
    · rw [cmpI_neg, e1] at h
      have hv : Ev.tick (c (mid + m - 1 - q)) < Ev.tick (c q) := by simpa using h
      (repeat (first | refine wpS_seq ?_ | refine wpS_reg ?_ | refine run_step rfl (by ((repeat' (first | exact aN | refine aC ?_ ?_ | intro _)) <;> first | assumption | omega | (simp only [obS] at *; omega) | (intros; first | rfl | assumption | omega | simp_all; done))) ?_ | refine run_nil ?_ | refine wpS_block ?_ | refine wpS_skip ?_ | refine wpS_exit ?_ | refine wpS_ret ?_))
      refine ⟨(st, q), ⟨p1, q1, by dsimp only; omega, p4, fun _ => hv⟩, by dsimp only; omega, ?_⟩
      refine ent_le ?_; (repeat' (first | exact aN | refine aC ?_ ?_)) <;> first | rfl | exact ⟨rfl, fun _ _ => rfl⟩
  have hsr : st = r := by simp at h; omega
  subst hsr
  clear h
  have hp : Parts Ev.tick c a m b st (mid + m - st) mid := by
    refine ⟨by omega, by omega, by omega, by omega, by omega, hs1, hs2, fun t1 t2 => ?_, fun t1 t2 => ?_⟩
    · have := p5 (by omega)
      rwa [show mid + m - st - 1 = mid + m - 1 - st by omega]
    · exact p4 (by omega)
  obtain ⟨en, hen⟩ : ∃ en, en = mid + m - st := ⟨_, rfl⟩
  rw [← hen] at hp
  have hen' : (mid : Int) + (m : Int) - (st : Int) = (en : Nat) := by omega
  have w1 := hp.h1; have w2 := hp.h2; have w3 := hp.h3; have w4 := hp.h4; have w5 := hp.h5
  clear p4 p5
  (repeat (first | refine wpS_seq ?_ | refine wpS_reg ?_ | refine run_step rfl (by ((repeat' (first | exact aN | refine aC ?_ ?_ | intro _)) <;> first | assumption | omega | (simp only [obS] at *; omega) | (intros; first | rfl | assumption | omega | simp_all; done))) ?_ | refine run_nil ?_ | refine wpS_block ?_ | refine wpS_skip ?_ | refine wpS_exit ?_ | refine wpS_ret ?_))
  refine wpS_ent (ent_slot 24 (.int .i64 (en : Nat)) ⟨hen', trivial⟩) ?_
  refine wpS_join (fun _ : Unit => True) (fun _ => ⟨[(0, .ref PB), (1, .int .i64 (a : Nat)), (3, .int .i64 (b : Nat)), (4, .fn 85 []), (18, .int .i64 (mid : Nat)), (20, .int .i64 (st : Nat)), (24, .int .i64 (en : Nat))], [(PB, .row 26 9 n fun t => evA (rotC c st m en t))]⟩) ?_ ?_
  · refine wpS_cond rfl (by ((repeat' (first | exact aN | refine aC ?_ ?_ | intro _)) <;> first | assumption | omega | (simp only [obS] at *; omega) | (intros; first | rfl | assumption | omega | simp_all; done))) (fun h => ?_) (fun h => ?_)
    · have hv : st < m ∧ m < en := by
        rw [hen', bif_and, Bool.and_eq_true, decide_eq_true_eq, decide_eq_true_eq] at h
        omega
      clear h
      (repeat (first | refine wpS_seq ?_ | refine wpS_reg ?_ | refine run_step rfl (by ((repeat' (first | exact aN | refine aC ?_ ?_ | intro _)) <;> first | assumption | omega | (simp only [obS] at *; omega) | (intros; first | rfl | assumption | omega | simp_all; done))) ?_ | refine run_nil ?_ | refine wpS_block ?_ | refine wpS_skip ?_ | refine wpS_exit ?_ | refine wpS_ret ?_))
      refine run_cR id [PB] (evrot_spec c n st m en hv.1 hv.2 (by omega) hn) rfl rfl ⟨rfl, trivial⟩ rfl ?_
      (repeat (first | refine wpS_seq ?_ | refine wpS_reg ?_ | refine run_step rfl (by ((repeat' (first | exact aN | refine aC ?_ ?_ | intro _)) <;> first | assumption | omega | (simp only [obS] at *; omega) | (intros; first | rfl | assumption | omega | simp_all; done))) ?_ | refine run_nil ?_ | refine wpS_block ?_ | refine wpS_skip ?_ | refine wpS_exit ?_ | refine wpS_ret ?_))
      refine ⟨(), trivial, ?_⟩
      refine ent_le ?_; (repeat' (first | exact aN | refine aC ?_ ?_)) <;> first | rfl | omega | (dsimp only; omega) | exact ⟨rfl, fun _ _ => rfl⟩
    · have hv : st = m ∨ m = en := by
        rw [hen', bif_and, Bool.and_eq_false_iff, decide_eq_false_iff_not, decide_eq_false_iff_not] at h
        omega
      clear h
      (repeat (first | refine wpS_seq ?_ | refine wpS_reg ?_ | refine run_step rfl (by ((repeat' (first | exact aN | refine aC ?_ ?_ | intro _)) <;> first | assumption | omega | (simp only [obS] at *; omega) | (intros; first | rfl | assumption | omega | simp_all; done))) ?_ | refine run_nil ?_ | refine wpS_block ?_ | refine wpS_skip ?_ | refine wpS_exit ?_ | refine wpS_ret ?_))
      refine ⟨(), trivial, ?_⟩
      refine ent_le ?_; (repeat' (first | exact aN | refine aC ?_ ?_)) <;> first | rfl | omega | exact ⟨rfl, fun t _ => by rw [rot_none c hv w2 w3]⟩
  rintro _ _
  have s1 := hp.p1; have s2 := hp.p2; have s3 := hp.q3; have s4 := hp.q4; have hd := hp.done
  obtain ⟨c1, hc1⟩ : ∃ c1, c1 = rotC c st m en := ⟨_, rfl⟩
  rw [← hc1] at s1 s2 s3 s4 hd ⊢
  (repeat (first | refine wpS_seq ?_ | refine wpS_reg ?_ | refine run_step rfl (by ((repeat' (first | exact aN | refine aC ?_ ?_ | intro _)) <;> first | assumption | omega | (simp only [obS] at *; omega) | (intros; first | rfl | assumption | omega | simp_all; done))) ?_ | refine run_nil ?_ | refine wpS_block ?_ | refine wpS_skip ?_ | refine wpS_exit ?_ | refine wpS_ret ?_))
  refine wpS_join (fun _ : Unit => True) (fun _ => ⟨[(0, .ref PB), (3, .int .i64 (b : Nat)), (4, .fn 85 []), (18, .int .i64 (mid : Nat)), (24, .int .i64 (en : Nat))], [(PB, .row 26 9 n fun t => evA (sortC Ev.tick c1 a mid t))]⟩) ?_ ?_
  · refine wpS_cond rfl (by ((repeat' (first | exact aN | refine aC ?_ ?_ | intro _)) <;> first | assumption | omega | (simp only [obS] at *; omega) | (intros; first | rfl | assumption | omega | simp_all; done))) (fun h => ?_) (fun h => ?_)
    · have hv : a < st ∧ st < mid := by
        rw [bif_and, Bool.and_eq_true, decide_eq_true_eq, decide_eq_true_eq] at h
        omega
      clear h
      (repeat (first | refine wpS_seq ?_ | refine wpS_reg ?_ | refine run_step rfl (by ((repeat' (first | exact aN | refine aC ?_ ?_ | intro _)) <;> first | assumption | omega | (simp only [obS] at *; omega) | (intros; first | rfl | assumption | omega | simp_all; done))) ?_ | refine run_nil ?_ | refine wpS_block ?_ | refine wpS_skip ?_ | refine wpS_exit ?_ | refine wpS_ret ?_))
      refine run_cR id [PB] (ih c1 n a st mid (by omega) hv.1 hv.2 (by omega) hn s1 s2) rfl rfl ⟨rfl, trivial⟩ rfl ?_
      (repeat (first | refine wpS_seq ?_ | refine wpS_reg ?_ | refine run_step rfl (by ((repeat' (first | exact aN | refine aC ?_ ?_ | intro _)) <;> first | assumption | omega | (simp only [obS] at *; omega) | (intros; first | rfl | assumption | omega | simp_all; done))) ?_ | refine run_nil ?_ | refine wpS_block ?_ | refine wpS_skip ?_ | refine wpS_exit ?_ | refine wpS_ret ?_))
      refine ⟨(), trivial, ?_⟩
      refine ent_le ?_; (repeat' (first | exact aN | refine aC ?_ ?_)) <;> first | rfl | omega | (dsimp only; omega) | exact ⟨rfl, fun _ _ => rfl⟩
    · have hv : st = a ∨ st = mid := by
        rw [bif_and, Bool.and_eq_false_iff, decide_eq_false_iff_not, decide_eq_false_iff_not] at h
        omega
      clear h
      have hid : sortC Ev.tick c1 a mid = c1 := by
        rcases hv with hv | hv
        · exact sortC_id (hv ▸ s2)
        · exact sortC_id (hv ▸ s1)
      (repeat (first | refine wpS_seq ?_ | refine wpS_reg ?_ | refine run_step rfl (by ((repeat' (first | exact aN | refine aC ?_ ?_ | intro _)) <;> first | assumption | omega | (simp only [obS] at *; omega) | (intros; first | rfl | assumption | omega | simp_all; done))) ?_ | refine run_nil ?_ | refine wpS_block ?_ | refine wpS_skip ?_ | refine wpS_exit ?_ | refine wpS_ret ?_))
      refine ⟨(), trivial, ?_⟩
      refine ent_le ?_; (repeat' (first | exact aN | refine aC ?_ ?_)) <;> first | rfl | omega | exact ⟨rfl, fun t _ => by rw [hid]⟩
  rintro _ _
  obtain ⟨c2, hc2⟩ : ∃ c2, c2 = sortC Ev.tick c1 a mid := ⟨_, rfl⟩
  rw [← hc2] at s3 s4 hd ⊢
  (repeat (first | refine wpS_seq ?_ | refine wpS_reg ?_ | refine run_step rfl (by ((repeat' (first | exact aN | refine aC ?_ ?_ | intro _)) <;> first | assumption | omega | (simp only [obS] at *; omega) | (intros; first | rfl | assumption | omega | simp_all; done))) ?_ | refine run_nil ?_ | refine wpS_block ?_ | refine wpS_skip ?_ | refine wpS_exit ?_ | refine wpS_ret ?_))
  refine wpS_cond rfl (by ((repeat' (first | exact aN | refine aC ?_ ?_ | intro _)) <;> first | assumption | omega | (simp only [obS] at *; omega) | (intros; first | rfl | assumption | omega | simp_all; done))) (fun h => ?_) (fun h => ?_)
  · have hv : mid < en ∧ en < b := by
      rw [bif_and, Bool.and_eq_true, decide_eq_true_eq, decide_eq_true_eq] at h
      omega
    clear h
    (repeat (first | refine wpS_seq ?_ | refine wpS_reg ?_ | refine run_step rfl (by ((repeat' (first | exact aN | refine aC ?_ ?_ | intro _)) <;> first | assumption | omega | (simp only [obS] at *; omega) | (intros; first | rfl | assumption | omega | simp_all; done))) ?_ | refine run_nil ?_ | refine wpS_block ?_ | refine wpS_skip ?_ | refine wpS_exit ?_ | refine wpS_ret ?_))
    refine run_cR id [PB] (ih c2 n mid en b (by omega) hv.1 hv.2 (by omega) hn s3 s4) rfl rfl ⟨rfl, trivial⟩ rfl ?_
    (repeat (first | refine wpS_seq ?_ | refine wpS_reg ?_ | refine run_step rfl (by ((repeat' (first | exact aN | refine aC ?_ ?_ | intro _)) <;> first | assumption | omega | (simp only [obS] at *; omega) | (intros; first | rfl | assumption | omega | simp_all; done))) ?_ | refine run_nil ?_ | refine wpS_block ?_ | refine wpS_skip ?_ | refine wpS_exit ?_ | refine wpS_ret ?_))
    refine fin_mkR rfl ?_ ?_ <;> (repeat' (first | exact aN | refine aC ?_ ?_))
    exact ⟨rfl, fun t _ => by dsimp only; rw [hd]⟩
  · have hv : mid = en ∨ en = b := by
      rw [bif_and, Bool.and_eq_false_iff, decide_eq_false_iff_not, decide_eq_false_iff_not] at h
      omega
    clear h
    have hid : sortC Ev.tick c2 mid b = c2 := by
      rcases hv with hv | hv
      · exact sortC_id (hv ▸ s4)
      · exact sortC_id (hv ▸ s3)
    (repeat (first | refine wpS_seq ?_ | refine wpS_reg ?_ | refine run_step rfl (by ((repeat' (first | exact aN | refine aC ?_ ?_ | intro _)) <;> first | assumption | omega | (simp only [obS] at *; omega) | (intros; first | rfl | assumption | omega | simp_all; done))) ?_ | refine run_nil ?_ | refine wpS_block ?_ | refine wpS_skip ?_ | refine wpS_exit ?_ | refine wpS_ret ?_))
    refine fin_mkR rfl ?_ ?_ <;> (repeat' (first | exact aN | refine aC ?_ ?_))
    exact ⟨rfl, fun t _ => by dsimp only; rw [← hd, hid]⟩
end Go.Proofs
end
/- part BkStab -/
section
namespace Go.Proofs
open Go.Av Go.Pu
set_option maxHeartbeats 4000000 in
theorem evstab_spec (c : Nat → Ev) (n : Nat) (hn : n ≤ maxL) : SpecR Tryz.prog 105 [.ref PB, .int .i64 (n : Nat), .fn 85 []] [(PB, .row 26 9 n fun t => evA (c t))] (.tup []) [(PB, .row 26 9 n fun t => evA (sortC Ev.tick c 0 n t))] := by
  have hn' := hn
  rw [maxL_eq] at hn'
  refine specR ok105 fun C _ => ?_
  (repeat (first | refine wpS_seq ?_ | refine wpS_reg ?_ | refine run_step rfl (by ((repeat' (first | exact aN | refine aC ?_ ?_ | intro _)) <;> first | assumption | omega | (simp only [obS] at *; omega) | (intros; first | rfl | assumption | omega | simp_all; done))) ?_ | refine run_nil ?_ | refine wpS_block ?_ | refine wpS_skip ?_ | refine wpS_exit ?_ | refine wpS_ret ?_))
  refine wpS_loop (fun (p : Nat × (Nat → Ev)) => p.1 ≤ n ∧ 20 ∣ p.1 ∧ BS Ev.tick p.2 20 p.1 ∧ Same Ev.tick c p.2 n) (fun p => ⟨[(0, .ref PB), (1, .int .i64 (n : Nat)), (2, .fn 85 []), (6, .int .i64 20), (7, .int .i64 (p.1 : Nat)), (8, .int .i64 ((p.1 : Nat) + 20 : Int))], [(PB, .row 26 9 n fun t => evA (p.2 t))]⟩) (fun p => n - p.1) (0, c)
    ⟨by omega, ⟨0, rfl⟩, BS.zero _ _, Same.refl _ _⟩ (by refine ent_le ?_; (repeat' (first | exact aN | refine aC ?_ ?_)) <;> first | rfl | exact ⟨rfl, fun _ _ => rfl⟩) ?_
  rintro ⟨a, d⟩ ⟨p1, p2, p3, p4⟩
  dsimp only at p1 p2 p3 p4 ⊢
  (repeat (first | refine wpS_seq ?_ | refine wpS_reg ?_ | refine run_step rfl (by ((repeat' (first | exact aN | refine aC ?_ ?_ | intro _)) <;> first | assumption | omega | (simp only [obS] at *; omega) | (intros; first | rfl | assumption | omega | simp_all; done))) ?_ | refine run_nil ?_ | refine wpS_block ?_ | refine wpS_skip ?_ | refine wpS_exit ?_ | refine wpS_ret ?_))
  refine wpS_cond rfl (by ((repeat' (first | exact aN | refine aC ?_ ?_ | intro _)) <;> first | assumption | omega | (simp only [obS] at *; omega) | (intros; first | rfl | assumption | omega | simp_all; done))) (fun h => ?_) (fun h => ?_)
  · have hle : a + 20 ≤ n := by simp at h; omega
    clear h
    (repeat (first | refine wpS_seq ?_ | refine wpS_reg ?_ | refine run_step rfl (by ((repeat' (first | exact aN | refine aC ?_ ?_ | intro _)) <;> first | assumption | omega | (simp only [obS] at *; omega) | (intros; first | rfl | assumption | omega | simp_all; done))) ?_ | refine run_nil ?_ | refine wpS_block ?_ | refine wpS_skip ?_ | refine wpS_exit ?_ | refine wpS_ret ?_))
    refine run_cR id [PB] (evins_spec d n a (a + 20) (by omega) hle hn) rfl rfl ⟨rfl, trivial⟩ rfl ?_
    (repeat (first | refine wpS_seq ?_ | refine wpS_reg ?_ | refine run_step rfl (by ((repeat' (first | exact aN | refine aC ?_ ?_ | intro _)) <;> first | assumption | omega | (simp only [obS] at *; omega) | (intros; first | rfl | assumption | omega | simp_all; done))) ?_ | refine run_nil ?_ | refine wpS_block ?_ | refine wpS_skip ?_ | refine wpS_exit ?_ | refine wpS_ret ?_))
    refine ⟨(a + 20, sortC Ev.tick d a (a + 20)), ⟨hle, (Nat.dvd_add_right p2).2 (Nat.dvd_refl _), p3.next p2 _, p4.sort (by omega) hle⟩, by dsimp only; omega, ?_⟩
    refine ent_le ?_; (repeat' (first | exact aN | refine aC ?_ ?_)) <;> first | rfl | omega | (dsimp only; omega) | exact ⟨rfl, fun _ _ => rfl⟩
  have hlt : n < a + 20 := by simp at h; omega
  clear h
  (repeat (first | refine wpS_seq ?_ | refine wpS_reg ?_ | refine run_step rfl (by ((repeat' (first | exact aN | refine aC ?_ ?_ | intro _)) <;> first | assumption | omega | (simp only [obS] at *; omega) | (intros; first | rfl | assumption | omega | simp_all; done))) ?_ | refine run_nil ?_ | refine wpS_block ?_ | refine wpS_skip ?_ | refine wpS_exit ?_ | refine wpS_ret ?_))
  refine run_cR id [PB] (evins_spec d n a n p1 (Nat.le_refl _) hn) rfl rfl ⟨rfl, trivial⟩ rfl ?_
  (repeat (first | refine wpS_seq ?_ | refine wpS_reg ?_ | refine run_step rfl (by ((repeat' (first | exact aN | refine aC ?_ ?_ | intro _)) <;> first | assumption | omega | (simp only [obS] at *; omega) | (intros; first | rfl | assumption | omega | simp_all; done))) ?_ | refine run_nil ?_ | refine wpS_block ?_ | refine wpS_skip ?_ | refine wpS_exit ?_ | refine wpS_ret ?_))
  have q1 := p3.next p2 n
  have q2 := p4.sort p1 (Nat.le_refl n)
  clear p3 p4
  generalize sortC Ev.tick d a n = d0 at q1 q2 ⊢
  refine wpS_loop (fun (p : Nat × (Nat → Ev)) => 0 < p.1 ∧ p.1 ≤ 2 * n + 20 ∧ BS Ev.tick p.2 p.1 n ∧ Same Ev.tick c p.2 n) (fun p => ⟨[(0, .ref PB), (1, .int .i64 (n : Nat)), (2, .fn 85 []), (6, .int .i64 (p.1 : Nat))], [(PB, .row 26 9 n fun t => evA (p.2 t))]⟩) (fun p => n - p.1) (20, d0)
    ⟨by omega, by omega, q1, q2⟩ (by refine ent_le ?_; (repeat' (first | exact aN | refine aC ?_ ?_)) <;> first | rfl | exact ⟨rfl, fun _ _ => rfl⟩) ?_
  clear q1 q2 p1 p2 hlt
  rintro ⟨B, d⟩ ⟨p1, p2, p3, p4⟩
  dsimp only at p1 p2 p3 p4 ⊢
  (repeat (first | refine wpS_seq ?_ | refine wpS_reg ?_ | refine run_step rfl (by ((repeat' (first | exact aN | refine aC ?_ ?_ | intro _)) <;> first | assumption | omega | (simp only [obS] at *; omega) | (intros; first | rfl | assumption | omega | simp_all; done))) ?_ | refine run_nil ?_ | refine wpS_block ?_ | refine wpS_skip ?_ | refine wpS_exit ?_ | refine wpS_ret ?_))
  refine wpS_cond rfl (by ((repeat' (first | exact aN | refine aC ?_ ?_ | intro _)) <;> first | assumption | omega | (simp only [obS] at *; omega) | (intros; first | rfl | assumption | omega | simp_all; done))) (fun h => ?_) (fun h => ?_)
  · have hlt : B < n := by simp at h; omega
    clear h
    (repeat (first | refine wpS_seq ?_ | refine wpS_reg ?_ | refine run_step rfl (by ((repeat' (first | exact aN | refine aC ?_ ?_ | intro _)) <;> first | assumption | omega | (simp only [obS] at *; omega) | (intros; first | rfl | assumption | omega | simp_all; done))) ?_ | refine run_nil ?_ | refine wpS_block ?_ | refine wpS_skip ?_ | refine wpS_exit ?_ | refine wpS_ret ?_))
    refine wpS_loop (fun (p : Nat × (Nat → Ev)) => p.1 ≤ n ∧ 2 * B ∣ p.1 ∧ BS Ev.tick p.2 (2 * B) p.1 ∧ BS Ev.tick p.2 B n ∧ Same Ev.tick c p.2 n) (fun p => ⟨[(0, .ref PB), (1, .int .i64 (n : Nat)), (2, .fn 85 []), (6, .int .i64 (B : Nat)), (7, .int .i64 (p.1 : Nat)), (8, .int .i64 ((p.1 : Nat) + 2 * (B : Nat) : Int))], [(PB, .row 26 9 n fun t => evA (p.2 t))]⟩) (fun p => n - p.1) (0, d)
      ⟨by omega, ⟨0, rfl⟩, BS.zero _ _, p3, p4⟩ (by refine ent_le ?_; (repeat' (first | exact aN | refine aC ?_ ?_)) <;> first | rfl | omega | (dsimp only; omega) | exact ⟨rfl, fun _ _ => rfl⟩) ?_
    clear p3 p4
    rintro ⟨a, d⟩ ⟨r1, r2, r3, r4, r5⟩
    dsimp only at r1 r2 r3 r4 r5 ⊢
    have ra : B ∣ a := Nat.dvd_trans ⟨2, by omega⟩ r2
    (repeat (first | refine wpS_seq ?_ | refine wpS_reg ?_ | refine run_step rfl (by ((repeat' (first | exact aN | refine aC ?_ ?_ | intro _)) <;> first | assumption | omega | (simp only [obS] at *; omega) | (intros; first | rfl | assumption | omega | simp_all; done))) ?_ | refine run_nil ?_ | refine wpS_block ?_ | refine wpS_skip ?_ | refine wpS_exit ?_ | refine wpS_ret ?_))
    refine wpS_cond rfl (by ((repeat' (first | exact aN | refine aC ?_ ?_ | intro _)) <;> first | assumption | omega | (simp only [obS] at *; omega) | (intros; first | rfl | assumption | omega | simp_all; done))) (fun h => ?_) (fun h => ?_)
    · have hle : a + 2 * B ≤ n := by simp at h; omega
      clear h
      have e1 : (a : Int) + (B : Int) = ((a + B : Nat) : Int) := by omega
      have e2 : (a : Int) + 2 * (B : Int) = ((a + 2 * B : Nat) : Int) := by omega
      (repeat (first | refine wpS_seq ?_ | refine wpS_reg ?_ | refine run_step rfl (by ((repeat' (first | exact aN | refine aC ?_ ?_ | intro _)) <;> first | assumption | omega | (simp only [obS] at *; omega) | (intros; first | rfl | assumption | omega | simp_all; done))) ?_ | refine run_nil ?_ | refine wpS_block ?_ | refine wpS_skip ?_ | refine wpS_exit ?_ | refine wpS_ret ?_))
      rw [e1, e2]
      refine run_cR id [PB] (evsym_spec _ d n a (a + B) (a + 2 * B) (Nat.le_refl _) (by omega) (by omega) hle hn (r4.srt ra (Nat.le_refl _) (by omega)) (r4.srt ((Nat.dvd_add_right ra).2 (Nat.dvd_refl _)) (by omega) hle)) rfl rfl ⟨rfl, trivial⟩ rfl ?_
      (repeat (first | refine wpS_seq ?_ | refine wpS_reg ?_ | refine run_step rfl (by ((repeat' (first | exact aN | refine aC ?_ ?_ | intro _)) <;> first | assumption | omega | (simp only [obS] at *; omega) | (intros; first | rfl | assumption | omega | simp_all; done))) ?_ | refine run_nil ?_ | refine wpS_block ?_ | refine wpS_skip ?_ | refine wpS_exit ?_ | refine wpS_ret ?_))
      refine ⟨(a + 2 * B, sortC Ev.tick d a (a + 2 * B)), ⟨hle, (Nat.dvd_add_right r2).2 (Nat.dvd_refl _), r3.next r2 _, r4.sort ra (.inl ((Nat.dvd_add_right ra).2 ⟨2, by omega⟩)), r5.sort (by omega) hle⟩, by dsimp only; omega, ?_⟩
      refine ent_le ?_; (repeat' (first | exact aN | refine aC ?_ ?_)) <;> first | rfl | omega | (dsimp only; omega) | exact ⟨rfl, fun _ _ => rfl⟩
    have hlt2 : n < a + 2 * B := by simp at h; omega
    clear h
    (repeat (first | refine wpS_seq ?_ | refine wpS_reg ?_ | refine run_step rfl (by ((repeat' (first | exact aN | refine aC ?_ ?_ | intro _)) <;> first | assumption | omega | (simp only [obS] at *; omega) | (intros; first | rfl | assumption | omega | simp_all; done))) ?_ | refine run_nil ?_ | refine wpS_block ?_ | refine wpS_skip ?_ | refine wpS_exit ?_ | refine wpS_ret ?_))
    have e1 : (a : Int) + (B : Int) = ((a + B : Nat) : Int) := by omega
    rw [e1]
    refine wpS_cond rfl (by ((repeat' (first | exact aN | refine aC ?_ ?_ | intro _)) <;> first | assumption | omega | (simp only [obS] at *; omega) | (intros; first | rfl | assumption | omega | simp_all; done))) (fun h => ?_) (fun h => ?_)
    · have hm : a + B < n := by simp at h; omega
      clear h
      (repeat (first | refine wpS_seq ?_ | refine wpS_reg ?_ | refine run_step rfl (by ((repeat' (first | exact aN | refine aC ?_ ?_ | intro _)) <;> first | assumption | omega | (simp only [obS] at *; omega) | (intros; first | rfl | assumption | omega | simp_all; done))) ?_ | refine run_nil ?_ | refine wpS_block ?_ | refine wpS_skip ?_ | refine wpS_exit ?_ | refine wpS_ret ?_))
      refine run_cR id [PB] (evsym_spec _ d n a (a + B) n (Nat.le_refl _) (by omega) hm (Nat.le_refl _) hn (r4.srt ra (Nat.le_refl _) (by omega)) (r4.srt ((Nat.dvd_add_right ra).2 (Nat.dvd_refl _)) (by omega) (Nat.le_refl _))) rfl rfl ⟨rfl, trivial⟩ rfl ?_
      (repeat (first | refine wpS_seq ?_ | refine wpS_reg ?_ | refine run_step rfl (by ((repeat' (first | exact aN | refine aC ?_ ?_ | intro _)) <;> first | assumption | omega | (simp only [obS] at *; omega) | (intros; first | rfl | assumption | omega | simp_all; done))) ?_ | refine run_nil ?_ | refine wpS_block ?_ | refine wpS_skip ?_ | refine wpS_exit ?_ | refine wpS_ret ?_))
      refine ⟨(2 * B, sortC Ev.tick d a n), ⟨by dsimp only; omega, by dsimp only; omega, r3.next r2 _, r5.sort r1 (Nat.le_refl _)⟩, by dsimp only; omega, ?_⟩
      refine ent_le ?_; (repeat' (first | exact aN | refine aC ?_ ?_)) <;> first | rfl | omega | (dsimp only; omega) | exact ⟨rfl, fun _ _ => rfl⟩
    · have hm : n ≤ a + B := by simp at h; omega
      clear h
      (repeat (first | refine wpS_seq ?_ | refine wpS_reg ?_ | refine run_step rfl (by ((repeat' (first | exact aN | refine aC ?_ ?_ | intro _)) <;> first | assumption | omega | (simp only [obS] at *; omega) | (intros; first | rfl | assumption | omega | simp_all; done))) ?_ | refine run_nil ?_ | refine wpS_block ?_ | refine wpS_skip ?_ | refine wpS_exit ?_ | refine wpS_ret ?_))
      refine ⟨(2 * B, d), ⟨by dsimp only; omega, by dsimp only; omega, r3.last r4 r2 hm, r5⟩, by dsimp only; omega, ?_⟩
      refine ent_le ?_; (repeat' (first | exact aN | refine aC ?_ ?_)) <;> first | rfl | omega | (dsimp only; omega) | exact ⟨rfl, fun _ _ => rfl⟩
  · have hge : n ≤ B := by simp at h; omega
    clear h
    have hd := p4.done p3 hge
    (repeat (first | refine wpS_seq ?_ | refine wpS_reg ?_ | refine run_step rfl (by ((repeat' (first | exact aN | refine aC ?_ ?_ | intro _)) <;> first | assumption | omega | (simp only [obS] at *; omega) | (intros; first | rfl | assumption | omega | simp_all; done))) ?_ | refine run_nil ?_ | refine wpS_block ?_ | refine wpS_skip ?_ | refine wpS_exit ?_ | refine wpS_ret ?_))
    refine fin_mkR rfl ?_ ?_ <;> (repeat' (first | exact aN | refine aC ?_ ?_))
    exact ⟨rfl, fun t _ => by dsimp only; rw [← hd]⟩
theorem evsort_spec (l : List Ev) (hn : l.length ≤ maxL) : SpecR Tryz.prog 84 [.ref PB, .fn 85 []] [(PB, .row 26 9 l.length fun t => evA (l.getD t default))] (.tup []) [(PB, .row 26 9 (sortS Ev.tick l).length fun t => evA ((sortS Ev.tick l).getD t default))] := by
  refine specR ok84 fun C _ => ?_
  (repeat (first | refine wpS_seq ?_ | refine wpS_reg ?_ | refine run_step rfl (by ((repeat' (first | exact aN | refine aC ?_ ?_ | intro _)) <;> first | assumption | omega | (simp only [obS] at *; omega) | (intros; first | rfl | assumption | omega | simp_all; done))) ?_ | refine run_nil ?_ | refine wpS_block ?_ | refine wpS_skip ?_ | refine wpS_exit ?_ | refine wpS_ret ?_))
  refine run_cR id [PB] (evstab_spec (fun t => l.getD t default) l.length hn) rfl rfl ⟨rfl, trivial⟩ rfl ?_
  (repeat (first | refine wpS_seq ?_ | refine wpS_reg ?_ | refine run_step rfl (by ((repeat' (first | exact aN | refine aC ?_ ?_ | intro _)) <;> first | assumption | omega | (simp only [obS] at *; omega) | (intros; first | rfl | assumption | omega | simp_all; done))) ?_ | refine run_nil ?_ | refine wpS_block ?_ | refine wpS_skip ?_ | refine wpS_exit ?_ | refine wpS_ret ?_))
  refine fin_mkR rfl ?_ ?_ <;> (repeat' (first | exact aN | refine aC ?_ ?_))
  exact ⟨(length_sortS l).symm, fun t ht => by dsimp only; rw [sortC_list ht]⟩
end Go.Proofs
end
/- part BkEv -/
section
namespace Go.Proofs
open Go.Av Go.Pu
def SmV (l : List En) : Prop := (evsRaw l).length ≤ 1000000
theorem len_evsEn (y : En) : (evsEn y).length = 1 + y.grs.length + (y.aps.flatMap (evsAp y.key)).length := by
  simp [evsEn]; omega
theorem len_evsAp (k : K) : ∀ l : List Ap, l.length ≤ (l.flatMap (evsAp k)).length
  | [] => by simp
  | a :: l => by
    have := len_evsAp k l
    simp only [List.flatMap_cons, List.length_append, List.length_cons]
    have : 1 ≤ (evsAp k a).length := by unfold evsAp; split <;> simp
    omega
theorem len_evsRaw_mem {l : List En} {y : En} (h : y ∈ l) : (evsEn y).length ≤ (evsRaw l).length := by
  obtain ⟨a, b, rfl⟩ := List.append_of_mem h
  simp only [evsRaw, List.flatMap_append, List.flatMap_cons, List.length_append]
  omega
theorem len_evsRaw (l : List En) : l.length ≤ (evsRaw l).length := by
  induction l with
  | nil => simp
  | cons y l ih =>
    have : (evsRaw (y :: l)).length = (evsEn y).length + (evsRaw l).length := by simp [evsRaw]
    have := len_evsEn y
    simp only [List.length_cons]
    omega
theorem SmV.b {l : List En} (h : SmV l) : SmB l := by
  unfold SmV at h
  refine ⟨Nat.le_trans (len_evsRaw l) h, fun y hy => ?_⟩
  have h1 := len_evsRaw_mem hy
  have h2 := len_evsEn y
  have h3 := len_evsAp y.key y.aps
  exact ⟨by omega, by omega⟩
theorem evsRaw_take {l : List En} {i : Nat} (h : i < l.length) : evsRaw (l.take (i + 1)) = evsRaw (l.take i) ++ evsEn l[i] := by
  simp only [evsRaw, take_succ_get h, List.flatMap_append, List.flatMap_cons, List.flatMap_nil, List.append_nil]
theorem len_evsRaw_take {l : List En} {i : Nat} (h : i < l.length) : (evsRaw (l.take i)).length + (evsEn l[i]).length ≤ (evsRaw l).length := by
  have e : evsRaw l = evsRaw (l.take (i + 1)) ++ evsRaw (l.drop (i + 1)) := by
    rw [evsRaw, evsRaw, evsRaw, ← List.flatMap_append, List.take_append_drop]
  rw [e, evsRaw_take h]
  simp only [List.length_append]
  omega
@[reducible] def RN : Nat := 800001
@[reducible] def evR (l : List Ev) : Rt := .row 26 9 l.length fun t => evA (l.getD t default)
def ρ1 (r : Nat) (q : Nat) : Nat := bif Nat.beq q PB then r else q
set_option maxHeartbeats 4000000 in
theorem events_spec (b : Bk) (hs : SmV b.ens) : Spec0 Tryz.prog 53 [bkA b] (evsA (evsBk b.ens)) := by
  have hb := hs.b
  have hbl := hb.1
  have hs' : (evsRaw b.ens).length ≤ 1000000 := hs
  refine spec0 ok53 rfl fun C _ => ?_
  (repeat (first | refine wpS_seq ?_ | refine wpS_reg ?_ | refine run_step rfl (by ((repeat' (first | exact aN | refine aC ?_ ?_ | intro _)) <;> first | assumption | omega | (simp only [obS] at *; omega) | (intros; first | rfl | assumption | omega | simp_all; done))) ?_ | refine run_nil ?_ | refine wpS_block ?_ | refine wpS_skip ?_ | refine wpS_exit ?_ | refine wpS_ret ?_))
  refine wpS_loop (fun i => i ≤ b.ens.length) (fun i => ⟨[(3, .ref RN), (11, lsA 7 enA b.ens), (12, .int .i64 (b.ens.length : Nat)), (13, .int .i64 (i : Nat))], [(RN, evR (evsRaw (b.ens.take i)))]⟩) (fun i => b.ens.length - i) 0 (by omega)
    (Ent.trans (ent_keep [3, 11, 12, 13] []) (Ent.trans (ent_name 3 RN 26 9 (fun t => evA (([] : List Ev).getD t default)) (.inl rfl) rfl) (by refine ent_le ?_; (repeat' (first | exact aN | refine aC ?_ ?_)) <;> first | rfl | exact ⟨rfl, fun _ _ => rfl⟩))) ?_
  rintro i hi
  (repeat (first | refine wpS_seq ?_ | refine wpS_reg ?_ | refine run_step rfl (by ((repeat' (first | exact aN | refine aC ?_ ?_ | intro _)) <;> first | assumption | omega | (simp only [obS] at *; omega) | (intros; first | rfl | assumption | omega | simp_all; done))) ?_ | refine run_nil ?_ | refine wpS_block ?_ | refine wpS_skip ?_ | refine wpS_exit ?_ | refine wpS_ret ?_))
  refine wpS_cond rfl (by ((repeat' (first | exact aN | refine aC ?_ ?_ | intro _)) <;> first | assumption | omega | (simp only [obS] at *; omega) | (intros; first | rfl | assumption | omega | simp_all; done))) (fun h => ?_) (fun h => ?_)
  · have hlt : i < b.ens.length := by simpa using h
    clear h
    have hle := len_evsRaw_take hlt
    obtain ⟨y, hy⟩ : ∃ y, y = b.ens[i] := ⟨_, rfl⟩
    have hy' : b.ens.getD i default = y := by rw [getD_lt hlt, hy]
    have hly := len_evsEn y
    have hla := len_evsAp y.key y.aps
    rw [← hy] at hle
    obtain ⟨L, hL⟩ : ∃ L, L = evsRaw (b.ens.take i) := ⟨_, rfl⟩
    rw [← hL] at hle ⊢
    (repeat (first | refine wpS_seq ?_ | refine wpS_reg ?_ | refine run_step rfl (by ((repeat' (first | exact aN | refine aC ?_ ?_ | intro _)) <;> first | assumption | omega | (simp only [obS] at *; omega) | (intros; first | rfl | assumption | omega | simp_all; done))) ?_ | refine run_nil ?_ | refine wpS_block ?_ | refine wpS_skip ?_ | refine wpS_exit ?_ | refine wpS_ret ?_))
    rw [show b.ens.getD (↑i : Int).toNat default = y from hy']
    refine wpS_loop (fun g => g ≤ y.grs.length) (fun g => ⟨[(3, .ref RN), (5, .loc 5 0), (11, lsA 7 enA b.ens), (12, .int .i64 (b.ens.length : Nat)), (13, .int .i64 (i : Nat)), (28, lsA 4 grA y.grs), (29, .int .i64 (y.grs.length : Nat)), (30, .int .i64 (g : Nat))], [(RN, evR (L ++ evSub y :: (y.grs.take g).map (evGr y.key))), (5, .blk 39 (enA y))]⟩) (fun g => y.grs.length - g) 0 (by omega)
      (Ent.trans (ent_keep [3, 5, 11, 12, 13, 28, 29, 30] [26, 5]) (Ent.trans (ent_ren 26 RN rfl) (Ent.trans (ent_app1 RN evA (x := evSub y) (L ++ [evSub y]) rfl rfl rfl rfl rfl) (by refine ent_le ?_; (repeat' (first | exact aN | refine aC ?_ ?_)) <;> first | rfl | exact ⟨rfl, fun _ _ => rfl⟩)))) ?_
    rintro g hg
    (repeat (first | refine wpS_seq ?_ | refine wpS_reg ?_ | refine run_step rfl (by ((repeat' (first | exact aN | refine aC ?_ ?_ | intro _)) <;> first | assumption | omega | (simp only [obS] at *; omega) | (intros; first | rfl | assumption | omega | simp_all; done))) ?_ | refine run_nil ?_ | refine wpS_block ?_ | refine wpS_skip ?_ | refine wpS_exit ?_ | refine wpS_ret ?_))
    refine wpS_cond rfl (by ((repeat' (first | exact aN | refine aC ?_ ?_ | intro _)) <;> first | assumption | omega | (simp only [obS] at *; omega) | (intros; first | rfl | assumption | omega | simp_all; done))) (fun h => ?_) (fun h => ?_)
    · have hgl : g < y.grs.length := by simpa using h
      clear h
      have hlen : (L ++ evSub y :: (y.grs.take g).map (evGr y.key)).length ≤ 1000000 := by simp; omega
      have hM : L ++ evSub y :: (y.grs.take (g + 1)).map (evGr y.key) = (L ++ evSub y :: (y.grs.take g).map (evGr y.key)) ++ [evGr y.key (y.grs.getD g default)] := by
        rw [take_succ_get hgl, getD_lt hgl, List.map_append]; simp only [List.map_cons, List.map_nil, List.append_assoc, List.cons_append]
      (repeat (first | refine wpS_seq ?_ | refine wpS_reg ?_ | refine run_step rfl (by ((repeat' (first | exact aN | refine aC ?_ ?_ | intro _)) <;> first | assumption | omega | (simp only [obS] at *; omega) | (intros; first | rfl | assumption | omega | simp_all; done))) ?_ | refine run_nil ?_ | refine wpS_block ?_ | refine wpS_skip ?_ | refine wpS_exit ?_ | refine wpS_ret ?_))
      refine ⟨g + 1, by omega, by dsimp only; omega, ?_⟩
      exact Ent.trans (ent_keep [3, 5, 11, 12, 13, 28, 29, 30] [47, 5]) (Ent.trans (ent_ren 47 RN rfl) (Ent.trans (ent_app1 RN evA (x := evGr y.key (y.grs.getD g default)) _ hM rfl rfl rfl rfl) (by refine ent_le ?_; (repeat' (first | exact aN | refine aC ?_ ?_)) <;> first | rfl | (dsimp only; omega) | exact ⟨rfl, fun _ _ => rfl⟩)))
    have hgl : g = y.grs.length := by simp at h; omega
    subst hgl
    clear h
    rw [List.take_length]
    (repeat (first | refine wpS_seq ?_ | refine wpS_reg ?_ | refine run_step rfl (by ((repeat' (first | exact aN | refine aC ?_ ?_ | intro _)) <;> first | assumption | omega | (simp only [obS] at *; omega) | (intros; first | rfl | assumption | omega | simp_all; done))) ?_ | refine run_nil ?_ | refine wpS_block ?_ | refine wpS_skip ?_ | refine wpS_exit ?_ | refine wpS_ret ?_))
    refine wpS_loop (fun g => g ≤ y.aps.length) (fun g => ⟨[(3, .ref RN), (5, .loc 5 0), (11, lsA 7 enA b.ens), (12, .int .i64 (b.ens.length : Nat)), (13, .int .i64 (i : Nat)), (50, lsA 6 apA y.aps), (51, .int .i64 (y.aps.length : Nat)), (52, .int .i64 (g : Nat))], [(RN, evR ((L ++ evSub y :: y.grs.map (evGr y.key)) ++ (y.aps.take g).flatMap (evsAp y.key))), (5, .blk 39 (enA y))]⟩) (fun g => y.aps.length - g) 0 (by omega)
      (by refine ent_le ?_; (repeat' (first | exact aN | refine aC ?_ ?_)) <;> first | rfl | exact ⟨rfl, fun _ _ => rfl⟩ | (rw [List.take_zero, List.flatMap_nil, List.append_nil]; exact ⟨rfl, fun _ _ => rfl⟩)) ?_
    rintro g hg
    (repeat (first | refine wpS_seq ?_ | refine wpS_reg ?_ | refine run_step rfl (by ((repeat' (first | exact aN | refine aC ?_ ?_ | intro _)) <;> first | assumption | omega | (simp only [obS] at *; omega) | (intros; first | rfl | assumption | omega | simp_all; done))) ?_ | refine run_nil ?_ | refine wpS_block ?_ | refine wpS_skip ?_ | refine wpS_exit ?_ | refine wpS_ret ?_))
    refine wpS_cond rfl (by ((repeat' (first | exact aN | refine aC ?_ ?_ | intro _)) <;> first | assumption | omega | (simp only [obS] at *; omega) | (intros; first | rfl | assumption | omega | simp_all; done))) (fun h => ?_) (fun h => ?_)
    · have hgl : g < y.aps.length := by simpa using h
      clear h
      have hgA : ((y.aps.take (g + 1)).flatMap (evsAp y.key)).length ≤ (y.aps.flatMap (evsAp y.key)).length := by
        have e : y.aps.flatMap (evsAp y.key) = (y.aps.take (g + 1)).flatMap (evsAp y.key) ++ (y.aps.drop (g + 1)).flatMap (evsAp y.key) := by
          rw [← List.flatMap_append, List.take_append_drop]
        rw [e, List.length_append]; omega
      have hge : (y.aps.take (g + 1)).flatMap (evsAp y.key) = (y.aps.take g).flatMap (evsAp y.key) ++ evsAp y.key (y.aps.getD g default) := by
        rw [take_succ_get hgl, getD_lt hgl]; simp only [List.flatMap_append, List.flatMap_cons, List.flatMap_nil, List.append_nil]
      have hlen : (L ++ evSub y :: y.grs.map (evGr y.key)).length + ((y.aps.take (g + 1)).flatMap (evsAp y.key)).length ≤ 1000000 := by simp only [List.length_append, List.length_cons, List.length_map]; omega
      rw [hge] at hlen
      generalize hX : (L ++ evSub y :: y.grs.map (evGr y.key)) ++ (y.aps.take g).flatMap (evsAp y.key) = X
      have hXl : X.length + (evsAp y.key (y.aps.getD g default)).length ≤ 1000000 := by
        rw [← hX, List.length_append]
        simp only [List.length_append, List.length_cons, List.length_map] at hlen ⊢
        omega
      have hnext : (L ++ evSub y :: y.grs.map (evGr y.key)) ++ (y.aps.take (g + 1)).flatMap (evsAp y.key) = X ++ evsAp y.key (y.aps.getD g default) := by
        rw [hge, ← hX]; simp only [List.append_assoc]
      have hx1 : X.length + 1 ≤ 1000000 := by
        have : 1 ≤ (evsAp y.key (y.aps.getD g default)).length := by unfold evsAp; split <;> simp
        omega
      (repeat (first | refine wpS_seq ?_ | refine wpS_reg ?_ | refine run_step rfl (by ((repeat' (first | exact aN | refine aC ?_ ?_ | intro _)) <;> first | assumption | omega | (simp only [obS] at *; omega) | (intros; first | rfl | assumption | omega | simp_all; done))) ?_ | refine run_nil ?_ | refine wpS_block ?_ | refine wpS_skip ?_ | refine wpS_exit ?_ | refine wpS_ret ?_))
      generalize hdec : (y.aps.getD (↑g : Int).toNat default).dec = dd
      have hdec' : (y.aps.getD g default).dec = dd := hdec
      cases dd
      · refine wpS_condF rfl (by ((repeat' (first | exact aN | refine aC ?_ ?_ | intro _)) <;> first | assumption | omega | (simp only [obS] at *; omega) | (intros; first | rfl | assumption | omega | simp_all; done))) ?_
        (repeat (first | refine wpS_seq ?_ | refine wpS_reg ?_ | refine run_step rfl (by ((repeat' (first | exact aN | refine aC ?_ ?_ | intro _)) <;> first | assumption | omega | (simp only [obS] at *; omega) | (intros; first | rfl | assumption | omega | simp_all; done))) ?_ | refine run_nil ?_ | refine wpS_block ?_ | refine wpS_skip ?_ | refine wpS_exit ?_ | refine wpS_ret ?_))
        have hM : (L ++ evSub y :: y.grs.map (evGr y.key)) ++ (y.aps.take (g + 1)).flatMap (evsAp y.key) = X ++ [evAp y.key (y.aps.getD g default)] := by
          rw [hnext]; unfold evsAp; rw [if_neg (by rw [hdec']; simp)]
        refine ⟨g + 1, by omega, by dsimp only; omega, ?_⟩
        exact Ent.trans (ent_keep [3, 5, 11, 12, 13, 50, 51, 52] [65, 5]) (Ent.trans (ent_ren 65 RN rfl) (Ent.trans (ent_app1 RN evA (x := evAp y.key (y.aps.getD g default)) _ hM rfl rfl rfl rfl) (by refine ent_le ?_; (repeat' (first | exact aN | refine aC ?_ ?_)) <;> first | rfl | (dsimp only; omega) | exact ⟨rfl, fun _ _ => rfl⟩)))
      · have e2 : evsAp y.key (y.aps.getD g default) = [evAp y.key (y.aps.getD g default), evDec y.key (y.aps.getD g default)] := by unfold evsAp; rw [if_pos hdec']
        have hx2 : (X ++ [evAp y.key (y.aps.getD g default)]).length + 1 ≤ 1000000 := by
          rw [e2] at hXl; simp at hXl ⊢; omega
        refine wpS_condT rfl (by ((repeat' (first | exact aN | refine aC ?_ ?_ | intro _)) <;> first | assumption | omega | (simp only [obS] at *; omega) | (intros; first | rfl | assumption | omega | simp_all; done))) ?_
        refine wpS_ent (ent_app1 65 evA (x := evAp y.key (y.aps.getD g default)) (X ++ [evAp y.key (y.aps.getD g default)]) rfl rfl rfl rfl rfl) ?_
        (repeat (first | refine wpS_seq ?_ | refine wpS_reg ?_ | refine run_step rfl (by ((repeat' (first | exact aN | refine aC ?_ ?_ | intro _)) <;> first | assumption | omega | (simp only [obS] at *; omega) | (intros; first | rfl | assumption | omega | simp_all; done))) ?_ | refine run_nil ?_ | refine wpS_block ?_ | refine wpS_skip ?_ | refine wpS_exit ?_ | refine wpS_ret ?_))
        have hM : (L ++ evSub y :: y.grs.map (evGr y.key)) ++ (y.aps.take (g + 1)).flatMap (evsAp y.key) = (X ++ [evAp y.key (y.aps.getD g default)]) ++ [evDec y.key (y.aps.getD g default)] := by
          rw [hnext, e2]; simp
        refine ⟨g + 1, by omega, by dsimp only; omega, ?_⟩
        exact Ent.trans (ent_keep [3, 5, 11, 12, 13, 50, 51, 52] [79, 5]) (Ent.trans (ent_ren 79 RN rfl) (Ent.trans (ent_app1 RN evA (x := evDec y.key (y.aps.getD g default)) _ hM rfl rfl rfl rfl) (by refine ent_le ?_; (repeat' (first | exact aN | refine aC ?_ ?_)) <;> first | rfl | (dsimp only; omega) | exact ⟨rfl, fun _ _ => rfl⟩)))
    have hgl : g = y.aps.length := by simp at h; omega
    subst hgl
    clear h
    have hM : evsRaw (b.ens.take (i + 1)) = (L ++ evSub y :: y.grs.map (evGr y.key)) ++ (y.aps.take y.aps.length).flatMap (evsAp y.key) := by
      rw [evsRaw_take hlt, ← hL, ← hy, List.take_length]
      simp [evsEn]
    rw [← hM]
    (repeat (first | refine wpS_seq ?_ | refine wpS_reg ?_ | refine run_step rfl (by ((repeat' (first | exact aN | refine aC ?_ ?_ | intro _)) <;> first | assumption | omega | (simp only [obS] at *; omega) | (intros; first | rfl | assumption | omega | simp_all; done))) ?_ | refine run_nil ?_ | refine wpS_block ?_ | refine wpS_skip ?_ | refine wpS_exit ?_ | refine wpS_ret ?_))
    refine ⟨i + 1, by omega, by dsimp only; omega, ?_⟩
    refine ent_le ?_; (repeat' (first | exact aN | refine aC ?_ ?_)) <;> first | rfl | (dsimp only; omega) | exact ⟨rfl, fun _ _ => rfl⟩
  have hlt : i = b.ens.length := by simp at h; omega
  subst hlt
  clear h
  rw [List.take_length]
  (repeat (first | refine wpS_seq ?_ | refine wpS_reg ?_ | refine run_step rfl (by ((repeat' (first | exact aN | refine aC ?_ ?_ | intro _)) <;> first | assumption | omega | (simp only [obS] at *; omega) | (intros; first | rfl | assumption | omega | simp_all; done))) ?_ | refine run_nil ?_ | refine wpS_block ?_ | refine wpS_skip ?_ | refine wpS_exit ?_ | refine wpS_ret ?_))
  refine run_cR (ρ1 RN) [PB] (evsort_spec (evsRaw b.ens) (Nat.le_trans hs' (by decide))) rfl rfl ⟨rfl, trivial⟩ rfl ?_
  (repeat (first | refine wpS_seq ?_ | refine wpS_reg ?_ | refine run_step rfl (by ((repeat' (first | exact aN | refine aC ?_ ?_ | intro _)) <;> first | assumption | omega | (simp only [obS] at *; omega) | (intros; first | rfl | assumption | omega | simp_all; done))) ?_ | refine run_nil ?_ | refine wpS_block ?_ | refine wpS_skip ?_ | refine wpS_exit ?_))
  refine wpS_ent (ent_fz RN) ?_
  (repeat (first | refine wpS_seq ?_ | refine wpS_reg ?_ | refine run_step rfl (by ((repeat' (first | exact aN | refine aC ?_ ?_ | intro _)) <;> first | assumption | omega | (simp only [obS] at *; omega) | (intros; first | rfl | assumption | omega | simp_all; done))) ?_ | refine run_nil ?_ | refine wpS_block ?_ | refine wpS_skip ?_ | refine wpS_exit ?_ | refine wpS_ret ?_))
  refine fin_mk rfl ?_; (repeat' (first | exact aN | refine aC ?_ ?_))
  exact ⟨rfl, fun _ _ => rfl⟩
end Go.Proofs
end
/- part BkHas -/
section
namespace Go.Proofs
open Go.Av Go.Pu
theorem spec0_leA {P : Program} {f : FuncId} {args args' : List AV} {res : AV} (h : Spec0 P f args res) (hl : allP (leL args' args)) : Spec0 P f args' res :=
  ⟨h.1, fun I w vs d => h.2 I w vs (leL_sound _ _ _ d hl)⟩
theorem events_spec' (t : Int) (l : List En) (n : Nat) (f : Nat → List AV) (hs : SmV l) (hn : n = l.length) (hf : ∀ i, i < n → f i = enA (l.getD i default)) : Spec0 Tryz.prog 53 [.agg [.int .i64 t, .sl 7 n f]] (evsA (evsBk l)) :=
  spec0_leA (events_spec ⟨t, l⟩ hs) ⟨rfl, ⟨hn, hf⟩, trivial⟩
theorem findI_eq (l : List En) (k : K) : findI l k = match findK l k with | some i => (i : Int) | none => -1 := rfl
theorem contains_sortS {α : Type} [BEq α] [LawfulBEq α] (k : α → Int) (l : List α) (x : α) : (sortS k l).contains x = l.contains x := by
  rw [Bool.eq_iff_iff, List.contains_iff_mem, List.contains_iff_mem, mem_sortS]
theorem evsRaw_one (y : En) : evsRaw [y] = evsEn y := by simp [evsRaw]
theorem has_spec (b : Bk) (e : Ev) (hs : SmV b.ens) : Spec0 Tryz.prog 49 [bkA b, .agg (evA e)] (.bool (hasB b.ens e)) := by
  have hb := hs.b
  have hbl := hb.1
  have hs' : (evsRaw b.ens).length ≤ 1000000 := hs
  refine spec0 ok49 rfl fun C _ => ?_
  (repeat (first | refine wpS_seq ?_ | refine wpS_reg ?_ | refine run_step rfl (by ((repeat' (first | exact aN | refine aC ?_ ?_ | intro _)) <;> first | assumption | omega | (simp only [obS] at *; omega) | (intros; first | rfl | assumption | omega | simp_all; done))) ?_ | refine run_nil ?_ | refine wpS_block ?_ | refine wpS_skip ?_ | refine wpS_exit ?_ | refine wpS_ret ?_))
  refine run_c ((find_spec b e.key hb.l)) rfl (by ((repeat' (first | exact aN | refine aC ?_ ?_ | intro _)) <;> first | assumption | omega | (simp only [obS] at *; omega) | (intros; first | rfl | assumption | omega | simp_all; done))) rfl rfl (.inl rfl) ?_
  rw [findI_eq]
  cases hf : findK b.ens e.key with
  | none =>
    (repeat (first | refine wpS_seq ?_ | refine wpS_reg ?_ | refine run_step rfl (by ((repeat' (first | exact aN | refine aC ?_ ?_ | intro _)) <;> first | assumption | omega | (simp only [obS] at *; omega) | (intros; first | rfl | assumption | omega | simp_all; done))) ?_ | refine run_nil ?_ | refine wpS_block ?_ | refine wpS_skip ?_ | refine wpS_exit ?_ | refine wpS_ret ?_))
    refine wpS_condT rfl (by ((repeat' (first | exact aN | refine aC ?_ ?_ | intro _)) <;> first | assumption | omega | (simp only [obS] at *; omega) | (intros; first | rfl | assumption | omega | simp_all; done))) ?_
    (repeat (first | refine wpS_seq ?_ | refine wpS_reg ?_ | refine run_step rfl (by ((repeat' (first | exact aN | refine aC ?_ ?_ | intro _)) <;> first | assumption | omega | (simp only [obS] at *; omega) | (intros; first | rfl | assumption | omega | simp_all; done))) ?_ | refine run_nil ?_ | refine wpS_block ?_ | refine wpS_skip ?_ | refine wpS_exit ?_ | refine wpS_ret ?_))
    refine fin_mk rfl ?_; (repeat' (first | exact aN | refine aC ?_ ?_))
    unfold hasB
    rw [hf]
  | some i =>
    obtain ⟨hi, hk, _⟩ := findK_some hf
    dsimp only
    (repeat (first | refine wpS_seq ?_ | refine wpS_reg ?_ | refine run_step rfl (by ((repeat' (first | exact aN | refine aC ?_ ?_ | intro _)) <;> first | assumption | omega | (simp only [obS] at *; omega) | (intros; first | rfl | assumption | omega | simp_all; done))) ?_ | refine run_nil ?_ | refine wpS_block ?_ | refine wpS_skip ?_ | refine wpS_exit ?_ | refine wpS_ret ?_))
    refine wpS_cond rfl (by ((repeat' (first | exact aN | refine aC ?_ ?_ | intro _)) <;> first | assumption | omega | (simp only [obS] at *; omega) | (intros; first | rfl | assumption | omega | simp_all; done))) (fun h => ?_) (fun h => ?_)
    · simp at h; omega
    clear h
    obtain ⟨y, hy⟩ : ∃ y, y = b.ens.getD i default := ⟨_, rfl⟩
    have hsy : SmV [y] := by
      unfold SmV
      rw [evsRaw_one, hy]
      have := len_evsRaw_mem (getD_mem hi)
      omega
    have hly : (evsBk [y]).length ≤ maxL := by
      unfold evsBk
      rw [length_sortS]
      exact Nat.le_trans hsy (by decide)
    (repeat (first | refine wpS_seq ?_ | refine wpS_reg ?_ | refine run_step rfl (by ((repeat' (first | exact aN | refine aC ?_ ?_ | intro _)) <;> first | assumption | omega | (simp only [obS] at *; omega) | (intros; first | rfl | assumption | omega | simp_all; done))) ?_ | refine run_nil ?_ | refine wpS_block ?_ | refine wpS_skip ?_ | refine wpS_exit ?_ | refine wpS_ret ?_))
    refine wpS_D (by kernel_rfl) ?_
    (repeat (refine trg_step rfl (by ((repeat' (first | exact aN | refine aC ?_ ?_ | intro _)) <;> first | assumption | omega | (simp only [obS] at *; omega) | (intros; first | rfl | assumption | omega | simp_all; done))) ?_))
    have en : ((i : Int) + 1).toNat - (i : Int).toNat = 1 := by omega
    refine trg_c ((events_spec' 0 [y] (((i : Int) + 1).toNat - (i : Int).toNat) (fun t => enA (b.ens.getD ((i : Int).toNat + t) default)) hsy (by rw [en]; rfl) (fun t ht => by rw [en] at ht; cases t with | zero => (rw [hy]; rfl) | succ t => omega))) rfl (by ((repeat' (first | exact aN | refine aC ?_ ?_ | intro _)) <;> first | assumption | omega | (simp only [obS] at *; omega) | (intros; first | rfl | assumption | omega | simp_all; done))) rfl rfl (.inr rfl) ?_
    (repeat (refine trg_step rfl (by ((repeat' (first | exact aN | refine aC ?_ ?_ | intro _)) <;> first | assumption | omega | (simp only [obS] at *; omega) | (intros; first | rfl | assumption | omega | simp_all; done))) ?_))
    refine trg_c ((evContains_spec (evsBk [y]) e hly)) rfl (by ((repeat' (first | exact aN | refine aC ?_ ?_ | intro _)) <;> first | assumption | omega | (simp only [obS] at *; omega) | (intros; first | rfl | assumption | omega | simp_all; done))) rfl rfl (.inl rfl) ?_
    (repeat (refine trg_step rfl (by ((repeat' (first | exact aN | refine aC ?_ ?_ | intro _)) <;> first | assumption | omega | (simp only [obS] at *; omega) | (intros; first | rfl | assumption | omega | simp_all; done))) ?_))
    refine trg_nil ⟨rfl, ?_⟩
    (repeat (first | refine wpS_seq ?_ | refine wpS_reg ?_ | refine run_step rfl (by ((repeat' (first | exact aN | refine aC ?_ ?_ | intro _)) <;> first | assumption | omega | (simp only [obS] at *; omega) | (intros; first | rfl | assumption | omega | simp_all; done))) ?_ | refine run_nil ?_ | refine wpS_block ?_ | refine wpS_skip ?_ | refine wpS_exit ?_ | refine wpS_ret ?_))
    refine fin_mk rfl ?_; (repeat' (first | exact aN | refine aC ?_ ?_))
    unfold hasB
    rw [hf]
    dsimp only
    unfold evsBk
    rw [contains_sortS, evsRaw_one, hy]
end Go.Proofs
end
/- part BkClone -/
section
namespace Go.Proofs
open Go.Av Go.Pu
def ρ2 (a b : Nat) (q : Nat) : Nat := bif Nat.beq q a then b else q
@[reducible] def clF (l : List En) (k : Nat) : Nat → List AV := fun j => if j < k then enO (l.getD j default) else enA (l.getD j default)
theorem clF_at (l : List En) (k : Nat) : clF l k k = enA (l.getD k default) := by simp [clF]
theorem clone_spec (b : Bk) (hs : SmB b.ens) : SpecR Tryz.prog 44 [bkA b] [] (.agg [.int .i64 b.tick, .ref 8]) [(8, enR b.ens)] := by
  have hbl := hs.1
  refine specR ok44 fun C _ => ?_
  refine wpS_seq ?_; refine wpS_reg ?_; (repeat (refine run_step rfl (by ((repeat' (first | exact aN | refine aC ?_ ?_ | intro _)) <;> first | assumption | omega | (simp only [obS] at *; omega) | (intros; first | rfl | assumption | omega | simp_all; done))) ?_)); refine run_nil ?_
  refine wpS_seq ?_; refine wpS_reg ?_; (repeat (refine run_step rfl (by ((repeat' (first | exact aN | refine aC ?_ ?_ | intro _)) <;> first | assumption | omega | (simp only [obS] at *; omega) | (intros; first | rfl | assumption | omega | simp_all; done))) ?_)); refine run_nil ?_
  refine wpS_seq ?_; refine wpS_reg ?_; (repeat (refine run_step rfl (by ((repeat' (first | exact aN | refine aC ?_ ?_ | intro _)) <;> first | assumption | omega | (simp only [obS] at *; omega) | (intros; first | rfl | assumption | omega | simp_all; done))) ?_)); refine run_nil ?_
  refine wpS_seq ?_; refine wpS_reg ?_; (repeat (refine run_step rfl (by ((repeat' (first | exact aN | refine aC ?_ ?_ | intro _)) <;> first | assumption | omega | (simp only [obS] at *; omega) | (intros; first | rfl | assumption | omega | simp_all; done))) ?_)); refine run_nil ?_
  refine wpS_seq ?_
  refine wpS_seq ?_; refine wpS_reg ?_; (repeat (refine run_step rfl (by ((repeat' (first | exact aN | refine aC ?_ ?_ | intro _)) <;> first | assumption | omega | (simp only [obS] at *; omega) | (intros; first | rfl | assumption | omega | simp_all; done))) ?_)); refine run_nil ?_
  refine wpS_ent (ent_row 8 b.ens.length (fun j => enA (b.ens.getD j default)) rfl (by simp) (fun j hj => by rw [copied_eq, if_pos (by omega)])) ?_
  refine wpS_ent (ent_rowO 8 rfl) ?_
  refine wpS_ent (ent_rows 8 b.ens.length (clF b.ens 0) rfl rfl (fun j hj => by simp [clF])) ?_
  (repeat (first | refine wpS_seq ?_ | refine wpS_reg ?_ | refine run_step rfl (by ((repeat' (first | exact aN | refine aC ?_ ?_ | intro _)) <;> first | assumption | omega | (simp only [obS] at *; omega) | (intros; first | rfl | assumption | omega | simp_all; done))) ?_ | refine run_nil ?_ | refine wpS_block ?_ | refine wpS_skip ?_ | refine wpS_exit ?_ | refine wpS_ret ?_))
  refine wpS_loop (fun k => k ≤ b.ens.length) (fun k => ⟨[(1, .loc 1 0), (2, .loc 2 0), (17, .int .i64 (b.ens.length : Nat)), (18, .int .i64 (k : Nat))], [(1, .blk 31 [.int .i64 b.tick, .ref 8]), (2, .blk 31 [.int .i64 0, .nils]), (8, .rowO 39 7 b.ens.length (clF b.ens k) 0 [])]⟩) (fun k => b.ens.length - k) 0 (by omega)
    (by refine ent_le ?_; (repeat' (first | exact aN | refine aC ?_ ?_)) <;> first | rfl | exact ⟨rfl, rfl, .inl rfl, fun _ _ => rfl⟩) ?_
  rintro k hk
  (repeat (first | refine wpS_seq ?_ | refine wpS_reg ?_ | refine run_step rfl (by ((repeat' (first | exact aN | refine aC ?_ ?_ | intro _)) <;> first | assumption | omega | (simp only [obS] at *; omega) | (intros; first | rfl | assumption | omega | simp_all; done))) ?_ | refine run_nil ?_ | refine wpS_block ?_ | refine wpS_skip ?_ | refine wpS_exit ?_ | refine wpS_ret ?_))
  refine wpS_cond rfl (by ((repeat' (first | exact aN | refine aC ?_ ?_ | intro _)) <;> first | assumption | omega | (simp only [obS] at *; omega) | (intros; first | rfl | assumption | omega | simp_all; done))) (fun h => ?_) (fun h => ?_)
  · have hlt : k < b.ens.length := by simpa using h
    clear h
    have hsy := hs.2 _ (getD_mem hlt)
    obtain ⟨y, hy⟩ : ∃ y, y = b.ens.getD k default := ⟨_, rfl⟩
    rw [← hy] at hsy
    have hF := clF_at b.ens k
    rw [← hy] at hF
    obtain ⟨F, hFe⟩ : ∃ F, F = clF b.ens k := ⟨_, rfl⟩
    rw [← hFe] at hF ⊢
    (repeat (first | refine wpS_seq ?_ | refine wpS_reg ?_ | refine run_step rfl (by ((repeat' (first | exact aN | refine aC ?_ ?_ | intro _)) <;> first | assumption | omega | (simp only [obS] at *; omega) | (intros; first | rfl | assumption | omega | simp_all; done))) ?_ | refine run_nil ?_ | refine wpS_block ?_ | refine wpS_skip ?_ | refine wpS_exit ?_ | refine wpS_ret ?_))
    refine wpS_D (by kernel_rfl) ?_
    (repeat (refine trg_step rfl (by ((repeat' (first | exact aN | refine aC ?_ ?_ | intro _)) <;> first | assumption | omega | (simp only [obS] at *; omega) | (intros; first | rfl | assumption | omega | simp_all; done))) ?_))
    refine trg_step (load_rowO rfl rfl hF rfl) (by ((repeat' (first | exact aN | refine aC ?_ ?_ | intro _)) <;> first | assumption | omega | (simp only [obS] at *; omega) | (intros; first | rfl | assumption | omega | simp_all; done))) ?_
    refine trg_cN (ρ2 7 30) [7] (grClone_spec y.grs hsy.1) rfl rfl rfl ?_
    (repeat (refine trg_step rfl (by ((repeat' (first | exact aN | refine aC ?_ ?_ | intro _)) <;> first | assumption | omega | (simp only [obS] at *; omega) | (intros; first | rfl | assumption | omega | simp_all; done))) ?_))
    refine trg_nil ⟨rfl, ?_⟩
    (repeat (first | refine wpS_seq ?_ | refine wpS_reg ?_ | refine run_step rfl (by ((repeat' (first | exact aN | refine aC ?_ ?_ | intro _)) <;> first | assumption | omega | (simp only [obS] at *; omega) | (intros; first | rfl | assumption | omega | simp_all; done))) ?_ | refine run_nil ?_ | refine wpS_block ?_ | refine wpS_skip ?_ | refine wpS_exit ?_ | refine wpS_ret ?_))
    refine wpS_D (by kernel_rfl) ?_
    (repeat (refine trg_step rfl (by ((repeat' (first | exact aN | refine aC ?_ ?_ | intro _)) <;> first | assumption | omega | (simp only [obS] at *; omega) | (intros; first | rfl | assumption | omega | simp_all; done))) ?_))
    refine trg_step (load_rowO (cs := setAt 5 [.own 42 4 y.grs.length (grF y.grs)] (enA y)) rfl rfl (by rw [stored_eq, if_pos rfl]; exact congrArg (setAt 5 _) hF) rfl) (by ((repeat' (first | exact aN | refine aC ?_ ?_ | intro _)) <;> first | assumption | omega | (simp only [obS] at *; omega) | (intros; first | rfl | assumption | omega | simp_all; done))) ?_
    refine trg_cN (ρ2 7 42) [7] (apClone_spec y.aps hsy.2) rfl rfl rfl ?_
    (repeat (refine trg_step rfl (by ((repeat' (first | exact aN | refine aC ?_ ?_ | intro _)) <;> first | assumption | omega | (simp only [obS] at *; omega) | (intros; first | rfl | assumption | omega | simp_all; done))) ?_))
    refine trg_nil ⟨rfl, ?_⟩
    (repeat (first | refine wpS_seq ?_ | refine wpS_reg ?_ | refine run_step rfl (by ((repeat' (first | exact aN | refine aC ?_ ?_ | intro _)) <;> first | assumption | omega | (simp only [obS] at *; omega) | (intros; first | rfl | assumption | omega | simp_all; done))) ?_ | refine run_nil ?_ | refine wpS_block ?_ | refine wpS_skip ?_ | refine wpS_exit ?_ | refine wpS_ret ?_))
    refine ⟨k + 1, by omega, by dsimp only; omega, ?_⟩
    refine Ent.trans (ent_rows 8 b.ens.length (clF b.ens (k + 1)) rfl rfl (fun j hj => ?_)) (by refine ent_le ?_; (repeat' (first | exact aN | refine aC ?_ ?_)) <;> first | rfl | exact ⟨rfl, rfl, .inl rfl, fun _ _ => rfl⟩)
    rw [stored_eq, stored_eq]
    by_cases hjk : j = k
    · subst hjk
      have e1 : clF b.ens (j + 1) j = enO y := by simp only [clF]; rw [if_pos (by omega), hy]
      rw [e1, if_pos (Int.toNat_natCast j).symm, if_pos (Int.toNat_natCast j).symm, hF]
      rfl
    · have e1 : clF b.ens (k + 1) j = clF b.ens k j := by
        simp only [clF]
        by_cases h1 : j < k
        · rw [if_pos h1, if_pos (by omega)]
        · rw [if_neg h1, if_neg (by omega)]
      rw [if_neg (by simpa using hjk), if_neg (by simpa using hjk), e1, hFe]
  · have hlt : k = b.ens.length := by simp at h; omega
    subst hlt
    clear h
    (repeat (first | refine wpS_seq ?_ | refine wpS_reg ?_ | refine run_step rfl (by ((repeat' (first | exact aN | refine aC ?_ ?_ | intro _)) <;> first | assumption | omega | (simp only [obS] at *; omega) | (intros; first | rfl | assumption | omega | simp_all; done))) ?_ | refine run_nil ?_ | refine wpS_block ?_ | refine wpS_skip ?_ | refine wpS_exit ?_))
    refine wpS_ent (ent_rows 8 b.ens.length (enF b.ens) rfl rfl (fun j hj => by simp only [clF]; rw [if_pos hj])) ?_
    (repeat (first | refine wpS_seq ?_ | refine wpS_reg ?_ | refine run_step rfl (by ((repeat' (first | exact aN | refine aC ?_ ?_ | intro _)) <;> first | assumption | omega | (simp only [obS] at *; omega) | (intros; first | rfl | assumption | omega | simp_all; done))) ?_ | refine run_nil ?_ | refine wpS_block ?_ | refine wpS_skip ?_ | refine wpS_exit ?_ | refine wpS_ret ?_))
    refine fin_mkR rfl ?_ ?_ <;> (repeat' (first | exact aN | refine aC ?_ ?_))
    all_goals first | rfl | exact ⟨rfl, rfl, .inl rfl, fun _ _ => rfl⟩
end Go.Proofs
end
/- part BkApply -/
section
namespace Go.Proofs
open Go.Av Go.Pu
theorem set_self {α : Type} [Inhabited α] {l : List α} {i : Nat} (h : i < l.length) : l.set i (l.getD i default) = l := by
  rw [getD_lt h, List.set_getElem_self]
theorem gradeE_fail {e : Ev} {y : En} (h : (gradeE e y).1 ≠ 0) : (gradeE e y).2 = y := by
  unfold gradeE at h ⊢
  split
  · rfl
  · rename_i h1
    rw [if_neg h1] at h
    split
    · rfl
    · rename_i h2
      rw [if_neg h2] at h
      exact absurd rfl h
theorem appealE_fail {e : Ev} {y : En} (h : (appealE e y).1 ≠ 0) : (appealE e y).2 = y := by
  unfold appealE at h ⊢
  split
  · rfl
  · rename_i h1
    rw [if_neg h1] at h
    split
    · rfl
    · rename_i h2
      rw [if_neg h2] at h
      exact absurd rfl h
theorem decideE_fail {e : Ev} {y : En} (h : (decideE e y).1 ≠ 0) : (decideE e y).2 = y := by
  unfold decideE at h ⊢
  split
  · rename_i h1
    rw [if_pos h1] at h
    exact absurd rfl h
  · rfl
@[reducible] def XN : Nat := 900001
def ρ3 (q : Nat) : Nat := bif Nat.beq q PB then QN else bif Nat.beq q XN then PB else q
theorem apply_grade (t : Int) (l : List En) (e : Ev) (hk : e.kind = 1) (hs : SmV l) :
    SpecR Tryz.prog 45 [.loc PB 0, .agg (evA e)] [(PB, .blk 76 [.int .i64 t, .ref QN]), (QN, enR l)] (.int .i64 (applyB ⟨t, l⟩ e).1) [(PB, .blk 76 [.int .i64 (applyB ⟨t, l⟩ e).2.tick, .ref QN]), (QN, enR (applyB ⟨t, l⟩ e).2.ens)] := by
  have hb := hs.b
  obtain ⟨kind, key, tick, ver, hun, text, acc⟩ := e
  dsimp only at hk
  subst hk
  refine specR ok45 fun C _ => ?_
  refine wpS_seq ?_; refine wpS_reg ?_; (repeat (refine run_step rfl (by ((repeat' (first | exact aN | refine aC ?_ ?_ | intro _)) <;> first | assumption | omega | (simp only [obS] at *; omega) | (intros; first | rfl | assumption | omega | simp_all; done))) ?_)); refine run_nil ?_
  refine wpS_seq ?_; refine wpS_reg ?_; (repeat (refine run_step rfl (by ((repeat' (first | exact aN | refine aC ?_ ?_ | intro _)) <;> first | assumption | omega | (simp only [obS] at *; omega) | (intros; first | rfl | assumption | omega | simp_all; done))) ?_)); refine run_nil ?_
  (repeat (first | refine wpS_seq ?_ | refine wpS_reg ?_ | refine run_step rfl (by ((repeat' (first | exact aN | refine aC ?_ ?_ | intro _)) <;> first | assumption | omega | (simp only [obS] at *; omega) | (intros; first | rfl | assumption | omega | simp_all; done))) ?_ | refine run_nil ?_ | refine wpS_block ?_ | refine wpS_skip ?_ | refine wpS_exit ?_ | refine wpS_ret ?_))
  refine wpS_D (by kernel_rfl) ?_
  (repeat (refine trg_step rfl (by ((repeat' (first | exact aN | refine aC ?_ ?_ | intro _)) <;> first | assumption | omega | (simp only [obS] at *; omega) | (intros; first | rfl | assumption | omega | simp_all; done))) ?_))
  refine trg_c ((has_spec ⟨t, l⟩ ⟨1, key, tick, ver, hun, text, acc⟩ hs)) rfl (by ((repeat' (first | exact aN | refine aC ?_ ?_ | intro _)) <;> first | assumption | omega | (simp only [obS] at *; omega) | (intros; first | rfl | assumption | omega | simp_all; done))) rfl rfl (.inl rfl) ?_
  (repeat (refine trg_step rfl (by ((repeat' (first | exact aN | refine aC ?_ ?_ | intro _)) <;> first | assumption | omega | (simp only [obS] at *; omega) | (intros; first | rfl | assumption | omega | simp_all; done))) ?_))
  refine trg_nil ⟨rfl, ?_⟩
  refine wpS_cond rfl (by ((repeat' (first | exact aN | refine aC ?_ ?_ | intro _)) <;> first | assumption | omega | (simp only [obS] at *; omega) | (intros; first | rfl | assumption | omega | simp_all; done))) (fun h => ?_) (fun h => ?_)
  · have hA : applyB ⟨t, l⟩ ⟨1, key, tick, ver, hun, text, acc⟩ = (6, ⟨t, l⟩) := by unfold applyB; rw [if_pos h]
    rw [hA]
    (repeat (first | refine wpS_seq ?_ | refine wpS_reg ?_ | refine run_step rfl (by ((repeat' (first | exact aN | refine aC ?_ ?_ | intro _)) <;> first | assumption | omega | (simp only [obS] at *; omega) | (intros; first | rfl | assumption | omega | simp_all; done))) ?_ | refine run_nil ?_ | refine wpS_block ?_ | refine wpS_skip ?_ | refine wpS_exit ?_ | refine wpS_ret ?_))
    refine fin_mkR rfl ?_ ?_ <;> (repeat' (first | exact aN | refine aC ?_ ?_))
    all_goals first | rfl | exact ⟨rfl, rfl, .inl rfl, fun _ _ => rfl⟩
  have hh : ¬ hasB l ⟨1, key, tick, ver, hun, text, acc⟩ = true := by rw [show hasB l ⟨1, key, tick, ver, hun, text, acc⟩ = false from h]; simp
  clear h
  (repeat (first | refine wpS_seq ?_ | refine wpS_reg ?_ | refine run_step rfl (by ((repeat' (first | exact aN | refine aC ?_ ?_ | intro _)) <;> first | assumption | omega | (simp only [obS] at *; omega) | (intros; first | rfl | assumption | omega | simp_all; done))) ?_ | refine run_nil ?_ | refine wpS_block ?_ | refine wpS_skip ?_ | refine wpS_exit ?_ | refine wpS_ret ?_))
  refine wpS_D (by kernel_rfl) ?_; (repeat (refine trg_step rfl (by ((repeat' (first | exact aN | refine aC ?_ ?_ | intro _)) <;> first | assumption | omega | (simp only [obS] at *; omega) | (intros; first | rfl | assumption | omega | simp_all; done))) ?_)); refine trg_nil ⟨rfl, ?_⟩
  refine wpS_cond rfl (by ((repeat' (first | exact aN | refine aC ?_ ?_ | intro _)) <;> first | assumption | omega | (simp only [obS] at *; omega) | (intros; first | rfl | assumption | omega | simp_all; done))) (fun h => ?_) (fun h => ?_)
  · have ht : tick < t := by simpa using h
    have hA : applyB ⟨t, l⟩ ⟨1, key, tick, ver, hun, text, acc⟩ = (2, ⟨t, l⟩) := by unfold applyB; rw [if_neg hh, if_pos ht]
    rw [hA]
    (repeat (first | refine wpS_seq ?_ | refine wpS_reg ?_ | refine run_step rfl (by ((repeat' (first | exact aN | refine aC ?_ ?_ | intro _)) <;> first | assumption | omega | (simp only [obS] at *; omega) | (intros; first | rfl | assumption | omega | simp_all; done))) ?_ | refine run_nil ?_ | refine wpS_block ?_ | refine wpS_skip ?_ | refine wpS_exit ?_ | refine wpS_ret ?_))
    refine fin_mkR rfl ?_ ?_ <;> (repeat' (first | exact aN | refine aC ?_ ?_))
    all_goals first | rfl | exact ⟨rfl, rfl, .inl rfl, fun _ _ => rfl⟩
  have ht : ¬ tick < t := by simpa using h
  clear h
  (repeat (first | refine wpS_seq ?_ | refine wpS_reg ?_ | refine run_step rfl (by ((repeat' (first | exact aN | refine aC ?_ ?_ | intro _)) <;> first | assumption | omega | (simp only [obS] at *; omega) | (intros; first | rfl | assumption | omega | simp_all; done))) ?_ | refine run_nil ?_ | refine wpS_block ?_ | refine wpS_skip ?_ | refine wpS_exit ?_ | refine wpS_ret ?_))
  refine wpS_D (by kernel_rfl) ?_
  (repeat (refine trg_step rfl (by ((repeat' (first | exact aN | refine aC ?_ ?_ | intro _)) <;> first | assumption | omega | (simp only [obS] at *; omega) | (intros; first | rfl | assumption | omega | simp_all; done))) ?_))
  refine trg_c ((find_spec ⟨t, l⟩ key hb.l)) rfl (by ((repeat' (first | exact aN | refine aC ?_ ?_ | intro _)) <;> first | assumption | omega | (simp only [obS] at *; omega) | (intros; first | rfl | assumption | omega | simp_all; done))) rfl rfl (.inl rfl) ?_
  (repeat (refine trg_step rfl (by ((repeat' (first | exact aN | refine aC ?_ ?_ | intro _)) <;> first | assumption | omega | (simp only [obS] at *; omega) | (intros; first | rfl | assumption | omega | simp_all; done))) ?_))
  refine trg_nil ⟨rfl, ?_⟩
  rw [findI_eq]
  cases hf : findK (Bk.ens ⟨t, l⟩) key with
  | none =>
    have hA : applyB ⟨t, l⟩ ⟨1, key, tick, ver, hun, text, acc⟩ = (7, ⟨t, l⟩) := by
      unfold applyB
      rw [if_neg hh, if_neg ht, if_neg (by simp)]
      dsimp only at hf ⊢
      rw [hf]
    rw [hA]
    (repeat (first | refine wpS_seq ?_ | refine wpS_reg ?_ | refine run_step rfl (by ((repeat' (first | exact aN | refine aC ?_ ?_ | intro _)) <;> first | assumption | omega | (simp only [obS] at *; omega) | (intros; first | rfl | assumption | omega | simp_all; done))) ?_ | refine run_nil ?_ | refine wpS_block ?_ | refine wpS_skip ?_ | refine wpS_exit ?_ | refine wpS_ret ?_))
    refine wpS_condF rfl (by ((repeat' (first | exact aN | refine aC ?_ ?_ | intro _)) <;> first | assumption | omega | (simp only [obS] at *; omega) | (intros; first | rfl | assumption | omega | simp_all; done))) ?_
    (repeat (first | refine wpS_seq ?_ | refine wpS_reg ?_ | refine run_step rfl (by ((repeat' (first | exact aN | refine aC ?_ ?_ | intro _)) <;> first | assumption | omega | (simp only [obS] at *; omega) | (intros; first | rfl | assumption | omega | simp_all; done))) ?_ | refine run_nil ?_ | refine wpS_block ?_ | refine wpS_skip ?_ | refine wpS_exit ?_ | refine wpS_ret ?_))
    refine wpS_condT rfl (by ((repeat' (first | exact aN | refine aC ?_ ?_ | intro _)) <;> first | assumption | omega | (simp only [obS] at *; omega) | (intros; first | rfl | assumption | omega | simp_all; done))) ?_
    (repeat (first | refine wpS_seq ?_ | refine wpS_reg ?_ | refine run_step rfl (by ((repeat' (first | exact aN | refine aC ?_ ?_ | intro _)) <;> first | assumption | omega | (simp only [obS] at *; omega) | (intros; first | rfl | assumption | omega | simp_all; done))) ?_ | refine run_nil ?_ | refine wpS_block ?_ | refine wpS_skip ?_ | refine wpS_exit ?_ | refine wpS_ret ?_))
    refine fin_mkR rfl ?_ ?_ <;> (repeat' (first | exact aN | refine aC ?_ ?_))
    all_goals first | rfl | exact ⟨rfl, rfl, .inl rfl, fun _ _ => rfl⟩
  | some i =>
    dsimp only at hf ⊢
    obtain ⟨hi, hik, _⟩ := findK_some hf
    have hsy := hb.2 _ (getD_mem hi)
    (repeat (first | refine wpS_seq ?_ | refine wpS_reg ?_ | refine run_step rfl (by ((repeat' (first | exact aN | refine aC ?_ ?_ | intro _)) <;> first | assumption | omega | (simp only [obS] at *; omega) | (intros; first | rfl | assumption | omega | simp_all; done))) ?_ | refine run_nil ?_ | refine wpS_block ?_ | refine wpS_skip ?_ | refine wpS_exit ?_ | refine wpS_ret ?_))
    refine wpS_cond rfl (by ((repeat' (first | exact aN | refine aC ?_ ?_ | intro _)) <;> first | assumption | omega | (simp only [obS] at *; omega) | (intros; first | rfl | assumption | omega | simp_all; done))) (fun h => ?_) (fun h => ?_)
    · clear h
      (repeat (first | refine wpS_seq ?_ | refine wpS_reg ?_ | refine run_step rfl (by ((repeat' (first | exact aN | refine aC ?_ ?_ | intro _)) <;> first | assumption | omega | (simp only [obS] at *; omega) | (intros; first | rfl | assumption | omega | simp_all; done))) ?_ | refine run_nil ?_ | refine wpS_block ?_ | refine wpS_skip ?_ | refine wpS_exit ?_ | refine wpS_ret ?_))
      refine wpS_D (by kernel_rfl) ?_
      (repeat (refine trg_step rfl (by ((repeat' (first | exact aN | refine aC ?_ ?_ | intro _)) <;> first | assumption | omega | (simp only [obS] at *; omega) | (intros; first | rfl | assumption | omega | simp_all; done))) ?_))
      refine trg_cR (env := keepE _ [0, 3, 48, 49, 50, 51]) ρ3 [PB] (ent_keep [0, 3, 48, 49, 50, 51] [PB, QN, 3]) (specR_leA (args' := [.loc XN 0, .agg (evA ⟨1, key, tick, ver, hun, text, acc⟩), .locE PB 7 i 0]) (grade_spec l i ⟨1, key, tick, ver, hun, text, acc⟩ hi hsy) ⟨rfl, rfl, rfl, rfl, rfl, rfl, rfl, rfl, rfl, ⟨rfl, rfl⟩, trivial⟩) rfl rfl ⟨rfl, trivial⟩ rfl ?_
      (repeat (refine trg_step rfl (by ((repeat' (first | exact aN | refine aC ?_ ?_ | intro _)) <;> first | assumption | omega | (simp only [obS] at *; omega) | (intros; first | rfl | assumption | omega | simp_all; done))) ?_))
      refine trg_nil ⟨rfl, ?_⟩
      have hA : applyB ⟨t, l⟩ ⟨1, key, tick, ver, hun, text, acc⟩ = if (gradeE ⟨1, key, tick, ver, hun, text, acc⟩ (l.getD i default)).1 = 0 then (0, ⟨tick, l.set i (gradeE ⟨1, key, tick, ver, hun, text, acc⟩ (l.getD i default)).2⟩) else ((gradeE ⟨1, key, tick, ver, hun, text, acc⟩ (l.getD i default)).1, ⟨t, l⟩) := by
        unfold applyB
        rw [if_neg hh, if_neg ht, if_neg (by simp)]
        dsimp only
        rw [hf]
        rfl
      have hfail := gradeE_fail (e := ⟨1, key, tick, ver, hun, text, acc⟩) (y := l.getD i default)
      rw [hA]
      generalize hR : gradeE ⟨1, key, tick, ver, hun, text, acc⟩ (l.getD i default) = R at hfail ⊢
      obtain ⟨code, y'⟩ := R
      dsimp only at hfail ⊢
      (repeat (first | refine wpS_seq ?_ | refine wpS_reg ?_ | refine run_step rfl (by ((repeat' (first | exact aN | refine aC ?_ ?_ | intro _)) <;> first | assumption | omega | (simp only [obS] at *; omega) | (intros; first | rfl | assumption | omega | simp_all; done))) ?_ | refine run_nil ?_ | refine wpS_block ?_ | refine wpS_skip ?_ | refine wpS_exit ?_ | refine wpS_ret ?_))
      refine wpS_cond rfl (by ((repeat' (first | exact aN | refine aC ?_ ?_ | intro _)) <;> first | assumption | omega | (simp only [obS] at *; omega) | (intros; first | rfl | assumption | omega | simp_all; done))) (fun h => ?_) (fun h => ?_)
      · have hc : code ≠ 0 := by simpa using h
        have hy' := hfail hc
        rw [if_neg hc]
        (repeat (first | refine wpS_seq ?_ | refine wpS_reg ?_ | refine run_step rfl (by ((repeat' (first | exact aN | refine aC ?_ ?_ | intro _)) <;> first | assumption | omega | (simp only [obS] at *; omega) | (intros; first | rfl | assumption | omega | simp_all; done))) ?_ | refine run_nil ?_ | refine wpS_block ?_ | refine wpS_skip ?_ | refine wpS_exit ?_ | refine wpS_ret ?_))
        refine fin_mkR rfl ?_ ?_ <;> (repeat' (first | exact aN | refine aC ?_ ?_))
        all_goals first | rfl | (refine ⟨by simp, rfl, .inl rfl, fun _ _ => ?_⟩; rw [hy', set_self hi])
      · have hc : code = 0 := by simpa using h
        rw [if_pos hc]
        (repeat (first | refine wpS_seq ?_ | refine wpS_reg ?_ | refine run_step rfl (by ((repeat' (first | exact aN | refine aC ?_ ?_ | intro _)) <;> first | assumption | omega | (simp only [obS] at *; omega) | (intros; first | rfl | assumption | omega | simp_all; done))) ?_ | refine run_nil ?_ | refine wpS_block ?_ | refine wpS_skip ?_ | refine wpS_exit ?_ | refine wpS_ret ?_))
        refine fin_mkR rfl ?_ ?_ <;> (repeat' (first | exact aN | refine aC ?_ ?_))
        all_goals first | rfl | exact ⟨rfl, rfl, .inl rfl, fun _ _ => rfl⟩
    · simp at h
theorem apply_appeal (t : Int) (l : List En) (e : Ev) (hk : e.kind = 2) (hs : SmV l) :
    SpecR Tryz.prog 45 [.loc PB 0, .agg (evA e)] [(PB, .blk 76 [.int .i64 t, .ref QN]), (QN, enR l)] (.int .i64 (applyB ⟨t, l⟩ e).1) [(PB, .blk 76 [.int .i64 (applyB ⟨t, l⟩ e).2.tick, .ref QN]), (QN, enR (applyB ⟨t, l⟩ e).2.ens)] := by
  have hb := hs.b
  obtain ⟨kind, key, tick, ver, hun, text, acc⟩ := e
  dsimp only at hk
  subst hk
  refine specR ok45 fun C _ => ?_
  refine wpS_seq ?_; refine wpS_reg ?_; (repeat (refine run_step rfl (by ((repeat' (first | exact aN | refine aC ?_ ?_ | intro _)) <;> first | assumption | omega | (simp only [obS] at *; omega) | (intros; first | rfl | assumption | omega | simp_all; done))) ?_)); refine run_nil ?_
  refine wpS_seq ?_; refine wpS_reg ?_; (repeat (refine run_step rfl (by ((repeat' (first | exact aN | refine aC ?_ ?_ | intro _)) <;> first | assumption | omega | (simp only [obS] at *; omega) | (intros; first | rfl | assumption | omega | simp_all; done))) ?_)); refine run_nil ?_
  (repeat (first | refine wpS_seq ?_ | refine wpS_reg ?_ | refine run_step rfl (by ((repeat' (first | exact aN | refine aC ?_ ?_ | intro _)) <;> first | assumption | omega | (simp only [obS] at *; omega) | (intros; first | rfl | assumption | omega | simp_all; done))) ?_ | refine run_nil ?_ | refine wpS_block ?_ | refine wpS_skip ?_ | refine wpS_exit ?_ | refine wpS_ret ?_))
  refine wpS_D (by kernel_rfl) ?_
  (repeat (refine trg_step rfl (by ((repeat' (first | exact aN | refine aC ?_ ?_ | intro _)) <;> first | assumption | omega | (simp only [obS] at *; omega) | (intros; first | rfl | assumption | omega | simp_all; done))) ?_))
  refine trg_c ((has_spec ⟨t, l⟩ ⟨2, key, tick, ver, hun, text, acc⟩ hs)) rfl (by ((repeat' (first | exact aN | refine aC ?_ ?_ | intro _)) <;> first | assumption | omega | (simp only [obS] at *; omega) | (intros; first | rfl | assumption | omega | simp_all; done))) rfl rfl (.inl rfl) ?_
  (repeat (refine trg_step rfl (by ((repeat' (first | exact aN | refine aC ?_ ?_ | intro _)) <;> first | assumption | omega | (simp only [obS] at *; omega) | (intros; first | rfl | assumption | omega | simp_all; done))) ?_))
  refine trg_nil ⟨rfl, ?_⟩
  refine wpS_cond rfl (by ((repeat' (first | exact aN | refine aC ?_ ?_ | intro _)) <;> first | assumption | omega | (simp only [obS] at *; omega) | (intros; first | rfl | assumption | omega | simp_all; done))) (fun h => ?_) (fun h => ?_)
  · have hA : applyB ⟨t, l⟩ ⟨2, key, tick, ver, hun, text, acc⟩ = (6, ⟨t, l⟩) := by unfold applyB; rw [if_pos h]
    rw [hA]
    (repeat (first | refine wpS_seq ?_ | refine wpS_reg ?_ | refine run_step rfl (by ((repeat' (first | exact aN | refine aC ?_ ?_ | intro _)) <;> first | assumption | omega | (simp only [obS] at *; omega) | (intros; first | rfl | assumption | omega | simp_all; done))) ?_ | refine run_nil ?_ | refine wpS_block ?_ | refine wpS_skip ?_ | refine wpS_exit ?_ | refine wpS_ret ?_))
    refine fin_mkR rfl ?_ ?_ <;> (repeat' (first | exact aN | refine aC ?_ ?_))
    all_goals first | rfl | exact ⟨rfl, rfl, .inl rfl, fun _ _ => rfl⟩
  have hh : ¬ hasB l ⟨2, key, tick, ver, hun, text, acc⟩ = true := by rw [show hasB l ⟨2, key, tick, ver, hun, text, acc⟩ = false from h]; simp
  clear h
  (repeat (first | refine wpS_seq ?_ | refine wpS_reg ?_ | refine run_step rfl (by ((repeat' (first | exact aN | refine aC ?_ ?_ | intro _)) <;> first | assumption | omega | (simp only [obS] at *; omega) | (intros; first | rfl | assumption | omega | simp_all; done))) ?_ | refine run_nil ?_ | refine wpS_block ?_ | refine wpS_skip ?_ | refine wpS_exit ?_ | refine wpS_ret ?_))
  refine wpS_D (by kernel_rfl) ?_; (repeat (refine trg_step rfl (by ((repeat' (first | exact aN | refine aC ?_ ?_ | intro _)) <;> first | assumption | omega | (simp only [obS] at *; omega) | (intros; first | rfl | assumption | omega | simp_all; done))) ?_)); refine trg_nil ⟨rfl, ?_⟩
  refine wpS_cond rfl (by ((repeat' (first | exact aN | refine aC ?_ ?_ | intro _)) <;> first | assumption | omega | (simp only [obS] at *; omega) | (intros; first | rfl | assumption | omega | simp_all; done))) (fun h => ?_) (fun h => ?_)
  · have ht : tick < t := by simpa using h
    have hA : applyB ⟨t, l⟩ ⟨2, key, tick, ver, hun, text, acc⟩ = (2, ⟨t, l⟩) := by unfold applyB; rw [if_neg hh, if_pos ht]
    rw [hA]
    (repeat (first | refine wpS_seq ?_ | refine wpS_reg ?_ | refine run_step rfl (by ((repeat' (first | exact aN | refine aC ?_ ?_ | intro _)) <;> first | assumption | omega | (simp only [obS] at *; omega) | (intros; first | rfl | assumption | omega | simp_all; done))) ?_ | refine run_nil ?_ | refine wpS_block ?_ | refine wpS_skip ?_ | refine wpS_exit ?_ | refine wpS_ret ?_))
    refine fin_mkR rfl ?_ ?_ <;> (repeat' (first | exact aN | refine aC ?_ ?_))
    all_goals first | rfl | exact ⟨rfl, rfl, .inl rfl, fun _ _ => rfl⟩
  have ht : ¬ tick < t := by simpa using h
  clear h
  (repeat (first | refine wpS_seq ?_ | refine wpS_reg ?_ | refine run_step rfl (by ((repeat' (first | exact aN | refine aC ?_ ?_ | intro _)) <;> first | assumption | omega | (simp only [obS] at *; omega) | (intros; first | rfl | assumption | omega | simp_all; done))) ?_ | refine run_nil ?_ | refine wpS_block ?_ | refine wpS_skip ?_ | refine wpS_exit ?_ | refine wpS_ret ?_))
  refine wpS_D (by kernel_rfl) ?_
  (repeat (refine trg_step rfl (by ((repeat' (first | exact aN | refine aC ?_ ?_ | intro _)) <;> first | assumption | omega | (simp only [obS] at *; omega) | (intros; first | rfl | assumption | omega | simp_all; done))) ?_))
  refine trg_c ((find_spec ⟨t, l⟩ key hb.l)) rfl (by ((repeat' (first | exact aN | refine aC ?_ ?_ | intro _)) <;> first | assumption | omega | (simp only [obS] at *; omega) | (intros; first | rfl | assumption | omega | simp_all; done))) rfl rfl (.inl rfl) ?_
  (repeat (refine trg_step rfl (by ((repeat' (first | exact aN | refine aC ?_ ?_ | intro _)) <;> first | assumption | omega | (simp only [obS] at *; omega) | (intros; first | rfl | assumption | omega | simp_all; done))) ?_))
  refine trg_nil ⟨rfl, ?_⟩
  rw [findI_eq]
  cases hf : findK (Bk.ens ⟨t, l⟩) key with
  | none =>
    have hA : applyB ⟨t, l⟩ ⟨2, key, tick, ver, hun, text, acc⟩ = (7, ⟨t, l⟩) := by
      unfold applyB
      rw [if_neg hh, if_neg ht, if_neg (by simp)]
      dsimp only at hf ⊢
      rw [hf]
    rw [hA]
    (repeat (first | refine wpS_seq ?_ | refine wpS_reg ?_ | refine run_step rfl (by ((repeat' (first | exact aN | refine aC ?_ ?_ | intro _)) <;> first | assumption | omega | (simp only [obS] at *; omega) | (intros; first | rfl | assumption | omega | simp_all; done))) ?_ | refine run_nil ?_ | refine wpS_block ?_ | refine wpS_skip ?_ | refine wpS_exit ?_ | refine wpS_ret ?_))
    refine wpS_condF rfl (by ((repeat' (first | exact aN | refine aC ?_ ?_ | intro _)) <;> first | assumption | omega | (simp only [obS] at *; omega) | (intros; first | rfl | assumption | omega | simp_all; done))) ?_
    (repeat (first | refine wpS_seq ?_ | refine wpS_reg ?_ | refine run_step rfl (by ((repeat' (first | exact aN | refine aC ?_ ?_ | intro _)) <;> first | assumption | omega | (simp only [obS] at *; omega) | (intros; first | rfl | assumption | omega | simp_all; done))) ?_ | refine run_nil ?_ | refine wpS_block ?_ | refine wpS_skip ?_ | refine wpS_exit ?_ | refine wpS_ret ?_))
    refine wpS_condT rfl (by ((repeat' (first | exact aN | refine aC ?_ ?_ | intro _)) <;> first | assumption | omega | (simp only [obS] at *; omega) | (intros; first | rfl | assumption | omega | simp_all; done))) ?_
    (repeat (first | refine wpS_seq ?_ | refine wpS_reg ?_ | refine run_step rfl (by ((repeat' (first | exact aN | refine aC ?_ ?_ | intro _)) <;> first | assumption | omega | (simp only [obS] at *; omega) | (intros; first | rfl | assumption | omega | simp_all; done))) ?_ | refine run_nil ?_ | refine wpS_block ?_ | refine wpS_skip ?_ | refine wpS_exit ?_ | refine wpS_ret ?_))
    refine fin_mkR rfl ?_ ?_ <;> (repeat' (first | exact aN | refine aC ?_ ?_))
    all_goals first | rfl | exact ⟨rfl, rfl, .inl rfl, fun _ _ => rfl⟩
  | some i =>
    dsimp only at hf ⊢
    obtain ⟨hi, hik, _⟩ := findK_some hf
    have hsy := hb.2 _ (getD_mem hi)
    (repeat (first | refine wpS_seq ?_ | refine wpS_reg ?_ | refine run_step rfl (by ((repeat' (first | exact aN | refine aC ?_ ?_ | intro _)) <;> first | assumption | omega | (simp only [obS] at *; omega) | (intros; first | rfl | assumption | omega | simp_all; done))) ?_ | refine run_nil ?_ | refine wpS_block ?_ | refine wpS_skip ?_ | refine wpS_exit ?_ | refine wpS_ret ?_))
    refine wpS_cond rfl (by ((repeat' (first | exact aN | refine aC ?_ ?_ | intro _)) <;> first | assumption | omega | (simp only [obS] at *; omega) | (intros; first | rfl | assumption | omega | simp_all; done))) (fun h => ?_) (fun h => ?_)
    · clear h
      (repeat (first | refine wpS_seq ?_ | refine wpS_reg ?_ | refine run_step rfl (by ((repeat' (first | exact aN | refine aC ?_ ?_ | intro _)) <;> first | assumption | omega | (simp only [obS] at *; omega) | (intros; first | rfl | assumption | omega | simp_all; done))) ?_ | refine run_nil ?_ | refine wpS_block ?_ | refine wpS_skip ?_ | refine wpS_exit ?_ | refine wpS_ret ?_))
      refine wpS_D (by kernel_rfl) ?_
      (repeat (refine trg_step rfl (by ((repeat' (first | exact aN | refine aC ?_ ?_ | intro _)) <;> first | assumption | omega | (simp only [obS] at *; omega) | (intros; first | rfl | assumption | omega | simp_all; done))) ?_))
      refine trg_cR (env := keepE _ [0, 3, 48, 49, 50, 51]) ρ3 [PB] (ent_keep [0, 3, 48, 49, 50, 51] [PB, QN, 3]) (specR_leA (args' := [.loc XN 0, .agg (evA ⟨2, key, tick, ver, hun, text, acc⟩), .locE PB 7 i 0]) (appeal_spec l i ⟨2, key, tick, ver, hun, text, acc⟩ hi hsy) ⟨rfl, rfl, rfl, rfl, rfl, rfl, rfl, rfl, rfl, ⟨rfl, rfl⟩, trivial⟩) rfl rfl ⟨rfl, trivial⟩ rfl ?_
      (repeat (refine trg_step rfl (by ((repeat' (first | exact aN | refine aC ?_ ?_ | intro _)) <;> first | assumption | omega | (simp only [obS] at *; omega) | (intros; first | rfl | assumption | omega | simp_all; done))) ?_))
      refine trg_nil ⟨rfl, ?_⟩
      have hA : applyB ⟨t, l⟩ ⟨2, key, tick, ver, hun, text, acc⟩ = if (appealE ⟨2, key, tick, ver, hun, text, acc⟩ (l.getD i default)).1 = 0 then (0, ⟨tick, l.set i (appealE ⟨2, key, tick, ver, hun, text, acc⟩ (l.getD i default)).2⟩) else ((appealE ⟨2, key, tick, ver, hun, text, acc⟩ (l.getD i default)).1, ⟨t, l⟩) := by
        unfold applyB
        rw [if_neg hh, if_neg ht, if_neg (by simp)]
        dsimp only
        rw [hf]
        rfl
      have hfail := appealE_fail (e := ⟨2, key, tick, ver, hun, text, acc⟩) (y := l.getD i default)
      rw [hA]
      generalize hR : appealE ⟨2, key, tick, ver, hun, text, acc⟩ (l.getD i default) = R at hfail ⊢
      obtain ⟨code, y'⟩ := R
      dsimp only at hfail ⊢
      (repeat (first | refine wpS_seq ?_ | refine wpS_reg ?_ | refine run_step rfl (by ((repeat' (first | exact aN | refine aC ?_ ?_ | intro _)) <;> first | assumption | omega | (simp only [obS] at *; omega) | (intros; first | rfl | assumption | omega | simp_all; done))) ?_ | refine run_nil ?_ | refine wpS_block ?_ | refine wpS_skip ?_ | refine wpS_exit ?_ | refine wpS_ret ?_))
      refine wpS_cond rfl (by ((repeat' (first | exact aN | refine aC ?_ ?_ | intro _)) <;> first | assumption | omega | (simp only [obS] at *; omega) | (intros; first | rfl | assumption | omega | simp_all; done))) (fun h => ?_) (fun h => ?_)
      · have hc : code ≠ 0 := by simpa using h
        have hy' := hfail hc
        rw [if_neg hc]
        (repeat (first | refine wpS_seq ?_ | refine wpS_reg ?_ | refine run_step rfl (by ((repeat' (first | exact aN | refine aC ?_ ?_ | intro _)) <;> first | assumption | omega | (simp only [obS] at *; omega) | (intros; first | rfl | assumption | omega | simp_all; done))) ?_ | refine run_nil ?_ | refine wpS_block ?_ | refine wpS_skip ?_ | refine wpS_exit ?_ | refine wpS_ret ?_))
        refine fin_mkR rfl ?_ ?_ <;> (repeat' (first | exact aN | refine aC ?_ ?_))
        all_goals first | rfl | (refine ⟨by simp, rfl, .inl rfl, fun _ _ => ?_⟩; rw [hy', set_self hi])
      · have hc : code = 0 := by simpa using h
        rw [if_pos hc]
        (repeat (first | refine wpS_seq ?_ | refine wpS_reg ?_ | refine run_step rfl (by ((repeat' (first | exact aN | refine aC ?_ ?_ | intro _)) <;> first | assumption | omega | (simp only [obS] at *; omega) | (intros; first | rfl | assumption | omega | simp_all; done))) ?_ | refine run_nil ?_ | refine wpS_block ?_ | refine wpS_skip ?_ | refine wpS_exit ?_ | refine wpS_ret ?_))
        refine fin_mkR rfl ?_ ?_ <;> (repeat' (first | exact aN | refine aC ?_ ?_))
        all_goals first | rfl | exact ⟨rfl, rfl, .inl rfl, fun _ _ => rfl⟩
    · simp at h
theorem apply_decide (t : Int) (l : List En) (e : Ev) (hk : e.kind = 3) (hs : SmV l) :
    SpecR Tryz.prog 45 [.loc PB 0, .agg (evA e)] [(PB, .blk 76 [.int .i64 t, .ref QN]), (QN, enR l)] (.int .i64 (applyB ⟨t, l⟩ e).1) [(PB, .blk 76 [.int .i64 (applyB ⟨t, l⟩ e).2.tick, .ref QN]), (QN, enR (applyB ⟨t, l⟩ e).2.ens)] := by
  have hb := hs.b
  obtain ⟨kind, key, tick, ver, hun, text, acc⟩ := e
  dsimp only at hk
  subst hk
  refine specR ok45 fun C _ => ?_
  refine wpS_seq ?_; refine wpS_reg ?_; (repeat (refine run_step rfl (by ((repeat' (first | exact aN | refine aC ?_ ?_ | intro _)) <;> first | assumption | omega | (simp only [obS] at *; omega) | (intros; first | rfl | assumption | omega | simp_all; done))) ?_)); refine run_nil ?_
  refine wpS_seq ?_; refine wpS_reg ?_; (repeat (refine run_step rfl (by ((repeat' (first | exact aN | refine aC ?_ ?_ | intro _)) <;> first | assumption | omega | (simp only [obS] at *; omega) | (intros; first | rfl | assumption | omega | simp_all; done))) ?_)); refine run_nil ?_
  (repeat (first | refine wpS_seq ?_ | refine wpS_reg ?_ | refine run_step rfl (by ((repeat' (first | exact aN | refine aC ?_ ?_ | intro _)) <;> first | assumption | omega | (simp only [obS] at *; omega) | (intros; first | rfl | assumption | omega | simp_all; done))) ?_ | refine run_nil ?_ | refine wpS_block ?_ | refine wpS_skip ?_ | refine wpS_exit ?_ | refine wpS_ret ?_))
  refine wpS_D (by kernel_rfl) ?_
  (repeat (refine trg_step rfl (by ((repeat' (first | exact aN | refine aC ?_ ?_ | intro _)) <;> first | assumption | omega | (simp only [obS] at *; omega) | (intros; first | rfl | assumption | omega | simp_all; done))) ?_))
  refine trg_c ((has_spec ⟨t, l⟩ ⟨3, key, tick, ver, hun, text, acc⟩ hs)) rfl (by ((repeat' (first | exact aN | refine aC ?_ ?_ | intro _)) <;> first | assumption | omega | (simp only [obS] at *; omega) | (intros; first | rfl | assumption | omega | simp_all; done))) rfl rfl (.inl rfl) ?_
  (repeat (refine trg_step rfl (by ((repeat' (first | exact aN | refine aC ?_ ?_ | intro _)) <;> first | assumption | omega | (simp only [obS] at *; omega) | (intros; first | rfl | assumption | omega | simp_all; done))) ?_))
  refine trg_nil ⟨rfl, ?_⟩
  refine wpS_cond rfl (by ((repeat' (first | exact aN | refine aC ?_ ?_ | intro _)) <;> first | assumption | omega | (simp only [obS] at *; omega) | (intros; first | rfl | assumption | omega | simp_all; done))) (fun h => ?_) (fun h => ?_)
  · have hA : applyB ⟨t, l⟩ ⟨3, key, tick, ver, hun, text, acc⟩ = (6, ⟨t, l⟩) := by unfold applyB; rw [if_pos h]
    rw [hA]
    (repeat (first | refine wpS_seq ?_ | refine wpS_reg ?_ | refine run_step rfl (by ((repeat' (first | exact aN | refine aC ?_ ?_ | intro _)) <;> first | assumption | omega | (simp only [obS] at *; omega) | (intros; first | rfl | assumption | omega | simp_all; done))) ?_ | refine run_nil ?_ | refine wpS_block ?_ | refine wpS_skip ?_ | refine wpS_exit ?_ | refine wpS_ret ?_))
    refine fin_mkR rfl ?_ ?_ <;> (repeat' (first | exact aN | refine aC ?_ ?_))
    all_goals first | rfl | exact ⟨rfl, rfl, .inl rfl, fun _ _ => rfl⟩
  have hh : ¬ hasB l ⟨3, key, tick, ver, hun, text, acc⟩ = true := by rw [show hasB l ⟨3, key, tick, ver, hun, text, acc⟩ = false from h]; simp
  clear h
  (repeat (first | refine wpS_seq ?_ | refine wpS_reg ?_ | refine run_step rfl (by ((repeat' (first | exact aN | refine aC ?_ ?_ | intro _)) <;> first | assumption | omega | (simp only [obS] at *; omega) | (intros; first | rfl | assumption | omega | simp_all; done))) ?_ | refine run_nil ?_ | refine wpS_block ?_ | refine wpS_skip ?_ | refine wpS_exit ?_ | refine wpS_ret ?_))
  refine wpS_D (by kernel_rfl) ?_; (repeat (refine trg_step rfl (by ((repeat' (first | exact aN | refine aC ?_ ?_ | intro _)) <;> first | assumption | omega | (simp only [obS] at *; omega) | (intros; first | rfl | assumption | omega | simp_all; done))) ?_)); refine trg_nil ⟨rfl, ?_⟩
  refine wpS_cond rfl (by ((repeat' (first | exact aN | refine aC ?_ ?_ | intro _)) <;> first | assumption | omega | (simp only [obS] at *; omega) | (intros; first | rfl | assumption | omega | simp_all; done))) (fun h => ?_) (fun h => ?_)
  · have ht : tick < t := by simpa using h
    have hA : applyB ⟨t, l⟩ ⟨3, key, tick, ver, hun, text, acc⟩ = (2, ⟨t, l⟩) := by unfold applyB; rw [if_neg hh, if_pos ht]
    rw [hA]
    (repeat (first | refine wpS_seq ?_ | refine wpS_reg ?_ | refine run_step rfl (by ((repeat' (first | exact aN | refine aC ?_ ?_ | intro _)) <;> first | assumption | omega | (simp only [obS] at *; omega) | (intros; first | rfl | assumption | omega | simp_all; done))) ?_ | refine run_nil ?_ | refine wpS_block ?_ | refine wpS_skip ?_ | refine wpS_exit ?_ | refine wpS_ret ?_))
    refine fin_mkR rfl ?_ ?_ <;> (repeat' (first | exact aN | refine aC ?_ ?_))
    all_goals first | rfl | exact ⟨rfl, rfl, .inl rfl, fun _ _ => rfl⟩
  have ht : ¬ tick < t := by simpa using h
  clear h
  (repeat (first | refine wpS_seq ?_ | refine wpS_reg ?_ | refine run_step rfl (by ((repeat' (first | exact aN | refine aC ?_ ?_ | intro _)) <;> first | assumption | omega | (simp only [obS] at *; omega) | (intros; first | rfl | assumption | omega | simp_all; done))) ?_ | refine run_nil ?_ | refine wpS_block ?_ | refine wpS_skip ?_ | refine wpS_exit ?_ | refine wpS_ret ?_))
  refine wpS_D (by kernel_rfl) ?_
  (repeat (refine trg_step rfl (by ((repeat' (first | exact aN | refine aC ?_ ?_ | intro _)) <;> first | assumption | omega | (simp only [obS] at *; omega) | (intros; first | rfl | assumption | omega | simp_all; done))) ?_))
  refine trg_c ((find_spec ⟨t, l⟩ key hb.l)) rfl (by ((repeat' (first | exact aN | refine aC ?_ ?_ | intro _)) <;> first | assumption | omega | (simp only [obS] at *; omega) | (intros; first | rfl | assumption | omega | simp_all; done))) rfl rfl (.inl rfl) ?_
  (repeat (refine trg_step rfl (by ((repeat' (first | exact aN | refine aC ?_ ?_ | intro _)) <;> first | assumption | omega | (simp only [obS] at *; omega) | (intros; first | rfl | assumption | omega | simp_all; done))) ?_))
  refine trg_nil ⟨rfl, ?_⟩
  rw [findI_eq]
  cases hf : findK (Bk.ens ⟨t, l⟩) key with
  | none =>
    have hA : applyB ⟨t, l⟩ ⟨3, key, tick, ver, hun, text, acc⟩ = (7, ⟨t, l⟩) := by
      unfold applyB
      rw [if_neg hh, if_neg ht, if_neg (by simp)]
      dsimp only at hf ⊢
      rw [hf]
    rw [hA]
    (repeat (first | refine wpS_seq ?_ | refine wpS_reg ?_ | refine run_step rfl (by ((repeat' (first | exact aN | refine aC ?_ ?_ | intro _)) <;> first | assumption | omega | (simp only [obS] at *; omega) | (intros; first | rfl | assumption | omega | simp_all; done))) ?_ | refine run_nil ?_ | refine wpS_block ?_ | refine wpS_skip ?_ | refine wpS_exit ?_ | refine wpS_ret ?_))
    refine wpS_condF rfl (by ((repeat' (first | exact aN | refine aC ?_ ?_ | intro _)) <;> first | assumption | omega | (simp only [obS] at *; omega) | (intros; first | rfl | assumption | omega | simp_all; done))) ?_
    (repeat (first | refine wpS_seq ?_ | refine wpS_reg ?_ | refine run_step rfl (by ((repeat' (first | exact aN | refine aC ?_ ?_ | intro _)) <;> first | assumption | omega | (simp only [obS] at *; omega) | (intros; first | rfl | assumption | omega | simp_all; done))) ?_ | refine run_nil ?_ | refine wpS_block ?_ | refine wpS_skip ?_ | refine wpS_exit ?_ | refine wpS_ret ?_))
    refine wpS_condT rfl (by ((repeat' (first | exact aN | refine aC ?_ ?_ | intro _)) <;> first | assumption | omega | (simp only [obS] at *; omega) | (intros; first | rfl | assumption | omega | simp_all; done))) ?_
    (repeat (first | refine wpS_seq ?_ | refine wpS_reg ?_ | refine run_step rfl (by ((repeat' (first | exact aN | refine aC ?_ ?_ | intro _)) <;> first | assumption | omega | (simp only [obS] at *; omega) | (intros; first | rfl | assumption | omega | simp_all; done))) ?_ | refine run_nil ?_ | refine wpS_block ?_ | refine wpS_skip ?_ | refine wpS_exit ?_ | refine wpS_ret ?_))
    refine fin_mkR rfl ?_ ?_ <;> (repeat' (first | exact aN | refine aC ?_ ?_))
    all_goals first | rfl | exact ⟨rfl, rfl, .inl rfl, fun _ _ => rfl⟩
  | some i =>
    dsimp only at hf ⊢
    obtain ⟨hi, hik, _⟩ := findK_some hf
    have hsy := hb.2 _ (getD_mem hi)
    (repeat (first | refine wpS_seq ?_ | refine wpS_reg ?_ | refine run_step rfl (by ((repeat' (first | exact aN | refine aC ?_ ?_ | intro _)) <;> first | assumption | omega | (simp only [obS] at *; omega) | (intros; first | rfl | assumption | omega | simp_all; done))) ?_ | refine run_nil ?_ | refine wpS_block ?_ | refine wpS_skip ?_ | refine wpS_exit ?_ | refine wpS_ret ?_))
    refine wpS_cond rfl (by ((repeat' (first | exact aN | refine aC ?_ ?_ | intro _)) <;> first | assumption | omega | (simp only [obS] at *; omega) | (intros; first | rfl | assumption | omega | simp_all; done))) (fun h => ?_) (fun h => ?_)
    · clear h
      (repeat (first | refine wpS_seq ?_ | refine wpS_reg ?_ | refine run_step rfl (by ((repeat' (first | exact aN | refine aC ?_ ?_ | intro _)) <;> first | assumption | omega | (simp only [obS] at *; omega) | (intros; first | rfl | assumption | omega | simp_all; done))) ?_ | refine run_nil ?_ | refine wpS_block ?_ | refine wpS_skip ?_ | refine wpS_exit ?_ | refine wpS_ret ?_))
      refine wpS_D (by kernel_rfl) ?_
      (repeat (refine trg_step rfl (by ((repeat' (first | exact aN | refine aC ?_ ?_ | intro _)) <;> first | assumption | omega | (simp only [obS] at *; omega) | (intros; first | rfl | assumption | omega | simp_all; done))) ?_))
      refine trg_cR (env := keepE _ [0, 3, 48, 49, 50, 51]) ρ3 [PB] (ent_keep [0, 3, 48, 49, 50, 51] [PB, QN, 3]) (specR_leA (args' := [.loc XN 0, .agg (evA ⟨3, key, tick, ver, hun, text, acc⟩), .locE PB 7 i 0]) (decide_spec l i ⟨3, key, tick, ver, hun, text, acc⟩ hi hsy) ⟨rfl, rfl, rfl, rfl, rfl, rfl, rfl, rfl, rfl, ⟨rfl, rfl⟩, trivial⟩) rfl rfl ⟨rfl, trivial⟩ rfl ?_
      (repeat (refine trg_step rfl (by ((repeat' (first | exact aN | refine aC ?_ ?_ | intro _)) <;> first | assumption | omega | (simp only [obS] at *; omega) | (intros; first | rfl | assumption | omega | simp_all; done))) ?_))
      refine trg_nil ⟨rfl, ?_⟩
      have hA : applyB ⟨t, l⟩ ⟨3, key, tick, ver, hun, text, acc⟩ = if (decideE ⟨3, key, tick, ver, hun, text, acc⟩ (l.getD i default)).1 = 0 then (0, ⟨tick, l.set i (decideE ⟨3, key, tick, ver, hun, text, acc⟩ (l.getD i default)).2⟩) else ((decideE ⟨3, key, tick, ver, hun, text, acc⟩ (l.getD i default)).1, ⟨t, l⟩) := by
        unfold applyB
        rw [if_neg hh, if_neg ht, if_neg (by simp)]
        dsimp only
        rw [hf]
        rfl
      have hfail := decideE_fail (e := ⟨3, key, tick, ver, hun, text, acc⟩) (y := l.getD i default)
      rw [hA]
      generalize hR : decideE ⟨3, key, tick, ver, hun, text, acc⟩ (l.getD i default) = R at hfail ⊢
      obtain ⟨code, y'⟩ := R
      dsimp only at hfail ⊢
      (repeat (first | refine wpS_seq ?_ | refine wpS_reg ?_ | refine run_step rfl (by ((repeat' (first | exact aN | refine aC ?_ ?_ | intro _)) <;> first | assumption | omega | (simp only [obS] at *; omega) | (intros; first | rfl | assumption | omega | simp_all; done))) ?_ | refine run_nil ?_ | refine wpS_block ?_ | refine wpS_skip ?_ | refine wpS_exit ?_ | refine wpS_ret ?_))
      refine wpS_cond rfl (by ((repeat' (first | exact aN | refine aC ?_ ?_ | intro _)) <;> first | assumption | omega | (simp only [obS] at *; omega) | (intros; first | rfl | assumption | omega | simp_all; done))) (fun h => ?_) (fun h => ?_)
      · have hc : code ≠ 0 := by simpa using h
        have hy' := hfail hc
        rw [if_neg hc]
        (repeat (first | refine wpS_seq ?_ | refine wpS_reg ?_ | refine run_step rfl (by ((repeat' (first | exact aN | refine aC ?_ ?_ | intro _)) <;> first | assumption | omega | (simp only [obS] at *; omega) | (intros; first | rfl | assumption | omega | simp_all; done))) ?_ | refine run_nil ?_ | refine wpS_block ?_ | refine wpS_skip ?_ | refine wpS_exit ?_ | refine wpS_ret ?_))
        refine fin_mkR rfl ?_ ?_ <;> (repeat' (first | exact aN | refine aC ?_ ?_))
        all_goals first | rfl | (refine ⟨by simp, rfl, .inl rfl, fun _ _ => ?_⟩; rw [hy', set_self hi])
      · have hc : code = 0 := by simpa using h
        rw [if_pos hc]
        (repeat (first | refine wpS_seq ?_ | refine wpS_reg ?_ | refine run_step rfl (by ((repeat' (first | exact aN | refine aC ?_ ?_ | intro _)) <;> first | assumption | omega | (simp only [obS] at *; omega) | (intros; first | rfl | assumption | omega | simp_all; done))) ?_ | refine run_nil ?_ | refine wpS_block ?_ | refine wpS_skip ?_ | refine wpS_exit ?_ | refine wpS_ret ?_))
        refine fin_mkR rfl ?_ ?_ <;> (repeat' (first | exact aN | refine aC ?_ ?_))
        all_goals first | rfl | exact ⟨rfl, rfl, .inl rfl, fun _ _ => rfl⟩
    · simp at h
theorem apply_submit (t : Int) (l : List En) (e : Ev) (hk : e.kind = 0) (hs : SmV l) :
    SpecR Tryz.prog 45 [.loc PB 0, .agg (evA e)] [(PB, .blk 76 [.int .i64 t, .ref QN]), (QN, enR l)] (.int .i64 (applyB ⟨t, l⟩ e).1) [(PB, .blk 76 [.int .i64 (applyB ⟨t, l⟩ e).2.tick, .ref QN]), (QN, enR (applyB ⟨t, l⟩ e).2.ens)] := by
  have hb := hs.b
  obtain ⟨kind, key, tick, ver, hun, text, acc⟩ := e
  dsimp only at hk
  subst hk
  refine specR ok45 fun C _ => ?_
  refine wpS_seq ?_; refine wpS_reg ?_; (repeat (refine run_step rfl (by ((repeat' (first | exact aN | refine aC ?_ ?_ | intro _)) <;> first | assumption | omega | (simp only [obS] at *; omega) | (intros; first | rfl | assumption | omega | simp_all; done))) ?_)); refine run_nil ?_
  refine wpS_seq ?_; refine wpS_reg ?_; (repeat (refine run_step rfl (by ((repeat' (first | exact aN | refine aC ?_ ?_ | intro _)) <;> first | assumption | omega | (simp only [obS] at *; omega) | (intros; first | rfl | assumption | omega | simp_all; done))) ?_)); refine run_nil ?_
  (repeat (first | refine wpS_seq ?_ | refine wpS_reg ?_ | refine run_step rfl (by ((repeat' (first | exact aN | refine aC ?_ ?_ | intro _)) <;> first | assumption | omega | (simp only [obS] at *; omega) | (intros; first | rfl | assumption | omega | simp_all; done))) ?_ | refine run_nil ?_ | refine wpS_block ?_ | refine wpS_skip ?_ | refine wpS_exit ?_ | refine wpS_ret ?_))
  refine wpS_D (by kernel_rfl) ?_
  (repeat (refine trg_step rfl (by ((repeat' (first | exact aN | refine aC ?_ ?_ | intro _)) <;> first | assumption | omega | (simp only [obS] at *; omega) | (intros; first | rfl | assumption | omega | simp_all; done))) ?_))
  refine trg_c ((has_spec ⟨t, l⟩ ⟨0, key, tick, ver, hun, text, acc⟩ hs)) rfl (by ((repeat' (first | exact aN | refine aC ?_ ?_ | intro _)) <;> first | assumption | omega | (simp only [obS] at *; omega) | (intros; first | rfl | assumption | omega | simp_all; done))) rfl rfl (.inl rfl) ?_
  (repeat (refine trg_step rfl (by ((repeat' (first | exact aN | refine aC ?_ ?_ | intro _)) <;> first | assumption | omega | (simp only [obS] at *; omega) | (intros; first | rfl | assumption | omega | simp_all; done))) ?_))
  refine trg_nil ⟨rfl, ?_⟩
  refine wpS_cond rfl (by ((repeat' (first | exact aN | refine aC ?_ ?_ | intro _)) <;> first | assumption | omega | (simp only [obS] at *; omega) | (intros; first | rfl | assumption | omega | simp_all; done))) (fun h => ?_) (fun h => ?_)
  · have hA : applyB ⟨t, l⟩ ⟨0, key, tick, ver, hun, text, acc⟩ = (6, ⟨t, l⟩) := by unfold applyB; rw [if_pos h]
    rw [hA]
    (repeat (first | refine wpS_seq ?_ | refine wpS_reg ?_ | refine run_step rfl (by ((repeat' (first | exact aN | refine aC ?_ ?_ | intro _)) <;> first | assumption | omega | (simp only [obS] at *; omega) | (intros; first | rfl | assumption | omega | simp_all; done))) ?_ | refine run_nil ?_ | refine wpS_block ?_ | refine wpS_skip ?_ | refine wpS_exit ?_ | refine wpS_ret ?_))
    refine fin_mkR rfl ?_ ?_ <;> (repeat' (first | exact aN | refine aC ?_ ?_))
    all_goals first | rfl | exact ⟨rfl, rfl, .inl rfl, fun _ _ => rfl⟩
  have hh : ¬ hasB l ⟨0, key, tick, ver, hun, text, acc⟩ = true := by rw [show hasB l ⟨0, key, tick, ver, hun, text, acc⟩ = false from h]; simp
  clear h
  (repeat (first | refine wpS_seq ?_ | refine wpS_reg ?_ | refine run_step rfl (by ((repeat' (first | exact aN | refine aC ?_ ?_ | intro _)) <;> first | assumption | omega | (simp only [obS] at *; omega) | (intros; first | rfl | assumption | omega | simp_all; done))) ?_ | refine run_nil ?_ | refine wpS_block ?_ | refine wpS_skip ?_ | refine wpS_exit ?_ | refine wpS_ret ?_))
  refine wpS_D (by kernel_rfl) ?_; (repeat (refine trg_step rfl (by ((repeat' (first | exact aN | refine aC ?_ ?_ | intro _)) <;> first | assumption | omega | (simp only [obS] at *; omega) | (intros; first | rfl | assumption | omega | simp_all; done))) ?_)); refine trg_nil ⟨rfl, ?_⟩
  refine wpS_cond rfl (by ((repeat' (first | exact aN | refine aC ?_ ?_ | intro _)) <;> first | assumption | omega | (simp only [obS] at *; omega) | (intros; first | rfl | assumption | omega | simp_all; done))) (fun h => ?_) (fun h => ?_)
  · have ht : tick < t := by simpa using h
    have hA : applyB ⟨t, l⟩ ⟨0, key, tick, ver, hun, text, acc⟩ = (2, ⟨t, l⟩) := by unfold applyB; rw [if_neg hh, if_pos ht]
    rw [hA]
    (repeat (first | refine wpS_seq ?_ | refine wpS_reg ?_ | refine run_step rfl (by ((repeat' (first | exact aN | refine aC ?_ ?_ | intro _)) <;> first | assumption | omega | (simp only [obS] at *; omega) | (intros; first | rfl | assumption | omega | simp_all; done))) ?_ | refine run_nil ?_ | refine wpS_block ?_ | refine wpS_skip ?_ | refine wpS_exit ?_ | refine wpS_ret ?_))
    refine fin_mkR rfl ?_ ?_ <;> (repeat' (first | exact aN | refine aC ?_ ?_))
    all_goals first | rfl | exact ⟨rfl, rfl, .inl rfl, fun _ _ => rfl⟩
  have ht : ¬ tick < t := by simpa using h
  clear h
  (repeat (first | refine wpS_seq ?_ | refine wpS_reg ?_ | refine run_step rfl (by ((repeat' (first | exact aN | refine aC ?_ ?_ | intro _)) <;> first | assumption | omega | (simp only [obS] at *; omega) | (intros; first | rfl | assumption | omega | simp_all; done))) ?_ | refine run_nil ?_ | refine wpS_block ?_ | refine wpS_skip ?_ | refine wpS_exit ?_ | refine wpS_ret ?_))
  refine wpS_D (by kernel_rfl) ?_
  (repeat (refine trg_step rfl (by ((repeat' (first | exact aN | refine aC ?_ ?_ | intro _)) <;> first | assumption | omega | (simp only [obS] at *; omega) | (intros; first | rfl | assumption | omega | simp_all; done))) ?_))
  refine trg_c ((find_spec ⟨t, l⟩ key hb.l)) rfl (by ((repeat' (first | exact aN | refine aC ?_ ?_ | intro _)) <;> first | assumption | omega | (simp only [obS] at *; omega) | (intros; first | rfl | assumption | omega | simp_all; done))) rfl rfl (.inl rfl) ?_
  (repeat (refine trg_step rfl (by ((repeat' (first | exact aN | refine aC ?_ ?_ | intro _)) <;> first | assumption | omega | (simp only [obS] at *; omega) | (intros; first | rfl | assumption | omega | simp_all; done))) ?_))
  refine trg_nil ⟨rfl, ?_⟩
  have hA : applyB ⟨t, l⟩ ⟨0, key, tick, ver, hun, text, acc⟩ = if (submitE l ⟨0, key, tick, ver, hun, text, acc⟩).1 = 0 then (0, ⟨tick, (submitE l ⟨0, key, tick, ver, hun, text, acc⟩).2⟩) else ((submitE l ⟨0, key, tick, ver, hun, text, acc⟩).1, ⟨t, l⟩) := by
    unfold applyB submitE
    rw [if_neg hh, if_neg ht, if_pos rfl]
    dsimp only
    split
    · rfl
    · split
      · rfl
      · rfl
  have hfail : (submitE l ⟨0, key, tick, ver, hun, text, acc⟩).1 ≠ 0 → (submitE l ⟨0, key, tick, ver, hun, text, acc⟩).2 = l := by
    unfold submitE
    split
    · exact fun _ => rfl
    · split
      · exact fun _ => rfl
      · exact fun h => absurd rfl h
  rw [findI_eq]
  cases hf : findK (Bk.ens ⟨t, l⟩) key with
  | none =>
    dsimp only at hf ⊢
    (repeat (first | refine wpS_seq ?_ | refine wpS_reg ?_ | refine run_step rfl (by ((repeat' (first | exact aN | refine aC ?_ ?_ | intro _)) <;> first | assumption | omega | (simp only [obS] at *; omega) | (intros; first | rfl | assumption | omega | simp_all; done))) ?_ | refine run_nil ?_ | refine wpS_block ?_ | refine wpS_skip ?_ | refine wpS_exit ?_ | refine wpS_ret ?_))
    refine wpS_condF rfl (by ((repeat' (first | exact aN | refine aC ?_ ?_ | intro _)) <;> first | assumption | omega | (simp only [obS] at *; omega) | (intros; first | rfl | assumption | omega | simp_all; done))) ?_
    (repeat (first | refine wpS_seq ?_ | refine wpS_reg ?_ | refine run_step rfl (by ((repeat' (first | exact aN | refine aC ?_ ?_ | intro _)) <;> first | assumption | omega | (simp only [obS] at *; omega) | (intros; first | rfl | assumption | omega | simp_all; done))) ?_ | refine run_nil ?_ | refine wpS_block ?_ | refine wpS_skip ?_ | refine wpS_exit ?_ | refine wpS_ret ?_))
    refine wpS_condF rfl (by ((repeat' (first | exact aN | refine aC ?_ ?_ | intro _)) <;> first | assumption | omega | (simp only [obS] at *; omega) | (intros; first | rfl | assumption | omega | simp_all; done))) ?_
    (repeat (first | refine wpS_seq ?_ | refine wpS_reg ?_ | refine run_step rfl (by ((repeat' (first | exact aN | refine aC ?_ ?_ | intro _)) <;> first | assumption | omega | (simp only [obS] at *; omega) | (intros; first | rfl | assumption | omega | simp_all; done))) ?_ | refine run_nil ?_ | refine wpS_block ?_ | refine wpS_skip ?_ | refine wpS_exit ?_ | refine wpS_ret ?_))
    refine wpS_D (by kernel_rfl) ?_
    (repeat (refine trg_step rfl (by ((repeat' (first | exact aN | refine aC ?_ ?_ | intro _)) <;> first | assumption | omega | (simp only [obS] at *; omega) | (intros; first | rfl | assumption | omega | simp_all; done))) ?_))
    refine trg_cR (env := keepE _ [0, 3, 48, 49, 50]) id [PB, QN] (ent_keep [0, 3, 48, 49, 50] [PB, QN, 3]) (submit_spec l t ⟨0, key, tick, ver, hun, text, acc⟩ hb.1) rfl rfl ⟨rfl, rfl, trivial⟩ rfl ?_
    (repeat (refine trg_step rfl (by ((repeat' (first | exact aN | refine aC ?_ ?_ | intro _)) <;> first | assumption | omega | (simp only [obS] at *; omega) | (intros; first | rfl | assumption | omega | simp_all; done))) ?_))
    refine trg_nil ⟨rfl, ?_⟩
    rw [hA]
    generalize hR : submitE l ⟨0, key, tick, ver, hun, text, acc⟩ = R at hfail ⊢
    obtain ⟨code, l'⟩ := R
    dsimp only at hfail ⊢
    (repeat (first | refine wpS_seq ?_ | refine wpS_reg ?_ | refine run_step rfl (by ((repeat' (first | exact aN | refine aC ?_ ?_ | intro _)) <;> first | assumption | omega | (simp only [obS] at *; omega) | (intros; first | rfl | assumption | omega | simp_all; done))) ?_ | refine run_nil ?_ | refine wpS_block ?_ | refine wpS_skip ?_ | refine wpS_exit ?_ | refine wpS_ret ?_))
    refine wpS_cond rfl (by ((repeat' (first | exact aN | refine aC ?_ ?_ | intro _)) <;> first | assumption | omega | (simp only [obS] at *; omega) | (intros; first | rfl | assumption | omega | simp_all; done))) (fun h => ?_) (fun h => ?_)
    · have hc : code ≠ 0 := by simpa using h
      have hy' := hfail hc
      rw [if_neg hc]
      (repeat (first | refine wpS_seq ?_ | refine wpS_reg ?_ | refine run_step rfl (by ((repeat' (first | exact aN | refine aC ?_ ?_ | intro _)) <;> first | assumption | omega | (simp only [obS] at *; omega) | (intros; first | rfl | assumption | omega | simp_all; done))) ?_ | refine run_nil ?_ | refine wpS_block ?_ | refine wpS_skip ?_ | refine wpS_exit ?_ | refine wpS_ret ?_))
      refine fin_mkR rfl ?_ ?_ <;> (repeat' (first | exact aN | refine aC ?_ ?_))
      all_goals first | rfl | (refine ⟨by rw [hy'], rfl, .inl rfl, fun _ _ => ?_⟩; rw [hy'])
    · have hc : code = 0 := by simpa using h
      rw [if_pos hc]
      (repeat (first | refine wpS_seq ?_ | refine wpS_reg ?_ | refine run_step rfl (by ((repeat' (first | exact aN | refine aC ?_ ?_ | intro _)) <;> first | assumption | omega | (simp only [obS] at *; omega) | (intros; first | rfl | assumption | omega | simp_all; done))) ?_ | refine run_nil ?_ | refine wpS_block ?_ | refine wpS_skip ?_ | refine wpS_exit ?_ | refine wpS_ret ?_))
      refine fin_mkR rfl ?_ ?_ <;> (repeat' (first | exact aN | refine aC ?_ ?_))
      all_goals first | rfl | exact ⟨rfl, rfl, .inl rfl, fun _ _ => rfl⟩

  | some i =>
    dsimp only at hf ⊢
    obtain ⟨hi, hik, _⟩ := findK_some hf
    (repeat (first | refine wpS_seq ?_ | refine wpS_reg ?_ | refine run_step rfl (by ((repeat' (first | exact aN | refine aC ?_ ?_ | intro _)) <;> first | assumption | omega | (simp only [obS] at *; omega) | (intros; first | rfl | assumption | omega | simp_all; done))) ?_ | refine run_nil ?_ | refine wpS_block ?_ | refine wpS_skip ?_ | refine wpS_exit ?_ | refine wpS_ret ?_))
    refine wpS_cond rfl (by ((repeat' (first | exact aN | refine aC ?_ ?_ | intro _)) <;> first | assumption | omega | (simp only [obS] at *; omega) | (intros; first | rfl | assumption | omega | simp_all; done))) (fun h => ?_) (fun h => ?_)
    · clear h
      (repeat (first | refine wpS_seq ?_ | refine wpS_reg ?_ | refine run_step rfl (by ((repeat' (first | exact aN | refine aC ?_ ?_ | intro _)) <;> first | assumption | omega | (simp only [obS] at *; omega) | (intros; first | rfl | assumption | omega | simp_all; done))) ?_ | refine run_nil ?_ | refine wpS_block ?_ | refine wpS_skip ?_ | refine wpS_exit ?_ | refine wpS_ret ?_))
      refine wpS_D (by kernel_rfl) ?_
      (repeat (refine trg_step rfl (by ((repeat' (first | exact aN | refine aC ?_ ?_ | intro _)) <;> first | assumption | omega | (simp only [obS] at *; omega) | (intros; first | rfl | assumption | omega | simp_all; done))) ?_))
      refine trg_cR (env := keepE _ [0, 3, 48, 49, 50]) id [PB, QN] (ent_keep [0, 3, 48, 49, 50] [PB, QN, 3]) (submit_spec l t ⟨0, key, tick, ver, hun, text, acc⟩ hb.1) rfl rfl ⟨rfl, rfl, trivial⟩ rfl ?_
      (repeat (refine trg_step rfl (by ((repeat' (first | exact aN | refine aC ?_ ?_ | intro _)) <;> first | assumption | omega | (simp only [obS] at *; omega) | (intros; first | rfl | assumption | omega | simp_all; done))) ?_))
      refine trg_nil ⟨rfl, ?_⟩
      rw [hA]
      generalize hR : submitE l ⟨0, key, tick, ver, hun, text, acc⟩ = R at hfail ⊢
      obtain ⟨code, l'⟩ := R
      dsimp only at hfail ⊢
      (repeat (first | refine wpS_seq ?_ | refine wpS_reg ?_ | refine run_step rfl (by ((repeat' (first | exact aN | refine aC ?_ ?_ | intro _)) <;> first | assumption | omega | (simp only [obS] at *; omega) | (intros; first | rfl | assumption | omega | simp_all; done))) ?_ | refine run_nil ?_ | refine wpS_block ?_ | refine wpS_skip ?_ | refine wpS_exit ?_ | refine wpS_ret ?_))
      refine wpS_cond rfl (by ((repeat' (first | exact aN | refine aC ?_ ?_ | intro _)) <;> first | assumption | omega | (simp only [obS] at *; omega) | (intros; first | rfl | assumption | omega | simp_all; done))) (fun h => ?_) (fun h => ?_)
      · have hc : code ≠ 0 := by simpa using h
        have hy' := hfail hc
        rw [if_neg hc]
        (repeat (first | refine wpS_seq ?_ | refine wpS_reg ?_ | refine run_step rfl (by ((repeat' (first | exact aN | refine aC ?_ ?_ | intro _)) <;> first | assumption | omega | (simp only [obS] at *; omega) | (intros; first | rfl | assumption | omega | simp_all; done))) ?_ | refine run_nil ?_ | refine wpS_block ?_ | refine wpS_skip ?_ | refine wpS_exit ?_ | refine wpS_ret ?_))
        refine fin_mkR rfl ?_ ?_ <;> (repeat' (first | exact aN | refine aC ?_ ?_))
        all_goals first | rfl | (refine ⟨by rw [hy'], rfl, .inl rfl, fun _ _ => ?_⟩; rw [hy'])
      · have hc : code = 0 := by simpa using h
        rw [if_pos hc]
        (repeat (first | refine wpS_seq ?_ | refine wpS_reg ?_ | refine run_step rfl (by ((repeat' (first | exact aN | refine aC ?_ ?_ | intro _)) <;> first | assumption | omega | (simp only [obS] at *; omega) | (intros; first | rfl | assumption | omega | simp_all; done))) ?_ | refine run_nil ?_ | refine wpS_block ?_ | refine wpS_skip ?_ | refine wpS_exit ?_ | refine wpS_ret ?_))
        refine fin_mkR rfl ?_ ?_ <;> (repeat' (first | exact aN | refine aC ?_ ?_))
        all_goals first | rfl | exact ⟨rfl, rfl, .inl rfl, fun _ _ => rfl⟩
    · simp at h
end Go.Proofs
end
/- part BkValid -/
section
namespace Go.Proofs
open Go.Av Go.Pu
theorem apply_spec (t : Int) (l : List En) (e : Ev) (hk : 0 ≤ e.kind ∧ e.kind ≤ 3) (hs : SmV l) :
    SpecR Tryz.prog 45 [.loc PB 0, .agg (evA e)] [(PB, .blk 76 [.int .i64 t, .ref QN]), (QN, enR l)] (.int .i64 (applyB ⟨t, l⟩ e).1) [(PB, .blk 76 [.int .i64 (applyB ⟨t, l⟩ e).2.tick, .ref QN]), (QN, enR (applyB ⟨t, l⟩ e).2.ens)] := by
  have : e.kind = 0 ∨ e.kind = 1 ∨ e.kind = 2 ∨ e.kind = 3 := by omega
  rcases this with h | h | h | h
  · exact apply_submit t l e h hs
  · exact apply_grade t l e h hs
  · exact apply_appeal t l e h hs
  · exact apply_decide t l e h hs
def ρv (q : Nat) : Nat := bif Nat.beq q PB then 11 else q
theorem replay_none {l : List Ev} {b c : Bk} {k : Nat} (hk : k < l.length) (h : replay (l.take k) b = some c) (hs : stepB c (l.getD k default) = none) : replay l b = none := by
  have h1 := List.take_append_drop k l
  rw [List.drop_eq_getElem_cons hk] at h1
  rw [← h1, replay_append, h, Option.bind_some, replay_cons, show l[k] = l.getD k default by simp [List.getD_eq_getElem?_getD, hk], hs]
  rfl
theorem replay_some {l : List Ev} {b c d : Bk} {k : Nat} (hk : k < l.length) (h : replay (l.take k) b = some c) (hs : stepB c (l.getD k default) = some d) : replay (l.take (k + 1)) b = some d := by
  rw [List.take_succ_eq_append_getElem hk, replay_append, h, Option.bind_some, replay_cons, show l[k] = l.getD k default by simp [List.getD_eq_getElem?_getD, hk], hs]
  rfl
theorem bk_eta (b : Bk) : (⟨b.tick, b.ens⟩ : Bk) = b := rfl
set_option maxHeartbeats 1000000 in
theorem valid_spec (b : Bk) (hs : SmV b.ens) (hn : ∀ e ∈ evsBk b.ens, e.key.stu.length ≤ maxL ∧ e.key.ex.length ≤ maxL) : Spec0 Tryz.prog 32 [bkA b] (.bool (validB b)) := by
  have hb := hs.b
  have hbl := hb.1
  have hel : (evsBk b.ens).length ≤ 1000000 := by unfold evsBk; rw [length_sortS]; exact hs
  obtain ⟨l, hl⟩ : ∃ l, l = evsBk b.ens := ⟨_, rfl⟩
  rw [← hl] at hel hn
  refine spec0 ok32 rfl fun C _ => ?_
  (repeat (first | refine wpS_seq ?_ | refine wpS_reg ?_ | refine run_step rfl (by ((repeat' (first | exact aN | refine aC ?_ ?_ | intro _)) <;> first | assumption | omega | (simp only [obS] at *; omega) | (intros; first | rfl | assumption | omega | simp_all; done))) ?_ | refine run_nil ?_ | refine wpS_block ?_ | refine wpS_skip ?_ | refine wpS_exit ?_ | refine wpS_ret ?_))
  refine wpS_cond rfl (by ((repeat' (first | exact aN | refine aC ?_ ?_ | intro _)) <;> first | assumption | omega | (simp only [obS] at *; omega) | (intros; first | rfl | assumption | omega | simp_all; done))) (fun h => ?_) (fun h => ?_)
  · have h9 : ¬ b.ens.length ≤ 256 := by simp at h; omega
    (repeat (first | refine wpS_seq ?_ | refine wpS_reg ?_ | refine run_step rfl (by ((repeat' (first | exact aN | refine aC ?_ ?_ | intro _)) <;> first | assumption | omega | (simp only [obS] at *; omega) | (intros; first | rfl | assumption | omega | simp_all; done))) ?_ | refine run_nil ?_ | refine wpS_block ?_ | refine wpS_skip ?_ | refine wpS_exit ?_ | refine wpS_ret ?_))
    refine fin_mk rfl ?_; (repeat' (first | exact aN | refine aC ?_ ?_))
    unfold validB
    simp [h9]
  have h9 : b.ens.length ≤ 256 := by simp at h; omega
  clear h
  (repeat (first | refine wpS_seq ?_ | refine wpS_reg ?_ | refine run_step rfl (by ((repeat' (first | exact aN | refine aC ?_ ?_ | intro _)) <;> first | assumption | omega | (simp only [obS] at *; omega) | (intros; first | rfl | assumption | omega | simp_all; done))) ?_ | refine run_nil ?_ | refine wpS_block ?_ | refine wpS_skip ?_ | refine wpS_exit ?_ | refine wpS_ret ?_))
  refine run_c ((events_spec b hs)) rfl (by ((repeat' (first | exact aN | refine aC ?_ ?_ | intro _)) <;> first | assumption | omega | (simp only [obS] at *; omega) | (intros; first | rfl | assumption | omega | simp_all; done))) rfl rfl (.inr rfl) ?_
  rw [← hl]
  (repeat (first | refine wpS_seq ?_ | refine wpS_reg ?_ | refine run_step rfl (by ((repeat' (first | exact aN | refine aC ?_ ?_ | intro _)) <;> first | assumption | omega | (simp only [obS] at *; omega) | (intros; first | rfl | assumption | omega | simp_all; done))) ?_ | refine run_nil ?_ | refine wpS_block ?_ | refine wpS_skip ?_ | refine wpS_exit ?_))
  refine wpS_ent (ent_nameB 11 1 QN 39 7 (enF []) rfl rfl rfl) ?_
  refine wpS_ent (ent_rowO QN rfl) ?_
  refine wpS_loop (fun p : Nat × Bk => p.1 ≤ l.length ∧ replay (l.take p.1) empty = some p.2) (fun p => ⟨[(1, .loc 1 0), (3, .loc 11 0), (13, evsA l), (14, .int .i64 (l.length : Nat)), (15, .int .i64 (p.1 : Nat))], [(1, .blk 31 [.int .i64 b.tick, lsA 7 enA b.ens]), (11, .blk 76 [.int .i64 p.2.tick, .ref QN]), (QN, enR p.2.ens)]⟩) (fun p => l.length - p.1) (0, empty) ⟨by omega, rfl⟩
    (by refine ent_le ?_; (repeat' (first | exact aN | refine aC ?_ ?_)) <;> first | rfl | exact ⟨rfl, rfl, .inl rfl, fun _ _ => rfl⟩ | exact ⟨rfl, fun _ _ => rfl⟩) ?_
  rintro ⟨k, c⟩ ⟨hk, hr⟩
  dsimp only at hk hr ⊢
  have hcl := replay_len hr
  rw [List.length_take, Nat.min_eq_left hk, show (evsRaw empty.ens).length = 0 from rfl, Nat.zero_add] at hcl
  have hcs : SmV c.ens := by unfold SmV; omega
  (repeat (first | refine wpS_seq ?_ | refine wpS_reg ?_ | refine run_step rfl (by ((repeat' (first | exact aN | refine aC ?_ ?_ | intro _)) <;> first | assumption | omega | (simp only [obS] at *; omega) | (intros; first | rfl | assumption | omega | simp_all; done))) ?_ | refine run_nil ?_ | refine wpS_block ?_ | refine wpS_skip ?_ | refine wpS_exit ?_ | refine wpS_ret ?_))
  refine wpS_cond rfl (by ((repeat' (first | exact aN | refine aC ?_ ?_ | intro _)) <;> first | assumption | omega | (simp only [obS] at *; omega) | (intros; first | rfl | assumption | omega | simp_all; done))) (fun h => ?_) (fun h => ?_)
  · have hlt : k < l.length := by simpa using h
    clear h
    have hm := hn _ (getD_mem hlt)
    obtain ⟨e, he⟩ : ∃ e, e = l.getD k default := ⟨_, rfl⟩
    rw [← he] at hm
    (repeat (first | refine wpS_seq ?_ | refine wpS_reg ?_ | refine run_step rfl (by ((repeat' (first | exact aN | refine aC ?_ ?_ | intro _)) <;> first | assumption | omega | (simp only [obS] at *; omega) | (intros; first | rfl | assumption | omega | simp_all; done))) ?_ | refine run_nil ?_ | refine wpS_block ?_ | refine wpS_skip ?_ | refine wpS_exit ?_ | refine wpS_ret ?_))
    rw [show ((k : Int)).toNat = k from Int.toNat_natCast k, ← he]
    (repeat (first | refine wpS_seq ?_ | refine wpS_reg ?_ | refine run_step rfl (by ((repeat' (first | exact aN | refine aC ?_ ?_ | intro _)) <;> first | assumption | omega | (simp only [obS] at *; omega) | (intros; first | rfl | assumption | omega | simp_all; done))) ?_ | refine run_nil ?_ | refine wpS_block ?_ | refine wpS_skip ?_ | refine wpS_exit ?_ | refine wpS_ret ?_))
    refine run_c ((validEvent_spec e hm.1 hm.2)) rfl (by ((repeat' (first | exact aN | refine aC ?_ ?_ | intro _)) <;> first | assumption | omega | (simp only [obS] at *; omega) | (intros; first | rfl | assumption | omega | simp_all; done))) rfl rfl (.inl rfl) ?_
    cases hv : validEv e with
    | false =>
      have hst : stepB c e = none := by unfold stepB; rw [hv]; rfl
      (repeat (first | refine wpS_seq ?_ | refine wpS_reg ?_ | refine run_step rfl (by ((repeat' (first | exact aN | refine aC ?_ ?_ | intro _)) <;> first | assumption | omega | (simp only [obS] at *; omega) | (intros; first | rfl | assumption | omega | simp_all; done))) ?_ | refine run_nil ?_ | refine wpS_block ?_ | refine wpS_skip ?_ | refine wpS_exit ?_))
      refine run_skipC (.int .i64 0) rfl ?_
      (repeat (first | refine wpS_seq ?_ | refine wpS_reg ?_ | refine run_step rfl (by ((repeat' (first | exact aN | refine aC ?_ ?_ | intro _)) <;> first | assumption | omega | (simp only [obS] at *; omega) | (intros; first | rfl | assumption | omega | simp_all; done))) ?_ | refine run_nil ?_ | refine wpS_block ?_ | refine wpS_skip ?_ | refine wpS_exit ?_ | refine wpS_ret ?_))
      refine wpS_condT rfl (by ((repeat' (first | exact aN | refine aC ?_ ?_ | intro _)) <;> first | assumption | omega | (simp only [obS] at *; omega) | (intros; first | rfl | assumption | omega | simp_all; done))) ?_
      (repeat (first | refine wpS_seq ?_ | refine wpS_reg ?_ | refine run_step rfl (by ((repeat' (first | exact aN | refine aC ?_ ?_ | intro _)) <;> first | assumption | omega | (simp only [obS] at *; omega) | (intros; first | rfl | assumption | omega | simp_all; done))) ?_ | refine run_nil ?_ | refine wpS_block ?_ | refine wpS_skip ?_ | refine wpS_exit ?_ | refine wpS_ret ?_))
      refine fin_mk rfl ?_; (repeat' (first | exact aN | refine aC ?_ ?_))
      unfold validB
      rw [← hl, replay_none hlt hr (by rw [← he]; exact hst)]
      simp
    | true =>
      (repeat (first | refine wpS_seq ?_ | refine wpS_reg ?_ | refine run_step rfl (by ((repeat' (first | exact aN | refine aC ?_ ?_ | intro _)) <;> first | assumption | omega | (simp only [obS] at *; omega) | (intros; first | rfl | assumption | omega | simp_all; done))) ?_ | refine run_nil ?_ | refine wpS_block ?_ | refine wpS_skip ?_ | refine wpS_exit ?_))
      refine run_ent (ent_und 23 rfl) ?_
      refine run_ent (ent_und 24 rfl) ?_
      refine run_cRg ρv [PB, QN] rfl (apply_spec c.tick c.ens e (validEv_kind hv) hcs) rfl rfl ⟨rfl, rfl, trivial⟩ rfl ?_
      rw [bk_eta]
      (repeat (first | refine wpS_seq ?_ | refine wpS_reg ?_ | refine run_step rfl (by ((repeat' (first | exact aN | refine aC ?_ ?_ | intro _)) <;> first | assumption | omega | (simp only [obS] at *; omega) | (intros; first | rfl | assumption | omega | simp_all; done))) ?_ | refine run_nil ?_ | refine wpS_block ?_ | refine wpS_skip ?_ | refine wpS_exit ?_))
      refine wpS_cond rfl (by ((repeat' (first | exact aN | refine aC ?_ ?_ | intro _)) <;> first | assumption | omega | (simp only [obS] at *; omega) | (intros; first | rfl | assumption | omega | simp_all; done))) (fun h => ?_) (fun h => ?_)
      · have hst : stepB c e = none := by
          unfold stepB; rw [hv]
          have : (applyB c e).1 ≠ 0 := by simpa using h
          simp [this]
        (repeat (first | refine wpS_seq ?_ | refine wpS_reg ?_ | refine run_step rfl (by ((repeat' (first | exact aN | refine aC ?_ ?_ | intro _)) <;> first | assumption | omega | (simp only [obS] at *; omega) | (intros; first | rfl | assumption | omega | simp_all; done))) ?_ | refine run_nil ?_ | refine wpS_block ?_ | refine wpS_skip ?_ | refine wpS_exit ?_ | refine wpS_ret ?_))
        refine fin_mk rfl ?_; (repeat' (first | exact aN | refine aC ?_ ?_))
        unfold validB
        rw [← hl, replay_none hlt hr (by rw [← he]; exact hst)]
        simp
      · have hst : stepB c e = some (applyB c e).2 := by
          unfold stepB; rw [hv]
          have : (applyB c e).1 = 0 := by simpa using h
          simp [this]
        (repeat (first | refine wpS_seq ?_ | refine wpS_reg ?_ | refine run_step rfl (by ((repeat' (first | exact aN | refine aC ?_ ?_ | intro _)) <;> first | assumption | omega | (simp only [obS] at *; omega) | (intros; first | rfl | assumption | omega | simp_all; done))) ?_ | refine run_nil ?_ | refine wpS_block ?_ | refine wpS_skip ?_ | refine wpS_exit ?_ | refine wpS_ret ?_))
        refine ⟨(k + 1, (applyB c e).2), ⟨by dsimp only; omega, replay_some hlt hr (by rw [← he]; exact hst)⟩, by dsimp only; omega, ?_⟩
        (refine ent_le ?_; (repeat' (first | exact aN | refine aC ?_ ?_)) <;> first | rfl | exact ⟨rfl, rfl, .inl rfl, fun _ _ => rfl⟩ | exact ⟨rfl, fun _ _ => rfl⟩)
  · have hlt : k = l.length := by simp at h; omega
    subst hlt
    clear h
    rw [List.take_length] at hr
    (repeat (first | refine wpS_seq ?_ | refine wpS_reg ?_ | refine run_step rfl (by ((repeat' (first | exact aN | refine aC ?_ ?_ | intro _)) <;> first | assumption | omega | (simp only [obS] at *; omega) | (intros; first | rfl | assumption | omega | simp_all; done))) ?_ | refine run_nil ?_ | refine wpS_block ?_ | refine wpS_skip ?_ | refine wpS_exit ?_ | refine wpS_ret ?_))
    refine wpS_D (by kernel_rfl) ?_
    (repeat (refine trg_step rfl (by ((repeat' (first | exact aN | refine aC ?_ ?_ | intro _)) <;> first | assumption | omega | (simp only [obS] at *; omega) | (intros; first | rfl | assumption | omega | simp_all; done))) ?_))
    refine trg_c ((same_spec c b hcs.b)) rfl (by ((repeat' (first | exact aN | refine aC ?_ ?_ | intro _)) <;> first | assumption | omega | (simp only [obS] at *; omega) | (intros; first | rfl | assumption | omega | simp_all; done))) rfl rfl (.inl rfl) ?_
    (repeat (refine trg_step rfl (by ((repeat' (first | exact aN | refine aC ?_ ?_ | intro _)) <;> first | assumption | omega | (simp only [obS] at *; omega) | (intros; first | rfl | assumption | omega | simp_all; done))) ?_))
    refine trg_nil ⟨rfl, ?_⟩
    (repeat (first | refine wpS_seq ?_ | refine wpS_reg ?_ | refine run_step rfl (by ((repeat' (first | exact aN | refine aC ?_ ?_ | intro _)) <;> first | assumption | omega | (simp only [obS] at *; omega) | (intros; first | rfl | assumption | omega | simp_all; done))) ?_ | refine run_nil ?_ | refine wpS_block ?_ | refine wpS_skip ?_ | refine wpS_exit ?_ | refine wpS_ret ?_))
    refine fin_mk rfl ?_; (repeat' (first | exact aN | refine aC ?_ ?_))
    unfold validB
    rw [← hl, hr]
    simp [h9]
end Go.Proofs
end
/- part BkApplyX -/
section
namespace Go.Proofs
open Go.Av Go.Pu
def Sm (b : Bk) : Prop := SmV b.ens ∧ ∀ e ∈ evsBk b.ens, e.key.stu.length ≤ maxL ∧ e.key.ex.length ≤ maxL
def SmK (e : Ev) : Prop := e.key.stu.length ≤ maxL ∧ e.key.ex.length ≤ maxL
def ρc (q : Nat) : Nat := bif Nat.beq q 8 then QN else q
def ρa (q : Nat) : Nat := bif Nat.beq q PB then 20 else q
theorem applyX_spec (b : Bk) (e : Ev) (hs : Sm b) (he : SmK e) : Spec0 Tryz.prog 14 [bkA b, .agg (evA e)] (.tup [bkA (applyX b e).2, .int .i64 (applyX b e).1]) := by
  have hb := hs.1.b
  have hbl := hb.1
  refine spec0 ok14 rfl fun C _ => ?_
  (repeat (first | refine wpS_seq ?_ | refine wpS_reg ?_ | refine run_step rfl (by ((repeat' (first | exact aN | refine aC ?_ ?_ | intro _)) <;> first | assumption | omega | (simp only [obS] at *; omega) | (intros; first | rfl | assumption | omega | simp_all; done))) ?_ | refine run_nil ?_ | refine wpS_block ?_ | refine wpS_skip ?_ | refine wpS_exit ?_ | refine wpS_ret ?_))
  refine run_c ((valid_spec b hs.1 hs.2)) rfl (by ((repeat' (first | exact aN | refine aC ?_ ?_ | intro _)) <;> first | assumption | omega | (simp only [obS] at *; omega) | (intros; first | rfl | assumption | omega | simp_all; done))) rfl rfl (.inl rfl) ?_
  (repeat (first | refine wpS_seq ?_ | refine wpS_reg ?_ | refine run_step rfl (by ((repeat' (first | exact aN | refine aC ?_ ?_ | intro _)) <;> first | assumption | omega | (simp only [obS] at *; omega) | (intros; first | rfl | assumption | omega | simp_all; done))) ?_ | refine run_nil ?_ | refine wpS_block ?_ | refine wpS_skip ?_ | refine wpS_exit ?_ | refine wpS_ret ?_))
  refine run_cg rfl (fun hG => ((validEvent_spec e he.1 he.2))) rfl (fun hG => by ((repeat' (first | exact aN | refine aC ?_ ?_ | intro _)) <;> first | assumption | omega | (simp only [obS] at *; omega) | (intros; first | rfl | assumption | omega | simp_all; done))) rfl rfl (.inl rfl) ?_
  (repeat (first | refine wpS_seq ?_ | refine wpS_reg ?_ | refine run_step rfl (by ((repeat' (first | exact aN | refine aC ?_ ?_ | intro _)) <;> first | assumption | omega | (simp only [obS] at *; omega) | (intros; first | rfl | assumption | omega | simp_all; done))) ?_ | refine run_nil ?_ | refine wpS_block ?_ | refine wpS_skip ?_ | refine wpS_exit ?_))
  refine wpS_cond rfl (by ((repeat' (first | exact aN | refine aC ?_ ?_ | intro _)) <;> first | assumption | omega | (simp only [obS] at *; omega) | (intros; first | rfl | assumption | omega | simp_all; done))) (fun h => ?_) (fun h => ?_)
  · have hA : applyX b e = (1, empty) := by
      unfold applyX
      rw [if_neg]
      simp at h
      cases h1 : validB b <;> cases h2 : validEv e <;> simp_all
    rw [hA]
    (repeat (first | refine wpS_seq ?_ | refine wpS_reg ?_ | refine run_step rfl (by ((repeat' (first | exact aN | refine aC ?_ ?_ | intro _)) <;> first | assumption | omega | (simp only [obS] at *; omega) | (intros; first | rfl | assumption | omega | simp_all; done))) ?_ | refine run_nil ?_ | refine wpS_block ?_ | refine wpS_skip ?_ | refine wpS_exit ?_ | refine wpS_ret ?_))
    refine fin_mk rfl ?_; (repeat' (first | exact aN | refine aC ?_ ?_))
    all_goals first | rfl | exact ⟨rfl, fun _ hi => absurd hi (Nat.not_lt_zero _)⟩
  have hve : validB b = true ∧ validEv e = true := by
    simp at h
    cases h1 : validB b <;> cases h2 : validEv e <;> simp_all
  have hA : applyX b e = (if (applyB b e).1 = 0 then applyB b e else ((applyB b e).1, empty)) := by
    unfold applyX
    rw [hve.1, hve.2]
    rfl
  clear h
  (repeat (first | refine wpS_seq ?_ | refine wpS_reg ?_ | refine run_step rfl (by ((repeat' (first | exact aN | refine aC ?_ ?_ | intro _)) <;> first | assumption | omega | (simp only [obS] at *; omega) | (intros; first | rfl | assumption | omega | simp_all; done))) ?_ | refine run_nil ?_ | refine wpS_block ?_ | refine wpS_skip ?_ | refine wpS_exit ?_ | refine wpS_ret ?_))
  refine run_cR ρc [8] (clone_spec b hb) rfl rfl trivial rfl ?_
  (repeat (first | refine wpS_seq ?_ | refine wpS_reg ?_ | refine run_step rfl (by ((repeat' (first | exact aN | refine aC ?_ ?_ | intro _)) <;> first | assumption | omega | (simp only [obS] at *; omega) | (intros; first | rfl | assumption | omega | simp_all; done))) ?_ | refine run_nil ?_ | refine wpS_block ?_ | refine wpS_skip ?_ | refine wpS_exit ?_ | refine wpS_ret ?_))
  refine run_ent (ent_keep [4, 5, 6, 21, 22] [20, QN, 4]) ?_
  refine run_cR ρa [PB, QN] (apply_spec b.tick b.ens e (validEv_kind hve.2) hs.1) rfl rfl ⟨rfl, rfl, trivial⟩ rfl ?_
  rw [bk_eta, hA]
  generalize applyB b e = R
  obtain ⟨code, c⟩ := R
  (repeat (first | refine wpS_seq ?_ | refine wpS_reg ?_ | refine run_step rfl (by ((repeat' (first | exact aN | refine aC ?_ ?_ | intro _)) <;> first | assumption | omega | (simp only [obS] at *; omega) | (intros; first | rfl | assumption | omega | simp_all; done))) ?_ | refine run_nil ?_ | refine wpS_block ?_ | refine wpS_skip ?_ | refine wpS_exit ?_ | refine wpS_ret ?_))
  refine wpS_cond rfl (by ((repeat' (first | exact aN | refine aC ?_ ?_ | intro _)) <;> first | assumption | omega | (simp only [obS] at *; omega) | (intros; first | rfl | assumption | omega | simp_all; done))) (fun h => ?_) (fun h => ?_)
  · have hc : code ≠ 0 := by simpa using h
    rw [if_neg hc]
    (repeat (first | refine wpS_seq ?_ | refine wpS_reg ?_ | refine run_step rfl (by ((repeat' (first | exact aN | refine aC ?_ ?_ | intro _)) <;> first | assumption | omega | (simp only [obS] at *; omega) | (intros; first | rfl | assumption | omega | simp_all; done))) ?_ | refine run_nil ?_ | refine wpS_block ?_ | refine wpS_skip ?_ | refine wpS_exit ?_ | refine wpS_ret ?_))
    refine fin_mk rfl ?_; (repeat' (first | exact aN | refine aC ?_ ?_))
    all_goals first | rfl | exact ⟨rfl, fun _ hi => absurd hi (Nat.not_lt_zero _)⟩
  · have hc : code = 0 := by simpa using h
    rw [if_pos hc, hc]
    (repeat (first | refine wpS_seq ?_ | refine wpS_reg ?_ | refine run_step rfl (by ((repeat' (first | exact aN | refine aC ?_ ?_ | intro _)) <;> first | assumption | omega | (simp only [obS] at *; omega) | (intros; first | rfl | assumption | omega | simp_all; done))) ?_ | refine run_nil ?_ | refine wpS_block ?_ | refine wpS_skip ?_ | refine wpS_exit ?_))
    refine wpS_ent (ent_keep [4, 5] [4, QN]) ?_
    refine wpS_ent (ent_fzO QN) ?_
    (repeat (first | refine wpS_seq ?_ | refine wpS_reg ?_ | refine run_step rfl (by ((repeat' (first | exact aN | refine aC ?_ ?_ | intro _)) <;> first | assumption | omega | (simp only [obS] at *; omega) | (intros; first | rfl | assumption | omega | simp_all; done))) ?_ | refine run_nil ?_ | refine wpS_block ?_ | refine wpS_skip ?_ | refine wpS_exit ?_ | refine wpS_ret ?_))
    refine fin_mk rfl ?_; (repeat' (first | exact aN | refine aC ?_ ?_))
    all_goals first | rfl | exact ⟨rfl, fun _ _ => rfl⟩
end Go.Proofs
end
/- part BkFew -/
section
namespace Go.Proofs
open Go.Av Go.Pu
def fewE (e : Ev) : Bool := decide (e.text.length ≤ 60) && (decide (e.key.stu.length ≤ 40) && decide (e.key.ex.length ≤ 40))
def fewB (l : List Ev) (most : Int) : Bool := l.all fewE && decide ((l.length : Int) ≤ most)
theorem few_spec (l : List Ev) (most : Int) (hl : l.length ≤ 9223372036854775807) : Spec0 Tryz.prog 12 [evsA l, .int .i64 most] (.bool (fewB l most)) := by
  refine spec0 ok12 rfl fun C _ => ?_
  (repeat (first | refine wpS_seq ?_ | refine wpS_reg ?_ | refine run_step rfl (by ((repeat' (first | exact aN | refine aC ?_ ?_ | intro _)) <;> first | assumption | omega | (simp only [obS] at *; omega) | (intros; first | rfl | assumption | omega | simp_all; done))) ?_ | refine run_nil ?_ | refine wpS_block ?_ | refine wpS_skip ?_ | refine wpS_exit ?_ | refine wpS_ret ?_))
  refine wpS_loop (fun k => k ≤ l.length ∧ (l.take k).all fewE = true) (fun k => ⟨[(0, evsA l), (1, .int .i64 most), (5, .int .i64 (k : Nat))], []⟩) (fun k => l.length - k) 0 ⟨by omega, by simp⟩ (by refine ent_le ?_; (repeat' (first | exact aN | refine aC ?_ ?_)) <;> simp) ?_
  rintro k ⟨hk, hall⟩
  (repeat (first | refine wpS_seq ?_ | refine wpS_reg ?_ | refine run_step rfl (by ((repeat' (first | exact aN | refine aC ?_ ?_ | intro _)) <;> first | assumption | omega | (simp only [obS] at *; omega) | (intros; first | rfl | assumption | omega | simp_all; done))) ?_ | refine run_nil ?_ | refine wpS_block ?_ | refine wpS_skip ?_ | refine wpS_exit ?_ | refine wpS_ret ?_))
  refine wpS_cond rfl (by ((repeat' (first | exact aN | refine aC ?_ ?_ | intro _)) <;> first | assumption | omega | (simp only [obS] at *; omega) | (intros; first | rfl | assumption | omega | simp_all; done))) (fun h => ?_) (fun h => ?_)
  · have hlt : k < l.length := by simpa using h
    (repeat (first | refine wpS_seq ?_ | refine wpS_reg ?_ | refine run_step rfl (by ((repeat' (first | exact aN | refine aC ?_ ?_ | intro _)) <;> first | assumption | omega | (simp only [obS] at *; omega) | (intros; first | rfl | assumption | omega | simp_all; done))) ?_ | refine run_nil ?_ | refine wpS_block ?_ | refine wpS_skip ?_ | refine wpS_exit ?_ | refine wpS_ret ?_))
    refine wpS_cond rfl (by ((repeat' (first | exact aN | refine aC ?_ ?_ | intro _)) <;> first | assumption | omega | (simp only [obS] at *; omega) | (intros; first | rfl | assumption | omega | simp_all; done))) (fun h => ?_) (fun h => ?_)
    · (repeat (first | refine wpS_seq ?_ | refine wpS_reg ?_ | refine run_step rfl (by ((repeat' (first | exact aN | refine aC ?_ ?_ | intro _)) <;> first | assumption | omega | (simp only [obS] at *; omega) | (intros; first | rfl | assumption | omega | simp_all; done))) ?_ | refine run_nil ?_ | refine wpS_block ?_ | refine wpS_skip ?_ | refine wpS_exit ?_ | refine wpS_ret ?_))
      refine fin_mk rfl ?_; (repeat' (first | exact aN | refine aC ?_ ?_))
      simp only [Int.toNat_natCast, getD_lt hlt] at h
      have hf : fewE l[k] = false := by
        cases hh : fewE l[k] with
        | false => rfl
        | true =>
          simp only [fewE, Bool.and_eq_true, decide_eq_true_eq] at hh
          simp only [show ¬ (60 < (l[k].text.length : Int)) by omega, show ¬ (40 < (l[k].key.stu.length : Int)) by omega, show ¬ (40 < (l[k].key.ex.length : Int)) by omega, decide_false, cond_false] at h
          cases h
      have ha : l.all fewE = false := by
        rw [List.all_eq_false]
        exact ⟨l[k], List.getElem_mem hlt, by simp [hf]⟩
      simp [fewB, ha]
    · (repeat (first | refine wpS_seq ?_ | refine wpS_reg ?_ | refine run_step rfl (by ((repeat' (first | exact aN | refine aC ?_ ?_ | intro _)) <;> first | assumption | omega | (simp only [obS] at *; omega) | (intros; first | rfl | assumption | omega | simp_all; done))) ?_ | refine run_nil ?_ | refine wpS_block ?_ | refine wpS_skip ?_ | refine wpS_exit ?_ | refine wpS_ret ?_))
      refine ⟨k + 1, ⟨by omega, ?_⟩, by dsimp only; omega, ?_⟩
      · rw [all_take_succ hlt, hall]
        simp only [Int.toNat_natCast, getD_lt hlt] at h
        simp only [fewE, Bool.true_and, Bool.and_eq_true, decide_eq_true_eq]
        by_cases h1 : 60 < (l[k].text.length : Int)
        · simp [h1] at h
        · by_cases h2 : 40 < (l[k].key.stu.length : Int)
          · simp [h1, h2] at h
          · simp [h1, h2] at h
            omega
      · refine ent_le ?_; (repeat' (first | exact aN | refine aC ?_ ?_)) <;> simp
  · have hlt : k = l.length := by simp at h; omega
    (repeat (first | refine wpS_seq ?_ | refine wpS_reg ?_ | refine run_step rfl (by ((repeat' (first | exact aN | refine aC ?_ ?_ | intro _)) <;> first | assumption | omega | (simp only [obS] at *; omega) | (intros; first | rfl | assumption | omega | simp_all; done))) ?_ | refine run_nil ?_ | refine wpS_block ?_ | refine wpS_skip ?_ | refine wpS_exit ?_ | refine wpS_ret ?_))
    refine fin_mk rfl ?_; (repeat' (first | exact aN | refine aC ?_ ?_))
    subst hlt
    simp at hall
    simp [fewB]
    exact fun _ => hall
end Go.Proofs
end
/- part BkMake -/
section
namespace Go.Proofs
open Go.Av Go.Pu
theorem validEv_smK {e : Ev} (h : validEv e = true) : SmK e := by
  have hk := validEv_key h
  have hn : ∀ s, nameB s = true → s.length ≤ maxL := by
    intro s hs
    unfold nameB at hs
    cases s with
    | nil => cases hs
    | cons c r =>
      simp only [Bool.and_eq_true, decide_eq_true_eq] at hs
      have := hs.1.1.1
      simp only [List.length_cons]
      exact Nat.le_trans (show r.length + 1 ≤ 17 by omega) (by decide)
  simp only [keyB, Bool.and_eq_true] at hk
  exact ⟨hn _ hk.1.1.1, hn _ hk.1.1.2⟩
theorem applyX_ok {b : Bk} {e : Ev} (h : (applyX b e).1 = 0) : validB b = true ∧ validEv e = true ∧ (applyB b e).1 = 0 ∧ (applyX b e).2 = (applyB b e).2 := by
  unfold applyX at h ⊢
  split at h
  · rename_i h1
    rw [if_pos h1]
    simp only [Bool.and_eq_true] at h1
    split at h
    · rename_i h2
      rw [if_pos h2]
      exact ⟨h1.1, h1.2, h2, rfl⟩
    · rename_i h2; exact absurd h h2
  · cases h
theorem make_app (l : List Ev) (x : Ev) : make (l ++ [x]) = if (applyX (make l) x).1 = 0 then (applyX (make l) x).2 else make l := by
  unfold make
  rw [List.foldl_append]
  rfl
theorem make_take {l : List Ev} {k : Nat} (h : k < l.length) : make (l.take (k + 1)) = if (applyX (make (l.take k)) (l.getD k default)).1 = 0 then (applyX (make (l.take k)) (l.getD k default)).2 else make (l.take k) := by
  rw [take_succ_get h, make_app, getD_lt h]
theorem make_inv (l : List Ev) : (evsRaw (make l).ens).length ≤ l.length ∧ ∀ e ∈ evsRaw (make l).ens, validEv e = true := by
  have key : ∀ k, k ≤ l.length → (evsRaw (make (l.take k)).ens).length ≤ k ∧ ∀ e ∈ evsRaw (make (l.take k)).ens, validEv e = true := by
    intro k
    induction k with
    | zero => intro _; exact ⟨by simp [make, empty, evsRaw], by simp [make, empty, evsRaw]⟩
    | succ k ih =>
      intro hk
      obtain ⟨h1, h2⟩ := ih (by omega)
      rw [make_take (by omega)]
      split
      · rename_i h
        obtain ⟨_, h4, h5, h6⟩ := applyX_ok h
        rw [h6]
        obtain ⟨L, R, e1, e2⟩ := stepR_ins h4 (applyB_iff.1 (Prod.ext h5 rfl)).2.2
        rw [e2]
        rw [e1] at h1 h2
        simp only [List.length_append, List.length_cons, List.mem_append, List.mem_cons] at *
        refine ⟨by omega, ?_⟩
        rintro e (he | rfl | he)
        · exact h2 e (.inl he)
        · exact h4
        · exact h2 e (.inr he)
      · exact ⟨by omega, h2⟩
  have := key l.length (Nat.le_refl _)
  rwa [List.take_length] at this
theorem make_sm {l : List Ev} (hl : l.length ≤ 1000000) : Sm (make l) := by
  obtain ⟨h1, h2⟩ := make_inv l
  refine ⟨Nat.le_trans h1 hl, fun e he => ?_⟩
  unfold evsBk at he
  rw [mem_sortS] at he
  exact validEv_smK (h2 e he)
theorem make_spec (l : List Ev) (hl : l.length ≤ 1000000) (he : ∀ e ∈ l, SmK e) : Spec0 Tryz.prog 13 [evsA l] (bkA (make l)) := by
  refine spec0 ok13 rfl fun C _ => ?_
  (repeat (first | refine wpS_seq ?_ | refine wpS_reg ?_ | refine run_step rfl (by ((repeat' (first | exact aN | refine aC ?_ ?_ | intro _)) <;> first | assumption | omega | (simp only [obS] at *; omega) | (intros; first | rfl | assumption | omega | simp_all; done))) ?_ | refine run_nil ?_ | refine wpS_block ?_ | refine wpS_skip ?_ | refine wpS_exit ?_ | refine wpS_ret ?_))
  refine wpS_loop (fun k => k ≤ l.length) (fun k => ⟨[(2, .loc 2 0), (3, .loc 3 0), (9, evsA l), (10, .int .i64 (l.length : Nat)), (11, .int .i64 (k : Nat))], [(2, .blk 31 [.int .i64 0, .nils]), (3, .blk 31 [.int .i64 (make (l.take k)).tick, lsA 7 enA (make (l.take k)).ens])]⟩) (fun k => l.length - k) 0 (by omega)
    (by refine ent_le ?_; (repeat' (first | exact aN | refine aC ?_ ?_)) <;> first | rfl | exact ⟨rfl, fun _ _ => rfl⟩ | exact ⟨rfl, fun _ hi => absurd hi (Nat.not_lt_zero _)⟩) ?_
  rintro k hk
  have hms : Sm (make (l.take k)) := make_sm (by rw [List.length_take]; omega)
  (repeat (first | refine wpS_seq ?_ | refine wpS_reg ?_ | refine run_step rfl (by ((repeat' (first | exact aN | refine aC ?_ ?_ | intro _)) <;> first | assumption | omega | (simp only [obS] at *; omega) | (intros; first | rfl | assumption | omega | simp_all; done))) ?_ | refine run_nil ?_ | refine wpS_block ?_ | refine wpS_skip ?_ | refine wpS_exit ?_ | refine wpS_ret ?_))
  refine wpS_cond rfl (by ((repeat' (first | exact aN | refine aC ?_ ?_ | intro _)) <;> first | assumption | omega | (simp only [obS] at *; omega) | (intros; first | rfl | assumption | omega | simp_all; done))) (fun h => ?_) (fun h => ?_)
  · have hlt : k < l.length := by simpa using h
    clear h
    have hm := he _ (getD_mem hlt)
    have hmt := make_take hlt
    obtain ⟨e, hee⟩ : ∃ e, e = l.getD k default := ⟨_, rfl⟩
    rw [← hee] at hm hmt
    obtain ⟨c, hc⟩ : ∃ c, c = make (l.take k) := ⟨_, rfl⟩
    rw [← hc] at hms hmt ⊢
    (repeat (first | refine wpS_seq ?_ | refine wpS_reg ?_ | refine run_step rfl (by ((repeat' (first | exact aN | refine aC ?_ ?_ | intro _)) <;> first | assumption | omega | (simp only [obS] at *; omega) | (intros; first | rfl | assumption | omega | simp_all; done))) ?_ | refine run_nil ?_ | refine wpS_block ?_ | refine wpS_skip ?_ | refine wpS_exit ?_ | refine wpS_ret ?_))
    rw [show ((k : Int)).toNat = k from Int.toNat_natCast k, ← hee]
    (repeat (first | refine wpS_seq ?_ | refine wpS_reg ?_ | refine run_step rfl (by ((repeat' (first | exact aN | refine aC ?_ ?_ | intro _)) <;> first | assumption | omega | (simp only [obS] at *; omega) | (intros; first | rfl | assumption | omega | simp_all; done))) ?_ | refine run_nil ?_ | refine wpS_block ?_ | refine wpS_skip ?_ | refine wpS_exit ?_ | refine wpS_ret ?_))
    refine run_c ((applyX_spec c e hms hm)) rfl (by ((repeat' (first | exact aN | refine aC ?_ ?_ | intro _)) <;> first | assumption | omega | (simp only [obS] at *; omega) | (intros; first | rfl | assumption | omega | simp_all; done))) rfl rfl (.inr rfl) ?_
    generalize applyX c e = R at hmt ⊢
    obtain ⟨code, d⟩ := R
    dsimp only at hmt ⊢
    (repeat (first | refine wpS_seq ?_ | refine wpS_reg ?_ | refine run_step rfl (by ((repeat' (first | exact aN | refine aC ?_ ?_ | intro _)) <;> first | assumption | omega | (simp only [obS] at *; omega) | (intros; first | rfl | assumption | omega | simp_all; done))) ?_ | refine run_nil ?_ | refine wpS_block ?_ | refine wpS_skip ?_ | refine wpS_exit ?_ | refine wpS_ret ?_))
    refine wpS_cond rfl (by ((repeat' (first | exact aN | refine aC ?_ ?_ | intro _)) <;> first | assumption | omega | (simp only [obS] at *; omega) | (intros; first | rfl | assumption | omega | simp_all; done))) (fun h => ?_) (fun h => ?_)
    · have h0 : code = 0 := by simpa using h
      rw [if_pos h0] at hmt
      (repeat (first | refine wpS_seq ?_ | refine wpS_reg ?_ | refine run_step rfl (by ((repeat' (first | exact aN | refine aC ?_ ?_ | intro _)) <;> first | assumption | omega | (simp only [obS] at *; omega) | (intros; first | rfl | assumption | omega | simp_all; done))) ?_ | refine run_nil ?_ | refine wpS_block ?_ | refine wpS_skip ?_ | refine wpS_exit ?_ | refine wpS_ret ?_))
      refine ⟨k + 1, by omega, by dsimp only; omega, ?_⟩
      dsimp only
      rw [hmt]
      refine ent_le ?_; (repeat' (first | exact aN | refine aC ?_ ?_)) <;> first | rfl | exact ⟨rfl, fun _ _ => rfl⟩
    · have h0 : code ≠ 0 := by simpa using h
      rw [if_neg h0] at hmt
      (repeat (first | refine wpS_seq ?_ | refine wpS_reg ?_ | refine run_step rfl (by ((repeat' (first | exact aN | refine aC ?_ ?_ | intro _)) <;> first | assumption | omega | (simp only [obS] at *; omega) | (intros; first | rfl | assumption | omega | simp_all; done))) ?_ | refine run_nil ?_ | refine wpS_block ?_ | refine wpS_skip ?_ | refine wpS_exit ?_ | refine wpS_ret ?_))
      refine ⟨k + 1, by omega, by dsimp only; omega, ?_⟩
      dsimp only
      rw [hmt]
      refine ent_le ?_; (repeat' (first | exact aN | refine aC ?_ ?_)) <;> first | rfl | exact ⟨rfl, fun _ _ => rfl⟩
  · have hlt : k = l.length := by simp at h; omega
    subst hlt
    clear h
    rw [List.take_length]
    (repeat (first | refine wpS_seq ?_ | refine wpS_reg ?_ | refine run_step rfl (by ((repeat' (first | exact aN | refine aC ?_ ?_ | intro _)) <;> first | assumption | omega | (simp only [obS] at *; omega) | (intros; first | rfl | assumption | omega | simp_all; done))) ?_ | refine run_nil ?_ | refine wpS_block ?_ | refine wpS_skip ?_ | refine wpS_exit ?_ | refine wpS_ret ?_))
    refine fin_mk rfl ?_; (repeat' (first | exact aN | refine aC ?_ ?_))
    all_goals first | rfl | exact ⟨rfl, fun _ _ => rfl⟩
end Go.Proofs
end
/- part BkStr -/
section
namespace Go.Proofs
open Go.Av Go.Pu
theorem call131 (v : Value) (w : World) : (callFunc 131 #[v]).run Tryz.prog w = .ok (.value v) w := by
  rw [run_callFunc_extern (e := Go.Extern.AbiNoEscape.same) Tryz.func131 (by kernel_rfl) (by kernel_rfl) (by kernel_rfl) (by kernel_rfl)]
  rfl
def smallS (n : Nat) : List UInt8 := if n < 10 then [UInt8.ofNat (48 + n)] else [UInt8.ofNat (48 + n / 10), UInt8.ofNat (48 + n % 10)]
theorem small1 : ∀ n, n < 10 → List.take 1 (List.drop n [48, 49, 50, 51, 52, 53, 54, 55, 56, 57, 97, 98, 99, 100, 101, 102, 103, 104, 105, 106, 107, 108, 109, 110, 111, 112, 113, 114, 115, 116, 117, 118, 119, 120, 121, 122]) = smallS n := by decide +kernel
theorem small2 : ∀ n, n < 100 → ¬ n < 10 → List.take 2 (List.drop (n * 2) [48, 48, 48, 49, 48, 50, 48, 51, 48, 52, 48, 53, 48, 54, 48, 55, 48, 56, 48, 57, 49, 48, 49, 49, 49, 50, 49, 51, 49, 52, 49, 53, 49, 54, 49, 55, 49, 56, 49, 57, 50, 48, 50, 49, 50, 50, 50, 51, 50, 52, 50, 53, 50, 54, 50, 55, 50, 56, 50, 57, 51, 48, 51, 49, 51, 50, 51, 51, 51, 52, 51, 53, 51, 54, 51, 55, 51, 56, 51, 57, 52, 48, 52, 49, 52, 50, 52, 51, 52, 52, 52, 53, 52, 54, 52, 55, 52, 56, 52, 57, 53, 48, 53, 49, 53, 50, 53, 51, 53, 52, 53, 53, 53, 54, 53, 55, 53, 56, 53, 57, 54, 48, 54, 49, 54, 50, 54, 51, 54, 52, 54, 53, 54, 54, 54, 55, 54, 56, 54, 57, 55, 48, 55, 49, 55, 50, 55, 51, 55, 52, 55, 53, 55, 54, 55, 55, 55, 56, 55, 57, 56, 48, 56, 49, 56, 50, 56, 51, 56, 52, 56, 53, 56, 54, 56, 55, 56, 56, 56, 57, 57, 48, 57, 49, 57, 50, 57, 51, 57, 52, 57, 53, 57, 54, 57, 55, 57, 56, 57, 57]) = smallS n := by decide +kernel
set_option maxRecDepth 10000 in
theorem small_spec (n : Nat) (hn : n < 100) : Spec0 Tryz.prog 132 [.int .i64 n] (.str (smallS n)) := by
  refine spec0 ok132 rfl fun C _ => ?_
  (repeat (first | refine wpS_seq ?_ | refine wpS_reg ?_ | refine run_step rfl (by ((repeat' (first | exact aN | refine aC ?_ ?_ | intro _)) <;> first | assumption | omega | (simp only [obS] at *; omega) | (intros; first | rfl | assumption | omega | simp_all; done))) ?_ | refine run_nil ?_ | refine wpS_block ?_ | refine wpS_skip ?_ | refine wpS_exit ?_ | refine wpS_ret ?_))
  refine wpS_cond rfl (by ((repeat' (first | exact aN | refine aC ?_ ?_ | intro _)) <;> first | assumption | omega | (simp only [obS] at *; omega) | (intros; first | rfl | assumption | omega | simp_all; done))) (fun h => ?_) (fun h => ?_)
  · have h1 : n < 10 := by simp at h; omega
    refine wpS_seq ?_
    refine wpS_reg ?_
    iterate 3 refine run_step rfl (by ((repeat' (first | exact aN | refine aC ?_ ?_ | intro _)) <;> first | assumption | omega | (simp only [obS] at *; omega) | (intros; first | rfl | assumption | omega | simp_all; done))) ?_
    refine run_step rfl (allP_cons ⟨show (0 : Int) ≤ (n : Int) by omega, show (n : Int) ≤ (n : Int) + 1 by omega, Int.le_trans (b := 36) (show (n : Int) + 1 ≤ 36 by omega) (Int.ofNat_le.2 (Nat.le_of_ble_eq_true rfl))⟩ (by ((repeat' (first | exact aN | refine aC ?_ ?_ | intro _)) <;> first | assumption | omega | (simp only [obS] at *; omega) | (intros; first | rfl | assumption | omega | simp_all; done)))) ?_
    (repeat (first | refine wpS_seq ?_ | refine wpS_reg ?_ | refine run_step rfl (by ((repeat' (first | exact aN | refine aC ?_ ?_ | intro _)) <;> first | assumption | omega | (simp only [obS] at *; omega) | (intros; first | rfl | assumption | omega | simp_all; done))) ?_ | refine run_nil ?_ | refine wpS_block ?_ | refine wpS_skip ?_ | refine wpS_exit ?_ | refine wpS_ret ?_))
    refine fin_mk rfl ?_; (repeat' (first | exact aN | refine aC ?_ ?_))
    have e1 : ((n : Int) + 1).toNat - (n : Int).toNat = 1 := by omega
    dsimp only
    rw [e1, Int.toNat_natCast]
    exact small1 n h1
  · have h1 : ¬ n < 10 := by simp at h; omega
    refine wpS_skip ?_
    refine wpS_seq ?_
    refine wpS_reg ?_
    iterate 5 refine run_step rfl (by ((repeat' (first | exact aN | refine aC ?_ ?_ | intro _)) <;> first | assumption | omega | (simp only [obS] at *; omega) | (intros; first | rfl | assumption | omega | simp_all; done))) ?_
    refine run_step rfl (allP_cons ⟨show (0 : Int) ≤ (n : Int) * 2 by omega, show (n : Int) * 2 ≤ (n : Int) * 2 + 2 by omega, Int.le_trans (b := 200) (show (n : Int) * 2 + 2 ≤ 200 by omega) (Int.ofNat_le.2 (Nat.le_of_ble_eq_true rfl))⟩ (by ((repeat' (first | exact aN | refine aC ?_ ?_ | intro _)) <;> first | assumption | omega | (simp only [obS] at *; omega) | (intros; first | rfl | assumption | omega | simp_all; done)))) ?_
    (repeat (first | refine wpS_seq ?_ | refine wpS_reg ?_ | refine run_step rfl (by ((repeat' (first | exact aN | refine aC ?_ ?_ | intro _)) <;> first | assumption | omega | (simp only [obS] at *; omega) | (intros; first | rfl | assumption | omega | simp_all; done))) ?_ | refine run_nil ?_ | refine wpS_block ?_ | refine wpS_skip ?_ | refine wpS_exit ?_ | refine wpS_ret ?_))
    refine fin_mk rfl ?_; (repeat' (first | exact aN | refine aC ?_ ?_))
    have e1 : ((n : Int) * 2 + 2).toNat - ((n : Int) * 2).toNat = 2 := by omega
    have e2 : ((n : Int) * 2).toNat = n * 2 := by omega
    dsimp only
    rw [e1, e2]
    exact small2 n hn h1
theorem fmtInt_spec (n : Nat) (hn : n < 100) : Spec0 Tryz.prog 111 [.int .i64 n, .int .i64 10] (.str (smallS n)) := by
  refine spec0 ok111 rfl fun C _ => ?_
  (repeat (first | refine wpS_condT rfl (by ((repeat' (first | exact aN | refine aC ?_ ?_ | intro _)) <;> first | assumption | omega | (simp only [obS] at *; omega) | (intros; first | rfl | assumption | omega | simp_all; done))) ?_ | refine wpS_condF rfl (by ((repeat' (first | exact aN | refine aC ?_ ?_ | intro _)) <;> first | assumption | omega | (simp only [obS] at *; omega) | (intros; first | rfl | assumption | omega | simp_all; done))) ?_ | refine wpS_seq ?_ | refine wpS_reg ?_ | refine run_step rfl (by ((repeat' (first | exact aN | refine aC ?_ ?_ | intro _)) <;> first | assumption | omega | (simp only [obS] at *; omega) | (intros; first | rfl | assumption | omega | simp_all; done))) ?_ | refine run_nil ?_ | refine wpS_block ?_ | refine wpS_skip ?_ | refine wpS_exit ?_ | refine wpS_ret ?_))
  have e1 : decide ((0 : Int) ≤ (n : Int)) = true := by simp
  have e2 : decide ((n : Int) < 100) = true := by simp; omega
  simp only [e1, e2]
  (repeat (first | refine wpS_condT rfl (by ((repeat' (first | exact aN | refine aC ?_ ?_ | intro _)) <;> first | assumption | omega | (simp only [obS] at *; omega) | (intros; first | rfl | assumption | omega | simp_all; done))) ?_ | refine wpS_condF rfl (by ((repeat' (first | exact aN | refine aC ?_ ?_ | intro _)) <;> first | assumption | omega | (simp only [obS] at *; omega) | (intros; first | rfl | assumption | omega | simp_all; done))) ?_ | refine wpS_seq ?_ | refine wpS_reg ?_ | refine run_step rfl (by ((repeat' (first | exact aN | refine aC ?_ ?_ | intro _)) <;> first | assumption | omega | (simp only [obS] at *; omega) | (intros; first | rfl | assumption | omega | simp_all; done))) ?_ | refine run_nil ?_ | refine wpS_block ?_ | refine wpS_skip ?_ | refine wpS_exit ?_ | refine wpS_ret ?_))
  refine run_c ((small_spec n hn)) rfl (by ((repeat' (first | exact aN | refine aC ?_ ?_ | intro _)) <;> first | assumption | omega | (simp only [obS] at *; omega) | (intros; first | rfl | assumption | omega | simp_all; done))) rfl rfl (.inl rfl) ?_
  (repeat (first | refine wpS_seq ?_ | refine wpS_reg ?_ | refine run_step rfl (by ((repeat' (first | exact aN | refine aC ?_ ?_ | intro _)) <;> first | assumption | omega | (simp only [obS] at *; omega) | (intros; first | rfl | assumption | omega | simp_all; done))) ?_ | refine run_nil ?_ | refine wpS_block ?_ | refine wpS_skip ?_ | refine wpS_exit ?_ | refine wpS_ret ?_))
  refine fin_mk rfl ?_; (repeat' (first | exact aN | refine aC ?_ ?_))
  rfl
theorem itoa_in (n : Nat) (hn : n < 100) : Spec0 Tryz.prog 94 [.int .i64 n] (.str (smallS n)) := by
  refine spec0 ok94 rfl fun C _ => ?_
  (repeat (first | refine wpS_seq ?_ | refine wpS_reg ?_ | refine run_step rfl (by ((repeat' (first | exact aN | refine aC ?_ ?_ | intro _)) <;> first | assumption | omega | (simp only [obS] at *; omega) | (intros; first | rfl | assumption | omega | simp_all; done))) ?_ | refine run_nil ?_ | refine wpS_block ?_ | refine wpS_skip ?_ | refine wpS_exit ?_ | refine wpS_ret ?_))
  refine run_c ((fmtInt_spec n hn)) rfl (by ((repeat' (first | exact aN | refine aC ?_ ?_ | intro _)) <;> first | assumption | omega | (simp only [obS] at *; omega) | (intros; first | rfl | assumption | omega | simp_all; done))) rfl rfl (.inl rfl) ?_
  (repeat (first | refine wpS_seq ?_ | refine wpS_reg ?_ | refine run_step rfl (by ((repeat' (first | exact aN | refine aC ?_ ?_ | intro _)) <;> first | assumption | omega | (simp only [obS] at *; omega) | (intros; first | rfl | assumption | omega | simp_all; done))) ?_ | refine run_nil ?_ | refine wpS_block ?_ | refine wpS_skip ?_ | refine wpS_exit ?_ | refine wpS_ret ?_))
  refine fin_mk rfl ?_; (repeat' (first | exact aN | refine aC ?_ ?_))
  rfl
theorem itoa_small (n : Nat) (hn : n < 100) : Spec0 Tryz.prog 67 [.int .i64 n] (.str (smallS n)) := by
  refine spec0 ok67 rfl fun C _ => ?_
  (repeat (first | refine wpS_seq ?_ | refine wpS_reg ?_ | refine run_step rfl (by ((repeat' (first | exact aN | refine aC ?_ ?_ | intro _)) <;> first | assumption | omega | (simp only [obS] at *; omega) | (intros; first | rfl | assumption | omega | simp_all; done))) ?_ | refine run_nil ?_ | refine wpS_block ?_ | refine wpS_skip ?_ | refine wpS_exit ?_ | refine wpS_ret ?_))
  refine run_c ((itoa_in n hn)) rfl (by ((repeat' (first | exact aN | refine aC ?_ ?_ | intro _)) <;> first | assumption | omega | (simp only [obS] at *; omega) | (intros; first | rfl | assumption | omega | simp_all; done))) rfl rfl (.inl rfl) ?_
  (repeat (first | refine wpS_seq ?_ | refine wpS_reg ?_ | refine run_step rfl (by ((repeat' (first | exact aN | refine aC ?_ ?_ | intro _)) <;> first | assumption | omega | (simp only [obS] at *; omega) | (intros; first | rfl | assumption | omega | simp_all; done))) ?_ | refine run_nil ?_ | refine wpS_block ?_ | refine wpS_skip ?_ | refine wpS_exit ?_ | refine wpS_ret ?_))
  refine fin_mk rfl ?_; (repeat' (first | exact aN | refine aC ?_ ?_))
  rfl
end Go.Proofs
end
