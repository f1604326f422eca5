/-
  HELPING TEXT, shared by the claims on the book. Own work (AI agent).
-/
import Derived.Test.YtgnhmklpekgndaaGreatDoorStuF
set_option linter.all false
/- part BkBuf -/
section
namespace Go.Proofs
open Go.Av Go.Pu
@[reducible] def byF (s : List UInt8) : Nat → List AV := fun i => [.int .u8 ((s.getD i 0).toNat : Int)]
@[reducible] def byR (s : List UInt8) : Rt := .row 5 1 s.length (byF s)
theorem check0 : SpecR Tryz.prog 110 [.loc PB 0] [(PB, .blk 124 [.nilp, .nils])] .any [(PB, .blk 124 [.loc PB 0, .nils])] := by
  refine specR ok110 fun C _ => ?_
  (repeat (first | refine wpS_seq ?_ | refine wpS_reg ?_ | refine run_step rfl (by ((repeat' (first | exact aN | refine aC ?_ ?_ | intro _)) <;> first | assumption | omega | (simp only [obS] at *; omega) | (intros; first | rfl | assumption | omega | simp_all; done))) ?_ | refine run_nil ?_ | refine wpS_block ?_ | refine wpS_skip ?_ | refine wpS_exit ?_ | refine wpS_ret ?_))
  refine wpS_condT rfl (by ((repeat' (first | exact aN | refine aC ?_ ?_ | intro _)) <;> first | assumption | omega | (simp only [obS] at *; omega) | (intros; first | rfl | assumption | omega | simp_all; done))) ?_
  (repeat (first | refine wpS_seq ?_ | refine wpS_reg ?_ | refine run_step rfl (by ((repeat' (first | exact aN | refine aC ?_ ?_ | intro _)) <;> first | assumption | omega | (simp only [obS] at *; omega) | (intros; first | rfl | assumption | omega | simp_all; done))) ?_ | refine run_nil ?_ | refine wpS_block ?_ | refine wpS_skip ?_ | refine wpS_exit ?_ | refine wpS_ret ?_))
  refine run_same call131 ?_
  (repeat (first | refine wpS_seq ?_ | refine wpS_reg ?_ | refine run_step rfl (by ((repeat' (first | exact aN | refine aC ?_ ?_ | intro _)) <;> first | assumption | omega | (simp only [obS] at *; omega) | (intros; first | rfl | assumption | omega | simp_all; done))) ?_ | refine run_nil ?_ | refine wpS_block ?_ | refine wpS_skip ?_ | refine wpS_exit ?_ | refine wpS_ret ?_))
  refine fin_mkR rfl ?_ ?_ <;> (repeat' (first | exact aN | refine aC ?_ ?_))
  all_goals rfl
theorem check1 (s : List UInt8) : SpecR Tryz.prog 110 [.loc PB 0] [(PB, .blk 124 [.loc PB 0, .ref QN]), (QN, byR s)] .any [(PB, .blk 124 [.loc PB 0, .ref QN]), (QN, byR s)] := by
  refine specR ok110 fun C _ => ?_
  (repeat (first | refine wpS_seq ?_ | refine wpS_reg ?_ | refine run_step rfl (by ((repeat' (first | exact aN | refine aC ?_ ?_ | intro _)) <;> first | assumption | omega | (simp only [obS] at *; omega) | (intros; first | rfl | assumption | omega | simp_all; done))) ?_ | refine run_nil ?_ | refine wpS_block ?_ | refine wpS_skip ?_ | refine wpS_exit ?_ | refine wpS_ret ?_))
  refine wpS_condF rfl (by ((repeat' (first | exact aN | refine aC ?_ ?_ | intro _)) <;> first | assumption | omega | (simp only [obS] at *; omega) | (intros; first | rfl | assumption | omega | simp_all; done))) ?_
  (repeat (first | refine wpS_seq ?_ | refine wpS_reg ?_ | refine run_step rfl (by ((repeat' (first | exact aN | refine aC ?_ ?_ | intro _)) <;> first | assumption | omega | (simp only [obS] at *; omega) | (intros; first | rfl | assumption | omega | simp_all; done))) ?_ | refine run_nil ?_ | refine wpS_block ?_ | refine wpS_skip ?_ | refine wpS_exit ?_ | refine wpS_ret ?_))
  refine wpS_condF rfl (by ((repeat' (first | exact aN | refine aC ?_ ?_ | intro _)) <;> first | assumption | omega | (simp only [obS] at *; omega) | (intros; first | rfl | assumption | omega | simp_all; done))) ?_
  (repeat (first | refine wpS_seq ?_ | refine wpS_reg ?_ | refine run_step rfl (by ((repeat' (first | exact aN | refine aC ?_ ?_ | intro _)) <;> first | assumption | omega | (simp only [obS] at *; omega) | (intros; first | rfl | assumption | omega | simp_all; done))) ?_ | refine run_nil ?_ | refine wpS_block ?_ | refine wpS_skip ?_ | refine wpS_exit ?_ | refine wpS_ret ?_))
  refine fin_mkR rfl ?_ ?_ <;> (repeat' (first | exact aN | refine aC ?_ ?_))
  all_goals first | rfl | exact ⟨rfl, fun _ _ => rfl⟩
theorem write0 (s : List UInt8) (hs : s.length ≤ maxL) : SpecR Tryz.prog 91 [.loc PB 0, .str s] [(PB, .blk 124 [.nilp, .nils])] (.tup [.int .i64 (s.length : Nat), .nilif]) [(PB, .blk 124 [.loc PB 0, .ref QN]), (QN, byR s)] := by
  rw [maxL_eq] at hs
  refine specR ok91 fun C _ => ?_
  (repeat (first | refine wpS_seq ?_ | refine wpS_reg ?_ | refine run_step rfl (by ((repeat' (first | exact aN | refine aC ?_ ?_ | intro _)) <;> first | assumption | omega | (simp only [obS] at *; omega) | (intros; first | rfl | assumption | omega | simp_all; done))) ?_ | refine run_nil ?_ | refine wpS_block ?_ | refine wpS_skip ?_ | refine wpS_exit ?_ | refine wpS_ret ?_))
  refine run_cR id [PB] check0 rfl rfl ⟨rfl, trivial⟩ rfl ?_
  (repeat (first | refine wpS_seq ?_ | refine wpS_reg ?_ | refine run_step rfl (by ((repeat' (first | exact aN | refine aC ?_ ?_ | intro _)) <;> first | assumption | omega | (simp only [obS] at *; omega) | (intros; first | rfl | assumption | omega | simp_all; done))) ?_ | refine run_nil ?_ | refine wpS_block ?_ | refine wpS_skip ?_ | refine wpS_exit ?_))
  refine wpS_ent (Ent.trans (ent_keep [4, 5, 0, 1] [PB, 14]) (ent_ren 14 QN rfl)) ?_
  (repeat (first | refine wpS_seq ?_ | refine wpS_reg ?_ | refine run_step rfl (by ((repeat' (first | exact aN | refine aC ?_ ?_ | intro _)) <;> first | assumption | omega | (simp only [obS] at *; omega) | (intros; first | rfl | assumption | omega | simp_all; done))) ?_ | refine run_nil ?_ | refine wpS_block ?_ | refine wpS_skip ?_ | refine wpS_exit ?_ | refine wpS_ret ?_))
  refine fin_mkR rfl ?_ ?_ <;> (repeat' (first | exact aN | refine aC ?_ ?_))
  all_goals first | rfl | exact ⟨rfl, fun _ _ => rfl⟩
theorem write1 (t s : List UInt8) (hs : t.length + s.length ≤ maxL) : SpecR Tryz.prog 91 [.loc PB 0, .str s] [(PB, .blk 124 [.loc PB 0, .ref QN]), (QN, byR t)] (.tup [.int .i64 (s.length : Nat), .nilif]) [(PB, .blk 124 [.loc PB 0, .ref QN]), (QN, byR (t ++ s))] := by
  rw [maxL_eq] at hs
  refine specR ok91 fun C _ => ?_
  (repeat (first | refine wpS_seq ?_ | refine wpS_reg ?_ | refine run_step rfl (by ((repeat' (first | exact aN | refine aC ?_ ?_ | intro _)) <;> first | assumption | omega | (simp only [obS] at *; omega) | (intros; first | rfl | assumption | omega | simp_all; done))) ?_ | refine run_nil ?_ | refine wpS_block ?_ | refine wpS_skip ?_ | refine wpS_exit ?_ | refine wpS_ret ?_))
  refine run_cR id [PB, QN] (check1 t) rfl rfl ⟨rfl, rfl, trivial⟩ rfl ?_
  (repeat (first | refine wpS_seq ?_ | refine wpS_reg ?_ | refine run_step rfl (by ((repeat' (first | exact aN | refine aC ?_ ?_ | intro _)) <;> first | assumption | omega | (simp only [obS] at *; omega) | (intros; first | rfl | assumption | omega | simp_all; done))) ?_ | refine run_nil ?_ | refine wpS_block ?_ | refine wpS_skip ?_ | refine wpS_exit ?_))
  refine wpS_ent (Ent.trans (ent_keep [4, 5, 0, 1] [PB, 14]) (ent_ren 14 QN rfl)) ?_
  refine wpS_ent (ent_row QN (t ++ s).length (byF (t ++ s)) rfl (by simp) (fun i hi => ?_)) ?_
  · rw [joined_eq]
    simp only [byF, List.getD_eq_getElem?_getD, List.getElem?_append]
    split <;> rfl
  (repeat (first | refine wpS_seq ?_ | refine wpS_reg ?_ | refine run_step rfl (by ((repeat' (first | exact aN | refine aC ?_ ?_ | intro _)) <;> first | assumption | omega | (simp only [obS] at *; omega) | (intros; first | rfl | assumption | omega | simp_all; done))) ?_ | refine run_nil ?_ | refine wpS_block ?_ | refine wpS_skip ?_ | refine wpS_exit ?_ | refine wpS_ret ?_))
  refine fin_mkR rfl ?_ ?_ <;> (repeat' (first | exact aN | refine aC ?_ ?_))
  all_goals first | rfl | exact ⟨rfl, fun _ _ => rfl⟩
theorem bytesOf_byF (s : List UInt8) : bytesOf s.length (byF s) = s := by
  refine List.ext_getElem? fun i => ?_
  by_cases h : i < s.length
  · rw [bytesOf_get h, byteOf_eq, List.getD_eq_getElem?_getD, List.getElem?_eq_getElem h]
    rfl
  · have hl : (bytesOf s.length (byF s)).length = s.length := by simp [bytesOf]
    rw [List.getElem?_eq_none (by omega), List.getElem?_eq_none (by omega)]
theorem string_spec (s : List UInt8) (hs : 0 < s.length) : SpecR Tryz.prog 92 [.loc PB 0] [(PB, .blk 124 [.loc PB 0, .ref QN]), (QN, byR s)] (.str s) [] := by
  refine specR ok92 fun C _ => ?_
  (repeat (first | refine wpS_seq ?_ | refine wpS_reg ?_ | refine run_step rfl (by ((repeat' (first | exact aN | refine aC ?_ ?_ | intro _)) <;> first | assumption | omega | (simp only [obS] at *; omega) | (intros; first | rfl | assumption | omega | simp_all; done))) ?_ | refine run_nil ?_ | refine wpS_block ?_ | refine wpS_skip ?_ | refine wpS_exit ?_ | refine wpS_ret ?_))
  refine wpS_D (by kernel_rfl) ?_
  iterate 4 refine trg_step rfl (by ((repeat' (first | exact aN | refine aC ?_ ?_ | intro _)) <;> first | assumption | omega | (simp only [obS] at *; omega) | (intros; first | rfl | assumption | omega | simp_all; done))) ?_
  refine trg_step rfl (allP_cons (hs) (by ((repeat' (first | exact aN | refine aC ?_ ?_ | intro _)) <;> first | assumption | omega | (simp only [obS] at *; omega) | (intros; first | rfl | assumption | omega | simp_all; done)))) ?_
  iterate 5 refine trg_step rfl (by ((repeat' (first | exact aN | refine aC ?_ ?_ | intro _)) <;> first | assumption | omega | (simp only [obS] at *; omega) | (intros; first | rfl | assumption | omega | simp_all; done))) ?_
  refine trg_step rfl (allP_cons ⟨rfl, hs⟩ (allP_cons (fun i _ => ⟨s.getD i 0, rfl⟩) (by ((repeat' (first | exact aN | refine aC ?_ ?_ | intro _)) <;> first | assumption | omega | (simp only [obS] at *; omega) | (intros; first | rfl | assumption | omega | simp_all; done))))) ?_
  (repeat (refine trg_step rfl (by ((repeat' (first | exact aN | refine aC ?_ ?_ | intro _)) <;> first | assumption | omega | (simp only [obS] at *; omega) | (intros; first | rfl | assumption | omega | simp_all; done))) ?_))
  refine trg_nil ⟨rfl, ?_⟩
  rw [bytesOf_byF]
  (repeat (first | refine wpS_seq ?_ | refine wpS_reg ?_ | refine run_step rfl (by ((repeat' (first | exact aN | refine aC ?_ ?_ | intro _)) <;> first | assumption | omega | (simp only [obS] at *; omega) | (intros; first | rfl | assumption | omega | simp_all; done))) ?_ | refine run_nil ?_ | refine wpS_block ?_ | refine wpS_skip ?_ | refine wpS_exit ?_ | refine wpS_ret ?_))
  refine fin_mkR rfl ?_ ?_ <;> (repeat' (first | exact aN | refine aC ?_ ?_))
  all_goals first | rfl | exact ⟨rfl, fun _ _ => rfl⟩
end Go.Proofs
end
/- part BkPack -/
section
namespace Go.Proofs
open Go.Av Go.Pu
def itoaS (n : Nat) : List UInt8 := if n < 10 then [UInt8.ofNat (48 + n)] else itoaS (n / 10) ++ [UInt8.ofNat (48 + n % 10)]
theorem itoaS_small {n : Nat} (h : n < 100) : smallS n = itoaS n := by
  unfold smallS
  rw [itoaS]
  split
  · rfl
  · rw [itoaS, if_pos (by omega)]
    rfl
theorem itoaS_pos (n : Nat) : 0 < (itoaS n).length := by
  rw [itoaS]
  split
  · simp
  · simp
def ItoaOK (n : Nat) : Prop := Spec0 Tryz.prog 67 [.int .i64 n] (.str (itoaS n))
theorem itoaOK_small {n : Nat} (h : n < 100) : ItoaOK n := by
  unfold ItoaOK
  rw [← itoaS_small h]
  exact itoa_small n h
def packF (s : List UInt8) : List UInt8 := itoaS s.length ++ 58 :: s
def packS (l : List (List UInt8)) : List UInt8 := l.flatMap packF
theorem packS_take {l : List (List UInt8)} {k : Nat} (h : k < l.length) : packS (l.take (k + 1)) = packS (l.take k) ++ packF (l.getD k default) := by
  rw [take_succ_get h, getD_lt h]
  unfold packS
  rw [List.flatMap_append]
  simp only [List.flatMap_cons, List.flatMap_nil, List.append_nil]
theorem packS_le {l : List (List UInt8)} (k : Nat) : (packS (l.take k)).length ≤ (packS l).length := by
  conv => rhs; rw [← List.take_append_drop k l]
  unfold packS
  rw [List.flatMap_append, List.length_append]
  omega
def ρb (q : Nat) : Nat := bif Nat.beq q PB then 7 else q
@[reducible] def pkS (l : List (List UInt8)) : Nat → St
  | 0 => ⟨[(7, .loc 7 0), (34, lsA 1 strA l), (35, .int .i64 (l.length : Nat)), (36, .int .i64 (0 : Nat))], [(7, .blk 124 [.nilp, .nils])]⟩
  | k + 1 => ⟨[(7, .loc 7 0), (34, lsA 1 strA l), (35, .int .i64 (l.length : Nat)), (36, .int .i64 ((k + 1 : Nat)))], [(7, .blk 124 [.loc 7 0, .ref QN]), (QN, byR (packS (l.take (k + 1))))]⟩
theorem pack_spec (l : List (List UInt8)) (h0 : l ≠ []) (hl : l.length ≤ 4096) (hs : (packS l).length ≤ 30000) (hI : ∀ s ∈ l, ItoaOK s.length) : Spec0 Tryz.prog 58 [lsA 1 strA l] (.tup [.str (packS l), .int .i64 0]) := by
  have hpos : 0 < l.length := List.length_pos_iff.2 h0
  have hmono := @packS_le l
  refine spec0 ok58 rfl fun C _ => ?_
  (repeat (first | refine wpS_seq ?_ | refine wpS_reg ?_ | refine run_step rfl (by ((repeat' (first | exact aN | refine aC ?_ ?_ | intro _)) <;> first | assumption | omega | (simp only [obS] at *; omega) | (intros; first | rfl | assumption | omega | simp_all; done))) ?_ | refine run_nil ?_ | refine wpS_block ?_ | refine wpS_skip ?_ | refine wpS_exit ?_ | refine wpS_ret ?_))
  refine wpS_loop (fun k => k ≤ l.length) (fun k => ⟨[(0, lsA 1 strA l), (10, lsA 1 strA l), (11, .int .i64 (l.length : Nat)), (12, .int .i64 (k : Nat)), (4, .int .i64 ((packS (l.take k)).length : Nat))], []⟩) (fun k => l.length - k) 0 (by omega)
    (by refine ent_le ?_; (repeat' (first | exact aN | refine aC ?_ ?_)) <;> first | rfl | exact ⟨rfl, fun _ _ => rfl⟩) ?_
  rintro k hk
  have hmk := hmono k
  (repeat (first | refine wpS_seq ?_ | refine wpS_reg ?_ | refine run_step rfl (by ((repeat' (first | exact aN | refine aC ?_ ?_ | intro _)) <;> first | assumption | omega | (simp only [obS] at *; omega) | (intros; first | rfl | assumption | omega | simp_all; done))) ?_ | refine run_nil ?_ | refine wpS_block ?_ | refine wpS_skip ?_ | refine wpS_exit ?_ | refine wpS_ret ?_))
  refine wpS_cond rfl (by ((repeat' (first | exact aN | refine aC ?_ ?_ | intro _)) <;> first | assumption | omega | (simp only [obS] at *; omega) | (intros; first | rfl | assumption | omega | simp_all; done))) (fun h => ?_) (fun h => ?_)
  · have hlt : k < l.length := by simpa using h
    clear h
    have hm := hI _ (getD_mem hlt)
    have hpt := packS_take hlt
    have hmk1 := hmono (k + 1)
    obtain ⟨s, hse⟩ : ∃ s, s = l.getD k default := ⟨_, rfl⟩
    rw [← hse] at hm hpt
    have hpl : (packS (l.take (k + 1))).length = (packS (l.take k)).length + ((itoaS s.length).length + 1 + s.length) := by
      rw [hpt]; simp only [packF, List.length_append, List.length_cons]; omega
    (repeat (first | refine wpS_seq ?_ | refine wpS_reg ?_ | refine run_step rfl (by ((repeat' (first | exact aN | refine aC ?_ ?_ | intro _)) <;> first | assumption | omega | (simp only [obS] at *; omega) | (intros; first | rfl | assumption | omega | simp_all; done))) ?_ | refine run_nil ?_ | refine wpS_block ?_ | refine wpS_skip ?_ | refine wpS_exit ?_ | refine wpS_ret ?_))
    rw [show ((k : Int)).toNat = k from Int.toNat_natCast k, ← hse]
    (repeat (first | refine wpS_seq ?_ | refine wpS_reg ?_ | refine run_step rfl (by ((repeat' (first | exact aN | refine aC ?_ ?_ | intro _)) <;> first | assumption | omega | (simp only [obS] at *; omega) | (intros; first | rfl | assumption | omega | simp_all; done))) ?_ | refine run_nil ?_ | refine wpS_block ?_ | refine wpS_skip ?_ | refine wpS_exit ?_ | refine wpS_ret ?_))
    refine run_c (hm) rfl (by ((repeat' (first | exact aN | refine aC ?_ ?_ | intro _)) <;> first | assumption | omega | (simp only [obS] at *; omega) | (intros; first | rfl | assumption | omega | simp_all; done))) rfl rfl (.inl rfl) ?_
    (repeat (first | refine wpS_seq ?_ | refine wpS_reg ?_ | refine run_step rfl (by ((repeat' (first | exact aN | refine aC ?_ ?_ | intro _)) <;> first | assumption | omega | (simp only [obS] at *; omega) | (intros; first | rfl | assumption | omega | simp_all; done))) ?_ | refine run_nil ?_ | refine wpS_block ?_ | refine wpS_skip ?_ | refine wpS_exit ?_ | refine wpS_ret ?_))
    refine ⟨k + 1, by omega, by dsimp only; omega, ?_⟩
    dsimp only
    refine ent_le ?_; (repeat' (first | exact aN | refine aC ?_ ?_)) <;> first | rfl | exact ⟨rfl, fun _ _ => rfl⟩ | (rw [hpl]; omega)
  have hlt : k = l.length := by simp at h; omega
  subst hlt
  clear h
  rw [List.take_length]
  (repeat (first | refine wpS_seq ?_ | refine wpS_reg ?_ | refine run_step rfl (by ((repeat' (first | exact aN | refine aC ?_ ?_ | intro _)) <;> first | assumption | omega | (simp only [obS] at *; omega) | (intros; first | rfl | assumption | omega | simp_all; done))) ?_ | refine run_nil ?_ | refine wpS_block ?_ | refine wpS_skip ?_ | refine wpS_exit ?_ | refine wpS_ret ?_))
  refine wpS_cond rfl (by ((repeat' (first | exact aN | refine aC ?_ ?_ | intro _)) <;> first | assumption | omega | (simp only [obS] at *; omega) | (intros; first | rfl | assumption | omega | simp_all; done))) (fun h => ?_) (fun h => ?_)
  · exfalso
    by_cases h1 : 4096 < l.length
    · omega
    · have e1 : decide ((4096 : Int) < (l.length : Int)) = false := by simp; omega
      have e2 : decide ((30000 : Int) < ((packS l).length : Int)) = false := by simp; omega
      simp only [e1, e2] at h
      cases h
  clear h
  (repeat (first | refine wpS_seq ?_ | refine wpS_reg ?_ | refine run_step rfl (by ((repeat' (first | exact aN | refine aC ?_ ?_ | intro _)) <;> first | assumption | omega | (simp only [obS] at *; omega) | (intros; first | rfl | assumption | omega | simp_all; done))) ?_ | refine run_nil ?_ | refine wpS_block ?_ | refine wpS_skip ?_ | refine wpS_exit ?_ | refine wpS_ret ?_))
  refine wpS_loop (fun k => k ≤ l.length) (pkS l) (fun k => l.length - k) 0 (by omega)
    (by refine ent_le ?_; (repeat' (first | exact aN | refine aC ?_ ?_)) <;> first | rfl | exact ⟨rfl, fun _ _ => rfl⟩) ?_
  rintro k hk
  have hmk := hmono k
  cases k with
  | zero =>
    (repeat (first | refine wpS_seq ?_ | refine wpS_reg ?_ | refine run_step rfl (by ((repeat' (first | exact aN | refine aC ?_ ?_ | intro _)) <;> first | assumption | omega | (simp only [obS] at *; omega) | (intros; first | rfl | assumption | omega | simp_all; done))) ?_ | refine run_nil ?_ | refine wpS_block ?_ | refine wpS_skip ?_ | refine wpS_exit ?_ | refine wpS_ret ?_))
    refine wpS_cond rfl (by ((repeat' (first | exact aN | refine aC ?_ ?_ | intro _)) <;> first | assumption | omega | (simp only [obS] at *; omega) | (intros; first | rfl | assumption | omega | simp_all; done))) (fun h => ?_) (fun h => ?_)
    · have hlt : 0 < l.length := hpos
      clear h
      have hm := hI _ (getD_mem hlt)
      have hpt := packS_take hlt
      have hmk1 := hmono (0 + 1)
      obtain ⟨s, hse⟩ : ∃ s, s = l.getD 0 default := ⟨_, rfl⟩
      rw [← hse] at hm hpt
      have hpq : packS (l.take (0 + 1)) = itoaS s.length ++ [58] ++ s := by rw [hpt]; simp [packF, packS]
      rw [hpq] at hmk1
      have ho : (itoaS s.length ++ [58]).length + s.length ≤ 9223372036854775807 := by rw [← List.length_append]; simp only [List.length_append] at *; omega
      have ho2 : (itoaS s.length).length + [(58 : UInt8)].length ≤ 9223372036854775807 := by simp only [List.length_append] at *; omega
      (repeat (first | refine wpS_seq ?_ | refine wpS_reg ?_ | refine run_step rfl (by ((repeat' (first | exact aN | refine aC ?_ ?_ | intro _)) <;> first | assumption | omega | (simp only [obS] at *; omega) | (intros; first | rfl | assumption | omega | simp_all; done))) ?_ | refine run_nil ?_ | refine wpS_block ?_ | refine wpS_skip ?_ | refine wpS_exit ?_ | refine wpS_ret ?_))
      rw [show (((0 : Nat) : Int)).toNat = 0 from rfl, ← hse]
      (repeat (first | refine wpS_seq ?_ | refine wpS_reg ?_ | refine run_step rfl (by ((repeat' (first | exact aN | refine aC ?_ ?_ | intro _)) <;> first | assumption | omega | (simp only [obS] at *; omega) | (intros; first | rfl | assumption | omega | simp_all; done))) ?_ | refine run_nil ?_ | refine wpS_block ?_ | refine wpS_skip ?_ | refine wpS_exit ?_ | refine wpS_ret ?_))
      refine run_c (hm) rfl (by ((repeat' (first | exact aN | refine aC ?_ ?_ | intro _)) <;> first | assumption | omega | (simp only [obS] at *; omega) | (intros; first | rfl | assumption | omega | simp_all; done))) rfl rfl (.inl rfl) ?_
      (repeat (first | refine wpS_seq ?_ | refine wpS_reg ?_ | refine run_step rfl (by ((repeat' (first | exact aN | refine aC ?_ ?_ | intro _)) <;> first | assumption | omega | (simp only [obS] at *; omega) | (intros; first | rfl | assumption | omega | simp_all; done))) ?_ | refine run_nil ?_ | refine wpS_block ?_ | refine wpS_skip ?_ | refine wpS_exit ?_ | refine wpS_ret ?_))
      refine run_cR ρb [PB, QN] (write0 (itoaS s.length ++ [58] ++ s) (by rw [maxL_eq]; omega)) rfl rfl ⟨rfl, trivial⟩ rfl ?_
      (repeat (first | refine wpS_seq ?_ | refine wpS_reg ?_ | refine run_step rfl (by ((repeat' (first | exact aN | refine aC ?_ ?_ | intro _)) <;> first | assumption | omega | (simp only [obS] at *; omega) | (intros; first | rfl | assumption | omega | simp_all; done))) ?_ | refine run_nil ?_ | refine wpS_block ?_ | refine wpS_skip ?_ | refine wpS_exit ?_ | refine wpS_ret ?_))
      refine ⟨0 + 1, by omega, by dsimp only; omega, ?_⟩
      unfold pkS
      dsimp only
      rw [hpq]
      refine ent_le ?_; (repeat' (first | exact aN | refine aC ?_ ?_)) <;> first | rfl | exact ⟨rfl, fun _ _ => rfl⟩
    · exfalso; simp at h; exact h0 h
  | succ k =>
    (repeat (first | refine wpS_seq ?_ | refine wpS_reg ?_ | refine run_step rfl (by ((repeat' (first | exact aN | refine aC ?_ ?_ | intro _)) <;> first | assumption | omega | (simp only [obS] at *; omega) | (intros; first | rfl | assumption | omega | simp_all; done))) ?_ | refine run_nil ?_ | refine wpS_block ?_ | refine wpS_skip ?_ | refine wpS_exit ?_ | refine wpS_ret ?_))
    refine wpS_cond rfl (by ((repeat' (first | exact aN | refine aC ?_ ?_ | intro _)) <;> first | assumption | omega | (simp only [obS] at *; omega) | (intros; first | rfl | assumption | omega | simp_all; done))) (fun h => ?_) (fun h => ?_)
    · have hlt : k + 1 < l.length := by simp at h; omega
      clear h
      have hm := hI _ (getD_mem hlt)
      have hpt := packS_take hlt
      have hmk1 := hmono (k + 1 + 1)
      obtain ⟨s, hse⟩ : ∃ s, s = l.getD (k + 1) default := ⟨_, rfl⟩
      rw [← hse] at hm hpt
      have hpq : packS (l.take (k + 1 + 1)) = packS (l.take (k + 1)) ++ (itoaS s.length ++ [58] ++ s) := by rw [hpt]; simp [packF]
      rw [hpq] at hmk1
      have ho : (itoaS s.length ++ [58]).length + s.length ≤ 9223372036854775807 := by rw [← List.length_append]; simp only [List.length_append] at *; omega
      have ho2 : (itoaS s.length).length + [(58 : UInt8)].length ≤ 9223372036854775807 := by simp only [List.length_append] at *; omega
      obtain ⟨t, ht⟩ : ∃ t, t = packS (l.take (k + 1)) := ⟨_, rfl⟩
      rw [← ht] at hpq hmk1 ⊢
      (repeat (first | refine wpS_seq ?_ | refine wpS_reg ?_ | refine run_step rfl (by ((repeat' (first | exact aN | refine aC ?_ ?_ | intro _)) <;> first | assumption | omega | (simp only [obS] at *; omega) | (intros; first | rfl | assumption | omega | simp_all; done))) ?_ | refine run_nil ?_ | refine wpS_block ?_ | refine wpS_skip ?_ | refine wpS_exit ?_ | refine wpS_ret ?_))
      rw [show (((k + 1 : Nat) : Int)).toNat = k + 1 from Int.toNat_natCast _, ← hse]
      (repeat (first | refine wpS_seq ?_ | refine wpS_reg ?_ | refine run_step rfl (by ((repeat' (first | exact aN | refine aC ?_ ?_ | intro _)) <;> first | assumption | omega | (simp only [obS] at *; omega) | (intros; first | rfl | assumption | omega | simp_all; done))) ?_ | refine run_nil ?_ | refine wpS_block ?_ | refine wpS_skip ?_ | refine wpS_exit ?_ | refine wpS_ret ?_))
      refine run_c (hm) rfl (by ((repeat' (first | exact aN | refine aC ?_ ?_ | intro _)) <;> first | assumption | omega | (simp only [obS] at *; omega) | (intros; first | rfl | assumption | omega | simp_all; done))) rfl rfl (.inl rfl) ?_
      (repeat (first | refine wpS_seq ?_ | refine wpS_reg ?_ | refine run_step rfl (by ((repeat' (first | exact aN | refine aC ?_ ?_ | intro _)) <;> first | assumption | omega | (simp only [obS] at *; omega) | (intros; first | rfl | assumption | omega | simp_all; done))) ?_ | refine run_nil ?_ | refine wpS_block ?_ | refine wpS_skip ?_ | refine wpS_exit ?_ | refine wpS_ret ?_))
      refine run_cR ρb [PB, QN] (write1 t (itoaS s.length ++ [58] ++ s) (by rw [maxL_eq, ← List.length_append]; omega)) rfl rfl ⟨rfl, rfl, trivial⟩ rfl ?_
      (repeat (first | refine wpS_seq ?_ | refine wpS_reg ?_ | refine run_step rfl (by ((repeat' (first | exact aN | refine aC ?_ ?_ | intro _)) <;> first | assumption | omega | (simp only [obS] at *; omega) | (intros; first | rfl | assumption | omega | simp_all; done))) ?_ | refine run_nil ?_ | refine wpS_block ?_ | refine wpS_skip ?_ | refine wpS_exit ?_ | refine wpS_ret ?_))
      refine ⟨k + 1 + 1, by omega, by dsimp only; omega, ?_⟩
      unfold pkS
      dsimp only
      rw [hpq]
      refine ent_le ?_; (repeat' (first | exact aN | refine aC ?_ ?_)) <;> first | rfl | exact ⟨rfl, fun _ _ => rfl⟩
    · have hlt : k + 1 = l.length := by simp at h; omega
      rw [hlt, List.take_length]
      clear h
      have hps : 0 < (packS l).length := by
        have h1 := hmono 1
        have h2 := packS_take (l := l) (k := 0) hpos
        rw [h2] at h1
        simp only [packF, List.length_append, List.length_cons] at h1
        omega
      (repeat (first | refine wpS_seq ?_ | refine wpS_reg ?_ | refine run_step rfl (by ((repeat' (first | exact aN | refine aC ?_ ?_ | intro _)) <;> first | assumption | omega | (simp only [obS] at *; omega) | (intros; first | rfl | assumption | omega | simp_all; done))) ?_ | refine run_nil ?_ | refine wpS_block ?_ | refine wpS_skip ?_ | refine wpS_exit ?_ | refine wpS_ret ?_))
      refine run_cR ρb [PB, QN] (string_spec (packS l) hps) rfl rfl ⟨rfl, rfl, trivial⟩ rfl ?_
      (repeat (first | refine wpS_seq ?_ | refine wpS_reg ?_ | refine run_step rfl (by ((repeat' (first | exact aN | refine aC ?_ ?_ | intro _)) <;> first | assumption | omega | (simp only [obS] at *; omega) | (intros; first | rfl | assumption | omega | simp_all; done))) ?_ | refine run_nil ?_ | refine wpS_block ?_ | refine wpS_skip ?_ | refine wpS_exit ?_ | refine wpS_ret ?_))
      refine fin_mk rfl ?_; (repeat' (first | exact aN | refine aC ?_ ?_))
      all_goals first | rfl | exact ⟨rfl, fun _ _ => rfl⟩
end Go.Proofs
end
/- part BkEnc -/
section
namespace Go.Proofs
open Go.Av Go.Pu
theorem pack_spec' (l : List (List UInt8)) (n : Nat) (f : Nat → List AV) (hn : n = l.length) (hf : ∀ i, i < n → f i = strA (l.getD i default)) (h0 : l ≠ []) (hl : l.length ≤ 4096) (hs : (packS l).length ≤ 30000) (hI : ∀ s ∈ l, ItoaOK s.length) : Spec0 Tryz.prog 58 [.sl 1 n f] (.tup [.str (packS l), .int .i64 0]) :=
  spec0_leA (pack_spec l h0 hl hs hI) ⟨⟨hn, hf⟩, trivial⟩
def accS (b : Bool) : List UInt8 := bif b then [49] else [48]
def encL (e : Ev) : List (List UInt8) := [itoaS e.kind.toNat, e.key.stu, e.key.ex, itoaS e.key.att.toNat, itoaS e.tick.toNat, itoaS e.ver.toNat, itoaS e.hun.toNat, e.text, accS e.acc]
theorem itoaI {n : Int} (h0 : 0 ≤ n) (h : ItoaOK n.toNat) : Spec0 Tryz.prog 67 [.int .i64 n] (.str (itoaS n.toNat)) := by
  have := h
  unfold ItoaOK at this
  rwa [Int.toNat_of_nonneg h0] at this
set_option maxRecDepth 20000 in
theorem encode_spec (e : Ev) (hv : validEv e = true) (hl : ∀ s ∈ encL e, ItoaOK s.length) (hs : (packS (encL e)).length ≤ 30000) (h1 : ItoaOK e.kind.toNat) (h2 : ItoaOK e.key.att.toNat) (h3 : ItoaOK e.tick.toNat) (h4 : ItoaOK e.ver.toNat) (h5 : ItoaOK e.hun.toNat) :
    Spec0 Tryz.prog 38 [.agg (evA e)] (.tup [.str (packS (encL e)), .int .i64 0]) := by
  have hm := validEv_smK hv
  have k1 := (validEv_kind hv).1
  have k3 := (validEv_tick hv).1
  have k2 : 0 ≤ e.key.att := by
    have := validEv_key hv
    simp only [keyB, Bool.and_eq_true, decide_eq_true_eq] at this
    omega
  have k45 : 0 ≤ e.ver ∧ 0 ≤ e.hun := by
    by_cases hk : e.kind = 1
    · have := hv
      simp only [validEv, Bool.and_eq_true, if_pos hk, decide_eq_true_eq] at this
      omega
    · have := validEv_else hv hk
      omega
  refine spec0 ok38 rfl fun C _ => ?_
  (repeat (first | refine wpS_seq ?_ | refine wpS_reg ?_ | refine run_step rfl (by ((repeat' (first | exact aN | refine aC ?_ ?_ | intro _)) <;> first | assumption | omega | (simp only [obS] at *; omega) | (intros; first | rfl | assumption | omega | simp_all; done))) ?_ | refine run_nil ?_ | refine wpS_block ?_ | refine wpS_skip ?_ | refine wpS_exit ?_ | refine wpS_ret ?_))
  refine run_c ((validEvent_spec e hm.1 hm.2)) rfl (by ((repeat' (first | exact aN | refine aC ?_ ?_ | intro _)) <;> first | assumption | omega | (simp only [obS] at *; omega) | (intros; first | rfl | assumption | omega | simp_all; done))) rfl rfl (.inl rfl) ?_
  rw [hv]
  (repeat (first | refine wpS_seq ?_ | refine wpS_reg ?_ | refine run_step rfl (by ((repeat' (first | exact aN | refine aC ?_ ?_ | intro _)) <;> first | assumption | omega | (simp only [obS] at *; omega) | (intros; first | rfl | assumption | omega | simp_all; done))) ?_ | refine run_nil ?_ | refine wpS_block ?_ | refine wpS_skip ?_ | refine wpS_exit ?_ | refine wpS_ret ?_))
  refine wpS_condF rfl (by ((repeat' (first | exact aN | refine aC ?_ ?_ | intro _)) <;> first | assumption | omega | (simp only [obS] at *; omega) | (intros; first | rfl | assumption | omega | simp_all; done))) ?_
  (repeat (first | refine wpS_seq ?_ | refine wpS_reg ?_ | refine run_step rfl (by ((repeat' (first | exact aN | refine aC ?_ ?_ | intro _)) <;> first | assumption | omega | (simp only [obS] at *; omega) | (intros; first | rfl | assumption | omega | simp_all; done))) ?_ | refine run_nil ?_ | refine wpS_block ?_ | refine wpS_skip ?_ | refine wpS_exit ?_ | refine wpS_ret ?_))
  refine wpS_join (fun _ : Unit => True) (fun _ => ⟨[(1, .loc 1 0), (2, .str []), (3, .int .i64 0), (4, .str (accS e.acc))], [(1, .blk 26 (evA e))]⟩) ?_ ?_
  · refine wpS_cond rfl (by ((repeat' (first | exact aN | refine aC ?_ ?_ | intro _)) <;> first | assumption | omega | (simp only [obS] at *; omega) | (intros; first | rfl | assumption | omega | simp_all; done))) (fun h => ?_) (fun h => ?_)
    · (repeat (first | refine wpS_seq ?_ | refine wpS_reg ?_ | refine run_step rfl (by ((repeat' (first | exact aN | refine aC ?_ ?_ | intro _)) <;> first | assumption | omega | (simp only [obS] at *; omega) | (intros; first | rfl | assumption | omega | simp_all; done))) ?_ | refine run_nil ?_ | refine wpS_block ?_ | refine wpS_skip ?_ | refine wpS_exit ?_ | refine wpS_ret ?_))
      refine ⟨(), trivial, ?_⟩
      refine ent_le ?_; (repeat' (first | exact aN | refine aC ?_ ?_)) <;> first | rfl | (show (_ : List UInt8) = _; unfold accS; rw [show e.acc = true from h]; rfl)
    · (repeat (first | refine wpS_seq ?_ | refine wpS_reg ?_ | refine run_step rfl (by ((repeat' (first | exact aN | refine aC ?_ ?_ | intro _)) <;> first | assumption | omega | (simp only [obS] at *; omega) | (intros; first | rfl | assumption | omega | simp_all; done))) ?_ | refine run_nil ?_ | refine wpS_block ?_ | refine wpS_skip ?_ | refine wpS_exit ?_ | refine wpS_ret ?_))
      refine ⟨(), trivial, ?_⟩
      refine ent_le ?_; (repeat' (first | exact aN | refine aC ?_ ?_)) <;> first | rfl | (show (_ : List UInt8) = _; unfold accS; rw [show e.acc = false from h]; rfl)
  intro _ _
  (repeat (first | refine wpS_seq ?_ | refine wpS_reg ?_ | refine run_step rfl (by ((repeat' (first | exact aN | refine aC ?_ ?_ | intro _)) <;> first | assumption | omega | (simp only [obS] at *; omega) | (intros; first | rfl | assumption | omega | simp_all; done))) ?_ | refine run_nil ?_ | refine wpS_block ?_ | refine wpS_skip ?_ | refine wpS_exit ?_ | refine wpS_ret ?_))
  refine wpS_D (by kernel_rfl) ?_
  (repeat (refine trg_step rfl (by ((repeat' (first | exact aN | refine aC ?_ ?_ | intro _)) <;> first | assumption | omega | (simp only [obS] at *; omega) | (intros; first | rfl | assumption | omega | simp_all; done))) ?_))
  refine trg_c ((itoaI k1 h1)) rfl (by ((repeat' (first | exact aN | refine aC ?_ ?_ | intro _)) <;> first | assumption | omega | (simp only [obS] at *; omega) | (intros; first | rfl | assumption | omega | simp_all; done))) rfl rfl (.inl rfl) ?_
  (repeat (refine trg_step rfl (by ((repeat' (first | exact aN | refine aC ?_ ?_ | intro _)) <;> first | assumption | omega | (simp only [obS] at *; omega) | (intros; first | rfl | assumption | omega | simp_all; done))) ?_))
  refine trg_c ((itoaI k2 h2)) rfl (by ((repeat' (first | exact aN | refine aC ?_ ?_ | intro _)) <;> first | assumption | omega | (simp only [obS] at *; omega) | (intros; first | rfl | assumption | omega | simp_all; done))) rfl rfl (.inl rfl) ?_
  (repeat (refine trg_step rfl (by ((repeat' (first | exact aN | refine aC ?_ ?_ | intro _)) <;> first | assumption | omega | (simp only [obS] at *; omega) | (intros; first | rfl | assumption | omega | simp_all; done))) ?_))
  refine trg_c ((itoaI k3 h3)) rfl (by ((repeat' (first | exact aN | refine aC ?_ ?_ | intro _)) <;> first | assumption | omega | (simp only [obS] at *; omega) | (intros; first | rfl | assumption | omega | simp_all; done))) rfl rfl (.inl rfl) ?_
  (repeat (refine trg_step rfl (by ((repeat' (first | exact aN | refine aC ?_ ?_ | intro _)) <;> first | assumption | omega | (simp only [obS] at *; omega) | (intros; first | rfl | assumption | omega | simp_all; done))) ?_))
  refine trg_c ((itoaI k45.1 h4)) rfl (by ((repeat' (first | exact aN | refine aC ?_ ?_ | intro _)) <;> first | assumption | omega | (simp only [obS] at *; omega) | (intros; first | rfl | assumption | omega | simp_all; done))) rfl rfl (.inl rfl) ?_
  (repeat (refine trg_step rfl (by ((repeat' (first | exact aN | refine aC ?_ ?_ | intro _)) <;> first | assumption | omega | (simp only [obS] at *; omega) | (intros; first | rfl | assumption | omega | simp_all; done))) ?_))
  refine trg_c ((itoaI k45.2 h5)) rfl (by ((repeat' (first | exact aN | refine aC ?_ ?_ | intro _)) <;> first | assumption | omega | (simp only [obS] at *; omega) | (intros; first | rfl | assumption | omega | simp_all; done))) rfl rfl (.inl rfl) ?_
  (repeat (refine trg_step rfl (by ((repeat' (first | exact aN | refine aC ?_ ?_ | intro _)) <;> first | assumption | omega | (simp only [obS] at *; omega) | (intros; first | rfl | assumption | omega | simp_all; done))) ?_))
  refine trg_c ((pack_spec' (encL e) 9 (nth ((encL e).map strA)) (by simp [encL]) (fun i hi => (by match i, hi with | 0, _ | 1, _ | 2, _ | 3, _ | 4, _ | 5, _ | 6, _ | 7, _ | 8, _ => rfl)) (by unfold encL; simp) (by unfold encL; simp) hs hl)) rfl (by ((repeat' (first | exact aN | refine aC ?_ ?_ | intro _)) <;> first | assumption | omega | (simp only [obS] at *; omega) | (intros; first | rfl | assumption | omega | simp_all; done))) rfl rfl (.inl rfl) ?_
  (repeat (refine trg_step rfl (by ((repeat' (first | exact aN | refine aC ?_ ?_ | intro _)) <;> first | assumption | omega | (simp only [obS] at *; omega) | (intros; first | rfl | assumption | omega | simp_all; done))) ?_))
  refine trg_nil ⟨rfl, ?_⟩
  (repeat (first | refine wpS_seq ?_ | refine wpS_reg ?_ | refine run_step rfl (by ((repeat' (first | exact aN | refine aC ?_ ?_ | intro _)) <;> first | assumption | omega | (simp only [obS] at *; omega) | (intros; first | rfl | assumption | omega | simp_all; done))) ?_ | refine run_nil ?_ | refine wpS_block ?_ | refine wpS_skip ?_ | refine wpS_exit ?_ | refine wpS_ret ?_))
  refine fin_mk rfl ?_; (repeat' (first | exact aN | refine aC ?_ ?_))
  all_goals rfl
end Go.Proofs
end
/- part BkAwake -/
section
namespace Go.Proofs
open Go.Av Go.Pu
def awK : K := ⟨[97, 100, 97], [102, 105, 98], 1⟩
def aw1 : Ev := ⟨0, awK, 3, 0, 0, [], false⟩
def aw2 : Ev := ⟨1, awK, 5, 1, 750, [], false⟩
def aw3 : Ev := ⟨1, awK, 5, 1, 800, [], false⟩
def aw4 : Ev := ⟨1, awK, 5, 2, 800, [], false⟩
def awB1 : Bk := ⟨3, [⟨awK, 3, [], [], []⟩]⟩
def awB2 : Bk := ⟨5, [⟨awK, 3, [], [⟨1, 750, 5, []⟩], []⟩]⟩
def awB4 : Bk := ⟨5, [⟨awK, 3, [], [⟨1, 750, 5, []⟩, ⟨2, 800, 5, []⟩], []⟩]⟩
theorem awE1 : applyX empty aw1 = (0, awB1) := by decide +kernel
theorem awE2 : applyX awB1 aw2 = (0, awB2) := by decide +kernel
theorem awE3 : applyX awB2 aw3 = (9, empty) := by decide +kernel
theorem awE4 : applyX awB2 aw4 = (0, awB4) := by decide +kernel
theorem awV : validEv aw1 = true := by decide +kernel
theorem sm_empty : Sm empty := ⟨by unfold SmV; decide, fun e he => by simp [empty, evsBk, evsRaw, sortS] at he⟩
theorem sm_dec {b : Bk} (h1 : (evsRaw b.ens).length ≤ 1000000) (h2 : ∀ e ∈ evsRaw b.ens, validEv e = true) : Sm b := by
  refine ⟨h1, fun e he => ?_⟩
  unfold evsBk at he
  rw [mem_sortS] at he
  exact validEv_smK (h2 e he)
theorem sm_aw1 : Sm awB1 := sm_dec (by decide +kernel) (by decide +kernel)
theorem sm_aw2 : Sm awB2 := sm_dec (by decide +kernel) (by decide +kernel)
def awS : List UInt8 := [49, 58, 48, 51, 58, 97, 100, 97, 51, 58, 102, 105, 98, 49, 58, 49, 49, 58, 51, 49, 58, 48, 49, 58, 48, 48, 58, 49, 58, 48]
theorem itoaS_eq {n : Nat} (h : n < 100) : itoaS n = smallS n := (itoaS_small h).symm
theorem awP : packS (encL aw1) = awS := by
  unfold encL packS
  simp only [List.flatMap_cons, List.flatMap_nil, packF]
  rw [show aw1.kind.toNat = 0 from rfl, show aw1.key.att.toNat = 1 from rfl, show aw1.tick.toNat = 3 from rfl, show aw1.ver.toNat = 0 from rfl, show aw1.hun.toNat = 0 from rfl]
  rw [itoaS_eq (n := 0) (by omega), itoaS_eq (n := 1) (by omega), itoaS_eq (n := 3) (by omega), itoaS_eq (by decide +kernel), itoaS_eq (by decide +kernel), itoaS_eq (by decide +kernel), itoaS_eq (by decide +kernel), itoaS_eq (by decide +kernel), itoaS_eq (by decide +kernel)]
  decide +kernel
theorem awI (n : Nat) (h : n < 100) : ItoaOK n := itoaOK_small h
theorem awL : ∀ s ∈ encL aw1, s.length < 100 := by
  unfold encL
  rw [show aw1.kind.toNat = 0 from rfl, show aw1.key.att.toNat = 1 from rfl, show aw1.tick.toNat = 3 from rfl, show aw1.ver.toNat = 0 from rfl, show aw1.hun.toNat = 0 from rfl]
  rw [itoaS_eq (n := 0) (by omega), itoaS_eq (n := 1) (by omega), itoaS_eq (n := 3) (by omega)]
  decide +kernel
theorem smK_aw (e : Ev) (h : e.key = awK) : SmK e := by
  unfold SmK
  rw [h]
  exact ⟨by decide, by decide⟩
theorem awake_spec : Spec0 Tryz.prog 11 [] (.bool true) := by
  refine spec0 ok11 rfl fun C _ => ?_
  (repeat (first | refine wpS_seq ?_ | refine wpS_reg ?_ | refine run_step rfl (by ((repeat' (first | exact aN | refine aC ?_ ?_ | intro _)) <;> first | assumption | omega | (simp only [obS] at *; omega) | (intros; first | rfl | assumption | omega | simp_all; done))) ?_ | refine run_nil ?_ | refine wpS_block ?_ | refine wpS_skip ?_ | refine wpS_exit ?_ | refine wpS_ret ?_))
  refine run_c ((spec0_leA (args' := [.agg [.int .i64 0, .nils], .agg (evA aw1)]) (applyX_spec empty aw1 sm_empty (smK_aw _ rfl)) (by (repeat' (first | exact allP_nil | refine allP_cons ?_ ?_)) <;> first | rfl | exact ⟨rfl, fun _ hi => absurd hi (Nat.not_lt_zero _)⟩))) rfl (by ((repeat' (first | exact aN | refine aC ?_ ?_ | intro _)) <;> first | assumption | omega | (simp only [obS] at *; omega) | (intros; first | rfl | assumption | omega | simp_all; done))) rfl rfl (.inr rfl) ?_
  rw [awE1]
  (repeat (first | refine wpS_seq ?_ | refine wpS_reg ?_ | refine run_step rfl (by ((repeat' (first | exact aN | refine aC ?_ ?_ | intro _)) <;> first | assumption | omega | (simp only [obS] at *; omega) | (intros; first | rfl | assumption | omega | simp_all; done))) ?_ | refine run_nil ?_ | refine wpS_block ?_ | refine wpS_skip ?_ | refine wpS_exit ?_ | refine wpS_ret ?_))
  refine run_c ((applyX_spec awB1 aw2 sm_aw1 (smK_aw _ rfl))) rfl (by ((repeat' (first | exact aN | refine aC ?_ ?_ | intro _)) <;> first | assumption | omega | (simp only [obS] at *; omega) | (intros; first | rfl | assumption | omega | simp_all; done))) rfl rfl (.inr rfl) ?_
  rw [awE2]
  (repeat (first | refine wpS_seq ?_ | refine wpS_reg ?_ | refine run_step rfl (by ((repeat' (first | exact aN | refine aC ?_ ?_ | intro _)) <;> first | assumption | omega | (simp only [obS] at *; omega) | (intros; first | rfl | assumption | omega | simp_all; done))) ?_ | refine run_nil ?_ | refine wpS_block ?_ | refine wpS_skip ?_ | refine wpS_exit ?_ | refine wpS_ret ?_))
  refine run_c ((applyX_spec awB2 aw3 sm_aw2 (smK_aw _ rfl))) rfl (by ((repeat' (first | exact aN | refine aC ?_ ?_ | intro _)) <;> first | assumption | omega | (simp only [obS] at *; omega) | (intros; first | rfl | assumption | omega | simp_all; done))) rfl rfl (.inr rfl) ?_
  rw [awE3]
  (repeat (first | refine wpS_seq ?_ | refine wpS_reg ?_ | refine run_step rfl (by ((repeat' (first | exact aN | refine aC ?_ ?_ | intro _)) <;> first | assumption | omega | (simp only [obS] at *; omega) | (intros; first | rfl | assumption | omega | simp_all; done))) ?_ | refine run_nil ?_ | refine wpS_block ?_ | refine wpS_skip ?_ | refine wpS_exit ?_ | refine wpS_ret ?_))
  refine run_c ((applyX_spec awB2 aw4 sm_aw2 (smK_aw _ rfl))) rfl (by ((repeat' (first | exact aN | refine aC ?_ ?_ | intro _)) <;> first | assumption | omega | (simp only [obS] at *; omega) | (intros; first | rfl | assumption | omega | simp_all; done))) rfl rfl (.inr rfl) ?_
  rw [awE4]
  (repeat (first | refine wpS_seq ?_ | refine wpS_reg ?_ | refine run_step rfl (by ((repeat' (first | exact aN | refine aC ?_ ?_ | intro _)) <;> first | assumption | omega | (simp only [obS] at *; omega) | (intros; first | rfl | assumption | omega | simp_all; done))) ?_ | refine run_nil ?_ | refine wpS_block ?_ | refine wpS_skip ?_ | refine wpS_exit ?_ | refine wpS_ret ?_))
  refine run_c ((encode_spec aw1 awV (fun s hs => awI _ (awL s hs)) (by rw [awP]; decide) (awI _ (by decide)) (awI _ (by decide)) (awI _ (by decide)) (awI _ (by decide)) (awI _ (by decide)))) rfl (by ((repeat' (first | exact aN | refine aC ?_ ?_ | intro _)) <;> first | assumption | omega | (simp only [obS] at *; omega) | (intros; first | rfl | assumption | omega | simp_all; done))) rfl rfl (.inl rfl) ?_
  rw [awP]
  (repeat (first | refine wpS_seq ?_ | refine wpS_reg ?_ | refine run_step rfl (by ((repeat' (first | exact aN | refine aC ?_ ?_ | intro _)) <;> first | assumption | omega | (simp only [obS] at *; omega) | (intros; first | rfl | assumption | omega | simp_all; done))) ?_ | refine run_nil ?_ | refine wpS_block ?_ | refine wpS_skip ?_ | refine wpS_exit ?_ | refine wpS_ret ?_))
  refine fin_mk rfl ?_; (repeat' (first | exact aN | refine aC ?_ ?_))
  all_goals rfl
end Go.Proofs
end
/- part BkFewX -/
section
namespace Go.Proofs
open Go.Av Go.Pu
theorem few_smK {l : List Ev} {m : Int} (h : fewB l m = true) : (∀ e ∈ l, SmK e) ∧ (l.length : Int) ≤ m := by
  simp only [fewB, Bool.and_eq_true, decide_eq_true_eq, List.all_eq_true] at h
  refine ⟨fun e he => ?_, h.2⟩
  have := h.1 e he
  simp only [fewE, Bool.and_eq_true, decide_eq_true_eq] at this
  exact ⟨Nat.le_trans this.2.1 (by decide), Nat.le_trans this.2.2 (by decide)⟩
theorem few_one (x : Ev) (n : Nat) (f : Nat → List AV) (m : Int) (hn : n = 1) (hf : ∀ i, i < n → f i = evA x) : Spec0 Tryz.prog 12 [.sl 9 n f, .int .i64 m] (.bool (fewB [x] m)) := by
  refine spec0_leA (few_spec [x] m (by simp)) ⟨⟨hn, fun i hi => ?_⟩, rfl, trivial⟩
  rw [hf i hi]
  subst hn
  cases i with
  | zero => rfl
  | succ i => omega
end Go.Proofs
end
/- part BkAtC -/
section
namespace Go.Proofs
open Go.Av Go.Pu
@[reducible] def atA (a : At) : List AV := [.int .i64 a.num, .int .i64 a.tick, .int .i64 a.hun]
@[reducible] def arA (r : AR) : List AV := [.int .i64 r.kind, .int .i64 r.most, .int .i64 r.pause, .int .i64 r.keep]
theorem atcmp_spec (a b : At) : Spec0 Tryz.prog 130 [.agg (atA a), .agg (atA b)] (.int .i64 (cmpI a.rank b.rank)) := by
  refine spec0 ok130 rfl fun C _ => ?_
  (repeat (first | refine wpS_seq ?_ | refine wpS_reg ?_ | refine run_step rfl (by ((repeat' (first | exact aN | refine aC ?_ ?_ | intro _)) <;> first | assumption | omega | (simp only [obS] at *; omega) | (intros; first | rfl | assumption | omega | simp_all; done))) ?_ | refine run_nil ?_ | refine wpS_block ?_ | refine wpS_skip ?_ | refine wpS_exit ?_ | refine wpS_ret ?_))
  refine run_c ((cmp_spec b.hun a.hun)) rfl (by ((repeat' (first | exact aN | refine aC ?_ ?_ | intro _)) <;> first | assumption | omega | (simp only [obS] at *; omega) | (intros; first | rfl | assumption | omega | simp_all; done))) rfl rfl (.inl rfl) ?_
  (repeat (first | refine wpS_seq ?_ | refine wpS_reg ?_ | refine run_step rfl (by ((repeat' (first | exact aN | refine aC ?_ ?_ | intro _)) <;> first | assumption | omega | (simp only [obS] at *; omega) | (intros; first | rfl | assumption | omega | simp_all; done))) ?_ | refine run_nil ?_ | refine wpS_block ?_ | refine wpS_skip ?_ | refine wpS_exit ?_ | refine wpS_ret ?_))
  refine fin_mk rfl ?_; (repeat' (first | exact aN | refine aC ?_ ?_))
  unfold cmpI At.rank
  repeat' split
  all_goals first | rfl | omega
theorem atTime_spec (t : Int) : Spec0 Tryz.prog 108 [.int .i64 t] (.bool (timeB t)) := by
  refine spec0 ok108 rfl fun C _ => ?_
  (repeat (first | refine wpS_seq ?_ | refine wpS_reg ?_ | refine run_step rfl (by ((repeat' (first | exact aN | refine aC ?_ ?_ | intro _)) <;> first | assumption | omega | (simp only [obS] at *; omega) | (intros; first | rfl | assumption | omega | simp_all; done))) ?_ | refine run_nil ?_ | refine wpS_block ?_ | refine wpS_skip ?_ | refine wpS_exit ?_ | refine wpS_ret ?_))
  refine fin_mk rfl ?_; (repeat' (first | exact aN | refine aC ?_ ?_))
  unfold timeB
  cases decide (0 ≤ t) <;> simp
theorem atRight_spec (r : AR) : Spec0 Tryz.prog 107 [.agg (arA r)] (.bool (rightB r)) := by
  obtain ⟨kind, most, pause, keep⟩ := r
  refine spec0 ok107 rfl fun C _ => ?_
  (repeat (first | refine wpS_seq ?_ | refine wpS_reg ?_ | refine run_step rfl (by ((repeat' (first | exact aN | refine aC ?_ ?_ | intro _)) <;> first | assumption | omega | (simp only [obS] at *; omega) | (intros; first | rfl | assumption | omega | simp_all; done))) ?_ | refine run_nil ?_ | refine wpS_block ?_ | refine wpS_skip ?_ | refine wpS_exit ?_ | refine wpS_ret ?_))
  refine run_cg rfl (fun hG => ((atTime_spec pause))) rfl (fun hG => by ((repeat' (first | exact aN | refine aC ?_ ?_ | intro _)) <;> first | assumption | omega | (simp only [obS] at *; omega) | (intros; first | rfl | assumption | omega | simp_all; done))) rfl rfl (.inl rfl) ?_
  (repeat (first | refine wpS_seq ?_ | refine wpS_reg ?_ | refine run_step rfl (by ((repeat' (first | exact aN | refine aC ?_ ?_ | intro _)) <;> first | assumption | omega | (simp only [obS] at *; omega) | (intros; first | rfl | assumption | omega | simp_all; done))) ?_ | refine run_nil ?_ | refine wpS_block ?_ | refine wpS_skip ?_ | refine wpS_exit ?_ | refine wpS_ret ?_))
  refine wpS_cond rfl (by ((repeat' (first | exact aN | refine aC ?_ ?_ | intro _)) <;> first | assumption | omega | (simp only [obS] at *; omega) | (intros; first | rfl | assumption | omega | simp_all; done))) (fun h => ?_) (fun h => ?_)
  · (repeat (first | refine wpS_seq ?_ | refine wpS_reg ?_ | refine run_step rfl (by ((repeat' (first | exact aN | refine aC ?_ ?_ | intro _)) <;> first | assumption | omega | (simp only [obS] at *; omega) | (intros; first | rfl | assumption | omega | simp_all; done))) ?_ | refine run_nil ?_ | refine wpS_block ?_ | refine wpS_skip ?_ | refine wpS_exit ?_ | refine wpS_ret ?_))
    refine fin_mk rfl ?_; (repeat' (first | exact aN | refine aC ?_ ?_))
    unfold rightB
    dsimp only
    revert h
    cases timeB pause <;> by_cases h1 : kind < 0 <;> by_cases h2 : 2 < kind <;> by_cases h3 : most < 1 <;> by_cases h4 : 16 < most <;> simp [h1, h2, h3, h4] <;> omega
  have hx : timeB pause = true ∧ 0 ≤ kind ∧ kind ≤ 2 ∧ 1 ≤ most ∧ most ≤ 16 := by
    revert h
    cases timeB pause <;> by_cases h1 : kind < 0 <;> by_cases h2 : 2 < kind <;> by_cases h3 : most < 1 <;> by_cases h4 : 16 < most <;> simp [h1, h2, h3, h4] <;> omega
  clear h
  obtain ⟨q1, q2, q3, q4, q5⟩ := hx
  (repeat (first | refine wpS_seq ?_ | refine wpS_reg ?_ | refine run_step rfl (by ((repeat' (first | exact aN | refine aC ?_ ?_ | intro _)) <;> first | assumption | omega | (simp only [obS] at *; omega) | (intros; first | rfl | assumption | omega | simp_all; done))) ?_ | refine run_nil ?_ | refine wpS_block ?_ | refine wpS_skip ?_ | refine wpS_exit ?_ | refine wpS_ret ?_))
  refine wpS_cond rfl (by ((repeat' (first | exact aN | refine aC ?_ ?_ | intro _)) <;> first | assumption | omega | (simp only [obS] at *; omega) | (intros; first | rfl | assumption | omega | simp_all; done))) (fun h => ?_) (fun h => ?_)
  · have hk : ¬ kind = 2 := by simpa using h
    (repeat (first | refine wpS_seq ?_ | refine wpS_reg ?_ | refine run_step rfl (by ((repeat' (first | exact aN | refine aC ?_ ?_ | intro _)) <;> first | assumption | omega | (simp only [obS] at *; omega) | (intros; first | rfl | assumption | omega | simp_all; done))) ?_ | refine run_nil ?_ | refine wpS_block ?_ | refine wpS_skip ?_ | refine wpS_exit ?_ | refine wpS_ret ?_))
    refine fin_mk rfl ?_; (repeat' (first | exact aN | refine aC ?_ ?_))
    unfold rightB
    simp [q1, q2, q3, q4, q5, hk]
    rw [Bool.eq_iff_iff, beq_iff_eq, decide_eq_true_eq]
  · have hk : kind = 2 := by simpa using h
    (repeat (first | refine wpS_seq ?_ | refine wpS_reg ?_ | refine run_step rfl (by ((repeat' (first | exact aN | refine aC ?_ ?_ | intro _)) <;> first | assumption | omega | (simp only [obS] at *; omega) | (intros; first | rfl | assumption | omega | simp_all; done))) ?_ | refine run_nil ?_ | refine wpS_block ?_ | refine wpS_skip ?_ | refine wpS_exit ?_ | refine wpS_ret ?_))
    refine fin_mk rfl ?_; (repeat' (first | exact aN | refine aC ?_ ?_))
    unfold rightB
    simp only [q1, hk, q4, q5]
    by_cases h1 : 1 ≤ keep <;> simp [h1]
end Go.Proofs
end
/- part BkAtS -/
section
namespace Go.Proofs
open Go.Av Go.Pu
theorem atswap_spec (c : Nat → At) (n a b m : Nat) (h1 : a + m ≤ b) (h2 : b + m ≤ n) (hn : n ≤ maxL) : SpecR Tryz.prog 198 [.ref PB, .int .i64 (a : Nat), .int .i64 (b : Nat), .int .i64 (m : Nat), .fn 130 []] [(PB, .row 57 3 n fun t => atA (c t))] (.tup []) [(PB, .row 57 3 n fun t => atA (swapC c a b m t))] := by
  rw [maxL_eq] at hn
  refine specR ok198 fun C _ => ?_
  (repeat (first | refine wpS_seq ?_ | refine wpS_reg ?_ | refine run_step rfl (by ((repeat' (first | exact aN | refine aC ?_ ?_ | intro _)) <;> first | assumption | omega | (simp only [obS] at *; omega) | (intros; first | rfl | assumption | omega | simp_all; done))) ?_ | refine run_nil ?_ | refine wpS_block ?_ | refine wpS_skip ?_ | refine wpS_exit ?_ | refine wpS_ret ?_))
  refine wpS_loop (fun i => i ≤ m) (fun i => ⟨[(0, .ref PB), (1, .int .i64 (a : Nat)), (2, .int .i64 (b : Nat)), (3, .int .i64 (m : Nat)), (10, .int .i64 (i : Nat))], [(PB, .row 57 3 n fun t => atA (swapC c a b i t))]⟩) (fun i => m - i) 0 (by omega) (by refine ent_le ?_; (repeat' (first | exact aN | refine aC ?_ ?_)) <;> first | rfl | exact ⟨rfl, fun t _ => by rw [swapC_zero]⟩) ?_
  rintro i hi
  (repeat (first | refine wpS_seq ?_ | refine wpS_reg ?_ | refine run_step rfl (by ((repeat' (first | exact aN | refine aC ?_ ?_ | intro _)) <;> first | assumption | omega | (simp only [obS] at *; omega) | (intros; first | rfl | assumption | omega | simp_all; done))) ?_ | refine run_nil ?_ | refine wpS_block ?_ | refine wpS_skip ?_ | refine wpS_exit ?_ | refine wpS_ret ?_))
  refine wpS_cond rfl (by ((repeat' (first | exact aN | refine aC ?_ ?_ | intro _)) <;> first | assumption | omega | (simp only [obS] at *; omega) | (intros; first | rfl | assumption | omega | simp_all; done))) (fun h => ?_) (fun h => ?_)
  · have hlt : i < m := by simpa using h
    (repeat (first | refine wpS_seq ?_ | refine wpS_reg ?_ | refine run_step rfl (by ((repeat' (first | exact aN | refine aC ?_ ?_ | intro _)) <;> first | assumption | omega | (simp only [obS] at *; omega) | (intros; first | rfl | assumption | omega | simp_all; done))) ?_ | refine run_nil ?_ | refine wpS_block ?_ | refine wpS_skip ?_ | refine wpS_exit ?_ | refine wpS_ret ?_))
    refine wpS_D (by kernel_rfl) ?_; (repeat (refine trg_step rfl (by ((repeat' (first | exact aN | refine aC ?_ ?_ | intro _)) <;> first | assumption | omega | (simp only [obS] at *; omega) | (intros; first | rfl | assumption | omega | simp_all; done))) ?_)); refine trg_nil ⟨rfl, ?_⟩
    (repeat (first | refine wpS_seq ?_ | refine wpS_reg ?_ | refine run_step rfl (by ((repeat' (first | exact aN | refine aC ?_ ?_ | intro _)) <;> first | assumption | omega | (simp only [obS] at *; omega) | (intros; first | rfl | assumption | omega | simp_all; done))) ?_ | refine run_nil ?_ | refine wpS_block ?_ | refine wpS_skip ?_ | refine wpS_exit ?_ | refine wpS_ret ?_))
    refine ⟨i + 1, by omega, by dsimp only; omega, ?_⟩
    refine ent_le ?_; (repeat' (first | exact aN | refine aC ?_ ?_)) <;> first | rfl | (refine ⟨rfl, fun t _ => ?_⟩)
    have e1 : ((b : Int) + (i : Int)).toNat = b + i := by omega
    have e2 : ((a : Int) + (i : Int)).toNat = a + i := by omega
    simp only [e1, e2, stored_eq, swapC_succ c (show a + i < b by omega) t]
    by_cases t1 : t = b + i
    · have t2 : ¬ t = a + i := by omega
      simp only [if_pos t1, if_neg t2]; rfl
    · by_cases t2 : t = a + i
      · simp only [if_neg t1, if_pos t2]; rfl
      · simp only [if_neg t1, if_neg t2]
  · have hlt : i = m := by simp at h; omega
    subst hlt
    (repeat (first | refine wpS_seq ?_ | refine wpS_reg ?_ | refine run_step rfl (by ((repeat' (first | exact aN | refine aC ?_ ?_ | intro _)) <;> first | assumption | omega | (simp only [obS] at *; omega) | (intros; first | rfl | assumption | omega | simp_all; done))) ?_ | refine run_nil ?_ | refine wpS_block ?_ | refine wpS_skip ?_ | refine wpS_exit ?_ | refine wpS_ret ?_))
    refine fin_mkR rfl ?_ ?_ <;> (repeat' (first | exact aN | refine aC ?_ ?_))
    exact ⟨rfl, fun _ _ => rfl⟩
theorem atrot_spec (c : Nat → At) (n a m b : Nat) (h1 : a < m) (h2 : m < b) (h3 : b ≤ n) (hn : n ≤ maxL) : SpecR Tryz.prog 194 [.ref PB, .int .i64 (a : Nat), .int .i64 (m : Nat), .int .i64 (b : Nat), .fn 130 []] [(PB, .row 57 3 n fun t => atA (c t))] (.tup []) [(PB, .row 57 3 n fun t => atA (rotC c a m b t))] := by
  have hn' := hn
  rw [maxL_eq] at hn'
  refine specR ok194 fun C _ => ?_
  (repeat (first | refine wpS_seq ?_ | refine wpS_reg ?_ | refine run_step rfl (by ((repeat' (first | exact aN | refine aC ?_ ?_ | intro _)) <;> first | assumption | omega | (simp only [obS] at *; omega) | (intros; first | rfl | assumption | omega | simp_all; done))) ?_ | refine run_nil ?_ | refine wpS_block ?_ | refine wpS_skip ?_ | refine wpS_exit ?_ | refine wpS_ret ?_))
  refine wpS_loop (fun (p : Nat × Nat × (Nat → At)) => 0 < p.1 ∧ 0 < p.2.1 ∧ p.1 ≤ m ∧ m + p.2.1 ≤ n ∧ rotC p.2.2 (m - p.1) m (m + p.2.1) = rotC c a m b) (fun p => ⟨[(0, .ref PB), (2, .int .i64 (m : Nat)), (4, .fn 130 []), (10, .int .i64 (p.1 : Nat)), (11, .int .i64 (p.2.1 : Nat))], [(PB, .row 57 3 n fun t => atA (p.2.2 t))]⟩) (fun p => p.1 + p.2.1) (m - a, b - m, c)
    ⟨by dsimp only; omega, by dsimp only; omega, by dsimp only; omega, by dsimp only; omega, by dsimp only; rw [show m - (m - a) = a by omega, show m + (b - m) = b by omega]⟩ (by refine ent_le ?_; (repeat' (first | exact aN | refine aC ?_ ?_)) <;> first | rfl | (dsimp only; omega) | exact ⟨rfl, fun _ _ => rfl⟩) ?_
  rintro ⟨i, j, d⟩ ⟨p1, p2, p3, p4, p5⟩
  dsimp only at p1 p2 p3 p4 p5 ⊢
  (repeat (first | refine wpS_seq ?_ | refine wpS_reg ?_ | refine run_step rfl (by ((repeat' (first | exact aN | refine aC ?_ ?_ | intro _)) <;> first | assumption | omega | (simp only [obS] at *; omega) | (intros; first | rfl | assumption | omega | simp_all; done))) ?_ | refine run_nil ?_ | refine wpS_block ?_ | refine wpS_skip ?_ | refine wpS_exit ?_ | refine wpS_ret ?_))
  refine wpS_cond rfl (by ((repeat' (first | exact aN | refine aC ?_ ?_ | intro _)) <;> first | assumption | omega | (simp only [obS] at *; omega) | (intros; first | rfl | assumption | omega | simp_all; done))) (fun h => ?_) (fun h => ?_)
  · have hij : i ≠ j := fun e => by subst e; simp at h
    (repeat (first | refine wpS_seq ?_ | refine wpS_reg ?_ | refine run_step rfl (by ((repeat' (first | exact aN | refine aC ?_ ?_ | intro _)) <;> first | assumption | omega | (simp only [obS] at *; omega) | (intros; first | rfl | assumption | omega | simp_all; done))) ?_ | refine run_nil ?_ | refine wpS_block ?_ | refine wpS_skip ?_ | refine wpS_exit ?_ | refine wpS_ret ?_))
    refine wpS_cond rfl (by ((repeat' (first | exact aN | refine aC ?_ ?_ | intro _)) <;> first | assumption | omega | (simp only [obS] at *; omega) | (intros; first | rfl | assumption | omega | simp_all; done))) (fun h => ?_) (fun h => ?_)
    · have hlt : j < i := by simpa using h
      (repeat (first | refine wpS_seq ?_ | refine wpS_reg ?_ | refine run_step rfl (by ((repeat' (first | exact aN | refine aC ?_ ?_ | intro _)) <;> first | assumption | omega | (simp only [obS] at *; omega) | (intros; first | rfl | assumption | omega | simp_all; done))) ?_ | refine run_nil ?_ | refine wpS_block ?_ | refine wpS_skip ?_ | refine wpS_exit ?_ | refine wpS_ret ?_))
      have e1 : (m : Int) - (i : Int) = ((m - i : Nat) : Int) := by omega
      rw [e1]
      refine run_cR id [PB] (atswap_spec d n (m - i) m j (by omega) (by omega) hn) rfl rfl ⟨rfl, trivial⟩ rfl ?_
      (repeat (first | refine wpS_seq ?_ | refine wpS_reg ?_ | refine run_step rfl (by ((repeat' (first | exact aN | refine aC ?_ ?_ | intro _)) <;> first | assumption | omega | (simp only [obS] at *; omega) | (intros; first | rfl | assumption | omega | simp_all; done))) ?_ | refine run_nil ?_ | refine wpS_block ?_ | refine wpS_skip ?_ | refine wpS_exit ?_ | refine wpS_ret ?_))
      refine ⟨(i - j, j, swapC d (m - i) m j), ⟨by dsimp only; omega, p2, by dsimp only; omega, p4, ?_⟩, by dsimp only; omega, ?_⟩
      · dsimp only
        rw [← p5]
        exact rot_step1 d hlt p3
      · refine ent_le ?_; (repeat' (first | exact aN | refine aC ?_ ?_)) <;> first | rfl | (dsimp only; omega) | exact ⟨rfl, fun _ _ => rfl⟩
    · have hlt : i < j := by
        have : ¬ j < i := by simpa using h
        omega
      (repeat (first | refine wpS_seq ?_ | refine wpS_reg ?_ | refine run_step rfl (by ((repeat' (first | exact aN | refine aC ?_ ?_ | intro _)) <;> first | assumption | omega | (simp only [obS] at *; omega) | (intros; first | rfl | assumption | omega | simp_all; done))) ?_ | refine run_nil ?_ | refine wpS_block ?_ | refine wpS_skip ?_ | refine wpS_exit ?_ | refine wpS_ret ?_))
      have e1 : (m : Int) - (i : Int) = ((m - i : Nat) : Int) := by omega
      have e2 : (m : Int) + (j : Int) - (i : Int) = ((m + j - i : Nat) : Int) := by omega
      rw [e1, e2]
      refine run_cR id [PB] (atswap_spec d n (m - i) (m + j - i) i (by omega) (by omega) hn) rfl rfl ⟨rfl, trivial⟩ rfl ?_
      (repeat (first | refine wpS_seq ?_ | refine wpS_reg ?_ | refine run_step rfl (by ((repeat' (first | exact aN | refine aC ?_ ?_ | intro _)) <;> first | assumption | omega | (simp only [obS] at *; omega) | (intros; first | rfl | assumption | omega | simp_all; done))) ?_ | refine run_nil ?_ | refine wpS_block ?_ | refine wpS_skip ?_ | refine wpS_exit ?_ | refine wpS_ret ?_))
      refine ⟨(i, j - i, swapC d (m - i) (m + j - i) i), ⟨p1, by dsimp only; omega, p3, by dsimp only; omega, ?_⟩, by dsimp only; omega, ?_⟩
      · dsimp only
        rw [← p5]
        exact rot_step2 d hlt p3
      · refine ent_le ?_; (repeat' (first | exact aN | refine aC ?_ ?_)) <;> first | rfl | (dsimp only; omega) | exact ⟨rfl, fun _ _ => rfl⟩
  · have hij : i = j := by
      have : (i : Int) = (j : Int) := by simpa using h
      omega
    subst hij
    clear h
    (repeat (first | refine wpS_seq ?_ | refine wpS_reg ?_ | refine run_step rfl (by ((repeat' (first | exact aN | refine aC ?_ ?_ | intro _)) <;> first | assumption | omega | (simp only [obS] at *; omega) | (intros; first | rfl | assumption | omega | simp_all; done))) ?_ | refine run_nil ?_ | refine wpS_block ?_ | refine wpS_skip ?_ | refine wpS_exit ?_ | refine wpS_ret ?_))
    have e1 : (m : Int) - (i : Int) = ((m - i : Nat) : Int) := by omega
    rw [e1]
    refine run_cR id [PB] (atswap_spec d n (m - i) m i (by omega) (by omega) hn) rfl rfl ⟨rfl, trivial⟩ rfl ?_
    (repeat (first | refine wpS_seq ?_ | refine wpS_reg ?_ | refine run_step rfl (by ((repeat' (first | exact aN | refine aC ?_ ?_ | intro _)) <;> first | assumption | omega | (simp only [obS] at *; omega) | (intros; first | rfl | assumption | omega | simp_all; done))) ?_ | refine run_nil ?_ | refine wpS_block ?_ | refine wpS_skip ?_ | refine wpS_exit ?_ | refine wpS_ret ?_))
    refine fin_mkR rfl ?_ ?_ <;> (repeat' (first | exact aN | refine aC ?_ ?_))
    refine ⟨rfl, fun t _ => ?_⟩
    dsimp only
    rw [← p5, rot_end d p3]
theorem atins_spec (c : Nat → At) (n a b : Nat) (h1 : a ≤ b) (h2 : b ≤ n) (hn : n ≤ maxL) : SpecR Tryz.prog 182 [.ref PB, .int .i64 (a : Nat), .int .i64 (b : Nat), .fn 130 []] [(PB, .row 57 3 n fun t => atA (c t))] (.tup []) [(PB, .row 57 3 n fun t => atA (sortC At.rank c a b t))] := by
  rw [maxL_eq] at hn
  refine specR ok182 fun C _ => ?_
  (repeat (first | refine wpS_seq ?_ | refine wpS_reg ?_ | refine run_step rfl (by ((repeat' (first | exact aN | refine aC ?_ ?_ | intro _)) <;> first | assumption | omega | (simp only [obS] at *; omega) | (intros; first | rfl | assumption | omega | simp_all; done))) ?_ | refine run_nil ?_ | refine wpS_block ?_ | refine wpS_skip ?_ | refine wpS_exit ?_ | refine wpS_ret ?_))
  refine wpS_loop (fun i => a + 1 ≤ i ∧ (i ≤ b ∨ i = a + 1)) (fun i => ⟨[(0, .ref PB), (1, .int .i64 (a : Nat)), (2, .int .i64 (b : Nat)), (3, .fn 130 []), (8, .int .i64 (i : Nat))], [(PB, .row 57 3 n fun t => atA (sortC At.rank c a i t))]⟩) (fun i => b - i) (a + 1) ⟨by omega, by omega⟩
    (by refine ent_le ?_; (repeat' (first | exact aN | refine aC ?_ ?_)) <;> first | rfl | exact ⟨rfl, fun t _ => by rw [sortC_id (fun p q h1 h2 h3 => by omega)]⟩) ?_
  rintro i ⟨i1, i2⟩
  (repeat (first | refine wpS_seq ?_ | refine wpS_reg ?_ | refine run_step rfl (by ((repeat' (first | exact aN | refine aC ?_ ?_ | intro _)) <;> first | assumption | omega | (simp only [obS] at *; omega) | (intros; first | rfl | assumption | omega | simp_all; done))) ?_ | refine run_nil ?_ | refine wpS_block ?_ | refine wpS_skip ?_ | refine wpS_exit ?_ | refine wpS_ret ?_))
  refine wpS_cond rfl (by ((repeat' (first | exact aN | refine aC ?_ ?_ | intro _)) <;> first | assumption | omega | (simp only [obS] at *; omega) | (intros; first | rfl | assumption | omega | simp_all; done))) (fun h => ?_) (fun h => ?_)
  · have hlt : i < b := by simpa using h
    clear h
    (repeat (first | refine wpS_seq ?_ | refine wpS_reg ?_ | refine run_step rfl (by ((repeat' (first | exact aN | refine aC ?_ ?_ | intro _)) <;> first | assumption | omega | (simp only [obS] at *; omega) | (intros; first | rfl | assumption | omega | simp_all; done))) ?_ | refine run_nil ?_ | refine wpS_block ?_ | refine wpS_skip ?_ | refine wpS_exit ?_ | refine wpS_ret ?_))
    refine wpS_loop (fun j => a ≤ j ∧ j ≤ i ∧ ∀ t, j ≤ t → t < i → At.rank (c i) < At.rank (sortC At.rank c a i t)) (fun j => ⟨[(0, .ref PB), (1, .int .i64 (a : Nat)), (2, .int .i64 (b : Nat)), (3, .fn 130 []), (8, .int .i64 (i : Nat)), (9, .int .i64 (j : Nat))], [(PB, .row 57 3 n fun t => atA (insC (sortC At.rank c a i) (c i) j i t))]⟩) (fun j => j) i ⟨by omega, by omega, fun t h1 h2 => by omega⟩
      (by refine ent_le ?_; (repeat' (first | exact aN | refine aC ?_ ?_)) <;> first | rfl | exact ⟨rfl, fun t _ => by rw [insC_start _ (sortC_out (by omega))]⟩) ?_
    rintro j ⟨j1, j2, j3⟩
    (repeat (first | refine wpS_seq ?_ | refine wpS_reg ?_ | refine run_step rfl (by ((repeat' (first | exact aN | refine aC ?_ ?_ | intro _)) <;> first | assumption | omega | (simp only [obS] at *; omega) | (intros; first | rfl | assumption | omega | simp_all; done))) ?_ | refine run_nil ?_ | refine wpS_block ?_ | refine wpS_skip ?_ | refine wpS_exit ?_ | refine wpS_ret ?_))
    refine wpS_D (by kernel_rfl) ?_
    (repeat (refine trg_step rfl (by ((repeat' (first | exact aN | refine aC ?_ ?_ | intro _)) <;> first | assumption | omega | (simp only [obS] at *; omega) | (intros; first | rfl | assumption | omega | simp_all; done))) ?_))
    refine trg_cg rfl (fun hG => ((atcmp_spec (insC (sortC At.rank c a i) (c i) j i j) (insC (sortC At.rank c a i) (c i) j i ((j : Int) - 1).toNat)))) rfl (fun hG => by ((repeat' (first | exact aN | refine aC ?_ ?_ | intro _)) <;> first | assumption | omega | (simp only [obS] at *; omega) | (intros; first | rfl | assumption | omega | simp_all; done))) rfl rfl (.inl rfl) ?_
    (repeat (refine trg_step rfl (by ((repeat' (first | exact aN | refine aC ?_ ?_ | intro _)) <;> first | assumption | omega | (simp only [obS] at *; omega) | (intros; first | rfl | assumption | omega | simp_all; done))) ?_))
    refine trg_nil ⟨rfl, ?_⟩
    have hc : ∀ v : Bool, (bif decide ((a : Int) < (j : Int)) then decide (cmpI (At.rank (insC (sortC At.rank c a i) (c i) j i j)) (At.rank (insC (sortC At.rank c a i) (c i) j i ((j : Int) - 1).toNat)) < 0) else false) = v →
        v = (decide (a < j) && decide (At.rank (c i) < At.rank (sortC At.rank c a i (j - 1)))) := by
      intro v hv
      rw [← hv, insC_at, cmpI_neg]
      by_cases hja : a < j
      · have hj0 : ((j : Int) - 1).toNat = j - 1 := by omega
        have hai : (a : Int) < (j : Int) := by omega
        rw [hj0, insC_lo _ _ (show j - 1 < j by omega)]
        simp only [hja, hai, decide_true, cond_true, Bool.true_and]
      · have hai : ¬ (a : Int) < (j : Int) := by omega
        simp only [hja, hai, decide_false, cond_false, Bool.false_and]
    refine wpS_cond rfl (by ((repeat' (first | exact aN | refine aC ?_ ?_ | intro _)) <;> first | assumption | omega | (simp only [obS] at *; omega) | (intros; first | rfl | assumption | omega | simp_all; done))) (fun h => ?_) (fun h => ?_)
    · have hv := (hc _ h).symm
      simp only [Bool.and_eq_true, decide_eq_true_eq] at hv
      obtain ⟨hja, hlt2⟩ := hv
      clear h hc
      have e1 : ((j : Int) - 1).toNat = j - 1 := by omega
      (repeat (first | refine wpS_seq ?_ | refine wpS_reg ?_ | refine run_step rfl (by ((repeat' (first | exact aN | refine aC ?_ ?_ | intro _)) <;> first | assumption | omega | (simp only [obS] at *; omega) | (intros; first | rfl | assumption | omega | simp_all; done))) ?_ | refine run_nil ?_ | refine wpS_block ?_ | refine wpS_skip ?_ | refine wpS_exit ?_ | refine wpS_ret ?_))
      refine wpS_D (by kernel_rfl) ?_; (repeat (refine trg_step rfl (by ((repeat' (first | exact aN | refine aC ?_ ?_ | intro _)) <;> first | assumption | omega | (simp only [obS] at *; omega) | (intros; first | rfl | assumption | omega | simp_all; done))) ?_)); refine trg_nil ⟨rfl, ?_⟩
      (repeat (first | refine wpS_seq ?_ | refine wpS_reg ?_ | refine run_step rfl (by ((repeat' (first | exact aN | refine aC ?_ ?_ | intro _)) <;> first | assumption | omega | (simp only [obS] at *; omega) | (intros; first | rfl | assumption | omega | simp_all; done))) ?_ | refine run_nil ?_ | refine wpS_block ?_ | refine wpS_skip ?_ | refine wpS_exit ?_ | refine wpS_ret ?_))
      refine ⟨j - 1, ⟨by omega, by omega, fun t t1 t2 => ?_⟩, by dsimp only; omega, ?_⟩
      · by_cases ht : t = j - 1
        · subst ht; exact hlt2
        · exact j3 t (by omega) t2
      · refine ent_le ?_; (repeat' (first | exact aN | refine aC ?_ ?_)) <;> first | rfl | omega | (refine ⟨rfl, fun t _ => ?_⟩)
        simp only [Int.toNat_natCast, e1, stored_eq, insC_prev _ _ (show 0 < j by omega) j2 t]
        by_cases t1 : t = j - 1
        · have t2 : ¬ t = j := by omega
          simp only [if_pos t1, if_neg t2, insC_at]; rfl
        · by_cases t2 : t = j
          · simp only [if_neg t1, if_pos t2, insC_lo _ _ (show j - 1 < j by omega)]; rfl
          · simp only [if_neg t1, if_neg t2]
    · have hv := (hc _ h).symm
      clear h hc
      (repeat (first | refine wpS_seq ?_ | refine wpS_reg ?_ | refine run_step rfl (by ((repeat' (first | exact aN | refine aC ?_ ?_ | intro _)) <;> first | assumption | omega | (simp only [obS] at *; omega) | (intros; first | rfl | assumption | omega | simp_all; done))) ?_ | refine run_nil ?_ | refine wpS_block ?_ | refine wpS_skip ?_ | refine wpS_exit ?_ | refine wpS_ret ?_))
      have hd : insC (sortC At.rank c a i) (c i) j i = sortC At.rank c a (i + 1) := by
        refine ins_done j1 j2 j3 fun hja => ?_
        simp only [hja, decide_true, Bool.true_and, decide_eq_false_iff_not] at hv
        omega
      refine ⟨i + 1, ⟨by omega, by omega⟩, by dsimp only; omega, ?_⟩
      refine ent_le ?_; (repeat' (first | exact aN | refine aC ?_ ?_)) <;> first | rfl | omega | exact ⟨rfl, fun t _ => by rw [hd]⟩
  · have hge : b ≤ i := by simp at h; omega
    clear h
    (repeat (first | refine wpS_seq ?_ | refine wpS_reg ?_ | refine run_step rfl (by ((repeat' (first | exact aN | refine aC ?_ ?_ | intro _)) <;> first | assumption | omega | (simp only [obS] at *; omega) | (intros; first | rfl | assumption | omega | simp_all; done))) ?_ | refine run_nil ?_ | refine wpS_block ?_ | refine wpS_skip ?_ | refine wpS_exit ?_ | refine wpS_ret ?_))
    refine fin_mkR rfl ?_ ?_ <;> (repeat' (first | exact aN | refine aC ?_ ?_))
    refine ⟨rfl, fun t _ => ?_⟩
    dsimp only
    by_cases hib : i = b
    · rw [hib]
    · have ha : b = a := by omega
      rw [sortC_id (fun p q h1 h2 h3 => by omega), sortC_id (fun p q h1 h2 h3 => by omega)]
end Go.Proofs
end
/- part BkAtSym -/
section
namespace Go.Proofs
open Go.Av Go.Pu
set_option maxHeartbeats 8000000 in
theorem atsym_spec : ∀ (w : Nat) (c : Nat → At) (n a m b : Nat), b - a ≤ w → a < m → m < b → b ≤ n → n ≤ maxL → SrtA At.rank c a m → SrtA At.rank c m b →
    SpecR Tryz.prog 183 [.ref PB, .int .i64 (a : Nat), .int .i64 (m : Nat), .int .i64 (b : Nat), .fn 130 []] [(PB, .row 57 3 n fun t => atA (c t))] (.tup []) [(PB, .row 57 3 n fun t => atA (sortC At.rank c a b t))] := by
  intro w
  induction w with
  | zero => intro c n a m b hw h1 h2; omega
  | succ w ih =>
  intro c n a m b hw h1 h2 h3 hn hs1 hs2
  have hn' := hn
  rw [maxL_eq] at hn'
  refine specR ok183 fun C _ => ?_
  (repeat (first | refine wpS_seq ?_ | refine wpS_reg ?_ | refine run_step rfl (by ((repeat' (first | exact aN | refine aC ?_ ?_ | intro _)) <;> first | assumption | omega | (simp only [obS] at *; omega) | (intros; first | rfl | assumption | omega | simp_all; done))) ?_ | refine run_nil ?_ | refine wpS_block ?_ | refine wpS_skip ?_ | refine wpS_exit ?_ | refine wpS_ret ?_))
  refine wpS_cond rfl (by ((repeat' (first | exact aN | refine aC ?_ ?_ | intro _)) <;> first | assumption | omega | (simp only [obS] at *; omega) | (intros; first | rfl | assumption | omega | simp_all; done))) (fun h => ?_) (fun h => ?_)
  · have hm : m = a + 1 := by simp at h; omega
    clear h
    (repeat (first | refine wpS_seq ?_ | refine wpS_reg ?_ | refine run_step rfl (by ((repeat' (first | exact aN | refine aC ?_ ?_ | intro _)) <;> first | assumption | omega | (simp only [obS] at *; omega) | (intros; first | rfl | assumption | omega | simp_all; done))) ?_ | refine run_nil ?_ | refine wpS_block ?_ | refine wpS_skip ?_ | refine wpS_exit ?_ | refine wpS_ret ?_))
    refine wpS_loop (fun (p : Nat × Nat) => m ≤ p.1 ∧ p.1 ≤ p.2 ∧ p.2 ≤ b ∧ (∀ t, m ≤ t → t < p.1 → At.rank (c t) < At.rank (c a)) ∧ ∀ t, p.2 ≤ t → t < b → At.rank (c a) ≤ At.rank (c t)) (fun p => ⟨[(0, .ref PB), (1, .int .i64 (a : Nat)), (2, .int .i64 (m : Nat)), (3, .int .i64 (b : Nat)), (4, .fn 130 []), (10, .int .i64 (p.1 : Nat)), (11, .int .i64 (p.2 : Nat))], [(PB, .row 57 3 n fun t => atA (c t))]⟩) (fun p => p.2 - p.1) (m, b)
      ⟨Nat.le_refl _, by dsimp only; omega, Nat.le_refl _, by dsimp only; omega, by dsimp only; omega⟩ (by refine ent_le ?_; (repeat' (first | exact aN | refine aC ?_ ?_)) <;> first | rfl | exact ⟨rfl, fun _ _ => rfl⟩) ?_
    rintro ⟨i, j⟩ ⟨p1, p2, p3, p4, p5⟩
    dsimp only at p1 p2 p3 p4 p5 ⊢
    (repeat (first | refine wpS_seq ?_ | refine wpS_reg ?_ | refine run_step rfl (by ((repeat' (first | exact aN | refine aC ?_ ?_ | intro _)) <;> first | assumption | omega | (simp only [obS] at *; omega) | (intros; first | rfl | assumption | omega | simp_all; done))) ?_ | refine run_nil ?_ | refine wpS_block ?_ | refine wpS_skip ?_ | refine wpS_exit ?_ | refine wpS_ret ?_))
    refine wpS_cond rfl (by ((repeat' (first | exact aN | refine aC ?_ ?_ | intro _)) <;> first | assumption | omega | (simp only [obS] at *; omega) | (intros; first | rfl | assumption | omega | simp_all; done))) (fun h => ?_) (fun h => ?_)
    · have hlt : i < j := by simpa using h
      clear h
      (repeat (first | refine wpS_seq ?_ | refine wpS_reg ?_ | refine run_step rfl (by ((repeat' (first | exact aN | refine aC ?_ ?_ | intro _)) <;> first | assumption | omega | (simp only [obS] at *; omega) | (intros; first | rfl | assumption | omega | simp_all; done))) ?_ | refine run_nil ?_ | refine wpS_block ?_ | refine wpS_skip ?_ | refine wpS_exit ?_ | refine wpS_ret ?_))
      refine wpS_ent (ent_slot 12 (.int .i64 (((i + j) / 2 : Nat) : Int)) ⟨half i j (by omega), trivial⟩) ?_
      obtain ⟨q, hq⟩ : ∃ q, q = (i + j) / 2 := ⟨_, rfl⟩
      rw [← hq]
      have q1 : i ≤ q := by omega
      have q2 : q < j := by omega
      clear hq
      refine wpS_D (by kernel_rfl) ?_
      (repeat (refine trg_step rfl (by ((repeat' (first | exact aN | refine aC ?_ ?_ | intro _)) <;> first | assumption | omega | (simp only [obS] at *; omega) | (intros; first | rfl | assumption | omega | simp_all; done))) ?_))
      refine trg_c ((atcmp_spec (c q) (c a))) rfl (by ((repeat' (first | exact aN | refine aC ?_ ?_ | intro _)) <;> first | assumption | omega | (simp only [obS] at *; omega) | (intros; first | rfl | assumption | omega | simp_all; done))) rfl rfl (.inl rfl) ?_
      (repeat (refine trg_step rfl (by ((repeat' (first | exact aN | refine aC ?_ ?_ | intro _)) <;> first | assumption | omega | (simp only [obS] at *; omega) | (intros; first | rfl | assumption | omega | simp_all; done))) ?_))
      refine trg_nil ⟨rfl, ?_⟩
      refine wpS_cond rfl (by ((repeat' (first | exact aN | refine aC ?_ ?_ | intro _)) <;> first | assumption | omega | (simp only [obS] at *; omega) | (intros; first | rfl | assumption | omega | simp_all; done))) (fun h => ?_) (fun h => ?_)
      · rw [cmpI_neg] at h
        have hv : At.rank (c q) < At.rank (c a) := by simpa using h
        (repeat (first | refine wpS_seq ?_ | refine wpS_reg ?_ | refine run_step rfl (by ((repeat' (first | exact aN | refine aC ?_ ?_ | intro _)) <;> first | assumption | omega | (simp only [obS] at *; omega) | (intros; first | rfl | assumption | omega | simp_all; done))) ?_ | refine run_nil ?_ | refine wpS_block ?_ | refine wpS_skip ?_ | refine wpS_exit ?_ | refine wpS_ret ?_))
        refine ⟨(q + 1, j), ⟨by dsimp only; omega, by dsimp only; omega, p3, fun t t1 t2 => ?_, p5⟩, by dsimp only; omega, ?_⟩
        · have := hs2.le (i := t) (j := q) t1 (by dsimp only at t2; omega) (by omega)
          omega
        · refine ent_le ?_; (repeat' (first | exact aN | refine aC ?_ ?_)) <;> first | rfl | exact ⟨rfl, fun _ _ => rfl⟩
      · rw [cmpI_neg] at h
        have hv : ¬ At.rank (c q) < At.rank (c a) := by simpa using h
        (repeat (first | refine wpS_seq ?_ | refine wpS_reg ?_ | refine run_step rfl (by ((repeat' (first | exact aN | refine aC ?_ ?_ | intro _)) <;> first | assumption | omega | (simp only [obS] at *; omega) | (intros; first | rfl | assumption | omega | simp_all; done))) ?_ | refine run_nil ?_ | refine wpS_block ?_ | refine wpS_skip ?_ | refine wpS_exit ?_ | refine wpS_ret ?_))
        refine ⟨(i, q), ⟨p1, q1, by dsimp only; omega, p4, fun t t1 t2 => ?_⟩, by dsimp only; omega, ?_⟩
        · have := hs2.le (i := q) (j := t) (by omega) t1 t2
          omega
        · refine ent_le ?_; (repeat' (first | exact aN | refine aC ?_ ?_)) <;> first | rfl | exact ⟨rfl, fun _ _ => rfl⟩
    · have hij : i = j := by simp at h; omega
      subst hij
      clear h
      (repeat (first | refine wpS_seq ?_ | refine wpS_reg ?_ | refine run_step rfl (by ((repeat' (first | exact aN | refine aC ?_ ?_ | intro _)) <;> first | assumption | omega | (simp only [obS] at *; omega) | (intros; first | rfl | assumption | omega | simp_all; done))) ?_ | refine run_nil ?_ | refine wpS_block ?_ | refine wpS_skip ?_ | refine wpS_exit ?_ | refine wpS_ret ?_))
      refine wpS_loop (fun p => a ≤ p ∧ p ≤ i - 1) (fun p => ⟨[(0, .ref PB), (10, .int .i64 (i : Nat)), (13, .int .i64 (p : Nat))], [(PB, .row 57 3 n fun t => atA (shL c a p t))]⟩) (fun p => i - p) a ⟨by omega, by omega⟩
        (by refine ent_le ?_; (repeat' (first | exact aN | refine aC ?_ ?_)) <;> first | rfl | exact ⟨rfl, fun t _ => by rw [shL_zero]⟩) ?_
      rintro p ⟨r1, r2⟩
      (repeat (first | refine wpS_seq ?_ | refine wpS_reg ?_ | refine run_step rfl (by ((repeat' (first | exact aN | refine aC ?_ ?_ | intro _)) <;> first | assumption | omega | (simp only [obS] at *; omega) | (intros; first | rfl | assumption | omega | simp_all; done))) ?_ | refine run_nil ?_ | refine wpS_block ?_ | refine wpS_skip ?_ | refine wpS_exit ?_ | refine wpS_ret ?_))
      refine wpS_cond rfl (by ((repeat' (first | exact aN | refine aC ?_ ?_ | intro _)) <;> first | assumption | omega | (simp only [obS] at *; omega) | (intros; first | rfl | assumption | omega | simp_all; done))) (fun h => ?_) (fun h => ?_)
      · have hlt : p < i - 1 := by simp at h; omega
        clear h
        have e1 : ((p : Int) + 1).toNat = p + 1 := by omega
        (repeat (first | refine wpS_seq ?_ | refine wpS_reg ?_ | refine run_step rfl (by ((repeat' (first | exact aN | refine aC ?_ ?_ | intro _)) <;> first | assumption | omega | (simp only [obS] at *; omega) | (intros; first | rfl | assumption | omega | simp_all; done))) ?_ | refine run_nil ?_ | refine wpS_block ?_ | refine wpS_skip ?_ | refine wpS_exit ?_ | refine wpS_ret ?_))
        refine wpS_D (by kernel_rfl) ?_; (repeat (refine trg_step rfl (by ((repeat' (first | exact aN | refine aC ?_ ?_ | intro _)) <;> first | assumption | omega | (simp only [obS] at *; omega) | (intros; first | rfl | assumption | omega | simp_all; done))) ?_)); refine trg_nil ⟨rfl, ?_⟩
        (repeat (first | refine wpS_seq ?_ | refine wpS_reg ?_ | refine run_step rfl (by ((repeat' (first | exact aN | refine aC ?_ ?_ | intro _)) <;> first | assumption | omega | (simp only [obS] at *; omega) | (intros; first | rfl | assumption | omega | simp_all; done))) ?_ | refine run_nil ?_ | refine wpS_block ?_ | refine wpS_skip ?_ | refine wpS_exit ?_ | refine wpS_ret ?_))
        refine ⟨p + 1, ⟨by omega, by omega⟩, by dsimp only; omega, ?_⟩
        refine ent_le ?_; (repeat' (first | exact aN | refine aC ?_ ?_)) <;> first | rfl | omega | (refine ⟨rfl, fun t _ => ?_⟩)
        simp only [Int.toNat_natCast, e1, stored_eq, shL_next c r1 t]
        by_cases t1 : t = p + 1
        · have t2 : ¬ t = p := by omega
          simp only [if_pos t1, if_neg t2, shL_at]; rfl
        · by_cases t2 : t = p
          · simp only [if_neg t1, if_pos t2, shL_hi c (show p < p + 1 by omega)]; rfl
          · simp only [if_neg t1, if_neg t2]
      · have hge : p = i - 1 := by simp at h; omega
        subst hge
        clear h
        (repeat (first | refine wpS_seq ?_ | refine wpS_reg ?_ | refine run_step rfl (by ((repeat' (first | exact aN | refine aC ?_ ?_ | intro _)) <;> first | assumption | omega | (simp only [obS] at *; omega) | (intros; first | rfl | assumption | omega | simp_all; done))) ?_ | refine run_nil ?_ | refine wpS_block ?_ | refine wpS_skip ?_ | refine wpS_exit ?_ | refine wpS_ret ?_))
        refine fin_mkR rfl ?_ ?_ <;> (repeat' (first | exact aN | refine aC ?_ ?_))
        refine ⟨rfl, fun t _ => ?_⟩
        dsimp only
        subst hm
        rw [sh_done (by omega) p3 hs2 (fun t t1 t2 => p4 t t1 t2) (fun h => p5 i (Nat.le_refl _) h)]
  have hm1 : ¬ m = a + 1 := by intro e; subst e; simp at h; omega
  clear h
  (repeat (first | refine wpS_seq ?_ | refine wpS_reg ?_ | refine run_step rfl (by ((repeat' (first | exact aN | refine aC ?_ ?_ | intro _)) <;> first | assumption | omega | (simp only [obS] at *; omega) | (intros; first | rfl | assumption | omega | simp_all; done))) ?_ | refine run_nil ?_ | refine wpS_block ?_ | refine wpS_skip ?_ | refine wpS_exit ?_ | refine wpS_ret ?_))
  refine wpS_cond rfl (by ((repeat' (first | exact aN | refine aC ?_ ?_ | intro _)) <;> first | assumption | omega | (simp only [obS] at *; omega) | (intros; first | rfl | assumption | omega | simp_all; done))) (fun h => ?_) (fun h => ?_)
  · have hb : b = m + 1 := by simp at h; omega
    clear h
    (repeat (first | refine wpS_seq ?_ | refine wpS_reg ?_ | refine run_step rfl (by ((repeat' (first | exact aN | refine aC ?_ ?_ | intro _)) <;> first | assumption | omega | (simp only [obS] at *; omega) | (intros; first | rfl | assumption | omega | simp_all; done))) ?_ | refine run_nil ?_ | refine wpS_block ?_ | refine wpS_skip ?_ | refine wpS_exit ?_ | refine wpS_ret ?_))
    refine wpS_loop (fun (p : Nat × Nat) => a ≤ p.1 ∧ p.1 ≤ p.2 ∧ p.2 ≤ m ∧ (∀ t, a ≤ t → t < p.1 → At.rank (c t) ≤ At.rank (c m)) ∧ ∀ t, p.2 ≤ t → t < m → At.rank (c m) < At.rank (c t)) (fun p => ⟨[(0, .ref PB), (1, .int .i64 (a : Nat)), (2, .int .i64 (m : Nat)), (3, .int .i64 (b : Nat)), (4, .fn 130 []), (14, .int .i64 (p.1 : Nat)), (15, .int .i64 (p.2 : Nat))], [(PB, .row 57 3 n fun t => atA (c t))]⟩) (fun p => p.2 - p.1) (a, m)
      ⟨Nat.le_refl _, by dsimp only; omega, Nat.le_refl _, by dsimp only; omega, by dsimp only; omega⟩ (by refine ent_le ?_; (repeat' (first | exact aN | refine aC ?_ ?_)) <;> first | rfl | exact ⟨rfl, fun _ _ => rfl⟩) ?_
    rintro ⟨i, j⟩ ⟨p1, p2, p3, p4, p5⟩
    dsimp only at p1 p2 p3 p4 p5 ⊢
    (repeat (first | refine wpS_seq ?_ | refine wpS_reg ?_ | refine run_step rfl (by ((repeat' (first | exact aN | refine aC ?_ ?_ | intro _)) <;> first | assumption | omega | (simp only [obS] at *; omega) | (intros; first | rfl | assumption | omega | simp_all; done))) ?_ | refine run_nil ?_ | refine wpS_block ?_ | refine wpS_skip ?_ | refine wpS_exit ?_ | refine wpS_ret ?_))
    refine wpS_cond rfl (by ((repeat' (first | exact aN | refine aC ?_ ?_ | intro _)) <;> first | assumption | omega | (simp only [obS] at *; omega) | (intros; first | rfl | assumption | omega | simp_all; done))) (fun h => ?_) (fun h => ?_)
    · have hlt : i < j := by simpa using h
      clear h
      (repeat (first | refine wpS_seq ?_ | refine wpS_reg ?_ | refine run_step rfl (by ((repeat' (first | exact aN | refine aC ?_ ?_ | intro _)) <;> first | assumption | omega | (simp only [obS] at *; omega) | (intros; first | rfl | assumption | omega | simp_all; done))) ?_ | refine run_nil ?_ | refine wpS_block ?_ | refine wpS_skip ?_ | refine wpS_exit ?_ | refine wpS_ret ?_))
      refine wpS_ent (ent_slot 16 (.int .i64 (((i + j) / 2 : Nat) : Int)) ⟨half i j (by omega), trivial⟩) ?_
      obtain ⟨q, hq⟩ : ∃ q, q = (i + j) / 2 := ⟨_, rfl⟩
      rw [← hq]
      have q1 : i ≤ q := by omega
      have q2 : q < j := by omega
      clear hq
      refine wpS_D (by kernel_rfl) ?_
      (repeat (refine trg_step rfl (by ((repeat' (first | exact aN | refine aC ?_ ?_ | intro _)) <;> first | assumption | omega | (simp only [obS] at *; omega) | (intros; first | rfl | assumption | omega | simp_all; done))) ?_))
      refine trg_c ((atcmp_spec (c m) (c q))) rfl (by ((repeat' (first | exact aN | refine aC ?_ ?_ | intro _)) <;> first | assumption | omega | (simp only [obS] at *; omega) | (intros; first | rfl | assumption | omega | simp_all; done))) rfl rfl (.inl rfl) ?_
      (repeat (refine trg_step rfl (by ((repeat' (first | exact aN | refine aC ?_ ?_ | intro _)) <;> first | assumption | omega | (simp only [obS] at *; omega) | (intros; first | rfl | assumption | omega | simp_all; done))) ?_))
      refine trg_nil ⟨rfl, ?_⟩
      refine wpS_cond rfl (by ((repeat' (first | exact aN | refine aC ?_ ?_ | intro _)) <;> first | assumption | omega | (simp only [obS] at *; omega) | (intros; first | rfl | assumption | omega | simp_all; done))) (fun h => ?_) (fun h => ?_)
      · rw [cmpI_neg] at h
        have hv : ¬ At.rank (c m) < At.rank (c q) := by simpa using h
        (repeat (first | refine wpS_seq ?_ | refine wpS_reg ?_ | refine run_step rfl (by ((repeat' (first | exact aN | refine aC ?_ ?_ | intro _)) <;> first | assumption | omega | (simp only [obS] at *; omega) | (intros; first | rfl | assumption | omega | simp_all; done))) ?_ | refine run_nil ?_ | refine wpS_block ?_ | refine wpS_skip ?_ | refine wpS_exit ?_ | refine wpS_ret ?_))
        refine ⟨(q + 1, j), ⟨by dsimp only; omega, by dsimp only; omega, p3, fun t t1 t2 => ?_, p5⟩, by dsimp only; omega, ?_⟩
        · have := hs1.le (i := t) (j := q) t1 (by dsimp only at t2; omega) (by omega)
          omega
        · refine ent_le ?_; (repeat' (first | exact aN | refine aC ?_ ?_)) <;> first | rfl | exact ⟨rfl, fun _ _ => rfl⟩
      · rw [cmpI_neg] at h
        have hv : At.rank (c m) < At.rank (c q) := by simpa using h
        (repeat (first | refine wpS_seq ?_ | refine wpS_reg ?_ | refine run_step rfl (by ((repeat' (first | exact aN | refine aC ?_ ?_ | intro _)) <;> first | assumption | omega | (simp only [obS] at *; omega) | (intros; first | rfl | assumption | omega | simp_all; done))) ?_ | refine run_nil ?_ | refine wpS_block ?_ | refine wpS_skip ?_ | refine wpS_exit ?_ | refine wpS_ret ?_))
        refine ⟨(i, q), ⟨p1, q1, by dsimp only; omega, p4, fun t t1 t2 => ?_⟩, by dsimp only; omega, ?_⟩
        · have := hs1.le (i := q) (j := t) (by omega) t1 t2
          omega
        · refine ent_le ?_; (repeat' (first | exact aN | refine aC ?_ ?_)) <;> first | rfl | exact ⟨rfl, fun _ _ => rfl⟩
    · have hij : i = j := by simp at h; omega
      subst hij
      clear h
      (repeat (first | refine wpS_seq ?_ | refine wpS_reg ?_ | refine run_step rfl (by ((repeat' (first | exact aN | refine aC ?_ ?_ | intro _)) <;> first | assumption | omega | (simp only [obS] at *; omega) | (intros; first | rfl | assumption | omega | simp_all; done))) ?_ | refine run_nil ?_ | refine wpS_block ?_ | refine wpS_skip ?_ | refine wpS_exit ?_ | refine wpS_ret ?_))
      refine wpS_loop (fun p => i ≤ p ∧ p ≤ m) (fun p => ⟨[(0, .ref PB), (14, .int .i64 (i : Nat)), (17, .int .i64 (p : Nat))], [(PB, .row 57 3 n fun t => atA (insC c (c m) p m t))]⟩) (fun p => p) m ⟨by omega, by omega⟩
        (by refine ent_le ?_; (repeat' (first | exact aN | refine aC ?_ ?_)) <;> first | rfl | exact ⟨rfl, fun t _ => by rw [insC_zero]⟩) ?_
      rintro p ⟨r1, r2⟩
      (repeat (first | refine wpS_seq ?_ | refine wpS_reg ?_ | refine run_step rfl (by ((repeat' (first | exact aN | refine aC ?_ ?_ | intro _)) <;> first | assumption | omega | (simp only [obS] at *; omega) | (intros; first | rfl | assumption | omega | simp_all; done))) ?_ | refine run_nil ?_ | refine wpS_block ?_ | refine wpS_skip ?_ | refine wpS_exit ?_ | refine wpS_ret ?_))
      refine wpS_cond rfl (by ((repeat' (first | exact aN | refine aC ?_ ?_ | intro _)) <;> first | assumption | omega | (simp only [obS] at *; omega) | (intros; first | rfl | assumption | omega | simp_all; done))) (fun h => ?_) (fun h => ?_)
      · have hlt : i < p := by simp at h; omega
        clear h
        have e1 : ((p : Int) - 1).toNat = p - 1 := by omega
        (repeat (first | refine wpS_seq ?_ | refine wpS_reg ?_ | refine run_step rfl (by ((repeat' (first | exact aN | refine aC ?_ ?_ | intro _)) <;> first | assumption | omega | (simp only [obS] at *; omega) | (intros; first | rfl | assumption | omega | simp_all; done))) ?_ | refine run_nil ?_ | refine wpS_block ?_ | refine wpS_skip ?_ | refine wpS_exit ?_ | refine wpS_ret ?_))
        refine wpS_D (by kernel_rfl) ?_; (repeat (refine trg_step rfl (by ((repeat' (first | exact aN | refine aC ?_ ?_ | intro _)) <;> first | assumption | omega | (simp only [obS] at *; omega) | (intros; first | rfl | assumption | omega | simp_all; done))) ?_)); refine trg_nil ⟨rfl, ?_⟩
        (repeat (first | refine wpS_seq ?_ | refine wpS_reg ?_ | refine run_step rfl (by ((repeat' (first | exact aN | refine aC ?_ ?_ | intro _)) <;> first | assumption | omega | (simp only [obS] at *; omega) | (intros; first | rfl | assumption | omega | simp_all; done))) ?_ | refine run_nil ?_ | refine wpS_block ?_ | refine wpS_skip ?_ | refine wpS_exit ?_ | refine wpS_ret ?_))
        refine ⟨p - 1, ⟨by omega, by omega⟩, by dsimp only; omega, ?_⟩
        refine ent_le ?_; (repeat' (first | exact aN | refine aC ?_ ?_)) <;> first | rfl | omega | (refine ⟨rfl, fun t _ => ?_⟩)
        simp only [Int.toNat_natCast, e1, stored_eq, insC_prev _ _ (show 0 < p by omega) r2 t]
        by_cases t1 : t = p - 1
        · have t2 : ¬ t = p := by omega
          simp only [if_pos t1, if_neg t2, insC_at]; rfl
        · by_cases t2 : t = p
          · simp only [if_neg t1, if_pos t2, insC_lo _ _ (show p - 1 < p by omega)]; rfl
          · simp only [if_neg t1, if_neg t2]
      · have hge : p = i := by simp at h; omega
        subst hge
        clear h
        (repeat (first | refine wpS_seq ?_ | refine wpS_reg ?_ | refine run_step rfl (by ((repeat' (first | exact aN | refine aC ?_ ?_ | intro _)) <;> first | assumption | omega | (simp only [obS] at *; omega) | (intros; first | rfl | assumption | omega | simp_all; done))) ?_ | refine run_nil ?_ | refine wpS_block ?_ | refine wpS_skip ?_ | refine wpS_exit ?_ | refine wpS_ret ?_))
        refine fin_mkR rfl ?_ ?_ <;> (repeat' (first | exact aN | refine aC ?_ ?_))
        refine ⟨rfl, fun t _ => ?_⟩
        dsimp only
        subst hb
        rw [ins_done' p1 p3 hs1 (fun t t1 t2 => p5 t t1 t2) (fun h => p4 _ (by omega) (by omega))]
  have hb1 : ¬ b = m + 1 := by intro e; subst e; simp at h; omega
  clear h
  refine wpS_skip ?_
  refine wpS_seq ?_; refine wpS_reg ?_; (repeat (refine run_step rfl (by ((repeat' (first | exact aN | refine aC ?_ ?_ | intro _)) <;> first | assumption | omega | (simp only [obS] at *; omega) | (intros; first | rfl | assumption | omega | simp_all; done))) ?_)); refine run_nil ?_
  refine wpS_ent (ent_slot 18 (.int .i64 (((a + b) / 2 : Nat) : Int)) ⟨half a b (by omega), trivial⟩) ?_
  obtain ⟨mid, hmid⟩ : ∃ mid, mid = (a + b) / 2 := ⟨_, rfl⟩
  rw [← hmid]
  have m1 : 2 * mid ≤ a + b := by omega
  have m2 : a + b ≤ 2 * mid + 1 := by omega
  clear hmid
  refine wpS_seq ?_; refine wpS_reg ?_; (repeat (refine run_step rfl (by ((repeat' (first | exact aN | refine aC ?_ ?_ | intro _)) <;> first | assumption | omega | (simp only [obS] at *; omega) | (intros; first | rfl | assumption | omega | simp_all; done))) ?_)); refine run_nil ?_
  refine wpS_seq ?_; refine wpS_reg ?_; (repeat (refine run_step rfl (by ((repeat' (first | exact aN | refine aC ?_ ?_ | intro _)) <;> first | assumption | omega | (simp only [obS] at *; omega) | (intros; first | rfl | assumption | omega | simp_all; done))) ?_)); refine run_nil ?_
  refine wpS_seq ?_
  refine wpS_seq ?_; refine wpS_reg ?_; (repeat (refine run_step rfl (by ((repeat' (first | exact aN | refine aC ?_ ?_ | intro _)) <;> first | assumption | omega | (simp only [obS] at *; omega) | (intros; first | rfl | assumption | omega | simp_all; done))) ?_)); refine run_nil ?_
  refine wpS_join (fun (p : Nat × Nat) => a ≤ p.1 ∧ p.1 ≤ p.2 ∧ p.2 ≤ m ∧ p.2 ≤ mid ∧ mid ≤ p.1 + (b - m) ∧ (p.1 = a ∨ mid + m - p.1 = b) ∧ (p.2 = m ∨ p.2 = mid)) (fun p => ⟨[(0, .ref PB), (1, .int .i64 (a : Nat)), (2, .int .i64 (m : Nat)), (3, .int .i64 (b : Nat)), (4, .fn 130 []), (18, .int .i64 (mid : Nat)), (19, .int .i64 ((mid : Nat) + (m : Nat) : Int)), (20, .int .i64 (p.1 : Nat)), (21, .int .i64 (p.2 : Nat))], [(PB, .row 57 3 n fun t => atA (c t))]⟩) ?_ ?_
  · refine wpS_cond rfl (by ((repeat' (first | exact aN | refine aC ?_ ?_ | intro _)) <;> first | assumption | omega | (simp only [obS] at *; omega) | (intros; first | rfl | assumption | omega | simp_all; done))) (fun h => ?_) (fun h => ?_)
    · have hmm : mid < m := by simpa using h
      (repeat (first | refine wpS_seq ?_ | refine wpS_reg ?_ | refine run_step rfl (by ((repeat' (first | exact aN | refine aC ?_ ?_ | intro _)) <;> first | assumption | omega | (simp only [obS] at *; omega) | (intros; first | rfl | assumption | omega | simp_all; done))) ?_ | refine run_nil ?_ | refine wpS_block ?_ | refine wpS_skip ?_ | refine wpS_exit ?_ | refine wpS_ret ?_))
      refine ⟨(mid + m - b, mid), ⟨by dsimp only; omega, by dsimp only; omega, by dsimp only; omega, Nat.le_refl _, by dsimp only; omega, .inr (by dsimp only; omega), .inr rfl⟩, ?_⟩
      refine ent_le ?_; (repeat' (first | exact aN | refine aC ?_ ?_)) <;> first | rfl | omega | (dsimp only; omega) | exact ⟨rfl, fun _ _ => rfl⟩
    · have hmm : ¬ mid < m := by simpa using h
      (repeat (first | refine wpS_seq ?_ | refine wpS_reg ?_ | refine run_step rfl (by ((repeat' (first | exact aN | refine aC ?_ ?_ | intro _)) <;> first | assumption | omega | (simp only [obS] at *; omega) | (intros; first | rfl | assumption | omega | simp_all; done))) ?_ | refine run_nil ?_ | refine wpS_block ?_ | refine wpS_skip ?_ | refine wpS_exit ?_ | refine wpS_ret ?_))
      refine ⟨(a, m), ⟨Nat.le_refl _, by dsimp only; omega, Nat.le_refl _, by dsimp only; omega, by dsimp only; omega, .inl rfl, .inl rfl⟩, ?_⟩
      refine ent_le ?_; (repeat' (first | exact aN | refine aC ?_ ?_)) <;> first | rfl | omega | (dsimp only; omega) | exact ⟨rfl, fun _ _ => rfl⟩
  rintro ⟨st0, r0⟩ ⟨o1, o2, o3, o4, o5, o6, o7⟩
  dsimp only at o1 o2 o3 o4 o5 o6 o7 ⊢
  (repeat (first | refine wpS_seq ?_ | refine wpS_reg ?_ | refine run_step rfl (by ((repeat' (first | exact aN | refine aC ?_ ?_ | intro _)) <;> first | assumption | omega | (simp only [obS] at *; omega) | (intros; first | rfl | assumption | omega | simp_all; done))) ?_ | refine run_nil ?_ | refine wpS_block ?_ | refine wpS_skip ?_ | refine wpS_exit ?_ | refine wpS_ret ?_))
  refine wpS_loop (fun (p : Nat × Nat) => st0 ≤ p.1 ∧ p.1 ≤ p.2 ∧ p.2 ≤ r0 ∧ (st0 < p.1 → At.rank (c (p.1 - 1)) ≤ At.rank (c (mid + m - p.1))) ∧ (p.2 < r0 → At.rank (c (mid + m - 1 - p.2)) < At.rank (c p.2))) (fun p => ⟨[(0, .ref PB), (1, .int .i64 (a : Nat)), (2, .int .i64 (m : Nat)), (3, .int .i64 (b : Nat)), (4, .fn 130 []), (18, .int .i64 (mid : Nat)), (19, .int .i64 ((mid : Nat) + (m : Nat) : Int)), (20, .int .i64 (p.1 : Nat)), (21, .int .i64 (p.2 : Nat)), (22, .int .i64 ((mid : Nat) + (m : Nat) - 1 : Int))], [(PB, .row 57 3 n fun t => atA (c t))]⟩) (fun p => p.2 - p.1) (st0, r0)
    ⟨Nat.le_refl _, o2, Nat.le_refl _, by dsimp only; omega, by dsimp only; omega⟩ (by refine ent_le ?_; (repeat' (first | exact aN | refine aC ?_ ?_)) <;> first | rfl | omega | (dsimp only; omega) | exact ⟨rfl, fun _ _ => rfl⟩) ?_
  rintro ⟨st, r⟩ ⟨p1, p2, p3, p4, p5⟩
  dsimp only at p1 p2 p3 p4 p5 ⊢
  (repeat (first | refine wpS_seq ?_ | refine wpS_reg ?_ | refine run_step rfl (by ((repeat' (first | exact aN | refine aC ?_ ?_ | intro _)) <;> first | assumption | omega | (simp only [obS] at *; omega) | (intros; first | rfl | assumption | omega | simp_all; done))) ?_ | refine run_nil ?_ | refine wpS_block ?_ | refine wpS_skip ?_ | refine wpS_exit ?_ | refine wpS_ret ?_))
  refine wpS_cond rfl (by ((repeat' (first | exact aN | refine aC ?_ ?_ | intro _)) <;> first | assumption | omega | (simp only [obS] at *; omega) | (intros; first | rfl | assumption | omega | simp_all; done))) (fun h => ?_) (fun h => ?_)
  · have hlt : st < r := by simpa using h
    clear h
    (repeat (first | refine wpS_seq ?_ | refine wpS_reg ?_ | refine run_step rfl (by ((repeat' (first | exact aN | refine aC ?_ ?_ | intro _)) <;> first | assumption | omega | (simp only [obS] at *; omega) | (intros; first | rfl | assumption | omega | simp_all; done))) ?_ | refine run_nil ?_ | refine wpS_block ?_ | refine wpS_skip ?_ | refine wpS_exit ?_ | refine wpS_ret ?_))
    refine wpS_ent (ent_slot 23 (.int .i64 (((st + r) / 2 : Nat) : Int)) ⟨half st r (by omega), trivial⟩) ?_
    obtain ⟨q, hq⟩ : ∃ q, q = (st + r) / 2 := ⟨_, rfl⟩
    rw [← hq]
    have q1 : st ≤ q := by omega
    have q2 : q < r := by omega
    clear hq
    have e1 : ((mid : Int) + (m : Int) - 1 - (q : Int)).toNat = mid + m - 1 - q := by omega
    refine wpS_D (by kernel_rfl) ?_
    (repeat (refine trg_step rfl (by ((repeat' (first | exact aN | refine aC ?_ ?_ | intro _)) <;> first | assumption | omega | (simp only [obS] at *; omega) | (intros; first | rfl | assumption | omega | simp_all; done))) ?_))
    refine trg_c ((atcmp_spec (c ((mid : Int) + (m : Int) - 1 - (q : Int)).toNat) (c q))) rfl (by ((repeat' (first | exact aN | refine aC ?_ ?_ | intro _)) <;> first | assumption | omega | (simp only [obS] at *; omega) | (intros; first | rfl | assumption | omega | simp_all; done))) rfl rfl (.inl rfl) ?_
    (repeat (refine trg_step rfl (by ((repeat' (first | exact aN | refine aC ?_ ?_ | intro _)) <;> first | assumption | omega | (simp only [obS] at *; omega) | (intros; first | rfl | assumption | omega | simp_all; done))) ?_))
    refine trg_nil ⟨rfl, ?_⟩
    refine wpS_cond rfl (by ((repeat' (first | exact aN | refine aC ?_ ?_ | intro _)) <;> first | assumption | omega | (simp only [obS] at *; omega) | (intros; first | rfl | assumption | omega | simp_all; done))) (fun h => ?_) (fun h => ?_)
    · rw [cmpI_neg, e1] at h
      have hv : ¬ At.rank (c (mid + m - 1 - q)) < At.rank (c q) := by simpa using h
      (repeat (first | refine wpS_seq ?_ | refine wpS_reg ?_ | refine run_step rfl (by ((repeat' (first | exact aN | refine aC ?_ ?_ | intro _)) <;> first | assumption | omega | (simp only [obS] at *; omega) | (intros; first | rfl | assumption | omega | simp_all; done))) ?_ | refine run_nil ?_ | refine wpS_block ?_ | refine wpS_skip ?_ | refine wpS_exit ?_ | refine wpS_ret ?_))
      refine ⟨(q + 1, r), ⟨by dsimp only; omega, by dsimp only; omega, p3, fun _ => ?_, p5⟩, by dsimp only; omega, ?_⟩
      · dsimp only
        rw [show q + 1 - 1 = q by omega, show mid + m - (q + 1) = mid + m - 1 - q by omega]
        omega
      · refine ent_le ?_; (repeat' (first | exact aN | refine aC ?_ ?_)) <;> first | rfl | exact ⟨rfl, fun _ _ => rfl⟩
    · rw [cmpI_neg, e1] at h
      have hv : At.rank (c (mid + m - 1 - q)) < At.rank (c q) := by simpa using h
      (repeat (first | refine wpS_seq ?_ | refine wpS_reg ?_ | refine run_step rfl (by ((repeat' (first | exact aN | refine aC ?_ ?_ | intro _)) <;> first | assumption | omega | (simp only [obS] at *; omega) | (intros; first | rfl | assumption | omega | simp_all; done))) ?_ | refine run_nil ?_ | refine wpS_block ?_ | refine wpS_skip ?_ | refine wpS_exit ?_ | refine wpS_ret ?_))
      refine ⟨(st, q), ⟨p1, q1, by dsimp only; omega, p4, fun _ => hv⟩, by dsimp only; omega, ?_⟩
      refine ent_le ?_; (repeat' (first | exact aN | refine aC ?_ ?_)) <;> first | rfl | exact ⟨rfl, fun _ _ => rfl⟩
  have hsr : st = r := by simp at h; omega
  subst hsr
  clear h
  have hp : Parts At.rank c a m b st (mid + m - st) mid := by
    refine ⟨by omega, by omega, by omega, by omega, by omega, hs1, hs2, fun t1 t2 => ?_, fun t1 t2 => ?_⟩
    · have := p5 (by omega)
      rwa [show mid + m - st - 1 = mid + m - 1 - st by omega]
    · exact p4 (by omega)
  obtain ⟨en, hen⟩ : ∃ en, en = mid + m - st := ⟨_, rfl⟩
  rw [← hen] at hp
  have hen' : (mid : Int) + (m : Int) - (st : Int) = (en : Nat) := by omega
  have w1 := hp.h1; have w2 := hp.h2; have w3 := hp.h3; have w4 := hp.h4; have w5 := hp.h5
  clear p4 p5
  (repeat (first | refine wpS_seq ?_ | refine wpS_reg ?_ | refine run_step rfl (by ((repeat' (first | exact aN | refine aC ?_ ?_ | intro _)) <;> first | assumption | omega | (simp only [obS] at *; omega) | (intros; first | rfl | assumption | omega | simp_all; done))) ?_ | refine run_nil ?_ | refine wpS_block ?_ | refine wpS_skip ?_ | refine wpS_exit ?_ | refine wpS_ret ?_))
  refine wpS_ent (ent_slot 24 (.int .i64 (en : Nat)) ⟨hen', trivial⟩) ?_
  refine wpS_join (fun _ : Unit => True) (fun _ => ⟨[(0, .ref PB), (1, .int .i64 (a : Nat)), (3, .int .i64 (b : Nat)), (4, .fn 130 []), (18, .int .i64 (mid : Nat)), (20, .int .i64 (st : Nat)), (24, .int .i64 (en : Nat))], [(PB, .row 57 3 n fun t => atA (rotC c st m en t))]⟩) ?_ ?_
  · refine wpS_cond rfl (by ((repeat' (first | exact aN | refine aC ?_ ?_ | intro _)) <;> first | assumption | omega | (simp only [obS] at *; omega) | (intros; first | rfl | assumption | omega | simp_all; done))) (fun h => ?_) (fun h => ?_)
    · have hv : st < m ∧ m < en := by
        rw [hen', bif_and, Bool.and_eq_true, decide_eq_true_eq, decide_eq_true_eq] at h
        omega
      clear h
      (repeat (first | refine wpS_seq ?_ | refine wpS_reg ?_ | refine run_step rfl (by ((repeat' (first | exact aN | refine aC ?_ ?_ | intro _)) <;> first | assumption | omega | (simp only [obS] at *; omega) | (intros; first | rfl | assumption | omega | simp_all; done))) ?_ | refine run_nil ?_ | refine wpS_block ?_ | refine wpS_skip ?_ | refine wpS_exit ?_ | refine wpS_ret ?_))
      refine run_cR id [PB] (atrot_spec c n st m en hv.1 hv.2 (by omega) hn) rfl rfl ⟨rfl, trivial⟩ rfl ?_
      (repeat (first | refine wpS_seq ?_ | refine wpS_reg ?_ | refine run_step rfl (by ((repeat' (first | exact aN | refine aC ?_ ?_ | intro _)) <;> first | assumption | omega | (simp only [obS] at *; omega) | (intros; first | rfl | assumption | omega | simp_all; done))) ?_ | refine run_nil ?_ | refine wpS_block ?_ | refine wpS_skip ?_ | refine wpS_exit ?_ | refine wpS_ret ?_))
      refine ⟨(), trivial, ?_⟩
      refine ent_le ?_; (repeat' (first | exact aN | refine aC ?_ ?_)) <;> first | rfl | omega | (dsimp only; omega) | exact ⟨rfl, fun _ _ => rfl⟩
    · have hv : st = m ∨ m = en := by
        rw [hen', bif_and, Bool.and_eq_false_iff, decide_eq_false_iff_not, decide_eq_false_iff_not] at h
        omega
      clear h
      (repeat (first | refine wpS_seq ?_ | refine wpS_reg ?_ | refine run_step rfl (by ((repeat' (first | exact aN | refine aC ?_ ?_ | intro _)) <;> first | assumption | omega | (simp only [obS] at *; omega) | (intros; first | rfl | assumption | omega | simp_all; done))) ?_ | refine run_nil ?_ | refine wpS_block ?_ | refine wpS_skip ?_ | refine wpS_exit ?_ | refine wpS_ret ?_))
      refine ⟨(), trivial, ?_⟩
      refine ent_le ?_; (repeat' (first | exact aN | refine aC ?_ ?_)) <;> first | rfl | omega | exact ⟨rfl, fun t _ => by rw [rot_none c hv w2 w3]⟩
  rintro _ _
  have s1 := hp.p1; have s2 := hp.p2; have s3 := hp.q3; have s4 := hp.q4; have hd := hp.done
  obtain ⟨c1, hc1⟩ : ∃ c1, c1 = rotC c st m en := ⟨_, rfl⟩
  rw [← hc1] at s1 s2 s3 s4 hd ⊢
  (repeat (first | refine wpS_seq ?_ | refine wpS_reg ?_ | refine run_step rfl (by ((repeat' (first | exact aN | refine aC ?_ ?_ | intro _)) <;> first | assumption | omega | (simp only [obS] at *; omega) | (intros; first | rfl | assumption | omega | simp_all; done))) ?_ | refine run_nil ?_ | refine wpS_block ?_ | refine wpS_skip ?_ | refine wpS_exit ?_ | refine wpS_ret ?_))
  refine wpS_join (fun _ : Unit => True) (fun _ => ⟨[(0, .ref PB), (3, .int .i64 (b : Nat)), (4, .fn 130 []), (18, .int .i64 (mid : Nat)), (24, .int .i64 (en : Nat))], [(PB, .row 57 3 n fun t => atA (sortC At.rank c1 a mid t))]⟩) ?_ ?_
  · refine wpS_cond rfl (by ((repeat' (first | exact aN | refine aC ?_ ?_ | intro _)) <;> first | assumption | omega | (simp only [obS] at *; omega) | (intros; first | rfl | assumption | omega | simp_all; done))) (fun h => ?_) (fun h => ?_)
    · have hv : a < st ∧ st < mid := by
        rw [bif_and, Bool.and_eq_true, decide_eq_true_eq, decide_eq_true_eq] at h
        omega
      clear h
      (repeat (first | refine wpS_seq ?_ | refine wpS_reg ?_ | refine run_step rfl (by ((repeat' (first | exact aN | refine aC ?_ ?_ | intro _)) <;> first | assumption | omega | (simp only [obS] at *; omega) | (intros; first | rfl | assumption | omega | simp_all; done))) ?_ | refine run_nil ?_ | refine wpS_block ?_ | refine wpS_skip ?_ | refine wpS_exit ?_ | refine wpS_ret ?_))
      refine run_cR id [PB] (ih c1 n a st mid (by omega) hv.1 hv.2 (by omega) hn s1 s2) rfl rfl ⟨rfl, trivial⟩ rfl ?_
      (repeat (first | refine wpS_seq ?_ | refine wpS_reg ?_ | refine run_step rfl (by ((repeat' (first | exact aN | refine aC ?_ ?_ | intro _)) <;> first | assumption | omega | (simp only [obS] at *; omega) | (intros; first | rfl | assumption | omega | simp_all; done))) ?_ | refine run_nil ?_ | refine wpS_block ?_ | refine wpS_skip ?_ | refine wpS_exit ?_ | refine wpS_ret ?_))
      refine ⟨(), trivial, ?_⟩
      refine ent_le ?_; (repeat' (first | exact aN | refine aC ?_ ?_)) <;> first | rfl | omega | (dsimp only; omega) | exact ⟨rfl, fun _ _ => rfl⟩
    · have hv : st = a ∨ st = mid := by
        rw [bif_and, Bool.and_eq_false_iff, decide_eq_false_iff_not, decide_eq_false_iff_not] at h
        omega
      clear h
      have hid : sortC At.rank c1 a mid = c1 := by
        rcases hv with hv | hv
        · exact sortC_id (hv ▸ s2)
        · exact sortC_id (hv ▸ s1)
      (repeat (first | refine wpS_seq ?_ | refine wpS_reg ?_ | refine run_step rfl (by ((repeat' (first | exact aN | refine aC ?_ ?_ | intro _)) <;> first | assumption | omega | (simp only [obS] at *; omega) | (intros; first | rfl | assumption | omega | simp_all; done))) ?_ | refine run_nil ?_ | refine wpS_block ?_ | refine wpS_skip ?_ | refine wpS_exit ?_ | refine wpS_ret ?_))
      refine ⟨(), trivial, ?_⟩
      refine ent_le ?_; (repeat' (first | exact aN | refine aC ?_ ?_)) <;> first | rfl | omega | exact ⟨rfl, fun t _ => by rw [hid]⟩
  rintro _ _
  obtain ⟨c2, hc2⟩ : ∃ c2, c2 = sortC At.rank c1 a mid := ⟨_, rfl⟩
  rw [← hc2] at s3 s4 hd ⊢
  (repeat (first | refine wpS_seq ?_ | refine wpS_reg ?_ | refine run_step rfl (by ((repeat' (first | exact aN | refine aC ?_ ?_ | intro _)) <;> first | assumption | omega | (simp only [obS] at *; omega) | (intros; first | rfl | assumption | omega | simp_all; done))) ?_ | refine run_nil ?_ | refine wpS_block ?_ | refine wpS_skip ?_ | refine wpS_exit ?_ | refine wpS_ret ?_))
  refine wpS_cond rfl (by ((repeat' (first | exact aN | refine aC ?_ ?_ | intro _)) <;> first | assumption | omega | (simp only [obS] at *; omega) | (intros; first | rfl | assumption | omega | simp_all; done))) (fun h => ?_) (fun h => ?_)
  · have hv : mid < en ∧ en < b := by
      rw [bif_and, Bool.and_eq_true, decide_eq_true_eq, decide_eq_true_eq] at h
      omega
    clear h
    (repeat (first | refine wpS_seq ?_ | refine wpS_reg ?_ | refine run_step rfl (by ((repeat' (first | exact aN | refine aC ?_ ?_ | intro _)) <;> first | assumption | omega | (simp only [obS] at *; omega) | (intros; first | rfl | assumption | omega | simp_all; done))) ?_ | refine run_nil ?_ | refine wpS_block ?_ | refine wpS_skip ?_ | refine wpS_exit ?_ | refine wpS_ret ?_))
    refine run_cR id [PB] (ih c2 n mid en b (by omega) hv.1 hv.2 (by omega) hn s3 s4) rfl rfl ⟨rfl, trivial⟩ rfl ?_
    (repeat (first | refine wpS_seq ?_ | refine wpS_reg ?_ | refine run_step rfl (by ((repeat' (first | exact aN | refine aC ?_ ?_ | intro _)) <;> first | assumption | omega | (simp only [obS] at *; omega) | (intros; first | rfl | assumption | omega | simp_all; done))) ?_ | refine run_nil ?_ | refine wpS_block ?_ | refine wpS_skip ?_ | refine wpS_exit ?_ | refine wpS_ret ?_))
    refine fin_mkR rfl ?_ ?_ <;> (repeat' (first | exact aN | refine aC ?_ ?_))
    exact ⟨rfl, fun t _ => by dsimp only; rw [hd]⟩
  · have hv : mid = en ∨ en = b := by
      rw [bif_and, Bool.and_eq_false_iff, decide_eq_false_iff_not, decide_eq_false_iff_not] at h
      omega
    clear h
    have hid : sortC At.rank c2 mid b = c2 := by
      rcases hv with hv | hv
      · exact sortC_id (hv ▸ s4)
      · exact sortC_id (hv ▸ s3)
    (repeat (first | refine wpS_seq ?_ | refine wpS_reg ?_ | refine run_step rfl (by ((repeat' (first | exact aN | refine aC ?_ ?_ | intro _)) <;> first | assumption | omega | (simp only [obS] at *; omega) | (intros; first | rfl | assumption | omega | simp_all; done))) ?_ | refine run_nil ?_ | refine wpS_block ?_ | refine wpS_skip ?_ | refine wpS_exit ?_ | refine wpS_ret ?_))
    refine fin_mkR rfl ?_ ?_ <;> (repeat' (first | exact aN | refine aC ?_ ?_))
    exact ⟨rfl, fun t _ => by dsimp only; rw [← hd, hid]⟩
end Go.Proofs
end
/- part BkAtStab -/
section
namespace Go.Proofs
open Go.Av Go.Pu
set_option maxHeartbeats 4000000 in
theorem atstab_spec (c : Nat → At) (n : Nat) (hn : n ≤ maxL) : SpecR Tryz.prog 155 [.ref PB, .int .i64 (n : Nat), .fn 130 []] [(PB, .row 57 3 n fun t => atA (c t))] (.tup []) [(PB, .row 57 3 n fun t => atA (sortC At.rank c 0 n t))] := by
  have hn' := hn
  rw [maxL_eq] at hn'
  refine specR ok155 fun C _ => ?_
  (repeat (first | refine wpS_seq ?_ | refine wpS_reg ?_ | refine run_step rfl (by ((repeat' (first | exact aN | refine aC ?_ ?_ | intro _)) <;> first | assumption | omega | (simp only [obS] at *; omega) | (intros; first | rfl | assumption | omega | simp_all; done))) ?_ | refine run_nil ?_ | refine wpS_block ?_ | refine wpS_skip ?_ | refine wpS_exit ?_ | refine wpS_ret ?_))
  refine wpS_loop (fun (p : Nat × (Nat → At)) => p.1 ≤ n ∧ 20 ∣ p.1 ∧ BS At.rank p.2 20 p.1 ∧ Same At.rank c p.2 n) (fun p => ⟨[(0, .ref PB), (1, .int .i64 (n : Nat)), (2, .fn 130 []), (6, .int .i64 20), (7, .int .i64 (p.1 : Nat)), (8, .int .i64 ((p.1 : Nat) + 20 : Int))], [(PB, .row 57 3 n fun t => atA (p.2 t))]⟩) (fun p => n - p.1) (0, c)
    ⟨by omega, ⟨0, rfl⟩, BS.zero _ _, Same.refl _ _⟩ (by refine ent_le ?_; (repeat' (first | exact aN | refine aC ?_ ?_)) <;> first | rfl | exact ⟨rfl, fun _ _ => rfl⟩) ?_
  rintro ⟨a, d⟩ ⟨p1, p2, p3, p4⟩
  dsimp only at p1 p2 p3 p4 ⊢
  (repeat (first | refine wpS_seq ?_ | refine wpS_reg ?_ | refine run_step rfl (by ((repeat' (first | exact aN | refine aC ?_ ?_ | intro _)) <;> first | assumption | omega | (simp only [obS] at *; omega) | (intros; first | rfl | assumption | omega | simp_all; done))) ?_ | refine run_nil ?_ | refine wpS_block ?_ | refine wpS_skip ?_ | refine wpS_exit ?_ | refine wpS_ret ?_))
  refine wpS_cond rfl (by ((repeat' (first | exact aN | refine aC ?_ ?_ | intro _)) <;> first | assumption | omega | (simp only [obS] at *; omega) | (intros; first | rfl | assumption | omega | simp_all; done))) (fun h => ?_) (fun h => ?_)
  · have hle : a + 20 ≤ n := by simp at h; omega
    clear h
    (repeat (first | refine wpS_seq ?_ | refine wpS_reg ?_ | refine run_step rfl (by ((repeat' (first | exact aN | refine aC ?_ ?_ | intro _)) <;> first | assumption | omega | (simp only [obS] at *; omega) | (intros; first | rfl | assumption | omega | simp_all; done))) ?_ | refine run_nil ?_ | refine wpS_block ?_ | refine wpS_skip ?_ | refine wpS_exit ?_ | refine wpS_ret ?_))
    refine run_cR id [PB] (atins_spec d n a (a + 20) (by omega) hle hn) rfl rfl ⟨rfl, trivial⟩ rfl ?_
    (repeat (first | refine wpS_seq ?_ | refine wpS_reg ?_ | refine run_step rfl (by ((repeat' (first | exact aN | refine aC ?_ ?_ | intro _)) <;> first | assumption | omega | (simp only [obS] at *; omega) | (intros; first | rfl | assumption | omega | simp_all; done))) ?_ | refine run_nil ?_ | refine wpS_block ?_ | refine wpS_skip ?_ | refine wpS_exit ?_ | refine wpS_ret ?_))
    refine ⟨(a + 20, sortC At.rank d a (a + 20)), ⟨hle, (Nat.dvd_add_right p2).2 (Nat.dvd_refl _), p3.next p2 _, p4.sort (by omega) hle⟩, by dsimp only; omega, ?_⟩
    refine ent_le ?_; (repeat' (first | exact aN | refine aC ?_ ?_)) <;> first | rfl | omega | (dsimp only; omega) | exact ⟨rfl, fun _ _ => rfl⟩
  have hlt : n < a + 20 := by simp at h; omega
  clear h
  (repeat (first | refine wpS_seq ?_ | refine wpS_reg ?_ | refine run_step rfl (by ((repeat' (first | exact aN | refine aC ?_ ?_ | intro _)) <;> first | assumption | omega | (simp only [obS] at *; omega) | (intros; first | rfl | assumption | omega | simp_all; done))) ?_ | refine run_nil ?_ | refine wpS_block ?_ | refine wpS_skip ?_ | refine wpS_exit ?_ | refine wpS_ret ?_))
  refine run_cR id [PB] (atins_spec d n a n p1 (Nat.le_refl _) hn) rfl rfl ⟨rfl, trivial⟩ rfl ?_
  (repeat (first | refine wpS_seq ?_ | refine wpS_reg ?_ | refine run_step rfl (by ((repeat' (first | exact aN | refine aC ?_ ?_ | intro _)) <;> first | assumption | omega | (simp only [obS] at *; omega) | (intros; first | rfl | assumption | omega | simp_all; done))) ?_ | refine run_nil ?_ | refine wpS_block ?_ | refine wpS_skip ?_ | refine wpS_exit ?_ | refine wpS_ret ?_))
  have q1 := p3.next p2 n
  have q2 := p4.sort p1 (Nat.le_refl n)
  clear p3 p4
  generalize sortC At.rank d a n = d0 at q1 q2 ⊢
  refine wpS_loop (fun (p : Nat × (Nat → At)) => 0 < p.1 ∧ p.1 ≤ 2 * n + 20 ∧ BS At.rank p.2 p.1 n ∧ Same At.rank c p.2 n) (fun p => ⟨[(0, .ref PB), (1, .int .i64 (n : Nat)), (2, .fn 130 []), (6, .int .i64 (p.1 : Nat))], [(PB, .row 57 3 n fun t => atA (p.2 t))]⟩) (fun p => n - p.1) (20, d0)
    ⟨by omega, by omega, q1, q2⟩ (by refine ent_le ?_; (repeat' (first | exact aN | refine aC ?_ ?_)) <;> first | rfl | exact ⟨rfl, fun _ _ => rfl⟩) ?_
  clear q1 q2 p1 p2 hlt
  rintro ⟨B, d⟩ ⟨p1, p2, p3, p4⟩
  dsimp only at p1 p2 p3 p4 ⊢
  (repeat (first | refine wpS_seq ?_ | refine wpS_reg ?_ | refine run_step rfl (by ((repeat' (first | exact aN | refine aC ?_ ?_ | intro _)) <;> first | assumption | omega | (simp only [obS] at *; omega) | (intros; first | rfl | assumption | omega | simp_all; done))) ?_ | refine run_nil ?_ | refine wpS_block ?_ | refine wpS_skip ?_ | refine wpS_exit ?_ | refine wpS_ret ?_))
  refine wpS_cond rfl (by ((repeat' (first | exact aN | refine aC ?_ ?_ | intro _)) <;> first | assumption | omega | (simp only [obS] at *; omega) | (intros; first | rfl | assumption | omega | simp_all; done))) (fun h => ?_) (fun h => ?_)
  · have hlt : B < n := by simp at h; omega
    clear h
    (repeat (first | refine wpS_seq ?_ | refine wpS_reg ?_ | refine run_step rfl (by ((repeat' (first | exact aN | refine aC ?_ ?_ | intro _)) <;> first | assumption | omega | (simp only [obS] at *; omega) | (intros; first | rfl | assumption | omega | simp_all; done))) ?_ | refine run_nil ?_ | refine wpS_block ?_ | refine wpS_skip ?_ | refine wpS_exit ?_ | refine wpS_ret ?_))
    refine wpS_loop (fun (p : Nat × (Nat → At)) => p.1 ≤ n ∧ 2 * B ∣ p.1 ∧ BS At.rank p.2 (2 * B) p.1 ∧ BS At.rank p.2 B n ∧ Same At.rank c p.2 n) (fun p => ⟨[(0, .ref PB), (1, .int .i64 (n : Nat)), (2, .fn 130 []), (6, .int .i64 (B : Nat)), (7, .int .i64 (p.1 : Nat)), (8, .int .i64 ((p.1 : Nat) + 2 * (B : Nat) : Int))], [(PB, .row 57 3 n fun t => atA (p.2 t))]⟩) (fun p => n - p.1) (0, d)
      ⟨by omega, ⟨0, rfl⟩, BS.zero _ _, p3, p4⟩ (by refine ent_le ?_; (repeat' (first | exact aN | refine aC ?_ ?_)) <;> first | rfl | omega | (dsimp only; omega) | exact ⟨rfl, fun _ _ => rfl⟩) ?_
    clear p3 p4
    rintro ⟨a, d⟩ ⟨r1, r2, r3, r4, r5⟩
    dsimp only at r1 r2 r3 r4 r5 ⊢
    have ra : B ∣ a := Nat.dvd_trans ⟨2, by omega⟩ r2
    (repeat (first | refine wpS_seq ?_ | refine wpS_reg ?_ | refine run_step rfl (by ((repeat' (first | exact aN | refine aC ?_ ?_ | intro _)) <;> first | assumption | omega | (simp only [obS] at *; omega) | (intros; first | rfl | assumption | omega | simp_all; done))) ?_ | refine run_nil ?_ | refine wpS_block ?_ | refine wpS_skip ?_ | refine wpS_exit ?_ | refine wpS_ret ?_))
    refine wpS_cond rfl (by ((repeat' (first | exact aN | refine aC ?_ ?_ | intro _)) <;> first | assumption | omega | (simp only [obS] at *; omega) | (intros; first | rfl | assumption | omega | simp_all; done))) (fun h => ?_) (fun h => ?_)
    · have hle : a + 2 * B ≤ n := by simp at h; omega
      clear h
      have e1 : (a : Int) + (B : Int) = ((a + B : Nat) : Int) := by omega
      have e2 : (a : Int) + 2 * (B : Int) = ((a + 2 * B : Nat) : Int) := by omega
      (repeat (first | refine wpS_seq ?_ | refine wpS_reg ?_ | refine run_step rfl (by ((repeat' (first | exact aN | refine aC ?_ ?_ | intro _)) <;> first | assumption | omega | (simp only [obS] at *; omega) | (intros; first | rfl | assumption | omega | simp_all; done))) ?_ | refine run_nil ?_ | refine wpS_block ?_ | refine wpS_skip ?_ | refine wpS_exit ?_ | refine wpS_ret ?_))
      rw [e1, e2]
      refine run_cR id [PB] (atsym_spec _ d n a (a + B) (a + 2 * B) (Nat.le_refl _) (by omega) (by omega) hle hn (r4.srt ra (Nat.le_refl _) (by omega)) (r4.srt ((Nat.dvd_add_right ra).2 (Nat.dvd_refl _)) (by omega) hle)) rfl rfl ⟨rfl, trivial⟩ rfl ?_
      (repeat (first | refine wpS_seq ?_ | refine wpS_reg ?_ | refine run_step rfl (by ((repeat' (first | exact aN | refine aC ?_ ?_ | intro _)) <;> first | assumption | omega | (simp only [obS] at *; omega) | (intros; first | rfl | assumption | omega | simp_all; done))) ?_ | refine run_nil ?_ | refine wpS_block ?_ | refine wpS_skip ?_ | refine wpS_exit ?_ | refine wpS_ret ?_))
      refine ⟨(a + 2 * B, sortC At.rank d a (a + 2 * B)), ⟨hle, (Nat.dvd_add_right r2).2 (Nat.dvd_refl _), r3.next r2 _, r4.sort ra (.inl ((Nat.dvd_add_right ra).2 ⟨2, by omega⟩)), r5.sort (by omega) hle⟩, by dsimp only; omega, ?_⟩
      refine ent_le ?_; (repeat' (first | exact aN | refine aC ?_ ?_)) <;> first | rfl | omega | (dsimp only; omega) | exact ⟨rfl, fun _ _ => rfl⟩
    have hlt2 : n < a + 2 * B := by simp at h; omega
    clear h
    (repeat (first | refine wpS_seq ?_ | refine wpS_reg ?_ | refine run_step rfl (by ((repeat' (first | exact aN | refine aC ?_ ?_ | intro _)) <;> first | assumption | omega | (simp only [obS] at *; omega) | (intros; first | rfl | assumption | omega | simp_all; done))) ?_ | refine run_nil ?_ | refine wpS_block ?_ | refine wpS_skip ?_ | refine wpS_exit ?_ | refine wpS_ret ?_))
    have e1 : (a : Int) + (B : Int) = ((a + B : Nat) : Int) := by omega
    rw [e1]
    refine wpS_cond rfl (by ((repeat' (first | exact aN | refine aC ?_ ?_ | intro _)) <;> first | assumption | omega | (simp only [obS] at *; omega) | (intros; first | rfl | assumption | omega | simp_all; done))) (fun h => ?_) (fun h => ?_)
    · have hm : a + B < n := by simp at h; omega
      clear h
      (repeat (first | refine wpS_seq ?_ | refine wpS_reg ?_ | refine run_step rfl (by ((repeat' (first | exact aN | refine aC ?_ ?_ | intro _)) <;> first | assumption | omega | (simp only [obS] at *; omega) | (intros; first | rfl | assumption | omega | simp_all; done))) ?_ | refine run_nil ?_ | refine wpS_block ?_ | refine wpS_skip ?_ | refine wpS_exit ?_ | refine wpS_ret ?_))
      refine run_cR id [PB] (atsym_spec _ d n a (a + B) n (Nat.le_refl _) (by omega) hm (Nat.le_refl _) hn (r4.srt ra (Nat.le_refl _) (by omega)) (r4.srt ((Nat.dvd_add_right ra).2 (Nat.dvd_refl _)) (by omega) (Nat.le_refl _))) rfl rfl ⟨rfl, trivial⟩ rfl ?_
      (repeat (first | refine wpS_seq ?_ | refine wpS_reg ?_ | refine run_step rfl (by ((repeat' (first | exact aN | refine aC ?_ ?_ | intro _)) <;> first | assumption | omega | (simp only [obS] at *; omega) | (intros; first | rfl | assumption | omega | simp_all; done))) ?_ | refine run_nil ?_ | refine wpS_block ?_ | refine wpS_skip ?_ | refine wpS_exit ?_ | refine wpS_ret ?_))
      refine ⟨(2 * B, sortC At.rank d a n), ⟨by dsimp only; omega, by dsimp only; omega, r3.next r2 _, r5.sort r1 (Nat.le_refl _)⟩, by dsimp only; omega, ?_⟩
      refine ent_le ?_; (repeat' (first | exact aN | refine aC ?_ ?_)) <;> first | rfl | omega | (dsimp only; omega) | exact ⟨rfl, fun _ _ => rfl⟩
    · have hm : n ≤ a + B := by simp at h; omega
      clear h
      (repeat (first | refine wpS_seq ?_ | refine wpS_reg ?_ | refine run_step rfl (by ((repeat' (first | exact aN | refine aC ?_ ?_ | intro _)) <;> first | assumption | omega | (simp only [obS] at *; omega) | (intros; first | rfl | assumption | omega | simp_all; done))) ?_ | refine run_nil ?_ | refine wpS_block ?_ | refine wpS_skip ?_ | refine wpS_exit ?_ | refine wpS_ret ?_))
      refine ⟨(2 * B, d), ⟨by dsimp only; omega, by dsimp only; omega, r3.last r4 r2 hm, r5⟩, by dsimp only; omega, ?_⟩
      refine ent_le ?_; (repeat' (first | exact aN | refine aC ?_ ?_)) <;> first | rfl | omega | (dsimp only; omega) | exact ⟨rfl, fun _ _ => rfl⟩
  · have hge : n ≤ B := by simp at h; omega
    clear h
    have hd := p4.done p3 hge
    (repeat (first | refine wpS_seq ?_ | refine wpS_reg ?_ | refine run_step rfl (by ((repeat' (first | exact aN | refine aC ?_ ?_ | intro _)) <;> first | assumption | omega | (simp only [obS] at *; omega) | (intros; first | rfl | assumption | omega | simp_all; done))) ?_ | refine run_nil ?_ | refine wpS_block ?_ | refine wpS_skip ?_ | refine wpS_exit ?_ | refine wpS_ret ?_))
    refine fin_mkR rfl ?_ ?_ <;> (repeat' (first | exact aN | refine aC ?_ ?_))
    exact ⟨rfl, fun t _ => by dsimp only; rw [← hd]⟩
theorem atsort_spec (l : List At) (hn : l.length ≤ maxL) : SpecR Tryz.prog 129 [.ref PB, .fn 130 []] [(PB, .row 57 3 l.length fun t => atA (l.getD t default))] (.tup []) [(PB, .row 57 3 (sortS At.rank l).length fun t => atA ((sortS At.rank l).getD t default))] := by
  refine specR ok129 fun C _ => ?_
  (repeat (first | refine wpS_seq ?_ | refine wpS_reg ?_ | refine run_step rfl (by ((repeat' (first | exact aN | refine aC ?_ ?_ | intro _)) <;> first | assumption | omega | (simp only [obS] at *; omega) | (intros; first | rfl | assumption | omega | simp_all; done))) ?_ | refine run_nil ?_ | refine wpS_block ?_ | refine wpS_skip ?_ | refine wpS_exit ?_ | refine wpS_ret ?_))
  refine run_cR id [PB] (atstab_spec (fun t => l.getD t default) l.length hn) rfl rfl ⟨rfl, trivial⟩ rfl ?_
  (repeat (first | refine wpS_seq ?_ | refine wpS_reg ?_ | refine run_step rfl (by ((repeat' (first | exact aN | refine aC ?_ ?_ | intro _)) <;> first | assumption | omega | (simp only [obS] at *; omega) | (intros; first | rfl | assumption | omega | simp_all; done))) ?_ | refine run_nil ?_ | refine wpS_block ?_ | refine wpS_skip ?_ | refine wpS_exit ?_ | refine wpS_ret ?_))
  refine fin_mkR rfl ?_ ?_ <;> (repeat' (first | exact aN | refine aC ?_ ?_))
  exact ⟨(length_sortS l).symm, fun t ht => by dsimp only; rw [sortC_list ht]⟩
end Go.Proofs
end
/- part BkAt -/
section
namespace Go.Proofs
open Go.Av Go.Pu
theorem attB_lt {l : List At} {k : Nat} (hk : k < l.length) (h : attB l k = false) : (List.range l.length).all (attB l) = false := by
  rw [List.all_eq_false]
  exact ⟨k, List.mem_range.2 hk, by simp [h]⟩
theorem attB_all {l : List At} (h : ∀ j, j < l.length → attB l j = true) : (List.range l.length).all (attB l) = true := by
  rw [List.all_eq_true]
  intro x hx
  exact h x (List.mem_range.1 hx)
theorem validAt_spec (r : AR) (l : List At) (hl : l.length ≤ maxL) : Spec0 Tryz.prog 87 [.agg (arA r), lsA 3 atA l] (.bool (validAt r l)) := by
  rw [maxL_eq] at hl
  refine spec0 ok87 rfl fun C _ => ?_
  (repeat (first | refine wpS_seq ?_ | refine wpS_reg ?_ | refine run_step rfl (by ((repeat' (first | exact aN | refine aC ?_ ?_ | intro _)) <;> first | assumption | omega | (simp only [obS] at *; omega) | (intros; first | rfl | assumption | omega | simp_all; done))) ?_ | refine run_nil ?_ | refine wpS_block ?_ | refine wpS_skip ?_ | refine wpS_exit ?_ | refine wpS_ret ?_))
  refine run_c ((atRight_spec r)) rfl (by ((repeat' (first | exact aN | refine aC ?_ ?_ | intro _)) <;> first | assumption | omega | (simp only [obS] at *; omega) | (intros; first | rfl | assumption | omega | simp_all; done))) rfl rfl (.inl rfl) ?_
  (repeat (first | refine wpS_seq ?_ | refine wpS_reg ?_ | refine run_step rfl (by ((repeat' (first | exact aN | refine aC ?_ ?_ | intro _)) <;> first | assumption | omega | (simp only [obS] at *; omega) | (intros; first | rfl | assumption | omega | simp_all; done))) ?_ | refine run_nil ?_ | refine wpS_block ?_ | refine wpS_skip ?_ | refine wpS_exit ?_ | refine wpS_ret ?_))
  refine wpS_cond rfl (by ((repeat' (first | exact aN | refine aC ?_ ?_ | intro _)) <;> first | assumption | omega | (simp only [obS] at *; omega) | (intros; first | rfl | assumption | omega | simp_all; done))) (fun h => ?_) (fun h => ?_)
  · (repeat (first | refine wpS_seq ?_ | refine wpS_reg ?_ | refine run_step rfl (by ((repeat' (first | exact aN | refine aC ?_ ?_ | intro _)) <;> first | assumption | omega | (simp only [obS] at *; omega) | (intros; first | rfl | assumption | omega | simp_all; done))) ?_ | refine run_nil ?_ | refine wpS_block ?_ | refine wpS_skip ?_ | refine wpS_exit ?_ | refine wpS_ret ?_))
    refine fin_mk rfl ?_; (repeat' (first | exact aN | refine aC ?_ ?_))
    unfold validAt
    by_cases h1 : (l.length : Int) ≤ r.most
    · have h2 : ¬ r.most < (l.length : Int) := by omega
      simp [h2] at h
      simp [h]
    · simp [h1]
  have hx : rightB r = true ∧ (l.length : Int) ≤ r.most := by
    by_cases h1 : (l.length : Int) ≤ r.most
    · have h2 : ¬ r.most < (l.length : Int) := by omega
      simp [h2] at h
      exact ⟨h, h1⟩
    · have h2 : r.most < (l.length : Int) := by omega
      simp [h2] at h
  clear h
  (repeat (first | refine wpS_seq ?_ | refine wpS_reg ?_ | refine run_step rfl (by ((repeat' (first | exact aN | refine aC ?_ ?_ | intro _)) <;> first | assumption | omega | (simp only [obS] at *; omega) | (intros; first | rfl | assumption | omega | simp_all; done))) ?_ | refine run_nil ?_ | refine wpS_block ?_ | refine wpS_skip ?_ | refine wpS_exit ?_ | refine wpS_ret ?_))
  refine wpS_loop (fun k => k ≤ l.length ∧ ∀ j, j < k → attB l j = true) (fun k => ⟨[(18, lsA 3 atA l), (19, .int .i64 (l.length : Nat)), (20, .int .i64 (k : Nat)), (5, .int .i64 (prevT l k))], []⟩) (fun k => l.length - k) 0 ⟨by omega, by omega⟩
    (by refine ent_le ?_; (repeat' (first | exact aN | refine aC ?_ ?_)) <;> first | rfl | exact ⟨rfl, fun _ _ => rfl⟩) ?_
  rintro k ⟨hk, hall⟩
  (repeat (first | refine wpS_seq ?_ | refine wpS_reg ?_ | refine run_step rfl (by ((repeat' (first | exact aN | refine aC ?_ ?_ | intro _)) <;> first | assumption | omega | (simp only [obS] at *; omega) | (intros; first | rfl | assumption | omega | simp_all; done))) ?_ | refine run_nil ?_ | refine wpS_block ?_ | refine wpS_skip ?_ | refine wpS_exit ?_ | refine wpS_ret ?_))
  refine wpS_cond rfl (by ((repeat' (first | exact aN | refine aC ?_ ?_ | intro _)) <;> first | assumption | omega | (simp only [obS] at *; omega) | (intros; first | rfl | assumption | omega | simp_all; done))) (fun h => ?_) (fun h => ?_)
  · have hlt : k < l.length := by simpa using h
    clear h
    have hB : attB l k = (decide ((l.getD k default).num = (k : Int) + 1) && (decide (prevT l k ≤ (l.getD k default).tick) && (timeB (l.getD k default).tick && (decide (0 ≤ (l.getD k default).hun) && decide ((l.getD k default).hun ≤ 100000000))))) := rfl
    have hP : prevT l (k + 1) = (l.getD k default).tick := by unfold prevT; rw [if_neg (by omega)]; rfl
    obtain ⟨a, hae⟩ : ∃ a, a = l.getD k default := ⟨_, rfl⟩
    rw [← hae] at hB hP
    (repeat (first | refine wpS_seq ?_ | refine wpS_reg ?_ | refine run_step rfl (by ((repeat' (first | exact aN | refine aC ?_ ?_ | intro _)) <;> first | assumption | omega | (simp only [obS] at *; omega) | (intros; first | rfl | assumption | omega | simp_all; done))) ?_ | refine run_nil ?_ | refine wpS_block ?_ | refine wpS_skip ?_ | refine wpS_exit ?_ | refine wpS_ret ?_))
    rw [show ((k : Int)).toNat = k from Int.toNat_natCast k, ← hae]
    (repeat (first | refine wpS_seq ?_ | refine wpS_reg ?_ | refine run_step rfl (by ((repeat' (first | exact aN | refine aC ?_ ?_ | intro _)) <;> first | assumption | omega | (simp only [obS] at *; omega) | (intros; first | rfl | assumption | omega | simp_all; done))) ?_ | refine run_nil ?_ | refine wpS_block ?_ | refine wpS_skip ?_ | refine wpS_exit ?_ | refine wpS_ret ?_))
    refine run_cg rfl (fun hG => ((atTime_spec a.tick))) rfl (fun hG => by ((repeat' (first | exact aN | refine aC ?_ ?_ | intro _)) <;> first | assumption | omega | (simp only [obS] at *; omega) | (intros; first | rfl | assumption | omega | simp_all; done))) rfl rfl (.inl rfl) ?_
    generalize hp : prevT l k = pv at hB ⊢
    (repeat (first | refine wpS_seq ?_ | refine wpS_reg ?_ | refine run_step rfl (by ((repeat' (first | exact aN | refine aC ?_ ?_ | intro _)) <;> first | assumption | omega | (simp only [obS] at *; omega) | (intros; first | rfl | assumption | omega | simp_all; done))) ?_ | refine run_nil ?_ | refine wpS_block ?_ | refine wpS_skip ?_ | refine wpS_exit ?_ | refine wpS_ret ?_))
    refine wpS_cond rfl (by ((repeat' (first | exact aN | refine aC ?_ ?_ | intro _)) <;> first | assumption | omega | (simp only [obS] at *; omega) | (intros; first | rfl | assumption | omega | simp_all; done))) (fun h => ?_) (fun h => ?_)
    · have hf : attB l k = false := by
        rw [hB]
        revert h
        cases timeB a.tick <;> by_cases h1 : a.num = (k : Int) + 1 <;> by_cases h2 : a.tick < pv <;> by_cases h3 : a.hun < 0 <;> by_cases h4 : 100000000 < a.hun <;> simp [h1, h2, h3, h4] <;> omega
      (repeat (first | refine wpS_seq ?_ | refine wpS_reg ?_ | refine run_step rfl (by ((repeat' (first | exact aN | refine aC ?_ ?_ | intro _)) <;> first | assumption | omega | (simp only [obS] at *; omega) | (intros; first | rfl | assumption | omega | simp_all; done))) ?_ | refine run_nil ?_ | refine wpS_block ?_ | refine wpS_skip ?_ | refine wpS_exit ?_ | refine wpS_ret ?_))
      refine fin_mk rfl ?_; (repeat' (first | exact aN | refine aC ?_ ?_))
      unfold validAt
      rw [attB_lt hlt hf]
      simp
    · have hf : attB l k = true := by
        rw [hB]
        revert h
        cases timeB a.tick <;> by_cases h1 : a.num = (k : Int) + 1 <;> by_cases h2 : a.tick < pv <;> by_cases h3 : a.hun < 0 <;> by_cases h4 : 100000000 < a.hun <;> simp [h1, h2, h3, h4] <;> omega
      clear h
      (repeat (first | refine wpS_seq ?_ | refine wpS_reg ?_ | refine run_step rfl (by ((repeat' (first | exact aN | refine aC ?_ ?_ | intro _)) <;> first | assumption | omega | (simp only [obS] at *; omega) | (intros; first | rfl | assumption | omega | simp_all; done))) ?_ | refine run_nil ?_ | refine wpS_block ?_ | refine wpS_skip ?_ | refine wpS_exit ?_ | refine wpS_ret ?_))
      refine ⟨k + 1, ⟨by omega, fun j hj => ?_⟩, by dsimp only; omega, ?_⟩
      · by_cases hjk : j = k
        · rw [hjk]; exact hf
        · exact hall j (by omega)
      · dsimp only
        rw [hP]
        refine ent_le ?_; (repeat' (first | exact aN | refine aC ?_ ?_)) <;> first | rfl | exact ⟨rfl, fun _ _ => rfl⟩
  · have hlt : k = l.length := by simp at h; omega
    subst hlt
    clear h
    (repeat (first | refine wpS_seq ?_ | refine wpS_reg ?_ | refine run_step rfl (by ((repeat' (first | exact aN | refine aC ?_ ?_ | intro _)) <;> first | assumption | omega | (simp only [obS] at *; omega) | (intros; first | rfl | assumption | omega | simp_all; done))) ?_ | refine run_nil ?_ | refine wpS_block ?_ | refine wpS_skip ?_ | refine wpS_exit ?_ | refine wpS_ret ?_))
    refine fin_mk rfl ?_; (repeat' (first | exact aN | refine aC ?_ ?_))
    unfold validAt
    rw [hx.1, attB_all hall]
    simp [hx.2]
def revC (c : Nat → At) (n i : Nat) : Nat → At := fun t => if t < i ∨ n ≤ t + i then c (n - 1 - t) else c t
theorem rev_spec (c : Nat → At) (n : Nat) (hn : n ≤ maxL) : SpecR Tryz.prog 128 [.ref PB] [(PB, .row 57 3 n fun t => atA (c t))] (.tup []) [(PB, .row 57 3 n fun t => atA (c (n - 1 - t)))] := by
  rw [maxL_eq] at hn
  refine specR ok128 fun C _ => ?_
  (repeat (first | refine wpS_seq ?_ | refine wpS_reg ?_ | refine run_step rfl (by ((repeat' (first | exact aN | refine aC ?_ ?_ | intro _)) <;> first | assumption | omega | (simp only [obS] at *; omega) | (intros; first | rfl | assumption | omega | simp_all; done))) ?_ | refine run_nil ?_ | refine wpS_block ?_ | refine wpS_skip ?_ | refine wpS_exit ?_ | refine wpS_ret ?_))
  refine wpS_loop (fun i => 2 * i ≤ n + 1) (fun i => ⟨[(0, .ref PB), (2, .int .i64 (i : Nat)), (3, .int .i64 ((n : Int) - 1 - (i : Nat)))], [(PB, .row 57 3 n fun t => atA (revC c n i t))]⟩) (fun i => n - i) 0 (by omega)
    (by refine ent_le ?_; (repeat' (first | exact aN | refine aC ?_ ?_)) <;> first | rfl | omega | (dsimp only; omega) | exact ⟨rfl, fun t _ => by simp only [revC]; rw [if_neg (by omega)]⟩) ?_
  rintro i hi
  (repeat (first | refine wpS_seq ?_ | refine wpS_reg ?_ | refine run_step rfl (by ((repeat' (first | exact aN | refine aC ?_ ?_ | intro _)) <;> first | assumption | omega | (simp only [obS] at *; omega) | (intros; first | rfl | assumption | omega | simp_all; done))) ?_ | refine run_nil ?_ | refine wpS_block ?_ | refine wpS_skip ?_ | refine wpS_exit ?_ | refine wpS_ret ?_))
  refine wpS_cond rfl (by ((repeat' (first | exact aN | refine aC ?_ ?_ | intro _)) <;> first | assumption | omega | (simp only [obS] at *; omega) | (intros; first | rfl | assumption | omega | simp_all; done))) (fun h => ?_) (fun h => ?_)
  · have hlt : (i : Int) < (n : Int) - 1 - (i : Int) := by simpa using h
    clear h
    (repeat (first | refine wpS_seq ?_ | refine wpS_reg ?_ | refine run_step rfl (by ((repeat' (first | exact aN | refine aC ?_ ?_ | intro _)) <;> first | assumption | omega | (simp only [obS] at *; omega) | (intros; first | rfl | assumption | omega | simp_all; done))) ?_ | refine run_nil ?_ | refine wpS_block ?_ | refine wpS_skip ?_ | refine wpS_exit ?_ | refine wpS_ret ?_))
    refine wpS_D (by kernel_rfl) ?_; (repeat (refine trg_step rfl (by ((repeat' (first | exact aN | refine aC ?_ ?_ | intro _)) <;> first | assumption | omega | (simp only [obS] at *; omega) | (intros; first | rfl | assumption | omega | simp_all; done))) ?_)); refine trg_nil ⟨rfl, ?_⟩
    (repeat (first | refine wpS_seq ?_ | refine wpS_reg ?_ | refine run_step rfl (by ((repeat' (first | exact aN | refine aC ?_ ?_ | intro _)) <;> first | assumption | omega | (simp only [obS] at *; omega) | (intros; first | rfl | assumption | omega | simp_all; done))) ?_ | refine run_nil ?_ | refine wpS_block ?_ | refine wpS_skip ?_ | refine wpS_exit ?_ | refine wpS_ret ?_))
    refine ⟨i + 1, by omega, by dsimp only; omega, ?_⟩
    refine ent_le ?_; (repeat' (first | exact aN | refine aC ?_ ?_)) <;> first | rfl | omega | (dsimp only; omega) | (refine ⟨rfl, fun t ht => ?_⟩)
    have e1 : ((n : Int) - 1 - (i : Int)).toNat = n - 1 - i := by omega
    have e2 : (i : Int).toNat = i := by omega
    simp only [e1, e2, stored_eq]
    by_cases t1 : t = n - 1 - i
    · have t2 : ¬ t = i := by omega
      simp only [if_pos t1]
      have b1 : revC c n (i + 1) t = revC c n i i := by
        unfold revC
        rw [if_pos (by omega), if_neg (by omega), show n - 1 - t = i by omega]
      rw [b1, if_neg t2]
      rfl
    · simp only [if_neg t1]
      by_cases t2 : t = i
      · simp only [if_pos t2]
        have b1 : revC c n (i + 1) t = revC c n i (n - 1 - i) := by
          unfold revC
          rw [if_pos (by omega), if_neg (by omega), t2]
        rw [b1]
        rfl
      · simp only [if_neg t2]
        have b1 : revC c n (i + 1) t = revC c n i t := by
          unfold revC
          by_cases q : t < i ∨ n ≤ t + i
          · rw [if_pos (by omega), if_pos q]
          · rw [if_neg (by omega), if_neg q]
        rw [b1]
  · have hlt : ¬ (i : Int) < (n : Int) - 1 - (i : Int) := by simpa using h
    (repeat (first | refine wpS_seq ?_ | refine wpS_reg ?_ | refine run_step rfl (by ((repeat' (first | exact aN | refine aC ?_ ?_ | intro _)) <;> first | assumption | omega | (simp only [obS] at *; omega) | (intros; first | rfl | assumption | omega | simp_all; done))) ?_ | refine run_nil ?_ | refine wpS_block ?_ | refine wpS_skip ?_ | refine wpS_exit ?_ | refine wpS_ret ?_))
    refine fin_mkR rfl ?_ ?_ <;> (repeat' (first | exact aN | refine aC ?_ ?_))
    all_goals first | rfl | (refine ⟨rfl, fun t ht => ?_⟩)
    have : revC c n i t = c (n - 1 - t) := by
      unfold revC
      split
      · rfl
      · rw [show n - 1 - t = t by omega]
    dsimp only
    rw [this]
theorem rev_get {l : List At} {t : Nat} (h : t < l.length) : l.reverse.getD t default = l.getD (l.length - 1 - t) default := by
  simp only [List.getD_eq_getElem?_getD, List.getElem?_reverse h]
def ρt (q : Nat) : Nat := bif Nat.beq q PB then 9 else q
theorem take_get {l : List At} {m t : Nat} (h : t < m) : (l.take m).getD t default = l.getD t default := by
  simp only [List.getD_eq_getElem?_getD, List.getElem?_take, if_pos h]
theorem chosen_done {S : List At} {K N : Int} {n : Nat} {g : Nat → List AV} (hn : S.length = n) (hN : N = if (n : Int) < K then (n : Int) else K) (hK : 1 ≤ K) (hg : ∀ t, t < n → g t = atA (S.getD t default)) :
    N.toNat - (0 : Int).toNat = (S.take (min K n).toNat).length ∧ ∀ i, i < N.toNat - (0 : Int).toNat → g ((0 : Int).toNat + i) = atA ((S.take (min K n).toNat).getD i default) := by
  have hm : N = min K n := by
    rw [hN]
    split <;> omega
  rw [hm, List.length_take, hn]
  have h0 : (0 : Int).toNat = 0 := rfl
  rw [h0]
  refine ⟨by omega, fun i hi => ?_⟩
  rw [Nat.zero_add, hg i (by omega), take_get (by omega)]
theorem keepA_pos (r : AR) : 1 ≤ keepA r := by
  unfold keepA
  split <;> omega
theorem chosen_spec (r : AR) (l : List At) (hl : l.length ≤ 1000000) : Spec0 Tryz.prog 109 [.agg (arA r), lsA 3 atA l] (lsA 3 atA (chosenA r l)) := by
  refine spec0 ok109 rfl fun C _ => ?_
  (repeat (first | refine wpS_seq ?_ | refine wpS_reg ?_ | refine run_step rfl (by ((repeat' (first | exact aN | refine aC ?_ ?_ | intro _)) <;> first | assumption | omega | (simp only [obS] at *; omega) | (intros; first | rfl | assumption | omega | simp_all; done))) ?_ | refine run_nil ?_ | refine wpS_block ?_ | refine wpS_skip ?_ | refine wpS_exit ?_ | refine wpS_ret ?_))
  refine wpS_ent (ent_row 9 l.length (fun t => atA (l.getD t default)) rfl (by simp) (fun j hj => by rw [copied_eq, if_pos (by simpa using hj)])) ?_
  refine wpS_cond rfl (by ((repeat' (first | exact aN | refine aC ?_ ?_ | intro _)) <;> first | assumption | omega | (simp only [obS] at *; omega) | (intros; first | rfl | assumption | omega | simp_all; done))) (fun h => ?_) (fun h => ?_)
  · have hk : r.kind = 1 := by simpa using h
    clear h
    (repeat (first | refine wpS_seq ?_ | refine wpS_reg ?_ | refine run_step rfl (by ((repeat' (first | exact aN | refine aC ?_ ?_ | intro _)) <;> first | assumption | omega | (simp only [obS] at *; omega) | (intros; first | rfl | assumption | omega | simp_all; done))) ?_ | refine run_nil ?_ | refine wpS_block ?_ | refine wpS_skip ?_ | refine wpS_exit ?_ | refine wpS_ret ?_))
    refine run_cR ρt [PB] (rev_spec (fun t => l.getD t default) l.length (Nat.le_trans hl (by decide))) rfl rfl ⟨rfl, trivial⟩ rfl ?_
    (repeat (first | refine wpS_seq ?_ | refine wpS_reg ?_ | refine run_step rfl (by ((repeat' (first | exact aN | refine aC ?_ ?_ | intro _)) <;> first | assumption | omega | (simp only [obS] at *; omega) | (intros; first | rfl | assumption | omega | simp_all; done))) ?_ | refine run_nil ?_ | refine wpS_block ?_ | refine wpS_skip ?_ | refine wpS_exit ?_))
    refine run_ent (ent_fz 9) ?_
    (repeat (first | refine wpS_seq ?_ | refine wpS_reg ?_ | refine run_step rfl (by ((repeat' (first | exact aN | refine aC ?_ ?_ | intro _)) <;> first | assumption | omega | (simp only [obS] at *; omega) | (intros; first | rfl | assumption | omega | simp_all; done))) ?_ | refine run_nil ?_ | refine wpS_block ?_ | refine wpS_skip ?_ | refine wpS_exit ?_ | refine wpS_ret ?_))
    refine fin_mk rfl ?_; (repeat' (first | exact aN | refine aC ?_ ?_))
    unfold chosenA
    rw [if_pos hk]
    refine chosen_done (K := keepA r) (by simp) ?_ (keepA_pos r) (fun t ht => ?_)
    · unfold keepA; rw [if_pos hk]
    · rw [rev_get ht]
  · have hk : ¬ r.kind = 1 := by simpa using h
    clear h
    (repeat (first | refine wpS_seq ?_ | refine wpS_reg ?_ | refine run_step rfl (by ((repeat' (first | exact aN | refine aC ?_ ?_ | intro _)) <;> first | assumption | omega | (simp only [obS] at *; omega) | (intros; first | rfl | assumption | omega | simp_all; done))) ?_ | refine run_nil ?_ | refine wpS_block ?_ | refine wpS_skip ?_ | refine wpS_exit ?_ | refine wpS_ret ?_))
    refine run_cR ρt [PB] (atsort_spec l (Nat.le_trans hl (by decide))) rfl rfl ⟨rfl, trivial⟩ rfl ?_
    (repeat (first | refine wpS_seq ?_ | refine wpS_reg ?_ | refine run_step rfl (by ((repeat' (first | exact aN | refine aC ?_ ?_ | intro _)) <;> first | assumption | omega | (simp only [obS] at *; omega) | (intros; first | rfl | assumption | omega | simp_all; done))) ?_ | refine run_nil ?_ | refine wpS_block ?_ | refine wpS_skip ?_ | refine wpS_exit ?_))
    refine run_ent (ent_fz 9) ?_
    (repeat (first | refine wpS_seq ?_ | refine wpS_reg ?_ | refine run_step rfl (by ((repeat' (first | exact aN | refine aC ?_ ?_ | intro _)) <;> first | assumption | omega | (simp only [obS] at *; omega) | (intros; first | rfl | assumption | omega | simp_all; done))) ?_ | refine run_nil ?_ | refine wpS_block ?_ | refine wpS_skip ?_ | refine wpS_exit ?_ | refine wpS_ret ?_))
    refine fin_mk rfl ?_; (repeat' (first | exact aN | refine aC ?_ ?_))
    unfold chosenA
    rw [if_neg hk]
    refine chosen_done (K := keepA r) (length_sortS l) ?_ (keepA_pos r) (fun t ht => rfl)
    unfold keepA
    rw [if_neg hk, length_sortS]
    show (if _ then _ else _) = _
    have : (if r.keep > 1 then r.keep else 1) = max 1 r.keep := by split <;> omega
    rw [this]
theorem sumA_take {l : List At} {k : Nat} (h : k < l.length) : sumA (l.take (k + 1)) = sumA (l.take k) + (l.getD k default).hun := by
  unfold sumA
  rw [take_succ_get h, List.map_append, List.foldl_append, getD_lt h]
  rfl
theorem sumA_bound {l : List At} (hb : ∀ a ∈ l, 0 ≤ a.hun ∧ a.hun ≤ 100000000) : ∀ k, k ≤ l.length → 0 ≤ sumA (l.take k) ∧ sumA (l.take k) ≤ 100000000 * k
  | 0, _ => by simp [sumA]
  | k + 1, h => by
    have ih := sumA_bound hb k (by omega)
    have hm := hb _ (getD_mem (l := l) (i := k) (by omega))
    rw [sumA_take (by omega)]
    omega
theorem chosen_mem {r : AR} {l : List At} {a : At} (h : a ∈ chosenA r l) : a ∈ l := by
  unfold chosenA at h
  have := List.mem_of_mem_take h
  split at this
  · exact List.mem_reverse.1 this
  · exact mem_sortS.1 this
theorem chosen_len (r : AR) (l : List At) : (chosenA r l).length ≤ l.length := by
  unfold chosenA
  rw [List.length_take]
  split
  · rw [List.length_reverse]; omega
  · rw [length_sortS]; omega
theorem points_spec (r : AR) (l : List At) (hl : l.length ≤ 1000000) (hb : ∀ a ∈ l, 0 ≤ a.hun ∧ a.hun ≤ 100000000) : Spec0 Tryz.prog 88 [.agg (arA r), lsA 3 atA l] (.int .i64 (pointsA r l)) := by
  refine spec0 ok88 rfl fun C _ => ?_
  (repeat (first | refine wpS_seq ?_ | refine wpS_reg ?_ | refine run_step rfl (by ((repeat' (first | exact aN | refine aC ?_ ?_ | intro _)) <;> first | assumption | omega | (simp only [obS] at *; omega) | (intros; first | rfl | assumption | omega | simp_all; done))) ?_ | refine run_nil ?_ | refine wpS_block ?_ | refine wpS_skip ?_ | refine wpS_exit ?_ | refine wpS_ret ?_))
  refine run_c ((chosen_spec r l hl)) rfl (by ((repeat' (first | exact aN | refine aC ?_ ?_ | intro _)) <;> first | assumption | omega | (simp only [obS] at *; omega) | (intros; first | rfl | assumption | omega | simp_all; done))) rfl rfl (.inr rfl) ?_
  have hcl := chosen_len r l
  have hcb : ∀ a ∈ chosenA r l, 0 ≤ a.hun ∧ a.hun ≤ 100000000 := fun a ha => hb a (chosen_mem ha)
  have hP : pointsA r l = if (chosenA r l).length = 0 then 0 else Int.tdiv (2 * sumA (chosenA r l) + (chosenA r l).length) (2 * (chosenA r l).length) := rfl
  rw [hP]
  clear hP
  generalize chosenA r l = c at hcl hcb ⊢
  have hsb := sumA_bound hcb
  (repeat (first | refine wpS_seq ?_ | refine wpS_reg ?_ | refine run_step rfl (by ((repeat' (first | exact aN | refine aC ?_ ?_ | intro _)) <;> first | assumption | omega | (simp only [obS] at *; omega) | (intros; first | rfl | assumption | omega | simp_all; done))) ?_ | refine run_nil ?_ | refine wpS_block ?_ | refine wpS_skip ?_ | refine wpS_exit ?_ | refine wpS_ret ?_))
  refine wpS_cond rfl (by ((repeat' (first | exact aN | refine aC ?_ ?_ | intro _)) <;> first | assumption | omega | (simp only [obS] at *; omega) | (intros; first | rfl | assumption | omega | simp_all; done))) (fun h => ?_) (fun h => ?_)
  · have h0 : c.length = 0 := by simp at h; simp [h]
    (repeat (first | refine wpS_seq ?_ | refine wpS_reg ?_ | refine run_step rfl (by ((repeat' (first | exact aN | refine aC ?_ ?_ | intro _)) <;> first | assumption | omega | (simp only [obS] at *; omega) | (intros; first | rfl | assumption | omega | simp_all; done))) ?_ | refine run_nil ?_ | refine wpS_block ?_ | refine wpS_skip ?_ | refine wpS_exit ?_ | refine wpS_ret ?_))
    refine fin_mk rfl ?_; (repeat' (first | exact aN | refine aC ?_ ?_))
    rw [if_pos h0]
  have h0 : ¬ c.length = 0 := by
    intro h1
    rw [h1] at h
    simp at h
  clear h
  (repeat (first | refine wpS_seq ?_ | refine wpS_reg ?_ | refine run_step rfl (by ((repeat' (first | exact aN | refine aC ?_ ?_ | intro _)) <;> first | assumption | omega | (simp only [obS] at *; omega) | (intros; first | rfl | assumption | omega | simp_all; done))) ?_ | refine run_nil ?_ | refine wpS_block ?_ | refine wpS_skip ?_ | refine wpS_exit ?_ | refine wpS_ret ?_))
  refine wpS_loop (fun k => k ≤ c.length) (fun k => ⟨[(5, lsA 3 atA c), (15, lsA 3 atA c), (16, .int .i64 (c.length : Nat)), (17, .int .i64 (k : Nat)), (6, .int .i64 (sumA (c.take k)))], []⟩) (fun k => c.length - k) 0 (by omega)
    (by refine ent_le ?_; (repeat' (first | exact aN | refine aC ?_ ?_)) <;> first | rfl | exact ⟨rfl, fun _ _ => rfl⟩) ?_
  rintro k hk
  have hsk := hsb k hk
  (repeat (first | refine wpS_seq ?_ | refine wpS_reg ?_ | refine run_step rfl (by ((repeat' (first | exact aN | refine aC ?_ ?_ | intro _)) <;> first | assumption | omega | (simp only [obS] at *; omega) | (intros; first | rfl | assumption | omega | simp_all; done))) ?_ | refine run_nil ?_ | refine wpS_block ?_ | refine wpS_skip ?_ | refine wpS_exit ?_ | refine wpS_ret ?_))
  refine wpS_cond rfl (by ((repeat' (first | exact aN | refine aC ?_ ?_ | intro _)) <;> first | assumption | omega | (simp only [obS] at *; omega) | (intros; first | rfl | assumption | omega | simp_all; done))) (fun h => ?_) (fun h => ?_)
  · have hlt : k < c.length := by simpa using h
    clear h
    have hst := sumA_take hlt
    have hak := hcb _ (getD_mem hlt)
    obtain ⟨a, hae⟩ : ∃ a, a = c.getD k default := ⟨_, rfl⟩
    rw [← hae] at hst hak
    have hov : -9223372036854775808 ≤ sumA (List.take k c) + a.hun ∧ sumA (List.take k c) + a.hun ≤ 9223372036854775807 := by omega
    have hkk : ((k : Int)).toNat = k := Int.toNat_natCast k
    (repeat (first | refine wpS_seq ?_ | refine wpS_reg ?_ | refine run_step rfl (by ((repeat' (first | exact aN | refine aC ?_ ?_ | intro _)) <;> first | assumption | omega | (simp only [obS] at *; omega) | (intros; first | rfl | assumption | omega | simp_all; done))) ?_ | refine run_nil ?_ | refine wpS_block ?_ | refine wpS_skip ?_ | refine wpS_exit ?_ | refine wpS_ret ?_))
    rw [hkk, ← hae]
    (repeat (first | refine wpS_seq ?_ | refine wpS_reg ?_ | refine run_step rfl (by ((repeat' (first | exact aN | refine aC ?_ ?_ | intro _)) <;> first | assumption | omega | (simp only [obS] at *; omega) | (intros; first | rfl | assumption | omega | simp_all; done))) ?_ | refine run_nil ?_ | refine wpS_block ?_ | refine wpS_skip ?_ | refine wpS_exit ?_ | refine wpS_ret ?_))
    refine ⟨k + 1, by omega, by dsimp only; omega, ?_⟩
    dsimp only
    rw [hst]
    refine ent_le ?_; (repeat' (first | exact aN | refine aC ?_ ?_)) <;> first | rfl | exact ⟨rfl, fun _ _ => rfl⟩
  · have hlt : k = c.length := by simp at h; omega
    subst hlt
    clear h
    rw [List.take_length] at hsk ⊢
    (repeat (first | refine wpS_seq ?_ | refine wpS_reg ?_ | refine run_step rfl (by ((repeat' (first | exact aN | refine aC ?_ ?_ | intro _)) <;> first | assumption | omega | (simp only [obS] at *; omega) | (intros; first | rfl | assumption | omega | simp_all; done))) ?_ | refine run_nil ?_ | refine wpS_block ?_ | refine wpS_skip ?_ | refine wpS_exit ?_ | refine wpS_ret ?_))
    refine fin_mk rfl ?_; (repeat' (first | exact aN | refine aC ?_ ?_))
    rw [if_neg h0]
    symm
    exact Int.tdiv_eq_ediv_of_nonneg (by omega)
theorem validAt_mem {r : AR} {l : List At} (h : validAt r l = true) : l.length ≤ 16 ∧ ∀ a ∈ l, 0 ≤ a.hun ∧ a.hun ≤ 100000000 := by
  unfold validAt at h
  simp only [Bool.and_eq_true, decide_eq_true_eq, List.all_eq_true] at h
  obtain ⟨h1, h2, h3⟩ := h
  have hm : r.most ≤ 16 := by
    unfold rightB at h1
    simp only [Bool.and_eq_true, decide_eq_true_eq] at h1
    exact h1.2.2.2.1
  refine ⟨by omega, fun a ha => ?_⟩
  obtain ⟨k, hk, rfl⟩ := List.getElem_of_mem ha
  have := h3 k (List.mem_range.2 hk)
  unfold attB at this
  simp only [Bool.and_eq_true, decide_eq_true_eq, getD_lt hk] at this
  exact this.2.2.2
theorem final_spec (r : AR) (l : List At) (hl : l.length ≤ maxL) : Spec0 Tryz.prog 54 [.agg (arA r), lsA 3 atA l] (.tup [.int .i64 (finalA r l).1, .int .i64 (finalA r l).2]) := by
  refine spec0 ok54 rfl fun C _ => ?_
  (repeat (first | refine wpS_seq ?_ | refine wpS_reg ?_ | refine run_step rfl (by ((repeat' (first | exact aN | refine aC ?_ ?_ | intro _)) <;> first | assumption | omega | (simp only [obS] at *; omega) | (intros; first | rfl | assumption | omega | simp_all; done))) ?_ | refine run_nil ?_ | refine wpS_block ?_ | refine wpS_skip ?_ | refine wpS_exit ?_ | refine wpS_ret ?_))
  refine run_c ((validAt_spec r l hl)) rfl (by ((repeat' (first | exact aN | refine aC ?_ ?_ | intro _)) <;> first | assumption | omega | (simp only [obS] at *; omega) | (intros; first | rfl | assumption | omega | simp_all; done))) rfl rfl (.inl rfl) ?_
  unfold finalA
  cases hv : validAt r l with
  | false =>
    (repeat (first | refine wpS_seq ?_ | refine wpS_reg ?_ | refine run_step rfl (by ((repeat' (first | exact aN | refine aC ?_ ?_ | intro _)) <;> first | assumption | omega | (simp only [obS] at *; omega) | (intros; first | rfl | assumption | omega | simp_all; done))) ?_ | refine run_nil ?_ | refine wpS_block ?_ | refine wpS_skip ?_ | refine wpS_exit ?_))
    refine wpS_condT rfl (by ((repeat' (first | exact aN | refine aC ?_ ?_ | intro _)) <;> first | assumption | omega | (simp only [obS] at *; omega) | (intros; first | rfl | assumption | omega | simp_all; done))) ?_
    (repeat (first | refine wpS_seq ?_ | refine wpS_reg ?_ | refine run_step rfl (by ((repeat' (first | exact aN | refine aC ?_ ?_ | intro _)) <;> first | assumption | omega | (simp only [obS] at *; omega) | (intros; first | rfl | assumption | omega | simp_all; done))) ?_ | refine run_nil ?_ | refine wpS_block ?_ | refine wpS_skip ?_ | refine wpS_exit ?_ | refine wpS_ret ?_))
    refine fin_mk rfl ?_; (repeat' (first | exact aN | refine aC ?_ ?_))
    all_goals rfl
  | true =>
    obtain ⟨h1, h2⟩ := validAt_mem hv
    (repeat (first | refine wpS_seq ?_ | refine wpS_reg ?_ | refine run_step rfl (by ((repeat' (first | exact aN | refine aC ?_ ?_ | intro _)) <;> first | assumption | omega | (simp only [obS] at *; omega) | (intros; first | rfl | assumption | omega | simp_all; done))) ?_ | refine run_nil ?_ | refine wpS_block ?_ | refine wpS_skip ?_ | refine wpS_exit ?_))
    refine wpS_condF rfl (by ((repeat' (first | exact aN | refine aC ?_ ?_ | intro _)) <;> first | assumption | omega | (simp only [obS] at *; omega) | (intros; first | rfl | assumption | omega | simp_all; done))) ?_
    (repeat (first | refine wpS_seq ?_ | refine wpS_reg ?_ | refine run_step rfl (by ((repeat' (first | exact aN | refine aC ?_ ?_ | intro _)) <;> first | assumption | omega | (simp only [obS] at *; omega) | (intros; first | rfl | assumption | omega | simp_all; done))) ?_ | refine run_nil ?_ | refine wpS_block ?_ | refine wpS_skip ?_ | refine wpS_exit ?_ | refine wpS_ret ?_))
    refine run_c ((points_spec r l (by omega) h2)) rfl (by ((repeat' (first | exact aN | refine aC ?_ ?_ | intro _)) <;> first | assumption | omega | (simp only [obS] at *; omega) | (intros; first | rfl | assumption | omega | simp_all; done))) rfl rfl (.inl rfl) ?_
    (repeat (first | refine wpS_seq ?_ | refine wpS_reg ?_ | refine run_step rfl (by ((repeat' (first | exact aN | refine aC ?_ ?_ | intro _)) <;> first | assumption | omega | (simp only [obS] at *; omega) | (intros; first | rfl | assumption | omega | simp_all; done))) ?_ | refine run_nil ?_ | refine wpS_block ?_ | refine wpS_skip ?_ | refine wpS_exit ?_ | refine wpS_ret ?_))
    refine fin_mk rfl ?_; (repeat' (first | exact aN | refine aC ?_ ?_))
    all_goals rfl
end Go.Proofs
end
/- part BkPoints -/
section
namespace Go.Proofs
open Go.Av Go.Pu
@[reducible] def atR (l : List At) : Rt := .row 57 3 l.length fun t => atA (l.getD t default)
theorem points25_spec (b : Bk) (s x : List UInt8) (r : AR) (hs : Sm b) : Spec0 Tryz.prog 25 [bkA b, .str s, .str x, .agg (arA r)] (.tup [.int .i64 (pointsX b s x r).1, .int .i64 (pointsX b s x r).2]) := by
  have hb := hs.1.b
  have hbl := hb.1
  refine spec0 ok25 rfl fun C _ => ?_
  (repeat (first | refine wpS_seq ?_ | refine wpS_reg ?_ | refine run_step rfl (by ((repeat' (first | exact aN | refine aC ?_ ?_ | intro _)) <;> first | assumption | omega | (simp only [obS] at *; omega) | (intros; first | rfl | assumption | omega | simp_all; done))) ?_ | refine run_nil ?_ | refine wpS_block ?_ | refine wpS_skip ?_ | refine wpS_exit ?_ | refine wpS_ret ?_))
  refine run_c ((valid_spec b hs.1 hs.2)) rfl (by ((repeat' (first | exact aN | refine aC ?_ ?_ | intro _)) <;> first | assumption | omega | (simp only [obS] at *; omega) | (intros; first | rfl | assumption | omega | simp_all; done))) rfl rfl (.inl rfl) ?_
  unfold pointsX
  cases hv : validB b with
  | false =>
    (repeat (first | refine wpS_seq ?_ | refine wpS_reg ?_ | refine run_step rfl (by ((repeat' (first | exact aN | refine aC ?_ ?_ | intro _)) <;> first | assumption | omega | (simp only [obS] at *; omega) | (intros; first | rfl | assumption | omega | simp_all; done))) ?_ | refine run_nil ?_ | refine wpS_block ?_ | refine wpS_skip ?_ | refine wpS_exit ?_))
    refine wpS_condT rfl (by ((repeat' (first | exact aN | refine aC ?_ ?_ | intro _)) <;> first | assumption | omega | (simp only [obS] at *; omega) | (intros; first | rfl | assumption | omega | simp_all; done))) ?_
    (repeat (first | refine wpS_seq ?_ | refine wpS_reg ?_ | refine run_step rfl (by ((repeat' (first | exact aN | refine aC ?_ ?_ | intro _)) <;> first | assumption | omega | (simp only [obS] at *; omega) | (intros; first | rfl | assumption | omega | simp_all; done))) ?_ | refine run_nil ?_ | refine wpS_block ?_ | refine wpS_skip ?_ | refine wpS_exit ?_ | refine wpS_ret ?_))
    refine fin_mk rfl ?_; (repeat' (first | exact aN | refine aC ?_ ?_))
    all_goals rfl
  | true =>
  (repeat (first | refine wpS_seq ?_ | refine wpS_reg ?_ | refine run_step rfl (by ((repeat' (first | exact aN | refine aC ?_ ?_ | intro _)) <;> first | assumption | omega | (simp only [obS] at *; omega) | (intros; first | rfl | assumption | omega | simp_all; done))) ?_ | refine run_nil ?_ | refine wpS_block ?_ | refine wpS_skip ?_ | refine wpS_exit ?_))
  refine wpS_condF rfl (by ((repeat' (first | exact aN | refine aC ?_ ?_ | intro _)) <;> first | assumption | omega | (simp only [obS] at *; omega) | (intros; first | rfl | assumption | omega | simp_all; done))) ?_
  (repeat (first | refine wpS_seq ?_ | refine wpS_reg ?_ | refine run_step rfl (by ((repeat' (first | exact aN | refine aC ?_ ?_ | intro _)) <;> first | assumption | omega | (simp only [obS] at *; omega) | (intros; first | rfl | assumption | omega | simp_all; done))) ?_ | refine run_nil ?_ | refine wpS_block ?_ | refine wpS_skip ?_ | refine wpS_exit ?_ | refine wpS_ret ?_))
  refine wpS_loop (fun k => k ≤ b.ens.length) (fun k => ⟨[(1, .str s), (2, .str x), (7, .loc 7 0), (10, .ref RN), (18, lsA 7 enA b.ens), (19, .int .i64 (b.ens.length : Nat)), (20, .int .i64 (k : Nat))], [(7, .blk 52 (arA r)), (RN, atR (attsOf (b.ens.take k) s x))]⟩) (fun k => b.ens.length - k) 0 (by omega)
    (Ent.trans (ent_keep [1, 2, 7, 10, 18, 19, 20] [7]) (Ent.trans (ent_name 10 RN 57 3 (fun t => atA (([] : List At).getD t default)) (.inl rfl) rfl) (by refine ent_le ?_; (repeat' (first | exact aN | refine aC ?_ ?_)) <;> first | rfl | exact ⟨rfl, fun _ _ => rfl⟩))) ?_
  rintro k hk
  have hal := attsOf_len (b.ens.take k) s x
  rw [List.length_take] at hal
  (repeat (first | refine wpS_seq ?_ | refine wpS_reg ?_ | refine run_step rfl (by ((repeat' (first | exact aN | refine aC ?_ ?_ | intro _)) <;> first | assumption | omega | (simp only [obS] at *; omega) | (intros; first | rfl | assumption | omega | simp_all; done))) ?_ | refine run_nil ?_ | refine wpS_block ?_ | refine wpS_skip ?_ | refine wpS_exit ?_ | refine wpS_ret ?_))
  refine wpS_cond rfl (by ((repeat' (first | exact aN | refine aC ?_ ?_ | intro _)) <;> first | assumption | omega | (simp only [obS] at *; omega) | (intros; first | rfl | assumption | omega | simp_all; done))) (fun h => ?_) (fun h => ?_)
  · have hlt : k < b.ens.length := by simpa using h
    clear h
    have hst := attsOf_take hlt s x
    have hsy := hb.2 _ (getD_mem hlt)
    obtain ⟨y, hye⟩ : ∃ y, y = b.ens.getD k default := ⟨_, rfl⟩
    rw [← hye] at hst hsy
    have hyg := hsy.1
    obtain ⟨L, hL⟩ : ∃ L, L = attsOf (b.ens.take k) s x := ⟨_, rfl⟩
    rw [← hL] at hst hal ⊢
    have hkk : ((k : Int)).toNat = k := Int.toNat_natCast k
    refine wpS_skip ?_
    refine wpS_seq ?_
    refine wpS_block ?_
    refine wpS_seq ?_; refine wpS_reg ?_; (repeat (refine run_step rfl (by ((repeat' (first | exact aN | refine aC ?_ ?_ | intro _)) <;> first | assumption | omega | (simp only [obS] at *; omega) | (intros; first | rfl | assumption | omega | simp_all; done))) ?_)); refine run_nil ?_
    rw [hkk, ← hye]
    (repeat (first | refine wpS_seq ?_ | refine wpS_reg ?_ | refine run_step rfl (by ((repeat' (first | exact aN | refine aC ?_ ?_ | intro _)) <;> first | assumption | omega | (simp only [obS] at *; omega) | (intros; first | rfl | assumption | omega | simp_all; done))) ?_ | refine run_nil ?_ | refine wpS_block ?_ | refine wpS_skip ?_ | refine wpS_exit ?_ | refine wpS_ret ?_))
    refine wpS_cond rfl (by ((repeat' (first | exact aN | refine aC ?_ ?_ | intro _)) <;> first | assumption | omega | (simp only [obS] at *; omega) | (intros; first | rfl | assumption | omega | simp_all; done))) (fun h => ?_) (fun h => ?_)
    · have hc : attC s x y = true := by
        revert h
        unfold attC
        by_cases h1 : 0 < y.grs.length <;> simp [h1]
      have hpos : 0 < y.grs.length := by
        unfold attC at hc
        simp only [Bool.and_eq_true, decide_eq_true_eq] at hc
        exact hc.1
      clear h
      have hst' : attsOf (b.ens.take (k + 1)) s x = L ++ [attN L y] := by rw [hst]; unfold attF; rw [if_pos hc]
      have hnn : ((y.grs.length : Int) - 1).toNat = y.grs.length - 1 := by omega
      (repeat (first | refine wpS_seq ?_ | refine wpS_reg ?_ | refine run_step rfl (by ((repeat' (first | exact aN | refine aC ?_ ?_ | intro _)) <;> first | assumption | omega | (simp only [obS] at *; omega) | (intros; first | rfl | assumption | omega | simp_all; done))) ?_ | refine run_nil ?_ | refine wpS_block ?_ | refine wpS_skip ?_ | refine wpS_exit ?_ | refine wpS_ret ?_))
      refine wpS_D (by kernel_rfl) ?_
      (repeat (refine trg_step rfl (by ((repeat' (first | exact aN | refine aC ?_ ?_ | intro _)) <;> first | assumption | omega | (simp only [obS] at *; omega) | (intros; first | rfl | assumption | omega | simp_all; done))) ?_))
      refine trg_nil ⟨rfl, ?_⟩
      (repeat (first | refine wpS_seq ?_ | refine wpS_reg ?_ | refine run_step rfl (by ((repeat' (first | exact aN | refine aC ?_ ?_ | intro _)) <;> first | assumption | omega | (simp only [obS] at *; omega) | (intros; first | rfl | assumption | omega | simp_all; done))) ?_ | refine run_nil ?_ | refine wpS_block ?_ | refine wpS_skip ?_ | refine wpS_exit ?_ | refine wpS_ret ?_))
      refine ⟨k + 1, by omega, by dsimp only; omega, ?_⟩
      rw [hnn]
      refine Ent.trans (ent_keep [1, 2, 7, 10, 18, 19, 20] [58, 7]) (Ent.trans (ent_ren 58 RN rfl) (Ent.trans (ent_app1 RN atA (x := attN L y) _ hst' rfl rfl rfl rfl) (by refine ent_le ?_; (repeat' (first | exact aN | refine aC ?_ ?_)) <;> first | rfl | (dsimp only; omega) | exact ⟨rfl, fun _ _ => rfl⟩)))
    · have hc : attC s x y = false := by
        revert h
        unfold attC
        by_cases h1 : 0 < y.grs.length <;> simp [h1]
      clear h
      have hst' : attsOf (b.ens.take (k + 1)) s x = L := by rw [hst]; unfold attF; rw [if_neg (by simp [hc])]
      (repeat (first | refine wpS_seq ?_ | refine wpS_reg ?_ | refine run_step rfl (by ((repeat' (first | exact aN | refine aC ?_ ?_ | intro _)) <;> first | assumption | omega | (simp only [obS] at *; omega) | (intros; first | rfl | assumption | omega | simp_all; done))) ?_ | refine run_nil ?_ | refine wpS_block ?_ | refine wpS_skip ?_ | refine wpS_exit ?_ | refine wpS_ret ?_))
      refine ⟨k + 1, by omega, by dsimp only; omega, ?_⟩
      dsimp only
      rw [hst']
      refine ent_le ?_; (repeat' (first | exact aN | refine aC ?_ ?_)) <;> first | rfl | (dsimp only; omega) | exact ⟨rfl, fun _ _ => rfl⟩
  · have hlt : k = b.ens.length := by simp at h; omega
    subst hlt
    clear h
    rw [List.take_length] at hal ⊢
    (repeat (first | refine wpS_seq ?_ | refine wpS_reg ?_ | refine run_step rfl (by ((repeat' (first | exact aN | refine aC ?_ ?_ | intro _)) <;> first | assumption | omega | (simp only [obS] at *; omega) | (intros; first | rfl | assumption | omega | simp_all; done))) ?_ | refine run_nil ?_ | refine wpS_block ?_ | refine wpS_skip ?_ | refine wpS_exit ?_ | refine wpS_ret ?_))
    refine run_c ((final_spec r (attsOf b.ens s x) (by rw [maxL_eq]; omega))) rfl (by ((repeat' (first | exact aN | refine aC ?_ ?_ | intro _)) <;> first | assumption | omega | (simp only [obS] at *; omega) | (intros; first | rfl | assumption | omega | simp_all; done))) rfl rfl (.inl rfl) ?_
    (repeat (first | refine wpS_seq ?_ | refine wpS_reg ?_ | refine run_step rfl (by ((repeat' (first | exact aN | refine aC ?_ ?_ | intro _)) <;> first | assumption | omega | (simp only [obS] at *; omega) | (intros; first | rfl | assumption | omega | simp_all; done))) ?_ | refine run_nil ?_ | refine wpS_block ?_ | refine wpS_skip ?_ | refine wpS_exit ?_ | refine wpS_ret ?_))
    refine fin_mk rfl ?_; (repeat' (first | exact aN | refine aC ?_ ?_))
    all_goals rfl
end Go.Proofs
end
/- part BkStudent -/
section
namespace Go.Proofs
open Go.Av Go.Pu
@[reducible] def SN : Nat := 800002
theorem student_spec (b : Bk) (s : List UInt8) (hs : Sm b) : Spec0 Tryz.prog 27 [bkA b, .str s] (bkA (studentX b s)) := by
  have hb := hs.1.b
  have hbl := hb.1
  refine spec0 ok27 rfl fun C _ => ?_
  (repeat (first | refine wpS_seq ?_ | refine wpS_reg ?_ | refine run_step rfl (by ((repeat' (first | exact aN | refine aC ?_ ?_ | intro _)) <;> first | assumption | omega | (simp only [obS] at *; omega) | (intros; first | rfl | assumption | omega | simp_all; done))) ?_ | refine run_nil ?_ | refine wpS_block ?_ | refine wpS_skip ?_ | refine wpS_exit ?_ | refine wpS_ret ?_))
  refine run_c ((valid_spec b hs.1 hs.2)) rfl (by ((repeat' (first | exact aN | refine aC ?_ ?_ | intro _)) <;> first | assumption | omega | (simp only [obS] at *; omega) | (intros; first | rfl | assumption | omega | simp_all; done))) rfl rfl (.inl rfl) ?_
  unfold studentX
  cases hv : validB b with
  | false =>
    (repeat (first | refine wpS_seq ?_ | refine wpS_reg ?_ | refine run_step rfl (by ((repeat' (first | exact aN | refine aC ?_ ?_ | intro _)) <;> first | assumption | omega | (simp only [obS] at *; omega) | (intros; first | rfl | assumption | omega | simp_all; done))) ?_ | refine run_nil ?_ | refine wpS_block ?_ | refine wpS_skip ?_ | refine wpS_exit ?_))
    refine wpS_condT rfl (by ((repeat' (first | exact aN | refine aC ?_ ?_ | intro _)) <;> first | assumption | omega | (simp only [obS] at *; omega) | (intros; first | rfl | assumption | omega | simp_all; done))) ?_
    (repeat (first | refine wpS_seq ?_ | refine wpS_reg ?_ | refine run_step rfl (by ((repeat' (first | exact aN | refine aC ?_ ?_ | intro _)) <;> first | assumption | omega | (simp only [obS] at *; omega) | (intros; first | rfl | assumption | omega | simp_all; done))) ?_ | refine run_nil ?_ | refine wpS_block ?_ | refine wpS_skip ?_ | refine wpS_exit ?_ | refine wpS_ret ?_))
    refine fin_mk rfl ?_; (repeat' (first | exact aN | refine aC ?_ ?_))
    all_goals first | rfl | exact ⟨rfl, fun _ hi => absurd hi (Nat.not_lt_zero _)⟩
  | true =>
  (repeat (first | refine wpS_seq ?_ | refine wpS_reg ?_ | refine run_step rfl (by ((repeat' (first | exact aN | refine aC ?_ ?_ | intro _)) <;> first | assumption | omega | (simp only [obS] at *; omega) | (intros; first | rfl | assumption | omega | simp_all; done))) ?_ | refine run_nil ?_ | refine wpS_block ?_ | refine wpS_skip ?_ | refine wpS_exit ?_))
  refine wpS_condF rfl (by ((repeat' (first | exact aN | refine aC ?_ ?_ | intro _)) <;> first | assumption | omega | (simp only [obS] at *; omega) | (intros; first | rfl | assumption | omega | simp_all; done))) ?_
  (repeat (first | refine wpS_seq ?_ | refine wpS_reg ?_ | refine run_step rfl (by ((repeat' (first | exact aN | refine aC ?_ ?_ | intro _)) <;> first | assumption | omega | (simp only [obS] at *; omega) | (intros; first | rfl | assumption | omega | simp_all; done))) ?_ | refine run_nil ?_ | refine wpS_block ?_ | refine wpS_skip ?_ | refine wpS_exit ?_ | refine wpS_ret ?_))
  refine run_cR ρc [8] (clone_spec b hb) rfl rfl trivial rfl ?_
  refine run_ent (ent_fzO QN) ?_
  (repeat (first | refine wpS_seq ?_ | refine wpS_reg ?_ | refine run_step rfl (by ((repeat' (first | exact aN | refine aC ?_ ?_ | intro _)) <;> first | assumption | omega | (simp only [obS] at *; omega) | (intros; first | rfl | assumption | omega | simp_all; done))) ?_ | refine run_nil ?_ | refine wpS_block ?_ | refine wpS_skip ?_ | refine wpS_exit ?_))
  refine wpS_ent (Ent.trans (ent_keep [1, 4, 5, 16, 17, 18] [4, 5]) (ent_nameB 5 1 SN 39 7 (fun t => enA (([] : List En).getD t default)) rfl rfl rfl)) ?_
  refine wpS_loop (fun k => k ≤ b.ens.length) (fun k => ⟨[(1, .str s), (4, .loc 4 0), (5, .loc 5 0), (16, lsA 7 enA b.ens), (17, .int .i64 (b.ens.length : Nat)), (18, .int .i64 (k : Nat))], [(4, .blk 31 [.int .i64 0, .nils]), (5, .blk 31 [.int .i64 0, .ref SN]), (SN, .row 39 7 ((b.ens.take k).filter (ofStu s)).length fun t => enA (((b.ens.take k).filter (ofStu s)).getD t default))]⟩) (fun k => b.ens.length - k) 0 (by omega)
    (by refine ent_le ?_; (repeat' (first | exact aN | refine aC ?_ ?_)) <;> first | rfl | exact ⟨rfl, fun _ _ => rfl⟩) ?_
  rintro k hk
  have hfl := List.length_filter_le (ofStu s) (b.ens.take k)
  rw [List.length_take] at hfl
  (repeat (first | refine wpS_seq ?_ | refine wpS_reg ?_ | refine run_step rfl (by ((repeat' (first | exact aN | refine aC ?_ ?_ | intro _)) <;> first | assumption | omega | (simp only [obS] at *; omega) | (intros; first | rfl | assumption | omega | simp_all; done))) ?_ | refine run_nil ?_ | refine wpS_block ?_ | refine wpS_skip ?_ | refine wpS_exit ?_ | refine wpS_ret ?_))
  refine wpS_cond rfl (by ((repeat' (first | exact aN | refine aC ?_ ?_ | intro _)) <;> first | assumption | omega | (simp only [obS] at *; omega) | (intros; first | rfl | assumption | omega | simp_all; done))) (fun h => ?_) (fun h => ?_)
  · have hlt : k < b.ens.length := by simpa using h
    clear h
    have hst := filter_take hlt (ofStu s)
    obtain ⟨y, hye⟩ : ∃ y, y = b.ens.getD k default := ⟨_, rfl⟩
    rw [← hye] at hst
    obtain ⟨L, hL⟩ : ∃ L, L = (b.ens.take k).filter (ofStu s) := ⟨_, rfl⟩
    rw [← hL] at hst hfl ⊢
    have hkk : ((k : Int)).toNat = k := Int.toNat_natCast k
    refine wpS_skip ?_
    refine wpS_seq ?_
    refine wpS_block ?_
    refine wpS_seq ?_; refine wpS_reg ?_; (repeat (refine run_step rfl (by ((repeat' (first | exact aN | refine aC ?_ ?_ | intro _)) <;> first | assumption | omega | (simp only [obS] at *; omega) | (intros; first | rfl | assumption | omega | simp_all; done))) ?_)); refine run_nil ?_
    rw [hkk, ← hye]
    (repeat (first | refine wpS_seq ?_ | refine wpS_reg ?_ | refine run_step rfl (by ((repeat' (first | exact aN | refine aC ?_ ?_ | intro _)) <;> first | assumption | omega | (simp only [obS] at *; omega) | (intros; first | rfl | assumption | omega | simp_all; done))) ?_ | refine run_nil ?_ | refine wpS_block ?_ | refine wpS_skip ?_ | refine wpS_exit ?_ | refine wpS_ret ?_))
    refine wpS_cond rfl (by ((repeat' (first | exact aN | refine aC ?_ ?_ | intro _)) <;> first | assumption | omega | (simp only [obS] at *; omega) | (intros; first | rfl | assumption | omega | simp_all; done))) (fun h => ?_) (fun h => ?_)
    · have hc : ofStu s y = true := h
      clear h
      rw [if_pos hc] at hst
      (repeat (first | refine wpS_seq ?_ | refine wpS_reg ?_ | refine run_step rfl (by ((repeat' (first | exact aN | refine aC ?_ ?_ | intro _)) <;> first | assumption | omega | (simp only [obS] at *; omega) | (intros; first | rfl | assumption | omega | simp_all; done))) ?_ | refine run_nil ?_ | refine wpS_block ?_ | refine wpS_skip ?_ | refine wpS_exit ?_ | refine wpS_ret ?_))
      refine ⟨k + 1, by omega, by dsimp only; omega, ?_⟩
      refine Ent.trans (ent_keep [1, 4, 5, 16, 17, 18] [31, 5, 4]) (Ent.trans (ent_ren 31 SN rfl) (Ent.trans (ent_app1 SN enA (x := y) _ hst rfl rfl rfl rfl) (by refine ent_le ?_; (repeat' (first | exact aN | refine aC ?_ ?_)) <;> first | rfl | (dsimp only; omega) | exact ⟨rfl, fun _ _ => rfl⟩)))
    · have hc : ofStu s y = false := h
      clear h
      rw [if_neg (by simp [hc])] at hst
      (repeat (first | refine wpS_seq ?_ | refine wpS_reg ?_ | refine run_step rfl (by ((repeat' (first | exact aN | refine aC ?_ ?_ | intro _)) <;> first | assumption | omega | (simp only [obS] at *; omega) | (intros; first | rfl | assumption | omega | simp_all; done))) ?_ | refine run_nil ?_ | refine wpS_block ?_ | refine wpS_skip ?_ | refine wpS_exit ?_ | refine wpS_ret ?_))
      refine ⟨k + 1, by omega, by dsimp only; omega, ?_⟩
      dsimp only
      rw [hst]
      refine ent_le ?_; (repeat' (first | exact aN | refine aC ?_ ?_)) <;> first | rfl | (dsimp only; omega) | exact ⟨rfl, fun _ _ => rfl⟩
  · have hlt : k = b.ens.length := by simp at h; omega
    subst hlt
    clear h
    rw [List.take_length] at hfl ⊢
    have hsv : SmV (b.ens.filter (ofStu s)) := Nat.le_trans (evsRaw_filter b.ens (ofStu s)) hs.1
    generalize b.ens.filter (ofStu s) = E at hfl hsv ⊢
    have hel : (evsBk E).length ≤ 1000000 := by unfold evsBk; rw [length_sortS]; exact hsv
    (repeat (first | refine wpS_seq ?_ | refine wpS_reg ?_ | refine run_step rfl (by ((repeat' (first | exact aN | refine aC ?_ ?_ | intro _)) <;> first | assumption | omega | (simp only [obS] at *; omega) | (intros; first | rfl | assumption | omega | simp_all; done))) ?_ | refine run_nil ?_ | refine wpS_block ?_ | refine wpS_skip ?_ | refine wpS_exit ?_))
    refine run_ent (ent_fz SN) ?_
    (repeat (first | refine wpS_seq ?_ | refine wpS_reg ?_ | refine run_step rfl (by ((repeat' (first | exact aN | refine aC ?_ ?_ | intro _)) <;> first | assumption | omega | (simp only [obS] at *; omega) | (intros; first | rfl | assumption | omega | simp_all; done))) ?_ | refine run_nil ?_ | refine wpS_block ?_ | refine wpS_skip ?_ | refine wpS_exit ?_ | refine wpS_ret ?_))
    refine run_c ((events_spec ⟨0, E⟩ hsv)) rfl (by ((repeat' (first | exact aN | refine aC ?_ ?_ | intro _)) <;> first | assumption | omega | (simp only [obS] at *; omega) | (intros; first | rfl | assumption | omega | simp_all; done))) rfl rfl (.inr rfl) ?_
    generalize evsBk E = l at hel ⊢
    (repeat (first | refine wpS_seq ?_ | refine wpS_reg ?_ | refine run_step rfl (by ((repeat' (first | exact aN | refine aC ?_ ?_ | intro _)) <;> first | assumption | omega | (simp only [obS] at *; omega) | (intros; first | rfl | assumption | omega | simp_all; done))) ?_ | refine run_nil ?_ | refine wpS_block ?_ | refine wpS_skip ?_ | refine wpS_exit ?_ | refine wpS_ret ?_))
    refine wpS_loop (fun k => k ≤ l.length) (fun k => ⟨[(4, .loc 4 0), (5, .loc 5 0), (35, evsA l), (36, .int .i64 (l.length : Nat)), (37, .int .i64 (k : Nat))], [(4, .blk 31 [.int .i64 0, .nils]), (5, .blk 31 [.int .i64 (maxT (l.take k)), lsA 7 enA E])]⟩) (fun k => l.length - k) 0 (by omega)
      (by refine ent_le ?_; (repeat' (first | exact aN | refine aC ?_ ?_)) <;> first | rfl | exact ⟨rfl, fun _ _ => rfl⟩) ?_
    rintro k hk
    (repeat (first | refine wpS_seq ?_ | refine wpS_reg ?_ | refine run_step rfl (by ((repeat' (first | exact aN | refine aC ?_ ?_ | intro _)) <;> first | assumption | omega | (simp only [obS] at *; omega) | (intros; first | rfl | assumption | omega | simp_all; done))) ?_ | refine run_nil ?_ | refine wpS_block ?_ | refine wpS_skip ?_ | refine wpS_exit ?_ | refine wpS_ret ?_))
    refine wpS_cond rfl (by ((repeat' (first | exact aN | refine aC ?_ ?_ | intro _)) <;> first | assumption | omega | (simp only [obS] at *; omega) | (intros; first | rfl | assumption | omega | simp_all; done))) (fun h => ?_) (fun h => ?_)
    · have hlt : k < l.length := by simpa using h
      clear h
      have hst := maxT_take hlt
      obtain ⟨e, hee⟩ : ∃ e, e = l.getD k default := ⟨_, rfl⟩
      rw [← hee] at hst
      have hkk : ((k : Int)).toNat = k := Int.toNat_natCast k
      (repeat (first | refine wpS_seq ?_ | refine wpS_reg ?_ | refine run_step rfl (by ((repeat' (first | exact aN | refine aC ?_ ?_ | intro _)) <;> first | assumption | omega | (simp only [obS] at *; omega) | (intros; first | rfl | assumption | omega | simp_all; done))) ?_ | refine run_nil ?_ | refine wpS_block ?_ | refine wpS_skip ?_ | refine wpS_exit ?_ | refine wpS_ret ?_))
      rw [hkk, ← hee]
      refine ⟨k + 1, by omega, by dsimp only; omega, ?_⟩
      dsimp only
      rw [hst]
      refine ent_le ?_; (repeat' (first | exact aN | refine aC ?_ ?_)) <;> first | rfl | (dsimp only; omega) | exact ⟨rfl, fun _ _ => rfl⟩
    · have hlt : k = l.length := by simp at h; omega
      subst hlt
      clear h
      rw [List.take_length]
      (repeat (first | refine wpS_seq ?_ | refine wpS_reg ?_ | refine run_step rfl (by ((repeat' (first | exact aN | refine aC ?_ ?_ | intro _)) <;> first | assumption | omega | (simp only [obS] at *; omega) | (intros; first | rfl | assumption | omega | simp_all; done))) ?_ | refine run_nil ?_ | refine wpS_block ?_ | refine wpS_skip ?_ | refine wpS_exit ?_ | refine wpS_ret ?_))
      refine fin_mk rfl ?_; (repeat' (first | exact aN | refine aC ?_ ?_))
      all_goals first | rfl | exact ⟨rfl, fun _ _ => rfl⟩
end Go.Proofs
end
/- part BkRefSame -/
section
namespace Go.Proofs
open Go.Av Go.Pu
theorem list_eq_of {α : Type} [Inhabited α] {l m : List α} (hl : l.length = m.length) (h : ∀ j, j < l.length → l.getD j default = m.getD j default) : l = m := by
  refine List.ext_getElem hl fun i h1 h2 => ?_
  have := h i h1
  rwa [getD_lt h1, getD_lt h2] at this
set_option maxRecDepth 20000 in
theorem refSame_spec (a b : Bk) (hs : SmB a.ens) : Spec0 Tryz.prog 17 [bkA a, bkA b] (.bool (a == b)) := by
  have hl := hs.1
  refine spec0 ok17 rfl fun C _ => ?_
  (repeat (first | refine wpS_seq ?_ | refine wpS_reg ?_ | refine run_step rfl (by ((repeat' (first | exact aN | refine aC ?_ ?_ | intro _)) <;> first | assumption | omega | (simp only [obS] at *; omega) | (intros; first | rfl | assumption | omega | simp_all; done))) ?_ | refine run_nil ?_ | refine wpS_block ?_ | refine wpS_skip ?_ | refine wpS_exit ?_ | refine wpS_ret ?_))
  refine wpS_cond rfl (by ((repeat' (first | exact aN | refine aC ?_ ?_ | intro _)) <;> first | assumption | omega | (simp only [obS] at *; omega) | (intros; first | rfl | assumption | omega | simp_all; done))) (fun h => ?_) (fun h => ?_)
  · have hne : a ≠ b := by
      rintro rfl
      simp at h
    (repeat (first | refine wpS_seq ?_ | refine wpS_reg ?_ | refine run_step rfl (by ((repeat' (first | exact aN | refine aC ?_ ?_ | intro _)) <;> first | assumption | omega | (simp only [obS] at *; omega) | (intros; first | rfl | assumption | omega | simp_all; done))) ?_ | refine run_nil ?_ | refine wpS_block ?_ | refine wpS_skip ?_ | refine wpS_exit ?_ | refine wpS_ret ?_))
    refine fin_mk rfl ?_; (repeat' (first | exact aN | refine aC ?_ ?_))
    simpa using hne
  have hx : a.tick = b.tick ∧ a.ens.length = b.ens.length := by
    by_cases h1 : a.tick = b.tick
    · refine ⟨h1, ?_⟩
      simp [h1] at h
      omega
    · simp [h1] at h
  obtain ⟨ht, hlen⟩ := hx
  clear h
  (repeat (first | refine wpS_seq ?_ | refine wpS_reg ?_ | refine run_step rfl (by ((repeat' (first | exact aN | refine aC ?_ ?_ | intro _)) <;> first | assumption | omega | (simp only [obS] at *; omega) | (intros; first | rfl | assumption | omega | simp_all; done))) ?_ | refine run_nil ?_ | refine wpS_block ?_ | refine wpS_skip ?_ | refine wpS_exit ?_ | refine wpS_ret ?_))
  refine wpS_loop (fun k => k ≤ a.ens.length ∧ ∀ j, j < k → a.ens.getD j default = b.ens.getD j default) (fun k => ⟨[(2, .loc 2 0), (3, .loc 3 0), (5, .int .i64 (k : Nat))], [(2, .blk 31 [.int .i64 a.tick, lsA 7 enA a.ens]), (3, .blk 31 [.int .i64 b.tick, lsA 7 enA b.ens])]⟩) (fun k => a.ens.length - k) 0 ⟨by omega, by omega⟩
    (by refine ent_le ?_; (repeat' (first | exact aN | refine aC ?_ ?_)) <;> first | rfl | exact ⟨rfl, fun _ _ => rfl⟩) ?_
  rintro k ⟨hk, hall⟩
  (repeat (first | refine wpS_seq ?_ | refine wpS_reg ?_ | refine run_step rfl (by ((repeat' (first | exact aN | refine aC ?_ ?_ | intro _)) <;> first | assumption | omega | (simp only [obS] at *; omega) | (intros; first | rfl | assumption | omega | simp_all; done))) ?_ | refine run_nil ?_ | refine wpS_block ?_ | refine wpS_skip ?_ | refine wpS_exit ?_ | refine wpS_ret ?_))
  refine wpS_cond rfl (by ((repeat' (first | exact aN | refine aC ?_ ?_ | intro _)) <;> first | assumption | omega | (simp only [obS] at *; omega) | (intros; first | rfl | assumption | omega | simp_all; done))) (fun h => ?_) (fun h => ?_)
  · have hlt : k < a.ens.length := by simpa using h
    clear h
    have hsy := hs.2 _ (getD_mem hlt)
    have hne : a.ens.getD k default ≠ b.ens.getD k default → (a == b) = false := by
      intro hn
      rw [beq_eq_false_iff_ne]
      rintro rfl
      exact hn rfl
    have hkk : ((k : Int)).toNat = k := Int.toNat_natCast k
    obtain ⟨p, hpe⟩ : ∃ p, p = a.ens.getD k default := ⟨_, rfl⟩
    obtain ⟨q, hqe⟩ : ∃ q, q = b.ens.getD k default := ⟨_, rfl⟩
    have hpq : p = q → a.ens.getD k default = b.ens.getD k default := fun h => by rw [← hpe, ← hqe, h]
    rw [← hpe, ← hqe] at hne
    rw [← hpe] at hsy
    obtain ⟨g1, g2⟩ := hsy
    (repeat (first | refine wpS_seq ?_ | refine wpS_reg ?_ | refine run_step rfl (by ((repeat' (first | exact aN | refine aC ?_ ?_ | intro _)) <;> first | assumption | omega | (simp only [obS] at *; omega) | (intros; first | rfl | assumption | omega | simp_all; done))) ?_ | refine run_nil ?_ | refine wpS_block ?_ | refine wpS_skip ?_ | refine wpS_exit ?_ | refine wpS_ret ?_))
    refine wpS_D (by kernel_rfl) ?_
    (repeat (refine trg_step rfl (by ((repeat' (first | exact aN | refine aC ?_ ?_ | intro _)) <;> first | assumption | omega | (simp only [obS] at *; omega) | (intros; first | rfl | assumption | omega | simp_all; done))) ?_))
    refine trg_nil ⟨rfl, ?_⟩
    rw [hkk, ← hpe, ← hqe]
    (repeat (first | refine wpS_seq ?_ | refine wpS_reg ?_ | refine run_step rfl (by ((repeat' (first | exact aN | refine aC ?_ ?_ | intro _)) <;> first | assumption | omega | (simp only [obS] at *; omega) | (intros; first | rfl | assumption | omega | simp_all; done))) ?_ | refine run_nil ?_ | refine wpS_block ?_ | refine wpS_skip ?_ | refine wpS_exit ?_ | refine wpS_ret ?_))
    refine wpS_cond rfl (by ((repeat' (first | exact aN | refine aC ?_ ?_ | intro _)) <;> first | assumption | omega | (simp only [obS] at *; omega) | (intros; first | rfl | assumption | omega | simp_all; done))) (fun h => ?_) (fun h => ?_)
    · have hd : p ≠ q := by
        rintro rfl
        simp [xorb] at h
      (repeat (first | refine wpS_seq ?_ | refine wpS_reg ?_ | refine run_step rfl (by ((repeat' (first | exact aN | refine aC ?_ ?_ | intro _)) <;> first | assumption | omega | (simp only [obS] at *; omega) | (intros; first | rfl | assumption | omega | simp_all; done))) ?_ | refine run_nil ?_ | refine wpS_block ?_ | refine wpS_skip ?_ | refine wpS_exit ?_ | refine wpS_ret ?_))
      refine fin_mk rfl ?_; (repeat' (first | exact aN | refine aC ?_ ?_))
      rw [hne hd]
    have hy : p.key = q.key ∧ p.tick = q.tick ∧ p.text = q.text ∧ p.grs.length = q.grs.length ∧ p.aps.length = q.aps.length := by
      rw [k_eq] at h
      by_cases h1 : p.key = q.key
      · by_cases h2 : p.tick = q.tick
        · by_cases h3 : p.text = q.text
          · by_cases h4 : p.grs.length = q.grs.length
            · simp [h1, h2, h3, h4, xorb] at h
              exact ⟨h1, h2, h3, h4, by omega⟩
            · have h4' : ¬ (p.grs.length : Int) = (q.grs.length : Int) := by omega
              simp [h1, h2, h3, h4', xorb] at h
          · simp [h1, h2, h3, xorb] at h
        · simp [h1, h2, xorb] at h
      · simp [h1, xorb] at h
    clear h
    obtain ⟨y1, y2, y3, y4, y5⟩ := hy
    (repeat (first | refine wpS_seq ?_ | refine wpS_reg ?_ | refine run_step rfl (by ((repeat' (first | exact aN | refine aC ?_ ?_ | intro _)) <;> first | assumption | omega | (simp only [obS] at *; omega) | (intros; first | rfl | assumption | omega | simp_all; done))) ?_ | refine run_nil ?_ | refine wpS_block ?_ | refine wpS_skip ?_ | refine wpS_exit ?_ | refine wpS_ret ?_))
    refine wpS_loop (fun g => g ≤ p.grs.length ∧ ∀ j, j < g → p.grs.getD j default = q.grs.getD j default) (fun g => ⟨[(2, .loc 2 0), (3, .loc 3 0), (5, .int .i64 (k : Nat)), (6, .loc 6 0), (7, .loc 7 0), (8, .int .i64 (g : Nat))], [(2, .blk 31 [.int .i64 a.tick, lsA 7 enA a.ens]), (3, .blk 31 [.int .i64 b.tick, lsA 7 enA b.ens]), (6, .blk 39 (enA p)), (7, .blk 39 (enA q))]⟩) (fun g => p.grs.length - g) 0 ⟨by omega, by omega⟩
      (by refine ent_le ?_; (repeat' (first | exact aN | refine aC ?_ ?_)) <;> first | rfl | exact ⟨rfl, fun _ _ => rfl⟩) ?_
    rintro g ⟨hg, hgall⟩
    have hgg : ((g : Int)).toNat = g := Int.toNat_natCast g
    (repeat (first | refine wpS_seq ?_ | refine wpS_reg ?_ | refine run_step rfl (by ((repeat' (first | exact aN | refine aC ?_ ?_ | intro _)) <;> first | assumption | omega | (simp only [obS] at *; omega) | (intros; first | rfl | assumption | omega | simp_all; done))) ?_ | refine run_nil ?_ | refine wpS_block ?_ | refine wpS_skip ?_ | refine wpS_exit ?_ | refine wpS_ret ?_))
    refine wpS_cond rfl (by ((repeat' (first | exact aN | refine aC ?_ ?_ | intro _)) <;> first | assumption | omega | (simp only [obS] at *; omega) | (intros; first | rfl | assumption | omega | simp_all; done))) (fun h => ?_) (fun h => ?_)
    · have hlg : g < p.grs.length := by simpa using h
      clear h
      (repeat (first | refine wpS_seq ?_ | refine wpS_reg ?_ | refine run_step rfl (by ((repeat' (first | exact aN | refine aC ?_ ?_ | intro _)) <;> first | assumption | omega | (simp only [obS] at *; omega) | (intros; first | rfl | assumption | omega | simp_all; done))) ?_ | refine run_nil ?_ | refine wpS_block ?_ | refine wpS_skip ?_ | refine wpS_exit ?_ | refine wpS_ret ?_))
      refine wpS_D (by kernel_rfl) ?_
      (repeat (refine trg_step rfl (by ((repeat' (first | exact aN | refine aC ?_ ?_ | intro _)) <;> first | assumption | omega | (simp only [obS] at *; omega) | (intros; first | rfl | assumption | omega | simp_all; done))) ?_))
      refine trg_nil ⟨rfl, ?_⟩
      rw [gr_eq, xorb_t, hgg]
      refine wpS_cond rfl (by ((repeat' (first | exact aN | refine aC ?_ ?_ | intro _)) <;> first | assumption | omega | (simp only [obS] at *; omega) | (intros; first | rfl | assumption | omega | simp_all; done))) (fun h => ?_) (fun h => ?_)
      · have hd : p ≠ q := by
          rintro rfl
          simp at h
        (repeat (first | refine wpS_seq ?_ | refine wpS_reg ?_ | refine run_step rfl (by ((repeat' (first | exact aN | refine aC ?_ ?_ | intro _)) <;> first | assumption | omega | (simp only [obS] at *; omega) | (intros; first | rfl | assumption | omega | simp_all; done))) ?_ | refine run_nil ?_ | refine wpS_block ?_ | refine wpS_skip ?_ | refine wpS_exit ?_ | refine wpS_ret ?_))
        refine fin_mk rfl ?_; (repeat' (first | exact aN | refine aC ?_ ?_))
        rw [hne hd]
      · have hd : p.grs.getD g default = q.grs.getD g default := by simpa using h
        clear h
        (repeat (first | refine wpS_seq ?_ | refine wpS_reg ?_ | refine run_step rfl (by ((repeat' (first | exact aN | refine aC ?_ ?_ | intro _)) <;> first | assumption | omega | (simp only [obS] at *; omega) | (intros; first | rfl | assumption | omega | simp_all; done))) ?_ | refine run_nil ?_ | refine wpS_block ?_ | refine wpS_skip ?_ | refine wpS_exit ?_ | refine wpS_ret ?_))
        refine ⟨g + 1, ⟨by omega, fun j hj => ?_⟩, by dsimp only; omega, ?_⟩
        · by_cases hjg : j = g
          · rw [hjg]; exact hd
          · exact hgall j (by omega)
        · dsimp only
          refine ent_le ?_; (repeat' (first | exact aN | refine aC ?_ ?_)) <;> first | rfl | (dsimp only; omega) | exact ⟨rfl, fun _ _ => rfl⟩
    · have hlg : g = p.grs.length := by simp at h; omega
      subst hlg
      clear h
      have z1 : p.grs = q.grs := list_eq_of y4 hgall
      (repeat (first | refine wpS_seq ?_ | refine wpS_reg ?_ | refine run_step rfl (by ((repeat' (first | exact aN | refine aC ?_ ?_ | intro _)) <;> first | assumption | omega | (simp only [obS] at *; omega) | (intros; first | rfl | assumption | omega | simp_all; done))) ?_ | refine run_nil ?_ | refine wpS_block ?_ | refine wpS_skip ?_ | refine wpS_exit ?_ | refine wpS_ret ?_))
      refine wpS_loop (fun g => g ≤ p.aps.length ∧ ∀ j, j < g → p.aps.getD j default = q.aps.getD j default) (fun g => ⟨[(2, .loc 2 0), (3, .loc 3 0), (5, .int .i64 (k : Nat)), (6, .loc 6 0), (7, .loc 7 0), (9, .int .i64 (g : Nat))], [(2, .blk 31 [.int .i64 a.tick, lsA 7 enA a.ens]), (3, .blk 31 [.int .i64 b.tick, lsA 7 enA b.ens]), (6, .blk 39 (enA p)), (7, .blk 39 (enA q))]⟩) (fun g => p.aps.length - g) 0 ⟨by omega, by omega⟩
        (by refine ent_le ?_; (repeat' (first | exact aN | refine aC ?_ ?_)) <;> first | rfl | exact ⟨rfl, fun _ _ => rfl⟩) ?_
      rintro g ⟨hg, hgall'⟩
      have hgg : ((g : Int)).toNat = g := Int.toNat_natCast g
      (repeat (first | refine wpS_seq ?_ | refine wpS_reg ?_ | refine run_step rfl (by ((repeat' (first | exact aN | refine aC ?_ ?_ | intro _)) <;> first | assumption | omega | (simp only [obS] at *; omega) | (intros; first | rfl | assumption | omega | simp_all; done))) ?_ | refine run_nil ?_ | refine wpS_block ?_ | refine wpS_skip ?_ | refine wpS_exit ?_ | refine wpS_ret ?_))
      refine wpS_cond rfl (by ((repeat' (first | exact aN | refine aC ?_ ?_ | intro _)) <;> first | assumption | omega | (simp only [obS] at *; omega) | (intros; first | rfl | assumption | omega | simp_all; done))) (fun h => ?_) (fun h => ?_)
      · have hlg : g < p.aps.length := by simpa using h
        clear h
        (repeat (first | refine wpS_seq ?_ | refine wpS_reg ?_ | refine run_step rfl (by ((repeat' (first | exact aN | refine aC ?_ ?_ | intro _)) <;> first | assumption | omega | (simp only [obS] at *; omega) | (intros; first | rfl | assumption | omega | simp_all; done))) ?_ | refine run_nil ?_ | refine wpS_block ?_ | refine wpS_skip ?_ | refine wpS_exit ?_ | refine wpS_ret ?_))
        refine wpS_D (by kernel_rfl) ?_
        (repeat (refine trg_step rfl (by ((repeat' (first | exact aN | refine aC ?_ ?_ | intro _)) <;> first | assumption | omega | (simp only [obS] at *; omega) | (intros; first | rfl | assumption | omega | simp_all; done))) ?_))
        refine trg_nil ⟨rfl, ?_⟩
        rw [ap_eq, xorb_t, hgg]
        refine wpS_cond rfl (by ((repeat' (first | exact aN | refine aC ?_ ?_ | intro _)) <;> first | assumption | omega | (simp only [obS] at *; omega) | (intros; first | rfl | assumption | omega | simp_all; done))) (fun h => ?_) (fun h => ?_)
        · have hd : p ≠ q := by
            rintro rfl
            simp at h
          (repeat (first | refine wpS_seq ?_ | refine wpS_reg ?_ | refine run_step rfl (by ((repeat' (first | exact aN | refine aC ?_ ?_ | intro _)) <;> first | assumption | omega | (simp only [obS] at *; omega) | (intros; first | rfl | assumption | omega | simp_all; done))) ?_ | refine run_nil ?_ | refine wpS_block ?_ | refine wpS_skip ?_ | refine wpS_exit ?_ | refine wpS_ret ?_))
          refine fin_mk rfl ?_; (repeat' (first | exact aN | refine aC ?_ ?_))
          rw [hne hd]
        · have hd : p.aps.getD g default = q.aps.getD g default := by simpa using h
          clear h
          (repeat (first | refine wpS_seq ?_ | refine wpS_reg ?_ | refine run_step rfl (by ((repeat' (first | exact aN | refine aC ?_ ?_ | intro _)) <;> first | assumption | omega | (simp only [obS] at *; omega) | (intros; first | rfl | assumption | omega | simp_all; done))) ?_ | refine run_nil ?_ | refine wpS_block ?_ | refine wpS_skip ?_ | refine wpS_exit ?_ | refine wpS_ret ?_))
          refine ⟨g + 1, ⟨by omega, fun j hj => ?_⟩, by dsimp only; omega, ?_⟩
          · by_cases hjg : j = g
            · rw [hjg]; exact hd
            · exact hgall' j (by omega)
          · dsimp only
            refine ent_le ?_; (repeat' (first | exact aN | refine aC ?_ ?_)) <;> first | rfl | (dsimp only; omega) | exact ⟨rfl, fun _ _ => rfl⟩
      · have hlg : g = p.aps.length := by simp at h; omega
        subst hlg
        clear h
        have z2 : p.aps = q.aps := list_eq_of y5 hgall'
        have z : p = q := by
          cases p; cases q
          simp_all
        (repeat (first | refine wpS_seq ?_ | refine wpS_reg ?_ | refine run_step rfl (by ((repeat' (first | exact aN | refine aC ?_ ?_ | intro _)) <;> first | assumption | omega | (simp only [obS] at *; omega) | (intros; first | rfl | assumption | omega | simp_all; done))) ?_ | refine run_nil ?_ | refine wpS_block ?_ | refine wpS_skip ?_ | refine wpS_exit ?_ | refine wpS_ret ?_))
        refine ⟨k + 1, ⟨by omega, fun j hj => ?_⟩, by dsimp only; omega, ?_⟩
        · by_cases hjk : j = k
          · rw [hjk]; exact hpq z
          · exact hall j (by omega)
        · dsimp only
          refine ent_le ?_; (repeat' (first | exact aN | refine aC ?_ ?_)) <;> first | rfl | (dsimp only; omega) | exact ⟨rfl, fun _ _ => rfl⟩
  · have hlt : k = a.ens.length := by simp at h; omega
    subst hlt
    clear h
    have z : a = b := by
      have := list_eq_of hlen hall
      cases a; cases b
      simp_all
    (repeat (first | refine wpS_seq ?_ | refine wpS_reg ?_ | refine run_step rfl (by ((repeat' (first | exact aN | refine aC ?_ ?_ | intro _)) <;> first | assumption | omega | (simp only [obS] at *; omega) | (intros; first | rfl | assumption | omega | simp_all; done))) ?_ | refine run_nil ?_ | refine wpS_block ?_ | refine wpS_skip ?_ | refine wpS_exit ?_ | refine wpS_ret ?_))
    refine fin_mk rfl ?_; (repeat' (first | exact aN | refine aC ?_ ?_))
    simp [z]
end Go.Proofs
end
/- part BkStudents -/
section
namespace Go.Proofs
open Go.Av Go.Pu
theorem smN_sm {n : Nat} {b : Bk} (h : SmN n b) (hn : n ≤ 1000000) : Sm b := sm_dec (Nat.le_trans h.1 hn) h.2
theorem few_two (x y : Ev) (n : Nat) (f : Nat → List AV) (m : Int) (hn : n = 2) (h0 : f 0 = evA x) (h1 : f 1 = evA y) : Spec0 Tryz.prog 12 [.sl 9 n f, .int .i64 m] (.bool (fewB [x, y] m)) := by
  refine spec0_leA (few_spec [x, y] m (by simp)) ⟨⟨hn, fun i hi => ?_⟩, rfl, trivial⟩
  subst hn
  match i, hi with
  | 0, _ => rw [h0]; rfl
  | 1, _ => rw [h1]; rfl
theorem stu_smb {b : Bk} {s : List UInt8} (h : Sm b) : SmB (studentX b s).ens := by
  unfold studentX
  split
  · exact SmV.b (Nat.le_trans (evsRaw_filter b.ens _) h.1)
  · exact sm_empty.1.b
set_option maxRecDepth 40000 in
set_option maxHeartbeats 4000000 in
theorem students_spec (l : List Ev) (x y : Ev) (r : AR) (hl : l.length ≤ 9223372036854775807) : Spec0 Tryz.prog 7 [evsA l, .agg (evA x), .agg (evA y), .agg (arA r)] (.bool true) := by
  refine spec0 ok7 rfl fun C _ => ?_
  (repeat (first | refine wpS_seq ?_ | refine wpS_reg ?_ | refine run_step rfl (by ((repeat' (first | exact aN | refine aC ?_ ?_ | intro _)) <;> first | assumption | omega | (simp only [obS] at *; omega) | (intros; first | rfl | assumption | omega | simp_all; done))) ?_ | refine run_nil ?_ | refine wpS_block ?_ | refine wpS_skip ?_ | refine wpS_exit ?_ | refine wpS_ret ?_))
  refine run_c (awake_spec) rfl (by ((repeat' (first | exact aN | refine aC ?_ ?_ | intro _)) <;> first | assumption | omega | (simp only [obS] at *; omega) | (intros; first | rfl | assumption | omega | simp_all; done))) rfl rfl (.inl rfl) ?_
  (repeat (first | refine wpS_seq ?_ | refine wpS_reg ?_ | refine run_step rfl (by ((repeat' (first | exact aN | refine aC ?_ ?_ | intro _)) <;> first | assumption | omega | (simp only [obS] at *; omega) | (intros; first | rfl | assumption | omega | simp_all; done))) ?_ | refine run_nil ?_ | refine wpS_block ?_ | refine wpS_skip ?_ | refine wpS_exit ?_ | refine wpS_ret ?_))
  refine wpS_condF rfl (by ((repeat' (first | exact aN | refine aC ?_ ?_ | intro _)) <;> first | assumption | omega | (simp only [obS] at *; omega) | (intros; first | rfl | assumption | omega | simp_all; done))) ?_
  (repeat (first | refine wpS_seq ?_ | refine wpS_reg ?_ | refine run_step rfl (by ((repeat' (first | exact aN | refine aC ?_ ?_ | intro _)) <;> first | assumption | omega | (simp only [obS] at *; omega) | (intros; first | rfl | assumption | omega | simp_all; done))) ?_ | refine run_nil ?_ | refine wpS_block ?_ | refine wpS_skip ?_ | refine wpS_exit ?_ | refine wpS_ret ?_))
  refine run_c ((few_spec l 24 hl)) rfl (by ((repeat' (first | exact aN | refine aC ?_ ?_ | intro _)) <;> first | assumption | omega | (simp only [obS] at *; omega) | (intros; first | rfl | assumption | omega | simp_all; done))) rfl rfl (.inl rfl) ?_
  cases hf : fewB l 24 with
  | false =>
    (repeat (first | refine wpS_seq ?_ | refine wpS_reg ?_ | refine run_step rfl (by ((repeat' (first | exact aN | refine aC ?_ ?_ | intro _)) <;> first | assumption | omega | (simp only [obS] at *; omega) | (intros; first | rfl | assumption | omega | simp_all; done))) ?_ | refine run_nil ?_ | refine wpS_block ?_ | refine wpS_skip ?_ | refine wpS_exit ?_))
    refine run_skipS .nils rfl rfl ?_
    refine run_skipC (.bool false) rfl ?_
    (repeat (first | refine wpS_seq ?_ | refine wpS_reg ?_ | refine run_step rfl (by ((repeat' (first | exact aN | refine aC ?_ ?_ | intro _)) <;> first | assumption | omega | (simp only [obS] at *; omega) | (intros; first | rfl | assumption | omega | simp_all; done))) ?_ | refine run_nil ?_ | refine wpS_block ?_ | refine wpS_skip ?_ | refine wpS_exit ?_ | refine wpS_ret ?_))
    refine wpS_condT rfl (by ((repeat' (first | exact aN | refine aC ?_ ?_ | intro _)) <;> first | assumption | omega | (simp only [obS] at *; omega) | (intros; first | rfl | assumption | omega | simp_all; done))) ?_
    (repeat (first | refine wpS_seq ?_ | refine wpS_reg ?_ | refine run_step rfl (by ((repeat' (first | exact aN | refine aC ?_ ?_ | intro _)) <;> first | assumption | omega | (simp only [obS] at *; omega) | (intros; first | rfl | assumption | omega | simp_all; done))) ?_ | refine run_nil ?_ | refine wpS_block ?_ | refine wpS_skip ?_ | refine wpS_exit ?_ | refine wpS_ret ?_))
    refine fin_mk rfl ?_; (repeat' (first | exact aN | refine aC ?_ ?_))
    rfl
  | true =>
  (repeat (first | refine wpS_seq ?_ | refine wpS_reg ?_ | refine run_step rfl (by ((repeat' (first | exact aN | refine aC ?_ ?_ | intro _)) <;> first | assumption | omega | (simp only [obS] at *; omega) | (intros; first | rfl | assumption | omega | simp_all; done))) ?_ | refine run_nil ?_ | refine wpS_block ?_ | refine wpS_skip ?_ | refine wpS_exit ?_))
  refine run_ent (ent_und 27 rfl) ?_
  refine run_ent (ent_und 28 rfl) ?_
  refine run_met rfl rfl (by ((repeat' (first | exact aN | refine aC ?_ ?_ | intro _)) <;> first | assumption | omega | (simp only [obS] at *; omega) | (intros; first | rfl | assumption | omega | simp_all; done))) ?_
  (repeat (first | refine wpS_seq ?_ | refine wpS_reg ?_ | refine run_step rfl (by ((repeat' (first | exact aN | refine aC ?_ ?_ | intro _)) <;> first | assumption | omega | (simp only [obS] at *; omega) | (intros; first | rfl | assumption | omega | simp_all; done))) ?_ | refine run_nil ?_ | refine wpS_block ?_ | refine wpS_skip ?_ | refine wpS_exit ?_))
  refine run_cg rfl (fun hG => (few_two x y 2 (nth [evA x, evA y]) 2 rfl rfl rfl)) rfl (fun hG => by ((repeat' (first | exact aN | refine aC ?_ ?_ | intro _)) <;> first | assumption | omega | (simp only [obS] at *; omega) | (intros; first | rfl | assumption | omega | simp_all; done))) rfl rfl (.inl rfl) ?_
  cases hf1 : fewB [x, y] 2 with
  | false =>
    (repeat (first | refine wpS_seq ?_ | refine wpS_reg ?_ | refine run_step rfl (by ((repeat' (first | exact aN | refine aC ?_ ?_ | intro _)) <;> first | assumption | omega | (simp only [obS] at *; omega) | (intros; first | rfl | assumption | omega | simp_all; done))) ?_ | refine run_nil ?_ | refine wpS_block ?_ | refine wpS_skip ?_ | refine wpS_exit ?_))
    refine wpS_condT rfl (by ((repeat' (first | exact aN | refine aC ?_ ?_ | intro _)) <;> first | assumption | omega | (simp only [obS] at *; omega) | (intros; first | rfl | assumption | omega | simp_all; done))) ?_
    (repeat (first | refine wpS_seq ?_ | refine wpS_reg ?_ | refine run_step rfl (by ((repeat' (first | exact aN | refine aC ?_ ?_ | intro _)) <;> first | assumption | omega | (simp only [obS] at *; omega) | (intros; first | rfl | assumption | omega | simp_all; done))) ?_ | refine run_nil ?_ | refine wpS_block ?_ | refine wpS_skip ?_ | refine wpS_exit ?_ | refine wpS_ret ?_))
    refine fin_mk rfl ?_; (repeat' (first | exact aN | refine aC ?_ ?_))
    rfl
  | true =>
  obtain ⟨hsk, hln⟩ := few_smK hf
  have hxk : SmK x := (few_smK hf1).1 x (by simp)
  have hyk : SmK y := (few_smK hf1).1 y (by simp)
  have hl' : l.length ≤ 1000000 := by omega
  (repeat (first | refine wpS_seq ?_ | refine wpS_reg ?_ | refine run_step rfl (by ((repeat' (first | exact aN | refine aC ?_ ?_ | intro _)) <;> first | assumption | omega | (simp only [obS] at *; omega) | (intros; first | rfl | assumption | omega | simp_all; done))) ?_ | refine run_nil ?_ | refine wpS_block ?_ | refine wpS_skip ?_ | refine wpS_exit ?_))
  refine wpS_cond rfl (by ((repeat' (first | exact aN | refine aC ?_ ?_ | intro _)) <;> first | assumption | omega | (simp only [obS] at *; omega) | (intros; first | rfl | assumption | omega | simp_all; done))) (fun h => ?_) (fun h => ?_)
  · (repeat (first | refine wpS_seq ?_ | refine wpS_reg ?_ | refine run_step rfl (by ((repeat' (first | exact aN | refine aC ?_ ?_ | intro _)) <;> first | assumption | omega | (simp only [obS] at *; omega) | (intros; first | rfl | assumption | omega | simp_all; done))) ?_ | refine run_nil ?_ | refine wpS_block ?_ | refine wpS_skip ?_ | refine wpS_exit ?_ | refine wpS_ret ?_))
    refine fin_mk rfl ?_; (repeat' (first | exact aN | refine aC ?_ ?_))
    rfl
  have hne : x.key.stu ≠ y.key.stu := by simpa using h
  clear h
  (repeat (first | refine wpS_seq ?_ | refine wpS_reg ?_ | refine run_step rfl (by ((repeat' (first | exact aN | refine aC ?_ ?_ | intro _)) <;> first | assumption | omega | (simp only [obS] at *; omega) | (intros; first | rfl | assumption | omega | simp_all; done))) ?_ | refine run_nil ?_ | refine wpS_block ?_ | refine wpS_skip ?_ | refine wpS_exit ?_ | refine wpS_ret ?_))
  refine run_c ((make_spec l hl' hsk)) rfl (by ((repeat' (first | exact aN | refine aC ?_ ?_ | intro _)) <;> first | assumption | omega | (simp only [obS] at *; omega) | (intros; first | rfl | assumption | omega | simp_all; done))) rfl rfl (.inr rfl) ?_
  have hms : SmN 24 (make l) := ⟨by have := (make_inv l).1; omega, (make_inv l).2⟩
  generalize make l = b at hms ⊢
  have hzk : SmK ⟨y.kind, y.key, x.tick, y.ver, y.hun, y.text, y.acc⟩ := hyk
  have hs3 := smN_sm hms (by decide)
  (repeat (first | refine wpS_seq ?_ | refine wpS_reg ?_ | refine run_step rfl (by ((repeat' (first | exact aN | refine aC ?_ ?_ | intro _)) <;> first | assumption | omega | (simp only [obS] at *; omega) | (intros; first | rfl | assumption | omega | simp_all; done))) ?_ | refine run_nil ?_ | refine wpS_block ?_ | refine wpS_skip ?_ | refine wpS_exit ?_ | refine wpS_ret ?_))
  refine run_c ((applyX_spec b x hs3 hxk)) rfl (by ((repeat' (first | exact aN | refine aC ?_ ?_ | intro _)) <;> first | assumption | omega | (simp only [obS] at *; omega) | (intros; first | rfl | assumption | omega | simp_all; done))) rfl rfl (.inr rfl) ?_
  have hR : applyX b x = ((applyX b x).1, (applyX b x).2) := rfl
  have hcm := smN_apply (e := x) hms
  generalize (applyX b x).1 = e at hR ⊢
  generalize (applyX b x).2 = c at hR hcm ⊢
  have hcs := smN_sm hcm (by decide)
  (repeat (first | refine wpS_seq ?_ | refine wpS_reg ?_ | refine run_step rfl (by ((repeat' (first | exact aN | refine aC ?_ ?_ | intro _)) <;> first | assumption | omega | (simp only [obS] at *; omega) | (intros; first | rfl | assumption | omega | simp_all; done))) ?_ | refine run_nil ?_ | refine wpS_block ?_ | refine wpS_skip ?_ | refine wpS_exit ?_ | refine wpS_ret ?_))
  refine wpS_cond rfl (by ((repeat' (first | exact aN | refine aC ?_ ?_ | intro _)) <;> first | assumption | omega | (simp only [obS] at *; omega) | (intros; first | rfl | assumption | omega | simp_all; done))) (fun h => ?_) (fun h => ?_)
  · (repeat (first | refine wpS_seq ?_ | refine wpS_reg ?_ | refine run_step rfl (by ((repeat' (first | exact aN | refine aC ?_ ?_ | intro _)) <;> first | assumption | omega | (simp only [obS] at *; omega) | (intros; first | rfl | assumption | omega | simp_all; done))) ?_ | refine run_nil ?_ | refine wpS_block ?_ | refine wpS_skip ?_ | refine wpS_exit ?_ | refine wpS_ret ?_))
    refine fin_mk rfl ?_; (repeat' (first | exact aN | refine aC ?_ ?_))
    rfl
  have h0 : e = 0 := by simpa using h
  subst h0
  clear h
  have S1 := students1 hR hne y.key.ex r
  (repeat (first | refine wpS_seq ?_ | refine wpS_reg ?_ | refine run_step rfl (by ((repeat' (first | exact aN | refine aC ?_ ?_ | intro _)) <;> first | assumption | omega | (simp only [obS] at *; omega) | (intros; first | rfl | assumption | omega | simp_all; done))) ?_ | refine run_nil ?_ | refine wpS_block ?_ | refine wpS_skip ?_ | refine wpS_exit ?_ | refine wpS_ret ?_))
  refine run_c ((points25_spec b y.key.stu y.key.ex r hs3)) rfl (by ((repeat' (first | exact aN | refine aC ?_ ?_ | intro _)) <;> first | assumption | omega | (simp only [obS] at *; omega) | (intros; first | rfl | assumption | omega | simp_all; done))) rfl rfl (.inl rfl) ?_
  (repeat (first | refine wpS_seq ?_ | refine wpS_reg ?_ | refine run_step rfl (by ((repeat' (first | exact aN | refine aC ?_ ?_ | intro _)) <;> first | assumption | omega | (simp only [obS] at *; omega) | (intros; first | rfl | assumption | omega | simp_all; done))) ?_ | refine run_nil ?_ | refine wpS_block ?_ | refine wpS_skip ?_ | refine wpS_exit ?_ | refine wpS_ret ?_))
  refine run_c ((points25_spec c y.key.stu y.key.ex r hcs)) rfl (by ((repeat' (first | exact aN | refine aC ?_ ?_ | intro _)) <;> first | assumption | omega | (simp only [obS] at *; omega) | (intros; first | rfl | assumption | omega | simp_all; done))) rfl rfl (.inl rfl) ?_
  rw [← S1.pts]
  generalize pointsX b y.key.stu y.key.ex r = pp
  (repeat (first | refine wpS_seq ?_ | refine wpS_reg ?_ | refine run_step rfl (by ((repeat' (first | exact aN | refine aC ?_ ?_ | intro _)) <;> first | assumption | omega | (simp only [obS] at *; omega) | (intros; first | rfl | assumption | omega | simp_all; done))) ?_ | refine run_nil ?_ | refine wpS_block ?_ | refine wpS_skip ?_ | refine wpS_exit ?_ | refine wpS_ret ?_))
  refine wpS_D (by kernel_rfl) ?_
  (repeat (refine trg_step rfl (by ((repeat' (first | exact aN | refine aC ?_ ?_ | intro _)) <;> first | assumption | omega | (simp only [obS] at *; omega) | (intros; first | rfl | assumption | omega | simp_all; done))) ?_))
  refine trg_c ((student_spec b y.key.stu hs3)) rfl (by ((repeat' (first | exact aN | refine aC ?_ ?_ | intro _)) <;> first | assumption | omega | (simp only [obS] at *; omega) | (intros; first | rfl | assumption | omega | simp_all; done))) rfl rfl (.inr rfl) ?_
  (repeat (refine trg_step rfl (by ((repeat' (first | exact aN | refine aC ?_ ?_ | intro _)) <;> first | assumption | omega | (simp only [obS] at *; omega) | (intros; first | rfl | assumption | omega | simp_all; done))) ?_))
  refine trg_c ((student_spec c y.key.stu hcs)) rfl (by ((repeat' (first | exact aN | refine aC ?_ ?_ | intro _)) <;> first | assumption | omega | (simp only [obS] at *; omega) | (intros; first | rfl | assumption | omega | simp_all; done))) rfl rfl (.inr rfl) ?_
  (repeat (refine trg_step rfl (by ((repeat' (first | exact aN | refine aC ?_ ?_ | intro _)) <;> first | assumption | omega | (simp only [obS] at *; omega) | (intros; first | rfl | assumption | omega | simp_all; done))) ?_))
  refine trg_c ((refSame_spec (studentX b y.key.stu) (studentX c y.key.stu) (stu_smb hs3))) rfl (by ((repeat' (first | exact aN | refine aC ?_ ?_ | intro _)) <;> first | assumption | omega | (simp only [obS] at *; omega) | (intros; first | rfl | assumption | omega | simp_all; done))) rfl rfl (.inl rfl) ?_
  rw [S1.stu]
  (repeat (refine trg_step rfl (by ((repeat' (first | exact aN | refine aC ?_ ?_ | intro _)) <;> first | assumption | omega | (simp only [obS] at *; omega) | (intros; first | rfl | assumption | omega | simp_all; done))) ?_))
  refine trg_nil ⟨rfl, ?_⟩
  refine wpS_cond rfl (by ((repeat' (first | exact aN | refine aC ?_ ?_ | intro _)) <;> first | assumption | omega | (simp only [obS] at *; omega) | (intros; first | rfl | assumption | omega | simp_all; done))) (fun h => ?_) (fun h => ?_)
  · exfalso
    simp at h
  clear h
  (repeat (first | refine wpS_seq ?_ | refine wpS_reg ?_ | refine run_step rfl (by ((repeat' (first | exact aN | refine aC ?_ ?_ | intro _)) <;> first | assumption | omega | (simp only [obS] at *; omega) | (intros; first | rfl | assumption | omega | simp_all; done))) ?_ | refine run_nil ?_ | refine wpS_block ?_ | refine wpS_skip ?_ | refine wpS_exit ?_ | refine wpS_ret ?_))
  refine run_c ((applyX_spec b ⟨y.kind, y.key, x.tick, y.ver, y.hun, y.text, y.acc⟩ hs3 hzk)) rfl (by ((repeat' (first | exact aN | refine aC ?_ ?_ | intro _)) <;> first | assumption | omega | (simp only [obS] at *; omega) | (intros; first | rfl | assumption | omega | simp_all; done))) rfl rfl (.inr rfl) ?_
  have hR2 : applyX b ⟨y.kind, y.key, x.tick, y.ver, y.hun, y.text, y.acc⟩ = ((applyX b ⟨y.kind, y.key, x.tick, y.ver, y.hun, y.text, y.acc⟩).1, (applyX b ⟨y.kind, y.key, x.tick, y.ver, y.hun, y.text, y.acc⟩).2) := rfl
  have hdm := smN_apply (e := ⟨y.kind, y.key, x.tick, y.ver, y.hun, y.text, y.acc⟩) hms
  generalize (applyX b ⟨y.kind, y.key, x.tick, y.ver, y.hun, y.text, y.acc⟩).1 = f at hR2 ⊢
  generalize (applyX b ⟨y.kind, y.key, x.tick, y.ver, y.hun, y.text, y.acc⟩).2 = d at hR2 hdm ⊢
  have hds := smN_sm hdm (by decide)
  (repeat (first | refine wpS_seq ?_ | refine wpS_reg ?_ | refine run_step rfl (by ((repeat' (first | exact aN | refine aC ?_ ?_ | intro _)) <;> first | assumption | omega | (simp only [obS] at *; omega) | (intros; first | rfl | assumption | omega | simp_all; done))) ?_ | refine run_nil ?_ | refine wpS_block ?_ | refine wpS_skip ?_ | refine wpS_exit ?_ | refine wpS_ret ?_))
  refine wpS_cond rfl (by ((repeat' (first | exact aN | refine aC ?_ ?_ | intro _)) <;> first | assumption | omega | (simp only [obS] at *; omega) | (intros; first | rfl | assumption | omega | simp_all; done))) (fun h => ?_) (fun h => ?_)
  · (repeat (first | refine wpS_seq ?_ | refine wpS_reg ?_ | refine run_step rfl (by ((repeat' (first | exact aN | refine aC ?_ ?_ | intro _)) <;> first | assumption | omega | (simp only [obS] at *; omega) | (intros; first | rfl | assumption | omega | simp_all; done))) ?_ | refine run_nil ?_ | refine wpS_block ?_ | refine wpS_skip ?_ | refine wpS_exit ?_ | refine wpS_ret ?_))
    refine fin_mk rfl ?_; (repeat' (first | exact aN | refine aC ?_ ?_))
    rfl
  have h0 : f = 0 := by simpa using h
  subst h0
  clear h
  (repeat (first | refine wpS_seq ?_ | refine wpS_reg ?_ | refine run_step rfl (by ((repeat' (first | exact aN | refine aC ?_ ?_ | intro _)) <;> first | assumption | omega | (simp only [obS] at *; omega) | (intros; first | rfl | assumption | omega | simp_all; done))) ?_ | refine run_nil ?_ | refine wpS_block ?_ | refine wpS_skip ?_ | refine wpS_exit ?_ | refine wpS_ret ?_))
  refine run_c ((applyX_spec c ⟨y.kind, y.key, x.tick, y.ver, y.hun, y.text, y.acc⟩ hcs hzk)) rfl (by ((repeat' (first | exact aN | refine aC ?_ ?_ | intro _)) <;> first | assumption | omega | (simp only [obS] at *; omega) | (intros; first | rfl | assumption | omega | simp_all; done))) rfl rfl (.inr rfl) ?_
  have hR3 : applyX c ⟨y.kind, y.key, x.tick, y.ver, y.hun, y.text, y.acc⟩ = ((applyX c ⟨y.kind, y.key, x.tick, y.ver, y.hun, y.text, y.acc⟩).1, (applyX c ⟨y.kind, y.key, x.tick, y.ver, y.hun, y.text, y.acc⟩).2) := rfl
  have hpm := smN_apply (e := ⟨y.kind, y.key, x.tick, y.ver, y.hun, y.text, y.acc⟩) hcm
  generalize (applyX c ⟨y.kind, y.key, x.tick, y.ver, y.hun, y.text, y.acc⟩).1 = g at hR3 ⊢
  generalize (applyX c ⟨y.kind, y.key, x.tick, y.ver, y.hun, y.text, y.acc⟩).2 = p at hR3 hpm ⊢
  have hps := smN_sm hpm (by decide)
  (repeat (first | refine wpS_seq ?_ | refine wpS_reg ?_ | refine run_step rfl (by ((repeat' (first | exact aN | refine aC ?_ ?_ | intro _)) <;> first | assumption | omega | (simp only [obS] at *; omega) | (intros; first | rfl | assumption | omega | simp_all; done))) ?_ | refine run_nil ?_ | refine wpS_block ?_ | refine wpS_skip ?_ | refine wpS_exit ?_ | refine wpS_ret ?_))
  refine run_c ((applyX_spec d x hds hxk)) rfl (by ((repeat' (first | exact aN | refine aC ?_ ?_ | intro _)) <;> first | assumption | omega | (simp only [obS] at *; omega) | (intros; first | rfl | assumption | omega | simp_all; done))) rfl rfl (.inr rfl) ?_
  have hR4 : applyX d x = ((applyX d x).1, (applyX d x).2) := rfl
  have hqm := smN_apply (e := x) hdm
  generalize (applyX d x).1 = hh at hR4 ⊢
  generalize (applyX d x).2 = q at hR4 hqm ⊢
  have hqs := smN_sm hqm (by decide)
  have S2 := students2 hR hR2 rfl hne hR3 hR4
  (repeat (first | refine wpS_seq ?_ | refine wpS_reg ?_ | refine run_step rfl (by ((repeat' (first | exact aN | refine aC ?_ ?_ | intro _)) <;> first | assumption | omega | (simp only [obS] at *; omega) | (intros; first | rfl | assumption | omega | simp_all; done))) ?_ | refine run_nil ?_ | refine wpS_block ?_ | refine wpS_skip ?_ | refine wpS_exit ?_ | refine wpS_ret ?_))
  refine wpS_D (by kernel_rfl) ?_
  (repeat (refine trg_step rfl (by ((repeat' (first | exact aN | refine aC ?_ ?_ | intro _)) <;> first | assumption | omega | (simp only [obS] at *; omega) | (intros; first | rfl | assumption | omega | simp_all; done))) ?_))
  refine trg_cg rfl (fun hG => (student_spec p y.key.stu hps)) rfl (fun hG => by ((repeat' (first | exact aN | refine aC ?_ ?_ | intro _)) <;> first | assumption | omega | (simp only [obS] at *; omega) | (intros; first | rfl | assumption | omega | simp_all; done))) rfl rfl (.inr rfl) ?_
  (repeat (refine trg_step rfl (by ((repeat' (first | exact aN | refine aC ?_ ?_ | intro _)) <;> first | assumption | omega | (simp only [obS] at *; omega) | (intros; first | rfl | assumption | omega | simp_all; done))) ?_))
  refine trg_cg rfl (fun hG => (student_spec q y.key.stu hqs)) rfl (fun hG => by ((repeat' (first | exact aN | refine aC ?_ ?_ | intro _)) <;> first | assumption | omega | (simp only [obS] at *; omega) | (intros; first | rfl | assumption | omega | simp_all; done))) rfl rfl (.inr rfl) ?_
  (repeat (refine trg_step rfl (by ((repeat' (first | exact aN | refine aC ?_ ?_ | intro _)) <;> first | assumption | omega | (simp only [obS] at *; omega) | (intros; first | rfl | assumption | omega | simp_all; done))) ?_))
  refine trg_cg rfl (fun hG => ((refSame_spec (studentX p y.key.stu) (studentX q y.key.stu) (stu_smb hps)))) rfl (fun hG => by ((repeat' (first | exact aN | refine aC ?_ ?_ | intro _)) <;> first | assumption | omega | (simp only [obS] at *; omega) | (intros; first | rfl | assumption | omega | simp_all; done))) rfl rfl (.inl rfl) ?_
  (repeat (refine trg_step rfl (by ((repeat' (first | exact aN | refine aC ?_ ?_ | intro _)) <;> first | assumption | omega | (simp only [obS] at *; omega) | (intros; first | rfl | assumption | omega | simp_all; done))) ?_))
  refine trg_cg rfl (fun hG => (student_spec p x.key.stu hps)) rfl (fun hG => by ((repeat' (first | exact aN | refine aC ?_ ?_ | intro _)) <;> first | assumption | omega | (simp only [obS] at *; omega) | (intros; first | rfl | assumption | omega | simp_all; done))) rfl rfl (.inr rfl) ?_
  (repeat (refine trg_step rfl (by ((repeat' (first | exact aN | refine aC ?_ ?_ | intro _)) <;> first | assumption | omega | (simp only [obS] at *; omega) | (intros; first | rfl | assumption | omega | simp_all; done))) ?_))
  refine trg_cg rfl (fun hG => (student_spec q x.key.stu hqs)) rfl (fun hG => by ((repeat' (first | exact aN | refine aC ?_ ?_ | intro _)) <;> first | assumption | omega | (simp only [obS] at *; omega) | (intros; first | rfl | assumption | omega | simp_all; done))) rfl rfl (.inr rfl) ?_
  (repeat (refine trg_step rfl (by ((repeat' (first | exact aN | refine aC ?_ ?_ | intro _)) <;> first | assumption | omega | (simp only [obS] at *; omega) | (intros; first | rfl | assumption | omega | simp_all; done))) ?_))
  refine trg_cg rfl (fun hG => ((refSame_spec (studentX p x.key.stu) (studentX q x.key.stu) (stu_smb hps)))) rfl (fun hG => by ((repeat' (first | exact aN | refine aC ?_ ?_ | intro _)) <;> first | assumption | omega | (simp only [obS] at *; omega) | (intros; first | rfl | assumption | omega | simp_all; done))) rfl rfl (.inl rfl) ?_
  (repeat (refine trg_step rfl (by ((repeat' (first | exact aN | refine aC ?_ ?_ | intro _)) <;> first | assumption | omega | (simp only [obS] at *; omega) | (intros; first | rfl | assumption | omega | simp_all; done))) ?_))
  refine trg_nil ⟨rfl, ?_⟩
  (repeat (first | refine wpS_seq ?_ | refine wpS_reg ?_ | refine run_step rfl (by ((repeat' (first | exact aN | refine aC ?_ ?_ | intro _)) <;> first | assumption | omega | (simp only [obS] at *; omega) | (intros; first | rfl | assumption | omega | simp_all; done))) ?_ | refine run_nil ?_ | refine wpS_block ?_ | refine wpS_skip ?_ | refine wpS_exit ?_ | refine wpS_ret ?_))
  refine fin_mk rfl ?_; (repeat' (first | exact aN | refine aC ?_ ?_))
  rcases S2 with h8 | ⟨h1, h2, h3⟩
  · subst h8
    rfl
  · subst h1 h2
    rw [h3 y.key.stu, h3 x.key.stu]
    simp
end Go.Proofs
end
