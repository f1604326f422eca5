/-
  WHAT IS PROVED: the law BookStudents returns true at every input, and its arguments read behind the call as they read before. Conditions: those of the given row and card alone.
-/
import Derived.Test.YtgnhmklpekgndaaGreatDoorStuH
import Derived.Test.YtgnhmklpekgndaaGreatDoorCards
import Derived.SevenTiedAt
set_option linter.all false
/- part BkStudentsCard -/
section
namespace Go.Proofs.YtgnhmklpekgndaaGreatDoor
open Go Go.Av Go.Pu Go.Deep
open Go.ChangeShapes Go.WideShapes Go.ChangeAt Go.RowKit
theorem maxLen_le {n : Nat} (h : n ≤ maxLen) : n ≤ 9223372036854775807 := Nat.le_trans h (by decide)
set_option maxRecDepth 100000 in
theorem students_lifted (os : Os) (started : os.Started) (H : Type) (enc : TypeId × Value → H) :
    ReturnsInHanded {} Tryz.checked os 7 .any (fun w args => (Rows.bookStudentsSpec.pre enc Tryz.prog Tryz.f7 [] false w args ∧ laidMetH Tryz.prog laid3 w) ∧ sizedMet enc Tryz.prog Tryz.f7 (OpenSpec.ofChange Rows.bookStudentsSpec) false w args)
      (Rows.bookStudentsSpec.post enc Tryz.prog Tryz.f7 false true false false) := by
  refine returnsInHanded_of_change_and (C := Tryz.checked) (X := fun w _ => laidMetH Tryz.prog laid3 w) (fun _ _ _ hh h => h.of_heap hh) own started (by kernel_rfl) Tryz.func7
    (ChangeSpec.witness_shaped (enc := enc) (C := Tryz.checked) (os := os) (X := fun w _ => laidMetH Tryz.prog laid3 w) false (World.doorLaid Tryz.prog 4000 os) #[.slice none 0 0, .agg #[.int .i64 0, .string ⟨#[]⟩, .string ⟨#[]⟩, .int .i64 0, .int .i64 0, .int .i64 0, .int .i64 0, .string ⟨#[]⟩, .bool false], .agg #[.int .i64 0, .string ⟨#[]⟩, .string ⟨#[]⟩, .int .i64 0, .int .i64 0, .int .i64 0, .int .i64 0, .string ⟨#[]⟩, .bool false], .agg #[.int .i64 0, .int .i64 0, .int .i64 0, .int .i64 0]] 8 rfl (World.shaped_of_RefB (by kernel_rfl) (by kernel_rfl)) (by kernel_rfl) (by kernel_rfl) (by kernel_rfl) (door_met os _)) ?_
  intro W base args ds gs before hval0 hW _ _ hL _
  have hval : ∀ (j : Nat) t v, Tryz.f7.params[j]? = some t → args[j]? = some v → Value.okWide Tryz.prog W .any base t v := hval0
  have hW' := hW
  obtain ⟨p, q, hA0, hV, rfl, hfz, hnd⟩ := hW
  have hA : DataW.TrodAll enc Tryz.prog W 0 (fun _ => true) true Tryz.f7.params.toList args.toList ds p := hA0
  rw [Tryz.params7] at hA hval
  obtain ⟨v0, v1, v2, v3, d0, d1, d2, d3, p0, p1, p2, p3, rfl, rfl, rfl, h0, h1, h2, h3⟩ := trodAll_four hA
  obtain ⟨rfl, rfl⟩ := trodVars_none hV
  obtain ⟨a, len, cap, rfl⟩ := okWide_slice Tryz.underlying22 (hval 0 22 v0 rfl rfl)
  obtain ⟨cs1, rfl, _⟩ := okWide_struct Tryz.underlying26 (hval 1 26 v1 rfl rfl)
  obtain ⟨cs2, rfl, _⟩ := okWide_struct Tryz.underlying26 (hval 2 26 v2 rfl rfl)
  obtain ⟨cs3, rfl, _⟩ := okWide_struct Tryz.underlying52 (hval 3 52 v3 rfl rfl)
  obtain ⟨f0, t0⟩ := id h0
  obtain ⟨f1, t1⟩ := id h1
  obtain ⟨f2, t2⟩ := id h2
  obtain ⟨f3, t3⟩ := id h3
  obtain ⟨w0, l, e0, hl, hd0⟩ := trod_Evs t0
  obtain ⟨x, e1⟩ := trod_Ev t1
  obtain ⟨y, e2⟩ := trod_Ev t2
  obtain ⟨r, e3⟩ := trod_AR t3
  have ew : w0 = .slice a len cap := by
    simp only [Value.cells] at e0
    exact (List.cons.inj e0).1.symm
  subst ew
  have ex1 : cs1 = ⟨evV x⟩ := by
    obtain ⟨cl⟩ := cs1
    exact congrArg Array.mk e1
  have ex2 : cs2 = ⟨evV y⟩ := by
    obtain ⟨cl⟩ := cs2
    exact congrArg Array.mk e2
  have ex3 : cs3 = ⟨arV r⟩ := by
    obtain ⟨cl⟩ := cs3
    exact congrArg Array.mk e3
  subst ex1 ex2 ex3
  clear hA0 hval0 hA
  simp only [List.append_nil, List.append_assoc] at hW'
  have hden : DenL (impI W) none [evsA l, .agg (evA x), .agg (evA y), .agg (arA r)] [.slice a len cap, .agg ⟨evV x⟩, .agg ⟨evV y⟩, .agg ⟨arV r⟩] := ⟨_, _, rfl, hd0, _, _, rfl, ⟨_, rfl, evV_den _ x⟩, _, _, rfl, ⟨_, rfl, evV_den _ y⟩, _, _, rfl, ⟨_, rfl, arV_den _ r⟩, rfl⟩
  have hlt : ∀ y ∈ p0 ++ (p1 ++ (p2 ++ p3)), y.block < W.heap.size := fun y hy => hW'.lt y hy
  have m0 : ∀ y ∈ p0, y ∈ p0 ++ (p1 ++ (p2 ++ p3)) := fun y hy => List.mem_append.2 (.inl hy)
  have m1 : ∀ y ∈ p1, y ∈ p0 ++ (p1 ++ (p2 ++ p3)) := fun y hy => List.mem_append.2 (.inr (List.mem_append.2 (.inl hy)))
  have m2 : ∀ y ∈ p2, y ∈ p0 ++ (p1 ++ (p2 ++ p3)) := fun y hy => List.mem_append.2 (.inr (List.mem_append.2 (.inr (List.mem_append.2 (.inl hy)))))
  have m3 : ∀ y ∈ p3, y ∈ p0 ++ (p1 ++ (p2 ++ p3)) := fun y hy => List.mem_append.2 (.inr (List.mem_append.2 (.inr (List.mem_append.2 (.inr hy)))))
  refine (((students_spec l x y r (maxLen_le hl)).2 (impI W) W _ hden (fun _ _ _ h => impI_cell h) (fun _ _ _ h => impI_one h) (of_laid3 hL))).mono ?_
  rintro e W' ⟨v, I', rfl, hv, _, _, _, _, k1, k2, k3, k4, k5⟩
  obtain rfl : v = .bool true := hv
  have hb : Below W.heap.size W W' := ⟨k1, k2, k3, k4, k5⟩
  refine ⟨_, rfl, post_of_below (pa := p0 ++ (p1 ++ (p2 ++ p3))) (pv := []) hW' (fun _ _ _ => trodAll_mk1 (shut_bool Tryz.underlying4 true)) (fun sp hsp => ?_) (fun _ _ => rfl) (by simp) hb (ok_one (by kernel_rfl) rfl (okWide_bool_mk Tryz.underlying4 _))⟩
  exact trodAll_mk4 (WideElems.Trod_stays laidOut (by kernel_rfl) (of_decide_eq_true (by kernel_rfl)) h0 (fun y hy => hb.same (hlt y (m0 y hy))) (fun y hy => hsp y (m0 y hy)))
    (WideElems.Trod_stays laidOut (by kernel_rfl) (of_decide_eq_true (by kernel_rfl)) h1 (fun y hy => hb.same (hlt y (m1 y hy))) (fun y hy => hsp y (m1 y hy)))
    (WideElems.Trod_stays laidOut (by kernel_rfl) (of_decide_eq_true (by kernel_rfl)) h2 (fun y hy => hb.same (hlt y (m2 y hy))) (fun y hy => hsp y (m2 y hy)))
    (WideElems.Trod_stays laidOut (by kernel_rfl) (of_decide_eq_true (by kernel_rfl)) h3 (fun y hy => hb.same (hlt y (m3 y hy))) (fun y hy => hsp y (m3 y hy)))
theorem bookStudents_said : Rows.BookStudentsSaid :=
  OpenClaim.holds_of_wide 7 Tryz.f7 rfl rfl rfl rfl rfl rfl rfl ⟨rfl, rfl, rfl, rfl, rfl⟩ rfl rfl rfl rfl rfl (by kernel_rfl) Tryz.func7 (by kernel_rfl)
    (of_decide_eq_true (by kernel_rfl)) (by unfold Func.isWrapper; first | (rw [if_pos (by decide +kernel)]; kernel_rfl) | (rw [if_neg (by decide +kernel)]; exact ⟨rfl, rfl⟩))
    (fun os started H enc _ => students_lifted os started H enc)
end Go.Proofs.YtgnhmklpekgndaaGreatDoor
end
/- part BkStudentsTied -/
section
namespace Go.Proofs.YtgnhmklpekgndaaGreatDoor
open Go
theorem bookStudents_holds : Rows.BookStudentsCardSaid :=
  Claim7.holds_tied_plain_at .later [] [.data, .data, .data] true (true, "da49b9daeadc30a33a1c0b500c0d0f177df8980835f03ddf59129a9bda471115") true
    bookStudents_said (fun _ h => by cases h) (by kernel_rfl) (fun _ h => by cases h) bookStudents_row_tie rfl ⟨rfl, rfl⟩ (by kernel_rfl) rfl
    (fun f fn hf hfn => by
      obtain rfl : f = 7 := Option.some.inj ((show Tryz.prog.funcNamed "assessor/assessorlaw55.BookStudents" = some 7 by kernel_rfl).symm.trans hf) |>.symm
      obtain rfl : fn = Tryz.f7 := (Option.some.inj (Tryz.func7.symm.trans hfn)).symm
      exact ⟨by kernel_rfl, fun j t ht => by
        rw [Tryz.params7] at ht
        have hm : t ∈ [22, 26, 52] := by simpa using Array.mem_of_getElem? ht
        have hall : ([22, 26, 52].all fun u => !Tryz.prog.wantsStandIn u) = true := by kernel_rfl
        exact (show Tryz.prog.wantsStandIn t = false by simpa using List.all_eq_true.1 hall t hm)⟩)
    (by kernel_rfl)
#print axioms bookStudents_holds
end Go.Proofs.YtgnhmklpekgndaaGreatDoor
end
