/-
  HELPING TEXT, shared by the claims on the book. Own work (AI agent).
-/
import Derived.Test.YtgnhmklpekgndaaGreatDoorStuC
set_option linter.all false
/- part AvCallR -/
section
namespace Go.Av
section
variable {P : Program} {C : Ctx P} {s : St}
def hdR : List (Nat × Rt) → List Nat
  | [] => []
  | (k, _) :: l => k :: hdR l
def inOK (ρ : Nat → Nat) (rts : List (Nat × Rt)) : List (Nat × Rt) → Prop
  | [] => True
  | (k, r) :: l => lookR rts (ρ k) = some (mapR ρ r) ∧ inOK ρ rts l
def mapN (ρ : Nat → Nat) : List Nat → List Nat
  | [] => []
  | k :: l => ρ k :: mapN ρ l
def eraseN : List Nat → List (Nat × Rt) → List (Nat × Rt)
  | [], l => l
  | q :: r, l => eraseN r (eraseR q l)
def mapRts (ρ : Nat → Nat) : List (Nat × Rt) → List (Nat × Rt)
  | [] => []
  | (k, r) :: l => (ρ k, mapR ρ r) :: mapRts ρ l
def allB (p : Nat → Bool) : List Nat → Bool
  | [] => true
  | x :: r => p x && allB p r
def subRts (ns : List Nat) : List (Nat × Rt) → Bool
  | [] => true
  | (_, r) :: l => subR ns r && subRts ns l
def chkR (ρ : Nat → Nat) (s : St) (rin rout : List (Nat × Rt)) (res : AV) (ns : List Nat) : Bool :=
  allB (fun k => elemN k ns) (hdR rin) && (allB (fun k => elemN k ns) (hdR rout) && (allB (fun x => allB (fun y => !Nat.beq (ρ x) (ρ y) || Nat.beq x y) ns) ns &&
    (allB (fun k => (Nat.ble PB k && elemN k (hdR rin)) || (Nat.blt (ρ k) PB && (freshE (ρ k) s.env && freshR (ρ k) (eraseN (mapN ρ (hdR rin)) s.rts)))) ns && (subA ns res && subRts ns rout))))
theorem allB_spec {p : Nat → Bool} : ∀ {l : List Nat}, allB p l = true → ∀ x ∈ l, p x = true
  | [], _, _, h => by simp at h
  | y :: l, h, x, hx => by
    simp only [allB, Bool.and_eq_true] at h
    rcases List.mem_cons.1 hx with rfl | hx
    · exact h.1
    · exact allB_spec h.2 x hx
theorem hdR_look : ∀ {l : List (Nat × Rt)} {k : Nat} {r : Rt}, lookR l k = some r → k ∈ hdR l
  | [], _, _, h => by simp [lookR] at h
  | (j, x) :: l, k, r, h => by
    rw [lookR_cons] at h
    split at h
    · rename_i e; subst e; exact List.mem_cons_self ..
    · exact List.mem_cons_of_mem _ (hdR_look h)
theorem inOK_look {ρ : Nat → Nat} {rts : List (Nat × Rt)} : ∀ {l : List (Nat × Rt)}, inOK ρ rts l → ∀ k r, lookR l k = some r → lookR rts (ρ k) = some (mapR ρ r)
  | [], _, _, _, h => by simp [lookR] at h
  | (j, x) :: l, hi, k, r, h => by
    rw [lookR_cons] at h
    split at h
    · rename_i e; subst e; cases h; exact hi.1
    · exact inOK_look hi.2 k r h
theorem lookR_eraseN : ∀ (ns : List Nat) (l : List (Nat × Rt)) (p : Nat), lookR (eraseN ns l) p = if p ∈ ns then none else lookR l p
  | [], _, _ => by simp [eraseN]
  | q :: r, l, p => by
    simp only [eraseN, lookR_eraseN r (eraseR q l) p, lookR_eraseR, List.mem_cons]
    by_cases h1 : p ∈ r
    · simp [h1]
    · by_cases h2 : q = p
      · subst h2; simp
      · have : ¬ p = q := fun e => h2 e.symm
        simp [h1, h2, this]
theorem mem_mapN {ρ : Nat → Nat} {x : Nat} : ∀ {l : List Nat}, x ∈ mapN ρ l ↔ ∃ k ∈ l, ρ k = x
  | [] => by simp [mapN]
  | y :: l => by
    simp only [mapN, List.mem_cons, mem_mapN (l := l)]
    constructor
    · rintro (rfl | ⟨k, hk, rfl⟩)
      · exact ⟨y, .inl rfl, rfl⟩
      · exact ⟨k, .inr hk, rfl⟩
    · rintro ⟨k, rfl | hk, rfl⟩
      · exact .inl rfl
      · exact .inr ⟨k, hk, rfl⟩
theorem mapRts_look {ρ : Nat → Nat} : ∀ {l : List (Nat × Rt)} {q : Nat} {r : Rt}, lookR (mapRts ρ l) q = some r → ∃ k r0, lookR l k = some r0 ∧ ρ k = q ∧ r = mapR ρ r0
  | [], _, _, h => by simp [mapRts, lookR] at h
  | (j, x) :: l, q, r, h => by
    simp only [mapRts, lookR_cons] at h
    split at h
    · rename_i e; cases h; exact ⟨j, x, by rw [lookR_cons, if_pos rfl], e, rfl⟩
    · rename_i e
      obtain ⟨k, r0, h1, h2, h3⟩ := mapRts_look h
      refine ⟨k, r0, ?_, h2, h3⟩
      rw [lookR_cons, if_neg, h1]
      rintro rfl
      exact e h2
theorem lookR_append (l1 l2 : List (Nat × Rt)) (q : Nat) : lookR (l1 ++ l2) q = match lookR l1 q with | some r => some r | none => lookR l2 q := by
  induction l1 with
  | nil => rfl
  | cons x l ih =>
    obtain ⟨k, v⟩ := x
    simp only [List.cons_append, lookR_cons]
    split
    · rfl
    · exact ih
theorem subRts_look {ns : List Nat} : ∀ {l : List (Nat × Rt)}, subRts ns l = true → ∀ k r, lookR l k = some r → subR ns r = true
  | [], _, _, _, h => by simp [lookR] at h
  | (j, x) :: l, hs, k, r, h => by
    simp only [subRts, Bool.and_eq_true] at hs
    rw [lookR_cons] at h
    split at h
    · cases h; exact hs.1
    · exact subRts_look hs.2 k r h
def invL (ρ : Nat → Nat) (x : Nat) : List Nat → Option Nat
  | [] => none
  | k :: r => bif Nat.beq (ρ k) x then some k else invL ρ x r
theorem invL_some {ρ : Nat → Nat} {x k : Nat} : ∀ {ns : List Nat}, invL ρ x ns = some k → k ∈ ns ∧ ρ k = x
  | [], h => by simp [invL] at h
  | y :: ns, h => by
    simp only [invL] at h
    by_cases hy : ρ y = x
    · rw [beq_iff.2 hy] at h
      simp only [cond_true, Option.some.injEq] at h
      subst h
      exact ⟨List.mem_cons_self .., hy⟩
    · rw [beq_ne hy] at h
      obtain ⟨h1, h2⟩ := invL_some h
      exact ⟨List.mem_cons_of_mem _ h1, h2⟩
theorem invL_none {ρ : Nat → Nat} {x : Nat} : ∀ {ns : List Nat}, invL ρ x ns = none → ∀ k ∈ ns, ρ k ≠ x
  | [], _, _, hk => by simp at hk
  | y :: ns, h, k, hk => by
    simp only [invL] at h
    by_cases hy : ρ y = x
    · rw [beq_iff.2 hy] at h; cases h
    · rw [beq_ne hy] at h
      rcases List.mem_cons.1 hk with rfl | hk
      · exact hy
      · exact invL_none h k hk
theorem invL_inj {ρ : Nat → Nat} {ns : List Nat} (hinj : ∀ x ∈ ns, ∀ y ∈ ns, ρ x = ρ y → x = y) {k : Nat} (hk : k ∈ ns) : invL ρ (ρ k) ns = some k := by
  cases h : invL ρ (ρ k) ns with
  | none => exact absurd rfl (invL_none h k hk)
  | some j =>
    obtain ⟨h1, h2⟩ := invL_some h
    rw [hinj j h1 k hk h2]
def owIn (ρ : Nat → Nat) (ns : List Nat) (p : List Nat) : List Nat := match p with
  | [] => []
  | x :: r => match invL ρ x ns with
    | some k => k :: r
    | none => []
def owOut (ρ : Nat → Nat) (ns : List Nat) (p : List Nat) : List Nat := match p with
  | [] => []
  | k :: r => (bif elemN k ns then ρ k else k) :: r
theorem wp_callR {a : Act} {w : World} (hs : Sat C s a w) {o : Oper} (hd : ∀ d, o.dst = some d → d < C.nt) {d : Option Nat} {fx : X} {xs : List X} (hcop : cop P o = .callT d fx xs)
    {f : Nat} {caps args : List AV} {rin rout : List (Nat × Rt)} {res : AV} (ρ : Nat → Nat) (ns : List Nat) (hf : xv s fx = .fn f caps) (hargs : xvs s xs ++ caps = mapL ρ args) (hrin : inOK ρ s.rts rin) (hc : chkR ρ s rin rout res ns = true) (hspec : SpecR P f args rin res rout)
    {K : Act → World → Prop} {Q : Exit → Act → World → Prop} (hK : ∀ a' w', Sat C (putO ⟨s.env, mapRts ρ rout ++ eraseN (mapN ρ (hdR rin)) s.rts⟩ d (mapA ρ res)) a' w' → K a' w') : o.wp P a w K Q := by
  obtain ⟨I, g, ow, h⟩ := hs
  obtain ⟨ff, as, ts, hop, rfl, rfl, hdd⟩ : ∃ ff as ts, o.op = .call { callee := .value ff, args := as, argTypes := ts } ∧ fx = xop ff ∧ xs = xops as.toList ∧ o.dst = d := by
    obtain ⟨ff, as, ts, q1, q2, q3, q4⟩ := cop1_callT hcop
    exact ⟨ff, as, ts, q1, q2, q3, q4⟩
  have e1 := xop_den h ff
  rw [hf] at e1
  obtain ⟨cv, e1, d1⟩ := e1
  have d2 := xops_den h as.toList
  have hden : DenL I (some fun q => g (ρ q)) args (as.toList.map a.eval ++ cv) := (mapL_den _ _).1 (hargs ▸ d2.append d1)
  have hrun : (execOp a.eval o).run P w = .ok (.enter f ⟨as.toList.map a.eval ++ cv⟩) w := by
    have harr : as.map a.eval ++ (⟨cv⟩ : Array Value) = ⟨as.toList.map a.eval ++ cv⟩ := by apply Array.ext'; simp
    simp [execOp, hop, resolve, e1, Deferred.ofValue, invoke, harr, hspec.1]
  simp only [chkR, Bool.and_eq_true] at hc
  obtain ⟨c1, c2, c3, c4, c5, c6⟩ := hc
  have c1 : ∀ k ∈ hdR rin, k ∈ ns := fun k hk => elemN_iff.1 (allB_spec c1 k hk)
  have c2 : ∀ k ∈ hdR rout, k ∈ ns := fun k hk => elemN_iff.1 (allB_spec c2 k hk)
  have hinj : ∀ x ∈ ns, ∀ y ∈ ns, ρ x = ρ y → x = y := by
    intro x hx y hy hxy
    have := allB_spec (allB_spec c3 x hx) y hy
    rw [beq_iff.2 hxy] at this
    exact beq_iff.1 (by simpa using this)
  have c4 : ∀ k ∈ ns, (PB ≤ k ∧ k ∈ hdR rin) ∨ (ρ k < PB ∧ freshE (ρ k) s.env = true ∧ freshR (ρ k) (eraseN (mapN ρ (hdR rin)) s.rts) = true) := by
    intro k hk
    have := allB_spec c4 k hk
    simp only [Bool.or_eq_true, Bool.and_eq_true, Nat.ble_eq, Nat.blt_eq] at this
    exact this.imp (fun h => ⟨h.1, elemN_iff.1 h.2⟩) id
  have hinjr : ∀ x ∈ hdR rin, ∀ y ∈ hdR rin, ρ x = ρ y → x = y := fun x hx y hy => hinj x (c1 x hx) y (c1 y hy)
  obtain ⟨owc, howc⟩ : ∃ o' : Nat → List Nat, o' = fun b => owIn ρ (hdR rin) (ow b) := ⟨_, rfl⟩
  have owc_ne : ∀ b, owc b ≠ [] → ow b ≠ [] := by
    intro b hb he
    rw [howc] at hb
    simp [owIn, he] at hb
  have owc_in : ∀ k ∈ hdR rin, ∀ b p, ow b = ρ k :: p → owc b = k :: p := by
    intro k hk b p hb
    rw [howc]
    simp only [owIn, hb, invL_inj hinjr hk]
  have owc_out : ∀ q, q ∉ mapN ρ (hdR rin) → ∀ b p, ow b = q :: p → owc b = [] := by
    intro q hq b p hb
    rw [howc]
    simp only [owIn, hb]
    cases hi : invL ρ q (hdR rin) with
    | none => rfl
    | some k =>
      obtain ⟨h1, h2⟩ := invL_some hi
      exact absurd (mem_mapN.2 ⟨k, h1, h2⟩) hq
  unfold Oper.wp
  rw [hrun]
  simp only [Oper.upon]
  refine (hspec.2 I (fun q => g (ρ q)) owc w _ hden (fun k r hk => mapR_in (h.rts (ρ k) _ (inOK_look hrin k r hk)) (owc_in k (hdR_look hk))) h.imm h.one (fun b hb => h.sep b (owc_ne b hb)) (fun b hb => h.lt b (owc_ne b hb)) (C.tab.mono h.ile)).mono ?_
  rintro e w' ⟨v, I', g', ow', rfl, hv, hro, k1, k2, k3, k4, k5, k6, k7, k8, k9, k10, k11, k12, k13⟩
  refine hK _ _ ?_
  obtain ⟨gn, hgn⟩ : ∃ gn : Nat → Value, gn = fun q => match invL ρ q ns with | some k => g' k | none => g q := ⟨_, rfl⟩
  have gn_in : ∀ k ∈ ns, gn (ρ k) = g' k := fun k hk => by rw [hgn]; simp only [invL_inj hinj hk]
  have gn_out : ∀ q, (∀ k ∈ ns, ρ k = q → PB ≤ k) → gn q = g q := by
    intro q hq
    rw [hgn]
    simp only
    cases hi : invL ρ q ns with
    | none => rfl
    | some k =>
      obtain ⟨h1, h2⟩ := invL_some hi
      have := k7 k (hq k h1 h2)
      simp only
      rw [this, h2]
  obtain ⟨own, hown⟩ : ∃ o' : Nat → List Nat, o' = fun b => match ow' b with | [] => (match owc b with | [] => ow b | _ => []) | p => owOut ρ ns p := ⟨_, rfl⟩
  have own_new : ∀ b k p, k ∈ ns → ow' b = k :: p → own b = ρ k :: p := by
    intro b k p hk hb
    rw [hown]
    simp only [hb, owOut, elemN_iff.2 hk, cond_true]
  have own_cases : ∀ b, own b ≠ [] → ow' b ≠ [] ∨ (ow' b = [] ∧ owc b = [] ∧ ow b ≠ []) := by
    intro b hb
    rw [hown] at hb
    simp only at hb
    cases h1 : ow' b with
    | cons => exact .inl (by simp)
    | nil =>
      rw [h1] at hb
      cases h2 : owc b with
      | cons => rw [h2] at hb; exact absurd rfl hb
      | nil => rw [h2] at hb; exact .inr ⟨rfl, rfl, hb⟩
  have own_keep : ∀ q, q ∉ mapN ρ (hdR rin) → ∀ b p, ow b = q :: p → own b = q :: p ∧ w'.heap[b]? = w.heap[b]? := by
    intro q hq b p hb
    have h1 := owc_out q hq b p hb
    have hlt := h.lt b (by rw [hb]; simp)
    have h2 : ow' b = [] := by
      cases h3 : ow' b with
      | nil => rfl
      | cons x y =>
        rcases k6 b (by rw [h3]; simp) with h4 | h4
        · omega
        · exact absurd h1 h4
    exact ⟨by rw [hown]; simp only [h2, h1, hb], k13 b hlt h1⟩
  have hsat : SatAt C ⟨s.env, mapRts ρ rout ++ eraseN (mapN ρ (hdR rin)) s.rts⟩ a w' I' gn own := by
    refine { defers := h.defers, size := h.size, env := fun t => ?_, rts := fun q r hq => ?_, imm := k2, one := k3, sep := fun b hb o => ?_, new := fun b hb => ?_, lt := fun b hb => ?_, ile := h.ile.trans k1, iold := fun b o hb hx => ?_, os := k9.trans h.os, tape := k10.trans h.tape, output := k11.trans h.output, hsize := Nat.le_trans h.hsize k12, kept := fun b hb hx => ?_, pin := fun q hq => ?_, ntb := h.ntb }
    · refine Den.congr _ _ (fun q hq => gn_out q fun k hk hkq => ?_) (Den.mono k1 _ _ _ (h.env t))
      rcases c4 k hk with h1 | h1
      · exact h1.1
      · have := freshE_look h1.2.1 t
        rw [hkq] at this
        have hq : noref q (look s.env t) = false := hq
        rw [hq] at this
        cases this
    · have hq : lookR (mapRts ρ rout ++ eraseN (mapN ρ (hdR rin)) s.rts) q = some r := hq
      rw [lookR_append] at hq
      cases hm : lookR (mapRts ρ rout) q with
      | some r1 =>
        rw [hm] at hq
        cases hq
        obtain ⟨k, r0, e1, rfl, rfl⟩ := mapRts_look hm
        have hk := c2 k (hdR_look e1)
        refine mapR_out (hro k r0 e1) (gn_in k hk) (fun p hp => gn_in p (subR_spec (subRts_look c6 k r0 e1) hp)) (fun b p hb => own_new b k p hk hb)
      | none =>
        rw [hm] at hq
        simp only at hq
        have hq0 := hq
        rw [lookR_eraseN] at hq
        split at hq
        · cases hq
        · rename_i hqn
          have hr0 := h.rts q r hq
          have hgq : gn q = g q := gn_out q fun k hk hkq => by
            rcases c4 k hk with h1 | h1
            · exact h1.1
            · have := freshR_look h1.2.2 q r hq0
              exact absurd hkq.symm this.1
          have hfr : ∀ b p, ow b = q :: p → own b = q :: p ∧ w'.heap[b]? = w.heap[b]? := own_keep q hqn
          have hmen : ∀ p, norefR p r = false → gn p = g p := fun p hp => gn_out p fun k hk hkp => by
            rcases c4 k hk with h1 | h1
            · exact h1.1
            · have := (freshR_look h1.2.2 q r hq0).2
              rw [hkp, hp] at this
              cases this
          cases r with
          | blk ty cells =>
            obtain ⟨b, cur, j1, j2, j3, j4, j5⟩ := hr0
            exact ⟨b, cur, hgq.trans j1, (hfr b [] j2).1, by rw [(hfr b [] j2).2]; exact j3, j4, DenL.congr _ _ (fun p hp => hmen p hp) (DenL.mono k1 _ _ _ j5)⟩
          | row e sz n f =>
            rcases hr0 with ⟨a0, j1, j2⟩ | ⟨b, cap, cur, j1, j2, j3, j4, j5, j6, j7, j8⟩
            · exact .inl ⟨a0, hgq.trans j1, j2⟩
            · exact .inr ⟨b, cap, cur, hgq.trans j1, (hfr b [] j2).1, by rw [(hfr b [] j2).2]; exact j3, j4, j5, j6, j7, fun i hi => DenL.mono k1 _ _ _ (j8 i hi)⟩
          | rowO e sz n f i fs =>
            refine RtOK.rowO_frame hr0 k1 hgq (fun k => ⟨id, fun p hp => ⟨p, hp, hmen p ?_⟩⟩) hfr
            cases hn : norefR p (.rowO e sz n f i fs) with
            | false => rfl
            | true => exact absurd rfl (norefF_look hn k p hp)
    · rcases own_cases b hb with h1 | ⟨h1, h2, h3⟩
      · exact k4 b h1 o
      · rw [k8 b o (h.lt b h3) h2]; exact h.sep b h3 o
    · rcases own_cases b hb with h1 | ⟨h1, h2, h3⟩
      · rcases k6 b h1 with h4 | h4
        · exact .inl (Nat.le_trans h.hsize h4)
        · exact h.new b (owc_ne b h4)
      · exact h.new b h3
    · rcases own_cases b hb with h1 | ⟨h1, h2, h3⟩
      · exact k5 b h1
      · exact Nat.lt_of_lt_of_le (h.lt b h3) k12
    · have h1 : owc b = [] := by
        cases h2 : owc b with
        | nil => rfl
        | cons x y =>
          rcases h.new b (owc_ne b (by rw [h2]; simp)) with h3 | h3
          · omega
          · exact absurd h3 hx
      rw [k8 b o (Nat.lt_of_lt_of_le hb h.hsize) h1]
      exact h.iold b o hb hx
    · have h1 : owc b = [] := by
        cases h2 : owc b with
        | nil => rfl
        | cons x y =>
          rcases h.new b (owc_ne b (by rw [h2]; simp)) with h3 | h3
          · omega
          · exact absurd h3 hx
      rw [k13 b (Nat.lt_of_lt_of_le hb h.hsize) h1]
      exact h.kept b hb hx
    · rw [gn_out q fun k hk hkq => by
        rcases c4 k hk with h1 | h1
        · exact h1.1
        · omega]
      exact h.pin q hq
  have hres : Den I' (some gn) (mapA ρ res) v := (mapA_den _ _).2 (Den.congr _ _ (fun p hp => gn_in p (subA_spec res c5 hp)) hv)
  subst hdd
  cases hdst : o.dst with
  | none => exact ⟨I', gn, own, hsat⟩
  | some d => exact ⟨I', gn, own, hsat.put (hd d hdst) hres⟩
theorem run_callR {Q : St → Prop} {d : Option Nat} {fx : X} {xs : List X} {af : List Nat} {sos : List SO} {f : Nat} {caps args : List AV} {rin rout : List (Nat × Rt)} {res : AV} (ρ : Nat → Nat) (ns : List Nat)
    (hf : xv s fx = .fn f caps) (hargs : xvs s xs ++ caps = mapL ρ args) (hrin : inOK ρ s.rts rin) (hc : chkR ρ s rin rout res ns = true) (hspec : SpecR P f args rin res rout)
    (k : Run P C sos Q (putO ⟨s.env, mapRts ρ rout ++ eraseN (mapN ρ (hdR rin)) s.rts⟩ d (mapA ρ res))) : Run P C (⟨.callT d fx xs, none, af⟩ :: sos) Q s := by
  intro dr ops os hm hd a w hs K hK
  cases os with
  | nil => simp at hm
  | cons o' os =>
    simp only [List.map_cons, List.cons.injEq] at hm
    obtain ⟨h1, h2⟩ := hm
    have hgd : o'.guard = none := by
      cases hg : o'.guard with
      | none => rfl
      | some jw => obtain ⟨j, w'⟩ := jw; have := congrArg SO.g h1; simp only [cso, hg] at this; split at this <;> cases this
    have hco : cop P o' = .callT d fx xs := by
      have := congrArg SO.op h1
      simpa only [cso, hgd] using this
    unfold wpList
    rw [if_pos (by simp [Region.wanted, hgd])]
    exact .inl (wp_callR hs (hd o' (List.mem_cons_self ..)) hco ρ ns hf hargs hrin hc hspec fun a' w' hs' => k dr ops os h2 (fun o ho => hd o (List.mem_cons_of_mem _ ho)) a' w' hs' K hK)
/-- a call with roots in a region that draws its order: all else is before it or behind it -/
theorem tr_callR {s1 e : St} {d : Option Nat} {fx : X} {xs : List X} {af : List Nat} {sos : List SO} {tr : List (Rec × St)} {f : Nat} {caps args : List AV} {rin rout : List (Nat × Rt)} {res : AV} (ρ : Nat → Nat) (ns : List Nat) (hent : Ent C s s1)
    (hf : xv s1 fx = .fn f caps) (hargs : xvs s1 xs ++ caps = mapL ρ args) (hrin : inOK ρ s1.rts rin) (hc : chkR ρ s1 rin rout res ns = true) (hspec : SpecR P f args rin res rout)
    (k : Tr P C (putO ⟨s1.env, mapRts ρ rout ++ eraseN (mapN ρ (hdR rin)) s1.rts⟩ d (mapA ρ res)) sos tr e) : Tr P C s (⟨.callT d fx xs, none, af⟩ :: sos) (({ rd := [], rn := [], d := d, wn := [], nn := [], bar := true }, putO ⟨s1.env, mapRts ρ rout ++ eraseN (mapN ρ (hdR rin)) s1.rts⟩ d (mapA ρ res)) :: tr) e := by
  refine .cons ?_ ⟨fun h => by (cases h), fun _ => ⟨fun _ => rfl, fun _ => rfl⟩⟩ k
  intro dr ops o hso hd s2 _ _ hb a w hs K Q hK
  obtain ⟨b1, b2⟩ := hb rfl
  have hs0 : Sat C s a w := sat_ext hs (fun t => (b1 t).symm) fun q => (b2 q).symm
  have hgd : o.guard = none := by
    cases hg : o.guard with
    | none => rfl
    | some jw => obtain ⟨j, w'⟩ := jw; have := congrArg SO.g hso; simp only [cso, hg] at this; split at this <;> cases this
  have hco : cop P o = .callT d fx xs := by
    have := congrArg SO.op hso
    simpa only [cso, hgd] using this
  rw [if_pos (by simp [Region.wanted, hgd])]
  exact .inl (wp_callR (hent a w hs0) hd hco ρ ns hf hargs hrin hc hspec fun a' w' hs' => hK a' w' _ ⟨fun h => by (cases h), fun _ => ⟨fun _ => rfl, fun _ => rfl⟩⟩ hs')
/-- the state is told anew between two operations of a drawn region -/
theorem Tr.weaken {s e : St} {sos : List SO} {tr : List (Rec × St)} (h : Tr P C s sos tr e) : Tr P C s sos tr e := h
end
end Go.Av
end
/- part AvTrg -/
section
namespace Go.Av
section
variable {P : Program} {C : Ctx P} {s : St} {env : List (Nat × AV)} {rts : List (Nat × Rt)}
def TrG (P : Program) (C : Ctx P) (s : St) (sos : List SO) (K : List (Rec × St) → St → Prop) : Prop := ∃ tr e, Tr P C s sos tr e ∧ K tr e
theorem trg_nil {K : List (Rec × St) → St → Prop} (k : K [] s) : TrG P C s [] K := ⟨[], s, .nil, k⟩
theorem trg_step {s' : St} {o : SO} {sos : List SO} {ob : List Prop} {K : List (Rec × St) → St → Prop} (he : step s o = .ok s' ob) (hob : allP ob) (k : TrG P C s' sos fun tr e => K ((recOf s o, s') :: tr) e) : TrG P C s (o :: sos) K := by
  obtain ⟨tr, e, h1, h2⟩ := k
  exact ⟨_, e, tr_step he hob h1, h2⟩
theorem wpS_D {sos : List SO} {Q : Exit → St → Prop} (hm : P.follows .mixedOrders = true) (h : TrG P C s sos fun tr e => chk s (sos.map (·.af)) tr = true ∧ Q .normal e) : wpS P C (.reg sos true) Q s := by
  obtain ⟨tr, e, h1, h2, h3⟩ := h
  exact wpS_regD hm h1 h2 h3
section
variable {fx : X} {xs : List X} {af : List Nat} {sos : List SO} {f : Nat} {caps args : List AV} {res : AV} {Q : St → Prop}
theorem run_c {d : Nat} (hspec : Spec0 P f args res) (hf : und (xv ⟨env, rts⟩ fx) = .fn f caps) (hgo : allP (gdo (xv ⟨env, rts⟩ fx) ++ gds ⟨env, rts⟩ xs)) (hargs : thaw.go rts (xus ⟨env, rts⟩ xs) ++ thaw.go rts caps = args) (hp : isPureL args = true)
    (hpl : plain res = true ∨ (xus ⟨env, rts⟩ xs ++ caps = args)) (k : Run P C sos Q ⟨(d, res) :: env, rts⟩) : Run P C (⟨.callT (some d) fx xs, none, af⟩ :: sos) Q ⟨env, rts⟩ :=
  run_call (G := true) rfl hf (fun _ => hgo) hargs hp hpl (fun _ => hspec) k
theorem run_c0 (hspec : Spec0 P f args res) (hf : und (xv ⟨env, rts⟩ fx) = .fn f caps) (hgo : allP (gdo (xv ⟨env, rts⟩ fx) ++ gds ⟨env, rts⟩ xs)) (hargs : thaw.go rts (xus ⟨env, rts⟩ xs) ++ thaw.go rts caps = args) (hp : isPureL args = true)
    (hpl : plain res = true ∨ (xus ⟨env, rts⟩ xs ++ caps = args)) (k : Run P C sos Q ⟨env, rts⟩) : Run P C (⟨.callT none fx xs, none, af⟩ :: sos) Q ⟨env, rts⟩ :=
  run_call (G := true) rfl hf (fun _ => hgo) hargs hp hpl (fun _ => hspec) k
theorem run_cg {d : Nat} {jw : Nat × Bool} {G : Bool} (hG : gval ⟨env, rts⟩ (some jw) = some G) (hspec : G = true → Spec0 P f args res) (hf : und (xv ⟨env, rts⟩ fx) = .fn f caps) (hgo : G = true → allP (gdo (xv ⟨env, rts⟩ fx) ++ gds ⟨env, rts⟩ xs)) (hargs : thaw.go rts (xus ⟨env, rts⟩ xs) ++ thaw.go rts caps = args) (hp : isPureL args = true)
    (hpl : plain res = true ∨ (xus ⟨env, rts⟩ xs ++ caps = args)) (k : Run P C sos Q ⟨(d, .cnd G res) :: env, rts⟩) : Run P C (⟨.callT (some d) fx xs, some jw, af⟩ :: sos) Q ⟨env, rts⟩ :=
  run_call hG hf hgo hargs hp hpl hspec k
variable {K : List (Rec × St) → St → Prop}
theorem trg_c {d : Nat} (hspec : Spec0 P f args res) (hf : und (xv ⟨env, rts⟩ fx) = .fn f caps) (hgo : allP (gdo (xv ⟨env, rts⟩ fx) ++ gds ⟨env, rts⟩ xs)) (hargs : thaw.go rts (xus ⟨env, rts⟩ xs) ++ thaw.go rts caps = args) (hp : isPureL args = true)
    (hpl : plain res = true ∨ (xus ⟨env, rts⟩ xs ++ caps = args)) (k : TrG P C ⟨(d, res) :: env, rts⟩ sos fun tr e => K ((recC ⟨env, rts⟩ (some d) fx xs none, ⟨(d, res) :: env, rts⟩) :: tr) e) : TrG P C ⟨env, rts⟩ (⟨.callT (some d) fx xs, none, af⟩ :: sos) K := by
  obtain ⟨tr, e, h1, h2⟩ := k
  exact ⟨_, e, tr_call (G := true) rfl hf (fun _ => hgo) hargs hp hpl (fun _ => hspec) h1, h2⟩
theorem trg_cg {d : Nat} {jw : Nat × Bool} {G : Bool} (hG : gval ⟨env, rts⟩ (some jw) = some G) (hspec : G = true → Spec0 P f args res) (hf : und (xv ⟨env, rts⟩ fx) = .fn f caps) (hgo : G = true → allP (gdo (xv ⟨env, rts⟩ fx) ++ gds ⟨env, rts⟩ xs)) (hargs : thaw.go rts (xus ⟨env, rts⟩ xs) ++ thaw.go rts caps = args) (hp : isPureL args = true)
    (hpl : plain res = true ∨ (xus ⟨env, rts⟩ xs ++ caps = args)) (k : TrG P C ⟨(d, .cnd G res) :: env, rts⟩ sos fun tr e => K ((recC ⟨env, rts⟩ (some d) fx xs (some jw), ⟨(d, .cnd G res) :: env, rts⟩) :: tr) e) : TrG P C ⟨env, rts⟩ (⟨.callT (some d) fx xs, some jw, af⟩ :: sos) K := by
  obtain ⟨tr, e, h1, h2⟩ := k
  exact ⟨_, e, tr_call hG hf hgo hargs hp hpl hspec h1, h2⟩
end
section
variable {fx : X} {xs : List X} {af : List Nat} {sos : List SO} {f : Nat} {caps args : List AV} {rin rout : List (Nat × Rt)} {res : AV} {Q : St → Prop}
theorem run_cR {d : Nat} (ρ : Nat → Nat) (ns : List Nat) (hspec : SpecR P f args rin res rout) (hf : xv ⟨env, rts⟩ fx = .fn f caps) (hargs : xvs ⟨env, rts⟩ xs ++ caps = mapL ρ args) (hrin : inOK ρ rts rin) (hc : chkR ρ ⟨env, rts⟩ rin rout res ns = true)
    (k : Run P C sos Q ⟨(d, mapA ρ res) :: env, mapRts ρ rout ++ eraseN (mapN ρ (hdR rin)) rts⟩) : Run P C (⟨.callT (some d) fx xs, none, af⟩ :: sos) Q ⟨env, rts⟩ :=
  run_callR ρ ns hf hargs hrin hc hspec k
theorem run_cR0 (ρ : Nat → Nat) (ns : List Nat) (hspec : SpecR P f args rin res rout) (hf : xv ⟨env, rts⟩ fx = .fn f caps) (hargs : xvs ⟨env, rts⟩ xs ++ caps = mapL ρ args) (hrin : inOK ρ rts rin) (hc : chkR ρ ⟨env, rts⟩ rin rout res ns = true)
    (k : Run P C sos Q ⟨env, mapRts ρ rout ++ eraseN (mapN ρ (hdR rin)) rts⟩) : Run P C (⟨.callT none fx xs, none, af⟩ :: sos) Q ⟨env, rts⟩ :=
  run_callR ρ ns hf hargs hrin hc hspec k
end
end
end Go.Av
end
/- part AvNil -/
section
namespace Go.Av
section
variable {P : Program} {C : Ctx P} {s : St} {env : List (Nat × AV)} {rts : List (Nat × Rt)}
theorem eqn_bif {c : Bool} {x : SOp} {d : Nat} {ng : Bool} {k : NK} {p q : X} (h : (bif c then x else SOp.bad) = .eqn d ng k p q) : x = .eqn d ng k p q := by
  cases c
  · cases h
  · exact h
theorem cop1_eqnS {op : Op} {dst : Option Nat} {d : Nat} {neg : Bool} {x y : X} (h : cop1 P op dst = .eqn d neg .s x y) :
    ∃ o t ox oy yt e, op = .binOp o t ox oy yt ∧ (o = .eql ∨ o = .neq) ∧ neg = isNeq o ∧ x = xop ox ∧ y = xop oy ∧ P.underlying t = some (.slice e) ∧ dst = some d := by
  cases op
  case binOp o t ox oy yt =>
    cases dst with
    | none => cases h
    | some d' =>
      by_cases hq : o = .eql ∨ o = .neq
      · have hcop : cop1 P (.binOp o t ox oy yt) (some d') = (match P.underlying t with
        | some (.int _) | some .string => .bin d' o (xop ox) (xop oy)
        | some .bool => .eqb d' (isNeq o) (xop ox) (xop oy)
        | some (.struct _) => (match flat P 10 t with | some ks => bif Nat.beq ks.length (sizeT P t) && !P.eqGuardType P.depth t then .eqa d' (isNeq o) ks (xop ox) (xop oy) else .bad | none => .bad)
        | some (.pointer e) => .eqn d' (isNeq o) (bif known P e && Nat.blt 0 (sizeT P e) then .q else .p) (xop ox) (xop oy)
        | some (.slice _) => .eqn d' (isNeq o) .s (xop ox) (xop oy)
        | some (.func ..) => .eqn d' (isNeq o) .f (xop ox) (xop oy)
        | _ => .bad) := by rcases hq with rfl | rfl <;> rfl
        rw [hcop] at h
        have nq : ∀ c : Bool, (bif c then NK.q else NK.p) ≠ NK.s := by intro c; cases c <;> (intro h; cases h)
        (repeat' split at h) <;> first | (cases h; done) | (have h' := eqn_bif h; cases h'; done) | (injection h with h1 h2 h3; exact absurd h3 (nq _)) | skip
        rename_i e ht
        cases h
        exact ⟨o, t, ox, oy, yt, e, rfl, hq, rfl, rfl, rfl, ht, rfl⟩
      · have : cop1 P (.binOp o t ox oy yt) (some d') = .bin d' o (xop ox) (xop oy) := by
          cases o <;> first | rfl | (exact absurd (.inl rfl) hq) | (exact absurd (.inr rfl) hq)
        rw [this] at h
        cases h
  case nilCheck x => cases h
  case indexAddr t x i =>
    cases dst with
    | none => rw [cop1_idx_none] at h; cases h
    | some d' => cases x <;> simp only [cop1] at h <;> (repeat' split at h) <;> first | (cases h; done) | (have h' := eqn_bif h; cases h'; done)
  case store => cases dst <;> first | (cases h; done) | (have := eqn_bif h; cases this)
  case call c =>
    obtain ⟨callee, ⟨args⟩, ⟨types⟩⟩ := c
    simp only [cop1, copCall] at h
    (repeat' split at h) <;> first | (cases h; done) | (have h' := eqn_bif h; cases h'; done)
  case unOp p t x => cases p <;> cases dst <;> cases h
  case makeFunc fn f c => cases fn <;> cases dst <;> first | (cases h; done) | (have h' := eqn_bif h; cases h'; done)
  case slice t x lo hi mx =>
    cases mx <;> cases dst <;> first | (cases h; done) | skip
    simp only [cop1] at h
    split at h
    · cases h
    · have h' := eqn_bif h; cases h'
    · cases h
  all_goals
    (cases dst <;> first | (cases h; done) | (simp only [cop1] at h; (repeat' split at h) <;> first | (cases h; done) | (have h' := eqn_bif h; cases h'; done)))
/-- is a slice nil? It may be where it has no elements -/
theorem run_eqnS {Q : St → Prop} {d : Nat} {neg : Bool} {x : X} {af : List Nat} {sos : List SO} {sz n : Nat} {f : Nat → List AV} (hx : xv ⟨env, rts⟩ x = .sl sz n f)
    (k : ∀ b : Bool, (b = true → n = 0) → Run P C sos Q ⟨(d, .bool (xorb neg b)) :: env, rts⟩) : Run P C (⟨.eqn d neg .s x (.c .nils), none, af⟩ :: sos) Q ⟨env, rts⟩ := by
  intro dr ops os hm hd a w hs K hK
  cases os with
  | nil => simp at hm
  | cons o' os =>
    simp only [List.map_cons, List.cons.injEq] at hm
    obtain ⟨h1, h2⟩ := hm
    have hgd : o'.guard = none := by
      cases hg : o'.guard with
      | none => rfl
      | some jw => obtain ⟨j, w'⟩ := jw; have := congrArg SO.g h1; simp only [cso, hg] at this; split at this <;> cases this
    have hco : cop P o' = .eqn d neg .s x (.c .nils) := by
      have := congrArg SO.op h1
      simpa only [cso, hgd] using this
    obtain ⟨o, t, ox, oy, yt, e, q1, q2, q3, q4, q5, q6, q7⟩ := cop1_eqnS hco
    obtain ⟨I, g, ow, h⟩ := hs
    have ex := xop_den h ox
    have ey := xop_den h oy
    rw [← q4, hx] at ex
    rw [← q5] at ey
    obtain ⟨ad, c, e1, hn, _, hr⟩ := ex
    have e2 : a.eval oy = .slice none 0 0 := ey
    have hex : (execOp a.eval o').run P w = .ok (.value (.bool (xorb neg ad.isNone))) w := by
      have hb : (binOp o t (a.eval ox) (a.eval oy)).run P w = .ok (.bool (xorb neg ad.isNone)) w := by
        have key : binOp o t (.slice ad n c) (.slice none 0 0) = (do let b ← Op.equal t (.slice ad n c) (.slice none 0 0); Pure.pure (.bool (match o with | .neq => !b | _ => b))) := by
          rcases q2 with rfl | rfl <;> rfl
        have he : ∀ D, (Op.equalIn (D + 1) t (.slice ad n c) (.slice none 0 0)).run P w = .ok ad.isNone w := by
          intro D
          cases ad <;> simp [Op.equalIn, underlying, q6]
        rw [e1, e2, q3, key]
        simp only [Sem.run_bind, Op.equal, Op.maxDepth, he 9999, Result.andThen_ok, Sem.run_pure]
        rcases q2 with rfl | rfl <;> simp [xorb, isNeq]
      have hgq : (eqGuard o t ox oy (a.eval ox) (a.eval oy)).run P w = .ok () w := by
        rw [e1, e2]
        rcases q2 with rfl | rfl <;> simp [eqGuard]
      simp [execOp, q1, hgq, hb]
    have hst : Stepped P ops o' a w fun a' w' => ∃ b : Bool, (b = true → n = 0) ∧ Sat C ⟨(d, .bool (xorb neg b)) :: env, rts⟩ a' w' := by
      unfold Stepped
      rw [if_pos (by simp [Region.wanted, hgd])]
      refine ⟨_, w, hex, .inl ⟨_, rfl, ad.isNone, fun hh => ?_, ?_⟩⟩
      · rcases hr with hr | ⟨b, o, hr, _⟩
        · exact hr
        · rw [hr] at hh; cases hh
      · rw [q7]
        exact ⟨I, g, ow, h.put (hd o' (List.mem_cons_self ..) d q7) rfl⟩
    exact hst.wp fun a' w' ⟨b, hb, hs'⟩ => k b hb dr ops os h2 (fun o ho => hd o (List.mem_cons_of_mem _ ho)) a' w' hs' K hK
end
end Go.Av
namespace Go.Av
section
variable {P : Program} {C : Ctx P} {s : St}
theorem wpS_condT {x : X} {c1 c2 : SCode} {Q : Exit → St → Prop} (hx : und (xv s x) = .bool true) (hg : allP (gdo (xv s x))) (ht : wpS P C c1 Q s) : wpS P C (.cond x c1 c2) Q s :=
  wpS_cond hx hg (fun _ => ht) (fun h => by cases h)
theorem wpS_condF {x : X} {c1 c2 : SCode} {Q : Exit → St → Prop} (hx : und (xv s x) = .bool false) (hg : allP (gdo (xv s x))) (ht : wpS P C c2 Q s) : wpS P C (.cond x c1 c2) Q s :=
  wpS_cond hx hg (fun h => by cases h) (fun _ => ht)
end
end Go.Av
namespace Go.Av
theorem bif_and (a b : Bool) : (bif a then b else false) = (a && b) := by cases a <;> rfl
theorem bif_or (a b : Bool) : (bif a then true else b) = (a || b) := by cases a <;> rfl
theorem beq_cast (a b : Nat) : ((a : Int) == (b : Int)) = decide (a = b) := by rw [Bool.eq_iff_iff]; simp; omega
end Go.Av
namespace Go.Av
section
variable {P : Program} {C : Ctx P} {s : St}
/-- a row's elements are told in other words -/
theorem ent_row (q : Nat) {e sz n : Nat} {f : Nat → List AV} (n' : Nat) (f' : Nat → List AV) (hr : lookR s.rts q = some (.row e sz n f)) (hn : n = n') (hf : ∀ i, i < n → f i = f' i) : Ent C s ⟨s.env, setR q (.row e sz n' f') s.rts⟩ := by
  rintro a w ⟨I, g, ow, h⟩
  refine ⟨I, g, ow, sat_rts h fun p r hp => ?_⟩
  rw [lookR_setR] at hp
  split at hp
  · rename_i hq
    subst hq
    rw [hr] at hp
    simp only [Option.map_some, Option.some.injEq] at hp
    subst hp
    refine leRt_sound (h.rts q _ hr) ?_
    simp only [leRt]
    simp [allP, hn, hf]
    intro i hi
    exact hf i (by omega)
  · exact h.rts p r hp
end
end Go.Av
namespace Go.Av
section
variable {P : Program} {C : Ctx P} {s : St} {env : List (Nat × AV)} {rts : List (Nat × Rt)}
theorem cso_callT {dr : Bool} {ops : Array Oper} {o : Oper} {d : Option Nat} {fx : X} {xs : List X} {gd : Option (Nat × Bool)} {af : List Nat} (hso : cso P dr ops o = ⟨.callT d fx xs, gd, af⟩) : cop P o = .callT d fx xs := by
  have := congrArg SO.op hso
  simp only [cso] at this
  split at this
  · exact this
  · split at this
    · exact this
    · cases this
/-- a guarded call with roots whose guard is met -/
theorem run_cRg {fx : X} {xs : List X} {af : List Nat} {sos : List SO} {f : Nat} {caps args : List AV} {rin rout : List (Nat × Rt)} {res : AV} {Q : St → Prop} {d : Nat} {jw : Nat × Bool} (ρ : Nat → Nat) (ns : List Nat) (hG : gval ⟨env, rts⟩ (some jw) = some true)
    (hspec : SpecR P f args rin res rout) (hf : xv ⟨env, rts⟩ fx = .fn f caps) (hargs : xvs ⟨env, rts⟩ xs ++ caps = mapL ρ args) (hrin : inOK ρ rts rin) (hc : chkR ρ ⟨env, rts⟩ rin rout res ns = true)
    (k : Run P C sos Q ⟨(d, mapA ρ res) :: env, mapRts ρ rout ++ eraseN (mapN ρ (hdR rin)) rts⟩) : Run P C (⟨.callT (some d) fx xs, some jw, af⟩ :: sos) Q ⟨env, rts⟩ := by
  intro dr ops os hm hd a w hs K hK
  cases os with
  | nil => simp at hm
  | cons o' os =>
    simp only [List.map_cons, List.cons.injEq] at hm
    obtain ⟨h1, h2⟩ := hm
    have hco := cso_callT h1
    have hs0 := hs
    obtain ⟨I, g, ow, hsat⟩ := hs
    unfold wpList
    rw [gval_wanted hsat h1 (by simp) hG, if_pos rfl]
    exact .inl (wp_callR hs0 (hd o' (List.mem_cons_self ..)) hco ρ ns hf hargs hrin hc hspec fun a' w' hs' => k dr ops os h2 (fun o ho => hd o (List.mem_cons_of_mem _ ho)) a' w' hs' K hK)
/-- an operation whose guard is not met is left out -/
theorem run_skip {so : SOp} {af : List Nat} {sos : List SO} {Q : St → Prop} {d : Nat} {jw : Nat × Bool} (v : AV) (hne : so ≠ .bad) (hdst : so.dst = some d) (hG : gval ⟨env, rts⟩ (some jw) = some false) (hdd : ∀ (dr : Bool) (ops : Array Oper) (o : Oper), cso P dr ops o = ⟨so, some jw, af⟩ → o.dst = some d)
    (k : Run P C sos Q ⟨(d, .cnd false v) :: env, rts⟩) : Run P C (⟨so, some jw, af⟩ :: sos) Q ⟨env, rts⟩ := by
  intro dr ops os hm hd a w hs K hK
  cases os with
  | nil => simp at hm
  | cons o' os =>
    simp only [List.map_cons, List.cons.injEq] at hm
    obtain ⟨h1, h2⟩ := hm
    have hdo := hdd dr ops o' h1
    obtain ⟨I, g, ow, hsat⟩ := hs
    unfold wpList
    rw [gval_wanted hsat h1 hne hG, if_neg (by simp)]
    refine k dr ops os h2 (fun o ho => hd o (List.mem_cons_of_mem _ ho)) _ w ⟨I, g, ow, ?_⟩ K hK
    rw [hdo]
    exact hsat.put (hd o' (List.mem_cons_self ..) d hdo) ⟨fun e => (by cases e), fun _ => rfl⟩
theorem run_skipC {fx : X} {xs : List X} {af : List Nat} {sos : List SO} {Q : St → Prop} {d : Nat} {jw : Nat × Bool} (v : AV) (hG : gval ⟨env, rts⟩ (some jw) = some false)
    (k : Run P C sos Q ⟨(d, .cnd false v) :: env, rts⟩) : Run P C (⟨.callT (some d) fx xs, some jw, af⟩ :: sos) Q ⟨env, rts⟩ :=
  run_skip v (by simp) rfl hG (fun dr ops o ho => by obtain ⟨_, _, _, _, _, _, q⟩ := cop1_callT (cso_callT ho); exact q) k
end
end Go.Av
namespace Go.Av
section
variable {P : Program} {C : Ctx P} {s : St} {env : List (Nat × AV)} {rts : List (Nat × Rt)}
/-- a row whose elements own rows, none of them named, is told in other words -/
theorem ent_rows (q : Nat) {e sz n i : Nat} {f : Nat → List AV} (n' : Nat) (f' : Nat → List AV) (hr : lookR s.rts q = some (.rowO e sz n f i [])) (hn : n = n') (hf : ∀ i, i < n → f i = f' i) : Ent C s ⟨s.env, setR q (.rowO e sz n' f' 0 []) s.rts⟩ := by
  rintro a w ⟨I, g, ow, h⟩
  refine ⟨I, g, ow, sat_rts h fun p r hp => ?_⟩
  rw [lookR_setR] at hp
  split at hp
  · rename_i hq
    subst hq
    rw [hr] at hp
    simp only [Option.map_some, Option.some.injEq] at hp
    subst hp
    refine leRt_sound (h.rts q _ hr) ?_
    simp only [leRt]
    simp [allP, hn]
    intro i hi
    exact hf i (by omega)
  · exact h.rts p r hp
/-- a slot whose condition is met -/
theorem ent_und (t : Nat) {v : AV} (ht : look s.env t = .cnd true v) : Ent C s ⟨(t, v) :: s.env, s.rts⟩ := by
  rintro a w ⟨I, g, ow, h⟩
  refine ⟨I, g, ow, { h with env := fun u => ?_ }⟩
  rw [look_cons]
  split
  · rename_i hu
    subst hu
    have := h.env t
    rw [ht] at this
    exact this.1 rfl
  · exact h.env u
end
end Go.Av
namespace Go.Av
section
variable {P : Program} {C : Ctx P} {s : St} {env : List (Nat × AV)} {rts : List (Nat × Rt)}
/-- a call of a function of the model's own that hands its argument back -/
theorem run_same {Q : St → Prop} {d : Nat} {x : X} {af : List Nat} {sos : List SO} {f : Nat} (hf : ∀ (v : Value) (w : World), (callFunc f #[v]).run P w = .ok (.value v) w)
    (k : Run P C sos Q ⟨(d, xv ⟨env, rts⟩ x) :: env, rts⟩) : Run P C (⟨.callT (some d) (.c (.fn f [])) [x], none, af⟩ :: sos) Q ⟨env, rts⟩ := by
  intro dr ops os hm hd a w hs K hK
  cases os with
  | nil => simp at hm
  | cons o' os =>
    simp only [List.map_cons, List.cons.injEq] at hm
    obtain ⟨h1, h2⟩ := hm
    have hgd : o'.guard = none := by
      cases hg : o'.guard with
      | none => rfl
      | some jw => obtain ⟨j, w'⟩ := jw; have := congrArg SO.g h1; simp only [cso, hg] at this; split at this <;> cases this
    have hco := cso_callT h1
    obtain ⟨ff, as, ts, q1, q2, q3, q4⟩ := cop1_callT hco
    obtain ⟨I, g, ow, h⟩ := hs
    obtain ⟨ox, has, hox⟩ : ∃ ox, as = #[ox] ∧ x = xop ox := by
      obtain ⟨l⟩ := as
      match l, q3 with
      | [ox], q3 => simp only [xops, List.map_cons, List.map_nil, List.cons.injEq, and_true] at q3; exact ⟨ox, rfl, q3⟩
      | [], q3 => simp [xops] at q3
      | _ :: _ :: _, q3 => simp [xops] at q3
    have e1 := xop_den h ff
    rw [← q2] at e1
    obtain ⟨cv, e1, d1⟩ := e1
    cases d1
    have e2 := xop_den h ox
    rw [← hox] at e2
    have hex : (execOp a.eval o').run P w = .ok (.value (a.eval ox)) w := by
      simp [execOp, q1, resolve, e1, Deferred.ofValue, invoke, has, hf]
    have hst : Stepped P ops o' a w fun a' w' => Sat C ⟨(d, xv ⟨env, rts⟩ x) :: env, rts⟩ a' w' := by
      unfold Stepped
      rw [if_pos (by simp [Region.wanted, hgd])]
      refine ⟨_, w, hex, .inl ⟨_, rfl, ?_⟩⟩
      rw [q4]
      exact ⟨I, g, ow, h.put (hd o' (List.mem_cons_self ..) d q4) e2⟩
    exact hst.wp fun a' w' hs' => k dr ops os h2 (fun o ho => hd o (List.mem_cons_of_mem _ ho)) a' w' hs' K hK
end
end Go.Av
namespace Go.Av
section
variable {P : Program} {C : Ctx P} {s : St}
/-- a slot is told in other words -/
theorem ent_slot (t : Nat) (v : AV) (h : allP (leAV (look s.env t) v)) : Ent C s ⟨(t, v) :: s.env, s.rts⟩ := by
  rintro a w ⟨I, g, ow, hs⟩
  refine ⟨I, g, ow, { hs with env := fun u => ?_ }⟩
  rw [look_cons]
  split
  · rename_i hu
    subst hu
    exact leAV_sound _ _ _ (hs.env t) h
  · exact hs.env u
theorem wpS_post {x : SCode} {Q Q' : Exit → St → Prop} (h : ∀ e s, Q e s → Q' e s) (k : wpS P C x Q s) : wpS P C x Q' s :=
  fun c hc hd a w hs K hK => k c hc hd a w hs K fun e a' w' s' hq hs' => hK e a' w' s' (h e s' hq) hs'
@[reducible] def joinQ {P : Program} {ι : Type} (C : Ctx P) (ok : ι → Prop) (inv : ι → St) (Q : Exit → St → Prop) : Exit → St → Prop
  | .normal, s => ∃ i, ok i ∧ Ent C s (inv i)
  | e, s => Q e s
/-- ways meet again -/
theorem wpS_join {ι : Type} (ok : ι → Prop) (inv : ι → St) {x y : SCode} {Q : Exit → St → Prop} (h : wpS P C x (joinQ C ok inv Q) s) (k : ∀ i, ok i → wpS P C y Q (inv i)) : wpS P C x (thenQ (wpS P C y Q) Q) s := by
  refine wpS_post (fun e s' hq => ?_) h
  cases e with
  | normal => obtain ⟨i, ho, he⟩ := hq; exact wpS_ent he (k i ho)
  | _ => exact hq
end
end Go.Av
end
/- part AvShort -/
section
namespace Go.Av
theorem aN : allP [] := allP_nil
theorem aC {p : Prop} {l : List Prop} (h : p) (k : allP l) : allP (p :: l) := allP_cons h k
theorem obS : (∀ (α : Type) (a b : α), cond true a b = a) ∧ (∀ (α : Type) (a b : α), cond false a b = b) ∧ (∀ a b : Bool, (bif a then b else false) = (a && b)) ∧ (∀ a b : Bool, (bif a then true else b) = (a || b)) ∧
    (∀ (p : Prop) [Decidable p], (decide p = true) = p) ∧ (∀ (p : Prop) [Decidable p], (decide p = false) = ¬ p) ∧ (∀ a b : Bool, ((a && b) = true) = (a = true ∧ b = true)) ∧ (∀ a b : Bool, ((a || b) = true) = (a = true ∨ b = true)) ∧
    (∀ b : Bool, ((!b) = true) = (b = false)) ∧ (∀ b : Bool, ((!b) = false) = (b = true)) :=
  ⟨fun _ _ _ => rfl, fun _ _ _ => rfl, fun a b => by cases a <;> rfl, fun a b => by cases a <;> rfl, fun _ _ => by simp, fun _ _ => by simp, fun a b => by simp, fun a b => by simp, fun b => by simp, fun b => by simp⟩
end Go.Av
end
/- part AvNew3 -/
section
namespace Go.Av
section
variable {P : Program} {C : Ctx P} {s : St} {env : List (Nat × AV)} {rts : List (Nat × Rt)}
def chkN (ρ : Nat → Nat) (rout : List (Nat × Rt)) (res : AV) (ns : List Nat) : Bool :=
  allB (fun k => elemN k ns) (hdR rout) && (allB (fun x => allB (fun y => !Nat.beq (ρ x) (ρ y) || Nat.beq x y) ns) ns && (allB (fun k => Nat.blt (ρ k) PB) ns && (subA ns res && subRts ns rout)))
def recN (ρ : Nat → Nat) (d : Nat) (fx : X) (xs : List X) (rout : List (Nat × Rt)) (ns : List Nat) : Rec :=
  { rd := slots (fx :: xs), rn := [], d := some d, wn := mapN ρ (hdR rout), nn := mapN ρ ns }
theorem allB_intro {p : Nat → Bool} : ∀ {l : List Nat}, (∀ x ∈ l, p x = true) → allB p l = true
  | [], _ => rfl
  | x :: l, h => by simp only [allB, h x (List.mem_cons_self ..), Bool.true_and]; exact allB_intro fun y hy => h y (List.mem_cons_of_mem _ hy)
theorem xvs_agree {s2 : St} : ∀ {xs : List X}, (∀ x ∈ xs, xv s2 x = xv s x) → xvs s2 xs = xvs s xs
  | [], _ => rfl
  | x :: xs, h => by simp only [xvs, h x (List.mem_cons_self ..)]; rw [xvs_agree fun y hy => h y (List.mem_cons_of_mem _ hy)]
theorem lookR_some_of_mem : ∀ {l : List (Nat × Rt)} {k : Nat}, k ∈ hdR l → ∃ r, lookR l k = some r
  | (j, x) :: l, k, h => by
    rw [lookR_cons]
    by_cases e : j = k
    · rw [if_pos e]; exact ⟨x, rfl⟩
    · rw [if_neg e]
      simp only [hdR, List.mem_cons] at h
      rcases h with h | h
      · exact absurd h.symm e
      · exact lookR_some_of_mem h
theorem hdR_mapRts (ρ : Nat → Nat) : ∀ l : List (Nat × Rt), hdR (mapRts ρ l) = mapN ρ (hdR l)
  | [] => rfl
  | (k, r) :: l => by simp only [mapRts, hdR, mapN, hdR_mapRts ρ l]
theorem turned_N {rc : Rec} {ρ : Nat → Nat} {d : Nat} {v : AV} {rout : List (Nat × Rt)} (hd : rc.d = some d) (hw : rc.wn = mapN ρ (hdR rout)) {env2 : List (Nat × AV)} {rts2 : List (Nat × Rt)} {s2 : St} (h1 : ∀ t, look env2 t = look s2.env t) (h2 : ∀ q, lookR rts2 q = lookR s2.rts q) :
    Turned rc ⟨(d, v) :: env, mapRts ρ rout ++ rts⟩ s2 ⟨(d, v) :: env2, mapRts ρ rout ++ rts2⟩ := by
  refine ⟨fun t => ?_, fun q => ?_⟩
  · simp only [hd, look_cons, Option.some.injEq]
    by_cases h : d = t
    · simp [h]
    · simp [h, h1]
  · rw [hw]
    simp only [lookR_append]
    by_cases hq : q ∈ mapN ρ (hdR rout)
    · rw [if_pos hq]
      rw [← hdR_mapRts] at hq
      obtain ⟨r, hr⟩ := lookR_some_of_mem hq
      rw [hr]
    · rw [if_neg hq]
      cases hl : lookR (mapRts ρ rout) q with
      | none => exact h2 q
      | some r => rw [← hdR_mapRts] at hq; exact absurd (hdR_look hl) hq
/-- a call that is handed no roots and gives new ones, in a region that draws its order -/
theorem trg_cN {fx : X} {xs : List X} {af : List Nat} {sos : List SO} {f : Nat} {caps args : List AV} {rout : List (Nat × Rt)} {res : AV} {d : Nat} {K : List (Rec × St) → St → Prop} (ρ : Nat → Nat) (ns : List Nat) (hspec : SpecR P f args [] res rout) (hf : xv ⟨env, rts⟩ fx = .fn f caps) (hargs : xvs ⟨env, rts⟩ xs ++ caps = mapL ρ args) (hc : chkN ρ rout res ns = true)
    (k : TrG P C ⟨(d, mapA ρ res) :: env, mapRts ρ rout ++ rts⟩ sos fun tr e => K ((recN ρ d fx xs rout ns, ⟨(d, mapA ρ res) :: env, mapRts ρ rout ++ rts⟩) :: tr) e) : TrG P C ⟨env, rts⟩ (⟨.callT (some d) fx xs, none, af⟩ :: sos) K := by
  obtain ⟨tr, e, h1, h2⟩ := k
  refine ⟨_, e, .cons ?_ ?_ h1, h2⟩
  · intro dr ops o hso hd s2 hag hfr _ a w hs K Q hK
    have hgd : o.guard = none := by
      cases hg : o.guard with
      | none => rfl
      | some jw => obtain ⟨j, w'⟩ := jw; have := congrArg SO.g hso; simp only [cso, hg] at this; split at this <;> cases this
    have hco := cso_callT hso
    have hs' : Sat C (nrm s2) a w := ent_keep _ _ a w hs
    obtain ⟨ag1, ag2, ag3⟩ := hag
    have hx : ∀ x ∈ fx :: xs, xv (nrm s2) x = xv ⟨env, rts⟩ x := agree_x fun t ht => (nrm_look s2 t).trans (ag1 t ht)
    have hxf := hx fx (List.mem_cons_self ..)
    have hxs : xvs (nrm s2) xs = xvs ⟨env, rts⟩ xs := xvs_agree fun x hx' => hx x (List.mem_cons_of_mem _ hx')
    simp only [chkN, Bool.and_eq_true] at hc
    obtain ⟨c1, c2, c3, c4, c5⟩ := hc
    have hck : chkR ρ (nrm s2) [] rout res ns = true := by
      simp only [chkR, Bool.and_eq_true]
      refine ⟨rfl, c1, c2, allB_intro fun k hk => ?_, c4, c5⟩
      have hb := allB_spec c3 k hk
      have hfk := nrm_fresh (hfr (ρ k) (mem_mapN.2 ⟨k, hk, rfl⟩))
      simp only [fresh, Bool.and_eq_true] at hfk
      rw [hb, hfk.1]
      simp only [hdR, mapN, eraseN, hfk.2, Bool.and_self, Bool.or_true]
    rw [if_pos (by simp [Region.wanted, hgd])]
    refine .inl (wp_callR (rin := []) hs' hd hco ρ ns (hxf.trans hf) (by rw [hxs]; exact hargs) trivial hck hspec fun a' w' hs2' => hK a' w' _ ?_ hs2')
    exact turnedB_of rfl (turned_N (s2 := s2) rfl rfl (nrm_look s2) (nrm_lookR s2))
  · exact turnedB_of rfl (turned_N (s2 := ⟨env, rts⟩) rfl rfl (fun _ => rfl) fun _ => rfl)
/-- a load out of a row whose elements own rows, the element known -/
theorem load_rowO {d : Nat} {x : X} {q sz k off n e m i : Nat} {F : Nat → List AV} {cs : List AV} {v : AV} {af : List Nat} (hx : xv ⟨env, rts⟩ x = .locE q sz k off) (hr : lookR rts q = some (.rowO e sz m F i [])) (hF : F k = cs) (hp : pickCells (stripL (cs.drop off)) n false = some v) :
    step ⟨env, rts⟩ ⟨.load d x n false, none, af⟩ = .ok ⟨(d, v) :: env, rts⟩ [k < m] := by
  simp only [step, ev, hx, und, gdo, loadAt, hr, beq_iff.2 rfl, cond_true, loadO, lookF, hF, hp, ofOpt, cond_false, SOp.dst, fo_eq]
end
end Go.Av
namespace Go.Av
section
variable {P : Program} {C : Ctx P} {s : St} {env : List (Nat × AV)} {rts : List (Nat × Rt)}
theorem trg_cR {fx : X} {xs : List X} {af : List Nat} {sos : List SO} {f : Nat} {caps args : List AV} {rin rout : List (Nat × Rt)} {res : AV} {d : Nat} {K : List (Rec × St) → St → Prop} (ρ : Nat → Nat) (ns : List Nat) (hent : Ent C s ⟨env, rts⟩) (hspec : SpecR P f args rin res rout)
    (hf : xv ⟨env, rts⟩ fx = .fn f caps) (hargs : xvs ⟨env, rts⟩ xs ++ caps = mapL ρ args) (hrin : inOK ρ rts rin) (hc : chkR ρ ⟨env, rts⟩ rin rout res ns = true)
    (k : TrG P C ⟨(d, mapA ρ res) :: env, mapRts ρ rout ++ eraseN (mapN ρ (hdR rin)) rts⟩ sos fun tr e => K (({ rd := [], rn := [], d := some d, wn := [], nn := [], bar := true }, ⟨(d, mapA ρ res) :: env, mapRts ρ rout ++ eraseN (mapN ρ (hdR rin)) rts⟩) :: tr) e) : TrG P C s (⟨.callT (some d) fx xs, none, af⟩ :: sos) K := by
  obtain ⟨tr, e, h1, h2⟩ := k
  exact ⟨_, e, tr_callR ρ ns hent hf hargs hrin hc hspec h1, h2⟩
theorem specR_leA {f : FuncId} {args args' : List AV} {rin rout : List (Nat × Rt)} {res : AV} (h : SpecR P f args rin res rout) (hl : allP (leL args' args)) : SpecR P f args' rin res rout :=
  ⟨h.1, fun I g ow w vs d => h.2 I g ow w vs (leL_sound _ _ _ d hl)⟩
theorem specR_le {f : FuncId} {args : List AV} {rin rout : List (Nat × Rt)} {res res' : AV} (h : SpecR P f args rin res rout) (hl : allP (leAV res res')) : SpecR P f args rin res' rout :=
  ⟨h.1, fun I g ow w vs a b c d e f k => (h.2 I g ow w vs a b c d e f k).mono fun _ _ ⟨v, I', g', ow', e1, d1, r⟩ => ⟨v, I', g', ow', e1, leAV_sound _ _ _ d1 hl, r⟩⟩
end
end Go.Av
end
/- part AvNameB -/
section
namespace Go.Av
section
variable {P : Program} {C : Ctx P} {s : St}
theorem denL_nameB {I : Imm} {g : Nat → Value} {q : Nat} : ∀ (k : Nat) (cells : List AV) (vs : List Value), cells[k]? = some .nils → norefL q cells = true → DenL I (some g) cells vs → DenL I (some (upd g q (.slice none 0 0))) (cells.set k (.ref q)) vs
  | _, [], _, h, _, _ => by simp at h
  | 0, x :: xs, _, h, hn, ⟨v, ws, e, d, r⟩ => by
    simp at h
    subst h
    simp only [norefL, Bool.and_eq_true] at hn
    refine ⟨v, ws, e, ⟨_, rfl, ?_, none, 0, 0, d⟩, DenL.congr xs ws (fun p hp => upd_ne _ _ ?_) r⟩
    · rw [upd_same]; exact d
    · rintro rfl; rw [hn.2] at hp; cases hp
  | k + 1, x :: xs, _, h, hn, ⟨v, ws, e, d, r⟩ => by
    simp only [norefL, Bool.and_eq_true] at hn
    refine ⟨v, ws, e, Den.congr x v (fun p hp => upd_ne _ _ ?_) d, denL_nameB k xs ws (by simpa using h) hn.2 r⟩
    rintro rfl; rw [hn.1] at hp; cases hp
/-- a cell of a block that holds the nil slice: it becomes a root -/
theorem ent_nameB (p k q e sz : Nat) (f : Nat → List AV) {ty : Nat} {cells : List AV} (hr : lookR s.rts p = some (.blk ty cells)) (hc : cells[k]? = some .nils) (hf : fresh q s = true) (hb : Nat.blt q PB = true := by rfl) :
    Ent C s ⟨s.env, (q, .row e sz 0 f) :: setR p (.blk ty (cells.set k (.ref q))) s.rts⟩ := by
  rintro a w ⟨I, g, ow, h⟩
  simp only [fresh, Bool.and_eq_true] at hf
  refine ⟨I, upd g q (.slice none 0 0), ow, { h with pin := pin_upd h.pin (by simpa using hb) _, env := fun t => env_name h hf.1 _ t, rts := ?_ }⟩
  intro p' r hp
  replace hp : lookR ((q, Rt.row e sz 0 f) :: setR p (.blk ty (cells.set k (.ref q))) s.rts) p' = some r := hp
  rw [lookR_cons] at hp
  split at hp
  · rename_i hk; subst hk; injection hp with hp; subst hp; exact .inl ⟨none, upd_same _ _ _, rfl⟩
  · rw [lookR_setR] at hp
    split at hp
    · rename_i hpp
      subst hpp
      rw [hr] at hp
      cases hp
      obtain ⟨h1, h2⟩ := freshR_look hf.2 p _ hr
      obtain ⟨b, cur, k1, k2, k3, k4, k5⟩ := h.rts p _ hr
      refine ⟨b, cur, by rw [upd_ne _ _ h1]; exact k1, k2, k3, k4, denL_nameB k cells _ hc (by simpa [norefR] using h2) k5⟩
    · obtain ⟨h1, h2⟩ := freshR_look hf.2 p' r hp
      exact RtOK.name (h.rts p' r hp) h1 h2 (fun b _ _ => rfl) (fun b _ hb => hb)
end
end Go.Av
end
/- part AvMet -/
section
namespace Go.Av
section
variable {P : Program} {C : Ctx P} {s : St}
theorem cop_bare (o : Oper) : cop P { o with guard := none } = cop P o := by
  cases o; rfl
theorem exec_bare (ev : Operand → Value) (o : Oper) : execOp ev { o with guard := none } = execOp ev o := by
  cases o; rfl
theorem cso_met {dr : Bool} {ops : Array Oper} {o : Oper} {so : SOp} {gd : Option (Nat × Bool)} {af : List Nat} (hso : cso P dr ops o = ⟨so, gd, af⟩) (hne : so ≠ .bad) : cop P o = so := by
  have := congrArg SO.op hso
  simp only [cso] at this
  split at this
  · exact this
  · split at this
    · exact this
    · exact absurd this.symm hne
/-- an operation whose guard is met -/
theorem run_met {so : SOp} {af : List Nat} {sos : List SO} {Q : St → Prop} {jw : Nat × Bool} {s' : St} {ob : List Prop} (hG : gval s (some jw) = some true) (he : step s ⟨so, none, []⟩ = .ok s' ob) (hob : allP ob) (k : Run P C sos Q s') (hne : so ≠ .bad := by simp) : Run P C (⟨so, some jw, af⟩ :: sos) Q s := by
  intro dr ops os hm hd a w hs K hK
  cases os with
  | nil => simp at hm
  | cons o' os =>
    simp only [List.map_cons, List.cons.injEq] at hm
    obtain ⟨h1, h2⟩ := hm
    have hs0 := hs
    obtain ⟨I, g, ow, hsat⟩ := hs
    have hco := cso_met h1 hne
    unfold wpList
    rw [gval_wanted hsat h1 hne hG, if_pos rfl]
    have hcb : cso P false #[] { o' with guard := none } = ⟨so, none, []⟩ := by
      rw [← hco, ← cop_bare o']
      rfl
    have hst := step_sound (o := { o' with guard := none }) hs0 (fun d hdd => hd o' (List.mem_cons_self ..) d hdd) (by rw [hcb]; exact he) hob
    unfold Stepped at hst
    rw [if_pos (by simp [Region.wanted])] at hst
    obtain ⟨n, w', e1, e2⟩ := hst
    rw [exec_bare] at e1
    refine .inl (Leads.wp (R := fun a' w' => Sat C s' a' w') ⟨n, w', e1, e2⟩ fun a' w' hs' => k dr ops os h2 (fun o ho => hd o (List.mem_cons_of_mem _ ho)) a' w' hs' K hK)
/-- an operation whose guard is not met is left out -/
theorem run_skipS {so : SOp} {af : List Nat} {sos : List SO} {Q : St → Prop} {d : Nat} {jw : Nat × Bool} (v : AV) (hdst : so.dst = some d) (hG : gval s (some jw) = some false)
    (k : Run P C sos Q ⟨(d, .cnd false v) :: s.env, s.rts⟩) (hne : so ≠ .bad := by simp) : Run P C (⟨so, some jw, af⟩ :: sos) Q s := by
  obtain ⟨env, rts⟩ := s
  refine run_skip v hne hdst hG (fun dr ops o ho => cop1_dst (P := P) (op := o.op) ?_) k
  have := cso_met ho hne
  unfold cop at this
  rw [this]
  exact hdst
end
end Go.Av
end
