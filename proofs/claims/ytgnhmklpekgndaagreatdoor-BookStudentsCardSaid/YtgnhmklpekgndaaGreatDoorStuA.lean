/-
  HELPING TEXT, shared by the claims on the book. Own work (AI agent).
-/

set_option linter.all false
/- part PuSort -/
section
namespace Go.Pu
/- stable sorting by a key -/
def insS {α : Type} (k : α → Int) (x : α) : List α → List α
  | [] => [x]
  | y :: r => if k x < k y then x :: y :: r else y :: insS k x r
def sortS {α : Type} (k : α → Int) (l : List α) : List α := l.foldl (fun a x => insS k x a) []
def Srt {α : Type} (k : α → Int) (l : List α) : Prop := l.Pairwise fun a b => k a ≤ k b
def StEq {α : Type} (k : α → Int) (l m : List α) : Prop := ∀ t, l.filter (fun x => k x == t) = m.filter (fun x => k x == t)
section
variable {α : Type} {k : α → Int}
theorem StEq.refl (l : List α) : StEq k l l := fun _ => rfl
theorem StEq.symm {l m : List α} (h : StEq k l m) : StEq k m l := fun t => (h t).symm
theorem StEq.trans {l m n : List α} (h : StEq k l m) (h' : StEq k m n) : StEq k l n := fun t => (h t).trans (h' t)
theorem StEq.append {l m l' m' : List α} (h : StEq k l m) (h' : StEq k l' m') : StEq k (l ++ l') (m ++ m') := fun t => by
  rw [List.filter_append, List.filter_append, h t, h' t]
/-- two parts change places: all keys of the one are below those of the other -/
theorem StEq.swap {l m : List α} (h : ∀ x ∈ l, ∀ y ∈ m, k x ≠ k y) : StEq k (l ++ m) (m ++ l) := fun t => by
  rw [List.filter_append, List.filter_append]
  by_cases hl : ∃ x ∈ l, k x = t
  · obtain ⟨x, hx, e⟩ := hl
    have : m.filter (fun x => k x == t) = [] := by
      rw [List.filter_eq_nil_iff]
      intro y hy
      have := h x hx y hy
      simp only [beq_iff_eq]
      omega
    rw [this]; simp
  · have : l.filter (fun x => k x == t) = [] := by
      rw [List.filter_eq_nil_iff]
      intro y hy
      simp only [beq_iff_eq]
      exact fun e => hl ⟨y, hy, e⟩
    rw [this]; simp
theorem StEq.mem {l m : List α} (h : StEq k l m) {x : α} (hx : x ∈ l) : x ∈ m := by
  have : x ∈ l.filter (fun y => k y == k x) := by simp [hx]
  rw [h] at this
  exact (List.mem_filter.1 this).1
theorem StEq.mem_iff {l m : List α} (h : StEq k l m) {x : α} : x ∈ l ↔ x ∈ m := ⟨h.mem, h.symm.mem⟩
theorem StEq.nil {l : List α} (h : StEq k l []) : l = [] := by
  cases l with
  | nil => rfl
  | cons x r => exact absurd (h.mem (List.mem_cons_self ..)) (by simp)
theorem srt_unique : ∀ {l m : List α}, Srt k l → Srt k m → StEq k l m → l = m
  | [], m, _, _, h => (h.symm.nil).symm
  | x :: l, m, hl, hm, h => by
    cases m with
    | nil => exact h.nil
    | cons y m =>
      have hx : x ∈ y :: m := h.mem (List.mem_cons_self ..)
      have hy : y ∈ x :: l := h.symm.mem (List.mem_cons_self ..)
      have hl' := List.pairwise_cons.1 hl
      have hm' := List.pairwise_cons.1 hm
      have e : k x = k y := by
        have h1 : k x ≤ k y := by
          rcases List.mem_cons.1 hy with rfl | hy
          · exact Int.le_refl _
          · exact hl'.1 _ hy
        have h2 : k y ≤ k x := by
          rcases List.mem_cons.1 hx with rfl | hx
          · exact Int.le_refl _
          · exact hm'.1 _ hx
        omega
      have hxy : x = y := by
        have := h (k x)
        rw [List.filter_cons_of_pos (by simp), List.filter_cons_of_pos (by simp [e])] at this
        exact (List.cons.inj this).1
      subst hxy
      rw [srt_unique hl'.2 hm'.2 fun t => by
        have := h t
        by_cases ht : k x = t
        · rw [List.filter_cons_of_pos (by simp [ht]), List.filter_cons_of_pos (by simp [ht])] at this
          exact (List.cons.inj this).2
        · rwa [List.filter_cons_of_neg (by simp [ht]), List.filter_cons_of_neg (by simp [ht])] at this]
theorem mem_insS {x y : α} : ∀ {l : List α}, y ∈ insS k x l ↔ y = x ∨ y ∈ l
  | [] => by simp [insS]
  | z :: r => by
    simp only [insS]
    split
    · simp
    · simp only [List.mem_cons, mem_insS (l := r)]
      constructor
      · rintro (h | h | h) <;> simp [h]
      · rintro (h | h | h) <;> simp [h]
theorem srt_insS {x : α} : ∀ {l : List α}, Srt k l → Srt k (insS k x l)
  | [], _ => by simp [insS, Srt]
  | y :: r, h => by
    have h' := List.pairwise_cons.1 h
    simp only [insS]
    split
    · rename_i hlt
      refine List.pairwise_cons.2 ⟨fun z hz => ?_, h⟩
      rcases List.mem_cons.1 hz with rfl | hz
      · omega
      · have := h'.1 z hz; omega
    · rename_i hlt
      refine List.pairwise_cons.2 ⟨fun z hz => ?_, srt_insS h'.2⟩
      rcases mem_insS.1 hz with rfl | hz
      · omega
      · exact h'.1 z hz
theorem steq_insS {x : α} : ∀ {l : List α}, Srt k l → StEq k (insS k x l) (l ++ [x])
  | [], _ => StEq.refl _
  | y :: r, h => by
    have h' := List.pairwise_cons.1 h
    simp only [insS]
    split
    · rename_i hlt
      have : StEq k ([x] ++ (y :: r)) ((y :: r) ++ [x]) := StEq.swap fun a ha b hb => by
        rw [List.mem_singleton.1 ha]
        rcases List.mem_cons.1 hb with rfl | hb
        · omega
        · have := h'.1 b hb; omega
      simpa using this
    · exact StEq.append (l := [y]) (m := [y]) (StEq.refl _) (steq_insS h'.2)
theorem sortS_aux : ∀ (l acc : List α), Srt k acc → Srt k (l.foldl (fun a x => insS k x a) acc) ∧ StEq k (l.foldl (fun a x => insS k x a) acc) (acc ++ l)
  | [], acc, h => ⟨h, by simpa using StEq.refl _⟩
  | x :: l, acc, h => by
    obtain ⟨h1, h2⟩ := sortS_aux l (insS k x acc) (srt_insS h)
    refine ⟨h1, h2.trans ?_⟩
    have := StEq.append (steq_insS (x := x) h) (StEq.refl (k := k) l)
    simpa using this
theorem srt_sortS (l : List α) : Srt k (sortS k l) := (sortS_aux l [] List.Pairwise.nil).1
theorem steq_sortS (l : List α) : StEq k (sortS k l) l := by have := (sortS_aux (k := k) l [] List.Pairwise.nil).2; rw [List.nil_append] at this; exact this
theorem sortS_eq {l m : List α} (h1 : Srt k m) (h2 : StEq k m l) : m = sortS k l := srt_unique h1 (srt_sortS l) (h2.trans (steq_sortS l).symm)
theorem sortS_srt {l : List α} (h : Srt k l) : sortS k l = l := (sortS_eq h (StEq.refl _)).symm
theorem length_insS {x : α} : ∀ {l : List α}, (insS k x l).length = l.length + 1
  | [] => rfl
  | y :: r => by simp only [insS]; split <;> simp [length_insS]
theorem length_sortS (l : List α) : (sortS k l).length = l.length := by
  have : ∀ (l acc : List α), (l.foldl (fun a x => insS k x a) acc).length = acc.length + l.length := by
    intro l
    induction l with
    | nil => simp
    | cons x l ih => intro acc; simp only [List.foldl_cons, ih, length_insS, List.length_cons]; omega
  have := this l []
  rw [List.length_nil, Nat.zero_add] at this
  exact this
theorem mem_sortS {x : α} {l : List α} : x ∈ sortS k l ↔ x ∈ l := (steq_sortS l).mem_iff
theorem StEq.length {l m : List α} (h : StEq k l m) : l.length = m.length := by
  have h1 : sortS k l = sortS k m := srt_unique (srt_sortS l) (srt_sortS m) ((steq_sortS l).trans (h.trans (steq_sortS m).symm))
  rw [← length_sortS (k := k) l, h1, length_sortS]
theorem sortS_congr {l m : List α} (h : StEq k l m) : sortS k l = sortS k m := srt_unique (srt_sortS l) (srt_sortS m) ((steq_sortS l).trans (h.trans (steq_sortS m).symm))
theorem srt_append {l m : List α} : Srt k (l ++ m) ↔ Srt k l ∧ Srt k m ∧ ∀ x ∈ l, ∀ y ∈ m, k x ≤ k y := List.pairwise_append
end
end Go.Pu
end
/- part PuBook -/
section
namespace Go.Pu
structure K where
  stu : List UInt8
  ex : List UInt8
  att : Int
deriving Inhabited, DecidableEq
structure Ev where
  kind : Int
  key : K
  tick : Int
  ver : Int
  hun : Int
  text : List UInt8
  acc : Bool
deriving Inhabited, DecidableEq
structure Gr where
  ver : Int
  hun : Int
  tick : Int
  text : List UInt8
deriving Inhabited, DecidableEq
structure Ap where
  tick : Int
  text : List UInt8
  dec : Bool
  acc : Bool
  «at» : Int
  ans : List UInt8
deriving Inhabited, DecidableEq
structure En where
  key : K
  tick : Int
  text : List UInt8
  grs : List Gr
  aps : List Ap
deriving Inhabited, DecidableEq
structure Bk where
  tick : Int
  ens : List En
deriving Inhabited, DecidableEq
/- the words that are no names -/
def keywords : List (List UInt8) := [[112, 111, 105, 110, 116, 115], [112, 101, 110, 97, 108, 116, 121], [99, 97, 112], [102, 108, 111, 111, 114], [105, 110], [105, 102], [97, 110, 100], [111, 114], [110, 111, 116], [116, 114, 117, 101], [102, 97, 108, 115, 101], [109, 105, 110], [109, 97, 120]]
def letterB (c : UInt8) : Bool := decide (97 ≤ c.toNat) && decide (c.toNat ≤ 122)
def digitB (c : UInt8) : Bool := decide (48 ≤ c.toNat) && decide (c.toNat ≤ 57)
def inNameB (c : UInt8) : Bool := letterB c || digitB c || decide (c.toNat = 95)
def nameB (s : List UInt8) : Bool := match s with
  | [] => false
  | c :: r => decide (r.length < 16) && letterB c && (c :: r).all inNameB && !keywords.contains (c :: r)
def keyB (k : K) : Bool := nameB k.stu && nameB k.ex && decide (1 ≤ k.att) && decide (k.att ≤ 16)
def validEv (e : Ev) : Bool :=
  decide (0 ≤ e.kind) && decide (e.kind ≤ 3) && keyB e.key && decide (0 ≤ e.tick) && decide (e.tick ≤ 1099511627776) && decide (e.text.length ≤ 4096) &&
    (if e.kind = 1 then decide (1 ≤ e.ver) && decide (e.ver ≤ 1048576) && decide (0 ≤ e.hun) && decide (e.hun ≤ 100000000) && !e.acc
     else decide (e.ver = 0) && decide (e.hun = 0) && (!e.acc || decide (e.kind = 3)))
def evSub (y : En) : Ev := ⟨0, y.key, y.tick, 0, 0, y.text, false⟩
def evGr (k : K) (g : Gr) : Ev := ⟨1, k, g.tick, g.ver, g.hun, g.text, false⟩
def evAp (k : K) (a : Ap) : Ev := ⟨2, k, a.tick, 0, 0, a.text, false⟩
def evDec (k : K) (a : Ap) : Ev := ⟨3, k, a.at, 0, 0, a.ans, a.acc⟩
def evsAp (k : K) (a : Ap) : List Ev := if a.dec then [evAp k a, evDec k a] else [evAp k a]
def evsEn (y : En) : List Ev := evSub y :: (y.grs.map (evGr y.key) ++ y.aps.flatMap (evsAp y.key))
def evsRaw (l : List En) : List Ev := l.flatMap evsEn
def evsBk (l : List En) : List Ev := sortS Ev.tick (evsRaw l)
def findK (l : List En) (k : K) : Option Nat := l.findIdx? fun y => y.key == k
def hasB (l : List En) (e : Ev) : Bool := match findK l e.key with
  | some i => (evsEn (l.getD i default)).contains e
  | none => false
def countK (l : List En) (k : K) : Nat := l.countP fun y => y.key.stu == k.stu && y.key.ex == k.ex
def lastP {α : Type} (l : List α) (p : α → Bool) : Bool := match l.getLast? with
  | some a => p a
  | none => false
def openE (y : En) : Bool := lastP y.aps fun a => !a.dec
/- codes: 0 OK, 1 Arg, 2 Range, 6 Exists, 7 NotFound, 8 TooLarge, 9 State -/
def gradeE (e : Ev) (y : En) : Int × En :=
  if lastP y.grs (fun g => decide (e.ver ≤ g.ver)) then (9, y)
  else if 16 ≤ y.grs.length then (8, y) else (0, { y with grs := y.grs ++ [⟨e.ver, e.hun, e.tick, e.text⟩] })
def appealE (e : Ev) (y : En) : Int × En :=
  if y.grs = [] || openE y then (9, y) else if 16 ≤ y.aps.length then (8, y) else (0, { y with aps := y.aps ++ [⟨e.tick, e.text, false, false, 0, []⟩] })
def decideA (e : Ev) (a : Ap) : Ap := { a with dec := true, acc := e.acc, «at» := e.tick, ans := e.text }
def decideE (e : Ev) (y : En) : Int × En :=
  if openE y then (0, { y with aps := y.aps.set (y.aps.length - 1) (decideA e (y.aps.getD (y.aps.length - 1) default)) }) else (9, y)
def stepE (e : Ev) (y : En) : Int × En := if e.kind = 1 then gradeE e y else if e.kind = 2 then appealE e y else decideE e y
/-- an event in a book, whatever the book is: the code and the book then -/
def applyB (b : Bk) (e : Ev) : Int × Bk :=
  if hasB b.ens e then (6, b) else if e.tick < b.tick then (2, b) else
  if e.kind = 0 then
    (if e.key.att ≠ countK b.ens e.key + 1 then (9, b) else if 256 ≤ b.ens.length then (8, b) else (0, ⟨e.tick, b.ens ++ [⟨e.key, e.tick, e.text, [], []⟩]⟩))
  else match findK b.ens e.key with
  | none => (7, b)
  | some i => if (stepE e (b.ens.getD i default)).1 = 0 then (0, ⟨e.tick, b.ens.set i (stepE e (b.ens.getD i default)).2⟩) else ((stepE e (b.ens.getD i default)).1, b)
def empty : Bk := ⟨0, []⟩
def replay : List Ev → Bk → Option Bk
  | [], b => some b
  | e :: l, b => if validEv e && (applyB b e).1 == 0 then replay l (applyB b e).2 else none
def validB (b : Bk) : Bool := decide (b.ens.length ≤ 256) && (match replay (evsBk b.ens) empty with | some c => c == b | none => false)
/-- Apply -/
def applyX (b : Bk) (e : Ev) : Int × Bk :=
  if validB b && validEv e then (if (applyB b e).1 = 0 then applyB b e else ((applyB b e).1, empty)) else (1, empty)
def make (l : List Ev) : Bk := l.foldl (fun b x => if (applyX b x).1 = 0 then (applyX b x).2 else b) empty
end Go.Pu
end
/- part PuArr -/
section
namespace Go.Pu
/- arrays as functions -/
section
variable {α : Type} {k : α → Int}
def seg (c : Nat → α) (a b : Nat) : List α := (List.range (b - a)).map fun i => c (a + i)
theorem seg_length (c : Nat → α) (a b : Nat) : (seg c a b).length = b - a := by simp [seg]
theorem seg_get? (c : Nat → α) (a b i : Nat) : (seg c a b)[i]? = if i < b - a then some (c (a + i)) else none := by
  simp only [seg, List.getElem?_map]
  by_cases h : i < b - a
  · rw [if_pos h, List.getElem?_range h]; rfl
  · rw [if_neg h, List.getElem?_eq_none (by simpa using h)]; rfl
theorem seg_split (c : Nat → α) {a m b : Nat} (h1 : a ≤ m) (h2 : m ≤ b) : seg c a b = seg c a m ++ seg c m b := by
  refine List.ext_getElem? fun i => ?_
  rw [List.getElem?_append, seg_length, seg_get?, seg_get?, seg_get?]
  by_cases h : i < m - a
  · rw [if_pos h, if_pos h, if_pos (by omega)]
  · rw [if_neg h]
    by_cases h' : i < b - a
    · rw [if_pos h', if_pos (by omega)]; congr 2; omega
    · rw [if_neg h', if_neg (by omega)]
theorem seg_congr {c d : Nat → α} {a b : Nat} (h : ∀ t, a ≤ t → t < b → c t = d t) : seg c a b = seg d a b := by
  refine List.ext_getElem? fun i => ?_
  rw [seg_get?, seg_get?]
  by_cases hi : i < b - a
  · rw [if_pos hi, if_pos hi, h _ (by omega) (by omega)]
  · rw [if_neg hi, if_neg hi]
theorem seg_shift {c d : Nat → α} {a b a' b' : Nat} (hl : b - a = b' - a') (h : ∀ i, i < b - a → c (a + i) = d (a' + i)) : seg c a b = seg d a' b' := by
  refine List.ext_getElem? fun i => ?_
  rw [seg_get?, seg_get?, hl]
  by_cases hi : i < b' - a'
  · rw [if_pos hi, if_pos hi, h _ (by omega)]
  · rw [if_neg hi, if_neg hi]
theorem seg_one (c : Nat → α) (a : Nat) : seg c a (a + 1) = [c a] := by
  simp [seg]
theorem seg_nil (c : Nat → α) {a b : Nat} (h : b ≤ a) : seg c a b = [] := by
  simp [seg, Nat.sub_eq_zero_of_le h]
theorem mem_seg {c : Nat → α} {a b : Nat} {x : α} : x ∈ seg c a b ↔ ∃ t, a ≤ t ∧ t < b ∧ x = c t := by
  simp only [seg, List.mem_map, List.mem_range]
  constructor
  · rintro ⟨i, hi, rfl⟩; exact ⟨a + i, by omega, by omega, rfl⟩
  · rintro ⟨t, h1, h2, rfl⟩; exact ⟨t - a, by omega, by congr 1; omega⟩
/-- sorted between two places -/
def SrtA (k : α → Int) (c : Nat → α) (a b : Nat) : Prop := ∀ i j, a ≤ i → i < j → j < b → k (c i) ≤ k (c j)
theorem srtA_iff {c : Nat → α} {a b : Nat} : SrtA k c a b ↔ Srt k (seg c a b) := by
  unfold Srt
  rw [List.pairwise_iff_getElem]
  constructor
  · intro h i j hi hj hij
    rw [seg_length] at hi hj
    have e1 : (seg c a b)[i]? = some (c (a + i)) := by rw [seg_get?, if_pos hi]
    have e2 : (seg c a b)[j]? = some (c (a + j)) := by rw [seg_get?, if_pos hj]
    rw [List.getElem?_eq_some_iff] at e1 e2
    obtain ⟨_, e1⟩ := e1
    obtain ⟨_, e2⟩ := e2
    rw [e1, e2]
    exact h _ _ (by omega) (by omega) (by omega)
  · intro h i j hi hij hj
    have := h (i - a) (j - a) (by rw [seg_length]; omega) (by rw [seg_length]; omega) (by omega)
    have e1 : (seg c a b)[i - a]? = some (c i) := by rw [seg_get?, if_pos (by omega)]; congr 2; omega
    have e2 : (seg c a b)[j - a]? = some (c j) := by rw [seg_get?, if_pos (by omega)]; congr 2; omega
    rw [List.getElem?_eq_some_iff] at e1 e2
    obtain ⟨_, e1⟩ := e1
    obtain ⟨_, e2⟩ := e2
    rw [e1, e2] at this
    exact this
theorem SrtA.le {c : Nat → α} {a b i j : Nat} (h : SrtA k c a b) (h1 : a ≤ i) (h2 : i ≤ j) (h3 : j < b) : k (c i) ≤ k (c j) := by
  rcases Nat.lt_or_ge i j with h4 | h4
  · exact h i j h1 h4 h3
  · have : i = j := by omega
    subst this; exact Int.le_refl _
theorem SrtA.sub {c : Nat → α} {a b a' b' : Nat} (h : SrtA k c a b) (h1 : a ≤ a') (h2 : b' ≤ b) : SrtA k c a' b' := fun i j hi hij hj => h i j (by omega) hij (by omega)
variable [Inhabited α]
/-- sorted between two places, the rest as it was -/
def sortC (k : α → Int) (c : Nat → α) (a b : Nat) : Nat → α := fun t => if a ≤ t ∧ t < b then (sortS k (seg c a b)).getD (t - a) default else c t
theorem seg_sortC (c : Nat → α) (a b : Nat) : seg (sortC k c a b) a b = sortS k (seg c a b) := by
  refine List.ext_getElem? fun i => ?_
  rw [seg_get?]
  have hl : (sortS k (seg c a b)).length = b - a := by rw [length_sortS, seg_length]
  by_cases hi : i < b - a
  · rw [if_pos hi]
    unfold sortC
    rw [if_pos (by omega), show a + i - a = i by omega, List.getD_eq_getElem?_getD, List.getElem?_eq_getElem (by omega)]
    rfl
  · rw [if_neg hi, List.getElem?_eq_none (by omega)]
theorem sortC_out {c : Nat → α} {a b t : Nat} (h : t < a ∨ b ≤ t) : sortC k c a b t = c t := by
  unfold sortC
  rw [if_neg (by omega)]
theorem sortC_srt (c : Nat → α) (a b : Nat) : SrtA k (sortC k c a b) a b := by
  rw [srtA_iff, seg_sortC]; exact srt_sortS _
theorem sortC_steq (c : Nat → α) (a b : Nat) : StEq k (seg (sortC k c a b) a b) (seg c a b) := by
  rw [seg_sortC]; exact steq_sortS _
theorem sortC_mem {c : Nat → α} {a b t : Nat} (h1 : a ≤ t) (h2 : t < b) : ∃ u, a ≤ u ∧ u < b ∧ sortC k c a b t = c u := by
  have : sortC k c a b t ∈ seg (sortC k c a b) a b := mem_seg.2 ⟨t, h1, h2, rfl⟩
  obtain ⟨u, h3, h4, h5⟩ := mem_seg.1 ((sortC_steq c a b).mem this)
  exact ⟨u, h3, h4, h5⟩
theorem sortC_eq {c c' : Nat → α} {a b : Nat} (h1 : ∀ t, t < a ∨ b ≤ t → c' t = c t) (h2 : SrtA k c' a b) (h3 : StEq k (seg c' a b) (seg c a b)) : c' = sortC k c a b := by
  have h4 : seg c' a b = sortS k (seg c a b) := sortS_eq (srtA_iff.1 h2) h3
  funext t
  by_cases ht : a ≤ t ∧ t < b
  · have e1 : (seg c' a b)[t - a]? = some (c' t) := by rw [seg_get?, if_pos (by omega)]; congr 2; omega
    unfold sortC
    rw [if_pos ht, ← h4, List.getD_eq_getElem?_getD, e1]
    rfl
  · rw [sortC_out (by omega), h1 t (by omega)]
theorem sortC_id {c : Nat → α} {a b : Nat} (h : SrtA k c a b) : sortC k c a b = c := (sortC_eq (fun _ _ => rfl) h (StEq.refl _)).symm
/-- the first part goes behind the second one -/
def rotC (c : Nat → α) (a m b : Nat) : Nat → α := fun t => if a ≤ t ∧ t < a + (b - m) then c (t - a + m) else if a + (b - m) ≤ t ∧ t < b then c (t - (b - m)) else c t
def swapC (c : Nat → α) (a b n : Nat) : Nat → α := fun t => if a ≤ t ∧ t < a + n then c (t - a + b) else if b ≤ t ∧ t < b + n then c (t - b + a) else c t
theorem rot_step1 (c : Nat → α) {m i j : Nat} (h1 : j < i) (h2 : i ≤ m) : rotC (swapC c (m - i) m j) (m - (i - j)) m (m + j) = rotC c (m - i) m (m + j) := by
  funext t
  unfold rotC swapC
  repeat' split
  all_goals first | rfl | omega | (congr 1; omega)
theorem rot_step2 (c : Nat → α) {m i j : Nat} (h1 : i < j) (h2 : i ≤ m) : rotC (swapC c (m - i) (m + j - i) i) (m - i) m (m + (j - i)) = rotC c (m - i) m (m + j) := by
  funext t
  unfold rotC swapC
  repeat' split
  all_goals first | rfl | omega | (congr 1; omega)
theorem rot_end (c : Nat → α) {m i : Nat} (h2 : i ≤ m) : swapC c (m - i) m i = rotC c (m - i) m (m + i) := by
  funext t
  unfold rotC swapC
  repeat' split
  all_goals first | rfl | omega | (congr 1; omega)
theorem rot_none (c : Nat → α) {a m b : Nat} (h : a = m ∨ m = b) (h1 : a ≤ m) (h2 : m ≤ b) : rotC c a m b = c := by
  funext t
  unfold rotC
  repeat' split
  all_goals first | rfl | omega | (congr 1; omega)
/-- one element goes back to its place -/
def insC (s : Nat → α) (x : α) (j i : Nat) : Nat → α := fun t => if t = j then x else if j < t ∧ t ≤ i then s (t - 1) else s t
theorem ins_done {c : Nat → α} {a i j : Nat} (haj : a ≤ j) (hji : j ≤ i) (h1 : ∀ t, j ≤ t → t < i → k (c i) < k (sortC k c a i t)) (h2 : a < j → k (sortC k c a i (j - 1)) ≤ k (c i)) : insC (sortC k c a i) (c i) j i = sortC k c a (i + 1) := by
  refine sortC_eq (fun t ht => ?_) (fun p q hp hpq hq => ?_) ?_
  · unfold insC
    rw [if_neg (by omega), if_neg (by omega), sortC_out (by omega)]
  · have hs := sortC_srt (k := k) c a i
    unfold insC
    by_cases e1 : p = j
    · rw [if_pos e1]
      rw [if_neg (by omega), if_pos (by omega)]
      exact Int.le_of_lt (h1 _ (by omega) (by omega))
    · rw [if_neg e1]
      by_cases e2 : j < p ∧ p ≤ i
      · rw [if_pos e2, if_neg (by omega), if_pos (by omega)]
        exact hs _ _ (by omega) (by omega) (by omega)
      · rw [if_neg e2]
        by_cases e3 : q = j
        · rw [if_pos e3]
          exact Int.le_trans (hs.le (j := j - 1) hp (by omega) (by omega)) (h2 (by omega))
        · rw [if_neg e3]
          by_cases e4 : j < q ∧ q ≤ i
          · rw [if_pos e4]
            exact hs.le (by omega) (by omega) (by omega)
          · rw [if_neg e4]
            exact hs _ _ (by omega) (by omega) (by omega)
  · have e1 : seg (insC (sortC k c a i) (c i) j i) a (i + 1) = seg (sortC k c a i) a j ++ ([c i] ++ seg (sortC k c a i) j i) := by
      rw [seg_split _ haj (show j ≤ i + 1 by omega), seg_split _ (show j ≤ j + 1 by omega) (show j + 1 ≤ i + 1 by omega)]
      congr 1
      · refine seg_congr fun t h1 h2 => ?_
        unfold insC
        rw [if_neg (by omega), if_neg (by omega)]
      · congr 1
        · rw [seg_one]; unfold insC; rw [if_pos rfl]
        · refine seg_shift (by omega) fun t ht => ?_
          unfold insC
          rw [if_neg (by omega), if_pos (by omega)]
          congr 1
          omega
    have e2 : seg c a (i + 1) = seg c a i ++ [c i] := by rw [seg_split c (show a ≤ i by omega) (show i ≤ i + 1 by omega), seg_one]
    rw [e1, e2]
    refine StEq.trans ?_ (StEq.append (sortC_steq c a i) (StEq.refl _))
    rw [seg_split (sortC k c a i) haj hji, List.append_assoc]
    refine StEq.append (StEq.refl _) (StEq.swap fun x hx y hy => ?_)
    rw [List.mem_singleton.1 hx]
    obtain ⟨t, t1, t2, rfl⟩ := mem_seg.1 hy
    have := h1 t t1 t2
    omega
/-- the whole as a list -/
theorem sortC_list {l : List α} {t : Nat} (h : t < l.length) : sortC k (fun i => l.getD i default) 0 l.length t = (sortS k l).getD t default := by
  have : seg (fun i => l.getD i default) 0 l.length = l := by
    refine List.ext_getElem? fun i => ?_
    rw [seg_get?]
    by_cases hi : i < l.length - 0
    · rw [if_pos hi, List.getElem?_eq_getElem (by omega), Nat.zero_add, List.getD_eq_getElem?_getD, List.getElem?_eq_getElem (by omega)]
      rfl
    · rw [if_neg hi, List.getElem?_eq_none (by omega)]
  unfold sortC
  rw [if_pos ⟨Nat.zero_le _, h⟩, this, Nat.sub_zero]
end
end Go.Pu
end
/- part PuSym -/
section
namespace Go.Pu
section
variable {α : Type} {k : α → Int} [Inhabited α]
/-- one element goes on to its place -/
def shL (c : Nat → α) (a p : Nat) : Nat → α := fun t => if t = p then c a else if a ≤ t ∧ t < p then c (t + 1) else c t
theorem shL_zero (c : Nat → α) (a : Nat) : shL c a a = c := by
  funext t
  unfold shL
  split
  · subst_vars; rfl
  · rw [if_neg (by omega)]
theorem insC_zero (c : Nat → α) (m : Nat) : insC c (c m) m m = c := by
  funext t
  unfold insC
  split
  · subst_vars; rfl
  · rw [if_neg (by omega)]
theorem sh_done {c : Nat → α} {a i b : Nat} (hai : a < i) (hib : i ≤ b) (hs : SrtA k c (a + 1) b) (h1 : ∀ t, a + 1 ≤ t → t < i → k (c t) < k (c a)) (h2 : i < b → k (c a) ≤ k (c i)) : shL c a (i - 1) = sortC k c a b := by
  refine sortC_eq (fun t ht => ?_) (fun p q hp hpq hq => ?_) ?_
  · unfold shL
    rw [if_neg (by omega), if_neg (by omega)]
  · unfold shL
    by_cases e1 : p = i - 1
    · rw [if_pos e1, if_neg (by omega), if_neg (by omega)]
      exact Int.le_trans (h2 (by omega)) (hs.le (by omega) (by omega) hq)
    · rw [if_neg e1]
      by_cases e2 : a ≤ p ∧ p < i - 1
      · rw [if_pos e2]
        by_cases e3 : q = i - 1
        · rw [if_pos e3]
          exact Int.le_of_lt (h1 _ (by omega) (by omega))
        · rw [if_neg e3]
          by_cases e4 : a ≤ q ∧ q < i - 1
          · rw [if_pos e4]; exact hs.le (by omega) (by omega) (by omega)
          · rw [if_neg e4]; exact hs.le (by omega) (by omega) (by omega)
      · rw [if_neg e2, if_neg (by omega), if_neg (by omega)]
        exact hs.le (by omega) (by omega) hq
  · have e1 : seg (shL c a (i - 1)) a b = (seg c (a + 1) i ++ [c a]) ++ seg c i b := by
      rw [seg_split _ (show a ≤ i by omega) hib, seg_split _ (show a ≤ i - 1 by omega) (show i - 1 ≤ i by omega)]
      congr 1
      · congr 1
        · refine seg_shift (by omega) fun t ht => ?_
          unfold shL
          rw [if_neg (by omega), if_pos (by omega)]
          congr 1; omega
        · have : seg (shL c a (i - 1)) (i - 1) i = seg (shL c a (i - 1)) (i - 1) (i - 1 + 1) := by congr 1; omega
          rw [this, seg_one]
          unfold shL
          rw [if_pos rfl]
      · refine seg_congr fun t h1 h2 => ?_
        unfold shL
        rw [if_neg (by omega), if_neg (by omega)]
    have e2 : seg c a b = ([c a] ++ seg c (a + 1) i) ++ seg c i b := by
      rw [seg_split c (show a ≤ i by omega) hib, seg_split c (show a ≤ a + 1 by omega) (show a + 1 ≤ i by omega), seg_one]
    rw [e1, e2]
    refine StEq.append (StEq.swap fun x hx y hy => ?_) (StEq.refl _)
    rw [List.mem_singleton.1 hy]
    obtain ⟨t, t1, t2, rfl⟩ := mem_seg.1 hx
    have := h1 t t1 t2
    omega
theorem ins_done' {c : Nat → α} {a i m : Nat} (hai : a ≤ i) (him : i ≤ m) (hs : SrtA k c a m) (h1 : ∀ t, i ≤ t → t < m → k (c m) < k (c t)) (h2 : a < i → k (c (i - 1)) ≤ k (c m)) : insC c (c m) i m = sortC k c a (m + 1) := by
  have := ins_done (k := k) (c := c) (a := a) (i := m) (j := i) hai him (by rw [sortC_id hs]; exact h1) (by rw [sortC_id hs]; exact h2)
  rwa [sortC_id hs] at this
/-- the parts of a merge -/
structure Parts (k : α → Int) (c : Nat → α) (a m b st en mid : Nat) : Prop where
  h1 : a ≤ st
  h2 : st ≤ m
  h3 : m ≤ en
  h4 : en ≤ b
  h5 : st + (en - m) = mid
  hs1 : SrtA k c a m
  hs2 : SrtA k c m b
  mb : st < m → m < en → k (c (en - 1)) < k (c st)
  ae : a < st → en < b → k (c (st - 1)) ≤ k (c en)
theorem rot_seg1 {c : Nat → α} {a m b t : Nat} (h : t < a ∨ b ≤ t) (h1 : a ≤ m) (h2 : m ≤ b) : rotC c a m b t = c t := by
  unfold rotC
  rw [if_neg (by omega), if_neg (by omega)]
namespace Parts
variable {c : Nat → α} {a m b st en mid : Nat} (h : Parts k c a m b st en mid)
include h
theorem p1 : SrtA k (rotC c st m en) a st := fun i j hi hij hj => by
  have := h.h2; have := h.h3
  rw [rot_seg1 (by omega) h.h2 h.h3, rot_seg1 (by omega) h.h2 h.h3]
  exact h.hs1 _ _ hi hij (by omega)
theorem p2 : SrtA k (rotC c st m en) st mid := fun i j hi hij hj => by
  have := h.h2; have := h.h3; have := h.h4; have := h.h5
  unfold rotC
  rw [if_pos (by omega), if_pos (by omega)]
  exact h.hs2 _ _ (by omega) (by omega) (by omega)
theorem p3 : SrtA k (rotC c st m en) mid en := fun i j hi hij hj => by
  have := h.h1; have := h.h2; have := h.h3; have := h.h4; have := h.h5
  unfold rotC
  rw [if_neg (by omega), if_pos (by omega), if_neg (by omega), if_pos (by omega)]
  exact h.hs1 _ _ (by omega) (by omega) (by omega)
theorem p4 : SrtA k (rotC c st m en) en b := fun i j hi hij hj => by
  have := h.h2; have := h.h3
  rw [rot_seg1 (by omega) h.h2 h.h3, rot_seg1 (by omega) h.h2 h.h3]
  exact h.hs2 _ _ (by omega) hij hj
theorem q3 : SrtA k (sortC k (rotC c st m en) a mid) mid en := fun i j hi hij hj => by
  rw [sortC_out (by omega), sortC_out (by omega)]
  exact h.p3 i j hi hij hj
theorem q4 : SrtA k (sortC k (rotC c st m en) a mid) en b := fun i j hi hij hj => by
  have := h.h2; have := h.h3; have := h.h5
  rw [sortC_out (by omega), sortC_out (by omega)]
  exact h.p4 i j hi hij hj
theorem done : sortC k (sortC k (rotC c st m en) a mid) mid b = sortC k c a b := by
  have l1 := h.h1; have l2 := h.h2; have l3 := h.h3; have l4 := h.h4; have l5 := h.h5
  obtain ⟨c1, hc1⟩ : ∃ c1, c1 = rotC c st m en := ⟨_, rfl⟩
  obtain ⟨c2, hc2⟩ : ∃ c2, c2 = sortC k c1 a mid := ⟨_, rfl⟩
  rw [← hc1, ← hc2]
  -- the two parts hold what they held
  have lo : ∀ t, a ≤ t → t < mid → ∃ u, c1 t = c u ∧ ((a ≤ u ∧ u < st) ∨ (m ≤ u ∧ u < en)) := by
    intro t t1 t2
    rw [hc1]
    unfold rotC
    by_cases ht : t < st
    · refine ⟨t, ?_, .inl ⟨t1, ht⟩⟩
      rw [if_neg (by omega), if_neg (by omega)]
    · refine ⟨t - st + m, ?_, .inr ⟨by omega, by omega⟩⟩
      rw [if_pos (by omega)]
  have hi : ∀ t, mid ≤ t → t < b → ∃ u, c1 t = c u ∧ ((st ≤ u ∧ u < m) ∨ (en ≤ u ∧ u < b)) := by
    intro t t1 t2
    rw [hc1]
    unfold rotC
    by_cases ht : t < en
    · refine ⟨t - (en - m), ?_, .inl ⟨by omega, by omega⟩⟩
      rw [if_neg (by omega), if_pos (by omega)]
    · refine ⟨t, ?_, .inr ⟨by omega, t2⟩⟩
      rw [if_neg (by omega), if_neg (by omega)]
  have cross : ∀ i j, a ≤ i → i < mid → mid ≤ j → j < b → k (c1 i) ≤ k (c1 j) := by
    intro i j i1 i2 j1 j2
    obtain ⟨u, e1, hu⟩ := lo i i1 i2
    obtain ⟨v, e2, hv⟩ := hi j j1 j2
    rw [e1, e2]
    rcases hu with ⟨u1, u2⟩ | ⟨u1, u2⟩ <;> rcases hv with ⟨v1, v2⟩ | ⟨v1, v2⟩
    · exact h.hs1.le u1 (by omega) v2
    · have q1 := h.hs1.le (j := st - 1) u1 (by omega) (by omega)
      have q2 := h.ae (by omega) (by omega)
      have q3 := h.hs2.le (i := en) (j := v) (by omega) v1 v2
      omega
    · have q1 := h.hs2.le (j := en - 1) u1 (by omega) (by omega)
      have q2 := h.mb (by omega) (by omega)
      have q3 := h.hs1.le (i := st) (j := v) (by omega) v1 v2
      omega
    · exact h.hs2.le u1 (by omega) v2
  have o2 : ∀ t, mid ≤ t → c2 t = c1 t := fun t ht => by rw [hc2, sortC_out (by omega)]
  refine sortC_eq (fun t ht => ?_) (fun p q hp hpq hq => ?_) ?_
  · rw [sortC_out (by omega), hc2, sortC_out (by omega), hc1, rot_seg1 (by omega) l2 l3]
  · by_cases e1 : q < mid
    · rw [sortC_out (by omega), sortC_out (by omega), hc2]
      exact sortC_srt c1 a mid _ _ hp hpq e1
    · by_cases e2 : p < mid
      · rw [sortC_out (by omega)]
        obtain ⟨u, u1, u2, e3⟩ := sortC_mem (k := k) (c := c1) (a := a) (b := mid) hp e2
        obtain ⟨v, v1, v2, e4⟩ := sortC_mem (k := k) (c := c2) (a := mid) (b := b) (t := q) (by omega) hq
        rw [e4, hc2, e3, ← hc2, o2 v v1]
        exact cross u v u1 u2 v1 v2
      · exact sortC_srt c2 mid b _ _ (by omega) hpq hq
  · rw [seg_split _ (show a ≤ mid by omega) (show mid ≤ b by omega)]
    have s1 : seg (sortC k c2 mid b) a mid = seg c2 a mid := seg_congr fun t t1 t2 => sortC_out (by omega)
    have s2 : StEq k (seg c2 a mid) (seg c1 a mid) := by rw [hc2]; exact sortC_steq c1 a mid
    have s3 : StEq k (seg (sortC k c2 mid b) mid b) (seg c1 mid b) := by
      have : seg c2 mid b = seg c1 mid b := seg_congr fun t t1 t2 => o2 t t1
      rw [← this]; exact sortC_steq c2 mid b
    rw [s1]
    refine (StEq.append s2 s3).trans ?_
    -- the rotation
    have r1 : seg c1 a mid = seg c a st ++ seg c m en := by
      rw [seg_split c1 l1 (show st ≤ mid by omega)]
      congr 1
      · exact seg_congr fun t t1 t2 => by rw [hc1, rot_seg1 (by omega) l2 l3]
      · refine seg_shift (by omega) fun t ht => ?_
        rw [hc1]; unfold rotC
        rw [if_pos (by omega)]
        congr 1; omega
    have r2 : seg c1 mid b = seg c st m ++ seg c en b := by
      rw [seg_split c1 (show mid ≤ en by omega) l4]
      congr 1
      · refine seg_shift (by omega) fun t ht => ?_
        rw [hc1]; unfold rotC
        rw [if_neg (by omega), if_pos (by omega)]
        congr 1; omega
      · exact seg_congr fun t t1 t2 => by rw [hc1, rot_seg1 (by omega) l2 l3]
    have r3 : seg c a b = seg c a st ++ ((seg c st m ++ seg c m en) ++ seg c en b) := by
      rw [seg_split c l1 (show st ≤ b by omega), seg_split c (show st ≤ en by omega) l4, seg_split c l2 l3]
    rw [r1, r2, r3, List.append_assoc]
    refine StEq.append (StEq.refl _) ?_
    rw [← List.append_assoc]
    refine StEq.append (StEq.swap fun x hx y hy => ?_) (StEq.refl _)
    obtain ⟨u, u1, u2, rfl⟩ := mem_seg.1 hx
    obtain ⟨v, v1, v2, rfl⟩ := mem_seg.1 hy
    have q1 := h.hs2.le (j := en - 1) u1 (by omega) (by omega)
    have q2 := h.mb (by omega) (by omega)
    have q3 := h.hs1.le (i := st) (j := v) (by omega) v1 v2
    omega
end Parts
/-- blocks that are sorted: the next block -/
theorem sort_next {c d : Nat → α} {a b : Nat} (h : sortC k c a b = d) : SrtA k d a b := by rw [← h]; exact sortC_srt c a b
end
end Go.Pu
namespace Go.Pu
theorem swapC_succ {α : Type} (c : Nat → α) {a b i : Nat} (h : a + i < b) (t : Nat) : swapC c a b (i + 1) t = if t = b + i then swapC c a b i (a + i) else if t = a + i then swapC c a b i (b + i) else swapC c a b i t := by
  unfold swapC
  by_cases h1 : t = b + i
  · subst h1
    rw [if_pos rfl]
    repeat' split
    all_goals first | rfl | omega | (congr 1; omega)
  · rw [if_neg h1]
    by_cases h2 : t = a + i
    · subst h2
      rw [if_pos rfl]
      repeat' split
      all_goals first | rfl | omega | (congr 1; omega)
    · rw [if_neg h2]
      repeat' split
      all_goals first | rfl | omega | (congr 1; omega)
theorem swapC_zero {α : Type} (c : Nat → α) (a b : Nat) : swapC c a b 0 = c := by
  funext t
  unfold swapC
  rw [if_neg (by omega), if_neg (by omega)]
end Go.Pu
namespace Go.Pu
section
variable {α : Type}
theorem insC_at (s : Nat → α) (x : α) (j i : Nat) : insC s x j i j = x := by unfold insC; rw [if_pos rfl]
theorem insC_lo (s : Nat → α) (x : α) {j i t : Nat} (h : t < j) : insC s x j i t = s t := by unfold insC; rw [if_neg (by omega), if_neg (by omega)]
theorem insC_start (s : Nat → α) {i : Nat} {x : α} (h : s i = x) : insC s x i i = s := by
  funext t
  unfold insC
  split
  · subst_vars; rfl
  · rw [if_neg (by omega)]
theorem insC_prev (s : Nat → α) (x : α) {j i : Nat} (h1 : 0 < j) (h2 : j ≤ i) (t : Nat) : insC s x (j - 1) i t = if t = j - 1 then x else if t = j then s (j - 1) else insC s x j i t := by
  unfold insC
  by_cases e1 : t = j - 1
  · rw [if_pos e1, if_pos e1]
  · rw [if_neg e1, if_neg e1]
    by_cases e2 : t = j
    · subst e2
      rw [if_pos ⟨by omega, h2⟩, if_pos rfl]
    · rw [if_neg e2, if_neg e2]
      by_cases e3 : j < t ∧ t ≤ i
      · rw [if_pos e3, if_pos ⟨by omega, e3.2⟩]
      · rw [if_neg e3, if_neg (by omega)]
theorem shL_next (c : Nat → α) {a p : Nat} (h : a ≤ p) (t : Nat) : shL c a (p + 1) t = if t = p + 1 then c a else if t = p then c (p + 1) else shL c a p t := by
  unfold shL
  by_cases e1 : t = p + 1
  · rw [if_pos e1, if_pos e1]
  · rw [if_neg e1, if_neg e1]
    by_cases e2 : t = p
    · subst e2
      rw [if_pos ⟨h, by omega⟩, if_pos rfl]
    · rw [if_neg e2, if_neg e2]
      by_cases e3 : a ≤ t ∧ t < p
      · rw [if_pos e3, if_pos ⟨e3.1, by omega⟩]
      · rw [if_neg e3, if_neg (by omega)]
theorem shL_at (c : Nat → α) (a p : Nat) : shL c a p p = c a := by unfold shL; rw [if_pos rfl]
theorem shL_hi (c : Nat → α) {a p t : Nat} (h : p < t) : shL c a p t = c t := by unfold shL; rw [if_neg (by omega), if_neg (by omega)]
end
end Go.Pu
end
/- part PuStab -/
section
namespace Go.Pu
section
variable {α : Type} {k : α → Int} [Inhabited α]
theorem dvd_gap {B s a : Nat} (h1 : B ∣ s) (h2 : B ∣ a) (h : s < a) : s + B ≤ a := by
  obtain ⟨x, rfl⟩ := h1
  obtain ⟨y, rfl⟩ := h2
  have hxy : x < y := Nat.lt_of_mul_lt_mul_left h
  calc B * x + B = B * (x + 1) := by rw [Nat.mul_add, Nat.mul_one]
    _ ≤ B * y := Nat.mul_le_mul_left B hxy
/-- each block is sorted -/
def BS (k : α → Int) (d : Nat → α) (B lim : Nat) : Prop := ∀ s p q, B ∣ s → s ≤ p → p < q → q < s + B → q < lim → k (d p) ≤ k (d q)
theorem BS.next {d : Nat → α} {B a : Nat} (h : BS k d B a) (ha : B ∣ a) (b : Nat) : BS k (sortC k d a b) B b := by
  intro s p q hs hp hpq hq hl
  by_cases hqa : q < a
  · rw [sortC_out (by omega), sortC_out (by omega)]
    exact h s p q hs hp hpq hq hqa
  · have has : a ≤ s := by
      by_cases hh : a ≤ s
      · exact hh
      · have := dvd_gap hs ha (by omega); omega
    exact sortC_srt d a b p q (by omega) hpq hl
theorem BS.sort {d : Nat → α} {B lim a b : Nat} (h : BS k d B lim) (ha : B ∣ a) (hb : B ∣ b ∨ lim ≤ b) : BS k (sortC k d a b) B lim := by
  intro s p q hs hp hpq hq hl
  by_cases hqa : q < a
  · rw [sortC_out (by omega), sortC_out (by omega)]
    exact h s p q hs hp hpq hq hl
  · by_cases hpb : b ≤ p
    · rw [sortC_out (by omega), sortC_out (by omega)]
      exact h s p q hs hp hpq hq hl
    · have has : a ≤ s := by
        by_cases hh : a ≤ s
        · exact hh
        · have := dvd_gap hs ha (by omega); omega
      have hqb : q < b := by
        rcases hb with hb | hb
        · have := dvd_gap hs hb (by omega); omega
        · omega
      exact sortC_srt d a b p q (by omega) hpq hqb
theorem BS.zero (d : Nat → α) (B : Nat) : BS k d B 0 := fun s p q _ _ _ _ h => by omega
theorem BS.srt {d : Nat → α} {B lim s e : Nat} (h : BS k d B lim) (hs : B ∣ s) (he : e ≤ s + B) (hl : e ≤ lim) : SrtA k d s e := fun p q hp hpq hq => h s p q hs hp hpq (by omega) (by omega)
/-- the last block, which is small -/
theorem BS.last {d : Nat → α} {B a n : Nat} (h : BS k d (2 * B) a) (h' : BS k d B n) (ha : 2 * B ∣ a) (hn : n ≤ a + B) : BS k d (2 * B) n := by
  intro s p q hs hp hpq hq hl
  by_cases hqa : q < a
  · exact h s p q hs hp hpq hq hqa
  · have has : a ≤ s := by
      by_cases hh : a ≤ s
      · exact hh
      · have := dvd_gap hs ha (by omega); omega
    exact h' a p q (Nat.dvd_trans ⟨2, by omega⟩ ha) (by omega) hpq (by omega) hl
/-- the same elements, in an order that keeps those of one key -/
structure Same (k : α → Int) (c d : Nat → α) (n : Nat) : Prop where
  out : ∀ t, n ≤ t → d t = c t
  eq : StEq k (seg d 0 n) (seg c 0 n)
theorem Same.refl (c : Nat → α) (n : Nat) : Same k c c n := ⟨fun _ _ => rfl, StEq.refl _⟩
theorem Same.sort {c d : Nat → α} {n a b : Nat} (h : Same k c d n) (hab : a ≤ b) (hb : b ≤ n) : Same k c (sortC k d a b) n := by
  refine ⟨fun t ht => by rw [sortC_out (by omega)]; exact h.out t ht, StEq.trans ?_ h.eq⟩
  rw [seg_split _ (show 0 ≤ a by omega) (show a ≤ n by omega), seg_split _ hab hb, seg_split d (show 0 ≤ a by omega) (show a ≤ n by omega), seg_split d hab hb]
  refine StEq.append ?_ (StEq.append (sortC_steq d a b) ?_)
  · rw [seg_congr fun t h1 h2 => sortC_out (k := k) (c := d) (a := a) (b := b) (by omega)]; exact StEq.refl _
  · rw [seg_congr fun t h1 h2 => sortC_out (k := k) (c := d) (a := a) (b := b) (by omega)]; exact StEq.refl _
theorem Same.done {c d : Nat → α} {n B : Nat} (h : Same k c d n) (hb : BS k d B n) (hn : n ≤ B) : d = sortC k c 0 n :=
  sortC_eq (fun t ht => h.out t (by omega)) (hb.srt ⟨0, rfl⟩ (by omega) (Nat.le_refl _)) h.eq
end
end Go.Pu
end
/- part PuLaw -/
section
namespace Go.Pu
/- what is in a book -/
def partB (l : List En) (e : Ev) : Prop := ∃ y ∈ l, e ∈ evsEn y
def Keys (l : List En) : Prop := l.Pairwise fun a b => a.key ≠ b.key
theorem evsEn_key {y : En} {e : Ev} (h : e ∈ evsEn y) : e.key = y.key := by
  simp only [evsEn, List.mem_cons, List.mem_append, List.mem_map, List.mem_flatMap] at h
  rcases h with rfl | ⟨g, _, rfl⟩ | ⟨a, _, h⟩
  · rfl
  · rfl
  · unfold evsAp at h
    split at h <;> simp only [List.mem_cons, List.not_mem_nil, or_false] at h
    · rcases h with rfl | rfl <;> rfl
    · rw [h]; rfl
theorem findK_some {l : List En} {k : K} {i : Nat} (h : findK l k = some i) : i < l.length ∧ (l.getD i default).key = k ∧ ∀ j, j < i → (l.getD j default).key ≠ k := by
  unfold findK at h
  rw [List.findIdx?_eq_some_iff_getElem] at h
  obtain ⟨h1, h2, h3⟩ := h
  refine ⟨h1, ?_, fun j hj => ?_⟩
  · simp only [List.getD_eq_getElem?_getD, List.getElem?_eq_getElem h1, Option.getD_some]; simpa using h2
  · have hj' : j < l.length := by omega
    simp only [List.getD_eq_getElem?_getD, List.getElem?_eq_getElem hj', Option.getD_some]
    simpa using h3 j hj
theorem findK_none {l : List En} {k : K} (h : findK l k = none) : ∀ y ∈ l, y.key ≠ k := by
  unfold findK at h
  rw [List.findIdx?_eq_none_iff] at h
  intro y hy
  simpa using h y hy
theorem findK_isSome {l : List En} {k : K} : (∃ i, findK l k = some i) ↔ ∃ y ∈ l, y.key = k := by
  constructor
  · rintro ⟨i, hi⟩
    obtain ⟨h1, h2, _⟩ := findK_some hi
    refine ⟨_, ?_, h2⟩
    simp only [List.getD_eq_getElem?_getD, List.getElem?_eq_getElem h1, Option.getD_some]
    exact List.getElem_mem h1
  · rintro ⟨y, hy, hk⟩
    cases h : findK l k with
    | none => exact absurd hk (findK_none h y hy)
    | some i => exact ⟨i, rfl⟩
theorem getD_mem {α : Type} [Inhabited α] {l : List α} {i : Nat} (h : i < l.length) : l.getD i default ∈ l := by
  simp only [List.getD_eq_getElem?_getD, List.getElem?_eq_getElem h, Option.getD_some]
  exact List.getElem_mem h
theorem hasB_part {l : List En} {e : Ev} (h : hasB l e = true) : partB l e := by
  unfold hasB at h
  split at h
  · rename_i i hi
    exact ⟨_, getD_mem (findK_some hi).1, by simpa using h⟩
  · cases h
theorem keys_get {l : List En} (h : Keys l) {i j : Nat} (hi : i < l.length) (hj : j < l.length) (e : (l.getD i default).key = (l.getD j default).key) : i = j := by
  have key : ∀ i j, i < l.length → j < l.length → i < j → (l.getD i default).key ≠ (l.getD j default).key := by
    intro i j hi hj hij
    have := (List.pairwise_iff_getElem.1 h) i j hi hj hij
    simp only [List.getD_eq_getElem?_getD, List.getElem?_eq_getElem hi, List.getElem?_eq_getElem hj, Option.getD_some]
    exact this
  rcases Nat.lt_trichotomy i j with h1 | h1 | h1
  · exact absurd e (key i j hi hj h1)
  · exact h1
  · exact absurd e.symm (key j i hj hi h1)
theorem part_hasB {l : List En} (hk : Keys l) {e : Ev} (h : partB l e) : hasB l e = true := by
  obtain ⟨y, hy, he⟩ := h
  obtain ⟨i, hi⟩ := (findK_isSome (k := e.key)).2 ⟨y, hy, (evsEn_key he).symm⟩
  obtain ⟨h1, h2, _⟩ := findK_some hi
  obtain ⟨j, hj, rfl⟩ := List.getElem_of_mem hy
  have hj' : l[j] = l.getD j default := by simp [List.getD_eq_getElem?_getD, hj]
  have : i = j := keys_get hk h1 hj (by rw [h2, ← hj']; exact evsEn_key he)
  subst this
  unfold hasB
  rw [hi]
  simp only [← hj']
  simpa using he
end Go.Pu
end
/- part PuStep -/
section
namespace Go.Pu
def stepB (b : Bk) (e : Ev) : Option Bk := if validEv e && (applyB b e).1 == 0 then some (applyB b e).2 else none
theorem replay_nil (b : Bk) : replay [] b = some b := rfl
theorem replay_cons (e : Ev) (l : List Ev) (b : Bk) : replay (e :: l) b = (stepB b e).bind (replay l) := by
  simp only [replay, stepB]
  split <;> rfl
theorem replay_append : ∀ (l m : List Ev) (b : Bk), replay (l ++ m) b = (replay l b).bind (replay m)
  | [], _, _ => rfl
  | e :: l, m, b => by
    rw [List.cons_append, replay_cons, replay_cons]
    cases stepB b e with
    | none => rfl
    | some c => exact replay_append l m c
/-- a step, laid open -/
inductive StepR (b : Bk) (e : Ev) (c : Bk) : Prop where
  | sub (k0 : e.kind = 0) (h1 : e.key.att = countK b.ens e.key + 1) (h2 : b.ens.length < 256) (hc : c = ⟨e.tick, b.ens ++ [⟨e.key, e.tick, e.text, [], []⟩]⟩)
  | upd (k0 : e.kind ≠ 0) (i : Nat) (y : En) (hi : findK b.ens e.key = some i) (hs : stepE e (b.ens.getD i default) = (0, y)) (hc : c = ⟨e.tick, b.ens.set i y⟩)
theorem applyB_iff {b : Bk} {e : Ev} {c : Bk} : applyB b e = (0, c) ↔ hasB b.ens e = false ∧ b.tick ≤ e.tick ∧ StepR b e c := by
  unfold applyB
  constructor
  · intro h
    split at h
    · cases h
    · rename_i h1
      split at h
      · cases h
      · rename_i h2
        refine ⟨by simpa using h1, by omega, ?_⟩
        split at h
        · rename_i h3
          split at h
          · cases h
          · rename_i h4
            split at h
            · cases h
            · rename_i h5
              cases h
              exact .sub h3 (by simpa using h4) (by omega) rfl
        · rename_i h3
          split at h
          · cases h
          · rename_i i hi
            split at h
            · rename_i h4
              injection h with _ h5
              exact .upd h3 i _ hi (Prod.ext h4 rfl) h5.symm
            · rename_i h4
              injection h with h5 _
              exact absurd h5 h4
  · rintro ⟨h1, h2, h3⟩
    rw [if_neg (by simp [h1]), if_neg (by omega)]
    cases h3 with
    | sub k0 a1 a2 hc => rw [if_pos k0, if_neg (by simp [a1]), if_neg (by omega), hc]
    | upd k0 i y hi hs hc =>
      rw [if_neg k0, hi]
      simp only [hs, if_true, hc]
theorem stepB_iff {b : Bk} {e : Ev} {c : Bk} : stepB b e = some c ↔ validEv e = true ∧ hasB b.ens e = false ∧ b.tick ≤ e.tick ∧ StepR b e c := by
  unfold stepB
  have : (∃ n c', applyB b e = (n, c')) := ⟨_, _, rfl⟩
  obtain ⟨n, c', hh⟩ := this
  rw [hh]
  constructor
  · intro h
    split at h
    · rename_i h1
      simp only [Bool.and_eq_true, beq_iff_eq] at h1
      cases h
      obtain ⟨h1, rfl⟩ := h1
      exact ⟨h1, applyB_iff.1 hh⟩
    · cases h
  · rintro ⟨h1, h2⟩
    have := applyB_iff.2 h2
    rw [hh] at this
    cases this
    rw [if_pos (by simp [h1])]
theorem StepR.tick {b : Bk} {e : Ev} {c : Bk} (h : StepR b e c) : c.tick = e.tick := by cases h <;> (subst_vars; rfl)
end Go.Pu
end
/- part PuEvs -/
section
namespace Go.Pu
theorem validEv_kind {e : Ev} (h : validEv e = true) : 0 ≤ e.kind ∧ e.kind ≤ 3 := by
  simp only [validEv, Bool.and_eq_true, decide_eq_true_eq] at h
  exact ⟨h.1.1.1.1.1.1, h.1.1.1.1.1.2⟩
theorem validEv_tick {e : Ev} (h : validEv e = true) : 0 ≤ e.tick ∧ e.tick ≤ 1099511627776 := by
  simp only [validEv, Bool.and_eq_true, decide_eq_true_eq] at h
  exact ⟨h.1.1.1.2, h.1.1.2⟩
theorem validEv_key {e : Ev} (h : validEv e = true) : keyB e.key = true := by
  simp only [validEv, Bool.and_eq_true] at h
  exact h.1.1.1.1.2
theorem validEv_grade {e : Ev} (h : validEv e = true) (hk : e.kind = 1) : e.acc = false ∧ 1 ≤ e.ver := by
  simp only [validEv, Bool.and_eq_true, if_pos hk, decide_eq_true_eq, Bool.not_eq_true'] at h
  exact ⟨h.2.2, h.2.1.1.1.1⟩
theorem validEv_else {e : Ev} (h : validEv e = true) (hk : e.kind ≠ 1) : e.ver = 0 ∧ e.hun = 0 ∧ (e.kind ≠ 3 → e.acc = false) := by
  simp only [validEv, Bool.and_eq_true, if_neg hk, decide_eq_true_eq, Bool.or_eq_true, Bool.not_eq_true'] at h
  refine ⟨h.2.1.1, h.2.1.2, fun h3 => ?_⟩
  rcases h.2.2 with h4 | h4
  · exact h4
  · exact absurd h4 h3
theorem evsRaw_app (l m : List En) : evsRaw (l ++ m) = evsRaw l ++ evsRaw m := by simp [evsRaw]
theorem evsRaw_cons (y : En) (l : List En) : evsRaw (y :: l) = evsEn y ++ evsRaw l := by simp [evsRaw]
theorem split_at {α : Type} [Inhabited α] {l : List α} {i : Nat} (h : i < l.length) : l = l.take i ++ l.getD i default :: l.drop (i + 1) := by
  have h1 := List.take_append_drop i l
  rw [List.drop_eq_getElem_cons h] at h1
  rw [show l.getD i default = l[i] by simp [List.getD_eq_getElem?_getD, h]]
  exact h1.symm
theorem set_at {α : Type} {l : List α} {i : Nat} (h : i < l.length) (y : α) : l.set i y = l.take i ++ y :: l.drop (i + 1) := by
  rw [List.set_eq_take_append_cons_drop, if_pos h]
theorem last_split {α : Type} [Inhabited α] {l : List α} (h : l ≠ []) : l = l.take (l.length - 1) ++ [l.getD (l.length - 1) default] := by
  have h0 : 0 < l.length := List.length_pos_iff.2 h
  have := split_at (l := l) (i := l.length - 1) (by omega)
  rw [show l.length - 1 + 1 = l.length by omega, List.drop_length] at this
  exact this
theorem lastP_some {α : Type} [Inhabited α] {l : List α} {p : α → Bool} (h : lastP l p = true) : l ≠ [] ∧ p (l.getD (l.length - 1) default) = true := by
  unfold lastP at h
  cases hl : l.getLast? with
  | none => rw [hl] at h; cases h
  | some a =>
    rw [hl] at h
    have hne : l ≠ [] := by rintro rfl; simp at hl
    refine ⟨hne, ?_⟩
    rw [List.getLast?_eq_getElem?] at hl
    rw [List.getD_eq_getElem?_getD, hl]
    exact h
theorem lastP_app {α : Type} (l : List α) (a : α) (p : α → Bool) : lastP (l ++ [a]) p = p a := by
  unfold lastP
  rw [List.getLast?_append]
  rfl
/-- what a step does to an attempt's events -/
theorem stepE_ins {e : Ev} {x y : En} (hv : validEv e = true) (k0 : e.kind ≠ 0) (hx : x.key = e.key) (h : stepE e x = (0, y)) :
    y.key = x.key ∧ y.tick = x.tick ∧ y.text = x.text ∧ ∃ L R, evsEn x = L ++ R ∧ evsEn y = L ++ e :: R ∧ L ≠ [] := by
  obtain ⟨kind, key, tick, ver, hun, text, acc⟩ := e
  have hk := validEv_kind hv
  dsimp only at k0 hx hk
  unfold stepE at h
  dsimp only at h
  split at h
  · rename_i h1
    subst h1
    have hg := validEv_grade hv rfl
    dsimp only at hg
    unfold gradeE at h
    split at h
    · cases h
    split at h
    · cases h
    injection h with _ h
    subst h
    refine ⟨rfl, rfl, rfl, evSub x :: x.grs.map (evGr x.key), x.aps.flatMap (evsAp x.key), rfl, ?_, by simp⟩
    simp [evsEn, evGr, evSub, hg.1, hx]
  rename_i h1
  have he := validEv_else hv h1
  dsimp only at he
  obtain ⟨hver, hhun, hacc⟩ := he
  subst hver hhun
  split at h
  · rename_i h2
    subst h2
    unfold appealE at h
    split at h
    · cases h
    split at h
    · cases h
    injection h with _ h
    subst h
    refine ⟨rfl, rfl, rfl, evsEn x, [], by simp, ?_, by simp [evsEn]⟩
    simp [evsEn, evsAp, evAp, evSub, hacc (by decide), hx]
  · rename_i h2
    have h3 : kind = 3 := by omega
    subst h3
    unfold decideE at h
    split at h
    · rename_i ho
      injection h with _ h
      subst h
      obtain ⟨hne, hd⟩ := lastP_some ho
      have hsp := last_split hne
      have hlt : x.aps.length - 1 < x.aps.length := by have := List.length_pos_iff.2 hne; omega
      have hse := set_at hlt (decideA ⟨3, key, tick, 0, 0, text, acc⟩ (x.aps.getD (x.aps.length - 1) default))
      generalize x.aps.getD (x.aps.length - 1) default = a at *
      rw [show x.aps.length - 1 + 1 = x.aps.length by omega, List.drop_length] at hse
      refine ⟨rfl, rfl, rfl, evsEn x, [], by simp, ?_, by simp [evsEn]⟩
      have hd' : a.dec = false := by simpa using hd
      have hax : ∃ T, x.aps = T ++ [a] ∧ x.aps.set (x.aps.length - 1) (decideA ⟨3, key, tick, 0, 0, text, acc⟩ a) = T ++ [decideA ⟨3, key, tick, 0, 0, text, acc⟩ a] := ⟨_, hsp, hse⟩
      obtain ⟨T, e1, e2⟩ := hax
      simp only [evsEn]
      rw [e2, e1]
      simp [evsAp, evAp, evDec, decideA, hd', hx, evSub]
    · cases h
/-- what a step does to a book's events -/
theorem stepR_ins {b : Bk} {e : Ev} {c : Bk} (hv : validEv e = true) (h : StepR b e c) : ∃ L R, evsRaw b.ens = L ++ R ∧ evsRaw c.ens = L ++ e :: R := by
  cases h with
  | sub k0 h1 h2 hc =>
    subst hc
    obtain ⟨hver, hhun, hacc⟩ := validEv_else hv (by omega)
    refine ⟨evsRaw b.ens, [], by simp, ?_⟩
    rw [evsRaw_app]
    obtain ⟨kind, key, tick, ver, hun, text, acc⟩ := e
    dsimp only at k0 hver hhun hacc
    subst k0 hver hhun
    simp [evsRaw, evsEn, evSub, hacc (by decide)]
  | upd k0 i y hi hs hc =>
    subst hc
    obtain ⟨hlt, hk, _⟩ := findK_some hi
    obtain ⟨_, _, _, L, R, e1, e2, _⟩ := stepE_ins hv k0 hk hs
    refine ⟨evsRaw (b.ens.take i) ++ L, R ++ evsRaw (b.ens.drop (i + 1)), ?_, ?_⟩
    · conv => lhs; rw [split_at hlt]
      rw [evsRaw_app, evsRaw_cons, e1]
      simp
    · rw [set_at hlt, evsRaw_app, evsRaw_cons, e2]
      simp
theorem stepR_len {b : Bk} {e : Ev} {c : Bk} (hv : validEv e = true) (h : StepR b e c) : (evsRaw c.ens).length = (evsRaw b.ens).length + 1 := by
  obtain ⟨L, R, h1, h2⟩ := stepR_ins hv h
  rw [h1, h2]
  simp only [List.length_append, List.length_cons]
  omega
theorem applyB_len {b : Bk} {e : Ev} (hv : validEv e = true) (h : (applyB b e).1 = 0) : (evsRaw (applyB b e).2.ens).length = (evsRaw b.ens).length + 1 :=
  stepR_len hv (applyB_iff.1 (Prod.ext h rfl)).2.2
theorem replay_len : ∀ {l : List Ev} {b c : Bk}, replay l b = some c → (evsRaw c.ens).length = (evsRaw b.ens).length + l.length
  | [], b, c, h => by cases h; rfl
  | e :: l, b, c, h => by
    rw [replay_cons] at h
    cases hs : stepB b e with
    | none => rw [hs] at h; cases h
    | some d =>
      rw [hs] at h
      obtain ⟨hv, _, _, h3⟩ := stepB_iff.1 hs
      have := replay_len (l := l) h
      rw [this, stepR_len hv h3, List.length_cons]
      omega
end Go.Pu
end
/- part PuKeep -/
section
namespace Go.Pu
def cnt (p q : En) : Nat → Nat
  | 0 => 0
  | k + 1 => cnt p q k + if p.aps.getD k default = q.aps.getD k default then 0 else 1
def chg (p q : En) : Nat := (q.grs.length - p.grs.length) + (q.aps.length - p.aps.length) + cnt p q p.aps.length
def tot (b c : Bk) : Nat → Nat
  | 0 => c.ens.length - b.ens.length
  | i + 1 => tot b c i + chg (b.ens.getD i default) (c.ens.getD i default)
def ApOK (x : Ev) (p : En) (k : Nat) (a a' : Ap) : Prop := a.dec = false ∧ k = p.aps.length - 1 ∧ a'.dec = true ∧ a.tick = a'.tick ∧ a.text = a'.text ∧ p.key = x.key
structure PairOK (x : Ev) (p q : En) : Prop where
  key : p.key = q.key
  tick : p.tick = q.tick
  text : p.text = q.text
  grl : p.grs.length ≤ q.grs.length
  apl : p.aps.length ≤ q.aps.length
  pre : q.grs.take p.grs.length = p.grs
  ap : ∀ k, k < p.aps.length → p.aps.getD k default = q.aps.getD k default ∨ ApOK x p k (p.aps.getD k default) (q.aps.getD k default)
theorem cnt_same {p q : En} {k : Nat} (h : ∀ j, j < k → p.aps.getD j default = q.aps.getD j default) : cnt p q k = 0 := by
  induction k with
  | zero => rfl
  | succ k ih => rw [cnt, ih (fun j hj => h j (by omega)), if_pos (h k (by omega))]
theorem chg_self (p : En) : chg p p = 0 := by
  unfold chg
  rw [cnt_same (fun _ _ => rfl)]
  omega
theorem pairOK_self (x : Ev) (p : En) : PairOK x p p := ⟨rfl, rfl, rfl, Nat.le_refl _, Nat.le_refl _, List.take_length, fun _ _ => .inl rfl⟩
theorem getD_app_lt {α : Type} [Inhabited α] {l m : List α} {i : Nat} (h : i < l.length) : (l ++ m).getD i default = l.getD i default := by
  simp only [List.getD_eq_getElem?_getD, List.getElem?_append_left h]
theorem getD_set_ne {α : Type} [Inhabited α] {l : List α} {i j : Nat} {y : α} (h : i ≠ j) : (l.set i y).getD j default = l.getD j default := by
  simp only [List.getD_eq_getElem?_getD, List.getElem?_set_ne h]
theorem getD_set_eq {α : Type} [Inhabited α] {l : List α} {i : Nat} {y : α} (h : i < l.length) : (l.set i y).getD i default = y := by
  simp only [List.getD_eq_getElem?_getD, List.getElem?_set_self h, Option.getD_some]
theorem stepE_pair {x : Ev} {p q : En} (hk : p.key = x.key) (h : stepE x p = (0, q)) : PairOK x p q ∧ chg p q = 1 := by
  unfold stepE at h
  split at h
  · unfold gradeE at h
    split at h
    · cases h
    split at h
    · cases h
    injection h with _ h
    subst h
    refine ⟨⟨rfl, rfl, rfl, by simp, Nat.le_refl _, by simp, fun _ _ => .inl rfl⟩, ?_⟩
    unfold chg
    rw [cnt_same (p := p) (q := { p with grs := p.grs ++ [⟨x.ver, x.hun, x.tick, x.text⟩] }) (fun _ _ => rfl)]
    simp
  split at h
  · unfold appealE at h
    split at h
    · cases h
    split at h
    · cases h
    injection h with _ h
    subst h
    refine ⟨⟨rfl, rfl, rfl, Nat.le_refl _, by simp, List.take_length, fun k hk => .inl (getD_app_lt hk).symm⟩, ?_⟩
    unfold chg
    rw [cnt_same (fun j hj => (getD_app_lt hj).symm)]
    simp
  · unfold decideE at h
    split at h
    · rename_i ho
      injection h with _ h
      obtain ⟨hne, hd⟩ := lastP_some ho
      have hpos := List.length_pos_iff.2 hne
      have hd' : (p.aps.getD (p.aps.length - 1) default).dec = false := by simpa using hd
      subst h
      have hne' : ∀ j, j ≠ p.aps.length - 1 → p.aps.getD j default = (p.aps.set (p.aps.length - 1) (decideA x (p.aps.getD (p.aps.length - 1) default))).getD j default := fun j hj => (getD_set_ne (Ne.symm hj)).symm
      refine ⟨⟨rfl, rfl, rfl, Nat.le_refl _, by simp, List.take_length, fun k hlt => ?_⟩, ?_⟩
      · by_cases hkl : k = p.aps.length - 1
        · right
          subst hkl
          rw [getD_set_eq hlt]
          exact ⟨hd', rfl, rfl, rfl, rfl, hk⟩
        · exact .inl (hne' k hkl)
      · unfold chg
        have hl : p.aps.length = (p.aps.length - 1) + 1 := by omega
        have hc : cnt p { p with aps := p.aps.set (p.aps.length - 1) (decideA x (p.aps.getD (p.aps.length - 1) default)) } p.aps.length = 1 := by
          conv => lhs; rw [hl]
          rw [cnt, cnt_same (fun j hj => hne' j (by omega)), if_neg]
          · dsimp only
            rw [← hl, getD_set_eq (by omega)]
            intro hc
            have : (p.aps.getD (p.aps.length - 1) default).dec = true := by rw [hc]; rfl
            rw [hd'] at this
            cases this
        rw [hc]
        simp
    · cases h
theorem tot_app {b : Bk} {c : Bk} {i : Nat} (h : ∀ j, j < i → c.ens.getD j default = b.ens.getD j default) : tot b c i = c.ens.length - b.ens.length := by
  induction i with
  | zero => rfl
  | succ i ih => rw [tot, ih (fun j hj => h j (by omega)), h i (by omega), chg_self]; omega
theorem tot_set {b c : Bk} {i0 : Nat} {y : En} (hc : c.ens = b.ens.set i0 y) (hi : i0 < b.ens.length) (h1 : chg (b.ens.getD i0 default) y = 1) (i : Nat) : tot b c i = if i0 < i then 1 else 0 := by
  induction i with
  | zero => simp [tot, hc]
  | succ i ih =>
    rw [tot, ih, hc]
    by_cases hii : i0 = i
    · subst hii
      rw [getD_set_eq hi, h1, if_neg (by omega), if_pos (by omega)]
    · rw [getD_set_ne hii, chg_self]
      by_cases h2 : i0 < i
      · rw [if_pos h2, if_pos (by omega)]
      · rw [if_neg h2, if_neg (by omega)]
structure Keeps (b c : Bk) (x : Ev) : Prop where
  tick : c.tick = x.tick
  le : b.ens.length ≤ c.ens.length
  ge : c.ens.length ≤ b.ens.length + 1
  sub : b.ens.length < c.ens.length ↔ x.kind = 0
  pair : ∀ i, i < b.ens.length → PairOK x (b.ens.getD i default) (c.ens.getD i default)
  all : tot b c b.ens.length = 1
theorem keeps {b c : Bk} {x : Ev} (h : applyB b x = (0, c)) : Keeps b c x := by
  have hs := (applyB_iff.1 h).2.2
  cases hs with
  | sub k0 h1 h2 hc =>
    subst hc
    refine ⟨rfl, by simp, by simp, by simp [k0], fun i hi => ?_, ?_⟩
    · rw [getD_app_lt hi]; exact pairOK_self x _
    · rw [tot_app (fun j hj => getD_app_lt hj)]; simp
  | upd k0 i y hi hst hc =>
    obtain ⟨hlt, hk, _⟩ := findK_some hi
    obtain ⟨hp, hch⟩ := stepE_pair hk hst
    subst hc
    refine ⟨rfl, by simp, by simp, by simp [k0], fun j hj => ?_, ?_⟩
    · by_cases hij : i = j
      · subst hij; dsimp only; rw [getD_set_eq hlt]; exact hp
      · dsimp only; rw [getD_set_ne hij]; exact pairOK_self x _
    · rw [tot_set rfl hlt hch, if_pos hlt]
end Go.Pu
end
/- part PuValid -/
section
namespace Go.Pu
/- a law of sorting: one more of the greatest tick -/
theorem filter_of_sub {α : Type} {p q : α → Bool} (h : ∀ x, q x = true → p x = true) (l : List α) : (l.filter p).filter q = l.filter q := by
  rw [List.filter_filter]
  congr 1
  funext x
  cases hq : q x with
  | false => simp
  | true => simp [h x hq]
theorem filter_none {α : Type} {p q : α → Bool} (h : ∀ x, q x = true → p x = false) (l : List α) : (l.filter p).filter q = [] := by
  rw [List.filter_filter, List.filter_eq_nil_iff]
  intro x _
  cases hq : q x with
  | false => simp
  | true => simp [h x hq]
theorem srt_filter {α : Type} {k : α → Int} {l : List α} (h : Srt k l) (p : α → Bool) : Srt k (l.filter p) := List.Pairwise.sublist List.filter_sublist h
theorem srt_const {α : Type} {k : α → Int} {T : Int} {l : List α} (h : ∀ x ∈ l, k x = T) : Srt k l := by
  induction l with
  | nil => exact List.Pairwise.nil
  | cons a l ih =>
    refine List.Pairwise.cons (fun b hb => ?_) (ih fun x hx => h x (List.mem_cons_of_mem _ hx))
    rw [h a (List.mem_cons_self ..), h b (List.mem_cons_of_mem _ hb)]
    exact Int.le_refl _
theorem sort_split {α : Type} {k : α → Int} {T : Int} {l : List α} (hT : ∀ x ∈ l, k x ≤ T) : sortS k l = (sortS k l).filter (fun x => decide (k x < T)) ++ l.filter (fun x => k x == T) := by
  symm
  refine sortS_eq ?_ ?_
  · rw [srt_append]
    refine ⟨srt_filter (srt_sortS l) _, srt_const (T := T) (fun x hx => by simpa using (List.mem_filter.1 hx).2), fun x hx y hy => ?_⟩
    have h1 := (List.mem_filter.1 hx).2
    have h2 := (List.mem_filter.1 hy).2
    simp at h1 h2
    omega
  · intro t
    rw [List.filter_append]
    by_cases ht : t = T
    · subst ht
      rw [filter_none (fun x hx => by simp at hx ⊢; omega), filter_of_sub (fun x hx => hx)]
      rfl
    · by_cases hlt : t < T
      · rw [filter_of_sub (fun x hx => by simp at hx ⊢; omega), filter_none (fun x hx => by simp at hx ⊢; omega), List.append_nil]
        exact steq_sortS l t
      · have e1 : l.filter (fun x => k x == t) = [] := by
          rw [List.filter_eq_nil_iff]
          intro x hx
          have := hT x hx
          simp
          omega
        rw [e1, filter_none (fun x hx => by simp at hx ⊢; omega), filter_none (fun x hx => by simp at hx ⊢; omega)]
        rfl
theorem sort_ins {α : Type} {k : α → Int} {e : α} {L R : List α} (hT : ∀ x ∈ L ++ R, k x ≤ k e) :
    ∃ P Q, sortS k (L ++ R) = P ++ Q ∧ sortS k (L ++ e :: R) = P ++ e :: Q ∧ ∀ q ∈ Q, q ∈ R ∧ k q = k e := by
  have hT' : ∀ x ∈ L ++ e :: R, k x ≤ k e := by
    intro x hx
    rcases List.mem_append.1 hx with h | h
    · exact hT x (List.mem_append.2 (.inl h))
    · rcases List.mem_cons.1 h with rfl | h
      · exact Int.le_refl _
      · exact hT x (List.mem_append.2 (.inr h))
  have s1 := sort_split hT
  have s2 := sort_split hT'
  have hF : (sortS k (L ++ e :: R)).filter (fun x => decide (k x < k e)) = (sortS k (L ++ R)).filter (fun x => decide (k x < k e)) := by
    refine srt_unique (srt_filter (srt_sortS _) _) (srt_filter (srt_sortS _) _) fun t => ?_
    by_cases hlt : t < k e
    · rw [filter_of_sub (fun x hx => by simp at hx ⊢; omega), filter_of_sub (fun x hx => by simp at hx ⊢; omega), steq_sortS, steq_sortS, List.filter_append, List.filter_append, List.filter_cons, if_neg (by simp; omega)]
    · rw [filter_none (fun x hx => by simp at hx ⊢; omega), filter_none (fun x hx => by simp at hx ⊢; omega)]
  refine ⟨(sortS k (L ++ R)).filter (fun x => decide (k x < k e)) ++ L.filter (fun x => k x == k e), R.filter (fun x => k x == k e), ?_, ?_, fun q hq => ?_⟩
  · conv => lhs; rw [s1]
    rw [List.filter_append, List.append_assoc]
  · conv => lhs; rw [s2]
    rw [hF, List.filter_append, List.filter_cons, if_pos (by simp), List.append_assoc]
  · have := List.mem_filter.1 hq
    exact ⟨this.1, by simpa using this.2⟩
end Go.Pu
end
/- part PuValid2 -/
section
namespace Go.Pu
theorem evsAp_kind {k : K} {a : Ap} {x : Ev} (h : x ∈ evsAp k a) : x.kind = 2 ∨ x.kind = 3 := by
  unfold evsAp at h
  split at h <;> simp only [List.mem_cons, List.not_mem_nil, or_false] at h
  · rcases h with rfl | rfl
    · exact .inl rfl
    · exact .inr rfl
  · rw [h]; exact .inl rfl
/-- what a step does to an attempt's events, and what stands behind -/
theorem stepE_ins2 {e : Ev} {x y : En} (hv : validEv e = true) (k0 : e.kind ≠ 0) (hx : x.key = e.key) (h : stepE e x = (0, y)) :
    ∃ L R, evsEn x = L ++ R ∧ evsEn y = L ++ e :: R ∧ ∀ q ∈ R, e.kind = 1 ∧ (q.kind = 2 ∨ q.kind = 3) := by
  obtain ⟨_, _, _, L, R, h1, h2, h3⟩ := stepE_ins hv k0 hx h
  by_cases hk : e.kind = 1
  · have hg : gradeE e x = (0, y) := by
      unfold stepE at h
      rwa [if_pos hk] at h
    unfold gradeE at hg
    split at hg
    · cases hg
    split at hg
    · cases hg
    injection hg with _ hy
    subst hy
    obtain ⟨kind, key, tick, ver, hun, text, acc⟩ := e
    have ha := (validEv_grade hv hk).1
    dsimp only at hk hx ha
    subst hk ha
    refine ⟨evSub x :: x.grs.map (evGr x.key), x.aps.flatMap (evsAp x.key), rfl, ?_, fun q hq => ⟨rfl, ?_⟩⟩
    · simp [evsEn, evGr, evSub, hx]
    · obtain ⟨a, _, ha⟩ := List.mem_flatMap.1 hq
      exact evsAp_kind ha
  · have hk' := validEv_kind hv
    obtain ⟨hver, hhun, hacc⟩ := validEv_else hv hk
    obtain ⟨kind, key, tick, ver, hun, text, acc⟩ := e
    dsimp only at hk hx hver hhun hacc hk' k0
    subst hver hhun
    unfold stepE at h
    dsimp only at h
    rw [if_neg hk] at h
    split at h
    · rename_i h2
      subst h2
      unfold appealE at h
      split at h
      · cases h
      split at h
      · cases h
      injection h with _ h
      subst h
      refine ⟨evsEn x, [], by simp, ?_, by simp⟩
      simp [evsEn, evsAp, evAp, evSub, hacc (by decide), hx]
    · rename_i h2
      have h3 : kind = 3 := by omega
      subst h3
      unfold decideE at h
      split at h
      · rename_i ho
        injection h with _ h
        subst h
        obtain ⟨hne, hd⟩ := lastP_some ho
        have hsp := last_split hne
        have hlt : x.aps.length - 1 < x.aps.length := by have := List.length_pos_iff.2 hne; omega
        have hse := set_at hlt (decideA ⟨3, key, tick, 0, 0, text, acc⟩ (x.aps.getD (x.aps.length - 1) default))
        generalize x.aps.getD (x.aps.length - 1) default = a at *
        rw [show x.aps.length - 1 + 1 = x.aps.length by omega, List.drop_length] at hse
        refine ⟨evsEn x, [], by simp, ?_, by simp⟩
        have hd' : a.dec = false := by simpa using hd
        have hax : ∃ T, x.aps = T ++ [a] ∧ x.aps.set (x.aps.length - 1) (decideA ⟨3, key, tick, 0, 0, text, acc⟩ a) = T ++ [decideA ⟨3, key, tick, 0, 0, text, acc⟩ a] := ⟨_, hsp, hse⟩
        obtain ⟨T, e1, e2⟩ := hax
        simp only [evsEn]
        rw [e2, e1]
        simp [evsAp, evAp, evDec, decideA, hd', hx, evSub]
      · cases h
theorem stepE_key {e : Ev} {x y : En} (hv : validEv e = true) (k0 : e.kind ≠ 0) (hx : x.key = e.key) (h : stepE e x = (0, y)) : y.key = x.key := (stepE_ins hv k0 hx h).1
theorem mem_evsRaw {l : List En} {x : Ev} : x ∈ evsRaw l ↔ partB l x := by
  unfold evsRaw partB
  rw [List.mem_flatMap]
theorem stepR_ins2 {b : Bk} {e : Ev} {c : Bk} (hk : Keys b.ens) (hv : validEv e = true) (h : StepR b e c) :
    ∃ L R, evsRaw b.ens = L ++ R ∧ evsRaw c.ens = L ++ e :: R ∧ ∀ q ∈ R, e.kind ≠ 0 ∧ (q.key ≠ e.key ∨ (e.kind = 1 ∧ (q.kind = 2 ∨ q.kind = 3))) := by
  cases h with
  | sub k0 h1 h2 hc =>
    subst hc
    obtain ⟨hver, hhun, hacc⟩ := validEv_else hv (by omega)
    refine ⟨evsRaw b.ens, [], by simp, ?_, by simp⟩
    rw [evsRaw_app]
    obtain ⟨kind, key, tick, ver, hun, text, acc⟩ := e
    dsimp only at k0 hver hhun hacc
    subst k0 hver hhun
    simp [evsRaw, evsEn, evSub, hacc (by decide)]
  | upd k0 i y hi hs hc =>
    subst hc
    obtain ⟨hlt, hki, _⟩ := findK_some hi
    obtain ⟨L, R, e1, e2, e3⟩ := stepE_ins2 hv k0 hki hs
    refine ⟨evsRaw (b.ens.take i) ++ L, R ++ evsRaw (b.ens.drop (i + 1)), ?_, ?_, fun q hq => ⟨k0, ?_⟩⟩
    · conv => lhs; rw [split_at hlt]
      rw [evsRaw_app, evsRaw_cons, e1]
      simp
    · rw [set_at hlt, evsRaw_app, evsRaw_cons, e2]
      simp
    · rcases List.mem_append.1 hq with h | h
      · exact .inr (e3 q h)
      · left
        obtain ⟨z, hz, hqz⟩ := mem_evsRaw.1 h
        rw [evsEn_key hqz]
        intro he
        have hpw := hk
        rw [split_at hlt] at hpw
        have := (List.pairwise_append.1 hpw).2.1
        exact (List.pairwise_cons.1 this).1 z hz (hki.trans he.symm)
theorem findK_set {l : List En} {i : Nat} {y : En} (hi : i < l.length) (hy : y.key = (l.getD i default).key) (k : K) : findK (l.set i y) k = findK l k := by
  unfold findK
  have : (l.set i y).map (fun y => y.key == k) = l.map (fun y => y.key == k) := by
    rw [List.map_set]
    refine List.ext_getElem? fun j => ?_
    rw [List.getElem?_set]
    split
    · rename_i hij
      subst hij
      have hd : l.getD i default = l[i] := by simp [List.getD_eq_getElem?_getD, hi]
      rw [hd] at hy
      simp [hi, hy]
    · rfl
  have h2 : ∀ m : List En, m.findIdx? (fun y => y.key == k) = (m.map fun y => y.key == k).findIdx? id := fun m => by rw [List.findIdx?_map]; rfl
  rw [h2, h2, this]
theorem countK_set {l : List En} {i : Nat} {y : En} (hi : i < l.length) (hy : y.key = (l.getD i default).key) (k : K) : countK (l.set i y) k = countK l k := by
  unfold countK
  have h2 : ∀ m : List En, m.countP (fun y => y.key.stu == k.stu && y.key.ex == k.ex) = (m.map fun y => y.key).countP (fun x => x.stu == k.stu && x.ex == k.ex) := fun m => by rw [List.countP_map]; rfl
  have : (l.set i y).map (fun y => y.key) = l.map (fun y => y.key) := by
    rw [List.map_set]
    refine List.ext_getElem? fun j => ?_
    rw [List.getElem?_set]
    split
    · rename_i hij
      subst hij
      have hd : l.getD i default = l[i] := by simp [List.getD_eq_getElem?_getD, hi]
      rw [hd] at hy
      simp [hi, hy]
    · rfl
  rw [h2, h2, this]
theorem hasB_eq {l : List En} {e : Ev} {i : Nat} (h : findK l e.key = some i) : hasB l e = (evsEn (l.getD i default)).contains e := by
  unfold hasB
  rw [h]
theorem findK_app_ne {l : List En} {n : En} {k : K} (h : n.key ≠ k) : findK (l ++ [n]) k = findK l k := by
  unfold findK
  rw [List.findIdx?_append]
  simp [List.findIdx?_cons, h]
theorem hasB_app_ne {l : List En} {n : En} {e : Ev} (h : n.key ≠ e.key) : hasB (l ++ [n]) e = hasB l e := by
  have hf := findK_app_ne (l := l) h
  cases hk : findK l e.key with
  | none => unfold hasB; rw [hf, hk]
  | some i => rw [hasB_eq (hf.trans hk), hasB_eq hk, getD_app_lt (findK_some hk).1]
theorem hasB_set_ne {l : List En} {i : Nat} {y : En} {e : Ev} (hi : i < l.length) (hy : y.key = (l.getD i default).key) (h : (l.getD i default).key ≠ e.key) : hasB (l.set i y) e = hasB l e := by
  have hf := findK_set hi hy e.key
  cases hk : findK l e.key with
  | none => unfold hasB; rw [hf, hk]
  | some j =>
    rw [hasB_eq (hf.trans hk), hasB_eq hk, getD_set_ne]
    rintro rfl
    exact h (findK_some hk).2.1
end Go.Pu
end
/- part PuValid3 -/
section
namespace Go.Pu
theorem stepB_mk {b : Bk} {e : Ev} {c : Bk} (h1 : validEv e = true) (h2 : hasB b.ens e = false) (h3 : b.tick ≤ e.tick) (h4 : StepR b e c) : stepB b e = some c := stepB_iff.2 ⟨h1, h2, h3, h4⟩
/-- two events of one tick, the other way round -/
theorem swap {s s1 s2 : Bk} {q e : Ev} (hq : stepB s q = some s1) (he : stepB s1 e = some s2) (ht : q.tick = e.tick) (k0 : e.kind ≠ 0) (hk : q.key ≠ e.key ∨ (e.kind = 1 ∧ (q.kind = 2 ∨ q.kind = 3))) :
    ∃ t, stepB s e = some t ∧ stepB t q = some s2 := by
  obtain ⟨vq, nq, tq, rq⟩ := stepB_iff.1 hq
  obtain ⟨ve, ne, te, re⟩ := stepB_iff.1 he
  have hse : s.tick ≤ e.tick := by omega
  cases re with
  | sub k => exact absurd k k0
  | upd _ i y hi hs hc =>
  obtain ⟨hlt1, hk1, _⟩ := findK_some hi
  by_cases hkk : q.key = e.key
  · obtain ⟨ke, kq⟩ := hk.resolve_left (fun h => h hkk)
    cases rq with
    | sub k => omega
    | upd kq0 j z hj hz hcz =>
    subst hcz
    obtain ⟨hlt, hkj, _⟩ := findK_some hj
    have hzk := stepE_key vq kq0 hkj hz
    have hfi := findK_set hlt hzk e.key
    dsimp only at hi hs hlt1 hk1 ne
    have hij : i = j := by
      rw [hfi, ← hkk, hj] at hi
      exact (Option.some.inj hi).symm
    subst hij
    rw [getD_set_eq hlt] at hs
    have hie : findK s.ens e.key = some i := by rw [← hkk]; exact hj
    -- e on the entry as it was
    have hg : gradeE e z = (0, y) := by
      unfold stepE at hs
      rwa [if_pos ke] at hs
    have hzg : z.grs = (s.ens.getD i default).grs ∧ z.key = (s.ens.getD i default).key ∧ z.tick = (s.ens.getD i default).tick ∧ z.text = (s.ens.getD i default).text := by
      unfold stepE at hz
      rw [if_neg (by omega)] at hz
      split at hz
      · unfold appealE at hz
        split at hz
        · cases hz
        split at hz
        · cases hz
        injection hz with _ hz
        subst hz
        exact ⟨rfl, rfl, rfl, rfl⟩
      · unfold decideE at hz
        split at hz
        · injection hz with _ hz
          subst hz
          exact ⟨rfl, rfl, rfl, rfl⟩
        · cases hz
    generalize hx : s.ens.getD i default = x at *
    obtain ⟨y', hy', hyq⟩ : ∃ y', stepE e x = (0, y') ∧ stepE q y' = (0, y) := by
      refine ⟨{ x with grs := x.grs ++ [⟨e.ver, e.hun, e.tick, e.text⟩] }, ?_, ?_⟩
      · unfold stepE gradeE
        unfold gradeE at hg
        rw [if_pos ke]
        rw [hzg.1] at hg
        split at hg
        · cases hg
        rename_i g1
        split at hg
        · cases hg
        rename_i g2
        rw [if_neg g1, if_neg g2]
      · have hyy : y = { z with grs := x.grs ++ [⟨e.ver, e.hun, e.tick, e.text⟩] } := by
          unfold gradeE at hg
          rw [hzg.1] at hg
          split at hg
          · cases hg
          split at hg
          · cases hg
          injection hg with _ hg
          exact hg.symm
        subst hyy
        unfold stepE at hz ⊢
        rw [if_neg (by omega)] at hz ⊢
        split at hz
        · rename_i kq2
          rw [if_pos kq2]
          unfold appealE at hz ⊢
          split at hz
          · cases hz
          rename_i g1
          split at hz
          · cases hz
          rename_i g2
          injection hz with _ hz
          subst hz
          have g1' : ¬ (decide (x.grs = []) || openE x) = true := g1
          have g3 : openE x = false := by
            cases ho : openE x with
            | false => rfl
            | true => rw [ho] at g1'; simp at g1'
          rw [if_neg (by show ¬ (decide (x.grs ++ _ = []) || openE x) = true; rw [g3]; simp), if_neg g2]
        · rename_i kq2
          rw [if_neg kq2]
          unfold decideE at hz ⊢
          split at hz
          · rename_i g1
            injection hz with _ hz
            subst hz
            exact if_pos g1
          · cases hz
    have hy'k := stepE_key ve k0 (by rw [← hx]; exact (findK_some hie).2.1) hy'
    have hxe : x.key = e.key := by rw [← hx]; exact (findK_some hie).2.1
    refine ⟨⟨e.tick, s.ens.set i y'⟩, stepB_mk ve ?_ hse (.upd k0 i y' hie (by rw [hx]; exact hy') rfl), stepB_mk vq ?_ (by show e.tick ≤ q.tick; omega) (.upd kq0 i y ?_ ?_ ?_)⟩
    · rw [hasB_eq hie, hx]
      rw [hasB_eq hi, getD_set_eq hlt] at ne
      obtain ⟨L, R, e1, e2, _⟩ := stepE_ins2 vq kq0 hkj hz
      rw [e2] at ne
      rw [e1]
      simp only [List.contains_eq_mem, List.mem_append, List.mem_cons, decide_eq_false_iff_not] at ne ⊢
      rintro (h | h)
      · exact ne (.inl h)
      · exact ne (.inr (.inr h))
    · show hasB (s.ens.set i y') q = false
      have hfq : findK (s.ens.set i y') q.key = some i := (findK_set hlt (by rw [hx]; exact hy'k) q.key).trans hj
      rw [hasB_eq hfq, getD_set_eq hlt]
      rw [hasB_eq hj, hx] at nq
      obtain ⟨L, R, e1, e2, _⟩ := stepE_ins2 ve k0 hxe hy'
      rw [e1] at nq
      rw [e2]
      simp only [List.contains_eq_mem, List.mem_append, List.mem_cons, decide_eq_false_iff_not] at nq ⊢
      rintro (h | rfl | h)
      · exact nq (.inl h)
      · omega
      · exact nq (.inr h)
    · exact (findK_set hlt (by rw [hx]; exact hy'k) q.key).trans hj
    · show stepE q ((s.ens.set i y').getD i default) = (0, y)
      rw [getD_set_eq hlt]; exact hyq
    · rw [hc]
      show (⟨e.tick, (s.ens.set i z).set i y⟩ : Bk) = ⟨q.tick, (s.ens.set i y').set i y⟩
      rw [List.set_set, List.set_set, ht]
  · cases rq with
    | sub kq hatt h256 hcz =>
      subst hcz
      dsimp only at hi hs hlt1 hk1 ne
      rw [findK_app_ne (by exact hkk)] at hi
      obtain ⟨hlt, hki, _⟩ := findK_some hi
      rw [getD_app_lt hlt] at hs
      have hyk := stepE_key ve k0 hki hs
      rw [hasB_app_ne (by exact hkk)] at ne
      refine ⟨⟨e.tick, s.ens.set i y⟩, stepB_mk ve ne hse (.upd k0 i y hi hs rfl), stepB_mk vq ?_ (by show e.tick ≤ q.tick; omega) (.sub kq ?_ ?_ ?_)⟩
      · show hasB (s.ens.set i y) q = false
        rw [hasB_set_ne hlt hyk (by rw [hki]; exact fun h => hkk h.symm)]; exact nq
      · show q.key.att = countK (s.ens.set i y) q.key + 1
        rw [countK_set hlt hyk]; exact hatt
      · show (s.ens.set i y).length < 256
        rw [List.length_set]; exact h256
      · rw [hc]
        show (⟨e.tick, (s.ens ++ [_]).set i y⟩ : Bk) = ⟨q.tick, s.ens.set i y ++ [_]⟩
        rw [List.set_append_left _ _ hlt, ht]
    | upd kq0 j z hj hz hcz =>
      subst hcz
      dsimp only at hi hs hlt1 hk1 ne
      obtain ⟨hltj, hkj, _⟩ := findK_some hj
      have hzk := stepE_key vq kq0 hkj hz
      rw [findK_set hltj hzk] at hi
      obtain ⟨hlt, hki, _⟩ := findK_some hi
      have hij : i ≠ j := by rintro rfl; exact hkk (hkj.symm.trans hki)
      rw [getD_set_ne (Ne.symm hij)] at hs
      have hyk := stepE_key ve k0 hki hs
      rw [hasB_set_ne hltj hzk (by rw [hkj]; exact hkk)] at ne
      refine ⟨⟨e.tick, s.ens.set i y⟩, stepB_mk ve ne hse (.upd k0 i y hi hs rfl), stepB_mk vq ?_ (by show e.tick ≤ q.tick; omega) (.upd kq0 j z ?_ ?_ ?_)⟩
      · show hasB (s.ens.set i y) q = false
        rw [hasB_set_ne hlt hyk (by rw [hki]; exact fun h => hkk h.symm)]; exact nq
      · exact (findK_set hlt hyk q.key).trans hj
      · show stepE q ((s.ens.set i y).getD j default) = (0, z)
        rw [getD_set_ne hij]; exact hz
      · rw [hc]
        show (⟨e.tick, (s.ens.set j z).set i y⟩ : Bk) = ⟨q.tick, (s.ens.set i y).set j z⟩
        rw [List.set_comm _ _ hij, ht]
end Go.Pu
end
/- part PuValid4 -/
section
namespace Go.Pu
structure Inv (b : Bk) : Prop where
  keys : Keys b.ens
  att : ∀ y ∈ b.ens, y.key.att ≤ countK b.ens y.key
  tick : ∀ x ∈ evsRaw b.ens, x.tick ≤ b.tick
  valid : ∀ x ∈ evsRaw b.ens, validEv x = true
theorem inv_empty : Inv empty := ⟨List.Pairwise.nil, by simp [empty], by simp [empty, evsRaw], by simp [empty, evsRaw]⟩
theorem countK_app (l : List En) (n : En) (k : K) : countK (l ++ [n]) k = countK l k + (if n.key.stu == k.stu && n.key.ex == k.ex then 1 else 0) := by
  unfold countK
  rw [List.countP_append]
  simp [List.countP_cons]
theorem keys_set {l : List En} {i : Nat} {y : En} (hi : i < l.length) (hy : y.key = (l.getD i default).key) : Keys l → Keys (l.set i y) := by
  have hm : (l.set i y).map En.key = l.map En.key := by
    rw [List.map_set]
    refine List.ext_getElem? fun j => ?_
    rw [List.getElem?_set]
    split
    · rename_i hij
      subst hij
      have hd : l.getD i default = l[i] := by simp [List.getD_eq_getElem?_getD, hi]
      rw [hd] at hy
      simp [hi, hy]
    · rfl
  have h2 : ∀ m : List En, Keys m ↔ (m.map En.key).Pairwise (· ≠ ·) := fun m => by unfold Keys; rw [List.pairwise_map]
  rw [h2, h2, hm]
  exact id
theorem inv_step {b c : Bk} {e : Ev} (hb : Inv b) (h : stepB b e = some c) : Inv c := by
  obtain ⟨hv, hn, ht, hr⟩ := stepB_iff.1 h
  have htk := hr.tick
  obtain ⟨L, R, e1, e2⟩ := stepR_ins hv hr
  have hmem : ∀ x, x ∈ evsRaw c.ens → x = e ∨ x ∈ evsRaw b.ens := by
    intro x hx
    rw [e2] at hx
    rw [e1]
    simp only [List.mem_append, List.mem_cons] at hx ⊢
    rcases hx with h | h | h
    · exact .inr (.inl h)
    · exact .inl h
    · exact .inr (.inr h)
  refine ⟨?_, ?_, fun x hx => ?_, fun x hx => ?_⟩
  · cases hr with
    | sub k0 h1 h2 hc =>
      subst hc
      unfold Keys
      rw [List.pairwise_append]
      refine ⟨hb.keys, List.pairwise_singleton _ _, fun y hy z hz => ?_⟩
      rw [List.mem_singleton.1 hz]
      intro hk
      have := hb.att y hy
      dsimp only at hk
      rw [hk] at this
      omega
    | upd k0 i y hi hs hc =>
      subst hc
      obtain ⟨hlt, hk, _⟩ := findK_some hi
      exact keys_set hlt (stepE_key hv k0 hk hs) hb.keys
  · cases hr with
    | sub k0 h1 h2 hc =>
      subst hc
      intro y hy
      dsimp only at hy ⊢
      rw [countK_app]
      rcases List.mem_append.1 hy with h | h
      · have := hb.att y h
        omega
      · rw [List.mem_singleton.1 h]
        dsimp only
        simp
        omega
    | upd k0 i y hi hs hc =>
      subst hc
      obtain ⟨hlt, hk, _⟩ := findK_some hi
      have hyk := stepE_key hv k0 hk hs
      intro z hz
      dsimp only at hz ⊢
      rw [countK_set hlt hyk]
      rcases List.mem_or_eq_of_mem_set hz with h | h
      · exact hb.att z h
      · subst h
        rw [hyk]
        exact hb.att _ (getD_mem hlt)
  · rw [htk]
    rcases hmem x hx with rfl | h
    · exact Int.le_refl _
    · exact Int.le_trans (hb.tick x h) ht
  · rcases hmem x hx with rfl | h
    · exact hv
    · exact hb.valid x h
theorem inv_replay : ∀ {l : List Ev} {b c : Bk}, Inv b → replay l b = some c → Inv c
  | [], _, _, hb, h => by cases h; exact hb
  | e :: l, b, c, hb, h => by
    rw [replay_cons] at h
    cases hs : stepB b e with
    | none => rw [hs] at h; cases h
    | some d => rw [hs] at h; exact inv_replay (inv_step hb hs) h
theorem replay_two {l m : List Ev} {b c : Bk} (h : replay (l ++ m) b = some c) : ∃ d, replay l b = some d ∧ replay m d = some c := by
  rw [replay_append] at h
  cases hl : replay l b with
  | none => rw [hl] at h; cases h
  | some d => rw [hl] at h; exact ⟨d, rfl, h⟩
/-- an event slides ahead of those of its tick -/
theorem slide {e : Ev} (k0 : e.kind ≠ 0) : ∀ {Q : List Ev} {s b c : Bk}, replay Q s = some b → stepB b e = some c → (∀ q ∈ Q, q.tick = e.tick ∧ (q.key ≠ e.key ∨ (e.kind = 1 ∧ (q.kind = 2 ∨ q.kind = 3)))) → replay (e :: Q) s = some c
  | [], s, b, c, h1, h2, _ => by
    cases h1
    rw [replay_cons, h2]
    rfl
  | q :: Q, s, b, c, h1, h2, h3 => by
    rw [replay_cons] at h1
    cases hq : stepB s q with
    | none => rw [hq] at h1; cases h1
    | some s1 =>
      rw [hq, Option.bind_some] at h1
      have ih := slide k0 h1 h2 fun x hx => h3 x (List.mem_cons_of_mem _ hx)
      rw [replay_cons] at ih
      cases hs : stepB s1 e with
      | none => rw [hs] at ih; cases ih
      | some s2 =>
        rw [hs, Option.bind_some] at ih
        obtain ⟨h4, h5⟩ := h3 q (List.mem_cons_self ..)
        obtain ⟨t, ht1, ht2⟩ := swap hq hs h4 k0 h5
        rw [replay_cons, ht1, Option.bind_some, replay_cons, ht2, Option.bind_some]
        exact ih
theorem validB_iff {b : Bk} : validB b = true ↔ b.ens.length ≤ 256 ∧ replay (evsBk b.ens) empty = some b := by
  unfold validB
  rw [Bool.and_eq_true, decide_eq_true_eq]
  constructor
  · rintro ⟨h1, h2⟩
    refine ⟨h1, ?_⟩
    cases hr : replay (evsBk b.ens) empty with
    | none => rw [hr] at h2; cases h2
    | some c => rw [hr] at h2; simp at h2; rw [h2]
  · rintro ⟨h1, h2⟩
    rw [h2]
    exact ⟨h1, by simp⟩
theorem inv_valid {b : Bk} (h : validB b = true) : Inv b := inv_replay inv_empty (validB_iff.1 h).2
/-- a valid book with one event more is valid -/
theorem valid_step {b c : Bk} {e : Ev} (hb : validB b = true) (h : stepB b e = some c) : validB c = true := by
  have hi := inv_valid hb
  obtain ⟨h256, hrep⟩ := validB_iff.1 hb
  obtain ⟨hv, hn, ht, hr⟩ := stepB_iff.1 h
  obtain ⟨L, R, e1, e2, e3⟩ := stepR_ins2 hi.keys hv hr
  refine validB_iff.2 ⟨?_, ?_⟩
  · cases hr with
    | sub k0 h1 h2 hc => subst hc; simp; omega
    | upd k0 i y hi hs hc => subst hc; simp; exact h256
  · have hT : ∀ x ∈ L ++ R, Ev.tick x ≤ Ev.tick e := fun x hx => Int.le_trans (hi.tick x (by rw [e1]; exact hx)) ht
    obtain ⟨P, Q, p1, p2, p3⟩ := sort_ins hT
    unfold evsBk at hrep ⊢
    rw [e1, p1] at hrep
    rw [e2, p2, replay_append]
    obtain ⟨d, d1, d2⟩ := replay_two hrep
    rw [d1, Option.bind_some]
    cases hQ : Q with
    | nil =>
      subst hQ
      cases d2
      rw [replay_cons, h]
      rfl
    | cons q Q' =>
      rw [← hQ]
      have hq : q ∈ Q := by rw [hQ]; exact List.mem_cons_self ..
      exact slide (e3 q (p3 q hq).1).1 d2 h fun x hx => ⟨(p3 x hx).2, (e3 x (p3 x hx).1).2⟩
theorem hasB_iff {b : Bk} (hi : Inv b) {e : Ev} : hasB b.ens e = true ↔ e ∈ evsRaw b.ens := by
  rw [mem_evsRaw]
  exact ⟨hasB_part, part_hasB hi.keys⟩
theorem valid_empty : validB empty = true := by decide +kernel
end Go.Pu
end
/- part PuTwice -/
section
namespace Go.Pu
def hasX (b : Bk) (e : Ev) : Bool := validEv e && (validB b && hasB b.ens e)
def eventsX (b : Bk) : List Ev := if validB b then evsBk b.ens else []
theorem stepE_code (e : Ev) (y : En) : (stepE e y).1 = 0 ∨ (stepE e y).1 = 8 ∨ (stepE e y).1 = 9 := by
  unfold stepE gradeE appealE decideE
  repeat' split
  all_goals simp
theorem applyB_six {b : Bk} {e : Ev} : (applyB b e).1 = 6 ↔ hasB b.ens e = true := by
  unfold applyB
  constructor
  · intro h
    split at h
    · assumption
    · split at h
      · simp at h
      · split at h
        · split at h
          · simp at h
          · split at h <;> simp at h
        · split at h
          · simp at h
          · rename_i i hi
            have := stepE_code e (b.ens.getD i default)
            split at h
            · simp at h
            · dsimp only at h; omega
  · intro h
    rw [if_pos h]
theorem applyX_six (b : Bk) (e : Ev) : ((applyX b e).1 == 6) = hasX b e := by
  rw [Bool.eq_iff_iff, beq_iff_eq]
  unfold applyX hasX
  cases hv : validB b <;> cases he : validEv e <;> simp
  split
  · rename_i h0
    rw [h0]
    have := (applyB_six (b := b) (e := e)).2
    constructor
    · intro h; omega
    · intro h; have := this h; omega
  · exact applyB_six
theorem applyX_fail {b : Bk} {e : Ev} (h : (applyX b e).1 ≠ 0) : (applyX b e).2 = empty := by
  unfold applyX at h ⊢
  split
  · rename_i h1
    rw [if_pos h1] at h
    split
    · rename_i h2
      rw [if_pos h2] at h
      exact absurd h2 h
    · rfl
  · rfl
theorem stepB_of {b c : Bk} {e : Ev} (h : applyX b e = (0, c)) : validB b = true ∧ validEv e = true ∧ stepB b e = some c := by
  unfold applyX at h
  split at h
  · rename_i h1
    simp only [Bool.and_eq_true] at h1
    split at h
    · rename_i h2
      refine ⟨h1.1, h1.2, ?_⟩
      unfold stepB
      rw [h1.2, h2, h]
      rfl
    · rename_i h2
      injection h with h3 _
      exact absurd h3 h2
  · cases h
structure Once (b c : Bk) (x : Ev) : Prop where
  vb : validB b = true
  vc : validB c = true
  has : hasX c x = true
  again : applyX c x = (6, empty)
  len : (eventsX c).length = (eventsX b).length + 1
  inv : Inv c
  raw : (evsRaw c.ens).length = (evsRaw b.ens).length + 1
theorem once {b c : Bk} {x : Ev} (h : applyX b x = (0, c)) : Once b c x := by
  obtain ⟨vb, vx, hs⟩ := stepB_of h
  have vc := valid_step vb hs
  have ic := inv_valid vc
  obtain ⟨_, _, _, hr⟩ := stepB_iff.1 hs
  have hl := stepR_len vx hr
  have hh : hasB c.ens x = true := by
    rw [hasB_iff ic]
    obtain ⟨L, R, _, e2⟩ := stepR_ins vx hr
    rw [e2]
    simp
  refine ⟨vb, vc, ?_, ?_, ?_, ic, hl⟩
  · unfold hasX; rw [vx, vc, hh]; rfl
  · unfold applyX
    rw [vc, vx]
    simp only [Bool.and_self, if_true]
    have h6 := applyB_six.2 hh
    rw [h6]
    rfl
  · unfold eventsX evsBk
    rw [if_pos vc, if_pos vb, length_sortS, length_sortS, hl]
end Go.Pu
end
/- part PuAtt -/
section
namespace Go.Pu
structure At where
  num : Int
  tick : Int
  hun : Int
deriving Inhabited, DecidableEq
structure AR where
  kind : Int
  most : Int
  pause : Int
  keep : Int
deriving Inhabited, DecidableEq
def At.rank (a : At) : Int := -a.hun
def timeB (t : Int) : Bool := decide (0 ≤ t) && decide (t ≤ 1099511627776)
def rightB (r : AR) : Bool := decide (0 ≤ r.kind) && (decide (r.kind ≤ 2) && (decide (1 ≤ r.most) && (decide (r.most ≤ 16) && (timeB r.pause && (if r.kind = 2 then decide (1 ≤ r.keep) && decide (r.keep ≤ r.most) else decide (r.keep = 0))))))
def prevT (l : List At) (k : Nat) : Int := if k = 0 then 0 else (l.getD (k - 1) default).tick
def attB (l : List At) (k : Nat) : Bool := decide ((l.getD k default).num = (k : Int) + 1) && (decide (prevT l k ≤ (l.getD k default).tick) && (timeB (l.getD k default).tick && (decide (0 ≤ (l.getD k default).hun) && decide ((l.getD k default).hun ≤ 100000000))))
def validAt (r : AR) (l : List At) : Bool := rightB r && (decide ((l.length : Int) ≤ r.most) && (List.range l.length).all (attB l))
def keepA (r : AR) : Int := if r.kind = 1 then 1 else max 1 r.keep
def chosenA (r : AR) (l : List At) : List At := (if r.kind = 1 then l.reverse else sortS At.rank l).take (min (keepA r) l.length).toNat
def sumA (l : List At) : Int := (l.map At.hun).foldl (· + ·) 0
def pointsA (r : AR) (l : List At) : Int := if (chosenA r l).length = 0 then 0 else Int.tdiv (2 * sumA (chosenA r l) + (chosenA r l).length) (2 * (chosenA r l).length)
def finalA (r : AR) (l : List At) : Int × Int := if validAt r l then (pointsA r l, 0) else (0, 1)
end Go.Pu
end
/- part PuPoints -/
section
namespace Go.Pu
def attC (s x : List UInt8) (y : En) : Bool := decide (0 < y.grs.length) && (y.key.stu == s && y.key.ex == x)
def attN (acc : List At) (y : En) : At := ⟨acc.length + 1, y.tick, (y.grs.getD (y.grs.length - 1) default).hun⟩
def attF (s x : List UInt8) (acc : List At) (y : En) : List At := if attC s x y then acc ++ [attN acc y] else acc
def attsOf (l : List En) (s x : List UInt8) : List At := l.foldl (attF s x) []
def pointsX (b : Bk) (s x : List UInt8) (r : AR) : Int × Int := if validB b then finalA r (attsOf b.ens s x) else (0, 1)
theorem attF_len (s x : List UInt8) (acc : List At) (y : En) : (attF s x acc y).length ≤ acc.length + 1 := by
  unfold attF
  split
  · simp
  · omega
theorem attsOf_take {l : List En} {k : Nat} (h : k < l.length) (s x : List UInt8) : attsOf (l.take (k + 1)) s x = attF s x (attsOf (l.take k) s x) (l.getD k default) := by
  unfold attsOf
  rw [List.take_succ_eq_append_getElem h, List.foldl_append, show l.getD k default = l[k] by simp [List.getD_eq_getElem?_getD, h]]
  rfl
theorem attsOf_len (l : List En) (s x : List UInt8) : (attsOf l s x).length ≤ l.length := by
  have key : ∀ k, k ≤ l.length → (attsOf (l.take k) s x).length ≤ k := by
    intro k
    induction k with
    | zero => intro _; simp [attsOf]
    | succ k ih =>
      intro hk
      rw [attsOf_take (by omega)]
      have := attF_len s x (attsOf (l.take k) s x) (l.getD k default)
      have := ih (by omega)
      omega
  have := key l.length (Nat.le_refl _)
  rwa [List.take_length] at this
end Go.Pu
end
/- part PuStudent -/
section
namespace Go.Pu
def ofStu (s : List UInt8) (y : En) : Bool := y.key.stu == s
def maxT (l : List Ev) : Int := l.foldl (fun m e => if e.tick > m then e.tick else m) 0
def studentX (b : Bk) (s : List UInt8) : Bk := if validB b then ⟨maxT (evsBk (b.ens.filter (ofStu s))), b.ens.filter (ofStu s)⟩ else empty
theorem maxT_take {l : List Ev} {k : Nat} (h : k < l.length) : maxT (l.take (k + 1)) = if (l.getD k default).tick > maxT (l.take k) then (l.getD k default).tick else maxT (l.take k) := by
  unfold maxT
  rw [List.take_succ_eq_append_getElem h, List.foldl_append, show l.getD k default = l[k] by simp [List.getD_eq_getElem?_getD, h]]
  rfl
theorem filter_take {l : List En} {k : Nat} (h : k < l.length) (p : En → Bool) : (l.take (k + 1)).filter p = if p (l.getD k default) then (l.take k).filter p ++ [l.getD k default] else (l.take k).filter p := by
  rw [List.take_succ_eq_append_getElem h, List.filter_append, show l.getD k default = l[k] by simp [List.getD_eq_getElem?_getD, h], List.filter_cons]
  split
  · rfl
  · simp
theorem evsRaw_filter (l : List En) (p : En → Bool) : (evsRaw (l.filter p)).length ≤ (evsRaw l).length := by
  induction l with
  | nil => exact Nat.le_refl _
  | cons y l ih =>
    rw [List.filter_cons]
    split
    · rw [evsRaw_cons, evsRaw_cons, List.length_append, List.length_append]; omega
    · rw [evsRaw_cons, List.length_append]; omega
end Go.Pu
end
/- part PuIndep -/
section
namespace Go.Pu
theorem filter_set_none {l : List En} {i : Nat} {y : En} {p : En → Bool} (hi : i < l.length) (h1 : p (l.getD i default) = false) (h2 : p y = false) : (l.set i y).filter p = l.filter p := by
  have e2 : l.filter p = (l.take i ++ l.getD i default :: l.drop (i + 1)).filter p := congrArg (List.filter p) (split_at hi)
  rw [e2, set_at hi, List.filter_append, List.filter_append, List.filter_cons, List.filter_cons, if_neg (by simp [h2]), if_neg (by rw [h1]; simp)]
theorem filter_app_none {l : List En} {n : En} {p : En → Bool} (h : p n = false) : (l ++ [n]).filter p = l.filter p := by
  rw [List.filter_append, List.filter_cons, if_neg (by simp [h])]
  simp
/-- an event of another student leaves a student's attempts alone -/
theorem filter_other {b c : Bk} {x : Ev} {s : List UInt8} (h : stepB b x = some c) (hs : x.key.stu ≠ s) : c.ens.filter (ofStu s) = b.ens.filter (ofStu s) := by
  obtain ⟨hv, _, _, hr⟩ := stepB_iff.1 h
  cases hr with
  | sub k0 h1 h2 hc =>
    subst hc
    exact filter_app_none (by simp [ofStu, hs])
  | upd k0 i y hi hst hc =>
    subst hc
    obtain ⟨hlt, hk, _⟩ := findK_some hi
    have hyk := stepE_key hv k0 hk hst
    refine filter_set_none hlt ?_ ?_
    · unfold ofStu; rw [hk]; simpa using hs
    · unfold ofStu; rw [hyk, hk]; simpa using hs
theorem attC_stu {s x : List UInt8} {y : En} (h : ofStu s y = false) : attC s x y = false := by
  unfold attC
  unfold ofStu at h
  rw [h]
  simp
theorem atts_filter (s x : List UInt8) : ∀ (l : List En) (acc : List At), l.foldl (attF s x) acc = (l.filter (ofStu s)).foldl (attF s x) acc
  | [], _ => rfl
  | y :: l, acc => by
    rw [List.foldl_cons, List.filter_cons]
    cases hc : ofStu s y with
    | true => rw [if_pos rfl, List.foldl_cons]; exact atts_filter s x l _
    | false =>
      rw [if_neg (by simp)]
      have : attF s x acc y = acc := by unfold attF; rw [attC_stu hc]; rfl
      rw [this]
      exact atts_filter s x l _
theorem atts_other {b c : Bk} {e : Ev} {s x : List UInt8} (h : stepB b e = some c) (hs : e.key.stu ≠ s) : attsOf c.ens s x = attsOf b.ens s x := by
  unfold attsOf
  rw [atts_filter s x c.ens, atts_filter s x b.ens, filter_other h hs]
theorem countK_app_ne {l : List En} {n : En} {k : K} (h : n.key.stu ≠ k.stu) : countK (l ++ [n]) k = countK l k := by
  unfold countK
  rw [List.countP_append]
  simp [List.countP_cons, h]
theorem key_ne {a b : K} (h : a.stu ≠ b.stu) : a ≠ b := fun e => h (by rw [e])
theorem indep {b c d : Bk} {x y : Ev} (hx : stepB b x = some c) (hy : stepB b y = some d) (ht : y.tick = x.tick) (hne : x.key.stu ≠ y.key.stu) :
    (applyB c y).1 = 8 ∨ ∃ p q, stepB c y = some p ∧ stepB d x = some q ∧ ∀ s, p.ens.filter (ofStu s) = q.ens.filter (ofStu s) := by
  obtain ⟨vx, nx, tx, rx⟩ := stepB_iff.1 hx
  obtain ⟨vy, ny, ty, ry⟩ := stepB_iff.1 hy
  have hkk : x.key ≠ y.key := key_ne hne
  cases rx with
  | sub kx ax lx hc =>
    subst hc
    cases ry with
    | sub ky ay ly hd =>
      subst hd
      have hcn : hasB (b.ens ++ [⟨x.key, x.tick, x.text, [], []⟩]) y = false := by rw [hasB_app_ne (by exact hkk)]; exact ny
      have hdn : hasB (b.ens ++ [⟨y.key, y.tick, y.text, [], []⟩]) x = false := by rw [hasB_app_ne (by exact fun h => hkk h.symm)]; exact nx
      have hca : countK (b.ens ++ [⟨x.key, x.tick, x.text, [], []⟩]) y.key = countK b.ens y.key := countK_app_ne (by exact hne)
      have hda : countK (b.ens ++ [⟨y.key, y.tick, y.text, [], []⟩]) x.key = countK b.ens x.key := countK_app_ne (by exact fun h => hne h.symm)
      by_cases h256 : (b.ens ++ [(⟨x.key, x.tick, x.text, [], []⟩ : En)]).length < 256
      · right
        refine ⟨_, _, stepB_mk vy hcn (by show x.tick ≤ y.tick; omega) (.sub ky (by show y.key.att = _; dsimp only; rw [hca]; exact ay) h256 rfl), stepB_mk vx hdn (by show y.tick ≤ x.tick; omega) (.sub kx (by dsimp only; rw [hda]; exact ax) (by simpa using h256) rfl), fun s => ?_⟩
        dsimp only
        by_cases hsx : x.key.stu = s
        · have hsy : ¬ y.key.stu = s := fun h => hne (hsx.trans h.symm)
          rw [filter_app_none (by simp [ofStu, hsy]), List.filter_append, List.filter_append, filter_app_none (by simp [ofStu, hsy])]
        · rw [List.filter_append, filter_app_none (by simp [ofStu, hsx]), filter_app_none (by simp [ofStu, hsx]), List.filter_append]
      · left
        unfold applyB
        rw [if_neg (by simp [hcn]), if_neg (by show ¬ y.tick < x.tick; omega), if_pos ky, if_neg (by rw [hca, ay]; simp), if_pos (by dsimp only; omega)]
    | upd ky j w hj hw hd =>
      subst hd
      right
      obtain ⟨hlt, hkj, _⟩ := findK_some hj
      have hwk := stepE_key vy ky hkj hw
      refine ⟨⟨y.tick, (b.ens ++ [(⟨x.key, x.tick, x.text, [], []⟩ : En)]).set j w⟩, ⟨x.tick, b.ens.set j w ++ [(⟨x.key, x.tick, x.text, [], []⟩ : En)]⟩, stepB_mk vy ?_ (by show x.tick ≤ y.tick; omega) (.upd ky j w ?_ ?_ rfl), stepB_mk vx ?_ (by show y.tick ≤ x.tick; omega) (.sub kx ?_ ?_ rfl), fun s => ?_⟩
      · rw [hasB_app_ne (by exact hkk)]; exact ny
      · dsimp only; rw [findK_app_ne (by exact hkk)]; exact hj
      · dsimp only; rw [getD_app_lt hlt]; exact hw
      · dsimp only; rw [hasB_set_ne hlt hwk (by rw [hkj]; exact fun h => hkk h.symm)]; exact nx
      · dsimp only; rw [countK_set hlt hwk]; exact ax
      · dsimp only; rw [List.length_set]; exact lx
      · dsimp only; rw [List.set_append_left _ _ hlt]
  | upd kx i z hi hz hc =>
    subst hc
    obtain ⟨hlti, hki, _⟩ := findK_some hi
    have hzk := stepE_key vx kx hki hz
    cases ry with
    | sub ky ay ly hd =>
      subst hd
      right
      refine ⟨⟨y.tick, b.ens.set i z ++ [(⟨y.key, y.tick, y.text, [], []⟩ : En)]⟩, ⟨x.tick, (b.ens ++ [(⟨y.key, y.tick, y.text, [], []⟩ : En)]).set i z⟩, stepB_mk vy ?_ (by show x.tick ≤ y.tick; omega) (.sub ky ?_ ?_ rfl), stepB_mk vx ?_ (by show y.tick ≤ x.tick; omega) (.upd kx i z ?_ ?_ rfl), fun s => ?_⟩
      · dsimp only; rw [hasB_set_ne hlti hzk (by rw [hki]; exact hkk)]; exact ny
      · dsimp only; rw [countK_set hlti hzk]; exact ay
      · dsimp only; rw [List.length_set]; exact ly
      · dsimp only; rw [hasB_app_ne (by exact fun h => hkk h.symm)]; exact nx
      · dsimp only; rw [findK_app_ne (by exact fun h => hkk h.symm)]; exact hi
      · dsimp only; rw [getD_app_lt hlti]; exact hz
      · dsimp only; rw [List.set_append_left _ _ hlti]
    | upd ky j w hj hw hd =>
      subst hd
      right
      obtain ⟨hltj, hkj, _⟩ := findK_some hj
      have hwk := stepE_key vy ky hkj hw
      have hij : i ≠ j := by rintro rfl; exact hkk (hki.symm.trans hkj)
      refine ⟨⟨y.tick, (b.ens.set i z).set j w⟩, ⟨x.tick, (b.ens.set j w).set i z⟩, stepB_mk vy ?_ (by show x.tick ≤ y.tick; omega) (.upd ky j w ?_ ?_ rfl), stepB_mk vx ?_ (by show y.tick ≤ x.tick; omega) (.upd kx i z ?_ ?_ rfl), fun s => ?_⟩
      · dsimp only; rw [hasB_set_ne hlti hzk (by rw [hki]; exact hkk)]; exact ny
      · dsimp only; rw [findK_set hlti hzk]; exact hj
      · dsimp only; rw [getD_set_ne hij]; exact hw
      · dsimp only; rw [hasB_set_ne hltj hwk (by rw [hkj]; exact fun h => hkk h.symm)]; exact nx
      · dsimp only; rw [findK_set hltj hwk]; exact hi
      · dsimp only; rw [getD_set_ne (Ne.symm hij)]; exact hz
      · dsimp only; rw [List.set_comm _ _ hij]
end Go.Pu
end
/- part PuStudents -/
section
namespace Go.Pu
theorem applyX_of_step {b c : Bk} {e : Ev} (hb : validB b = true) (h : stepB b e = some c) : applyX b e = (0, c) := by
  obtain ⟨hv, h2, h3, h4⟩ := stepB_iff.1 h
  have := applyB_iff.2 ⟨h2, h3, h4⟩
  unfold applyX
  rw [hb, hv, this]
  rfl
theorem student_same {b c : Bk} {s : List UInt8} (hb : validB b = true) (hc : validB c = true) (h : b.ens.filter (ofStu s) = c.ens.filter (ofStu s)) : studentX b s = studentX c s := by
  unfold studentX
  rw [if_pos hb, if_pos hc, h]
structure Stu1 (b c : Bk) (x : Ev) (s e : List UInt8) (r : AR) : Prop where
  stu : studentX b s = studentX c s
  pts : pointsX b s e r = pointsX c s e r
theorem students1 {b c : Bk} {x : Ev} (h : applyX b x = (0, c)) {s : List UInt8} (hs : x.key.stu ≠ s) (e : List UInt8) (r : AR) : Stu1 b c x s e r := by
  obtain ⟨vb, vx, hst⟩ := stepB_of h
  have vc := valid_step vb hst
  refine ⟨student_same vb vc (filter_other hst hs).symm, ?_⟩
  unfold pointsX
  rw [if_pos vb, if_pos vc, atts_other hst hs]
theorem students2 {b c d p q : Bk} {x y : Ev} {g h : Int} (h1 : applyX b x = (0, c)) (h2 : applyX b y = (0, d)) (ht : y.tick = x.tick) (hne : x.key.stu ≠ y.key.stu) (h3 : applyX c y = (g, p)) (h4 : applyX d x = (h, q)) :
    g = 8 ∨ (g = 0 ∧ h = 0 ∧ ∀ s, studentX p s = studentX q s) := by
  obtain ⟨vb, vx, hx⟩ := stepB_of h1
  obtain ⟨_, vy, hy⟩ := stepB_of h2
  have vc := valid_step vb hx
  have vd := valid_step vb hy
  rcases indep hx hy ht hne with h8 | ⟨p', q', hp, hq, hf⟩
  · left
    unfold applyX at h3
    rw [vc, vy] at h3
    simp only [Bool.and_self, if_true, h8] at h3
    rw [if_neg (by decide)] at h3
    exact (Prod.mk.inj h3).1.symm
  · right
    have e1 := (applyX_of_step vc hp).symm.trans h3
    have e2 := (applyX_of_step vd hq).symm.trans h4
    injection e1 with e1 e3
    injection e2 with e2 e4
    subst e1 e2 e3 e4
    exact ⟨rfl, rfl, fun s => student_same (valid_step vc hp) (valid_step vd hq) (hf s)⟩
def SmN (n : Nat) (b : Bk) : Prop := (evsRaw b.ens).length ≤ n ∧ ∀ e ∈ evsRaw b.ens, validEv e = true
theorem smN_empty (n : Nat) : SmN n empty := ⟨by simp [empty, evsRaw], by simp [empty, evsRaw]⟩
theorem smN_apply {n : Nat} {b : Bk} {e : Ev} (h : SmN n b) : SmN (n + 1) (applyX b e).2 := by
  by_cases h0 : (applyX b e).1 = 0
  · obtain ⟨vb, vx, hst⟩ := stepB_of (b := b) (e := e) (c := (applyX b e).2) (Prod.ext h0 rfl)
    obtain ⟨_, _, _, hr⟩ := stepB_iff.1 hst
    exact ⟨by have := stepR_len vx hr; have := h.1; omega, (inv_step (inv_valid vb) hst).valid⟩
  · rw [applyX_fail h0]
    exact smN_empty _
end Go.Pu
end
