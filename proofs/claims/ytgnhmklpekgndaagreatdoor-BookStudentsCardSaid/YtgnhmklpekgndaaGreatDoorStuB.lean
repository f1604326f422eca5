/-
  HELPING TEXT, shared by the claims on the book. Own work (AI agent).
-/
import Derived.Test.YtgnhmklpekgndaaGreatDoorStuA
import Derived.Orders
import Derived.Tactics
import Derived.Below
import Derived.Laws.StructEq
import Derived.Laws.Cells
import Derived.IntWalk
import Derived.Lib.Builder
import Derived.Lib.UnsafeStr
import Derived.Laws.BytesString
import Derived.Laws.MakeOwn
import Derived.Laws.AppendOwn
set_option linter.all false
/- part AvBase -/
section
namespace Go.Av

inductive AV where
  | any
  | int (k : IntKind) (n : Int)
  | bool (b : Bool)
  | str (s : List UInt8)
  | nilp
  | nils
  | emp
  | ans
  | sl (sz n : Nat) (f : Nat → List AV)
  | ref (q : Nat)
  | loc (q off : Nat)
  | locE (q sz k off : Nat)
  | ptr (cells : List AV)
  | agg (cells : List AV)
  | tup (vs : List AV)
  | fn (f : Nat) (caps : List AV)
  | nilfn
  | nilif
  | iface (t : Nat) (v : AV)
  | cnd (g : Bool) (v : AV)
  | own (e sz n : Nat) (f : Nat → List AV)

abbrev Imm := Nat → Nat → Option Value

def RdI (I : Imm) (b o : Nat) (vs : List Value) : Prop := ∀ j v, vs[j]? = some v → I b (o + j) = some v

mutual
def Den (I : Imm) (β : Option (Nat → Value)) : AV → Value → Prop
  | .any, _ => True
  | .int k n, v => v = .int k n
  | .bool b, v => v = .bool b
  | .str s, v => v = .string ⟨⟨s⟩⟩
  | .nilp, v => v = .pointer none
  | .nils, v => v = .slice none 0 0
  | .emp, v => ∃ a, v = .slice a 0 0
  | .ans, v => ∃ a n c, v = .slice a n c
  | .sl sz n f, v => ∃ a c, v = .slice a n c ∧ n ≤ c ∧ c ≤ maxLen ∧
      (n = 0 ∨ ∃ b o, a = some ⟨b, o, none⟩ ∧ ∀ i, i < n → ∃ vs, vs.length = sz ∧ RdI I b (o + i * sz) vs ∧ DenL I none (f i) vs)
  | .ref q, v => ∃ g, β = some g ∧ v = g q ∧ ∃ a n c, v = .slice a n c
  | .loc q off, v => ∃ g b, β = some g ∧ g q = .pointer (some ⟨b, 0, none⟩) ∧ v = .pointer (some ⟨b, off, none⟩)
  | .locE q sz k off, v => ∃ g b n c, β = some g ∧ g q = .slice (some ⟨b, 0, none⟩) n c ∧ v = .pointer (some ⟨b, k * sz + off, none⟩)
  | .ptr cells, v => ∃ b o vs, v = .pointer (some ⟨b, o, none⟩) ∧ RdI I b o vs ∧ DenL I none cells vs
  | .agg cells, v => ∃ vs : List Value, v = .agg ⟨vs⟩ ∧ DenL I β cells vs
  | .tup cells, v => ∃ vs : List Value, v = .tuple ⟨vs⟩ ∧ DenL I β cells vs
  | .fn f caps, v => ∃ vs : List Value, v = .func (.func f) #[] ⟨vs⟩ ∧ DenL I β caps vs
  | .nilfn, v => v = .nilFunc
  | .nilif, v => v = .nilIface
  | .iface t x, v => ∃ u, v = .iface t u ∧ Den I β x u
  | .cnd g x, v => (g = true → Den I β x v) ∧ (g = false → v = undef)
  | .own .., _ => False
def DenL (I : Imm) (β : Option (Nat → Value)) : List AV → List Value → Prop
  | [], vs => vs = []
  | x :: xs, vs => ∃ v ws, vs = v :: ws ∧ Den I β x v ∧ DenL I β xs ws
end

def Imm.le (I J : Imm) : Prop := ∀ b o u, I b o = some u → J b o = some u
theorem Imm.le.refl (I : Imm) : I.le I := fun _ _ _ h => h
theorem Imm.le.trans {I J K : Imm} (h : I.le J) (k : J.le K) : I.le K := fun b o u e => k b o u (h b o u e)
theorem RdI.mono {I J : Imm} (h : I.le J) {b o vs} (r : RdI I b o vs) : RdI J b o vs := fun j v e => h _ _ _ (r j v e)

mutual
theorem Den.mono {I J : Imm} (h : I.le J) (β : Option (Nat → Value)) : ∀ (av : AV) (v : Value), Den I β av v → Den J β av v
  | .any, _, _ => trivial
  | .int .., _, e | .bool .., _, e | .str .., _, e | .nilp, _, e | .nils, _, e | .emp, _, e | .ans, _, e | .ref .., _, e | .loc .., _, e | .locE .., _, e | .nilfn, _, e | .nilif, _, e | .own .., _, e => e
  | .sl _ _ f, _, ⟨a, c, e, h1, h2, h3⟩ => by
    refine ⟨a, c, e, h1, h2, h3.imp id fun ⟨b, o, ea, hh⟩ => ⟨b, o, ea, fun i hi => ?_⟩⟩
    obtain ⟨vs, l, r, d⟩ := hh i hi
    exact ⟨vs, l, r.mono h, DenL.mono h none (f i) vs d⟩
  | .ptr cells, v, ⟨b, o, vs, e, r, d⟩ => ⟨b, o, vs, e, r.mono h, DenL.mono h none cells vs d⟩
  | .agg cells, v, ⟨vs, e, d⟩ => ⟨vs, e, DenL.mono h β cells vs d⟩
  | .tup cells, v, ⟨vs, e, d⟩ => ⟨vs, e, DenL.mono h β cells vs d⟩
  | .fn f caps, v, ⟨vs, e, d⟩ => ⟨vs, e, DenL.mono h β caps vs d⟩
  | .iface t x, v, ⟨u, e, d⟩ => ⟨u, e, Den.mono h β x u d⟩
  | .cnd g x, v, d => ⟨fun e => Den.mono h β x v (d.1 e), d.2⟩
theorem DenL.mono {I J : Imm} (h : I.le J) (β : Option (Nat → Value)) : ∀ (xs : List AV) (vs : List Value), DenL I β xs vs → DenL J β xs vs
  | [], _, e => e
  | x :: xs, _, ⟨v, ws, e, d, r⟩ => ⟨v, ws, e, Den.mono h β x v d, DenL.mono h β xs ws r⟩
end

/- names that a term mentions: none of them is q -/
mutual
def noref (q : Nat) : AV → Bool
  | .ref r => !Nat.beq r q
  | .loc r _ => !Nat.beq r q
  | .locE r _ _ _ => !Nat.beq r q
  | .agg cs => norefL q cs
  | .tup cs => norefL q cs
  | .fn _ cs => norefL q cs
  | .iface _ v => noref q v
  | .cnd _ v => noref q v
  | _ => true
def norefL (q : Nat) : List AV → Bool
  | [] => true
  | x :: xs => noref q x && norefL q xs
end
def upd (g : Nat → Value) (q : Nat) (v : Value) : Nat → Value := fun r => if r = q then v else g r
theorem upd_same (g : Nat → Value) (q v) : upd g q v q = v := by simp [upd]
theorem upd_ne (g : Nat → Value) {q r} (v) (h : r ≠ q) : upd g q v r = g r := by simp [upd, h]

mutual
theorem Den.congr {I : Imm} {g g' : Nat → Value} : ∀ (av : AV) (v : Value), (∀ q, noref q av = false → g' q = g q) → Den I (some g) av v → Den I (some g') av v
  | .any, _, _, _ => trivial
  | .int .., _, _, e | .bool .., _, _, e | .str .., _, _, e | .nilp, _, _, e | .nils, _, _, e | .emp, _, _, e | .ans, _, _, e | .nilfn, _, _, e | .nilif, _, _, e | .own .., _, _, e => e
  | .ref q, v, h, ⟨g0, e, hv, hs⟩ => ⟨g', rfl, by cases e; rw [h q (by simp [noref])]; exact hv, hs⟩
  | .loc q off, v, h, ⟨g0, b, e, e1, e2⟩ => ⟨g', b, rfl, by cases e; rw [h q (by simp [noref])]; exact e1, e2⟩
  | .locE q sz k off, v, h, ⟨g0, b, n, c, e, e1, e2⟩ => ⟨g', b, n, c, rfl, by cases e; rw [h q (by simp [noref])]; exact e1, e2⟩
  | .sl .., _, _, e => e
  | .ptr .., _, _, e => e
  | .agg cells, v, h, ⟨vs, e, d⟩ => ⟨vs, e, DenL.congr cells vs (fun q hq => h q (by simpa [noref] using hq)) d⟩
  | .tup cells, v, h, ⟨vs, e, d⟩ => ⟨vs, e, DenL.congr cells vs (fun q hq => h q (by simpa [noref] using hq)) d⟩
  | .fn f caps, v, h, ⟨vs, e, d⟩ => ⟨vs, e, DenL.congr caps vs (fun q hq => h q (by simpa [noref] using hq)) d⟩
  | .iface t x, v, h, ⟨u, e, d⟩ => ⟨u, e, Den.congr x u (fun q hq => h q (by simpa [noref] using hq)) d⟩
  | .cnd c x, v, h, d => ⟨fun e => Den.congr x v (fun q hq => h q (by simpa [noref] using hq)) (d.1 e), d.2⟩
theorem DenL.congr {I : Imm} {g g' : Nat → Value} : ∀ (xs : List AV) (vs : List Value), (∀ q, norefL q xs = false → g' q = g q) → DenL I (some g) xs vs → DenL I (some g') xs vs
  | [], _, _, e => e
  | x :: xs, vs, h, ⟨v, ws, e, d, r⟩ => ⟨v, ws, e, Den.congr x v (fun q hq => h q (by simp [norefL, hq])) d, DenL.congr xs ws (fun q hq => h q (by simp [norefL, hq])) r⟩
end
/- a term without names: its reading does not hang on the names -/
mutual
theorem Den.pure {I : Imm} {g : Nat → Value} : ∀ (av : AV) (v : Value), Den I none av v → Den I (some g) av v
  | .any, _, _ => trivial
  | .int .., _, e | .bool .., _, e | .str .., _, e | .nilp, _, e | .nils, _, e | .emp, _, e | .ans, _, e | .nilfn, _, e | .nilif, _, e | .own .., _, e => e
  | .ref q, v, ⟨g0, e, hv, _⟩ => by cases e
  | .loc q off, v, ⟨g0, b, e, e1, e2⟩ => by cases e
  | .locE q sz k off, v, ⟨g0, b, n, c, e, e1, e2⟩ => by cases e
  | .sl .., _, e => e
  | .ptr .., _, e => e
  | .agg cells, v, ⟨vs, e, d⟩ => ⟨vs, e, DenL.pure cells vs d⟩
  | .tup cells, v, ⟨vs, e, d⟩ => ⟨vs, e, DenL.pure cells vs d⟩
  | .fn f caps, v, ⟨vs, e, d⟩ => ⟨vs, e, DenL.pure caps vs d⟩
  | .iface t x, v, ⟨u, e, d⟩ => ⟨u, e, Den.pure x u d⟩
  | .cnd c x, v, d => ⟨fun e => Den.pure x v (d.1 e), d.2⟩
theorem DenL.pure {I : Imm} {g : Nat → Value} : ∀ (xs : List AV) (vs : List Value), DenL I none xs vs → DenL I (some g) xs vs
  | [], _, e => e
  | x :: xs, _, ⟨v, ws, e, d, r⟩ => ⟨v, ws, e, Den.pure x v d, DenL.pure xs ws r⟩
end
mutual
def isPure : AV → Bool
  | .ref _ => false
  | .loc _ _ => false
  | .locE _ _ _ _ => false
  | .agg cs => isPureL cs
  | .tup cs => isPureL cs
  | .fn _ cs => isPureL cs
  | .iface _ v => isPure v
  | .cnd _ v => isPure v
  | _ => true
def isPureL : List AV → Bool
  | [] => true
  | x :: xs => isPure x && isPureL xs
end
mutual
theorem Den.unref {I : Imm} {β : Option (Nat → Value)} : ∀ (av : AV) (v : Value), isPure av = true → Den I β av v → Den I none av v
  | .any, _, _, _ => trivial
  | .int .., _, _, e | .bool .., _, _, e | .str .., _, _, e | .nilp, _, _, e | .nils, _, _, e | .emp, _, _, e | .ans, _, _, e | .nilfn, _, _, e | .nilif, _, _, e | .own .., _, _, e => e
  | .ref q, v, h, _ => by simp [isPure] at h
  | .loc q off, v, h, _ => by simp [isPure] at h
  | .locE q sz k off, v, h, _ => by simp [isPure] at h
  | .sl .., _, _, e => e
  | .ptr .., _, _, e => e
  | .agg cells, v, h, ⟨vs, e, d⟩ => ⟨vs, e, DenL.unref cells vs (by simpa [isPure] using h) d⟩
  | .tup cells, v, h, ⟨vs, e, d⟩ => ⟨vs, e, DenL.unref cells vs (by simpa [isPure] using h) d⟩
  | .fn f caps, v, h, ⟨vs, e, d⟩ => ⟨vs, e, DenL.unref caps vs (by simpa [isPure] using h) d⟩
  | .iface t x, v, h, ⟨u, e, d⟩ => ⟨u, e, Den.unref x u (by simpa [isPure] using h) d⟩
  | .cnd c x, v, h, d => ⟨fun e => Den.unref x v (by simpa [isPure] using h) (d.1 e), d.2⟩
theorem DenL.unref {I : Imm} {β : Option (Nat → Value)} : ∀ (xs : List AV) (vs : List Value), isPureL xs = true → DenL I β xs vs → DenL I none xs vs
  | [], _, _, e => e
  | x :: xs, vs, h, ⟨v, ws, e, d, r⟩ => by
    simp only [isPureL, Bool.and_eq_true] at h
    exact ⟨v, ws, e, Den.unref x v h.1 d, DenL.unref xs ws h.2 r⟩
end

theorem DenL.length {I : Imm} {β : Option (Nat → Value)} : ∀ {xs : List AV} {vs : List Value}, DenL I β xs vs → xs.length = vs.length
  | [], _, e => by cases e; rfl
  | _ :: _, _, ⟨_, _, e, _, r⟩ => by cases e; simp [DenL.length r]
theorem DenL.drop {I : Imm} {β : Option (Nat → Value)} : ∀ (n : Nat) {xs : List AV} {vs : List Value}, DenL I β xs vs → DenL I β (xs.drop n) (vs.drop n)
  | 0, _, _, h => h
  | _ + 1, [], _, e => by cases e; rfl
  | n + 1, _ :: _, _, ⟨_, _, e, _, r⟩ => by cases e; exact DenL.drop n r
theorem DenL.take {I : Imm} {β : Option (Nat → Value)} : ∀ (n : Nat) {xs : List AV} {vs : List Value}, DenL I β xs vs → DenL I β (xs.take n) (vs.take n)
  | 0, _, _, _ => rfl
  | _ + 1, [], _, e => by cases e; rfl
  | n + 1, _ :: _, _, ⟨v, ws, e, d, r⟩ => by cases e; exact ⟨v, ws.take n, rfl, d, DenL.take n r⟩
theorem DenL.append {I : Imm} {β : Option (Nat → Value)} : ∀ {xs : List AV} {vs : List Value} {ys : List AV} {ws : List Value}, DenL I β xs vs → DenL I β ys ws → DenL I β (xs ++ ys) (vs ++ ws)
  | [], _, _, _, e, h => by cases e; exact h
  | _ :: _, _, _, _, ⟨v, ws, e, d, r⟩, h => by cases e; exact ⟨v, ws ++ _, rfl, d, DenL.append r h⟩
theorem DenL.get {I : Imm} {β : Option (Nat → Value)} {xs : List AV} {vs : List Value} (h : DenL I β xs vs) (i : Nat) {x : AV} (hx : xs[i]? = some x) : ∃ v, vs[i]? = some v ∧ Den I β x v := by
  induction i generalizing xs vs with
  | zero =>
    cases xs with
    | nil => cases hx
    | cons y ys => obtain ⟨v, ws, e, d, _⟩ := h; cases e; cases hx; exact ⟨v, rfl, d⟩
  | succ i ih =>
    cases xs with
    | nil => cases hx
    | cons y ys => obtain ⟨v, ws, e, _, r⟩ := h; cases e; exact ih r hx

/-- names from here on are never given anew -/
def PB : Nat := 1000000
/-- the tables that the program reads: how many elements, of one cell each -/
def pow10F (i : Nat) : List AV := [.int .u64 ((10 : Int) ^ i)]
def tabOf (P : Program) (g : Nat) : Option (Nat × (Nat → List AV)) :=
  match P.globals[g]? with
  | some gl => bif gl.name == "internal/strconv.uint64pow10" then some (20, pow10F) else none
  | none => none
def TabOK (P : Program) (I : Imm) : Prop := ∀ g n f, tabOf P g = some (n, f) → ∀ i, i < n → ∃ v, I g i = some v ∧ DenL I none (f i) [v]
theorem TabOK.mono {P : Program} {I J : Imm} (hle : I.le J) (h : TabOK P I) : TabOK P J := fun g n f hg i hi => by
  obtain ⟨v, h1, h2⟩ := h g n f hg i hi
  exact ⟨v, hle _ _ _ h1, DenL.mono hle _ _ _ h2⟩
structure Ctx (P : Program) where
  w0 : World
  I0 : Imm
  X : Nat → Prop
  nt : Nat
  g0 : Nat → Value
  tab : TabOK P I0

inductive Rt where
  | blk (ty : Nat) (cells : List AV)
  | row (e sz n : Nat) (f : Nat → List AV)
  | rowO (e sz n : Nat) (f : Nat → List AV) (i : Nat) (fs : List (Nat × Nat))

structure St where
  env : List (Nat × AV)
  rts : List (Nat × Rt)

def look : List (Nat × AV) → Nat → AV
  | [], _ => .any
  | (k, v) :: r, n => bif Nat.beq k n then v else look r n
def lookR : List (Nat × Rt) → Nat → Option Rt
  | [], _ => none
  | (k, v) :: r, n => bif Nat.beq k n then some v else lookR r n
def norefF (q : Nat) : List (Nat × Nat) → Bool
  | [] => true
  | (_, p) :: r => !Nat.beq p q && norefF q r
def lookF : List (Nat × Nat) → Nat → Option Nat
  | [], _ => none
  | (k, q) :: r, n => bif Nat.beq k n then some q else lookF r n
def norefR (q : Nat) : Rt → Bool
  | .blk _ cs => norefL q cs
  | .row .. => true
  | .rowO _ _ _ _ _ fs => norefF q fs
def freshE (q : Nat) : List (Nat × AV) → Bool
  | [] => true
  | (_, v) :: r => noref q v && freshE q r
def freshR (q : Nat) : List (Nat × Rt) → Bool
  | [] => true
  | (k, v) :: r => !Nat.beq k q && (norefR q v && freshR q r)
def fresh (q : Nat) (s : St) : Bool := freshE q s.env && freshR q s.rts
def St.put (s : St) (d : Nat) (v : AV) : St := ⟨(d, v) :: s.env, s.rts⟩
def eraseR (q : Nat) : List (Nat × Rt) → List (Nat × Rt)
  | [] => []
  | (k, v) :: r => bif Nat.beq k q then eraseR q r else (k, v) :: eraseR q r
def setR (q : Nat) (x : Rt) : List (Nat × Rt) → List (Nat × Rt)
  | [] => []
  | (k, v) :: r => bif Nat.beq k q then (k, x) :: eraseR q r else (k, v) :: setR q x r

/-- a slice with a row of its own, that a cell holds -/
def SubOK (I : Imm) (ow : Nat → List Nat) (w : World) (path : List Nat) (e sz n : Nat) (f : Nat → List AV) (v : Value) : Prop :=
  (∃ a, v = .slice a 0 0 ∧ n = 0) ∨
    ∃ b cap cur, v = .slice (some ⟨b, 0, none⟩) n cap ∧ ow b = path ∧ w.heap[b]? = some (.cells cur e (0, 0)) ∧ n ≤ cap ∧ cap ≤ maxLen ∧
      cur.size = cap * sz ∧ (∀ u ∈ cur.toList, u.oneCell' = true) ∧ ∀ i, i < n → DenL I none (f i) ((cur.toList.drop (i * sz)).take sz)
def CellOK (I : Imm) (g : Nat → Value) (ow : Nat → List Nat) (w : World) (path : Nat → List Nat) (fs : List (Nat × Nat)) (k : Nat) (x : AV) (v : Value) : Prop :=
  match lookF fs k with
  | some q => (∃ e sz n f, x = .own e sz n f) ∧ v = g q ∧ ∃ a n c, v = .slice a n c
  | none => match x with
    | .own e sz n f => SubOK I ow w (path k) e sz n f v
    | x => Den I none x v
def CellsOK (I : Imm) (g : Nat → Value) (ow : Nat → List Nat) (w : World) (path : Nat → List Nat) (fs : List (Nat × Nat)) : Nat → List AV → List Value → Prop
  | _, [], vs => vs = []
  | k, x :: xs, vs => ∃ v ws, vs = v :: ws ∧ CellOK I g ow w path fs k x v ∧ CellsOK I g ow w path fs (k + 1) xs ws
def RtOK (I : Imm) (g : Nat → Value) (ow : Nat → List Nat) (w : World) (q : Nat) : Rt → Prop
  | .blk e cells => ∃ b cur, g q = .pointer (some ⟨b, 0, none⟩) ∧ ow b = [q] ∧ w.heap[b]? = some (.cells cur e (0, 0)) ∧ (∀ u ∈ cur.toList, u.oneCell' = true) ∧ DenL I (some g) cells cur.toList
  | .row e sz n f => (∃ a, g q = .slice a 0 0 ∧ n = 0) ∨
      ∃ b cap cur, g q = .slice (some ⟨b, 0, none⟩) n cap ∧ ow b = [q] ∧ w.heap[b]? = some (.cells cur e (0, 0)) ∧ n ≤ cap ∧ cap ≤ maxLen ∧
        cur.size = cap * sz ∧ (∀ u ∈ cur.toList, u.oneCell' = true) ∧ ∀ i, i < n → DenL I none (f i) ((cur.toList.drop (i * sz)).take sz)
  | .rowO e sz n f i fs => (∃ a, g q = .slice a 0 0 ∧ n = 0) ∨
      ∃ b cap cur, g q = .slice (some ⟨b, 0, none⟩) n cap ∧ ow b = [q] ∧ w.heap[b]? = some (.cells cur e (0, 0)) ∧ n ≤ cap ∧ cap ≤ maxLen ∧
        cur.size = cap * sz ∧ (∀ u ∈ cur.toList, u.oneCell' = true) ∧ ∀ j, j < n → CellsOK I g ow w (fun k => [q, j, k]) (if j = i then fs else []) 0 (f j) ((cur.toList.drop (j * sz)).take sz)

theorem SubOK.frame {I J : Imm} {ow ow' : Nat → List Nat} {w w' : World} {path path' : List Nat} {e sz n : Nat} {f : Nat → List AV} {v : Value} (h : SubOK I ow w path e sz n f v) (hI : I.le J)
    (how : ∀ b, ow b = path → ow' b = path' ∧ w'.heap[b]? = w.heap[b]?) : SubOK J ow' w' path' e sz n f v := by
  rcases h with h | ⟨b, cap, cur, h1, h2, h3, h4, h5, h6, h7, h8⟩
  · exact .inl h
  · exact .inr ⟨b, cap, cur, h1, (how b h2).1, by rw [(how b h2).2]; exact h3, h4, h5, h6, h7, fun i hi => DenL.mono hI none _ _ (h8 i hi)⟩
theorem CellsOK.frame {I J : Imm} {g g' : Nat → Value} {ow ow' : Nat → List Nat} {w w' : World} {path path' : Nat → List Nat} {fs fs' : List (Nat × Nat)} (hI : I.le J)
    (hfs : ∀ k, (lookF fs k = none → lookF fs' k = none) ∧ ∀ p, lookF fs k = some p → ∃ p', lookF fs' k = some p' ∧ g' p' = g p)
    (how : ∀ k b, ow b = path k → ow' b = path' k ∧ w'.heap[b]? = w.heap[b]?) : ∀ {k : Nat} {xs : List AV} {vs : List Value}, CellsOK I g ow w path fs k xs vs → CellsOK J g' ow' w' path' fs' k xs vs
  | _, [], _, h => h
  | k, x :: xs, _, ⟨v, ws, e, h1, h2⟩ => by
    refine ⟨v, ws, e, ?_, CellsOK.frame hI hfs how h2⟩
    unfold CellOK at h1 ⊢
    cases hl : lookF fs k with
    | none =>
      rw [hl] at h1
      rw [(hfs k).1 hl]
      cases x with
      | own e sz n f => exact SubOK.frame h1 hI (how k)
      | _ => exact Den.mono hI none _ _ h1
    | some p =>
      rw [hl] at h1
      obtain ⟨p', e1, e2⟩ := (hfs k).2 p hl
      rw [e1]
      exact ⟨h1.1, by rw [e2]; exact h1.2.1, h1.2.2⟩
theorem CellsOK.length {I : Imm} {g : Nat → Value} {ow : Nat → List Nat} {w : World} {path : Nat → List Nat} {fs : List (Nat × Nat)} : ∀ {k : Nat} {xs : List AV} {vs : List Value}, CellsOK I g ow w path fs k xs vs → xs.length = vs.length
  | _, [], _, e => by cases e; rfl
  | _, _ :: _, _, ⟨_, _, e, _, r⟩ => by cases e; simp [CellsOK.length r]
theorem CellsOK.of_den {I : Imm} {g : Nat → Value} {ow : Nat → List Nat} {w : World} {path : Nat → List Nat} : ∀ {k : Nat} {xs : List AV} {vs : List Value}, DenL I none xs vs → CellsOK I g ow w path [] k xs vs
  | _, [], _, h => h
  | k, x :: xs, _, ⟨v, ws, e, h1, h2⟩ => by
    refine ⟨v, ws, e, ?_, CellsOK.of_den h2⟩
    cases x with
    | own => exact absurd h1 (by simp [Den])
    | _ => exact h1
/-- what is so of a row stays so where the row is left alone -/
theorem RtOK.rowO_frame {I J : Imm} {g g' : Nat → Value} {ow ow' : Nat → List Nat} {w w' : World} {q q' e sz n : Nat} {f : Nat → List AV} {i : Nat} {fs fs' : List (Nat × Nat)} (h : RtOK I g ow w q (.rowO e sz n f i fs)) (hI : I.le J) (hg : g' q' = g q)
    (hfs : ∀ k, (lookF fs k = none → lookF fs' k = none) ∧ ∀ p, lookF fs k = some p → ∃ p', lookF fs' k = some p' ∧ g' p' = g p)
    (how : ∀ b p, ow b = q :: p → ow' b = q' :: p ∧ w'.heap[b]? = w.heap[b]?) : RtOK J g' ow' w' q' (.rowO e sz n f i fs') := by
  rcases h with ⟨a, h1, h2⟩ | ⟨b, cap, cur, h1, h2, h3, h4, h5, h6, h7, h8⟩
  · exact .inl ⟨a, hg.trans h1, h2⟩
  · refine .inr ⟨b, cap, cur, hg.trans h1, (how b [] h2).1, by rw [(how b [] h2).2]; exact h3, h4, h5, h6, h7, fun j hj => CellsOK.frame hI ?_ (fun k b hb => how b [j, k] hb) (h8 j hj)⟩
    intro k
    split
    · exact hfs k
    · exact ⟨fun _ => rfl, fun p hp => by simp [lookF] at hp⟩
theorem fs_same (fs : List (Nat × Nat)) (g : Nat → Value) (k : Nat) : (lookF fs k = none → lookF fs k = none) ∧ ∀ p, lookF fs k = some p → ∃ p', lookF fs k = some p' ∧ g p' = g p := ⟨id, fun p hp => ⟨p, hp, rfl⟩⟩
theorem norefF_look {q : Nat} : ∀ {fs : List (Nat × Nat)}, norefF q fs = true → ∀ k p, lookF fs k = some p → p ≠ q
  | [], _, _, _, h => by simp [lookF] at h
  | (j, r) :: fs, hn, k, p, h => by
    simp only [norefF, Bool.and_eq_true, Bool.not_eq_true'] at hn
    simp only [lookF] at h
    cases hb : Nat.beq j k with
    | true =>
      rw [hb] at h
      simp only [cond_true, Option.some.injEq] at h
      subst h
      rintro rfl
      simp at hn
    | false => rw [hb] at h; exact norefF_look hn.2 k p h

structure SatAt {P : Program} (C : Ctx P) (s : St) (a : Act) (w : World) (I : Imm) (g : Nat → Value) (ow : Nat → List Nat) : Prop where
  defers : a.defers = []
  size : C.nt ≤ a.tmps.size
  env : ∀ t, Den I (some g) (look s.env t) (a.tmps.getD t undef)
  rts : ∀ q r, lookR s.rts q = some r → RtOK I g ow w q r
  imm : ∀ b o u, I b o = some u → w.cell? ⟨b, o, none⟩ = some u
  one : ∀ b o u, I b o = some u → u.oneCell' = true
  sep : ∀ b, ow b ≠ [] → ∀ o, I b o = none
  new : ∀ b, ow b ≠ [] → C.w0.heap.size ≤ b ∨ C.X b
  lt : ∀ b, ow b ≠ [] → b < w.heap.size
  ile : C.I0.le I
  iold : ∀ b o, b < C.w0.heap.size → ¬ C.X b → I b o = C.I0 b o
  os : w.os = C.w0.os
  tape : w.tape = C.w0.tape
  output : w.output = C.w0.output
  hsize : C.w0.heap.size ≤ w.heap.size
  kept : ∀ b, b < C.w0.heap.size → ¬ C.X b → w.heap[b]? = C.w0.heap[b]?
  pin : ∀ q, PB ≤ q → g q = C.g0 q
  ntb : C.nt ≤ PB

def Sat {P : Program} (C : Ctx P) (s : St) (a : Act) (w : World) : Prop := ∃ I g ow, SatAt C s a w I g ow

theorem beq_iff {a b : Nat} : Nat.beq a b = true ↔ a = b := by simp [Nat.beq_eq]
theorem beq_ne {a b : Nat} (h : a ≠ b) : Nat.beq a b = false := by
  cases hb : Nat.beq a b
  · rfl
  · exact absurd (beq_iff.1 hb) h
theorem look_cons (k : Nat) (v : AV) (r : List (Nat × AV)) (n : Nat) : look ((k, v) :: r) n = if k = n then v else look r n := by
  simp only [look]
  by_cases h : k = n
  · simp [h]
  · have : Nat.beq k n = false := beq_ne h
    simp [this, h]
theorem lookR_cons (k : Nat) (v : Rt) (r : List (Nat × Rt)) (n : Nat) : lookR ((k, v) :: r) n = if k = n then some v else lookR r n := by
  simp only [lookR]
  by_cases h : k = n
  · simp [h]
  · have : Nat.beq k n = false := beq_ne h
    simp [this, h]
theorem freshE_look {q : Nat} : ∀ {l : List (Nat × AV)}, freshE q l = true → ∀ t, noref q (look l t) = true
  | [], _, _ => rfl
  | (k, v) :: r, h, t => by
    simp only [freshE, Bool.and_eq_true] at h
    rw [look_cons]
    split
    · exact h.1
    · exact freshE_look h.2 t
theorem freshR_look {q : Nat} : ∀ {l : List (Nat × Rt)}, freshR q l = true → ∀ p r, lookR l p = some r → p ≠ q ∧ norefR q r = true
  | [], _, _, _, h => by cases h
  | (k, v) :: l, h, p, r, hp => by
    simp only [freshR, Bool.and_eq_true, Bool.not_eq_true'] at h
    rw [lookR_cons] at hp
    split at hp
    · rename_i hk
      cases hp
      subst hk
      refine ⟨fun e => ?_, h.2.1⟩
      have := h.1
      rw [beq_iff.2 e] at this
      cases this
    · exact freshR_look h.2.2 p r hp
theorem lookR_eraseR (q p : Nat) : ∀ l : List (Nat × Rt), lookR (eraseR q l) p = if q = p then none else lookR l p
  | [] => by simp [eraseR, lookR]
  | (k, v) :: r => by
    simp only [eraseR]
    by_cases hk : k = q
    · have : Nat.beq k q = true := beq_iff.2 hk
      simp only [this, cond_true, lookR_eraseR q p r, lookR_cons]
      split
      · rfl
      · rw [if_neg (by omega)]
    · have : Nat.beq k q = false := beq_ne hk
      simp only [this, cond_false, lookR_cons, lookR_eraseR q p r]
      split
      · rw [if_neg (by omega)]
      · rfl
theorem lookR_setR (q p : Nat) (x : Rt) : ∀ l : List (Nat × Rt), lookR (setR q x l) p = if q = p then (lookR l p).map (fun _ => x) else lookR l p
  | [] => by simp [setR, lookR]
  | (k, v) :: r => by
    simp only [setR]
    by_cases hk : k = q
    · have : Nat.beq k q = true := beq_iff.2 hk
      simp only [this, cond_true, lookR_cons, lookR_eraseR]
      subst hk
      split
      · rfl
      · simp
    · have : Nat.beq k q = false := beq_ne hk
      simp only [this, cond_false, lookR_cons, lookR_setR q p x r]
      by_cases h1 : k = p
      · rw [if_pos h1, if_pos h1, if_neg (by omega)]
      · rw [if_neg h1, if_neg h1]

/-- the heap alone counts -/
theorem SatAt.world {P : Program} {C : Ctx P} {s a w I g ow} (h : SatAt C s a w I g ow) {w' : World} (hh : w'.heap = w.heap) (ho : w'.os = w.os) (ht : w'.tape = w.tape) (hp : w'.output = w.output) : SatAt C s a w' I g ow where
  defers := h.defers
  size := h.size
  env := h.env
  rts := fun q r hr => by
    have := h.rts q r hr
    cases r with
    | blk => simpa [RtOK, hh] using this
    | row => simpa [RtOK, hh] using this
    | rowO => exact RtOK.rowO_frame this (Imm.le.refl I) rfl (fs_same _ g) fun b p hb => ⟨hb, by rw [hh]⟩
  imm := fun b o u hu => by
    have := h.imm b o u hu
    simpa [World.cell?, hh] using this
  one := h.one
  sep := h.sep
  new := h.new
  lt := fun b hb => by rw [hh]; exact h.lt b hb
  ile := h.ile
  iold := h.iold
  os := ho.trans h.os
  tape := ht.trans h.tape
  output := hp.trans h.output
  hsize := by rw [hh]; exact h.hsize
  kept := fun b hb hx => by rw [hh]; exact h.kept b hb hx
  pin := h.pin
  ntb := h.ntb

theorem getD_put (a : Act) (d : Nat) (v : Value) (t : Nat) : (a.put (some d) v).tmps.getD t undef = if d = t ∧ d < a.tmps.size then v else a.tmps.getD t undef := by
  simp only [Act.put]
  simp only [Array.getD_eq_getD_getElem?, Array.getElem?_setIfInBounds]
  by_cases h : d = t
  · subst h
    by_cases hd : d < a.tmps.size
    · simp [hd]
    · simp [hd]
  · simp [h]

/-- a slot is written -/
theorem SatAt.put {P : Program} {C : Ctx P} {s a w I g ow} (h : SatAt C s a w I g ow) {d : Nat} (hd : d < C.nt) {av : AV} {v : Value} (hv : Den I (some g) av v) : SatAt C (s.put d av) (a.put (some d) v) w I g ow where
  defers := h.defers
  size := by simpa [Act.put] using h.size
  env := fun t => by
    rw [getD_put]
    simp only [St.put, look_cons]
    by_cases ht : d = t
    · have : d < a.tmps.size := Nat.lt_of_lt_of_le hd h.size
      simp [ht] at this ⊢
      simp [this, hv]
    · have := h.env t
      simpa [ht] using this
  rts := h.rts
  imm := h.imm
  one := h.one
  sep := h.sep
  new := h.new
  lt := h.lt
  ile := h.ile
  iold := h.iold
  os := h.os
  tape := h.tape
  output := h.output
  hsize := h.hsize
  kept := h.kept
  pin := h.pin
  ntb := h.ntb
theorem pin_upd {P : Program} {C : Ctx P} {g : Nat → Value} (h : ∀ q, PB ≤ q → g q = C.g0 q) {d : Nat} (hd : d < PB) (v : Value) : ∀ q, PB ≤ q → upd g d v q = C.g0 q := fun q hq => by rw [upd_ne g v (by omega)]; exact h q hq
end Go.Av
end
/- part AvOps -/
section
namespace Go.Av

inductive X where
  | t (n : Nat)
  | c (av : AV)

def isNeq : BinOp → Bool
  | .neq => true
  | _ => false
inductive CK where
  | b | i | s
inductive NK where
  | p | s | f | q

inductive SOp where
  | mov (d : Nat) (x : X)
  | pick (d : Nat) (c a b : X)
  | box (d e n : Nat) (x : X)
  | alloc (d e : Nat) (zero : List AV)
  | build (d : Nat) (zero : List AV) (parts : List (Nat × Nat × X))
  | bsl (d e sz len : Nat) (parts : List (Nat × X))
  | load (d : Nat) (x : X) (n : Nat) (agg : Bool)
  | store (x v : X) (n : Nat)
  | nilc (d : Option Nat) (x : X)
  | bin (d : Nat) (op : BinOp) (x y : X)
  | eqb (d : Nat) (neg : Bool) (x y : X)
  | eqa (d : Nat) (neg : Bool) (ks : List CK) (x y : X)
  | eqn (d : Nat) (neg : Bool) (k : NK) (x y : X)
  | not (d : Nat) (x : X)
  | neg (d : Nat) (x : X)
  | cvi (d : Nat) (k : IntKind) (x : X)
  | sby (d e : Nat) (x : X)
  | bst (d : Nat) (x : X)
  | cvp (d t : Nat) (x : X)
  | cvq (d t n : Nat) (x : X)
  | usd (d : Nat) (x : X)
  | ust (d e : Nat) (x n : X)
  | idg (d len g : Nat) (f : Nat → List AV) (i : X)
  | mki (d t : Nat) (x : X)
  | mkf (d f : Nat) (caps : List X)
  | mks (d e sz bytes : Nat) (l c : X) (zero : List AV)
  | slice (d sz : Nat) (x : X) (lo hi : Option X)
  | slic3 (d sz : Nat) (x : X) (lo hi mx : Option X)
  | fad (d : Nat) (x : X) (off : Nat)
  | fld (d : Nat) (x : X) (off n : Nat) (agg : Bool)
  | idx (d : Nat) (x i : X) (sz : Nat)
  | ida (d : Nat) (x i : X) (len sz : Nat)
  | ind (d : Nat) (x i : X)
  | ext (d : Nat) (x : X) (i : Nat)
  | len (d : Nat) (str : Bool) (x : X)
  | app (d e sz bytes : Nat) (s x : X)
  | copy (d : Nat) (sz : Nat) (x y : X)
  | mx (d : Nat) (x y : X)
  | mn (d : Nat) (x y : X)
  | call (d : Option Nat) (f : Nat) (args : List X)
  | callT (d : Option Nat) (fx : X) (args : List X)
  | bad

structure SO where
  op : SOp
  g : Option (Nat × Bool) := none
  af : List Nat := []

inductive SCode where
  | skip
  | reg (ops : List SO) (draw : Bool)
  | seq (a b : SCode)
  | cond (c : X) (a b : SCode)
  | block (id : Nat) (b : SCode)
  | loop (b : SCode)
  | exit (id : Nat)
  | ret
  | bad

def xv (s : St) : X → AV
  | .t n => look s.env n
  | .c av => av
def xvs (s : St) : List X → List AV
  | [] => []
  | x :: xs => xv s x :: xvs s xs

/-- the term behind a condition, and the condition -/
def und : AV → AV
  | .cnd _ v => v
  | v => v
def gdo : AV → List Prop
  | .cnd g _ => [g = true]
  | _ => []
def allP : List Prop → Prop
  | [] => True
  | p :: ps => p ∧ allP ps

theorem allP_nil : allP [] := trivial
theorem allP_cons {p : Prop} {ps : List Prop} (h : p) (k : allP ps) : allP (p :: ps) := ⟨h, k⟩

/- the terms that the walk writes down are laid out first -/
def foL {R : Type} : List AV → (List AV → R) → R
  | [], K => K []
  | .any :: r, K => foL r fun r => K (.any :: r)
  | .int k n :: r, K => foL r fun r => K (.int k n :: r)
  | .bool b :: r, K => foL r fun r => K (.bool b :: r)
  | .str b :: r, K => foL r fun r => K (.str b :: r)
  | .nilp :: r, K => foL r fun r => K (.nilp :: r)
  | .nils :: r, K => foL r fun r => K (.nils :: r)
  | .emp :: r, K => foL r fun r => K (.emp :: r)
  | .ans :: r, K => foL r fun r => K (.ans :: r)
  | .sl sz n f :: r, K => foL r fun r => K (.sl sz n f :: r)
  | .ref q :: r, K => foL r fun r => K (.ref q :: r)
  | .loc q o :: r, K => foL r fun r => K (.loc q o :: r)
  | .locE q sz k o :: r, K => foL r fun r => K (.locE q sz k o :: r)
  | .ptr cs :: r, K => foL r fun r => K (.ptr cs :: r)
  | .agg cs :: r, K => foL r fun r => K (.agg cs :: r)
  | .tup cs :: r, K => foL r fun r => K (.tup cs :: r)
  | .fn f cs :: r, K => foL r fun r => K (.fn f cs :: r)
  | .nilfn :: r, K => foL r fun r => K (.nilfn :: r)
  | .nilif :: r, K => foL r fun r => K (.nilif :: r)
  | .iface t v :: r, K => foL r fun r => K (.iface t v :: r)
  | .cnd g v :: r, K => foL r fun r => K (.cnd g v :: r)
  | .own e sz n f :: r, K => foL r fun r => K (.own e sz n f :: r)
theorem foL_eq {R : Type} : ∀ (l : List AV) (K : List AV → R), foL l K = K l
  | [], _ => rfl
  | x :: r, K => by cases x <;> simp only [foL, foL_eq r]
def fo {R : Type} : AV → (AV → R) → R
  | .any, K => K .any
  | .int k n, K => K (.int k n)
  | .bool b, K => K (.bool b)
  | .str b, K => K (.str b)
  | .nilp, K => K .nilp
  | .nils, K => K .nils
  | .emp, K => K .emp
  | .ans, K => K .ans
  | .sl sz n f, K => K (.sl sz n f)
  | .ref q, K => K (.ref q)
  | .loc q o, K => K (.loc q o)
  | .locE q sz k o, K => K (.locE q sz k o)
  | .ptr cs, K => K (.ptr cs)
  | .agg cs, K => foL cs fun cs => K (.agg cs)
  | .tup cs, K => foL cs fun cs => K (.tup cs)
  | .fn f cs, K => foL cs fun cs => K (.fn f cs)
  | .nilfn, K => K .nilfn
  | .nilif, K => K .nilif
  | .iface t v, K => K (.iface t v)
  | .cnd g (.bool b), K => K (.cnd g (.bool b))
  | .cnd g v, K => K (.cnd g v)
  | .own e sz n f, K => K (.own e sz n f)
theorem fo_eq {R : Type} (v : AV) (K : AV → R) : fo v K = K v := by
  cases v with
  | cnd g x => cases x <;> rfl
  | _ => simp only [fo, foL_eq]
def foR {R : Type} : List (Nat × Rt) → (List (Nat × Rt) → R) → R
  | [], K => K []
  | (k, .blk t cs) :: r, K => foL cs fun cs => foR r fun r => K ((k, .blk t cs) :: r)
  | (k, .row e sz n f) :: r, K => foR r fun r => K ((k, .row e sz n f) :: r)
  | (k, .rowO e sz n f i fs) :: r, K => foR r fun r => K ((k, .rowO e sz n f i fs) :: r)
theorem foR_eq {R : Type} : ∀ (l : List (Nat × Rt)) (K : List (Nat × Rt) → R), foR l K = K l
  | [], _ => rfl
  | (k, v) :: r, K => by cases v <;> simp only [foR, foL_eq, foR_eq r]

inductive Pv where
  | ok (av : AV) (ob : List Prop)
  | no

def kq : IntKind → IntKind → Bool
  | .i8, .i8 | .i16, .i16 | .i32, .i32 | .i64, .i64 | .u8, .u8 | .u16, .u16 | .u32, .u32 | .u64, .u64 => true
  | _, _ => false
def i64? : IntKind → Bool
  | .i64 => true
  | _ => false
def arith (op : BinOp) (k : IntKind) (a b : Int) : Pv :=
  match op with
  | .add => bif i64? k then .ok (.int k (a + b)) [-9223372036854775808 ≤ a + b ∧ a + b ≤ 9223372036854775807] else .ok (.int k (k.wrap (a + b))) []
  | .sub => bif i64? k then .ok (.int k (a - b)) [-9223372036854775808 ≤ a - b ∧ a - b ≤ 9223372036854775807] else .ok (.int k (k.wrap (a - b))) []
  | .mul => bif i64? k then .ok (.int k (a * b)) [-9223372036854775808 ≤ a * b ∧ a * b ≤ 9223372036854775807] else .ok (.int k (k.wrap (a * b))) []
  | .quo => bif i64? k then .ok (.int k (a / b)) [0 ≤ a ∧ 0 < b ∧ a ≤ 9223372036854775807] else .ok (.int k (k.wrap (a / b))) [0 ≤ a ∧ 0 < b]
  | .rem => .ok (.int k (a % b)) [0 ≤ a ∧ 0 < b]
  | .eql => .ok (.bool (a == b)) []
  | .neq => .ok (.bool (a != b)) []
  | .lss => .ok (.bool (decide (a < b))) []
  | .leq => .ok (.bool (decide (a ≤ b))) []
  | .gtr => .ok (.bool (decide (b < a))) []
  | .geq => .ok (.bool (decide (b ≤ a))) []
  | .and => .ok (.int k (k.wrap (BitVec.ofInt k.bits a &&& BitVec.ofInt k.bits b).toNat)) []
  | .or => .ok (.int k (k.wrap (BitVec.ofInt k.bits a ||| BitVec.ofInt k.bits b).toNat)) []
  | .xor => .ok (.int k (k.wrap (BitVec.ofInt k.bits a ^^^ BitVec.ofInt k.bits b).toNat)) []
  | .andNot => .ok (.int k (k.wrap (BitVec.ofInt k.bits a &&& ~~~ BitVec.ofInt k.bits b).toNat)) []
  | _ => .no
def isSh : BinOp → Bool
  | .shl | .shr => true
  | _ => false
def shiftv (op : BinOp) (k : IntKind) (a b : Int) : Pv :=
  match op with
  | .shl => .ok (.int k (k.wrap (a * 2 ^ (min b.toNat k.bits)))) [0 ≤ b]
  | .shr => .ok (.int k (a / 2 ^ (min b.toNat k.bits))) [0 ≤ b]
  | _ => .no
def strop (op : BinOp) (a b : List UInt8) : Pv :=
  match op with
  | .add => .ok (.str (a ++ b)) [a.length + b.length ≤ 9223372036854775807]
  | .eql => .ok (.bool (a == b)) []
  | .neq => .ok (.bool (!(a == b))) []
  | _ => .no
def xorb (neg b : Bool) : Bool := bif neg then !b else b
def eqv : CK → AV → AV → Option Bool
  | .i, .int k a, .int k' b => bif kq k k' then some (a == b) else none
  | .s, .str a, .str b => some (a == b)
  | .b, .bool a, .bool b => some (a == b)
  | _, _, _ => none
def eqvs : List CK → List AV → List AV → Option Bool
  | [], [], [] => some true
  | k :: ks, a :: as, b :: bs =>
    match eqv k a b, eqvs ks as bs with
    | some x, some y => some (x && y)
    | _, _ => none
  | _, _, _ => none
def nileq : NK → AV → AV → Option Bool
  | .p, .nilp, .nilp => some true
  | .p, .nilp, .loc .. | .p, .nilp, .locE .. | .p, .nilp, .ptr .. | .p, .loc .., .nilp | .p, .locE .., .nilp | .p, .ptr .., .nilp => some false
  | .q, .loc q o, .loc q' o' => bif Nat.beq q q' && Nat.beq o o' then some true else none
  | .q, .nilp, .nilp => some true
  | .q, .nilp, .loc .. | .q, .nilp, .locE .. | .q, .nilp, .ptr .. | .q, .loc .., .nilp | .q, .locE .., .nilp | .q, .ptr .., .nilp => some false
  | .s, .nils, .nils => some true
  | .f, .nilfn, .nilfn => some true
  | .f, .nilfn, .fn .. | .f, .fn .., .nilfn => some false
  | _, _, _ => none
def cellsOf : AV → List AV
  | .agg cs => cs
  | .any => []
  | .cnd _ _ => []
  | .tup _ => []
  | v => [v]
def one : AV → Bool
  | .agg _ => false
  | .any => false
  | .cnd _ _ => false
  | .tup _ => false
  | .own .. => false
  | _ => true
def oneL : List AV → Bool
  | [] => true
  | x :: xs => one x && oneL xs
def setAt : Nat → List AV → List AV → List AV
  | _, [], cs => cs
  | _, _ :: _, [] => []
  | 0, v :: vs, _ :: cs => v :: setAt 0 vs cs
  | n + 1, v :: vs, c :: cs => c :: setAt n (v :: vs) cs
def pickCells (cs : List AV) (n : Nat) (agg : Bool) : Option AV :=
  bif agg then (bif Nat.ble n cs.length then some (.agg (cs.take n)) else none)
  else match cs with
    | c :: _ => some c
    | [] => none
def ofOpt (ob : List Prop) : Option AV → Pv
  | some v => .ok v ob
  | none => .no
def strip : AV → AV
  | .own .. => .ans
  | v => v
def stripL : List AV → List AV
  | [] => []
  | x :: r => strip x :: stripL r
/-- a load out of a row whose elements own rows -/
def loadO (k off n : Nat) (agg : Bool) (i : Nat) (fs : List (Nat × Nat)) (ob : List Prop) (cs : List AV) : Pv :=
  bif agg then ofOpt ob (pickCells (stripL cs) n true)
  else match lookF fs off with
    | some q => (match cs with | [] => .no | _ :: _ => .ok (.ref q) ((k = i) :: ob))
    | none => ofOpt ob (pickCells (stripL cs) n false)
def loadAt (s : St) (n : Nat) (agg : Bool) (ob : List Prop) : AV → Pv
  | .loc q off =>
    match lookR s.rts q with
    | some (.blk _ cells) => ofOpt ob (pickCells (cells.drop off) n agg)
    | _ => .no
  | .locE q sz k off =>
    match lookR s.rts q with
    | some (.row _ sz' m f) => bif Nat.beq sz sz' then ofOpt ((k < m) :: ob) (pickCells ((f k).drop off) n agg) else .no
    | some (.rowO _ sz' m f i fs) => bif Nat.beq sz sz' then loadO k off n agg i fs ((k < m) :: ob) ((f k).drop off) else .no
    | _ => .no
  | .ptr cells => ofOpt ob (pickCells cells n agg)
  | _ => .no
def parts (s : St) : List (Nat × Nat × X) → List AV → List Prop → Option (List AV × List Prop)
  | [], cs, ob => some (cs, ob)
  | (off, n, x) :: r, cs, ob =>
    let v := xv s x
    let w := cellsOf (und v)
    bif Nat.blt 0 n && (Nat.beq w.length n && Nat.ble (off + n) cs.length) then parts s r (setAt off w cs) (gdo v ++ ob) else none
def lenOf (s : St) (str : Bool) (ob : List Prop) : AV → Pv
  | .str l => bif str then .ok (.int .i64 l.length) ob else .no
  | .sl _ n _ => bif str then .no else .ok (.int .i64 n) ob
  | .nils => bif str then .no else .ok (.int .i64 0) ob
  | .emp => bif str then .no else .ok (.int .i64 0) ob
  | .ref q => match str, lookR s.rts q with
    | false, some (.row _ _ n _) => .ok (.int .i64 n) ob
    | false, some (.rowO _ _ n _ _ _) => .ok (.int .i64 n) ob
    | _, _ => .no
  | _ => .no
def sliceOf (sz : Nat) (lo hi : Option Int) (ob : List Prop) : AV → Pv
  | .str l =>
    let h : Int := match hi with | some h => h | none => l.length
    let b : Int := match lo with | some b => b | none => 0
    bif Nat.beq sz 0 then .ok (.str ((l.drop b.toNat).take (h.toNat - b.toNat))) ((0 ≤ b ∧ b ≤ h ∧ h ≤ l.length) :: ob) else .no
  | .sl sz' n f =>
    let h : Int := match hi with | some h => h | none => n
    let b : Int := match lo with | some b => b | none => 0
    bif Nat.blt 0 sz && Nat.beq sz sz' then .ok (.sl sz (h.toNat - b.toNat) (fun i => f (b.toNat + i))) ((0 ≤ b ∧ b ≤ h ∧ h ≤ n) :: ob) else .no
  | _ => .no
def byteOf : List AV → UInt8
  | [.int _ c] => UInt8.ofNat c.toNat
  | _ => 0
/-- the bytes that a row holds -/
def bytesOf (n : Nat) (f : Nat → List AV) : List UInt8 := (List.range n).map fun i => byteOf (f i)
def bytesOb (n : Nat) (f : Nat → List AV) : Prop := ∀ i, i < n → ∃ c : UInt8, f i = [.int .u8 (c.toNat : Int)]
def optInt (s : St) : Option X → Option (Option Int × List Prop)
  | none => some (none, [])
  | some x => match und (xv s x) with
    | .int _ n => some (some n, gdo (xv s x))
    | _ => none

/-- the operations that turn neither the roots nor the world -/
def ev (s : St) : SOp → Pv
  | .mov _ x => .ok (xv s x) []
  | .pick _ c a b =>
    match und (xv s c), und (xv s a), und (xv s b) with
    | .bool x, .bool y, .bool z => .ok (.bool (bif x then y else z)) (gdo (xv s c) ++ ((x = true → allP (gdo (xv s a))) :: (x = false → allP (gdo (xv s b))) :: []))
    | _, _, _ => .no
  | .build _ zero ps => match parts s ps zero [] with | some (cs, ob) => .ok (.agg cs) ob | none => .no
  | .load _ x n agg => loadAt s n agg (gdo (xv s x)) (und (xv s x))
  | .nilc _ x => match und (xv s x) with
    | .loc q off => .ok (.loc q off) (gdo (xv s x))
    | .locE q sz k off => .ok (.locE q sz k off) (gdo (xv s x))
    | .ptr cs => .ok (.ptr cs) (gdo (xv s x))
    | .fn f cs => .ok (.fn f cs) (gdo (xv s x))
    | _ => .no
  | .bin _ op x y =>
    match und (xv s x), und (xv s y) with
    | .int k a, .int k' b => bif isSh op then (match shiftv op k a b with | .ok v ob => .ok v (gdo (xv s x) ++ (gdo (xv s y) ++ ob)) | .no => .no) else bif kq k k' then (match arith op k a b with | .ok v ob => .ok v (gdo (xv s x) ++ (gdo (xv s y) ++ ob)) | .no => .no) else .no
    | .str a, .str b => (match strop op a b with | .ok v ob => .ok v (gdo (xv s x) ++ (gdo (xv s y) ++ ob)) | .no => .no)
    | _, _ => .no
  | .eqb _ neg x y =>
    match und (xv s x), und (xv s y) with
    | .bool a, .bool b => .ok (.bool (xorb neg (a == b))) (gdo (xv s x) ++ gdo (xv s y))
    | _, _ => .no
  | .eqa _ neg ks x y =>
    match und (xv s x), und (xv s y) with
    | .agg a, .agg b => (match eqvs ks a b with | some r => .ok (.bool (xorb neg r)) (gdo (xv s x) ++ gdo (xv s y)) | none => .no)
    | _, _ => .no
  | .eqn _ neg k x y =>
    match nileq k (und (xv s x)) (und (xv s y)) with
    | some r => .ok (.bool (xorb neg r)) (gdo (xv s x) ++ gdo (xv s y))
    | none => .no
  | .not _ x => match und (xv s x) with | .bool b => .ok (.bool (!b)) (gdo (xv s x)) | _ => .no
  | .neg _ x => match und (xv s x) with | .int k n => bif i64? k then .ok (.int k (-n)) ((-9223372036854775808 ≤ -n ∧ -n ≤ 9223372036854775807) :: gdo (xv s x)) else .no | _ => .no
  | .cvi _ k x => match und (xv s x) with | .int _ n => .ok (.int k (k.wrap n)) (gdo (xv s x)) | _ => .no
  | .mki _ t x => .ok (.iface t (xv s x)) []
  | .cvp _ t x => match und (xv s x) with
    | .nilp => .ok .nilp (gdo (xv s x))
    | .loc q 0 => match lookR s.rts q with
      | some (.blk e cells) => bif Nat.beq e t && Nat.blt 0 cells.length then .ok (.loc q 0) (gdo (xv s x)) else .no
      | _ => .no
    | _ => .no
  | .cvq _ t n x => match und (xv s x) with
    | .nilp => .ok .nilp (gdo (xv s x))
    | .loc q 0 => match lookR s.rts q with
      | some (.blk e cells) => bif Nat.beq e t && Nat.beq cells.length n then .ok (.loc q 0) (gdo (xv s x)) else .no
      | _ => .no
    | _ => .no
  | .idg _ len _ f i => match und (xv s i) with
    | .int _ k => .ok (.ptr (f k.toNat)) ((0 ≤ k ∧ k < len) :: gdo (xv s i))
    | _ => .no
  | .usd _ x => match und (xv s x) with
    | .nils => .ok .nilp (gdo (xv s x))
    | .ref q => match lookR s.rts q with
      | some (.row _ sz n _) => bif Nat.beq sz 1 then .ok (.locE q 1 0 0) ((0 < n) :: gdo (xv s x)) else .no
      | _ => .no
    | _ => .no
  | .bst _ x => match und (xv s x) with
    | .nils => .ok (.str []) (gdo (xv s x))
    | .sl sz n f => bif Nat.beq sz 1 then .ok (.str (bytesOf n f)) (bytesOb n f :: gdo (xv s x)) else .no
    | .ref q => match lookR s.rts q with
      | some (.row _ sz n f) => bif Nat.beq sz 1 then .ok (.str (bytesOf n f)) (bytesOb n f :: gdo (xv s x)) else .no
      | _ => .no
    | _ => .no
  | .mkf _ f caps => .ok (.fn f (xvs s caps)) []
  | .slice _ sz x lo hi =>
    match optInt s lo, optInt s hi with
    | some (l, o1), some (h, o2) => sliceOf sz l h (gdo (xv s x) ++ (o1 ++ o2)) (und (xv s x))
    | _, _ => .no
  | .fad _ x off => match und (xv s x) with
    | .loc q o => .ok (.loc q (o + off)) (gdo (xv s x))
    | .locE q sz k o => .ok (.locE q sz k (o + off)) (gdo (xv s x))
    | .ptr cs => .ok (.ptr (cs.drop off)) (gdo (xv s x))
    | _ => .no
  | .fld _ x off n agg => match und (xv s x) with
    | .agg cs => ofOpt (gdo (xv s x)) (pickCells (cs.drop off) n agg)
    | _ => .no
  | .idx _ x i sz =>
    match und (xv s x), und (xv s i) with
    | .sl sz' n f, .int _ k => bif Nat.beq sz sz' then .ok (.ptr (f k.toNat)) ((0 ≤ k ∧ k < n) :: (gdo (xv s x) ++ gdo (xv s i))) else .no
    | .ref q, .int _ k => match lookR s.rts q with
      | some (.row _ sz' n _) => bif Nat.beq sz sz' then .ok (.locE q sz k.toNat 0) ((0 ≤ k ∧ k < n) :: (gdo (xv s x) ++ gdo (xv s i))) else .no
      | some (.rowO _ sz' n _ _ _) => bif Nat.beq sz sz' then .ok (.locE q sz k.toNat 0) ((0 ≤ k ∧ k < n) :: (gdo (xv s x) ++ gdo (xv s i))) else .no
      | _ => .no
    | _, _ => .no
  | .ida _ x i len sz =>
    match und (xv s x), und (xv s i) with
    | .loc q off, .int _ k => .ok (.loc q (off + k.toNat * sz)) ((0 ≤ k ∧ k < len) :: (gdo (xv s x) ++ gdo (xv s i)))
    | _, _ => .no
  | .ind _ x i =>
    match und (xv s x), und (xv s i) with
    | .str l, .int _ k => .ok (.int .u8 ((l.getD k.toNat 0).toNat : Int)) ((0 ≤ k ∧ k < l.length) :: (gdo (xv s x) ++ gdo (xv s i)))
    | _, _ => .no
  | .ext _ x i => match und (xv s x) with
    | .tup vs => match vs[i]? with | some v => .ok v (gdo (xv s x)) | none => .no
    | _ => .no
  | .len _ str x => lenOf s str (gdo (xv s x)) (und (xv s x))
  | .mx _ x y => match und (xv s x), und (xv s y) with
    | .int k a, .int k' b => bif kq k k' then .ok (.int k (if b > a then b else a)) (gdo (xv s x) ++ gdo (xv s y)) else .no
    | _, _ => .no
  | .mn _ x y => match und (xv s x), und (xv s y) with
    | .int k a, .int k' b => bif kq k k' then .ok (.int k (if b < a then b else a)) (gdo (xv s x) ++ gdo (xv s y)) else .no
    | _, _ => .no
  | _ => .no

def SOp.dst : SOp → Option Nat
  | .cvp d .. | .cvq d .. | .usd d .. | .ust d .. | .idg d .. | .mov d _ | .pick d .. | .box d .. | .alloc d .. | .build d .. | .bsl d .. | .load d .. | .bin d .. | .eqb d .. | .eqa d .. | .eqn d .. | .not d _ | .neg d _ | .cvi d .. | .sby d .. | .bst d _
  | .mki d .. | .mkf d .. | .mks d .. | .slice d .. | .slic3 d .. | .fad d .. | .fld d .. | .idx d .. | .ida d .. | .ind d .. | .ext d .. | .len d .. | .app d .. | .copy d .. | .mx d .. | .mn d .. => some d
  | .nilc d _ | .call d .. | .callT d .. => d
  | .store .. | .bad => none

inductive Res where
  | ok (s : St) (ob : List Prop)
  | no
def Res.mk (env : List (Nat × AV)) (rts : List (Nat × Rt)) (ob : List Prop) : Res := foR rts fun rts => .ok ⟨env, rts⟩ ob
theorem Res.mk_eq (env : List (Nat × AV)) (rts : List (Nat × Rt)) (ob : List Prop) : Res.mk env rts ob = .ok ⟨env, rts⟩ ob := foR_eq _ _

def bslL (s : St) (sz : Nat) : List (Nat × X) → Nat → List Prop → (List (List AV) → List Prop → Res) → Res
  | [], _, ob, K => K [] ob
  | (i, x) :: r, k, ob, K =>
    foL (cellsOf (und (xv s x))) fun cs =>
      bif Nat.beq k i && (Nat.beq cs.length sz && (isPureL cs && oneL cs)) then bslL s sz r (k + 1) (gdo (xv s x) ++ ob) fun l ob => K (cs :: l) ob else .no
def nth : List (List AV) → Nat → List AV
  | [], _ => []
  | x :: _, 0 => x
  | _ :: r, n + 1 => nth r n
/-- what is appended: how many, and the elements -/
def source (rts : List (Nat × Rt)) (sz : Nat) : AV → Option (Nat × (Nat → List AV))
  | .sl sz' m g => bif Nat.beq sz sz' then some (m, g) else none
  | .nils => some (0, fun _ => [])
  | .emp => some (0, fun _ => [])
  | .ref q => match lookR rts q with
    | some (.row _ sz' m g) => bif Nat.beq sz sz' then some (m, g) else none
    | _ => none
  | .str l => bif Nat.beq sz 1 then some (l.length, fun i => [.int .u8 ((l.getD i 0).toNat : Int)]) else none
  | _ => none
def copied (m : Nat) (f g : Nat → List AV) : Nat → List AV := fun i => bif Nat.blt i m then g i else f i
def joined (n : Nat) (f g : Nat → List AV) : Nat → List AV := fun i => bif Nat.blt i n then f i else g (i - n)
def stored (k off : Nat) (vs : List AV) (f : Nat → List AV) : Nat → List AV := fun i => bif Nat.beq i k then setAt off vs (f i) else f i
def freeF : List (Nat × Nat) → Nat → Nat → Bool
  | [], _, _ => true
  | (k, _) :: r, off, n => (Nat.blt k off || Nat.ble (off + n) k) && freeF r off n
def setF : List (Nat × Nat) → Nat → Nat → List (Nat × Nat)
  | [], _, _ => []
  | (k, q) :: r, off, p => bif Nat.beq k off then (k, p) :: r else (k, q) :: setF r off p
/-- a store into a row whose elements own rows -/
def storeO (env : List (Nat × AV)) (rts : List (Nat × Rt)) (q k off n e sz m : Nat) (f : Nat → List AV) (i : Nat) (fs : List (Nat × Nat)) (vs : List AV) (ob : List Prop) : Res :=
  bif Nat.ble (off + n) sz then
    (bif isPureL vs then (bif freeF fs off n then .mk env (setR q (.rowO e sz m (stored k off vs f) i fs) rts) ((k < m) :: ob) else .no)
    else match vs with
      | [.ref r] => (match lookF fs off with
        | some _ => .mk env (setR q (.rowO e sz m f i (setF fs off r)) rts) ((k < m) :: (k = i) :: ob)
        | none => (match lookR rts r with
          | some (.row e' sz' n' h) => .mk env (setR q (.rowO e sz m (stored k off [.own e' sz' n' h] f) i fs) (eraseR r rts)) ((k < m) :: ob)
          | _ => .no))
      | _ => .no)
  else .no
def isNilF : List (Nat × Nat) → Bool
  | [] => true
  | _ => false
def appO (env : List (Nat × AV)) (rts : List (Nat × Rt)) (d e sz bytes : Nat) (ob : List Prop) : AV → AV → Res
  | .ref src, .ref q => match lookR rts src, lookR rts q with
    | some (.rowO e1 sz1 m g _ fs1), some (.rowO e2 sz2 n f _ fs2) =>
      bif !Nat.beq src q && (Nat.beq e e1 && (Nat.beq e e2 && (Nat.beq sz sz1 && (Nat.beq sz sz2 && (isNilF fs1 && isNilF fs2))))) then
        .mk ((d, .ref d) :: env) ((d, .rowO e sz (n + m) (joined n f g) 0 []) :: eraseR src (eraseR q rts)) ((n + m ≤ 9223372036854775807 ∧ (n + m) * bytes ≤ 140737488355328) :: ob)
      else .no
    | _, _ => .no
  | _, _ => .no
/-- cells that take the rows over that they name -/
def ownL : List (Nat × Rt) → List AV → Option (List AV × List (Nat × Rt))
  | rts, [] => some ([], rts)
  | rts, .ref r :: cs => match lookR rts r with
    | some (.row e sz n h) => match ownL (eraseR r rts) cs with
      | some (cs', rts') => some (.own e sz n h :: cs', rts')
      | none => none
    | _ => none
  | rts, c :: cs => bif isPure c then (match ownL rts cs with
      | some (cs', rts') => some (c :: cs', rts')
      | none => none) else none
def bslO (env : List (Nat × AV)) (rts : List (Nat × Rt)) (d e sz len : Nat) : List (Nat × X) → Res
  | [(i, x)] => bif Nat.beq len 1 && Nat.beq i 0 then
      foL (cellsOf (und (xv ⟨env, rts⟩ x))) fun cs =>
        bif Nat.beq cs.length sz && oneL cs then (match ownL rts cs with
          | some (cs', rts') => foL cs' fun cs' => .mk ((d, .ref d) :: env) ((d, .rowO e sz 1 (fun _ => cs') 0 []) :: rts') (gdo (xv ⟨env, rts⟩ x))
          | none => .no) else .no
    else .no
  | _ => .no
def Res.or : Res → Res → Res
  | .no, r => r
  | .ok s ob, _ => .ok s ob
/-- the operations that turn the roots -/
def ef : St → SOp → Res
  | ⟨env, rts⟩, .box d e n x =>
    foL (cellsOf (und (xv ⟨env, rts⟩ x))) fun vs =>
    bif fresh d ⟨env, rts⟩ && (Nat.beq vs.length n && oneL vs) then .ok ⟨(d, .loc d 0) :: env, (d, .blk e vs) :: rts⟩ (gdo (xv ⟨env, rts⟩ x)) else .no
  | ⟨env, rts⟩, .alloc d e zero => bif fresh d ⟨env, rts⟩ && isPureL zero then .ok ⟨(d, .loc d 0) :: env, (d, .blk e zero) :: rts⟩ [] else .no
  | ⟨env, rts⟩, .ust d e x n =>
    (match und (xv ⟨env, rts⟩ x), und (xv ⟨env, rts⟩ n) with
    | .nilp, .int .i64 m => .mk ((d, .str []) :: env) rts ((m = 0) :: (gdo (xv ⟨env, rts⟩ x) ++ gdo (xv ⟨env, rts⟩ n)))
    | .locE q 1 0 0, .int .i64 m => (match lookR rts q with
      | some (.row e' sz k f) => bif Nat.beq sz 1 && Nat.beq e e' then .mk ((d, .str (bytesOf k f)) :: env) (eraseR q rts) ((m = k ∧ 0 < k) :: bytesOb k f :: (gdo (xv ⟨env, rts⟩ x) ++ gdo (xv ⟨env, rts⟩ n))) else .no
      | _ => .no)
    | _, _ => .no)
  | ⟨env, rts⟩, .sby d e x =>
    (match und (xv ⟨env, rts⟩ x) with
    | .str l => .ok ⟨(d, .sl 1 l.length (fun i => [.int .u8 ((l.getD i 0).toNat : Int)])) :: env, rts⟩ ((l.length ≤ 140737488355328) :: gdo (xv ⟨env, rts⟩ x))
    | _ => .no)
  | ⟨env, rts⟩, .copy d sz x y =>
    (match und (xv ⟨env, rts⟩ x) with
    | .ref q => (match lookR rts q, source rts sz (und (xv ⟨env, rts⟩ y)) with
      | some (.row e sz' n f), some (m, g) => bif Nat.beq sz sz' then .mk ((d, .int .i64 m) :: env) (setR q (.row e sz n (copied m f g)) rts) ((m ≤ n) :: (gdo (xv ⟨env, rts⟩ x) ++ gdo (xv ⟨env, rts⟩ y))) else .no
      | _, _ => .no)
    | _ => .no)
  | ⟨env, rts⟩, .mks d e sz bytes l c zero =>
    bif fresh d ⟨env, rts⟩ && isPureL zero then
      (match und (xv ⟨env, rts⟩ l), und (xv ⟨env, rts⟩ c) with
      | .int _ a, .int _ b => .ok ⟨(d, .ref d) :: env, (d, .row e sz a.toNat (fun _ => zero)) :: rts⟩ ((0 ≤ a ∧ a ≤ b ∧ b ≤ 9223372036854775807 ∧ (bytes : Int) * b ≤ 281474976710656) :: (gdo (xv ⟨env, rts⟩ l) ++ gdo (xv ⟨env, rts⟩ c)))
      | _, _ => .no)
    else .no
  | ⟨env, rts⟩, .bsl d e sz len ps =>
    bif fresh d ⟨env, rts⟩ then
      Res.or (bslL ⟨env, rts⟩ sz ps 0 [] fun l ob => bif Nat.beq l.length len then .ok ⟨(d, .ref d) :: env, (d, .row e sz len (nth l)) :: rts⟩ ob else .no) (bslO env rts d e sz len ps)
    else .no
  | ⟨env, rts⟩, .store x v n =>
    foL (cellsOf (und (xv ⟨env, rts⟩ v))) fun vs =>
    bif Nat.beq vs.length n && oneL vs then
      (match und (xv ⟨env, rts⟩ x) with
      | .loc q off => match lookR rts q with
        | some (.blk e cells) => bif Nat.ble (off + n) cells.length then .mk env (setR q (.blk e (setAt off vs cells)) rts) (gdo (xv ⟨env, rts⟩ x) ++ gdo (xv ⟨env, rts⟩ v)) else .no
        | _ => .no
      | .locE q sz k off => match lookR rts q with
        | some (.row e sz' m f) =>
          bif Nat.beq sz sz' && (Nat.ble (off + n) sz && isPureL vs) then
            .mk env (setR q (.row e sz m (stored k off vs f)) rts) ((k < m) :: (gdo (xv ⟨env, rts⟩ x) ++ gdo (xv ⟨env, rts⟩ v)))
          else .no
        | some (.rowO e sz' m f i fs) => bif Nat.beq sz sz' then storeO env rts q k off n e sz m f i fs vs (gdo (xv ⟨env, rts⟩ x) ++ gdo (xv ⟨env, rts⟩ v)) else .no
        | _ => .no
      | _ => .no)
    else .no
  | ⟨env, rts⟩, .app d e sz bytes b x =>
    bif fresh d ⟨env, rts⟩ then
      (match source rts sz (und (xv ⟨env, rts⟩ x)) with
      | some (m, g) =>
        (match und (xv ⟨env, rts⟩ b) with
        | .nils => .ok ⟨(d, .ref d) :: env, (d, .row e sz m g) :: rts⟩ ((m ≤ 9223372036854775807 ∧ m * bytes ≤ 140737488355328) :: (gdo (xv ⟨env, rts⟩ b) ++ gdo (xv ⟨env, rts⟩ x)))
        | .emp => .ok ⟨(d, .ref d) :: env, (d, .row e sz m g) :: rts⟩ ((m ≤ 9223372036854775807 ∧ m * bytes ≤ 140737488355328) :: (gdo (xv ⟨env, rts⟩ b) ++ gdo (xv ⟨env, rts⟩ x)))
        | .ref q => (match lookR rts q with
          | some (.row e' sz' n f) =>
            bif Nat.beq sz sz' && Nat.beq e e' then
              .mk ((d, .ref d) :: env) ((d, .row e sz (n + m) (joined n f g)) :: eraseR q rts) ((n + m ≤ 9223372036854775807 ∧ (n + m) * bytes ≤ 140737488355328) :: (gdo (xv ⟨env, rts⟩ b) ++ gdo (xv ⟨env, rts⟩ x)))
            else .no
          | some (.rowO e' sz' n f _ fs) =>
            bif Nat.beq sz sz' && (Nat.beq e e' && isNilF fs) then
              .mk ((d, .ref d) :: env) ((d, .rowO e sz (n + m) (joined n f g) 0 []) :: eraseR q rts) ((n + m ≤ 9223372036854775807 ∧ (n + m) * bytes ≤ 140737488355328) :: (gdo (xv ⟨env, rts⟩ b) ++ gdo (xv ⟨env, rts⟩ x)))
            else .no
          | _ => .no)
        | _ => .no)
      | none => appO env rts d e sz bytes (gdo (xv ⟨env, rts⟩ b) ++ gdo (xv ⟨env, rts⟩ x)) (und (xv ⟨env, rts⟩ x)) (und (xv ⟨env, rts⟩ b)))
    else .no
  | _, _ => .no

def step : St → SO → Res
  | ⟨env, rts⟩, o =>
  match o.g with
  | none =>
    match ev ⟨env, rts⟩ o.op with
    | .ok v ob => (match o.op.dst with | some d => fo v fun v => .ok ⟨(d, v) :: env, rts⟩ ob | none => .ok ⟨env, rts⟩ ob)
    | .no => ef ⟨env, rts⟩ o.op
  | some (j, want) =>
    match ev ⟨env, rts⟩ o.op, o.op.dst with
    | .ok v ob, some d =>
      (match look env j with
      | .bool b => fo (und v) fun v' => .ok ⟨(d, .cnd (bif want then b else !b) v') :: env, rts⟩ [(bif want then b else !b) = true → allP (gdo v ++ ob)]
      | .cnd g (.bool b) => fo (und v) fun v' => .ok ⟨(d, .cnd (g && (bif want then b else !b)) v') :: env, rts⟩ [(g && (bif want then b else !b)) = true → allP (gdo v ++ ob)]
      | _ => .no)
    | _, _ => .no

end Go.Av
end
/- part AvComp -/
section
namespace Go.Av

def cav0 : Value → AV
  | .bool b => .bool b
  | .int k n => .int k n
  | .string s => .str s.data.toList
  | .pointer none => .nilp
  | .slice none 0 0 => .nils
  | .nilFunc => .nilfn
  | .nilIface => .nilif
  | .func (.func f) ⟨[]⟩ ⟨[]⟩ => .fn f []
  | _ => .any
def cav : Value → AV
  | .agg cs => .agg (cs.toList.map cav0)
  | .tuple cs => .tup (cs.toList.map cav0)
  | v => cav0 v
def xop : Operand → X
  | .tmp t => .t t
  | .const v => .c (cav v)
  | .global _ => .c .any
  | .func f => .c (.fn f [])
def xops (l : List Operand) : List X := l.map xop

def sizeT (P : Program) (t : TypeId) : Nat := ((P.info? t).map (·.size)).getD 0
def bytesT (P : Program) (t : TypeId) : Nat := ((P.info? t).map (·.bytes)).getD 0
def aggT (P : Program) (t : TypeId) : Bool := match P.underlying t with | some (.struct _) | some (.array ..) => true | _ => false
def zeroT (P : Program) (t : TypeId) : List Value := match (P.info? t).bind (·.zero) with | some z => z.cells.toList | none => []
def zeroOk (P : Program) (t : TypeId) : Bool := match (P.info? t).bind (·.zero) with | some z => Nat.beq z.cells.size (sizeT P t) && z.cells.toList.all (·.oneCell') | none => false
def known (P : Program) (t : TypeId) : Bool := (P.info? t).isSome
def laidOk (P : Program) : List Field → Nat → Nat → Bool
  | [], off, n => Nat.beq off n
  | f :: r, off, n => Nat.beq f.offset off && laidOk P r (off + sizeT P f.type) n
/-- the cells of a type of prims alone (int, bool, string; structs of them) -/
def flat (P : Program) : Nat → TypeId → Option (List CK)
  | 0, _ => none
  | d + 1, t => match P.underlying t with
    | some .bool => some [.b]
    | some (.int _) => some [.i]
    | some .string => some [.s]
    | some (.struct fs) => bif !P.stoodInHeld t && laidOk P fs.toList 0 (sizeT P t) then go (flat P d) fs.toList else none
    | _ => none
where
  go (F : TypeId → Option (List CK)) : List Field → Option (List CK)
    | [] => some []
    | f :: r => bif f.name != "_" && known P f.type then
        (match F f.type, go F r with
        | some l, some m => bif Nat.beq l.length (sizeT P f.type) then some (l ++ m) else none
        | _, _ => none) else none

def partsOf (P : Program) (fs : Array Field) : List (Nat × Operand) → Option (List (Nat × Nat × X))
  | [] => some []
  | (i, x) :: r => match fs[i]?, partsOf P fs r with
    | some f, some l => some ((f.offset, sizeT P f.type, xop x) :: l)
    | _, _ => none

def copCall (P : Program) (c : Call) (dst : Option Nat) : SOp :=
  match c.callee, c.args.toList, c.argTypes.toList, dst with
  | .builtin .len, [x], [t], some d => (match P.underlying t with | some .string => .len d true (xop x) | some (.slice _) => .len d false (xop x) | _ => .bad)
  | .builtin .unsafeSliceData, [x], _, some d => .usd d (xop x)
  | .builtin .unsafeString, [x, n], [t, _], some d => (match P.underlying t with | some (.pointer e) => bif Nat.beq (P.cellsOf e) 1 then .ust d e (xop x) (xop n) else .bad | _ => .bad)
  | .builtin .max, [x, y], _, some d => .mx d (xop x) (xop y)
  | .builtin .min, [x, y], _, some d => .mn d (xop x) (xop y)
  | .builtin .copy, [x, y], [t, u], some d =>
    (match P.underlying t with
    | some (.slice e) => bif zeroOk P e && (Nat.blt 0 (sizeT P e) && Nat.beq t u) then .copy d (sizeT P e) (xop x) (xop y) else .bad
    | _ => .bad)
  | .builtin .append, [x, y], [t, u], some d =>
    (match P.underlying t with
    | some (.slice e) => bif zeroOk P e && (Nat.blt 0 (sizeT P e) && (Nat.beq t u || (match P.underlying u with | some (.slice e') => Nat.beq e e' | some .string => true | _ => false))) then .app d e (sizeT P e) (bytesT P e) (xop x) (xop y) else .bad
    | _ => .bad)
  | .value f, args, _, d => .callT d (xop f) (xops args)
  | _, _, _, _ => .bad
def cop1 (P : Program) (op : Op) (dst : Option Nat) : SOp :=
  match op, dst with
  | .move x, some d | .assign x, some d => .mov d (xop x)
  | .pick c a b, some d => .pick d (xop c) (xop a) (xop b)
  | .alloc e, some d => bif zeroOk P e then .alloc d e ((zeroT P e).map cav0) else .bad
  | .box e x, some d => bif zeroOk P e && Nat.blt 0 (sizeT P e) then .box d e (sizeT P e) (xop x) else .bad
  | .build t ps, some d =>
    match P.underlying t with
    | some (.struct fs) =>
      bif zeroOk P t && fs.toList.all (fun f => known P f.type) then (match partsOf P fs ps.toList with | some l => .build d ((zeroT P t).map cav0) l | none => .bad) else .bad
    | some (.array _ e) =>
      bif zeroOk P t && known P e then .build d ((zeroT P t).map cav0) (ps.toList.map fun (i, x) => (i * sizeT P e, sizeT P e, xop x)) else .bad
    | _ => .bad
  | .buildSlice t len ps, some d =>
    match P.underlying t with
    | some (.slice e) => bif zeroOk P e && (Nat.blt 0 (sizeT P e) && Nat.ble (len * sizeT P e) 16777216) then .bsl d e (sizeT P e) len (ps.toList.map fun (i, x) => (i, xop x)) else .bad
    | _ => .bad
  | .makeSlice t l c, some d =>
    match P.underlying t with
    | some (.slice e) => bif zeroOk P e && Nat.blt 0 (sizeT P e) then .mks d e (sizeT P e) (bytesT P e) (xop l) (xop c) ((zeroT P e).map cav0) else .bad
    | _ => .bad
  | .load t x, some d => bif known P t && (P.underlying t).isSome then .load d (xop x) (sizeT P t) (aggT P t) else .bad
  | .store t x v, none => bif known P t && Nat.blt 0 (sizeT P t) then .store (xop x) (xop v) (sizeT P t) else .bad
  | .nilCheck x, d => .nilc d (xop x)
  | .binOp op t x y _, some d =>
    match op with
    | .eql | .neq =>
      (match P.underlying t with
      | some (.int _) | some .string => .bin d op (xop x) (xop y)
      | some .bool => .eqb d (isNeq op) (xop x) (xop y)
      | some (.struct _) => (match flat P 10 t with | some ks => bif Nat.beq ks.length (sizeT P t) && !P.eqGuardType P.depth t then .eqa d (isNeq op) ks (xop x) (xop y) else .bad | none => .bad)
      | some (.pointer e) => .eqn d (isNeq op) (bif known P e && Nat.blt 0 (sizeT P e) then .q else .p) (xop x) (xop y)
      | some (.slice _) => .eqn d (isNeq op) .s (xop x) (xop y)
      | some (.func ..) => .eqn d (isNeq op) .f (xop x) (xop y)
      | _ => .bad)
    | _ => .bin d op (xop x) (xop y)
  | .unOp .not _ x, some d => .not d (xop x)
  | .unOp .neg _ x, some d => .neg d (xop x)
  | .convert s t x, some d =>
    match P.underlying s, P.underlying t with
    | some (.int _), some (.int k) => .cvi d k (xop x)
    | some (.pointer u), some .unsafePointer => bif known P u && Nat.blt 0 (sizeT P u) then .cvp d u (xop x) else .bad
    | some .unsafePointer, some (.pointer u) => bif known P u && (Nat.blt 0 (sizeT P u) && liesAt P P.depth u (sizeT P u / P.cellsOf u) 0 u 1) then .cvq d u (sizeT P u) (xop x) else .bad
    | some (.slice e), some .string => (match P.underlying e with | some (.int .u8) => .bst d (xop x) | _ => .bad)
    | some .string, some (.slice e) => (match P.underlying e with | some (.int .u8) => .sby d e (xop x) | _ => .bad)
    | _, _ => .bad
  | .makeInterface t x, some d => (match P.underlying t with | some (.interface _) => .bad | some _ => .mki d t (xop x) | none => .bad)
  | .makeFunc (.func f) first caps, some d => bif first.toList.isEmpty then .mkf d f (xops caps.toList) else .bad
  | .slice t x lo hi none, some d =>
    match P.underlying t with
    | some .string => .slice d 0 (xop x) (lo.map xop) (hi.map xop)
    | some (.slice e) => bif known P e && Nat.blt 0 (sizeT P e) then .slice d (sizeT P e) (xop x) (lo.map xop) (hi.map xop) else .bad
    | _ => .bad
  | .fieldAddr t x k, some d =>
    match P.underlying t with
    | some (.struct fs) => (match fs[k]? with | some f => bif known P f.type && Nat.blt 0 (sizeT P f.type) then .fad d (xop x) f.offset else .bad | none => .bad)
    | _ => .bad
  | .field t x k, some d =>
    match P.underlying t with
    | some (.struct fs) => (match fs[k]? with | some f => bif known P f.type && (P.underlying f.type).isSome then .fld d (xop x) f.offset (sizeT P f.type) (aggT P f.type) else .bad | none => .bad)
    | _ => .bad
  | .indexAddr t (.global g) i, some d =>
    match P.underlying t, tabOf P g with
    | some (.array n e), some (m, f) => bif known P e && (Nat.beq (sizeT P e) 1 && Nat.beq n m) then .idg d n g f (xop i) else .bad
    | _, _ => .bad
  | .indexAddr t x i, some d =>
    match P.underlying t with
    | some (.slice e) => bif known P e then .idx d (xop x) (xop i) (sizeT P e) else .bad
    | some (.array n e) => bif known P e then .ida d (xop x) (xop i) n (sizeT P e) else .bad
    | _ => .bad
  | .index t x i, some d =>
    match P.underlying t with
    | some .string => .ind d (xop x) (xop i)
    | _ => .bad
  | .extract x i, some d => .ext d (xop x) i
  | .call c, d => copCall P c d
  | _, _ => .bad

def cop (P : Program) (o : Oper) : SOp := cop1 P o.op o.dst

def cso (P : Program) (draw : Bool) (ops : Array Oper) (o : Oper) : SO :=
  { op := match o.guard with
      | none => cop P o
      | some (j, _) => (match (ops[j]?).bind (·.dst) with | some _ => cop P o | none => .bad)
    g := match o.guard with
      | none => none
      | some (j, w) => (match (ops[j]?).bind (·.dst) with | some d => some (d, w) | none => some (0, w))
    af := bif draw then (o.after.toList.filter (Region.binds .any)).map (·.on) else [] }
def cc (P : Program) : Code → SCode
  | .skip => .skip
  | .region _ ops draw => .reg (ops.toList.map (cso P draw ops)) draw
  | .seq a b => .seq (cc P a) (cc P b)
  | .cond c a b => .cond (xop c) (cc P a) (cc P b)
  | .block id b => .block id (cc P b)
  | .loop b => .loop (cc P b)
  | .exit id => .exit id
  | .ret => .ret
  | _ => .bad
theorem cop1_idx_none {P : Program} {t : TypeId} {x i : Operand} : cop1 P (.indexAddr t x i) none = .bad := by cases x <;> rfl
end Go.Av
end
/- part AvEv -/
section
namespace Go.Av
open Go

theorem cav0_den (I β) : ∀ v, Den I β (cav0 v) v := by
  intro v
  unfold cav0
  split <;> simp [Den, DenL]
theorem cav0s_den (I β) : ∀ l : List Value, DenL I β (l.map cav0) l
  | [] => rfl
  | v :: r => ⟨v, r, rfl, cav0_den I β v, cav0s_den I β r⟩
theorem cav_den (I β) (v : Value) : Den I β (cav v) v := by
  unfold cav
  split
  · exact ⟨_, rfl, cav0s_den I β _⟩
  · exact ⟨_, rfl, cav0s_den I β _⟩
  · exact cav0_den I β _

section
variable {P : Program} {C : Ctx P} {s : St} {a : Act} {w : World} {I : Imm} {g : Nat → Value} {ow : Nat → List Nat}
theorem xop_den (h : SatAt C s a w I g ow) (x : Operand) : Den I (some g) (xv s (xop x)) (a.eval x) := by
  cases x with
  | tmp t => exact h.env t
  | const v => exact cav_den I _ v
  | global b => exact trivial
  | func f => exact ⟨[], rfl, rfl⟩
theorem xops_den (h : SatAt C s a w I g ow) : ∀ l : List Operand, DenL I (some g) (xvs s (xops l)) (l.map a.eval)
  | [] => rfl
  | x :: r => ⟨_, _, rfl, xop_den h x, xops_den h r⟩
theorem und_den {av : AV} {u : Value} (h : Den I (some g) av u) (hg : allP (gdo av)) : Den I (some g) (und av) u := by
  cases av <;> first | exact h | skip
  exact h.1 hg.1
theorem allP_append {l r : List Prop} : allP (l ++ r) ↔ allP l ∧ allP r := by
  induction l with
  | nil => simp [allP]
  | cons p l ih => simp [allP, ih, and_assoc]
/-- an operand read: the term behind its condition -/
theorem x_den (h : SatAt C s a w I g ow) (x : Operand) (hg : allP (gdo (xv s (xop x)))) : Den I (some g) (und (xv s (xop x))) (a.eval x) :=
  und_den (xop_den h x) hg
theorem ofOpt_ok {ob ob' : List Prop} {r : Option AV} {v : AV} (h : ofOpt ob r = .ok v ob') : r = some v ∧ ob' = ob := by
  cases r with
  | none => cases h
  | some x => simp only [ofOpt, Pv.ok.injEq] at h; exact ⟨by rw [h.1], h.2.symm⟩
theorem known_info {t : TypeId} (h : known P t = true) : ∃ i, P.info? t = some i ∧ i.size = sizeT P t ∧ i.bytes = bytesT P t := by
  unfold known at h
  cases hi : P.info? t with
  | none => simp [hi] at h
  | some i => exact ⟨i, rfl, by simp [sizeT, hi], by simp [bytesT, hi]⟩
theorem run_sizeOf_known {t : TypeId} (h : known P t = true) (w : World) : (sizeOf t).run P w = .ok (sizeT P t) w := by
  obtain ⟨i, hi, hs, _⟩ := known_info h
  simp [sizeOf, typeInfo, hi, hs]
theorem run_isAgg_known {t : TypeId} (h : (P.underlying t).isSome = true) (w : World) : (isAgg t).run P w = .ok (aggT P t) w := by
  cases hu : P.underlying t with
  | none => simp [hu] at h
  | some d => cases d <;> simp [isAgg, underlying, hu, aggT]
theorem pick_den {β : Option (Nat → Value)} {cs : List AV} {vs : List Value} (h : DenL I β cs vs) {n : Nat} {agg : Bool} {v : AV} (hp : pickCells cs n agg = some v) :
    (agg = true → n ≤ vs.length ∧ Den I β v (.agg ⟨vs.take n⟩)) ∧ (agg = false → ∃ u, vs[0]? = some u ∧ Den I β v u) := by
  refine ⟨fun ha => ?_, fun ha => ?_⟩
  · subst ha
    simp only [pickCells, cond_true] at hp
    cases hb : Nat.ble n cs.length with
    | false => simp [hb] at hp
    | true =>
      simp [hb] at hp
      subst hp
      rw [Nat.ble_eq] at hb
      exact ⟨by rw [← h.length]; exact hb, _, rfl, h.take n⟩
  · subst ha
    simp only [pickCells, cond_false] at hp
    cases cs with
    | nil => simp at hp
    | cons c cs =>
      simp at hp
      subst hp
      obtain ⟨u, ws, e, d, _⟩ := h
      exact ⟨u, by simp [e], d⟩
/-- cells in a row, read by loadVar -/
theorem run_loadVar_cells {t : TypeId} (hk : known P t = true) (hu : (P.underlying t).isSome = true) {ad : Addr} {vs : List Value} {β : Option (Nat → Value)}
    (hc : ∀ j v, vs[j]? = some v → w.cell? (ad.add j) = some v) {cs : List AV} (hd : DenL I β cs vs) {v : AV} (hp : pickCells cs (sizeT P t) (aggT P t) = some v) :
    ∃ u, (loadVar t ad).run P w = .ok u w ∧ Den I β v u := by
  obtain ⟨h1, h2⟩ := pick_den hd hp
  cases ha : aggT P t with
  | true =>
    obtain ⟨hn, hden⟩ := h1 ha
    refine ⟨_, ?_, hden⟩
    have := run_loadCells_list (P := P) (w := w) ad (vs.take (sizeT P t)) (fun j v hj => hc j v (by
      rw [List.getElem?_take] at hj
      split at hj
      · exact hj
      · cases hj))
    rw [List.length_take, Nat.min_eq_left hn] at this
    simp [loadVar, run_isAgg_known hu, ha, run_sizeOf_known hk, this]
  | false =>
    obtain ⟨u, hu0, hden⟩ := h2 ha
    refine ⟨u, ?_, hden⟩
    have := hc 0 u hu0
    simp only [Addr.add, if_true] at this
    simp [loadVar, run_isAgg_known hu, ha, this]

theorem add_none (b o j : Nat) : (⟨b, o, none⟩ : Addr).add j = ⟨b, o + j, none⟩ := by
  unfold Addr.add
  split
  · subst_vars; rfl
  · rfl
theorem cell_heap {b : Nat} {cur : Array Value} {e : TypeId} {fz : Nat × Nat} (hb : w.heap[b]? = some (.cells cur e fz)) (j : Nat) : w.cell? ⟨b, j, none⟩ = cur.toList[j]? := by
  simp [World.cell?, hb]
theorem strip_den {g : Nat → Value} {ow : Nat → List Nat} {w : World} {path : Nat → List Nat} {fs : List (Nat × Nat)} {k : Nat} {x : AV} {v : Value} (h : CellOK I g ow w path fs k x v) : Den I none (strip x) v := by
  unfold CellOK at h
  split at h
  · obtain ⟨⟨e, sz, n, f, rfl⟩, _, a, m, c, hv⟩ := h
    exact ⟨a, m, c, hv⟩
  · cases x with
    | own e sz n f =>
      rcases h with ⟨a, hv, _⟩ | ⟨b, cap, cur, hv, _⟩
      · exact ⟨a, _, _, hv⟩
      · exact ⟨_, _, _, hv⟩
    | _ => exact h
theorem stripL_den {g : Nat → Value} {ow : Nat → List Nat} {w : World} {path : Nat → List Nat} {fs : List (Nat × Nat)} : ∀ {k : Nat} {xs : List AV} {vs : List Value}, CellsOK I g ow w path fs k xs vs → DenL I none (stripL xs) vs
  | _, [], _, h => h
  | _, _ :: _, _, ⟨v, ws, e, h1, h2⟩ => ⟨v, ws, e, strip_den h1, stripL_den h2⟩
theorem stripL_drop : ∀ (n : Nat) (xs : List AV), stripL (xs.drop n) = (stripL xs).drop n
  | 0, _ => rfl
  | _ + 1, [] => rfl
  | n + 1, _ :: xs => stripL_drop n xs
theorem cellsOK_focus {g : Nat → Value} {ow : Nat → List Nat} {w : World} {path : Nat → List Nat} {fs : List (Nat × Nat)} {off p : Nat} (hl : lookF fs off = some p) : ∀ {k : Nat} {xs : List AV} {vs : List Value}, CellsOK I g ow w path fs k xs vs → k ≤ off → off - k < xs.length → ∃ u, vs[off - k]? = some u ∧ u = g p ∧ ∃ a n c, u = .slice a n c
  | _, [], _, _, _, hlt => by simp at hlt
  | k, x :: xs, _, ⟨v, ws, e, h1, h2⟩, hk, hlt => by
    subst e
    by_cases hko : k = off
    · subst hko
      unfold CellOK at h1
      rw [hl] at h1
      exact ⟨v, by simp, h1.2⟩
    · obtain ⟨u, hu1, hu2⟩ := cellsOK_focus hl h2 (by omega) (by simp only [List.length_cons] at hlt; omega)
      refine ⟨u, ?_, hu2⟩
      rw [show off - k = (off - (k + 1)) + 1 by omega]
      simpa using hu1
theorem loadAt_sound (h : SatAt C s a w I g ow) {t : TypeId} (hk : known P t = true) (hu : (P.underlying t).isSome = true) {av : AV} {u : Value} (hd : Den I (some g) av u)
    {ob ob' : List Prop} {v : AV} (he : loadAt s (sizeT P t) (aggT P t) ob av = .ok v ob') (hob : allP ob') :
    ∃ r, (Instr.loadAt t u).run P w = .ok r w ∧ Den I (some g) v r := by
  cases av with
  | loc q off =>
    simp only [loadAt] at he
    split at he
    · rename_i cells hr
      obtain ⟨hp, -⟩ := ofOpt_ok he
      obtain ⟨b, cur, hq, hw, hb, -, hc⟩ := h.rts q _ hr
      obtain ⟨g', b', hg, hq', rfl⟩ := hd
      cases hg
      rw [hq] at hq'
      cases hq'
      obtain ⟨r, hr1, hr2⟩ := run_loadVar_cells (w := w) hk hu (ad := ⟨b, off, none⟩) (vs := cur.toList.drop off) (fun j v hj => by
        rw [add_none, cell_heap hb]
        rwa [List.getElem?_drop] at hj) (hc.drop off) hp
      exact ⟨r, by simpa [Instr.loadAt, Instr.sureAddr] using hr1, hr2⟩
    · cases he
  | locE q sz k off =>
    simp only [loadAt] at he
    split at he
    · rename_i e sz' m f hr
      cases hs : Nat.beq sz sz' with
      | false => simp [hs] at he
      | true =>
        simp [hs] at he
        have hs' : sz = sz' := Nat.eq_of_beq_eq_true hs
        subst hs'
        obtain ⟨hp, rfl⟩ := ofOpt_ok he
        have hkm : k < m := hob.1
        obtain ⟨g', b', n', c', hg, hq', rfl⟩ := hd
        cases hg
        rcases h.rts q _ hr with ⟨a0, _, hn⟩ | ⟨b, cap, cur, hq, hw, hb, hnc, hcm, hcs, -, hc⟩
        · omega
        · rw [hq] at hq'
          cases hq'
          have hcc := (hc k hkm).drop off
          obtain ⟨r, hr1, hr2⟩ := run_loadVar_cells (w := w) hk hu (ad := ⟨b', k * sz + off, none⟩) (vs := ((cur.toList.drop (k * sz)).take sz).drop off) (fun j v hj => by
            rw [add_none, cell_heap hb]
            rw [List.getElem?_drop, List.getElem?_take] at hj
            split at hj
            · rw [List.getElem?_drop] at hj
              rw [← hj, Nat.add_assoc]
            · cases hj) hcc hp
          exact ⟨r, by simpa [Instr.loadAt, Instr.sureAddr] using hr1, Den.pure _ _ hr2⟩
    · rename_i e sz' m f i fs hr
      cases hs : Nat.beq sz sz' with
      | false => simp [hs] at he
      | true =>
        simp [hs] at he
        have hs' : sz = sz' := Nat.eq_of_beq_eq_true hs
        subst hs'
        have hkm : k < m := by
          unfold loadO at he
          cases ha : aggT P t with
          | true =>
            rw [ha] at he
            obtain ⟨hp, rfl⟩ := ofOpt_ok he
            exact hob.1
          | false =>
            rw [ha] at he
            simp only [cond_false] at he
            split at he
            · split at he
              · cases he
              · simp only [Pv.ok.injEq] at he
                rw [← he.2] at hob
                exact hob.2.1
            · obtain ⟨hp, rfl⟩ := ofOpt_ok he
              exact hob.1
        obtain ⟨g', b', n', c', hg, hq', rfl⟩ := hd
        cases hg
        rcases h.rts q _ hr with ⟨a0, _, hn⟩ | ⟨b, cap, cur, hq, hw, hb, hnc, hcm, hcs, -, hc⟩
        · omega
        · rw [hq] at hq'
          cases hq'
          have hcc := hc k hkm
          have hcell : ∀ j v, (((cur.toList.drop (k * sz)).take sz).drop off)[j]? = some v → w.cell? ((⟨b', k * sz + off, none⟩ : Addr).add j) = some v := fun j v hj => by
            rw [add_none, cell_heap hb]
            rw [List.getElem?_drop, List.getElem?_take] at hj
            split at hj
            · rw [List.getElem?_drop] at hj
              rw [← hj, Nat.add_assoc]
            · cases hj
          have plainCase : ∀ {agg : Bool}, agg = aggT P t → ∀ {ob1 : List Prop}, ofOpt ob1 (pickCells (stripL ((f k).drop off)) (sizeT P t) agg) = .ok v ob' → ∃ r, (Instr.loadAt t (.pointer (some ⟨b', k * sz + off, none⟩))).run P w = .ok r w ∧ Den I (some g) v r := by
            intro agg hag ob1 he
            subst hag
            obtain ⟨hp, -⟩ := ofOpt_ok he
            have hst := (stripL_den hcc)
            rw [stripL_drop] at hp
            obtain ⟨r, hr1, hr2⟩ := run_loadVar_cells (w := w) hk hu (ad := ⟨b', k * sz + off, none⟩) hcell (hst.drop off) hp
            exact ⟨r, by simpa [Instr.loadAt, Instr.sureAddr] using hr1, Den.pure _ _ hr2⟩
          unfold loadO at he
          cases ha : aggT P t with
          | true => rw [ha] at he; exact plainCase ha.symm he
          | false =>
            rw [ha] at he
            simp only [cond_false] at he
            split at he
            · rename_i p hl
              obtain ⟨c0, cs0, hcs0⟩ : ∃ c0 cs0, (f k).drop off = c0 :: cs0 := by
                cases hx : (f k).drop off with
                | nil => rw [hx] at he; cases he
                | cons c0 cs0 => exact ⟨c0, cs0, rfl⟩
              rw [hcs0] at he
              simp only [Pv.ok.injEq] at he
              obtain ⟨rfl, rfl⟩ := he
              have hoff : off < (f k).length := by
                have := congrArg List.length hcs0
                rw [List.length_drop, List.length_cons] at this
                omega
              have hki : k = i := hob.1
              rw [if_pos hki] at hcc
              obtain ⟨u, hu1, hu2⟩ := cellsOK_focus hl hcc (Nat.zero_le _) (by rw [Nat.sub_zero]; exact hoff)
              rw [Nat.sub_zero] at hu1
              obtain ⟨r, hr1, hr2⟩ := run_loadVar_cells (w := w) hk hu (ad := ⟨b', k * sz + off, none⟩) (vs := [u]) (cs := [.ref p]) (β := some g) (v := .ref p) (fun j v hj => by
                  cases j with
                  | zero =>
                    simp only [List.getElem?_cons_zero, Option.some.injEq] at hj
                    subst hj
                    exact hcell 0 u (by rw [List.getElem?_drop, Nat.add_zero]; exact hu1)
                  | succ j => simp at hj) ⟨u, [], rfl, ⟨g, rfl, hu2.1, hu2.2⟩, rfl⟩ (by rw [ha]; rfl)
              exact ⟨r, by simpa [Instr.loadAt, Instr.sureAddr] using hr1, hr2⟩
            · exact plainCase ha.symm he
    · cases he
  | ptr cells =>
    simp only [loadAt] at he
    obtain ⟨hp, -⟩ := ofOpt_ok he
    obtain ⟨b, o, vs, rfl, hr, hc⟩ := hd
    obtain ⟨r, hr1, hr2⟩ := run_loadVar_cells (w := w) hk hu (ad := ⟨b, o, none⟩) (vs := vs) (fun j v hj => by
      rw [add_none]
      exact h.imm _ _ _ (hr j v hj)) hc hp
    exact ⟨r, by simpa [Instr.loadAt, Instr.sureAddr] using hr1, Den.pure _ _ hr2⟩
  | _ => cases he
end
end Go.Av
end
/- part AvEq -/
section
namespace Go.Av
theorem kq_eq {k k' : IntKind} (h : kq k k' = true) : k = k' := by cases k <;> cases k' <;> first | rfl | cases h
theorem mk_toList (l : List UInt8) : (⟨⟨l⟩⟩ : ByteArray).toList = l := ByteArray.toList_mk l
section
variable {P : Program} {I : Imm} {β : Option (Nat → Value)}
theorem eqv_int {x y : AV} {u v : Value} {r : Bool} (he : eqv .i x y = some r) (hx : Den I β x u) (hy : Den I β y v) : ∃ k a b, u = .int k a ∧ v = .int k b ∧ r = (a == b) := by
  cases x <;> cases y <;> simp only [eqv] at he <;> first | cases he | skip
  rename_i k a k' b
  cases hk : kq k k'
  · simp [hk] at he
  · simp [hk] at he
    have := kq_eq hk
    subst this
    exact ⟨_, _, _, hx, hy, he.symm⟩
theorem eqv_str {x y : AV} {u v : Value} {r : Bool} (he : eqv .s x y = some r) (hx : Den I β x u) (hy : Den I β y v) : ∃ a b : List UInt8, u = .string ⟨⟨a⟩⟩ ∧ v = .string ⟨⟨b⟩⟩ ∧ r = (a == b) := by
  cases x <;> cases y <;> simp only [eqv] at he <;> first | cases he | skip
  exact ⟨_, _, hx, hy, rfl⟩
theorem eqv_bool {x y : AV} {u v : Value} {r : Bool} (he : eqv .b x y = some r) (hx : Den I β x u) (hy : Den I β y v) : ∃ a b : Bool, u = .bool a ∧ v = .bool b ∧ r = (a == b) := by
  cases x <;> cases y <;> simp only [eqv] at he <;> first | cases he | skip
  exact ⟨_, _, hx, hy, rfl⟩
theorem eqvs_append {ks ls : List CK} : ∀ {as bs : List AV} {r : Bool}, eqvs (ks ++ ls) as bs = some r → ∃ r1 r2, eqvs ks (as.take ks.length) (bs.take ks.length) = some r1 ∧
    eqvs ls (as.drop ks.length) (bs.drop ks.length) = some r2 ∧ r = (r1 && r2) := by
  induction ks with
  | nil => intro as bs r h; exact ⟨true, r, rfl, by simpa using h, by simp⟩
  | cons k ks ih =>
    intro as bs r h
    cases as with
    | nil => cases bs <;> simp [eqvs] at h
    | cons a as =>
      cases bs with
      | nil => simp [eqvs] at h
      | cons b bs =>
        simp only [List.cons_append, eqvs] at h
        split at h
        · rename_i x y h1 h2
          obtain ⟨r1, r2, e1, e2, e3⟩ := ih h2
          simp only [Option.some.injEq] at h
          exact ⟨x && r1, r2, by simp [eqvs, h1, e1], by simpa using e2, by simp [← h, e3, Bool.and_assoc]⟩
        · cases h
theorem eqvs_length {ks : List CK} : ∀ {as bs : List AV} {r : Bool}, eqvs ks as bs = some r → as.length = ks.length ∧ bs.length = ks.length := by
  induction ks with
  | nil => intro as bs r h; cases as <;> cases bs <;> simp_all [eqvs]
  | cons k ks ih =>
    intro as bs r h
    cases as <;> cases bs <;> simp only [eqvs] at h <;> first | cases h | skip
    split at h
    · rename_i h1 h2
      obtain ⟨a, b⟩ := ih h2
      simp [a, b]
    · cases h
theorem eqvs_one {k : CK} {as bs : List AV} {us vs : List Value} {r : Bool} (he : eqvs [k] as bs = some r) (ha : DenL I β as us) (hb : DenL I β bs vs) :
    ∃ x y u v, eqv k x y = some r ∧ us = [u] ∧ vs = [v] ∧ Den I β x u ∧ Den I β y v := by
  match as, bs, ha, hb with
  | [a], [b], ⟨u, us', e1, d1, n1⟩, ⟨v, vs', e2, d2, n2⟩ =>
    cases n1; cases n2
    simp only [eqvs] at he
    split at he
    · rename_i x y h1 h2
      cases h2
      simp at he
      subst he
      exact ⟨a, b, u, v, h1, e1, e2, d1, d2⟩
    · cases he
  | [], [], _, _ => simp [eqvs] at he
  | [], _ :: _, _, _ => simp [eqvs] at he
  | _ :: _, [], _, _ => simp [eqvs] at he
  | [_], _ :: _ :: _, _, _ => simp [eqvs] at he
  | _ :: _ :: _, [_], _, _ => simp [eqvs] at he
  | _ :: _ :: _, _ :: _ :: _, _, _ => simp [eqvs] at he
/-- what '==' of type t needs, on cells -/
def EqAt (P : Program) (w : World) (t : TypeId) (D : Nat) (us vs : List Value) (r : Bool) : Prop :=
  (aggT P t = true → (Op.equalIn D t (.agg ⟨us⟩) (.agg ⟨vs⟩)).run P w = .ok r w) ∧
  (aggT P t = false → ∃ u v, us = [u] ∧ vs = [v] ∧ (Op.equalIn D t u v).run P w = .ok r w)
theorem run_part {t : TypeId} (hk : known P t = true) (hu : (P.underlying t).isSome = true) (w : World) (cs : List Value) (off : Nat) :
    (aggT P t = true → (part t ⟨cs⟩ off).run P w = .ok (.agg ⟨(cs.drop off).take (sizeT P t)⟩) w) ∧
    (aggT P t = false → ∀ u, (cs.drop off).take (sizeT P t) = [u] → (part t ⟨cs⟩ off).run P w = .ok u w) := by
  refine ⟨fun ha => ?_, fun ha u h1 => ?_⟩
  · simp only [part, Sem.run_bind, run_isAgg_known hu, ha, Result.andThen_ok, if_true, run_sizeOf_known hk, Sem.run_pure]
    have : (⟨cs⟩ : Array Value).extract off (off + sizeT P t) = ⟨(cs.drop off).take (sizeT P t)⟩ := by
      apply Array.ext'
      simp [Nat.add_sub_cancel_left, List.take_drop]
    rw [this]
  · have h0 : cs[off]? = some u := by
      have := congrArg (fun l => l[0]?) h1
      simp only [List.getElem?_take, List.getElem?_drop, Nat.add_zero] at this
      split at this
      · simpa using this
      · cases this
    simp only [part, Sem.run_bind, run_isAgg_known hu, ha, Result.andThen_ok, Bool.false_eq_true, if_false]
    have : (⟨cs⟩ : Array Value)[off]? = some u := by simpa using h0
    simp [this]
theorem flat_len {d : Nat} {t : TypeId} {ks : List CK} (h : flat P d t = some ks) : (P.underlying t).isSome = true := by
  cases d with
  | zero => simp [flat] at h
  | succ d => cases hu : P.underlying t <;> simp [flat, hu] at h ⊢
theorem eqFields_run (w : World) (D d : Nat) (ih : ∀ (t : TypeId) (ks : List CK) (as bs : List AV) (us vs : List Value) (r : Bool), flat P d t = some ks → eqvs ks as bs = some r →
      us.length = sizeT P t → vs.length = sizeT P t → DenL I β as us → DenL I β bs vs → EqAt P w t D us vs r) (xs ys : List Value) (n : Nat) (hx : xs.length = n) (hy : ys.length = n) :
    ∀ (fs : List Field) (off : Nat) (ks : List CK) (as bs : List AV) (r : Bool), flat.go P (flat P d) fs = some ks → laidOk P fs off n = true → eqvs ks as bs = some r →
      DenL I β as (xs.drop off) → DenL I β bs (ys.drop off) → (Op.eqFields D ⟨xs⟩ ⟨ys⟩ fs).run P w = .ok r w := by
  intro fs
  induction fs with
  | nil =>
    intro off ks as bs r hf hl he ha hb
    simp only [flat.go, Option.some.injEq] at hf
    subst hf
    cases as <;> cases bs <;> simp [eqvs] at he
    subst he
    simp [Op.eqFields]
  | cons f fs ihf =>
    intro off ks as bs r hf hl he ha hb
    simp only [flat.go] at hf
    cases hc : (f.name != "_" && known P f.type) with
    | false => simp [hc] at hf
    | true =>
      simp only [hc, cond_true] at hf
      simp only [Bool.and_eq_true] at hc
      split at hf
      · rename_i l m h1 h2
        cases hb1 : Nat.beq l.length (sizeT P f.type) with
        | false => simp [hb1] at hf
        | true =>
          simp [hb1] at hf
          subst hf
          have hsz : l.length = sizeT P f.type := beq_iff.1 hb1
          simp only [laidOk, Bool.and_eq_true] at hl
          have ho : f.offset = off := beq_iff.1 hl.1
          obtain ⟨r1, r2, e1, e2, rfl⟩ := eqvs_append he
          have hlen := eqvs_length e1
          have hal : l.length ≤ as.length := by have := hlen.1; rw [List.length_take] at this; omega
          have hbl : l.length ≤ bs.length := by have := hlen.2; rw [List.length_take] at this; omega
          have hxl : off + sizeT P f.type ≤ xs.length := by
            have h := ha.length; rw [List.length_drop] at h
            by_cases hz : sizeT P f.type = 0
            · have := hl.2
              clear ihf ih
              by_cases hle : off ≤ xs.length
              · omega
              · exfalso
                have hgt : ∀ (fs : List Field) (o : Nat), laidOk P fs o n = true → o ≤ n := by
                  intro fs
                  induction fs with
                  | nil => intro o h; exact Nat.le_of_eq (beq_iff.1 h)
                  | cons g gs ihg => intro o h; simp only [laidOk, Bool.and_eq_true] at h; have := ihg _ h.2; omega
                have := hgt _ _ hl.2
                omega
            · omega
          have hyl : off + sizeT P f.type ≤ ys.length := by omega
          have hu := flat_len h1
          obtain ⟨q1, q2⟩ := ih f.type l _ _ _ _ r1 h1 e1 (by rw [List.length_take, List.length_drop]; omega) (by rw [List.length_take, List.length_drop]; omega) (ha.take _) (hb.take _)
          obtain ⟨p1, p2⟩ := run_part hc.2 hu w xs off
          obtain ⟨p3, p4⟩ := run_part hc.2 hu w ys off
          have hne : f.name ≠ "_" := by simpa using hc.1
          have key : (Op.eqFields D ⟨xs⟩ ⟨ys⟩ (f :: fs)).run P w = if (!r1) = true then .ok false w else (Op.eqFields D ⟨xs⟩ ⟨ys⟩ fs).run P w := by
            simp only [Op.eqFields, ne_eq, hne, not_false_eq_true, if_true, Sem.run_bind, ho]
            rw [hsz] at q1 q2
            cases hag : aggT P f.type with
            | true =>
              simp only [p1 hag, Result.andThen_ok, p3 hag, q1 hag]
              cases r1 <;> simp
            | false =>
              obtain ⟨u, v, eu, ev, hr⟩ := q2 hag
              simp only [p2 hag u eu, Result.andThen_ok, p4 hag v ev, hr]
              cases r1 <;> simp
          rw [key]
          cases r1 with
          | false => simp
          | true =>
            simp only [Bool.not_true, Bool.false_eq_true, if_false, Bool.true_and]
            refine ihf (off + sizeT P f.type) m _ _ r2 h2 hl.2 e2 ?_ ?_
            · rw [← hsz, ← List.drop_drop]; exact ha.drop _
            · rw [← hsz, ← List.drop_drop]; exact hb.drop _
      · cases hf
/-- '==' of two structs of prims -/
theorem flat_eq (w : World) : ∀ (d D : Nat), d ≤ D → ∀ (t : TypeId) (ks : List CK) (as bs : List AV) (us vs : List Value) (r : Bool), flat P d t = some ks → eqvs ks as bs = some r →
    us.length = sizeT P t → vs.length = sizeT P t → DenL I β as us → DenL I β bs vs → EqAt P w t D us vs r := by
  intro d
  induction d with
  | zero => intro D _ t ks as bs us vs r h; simp [flat] at h
  | succ d ih =>
    intro D hD t ks as bs us vs r hf he hus hvs ha hb
    obtain ⟨D, rfl⟩ : ∃ D', D = D' + 1 := ⟨D - 1, by omega⟩
    simp only [flat] at hf
    split at hf
    · rename_i ht
      cases hf
      obtain ⟨x, y, u, v, h1, rfl, rfl, d1, d2⟩ := eqvs_one he ha hb
      obtain ⟨p, q, rfl, rfl, rfl⟩ := eqv_bool h1 d1 d2
      exact ⟨by simp [aggT, ht], fun _ => ⟨_, _, rfl, rfl, run_equalIn_bool' w D t p q ht⟩⟩
    · rename_i k ht
      cases hf
      obtain ⟨x, y, u, v, h1, rfl, rfl, d1, d2⟩ := eqvs_one he ha hb
      obtain ⟨k', p, q, rfl, rfl, rfl⟩ := eqv_int h1 d1 d2
      exact ⟨by simp [aggT, ht], fun _ => ⟨_, _, rfl, rfl, run_equalIn_int w D t _ _ p q ht⟩⟩
    · rename_i ht
      cases hf
      obtain ⟨x, y, u, v, h1, rfl, rfl, d1, d2⟩ := eqvs_one he ha hb
      obtain ⟨p, q, rfl, rfl, rfl⟩ := eqv_str h1 d1 d2
      exact ⟨by simp [aggT, ht], fun _ => ⟨_, _, rfl, rfl, by rw [run_equalIn_string w D t _ _ ht, mk_toList, mk_toList]⟩⟩
    · rename_i fs ht
      cases hc : (!P.stoodInHeld t && laidOk P fs.toList 0 (sizeT P t)) with
      | false => simp [hc] at hf
      | true =>
        simp only [hc, cond_true] at hf
        simp only [Bool.and_eq_true, Bool.not_eq_true'] at hc
        have hfo : P.fieldsOf t = fs := by simp [Program.fieldsOf, ht]
        refine ⟨fun _ => ?_, fun hn => by simp [aggT, ht] at hn⟩
        rw [run_equalIn_struct w D t _ _ (by rw [hfo]; exact ht) hc.1, hfo]
        refine eqFields_run w D d ?_ us vs (sizeT P t) hus hvs fs.toList 0 ks as bs r hf hc.2 he (by simpa using ha) (by simpa using hb)
        exact fun t' ks' as' bs' us' vs' r' h1 h2 h5 h6 h3 h4 => ih D (by omega) t' ks' as' bs' us' vs' r' h1 h2 h5 h6 h3 h4
    · cases hf
end
end Go.Av
end
/- part AvMain -/
section
namespace Go.Av
section
variable {P : Program} {C : Ctx P} {s : St} {a : Act} {w : World} {I : Imm} {g : Nat → Value} {ow : Nat → List Nat}
theorem i64?_eq {k : IntKind} (h : i64? k = true) : k = .i64 := by cases k <;> first | rfl | cases h
theorem arith_sound {op : BinOp} {k : IntKind} {x y : Int} {v : AV} {ob : List Prop} (he : arith op k x y = .ok v ob) (hob : allP ob) (t : TypeId) (w : World) :
    ∃ u, (binOp op t (.int k x) (.int k y)).run P w = .ok u w ∧ Den I (some g) v u := by
  cases op <;> simp only [arith] at he <;> first | cases he | skip
  case add =>
    refine ⟨.int k (k.wrap (x + y)), by simp [binOp, Op.intArith], ?_⟩
    cases hk : i64? k <;> simp only [hk, cond_true, cond_false, Pv.ok.injEq] at he <;> obtain ⟨rfl, rfl⟩ := he
    · rfl
    · cases i64?_eq hk; rw [IntWalk.i64_in _ hob.1]; rfl
  case sub =>
    refine ⟨.int k (k.wrap (x - y)), by simp [binOp, Op.intArith], ?_⟩
    cases hk : i64? k <;> simp only [hk, cond_true, cond_false, Pv.ok.injEq] at he <;> obtain ⟨rfl, rfl⟩ := he
    · rfl
    · cases i64?_eq hk; rw [IntWalk.i64_in _ hob.1]; rfl
  case mul =>
    refine ⟨.int k (k.wrap (x * y)), by simp [binOp, Op.intArith], ?_⟩
    cases hk : i64? k <;> simp only [hk, cond_true, cond_false, Pv.ok.injEq] at he <;> obtain ⟨rfl, rfl⟩ := he
    · rfl
    · cases i64?_eq hk; rw [IntWalk.i64_in _ hob.1]; rfl
  case quo =>
    cases hk : i64? k <;> simp only [hk, cond_true, cond_false, Pv.ok.injEq] at he <;> obtain ⟨rfl, rfl⟩ := he
    · obtain ⟨h1, h2⟩ := hob.1
      have hy : y ≠ 0 := by omega
      exact ⟨.int k (k.wrap (x.tdiv y)), by simp [binOp, Op.intDiv, hy], by rw [Int.tdiv_eq_ediv_of_nonneg h1]; rfl⟩
    · obtain ⟨h1, h2, h3⟩ := hob.1
      have hy : y ≠ 0 := by omega
      cases i64?_eq hk
      exact ⟨.int .i64 (IntKind.i64.wrap (x.tdiv y)), by simp [binOp, Op.intDiv, hy], by rw [IntWalk.i64_quo x y ⟨h1, h3, by omega⟩]; rfl⟩
  case rem =>
    obtain ⟨h1, h2⟩ := hob.1
    have hy : y ≠ 0 := by omega
    exact ⟨.int k (x.tmod y), by simp [binOp, Op.intDiv, hy], by rw [Int.tmod_eq_emod_of_nonneg h1]; rfl⟩
  case and => exact ⟨.int k (k.wrap (BitVec.ofInt k.bits x &&& BitVec.ofInt k.bits y).toNat), by simp only [binOp, Op.intBits, ne_eq, not_true_eq_false, if_false, Sem.run_pure], rfl⟩
  case or => exact ⟨.int k (k.wrap (BitVec.ofInt k.bits x ||| BitVec.ofInt k.bits y).toNat), by simp only [binOp, Op.intBits, ne_eq, not_true_eq_false, if_false, Sem.run_pure], rfl⟩
  case xor => exact ⟨.int k (k.wrap (BitVec.ofInt k.bits x ^^^ BitVec.ofInt k.bits y).toNat), by simp only [binOp, Op.intBits, ne_eq, not_true_eq_false, if_false, Sem.run_pure], rfl⟩
  case andNot => exact ⟨.int k (k.wrap (BitVec.ofInt k.bits x &&& ~~~ BitVec.ofInt k.bits y).toNat), by simp only [binOp, Op.intBits, ne_eq, not_true_eq_false, if_false, Sem.run_pure], rfl⟩
  all_goals exact ⟨_, by simp only [binOp, Op.intCmp, ne_eq, not_true_eq_false, if_false, Sem.run_pure], rfl⟩
theorem shiftv_sound {op : BinOp} {k k' : IntKind} {x y : Int} {v : AV} {ob : List Prop} (he : shiftv op k x y = .ok v ob) (hob : allP ob) (t : TypeId) (w : World) :
    ∃ u, (binOp op t (.int k x) (.int k' y)).run P w = .ok u w ∧ Den I (some g) v u := by
  cases op <;> simp only [shiftv] at he <;> first | (cases he; done) | skip
  case shl =>
    simp only [Pv.ok.injEq] at he
    obtain ⟨rfl, rfl⟩ := he
    have h0 : ¬ y < 0 := Int.not_lt.2 hob.1
    exact ⟨_, by simp only [binOp, Op.shift, if_neg h0, Sem.run_pure], rfl⟩
  case shr =>
    simp only [Pv.ok.injEq] at he
    obtain ⟨rfl, rfl⟩ := he
    have h0 : ¬ y < 0 := Int.not_lt.2 hob.1
    refine ⟨.int k (x.fdiv (2 ^ min y.toNat k.bits)), by simp only [binOp, Op.shift, if_neg h0, Sem.run_pure], ?_⟩
    rw [Int.fdiv_eq_ediv_of_nonneg _ (Int.pow_nonneg (by decide))]
    rfl
theorem strop_sound {op : BinOp} {x y : List UInt8} {v : AV} {ob : List Prop} (he : strop op x y = .ok v ob) (hob : allP ob) (t : TypeId) (w : World) :
    ∃ u, (binOp op t (.string ⟨⟨x⟩⟩) (.string ⟨⟨y⟩⟩)).run P w = .ok u w ∧ Den I (some g) v u := by
  cases op <;> simp only [strop] at he <;> first | cases he | skip
  case add =>
    have h1 : x.length + y.length ≤ 9223372036854775807 := hob.1
    have h2 : ¬ ((((⟨⟨x⟩⟩ : ByteArray).size + (⟨⟨y⟩⟩ : ByteArray).size : Nat) : Int) > IntKind.i64.max) := by
      have : (IntKind.i64.max : Int) = 9223372036854775807 := by decide
      rw [this]
      show ¬ (((x.length + y.length : Nat) : Int) > _)
      omega
    refine ⟨.string (⟨⟨x⟩⟩ ++ ⟨⟨y⟩⟩), by simp only [binOp, Op.stringOp, if_neg h2, Sem.run_pure], ?_⟩
    show Value.string _ = .string _
    congr 1
  case eql => exact ⟨.bool (x == y), by simp [binOp, Op.stringOp], rfl⟩
  case neq => exact ⟨.bool (!(x == y)), by simp [binOp, Op.stringOp], rfl⟩
theorem guard_int (op : BinOp) (t : TypeId) (x y : Operand) (k k' : IntKind) (m n : Int) (w : World) : (eqGuard op t x y (.int k m) (.int k' n)).run P w = .ok () w := by
  cases op <;> simp [eqGuard]
theorem guard_str (op : BinOp) (t : TypeId) (x y : Operand) (m n : ByteArray) (w : World) : (eqGuard op t x y (.string m) (.string n)).run P w = .ok () w := by
  cases op <;> simp [eqGuard]
theorem guard_bool (op : BinOp) (t : TypeId) (x y : Operand) (m n : Bool) (w : World) : (eqGuard op t x y (.bool m) (.bool n)).run P w = .ok () w := by
  cases op <;> simp [eqGuard]
theorem bin_sound (h : SatAt C s a w I g ow) {op : BinOp} {d : Nat} {x y : Operand} {v : AV} {ob : List Prop} (he : ev s (.bin d op (xop x) (xop y)) = .ok v ob) (hob : allP ob) (t : TypeId) :
    ∃ u, (do eqGuard op t x y (a.eval x) (a.eval y); binOp op t (a.eval x) (a.eval y)).run P w = .ok u w ∧ Den I (some g) v u := by
  simp only [ev] at he
  have hx := xop_den h x
  have hy := xop_den h y
  split at he
  · rename_i k m k' n h1 h2
    cases hsh : isSh op with
    | true =>
      simp only [hsh, cond_true] at he
      split at he
      · rename_i v' ob' h3
        simp only [Pv.ok.injEq] at he
        obtain ⟨rfl, rfl⟩ := he
        rw [allP_append, allP_append] at hob
        have e1 := und_den hx hob.1
        have e2 := und_den hy hob.2.1
        rw [h1] at e1; rw [h2] at e2
        obtain ⟨u, hr, hd⟩ := shiftv_sound (P := P) (I := I) (g := g) (k' := k') h3 hob.2.2 t w
        exact ⟨u, by rw [show a.eval x = .int k m from e1, show a.eval y = .int k' n from e2]; simp [guard_int, hr], hd⟩
      · cases he
    | false =>
    simp only [hsh, cond_false] at he
    cases hk : kq k k' with
    | false => simp [hk] at he
    | true =>
      simp only [hk, cond_true] at he
      cases kq_eq hk
      split at he
      · rename_i v' ob' h3
        simp only [Pv.ok.injEq] at he
        obtain ⟨rfl, rfl⟩ := he
        rw [allP_append, allP_append] at hob
        have e1 := und_den hx hob.1
        have e2 := und_den hy hob.2.1
        rw [h1] at e1; rw [h2] at e2
        obtain ⟨u, hr, hd⟩ := arith_sound (P := P) (I := I) (g := g) h3 hob.2.2 t w
        exact ⟨u, by rw [show a.eval x = .int k m from e1, show a.eval y = .int k n from e2]; simp [guard_int, hr], hd⟩
      · cases he
  · rename_i m n h1 h2
    split at he
    · rename_i v' ob' h3
      simp only [Pv.ok.injEq] at he
      obtain ⟨rfl, rfl⟩ := he
      rw [allP_append, allP_append] at hob
      have e1 := und_den hx hob.1
      have e2 := und_den hy hob.2.1
      rw [h1] at e1; rw [h2] at e2
      obtain ⟨u, hr, hd⟩ := strop_sound (P := P) (I := I) (g := g) h3 hob.2.2 t w
      exact ⟨u, by rw [show a.eval x = .string ⟨⟨m⟩⟩ from e1, show a.eval y = .string ⟨⟨n⟩⟩ from e2]; simp [guard_str, hr], hd⟩
    · cases he
  · cases he
theorem eqb_sound (h : SatAt C s a w I g ow) {op : BinOp} (hop : op = .eql ∨ op = .neq) {d : Nat} {x y : Operand} {v : AV} {ob : List Prop} (he : ev s (.eqb d (isNeq op) (xop x) (xop y)) = .ok v ob) (hob : allP ob) {t : TypeId} (ht : P.underlying t = some .bool) :
    ∃ u, (do eqGuard op t x y (a.eval x) (a.eval y); binOp op t (a.eval x) (a.eval y)).run P w = .ok u w ∧ Den I (some g) v u := by
  simp only [ev] at he
  have hx := xop_den h x
  have hy := xop_den h y
  split at he
  · rename_i m n h1 h2
    simp only [Pv.ok.injEq] at he
    obtain ⟨rfl, rfl⟩ := he
    rw [allP_append] at hob
    have e1 := und_den hx hob.1
    have e2 := und_den hy hob.2
    rw [h1] at e1; rw [h2] at e2
    rw [show a.eval x = .bool m from e1, show a.eval y = .bool n from e2]
    have hr := run_equalIn_bool' (P := P) w 9999 t m n ht
    rcases hop with rfl | rfl
    · exact ⟨.bool (m == n), by simp [guard_bool, binOp, Op.equal, Op.maxDepth, hr], rfl⟩
    · exact ⟨.bool (!(m == n)), by simp [guard_bool, binOp, Op.equal, Op.maxDepth, hr], rfl⟩
  · cases he
theorem eqa_sound (h : SatAt C s a w I g ow) {op : BinOp} (hop : op = .eql ∨ op = .neq) {d : Nat} {ks : List CK} {x y : Operand} {v : AV} {ob : List Prop} (he : ev s (.eqa d (isNeq op) ks (xop x) (xop y)) = .ok v ob) (hob : allP ob) {t : TypeId} {fs : Array Field} (ht : P.underlying t = some (.struct fs))
    (hf : flat P 10 t = some ks) (hl : ks.length = sizeT P t) (hg : P.eqGuardType P.depth t = false) :
    ∃ u, (do eqGuard op t x y (a.eval x) (a.eval y); binOp op t (a.eval x) (a.eval y)).run P w = .ok u w ∧ Den I (some g) v u := by
  simp only [ev] at he
  have hx := xop_den h x
  have hy := xop_den h y
  split at he
  · rename_i m n h1 h2
    split at he
    · rename_i r hr0
      simp only [Pv.ok.injEq] at he
      obtain ⟨rfl, rfl⟩ := he
      rw [allP_append] at hob
      have e1 := und_den hx hob.1
      have e2 := und_den hy hob.2
      rw [h1] at e1; rw [h2] at e2
      obtain ⟨us, e1, d1⟩ := e1
      obtain ⟨vs, e2, d2⟩ := e2
      rw [e1, e2]
      have hlen := eqvs_length hr0
      have hr := (flat_eq w 10 10000 (by omega) t ks m n us vs r hf hr0 (by rw [← d1.length]; omega) (by rw [← d2.length]; omega) d1 d2).1 (by simp [aggT, ht])
      rcases hop with rfl | rfl
      · exact ⟨.bool r, by simp only [Sem.run_bind, run_eqGuard_agg w _ _ _ _ _ _ hg, Result.andThen_ok, run_eql_struct, hr], rfl⟩
      · exact ⟨.bool (!r), by simp only [Sem.run_bind, run_eqGuard_agg w _ _ _ _ _ _ hg, Result.andThen_ok, run_neq_struct, hr], rfl⟩
    · cases he
  · cases he
def nk (P : Program) (t : TypeId) : NK → Prop
  | .p => ∃ e, P.underlying t = some (.pointer e)
  | .q => ∃ e, P.underlying t = some (.pointer e) ∧ known P e = true ∧ 0 < sizeT P e
  | .s => ∃ e, P.underlying t = some (.slice e)
  | .f => ∃ p q z, P.underlying t = some (.func p q z)
theorem run_sameAddr_self (a : Addr) (w : World) : (sameAddr a a).run P w = .ok true w := by
  simp [sameAddr]
theorem locloc_sound {q o q' o' : Nat} {u v : Value} {r : Bool} (he : nileq .q (.loc q o) (.loc q' o') = some r) (hx : Den I (some g) (.loc q o) u) (hy : Den I (some g) (.loc q' o') v) : ∃ a, u = .pointer (some a) ∧ v = .pointer (some a) ∧ r = true := by
  simp only [nileq] at he
  cases hb : (Nat.beq q q' && Nat.beq o o') with
  | false => simp [hb] at he
  | true =>
    simp only [hb, cond_true, Option.some.injEq] at he
    simp only [Bool.and_eq_true] at hb
    cases beq_iff.1 hb.1
    cases beq_iff.1 hb.2
    obtain ⟨g1, b1, e1, h1, rfl⟩ := hx
    obtain ⟨g2, b2, e2, h2, rfl⟩ := hy
    cases e1
    cases e2
    rw [h1] at h2
    cases h2
    exact ⟨_, rfl, rfl, he.symm⟩
set_option maxHeartbeats 4000000 in
theorem nileq_sound {k : NK} {av bv : AV} {u v : Value} {r : Bool} (he : nileq k av bv = some r) (hx : Den I (some g) av u) (hy : Den I (some g) bv v) (t : TypeId)
    (ht : nk P t k) (op : BinOp) (x y : Operand) (D : Nat) (w : World) :
    (eqGuard op t x y u v).run P w = .ok () w ∧ (Op.equalIn (D + 1) t u v).run P w = .ok r w := by
  by_cases hll : k = .q ∧ (∃ q o, av = .loc q o) ∧ ∃ q o, bv = .loc q o
  · obtain ⟨rfl, ⟨q, o, rfl⟩, q', o', rfl⟩ := hll
    obtain ⟨a, rfl, rfl, rfl⟩ := locloc_sound he hx hy
    obtain ⟨e, ht, hk, hs⟩ := ht
    obtain ⟨i, hi, hs', _⟩ := known_info hk
    have hz : ¬ i.size = 0 := by omega
    refine ⟨by cases op <;> simp [eqGuard], by simp [Op.equalIn, underlying, ht, sizeOf, typeInfo, hi, hz, run_sameAddr_self]⟩
  cases k <;> cases av <;> cases bv <;> simp only [nileq] at he <;> first | (exfalso; exact hll ⟨rfl, ⟨_, _, rfl⟩, _, _, rfl⟩) | cases he | skip
  all_goals
    simp only [Den] at hx hy
    (try obtain ⟨_, _, _, _, rfl⟩ := hx)
    (try obtain ⟨_, _, _, _, _, _, rfl⟩ := hx)
    (try obtain ⟨_, _, _, rfl, _⟩ := hx)
    (try obtain ⟨_, rfl, _⟩ := hx)
    (try obtain ⟨_, _, _, _, rfl⟩ := hy)
    (try obtain ⟨_, _, _, _, _, _, rfl⟩ := hy)
    (try obtain ⟨_, _, _, rfl, _⟩ := hy)
    (try obtain ⟨_, rfl, _⟩ := hy)
    (try subst hx)
    (try subst hy)
    simp only [nk] at ht
    (try obtain ⟨_, ht⟩ := ht)
    (try replace ht := ht.1)
    (try obtain ⟨_, _, ht⟩ := ht)
    refine ⟨by cases op <;> simp [eqGuard], by simp [Op.equalIn, underlying, ht]⟩
theorem eqn_sound (h : SatAt C s a w I g ow) {op : BinOp} (hop : op = .eql ∨ op = .neq) {d : Nat} {k : NK} {x y : Operand} {v : AV} {ob : List Prop} (he : ev s (.eqn d (isNeq op) k (xop x) (xop y)) = .ok v ob) (hob : allP ob) {t : TypeId} (ht : nk P t k) :
    ∃ u, (do eqGuard op t x y (a.eval x) (a.eval y); binOp op t (a.eval x) (a.eval y)).run P w = .ok u w ∧ Den I (some g) v u := by
  simp only [ev] at he
  split at he
  · rename_i r hr0
    simp only [Pv.ok.injEq] at he
    obtain ⟨rfl, rfl⟩ := he
    rw [allP_append] at hob
    have e1 := und_den (xop_den h x) hob.1
    have e2 := und_den (xop_den h y) hob.2
    obtain ⟨q1, q2⟩ := nileq_sound (P := P) hr0 e1 e2 t ht op x y 9999 w
    have hb : ∀ o, o = .eql ∨ o = .neq → (binOp o t (a.eval x) (a.eval y)).run P w = .ok (.bool (xorb (isNeq o) r)) w := by
      intro o ho
      revert q2 hr0 e1 e2
      generalize und (xv s (xop x)) = av
      generalize und (xv s (xop y)) = bv
      generalize a.eval x = u
      generalize a.eval y = v
      intro hr0 e1 e2 q2
      have key : ∀ m : BinOp, (m = .eql ∨ m = .neq) → binOp m t u v = (do let b ← Op.equal t u v; Pure.pure (.bool (match m with | .neq => !b | _ => b))) := by
        intro m hm
        by_cases hll : k = .q ∧ (∃ q o, av = .loc q o) ∧ ∃ q o, bv = .loc q o
        · obtain ⟨rfl, ⟨q, o, rfl⟩, q', o', rfl⟩ := hll
          obtain ⟨a, rfl, rfl, rfl⟩ := locloc_sound hr0 e1 e2
          rcases hm with rfl | rfl <;> rfl
        cases k <;> cases av <;> cases bv <;> simp only [nileq] at hr0 <;> first | (exfalso; exact hll ⟨rfl, ⟨_, _, rfl⟩, _, _, rfl⟩) | cases hr0 | skip
        all_goals
          simp only [Den] at e1 e2
          (try obtain ⟨_, _, _, _, rfl⟩ := e1)
          (try obtain ⟨_, _, _, _, _, _, rfl⟩ := e1)
          (try obtain ⟨_, _, _, rfl, _⟩ := e1)
          (try obtain ⟨_, rfl, _⟩ := e1)
          (try obtain ⟨_, _, _, _, rfl⟩ := e2)
          (try obtain ⟨_, _, _, _, _, _, rfl⟩ := e2)
          (try obtain ⟨_, _, _, rfl, _⟩ := e2)
          (try obtain ⟨_, rfl, _⟩ := e2)
          (try subst e1)
          (try subst e2)
          rcases hm with rfl | rfl <;> rfl
      rw [key o ho]
      simp only [Sem.run_bind, Op.equal, Op.maxDepth, q2, Result.andThen_ok, Sem.run_pure]
      rcases ho with rfl | rfl <;> simp [xorb, isNeq]
    exact ⟨_, by simp only [Sem.run_bind, q1, Result.andThen_ok, hb op hop], rfl⟩
  · cases he
end
end Go.Av
end
/- part AvEvs -/
section
namespace Go.Av
section
variable {P : Program} {C : Ctx P} {s : St} {a : Act} {w : World} {I : Imm} {g : Nat → Value} {ow : Nat → List Nat}
/-- what 'fill' does to cells, in the walk's own words -/
theorem setAt_den {β : Option (Nat → Value)} : ∀ (off : Nat) {xs : List AV} {us : List Value} {cs : List AV} {vs : List Value}, DenL I β xs us → DenL I β cs vs → off + xs.length ≤ cs.length →
    DenL I β (setAt off xs cs) (vs.take off ++ us ++ vs.drop (off + us.length))
  | off, [], us, cs, vs, hx, hc, _ => by
    cases hx
    simp only [List.append_nil, List.length_nil, Nat.add_zero]
    rw [List.take_append_drop]
    cases cs <;> cases off <;> exact hc
  | 0, x :: xs, us, c :: cs, vs, ⟨u, us', e, d, r⟩, ⟨v, vs', e', _, r'⟩, hl => by
    subst e e'
    simp only [setAt, List.take_zero, List.nil_append, List.length_cons, Nat.zero_add, List.cons_append]
    have := setAt_den 0 r r' (by simp at hl ⊢; omega)
    simp only [List.take_zero, List.nil_append, Nat.zero_add] at this
    exact ⟨u, _, rfl, d, by simpa using this⟩
  | n + 1, x :: xs, us, c :: cs, vs, hx, ⟨v, vs', e', d', r'⟩, hl => by
    subst e'
    have := setAt_den n hx r' (by simp at hl ⊢; omega)
    refine ⟨v, _, ?_, d', this⟩
    simp [Nat.add_right_comm]
  | off, x :: xs, us, [], vs, _, _, hl => by simp at hl
theorem fold_set : ∀ (us : List Value) (k off : Nat) (arr : Array Value), off + k + us.length ≤ arr.size →
    ((us.zipIdx k).foldl (fun cs p => cs.setIfInBounds (off + p.2) p.1) arr).toList = arr.toList.take (off + k) ++ us ++ arr.toList.drop (off + k + us.length)
  | [], k, off, arr, _ => by simp
  | u :: us, k, off, arr, h => by
    simp only [List.length_cons] at h
    rw [List.zipIdx_cons, List.foldl_cons, fold_set us (k + 1) off _ (by simp; omega)]
    have h1 : off + k < arr.toList.length := by simp; omega
    simp only [Array.toList_setIfInBounds]
    have e1 : (arr.toList.set (off + k) u).take (off + (k + 1)) = arr.toList.take (off + k) ++ [u] := by
      rw [← Nat.add_assoc, List.take_set, List.take_succ_eq_append_getElem h1, List.set_append_right _ _ (by simp; omega)]
      have : (off + k) - (arr.toList.take (off + k)).length = 0 := by simp; omega
      rw [this]
      rfl
    have e2 : (arr.toList.set (off + k) u).drop (off + (k + 1) + us.length) = arr.toList.drop (off + k + (us.length + 1)) := by
      rw [List.drop_set_of_lt (by omega)]
      congr 1
      omega
    rw [e1, e2]
    simp
theorem cellsOf_den {β : Option (Nat → Value)} {av : AV} {u : Value} (h : Den I β av u) {n : Nat} (hn : 0 < n) (hl : (cellsOf av).length = n) : DenL I β (cellsOf av) u.cells.toList := by
  cases av <;> simp only [cellsOf] at hl ⊢ <;> first
    | (simp at hl; omega)
    | skip
  case own => exact absurd h (by simp [Den])
  case agg cs => obtain ⟨vs, rfl, d⟩ := h; exact d
  case int => cases h; exact ⟨_, _, rfl, rfl, rfl⟩
  case bool => cases h; exact ⟨_, _, rfl, rfl, rfl⟩
  case str => cases h; exact ⟨_, _, rfl, rfl, rfl⟩
  case nilp => cases h; exact ⟨_, _, rfl, rfl, rfl⟩
  case nils => cases h; exact ⟨_, _, rfl, rfl, rfl⟩
  case nilfn => cases h; exact ⟨_, _, rfl, rfl, rfl⟩
  case nilif => cases h; exact ⟨_, _, rfl, rfl, rfl⟩
  case emp => obtain ⟨a, rfl⟩ := h; exact ⟨_, _, rfl, ⟨a, rfl⟩, rfl⟩
  case ans => obtain ⟨a, n, c, rfl⟩ := h; exact ⟨_, _, rfl, ⟨a, n, c, rfl⟩, rfl⟩
  case sl sz n f => obtain ⟨a, c, rfl, h2⟩ := h; exact ⟨_, _, rfl, ⟨a, c, rfl, h2⟩, rfl⟩
  case loc q o => obtain ⟨g, b, h1, h2, rfl⟩ := h; exact ⟨_, _, rfl, ⟨g, b, h1, h2, rfl⟩, rfl⟩
  case locE q sz k o => obtain ⟨g, b, n, c, h1, h2, rfl⟩ := h; exact ⟨_, _, rfl, ⟨g, b, n, c, h1, h2, rfl⟩, rfl⟩
  case ptr cs => obtain ⟨b, o, vs, rfl, h2⟩ := h; exact ⟨_, _, rfl, ⟨b, o, vs, rfl, h2⟩, rfl⟩
  case fn f cs => obtain ⟨vs, rfl, h2⟩ := h; exact ⟨_, _, rfl, ⟨vs, rfl, h2⟩, rfl⟩
  case iface t x => obtain ⟨v, rfl, h2⟩ := h; exact ⟨_, _, rfl, ⟨v, rfl, h2⟩, rfl⟩
  case ref q => obtain ⟨g, h1, h2, a, n, c, rfl⟩ := h; exact ⟨_, _, rfl, ⟨g, h1, h2, a, n, c, rfl⟩, rfl⟩

theorem fill_cell {v : Value} {off n : Nat} {cells : Array Value} {rest : List (Nat × Value)} {place : Nat → Option (Nat × Nat)} {i : Nat} (hp : place i = some (off, n)) (h1 : v.cells.size = n) (h2 : off + v.cells.size ≤ cells.size) :
    Instr.fill place cells ((i, v) :: rest) = Instr.fill place ⟨cells.toList.take off ++ v.cells.toList ++ cells.toList.drop (off + v.cells.toList.length)⟩ rest := by
  have hf := fold_set v.cells.toList 0 off cells (by simp; omega)
  simp only [Nat.add_zero] at hf
  simp only [Instr.fill, hp]
  have hc : ¬ ((v.cells.size ≠ n || off + v.cells.size > cells.size) = true) := by simp [h1]; omega
  rw [if_neg hc]
  congr 1
  apply Array.ext'
  rw [← Array.foldl_toList]
  rw [← hf]
  simp
theorem parts_allP {l : List (Nat × Nat × X)} : ∀ {cs : List AV} {ob : List Prop} {cs' : List AV} {ob' : List Prop}, parts s l cs ob = some (cs', ob') → allP ob' → allP ob := by
  induction l with
  | nil => intro cs ob cs' ob' h hob; simp only [parts, Option.some.injEq, Prod.mk.injEq] at h; obtain ⟨_, rfl⟩ := h; exact hob
  | cons p l ih =>
    obtain ⟨off, n, x⟩ := p
    intro cs ob cs' ob' h hob
    simp only [parts] at h
    cases hc : (Nat.blt 0 n && (Nat.beq (cellsOf (und (xv s x))).length n && Nat.ble (off + n) cs.length)) with
    | false => simp [hc] at h
    | true => simp only [hc, cond_true] at h; exact (allP_append.1 (ih h hob)).2
theorem parts_den (h : SatAt C s a w I g ow) (place : Nat → Option (Nat × Nat)) : ∀ (ps : List (Nat × Operand)) (l : List (Nat × Nat × X)) (cs : List AV) (cells : Array Value) (ob : List Prop) (cs' : List AV) (ob' : List Prop),
    l.length = ps.length → (∀ (k : Nat) (p : Nat × Operand) (q : Nat × Nat × X), ps[k]? = some p → l[k]? = some q → place p.1 = some (q.1, q.2.1) ∧ q.2.2 = xop p.2) →
    parts s l cs ob = some (cs', ob') → allP ob' → DenL I (some g) cs cells.toList →
    ∃ cells', Instr.fill place cells (ps.map fun p => (p.1, a.eval p.2)) = some cells' ∧ DenL I (some g) cs' cells'.toList := by
  intro ps
  induction ps with
  | nil =>
    intro l cs cells ob cs' ob' hl _ hp _ hd
    cases l with
    | nil => simp only [parts, Option.some.injEq, Prod.mk.injEq] at hp; obtain ⟨rfl, _⟩ := hp; exact ⟨cells, rfl, hd⟩
    | cons => simp at hl
  | cons p ps ih =>
    intro l cs cells ob cs' ob' hl hpl hp hob hd
    cases l with
    | nil => simp at hl
    | cons q l =>
      obtain ⟨off, n, x⟩ := q
      obtain ⟨hpl1, hx⟩ := hpl 0 p _ rfl rfl
      simp only at hpl1 hx
      subst hx
      simp only [parts] at hp
      cases hc : (Nat.blt 0 n && (Nat.beq (cellsOf (und (xv s (xop p.2)))).length n && Nat.ble (off + n) cs.length)) with
      | false => simp [hc] at hp
      | true =>
        simp only [hc, cond_true] at hp
        simp only [Bool.and_eq_true, Nat.ble_eq, Nat.blt_eq] at hc
        obtain ⟨hn0, hc⟩ := hc
        have hob2 := parts_allP hp hob
        have hden := und_den (xop_den h p.2) (allP_append.1 hob2).1
        have hlen : (cellsOf (und (xv s (xop p.2)))).length = n := beq_iff.1 hc.1
        have hcd := cellsOf_den hden (by omega) hlen
        have hsz : (a.eval p.2).cells.size = n := by rw [← Array.length_toList, ← hcd.length]; exact hlen
        have hle : off + (a.eval p.2).cells.size ≤ cells.size := by rw [hsz, ← Array.length_toList, ← hd.length]; exact hc.2
        have hst := setAt_den off hcd hd (by rw [hlen]; exact hc.2)
        rw [List.map_cons, fill_cell hpl1 hsz hle]
        exact ih l _ _ _ cs' ob' (by simpa using hl) (fun k p q h1 h2 => hpl (k + 1) p q h1 h2) hp hob hst

theorem partsOf_spec {fs : Array Field} : ∀ {ps : List (Nat × Operand)} {l : List (Nat × Nat × X)}, partsOf P fs ps = some l →
    l.length = ps.length ∧ ∀ (k : Nat) (p : Nat × Operand) (q : Nat × Nat × X), ps[k]? = some p → l[k]? = some q → ∃ f, fs[p.1]? = some f ∧ q = (f.offset, sizeT P f.type, xop p.2)
  | [], l, h => by simp only [partsOf, Option.some.injEq] at h; subst h; simp
  | (i, x) :: ps, l, h => by
    simp only [partsOf] at h
    split at h
    · rename_i f l' h1 h2
      simp only [Option.some.injEq] at h
      subst h
      obtain ⟨e1, e2⟩ := partsOf_spec h2
      refine ⟨by simp [e1], fun k p q hp hq => ?_⟩
      cases k with
      | zero => simp at hp hq; subst hp hq; exact ⟨f, h1, rfl⟩
      | succ k => exact e2 k p q (by simpa using hp) (by simpa using hq)
    · cases h
theorem zero_cells {t : TypeId} (h : zeroOk P t = true) : ∃ i z, P.info? t = some i ∧ i.zero = some z ∧ z.cells.toList = zeroT P t ∧ i.size = sizeT P t ∧ z.cells.size = sizeT P t ∧ i.bytes = bytesT P t ∧ ∀ u ∈ zeroT P t, u.oneCell' = true := by
  unfold zeroOk at h
  cases hi : P.info? t with
  | none => simp [hi] at h
  | some i =>
    cases hz : i.zero with
    | none => simp [hi, hz] at h
    | some z =>
      simp only [hi, hz, Option.bind_some, Bool.and_eq_true] at h
      have e1 : z.cells.size = sizeT P t := beq_iff.1 h.1
      exact ⟨i, z, rfl, hz, by simp [zeroT, hi, hz], by simp [sizeT, hi], e1, by simp [bytesT, hi], by
        have : zeroT P t = z.cells.toList := by simp [zeroT, hi, hz]
        rw [this]
        intro u hu
        exact List.all_eq_true.1 h.2 u hu⟩
theorem places_of (fs : List Field) (h : fs.all (fun f => known P f.type) = true) : fs.mapM (fun f => (P.info? f.type).map fun i => (f.offset, i.size)) = some (fs.map fun f => (f.offset, sizeT P f.type)) := by
  induction fs with
  | nil => rfl
  | cons f fs ih =>
    simp only [List.all_cons, Bool.and_eq_true] at h
    obtain ⟨i, hi, hs, _⟩ := known_info h.1
    simp [List.mapM_cons, ih h.2, hi, hs]
theorem build_struct (h : SatAt C s a w I g ow) {t : TypeId} {fs : Array Field} (ht : P.underlying t = some (.struct fs)) (hz : zeroOk P t = true) (hf : fs.toList.all (fun f => known P f.type) = true)
    {ps : Array (Nat × Operand)} {l : List (Nat × Nat × X)} (hl : partsOf P fs ps.toList = some l) {cs : List AV} {ob : List Prop} (he : parts s l ((zeroT P t).map cav0) [] = some (cs, ob)) (hob : allP ob) :
    ∃ u, (Instr.build t (ps.map fun (i, x) => (i, a.eval x))).run P w = .ok u w ∧ Den I (some g) (.agg cs) u := by
  obtain ⟨i, z, hi, hz1, hz2, hz3, hz4, _, _⟩ := zero_cells hz
  obtain ⟨e1, e2⟩ := partsOf_spec hl
  obtain ⟨cells', hfill, hden⟩ := parts_den h (fun x => (fs.toList.map fun f => (f.offset, sizeT P f.type)).toArray[x]?) ps.toList l _ z.cells [] cs ob e1 (fun k p q hp hq => by
    obtain ⟨f, hf, rfl⟩ := e2 k p q hp hq
    refine ⟨?_, rfl⟩
    simp [hf]) he hob (by rw [hz2]; exact cav0s_den I _ _)
  refine ⟨.agg cells', ?_, ⟨cells'.toList, rfl, hden⟩⟩
  refine run_build w t _ cells' ?_
  simp only [Program.built, hi, ht, hz1, places_of fs.toList hf]
  rw [← hfill]
  simp
theorem build_array (h : SatAt C s a w I g ow) {t e : TypeId} {n : Nat} (ht : P.underlying t = some (.array n e)) (hz : zeroOk P t = true) (hk : known P e = true)
    {ps : Array (Nat × Operand)} {cs : List AV} {ob : List Prop} (he : parts s (ps.toList.map fun (i, x) => (i * sizeT P e, sizeT P e, xop x)) ((zeroT P t).map cav0) [] = some (cs, ob)) (hob : allP ob) :
    ∃ u, (Instr.build t (ps.map fun (i, x) => (i, a.eval x))).run P w = .ok u w ∧ Den I (some g) (.agg cs) u := by
  obtain ⟨i, z, hi, hz1, hz2, hz3, hz4, _, _⟩ := zero_cells hz
  obtain ⟨j, hj, hjs, _⟩ := known_info hk
  obtain ⟨cells', hfill, hden⟩ := parts_den h (fun x => some (x * sizeT P e, sizeT P e)) ps.toList _ _ z.cells [] cs ob (by simp) (fun k p q hp hq => by
    rw [List.getElem?_map, hp] at hq
    simp at hq
    subst hq
    exact ⟨rfl, rfl⟩) he hob (by rw [hz2]; exact cav0s_den I _ _)
  refine ⟨.agg cells', ?_, ⟨cells'.toList, rfl, hden⟩⟩
  refine run_build w t _ cells' ?_
  simp only [Program.built, hi, ht, hz1, hj, hjs]
  rw [← hfill]
  simp
end
end Go.Av
end
/- part AvEvf -/
section
namespace Go.Av
section
variable {P : Program} {C : Ctx P} {s : St} {a : Act} {w : World} {I : Imm} {g : Nat → Value} {ow : Nat → List Nat}
theorem optInt_sound (h : SatAt C s a w I g ow) {x : Option Operand} {n : Option Int} {ob : List Prop} (he : optInt s (x.map xop) = some (n, ob)) (hob : allP ob) :
    (x = none ∧ n = none) ∨ ∃ y m k, x = some y ∧ n = some m ∧ a.eval y = .int k m := by
  cases x with
  | none => simp only [Option.map_none, optInt, Option.some.injEq, Prod.mk.injEq] at he; exact .inl ⟨rfl, he.1.symm⟩
  | some y =>
    simp only [Option.map_some, optInt] at he
    split at he
    · rename_i k m h1
      simp only [Option.some.injEq, Prod.mk.injEq] at he
      obtain ⟨rfl, rfl⟩ := he
      have e1 := und_den (xop_den h y) hob
      rw [h1] at e1
      exact .inr ⟨y, m, k, rfl, rfl, e1⟩
    · cases he
theorem sliceBound_ok {k : IntKind} {m : Int} {y : Nat} {code : BoundsCode} (h : 0 ≤ m ∧ m ≤ y) : (Instr.sliceBound (.int k m) y code).run P w = .ok m.toNat w := by
  simp [Instr.sliceBound, asIntOf, h]
theorem sliceBounds_ok {lo hi : Option Operand} {l m : Option Int} (b : Bool) (len cap : Nat) (hlc : len ≤ cap)
    (hl : (lo = none ∧ l = none) ∨ ∃ y n k, lo = some y ∧ l = some n ∧ a.eval y = .int k n) (hh : (hi = none ∧ m = none) ∨ ∃ y n k, hi = some y ∧ m = some n ∧ a.eval y = .int k n)
    (hb : 0 ≤ l.getD 0 ∧ l.getD 0 ≤ m.getD len ∧ m.getD len ≤ len) :
    (Instr.sliceBounds b len cap (lo.map a.eval) (hi.map a.eval) none).run P w = .ok ((l.getD 0).toNat, (m.getD len).toNat, cap) w := by
  rcases hl with ⟨rfl, rfl⟩ | ⟨y, n, k, rfl, rfl, e1⟩ <;> rcases hh with ⟨rfl, rfl⟩ | ⟨z, q, k', rfl, rfl, e2⟩
  · simp [Instr.sliceBounds]
  · simp only [Option.getD_some, Option.getD_none] at hb
    have := sliceBound_ok (P := P) (w := w) (k := k') (m := q) (y := cap) (code := if b = true then .sliceAcap else .sliceAlen) ⟨by omega, by omega⟩
    simp [Instr.sliceBounds, e2, this]
  · simp only [Option.getD_some, Option.getD_none] at hb
    have := sliceBound_ok (P := P) (w := w) (k := k) (m := n) (y := len) (code := .sliceB) ⟨by omega, by omega⟩
    simp [Instr.sliceBounds, e1, this]
  · simp only [Option.getD_some] at hb
    have h1 := sliceBound_ok (P := P) (w := w) (k := k') (m := q) (y := cap) (code := if b = true then .sliceAcap else .sliceAlen) ⟨by omega, by omega⟩
    have h2 := sliceBound_ok (P := P) (w := w) (k := k) (m := n) (y := q.toNat) (code := .sliceB) ⟨by omega, by omega⟩
    simp [Instr.sliceBounds, e1, e2, h1, h2]
theorem slice_sound {t : TypeId} {x : Operand} {lo hi : Option Operand} {sz : Nat} {l m : Option Int} {ob ob' : List Prop} {v : AV}
    (ht : (P.underlying t = some .string ∧ sz = 0) ∨ ∃ e, P.underlying t = some (.slice e) ∧ known P e = true ∧ 0 < sz ∧ sz = sizeT P e)
    (hl : (lo = none ∧ l = none) ∨ ∃ y n k, lo = some y ∧ l = some n ∧ a.eval y = .int k n) (hh : (hi = none ∧ m = none) ∨ ∃ y n k, hi = some y ∧ m = some n ∧ a.eval y = .int k n)
    {av : AV} (hx : Den I (some g) av (a.eval x)) (he : sliceOf sz l m ob av = .ok v ob') (hob : allP ob') :
    ∃ u, (Instr.sliceAt t (a.eval x) (lo.map a.eval) (hi.map a.eval) none).run P w = .ok u w ∧ Den I (some g) v u := by
  cases av <;> simp only [sliceOf] at he <;> first | cases he | skip
  case str b =>
    cases hs0 : Nat.beq sz 0 <;> simp only [hs0, cond_true, cond_false, Pv.ok.injEq] at he <;> first | (cases he; done) | skip
    obtain ⟨rfl, rfl⟩ := he
    have hts : P.underlying t = some .string := by
      rcases ht with ht | ⟨e, ht, hke, hsz, _⟩
      · exact ht.1
      · have := beq_iff.1 hs0; omega
    have hb := hob.1
    have e1 : a.eval x = .string ⟨⟨b⟩⟩ := hx
    have hsz : (⟨⟨b⟩⟩ : ByteArray).size = b.length := rfl
    have hb' : 0 ≤ l.getD 0 ∧ l.getD 0 ≤ m.getD (b.length : Nat) ∧ m.getD (b.length : Nat) ≤ (b.length : Nat) := by
      cases l <;> cases m <;> exact hb
    have hr := sliceBounds_ok (P := P) (w := w) false b.length b.length (Nat.le_refl _) hl hh hb'
    refine ⟨.string ((⟨⟨b⟩⟩ : ByteArray).extract (l.getD 0).toNat (m.getD (b.length : Nat)).toNat), ?_, ?_⟩
    · rw [e1]
      simp only [Instr.sliceAt, Instr.slice, Sem.run_bind, underlying, run_program, hts, Result.andThen_ok, Sem.run_pure, Option.isSome_none, Bool.false_eq_true, if_false, hsz, hr]
    · show Value.string _ = .string _
      congr 1
      apply ByteArray.ext
      rw [ByteArray.data_extract]
      apply Array.ext'
      simp only [Array.toList_extract, List.extract_eq_take_drop]
      cases l <;> cases m <;> rfl
  case sl z n f =>
    cases hz : (Nat.blt 0 sz && Nat.beq sz z) with
    | false => simp [hz] at he
    | true =>
      simp only [hz, cond_true, Pv.ok.injEq] at he
      simp only [Bool.and_eq_true, Nat.blt_eq] at hz
      cases beq_iff.1 hz.2
      obtain ⟨rfl, rfl⟩ := he
      rcases ht with ⟨_, h0⟩ | ⟨e, hte, hke, _, hsz⟩
      · omega
      obtain ⟨ad, c, e1, hnc, hcm, hcell⟩ := hx
      have hb := hob.1
      have hb' : 0 ≤ l.getD 0 ∧ l.getD 0 ≤ m.getD (n : Nat) ∧ m.getD (n : Nat) ≤ (n : Nat) := by
        cases l <;> cases m <;> exact hb
      have hr := sliceBounds_ok (P := P) (w := w) true n c hnc hl hh hb'
      obtain ⟨L, hL⟩ : ∃ L, L = (l.getD 0).toNat := ⟨_, rfl⟩
      obtain ⟨H, hH⟩ : ∃ H, H = (m.getD (n : Nat)).toNat := ⟨_, rfl⟩
      rw [← hL, ← hH] at hr
      have hLH : L ≤ H ∧ H ≤ n := by subst hL hH; omega
      refine ⟨.slice (if c = L then ad else ad.map (·.add (L * sz))) (H - L) (c - L), ?_, ?_⟩
      · rw [e1]
        simp only [Instr.sliceAt, Instr.slice, Sem.run_bind, underlying, run_program, hte, Result.andThen_ok, Sem.run_pure, hr, run_sizeOf_known hke, ← hsz]
      · have goalform : Den I (some g) (.sl sz (H - L) (fun i => f (L + i))) (.slice (if c = L then ad else ad.map (·.add (L * sz))) (H - L) (c - L)) := by
          refine ⟨_, _, rfl, by omega, by omega, ?_⟩
          by_cases h0 : H - L = 0
          · exact .inl h0
          · refine .inr ?_
            rw [if_neg (by omega)]
            rcases hcell with h0' | ⟨b, o, rfl, hc⟩
            · omega
            · refine ⟨b, o + L * sz, by simp only [Option.map_some]; rw [add_none], fun i hi => ?_⟩
              obtain ⟨vs, h1, h2, h3⟩ := hc (L + i) (by omega)
              refine ⟨vs, h1, ?_, h3⟩
              rw [Nat.add_assoc, ← Nat.add_mul]
              exact h2
        subst hL hH
        cases l <;> cases m <;> exact goalform
end
end Go.Av
end
/- part AvEvm -/
section
namespace Go.Av
section
variable {P : Program} {C : Ctx P} {s : St} {a : Act} {w : World} {I : Imm} {g : Nat → Value} {ow : Nat → List Nat}
/-- the value an operation of the first kind gives -/
def Gives (P : Program) (a : Act) (w : World) (I : Imm) (g : Nat → Value) (o : Oper) (v : AV) : Prop :=
  ∃ u, (execOp a.eval o).run P w = .ok (.value u) w ∧ Den I (some g) v u
theorem gives_of {o : Oper} {v : AV} {r : Sem Value} (h : (∃ u, r.run P w = .ok u w ∧ Den I (some g) v u)) (he : execOp a.eval o = (do Pure.pure (Next.value (← r)))) : Gives P a w I g o v := by
  obtain ⟨u, h1, h2⟩ := h
  exact ⟨u, by rw [he]; simp [h1], h2⟩
theorem idx_sound (h : SatAt C s a w I g ow) {t e : TypeId} (ht : P.underlying t = some (.slice e)) (hk : known P e = true) {d : Nat} {x i : Operand} {v : AV} {ob : List Prop}
    (he : ev s (.idx d (xop x) (xop i) (sizeT P e)) = .ok v ob) (hob : allP ob) : ∃ u, (Instr.indexAt t (a.eval x) (a.eval i)).run P w = .ok u w ∧ Den I (some g) v u := by
  simp only [ev] at he
  have hx := xop_den h x
  have hi := xop_den h i
  split at he
  · rename_i sz' n f ki k h1 h2
    cases hs : Nat.beq (sizeT P e) sz' with
    | false => simp [hs] at he
    | true =>
      simp only [hs, cond_true, Pv.ok.injEq] at he
      cases beq_iff.1 hs
      obtain ⟨rfl, rfl⟩ := he
      obtain ⟨hkn, hob2⟩ := hob
      rw [allP_append] at hob2
      have e1 := und_den hx hob2.1
      have e2 := und_den hi hob2.2
      rw [h1] at e1; rw [h2] at e2
      obtain ⟨ad, c, e1, hnc, hcm, hcell⟩ := e1
      have e2 : a.eval i = .int ki k := e2
      rcases hcell with h0 | ⟨b, o, rfl, hc⟩
      · omega
      · obtain ⟨vs, l1, l2, l3⟩ := hc k.toNat (by omega)
        refine ⟨.pointer (some ⟨b, o + k.toNat * sizeT P e, none⟩), ?_, ⟨b, _, vs, rfl, l2, l3⟩⟩
        rw [e1, e2]
        simp [Instr.indexAt, asIntOf, underlying, ht, hkn, run_sizeOf_known hk, add_none]
  · rename_i q ki k h1 h2
    split at he
    · rename_i e' sz' n f hr
      cases hs : Nat.beq (sizeT P e) sz' with
      | false => simp [hs] at he
      | true =>
        simp only [hs, cond_true, Pv.ok.injEq] at he
        cases beq_iff.1 hs
        obtain ⟨rfl, rfl⟩ := he
        obtain ⟨hkn, hob2⟩ := hob
        rw [allP_append] at hob2
        have e1 := und_den hx hob2.1
        have e2 := und_den hi hob2.2
        rw [h1] at e1; rw [h2] at e2
        obtain ⟨g', hg, e1, -⟩ := e1
        cases hg
        have e2 : a.eval i = .int ki k := e2
        rcases h.rts q _ hr with ⟨a0, _, h0⟩ | ⟨b, cap, cur, hq, _⟩
        · omega
        · refine ⟨.pointer (some ⟨b, k.toNat * sizeT P e, none⟩), ?_, ⟨g, b, n, cap, rfl, hq, rfl⟩⟩
          rw [e1, hq, e2]
          simp [Instr.indexAt, asIntOf, underlying, ht, hkn, run_sizeOf_known hk, add_none]
    · rename_i e' sz' n f i0 fs hr
      cases hs : Nat.beq (sizeT P e) sz' with
      | false => simp [hs] at he
      | true =>
        simp only [hs, cond_true, Pv.ok.injEq] at he
        cases beq_iff.1 hs
        obtain ⟨rfl, rfl⟩ := he
        obtain ⟨hkn, hob2⟩ := hob
        rw [allP_append] at hob2
        have e1 := und_den hx hob2.1
        have e2 := und_den hi hob2.2
        rw [h1] at e1; rw [h2] at e2
        obtain ⟨g', hg, e1, -⟩ := e1
        cases hg
        have e2 : a.eval i = .int ki k := e2
        rcases h.rts q _ hr with ⟨a0, _, h0⟩ | ⟨b, cap, cur, hq, _⟩
        · omega
        · refine ⟨.pointer (some ⟨b, k.toNat * sizeT P e, none⟩), ?_, ⟨g, b, n, cap, rfl, hq, rfl⟩⟩
          rw [e1, hq, e2]
          simp [Instr.indexAt, asIntOf, underlying, ht, hkn, run_sizeOf_known hk, add_none]
    · cases he
  · cases he
theorem len_sound (h : SatAt C s a w I g ow) {t : TypeId} {str : Bool} (ht : (str = true ∧ P.underlying t = some .string) ∨ (str = false ∧ ∃ e, P.underlying t = some (.slice e))) {x : Operand} {v : AV} {ob : List Prop}
    (he : lenOf s str (gdo (xv s (xop x))) (und (xv s (xop x))) = .ok v ob) (hob : allP ob) (ty : TypeId) : ∃ u, (Builtin.len_ #[t] ty #[a.eval x]).run P w = .ok u w ∧ Den I (some g) v u := by
  have hx := xop_den h x
  have key : ob = gdo (xv s (xop x)) := by
    generalize und (xv s (xop x)) = av at he
    cases av <;> simp only [lenOf] at he <;> first | (cases he; done) | skip
    case ref q => split at he <;> first | (cases he; done) | (simp only [Pv.ok.injEq] at he; exact he.2.symm)
    case nils => cases str <;> simp at he <;> exact he.2.symm
    case emp => cases str <;> simp at he <;> exact he.2.symm
    all_goals (cases str <;> simp only [cond_true, cond_false, Pv.ok.injEq] at he <;> first | (cases he; done) | exact he.2.symm)
  subst key
  have e1 := und_den hx hob
  generalize und (xv s (xop x)) = av at he e1
  cases av <;> simp only [lenOf] at he <;> first | (cases he; done) | skip
  case str l =>
    cases str <;> simp only [cond_true, cond_false, Pv.ok.injEq, reduceCtorEq] at he
    obtain ⟨rfl, -⟩ := he
    rcases ht with ⟨_, ht⟩ | ⟨h0, _⟩
    · have e1 : a.eval x = .string ⟨⟨l⟩⟩ := e1
      rw [e1]
      exact ⟨.int .i64 l.length, by simp [Builtin.len_, underlying, ht, goInt]; rfl, rfl⟩
    · cases h0
  case sl sz n f =>
    cases str <;> simp only [cond_true, cond_false, Pv.ok.injEq, reduceCtorEq] at he
    obtain ⟨rfl, -⟩ := he
    rcases ht with ⟨h0, _⟩ | ⟨_, e, ht⟩
    · cases h0
    · obtain ⟨ad, c, e1, _⟩ := e1
      rw [e1]
      exact ⟨.int .i64 n, by simp [Builtin.len_, underlying, ht, goInt], rfl⟩
  case nils =>
    cases str <;> simp at he
    obtain ⟨rfl, -⟩ := he
    rcases ht with ⟨h0, _⟩ | ⟨_, e, ht⟩
    · cases h0
    · have e1 : a.eval x = .slice none 0 0 := e1
      rw [e1]
      exact ⟨.int .i64 0, by simp [Builtin.len_, underlying, ht, goInt], rfl⟩
  case emp =>
    cases str <;> simp at he
    obtain ⟨rfl, -⟩ := he
    rcases ht with ⟨h0, _⟩ | ⟨_, e, ht⟩
    · cases h0
    · obtain ⟨a0, e1⟩ := e1
      rw [e1]
      exact ⟨.int .i64 0, by simp [Builtin.len_, underlying, ht, goInt], rfl⟩
  case ref q =>
    split at he
    · rename_i e' sz n f hr
      simp only [Pv.ok.injEq] at he
      obtain ⟨rfl, -⟩ := he
      rcases ht with ⟨h0, _⟩ | ⟨_, e, ht⟩
      · cases h0
      · obtain ⟨g', hg, e1, -⟩ := e1
        cases hg
        rcases h.rts q _ hr with ⟨a0, hq, h0⟩ | ⟨b, cap, cur, hq, _⟩
        · rw [e1, hq, h0]
          exact ⟨.int .i64 0, by simp [Builtin.len_, underlying, ht, goInt], rfl⟩
        · rw [e1, hq]
          exact ⟨.int .i64 n, by simp [Builtin.len_, underlying, ht, goInt], rfl⟩
    · rename_i e' sz n f i0 fs hr
      simp only [Pv.ok.injEq] at he
      obtain ⟨rfl, -⟩ := he
      rcases ht with ⟨h0, _⟩ | ⟨_, e, ht⟩
      · cases h0
      · obtain ⟨g', hg, e1, -⟩ := e1
        cases hg
        rcases h.rts q _ hr with ⟨a0, hq, h0⟩ | ⟨b, cap, cur, hq, _⟩
        · rw [e1, hq, h0]
          exact ⟨.int .i64 0, by simp [Builtin.len_, underlying, ht, goInt], rfl⟩
        · rw [e1, hq]
          exact ⟨.int .i64 n, by simp [Builtin.len_, underlying, ht, goInt], rfl⟩
    · cases he
end
end Go.Av
end
/- part AvNew -/
section
namespace Go.Av
section
variable {P : Program} {C : Ctx P} {s : St} {a : Act} {w : World} {I : Imm} {g : Nat → Value} {ow : Nat → List Nat}
theorem shape_of {w : World} {b : Nat} {cur : Array Value} {e : TypeId} {fz : Nat × Nat} (hb : w.heap[b]? = some (.cells cur e fz)) : w.shape? b = some (e, cur.size) := by
  simp [World.shape?, hb]
theorem cvp_sound (h : SatAt C s a w I g ow) {st tt u : TypeId} (hs : P.underlying st = some (.pointer u)) (ht : P.underlying tt = some .unsafePointer) (hk : known P u = true) (hz : 0 < sizeT P u) {d : Nat} {x : Operand} {v : AV} {ob : List Prop}
    (he : ev s (.cvp d u (xop x)) = .ok v ob) (hob : allP ob) : ∃ r, (convert st tt (a.eval x)).run P w = .ok r w ∧ Den I (some g) v r := by
  simp only [ev] at he
  have hx := xop_den h x
  obtain ⟨i, hi, hsz, _⟩ := known_info hk
  split at he <;> first | (cases he; done) | skip
  · rename_i h1
    simp only [Pv.ok.injEq] at he
    obtain ⟨rfl, rfl⟩ := he
    have e1 := und_den hx hob
    rw [h1] at e1
    have e1 : a.eval x = .pointer none := e1
    exact ⟨_, by rw [e1]; simp [convert, run_underlying hs, run_underlying ht, Conv.unsafePointer], rfl⟩
  · rename_i q h1
    split at he <;> first | (cases he; done) | skip
    rename_i e cells hr
    cases hb : (Nat.beq e u && Nat.blt 0 cells.length) <;> simp only [hb, cond_true, cond_false, Pv.ok.injEq, reduceCtorEq] at he
    obtain ⟨rfl, rfl⟩ := he
    simp only [Bool.and_eq_true, Nat.blt_eq] at hb
    have e1 := und_den hx hob
    rw [h1] at e1
    obtain ⟨g', b, hg, hq, e1⟩ := e1
    cases hg
    obtain ⟨b', cur, hq', hw, hbb, -, hc⟩ := h.rts q _ hr
    rw [hq] at hq'
    cases hq'
    refine ⟨_, ?_, ⟨g, b, rfl, hq, rfl⟩⟩
    rw [e1]
    exact Lib.run_to_unsafe w ⟨b, 0, none⟩ hs ht hi (by omega) (shape_of hbb) (by have := hc.length; simp only [Array.length_toList] at this; show 0 < cur.size; omega)
theorem cvq_sound (h : SatAt C s a w I g ow) {st tt u : TypeId} (hs : P.underlying st = some .unsafePointer) (ht : P.underlying tt = some (.pointer u)) (hk : known P u = true) (hl : liesAt P P.depth u (sizeT P u / P.cellsOf u) 0 u 1 = true) {d : Nat} {x : Operand} {v : AV} {ob : List Prop}
    (he : ev s (.cvq d u (sizeT P u) (xop x)) = .ok v ob) (hob : allP ob) : ∃ r, (convert st tt (a.eval x)).run P w = .ok r w ∧ Den I (some g) v r := by
  simp only [ev] at he
  have hx := xop_den h x
  obtain ⟨i, hi, hsz, _⟩ := known_info hk
  split at he <;> first | (cases he; done) | skip
  · rename_i h1
    simp only [Pv.ok.injEq] at he
    obtain ⟨rfl, rfl⟩ := he
    have e1 := und_den hx hob
    rw [h1] at e1
    have e1 : a.eval x = .pointer none := e1
    exact ⟨_, by rw [e1]; simp [convert, run_underlying hs, run_underlying ht, Conv.unsafePointer], rfl⟩
  · rename_i q h1
    split at he <;> first | (cases he; done) | skip
    rename_i e cells hr
    cases hb : (Nat.beq e u && Nat.beq cells.length (sizeT P u)) <;> simp only [hb, cond_true, cond_false, Pv.ok.injEq, reduceCtorEq] at he
    obtain ⟨rfl, rfl⟩ := he
    simp only [Bool.and_eq_true] at hb
    cases beq_iff.1 hb.1
    have hlen := beq_iff.1 hb.2
    have e1 := und_den hx hob
    rw [h1] at e1
    obtain ⟨g', b, hg, hq, e1⟩ := e1
    cases hg
    obtain ⟨b', cur, hq', hw, hbb, -, hc⟩ := h.rts q _ hr
    rw [hq] at hq'
    cases hq'
    refine ⟨_, ?_, ⟨g, b, rfl, hq, rfl⟩⟩
    rw [e1]
    have hcs : cur.size = sizeT P u := by have := hc.length; simp only [Array.length_toList] at this; omega
    exact Lib.run_from_unsafe w ⟨b, 0, none⟩ hs ht hi (shape_of hbb) (by rw [hcs]; exact hl)
theorem usd_sound (h : SatAt C s a w I g ow) {d : Nat} {x : Operand} {v : AV} {ob : List Prop} (he : ev s (.usd d (xop x)) = .ok v ob) (hob : allP ob) (ts : Array TypeId) (ty : TypeId) :
    ∃ r, (Builtin.unsafeSliceData_ ts ty #[a.eval x]).run P w = .ok r w ∧ Den I (some g) v r := by
  simp only [ev] at he
  have hx := xop_den h x
  split at he <;> first | (cases he; done) | skip
  · rename_i h1
    simp only [Pv.ok.injEq] at he
    obtain ⟨rfl, rfl⟩ := he
    have e1 := und_den hx hob
    rw [h1] at e1
    have e1 : a.eval x = .slice none 0 0 := e1
    exact ⟨_, by rw [e1]; exact Lib.run_unsafeSliceData_nil w ts ty 0 0, rfl⟩
  · rename_i q h1
    split at he <;> first | (cases he; done) | skip
    rename_i e sz n f hr
    cases hb : Nat.beq sz 1 <;> simp only [hb, cond_true, cond_false, Pv.ok.injEq, reduceCtorEq] at he
    obtain ⟨rfl, rfl⟩ := he
    obtain ⟨hn, hob⟩ := hob
    have e1 := und_den hx hob
    rw [h1] at e1
    obtain ⟨g', hg, e1, -⟩ := e1
    cases hg
    rcases h.rts q _ hr with ⟨a0, _, h0⟩ | ⟨b, cap, cur, hq, hw, hbb, hnc, hcm, -⟩
    · omega
    · refine ⟨.pointer (some ⟨b, 0, none⟩), ?_, ⟨g, b, n, cap, rfl, hq, rfl⟩⟩
      rw [e1, hq]
      exact Lib.run_unsafeSliceData_row w ts ty _ _ _ (by omega)
theorem bytesOf_length (n : Nat) (f : Nat → List AV) : (bytesOf n f).length = n := by simp [bytesOf]
theorem bytesOf_get {n : Nat} {f : Nat → List AV} {i : Nat} (hi : i < n) : (bytesOf n f)[i]? = some (byteOf (f i)) := by
  simp [bytesOf, hi]
theorem byteOf_eq {c : UInt8} : byteOf [.int .u8 (c.toNat : Int)] = c := by simp [byteOf]
/-- cells that are bytes -/
theorem bytes_vals {β : Option (Nat → Value)} {n : Nat} {f : Nat → List AV} (hb : bytesOb n f) {i : Nat} (hi : i < n) {vs : List Value} (hd : DenL I β (f i) vs) : vs = [.int .u8 ((byteOf (f i)).toNat : Int)] := by
  obtain ⟨c, hc⟩ := hb i hi
  rw [hc] at hd ⊢
  obtain ⟨v, ws, e, e1, e2⟩ := hd
  cases e2
  rw [e, byteOf_eq]
  rw [show v = .int .u8 (c.toNat : Int) from e1]
theorem foldl_push (l : List UInt8) : ∀ (acc : ByteArray), (l.map fun b => ((b.toNat : Nat) : Int)).foldl (fun r n => r.push (UInt8.ofNat n.toNat)) acc = ⟨acc.data ++ l.toArray⟩ := by
  induction l with
  | nil => intro acc; simp
  | cons x l ih =>
    intro acc
    simp only [List.map_cons, List.foldl_cons, ih]
    congr 1
    simp [ByteArray.push]
/-- bytes in a row of cells, read as a string -/
theorem run_bytes {ad : Addr} {n cap : Nat} {f : Nat → List AV} (hc : ∀ i, i < n → w.cell? (ad.add i) = some (.int .u8 ((byteOf (f i)).toNat : Int))) :
    (Conv.bytesToString (.slice (some ad) n cap)).run P w = .ok (.string ⟨⟨bytesOf n f⟩⟩) w := by
  have hl := run_loadCells_list (P := P) (w := w) ad ((bytesOf n f).map fun b => Value.int .u8 (b.toNat : Int)) (fun j v hj => by
    rw [List.getElem?_map] at hj
    cases hb : (bytesOf n f)[j]? with
    | none => rw [hb] at hj; cases hj
    | some c =>
      rw [hb] at hj
      have hjn : j < n := by
        have := (List.getElem?_eq_some_iff.1 hb).1
        rwa [bytesOf_length] at this
      rw [bytesOf_get hjn] at hb
      cases hb
      cases hj
      exact hc j hjn)
  rw [List.length_map, bytesOf_length] at hl
  have := run_bytesToString (P := P) w ad n cap ((bytesOf n f).map fun b => ((b.toNat : Nat) : Int)) (by rw [hl]; simp)
  rw [this, foldl_push]
  simp
theorem bst_sound (h : SatAt C s a w I g ow) {d : Nat} {x : Operand} {v : AV} {ob : List Prop} (he : ev s (.bst d (xop x)) = .ok v ob) (hob : allP ob) :
    ∃ r, (∃ ad n c, a.eval x = .slice ad n c) ∧ (Conv.bytesToString (a.eval x)).run P w = .ok r w ∧ Den I (some g) v r := by
  simp only [ev] at he
  have hx := xop_den h x
  split at he <;> first | (cases he; done) | skip
  · rename_i h1
    simp only [Pv.ok.injEq] at he
    obtain ⟨rfl, rfl⟩ := he
    have e1 := und_den hx hob
    rw [h1] at e1
    have e1 : a.eval x = .slice none 0 0 := e1
    exact ⟨_, ⟨_, _, _, e1⟩, by rw [e1]; simp [Conv.bytesToString]; rfl, rfl⟩
  · rename_i sz n f h1
    cases hb : Nat.beq sz 1 <;> simp only [hb, cond_true, cond_false, Pv.ok.injEq, reduceCtorEq] at he
    obtain ⟨rfl, rfl⟩ := he
    cases beq_iff.1 hb
    obtain ⟨hn, hob⟩ := hob
    have e1 := und_den hx hob
    rw [h1] at e1
    obtain ⟨ad, c, e1, hnc, hcm, hcell⟩ := e1
    rcases hcell with rfl | ⟨b, o, rfl, hc⟩
    · refine ⟨_, ⟨_, _, _, e1⟩, ?_, rfl⟩
      rw [e1]
      cases ad with
      | none => simp [Conv.bytesToString, bytesOf]; rfl
      | some ad => exact run_bytes fun i hi => by omega
    · refine ⟨_, ⟨_, _, _, e1⟩, ?_, rfl⟩
      rw [e1]
      refine run_bytes fun i hi => ?_
      obtain ⟨vs, l1, l2, l3⟩ := hc i hi
      have := bytes_vals hn hi l3
      subst this
      have := h.imm _ _ _ (l2 0 _ rfl)
      rw [add_none]
      simpa using this
  · rename_i q h1
    split at he <;> first | (cases he; done) | skip
    rename_i e sz n f hr
    cases hb : Nat.beq sz 1 <;> simp only [hb, cond_true, cond_false, Pv.ok.injEq, reduceCtorEq] at he
    obtain ⟨rfl, rfl⟩ := he
    cases beq_iff.1 hb
    obtain ⟨hn, hob⟩ := hob
    have e1 := und_den hx hob
    rw [h1] at e1
    obtain ⟨g', hg, e1, -⟩ := e1
    cases hg
    rcases h.rts q _ hr with ⟨a0, hq, rfl⟩ | ⟨b, cap, cur, hq, hw, hbb, hnc, hcm, hcs, -, hc⟩
    · rw [hq] at e1
      refine ⟨_, ⟨_, _, _, e1⟩, ?_, rfl⟩
      rw [e1]
      cases a0 with
      | none => simp [Conv.bytesToString, bytesOf]; rfl
      | some ad => exact run_bytes fun i hi => by omega
    · rw [hq] at e1
      refine ⟨_, ⟨_, _, _, e1⟩, ?_, rfl⟩
      rw [e1]
      refine run_bytes fun i hi => ?_
      have := bytes_vals hn hi (hc i hi)
      rw [add_none, cell_heap hbb]
      have h2 : ((cur.toList.drop (i * 1)).take 1)[0]? = some (.int .u8 ((byteOf (f i)).toNat : Int)) := by rw [this]; rfl
      rw [List.getElem?_take] at h2
      simp only [Nat.lt_irrefl, Nat.zero_lt_one, if_true, List.getElem?_drop, Nat.mul_one, Nat.add_zero] at h2
      simpa using h2
end
end Go.Av
end
/- part AvEvall -/
section
namespace Go.Av
section
variable {P : Program} {C : Ctx P} {s : St} {a : Act} {w : World} {I : Imm} {g : Nat → Value} {ow : Nat → List Nat}
theorem bif_bad {c : Bool} {x : SOp} {v : AV} {ob : List Prop} (h : ev s (bif c then x else .bad) = .ok v ob) : c = true ∧ ev s x = .ok v ob := by
  cases c
  · cases h
  · exact ⟨rfl, h⟩
theorem pick_sound (h : SatAt C s a w I g ow) {c x y : Operand} {d : Nat} {v : AV} {ob : List Prop} (he : ev s (.pick d (xop c) (xop x) (xop y)) = .ok v ob) (hob : allP ob) :
    ∃ b, a.eval c = .bool b ∧ Den I (some g) v (if b = true then a.eval x else a.eval y) := by
  simp only [ev] at he
  have hc := xop_den h c
  have hx := xop_den h x
  have hy := xop_den h y
  split at he <;> first | (cases he; done) | skip
  rename_i b p q h1 h2 h3
  simp only [Pv.ok.injEq] at he
  obtain ⟨rfl, rfl⟩ := he
  rw [allP_append] at hob
  obtain ⟨o1, o2, o3, _⟩ := hob
  have e1 := und_den hc o1
  rw [h1] at e1
  refine ⟨b, e1, ?_⟩
  cases b with
  | true =>
    have := und_den hx (o2 rfl)
    rw [h2] at this
    exact this
  | false =>
    have := und_den hy (o3 rfl)
    rw [h3] at this
    exact this
theorem nilc_sound (h : SatAt C s a w I g ow) {o : Oper} {x : Operand} (ho : o.op = .nilCheck x) {v : AV} {ob : List Prop} (he : ev s (.nilc o.dst (xop x)) = .ok v ob) (hob : allP ob) : Gives P a w I g o v := by
  simp only [ev] at he
  have hx := xop_den h x
  split at he <;> first | (cases he; done) | skip
  all_goals
    rename_i h1
    simp only [Pv.ok.injEq] at he
    obtain ⟨rfl, rfl⟩ := he
    have e1 := und_den hx hob
    rw [h1] at e1
    refine ⟨a.eval x, ?_, e1⟩
  · obtain ⟨_, _, _, _, e⟩ := e1
    simp [execOp, ho, e]
  · obtain ⟨_, _, _, _, _, _, e⟩ := e1
    simp [execOp, ho, e]
  · obtain ⟨_, _, _, e, _⟩ := e1
    simp [execOp, ho, e]
  · obtain ⟨_, e, _⟩ := e1
    simp [execOp, ho, e]
theorem fad_sound (h : SatAt C s a w I g ow) {t : TypeId} {fs : Array Field} {k : Nat} {f : Field} (ht : P.underlying t = some (.struct fs)) (hf : fs[k]? = some f) (hk : known P f.type = true) (hn : 0 < sizeT P f.type)
    {d : Nat} {x : Operand} {v : AV} {ob : List Prop} (he : ev s (.fad d (xop x) f.offset) = .ok v ob) (hob : allP ob) : ∃ u, (Instr.fieldAt t (a.eval x) k).run P w = .ok u w ∧ Den I (some g) v u := by
  simp only [ev] at he
  have hx := xop_den h x
  have hr : ∀ b o, (Instr.fieldAt t (.pointer (some ⟨b, o, none⟩)) k).run P w = .ok (.pointer (some ⟨b, o + f.offset, none⟩)) w := by
    intro b o
    have : ¬ sizeT P f.type = 0 := by omega
    simp [Instr.fieldAt, underlying, ht, hf, Instr.sureAddr, fieldPlace, run_sizeOf_known hk, this, add_none]
  split at he <;> first | (cases he; done) | skip
  all_goals
    rename_i h1
    simp only [Pv.ok.injEq] at he
    obtain ⟨rfl, rfl⟩ := he
    have e1 := und_den hx hob
    rw [h1] at e1
  · obtain ⟨g', b, hg, hq, e⟩ := e1
    rw [e]
    exact ⟨_, hr _ _, ⟨g', b, hg, hq, rfl⟩⟩
  · obtain ⟨g', b, n, c, hg, hq, e⟩ := e1
    rw [e]
    exact ⟨_, hr _ _, ⟨g', b, n, c, hg, hq, by rw [Nat.add_assoc]⟩⟩
  · obtain ⟨b, o, vs, e, r, d⟩ := e1
    rw [e]
    refine ⟨_, hr _ _, ⟨b, _, vs.drop f.offset, rfl, fun j u hj => ?_, d.drop _⟩⟩
    rw [List.getElem?_drop] at hj
    rw [Nat.add_assoc]
    exact r _ _ hj
theorem part_den {t : TypeId} (hk : known P t = true) (hu : (P.underlying t).isSome = true) {cs : List AV} {vs : List Value} (hd : DenL I (some g) cs vs) {off : Nat} {v : AV} (hp : pickCells (cs.drop off) (sizeT P t) (aggT P t) = some v) :
    ∃ u, (part t ⟨vs⟩ off).run P w = .ok u w ∧ Den I (some g) v u := by
  obtain ⟨h1, h2⟩ := pick_den (hd.drop off) hp
  cases ha : aggT P t with
  | true =>
    obtain ⟨_, hden⟩ := h1 ha
    exact ⟨_, (run_part hk hu w vs off).1 ha, hden⟩
  | false =>
    obtain ⟨u, hu0, hden⟩ := h2 ha
    refine ⟨u, ?_, hden⟩
    have h0 : vs[off]? = some u := by rw [List.getElem?_drop, Nat.add_zero] at hu0; exact hu0
    have h0' : (⟨vs⟩ : Array Value)[off]? = some u := by simpa using h0
    simp only [part, Sem.run_bind, run_isAgg_known hu, ha, Result.andThen_ok, Bool.false_eq_true, if_false, h0', Sem.run_pure]
theorem call_sound (h : SatAt C s a w I g ow) {o : Oper} {c : Call} {dst : Option Nat} (hop : o.op = .call c) (hdst : o.dst = dst) {v : AV} {ob : List Prop} (he : ev s (copCall P c dst) = .ok v ob) (hob : allP ob) :
    Gives P a w I g o v ∧ (copCall P c dst).dst = dst := by
  obtain ⟨callee, ⟨args⟩, ⟨types⟩⟩ := c
  simp only [copCall] at he ⊢
  split at he
  · rename_i x t d
    have fin : (∃ u, (Builtin.len_ #[t] o.type #[a.eval x]).run P w = .ok u w ∧ Den I (some g) v u) → Gives P a w I g o v := fun ⟨u, h1, h2⟩ =>
      ⟨u, by simp [execOp, hop, resolve, invoke, builtin, h1], h2⟩
    cases ht : P.underlying t with
    | none => simp [ht, ev] at he
    | some td =>
      cases td <;> simp only [ht] at he <;> first | (cases he; done) | skip
      case string => exact ⟨fin (len_sound h (.inl ⟨rfl, ht⟩) he hob _), rfl⟩
      case slice e => exact ⟨fin (len_sound h (.inr ⟨rfl, e, ht⟩) he hob _), rfl⟩
  · rename_i x d
    obtain ⟨u, h1, h2⟩ := usd_sound h he hob ⟨types⟩ o.type
    exact ⟨⟨u, by simp [execOp, hop, resolve, invoke, builtin, h1], h2⟩, rfl⟩
  · split at he <;> first | (cases he; done) | exact absurd (bif_bad he).2 (by simp [ev])
  · rename_i x y d
    simp only [ev] at he
    split at he <;> first | (cases he; done) | skip
    rename_i k m k' n e1 e2
    cases hk : kq k k' <;> simp only [hk, cond_true, cond_false, Pv.ok.injEq, reduceCtorEq] at he
    cases kq_eq hk
    obtain ⟨rfl, rfl⟩ := he
    rw [allP_append] at hob
    have q1 := x_den h x hob.1
    have q2 := x_den h y hob.2
    rw [e1] at q1; rw [e2] at q2
    have q1 : a.eval x = .int k m := q1
    have q2 : a.eval y = .int k n := q2
    exact ⟨⟨.int k (if n > m then n else m), by simp [execOp, hop, resolve, invoke, builtin, Builtin.max_, Builtin.max2, q1, q2], rfl⟩, rfl⟩
  · rename_i x y d
    simp only [ev] at he
    split at he <;> first | (cases he; done) | skip
    rename_i k m k' n e1 e2
    cases hk : kq k k' <;> simp only [hk, cond_true, cond_false, Pv.ok.injEq, reduceCtorEq] at he
    cases kq_eq hk
    obtain ⟨rfl, rfl⟩ := he
    rw [allP_append] at hob
    have q1 := x_den h x hob.1
    have q2 := x_den h y hob.2
    rw [e1] at q1; rw [e2] at q2
    have q1 : a.eval x = .int k m := q1
    have q2 : a.eval y = .int k n := q2
    exact ⟨⟨.int k (if n < m then n else m), by simp [execOp, hop, resolve, invoke, builtin, Builtin.min_, Builtin.min2, q1, q2], rfl⟩, rfl⟩
  · split at he <;> first | (cases he; done) | exact absurd (bif_bad he).2 (by simp [ev])
  · split at he <;> first | (cases he; done) | exact absurd (bif_bad he).2 (by simp [ev])
  · simp [ev] at he
  · cases he
theorem ev_sound (h : SatAt C s a w I g ow) {o : Oper} {v : AV} {ob : List Prop} (he : ev s (cop P o) = .ok v ob) (hob : allP ob) : Gives P a w I g o v ∧ (cop P o).dst = o.dst := by
  obtain ⟨op, hop⟩ : ∃ op, o.op = op := ⟨_, rfl⟩
  obtain ⟨dst, hdst⟩ : ∃ d, o.dst = d := ⟨_, rfl⟩
  unfold cop at he ⊢
  rw [hop, hdst] at he ⊢
  cases op
  case nilCheck x => exact ⟨nilc_sound h hop (by rw [hdst]; exact he) hob, rfl⟩
  case store => cases dst <;> first | (cases he; done) | (exact absurd (bif_bad he).2 (by simp [ev]))
  case call c => exact call_sound h hop hdst he hob
  all_goals (cases dst with
    | none => first | (rw [cop1_idx_none] at he; cases he; done) | (cases he; done) | (rename_i p _ _; cases p <;> cases he; done) | (rename_i p; cases p <;> cases he; done)
    | some d => ?_)
  case move x =>
    simp only [cop1, ev, Pv.ok.injEq] at he
    obtain ⟨rfl, rfl⟩ := he
    exact ⟨⟨a.eval x, by simp [execOp, hop], xop_den h x⟩, rfl⟩
  case assign x =>
    simp only [cop1, ev, Pv.ok.injEq] at he
    obtain ⟨rfl, rfl⟩ := he
    exact ⟨⟨a.eval x, by simp [execOp, hop], xop_den h x⟩, rfl⟩
  case pick c x y =>
    obtain ⟨b, hb, hd⟩ := pick_sound h he hob
    exact ⟨⟨_, by simp [execOp, hop, hb, asBool], hd⟩, rfl⟩
  case alloc e => exact absurd (bif_bad he).2 (by simp [ev])
  case box e x => exact absurd (bif_bad he).2 (by simp [ev])
  case build t ps =>
    simp only [cop1] at he ⊢
    split at he
    · rename_i fs ht
      obtain ⟨hc, he⟩ := bif_bad he
      simp only [hc, cond_true]
      simp only [Bool.and_eq_true] at hc
      split at he
      · rename_i l hl
        simp only [ev] at he
        split at he <;> first | (cases he; done) | skip
        rename_i cs ob' hp
        simp only [Pv.ok.injEq] at he
        obtain ⟨rfl, rfl⟩ := he
        refine ⟨gives_of (build_struct h ht hc.1 hc.2 hl hp hob) (by simp [execOp, hop]), rfl⟩
      · cases he
    · rename_i n e ht
      obtain ⟨hc, he⟩ := bif_bad he
      simp only [hc, cond_true]
      simp only [Bool.and_eq_true] at hc
      simp only [ev] at he
      split at he <;> first | (cases he; done) | skip
      rename_i cs ob' hp
      simp only [Pv.ok.injEq] at he
      obtain ⟨rfl, rfl⟩ := he
      refine ⟨gives_of (build_array h ht hc.1 hc.2 hp hob) (by simp [execOp, hop]), rfl⟩
    · cases he
  case makeSlice t l c =>
    simp only [cop1] at he
    split at he
    · exact absurd (bif_bad he).2 (by simp [ev])
    · cases he
  case buildSlice t len ps =>
    simp only [cop1] at he
    split at he
    · exact absurd (bif_bad he).2 (by simp [ev])
    · cases he
  case load t x =>
    obtain ⟨hc, he⟩ := bif_bad he
    simp only [cop1, hc, cond_true]
    simp only [Bool.and_eq_true] at hc
    simp only [ev] at he
    have hg : allP (gdo (xv s (xop x))) := by
      revert he
      generalize und (xv s (xop x)) = av
      intro he
      cases av <;> simp only [loadAt] at he <;> first | (cases he; done) | skip
      case loc q off => split at he <;> first | (cases he; done) | (obtain ⟨_, rfl⟩ := ofOpt_ok he; exact hob)
      case locE q sz k off =>
        split at he <;> first | (cases he; done) | skip
        · rename_i e' sz' m f hr
          cases hs : Nat.beq sz sz' <;> simp [hs] at he
          obtain ⟨_, rfl⟩ := ofOpt_ok he
          exact hob.2
        · rename_i e' sz' m f i0 fs hr
          cases hs : Nat.beq sz sz' <;> simp [hs] at he
          unfold loadO at he
          cases ha : aggT P t with
          | true =>
            rw [ha] at he
            obtain ⟨_, rfl⟩ := ofOpt_ok he
            exact hob.2
          | false =>
            rw [ha] at he
            simp only [cond_false] at he
            split at he
            · split at he
              · cases he
              · simp only [Pv.ok.injEq] at he
                rw [← he.2] at hob
                exact hob.2.2
            · obtain ⟨_, rfl⟩ := ofOpt_ok he
              exact hob.2
      case ptr cs => obtain ⟨_, rfl⟩ := ofOpt_ok he; exact hob
    exact ⟨gives_of (loadAt_sound h hc.1 hc.2 (x_den h x hg) he hob) (by simp [execOp, hop]), rfl⟩
  case binOp op t x y yt =>
    have fin : (∃ u, (do eqGuard op t x y (a.eval x) (a.eval y); binOp op t (a.eval x) (a.eval y)).run P w = .ok u w ∧ Den I (some g) v u) → Gives P a w I g o v := fun hh => gives_of hh (by simp [execOp, hop])
    by_cases hq : op = .eql ∨ op = .neq
    · have hcop : cop1 P (.binOp op t x y yt) (some d) = (match P.underlying t with
        | some (.int _) | some .string => .bin d op (xop x) (xop y)
        | some .bool => .eqb d (isNeq op) (xop x) (xop y)
        | some (.struct _) => (match flat P 10 t with | some ks => bif Nat.beq ks.length (sizeT P t) && !P.eqGuardType P.depth t then .eqa d (isNeq op) ks (xop x) (xop y) else .bad | none => .bad)
        | some (.pointer e) => .eqn d (isNeq op) (bif known P e && Nat.blt 0 (sizeT P e) then .q else .p) (xop x) (xop y)
        | some (.slice _) => .eqn d (isNeq op) .s (xop x) (xop y)
        | some (.func ..) => .eqn d (isNeq op) .f (xop x) (xop y)
        | _ => .bad) := by rcases hq with rfl | rfl <;> rfl
      rw [hcop] at he ⊢
      split at he
      · exact ⟨fin (bin_sound h he hob t), rfl⟩
      · exact ⟨fin (bin_sound h he hob t), rfl⟩
      · rename_i ht; exact ⟨fin (eqb_sound h hq he hob ht), rfl⟩
      · rename_i fs ht
        split at he
        · rename_i ks hks
          obtain ⟨hc, he⟩ := bif_bad he
          simp only [hc, cond_true]
          simp only [Bool.and_eq_true, Bool.not_eq_true'] at hc
          exact ⟨fin (eqa_sound h hq he hob ht hks (beq_iff.1 hc.1) hc.2), rfl⟩
        · cases he
      · rename_i e ht
        cases hk : (known P e && Nat.blt 0 (sizeT P e)) with
        | true =>
          simp only [hk, cond_true] at he ⊢
          simp only [Bool.and_eq_true, Nat.blt_eq] at hk
          exact ⟨fin (eqn_sound h hq he hob ⟨e, ht, hk.1, hk.2⟩), rfl⟩
        | false =>
          simp only [hk, cond_false] at he ⊢
          exact ⟨fin (eqn_sound h hq he hob ⟨e, ht⟩), rfl⟩
      · rename_i e ht; exact ⟨fin (eqn_sound h hq he hob ⟨e, ht⟩), rfl⟩
      · rename_i p q z ht; exact ⟨fin (eqn_sound h hq he hob ⟨p, q, z, ht⟩), rfl⟩
      · cases he
    · have hcop : cop1 P (.binOp op t x y yt) (some d) = .bin d op (xop x) (xop y) := by
        cases op <;> first | rfl | exact absurd (.inl rfl) hq | exact absurd (.inr rfl) hq
      rw [hcop] at he ⊢
      exact ⟨fin (bin_sound h he hob t), rfl⟩
  case unOp op t x =>
    cases op <;> first | (cases he; done) | skip
    case not =>
      simp only [cop1, ev] at he
      split at he <;> first | (cases he; done) | skip
      rename_i b h1
      simp only [Pv.ok.injEq] at he
      obtain ⟨rfl, rfl⟩ := he
      have e1 := x_den h x hob
      rw [h1] at e1
      have e1 : a.eval x = .bool b := e1
      exact ⟨⟨.bool (!b), by simp [execOp, hop, e1, Op.unary], rfl⟩, rfl⟩
    case neg =>
      simp only [cop1, ev] at he
      split at he <;> first | (cases he; done) | skip
      rename_i k n h1
      cases hk : i64? k <;> simp only [hk, cond_true, cond_false, Pv.ok.injEq, reduceCtorEq] at he
      obtain ⟨rfl, rfl⟩ := he
      cases i64?_eq hk
      have e1 := x_den h x hob.2
      rw [h1] at e1
      have e1 : a.eval x = .int .i64 n := e1
      have hw := IntWalk.i64_in (-n) hob.1
      exact ⟨⟨.int .i64 (-n), by simp [execOp, hop, e1, Op.unary, Op.intArith, hw], rfl⟩, rfl⟩
  case convert p q x =>
    simp only [cop1] at he ⊢
    split at he <;> first | (cases he; done) | skip
    · rename_i k' k hp hq
      simp only [ev] at he
      split at he <;> first | (cases he; done) | skip
      rename_i kx n h1
      simp only [Pv.ok.injEq] at he
      obtain ⟨rfl, rfl⟩ := he
      have e1 := x_den h x hob
      rw [h1] at e1
      have e1 : a.eval x = .int kx n := e1
      exact ⟨⟨.int k (k.wrap n), by simp [execOp, hop, e1, convert, underlying, hp, hq, Conv.intToInt], rfl⟩, rfl⟩
    · rename_i u hp hq
      obtain ⟨hc, he⟩ := bif_bad he
      simp only [hc, cond_true]
      simp only [Bool.and_eq_true, Nat.blt_eq] at hc
      exact ⟨gives_of (cvp_sound h hp hq hc.1 hc.2 he hob) (by simp [execOp, hop]), rfl⟩
    · rename_i u hp hq
      obtain ⟨hc, he⟩ := bif_bad he
      simp only [hc, cond_true]
      simp only [Bool.and_eq_true, Nat.blt_eq] at hc
      exact ⟨gives_of (cvq_sound h hp hq hc.1 hc.2.2 he hob) (by simp [execOp, hop]), rfl⟩
    · rename_i e hp hq
      split at he <;> first | (cases he; done) | skip
      rename_i hu
      obtain ⟨r, ⟨ad, n, c, hx⟩, h1, h2⟩ := bst_sound h he hob
      refine ⟨gives_of (r := convert p q (a.eval x)) ⟨r, ?_, h2⟩ (by simp [execOp, hop]), rfl⟩
      rw [hx] at h1 ⊢
      rw [run_convert_bytes_string w p q e ad n c hp hu hq]
      exact h1
    · split at he <;> first | (cases he; done) | (simp [ev] at he; done)
  case makeInterface t x =>
    simp only [cop1] at he ⊢
    split at he <;> first | (cases he; done) | skip
    rename_i td hn ht
    simp only [ev, Pv.ok.injEq] at he
    obtain ⟨rfl, rfl⟩ := he
    refine ⟨⟨.iface t (a.eval x), ?_, ⟨_, rfl, xop_den h x⟩⟩, ?_⟩
    · cases td <;> first | exact absurd rfl (hn _) | simp [execOp, hop, Instr.makeInterface, underlying, ht]
    · first | rfl | (rw [ht]; cases td <;> first | exact absurd rfl (hn _) | rfl)
  case makeFunc fn first caps =>
    cases fn <;> first | (cases he; done) | skip
    rename_i f
    obtain ⟨hc, he⟩ := bif_bad he
    simp only [cop1, hc, cond_true]
    simp only [ev, Pv.ok.injEq] at he
    obtain ⟨rfl, rfl⟩ := he
    refine ⟨⟨.func (.func f) #[] (caps.map a.eval), ?_, ⟨caps.toList.map a.eval, ?_, xops_den h _⟩⟩, rfl⟩
    · have : first = #[] := by
        apply Array.ext'
        simpa using hc
      simp [execOp, hop, Instr.makeFunc, this]
    · congr 1
      apply Array.ext'
      simp
  case slice t x lo hi mx =>
    cases mx <;> first | (cases he; done) | skip
    simp only [cop1] at he ⊢
    have core : ∀ sz, ((P.underlying t = some .string ∧ sz = 0) ∨ ∃ e, P.underlying t = some (.slice e) ∧ known P e = true ∧ 0 < sz ∧ sz = sizeT P e) → ev s (.slice d sz (xop x) (lo.map xop) (hi.map xop)) = .ok v ob → Gives P a w I g o v := by
      intro sz ht he
      simp only [ev] at he
      split at he <;> first | (cases he; done) | skip
      rename_i l o1 m o2 h1 h2
      have hob' : allP (gdo (xv s (xop x)) ++ (o1 ++ o2)) := by
        generalize und (xv s (xop x)) = av at he
        cases av <;> simp only [sliceOf] at he <;> first | (cases he; done) | skip
        case str b => cases hs : Nat.beq sz 0 <;> simp only [hs, cond_true, cond_false, Pv.ok.injEq, reduceCtorEq] at he; obtain ⟨_, rfl⟩ := he; exact hob.2
        case sl z n f => cases hs : (Nat.blt 0 sz && Nat.beq sz z) <;> simp only [hs, cond_true, cond_false, Pv.ok.injEq, reduceCtorEq] at he; obtain ⟨_, rfl⟩ := he; exact hob.2
      rw [allP_append, allP_append] at hob'
      exact gives_of (slice_sound ht (optInt_sound h h1 hob'.2.1) (optInt_sound h h2 hob'.2.2) (x_den h x hob'.1) he hob) (by simp [execOp, hop])
    split at he
    · rename_i ht; exact ⟨core 0 (.inl ⟨ht, rfl⟩) he, rfl⟩
    · rename_i e ht
      obtain ⟨hc, he⟩ := bif_bad he
      simp only [hc, cond_true]
      simp only [Bool.and_eq_true, Nat.blt_eq] at hc
      exact ⟨core _ (.inr ⟨e, ht, hc.1, hc.2, rfl⟩) he, rfl⟩
    · cases he
  case fieldAddr t x k =>
    simp only [cop1] at he ⊢
    split at he <;> first | (cases he; done) | skip
    rename_i fs ht
    split at he <;> first | (cases he; done) | skip
    rename_i f hf
    obtain ⟨hc, he⟩ := bif_bad he
    simp only [hc, cond_true]
    simp only [Bool.and_eq_true, Nat.blt_eq] at hc
    exact ⟨gives_of (fad_sound h ht hf hc.1 hc.2 he hob) (by simp [execOp, hop]), rfl⟩
  case field t x k =>
    simp only [cop1] at he ⊢
    split at he <;> first | (cases he; done) | skip
    rename_i fs ht
    split at he <;> first | (cases he; done) | skip
    rename_i f hf
    obtain ⟨hc, he⟩ := bif_bad he
    simp only [hc, cond_true]
    simp only [Bool.and_eq_true] at hc
    simp only [ev] at he
    split at he <;> first | (cases he; done) | skip
    rename_i cs h1
    obtain ⟨hp, rfl⟩ := ofOpt_ok he
    have e1 := x_den h x hob
    rw [h1] at e1
    obtain ⟨vs, e1, d1⟩ := e1
    obtain ⟨u, hu, hd⟩ := part_den (w := w) hc.1 hc.2 d1 hp
    have hh : ∃ u, (Instr.field t (a.eval x) k).run P w = .ok u w ∧ Den I (some g) v u := ⟨u, by simp [Instr.field, underlying, ht, hf, e1, asAgg, hu], hd⟩
    exact ⟨gives_of hh (by simp [execOp, hop]), rfl⟩
  case indexAddr t x i =>
    by_cases hgl : ∃ gx, x = .global gx
    · obtain ⟨gx, rfl⟩ := hgl
      simp only [cop1] at he ⊢
      split at he <;> first | (cases he; done) | skip
      rename_i n e m f ht htab
      obtain ⟨hc, he2⟩ := bif_bad he
      clear he
      simp only [hc, cond_true]
      simp only [Bool.and_eq_true] at hc
      obtain ⟨hk, hs1, hnm⟩ := hc
      have hs1 := beq_iff.1 hs1
      cases beq_iff.1 hnm
      simp only [ev] at he2
      split at he2 <;> first | (cases he2; done) | skip
      rename_i ki k h2
      simp only [Pv.ok.injEq] at he2
      obtain ⟨rfl, rfl⟩ := he2
      obtain ⟨hkn, hob2⟩ := hob
      have e2 := x_den h i hob2
      rw [h2] at e2
      have e2 : a.eval i = .int ki k := e2
      obtain ⟨u, hu1, hu2⟩ := (C.tab.mono h.ile) gx n f htab k.toNat (by omega)
      refine ⟨gives_of ⟨.pointer (some ⟨gx, k.toNat, none⟩), ?_, ⟨gx, k.toNat, [u], rfl, ?_, hu2⟩⟩ (by simp [execOp, hop]; rfl), rfl⟩
      · rw [e2]
        simp [Instr.indexAt, Instr.sureAddr, asIntOf, underlying, ht, hkn, run_sizeOf_known hk, hs1, add_none, Act.eval]
      · intro j v hj
        cases j with
        | zero => simp only [List.getElem?_cons_zero, Option.some.injEq] at hj; subst hj; exact hu1
        | succ j => simp at hj
    have hcg : cop1 P (.indexAddr t x i) (some d) = (match P.underlying t with
      | some (.slice e) => bif known P e then .idx d (xop x) (xop i) (sizeT P e) else .bad
      | some (.array n e) => bif known P e then .ida d (xop x) (xop i) n (sizeT P e) else .bad
      | _ => .bad) := by
      cases x <;> first | rfl | exact absurd ⟨_, rfl⟩ hgl
    rw [hcg] at he ⊢
    split at he <;> first | (cases he; done) | skip
    · rename_i e ht
      obtain ⟨hc, he⟩ := bif_bad he
      simp only [hc, cond_true]
      exact ⟨gives_of (idx_sound h ht hc he hob) (by simp [execOp, hop]), rfl⟩
    · rename_i n e ht
      obtain ⟨hc, he⟩ := bif_bad he
      simp only [hc, cond_true]
      simp only [ev] at he
      split at he <;> first | (cases he; done) | skip
      rename_i q off ki k h1 h2
      simp only [Pv.ok.injEq] at he
      obtain ⟨rfl, rfl⟩ := he
      obtain ⟨hkn, hob2⟩ := hob
      rw [allP_append] at hob2
      have e1 := x_den h x hob2.1
      have e2 := x_den h i hob2.2
      rw [h1] at e1
      rw [h2] at e2
      obtain ⟨g', b, hg, hq, e1⟩ := e1
      have e2 : a.eval i = .int ki k := e2
      have hh : ∃ u, (Instr.indexAt t (a.eval x) (a.eval i)).run P w = .ok u w ∧ Den I (some g) (.loc q (off + k.toNat * sizeT P e)) u := ⟨.pointer (some ⟨b, off + k.toNat * sizeT P e, none⟩), by rw [e1, e2]; simp [Instr.indexAt, Instr.sureAddr, asIntOf, underlying, ht, hkn, run_sizeOf_known hc, add_none], ⟨g', b, hg, hq, rfl⟩⟩
      exact ⟨gives_of hh (by simp [execOp, hop]), rfl⟩
  case index t x i =>
    simp only [cop1] at he ⊢
    split at he <;> first | (cases he; done) | skip
    rename_i ht
    simp only [ev] at he
    split at he <;> first | (cases he; done) | skip
    rename_i l kk n h1 h2
    simp only [Pv.ok.injEq] at he
    obtain ⟨rfl, rfl⟩ := he
    obtain ⟨hb, hob⟩ := hob
    rw [allP_append] at hob
    have e1 := x_den h x hob.1
    have e2 := x_den h i hob.2
    rw [h1] at e1; rw [h2] at e2
    have e1 : a.eval x = .string ⟨⟨l⟩⟩ := e1
    have e2 : a.eval i = .int kk n := e2
    have hlt : n.toNat < l.length := by omega
    have hget : (⟨⟨l⟩⟩ : ByteArray)[n.toNat]? = some l[n.toNat] := by
      have hs : n.toNat < (⟨⟨l⟩⟩ : ByteArray).size := hlt
      rw [getElem?_pos (⟨⟨l⟩⟩ : ByteArray) n.toNat hs]
      rfl
    have hh : ∃ u, (Instr.index t (a.eval x) (a.eval i)).run P w = .ok u w ∧ Den I (some g) (.int .u8 ((l.getD n.toNat 0).toNat : Int)) u := by
      refine ⟨.int .u8 (l[n.toNat].toNat : Int), by simp [Instr.index, e1, e2, asIntOf, underlying, ht, hb.1, hget], ?_⟩
      show Value.int .u8 _ = .int .u8 _
      rw [List.getD_eq_getElem?_getD, List.getElem?_eq_getElem hlt]
      rfl
    exact ⟨gives_of hh (by simp [execOp, hop]), rfl⟩
  case extract x i =>
    simp only [cop1, ev] at he
    split at he <;> first | (cases he; done) | skip
    rename_i vs h1
    split at he <;> first | (cases he; done) | skip
    rename_i v' hv
    simp only [Pv.ok.injEq] at he
    obtain ⟨rfl, rfl⟩ := he
    have e1 := x_den h x hob
    rw [h1] at e1
    obtain ⟨us, e1, d1⟩ := e1
    obtain ⟨u, hu, hd⟩ := d1.get i hv
    have hu' : (⟨us⟩ : Array Value)[i]? = some u := by simpa using hu
    have hh : ∃ u, (Instr.extract (a.eval x) i).run P w = .ok u w ∧ Den I (some g) v' u := ⟨u, by simp [Instr.extract, e1, hu'], hd⟩
    exact ⟨gives_of hh (by simp [execOp, hop]), rfl⟩
  all_goals (cases he)
end
end Go.Av
end
/- part AvEf -/
section
namespace Go.Av
section
variable {P : Program} {C : Ctx P} {s : St} {a : Act} {w : World} {I : Imm} {g : Nat → Value} {ow : Nat → List Nat}
theorem heap_push_lt (w : World) (o : Obj) {b : Nat} (h : b < w.heap.size) : (w.alloc o).heap[b]? = w.heap[b]? := heap_alloc_old w o b h
theorem cell_alloc_lt (w : World) (o : Obj) {b : Nat} (h : b < w.heap.size) (j : Nat) : (w.alloc o).cell? ⟨b, j, none⟩ = w.cell? ⟨b, j, none⟩ := World.cell?_alloc_lt w o ⟨b, j, none⟩ h
theorem imm_lt (h : SatAt C s a w I g ow) {b o : Nat} {u : Value} (hu : I b o = some u) : b < w.heap.size :=
  block_lt_of_cell (h.imm b o u hu)
theorem RtOK.name {q : Nat} {r : Rt} (hr : RtOK I g ow w q r) {d : Nat} (hq : q ≠ d) (hn : norefR d r = true) {v : Value} {w' : World} {ow' : Nat → List Nat}
    (hheap : ∀ b p, ow b = q :: p → w'.heap[b]? = w.heap[b]?) (how : ∀ b p, ow b = q :: p → ow' b = q :: p) : RtOK I (upd g d v) ow' w' q r := by
  cases r with
  | blk ty cells =>
    obtain ⟨b, cur, h1, h2, h3, h4, h5⟩ := hr
    refine ⟨b, cur, by rw [upd_ne _ _ hq]; exact h1, how b [] h2, by rw [hheap b [] h2]; exact h3, h4, DenL.congr cells _ (fun p hp => upd_ne _ _ ?_) h5⟩
    rintro rfl
    simp only [norefR] at hn
    rw [hn] at hp
    cases hp
  | row e sz n f =>
    rcases hr with ⟨a0, h1, h2⟩ | ⟨b, cap, cur, h1, h2, h3, h4⟩
    · exact .inl ⟨a0, by rw [upd_ne _ _ hq]; exact h1, h2⟩
    · exact .inr ⟨b, cap, cur, by rw [upd_ne _ _ hq]; exact h1, how b [] h2, by rw [hheap b [] h2]; exact h3, h4⟩
  | rowO e sz n f i fs =>
    exact RtOK.rowO_frame hr (Imm.le.refl I) (upd_ne _ _ hq) (fun k => ⟨id, fun p hp => ⟨p, hp, upd_ne _ _ (norefF_look hn k p hp)⟩⟩) fun b p hb => ⟨how b p hb, hheap b p hb⟩
theorem env_name (h : SatAt C s a w I g ow) {d : Nat} (hf : freshE d s.env = true) (v : Value) (t : Nat) : Den I (some (upd g d v)) (look s.env t) (a.tmps.getD t undef) := by
  refine Den.congr _ _ (fun q hq => upd_ne _ _ ?_) (h.env t)
  rintro rfl
  rw [freshE_look hf t] at hq
  cases hq
/-- a new block of the call's own -/
theorem sat_alloc' (h : SatAt C s a w I g ow) {d : Nat} (hd : d < C.nt) (hf : fresh d s = true) {w1 : World} (hw : w1.heap = w.heap) (hw2 : w1.os = w.os) (hw3 : w1.tape = w.tape) (hw4 : w1.output = w.output)
    {cur : Array Value} {e : TypeId} {v : Value} {av : AV} {r : Rt}
    (hv : Den I (some (upd g d v)) av v)
    (hr : ∀ w' ow', w'.heap[w.heap.size]? = some (.cells cur e (0, 0)) → ow' w.heap.size = [d] → (∀ b, b < w.heap.size → w'.heap[b]? = w.heap[b]? ∧ ow' b = ow b) → RtOK I (upd g d v) ow' w' d r) :
    SatAt C ⟨(d, av) :: s.env, (d, r) :: s.rts⟩ (a.put (some d) v) (w1.alloc (.cells cur e)) I (upd g d v) (fun b => if b = w.heap.size then [d] else ow b) := by
  simp only [fresh, Bool.and_eq_true] at hf
  have hsz : w1.heap.size = w.heap.size := by rw [hw]
  have hnew : (w1.alloc (.cells cur e)).heap[w.heap.size]? = some (.cells cur e (0, 0)) := by rw [← hsz]; exact heap_alloc_new w1 _
  have hold : ∀ b, b < w.heap.size → (w1.alloc (.cells cur e)).heap[b]? = w.heap[b]? := fun b hb => by
    rw [heap_push_lt _ _ (by omega), hw]
  refine { defers := h.defers, size := by simpa [Act.put] using h.size, env := ?_, rts := ?_, imm := ?_, one := h.one, sep := ?_, new := ?_, lt := ?_, ile := h.ile, iold := h.iold, os := hw2.trans h.os, tape := hw3.trans h.tape, output := hw4.trans h.output, hsize := ?_, kept := ?_, pin := pin_upd h.pin (Nat.lt_of_lt_of_le hd h.ntb) v, ntb := h.ntb }
  · intro t
    rw [getD_put]
    simp only [look_cons]
    by_cases ht : d = t
    · subst ht
      have : d < a.tmps.size := Nat.lt_of_lt_of_le hd h.size
      simp [this, hv]
    · have := env_name h hf.1 v t
      simpa [ht] using this
  · intro q r' hq
    rw [lookR_cons] at hq
    split at hq
    · rename_i hdq
      subst hdq
      cases hq
      exact hr _ _ hnew (by simp) fun b hb => ⟨hold b hb, if_neg (by omega)⟩
    · obtain ⟨h1, h2⟩ := freshR_look hf.2 q r' hq
      refine RtOK.name (h.rts q r' hq) h1 h2 (fun b p hb => ?_) (fun b p hb => ?_)
      · exact hold b (h.lt b (by rw [hb]; simp))
      · have := h.lt b (by rw [hb]; simp)
        show (if b = w.heap.size then [d] else ow b) = q :: p
        rw [if_neg (by omega)]
        exact hb
  · intro b o u hu
    have := imm_lt h hu
    rw [cell_alloc_lt _ _ (by omega)]
    have := h.imm b o u hu
    simpa [World.cell?, hw] using this
  · intro b hb o
    by_cases hbs : b = w.heap.size
    · cases hi : I b o with
      | none => rfl
      | some u => have := imm_lt h hi; omega
    · exact h.sep b (by simpa [hbs] using hb) o
  · intro b hb
    by_cases hbs : b = w.heap.size
    · exact .inl (by rw [hbs]; exact h.hsize)
    · exact h.new b (by simpa [hbs] using hb)
  · intro b hb
    rw [World.size_alloc, hsz]
    by_cases hbs : b = w.heap.size
    · omega
    · have := h.lt b (by simpa [hbs] using hb)
      omega
  · rw [World.size_alloc, hsz]; have := h.hsize; omega
  · intro b hb hx
    rw [hold b (Nat.lt_of_lt_of_le hb h.hsize)]
    exact h.kept b hb hx
theorem sat_alloc (h : SatAt C s a w I g ow) {d : Nat} (hd : d < C.nt) (hf : fresh d s = true) {w1 : World} (hw : w1.heap = w.heap) (hw2 : w1.os = w.os) (hw3 : w1.tape = w.tape) (hw4 : w1.output = w.output)
    {cur : Array Value} {e : TypeId} {v : Value} {av : AV} {r : Rt}
    (hv : Den I (some (upd g d v)) av v)
    (hr : ∀ w' ow', w'.heap[w.heap.size]? = some (.cells cur e (0, 0)) → ow' w.heap.size = [d] → RtOK I (upd g d v) ow' w' d r) :
    SatAt C ⟨(d, av) :: s.env, (d, r) :: s.rts⟩ (a.put (some d) v) (w1.alloc (.cells cur e)) I (upd g d v) (fun b => if b = w.heap.size then [d] else ow b) :=
  sat_alloc' h hd hf hw hw2 hw3 hw4 hv fun w' ow' h1 h2 _ => hr w' ow' h1 h2
/-- the operation as a step of a walk: what it leaves -/
def Leads (P : Program) (o : Oper) (a : Act) (w : World) (R : Act → World → Prop) : Prop :=
  ∃ n w', (execOp a.eval o).run P w = .ok n w' ∧ ((∃ v, n = .value v ∧ R (a.put o.dst v) w') ∨ (n = .skip ∧ R (a.put o.dst undef) w'))
theorem Leads.wp {o : Oper} {R K : Act → World → Prop} {Q : Exit → Act → World → Prop} (h : Leads P o a w R) (hK : ∀ a' w', R a' w' → K a' w') : o.wp P a w K Q := by
  obtain ⟨n, w', h1, h2⟩ := h
  unfold Oper.wp
  rw [h1]
  rcases h2 with ⟨v, rfl, hr⟩ | ⟨rfl, hr⟩ <;> exact hK _ _ hr
theorem one_den {β : Option (Nat → Value)} {av : AV} {u : Value} (h : Den I β av u) (ho : one av = true) : u.oneCell' = true := by
  cases av <;> simp only [one, reduceCtorEq] at ho
  case int => cases h; rfl
  case bool => cases h; rfl
  case str => cases h; rfl
  case nilp => cases h; rfl
  case nils => cases h; rfl
  case nilfn => cases h; rfl
  case nilif => cases h; rfl
  case emp => obtain ⟨_, rfl⟩ := h; rfl
  case ans => obtain ⟨_, _, _, rfl⟩ := h; rfl
  case sl => obtain ⟨_, _, rfl, _⟩ := h; rfl
  case ref => obtain ⟨_, _, _, _, _, _, rfl⟩ := h; rfl
  case loc => obtain ⟨_, _, _, _, rfl⟩ := h; rfl
  case locE => obtain ⟨_, _, _, _, _, _, rfl⟩ := h; rfl
  case ptr => obtain ⟨_, _, _, rfl, _⟩ := h; rfl
  case fn => obtain ⟨_, rfl, _⟩ := h; rfl
  case iface => obtain ⟨_, rfl, _⟩ := h; rfl
theorem oneL_den {β : Option (Nat → Value)} : ∀ {xs : List AV} {us : List Value}, DenL I β xs us → oneL xs = true → ∀ u ∈ us, u.oneCell' = true
  | [], _, e, _ => by cases e; simp
  | x :: xs, _, ⟨v, ws, e, d, r⟩, ho => by
    subst e
    simp only [oneL, Bool.and_eq_true] at ho
    intro u hu
    rcases List.mem_cons.1 hu with rfl | hu
    · exact one_den d ho.1
    · exact oneL_den r ho.2 u hu
theorem noref_cav0 (d : Nat) (v : Value) : noref d (cav0 v) = true := by
  unfold cav0
  split <;> rfl
theorem norefL_cav0 (d : Nat) : ∀ l : List Value, norefL d (l.map cav0) = true
  | [] => rfl
  | v :: r => by simp only [List.map_cons, norefL, noref_cav0, norefL_cav0 d r, Bool.and_self]
theorem noref_cav (d : Nat) (v : Value) : noref d (cav v) = true := by
  unfold cav
  split
  · exact norefL_cav0 d _
  · exact norefL_cav0 d _
  · exact noref_cav0 d _
theorem noref_x {d : Nat} (hf : fresh d s = true) (x : Operand) : noref d (xv s (xop x)) = true := by
  simp only [fresh, Bool.and_eq_true] at hf
  cases x with
  | tmp t => exact freshE_look hf.1 t
  | const v => exact noref_cav d v
  | global b => rfl
  | func f => rfl
theorem noref_und {d : Nat} {v : AV} (h : noref d v = true) : noref d (und v) = true := by
  cases v <;> exact h
theorem norefL_cells {d : Nat} {v : AV} (h : noref d v = true) : norefL d (cellsOf v) = true := by
  cases v <;> simp only [cellsOf, norefL] <;> first | rfl | exact h | (rw [h]; rfl)
theorem norefL_fresh {d : Nat} (hf : fresh d s = true) (x : Operand) : norefL d (cellsOf (und (xv s (xop x)))) = true := norefL_cells (noref_und (noref_x hf x))
theorem box_sound (h : SatAt C s a w I g ow) {o : Oper} {d : Nat} {e : TypeId} {x : Operand} (hop : o.op = .box e x) (hdst : o.dst = some d) (hd : d < C.nt) {n : Nat} (hn : 0 < n) {s' : St} {ob : List Prop}
    (he : ef s (.box d e n (xop x)) = .ok s' ob) (hob : allP ob) : Leads P o a w fun a' w' => Sat C s' a' w' := by
  obtain ⟨env, rts⟩ := s
  simp only [ef, foL_eq] at he
  cases hc : (fresh d ⟨env, rts⟩ && (Nat.beq (cellsOf (und (xv ⟨env, rts⟩ (xop x)))).length n && oneL (cellsOf (und (xv ⟨env, rts⟩ (xop x)))))) with
  | false => simp [hc] at he
  | true =>
    simp only [hc, cond_true, Res.ok.injEq] at he
    obtain ⟨rfl, rfl⟩ := he
    simp only [Bool.and_eq_true] at hc
    have hden := x_den h x hob
    have hcd := cellsOf_den hden hn (beq_iff.1 hc.2.1)
    have hone := oneL_den hcd hc.2.2
    refine ⟨_, _, by simp [execOp, hop, Instr.box, newVar, newRow]; exact ⟨rfl, rfl⟩, .inl ⟨_, rfl, ?_⟩⟩
    rw [hdst]
    refine ⟨I, _, _, sat_alloc h hd hc.1 (w1 := w) rfl rfl rfl rfl (cur := (a.eval x).cells) (e := e) (v := .pointer (some ⟨w.heap.size, 0, none⟩)) ?_ ?_⟩
    · exact ⟨_, w.heap.size, rfl, upd_same _ _ _, rfl⟩
    · intro w' ow' hw' how
      refine ⟨w.heap.size, _, upd_same _ _ _, how, hw', hone, DenL.congr _ _ (fun q hq => upd_ne _ _ ?_) hcd⟩
      rintro rfl
      rw [norefL_fresh hc.1 x] at hq
      cases hq

theorem alloc_sound (h : SatAt C s a w I g ow) {o : Oper} {d : Nat} {e : TypeId} (hop : o.op = .alloc e) (hdst : o.dst = some d) (hd : d < C.nt) (hz : zeroOk P e = true) {s' : St} {ob : List Prop}
    (he : ef s (.alloc d e ((zeroT P e).map cav0)) = .ok s' ob) : Leads P o a w fun a' w' => Sat C s' a' w' := by
  obtain ⟨env, rts⟩ := s
  simp only [ef] at he
  cases hc : (fresh d ⟨env, rts⟩ && isPureL ((zeroT P e).map cav0)) with
  | false => simp [hc] at he
  | true =>
    simp only [hc, cond_true, Res.ok.injEq] at he
    obtain ⟨rfl, rfl⟩ := he
    simp only [Bool.and_eq_true] at hc
    obtain ⟨i, z, hi, hz1, hz2, hz3, hz4, _, hone⟩ := zero_cells hz
    have hzv : ∀ w, (zeroValue e).run P w = .ok z w := fun w => by simp [zeroValue, typeInfo, hi, hz1]
    refine ⟨_, _, by simp [execOp, hop, Instr.alloc, hzv, newVar, newRow]; exact ⟨rfl, rfl⟩, .inl ⟨_, rfl, ?_⟩⟩
    rw [hdst]
    refine ⟨I, _, _, sat_alloc h hd hc.1 (w1 := w) rfl rfl rfl rfl (cur := z.cells) (e := e) (v := .pointer (some ⟨w.heap.size, 0, none⟩)) ?_ ?_⟩
    · exact ⟨_, w.heap.size, rfl, upd_same _ _ _, rfl⟩
    · intro w' ow' hw' how
      refine ⟨w.heap.size, _, upd_same _ _ _, how, hw', by rw [hz2]; exact hone, by rw [hz2]; exact cav0s_den I _ _⟩
/-- the values of the parts of a slice literal, cell by cell -/
theorem bslL_sound (h : SatAt C s a w I g ow) {sz : Nat} (hsz : 0 < sz) : ∀ (ps : List (Nat × Operand)) (k : Nat) (ob : List Prop) (K : List (List AV) → List Prop → Res) {s' : St} {ob' : List Prop},
    bslL s sz (ps.map fun (i, x) => (i, xop x)) k ob K = .ok s' ob' →
    ∃ l ob1, K l ob1 = .ok s' ob' ∧ l.length = ps.length ∧ (allP ob1 → allP ob ∧
      (∀ j p, ps[j]? = some p → p.1 = k + j) ∧ DenL I none l.flatten (ps.flatMap fun p => (a.eval p.2).cells.toList) ∧ (∀ u ∈ ps.flatMap (fun p => (a.eval p.2).cells.toList), u.oneCell' = true) ∧
      (∀ p ∈ ps, (a.eval p.2).cells.size = sz) ∧ (∀ c ∈ l, c.length = sz)) := by
  intro ps
  induction ps with
  | nil => intro k ob K s' ob' he; exact ⟨[], ob, he, rfl, fun hb => ⟨hb, by simp, rfl, by simp, by simp, by simp⟩⟩
  | cons p ps ih =>
    obtain ⟨i, x⟩ := p
    intro k ob K s' ob' he
    simp only [List.map_cons, bslL, foL_eq] at he
    generalize hcs : cellsOf (und (xv s (xop x))) = cs at he
    cases hc : (Nat.beq k i && (Nat.beq cs.length sz && (isPureL cs && oneL cs))) with
    | false => simp [hc] at he
    | true =>
      simp only [hc, cond_true] at he
      simp only [Bool.and_eq_true] at hc
      obtain ⟨l, ob1, h1, h2, h3⟩ := ih (k + 1) _ _ he
      refine ⟨cs :: l, ob1, h1, by simp [h2], fun hb => ?_⟩
      obtain ⟨hb1, h4, h5, h6, h7, h8⟩ := h3 hb
      rw [allP_append] at hb1
      have hden := x_den h x hb1.1
      have hlen : cs.length = sz := beq_iff.1 hc.2.1
      have hcd := cellsOf_den hden hsz (by rw [hcs]; exact hlen)
      rw [hcs] at hcd
      have hone := oneL_den hcd hc.2.2.2
      have hpure := DenL.unref _ _ hc.2.2.1 hcd
      refine ⟨hb1.2, ?_, ?_, ?_, ?_, ?_⟩
      · intro j p hp
        cases j with
        | zero => simp at hp; subst hp; exact (beq_iff.1 hc.1).symm
        | succ j => have := h4 j p (by simpa using hp); omega
      · simp only [List.flatten_cons, List.flatMap_cons]
        exact hpure.append h5
      · intro u hu
        simp only [List.flatMap_cons, List.mem_append] at hu
        rcases hu with hu | hu
        · exact hone u hu
        · exact h6 u hu
      · intro p hp
        rcases List.mem_cons.1 hp with rfl | hp
        · rw [← Array.length_toList, ← hcd.length]; exact hlen
        · exact h7 p hp
      · intro c hc'
        rcases List.mem_cons.1 hc' with rfl | hc'
        · exact hlen
        · exact h8 c hc'

theorem bsl_fill {sz : Nat} : ∀ (ps : List (Nat × Value)) (k : Nat) (cells : Array Value), (∀ j p, ps[j]? = some p → p.1 = k + j) → (∀ p ∈ ps, p.2.cells.size = sz) → (k + ps.length) * sz ≤ cells.size →
    Instr.fill (fun i => some (i * sz, sz)) cells ps = some ⟨cells.toList.take (k * sz) ++ ps.flatMap (fun p => p.2.cells.toList) ++ cells.toList.drop ((k + ps.length) * sz)⟩
  | [], k, cells, _, _, _ => by
    simp only [Instr.fill, List.flatMap_nil, List.append_nil, List.length_nil, Nat.add_zero, List.take_append_drop]
  | (i, v) :: ps, k, cells, hi, hs, hl => by
    have h0 : i = k := by have := hi 0 (i, v) rfl; simpa using this
    subst h0
    have hv : v.cells.size = sz := hs (i, v) (List.mem_cons_self ..)
    have hle : (i + 1) * sz ≤ cells.size := by
      refine Nat.le_trans (Nat.mul_le_mul_right sz ?_) hl
      simp only [List.length_cons]; omega
    have hle2 : i * sz + sz ≤ cells.size := by rw [Nat.add_mul, Nat.one_mul] at hle; exact hle
    rw [fill_cell (off := i * sz) (n := sz) rfl hv (by rw [hv]; exact hle2)]
    have hvl : v.cells.toList.length = sz := by rw [Array.length_toList]; exact hv
    have hlt : (cells.toList.take (i * sz)).length = i * sz := by rw [List.length_take, Array.length_toList]; omega
    have hN : (cells.toList.take (i * sz) ++ v.cells.toList ++ cells.toList.drop (i * sz + v.cells.toList.length)).length = cells.size := by
      rw [List.length_append, List.length_append, hlt, hvl, List.length_drop, Array.length_toList]; omega
    rw [bsl_fill ps (i + 1) _ (fun j p hp => by have := hi (j + 1) p (by simpa using hp); omega) (fun p hp => hs p (List.mem_cons_of_mem _ hp)) (by
      show _ ≤ (cells.toList.take (i * sz) ++ v.cells.toList ++ cells.toList.drop (i * sz + v.cells.toList.length)).length
      rw [hN]
      have e1 : (i + 1 + ps.length) * sz = (i + (ps.length + 1)) * sz := by congr 1; omega
      rw [e1]
      exact hl)]
    congr 1
    congr 1
    have e1 : (cells.toList.take (i * sz) ++ v.cells.toList ++ cells.toList.drop (i * sz + v.cells.toList.length)).take ((i + 1) * sz) = cells.toList.take (i * sz) ++ v.cells.toList := by
      have : (i + 1) * sz = (cells.toList.take (i * sz) ++ v.cells.toList).length := by rw [List.length_append, hlt, hvl, Nat.add_mul, Nat.one_mul]
      rw [this, List.take_left]
    have e2 : (cells.toList.take (i * sz) ++ v.cells.toList ++ cells.toList.drop (i * sz + v.cells.toList.length)).drop ((i + 1 + ps.length) * sz) = cells.toList.drop ((i + (ps.length + 1)) * sz) := by
      have hw : (i + 1 + ps.length) * sz = (cells.toList.take (i * sz) ++ v.cells.toList).length + ps.length * sz := by
        rw [List.length_append, hlt, hvl, Nat.add_mul, Nat.add_mul, Nat.one_mul]
      rw [hw, List.drop_length_add_append, hvl, List.drop_drop]
      congr 1
      rw [Nat.add_mul, Nat.add_mul, Nat.one_mul]
      omega
    rw [e1, e2]
    simp [List.flatMap_cons]
theorem nth_eq : ∀ (l : List (List AV)) (i : Nat), nth l i = l[i]?.getD []
  | [], _ => by simp [nth]
  | _ :: _, 0 => by simp [nth]
  | _ :: r, i + 1 => by simp [nth, nth_eq r i]
/-- rows of sz cells, one behind the other -/
theorem flat_row {β : Option (Nat → Value)} {sz : Nat} : ∀ {l : List (List AV)} {us : List Value}, DenL I β l.flatten us → (∀ c ∈ l, c.length = sz) → ∀ i, i < l.length → DenL I β (l[i]?.getD []) ((us.drop (i * sz)).take sz)
  | [], _, _, _, i, hi => by simp at hi
  | c :: l, us, h, hs, i, hi => by
    have hc : c.length = sz := hs c (List.mem_cons_self ..)
    cases i with
    | zero =>
      have := (h.take sz)
      simp only [List.flatten_cons] at this
      rw [show List.take sz (c ++ l.flatten) = c by rw [← hc, List.take_left]] at this
      simpa using this
    | succ i =>
      have := h.drop sz
      simp only [List.flatten_cons] at this
      rw [show List.drop sz (c ++ l.flatten) = l.flatten by rw [← hc, List.drop_left]] at this
      have := flat_row this (fun c hc => hs c (List.mem_cons_of_mem _ hc)) i (by simpa using hi)
      rw [List.drop_drop] at this
      simp only [List.getElem?_cons_succ]
      rw [Nat.add_mul, Nat.one_mul, Nat.add_comm]
      exact this
theorem Res.or_ok {x y : Res} {s' : St} {ob : List Prop} (h : Res.or x y = .ok s' ob) : x = .ok s' ob ∨ (x = .no ∧ y = .ok s' ob) := by
  cases x with
  | ok => exact .inl h
  | no => exact .inr ⟨rfl, h⟩
theorem bsl_run {o : Oper} {len : Nat} {t e : TypeId} {ps : Array (Nat × Operand)} (hop : o.op = .buildSlice t len ps)
    (ht : P.underlying t = some (.slice e)) (hz : zeroOk P e = true) (hl : len * sizeT P e ≤ 16777216) (hlen : ps.toList.length = len) (h4 : ∀ (j : Nat) (p : Nat × Operand), ps.toList[j]? = some p → p.1 = j) (h7 : ∀ p ∈ ps.toList, (a.eval p.2).cells.size = sizeT P e) :
    (execOp a.eval o).run P w = .ok (.value (.slice (some ⟨w.heap.size, 0, none⟩) len len)) (w.alloc (.cells ⟨ps.toList.flatMap fun p => (a.eval p.2).cells.toList⟩ e)) := by
  obtain ⟨i, z, hi, hz1, hz2, hz3, hz4, _, hone⟩ := zero_cells hz
  have hzv : ∀ w, (zeroValue e).run P w = .ok z w := fun w => by simp [zeroValue, typeInfo, hi, hz1]
  have hso : ∀ w, (sizeOf e).run P w = .ok (sizeT P e) w := fun w => by simp [sizeOf, typeInfo, hi, hz3]
  obtain ⟨cells0, hcells0⟩ : ∃ c, c = (Array.range (len * sizeT P e)).map (fun x => (if len * sizeT P e = 0 then (#[] : Array Value) else z.cells)[x % (if len * sizeT P e = 0 then (#[] : Array Value) else z.cells).size]!) := ⟨_, rfl⟩
  have hc0 : cells0.size = len * sizeT P e := by rw [hcells0]; simp
  obtain ⟨vs, hvs⟩ : ∃ vs, vs = ps.toList.map (fun p => (p.1, a.eval p.2)) := ⟨_, rfl⟩
  have hvl : vs.length = len := by rw [hvs, List.length_map, hlen]
  have hfill := bsl_fill (sz := sizeT P e) vs 0 cells0 (fun j p hp => by
    rw [hvs, List.getElem?_map] at hp
    cases hq : ps.toList[j]? with
    | none => rw [hq] at hp; cases hp
    | some q => rw [hq] at hp; cases hp; rw [Nat.zero_add]; exact h4 j q hq) (fun p hp => by
    rw [hvs] at hp
    obtain ⟨q, hq, rfl⟩ := List.mem_map.1 hp
    exact h7 q hq) (by rw [Nat.zero_add, hvl, hc0]; exact Nat.le_refl _)
  rw [Nat.zero_add, Nat.zero_mul, List.take_zero, List.nil_append, hvl, ← hc0, ← Array.length_toList, List.drop_length, List.append_nil] at hfill
  have hflat : vs.flatMap (fun p => p.2.cells.toList) = ps.toList.flatMap fun p => (a.eval p.2).cells.toList := by rw [hvs, List.flatMap_map]
  rw [hflat] at hfill
  obtain ⟨fl, hfl⟩ : ∃ fl, fl = ps.toList.flatMap fun p => (a.eval p.2).cells.toList := ⟨_, rfl⟩
  rw [← hfl] at hfill ⊢
  have hbig : ¬ (len * sizeT P e > 2 ^ 24) := by omega
  by_cases h0 : len * sizeT P e = 0
  · simp only [h0, if_true] at hcells0
    have hf2 := hfill
    rw [show cells0 = Array.map (fun _ => (default : Value)) (Array.range 0) from by rw [hcells0]; simp, hvs] at hf2
    simp [execOp, hop, Instr.buildSlice, underlying, ht, hso, h0, newRow, hf2]
  · simp only [h0, if_false] at hcells0
    have hf2 := hfill
    rw [hcells0, hvs] at hf2
    simp [execOp, hop, Instr.buildSlice, underlying, ht, hso, h0, hbig, newRow, hzv, hf2]
theorem rt_give {p r : Nat} {x : Rt} (hr : RtOK I g ow w p x) (hpr : p ≠ r) (path : List Nat) : RtOK I g (fun b => if ow b = [r] then path else ow b) w p x := by
  have how : ∀ b p', ow b = p :: p' → (if ow b = [r] then path else ow b) = p :: p' := by
    intro b p' hb
    rw [if_neg]
    · exact hb
    · rw [hb]; intro e; injection e with e _; exact hpr e
  cases x with
  | blk ty cells =>
    obtain ⟨b, cur, h1, h2, h3, h4⟩ := hr
    exact ⟨b, cur, h1, how b [] h2, h3, h4⟩
  | row e sz n f =>
    rcases hr with h | ⟨b, cap, cur, h1, h2, h3, h4⟩
    · exact .inl h
    · exact .inr ⟨b, cap, cur, h1, how b [] h2, h3, h4⟩
  | rowO e sz n f i fs => exact RtOK.rowO_frame hr (Imm.le.refl I) rfl (fs_same fs g) fun b p hb => ⟨how b p hb, rfl⟩
theorem freshR_eraseR {d : Nat} (q : Nat) : ∀ {l : List (Nat × Rt)}, freshR d l = true → freshR d (eraseR q l) = true
  | [], _ => rfl
  | (k, v) :: r, h => by
    simp only [freshR, Bool.and_eq_true] at h
    simp only [eraseR]
    cases hb : Nat.beq k q
    · simp only [cond_false, freshR, Bool.and_eq_true]
      exact ⟨h.1, h.2.1, freshR_eraseR q h.2.2⟩
    · simp only [cond_true]
      exact freshR_eraseR q h.2.2
theorem cellOK_pure {path : Nat → List Nat} {k : Nat} {x : AV} {v : Value} (h : Den I none x v) : CellOK I g ow w path [] k x v := by
  unfold CellOK
  simp only [lookF]
  cases x with
  | own => exact absurd h (by simp [Den])
  | _ => exact h
/-- rows are handed to the cells that name them -/
theorem ownL_sound {d : Nat} : ∀ (cs : List AV) {rts : List (Nat × Rt)} {env : List (Nat × AV)} {ow : Nat → List Nat} {k : Nat} {us : List Value} {cs' : List AV} {rts' : List (Nat × Rt)}, SatAt C ⟨env, rts⟩ a w I g ow → DenL I (some g) cs us → ownL rts cs = some (cs', rts') → freshR d rts = true →
    ∃ ow', SatAt C ⟨env, rts'⟩ a w I g ow' ∧ CellsOK I g ow' w (fun k => [d, 0, k]) [] k cs' us ∧ freshR d rts' = true ∧ ∀ b x y z, ow b = [x, y, z] → ow' b = [x, y, z]
  | [], rts, env, ow, k, us, cs', rts', h, hd, he, hf => by
    simp only [ownL, Option.some.injEq, Prod.mk.injEq] at he
    obtain ⟨rfl, rfl⟩ := he
    exact ⟨ow, h, hd, hf, fun _ _ _ _ h => h⟩
  | c :: cs, rts, env, ow, k, us, cs', rts', h, ⟨u, us', e, d1, d2⟩, he, hf => by
    subst e
    have pureCase : isPure c = true → (match ownL rts cs with | some (cs', rts') => some (c :: cs', rts') | none => none) = some (cs', rts') → ∃ ow', SatAt C ⟨env, rts'⟩ a w I g ow' ∧ CellsOK I g ow' w (fun k => [d, 0, k]) [] k cs' (u :: us') ∧ freshR d rts' = true ∧ ∀ b x y z, ow b = [x, y, z] → ow' b = [x, y, z] := by
      intro hp he
      split at he <;> first | (cases he; done) | skip
      rename_i c1 r1 h1
      simp only [Option.some.injEq, Prod.mk.injEq] at he
      obtain ⟨rfl, rfl⟩ := he
      obtain ⟨ow', k1, k2, k3, k4⟩ := ownL_sound cs (k := k + 1) h d2 h1 hf
      exact ⟨ow', k1, ⟨u, us', rfl, cellOK_pure (Den.unref _ _ hp d1), k2⟩, k3, k4⟩
    cases c
    case ref r =>
      simp only [ownL] at he
      split at he <;> first | (cases he; done) | skip
      rename_i e sz n hh hr
      split at he <;> first | (cases he; done) | skip
      rename_i c1 r1 h1
      simp only [Option.some.injEq, Prod.mk.injEq] at he
      obtain ⟨rfl, rfl⟩ := he
      obtain ⟨ow1, how1⟩ : ∃ o : Nat → List Nat, o = fun b => if ow b = [r] then [d, 0, k] else ow b := ⟨_, rfl⟩
      have hne : ∀ b, ow1 b ≠ [] → ow b ≠ [] := by
        intro b hb he
        rw [how1] at hb
        simp [he] at hb
      have hs1 : SatAt C ⟨env, eraseR r rts⟩ a w I g ow1 := { h with
        rts := fun p x hp => by
          have hp : lookR (eraseR r rts) p = some x := hp
          rw [lookR_eraseR] at hp
          split at hp
          · cases hp
          · rename_i hrp
            rw [how1]
            exact rt_give (h.rts p x hp) (fun e => hrp e.symm) _
        sep := fun b hb => h.sep b (hne b hb)
        new := fun b hb => h.new b (hne b hb)
        lt := fun b hb => h.lt b (hne b hb) }
      obtain ⟨ow', k1, k2, k3, k4⟩ := ownL_sound cs (k := k + 1) hs1 d2 h1 (freshR_eraseR r hf)
      have h3 : ∀ b x y z, ow b = [x, y, z] → ow1 b = [x, y, z] := by
        intro b x y z hb
        rw [how1]
        simp only
        rw [if_neg (by rw [hb]; simp)]
        exact hb
      refine ⟨ow', k1, ⟨u, us', rfl, ?_, k2⟩, k3, fun b x y z hb => k4 b x y z (h3 b x y z hb)⟩
      obtain ⟨g', hg, hu, _⟩ := d1
      cases hg
      unfold CellOK
      simp only [lookF]
      rw [hu]
      rcases h.rts r _ hr with ⟨a0, l1, l2⟩ | ⟨b, cap, cur, l1, l2, l3, l4⟩
      · exact .inl ⟨a0, l1, l2⟩
      · exact .inr ⟨b, cap, cur, l1, k4 b d 0 k (by rw [how1]; simp [l2]), l3, l4⟩
    all_goals
      (simp only [ownL] at he
       cases hp : isPure _ with
       | false => rw [hp] at he; cases he
       | true => rw [hp] at he; exact pureCase hp he)
theorem bslO_sound {env : List (Nat × AV)} {rts : List (Nat × Rt)} (h : SatAt C ⟨env, rts⟩ a w I g ow) {o : Oper} {d len : Nat} {t e : TypeId} {ps : Array (Nat × Operand)} (hop : o.op = .buildSlice t len ps) (hdst : o.dst = some d) (hd : d < C.nt)
    (ht : P.underlying t = some (.slice e)) (hz : zeroOk P e = true) (hsz : 0 < sizeT P e) (hl : len * sizeT P e ≤ 16777216) (hf : fresh d ⟨env, rts⟩ = true) {s' : St} {ob : List Prop}
    (he : bslO env rts d e (sizeT P e) len (ps.toList.map fun (i, x) => (i, xop x)) = .ok s' ob) (hob : allP ob) : Leads P o a w fun a' w' => Sat C s' a' w' := by
  obtain ⟨pl, hpl⟩ : ∃ pl, pl = ps.toList := ⟨_, rfl⟩
  rw [← hpl] at he
  rcases pl with _ | ⟨⟨i, x⟩, _ | ⟨p2, rest⟩⟩
  · simp [bslO] at he
  · simp only [List.map_cons, List.map_nil, bslO] at he
    cases hc : (Nat.beq len 1 && Nat.beq i 0) with
    | false => simp [hc] at he
    | true =>
      simp only [hc, cond_true, foL_eq] at he
      simp only [Bool.and_eq_true] at hc
      cases beq_iff.1 hc.1
      cases beq_iff.1 hc.2
      cases hc2 : (Nat.beq (cellsOf (und (xv ⟨env, rts⟩ (xop x)))).length (sizeT P e) && oneL (cellsOf (und (xv ⟨env, rts⟩ (xop x))))) with
      | false => simp [hc2] at he
      | true =>
        simp only [hc2, cond_true] at he
        simp only [Bool.and_eq_true] at hc2
        split at he <;> first | (cases he; done) | skip
        rename_i cs' rts' hown
        simp only [Res.mk_eq, Res.ok.injEq] at he
        obtain ⟨rfl, rfl⟩ := he
        have hden := x_den h x hob
        have hcd := cellsOf_den hden hsz (beq_iff.1 hc2.1)
        have hone := oneL_den hcd hc2.2
        have hus : (a.eval x).cells.size = sizeT P e := by rw [← Array.length_toList, ← hcd.length]; exact beq_iff.1 hc2.1
        simp only [fresh, Bool.and_eq_true] at hf
        obtain ⟨ow', k1, k2, k3, k4⟩ := ownL_sound (d := d) (k := 0) _ h hcd hown hf.2
        have hrun := bsl_run (a := a) (w := w) hop ht hz hl (by rw [← hpl]; rfl) (fun j p hp => by
          rw [← hpl] at hp
          cases j with
          | zero => simp at hp; subst hp; rfl
          | succ j => simp at hp) (fun p hp => by
          rw [← hpl] at hp
          simp at hp
          subst hp
          exact hus)
        rw [← hpl] at hrun
        simp only [List.flatMap_cons, List.flatMap_nil, List.append_nil] at hrun
        refine ⟨_, _, hrun, .inl ⟨_, rfl, ?_⟩⟩
        rw [hdst]
        refine ⟨I, _, _, sat_alloc' k1 hd (by simp only [fresh, Bool.and_eq_true]; exact ⟨hf.1, k3⟩) (w1 := w) rfl rfl rfl rfl (cur := ⟨(a.eval x).cells.toList⟩) (e := e) (v := .slice (some ⟨w.heap.size, 0, none⟩) 1 1) ⟨_, rfl, (upd_same _ _ _).symm, _, _, _, rfl⟩ ?_⟩
        intro w' ow2 hw' how hold
        refine .inr ⟨w.heap.size, 1, _, upd_same _ _ _, how, hw', Nat.le_refl _, by unfold maxLen; omega, by simpa using hus, hone, fun j hj => ?_⟩
        have hj0 : j = 0 := by omega
        subst hj0
        simp only [Nat.zero_mul, List.drop_zero, if_true]
        rw [List.take_of_length_le (by simpa using Nat.le_of_eq hus)]
        refine CellsOK.frame (Imm.le.refl I) (fun k => ⟨fun _ => rfl, fun p hp => by simp [lookF] at hp⟩) (fun k b hb => ?_) k2
        have hlt := k1.lt b (by rw [hb]; simp)
        exact ⟨(hold b hlt).2.trans hb, (hold b hlt).1⟩
  · simp [bslO] at he
theorem bsl_sound (h : SatAt C s a w I g ow) {o : Oper} {d len : Nat} {t e : TypeId} {ps : Array (Nat × Operand)} (hop : o.op = .buildSlice t len ps) (hdst : o.dst = some d) (hd : d < C.nt)
    (ht : P.underlying t = some (.slice e)) (hz : zeroOk P e = true) (hsz : 0 < sizeT P e) (hl : len * sizeT P e ≤ 16777216) {s' : St} {ob : List Prop}
    (he : ef s (.bsl d e (sizeT P e) len (ps.toList.map fun (i, x) => (i, xop x))) = .ok s' ob) (hob : allP ob) : Leads P o a w fun a' w' => Sat C s' a' w' := by
  obtain ⟨env, rts⟩ := s
  simp only [ef] at he
  cases hc : fresh d ⟨env, rts⟩ with
  | false => simp [hc] at he
  | true =>
    simp only [hc, cond_true] at he
    rcases Res.or_ok he with he | ⟨-, he⟩
    case inr => exact bslO_sound h hop hdst hd ht hz hsz hl hc he hob
    obtain ⟨l, ob1, h1, h2, h3⟩ := bslL_sound h hsz ps.toList 0 [] _ he
    cases hn : Nat.beq l.length len with
    | false => simp [hn] at h1
    | true =>
      simp only [hn, cond_true, Res.ok.injEq] at h1
      obtain ⟨rfl, rfl⟩ := h1
      obtain ⟨-, h4, h5, h6, h7, h8⟩ := h3 hob
      have hll : l.length = len := beq_iff.1 hn
      obtain ⟨i, z, hi, hz1, hz2, hz3, hz4, _, hone⟩ := zero_cells hz
      have hzv : ∀ w, (zeroValue e).run P w = .ok z w := fun w => by simp [zeroValue, typeInfo, hi, hz1]
      have hso : ∀ w, (sizeOf e).run P w = .ok (sizeT P e) w := fun w => by simp [sizeOf, typeInfo, hi, hz3]
      obtain ⟨cells0, hcells0⟩ : ∃ c, c = (Array.range (len * sizeT P e)).map (fun x => (if len * sizeT P e = 0 then (#[] : Array Value) else z.cells)[x % (if len * sizeT P e = 0 then (#[] : Array Value) else z.cells).size]!) := ⟨_, rfl⟩
      have hc0 : cells0.size = len * sizeT P e := by rw [hcells0]; simp
      obtain ⟨vs, hvs⟩ : ∃ vs, vs = ps.toList.map (fun p => (p.1, a.eval p.2)) := ⟨_, rfl⟩
      have hvl : vs.length = len := by rw [hvs, List.length_map, ← h2, hll]
      have hfill := bsl_fill (sz := sizeT P e) vs 0 cells0 (fun j p hp => by
        rw [hvs, List.getElem?_map] at hp
        cases hq : ps.toList[j]? with
        | none => rw [hq] at hp; cases hp
        | some q => rw [hq] at hp; cases hp; exact h4 j q hq) (fun p hp => by
        rw [hvs] at hp
        obtain ⟨q, hq, rfl⟩ := List.mem_map.1 hp
        exact h7 q hq) (by rw [Nat.zero_add, hvl, hc0]; exact Nat.le_refl _)
      rw [Nat.zero_add, Nat.zero_mul, List.take_zero, List.nil_append, hvl, ← hc0, ← Array.length_toList, List.drop_length, List.append_nil] at hfill
      have hflat : vs.flatMap (fun p => p.2.cells.toList) = ps.toList.flatMap fun p => (a.eval p.2).cells.toList := by rw [hvs, List.flatMap_map]
      rw [hflat] at hfill
      obtain ⟨fl, hfl⟩ : ∃ fl, fl = ps.toList.flatMap fun p => (a.eval p.2).cells.toList := ⟨_, rfl⟩
      rw [← hfl] at hfill h5 h6
      have hfs : fl.length = len * sizeT P e := by
        rw [← h5.length, List.length_flatten]
        have : l.map List.length = List.replicate len (sizeT P e) := by
          rw [← hll]
          exact List.eq_replicate_iff.2 ⟨by simp, fun b hb => by obtain ⟨c, hc, rfl⟩ := List.mem_map.1 hb; exact h8 c hc⟩
        rw [this]
        simp
      have hbig : ¬ (len * sizeT P e > 2 ^ 24) := by omega
      have hrun : (execOp a.eval o).run P w = .ok (.value (.slice (some ⟨w.heap.size, 0, none⟩) len len)) (w.alloc (.cells ⟨fl⟩ e)) := by
        by_cases h0 : len * sizeT P e = 0
        · simp only [h0, if_true] at hcells0
          have hf2 := hfill
          rw [show cells0 = Array.map (fun _ => (default : Value)) (Array.range 0) from by rw [hcells0]; simp, hvs] at hf2
          simp [execOp, hop, Instr.buildSlice, underlying, ht, hso, h0, newRow, hf2]
        · simp only [h0, if_false] at hcells0
          have hf2 := hfill
          rw [hcells0, hvs] at hf2
          simp [execOp, hop, Instr.buildSlice, underlying, ht, hso, h0, hbig, newRow, hzv, hf2]
      refine ⟨_, _, hrun, .inl ⟨_, rfl, ?_⟩⟩
      rw [hdst]
      refine ⟨I, _, _, sat_alloc h hd hc (w1 := w) rfl rfl rfl rfl (cur := ⟨fl⟩) (e := e) (v := .slice (some ⟨w.heap.size, 0, none⟩) len len) ?_ ?_⟩
      · exact ⟨_, rfl, (upd_same _ _ _).symm, _, _, _, rfl⟩
      · intro w' ow' hw' how
        refine .inr ⟨w.heap.size, len, _, upd_same _ _ _, how, hw', Nat.le_refl _, by unfold maxLen; have := Nat.le_mul_of_pos_right len hsz; omega, by simpa using hfs, h6, fun j hj => ?_⟩
        rw [nth_eq]
        exact flat_row h5 h8 j (by omega)
theorem made_row {z : Array Value} {sz : Nat} (hz : z.size = sz) (_h0 : 0 < sz) {n i : Nat} (hi : i < n) : ((madeCells z (n * sz)).toList.drop (i * sz)).take sz = z.toList := by
  have hle : i * sz + sz ≤ n * sz := by rw [← Nat.succ_mul]; exact Nat.mul_le_mul_right sz hi
  apply List.ext_getElem?
  intro j
  rw [List.getElem?_take, List.getElem?_drop]
  by_cases hj : j < sz
  · rw [if_pos hj]
    have h1 : i * sz + j < n * sz := by omega
    have h2 : (i * sz + j) % z.size = j := by rw [hz, Nat.mul_comm, Nat.mul_add_mod, Nat.mod_eq_of_lt hj]
    have hjz : j < z.size := by omega
    simp only [madeCells, Array.getElem?_toList, Array.getElem?_map, Array.getElem?_range, h1, if_true, Option.map_some, h2, getElem!_pos z j hjz]
    rw [Array.getElem?_eq_getElem hjz]
  · rw [if_neg hj, List.getElem?_eq_none]
    rw [Array.length_toList]
    omega
theorem mks_sound (h : SatAt C s a w I g ow) {o : Oper} {d : Nat} {t e : TypeId} {l c : Operand} (hop : o.op = .makeSlice t l c) (hdst : o.dst = some d) (hd : d < C.nt)
    (ht : P.underlying t = some (.slice e)) (hz : zeroOk P e = true) (hsz : 0 < sizeT P e) {s' : St} {ob : List Prop}
    (he : ef s (.mks d e (sizeT P e) (bytesT P e) (xop l) (xop c) ((zeroT P e).map cav0)) = .ok s' ob) (hob : allP ob) : Leads P o a w fun a' w' => Sat C s' a' w' := by
  obtain ⟨env, rts⟩ := s
  simp only [ef] at he
  cases hc : (fresh d ⟨env, rts⟩ && isPureL ((zeroT P e).map cav0)) with
  | false => simp [hc] at he
  | true =>
    simp only [hc, cond_true] at he
    simp only [Bool.and_eq_true] at hc
    split at he <;> first | (cases he; done) | skip
    rename_i kl lv kc cv h1 h2
    simp only [Res.ok.injEq] at he
    obtain ⟨rfl, rfl⟩ := he
    obtain ⟨⟨o1, o2, o3, o4⟩, hob⟩ := hob
    rw [allP_append] at hob
    have e1 := x_den h l hob.1
    rw [h1] at e1
    have e2 := x_den h c hob.2
    rw [h2] at e2
    have e1 : a.eval l = .int kl lv := e1
    have e2 : a.eval c = .int kc cv := e2
    obtain ⟨i, z, hi, hz1, hz2, hz3, hz4, hby, hone⟩ := zero_cells hz
    have hrun := run_make (P := P) w t e i z ht hi hz1 kl kc lv cv o1 o2 (by rw [hby]; exact o4) o3
    rw [hz3] at hrun
    refine ⟨_, _, by simp [execOp, hop, e1, e2, hrun]; exact ⟨rfl, rfl⟩, .inl ⟨_, rfl, ?_⟩⟩
    rw [hdst]
    refine ⟨I, _, _, sat_alloc h hd hc.1 (w1 := w) rfl rfl rfl rfl (cur := madeCells z.cells (cv.toNat * sizeT P e)) (e := e) (v := .slice (some ⟨w.heap.size, 0, none⟩) lv.toNat cv.toNat) ⟨_, rfl, (upd_same _ _ _).symm, _, _, _, rfl⟩ ?_⟩
    intro w' ow' hw' how
    refine .inr ⟨w.heap.size, cv.toNat, _, upd_same _ _ _, how, hw', by omega, by unfold maxLen; omega, size_madeCells _ _, fun u hu => ?_, fun j hj => ?_⟩
    · simp only [madeCells, Array.toList_map, List.mem_map] at hu
      obtain ⟨x, _, rfl⟩ := hu
      have hlt : x % z.cells.size < z.cells.size := Nat.mod_lt _ (by omega)
      rw [getElem!_pos z.cells _ hlt]
      exact hone _ (by rw [← hz2]; exact Array.getElem_mem_toList hlt)
    · rw [made_row hz4 hsz (by omega), hz2]
      exact DenL.unref _ _ hc.2 (cav0s_den (β := some g) I _)
end
end Go.Av
end
/- part AvApp -/
section
namespace Go.Av
section
variable {P : Program} {C : Ctx P} {s : St} {a : Act} {w : World} {I : Imm} {g : Nat → Value} {ow : Nat → List Nat}
theorem RtOK.heap {q : Nat} {r : Rt} (hr : RtOK I g ow w q r) {w' : World} (hheap : ∀ b p, ow b = q :: p → w'.heap[b]? = w.heap[b]?) : RtOK I g ow w' q r := by
  cases r with
  | blk ty cells =>
    obtain ⟨b, cur, h1, h2, h3, h4⟩ := hr
    exact ⟨b, cur, h1, h2, by rw [hheap b [] h2]; exact h3, h4⟩
  | row e sz n f =>
    rcases hr with h | ⟨b, cap, cur, h1, h2, h3, h4⟩
    · exact .inl h
    · exact .inr ⟨b, cap, cur, h1, h2, by rw [hheap b [] h2]; exact h3, h4⟩
  | rowO e sz n f i fs => exact RtOK.rowO_frame hr (Imm.le.refl I) rfl (fs_same fs g) fun b p hb => ⟨hb, hheap b p hb⟩
theorem cell_other {w w' : World} {b : Nat} (h : w'.heap[b]? = w.heap[b]?) (o : Nat) : w'.cell? ⟨b, o, none⟩ = w.cell? ⟨b, o, none⟩ := by
  simp [World.cell?, h]
/-- a root's cells are written -/
theorem sat_set' (h : SatAt C s a w I g ow) {q b : Nat} (how : ow b = [q]) {cur cur' : Array Value} {e : TypeId} (hb : w.heap[b]? = some (.cells cur e (0, 0))) {r' : Rt}
    (hr' : ∀ w', w'.heap[b]? = some (.cells cur' e (0, 0)) → (∀ b', b' ≠ b → w'.heap[b']? = w.heap[b']?) → RtOK I g ow w' q r') : SatAt C ⟨s.env, setR q r' s.rts⟩ a (w.setRow b cur') I g ow := by
  have hoth : ∀ b', b' ≠ b → (w.setRow b cur').heap[b']? = w.heap[b']? := fun b' hne => setRow_other w b b' cur' hne
  have hne : ow b ≠ [] := by rw [how]; simp
  have hsz : (w.setRow b cur').heap.size = w.heap.size := size_setRow w b cur'
  refine { defers := h.defers, size := h.size, env := h.env, rts := ?_, imm := ?_, one := h.one, sep := h.sep, new := h.new, lt := ?_, ile := h.ile, iold := h.iold, os := h.os, tape := h.tape, output := h.output, hsize := by rw [hsz]; exact h.hsize, kept := ?_, pin := h.pin, ntb := h.ntb }
  · intro p r hp
    rw [lookR_setR] at hp
    split at hp
    · rename_i hqp
      subst hqp
      cases hl : lookR s.rts q with
      | none => rw [hl] at hp; cases hp
      | some r0 =>
        rw [hl] at hp
        cases hp
        exact hr' _ (setRow_heap w b cur cur' e (0, 0) hb) hoth
    · rename_i hqp
      refine (h.rts p r hp).heap fun b' p' hb' => hoth b' ?_
      rintro rfl
      rw [how] at hb'
      injection hb' with hb'
      exact hqp hb'
  · intro b' o u hu
    have hbb : b' ≠ b := by
      rintro rfl
      rw [h.sep _ hne] at hu
      cases hu
    rw [cell_other (hoth b' hbb)]
    exact h.imm b' o u hu
  · intro b' hb'
    rw [hsz]
    exact h.lt b' hb'
  · intro b' hb' hx
    have hbb : b' ≠ b := by
      rintro rfl
      rcases h.new _ hne with h1 | h1
      · omega
      · exact hx h1
    rw [hoth b' hbb]
    exact h.kept b' hb' hx
theorem sat_set (h : SatAt C s a w I g ow) {q b : Nat} (how : ow b = [q]) {cur cur' : Array Value} {e : TypeId} (hb : w.heap[b]? = some (.cells cur e (0, 0))) {r' : Rt}
    (hr' : ∀ w', w'.heap[b]? = some (.cells cur' e (0, 0)) → RtOK I g ow w' q r') : SatAt C ⟨s.env, setR q r' s.rts⟩ a (w.setRow b cur') I g ow :=
  sat_set' h how hb fun w' h1 _ => hr' w' h1
theorem sat_rts0 (h : SatAt C s a w I g ow) {rts' : List (Nat × Rt)} (hr : ∀ q r, lookR rts' q = some r → RtOK I g ow w q r) : SatAt C ⟨s.env, rts'⟩ a w I g ow := { h with rts := hr }
/-- a root is forgotten -/
theorem sat_erase (h : SatAt C s a w I g ow) (q : Nat) : SatAt C ⟨s.env, eraseR q s.rts⟩ a w I g ow :=
  { h with
    rts := fun p r hp => by
      have hp : lookR (eraseR q s.rts) p = some r := hp
      rw [lookR_eraseR] at hp
      split at hp
      · cases hp
      · exact h.rts p r hp }
theorem freshR_erase {d : Nat} (q : Nat) : ∀ {l : List (Nat × Rt)}, freshR d l = true → freshR d (eraseR q l) = true
  | [], _ => rfl
  | (k, v) :: r, h => by
    simp only [freshR, Bool.and_eq_true] at h
    simp only [eraseR]
    cases hb : Nat.beq k q
    · simp only [cond_false, freshR, Bool.and_eq_true]
      exact ⟨h.1, h.2.1, freshR_erase q h.2.2⟩
    · simp only [cond_true]
      exact freshR_erase q h.2.2
/-- a root is written and given a new name -/
theorem sat_renew (h : SatAt C s a w I g ow) {q b d : Nat} (hd : d < C.nt) (hf : fresh d s = true) (how : ow b = [q]) {cur cur' : Array Value} {e : TypeId} (hb : w.heap[b]? = some (.cells cur e (0, 0))) {r' : Rt} {v : Value} {av : AV}
    (hv : Den I (some (upd g d v)) av v)
    (hr' : ∀ w' ow', w'.heap[b]? = some (.cells cur' e (0, 0)) → ow' b = [d] → RtOK I (upd g d v) ow' w' d r') :
    SatAt C ⟨(d, av) :: s.env, (d, r') :: eraseR q s.rts⟩ (a.put (some d) v) (w.setRow b cur') I (upd g d v) (fun b' => if b' = b then [d] else ow b') := by
  have hoth : ∀ b', b' ≠ b → (w.setRow b cur').heap[b']? = w.heap[b']? := fun b' hne => setRow_other w b b' cur' hne
  have hne : ow b ≠ [] := by rw [how]; simp
  have hsz : (w.setRow b cur').heap.size = w.heap.size := size_setRow w b cur'
  simp only [fresh, Bool.and_eq_true] at hf
  have howne : ∀ b', (if b' = b then [d] else ow b') ≠ [] → ow b' ≠ [] := by
    intro b' hb'
    by_cases hbb : b' = b
    · subst hbb; exact hne
    · rw [if_neg hbb] at hb'; exact hb'
  refine { defers := h.defers, size := by simpa [Act.put] using h.size, env := ?_, rts := ?_, imm := ?_, one := h.one, sep := fun b' hb' => h.sep b' (howne b' hb'), new := fun b' hb' => h.new b' (howne b' hb'), lt := fun b' hb' => by rw [hsz]; exact h.lt b' (howne b' hb'), ile := h.ile, iold := h.iold, os := h.os, tape := h.tape, output := h.output, hsize := by rw [hsz]; exact h.hsize, kept := ?_, pin := pin_upd h.pin (Nat.lt_of_lt_of_le hd h.ntb) v, ntb := h.ntb }
  · intro t
    rw [getD_put]
    simp only [look_cons]
    by_cases ht : d = t
    · subst ht
      have : d < a.tmps.size := Nat.lt_of_lt_of_le hd h.size
      simp [this, hv]
    · have := env_name h hf.1 v t
      simpa [ht] using this
  · intro p r hp
    rw [lookR_cons] at hp
    split at hp
    · rename_i hdp
      subst hdp
      cases hp
      exact hr' _ _ (setRow_heap w b cur cur' e (0, 0) hb) (by simp)
    · rw [lookR_eraseR] at hp
      split at hp
      · cases hp
      · rename_i hdp hqp
        obtain ⟨h1, h2⟩ := freshR_look hf.2 p r hp
        have hnb : ∀ b' p', ow b' = p :: p' → b' ≠ b := by
          rintro b' p' hb' rfl
          rw [how] at hb'
          injection hb' with hb'
          exact hqp hb'
        refine RtOK.name (h.rts p r hp) h1 h2 (fun b' p' hb' => hoth b' (hnb b' p' hb')) (fun b' p' hb' => ?_)
        show (if b' = b then [d] else ow b') = p :: p'
        rw [if_neg (hnb b' p' hb')]
        exact hb'
  · intro b' o u hu
    have hbb : b' ≠ b := by
      rintro rfl
      rw [h.sep _ hne] at hu
      cases hu
    rw [cell_other (hoth b' hbb)]
    exact h.imm b' o u hu
  · intro b' hb' hx
    have hbb : b' ≠ b := by
      rintro rfl
      rcases h.new _ hne with h1 | h1
      · omega
      · exact hx h1
    rw [hoth b' hbb]
    exact h.kept b' hb' hx
theorem splice_get {α : Type} {L X : List α} {o : Nat} (h : o + X.length ≤ L.length) (j : Nat) : (L.take o ++ X ++ L.drop (o + X.length))[j]? = if j < o then L[j]? else if j < o + X.length then X[j - o]? else L[j]? := by
  have hl : (L.take o).length = o := by rw [List.length_take]; omega
  rw [List.append_assoc, List.getElem?_append, hl]
  by_cases h1 : j < o
  · rw [if_pos h1, if_pos h1, List.getElem?_take, if_pos h1]
  · rw [if_neg h1, if_neg h1, List.getElem?_append]
    by_cases h2 : j < o + X.length
    · rw [if_pos (by omega), if_pos h2]
    · rw [if_neg (by omega), if_neg h2, List.getElem?_drop]
      congr 1
      omega
theorem splice_row_same {α : Type} {L X : List α} {n sz off : Nat} (h : n + sz ≤ L.length) (hx : off + X.length ≤ sz) :
    ((L.take (n + off) ++ X ++ L.drop (n + off + X.length)).drop n).take sz = ((L.drop n).take sz).take off ++ X ++ ((L.drop n).take sz).drop (off + X.length) := by
  have hl : ((L.drop n).take sz).length = sz := by rw [List.length_take, List.length_drop]; omega
  apply List.ext_getElem?
  intro j
  rw [splice_get (by omega), List.getElem?_take, List.getElem?_drop, splice_get (by omega), List.getElem?_take, List.getElem?_drop]
  by_cases h1 : j < sz
  · simp only [h1, if_true]
    by_cases h2 : j < off
    · rw [if_pos (by omega), if_pos h2]
    · rw [if_neg (by omega), if_neg h2]
      by_cases h3 : j < off + X.length
      · rw [if_pos (by omega), if_pos h3]; congr 1; omega
      · rw [if_neg (by omega), if_neg h3]
  · simp only [h1, if_false]
    rw [if_neg (by omega), if_neg (by omega)]
theorem splice_row_other {α : Type} {L X : List α} {n m sz off : Nat} (h : n + sz ≤ L.length) (hx : off + X.length ≤ sz) (hnm : m + sz ≤ n ∨ n + sz ≤ m) :
    ((L.take (n + off) ++ X ++ L.drop (n + off + X.length)).drop m).take sz = (L.drop m).take sz := by
  apply List.ext_getElem?
  intro j
  rw [List.getElem?_take, List.getElem?_drop, splice_get (by omega), List.getElem?_take, List.getElem?_drop]
  by_cases h1 : j < sz
  · simp only [h1, if_true]
    by_cases h2 : m + j < n + off
    · rw [if_pos h2]
    · rw [if_neg h2, if_neg (by omega)]
  · simp only [h1, if_false]
theorem cellsOK_free {path : Nat → List Nat} {fs : List (Nat × Nat)} : ∀ {k : Nat} {xs : List AV} {vs : List Value}, (∀ j, j < xs.length → lookF fs (k + j) = none) → DenL I none xs vs → CellsOK I g ow w path fs k xs vs
  | _, [], _, _, h => h
  | k, x :: xs, _, hf, ⟨v, ws, e, h1, h2⟩ => by
    refine ⟨v, ws, e, ?_, cellsOK_free (fun j hj => ?_) h2⟩
    · have := hf 0 (by simp)
      rw [Nat.add_zero] at this
      unfold CellOK
      rw [this]
      cases x with
      | own => exact absurd h1 (by simp [Den])
      | _ => exact h1
    · have := hf (j + 1) (by simp; omega)
      rwa [show k + (j + 1) = k + 1 + j by omega] at this
theorem freeF_spec : ∀ {fs : List (Nat × Nat)} {off n : Nat}, freeF fs off n = true → ∀ j, j < n → lookF fs (off + j) = none
  | [], _, _, _, _, _ => rfl
  | (k, p) :: fs, off, n, h, j, hj => by
    simp only [freeF, Bool.and_eq_true, Bool.or_eq_true, Nat.blt_eq, Nat.ble_eq] at h
    have hk : k ≠ off + j := by omega
    simp only [lookF, beq_ne hk, cond_false]
    exact freeF_spec h.2 j hj
theorem cellsOK_setAt {path : Nat → List Nat} {fs : List (Nat × Nat)} : ∀ (off : Nat) {k : Nat} {xs : List AV} {us : List Value} {cs : List AV} {vs : List Value}, CellsOK I g ow w path fs (k + off) xs us → CellsOK I g ow w path fs k cs vs → off + xs.length ≤ cs.length →
    CellsOK I g ow w path fs k (setAt off xs cs) (vs.take off ++ us ++ vs.drop (off + us.length))
  | off, _, [], us, cs, vs, hx, hc, _ => by
    cases hx
    simp only [List.append_nil, List.length_nil, Nat.add_zero]
    rw [List.take_append_drop]
    cases cs <;> cases off <;> exact hc
  | 0, k, x :: xs, us, c :: cs, vs, ⟨u, us', e, d, r⟩, ⟨v, vs', e', _, r'⟩, hl => by
    subst e e'
    simp only [setAt, List.take_zero, List.nil_append, List.length_cons, Nat.zero_add, List.cons_append]
    have := cellsOK_setAt 0 (k := k + 1) r r' (by simp at hl ⊢; omega)
    simp only [List.take_zero, List.nil_append, Nat.zero_add] at this
    exact ⟨u, _, rfl, d, by simpa using this⟩
  | n + 1, k, x :: xs, us, c :: cs, vs, hx, ⟨v, vs', e', d', r'⟩, hl => by
    subst e'
    have := cellsOK_setAt n (k := k + 1) (by rw [show k + 1 + n = k + (n + 1) by omega]; exact hx) r' (by simp at hl ⊢; omega)
    refine ⟨v, _, ?_, d', this⟩
    simp [Nat.add_right_comm]
  | off, _, x :: xs, us, [], vs, _, _, hl => by simp at hl
theorem cellsOK_get {path : Nat → List Nat} {fs : List (Nat × Nat)} : ∀ {k : Nat} {xs : List AV} {vs : List Value}, CellsOK I g ow w path fs k xs vs → ∀ j x, xs[j]? = some x → ∃ v, vs[j]? = some v ∧ CellOK I g ow w path fs (k + j) x v
  | _, [], _, _, j, x, hx => by simp at hx
  | k, y :: ys, _, ⟨v, ws, e, h1, h2⟩, j, x, hx => by
    subst e
    cases j with
    | zero => simp only [List.getElem?_cons_zero, Option.some.injEq] at hx; subst hx; exact ⟨v, rfl, h1⟩
    | succ j =>
      obtain ⟨u, hu1, hu2⟩ := cellsOK_get h2 j x (by simpa using hx)
      exact ⟨u, by simpa using hu1, by rw [show k + (j + 1) = k + 1 + j by omega]; exact hu2⟩
/-- cells of an element, each of which may be looked at alone -/
theorem cellsOK_of {path : Nat → List Nat} {fs : List (Nat × Nat)} : ∀ {k : Nat} {xs : List AV} {vs : List Value}, xs.length = vs.length → (∀ j x v, xs[j]? = some x → vs[j]? = some v → CellOK I g ow w path fs (k + j) x v) → CellsOK I g ow w path fs k xs vs
  | _, [], [], _, _ => rfl
  | _, [], _ :: _, h, _ => by simp at h
  | _, _ :: _, [], h, _ => by simp at h
  | k, x :: xs, v :: vs, hl, h => ⟨v, vs, rfl, by have := h 0 x v rfl rfl; rwa [Nat.add_zero] at this, cellsOK_of (by simpa using hl) fun j y u hy hu => by
      have := h (j + 1) y u (by simpa using hy) (by simpa using hu)
      rwa [show k + (j + 1) = k + 1 + j by omega] at this⟩
theorem lookF_setF : ∀ {fs : List (Nat × Nat)} {off p : Nat} (k : Nat), lookF (setF fs off p) k = if k = off then (lookF fs off).map (fun _ => p) else lookF fs k
  | [], _, _, k => by simp [setF, lookF]
  | (j, r) :: fs, off, p, k => by
    simp only [setF]
    by_cases hj : j = off
    · subst hj
      rw [beq_iff.2 rfl, cond_true]
      by_cases hk : k = j
      · subst hk; simp [lookF]
      · rw [if_neg hk]; simp only [lookF, beq_ne (fun e => hk e.symm), cond_false]
    · rw [beq_ne hj, cond_false]
      simp only [lookF, lookF_setF k]
      by_cases hk : k = off
      · subst hk; simp only [beq_ne hj, cond_false, if_pos]
      · simp only [if_neg hk]
theorem setAt_length : ∀ (n : Nat) (vs cs : List AV), (setAt n vs cs).length = cs.length
  | n, [], cs => by cases n <;> cases cs <;> rfl
  | n, _ :: _, [] => by cases n <;> rfl
  | 0, v :: vs, _ :: cs => by simp only [setAt, List.length_cons, setAt_length 0 vs cs]
  | n + 1, v :: vs, _ :: cs => by simp only [setAt, List.length_cons, setAt_length n (v :: vs) cs]
theorem setAt_one : ∀ (n : Nat) (v : AV) (cs : List AV) (p : Nat), (setAt n [v] cs)[p]? = if p = n then (if p < cs.length then some v else none) else cs[p]?
  | n, v, [], p => by cases n <;> simp [setAt]
  | 0, v, c :: cs, p => by
    have : setAt 0 [] cs = cs := by cases cs <;> rfl
    simp only [setAt, this]
    cases p <;> simp
  | n + 1, v, c :: cs, p => by
    simp only [setAt]
    cases p with
    | zero => simp
    | succ p => simp [setAt_one n v cs p]
theorem sub_of_row {r e sz n : Nat} {h : Nat → List AV} (hr : RtOK I g ow w r (.row e sz n h)) {ow' : Nat → List Nat} {w' : World} {path : List Nat} (how : ∀ b, ow b = [r] → ow' b = path ∧ w'.heap[b]? = w.heap[b]?) : SubOK I ow' w' path e sz n h (g r) := by
  rcases hr with ⟨a0, h1, h2⟩ | ⟨b, cap, cur, h1, h2, h3, h4⟩
  · exact .inl ⟨a0, h1, h2⟩
  · exact .inr ⟨b, cap, cur, h1, (how b h2).1, by rw [(how b h2).2]; exact h3, h4⟩
theorem RtOK.owned {q : Nat} {r : Rt} (hr : RtOK I g ow w q r) {ow' : Nat → List Nat} (how : ∀ b p, ow b = q :: p → ow' b = q :: p) : RtOK I g ow' w q r := by
  cases r with
  | blk ty cells =>
    obtain ⟨b, cur, h1, h2, h3, h4⟩ := hr
    exact ⟨b, cur, h1, how b [] h2, h3, h4⟩
  | row e sz n f =>
    rcases hr with h | ⟨b, cap, cur, h1, h2, h3, h4⟩
    · exact .inl h
    · exact .inr ⟨b, cap, cur, h1, how b [] h2, h3, h4⟩
  | rowO e sz n f i fs => exact RtOK.rowO_frame hr (Imm.le.refl I) rfl (fs_same fs g) fun b p hb => ⟨how b p hb, rfl⟩
theorem sat_reown (h : SatAt C s a w I g ow) (ρ : List Nat → List Nat) (hρ : ρ [] = []) (rts' : List (Nat × Rt)) (hk : ∀ q r, lookR rts' q = some r → lookR s.rts q = some r ∧ ∀ p, ρ (q :: p) = q :: p) : SatAt C ⟨s.env, rts'⟩ a w I g (fun b => ρ (ow b)) := by
  have hne : ∀ b, ρ (ow b) ≠ [] → ow b ≠ [] := fun b hb he => hb (by rw [he]; exact hρ)
  exact { h with
    rts := fun q r hq => by
      obtain ⟨h1, h2⟩ := hk q r hq
      exact (h.rts q r h1).owned fun b p hb => by rw [hb]; exact h2 p
    sep := fun b hb => h.sep b (hne b hb)
    new := fun b hb => h.new b (hne b hb)
    lt := fun b hb => h.lt b (hne b hb) }
/-- a block that has no root is written, and gets a name -/
theorem sat_setN (h : SatAt C s a w I g ow) {b d : Nat} (hd : d < C.nt) (hf : fresh d s = true) (how : ow b = [d]) {cur cur' : Array Value} {e : TypeId} (hb : w.heap[b]? = some (.cells cur e (0, 0))) {r' : Rt} {v : Value} {av : AV}
    (hv : Den I (some (upd g d v)) av v)
    (hr' : ∀ w', w'.heap[b]? = some (.cells cur' e (0, 0)) → (∀ b', b' ≠ b → w'.heap[b']? = w.heap[b']?) → RtOK I (upd g d v) ow w' d r') :
    SatAt C ⟨(d, av) :: s.env, (d, r') :: s.rts⟩ (a.put (some d) v) (w.setRow b cur') I (upd g d v) ow := by
  have hoth : ∀ b', b' ≠ b → (w.setRow b cur').heap[b']? = w.heap[b']? := fun b' hne => setRow_other w b b' cur' hne
  have hne : ow b ≠ [] := by rw [how]; simp
  have hsz : (w.setRow b cur').heap.size = w.heap.size := size_setRow w b cur'
  simp only [fresh, Bool.and_eq_true] at hf
  refine { defers := h.defers, size := by simpa [Act.put] using h.size, env := ?_, rts := ?_, imm := ?_, one := h.one, sep := h.sep, new := h.new, lt := fun b' hb' => by rw [hsz]; exact h.lt b' hb', ile := h.ile, iold := h.iold, os := h.os, tape := h.tape, output := h.output, hsize := by rw [hsz]; exact h.hsize, kept := ?_, pin := pin_upd h.pin (Nat.lt_of_lt_of_le hd h.ntb) v, ntb := h.ntb }
  · intro t
    rw [getD_put]
    simp only [look_cons]
    by_cases ht : d = t
    · subst ht
      have : d < a.tmps.size := Nat.lt_of_lt_of_le hd h.size
      simp [this, hv]
    · have := env_name h hf.1 v t
      simpa [ht] using this
  · intro p r hp
    rw [lookR_cons] at hp
    split at hp
    · rename_i hdp
      subst hdp
      cases hp
      exact hr' _ (setRow_heap w b cur cur' e (0, 0) hb) hoth
    · rename_i hdp
      obtain ⟨h1, h2⟩ := freshR_look hf.2 p r hp
      refine RtOK.name (h.rts p r hp) h1 h2 (fun b' p' hb' => hoth b' ?_) (fun b' p' hb' => hb')
      rintro rfl
      rw [how] at hb'
      injection hb' with hb'
      exact hdp hb'
  · intro b' o u hu
    have hbb : b' ≠ b := by
      rintro rfl
      rw [h.sep _ hne] at hu
      cases hu
    rw [cell_other (hoth b' hbb)]
    exact h.imm b' o u hu
  · intro b' hb' hx
    have hbb : b' ≠ b := by
      rintro rfl
      rcases h.new _ hne with h1 | h1
      · omega
      · exact hx h1
    rw [hoth b' hbb]
    exact h.kept b' hb' hx
def giveO (r : Nat) (path : List Nat) (ow : Nat → List Nat) : Nat → List Nat := fun b => if ow b = [r] then path else ow b
theorem giveO_ne {r : Nat} {path : List Nat} {ow : Nat → List Nat} {b : Nat} (h : giveO r path ow b ≠ []) : ow b ≠ [] := by
  unfold giveO at h
  split at h
  · rename_i e; rw [e]; simp
  · exact h
theorem giveO_other {r : Nat} {path : List Nat} {ow : Nat → List Nat} {b p : Nat} {p' : List Nat} (hp : p ≠ r) (h : ow b = p :: p') : giveO r path ow b = p :: p' := by
  unfold giveO
  rw [if_neg]
  · exact h
  · rw [h]; intro e; injection e with e _; exact hp e
/-- a root's block is given away -/
theorem sat_give (h : SatAt C s a w I g ow) (r : Nat) (path : List Nat) : SatAt C ⟨s.env, eraseR r s.rts⟩ a w I g (giveO r path ow) :=
  { h with
    rts := fun p x hp => by
      have hp : lookR (eraseR r s.rts) p = some x := hp
      rw [lookR_eraseR] at hp
      split at hp
      · cases hp
      · rename_i hrp
        exact (h.rts p x hp).owned fun b p' hb => giveO_other (fun e => hrp e.symm) hb
    sep := fun b hb => h.sep b (giveO_ne hb)
    new := fun b hb => h.new b (giveO_ne hb)
    lt := fun b hb => h.lt b (giveO_ne hb) }
theorem store_sound (h : SatAt C s a w I g ow) {o : Oper} {t : TypeId} {x v : Operand} (hop : o.op = .store t x v) (hdst : o.dst = none) (hk : known P t = true) (hn : 0 < sizeT P t) {s' : St} {ob : List Prop}
    (he : ef s (.store (xop x) (xop v) (sizeT P t)) = .ok s' ob) (hob : allP ob) : Leads P o a w fun a' w' => Sat C s' a' w' := by
  obtain ⟨env, rts⟩ := s
  simp only [ef, foL_eq, Res.mk_eq] at he
  obtain ⟨vs, hvs⟩ : ∃ vs, vs = cellsOf (und (xv ⟨env, rts⟩ (xop v))) := ⟨_, rfl⟩
  rw [← hvs] at he
  have haput : a.put o.dst undef = a := by rw [hdst]; rfl
  cases hc : (Nat.beq vs.length (sizeT P t) && oneL vs) with
  | false => simp [hc] at he
  | true =>
    simp only [hc, cond_true] at he
    simp only [Bool.and_eq_true] at hc
    have hvl : vs.length = sizeT P t := beq_iff.1 hc.1
    -- what both ways need
    have core : allP (gdo (xv ⟨env, rts⟩ (xop v))) → ∀ (b off : Nat) (cur : Array Value) (e : TypeId), a.eval x = .pointer (some ⟨b, off, none⟩) → w.heap[b]? = some (.cells cur e (0, 0)) → off + sizeT P t ≤ cur.size →
        DenL I (some g) vs (a.eval v).cells.toList ∧ (∀ u ∈ (a.eval v).cells.toList, u.oneCell' = true) ∧
        (execOp a.eval o).run P w = .ok .skip (w.setRow b ⟨cur.toList.take off ++ (a.eval v).cells.toList ++ cur.toList.drop (off + (a.eval v).cells.toList.length)⟩) := by
      intro hg b off cur e hx hb hfit
      have hden := x_den h v hg
      have hcd := cellsOf_den hden hn (by rw [← hvs]; exact hvl)
      rw [← hvs] at hcd
      have hone := oneL_den hcd hc.2
      have hsz : (a.eval v).cells.size = sizeT P t := by rw [← Array.length_toList, ← hcd.length]; exact hvl
      have hst := run_storeCells_at P b off e (a.eval v).cells.toList 0 cur w hb (by rw [Array.length_toList]; omega) hone
      refine ⟨hcd, hone, ?_⟩
      simp only [Nat.add_zero] at hst
      simp [execOp, hop, Instr.storeAt, Instr.sureAddr, hx, storeVar, run_sizeOf_known hk, hsz, hst]
    split at he
    · rename_i q off h1
      split at he <;> first | (cases he; done) | skip
      rename_i cells hr
      cases hle : Nat.ble (off + sizeT P t) cells.length with
      | false => simp [hle] at he
      | true =>
        simp only [hle, cond_true, Res.ok.injEq] at he
        obtain ⟨rfl, rfl⟩ := he
        rw [allP_append] at hob
        have e1 := x_den h x hob.1
        rw [h1] at e1
        obtain ⟨g', b', hg, hq', hxv⟩ := e1
        cases hg
        obtain ⟨b, cur, hq, hw, hb, ho1, hcl⟩ := h.rts q _ hr
        rw [hq] at hq'
        cases hq'
        rw [Nat.ble_eq] at hle
        have hlen : cells.length = cur.size := by rw [hcl.length, Array.length_toList]
        obtain ⟨c1, c2, c3⟩ := core hob.2 b' off cur _ hxv hb (by omega)
        refine ⟨_, _, c3, .inr ⟨rfl, ?_⟩⟩
        rw [haput]
        refine ⟨I, g, ow, sat_set h hw hb ?_⟩
        intro w' hw'
        refine ⟨b', _, hq, hw, hw', ?_, setAt_den off c1 hcl (by omega)⟩
        intro u hu
        simp only [List.mem_append] at hu
        rcases hu with (hu | hu) | hu
        · exact ho1 u (List.mem_of_mem_take hu)
        · exact c2 u hu
        · exact ho1 u (List.mem_of_mem_drop hu)
    · rename_i q sz k off h1
      split at he
      · rename_i e0 sz' m f hr
        cases hle : (Nat.beq sz sz' && (Nat.ble (off + sizeT P t) sz && isPureL vs)) with
        | false => simp [hle] at he
        | true =>
          simp only [hle, cond_true, Res.ok.injEq] at he
          simp only [Bool.and_eq_true, Nat.ble_eq] at hle
          cases beq_iff.1 hle.1
          obtain ⟨rfl, rfl⟩ := he
          obtain ⟨hkm, hob⟩ := hob
          rw [allP_append] at hob
          have e1 := x_den h x hob.1
          rw [h1] at e1
          obtain ⟨g', b', n', c', hg, hq', hxv⟩ := e1
          cases hg
          rcases h.rts q _ hr with ⟨a0, _, h0⟩ | ⟨b, cap, cur, hq, hw, hb, hnc, hcm, hcs, ho1, hcl⟩
          · omega
          have hbb : b = b' := by rw [hq] at hq'; injection hq' with h1; injection h1 with h1; injection h1
          subst hbb
          have hkc : (k + 1) * sz ≤ cap * sz := Nat.mul_le_mul_right sz (by omega)
          rw [Nat.add_mul, Nat.one_mul] at hkc
          obtain ⟨c1, c2, c3⟩ := core hob.2 b (k * sz + off) cur e0 hxv hb (by omega)
          have hvl2 : (a.eval v).cells.toList.length = sizeT P t := by rw [← c1.length]; exact hvl
          have c1p := DenL.unref _ _ hle.2.2 c1
          refine ⟨_, _, c3, .inr ⟨rfl, ?_⟩⟩
          rw [haput]
          refine ⟨I, g, ow, sat_set h hw hb ?_⟩
          intro w' hw'
          refine .inr ⟨b, cap, _, hq, hw, hw', hnc, hcm, ?_, ?_, ?_⟩
          · simp only [List.size_toArray, List.length_append, List.length_take, List.length_drop, Array.length_toList, hvl2]
            omega
          · intro u hu
            simp only [List.mem_append] at hu
            rcases hu with (hu | hu) | hu
            · exact ho1 u (List.mem_of_mem_take hu)
            · exact c2 u hu
            · exact ho1 u (List.mem_of_mem_drop hu)
          · intro i hi
            have hci := hcl i hi
            have hic : (i + 1) * sz ≤ cap * sz := Nat.mul_le_mul_right sz (by omega)
            rw [Nat.add_mul, Nat.one_mul] at hic
            have hL : cur.toList.length = cap * sz := by rw [Array.length_toList]; exact hcs
            simp only [stored]
            by_cases hik : i = k
            · subst hik
              rw [beq_iff.2 rfl, cond_true]
              have hfl : (f i).length = sz := by rw [hci.length, List.length_take, List.length_drop]; omega
              have := setAt_den off c1p hci (by omega)
              rw [hvl2] at this
              have key := splice_row_same (L := cur.toList) (X := (a.eval v).cells.toList) (n := i * sz) (sz := sz) (off := off) (by omega) (by omega)
              rw [hvl2] at key ⊢
              show DenL I none (setAt off vs (f i)) _
              rw [key]
              exact this
            · rw [beq_ne hik, cond_false]
              have hdis : i * sz + sz ≤ k * sz ∨ k * sz + sz ≤ i * sz := by
                rcases Nat.lt_or_gt_of_ne hik with hlt | hlt
                · left; rw [← Nat.succ_mul]; exact Nat.mul_le_mul_right sz hlt
                · right; rw [← Nat.succ_mul]; exact Nat.mul_le_mul_right sz hlt
              have key := splice_row_other (L := cur.toList) (X := (a.eval v).cells.toList) (n := k * sz) (m := i * sz) (sz := sz) (off := off) (by omega) (by omega) hdis
              show DenL I none (f i) _
              rw [key]
              exact hci
      · rename_i e0 sz' m f i fs hr
        cases hsz : Nat.beq sz sz' with
        | false => simp [hsz] at he
        | true =>
        simp only [hsz, cond_true] at he
        cases beq_iff.1 hsz
        unfold storeO at he
        cases hle : Nat.ble (off + sizeT P t) sz with
        | false => simp [hle] at he
        | true =>
        simp only [hle, cond_true] at he
        rw [Nat.ble_eq] at hle
        have base : k < m → allP (gdo (xv ⟨env, rts⟩ (xop x)) ++ gdo (xv ⟨env, rts⟩ (xop v))) → ∃ b cap cur, g q = .slice (some ⟨b, 0, none⟩) m cap ∧ ow b = [q] ∧ w.heap[b]? = some (.cells cur e0 (0, 0)) ∧ m ≤ cap ∧ cap ≤ maxLen ∧
            cur.size = cap * sz ∧ (∀ u ∈ cur.toList, u.oneCell' = true) ∧ (∀ j, j < m → CellsOK I g ow w (fun k => [q, j, k]) (if j = i then fs else []) 0 (f j) ((cur.toList.drop (j * sz)).take sz)) ∧
            DenL I (some g) vs (a.eval v).cells.toList ∧ (∀ u ∈ (a.eval v).cells.toList, u.oneCell' = true) ∧ (a.eval v).cells.toList.length = sizeT P t ∧
            (execOp a.eval o).run P w = .ok .skip (w.setRow b ⟨cur.toList.take (k * sz + off) ++ (a.eval v).cells.toList ++ cur.toList.drop (k * sz + off + (a.eval v).cells.toList.length)⟩) := by
          intro hkm hob
          rw [allP_append] at hob
          have e1 := x_den h x hob.1
          rw [h1] at e1
          obtain ⟨g', b', n', c', hg, hq', hxv⟩ := e1
          cases hg
          rcases h.rts q _ hr with ⟨a0, _, h0⟩ | ⟨b, cap, cur, hq, hw, hb, hnc, hcm, hcs, ho1, hcl⟩
          · omega
          have hbb : b = b' := by rw [hq] at hq'; injection hq' with h1; injection h1 with h1; injection h1
          subst hbb
          have hkc : (k + 1) * sz ≤ cap * sz := Nat.mul_le_mul_right sz (by omega)
          rw [Nat.add_mul, Nat.one_mul] at hkc
          obtain ⟨c1, c2, c3⟩ := core hob.2 b (k * sz + off) cur e0 hxv hb (by omega)
          have hvl2 : (a.eval v).cells.toList.length = sizeT P t := by rw [← c1.length]; exact hvl
          exact ⟨b, cap, cur, hq, hw, hb, hnc, hcm, hcs, ho1, hcl, c1, c2, hvl2, c3⟩
        -- the other elements and the row as a whole
        have whole : ∀ (b cap : Nat) (cur : Array Value), cur.size = cap * sz → (∀ u ∈ cur.toList, u.oneCell' = true) → m ≤ cap → k < m → (∀ u ∈ (a.eval v).cells.toList, u.oneCell' = true) → (a.eval v).cells.toList.length = sizeT P t →
            (cur.toList.take (k * sz + off) ++ (a.eval v).cells.toList ++ cur.toList.drop (k * sz + off + (a.eval v).cells.toList.length)).length = cap * sz ∧
            (∀ u ∈ (cur.toList.take (k * sz + off) ++ (a.eval v).cells.toList ++ cur.toList.drop (k * sz + off + (a.eval v).cells.toList.length)), u.oneCell' = true) ∧
            (∀ j, j < m → j ≠ k → ((cur.toList.take (k * sz + off) ++ (a.eval v).cells.toList ++ cur.toList.drop (k * sz + off + (a.eval v).cells.toList.length)).drop (j * sz)).take sz = (cur.toList.drop (j * sz)).take sz) ∧
            ((cur.toList.take (k * sz + off) ++ (a.eval v).cells.toList ++ cur.toList.drop (k * sz + off + (a.eval v).cells.toList.length)).drop (k * sz)).take sz = ((cur.toList.drop (k * sz)).take sz).take off ++ (a.eval v).cells.toList ++ ((cur.toList.drop (k * sz)).take sz).drop (off + (a.eval v).cells.toList.length) ∧
            ((cur.toList.drop (k * sz)).take sz).length = sz := by
          intro b cap cur hcs ho1 hmc hkm c2 hvl2
          have hkc : (k + 1) * sz ≤ cap * sz := Nat.mul_le_mul_right sz (by omega)
          rw [Nat.add_mul, Nat.one_mul] at hkc
          have hL : cur.toList.length = cap * sz := by rw [Array.length_toList]; exact hcs
          refine ⟨?_, ?_, ?_, splice_row_same (by omega) (by omega), by rw [List.length_take, List.length_drop]; omega⟩
          · simp only [List.length_append, List.length_take, List.length_drop, Array.length_toList, hvl2]
            omega
          · intro u hu
            simp only [List.mem_append] at hu
            rcases hu with (hu | hu) | hu
            · exact ho1 u (List.mem_of_mem_take hu)
            · exact c2 u hu
            · exact ho1 u (List.mem_of_mem_drop hu)
          · intro j hj hjk
            have hdis : j * sz + sz ≤ k * sz ∨ k * sz + sz ≤ j * sz := by
              rcases Nat.lt_or_gt_of_ne hjk with hlt | hlt
              · left; rw [← Nat.succ_mul]; exact Nat.mul_le_mul_right sz hlt
              · right; rw [← Nat.succ_mul]; exact Nat.mul_le_mul_right sz hlt
            exact splice_row_other (by omega) (by omega) hdis
        cases hp : isPureL vs with
        | true =>
          simp only [hp, cond_true] at he
          cases hff : freeF fs off (sizeT P t) with
          | false => simp [hff] at he
          | true =>
            simp only [hff, cond_true, Res.mk_eq, Res.ok.injEq] at he
            obtain ⟨rfl, rfl⟩ := he
            obtain ⟨b, cap, cur, hq, hw, hb, hnc, hcm, hcs, ho1, hcl, c1, c2, hvl2, c3⟩ := base hob.1 hob.2
            obtain ⟨w1, w2, w3, w4, w5⟩ := whole b cap cur hcs ho1 hnc hob.1 c2 hvl2
            refine ⟨_, _, c3, .inr ⟨rfl, ?_⟩⟩
            rw [haput]
            refine ⟨I, g, ow, sat_set' h hw hb ?_⟩
            intro w' hw' hoth
            have fr : ∀ j, j < m → CellsOK I g ow w' (fun k => [q, j, k]) (if j = i then fs else []) 0 (f j) ((cur.toList.drop (j * sz)).take sz) := fun j hj =>
              CellsOK.frame (Imm.le.refl I) (fs_same _ g) (fun k' b' hb' => ⟨hb', hoth b' (by rintro rfl; rw [hw] at hb'; cases hb')⟩) (hcl j hj)
            refine .inr ⟨b, cap, _, hq, hw, hw', hnc, hcm, by simpa using w1, w2, fun j hj => ?_⟩
            simp only [stored]
            by_cases hjk : j = k
            · subst hjk
              rw [beq_iff.2 rfl, cond_true]
              show CellsOK _ _ _ _ _ _ _ _ _
              have hlen := (fr j hj).length
              have := cellsOK_setAt off (cellsOK_free (g := g) (ow := ow) (w := w') (path := fun k => [q, j, k]) (fs := if j = i then fs else []) (k := 0 + off) (fun j' hj' => by
                rw [Nat.zero_add]
                split
                · exact freeF_spec hff j' (by omega)
                · rfl) (DenL.unref _ _ hp c1)) (fr j hj) (by omega)
              rw [w4]
              exact this
            · rw [beq_ne hjk, cond_false]
              show CellsOK _ _ _ _ _ _ _ _ _
              rw [w3 j hj hjk]
              exact fr j hj
        | false =>
          simp only [hp, cond_false] at he
          split at he <;> first | (cases he; done) | skip
          rename_i r
          split at he
          · rename_i r0 hl
            simp only [Res.mk_eq, Res.ok.injEq] at he
            obtain ⟨rfl, rfl⟩ := he
            obtain ⟨hkm, hki, hob⟩ := hob
            subst hki
            obtain ⟨b, cap, cur, hq, hw, hb, hnc, hcm, hcs, ho1, hcl, c1, c2, hvl2, c3⟩ := base hkm hob
            obtain ⟨w1, w2, w3, w4, w5⟩ := whole b cap cur hcs ho1 hnc hkm c2 hvl2
            obtain ⟨u, us, hu, du, hus⟩ := c1
            cases hus
            rw [hu] at c3 w1 w2 w3 w4
            refine ⟨_, _, c3, .inr ⟨rfl, ?_⟩⟩
            rw [haput]
            refine ⟨I, g, ow, sat_set' h hw hb ?_⟩
            intro w' hw' hoth
            have fr : ∀ j, j < m → CellsOK I g ow w' (fun k => [q, j, k]) (if j = k then fs else []) 0 (f j) ((cur.toList.drop (j * sz)).take sz) := fun j hj =>
              CellsOK.frame (Imm.le.refl I) (fs_same _ g) (fun k' b' hb' => ⟨hb', hoth b' (by rintro rfl; rw [hw] at hb'; cases hb')⟩) (hcl j hj)
            refine .inr ⟨b, cap, _, hq, hw, hw', hnc, hcm, by simpa using w1, w2, fun j hj => ?_⟩
            by_cases hjk : j = k
            · subst hjk
              have hfr := fr j hj
              rw [if_pos rfl] at hfr ⊢
              have hlen := hfr.length
              show CellsOK _ _ _ _ _ _ _ _ _
              rw [w4]
              have hL2 : ((List.drop (j * sz) cur.toList).take sz).length = sz := w5
              have hn1 : sizeT P t = 1 := by rw [← hvl2, hu]; rfl
              refine cellsOK_of ?_ fun p y z hy hz => ?_
              · simp only [List.length_append, List.length_take, List.length_drop, List.length_cons, List.length_nil] at hlen hL2 ⊢
                omega
              · rw [Nat.zero_add]
                rw [splice_get (by rw [hL2]; simp; omega)] at hz
                unfold CellOK
                rw [lookF_setF, hl]
                by_cases hpo : p = off
                · subst hpo
                  rw [if_neg (by omega), if_pos (by simp)] at hz
                  simp only [Nat.sub_self, List.getElem?_cons_zero, Option.some.injEq] at hz
                  subst hz
                  rw [if_pos rfl]
                  obtain ⟨z0, _, hz2⟩ := cellsOK_get hfr p y hy
                  rw [Nat.zero_add] at hz2
                  unfold CellOK at hz2
                  rw [hl] at hz2
                  obtain ⟨g', hg', hv1, hv2⟩ := du
                  cases hg'
                  exact ⟨hz2.1, hv1, hv2⟩
                · rw [if_neg hpo]
                  have hz' : ((List.drop (j * sz) cur.toList).take sz)[p]? = some z := by
                    by_cases h1 : p < off
                    · rw [if_pos h1] at hz; exact hz
                    · rw [if_neg h1, if_neg (by simp; omega)] at hz; exact hz
                  obtain ⟨z0, hz1, hz2⟩ := cellsOK_get hfr p y hy
                  rw [hz'] at hz1
                  cases hz1
                  rw [Nat.zero_add] at hz2
                  exact hz2
            · show CellsOK _ _ _ _ _ _ _ _ _
              rw [w3 j hj hjk]
              have := fr j hj
              rw [if_neg hjk] at this ⊢
              exact this
          · rename_i hl
            split at he <;> first | (cases he; done) | skip
            rename_i e' sz2 n' hh hrr
            simp only [Res.mk_eq, Res.ok.injEq] at he
            obtain ⟨rfl, rfl⟩ := he
            obtain ⟨hkm, hob⟩ := hob
            obtain ⟨b, cap, cur, hq, hw, hb, hnc, hcm, hcs, ho1, hcl, c1, c2, hvl2, c3⟩ := base hkm hob
            obtain ⟨w1, w2, w3, w4, w5⟩ := whole b cap cur hcs ho1 hnc hkm c2 hvl2
            obtain ⟨u, us, hu, du, hus⟩ := c1
            cases hus
            rw [hu] at c3 w1 w2 w3 w4
            have hqr : q ≠ r := by rintro rfl; rw [hr] at hrr; cases hrr
            have hg := sat_give h r [q, k, off]
            refine ⟨_, _, c3, .inr ⟨rfl, ?_⟩⟩
            rw [haput]
            refine ⟨I, g, giveO r [q, k, off] ow, sat_set' hg (giveO_other hqr hw) hb ?_⟩
            intro w' hw' hoth
            have fr : ∀ j, j < m → CellsOK I g (giveO r [q, k, off] ow) w' (fun k => [q, j, k]) (if j = i then fs else []) 0 (f j) ((cur.toList.drop (j * sz)).take sz) := fun j hj =>
              CellsOK.frame (Imm.le.refl I) (fs_same _ g) (fun k' b' hb' => ⟨giveO_other hqr hb', hoth b' (by rintro rfl; rw [hw] at hb'; cases hb')⟩) (hcl j hj)
            refine .inr ⟨b, cap, _, hq, giveO_other hqr hw, hw', hnc, hcm, by simpa using w1, w2, fun j hj => ?_⟩
            simp only [stored]
            by_cases hjk : j = k
            · subst hjk
              rw [beq_iff.2 rfl, cond_true]
              show CellsOK _ _ _ _ _ _ _ _ _
              rw [w4]
              have hlen := (fr j hj).length
              have hn1 : sizeT P t = 1 := by rw [← hvl2, hu]; rfl
              refine cellsOK_setAt off ⟨u, [], rfl, ?_, rfl⟩ (fr j hj) (by simp only [List.length_cons, List.length_nil]; omega)
              unfold CellOK
              have hl' : lookF (if j = i then fs else []) (0 + off) = none := by
                rw [Nat.zero_add]
                split
                · exact hl
                · rfl
              rw [hl']
              obtain ⟨g', hg', hv1, hv2⟩ := du
              cases hg'
              rw [hv1, Nat.zero_add]
              refine sub_of_row (h.rts r _ hrr) fun b' hb' => ⟨by unfold giveO; rw [if_pos hb'], hoth b' ?_⟩
              rintro rfl
              rw [hw] at hb'
              injection hb' with hb' _
              exact hqr hb'
            · rw [beq_ne hjk, cond_false]
              show CellsOK _ _ _ _ _ _ _ _ _
              rw [w3 j hj hjk]
              exact fr j hj
      · cases he
    · cases he
end
end Go.Av
end
