/-
  HELPING TEXT, shared by the claims on the book. Own work (AI agent).
-/
import Derived.Test.YtgnhmklpekgndaaGreatDoorStuG
import Derived.Test.YtgnhmklpekgndaaGreatDoorTie
import Derived.ProofKit
import Derived.LaidMore
import Derived.OpenShut
import Derived.Stop.Joined
import Derived.Carry
import Derived.Deep.Slices
import Derived.Below
import Derived.ChangeSame
set_option linter.all false
/- part BkLift -/
section
namespace Go.Proofs.YtgnhmklpekgndaaGreatDoor
open Go Go.Av Go.Pu Go.Deep
open Go.ChangeShapes Go.WideShapes Go.ChangeAt Go.RowKit
/-- what the memory holds when the call begins -/
def impI (W : World) : Imm := fun b o => (W.cell? ⟨b, o, none⟩).bind fun u => bif u.oneCell' then some u else none
theorem impI_cell {W : World} {b o : Nat} {u : Value} (h : impI W b o = some u) : W.cell? ⟨b, o, none⟩ = some u := by
  unfold impI at h
  cases hc : W.cell? ⟨b, o, none⟩ with
  | none => rw [hc] at h; cases h
  | some v =>
    rw [hc] at h
    simp only [Option.bind_some] at h
    cases hv : v.oneCell' with
    | false => rw [hv] at h; cases h
    | true => rw [hv] at h; exact h
theorem impI_one {W : World} {b o : Nat} {u : Value} (h : impI W b o = some u) : u.oneCell' = true := by
  have hc := impI_cell h
  unfold impI at h
  rw [hc] at h
  simp only [Option.bind_some] at h
  cases hv : u.oneCell' with
  | false => rw [hv] at h; cases h
  | true => rfl
theorem impI_of {W : World} {b o : Nat} {u : Value} (h : W.cell? ⟨b, o, none⟩ = some u) (h1 : u.oneCell' = true) : impI W b o = some u := by
  unfold impI
  rw [h, Option.bind_some, h1]
  rfl
theorem own : ownKnob Tryz.prog.godebug = none := by kernel_rfl
theorem laidOut : laidOutB Tryz.prog = true := by kernel_rfl
theorem tab0 : tabOf Tryz.prog 0 = none := by kernel_rfl
theorem tab1 : tabOf Tryz.prog 1 = none := by kernel_rfl
theorem tab2 : tabOf Tryz.prog 2 = some (20, pow10F) := by kernel_rfl
theorem tab3 : tabOf Tryz.prog 3 = none := by kernel_rfl
theorem tab4 : tabOf Tryz.prog 4 = none := by kernel_rfl
theorem tab5 : tabOf Tryz.prog 5 = none := by kernel_rfl
theorem gsize : Tryz.prog.globals.size = 6 := by kernel_rfl
theorem tab_eq {g n : Nat} {f : Nat → List AV} (h : tabOf Tryz.prog g = some (n, f)) : g = 2 ∧ n = 20 ∧ f = pow10F := by
  match g, h with
  | 0, h => rw [tab0] at h; cases h
  | 1, h => rw [tab1] at h; cases h
  | 2, h => rw [tab2] at h; cases h; exact ⟨rfl, rfl, rfl⟩
  | 3, h => rw [tab3] at h; cases h
  | 4, h => rw [tab4] at h; cases h
  | 5, h => rw [tab5] at h; cases h
  | g + 6, h =>
    unfold tabOf at h
    rw [Array.getElem?_eq_none (by rw [gsize]; omega)] at h
    cases h
theorem gPow : Tryz.prog.globalNamed "internal/strconv.uint64pow10" = some 2 := by kernel_rfl
theorem tPow : (Tryz.prog.globals[2]?).map (·.type) = some 185 := by kernel_rfl
theorem c159 : Tryz.prog.cellsOf 159 = 1 := by kernel_rfl
def cellsAgg {H : Type} : DataW H → List (DataW H)
  | .agg l => l
  | _ => []
theorem pows {H : Type} (i : Nat) (hi : i < 20) : (cellsAgg (Rows.laid_internal_strconv_uint64pow10 : DataW H))[i]? = some (.lit (.int .u64 ((10 : Int) ^ i))) := by
  match i, hi with
  | 0, _ => rfl
  | 1, _ => rfl
  | 2, _ => rfl
  | 3, _ => rfl
  | 4, _ => rfl
  | 5, _ => rfl
  | 6, _ => rfl
  | 7, _ => rfl
  | 8, _ => rfl
  | 9, _ => rfl
  | 10, _ => rfl
  | 11, _ => rfl
  | 12, _ => rfl
  | 13, _ => rfl
  | 14, _ => rfl
  | 15, _ => rfl
  | 16, _ => rfl
  | 17, _ => rfl
  | 18, _ => rfl
  | 19, _ => rfl
  | n + 20, h => omega
theorem pow_of {W : World} {sp : Nat → Bool} {held : Bool} {H : Type} {enc : TypeId × Value → H} {cs : Array Value} {m : Nat} {p : List MemPlace} (hv : W.var? Tryz.prog "internal/strconv.uint64pow10" = some cs)
    (hd : DataW.trod enc Tryz.prog W 0 sp held m 185 cs.toList = some (Rows.laid_internal_strconv_uint64pow10, p)) : TabOK Tryz.prog (impI W) := by
  intro g n f hg i hi
  obtain ⟨rfl, rfl, rfl⟩ := tab_eq hg
  obtain ⟨xs, m1, rfl, hx, hlen, hn, hel⟩ := DataW.trod_array Tryz.underlying185 hd
  have h1 := hel i hi
  have hxi : xs[i]? = some (xs[i]'(by omega)) := List.getElem?_eq_getElem (by omega)
  obtain ⟨k, e1, e2, _⟩ := DataW.trod_int Tryz.underlying159 (h1.trans hxi)
  rw [c159, Nat.mul_one] at e1
  have hci : cs[i]? = some (.int .u64 k) := by
    have h3 : (cs.toList.drop i)[0]? = some (.int .u64 k) := by
      cases hdr : cs.toList.drop i with
      | nil => rw [hdr] at e1; simp at e1
      | cons c r => rw [hdr] at e1; simp at e1; simp [e1]
    simpa using h3
  have hcell := World.var?_cell gPow hv i
  have hk : k = (10 : Int) ^ i := by
    have hx2 : (Rows.laid_internal_strconv_uint64pow10 : DataW H) = .agg (xs.map (·.1)) := (Prod.mk.inj hx).1
    have hp := pows (H := H) i hi
    rw [hx2] at hp
    simp only [cellsAgg, List.getElem?_map, hxi, Option.map_some, e2, Option.some.injEq, DataW.lit.injEq, Lit.int.injEq, true_and] at hp
    exact hp
  refine ⟨.int .u64 k, impI_of (hcell.trans hci) rfl, ?_⟩
  rw [hk]
  exact ⟨_, _, rfl, rfl, rfl⟩
end Go.Proofs.YtgnhmklpekgndaaGreatDoor
end
/- part BkLift2 -/
section
namespace Go.Proofs.YtgnhmklpekgndaaGreatDoor
open Go Go.Av Go.Pu Go.Deep
open Go.ChangeShapes Go.WideShapes Go.ChangeAt Go.RowKit
abbrev laid3 : List (String × DataW Unit) := [("math/bits.deBruijn32tab", Rows.laid_math_bits_deBruijn32tab), ("math/bits.deBruijn64tab", Rows.laid_math_bits_deBruijn64tab), ("internal/strconv.uint64pow10", Rows.laid_internal_strconv_uint64pow10)]
theorem of_laid3 {W : World} (h : laidMetH Tryz.prog laid3 W) : TabOK Tryz.prog (impI W) := by
  rw [MakeChecks.laidMetH_plain _ _ _ (by kernel_rfl)] at h
  obtain ⟨ps, ⟨g0, t0, cs0, f0, p0, q0, hg0, ht0, hv0, hd0, ⟨g1, t1, cs1, f1, p1, q1, hg1, ht1, hv1, hd1, ⟨g2, t2, cs2, f2, p2, q2, hg2, ht2, hv2, hd2, _, _⟩, _⟩, _⟩, _, _⟩ := h
  obtain rfl := Option.some.inj (gPow.symm.trans hg2)
  obtain rfl := Option.some.inj (tPow.symm.trans ht2)
  exact pow_of hv2 hd2
theorem c9 : Tryz.prog.cellsOf 9 = 1 := by kernel_rfl
theorem c3 : Tryz.prog.cellsOf 3 = 1 := by kernel_rfl
theorem c4 : Tryz.prog.cellsOf 4 = 1 := by kernel_rfl
theorem c24 : Tryz.prog.cellsOf 24 = 3 := by kernel_rfl
theorem c26 : Tryz.prog.cellsOf 26 = 9 := by kernel_rfl
section
variable {H : Type} {enc : TypeId × Value → H} {w : World} {base : Nat} {spare : Nat → Bool} {held : Bool}
def kV (k : K) : List Value := [.string ⟨⟨k.stu⟩⟩, .string ⟨⟨k.ex⟩⟩, .int .i64 k.att]
def evV (e : Ev) : List Value := [.int .i64 e.kind, .string ⟨⟨e.key.stu⟩⟩, .string ⟨⟨e.key.ex⟩⟩, .int .i64 e.key.att, .int .i64 e.tick, .int .i64 e.ver, .int .i64 e.hun, .string ⟨⟨e.text⟩⟩, .bool e.acc]
theorem evV_den (I : Imm) (e : Ev) : DenL I none (evA e) (evV e) := ⟨_, _, rfl, rfl, _, _, rfl, rfl, _, _, rfl, rfl, _, _, rfl, rfl, _, _, rfl, rfl, _, _, rfl, rfl, _, _, rfl, rfl, _, _, rfl, rfl, _, _, rfl, rfl, rfl⟩
theorem kV_den (I : Imm) (k : K) : DenL I none (kA k) (kV k) := ⟨_, _, rfl, rfl, _, _, rfl, rfl, _, _, rfl, rfl, rfl⟩
theorem str_back (s : ByteArray) : (⟨⟨s.data.toList⟩⟩ : ByteArray) = s := rfl
theorem get_at {α : Type} {xs : List α} {n i : Nat} (h : xs.length = n) (hi : i < n) : ∃ x, xs[i]? = some x := ⟨xs[i]'(by omega), List.getElem?_eq_getElem (by omega)⟩
theorem len3 {α : Type} : ∀ {l : List α}, l.length = 3 → ∃ a b c, l = [a, b, c]
  | [a, b, c], _ => ⟨a, b, c, rfl⟩
theorem len9 {α : Type} : ∀ {l : List α}, l.length = 9 → ∃ a b c d e f g h i, l = [a, b, c, d, e, f, g, h, i]
  | [a, b, c, d, e, f, g, h, i], _ => ⟨a, b, c, d, e, f, g, h, i, rfl⟩
theorem trod_K {fuel : Nat} {cs : List Value} {x : DataW H × List MemPlace} (h : DataW.trod enc Tryz.prog w base spare held fuel 24 cs = some x) : ∃ k : K, cs = kV k := by
  obtain ⟨xs, n, _, _, hl, hxl, hf⟩ := DataW.trod_struct Tryz.underlying24 h
  rw [c24] at hl
  obtain ⟨v0, v1, v2, rfl⟩ := len3 hl
  obtain ⟨x0, y0⟩ := get_at hxl (i := 0) (by decide)
  obtain ⟨x1, y1⟩ := get_at hxl (i := 1) (by decide)
  obtain ⟨x2, y2⟩ := get_at hxl (i := 2) (by decide)
  have h0 : DataW.trod enc Tryz.prog w base spare held n 9 (([v0, v1, v2].drop 0).take (Tryz.prog.cellsOf 9)) = some x0 := (hf 0 _ rfl).trans y0
  rw [c9] at h0
  have h1 : DataW.trod enc Tryz.prog w base spare held n 9 (([v0, v1, v2].drop 1).take (Tryz.prog.cellsOf 9)) = some x1 := (hf 1 _ rfl).trans y1
  rw [c9] at h1
  have h2 : DataW.trod enc Tryz.prog w base spare held n 3 (([v0, v1, v2].drop 2).take (Tryz.prog.cellsOf 3)) = some x2 := (hf 2 _ rfl).trans y2
  rw [c3] at h2
  obtain ⟨s0, e0, _, _⟩ := DataW.trod_string Tryz.underlying9 h0
  obtain ⟨s1, e1, _, _⟩ := DataW.trod_string Tryz.underlying9 h1
  obtain ⟨s2, e2, _, _⟩ := DataW.trod_int Tryz.underlying3 h2
  simp at e0 e1 e2
  subst e0 e1 e2
  exact ⟨⟨s0.data.toList, s1.data.toList, s2⟩, rfl⟩
theorem trod_Ev {fuel : Nat} {cs : List Value} {x : DataW H × List MemPlace} (h : DataW.trod enc Tryz.prog w base spare held fuel 26 cs = some x) : ∃ e : Ev, cs = evV e := by
  obtain ⟨xs, n, _, _, hl, hxl, hf⟩ := DataW.trod_struct Tryz.underlying26 h
  rw [c26] at hl
  obtain ⟨v0, v1, v2, v3, v4, v5, v6, v7, v8, rfl⟩ := len9 hl
  obtain ⟨x0, y0⟩ := get_at hxl (i := 0) (by decide)
  obtain ⟨x1, y1⟩ := get_at hxl (i := 1) (by decide)
  obtain ⟨x2, y2⟩ := get_at hxl (i := 2) (by decide)
  obtain ⟨x3, y3⟩ := get_at hxl (i := 3) (by decide)
  obtain ⟨x4, y4⟩ := get_at hxl (i := 4) (by decide)
  obtain ⟨x5, y5⟩ := get_at hxl (i := 5) (by decide)
  obtain ⟨x6, y6⟩ := get_at hxl (i := 6) (by decide)
  have h0 : DataW.trod enc Tryz.prog w base spare held n 3 (([v0, v1, v2, v3, v4, v5, v6, v7, v8].drop 0).take (Tryz.prog.cellsOf 3)) = some x0 := (hf 0 _ rfl).trans y0
  rw [c3] at h0
  have h1 : DataW.trod enc Tryz.prog w base spare held n 24 (([v0, v1, v2, v3, v4, v5, v6, v7, v8].drop 1).take (Tryz.prog.cellsOf 24)) = some x1 := (hf 1 _ rfl).trans y1
  rw [c24] at h1
  have h2 : DataW.trod enc Tryz.prog w base spare held n 3 (([v0, v1, v2, v3, v4, v5, v6, v7, v8].drop 4).take (Tryz.prog.cellsOf 3)) = some x2 := (hf 2 _ rfl).trans y2
  rw [c3] at h2
  have h3 : DataW.trod enc Tryz.prog w base spare held n 3 (([v0, v1, v2, v3, v4, v5, v6, v7, v8].drop 5).take (Tryz.prog.cellsOf 3)) = some x3 := (hf 3 _ rfl).trans y3
  rw [c3] at h3
  have h4 : DataW.trod enc Tryz.prog w base spare held n 3 (([v0, v1, v2, v3, v4, v5, v6, v7, v8].drop 6).take (Tryz.prog.cellsOf 3)) = some x4 := (hf 4 _ rfl).trans y4
  rw [c3] at h4
  have h5 : DataW.trod enc Tryz.prog w base spare held n 9 (([v0, v1, v2, v3, v4, v5, v6, v7, v8].drop 7).take (Tryz.prog.cellsOf 9)) = some x5 := (hf 5 _ rfl).trans y5
  rw [c9] at h5
  have h6 : DataW.trod enc Tryz.prog w base spare held n 4 (([v0, v1, v2, v3, v4, v5, v6, v7, v8].drop 8).take (Tryz.prog.cellsOf 4)) = some x6 := (hf 6 _ rfl).trans y6
  rw [c4] at h6
  obtain ⟨s0, e0, _, _⟩ := DataW.trod_int Tryz.underlying3 h0
  obtain ⟨k, e1⟩ := trod_K h1
  obtain ⟨s2, e2, _, _⟩ := DataW.trod_int Tryz.underlying3 h2
  obtain ⟨s3, e3, _, _⟩ := DataW.trod_int Tryz.underlying3 h3
  obtain ⟨s4, e4, _, _⟩ := DataW.trod_int Tryz.underlying3 h4
  obtain ⟨s5, e5, _, _⟩ := DataW.trod_string Tryz.underlying9 h5
  obtain ⟨s6, e6, _⟩ := DataW.trod_bool Tryz.underlying4 h6
  simp [kV] at e0 e1 e2 e3 e4 e5 e6
  obtain ⟨r1, r2, r3⟩ := e1
  subst e0 r1 r2 r3 e2 e3 e4 e5 e6
  exact ⟨⟨s0, k, s2, s3, s4, s5.data.toList, s6⟩, rfl⟩
/-- a slice of rows: what it holds, as a list -/
theorem trod_rows {α : Type} [Inhabited α] {t e sz : Nat} {A : α → List AV} {V : α → List Value} (ht : Tryz.prog.underlying t = some (.slice e)) (hc : Tryz.prog.cellsOf e = sz) (hz : 0 < sz)
    (hV : ∀ {fuel : Nat} {cs : List Value} {x : DataW H × List MemPlace}, DataW.trod enc Tryz.prog w base spare held fuel e cs = some x → ∃ a : α, cs = V a)
    (hA : ∀ (a : α), DenL (impI w) none (A a) (V a)) (hone : ∀ (a : α), ∀ v ∈ V a, v.oneCell' = true) (hsz : ∀ (a : α), (V a).length = sz)
    {fuel : Nat} {cs : List Value} {x : DataW H × List MemPlace} (h : DataW.trod enc Tryz.prog w base spare held fuel t cs = some x) :
    ∃ (v : Value) (l : List α), cs = [v] ∧ l.length ≤ maxLen ∧ Den (impI w) none (.sl sz l.length fun i => A (l.getD i default)) v := by
  rcases open_slice ht h with ⟨rfl, _⟩ | ⟨a, len, cap, m, n, D, Pl, rfl, hb, hl, hm, hmm, hx, hi⟩
  · exact ⟨_, [], rfl, Nat.zero_le _, none, 0, rfl, Nat.le_refl _, Nat.zero_le _, .inl rfl⟩
  · rw [hc] at hi
    have hlm : len ≤ m := by rw [hmm]; split <;> omega
    have hex : ∀ i : Nat, ∃ y : α, i < len → ∀ j v, (V y)[j]? = some v → w.cell? ((a.add (i * sz)).add j) = some v := by
      intro i
      by_cases hil : i < len
      · obtain ⟨cs', q1, q2⟩ := hi i (by omega)
        obtain ⟨y, hy⟩ := hV q2
        obtain ⟨_, q3, q4⟩ := World.cells?_some q1
        refine ⟨y, fun _ j v hv => ?_⟩
        rw [← hy] at hv
        have hj : j < cs'.length := (List.getElem?_eq_some_iff.1 hv).1
        rw [q4 j (by omega), hv]
      · exact ⟨default, fun h => absurd h hil⟩
    obtain ⟨g, hg⟩ := Classical.axiomOfChoice hex
    refine ⟨_, (List.range len).map g, rfl, by simp; omega, some a, cap, by simp, by simp; exact hl, hm, ?_⟩
    by_cases h0 : len = 0
    · left; simp [h0]
    right
    have hsp : a.spot = none := by
      have hp : 0 < (V (g 0)).length := by rw [hsz]; exact hz
      have := hg 0 (by omega) 0 _ (List.getElem?_eq_getElem hp)
      simp only [Nat.zero_mul, Addr.add, if_true] at this
      unfold World.cell? at this
      cases hs : a.spot with
      | none => rfl
      | some s =>
        rw [hs] at this
        split at this
        · simp at this
        · cases this
    obtain ⟨b, o, s⟩ := a
    dsimp only at hsp
    subst hsp
    refine ⟨b, o, rfl, fun i hil => ?_⟩
    have hil' : i < len := by simpa using hil
    have hget : ((List.range len).map g).getD i default = g i := by simp [List.getD_eq_getElem?_getD, hil']
    dsimp only
    rw [hget]
    refine ⟨V (g i), hsz _, fun j v hv => ?_, hA _⟩
    have hc' := hg i hil' j v hv
    rw [Go.Deep.add_add] at hc'
    refine impI_of ?_ (hone _ v (List.mem_of_getElem? hv))
    have : (Addr.add ⟨b, o, none⟩ (i * sz + j)) = ⟨b, o + i * sz + j, none⟩ := by
      unfold Addr.add
      split
      · rename_i h0; simp at h0 ⊢
      · simp only [Nat.add_assoc]
    rwa [this] at hc'
theorem evV_one (e : Ev) : ∀ v ∈ evV e, v.oneCell' = true := by
  intro v hv
  simp only [evV, List.mem_cons, List.not_mem_nil, or_false] at hv
  rcases hv with rfl | rfl | rfl | rfl | rfl | rfl | rfl | rfl | rfl <;> rfl
theorem trod_Evs {fuel : Nat} {cs : List Value} {x : DataW H × List MemPlace} (h : DataW.trod enc Tryz.prog w base spare held fuel 22 cs = some x) :
    ∃ (v : Value) (l : List Ev), cs = [v] ∧ l.length ≤ maxLen ∧ Den (impI w) none (evsA l) v :=
  trod_rows (A := evA) (V := evV) Tryz.underlying22 c26 (by decide) trod_Ev (evV_den _) evV_one (fun _ => rfl) h
end
end Go.Proofs.YtgnhmklpekgndaaGreatDoor
end
/- part BkCard0 -/
section
namespace Go.Proofs.YtgnhmklpekgndaaGreatDoor
open Go Go.Av Go.Pu Go.Deep
open Go.ChangeShapes Go.WideShapes Go.ChangeAt Go.RowKit
section
variable {H : Type} {enc : TypeId × Value → H} {P : Program}
theorem post_of_below {f : Func} {s : ChangeSpec} {apart fresh handsOn again : Bool} {W W' : World} {args : Array Value} {v : Value} {ds gs : List (DataW H)} {before pa pv : List MemPlace}
    (hW : DataW.Whole enc P f.params.toList s.vars apart W args.toList ds gs before)
    (hres : ∀ (b : Nat) (sp : Nat → Bool) (hd : Bool), DataW.TrodAll enc P W' b sp hd f.resultTypes.toList (v.resultList f.resultTypes.size) (s.fn H (ds ++ gs)).results [])
    (hargs : ∀ sp : Nat → Bool, (∀ p ∈ before, sp p.block = true) → DataW.TrodAll enc P W' 0 sp true f.params.toList args.toList (s.fn H (ds ++ gs)).args pa)
    (hvars : ∀ sp : Nat → Bool, (∀ p ∈ before, sp p.block = true) → DataW.TrodVars enc P W' sp s.vars (s.fn H (ds ++ gs)).vars pv)
    (hps : before = pa ++ pv) (hb : Below W.heap.size W W')
    (hok : ∀ (j : Nat) (t : TypeId) (r : Value), f.resultTypes[j]? = some t → (v.resultList f.resultTypes.size)[j]? = some r → Value.okWide P W' .any 0 t r) :
    s.post enc P f apart fresh handsOn again W args v W' := by
  have hlt : ∀ p ∈ before, p.block < W.heap.size := fun p hp => hW.lt p hp
  have hold : ∀ p ∈ before, (fun b => decide (b < W.heap.size)) p.block = true := fun p hp => by simpa using hlt p hp
  refine ⟨ds, gs, before, [], pa, pv, hW, hres _ _ _, hargs _ hold, hvars _ hold, World.keptBut_mono (fun p hp => ⟨hp, ?_⟩) (hb.frame (· ∈ before)), fun _ => ?_⟩
  · rw [hps, List.mem_append] at hp
    exact Or.inr hp
  · obtain ⟨_, _, _, _, _, hz, hn⟩ := hW
    refine ⟨hok, _, _, ([] ++ pa) ++ pv, ⟨[] ++ pa, pv, trodAll_append (hargs _ (fun _ _ => rfl)) (hres _ _ _), hvars _ (fun _ _ => rfl), rfl, ?_, ?_⟩, ?_⟩
    · intro b off hp
      have hin : MemPlace.cell b off ∈ before := by rw [hps]; simpa using hp
      rw [hb.frozen (hlt _ hin)]
      exact hz b off hin
    · intro ha
      have := hn ha
      rw [hps] at this
      simpa using this
    · intro p hp _
      rw [hps]
      simpa using hp
end
theorem door_met (os : Os) (args : Array Value) : laidMetH Tryz.prog laid3 ((World.doorLaid Tryz.prog 4000 os).forCall (fun _ _ => 0) ⟨#[], args, []⟩).memory :=
  laidMetH_of_parts3 (fuel := 8) (laidMet_of_run' 8 (by kernel_rfl) (by kernel_rfl)) (by kernel_rfl) (by kernel_rfl)
end Go.Proofs.YtgnhmklpekgndaaGreatDoor
end
/- part BkLift3 -/
section
namespace Go.Proofs.YtgnhmklpekgndaaGreatDoor
open Go Go.Av Go.Pu Go.Deep
open Go.ChangeShapes Go.WideShapes Go.ChangeAt Go.RowKit
theorem c52 : Tryz.prog.cellsOf 52 = 4 := by kernel_rfl
section
variable {H : Type} {enc : TypeId × Value → H} {w : World} {base : Nat} {spare : Nat → Bool} {held : Bool}
def arV (r : AR) : List Value := [.int .i64 r.kind, .int .i64 r.most, .int .i64 r.pause, .int .i64 r.keep]
theorem arV_den (I : Imm) (r : AR) : DenL I none (arA r) (arV r) := ⟨_, _, rfl, rfl, _, _, rfl, rfl, _, _, rfl, rfl, _, _, rfl, rfl, rfl⟩
theorem len4 {α : Type} : ∀ {l : List α}, l.length = 4 → ∃ a b c d, l = [a, b, c, d]
  | [a, b, c, d], _ => ⟨a, b, c, d, rfl⟩
theorem trod_AR {fuel : Nat} {cs : List Value} {x : DataW H × List MemPlace} (h : DataW.trod enc Tryz.prog w base spare held fuel 52 cs = some x) : ∃ r : AR, cs = arV r := by
  obtain ⟨xs, n, _, _, hl, hxl, hf⟩ := DataW.trod_struct Tryz.underlying52 h
  rw [c52] at hl
  obtain ⟨v0, v1, v2, v3, rfl⟩ := len4 hl
  obtain ⟨x0, y0⟩ := get_at hxl (i := 0) (by decide)
  obtain ⟨x1, y1⟩ := get_at hxl (i := 1) (by decide)
  obtain ⟨x2, y2⟩ := get_at hxl (i := 2) (by decide)
  obtain ⟨x3, y3⟩ := get_at hxl (i := 3) (by decide)
  have h0 : DataW.trod enc Tryz.prog w base spare held n 3 (([v0, v1, v2, v3].drop 0).take (Tryz.prog.cellsOf 3)) = some x0 := (hf 0 _ rfl).trans y0
  have h1 : DataW.trod enc Tryz.prog w base spare held n 3 (([v0, v1, v2, v3].drop 1).take (Tryz.prog.cellsOf 3)) = some x1 := (hf 1 _ rfl).trans y1
  have h2 : DataW.trod enc Tryz.prog w base spare held n 3 (([v0, v1, v2, v3].drop 2).take (Tryz.prog.cellsOf 3)) = some x2 := (hf 2 _ rfl).trans y2
  have h3 : DataW.trod enc Tryz.prog w base spare held n 3 (([v0, v1, v2, v3].drop 3).take (Tryz.prog.cellsOf 3)) = some x3 := (hf 3 _ rfl).trans y3
  rw [c3] at h0 h1 h2 h3
  obtain ⟨s0, e0, _, _⟩ := DataW.trod_int Tryz.underlying3 h0
  obtain ⟨s1, e1, _, _⟩ := DataW.trod_int Tryz.underlying3 h1
  obtain ⟨s2, e2, _, _⟩ := DataW.trod_int Tryz.underlying3 h2
  obtain ⟨s3, e3, _, _⟩ := DataW.trod_int Tryz.underlying3 h3
  simp at e0 e1 e2 e3
  subst e0 e1 e2 e3
  exact ⟨⟨s0, s1, s2, s3⟩, rfl⟩
end
end Go.Proofs.YtgnhmklpekgndaaGreatDoor
end
