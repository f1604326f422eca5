/-
  HELPING TEXT, shared by the claims on the book. Own work (AI agent).
-/
import Derived.Test.YtgnhmklpekgndaaGreatDoorStuB
import Derived.KernelRfl
set_option linter.all false
/- part AvApp2 -/
section
namespace Go.Av
section
variable {P : Program} {C : Ctx P} {s : St} {a : Act} {w : World} {I : Imm} {g : Nat → Value} {ow : Nat → List Nat}
/-- rows of sz cells, each read as f i: all cells one behind the other -/
theorem row_cells {sz : Nat} (J : Nat → Option Value) : ∀ (n : Nat) (f : Nat → List AV), (∀ i, i < n → ∃ vs, vs.length = sz ∧ (∀ j v, vs[j]? = some v → J (i * sz + j) = some v) ∧ DenL I none (f i) vs) →
    ∃ news : List Value, news.length = n * sz ∧ (∀ j v, news[j]? = some v → J j = some v) ∧ ∀ i, i < n → DenL I none (f i) ((news.drop (i * sz)).take sz)
  | 0, _, _ => ⟨[], by simp, by simp, fun i hi => by omega⟩
  | n + 1, f, h => by
    obtain ⟨news, h1, h2, h3⟩ := row_cells J n f (fun i hi => h i (by omega))
    obtain ⟨vs, k1, k2, k3⟩ := h n (by omega)
    refine ⟨news ++ vs, by rw [List.length_append, h1, k1, Nat.add_mul, Nat.one_mul], fun j v hj => ?_, fun i hi => ?_⟩
    · rw [List.getElem?_append] at hj
      split at hj
      · exact h2 j v hj
      · have := k2 _ v hj
        rw [h1] at this
        rw [← this]
        congr 1
        omega
    · by_cases hin : i < n
      · have hle : i * sz + sz ≤ n * sz := by rw [← Nat.succ_mul]; exact Nat.mul_le_mul_right sz hin
        rw [List.drop_append_of_le_length (by omega), List.take_append_of_le_length (by rw [List.length_drop]; omega)]
        exact h3 i hin
      · have : i = n := by omega
        subst this
        rw [← h1, List.drop_left, ← k1, List.take_length]
        exact k3
theorem source_sound (h : SatAt C s a w I g ow) {sz : Nat} {av : AV} {u : Value} (hd : Den I (some g) av u) {m : Nat} {gf : Nat → List AV} (he : source s.rts sz av = some (m, gf)) :
    ∃ news : List Value, news.length = m * sz ∧ (∀ x ∈ news, x.oneCell' = true) ∧ (∀ i, i < m → DenL I none (gf i) ((news.drop (i * sz)).take sz)) ∧
      (∀ w', (Builtin.lenOf u).run P w' = .ok m w') ∧ (∀ w', w'.heap = w.heap → (Builtin.firstCells sz m u).run P w' = .ok ⟨news⟩ w') := by
  have hce : ∀ w' : World, w'.heap = w.heap → ∀ ad : Addr, w'.cell? ad = w.cell? ad := fun w' hh ad => by simp [World.cell?, hh]
  cases av <;> simp only [source] at he <;> first | (cases he; done) | skip
  case str l =>
    cases hs : Nat.beq sz 1 <;> simp only [hs, cond_true, cond_false, Option.some.injEq, Prod.mk.injEq, reduceCtorEq] at he
    cases beq_iff.1 hs
    obtain ⟨rfl, rfl⟩ := he
    have hd : u = .string ⟨⟨l⟩⟩ := hd
    subst hd
    refine ⟨l.map (fun b => .int .u8 b.toNat), by simp, by intro x hx; obtain ⟨b, _, rfl⟩ := List.mem_map.1 hx; rfl, fun i hi => ?_, fun w' => by simp [Builtin.lenOf]; rfl, ?_⟩
    · have hL : ((l.map (fun b => Value.int .u8 (b.toNat : Int))).drop (i * 1)).take 1 = [Value.int .u8 (l[i].toNat : Int)] := by
        rw [Nat.mul_one, List.drop_eq_getElem_cons (by simpa using hi)]
        simp
      rw [hL]
      refine ⟨_, _, rfl, ?_, rfl⟩
      show Value.int .u8 _ = .int .u8 _
      rw [List.getD_eq_getElem?_getD, List.getElem?_eq_getElem hi]
      rfl
    · have hex : (⟨⟨l⟩⟩ : ByteArray).extract 0 l.length = ⟨⟨l⟩⟩ := by
        apply ByteArray.ext
        rw [ByteArray.data_extract]
        apply Array.ext'
        simp
      intro w' _
      simp [Builtin.firstCells, hex]
  case sl sz' n f =>
    cases hs : Nat.beq sz sz' <;> simp only [hs, cond_true, cond_false, Option.some.injEq, Prod.mk.injEq, reduceCtorEq] at he
    cases beq_iff.1 hs
    obtain ⟨rfl, rfl⟩ := he
    obtain ⟨ad, c, rfl, hnc, hcm, hcell⟩ := hd
    rcases Nat.eq_zero_or_pos n with h0 | h0
    · subst h0
      refine ⟨[], by simp, by simp, fun i hi => by omega, fun w' => by simp [Builtin.lenOf], ?_⟩
      intro w' _
      cases ad with
      | none => simp [Builtin.firstCells]
      | some b => simp [Builtin.firstCells, loadCells, loadCellsFrom]
    · rcases hcell with h1 | ⟨b, o, rfl, hc⟩
      · omega
      · obtain ⟨news, n1, n2, n3⟩ := row_cells (fun j => I b (o + j)) n f (fun i hi => by
          obtain ⟨vs, k1, k2, k3⟩ := hc i hi
          exact ⟨vs, k1, fun j v hj => by have := k2 j v hj; rw [← Nat.add_assoc]; exact this, k3⟩)
        refine ⟨news, n1, fun x hx => ?_, n3, fun w' => by simp [Builtin.lenOf], ?_⟩
        · obtain ⟨j, hj⟩ := List.mem_iff_getElem?.1 hx
          exact h.one _ _ _ (n2 j x hj)
        · intro w' hh
          have := run_firstCells_some (P := P) w' sz n ⟨b, o, none⟩ n c news n1 (fun j v hj => by rw [add_none, hce w' hh]; exact h.imm _ _ _ (n2 j v hj))
          simpa using this
  case nils =>
    simp only [Option.some.injEq, Prod.mk.injEq] at he
    obtain ⟨rfl, rfl⟩ := he
    have hd : u = .slice none 0 0 := hd
    subst hd
    exact ⟨[], by simp, by simp, fun i hi => by omega, fun w' => by simp [Builtin.lenOf], fun w' _ => by simp [Builtin.firstCells]⟩
  case emp =>
    simp only [Option.some.injEq, Prod.mk.injEq] at he
    obtain ⟨rfl, rfl⟩ := he
    obtain ⟨ad, rfl⟩ := hd
    refine ⟨[], by simp, by simp, fun i hi => by omega, fun w' => by simp [Builtin.lenOf], ?_⟩
    intro w' _
    cases ad with
    | none => simp [Builtin.firstCells]
    | some b => simp [Builtin.firstCells, loadCells, loadCellsFrom]
  case ref q =>
    split at he <;> first | (cases he; done) | skip
    rename_i e sz' n f hr
    cases hs : Nat.beq sz sz' <;> simp only [hs, cond_true, cond_false, Option.some.injEq, Prod.mk.injEq, reduceCtorEq] at he
    cases beq_iff.1 hs
    obtain ⟨rfl, rfl⟩ := he
    obtain ⟨g', hg, rfl, -⟩ := hd
    cases hg
    rcases h.rts q _ hr with ⟨ad, hq, rfl⟩ | ⟨b, cap, cur, hq, hw, hb, hnc, hcm, hcs, ho1, hcl⟩
    · rw [hq]
      refine ⟨[], by simp, by simp, fun i hi => by omega, fun w' => by simp [Builtin.lenOf], ?_⟩
      intro w' _
      cases ad with
      | none => simp [Builtin.firstCells]
      | some b => simp [Builtin.firstCells, loadCells, loadCellsFrom]
    · rw [hq]
      have hle : n * sz ≤ cap * sz := Nat.mul_le_mul_right sz hnc
      refine ⟨cur.toList.take (n * sz), by rw [List.length_take, Array.length_toList]; omega, fun x hx => ho1 x (List.mem_of_mem_take hx), fun i hi => ?_, fun w' => by simp [Builtin.lenOf], ?_⟩
      · have h1 : i * sz + sz ≤ n * sz := by rw [← Nat.succ_mul]; exact Nat.mul_le_mul_right sz hi
        have : ((cur.toList.take (n * sz)).drop (i * sz)).take sz = (cur.toList.drop (i * sz)).take sz := by
          rw [List.drop_take, List.take_take]
          congr 1
          omega
        rw [this]
        exact hcl i hi
      · intro w' hh
        have := run_firstCells_some (P := P) w' sz n ⟨b, 0, none⟩ n cap (cur.toList.take (n * sz)) (by rw [List.length_take, Array.length_toList]; omega) (fun j v hj => by
          rw [add_none, hce w' hh, cell_heap hb, Nat.zero_add]
          rw [List.getElem?_take] at hj
          split at hj
          · exact hj
          · cases hj)
        rw [this]
/-- append, the appended values known -/
theorem run_app_room {t u ty e : TypeId} (ht : P.underlying t = some (.slice e)) (hu : (∃ e', P.underlying u = some (.slice e')) ∨ P.underlying u = some .string) (hz : zeroOk P e = true)
    {b n cap m : Nat} {x : Value} {cur : Array Value} {news : List Value} (hb : w.heap[b]? = some (.cells cur e (0, 0))) (hcs : cur.size = cap * sizeT P e) (hnl : news.length = m * sizeT P e) (hone : ∀ x ∈ news, x.oneCell' = true)
    (hlen : ∀ w', (Builtin.lenOf x).run P w' = .ok m w') (hfc : (Builtin.firstCells (sizeT P e) m x).run P w = .ok ⟨news⟩ w) (hroom : n + m ≤ cap) :
    (Builtin.append_ #[t, u] ty #[.slice (some ⟨b, 0, none⟩) n cap, x]).run P w = .ok (.slice (some ⟨b, 0, none⟩) (n + m) cap) (w.setRow b ⟨cur.toList.take (n * sizeT P e) ++ news ++ cur.toList.drop (n * sizeT P e + news.length)⟩) := by
  obtain ⟨i, z, hi, hz1, hz2, hz3, hz4, hby, _⟩ := zero_cells hz
  have hso : ∀ w, (sizeOf e).run P w = .ok (sizeT P e) w := fun w => by simp [sizeOf, typeInfo, hi, hz3]
  have hle : (n + m) * sizeT P e ≤ cap * sizeT P e := Nat.mul_le_mul_right _ hroom
  rw [Nat.add_mul] at hle
  have hst := run_storeCells_at P b (n * sizeT P e) e news 0 cur w hb (by omega) hone
  simp only [Nat.add_zero] at hst
  rcases hu with ⟨e', hu⟩ | hu <;>
    simp [Builtin.append_, underlying, ht, hu, hso, hlen, hroom, hfc, add_none, hst]
theorem run_app_grow {t u ty e : TypeId} (ht : P.underlying t = some (.slice e)) (hu : (∃ e', P.underlying u = some (.slice e')) ∨ P.underlying u = some .string) (hz : zeroOk P e = true)
    {ba : Option Addr} {n cap m : Nat} {x : Value} {news olds : List Value} 
    (hlen : ∀ w', (Builtin.lenOf x).run P w' = .ok m w') (hfc : (Builtin.firstCells (sizeT P e) m x).run P w.drew = .ok ⟨news⟩ w.drew) (hold : (Builtin.firstCells (sizeT P e) n (.slice ba n cap)).run P w.drew = .ok ⟨olds⟩ w.drew)
    (hroom : cap < n + m) (h63 : n + m ≤ 9223372036854775807) (hbytes : (n + m) * bytesT P e ≤ 140737488355328) :
    ∃ z : Value, z.cells.size = sizeT P e ∧ (∀ u ∈ z.cells.toList, u.oneCell' = true) ∧
    (Builtin.append_ #[t, u] ty #[.slice ba n cap, x]).run P w = .ok (.slice (some ⟨w.heap.size, 0, none⟩) (n + m) (grownCap w (n + m) cap e))
      (w.drew.alloc (.cells (⟨olds⟩ ++ ⟨news⟩ ++ Builtin.zeroCells z.cells (grownCap w (n + m) cap e - (n + m))) e)) := by
  obtain ⟨i, z, hi, hz1, hz2, hz3, hz4, hby, hzo⟩ := zero_cells hz
  have hso : ∀ w, (sizeOf e).run P w = .ok (sizeT P e) w := fun w => by simp [sizeOf, typeInfo, hi, hz3]
  have hti : ∀ w, (typeInfo e).run P w = .ok i w := fun w => by simp [typeInfo, hi]
  have hzv : ∀ w, (zeroValue e).run P w = .ok z w := fun w => by simp [zeroValue, typeInfo, hi, hz1]
  have hfit := growslice_fits hroom hbytes
  rw [← hby] at hfit
  have h1 : ¬ (n + m ≤ cap) := by omega
  have h2' : ¬ (9223372036854775807 < ((n : Int) + (m : Int))) := by omega
  have h3 : ¬ (281474976710656 < Builtin.nextslicecap (n + m) cap * i.bytes) := by omega
  have hmx : (IntKind.i64.max : Int) = 9223372036854775807 := by decide
  refine ⟨z, hz4, by rw [hz2]; exact hzo, ?_⟩
  rcases hu with ⟨e', hu⟩ | hu <;>
    (simp [Builtin.append_, underlying, ht, hu, hso, hti, hzv, hlen, h1, h2', h3, hmx, hfc, hold, Question.forced, newRow, grownCap]; congr 2; apply Array.ext'; simp)

theorem joined_row {sz n m : Nat} {f gf : Nat → List AV} {olds news rest : List Value} (ho : olds.length = n * sz) (hn : news.length = m * sz)
    (h1 : ∀ i, i < n → DenL I none (f i) ((olds.drop (i * sz)).take sz)) (h2 : ∀ i, i < m → DenL I none (gf i) ((news.drop (i * sz)).take sz)) (i : Nat) (hi : i < n + m) :
    DenL I none (joined n f gf i) (((olds ++ news ++ rest).drop (i * sz)).take sz) := by
  simp only [joined]
  by_cases hin : i < n
  · have hle : i * sz + sz ≤ n * sz := by rw [← Nat.succ_mul]; exact Nat.mul_le_mul_right sz hin
    have : Nat.blt i n = true := by rw [Nat.blt_eq]; exact hin
    rw [this, cond_true, List.append_assoc, List.drop_append_of_le_length (by omega), List.take_append_of_le_length (by rw [List.length_drop]; omega)]
    exact h1 i hin
  · have : Nat.blt i n = false := by
      cases hb : Nat.blt i n
      · rfl
      · rw [Nat.blt_eq] at hb; omega
    rw [this, cond_false]
    have hle : (i - n) * sz + sz ≤ m * sz := by rw [← Nat.succ_mul]; exact Nat.mul_le_mul_right sz (by omega)
    have e1 : i * sz = olds.length + (i - n) * sz := by rw [ho, ← Nat.add_mul]; congr 1; omega
    rw [List.append_assoc, e1, List.drop_length_add_append, List.drop_append_of_le_length (by omega), List.take_append_of_le_length (by rw [List.length_drop]; omega)]
    exact h2 _ (by omega)
theorem app_fin {sz n m cap : Nat} {olds news : List Value} {z : Value} (ho : olds.length = n * sz) (hn : news.length = m * sz) (hzs : z.cells.size = sz) (hcap : n + m ≤ cap) :
    ((⟨olds⟩ : Array Value) ++ ⟨news⟩ ++ Builtin.zeroCells z.cells (cap - (n + m))).size = cap * sz ∧
    ((⟨olds⟩ : Array Value) ++ ⟨news⟩ ++ Builtin.zeroCells z.cells (cap - (n + m))).toList = olds ++ news ++ (Builtin.zeroCells z.cells (cap - (n + m))).toList := by
  refine ⟨?_, by simp⟩
  simp only [Array.size_append, List.size_toArray, ho, hn, size_zeroCells, hzs, ← Nat.add_mul]
  congr 1
  omega
theorem zeroCells_one {z : Value} (h : ∀ u ∈ z.cells.toList, u.oneCell' = true) (n : Nat) : ∀ u ∈ (Builtin.zeroCells z.cells n).toList, u.oneCell' = true := by
  intro u hu
  simp only [Builtin.zeroCells, Array.toList_map, List.mem_map] at hu
  obtain ⟨i, hi, rfl⟩ := hu
  by_cases h0 : z.cells.size = 0
  · simp [h0] at hi
  · have hlt : i % z.cells.size < z.cells.size := Nat.mod_lt _ (by omega)
    rw [getElem!_pos z.cells _ hlt]
    exact h _ (Array.getElem_mem_toList hlt)
/-- a name for a slice without elements -/
theorem sat_none (h : SatAt C s a w I g ow) {d : Nat} (hd : d < C.nt) (hf : fresh d s = true) (ad : Option Addr) (e sz : Nat) (f : Nat → List AV) :
    SatAt C ⟨(d, .ref d) :: s.env, (d, .row e sz 0 f) :: s.rts⟩ (a.put (some d) (.slice ad 0 0)) w I (upd g d (.slice ad 0 0)) ow := by
  simp only [fresh, Bool.and_eq_true] at hf
  refine { defers := h.defers, size := by simpa [Act.put] using h.size, env := ?_, rts := ?_, imm := h.imm, one := h.one, sep := h.sep, new := h.new, lt := h.lt, ile := h.ile, iold := h.iold, os := h.os, tape := h.tape, output := h.output, hsize := h.hsize, kept := h.kept, pin := pin_upd h.pin (Nat.lt_of_lt_of_le hd h.ntb) _, ntb := h.ntb }
  · intro t
    rw [getD_put]
    simp only [look_cons]
    by_cases ht : d = t
    · subst ht
      have : d < a.tmps.size := Nat.lt_of_lt_of_le hd h.size
      simp only [this, and_self, if_true]
      exact ⟨_, rfl, (upd_same _ _ _).symm, _, _, _, rfl⟩
    · have := env_name h hf.1 (.slice ad 0 0) t
      simpa [ht] using this
  · intro q r' hq
    rw [lookR_cons] at hq
    split at hq
    · rename_i hdq
      subst hdq
      cases hq
      exact .inl ⟨ad, upd_same _ _ _, rfl⟩
    · obtain ⟨h1, h2⟩ := freshR_look hf.2 q r' hq
      exact RtOK.name (h.rts q r' hq) h1 h2 (fun b _ _ => rfl) (fun b _ hb => hb)
/-- append grows: a new block -/
theorem app_new (h : SatAt C s a w I g ow) {d : Nat} (hd : d < C.nt) (hf : fresh d s = true) {t u ty e : TypeId} (ht : P.underlying t = some (.slice e)) (hu : (∃ e', P.underlying u = some (.slice e')) ∨ P.underlying u = some .string) (hz : zeroOk P e = true)
    {ba : Option Addr} {n cap m : Nat} {x : Value} {news olds : List Value} {f gf : Nat → List AV} (ho : olds.length = n * sizeT P e) (hn : news.length = m * sizeT P e)
    (hlen : ∀ w', (Builtin.lenOf x).run P w' = .ok m w') (hfc : (Builtin.firstCells (sizeT P e) m x).run P w.drew = .ok ⟨news⟩ w.drew) (hold : (Builtin.firstCells (sizeT P e) n (.slice ba n cap)).run P w.drew = .ok ⟨olds⟩ w.drew)
    (hroom : cap < n + m) (h63 : n + m ≤ 9223372036854775807) (hbytes : (n + m) * bytesT P e ≤ 140737488355328)
    (h1 : ∀ i, i < n → DenL I none (f i) ((olds.drop (i * sizeT P e)).take (sizeT P e))) (h2 : ∀ i, i < m → DenL I none (gf i) ((news.drop (i * sizeT P e)).take (sizeT P e)))
    (o1 : ∀ u ∈ olds, u.oneCell' = true) (o2 : ∀ u ∈ news, u.oneCell' = true) :
    ∃ v' w', (Builtin.append_ #[t, u] ty #[.slice ba n cap, x]).run P w = .ok v' w' ∧ Sat C ⟨(d, .ref d) :: s.env, (d, .row e (sizeT P e) (n + m) (joined n f gf)) :: s.rts⟩ (a.put (some d) v') w' := by
  obtain ⟨z, z1, z2, hr⟩ := run_app_grow (P := P) (w := w) (ty := ty) (ba := ba) (n := n) (cap := cap) ht hu hz hlen hfc hold hroom h63 hbytes
  have hge := grownCap_ge w (n + m) cap e
  have hcm : grownCap w (n + m) cap e ≤ maxLen := grownCap_le_maxLen w (n + m) cap e (by unfold maxLen; omega)
  obtain ⟨q1, q2⟩ := app_fin (sz := sizeT P e) (n := n) (m := m) (cap := grownCap w (n + m) cap e) (olds := olds) (news := news) (z := z) ho hn z1 hge
  refine ⟨_, _, hr, I, _, _, sat_alloc h hd hf (w1 := w.drew) rfl rfl rfl rfl (e := e) (v := .slice (some ⟨w.heap.size, 0, none⟩) (n + m) (grownCap w (n + m) cap e)) ⟨_, rfl, (upd_same _ _ _).symm, _, _, _, rfl⟩ ?_⟩
  intro w' ow' hw' how
  refine .inr ⟨w.heap.size, grownCap w (n + m) cap e, _, upd_same _ _ _, how, hw', hge, hcm, q1, ?_, fun i hi => ?_⟩
  · rw [q2]
    intro u hu
    simp only [List.mem_append] at hu
    rcases hu with (hu | hu) | hu
    · exact o1 u hu
    · exact o2 u hu
    · exact zeroCells_one z2 _ u hu
  · rw [q2]
    exact joined_row ho hn h1 h2 i hi
theorem joined_zero (f gf : Nat → List AV) : joined 0 f gf = gf := by
  funext i
  rfl
/-- append to a slice without elements and without room -/
theorem app_empty (h : SatAt C s a w I g ow) {d : Nat} (hd : d < C.nt) (hf : fresh d s = true) {t u ty e : TypeId} (ht : P.underlying t = some (.slice e)) (hu : (∃ e', P.underlying u = some (.slice e')) ∨ P.underlying u = some .string) (hz : zeroOk P e = true)
    {ad : Option Addr} {m : Nat} {x : Value} {news : List Value} {gf : Nat → List AV} (hn : news.length = m * sizeT P e)
    (hlen : ∀ w', (Builtin.lenOf x).run P w' = .ok m w') (hfc : ∀ w', w'.heap = w.heap → (Builtin.firstCells (sizeT P e) m x).run P w' = .ok ⟨news⟩ w') (h63 : m ≤ 9223372036854775807) (hbytes : m * bytesT P e ≤ 140737488355328)
    (h2 : ∀ i, i < m → DenL I none (gf i) ((news.drop (i * sizeT P e)).take (sizeT P e))) (o2 : ∀ u ∈ news, u.oneCell' = true) :
    ∃ v' w', (Builtin.append_ #[t, u] ty #[.slice ad 0 0, x]).run P w = .ok v' w' ∧ Sat C ⟨(d, .ref d) :: s.env, (d, .row e (sizeT P e) m gf) :: s.rts⟩ (a.put (some d) v') w' := by
  by_cases hm : m = 0
  · subst hm
    have hnn : news = [] := List.eq_nil_of_length_eq_zero (by simpa using hn)
    subst hnn
    have hr : (Builtin.append_ #[t, u] ty #[.slice ad 0 0, x]).run P w = .ok (.slice ad 0 0) w := by
      obtain ⟨i, z, hi, hz1, hz2, hz3, hz4, hby, _⟩ := zero_cells hz
      have hso : ∀ w, (sizeOf e).run P w = .ok (sizeT P e) w := fun w => by simp [sizeOf, typeInfo, hi, hz3]
      rcases hu with ⟨e', hu⟩ | hu <;> cases ad <;> simp [Builtin.append_, underlying, ht, hu, hso, hlen, hfc, storeCells]
    exact ⟨_, _, hr, I, _, _, sat_none h hd hf ad e _ gf⟩
  · have := app_new (P := P) (ty := ty) (f := gf) h hd hf ht hu hz (ba := ad) (n := 0) (cap := 0) (olds := []) (by simp) hn hlen (hfc w.drew rfl) (by
      cases ad with
      | none => simp [Builtin.firstCells]
      | some b => simp [Builtin.firstCells, loadCells, loadCellsFrom]) (by omega) (by omega) (by simpa using hbytes) (fun i hi => by omega) h2 (by simp) o2
    rw [joined_zero, Nat.zero_add] at this
    exact this
theorem joined_rowE {sz n m : Nat} {E : Nat → List Value → Prop} {olds news rest : List Value} (ho : olds.length = n * sz) (hn : news.length = m * sz)
    (h1 : ∀ i, i < n → E i ((olds.drop (i * sz)).take sz)) (h2 : ∀ i, i < m → E (n + i) ((news.drop (i * sz)).take sz)) (i : Nat) (hi : i < n + m) :
    E i (((olds ++ news ++ rest).drop (i * sz)).take sz) := by
  by_cases hin : i < n
  · have hle : i * sz + sz ≤ n * sz := by rw [← Nat.succ_mul]; exact Nat.mul_le_mul_right sz hin
    rw [List.append_assoc, List.drop_append_of_le_length (by omega), List.take_append_of_le_length (by rw [List.length_drop]; omega)]
    exact h1 i hin
  · have hle : (i - n) * sz + sz ≤ m * sz := by rw [← Nat.succ_mul]; exact Nat.mul_le_mul_right sz (by omega)
    have e1 : i * sz = olds.length + (i - n) * sz := by rw [ho, ← Nat.add_mul]; congr 1; omega
    rw [List.append_assoc, e1, List.drop_length_add_append, List.drop_append_of_le_length (by omega), List.take_append_of_le_length (by rw [List.length_drop]; omega)]
    have := h2 (i - n) (by omega)
    rwa [show n + (i - n) = i by omega] at this
theorem joined_at {n : Nat} {f gf : Nat → List AV} (i : Nat) : (i < n → joined n f gf i = f i) ∧ joined n f gf (n + i) = gf i := by
  refine ⟨fun h => ?_, ?_⟩
  · have : Nat.blt i n = true := by rw [Nat.blt_eq]; exact h
    simp only [joined, this, cond_true]
  · have : Nat.blt (n + i) n = false := by
      cases hb : Nat.blt (n + i) n
      · rfl
      · rw [Nat.blt_eq] at hb; omega
    simp only [joined, this, cond_false]
    congr 1
    omega
/-- append to a row whose elements own rows; the base's block, if it has one, is named d already -/
theorem app_own (h : SatAt C s a w I g ow) {d : Nat} (hd : d < C.nt) (hf : fresh d s = true) {t u ty e : TypeId} (ht : P.underlying t = some (.slice e)) (hu : (∃ e', P.underlying u = some (.slice e')) ∨ P.underlying u = some .string) (hz : zeroOk P e = true)
    {bv x : Value} {n m : Nat} {f gf : Nat → List AV} {news : List Value} (hn : news.length = m * sizeT P e)
    (hlen : ∀ w', (Builtin.lenOf x).run P w' = .ok m w') (hfc : ∀ w', w'.heap = w.heap → (Builtin.firstCells (sizeT P e) m x).run P w' = .ok ⟨news⟩ w') (h63 : n + m ≤ 9223372036854775807) (hbytes : (n + m) * bytesT P e ≤ 140737488355328)
    (hbase : (∃ ad, bv = .slice ad 0 0 ∧ n = 0) ∨ ∃ b cap cur, bv = .slice (some ⟨b, 0, none⟩) n cap ∧ ow b = [d] ∧ w.heap[b]? = some (.cells cur e (0, 0)) ∧ n ≤ cap ∧ cap ≤ maxLen ∧ cur.size = cap * sizeT P e ∧ (∀ u ∈ cur.toList, u.oneCell' = true) ∧
      ∀ j, j < n → CellsOK I g ow w (fun k => [d, j, k]) [] 0 (f j) ((cur.toList.drop (j * sizeT P e)).take (sizeT P e)))
    (h2 : ∀ i, i < m → CellsOK I g ow w (fun k => [d, n + i, k]) [] 0 (gf i) ((news.drop (i * sizeT P e)).take (sizeT P e))) (o2 : ∀ u ∈ news, u.oneCell' = true) :
    ∃ v' w', (Builtin.append_ #[t, u] ty #[bv, x]).run P w = .ok v' w' ∧ Sat C ⟨(d, .ref d) :: s.env, (d, .rowO e (sizeT P e) (n + m) (joined n f gf) 0 []) :: s.rts⟩ (a.put (some d) v') w' := by
  have hE : ∀ (g' : Nat → Value) (ow' : Nat → List Nat) (w' : World) (olds rest : List Value), olds.length = n * sizeT P e → (∀ j, j < n → CellsOK I g ow w (fun k => [d, j, k]) [] 0 (f j) ((olds.drop (j * sizeT P e)).take (sizeT P e))) →
      (∀ b j k, ow b = [d, j, k] → ow' b = [d, j, k] ∧ w'.heap[b]? = w.heap[b]?) → ∀ j, j < n + m → CellsOK I g' ow' w' (fun k => [d, j, k]) (if j = 0 then [] else []) 0 (joined n f gf j) (((olds ++ news ++ rest).drop (j * sizeT P e)).take (sizeT P e)) := by
    intro g' ow' w' olds rest hol hold how j hj
    have hfs : (if j = 0 then ([] : List (Nat × Nat)) else []) = [] := by split <;> rfl
    rw [hfs]
    refine joined_rowE (E := fun j us => CellsOK I g' ow' w' (fun k => [d, j, k]) [] 0 (joined n f gf j) us) hol hn (fun i hi => ?_) (fun i hi => ?_) j hj
    · show CellsOK _ _ _ _ _ _ _ (joined n f gf i) _
      rw [(joined_at i).1 hi]
      exact CellsOK.frame (Imm.le.refl I) (fun k => ⟨fun _ => rfl, fun p hp => by simp [lookF] at hp⟩) (fun k b hb => how b i k hb) (hold i hi)
    · show CellsOK _ _ _ _ _ _ _ (joined n f gf (n + i)) _
      rw [(joined_at i).2]
      exact CellsOK.frame (Imm.le.refl I) (fun k => ⟨fun _ => rfl, fun p hp => by simp [lookF] at hp⟩) (fun k b hb => how b (n + i) k hb) (h2 i hi)
  have grow : ∀ (ba : Option Addr) (cap : Nat) (olds : List Value), bv = .slice ba n cap → cap < n + m → olds.length = n * sizeT P e → (∀ u ∈ olds, u.oneCell' = true) → (Builtin.firstCells (sizeT P e) n (.slice ba n cap)).run P w.drew = .ok ⟨olds⟩ w.drew →
      (∀ j, j < n → CellsOK I g ow w (fun k => [d, j, k]) [] 0 (f j) ((olds.drop (j * sizeT P e)).take (sizeT P e))) →
      ∃ v' w', (Builtin.append_ #[t, u] ty #[bv, x]).run P w = .ok v' w' ∧ Sat C ⟨(d, .ref d) :: s.env, (d, .rowO e (sizeT P e) (n + m) (joined n f gf) 0 []) :: s.rts⟩ (a.put (some d) v') w' := by
    intro ba cap olds hbv hroom hol ho1 hold hrow
    obtain ⟨z, z1, z2, hr⟩ := run_app_grow (P := P) (w := w) (ty := ty) (ba := ba) (n := n) (cap := cap) ht hu hz hlen (hfc w.drew rfl) hold hroom h63 hbytes
    have hge := grownCap_ge w (n + m) cap e
    have hcm : grownCap w (n + m) cap e ≤ maxLen := grownCap_le_maxLen w (n + m) cap e (by unfold maxLen; omega)
    obtain ⟨q1, q2⟩ := app_fin (sz := sizeT P e) (n := n) (m := m) (cap := grownCap w (n + m) cap e) (olds := olds) (news := news) (z := z) hol hn z1 hge
    rw [hbv]
    refine ⟨_, _, hr, I, _, _, sat_alloc' h hd hf (w1 := w.drew) rfl rfl rfl rfl (e := e) (v := .slice (some ⟨w.heap.size, 0, none⟩) (n + m) (grownCap w (n + m) cap e)) ⟨_, rfl, (upd_same _ _ _).symm, _, _, _, rfl⟩ ?_⟩
    intro w' ow' hw' how hotherw
    refine .inr ⟨w.heap.size, grownCap w (n + m) cap e, _, upd_same _ _ _, how, hw', hge, hcm, q1, ?_, fun i hi => ?_⟩
    · rw [q2]
      intro u hu
      simp only [List.mem_append] at hu
      rcases hu with (hu | hu) | hu
      · exact ho1 u hu
      · exact o2 u hu
      · exact zeroCells_one z2 _ u hu
    · rw [q2]
      refine hE _ ow' w' olds _ hol hrow (fun b j k hb => ?_) i hi
      have hlt := h.lt b (by rw [hb]; simp)
      exact ⟨(hotherw b hlt).2.trans hb, (hotherw b hlt).1⟩
  rcases hbase with ⟨ad, rfl, rfl⟩ | ⟨bb, cap, cur, rfl, hw, hb, hnc, hcm, hcs, ho1, hcl⟩
  · by_cases hm : m = 0
    · subst hm
      have hnn : news = [] := List.eq_nil_of_length_eq_zero (by simpa using hn)
      subst hnn
      have hr : (Builtin.append_ #[t, u] ty #[.slice ad 0 0, x]).run P w = .ok (.slice ad 0 0) w := by
        obtain ⟨i, z, hi, hz1, hz2, hz3, hz4, hby, _⟩ := zero_cells hz
        have hso : ∀ w, (sizeOf e).run P w = .ok (sizeT P e) w := fun w => by simp [sizeOf, typeInfo, hi, hz3]
        rcases hu with ⟨e', hu⟩ | hu <;> cases ad <;> simp [Builtin.append_, underlying, ht, hu, hso, hlen, hfc, storeCells]
      refine ⟨_, _, hr, I, upd g d (.slice ad 0 0), ow, ?_⟩
      have hn0 := sat_none h hd hf ad e (sizeT P e) f
      refine { hn0 with rts := fun q r' hq => ?_ }
      replace hq : lookR ((d, Rt.rowO e (sizeT P e) (0 + 0) (joined 0 f gf) 0 []) :: s.rts) q = some r' := hq
      rw [lookR_cons] at hq
      split at hq
      · rename_i hdq
        subst hdq
        cases hq
        exact .inl ⟨ad, upd_same _ _ _, rfl⟩
      · rename_i hdq
        exact hn0.rts q r' (by show lookR (_ :: s.rts) q = some r'; rw [lookR_cons, if_neg hdq]; exact hq)
    · exact grow ad 0 [] rfl (by omega) (by simp) (by simp) (by
        cases ad with
        | none => simp [Builtin.firstCells]
        | some b => simp [Builtin.firstCells, loadCells, loadCellsFrom]) (fun j hj => by omega)
  · have hle : n * sizeT P e ≤ cap * sizeT P e := Nat.mul_le_mul_right _ hnc
    have hol : (cur.toList.take (n * sizeT P e)).length = n * sizeT P e := by rw [List.length_take, Array.length_toList]; omega
    have hrow : ∀ j, j < n → CellsOK I g ow w (fun k => [d, j, k]) [] 0 (f j) (((cur.toList.take (n * sizeT P e)).drop (j * sizeT P e)).take (sizeT P e)) := by
      intro i hi
      have h1 : i * sizeT P e + sizeT P e ≤ n * sizeT P e := by rw [← Nat.succ_mul]; exact Nat.mul_le_mul_right _ hi
      have : ((cur.toList.take (n * sizeT P e)).drop (i * sizeT P e)).take (sizeT P e) = (cur.toList.drop (i * sizeT P e)).take (sizeT P e) := by
        rw [List.drop_take, List.take_take]
        congr 1
        omega
      rw [this]
      exact hcl i hi
    by_cases hroom : n + m ≤ cap
    · have hrun := run_app_room (P := P) (ty := ty) ht hu hz hb hcs hn o2 hlen (hfc w rfl) hroom
      refine ⟨_, _, hrun, I, _, ow, sat_setN h hd hf hw hb (v := .slice (some ⟨bb, 0, none⟩) (n + m) cap) ⟨_, rfl, (upd_same _ _ _).symm, _, _, _, rfl⟩ ?_⟩
      intro w' hw' hoth
      have hle2 : (n + m) * sizeT P e ≤ cap * sizeT P e := Nat.mul_le_mul_right _ hroom
      rw [Nat.add_mul] at hle2
      refine .inr ⟨bb, cap, _, upd_same _ _ _, hw, hw', hroom, hcm, ?_, ?_, fun i hi => ?_⟩
      · simp only [List.size_toArray, List.length_append, hol, List.length_drop, Array.length_toList, hn]
        omega
      · intro u hu
        simp only [List.mem_append] at hu
        rcases hu with (hu | hu) | hu
        · exact ho1 u (List.mem_of_mem_take hu)
        · exact o2 u hu
        · exact ho1 u (List.mem_of_mem_drop hu)
      · exact hE _ ow w' _ _ hol hrow (fun b j k hbk => ⟨hbk, hoth b (by rintro rfl; rw [hw] at hbk; cases hbk)⟩) i hi
    · exact grow _ cap _ rfl (by omega) hol (fun u hu => ho1 u (List.mem_of_mem_take hu)) (by
        have := run_firstCells_some (P := P) w.drew (sizeT P e) n ⟨bb, 0, none⟩ n cap (cur.toList.take (n * sizeT P e)) hol (fun j v hj => by
          rw [add_none, World.cell?_drew, cell_heap hb, Nat.zero_add]
          rw [List.getElem?_take] at hj
          split at hj
          · exact hj
          · cases hj)
        rw [this]) hrow
theorem isNilF_eq {fs : List (Nat × Nat)} (h : isNilF fs = true) : fs = [] := by
  cases fs with
  | nil => rfl
  | cons => cases h
/-- what is appended, a row whose elements own rows -/
theorem source_own (h : SatAt C s a w I g ow) {src e sz m : Nat} {gf : Nat → List AV} {i : Nat} (hr : lookR s.rts src = some (.rowO e sz m gf i [])) :
    ∃ news : List Value, news.length = m * sz ∧ (∀ x ∈ news, x.oneCell' = true) ∧ (∀ j, j < m → CellsOK I g ow w (fun k => [src, j, k]) [] 0 (gf j) ((news.drop (j * sz)).take sz)) ∧
      (∀ w', (Builtin.lenOf (g src)).run P w' = .ok m w') ∧ (∀ w', w'.heap = w.heap → (Builtin.firstCells sz m (g src)).run P w' = .ok ⟨news⟩ w') := by
  rcases h.rts src _ hr with ⟨ad, hq, rfl⟩ | ⟨b, cap, cur, hq, hw, hb, hnc, hcm, hcs, ho1, hcl⟩
  · rw [hq]
    refine ⟨[], by simp, by simp, fun i hi => by omega, fun w' => by simp [Builtin.lenOf], ?_⟩
    intro w' _
    cases ad with
    | none => simp [Builtin.firstCells]
    | some b => simp [Builtin.firstCells, loadCells, loadCellsFrom]
  · rw [hq]
    have hle : m * sz ≤ cap * sz := Nat.mul_le_mul_right sz hnc
    refine ⟨cur.toList.take (m * sz), by rw [List.length_take, Array.length_toList]; omega, fun x hx => ho1 x (List.mem_of_mem_take hx), fun j hj => ?_, fun w' => by simp [Builtin.lenOf], ?_⟩
    · have h1 : j * sz + sz ≤ m * sz := by rw [← Nat.succ_mul]; exact Nat.mul_le_mul_right sz hj
      have : ((cur.toList.take (m * sz)).drop (j * sz)).take sz = (cur.toList.drop (j * sz)).take sz := by
        rw [List.drop_take, List.take_take]
        congr 1
        omega
      rw [this]
      have := hcl j hj
      rwa [show (if j = i then ([] : List (Nat × Nat)) else []) = [] by split <;> rfl] at this
    · intro w' hh
      have hce : ∀ ad : Addr, w'.cell? ad = w.cell? ad := fun ad => by simp [World.cell?, hh]
      have := run_firstCells_some (P := P) w' sz m ⟨b, 0, none⟩ m cap (cur.toList.take (m * sz)) (by rw [List.length_take, Array.length_toList]; omega) (fun j v hj => by
        rw [add_none, hce, cell_heap hb, Nat.zero_add]
        rw [List.getElem?_take] at hj
        split at hj
        · exact hj
        · cases hj)
      rw [this]
def movO (src q d n : Nat) : List Nat → List Nat
  | [x, j, k] => if x = src then [d, n + j, k] else if x = q then [d, j, k] else [x, j, k]
  | [x] => if x = q then [d] else [x]
  | p => p
theorem movO_other {src q d n x : Nat} (h1 : x ≠ src) (h2 : x ≠ q) (p : List Nat) : movO src q d n (x :: p) = x :: p := by
  match p with
  | [] => simp [movO, h2]
  | [_] => simp [movO]
  | [j, k] => simp [movO, h1, h2]
  | _ :: _ :: _ :: _ => simp [movO]
/-- the base of an append whose elements own rows, its block named anew -/
theorem base_own (h : SatAt C s a w I g ow) {q e sz n : Nat} {f : Nat → List AV} {i : Nat} (hr : lookR s.rts q = some (.rowO e sz n f i [])) {ρ : List Nat → List Nat} {d : Nat} (h1 : ρ [q] = [d]) (h2 : ∀ j k, ρ [q, j, k] = [d, j, k]) :
    (∃ ad, g q = .slice ad 0 0 ∧ n = 0) ∨ ∃ b cap cur, g q = .slice (some ⟨b, 0, none⟩) n cap ∧ ρ (ow b) = [d] ∧ w.heap[b]? = some (.cells cur e (0, 0)) ∧ n ≤ cap ∧ cap ≤ maxLen ∧ cur.size = cap * sz ∧ (∀ u ∈ cur.toList, u.oneCell' = true) ∧
      ∀ j, j < n → CellsOK I g (fun b => ρ (ow b)) w (fun k => [d, j, k]) [] 0 (f j) ((cur.toList.drop (j * sz)).take sz) := by
  rcases h.rts q _ hr with ⟨ad, hq, h0⟩ | ⟨b, cap, cur, hq, hw, hb, hnc, hcm, hcs, ho1, hcl⟩
  · exact .inl ⟨ad, hq, h0⟩
  · refine .inr ⟨b, cap, cur, hq, by rw [hw]; exact h1, hb, hnc, hcm, hcs, ho1, fun j hj => ?_⟩
    have := hcl j hj
    rw [show (if j = i then ([] : List (Nat × Nat)) else []) = [] by split <;> rfl] at this
    exact CellsOK.frame (Imm.le.refl I) (fun k => ⟨fun _ => rfl, fun p hp => by simp [lookF] at hp⟩) (fun k b hb => ⟨by rw [hb]; exact h2 j k, rfl⟩) this
theorem copy_sound (h : SatAt C s a w I g ow) {o : Oper} {d : Nat} {t u e : TypeId} {x y : Operand} (hop : o.op = .call { callee := .builtin .copy, args := ⟨[x, y]⟩, argTypes := ⟨[t, u]⟩ }) (hdst : o.dst = some d) (hd : d < C.nt)
    (ht : P.underlying t = some (.slice e)) (hz : zeroOk P e = true) {s' : St} {ob : List Prop}
    (he : ef s (.copy d (sizeT P e) (xop x) (xop y)) = .ok s' ob) (hob : allP ob) : Leads P o a w fun a' w' => Sat C s' a' w' := by
  obtain ⟨env, rts⟩ := s
  simp only [ef, Res.mk_eq] at he
  split at he <;> first | (cases he; done) | skip
  rename_i q hx
  split at he <;> first | (cases he; done) | skip
  rename_i e' sz' n f m gf hr hsrc
  cases hs : Nat.beq (sizeT P e) sz' with
  | false => simp [hs] at he
  | true =>
    simp only [hs, cond_true, Res.ok.injEq] at he
    cases beq_iff.1 hs
    obtain ⟨rfl, rfl⟩ := he
    obtain ⟨hmn, hob⟩ := hob
    rw [allP_append] at hob
    have e1 := x_den h x hob.1
    rw [hx] at e1
    obtain ⟨g', hg, e1, -⟩ := e1
    cases hg
    obtain ⟨news, n1, n2, n3, n4, n5⟩ := source_sound (P := P) h (x_den h y hob.2) hsrc
    obtain ⟨i, z, hi, hz1, hz2, hz3, hz4, hby, _⟩ := zero_cells hz
    have hso : ∀ w, (sizeOf e).run P w = .ok (sizeT P e) w := fun w => by simp [sizeOf, typeInfo, hi, hz3]
    have hmin : Nat.min m n = m := Nat.min_eq_left hmn
    have lead : ∀ {w' : World} {r : Rt}, (Builtin.copy_ #[t, u] o.type #[a.eval x, a.eval y]).run P w = .ok (goInt m) w' → SatAt C ⟨env, setR q r rts⟩ a w' I g ow → Leads P o a w fun a' w' => Sat C ⟨(d, .int .i64 m) :: env, setR q r rts⟩ a' w' := by
      intro w' r hrun hs'
      refine ⟨.value (goInt m), w', by simp [execOp, hop, resolve, invoke, builtin, hrun], .inl ⟨_, rfl, ?_⟩⟩
      rw [hdst]
      exact ⟨I, g, ow, hs'.put hd rfl⟩
    rcases h.rts q _ hr with ⟨ad, hq, rfl⟩ | ⟨b, cap, cur, hq, hw, hb, hnc, hcm, hcs, ho1, hcl⟩
    · have hm0 : m = 0 := by omega
      subst hm0
      have hnn : news = [] := List.eq_nil_of_length_eq_zero (by simpa using n1)
      subst hnn
      refine lead (w' := w) ?_ (sat_rts0 h fun p r hp => ?_)
      · rw [e1, hq]
        cases ad <;> simp [Builtin.copy_, underlying, ht, hso, n4, n5, storeCells]
      · rw [lookR_setR] at hp
        split at hp
        · rename_i hqp
          subst hqp
          rw [hr] at hp
          cases hp
          exact .inl ⟨ad, hq, rfl⟩
        · exact h.rts p r hp
    · have hle : m * sizeT P e ≤ cap * sizeT P e := Nat.mul_le_mul_right _ (by omega)
      have hst := run_storeCells_at P b 0 e' news 0 cur w hb (by omega) n2
      simp only [Nat.add_zero, Nat.zero_add, List.take_zero, List.nil_append] at hst
      refine lead (w' := w.setRow b (news ++ cur.toList.drop news.length).toArray) ?_ (sat_set h hw hb ?_)
      · rw [e1, hq]
        simp [Builtin.copy_, underlying, ht, hso, n4, hmin, n5, hst]
      · intro w' hw'
        refine .inr ⟨b, cap, _, hq, hw, hw', hnc, hcm, ?_, ?_, fun j hj => ?_⟩
        · simp only [List.size_toArray, List.length_append, List.length_drop, Array.length_toList]
          omega
        · intro v hv
          simp only [List.mem_append] at hv
          rcases hv with hv | hv
          · exact n2 v hv
          · exact ho1 v (List.mem_of_mem_drop hv)
        · show DenL I none (copied m f gf j) (((news ++ cur.toList.drop news.length).drop (j * sizeT P e)).take (sizeT P e))
          simp only [copied]
          by_cases hjm : j < m
          · have hb' : Nat.blt j m = true := by rw [Nat.blt_eq]; exact hjm
            rw [hb', cond_true]
            have hl1 : j * sizeT P e + sizeT P e ≤ m * sizeT P e := by rw [← Nat.succ_mul]; exact Nat.mul_le_mul_right _ hjm
            rw [List.drop_append_of_le_length (by omega), List.take_append_of_le_length (by rw [List.length_drop]; omega)]
            exact n3 j hjm
          · have hb' : Nat.blt j m = false := by
              cases hbb : Nat.blt j m
              · rfl
              · rw [Nat.blt_eq] at hbb; omega
            rw [hb', cond_false]
            have hl1 : m * sizeT P e ≤ j * sizeT P e := Nat.mul_le_mul_right _ (by omega)
            have : (news ++ cur.toList.drop news.length).drop (j * sizeT P e) = cur.toList.drop (j * sizeT P e) := by
              rw [List.drop_append, List.drop_eq_nil_of_le (by omega), List.nil_append, List.drop_drop]
              congr 1
              omega
            rw [this]
            exact hcl j hj
theorem app_sound (h : SatAt C s a w I g ow) {o : Oper} {d : Nat} {t u e : TypeId} {b x : Operand} (hop : o.op = .call { callee := .builtin .append, args := ⟨[b, x]⟩, argTypes := ⟨[t, u]⟩ }) (hdst : o.dst = some d) (hd : d < C.nt)
    (ht : P.underlying t = some (.slice e)) (hu : (∃ e', P.underlying u = some (.slice e')) ∨ P.underlying u = some .string) (hz : zeroOk P e = true) {s' : St} {ob : List Prop}
    (he : ef s (.app d e (sizeT P e) (bytesT P e) (xop b) (xop x)) = .ok s' ob) (hob : allP ob) : Leads P o a w fun a' w' => Sat C s' a' w' := by
  obtain ⟨env, rts⟩ := s
  simp only [ef, Res.mk_eq] at he
  cases hc : fresh d ⟨env, rts⟩ with
  | false => simp [hc] at he
  | true =>
    simp only [hc, cond_true] at he
    have lead : (∃ v' w', (Builtin.append_ #[t, u] o.type #[a.eval b, a.eval x]).run P w = .ok v' w' ∧ Sat C s' (a.put (some d) v') w') → Leads P o a w fun a' w' => Sat C s' a' w' := by
      rintro ⟨v', w', hr, hs⟩
      refine ⟨.value v', w', by simp [execOp, hop, resolve, invoke, builtin, hr], .inl ⟨v', rfl, ?_⟩⟩
      rw [hdst]
      exact hs
    split at he
    · rename_i m gf hsrc
      split at he
      · rename_i h1
        simp only [Res.ok.injEq] at he
        obtain ⟨rfl, rfl⟩ := he
        obtain ⟨hbd, hob⟩ := hob
        rw [allP_append] at hob
        have e1 := x_den h b hob.1
        rw [h1] at e1
        have e1 : a.eval b = .slice none 0 0 := e1
        obtain ⟨news, n1, n2, n3, n4, n5⟩ := source_sound (P := P) h (x_den h x hob.2) hsrc
        refine lead ?_
        rw [e1]
        exact app_empty h hd hc ht hu hz n1 n4 n5 hbd.1 hbd.2 n3 n2
      · rename_i h1
        simp only [Res.ok.injEq] at he
        obtain ⟨rfl, rfl⟩ := he
        obtain ⟨hbd, hob⟩ := hob
        rw [allP_append] at hob
        have e1 := x_den h b hob.1
        rw [h1] at e1
        obtain ⟨ad, e1⟩ := e1
        obtain ⟨news, n1, n2, n3, n4, n5⟩ := source_sound (P := P) h (x_den h x hob.2) hsrc
        refine lead ?_
        rw [e1]
        exact app_empty h hd hc ht hu hz n1 n4 n5 hbd.1 hbd.2 n3 n2
      · rename_i q h1
        split at he
        case h_3 => cases he
        case h_2 e' sz' n f i0 fs hr =>
          cases hs : (Nat.beq (sizeT P e) sz' && (Nat.beq e e' && isNilF fs)) with
          | false => simp [hs] at he
          | true =>
            simp only [hs, cond_true, Res.ok.injEq] at he
            simp only [Bool.and_eq_true] at hs
            cases beq_iff.1 hs.1
            cases beq_iff.1 hs.2.1
            cases isNilF_eq hs.2.2
            obtain ⟨rfl, rfl⟩ := he
            obtain ⟨hbd, hob⟩ := hob
            rw [allP_append] at hob
            have e1 := x_den h b hob.1
            rw [h1] at e1
            obtain ⟨g', hg, e1, -⟩ := e1
            cases hg
            obtain ⟨news, n1, n2, n3, n4, n5⟩ := source_sound (P := P) h (x_den h x hob.2) hsrc
            have hc' : fresh d ⟨env, eraseR q rts⟩ = true := by
              simp only [fresh, Bool.and_eq_true] at hc ⊢
              exact ⟨hc.1, freshR_erase q hc.2⟩
            have hb1 := base_own h hr (ρ := movO q q d 0) (d := d) (by simp [movO]) (fun j k => by simp [movO])
            have hs1 := sat_reown h (movO q q d 0) rfl (eraseR q rts) (fun p r hp => by
              rw [lookR_eraseR] at hp
              split at hp
              · cases hp
              · rename_i hqp; exact ⟨hp, movO_other (fun e => hqp e.symm) (fun e => hqp e.symm)⟩)
            refine lead ?_
            rw [e1]
            exact app_own hs1 hd hc' ht hu hz n1 n4 n5 hbd.1 hbd.2 hb1 (fun i hi => CellsOK.of_den (n3 i hi)) n2
        rename_i e' sz' n f hr
        cases hs : (Nat.beq (sizeT P e) sz' && Nat.beq e e') with
        | false => simp [hs] at he
        | true =>
          simp only [hs, cond_true, Res.ok.injEq] at he
          simp only [Bool.and_eq_true] at hs
          cases beq_iff.1 hs.1
          cases beq_iff.1 hs.2
          obtain ⟨rfl, rfl⟩ := he
          obtain ⟨hbd, hob⟩ := hob
          rw [allP_append] at hob
          have e1 := x_den h b hob.1
          rw [h1] at e1
          obtain ⟨g', hg, e1, -⟩ := e1
          cases hg
          obtain ⟨news, n1, n2, n3, n4, n5⟩ := source_sound (P := P) h (x_den h x hob.2) hsrc
          have h' := sat_erase h q
          have hc' : fresh d ⟨env, eraseR q rts⟩ = true := by
            simp only [fresh, Bool.and_eq_true] at hc ⊢
            exact ⟨hc.1, freshR_erase q hc.2⟩
          refine lead ?_
          rcases h.rts q _ hr with ⟨ad, hq, rfl⟩ | ⟨bb, cap, cur, hq, hw, hb, hnc, hcm, hcs, ho1, hcl⟩
          · rw [e1, hq, joined_zero, Nat.zero_add]
            exact app_empty h' hd hc' ht hu hz n1 n4 n5 (by omega) (by simpa using hbd.2) n3 n2
          · rw [e1, hq]
            have hle : n * sizeT P e ≤ cap * sizeT P e := Nat.mul_le_mul_right _ hnc
            have hol : (cur.toList.take (n * sizeT P e)).length = n * sizeT P e := by rw [List.length_take, Array.length_toList]; omega
            have hrow : ∀ i, i < n → DenL I none (f i) (((cur.toList.take (n * sizeT P e)).drop (i * sizeT P e)).take (sizeT P e)) := by
              intro i hi
              have h1 : i * sizeT P e + sizeT P e ≤ n * sizeT P e := by rw [← Nat.succ_mul]; exact Nat.mul_le_mul_right _ hi
              have : ((cur.toList.take (n * sizeT P e)).drop (i * sizeT P e)).take (sizeT P e) = (cur.toList.drop (i * sizeT P e)).take (sizeT P e) := by
                rw [List.drop_take, List.take_take]
                congr 1
                omega
              rw [this]
              exact hcl i hi
            by_cases hroom : n + m ≤ cap
            · have hrun := run_app_room (P := P) (ty := o.type) ht hu hz hb hcs n1 n2 n4 (n5 w rfl) hroom
              refine ⟨_, _, hrun, I, _, _, sat_renew h hd hc hw hb (v := .slice (some ⟨bb, 0, none⟩) (n + m) cap) ⟨_, rfl, (upd_same _ _ _).symm, _, _, _, rfl⟩ ?_⟩
              intro w' ow' hw' how
              have hle2 : (n + m) * sizeT P e ≤ cap * sizeT P e := Nat.mul_le_mul_right _ hroom
              rw [Nat.add_mul] at hle2
              refine .inr ⟨bb, cap, _, upd_same _ _ _, how, hw', hroom, hcm, ?_, ?_, fun i hi => ?_⟩
              · simp only [List.size_toArray, List.length_append, hol, List.length_drop, Array.length_toList, n1]
                omega
              · intro u hu
                simp only [List.mem_append] at hu
                rcases hu with (hu | hu) | hu
                · exact ho1 u (List.mem_of_mem_take hu)
                · exact n2 u hu
                · exact ho1 u (List.mem_of_mem_drop hu)
              · exact joined_row hol n1 hrow n3 i hi
            · exact app_new h' hd hc' ht hu hz hol n1 n4 (n5 w.drew rfl) (by
                have := run_firstCells_some (P := P) w.drew (sizeT P e) n ⟨bb, 0, none⟩ n cap (cur.toList.take (n * sizeT P e)) hol (fun j v hj => by
                  rw [add_none, World.cell?_drew, cell_heap hb, Nat.zero_add]
                  rw [List.getElem?_take] at hj
                  split at hj
                  · exact hj
                  · cases hj)
                rw [this]) (by omega) hbd.1 hbd.2 hrow n3 (fun u hu => ho1 u (List.mem_of_mem_take hu)) n2
      · cases he
    · unfold appO at he
      split at he <;> first | (cases he; done) | skip
      rename_i src q hx hbq
      split at he <;> first | (cases he; done) | skip
      rename_i e1 sz1 m gf i1 fs1 e2 sz2 n f i2 fs2 hr1 hr2
      cases hs : (!Nat.beq src q && (Nat.beq e e1 && (Nat.beq e e2 && (Nat.beq (sizeT P e) sz1 && (Nat.beq (sizeT P e) sz2 && (isNilF fs1 && isNilF fs2)))))) with
      | false => simp [hs] at he
      | true =>
        simp only [hs, cond_true, Res.mk_eq, Res.ok.injEq] at he
        simp only [Bool.and_eq_true, Bool.not_eq_true'] at hs
        obtain ⟨s1, s2, s3, s4, s5, s6, s7⟩ := hs
        cases beq_iff.1 s2
        cases beq_iff.1 s3
        cases beq_iff.1 s4
        cases beq_iff.1 s5
        cases isNilF_eq s6
        cases isNilF_eq s7
        have hsq : src ≠ q := by rintro rfl; rw [beq_iff.2 rfl] at s1; cases s1
        obtain ⟨rfl, rfl⟩ := he
        obtain ⟨hbd, hob⟩ := hob
        rw [allP_append] at hob
        have eb := x_den h b hob.1
        rw [hbq] at eb
        obtain ⟨g', hg, eb, -⟩ := eb
        cases hg
        have ex := x_den h x hob.2
        rw [hx] at ex
        obtain ⟨g', hg, ex, -⟩ := ex
        cases hg
        obtain ⟨news, n1, n2, n3, n4, n5⟩ := source_own (P := P) h hr1
        have hc' : fresh d ⟨env, eraseR src (eraseR q rts)⟩ = true := by
          simp only [fresh, Bool.and_eq_true] at hc ⊢
          exact ⟨hc.1, freshR_erase src (freshR_erase q hc.2)⟩
        have hqs : q ≠ src := fun e => hsq e.symm
        have hb1 := base_own h hr2 (ρ := movO src q d n) (d := d) (by simp [movO]) (fun j k => by simp [movO, hqs])
        have hs1 := sat_reown h (movO src q d n) rfl (eraseR src (eraseR q rts)) (fun p r hp => by
          rw [lookR_eraseR] at hp
          split at hp
          · cases hp
          · rename_i hsp
            rw [lookR_eraseR] at hp
            split at hp
            · cases hp
            · rename_i hqp; exact ⟨hp, movO_other (fun e => hsp e.symm) (fun e => hqp e.symm)⟩)
        refine lead ?_
        rw [eb, ex]
        refine app_own hs1 hd hc' ht hu hz n1 n4 n5 hbd.1 hbd.2 hb1 (fun i hi => ?_) n2
        exact CellsOK.frame (Imm.le.refl I) (fun k => ⟨fun _ => rfl, fun p hp => by simp [lookF] at hp⟩) (fun k b hb => ⟨by rw [hb]; simp [movO], rfl⟩) (n3 i hi)
end
end Go.Av
end
/- part AvNew2 -/
section
namespace Go.Av
section
variable {P : Program} {C : Ctx P} {s : St} {a : Act} {w : World} {I : Imm} {g : Nat → Value} {ow : Nat → List Nat}
theorem freeze_other (w : World) (ad : Addr) (n : Nat) {b : Nat} (h : b ≠ ad.block) : (w.freeze ad n).heap[b]? = w.heap[b]? := by
  unfold World.freeze
  split
  · rfl
  · simp only [Array.getElem?_modify]
    rw [if_neg (fun e => h e.symm)]
theorem freeze_size (w : World) (ad : Addr) (n : Nat) : (w.freeze ad n).heap.size = w.heap.size := by
  unfold World.freeze
  split
  · rfl
  · simp
theorem freeze_os (w : World) (ad : Addr) (n : Nat) : (w.freeze ad n).os = w.os ∧ (w.freeze ad n).tape = w.tape ∧ (w.freeze ad n).output = w.output := by
  unfold World.freeze
  split <;> exact ⟨rfl, rfl, rfl⟩
theorem freeze_cell (w : World) (ad : Addr) (n : Nat) (p : Addr) : (w.freeze ad n).cell? p = w.cell? p := by
  unfold World.freeze
  split
  · rfl
  · simp only [World.cell?, Array.getElem?_modify]
    by_cases h : ad.block = p.block
    · rw [if_pos h]
      cases w.heap[p.block]? with
      | none => rfl
      | some o => cases o <;> rfl
    · rw [if_neg h]
/-- a row's block is given up: it turns, and no name holds it any more -/
theorem sat_give_up (h : SatAt C s a w I g ow) {q b : Nat} (how : ow b = [q]) {w' : World} (hh : ∀ b', b' ≠ b → w'.heap[b']? = w.heap[b']?) (hs : w'.heap.size = w.heap.size) (h1 : w'.os = w.os) (h2 : w'.tape = w.tape) (h3 : w'.output = w.output) :
    SatAt C ⟨s.env, eraseR q s.rts⟩ a w' I g ow := by
  have hne : ow b ≠ [] := by rw [how]; simp
  refine { defers := h.defers, size := h.size, env := h.env, rts := fun p r hp => ?_, imm := fun b' o u hu => ?_, one := h.one, sep := h.sep, new := h.new, lt := fun b' hb' => by rw [hs]; exact h.lt b' hb', ile := h.ile, iold := h.iold, os := h1.trans h.os, tape := h2.trans h.tape, output := h3.trans h.output, hsize := by rw [hs]; exact h.hsize, kept := fun b' hb' hx => ?_, pin := h.pin, ntb := h.ntb }
  · rw [lookR_eraseR] at hp
    split at hp
    · cases hp
    · rename_i hqp
      refine (h.rts p r hp).heap fun b' p' hb' => hh b' ?_
      rintro rfl
      rw [how] at hb'
      injection hb' with hb'
      exact hqp hb'
  · have hbb : b' ≠ b := by
      rintro rfl
      rw [h.sep _ hne] at hu
      cases hu
    rw [cell_other (hh b' hbb)]
    exact h.imm b' o u hu
  · have hbb : b' ≠ b := by
      rintro rfl
      rcases h.new _ hne with h1 | h1
      · omega
      · exact hx h1
    rw [hh b' hbb]
    exact h.kept b' hb' hx
theorem ust_sound (h : SatAt C s a w I g ow) {o : Oper} {d e : Nat} {x n : Operand} {pt it : TypeId} (hop : o.op = .call { callee := .builtin .unsafeString, args := ⟨[x, n]⟩, argTypes := ⟨[pt, it]⟩ }) (hdst : o.dst = some d) (hd : d < C.nt)
    (hp : P.underlying pt = some (.pointer e)) (hce : P.cellsOf e = 1) {s' : St} {ob : List Prop} (he : ef s (.ust d e (xop x) (xop n)) = .ok s' ob) (hob : allP ob) : Leads P o a w fun a' w' => Sat C s' a' w' := by
  obtain ⟨env, rts⟩ := s
  simp only [ef, Res.mk_eq] at he
  have hx := xop_den h x
  have hn := xop_den h n
  have hrun : ∀ {u v : Value} {r : Value} {w' : World}, a.eval x = u → a.eval n = v → (Builtin.unsafeString_ #[pt, it] o.type #[u, v]).run P w = .ok r w' → (execOp a.eval o).run P w = .ok (.value r) w' := by
    intro u v r w' h1 h2 h3
    simp [execOp, hop, resolve, invoke, builtin, h1, h2, h3]
  split at he <;> first | (cases he; done) | skip
  · rename_i m h1 h2
    simp only [Res.ok.injEq] at he
    obtain ⟨rfl, rfl⟩ := he
    obtain ⟨rfl, hob⟩ := hob
    rw [allP_append] at hob
    have e1 := und_den hx hob.1
    have e2 := und_den hn hob.2
    rw [h1] at e1; rw [h2] at e2
    have e1 : a.eval x = .pointer none := e1
    have e2 : a.eval n = .int .i64 0 := e2
    refine ⟨_, _, hrun e1 e2 (Lib.run_unsafeString_none w pt it o.type none), .inl ⟨_, rfl, ?_⟩⟩
    rw [hdst]
    exact ⟨I, g, ow, h.put hd rfl⟩
  · rename_i q m h1 h2
    split at he <;> first | (cases he; done) | skip
    rename_i e' sz k f hr
    cases hb : (Nat.beq sz 1 && Nat.beq e e') <;> simp only [hb, cond_true, cond_false, Res.ok.injEq, reduceCtorEq] at he
    obtain ⟨rfl, rfl⟩ := he
    simp only [Bool.and_eq_true] at hb
    cases beq_iff.1 hb.1
    cases beq_iff.1 hb.2
    obtain ⟨⟨rfl, hk⟩, hbs, hob⟩ := hob
    rw [allP_append] at hob
    have e1 := und_den hx hob.1
    have e2 := und_den hn hob.2
    rw [h1] at e1; rw [h2] at e2
    have e2 : a.eval n = .int .i64 k := e2
    obtain ⟨g', b, n', c', hg, hq, e1⟩ := e1
    cases hg
    rcases h.rts q _ hr with ⟨a0, _, h0⟩ | ⟨b', cap, cur, hq', hw, hbb, hnc, hcm, hcs, ho1, hc⟩
    · omega
    · rw [hq] at hq'
      cases hq'
      have e1 : a.eval x = .pointer (some ⟨b, 0, none⟩) := by simpa using e1
      have hl : (bytesOf k f).length = k := bytesOf_length k f
      have hcell : ∀ j y, (bytesOf k f)[j]? = some y → w.cell? ((⟨b, 0, none⟩ : Addr).add j) = some (.int .u8 y.toNat) := by
        intro j y hj
        have hjk : j < k := by
          have := (List.getElem?_eq_some_iff.1 hj).1
          rwa [hl] at this
        rw [bytesOf_get hjk] at hj
        cases hj
        rw [add_none, cell_heap hbb]
        have := bytes_vals hbs hjk (hc j hjk)
        have h2 : ((cur.toList.drop (j * 1)).take 1)[0]? = some (.int .u8 ((byteOf (f j)).toNat : Int)) := by rw [this]; rfl
        rw [List.getElem?_take] at h2
        simp only [Nat.zero_lt_one, if_true, List.getElem?_drop, Nat.mul_one, Nat.add_zero] at h2
        simpa using h2
      have hus := Lib.run_unsafeString_row w pt it o.type e hp hce b cur.size (shape_of hbb) (bytesOf k f) (by intro hh; rw [hh] at hl; simp at hl; omega) (by rw [hl, hcs]; omega) (by rw [hl]; unfold maxLen at hcm; omega) hcell
      rw [hl] at hus
      obtain ⟨f1, f2, f3⟩ := freeze_os w ⟨b, 0, none⟩ k
      refine ⟨_, _, hrun e1 e2 hus, .inl ⟨_, rfl, ?_⟩⟩
      rw [hdst]
      have h' := sat_give_up h hw (w' := w.freeze ⟨b, 0, none⟩ k) (fun b' hb' => freeze_other w _ k hb') (freeze_size w _ k) f1 f2 f3
      refine ⟨I, g, ow, h'.put hd ?_⟩
      rfl
theorem sby_sound (h : SatAt C s a w I g ow) {o : Oper} {d e : Nat} {x : Operand} {st tt : TypeId} (hop : o.op = .convert st tt x) (hdst : o.dst = some d) (hd : d < C.nt)
    (hs : P.underlying st = some .string) (ht : P.underlying tt = some (.slice e)) (hu : P.underlying e = some (.int .u8)) {s' : St} {ob : List Prop} (he : ef s (.sby d e (xop x)) = .ok s' ob) (hob : allP ob) : Leads P o a w fun a' w' => Sat C s' a' w' := by
  obtain ⟨env, rts⟩ := s
  simp only [ef] at he
  have hx := xop_den h x
  split at he <;> first | (cases he; done) | skip
  rename_i l h1
  simp only [Res.ok.injEq] at he
  obtain ⟨rfl, rfl⟩ := he
  obtain ⟨hl, hob⟩ := hob
  have e1 := und_den hx hob
  rw [h1] at e1
  have e1 : a.eval x = .string ⟨⟨l⟩⟩ := e1
  obtain ⟨cap, hcap⟩ : ∃ cap, cap = grownCap w l.length 0 e := ⟨_, rfl⟩
  have hge : l.length ≤ cap := by rw [hcap]; exact grownCap_ge w l.length 0 e
  have hcm : cap ≤ maxLen := by rw [hcap]; exact grownCap_le_maxLen w l.length 0 e (by unfold maxLen; omega)
  obtain ⟨cells, hcells⟩ : ∃ cells : Array Value, cells = (⟨l⟩ : Array UInt8).map (fun b => Value.int .u8 b.toNat) ++ Array.replicate (cap - l.length) (.int .u8 0) := ⟨_, rfl⟩
  obtain ⟨w1, hw1⟩ : ∃ w1 : World, w1 = (w.drew.alloc (.cells cells e)).freeze ⟨w.heap.size, cells.size, none⟩ 1 := ⟨_, rfl⟩
  have hrun : (execOp a.eval o).run P w = .ok (.value (.slice (some ⟨w.heap.size, 0, none⟩) l.length cap)) w1 := by
    have hsz : (⟨⟨l⟩⟩ : ByteArray).size = l.length := rfl
    have hshape : (w.drew.alloc (.cells cells e)).shape? w.heap.size = some (e, cells.size) := shape_of (heap_alloc_new w.drew _)
    rw [hw1]
    simp [execOp, hop, e1, convert, run_underlying hs, run_underlying ht, run_underlying hu, Conv.stringToBytes, Question.forced, newRow, markStringish, hsz]
    have hcap' : (Question.appendCap l.length 0 e).cut (w.tape w.drawn (Question.appendCap l.length 0 e)) = cap := hcap.symm
    have hc2 : ((List.map (fun b => Value.int .u8 (b.toNat : Int)) l).toArray ++ Array.replicate (cap - l.length) (.int .u8 0)) = cells := by rw [hcells]; simp
    rw [hcap', hc2, hshape]
    rfl
  have hhs : w1.heap.size = w.heap.size + 1 := by
    rw [hw1, freeze_size, World.size_alloc]; rfl
  have hold : ∀ b, b < w.heap.size → w1.heap[b]? = w.heap[b]? := fun b hb => by
    rw [hw1, freeze_other _ _ _ (by show b ≠ w.heap.size; omega)]
    exact heap_push_lt w.drew _ hb
  have hnewc : ∀ j u, cells.toList[j]? = some u → w1.cell? ⟨w.heap.size, j, none⟩ = some u := fun j u hj => by
    rw [hw1, freeze_cell]
    have : (w.drew.alloc (.cells cells e)).heap[w.heap.size]? = some (.cells cells e (0, 0)) := heap_alloc_new w.drew _
    rw [cell_heap this]
    exact hj
  have hone : ∀ u ∈ cells.toList, u.oneCell' = true := by
    intro u hu
    rw [hcells] at hu
    simp only [Array.toList_append, Array.toList_map, Array.toList_replicate, List.mem_append, List.mem_map, List.mem_replicate] at hu
    rcases hu with ⟨_, _, rfl⟩ | ⟨_, rfl⟩ <;> rfl
  obtain ⟨J, hJ⟩ : ∃ J : Imm, J = fun b o => if b = w.heap.size then cells.toList[o]? else I b o := ⟨_, rfl⟩
  have hle : I.le J := by
    intro b o u hu
    have := imm_lt h hu
    rw [hJ]
    show (if b = w.heap.size then _ else _) = _
    rw [if_neg (by omega)]
    exact hu
  have hosz := h.hsize
  refine ⟨_, w1, hrun, .inl ⟨_, rfl, ?_⟩⟩
  rw [hdst]
  have h' : SatAt C ⟨env, rts⟩ a w1 J g ow := by
    obtain ⟨f1, f2, f3⟩ := freeze_os (w.drew.alloc (.cells cells e)) ⟨w.heap.size, cells.size, none⟩ 1
    refine { defers := h.defers, size := h.size, env := fun t => Den.mono hle _ _ _ (h.env t), rts := fun q r hr => ?_, imm := fun b o u hu => ?_, one := fun b o u hu => ?_, sep := fun b hb o => ?_, new := h.new, lt := fun b hb => by have := h.lt b hb; omega, ile := h.ile.trans hle, iold := fun b o hb hx => ?_, os := by rw [hw1]; exact f1.trans h.os, tape := by rw [hw1]; exact f2.trans h.tape, output := by rw [hw1]; exact f3.trans h.output, hsize := by omega, kept := fun b hb hx => ?_, pin := h.pin, ntb := h.ntb }
    · have hk := h.rts q r hr
      cases r with
      | blk ty cells =>
        obtain ⟨b, cur, k1, k2, k3, k4, k5⟩ := hk
        exact ⟨b, cur, k1, k2, by rw [hold b (h.lt b (by rw [k2]; simp))]; exact k3, k4, DenL.mono hle _ _ _ k5⟩
      | row e sz n f =>
        rcases hk with hk | ⟨b, cap, cur, k1, k2, k3, k4, k5, k6, k7, k8⟩
        · exact .inl hk
        · exact .inr ⟨b, cap, cur, k1, k2, by rw [hold b (h.lt b (by rw [k2]; simp))]; exact k3, k4, k5, k6, k7, fun i hi => DenL.mono hle _ _ _ (k8 i hi)⟩
      | rowO e sz n f i fs => exact RtOK.rowO_frame hk hle rfl (fs_same fs g) fun b p hb => ⟨hb, hold b (h.lt b (by rw [hb]; simp))⟩
    · rw [hJ] at hu
      by_cases hb : b = w.heap.size
      · subst hb
        simp only [if_true] at hu
        exact hnewc o u hu
      · simp only [if_neg hb] at hu
        rw [cell_other (hold b (imm_lt h hu))]
        exact h.imm b o u hu
    · rw [hJ] at hu
      by_cases hb : b = w.heap.size
      · subst hb
        simp only [if_true] at hu
        exact hone u (List.mem_of_getElem? hu)
      · simp only [if_neg hb] at hu
        exact h.one b o u hu
    · have := h.lt b hb
      rw [hJ]
      show (if b = w.heap.size then _ else _) = _
      rw [if_neg (by omega)]
      exact h.sep b hb o
    · rw [hJ]
      show (if b = w.heap.size then _ else _) = _
      rw [if_neg (by omega)]
      exact h.iold b o hb hx
    · rw [hold b (by omega)]
      exact h.kept b hb hx
  refine ⟨J, g, ow, h'.put hd ?_⟩
  refine ⟨_, cap, rfl, hge, hcm, .inr ⟨w.heap.size, 0, rfl, fun i hi => ?_⟩⟩
  refine ⟨[.int .u8 ((l.getD i 0).toNat : Int)], rfl, ?_, ⟨_, _, rfl, rfl, rfl⟩⟩
  intro j u hj
  cases j with
  | succ j => simp at hj
  | zero =>
    simp only [List.getElem?_cons_zero, Option.some.injEq] at hj
    subst hj
    rw [hJ, hcells]
    simp [hi]
    rw [List.getElem?_append_left (by simpa using hi)]
    simp [hi]
end
end Go.Av
end
/- part AvWp -/
section
namespace Go.Av
section
variable {P : Program} {C : Ctx P} {s : St} {a : Act} {w : World} {I : Imm} {g : Nat → Value} {ow : Nat → List Nat}
/-- one operation of a region, its guard looked at -/
def Stepped (P : Program) (ops : Array Oper) (o : Oper) (a : Act) (w : World) (R : Act → World → Prop) : Prop :=
  if Region.wanted o (yielded ops a.tmps) then Leads P o a w R else R (a.put o.dst undef) w
theorem Stepped.wp {ops : Array Oper} {o : Oper} {R K : Act → World → Prop} {Q : Exit → Act → World → Prop} (h : Stepped P ops o a w R) (hK : ∀ a' w', R a' w' → K a' w') :
    if Region.wanted o (yielded ops a.tmps) then o.wp P a w K Q ∨ (o.asks P a w ∧ LetsOut Q) else K (a.put o.dst undef) w := by
  unfold Stepped at h
  split
  · rename_i hw; rw [if_pos hw] at h; exact .inl (h.wp hK)
  · rename_i hw; rw [if_neg hw] at h; exact hK _ _ h
def isEf : SOp → Bool
  | .box .. | .alloc .. | .bsl .. | .store .. | .app .. | .mks .. | .copy .. | .sby .. | .ust .. => true
  | _ => false
theorem ef_isEf {x : SOp} {s' : St} {ob : List Prop} (h : ef s x = .ok s' ob) : isEf x = true := by
  obtain ⟨env, rts⟩ := s
  cases x <;> first | rfl | (simp [ef] at h)
theorem ef_sound (h : SatAt C s a w I g ow) {o : Oper} (hd : ∀ d, o.dst = some d → d < C.nt) {s' : St} {ob : List Prop} (he : ef s (cop P o) = .ok s' ob) (hob : allP ob) : Leads P o a w fun a' w' => Sat C s' a' w' := by
  obtain ⟨op, hop⟩ : ∃ op, o.op = op := ⟨_, rfl⟩
  obtain ⟨dst, hdst⟩ : ∃ d, o.dst = d := ⟨_, rfl⟩
  unfold cop at he
  rw [hop, hdst] at he
  have bad : ∀ x, ef s x = .ok s' ob → (∀ c y, x = (bif c then y else SOp.bad) → c = true ∧ ef s y = .ok s' ob) := by
    intro x hx c y hxy
    subst hxy
    cases c
    · obtain ⟨env, rts⟩ := s; simp [ef] at hx
    · exact ⟨rfl, hx⟩
  have nob : ef s .bad = .ok s' ob → False := by obtain ⟨env, rts⟩ := s; intro hx; simp [ef] at hx
  cases op
  case makeSlice t l c =>
    cases dst with
    | none => exact (nob he).elim
    | some d =>
      simp only [cop1] at he
      split at he
      · rename_i e ht
        obtain ⟨hc, he⟩ := bad _ he _ _ rfl
        simp only [Bool.and_eq_true, Nat.blt_eq] at hc
        exact mks_sound h hop hdst (hd d hdst) ht hc.1 hc.2 he hob
      · exact (nob he).elim
  case alloc e =>
    cases dst with
    | none => exact (nob he).elim
    | some d =>
      obtain ⟨hc, he⟩ := bad _ he _ _ rfl
      exact alloc_sound h hop hdst (hd d hdst) hc he
  case box e x =>
    cases dst with
    | none => exact (nob he).elim
    | some d =>
      obtain ⟨hc, he⟩ := bad _ he _ _ rfl
      simp only [Bool.and_eq_true, Nat.blt_eq] at hc
      exact box_sound h hop hdst (hd d hdst) hc.2 he hob
  case buildSlice t len ps =>
    cases dst with
    | none => exact (nob he).elim
    | some d =>
      simp only [cop1] at he
      split at he
      · rename_i e ht
        obtain ⟨hc, he⟩ := bad _ he _ _ rfl
        simp only [Bool.and_eq_true, Nat.blt_eq, Nat.ble_eq] at hc
        exact bsl_sound h hop hdst (hd d hdst) ht hc.1 hc.2.1 hc.2.2 he hob
      · exact (nob he).elim
  case store t x v =>
    cases dst with
    | some d => exact (nob he).elim
    | none =>
      obtain ⟨hc, he⟩ := bad _ he _ _ rfl
      simp only [Bool.and_eq_true, Nat.blt_eq] at hc
      exact store_sound h hop hdst hc.1 hc.2 he hob
  case call c =>
    obtain ⟨callee, ⟨args⟩, ⟨types⟩⟩ := c
    simp only [cop1, copCall] at he
    split at he
    · rename_i x t d
      exfalso
      split at he <;> first | exact nob he | (obtain ⟨env, rts⟩ := s; simp [ef] at he)
    · exfalso; obtain ⟨env, rts⟩ := s; simp [ef] at he
    · rename_i x n t u d
      split at he
      · rename_i e ht
        obtain ⟨hc, he⟩ := bad _ he _ _ rfl
        exact ust_sound h hop hdst (hd d hdst) ht (beq_iff.1 hc) he hob
      · exact (nob he).elim
    · exfalso; obtain ⟨env, rts⟩ := s; simp [ef] at he
    · exfalso; obtain ⟨env, rts⟩ := s; simp [ef] at he
    · rename_i x y t u d
      split at he
      · rename_i e ht
        obtain ⟨hc, he⟩ := bad _ he _ _ rfl
        simp only [Bool.and_eq_true, Nat.blt_eq] at hc
        exact copy_sound h hop hdst (hd d hdst) ht hc.1 he hob
      · exact (nob he).elim
    · rename_i x y t u d
      split at he
      · rename_i e ht
        obtain ⟨hc, he⟩ := bad _ he _ _ rfl
        simp only [Bool.and_eq_true, Nat.blt_eq, Bool.or_eq_true] at hc
        refine app_sound h hop hdst (hd d hdst) ht ?_ hc.1 he hob
        rcases hc.2.2 with h1 | h1
        · cases beq_iff.1 h1; exact .inl ⟨e, ht⟩
        · split at h1
          · rename_i e' hu; exact .inl ⟨e', hu⟩
          · rename_i hu; exact .inr hu
          · cases h1
      · exact (nob he).elim
    · exfalso; obtain ⟨env, rts⟩ := s; simp [ef] at he
    · exact (nob he).elim
  case convert st tt x =>
    cases dst with
    | none => exact (nob he).elim
    | some d =>
      simp only [cop1] at he
      have no : ∀ y, isEf y = false → ef s y = .ok s' ob → False := fun y hy hh => by rw [ef_isEf hh] at hy; cases hy
      split at he
      · exact (no _ rfl he).elim
      · exact (no _ rfl (bad _ he _ _ rfl).2).elim
      · exact (no _ rfl (bad _ he _ _ rfl).2).elim
      · split at he <;> first | exact (no _ rfl he).elim | exact (nob he).elim
      · rename_i e hs ht
        split at he
        · rename_i hu
          exact sby_sound h hop hdst (hd d hdst) hs ht hu he hob
        · exact (nob he).elim
      · exact (nob he).elim
  case indexAddr t x i =>
    exfalso
    have h1 := ef_isEf he
    have h2 : ∀ c x, isEf (bif c then x else SOp.bad) = (c && isEf x) := by intro c x; cases c <;> rfl
    cases dst with
    | none => rw [cop1_idx_none] at h1; cases h1
    | some d =>
      cases x <;> simp only [cop1] at h1 <;> (repeat' split at h1) <;> first | (cases h1; done) | (rw [h2] at h1; simp [isEf] at h1; done)
  all_goals
    exfalso
    have h1 := ef_isEf he
    have h2 : ∀ c x, isEf (bif c then x else SOp.bad) = (c && isEf x) := by intro c x; cases c <;> rfl
  case unOp p t x => cases p <;> cases dst <;> cases h1
  case makeFunc fn f c =>
    cases fn <;> cases dst <;> first | (cases h1; done) | skip
    simp only [cop1] at h1
    rw [h2] at h1
    simp [isEf] at h1
  case slice t x lo hi mx =>
    cases mx <;> cases dst <;> first | (cases h1; done) | skip
    simp only [cop1] at h1
    split at h1
    · cases h1
    · rw [h2] at h1; simp [isEf] at h1
    · cases h1
  all_goals
    cases dst <;> simp only [cop1] at h1 <;> first | (cases h1; done) | skip
  all_goals
    (repeat' split at h1) <;> first | (cases h1; done) | (rw [h2] at h1; simp [isEf] at h1; done)

theorem dst_bif {c : Bool} {x : SOp} {d : Nat} (h : (bif c then x else SOp.bad).dst = some d) : x.dst = some d := by
  cases c
  · cases h
  · exact h
theorem cop1_dst {op : Op} {dst : Option Nat} {d : Nat} (h : (cop1 P op dst).dst = some d) : dst = some d := by
  cases op
  case nilCheck x => exact h
  case store => cases dst <;> first | (cases h; done) | (have := dst_bif h; cases this)
  case indexAddr t x i =>
    cases dst with
    | none => rw [cop1_idx_none] at h; cases h
    | some d' => cases x <;> simp only [cop1] at h <;> (repeat' split at h) <;> first | (cases h; done) | (exact dst_bif h)
  case call c =>
    obtain ⟨callee, ⟨args⟩, ⟨types⟩⟩ := c
    simp only [cop1, copCall] at h
    (repeat' split at h) <;> first | (cases h; done) | (exact h) | (exact dst_bif h)
  case unOp p t x => cases p <;> cases dst <;> first | (cases h; done) | exact h
  case makeFunc fn f c => cases fn <;> cases dst <;> first | (cases h; done) | exact dst_bif h
  case slice t x lo hi mx =>
    cases mx <;> cases dst <;> first | (cases h; done) | skip
    simp only [cop1] at h
    split at h
    · exact h
    · exact dst_bif h
    · cases h
  all_goals
    (cases dst <;> first | (cases h; done) | (simp only [cop1] at h; (repeat' split at h) <;> first | (cases h; done) | (exact h) | (exact dst_bif h) | (have h' := dst_bif h; cases h'; done)))
theorem dst_getD {j : Nat} {v : Value} (hv : a.tmps.getD j undef = v) (hne : v ≠ undef) : a.tmps[j]? = some v := by
  rw [Array.getD_eq_getD_getElem?] at hv
  cases hj : a.tmps[j]? with
  | none => rw [hj] at hv; exact absurd hv.symm hne
  | some u => rw [hj] at hv; simpa using hv
theorem step_sound (h : Sat C s a w) {ops : Array Oper} {o : Oper} (hd : ∀ d, o.dst = some d → d < C.nt) {s' : St} {ob : List Prop} {dr : Bool} (he : step s (cso P dr ops o) = .ok s' ob) (hob : allP ob) : Stepped P ops o a w (Sat C s') := by
  obtain ⟨I, g, ow, h⟩ := h
  obtain ⟨env, rts⟩ := s
  obtain ⟨gd, hgd⟩ : ∃ x, o.guard = x := ⟨_, rfl⟩
  cases gd with
  | none =>
    have hw : Region.wanted o (yielded ops a.tmps) = true := by simp [Region.wanted, hgd]
    unfold Stepped
    rw [if_pos hw]
    simp only [step, cso, hgd] at he
    split at he
    · rename_i v ob' hev
      have hg : allP ob' := by
        split at he
        · rw [fo_eq] at he; simp only [Res.ok.injEq] at he; rw [he.2]; exact hob
        · simp only [Res.ok.injEq] at he; rw [he.2]; exact hob
      obtain ⟨⟨u, h1, h2⟩, h3⟩ := ev_sound h hev hg
      rw [h3] at he
      refine ⟨_, _, h1, .inl ⟨u, rfl, I, g, ow, ?_⟩⟩
      cases hdst : o.dst with
      | none =>
        simp only [hdst, Res.ok.injEq] at he
        rw [← he.1]
        exact h
      | some d =>
        simp only [hdst, fo_eq, Res.ok.injEq] at he
        rw [← he.1]
        exact h.put (hd d hdst) h2
    · exact ef_sound h hd he hob
  | some jw =>
    obtain ⟨j, want⟩ := jw
    simp only [step, cso, hgd] at he
    cases hj : (ops[j]?).bind (·.dst) with
    | none =>
      simp only [hj] at he
      split at he
      · rename_i v ob' d hev hdd
        simp [ev] at hev
      · cases he
    | some jd =>
      simp only [hj] at he
      split at he <;> first | (cases he; done) | skip
      rename_i v ob' d hev hdd
      have hy : yielded ops a.tmps j = (match a.tmps[jd]? with | some (.bool b) => some b | _ => none) := by unfold yielded; rw [hj]; rfl
      have main : ∀ G : Bool, (Region.wanted o (yielded ops a.tmps) = true ↔ G = true) → fo (und v) (fun v' => Res.ok ⟨(d, .cnd G v') :: env, rts⟩ [G = true → allP (gdo v ++ ob')]) = .ok s' ob → Stepped P ops o a w (Sat C s') := by
        intro G hG he
        rw [fo_eq] at he
        simp only [Res.ok.injEq] at he
        obtain ⟨rfl, rfl⟩ := he
        unfold Stepped
        by_cases hw : Region.wanted o (yielded ops a.tmps) = true
        · rw [if_pos hw]
          have hg := hob.1 (hG.1 hw)
          rw [allP_append] at hg
          obtain ⟨⟨u, h1, h2⟩, h3⟩ := ev_sound h hev hg.2
          have hdst : o.dst = some d := by rw [← h3]; exact hdd
          refine ⟨_, _, h1, .inl ⟨u, rfl, I, g, ow, ?_⟩⟩
          rw [hdst]
          exact h.put (hd d hdst) ⟨fun _ => und_den h2 hg.1, fun hf => by rw [hG.1 hw] at hf; cases hf⟩
        · rw [if_neg hw]
          have hf : G = false := by cases G; rfl; exact absurd (hG.2 rfl) hw
          refine ⟨I, g, ow, ?_⟩
          have hdst : o.dst = some d := cop1_dst hdd
          rw [hdst]
          exact h.put (hd d hdst) ⟨fun ht => absurd (hf.symm.trans ht) (by simp), fun _ => rfl⟩
      have hwant : Region.wanted o (yielded ops a.tmps) = (yielded ops a.tmps j == some want) := by simp [Region.wanted, hgd]
      split at he
      · rename_i b hl
        refine main _ ?_ he
        have e1 := h.env jd
        rw [hl] at e1
        have e1 : a.tmps.getD jd undef = .bool b := e1
        have e2 := dst_getD e1 (by simp [undef])
        rw [hwant, hy, e2]
        cases b <;> cases want <;> simp
      · rename_i g0 b hl
        refine main _ ?_ he
        have e1 := h.env jd
        rw [hl] at e1
        rw [hwant, hy]
        cases g0 with
        | true =>
          have e1 : a.tmps.getD jd undef = .bool b := e1.1 rfl
          have e2 := dst_getD e1 (by simp [undef])
          rw [e2]
          cases b <;> cases want <;> simp
        | false =>
          have e1 : a.tmps.getD jd undef = undef := e1.2 rfl
          have e3 : (match a.tmps[jd]? with | some (.bool b) => some b | _ => none : Option Bool) = none := by
            rw [Array.getD_eq_getD_getElem?] at e1
            cases hjj : a.tmps[jd]? with
            | none => rfl
            | some u => rw [hjj] at e1; simp at e1; subst e1; rfl
          rw [e3]
          simp
      · cases he
end
end Go.Av
end
/- part AvRun -/
section
namespace Go.Av
section
variable {P : Program} {C : Ctx P} {s : St}
def dOk (nt : Nat) : Code → Bool
  | .region _ ops _ => ops.toList.all fun o => match o.dst with | some d => Nat.blt d nt | none => true
  | .seq a b => dOk nt a && dOk nt b
  | .cond _ a b => dOk nt a && dOk nt b
  | .block _ b => dOk nt b
  | .loop b => dOk nt b
  | _ => true
/-- a region's operations, one behind the other -/
def Run (P : Program) (C : Ctx P) (sos : List SO) (Q : St → Prop) (s : St) : Prop :=
  ∀ (dr : Bool) (ops : Array Oper) (os : List Oper), os.map (cso P dr ops) = sos → (∀ o ∈ os, ∀ d, o.dst = some d → d < C.nt) → ∀ a w, Sat C s a w →
    ∀ K : Exit → Act → World → Prop, (∀ a' w' s', Q s' → Sat C s' a' w' → K .normal a' w') → wpList P ops K os a w
def wpS (P : Program) (C : Ctx P) (sc : SCode) (Q : Exit → St → Prop) (s : St) : Prop :=
  ∀ c, cc P c = sc → dOk C.nt c = true → ∀ a w, Sat C s a w → ∀ K : Exit → Act → World → Prop, (∀ e a' w' s', Q e s' → Sat C s' a' w' → K e a' w') → c.wp P K a w
theorem run_nil {Q : St → Prop} (h : Q s) : Run P C [] Q s := by
  intro dr ops os hm _ a w hs K hK
  cases os with
  | nil => exact hK _ _ _ h hs
  | cons => simp at hm
theorem run_step {Q : St → Prop} {o : SO} {sos : List SO} {s' : St} {ob : List Prop} (he : step s o = .ok s' ob) (hob : allP ob) (k : Run P C sos Q s') : Run P C (o :: sos) Q s := by
  intro dr ops os hm hd a w hs K hK
  cases os with
  | nil => simp at hm
  | cons o' os =>
    simp only [List.map_cons, List.cons.injEq] at hm
    obtain ⟨h1, h2⟩ := hm
    have hst := step_sound hs (hd o' (List.mem_cons_self ..)) (by rw [h1]; exact he) hob
    exact hst.wp fun a' w' hs' => k dr ops os h2 (fun o ho => hd o (List.mem_cons_of_mem _ ho)) a' w' hs' K hK
theorem cc_skip {c : Code} (h : cc P c = .skip) : c = .skip := by cases c <;> simp [cc] at h; rfl
theorem wpS_skip {Q : Exit → St → Prop} (h : Q .normal s) : wpS P C .skip Q s := by
  intro c hc _ a w hs K hK
  rw [cc_skip hc]
  exact wp_skip (hK _ _ _ _ h hs)
theorem wpS_exit {id : Nat} {Q : Exit → St → Prop} (h : Q (.exit id) s) : wpS P C (.exit id) Q s := by
  intro c hc _ a w hs K hK
  cases c <;> simp [cc] at hc
  subst hc
  exact wp_exit (hK _ _ _ _ h hs)
theorem wpS_ret {Q : Exit → St → Prop} (h : Q .ret s) : wpS P C .ret Q s := by
  intro c hc _ a w hs K hK
  cases c <;> simp [cc] at hc
  exact wp_ret (hK _ _ _ _ h hs)
@[reducible] def thenQ (R : St → Prop) (Q : Exit → St → Prop) : Exit → St → Prop
  | .normal, s => R s
  | e, s => Q e s
theorem wpS_seq {x y : SCode} {Q : Exit → St → Prop} (h : wpS P C x (thenQ (wpS P C y Q) Q) s) : wpS P C (.seq x y) Q s := by
  intro c hc hd a w hs K hK
  cases c <;> simp [cc] at hc
  rename_i c1 c2
  simp only [dOk, Bool.and_eq_true] at hd
  refine wp_seq (h c1 hc.1 hd.1 a w hs _ fun e a' w' s' hq hs' => ?_)
  cases e
  case normal => exact hq c2 hc.2 hd.2 a' w' hs' K hK
  all_goals exact hK _ _ _ _ hq hs'
theorem wpS_reg {sos : List SO} {Q : Exit → St → Prop} (h : Run P C sos (Q .normal) s) : wpS P C (.reg sos false) Q s := by
  intro c hc hd a w hs K hK
  cases c <;> simp [cc] at hc
  rename_i id ops draw
  obtain ⟨h1, rfl⟩ := hc
  simp only [dOk, List.all_eq_true] at hd
  refine wp_region_list (h false ops ops.toList h1 (fun o ho d hdd => ?_) a w hs K fun a' w' s' hq hs' => hK _ _ _ _ hq hs')
  have := hd o ho
  rw [hdd] at this
  simpa using this
theorem wpS_cond {x : X} {c1 c2 : SCode} {Q : Exit → St → Prop} {b : Bool} (hx : und (xv s x) = .bool b) (hg : allP (gdo (xv s x))) (ht : b = true → wpS P C c1 Q s) (hf : b = false → wpS P C c2 Q s) : wpS P C (.cond x c1 c2) Q s := by
  intro c hc hd a w hs K hK
  cases c <;> simp [cc] at hc
  rename_i y d1 d2
  obtain ⟨rfl, h1, h2⟩ := hc
  simp only [dOk, Bool.and_eq_true] at hd
  obtain ⟨I, g, ow, h⟩ := id hs
  have e1 := x_den h y hg
  rw [hx] at e1
  have e1 : a.eval y = .bool b := e1
  cases b with
  | true => exact wp_cond_true e1 (ht rfl d1 h1 hd.1 a w hs K hK)
  | false => exact wp_cond_false e1 (hf rfl d2 h2 hd.2 a w hs K hK)
@[reducible] def blockQ (id : Nat) (Q : Exit → St → Prop) : Exit → St → Prop
  | .exit j, s => bif Nat.beq j id then Q .normal s else Q (.exit j) s
  | e, s => Q e s
theorem wpS_block {id : Nat} {b : SCode} {Q : Exit → St → Prop} (h : wpS P C b (blockQ id Q) s) : wpS P C (.block id b) Q s := by
  intro c hc hd a w hs K hK
  cases c <;> simp [cc] at hc
  rename_i id' d
  obtain ⟨rfl, h1⟩ := hc
  refine wp_block (h d h1 hd a w hs _ fun e a' w' s' hq hs' => ?_)
  cases e
  case exit j =>
    simp only [Exit.inBlock, blockQ] at hq ⊢
    split
    · rename_i hj; rw [beq_iff.2 hj] at hq; exact hK _ _ _ _ hq hs'
    · rename_i hj; rw [beq_ne hj] at hq; exact hK _ _ _ _ hq hs'
  all_goals exact hK _ _ _ _ hq hs'
def Ent {P : Program} (C : Ctx P) (s s' : St) : Prop := ∀ a w, Sat C s a w → Sat C s' a w
theorem Ent.trans {s s' s'' : St} (h : Ent C s s') (k : Ent C s' s'') : Ent C s s'' := fun a w hs => k a w (h a w hs)
theorem wpS_ent {sc : SCode} {Q : Exit → St → Prop} {s' : St} (h : Ent C s s') (k : wpS P C sc Q s') : wpS P C sc Q s :=
  fun c hc hd a w hs K hK => k c hc hd a w (h a w hs) K hK
theorem run_ent {sos : List SO} {Q : St → Prop} {s' : St} (h : Ent C s s') (k : Run P C sos Q s') : Run P C sos Q s :=
  fun dr ops os hm hd a w hs K hK => k dr ops os hm hd a w (h a w hs) K hK
@[reducible] def loopQ {P : Program} {ι : Type} (C : Ctx P) (ok : ι → Prop) (inv : ι → St) (m : ι → Nat) (i : ι) (Q : Exit → St → Prop) : Exit → St → Prop
  | .normal, s => ∃ i', ok i' ∧ m i' < m i ∧ Ent C s (inv i')
  | e, s => Q e s
theorem wpS_loop {ι : Type} (ok : ι → Prop) (inv : ι → St) (m : ι → Nat) (i0 : ι) {b : SCode} {Q : Exit → St → Prop} (hi : ok i0) (h0 : Ent C s (inv i0)) (round : ∀ i, ok i → wpS P C b (loopQ C ok inv m i Q) (inv i)) : wpS P C (.loop b) Q s := by
  intro c hc hd a w hs K hK
  cases c <;> simp [cc] at hc
  rename_i d
  have key : ∀ n i a w, m i = n → ok i → Sat C (inv i) a w → ∀ (b : Frame) (k : List Item) (cs : List Frame),
      ∃ e a' w', K e a' w' ∧ Arrives P (lone (b.at a (.code d :: .inLoop d :: k)) cs w) b k cs e a' w' := by
    intro n
    induction n using Nat.strongRecOn with
    | _ n ih =>
      intro i a w hn ho hI b k cs
      obtain ⟨e, a₁, w₁, hq, harr⟩ := round i ho d hc hd a w hI (fun e a' w' => match e with
        | .normal => ∃ i', ok i' ∧ m i' < m i ∧ Sat C (inv i') a' w'
        | e => K e a' w') (fun e a' w' s' hq hs' => by
          cases e
          case normal => obtain ⟨i', h1, h2, h3⟩ := hq; exact ⟨i', h1, h2, h3 a' w' hs'⟩
          all_goals exact hK _ _ _ _ hq hs') b (.inLoop d :: k) cs
      cases e with
      | normal =>
        obtain ⟨i', ho', hlt, hI₁⟩ := hq
        obtain ⟨e₂, a₂, w₂, hq₂, harr₂⟩ := ih (m i') (hn ▸ hlt) i' a₁ w₁ rfl ho' hI₁ b k cs
        exact ⟨e₂, a₂, w₂, hq₂, .of_steps (Steps.trans harr (.one step_inLoop)) harr₂⟩
      | exit id => exact ⟨_, a₁, w₁, hq, .pass (x := .inLoop d) rfl (fun _ _ => .inl (by simp)) harr⟩
      | goto l => exact ⟨_, a₁, w₁, hq, .pass (x := .inLoop d) rfl (fun _ _ => .inl (by simp)) harr⟩
      | ret => exact ⟨_, a₁, w₁, hq, .pass (x := .inLoop d) rfl (fun _ _ => .inl (by simp)) harr⟩
      | panic ch => exact ⟨_, a₁, w₁, hq, .pass (x := .inLoop d) rfl (fun _ _ => .inl (by simp)) harr⟩
      | outgrown => exact ⟨_, a₁, w₁, hq, .pass (x := .inLoop d) rfl (fun _ _ => .inl (by simp)) harr⟩
  intro b k cs
  obtain ⟨e, a', w', hq, harr⟩ := key _ i0 a w rfl hi (h0 a w hs) b k cs
  exact ⟨e, a', w', hq, .of_steps (.one step_loop) harr⟩

/-- a function of pure values -/
def Spec0 (P : Program) (f : FuncId) (args : List AV) (res : AV) : Prop :=
  (∀ (vs : Array Value) (w : World), (callFunc f vs).run P w = .ok (.enter f vs) w) ∧ ∀ (I : Imm) (w : World) (vs : List Value), DenL I none args vs → (∀ b o u, I b o = some u → w.cell? ⟨b, o, none⟩ = some u) → (∀ b o u, I b o = some u → u.oneCell' = true) → TabOK P I →
    Calls P f ⟨vs⟩ w fun e w' => ∃ v I', e = .returned v ∧ Den I' none res v ∧ I.le I' ∧ (∀ b o u, I' b o = some u → w'.cell? ⟨b, o, none⟩ = some u) ∧ (∀ b o u, I' b o = some u → u.oneCell' = true) ∧
      (∀ b o, b < w.heap.size → I' b o = I b o) ∧ w'.os = w.os ∧ w'.tape = w.tape ∧ w'.output = w.output ∧ w.heap.size ≤ w'.heap.size ∧ (∀ b, b < w.heap.size → w'.heap[b]? = w.heap[b]?)
theorem sat_call0 {a : Act} {w : World} {I : Imm} {g : Nat → Value} {ow : Nat → List Nat} (h : SatAt C s a w I g ow) {w' : World} {I' : Imm}
    (h1 : I.le I') (h2 : ∀ b o u, I' b o = some u → w'.cell? ⟨b, o, none⟩ = some u) (h3 : ∀ b o u, I' b o = some u → u.oneCell' = true) (h4 : ∀ b o, b < w.heap.size → I' b o = I b o)
    (h5 : w'.os = w.os) (h6 : w'.tape = w.tape) (h7 : w'.output = w.output) (h8 : w.heap.size ≤ w'.heap.size) (h9 : ∀ b, b < w.heap.size → w'.heap[b]? = w.heap[b]?) : SatAt C s a w' I' g ow := by
  refine { defers := h.defers, size := h.size, env := fun t => Den.mono h1 _ _ _ (h.env t), rts := ?_, imm := h2, one := h3, sep := fun b hb o => by rw [h4 b o (h.lt b hb)]; exact h.sep b hb o, new := h.new, lt := fun b hb => Nat.lt_of_lt_of_le (h.lt b hb) h8, ile := h.ile.trans h1, iold := fun b o hb hx => ?_, os := h5.trans h.os, tape := h6.trans h.tape, output := h7.trans h.output, hsize := Nat.le_trans h.hsize h8, kept := fun b hb hx => ?_, pin := h.pin, ntb := h.ntb }
  · intro q r hr
    have hk := h.rts q r hr
    cases r with
    | blk ty cells =>
      obtain ⟨b, cur, k1, k2, k3, k4, k5⟩ := hk
      exact ⟨b, cur, k1, k2, by rw [h9 b (h.lt b (by rw [k2]; simp))]; exact k3, k4, DenL.mono h1 _ _ _ k5⟩
    | row e sz n f =>
      rcases hk with hk | ⟨b, cap, cur, k1, k2, k3, k4, k5, k6, k7, k8⟩
      · exact .inl hk
      · exact .inr ⟨b, cap, cur, k1, k2, by rw [h9 b (h.lt b (by rw [k2]; simp))]; exact k3, k4, k5, k6, k7, fun i hi => DenL.mono h1 _ _ _ (k8 i hi)⟩
    | rowO e sz n f i fs => exact RtOK.rowO_frame hk h1 rfl (fs_same fs g) fun b p hb => ⟨hb, h9 b (h.lt b (by rw [hb]; simp))⟩
  · rw [h4 b o (Nat.lt_of_lt_of_le hb h.hsize)]; exact h.iold b o hb hx
  · rw [h9 b (Nat.lt_of_lt_of_le hb h.hsize)]; exact h.kept b hb hx
/-- a call of a function of pure values -/
def putO (s : St) : Option Nat → AV → St
  | some d, v => s.put d v
  | none, _ => s
theorem callT_bif {c : Bool} {x : SOp} {d : Option Nat} {fx : X} {xs : List X} (h : (bif c then x else SOp.bad) = .callT d fx xs) : x = .callT d fx xs := by
  cases c
  · cases h
  · exact h
theorem cop1_callT {op : Op} {dst d : Option Nat} {fx : X} {xs : List X} (h : cop1 P op dst = .callT d fx xs) :
    ∃ ff as ts, op = .call { callee := .value ff, args := as, argTypes := ts } ∧ fx = xop ff ∧ xs = xops as.toList ∧ dst = d := by
  cases op
  case nilCheck x => cases h
  case indexAddr t x i =>
    cases dst with
    | none => rw [cop1_idx_none] at h; cases h
    | some d' => cases x <;> simp only [cop1] at h <;> (repeat' split at h) <;> first | (cases h; done) | (have h' := callT_bif h; cases h'; done)
  case store => cases dst <;> first | (cases h; done) | (have := callT_bif h; cases this)
  case call c =>
    obtain ⟨callee, ⟨args⟩, ⟨types⟩⟩ := c
    simp only [cop1, copCall] at h
    (repeat' split at h) <;> first | (cases h; done) | (have h' := callT_bif h; cases h'; done) | skip
    cases h
    exact ⟨_, _, _, rfl, rfl, rfl, rfl⟩
  case unOp p t x => cases p <;> cases dst <;> cases h
  case makeFunc fn f c => cases fn <;> cases dst <;> first | (cases h; done) | (have h' := callT_bif h; cases h'; done)
  case slice t x lo hi mx =>
    cases mx <;> cases dst <;> first | (cases h; done) | skip
    simp only [cop1] at h
    split at h
    · cases h
    · have h' := callT_bif h; cases h'
    · cases h
  all_goals
    (cases dst <;> first | (cases h; done) | (simp only [cop1] at h; (repeat' split at h) <;> first | (cases h; done) | (have h' := callT_bif h; cases h'; done)))
theorem wp_call0 {a : Act} {w : World} (hs : Sat C s a w) {o : Oper} (hd : ∀ d, o.dst = some d → d < C.nt) {d : Option Nat} {fx : X} {xs : List X} (hc : cop P o = .callT d fx xs) {f : Nat} {caps args : List AV} {res : AV}
    (hf : xv s fx = .fn f caps) (hargs : xvs s xs ++ caps = args) (hp : isPureL args = true) (hspec : Spec0 P f args res)
    {K : Act → World → Prop} {Q : Exit → Act → World → Prop} (hK : ∀ a' w', Sat C (putO s d res) a' w' → K a' w') : o.wp P a w K Q := by
  obtain ⟨I, g, ow, h⟩ := hs
  -- what the operation is
  obtain ⟨ff, as, ts, hop, rfl, rfl, hdd⟩ : ∃ ff as ts, o.op = .call { callee := .value ff, args := as, argTypes := ts } ∧ fx = xop ff ∧ xs = xops as.toList ∧ o.dst = d := by
    obtain ⟨ff, as, ts, q1, q2, q3, q4⟩ := cop1_callT hc
    exact ⟨ff, as, ts, q1, q2, q3, q4⟩
  have e1 := xop_den h ff
  rw [hf] at e1
  obtain ⟨cv, e1, d1⟩ := e1
  have d2 := xops_den h as.toList
  have hden : DenL I none args (as.toList.map a.eval ++ cv) := DenL.unref _ _ hp (hargs ▸ d2.append d1)
  have hrun : (execOp a.eval o).run P w = .ok (.enter f ⟨as.toList.map a.eval ++ cv⟩) w := by
    have harr : as.map a.eval ++ (⟨cv⟩ : Array Value) = ⟨as.toList.map a.eval ++ cv⟩ := by apply Array.ext'; simp
    simp [execOp, hop, resolve, e1, Deferred.ofValue, invoke, harr, hspec.1]
  unfold Oper.wp
  rw [hrun]
  simp only [Oper.upon]
  refine (hspec.2 I w _ hden h.imm h.one (C.tab.mono h.ile)).mono ?_
  rintro e w' ⟨v, I', rfl, hv, k1, k2, k3, k4, k5, k6, k7, k8, k9⟩
  have h' := sat_call0 h k1 k2 k3 k4 k5 k6 k7 k8 k9
  refine hK _ _ ?_
  subst hdd
  cases hdst : o.dst with
  | none => exact ⟨I', g, ow, h'⟩
  | some d => exact ⟨I', g, ow, h'.put (hd d hdst) (Den.pure _ _ hv)⟩
theorem run_call0 {Q : St → Prop} {d : Option Nat} {fx : X} {xs : List X} {af : List Nat} {sos : List SO} {f : Nat} {caps args : List AV} {res : AV}
    (hf : xv s fx = .fn f caps) (hargs : xvs s xs ++ caps = args) (hp : isPureL args = true) (hspec : Spec0 P f args res)
    (k : Run P C sos Q (putO s d res)) : Run P C (⟨.callT d fx xs, none, af⟩ :: sos) Q s := by
  intro dr ops os hm hd a w hs K hK
  cases os with
  | nil => simp at hm
  | cons o' os =>
    simp only [List.map_cons, List.cons.injEq] at hm
    obtain ⟨h1, h2⟩ := hm
    have hgd : o'.guard = none := by
      cases hg : o'.guard with
      | none => rfl
      | some jw => obtain ⟨j, w'⟩ := jw; have := congrArg SO.g h1; simp only [cso, hg] at this; split at this <;> cases this
    have hco : cop P o' = .callT d fx xs := by
      have := congrArg SO.op h1
      simpa only [cso, hgd] using this
    unfold wpList
    rw [if_pos (by simp [Region.wanted, hgd])]
    exact .inl (wp_call0 hs (hd o' (List.mem_cons_self ..)) hco hf hargs hp hspec fun a' w' hs' => k dr ops os h2 (fun o ho => hd o (List.mem_cons_of_mem _ ho)) a' w' hs' K hK)
end
end Go.Av
end
/- part AvEnt -/
section
namespace Go.Av
section
variable {P : Program} {C : Ctx P} {s : St}
mutual
def leAV : AV → AV → List Prop
  | _, .any => []
  | .int k n, .int k' n' => bif kq k k' then [n = n'] else [False]
  | .bool b, .bool b' => [b = b']
  | .str b, .str b' => [b = b']
  | .nils, .emp => []
  | .nils, .sl _ n _ => [n = 0]
  | .emp, .sl _ n _ => [n = 0]
  | .sl sz n f, .sl sz' n' f' => bif Nat.beq sz sz' then [n = n' ∧ ∀ i, i < n → f i = f' i] else [False]
  | .ref q, .ref q' => bif Nat.beq q q' then [] else [False]
  | .loc q o, .loc q' o' => bif Nat.beq q q' then [o = o'] else [False]
  | .locE q sz k o, .locE q' sz' k' o' => bif Nat.beq q q' && Nat.beq sz sz' then [k = k' ∧ o = o'] else [False]
  | .ptr cs, .ptr cs' => [cs = cs']
  | .agg cs, .agg cs' => leL cs cs'
  | .tup cs, .tup cs' => leL cs cs'
  | .fn f cs, .fn f' cs' => bif Nat.beq f f' then leL cs cs' else [False]
  | .iface t v, .iface t' v' => bif Nat.beq t t' then leAV v v' else [False]
  | .nilp, .nilp => []
  | .nils, .nils => []
  | .emp, .emp => []
  | .nilfn, .nilfn => []
  | .nilif, .nilif => []
  | .ans, .ans => []
  | a, b => [a = b]
def leL : List AV → List AV → List Prop
  | [], [] => []
  | a :: as, b :: bs => leAV a b ++ leL as bs
  | _, _ => [False]
end
theorem allP_one {p : Prop} (h : allP [p]) : p := h.1
mutual
theorem leAV_sound {I : Imm} {β : Option (Nat → Value)} : ∀ (a b : AV) (v : Value), Den I β a v → allP (leAV a b) → Den I β b v
  | a, b, v, h, hl => by
    cases b
    case any => cases a <;> trivial
    case agg cs' =>
      cases a <;> simp only [leAV] at hl <;> first | (rw [← hl.1]; exact h) | (have := hl.1; cases this; done) | skip
      obtain ⟨vs, e, d⟩ := h
      exact ⟨vs, e, leL_sound _ _ vs d hl⟩
    case tup cs' =>
      cases a <;> simp only [leAV] at hl <;> first | (rw [← hl.1]; exact h) | (have := hl.1; cases this; done) | skip
      obtain ⟨vs, e, d⟩ := h
      exact ⟨vs, e, leL_sound _ _ vs d hl⟩
    case fn f' cs' =>
      cases a <;> simp only [leAV] at hl <;> first | (rw [← hl.1]; exact h) | (have := hl.1; cases this; done) | skip
      rename_i f cs
      cases hb : Nat.beq f f' <;> simp only [hb, cond_true, cond_false] at hl
      · exact hl.1.elim
      · cases beq_iff.1 hb
        obtain ⟨vs, e, d⟩ := h
        exact ⟨vs, e, leL_sound _ _ vs d hl⟩
    case iface t' x' =>
      cases a <;> simp only [leAV] at hl <;> first | (rw [← hl.1]; exact h) | (have := hl.1; cases this; done) | skip
      rename_i t x
      cases hb : Nat.beq t t' <;> simp only [hb, cond_true, cond_false] at hl
      · exact hl.1.elim
      · cases beq_iff.1 hb
        obtain ⟨u, e, d⟩ := h
        exact ⟨u, e, leAV_sound _ _ u d hl⟩
    all_goals (cases a <;> simp only [leAV] at hl <;> first | exact h | (rw [← hl.1]; exact h) | (have := hl.1; cases this; done) | skip)
    case int.int k n k' n' =>
      cases hb : kq k' k <;> simp only [hb, cond_true, cond_false] at hl
      · exact hl.1.elim
      · cases kq_eq hb; cases hl.1; exact h
    case emp.nils => exact ⟨none, h⟩
    case sl.nils sz n f => cases hl.1; exact ⟨none, 0, h, Nat.le_refl _, Nat.zero_le _, .inl rfl⟩
    case sl.emp sz n f => cases hl.1; obtain ⟨a, h⟩ := h; exact ⟨a, 0, h, Nat.le_refl _, Nat.zero_le _, .inl rfl⟩
    case sl.sl sz' n' f' sz n f =>
      cases hb : Nat.beq sz sz' <;> simp only [hb, cond_true, cond_false] at hl
      · exact hl.1.elim
      · cases beq_iff.1 hb
        obtain ⟨rfl, hf⟩ := hl.1
        obtain ⟨a, c, e, h1, h2, h3⟩ := h
        refine ⟨a, c, e, h1, h2, h3.imp id fun ⟨b, o, ea, hh⟩ => ⟨b, o, ea, fun i hi => ?_⟩⟩
        rw [← hf i hi]
        exact hh i hi
    case ref.ref q' q =>
      cases hb : Nat.beq q q' <;> simp only [hb, cond_true, cond_false] at hl
      · exact hl.1.elim
      · cases beq_iff.1 hb; exact h
    case loc.loc q' o' q o =>
      cases hb : Nat.beq q q' <;> simp only [hb, cond_true, cond_false] at hl
      · exact hl.1.elim
      · cases beq_iff.1 hb; cases hl.1; exact h
    case locE.locE q' sz' k' o' q sz k o =>
      cases hb : (Nat.beq q q' && Nat.beq sz sz') <;> simp only [hb, cond_true, cond_false] at hl
      · exact hl.1.elim
      · simp only [Bool.and_eq_true] at hb; cases beq_iff.1 hb.1; cases beq_iff.1 hb.2; obtain ⟨rfl, rfl⟩ := hl.1; exact h
theorem leL_sound {I : Imm} {β : Option (Nat → Value)} : ∀ (as bs : List AV) (vs : List Value), DenL I β as vs → allP (leL as bs) → DenL I β bs vs
  | [], [], _, h, _ => h
  | a :: as, b :: bs, _, ⟨v, ws, e, d, r⟩, hl => by
    simp only [leL] at hl
    rw [allP_append] at hl
    exact ⟨v, ws, e, leAV_sound a b v d hl.1, leL_sound as bs ws r hl.2⟩
  | [], _ :: _, _, _, hl => hl.1.elim
  | _ :: _, [], _, _, hl => hl.1.elim
end

def leRt : Rt → Rt → List Prop
  | .blk t cs, .blk t' cs' => bif Nat.beq t t' then leL cs cs' else [False]
  | .row e sz n f, .row e' sz' n' f' => bif Nat.beq e e' && Nat.beq sz sz' then [n = n' ∧ ∀ i, i < n → f i = f' i] else [False]
  | .rowO e sz n f i fs, .rowO e' sz' n' f' i' fs' => bif Nat.beq e e' && Nat.beq sz sz' then [n = n' ∧ fs = fs' ∧ (fs = [] ∨ i = i') ∧ ∀ j, j < n → f j = f' j] else [False]
  | _, _ => [False]
def leE (env : List (Nat × AV)) : List (Nat × AV) → List Prop
  | [] => []
  | (t, v) :: r => leAV (look env t) v ++ leE env r
def leR (rts : List (Nat × Rt)) : List (Nat × Rt) → List Prop
  | [] => []
  | (q, r) :: l => (match lookR rts q with | some r0 => leRt r0 r | none => [False]) ++ leR rts l
theorem leE_look {env : List (Nat × AV)} {I : Imm} {β : Option (Nat → Value)} {val : Nat → Value} (h : ∀ t, Den I β (look env t) (val t)) : ∀ {l : List (Nat × AV)}, allP (leE env l) → ∀ t, Den I β (look l t) (val t)
  | [], _, _ => trivial
  | (k, v) :: r, hl, t => by
    simp only [leE] at hl
    rw [allP_append] at hl
    rw [look_cons]
    split
    · rename_i hk; subst hk; exact leAV_sound _ _ _ (h k) hl.1
    · exact leE_look h hl.2 t
theorem leR_look {rts : List (Nat × Rt)} : ∀ {l : List (Nat × Rt)}, allP (leR rts l) → ∀ q r, lookR l q = some r → ∃ r0, lookR rts q = some r0 ∧ allP (leRt r0 r)
  | [], _, _, _, h => by cases h
  | (k, v) :: l, hl, q, r, h => by
    simp only [leR] at hl
    rw [allP_append] at hl
    rw [lookR_cons] at h
    split at h
    · rename_i hk
      subst hk
      cases h
      cases hr : lookR rts k with
      | none => rw [hr] at hl; exact hl.1.1.elim
      | some r0 => rw [hr] at hl; exact ⟨r0, rfl, hl.1⟩
    · exact leR_look hl.2 q r h
theorem leRt_sound {I : Imm} {g : Nat → Value} {ow : Nat → List Nat} {w : World} {q : Nat} {r0 r : Rt} (h : RtOK I g ow w q r0) (hl : allP (leRt r0 r)) : RtOK I g ow w q r := by
  cases r0 <;> cases r <;> simp only [leRt] at hl <;> first | exact hl.1.elim | skip
  · rename_i t cs t' cs'
    cases hb : Nat.beq t t' <;> simp only [hb, cond_true, cond_false] at hl
    · exact hl.1.elim
    · cases beq_iff.1 hb
      obtain ⟨b, cur, h1, h2, h3, h4, h5⟩ := h
      exact ⟨b, cur, h1, h2, h3, h4, leL_sound _ _ _ h5 hl⟩
  · rename_i e sz n f e' sz' n' f'
    cases hb : (Nat.beq e e' && Nat.beq sz sz') <;> simp only [hb, cond_true, cond_false] at hl
    · exact hl.1.elim
    · simp only [Bool.and_eq_true] at hb
      cases beq_iff.1 hb.1
      cases beq_iff.1 hb.2
      obtain ⟨rfl, hf⟩ := hl.1
      rcases h with h | ⟨b, cap, cur, h1, h2, h3, h4, h5, h6, h7, h8⟩
      · exact .inl h
      · exact .inr ⟨b, cap, cur, h1, h2, h3, h4, h5, h6, h7, fun i hi => by rw [← hf i hi]; exact h8 i hi⟩
  · rename_i e sz n f i fs e' sz' n' f' i' fs'
    cases hb : (Nat.beq e e' && Nat.beq sz sz') <;> simp only [hb, cond_true, cond_false] at hl
    · exact hl.1.elim
    · simp only [Bool.and_eq_true] at hb
      cases beq_iff.1 hb.1
      cases beq_iff.1 hb.2
      obtain ⟨rfl, rfl, hi, hf⟩ := hl.1
      rcases h with h | ⟨b, cap, cur, h1, h2, h3, h4, h5, h6, h7, h8⟩
      · exact .inl h
      · refine .inr ⟨b, cap, cur, h1, h2, h3, h4, h5, h6, h7, fun j hj => ?_⟩
        rw [← hf j hj]
        have := h8 j hj
        rcases hi with rfl | rfl
        · simpa using this
        · exact this
/-- the state says less -/
theorem ent_le {s' : St} (h : allP (leE s.env s'.env ++ leR s.rts s'.rts)) : Ent C s s' := by
  rintro a w ⟨I, g, ow, hs⟩
  rw [allP_append] at h
  exact ⟨I, g, ow, { hs with
    env := leE_look hs.env h.1
    rts := fun q r hr => by
      obtain ⟨r0, h1, h2⟩ := leR_look h.2 q r hr
      exact leRt_sound (hs.rts q r0 h1) h2 }⟩
def keepE (env : List (Nat × AV)) : List Nat → List (Nat × AV)
  | [] => []
  | t :: ts => (t, look env t) :: keepE env ts
def keepR (rts : List (Nat × Rt)) : List Nat → List (Nat × Rt)
  | [] => []
  | q :: qs => match lookR rts q with
    | some r => (q, r) :: keepR rts qs
    | none => keepR rts qs
theorem keepE_look {env : List (Nat × AV)} {I : Imm} {β : Option (Nat → Value)} {val : Nat → Value} (h : ∀ t, Den I β (look env t) (val t)) : ∀ (ts : List Nat) (t : Nat), Den I β (look (keepE env ts) t) (val t)
  | [], _ => trivial
  | k :: ts, t => by
    simp only [keepE]
    rw [look_cons]
    split
    · rename_i hk; subst hk; exact h k
    · exact keepE_look h ts t
theorem keepR_look {rts : List (Nat × Rt)} : ∀ (qs : List Nat) (q : Nat) (r : Rt), lookR (keepR rts qs) q = some r → lookR rts q = some r
  | [], _, _, h => by cases h
  | k :: qs, q, r, h => by
    simp only [keepR] at h
    split at h
    · rename_i r0 hr
      rw [lookR_cons] at h
      split at h
      · rename_i hk; subst hk; cases h; exact hr
      · exact keepR_look qs q r h
    · exact keepR_look qs q r h
/-- some slots and roots alone are kept in mind -/
theorem ent_keep (ts qs : List Nat) : Ent C s ⟨keepE s.env ts, keepR s.rts qs⟩ := by
  rintro a w ⟨I, g, ow, hs⟩
  exact ⟨I, g, ow, { hs with env := keepE_look hs.env ts, rts := fun q r hr => hs.rts q r (keepR_look qs q r hr) }⟩
-- a root gets another name
mutual
def renA (q q' : Nat) : AV → AV
  | .ref r => bif Nat.beq r q then .ref q' else .ref r
  | .loc r o => bif Nat.beq r q then .loc q' o else .loc r o
  | .locE r sz k o => bif Nat.beq r q then .locE q' sz k o else .locE r sz k o
  | .agg cs => .agg (renL q q' cs)
  | .tup cs => .tup (renL q q' cs)
  | .fn f cs => .fn f (renL q q' cs)
  | .iface t v => .iface t (renA q q' v)
  | .cnd c v => .cnd c (renA q q' v)
  | v => v
def renL (q q' : Nat) : List AV → List AV
  | [] => []
  | v :: r => renA q q' v :: renL q q' r
end
mutual
theorem renA_den {I : Imm} {g : Nat → Value} {q q' : Nat} : ∀ (av : AV) (v : Value), noref q' av = true → Den I (some g) av v → Den I (some (upd g q' (g q))) (renA q q' av) v
  | .any, _, _, _ => trivial
  | .int .., _, _, e | .bool .., _, _, e | .str .., _, _, e | .nilp, _, _, e | .nils, _, _, e | .emp, _, _, e | .ans, _, _, e | .nilfn, _, _, e | .nilif, _, _, e | .own .., _, _, e => e
  | .ref r, v, h, ⟨g0, e, hv, hs⟩ => by
    cases e
    simp only [renA]
    by_cases hr : r = q
    · subst hr; rw [beq_iff.2 rfl, cond_true]; exact ⟨_, rfl, by rw [upd_same]; exact hv, hs⟩
    · rw [beq_ne hr, cond_false]
      have hne : r ≠ q' := by rintro rfl; simp [noref] at h
      exact ⟨_, rfl, by rw [upd_ne _ _ hne]; exact hv, hs⟩
  | .loc r o, v, h, ⟨g0, b, e, e1, e2⟩ => by
    cases e
    simp only [renA]
    by_cases hr : r = q
    · subst hr; rw [beq_iff.2 rfl, cond_true]; exact ⟨_, b, rfl, by rw [upd_same]; exact e1, e2⟩
    · rw [beq_ne hr, cond_false]
      have hne : r ≠ q' := by rintro rfl; simp [noref] at h
      exact ⟨_, b, rfl, by rw [upd_ne _ _ hne]; exact e1, e2⟩
  | .locE r sz k o, v, h, ⟨g0, b, n, c, e, e1, e2⟩ => by
    cases e
    simp only [renA]
    by_cases hr : r = q
    · subst hr; rw [beq_iff.2 rfl, cond_true]; exact ⟨_, b, n, c, rfl, by rw [upd_same]; exact e1, e2⟩
    · rw [beq_ne hr, cond_false]
      have hne : r ≠ q' := by rintro rfl; simp [noref] at h
      exact ⟨_, b, n, c, rfl, by rw [upd_ne _ _ hne]; exact e1, e2⟩
  | .sl .., _, _, e => e
  | .ptr .., _, _, e => e
  | .agg cells, v, h, ⟨vs, e, d⟩ => ⟨vs, e, renL_den cells vs (by simpa [noref] using h) d⟩
  | .tup cells, v, h, ⟨vs, e, d⟩ => ⟨vs, e, renL_den cells vs (by simpa [noref] using h) d⟩
  | .fn f caps, v, h, ⟨vs, e, d⟩ => ⟨vs, e, renL_den caps vs (by simpa [noref] using h) d⟩
  | .iface t x, v, h, ⟨u, e, d⟩ => ⟨u, e, renA_den x u (by simpa [noref] using h) d⟩
  | .cnd c x, v, h, d => ⟨fun e => renA_den x v (by simpa [noref] using h) (d.1 e), d.2⟩
theorem renL_den {I : Imm} {g : Nat → Value} {q q' : Nat} : ∀ (xs : List AV) (vs : List Value), norefL q' xs = true → DenL I (some g) xs vs → DenL I (some (upd g q' (g q))) (renL q q' xs) vs
  | [], _, _, e => e
  | x :: xs, _, h, ⟨v, ws, e, d, r⟩ => by
    simp only [norefL, Bool.and_eq_true] at h
    exact ⟨v, ws, e, renA_den x v h.1 d, renL_den xs ws h.2 r⟩
end
def renE (q q' : Nat) : List (Nat × AV) → List (Nat × AV)
  | [] => []
  | (t, v) :: r => (t, renA q q' v) :: renE q q' r
def renF (q q' : Nat) : List (Nat × Nat) → List (Nat × Nat)
  | [] => []
  | (k, p) :: r => (k, bif Nat.beq p q then q' else p) :: renF q q' r
def renRt (q q' : Nat) : Rt → Rt
  | .blk t cs => .blk t (renL q q' cs)
  | .row e sz n f => .row e sz n f
  | .rowO e sz n f i fs => .rowO e sz n f i (renF q q' fs)
def renR (q q' : Nat) : List (Nat × Rt) → List (Nat × Rt)
  | [] => []
  | (k, r) :: l => (bif Nat.beq k q then q' else k, renRt q q' r) :: renR q q' l
theorem renE_look (q q' : Nat) : ∀ (l : List (Nat × AV)) (t : Nat), look (renE q q' l) t = renA q q' (look l t)
  | [], _ => rfl
  | (k, v) :: r, t => by
    simp only [renE, look_cons]
    split
    · rfl
    · exact renE_look q q' r t
theorem renR_look {q q' : Nat} : ∀ {l : List (Nat × Rt)}, freshR q' l = true → ∀ p r, lookR (renR q q' l) p = some r → ∃ p0 r0, lookR l p0 = some r0 ∧ r = renRt q q' r0 ∧ p0 ≠ q' ∧ norefR q' r0 = true ∧ ((p0 = q ∧ p = q') ∨ (p0 ≠ q ∧ p = p0))
  | [], _, _, _, h => by cases h
  | (k, v) :: l, hf, p, r, h => by
    simp only [freshR, Bool.and_eq_true, Bool.not_eq_true'] at hf
    have hk' : k ≠ q' := fun e => by have := hf.1; rw [beq_iff.2 e] at this; cases this
    simp only [renR, lookR_cons] at h
    split at h
    · rename_i hp
      cases h
      refine ⟨k, v, by rw [lookR_cons, if_pos rfl], rfl, hk', hf.2.1, ?_⟩
      by_cases hkq : k = q
      · rw [beq_iff.2 hkq] at hp; exact .inl ⟨hkq, hp.symm⟩
      · rw [beq_ne hkq] at hp; exact .inr ⟨hkq, hp.symm⟩
    · rename_i hp
      obtain ⟨p0, r0, h1, h2, h3, h4, h5⟩ := renR_look hf.2.2 p r h
      refine ⟨p0, r0, ?_, h2, h3, h4, h5⟩
      rw [lookR_cons, if_neg, h1]
      rintro rfl
      rcases h5 with ⟨e1, e2⟩ | ⟨e1, e2⟩
      · rw [beq_iff.2 e1] at hp; exact hp e2.symm
      · rw [beq_ne e1] at hp; exact hp e2.symm
def renP (q q' : Nat) : List Nat → List Nat
  | [] => []
  | x :: p => (bif Nat.beq x q then q' else x) :: p
theorem renF_look {q q' : Nat} {g : Nat → Value} : ∀ {fs : List (Nat × Nat)}, norefF q' fs = true → ∀ k, (lookF fs k = none → lookF (renF q q' fs) k = none) ∧ ∀ p, lookF fs k = some p → ∃ p', lookF (renF q q' fs) k = some p' ∧ upd g q' (g q) p' = g p
  | [], _, k => ⟨id, fun p hp => by simp [lookF] at hp⟩
  | (j, r) :: fs, hn, k => by
    simp only [norefF, Bool.and_eq_true, Bool.not_eq_true'] at hn
    have hr : r ≠ q' := by rintro rfl; simp at hn
    have ih := renF_look (g := g) (q := q) hn.2 k
    simp only [lookF, renF]
    cases hb : Nat.beq j k with
    | true =>
      simp only [cond_true]
      refine ⟨fun h => by simp at h, fun p hp => ?_⟩
      simp only [Option.some.injEq] at hp
      subst hp
      by_cases hrq : r = q
      · rw [beq_iff.2 hrq]; exact ⟨_, rfl, by rw [cond_true, upd_same, hrq]⟩
      · rw [beq_ne hrq]; exact ⟨_, rfl, by rw [cond_false, upd_ne _ _ hr]⟩
    | false => exact ih
/-- a root gets another name -/
theorem ent_ren (q q' : Nat) (hf : fresh q' s = true) (hb : Nat.blt q' PB = true := by rfl) : Ent C s ⟨renE q q' s.env, renR q q' s.rts⟩ := by
  rintro a w ⟨I, g, ow, h⟩
  simp only [fresh, Bool.and_eq_true] at hf
  refine ⟨I, upd g q' (g q), fun b => renP q q' (ow b), ?_⟩
  have hne : ∀ b, renP q q' (ow b) ≠ [] → ow b ≠ [] := by
    intro b hb he
    rw [he] at hb
    exact hb rfl
  refine { h with pin := pin_upd h.pin (by simpa using hb) _, env := fun t => ?_, rts := ?_, sep := fun b hb => h.sep b (hne b hb), new := fun b hb => h.new b (hne b hb), lt := fun b hb => h.lt b (hne b hb) }
  · show Den I _ (look (renE q q' s.env) t) _
    rw [renE_look]
    exact renA_den _ _ (freshE_look hf.1 t) (h.env t)
  · intro p r hp
    obtain ⟨p0, r0, h1, rfl, h3, h4, h5⟩ := renR_look hf.2 p r hp
    have hr := h.rts p0 r0 h1
    have hg : (upd g q' (g q)) p = g p0 := by
      rcases h5 with ⟨rfl, rfl⟩ | ⟨e1, rfl⟩
      · exact upd_same _ _ _
      · exact upd_ne _ _ h3
    have how : ∀ b p', ow b = p0 :: p' → renP q q' (ow b) = p :: p' := by
      intro b p' hb
      rw [hb]
      simp only [renP]
      rcases h5 with ⟨rfl, rfl⟩ | ⟨e1, rfl⟩
      · rw [beq_iff.2 rfl, cond_true]
      · rw [beq_ne e1, cond_false]
    cases r0 with
    | blk ty cells =>
      obtain ⟨b, cur, k1, k2, k3, k4, k5⟩ := hr
      exact ⟨b, cur, hg.trans k1, how b [] k2, k3, k4, renL_den _ _ h4 k5⟩
    | row e sz n f =>
      rcases hr with ⟨ad, k1, k2⟩ | ⟨b, cap, cur, k1, k2, k3⟩
      · exact .inl ⟨ad, hg.trans k1, k2⟩
      · exact .inr ⟨b, cap, cur, hg.trans k1, how b [] k2, k3⟩
    | rowO e sz n f i fs =>
      refine RtOK.rowO_frame hr (Imm.le.refl I) hg (fun k => renF_look h4 k) fun b p' hb => ⟨how b p' hb, rfl⟩

-- a slice without elements gets a name
/-- slot t holds a slice without elements: it becomes a root -/
theorem ent_name (t q e sz : Nat) (f : Nat → List AV) (hv : look s.env t = .nils ∨ look s.env t = .emp) (hf : fresh q s = true) (hb : Nat.blt q PB = true := by rfl) : Ent C s ⟨(t, .ref q) :: s.env, (q, .row e sz 0 f) :: s.rts⟩ := by
  rintro a w ⟨I, g, ow, h⟩
  simp only [fresh, Bool.and_eq_true] at hf
  have hval : ∃ ad, a.tmps.getD t undef = .slice ad 0 0 := by
    have := h.env t
    rcases hv with hv | hv <;> rw [hv] at this
    · exact ⟨none, this⟩
    · exact this
  obtain ⟨ad, hval⟩ := hval
  refine ⟨I, upd g q (.slice ad 0 0), ow, { h with pin := pin_upd h.pin (by simpa using hb) _, env := fun k => ?_, rts := ?_ }⟩
  · show Den I _ (look ((t, .ref q) :: s.env) k) _
    rw [look_cons]
    split
    · rename_i hk; subst hk; exact ⟨_, rfl, by rw [hval, upd_same], _, _, _, hval⟩
    · exact env_name h hf.1 _ k
  · intro p r hp
    replace hp : lookR ((q, .row e sz 0 f) :: s.rts) p = some r := hp
    rw [lookR_cons] at hp
    split at hp
    · rename_i hk; subst hk; injection hp with hp; subst hp; exact .inl ⟨ad, upd_same _ _ _, rfl⟩
    · obtain ⟨h1, h2⟩ := freshR_look hf.2 p r hp
      exact RtOK.name (h.rts p r hp) h1 h2 (fun b _ _ => rfl) (fun b _ hb => hb)
-- a root is laid down for good
mutual
def fzA (q sz n : Nat) (f : Nat → List AV) : AV → AV
  | .ref r => bif Nat.beq r q then .sl sz n f else .ref r
  | .locE r z k o => bif Nat.beq r q then .any else .locE r z k o
  | .loc r o => bif Nat.beq r q then .any else .loc r o
  | .agg cs => .agg (fzL q sz n f cs)
  | .tup cs => .tup (fzL q sz n f cs)
  | .fn g cs => .fn g (fzL q sz n f cs)
  | .iface t v => .iface t (fzA q sz n f v)
  | .cnd c v => .cnd c (fzA q sz n f v)
  | v => v
def fzL (q sz n : Nat) (f : Nat → List AV) : List AV → List AV
  | [] => []
  | v :: r => fzA q sz n f v :: fzL q sz n f r
end
mutual
theorem fzA_den {I J : Imm} (hle : I.le J) {g : Nat → Value} {q sz n : Nat} {f : Nat → List AV} (hq : Den J (some g) (.sl sz n f) (g q)) : ∀ (av : AV) (v : Value), Den I (some g) av v → Den J (some g) (fzA q sz n f av) v
  | .any, _, _ => trivial
  | .int .., _, e | .bool .., _, e | .str .., _, e | .nilp, _, e | .nils, _, e | .emp, _, e | .ans, _, e | .nilfn, _, e | .nilif, _, e | .own .., _, e => e
  | .ref r, v, ⟨g0, e, hv, hs⟩ => by
    cases e
    simp only [fzA]
    by_cases hr : r = q
    · subst hr; rw [beq_iff.2 rfl, cond_true, hv]; exact hq
    · rw [beq_ne hr, cond_false]; exact ⟨_, rfl, hv, hs⟩
  | .loc r o, v, h => by
    simp only [fzA]
    by_cases hr : r = q
    · subst hr; rw [beq_iff.2 rfl, cond_true]; trivial
    · rw [beq_ne hr, cond_false]; exact h
  | .locE r z k o, v, h => by
    simp only [fzA]
    by_cases hr : r = q
    · subst hr; rw [beq_iff.2 rfl, cond_true]; trivial
    · rw [beq_ne hr, cond_false]; exact h
  | .sl z m h, v, e => Den.mono hle _ (.sl z m h) v e
  | .ptr cs, v, e => Den.mono hle _ (.ptr cs) v e
  | .agg cells, v, ⟨vs, e, d⟩ => ⟨vs, e, fzL_den hle hq cells vs d⟩
  | .tup cells, v, ⟨vs, e, d⟩ => ⟨vs, e, fzL_den hle hq cells vs d⟩
  | .fn _ caps, v, ⟨vs, e, d⟩ => ⟨vs, e, fzL_den hle hq caps vs d⟩
  | .iface _ x, v, ⟨u, e, d⟩ => ⟨u, e, fzA_den hle hq x u d⟩
  | .cnd c x, v, d => ⟨fun e => fzA_den hle hq x v (d.1 e), d.2⟩
theorem fzL_den {I J : Imm} (hle : I.le J) {g : Nat → Value} {q sz n : Nat} {f : Nat → List AV} (hq : Den J (some g) (.sl sz n f) (g q)) : ∀ (xs : List AV) (vs : List Value), DenL I (some g) xs vs → DenL J (some g) (fzL q sz n f xs) vs
  | [], _, e => e
  | x :: xs, _, ⟨v, ws, e, d, r⟩ => ⟨v, ws, e, fzA_den hle hq x v d, fzL_den hle hq xs ws r⟩
end
def fzE (q sz n : Nat) (f : Nat → List AV) : List (Nat × AV) → List (Nat × AV)
  | [] => []
  | (t, v) :: r => (t, fzA q sz n f v) :: fzE q sz n f r
def fzRt (q sz n : Nat) (f : Nat → List AV) : Rt → Rt
  | .blk t cs => .blk t (fzL q sz n f cs)
  | .row e z m h => .row e z m h
  | .rowO e z m h i fs => .rowO e z m h i fs
def fzR (q sz n : Nat) (f : Nat → List AV) : List (Nat × Rt) → List (Nat × Rt)
  | [] => []
  | (k, r) :: l => bif Nat.beq k q then fzR q sz n f l else (k, fzRt q sz n f r) :: fzR q sz n f l
theorem fzE_look (q sz n : Nat) (f : Nat → List AV) : ∀ (l : List (Nat × AV)) (t : Nat), look (fzE q sz n f l) t = fzA q sz n f (look l t)
  | [], _ => rfl
  | (k, v) :: r, t => by
    simp only [fzE, look_cons]
    split
    · rfl
    · exact fzE_look q sz n f r t
theorem fzR_look {q sz n : Nat} {f : Nat → List AV} : ∀ {l : List (Nat × Rt)} (p : Nat) (r : Rt), lookR (fzR q sz n f l) p = some r → p ≠ q ∧ ∃ r0, lookR l p = some r0 ∧ r = fzRt q sz n f r0
  | [], _, _, h => by cases h
  | (k, v) :: l, p, r, h => by
    simp only [fzR] at h
    by_cases hk : k = q
    · rw [beq_iff.2 hk, cond_true] at h
      obtain ⟨h1, r0, h2, h3⟩ := fzR_look p r h
      exact ⟨h1, r0, by rw [lookR_cons, if_neg (by omega)]; exact h2, h3⟩
    · rw [beq_ne hk, cond_false, lookR_cons] at h
      rw [lookR_cons]
      split at h
      · rename_i hp; cases h; subst hp; exact ⟨hk, v, by rw [if_pos rfl], rfl⟩
      · rename_i hp
        obtain ⟨h1, r0, h2, h3⟩ := fzR_look p r h
        exact ⟨h1, r0, by rw [if_neg hp]; exact h2, h3⟩
def fzS (q : Nat) (s : St) : St := match lookR s.rts q with
  | some (.row _ sz n f) => ⟨fzE q sz n f s.env, fzR q sz n f s.rts⟩
  | _ => s
/-- a row of the call's own is laid down for good: it will not be written any more -/
theorem ent_fz (q : Nat) : Ent C s (fzS q s) := by
  rintro a w ⟨I, g, ow, h⟩
  unfold fzS
  split
  · rename_i e sz n f hr
    rcases h.rts q _ hr with ⟨ad, hq, rfl⟩ | ⟨b, cap, cur, hq, hw, hb, hnc, hcm, hcs, ho1, hcl⟩
    · have hden : Den I (some g) (.sl sz 0 f) (g q) := ⟨ad, 0, hq, Nat.le_refl _, Nat.zero_le _, .inl rfl⟩
      refine ⟨I, g, ow, { h with env := fun t => ?_, rts := fun p r hp => ?_ }⟩
      · show Den I _ (look (fzE q sz 0 f s.env) t) _
        rw [fzE_look]
        exact fzA_den (Imm.le.refl I) hden _ _ (h.env t)
      · obtain ⟨h1, r0, h2, rfl⟩ := fzR_look p r hp
        have hr0 := h.rts p r0 h2
        cases r0 with
        | blk ty cells =>
          obtain ⟨b, cur, k1, k2, k3, k4, k5⟩ := hr0
          exact ⟨b, cur, k1, k2, k3, k4, fzL_den (Imm.le.refl I) hden _ _ k5⟩
        | row e z m h => exact hr0
        | rowO e z m h i fs => exact hr0
    · obtain ⟨J, hJ⟩ : ∃ J : Imm, J = fun b' o => if b' = b then cur.toList[o]? else I b' o := ⟨_, rfl⟩
      have hwne : ow b ≠ [] := by rw [hw]; simp
      have hle : I.le J := by
        intro b' o u hu
        rw [hJ]
        by_cases hbb : b' = b
        · subst hbb; rw [h.sep _ hwne] at hu; cases hu
        · simp only [hbb, if_false]; exact hu
      have hJb : ∀ o, J b o = cur.toList[o]? := fun o => by rw [hJ]; simp
      have hJo : ∀ b' o, b' ≠ b → J b' o = I b' o := fun b' o hne => by rw [hJ]; simp [hne]
      have hden : Den J (some g) (.sl sz n f) (g q) := by
        refine ⟨_, cap, hq, hnc, hcm, ?_⟩
        rcases Nat.eq_zero_or_pos n with h0 | h0
        · exact .inl h0
        · refine .inr ⟨b, 0, rfl, fun i hi => ⟨(cur.toList.drop (i * sz)).take sz, ?_, ?_, DenL.mono hle _ _ _ (hcl i hi)⟩⟩
          · have hic : (i + 1) * sz ≤ cap * sz := Nat.mul_le_mul_right sz (by omega)
            rw [Nat.add_mul, Nat.one_mul] at hic
            rw [List.length_take, List.length_drop, Array.length_toList]
            omega
          · intro j v hj
            rw [hJb, Nat.zero_add]
            rw [List.getElem?_take, List.getElem?_drop] at hj
            split at hj
            · exact hj
            · cases hj
      have howne : ∀ b', (if b' = b then [] else ow b') ≠ [] → b' ≠ b ∧ ow b' ≠ [] := by
        intro b' hb'
        by_cases hbb : b' = b
        · simp [hbb] at hb'
        · exact ⟨hbb, by simpa [hbb] using hb'⟩
      refine ⟨J, g, fun b' => if b' = b then [] else ow b', { h with
        env := fun t => ?_
        rts := fun p r hp => ?_
        imm := fun b' o u hu => ?_
        one := fun b' o u hu => ?_
        sep := fun b' hb' o => ?_
        new := fun b' hb' => h.new b' (howne b' hb').2
        lt := fun b' hb' => h.lt b' (howne b' hb').2
        ile := h.ile.trans hle
        iold := fun b' o hb' hx => ?_ }⟩
      · show Den J _ (look (fzE q sz n f s.env) t) _
        rw [fzE_look]
        exact fzA_den hle hden _ _ (h.env t)
      · obtain ⟨h1, r0, h2, rfl⟩ := fzR_look p r hp
        have hr0 := h.rts p r0 h2
        have hnb : ∀ b' p', ow b' = p :: p' → b' ≠ b := by
          rintro b' p' hb' rfl
          rw [hw] at hb'
          injection hb' with hb'
          exact h1 hb'.symm
        cases r0 with
        | blk ty cells =>
          obtain ⟨b', cur', k1, k2, k3, k4, k5⟩ := hr0
          exact ⟨b', cur', k1, (if_neg (hnb b' [] k2)).trans k2, k3, k4, fzL_den hle hden _ _ k5⟩
        | row e' z m hh =>
          rcases hr0 with hr0 | ⟨b', cap', cur', k1, k2, k3, k4, k5, k6, k7, k8⟩
          · exact .inl hr0
          · exact .inr ⟨b', cap', cur', k1, (if_neg (hnb b' [] k2)).trans k2, k3, k4, k5, k6, k7, fun i hi => DenL.mono hle _ _ _ (k8 i hi)⟩
        | rowO e' z m hh i fs => exact RtOK.rowO_frame hr0 hle rfl (fs_same fs g) fun b' p' hb' => ⟨(if_neg (hnb b' p' hb')).trans hb', rfl⟩
      · by_cases hbb : b' = b
        · subst hbb; rw [hJb] at hu; rw [cell_heap hb]; exact hu
        · rw [hJo b' o hbb] at hu; exact h.imm b' o u hu
      · by_cases hbb : b' = b
        · subst hbb; rw [hJb] at hu; exact ho1 u (List.mem_of_getElem? hu)
        · rw [hJo b' o hbb] at hu; exact h.one b' o u hu
      · rw [hJo b' o (howne b' hb').1]; exact h.sep b' (howne b' hb').2 o
      · have hbb : b' ≠ b := by
          rintro rfl
          rcases h.new _ hwne with h1 | h1
          · omega
          · exact hx h1
        rw [hJo b' o hbb]; exact h.iold b' o hb' hx
  · exact ⟨I, g, ow, h⟩
/-- the arguments in the first slots -/
def argE : Nat → List AV → List (Nat × AV)
  | _, [] => []
  | k, v :: r => (k, v) :: argE (k + 1) r
theorem argE_look {I : Imm} {β : Option (Nat → Value)} : ∀ {l : List AV} {vs : List Value} (k : Nat) (pre post : List Value), pre.length = k → DenL I β l vs → ∀ t, Den I β (look (argE k l) t) ((pre ++ vs ++ post)[t]?.getD undef)
  | [], _, _, _, _, _, _, _ => trivial
  | v :: l, _, k, pre, post, hk, ⟨u, us, e, d, r⟩, t => by
    subst e
    simp only [argE, look_cons]
    split
    · rename_i ht; subst ht
      rw [List.append_assoc, List.getElem?_append_right (by omega), hk, Nat.sub_self]
      exact d
    · have := argE_look (k + 1) (pre ++ [u]) post (by simp [hk]) r t
      simpa using this
inductive RV where
  | t (n : Nat)
  | c (n sz : Nat) (agg : Bool)
  | bad
def cRV (P : Program) : ResultVar → RV
  | .tmp t => .t t
  | .cell a t => bif known P t && (P.underlying t).isSome then .c a (sizeT P t) (aggT P t) else .bad
def res1 (s : St) : RV → Pv
  | .t n => .ok (look s.env n) []
  | .c n sz agg => loadAt s sz agg [] (look s.env n)
  | .bad => .no
def resVs (s : St) : List RV → Option (List AV × List Prop)
  | [] => some ([], [])
  | r :: rs => match res1 s r, resVs s rs with
    | .ok v ob, some (vs, ob') => some (v :: vs, ob ++ ob')
    | _, _ => none
def resV : List AV → AV
  | [v] => v
  | vs => .tup vs
def rv1 (tmps : Array Value) : ResultVar → Sem Value
  | .tmp t => Pure.pure (tmps.getD t undef)
  | .cell x t => do loadVar t (← asAddr (tmps.getD x undef))
theorem results_eq (fn : Func) (tmps : Array Value) : results fn tmps = (do let vs ← fn.results.mapM (rv1 tmps); Pure.pure (if h : vs.size = 1 then vs[0] else .tuple vs)) := rfl
theorem res_vals {a : Act} {w : World} {I : Imm} {g : Nat → Value} {ow : Nat → List Nat} (h : SatAt C s a w I g ow) : ∀ (rs : List ResultVar) {vs : List AV} {ob : List Prop}, resVs s (rs.map (cRV P)) = some (vs, ob) → allP ob →
    ∃ us : List Value, (rs.mapM (rv1 a.tmps)).run P w = .ok us w ∧ DenL I (some g) vs us
  | [], vs, ob, he, _ => by
    simp only [List.map_nil, resVs, Option.some.injEq, Prod.mk.injEq] at he
    obtain ⟨rfl, -⟩ := he
    exact ⟨[], by simp, rfl⟩
  | r :: rs, vs, ob, he, hob => by
    simp only [List.map_cons, resVs] at he
    split at he <;> first | (cases he; done) | skip
    rename_i v ob1 vs' ob2 h1 h2
    simp only [Option.some.injEq, Prod.mk.injEq] at he
    obtain ⟨rfl, rfl⟩ := he
    rw [allP_append] at hob
    obtain ⟨us, k1, k2⟩ := res_vals h rs h2 hob.2
    cases r with
    | tmp t =>
      simp only [cRV, res1, Pv.ok.injEq] at h1
      obtain ⟨rfl, rfl⟩ := h1
      exact ⟨a.tmps.getD t undef :: us, by simp [List.mapM_cons, rv1, k1], _, _, rfl, h.env t, k2⟩
    | cell x t =>
      simp only [cRV] at h1
      cases hc : (known P t && (P.underlying t).isSome) <;> simp only [hc, cond_true, cond_false, res1, reduceCtorEq] at h1
      simp only [Bool.and_eq_true] at hc
      obtain ⟨u, l1, l2⟩ := loadAt_sound h hc.1 hc.2 (h.env x) h1 hob.1
      have l3 : (rv1 a.tmps (.cell x t)).run P w = .ok u w := by
        simp only [rv1]
        cases hv : a.tmps.getD x undef with
        | pointer p =>
          cases p with
          | none => rw [hv] at l1; simp [Instr.loadAt, Instr.sureAddr] at l1
          | some p => rw [hv] at l1; simpa [Instr.loadAt, Instr.sureAddr, asAddr] using l1
        | _ => rw [hv] at l1; simp [Instr.loadAt, Instr.sureAddr] at l1
      exact ⟨u :: us, by simp [List.mapM_cons, l3, k1], _, _, rfl, l2, k2⟩
theorem results_run {fn : Func} {a : Act} {w : World} {I : Imm} {g : Nat → Value} {ow : Nat → List Nat} (h : SatAt C s a w I g ow) {vs : List AV} {ob : List Prop} (he : resVs s (fn.results.toList.map (cRV P)) = some (vs, ob)) (hob : allP ob) :
    ∃ v, (results fn a.tmps).run P w = .ok v w ∧ Den I (some g) (resV vs) v := by
  obtain ⟨us, h1, h2⟩ := res_vals h fn.results.toList he hob
  have hrun : (results fn a.tmps).run P w = .ok (if h : (⟨us⟩ : Array Value).size = 1 then (⟨us⟩ : Array Value)[0] else .tuple ⟨us⟩) w := by
    have e : (fn.results.mapM (rv1 a.tmps)).run P w = .ok ⟨us⟩ w := by
      rw [Array.mapM_eq_mapM_toList, Sem.run_map, h1]
      rfl
    rw [results_eq]
    simp only [Sem.run_bind, e, Result.andThen_ok, Sem.run_pure]
  refine ⟨_, hrun, ?_⟩
  match us, vs, h2 with
  | [], [], _ => exact ⟨[], by simp, rfl⟩
  | [u], [v], ⟨_, _, e, d, _⟩ => cases e; simpa [resV] using d
  | u :: u' :: us, v :: v' :: vs, h2 => exact ⟨_, by simp, h2⟩
  | [], _ :: _, h2 => obtain ⟨_, _, e, _⟩ := h2; cases e
  | _ :: _, [], h2 => cases h2
  | [_], _ :: _ :: _, h2 => have := h2.length; simp at this
  | _ :: _ :: _, [_], h2 => have := h2.length; simp at this
end
end Go.Av
end
/- part AvSpec -/
section
namespace Go.Av
section
variable {P : Program}
/-- a function's body as the walk has it -/
structure FnOK (P : Program) (f : FuncId) (nt : Nat) (rvs : List RV) (sc : SCode) : Prop where
  call : ∀ (vs : Array Value) (w : World), (callFunc f vs).run P w = .ok (.enter f vs) w
  body : ∃ fn c, P.funcs[f]? = some fn ∧ fn.body = some c ∧ cc P c = sc ∧ dOk nt c = true ∧ fn.ntmps = nt ∧ fn.results.toList.map (cRV P) = rvs
def Fin (rvs : List RV) (res : AV) (s : St) : Prop := ∃ vs ob, resVs s rvs = some (vs, ob) ∧ allP (ob ++ leAV (resV vs) res)
@[reducible] def finQ (rvs : List RV) (res : AV) : Exit → St → Prop
  | .ret, s => Fin rvs res s
  | .normal, s => Fin rvs res s
  | _, _ => False
theorem fin_mk {rvs : List RV} {res : AV} {s : St} {vs : List AV} {ob : List Prop} (h : resVs s rvs = some (vs, ob)) (k : allP (ob ++ leAV (resV vs) res)) : Fin rvs res s := ⟨vs, ob, h, k⟩
theorem spec0 {f : FuncId} {nt : Nat} {rvs : List RV} {sc : SCode} (hfn : FnOK P f nt rvs sc) {args : List AV} {res : AV} (hp : isPure res = true)
    (h : ∀ C : Ctx P, C.nt = nt → wpS P C sc (finQ rvs res) ⟨argE 0 args, []⟩) (hb : Nat.ble nt PB = true := by rfl) : Spec0 P f args res := by
  refine ⟨hfn.call, fun I w vs hden himm hone htab => ?_⟩
  obtain ⟨fn, c, h1, h2, h3, h4, h5, h6⟩ := hfn.body
  refine calls_of_wp h1 h2 ?_
  obtain ⟨C, hC⟩ : ∃ C : Ctx P, C = { w0 := w, I0 := I, X := fun _ => False, nt := nt, g0 := fun _ => undef, tab := htab } := ⟨_, rfl⟩
  have hnt : C.nt = nt := by rw [hC]
  have hs : Sat C ⟨argE 0 args, []⟩ { tmps := (⟨vs⟩ : Array Value) ++ Array.replicate (fn.ntmps - (⟨vs⟩ : Array Value).size) undef, defers := [] } w := by
    refine ⟨I, fun _ => undef, fun _ => [], ?_⟩
    subst hC
    refine { defers := rfl, size := ?_, env := fun t => ?_, rts := fun q r hr => absurd hr (by simp [lookR]), imm := himm, one := hone, sep := fun b hb => absurd rfl hb, new := fun b hb => absurd rfl hb, lt := fun b hb => absurd rfl hb, ile := Imm.le.refl I, iold := fun _ _ _ _ => rfl, os := rfl, tape := rfl, output := rfl, hsize := Nat.le_refl _, kept := fun _ _ _ => rfl, pin := fun _ _ => rfl, ntb := by simpa using hb }
    · simp only [Array.size_append, Array.size_replicate]
      omega
    · have := argE_look (β := some fun _ => undef) 0 [] (List.replicate (fn.ntmps - vs.length) undef) rfl (DenL.pure args vs hden) t
      have earr : (⟨vs⟩ : Array Value) ++ Array.replicate (fn.ntmps - vs.length) undef = ⟨vs ++ List.replicate (fn.ntmps - vs.length) undef⟩ := by apply Array.ext'; simp
      show Den I _ _ (((⟨vs⟩ : Array Value) ++ Array.replicate (fn.ntmps - vs.length) undef).getD t undef)
      rw [earr, Array.getD_eq_getD_getElem?]
      simpa using this
  refine h C hnt c h3 (by rw [hnt]; exact h4) _ w hs _ fun ex a' w' s' hq hs' => ?_
  have fin : Fin rvs res s' → bodyPost P fn (fun e w' => ∃ v I', e = .returned v ∧ Den I' none res v ∧ I.le I' ∧ (∀ b o u, I' b o = some u → w'.cell? ⟨b, o, none⟩ = some u) ∧ (∀ b o u, I' b o = some u → u.oneCell' = true) ∧
      (∀ b o, b < w.heap.size → I' b o = I b o) ∧ w'.os = w.os ∧ w'.tape = w.tape ∧ w'.output = w.output ∧ w.heap.size ≤ w'.heap.size ∧ (∀ b, b < w.heap.size → w'.heap[b]? = w.heap[b]?)) .ret a' w' := by
    rintro ⟨avs, ob, k1, k2⟩
    obtain ⟨I', g', ow', hs'⟩ := hs'
    rw [allP_append] at k2
    rw [← h6] at k1
    obtain ⟨v, l1, l2⟩ := results_run (fn := fn) hs' k1 k2.1
    subst hC
    exact ⟨hs'.defers, v, l1, v, I', rfl, Den.unref _ _ hp (leAV_sound _ _ _ l2 k2.2), hs'.ile, hs'.imm, hs'.one, fun b o hb => hs'.iold b o hb id, hs'.os, hs'.tape, hs'.output, hs'.hsize, fun b hb => hs'.kept b hb id⟩
  cases ex <;> first | exact fin hq | exact hq.elim
/-- a call tells what the function's contract tells of a result that is less -/
theorem Spec0.le {f : FuncId} {args : List AV} {res res' : AV} (h : Spec0 P f args res) (hl : allP (leAV res res')) : Spec0 P f args res' :=
  ⟨h.1, fun I w vs a b c d => (h.2 I w vs a b c d).mono fun _ _ ⟨v, I', e1, d, r⟩ => ⟨v, I', e1, leAV_sound _ _ _ d hl, r⟩⟩
end
end Go.Av
end
/- part AvLoc -/
section
namespace Go.Av
/-- the operands of an operation -/
def opX : SOp → List X
  | .cvp _ _ x | .cvq _ _ _ x | .usd _ x | .mov _ x | .box _ _ _ x | .load _ x _ _ | .nilc _ x | .not _ x | .neg _ x | .cvi _ _ x | .sby _ _ x | .bst _ x | .mki _ _ x | .fad _ x _ | .fld _ x _ _ _ | .ext _ x _ | .len _ _ x => [x]
  | .pick _ c a b => [c, a, b]
  | .alloc .. | .bad => []
  | .build _ _ ps => ps.map (·.2.2)
  | .bsl _ _ _ _ ps => ps.map (·.2)
  | .store x v _ => [x, v]
  | .bin _ _ x y | .eqb _ _ x y | .eqa _ _ _ x y | .eqn _ _ _ x y | .copy _ _ x y | .mx _ x y | .mn _ x y => [x, y]
  | .mkf _ _ cs => cs
  | .mks _ _ _ _ l c _ => [l, c]
  | .ust _ _ x n => [x, n]
  | .idg _ _ _ _ i => [i]
  | .slice _ _ x lo hi => x :: (lo.toList ++ hi.toList)
  | .slic3 _ _ x lo hi m => x :: (lo.toList ++ (hi.toList ++ m.toList))
  | .idx _ x i _ => [x, i]
  | .ida _ x i _ _ => [x, i]
  | .ind _ x i => [x, i]
  | .app _ _ _ _ s x => [s, x]
  | .call _ _ as => as
  | .callT _ f as => f :: as
/-- the operands whose roots are looked at -/
def opL : SOp → List X
  | .load _ x _ _ => [x]
  | .len _ _ x => [x]
  | .idx _ x _ _ => [x]
  | .cvp _ _ x | .cvq _ _ _ x | .usd _ x | .bst _ x | .sby _ _ x => [x]
  | .ust _ _ x n => [x, n]
  | .box _ _ _ x => [x]
  | .bsl _ _ _ _ ps => ps.map (·.2)
  | .store x v _ => [x, v]
  | .copy _ _ x y => [x, y]
  | .app _ _ _ _ s x => [s, x]
  | .mks _ _ _ _ l c _ => [l, c]
  | _ => []
theorem opL_sub {op : SOp} : ∀ x ∈ opL op, x ∈ opX op := by
  intro x hx
  cases op <;> simp only [opL, List.not_mem_nil] at hx <;> first | exact hx | (simp only [opX]; simp only [List.mem_singleton] at hx; subst hx; simp)
def ment : AV → List Nat
  | .loc q _ => [q]
  | .locE q _ _ _ => [q]
  | .ref q => [q]
  | .agg cs => go cs
  | _ => []
where
  go : List AV → List Nat
    | [] => []
    | x :: r => ment x ++ go r
section
variable {s s2 : St}
theorem xvs_congr : ∀ (l : List X), (∀ x ∈ l, xv s2 x = xv s x) → xvs s2 l = xvs s l
  | [], _ => rfl
  | x :: l, h => by simp only [xvs, h x (List.mem_cons_self ..), xvs_congr l (fun y hy => h y (List.mem_cons_of_mem _ hy))]
theorem parts_congr : ∀ (l : List (Nat × Nat × X)) (cs : List AV) (ob : List Prop), (∀ x ∈ l.map (·.2.2), xv s2 x = xv s x) → parts s2 l cs ob = parts s l cs ob
  | [], _, _, _ => rfl
  | (off, n, x) :: l, cs, ob, h => by
    simp only [List.map_cons] at h
    simp only [parts, h x (List.mem_cons_self ..)]
    cases (Nat.blt 0 n && (Nat.beq (cellsOf (und (xv s x))).length n && Nat.ble (off + n) cs.length))
    · rfl
    · simp only [cond_true]; exact parts_congr l _ _ (fun y hy => h y (List.mem_cons_of_mem _ hy))
theorem loadAt_congr {n : Nat} {agg : Bool} {ob : List Prop} {av : AV} (h : ∀ q ∈ ment av, lookR s2.rts q = lookR s.rts q) : loadAt s2 n agg ob av = loadAt s n agg ob av := by
  cases av <;> simp only [loadAt]
  · rw [h _ (by simp [ment])]
  · rw [h _ (by simp [ment])]
theorem lenOf_congr {str : Bool} {ob : List Prop} {av : AV} (h : ∀ q ∈ ment av, lookR s2.rts q = lookR s.rts q) : lenOf s2 str ob av = lenOf s str ob av := by
  cases av <;> simp only [lenOf]
  rw [h _ (by simp [ment])]
theorem optInt_congr {x : Option X} (h : ∀ y ∈ x.toList, xv s2 y = xv s y) : optInt s2 x = optInt s x := by
  cases x with
  | none => rfl
  | some y => simp only [optInt, h y (by simp)]
theorem ev_congr {op : SOp} (hx : ∀ x ∈ opX op, xv s2 x = xv s x) (hr : ∀ x ∈ opL op, ∀ q ∈ ment (und (xv s x)), lookR s2.rts q = lookR s.rts q) : ev s2 op = ev s op := by
  cases op
  case build d z ps => simp only [ev, parts_congr ps z [] hx]
  case mkf d f cs => simp only [ev, xvs_congr cs hx]
  case load d x n agg => simp only [ev, hx x (by simp [opX]), loadAt_congr (hr x (by simp [opL]))]
  case len d str x => simp only [ev, hx x (by simp [opX]), lenOf_congr (hr x (by simp [opL]))]
  case slice d sz x lo hi =>
    simp only [ev, hx x (by simp [opX]), optInt_congr (x := lo) (fun y hy => hx y (by simp only [opX, List.mem_cons, List.mem_append]; exact .inr (.inl hy))), optInt_congr (x := hi) (fun y hy => hx y (by simp only [opX, List.mem_cons, List.mem_append]; exact .inr (.inr hy)))]
  case idx d x i sz =>
    have h1 := hx x (by simp [opX])
    have h2 := hx i (by simp [opX])
    have h3 := hr x (by simp [opL])
    simp only [ev, h1, h2]
    revert h3
    generalize und (xv s x) = av
    intro h3
    cases av with
    | ref q =>
      have h4 := h3 q (by simp [ment])
      cases und (xv s i) with
      | int k n => simp only [h4]
      | _ => rfl
    | sl z n f => cases und (xv s i) <;> rfl
    | _ => rfl
  case cvp d t x =>
    have h1 := hx x (by simp [opX])
    have h3 := hr x (by simp [opL])
    simp only [ev, h1]
    revert h3
    generalize und (xv s x) = av
    intro h3
    cases av with
    | ref q => simp only [h3 q (by simp [ment])]
    | loc q o => cases o <;> first | rfl | simp only [h3 q (by simp [ment])]
    | _ => rfl
  case cvq d t n x =>
    have h1 := hx x (by simp [opX])
    have h3 := hr x (by simp [opL])
    simp only [ev, h1]
    revert h3
    generalize und (xv s x) = av
    intro h3
    cases av with
    | ref q => simp only [h3 q (by simp [ment])]
    | loc q o => cases o <;> first | rfl | simp only [h3 q (by simp [ment])]
    | _ => rfl
  case usd d x =>
    have h1 := hx x (by simp [opX])
    have h3 := hr x (by simp [opL])
    simp only [ev, h1]
    revert h3
    generalize und (xv s x) = av
    intro h3
    cases av with
    | ref q => simp only [h3 q (by simp [ment])]
    | loc q o => cases o <;> first | rfl | simp only [h3 q (by simp [ment])]
    | _ => rfl
  case bst d x =>
    have h1 := hx x (by simp [opX])
    have h3 := hr x (by simp [opL])
    simp only [ev, h1]
    revert h3
    generalize und (xv s x) = av
    intro h3
    cases av with
    | ref q => simp only [h3 q (by simp [ment])]
    | loc q o => cases o <;> first | rfl | simp only [h3 q (by simp [ment])]
    | _ => rfl
  case idg d l g f x => simp only [ev, hx x (by simp [opX])]
  case pick d c a b => simp only [ev, hx c (by simp [opX]), hx a (by simp [opX]), hx b (by simp [opX])]
  case bin d op x y => simp only [ev, hx x (by simp [opX]), hx y (by simp [opX])]
  case eqb d n x y => simp only [ev, hx x (by simp [opX]), hx y (by simp [opX])]
  case eqa d n k x y => simp only [ev, hx x (by simp [opX]), hx y (by simp [opX])]
  case eqn d n k x y => simp only [ev, hx x (by simp [opX]), hx y (by simp [opX])]
  case ida d x y l sz => simp only [ev, hx x (by simp [opX]), hx y (by simp [opX])]
  case ind d x y => simp only [ev, hx x (by simp [opX]), hx y (by simp [opX])]
  case mx d x y => simp only [ev, hx x (by simp [opX]), hx y (by simp [opX])]
  case mn d x y => simp only [ev, hx x (by simp [opX]), hx y (by simp [opX])]
  case mov d x => simp only [ev, hx x (by simp [opX])]
  case nilc d x => simp only [ev, hx x (by simp [opX])]
  case not d x => simp only [ev, hx x (by simp [opX])]
  case neg d x => simp only [ev, hx x (by simp [opX])]
  case cvi d k x => simp only [ev, hx x (by simp [opX])]
  case mki d k x => simp only [ev, hx x (by simp [opX])]
  case fad d x o => simp only [ev, hx x (by simp [opX])]
  case fld d x o n a => simp only [ev, hx x (by simp [opX])]
  case ext d x o => simp only [ev, hx x (by simp [opX])]
  all_goals rfl
/-- which slots and names an operation reads, and which it turns -/
structure Rec where
  rd : List Nat
  rn : List Nat
  d : Option Nat
  wn : List Nat
  nn : List Nat
  bar : Bool := false
def slots : List X → List Nat
  | [] => []
  | .t n :: r => n :: slots r
  | .c _ :: r => slots r
def ments (s : St) : List X → List Nat
  | [] => []
  | x :: r => ment (und (xv s x)) ++ ments s r
def wnOf (s : St) : SOp → List Nat
  | .box d .. => [d]
  | .alloc d .. => [d]
  | .ust _ _ x _ => ment (und (xv s x))
  | .mks d .. => [d]
  | .copy _ _ x _ => ment (und (xv s x))
  | .bsl d _ _ _ ps => d :: ments s (ps.map (·.2))
  | .app d _ _ _ b x => d :: (ment (und (xv s b)) ++ ment (und (xv s x)))
  | .store x v _ => ment (und (xv s x)) ++ ment (und (xv s v))
  | _ => []
def nnOf : SOp → List Nat
  | .box d .. => [d]
  | .alloc d .. => [d]
  | .bsl d .. => [d]
  | .app d .. => [d]
  | .mks d .. => [d]
  | _ => []
def recOf (s : St) (o : SO) : Rec :=
  { rd := (match o.g with | some (j, _) => [j] | none => []) ++ slots (opX o.op), rn := ments s (opL o.op), d := o.op.dst, wn := wnOf s o.op, nn := nnOf o.op }
def Agree (rc : Rec) (s s2 : St) : Prop := (∀ t ∈ rc.rd, look s2.env t = look s.env t) ∧ (∀ q ∈ rc.rn, lookR s2.rts q = lookR s.rts q) ∧ (∀ q ∈ rc.wn, lookR s2.rts q = lookR s.rts q)
/-- s2' is s2 with what the operation turned from s to s' -/
def Turned (rc : Rec) (s' s2 s2' : St) : Prop :=
  (∀ t, look s2'.env t = if rc.d = some t then look s'.env t else look s2.env t) ∧ (∀ q, lookR s2'.rts q = if q ∈ rc.wn then lookR s'.rts q else lookR s2.rts q)
theorem agree_x {l : List X} (h : ∀ t ∈ slots l, look s2.env t = look s.env t) : ∀ x ∈ l, xv s2 x = xv s x := by
  induction l with
  | nil => simp
  | cons y l ih =>
    intro x hx
    rcases List.mem_cons.1 hx with rfl | hx
    · cases x with
      | t n => exact h n (by simp [slots])
      | c v => rfl
    · refine ih (fun t ht => h t ?_) x hx
      cases y <;> simp [slots, ht]
theorem agree_m {l : List X} (h : ∀ q ∈ ments s l, lookR s2.rts q = lookR s.rts q) : ∀ x ∈ l, ∀ q ∈ ment (und (xv s x)), lookR s2.rts q = lookR s.rts q := by
  induction l with
  | nil => simp
  | cons y l ih =>
    intro x hx q hq
    rcases List.mem_cons.1 hx with rfl | hx
    · exact h q (by simp [ments, hq])
    · exact ih (fun q hq => h q (by simp [ments, hq])) x hx q hq
theorem bslL_congr {sz : Nat} : ∀ (l : List (Nat × X)) (k : Nat) (ob : List Prop) (K K2 : List (List AV) → List Prop → Res), (∀ x ∈ l.map (·.2), xv s2 x = xv s x) →
    ∀ {s' : St} {ob' : List Prop}, bslL s sz l k ob K = .ok s' ob' → ∃ c ob1, K c ob1 = .ok s' ob' ∧ bslL s2 sz l k ob K2 = K2 c ob1
  | [], k, ob, K, K2, _, s', ob', he => ⟨[], ob, he, rfl⟩
  | (i, x) :: l, k, ob, K, K2, h, s', ob', he => by
    simp only [List.map_cons] at h
    simp only [bslL, foL_eq, h x (List.mem_cons_self ..)] at he ⊢
    cases hc : (Nat.beq k i && (Nat.beq (cellsOf (und (xv s x))).length sz && (isPureL (cellsOf (und (xv s x))) && oneL (cellsOf (und (xv s x)))))) with
    | false => simp [hc] at he
    | true =>
      simp only [hc, cond_true] at he
      obtain ⟨c, ob1, h1, h2⟩ := bslL_congr l (k + 1) _ _ (fun l ob => K2 (cellsOf (und (xv s x)) :: l) ob) (fun y hy => h y (List.mem_cons_of_mem _ hy)) he
      exact ⟨cellsOf (und (xv s x)) :: c, ob1, h1, by simpa only [cond_true] using h2⟩
theorem bslL_no {sz : Nat} : ∀ (l : List (Nat × X)) (k : Nat) (ob : List Prop) (K K2 : List (List AV) → List Prop → Res), (∀ x ∈ l.map (·.2), xv s2 x = xv s x) → (∀ c ob, K c ob = .no → K2 c ob = .no) → bslL s sz l k ob K = .no → bslL s2 sz l k ob K2 = .no
  | [], k, ob, K, K2, _, hk, he => hk _ _ he
  | (i, x) :: l, k, ob, K, K2, h, hk, he => by
    simp only [List.map_cons] at h
    simp only [bslL, foL_eq, h x (List.mem_cons_self ..)] at he ⊢
    cases hc : (Nat.beq k i && (Nat.beq (cellsOf (und (xv s x))).length sz && (isPureL (cellsOf (und (xv s x))) && oneL (cellsOf (und (xv s x)))))) with
    | false => rfl
    | true =>
      simp only [hc, cond_true] at he ⊢
      exact bslL_no l (k + 1) _ _ _ (fun y hy => h y (List.mem_cons_of_mem _ hy)) (fun c ob hh => hk _ _ hh) he
theorem ownL_congr : ∀ (cs : List AV) {rts rts2 : List (Nat × Rt)} {cs' : List AV} {rts' : List (Nat × Rt)}, (∀ q ∈ ment.go cs, lookR rts2 q = lookR rts q) → ownL rts cs = some (cs', rts') →
    ∃ rts2', ownL rts2 cs = some (cs', rts2') ∧ (∀ p, lookR rts2 p = lookR rts p → lookR rts2' p = lookR rts' p) ∧ ∀ p, p ∉ ment.go cs → lookR rts2' p = lookR rts2 p
  | [], rts, rts2, cs', rts', _, he => by
    simp only [ownL, Option.some.injEq, Prod.mk.injEq] at he
    obtain ⟨rfl, rfl⟩ := he
    exact ⟨rts2, rfl, fun _ h => h, fun _ _ => rfl⟩
  | c :: cs, rts, rts2, cs', rts', h, he => by
    have pureCase : isPure c = true → (match ownL rts cs with | some (cs', rts') => some (c :: cs', rts') | none => none) = some (cs', rts') →
        ∃ rts2', (match ownL rts2 cs with | some (cs', rts') => some (c :: cs', rts') | none => none) = some (cs', rts2') ∧ (∀ p, lookR rts2 p = lookR rts p → lookR rts2' p = lookR rts' p) ∧ ∀ p, p ∉ ment.go (c :: cs) → lookR rts2' p = lookR rts2 p := by
      intro hp he
      split at he <;> first | (cases he; done) | skip
      rename_i c1 r1 h1
      simp only [Option.some.injEq, Prod.mk.injEq] at he
      obtain ⟨rfl, rfl⟩ := he
      obtain ⟨r2, k1, k2, k3⟩ := ownL_congr cs (rts2 := rts2) (fun q hq => h q (by simp [ment.go, hq])) h1
      exact ⟨r2, by rw [k1], k2, fun p hp => k3 p fun hh => hp (by simp [ment.go, hh])⟩
    cases c
    case ref r =>
      simp only [ownL] at he ⊢
      have hr2 := h r (by simp [ment.go, ment])
      rw [hr2]
      split at he <;> first | (cases he; done) | skip
      rename_i e sz n hh hr
      split at he <;> first | (cases he; done) | skip
      rename_i c1 r1 h1
      simp only [Option.some.injEq, Prod.mk.injEq] at he
      obtain ⟨rfl, rfl⟩ := he
      have her : ∀ p, lookR rts2 p = lookR rts p → lookR (eraseR r rts2) p = lookR (eraseR r rts) p := fun p hp => by rw [lookR_eraseR, lookR_eraseR, hp]
      obtain ⟨r2, k1, k2, k3⟩ := ownL_congr cs (rts2 := eraseR r rts2) (fun q hq => her q (h q (by simp [ment.go, hq]))) h1
      refine ⟨r2, by simp only [k1], fun p hp => k2 p (her p hp), fun p hp => ?_⟩
      simp only [ment.go, ment, List.mem_append, List.mem_singleton, not_or] at hp
      rw [k3 p hp.2, lookR_eraseR, if_neg (fun e => hp.1 e.symm)]
    all_goals
      (simp only [ownL] at he ⊢
       cases hp : isPure _ with
       | false => rw [hp] at he; cases he
       | true => rw [hp] at he; exact pureCase hp he)
theorem ments_of {s : St} {l : List X} {x : X} (hx : x ∈ l) {q : Nat} (hq : q ∈ ment (und (xv s x))) : q ∈ ments s l := by
  induction l with
  | nil => simp at hx
  | cons y l ih =>
    simp only [ments, List.mem_append]
    rcases List.mem_cons.1 hx with rfl | hx
    · exact .inl hq
    · exact .inr (ih hx)
theorem ment_cells (v : AV) (q : Nat) (h : q ∈ ment.go (cellsOf v)) : q ∈ ment v := by
  cases v <;> simp [cellsOf, ment.go, ment] at h ⊢ <;> first | exact h | skip
theorem source_congr {sz : Nat} {av : AV} (h : ∀ q ∈ ment av, lookR s2.rts q = lookR s.rts q) : source s2.rts sz av = source s.rts sz av := by
  cases av <;> simp only [source]
  rw [h _ (by simp [ment])]
theorem agree_mem {l : List X} (h : ∀ x ∈ l, ∀ q ∈ ment (und (xv s x)), lookR s2.rts q = lookR s.rts q) : ∀ q ∈ ments s l, lookR s2.rts q = lookR s.rts q := by
  induction l with
  | nil => intro q hq; simp [ments] at hq
  | cons y l ih =>
    intro q hq
    simp only [ments, List.mem_append] at hq
    rcases hq with hq | hq
    · exact h y (List.mem_cons_self ..) q hq
    · exact ih (fun x hx => h x (List.mem_cons_of_mem _ hx)) q hq
theorem turned_new {d : Nat} {rc : Rec} (hd : rc.d = some d) (hw : rc.wn = [d]) {av : AV} {r : Rt} {env env2 : List (Nat × AV)} {rts rts2 : List (Nat × Rt)} : Turned rc ⟨(d, av) :: env, (d, r) :: rts⟩ ⟨env2, rts2⟩ ⟨(d, av) :: env2, (d, r) :: rts2⟩ := by
  refine ⟨fun t => ?_, fun q => ?_⟩
  · simp only [hd, look_cons, Option.some.injEq]
    by_cases h : d = t <;> simp [h]
  · simp only [hw, lookR_cons, List.mem_singleton]
    by_cases h : q = d
    · subst h; simp
    · rw [if_neg h, if_neg (fun e => h e.symm)]
theorem turned_new' {d : Nat} {rc : Rec} {l : List Nat} (hd : rc.d = some d) (hw : rc.wn = d :: l) {av : AV} {r : Rt} {env env2 : List (Nat × AV)} {rts rts2 : List (Nat × Rt)} (hl : ∀ q ∈ l, lookR rts2 q = lookR rts q) : Turned rc ⟨(d, av) :: env, (d, r) :: rts⟩ ⟨env2, rts2⟩ ⟨(d, av) :: env2, (d, r) :: rts2⟩ := by
  refine ⟨fun t => ?_, fun q => ?_⟩
  · simp only [hd, look_cons, Option.some.injEq]
    by_cases h : d = t <;> simp [h]
  · simp only [hw, lookR_cons, List.mem_cons]
    by_cases h : d = q
    · subst h; simp
    · have h' : ¬ q = d := fun e => h e.symm
      simp only [if_neg h, h', false_or]
      split
      · rename_i hq; exact hl q hq
      · rfl
/-- roots turned, and a new one -/
theorem turned_gen {d : Nat} {rc : Rec} {l : List Nat} (hd : rc.d = some d) (hw : rc.wn = d :: l) {av : AV} {r : Rt} {env env2 : List (Nat × AV)} {rts2 rts' : List (Nat × Rt)} (h1 : ∀ q ∈ l, lookR rts2 q = lookR rts' q) {rts2o : List (Nat × Rt)} (h2 : ∀ q, q ∉ l → lookR rts2 q = lookR rts2o q) : Turned rc ⟨(d, av) :: env, (d, r) :: rts'⟩ ⟨env2, rts2o⟩ ⟨(d, av) :: env2, (d, r) :: rts2⟩ := by
  refine ⟨fun t => ?_, fun q => ?_⟩
  · simp only [hd, look_cons, Option.some.injEq]
    by_cases h : d = t <;> simp [h]
  · simp only [hw, lookR_cons, List.mem_cons]
    by_cases h : d = q
    · subst h; simp
    · have h' : ¬ q = d := fun e => h e.symm
      simp only [if_neg h, h', false_or]
      split
      · rename_i hq; exact h1 q hq
      · rename_i hq; exact h2 q hq
theorem turned_put {rc : Rec} {d : Nat} (hd : rc.d = some d) (hw : rc.wn = []) {v : AV} {env env2 : List (Nat × AV)} {rts rts2 : List (Nat × Rt)} : Turned rc ⟨(d, v) :: env, rts⟩ ⟨env2, rts2⟩ ⟨(d, v) :: env2, rts2⟩ := by
  refine ⟨fun t => ?_, fun q => by simp [hw]⟩
  simp only [hd, look_cons, Option.some.injEq]
  by_cases h : d = t <;> simp [h]
theorem ef_congr {op : SOp} (hx : ∀ x ∈ opX op, xv s2 x = xv s x) (hr : ∀ x ∈ opL op, ∀ q ∈ ment (und (xv s x)), lookR s2.rts q = lookR s.rts q) (hf : ∀ q ∈ nnOf op, fresh q s2 = true) {s' : St} {ob : List Prop}
    (he : ef s op = .ok s' ob) : ∃ s2', ef s2 op = .ok s2' ob ∧ ∀ g af, Turned (recOf s ⟨op, g, af⟩) s' s2 s2' := by
  obtain ⟨env, rts⟩ := s
  obtain ⟨env2, rts2⟩ := s2
  cases op <;> try (simp [ef] at he; done)
  case box d e n x =>
    have h1 := hx x (by simp [opX])
    have h2 := hf d (by simp [nnOf])
    simp only [ef, foL_eq, h1, h2] at he ⊢
    cases hc : (fresh d ⟨env, rts⟩ && (Nat.beq (cellsOf (und (xv ⟨env, rts⟩ x))).length n && oneL (cellsOf (und (xv ⟨env, rts⟩ x))))) with
    | false => simp [hc] at he
    | true =>
      simp only [hc, cond_true, Res.ok.injEq] at he
      obtain ⟨rfl, rfl⟩ := he
      simp only [Bool.and_eq_true] at hc
      rw [hc.2.1, hc.2.2]
      exact ⟨_, rfl, fun g af => turned_new rfl rfl⟩
  case alloc d e z =>
    have h2 := hf d (by simp [nnOf])
    simp only [ef, h2] at he ⊢
    cases hc : (fresh d ⟨env, rts⟩ && isPureL z) with
    | false => simp [hc] at he
    | true =>
      simp only [hc, cond_true, Res.ok.injEq] at he
      obtain ⟨rfl, rfl⟩ := he
      simp only [Bool.and_eq_true] at hc
      rw [hc.2]
      exact ⟨_, rfl, fun g af => turned_new rfl rfl⟩
  case copy d sz x y =>
    have h1 := hx x (by simp [opX])
    have h2 := hx y (by simp [opX])
    have h3 := hr x (by simp [opL])
    have h4 := hr y (by simp [opL])
    have h6 := source_congr (s := ⟨env, rts⟩) (s2 := ⟨env2, rts2⟩) (sz := sz) h4
    simp only [ef, h1, h2, Res.mk_eq] at he ⊢
    simp only at h6
    split at he <;> first | (cases he; done) | skip
    rename_i q hu
    have h7 := h3 q (by rw [hu]; simp [ment])
    simp only at h7
    rw [h6, h7]
    split at he <;> first | (cases he; done) | skip
    rename_i e' sz' n f m gf hr' hs'
    have hr2 : lookR rts2 q = some (.row e' sz' n f) := h7.trans hr'
    cases hb : Nat.beq sz sz' with
    | false => simp [hb] at he
    | true =>
      simp only [hb, cond_true, Res.ok.injEq] at he ⊢
      obtain ⟨rfl, rfl⟩ := he
      refine ⟨_, ⟨rfl, rfl⟩, fun g af => ⟨fun t => ?_, fun p => ?_⟩⟩
      · simp only [recOf, SOp.dst, look_cons, Option.some.injEq]
        by_cases h : d = t <;> simp [h]
      · simp only [recOf, wnOf, hu, ment, lookR_setR, List.mem_singleton]
        by_cases hp : p = q
        · subst hp; simp [hr', hr2]
        · have hpq : ¬ q = p := fun e => hp e.symm
          simp [hp, hpq]
  case sby d e x =>
    have h1 := hx x (by simp [opX])
    simp only [ef, h1] at he ⊢
    split at he <;> first | (cases he; done) | skip
    simp only [Res.ok.injEq] at he
    obtain ⟨rfl, rfl⟩ := he
    exact ⟨_, rfl, fun g af => turned_put (by simp [recOf, SOp.dst]) (by simp [recOf, wnOf])⟩
  case ust d e x n =>
    have h1 := hx x (by simp [opX])
    have h2 := hx n (by simp [opX])
    have h3 := hr x (by simp [opL])
    simp only [ef, h1, h2, Res.mk_eq] at he ⊢
    split at he <;> first | (cases he; done) | skip
    · rename_i m hu hn
      simp only [Res.ok.injEq] at he
      obtain ⟨rfl, rfl⟩ := he
      exact ⟨_, rfl, fun g af => turned_put (by simp [recOf, SOp.dst]) (by simp [recOf, wnOf, hu, ment])⟩
    · rename_i q m hu hn
      have h7 := h3 q (by rw [hu]; simp [ment])
      simp only at h7
      rw [h7]
      split at he <;> first | (cases he; done) | skip
      rename_i e' sz k f hr'
      cases hb : (Nat.beq sz 1 && Nat.beq e e') with
      | false => simp [hb] at he
      | true =>
        simp only [hb, cond_true, Res.ok.injEq] at he ⊢
        obtain ⟨rfl, rfl⟩ := he
        refine ⟨_, ⟨rfl, rfl⟩, fun g af => ⟨fun t => ?_, fun p => ?_⟩⟩
        · simp only [recOf, SOp.dst, look_cons, Option.some.injEq]
          by_cases h : d = t <;> simp [h]
        · simp only [recOf, wnOf, hu, ment, lookR_eraseR, List.mem_singleton]
          by_cases hp : q = p
          · subst hp; simp
          · have hpq : ¬ p = q := fun e => hp e.symm
            simp [hp, hpq]
  case mks d e sz bytes l c z =>
    have h1 := hx l (by simp [opX])
    have h1' := hx c (by simp [opX])
    have h2 := hf d (by simp [nnOf])
    simp only [ef, h1, h1', h2] at he ⊢
    cases hc : (fresh d ⟨env, rts⟩ && isPureL z) with
    | false => simp [hc] at he
    | true =>
      simp only [hc, cond_true] at he ⊢
      simp only [Bool.and_eq_true] at hc
      rw [hc.2]
      split at he <;> first | (cases he; done) | skip
      simp only [Res.ok.injEq] at he
      obtain ⟨rfl, rfl⟩ := he
      exact ⟨_, rfl, fun g af => turned_new rfl rfl⟩
  case bsl d e sz len ps =>
    have h2 := hf d (by simp [nnOf])
    simp only [ef, h2] at he ⊢
    cases hc : fresh d ⟨env, rts⟩ with
    | false => simp [hc] at he
    | true =>
      simp only [hc, cond_true] at he
      have hag : ∀ q ∈ ments ⟨env, rts⟩ (ps.map (·.2)), lookR rts2 q = lookR rts q := agree_mem (s := ⟨env, rts⟩) (s2 := ⟨env2, rts2⟩) hr
      simp only [cond_true]
      rcases Res.or_ok he with he | ⟨hno, he⟩
      · obtain ⟨c, ob1, h3, h4⟩ := bslL_congr (s2 := ⟨env2, rts2⟩) ps 0 [] _ (fun l ob => bif Nat.beq l.length len then .ok ⟨(d, .ref d) :: env2, (d, .row e sz len (nth l)) :: rts2⟩ ob else .no) hx he
        rw [h4]
        cases hn : Nat.beq c.length len with
        | false => simp [hn] at h3
        | true =>
          simp only [hn, cond_true, Res.ok.injEq, Res.or] at h3 ⊢
          obtain ⟨rfl, rfl⟩ := h3
          exact ⟨_, ⟨rfl, rfl⟩, fun g af => turned_new' rfl rfl hag⟩
      · have hno2 := bslL_no (s2 := ⟨env2, rts2⟩) ps 0 [] _ (fun l ob => bif Nat.beq l.length len then .ok ⟨(d, .ref d) :: env2, (d, .row e sz len (nth l)) :: rts2⟩ ob else .no) hx (fun c ob hh => by
          cases hn : Nat.beq c.length len with
          | false => rfl
          | true => simp [hn] at hh) hno
        rw [hno2]
        simp only [Res.or]
        rcases ps with _ | ⟨⟨i, x⟩, _ | ⟨p2, rest⟩⟩
        · simp [bslO] at he
        · have hxx := hx x (by simp [opX])
          simp only [bslO, hxx] at he ⊢
          cases hc1 : (Nat.beq len 1 && Nat.beq i 0) with
          | false => simp [hc1] at he
          | true =>
            simp only [hc1, cond_true, foL_eq] at he ⊢
            cases hc2 : (Nat.beq (cellsOf (und (xv ⟨env, rts⟩ x))).length sz && oneL (cellsOf (und (xv ⟨env, rts⟩ x)))) with
            | false => simp [hc2] at he
            | true =>
              simp only [hc2, cond_true] at he ⊢
              split at he <;> first | (cases he; done) | skip
              rename_i cs' rts' hown
              simp only [Res.mk_eq, Res.ok.injEq] at he
              obtain ⟨rfl, rfl⟩ := he
              have hm : ments ⟨env, rts⟩ ([(i, x)].map (·.2)) = ment (und (xv ⟨env, rts⟩ x)) := by simp [ments]
              rw [hm] at hag
              obtain ⟨r2, k1, k2, k3⟩ := ownL_congr _ (rts2 := rts2) (fun q hq => hag q (ment_cells _ q hq)) hown
              simp only [k1, Res.mk_eq]
              refine ⟨_, rfl, fun g af => turned_gen (l := ment (und (xv ⟨env, rts⟩ x))) rfl (by simp [recOf, wnOf, ments]) (fun q hq => k2 q (hag q hq)) (fun q hq => k3 q fun hh => hq (ment_cells _ q hh))⟩
        · simp [bslO] at he
  case store x v n =>
    have h1 := hx x (by simp [opX])
    have h2 := hx v (by simp [opX])
    have h3 := hr x (by simp [opL])
    have h4 := hr v (by simp [opL])
    simp only [ef, foL_eq, h1, h2] at he ⊢
    cases hc : (Nat.beq (cellsOf (und (xv ⟨env, rts⟩ v))).length n && oneL (cellsOf (und (xv ⟨env, rts⟩ v)))) with
    | false => simp [hc] at he
    | true =>
      simp only [hc, cond_true] at he ⊢
      have tst : ∀ (q : Nat) (r0 r : Rt), ment (und (xv ⟨env, rts⟩ x)) = [q] → lookR rts q = some r0 → lookR rts2 q = some r0 → ∀ g af, Turned (recOf ⟨env, rts⟩ ⟨.store x v n, g, af⟩) ⟨env, setR q r rts⟩ ⟨env2, rts2⟩ ⟨env2, setR q r rts2⟩ := by
        intro q r0 r hm hq hq2 g af
        refine ⟨fun t => by simp [recOf, SOp.dst], fun p => ?_⟩
        simp only [recOf, wnOf, hm, lookR_setR, List.mem_append, List.mem_singleton]
        by_cases hp : p = q
        · subst hp; simp [hq, hq2]
        · have hpq : ¬ q = p := fun e => hp e.symm
          simp only [if_neg hpq, hp, false_or]
          split
          · rename_i hpv; exact h4 p hpv
          · rfl
      split at he
      · rename_i q off hu
        rw [hu] at h3
        rw [h3 q (by simp [ment])]
        split at he
        · rename_i cells hr'
          cases hb : Nat.ble (off + n) cells.length with
          | false => simp [hb] at he
          | true =>
            simp only [hb, cond_true, Res.mk_eq, Res.ok.injEq] at he
            obtain ⟨rfl, rfl⟩ := he
            simp only [hr', hb, cond_true, Res.mk_eq]
            exact ⟨_, rfl, tst q _ _ (by rw [hu]; rfl) hr' ((h3 q (by simp [ment])).trans hr')⟩
        · cases he
      · rename_i q sz k off hu
        rw [hu] at h3
        rw [h3 q (by simp [ment])]
        split at he
        · rename_i e sz' m f hr'
          cases hb : (Nat.beq sz sz' && (Nat.ble (off + n) sz && isPureL (cellsOf (und (xv ⟨env, rts⟩ v))))) with
          | false => simp [hb] at he
          | true =>
            simp only [hb, cond_true, Res.mk_eq, Res.ok.injEq] at he
            obtain ⟨rfl, rfl⟩ := he
            simp only [hr', hb, cond_true, Res.mk_eq]
            exact ⟨_, rfl, tst q _ _ (by rw [hu]; rfl) hr' ((h3 q (by simp [ment])).trans hr')⟩
        · rename_i e sz' m f i fs hr'
          have hq2 : lookR rts2 q = some (.rowO e sz' m f i fs) := (h3 q (by simp [ment])).trans hr'
          rw [hr']
          cases hb : Nat.beq sz sz' with
          | false => simp [hb] at he
          | true =>
            simp only [hb, cond_true] at he ⊢
            unfold storeO at he ⊢
            cases hle : Nat.ble (off + n) sz with
            | false => simp [hle] at he
            | true =>
              simp only [hle, cond_true] at he ⊢
              cases hp : isPureL (cellsOf (und (xv ⟨env, rts⟩ v))) with
              | true =>
                simp only [hp, cond_true] at he ⊢
                cases hff : freeF fs off n with
                | false => simp [hff] at he
                | true =>
                  simp only [hff, cond_true, Res.mk_eq, Res.ok.injEq] at he ⊢
                  obtain ⟨rfl, rfl⟩ := he
                  exact ⟨_, ⟨rfl, rfl⟩, tst q _ _ (by rw [hu]; rfl) hr' hq2⟩
              | false =>
                simp only [hp, cond_false] at he ⊢
                split at he <;> first | (cases he; done) | skip
                rename_i r hv
                split at he
                · rename_i r0 hl
                  simp only [Res.mk_eq, Res.ok.injEq] at he
                  obtain ⟨rfl, rfl⟩ := he
                  simp only [Res.mk_eq]
                  exact ⟨_, rfl, tst q _ _ (by rw [hu]; rfl) hr' hq2⟩
                · rename_i hl
                  split at he <;> first | (cases he; done) | skip
                  rename_i e' sz2 n' hh hrr
                  simp only [Res.mk_eq, Res.ok.injEq] at he
                  obtain ⟨rfl, rfl⟩ := he
                  have hvr : und (xv ⟨env, rts⟩ v) = .ref r ∨ und (xv ⟨env, rts⟩ v) = .agg [.ref r] := by
                    generalize und (xv ⟨env, rts⟩ v) = av at hv
                    cases av <;> simp [cellsOf] at hv
                    · exact .inl (by rw [hv])
                    · exact .inr (by rw [hv])
                  have hmr : ment (und (xv ⟨env, rts⟩ v)) = [r] := by
                    rcases hvr with hvr | hvr
                    · rw [hvr]; rfl
                    · rw [hvr]; rfl
                  rw [hmr] at h4
                  have hrr2 : lookR rts2 r = some (.row e' sz2 n' hh) := (h4 r (by simp)).trans hrr
                  simp only [hrr2, Res.mk_eq]
                  have hqr : ¬ q = r := by rintro rfl; rw [hr'] at hrr; cases hrr
                  refine ⟨_, rfl, fun g af => ⟨fun t => by simp [recOf, SOp.dst], fun p => ?_⟩⟩
                  simp only [recOf, wnOf, hu, hmr, ment, lookR_setR, lookR_eraseR, List.mem_append, List.mem_singleton]
                  by_cases hpq : q = p
                  · subst hpq
                    have hrq : ¬ r = q := fun e => hqr e.symm
                    simp [hrq, hr', hq2]
                  · have hpq' : ¬ p = q := fun e => hpq e.symm
                    by_cases hpr : r = p
                    · subst hpr; simp [hpq]
                    · have hpr' : ¬ p = r := fun e => hpr e.symm
                      simp [hpq, hpq', hpr, hpr']
        · cases he
      · cases he
  case app d e sz bytes b x =>
    have h1 := hx b (by simp [opX])
    have h2 := hx x (by simp [opX])
    have h3 := hr b (by simp [opL])
    have h4 := hr x (by simp [opL])
    have h5 := hf d (by simp [nnOf])
    have h6 := source_congr (s := ⟨env, rts⟩) (s2 := ⟨env2, rts2⟩) (sz := sz) h4
    have hag : ∀ q ∈ ment (und (xv ⟨env, rts⟩ b)) ++ ment (und (xv ⟨env, rts⟩ x)), lookR rts2 q = lookR rts q := by
      intro q hq
      rcases List.mem_append.1 hq with hq | hq
      · exact h3 q hq
      · exact h4 q hq
    simp only [ef, h1, h2, h5, Res.mk_eq] at he ⊢
    simp only at h6
    cases hc : fresh d ⟨env, rts⟩ with
    | false => simp [hc] at he
    | true =>
      simp only [hc, cond_true] at he ⊢
      rw [h6]
      split at he
      · rename_i m gf hs
        split at he
        · simp only [Res.ok.injEq] at he
          obtain ⟨rfl, rfl⟩ := he
          exact ⟨_, rfl, fun g af => turned_new' rfl rfl hag⟩
        · simp only [Res.ok.injEq] at he
          obtain ⟨rfl, rfl⟩ := he
          exact ⟨_, rfl, fun g af => turned_new' rfl rfl hag⟩
        · rename_i q hu
          have h7 := h3 q (by rw [hu]; simp [ment])
          simp only at h7
          rw [h7]
          have ter : ∀ (r : Rt) (g : Option (Nat × Bool)) (af : List Nat), Turned (recOf ⟨env, rts⟩ ⟨.app d e sz bytes b x, g, af⟩) ⟨(d, .ref d) :: env, (d, r) :: eraseR q rts⟩ ⟨env2, rts2⟩ ⟨(d, .ref d) :: env2, (d, r) :: eraseR q rts2⟩ := fun r g af =>
            turned_gen rfl rfl (fun p hp => by rw [lookR_eraseR, lookR_eraseR, hag p hp]) (fun p hp => by
              rw [lookR_eraseR, if_neg]
              rintro rfl
              exact hp (by simp [hu, ment]))
          split at he
          · rename_i e' sz' n f hr'
            cases hb : (Nat.beq sz sz' && Nat.beq e e') with
            | false => simp [hb] at he
            | true =>
              simp only [hb, cond_true, Res.ok.injEq] at he ⊢
              obtain ⟨rfl, rfl⟩ := he
              exact ⟨_, ⟨rfl, rfl⟩, fun g af => ter _ g af⟩
          · rename_i e' sz' n f i0 fs hr'
            cases hb : (Nat.beq sz sz' && (Nat.beq e e' && isNilF fs)) with
            | false => simp [hb] at he
            | true =>
              simp only [hb, cond_true, Res.ok.injEq] at he ⊢
              obtain ⟨rfl, rfl⟩ := he
              exact ⟨_, ⟨rfl, rfl⟩, fun g af => ter _ g af⟩
          · cases he
        · cases he
      · unfold appO at he ⊢
        split at he <;> first | (cases he; done) | skip
        rename_i src q hx' hb'
        have g1 := hag src (by rw [hx']; simp [ment])
        have g2 := hag q (by rw [hb']; simp [ment])
        simp only [g1, g2]
        split at he <;> first | (cases he; done) | skip
        rename_i e1 sz1 m gf i1 fs1 e2 sz2 n f i2 fs2 hr1 hr2
        cases hb : (!Nat.beq src q && (Nat.beq e e1 && (Nat.beq e e2 && (Nat.beq sz sz1 && (Nat.beq sz sz2 && (isNilF fs1 && isNilF fs2)))))) with
        | false => simp [hb] at he
        | true =>
          simp only [hb, cond_true, Res.mk_eq, Res.ok.injEq] at he ⊢
          obtain ⟨rfl, rfl⟩ := he
          refine ⟨_, ⟨rfl, rfl⟩, fun g af => turned_gen rfl rfl (fun p hp => by rw [lookR_eraseR, lookR_eraseR, lookR_eraseR, lookR_eraseR, hag p hp]) (fun p hp => ?_)⟩
          rw [lookR_eraseR, lookR_eraseR, if_neg, if_neg]
          · rintro rfl; exact hp (by simp [hb', ment])
          · rintro rfl; exact hp (by simp [hx', ment])

variable {P : Program} {C : Ctx P}
/-- a name that is nowhere in use -/
def FreshP (q : Nat) (s : St) : Prop := (∀ t, noref q (look s.env t) = true) ∧ ∀ p r, lookR s.rts p = some r → p ≠ q ∧ norefR q r = true
def nrm (s : St) : St := ⟨keepE s.env (s.env.map (·.1)), keepR s.rts (s.rts.map (·.1))⟩
theorem keepE_eq {env : List (Nat × AV)} : ∀ (ts : List Nat) (t : Nat), look (keepE env ts) t = if t ∈ ts then look env t else .any
  | [], t => by simp [keepE, look]
  | k :: ts, t => by
    simp only [keepE, look_cons, keepE_eq ts t, List.mem_cons]
    by_cases h : k = t
    · subst h; simp
    · have : ¬ t = k := fun e => h e.symm
      simp [h, this]
theorem look_none {t : Nat} : ∀ {env : List (Nat × AV)}, t ∉ env.map (·.1) → look env t = .any
  | [], _ => rfl
  | (k, v) :: r, h => by
    simp only [List.map_cons, List.mem_cons, not_or] at h
    rw [look_cons, if_neg (fun e => h.1 e.symm)]
    exact look_none h.2
theorem lookR_none {t : Nat} : ∀ {rts : List (Nat × Rt)}, t ∉ rts.map (·.1) → lookR rts t = none
  | [], _ => rfl
  | (k, v) :: r, h => by
    simp only [List.map_cons, List.mem_cons, not_or] at h
    rw [lookR_cons, if_neg (fun e => h.1 e.symm)]
    exact lookR_none h.2
theorem keepR_eq {rts : List (Nat × Rt)} : ∀ (qs : List Nat) (q : Nat), lookR (keepR rts qs) q = if q ∈ qs then lookR rts q else none
  | [], q => by simp [keepR, lookR]
  | k :: qs, q => by
    simp only [keepR]
    by_cases h : k = q
    · subst h
      split
      · rename_i r hr; simp [lookR_cons, hr]
      · rename_i hr; rw [keepR_eq qs k]; simp [hr]
    · have hn : ¬ q = k := fun e => h e.symm
      split
      · rename_i r hr; simp [lookR_cons, h, hn, keepR_eq qs q]
      · simp [hn, keepR_eq qs q]
theorem nrm_look (s : St) (t : Nat) : look (nrm s).env t = look s.env t := by
  simp only [nrm, keepE_eq]
  split
  · rfl
  · rename_i h; exact (look_none h).symm
theorem nrm_lookR (s : St) (q : Nat) : lookR (nrm s).rts q = lookR s.rts q := by
  simp only [nrm, keepR_eq]
  split
  · rfl
  · rename_i h; exact (lookR_none h).symm
theorem freshE_keep {q : Nat} {env : List (Nat × AV)} (h : ∀ t, noref q (look env t) = true) : ∀ ts : List Nat, freshE q (keepE env ts) = true
  | [] => rfl
  | t :: ts => by simp only [keepE, freshE, h t, freshE_keep h ts, Bool.and_self]
theorem freshR_keep {q : Nat} {rts : List (Nat × Rt)} (h : ∀ p r, lookR rts p = some r → p ≠ q ∧ norefR q r = true) : ∀ qs : List Nat, freshR q (keepR rts qs) = true
  | [] => rfl
  | p :: qs => by
    simp only [keepR]
    split
    · rename_i r hr
      obtain ⟨h1, h2⟩ := h p r hr
      simp only [freshR, beq_ne h1, h2, freshR_keep h qs, Bool.not_false, Bool.and_self]
    · exact freshR_keep h qs
theorem nrm_fresh {q : Nat} {s : St} (h : FreshP q s) : fresh q (nrm s) = true := by
  simp only [fresh, nrm, freshE_keep h.1, freshR_keep h.2, Bool.and_self]
theorem freshP_of {q : Nat} {s : St} (h : fresh q s = true) : FreshP q s := by
  simp only [fresh, Bool.and_eq_true] at h
  exact ⟨freshE_look h.1, freshR_look h.2⟩
/-- an operation that turns s to s', as it does in any state that agrees on what it looks at -/
def Op1 (P : Program) (C : Ctx P) (so : SO) (rc : Rec) (s s' : St) : Prop :=
  ∀ (dr : Bool) (ops : Array Oper) (o : Oper), cso P dr ops o = so → (∀ d, o.dst = some d → d < C.nt) → ∀ s2, Agree rc s s2 → (∀ q ∈ rc.nn, FreshP q s2) →
    ∀ a w, Sat C s2 a w → Stepped P ops o a w fun a' w' => ∃ s2', Turned rc s' s2 s2' ∧ Sat C s2' a' w'
theorem Leads.mono {o : Oper} {a : Act} {w : World} {R R' : Act → World → Prop} (h : Leads P o a w R) (k : ∀ a' w', R a' w' → R' a' w') : Leads P o a w R' := by
  obtain ⟨n, w', h1, h2⟩ := h
  refine ⟨n, w', h1, ?_⟩
  rcases h2 with ⟨v, e, r⟩ | ⟨e, r⟩
  · exact .inl ⟨v, e, k _ _ r⟩
  · exact .inr ⟨e, k _ _ r⟩
theorem Stepped.mono {ops : Array Oper} {o : Oper} {a : Act} {w : World} {R R' : Act → World → Prop} (h : Stepped P ops o a w R) (k : ∀ a' w', R a' w' → R' a' w') : Stepped P ops o a w R' := by
  unfold Stepped at *
  split
  · rename_i hw; rw [if_pos hw] at h; exact h.mono k
  · rename_i hw; rw [if_neg hw] at h; exact k _ _ h
theorem ev_wn {s : St} {op : SOp} {v : AV} {ob : List Prop} (h : ev s op = .ok v ob) : ∀ s', wnOf s' op = [] := by
  intro s'
  cases op <;> first | rfl | (simp [ev] at h)
theorem op1_step {so : SO} {s s' : St} {ob : List Prop} (he : step s so = .ok s' ob) (hob : allP ob) : Op1 P C so (recOf s so) s s' := by
  intro dr ops o hso hd s2 hag hfr a w hs
  -- the state without shadows
  have hs' : Sat C (nrm s2) a w := ent_keep _ _ a w hs
  have hl := nrm_look s2
  have hlR := nrm_lookR s2
  have hf : ∀ q ∈ nnOf so.op, fresh q (nrm s2) = true := fun q hq => nrm_fresh (hfr q hq)
  obtain ⟨ag1, ag2, ag3⟩ := hag
  have hx : ∀ x ∈ opX so.op, xv (nrm s2) x = xv s x := agree_x fun t ht => (hl t).trans (ag1 t (by simp only [recOf, List.mem_append]; exact .inr ht))
  have hr : ∀ x ∈ opL so.op, ∀ q ∈ ment (und (xv s x)), lookR (nrm s2).rts q = lookR s.rts q := agree_m fun q hq => (hlR q).trans (ag2 q hq)
  have key : ∃ s2', step (nrm s2) so = .ok s2' ob ∧ Turned (recOf s so) s' (nrm s2) s2' := by
    obtain ⟨op, gd, af⟩ := so
    obtain ⟨env, rts⟩ := s
    generalize nrm s2 = n2 at *
    obtain ⟨env2, rts2⟩ := n2
    have hev := ev_congr (s := ⟨env, rts⟩) (s2 := ⟨env2, rts2⟩) hx hr
    cases gd with
    | none =>
      simp only [step] at he ⊢
      rw [hev]
      split at he
      · rename_i v ob' h1
        simp only [h1]
        cases hdd : op.dst with
        | none =>
          simp only [hdd, Res.ok.injEq] at he ⊢
          obtain ⟨rfl, rfl⟩ := he
          exact ⟨_, ⟨rfl, rfl⟩, fun t => by simp [recOf, hdd], fun q => by simp [recOf, ev_wn h1]⟩
        | some d =>
          simp only [hdd, fo_eq, Res.ok.injEq] at he ⊢
          obtain ⟨rfl, rfl⟩ := he
          exact ⟨_, ⟨rfl, rfl⟩, turned_put (by simp [recOf, hdd]) (by simp [recOf, ev_wn h1])⟩
      · rename_i h1
        obtain ⟨s2', k1, k2⟩ := ef_congr (s := ⟨env, rts⟩) (s2 := ⟨env2, rts2⟩) hx hr hf he
        simp only [h1]
        exact ⟨s2', k1, k2 none af⟩
    | some jw =>
      obtain ⟨j, want⟩ := jw
      have hj : look env2 j = look env j := (hl j).trans (ag1 j (by simp [recOf]))
      simp only [step] at he ⊢
      rw [hev, hj]
      split at he <;> first | (cases he; done) | skip
      rename_i v ob' d h1 hdd
      simp only [h1, hdd]
      split at he
      · rename_i b hb
        simp only [fo_eq, Res.ok.injEq] at he ⊢
        obtain ⟨rfl, rfl⟩ := he
        exact ⟨_, ⟨rfl, rfl⟩, turned_put (by simp [recOf, hdd]) (by simp [recOf, ev_wn h1])⟩
      · rename_i g b hb
        simp only [fo_eq, Res.ok.injEq] at he ⊢
        obtain ⟨rfl, rfl⟩ := he
        exact ⟨_, ⟨rfl, rfl⟩, turned_put (by simp [recOf, hdd]) (by simp [recOf, ev_wn h1])⟩
      · cases he
  obtain ⟨s2', k1, k2⟩ := key
  refine (step_sound hs' hd (by rw [hso]; exact k1) hob).mono fun a' w' h => ⟨s2', ⟨fun t => ?_, fun q => ?_⟩, h⟩
  · rw [k2.1 t, hl t]
  · rw [k2.2 q, hlR q]
end
end Go.Av
end
/- part AvAny -/
section
namespace Go.Av
section
variable {P : Program} {C : Ctx P}
/-- what is turned; a barrier turns all -/
def TurnedB (rc : Rec) (s' s2 s2' : St) : Prop := (rc.bar = false → Turned rc s' s2 s2') ∧ (rc.bar = true → (∀ t, look s2'.env t = look s'.env t) ∧ ∀ q, lookR s2'.rts q = lookR s'.rts q)
theorem turnedB_of {rc : Rec} {s' s2 s2' : St} (hb : rc.bar = false) (h : Turned rc s' s2 s2') : TurnedB rc s' s2 s2' := ⟨fun _ => h, fun e => by rw [hb] at e; cases e⟩
/-- an operation of a drawn region, in any state that agrees on what it looks at -/
def OpW (P : Program) (C : Ctx P) (so : SO) (rc : Rec) (s s' : St) : Prop :=
  ∀ (dr : Bool) (ops : Array Oper) (o : Oper), cso P dr ops o = so → (∀ d, o.dst = some d → d < C.nt) → ∀ s2, Agree rc s s2 → (∀ q ∈ rc.nn, FreshP q s2) →
    (rc.bar = true → (∀ t, look s2.env t = look s.env t) ∧ ∀ q, lookR s2.rts q = lookR s.rts q) → ∀ a w, Sat C s2 a w → ∀ (K : Act → World → Prop) (Q : Exit → Act → World → Prop), (∀ a' w' s2', TurnedB rc s' s2 s2' → Sat C s2' a' w' → K a' w') →
      (if Region.wanted o (yielded ops a.tmps) then o.wp P a w K Q ∨ (o.asks P a w ∧ LetsOut Q) else K (a.put o.dst undef) w)
theorem opW_step {so : SO} {s s' : St} {ob : List Prop} (he : step s so = .ok s' ob) (hob : allP ob) : OpW P C so (recOf s so) s s' := by
  intro dr ops o hso hd s2 hag hfr _ a w hs K Q hK
  exact (op1_step he hob dr ops o hso hd s2 hag hfr a w hs).wp fun a' w' ⟨s2', h1, h2⟩ => hK a' w' s2' (turnedB_of rfl h1) h2
theorem ef_fresh {s s' : St} {op : SOp} {ob : List Prop} (h : ef s op = .ok s' ob) : ∀ q ∈ nnOf op, fresh q s = true := by
  intro q hq
  obtain ⟨env, rts⟩ := s
  cases op <;> simp only [nnOf, List.mem_singleton, List.not_mem_nil] at hq
  all_goals
    (cases hf : fresh q ⟨env, rts⟩ with
    | true => rfl
    | false => subst hq; simp [ef, foL_eq, hf] at h)
theorem turned_self {so : SO} {s s' : St} {ob : List Prop} (he : step s so = .ok s' ob) : Turned (recOf s so) s' s s' := by
  obtain ⟨op, gd, af⟩ := so
  obtain ⟨env, rts⟩ := s
  cases gd with
  | none =>
    simp only [step] at he
    split at he
    · rename_i v ob' h1
      cases hdd : op.dst with
      | none =>
        simp only [hdd, Res.ok.injEq] at he
        obtain ⟨rfl, rfl⟩ := he
        exact ⟨fun t => by simp, fun q => by simp⟩
      | some d =>
        simp only [hdd, fo_eq, Res.ok.injEq] at he
        obtain ⟨rfl, rfl⟩ := he
        exact turned_put (by simp [recOf, hdd]) (by simp [recOf, ev_wn h1])
    · obtain ⟨s2', k1, k2⟩ := ef_congr (s := ⟨env, rts⟩) (s2 := ⟨env, rts⟩) (op := op) (fun _ _ => rfl) (fun _ _ _ _ => rfl) (ef_fresh he) he
      rw [he] at k1
      simp only [Res.ok.injEq] at k1
      obtain ⟨rfl, _⟩ := k1
      exact k2 none af
  | some jw =>
    obtain ⟨j, want⟩ := jw
    simp only [step] at he
    split at he <;> first | (cases he; done) | skip
    rename_i v ob' d h1 hdd
    split at he
    · simp only [fo_eq, Res.ok.injEq] at he
      obtain ⟨rfl, rfl⟩ := he
      exact turned_put (by simp [recOf, hdd]) (by simp [recOf, ev_wn h1])
    · simp only [fo_eq, Res.ok.injEq] at he
      obtain ⟨rfl, rfl⟩ := he
      exact turned_put (by simp [recOf, hdd]) (by simp [recOf, ev_wn h1])
    · cases he

/-- a region's operations in the text's order -/
inductive Tr (P : Program) (C : Ctx P) : St → List SO → List (Rec × St) → St → Prop
  | nil {s : St} : Tr P C s [] [] s
  | cons {s s' e : St} {so : SO} {rc : Rec} {sos : List SO} {tr : List (Rec × St)} : OpW P C so rc s s' → TurnedB rc s' s s' → Tr P C s' sos tr e → Tr P C s (so :: sos) ((rc, s') :: tr) e
theorem tr_step {s s' e : St} {o : SO} {sos : List SO} {tr : List (Rec × St)} {ob : List Prop} (he : step s o = .ok s' ob) (hob : allP ob) (k : Tr P C s' sos tr e) : Tr P C s (o :: sos) ((recOf s o, s') :: tr) e :=
  .cons (opW_step he hob) (turnedB_of rfl (turned_self he)) k

def stAt (s : St) : List (Rec × St) → Nat → St
  | _, 0 => s
  | [], _ + 1 => s
  | (_, s') :: r, j + 1 => stAt s' r j
theorem tr_get : ∀ {s e : St} {sos : List SO} {tr : List (Rec × St)}, Tr P C s sos tr e → ∀ {j : Nat} {so : SO}, sos[j]? = some so → ∃ rc s', tr[j]? = some (rc, s') ∧ OpW P C so rc (stAt s tr j) s' ∧ TurnedB rc s' (stAt s tr j) s' ∧ stAt s tr (j + 1) = s'
  | _, _, _, _, .nil, j, so, hj => by simp at hj
  | s, _, _, _, .cons (s' := s') (rc := rc) (tr := tr) h1 h2 h3, j, so, hj => by
    cases j with
    | zero =>
      simp only [List.getElem?_cons_zero, Option.some.injEq] at hj
      subst hj
      refine ⟨rc, s', rfl, h1, h2, ?_⟩
      cases tr <;> rfl
    | succ j =>
      simp only [List.getElem?_cons_succ] at hj
      obtain ⟨rc, s', e1, e2, e3, e4⟩ := tr_get h3 hj
      exact ⟨rc, s', by simpa using e1, e2, e3, e4⟩
theorem tr_len {s e : St} {sos : List SO} {tr : List (Rec × St)} (h : Tr P C s sos tr e) : tr.length = sos.length := by
  induction h with
  | nil => rfl
  | cons _ _ _ ih => simp [ih]
theorem tr_end {s e : St} {sos : List SO} {tr : List (Rec × St)} (h : Tr P C s sos tr e) : stAt s tr tr.length = e := by
  induction h with
  | nil => rfl
  | cons _ _ _ ih => simpa [stAt] using ih

section ov
variable {κ β : Type} (W : Rec → κ → Prop) [∀ r x, Decidable (W r x)] (V : St → κ → β)
/-- what a place holds when the operations 'dn' have run -/
def ov (dn : Nat → Bool) : Nat → List (Rec × St) → (κ → β) → κ → β
  | _, [], f => f
  | k, (rc, s') :: r, f => ov dn (k + 1) r fun x => if dn k = true ∧ W rc x then V s' x else f x
/-- the frames of a chain -/
def Chain : St → List (Rec × St) → Prop
  | _, [] => True
  | s, (rc, s') :: r => (∀ x, ¬ W rc x → V s' x = V s x) ∧ Chain s' r
variable {W V}
theorem ov_none {dn : Nat → Bool} {x : κ} : ∀ {k : Nat} {L : List (Rec × St)} {f : κ → β}, (∀ i rc s', L[i]? = some (rc, s') → dn (k + i) = true → ¬ W rc x) → ov W V dn k L f x = f x
  | _, [], _, _ => rfl
  | k, (rc, s') :: r, f, h => by
    simp only [ov]
    rw [ov_none (k := k + 1) (L := r) fun i rc' s'' hi hd => h (i + 1) rc' s'' (by simpa using hi) (by rw [← hd]; congr 1; omega)]
    have h0 := h 0 rc s' rfl
    rw [Nat.add_zero] at h0
    rw [if_neg fun hh => h0 hh.1 hh.2]
theorem ov_agree {dn : Nat → Bool} {x : κ} : ∀ {k : Nat} {L : List (Rec × St)} {f : κ → β} {s : St} {j : Nat}, Chain W V s L → f x = V s x → j ≤ L.length →
    (∀ i rc s', L[i]? = some (rc, s') → i < j → dn (k + i) = true ∨ ¬ W rc x) → (∀ i rc s', L[i]? = some (rc, s') → j ≤ i → dn (k + i) = true → ¬ W rc x) → ov W V dn k L f x = V (stAt s L j) x
  | k, [], f, s, j, _, hf, hj, _, _ => by
    have : j = 0 := by simpa using hj
    subst this
    exact hf
  | k, (rc, s') :: r, f, s, 0, hc, hf, _, _, h2 => by
    rw [ov_none fun i rc s' hi hd => h2 i rc s' hi (Nat.zero_le _) hd]
    exact hf
  | k, (rc, s') :: r, f, s, j + 1, hc, hf, hj, h1, h2 => by
    simp only [ov, stAt]
    refine ov_agree (k := k + 1) (L := r) (s := s') (j := j) hc.2 ?_ (by simpa using hj) (fun i rc' s'' hi hl => ?_) (fun i rc' s'' hi hl hd => ?_)
    · by_cases hw : W rc x
      · have := h1 0 rc s' rfl (by omega)
        rw [Nat.add_zero] at this
        rw [if_pos ⟨this.resolve_right (fun h => h hw), hw⟩]
      · rw [if_neg (fun h => hw h.2), hf, hc.1 x hw]
    · have := h1 (i + 1) rc' s'' (by simpa using hi) (by omega)
      rwa [show k + (i + 1) = k + 1 + i by omega] at this
    · exact h2 (i + 1) rc' s'' (by simpa using hi) (by omega) (by rw [← hd]; congr 1; omega)
theorem ov_set {dn : Nat → Bool} {x : κ} {rc : Rec} {s' : St} : ∀ {k : Nat} {L : List (Rec × St)} {f : κ → β} {j : Nat}, L[j]? = some (rc, s') → (W rc x → ∀ i rc' s'', L[i]? = some (rc', s'') → j < i → dn (k + i) = true → ¬ W rc' x) →
    ov W V (fun i => if i = k + j then true else dn i) k L f x = if W rc x then V s' x else ov W V dn k L f x
  | k, [], f, j, hj, _ => by simp at hj
  | k, (rc0, s0) :: r, f, 0, hj, h => by
    simp only [List.getElem?_cons_zero, Option.some.injEq, Prod.mk.injEq] at hj
    obtain ⟨rfl, rfl⟩ := hj
    simp only [ov, Nat.add_zero, if_true, true_and]
    have hag : ∀ (r : List (Rec × St)) (m : Nat) (f g : κ → β), k < m → f x = g x → ov W V (fun i => if i = k then true else dn i) m r f x = ov W V dn m r g x := by
      intro r
      induction r with
      | nil => intro m f g _ hfg; exact hfg
      | cons p r ih =>
        intro m f g hm hfg
        obtain ⟨rc', s''⟩ := p
        simp only [ov]
        refine ih (m + 1) _ _ (by omega) ?_
        have hm' : ¬ m = k := by omega
        simp only [if_neg hm', hfg]
    by_cases hw : W rc0 x
    · rw [if_pos hw]
      have := hag r (k + 1) (fun x => if W rc0 x then V s0 x else f x) (fun x => if W rc0 x then V s0 x else f x) (by omega) rfl
      rw [this, ov_none fun i rc' s'' hi hd => h hw (i + 1) rc' s'' (by simpa using hi) (by omega) (by rw [← hd]; congr 1; omega)]
      rw [if_pos hw]
    · rw [if_neg hw]
      refine hag r (k + 1) _ _ (by omega) ?_
      rw [if_neg hw, if_neg (fun h => hw h.2)]
  | k, (rc0, s0) :: r, f, j + 1, hj, h => by
    simp only [ov]
    have := ov_set (dn := dn) (x := x) (k := k + 1) (L := r) (f := fun x => if dn k = true ∧ W rc0 x then V s0 x else f x) (j := j) (by simpa using hj) fun hw i rc' s'' hi hl hd => h hw (i + 1) rc' s'' (by simpa using hi) (by omega) (by rw [← hd]; congr 1; omega)
    have hk : ¬ k = k + (j + 1) := by omega
    have e : k + (j + 1) = k + 1 + j := by omega
    rw [← this]
    simp only [if_neg hk]
    simp only [e]
theorem ov_prop {dn : Nat → Bool} {x : κ} {p : β → Prop} : ∀ {k : Nat} {L : List (Rec × St)} {f : κ → β}, p (f x) → (∀ i rc s', L[i]? = some (rc, s') → dn (k + i) = true → W rc x → p (V s' x)) → p (ov W V dn k L f x)
  | _, [], _, hf, _ => hf
  | k, (rc, s') :: r, f, hf, h => by
    simp only [ov]
    refine ov_prop (k := k + 1) (L := r) ?_ fun i rc' s'' hi hd => h (i + 1) rc' s'' (by simpa using hi) (by rw [← hd]; congr 1; omega)
    split
    · rename_i hh; exact h 0 rc s' rfl (by rw [Nat.add_zero]; exact hh.1) hh.2
    · exact hf
end ov
def WE (rc : Rec) (t : Nat) : Prop := rc.bar = true ∨ rc.d = some t
def WR (rc : Rec) (q : Nat) : Prop := rc.bar = true ∨ q ∈ rc.wn
instance (rc : Rec) (t : Nat) : Decidable (WE rc t) := by unfold WE; infer_instance
instance (rc : Rec) (t : Nat) : Decidable (WR rc t) := by unfold WR; infer_instance
def VE (s : St) (t : Nat) : AV := look s.env t
def VR (s : St) (q : Nat) : Option Rt := lookR s.rts q
theorem tr_chainE {s e : St} {sos : List SO} {tr : List (Rec × St)} (h : Tr P C s sos tr e) : Chain WE VE s tr := by
  induction h with
  | nil => trivial
  | cons _ h2 _ ih =>
    refine ⟨fun x hx => ?_, ih⟩
    have hx1 := not_or.1 hx
    have := (h2.1 (by simpa using hx1.1)).1 x
    rw [if_neg hx1.2] at this
    exact this
theorem tr_chainR {s e : St} {sos : List SO} {tr : List (Rec × St)} (h : Tr P C s sos tr e) : Chain WR VR s tr := by
  induction h with
  | nil => trivial
  | cons _ h2 _ ih =>
    refine ⟨fun x hx => ?_, ih⟩
    have hx1 := not_or.1 hx
    have := (h2.1 (by simpa using hx1.1)).2 x
    rw [if_neg hx1.2] at this
    exact this

/- the check -/
def elemN (x : Nat) : List Nat → Bool
  | [] => false
  | y :: r => Nat.beq x y || elemN x r
theorem elemN_iff {x : Nat} : ∀ {l : List Nat}, elemN x l = true ↔ x ∈ l
  | [] => by simp [elemN]
  | y :: r => by simp [elemN, elemN_iff (l := r)]
def addL : List Nat → List Nat → List Nat
  | [], acc => acc
  | x :: r, acc => bif elemN x acc then addL r acc else addL r (x :: acc)
theorem mem_addL {x : Nat} : ∀ {l acc : List Nat}, x ∈ addL l acc → x ∈ l ∨ x ∈ acc
  | [], _, h => .inr h
  | y :: r, acc, h => by
    simp only [addL] at h
    cases hy : elemN y acc with
    | true => rw [hy] at h; exact (mem_addL h).imp (List.mem_cons_of_mem _) id
    | false =>
      rw [hy] at h
      rcases mem_addL (l := r) h with h | h
      · exact .inl (List.mem_cons_of_mem _ h)
      · rcases List.mem_cons.1 h with h | h
        · exact .inl (h ▸ List.mem_cons_self ..)
        · exact .inr h
def clo1 (cl : List (List Nat)) : List Nat → List Nat → List Nat
  | [], acc => acc
  | e :: r, acc => clo1 cl r (addL (e :: (cl[e]?).getD []) acc)
def clos : List (List Nat) → List (List Nat) → List (List Nat)
  | [], cl => cl
  | af :: r, cl => clos r (cl ++ [clo1 cl af []])
def disj (a b : List Nat) : Bool := a.all fun x => !elemN x b
theorem disj_iff {a b : List Nat} : disj a b = true → ∀ x ∈ a, x ∉ b := by
  intro h x hx hb
  simp only [disj, List.all_eq_true, Bool.not_eq_true'] at h
  have := h x hx
  rw [elemN_iff.2 hb] at this
  cases this
def optL : Option Nat → List Nat
  | some d => [d]
  | none => []
def indep (a b : Rec) : Bool :=
  (!a.bar && !b.bar) && (disj (optL a.d) b.rd && (disj (optL b.d) a.rd && (disj (optL a.d) (optL b.d) && (disj a.wn b.rn && (disj a.wn b.wn && disj b.wn a.rn)))))
def nref (q : Nat) (rc : Rec) (s' : St) : Bool :=
  bif rc.bar then fresh q s' else (optL rc.d).all (fun t => noref q (look s'.env t)) && rc.wn.all fun p => match lookR s'.rts p with
    | some r => !Nat.beq p q && norefR q r
    | none => true
/-- no operation that runs before another one may, without an edge, touch what it looks at -/
def chkP (cl : List Nat) (rj : Rec) : Nat → List (Rec × St) → Bool
  | _, [] => true
  | i, (ri, _) :: r => (elemN i cl || indep ri rj) && chkP cl rj (i + 1) r
def chkF (cls : List (List Nat)) (j q : Nat) : Nat → List (Rec × St) → Bool
  | _, [] => true
  | i, (ri, si) :: r => (Nat.beq i j || (elemN j ((cls[i]?).getD []) || nref q ri si)) && chkF cls j q (i + 1) r
def allI {α : Type} (p : Nat → α → Bool) : Nat → List α → Bool
  | _, [] => true
  | i, x :: r => p i x && allI p (i + 1) r
theorem allI_get {α : Type} {p : Nat → α → Bool} : ∀ {k : Nat} {l : List α}, allI p k l = true → ∀ i x, l[i]? = some x → p (k + i) x = true
  | _, [], _, i, x, h => by simp at h
  | k, y :: r, h, i, x, hx => by
    simp only [allI, Bool.and_eq_true] at h
    cases i with
    | zero => simp only [List.getElem?_cons_zero, Option.some.injEq] at hx; subst hx; exact h.1
    | succ i =>
      have := allI_get h.2 i x (by simpa using hx)
      rwa [show k + (i + 1) = k + 1 + i by omega]
def chk (s : St) (afs : List (List Nat)) (tr : List (Rec × St)) : Bool :=
  let cls := clos afs []
  allI (fun j af => af.all fun i => Nat.blt i j) 0 afs &&
  allI (fun j (p : Rec × St) => chkP ((cls[j]?).getD []) p.1 0 (tr.take j) && p.1.nn.all fun q => fresh q s && chkF cls j q 0 tr) 0 tr
theorem chkP_get {cl : List Nat} {rj : Rec} {l : List (Rec × St)} {k : Nat} (h : chkP cl rj k l = true) : ∀ i rc s', l[i]? = some (rc, s') → k + i ∈ cl ∨ indep rc rj = true := by
  induction l generalizing k with
  | nil => intro i rc s' h; simp at h
  | cons p r ih =>
    intro i rc s' hi
    obtain ⟨r0, s0⟩ := p
    simp only [chkP, Bool.and_eq_true, Bool.or_eq_true] at h
    cases i with
    | zero =>
      simp only [List.getElem?_cons_zero, Option.some.injEq, Prod.mk.injEq] at hi
      obtain ⟨rfl, rfl⟩ := hi
      exact h.1.imp elemN_iff.1 id
    | succ i =>
      have := ih h.2 i rc s' (by simpa using hi)
      rwa [show k + (i + 1) = k + 1 + i by omega]
theorem chkF_get {cls : List (List Nat)} {j q : Nat} {l : List (Rec × St)} {k : Nat} (h : chkF cls j q k l = true) : ∀ i rc s', l[i]? = some (rc, s') → k + i = j ∨ j ∈ ((cls[k + i]?).getD []) ∨ nref q rc s' = true := by
  induction l generalizing k with
  | nil => intro i rc s' h; simp at h
  | cons p r ih =>
    intro i rc s' hi
    obtain ⟨r0, s0⟩ := p
    simp only [chkF, Bool.and_eq_true, Bool.or_eq_true] at h
    cases i with
    | zero =>
      simp only [List.getElem?_cons_zero, Option.some.injEq, Prod.mk.injEq] at hi
      obtain ⟨rfl, rfl⟩ := hi
      exact h.1.imp beq_iff.1 (Or.imp elemN_iff.1 id)
    | succ i =>
      have := ih h.2 i rc s' (by simpa using hi)
      rwa [show k + (i + 1) = k + 1 + i by omega]
/-- what lies behind an edge is listed before -/
theorem clos_sound {dn : Nat → Bool} {afs : List (List Nat)} (hdn : ∀ (j : Nat) (af : List Nat), afs[j]? = some af → dn j = true → ∀ i ∈ af, dn i = true) :
    ∀ (j : Nat) (af : List Nat), afs[j]? = some af → (∀ i ∈ af, dn i = true) → ∀ i ∈ ((clos afs [])[j]?).getD [], dn i = true := by
  have one : ∀ (cl : List (List Nat)), (∀ (m : Nat), dn m = true → ∀ i ∈ (cl[m]?).getD [], dn i = true) → ∀ (af acc : List Nat), (∀ i ∈ af, dn i = true) → (∀ i ∈ acc, dn i = true) → ∀ i ∈ clo1 cl af acc, dn i = true := by
    intro cl hcl af
    induction af with
    | nil => intro acc _ hacc i hi; exact hacc i hi
    | cons e r ih =>
      intro acc haf hacc i hi
      refine ih _ (fun i hi => haf i (List.mem_cons_of_mem _ hi)) (fun i hi => ?_) i hi
      rcases mem_addL hi with h | h
      · rcases List.mem_cons.1 h with h | h
        · rw [h]; exact haf e (List.mem_cons_self ..)
        · exact hcl e (haf e (List.mem_cons_self ..)) i h
      · exact hacc i h
  have gen : ∀ (l : List (List Nat)) (cl : List (List Nat)), (∀ (j : Nat) (af : List Nat), l[j]? = some af → dn (cl.length + j) = true → ∀ i ∈ af, dn i = true) → (∀ (m : Nat), dn m = true → ∀ i ∈ (cl[m]?).getD [], dn i = true) →
      (∀ (m : Nat), m < cl.length → (clos l cl)[m]? = cl[m]?) ∧ ∀ (j : Nat) (af : List Nat), l[j]? = some af → (∀ i ∈ af, dn i = true) → ∀ i ∈ ((clos l cl)[cl.length + j]?).getD [], dn i = true := by
    intro l
    induction l with
    | nil => intro cl _ _; exact ⟨fun _ _ => rfl, fun j af h => by simp at h⟩
    | cons af0 r ih =>
      intro cl h1 h2
      have h0 : ∀ (m : Nat), dn m = true → ∀ i ∈ ((cl ++ [clo1 cl af0 []])[m]?).getD [], dn i = true := by
        intro m hm i hi
        by_cases hlt : m < cl.length
        · rw [List.getElem?_append_left hlt] at hi; exact h2 m hm i hi
        · by_cases he : m = cl.length
          · subst he
            rw [List.getElem?_append_right (Nat.le_refl _)] at hi
            simp only [Nat.sub_self, List.getElem?_cons_zero, Option.getD_some] at hi
            exact one cl h2 af0 [] (fun i hi => h1 0 af0 rfl (by simpa using hm) i hi) (fun i hi => by simp at hi) i hi
          · rw [List.getElem?_eq_none (by simp; omega)] at hi
            simp at hi
      obtain ⟨k1, k2⟩ := ih (cl ++ [clo1 cl af0 []]) (fun j af hj hd => h1 (j + 1) af (by simpa using hj) (by rw [← hd]; congr 1; simp; omega)) h0
      refine ⟨fun m hm => ?_, fun j af hj haf i hi => ?_⟩
      · show (clos r (cl ++ [clo1 cl af0 []]))[m]? = _
        rw [k1 m (by simp; omega), List.getElem?_append_left hm]
      · cases j with
        | zero =>
          simp only [List.getElem?_cons_zero, Option.some.injEq] at hj
          subst hj
          have hi : i ∈ ((clos r (cl ++ [clo1 cl af0 []]))[cl.length]?).getD [] := hi
          rw [k1 cl.length (by simp), List.getElem?_append_right (Nat.le_refl _)] at hi
          simp only [Nat.sub_self, List.getElem?_cons_zero, Option.getD_some] at hi
          exact one cl h2 af0 [] haf (fun i hi => by simp at hi) i hi
        | succ j =>
          refine k2 j af (by simpa using hj) haf i ?_
          have hi : i ∈ ((clos r (cl ++ [clo1 cl af0 []]))[cl.length + (j + 1)]?).getD [] := hi
          simpa [Nat.add_assoc, Nat.add_comm 1 j] using hi
  intro j af hj haf i hi
  exact (gen afs [] (fun j af hj hd => hdn j af hj (by simpa using hd)) (fun m _ i hi => by simp at hi)).2 j af hj haf i (by simpa using hi)

theorem sat_ext {s s' : St} {a : Act} {w : World} (h : Sat C s a w) (h1 : ∀ t, look s'.env t = look s.env t) (h2 : ∀ q, lookR s'.rts q = lookR s.rts q) : Sat C s' a w := by
  obtain ⟨I, g, ow, h⟩ := h
  exact ⟨I, g, ow, { h with env := fun t => by rw [h1]; exact h.env t, rts := fun q r hr => h.rts q r (by rw [← h2]; exact hr) }⟩
theorem sat_world {s : St} {a : Act} {w w' : World} (h : Sat C s a w) (hh : w'.heap = w.heap) (ho : w'.os = w.os) (ht : w'.tape = w.tape) (hp : w'.output = w.output) : Sat C s a w' := by
  obtain ⟨I, g, ow, h⟩ := h
  exact ⟨I, g, ow, h.world hh ho ht hp⟩
theorem optL_mem {o : Option Nat} {t : Nat} (h : o = some t) : t ∈ optL o := by subst h; simp [optL]
theorem indep_spec {a b : Rec} (h : indep a b = true) : (∀ t, WE a t → t ∉ b.rd ∧ ¬ WE b t) ∧ (∀ t, WE b t → t ∉ a.rd ∧ ¬ WE a t) ∧ (∀ q, WR a q → q ∉ b.rn ∧ ¬ WR b q) ∧ (∀ q, WR b q → q ∉ a.rn ∧ ¬ WR a q) ∧ a.bar = false ∧ b.bar = false := by
  simp only [indep, Bool.and_eq_true, Bool.not_eq_true'] at h
  obtain ⟨⟨a1, b1⟩, h1, h2, h3, h4, h5, h6⟩ := h
  have wa : ∀ {t}, WE a t → a.d = some t := fun h => h.resolve_left (by simp [a1])
  have wb : ∀ {t}, WE b t → b.d = some t := fun h => h.resolve_left (by simp [b1])
  have ra : ∀ {t}, WR a t → t ∈ a.wn := fun h => h.resolve_left (by simp [a1])
  have rb : ∀ {t}, WR b t → t ∈ b.wn := fun h => h.resolve_left (by simp [b1])
  exact ⟨fun t ht => ⟨disj_iff h1 t (optL_mem (wa ht)), fun hb => disj_iff h3 t (optL_mem (wa ht)) (optL_mem (wb hb))⟩, fun t ht => ⟨disj_iff h2 t (optL_mem (wb ht)), fun ha => disj_iff h3 t (optL_mem (wa ha)) (optL_mem (wb ht))⟩,
    fun q hq => ⟨disj_iff h4 q (ra hq), fun hb => disj_iff h5 q (ra hq) (rb hb)⟩, fun q hq => ⟨disj_iff h6 q (rb hq), fun ha => disj_iff h5 q (ra ha) (rb hq)⟩, a1, b1⟩
theorem filt_le {p q : Nat → Bool} (h : ∀ i, q i = true → p i = true) : ∀ l : List Nat, (l.filter q).length ≤ (l.filter p).length
  | [] => Nat.le_refl _
  | x :: l => by
    have := filt_le h l
    cases hq : q x with
    | true => simp [hq, h x hq, this]
    | false =>
      cases hp : p x <;> simp [hq, hp] <;> omega
theorem filt_lt {p q : Nat → Bool} (h : ∀ i, q i = true → p i = true) {j : Nat} : ∀ l : List Nat, j ∈ l → p j = true → q j = false → (l.filter q).length < (l.filter p).length
  | [], hj, _, _ => by simp at hj
  | x :: l, hj, h1, h2 => by
    rcases List.mem_cons.1 hj with hj | hj
    · subst hj
      have := filt_le h l
      simp [h1, h2]
      omega
    · have := filt_lt h l hj h1 h2
      cases hq : q x with
      | true => simp [hq, h x hq, this]
      | false => cases hp : p x <;> simp [hq, hp] <;> omega
structure InvD (P : Program) (C : Ctx P) (ops : Array Oper) (s : St) (tr : List (Rec × St)) (lst : Array Bool) (s2 : St) : Prop where
  size : lst.size = ops.size
  closed : ∀ (j : Nat) (o : Oper), ops[j]? = some o → lst.getD j false = true → ∀ i ∈ (cso P true ops o).af, lst.getD i false = true
  env : ∀ t, look s2.env t = ov WE VE (fun i => lst.getD i false) 0 tr (VE s) t
  rts : ∀ q, lookR s2.rts q = ov WR VR (fun i => lst.getD i false) 0 tr (VR s) q
theorem getD_listed {lst : Array Bool} {j : Nat} (hj : j < lst.size) (i : Nat) : (lst.setIfInBounds j true).getD i false = if i = j then true else lst.getD i false := by
  simp only [Array.getD_eq_getD_getElem?, Array.getElem?_setIfInBounds]
  by_cases h : j = i
  · subst h; simp [hj]
  · have : ¬ i = j := fun e => h e.symm
    simp [h, this]
theorem regD_all {ops : Array Oper} {s e : St} {sos : List SO} {tr : List (Rec × St)} (hm : ops.toList.map (cso P true ops) = sos) (hd : ∀ o ∈ ops.toList, ∀ d, o.dst = some d → d < C.nt)
    (ht : Tr P C s sos tr e) (hc : chk s (sos.map (·.af)) tr = true) (K : Exit → Act → World → Prop) (hK : ∀ a' w', Sat C e a' w' → K .normal a' w') :
    ∀ (fuel : Nat) (lst : Array Bool) (s2 : St) (a : Act) (w : World), ((List.range ops.size).filter fun i => !lst.getD i false).length ≤ fuel → InvD P C ops s tr lst s2 → Sat C s2 a w → wpAny P .any ops K fuel lst a w := by
  have hlen : tr.length = ops.size := by rw [tr_len ht, ← hm]; simp
  have hso : ∀ (j : Nat) (o : Oper), ops[j]? = some o → sos[j]? = some (cso P true ops o) := by
    intro j o ho
    rw [← hm, List.getElem?_map, Array.getElem?_toList, ho]
    rfl
  simp only [chk, Bool.and_eq_true] at hc
  obtain ⟨hc1, hc2⟩ := hc
  have hback : ∀ (j : Nat) (o : Oper), ops[j]? = some o → ∀ i ∈ (cso P true ops o).af, i < j := by
    intro j o ho i hi
    have := allI_get hc1 j (cso P true ops o).af (by rw [List.getElem?_map, hso j o ho]; rfl)
    rw [Nat.zero_add, List.all_eq_true] at this
    have := this i hi
    simpa using this
  -- an operation that is ready
  have hready : ∀ (lst : Array Bool), lst.size = ops.size → ∀ j, j ∈ Region.ready .any ops lst ↔ ∃ o, ops[j]? = some o ∧ lst.getD j false = false ∧ ∀ i ∈ (cso P true ops o).af, lst.getD i false = true := by
    intro lst hsz j
    rw [mem_ready]
    have hg : ∀ b, j < lst.size → lst.getD j b = lst.getD j false := by
      intro b hj
      simp [Array.getD_eq_getD_getElem?, hj]
    constructor
    · rintro ⟨h0, o, ho, h⟩
      have hj : j < lst.size := by rw [hsz]; exact (Array.getElem?_eq_some_iff.1 ho).1
      refine ⟨o, ho, by rw [← hg true hj]; exact h0, fun i hi => ?_⟩
      simp only [cso, cond_true, List.mem_map, List.mem_filter, Array.mem_toList_iff] at hi
      obtain ⟨e, ⟨he, hb⟩, rfl⟩ := hi
      exact h e he hb
    · rintro ⟨o, ho, h0, h⟩
      have hj : j < lst.size := by rw [hsz]; exact (Array.getElem?_eq_some_iff.1 ho).1
      refine ⟨by rw [hg true hj]; exact h0, o, ho, fun e he hb => h e.on ?_⟩
      simp only [cso, cond_true, List.mem_map, List.mem_filter, Array.mem_toList_iff]
      exact ⟨e, ⟨he, hb⟩, rfl⟩
  -- when none is ready all are listed
  have hdone : ∀ (lst : Array Bool), lst.size = ops.size → Region.ready .any ops lst = [] → ∀ j, j < ops.size → lst.getD j false = true := by
    intro lst hsz hr j
    induction j using Nat.strongRecOn with
    | _ j ih =>
      intro hj
      cases hl : lst.getD j false with
      | true => rfl
      | false =>
        have : j ∈ Region.ready .any ops lst := (hready lst hsz j).2 ⟨ops[j], by simp [hj], hl, fun i hi => by
          have := hback j ops[j] (by simp [hj]) i hi
          exact ih i this (by omega)⟩
        rw [hr] at this
        simp at this
  have hend : ∀ (lst : Array Bool) (s2 : St) (a : Act) (w : World), InvD P C ops s tr lst s2 → Sat C s2 a w → (∀ j, j < ops.size → lst.getD j false = true) → K .normal a w := by
    intro lst s2 a w hi hs hall
    have hE : ∀ i rc s', tr[i]? = some (rc, s') → lst.getD i false = true := fun i rc s' h => hall i (by rw [← hlen]; exact (List.getElem?_eq_some_iff.1 h).1)
    refine hK a w (sat_ext hs (fun t => ?_) fun q => ?_)
    · rw [hi.env t, ov_agree (j := tr.length) (tr_chainE ht) rfl (Nat.le_refl _) (fun i rc s' h _ => .inl (by rw [Nat.zero_add]; exact hE i rc s' h)) (fun i rc s' h hl => by have := (List.getElem?_eq_some_iff.1 h).1; omega), tr_end ht]
      rfl
    · rw [hi.rts q, ov_agree (j := tr.length) (tr_chainR ht) rfl (Nat.le_refl _) (fun i rc s' h _ => .inl (by rw [Nat.zero_add]; exact hE i rc s' h)) (fun i rc s' h hl => by have := (List.getElem?_eq_some_iff.1 h).1; omega), tr_end ht]
      rfl
  intro fuel
  induction fuel with
  | zero =>
    intro lst s2 a w hf hi hs
    have hall : ∀ j, j < ops.size → lst.getD j false = true := by
      intro j hj
      cases hl : lst.getD j false with
      | true => rfl
      | false =>
        have h0 : (List.range ops.size).filter (fun i => !lst.getD i false) = [] := by simpa using hf
        have := List.filter_eq_nil_iff.1 h0 j (List.mem_range.2 hj)
        simp [hl] at this
    refine ⟨?_, hend lst s2 a w hi hs hall⟩
    cases hr : Region.ready .any ops lst with
    | nil => rfl
    | cons j r =>
      have : j ∈ Region.ready .any ops lst := by rw [hr]; exact List.mem_cons_self ..
      obtain ⟨o, ho, hl, _⟩ := (hready lst hi.size j).1 this
      have := hall j (by simpa using (Array.getElem?_eq_some_iff.1 ho).1)
      rw [hl] at this
      cases this
  | succ fuel ih =>
    intro lst s2 a w hf hi hs
    refine ⟨fun hr => hend lst s2 a w hi hs (hdone lst hi.size hr), fun j hj => ?_⟩
    obtain ⟨o, ho, hl, haf⟩ := (hready lst hi.size j).1 hj
    have hjs : j < ops.size := (Array.getElem?_eq_some_iff.1 ho).1
    obtain ⟨rc, s', e1, e2, e3, e4⟩ := tr_get ht (hso j o ho)
    -- what the check tells
    have hcj := allI_get hc2 j (rc, s') e1
    simp only [Nat.zero_add, Bool.and_eq_true] at hcj
    obtain ⟨hp, hfr⟩ := hcj
    have hcl := clos_sound (dn := fun i => lst.getD i false) (afs := sos.map (·.af)) (fun k af hk hdk => by
      rw [List.getElem?_map] at hk
      cases hsk : sos[k]? with
      | none => rw [hsk] at hk; cases hk
      | some so =>
        rw [hsk] at hk
        have hk : so.af = af := by simpa using hk
        have hsk' : (ops.toList.map (cso P true ops))[k]? = some so := hm ▸ hsk
        rw [List.getElem?_map, Array.getElem?_toList] at hsk'
        cases hok : ops[k]? with
        | none => rw [hok] at hsk'; cases hsk'
        | some ok =>
          rw [hok] at hsk'
          have : cso P true ops ok = so := by simpa using hsk'
          rw [← hk, ← this]
          exact hi.closed k ok hok hdk)
    have hclj : ∀ i ∈ ((clos (sos.map (·.af)) [])[j]?).getD [], lst.getD i false = true := hcl j _ (by rw [List.getElem?_map, hso j o ho]; rfl) haf
    -- before
    have hbef : ∀ i rc' s'', tr[i]? = some (rc', s'') → i < j → lst.getD i false = true ∨ indep rc' rc = true := by
      intro i rc' s'' hti hij
      have := chkP_get hp i rc' s'' (by rw [List.getElem?_take, if_pos hij]; exact hti)
      rw [Nat.zero_add] at this
      exact this.imp (hclj i) id
    have haft : ∀ i rc' s'', tr[i]? = some (rc', s'') → j < i → lst.getD i false = true → j ∉ ((clos (sos.map (·.af)) [])[i]?).getD [] ∧ indep rc rc' = true := by
      intro i rc' s'' hti hij hdi
      have his : i < ops.size := by rw [← hlen]; exact (List.getElem?_eq_some_iff.1 hti).1
      have hni : j ∉ ((clos (sos.map (·.af)) [])[i]?).getD [] := by
        intro hji
        have := hcl i _ (by rw [List.getElem?_map, hso i ops[i] (by simp [his])]; rfl) (hi.closed i ops[i] (by simp [his]) hdi) j hji
        rw [hl] at this
        cases this
      refine ⟨hni, ?_⟩
      have hci := allI_get hc2 i (rc', s'') hti
      simp only [Nat.zero_add, Bool.and_eq_true] at hci
      have := chkP_get hci.1 j rc s' (by rw [List.getElem?_take, if_pos hij]; exact e1)
      rw [Nat.zero_add] at this
      exact this.resolve_left hni
    have agE : ∀ t, (∀ i rc' s'', tr[i]? = some (rc', s'') → i < j → lst.getD i false = true ∨ ¬ WE rc' t) → (∀ i rc' s'', tr[i]? = some (rc', s'') → j < i → lst.getD i false = true → ¬ WE rc' t) → look s2.env t = look (stAt s tr j).env t := by
      intro t h1 h2
      rw [hi.env t]
      refine ov_agree (tr_chainE ht) rfl (by omega) (fun i rc' s'' h hl => by rw [Nat.zero_add]; exact h1 i rc' s'' h hl) (fun i rc' s'' h hji hd => ?_)
      rw [Nat.zero_add] at hd
      rcases Nat.lt_or_eq_of_le hji with hlt | heq
      · exact h2 i rc' s'' h hlt hd
      · subst heq; rw [hl] at hd; cases hd
    have agR : ∀ q, (∀ i rc' s'', tr[i]? = some (rc', s'') → i < j → lst.getD i false = true ∨ ¬ WR rc' q) → (∀ i rc' s'', tr[i]? = some (rc', s'') → j < i → lst.getD i false = true → ¬ WR rc' q) → lookR s2.rts q = lookR (stAt s tr j).rts q := by
      intro q h1 h2
      rw [hi.rts q]
      refine ov_agree (tr_chainR ht) rfl (by omega) (fun i rc' s'' h hl => by rw [Nat.zero_add]; exact h1 i rc' s'' h hl) (fun i rc' s'' h hji hd => ?_)
      rw [Nat.zero_add] at hd
      rcases Nat.lt_or_eq_of_le hji with hlt | heq
      · exact h2 i rc' s'' h hlt hd
      · subst heq; rw [hl] at hd; cases hd
    have hag : Agree rc (stAt s tr j) s2 := by
      refine ⟨fun t ht' => agE t (fun i rc' s'' h hij => (hbef i rc' s'' h hij).imp id fun hh he => ((indep_spec hh).1 t he).1 ht') (fun i rc' s'' h hij hd he => ((indep_spec (haft i rc' s'' h hij hd).2).2.1 t he).1 ht'),
        fun q hq => agR q (fun i rc' s'' h hij => (hbef i rc' s'' h hij).imp id fun hh he => ((indep_spec hh).2.2.1 q he).1 hq) (fun i rc' s'' h hij hd he => ((indep_spec (haft i rc' s'' h hij hd).2).2.2.2.1 q he).1 hq),
        fun q hq => agR q (fun i rc' s'' h hij => (hbef i rc' s'' h hij).imp id fun hh he => ((indep_spec hh).2.2.1 q he).2 (.inr hq)) (fun i rc' s'' h hij hd he => ((indep_spec (haft i rc' s'' h hij hd).2).2.2.2.1 q he).2 (.inr hq))⟩
    have hfresh : ∀ q ∈ rc.nn, FreshP q s2 := by
      intro q hq
      rw [List.all_eq_true] at hfr
      have hq' := hfr q hq
      simp only [Bool.and_eq_true] at hq'
      obtain ⟨f0, f1⟩ := hq'
      have f0 := freshP_of f0
      have f1 : ∀ i rc' s'', tr[i]? = some (rc', s'') → lst.getD i false = true → nref q rc' s'' = true := by
        intro i rc' s'' h hd
        have := chkF_get f1 i rc' s'' h
        rw [Nat.zero_add] at this
        rcases this with h1 | h1 | h1
        · subst h1; rw [hl] at hd; cases hd
        · have his : i < ops.size := by rw [← hlen]; exact (List.getElem?_eq_some_iff.1 h).1
          have := hcl i _ (by rw [List.getElem?_map, hso i ops[i] (by simp [his])]; rfl) (hi.closed i ops[i] (by simp [his]) hd) j h1
          rw [hl] at this
          cases this
        · exact h1
      refine ⟨fun t => ?_, fun p r hr => ?_⟩
      · rw [hi.env t]
        refine ov_prop (p := fun v => noref q v = true) (f0.1 t) fun i rc' s'' h hd hw => ?_
        rw [Nat.zero_add] at hd
        have := f1 i rc' s'' h hd
        unfold nref at this
        cases hbar : rc'.bar with
        | true => rw [hbar] at this; exact (freshP_of this).1 t
        | false =>
          rw [hbar] at this
          simp only [cond_false, Bool.and_eq_true, List.all_eq_true] at this
          exact this.1 t (optL_mem (hw.resolve_left (by simp [hbar])))
      · rw [hi.rts p] at hr
        have := ov_prop (W := WR) (V := VR) (dn := fun i => lst.getD i false) (x := p) (k := 0) (L := tr) (f := VR s) (p := fun v => ∀ r, v = some r → p ≠ q ∧ norefR q r = true) (fun r hr => f0.2 p r hr) (fun i rc' s'' h hd hw r hr => by
          rw [Nat.zero_add] at hd
          have := f1 i rc' s'' h hd
          unfold nref at this
          have hr : lookR s''.rts p = some r := hr
          cases hbar : rc'.bar with
          | true => rw [hbar] at this; exact (freshP_of this).2 p r hr
          | false =>
            rw [hbar] at this
            simp only [cond_false, Bool.and_eq_true, List.all_eq_true] at this
            have := this.2 p (hw.resolve_left (by simp [hbar]))
            rw [hr] at this
            simp only [Bool.and_eq_true, Bool.not_eq_true'] at this
            exact ⟨fun e => by (rw [beq_iff.2 e] at this; cases this.1), this.2⟩)
        exact this r hr
    have hbarr : rc.bar = true → (∀ t, look s2.env t = look (stAt s tr j).env t) ∧ ∀ q, lookR s2.rts q = lookR (stAt s tr j).rts q := by
      intro hbar
      have hb1 : ∀ i rc' s'', tr[i]? = some (rc', s'') → i < j → lst.getD i false = true := fun i rc' s'' h hij => (hbef i rc' s'' h hij).resolve_right fun hh => by
        have := (indep_spec hh).2.2.2.2.2
        rw [hbar] at this
        cases this
      have hb2 : ∀ i rc' s'', tr[i]? = some (rc', s'') → j < i → lst.getD i false = true → False := fun i rc' s'' h hij hd => by
        have := (indep_spec (haft i rc' s'' h hij hd).2).2.2.2.2.1
        rw [hbar] at this
        cases this
      exact ⟨fun t => agE t (fun i rc' s'' h hij => .inl (hb1 i rc' s'' h hij)) (fun i rc' s'' h hij hd => (hb2 i rc' s'' h hij hd).elim), fun q => agR q (fun i rc' s'' h hij => .inl (hb1 i rc' s'' h hij)) (fun i rc' s'' h hij hd => (hb2 i rc' s'' h hij hd).elim)⟩
    have hout := e2 true ops o rfl (hd o (by rw [Array.mem_toList_iff]; exact Array.mem_of_getElem? ho)) s2 hag hfresh hbarr a w hs (wpAny P .any ops K fuel (lst.setIfInBounds j true)) K ?_
    · unfold wpOp
      rw [ho]
      exact hout
    · intro a' w' s2' hT hs'
      have hset := getD_listed (lst := lst) (j := j) (by rw [hi.size]; exact hjs)
      have hfun : (fun i => (lst.setIfInBounds j true).getD i false) = fun i => if i = 0 + j then true else lst.getD i false := by
        funext i; rw [hset i, Nat.zero_add]
      refine ih _ s2' a' w' ?_ ⟨by simpa using hi.size, fun k ok hok hdk i hik => ?_, fun t => ?_, fun q => ?_⟩ hs'
      · have := filt_lt (p := fun i => !lst.getD i false) (q := fun i => !(lst.setIfInBounds j true).getD i false) (fun i hq => by rw [hset] at hq; split at hq <;> simp_all) (j := j) (List.range ops.size) (List.mem_range.2 hjs) (by rw [hl]; rfl) (by rw [hset]; simp)
        omega
      · rw [hset] at hdk ⊢
        split
        · rfl
        · split at hdk
          · rename_i hkj; subst hkj
            rw [ho] at hok; cases hok
            exact haf i hik
          · exact hi.closed k ok hok hdk i hik
      · rw [hfun, ov_set (W := WE) (V := VE) e1 fun hw i rc' s'' h hji hd hw' => by
          rw [Nat.zero_add] at hd
          exact ((indep_spec (haft i rc' s'' h hji hd).2).1 t hw).2 hw']
        cases hbar : rc.bar with
        | true => rw [if_pos (show WE rc t from .inl hbar)]; exact (hT.2 hbar).1 t
        | false =>
          rw [(hT.1 hbar).1 t]
          by_cases hw : rc.d = some t
          · rw [if_pos hw, if_pos (show WE rc t from .inr hw)]; rfl
          · rw [if_neg hw, if_neg (show ¬ WE rc t from fun hh => hw (hh.resolve_left (by simp [hbar])))]; exact hi.env t
      · rw [hfun, ov_set (W := WR) (V := VR) e1 fun hw i rc' s'' h hji hd hw' => by
          rw [Nat.zero_add] at hd
          exact ((indep_spec (haft i rc' s'' h hji hd).2).2.2.1 q hw).2 hw']
        cases hbar : rc.bar with
        | true => rw [if_pos (show WR rc q from .inl hbar)]; exact (hT.2 hbar).2 q
        | false =>
          rw [(hT.1 hbar).2 q]
          by_cases hw : q ∈ rc.wn
          · rw [if_pos hw, if_pos (show WR rc q from .inr hw)]; rfl
          · rw [if_neg hw, if_neg (show ¬ WR rc q from fun hh => hw (hh.resolve_left (by simp [hbar])))]; exact hi.rts q

theorem wpS_regD {s e : St} {sos : List SO} {tr : List (Rec × St)} {Q : Exit → St → Prop} (hm : P.follows .mixedOrders = true) (ht : Tr P C s sos tr e) (hc : chk s (sos.map (·.af)) tr = true) (hq : Q .normal e) : wpS P C (.reg sos true) Q s := by
  intro c hcc hd a w hs K hK
  cases c <;> simp [cc] at hcc
  rename_i id ops draw
  obtain ⟨h1, rfl⟩ := hcc
  simp only [dOk, List.all_eq_true] at hd
  refine wp_region_any hm ?_
  refine regD_all h1 (fun o ho d hdd => ?_) ht hc K (fun a' w' hs' => hK _ _ _ _ hq hs') ops.size _ s a _ ?_ ⟨by simp, fun j o _ hdj => ?_, fun t => ?_, fun q => ?_⟩ (sat_world hs rfl rfl rfl rfl)
  · have := hd o ho
    rw [hdd] at this
    simpa using this
  · have := List.length_filter_le (fun i => !(Array.replicate ops.size false).getD i false) (List.range ops.size)
    simpa using this
  · exfalso
    rw [Array.getD_eq_getD_getElem?, Array.getElem?_replicate] at hdj
    split at hdj <;> simp at hdj
  · rw [ov_none]; rfl
    intro i rc s' _ hd
    exfalso
    rw [Array.getD_eq_getD_getElem?, Array.getElem?_replicate] at hd
    split at hd <;> simp at hd
  · rw [ov_none]; rfl
    intro i rc s' _ hd
    exfalso
    rw [Array.getD_eq_getD_getElem?, Array.getElem?_replicate] at hd
    split at hd <;> simp at hd
end
end Go.Av
end
/- part AvCall -/
section
namespace Go.Av
section
variable {P : Program} {C : Ctx P} {s : St}
def xus (s : St) : List X → List AV
  | [] => []
  | x :: r => und (xv s x) :: xus s r
def gds (s : St) : List X → List Prop
  | [] => []
  | x :: r => gdo (xv s x) ++ gds s r
theorem xus_den {a : Act} {w : World} {I : Imm} {g : Nat → Value} {ow : Nat → List Nat} (h : SatAt C s a w I g ow) : ∀ l : List Operand, allP (gds s (xops l)) → DenL I (some g) (xus s (xops l)) (l.map a.eval)
  | [], _ => rfl
  | x :: r, hg => by
    have hg : allP (gdo (xv s (xop x)) ++ gds s (xops r)) := hg
    rw [allP_append] at hg
    exact ⟨_, _, rfl, x_den h x hg.1, xus_den h r hg.2⟩
def gval (s : St) : Option (Nat × Bool) → Option Bool
  | none => some true
  | some (j, want) => match look s.env j with
    | .bool b => some (bif want then b else !b)
    | .cnd g (.bool b) => some (g && (bif want then b else !b))
    | _ => none
theorem gval_wanted {a : Act} {w : World} {I : Imm} {g : Nat → Value} {ow : Nat → List Nat} (h : SatAt C s a w I g ow) {dr : Bool} {ops : Array Oper} {o : Oper} {so : SO} (hso : cso P dr ops o = so) (hne : so.op ≠ .bad) {G : Bool} (hG : gval s so.g = some G) :
    Region.wanted o (yielded ops a.tmps) = G := by
  subst hso
  cases hgd : o.guard with
  | none =>
    simp only [cso, hgd, gval, Option.some.injEq] at hG
    simp [Region.wanted, hgd, hG]
  | some jw =>
    obtain ⟨j, want⟩ := jw
    have hwant : Region.wanted o (yielded ops a.tmps) = (yielded ops a.tmps j == some want) := by simp [Region.wanted, hgd]
    cases hj : (ops[j]?).bind (·.dst) with
    | none => simp [cso, hgd, hj] at hne
    | some jd =>
      have hy : yielded ops a.tmps j = (match a.tmps[jd]? with | some (.bool b) => some b | _ => none) := by unfold yielded; rw [hj]; rfl
      simp only [cso, hgd, hj, gval] at hG
      split at hG
      · rename_i b hl
        have e1 := h.env jd
        rw [hl] at e1
        have e1 : a.tmps.getD jd undef = .bool b := e1
        have e2 := dst_getD e1 (by simp [undef])
        simp only [Option.some.injEq] at hG
        rw [hwant, hy, e2, ← hG]
        cases b <;> cases want <;> simp
      · rename_i g0 b hl
        have e1 := h.env jd
        rw [hl] at e1
        simp only [Option.some.injEq] at hG
        rw [hwant, hy, ← hG]
        cases g0 with
        | true =>
          have e1 : a.tmps.getD jd undef = .bool b := e1.1 rfl
          have e2 := dst_getD e1 (by simp [undef])
          rw [e2]
          cases b <;> cases want <;> simp
        | false =>
          have e1 : a.tmps.getD jd undef = undef := e1.2 rfl
          have e3 : (match a.tmps[jd]? with | some (.bool b) => some b | _ => none : Option Bool) = none := by
            rw [Array.getD_eq_getD_getElem?] at e1
            cases hjj : a.tmps[jd]? with
            | none => rfl
            | some u => rw [hjj] at e1; simp at e1; subst e1; rfl
          rw [e3]
          simp
      · cases hG
def resG : Option (Nat × Bool) → Bool → AV → AV
  | none, _, v => v
  | some _, G, v => .cnd G v

def unO : AV → AV
  | .own _ sz n f => .sl sz n f
  | v => v
def unOL : List AV → List AV
  | [] => []
  | x :: r => unO x :: unOL r
/-- owned rows seen as rows that do not turn -/
def thaw (rts : List (Nat × Rt)) : AV → AV
  | .ref q => match lookR rts q with
    | some (.row _ sz n f) => .sl sz n f
    | some (.rowO _ sz n f _ fs) => bif isNilF fs then .sl sz n (fun i => unOL (f i)) else .ref q
    | _ => .ref q
  | .loc q off => match lookR rts q with
    | some (.blk _ cells) => bif isPureL cells then .ptr (cells.drop off) else .loc q off
    | _ => .loc q off
  | .agg cs => .agg (go cs)
  | .tup cs => .tup (go cs)
  | .fn f cs => .fn f (go cs)
  | v => v
where
  go : List AV → List AV
    | [] => []
    | x :: r => thaw rts x :: go r
def refs : AV → List Nat
  | .ref q => [q]
  | .loc q _ => [q]
  | .agg cs => go cs
  | .tup cs => go cs
  | .fn _ cs => go cs
  | _ => []
where
  go : List AV → List Nat
    | [] => []
    | x :: r => refs x ++ go r
def plain : AV → Bool
  | .any | .int .. | .bool _ | .str _ | .nilp | .nils | .emp | .ans | .nilfn | .nilif => true
  | .agg cs => go cs
  | .tup cs => go cs
  | _ => false
where
  go : List AV → Bool
    | [] => true
    | x :: r => plain x && go r
mutual
theorem plain_den {I J : Imm} {β γ : Option (Nat → Value)} : ∀ (av : AV) (v : Value), plain av = true → Den I β av v → Den J γ av v
  | .any, _, _, _ => trivial
  | .int .., _, _, e | .bool .., _, _, e | .str .., _, _, e | .nilp, _, _, e | .nils, _, _, e | .emp, _, _, e | .ans, _, _, e | .nilfn, _, _, e | .nilif, _, _, e | .own .., _, _, e => e
  | .agg cs, v, h, ⟨vs, e, d⟩ => ⟨vs, e, plainL_den cs vs h d⟩
  | .tup cs, v, h, ⟨vs, e, d⟩ => ⟨vs, e, plainL_den cs vs h d⟩
  | .sl .., _, h, _ | .ref .., _, h, _ | .loc .., _, h, _ | .locE .., _, h, _ | .ptr .., _, h, _ | .fn .., _, h, _ | .iface .., _, h, _ | .cnd .., _, h, _ => by simp [plain] at h
theorem plainL_den {I J : Imm} {β γ : Option (Nat → Value)} : ∀ (xs : List AV) (vs : List Value), plain.go xs = true → DenL I β xs vs → DenL J γ xs vs
  | [], _, _, e => e
  | x :: xs, vs, h, ⟨v, ws, e, d, r⟩ => by
    simp only [plain.go, Bool.and_eq_true] at h
    exact ⟨v, ws, e, plain_den x v h.1 d, plainL_den xs ws h.2 r⟩
end
/-- a block of the call's own whose cells can be read -/
def Good (ow : Nat → List Nat) (w : World) (b : Nat) : Prop := ow b ≠ [] ∧ ∃ cur e, w.heap[b]? = some (.cells cur e (0, 0)) ∧ ∀ u ∈ cur.toList, u.oneCell' = true
open Classical in
/-- the owned rows' cells beside the others -/
noncomputable def ImmT (I : Imm) (ow : Nat → List Nat) (w : World) : Imm := fun b o => if Good ow w b then w.cell? ⟨b, o, none⟩ else I b o
theorem immT_good {I : Imm} {ow : Nat → List Nat} {w : World} {b : Nat} (h : Good ow w b) (o : Nat) : ImmT I ow w b o = w.cell? ⟨b, o, none⟩ := by
  unfold ImmT
  rw [if_pos h]
theorem immT_sat {a : Act} {w : World} {I : Imm} {g : Nat → Value} {ow : Nat → List Nat} (h : SatAt C s a w I g ow) : I.le (ImmT I ow w) ∧ (∀ b o u, ImmT I ow w b o = some u → w.cell? ⟨b, o, none⟩ = some u) ∧ ∀ b o u, ImmT I ow w b o = some u → u.oneCell' = true := by
  refine ⟨fun b o u hu => ?_, fun b o u hu => ?_, fun b o u hu => ?_⟩
  · unfold ImmT
    split
    · exact h.imm b o u hu
    · exact hu
  · unfold ImmT at hu
    split at hu
    · exact hu
    · exact h.imm b o u hu
  · unfold ImmT at hu
    split at hu
    · rename_i hx
      obtain ⟨_, cur, e, h1, h2⟩ := hx
      rw [cell_heap h1] at hu
      exact h2 u (List.mem_of_getElem? hu)
    · exact h.one b o u hu
/-- a row of a good block, its elements read -/
theorem sl_good {J : Imm} {β : Option (Nat → Value)} {w : World} {b cap sz n : Nat} {cur : Array Value} {e : TypeId} {f : Nat → List AV} (hb : w.heap[b]? = some (.cells cur e (0, 0))) (hJ : ∀ o, J b o = w.cell? ⟨b, o, none⟩) (hnc : n ≤ cap) (hcm : cap ≤ maxLen) (hcs : cur.size = cap * sz)
    (hd : ∀ i, i < n → DenL J none (f i) ((cur.toList.drop (i * sz)).take sz)) : Den J β (.sl sz n f) (.slice (some ⟨b, 0, none⟩) n cap) := by
  refine ⟨_, cap, rfl, hnc, hcm, ?_⟩
  rcases Nat.eq_zero_or_pos n with h0 | h0
  · exact .inl h0
  · refine .inr ⟨b, 0, rfl, fun i hi => ⟨(cur.toList.drop (i * sz)).take sz, ?_, ?_, hd i hi⟩⟩
    · have hic : (i + 1) * sz ≤ cap * sz := Nat.mul_le_mul_right sz (by omega)
      rw [Nat.add_mul, Nat.one_mul] at hic
      rw [List.length_take, List.length_drop, Array.length_toList]
      omega
    · intro j v hj
      rw [hJ, cell_heap hb, Nat.zero_add]
      rw [List.getElem?_take, List.getElem?_drop] at hj
      split at hj
      · exact hj
      · cases hj
theorem unOL_den {I J : Imm} {g : Nat → Value} {ow : Nat → List Nat} {w : World} {path : Nat → List Nat} (hle : I.le J) (hJ : ∀ b, Good ow w b → (∃ k, ow b = path k) → ∀ o, J b o = w.cell? ⟨b, o, none⟩) (hp : ∀ k, path k ≠ []) : ∀ {k : Nat} {xs : List AV} {vs : List Value}, CellsOK I g ow w path [] k xs vs → DenL J none (unOL xs) vs
  | _, [], _, h => h
  | k, x :: xs, _, ⟨v, ws, e, h1, h2⟩ => by
    refine ⟨v, ws, e, ?_, unOL_den hle hJ hp h2⟩
    unfold CellOK at h1
    simp only [lookF] at h1
    cases x with
    | own e sz n f =>
      rcases h1 with ⟨ad, rfl, rfl⟩ | ⟨b, cap, cur, rfl, l2, l3, l4, l5, l6, l7, l8⟩
      · exact ⟨ad, 0, rfl, Nat.le_refl _, Nat.zero_le _, .inl rfl⟩
      · exact sl_good l3 (hJ b ⟨by rw [l2]; exact hp k, cur, _, l3, l7⟩ ⟨k, l2⟩) l4 l5 l6 fun i hi => DenL.mono hle _ _ _ (l8 i hi)
    | _ => exact Den.mono hle none _ _ h1
mutual
theorem thaw_den {a : Act} {w : World} {I : Imm} {g : Nat → Value} {ow : Nat → List Nat} (h : SatAt C s a w I g ow) : ∀ (av : AV) (v : Value), Den I (some g) av v → Den (ImmT I ow w) (some g) (thaw s.rts av) v
  | .ref q, v, d => by
    have hle := (immT_sat h).1
    unfold thaw
    split
    · rename_i e sz n f hr
      obtain ⟨g', hg, rfl, _⟩ := d
      cases hg
      rcases h.rts q _ hr with ⟨ad, hq, rfl⟩ | ⟨b, cap, cur, hq, hw, hb, hnc, hcm, hcs, ho1, hcl⟩
      · exact ⟨ad, 0, hq, Nat.le_refl _, Nat.zero_le _, .inl rfl⟩
      · rw [hq]
        exact sl_good hb (immT_good ⟨by rw [hw]; simp, cur, e, hb, ho1⟩) hnc hcm hcs fun i hi => DenL.mono hle _ _ _ (hcl i hi)
    · rename_i e sz n f i0 fs hr
      cases hfs : isNilF fs with
      | false => exact d
      | true =>
        cases isNilF_eq hfs
        obtain ⟨g', hg, rfl, _⟩ := d
        cases hg
        rcases h.rts q _ hr with ⟨ad, hq, rfl⟩ | ⟨b, cap, cur, hq, hw, hb, hnc, hcm, hcs, ho1, hcl⟩
        · exact ⟨ad, 0, hq, Nat.le_refl _, Nat.zero_le _, .inl rfl⟩
        · rw [hq]
          refine sl_good hb (immT_good ⟨by rw [hw]; simp, cur, e, hb, ho1⟩) hnc hcm hcs fun i hi => ?_
          have := hcl i hi
          rw [show (if i = i0 then ([] : List (Nat × Nat)) else []) = [] by split <;> rfl] at this
          exact unOL_den hle (fun b hb _ => immT_good hb) (by simp) this
    · exact d
  | .agg cs, v, ⟨vs, e, d⟩ => ⟨vs, e, thawL_den h cs vs d⟩
  | .tup cs, v, ⟨vs, e, d⟩ => ⟨vs, e, thawL_den h cs vs d⟩
  | .any, _, d | .int .., _, d | .bool .., _, d | .str .., _, d | .nilp, _, d | .nils, _, d | .emp, _, d | .ans, _, d | .nilfn, _, d | .nilif, _, d | .locE .., _, d | .own .., _, d => d
  | .sl a b c, v, d => Den.mono (immT_sat h).1 _ (.sl a b c) v d
  | .ptr c, v, d => Den.mono (immT_sat h).1 _ (.ptr c) v d
  | .fn a cs, v, ⟨vs, e, d⟩ => ⟨vs, e, thawL_den h cs vs d⟩
  | .loc q off, v, d => by
    unfold thaw
    split
    · rename_i cells hr
      cases hp : isPureL cells with
      | false => exact d
      | true =>
        obtain ⟨g', b', hg, hq', rfl⟩ := d
        cases hg
        obtain ⟨b, cur, hq, hw, hb, ho1, hcl⟩ := h.rts q _ hr
        rw [hq] at hq'
        cases hq'
        have hcl := DenL.mono (immT_sat h).1 _ _ _ (DenL.unref _ _ hp hcl)
        refine ⟨b', off, cur.toList.drop off, rfl, fun j v hj => ?_, hcl.drop off⟩
        rw [immT_good ⟨by rw [hw]; simp, cur, _, hb, ho1⟩, cell_heap hb]
        rwa [List.getElem?_drop] at hj
    · exact d
  | .iface a c, v, d => Den.mono (immT_sat h).1 _ (.iface a c) v d
  | .cnd a c, v, d => Den.mono (immT_sat h).1 _ (.cnd a c) v d
theorem thawL_den {a : Act} {w : World} {I : Imm} {g : Nat → Value} {ow : Nat → List Nat} (h : SatAt C s a w I g ow) : ∀ (xs : List AV) (vs : List Value), DenL I (some g) xs vs → DenL (ImmT I ow w) (some g) (thaw.go s.rts xs) vs
  | [], _, d => d
  | x :: xs, _, ⟨v, ws, e, d, r⟩ => ⟨v, ws, e, thaw_den h x v d, thawL_den h xs ws r⟩
end
/-- what a call of a function of pure values is told, and gives -/
theorem wp_callB {a : Act} {w : World} (hs : Sat C s a w) {dr : Bool} {ops : Array Oper} {o : Oper} (hd : ∀ d, o.dst = some d → d < C.nt) {d : Option Nat} {fx : X} {xs : List X} {gd : Option (Nat × Bool)} {af : List Nat} (hso : cso P dr ops o = ⟨.callT d fx xs, gd, af⟩)
    {f : Nat} {caps args : List AV} {res : AV} {G : Bool} (hG : gval s gd = some G) (hf : und (xv s fx) = .fn f caps) (hgo : G = true → allP (gdo (xv s fx) ++ gds s xs))
    (hargs : thaw.go s.rts (xus s xs) ++ thaw.go s.rts caps = args) (hp : isPureL args = true) (hpl : plain res = true ∨ (xus s xs ++ caps = args)) (hspec : G = true → Spec0 P f args res)
    {K : Act → World → Prop} {Q : Exit → Act → World → Prop} (hK : ∀ a' w', Sat C (putO s d (resG gd G res)) a' w' → K a' w') :
    if Region.wanted o (yielded ops a.tmps) then o.wp P a w K Q ∨ (o.asks P a w ∧ LetsOut Q) else K (a.put o.dst undef) w := by
  obtain ⟨I, g, ow, h⟩ := hs
  rw [gval_wanted h hso (by simp) hG]
  have hcop : cop P o = .callT d fx xs := by
    have := congrArg SO.op hso
    simp only [cso] at this
    split at this
    · exact this
    · split at this
      · exact this
      · cases this
  obtain ⟨ff, as, ts, hop, rfl, rfl, hdd⟩ : ∃ ff as ts, o.op = .call { callee := .value ff, args := as, argTypes := ts } ∧ fx = xop ff ∧ xs = xops as.toList ∧ o.dst = d := by
    obtain ⟨ff, as, ts, q1, q2, q3, q4⟩ := cop1_callT hcop
    exact ⟨ff, as, ts, q1, q2, q3, q4⟩
  have hgd : gd = none → G = true := by rintro rfl; simpa [gval] using hG.symm
  cases G with
  | false =>
    rw [if_neg (by simp)]
    refine hK _ _ ⟨I, g, ow, ?_⟩
    cases gd with
    | none => exact absurd (hgd rfl) (by simp)
    | some jw =>
      subst hdd
      cases hdst : o.dst with
      | none => exact h
      | some d => exact h.put (hd d hdst) ⟨fun e => (by cases e), fun _ => rfl⟩
  | true =>
    rw [if_pos rfl]
    refine .inl ?_
    have hg := hgo rfl
    rw [allP_append] at hg
    have e1 := x_den h ff hg.1
    rw [hf] at e1
    obtain ⟨cv, e1, d1⟩ := e1
    have d2 := xus_den h as.toList hg.2
    have hrun : (execOp a.eval o).run P w = .ok (.enter f ⟨as.toList.map a.eval ++ cv⟩) w := by
      have harr : as.map a.eval ++ (⟨cv⟩ : Array Value) = ⟨as.toList.map a.eval ++ cv⟩ := by apply Array.ext'; simp
      simp [execOp, hop, resolve, e1, Deferred.ofValue, invoke, harr, (hspec rfl).1]
    have fin : ∀ {w' : World} {I' : Imm} {v : Value}, SatAt C s a w' I' g ow → Den I' none res v → K (a.put o.dst v) w' := by
      intro w' I' v h' hv
      refine hK _ _ ⟨I', g, ow, ?_⟩
      subst hdd
      have hv' : Den I' (some g) (resG gd true res) v := by
        cases gd with
        | none => exact Den.pure _ _ hv
        | some jw => exact ⟨fun _ => Den.pure _ _ hv, fun e => by cases e⟩
      cases hdst : o.dst with
      | none => exact h'
      | some d => exact h'.put (hd d hdst) hv'
    unfold Oper.wp
    rw [hrun]
    simp only [Oper.upon]
    rcases hpl with hpl | hpl
    · have hden : DenL (ImmT I ow w) none args (as.toList.map a.eval ++ cv) := DenL.unref _ _ hp (hargs ▸ (thawL_den h _ _ d2).append (thawL_den h _ _ d1))
      obtain ⟨t1, t2, t3⟩ := immT_sat h
      refine ((hspec rfl).2 _ w _ hden t2 t3 (C.tab.mono (h.ile.trans t1))).mono ?_
      rintro e w' ⟨v, I', rfl, hv, k1, k2, k3, k4, k5, k6, k7, k8, k9⟩
      refine fin (sat_call0 h (Imm.le.refl I) (fun b o u hu => ?_) h.one (fun _ _ _ => rfl) k5 k6 k7 k8 k9) (plain_den res v hpl hv)
      have := h.imm b o u hu
      rw [cell_other (k9 b (imm_lt h hu))]
      exact this
    · have hden : DenL I none args (as.toList.map a.eval ++ cv) := DenL.unref _ _ hp (hpl ▸ d2.append d1)
      refine ((hspec rfl).2 I w _ hden h.imm h.one (C.tab.mono h.ile)).mono ?_
      rintro e w' ⟨v, I', rfl, hv, k1, k2, k3, k4, k5, k6, k7, k8, k9⟩
      exact fin (sat_call0 h k1 k2 k3 k4 k5 k6 k7 k8 k9) hv
/-- a call in a region that keeps the text's order -/
theorem run_call {Q : St → Prop} {d : Option Nat} {fx : X} {xs : List X} {gd : Option (Nat × Bool)} {af : List Nat} {sos : List SO} {f : Nat} {caps args : List AV} {res : AV} {G : Bool}
    (hG : gval s gd = some G) (hf : und (xv s fx) = .fn f caps) (hgo : G = true → allP (gdo (xv s fx) ++ gds s xs)) (hargs : thaw.go s.rts (xus s xs) ++ thaw.go s.rts caps = args) (hp : isPureL args = true) (hpl : plain res = true ∨ (xus s xs ++ caps = args)) (hspec : G = true → Spec0 P f args res)
    (k : Run P C sos Q (putO s d (resG gd G res))) : Run P C (⟨.callT d fx xs, gd, af⟩ :: sos) Q s := by
  intro dr ops os hm hd a w hs K hK
  cases os with
  | nil => simp at hm
  | cons o' os =>
    simp only [List.map_cons, List.cons.injEq] at hm
    obtain ⟨h1, h2⟩ := hm
    exact wp_callB hs (hd o' (List.mem_cons_self ..)) h1 hG hf hgo hargs hp hpl hspec fun a' w' hs' => k dr ops os h2 (fun o ho => hd o (List.mem_cons_of_mem _ ho)) a' w' hs' K hK
def recC (s : St) (d : Option Nat) (fx : X) (xs : List X) (gd : Option (Nat × Bool)) : Rec :=
  { rd := (match gd with | some (j, _) => [j] | none => []) ++ slots (fx :: xs), rn := refs.go (xus s (fx :: xs)), d := d, wn := [], nn := [] }
mutual
theorem thaw_congr {r1 r2 : List (Nat × Rt)} : ∀ av : AV, (∀ q ∈ refs av, lookR r2 q = lookR r1 q) → thaw r2 av = thaw r1 av
  | .ref q, h => by simp only [thaw, h q (by simp [refs])]
  | .agg cs, h => by simp only [thaw, thawL_congr cs (fun q hq => h q (by simpa [refs] using hq))]
  | .loc q off, h => by simp only [thaw, h q (by simp [refs])]
  | .fn f cs, h => by simp only [thaw, thawL_congr cs (fun q hq => h q (by simpa [refs] using hq))]
  | .tup cs, h => by simp only [thaw, thawL_congr cs (fun q hq => h q (by simpa [refs] using hq))]
  | .any, _ | .int .., _ | .bool .., _ | .str .., _ | .nilp, _ | .nils, _ | .emp, _ | .ans, _ | .nilfn, _ | .nilif, _ | .locE .., _ | .sl .., _ | .ptr .., _ | .iface .., _ | .cnd .., _ | .own .., _ => rfl
theorem thawL_congr {r1 r2 : List (Nat × Rt)} : ∀ xs : List AV, (∀ q ∈ refs.go xs, lookR r2 q = lookR r1 q) → thaw.go r2 xs = thaw.go r1 xs
  | [], _ => rfl
  | x :: xs, h => by
    simp only [thaw.go]
    rw [thaw_congr x (fun q hq => h q (by simp [refs.go, hq])), thawL_congr xs (fun q hq => h q (by simp [refs.go, hq]))]
end
theorem xus_congr {s2 : St} : ∀ l : List X, (∀ x ∈ l, xv s2 x = xv s x) → xus s2 l = xus s l ∧ gds s2 l = gds s l
  | [], _ => ⟨rfl, rfl⟩
  | x :: r, h => by
    obtain ⟨h1, h2⟩ := xus_congr (s2 := s2) r fun y hy => h y (List.mem_cons_of_mem _ hy)
    simp only [xus, gds, h x (List.mem_cons_self ..), h1, h2, and_self]
theorem putO_turned {s2 : St} {d : Option Nat} {v : AV} {rc : Rec} (hd : rc.d = d) (hw : rc.wn = []) : Turned rc (putO s d v) s2 (putO s2 d v) := by
  cases d with
  | none => exact ⟨fun t => by simp [hd, putO], fun q => by simp [hw, putO]⟩
  | some d => exact ⟨fun t => by simp only [hd, putO, St.put, look_cons, Option.some.injEq]; by_cases h : d = t <;> simp [h], fun q => by simp [hw, putO, St.put]⟩
/-- a call in a region that draws its order -/
theorem tr_call {e : St} {d : Option Nat} {fx : X} {xs : List X} {gd : Option (Nat × Bool)} {af : List Nat} {sos : List SO} {tr : List (Rec × St)} {f : Nat} {caps args : List AV} {res : AV} {G : Bool}
    (hG : gval s gd = some G) (hf : und (xv s fx) = .fn f caps) (hgo : G = true → allP (gdo (xv s fx) ++ gds s xs)) (hargs : thaw.go s.rts (xus s xs) ++ thaw.go s.rts caps = args) (hp : isPureL args = true) (hpl : plain res = true ∨ (xus s xs ++ caps = args)) (hspec : G = true → Spec0 P f args res)
    (k : Tr P C (putO s d (resG gd G res)) sos tr e) : Tr P C s (⟨.callT d fx xs, gd, af⟩ :: sos) ((recC s d fx xs gd, putO s d (resG gd G res)) :: tr) e := by
  refine .cons ?_ (turnedB_of rfl (putO_turned rfl rfl)) k
  intro dr ops o hso hd s2 hag hfr _ a w hs K Q hK
  obtain ⟨ag1, ag2, ag3⟩ := hag
  have hx : ∀ x ∈ fx :: xs, xv s2 x = xv s x := agree_x fun t ht => ag1 t (by simp only [recC, List.mem_append]; exact .inr ht)
  obtain ⟨x1, x2⟩ := xus_congr (s := s) (s2 := s2) xs fun x hx' => hx x (List.mem_cons_of_mem _ hx')
  have xf := hx fx (List.mem_cons_self ..)
  have hg2 : gval s2 gd = gval s gd := by
    cases gd with
    | none => rfl
    | some jw =>
      obtain ⟨j, want⟩ := jw
      simp only [gval, ag1 j (by simp [recC])]
  have t1 : thaw.go s2.rts (xus s xs) = thaw.go s.rts (xus s xs) := thawL_congr _ fun q hq => ag2 q (by simp [recC, xus, refs.go, hq])
  have t2 : thaw.go s2.rts caps = thaw.go s.rts caps := thawL_congr _ fun q hq => ag2 q (by simp only [recC, xus, refs.go, hf, refs, List.mem_append]; exact .inl hq)
  exact wp_callB hs hd hso (hg2.trans hG) (by rw [xf]; exact hf) (by rw [xf, x2]; exact hgo) (by rw [x1, t1, t2]; exact hargs) hp (by rw [x1]; exact hpl) hspec fun a' w' hs' => hK a' w' _ (turnedB_of rfl (putO_turned rfl rfl)) hs'
end
end Go.Av
end
/- part AvOwn -/
section
namespace Go.Av
section
variable {P : Program} {C : Ctx P} {s : St} {a : Act} {w : World} {I : Imm} {g : Nat → Value} {ow : Nat → List Nat}
theorem sat_rts (h : SatAt C s a w I g ow) {rts' : List (Nat × Rt)} (hr : ∀ q r, lookR rts' q = some r → RtOK I g ow w q r) : SatAt C ⟨s.env, rts'⟩ a w I g ow := { h with rts := hr }
/-- a row is taken for one whose elements may own rows -/
theorem ent_rowO (q : Nat) {e sz n : Nat} {f : Nat → List AV} (hr : lookR s.rts q = some (.row e sz n f)) : Ent C s ⟨s.env, setR q (.rowO e sz n f 0 []) s.rts⟩ := by
  rintro a w ⟨I, g, ow, h⟩
  refine ⟨I, g, ow, sat_rts h fun p r hp => ?_⟩
  rw [lookR_setR] at hp
  split at hp
  · rename_i hqp
    subst hqp
    rw [hr] at hp
    cases hp
    rcases h.rts q _ hr with h1 | ⟨b, cap, cur, h1, h2, h3, h4, h5, h6, h7, h8⟩
    · exact .inl h1
    · refine .inr ⟨b, cap, cur, h1, h2, h3, h4, h5, h6, h7, fun j hj => ?_⟩
      have hfs : (if j = 0 then ([] : List (Nat × Nat)) else []) = [] := by split <;> rfl
      rw [hfs]
      exact CellsOK.of_den (h8 j hj)
  · exact h.rts p r hp
/-- the row that a cell of an element owns gets a name -/
theorem ent_open (q q' i k : Nat) {e sz n : Nat} {f : Nat → List AV} {i0 : Nat} {fs : List (Nat × Nat)} {e' sz' n' : Nat} {h' : Nat → List AV} (hr : lookR s.rts q = some (.rowO e sz n f i0 fs)) (hi : i < n) (hf0 : fs = [] ∨ i0 = i)
    (hk : (f i)[k]? = some (.own e' sz' n' h')) (hkf : lookF fs k = none) (hf : fresh q' s = true) (hb : Nat.blt q' PB = true := by rfl) : Ent C s ⟨s.env, (q', .row e' sz' n' h') :: setR q (.rowO e sz n f i ((k, q') :: fs)) s.rts⟩ := by
  rintro a w ⟨I, g, ow, h⟩
  simp only [fresh, Bool.and_eq_true] at hf
  obtain ⟨hqq, hnf⟩ := freshR_look hf.2 q _ hr
  rcases h.rts q _ hr with ⟨a0, _, h0⟩ | ⟨b, cap, cur, h1, h2, h3, h4, h5, h6, h7, h8⟩
  · omega
  have hci := h8 i hi
  have hfi : (if i = i0 then fs else []) = fs := by
    rcases hf0 with rfl | rfl
    · split <;> rfl
    · rw [if_pos rfl]
  rw [hfi] at hci
  obtain ⟨v, hv1, hv2⟩ := cellsOK_get hci k _ hk
  rw [Nat.zero_add] at hv2
  unfold CellOK at hv2
  rw [hkf] at hv2
  have hsub : SubOK I ow w [q, i, k] e' sz' n' h' v := hv2
  have hslice : ∃ a n c, v = .slice a n c := by
    rcases hsub with ⟨a0, e1, _⟩ | ⟨b', cap', cur', e1, _⟩
    · exact ⟨_, _, _, e1⟩
    · exact ⟨_, _, _, e1⟩
  obtain ⟨ow', how'⟩ : ∃ o : Nat → List Nat, o = fun b => if ow b = [q, i, k] then [q'] else ow b := ⟨_, rfl⟩
  have hne : ∀ b, ow' b ≠ [] → ow b ≠ [] := by
    intro b hb he
    rw [how'] at hb
    simp [he] at hb
  have hoth : ∀ b, ow b ≠ [q, i, k] → ow' b = ow b := by
    intro b hb
    rw [how']
    exact if_neg hb
  refine ⟨I, upd g q' v, ow', { h with
    pin := pin_upd h.pin (by simpa using hb) _
    env := fun t => env_name h hf.1 v t
    rts := fun p r hp => ?_
    sep := fun b hb => h.sep b (hne b hb)
    new := fun b hb => h.new b (hne b hb)
    lt := fun b hb => h.lt b (hne b hb) }⟩
  replace hp : lookR ((q', .row e' sz' n' h') :: setR q (.rowO e sz n f i ((k, q') :: fs)) s.rts) p = some r := hp
  rw [lookR_cons] at hp
  split at hp
  · rename_i hpp
    subst hpp
    cases hp
    rcases hsub with ⟨a0, e1, e2⟩ | ⟨b', cap', cur', e1, e2, e3, e4⟩
    · exact .inl ⟨a0, by rw [upd_same]; exact e1, e2⟩
    · exact .inr ⟨b', cap', cur', by rw [upd_same]; exact e1, by rw [how']; simp [e2], e3, e4⟩
  · rename_i hpp
    rw [lookR_setR] at hp
    split at hp
    · rename_i hqp
      subst hqp
      rw [hr] at hp
      cases hp
      refine .inr ⟨b, cap, cur, by rw [upd_ne _ _ hqq]; exact h1, by rw [hoth b (by rw [h2]; simp)]; exact h2, h3, h4, h5, h6, h7, fun j hj => ?_⟩
      by_cases hji : j = i
      · subst hji
        rw [if_pos rfl]
        refine cellsOK_of hci.length fun p x u hx hu => ?_
        obtain ⟨u', hu1, hu2⟩ := cellsOK_get hci p x hx
        rw [hu] at hu1
        cases hu1
        rw [Nat.zero_add] at hu2 ⊢
        by_cases hpk : p = k
        · subst hpk
          rw [hk] at hx
          cases hx
          rw [hv1] at hu
          cases hu
          unfold CellOK
          simp only [lookF, beq_iff.2 rfl, cond_true]
          exact ⟨⟨_, _, _, _, rfl⟩, by rw [upd_same], hslice⟩
        · unfold CellOK at hu2 ⊢
          simp only [lookF, beq_ne (fun e => hpk e.symm), cond_false]
          cases hl : lookF fs p with
          | none =>
            rw [hl] at hu2
            cases x with
            | own e0 s0 n0 f0 => exact SubOK.frame hu2 (Imm.le.refl I) fun b' hb' => ⟨by rw [hoth b' (by rw [hb']; simp [hpk])]; exact hb', rfl⟩
            | _ => exact hu2
          | some p0 =>
            rw [hl] at hu2
            exact ⟨hu2.1, by rw [upd_ne _ _ (norefF_look hnf p p0 hl)]; exact hu2.2.1, hu2.2.2⟩
      · rw [if_neg hji]
        have hcj := h8 j hj
        have hfj : (if j = i0 then fs else []) = [] := by
          rcases hf0 with rfl | rfl
          · split <;> rfl
          · rw [if_neg hji]
        rw [hfj] at hcj
        exact CellsOK.frame (Imm.le.refl I) (fun k => ⟨id, fun p hp => by simp [lookF] at hp⟩) (fun k' b' hb' => ⟨by rw [hoth b' (by rw [hb']; simp [hji])]; exact hb', rfl⟩) hcj
    · rename_i hqp
      obtain ⟨e1, e2⟩ := freshR_look hf.2 p r hp
      refine RtOK.name (h.rts p r hp) e1 e2 (fun b p' _ => rfl) fun b p' hb => ?_
      rw [hoth b (by rw [hb]; intro e; injection e with e _; exact hqp e.symm)]
      exact hb
def delF : List (Nat × Nat) → Nat → List (Nat × Nat)
  | [], _ => []
  | (k, p) :: r, j => bif Nat.beq k j then delF r j else (k, p) :: delF r j
theorem lookF_delF : ∀ (fs : List (Nat × Nat)) (k p : Nat), lookF (delF fs k) p = if p = k then none else lookF fs p
  | [], k, p => by simp [delF, lookF]
  | (j, r) :: fs, k, p => by
    simp only [delF]
    by_cases hj : j = k
    · subst hj
      rw [beq_iff.2 rfl, cond_true, lookF_delF fs j p]
      by_cases hp : p = j
      · simp [hp]
      · simp only [if_neg hp, lookF, beq_ne (fun e => hp e.symm), cond_false]
    · rw [beq_ne hj, cond_false]
      simp only [lookF, lookF_delF fs k p]
      by_cases hp : p = k
      · subst hp; simp only [if_pos, beq_ne hj, cond_false]
      · simp only [if_neg hp]
/-- a named row is handed back to the cell -/
theorem ent_close (q q' k : Nat) {e sz n : Nat} {f : Nat → List AV} {i : Nat} {fs : List (Nat × Nat)} {e' sz' n' : Nat} {h' : Nat → List AV} (hr : lookR s.rts q = some (.rowO e sz n f i fs))
    (hl : lookF fs k = some q') (hq' : lookR s.rts q' = some (.row e' sz' n' h')) : Ent C s ⟨s.env, setR q (.rowO e sz n (stored i k [.own e' sz' n' h'] f) i (delF fs k)) (eraseR q' s.rts)⟩ := by
  rintro a w ⟨I, g, ow, h⟩
  have hqq : q ≠ q' := by rintro rfl; rw [hr] at hq'; cases hq'
  refine ⟨I, g, giveO q' [q, i, k] ow, sat_rts (sat_give h q' [q, i, k]) fun p r hp => ?_⟩
  rw [lookR_setR] at hp
  split at hp
  · rename_i hqp
    subst hqp
    rw [lookR_eraseR, if_neg (fun e => hqq e.symm), hr] at hp
    cases hp
    rcases h.rts q _ hr with ⟨a0, h1, h0⟩ | ⟨b, cap, cur, h1, h2, h3, h4, h5, h6, h7, h8⟩
    · exact .inl ⟨a0, h1, h0⟩
    refine .inr ⟨b, cap, cur, h1, giveO_other hqq h2, h3, h4, h5, h6, h7, fun j hj => ?_⟩
    have hcj := h8 j hj
    simp only [stored]
    by_cases hji : j = i
    · subst hji
      rw [beq_iff.2 rfl, cond_true, if_pos rfl]
      rw [if_pos rfl] at hcj
      show CellsOK _ _ _ _ _ _ _ _ _
      have hlen := hcj.length
      have hsl : (setAt k [AV.own e' sz' n' h'] (f j)).length = (f j).length := setAt_length _ _ _
      refine cellsOK_of (hsl.trans hlen) fun p x u hx hu => ?_
      rw [Nat.zero_add]
      rw [setAt_one] at hx
      by_cases hpk : p = k
      · subst hpk
        have hlt : p < (f j).length := by rw [hlen]; exact (List.getElem?_eq_some_iff.1 hu).1
        rw [if_pos rfl, if_pos hlt] at hx
        cases hx
        obtain ⟨x0, hx0⟩ : ∃ x0, (f j)[p]? = some x0 := ⟨_, List.getElem?_eq_getElem hlt⟩
        obtain ⟨u', hu1, hu2⟩ := cellsOK_get hcj p x0 hx0
        rw [hu] at hu1
        cases hu1
        rw [Nat.zero_add] at hu2
        unfold CellOK at hu2 ⊢
        rw [hl] at hu2
        rw [lookF_delF, if_pos rfl]
        rw [hu2.2.1]
        exact sub_of_row (h.rts q' _ hq') fun b' hb' => ⟨by unfold giveO; rw [if_pos hb'], rfl⟩
      · rw [if_neg hpk] at hx
        obtain ⟨u', hu1, hu2⟩ := cellsOK_get hcj p x hx
        rw [hu] at hu1
        cases hu1
        rw [Nat.zero_add] at hu2
        unfold CellOK at hu2 ⊢
        rw [lookF_delF, if_neg hpk]
        cases hl2 : lookF fs p with
        | none =>
          rw [hl2] at hu2
          cases x with
          | own e0 s0 n0 f0 => exact SubOK.frame hu2 (Imm.le.refl I) fun b' hb' => ⟨giveO_other hqq hb', rfl⟩
          | _ => exact hu2
        | some p0 => rw [hl2] at hu2; exact hu2
    · rw [beq_ne hji, cond_false, if_neg hji]
      rw [if_neg hji] at hcj
      exact CellsOK.frame (Imm.le.refl I) (fun k => ⟨id, fun p hp => by simp [lookF] at hp⟩) (fun k' b' hb' => ⟨giveO_other hqq hb', rfl⟩) hcj
  · rename_i hqp
    rw [lookR_eraseR] at hp
    split at hp
    · cases hp
    · rename_i hqp'
      exact (h.rts p r hp).owned fun b p' hb => giveO_other (fun e => hqp' e.symm) hb

def fzSO (q : Nat) (s : St) : St := match lookR s.rts q with
  | some (.rowO _ sz n f _ fs) => bif isNilF fs then ⟨fzE q sz n (fun i => unOL (f i)) s.env, fzR q sz n (fun i => unOL (f i)) s.rts⟩ else s
  | _ => s
open Classical in
theorem ent_fzO (q : Nat) : Ent C s (fzSO q s) := by
  rintro a w ⟨I, g, ow, h⟩
  unfold fzSO
  split
  case h_2 => exact ⟨I, g, ow, h⟩
  rename_i e sz n f i0 fs hr
  cases hfs : isNilF fs with
  | false => exact ⟨I, g, ow, h⟩
  | true =>
  cases isNilF_eq hfs
  simp only [cond_true]
  obtain ⟨B, hB⟩ : ∃ B : Nat → Prop, B = fun b => (∃ p, ow b = q :: p) ∧ Good ow w b := ⟨_, rfl⟩
  obtain ⟨J, hJ⟩ : ∃ J : Imm, J = fun b o => if B b then w.cell? ⟨b, o, none⟩ else I b o := ⟨_, rfl⟩
  have hJB : ∀ b, B b → ∀ o, J b o = w.cell? ⟨b, o, none⟩ := fun b hb o => by rw [hJ]; exact if_pos hb
  have hJo : ∀ b, ¬ B b → ∀ o, J b o = I b o := fun b hb o => by rw [hJ]; exact if_neg hb
  have hle : I.le J := by
    intro b o u hu
    by_cases hb : B b
    · rw [hJB b hb]; exact h.imm b o u hu
    · rw [hJo b hb]; exact hu
  have hden : Den J (some g) (.sl sz n (fun i => unOL (f i))) (g q) := by
    rcases h.rts q _ hr with ⟨ad, hq, rfl⟩ | ⟨b, cap, cur, hq, hw, hb, hnc, hcm, hcs, ho1, hcl⟩
    · exact ⟨ad, 0, hq, Nat.le_refl _, Nat.zero_le _, .inl rfl⟩
    · rw [hq]
      have hbB : B b := by rw [hB]; exact ⟨⟨[], hw⟩, by rw [hw]; simp, cur, e, hb, ho1⟩
      refine sl_good hb (hJB b hbB) hnc hcm hcs fun i hi => ?_
      have := hcl i hi
      rw [show (if i = i0 then ([] : List (Nat × Nat)) else []) = [] by split <;> rfl] at this
      exact unOL_den hle (fun b hb ⟨k, hk⟩ => hJB b (by rw [hB]; exact ⟨⟨_, hk⟩, hb⟩)) (by simp) this
  have howne : ∀ b, (if B b then [] else ow b) ≠ [] → ¬ B b ∧ ow b ≠ [] := by
    intro b hb
    by_cases hbb : B b
    · simp [hbb] at hb
    · exact ⟨hbb, by simpa [hbb] using hb⟩
  refine ⟨J, g, fun b => if B b then [] else ow b, { h with
    env := fun t => ?_
    rts := fun p r hp => ?_
    imm := fun b o u hu => ?_
    one := fun b o u hu => ?_
    sep := fun b hb o => ?_
    new := fun b hb => h.new b (howne b hb).2
    lt := fun b hb => h.lt b (howne b hb).2
    ile := h.ile.trans hle
    iold := fun b o hb hx => ?_ }⟩
  · show Den J _ (look (fzE q sz n _ s.env) t) _
    rw [fzE_look]
    exact fzA_den hle hden _ _ (h.env t)
  · obtain ⟨h1, r0, h2, rfl⟩ := fzR_look p r hp
    have hr0 := h.rts p r0 h2
    have hnb : ∀ b p', ow b = p :: p' → (if B b then [] else ow b) = p :: p' := by
      intro b p' hb
      rw [if_neg]
      · exact hb
      · rw [hB]
        rintro ⟨⟨p2, h3⟩, _⟩
        rw [hb] at h3
        injection h3 with h3
        exact h1 h3
    cases r0 with
    | blk ty cells =>
      obtain ⟨b, cur, k1, k2, k3, k4, k5⟩ := hr0
      exact ⟨b, cur, k1, hnb b [] k2, k3, k4, fzL_den hle hden _ _ k5⟩
    | row e' z m hh =>
      rcases hr0 with hr0 | ⟨b, cap, cur, k1, k2, k3, k4, k5, k6, k7, k8⟩
      · exact .inl hr0
      · exact .inr ⟨b, cap, cur, k1, hnb b [] k2, k3, k4, k5, k6, k7, fun i hi => DenL.mono hle _ _ _ (k8 i hi)⟩
    | rowO e' z m hh i fs => exact RtOK.rowO_frame hr0 hle rfl (fs_same fs g) fun b p' hb' => ⟨hnb b p' hb', rfl⟩
  · by_cases hb : B b
    · rw [hJB b hb] at hu; exact hu
    · rw [hJo b hb] at hu; exact h.imm b o u hu
  · by_cases hb : B b
    · rw [hJB b hb] at hu
      rw [hB] at hb
      obtain ⟨_, _, cur, e, h1, h2⟩ := hb
      rw [cell_heap h1] at hu
      exact h2 u (List.mem_of_getElem? hu)
    · rw [hJo b hb] at hu; exact h.one b o u hu
  · rw [hJo b (howne b hb).1]; exact h.sep b (howne b hb).2 o
  · have hbb : ¬ B b := by
      rw [hB]
      rintro ⟨⟨p, h1⟩, _⟩
      rcases h.new b (by rw [h1]; simp) with h2 | h2
      · omega
      · exact hx h2
    rw [hJo b hbb]; exact h.iold b o hb hx
/-- cells that say less: a slice without elements owns its row -/
def ownLe : List AV → List AV → Prop
  | [], [] => True
  | x :: xs, y :: ys => (x = y ∨ ((x = .nils ∨ x = .emp) ∧ ∃ e sz f, y = .own e sz 0 f)) ∧ ownLe xs ys
  | _, _ => False
theorem ownLe_ok {path : Nat → List Nat} {fs : List (Nat × Nat)} : ∀ {k : Nat} {xs ys : List AV} {vs : List Value}, ownLe xs ys → CellsOK I g ow w path fs k xs vs → CellsOK I g ow w path fs k ys vs
  | _, [], [], _, _, h => h
  | _, [], _ :: _, _, h, _ => h.elim
  | _, _ :: _, [], _, h, _ => h.elim
  | k, x :: xs, y :: ys, _, ⟨h1, h2⟩, ⟨v, ws, e, d1, d2⟩ => by
    refine ⟨v, ws, e, ?_, ownLe_ok h2 d2⟩
    rcases h1 with rfl | ⟨h1, e0, sz0, f0, rfl⟩
    · exact d1
    · unfold CellOK at d1 ⊢
      cases hl : lookF fs k with
      | none =>
        rw [hl] at d1
        rcases h1 with rfl | rfl
        · exact .inl ⟨none, d1, rfl⟩
        · obtain ⟨a0, d1⟩ := d1
          exact .inl ⟨a0, d1, rfl⟩
      | some p => rw [hl] at d1; exact ⟨⟨_, _, _, _, rfl⟩, d1.2⟩
/-- the elements of a row are told in other words -/
theorem ent_own (q : Nat) {e sz n : Nat} {f : Nat → List AV} {i : Nat} {fs : List (Nat × Nat)} (n' : Nat) (f' : Nat → List AV) (hr : lookR s.rts q = some (.rowO e sz n f i fs)) (hn : n = n') (hf : ∀ j, j < n → f j = f' j ∨ ownLe (f j) (f' j)) : Ent C s ⟨s.env, setR q (.rowO e sz n' f' i fs) s.rts⟩ := by
  subst hn
  rintro a w ⟨I, g, ow, h⟩
  refine ⟨I, g, ow, sat_rts h fun p r hp => ?_⟩
  rw [lookR_setR] at hp
  split at hp
  · rename_i hqp
    subst hqp
    rw [hr] at hp
    cases hp
    rcases h.rts q _ hr with h1 | ⟨b, cap, cur, h1, h2, h3, h4, h5, h6, h7, h8⟩
    · exact .inl h1
    · refine .inr ⟨b, cap, cur, h1, h2, h3, h4, h5, h6, h7, fun j hj => ?_⟩
      rcases hf j hj with hh | hh
      · rw [← hh]; exact h8 j hj
      · exact ownLe_ok hh (h8 j hj)
  · exact h.rts p r hp
end
end Go.Av
end
/- part AvSpecR -/
section
namespace Go.Av
mutual
def mapA (ρ : Nat → Nat) : AV → AV
  | .ref q => .ref (ρ q)
  | .loc q o => .loc (ρ q) o
  | .locE q sz k o => .locE (ρ q) sz k o
  | .agg cs => .agg (mapL ρ cs)
  | .tup cs => .tup (mapL ρ cs)
  | .fn f cs => .fn f (mapL ρ cs)
  | .iface t v => .iface t (mapA ρ v)
  | .cnd g v => .cnd g (mapA ρ v)
  | v => v
def mapL (ρ : Nat → Nat) : List AV → List AV
  | [] => []
  | x :: r => mapA ρ x :: mapL ρ r
end
mutual
theorem mapA_den {I : Imm} {g : Nat → Value} {ρ : Nat → Nat} : ∀ (av : AV) (v : Value), Den I (some g) (mapA ρ av) v ↔ Den I (some fun q => g (ρ q)) av v
  | .any, _ => Iff.rfl
  | .int .., _ | .bool .., _ | .str .., _ | .nilp, _ | .nils, _ | .emp, _ | .ans, _ | .nilfn, _ | .nilif, _ | .own .., _ | .sl .., _ | .ptr .., _ => Iff.rfl
  | .ref q, v => ⟨fun ⟨g0, e, hv, hs⟩ => by cases e; exact ⟨_, rfl, hv, hs⟩, fun ⟨g0, e, hv, hs⟩ => by cases e; exact ⟨_, rfl, hv, hs⟩⟩
  | .loc q off, v => ⟨fun ⟨g0, b, e, e1, e2⟩ => by cases e; exact ⟨_, b, rfl, e1, e2⟩, fun ⟨g0, b, e, e1, e2⟩ => by cases e; exact ⟨_, b, rfl, e1, e2⟩⟩
  | .locE q sz k off, v => ⟨fun ⟨g0, b, n, c, e, e1, e2⟩ => by cases e; exact ⟨_, b, n, c, rfl, e1, e2⟩, fun ⟨g0, b, n, c, e, e1, e2⟩ => by cases e; exact ⟨_, b, n, c, rfl, e1, e2⟩⟩
  | .agg cs, v => ⟨fun ⟨vs, e, d⟩ => ⟨vs, e, (mapL_den cs vs).1 d⟩, fun ⟨vs, e, d⟩ => ⟨vs, e, (mapL_den cs vs).2 d⟩⟩
  | .tup cs, v => ⟨fun ⟨vs, e, d⟩ => ⟨vs, e, (mapL_den cs vs).1 d⟩, fun ⟨vs, e, d⟩ => ⟨vs, e, (mapL_den cs vs).2 d⟩⟩
  | .fn f cs, v => ⟨fun ⟨vs, e, d⟩ => ⟨vs, e, (mapL_den cs vs).1 d⟩, fun ⟨vs, e, d⟩ => ⟨vs, e, (mapL_den cs vs).2 d⟩⟩
  | .iface t x, v => ⟨fun ⟨u, e, d⟩ => ⟨u, e, (mapA_den x u).1 d⟩, fun ⟨u, e, d⟩ => ⟨u, e, (mapA_den x u).2 d⟩⟩
  | .cnd c x, v => ⟨fun d => ⟨fun e => (mapA_den x v).1 (d.1 e), d.2⟩, fun d => ⟨fun e => (mapA_den x v).2 (d.1 e), d.2⟩⟩
theorem mapL_den {I : Imm} {g : Nat → Value} {ρ : Nat → Nat} : ∀ (xs : List AV) (vs : List Value), DenL I (some g) (mapL ρ xs) vs ↔ DenL I (some fun q => g (ρ q)) xs vs
  | [], _ => Iff.rfl
  | x :: xs, _ => ⟨fun ⟨v, ws, e, d, r⟩ => ⟨v, ws, e, (mapA_den x v).1 d, (mapL_den xs ws).1 r⟩, fun ⟨v, ws, e, d, r⟩ => ⟨v, ws, e, (mapA_den x v).2 d, (mapL_den xs ws).2 r⟩⟩
end
def mapF (ρ : Nat → Nat) : List (Nat × Nat) → List (Nat × Nat)
  | [] => []
  | (k, q) :: r => (k, ρ q) :: mapF ρ r
theorem lookF_mapF (ρ : Nat → Nat) : ∀ (fs : List (Nat × Nat)) (k : Nat), lookF (mapF ρ fs) k = (lookF fs k).map ρ
  | [], _ => rfl
  | (j, q) :: r, k => by
    simp only [mapF, lookF]
    cases Nat.beq j k <;> simp [lookF_mapF ρ r k]
def mapR (ρ : Nat → Nat) : Rt → Rt
  | .blk t cs => .blk t (mapL ρ cs)
  | .row e sz n f => .row e sz n f
  | .rowO e sz n f i fs => .rowO e sz n f i (mapF ρ fs)
theorem mapR_in {I : Imm} {g : Nat → Value} {ow owc : Nat → List Nat} {w : World} {ρ : Nat → Nat} {q : Nat} {r : Rt} (h : RtOK I g ow w (ρ q) (mapR ρ r)) (how : ∀ b p, ow b = ρ q :: p → owc b = q :: p) : RtOK I (fun q => g (ρ q)) owc w q r := by
  cases r with
  | blk ty cells =>
    obtain ⟨b, cur, h1, h2, h3, h4, h5⟩ := h
    exact ⟨b, cur, h1, how b [] h2, h3, h4, (mapL_den _ _).1 h5⟩
  | row e sz n f =>
    rcases h with h | ⟨b, cap, cur, h1, h2, h3, h4⟩
    · exact .inl h
    · exact .inr ⟨b, cap, cur, h1, how b [] h2, h3, h4⟩
  | rowO e sz n f i fs =>
    refine RtOK.rowO_frame h (Imm.le.refl I) rfl (fun k => ?_) fun b p hb => ⟨how b p hb, rfl⟩
    rw [lookF_mapF]
    cases hl : lookF fs k with
    | none => simp
    | some p => exact ⟨fun e => (by cases e), fun p' hp' => ⟨p, rfl, by simp at hp'; rw [hp']⟩⟩
theorem mapR_out {I : Imm} {g gn : Nat → Value} {ow own : Nat → List Nat} {w : World} {ρ : Nat → Nat} {q : Nat} {r : Rt} (h : RtOK I g ow w q r) (hg : gn (ρ q) = g q) (hm : ∀ p, norefR p r = false → gn (ρ p) = g p)
    (how : ∀ b p, ow b = q :: p → own b = ρ q :: p) : RtOK I gn own w (ρ q) (mapR ρ r) := by
  cases r with
  | blk ty cells =>
    obtain ⟨b, cur, h1, h2, h3, h4, h5⟩ := h
    exact ⟨b, cur, hg.trans h1, how b [] h2, h3, h4, (mapL_den _ _).2 (DenL.congr _ _ (fun p hp => hm p hp) h5)⟩
  | row e sz n f =>
    rcases h with ⟨a, h1, h2⟩ | ⟨b, cap, cur, h1, h2, h3, h4⟩
    · exact .inl ⟨a, hg.trans h1, h2⟩
    · exact .inr ⟨b, cap, cur, hg.trans h1, how b [] h2, h3, h4⟩
  | rowO e sz n f i fs =>
    refine RtOK.rowO_frame h (Imm.le.refl I) hg (fun k => ?_) fun b p hb => ⟨how b p hb, rfl⟩
    rw [lookF_mapF]
    refine ⟨fun e => by rw [e]; rfl, fun p hp => ⟨ρ p, by rw [hp]; rfl, hm p ?_⟩⟩
    cases hn : norefR p (.rowO e sz n f i fs) with
    | false => rfl
    | true => exact absurd rfl (norefF_look hn k p hp)
/-- the names that a term mentions are among some -/
def among (ns : List Nat) (q : Nat) : Bool := elemN q ns
mutual
def subA (ns : List Nat) : AV → Bool
  | .ref q => elemN q ns
  | .loc q _ => elemN q ns
  | .locE q _ _ _ => elemN q ns
  | .agg cs => subL ns cs
  | .tup cs => subL ns cs
  | .fn _ cs => subL ns cs
  | .iface _ v => subA ns v
  | .cnd _ v => subA ns v
  | _ => true
def subL (ns : List Nat) : List AV → Bool
  | [] => true
  | x :: r => subA ns x && subL ns r
end
def subF (ns : List Nat) : List (Nat × Nat) → Bool
  | [] => true
  | (_, q) :: r => elemN q ns && subF ns r
def subR (ns : List Nat) : Rt → Bool
  | .blk _ cs => subL ns cs
  | .row .. => true
  | .rowO _ _ _ _ _ fs => subF ns fs
theorem nbeq {a b : Nat} (h : (!Nat.beq a b) = false) : a = b := by
  simp only [Bool.not_eq_false'] at h
  exact beq_iff.1 h
mutual
theorem subA_spec {ns : List Nat} {p : Nat} : ∀ av : AV, subA ns av = true → noref p av = false → p ∈ ns
  | .ref q, h, hn | .loc q _, h, hn | .locE q _ _ _, h, hn => by cases nbeq hn; exact elemN_iff.1 h
  | .agg cs, h, hn => subL_spec cs h hn
  | .tup cs, h, hn => subL_spec cs h hn
  | .fn _ cs, h, hn => subL_spec cs h hn
  | .iface _ v, h, hn => subA_spec v h hn
  | .cnd _ v, h, hn => subA_spec v h hn
  | .any, _, hn | .int .., _, hn | .bool .., _, hn | .str .., _, hn | .nilp, _, hn | .nils, _, hn | .emp, _, hn | .ans, _, hn | .nilfn, _, hn | .nilif, _, hn | .own .., _, hn | .sl .., _, hn | .ptr .., _, hn => by simp [noref] at hn
theorem subL_spec {ns : List Nat} {p : Nat} : ∀ xs : List AV, subL ns xs = true → norefL p xs = false → p ∈ ns
  | [], _, hn => by simp [norefL] at hn
  | x :: xs, h, hn => by
    simp only [subL, Bool.and_eq_true] at h
    simp only [norefL, Bool.and_eq_false_iff] at hn
    rcases hn with hn | hn
    · exact subA_spec x h.1 hn
    · exact subL_spec xs h.2 hn
end
theorem subR_spec {ns : List Nat} {p : Nat} {r : Rt} (h : subR ns r = true) (hn : norefR p r = false) : p ∈ ns := by
  cases r with
  | blk ty cs => exact subL_spec cs h hn
  | row => simp [norefR] at hn
  | rowO e sz n f i fs =>
    have h : subF ns fs = true := h
    have hn : norefF p fs = false := hn
    induction fs with
    | nil => simp [norefF] at hn
    | cons x fs ih =>
      obtain ⟨k, q⟩ := x
      simp only [subF, Bool.and_eq_true] at h
      simp only [norefF, Bool.and_eq_false_iff] at hn
      rcases hn with hn | hn
      · cases nbeq hn; exact elemN_iff.1 h.1
      · exact ih h.2 hn h.2 hn
section
variable {P : Program} {C : Ctx P} {s : St}
/-- a function that is handed roots -/
def SpecR (P : Program) (f : FuncId) (args : List AV) (rin : List (Nat × Rt)) (res : AV) (rout : List (Nat × Rt)) : Prop :=
  (∀ (vs : Array Value) (w : World), (callFunc f vs).run P w = .ok (.enter f vs) w) ∧ ∀ (I : Imm) (g : Nat → Value) (ow : Nat → List Nat) (w : World) (vs : List Value), DenL I (some g) args vs → (∀ q r, lookR rin q = some r → RtOK I g ow w q r) →
    (∀ b o u, I b o = some u → w.cell? ⟨b, o, none⟩ = some u) → (∀ b o u, I b o = some u → u.oneCell' = true) → (∀ b, ow b ≠ [] → ∀ o, I b o = none) → (∀ b, ow b ≠ [] → b < w.heap.size) → TabOK P I →
    Calls P f ⟨vs⟩ w fun e w' => ∃ v I' g' ow', e = .returned v ∧ Den I' (some g') res v ∧ (∀ q r, lookR rout q = some r → RtOK I' g' ow' w' q r) ∧ I.le I' ∧ (∀ b o u, I' b o = some u → w'.cell? ⟨b, o, none⟩ = some u) ∧ (∀ b o u, I' b o = some u → u.oneCell' = true) ∧
      (∀ b, ow' b ≠ [] → ∀ o, I' b o = none) ∧ (∀ b, ow' b ≠ [] → b < w'.heap.size) ∧ (∀ b, ow' b ≠ [] → w.heap.size ≤ b ∨ ow b ≠ []) ∧ (∀ q, PB ≤ q → g' q = g q) ∧
      (∀ b o, b < w.heap.size → ow b = [] → I' b o = I b o) ∧ w'.os = w.os ∧ w'.tape = w.tape ∧ w'.output = w.output ∧ w.heap.size ≤ w'.heap.size ∧ (∀ b, b < w.heap.size → ow b = [] → w'.heap[b]? = w.heap[b]?)
def FinR (rvs : List RV) (res : AV) (rout : List (Nat × Rt)) (s : St) : Prop := ∃ vs ob, resVs s rvs = some (vs, ob) ∧ allP (ob ++ leAV (resV vs) res) ∧ allP (leR s.rts rout)
@[reducible] def finR (rvs : List RV) (res : AV) (rout : List (Nat × Rt)) : Exit → St → Prop
  | .ret, s => FinR rvs res rout s
  | .normal, s => FinR rvs res rout s
  | _, _ => False
theorem specR {f : FuncId} {nt : Nat} {rvs : List RV} {sc : SCode} (hfn : FnOK P f nt rvs sc) {args : List AV} {rin : List (Nat × Rt)} {res : AV} {rout : List (Nat × Rt)}
    (h : ∀ C : Ctx P, C.nt = nt → wpS P C sc (finR rvs res rout) ⟨argE 0 args, rin⟩) (hb : Nat.ble nt PB = true := by rfl) : SpecR P f args rin res rout := by
  refine ⟨hfn.call, fun I g ow w vs hden hrts himm hone hsep hlt htab => ?_⟩
  obtain ⟨fn, c, h1, h2, h3, h4, h5, h6⟩ := hfn.body
  refine calls_of_wp h1 h2 ?_
  obtain ⟨C, hC⟩ : ∃ C : Ctx P, C = { w0 := w, I0 := I, X := fun b => ow b ≠ [], nt := nt, g0 := g, tab := htab } := ⟨_, rfl⟩
  have hnt : C.nt = nt := by rw [hC]
  have hs : Sat C ⟨argE 0 args, rin⟩ { tmps := (⟨vs⟩ : Array Value) ++ Array.replicate (fn.ntmps - (⟨vs⟩ : Array Value).size) undef, defers := [] } w := by
    refine ⟨I, g, ow, ?_⟩
    subst hC
    refine { defers := rfl, size := ?_, env := fun t => ?_, rts := hrts, imm := himm, one := hone, sep := hsep, new := fun b hb => .inr hb, lt := hlt, ile := Imm.le.refl I, iold := fun _ _ _ _ => rfl, os := rfl, tape := rfl, output := rfl, hsize := Nat.le_refl _, kept := fun _ _ _ => rfl, pin := fun _ _ => rfl, ntb := by simpa using hb }
    · simp only [Array.size_append, Array.size_replicate]
      omega
    · have := argE_look (β := some g) 0 [] (List.replicate (fn.ntmps - vs.length) undef) rfl hden t
      have earr : (⟨vs⟩ : Array Value) ++ Array.replicate (fn.ntmps - vs.length) undef = ⟨vs ++ List.replicate (fn.ntmps - vs.length) undef⟩ := by apply Array.ext'; simp
      show Den I _ _ (((⟨vs⟩ : Array Value) ++ Array.replicate (fn.ntmps - vs.length) undef).getD t undef)
      rw [earr, Array.getD_eq_getD_getElem?]
      simpa using this
  refine h C hnt c h3 (by rw [hnt]; exact h4) _ w hs _ fun ex a' w' s' hq hs' => ?_
  have fin : FinR rvs res rout s' → bodyPost P fn (fun e w' => ∃ v I' g' ow', e = .returned v ∧ Den I' (some g') res v ∧ (∀ q r, lookR rout q = some r → RtOK I' g' ow' w' q r) ∧ I.le I' ∧ (∀ b o u, I' b o = some u → w'.cell? ⟨b, o, none⟩ = some u) ∧ (∀ b o u, I' b o = some u → u.oneCell' = true) ∧
      (∀ b, ow' b ≠ [] → ∀ o, I' b o = none) ∧ (∀ b, ow' b ≠ [] → b < w'.heap.size) ∧ (∀ b, ow' b ≠ [] → w.heap.size ≤ b ∨ ow b ≠ []) ∧ (∀ q, PB ≤ q → g' q = g q) ∧
      (∀ b o, b < w.heap.size → ow b = [] → I' b o = I b o) ∧ w'.os = w.os ∧ w'.tape = w.tape ∧ w'.output = w.output ∧ w.heap.size ≤ w'.heap.size ∧ (∀ b, b < w.heap.size → ow b = [] → w'.heap[b]? = w.heap[b]?)) .ret a' w' := by
    rintro ⟨avs, ob, k1, k2, k3⟩
    obtain ⟨I', g', ow', hs'⟩ := hs'
    rw [allP_append] at k2
    rw [← h6] at k1
    obtain ⟨v, l1, l2⟩ := results_run (fn := fn) hs' k1 k2.1
    subst hC
    refine ⟨hs'.defers, v, l1, v, I', g', ow', rfl, leAV_sound _ _ _ l2 k2.2, fun q r hr => ?_, hs'.ile, hs'.imm, hs'.one, hs'.sep, hs'.lt, hs'.new, hs'.pin, fun b o hb hx => hs'.iold b o hb (fun h => h hx), hs'.os, hs'.tape, hs'.output, hs'.hsize, fun b hb hx => hs'.kept b hb (fun h => h hx)⟩
    obtain ⟨r0, e1, e2⟩ := leR_look k3 q r hr
    exact leRt_sound (hs'.rts q r0 e1) e2
  cases ex <;> first | exact fin hq | exact hq.elim
end
end Go.Av
end
