/- What the rows want: descriptions and schemes of small bulk opened. -/
import Derived.Test.YtobofhiakgohfaaGreatDoorRA
import Derived.Test.YtobofhiakgohfaaGreatDoorSB
set_option linter.unusedVariables false
set_option linter.unusedSimpArgs false
namespace Go.Proofs.YtobofhiakgohfaaGreatDoor
open Go.ChangeShapes Go.WideShapes Go.ChangeAt Go.RowKit

theorem list_of_get {α : Type} [Inhabited α] : ∀ (n : Nat) (p : Nat → α → Prop), (∀ i, i < n → ∃ x, p i x) → ∃ l : List α, l.length = n ∧ ∀ i x, l[i]? = some x → p i x := by
  intro n p h
  obtain ⟨f, hf⟩ := Go.Deep.choose_lt h
  refine ⟨(List.range n).map f, by simp, fun i x hx => ?_⟩
  have hi : i < n := by
    rcases Nat.lt_or_ge i n with h1 | h1
    · exact h1
    · rw [List.getElem?_eq_none (by simpa using h1)] at hx; cases hx
  rw [List.getElem?_map, List.getElem?_range hi] at hx
  cases hx
  exact hf i hi

instance : Inhabited ItemD := ⟨⟨⟨#[]⟩, 0, 0, 0⟩⟩
instance : Inhabited ClassD := ⟨⟨⟨#[]⟩, [], 0⟩⟩
instance : Inhabited ShapeD := ⟨⟨[], 0, 0⟩⟩
instance : Inhabited Value := ⟨.nilIface⟩

theorem bulk_mem {H : Type} : ∀ (l : List (DataW H)) (d : DataW H), d ∈ l → Rows.uptoBulk d ≤ Rows.uptoBulkAll l
  | [], d, h => by cases h
  | x :: r, d, h => by
    rw [Rows.uptoBulkAll]
    rcases List.mem_cons.1 h with rfl | h
    · omega
    · have := bulk_mem r d h; omega

theorem icells_at {w : World} {x : Addr} {l : List ItemD} (h : ∀ i (hi : i < l.length), w.cell? (x.add (i * 4)) = some (.string l[i].nm) ∧ w.cell? (x.add (i * 4 + 1)) = some (.int .i64 l[i].lo) ∧ w.cell? (x.add (i * 4 + 2)) = some (.int .i64 l[i].hi) ∧ w.cell? (x.add (i * 4 + 3)) = some (.int .i64 l[i].pl)) :
    ∀ j u, (icells l)[j]? = some u → w.cell? (x.add j) = some u := by
  intro j u hu
  have hj : j < (icells l).length := by
    rcases Nat.lt_or_ge j (icells l).length with h1 | h1
    · exact h1
    · rw [List.getElem?_eq_none h1] at hu; cases hu
  rw [icells_length] at hj
  have hi : j / 4 < l.length := by omega
  obtain ⟨a0, a1, a2, a3⟩ := icells_get l (j / 4) _ (List.getElem?_eq_getElem hi)
  obtain ⟨b0, b1, b2, b3⟩ := h (j / 4) hi
  have hc : j = j / 4 * 4 ∨ j = j / 4 * 4 + 1 ∨ j = j / 4 * 4 + 2 ∨ j = j / 4 * 4 + 3 := by omega
  rcases hc with e | e | e | e
  · rw [← e] at a0 b0; rw [b0, ← hu, a0]
  · rw [← e] at a1 b1; rw [b1, ← hu, a1]
  · rw [← e] at a2 b2; rw [b2, ← hu, a2]
  · rw [← e] at a3 b3; rw [b3, ← hu, a3]
theorem tris_at {α : Type} {f : α → Value × Value × Value} {w : World} {x : Addr} {l : List α} (h : ∀ i (hi : i < l.length), w.cell? (x.add (i * 3)) = some (f l[i]).1 ∧ w.cell? (x.add (i * 3 + 1)) = some (f l[i]).2.1 ∧ w.cell? (x.add (i * 3 + 2)) = some (f l[i]).2.2) :
    ∀ j u, (tris f l)[j]? = some u → w.cell? (x.add j) = some u := by
  intro j u hu
  have hj : j < (tris f l).length := by
    rcases Nat.lt_or_ge j (tris f l).length with h1 | h1
    · exact h1
    · rw [List.getElem?_eq_none h1] at hu; cases hu
  rw [tris_length] at hj
  have hi : j / 3 < l.length := by omega
  obtain ⟨a0, a1, a2⟩ := tris_get f l (j / 3) _ (List.getElem?_eq_getElem hi)
  obtain ⟨b0, b1, b2⟩ := h (j / 3) hi
  have hc : j = j / 3 * 3 ∨ j = j / 3 * 3 + 1 ∨ j = j / 3 * 3 + 2 := by omega
  rcases hc with e | e | e
  · rw [← e] at a0 b0; rw [b0, ← hu, a0]
  · rw [← e] at a1 b1; rw [b1, ← hu, a1]
  · rw [← e] at a2 b2; rw [b2, ← hu, a2]

theorem cells53 : Tryz.prog.cellsOf 53 = 4 := by kernel_rfl
theorem cells51 : Tryz.prog.cellsOf 51 = 3 := by kernel_rfl
theorem cells90 : Tryz.prog.cellsOf 90 = 3 := by kernel_rfl
theorem cells42 : Tryz.prog.cellsOf 42 = 2 := by kernel_rfl
theorem cells3 : Tryz.prog.cellsOf 3 = 1 := by kernel_rfl
theorem cells9 : Tryz.prog.cellsOf 9 = 1 := by kernel_rfl
theorem cells49 : Tryz.prog.cellsOf 49 = 1 := by kernel_rfl
theorem cells39 : Tryz.prog.cellsOf 39 = 1 := by kernel_rfl
theorem cells40 : Tryz.prog.cellsOf 40 = 1 := by kernel_rfl

section
variable {H : Type} {enc : TypeId × Value → H} {W : World} {base : Nat} {sp : Nat → Bool} {held : Bool} {fuel : Nat} {cs : List Value} {x : DataW H × List MemPlace}
set_option maxRecDepth 100000 in
theorem item_of (h : DataW.trod enc Tryz.prog W base sp held fuel 53 cs = some x) (hl : cs.length = 4) (z : Rows.uptoBulk x.1 ≤ 1048576) : ∃ it : ItemD, cs = icell it ∧ it.nm.size ≤ 1048576 := by
  obtain ⟨xs, n, _, hx, _, h3, h4⟩ := DataW.trod_struct Tryz.underlying53 h
  match cs, hl with
  | [c0, c1, c2, c3], _ =>
    have e0 := h4 0 _ rfl
    have e1 := h4 1 _ rfl
    have e2 := h4 2 _ rfl
    have e3 := h4 3 _ rfl
    obtain ⟨y0, hy0⟩ : ∃ y, xs[0]? = some y := ⟨xs[0]'(by rw [h3]; decide), by simp⟩
    obtain ⟨y1, hy1⟩ : ∃ y, xs[1]? = some y := ⟨xs[1]'(by rw [h3]; decide), by simp⟩
    obtain ⟨y2, hy2⟩ : ∃ y, xs[2]? = some y := ⟨xs[2]'(by rw [h3]; decide), by simp⟩
    obtain ⟨y3, hy3⟩ : ∃ y, xs[3]? = some y := ⟨xs[3]'(by rw [h3]; decide), by simp⟩
    rw [hy0] at e0
    rw [hy1] at e1
    rw [hy2] at e2
    rw [hy3] at e3
    obtain ⟨n0, g0, hd0, _⟩ := DataW.trod_string Tryz.underlying9 e0
    obtain ⟨n1, g1, _, _⟩ := DataW.trod_int Tryz.underlying3 e1
    obtain ⟨n2, g2, _, _⟩ := DataW.trod_int Tryz.underlying3 e2
    obtain ⟨n3, g3, _, _⟩ := DataW.trod_int Tryz.underlying3 e3
    simp [cells3, cells9] at g0 g1 g2 g3
    subst g0 g1 g2 g3
    refine ⟨⟨n0, n1, n2, n3⟩, rfl, ?_⟩
    rw [hx] at z
    simp only [Rows.uptoBulk] at z
    have hm := bulk_mem (xs.map (·.1)) y0.1 (List.mem_map.2 ⟨y0, List.mem_of_getElem? hy0, rfl⟩)
    rw [hd0] at hm
    simp only [Rows.uptoBulk] at hm
    have : n0.data.toList.length = n0.size := by simp
    show n0.size ≤ 1048576
    omega
end

section
variable {H : Type} {enc : TypeId × Value → H} {W : World} {held : Bool} {fuel : Nat} {cs : List Value} {x : DataW H × List MemPlace}
set_option maxRecDepth 100000 in
theorem items_of (h : DataW.trod enc Tryz.prog W 0 (fun _ => true) held fuel 49 cs = some x) (z : Rows.uptoBulk x.1 ≤ 1048576) : ∃ v l, cs = [v] ∧ ItemsV W W.heap.size v l := by
  rcases Go.Deep.open_slice Tryz.underlying49 h with ⟨rfl, _⟩ | ⟨ad, len, cap, m, n, D, Pl, rfl, _, hl, hm, hmm, hx, hall⟩
  · exact ⟨_, [], rfl, none, 0, rfl, by simp, by simp, by simp, Reads.none_, by simp⟩
  · simp only [if_true] at hmm
    subst hmm
    rw [hx] at z
    simp only [Rows.uptoBulk] at z
    have hbl := bulk_len ((List.range len).map D)
    rw [List.length_map, List.length_range] at hbl
    rw [cells53] at hall
    have hex : ∀ i, i < len → ∃ o : ItemD, W.cell? (ad.add (i * 4)) = some (.string o.nm) ∧ W.cell? (ad.add (i * 4 + 1)) = some (.int .i64 o.lo) ∧ W.cell? (ad.add (i * 4 + 2)) = some (.int .i64 o.hi) ∧ W.cell? (ad.add (i * 4 + 3)) = some (.int .i64 o.pl) ∧ o.nm.size ≤ 1048576 := by
      intro i hi
      obtain ⟨cs', h1, h2⟩ := hall i (by omega)
      obtain ⟨_, h3, h4⟩ := World.cells?_some h1
      have hD := bulk_mem ((List.range len).map D) (D i) (List.mem_map.2 ⟨i, List.mem_range.2 hi, rfl⟩)
      obtain ⟨o, rfl, ho⟩ := item_of h2 h3 (by show Rows.uptoBulk (D i) ≤ _; omega)
      have g0 := h4 0 (by omega)
      have g1 := h4 1 (by omega)
      have g2 := h4 2 (by omega)
      have g3 := h4 3 (by omega)
      rw [add_of_add] at g0 g1 g2 g3
      exact ⟨o, g0, g1, g2, g3, ho⟩
    obtain ⟨l, hl1, hl2⟩ := list_of_get len _ hex
    have hat := icells_at (w := W) (x := ad) (l := l) (fun i hi => by
      obtain ⟨a, b, c, d, _⟩ := hl2 i _ (List.getElem?_eq_getElem hi)
      exact ⟨a, b, c, d⟩)
    refine ⟨_, l, rfl, some ad, _, by rw [hl1], by omega, by simpa [maxLen] using hm, by omega, ⟨icells_length l, fun h0 => ⟨ad, rfl, ?_, hat⟩⟩, fun y hy => ?_⟩
    · have := World.block_lt_of_cell? W _ (hl2 0 _ (List.getElem?_eq_getElem h0)).1
      rwa [block_of_add] at this
    · obtain ⟨j, hj, rfl⟩ := List.getElem_of_mem hy
      exact (hl2 j _ (List.getElem?_eq_getElem hj)).2.2.2.2

set_option maxRecDepth 100000 in
theorem class_of (h : DataW.trod enc Tryz.prog W 0 (fun _ => true) held fuel 51 cs = some x) (hl : cs.length = 3) (z : Rows.uptoBulk x.1 ≤ 1048576) : ∃ y : ClassD × Value, cs = [(ctri y).1, (ctri y).2.1, (ctri y).2.2] ∧ ItemsV W W.heap.size y.2 y.1.its ∧ y.1.nm.size ≤ 1048576 := by
  obtain ⟨xs, n, _, hx, _, h3, h4⟩ := DataW.trod_struct Tryz.underlying51 h
  match cs, hl with
  | [c0, c1, c2], _ =>
    have e0 := h4 0 _ rfl
    have e1 := h4 1 _ rfl
    have e2 := h4 2 _ rfl
    obtain ⟨y0, hy0⟩ : ∃ y, xs[0]? = some y := ⟨xs[0]'(by rw [h3]; decide), by simp⟩
    obtain ⟨y1, hy1⟩ : ∃ y, xs[1]? = some y := ⟨xs[1]'(by rw [h3]; decide), by simp⟩
    obtain ⟨y2, hy2⟩ : ∃ y, xs[2]? = some y := ⟨xs[2]'(by rw [h3]; decide), by simp⟩
    rw [hy0] at e0
    rw [hy1] at e1
    rw [hy2] at e2
    rw [hx] at z
    simp only [Rows.uptoBulk] at z
    have hm0 := bulk_mem (xs.map (·.1)) y0.1 (List.mem_map.2 ⟨y0, List.mem_of_getElem? hy0, rfl⟩)
    have hm1 := bulk_mem (xs.map (·.1)) y1.1 (List.mem_map.2 ⟨y1, List.mem_of_getElem? hy1, rfl⟩)
    obtain ⟨n0, g0, hd0, _⟩ := DataW.trod_string Tryz.underlying9 e0
    obtain ⟨v, l, g1, hit⟩ := items_of e1 (by omega)
    obtain ⟨n2, g2, _, _⟩ := DataW.trod_int Tryz.underlying3 e2
    simp [cells3, cells9, cells49] at g0 g1 g2
    subst g0 g1 g2
    refine ⟨(⟨n0, l, n2⟩, c1), rfl, hit, ?_⟩
    rw [hd0] at hm0
    simp only [Rows.uptoBulk] at hm0
    have : n0.data.toList.length = n0.size := by simp
    show n0.size ≤ 1048576
    omega
set_option maxRecDepth 100000 in
theorem shape_of (h : DataW.trod enc Tryz.prog W 0 (fun _ => true) held fuel 90 cs = some x) (hl : cs.length = 3) (z : Rows.uptoBulk x.1 ≤ 1048576) : ∃ y : ShapeD × Value, cs = [(stri y).1, (stri y).2.1, (stri y).2.2] ∧ ItemsV W W.heap.size y.2 y.1.its ∧ -9223372036854775808 ≤ y.1.first ∧ y.1.first ≤ 9223372036854775807 := by
  obtain ⟨xs, n, _, hx, _, h3, h4⟩ := DataW.trod_struct Tryz.underlying90 h
  match cs, hl with
  | [c0, c1, c2], _ =>
    have e0 := h4 0 _ rfl
    have e1 := h4 1 _ rfl
    have e2 := h4 2 _ rfl
    obtain ⟨y0, hy0⟩ : ∃ y, xs[0]? = some y := ⟨xs[0]'(by rw [h3]; decide), by simp⟩
    obtain ⟨y1, hy1⟩ : ∃ y, xs[1]? = some y := ⟨xs[1]'(by rw [h3]; decide), by simp⟩
    obtain ⟨y2, hy2⟩ : ∃ y, xs[2]? = some y := ⟨xs[2]'(by rw [h3]; decide), by simp⟩
    rw [hy0] at e0
    rw [hy1] at e1
    rw [hy2] at e2
    rw [hx] at z
    simp only [Rows.uptoBulk] at z
    have hm0 := bulk_mem (xs.map (·.1)) y0.1 (List.mem_map.2 ⟨y0, List.mem_of_getElem? hy0, rfl⟩)
    obtain ⟨v, l, g0, hit⟩ := items_of e0 (by omega)
    obtain ⟨n1, g1, _, w1⟩ := DataW.trod_int Tryz.underlying3 e1
    obtain ⟨n2, g2, _, _⟩ := DataW.trod_int Tryz.underlying3 e2
    simp [cells3, cells49] at g0 g1 g2
    subst g0 g1 g2
    have hw : -9223372036854775808 ≤ n1 ∧ n1 ≤ 9223372036854775807 := by simpa [Lit.wf, IntKind.min, IntKind.max, IntKind.signed, IntKind.bits] using w1
    exact ⟨(⟨l, n1, n2⟩, c0), rfl, hit, hw.1, hw.2⟩
set_option maxRecDepth 100000 in
theorem classes_of (h : DataW.trod enc Tryz.prog W 0 (fun _ => true) held fuel 39 cs = some x) (z : Rows.uptoBulk x.1 ≤ 1048576) : ∃ v l, cs = [v] ∧ ClsV W W.heap.size v l := by
  rcases Go.Deep.open_slice Tryz.underlying39 h with ⟨rfl, _⟩ | ⟨ad, len, cap, m, n, D, Pl, rfl, _, hl, hm, hmm, hx, hall⟩
  · exact ⟨_, [], rfl, [], none, 0, rfl, rfl, by simp, by simp, by simp, Reads.none_, by simp⟩
  · simp only [if_true] at hmm
    subst hmm
    rw [hx] at z
    simp only [Rows.uptoBulk] at z
    have hbl := bulk_len ((List.range len).map D)
    rw [List.length_map, List.length_range] at hbl
    rw [cells51] at hall
    have hex : ∀ i, i < len → ∃ o : ClassD × Value, (W.cell? (ad.add (i * 3)) = some (ctri o).1 ∧ W.cell? (ad.add (i * 3 + 1)) = some (ctri o).2.1 ∧ W.cell? (ad.add (i * 3 + 2)) = some (ctri o).2.2) ∧ ItemsV W W.heap.size o.2 o.1.its ∧ o.1.nm.size ≤ 1048576 := by
      intro i hi
      obtain ⟨cs', h1, h2⟩ := hall i (by omega)
      obtain ⟨_, h3, h4⟩ := World.cells?_some h1
      have hD := bulk_mem ((List.range len).map D) (D i) (List.mem_map.2 ⟨i, List.mem_range.2 hi, rfl⟩)
      obtain ⟨o, rfl, ho⟩ := class_of h2 h3 (by show Rows.uptoBulk (D i) ≤ _; omega)
      have g0 := h4 0 (by omega)
      have g1 := h4 1 (by omega)
      have g2 := h4 2 (by omega)
      rw [add_of_add] at g0 g1 g2
      exact ⟨o, ⟨g0, g1, g2⟩, ho⟩
    obtain ⟨l, hl1, hl2⟩ := list_of_get len _ hex
    have hat := tris_at (f := ctri) (w := W) (x := ad) (l := l) (fun i hi => (hl2 i _ (List.getElem?_eq_getElem hi)).1)
    refine ⟨_, l.map Prod.fst, rfl, l, some ad, _, rfl, by rw [hl1], by omega, by simpa [maxLen] using hm, by omega, ⟨tris_length _ l, fun h0 => ⟨ad, rfl, ?_, hat⟩⟩, fun y hy => ?_⟩
    · have := World.block_lt_of_cell? W _ (hl2 0 _ (List.getElem?_eq_getElem h0)).1.1
      rwa [block_of_add] at this
    · obtain ⟨j, hj, rfl⟩ := List.getElem_of_mem hy
      exact (hl2 j _ (List.getElem?_eq_getElem hj)).2
set_option maxRecDepth 100000 in
theorem shapes_of (h : DataW.trod enc Tryz.prog W 0 (fun _ => true) held fuel 40 cs = some x) (z : Rows.uptoBulk x.1 ≤ 1048576) : ∃ v l, cs = [v] ∧ ShsV W W.heap.size v l := by
  rcases Go.Deep.open_slice Tryz.underlying40 h with ⟨rfl, _⟩ | ⟨ad, len, cap, m, n, D, Pl, rfl, _, hl, hm, hmm, hx, hall⟩
  · exact ⟨_, [], rfl, [], none, 0, rfl, rfl, by simp, by simp, by simp, Reads.none_, by simp⟩
  · simp only [if_true] at hmm
    subst hmm
    rw [hx] at z
    simp only [Rows.uptoBulk] at z
    have hbl := bulk_len ((List.range len).map D)
    rw [List.length_map, List.length_range] at hbl
    rw [cells90] at hall
    have hex : ∀ i, i < len → ∃ o : ShapeD × Value, (W.cell? (ad.add (i * 3)) = some (stri o).1 ∧ W.cell? (ad.add (i * 3 + 1)) = some (stri o).2.1 ∧ W.cell? (ad.add (i * 3 + 2)) = some (stri o).2.2) ∧ ItemsV W W.heap.size o.2 o.1.its ∧ -9223372036854775808 ≤ o.1.first ∧ o.1.first ≤ 9223372036854775807 := by
      intro i hi
      obtain ⟨cs', h1, h2⟩ := hall i (by omega)
      obtain ⟨_, h3, h4⟩ := World.cells?_some h1
      have hD := bulk_mem ((List.range len).map D) (D i) (List.mem_map.2 ⟨i, List.mem_range.2 hi, rfl⟩)
      obtain ⟨o, rfl, ho⟩ := shape_of h2 h3 (by show Rows.uptoBulk (D i) ≤ _; omega)
      have g0 := h4 0 (by omega)
      have g1 := h4 1 (by omega)
      have g2 := h4 2 (by omega)
      rw [add_of_add] at g0 g1 g2
      exact ⟨o, ⟨g0, g1, g2⟩, ho⟩
    obtain ⟨l, hl1, hl2⟩ := list_of_get len _ hex
    have hat := tris_at (f := stri) (w := W) (x := ad) (l := l) (fun i hi => (hl2 i _ (List.getElem?_eq_getElem hi)).1)
    refine ⟨_, l.map Prod.fst, rfl, l, some ad, _, rfl, by rw [hl1], by omega, by simpa [maxLen] using hm, by omega, ⟨tris_length _ l, fun h0 => ⟨ad, rfl, ?_, hat⟩⟩, fun y hy => ?_⟩
    · have := World.block_lt_of_cell? W _ (hl2 0 _ (List.getElem?_eq_getElem h0)).1.1
      rwa [block_of_add] at this
    · obtain ⟨j, hj, rfl⟩ := List.getElem_of_mem hy
      exact (hl2 j _ (List.getElem?_eq_getElem hj)).2
end

set_option maxRecDepth 100000 in
/-- A description of small bulk. -/
theorem open_desc {H : Type} {enc : TypeId × Value → H} {W : World} {base : Nat} {v : Value} {d : DataW H} {p : List MemPlace} (hv : Value.okWide Tryz.prog W .any base 42 v) (h : DataW.Trod enc Tryz.prog W 0 (fun _ => true) true 42 v d p) (z : Rows.uptoBulk d ≤ 1048576) : ∃ D, DescV W W.heap.size v D := by
  obtain ⟨cs, rfl, hsz⟩ := okWide_struct Tryz.underlying42 hv
  obtain ⟨fuel, hf⟩ := h
  have hl : cs.toList.length = 2 := by simpa using hsz.trans cells42
  have hf2 : DataW.trod enc Tryz.prog W 0 (fun _ => true) true fuel 42 cs.toList = some (d, p) := by simpa [Value.cells] using hf
  obtain ⟨xs, n, _, hx, _, h3, h4⟩ := DataW.trod_struct Tryz.underlying42 hf2
  simp only [Prod.mk.injEq] at hx
  rw [hx.1] at z
  simp only [Rows.uptoBulk] at z
  match hcs : cs.toList, hl with
  | [c0, c1], _ =>
    rw [hcs] at h4
    have e0 := h4 0 _ rfl
    have e1 := h4 1 _ rfl
    obtain ⟨y0, hy0⟩ : ∃ y, xs[0]? = some y := ⟨xs[0]'(by rw [h3]; decide), by simp⟩
    obtain ⟨y1, hy1⟩ : ∃ y, xs[1]? = some y := ⟨xs[1]'(by rw [h3]; decide), by simp⟩
    rw [hy0] at e0
    rw [hy1] at e1
    have hm0 := bulk_mem (xs.map (·.1)) y0.1 (List.mem_map.2 ⟨y0, List.mem_of_getElem? hy0, rfl⟩)
    have hm1 := bulk_mem (xs.map (·.1)) y1.1 (List.mem_map.2 ⟨y1, List.mem_of_getElem? hy1, rfl⟩)
    obtain ⟨v0, l0, g0, k0⟩ := classes_of e0 (by omega)
    obtain ⟨v1, l1, g1, k1⟩ := shapes_of e1 (by omega)
    simp [cells39, cells40] at g0 g1
    subst g0 g1
    refine ⟨⟨l0, l1⟩, c0, c1, ?_, k0, k1⟩
    rw [← Array.toArray_toList (xs := cs), hcs]

/-! ## A scheme of small bulk -/
instance : Inhabited PartX := ⟨([], .nilIface)⟩
instance : Inhabited ShpX := ⟨⟨[], .nilIface, 0⟩⟩
theorem spcs_at {w : World} {x : Addr} {l : List Sp} (h : ∀ i (hi : i < l.length), w.cell? (x.add (i * 2)) = some (.int .i64 l[i].1) ∧ w.cell? (x.add (i * 2 + 1)) = some (.int .i64 l[i].2)) :
    ∀ j u, (spcs l)[j]? = some u → w.cell? (x.add j) = some u := by
  intro j u hu
  have hj : j < (spcs l).length := by
    rcases Nat.lt_or_ge j (spcs l).length with h1 | h1
    · exact h1
    · rw [List.getElem?_eq_none h1] at hu; cases hu
  rw [spcs_length] at hj
  have hi : j / 2 < l.length := by omega
  obtain ⟨a0, a1⟩ := spcs_get l (j / 2) _ (List.getElem?_eq_getElem hi)
  obtain ⟨b0, b1⟩ := h (j / 2) hi
  have hc : j = j / 2 * 2 ∨ j = j / 2 * 2 + 1 := by omega
  rcases hc with e | e
  · rw [← e] at a0 b0; rw [b0, ← hu, a0]
  · rw [← e] at a1 b1; rw [b1, ← hu, a1]
theorem duos_at {α : Type} {f : α → Value × Value} {w : World} {x : Addr} {l : List α} (h : ∀ i (hi : i < l.length), w.cell? (x.add (i * 2)) = some (f l[i]).1 ∧ w.cell? (x.add (i * 2 + 1)) = some (f l[i]).2) :
    ∀ j u, (duos f l)[j]? = some u → w.cell? (x.add j) = some u := by
  intro j u hu
  have hj : j < (duos f l).length := by
    rcases Nat.lt_or_ge j (duos f l).length with h1 | h1
    · exact h1
    · rw [List.getElem?_eq_none h1] at hu; cases hu
  rw [duos_length] at hj
  have hi : j / 2 < l.length := by omega
  obtain ⟨a0, a1⟩ := duos_get f l (j / 2) _ (List.getElem?_eq_getElem hi)
  obtain ⟨b0, b1⟩ := h (j / 2) hi
  have hc : j = j / 2 * 2 ∨ j = j / 2 * 2 + 1 := by omega
  rcases hc with e | e
  · rw [← e] at a0 b0; rw [b0, ← hu, a0]
  · rw [← e] at a1 b1; rw [b1, ← hu, a1]
theorem cells61 : Tryz.prog.cellsOf 61 = 2 := by kernel_rfl
theorem cells62 : Tryz.prog.cellsOf 62 = 1 := by kernel_rfl
theorem cells34 : Tryz.prog.cellsOf 34 = 1 := by kernel_rfl
theorem cells37 : Tryz.prog.cellsOf 37 = 2 := by kernel_rfl
theorem cells23 : Tryz.prog.cellsOf 23 = 1 := by kernel_rfl
theorem cells25 : Tryz.prog.cellsOf 25 = 1 := by kernel_rfl

section
variable {H : Type} {enc : TypeId × Value → H} {W : World} {held : Bool} {fuel : Nat} {cs : List Value} {x : DataW H × List MemPlace}
set_option maxRecDepth 100000 in
theorem span_of (h : DataW.trod enc Tryz.prog W 0 (fun _ => true) held fuel 61 cs = some x) (hl : cs.length = 2) : ∃ y : Sp, cs = [.int .i64 y.1, .int .i64 y.2] := by
  obtain ⟨xs, n, _, hx, _, h3, h4⟩ := DataW.trod_struct Tryz.underlying61 h
  match cs, hl with
  | [c0, c1], _ =>
    have e0 := h4 0 _ rfl
    have e1 := h4 1 _ rfl
    obtain ⟨y0, hy0⟩ : ∃ y, xs[0]? = some y := ⟨xs[0]'(by rw [h3]; decide), by simp⟩
    obtain ⟨y1, hy1⟩ : ∃ y, xs[1]? = some y := ⟨xs[1]'(by rw [h3]; decide), by simp⟩
    rw [hy0] at e0
    rw [hy1] at e1
    obtain ⟨n0, g0, _, _⟩ := DataW.trod_int Tryz.underlying3 e0
    obtain ⟨n1, g1, _, _⟩ := DataW.trod_int Tryz.underlying3 e1
    simp [cells3] at g0 g1
    subst g0 g1
    exact ⟨(n0, n1), rfl⟩
set_option maxRecDepth 100000 in
theorem part_of (h : DataW.trod enc Tryz.prog W 0 (fun _ => true) held fuel 62 cs = some x) (z : Rows.uptoBulk x.1 ≤ 1048576) : ∃ v l, cs = [v] ∧ PartV W W.heap.size v l := by
  rcases Go.Deep.open_slice Tryz.underlying62 h with ⟨rfl, _⟩ | ⟨ad, len, cap, m, n, D, Pl, rfl, _, hl, hm, hmm, hx, hall⟩
  · exact ⟨_, [], rfl, none, 0, rfl, by simp, by simp, by simp, Reads.none_⟩
  · simp only [if_true] at hmm
    subst hmm
    rw [hx] at z
    simp only [Rows.uptoBulk] at z
    have hbl := bulk_len ((List.range len).map D)
    rw [List.length_map, List.length_range] at hbl
    rw [cells61] at hall
    have hex : ∀ i, i < len → ∃ o : Sp, W.cell? (ad.add (i * 2)) = some (.int .i64 o.1) ∧ W.cell? (ad.add (i * 2 + 1)) = some (.int .i64 o.2) := by
      intro i hi
      obtain ⟨cs', h1, h2⟩ := hall i (by omega)
      obtain ⟨_, h3, h4⟩ := World.cells?_some h1
      obtain ⟨o, rfl⟩ := span_of h2 h3
      have g0 := h4 0 (by omega)
      have g1 := h4 1 (by omega)
      rw [add_of_add] at g0 g1
      exact ⟨o, g0, g1⟩
    obtain ⟨l, hl1, hl2⟩ := list_of_get len _ hex
    have hat := spcs_at (w := W) (x := ad) (l := l) (fun i hi => hl2 i _ (List.getElem?_eq_getElem hi))
    refine ⟨_, l, rfl, some ad, _, by rw [hl1], by omega, by simpa [maxLen] using hm, by omega, ⟨spcs_length l, fun h0 => ⟨ad, rfl, ?_, hat⟩⟩⟩
    have := World.block_lt_of_cell? W _ (hl2 0 _ (List.getElem?_eq_getElem h0)).1
    rwa [block_of_add] at this
set_option maxRecDepth 100000 in
theorem parts_of (h : DataW.trod enc Tryz.prog W 0 (fun _ => true) held fuel 34 cs = some x) (z : Rows.uptoBulk x.1 ≤ 1048576) : ∃ v l, cs = [v] ∧ PartsV W W.heap.size v l := by
  rcases Go.Deep.open_slice Tryz.underlying34 h with ⟨rfl, _⟩ | ⟨ad, len, cap, m, n, D, Pl, rfl, _, hl, hm, hmm, hx, hall⟩
  · exact ⟨_, [], rfl, none, 0, rfl, by simp, by simp, by simp, Reads.none_, by simp⟩
  · simp only [if_true] at hmm
    subst hmm
    rw [hx] at z
    simp only [Rows.uptoBulk] at z
    have hbl := bulk_len ((List.range len).map D)
    rw [List.length_map, List.length_range] at hbl
    rw [cells62] at hall
    have hex : ∀ i, i < len → ∃ o : PartX, W.cell? (ad.add i) = some o.2 ∧ PartV W W.heap.size o.2 o.1 := by
      intro i hi
      obtain ⟨cs', h1, h2⟩ := hall i (by omega)
      obtain ⟨_, h3, h4⟩ := World.cells?_some h1
      have hD := bulk_mem ((List.range len).map D) (D i) (List.mem_map.2 ⟨i, List.mem_range.2 hi, rfl⟩)
      obtain ⟨v, o, rfl, ho⟩ := part_of h2 (by show Rows.uptoBulk (D i) ≤ _; omega)
      have g0 := h4 0 (by omega)
      rw [add_of_add, Nat.mul_one, Nat.add_zero] at g0
      exact ⟨(o, v), g0, ho⟩
    obtain ⟨l, hl1, hl2⟩ := list_of_get len _ hex
    refine ⟨_, l, rfl, some ad, _, by rw [hl1], by omega, by simpa [maxLen] using hm, by omega, ⟨by simp, fun h0 => ⟨ad, rfl, ?_, fun j u hu => ?_⟩⟩, fun y hy => ?_⟩
    · have := World.block_lt_of_cell? W _ (hl2 0 _ (List.getElem?_eq_getElem h0)).1
      rwa [block_of_add] at this
    · rw [List.getElem?_map] at hu
      cases hj : l[j]? with
      | none => rw [hj] at hu; cases hu
      | some y => rw [hj] at hu; cases hu; exact (hl2 j _ hj).1
    · obtain ⟨j, hj, rfl⟩ := List.getElem_of_mem hy
      exact (hl2 j _ (List.getElem?_eq_getElem hj)).2
set_option maxRecDepth 100000 in
theorem shp_of (h : DataW.trod enc Tryz.prog W 0 (fun _ => true) held fuel 37 cs = some x) (hl : cs.length = 2) (z : Rows.uptoBulk x.1 ≤ 1048576) : ∃ y : ShpX, cs = [(shduo y).1, (shduo y).2] ∧ PartsV W W.heap.size y.v y.ps ∧ -9223372036854775808 ≤ y.first ∧ y.first ≤ 9223372036854775807 := by
  obtain ⟨xs, n, _, hx, _, h3, h4⟩ := DataW.trod_struct Tryz.underlying37 h
  match cs, hl with
  | [c0, c1], _ =>
    have e0 := h4 0 _ rfl
    have e1 := h4 1 _ rfl
    obtain ⟨y0, hy0⟩ : ∃ y, xs[0]? = some y := ⟨xs[0]'(by rw [h3]; decide), by simp⟩
    obtain ⟨y1, hy1⟩ : ∃ y, xs[1]? = some y := ⟨xs[1]'(by rw [h3]; decide), by simp⟩
    rw [hy0] at e0
    rw [hy1] at e1
    rw [hx] at z
    simp only [Rows.uptoBulk] at z
    have hm0 := bulk_mem (xs.map (·.1)) y0.1 (List.mem_map.2 ⟨y0, List.mem_of_getElem? hy0, rfl⟩)
    obtain ⟨v, l, g0, hit⟩ := parts_of e0 (by omega)
    obtain ⟨n1, g1, _, w1⟩ := DataW.trod_int Tryz.underlying3 e1
    simp [cells3, cells34] at g0 g1
    subst g0 g1
    have hw : -9223372036854775808 ≤ n1 ∧ n1 ≤ 9223372036854775807 := by simpa [Lit.wf, IntKind.min, IntKind.max, IntKind.signed, IntKind.bits] using w1
    exact ⟨⟨l, c0, n1⟩, rfl, hit, hw.1, hw.2⟩
set_option maxRecDepth 100000 in
theorem shps_of (h : DataW.trod enc Tryz.prog W 0 (fun _ => true) held fuel 23 cs = some x) (z : Rows.uptoBulk x.1 ≤ 1048576) : ∃ v l, cs = [v] ∧ ShpsV W W.heap.size v l := by
  rcases Go.Deep.open_slice Tryz.underlying23 h with ⟨rfl, _⟩ | ⟨ad, len, cap, m, n, D, Pl, rfl, _, hl, hm, hmm, hx, hall⟩
  · exact ⟨_, [], rfl, none, 0, rfl, by simp, by simp, by simp, Reads.none_, by simp⟩
  · simp only [if_true] at hmm
    subst hmm
    rw [hx] at z
    simp only [Rows.uptoBulk] at z
    have hbl := bulk_len ((List.range len).map D)
    rw [List.length_map, List.length_range] at hbl
    rw [cells37] at hall
    have hex : ∀ i, i < len → ∃ o : ShpX, (W.cell? (ad.add (i * 2)) = some (shduo o).1 ∧ W.cell? (ad.add (i * 2 + 1)) = some (shduo o).2) ∧ PartsV W W.heap.size o.v o.ps ∧ -9223372036854775808 ≤ o.first ∧ o.first ≤ 9223372036854775807 := by
      intro i hi
      obtain ⟨cs', h1, h2⟩ := hall i (by omega)
      obtain ⟨_, h3, h4⟩ := World.cells?_some h1
      have hD := bulk_mem ((List.range len).map D) (D i) (List.mem_map.2 ⟨i, List.mem_range.2 hi, rfl⟩)
      obtain ⟨o, rfl, ho⟩ := shp_of h2 h3 (by show Rows.uptoBulk (D i) ≤ _; omega)
      have g0 := h4 0 (by omega)
      have g1 := h4 1 (by omega)
      rw [add_of_add] at g0 g1
      exact ⟨o, ⟨g0, g1⟩, ho⟩
    obtain ⟨l, hl1, hl2⟩ := list_of_get len _ hex
    have hat := duos_at (f := shduo) (w := W) (x := ad) (l := l) (fun i hi => (hl2 i _ (List.getElem?_eq_getElem hi)).1)
    refine ⟨_, l, rfl, some ad, _, by rw [hl1], by omega, by simpa [maxLen] using hm, by omega, ⟨duos_length _ l, fun h0 => ⟨ad, rfl, ?_, hat⟩⟩, fun y hy => ?_⟩
    · have := World.block_lt_of_cell? W _ (hl2 0 _ (List.getElem?_eq_getElem h0)).1.1
      rwa [block_of_add] at this
    · obtain ⟨j, hj, rfl⟩ := List.getElem_of_mem hy
      exact (hl2 j _ (List.getElem?_eq_getElem hj)).2
end
set_option maxRecDepth 100000 in
/-- A scheme of small bulk. -/
theorem open_scheme {H : Type} {enc : TypeId × Value → H} {W : World} {base : Nat} {v : Value} {d : DataW H} {p : List MemPlace} (hv : Value.okWide Tryz.prog W .any base 25 v) (h : DataW.Trod enc Tryz.prog W 0 (fun _ => true) true 25 v d p) (z : Rows.uptoBulk d ≤ 1048576) : ∃ vo ss, v = .agg #[vo] ∧ ShpsV W W.heap.size vo ss := by
  obtain ⟨cs, rfl, hsz⟩ := okWide_struct Tryz.underlying25 hv
  obtain ⟨fuel, hf⟩ := h
  have hl : cs.toList.length = 1 := by simpa using hsz.trans cells25
  have hf2 : DataW.trod enc Tryz.prog W 0 (fun _ => true) true fuel 25 cs.toList = some (d, p) := by simpa [Value.cells] using hf
  obtain ⟨xs, n, _, hx, _, h3, h4⟩ := DataW.trod_struct Tryz.underlying25 hf2
  simp only [Prod.mk.injEq] at hx
  rw [hx.1] at z
  simp only [Rows.uptoBulk] at z
  match hcs : cs.toList, hl with
  | [c0], _ =>
    rw [hcs] at h4
    have e0 := h4 0 _ rfl
    obtain ⟨y0, hy0⟩ : ∃ y, xs[0]? = some y := ⟨xs[0]'(by rw [h3]; decide), by simp⟩
    rw [hy0] at e0
    have hm0 := bulk_mem (xs.map (·.1)) y0.1 (List.mem_map.2 ⟨y0, List.mem_of_getElem? hy0, rfl⟩)
    obtain ⟨v0, l0, g0, k0⟩ := shps_of e0 (by omega)
    simp [cells23] at g0
    subst g0
    exact ⟨c0, l0, by rw [← Array.toArray_toList (xs := cs), hcs], k0⟩
end Go.Proofs.YtobofhiakgohfaaGreatDoor
