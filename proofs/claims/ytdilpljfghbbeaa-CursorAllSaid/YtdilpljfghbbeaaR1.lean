/- Arguments opened: an op, a slice of ops, a slice of whole numbers. -/
import Derived.Test.YtdilpljfghbbeaaR0
import Derived.Lib.SmallJoins
set_option linter.unusedVariables false
set_option linter.unusedSimpArgs false
namespace Go.Proofs.Ytdilpljfghbbeaa
open Go.ChangeShapes Go.WideShapes Go.ChangeAt Go.RowKit

theorem cells47 : Try.prog.cellsOf 47 = 3 := by kernel_rfl
theorem bytes47 : Try.prog.bytesOf 47 = 24 := by kernel_rfl
theorem bytes3 : Try.prog.bytesOf 3 = 8 := by kernel_rfl

/-- An op's cells. -/
abbrev opCells (o : Int × Int × UInt8) : List Value := [.int .i64 o.1, .int .i64 o.2.1, .int .u8 (o.2.2.toNat : Int)]

theorem op_of {H : Type} {enc : TypeId × Value → H} {W : World} {base fuel : Nat} {sp : Nat → Bool} {held : Bool} {cs : List Value} {x : DataW H × List MemPlace} (h : DataW.trod enc Try.prog W base sp held fuel 47 cs = some x) (hl : cs.length = 3) : ∃ o, cs = opCells o := by
  obtain ⟨xs, n, _, _, _, h3, h4⟩ := DataW.trod_struct Try.underlying47 h
  match cs, hl with
  | [c0, c1, c2], _ =>
    have e0 := h4 0 _ rfl
    have e1 := h4 1 _ rfl
    have e2 := h4 2 _ rfl
    obtain ⟨y0, hy0⟩ : ∃ y, xs[0]? = some y := ⟨xs[0]'(by rw [h3]; decide), by simp⟩
    obtain ⟨y1, hy1⟩ : ∃ y, xs[1]? = some y := ⟨xs[1]'(by rw [h3]; decide), by simp⟩
    obtain ⟨y2, hy2⟩ : ∃ y, xs[2]? = some y := ⟨xs[2]'(by rw [h3]; decide), by simp⟩
    rw [hy0] at e0
    rw [hy1] at e1
    rw [hy2] at e2
    obtain ⟨n0, g0, _, _⟩ := DataW.trod_int Try.underlying3 e0
    obtain ⟨n1, g1, _, _⟩ := DataW.trod_int Try.underlying3 e1
    obtain ⟨n2, g2, _, w2⟩ := DataW.trod_int Try.underlying5 e2
    have c3 : Try.prog.cellsOf 3 = 1 := by kernel_rfl
    have c5 : Try.prog.cellsOf 5 = 1 := by kernel_rfl
    simp [c3, c5] at g0 g1 g2
    subst g0 g1 g2
    obtain ⟨b, rfl⟩ := u8_of w2
    exact ⟨(n0, n1, b), rfl⟩

theorem open_op {H : Type} {enc : TypeId × Value → H} {W : World} {base : Nat} {v : Value} {d : DataW H} {p : List MemPlace} (hv : Value.okWide Try.prog W .any base 47 v) (h : DataW.Trod enc Try.prog W 0 (fun _ => true) true 47 v d p) : ∃ o, v = .agg (opCells o).toArray := by
  obtain ⟨cs, rfl, hsz⟩ := okWide_struct Try.underlying47 hv
  obtain ⟨fuel, hf⟩ := h
  obtain ⟨o, ho⟩ := op_of hf (by simpa [Value.cells] using hsz.trans cells47)
  refine ⟨o, ?_⟩
  rw [← ho]
  simp [Value.cells]

/-- The value is a slice of ops. -/
def OpsV (w : World) (B : Nat) (v : Value) (os : List (Int × Int × UInt8)) : Prop :=
  ∃ A c, v = .slice A os.length c ∧ os.length ≤ c ∧ os.length ≤ 140737488355328 ∧ ∀ j o, os[j]? = some o → ∃ ad, A = some ad ∧ ad.block < B ∧ w.cell? (ad.add (j * 3)) = some (.int .i64 o.1) ∧ w.cell? ((ad.add (j * 3)).add 1) = some (.int .i64 o.2.1) ∧ w.cell? ((ad.add (j * 3)).add 2) = some (.int .u8 (o.2.2.toNat : Int))

theorem list_of_get {α : Type} [Inhabited α] : ∀ (n : Nat) (p : Nat → α → Prop), (∀ i, i < n → ∃ x, p i x) → ∃ l : List α, l.length = n ∧ ∀ i x, l[i]? = some x → p i x := by
  intro n p h
  obtain ⟨f, hf⟩ := Go.Deep.choose_lt h
  refine ⟨(List.range n).map f, by simp, fun i x hx => ?_⟩
  have hi : i < n := by
    rcases Nat.lt_or_ge i n with h1 | h1
    · exact h1
    · rw [List.getElem?_eq_none (by simpa using h1)] at hx; cases hx
  rw [List.getElem?_map, List.getElem?_range hi] at hx
  cases hx
  exact hf i hi

theorem open_ops {H : Type} {enc : TypeId × Value → H} {W : World} {base : Nat} {v : Value} {d : DataW H} {p : List MemPlace} (hv : Value.okWide Try.prog W .any base 42 v) (h : DataW.Trod enc Try.prog W 0 (fun _ => true) true 42 v d p)
    (hs : ∀ es ss, d = .slice es ss → (es.length + ss.length) * Try.prog.bytesOf 47 ≤ reachBytes) : ∃ os, OpsV W W.heap.size v os := by
  obtain ⟨a, len, cap, rfl⟩ := okWide_slice Try.underlying42 hv
  obtain ⟨fuel, hf⟩ := h
  rcases Go.Deep.open_slice Try.underlying42 hf with ⟨hcs, _⟩ | ⟨x, l, c, m, n, D, Pl, hcs, _, hl, hm, hmm, hx, hall⟩
  · simp [Value.cells] at hcs
    obtain ⟨rfl, rfl, rfl⟩ := hcs
    exact ⟨[], none, 0, rfl, by simp, by simp, by simp⟩
  · simp [Value.cells] at hcs
    obtain ⟨rfl, rfl, rfl⟩ := hcs
    simp only [if_true] at hmm
    subst hmm
    simp only [Prod.mk.injEq] at hx
    have hb := hs _ _ hx.1
    simp only [List.length_map, List.length_range, reachBytes, bytes47] at hb
    rw [cells47] at hall
    have hex : ∀ i, i < len → ∃ o : Int × Int × UInt8, W.cell? (x.add (i * 3)) = some (.int .i64 o.1) ∧ W.cell? ((x.add (i * 3)).add 1) = some (.int .i64 o.2.1) ∧ W.cell? ((x.add (i * 3)).add 2) = some (.int .u8 (o.2.2.toNat : Int)) := by
      intro i hi
      obtain ⟨cs', h1, h2⟩ := hall i (by omega)
      obtain ⟨_, h3, h4⟩ := World.cells?_some h1
      obtain ⟨o, rfl⟩ := op_of h2 h3
      have g0 := h4 0 (by omega)
      have g1 := h4 1 (by omega)
      have g2 := h4 2 (by omega)
      exact ⟨o, by simpa [Addr.add] using g0, g1, g2⟩
    obtain ⟨os, ho1, ho2⟩ := list_of_get len _ hex
    refine ⟨os, some x, _, by rw [ho1], by omega, by omega, fun j o hj => ⟨x, rfl, ?_, ho2 j o hj⟩⟩
    have := World.block_lt_of_cell? W _ (ho2 j o hj).1
    rwa [block_of_add] at this

/-- The value is a slice of whole numbers. -/
def IntsV (w : World) (B : Nat) (v : Value) (xs : List Int) : Prop :=
  ∃ A c, v = .slice A xs.length c ∧ xs.length ≤ c ∧ xs.length ≤ 140737488355328 ∧ ∀ j x, xs[j]? = some x → ∃ ad, A = some ad ∧ ad.block < B ∧ w.cell? (ad.add j) = some (.int .i64 x)

theorem open_ints64 {H : Type} {enc : TypeId × Value → H} {W : World} {base : Nat} {v : Value} {d : DataW H} {p : List MemPlace} (hv : Value.okWide Try.prog W .any base 36 v) (h : DataW.Trod enc Try.prog W 0 (fun _ => true) true 36 v d p)
    (hs : ∀ es ss, d = .slice es ss → (es.length + ss.length) * Try.prog.bytesOf 3 ≤ reachBytes) : ∃ xs, IntsV W W.heap.size v xs := by
  obtain ⟨a, len, cap, rfl⟩ := okWide_slice Try.underlying36 hv
  obtain ⟨fuel, hf⟩ := h
  rcases open_ints Try.underlying36 Try.underlying3 (by kernel_rfl) hf with ⟨hcs, _⟩ | ⟨x, l, c, zs, hcs, _, hl, hm, hz, hx, hcell, hwz⟩
  · simp [Value.cells] at hcs
    obtain ⟨rfl, rfl, rfl⟩ := hcs
    exact ⟨[], none, 0, rfl, by simp, by simp, by simp⟩
  · simp [Value.cells] at hcs
    obtain ⟨rfl, rfl, rfl⟩ := hcs
    simp only [if_true] at hz
    simp only [Prod.mk.injEq] at hx
    have hb := hs _ _ hx.1
    simp only [lits, List.length_map, List.length_take, List.length_drop, reachBytes, bytes3] at hb
    refine ⟨zs.take len, some x, cap, by rw [List.length_take, Nat.min_eq_left (by omega)], by rw [List.length_take]; omega, by rw [List.length_take]; omega, fun j u hu => ?_⟩
    rw [List.getElem?_take] at hu
    split at hu
    · rename_i hj
      have hj2 : j < zs.length := by omega
      rw [List.getElem?_eq_getElem hj2] at hu
      cases hu
      have hc := hcell j hj2
      refine ⟨x, rfl, ?_, by rw [hc]; simp [List.getD_eq_getElem?_getD, List.getElem?_eq_getElem hj2]⟩
      have := World.block_lt_of_cell? W _ hc
      rwa [block_of_add] at this
    · cases hu
end Go.Proofs.Ytdilpljfghbbeaa
