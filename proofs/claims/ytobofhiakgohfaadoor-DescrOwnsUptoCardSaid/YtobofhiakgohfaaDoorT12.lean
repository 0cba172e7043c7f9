/- Lists of tokens; the reference's Same. -/
import Derived.Test.YtobofhiakgohfaaDoorMM
import Derived.Test.YtobofhiakgohfaaDoorShelf
import Derived.Test.YtobofhiakgohfaaDoorPA
set_option linter.unusedVariables false
set_option linter.unusedSimpArgs false
namespace Go.Proofs.YtobofhiakgohfaaDoor
open Go.RowKit

theorem add_one (a : Addr) : a.add 1 = ⟨a.block, a.off + 1, none⟩ := rfl
theorem add_two (a : Addr) : a.add 2 = ⟨a.block, a.off + 2, none⟩ := rfl

/-- A token as a value: kind, text, place. -/
abbrev TV := Int × ByteArray × Int
def tcell (t : TV) : List Value := [.int .i64 t.1, .string t.2.1, .int .i64 t.2.2]
def tcells (l : List TV) : List Value := l.flatMap tcell
def tagg (t : TV) : Value := .agg #[.int .i64 t.1, .string t.2.1, .int .i64 t.2.2]
theorem tcells_length (l : List TV) : (tcells l).length = l.length * 3 := by
  induction l with
  | nil => rfl
  | cons a t ih => simp only [tcells, List.flatMap_cons, List.length_append, List.length_cons] at ih ⊢; rw [ih]; simp [tcell]; omega
theorem tcells_append (a b : List TV) : tcells (a ++ b) = tcells a ++ tcells b := by simp [tcells]
theorem tcells_get : ∀ (l : List TV) (j : Nat) (t : TV), l[j]? = some t → (tcells l)[j * 3]? = some (.int .i64 t.1) ∧ (tcells l)[j * 3 + 1]? = some (.string t.2.1) ∧ (tcells l)[j * 3 + 2]? = some (.int .i64 t.2.2)
  | [], j, t, h => by simp at h
  | a :: r, 0, t, h => by simp at h; subst h; exact ⟨rfl, rfl, rfl⟩
  | a :: r, j + 1, t, h => by
    have ih := tcells_get r j t (by simpa using h)
    have e : ∀ i, (tcells (a :: r))[i + 3]? = (tcells r)[i]? := fun i => by
      show (tcell a ++ tcells r)[i + 3]? = _
      rw [List.getElem?_append_right (by simp [tcell])]
      simp [tcell]
    rw [show (j + 1) * 3 = j * 3 + 3 by omega, show j * 3 + 3 + 1 = (j * 3 + 1) + 3 by omega, show j * 3 + 3 + 2 = (j * 3 + 2) + 3 by omega, e, e, e]
    exact ih
theorem tcells_one (l : List TV) : ∀ u ∈ tcells l, u.oneCell' = true := by
  intro u hu
  simp only [tcells, List.mem_flatMap, tcell] at hu
  obtain ⟨t, _, h⟩ := hu
  simp at h
  rcases h with rfl | rfl | rfl <;> rfl

theorem Reads.tok {w : World} {B : Nat} {A : Option Addr} {l : List TV} (h : Reads w B 3 A l.length (tcells l)) {j : Nat} (hj : j < l.length) :
    ∃ ad, A = some ad ∧ ad.block < B ∧ w.cell? (ad.add (j * 3)) = some (.int .i64 l[j].1) ∧ w.cell? ⟨(ad.add (j * 3)).block, (ad.add (j * 3)).off + 1, none⟩ = some (.string l[j].2.1) ∧ w.cell? ⟨(ad.add (j * 3)).block, (ad.add (j * 3)).off + 2, none⟩ = some (.int .i64 l[j].2.2) := by
  obtain ⟨ad, e, hb, hc⟩ := h.2 (by omega)
  obtain ⟨h0, h1, h2⟩ := tcells_get l j _ (List.getElem?_eq_getElem hj)
  refine ⟨ad, e, hb, hc _ _ h0, ?_, ?_⟩
  · have := hc _ _ h1
    rw [← add_of_add, add_one] at this
    exact this
  · have := hc _ _ h2
    rw [← add_of_add, add_two] at this
    exact this

set_option maxRecDepth 100000 in
set_option maxHeartbeats 2000000 in
theorem same_eq (A A' : Option Addr) (cA cA' : Nat) (l : List TV) (w : World) (hl : l.length ≤ 140737488355328) (ha : Reads w w.heap.size 3 A l.length (tcells l)) (hb : Reads w w.heap.size 3 A' l.length (tcells l)) :
    Calls Tryd.prog 53 #[.slice A l.length cA, .slice A' l.length cA'] w fun e w' => e = .returned (.bool true) ∧ K0 w w' := by
  go_enter Tryd.func53, Tryd.ntmps53
  go_wp2
  go_loopw [5] (fun i wr => ∃ q : Nat, q ≤ l.length ∧ i = .int .i64 (q : Int) ∧ Below w.heap.size w wr)
    (fun i wr => l.length - (intOf i).toNat)
  case atStart => exact ⟨0, by omega, rfl, Below.refl _ _⟩
  case round =>
    obtain ⟨q, hq, rfl, hk⟩ := hrel
    by_cases hlt : q < l.length
    · obtain ⟨ad, rfl, hbl, x0, x1, x2⟩ := (ha.below hk).tok hlt
      obtain ⟨ad', rfl, hbl', y0, y1, y2⟩ := (hb.below hk).tok hlt
      generalize l[q] = t at x0 x1 x2 y0 y1 y2
      obtain ⟨k, tx, p⟩ := t
      simp only [] at x0 x1 x2 y0 y1 y2
      go_wp2
      go_quiet (fail)
      go_wp2
      exact ⟨⟨q + 1, by omega, by go_num, ((Kp.of_below hk).drewN _).below⟩, by simp [intOf]; omega⟩
    · obtain rfl : q = l.length := by omega
      go_wp2
      go_ret
      exact ⟨rfl, Kp.of_below hk⟩
end Go.Proofs.YtobofhiakgohfaaDoor
