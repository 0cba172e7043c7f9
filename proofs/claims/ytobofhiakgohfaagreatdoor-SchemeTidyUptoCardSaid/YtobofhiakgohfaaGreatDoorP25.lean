/- A list turned round by swaps. -/
import Derived.Test.YtobofhiakgohfaaGreatDoorZG
set_option linter.unusedVariables false
set_option linter.unusedSimpArgs false
namespace Go.Proofs.YtobofhiakgohfaaGreatDoor

/-- The list after i swaps, from both ends. -/
def turnAt {α : Type} (l : List α) (i : Nat) : List α := l.mapIdx fun k x => if k < i ∨ l.length ≤ k + i then l.reverse.getD k x else x
theorem turn_len {α : Type} (l : List α) (i : Nat) : (turnAt l i).length = l.length := by simp [turnAt]
theorem turn_get {α : Type} (l : List α) (i : Nat) {k : Nat} (hk : k < l.length) : (turnAt l i)[k]? = if k < i ∨ l.length ≤ k + i then l[l.length - 1 - k]? else l[k]? := by
  unfold turnAt
  rw [List.getElem?_mapIdx, List.getElem?_eq_getElem hk]
  simp only [Option.map_some]
  split
  · rw [List.getElem?_eq_getElem (by omega)]
    simp [List.getD_eq_getElem?_getD, List.getElem?_reverse hk, List.getElem?_eq_getElem (show l.length - 1 - k < l.length by omega)]
  · rfl
theorem turn_zero {α : Type} (l : List α) : turnAt l 0 = l := by
  refine List.ext_getElem? fun k => ?_
  rcases Nat.lt_or_ge k l.length with hk | hk
  · rw [turn_get l 0 hk, if_neg (by omega)]
  · rw [List.getElem?_eq_none (by rw [turn_len]; exact hk), List.getElem?_eq_none hk]
theorem turn_end {α : Type} (l : List α) {i : Nat} (h : l.length ≤ 2 * i + 1) : turnAt l i = l.reverse := by
  refine List.ext_getElem? fun k => ?_
  rcases Nat.lt_or_ge k l.length with hk | hk
  · rw [turn_get l i hk, List.getElem?_reverse hk]
    split
    · rfl
    · rename_i hn
      congr 1
      omega
  · rw [List.getElem?_eq_none (by rw [turn_len]; exact hk), List.getElem?_eq_none (by simpa using hk)]
theorem turn_mid {α : Type} (l : List α) {i j : Nat} (hij : i + j + 1 = l.length) (h : i < j) : (turnAt l i)[i]? = l[i]? ∧ (turnAt l i)[j]? = l[j]? := by
  rw [turn_get l i (by omega), turn_get l i (by omega), if_neg (by omega), if_neg (by omega)]
  exact ⟨rfl, rfl⟩
theorem turn_step {α : Type} (l : List α) {i j : Nat} (hij : i + j + 1 = l.length) (h : i < j) {x y : α} (hx : l[i]? = some x) (hy : l[j]? = some y) : ((turnAt l i).set i y).set j x = turnAt l (i + 1) := by
  refine List.ext_getElem? fun k => ?_
  rcases Nat.lt_or_ge k l.length with hk | hk
  · rw [turn_get l (i + 1) hk, List.getElem?_set, List.getElem?_set]
    simp only [List.length_set, turn_len]
    by_cases h1 : j = k
    · subst h1
      rw [if_pos rfl, if_pos hk, if_pos (by omega), show l.length - 1 - j = i by omega, hx]
    · rw [if_neg h1]
      by_cases h2 : i = k
      · subst h2
        rw [if_pos rfl, if_pos hk, if_pos (by omega), show l.length - 1 - i = j by omega, hy]
      · rw [if_neg h2, turn_get l i hk]
        by_cases h3 : k < i ∨ l.length ≤ k + i
        · rw [if_pos h3, if_pos (by omega)]
        · rw [if_neg h3, if_neg (by omega)]
  · rw [List.getElem?_eq_none (by simpa [turn_len] using hk), List.getElem?_eq_none (by rw [turn_len]; exact hk)]
theorem turn_perm_all {α : Type} (l : List α) (i : Nat) {p : α → Prop} (h : ∀ x ∈ l, p x) : ∀ x ∈ turnAt l i, p x := by
  intro x hx
  obtain ⟨k, hk, rfl⟩ := List.getElem_of_mem hx
  rw [turn_len] at hk
  have := turn_get l i hk
  rw [List.getElem?_eq_getElem (by rw [turn_len]; exact hk)] at this
  split at this
  · exact h _ (List.mem_of_getElem? this.symm)
  · exact h _ (List.mem_of_getElem? this.symm)
/-- A swap's eight cells. -/
theorem icells_set (l : List ItemD) {i : Nat} (hi : i < l.length) (x : ItemD) : ((((icells l).set (i * 4) (.string x.nm)).set (i * 4 + 1) (.int .i64 x.lo)).set (i * 4 + 2) (.int .i64 x.hi)).set (i * 4 + 3) (.int .i64 x.pl) = icells (l.set i x) := by
  induction l generalizing i with
  | nil => simp at hi
  | cons a t ih =>
    have e : ∀ l : List ItemD, ∀ a, icells (a :: l) = icell a ++ icells l := fun l a => by simp [icells]
    cases i with
    | zero => rw [List.set_cons_zero, e, e]; simp [icell]
    | succ k =>
      rw [List.set_cons_succ, e, e, ← ih (by simpa using hi)]
      simp [icell, Nat.succ_mul]
end Go.Proofs.YtobofhiakgohfaaGreatDoor
