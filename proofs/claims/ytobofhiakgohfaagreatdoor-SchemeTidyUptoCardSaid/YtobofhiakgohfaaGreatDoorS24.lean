/- A class's items turned round in their memory. -/
import Derived.Test.YtobofhiakgohfaaGreatDoorP25
import Derived.Test.YtobofhiakgohfaaGreatDoorP26
import Derived.Test.YtobofhiakgohfaaGreatDoorS22
import Derived.Test.YtobofhiakgohfaaGreatDoorZW
set_option linter.unusedVariables false
set_option linter.unusedSimpArgs false
namespace Go.Proofs.YtobofhiakgohfaaGreatDoor
open Go.RowKit

theorem tris_same {α : Type} {f : α → Value × Value × Value} (l : List α) {q : Nat} (hq : q < l.length) {y : α} (h : f y = f l[q]) : tris f (l.set q y) = tris f l := by
  induction l generalizing q with
  | nil => simp at hq
  | cons a t ih =>
    cases q with
    | zero => simp only [List.getElem_cons_zero] at h; simp [tris, h]
    | succ k =>
      have := ih (q := k) (by simpa using hq) (by simpa using h)
      simp only [tris, List.set_cons_succ, List.flatMap_cons] at this ⊢
      rw [this]
theorem map_same {α β : Type} {f : α → β} (l : List α) {q : Nat} (hq : q < l.length) {y : α} (h : f y = f l[q]) : (l.set q y).map f = l.map f := by
  rw [List.map_set, h, ← List.getElem_map f (h := by simpa using hq), List.set_getElem_self]
/-- One class's items changed in their own row. -/
theorem PD.turn {w w' : World} {base : Nat} {vc vs : Value} {P : List (ClassD × Value)} {ps : List (ShapeD × Value)} (h : PD w base vc vs P ps) {q : Nat} (hq : q < P.length) {its : List ItemD}
    (hk : Kp (fun k => P[q].2.ownBlock = some k) w w') (hr : OItemsV w' base P[q].2 its) : PD w' base vc vs (P.set q (⟨P[q].1.nm, its, P[q].1.pl⟩, P[q].2)) ps := by
  have hown := (h.ci _ (List.getElem_mem hq)).1.1
  have hpw := List.pairwise_iff_getElem.1 h.ap
  have far : ∀ k (hk2 : k < P.length), k ≠ q → ∀ g, P[k].2.ownBlock = some g → ¬ P[q].2.ownBlock = some g := by
    intro k hk2 hne g hg hS
    rcases Nat.lt_or_gt_of_ne hne with h1 | h1
    · have := hpw k q (by simp; omega) (by simp; omega) h1
      rw [List.getElem_append_left (by simpa using hk2), List.getElem_append_left (by simpa using hq)] at this
      simp only [List.getElem_map] at this
      exact this g hg hS
    · have := hpw q k (by simp; omega) (by simp; omega) h1
      rw [List.getElem_append_left (by simpa using hq), List.getElem_append_left (by simpa using hk2)] at this
      simp only [List.getElem_map] at this
      exact this g hS hg
  refine ⟨?_, ?_, fun x hx => ?_, fun x hx => ?_, ?_⟩
  · rw [List.length_set, tris_same (y := (⟨P[q].1.nm, its, P[q].1.pl⟩, P[q].2)) P hq rfl]
    exact own_kt h.oc hk (fun g cs hb hS => own_blk_ne hown hb (by decide) hS)
  · exact own_kt h.os hk (fun g cs hb hS => own_blk_ne hown hb (by decide) hS)
  · obtain ⟨k, hk2, rfl⟩ := List.getElem_of_mem hx
    rw [List.length_set] at hk2
    rw [List.getElem_set]
    split
    · exact ⟨hr, (h.ci _ (List.getElem_mem hq)).2⟩
    · rename_i hne
      obtain ⟨⟨o1, o2, o3⟩, o4⟩ := h.ci _ (List.getElem_mem hk2)
      exact ⟨⟨own_far o1 hk (fun g hg => far k hk2 (Ne.symm hne) g hg), o2, o3⟩, o4⟩
  · obtain ⟨k, hk2, rfl⟩ := List.getElem_of_mem hx
    obtain ⟨⟨o1, o2, o3⟩, o4⟩ := h.si _ (List.getElem_mem hk2)
    refine ⟨⟨own_far o1 hk (fun g hg hS => ?_), o2, o3⟩, o4⟩
    have := hpw q (P.length + k) (by simp; omega) (by simp; omega) (by omega)
    rw [List.getElem_append_left (by simpa using hq), List.getElem_append_right (by simp)] at this
    simp only [List.getElem_map, List.length_map, Nat.add_sub_cancel_left] at this
    exact this g hS hg
  · rw [map_same (f := fun x : ClassD × Value => x.2.ownBlock) (y := (⟨P[q].1.nm, its, P[q].1.pl⟩, P[q].2)) P hq rfl]
    exact h.ap

/-- Like meanings: the same scheme, the same code. -/
theorem schR_like {a b : DescD} (h : codeE (buildR a) = codeE (buildR b)) : (schR a).1 = (schR b).1 ∧ (schR a).2.2 = (schR b).2.2 := by
  unfold schR
  rcases codeE_eq h with ⟨p, q, e, h1, h2⟩ | ⟨v, h1, h2⟩ <;> rw [h1, h2] <;> exact ⟨rfl, rfl⟩
theorem readS_print {d : DescD} (h : fitD d = true) : (readS ⟨(txtID d).toArray⟩).1 = (schR d).1 ∧ (readS ⟨(txtID d).toArray⟩).2.2 = (schR d).2.2 := by
  obtain ⟨d', h1, h2⟩ := parse_print h
  have h3 : parseR ⟨(txtID d).toArray⟩ = .ok d' := by rw [parseR_eq]; exact h1
  unfold readS
  rw [h3]
  exact schR_like (build_er h2)
def revP (x : ClassD × Value) : ClassD × Value := (revC x.1, x.2)
end Go.Proofs.YtobofhiakgohfaaGreatDoor
