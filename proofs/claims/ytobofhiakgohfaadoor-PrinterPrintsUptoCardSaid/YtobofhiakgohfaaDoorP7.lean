/- Items: the plain law. -/
import Derived.Test.YtobofhiakgohfaaDoorP6
namespace Go.Proofs.YtobofhiakgohfaaDoor

theorem hexv45 : hexv 45 = -1 := by decide
theorem pairV_l (y : UInt8) : pairV 45 y = -1 := by unfold pairV; rw [hexv45]; simp
theorem pairV_r (x : UInt8) : pairV x 45 = -1 := by unfold pairV; rw [hexv45]; simp

theorem item_none (l : List UInt8) (h : (45 : UInt8) ∉ l) : ¬ (l.length = 5 ∧ 0 ≤ pairI l 0 ∧ l[2]?.getD 0 = 45 ∧ pairI l 0 ≤ pairI l 3) := by
  rintro ⟨h5, _, h2, _⟩
  rw [List.getElem?_eq_getElem (by omega)] at h2
  have : l[2]'(by omega) = 45 := h2
  exact h (this ▸ List.getElem_mem _)

theorem item_cut (l a b : List UInt8) (h : l = a ++ 45 :: b) (ha : (45 : UInt8) ∉ a) :
    (¬ (l.length = 2 ∧ 0 ≤ pairI l 0)) ∧ ((l.length = 5 ∧ 0 ≤ pairI l 0 ∧ l[2]?.getD 0 = 45 ∧ pairI l 0 ≤ pairI l 3) ↔ (a.length = 2 ∧ 0 ≤ pairI a 0 ∧ b.length = 2 ∧ 0 ≤ pairI b 0 ∧ pairI a 0 ≤ pairI b 0)) ∧ (a.length = 2 → b.length = 2 → pairI l 0 = pairI a 0 ∧ pairI l 3 = pairI b 0) := by
  subst h
  match a, ha with
  | [], _ =>
    refine ⟨?_, ?_, ?_⟩
    · rintro ⟨h, hp⟩
      unfold pairI at hp
      split at hp
      · omega
      · simp [pairV_l] at hp
    · constructor
      · rintro ⟨_, hp, _⟩
        unfold pairI at hp
        split at hp
        · omega
        · simp [pairV_l] at hp
      · rintro ⟨h, _⟩; simp at h
    · intro h; simp at h
  | [x], _ =>
    refine ⟨?_, ?_, ?_⟩
    · rintro ⟨h, hp⟩
      unfold pairI at hp
      split at hp
      · omega
      · simp [pairV_r] at hp
    · constructor
      · rintro ⟨_, hp, _⟩
        unfold pairI at hp
        split at hp
        · omega
        · simp [pairV_r] at hp
      · rintro ⟨h, _⟩; simp at h
    · intro h; simp at h
  | [x, y], _ =>
    have e0 : pairI ([x, y] ++ 45 :: b) 0 = pairI [x, y] 0 := by
      unfold pairI
      rw [if_neg (by simp), if_neg (by simp)]
      simp
    have e3 : pairI ([x, y] ++ 45 :: b) 3 = if b.length < 2 then -1 else pairV (b[0]?.getD 0) (b[1]?.getD 0) := by
      unfold pairI
      simp
      by_cases hb : b.length < 2
      · rw [if_pos (by omega), if_pos hb]
      · rw [if_neg (by omega), if_neg hb]
    have e4 : pairI b 0 = if b.length < 2 then -1 else pairV (b[0]?.getD 0) (b[1]?.getD 0) := by
      unfold pairI
      simp
    rw [e0, e3.trans e4.symm]
    refine ⟨?_, ?_, fun _ _ => ⟨rfl, rfl⟩⟩
    · rintro ⟨h, _⟩
      simp at h
    · constructor
      · rintro ⟨h, h1, _, h2⟩
        simp at h
        exact ⟨rfl, h1, by omega, by omega, h2⟩
      · rintro ⟨_, h1, h2, h3, h4⟩
        exact ⟨by simp; omega, h1, by simp, h4⟩
  | x :: y :: z :: t, ha =>
    refine ⟨?_, ?_, ?_⟩
    · rintro ⟨h, _⟩
      simp at h
    · constructor
      · rintro ⟨_, _, h, _⟩
        simp at h
        subst h
        exact absurd (by simp) ha
      · rintro ⟨h, _⟩; simp at h
    · intro h; simp at h
end Go.Proofs.YtobofhiakgohfaaDoor
