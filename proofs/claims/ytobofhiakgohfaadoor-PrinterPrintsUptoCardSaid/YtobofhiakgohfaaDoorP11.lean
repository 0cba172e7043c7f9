/- Numbers written in base ten are read as they were: plain Lean. -/
import Derived.Test.YtobofhiakgohfaaDoorP9
import Derived.Lib.ItoaMem
namespace Go.Proofs.YtobofhiakgohfaaDoor
open Go.Lib

theorem decFrom_append : ∀ (a b : List UInt8) (acc : Nat), decFrom acc (a ++ b) = (decFrom acc a).bind (fun n => decFrom n b)
  | [], b, acc => rfl
  | c :: t, b, acc => by
    simp only [List.cons_append, decFrom]
    cases digitVal c with
    | none => rfl
    | some d => exact decFrom_append t b _

theorem dig_ok (d : Nat) (h : d < 10) : digitB (UInt8.ofNat (48 + d)) = true ∧ digitVal (UInt8.ofNat (48 + d)) = some d ∧ (UInt8.ofNat (48 + d) = 48 → d = 0) := by
  have : ∀ d : Fin 10, digitB (UInt8.ofNat (48 + d.val)) = true ∧ digitVal (UInt8.ofNat (48 + d.val)) = some d.val ∧ (UInt8.ofNat (48 + d.val) = 48 → d.val = 0) := by decide
  exact this ⟨d, h⟩

/-- A number's digits: right ones, spelling it, the first none of 0 but alone. -/
theorem dec_facts : ∀ (n u : Nat), u ≤ n → (decDigits u).all digitB = true ∧ decFrom 0 (decDigits u) = some u ∧ decDigits u ≠ [] ∧ (0 < u → (decDigits u).head? ≠ some 48)
  | n, u, hu => by
    by_cases h : u < 10
    · rw [decDigits_one h]
      obtain ⟨h1, h2, h3⟩ := dig_ok u h
      generalize UInt8.ofNat (48 + u) = dg at *
      refine ⟨by simp [h1], by simp [decFrom, h2], by simp, fun h0 => ?_⟩
      simp only [List.head?_cons, ne_eq, Option.some.injEq]
      exact fun e => absurd (h3 e) (by omega)
    · cases n with
      | zero => omega
      | succ n =>
        obtain ⟨a1, a2, a3, a4⟩ := dec_facts n (u / 10) (by omega)
        obtain ⟨h1, h2, h3⟩ := dig_ok (u % 10) (by omega)
        have e : decDigits u = decDigits (u / 10) ++ [UInt8.ofNat (48 + u % 10)] := by
          rw [decDigits, dif_neg h]
        rw [e]
        generalize UInt8.ofNat (48 + u % 10) = dg at *
        refine ⟨by simp [a1, h1], ?_, by simp, fun _ => ?_⟩
        · rw [decFrom_append, a2]
          simp only [Option.bind_some, decFrom, h2, Option.some.injEq]
          omega
        · have := a4 (by omega)
          cases hd : decDigits (u / 10) with
          | nil => exact absurd hd a3
          | cons c t => rw [hd] at this; simpa using this

theorem dec_length (u : Nat) : (decDigits u).length ≤ 9 ↔ u < 1000000000 := by
  constructor
  · intro h
    have h1 := decFrom_lt _ 0 u (dec_facts u u (Nat.le_refl _)).2.1
    have h3 := Nat.pow_le_pow_right (n := 10) (by decide) h
    have e : (10 : Nat) ^ 9 = 1000000000 := by decide
    omega
  · intro h
    have key : ∀ (k u : Nat), u < 10 ^ (k + 1) → (decDigits u).length ≤ k + 1 := by
      intro k
      induction k with
      | zero => intro u hu; rw [decDigits_one (by simpa using hu)]; simp
      | succ k ih =>
        intro u hu
        by_cases hs : u < 10
        · rw [decDigits_one hs]; simp
        · have e : decDigits u = decDigits (u / 10) ++ [UInt8.ofNat (48 + u % 10)] := by rw [decDigits, dif_neg hs]
          rw [e, List.length_append, List.length_singleton]
          have := ih (u / 10) (by rw [Nat.pow_succ] at hu; omega)
          omega
    have := key 8 u (by simpa using h)
    omega

/-- What Number reads of what Itoa writes. -/
theorem numR_itoa (n : Int) : numR (itoa n) = if 0 ≤ n ∧ n ≤ 999999999 then some n.toNat else none := by
  by_cases h0 : n < 0
  · rw [if_neg (by omega)]
    unfold numR itoa
    rw [if_pos h0, if_neg]
    rintro ⟨_, h, _⟩
    simp only [List.all_cons, Bool.and_eq_true] at h
    exact absurd h.1 (by decide)
  · have e : itoa n = decDigits n.toNat := by unfold itoa; rw [if_neg h0]
    obtain ⟨a1, a2, a3, a4⟩ := dec_facts n.toNat n.toNat (Nat.le_refl _)
    rw [e]
    by_cases h9 : n ≤ 999999999
    · rw [if_pos ⟨by omega, h9⟩]
      unfold numR
      have hl := (dec_length n.toNat).2 (by omega)
      rw [if_pos]
      · unfold decNat
        cases hd : decDigits n.toNat with
        | nil => exact absurd hd a3
        | cons c t => rw [hd] at a2; exact a2
      · refine ⟨hl, a1, ?_⟩
        by_cases hz : 0 < n.toNat
        · exact .inr (a4 hz)
        · rw [show n.toNat = 0 by omega, decDigits_one (by omega)]
          exact .inl rfl
    · rw [if_neg (by omega)]
      unfold numR
      rw [if_neg]
      rintro ⟨h, _⟩
      have := (dec_length n.toNat).1 h
      omega
end Go.Proofs.YtobofhiakgohfaaDoor
