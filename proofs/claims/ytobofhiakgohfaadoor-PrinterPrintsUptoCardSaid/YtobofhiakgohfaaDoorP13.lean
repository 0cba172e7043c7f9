/- Numbers in base ten, digit by digit; how long texts of descriptions are: plain Lean. -/
import Derived.Test.YtobofhiakgohfaaDoorP11
import Derived.Test.YtobofhiakgohfaaDoorP12
namespace Go.Proofs.YtobofhiakgohfaaDoor
open Go.Lib

/-- What stands ahead of a number's last digit. -/
def decUp (m : Nat) : List UInt8 := if m < 10 then [] else decDigits (m / 10)
theorem decUp_last (m : Nat) : decDigits m = decUp m ++ [UInt8.ofNat (48 + m % 10)] := by
  unfold decUp
  rw [decDigits]
  split
  · rename_i h; rw [Nat.mod_eq_of_lt h]; rfl
  · rfl
theorem decUp_step {m : Nat} (h : ¬ m < 10) : decUp m = decUp (m / 10) ++ [UInt8.ofNat (48 + m / 10 % 10)] := by
  rw [← decUp_last]
  unfold decUp
  rw [if_neg h]
theorem itoa_pos (n : Nat) : itoa (n : Int) = decDigits n := by
  unfold itoa
  rw [if_neg (by omega)]
  rfl
theorem itoa_len {n : Int} (h0 : 0 ≤ n) (h1 : n ≤ 999999999) : (itoa n).length ≤ 9 := by
  obtain ⟨m, rfl⟩ := Int.eq_ofNat_of_zero_le h0
  rw [itoa_pos]
  exact (dec_length m).2 (by omega)

theorem txtIs_len {l : List ItemD} (h : l.all fitB = true) : (txtIs l).length ≤ 17 * l.length := by
  rw [← txtPs_eq h]; exact txtPs_len l
theorem fitC_len {c : ClassD} (h : fitC c = true) : (txtIC c).length ≤ 600 ∧ c.nm.data.toList.length ≤ 16 ∧ (txtIs c.its).length ≤ 544 := by
  unfold fitC fitsB at h
  simp only [Bool.and_eq_true, decide_eq_true_eq] at h
  have h1 := nameB_len h.1
  have h2 := txtIs_len h.2.2
  unfold txtIC
  have hk : kwC.length = 6 := rfl
  simp only [List.length_append, List.length_cons, List.length_nil, hk]
  omega
theorem fitS_len {s : ShapeD} (h : fitS s = true) : (txtIS s).length ≤ 200 ∧ (txtIs s.its).length ≤ 136 := by
  unfold fitS fitsB at h
  simp only [Bool.and_eq_true, decide_eq_true_eq] at h
  have h1 := itoa_len h.1.1 h.1.2
  have h2 := txtIs_len h.2.2
  unfold txtIS
  have hk : kwS.length = 5 := rfl
  have ha : kwA.length = 4 := rfl
  simp only [List.length_append, List.length_cons, List.length_nil, hk, ha]
  omega
theorem flatMap_len {α : Type} {p : α → Bool} {f : α → List UInt8} {b : Nat} (hf : ∀ x, p x = true → (f x).length ≤ b) : ∀ l : List α, l.all p = true → (l.flatMap f).length ≤ b * l.length
  | [], _ => by simp
  | a :: t, h => by
    simp only [List.all_cons, Bool.and_eq_true] at h
    have := hf a h.1
    have := flatMap_len hf t h.2
    simp only [List.flatMap_cons, List.length_append, List.length_cons, Nat.mul_succ]
    omega
theorem flatMap_bd {α : Type} {f : α → List UInt8} {b : Nat} : ∀ l : List α, (∀ x ∈ l, (f x).length ≤ b) → (l.flatMap f).length ≤ b * l.length
  | [], _ => by simp
  | a :: t, h => by
    have := h a (by simp)
    have := flatMap_bd t (fun x hx => h x (by simp [hx]))
    simp only [List.flatMap_cons, List.length_append, List.length_cons, Nat.mul_succ]
    omega
theorem itoa_len' {n : Int} (h0 : -9223372036854775808 ≤ n) (h1 : n ≤ 9223372036854775807) : (itoa n).length ≤ 20 := by
  have key : ∀ (k u : Nat), u < 10 ^ (k + 1) → (decDigits u).length ≤ k + 1 := by
    intro k
    induction k with
    | zero => intro u hu; rw [decDigits_one (by simpa using hu)]; simp
    | succ k ih =>
      intro u hu
      rw [decDigits]
      split
      · simp
      · have := ih (u / 10) (by rw [Nat.pow_succ] at hu; omega)
        simp; omega
  unfold itoa
  have e : (10 : Nat) ^ (18 + 1) = 10000000000000000000 := by decide
  split
  · have := key 18 n.natAbs (by rw [e]; omega)
    simp; omega
  · have := key 18 n.toNat (by rw [e]; omega)
    omega
theorem txtPC_len (c : ClassD) (h1 : c.nm.size ≤ 1048576) (h2 : c.its.length ≤ 1048576) : (txtPC c).length ≤ 33554432 := by
  have h3 := txtPs_len c.its
  have h4 : c.nm.data.toList.length = c.nm.size := by simp
  unfold txtPC
  have hk : kwC.length = 6 := rfl
  simp only [List.length_append, List.length_cons, List.length_nil, hk]
  omega
theorem txtPS_len (s : ShapeD) (h0 : -9223372036854775808 ≤ s.first) (h1 : s.first ≤ 9223372036854775807) (h2 : s.its.length ≤ 1048576) : (txtPS s).length ≤ 33554432 := by
  have h3 := txtPs_len s.its
  have h4 := itoa_len' h0 h1
  unfold txtPS
  have hk : kwS.length = 5 := rfl
  have ha : kwA.length = 4 := rfl
  simp only [List.length_append, List.length_cons, List.length_nil, hk, ha]
  omega
end Go.Proofs.YtobofhiakgohfaaDoor
