/- Pairs of digits, and numbers: plain Lean. -/
import Derived.Test.YtobofhiakgohfaaDoorP6
import Derived.Test.YtobofhiakgohfaaDoorP5
namespace Go.Proofs.YtobofhiakgohfaaDoor

/-- The bytes that pairs of digits write. -/
def hexR : List UInt8 → Option (List UInt8)
  | [] => some []
  | [_] => none
  | a :: b :: t => if pairV a b < 0 then none else (hexR t).map (UInt8.ofNat (pairV a b).toNat :: ·)

theorem hexR_end (l : List UInt8) (i : Nat) (h : l.length ≤ i) : hexR (l.drop i) = some [] := by rw [List.drop_eq_nil_of_le h]; rfl
theorem drop_two {l : List UInt8} {i : Nat} (h : i + 2 ≤ l.length) : l.drop i = l[i]?.getD 0 :: l[i + 1]?.getD 0 :: l.drop (i + 2) := by
  rw [List.drop_eq_getElem_cons (by omega), List.drop_eq_getElem_cons (by omega), List.getElem?_eq_getElem (by omega), List.getElem?_eq_getElem (by omega)]
  rfl
theorem hexR_bad (l : List UInt8) (i : Nat) (h : i < l.length) (hp : pairI l i < 0) : hexR (l.drop i) = none := by
  unfold pairI at hp
  split at hp
  · rename_i h2
    have : (l.drop i).length = 1 := by rw [List.length_drop]; omega
    obtain ⟨a, ha⟩ := List.length_eq_one_iff.1 this
    rw [ha]; rfl
  · rw [drop_two (by omega), hexR, if_pos hp]
theorem hexR_good (l : List UInt8) (i : Nat) (hp : 0 ≤ pairI l i) : hexR (l.drop i) = (hexR (l.drop (i + 2))).map (UInt8.ofNat (pairI l i).toNat :: ·) ∧ i + 2 ≤ l.length := by
  unfold pairI at hp ⊢
  split at hp
  · omega
  · rename_i h2
    rw [if_neg h2, drop_two (by omega), hexR, if_neg (by omega)]
    exact ⟨rfl, by omega⟩
theorem ofNat_pair {v : Int} (h0 : 0 ≤ v) (h1 : v < 256) : ((UInt8.ofNat v.toNat).toNat : Int) = v := by
  simp
  omega

/-- The digit of base sixteen. -/
def hexd (n : Nat) : UInt8 := hexLetters[n]?.getD 0
def digL (l : List UInt8) : List UInt8 := l.flatMap fun c => [hexd (c.toNat / 16), hexd (c.toNat % 16)]
theorem digL_nil : digL [] = [] := rfl
theorem digL_append (a b : List UInt8) : digL (a ++ b) = digL a ++ digL b := by simp [digL]
theorem digL_one (c : UInt8) : digL [c] = [hexd (c.toNat / 16), hexd (c.toNat % 16)] := rfl
theorem digL_cons (c : UInt8) (t : List UInt8) : digL (c :: t) = hexd (c.toNat / 16) :: hexd (c.toNat % 16) :: digL t := rfl
theorem digL_length (l : List UInt8) : (digL l).length = 2 * l.length := by
  induction l with
  | nil => rfl
  | cons c t ih => rw [digL_cons]; simp only [List.length_cons]; omega
theorem pairV_hexd (c : UInt8) : pairV (hexd (c.toNat / 16)) (hexd (c.toNat % 16)) = (c.toNat : Int) := by
  have h : ∀ n : Fin 256, pairV (hexd (n.val / 16)) (hexd (n.val % 16)) = (n.val : Int) := by decide +kernel
  exact h ⟨c.toNat, c.toNat_lt⟩
theorem hexR_digL (l : List UInt8) : hexR (digL l) = some l := by
  induction l with
  | nil => rfl
  | cons c t ih =>
    rw [digL_cons, hexR, pairV_hexd, if_neg (by omega), ih]
    simp
theorem hexd_lo (n : Nat) (h : n < 10) : (hexd n).toNat = 48 + n := by
  have : ∀ n : Fin 10, (hexd n.val).toNat = 48 + n.val := by decide
  exact this ⟨n, h⟩
theorem hexd_hi (n : Nat) (h1 : 10 ≤ n) (h : n < 16) : (hexd n).toNat = 55 + n := by
  have : ∀ n : Fin 16, 10 ≤ n.val → (hexd n.val).toNat = 55 + n.val := by decide
  exact this ⟨n, h⟩ h1

/-- The number that a word writes. -/
def numR (l : List UInt8) : Option Nat :=
  if l.length ≤ 9 ∧ l.all digitB = true ∧ (l.length = 1 ∨ l.head? ≠ some 48) then Go.Lib.decNat l else none
theorem digitB_val {c : UInt8} (h : digitB c = true) : Go.Lib.digitVal c = some (c.toNat - 48) := by
  simp only [digitB, Bool.and_eq_true, decide_eq_true_eq] at h
  unfold Go.Lib.digitVal
  rw [if_pos h]
theorem digitB_not {c : UInt8} (h : digitB c = false) : Go.Lib.digitVal c = none := by
  simp only [digitB, Bool.and_eq_false_iff, decide_eq_false_iff_not] at h
  unfold Go.Lib.digitVal
  rw [if_neg (by omega)]
theorem decFrom_all : ∀ (l : List UInt8) (acc : Nat), l.all digitB = true → ∃ n, Go.Lib.decFrom acc l = some n
  | [], acc, _ => ⟨acc, rfl⟩
  | c :: t, acc, h => by
    simp only [List.all_cons, Bool.and_eq_true] at h
    obtain ⟨n, hn⟩ := decFrom_all t (acc * 10 + (c.toNat - 48)) h.2
    exact ⟨n, by simp only [Go.Lib.decFrom, digitB_val h.1]; exact hn⟩
theorem decFrom_none : ∀ (l : List UInt8) (acc : Nat), l.all digitB = false → Go.Lib.decFrom acc l = none
  | [], acc, h => by simp at h
  | c :: t, acc, h => by
    cases hc : digitB c with
    | false => simp only [Go.Lib.decFrom, digitB_not hc]
    | true =>
      simp only [List.all_cons, hc, Bool.true_and] at h
      simp only [Go.Lib.decFrom, digitB_val hc]
      exact decFrom_none t _ h
theorem decNat_all {l : List UInt8} (h0 : l ≠ []) (h : l.all digitB = true) : ∃ n, Go.Lib.decNat l = some n := by
  obtain ⟨n, hn⟩ := decFrom_all l 0 h
  refine ⟨n, ?_⟩
  unfold Go.Lib.decNat
  cases l with
  | nil => exact absurd rfl h0
  | cons c t => exact hn
theorem atoi_all {l : List UInt8} (h0 : l ≠ []) (h : l.all digitB = true) : ∃ n, Go.Lib.decNat l = some n ∧ Go.Lib.atoi l = some (n : Int) := by
  obtain ⟨n, hn⟩ := decNat_all h0 h
  refine ⟨n, hn, ?_⟩
  cases l with
  | nil => exact absurd rfl h0
  | cons c t =>
    simp only [List.all_cons, Bool.and_eq_true, digitB, decide_eq_true_eq] at h
    have h1 : (c == 45) = false := by rw [beq_eq_false_iff_ne]; rintro rfl; exact absurd h.1.1 (by decide)
    have h2 : (c == 43) = false := by rw [beq_eq_false_iff_ne]; rintro rfl; exact absurd h.1.1 (by decide)
    simp only [Go.Lib.atoi, h1, h2, Bool.false_eq_true, if_false, hn]
    rfl
theorem numR_lt {l : List UInt8} {n : Nat} (h : numR l = some n) : n < 1000000000 := by
  unfold numR at h
  split at h
  · rename_i hc
    have hd := (Go.Lib.decNat_some h).2
    have h1 := Go.Lib.decFrom_lt _ 0 n hd
    have h3 := Nat.pow_le_pow_right (n := 10) (by decide) hc.1
    have e : (10 : Nat) ^ 9 = 1000000000 := by decide
    omega
  · cases h
end Go.Proofs.YtobofhiakgohfaaDoor
