/- The tokens of a text: plain Lean. -/
import Derived.Test.YtobofhiakgohfaaDoorP5
namespace Go.Proofs.YtobofhiakgohfaaDoor

/-- A token: kind, place, length. -/
structure Tok where
  kind : Nat
  pos : Nat
  len : Nat
deriving DecidableEq

def blankB (c : UInt8) : Bool := c == 32 || c == 9 || c == 13

/-- The tokens from place k on, byte by byte: whether in a comment; where the word began. -/
def toksR (cm : Bool) : Option Nat → Nat → List UInt8 → List Tok
  | some f, k, [] => [⟨1, f, k - f⟩, ⟨3, k, 0⟩]
  | none, k, [] => [⟨3, k, 0⟩]
  | some f, k, c :: t => if inWordB c = true then toksR cm (some f) (k + 1) t else
      ⟨1, f, k - f⟩ :: (if c = 10 then ⟨2, k, 1⟩ :: toksR false none (k + 1) t
      else if cm = true ∨ blankB c = true then toksR cm none (k + 1) t
      else if c = 35 then toksR true none (k + 1) t
      else [⟨4, k, 1⟩])
  | none, k, c :: t => if c = 10 then ⟨2, k, 1⟩ :: toksR false none (k + 1) t
      else if cm = true ∨ blankB c = true then toksR cm none (k + 1) t
      else if c = 35 then toksR true none (k + 1) t
      else if inWordB c = true then toksR cm (some k) (k + 1) t
      else [⟨4, k, 1⟩]

/-- The tokens of a text. -/
def toks (l : List UInt8) : List Tok := toksR false none 0 l

theorem toksR_end (cm : Bool) (k : Nat) : toksR cm none k [] = [⟨3, k, 0⟩] := by rw [toksR]
theorem toksR_wend (cm : Bool) (f k : Nat) : toksR cm (some f) k [] = ⟨1, f, k - f⟩ :: toksR cm none k [] := by rw [toksR, toksR]
theorem toksR_line (cm : Bool) (k : Nat) (t : List UInt8) : toksR cm none k (10 :: t) = ⟨2, k, 1⟩ :: toksR false none (k + 1) t := by rw [toksR, if_pos rfl]
theorem toksR_cm (k : Nat) (c : UInt8) (t : List UInt8) (h : c ≠ 10) : toksR true none k (c :: t) = toksR true none (k + 1) t := by rw [toksR, if_neg h, if_pos (.inl rfl)]
theorem toksR_blank (cm : Bool) (k : Nat) (c : UInt8) (t : List UInt8) (h : blankB c = true) : toksR cm none k (c :: t) = toksR cm none (k + 1) t := by
  have h10 : c ≠ 10 := by rintro rfl; exact absurd h (by decide)
  rw [toksR, if_neg h10, if_pos (.inr h)]
theorem toksR_hash (k : Nat) (t : List UInt8) : toksR false none k (35 :: t) = toksR true none (k + 1) t := by
  rw [toksR, if_neg (by decide), if_neg (by decide), if_pos rfl]
theorem inWord_not {c : UInt8} (h : inWordB c = true) : c ≠ 10 ∧ blankB c = false ∧ c ≠ 35 := by
  refine ⟨?_, ?_, ?_⟩
  · rintro rfl; exact absurd h (by decide)
  · cases hb : blankB c
    · rfl
    · simp only [blankB, Bool.or_eq_true, beq_iff_eq] at hb
      rcases hb with (rfl | rfl) | rfl <;> exact absurd h (by decide)
  · rintro rfl; exact absurd h (by decide)
theorem toksR_word (k : Nat) (c : UInt8) (t : List UInt8) (h : inWordB c = true) : toksR false none k (c :: t) = toksR false (some k) (k + 1) t := by
  obtain ⟨h1, h2, h3⟩ := inWord_not h
  rw [toksR, if_neg h1, if_neg (by simp [h2]), if_neg h3, if_pos h]
theorem toksR_bad (k : Nat) (c : UInt8) (t : List UInt8) (h : inWordB c = false) (h1 : c ≠ 10) (h2 : blankB c = false) (h3 : c ≠ 35) : toksR false none k (c :: t) = [⟨4, k, 1⟩] := by
  rw [toksR, if_neg h1, if_neg (by simp [h2]), if_neg h3, if_neg (by simp [h])]
theorem toksR_more (cm : Bool) (f k : Nat) (c : UInt8) (t : List UInt8) (h : inWordB c = true) : toksR cm (some f) k (c :: t) = toksR cm (some f) (k + 1) t := by rw [toksR, if_pos h]
theorem toksR_stop (cm : Bool) (f k : Nat) (c : UInt8) (t : List UInt8) (h : inWordB c = false) : toksR cm (some f) k (c :: t) = ⟨1, f, k - f⟩ :: toksR cm none k (c :: t) := by
  rw [toksR, if_neg (by simp [h])]
  conv => rhs; rw [toksR]
  rw [if_neg (show ¬ inWordB c = true by simp [h])]

/-- .. none of a comment that ends here. -/
theorem toksR_cmend (k : Nat) (t : List UInt8) (h : t = [] ∨ ∃ r, t = 10 :: r) : toksR true none k t = toksR false none k t := by
  rcases h with rfl | ⟨r, rfl⟩
  · rw [toksR_end, toksR_end]
  · rw [toksR_line, toksR_line]
/-- .. where a word ends. -/
theorem toksR_wcut (cm : Bool) (f k : Nat) (t : List UInt8) (h : t = [] ∨ ∃ c r, t = c :: r ∧ inWordB c = false) : toksR cm (some f) k t = ⟨1, f, k - f⟩ :: toksR cm none k t := by
  rcases h with rfl | ⟨c, r, rfl, hc⟩
  · exact toksR_wend _ _ _
  · exact toksR_stop _ _ _ _ _ hc

/-- There are at most as many tokens as bytes, and one. -/
theorem toksR_length : ∀ (l : List UInt8) (cm : Bool) (o : Option Nat) (k : Nat), (toksR cm o k l).length ≤ l.length + (match o with | some _ => 2 | none => 1)
  | [], cm, o, k => by cases o <;> simp [toksR]
  | c :: t, cm, o, k => by
    have A := toksR_length t false none (k + 1)
    have B := toksR_length t cm none (k + 1)
    have C := toksR_length t true none (k + 1)
    have D := toksR_length t cm (some k) (k + 1)
    simp only at A B C D
    have E : (toksR cm none k (c :: t)).length ≤ t.length + 2 := by
      rw [toksR]
      split
      · simp only [List.length_cons]; omega
      · split
        · omega
        · split
          · omega
          · split
            · omega
            · simp
    cases o with
    | none => simp only [List.length_cons]; omega
    | some f =>
      have F := toksR_length t cm (some f) (k + 1)
      simp only at F
      simp only [List.length_cons]
      by_cases h : inWordB c = true
      · rw [toksR_more _ _ _ _ _ h]; omega
      · rw [toksR_stop _ _ _ _ _ (by simpa using h), List.length_cons]; omega

/-- What lies from k on is nothing, or a byte and the rest. -/
theorem drop_here {l : List UInt8} {k : Nat} (h : k < l.length) : l.drop k = l[k]?.getD 0 :: l.drop (k + 1) := by
  rw [List.drop_eq_getElem_cons h, List.getElem?_eq_getElem h]
  rfl
end Go.Proofs.YtobofhiakgohfaaDoor
