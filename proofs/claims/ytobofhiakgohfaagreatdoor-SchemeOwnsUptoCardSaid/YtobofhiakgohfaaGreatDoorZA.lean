/- The words of a text, in plain Lean: no program in sight. The tokens of a text: plain Lean. The digits of base sixteen, pairs of them: plain Lean. Items: the plain law. Pairs of digits, and numbers: plain Lean. Numbers written in base ten are read as they were: plain Lean. Descriptions and their texts: plain Lean. Numbers in base ten, digit by digit; how long texts of descriptions are: plain Lean. -/
import Derived.Test.YtobofhiakgohfaaGreatDoorShelf
import Derived.Lib.ItoaMem
set_option linter.unusedVariables false
namespace Go.Proofs.YtobofhiakgohfaaGreatDoor

def inWordB (c : UInt8) : Bool := decide (32 < c.toNat) && decide (c.toNat < 127) && (c.toNat != 35)
def letterB (c : UInt8) : Bool := decide (97 ≤ c.toNat) && decide (c.toNat ≤ 122)
def digitB (c : UInt8) : Bool := decide (48 ≤ c.toNat) && decide (c.toNat ≤ 57)
def kwClass : List UInt8 := [99, 108, 97, 115, 115]
def kwShape : List UInt8 := [115, 104, 97, 112, 101]
def kwAt : List UInt8 := [97, 116]
def headLetter : List UInt8 → Bool
  | [] => false
  | c :: _ => letterB c
/-- Is the word a name? -/
def nameB (l : List UInt8) : Bool := !(l == kwClass) && !(l == kwShape) && !(l == kwAt) && decide (l.length ≤ 16) && headLetter l && l.all (fun c => letterB c || digitB c)

def lowers : List UInt8 := [97, 98, 99, 100, 101, 102, 103, 104, 105, 106, 107, 108, 109, 110, 111, 112, 113, 114, 115, 116, 117, 118, 119, 120, 121, 122, 48, 49, 50, 51, 52, 53, 54, 55, 56, 57]
theorem lowers_contains (c : UInt8) : lowers.contains c = (letterB c || digitB c) := by
  have h : ∀ n : Fin 256, lowers.contains (UInt8.ofNat n.val) = (letterB (UInt8.ofNat n.val) || digitB (UInt8.ofNat n.val)) := by decide +kernel
  have := h ⟨c.toNat, c.toNat_lt⟩
  simpa using this

theorem dropWhile_nil {α : Type} (p : α → Bool) : ∀ l : List α, l.dropWhile p = [] ↔ l.all p = true
  | [] => by simp
  | a :: l => by
    rw [List.dropWhile_cons]
    by_cases h : p a = true
    · rw [if_pos h, dropWhile_nil p l]; simp [h]
    · rw [if_neg h]; simp [h]

/-- What the program's Name asks. -/
theorem nameB_trim (l : List UInt8) (h1 : l ≠ kwClass) (h2 : l ≠ kwShape) (h3 : l ≠ kwAt) (c : UInt8) (t : List UInt8) (hl : l = c :: t) (h4 : l.length ≤ 16) :
    nameB l = (decide (l.dropWhile (lowers.contains ·) = []) && decide (97 ≤ c.toNat)) := by
  have e : l.dropWhile (lowers.contains ·) = [] ↔ l.all (fun c => letterB c || digitB c) = true := by
    rw [dropWhile_nil]
    have : (fun x => lowers.contains x) = (fun c => letterB c || digitB c) := by funext x; exact lowers_contains x
    rw [this]
  have hd : headLetter l = letterB c := by rw [hl]; rfl
  simp only [nameB, beq_eq_false_iff_ne.2 h1, beq_eq_false_iff_ne.2 h2, beq_eq_false_iff_ne.2 h3, decide_eq_true h4, hd, Bool.not_false, Bool.true_and]
  by_cases ha : l.all (fun c => letterB c || digitB c) = true
  · rw [ha, decide_eq_true (e.2 ha)]
    have hc : (letterB c || digitB c) = true := by rw [hl] at ha; simp only [List.all_cons, Bool.and_eq_true] at ha; exact ha.1
    simp only [letterB, digitB, Bool.or_eq_true, Bool.and_eq_true, decide_eq_true_eq] at hc
    simp only [letterB, Bool.and_true, Bool.true_and]
    rcases hc with hc | hc
    · simp [hc]
    · have : ¬ 97 ≤ c.toNat := by omega
      simp [this]
  · rw [Bool.not_eq_true] at ha
    have : ¬ l.dropWhile (lowers.contains ·) = [] := fun h => by rw [e] at h; rw [h] at ha; cases ha
    rw [ha, decide_eq_false this]
    simp
end Go.Proofs.YtobofhiakgohfaaGreatDoor

namespace Go.Proofs.YtobofhiakgohfaaGreatDoor

/-- A token: kind, place, length. -/
structure Tok where
  kind : Nat
  pos : Nat
  len : Nat
deriving DecidableEq

def blankB (c : UInt8) : Bool := c == 32 || c == 9 || c == 13

/-- The tokens from place k on, byte by byte: whether in a comment; where the word began. -/
def toksR (cm : Bool) : Option Nat → Nat → List UInt8 → List Tok
  | some f, k, [] => [⟨1, f, k - f⟩, ⟨3, k, 0⟩]
  | none, k, [] => [⟨3, k, 0⟩]
  | some f, k, c :: t => if inWordB c = true then toksR cm (some f) (k + 1) t else
      ⟨1, f, k - f⟩ :: (if c = 10 then ⟨2, k, 1⟩ :: toksR false none (k + 1) t
      else if cm = true ∨ blankB c = true then toksR cm none (k + 1) t
      else if c = 35 then toksR true none (k + 1) t
      else [⟨4, k, 1⟩])
  | none, k, c :: t => if c = 10 then ⟨2, k, 1⟩ :: toksR false none (k + 1) t
      else if cm = true ∨ blankB c = true then toksR cm none (k + 1) t
      else if c = 35 then toksR true none (k + 1) t
      else if inWordB c = true then toksR cm (some k) (k + 1) t
      else [⟨4, k, 1⟩]

/-- The tokens of a text. -/
def toks (l : List UInt8) : List Tok := toksR false none 0 l

theorem toksR_end (cm : Bool) (k : Nat) : toksR cm none k [] = [⟨3, k, 0⟩] := by rw [toksR]
theorem toksR_wend (cm : Bool) (f k : Nat) : toksR cm (some f) k [] = ⟨1, f, k - f⟩ :: toksR cm none k [] := by rw [toksR, toksR]
theorem toksR_line (cm : Bool) (k : Nat) (t : List UInt8) : toksR cm none k (10 :: t) = ⟨2, k, 1⟩ :: toksR false none (k + 1) t := by rw [toksR, if_pos rfl]
theorem toksR_cm (k : Nat) (c : UInt8) (t : List UInt8) (h : c ≠ 10) : toksR true none k (c :: t) = toksR true none (k + 1) t := by rw [toksR, if_neg h, if_pos (.inl rfl)]
theorem toksR_blank (cm : Bool) (k : Nat) (c : UInt8) (t : List UInt8) (h : blankB c = true) : toksR cm none k (c :: t) = toksR cm none (k + 1) t := by
  have h10 : c ≠ 10 := by rintro rfl; exact absurd h (by decide)
  rw [toksR, if_neg h10, if_pos (.inr h)]
theorem toksR_hash (k : Nat) (t : List UInt8) : toksR false none k (35 :: t) = toksR true none (k + 1) t := by
  rw [toksR, if_neg (by decide), if_neg (by decide), if_pos rfl]
theorem inWord_not {c : UInt8} (h : inWordB c = true) : c ≠ 10 ∧ blankB c = false ∧ c ≠ 35 := by
  refine ⟨?_, ?_, ?_⟩
  · rintro rfl; exact absurd h (by decide)
  · cases hb : blankB c
    · rfl
    · simp only [blankB, Bool.or_eq_true, beq_iff_eq] at hb
      rcases hb with (rfl | rfl) | rfl <;> exact absurd h (by decide)
  · rintro rfl; exact absurd h (by decide)
theorem toksR_word (k : Nat) (c : UInt8) (t : List UInt8) (h : inWordB c = true) : toksR false none k (c :: t) = toksR false (some k) (k + 1) t := by
  obtain ⟨h1, h2, h3⟩ := inWord_not h
  rw [toksR, if_neg h1, if_neg (by simp [h2]), if_neg h3, if_pos h]
theorem toksR_bad (k : Nat) (c : UInt8) (t : List UInt8) (h : inWordB c = false) (h1 : c ≠ 10) (h2 : blankB c = false) (h3 : c ≠ 35) : toksR false none k (c :: t) = [⟨4, k, 1⟩] := by
  rw [toksR, if_neg h1, if_neg (by simp [h2]), if_neg h3, if_neg (by simp [h])]
theorem toksR_more (cm : Bool) (f k : Nat) (c : UInt8) (t : List UInt8) (h : inWordB c = true) : toksR cm (some f) k (c :: t) = toksR cm (some f) (k + 1) t := by rw [toksR, if_pos h]
theorem toksR_stop (cm : Bool) (f k : Nat) (c : UInt8) (t : List UInt8) (h : inWordB c = false) : toksR cm (some f) k (c :: t) = ⟨1, f, k - f⟩ :: toksR cm none k (c :: t) := by
  rw [toksR, if_neg (by simp [h])]
  conv => rhs; rw [toksR]
  rw [if_neg (show ¬ inWordB c = true by simp [h])]

/-- .. none of a comment that ends here. -/
theorem toksR_cmend (k : Nat) (t : List UInt8) (h : t = [] ∨ ∃ r, t = 10 :: r) : toksR true none k t = toksR false none k t := by
  rcases h with rfl | ⟨r, rfl⟩
  · rw [toksR_end, toksR_end]
  · rw [toksR_line, toksR_line]
/-- .. where a word ends. -/
theorem toksR_wcut (cm : Bool) (f k : Nat) (t : List UInt8) (h : t = [] ∨ ∃ c r, t = c :: r ∧ inWordB c = false) : toksR cm (some f) k t = ⟨1, f, k - f⟩ :: toksR cm none k t := by
  rcases h with rfl | ⟨c, r, rfl, hc⟩
  · exact toksR_wend _ _ _
  · exact toksR_stop _ _ _ _ _ hc

/-- There are at most as many tokens as bytes, and one. -/
theorem toksR_length : ∀ (l : List UInt8) (cm : Bool) (o : Option Nat) (k : Nat), (toksR cm o k l).length ≤ l.length + (match o with | some _ => 2 | none => 1)
  | [], cm, o, k => by cases o <;> simp [toksR]
  | c :: t, cm, o, k => by
    have A := toksR_length t false none (k + 1)
    have B := toksR_length t cm none (k + 1)
    have C := toksR_length t true none (k + 1)
    have D := toksR_length t cm (some k) (k + 1)
    simp only at A B C D
    have E : (toksR cm none k (c :: t)).length ≤ t.length + 2 := by
      rw [toksR]
      split
      · simp only [List.length_cons]; omega
      · split
        · omega
        · split
          · omega
          · split
            · omega
            · simp
    cases o with
    | none => simp only [List.length_cons]; omega
    | some f =>
      have F := toksR_length t cm (some f) (k + 1)
      simp only at F
      simp only [List.length_cons]
      by_cases h : inWordB c = true
      · rw [toksR_more _ _ _ _ _ h]; omega
      · rw [toksR_stop _ _ _ _ _ (by simpa using h), List.length_cons]; omega

/-- What lies from k on is nothing, or a byte and the rest. -/
theorem drop_here {l : List UInt8} {k : Nat} (h : k < l.length) : l.drop k = l[k]?.getD 0 :: l.drop (k + 1) := by
  rw [List.drop_eq_getElem_cons h, List.getElem?_eq_getElem h]
  rfl
end Go.Proofs.YtobofhiakgohfaaGreatDoor

namespace Go.Proofs.YtobofhiakgohfaaGreatDoor

/-- A digit of base sixteen; -1: none. -/
def hexv (c : UInt8) : Int := if 48 ≤ c.toNat ∧ c.toNat ≤ 57 then (c.toNat : Int) - 48 else if 65 ≤ c.toNat ∧ c.toNat ≤ 70 then (c.toNat : Int) - 55 else -1
theorem hexv_lt (c : UInt8) : hexv c < 16 := by
  unfold hexv
  split
  · omega
  · split <;> omega
theorem hexv_ge (c : UInt8) : -1 ≤ hexv c := by
  unfold hexv
  split
  · omega
  · split <;> omega
/-- The byte that two digits write; -1: none. -/
def pairV (a b : UInt8) : Int := if hexv a < 0 ∨ hexv b < 0 then -1 else 16 * hexv a + hexv b
theorem pairV_lt (a b : UInt8) : pairV a b < 256 := by
  unfold pairV
  have := hexv_lt a; have := hexv_lt b
  split <;> omega
theorem pairV_ge (a b : UInt8) : -1 ≤ pairV a b := by
  unfold pairV
  split <;> omega
/-- .. from place i on. -/
def pairI (l : List UInt8) (i : Nat) : Int := if l.length < i + 2 then -1 else pairV (l[i]?.getD 0) (l[i + 1]?.getD 0)
theorem pairI_lt (l : List UInt8) (i : Nat) : pairI l i < 256 := by
  unfold pairI
  split
  · omega
  · exact pairV_lt _ _
theorem pairI_ge (l : List UInt8) (i : Nat) : -1 ≤ pairI l i := by
  unfold pairI
  split
  · omega
  · exact pairV_ge _ _
def hexLetters : List UInt8 := [48, 49, 50, 51, 52, 53, 54, 55, 56, 57, 65, 66, 67, 68, 69, 70]
theorem indexByte_hex (c : UInt8) : Go.Lib.indexByte hexLetters c = hexv c := by
  have h : ∀ n : Fin 256, Go.Lib.indexByte hexLetters (UInt8.ofNat n.val) = hexv (UInt8.ofNat n.val) := by decide +kernel
  have := h ⟨c.toNat, c.toNat_lt⟩
  simpa using this
end Go.Proofs.YtobofhiakgohfaaGreatDoor

namespace Go.Proofs.YtobofhiakgohfaaGreatDoor

theorem hexv45 : hexv 45 = -1 := by decide
theorem pairV_l (y : UInt8) : pairV 45 y = -1 := by unfold pairV; rw [hexv45]; simp
theorem pairV_r (x : UInt8) : pairV x 45 = -1 := by unfold pairV; rw [hexv45]; simp

theorem item_none (l : List UInt8) (h : (45 : UInt8) ∉ l) : ¬ (l.length = 5 ∧ 0 ≤ pairI l 0 ∧ l[2]?.getD 0 = 45 ∧ pairI l 0 ≤ pairI l 3) := by
  rintro ⟨h5, _, h2, _⟩
  rw [List.getElem?_eq_getElem (by omega)] at h2
  have : l[2]'(by omega) = 45 := h2
  exact h (this ▸ List.getElem_mem _)

theorem item_cut (l a b : List UInt8) (h : l = a ++ 45 :: b) (ha : (45 : UInt8) ∉ a) :
    (¬ (l.length = 2 ∧ 0 ≤ pairI l 0)) ∧ ((l.length = 5 ∧ 0 ≤ pairI l 0 ∧ l[2]?.getD 0 = 45 ∧ pairI l 0 ≤ pairI l 3) ↔ (a.length = 2 ∧ 0 ≤ pairI a 0 ∧ b.length = 2 ∧ 0 ≤ pairI b 0 ∧ pairI a 0 ≤ pairI b 0)) ∧ (a.length = 2 → b.length = 2 → pairI l 0 = pairI a 0 ∧ pairI l 3 = pairI b 0) := by
  subst h
  match a, ha with
  | [], _ =>
    refine ⟨?_, ?_, ?_⟩
    · rintro ⟨h, hp⟩
      unfold pairI at hp
      split at hp
      · omega
      · simp [pairV_l] at hp
    · constructor
      · rintro ⟨_, hp, _⟩
        unfold pairI at hp
        split at hp
        · omega
        · simp [pairV_l] at hp
      · rintro ⟨h, _⟩; simp at h
    · intro h; simp at h
  | [x], _ =>
    refine ⟨?_, ?_, ?_⟩
    · rintro ⟨h, hp⟩
      unfold pairI at hp
      split at hp
      · omega
      · simp [pairV_r] at hp
    · constructor
      · rintro ⟨_, hp, _⟩
        unfold pairI at hp
        split at hp
        · omega
        · simp [pairV_r] at hp
      · rintro ⟨h, _⟩; simp at h
    · intro h; simp at h
  | [x, y], _ =>
    have e0 : pairI ([x, y] ++ 45 :: b) 0 = pairI [x, y] 0 := by
      unfold pairI
      rw [if_neg (by simp), if_neg (by simp)]
      simp
    have e3 : pairI ([x, y] ++ 45 :: b) 3 = if b.length < 2 then -1 else pairV (b[0]?.getD 0) (b[1]?.getD 0) := by
      unfold pairI
      simp
      by_cases hb : b.length < 2
      · rw [if_pos (by omega), if_pos hb]
      · rw [if_neg (by omega), if_neg hb]
    have e4 : pairI b 0 = if b.length < 2 then -1 else pairV (b[0]?.getD 0) (b[1]?.getD 0) := by
      unfold pairI
      simp
    rw [e0, e3.trans e4.symm]
    refine ⟨?_, ?_, fun _ _ => ⟨rfl, rfl⟩⟩
    · rintro ⟨h, _⟩
      simp at h
    · constructor
      · rintro ⟨h, h1, _, h2⟩
        simp at h
        exact ⟨rfl, h1, by omega, by omega, h2⟩
      · rintro ⟨_, h1, h2, h3, h4⟩
        exact ⟨by simp; omega, h1, by simp, h4⟩
  | x :: y :: z :: t, ha =>
    refine ⟨?_, ?_, ?_⟩
    · rintro ⟨h, _⟩
      simp at h
    · constructor
      · rintro ⟨_, _, h, _⟩
        simp at h
        subst h
        exact absurd (by simp) ha
      · rintro ⟨h, _⟩; simp at h
    · intro h; simp at h
end Go.Proofs.YtobofhiakgohfaaGreatDoor

namespace Go.Proofs.YtobofhiakgohfaaGreatDoor

/-- The bytes that pairs of digits write. -/
def hexR : List UInt8 → Option (List UInt8)
  | [] => some []
  | [_] => none
  | a :: b :: t => if pairV a b < 0 then none else (hexR t).map (UInt8.ofNat (pairV a b).toNat :: ·)

/-- The digit of base sixteen. -/
def hexd (n : Nat) : UInt8 := hexLetters[n]?.getD 0
def digL (l : List UInt8) : List UInt8 := l.flatMap fun c => [hexd (c.toNat / 16), hexd (c.toNat % 16)]
theorem digL_append (a b : List UInt8) : digL (a ++ b) = digL a ++ digL b := by simp [digL]
theorem digL_one (c : UInt8) : digL [c] = [hexd (c.toNat / 16), hexd (c.toNat % 16)] := rfl
theorem digL_cons (c : UInt8) (t : List UInt8) : digL (c :: t) = hexd (c.toNat / 16) :: hexd (c.toNat % 16) :: digL t := rfl
theorem digL_length (l : List UInt8) : (digL l).length = 2 * l.length := by
  induction l with
  | nil => rfl
  | cons c t ih => rw [digL_cons]; simp only [List.length_cons]; omega
theorem pairV_hexd (c : UInt8) : pairV (hexd (c.toNat / 16)) (hexd (c.toNat % 16)) = (c.toNat : Int) := by
  have h : ∀ n : Fin 256, pairV (hexd (n.val / 16)) (hexd (n.val % 16)) = (n.val : Int) := by decide +kernel
  exact h ⟨c.toNat, c.toNat_lt⟩
theorem hexR_digL (l : List UInt8) : hexR (digL l) = some l := by
  induction l with
  | nil => rfl
  | cons c t ih =>
    rw [digL_cons, hexR, pairV_hexd, if_neg (by omega), ih]
    simp
/-- The number that a word writes. -/
def numR (l : List UInt8) : Option Nat :=
  if l.length ≤ 9 ∧ l.all digitB = true ∧ (l.length = 1 ∨ l.head? ≠ some 48) then Go.Lib.decNat l else none
theorem digitB_val {c : UInt8} (h : digitB c = true) : Go.Lib.digitVal c = some (c.toNat - 48) := by
  simp only [digitB, Bool.and_eq_true, decide_eq_true_eq] at h
  unfold Go.Lib.digitVal
  rw [if_pos h]
theorem digitB_not {c : UInt8} (h : digitB c = false) : Go.Lib.digitVal c = none := by
  simp only [digitB, Bool.and_eq_false_iff, decide_eq_false_iff_not] at h
  unfold Go.Lib.digitVal
  rw [if_neg (by omega)]
theorem decFrom_all : ∀ (l : List UInt8) (acc : Nat), l.all digitB = true → ∃ n, Go.Lib.decFrom acc l = some n
  | [], acc, _ => ⟨acc, rfl⟩
  | c :: t, acc, h => by
    simp only [List.all_cons, Bool.and_eq_true] at h
    obtain ⟨n, hn⟩ := decFrom_all t (acc * 10 + (c.toNat - 48)) h.2
    exact ⟨n, by simp only [Go.Lib.decFrom, digitB_val h.1]; exact hn⟩
theorem decFrom_none : ∀ (l : List UInt8) (acc : Nat), l.all digitB = false → Go.Lib.decFrom acc l = none
  | [], acc, h => by simp at h
  | c :: t, acc, h => by
    cases hc : digitB c with
    | false => simp only [Go.Lib.decFrom, digitB_not hc]
    | true =>
      simp only [List.all_cons, hc, Bool.true_and] at h
      simp only [Go.Lib.decFrom, digitB_val hc]
      exact decFrom_none t _ h
theorem decNat_all {l : List UInt8} (h0 : l ≠ []) (h : l.all digitB = true) : ∃ n, Go.Lib.decNat l = some n := by
  obtain ⟨n, hn⟩ := decFrom_all l 0 h
  refine ⟨n, ?_⟩
  unfold Go.Lib.decNat
  cases l with
  | nil => exact absurd rfl h0
  | cons c t => exact hn
theorem atoi_all {l : List UInt8} (h0 : l ≠ []) (h : l.all digitB = true) : ∃ n, Go.Lib.decNat l = some n ∧ Go.Lib.atoi l = some (n : Int) := by
  obtain ⟨n, hn⟩ := decNat_all h0 h
  refine ⟨n, hn, ?_⟩
  cases l with
  | nil => exact absurd rfl h0
  | cons c t =>
    simp only [List.all_cons, Bool.and_eq_true, digitB, decide_eq_true_eq] at h
    have h1 : (c == 45) = false := by rw [beq_eq_false_iff_ne]; rintro rfl; exact absurd h.1.1 (by decide)
    have h2 : (c == 43) = false := by rw [beq_eq_false_iff_ne]; rintro rfl; exact absurd h.1.1 (by decide)
    simp only [Go.Lib.atoi, h1, h2, Bool.false_eq_true, if_false, hn]
    rfl
theorem numR_lt {l : List UInt8} {n : Nat} (h : numR l = some n) : n < 1000000000 := by
  unfold numR at h
  split at h
  · rename_i hc
    have hd := (Go.Lib.decNat_some h).2
    have h1 := Go.Lib.decFrom_lt _ 0 n hd
    have h3 := Nat.pow_le_pow_right (n := 10) (by decide) hc.1
    have e : (10 : Nat) ^ 9 = 1000000000 := by decide
    omega
  · cases h
end Go.Proofs.YtobofhiakgohfaaGreatDoor

namespace Go.Proofs.YtobofhiakgohfaaGreatDoor
open Go.Lib

theorem decFrom_append : ∀ (a b : List UInt8) (acc : Nat), decFrom acc (a ++ b) = (decFrom acc a).bind (fun n => decFrom n b)
  | [], b, acc => rfl
  | c :: t, b, acc => by
    simp only [List.cons_append, decFrom]
    cases digitVal c with
    | none => rfl
    | some d => exact decFrom_append t b _

theorem dig_ok (d : Nat) (h : d < 10) : digitB (UInt8.ofNat (48 + d)) = true ∧ digitVal (UInt8.ofNat (48 + d)) = some d ∧ (UInt8.ofNat (48 + d) = 48 → d = 0) := by
  have : ∀ d : Fin 10, digitB (UInt8.ofNat (48 + d.val)) = true ∧ digitVal (UInt8.ofNat (48 + d.val)) = some d.val ∧ (UInt8.ofNat (48 + d.val) = 48 → d.val = 0) := by decide
  exact this ⟨d, h⟩

/-- A number's digits: right ones, spelling it, the first none of 0 but alone. -/
theorem dec_facts : ∀ (n u : Nat), u ≤ n → (decDigits u).all digitB = true ∧ decFrom 0 (decDigits u) = some u ∧ decDigits u ≠ [] ∧ (0 < u → (decDigits u).head? ≠ some 48)
  | n, u, hu => by
    by_cases h : u < 10
    · rw [decDigits_one h]
      obtain ⟨h1, h2, h3⟩ := dig_ok u h
      generalize UInt8.ofNat (48 + u) = dg at *
      refine ⟨by simp [h1], by simp [decFrom, h2], by simp, fun h0 => ?_⟩
      simp only [List.head?_cons, ne_eq, Option.some.injEq]
      exact fun e => absurd (h3 e) (by omega)
    · cases n with
      | zero => omega
      | succ n =>
        obtain ⟨a1, a2, a3, a4⟩ := dec_facts n (u / 10) (by omega)
        obtain ⟨h1, h2, h3⟩ := dig_ok (u % 10) (by omega)
        have e : decDigits u = decDigits (u / 10) ++ [UInt8.ofNat (48 + u % 10)] := by
          rw [decDigits, dif_neg h]
        rw [e]
        generalize UInt8.ofNat (48 + u % 10) = dg at *
        refine ⟨by simp [a1, h1], ?_, by simp, fun _ => ?_⟩
        · rw [decFrom_append, a2]
          simp only [Option.bind_some, decFrom, h2, Option.some.injEq]
          omega
        · have := a4 (by omega)
          cases hd : decDigits (u / 10) with
          | nil => exact absurd hd a3
          | cons c t => rw [hd] at this; simpa using this

theorem dec_length (u : Nat) : (decDigits u).length ≤ 9 ↔ u < 1000000000 := by
  constructor
  · intro h
    have h1 := decFrom_lt _ 0 u (dec_facts u u (Nat.le_refl _)).2.1
    have h3 := Nat.pow_le_pow_right (n := 10) (by decide) h
    have e : (10 : Nat) ^ 9 = 1000000000 := by decide
    omega
  · intro h
    have key : ∀ (k u : Nat), u < 10 ^ (k + 1) → (decDigits u).length ≤ k + 1 := by
      intro k
      induction k with
      | zero => intro u hu; rw [decDigits_one (by simpa using hu)]; simp
      | succ k ih =>
        intro u hu
        by_cases hs : u < 10
        · rw [decDigits_one hs]; simp
        · have e : decDigits u = decDigits (u / 10) ++ [UInt8.ofNat (48 + u % 10)] := by rw [decDigits, dif_neg hs]
          rw [e, List.length_append, List.length_singleton]
          have := ih (u / 10) (by rw [Nat.pow_succ] at hu; omega)
          omega
    have := key 8 u (by simpa using h)
    omega

/-- What Number reads of what Itoa writes. -/
theorem numR_itoa (n : Int) : numR (itoa n) = if 0 ≤ n ∧ n ≤ 999999999 then some n.toNat else none := by
  by_cases h0 : n < 0
  · rw [if_neg (by omega)]
    unfold numR itoa
    rw [if_pos h0, if_neg]
    rintro ⟨_, h, _⟩
    simp only [List.all_cons, Bool.and_eq_true] at h
    exact absurd h.1 (by decide)
  · have e : itoa n = decDigits n.toNat := by unfold itoa; rw [if_neg h0]
    obtain ⟨a1, a2, a3, a4⟩ := dec_facts n.toNat n.toNat (Nat.le_refl _)
    rw [e]
    by_cases h9 : n ≤ 999999999
    · rw [if_pos ⟨by omega, h9⟩]
      unfold numR
      have hl := (dec_length n.toNat).2 (by omega)
      rw [if_pos]
      · unfold decNat
        cases hd : decDigits n.toNat with
        | nil => exact absurd hd a3
        | cons c t => rw [hd] at a2; exact a2
      · refine ⟨hl, a1, ?_⟩
        by_cases hz : 0 < n.toNat
        · exact .inr (a4 hz)
        · rw [show n.toNat = 0 by omega, decDigits_one (by omega)]
          exact .inl rfl
    · rw [if_neg (by omega)]
      unfold numR
      rw [if_neg]
      rintro ⟨h, _⟩
      have := (dec_length n.toNat).1 h
      omega
end Go.Proofs.YtobofhiakgohfaaGreatDoor

namespace Go.Proofs.YtobofhiakgohfaaGreatDoor

structure ItemD where
  nm : ByteArray
  lo : Int
  hi : Int
  pl : Int
structure ClassD where
  nm : ByteArray
  its : List ItemD
  pl : Int
structure ShapeD where
  its : List ItemD
  first : Int
  pl : Int
structure DescD where
  cls : List ClassD
  shs : List ShapeD

def byteOf (v : Int) : UInt8 := UInt8.ofNat v.toNat
/-- Has an item a text? -/
def fitB (x : ItemD) : Bool :=
  if x.nm.data.toList = [] then decide (0 ≤ x.lo ∧ x.lo ≤ x.hi ∧ x.hi ≤ 255) else nameB x.nm.data.toList && decide (x.lo = 0 ∧ x.hi = 0)
/-- An item's text, where it has one. -/
def txtI (x : ItemD) : List UInt8 :=
  if x.nm.data.toList = [] then digL [byteOf x.lo] ++ (if x.lo < x.hi then 45 :: digL [byteOf x.hi] else []) else x.nm.data.toList
/-- What the program's item answers. -/
def txtP (x : ItemD) : List UInt8 := if fitB x = true then txtI x else []
theorem txtI_ne (x : ItemD) : txtI x ≠ [] := by
  unfold txtI
  split
  · simp [digL]
  · assumption
theorem txtP_ne (x : ItemD) : txtP x ≠ [] ↔ fitB x = true := by
  unfold txtP
  split
  · rename_i h; simp [h, txtI_ne x]
  · rename_i h; simp [h]
theorem nameB_len {l : List UInt8} (h : nameB l = true) : l.length ≤ 16 := by
  unfold nameB at h
  simp only [Bool.and_eq_true, decide_eq_true_eq] at h
  exact h.1.1.2
theorem txtP_len (x : ItemD) : (txtP x).length ≤ 16 := by
  unfold txtP
  split
  · rename_i h
    unfold txtI
    unfold fitB at h
    split
    · rename_i h0
      split <;> simp [digL_length]
    · rename_i h0
      rw [if_neg h0, Bool.and_eq_true] at h
      exact nameB_len h.1
  · simp

def txtPs (l : List ItemD) : List UInt8 := l.flatMap fun x => 32 :: txtP x
def txtIs (l : List ItemD) : List UInt8 := l.flatMap fun x => 32 :: txtI x
def fitsB (most : Nat) (l : List ItemD) : Bool := decide (0 < l.length) && decide (l.length ≤ most) && l.all fitB
theorem txtPs_snoc (l : List ItemD) (x : ItemD) : txtPs (l ++ [x]) = txtPs l ++ 32 :: txtP x := by simp [txtPs]
theorem txtPs_len (l : List ItemD) : (txtPs l).length ≤ 17 * l.length := by
  induction l with
  | nil => simp [txtPs]
  | cons a t ih =>
    have := txtP_len a
    simp only [txtPs, List.flatMap_cons, List.length_append, List.length_cons] at ih ⊢
    omega
theorem txtPs_eq {l : List ItemD} (h : l.all fitB = true) : txtPs l = txtIs l := by
  induction l with
  | nil => rfl
  | cons a t ih =>
    simp only [List.all_cons, Bool.and_eq_true] at h
    simp only [txtPs, txtIs, List.flatMap_cons] at ih ⊢
    rw [ih h.2]
    unfold txtP
    rw [if_pos h.1]

def kwC : List UInt8 := [99, 108, 97, 115, 115, 32]
def kwS : List UInt8 := [115, 104, 97, 112, 101]
def kwA : List UInt8 := [32, 97, 116, 32]
def fitC (c : ClassD) : Bool := nameB c.nm.data.toList && fitsB 32 c.its
def fitS (s : ShapeD) : Bool := decide (0 ≤ s.first) && decide (s.first ≤ 999999999) && fitsB 8 s.its
def fitD (d : DescD) : Bool := decide (d.cls.length ≤ 32) && decide (d.shs.length ≤ 32) && d.cls.all fitC && d.shs.all fitS
def txtPC (c : ClassD) : List UInt8 := kwC ++ c.nm.data.toList ++ txtPs c.its ++ [10]
def txtIC (c : ClassD) : List UInt8 := kwC ++ c.nm.data.toList ++ txtIs c.its ++ [10]
def txtPS (s : ShapeD) : List UInt8 := kwS ++ txtPs s.its ++ kwA ++ Go.Lib.itoa s.first ++ [10]
def txtIS (s : ShapeD) : List UInt8 := kwS ++ txtIs s.its ++ kwA ++ Go.Lib.itoa s.first ++ [10]
def txtPD (d : DescD) : List UInt8 := d.cls.flatMap txtPC ++ d.shs.flatMap txtPS
def txtID (d : DescD) : List UInt8 := d.cls.flatMap txtIC ++ d.shs.flatMap txtIS
theorem txtPC_eq {c : ClassD} (h : fitC c = true) : txtPC c = txtIC c := by
  unfold fitC fitsB at h
  simp only [Bool.and_eq_true] at h
  unfold txtPC txtIC
  rw [txtPs_eq h.2.2]
theorem txtPS_eq {s : ShapeD} (h : fitS s = true) : txtPS s = txtIS s := by
  unfold fitS fitsB at h
  simp only [Bool.and_eq_true] at h
  unfold txtPS txtIS
  rw [txtPs_eq h.2.2]
theorem flatMap_eq {α : Type} {p : α → Bool} {f g : α → List UInt8} (hfg : ∀ x, p x = true → f x = g x) : ∀ l : List α, l.all p = true → l.flatMap f = l.flatMap g
  | [], _ => rfl
  | a :: t, h => by
    simp only [List.all_cons, Bool.and_eq_true] at h
    rw [List.flatMap_cons, List.flatMap_cons, hfg a h.1, flatMap_eq hfg t h.2]
/-- What is printed is the document's text. -/
theorem txtD_eq {d : DescD} (h : fitD d = true) : txtPD d = txtID d := by
  unfold fitD at h
  simp only [Bool.and_eq_true] at h
  unfold txtPD txtID
  rw [flatMap_eq (fun x hx => txtPC_eq hx) _ h.1.2, flatMap_eq (fun x hx => txtPS_eq hx) _ h.2]
end Go.Proofs.YtobofhiakgohfaaGreatDoor

namespace Go.Proofs.YtobofhiakgohfaaGreatDoor
open Go.Lib

theorem itoa_pos (n : Nat) : itoa (n : Int) = decDigits n := by
  unfold itoa
  rw [if_neg (by omega)]
  rfl
theorem itoa_len {n : Int} (h0 : 0 ≤ n) (h1 : n ≤ 999999999) : (itoa n).length ≤ 9 := by
  obtain ⟨m, rfl⟩ := Int.eq_ofNat_of_zero_le h0
  rw [itoa_pos]
  exact (dec_length m).2 (by omega)

theorem txtIs_len {l : List ItemD} (h : l.all fitB = true) : (txtIs l).length ≤ 17 * l.length := by
  rw [← txtPs_eq h]; exact txtPs_len l
theorem fitC_len {c : ClassD} (h : fitC c = true) : (txtIC c).length ≤ 600 ∧ c.nm.data.toList.length ≤ 16 ∧ (txtIs c.its).length ≤ 544 := by
  unfold fitC fitsB at h
  simp only [Bool.and_eq_true, decide_eq_true_eq] at h
  have h1 := nameB_len h.1
  have h2 := txtIs_len h.2.2
  unfold txtIC
  have hk : kwC.length = 6 := rfl
  simp only [List.length_append, List.length_cons, List.length_nil, hk]
  omega
theorem fitS_len {s : ShapeD} (h : fitS s = true) : (txtIS s).length ≤ 200 ∧ (txtIs s.its).length ≤ 136 := by
  unfold fitS fitsB at h
  simp only [Bool.and_eq_true, decide_eq_true_eq] at h
  have h1 := itoa_len h.1.1 h.1.2
  have h2 := txtIs_len h.2.2
  unfold txtIS
  have hk : kwS.length = 5 := rfl
  have ha : kwA.length = 4 := rfl
  simp only [List.length_append, List.length_cons, List.length_nil, hk, ha]
  omega
theorem flatMap_len {α : Type} {p : α → Bool} {f : α → List UInt8} {b : Nat} (hf : ∀ x, p x = true → (f x).length ≤ b) : ∀ l : List α, l.all p = true → (l.flatMap f).length ≤ b * l.length
  | [], _ => by simp
  | a :: t, h => by
    simp only [List.all_cons, Bool.and_eq_true] at h
    have := hf a h.1
    have := flatMap_len hf t h.2
    simp only [List.flatMap_cons, List.length_append, List.length_cons, Nat.mul_succ]
    omega
theorem flatMap_bd {α : Type} {f : α → List UInt8} {b : Nat} : ∀ l : List α, (∀ x ∈ l, (f x).length ≤ b) → (l.flatMap f).length ≤ b * l.length
  | [], _ => by simp
  | a :: t, h => by
    have := h a (by simp)
    have := flatMap_bd t (fun x hx => h x (by simp [hx]))
    simp only [List.flatMap_cons, List.length_append, List.length_cons, Nat.mul_succ]
    omega
theorem itoa_len' {n : Int} (h0 : -9223372036854775808 ≤ n) (h1 : n ≤ 9223372036854775807) : (itoa n).length ≤ 20 := by
  have key : ∀ (k u : Nat), u < 10 ^ (k + 1) → (decDigits u).length ≤ k + 1 := by
    intro k
    induction k with
    | zero => intro u hu; rw [decDigits_one (by simpa using hu)]; simp
    | succ k ih =>
      intro u hu
      rw [decDigits]
      split
      · simp
      · have := ih (u / 10) (by rw [Nat.pow_succ] at hu; omega)
        simp; omega
  unfold itoa
  have e : (10 : Nat) ^ (18 + 1) = 10000000000000000000 := by decide
  split
  · have := key 18 n.natAbs (by rw [e]; omega)
    simp; omega
  · have := key 18 n.toNat (by rw [e]; omega)
    omega
theorem txtPC_len (c : ClassD) (h1 : c.nm.size ≤ 1048576) (h2 : c.its.length ≤ 1048576) : (txtPC c).length ≤ 33554432 := by
  have h3 := txtPs_len c.its
  have h4 : c.nm.data.toList.length = c.nm.size := by simp
  unfold txtPC
  have hk : kwC.length = 6 := rfl
  simp only [List.length_append, List.length_cons, List.length_nil, hk]
  omega
theorem txtPS_len (s : ShapeD) (h0 : -9223372036854775808 ≤ s.first) (h1 : s.first ≤ 9223372036854775807) (h2 : s.its.length ≤ 1048576) : (txtPS s).length ≤ 33554432 := by
  have h3 := txtPs_len s.its
  have h4 := itoa_len' h0 h1
  unfold txtPS
  have hk : kwS.length = 5 := rfl
  have ha : kwA.length = 4 := rfl
  simp only [List.length_append, List.length_cons, List.length_nil, hk, ha]
  omega
end Go.Proofs.YtobofhiakgohfaaGreatDoor
