/- The words of a text, in plain Lean: no program in sight. The tokens of a text: plain Lean. Tokens tile a text: plain Lean. -/
set_option linter.unusedVariables false
namespace Go.Proofs.YtobofhiakgohfaaDoor

def inWordB (c : UInt8) : Bool := decide (32 < c.toNat) && decide (c.toNat < 127) && (c.toNat != 35)
def letterB (c : UInt8) : Bool := decide (97 ≤ c.toNat) && decide (c.toNat ≤ 122)
def digitB (c : UInt8) : Bool := decide (48 ≤ c.toNat) && decide (c.toNat ≤ 57)
def kwClass : List UInt8 := [99, 108, 97, 115, 115]
def kwShape : List UInt8 := [115, 104, 97, 112, 101]
def kwAt : List UInt8 := [97, 116]
def headLetter : List UInt8 → Bool
  | [] => false
  | c :: _ => letterB c
/-- Is the word a name? -/
def nameB (l : List UInt8) : Bool := !(l == kwClass) && !(l == kwShape) && !(l == kwAt) && decide (l.length ≤ 16) && headLetter l && l.all (fun c => letterB c || digitB c)

def lowers : List UInt8 := [97, 98, 99, 100, 101, 102, 103, 104, 105, 106, 107, 108, 109, 110, 111, 112, 113, 114, 115, 116, 117, 118, 119, 120, 121, 122, 48, 49, 50, 51, 52, 53, 54, 55, 56, 57]
theorem lowers_contains (c : UInt8) : lowers.contains c = (letterB c || digitB c) := by
  have h : ∀ n : Fin 256, lowers.contains (UInt8.ofNat n.val) = (letterB (UInt8.ofNat n.val) || digitB (UInt8.ofNat n.val)) := by decide +kernel
  have := h ⟨c.toNat, c.toNat_lt⟩
  simpa using this

theorem dropWhile_nil {α : Type} (p : α → Bool) : ∀ l : List α, l.dropWhile p = [] ↔ l.all p = true
  | [] => by simp
  | a :: l => by
    rw [List.dropWhile_cons]
    by_cases h : p a = true
    · rw [if_pos h, dropWhile_nil p l]; simp [h]
    · rw [if_neg h]; simp [h]

/-- What the program's Name asks. -/
theorem nameB_trim (l : List UInt8) (h1 : l ≠ kwClass) (h2 : l ≠ kwShape) (h3 : l ≠ kwAt) (c : UInt8) (t : List UInt8) (hl : l = c :: t) (h4 : l.length ≤ 16) :
    nameB l = (decide (l.dropWhile (lowers.contains ·) = []) && decide (97 ≤ c.toNat)) := by
  have e : l.dropWhile (lowers.contains ·) = [] ↔ l.all (fun c => letterB c || digitB c) = true := by
    rw [dropWhile_nil]
    have : (fun x => lowers.contains x) = (fun c => letterB c || digitB c) := by funext x; exact lowers_contains x
    rw [this]
  have hd : headLetter l = letterB c := by rw [hl]; rfl
  simp only [nameB, beq_eq_false_iff_ne.2 h1, beq_eq_false_iff_ne.2 h2, beq_eq_false_iff_ne.2 h3, decide_eq_true h4, hd, Bool.not_false, Bool.true_and]
  by_cases ha : l.all (fun c => letterB c || digitB c) = true
  · rw [ha, decide_eq_true (e.2 ha)]
    have hc : (letterB c || digitB c) = true := by rw [hl] at ha; simp only [List.all_cons, Bool.and_eq_true] at ha; exact ha.1
    simp only [letterB, digitB, Bool.or_eq_true, Bool.and_eq_true, decide_eq_true_eq] at hc
    simp only [letterB, Bool.and_true, Bool.true_and]
    rcases hc with hc | hc
    · simp [hc]
    · have : ¬ 97 ≤ c.toNat := by omega
      simp [this]
  · rw [Bool.not_eq_true] at ha
    have : ¬ l.dropWhile (lowers.contains ·) = [] := fun h => by rw [e] at h; rw [h] at ha; cases ha
    rw [ha, decide_eq_false this]
    simp
end Go.Proofs.YtobofhiakgohfaaDoor

namespace Go.Proofs.YtobofhiakgohfaaDoor

/-- A token: kind, place, length. -/
structure Tok where
  kind : Nat
  pos : Nat
  len : Nat
deriving DecidableEq

def blankB (c : UInt8) : Bool := c == 32 || c == 9 || c == 13

/-- The tokens from place k on, byte by byte: whether in a comment; where the word began. -/
def toksR (cm : Bool) : Option Nat → Nat → List UInt8 → List Tok
  | some f, k, [] => [⟨1, f, k - f⟩, ⟨3, k, 0⟩]
  | none, k, [] => [⟨3, k, 0⟩]
  | some f, k, c :: t => if inWordB c = true then toksR cm (some f) (k + 1) t else
      ⟨1, f, k - f⟩ :: (if c = 10 then ⟨2, k, 1⟩ :: toksR false none (k + 1) t
      else if cm = true ∨ blankB c = true then toksR cm none (k + 1) t
      else if c = 35 then toksR true none (k + 1) t
      else [⟨4, k, 1⟩])
  | none, k, c :: t => if c = 10 then ⟨2, k, 1⟩ :: toksR false none (k + 1) t
      else if cm = true ∨ blankB c = true then toksR cm none (k + 1) t
      else if c = 35 then toksR true none (k + 1) t
      else if inWordB c = true then toksR cm (some k) (k + 1) t
      else [⟨4, k, 1⟩]

/-- The tokens of a text. -/
def toks (l : List UInt8) : List Tok := toksR false none 0 l

theorem toksR_end (cm : Bool) (k : Nat) : toksR cm none k [] = [⟨3, k, 0⟩] := by rw [toksR]
theorem toksR_wend (cm : Bool) (f k : Nat) : toksR cm (some f) k [] = ⟨1, f, k - f⟩ :: toksR cm none k [] := by rw [toksR, toksR]
theorem toksR_line (cm : Bool) (k : Nat) (t : List UInt8) : toksR cm none k (10 :: t) = ⟨2, k, 1⟩ :: toksR false none (k + 1) t := by rw [toksR, if_pos rfl]
theorem toksR_cm (k : Nat) (c : UInt8) (t : List UInt8) (h : c ≠ 10) : toksR true none k (c :: t) = toksR true none (k + 1) t := by rw [toksR, if_neg h, if_pos (.inl rfl)]
theorem toksR_blank (cm : Bool) (k : Nat) (c : UInt8) (t : List UInt8) (h : blankB c = true) : toksR cm none k (c :: t) = toksR cm none (k + 1) t := by
  have h10 : c ≠ 10 := by rintro rfl; exact absurd h (by decide)
  rw [toksR, if_neg h10, if_pos (.inr h)]
theorem toksR_hash (k : Nat) (t : List UInt8) : toksR false none k (35 :: t) = toksR true none (k + 1) t := by
  rw [toksR, if_neg (by decide), if_neg (by decide), if_pos rfl]
theorem inWord_not {c : UInt8} (h : inWordB c = true) : c ≠ 10 ∧ blankB c = false ∧ c ≠ 35 := by
  refine ⟨?_, ?_, ?_⟩
  · rintro rfl; exact absurd h (by decide)
  · cases hb : blankB c
    · rfl
    · simp only [blankB, Bool.or_eq_true, beq_iff_eq] at hb
      rcases hb with (rfl | rfl) | rfl <;> exact absurd h (by decide)
  · rintro rfl; exact absurd h (by decide)
theorem toksR_word (k : Nat) (c : UInt8) (t : List UInt8) (h : inWordB c = true) : toksR false none k (c :: t) = toksR false (some k) (k + 1) t := by
  obtain ⟨h1, h2, h3⟩ := inWord_not h
  rw [toksR, if_neg h1, if_neg (by simp [h2]), if_neg h3, if_pos h]
theorem toksR_bad (k : Nat) (c : UInt8) (t : List UInt8) (h : inWordB c = false) (h1 : c ≠ 10) (h2 : blankB c = false) (h3 : c ≠ 35) : toksR false none k (c :: t) = [⟨4, k, 1⟩] := by
  rw [toksR, if_neg h1, if_neg (by simp [h2]), if_neg h3, if_neg (by simp [h])]
theorem toksR_more (cm : Bool) (f k : Nat) (c : UInt8) (t : List UInt8) (h : inWordB c = true) : toksR cm (some f) k (c :: t) = toksR cm (some f) (k + 1) t := by rw [toksR, if_pos h]
theorem toksR_stop (cm : Bool) (f k : Nat) (c : UInt8) (t : List UInt8) (h : inWordB c = false) : toksR cm (some f) k (c :: t) = ⟨1, f, k - f⟩ :: toksR cm none k (c :: t) := by
  rw [toksR, if_neg (by simp [h])]
  conv => rhs; rw [toksR]
  rw [if_neg (show ¬ inWordB c = true by simp [h])]

/-- .. none of a comment that ends here. -/
theorem toksR_cmend (k : Nat) (t : List UInt8) (h : t = [] ∨ ∃ r, t = 10 :: r) : toksR true none k t = toksR false none k t := by
  rcases h with rfl | ⟨r, rfl⟩
  · rw [toksR_end, toksR_end]
  · rw [toksR_line, toksR_line]
/-- .. where a word ends. -/
theorem toksR_wcut (cm : Bool) (f k : Nat) (t : List UInt8) (h : t = [] ∨ ∃ c r, t = c :: r ∧ inWordB c = false) : toksR cm (some f) k t = ⟨1, f, k - f⟩ :: toksR cm none k t := by
  rcases h with rfl | ⟨c, r, rfl, hc⟩
  · exact toksR_wend _ _ _
  · exact toksR_stop _ _ _ _ _ hc

/-- There are at most as many tokens as bytes, and one. -/
theorem toksR_length : ∀ (l : List UInt8) (cm : Bool) (o : Option Nat) (k : Nat), (toksR cm o k l).length ≤ l.length + (match o with | some _ => 2 | none => 1)
  | [], cm, o, k => by cases o <;> simp [toksR]
  | c :: t, cm, o, k => by
    have A := toksR_length t false none (k + 1)
    have B := toksR_length t cm none (k + 1)
    have C := toksR_length t true none (k + 1)
    have D := toksR_length t cm (some k) (k + 1)
    simp only at A B C D
    have E : (toksR cm none k (c :: t)).length ≤ t.length + 2 := by
      rw [toksR]
      split
      · simp only [List.length_cons]; omega
      · split
        · omega
        · split
          · omega
          · split
            · omega
            · simp
    cases o with
    | none => simp only [List.length_cons]; omega
    | some f =>
      have F := toksR_length t cm (some f) (k + 1)
      simp only at F
      simp only [List.length_cons]
      by_cases h : inWordB c = true
      · rw [toksR_more _ _ _ _ _ h]; omega
      · rw [toksR_stop _ _ _ _ _ (by simpa using h), List.length_cons]; omega

/-- What lies from k on is nothing, or a byte and the rest. -/
theorem drop_here {l : List UInt8} {k : Nat} (h : k < l.length) : l.drop k = l[k]?.getD 0 :: l.drop (k + 1) := by
  rw [List.drop_eq_getElem_cons h, List.getElem?_eq_getElem h]
  rfl
end Go.Proofs.YtobofhiakgohfaaDoor

namespace Go.Proofs.YtobofhiakgohfaaDoor

/-- Blanks and comments alone; whether a comment is open behind them. -/
def gapScan : Bool → List UInt8 → Option Bool
  | cm, [] => some cm
  | cm, c :: t => if c = 10 ∨ ((cm || c == 35) = false ∧ blankB c = false) then none else gapScan (cm || c == 35) t
theorem gapScan_append : ∀ (a b : List UInt8) (cm : Bool), gapScan cm (a ++ b) = (gapScan cm a).bind (gapScan · b)
  | [], b, cm => rfl
  | c :: t, b, cm => by
    simp only [List.cons_append, gapScan]
    split
    · rfl
    · exact gapScan_append t b _

def seg (l : List UInt8) (a b : Nat) : List UInt8 := (l.drop a).take (b - a)
theorem seg_nil (l : List UInt8) (a : Nat) : seg l a a = [] := by simp [seg]
theorem seg_succ (l : List UInt8) (a k : Nat) (h : a ≤ k) (hk : k < l.length) : seg l a (k + 1) = seg l a k ++ [l[k]?.getD 0] := by
  unfold seg
  rw [show k + 1 - a = (k - a) + 1 by omega, List.take_add_one, List.getElem?_drop, show a + (k - a) = k by omega, List.getElem?_eq_getElem hk]
  rfl

def TilesFrom (l : List UInt8) : Nat → List Tok → Prop
  | _, [] => False
  | at', t :: T => at' ≤ t.pos ∧ t.pos + t.len ≤ l.length ∧ (∃ cm, gapScan false (seg l at' t.pos) = some cm ∧ (cm = true → t.kind = 2 ∨ t.kind = 3)) ∧
      ((((t.kind = 3 ∧ t.len = 0 ∧ t.pos = l.length) ∨ (t.kind = 4 ∧ t.len = 1)) ∧ T = []) ∨
       ((t.kind = 1 ∨ (t.kind = 2 ∧ t.len = 1 ∧ l[t.pos]? = some 10)) ∧ TilesFrom l (t.pos + t.len) T))

theorem tiles_aux (l : List UInt8) : ∀ (n k : Nat), l.length - k = n → k ≤ l.length →
    (∀ cm at', at' ≤ k → gapScan false (seg l at' k) = some cm → TilesFrom l at' (toksR cm none k (l.drop k))) ∧
    (∀ f at', at' ≤ f → f ≤ k → gapScan false (seg l at' f) = some false → TilesFrom l at' (toksR false (some f) k (l.drop k)))
  | 0, k, hn, hk => by
    obtain rfl : k = l.length := by omega
    rw [List.drop_length]
    have A : ∀ cm at', at' ≤ l.length → gapScan false (seg l at' l.length) = some cm → TilesFrom l at' (toksR cm none l.length []) := by
      intro cm at' h1 h2
      rw [toksR_end]
      exact ⟨h1, Nat.le_refl _, ⟨cm, h2, fun _ => .inr rfl⟩, .inl ⟨.inl ⟨rfl, rfl, rfl⟩, rfl⟩⟩
    refine ⟨A, fun f at' h1 h2 h3 => ?_⟩
    rw [toksR_wend]
    refine ⟨h1, (by show f + (l.length - f) ≤ l.length; omega), ⟨false, h3, fun h => (by cases h)⟩, .inr ⟨.inl rfl, ?_⟩⟩
    show TilesFrom l (f + (l.length - f)) _
    rw [show f + (l.length - f) = l.length by omega]
    exact A false l.length (Nat.le_refl _) (by rw [seg_nil]; rfl)
  | n + 1, k, hn, hk => by
    obtain ⟨ihA, ihB⟩ := tiles_aux l n (k + 1) (by omega) (by omega)
    have hkl : k < l.length := by omega
    have hd := drop_here hkl
    have hget : l[k]? = some (l[k]?.getD 0) := by rw [List.getElem?_eq_getElem hkl]; rfl
    have hseg := fun a h => seg_succ l a k h hkl
    generalize l[k]?.getD 0 = c at hd hget hseg
    rw [hd]
    have A : ∀ cm at', at' ≤ k → gapScan false (seg l at' k) = some cm → TilesFrom l at' (toksR cm none k (c :: l.drop (k + 1))) := by
      intro cm at' h1 h2
      by_cases c10 : c = 10
      · subst c10
        rw [toksR_line]
        refine ⟨h1, hkl, ⟨cm, h2, fun _ => .inl rfl⟩, .inr ⟨.inr ⟨rfl, rfl, hget⟩, ?_⟩⟩
        exact ihA false (k + 1) (Nat.le_refl _) (by rw [seg_nil]; rfl)
      · by_cases hcb : cm = true ∨ blankB c = true
        · rw [toksR, if_neg c10, if_pos hcb]
          refine ihA cm at' (by omega) ?_
          rw [hseg at' h1, gapScan_append, h2]
          show gapScan cm [c] = some cm
          have e : (cm || c == 35) = cm := by
            rcases hcb with rfl | hb
            · rfl
            · have : (c == 35) = false := by
                rw [beq_eq_false_iff_ne]; rintro rfl; exact absurd hb (by decide)
              rw [this, Bool.or_false]
          simp only [gapScan, e]
          rw [if_neg]
          rintro (h | ⟨h3, h4⟩)
          · exact c10 h
          · rcases hcb with h | h
            · rw [h] at h3; cases h3
            · rw [h] at h4; cases h4
        · have hcm : cm = false := by
            cases cm
            · rfl
            · exact absurd (.inl rfl) hcb
          subst hcm
          have hb : blankB c = false := by
            cases hb : blankB c
            · rfl
            · exact absurd (.inr hb) hcb
          by_cases c35 : c = 35
          · subst c35
            rw [toksR_hash]
            refine ihA true at' (by omega) ?_
            rw [hseg at' h1, gapScan_append, h2]
            rfl
          · by_cases hw : inWordB c = true
            · rw [toksR_word _ _ _ hw]
              exact ihB k at' h1 (by omega) h2
            · rw [toksR_bad _ _ _ (by simpa using hw) c10 hb c35]
              exact ⟨h1, hkl, ⟨false, h2, fun h => (by cases h)⟩, .inl ⟨.inr ⟨rfl, rfl⟩, rfl⟩⟩
    refine ⟨A, fun f at' h1 h2 h3 => ?_⟩
    by_cases hw : inWordB c = true
    · rw [toksR_more _ _ _ _ _ hw]
      exact ihB f at' h1 (by omega) h3
    · rw [toksR_stop _ _ _ _ _ (by simpa using hw)]
      refine ⟨h1, (by show f + (k - f) ≤ l.length; omega), ⟨false, h3, fun h => (by cases h)⟩, .inr ⟨.inl rfl, ?_⟩⟩
      show TilesFrom l (f + (k - f)) _
      rw [show f + (k - f) = k by omega]
      exact A false k (Nat.le_refl _) (by rw [seg_nil]; rfl)

/-- The tokens of a text tile it. -/
theorem toks_tiles (l : List UInt8) : TilesFrom l 0 (toks l) := by
  have := (tiles_aux l l.length 0 rfl (Nat.zero_le _)).1 false 0 (Nat.le_refl _) (by rw [seg_nil]; rfl)
  rwa [List.drop_zero] at this
end Go.Proofs.YtobofhiakgohfaaDoor
