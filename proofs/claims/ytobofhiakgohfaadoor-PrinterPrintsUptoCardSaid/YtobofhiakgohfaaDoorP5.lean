/- The words of a text, in plain Lean: no program in sight. -/
namespace Go.Proofs.YtobofhiakgohfaaDoor

def inWordB (c : UInt8) : Bool := decide (32 < c.toNat) && decide (c.toNat < 127) && (c.toNat != 35)
def letterB (c : UInt8) : Bool := decide (97 ≤ c.toNat) && decide (c.toNat ≤ 122)
def digitB (c : UInt8) : Bool := decide (48 ≤ c.toNat) && decide (c.toNat ≤ 57)
def kwClass : List UInt8 := [99, 108, 97, 115, 115]
def kwShape : List UInt8 := [115, 104, 97, 112, 101]
def kwAt : List UInt8 := [97, 116]
def headLetter : List UInt8 → Bool
  | [] => false
  | c :: _ => letterB c
/-- Is the word a name? -/
def nameB (l : List UInt8) : Bool := !(l == kwClass) && !(l == kwShape) && !(l == kwAt) && decide (l.length ≤ 16) && headLetter l && l.all (fun c => letterB c || digitB c)

def lowers : List UInt8 := [97, 98, 99, 100, 101, 102, 103, 104, 105, 106, 107, 108, 109, 110, 111, 112, 113, 114, 115, 116, 117, 118, 119, 120, 121, 122, 48, 49, 50, 51, 52, 53, 54, 55, 56, 57]
theorem lowers_contains (c : UInt8) : lowers.contains c = (letterB c || digitB c) := by
  have h : ∀ n : Fin 256, lowers.contains (UInt8.ofNat n.val) = (letterB (UInt8.ofNat n.val) || digitB (UInt8.ofNat n.val)) := by decide +kernel
  have := h ⟨c.toNat, c.toNat_lt⟩
  simpa using this

theorem dropWhile_nil {α : Type} (p : α → Bool) : ∀ l : List α, l.dropWhile p = [] ↔ l.all p = true
  | [] => by simp
  | a :: l => by
    rw [List.dropWhile_cons]
    by_cases h : p a = true
    · rw [if_pos h, dropWhile_nil p l]; simp [h]
    · rw [if_neg h]; simp [h]

/-- What the program's Name asks. -/
theorem nameB_trim (l : List UInt8) (h1 : l ≠ kwClass) (h2 : l ≠ kwShape) (h3 : l ≠ kwAt) (c : UInt8) (t : List UInt8) (hl : l = c :: t) (h4 : l.length ≤ 16) :
    nameB l = (decide (l.dropWhile (lowers.contains ·) = []) && decide (97 ≤ c.toNat)) := by
  have e : l.dropWhile (lowers.contains ·) = [] ↔ l.all (fun c => letterB c || digitB c) = true := by
    rw [dropWhile_nil]
    have : (fun x => lowers.contains x) = (fun c => letterB c || digitB c) := by funext x; exact lowers_contains x
    rw [this]
  have hd : headLetter l = letterB c := by rw [hl]; rfl
  simp only [nameB, beq_eq_false_iff_ne.2 h1, beq_eq_false_iff_ne.2 h2, beq_eq_false_iff_ne.2 h3, decide_eq_true h4, hd, Bool.not_false, Bool.true_and]
  by_cases ha : l.all (fun c => letterB c || digitB c) = true
  · rw [ha, decide_eq_true (e.2 ha)]
    have hc : (letterB c || digitB c) = true := by rw [hl] at ha; simp only [List.all_cons, Bool.and_eq_true] at ha; exact ha.1
    simp only [letterB, digitB, Bool.or_eq_true, Bool.and_eq_true, decide_eq_true_eq] at hc
    simp only [letterB, Bool.and_true, Bool.true_and]
    rcases hc with hc | hc
    · simp [hc]
    · have : ¬ 97 ≤ c.toNat := by omega
      simp [this]
  · rw [Bool.not_eq_true] at ha
    have : ¬ l.dropWhile (lowers.contains ·) = [] := fun h => by rw [e] at h; rw [h] at ha; cases ha
    rw [ha, decide_eq_false this]
    simp
end Go.Proofs.YtobofhiakgohfaaDoor
