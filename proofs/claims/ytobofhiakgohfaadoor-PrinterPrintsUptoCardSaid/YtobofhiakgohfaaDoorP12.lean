/- Descriptions and their texts: plain Lean. -/
import Derived.Test.YtobofhiakgohfaaDoorP9
namespace Go.Proofs.YtobofhiakgohfaaDoor

structure ItemD where
  nm : ByteArray
  lo : Int
  hi : Int
  pl : Int
structure ClassD where
  nm : ByteArray
  its : List ItemD
  pl : Int
structure ShapeD where
  its : List ItemD
  first : Int
  pl : Int
structure DescD where
  cls : List ClassD
  shs : List ShapeD

def byteOf (v : Int) : UInt8 := UInt8.ofNat v.toNat
/-- Has an item a text? -/
def fitB (x : ItemD) : Bool :=
  if x.nm.data.toList = [] then decide (0 ≤ x.lo ∧ x.lo ≤ x.hi ∧ x.hi ≤ 255) else nameB x.nm.data.toList && decide (x.lo = 0 ∧ x.hi = 0)
/-- An item's text, where it has one. -/
def txtI (x : ItemD) : List UInt8 :=
  if x.nm.data.toList = [] then digL [byteOf x.lo] ++ (if x.lo < x.hi then 45 :: digL [byteOf x.hi] else []) else x.nm.data.toList
/-- What the program's item answers. -/
def txtP (x : ItemD) : List UInt8 := if fitB x = true then txtI x else []
theorem txtI_ne (x : ItemD) : txtI x ≠ [] := by
  unfold txtI
  split
  · simp [digL]
  · assumption
theorem txtP_ne (x : ItemD) : txtP x ≠ [] ↔ fitB x = true := by
  unfold txtP
  split
  · rename_i h; simp [h, txtI_ne x]
  · rename_i h; simp [h]
theorem nameB_len {l : List UInt8} (h : nameB l = true) : l.length ≤ 16 := by
  unfold nameB at h
  simp only [Bool.and_eq_true, decide_eq_true_eq] at h
  exact h.1.1.2
theorem txtP_len (x : ItemD) : (txtP x).length ≤ 16 := by
  unfold txtP
  split
  · rename_i h
    unfold txtI
    unfold fitB at h
    split
    · rename_i h0
      split <;> simp [digL_length]
    · rename_i h0
      rw [if_neg h0, Bool.and_eq_true] at h
      exact nameB_len h.1
  · simp

def txtPs (l : List ItemD) : List UInt8 := l.flatMap fun x => 32 :: txtP x
def txtIs (l : List ItemD) : List UInt8 := l.flatMap fun x => 32 :: txtI x
def fitsB (most : Nat) (l : List ItemD) : Bool := decide (0 < l.length) && decide (l.length ≤ most) && l.all fitB
theorem txtPs_snoc (l : List ItemD) (x : ItemD) : txtPs (l ++ [x]) = txtPs l ++ 32 :: txtP x := by simp [txtPs]
theorem txtIs_snoc (l : List ItemD) (x : ItemD) : txtIs (l ++ [x]) = txtIs l ++ 32 :: txtI x := by simp [txtIs]
theorem txtPs_len (l : List ItemD) : (txtPs l).length ≤ 17 * l.length := by
  induction l with
  | nil => simp [txtPs]
  | cons a t ih =>
    have := txtP_len a
    simp only [txtPs, List.flatMap_cons, List.length_append, List.length_cons] at ih ⊢
    omega
theorem txtPs_eq {l : List ItemD} (h : l.all fitB = true) : txtPs l = txtIs l := by
  induction l with
  | nil => rfl
  | cons a t ih =>
    simp only [List.all_cons, Bool.and_eq_true] at h
    simp only [txtPs, txtIs, List.flatMap_cons] at ih ⊢
    rw [ih h.2]
    unfold txtP
    rw [if_pos h.1]

def kwC : List UInt8 := [99, 108, 97, 115, 115, 32]
def kwS : List UInt8 := [115, 104, 97, 112, 101]
def kwA : List UInt8 := [32, 97, 116, 32]
def fitC (c : ClassD) : Bool := nameB c.nm.data.toList && fitsB 32 c.its
def fitS (s : ShapeD) : Bool := decide (0 ≤ s.first) && decide (s.first ≤ 999999999) && fitsB 8 s.its
def fitD (d : DescD) : Bool := decide (d.cls.length ≤ 32) && decide (d.shs.length ≤ 32) && d.cls.all fitC && d.shs.all fitS
def txtPC (c : ClassD) : List UInt8 := kwC ++ c.nm.data.toList ++ txtPs c.its ++ [10]
def txtIC (c : ClassD) : List UInt8 := kwC ++ c.nm.data.toList ++ txtIs c.its ++ [10]
def txtPS (s : ShapeD) : List UInt8 := kwS ++ txtPs s.its ++ kwA ++ Go.Lib.itoa s.first ++ [10]
def txtIS (s : ShapeD) : List UInt8 := kwS ++ txtIs s.its ++ kwA ++ Go.Lib.itoa s.first ++ [10]
def txtPD (d : DescD) : List UInt8 := d.cls.flatMap txtPC ++ d.shs.flatMap txtPS
def txtID (d : DescD) : List UInt8 := d.cls.flatMap txtIC ++ d.shs.flatMap txtIS
theorem txtPC_eq {c : ClassD} (h : fitC c = true) : txtPC c = txtIC c := by
  unfold fitC fitsB at h
  simp only [Bool.and_eq_true] at h
  unfold txtPC txtIC
  rw [txtPs_eq h.2.2]
theorem txtPS_eq {s : ShapeD} (h : fitS s = true) : txtPS s = txtIS s := by
  unfold fitS fitsB at h
  simp only [Bool.and_eq_true] at h
  unfold txtPS txtIS
  rw [txtPs_eq h.2.2]
theorem flatMap_eq {α : Type} {p : α → Bool} {f g : α → List UInt8} (hfg : ∀ x, p x = true → f x = g x) : ∀ l : List α, l.all p = true → l.flatMap f = l.flatMap g
  | [], _ => rfl
  | a :: t, h => by
    simp only [List.all_cons, Bool.and_eq_true] at h
    rw [List.flatMap_cons, List.flatMap_cons, hfg a h.1, flatMap_eq hfg t h.2]
/-- What is printed is the document's text. -/
theorem txtD_eq {d : DescD} (h : fitD d = true) : txtPD d = txtID d := by
  unfold fitD at h
  simp only [Bool.and_eq_true] at h
  unfold txtPD txtID
  rw [flatMap_eq (fun x hx => txtPC_eq hx) _ h.1.2, flatMap_eq (fun x hx => txtPS_eq hx) _ h.2]
end Go.Proofs.YtobofhiakgohfaaDoor
