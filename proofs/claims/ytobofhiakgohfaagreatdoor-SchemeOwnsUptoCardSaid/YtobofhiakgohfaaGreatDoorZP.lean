/- Sets of numbers as rising pieces: plain Lean. What a description means: plain Lean. -/
import Derived.Test.YtobofhiakgohfaaGreatDoorZA
set_option linter.unusedVariables false
set_option linter.unusedSimpArgs false
namespace Go.Proofs.YtobofhiakgohfaaGreatDoor

abbrev Sp := Int × Int
/-- Is a number in one of the pieces? -/
def memS (l : List Sp) (x : Int) : Prop := ∃ s ∈ l, s.1 ≤ x ∧ x ≤ s.2
/-- Do the pieces rise, apart, behind 'last', up to top? -/
def okF (top : Int) : Int → List Sp → Bool
  | _, [] => true
  | last, r :: t => decide (0 ≤ r.1 ∧ r.1 ≤ r.2 ∧ r.2 ≤ top ∧ last < r.1 - 1) && okF top r.2 t
def okS (top : Int) (l : List Sp) : Bool := okF top (-2) l
theorem memS_nil (x : Int) : ¬ memS [] x := by rintro ⟨s, h, _⟩; cases h
theorem memS_cons (r : Sp) (t : List Sp) (x : Int) : memS (r :: t) x ↔ (r.1 ≤ x ∧ x ≤ r.2) ∨ memS t x := by
  unfold memS
  simp [List.mem_cons, or_and_right, exists_or]
theorem memS_append (a b : List Sp) (x : Int) : memS (a ++ b) x ↔ memS a x ∨ memS b x := by
  unfold memS
  simp [List.mem_append, or_and_right, exists_or]
theorem okF_cons {top last : Int} {r : Sp} {t : List Sp} : okF top last (r :: t) = true ↔ (0 ≤ r.1 ∧ r.1 ≤ r.2 ∧ r.2 ≤ top ∧ last < r.1 - 1) ∧ okF top r.2 t = true := by
  rw [okF, Bool.and_eq_true, decide_eq_true_eq]
theorem okF_mem {top : Int} : ∀ {l : List Sp} {last x : Int}, okF top last l = true → memS l x → last + 1 < x ∧ 0 ≤ x ∧ x ≤ top
  | [], last, x, h, hm => absurd hm (memS_nil x)
  | r :: t, last, x, h, hm => by
    obtain ⟨⟨h1, h2, h3, h4⟩, h5⟩ := okF_cons.1 h
    rcases (memS_cons r t x).1 hm with ⟨a, b⟩ | hm
    · omega
    · have := okF_mem h5 hm
      omega
theorem okF_lower {top last last' : Int} {l : List Sp} (h : okF top last l = true) (hl : last' ≤ last) : okF top last' l = true := by
  cases l with
  | nil => rfl
  | cons r t =>
    obtain ⟨⟨h1, h2, h3, h4⟩, h5⟩ := okF_cons.1 h
    exact okF_cons.2 ⟨⟨h1, h2, h3, by omega⟩, h5⟩
/-- Two lists of pieces with the same members are one. -/
theorem okF_eq {top : Int} : ∀ {l l' : List Sp} {last last' : Int}, okF top last l = true → okF top last' l' = true → (∀ x, memS l x ↔ memS l' x) → l = l'
  | [], [], _, _, _, _, _ => rfl
  | [], r :: t, _, _, _, h', hm => by
    obtain ⟨⟨h1, h2, h3, h4⟩, h5⟩ := okF_cons.1 h'
    exact absurd ((hm r.1).2 ((memS_cons _ _ _).2 (.inl ⟨Int.le_refl _, h2⟩))) (memS_nil _)
  | r :: t, [], _, _, h, _, hm => by
    obtain ⟨⟨h1, h2, h3, h4⟩, h5⟩ := okF_cons.1 h
    exact absurd ((hm r.1).1 ((memS_cons _ _ _).2 (.inl ⟨Int.le_refl _, h2⟩))) (memS_nil _)
  | r :: t, r' :: t', _, _, h, h', hm => by
    obtain ⟨⟨h1, h2, h3, h4⟩, h5⟩ := okF_cons.1 h
    obtain ⟨⟨k1, k2, k3, k4⟩, k5⟩ := okF_cons.1 h'
    have lowA : ∀ x, memS (r :: t) x → r.1 ≤ x := by
      intro x hx
      rcases (memS_cons _ _ _).1 hx with hx | hx
      · exact hx.1
      · have := okF_mem h5 hx; omega
    have lowB : ∀ x, memS (r' :: t') x → r'.1 ≤ x := by
      intro x hx
      rcases (memS_cons _ _ _).1 hx with hx | hx
      · exact hx.1
      · have := okF_mem k5 hx; omega
    have e1 : r.1 = r'.1 := by
      have a := lowB _ ((hm r.1).1 ((memS_cons _ _ _).2 (.inl ⟨Int.le_refl _, h2⟩)))
      have b := lowA _ ((hm r'.1).2 ((memS_cons _ _ _).2 (.inl ⟨Int.le_refl _, k2⟩)))
      omega
    have gapA : ¬ memS (r :: t) (r.2 + 1) := by
      intro hx
      rcases (memS_cons _ _ _).1 hx with hx | hx
      · omega
      · have := okF_mem h5 hx; omega
    have gapB : ¬ memS (r' :: t') (r'.2 + 1) := by
      intro hx
      rcases (memS_cons _ _ _).1 hx with hx | hx
      · omega
      · have := okF_mem k5 hx; omega
    have e2 : r.2 = r'.2 := by
      rcases Int.lt_trichotomy r.2 r'.2 with hl | hl | hl
      · exact absurd ((hm _).2 ((memS_cons _ _ _).2 (.inl ⟨by omega, by omega⟩))) gapA
      · exact hl
      · exact absurd ((hm _).1 ((memS_cons _ _ _).2 (.inl ⟨by omega, by omega⟩))) gapB
    have er : r = r' := Prod.ext e1 e2
    subst er
    congr 1
    refine okF_eq h5 k5 fun x => ⟨fun hx => ?_, fun hx => ?_⟩
    · have := okF_mem h5 hx
      rcases (memS_cons _ _ _).1 ((hm x).1 ((memS_cons _ _ _).2 (.inr hx))) with hy | hy
      · omega
      · exact hy
    · have := okF_mem k5 hx
      rcases (memS_cons _ _ _).1 ((hm x).2 ((memS_cons _ _ _).2 (.inr hx))) with hy | hy
      · omega
      · exact hy

/-! ## Pieces made one -/
def mrg1 (c : Sp) : List Sp → List Sp
  | [] => [c]
  | r :: t => if r.1 ≤ c.2 + 1 then mrg1 (c.1, max c.2 r.2) t else c :: mrg1 r t
def mrg : List Sp → List Sp
  | [] => []
  | r :: t => mrg1 r t
/-- Does a piece lie in 0 to top? -/
def fitsS (top : Int) (s : Sp) : Prop := 0 ≤ s.1 ∧ s.1 ≤ s.2 ∧ s.2 ≤ top
def risingS (l : List Sp) : Prop := l.Pairwise fun a b => a.1 ≤ b.1
theorem mrg1_ok {top : Int} : ∀ (t : List Sp) (c : Sp) (last : Int), risingS (c :: t) → (∀ s ∈ c :: t, fitsS top s) → last < c.1 - 1 → okF top last (mrg1 c t) = true ∧ ∀ x, memS (mrg1 c t) x ↔ memS (c :: t) x
  | [], c, last, hr, hf, hl => by
    have h := hf c (by simp)
    exact ⟨okF_cons.2 ⟨⟨h.1, h.2.1, h.2.2, hl⟩, rfl⟩, fun x => Iff.rfl⟩
  | r :: t, c, last, hr, hf, hl => by
    have hc := hf c (by simp)
    have hd := hf r (by simp)
    obtain ⟨hr1, hr2⟩ := List.pairwise_cons.1 hr
    obtain ⟨hr3, hr4⟩ := List.pairwise_cons.1 hr2
    have hcr := hr1 r (by simp)
    unfold fitsS at hc hd
    rw [mrg1]
    split
    · rename_i hle
      have ih := mrg1_ok (top := top) t (c.1, max c.2 r.2) last (List.pairwise_cons.2 ⟨fun b hb => hr1 b (by simp [hb]), hr4⟩) (by
        intro s hs
        rcases List.mem_cons.1 hs with rfl | hs
        · exact ⟨hc.1, by show c.1 ≤ max c.2 r.2; omega, by show max c.2 r.2 ≤ top; omega⟩
        · exact hf s (by simp [hs])) hl
      refine ⟨ih.1, fun x => (ih.2 x).trans ?_⟩
      rw [memS_cons, memS_cons, memS_cons]
      show (c.1 ≤ x ∧ x ≤ max c.2 r.2) ∨ _ ↔ _
      constructor
      · rintro (⟨a, b⟩ | h)
        · rcases Int.lt_or_le c.2 x with h1 | h1
          · exact .inr (.inl ⟨by omega, by omega⟩)
          · exact .inl ⟨a, h1⟩
        · exact .inr (.inr h)
      · rintro (⟨a, b⟩ | ⟨a, b⟩ | h)
        · exact .inl ⟨a, by omega⟩
        · exact .inl ⟨by omega, by omega⟩
        · exact .inr h
    · rename_i hgt
      have ih := mrg1_ok (top := top) t r c.2 hr2 (fun s hs => hf s (by simp [List.mem_cons.1 hs])) (by omega)
      refine ⟨okF_cons.2 ⟨⟨hc.1, hc.2.1, hc.2.2, hl⟩, ih.1⟩, fun x => ?_⟩
      rw [memS_cons, memS_cons, ih.2 x]
theorem mrg_ok {top : Int} {l : List Sp} (hr : risingS l) (hf : ∀ s ∈ l, fitsS top s) : okS top (mrg l) = true ∧ ∀ x, memS (mrg l) x ↔ memS l x := by
  cases l with
  | nil => exact ⟨rfl, fun x => Iff.rfl⟩
  | cons r t =>
    have := hf r (by simp)
    exact mrg1_ok t r (-2) hr hf (by unfold fitsS at this; omega)
/-- The set of what lies in the pieces. -/
def normS (l : List Sp) : List Sp := mrg (l.mergeSort fun a b => decide (a.1 ≤ b.1))
theorem memS_perm {a b : List Sp} (h : a.Perm b) (x : Int) : memS a x ↔ memS b x :=
  ⟨fun ⟨s, h1, h2⟩ => ⟨s, h.mem_iff.1 h1, h2⟩, fun ⟨s, h1, h2⟩ => ⟨s, h.mem_iff.2 h1, h2⟩⟩
theorem rising_sort (l : List Sp) : risingS (l.mergeSort fun a b => decide (a.1 ≤ b.1)) := by
  have := List.pairwise_mergeSort (le := fun a b : Sp => decide (a.1 ≤ b.1)) (fun a b c h1 h2 => by simp at h1 h2 ⊢; omega) (fun a b => by simp; omega) l
  exact this.imp fun h => by simpa using h
theorem norm_ok {top : Int} {l : List Sp} (hf : ∀ s ∈ l, fitsS top s) : okS top (normS l) = true ∧ ∀ x, memS (normS l) x ↔ memS l x := by
  have hp := List.mergeSort_perm l fun a b : Sp => decide (a.1 ≤ b.1)
  have h := mrg_ok (rising_sort l) (fun s hs => hf s (hp.mem_iff.1 hs))
  exact ⟨h.1, fun x => (h.2 x).trans (memS_perm hp x)⟩
theorem okS_eq {top : Int} {a b : List Sp} (ha : okS top a = true) (hb : okS top b = true) (h : ∀ x, memS a x ↔ memS b x) : a = b := okF_eq ha hb h
/-- Sorted whichever way. -/
theorem mrg_norm {top : Int} {l d : List Sp} (hp : d.Perm l) (hr : risingS d) (hf : ∀ s ∈ l, fitsS top s) : mrg d = normS l := by
  have h1 := mrg_ok (top := top) hr (fun s hs => hf s (hp.mem_iff.1 hs))
  have h2 := norm_ok hf
  exact okS_eq h1.1 h2.1 fun x => (h1.2 x).trans ((memS_perm hp x).trans (h2.2 x).symm)
theorem norm_same {top : Int} {a b : List Sp} (ha : ∀ s ∈ a, fitsS top s) (hb : ∀ s ∈ b, fitsS top s) (h : ∀ x, memS a x ↔ memS b x) : normS a = normS b :=
  okS_eq (norm_ok ha).1 (norm_ok hb).1 fun x => ((norm_ok ha).2 x).trans ((h x).trans ((norm_ok hb).2 x).symm)
theorem okF_fits {top : Int} : ∀ {l : List Sp} {last : Int}, okF top last l = true → ∀ s ∈ l, fitsS top s
  | [], _, _, s, hs => by cases hs
  | r :: t, _, h, s, hs => by
    obtain ⟨⟨h1, h2, h3, h4⟩, h5⟩ := okF_cons.1 h
    rcases List.mem_cons.1 hs with rfl | hs
    · exact ⟨h1, h2, h3⟩
    · exact okF_fits h5 s hs
theorem norm_of_ok {top : Int} {l : List Sp} (h : okS top l = true) : normS l = l :=
  okS_eq (norm_ok (okF_fits h)).1 h (norm_ok (okF_fits h)).2

/-! ## How many -/
def sizeL (l : List Sp) : Int := (l.map fun s => s.2 - s.1 + 1).sum
theorem sizeL_cons (r : Sp) (t : List Sp) : sizeL (r :: t) = (r.2 - r.1 + 1) + sizeL t := by simp [sizeL]
theorem sizeL_nil : sizeL [] = 0 := rfl
theorem sizeL_snoc (l : List Sp) (r : Sp) : sizeL (l ++ [r]) = sizeL l + (r.2 - r.1 + 1) := by simp [sizeL]
theorem okF_size {top : Int} : ∀ {l : List Sp} {last : Int}, okF top last l = true → last ≤ top → 0 ≤ sizeL l ∧ sizeL l ≤ top - last ∧ (l ≠ [] → 1 ≤ sizeL l ∧ sizeL l ≤ top - last - 1)
  | [], _, _, _ => ⟨by simp [sizeL], by simp [sizeL]; omega, fun h => absurd rfl h⟩
  | r :: t, last, h, ht => by
    obtain ⟨⟨h1, h2, h3, h4⟩, h5⟩ := okF_cons.1 h
    have := okF_size h5 h3
    rw [sizeL_cons]
    refine ⟨by omega, by omega, fun _ => by omega⟩
/-- How many numbers from a on, n at most, are so. -/
def cnt (m : Int → Bool) : Int → Nat → Int
  | _, 0 => 0
  | a, n + 1 => (if m a = true then 1 else 0) + cnt m (a + 1) n
theorem cnt_add (m : Int → Bool) : ∀ (p : Nat) (a : Int) (q : Nat), cnt m a (p + q) = cnt m a p + cnt m (a + p) q
  | 0, a, q => by simp [cnt]
  | p + 1, a, q => by
    rw [show p + 1 + q = (p + q) + 1 by omega, cnt, cnt, cnt_add m p (a + 1) q, show a + 1 + (p : Int) = a + ((p + 1 : Nat) : Int) by omega]
    omega
theorem cnt_none {m : Int → Bool} : ∀ (n : Nat) (a : Int), (∀ x, a ≤ x → x < a + n → m x = false) → cnt m a n = 0
  | 0, _, _ => rfl
  | n + 1, a, h => by
    rw [cnt, h a (by omega) (by omega), cnt_none n (a + 1) (fun x h1 h2 => h x (by omega) (by omega))]
    rfl
theorem cnt_all {m : Int → Bool} : ∀ (n : Nat) (a : Int), (∀ x, a ≤ x → x < a + n → m x = true) → cnt m a n = n
  | 0, _, _ => rfl
  | n + 1, a, h => by
    rw [cnt, h a (by omega) (by omega), cnt_all n (a + 1) (fun x h1 h2 => h x (by omega) (by omega))]
    simp; omega
theorem cnt_size {top : Int} (m : Int → Bool) : ∀ (l : List Sp) (last : Int) (a : Int) (n : Nat), okF top last l = true → a ≤ last + 2 → a + n = top + 1 → (∀ x, a ≤ x → x ≤ top → (m x = true ↔ memS l x)) → cnt m a n = sizeL l
  | [], last, a, n, h, ha, hn, hm => by
    rw [cnt_none n a (fun x h1 h2 => by
      cases hx : m x
      · rfl
      · exact absurd ((hm x h1 (by omega)).1 hx) (memS_nil x))]
    rfl
  | r :: t, last, a, n, h, ha, hn, hm => by
    obtain ⟨⟨h1, h2, h3, h4⟩, h5⟩ := okF_cons.1 h
    obtain ⟨p, hp⟩ := Int.eq_ofNat_of_zero_le (show 0 ≤ r.1 - a by omega)
    obtain ⟨q, hq⟩ := Int.eq_ofNat_of_zero_le (show 0 ≤ r.2 - r.1 + 1 by omega)
    obtain ⟨u, hu⟩ := Int.eq_ofNat_of_zero_le (show 0 ≤ top - r.2 by omega)
    obtain rfl : n = p + (q + u) := by omega
    rw [cnt_add, cnt_add, cnt_none p a (fun x k1 k2 => by
        cases hx : m x
        · rfl
        · rcases (memS_cons _ _ _).1 ((hm x k1 (by omega)).1 hx) with k | k
          · omega
          · have := okF_mem h5 k; omega),
      cnt_all q _ (fun x k1 k2 => (hm x (by omega) (by omega)).2 ((memS_cons _ _ _).2 (.inl ⟨by omega, by omega⟩))),
      cnt_size m t r.2 _ u h5 (by omega) (by omega) (fun x k1 k2 => (hm x (by omega) k2).trans ⟨fun k => by
        rcases (memS_cons _ _ _).1 k with k | k
        · omega
        · exact k, fun k => (memS_cons _ _ _).2 (.inr k)⟩), sizeL_cons]
    omega

/-! ## The set of members -/
def sing (m : Int → Bool) : Int → Nat → List Sp
  | _, 0 => []
  | a, n + 1 => if m a = true then (a, a) :: sing m (a + 1) n else sing m (a + 1) n
theorem sing_mem (m : Int → Bool) : ∀ (n : Nat) (a : Int) (s : Sp), s ∈ sing m a n → s.1 = s.2 ∧ a ≤ s.1 ∧ s.1 < a + n ∧ m s.1 = true
  | 0, a, s, h => by cases h
  | n + 1, a, s, h => by
    rw [sing] at h
    split at h
    · rename_i hm
      rcases List.mem_cons.1 h with rfl | h
      · exact ⟨rfl, by simp, by simp; omega, hm⟩
      · have := sing_mem m n (a + 1) s h
        exact ⟨this.1, by omega, by omega, this.2.2.2⟩
    · have := sing_mem m n (a + 1) s h
      exact ⟨this.1, by omega, by omega, this.2.2.2⟩
theorem sing_memS (m : Int → Bool) : ∀ (n : Nat) (a x : Int), memS (sing m a n) x ↔ a ≤ x ∧ x < a + n ∧ m x = true
  | 0, a, x => ⟨fun h => absurd h (memS_nil x), fun h => by omega⟩
  | n + 1, a, x => by
    rw [sing]
    split
    · rename_i hm
      rw [memS_cons, sing_memS m n (a + 1) x]
      constructor
      · rintro (⟨h1, h2⟩ | ⟨h1, h2, h3⟩)
        · obtain rfl : x = a := by simp at h1 h2; omega
          exact ⟨by omega, by omega, hm⟩
        · exact ⟨by omega, by omega, h3⟩
      · rintro ⟨h1, h2, h3⟩
        by_cases e : x = a
        · exact .inl ⟨by simp; omega, by simp; omega⟩
        · exact .inr ⟨by omega, by omega, h3⟩
    · rename_i hm
      rw [sing_memS m n (a + 1) x]
      constructor
      · rintro ⟨h1, h2, h3⟩
        exact ⟨by omega, by omega, h3⟩
      · rintro ⟨h1, h2, h3⟩
        by_cases e : x = a
        · subst e; exact absurd h3 hm
        · exact ⟨by omega, by omega, h3⟩
theorem sing_rising (m : Int → Bool) : ∀ (n : Nat) (a : Int), risingS (sing m a n)
  | 0, a => List.Pairwise.nil
  | n + 1, a => by
    rw [sing]
    split
    · exact List.pairwise_cons.2 ⟨fun b hb => by have := sing_mem m n (a + 1) b hb; show a ≤ b.1; omega, sing_rising m n (a + 1)⟩
    · exact sing_rising m n (a + 1)
/-- The set of the members among 0 to n - 1. -/
def setM (m : Int → Bool) (n : Nat) : List Sp := mrg (sing m 0 n)
theorem setM_ok (m : Int → Bool) (n : Nat) : okS ((n : Int) - 1) (setM m n) = true ∧ ∀ x, memS (setM m n) x ↔ 0 ≤ x ∧ x < n ∧ m x = true := by
  have h := mrg_ok (top := (n : Int) - 1) (sing_rising m n 0) (fun s hs => by have := sing_mem m n 0 s hs; exact ⟨by omega, by omega, by omega⟩)
  exact ⟨h.1, fun x => (h.2 x).trans ((sing_memS m n 0 x).trans (by simp))⟩

/-! ## What is in both -/
def meetL : List Sp → List Sp → List Sp
  | [], _ => []
  | _ :: _, [] => []
  | x :: a, y :: b => (if max x.1 y.1 ≤ min x.2 y.2 then [(max x.1 y.1, min x.2 y.2)] else []) ++ (if x.2 < y.2 then meetL a (y :: b) else meetL (x :: a) b)
termination_by a b => a.length + b.length
theorem meetL_mem {top : Int} : ∀ (a b : List Sp) (la lb : Int), okF top la a = true → okF top lb b = true → ∀ x, memS (meetL a b) x ↔ memS a x ∧ memS b x
  | [], b, _, _, _, _, x => by rw [meetL]; exact ⟨fun h => absurd h (memS_nil x), fun h => absurd h.1 (memS_nil x)⟩
  | r :: t, [], _, _, _, _, x => by rw [meetL]; exact ⟨fun h => absurd h (memS_nil x), fun h => absurd h.2 (memS_nil x)⟩
  | r :: t, y :: b, la, lb, h, h', x => by
    obtain ⟨⟨h1, h2, h3, h4⟩, h5⟩ := okF_cons.1 h
    obtain ⟨⟨k1, k2, k3, k4⟩, k5⟩ := okF_cons.1 h'
    have hfst : memS (if max r.1 y.1 ≤ min r.2 y.2 then [(max r.1 y.1, min r.2 y.2)] else []) x ↔ (r.1 ≤ x ∧ x ≤ r.2) ∧ (y.1 ≤ x ∧ x ≤ y.2) := by
      split
      · rw [memS_cons]
        show (max r.1 y.1 ≤ x ∧ x ≤ min r.2 y.2) ∨ _ ↔ _
        constructor
        · rintro (⟨a1, a2⟩ | h)
          · omega
          · exact absurd h (memS_nil x)
        · intro h; exact .inl (by omega)
      · constructor
        · intro h; exact absurd h (memS_nil x)
        · intro h; omega
    rw [meetL, memS_append, hfst]
    split
    · rename_i hlt
      rw [meetL_mem t (y :: b) r.2 lb h5 h' x, memS_cons y b, memS_cons r t]
      constructor
      · rintro (⟨a1, a2⟩ | ⟨a1, a2⟩)
        · exact ⟨.inl a1, .inl a2⟩
        · exact ⟨.inr a1, a2⟩
      · rintro ⟨a1 | a1, a2 | a2⟩
        · exact .inl ⟨a1, a2⟩
        · have := okF_mem k5 a2; omega
        · exact .inr ⟨a1, .inl a2⟩
        · exact .inr ⟨a1, .inr a2⟩
    · rename_i hge
      rw [meetL_mem (r :: t) b la y.2 h k5 x, memS_cons y b, memS_cons r t]
      constructor
      · rintro (⟨a1, a2⟩ | ⟨a1, a2⟩)
        · exact ⟨.inl a1, .inl a2⟩
        · exact ⟨a1, .inr a2⟩
      · rintro ⟨a1 | a1, a2 | a2⟩
        · exact .inl ⟨a1, a2⟩
        · exact .inr ⟨.inl a1, a2⟩
        · have := okF_mem h5 a1; omega
        · exact .inr ⟨.inr a1, a2⟩
termination_by a b => a.length + b.length
theorem meetL_some : ∀ (a b : List Sp), ∀ s ∈ meetL a b, s.1 ≤ s.2
  | [], b, s, hs => by rw [meetL] at hs; cases hs
  | r :: t, [], s, hs => by rw [meetL] at hs; cases hs
  | r :: t, y :: b, s, hs => by
    rw [meetL] at hs
    rcases List.mem_append.1 hs with hs | hs
    · split at hs
      · simp only [List.mem_singleton] at hs
        subst hs
        assumption
      · cases hs
    · split at hs
      · exact meetL_some t (y :: b) s hs
      · exact meetL_some (r :: t) b s hs
termination_by a b => a.length + b.length
theorem meetL_ne {top la lb : Int} {a b : List Sp} (h : okF top la a = true) (h' : okF top lb b = true) : meetL a b ≠ [] ↔ ∃ x, memS a x ∧ memS b x := by
  constructor
  · intro hne
    obtain ⟨s, t, e⟩ := List.exists_cons_of_ne_nil hne
    have hs := meetL_some a b s (by rw [e]; simp)
    exact ⟨s.1, (meetL_mem a b la lb h h' s.1).1 (by rw [e, memS_cons]; exact .inl ⟨Int.le_refl _, hs⟩)⟩
  · rintro ⟨x, hx⟩ e
    have := (meetL_mem a b la lb h h' x).2 hx
    rw [e] at this
    exact memS_nil x this
theorem meetL_len : ∀ (a b : List Sp), (meetL a b).length ≤ a.length + b.length
  | [], b => by rw [meetL]; simp
  | r :: t, [] => by rw [meetL]; simp
  | r :: t, y :: b => by
    rw [meetL, List.length_append]
    have e1 : (if max r.1 y.1 ≤ min r.2 y.2 then [(max r.1 y.1, min r.2 y.2)] else []).length ≤ 1 := by split <;> simp
    by_cases hlt : r.2 < y.2
    · rw [if_pos hlt]
      have := meetL_len t (y :: b)
      simp only [List.length_cons] at this ⊢
      omega
    · rw [if_neg hlt]
      have := meetL_len (r :: t) b
      simp only [List.length_cons] at this ⊢
      omega
termination_by a b => a.length + b.length
end Go.Proofs.YtobofhiakgohfaaGreatDoor

namespace Go.Proofs.YtobofhiakgohfaaGreatDoor

structure ShpD where
  parts : List (List Sp)
  first : Int
abbrev SchD := List ShpD
/-- How many bytes a set has; a list that is none has no bytes. -/
def szB (s : List Sp) : Int := if okS 255 s = true then sizeL s else 0
def cntP (l : List (List Sp)) : Int := l.foldl (fun n s => min (n * szB s) (1073741825)) 1
def lastB (p : ShpD) : Int := p.first + cntP p.parts - 1
/-- The classes so far. -/
abbrev ClsT := List (ByteArray × List Sp)
def lookB (cl : ClsT) (nm : ByteArray) : Option (List Sp) := (cl.find? fun p => p.1.data.toList == nm.data.toList).map (·.2)
def setI (cl : ClsT) (x : ItemD) : Option (List Sp) := if x.nm.data.toList = [] then some [(x.lo, x.hi)] else lookB cl x.nm
def itemsB (cl : ClsT) : List ItemD → Except (Int × Int) (List (List Sp))
  | [] => .ok []
  | x :: t => match setI cl x with
    | none => .error (x.pl, 81)
    | some s => match itemsB cl t with
      | .error e => .error e
      | .ok l => .ok (s :: l)
def classB (cl : ClsT) (c : ClassD) : Except (Int × Int) ClsT :=
  if (lookB cl c.nm).isSome = true then .error (c.pl, 80) else
  match itemsB cl c.its with
  | .error e => .error e
  | .ok ss => .ok (cl ++ [(c.nm, normS ss.flatten)])
def classesB : ClsT → List ClassD → Except (Int × Int) ClsT
  | cl, [] => .ok cl
  | cl, c :: t => match classB cl c with
    | .error e => .error e
    | .ok cl' => classesB cl' t
/-- Does a shape have a scalar that one ahead of it has? -/
def overB (out : SchD) (p : ShpD) : Bool := out.any fun q => decide (p.first ≤ lastB q ∧ q.first ≤ lastB p)
def shapeB (cl : ClsT) (out : SchD) (s : ShapeD) : Except (Int × Int) SchD :=
  match itemsB cl s.its with
  | .error e => .error e
  | .ok parts => if 1073741823 < lastB ⟨parts, s.first⟩ then .error (s.pl, 82) else if overB out ⟨parts, s.first⟩ = true then .error (s.pl, 83) else .ok (out ++ [⟨parts, s.first⟩])
def shapesB (cl : ClsT) : SchD → List ShapeD → Except (Int × Int) SchD
  | out, [] => .ok out
  | out, s :: t => match shapeB cl out s with
    | .error e => .error e
    | .ok out' => shapesB cl out' t
/-- What a description means. -/
def buildR (d : DescD) : Except (Int × Int) SchD :=
  if fitD d = false then .error (0, 70) else
  match classesB [] d.cls with
  | .error e => .error e
  | .ok cl => shapesB cl [] d.shs

/-! ## Sets that are not empty -/
def goodS (s : List Sp) : Prop := okS 255 s = true ∧ s ≠ []
theorem goodS_size {s : List Sp} (h : goodS s) : 1 ≤ szB s ∧ szB s ≤ 256 := by
  unfold szB
  rw [if_pos h.1]
  have := (okF_size (top := 255) (last := -2) h.1 (by omega)).2.2 h.2
  omega
theorem szB_bd (s : List Sp) : 0 ≤ szB s ∧ szB s ≤ 256 := by
  unfold szB
  split
  · rename_i h
    by_cases hs : s = []
    · subst hs; simp [sizeL]
    · have := goodS_size (s := s) ⟨h, hs⟩
      unfold szB at this
      rw [if_pos h] at this
      omega
  · omega
theorem cntP_snoc (l : List (List Sp)) (s : List Sp) : cntP (l ++ [s]) = min (cntP l * szB s) (1073741825) := by simp [cntP]
theorem cntF_bd : ∀ (l : List (List Sp)) (n : Int), 0 ≤ n → n ≤ 1073741825 → 0 ≤ l.foldl (fun n s => min (n * szB s) (1073741825)) n ∧ l.foldl (fun n s => min (n * szB s) (1073741825)) n ≤ 1073741825
  | [], n, h0, h1 => ⟨h0, h1⟩
  | s :: t, n, h0, h1 => by
    have := szB_bd s
    have : 0 ≤ n * szB s := Int.mul_nonneg h0 this.1
    exact cntF_bd t (min (n * szB s) 1073741825) (by omega) (by omega)
theorem cntP_bd (l : List (List Sp)) : 0 ≤ cntP l ∧ cntP l ≤ 1073741825 := cntF_bd l 1 (by omega) (by omega)
theorem cntF_pos : ∀ (l : List (List Sp)) (n : Int), 1 ≤ n → (∀ s ∈ l, goodS s) → 1 ≤ l.foldl (fun n s => min (n * szB s) (1073741825)) n
  | [], n, h0, _ => h0
  | s :: t, n, h0, h => by
    have h2 := goodS_size (h s (by simp))
    have : 1 * 1 ≤ n * szB s := Int.mul_le_mul h0 h2.1 (by omega) (by omega)
    exact cntF_pos t (min (n * szB s) 1073741825) (by omega) (fun s hs => h s (by simp [hs]))
theorem cntP_pos {l : List (List Sp)} (h : ∀ s ∈ l, goodS s) : 1 ≤ cntP l := cntF_pos l 1 (by omega) h
def goodC (cl : ClsT) : Prop := ∀ p ∈ cl, goodS p.2
theorem lookB_good {cl : ClsT} (h : goodC cl) {nm : ByteArray} {s : List Sp} (e : lookB cl nm = some s) : goodS s := by
  unfold lookB at e
  cases hf : cl.find? (fun p => p.1.data.toList == nm.data.toList) with
  | none => rw [hf] at e; cases e
  | some p =>
    rw [hf] at e
    cases e
    exact h p (List.mem_of_find?_eq_some hf)
theorem setI_good {cl : ClsT} (h : goodC cl) {x : ItemD} (hx : fitB x = true) {s : List Sp} (e : setI cl x = some s) : goodS s := by
  unfold setI at e
  unfold fitB at hx
  split at e
  · rename_i h0
    rw [if_pos h0, decide_eq_true_eq] at hx
    cases e
    exact ⟨okF_cons.2 ⟨⟨hx.1, hx.2.1, hx.2.2, by omega⟩, rfl⟩, by simp⟩
  · exact lookB_good h e
theorem itemsB_good {cl : ClsT} (h : goodC cl) : ∀ {l : List ItemD} {ss : List (List Sp)}, (∀ x ∈ l, fitB x = true) → itemsB cl l = .ok ss → (∀ s ∈ ss, goodS s) ∧ ss.length = l.length
  | [], ss, _, e => by cases e; exact ⟨fun s hs => (by cases hs), rfl⟩
  | x :: t, ss, hx, e => by
    rw [itemsB] at e
    cases hs : setI cl x with
    | none => rw [hs] at e; cases e
    | some s =>
      rw [hs] at e
      cases ht : itemsB cl t with
      | error e' => rw [ht] at e; cases e
      | ok l =>
        rw [ht] at e
        cases e
        have ih := itemsB_good h (fun x hx' => hx x (by simp [hx'])) ht
        refine ⟨fun y hy => ?_, by simp [ih.2]⟩
        rcases List.mem_cons.1 hy with rfl | hy
        · exact setI_good h (hx x (by simp)) hs
        · exact ih.1 y hy
theorem goodS_fits {s : List Sp} (h : goodS s) : ∀ x ∈ s, fitsS 255 x := okF_fits h.1
theorem flat_fits {ss : List (List Sp)} (h : ∀ s ∈ ss, goodS s) : ∀ x ∈ ss.flatten, fitsS 255 x := by
  intro x hx
  obtain ⟨s, hs, hx⟩ := List.mem_flatten.1 hx
  exact goodS_fits (h s hs) x hx
theorem norm_good {ss : List (List Sp)} (h : ∀ s ∈ ss, goodS s) (hne : ss ≠ []) : goodS (normS ss.flatten) := by
  have hn := norm_ok (top := 255) (flat_fits h)
  refine ⟨hn.1, fun e => ?_⟩
  obtain ⟨s, t, rfl⟩ := List.exists_cons_of_ne_nil hne
  have hs := h s (by simp)
  obtain ⟨r, u, hru⟩ := List.exists_cons_of_ne_nil hs.2
  have hr := goodS_fits hs r (by rw [hru]; simp)
  have : memS (normS (s :: t).flatten) r.1 := (hn.2 r.1).2 ⟨r, by rw [List.flatten_cons, hru]; simp, Int.le_refl _, hr.2.1⟩
  rw [e] at this
  exact memS_nil _ this
theorem fitsB_all {n : Nat} {l : List ItemD} (h : fitsB n l = true) : (∀ x ∈ l, fitB x = true) ∧ l ≠ [] ∧ l.length ≤ n := by
  unfold fitsB at h
  simp only [Bool.and_eq_true, decide_eq_true_eq, List.all_eq_true] at h
  exact ⟨h.2, fun e => by rw [e] at h; simp at h, h.1.2⟩
theorem classB_good {cl cl' : ClsT} {c : ClassD} (h : goodC cl) (hc : fitC c = true) (e : classB cl c = .ok cl') : goodC cl' := by
  unfold fitC at hc
  rw [Bool.and_eq_true] at hc
  obtain ⟨h1, h2, _⟩ := fitsB_all hc.2
  unfold classB at e
  split at e
  · cases e
  · cases hi : itemsB cl c.its with
    | error x => rw [hi] at e; cases e
    | ok ss =>
      rw [hi] at e
      cases e
      obtain ⟨k1, k2⟩ := itemsB_good h h1 hi
      intro p hp
      rcases List.mem_append.1 hp with hp | hp
      · exact h p hp
      · simp only [List.mem_singleton] at hp
        subst hp
        exact norm_good k1 (fun e => h2 (List.eq_nil_of_length_eq_zero (by rw [← k2, e]; rfl)))

/-! ## Scalars that are taken -/
def goodP (p : ShpD) : Prop := 0 ≤ p.first ∧ p.first ≤ lastB p ∧ lastB p ≤ 1073741823
def rngs (out : SchD) : List Sp := out.map fun p => (p.first, lastB p)
def takenOf (out : SchD) : List Sp := normS (rngs out)
theorem rngs_fits {out : SchD} (h : ∀ p ∈ out, goodP p) : ∀ s ∈ rngs out, fitsS 1073741823 s := by
  intro s hs
  obtain ⟨p, hp, rfl⟩ := List.mem_map.1 hs
  exact ⟨(h p hp).1, (h p hp).2.1, (h p hp).2.2⟩
theorem taken_ok {out : SchD} (h : ∀ p ∈ out, goodP p) : okS 1073741823 (takenOf out) = true := (norm_ok (rngs_fits h)).1
theorem taken_mem {out : SchD} (h : ∀ p ∈ out, goodP p) (x : Int) : memS (takenOf out) x ↔ ∃ p ∈ out, p.first ≤ x ∧ x ≤ lastB p := by
  refine ((norm_ok (rngs_fits h)).2 x).trans ⟨?_, ?_⟩
  · rintro ⟨s, hs, h1⟩
    obtain ⟨p, hp, rfl⟩ := List.mem_map.1 hs
    exact ⟨p, hp, h1⟩
  · rintro ⟨p, hp, h1⟩
    exact ⟨_, List.mem_map.2 ⟨p, hp, rfl⟩, h1⟩
theorem one_ok {p : ShpD} (h : goodP p) : okS 1073741823 [(p.first, lastB p)] = true := okF_cons.2 ⟨⟨h.1, h.2.1, h.2.2, by have := h.1; show (-2 : Int) < p.first - 1; omega⟩, rfl⟩
/-- The pieces of both are none just where no shape ahead meets it. -/
theorem taken_meet {out : SchD} {p : ShpD} (h : ∀ p ∈ out, goodP p) (hp : goodP p) : meetL (takenOf out) [(p.first, lastB p)] ≠ [] ↔ overB out p = true := by
  rw [meetL_ne (taken_ok h) (one_ok hp)]
  unfold overB
  rw [List.any_eq_true]
  constructor
  · rintro ⟨x, h1, h2⟩
    obtain ⟨q, hq, a, b⟩ := (taken_mem h x).1 h1
    rcases (memS_cons _ _ _).1 h2 with ⟨c, d⟩ | h2
    · exact ⟨q, hq, decide_eq_true ⟨by show p.first ≤ _; exact Int.le_trans c b, by exact Int.le_trans a d⟩⟩
    · exact absurd h2 (memS_nil _)
  · rintro ⟨q, hq, hd⟩
    rw [decide_eq_true_eq] at hd
    have hgq := h q hq
    refine ⟨max p.first q.first, (taken_mem h _).2 ⟨q, hq, by omega, by have := hgq.2.1; omega⟩, (memS_cons _ _ _).2 (.inl ⟨by show p.first ≤ _; omega, by show _ ≤ lastB p; have := hp.2.1; omega⟩)⟩
theorem taken_snoc {out : SchD} {p : ShpD} (h : ∀ p ∈ out, goodP p) (hp : goodP p) : normS (takenOf out ++ [(p.first, lastB p)]) = takenOf (out ++ [p]) := by
  have hn := norm_ok (rngs_fits h)
  have hp1 : fitsS 1073741823 (p.first, lastB p) := ⟨hp.1, hp.2.1, hp.2.2⟩
  refine norm_same (top := 1073741823) (fun s hs => ?_) (rngs_fits (out := out ++ [p]) (fun q hq => ?_)) (fun x => ?_)
  · rcases List.mem_append.1 hs with hs | hs
    · exact okF_fits hn.1 s hs
    · simp only [List.mem_singleton] at hs; subst hs; exact hp1
  · rcases List.mem_append.1 hq with hq | hq
    · exact h q hq
    · simp only [List.mem_singleton] at hq; subst hq; exact hp
  · unfold rngs
    rw [memS_append, List.map_append, memS_append]
    show memS (takenOf out) x ∨ _ ↔ memS (rngs out) x ∨ _
    rw [show memS (takenOf out) x ↔ memS (rngs out) x from hn.2 x]
    rfl

/-! ## Valid -/
def vShape (p : ShpD) : Bool := decide (1 ≤ p.parts.length ∧ p.parts.length ≤ 8 ∧ 0 ≤ p.first ∧ p.first ≤ 1073741823) && p.parts.all (fun s => !s.isEmpty && okS 255 s) && decide (lastB p ≤ 1073741823)
/-- Shape by shape: each may be, none meets one ahead. -/
def validF : SchD → SchD → Bool
  | _, [] => true
  | out, p :: t => vShape p && !overB out p && validF (out ++ [p]) t
def validR (s : SchD) : Bool := decide (s.length ≤ 32) && validF [] s
theorem good_vShape {p : ShpD} (h1 : 1 ≤ p.parts.length) (h2 : p.parts.length ≤ 8) (h3 : 0 ≤ p.first) (hg : ∀ s ∈ p.parts, goodS s) (hl : lastB p ≤ 1073741823) : vShape p = true := by
  have := cntP_pos hg
  unfold vShape
  simp only [Bool.and_eq_true, decide_eq_true_eq, List.all_eq_true, Bool.not_eq_true']
  refine ⟨⟨⟨h1, h2, h3, by unfold lastB at hl; omega⟩, fun s hs => ⟨?_, (hg s hs).1⟩⟩, hl⟩
  cases hs' : s with
  | nil => exact absurd hs' (hg s hs).2
  | cons a b => rfl
theorem validF_snoc : ∀ (l out : SchD) (p : ShpD), validF out (l ++ [p]) = (validF out l && vShape p && !overB (out ++ l) p)
  | [], out, p => by simp [validF]
  | q :: t, out, p => by
    rw [List.cons_append, validF, validF, validF_snoc t (out ++ [q]) p, List.append_assoc, List.singleton_append]
    simp only [Bool.and_assoc]
theorem validR_good {s : SchD} (h : validF [] s = true) : ∀ p ∈ s, vShape p = true := by
  have key : ∀ (l out : SchD), validF out l = true → ∀ p ∈ l, vShape p = true := by
    intro l
    induction l with
    | nil => intro out _ p hp; cases hp
    | cons q t ih =>
      intro out h p hp
      rw [validF] at h
      simp only [Bool.and_eq_true] at h
      rcases List.mem_cons.1 hp with rfl | hp
      · exact h.1.1
      · exact ih _ h.2 p hp
  exact key s [] h

/-! ## What is built is valid -/
theorem shapesB_valid {cl : ClsT} (hcl : goodC cl) : ∀ {l : List ShapeD} {out s : SchD}, (∀ x ∈ l, fitS x = true) → validF [] out = true → shapesB cl out l = .ok s → validF [] s = true ∧ s.length = out.length + l.length
  | [], out, s, _, hv, e => by cases e; exact ⟨hv, rfl⟩
  | x :: t, out, s, hx, hv, e => by
    rw [shapesB] at e
    have hf := hx x (by simp)
    unfold fitS at hf
    simp only [Bool.and_eq_true, decide_eq_true_eq] at hf
    obtain ⟨f1, f2, f3⟩ := fitsB_all hf.2
    cases hs : shapeB cl out x with
    | error y => rw [hs] at e; cases e
    | ok out' =>
      rw [hs] at e
      unfold shapeB at hs
      cases hi : itemsB cl x.its with
      | error y => rw [hi] at hs; cases hs
      | ok parts =>
        rw [hi] at hs
        simp only [] at hs
        split at hs
        · cases hs
        · split at hs
          · cases hs
          · rename_i hm ho
            cases hs
            obtain ⟨k1, k2⟩ := itemsB_good hcl f1 hi
            have hne : 0 < x.its.length := List.length_pos_iff.2 f2
            have hvs : vShape ⟨parts, x.first⟩ = true := good_vShape (by show 1 ≤ parts.length; omega) (by show parts.length ≤ 8; omega) hf.1.1 k1 (by omega)
            have ih := shapesB_valid hcl (fun y hy => hx y (by simp [hy])) (by rw [validF_snoc, hv, hvs]; simp at ho ⊢; exact ho) e
            exact ⟨ih.1, by rw [ih.2]; simp; omega⟩
theorem classesB_good : ∀ {l : List ClassD} {cl cl' : ClsT}, goodC cl → (∀ c ∈ l, fitC c = true) → classesB cl l = .ok cl' → goodC cl'
  | [], cl, cl', h, _, e => by cases e; exact h
  | c :: t, cl, cl', h, hc, e => by
    rw [classesB] at e
    cases hx : classB cl c with
    | error y => rw [hx] at e; cases e
    | ok cl2 =>
      rw [hx] at e
      exact classesB_good (classB_good h (hc c (by simp)) hx) (fun c hc' => hc c (by simp [hc'])) e
theorem buildR_valid {d : DescD} {s : SchD} (h : buildR d = .ok s) : validR s = true := by
  unfold buildR at h
  split at h
  · cases h
  · rename_i hf
    have hf : fitD d = true := by simpa using hf
    unfold fitD at hf
    simp only [Bool.and_eq_true, decide_eq_true_eq, List.all_eq_true] at hf
    cases hc : classesB [] d.cls with
    | error y => rw [hc] at h; cases h
    | ok cl =>
      rw [hc] at h
      have hg := classesB_good (fun p hp => by cases hp) hf.1.2 hc
      have := shapesB_valid hg hf.2 rfl h
      unfold validR
      rw [this.1, Bool.and_true, decide_eq_true_eq, this.2]
      simp; omega
end Go.Proofs.YtobofhiakgohfaaGreatDoor
