/- Tokens with their texts; what is printed is read back: plain Lean. What is read has a text: plain Lean. -/
import Derived.Test.YtobofhiakgohfaaGreatDoorZJ
import Derived.Test.YtobofhiakgohfaaGreatDoorZA
import Derived.Test.YtobofhiakgohfaaGreatDoorZI
set_option linter.unusedVariables false
namespace Go.Proofs.YtobofhiakgohfaaGreatDoor
open Go.RowKit

/-- The tokens, with their texts. -/
def toksT (cm : Bool) : Option (Nat × List UInt8) → Nat → List UInt8 → TVl
  | some (f, w), k, [] => [(1, ⟨w.toArray⟩, (f : Int)), (3, ⟨#[]⟩, (k : Int))]
  | none, k, [] => [(3, ⟨#[]⟩, (k : Int))]
  | some (f, w), k, c :: t => if inWordB c = true then toksT cm (some (f, w ++ [c])) (k + 1) t else
      (1, ⟨w.toArray⟩, (f : Int)) :: (if c = 10 then (2, ⟨#[10]⟩, (k : Int)) :: toksT false none (k + 1) t
      else if cm = true ∨ blankB c = true then toksT cm none (k + 1) t
      else if c = 35 then toksT true none (k + 1) t
      else [(4, ⟨#[c]⟩, (k : Int))])
  | none, k, c :: t => if c = 10 then (2, ⟨#[10]⟩, (k : Int)) :: toksT false none (k + 1) t
      else if cm = true ∨ blankB c = true then toksT cm none (k + 1) t
      else if c = 35 then toksT true none (k + 1) t
      else if inWordB c = true then toksT cm (some (k, [c])) (k + 1) t
      else [(4, ⟨#[c]⟩, (k : Int))]

/-- What a text means, out of its bytes. -/
def parseL (l : List UInt8) : Except (Int × Int) DescD := runT d0 0 (toksT false none 0 l)
/-- A word ends here. -/
def wend (r : List UInt8) : Prop := r = [] ∨ ∃ c t, r = c :: t ∧ inWordB c = false
theorem toksT_run : ∀ (w v : List UInt8) (cm : Bool) (f k : Nat) (r : List UInt8), w.all inWordB = true → wend r →
    toksT cm (some (f, v)) k (w ++ r) = (1, ⟨(v ++ w).toArray⟩, (f : Int)) :: toksT cm none (k + w.length) r
  | [], v, cm, f, k, r, _, hr => by
    rw [List.nil_append, List.append_nil]
    rcases hr with rfl | ⟨c, t, rfl, hc⟩
    · rw [toksT, toksT]; rfl
    · rw [toksT, if_neg (by simp [hc])]
      congr 1
      show _ = toksT cm none k (c :: t)
      conv => rhs; rw [toksT]
      rw [if_neg (show ¬ inWordB c = true by simp [hc])]
  | c :: w, v, cm, f, k, r, hw, hr => by
    simp only [List.all_cons, Bool.and_eq_true] at hw
    rw [List.cons_append, toksT, if_pos hw.1, toksT_run w (v ++ [c]) cm f (k + 1) r hw.2 hr]
    rw [List.append_assoc, List.length_cons, show k + 1 + w.length = k + (w.length + 1) by omega]
    rfl
/-- A word. -/
theorem toksT_word {w r : List UInt8} (k : Nat) (h0 : w ≠ []) (hw : w.all inWordB = true) (hr : wend r) : toksT false none k (w ++ r) = (1, ⟨w.toArray⟩, (k : Int)) :: toksT false none (k + w.length) r := by
  cases w with
  | nil => exact absurd rfl h0
  | cons c w =>
    simp only [List.all_cons, Bool.and_eq_true] at hw
    obtain ⟨h1, h2, h3⟩ := inWord_not hw.1
    rw [List.cons_append, toksT, if_neg h1, if_neg (by simp [h2]), if_neg h3, if_pos hw.1, toksT_run w [c] false k (k + 1) r hw.2 hr]
    rw [List.length_cons, show k + 1 + w.length = k + (w.length + 1) by omega]
    rfl
theorem toksT_blank (k : Nat) (r : List UInt8) : toksT false none k (32 :: r) = toksT false none (k + 1) r := by
  rw [toksT, if_neg (by decide), if_pos (.inr (by decide))]
theorem toksT_line (k : Nat) (r : List UInt8) : toksT false none k (10 :: r) = (2, ⟨#[10]⟩, (k : Int)) :: toksT false none (k + 1) r := by
  rw [toksT, if_pos rfl]
theorem wend_blank (r : List UInt8) : wend (32 :: r) := .inr ⟨32, r, rfl, by decide⟩
theorem wend_line (r : List UInt8) : wend (10 :: r) := .inr ⟨10, r, rfl, by decide⟩

/-! ## But for places -/
def erI (x : ItemD) : ItemD := ⟨x.nm, x.lo, x.hi, 0⟩
def erC (c : ClassD) : ClassD := ⟨c.nm, c.its.map erI, 0⟩
def erS (s : ShapeD) : ShapeD := ⟨s.its.map erI, s.first, 0⟩
def erD (d : DescD) : DescD := ⟨d.cls.map erC, d.shs.map erS⟩
/-! ## The text of a description is one of words -/
theorem name_word {l : List UInt8} (h : nameB l = true) : l ≠ [] ∧ l.all inWordB = true := by
  unfold nameB at h
  simp only [Bool.and_eq_true] at h
  refine ⟨?_, ?_⟩
  · rintro rfl
    exact absurd h.1.2 (by decide)
  · rw [List.all_eq_true] at h ⊢
    intro c hc
    have := h.2 c hc
    simp only [letterB, digitB, Bool.or_eq_true, Bool.and_eq_true, decide_eq_true_eq] at this
    simp only [inWordB, Bool.and_eq_true, decide_eq_true_eq, bne_iff_ne]
    omega
theorem hexd_word : ∀ n, n < 16 → inWordB (hexd n) = true ∧ letterB (hexd n) = false := by
  have h : ∀ n : Fin 16, inWordB (hexd n.val) = true ∧ letterB (hexd n.val) = false := by decide
  exact fun n hn => h ⟨n, hn⟩
theorem digL_word (c : UInt8) : (digL [c]).all inWordB = true := by
  have := c.toNat_lt
  rw [digL_one]
  simp [(hexd_word (c.toNat / 16) (by omega)).1, (hexd_word (c.toNat % 16) (by omega)).1]
theorem txtI_word {x : ItemD} (h : fitB x = true) : txtI x ≠ [] ∧ (txtI x).all inWordB = true := by
  refine ⟨txtI_ne x, ?_⟩
  unfold fitB at h
  unfold txtI
  split
  · rw [List.all_append, digL_word, Bool.true_and]
    split
    · rw [List.all_cons, digL_word]; rfl
    · rfl
  · rename_i h0
    rw [if_neg h0, Bool.and_eq_true] at h
    exact (name_word h.1).2
theorem byteOf_nat {v : Int} (h0 : 0 ≤ v) (h1 : v ≤ 255) : ((byteOf v).toNat : Int) = v := by
  unfold byteOf
  simp
  omega
/-- An item's text is read as the item. -/
theorem itemD_txt {x : ItemD} (h : fitB x = true) : itemD ⟨(txtI x).toArray⟩ = some (erI x) := by
  obtain ⟨nm, lo, hi, pl⟩ := x
  unfold fitB at h
  unfold itemD txtI erI
  simp only [] at h ⊢
  by_cases h0 : nm.data.toList = []
  · rw [if_pos h0] at h ⊢
    have hq0 := of_decide_eq_true h
    obtain rfl : nm = ⟨#[]⟩ := ba_ext h0
    have hlo := (byteOf lo).toNat_lt
    have hlv := byteOf_nat hq0.1 (by omega)
    have hp := pairV_hexd (byteOf lo)
    rw [hlv] at hp
    have hl := (hexd_word ((byteOf lo).toNat / 16) (by omega)).2
    by_cases hlt : lo < hi
    · rw [if_pos hlt]
      have hhv := byteOf_nat (v := hi) (by omega) (by omega)
      have hq := pairV_hexd (byteOf hi)
      rw [hhv] at hq
      rw [digL_one, digL_one]
      generalize hexd ((byteOf lo).toNat / 16) = a at *
      generalize hexd ((byteOf lo).toNat % 16) = b at *
      generalize hexd ((byteOf hi).toNat / 16) = c at *
      generalize hexd ((byteOf hi).toNat % 16) = e at *
      have hn : ¬ nameB [a, b, 45, c, e] = true := by
        unfold nameB
        simp [headLetter, hl]
      have e0 : pairI [a, b, 45, c, e] 0 = lo := hp
      have e3 : pairI [a, b, 45, c, e] 3 = hi := hq
      show (if nameB [a, b, 45, c, e] = true then _ else if (5 = 2 ∧ 0 ≤ pairI [a, b, 45, c, e] 0) then _ else if (5 = 5 ∧ 0 ≤ pairI [a, b, 45, c, e] 0 ∧ (45 : UInt8) = 45 ∧ pairI [a, b, 45, c, e] 0 ≤ pairI [a, b, 45, c, e] 3) then some (⟨⟨#[]⟩, pairI [a, b, 45, c, e] 0, pairI [a, b, 45, c, e] 3, 0⟩ : ItemD) else none) = _
      rw [if_neg hn, if_neg (by omega), if_pos ⟨rfl, by rw [e0]; exact hq0.1, rfl, by rw [e0, e3]; exact hq0.2.1⟩, e0, e3]
    · rw [if_neg hlt]
      obtain rfl : hi = lo := by omega
      rw [digL_one]
      generalize hexd ((byteOf hi).toNat / 16) = a at *
      generalize hexd ((byteOf hi).toNat % 16) = b at *
      have hn : ¬ nameB [a, b] = true := by
        unfold nameB
        simp [headLetter, hl]
      have e0 : pairI [a, b] 0 = hi := hp
      show (if nameB [a, b] = true then _ else if (2 = 2 ∧ 0 ≤ pairI [a, b] 0) then some (⟨⟨#[]⟩, pairI [a, b] 0, pairI [a, b] 0, 0⟩ : ItemD) else _) = _
      rw [if_neg hn, if_pos ⟨rfl, by rw [e0]; exact hq0.1⟩, e0]
  · rw [if_neg h0] at h ⊢
    rw [Bool.and_eq_true, decide_eq_true_eq] at h
    obtain ⟨h1, rfl, rfl⟩ := h
    rw [if_pos h1]
theorem itoa_word {n : Int} (h0 : 0 ≤ n) : Lib.itoa n ≠ [] ∧ (Lib.itoa n).all inWordB = true := by
  obtain ⟨m, rfl⟩ := Int.eq_ofNat_of_zero_le h0
  rw [itoa_pos]
  obtain ⟨a1, a2, a3, a4⟩ := dec_facts m m (Nat.le_refl _)
  refine ⟨a3, ?_⟩
  rw [List.all_eq_true] at a1 ⊢
  intro c hc
  have := a1 c hc
  simp only [digitB, Bool.and_eq_true, decide_eq_true_eq] at this
  simp only [inWordB, Bool.and_eq_true, decide_eq_true_eq, bne_iff_ne]
  omega

theorem wend_items (l : List ItemD) (r : List UInt8) (hr : wend r) : wend (txtIs l ++ r) := by
  cases l with
  | nil => exact hr
  | cons a t => exact wend_blank _
/-- Items are read as they were. -/
theorem run_items_c (cls : List ClassD) (shs : List ShapeD) (nm : ByteArray) (pl : Int) : ∀ (l acc : List ItemD) (k : Nat) (r : List UInt8), l.all fitB = true → wend r → acc.length + l.length ≤ 32 →
    ∃ l', l'.map erI = l.map erI ∧ runT ⟨cls ++ [⟨nm, acc, pl⟩], shs⟩ (if acc.length = 0 then 2 else 3) (toksT false none k (txtIs l ++ r)) =
      runT ⟨cls ++ [⟨nm, acc ++ l', pl⟩], shs⟩ (if (acc ++ l').length = 0 then 2 else 3) (toksT false none (k + (txtIs l).length) r)
  | [], acc, k, r, _, _, _ => ⟨[], rfl, by rw [List.append_nil]; rfl⟩
  | x :: l, acc, k, r, hf, hr, hl => by
    simp only [List.all_cons, Bool.and_eq_true, List.length_cons] at hf hl
    obtain ⟨w1, w2⟩ := txtI_word hf.1
    have e : txtIs (x :: l) ++ r = 32 :: (txtI x ++ (txtIs l ++ r)) := by simp [txtIs]
    have en : (txtIs (x :: l)).length = 1 + (txtI x).length + (txtIs l).length := by simp [txtIs]; omega
    have hs := stepW_c cls shs nm acc pl ⟨(txtI x).toArray⟩ ((k + 1 : Nat) : Int)
    rw [itemD_txt hf.1] at hs
    simp only [] at hs
    rw [if_neg (show ¬ acc.length = 32 by omega)] at hs
    obtain ⟨l', h1, h2⟩ := run_items_c cls shs nm pl l (acc ++ [⟨(erI x).nm, (erI x).lo, (erI x).hi, ((k + 1 : Nat) : Int)⟩]) (k + 1 + (txtI x).length) r hf.2 hr (by rw [List.length_append, List.length_singleton]; omega)
    refine ⟨⟨(erI x).nm, (erI x).lo, (erI x).hi, ((k + 1 : Nat) : Int)⟩ :: l', by rw [List.map_cons, List.map_cons, h1]; rfl, ?_⟩
    rw [e, toksT_blank, toksT_word _ w1 w2 (wend_items _ _ hr), runT_word hs, en]
    rw [if_neg (by simp)] at h2
    rw [h2, show k + 1 + (txtI x).length + (txtIs l).length = k + (1 + (txtI x).length + (txtIs l).length) by omega, List.append_assoc]
    rfl
theorem name_not_at {x : ItemD} (h : fitB x = true) : txtI x ≠ bAt := by
  intro e
  have := itemD_txt h
  rw [e] at this
  have h2 : itemD ⟨bAt.toArray⟩ = none := Option.isNone_iff_eq_none.1 (show (itemD ⟨bAt.toArray⟩).isNone = true by decide +kernel)
  rw [h2] at this
  cases this
theorem run_items_s (cls : List ClassD) (shs : List ShapeD) : ∀ (l acc : List ItemD) (k : Nat) (r : List UInt8), l.all fitB = true → wend r → acc.length + l.length ≤ 8 →
    ∃ l', l'.map erI = l.map erI ∧ runT ⟨cls, shs ++ [⟨acc, 0, 0⟩]⟩ (if acc.length = 0 then 4 else 5) (toksT false none k (txtIs l ++ r)) =
      runT ⟨cls, shs ++ [⟨acc ++ l', 0, 0⟩]⟩ (if (acc ++ l').length = 0 then 4 else 5) (toksT false none (k + (txtIs l).length) r)
  | [], acc, k, r, _, _, _ => ⟨[], rfl, by rw [List.append_nil]; rfl⟩
  | x :: l, acc, k, r, hf, hr, hl => by
    simp only [List.all_cons, Bool.and_eq_true, List.length_cons] at hf hl
    obtain ⟨w1, w2⟩ := txtI_word hf.1
    have e : txtIs (x :: l) ++ r = 32 :: (txtI x ++ (txtIs l ++ r)) := by simp [txtIs]
    have en : (txtIs (x :: l)).length = 1 + (txtI x).length + (txtIs l).length := by simp [txtIs]; omega
    have hs := stepW_s cls shs acc ⟨(txtI x).toArray⟩ ((k + 1 : Nat) : Int) (.inr (by simpa using name_not_at hf.1))
    rw [itemD_txt hf.1] at hs
    simp only [] at hs
    rw [if_neg (show ¬ acc.length = 8 by omega)] at hs
    obtain ⟨l', h1, h2⟩ := run_items_s cls shs l (acc ++ [⟨(erI x).nm, (erI x).lo, (erI x).hi, ((k + 1 : Nat) : Int)⟩]) (k + 1 + (txtI x).length) r hf.2 hr (by rw [List.length_append, List.length_singleton]; omega)
    refine ⟨⟨(erI x).nm, (erI x).lo, (erI x).hi, ((k + 1 : Nat) : Int)⟩ :: l', by rw [List.map_cons, List.map_cons, h1]; rfl, ?_⟩
    rw [e, toksT_blank, toksT_word _ w1 w2 (wend_items _ _ hr), runT_word hs, en]
    rw [if_neg (by simp)] at h2
    rw [h2, show k + 1 + (txtI x).length + (txtIs l).length = k + (1 + (txtI x).length + (txtIs l).length) by omega, List.append_assoc]
    rfl
theorem run_line_c (d : DescD) (c : ClassD) (k : Nat) (r : List UInt8) (hf : fitC c = true) (hl : d.cls.length < 32) :
    ∃ c', erC c' = erC c ∧ runT d 0 (toksT false none k (txtIC c ++ r)) = runT ⟨d.cls ++ [c'], d.shs⟩ 0 (toksT false none (k + (txtIC c).length) r) := by
  obtain ⟨nm, its, pl⟩ := c
  unfold fitC fitsB at hf
  simp only [Bool.and_eq_true, decide_eq_true_eq] at hf
  obtain ⟨w1, w2⟩ := name_word hf.1
  have e : txtIC ⟨nm, its, pl⟩ ++ r = [99, 108, 97, 115, 115] ++ (32 :: (nm.data.toList ++ (txtIs its ++ (10 :: r)))) := by simp [txtIC, kwC]
  have en : (txtIC ⟨nm, its, pl⟩).length = 5 + 1 + nm.data.toList.length + (txtIs its).length + 1 := by simp [txtIC, kwC]; omega
  have hs : stepW d 0 ⟨#[99, 108, 97, 115, 115]⟩ (k : Int) = .ok (⟨d.cls ++ [⟨⟨#[]⟩, [], 0⟩], d.shs⟩, 1) := by
    unfold stepW
    rw [if_pos rfl, if_pos (show (⟨#[99, 108, 97, 115, 115]⟩ : ByteArray).data.toList = bClass from rfl), if_neg (by omega)]
  have hs2 : stepW ⟨d.cls ++ [⟨⟨#[]⟩, [], 0⟩], d.shs⟩ 1 ⟨nm.data.toList.toArray⟩ ((k + 5 + 1 : Nat) : Int) = .ok (⟨d.cls ++ [⟨nm, [], ((k + 5 + 1 : Nat) : Int)⟩], d.shs⟩, 2) := by
    unfold stepW
    rw [if_neg (by omega), if_pos rfl, if_pos (by simpa using hf.1), modLast_snoc]
  obtain ⟨l', h1, h2⟩ := run_items_c d.cls d.shs nm ((k + 5 + 1 : Nat) : Int) its [] (k + 5 + 1 + nm.data.toList.length) (10 :: r) hf.2.2 (wend_line r) (by simpa using hf.2.1.2)
  have hne : l'.length = its.length := by have := congrArg List.length h1; simpa using this
  rw [List.nil_append] at h2
  rw [if_pos (by rfl), if_neg (by omega)] at h2
  refine ⟨⟨nm, l', ((k + 5 + 1 : Nat) : Int)⟩, by unfold erC; rw [h1], ?_⟩
  rw [e, toksT_word k (by simp) (by decide) (wend_blank _), runT_word hs, toksT_blank]
  show runT _ 1 (toksT false none (k + 5 + 1) _) = _
  rw [toksT_word _ w1 w2 (wend_items _ _ (wend_line r)), runT_word hs2, h2, toksT_line, runT_end (by omega) (by omega) (.inr (.inl rfl)), en]
  rw [show k + 5 + 1 + nm.data.toList.length + (txtIs its).length + 1 = k + (5 + 1 + nm.data.toList.length + (txtIs its).length + 1) by omega]
theorem run_line_s (d : DescD) (c : ShapeD) (k : Nat) (r : List UInt8) (hf : fitS c = true) (hl : d.shs.length < 32) :
    ∃ c', erS c' = erS c ∧ runT d 0 (toksT false none k (txtIS c ++ r)) = runT ⟨d.cls, d.shs ++ [c']⟩ 0 (toksT false none (k + (txtIS c).length) r) := by
  obtain ⟨its, first, pl⟩ := c
  unfold fitS fitsB at hf
  simp only [Bool.and_eq_true, decide_eq_true_eq] at hf
  obtain ⟨w1, w2⟩ := itoa_word hf.1.1
  have e : txtIS ⟨its, first, pl⟩ ++ r = [115, 104, 97, 112, 101] ++ (txtIs its ++ (32 :: ([97, 116] ++ (32 :: (Lib.itoa first ++ (10 :: r)))))) := by simp [txtIS, kwS, kwA]
  have en : (txtIS ⟨its, first, pl⟩).length = 5 + (txtIs its).length + 1 + 2 + 1 + (Lib.itoa first).length + 1 := by simp [txtIS, kwS, kwA]; omega
  have hs : stepW d 0 ⟨#[115, 104, 97, 112, 101]⟩ (k : Int) = .ok (⟨d.cls, d.shs ++ [⟨[], 0, 0⟩]⟩, 4) := by
    unfold stepW
    rw [if_pos rfl, if_neg (by decide), if_pos (show (⟨#[115, 104, 97, 112, 101]⟩ : ByteArray).data.toList = bShape from rfl), if_neg (by omega)]
  obtain ⟨l', h1, h2⟩ := run_items_s d.cls d.shs its [] (k + 5) (32 :: ([97, 116] ++ (32 :: (Lib.itoa first ++ (10 :: r))))) hf.2.2 (wend_blank _) (by simpa using hf.2.1.2)
  have hne : l'.length = its.length := by have := congrArg List.length h1; simpa using this
  rw [List.nil_append] at h2
  rw [if_pos (by rfl), if_neg (by omega)] at h2
  have hs2 : stepW ⟨d.cls, d.shs ++ [⟨l', 0, 0⟩]⟩ 5 ⟨#[97, 116]⟩ ((k + 5 + (txtIs its).length + 1 : Nat) : Int) = .ok (⟨d.cls, d.shs ++ [⟨l', 0, 0⟩]⟩, 6) := by
    unfold stepW
    rw [if_neg (by omega), if_neg (by omega), if_neg (by omega), if_pos ⟨rfl, rfl⟩]
  have hnr : numR (Lib.itoa first) = some first.toNat := by rw [numR_itoa, if_pos hf.1]
  have hs3 : stepW ⟨d.cls, d.shs ++ [⟨l', 0, 0⟩]⟩ 6 ⟨(Lib.itoa first).toArray⟩ ((k + 5 + (txtIs its).length + 1 + 2 + 1 : Nat) : Int) = .ok (⟨d.cls, d.shs ++ [⟨l', first, ((k + 5 + (txtIs its).length + 1 + 2 + 1 : Nat) : Int)⟩]⟩, 7) := by
    unfold stepW
    rw [if_neg (by omega), if_neg (by omega), if_neg (by omega), if_neg (by omega), if_neg (by omega), if_pos rfl]
    show (match numR (Lib.itoa first) with | none => _ | some n => _) = _
    rw [hnr]
    simp only [modLast_snoc]
    rw [show ((first.toNat : Nat) : Int) = first by omega]
  refine ⟨⟨l', first, ((k + 5 + (txtIs its).length + 1 + 2 + 1 : Nat) : Int)⟩, by unfold erS; rw [h1], ?_⟩
  rw [e, toksT_word k (by simp) (by decide) (wend_items _ _ (wend_blank _)), runT_word hs]
  show runT _ 4 (toksT false none (k + 5) _) = _
  rw [h2, toksT_blank, toksT_word _ (by simp) (by decide) (wend_blank _), runT_word hs2, toksT_blank]
  show runT _ 6 (toksT false none (k + 5 + (txtIs its).length + 1 + 2 + 1) _) = _
  rw [toksT_word _ w1 w2 (wend_line r), runT_word hs3, toksT_line, runT_end (by omega) (by omega) (.inr (.inr rfl)), en]
  rw [show k + 5 + (txtIs its).length + 1 + 2 + 1 + (Lib.itoa first).length + 1 = k + (5 + (txtIs its).length + 1 + 2 + 1 + (Lib.itoa first).length + 1) by omega]
theorem run_cls : ∀ (l : List ClassD) (d : DescD) (k : Nat) (r : List UInt8), l.all fitC = true → d.cls.length + l.length ≤ 32 →
    ∃ l', l'.map erC = l.map erC ∧ runT d 0 (toksT false none k (l.flatMap txtIC ++ r)) = runT ⟨d.cls ++ l', d.shs⟩ 0 (toksT false none (k + (l.flatMap txtIC).length) r)
  | [], d, k, r, _, _ => ⟨[], rfl, by rw [List.append_nil]; rfl⟩
  | c :: l, d, k, r, hf, hl => by
    simp only [List.all_cons, Bool.and_eq_true, List.length_cons] at hf hl
    obtain ⟨c', a1, a2⟩ := run_line_c d c k (l.flatMap txtIC ++ r) hf.1 (by omega)
    obtain ⟨l', b1, b2⟩ := run_cls l ⟨d.cls ++ [c'], d.shs⟩ (k + (txtIC c).length) r hf.2 (by simp only [List.length_append, List.length_singleton]; omega)
    refine ⟨c' :: l', by rw [List.map_cons, List.map_cons, a1, b1], ?_⟩
    rw [List.flatMap_cons, List.append_assoc, a2, b2, List.length_append, Nat.add_assoc, List.append_assoc]
    rfl
theorem run_shs : ∀ (l : List ShapeD) (d : DescD) (k : Nat) (r : List UInt8), l.all fitS = true → d.shs.length + l.length ≤ 32 →
    ∃ l', l'.map erS = l.map erS ∧ runT d 0 (toksT false none k (l.flatMap txtIS ++ r)) = runT ⟨d.cls, d.shs ++ l'⟩ 0 (toksT false none (k + (l.flatMap txtIS).length) r)
  | [], d, k, r, _, _ => ⟨[], rfl, by rw [List.append_nil]; rfl⟩
  | c :: l, d, k, r, hf, hl => by
    simp only [List.all_cons, Bool.and_eq_true, List.length_cons] at hf hl
    obtain ⟨c', a1, a2⟩ := run_line_s d c k (l.flatMap txtIS ++ r) hf.1 (by omega)
    obtain ⟨l', b1, b2⟩ := run_shs l ⟨d.cls, d.shs ++ [c']⟩ (k + (txtIS c).length) r hf.2 (by simp only [List.length_append, List.length_singleton]; omega)
    refine ⟨c' :: l', by rw [List.map_cons, List.map_cons, a1, b1], ?_⟩
    rw [List.flatMap_cons, List.append_assoc, a2, b2, List.length_append, Nat.add_assoc, List.append_assoc]
    rfl
/-- What is printed is read as it was, but for places. -/
theorem parse_print {d : DescD} (h : fitD d = true) : ∃ d', parseL (txtID d) = .ok d' ∧ erD d' = erD d := by
  unfold fitD at h
  simp only [Bool.and_eq_true, decide_eq_true_eq] at h
  obtain ⟨l1, a1, a2⟩ := run_cls d.cls d0 0 (d.shs.flatMap txtIS ++ []) h.1.2 (by show 0 + _ ≤ 32; omega)
  obtain ⟨l2, b1, b2⟩ := run_shs d.shs ⟨d0.cls ++ l1, d0.shs⟩ (0 + (d.cls.flatMap txtIC).length) [] h.2 (by show 0 + _ ≤ 32; omega)
  refine ⟨⟨d0.cls ++ l1, d0.shs ++ l2⟩, ?_, ?_⟩
  · unfold parseL txtID
    rw [List.append_nil] at a2
    rw [a2]
    rw [List.append_nil] at b2
    rw [b2, toksT]
    exact runT_end (by omega) (by omega) (.inl rfl)
  · show (⟨([] ++ l1).map erC, ([] ++ l2).map erS⟩ : DescD) = _
    rw [List.nil_append, List.nil_append, a1, b1]
    rfl
end Go.Proofs.YtobofhiakgohfaaGreatDoor

namespace Go.Proofs.YtobofhiakgohfaaGreatDoor
open Go.RowKit

theorem itemD_fit {s : ByteArray} {x : ItemD} (h : itemD s = some x) (p : Int) : fitB ⟨x.nm, x.lo, x.hi, p⟩ = true := by
  unfold itemD at h
  split at h
  · rename_i hn
    cases h
    obtain ⟨h1, _⟩ := name_word hn
    unfold fitB
    simp only []
    rw [if_neg h1, hn]
    rfl
  · split at h
    · rename_i h2
      cases h
      have := pairI_lt s.data.toList 0
      unfold fitB
      simp only []
      rw [if_pos trivial]
      exact decide_eq_true ⟨h2.2, Int.le_refl _, by omega⟩
    · split at h
      · rename_i h2
        cases h
        have := pairI_lt s.data.toList 3
        unfold fitB
        simp only []
        rw [if_pos trivial]
        exact decide_eq_true ⟨h2.2.1, h2.2.2.2, by omega⟩
      · cases h
theorem itemsR_fit {most : Nat} {endw : List UInt8} : ∀ (T : TVl) (acc : List ItemD) {l : List ItemD} {T' : TVl}, acc.all fitB = true → itemsR most endw acc T = .ok (l, T') → l.all fitB = true
  | [], acc, l, T', ha, h => by
    rw [itemsR] at h
    cases h
    exact ha
  | t :: r, acc, l, T', ha, h => by
    rw [itemsR] at h
    split at h
    · split at h
      · split at h
        · cases h
        · split at h
          · cases h
          · rename_i x hx _
            exact itemsR_fit r _ (by rw [List.all_append, ha]; simp [itemD_fit hx]) h
      · cases h
    · cases h
      exact ha
/-- What a line leaves. -/
def LineOk (T T' : TVl) : Prop := wft T' ∧ (∃ pre, T = pre ++ T') ∧ T'.length < T.length
theorem classR_ok {d d' : DescD} {T T' : TVl} (hT : wft T) (hd : fitD d = true) (hl : d.cls.length < 32) (h : classR d T = .ok (d', T')) :
    LineOk T T' ∧ fitD d' = true ∧ ∃ c, d' = ⟨d.cls ++ [c], d.shs⟩ := by
  cases T with
  | nil => exact hT.elim
  | cons t r =>
    rw [classR] at h
    split at h
    · rename_i h1
      obtain ⟨hr, _⟩ := word_more hT h1.1
      cases hx : itemsR 32 [] [] r with
      | error e => rw [hx] at h; cases h
      | ok x =>
        obtain ⟨l, T2⟩ := x
        rw [hx] at h
        cases h
        obtain ⟨a1, ⟨pre, a2⟩, a3, a4, _⟩ := itemsR_ok r [] hr (by simp) hx
        have a5 := itemsR_fit r [] (by rfl) hx
        refine ⟨⟨a1, ⟨t :: pre, by rw [a2]; rfl⟩, by rw [a2]; simp; omega⟩, ?_, _, rfl⟩
        unfold fitD at hd ⊢
        simp only [Bool.and_eq_true, decide_eq_true_eq, List.length_append, List.length_singleton, List.all_append, List.all_cons, List.all_nil, and_true] at hd ⊢
        refine ⟨⟨⟨by omega, hd.1.1.2⟩, hd.1.2, ?_⟩, hd.2⟩
        unfold fitC fitsB
        simp only [Bool.and_eq_true, decide_eq_true_eq]
        exact ⟨h1.2, ⟨a3, a4⟩, a5⟩
    · cases h
theorem shapeR_ok {d d' : DescD} {T T' : TVl} (hT : wft T) (hd : fitD d = true) (hl : d.shs.length < 32) (h : shapeR d T = .ok (d', T')) :
    LineOk T T' ∧ fitD d' = true ∧ ∃ c, d' = ⟨d.cls, d.shs ++ [c]⟩ := by
  unfold shapeR at h
  cases hx : itemsR 8 bAt [] T with
  | error e => rw [hx] at h; cases h
  | ok x =>
    obtain ⟨l, T2⟩ := x
    rw [hx] at h
    simp only [] at h
    obtain ⟨a1, ⟨pre, a2⟩, a3, a4, _⟩ := itemsR_ok T [] hT (by simp) hx
    have a5 := itemsR_fit T [] (by rfl) hx
    cases T2 with
    | nil => exact a1.elim
    | cons t r =>
      rw [atR] at h
      split at h
      · rename_i h1
        obtain ⟨hr, _⟩ := word_more a1 h1.1
        cases r with
        | nil => exact hr.elim
        | cons t2 r2 =>
          rw [numTR] at h
          split at h
          · rename_i h2
            obtain ⟨hr2, _⟩ := word_more hr h2
            cases hn : numR t2.2.1.data.toList with
            | none => rw [hn] at h; cases h
            | some n =>
              rw [hn] at h
              cases h
              have := numR_lt hn
              refine ⟨⟨hr2, ⟨pre ++ [t, t2], by rw [a2]; simp⟩, by rw [a2]; simp; omega⟩, ?_, _, rfl⟩
              unfold fitD at hd ⊢
              simp only [Bool.and_eq_true, decide_eq_true_eq, List.length_append, List.length_singleton, List.all_append, List.all_cons, List.all_nil, and_true] at hd ⊢
              refine ⟨⟨⟨hd.1.1.1, by omega⟩, hd.1.2⟩, hd.2, ?_⟩
              unfold fitS fitsB
              simp only [Bool.and_eq_true, decide_eq_true_eq]
              exact ⟨⟨by omega, by omega⟩, ⟨a3, a4⟩, a5⟩
          · cases h
      · cases h
theorem behind_ok {x : Except (Int × Int) (DescD × TVl)} {d' : DescD} {T' : TVl} (h : behind x = .ok (d', T')) : x = .ok (d', T') := by
  cases x with
  | error e => cases h
  | ok y =>
    obtain ⟨d, T⟩ := y
    cases T with
    | nil => exact h
    | cons t r =>
      have h' : endR d (t :: r) = .ok (d', T') := h
      rw [endR] at h'
      split at h'
      · exact h'
      · cases h'
theorem lineR_ok {d d' : DescD} {T T' : TVl} (hT : wft T) (hd : fitD d = true) (h : lineR d T = .ok (d', T')) : LineOk T T' ∧ fitD d' = true := by
  have hd2 := hd
  unfold fitD at hd2
  simp only [Bool.and_eq_true, decide_eq_true_eq] at hd2
  cases T with
  | nil => exact hT.elim
  | cons t r =>
    rw [lineR] at h
    split at h
    · rename_i h1
      obtain ⟨hr, _⟩ := word_more hT h1
      have up : ∀ {T'}, LineOk r T' → LineOk (t :: r) T' := fun ⟨b1, ⟨pre, b2⟩, b3⟩ => ⟨b1, ⟨t :: pre, by rw [b2]; rfl⟩, by simp; omega⟩
      split at h
      · cases h
      · rename_i h2
        split at h
        · rename_i hc
          obtain ⟨b1, b2, _⟩ := classR_ok hr hd (by have : ¬ d.cls.length = 32 := fun e => h2 (.inl ⟨hc, e⟩); omega) (behind_ok h)
          exact ⟨up b1, b2⟩
        · split at h
          · rename_i hc
            obtain ⟨b1, b2, _⟩ := shapeR_ok hr hd (by have : ¬ d.shs.length = 32 := fun e => h2 (.inr ⟨hc, e⟩); omega) (behind_ok h)
            exact ⟨up b1, b2⟩
          · cases h
    · cases h
/-- What is read has a text. -/
theorem run_fit : ∀ (n : Nat) (T : TVl) (d d' : DescD), T.length ≤ n → wft T → fitD d = true → runT d 0 T = .ok d' → fitD d' = true
  | n, [], d, d', _, hT, _, _ => hT.elim
  | 0, t :: r, d, d', hn, _, _, _ => by simp at hn
  | n + 1, t :: r, d, d', hn, hT, hd, h => by
    by_cases h1 : t.1 = 1
    · rw [lineR_run hT rfl h1] at h
      cases hl : lineR d (t :: r) with
      | error e => rw [hl] at h; simp [goOn] at h
      | ok x =>
        obtain ⟨d2, T2⟩ := x
        rw [hl] at h
        obtain ⟨⟨b1, _, b3⟩, b4⟩ := lineR_ok hT hd hl
        exact run_fit n T2 d2 d' (by simp at hn b3; omega) b1 b4 h
    · obtain ⟨k, s, p⟩ := t
      simp only [] at h1
      rcases wft_cons hT with ⟨rfl, h2⟩ | ⟨h2, hr⟩
      · rcases h2 with h2 | h2
        · simp only [] at h2
          rw [runT_end h1 (by omega) (.inl rfl), runT] at h
          cases h
          exact hd
        · simp only [] at h2
          subst h2
          rw [runT_four] at h
          cases h
      · simp only [] at h2
        have h2 : k = 2 := by
          rcases h2 with h2 | h2
          · exact absurd h2.1 h1
          · exact h2
        rw [runT_end h1 (by omega) (.inl rfl)] at h
        exact run_fit n r d d' (by simp at hn; omega) hr hd h
theorem fitD_zero : fitD d0 = true := by decide
theorem parse_fit {s : ByteArray} {d : DescD} (h : parseR s = .ok d) : fitD d = true :=
  run_fit _ _ _ _ (Nat.le_refl _) (wft_toks s) fitD_zero h
end Go.Proofs.YtobofhiakgohfaaGreatDoor
