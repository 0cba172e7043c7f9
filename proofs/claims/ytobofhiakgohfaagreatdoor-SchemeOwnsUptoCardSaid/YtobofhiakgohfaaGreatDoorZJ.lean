/- Descriptions out of tokens: the document's machine, as plain Lean. The tokens of a text have the machine's form: plain Lean. The program's parser, as plain Lean: it is the document's machine. -/
import Derived.Test.YtobofhiakgohfaaGreatDoorZD
import Derived.Test.YtobofhiakgohfaaGreatDoorZE
import Derived.Test.YtobofhiakgohfaaGreatDoorZA
set_option linter.unusedVariables false
namespace Go.Proofs.YtobofhiakgohfaaGreatDoor
open Go.RowKit

def itemD (s : ByteArray) : Option ItemD :=
  if nameB s.data.toList = true then some ⟨s, 0, 0, 0⟩
  else if s.size = 2 ∧ 0 ≤ pairI s.data.toList 0 then some ⟨⟨#[]⟩, pairI s.data.toList 0, pairI s.data.toList 0, 0⟩
  else if s.size = 5 ∧ 0 ≤ pairI s.data.toList 0 ∧ s.data.toList[2]?.getD 0 = 45 ∧ pairI s.data.toList 0 ≤ pairI s.data.toList 3 then some ⟨⟨#[]⟩, pairI s.data.toList 0, pairI s.data.toList 3, 0⟩
  else none
theorem itemR_eq (s : ByteArray) : itemR s = match itemD s with | some x => (itemVal x.nm x.lo x.hi, true) | none => (itemVal ⟨#[]⟩ 0 0, false) := by
  unfold itemR itemD
  split
  · rfl
  · split
    · rfl
    · split
      · rfl
      · rfl
theorem itemD_nm {s : ByteArray} {x : ItemD} (h : itemD s = some x) : x.nm.size ≤ s.size ∧ x.pl = 0 := by
  unfold itemD at h
  split at h
  · cases h; exact ⟨Nat.le_refl _, rfl⟩
  · split at h
    · cases h; exact ⟨Nat.zero_le _, rfl⟩
    · split at h
      · cases h; exact ⟨Nat.zero_le _, rfl⟩
      · cases h

def modLast {α : Type} (f : α → α) (l : List α) : List α := match l.getLast? with | none => [] | some x => l.dropLast ++ [f x]
theorem modLast_snoc {α : Type} (f : α → α) (l : List α) (x : α) : modLast f (l ++ [x]) = l ++ [f x] := by
  unfold modLast
  simp
theorem snoc_of {α : Type} : ∀ {l : List α}, l ≠ [] → ∃ p x, l = p ++ [x]
  | l, h => ⟨l.dropLast, l.getLast h, (List.dropLast_concat_getLast h).symm⟩

def bClass : List UInt8 := [99, 108, 97, 115, 115]
def bShape : List UInt8 := [115, 104, 97, 112, 101]
def bAt : List UInt8 := [97, 116]
def its0 {α : Type} (f : α → List ItemD) (l : List α) : List ItemD := match l.getLast? with | none => [] | some x => f x
theorem its0_snoc {α : Type} (f : α → List ItemD) (l : List α) (x : α) : its0 f (l ++ [x]) = f x := by unfold its0; simp

/-- What the machine does at a word. -/
def stepW (d : DescD) (st : Nat) (s : ByteArray) (p : Int) : Except Int (DescD × Nat) :=
  if st = 0 then
    if s.data.toList = bClass then (if d.cls.length = 32 then .error 4 else .ok (⟨d.cls ++ [⟨⟨#[]⟩, [], 0⟩], d.shs⟩, 1))
    else if s.data.toList = bShape then (if d.shs.length = 32 then .error 4 else .ok (⟨d.cls, d.shs ++ [⟨[], 0, 0⟩]⟩, 4))
    else .error 60
  else if st = 1 then
    if nameB s.data.toList = true then .ok (⟨modLast (fun c => ⟨s, c.its, p⟩) d.cls, d.shs⟩, 2) else .error 60
  else if st = 2 ∨ st = 3 then
    match itemD s with
    | none => .error 60
    | some x => if (its0 ClassD.its d.cls).length = 32 then .error 4 else .ok (⟨modLast (fun c => ⟨c.nm, c.its ++ [⟨x.nm, x.lo, x.hi, p⟩], c.pl⟩) d.cls, d.shs⟩, 3)
  else if st = 5 ∧ s.data.toList = bAt then .ok (d, 6)
  else if st = 4 ∨ st = 5 then
    match itemD s with
    | none => .error 60
    | some x => if (its0 ShapeD.its d.shs).length = 8 then .error 4 else .ok (⟨d.cls, modLast (fun c => ⟨c.its ++ [⟨x.nm, x.lo, x.hi, p⟩], c.first, c.pl⟩) d.shs⟩, 5)
  else if st = 6 then
    match numR s.data.toList with
    | none => .error 60
    | some n => .ok (⟨d.cls, modLast (fun c => ⟨c.its, (n : Int), p⟩) d.shs⟩, 7)
  else .error 60
/-- .. at any token. -/
def stepT (d : DescD) (st : Nat) (t : Int × ByteArray × Int) : Except Int (DescD × Nat) :=
  if t.1 = 1 then stepW d st t.2.1 t.2.2
  else if t.1 = 4 then .error 60
  else if st = 0 ∨ st = 3 ∨ st = 7 then .ok (d, 0) else .error 60
def runT : DescD → Nat → List (Int × ByteArray × Int) → Except (Int × Int) DescD
  | d, _, [] => .ok d
  | d, st, t :: r => match stepT d st t with
    | .error e => .error (t.2.2, e)
    | .ok (d', st') => runT d' st' r
def d0 : DescD := ⟨[], []⟩
/-- What a text means: the description, or the fault's place and kind. -/
def parseR (s : ByteArray) : Except (Int × Int) DescD := runT d0 0 ((toks s.data.toList).map (tv s))

/-- The states that want a class, a shape. -/
def okSt (d : DescD) (st : Nat) : Prop := (st = 1 ∨ st = 2 ∨ st = 3 → d.cls ≠ []) ∧ (st = 4 ∨ st = 5 ∨ st = 6 → d.shs ≠ []) ∧ st ≤ 7

/-- Words and ends of lines, and at the end a stop or a bad one. -/
def wft : List (Int × ByteArray × Int) → Prop
  | [] => False
  | [t] => (t.1 = 3 ∨ t.1 = 4)
  | t :: r => (t.1 = 1 ∧ t.2.1.data.toList ≠ [] ∨ t.1 = 2) ∧ wft r
theorem wft_cons {t : Int × ByteArray × Int} {r : List (Int × ByteArray × Int)} (h : wft (t :: r)) : (r = [] ∧ (t.1 = 3 ∨ t.1 = 4)) ∨ ((t.1 = 1 ∧ t.2.1.data.toList ≠ [] ∨ t.1 = 2) ∧ wft r) := by
  cases r with
  | nil => exact .inl ⟨rfl, h⟩
  | cons a r => exact .inr h
theorem wft_word {t : Int × ByteArray × Int} {r : List (Int × ByteArray × Int)} (h1 : t.1 = 1 ∧ t.2.1.data.toList ≠ [] ∨ t.1 = 2) (h : wft r) : wft (t :: r) := by
  cases r with
  | nil => cases h
  | cons a r => exact ⟨h1, h⟩
end Go.Proofs.YtobofhiakgohfaaGreatDoor

namespace Go.Proofs.YtobofhiakgohfaaGreatDoor
open Go.RowKit

theorem wtv_word (s : ByteArray) (f k : Nat) (h : f < k) (hk : k ≤ s.size) : (tv s ⟨1, f, k - f⟩).1 = 1 ∧ (tv s ⟨1, f, k - f⟩).2.1.data.toList ≠ [] := by
  refine ⟨rfl, ?_⟩
  show (s.extract f (f + (k - f))).data.toList ≠ []
  rw [extract_list]
  intro e
  have := congrArg List.length e
  have hs : s.data.toList.length = s.size := by simp
  simp only [List.length_nil, List.length_take, List.length_drop] at this
  omega

theorem wft_toksR (s : ByteArray) : ∀ (l : List UInt8) (cm : Bool) (o : Option Nat) (k : Nat), k + l.length = s.size → (∀ f, o = some f → f < k) → wft ((toksR cm o k l).map (tv s))
  | [], cm, some f, k, hk, ho => by
    rw [toksR]
    have := ho f rfl
    exact ⟨.inl (wtv_word s f k this (by simp at hk; omega)), .inl rfl⟩
  | [], cm, none, k, hk, ho => by rw [toksR]; exact .inl rfl
  | c :: t, cm, none, k, hk, ho => by
    simp only [List.length_cons] at hk
    rw [toksR]
    split
    · exact wft_word (.inr rfl) (wft_toksR s t _ _ _ (by omega) (fun f e => by cases e))
    · split
      · exact wft_toksR s t _ _ _ (by omega) (fun f e => by cases e)
      · split
        · exact wft_toksR s t _ _ _ (by omega) (fun f e => by cases e)
        · split
          · exact wft_toksR s t _ _ _ (by omega) (fun f e => by cases e; omega)
          · exact .inr rfl
  | c :: t, cm, some f, k, hk, ho => by
    simp only [List.length_cons] at hk
    have hf := ho f rfl
    rw [toksR]
    split
    · exact wft_toksR s t _ _ _ (by omega) (fun g e => by cases e; omega)
    · rw [List.map_cons]
      refine wft_word (.inl (wtv_word s f k hf (by omega))) ?_
      split
      · exact wft_word (.inr rfl) (wft_toksR s t _ _ _ (by omega) (fun f e => by cases e))
      · split
        · exact wft_toksR s t _ _ _ (by omega) (fun f e => by cases e)
        · split
          · exact wft_toksR s t _ _ _ (by omega) (fun f e => by cases e)
          · exact .inr rfl
theorem wft_toks (s : ByteArray) : wft ((toks s.data.toList).map (tv s)) := wft_toksR s _ _ _ 0 (by simp) (fun f e => by cases e)

/-! ## The machine's steps -/
theorem runT_word {d : DescD} {st : Nat} {s : ByteArray} {p : Int} {r : List (Int × ByteArray × Int)} {d' : DescD} {st' : Nat} (h : stepW d st s p = .ok (d', st')) : runT d st ((1, s, p) :: r) = runT d' st' r := by
  rw [runT]
  unfold stepT
  rw [if_pos rfl]
  simp only [h]
theorem runT_bad {d : DescD} {st : Nat} {s : ByteArray} {p e : Int} {r : List (Int × ByteArray × Int)} (h : stepW d st s p = .error e) : runT d st ((1, s, p) :: r) = .error (p, e) := by
  rw [runT]
  unfold stepT
  rw [if_pos rfl]
  simp only [h]
theorem runT_four {d : DescD} {st : Nat} {s : ByteArray} {p : Int} {r : List (Int × ByteArray × Int)} : runT d st ((4, s, p) :: r) = .error (p, 60) := by
  rw [runT]
  rfl
theorem runT_end {d : DescD} {st : Nat} {k : Int} {s : ByteArray} {p : Int} {r : List (Int × ByteArray × Int)} (h1 : k ≠ 1) (h4 : k ≠ 4) (hs : st = 0 ∨ st = 3 ∨ st = 7) : runT d st ((k, s, p) :: r) = runT d 0 r := by
  rw [runT]
  unfold stepT
  rw [if_neg h1, if_neg h4, if_pos hs]
theorem runT_wild {d : DescD} {st : Nat} {k : Int} {s : ByteArray} {p : Int} {r : List (Int × ByteArray × Int)} (h1 : k ≠ 1) (hs : ¬ (st = 0 ∨ st = 3 ∨ st = 7)) : runT d st ((k, s, p) :: r) = .error (p, 60) := by
  rw [runT]
  unfold stepT
  rw [if_neg h1, if_neg hs]
  by_cases h4 : k = 4
  · subst h4; rfl
  · rw [if_neg h4]
end Go.Proofs.YtobofhiakgohfaaGreatDoor

namespace Go.Proofs.YtobofhiakgohfaaGreatDoor
open Go.RowKit

abbrev TVl := List (Int × ByteArray × Int)
/-- One item or more, up to what isn't a word, or the word endw. -/
def itemsR (most : Nat) (endw : List UInt8) : List ItemD → TVl → Except (Int × Int) (List ItemD × TVl)
  | acc, [] => .ok (acc, [])
  | acc, t :: r =>
    if acc.length = 0 ∨ (t.1 = 1 ∧ t.2.1.data.toList ≠ endw) then
      if t.1 = 1 then
        match itemD t.2.1 with
        | none => .error (t.2.2, 60)
        | some x => if acc.length = most then .error (t.2.2, 4) else itemsR most endw (acc ++ [⟨x.nm, x.lo, x.hi, t.2.2⟩]) r
      else .error (t.2.2, 60)
    else .ok (acc, t :: r)
/-- A class's line, behind its first word. -/
def classR (d : DescD) : TVl → Except (Int × Int) (DescD × TVl)
  | [] => .ok (d, [])
  | t :: r =>
    if t.1 = 1 ∧ nameB t.2.1.data.toList = true then
      match itemsR 32 [] [] r with
      | .error e => .error e
      | .ok (l, T) => .ok (⟨d.cls ++ [⟨t.2.1, l, t.2.2⟩], d.shs⟩, T)
    else .error (t.2.2, 60)
/-- A shape's number. -/
def numTR (d : DescD) (l : List ItemD) : TVl → Except (Int × Int) (DescD × TVl)
  | [] => .ok (d, [])
  | t :: r =>
    if t.1 = 1 then
      match numR t.2.1.data.toList with
      | none => .error (t.2.2, 60)
      | some n => .ok (⟨d.cls, d.shs ++ [⟨l, (n : Int), t.2.2⟩]⟩, r)
    else .error (t.2.2, 60)
/-- A shape's line, behind its items. -/
def atR (d : DescD) (l : List ItemD) : TVl → Except (Int × Int) (DescD × TVl)
  | [] => .ok (d, [])
  | t :: r => if t.1 = 1 ∧ t.2.1.data.toList = bAt then numTR d l r else .error (t.2.2, 60)
/-- A shape's line, behind its first word. -/
def shapeR (d : DescD) (T : TVl) : Except (Int × Int) (DescD × TVl) :=
  match itemsR 8 bAt [] T with
  | .error e => .error e
  | .ok (l, T') => atR d l T'
/-- A line's end. -/
def endR (d : DescD) : TVl → Except (Int × Int) (DescD × TVl)
  | [] => .ok (d, [])
  | t :: r => if t.1 = 2 ∨ t.1 = 3 then .ok (d, t :: r) else .error (t.2.2, 60)
def behind (x : Except (Int × Int) (DescD × TVl)) : Except (Int × Int) (DescD × TVl) :=
  match x with
  | .error e => .error e
  | .ok (d, T) => endR d T
/-- A line that has a word. -/
def lineR (d : DescD) : TVl → Except (Int × Int) (DescD × TVl)
  | [] => .ok (d, [])
  | t :: r =>
    if t.1 = 1 then
      if (t.2.1.data.toList = bClass ∧ d.cls.length = 32) ∨ (t.2.1.data.toList = bShape ∧ d.shs.length = 32) then .error (t.2.2, 4)
      else if t.2.1.data.toList = bClass then behind (classR d r)
      else if t.2.1.data.toList = bShape then behind (shapeR d r)
      else .error (t.2.2, 60)
    else .error (t.2.2, 60)

/-! ## The parser is the machine -/
/-- The machine goes on behind a line. -/
def goOn (x : Except (Int × Int) (DescD × TVl)) : Except (Int × Int) DescD :=
  match x with
  | .error e => .error e
  | .ok (d, T) => runT d 0 T
theorem stepW_c (cls : List ClassD) (shs : List ShapeD) (nm : ByteArray) (acc : List ItemD) (pl : Int) (s : ByteArray) (p : Int) :
    stepW ⟨cls ++ [⟨nm, acc, pl⟩], shs⟩ (if acc.length = 0 then 2 else 3) s p = match itemD s with
      | none => .error 60
      | some x => if acc.length = 32 then .error 4 else .ok (⟨cls ++ [⟨nm, acc ++ [⟨x.nm, x.lo, x.hi, p⟩], pl⟩], shs⟩, 3) := by
  unfold stepW
  rw [if_neg (by split <;> omega), if_neg (by split <;> omega), if_pos (by split <;> omega), its0_snoc]
  cases itemD s with
  | none => rfl
  | some x => simp only [modLast_snoc]
theorem stepW_s (cls : List ClassD) (shs : List ShapeD) (acc : List ItemD) (s : ByteArray) (p : Int) (h : acc.length = 0 ∨ s.data.toList ≠ bAt) :
    stepW ⟨cls, shs ++ [⟨acc, 0, 0⟩]⟩ (if acc.length = 0 then 4 else 5) s p = match itemD s with
      | none => .error 60
      | some x => if acc.length = 8 then .error 4 else .ok (⟨cls, shs ++ [⟨acc ++ [⟨x.nm, x.lo, x.hi, p⟩], 0, 0⟩]⟩, 5) := by
  unfold stepW
  rw [if_neg (by split <;> omega), if_neg (by split <;> omega), if_neg (by split <;> omega), if_neg (by
    rintro ⟨h1, h2⟩
    rcases h with h | h
    · rw [if_pos h] at h1; omega
    · exact h h2), if_pos (by split <;> omega), its0_snoc]
  cases itemD s with
  | none => rfl
  | some x => simp only [modLast_snoc]

theorem word_more {t : Int × ByteArray × Int} {r : TVl} (h : wft (t :: r)) (h1 : t.1 = 1) : wft r ∧ t.2.1.data.toList ≠ [] := by
  rcases wft_cons h with ⟨_, h2⟩ | ⟨h2, h3⟩
  · omega
  · refine ⟨h3, ?_⟩
    rcases h2 with h2 | h2
    · exact h2.2
    · omega
theorem line_more {t : Int × ByteArray × Int} {r : TVl} (h : wft (t :: r)) (h1 : t.1 = 2) : wft r := by
  rcases wft_cons h with ⟨_, h2⟩ | ⟨h2, h3⟩
  · omega
  · exact h3
theorem stop_last {t : Int × ByteArray × Int} {r : TVl} (h : wft (t :: r)) (h1 : t.1 = 3) : r = [] := by
  rcases wft_cons h with ⟨h2, _⟩ | ⟨h2, h3⟩
  · exact h2
  · rcases h2 with h2 | h2 <;> omega

/-- What the items leave. -/
theorem itemsR_ok {most : Nat} {endw : List UInt8} : ∀ (T : TVl) (acc : List ItemD) {l : List ItemD} {T' : TVl}, wft T → acc.length ≤ most → itemsR most endw acc T = .ok (l, T') →
    wft T' ∧ (∃ pre, T = pre ++ T') ∧ 0 < l.length ∧ l.length ≤ most ∧ ∀ t r, T' = t :: r → ¬ (t.1 = 1 ∧ t.2.1.data.toList ≠ endw)
  | [], _, _, _, h, _, _ => h.elim
  | t :: r, acc, l, T', h, hm, he => by
    rw [itemsR] at he
    split at he
    · split at he
      · rename_i h1
        split at he
        · cases he
        · split at he
          · cases he
          · rename_i x _ hne
            obtain ⟨a, ⟨pre, b⟩, c, d, e⟩ := itemsR_ok r _ (word_more h h1).1 (by rw [List.length_append, List.length_singleton]; omega) he
            exact ⟨a, ⟨t :: pre, by rw [b]; rfl⟩, c, d, e⟩
      · cases he
    · rename_i hc
      cases he
      refine ⟨h, ⟨[], rfl⟩, by omega, hm, ?_⟩
      rintro t' r' e ⟨h1, h2⟩
      cases e
      exact hc (.inr ⟨h1, h2⟩)

theorem runT_fault {d : DescD} {st : Nat} {t : Int × ByteArray × Int} {r : TVl} (h1 : t.1 ≠ 1) (hs : ¬ (st = 0 ∨ st = 3 ∨ st = 7)) : runT d st (t :: r) = .error (t.2.2, 60) := by
  obtain ⟨k, s, p⟩ := t
  exact runT_wild h1 hs
theorem runT_items_c (cls : List ClassD) (shs : List ShapeD) (nm : ByteArray) (pl : Int) : ∀ (T : TVl) (acc : List ItemD), wft T →
    runT ⟨cls ++ [⟨nm, acc, pl⟩], shs⟩ (if acc.length = 0 then 2 else 3) T = match itemsR 32 [] acc T with
      | .error e => .error e
      | .ok (l, T') => runT ⟨cls ++ [⟨nm, l, pl⟩], shs⟩ 3 T'
  | [], _, h => h.elim
  | t :: r, acc, h => by
    rw [itemsR]
    by_cases hc : acc.length = 0 ∨ (t.1 = 1 ∧ t.2.1.data.toList ≠ [])
    · rw [if_pos hc]
      by_cases h1 : t.1 = 1
      · rw [if_pos h1]
        have hs := stepW_c cls shs nm acc pl t.2.1 t.2.2
        have ht : t = (1, t.2.1, t.2.2) := by rw [← h1]
        cases hi : itemD t.2.1 with
        | none =>
          rw [hi] at hs
          rw [ht]
          exact runT_bad hs
        | some x =>
          rw [hi] at hs
          simp only [] at hs ⊢
          by_cases h32 : acc.length = 32
          · rw [if_pos h32] at hs ⊢
            rw [ht]
            exact runT_bad hs
          · rw [if_neg h32] at hs ⊢
            rw [ht, runT_word hs]
            have ih := runT_items_c cls shs nm pl r (acc ++ [⟨x.nm, x.lo, x.hi, t.2.2⟩]) (word_more h h1).1
            rw [if_neg (by simp)] at ih
            exact ih
      · rw [if_neg h1]
        have h0 : acc.length = 0 := by
          rcases hc with hc | hc
          · exact hc
          · exact absurd hc.1 h1
        rw [if_pos h0]
        exact runT_fault h1 (by omega)
    · rw [if_neg hc, if_neg (fun h => hc (.inl h))]
theorem runT_items_s (cls : List ClassD) (shs : List ShapeD) : ∀ (T : TVl) (acc : List ItemD), wft T →
    runT ⟨cls, shs ++ [⟨acc, 0, 0⟩]⟩ (if acc.length = 0 then 4 else 5) T = match itemsR 8 bAt acc T with
      | .error e => .error e
      | .ok (l, T') => runT ⟨cls, shs ++ [⟨l, 0, 0⟩]⟩ 5 T'
  | [], _, h => h.elim
  | t :: r, acc, h => by
    rw [itemsR]
    by_cases hc : acc.length = 0 ∨ (t.1 = 1 ∧ t.2.1.data.toList ≠ bAt)
    · rw [if_pos hc]
      by_cases h1 : t.1 = 1
      · rw [if_pos h1]
        have hs := stepW_s cls shs acc t.2.1 t.2.2 (hc.imp id And.right)
        have ht : t = (1, t.2.1, t.2.2) := by rw [← h1]
        cases hi : itemD t.2.1 with
        | none =>
          rw [hi] at hs
          rw [ht]
          exact runT_bad hs
        | some x =>
          rw [hi] at hs
          simp only [] at hs ⊢
          by_cases h8 : acc.length = 8
          · rw [if_pos h8] at hs ⊢
            rw [ht]
            exact runT_bad hs
          · rw [if_neg h8] at hs ⊢
            rw [ht, runT_word hs]
            have ih := runT_items_s cls shs r (acc ++ [⟨x.nm, x.lo, x.hi, t.2.2⟩]) (word_more h h1).1
            rw [if_neg (by simp)] at ih
            exact ih
      · rw [if_neg h1]
        have h0 : acc.length = 0 := by
          rcases hc with hc | hc
          · exact hc
          · exact absurd hc.1 h1
        rw [if_pos h0]
        exact runT_fault h1 (by omega)
    · rw [if_neg hc, if_neg (fun h => hc (.inl h))]

/-- A line's end stands where it is asked. -/
theorem endR_run {d : DescD} {T : TVl} {st : Nat} (hT : wft T) (hst : st = 3 ∨ st = 7) (hw : ∀ t r, T = t :: r → t.1 = 1 → runT d st T = .error (t.2.2, 60)) :
    runT d st T = goOn (endR d T) := by
  cases T with
  | nil => exact hT.elim
  | cons t r =>
    rw [endR]
    by_cases h : t.1 = 2 ∨ t.1 = 3
    · rw [if_pos h]
      obtain ⟨k, s, p⟩ := t
      simp only [] at h ⊢
      rw [runT_end (by omega) (by omega) (by omega)]
      exact (runT_end (by omega) (by omega) (.inl rfl)).symm
    · rw [if_neg h]
      by_cases h1 : t.1 = 1
      · exact hw t r rfl h1
      · have h4 : t.1 = 4 := by
          rcases wft_cons hT with ⟨_, h2⟩ | ⟨h2 | h2, _⟩ <;> omega
        obtain ⟨k, s, p⟩ := t
        simp only [] at h4 ⊢
        subst h4
        exact runT_four
theorem stepW_7 (d : DescD) (s : ByteArray) (p : Int) : stepW d 7 s p = .error 60 := by
  unfold stepW
  rw [if_neg (by omega), if_neg (by omega), if_neg (by omega), if_neg (by omega), if_neg (by omega), if_neg (by omega)]
theorem classR_run {d : DescD} {T : TVl} (hT : wft T) : runT ⟨d.cls ++ [⟨⟨#[]⟩, [], 0⟩], d.shs⟩ 1 T = goOn (behind (classR d T)) := by
  cases T with
  | nil => exact hT.elim
  | cons t r =>
    rw [classR]
    by_cases h1 : t.1 = 1
    · have ht : t = (1, t.2.1, t.2.2) := by rw [← h1]
      obtain ⟨hr, _⟩ := word_more hT h1
      by_cases hn : nameB t.2.1.data.toList = true
      · rw [if_pos ⟨h1, hn⟩]
        have hs : stepW ⟨d.cls ++ [⟨⟨#[]⟩, [], 0⟩], d.shs⟩ 1 t.2.1 t.2.2 = .ok (⟨d.cls ++ [⟨t.2.1, [], t.2.2⟩], d.shs⟩, 2) := by
          unfold stepW
          rw [if_neg (by omega), if_pos rfl, if_pos hn, modLast_snoc]
        rw [ht, runT_word hs]
        have hi := runT_items_c d.cls d.shs t.2.1 t.2.2 r [] hr
        rw [if_pos (by simp)] at hi
        rw [hi]
        cases hx : itemsR 32 [] [] r with
        | error e => rfl
        | ok x =>
          obtain ⟨l, T'⟩ := x
          obtain ⟨hT', _, _, _, hno⟩ := itemsR_ok r [] hr (by simp) hx
          show _ = goOn (endR _ T')
          refine endR_run hT' (.inl rfl) fun t' r' e h1' => ?_
          subst e
          exact absurd ⟨h1', (word_more hT' h1').2⟩ (hno t' r' rfl)
      · rw [if_neg (fun h => hn h.2)]
        have hs : stepW ⟨d.cls ++ [⟨⟨#[]⟩, [], 0⟩], d.shs⟩ 1 t.2.1 t.2.2 = .error 60 := by
          unfold stepW
          rw [if_neg (by omega), if_pos rfl, if_neg hn]
        rw [ht]
        exact runT_bad hs
    · rw [if_neg (fun h => h1 h.1)]
      exact runT_fault h1 (by omega)
theorem shapeR_run {d : DescD} {T : TVl} (hT : wft T) : runT ⟨d.cls, d.shs ++ [⟨[], 0, 0⟩]⟩ 4 T = goOn (behind (shapeR d T)) := by
  have hi := runT_items_s d.cls d.shs T [] hT
  rw [if_pos (by simp)] at hi
  rw [hi]
  unfold shapeR
  cases hx : itemsR 8 bAt [] T with
  | error e => rfl
  | ok x =>
    obtain ⟨l, T'⟩ := x
    obtain ⟨hT', _, _, _, hno⟩ := itemsR_ok T [] hT (by simp) hx
    simp only []
    cases T' with
    | nil => exact hT'.elim
    | cons t r =>
      rw [atR]
      by_cases h1 : t.1 = 1
      · have ht : t = (1, t.2.1, t.2.2) := by rw [← h1]
        have hat : t.2.1.data.toList = bAt := by
          by_cases h : t.2.1.data.toList = bAt
          · exact h
          · exact absurd ⟨h1, h⟩ (hno t r rfl)
        obtain ⟨hr, _⟩ := word_more hT' h1
        rw [if_pos ⟨h1, hat⟩]
        have hs : stepW ⟨d.cls, d.shs ++ [⟨l, 0, 0⟩]⟩ 5 t.2.1 t.2.2 = .ok (⟨d.cls, d.shs ++ [⟨l, 0, 0⟩]⟩, 6) := by
          unfold stepW
          rw [if_neg (by omega), if_neg (by omega), if_neg (by omega), if_pos ⟨rfl, hat⟩]
        rw [ht, runT_word hs]
        cases r with
        | nil => exact hr.elim
        | cons t2 r2 =>
          rw [numTR]
          by_cases h2 : t2.1 = 1
          · have ht2 : t2 = (1, t2.2.1, t2.2.2) := by rw [← h2]
            obtain ⟨hr2, _⟩ := word_more hr h2
            rw [if_pos h2]
            cases hn : numR t2.2.1.data.toList with
            | none =>
              have hs2 : stepW ⟨d.cls, d.shs ++ [⟨l, 0, 0⟩]⟩ 6 t2.2.1 t2.2.2 = .error 60 := by
                unfold stepW
                rw [if_neg (by omega), if_neg (by omega), if_neg (by omega), if_neg (by omega), if_neg (by omega), if_pos rfl, hn]
              rw [ht2]
              exact runT_bad hs2
            | some n =>
              have hs2 : stepW ⟨d.cls, d.shs ++ [⟨l, 0, 0⟩]⟩ 6 t2.2.1 t2.2.2 = .ok (⟨d.cls, d.shs ++ [⟨l, (n : Int), t2.2.2⟩]⟩, 7) := by
                unfold stepW
                rw [if_neg (by omega), if_neg (by omega), if_neg (by omega), if_neg (by omega), if_neg (by omega), if_pos rfl, hn]
                simp only [modLast_snoc]
              rw [ht2, runT_word hs2]
              show _ = goOn (endR _ r2)
              refine endR_run hr2 (.inr rfl) fun t' r' e h1' => ?_
              subst e
              have ht' : t' = (1, t'.2.1, t'.2.2) := by rw [← h1']
              rw [ht']
              exact runT_bad (stepW_7 _ _ _)
          · rw [if_neg h2]
            exact runT_fault h2 (by omega)
      · rw [if_neg (fun h => h1 h.1)]
        exact runT_fault h1 (by omega)
/-- A line is the machine's steps. -/
theorem lineR_run {d : DescD} {T : TVl} (hT : wft T) {t : Int × ByteArray × Int} {r : TVl} (e : T = t :: r) (h1 : t.1 = 1) : runT d 0 T = goOn (lineR d T) := by
  subst e
  rw [lineR, if_pos h1]
  have ht : t = (1, t.2.1, t.2.2) := by rw [← h1]
  obtain ⟨hr, _⟩ := word_more hT h1
  by_cases hc : t.2.1.data.toList = bClass
  · have hns : ¬ t.2.1.data.toList = bShape := by rw [hc]; decide
    by_cases h32 : d.cls.length = 32
    · rw [if_pos (.inl ⟨hc, h32⟩)]
      have hs : stepW d 0 t.2.1 t.2.2 = .error 4 := by
        unfold stepW
        rw [if_pos rfl, if_pos hc, if_pos h32]
      rw [ht]
      exact runT_bad hs
    · rw [if_neg (by rintro (h | h); exact h32 h.2; exact hns h.1), if_pos hc]
      have hs : stepW d 0 t.2.1 t.2.2 = .ok (⟨d.cls ++ [⟨⟨#[]⟩, [], 0⟩], d.shs⟩, 1) := by
        unfold stepW
        rw [if_pos rfl, if_pos hc, if_neg h32]
      rw [ht, runT_word hs]
      exact classR_run hr
  · by_cases hsh : t.2.1.data.toList = bShape
    · by_cases h32 : d.shs.length = 32
      · rw [if_pos (.inr ⟨hsh, h32⟩)]
        have hs : stepW d 0 t.2.1 t.2.2 = .error 4 := by
          unfold stepW
          rw [if_pos rfl, if_neg hc, if_pos hsh, if_pos h32]
        rw [ht]
        exact runT_bad hs
      · rw [if_neg (by rintro (h | h); exact hc h.1; exact h32 h.2), if_neg hc, if_pos hsh]
        have hs : stepW d 0 t.2.1 t.2.2 = .ok (⟨d.cls, d.shs ++ [⟨[], 0, 0⟩]⟩, 4) := by
          unfold stepW
          rw [if_pos rfl, if_neg hc, if_pos hsh, if_neg h32]
        rw [ht, runT_word hs]
        exact shapeR_run hr
    · rw [if_neg (by rintro (h | h); exact hc h.1; exact hsh h.1), if_neg hc, if_neg hsh]
      have hs : stepW d 0 t.2.1 t.2.2 = .error 60 := by
        unfold stepW
        rw [if_pos rfl, if_neg hc, if_neg hsh]
      rw [ht]
      exact runT_bad hs
end Go.Proofs.YtobofhiakgohfaaGreatDoor
