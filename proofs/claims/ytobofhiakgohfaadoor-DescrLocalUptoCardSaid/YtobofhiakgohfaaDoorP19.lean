/- Nothing behind the first fault counts: plain Lean. -/
import Derived.Test.YtobofhiakgohfaaDoorPE
namespace Go.Proofs.YtobofhiakgohfaaDoor
open Go.RowKit

theorem runT_prefix : ∀ (T : TVl) (d : DescD) (st : Nat) (p e : Int), runT d st T = .error (p, e) →
    ∃ pre x post, T = pre ++ x :: post ∧ x.2.2 = p ∧ ∀ post', runT d st (pre ++ x :: post') = .error (p, e)
  | [], d, st, p, e, h => by rw [runT] at h; cases h
  | t :: r, d, st, p, e, h => by
    rw [runT] at h
    cases hs : stepT d st t with
    | error e' =>
      rw [hs] at h
      cases h
      exact ⟨[], t, r, rfl, rfl, fun post' => by rw [List.nil_append, runT, hs]⟩
    | ok x =>
      obtain ⟨d', st'⟩ := x
      rw [hs] at h
      obtain ⟨pre, x, post, h1, h2, h3⟩ := runT_prefix r d' st' p e h
      exact ⟨t :: pre, x, post, by rw [h1]; rfl, h2, fun post' => by rw [List.cons_append, runT, hs]; exact h3 post'⟩

theorem toksT_stop (cm : Bool) (f k : Nat) (w : List UInt8) (c : UInt8) (t : List UInt8) (h : inWordB c = false) : toksT cm (some (f, w)) k (c :: t) = (1, ⟨w.toArray⟩, (f : Int)) :: toksT cm none k (c :: t) := by
  rw [toksT, if_neg (by simp [h])]
  conv => rhs; rw [toksT]
  rw [if_neg (show ¬ inWordB c = true by simp [h])]
theorem toksT_more (cm : Bool) (f k : Nat) (w : List UInt8) (c : UInt8) (t : List UInt8) (h : inWordB c = true) : toksT cm (some (f, w)) k (c :: t) = toksT cm (some (f, w ++ [c])) (k + 1) t := by rw [toksT, if_pos h]
theorem toksT_nl (cm : Bool) (k : Nat) (t : List UInt8) : toksT cm none k (10 :: t) = (2, ⟨#[10]⟩, (k : Int)) :: toksT false none (k + 1) t := by rw [toksT, if_pos rfl]

/-- Where a token ends that is not the last. -/
def CutAt (cm : Bool) (o : Option (Nat × List UInt8)) (k : Nat) (l : List UInt8) (pre : TVl) (x : Int × ByteArray × Int) : Prop :=
  ∃ a b, l = a ++ b ∧ (∀ b', ∃ post', toksT cm o k (a ++ 10 :: b') = pre ++ x :: post') ∧ (x.1 = 2 ∧ x.2.2 = ((k + a.length : Nat) : Int) ∨ x.1 = 1 ∧ x.2.2 + (x.2.1.size : Int) = ((k + a.length : Nat) : Int))
theorem toksT_cut : ∀ (l : List UInt8) (cm : Bool) (k : Nat),
    (∀ pre x post, toksT cm none k l = pre ++ x :: post → post ≠ [] → CutAt cm none k l pre x) ∧
    (∀ f w, f + w.length = k → ∀ pre x post, toksT cm (some (f, w)) k l = pre ++ x :: post → post ≠ [] → CutAt cm (some (f, w)) k l pre x)
  | [], cm, k => by
    refine ⟨fun pre x post h hp => ?_, fun f w hf pre x post h hp => ?_⟩
    · rw [toksT] at h
      have := congrArg List.length h
      simp at this
      exact absurd (List.eq_nil_of_length_eq_zero (by omega)) hp
    · rw [toksT] at h
      cases pre with
      | nil =>
        simp only [List.nil_append, List.cons.injEq] at h
        obtain ⟨rfl, _⟩ := h
        refine ⟨[], [], rfl, fun b' => ⟨toksT cm none k (10 :: b'), ?_⟩, .inr ⟨rfl, ?_⟩⟩
        · rw [List.nil_append, toksT_stop _ _ _ _ _ _ (by decide)]
          rfl
        · show (f : Int) + ((⟨w.toArray⟩ : ByteArray).size : Int) = _
          have : (⟨w.toArray⟩ : ByteArray).size = w.length := by simp [ByteArray.size]
          rw [this]
          simp
          omega
      | cons y pre =>
        have := congrArg List.length h
        simp at this
        exact absurd (List.eq_nil_of_length_eq_zero (by omega)) hp
  | c :: t, cm, k => by
    have A := fun cm => (toksT_cut t cm (k + 1)).1
    have B := fun cm f w hf => (toksT_cut t cm (k + 1)).2 f w hf
    have up : ∀ {cm' o' pre x}, CutAt cm' o' (k + 1) t pre x → (∀ r, toksT cm none k (c :: r) = toksT cm' o' (k + 1) r) → CutAt cm none k (c :: t) pre x := by
      rintro cm' o' pre x ⟨a, b, h1, h2, h3⟩ hr
      refine ⟨c :: a, b, by rw [h1]; rfl, fun b' => ?_, ?_⟩
      · obtain ⟨post', hq⟩ := h2 b'
        exact ⟨post', by rw [List.cons_append, hr]; exact hq⟩
      · rw [List.length_cons, show k + (a.length + 1) = k + 1 + a.length by omega]
        exact h3
    have N : ∀ pre x post, toksT cm none k (c :: t) = pre ++ x :: post → post ≠ [] → CutAt cm none k (c :: t) pre x := by
      intro pre x post h hp
      by_cases c10 : c = 10
      · subst c10
        rw [toksT_nl] at h
        cases pre with
        | nil =>
          simp only [List.nil_append, List.cons.injEq] at h
          obtain ⟨rfl, _⟩ := h
          exact ⟨[], 10 :: t, rfl, fun b' => ⟨_, by rw [List.nil_append, toksT_nl]; rfl⟩, .inl ⟨rfl, by simp⟩⟩
        | cons y pre =>
          simp only [List.cons_append, List.cons.injEq] at h
          obtain ⟨rfl, h⟩ := h
          obtain ⟨a, b, h1, h2, h3⟩ := A false pre x post h hp
          refine ⟨10 :: a, b, by rw [h1]; rfl, fun b' => ?_, ?_⟩
          · obtain ⟨post', hq⟩ := h2 b'
            exact ⟨post', by rw [List.cons_append, toksT_nl, hq]; rfl⟩
          · rw [List.length_cons, show k + (a.length + 1) = k + 1 + a.length by omega]
            exact h3
      · by_cases hcb : cm = true ∨ blankB c = true
        · have hr : ∀ r, toksT cm none k (c :: r) = toksT cm none (k + 1) r := fun r => by rw [toksT, if_neg c10, if_pos hcb]
          rw [hr] at h
          exact up (A cm pre x post h hp) hr
        · by_cases c35 : c = 35
          · have hr : ∀ r, toksT cm none k (c :: r) = toksT true none (k + 1) r := fun r => by rw [toksT, if_neg c10, if_neg hcb, if_pos c35]
            rw [hr] at h
            exact up (A true pre x post h hp) hr
          · by_cases hw : inWordB c = true
            · have hr : ∀ r, toksT cm none k (c :: r) = toksT cm (some (k, [c])) (k + 1) r := fun r => by rw [toksT, if_neg c10, if_neg hcb, if_neg c35, if_pos hw]
              rw [hr] at h
              exact up (B cm k [c] rfl pre x post h hp) hr
            · rw [toksT, if_neg c10, if_neg hcb, if_neg c35, if_neg hw] at h
              have := congrArg List.length h
              simp at this
              exact absurd (List.eq_nil_of_length_eq_zero (by omega)) hp
    refine ⟨N, fun f w hf pre x post h hp => ?_⟩
    by_cases hw : inWordB c = true
    · rw [toksT_more _ _ _ _ _ _ hw] at h
      obtain ⟨a, b, h1, h2, h3⟩ := B cm f (w ++ [c]) (by rw [List.length_append, List.length_singleton]; omega) pre x post h hp
      refine ⟨c :: a, b, by rw [h1]; rfl, fun b' => ?_, ?_⟩
      · obtain ⟨post', hq⟩ := h2 b'
        exact ⟨post', by rw [List.cons_append, toksT_more _ _ _ _ _ _ hw]; exact hq⟩
      · rw [List.length_cons, show k + (a.length + 1) = k + 1 + a.length by omega]
        exact h3
    · have hw : inWordB c = false := by simpa using hw
      rw [toksT_stop _ _ _ _ _ _ hw] at h
      cases pre with
      | nil =>
        simp only [List.nil_append, List.cons.injEq] at h
        obtain ⟨rfl, _⟩ := h
        refine ⟨[], c :: t, rfl, fun b' => ⟨toksT cm none k (10 :: b'), ?_⟩, .inr ⟨rfl, ?_⟩⟩
        · rw [List.nil_append, toksT_stop _ _ _ _ _ _ (by decide)]
          rfl
        · show (f : Int) + ((⟨w.toArray⟩ : ByteArray).size : Int) = _
          have : (⟨w.toArray⟩ : ByteArray).size = w.length := by simp [ByteArray.size]
          rw [this]
          simp
          omega
      | cons y pre =>
        simp only [List.cons_append, List.cons.injEq] at h
        obtain ⟨rfl, h⟩ := h
        obtain ⟨a, b, h1, h2, h3⟩ := N pre x post h hp
        refine ⟨a, b, h1, fun b' => ?_, h3⟩
        obtain ⟨post', hq⟩ := h2 b'
        refine ⟨post', ?_⟩
        cases a with
        | nil => rw [List.nil_append] at hq ⊢; rw [toksT_stop _ _ _ _ _ _ (by decide), hq]; rfl
        | cons c' a =>
          simp only [List.cons_append, List.cons.injEq] at h1
          obtain ⟨rfl, _⟩ := h1
          rw [List.cons_append] at hq ⊢
          rw [toksT_stop _ _ _ _ _ _ hw, hq]; rfl

/-- The places rise. -/
def Rises (T : TVl) (k : Nat) (m : Nat) : Prop := T.Pairwise (fun x y => x.2.2 < y.2.2) ∧ ∀ x ∈ T, (k : Int) ≤ x.2.2 ∧ x.2.2 ≤ (m : Int)
theorem Rises.cons {T : TVl} {k k' m : Nat} {x : Int × ByteArray × Int} (h : Rises T k' m) (hx : x.2.2 = (k : Int)) (hk : k < k') (hm : k ≤ m) : Rises (x :: T) k m := by
  refine ⟨List.pairwise_cons.2 ⟨fun y hy => by have := h.2 y hy; omega, h.1⟩, fun y hy => ?_⟩
  rcases List.mem_cons.1 hy with rfl | hy
  · omega
  · have := h.2 y hy; omega
theorem Rises.less {T : TVl} {k k' m : Nat} (h : Rises T k' m) (hk : k ≤ k') : Rises T k m := ⟨h.1, fun y hy => by have := h.2 y hy; omega⟩
theorem Rises.one {x : Int × ByteArray × Int} {k m : Nat} (hx : x.2.2 = (k : Int)) (hm : k ≤ m) : Rises [x] k m := ⟨List.pairwise_singleton _ _, fun y hy => by simp only [List.mem_singleton] at hy; subst hy; omega⟩
theorem toksT_rises : ∀ (l : List UInt8) (cm : Bool) (k m : Nat), k + l.length = m → Rises (toksT cm none k l) k m ∧ ∀ f w, f < k → Rises (toksT cm (some (f, w)) k l) f m
  | [], cm, k, m, hm => by
    have h1 : Rises [((3 : Int), (⟨#[]⟩ : ByteArray), (k : Int))] k m := Rises.one rfl (by simp at hm; omega)
    refine ⟨by rw [toksT]; exact h1, fun f w hf => ?_⟩
    rw [toksT]
    exact h1.cons rfl hf (by simp at hm; omega)
  | c :: t, cm, k, m, hm => by
    rw [List.length_cons] at hm
    have A := fun cm => (toksT_rises t cm (k + 1) m (by omega)).1
    have B := fun cm f w hf => (toksT_rises t cm (k + 1) m (by omega)).2 f w hf
    have N : Rises (toksT cm none k (c :: t)) k m := by
      rw [toksT]
      split
      · exact (A false).cons rfl (by omega) (by omega)
      · split
        · exact (A cm).less (by omega)
        · split
          · exact (A true).less (by omega)
          · split
            · exact B cm k [c] (by omega)
            · exact Rises.one rfl (by omega)
    refine ⟨N, fun f w hf => ?_⟩
    by_cases hw : inWordB c = true
    · rw [toksT_more _ _ _ _ _ _ hw]
      exact B cm f _ (by omega)
    · rw [toksT_stop _ _ _ _ _ _ (by simpa using hw)]
      exact N.cons rfl hf (by omega)

/-- The text of the word that begins at a place. -/
def wordAt : TVl → Int → ByteArray
  | [], _ => ⟨#[]⟩
  | t :: r, p => if t.2.2 = p ∧ t.1 = 1 then t.2.1 else wordAt r p
theorem wordAt_other : ∀ (T : TVl) (p : Int), (∀ x ∈ T, x.2.2 ≠ p) → wordAt T p = ⟨#[]⟩
  | [], _, _ => rfl
  | t :: r, p, h => by
    rw [wordAt, if_neg (fun h2 => h t (by simp) h2.1)]
    exact wordAt_other r p (fun x hx => h x (by simp [hx]))
theorem wordAt_mid : ∀ (pre : TVl) (x : Int × ByteArray × Int) (post : TVl), (pre ++ x :: post).Pairwise (fun x y => x.2.2 < y.2.2) → wordAt (pre ++ x :: post) x.2.2 = if x.1 = 1 then x.2.1 else ⟨#[]⟩
  | [], x, post, h => by
    rw [List.nil_append, wordAt]
    by_cases h1 : x.1 = 1
    · rw [if_pos ⟨rfl, h1⟩, if_pos h1]
    · rw [if_neg (fun h => h1 h.2), if_neg h1]
      refine wordAt_other _ _ fun y hy => ?_
      have := (List.pairwise_cons.1 h).1 y hy
      omega
  | t :: pre, x, post, h => by
    have h2 := List.pairwise_cons.1 h
    rw [List.cons_append, wordAt, if_neg (fun h3 => by have := h2.1 x (by simp); omega)]
    exact wordAt_mid pre x post h2.2

/-- Behind the first fault nothing is looked at. -/
theorem local_fault {l : List UInt8} {p e : Int} (h : parseL l = .error (p, e)) :
    (0 ≤ p ∧ p ≤ l.length) ∧ (∀ last, (toksT false none 0 l).getLast? = some last → p < last.2.2 →
      ∀ more, parseL (l.take (p.toNat + (wordAt (toksT false none 0 l) p).size) ++ 10 :: more) = .error (p, e) ∧ p.toNat + (wordAt (toksT false none 0 l) p).size ≤ l.length) := by
  obtain ⟨pre, x, post, h1, rfl, h3⟩ := runT_prefix _ _ _ _ _ h
  obtain ⟨r1, r2⟩ := (toksT_rises l false 0 l.length (by simp)).1
  refine ⟨by have := r2 x (by rw [h1]; simp); omega, fun last hl hlt more => ?_⟩
  have hp : post ≠ [] := by
    rintro rfl
    rw [h1] at hl
    simp at hl
    subst hl
    omega
  obtain ⟨a, b, c1, c2, c3⟩ := (toksT_cut l false 0).1 pre x post h1 hp
  have hw : wordAt (toksT false none 0 l) x.2.2 = if x.1 = 1 then x.2.1 else ⟨#[]⟩ := by
    rw [h1]
    rw [h1] at r1
    exact wordAt_mid pre x post r1
  have hn : x.2.2.toNat + (wordAt (toksT false none 0 l) x.2.2).size = a.length := by
    rw [hw]
    rcases c3 with ⟨c3, c4⟩ | ⟨c3, c4⟩
    · rw [if_neg (by omega)]
      have : (⟨#[]⟩ : ByteArray).size = 0 := rfl
      omega
    · rw [if_pos c3]
      have := r2 x (by rw [h1]; simp)
      omega
  rw [hn, c1]
  refine ⟨?_, by simp⟩
  rw [List.take_left']
  · obtain ⟨post', hq⟩ := c2 more
    unfold parseL
    rw [hq]
    exact h3 post'
  · rfl
end Go.Proofs.YtobofhiakgohfaaDoor
