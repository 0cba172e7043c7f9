/- Tokens tile a text: plain Lean. -/
import Derived.Test.YtobofhiakgohfaaDoorP8
namespace Go.Proofs.YtobofhiakgohfaaDoor

/-- Blanks and comments alone; whether a comment is open behind them. -/
def gapScan : Bool → List UInt8 → Option Bool
  | cm, [] => some cm
  | cm, c :: t => if c = 10 ∨ ((cm || c == 35) = false ∧ blankB c = false) then none else gapScan (cm || c == 35) t
theorem gapScan_append : ∀ (a b : List UInt8) (cm : Bool), gapScan cm (a ++ b) = (gapScan cm a).bind (gapScan · b)
  | [], b, cm => rfl
  | c :: t, b, cm => by
    simp only [List.cons_append, gapScan]
    split
    · rfl
    · exact gapScan_append t b _

def seg (l : List UInt8) (a b : Nat) : List UInt8 := (l.drop a).take (b - a)
theorem seg_nil (l : List UInt8) (a : Nat) : seg l a a = [] := by simp [seg]
theorem seg_succ (l : List UInt8) (a k : Nat) (h : a ≤ k) (hk : k < l.length) : seg l a (k + 1) = seg l a k ++ [l[k]?.getD 0] := by
  unfold seg
  rw [show k + 1 - a = (k - a) + 1 by omega, List.take_add_one, List.getElem?_drop, show a + (k - a) = k by omega, List.getElem?_eq_getElem hk]
  rfl

def TilesFrom (l : List UInt8) : Nat → List Tok → Prop
  | _, [] => False
  | at', t :: T => at' ≤ t.pos ∧ t.pos + t.len ≤ l.length ∧ (∃ cm, gapScan false (seg l at' t.pos) = some cm ∧ (cm = true → t.kind = 2 ∨ t.kind = 3)) ∧
      ((((t.kind = 3 ∧ t.len = 0 ∧ t.pos = l.length) ∨ (t.kind = 4 ∧ t.len = 1)) ∧ T = []) ∨
       ((t.kind = 1 ∨ (t.kind = 2 ∧ t.len = 1 ∧ l[t.pos]? = some 10)) ∧ TilesFrom l (t.pos + t.len) T))

theorem tiles_aux (l : List UInt8) : ∀ (n k : Nat), l.length - k = n → k ≤ l.length →
    (∀ cm at', at' ≤ k → gapScan false (seg l at' k) = some cm → TilesFrom l at' (toksR cm none k (l.drop k))) ∧
    (∀ f at', at' ≤ f → f ≤ k → gapScan false (seg l at' f) = some false → TilesFrom l at' (toksR false (some f) k (l.drop k)))
  | 0, k, hn, hk => by
    obtain rfl : k = l.length := by omega
    rw [List.drop_length]
    have A : ∀ cm at', at' ≤ l.length → gapScan false (seg l at' l.length) = some cm → TilesFrom l at' (toksR cm none l.length []) := by
      intro cm at' h1 h2
      rw [toksR_end]
      exact ⟨h1, Nat.le_refl _, ⟨cm, h2, fun _ => .inr rfl⟩, .inl ⟨.inl ⟨rfl, rfl, rfl⟩, rfl⟩⟩
    refine ⟨A, fun f at' h1 h2 h3 => ?_⟩
    rw [toksR_wend]
    refine ⟨h1, (by show f + (l.length - f) ≤ l.length; omega), ⟨false, h3, fun h => (by cases h)⟩, .inr ⟨.inl rfl, ?_⟩⟩
    show TilesFrom l (f + (l.length - f)) _
    rw [show f + (l.length - f) = l.length by omega]
    exact A false l.length (Nat.le_refl _) (by rw [seg_nil]; rfl)
  | n + 1, k, hn, hk => by
    obtain ⟨ihA, ihB⟩ := tiles_aux l n (k + 1) (by omega) (by omega)
    have hkl : k < l.length := by omega
    have hd := drop_here hkl
    have hget : l[k]? = some (l[k]?.getD 0) := by rw [List.getElem?_eq_getElem hkl]; rfl
    have hseg := fun a h => seg_succ l a k h hkl
    generalize l[k]?.getD 0 = c at hd hget hseg
    rw [hd]
    have A : ∀ cm at', at' ≤ k → gapScan false (seg l at' k) = some cm → TilesFrom l at' (toksR cm none k (c :: l.drop (k + 1))) := by
      intro cm at' h1 h2
      by_cases c10 : c = 10
      · subst c10
        rw [toksR_line]
        refine ⟨h1, hkl, ⟨cm, h2, fun _ => .inl rfl⟩, .inr ⟨.inr ⟨rfl, rfl, hget⟩, ?_⟩⟩
        exact ihA false (k + 1) (Nat.le_refl _) (by rw [seg_nil]; rfl)
      · by_cases hcb : cm = true ∨ blankB c = true
        · rw [toksR, if_neg c10, if_pos hcb]
          refine ihA cm at' (by omega) ?_
          rw [hseg at' h1, gapScan_append, h2]
          show gapScan cm [c] = some cm
          have e : (cm || c == 35) = cm := by
            rcases hcb with rfl | hb
            · rfl
            · have : (c == 35) = false := by
                rw [beq_eq_false_iff_ne]; rintro rfl; exact absurd hb (by decide)
              rw [this, Bool.or_false]
          simp only [gapScan, e]
          rw [if_neg]
          rintro (h | ⟨h3, h4⟩)
          · exact c10 h
          · rcases hcb with h | h
            · rw [h] at h3; cases h3
            · rw [h] at h4; cases h4
        · have hcm : cm = false := by
            cases cm
            · rfl
            · exact absurd (.inl rfl) hcb
          subst hcm
          have hb : blankB c = false := by
            cases hb : blankB c
            · rfl
            · exact absurd (.inr hb) hcb
          by_cases c35 : c = 35
          · subst c35
            rw [toksR_hash]
            refine ihA true at' (by omega) ?_
            rw [hseg at' h1, gapScan_append, h2]
            rfl
          · by_cases hw : inWordB c = true
            · rw [toksR_word _ _ _ hw]
              exact ihB k at' h1 (by omega) h2
            · rw [toksR_bad _ _ _ (by simpa using hw) c10 hb c35]
              exact ⟨h1, hkl, ⟨false, h2, fun h => (by cases h)⟩, .inl ⟨.inr ⟨rfl, rfl⟩, rfl⟩⟩
    refine ⟨A, fun f at' h1 h2 h3 => ?_⟩
    by_cases hw : inWordB c = true
    · rw [toksR_more _ _ _ _ _ hw]
      exact ihB f at' h1 (by omega) h3
    · rw [toksR_stop _ _ _ _ _ (by simpa using hw)]
      refine ⟨h1, (by show f + (k - f) ≤ l.length; omega), ⟨false, h3, fun h => (by cases h)⟩, .inr ⟨.inl rfl, ?_⟩⟩
      show TilesFrom l (f + (k - f)) _
      rw [show f + (k - f) = k by omega]
      exact A false k (Nat.le_refl _) (by rw [seg_nil]; rfl)

/-- The tokens of a text tile it. -/
theorem toks_tiles (l : List UInt8) : TilesFrom l 0 (toks l) := by
  have := (tiles_aux l l.length 0 rfl (Nat.zero_le _)).1 false 0 (Nat.le_refl _) (by rw [seg_nil]; rfl)
  rwa [List.drop_zero] at this
end Go.Proofs.YtobofhiakgohfaaDoor
