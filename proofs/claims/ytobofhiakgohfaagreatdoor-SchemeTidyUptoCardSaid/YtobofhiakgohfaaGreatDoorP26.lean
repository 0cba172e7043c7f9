/- A text's meaning, out of its bytes. -/
import Derived.Test.YtobofhiakgohfaaGreatDoorZK
set_option linter.unusedVariables false
set_option linter.unusedSimpArgs false
namespace Go.Proofs.YtobofhiakgohfaaGreatDoor
open Go.RowKit

theorem tv_word (s : ByteArray) (f k : Nat) (h : f ≤ k) : tv s ⟨1, f, k - f⟩ = (1, ⟨((s.data.toList.drop f).take (k - f)).toArray⟩, (f : Int)) := by
  show ((1 : Int), s.extract f (f + (k - f)), (f : Int)) = _
  have : s.extract f (f + (k - f)) = ⟨((s.data.toList.drop f).take (k - f)).toArray⟩ := ba_ext (by rw [extract_list]; simp)
  rw [this]
theorem tv_bad (s : ByteArray) (k : Nat) (c : UInt8) (t : List UInt8) (h : s.data.toList.drop k = c :: t) : tv s ⟨4, k, 1⟩ = (4, ⟨#[c]⟩, (k : Int)) := by
  show ((4 : Int), s.extract k (k + 1), (k : Int)) = _
  have : s.extract k (k + 1) = ⟨#[c]⟩ := ba_ext (by rw [extract_list, h]; simp)
  rw [this]
theorem take_here {l t : List UInt8} {f k : Nat} {c : UInt8} (hf : f ≤ k) (h : l.drop k = c :: t) : (l.drop f).take (k + 1 - f) = (l.drop f).take (k - f) ++ [c] := by
  have hk : k < l.length := by
    rcases Nat.lt_or_ge k l.length with h1 | h1
    · exact h1
    · rw [List.drop_eq_nil_of_le h1] at h; cases h
  have hc : l[k]? = some c := by
    have := congrArg (fun l : List UInt8 => l[0]?) h
    simpa using this
  rw [show k + 1 - f = (k - f) + 1 by omega, List.take_add_one, List.getElem?_drop, show f + (k - f) = k by omega, hc]
  rfl
theorem toksT_eq (s : ByteArray) : ∀ (l : List UInt8) (cm : Bool) (k : Nat), s.data.toList.drop k = l →
    ((toksR cm none k l).map (tv s) = toksT cm none k l) ∧ ∀ f, f ≤ k → (toksR cm (some f) k l).map (tv s) = toksT cm (some (f, (s.data.toList.drop f).take (k - f))) k l
  | [], cm, k, h => by
    refine ⟨rfl, fun f hf => ?_⟩
    rw [toksR, toksT, List.map_cons, List.map_cons, tv_word s f k hf]
    rfl
  | c :: t, cm, k, h => by
    have hd : s.data.toList.drop (k + 1) = t := by rw [← List.drop_drop, h]; rfl
    have A := fun cm => (toksT_eq s t cm (k + 1) hd).1
    have B := fun cm f hf => (toksT_eq s t cm (k + 1) hd).2 f hf
    have hb := tv_bad s k c t h
    refine ⟨?_, fun f hf => ?_⟩
    · rw [toksR, toksT]
      split
      · rw [List.map_cons, A]; rfl
      · split
        · exact A cm
        · split
          · exact A true
          · split
            · have := B cm k (by omega)
              rw [this, take_here (Nat.le_refl k) h]
              simp
            · rw [List.map_cons, hb]; rfl
    · rw [toksR, toksT]
      split
      · have := B cm f (by omega)
        rw [this, take_here hf h]
      · rw [List.map_cons, tv_word s f k hf]
        congr 1
        split
        · rw [List.map_cons, A]; rfl
        · split
          · exact A cm
          · split
            · exact A true
            · rw [List.map_cons, hb]; rfl
theorem parseR_eq (s : ByteArray) : parseR s = parseL s.data.toList := by
  unfold parseR parseL toks
  rw [(toksT_eq s s.data.toList false 0 (by simp)).1]
end Go.Proofs.YtobofhiakgohfaaGreatDoor
