/- Further words for memory. -/
import Derived.Test.YtobofhiakgohfaaDoorM
set_option linter.unusedVariables false
set_option linter.unusedSimpArgs false
namespace Go.Proofs.YtobofhiakgohfaaDoor
open Go.RowKit

theorem own_mono {w : World} {b b' : Nat} {e : TypeId} {size n : Nat} {v : Value} {xs : List Value} (h : w.ownsRow b e size v n xs) (hb : b' ≤ b) : w.ownsRow b' e size v n xs := by
  refine ⟨h.1, ?_⟩
  rcases h.2 with h2 | ⟨g, cap, cur, hv, hg, r⟩
  · exact .inl h2
  · exact .inr ⟨g, cap, cur, hv, by omega, r⟩
theorem own_type {w : World} {b : Nat} {e : TypeId} {size n c : Nat} {A : Option Addr} {xs : List Value} (h : w.ownsRow b e size (.slice A n c) n xs) : (∀ ad, A = some ad → ∃ cs, Blk w ad.block e cs) ∧ (A = none → c = 0) ∧ (∀ ad, A = some ad → b ≤ ad.block ∧ ad.spot = none) := by
  rcases h.2 with ⟨h1, _⟩ | ⟨g, cap, cur, hv, hg, hh, _⟩
  · cases h1
    exact ⟨fun _ e => (by cases e), fun _ => rfl, fun _ e => (by cases e)⟩
  · cases hv
    exact ⟨fun _ e => (by cases e; exact ⟨cur, hh⟩), fun e => (by cases e), fun _ e => (by cases e; exact ⟨hg, rfl⟩)⟩
theorem own_form {w : World} {b : Nat} {e : TypeId} {size n : Nat} {v : Value} {xs : List Value} (h : w.ownsRow b e size v n xs) : ∃ A c, v = .slice A n c ∧ n ≤ c ∧ c ≤ 9223372036854775807 := by
  rcases h.2 with ⟨h1, h0⟩ | ⟨g, cap, cur, hv, hg, hh, h1, h2, _⟩
  · subst h0
    exact ⟨none, 0, h1, by omega, by omega⟩
  · exact ⟨_, cap, hv, h1, by simpa [maxLen] using h2⟩
theorem own_blk {w : World} {base : Nat} {e : TypeId} {size n : Nat} {v : Value} {xs : List Value} (h : w.ownsRow base e size v n xs) (g : Nat) (hg : v.ownBlock = some g) : ∃ cs, Blk w g e cs := by
  rcases h.2 with ⟨rfl, _⟩ | ⟨g', cap, cur, rfl, _, hh, _⟩
  · simp [Value.ownBlock] at hg
  · have : g' = g := by simpa [Value.ownBlock] using hg
    subst this
    exact ⟨cur, hh⟩
theorem own_setCell {w : World} {base : Nat} {e : TypeId} {size n : Nat} {v : Value} {xs : List Value} (h : w.ownsRow base e size v n xs) {p : Addr} (hp : v.ownBlock ≠ some p.block) {u : Value} : (w.setCell p u).ownsRow base e size v n xs := by
  refine ⟨h.1, ?_⟩
  rcases h.2 with h2 | ⟨g, cap, cur, rfl, hg, hh, r⟩
  · exact .inl h2
  · refine .inr ⟨g, cap, cur, rfl, hg, (Below.heap_setCell w p u g (fun e => hp (by simp [Value.ownBlock, e]))).trans hh, r⟩
theorem below_kp {B : Nat} {w w' : World} (h : Below B w w') : Kp (fun k => B ≤ k) w w' := ⟨h.os, h.tape, h.output, h.size, fun k _ hk => h.block k (by omega)⟩
theorem Kp.below_of {S : Nat → Prop} {B : Nat} {w w' : World} (h : Kp S w w') (hB : B ≤ w.heap.size) (hs : ∀ k, k < B → ¬ S k) : Below B w w' := ⟨h.os, h.tape, h.output, h.size, fun k hk => h.block k (by omega) (hs k hk)⟩
end Go.Proofs.YtobofhiakgohfaaDoor
