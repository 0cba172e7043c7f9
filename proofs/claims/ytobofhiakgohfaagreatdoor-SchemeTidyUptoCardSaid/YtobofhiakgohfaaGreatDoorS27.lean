/- Two items of a row swapped, cell by cell. -/
import Derived.Test.YtobofhiakgohfaaGreatDoorS24
set_option linter.unusedVariables false
set_option linter.unusedSimpArgs false
namespace Go.Proofs.YtobofhiakgohfaaGreatDoor
open Go.RowKit

/-- The world behind the eight stores. -/
def swapW (w : World) (g i j : Nat) (X Y : ItemD) : World :=
  (((((((w.setCell ⟨g, i * 4, none⟩ (.string Y.nm)).setCell ⟨g, i * 4 + 1, none⟩ (.int .i64 Y.lo)).setCell ⟨g, i * 4 + 2, none⟩ (.int .i64 Y.hi)).setCell ⟨g, i * 4 + 3, none⟩ (.int .i64 Y.pl)).setCell ⟨g, j * 4, none⟩ (.string X.nm)).setCell ⟨g, j * 4 + 1, none⟩ (.int .i64 X.lo)).setCell ⟨g, j * 4 + 2, none⟩ (.int .i64 X.hi)).setCell ⟨g, j * 4 + 3, none⟩ (.int .i64 X.pl)
theorem swapW_eq (w : World) (g i j : Nat) (X Y : ItemD) : swapW w g i j X Y =
  (((((((w.setCell ⟨g, i * 4, none⟩ (.string Y.nm)).setCell ⟨g, i * 4 + 1, none⟩ (.int .i64 Y.lo)).setCell ⟨g, i * 4 + 2, none⟩ (.int .i64 Y.hi)).setCell ⟨g, i * 4 + 3, none⟩ (.int .i64 Y.pl)).setCell ⟨g, j * 4, none⟩ (.string X.nm)).setCell ⟨g, j * 4 + 1, none⟩ (.int .i64 X.lo)).setCell ⟨g, j * 4 + 2, none⟩ (.int .i64 X.hi)).setCell ⟨g, j * 4 + 3, none⟩ (.int .i64 X.pl) := rfl
theorem swap_own {w : World} {base g c i j : Nat} {l : List ItemD} {X Y : ItemD} (h : w.ownsRow base 53 4 (.slice (some ⟨g, 0, none⟩) l.length c) l.length (icells l)) (hi : i < l.length) (hj : j < l.length) :
    (swapW w g i j X Y).ownsRow base 53 4 (.slice (some ⟨g, 0, none⟩) l.length c) l.length (icells ((l.set i Y).set j X)) := by
  have s0 := (h.stored (i * 4) (.string Y.nm)).1
  have s1 := (s0.stored (i * 4 + 1) (.int .i64 Y.lo)).1
  have s2 := (s1.stored (i * 4 + 2) (.int .i64 Y.hi)).1
  have s3 := (s2.stored (i * 4 + 3) (.int .i64 Y.pl)).1
  have s4 := (s3.stored (j * 4) (.string X.nm)).1
  have s5 := (s4.stored (j * 4 + 1) (.int .i64 X.lo)).1
  have s6 := (s5.stored (j * 4 + 2) (.int .i64 X.hi)).1
  have s7 := (s6.stored (j * 4 + 3) (.int .i64 X.pl)).1
  rw [icells_set _ hi, icells_set _ (by rw [List.length_set]; exact hj)] at s7
  exact s7
theorem swap_blk {w : World} {g i j g2 : Nat} {X Y : ItemD} {t : TypeId} {cs : Array Value} (h : Blk w g2 t cs) (hne : g2 ≠ g) : Blk (swapW w g i j X Y) g2 t cs := by
  unfold swapW
  exact (((((((h.far (p := ⟨g, i * 4, none⟩) hne _).far (p := ⟨g, i * 4 + 1, none⟩) hne _).far (p := ⟨g, i * 4 + 2, none⟩) hne _).far (p := ⟨g, i * 4 + 3, none⟩) hne _).far (p := ⟨g, j * 4, none⟩) hne _).far (p := ⟨g, j * 4 + 1, none⟩) hne _).far (p := ⟨g, j * 4 + 2, none⟩) hne _).far (p := ⟨g, j * 4 + 3, none⟩) hne _
theorem swap_kp {S : Nat → Prop} {w w0 : World} {g i j : Nat} {X Y : ItemD} (h : Kp S w0 w) (hs : S g) : Kp S w0 (swapW w g i j X Y) := by
  unfold swapW
  exact (((((((h.setCell (p := ⟨g, i * 4, none⟩) (.inr hs) _).setCell (p := ⟨g, i * 4 + 1, none⟩) (.inr hs) _).setCell (p := ⟨g, i * 4 + 2, none⟩) (.inr hs) _).setCell (p := ⟨g, i * 4 + 3, none⟩) (.inr hs) _).setCell (p := ⟨g, j * 4, none⟩) (.inr hs) _).setCell (p := ⟨g, j * 4 + 1, none⟩) (.inr hs) _).setCell (p := ⟨g, j * 4 + 2, none⟩) (.inr hs) _).setCell (p := ⟨g, j * 4 + 3, none⟩) (.inr hs) _
/-- All of a step. -/
theorem swap_items {w : World} {base g c i j : Nat} {its : List ItemD} {X Y : ItemD} (h : w.ownsRow base 53 4 (.slice (some ⟨g, 0, none⟩) its.length c) its.length (icells (turnAt its i))) (hij : i + j + 1 = its.length) (hlt : i < j)
    (hX : its[i]? = some X) (hY : its[j]? = some Y) (hn : its.length ≤ 1048576) (hnm : ∀ x ∈ its, x.nm.size ≤ 1048576) : OItemsV (swapW w g i j X Y) base (.slice (some ⟨g, 0, none⟩) its.length c) (turnAt its (i + 1)) := by
  have htl := turn_len its i
  have h2 : w.ownsRow base 53 4 (.slice (some ⟨g, 0, none⟩) (turnAt its i).length c) (turnAt its i).length (icells (turnAt its i)) := by rw [htl]; exact h
  have h3 := swap_own (X := X) (Y := Y) (i := i) (j := j) h2 (by omega) (by omega)
  rw [turn_step its hij hlt hX hY, htl] at h3
  exact ⟨by rw [turn_len]; exact h3, by rw [turn_len]; exact hn, turn_perm_all its (i + 1) hnm⟩
end Go.Proofs.YtobofhiakgohfaaGreatDoor
