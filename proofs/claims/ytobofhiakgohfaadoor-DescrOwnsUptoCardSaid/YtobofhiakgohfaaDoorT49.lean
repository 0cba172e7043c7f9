/- descr: the document's word, any state. -/
import Derived.Test.YtobofhiakgohfaaDoorT44
import Derived.Test.YtobofhiakgohfaaDoorT46
import Derived.Test.YtobofhiakgohfaaDoorT47
import Derived.Test.YtobofhiakgohfaaDoorT48
set_option linter.unusedVariables false
set_option linter.unusedSimpArgs false
namespace Go.Proofs.YtobofhiakgohfaaDoor
open Go.RowKit

/-- What the machine's counts bound. -/
def okM (d : DescD) : Prop := d.cls.length ≤ 32 ∧ d.shs.length ≤ 32 ∧ (∀ q ∈ d.cls, q.its.length ≤ 32) ∧ ∀ q ∈ d.shs, q.its.length ≤ 8
theorem modLast_ok {α : Type} (f : α → α) {l : List α} (h : l ≠ []) : ∃ l0 x, l = l0 ++ [x] ∧ modLast f l = l0 ++ [f x] := by
  obtain ⟨l0, x, rfl⟩ := snoc_of h
  exact ⟨l0, x, rfl, modLast_snoc f l0 x⟩
theorem snoc_ne {α : Type} {l : List α} {x : α} : l ++ [x] ≠ [] := by simp
theorem stepW_ok {d d' : DescD} {st st' : Nat} {s : ByteArray} {p : Int} (ho : okSt d st) (hn : okM d) (h : stepW d st s p = .ok (d', st')) : okSt d' st' ∧ okM d' := by
  obtain ⟨o1, o2, o3⟩ := ho
  obtain ⟨n1, n2, n3, n4⟩ := hn
  unfold stepW at h
  split at h
  · split at h
    · split at h
      · cases h
      · cases h
        refine ⟨⟨fun _ => snoc_ne, fun h => by omega, by omega⟩, by simp; omega, n2, fun q hq => ?_, n4⟩
        rcases List.mem_append.1 hq with hq | hq
        · exact n3 q hq
        · simp only [List.mem_singleton] at hq
          subst hq
          exact Nat.zero_le _
    · split at h
      · split at h
        · cases h
        · cases h
          refine ⟨⟨fun h => by omega, fun _ => snoc_ne, by omega⟩, n1, by simp; omega, n3, fun q hq => ?_⟩
          rcases List.mem_append.1 hq with hq | hq
          · exact n4 q hq
          · simp only [List.mem_singleton] at hq
            subst hq
            exact Nat.zero_le _
      · cases h
  · split at h
    · rename_i h1
      split at h
      · cases h
        obtain ⟨l0, x, e1, e2⟩ := modLast_ok (fun c : ClassD => ⟨s, c.its, p⟩) (o1 (.inl h1))
        rw [e2]
        rw [e1] at n1 n3
        simp at n1
        refine ⟨⟨fun _ => snoc_ne, fun h => by omega, by omega⟩, by simp; omega, n2, fun q hq => ?_, n4⟩
        rcases List.mem_append.1 hq with hq | hq
        · exact n3 q (by simp [hq])
        · simp only [List.mem_singleton] at hq
          subst hq
          exact n3 x (by simp)
      · cases h
    · split at h
      · rename_i h1
        split at h
        · cases h
        · rename_i x hx
          obtain ⟨l0, y, e1, e2⟩ := modLast_ok (fun c : ClassD => ⟨c.nm, c.its ++ [⟨x.nm, x.lo, x.hi, p⟩], c.pl⟩) (o1 (by omega))
          split at h
          · cases h
          · rename_i hl
            cases h
            rw [e2]
            rw [e1] at n1 n3 hl
            rw [its0_snoc] at hl
            simp at n1
            refine ⟨⟨fun _ => snoc_ne, fun h => by omega, by omega⟩, by simp; omega, n2, fun q hq => ?_, n4⟩
            rcases List.mem_append.1 hq with hq | hq
            · exact n3 q (by simp [hq])
            · simp only [List.mem_singleton] at hq
              subst hq
              have := n3 y (by simp)
              show (y.its ++ _).length ≤ 32
              simp
              omega
      · split at h
        · rename_i h1
          cases h
          exact ⟨⟨fun h => by omega, fun _ => o2 (by omega), by omega⟩, n1, n2, n3, n4⟩
        · split at h
          · rename_i h1
            split at h
            · cases h
            · rename_i x hx
              obtain ⟨l0, y, e1, e2⟩ := modLast_ok (fun c : ShapeD => ⟨c.its ++ [⟨x.nm, x.lo, x.hi, p⟩], c.first, c.pl⟩) (o2 (by omega))
              split at h
              · cases h
              · rename_i hl
                cases h
                rw [e2]
                rw [e1] at n2 n4 hl
                rw [its0_snoc] at hl
                simp at n2
                refine ⟨⟨fun h => by omega, fun _ => snoc_ne, by omega⟩, n1, by simp; omega, n3, fun q hq => ?_⟩
                rcases List.mem_append.1 hq with hq | hq
                · exact n4 q (by simp [hq])
                · simp only [List.mem_singleton] at hq
                  subst hq
                  have := n4 y (by simp)
                  show (y.its ++ _).length ≤ 8
                  simp
                  omega
          · split at h
            · rename_i h1
              split at h
              · cases h
              · rename_i n hx
                cases h
                obtain ⟨l0, x, e1, e2⟩ := modLast_ok (fun c : ShapeD => ⟨c.its, (n : Int), p⟩) (o2 (by omega))
                rw [e2]
                rw [e1] at n2 n4
                simp at n2
                refine ⟨⟨fun h => by omega, fun h => by omega, by omega⟩, n1, by simp; omega, n3, fun q hq => ?_⟩
                rcases List.mem_append.1 hq with hq | hq
                · exact n4 q (by simp [hq])
                · simp only [List.mem_singleton] at hq
                  subst hq
                  exact n4 x (by simp)
            · cases h

theorem rword_any (w : World) (base gd : Nat) (d : DescD) (st : Nat) (s : ByteArray) (p : Int) (hs : s.size ≤ 1048576) (h : RS w base gd d) (hbase : base ≤ w.heap.size) (ho : okSt d st) (hn : okM d) :
    Calls Tryd.prog 68 #[.pointer (some ⟨gd, 0, none⟩), .int .i64 (st : Int), .agg #[.int .i64 1, .string s, .int .i64 p]] w (RWPost base gd (stepW d st s p) w) := by
  obtain ⟨o1, o2, o3⟩ := ho
  obtain ⟨n1, n2, n3, n4⟩ := hn
  have : st = 0 ∨ st = 1 ∨ st = 2 ∨ st = 3 ∨ st = 4 ∨ st = 5 ∨ st = 6 ∨ st = 7 := by omega
  rcases this with rfl | rfl | rfl | rfl | rfl | rfl | rfl | rfl
  · exact rword_0 w base gd d s p hs h hbase n1 n2
  · exact rword_1 w base gd d s p hs h hbase (o1 (by omega)) n1
  · exact rword_2 w base gd d s p hs h hbase (o1 (by omega)) n1 n3
  · exact rword_3 w base gd d s p hs h hbase (o1 (by omega)) n1 n3
  · exact rword_4 w base gd d s p hs h hbase (o2 (by omega)) n2 n4
  · by_cases hat : s.data.toList = bAt
    · exact rword_5at w base gd d s p hs h hbase (o2 (by omega)) n2 hat
    · exact rword_5 w base gd d s p hs h hbase (o2 (by omega)) n2 n4 hat
  · exact rword_6 w base gd d s p hs h hbase (o2 (by omega)) n2
  · exact rword_7 w base gd d s p hs h hbase
theorem stepW_err {d : DescD} {st : Nat} {s : ByteArray} {p e : Int} (hs : stepW d st s p = .error e) : e ≠ 0 := by
  unfold stepW at hs
  repeat' split at hs
  all_goals first
    | (cases hs; omega)
    | cases hs
end Go.Proofs.YtobofhiakgohfaaDoor
