/- The digits of base sixteen, pairs of them: plain Lean. -/
import Derived.Test.YtobofhiakgohfaaDoorShelf
namespace Go.Proofs.YtobofhiakgohfaaDoor

/-- A digit of base sixteen; -1: none. -/
def hexv (c : UInt8) : Int := if 48 ≤ c.toNat ∧ c.toNat ≤ 57 then (c.toNat : Int) - 48 else if 65 ≤ c.toNat ∧ c.toNat ≤ 70 then (c.toNat : Int) - 55 else -1
theorem hexv_lt (c : UInt8) : hexv c < 16 := by
  unfold hexv
  split
  · omega
  · split <;> omega
theorem hexv_ge (c : UInt8) : -1 ≤ hexv c := by
  unfold hexv
  split
  · omega
  · split <;> omega
/-- The byte that two digits write; -1: none. -/
def pairV (a b : UInt8) : Int := if hexv a < 0 ∨ hexv b < 0 then -1 else 16 * hexv a + hexv b
theorem pairV_lt (a b : UInt8) : pairV a b < 256 := by
  unfold pairV
  have := hexv_lt a; have := hexv_lt b
  split <;> omega
theorem pairV_ge (a b : UInt8) : -1 ≤ pairV a b := by
  unfold pairV
  split <;> omega
/-- .. from place i on. -/
def pairI (l : List UInt8) (i : Nat) : Int := if l.length < i + 2 then -1 else pairV (l[i]?.getD 0) (l[i + 1]?.getD 0)
theorem pairI_lt (l : List UInt8) (i : Nat) : pairI l i < 256 := by
  unfold pairI
  split
  · omega
  · exact pairV_lt _ _
theorem pairI_ge (l : List UInt8) (i : Nat) : -1 ≤ pairI l i := by
  unfold pairI
  split
  · omega
  · exact pairV_ge _ _
def hexLetters : List UInt8 := [48, 49, 50, 51, 52, 53, 54, 55, 56, 57, 65, 66, 67, 68, 69, 70]
theorem indexByte_hex (c : UInt8) : Go.Lib.indexByte hexLetters c = hexv c := by
  have h : ∀ n : Fin 256, Go.Lib.indexByte hexLetters (UInt8.ofNat n.val) = hexv (UInt8.ofNat n.val) := by decide +kernel
  have := h ⟨c.toNat, c.toNat_lt⟩
  simpa using this
end Go.Proofs.YtobofhiakgohfaaDoor
