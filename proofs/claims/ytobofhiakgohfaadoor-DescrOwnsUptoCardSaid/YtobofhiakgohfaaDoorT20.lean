/- The walk of TokenBack. -/
import Derived.Test.YtobofhiakgohfaaDoorT15
import Derived.Test.YtobofhiakgohfaaDoorTC
import Derived.Test.YtobofhiakgohfaaDoorPB
import Derived.Lib.SmallJoins
import Derived.Lib.AppendIntMem
import Derived.Lib.ItoaLen
set_option linter.unusedVariables false
set_option linter.unusedSimpArgs false
namespace Go.Proofs.YtobofhiakgohfaaDoor
open Go.RowKit

/-- The table of the powers of ten is laid. -/
abbrev PowV (w : World) : Prop := Lib.TabIs Tryd.prog w "internal/strconv.uint64pow10" .u64 Lib.pow10Tab
theorem gPow : Tryd.prog.globalNamed "internal/strconv.uint64pow10" = some 3 := by kernel_rfl
theorem PowV.k0 {w w' : World} (h : PowV w) (hk : K0 w w') : PowV w' := Go.Joins.tab_stays gPow h hk.below (Nat.le_refl _)
theorem itoa_any (n : Int) (w : World) (h0 : -9223372036854775808 ≤ n) (h1 : n ≤ 9223372036854775807) (hp : PowV w) : Calls Tryd.prog 34 #[.int .i64 n] w fun e w' => e = .returned (.string ⟨(Lib.itoa n).toArray⟩) ∧ K0 w w' := by
  refine (Tryd.strconv_Itoa n h0 h1 w hp).mono ?_
  rintro e w' ⟨rfl, k, os, rfl⟩
  exact ⟨rfl, Kp.of_below (Go.Lib.below_grow _ w (Nat.le_refl _) _ _)⟩
theorem itoa_ne (n : Int) : Lib.itoa n ≠ [] := by
  unfold Lib.itoa
  split
  · simp
  · exact (dec_facts _ _ (Nat.le_refl _)).2.2.1

/-- What Number answers of what Itoa writes. -/
def backR (n : Int) : Int × Bool := if 0 ≤ n ∧ n ≤ 999999999 then (n, true) else (0, false)
theorem number_itoa (n : Int) (w : World) (h0 : -9223372036854775808 ≤ n) (h1 : n ≤ 9223372036854775807) : Calls Tryd.prog 28 #[.string ⟨(Lib.itoa n).toArray⟩] w fun e w' => e = .returned (.tuple #[.int .i64 (backR n).1, .bool (backR n).2]) ∧ K0 w w' := by
  have hl := Lib.itoa_length_le n h0 h1
  refine (number_any ⟨(Lib.itoa n).toArray⟩ w (by show (Lib.itoa n).toArray.size ≤ _; simp; omega) (by simpa using itoa_ne n)).mono ?_
  rintro e w' ⟨rfl, hk⟩
  refine ⟨?_, hk⟩
  show Ending.returned (.tuple #[.int .i64 (((numR (Lib.itoa n)).getD 0 : Nat) : Int), .bool (numR (Lib.itoa n)).isSome]) = _
  rw [numR_itoa]
  unfold backR
  by_cases h : 0 ≤ n ∧ n ≤ 999999999
  · rw [if_pos h, if_pos h]
    simp
    omega
  · rw [if_neg h, if_neg h]
    rfl

theorem itemR_two (c : UInt8) : itemR ⟨(digL [c]).toArray⟩ = (itemVal ⟨#[]⟩ (c.toNat : Int) (c.toNat : Int), true) := by
  have h1 : ¬ nameB (digL [c]) = true := by
    have key : ∀ m : Fin 256, nameB (digL [UInt8.ofNat m.val]) = false := by decide +kernel
    have := key ⟨c.toNat, c.toNat_lt⟩
    simp at this
    simp [this]
  have h2 : pairI (digL [c]) 0 = (c.toNat : Int) := by
    unfold pairI
    rw [if_neg (by rw [digL_length]; simp)]
    exact pairV_hexd c
  unfold itemR
  show (if nameB (digL [c]) = true then _ else if (digL [c]).toArray.size = 2 ∧ 0 ≤ pairI (digL [c]) 0 then (itemVal ⟨#[]⟩ (pairI (digL [c]) 0) (pairI (digL [c]) 0), true) else _) = _
  rw [if_neg h1, h2, if_pos ⟨by simp [digL_length], by omega⟩]

def spanL (c d : UInt8) : List UInt8 := digL [c] ++ 45 :: digL [d]
theorem itemR_span (c d : UInt8) : itemR ⟨(spanL c d).toArray⟩ = if c.toNat ≤ d.toNat then (itemVal ⟨#[]⟩ (c.toNat : Int) (d.toNat : Int), true) else (itemVal ⟨#[]⟩ 0 0, false) := by
  have hl : (spanL c d).length = 5 := by simp [spanL, digL_length]
  have h1 : ¬ nameB (spanL c d) = true := by
    have h45 : (spanL c d).all (fun c => letterB c || digitB c) = false := by
      cases hx : (spanL c d).all (fun c => letterB c || digitB c)
      · rfl
      · have := List.all_eq_true.1 hx 45 (by simp [spanL])
        exact absurd this (by decide)
    unfold nameB
    rw [h45, Bool.and_false]
    simp
  have h2 : pairI (spanL c d) 0 = (c.toNat : Int) := by
    unfold pairI
    rw [if_neg (by omega)]
    exact pairV_hexd c
  have h3 : pairI (spanL c d) 3 = (d.toNat : Int) := by
    unfold pairI
    rw [if_neg (by omega)]
    exact pairV_hexd d
  have h4 : (spanL c d)[2]?.getD 0 = 45 := rfl
  have hsz : (spanL c d).toArray.size = 5 := by simpa using hl
  unfold itemR
  show (if nameB (spanL c d) = true then _ else if (spanL c d).toArray.size = 2 ∧ 0 ≤ pairI (spanL c d) 0 then _ else if (spanL c d).toArray.size = 5 ∧ 0 ≤ pairI (spanL c d) 0 ∧ (spanL c d)[2]?.getD 0 = 45 ∧ pairI (spanL c d) 0 ≤ pairI (spanL c d) 3 then (itemVal ⟨#[]⟩ (pairI (spanL c d) 0) (pairI (spanL c d) 3), true) else (itemVal ⟨#[]⟩ 0 0, false)) = _
  rw [if_neg h1, if_neg (by rw [hsz]; omega)]
  by_cases hcd : c.toNat ≤ d.toNat
  · rw [if_pos ⟨hsz, by rw [h2]; omega, h4, by rw [h2, h3]; omega⟩, if_pos hcd, h2, h3]
  · rw [if_neg (by rw [h2, h3]; omega), if_neg hcd]

/-- The byte at a place. -/
def byteAt (bs : List UInt8) (k : Nat) : UInt8 := bs[k]?.getD 0
/-- Digits of one byte of a list. -/
theorem digits_at (bs : List UInt8) (A A' : Option Addr) (W : World) (k cp : Nat) (hk : k < bs.length) (hcp : bs.length ≤ cp) (hA : A' = if cp = k then A else A.map (·.add (k * 1))) (hr : Reads W W.heap.size 1 A bs.length (bvs bs)) :
    Calls Tryd.prog 35 #[.slice A' 1 (cp - k)] W fun e w' => e = .returned (.string ⟨(digL [byteAt bs k]).toArray⟩) ∧ K0 W w' := by
  have h := digits_any A' (cp - k) [bs[k]?.getD 0] W ?_ (by simp)
  · exact h
  · have hp := hr.piece (k := k) (m := 1) (cap := cp) (A' := A') (by omega) hcp hA
    have e : ((bvs bs).drop (k * 1)).take (1 * 1) = bvs [bs[k]?.getD 0] := by
      rw [bvs_drop, Nat.mul_one k, drop_here hk]
      rfl
    rw [e] at hp
    exact hp
theorem item_two (c : UInt8) (W : World) : Calls Tryd.prog 26 #[.string ⟨(digL [c]).toArray⟩] W fun e w' => e = .returned (.tuple #[.agg #[.string ⟨#[]⟩, .int .i64 (c.toNat : Int), .int .i64 (c.toNat : Int), .int .i64 0], .bool true]) ∧ K0 W w' := by
  refine (item_any ⟨(digL [c]).toArray⟩ W (by show (digL [c]).toArray.size ≤ _; simp [digL_length])).mono ?_
  rintro e w' ⟨rfl, hk⟩
  rw [itemR_two]
  exact ⟨rfl, hk⟩
theorem item_span (c d : UInt8) (W : World) : Calls Tryd.prog 26 #[.string ⟨(spanL c d).toArray⟩] W fun e w' => e = .returned (.tuple (if c.toNat ≤ d.toNat then #[.agg #[.string ⟨#[]⟩, .int .i64 (c.toNat : Int), .int .i64 (d.toNat : Int), .int .i64 0], .bool true] else #[.agg #[.string ⟨#[]⟩, .int .i64 0, .int .i64 0, .int .i64 0], .bool false])) ∧ K0 W w' := by
  refine (item_any ⟨(spanL c d).toArray⟩ W (by show (spanL c d).toArray.size ≤ _; simp [spanL, digL_length])).mono ?_
  rintro e w' ⟨rfl, hk⟩
  rw [itemR_span]
  refine ⟨?_, hk⟩
  split <;> rfl
/-- Hex of what Digits writes. -/
theorem hex_dig (bs : List UInt8) (W : World) (hl : bs.length ≤ 70368744177664) : Calls Tryd.prog 30 #[.string ⟨(digL bs).toArray⟩] W fun e w' => ∃ A c, e = .returned (.tuple #[.slice A bs.length c, .bool true]) ∧ w'.ownsRow W.heap.size 5 1 (.slice A bs.length c) bs.length (bvs bs) ∧ K0 W w' := by
  refine (hex_any ⟨(digL bs).toArray⟩ W (by show (digL bs).toArray.size ≤ _; simp [digL_length]; omega)).mono ?_
  rintro e w' ⟨v, rfl, hown, hk⟩
  have h : hexR (ByteArray.mk (digL bs).toArray).data.toList = some bs := hexR_digL bs
  rw [h] at hown
  obtain ⟨A, c, rfl, _, _⟩ := own_form hown
  exact ⟨A, c, by rw [h]; rfl, hown, hk⟩
end Go.Proofs.YtobofhiakgohfaaDoor
