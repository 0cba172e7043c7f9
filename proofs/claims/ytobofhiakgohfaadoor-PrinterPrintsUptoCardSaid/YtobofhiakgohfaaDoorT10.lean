/- token: Digits. -/
import Derived.Test.YtobofhiakgohfaaDoorB1
import Derived.Test.YtobofhiakgohfaaDoorP9
set_option linter.unusedVariables false
set_option linter.unusedSimpArgs false
namespace Go.Proofs.YtobofhiakgohfaaDoor
open Go.RowKit

theorem lit_get (n : Nat) (h : n < (ByteArray.mk #[48, 49, 50, 51, 52, 53, 54, 55, 56, 57, 65, 66, 67, 68, 69, 70]).size) : (ByteArray.mk #[48, 49, 50, 51, 52, 53, 54, 55, 56, 57, 65, 66, 67, 68, 69, 70])[n] = hexd n := by
  have key : ∀ m : Fin 16, (ByteArray.mk #[48, 49, 50, 51, 52, 53, 54, 55, 56, 57, 65, 66, 67, 68, 69, 70])[m.val]'m.isLt = hexd m.val := by decide
  exact key ⟨n, h⟩
theorem and15 (c : UInt8) : bits .and .u8 (c.toNat : Int) 15 = ((c.toNat % 16 : Nat) : Int) := by
  have h : ∀ n : Fin 256, bits .and .u8 (n.val : Int) 15 = ((n.val % 16 : Nat) : Int) := by decide +kernel
  exact h ⟨c.toNat, c.toNat_lt⟩

set_option maxRecDepth 100000 in
set_option maxHeartbeats 2000000 in
theorem digits_any (A : Option Addr) (cp : Nat) (bs : List UInt8) (w : World) (hr : Reads w w.heap.size 1 A bs.length (bvs bs)) (hl : bs.length ≤ 35184372088832) : Calls Tryd.prog 35 #[.slice A bs.length cp] w fun e w' => e = .returned (.string ⟨(digL bs).toArray⟩) ∧ K0 w w' := by
  go_enter Tryd.func35, Tryd.ntmps35
  go_wp2
  go_loopw [8] (fun i wr => ∃ q : Nat, q ≤ bs.length ∧ i = .int .i64 (q : Int) ∧ BdV wr w.heap.size w.heap.size (digL (bs.take q)) ∧ Below w.heap.size w wr)
    (fun i wr => bs.length - (intOf i).toNat)
  case atStart => exact ⟨0, by omega, rfl, bd_new w _ (Nat.le_refl _), (Below.refl _ _).alloc (Nat.le_refl _) _⟩
  case round =>
    obtain ⟨q, hq, rfl, hbd, hk⟩ := hrel
    by_cases hlt : q < bs.length
    · obtain ⟨ad, u, rfl, hbl, hu, hcell⟩ := (hr.below hk).at_ hlt
      rw [bvs_get hlt] at hu
      cases hu
      unfold bv at hcell
      have hd : digL (bs.take (q + 1)) = digL (bs.take q) ++ [hexd (bs[q].toNat / 16), hexd (bs[q].toNat % 16)] := by
        rw [List.take_add_one, List.getElem?_eq_getElem hlt, digL_append]; rfl
      have hln : (digL (bs.take q)).length = 2 * q := by rw [digL_length, List.length_take]; omega
      have HD := Lib.hid hd
      have HLN := Lib.hid hln
      clear hd hln
      generalize bs[q] = c at hcell HD
      have hcl := c.toNat_lt
      have hi16 : c.toNat / 16 < 16 := by omega
      have lo16 : c.toNat % 16 < 16 := by omega
      obtain ⟨hi, hhi⟩ : ∃ hi, hi = c.toNat / 16 := ⟨_, rfl⟩
      obtain ⟨lo, hlo⟩ : ∃ lo, lo = c.toNat % 16 := ⟨_, rfl⟩
      rw [← hhi] at HD hi16
      rw [← hlo] at HD lo16
      have hsh : (c.toNat : Int) / 16 = (hi : Int) := by omega
      have HHI := Lib.hid hhi
      have HLO := Lib.hid hlo
      clear hhi hlo
      have hand : bits .and .u8 (c.toNat : Int) 15 = (lo : Int) := by rw [and15, HLO.out]
      go_wp2_with fail
      refine (writeByte_any _ _ _ _ _ hbd (by rw [HLN.out]; omega)).mono ?_
      rintro e w2 ⟨rfl, hbd2, hk2⟩
      rw [lit_get] at hbd2
      go_wp2_with fail
      refine (writeByte_any _ _ _ _ _ hbd2 (by rw [List.length_append, HLN.out, List.length_singleton]; omega)).mono ?_
      rintro e w3 ⟨rfl, hbd3, hk3⟩
      rw [lit_get, List.append_assoc] at hbd3
      go_wp2
      exact ⟨⟨q + 1, by omega, by go_num, by rw [HD.out]; exact hbd3, (hk.trans hk2).trans hk3⟩, by simp [intOf]; omega⟩
    · obtain rfl : q = bs.length := by omega
      rw [List.take_length] at hbd
      go_wp2_with fail
      refine (Tryd.Builder_String_any _ _ _ _ hbd hk.size).mono ?_
      rintro e w2 ⟨rfl, hk2⟩
      go_wp2
      go_ret
      exact ⟨rfl, Kp.of_below (hk.trans hk2)⟩
end Go.Proofs.YtobofhiakgohfaaDoor
