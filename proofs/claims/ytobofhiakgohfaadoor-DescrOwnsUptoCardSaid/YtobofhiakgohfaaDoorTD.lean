/- token: Digits. the reference's Digits. -/
import Derived.Test.YtobofhiakgohfaaDoorB1
import Derived.Test.YtobofhiakgohfaaDoorPB
set_option linter.unusedVariables false
set_option linter.unusedSimpArgs false
namespace Go.Proofs.YtobofhiakgohfaaDoor
open Go.RowKit

theorem lit_get (n : Nat) (h : n < (ByteArray.mk #[48, 49, 50, 51, 52, 53, 54, 55, 56, 57, 65, 66, 67, 68, 69, 70]).size) : (ByteArray.mk #[48, 49, 50, 51, 52, 53, 54, 55, 56, 57, 65, 66, 67, 68, 69, 70])[n] = hexd n := by
  have key : ∀ m : Fin 16, (ByteArray.mk #[48, 49, 50, 51, 52, 53, 54, 55, 56, 57, 65, 66, 67, 68, 69, 70])[m.val]'m.isLt = hexd m.val := by decide
  exact key ⟨n, h⟩
theorem and15 (c : UInt8) : bits .and .u8 (c.toNat : Int) 15 = ((c.toNat % 16 : Nat) : Int) := by
  have h : ∀ n : Fin 256, bits .and .u8 (n.val : Int) 15 = ((n.val % 16 : Nat) : Int) := by decide +kernel
  exact h ⟨c.toNat, c.toNat_lt⟩

set_option maxRecDepth 100000 in
set_option maxHeartbeats 2000000 in
theorem digits_any (A : Option Addr) (cp : Nat) (bs : List UInt8) (w : World) (hr : Reads w w.heap.size 1 A bs.length (bvs bs)) (hl : bs.length ≤ 35184372088832) : Calls Tryd.prog 35 #[.slice A bs.length cp] w fun e w' => e = .returned (.string ⟨(digL bs).toArray⟩) ∧ K0 w w' := by
  go_enter Tryd.func35, Tryd.ntmps35
  go_wp2
  go_loopw [8] (fun i wr => ∃ q : Nat, q ≤ bs.length ∧ i = .int .i64 (q : Int) ∧ BdV wr w.heap.size w.heap.size (digL (bs.take q)) ∧ Below w.heap.size w wr)
    (fun i wr => bs.length - (intOf i).toNat)
  case atStart => exact ⟨0, by omega, rfl, bd_new w _ (Nat.le_refl _), (Below.refl _ _).alloc (Nat.le_refl _) _⟩
  case round =>
    obtain ⟨q, hq, rfl, hbd, hk⟩ := hrel
    by_cases hlt : q < bs.length
    · obtain ⟨ad, u, rfl, hbl, hu, hcell⟩ := (hr.below hk).at_ hlt
      rw [bvs_get hlt] at hu
      cases hu
      unfold bv at hcell
      have hd : digL (bs.take (q + 1)) = digL (bs.take q) ++ [hexd (bs[q].toNat / 16), hexd (bs[q].toNat % 16)] := by
        rw [List.take_add_one, List.getElem?_eq_getElem hlt, digL_append]; rfl
      have hln : (digL (bs.take q)).length = 2 * q := by rw [digL_length, List.length_take]; omega
      have HD := Lib.hid hd
      have HLN := Lib.hid hln
      clear hd hln
      generalize bs[q] = c at hcell HD
      have hcl := c.toNat_lt
      have hi16 : c.toNat / 16 < 16 := by omega
      have lo16 : c.toNat % 16 < 16 := by omega
      obtain ⟨hi, hhi⟩ : ∃ hi, hi = c.toNat / 16 := ⟨_, rfl⟩
      obtain ⟨lo, hlo⟩ : ∃ lo, lo = c.toNat % 16 := ⟨_, rfl⟩
      rw [← hhi] at HD hi16
      rw [← hlo] at HD lo16
      have hsh : (c.toNat : Int) / 16 = (hi : Int) := by omega
      have HHI := Lib.hid hhi
      have HLO := Lib.hid hlo
      clear hhi hlo
      have hand : bits .and .u8 (c.toNat : Int) 15 = (lo : Int) := by rw [and15, HLO.out]
      go_wp2_with fail
      refine (writeByte_any _ _ _ _ _ hbd (by rw [HLN.out]; omega)).mono ?_
      rintro e w2 ⟨rfl, hbd2, hk2⟩
      rw [lit_get] at hbd2
      go_wp2_with fail
      refine (writeByte_any _ _ _ _ _ hbd2 (by rw [List.length_append, HLN.out, List.length_singleton]; omega)).mono ?_
      rintro e w3 ⟨rfl, hbd3, hk3⟩
      rw [lit_get, List.append_assoc] at hbd3
      go_wp2
      exact ⟨⟨q + 1, by omega, by go_num, by rw [HD.out]; exact hbd3, (hk.trans hk2).trans hk3⟩, by simp [intOf]; omega⟩
    · obtain rfl : q = bs.length := by omega
      rw [List.take_length] at hbd
      go_wp2_with fail
      refine (Tryd.Builder_String_any _ _ _ _ hbd hk.size).mono ?_
      rintro e w2 ⟨rfl, hk2⟩
      go_wp2
      go_ret
      exact ⟨rfl, Kp.of_below (hk.trans hk2)⟩
end Go.Proofs.YtobofhiakgohfaaDoor

namespace Go.Proofs.YtobofhiakgohfaaDoor
open Go.RowKit

set_option maxRecDepth 100000 in
set_option maxHeartbeats 4000000 in
theorem rdigits_any (A : Option Addr) (cp : Nat) (bs : List UInt8) (w : World) (hr : Reads w w.heap.size 1 A bs.length (bvs bs)) (hl : bs.length ≤ 1048576) : Calls Tryd.prog 39 #[.slice A bs.length cp] w fun e w' => e = .returned (.string ⟨(digL bs).toArray⟩) ∧ K0 w w' := by
  obtain ⟨i0, hi0, hz0, hz1, hz2⟩ := u8_info'
  go_enter Tryd.func39, Tryd.ntmps39
  go_wp2
  go_loopw [3, 4] (fun v i wr => ∃ q : Nat, q ≤ bs.length ∧ i = .int .i64 (q : Int) ∧ wr.ownsRow w.heap.size 5 1 v (digL (bs.take q)).length (bvs (digL (bs.take q))) ∧ K0 w wr)
    (fun v i wr => bs.length - (intOf i).toNat)
  case atStart => exact ⟨0, by omega, rfl, World.ownsRow_nil _ _ _ _, Kp.refl _ _⟩
  case round =>
    obtain ⟨q, hq, rfl, hown, hk⟩ := hrel
    by_cases hlt : q < bs.length
    · obtain ⟨ad, u, rfl, hbl, hu, hcell⟩ := (hr.k0 (Nat.le_refl _) hk).at_ hlt
      rw [bvs_get hlt] at hu
      cases hu
      unfold bv at hcell
      have hd : digL (bs.take (q + 1)) = digL (bs.take q) ++ [hexd (bs[q].toNat / 16), hexd (bs[q].toNat % 16)] := by
        rw [List.take_add_one, List.getElem?_eq_getElem hlt, digL_append]; rfl
      have hln : (digL (bs.take q)).length = 2 * q := by rw [digL_length, List.length_take]; omega
      have HD := Lib.hid hd
      have HLN := Lib.hid hln
      clear hd hln
      generalize bs[q] = c at hcell HD
      have hcl := c.toNat_lt
      have hi16 : c.toNat / 16 < 16 := by omega
      have lo16 : c.toNat % 16 < 16 := by omega
      obtain ⟨hi, hhi⟩ : ∃ hi, hi = c.toNat / 16 := ⟨_, rfl⟩
      obtain ⟨lo, hlo⟩ : ∃ lo, lo = c.toNat % 16 := ⟨_, rfl⟩
      rw [← hhi] at HD hi16
      rw [← hlo] at HD lo16
      have hqu : (c.toNat : Int).tdiv 16 = (hi : Int) := by rw [Int.tdiv_eq_ediv_of_nonneg (by omega)]; omega
      have hre : (c.toNat : Int).tmod 16 = (lo : Int) := by rw [Int.tmod_eq_emod_of_nonneg (by omega)]; omega
      have hwh : IntKind.u8.wrap (hi : Int) = (hi : Int) := IntWalk.u8_in _ (by omega)
      have hwl : IntKind.u8.wrap (lo : Int) = (lo : Int) := IntWalk.u8_in _ (by omega)
      have gq0 : (0 : Int) ≤ (q : Int) := by omega
      have gq1 : (q : Int) < (bs.length : Int) := by omega
      clear hhi hlo
      go_wp2
      go_region_held3 (fun w' => w'.cell? (ad.add q) = some (.int .u8 (c.toNat : Int))) (go_keep) (fail)
      clear hqu hre hwh hwl
      obtain ⟨wo, rfl⟩ : ∃ wo : World, wo = wr := ⟨_, rfl⟩
      obtain ⟨W2, hW2⟩ : ∃ W2, W2 = (wo.alloc (.cells #[.int .u8 (hi : Int), .int .u8 (lo : Int)] 5)).drew := ⟨_, rfl⟩
      have yb : Blk W2 wo.heap.size 5 #[.int .u8 (hi : Int), .int .u8 (lo : Int)] := by rw [hW2]; exact (Blk.new _ _ _).drew
      have k2 : K0 wo W2 := by rw [hW2]; exact ((Kp.refl _ _).alloc _).drew
      have hownW : W2.ownsRow w.heap.size 5 1 _ _ _ := own_kp hown k2 (fun g _ h => h)
      have HW := Lib.hid hW2
      rw [← hW2]
      have hno : ∀ g, (_ : Value).ownBlock = some g → g < wo.heap.size := fun g hg => (hown.lt g hg).2
      clear hW2 hown
      rw [HLN.out] at hownW
      have hsW := hk.size
      have hsW2 := k2.size
      go_wp2
      go_loopw [3, 25] (fun v i wi => ∃ j : Nat, j ≤ 2 ∧ i = .int .i64 (j : Int) ∧ wi.ownsRow w.heap.size 5 1 v (2 * q + j) (bvs (digL (bs.take q) ++ [hexd hi, hexd lo].take j)) ∧ K0 w wi ∧ Blk wi wo.heap.size 5 #[.int .u8 (hi : Int), .int .u8 (lo : Int)] ∧ v.ownBlock ≠ some wo.heap.size)
        (fun v i wi => 2 - (intOf i).toNat)
      case atStart => exact ⟨0, by omega, rfl, by rw [List.take_zero, List.append_nil]; exact hownW, hk.trans k2, yb, fun e => by have := hno _ e; omega⟩
      case round =>
        obtain ⟨j, hj, rfl, hown2, hk2, yc, hne⟩ := hrel
        have hs2 := hk2.size
        by_cases hj2 : j < 2
        · obtain ⟨d, hd16, hcd, htk⟩ : ∃ d : Nat, d < 16 ∧ wr.cell? ⟨wo.heap.size, j, none⟩ = some (.int .u8 (d : Int)) ∧ [hexd hi, hexd lo].take (j + 1) = [hexd hi, hexd lo].take j ++ [hexd d] := by
            have e : j = 0 ∨ j = 1 := by omega
            rcases e with rfl | rfl
            · exact ⟨hi, hi16, (yc.cell 0).trans rfl, rfl⟩
            · exact ⟨lo, lo16, (yc.cell 1).trans rfl, rfl⟩
          have HTK := Lib.hid htk
          clear htk
          obtain ⟨A1, cc1, rfl, _, _⟩ := own_form hown2
          by_cases hd10 : d < 10
          · have hv := hexd_lo d hd10
            have hwa : IntKind.u8.wrap (48 + (d : Int)) = ((hexd d).toNat : Int) := by rw [IntWalk.u8_in _ (by omega)]; omega
            clear hv
            go_wp2_with (at_builtin; refine wpList_append_lies _ rfl (.tmp 31) (.tmp 34) _ rfl w.heap.size 5 i0 _ 1 1 Tryd.underlying44 hi0 hz0 hz1 hz2 rfl (by omega) (.slice A1 (2 * q + j) cc1) (2 * q + j) (bvs (digL (bs.take q) ++ [hexd hi, hexd lo].take j)) rfl (by exact hown2.alloc _) ⟨wr.heap.size, 0, none⟩ 1 1 [.int .u8 ((hexd d).toNat : Int)] rfl rfl (World.news_of_block (cs := #[.int .u8 ((hexd d).toNat : Int)]) (t := 5) (fr := (0, 0)) (heap_alloc_new _ _)) (by simp [Value.oneCell']) (by omega) (by simp only [maxLen]; omega) (by omega) (by simp; omega) (wr.heap.size + 1) (by simp) ?_; intro g7 cap7 w7 hown7 hg7 hat7 hlt7)
            refine ⟨⟨j + 1, by omega, by go_num, ?_, (hk2.alloc _).grown hg7 (fun g hg => .inl ((hown2.lt g hg).1)), (yc.alloc _).grown hg7 (Ne.symm hne), ?_⟩, by simp [intOf]; omega⟩
            rotate_left
            · rcases hat7 with h | h
              · exact fun e => hne (h.trans e)
              · have := yc.lt; simp [Value.ownBlock]; omega
            rw [HTK.out, ← List.append_assoc, bvs_append]
            exact hown7
          · have hv := hexd_hi d (by omega) hd16
            have hwa : IntKind.u8.wrap (65 + (d : Int)) = 65 + (d : Int) := IntWalk.u8_in _ (by omega)
            have hwb : IntKind.u8.wrap (65 + (d : Int) - 10) = ((hexd d).toNat : Int) := by rw [IntWalk.u8_in _ (by omega)]; omega
            clear hv
            go_wp2_with (at_builtin; refine wpList_append_lies _ rfl (.tmp 36) (.tmp 40) _ rfl w.heap.size 5 i0 _ 1 1 Tryd.underlying44 hi0 hz0 hz1 hz2 rfl (by omega) (.slice A1 (2 * q + j) cc1) (2 * q + j) (bvs (digL (bs.take q) ++ [hexd hi, hexd lo].take j)) rfl (by exact hown2.alloc _) ⟨wr.heap.size, 0, none⟩ 1 1 [.int .u8 ((hexd d).toNat : Int)] rfl rfl (World.news_of_block (cs := #[.int .u8 ((hexd d).toNat : Int)]) (t := 5) (fr := (0, 0)) (heap_alloc_new _ _)) (by simp [Value.oneCell']) (by omega) (by simp only [maxLen]; omega) (by omega) (by simp; omega) (wr.heap.size + 1) (by simp) ?_; intro g7 cap7 w7 hown7 hg7 hat7 hlt7)
            refine ⟨⟨j + 1, by omega, by go_num, ?_, (hk2.alloc _).grown hg7 (fun g hg => .inl ((hown2.lt g hg).1)), (yc.alloc _).grown hg7 (Ne.symm hne), ?_⟩, by simp [intOf]; omega⟩
            rotate_left
            · rcases hat7 with h | h
              · exact fun e => hne (h.trans e)
              · have := yc.lt; simp [Value.ownBlock]; omega
            rw [HTK.out, ← List.append_assoc, bvs_append]
            exact hown7
        · obtain rfl : j = 2 := by omega
          go_wp2
          refine ⟨⟨q + 1, by omega, by go_num, ?_, hk2⟩, by simp [intOf]; omega⟩
          rw [HD.out, List.length_append, HLN.out]
          exact hown2
    · obtain rfl : q = bs.length := by omega
      rw [List.take_length] at hown
      obtain ⟨A3, c3, rfl, _, _⟩ := own_form hown
      have cv := conv_str (P := Tryd.prog) (w := wr) 44 9 5 Tryd.underlying44 Tryd.underlying5 Tryd.underlying9 (Reads.of_own hown) rfl (c := c3)
      go_wp2
      go_ret
      exact ⟨rfl, hk⟩
end Go.Proofs.YtobofhiakgohfaaDoor
