/- The document's list of items. -/
import Derived.Test.YtobofhiakgohfaaDoorT25
import Derived.Test.YtobofhiakgohfaaDoorT11
set_option linter.unusedVariables false
set_option linter.unusedSimpArgs false
namespace Go.Proofs.YtobofhiakgohfaaDoor
open Go.RowKit

theorem rdigits_lit (W : World) (b : Nat) (c : UInt8) (h : W.cell? ⟨b, 0, none⟩ = some (.int .u8 (c.toNat : Int))) : Calls Tryd.prog 39 #[.slice (some ⟨b, 0, none⟩) 1 1] W fun e w' => e = .returned (.string ⟨(digL [c]).toArray⟩) ∧ K0 W w' :=
  rdigits_any (some ⟨b, 0, none⟩) 1 [c] W ⟨rfl, fun _ => ⟨_, rfl, World.block_lt_of_cell? W _ h, fun j u hu => by
    cases j with
    | zero => cases hu; exact h
    | succ j => simp [bvs] at hu⟩⟩ (by simp)

theorem str_add (t s : List UInt8) : (⟨t.toArray⟩ ++ ⟨s.toArray⟩ : ByteArray) = ⟨(t ++ s).toArray⟩ := by
  refine ba_ext ?_
  simp
theorem str_add' (t : List UInt8) (s : ByteArray) : (⟨t.toArray⟩ ++ s : ByteArray) = ⟨(t ++ s.data.toList).toArray⟩ := by
  refine ba_ext ?_
  simp

set_option maxRecDepth 100000 in
set_option maxHeartbeats 8000000 in
theorem list2_any (w : World) (B : Nat) (v : Value) (l : List ItemD) (hv : ItemsV w B v l) (hB : B ≤ w.heap.size) (hf : l.all fitB = true) :
    Calls Tryd.prog 50 #[v] w fun e w' => e = .returned (.string ⟨(txtIs l).toArray⟩) ∧ K0 w w' := by
  obtain ⟨A, cp, rfl, hcp, hcp2, hl, hr, hnm⟩ := hv
  have hTl : (txtIs l).length ≤ 17 * 1048576 := by have := txtIs_len hf; omega
  obtain ⟨R, hR⟩ : ∃ R, R = txtIs l := ⟨_, rfl⟩
  rw [← hR] at hTl ⊢
  have HR := Lib.hid hR
  have HF := Lib.hid hf
  have DG := Lib.hid (fun W b c h => rdigits_lit W b c h)
  clear hf hR
  go_enter Tryd.func50, Tryd.ntmps50
  go_wp2
  go_loopw [3, 4] (fun s i wr => ∃ (q : Nat) (t : List UInt8), q ≤ l.length ∧ i = .int .i64 (q : Int) ∧ s = .string ⟨t.toArray⟩ ∧ t.length ≤ 17 * 1048576 ∧ Hid (R = t ++ txtIs (l.drop q)) ∧ K0 w wr) (fun s i wr => l.length - (intOf i).toNat)
  case atStart => exact ⟨0, [], by omega, rfl, rfl, by simp, Lib.hid HR.out, Kp.refl _ _⟩
  case round =>
    obtain ⟨q, t, hq, rfl, rfl, ht, hres, hk⟩ := hrel
    by_cases hlt : q < l.length
    · obtain ⟨ad, rfl, hbl, r0, r1, r2, r3⟩ := (hr.k0 hB hk).item hlt
      have hbl2 : ad.block < wr.heap.size := by have := hk.size; omega
      have hd : l.drop q = l[q] :: l.drop (q + 1) := List.drop_eq_getElem_cons hlt
      have hx := List.all_eq_true.1 HF.out _ (List.getElem_mem hlt)
      obtain ⟨⟨nm, lo, hi, pl⟩, hxe⟩ : ∃ x, x = l[q] := ⟨_, rfl⟩
      rw [← hxe] at r0 r1 r2 r3 hx hd
      simp only [] at r0 r1 r2 r3
      have hR2 : R = t ++ 32 :: (txtI ⟨nm, lo, hi, pl⟩ ++ txtIs (l.drop (q + 1))) := by rw [hres.out, hd]; simp [txtIs]
      have HR2 := Lib.hid hR2
      have hlen : t.length + 1 + (txtI ⟨nm, lo, hi, pl⟩).length ≤ 17 * 1048576 := by
        have := congrArg List.length hR2
        simp only [List.length_append, List.length_cons] at this
        omega
      clear hres hd hxe hR2
      by_cases h0 : nm.data.toList = []
      · have e0 : nm.toList.isEmpty = true := (empty_iff nm).2 h0
        have e1 : nm.size = 0 := by have : nm.data.toList.length = nm.size := by simp
                                    rw [h0] at this; simpa using this.symm
        have hF : 0 ≤ lo ∧ lo ≤ hi ∧ hi ≤ 255 := by unfold fitB at hx; rw [if_pos h0] at hx; exact of_decide_eq_true hx
        obtain ⟨f1, f2, f3⟩ := hF
        obtain ⟨cl, rfl, hcl⟩ := byte_of f1 (by omega)
        obtain ⟨ch, rfl, hch⟩ := byte_of (show 0 ≤ hi by omega) f3
        have hT : txtI ⟨nm, (cl.toNat : Int), (ch.toNat : Int), pl⟩ = digL [cl] ++ (if (cl.toNat : Int) < (ch.toNat : Int) then 45 :: digL [ch] else []) := by
          unfold txtI; rw [if_pos h0, hcl, hch]
        rw [hT] at hlen HR2
        have hl8 := cl.toNat_lt
        have hh8 := ch.toNat_lt
        have hw1 : IntKind.u8.wrap (cl.toNat : Int) = (cl.toNat : Int) := IntWalk.u8_in _ (by omega)
        have hw2 : IntKind.u8.wrap (ch.toNat : Int) = (ch.toNat : Int) := IntWalk.u8_in _ (by omega)
        have s1 := str_add t [32]
        have s2 := str_add (t ++ [32]) (digL [cl])
        have dl1 := digL_length [cl]
        have dl2 := digL_length [ch]
        simp only [List.length_singleton] at dl1 dl2
        clear hx h0 hT hcl hch
        by_cases hcc : cl.toNat < ch.toNat
        · rw [if_pos (show (cl.toNat : Int) < (ch.toNat : Int) by omega)] at hlen HR2
          go_wp2_with (go_at_call 39; refine (DG.out _ _ cl ?_).mono ?_; (focus (simp)); rintro e w5 ⟨rfl, hk5⟩)
          have k5 : K0 wr w5 := ((Kp.refl _ wr).alloc _).trans hk5
          have y1 := (k5.cell (p := ⟨(ad.add (q * 4)).block, (ad.add (q * 4)).off + 1, none⟩) (by rw [block_of_add]; exact hbl2) (fun h => h)).trans r1
          have y2 := (k5.cell (p := ⟨(ad.add (q * 4)).block, (ad.add (q * 4)).off + 2, none⟩) (by rw [block_of_add]; exact hbl2) (fun h => h)).trans r2
          go_quiet (fail)
          have s3 := str_add [45] (digL [ch])
          go_wp2_with (go_at_call 39; refine (DG.out _ _ ch ?_).mono ?_; (focus (exact (Blk.new (w5.drewN _) 5 #[.int .u8 (ch.toNat : Int)]).cell 0)); rintro e w6 ⟨rfl, hk6⟩)
          have k6 : K0 wr w6 := ((k5.drewN _).alloc _).trans hk6
          simp only [List.length_append, List.length_cons] at hlen
          exact ⟨⟨q + 1, t ++ 32 :: (digL [cl] ++ 45 :: digL [ch]), by omega, by go_num, by simp [str_add], by simp only [List.length_append, List.length_cons]; omega, Lib.hid (by rw [HR2.out]; simp), hk.trans k6⟩, by simp [intOf]; omega⟩
        · rw [if_neg (show ¬ (cl.toNat : Int) < (ch.toNat : Int) by omega)] at hlen HR2
          go_wp2_with (go_at_call 39; refine (DG.out _ _ cl ?_).mono ?_; (focus (simp)); rintro e w5 ⟨rfl, hk5⟩)
          have k5 : K0 wr w5 := ((Kp.refl _ wr).alloc _).trans hk5
          have y1 := (k5.cell (p := ⟨(ad.add (q * 4)).block, (ad.add (q * 4)).off + 1, none⟩) (by rw [block_of_add]; exact hbl2) (fun h => h)).trans r1
          have y2 := (k5.cell (p := ⟨(ad.add (q * 4)).block, (ad.add (q * 4)).off + 2, none⟩) (by rw [block_of_add]; exact hbl2) (fun h => h)).trans r2
          go_quiet (fail)
          go_wp2
          simp only [List.append_nil] at hlen HR2
          exact ⟨⟨q + 1, t ++ 32 :: digL [cl], by omega, by go_num, by simp, by simp only [List.length_append, List.length_cons]; omega, Lib.hid (by rw [HR2.out]; simp), hk.trans (k5.drewN _)⟩, by simp [intOf]; omega⟩
      · have e0 : nm.toList.isEmpty = false := by
          cases h : nm.toList.isEmpty
          · rfl
          · exact absurd ((empty_iff nm).1 h) h0
        have hT : txtI ⟨nm, lo, hi, pl⟩ = nm.data.toList := by unfold txtI; rw [if_neg h0]
        rw [hT] at hlen HR2
        have hns : nm.data.toList.length = nm.size := by simp
        have s1 := str_add t [32]
        have s2 := str_add' (t ++ [32]) nm
        clear hx h0 hT
        go_wp2
        exact ⟨⟨q + 1, t ++ 32 :: nm.data.toList, by omega, by go_num, rfl, by simp; omega, Lib.hid (by rw [HR2.out]; simp), hk⟩, by simp [intOf]; omega⟩
    · obtain rfl : q = l.length := by omega
      have hfin := hres.out
      rw [List.drop_length, txtIs, List.flatMap_nil, List.append_nil] at hfin
      subst hfin
      go_wp2
      go_ret
      exact ⟨rfl, hk⟩
end Go.Proofs.YtobofhiakgohfaaDoor
