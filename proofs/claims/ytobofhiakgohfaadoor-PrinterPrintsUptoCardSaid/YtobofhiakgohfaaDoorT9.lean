/- token: Hex, and the reference's. -/
import Derived.Test.YtobofhiakgohfaaDoorT3
import Derived.Test.YtobofhiakgohfaaDoorP9
set_option linter.unusedVariables false
set_option linter.unusedSimpArgs false
namespace Go.Proofs.YtobofhiakgohfaaDoor
open Go.RowKit

theorem pairI_ext (l : List UInt8) (i : Nat) (h : i + 2 ≤ l.length) : pairI ((l.drop i).take 2) 0 = pairI l i := by
  unfold pairI
  rw [if_neg (by simp; omega), if_neg (by omega)]
  simp
def strLen : Value → Nat
  | .string x => x.size
  | _ => 0
/-- What Hex answers. -/
def HexPost (l : List UInt8) (w : World) (e : Ending) (w' : World) : Prop :=
  ∃ v, e = .returned (.tuple #[v, .bool (hexR l).isSome]) ∧ w'.ownsRow w.heap.size 5 1 v ((hexR l).getD []).length (bvs ((hexR l).getD [])) ∧ K0 w w'

set_option maxRecDepth 100000 in
set_option maxHeartbeats 2000000 in
theorem hex_any (s : ByteArray) (w : World) (hs : s.size ≤ 140737488355328) : Calls Tryd.prog 30 #[.string s] w (HexPost s.data.toList w) := by
  obtain ⟨i0, hi, hz0, hz1, hz2⟩ := u8_info'
  have hz : s.data.toList.length = s.size := by simp
  have HZ := Lib.hid hz
  clear hz
  go_enter Tryd.func30, Tryd.ntmps30
  go_wp2
  go_loopw [0, 4] (fun t v wr => ∃ (x : ByteArray) (q : Nat) (out : List UInt8), t = .string x ∧ q + x.size = s.size ∧ Hid (x.data.toList = s.data.toList.drop q) ∧ out.length ≤ q ∧ Hid (hexR s.data.toList = (hexR (s.data.toList.drop q)).map (out ++ ·)) ∧ wr.ownsRow w.heap.size 5 1 v out.length (bvs out) ∧ K0 w wr)
    (fun t v wr => strLen t)
  case atStart =>
    refine ⟨s, 0, [], rfl, by omega, Lib.hid (by rw [List.drop_zero]), by simp, Lib.hid ?_, World.ownsRow_nil _ _ _ _, Kp.refl _ _⟩
    rw [List.drop_zero]
    cases hexR s.data.toList <;> simp
  case round =>
    obtain ⟨x, q, out, rfl, hxs, hxd, hout, hx, hown, hk⟩ := hrel
    have hsw := hk.size
    by_cases hlt : 1 < x.size
    · have he : (x.extract 0 2).data.toList = (s.data.toList.drop q).take 2 := by rw [extract_list, hxd.out, List.drop_zero]
      have he2 : (x.extract 2 x.size).data.toList = s.data.toList.drop (q + 2) := by
        rw [extract_list, hxd.out, List.drop_drop]
        refine List.take_of_length_le ?_
        rw [List.length_drop, HZ.out]
        omega
      have hes : (x.extract 0 2).size = 2 := by rw [ByteArray.size_extract]; omega
      have hes2 : (x.extract 2 x.size).size = x.size - 2 := by rw [ByteArray.size_extract]; omega
      have HE2 := Lib.hid he2
      have HP := Lib.hid (fun W => pair_any (x.extract 0 2) W (by omega))
      rw [he] at HP
      have hpe := pairI_ext s.data.toList q (by rw [HZ.out]; omega)
      have hl2 : ((s.data.toList.drop q).take 2).length = 2 := by rw [List.length_take, List.length_drop, HZ.out]; omega
      have HPE := Lib.hid hpe
      have HL2 := Lib.hid hl2
      clear he he2 hpe hl2 hxd
      go_wp2_with fail
      refine (HP.out _).mono ?_
      rintro e w2 ⟨v2, ok, rfl, ⟨ho, hv, hv0, hv1⟩, hk2⟩
      rw [HL2.out, HPE.out] at ho
      rw [HPE.out] at hv
      obtain ⟨c, rfl⟩ : ∃ c : UInt8, v2 = (c.toNat : Int) := ⟨UInt8.ofNat v2.toNat, (ofNat_pair hv0 hv1).symm⟩
      have hown2 := own_kp hown hk2 (fun g _ h => h)
      have hk02 := hk.trans hk2
      have hs2 := hk02.size
      cases ok with
      | false =>
        have hp := of_decide_eq_false ho.symm
        have hR : hexR s.data.toList = none := by
          rw [hx.out, hexR_bad _ _ (by rw [HZ.out]; omega) (by omega)]; rfl
        have HR := Lib.hid hR
        clear ho hv hp hR hx HP HPE HL2
        go_wp2
        go_ret2
        exact ⟨_, by rw [HR.out]; rfl, by rw [HR.out]; exact World.ownsRow_nil _ _ _ _, hk02⟩
      | true =>
        have hp := of_decide_eq_true ho.symm
        have hv' := hv rfl
        have hG := (hexR_good s.data.toList q hp.2).1
        rw [← hv', Int.toNat_natCast, UInt8.ofNat_toNat] at hG
        have hN : hexR s.data.toList = (hexR (s.data.toList.drop (q + 2))).map ((out ++ [c]) ++ ·) := by
          rw [hx.out, hG]
          cases hexR (s.data.toList.drop (q + 2)) <;> simp
        have HN := Lib.hid hN
        have hwc : IntKind.u8.wrap (c.toNat : Int) = (c.toNat : Int) := IntWalk.u8_in _ (by have := c.toNat_lt; omega)
        obtain ⟨A1, cc1, rfl, _, _⟩ := own_form hown2
        clear ho hv hp hv' hG hN hx HP HPE HL2
        go_wp2_with (at_builtin; refine wpList_append_lies _ rfl (.tmp 20) (.tmp 23) _ rfl w.heap.size 5 i0 _ 1 1 Tryd.underlying44 hi hz0 hz1 hz2 rfl (by omega) (.slice A1 out.length cc1) out.length (bvs out) rfl (by exact hown2.alloc _) ⟨w2.heap.size, 0, none⟩ 1 1 [.int .u8 (c.toNat : Int)] rfl rfl (World.news_of_block (cs := #[.int .u8 (c.toNat : Int)]) (t := 5) (fr := (0, 0)) (heap_alloc_new _ _)) (by simp [Value.oneCell']) (by omega) (by simp only [maxLen]; omega) (by omega) (by simp; omega) (w2.heap.size + 1) (by simp) ?_; intro g7 cap7 w7 hown7 hg7 hat7 hlt7)
        refine ⟨⟨_, q + 2, out ++ [c], rfl, by omega, HE2, by simp; omega, HN, ?_, ?_⟩, by simp only [strLen]; omega⟩
        · rw [bvs_append, List.length_append, List.length_singleton]
          exact hown7
        · exact (hk02.alloc _).grown hg7 (fun g hg => .inl ((hown2.lt g hg).1))
    · by_cases h0 : x.size = 0
      · have e4 : x.toList.isEmpty = true := by
          rw [ByteArray.toList_eq]
          have : x.data.toList = [] := List.eq_nil_of_length_eq_zero (by simpa using h0)
          rw [this]; rfl
        have hR : hexR s.data.toList = some out := by
          rw [hx.out, hexR_end _ _ (by rw [HZ.out]; omega)]; simp
        have HR := Lib.hid hR
        clear hR hx hxd
        go_wp2
        go_ret2
        exact ⟨_, by rw [HR.out]; rfl, by rw [HR.out]; exact hown, hk⟩
      · have e4 : x.toList.isEmpty = false := by
          rw [ByteArray.toList_eq]
          cases h : x.data.toList with
          | nil => exact absurd (by have := congrArg List.length h; simpa using this) h0
          | cons a t => rfl
        have hR : hexR s.data.toList = none := by
          rw [hx.out, hexR_bad _ _ (by rw [HZ.out]; omega) (by unfold pairI; rw [if_pos (by rw [HZ.out]; omega)]; omega)]; rfl
        have HR := Lib.hid hR
        clear hR hx hxd
        go_wp2
        go_ret2
        exact ⟨_, by rw [HR.out]; rfl, by rw [HR.out]; exact World.ownsRow_nil _ _ _ _, hk⟩

set_option maxRecDepth 100000 in
set_option maxHeartbeats 2000000 in
theorem rhex_any (s : ByteArray) (w : World) (hs : s.size ≤ 140737488355328) : Calls Tryd.prog 31 #[.string s] w (HexPost s.data.toList w) := by
  obtain ⟨i0, hi, hz0, hz1, hz2⟩ := u8_info'
  have hz : s.data.toList.length = s.size := by simp
  have HZ := Lib.hid hz
  clear hz
  go_enter Tryd.func31, Tryd.ntmps31
  go_wp2
  go_loopw [4, 5] (fun v i wr => ∃ (q : Nat) (out : List UInt8), i = .int .i64 (q : Int) ∧ q ≤ s.size ∧ out.length ≤ q ∧ Hid (hexR s.data.toList = (hexR (s.data.toList.drop q)).map (out ++ ·)) ∧ wr.ownsRow w.heap.size 5 1 v out.length (bvs out) ∧ K0 w wr)
    (fun v i wr => s.size - (intOf i).toNat)
  case atStart =>
    refine ⟨0, [], rfl, by omega, by simp, Lib.hid ?_, World.ownsRow_nil _ _ _ _, Kp.refl _ _⟩
    rw [List.drop_zero]
    cases hexR s.data.toList <;> simp
  case round =>
    obtain ⟨q, out, rfl, hq, hout, hx, hown, hk⟩ := hrel
    have hsw := hk.size
    by_cases hlt : q < s.size
    · have HP := Lib.hid (fun W => rpair_any s q W hs (by omega))
      go_wp2_with fail
      refine (HP.out _).mono ?_
      rintro e w2 ⟨rfl, hk2⟩
      have hown2 := own_kp hown hk2 (fun g _ h => h)
      have hk02 := hk.trans hk2
      have hs2 := hk02.size
      have hlt2 := pairI_lt s.data.toList q
      by_cases hp : pairI s.data.toList q < 0
      · have hR : hexR s.data.toList = none := by
          rw [hx.out, hexR_bad _ _ (by rw [HZ.out]; omega) hp]; rfl
        have HR := Lib.hid hR
        clear hR hx HP
        go_wp2
        go_ret2
        exact ⟨_, by rw [HR.out]; rfl, by rw [HR.out]; exact World.ownsRow_nil _ _ _ _, hk02⟩
      · obtain ⟨hG, hq2⟩ := hexR_good s.data.toList q (by omega)
        rw [HZ.out] at hq2
        obtain ⟨c, hc⟩ : ∃ c : UInt8, pairI s.data.toList q = (c.toNat : Int) := ⟨UInt8.ofNat (pairI s.data.toList q).toNat, (ofNat_pair (by omega) hlt2).symm⟩
        rw [hc] at hp hlt2 hG ⊢
        rw [Int.toNat_natCast, UInt8.ofNat_toNat] at hG
        have hN : hexR s.data.toList = (hexR (s.data.toList.drop (q + 2))).map ((out ++ [c]) ++ ·) := by
          rw [hx.out, hG]
          cases hexR (s.data.toList.drop (q + 2)) <;> simp
        have HN := Lib.hid hN
        have hwc : IntKind.u8.wrap (c.toNat : Int) = (c.toNat : Int) := IntWalk.u8_in _ (by have := c.toNat_lt; omega)
        obtain ⟨A1, cc1, rfl, _, _⟩ := own_form hown2
        clear hG hN hx HP hc
        go_wp2_with (at_builtin; refine wpList_append_lies _ rfl (.tmp 18) (.tmp 21) _ rfl w.heap.size 5 i0 _ 1 1 Tryd.underlying44 hi hz0 hz1 hz2 rfl (by omega) (.slice A1 out.length cc1) out.length (bvs out) rfl (by exact hown2.alloc _) ⟨w2.heap.size, 0, none⟩ 1 1 [.int .u8 (c.toNat : Int)] rfl rfl (World.news_of_block (cs := #[.int .u8 (c.toNat : Int)]) (t := 5) (fr := (0, 0)) (heap_alloc_new _ _)) (by simp [Value.oneCell']) (by omega) (by simp only [maxLen]; omega) (by omega) (by simp; omega) (w2.heap.size + 1) (by simp) ?_; intro g7 cap7 w7 hown7 hg7 hat7 hlt7)
        refine ⟨⟨q + 2, out ++ [c], by go_num, by omega, by simp; omega, HN, ?_, ?_⟩, by simp [intOf]; omega⟩
        · rw [bvs_append, List.length_append, List.length_singleton]
          exact hown7
        · exact (hk02.alloc _).grown hg7 (fun g hg => .inl ((hown2.lt g hg).1))
    · obtain rfl : q = s.size := by omega
      have hR : hexR s.data.toList = some out := by
        rw [hx.out, hexR_end _ _ (by rw [HZ.out]; omega)]; simp
      have HR := Lib.hid hR
      clear hR hx
      go_wp2
      go_ret2
      exact ⟨_, by rw [HR.out]; rfl, by rw [HR.out]; exact hown, hk⟩
end Go.Proofs.YtobofhiakgohfaaDoor
