/- The walk of TokenOwns. -/
import Derived.Test.YtobofhiakgohfaaDoorR3
import Derived.Test.YtobofhiakgohfaaDoorT20
import Derived.Test.YtobofhiakgohfaaDoorT11
import Derived.Test.YtobofhiakgohfaaDoorO2
set_option linter.unusedVariables false
set_option linter.unusedSimpArgs false
namespace Go.Proofs.YtobofhiakgohfaaDoor
open Go.RowKit

set_option maxRecDepth 100000 in
set_option maxHeartbeats 8000000 in
theorem tokenOwns_walk (w : World) (v : Value) (bs : List UInt8) (hv : SlV w w.heap.size v bs) (hlen : bs.length ≤ 1048576) :
    Calls Tryd.prog 9 #[v] w fun e w' => e = .returned (.bool true) ∧ Below w.heap.size w w' := by
  obtain ⟨A, cp, rfl, hcp, hcp2, _, hr⟩ := hv
  have HX := Lib.hid (fun W => hex_dig bs W (by omega))
  go_enter Tryd.func9, Tryd.ntmps9
  go_wp2_with fail
  refine (fixed_any _).mono ?_
  rintro e w1 ⟨rfl, hk1⟩
  have hr1 := hr.k0 (Nat.le_refl _) hk1
  go_wp2_with fail
  refine (spare_any w1 w.heap.size A cp bs hk1.size hcp hcp2 (by omega) hr1).mono ?_
  rintro e w2 ⟨r2, rfl, ho2, hk2⟩
  have hk02 := hk1.trans hk2
  obtain ⟨g2, c2, rfl, hgb, hgl⟩ := ho2.form (by omega)
  obtain ⟨_, _, he2, d1, d2⟩ := own_form ho2
  cases he2
  have rd2 := Reads.of_own ho2
  have rdD : Reads w2 w2.heap.size 1 (some ⟨g2, 0, none⟩) bs.length (bvs bs) := by
    have := rd2.take (k := bs.length) (by omega)
    rw [Nat.mul_one] at this
    have e : (bvs (bs ++ tail4)).take bs.length = bvs bs := by rw [bvs_take, List.take_left]
    rwa [e] at this
  have HD := Lib.hid (digits_any (some ⟨g2, 0, none⟩) c2 bs w2 rdD (by omega))
  go_wp2_with fail
  refine HD.out.mono ?_
  rintro e w3 ⟨rfl, hk3⟩
  have hk03 := hk02.trans hk3
  have rdK : Reads w3 w2.heap.size 1 (some ⟨g2, 0, none⟩) (bs.length + 4) (bvs (bs ++ tail4)) := rd2.k0 (Nat.le_refl _) hk3
  have hr3 := hr.k0 (Nat.le_refl _) hk03
  go_wp2_with fail
  refine (kept_any w3 _ _ _ A c2 cp bs (by omega) rdK hr3).mono ?_
  rintro e w' ⟨rfl, rfl⟩
  go_wp2_with fail
  refine (HX.out _).mono ?_
  rintro e w4 ⟨A4, c4, rfl, ho4, hk4⟩
  go_wp2_with fail
  refine (HX.out _).mono ?_
  rintro e w5 ⟨A5, c5, rfl, ho5, hk5⟩
  have ho45 := own_far ho4 hk5 (fun _ _ h => h)
  have hk05 := (hk03.trans hk4).trans hk5
  have hr5 := hr.k0 (Nat.le_refl _) hk05
  have hs3 := hk03.size
  have hs4 := hk4.size
  have hp4 : ∀ b, (Value.slice A4 bs.length c4).ownBlock = some b → w3.heap.size ≤ b ∧ b < w4.heap.size := ho4.lt
  have hp5 : ∀ b, (Value.slice A5 bs.length c5).ownBlock = some b → w4.heap.size ≤ b ∧ b < w5.heap.size := ho5.lt
  have cv4 := conv_str (P := Tryd.prog) (w := w5) 44 9 5 Tryd.underlying44 Tryd.underlying5 Tryd.underlying9 (Reads.of_own ho45) rfl (c := c4)
  have cvb := conv_str (P := Tryd.prog) (w := w5) 44 9 5 Tryd.underlying44 Tryd.underlying5 Tryd.underlying9 hr5 rfl (c := cp)
  have hbn := Blk.new w5 44 #[.slice A4 bs.length c4, .slice A5 bs.length c5]
  have GO := Lib.hid (ownBytes_list _ w5.heap.size 2 2 _ [(.slice A4 bs.length c4, bs.length), (.slice A5 bs.length c5, bs.length)] hbn rfl rfl (by omega)
    (by simp only [List.mem_cons, List.not_mem_nil, or_false]; rintro r (rfl | rfl) <;> simp only [] <;> omega)
    (by
      simp only [List.mem_cons, List.not_mem_nil, or_false]
      rintro r (rfl | rfl)
      · exact ⟨_, own_mono (ho45.alloc _) (Nat.zero_le _)⟩
      · exact ⟨_, own_mono (ho5.alloc _) (Nat.zero_le _)⟩)
    (by
      simp only [List.pairwise_cons, List.mem_cons, List.not_mem_nil, or_false, List.Pairwise.nil, and_true, forall_eq_or_imp, forall_eq]
      refine ⟨?_, ?_⟩
      · intro k h1 h2; have := hp4 k h1; have := hp5 k h2; omega
      · intro a h; cases h))
  have hkA : K0 w (w5.alloc (.cells #[.slice A4 bs.length c4, .slice A5 bs.length c5] 44)) := hk05.alloc _
  go_wp2_with (go_at_call 38; refine GO.out.mono ?_; rintro e w6 ⟨rfl, hk6⟩)
  clear cv4 cvb
  have hk06 : K0 w w6 := hkA.trans' hk6 (fun i hi h => by
    obtain ⟨r, hr', he⟩ := h
    simp only [List.mem_cons, List.not_mem_nil, or_false] at hr'
    rcases hr' with rfl | rfl
    · have := hp4 _ he; omega
    · have := hp5 _ he; omega)
  refine (HX.out _).mono ?_
  rintro e w7 ⟨A7, c7, rfl, ho7, hk7⟩
  have hk07 := hk06.trans hk7
  have hr7 := hr.k0 (Nat.le_refl _) hk07
  have cv7 := conv_str (P := Tryd.prog) (w := w7) 44 9 5 Tryd.underlying44 Tryd.underlying5 Tryd.underlying9 (Reads.of_own ho7) rfl (c := c7)
  have cvb := conv_str (P := Tryd.prog) (w := w7) 44 9 5 Tryd.underlying44 Tryd.underlying5 Tryd.underlying9 hr7 rfl (c := cp)
  have HR := Lib.hid (rdigits_any A cp bs w7 (hr7.more hk07.size) (by omega))
  go_wp2_with (go_at_call 39; refine HR.out.mono ?_; rintro e w8 ⟨rfl, hk8⟩)
  go_ret
  exact ⟨by simp, (hk07.trans hk8).below⟩
end Go.Proofs.YtobofhiakgohfaaDoor
