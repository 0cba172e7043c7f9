/- The walk of CursorOwns. -/
import Derived.Test.YtdilpljfghbbeaaO2
import Derived.Test.YtdilpljfghbbeaaL2
set_option linter.unusedVariables false
set_option linter.unusedSimpArgs false
namespace Go.Proofs.Ytdilpljfghbbeaa
open Go.RowKit

theorem Kp.below_of {S : Nat → Prop} {B : Nat} {w w' : World} (h : Kp S w w') (hB : B ≤ w.heap.size) (hs : ∀ k, k < B → ¬ S k) : Below B w w' := ⟨h.os, h.tape, h.output, h.size, fun k hk => h.block k (by omega) (hs k hk)⟩
theorem below_drewN {B : Nat} {w w1 : World} (h : Below B w w1) (n : Nat) : Below B w (w1.drewN n) := ⟨h.os, h.tape, h.output, h.size, h.block⟩
theorem curV_other {w w' : World} {B k k' pc pd : Nat} {bs bs' : List UInt8} (hd : CurV w B (.pointer (some ⟨pd, 0, none⟩)) bs k) (hc : CurV w B (.pointer (some ⟨pc, 0, none⟩)) bs' k') (hB : B ≤ w.heap.size) (hk : KC (.pointer (some ⟨pc, 0, none⟩)) w w') (hne : pd ≠ pc) : CurV w' B (.pointer (some ⟨pd, 0, none⟩)) bs k := by
  rcases hd with ⟨h, _⟩ | ⟨p, h, hb⟩
  · cases h
  · cases h
    obtain ⟨cs, hcs⟩ := hc.blk rfl
    refine .inr ⟨pd, rfl, hb.kp hB hk (fun e => by cases e; exact hne rfl) (fun b cs' _ hb' e => ?_)⟩
    cases e
    exact hcs.ne_ hb' (by decide) rfl

theorem kc_below {w w' : World} {pc B : Nat} (hk : KC (.pointer (some ⟨pc, 0, none⟩)) w w') (hB : B ≤ w.heap.size) (hp : B ≤ pc) : Below B w w' := hk.below_of hB (fun k hk e => by cases e; omega)
theorem k0_below {w w' : World} {B : Nat} (hk : K0 w w') (hB : B ≤ w.heap.size) : Below B w w' := hk.below_of hB (fun k hk e => e)

set_option maxRecDepth 100000 in
set_option maxHeartbeats 4000000 in
theorem cursorOwns_walk (w : World) (v0 : Value) (bs : List UInt8) (h0 : SlV w w.heap.size v0 bs) (stop : UInt8) :
    Calls Try.prog 8 #[v0, .int .u8 (stop.toNat : Int)] w fun e w' => e = .returned (.bool true) ∧ Below w.heap.size w w' := by
  obtain ⟨A0, c0, rfl, b1, b2, b3, hr0⟩ := h0
  go_enter Try.func8, Try.ntmps8
  go_wp2_with (first
    | (go_at_call 10; refine (fixed_any _).mono ?_; rintro e w1 ⟨rfl, hk1⟩; have hr01 := hr0.k0 (Nat.le_refl _) hk1; have hs1 := hk1.size)
    | (go_at_call 22; refine (spare_any w1 w.heap.size A0 c0 bs hs1 b1 b2 b3 hr01).mono ?_; rintro e w2 ⟨r2, rfl, ho2, hk2⟩; obtain ⟨g2, c2, rfl, hgb, hgl⟩ := ho2.form (by omega); obtain ⟨_, _, he2, d1, d2⟩ := own_form ho2; cases he2; have hsl := sliceAt_lh (P := Try.prog) 23 1 (some ⟨g2, 0, none⟩) (bs.length + 4) c2 0 bs.length Try.underlying23 (fun _ => rfl) (by omega) (by omega) (bs.length : Int) rfl))
  have hsl2 : SlV w2 w2.heap.size (.slice (some ⟨g2, 0, none⟩) bs.length c2) bs := SlV.of rfl (by omega) d2 b3 (by
    have := (Reads.of_own ho2).take (k := bs.length) (by omega)
    rw [bvs_append, Nat.mul_one, List.take_left' (bvs_length bs)] at this
    exact this)
  refine (new_apart w2.heap.size _ bs w2 (Nat.le_refl _) hsl2).mono ?_
  rintro e w3 ⟨pc, A3, c3, rfl, hpc, hb3, ho3, hk3⟩
  have hs3 := hk3.size
  go_wp2_with fail
  refine (new_apart w2.heap.size _ bs w3 hs3 (hsl2.k0 (Nat.le_refl _) hk3)).mono ?_
  rintro e w4 ⟨pd, A4, c4, rfl, hpd, hb4, ho4, hk4⟩
  have hs4 := hk4.size
  have ho24 := own_far (own_far ho2 hk3 (fun _ _ h => h)) hk4 (fun _ _ h => h)
  have ho34 := own_far ho3 hk4 (fun _ _ h => h)
  have hb34 := hb3.kp hk4 (fun h => h)
  have hbl4 : Below w.heap.size w w4 := (((k0_below hk1 (Nat.le_refl _)).trans (k0_below hk2 hs1)).trans (k0_below hk3 (by have := hk2.size; omega))).trans (k0_below hk4 (by have := hk2.size; omega))
  have hr04 := hr0.below hbl4
  go_wp2_with (go_at_call 23; refine (kept_any _ _ _ _ _ c2 c0 bs b3 (by exact Reads.of_own ho24) (by exact hr04)).mono ?_; rintro e w5 ⟨rfl, rfl⟩)
  have hs2 := hk2.size
  have hpcl := hb3.lt
  go_loopw [43] (fun i wr => ∃ j : Nat, j ≤ bs.length + 4 ∧ i = .int .i64 j ∧ K1 g2 w4 wr ∧ ∃ xs, wr.ownsRow w1.heap.size 5 1 (.slice (some ⟨g2, 0, none⟩) (bs.length + 4) c2) (bs.length + 4) xs)
    (fun i wr => bs.length + 4 - (intOf i).toNat)
  case atStart => exact ⟨0, Nat.zero_le _, rfl, Kp.refl _ _, _, ho24⟩
  case round =>
    obtain ⟨j, hj, rfl, hkr, xs, hor⟩ := hrel
    by_cases hlt : j < bs.length + 4
    · have hat := hor.cellAt j (by omega)
      have hfr := hor.frozenAt j
      have hxl : xs.length = bs.length + 4 := by have := hor.1; omega
      rw [List.getElem?_eq_getElem (by omega)] at hat
      have hst := hor.stored j (.int .u8 85)
      go_wp2_with fail
      exact ⟨⟨j + 1, by omega, by go_num, hkr.grown hst.2 (fun b hb => .inr (by cases hb; rfl)), _, hst.1⟩, by simp [intOf]; omega⟩
    · obtain rfl : j = bs.length + 4 := by omega
      have hg1 : w.heap.size ≤ g2 := Nat.le_trans hs1 hgb
      have hb5 := hb34.kp hkr (by omega)
      have hd5 := hb4.kp hkr (by omega)
      have ho5 := own_far ho34 hkr (fun b hb => by have := (ho34.lt b hb).1; omega)
      have hod5 := own_far ho4 hkr (fun b hb => by have := (ho4.lt b hb).1; omega)
      have hbl5 : Below w.heap.size w wr := hbl4.trans (hkr.below_of (by omega) (fun k hk e => by omega))
      generalize hBB : wr.heap.size = BB
      have hcc5 : CurV wr BB (.pointer (some ⟨pc, 0, none⟩)) bs 0 := .inr ⟨pc, rfl, curB_of_own hb5 ho5 (Nat.zero_le _) b3 BB (by omega)⟩
      have hcd5 : CurV wr BB (.pointer (some ⟨pd, 0, none⟩)) bs 0 := .inr ⟨pd, rfl, curB_of_own hd5 hod5 (Nat.zero_le _) b3 BB (by omega)⟩
      have hpcB : pc < BB := by rw [← hBB]; exact hb5.lt
      have hpdB : pd < BB := by rw [← hBB]; exact hd5.lt
      have hne : pd ≠ pc := by omega
      have hwB : w.heap.size ≤ BB := by have := hkr.size; omega
      have hW : (bs.drop 0).take ((bs.length : Nat) : Int).toNat = bs := by simp
      have hT : takeOf bs 0 ((bs.length : Nat) : Int) = (bs, 0, bs.length) := by simp [takeOf]
      have GW := Lib.hid (fun v W h1 h2 => window_any BB 0 v bs (bs.length : Int) W h1 h2)
      have GT := Lib.hid (fun v W h1 h2 => Take_any BB 0 v bs (bs.length : Int) W h1 h2)
      have GB := Lib.hid (fun v W h2 => back_any BB bs.length v bs (bs.length : Int) W h2)
      have GU := Lib.hid (fun v W h1 h2 => until_any BB 0 v bs stop W h1 h2)
      have hUl := untilOf_le bs 0 stop
      have GBU := Lib.hid (fun v W h2 => back_any BB (untilOf bs 0 stop).length v bs ((untilOf bs 0 stop).length : Int) W h2)
      rw [hW] at GW
      rw [hT] at GT
      rw [if_neg (by omega), if_neg (by omega), show bs.length - (bs.length : Int).toNat = 0 by simp] at GB
      rw [if_neg (by omega), if_neg (by omega), show (untilOf bs 0 stop).length - ((untilOf bs 0 stop).length : Int).toNat = 0 by simp] at GBU
      simp only [Nat.zero_add] at GU
      generalize untilOf bs 0 stop = U at *
      clear hW hT hlt hor hsl hsl2 ho24 ho34 hb34 hb3 hb4 ho3 ho4 hr04 hkr hb5 hd5 ho5 hod5 ho2
      go_wp2_with fail
      refine (GW.out _ _ (by omega) hcc5).mono ?_
      rintro e w6 ⟨r6, rfl, ho6, hk6⟩
      have hs6 := hk6.size
      have hcc6 := hcc5.k0 (by omega) hk6
      have hcd6 := hcd5.k0 (by omega) hk6
      have hbl6 := hbl5.trans (k0_below hk6 (by omega))
      go_wp2_with fail
      refine (GW.out _ _ (by omega) hcc6).mono ?_
      rintro e w7 ⟨r7, rfl, ho7, hk7⟩
      have hs7 := hk7.size
      have hcc7 := hcc6.k0 (by omega) hk7
      have hcd7 := hcd6.k0 (by omega) hk7
      have hbl7 := hbl6.trans (k0_below hk7 (by omega))
      have ho67 := own_far ho6 hk7 (fun _ _ h => h)
      go_wp2_with fail
      refine (GT.out _ _ (by omega) hcc7).mono ?_
      rintro e w8 ⟨r8, rfl, ho8, hcc8, hk8⟩
      have hs8 := hk8.size
      have hcd8 := curV_other hcd7 hcc7 (by omega) hk8 hne
      have hbl8 := hbl7.trans (kc_below hk8 (by omega) (by omega))
      have ho68 := kc_own hcc7 ho67 hk8
      have ho78 := kc_own hcc7 ho7 hk8
      go_wp2_with fail
      refine (GB.out _ _ hcc8).mono ?_
      rintro e w9 ⟨rfl, hcc9, hk9⟩
      have hs9 := hk9.size
      have hcd9 := curV_other hcd8 hcc8 (by omega) hk9 hne
      have hbl9 := hbl8.trans (kc_below hk9 (by omega) (by omega))
      have ho69 := kc_own hcc8 ho68 hk9
      have ho79 := kc_own hcc8 ho78 hk9
      have ho89 := kc_own hcc8 ho8 hk9
      go_wp2_with fail
      refine (GU.out _ _ (by omega) hcc9).mono ?_
      rintro e w10 ⟨r10, rfl, ho10, hcc10, hk10⟩
      have hs10 := hk10.size
      have hcd10 := curV_other hcd9 hcc9 (by omega) hk10 hne
      have hbl10 := hbl9.trans (kc_below hk10 (by omega) (by omega))
      have ho610 := kc_own hcc9 ho69 hk10
      have ho710 := kc_own hcc9 ho79 hk10
      have ho810 := kc_own hcc9 ho89 hk10
      go_wp2_with fail
      refine (GU.out _ _ (by omega) hcd10).mono ?_
      rintro e w11 ⟨r11, rfl, ho11, hcd11, hk11⟩
      have hs11 := hk11.size
      have hbl11 := hbl10.trans (kc_below hk11 (by omega) (by omega))
      have ho611 := kc_own hcd10 ho610 hk11
      have ho711 := kc_own hcd10 ho710 hk11
      have ho811 := kc_own hcd10 ho810 hk11
      have ho1011 := kc_own hcd10 ho10 hk11
      have hp6 : ∀ b, r6.ownBlock = some b → BB ≤ b ∧ b < w6.heap.size := fun b hb => ⟨by have := (ho6.lt b hb).1; omega, (ho6.lt b hb).2⟩
      have hp7 : ∀ b, r7.ownBlock = some b → w6.heap.size ≤ b ∧ b < w7.heap.size := ho7.lt
      have hp8 : ∀ b, r8.ownBlock = some b → w7.heap.size ≤ b ∧ b < w8.heap.size := ho8.lt
      have hp10 : ∀ b, r10.ownBlock = some b → w9.heap.size ≤ b ∧ b < w10.heap.size := ho10.lt
      have hp11 : ∀ b, r11.ownBlock = some b → w10.heap.size ≤ b ∧ b < w11.heap.size := ho11.lt
      clear ho6 ho7 ho8 ho67 ho68 ho69 ho610 ho78 ho79 ho710 ho89 ho810 ho10 hcc5 hcc6 hcc7 hcc8 hcc9 hcc10 hcd5 hcd6 hcd7 hcd8 hcd9 hcd10 hbl6 hbl7 hbl8 hbl9 hbl10
      have hr011 := hr0.below hbl11
      obtain ⟨A6, c6, rfl, _, _⟩ := own_form ho611
      obtain ⟨A7, c7, rfl, _, _⟩ := own_form ho711
      obtain ⟨A8, c8, rfl, _, _⟩ := own_form ho811
      obtain ⟨A10, c10, rfl, _, _⟩ := own_form ho1011
      obtain ⟨A11, c11, rfl, _, _⟩ := own_form ho11
      have cv0 := conv_str (P := Try.prog) 23 9 5 Try.underlying23 Try.underlying5 Try.underlying9 hr011 rfl (c := c0)
      have cv6 := conv_str (P := Try.prog) 23 9 5 Try.underlying23 Try.underlying5 Try.underlying9 (Reads.of_own ho611) rfl (c := c6)
      have cv7 := conv_str (P := Try.prog) 23 9 5 Try.underlying23 Try.underlying5 Try.underlying9 (Reads.of_own ho711) rfl (c := c7)
      have cv8 := conv_str (P := Try.prog) 23 9 5 Try.underlying23 Try.underlying5 Try.underlying9 (Reads.of_own ho811) rfl (c := c8)
      have cv10 := conv_str (P := Try.prog) 23 9 5 Try.underlying23 Try.underlying5 Try.underlying9 (Reads.of_own ho1011) rfl (c := c10)
      have cv11 := conv_str (P := Try.prog) 23 9 5 Try.underlying23 Try.underlying5 Try.underlying9 (Reads.of_own ho11) rfl (c := c11)
      have hbn := Blk.new w11 23 #[.slice A6 bs.length c6, .slice A7 bs.length c7, .slice A8 bs.length c8, .slice A10 U.length c10, .slice A11 U.length c11]
      have GO := Lib.hid (ownBytes_list _ w11.heap.size 5 5 _ [(.slice A6 bs.length c6, bs.length), (.slice A7 bs.length c7, bs.length), (.slice A8 bs.length c8, bs.length), (.slice A10 U.length c10, U.length), (.slice A11 U.length c11, U.length)] hbn rfl rfl (by omega)
        (by simp only [List.mem_cons, List.not_mem_nil, or_false]; rintro r (rfl | rfl | rfl | rfl | rfl) <;> simp only [] <;> omega)
        (by
          simp only [List.mem_cons, List.not_mem_nil, or_false]
          rintro r (rfl | rfl | rfl | rfl | rfl)
          · exact ⟨_, own_mono (ho611.alloc _) (Nat.zero_le _)⟩
          · exact ⟨_, own_mono (ho711.alloc _) (Nat.zero_le _)⟩
          · exact ⟨_, own_mono (ho811.alloc _) (Nat.zero_le _)⟩
          · exact ⟨_, own_mono (ho1011.alloc _) (Nat.zero_le _)⟩
          · exact ⟨_, own_mono (ho11.alloc _) (Nat.zero_le _)⟩)
        (by
          simp only [List.pairwise_cons, List.mem_cons, List.not_mem_nil, or_false, List.Pairwise.nil, and_true, forall_eq_or_imp, forall_eq]
          refine ⟨⟨?_, ?_, ?_, ?_⟩, ⟨?_, ?_, ?_⟩, ⟨?_, ?_⟩, ?_, ?_⟩
          · intro k h1 h2; have := hp6 k h1; have := hp7 k h2; omega
          · intro k h1 h2; have := hp6 k h1; have := hp8 k h2; omega
          · intro k h1 h2; have := hp6 k h1; have := hp10 k h2; omega
          · intro k h1 h2; have := hp6 k h1; have := hp11 k h2; omega
          · intro k h1 h2; have := hp7 k h1; have := hp8 k h2; omega
          · intro k h1 h2; have := hp7 k h1; have := hp10 k h2; omega
          · intro k h1 h2; have := hp7 k h1; have := hp11 k h2; omega
          · intro k h1 h2; have := hp8 k h1; have := hp10 k h2; omega
          · intro k h1 h2; have := hp8 k h1; have := hp11 k h2; omega
          · intro k h1 h2; have := hp10 k h1; have := hp11 k h2; omega
          · intro a h; cases h))
      have hSB : ∀ b, (∃ r, r ∈ [(Value.slice A6 bs.length c6, bs.length), (.slice A7 bs.length c7, bs.length), (.slice A8 bs.length c8, bs.length), (.slice A10 U.length c10, U.length), (.slice A11 U.length c11, U.length)] ∧ r.1.ownBlock = some b) → BB ≤ b := by
        simp only [List.mem_cons, List.not_mem_nil, or_false]
        rintro b ⟨r, (rfl | rfl | rfl | rfl | rfl), hb⟩
        · exact (hp6 b hb).1
        · have := (hp7 b hb).1; omega
        · have := (hp8 b hb).1; omega
        · have := (hp10 b hb).1; omega
        · have := (hp11 b hb).1; omega
      go_wp2_with (go_at_call 24; refine GO.out.mono ?_; rintro e w12 ⟨rfl, hk12⟩)
      have hkA : K0 w11 (w11.alloc (.cells #[.slice A6 bs.length c6, .slice A7 bs.length c7, .slice A8 bs.length c8, .slice A10 U.length c10, .slice A11 U.length c11] 23)) := (Kp.refl _ _).alloc _
      have hcd12 : CurV w12 BB (.pointer (some ⟨pd, 0, none⟩)) bs U.length := (hcd11.k0 (by omega) hkA).far (by have := hkA.size; omega) hk12 (fun p e h => by cases e; have := hSB _ h; omega) (fun b hb h => by have := hSB _ h; omega)
      have hs12 : BB ≤ w12.heap.size := by have := hkA.size; have := hk12.size; omega
      have hbl12 : Below w.heap.size w w12 := (hbl11.trans (k0_below hkA (by omega))).trans (hk12.below_of (by have := hkA.size; omega) (fun k hk h => by have := hSB _ h; omega))
      refine (GBU.out _ _ hcd12).mono ?_
      rintro e w13 ⟨rfl, hcd13, hk13⟩
      have hs13 := hk13.size
      have hbl13 := hbl12.trans (kc_below hk13 (by omega) (by omega))
      clear hcd12 hcd11 cv0 cv6 cv7 cv8 cv10 cv11
      have cv0d := conv_str (P := Try.prog) (w := w13.drew) 23 9 5 Try.underlying23 Try.underlying5 Try.underlying9 ((hr0.below hbl13).drewN 1) rfl (c := c0)
      go_wp2
      go_region_with (first
        | (go_at_call 18; go_must (refine (GW.out _ _ (by exact Nat.le_trans hs12 hs13) (by exact hcd13.drewN 1)).mono ?_); rintro e w14 ⟨r14, rfl, ho14, hk14⟩; obtain ⟨A14, c14, rfl, _, _⟩ := own_form ho14; have hbl14 := ((below_drewN hbl13 1).trans (k0_below hk14 (by exact Nat.le_trans hwB (Nat.le_trans hs12 hs13)))); have hr14 := hr0.below hbl14; have cv0 := conv_str (P := Try.prog) 23 9 5 Try.underlying23 Try.underlying5 Try.underlying9 hr14 rfl (c := c0); have cv14 := conv_str (P := Try.prog) 23 9 5 Try.underlying23 Try.underlying5 Try.underlying9 (Reads.of_own ho14) rfl (c := c14)))
      all_goals go_wp2
      all_goals go_ret
      all_goals exact ⟨rfl, hbl14⟩
end Go.Proofs.Ytdilpljfghbbeaa
