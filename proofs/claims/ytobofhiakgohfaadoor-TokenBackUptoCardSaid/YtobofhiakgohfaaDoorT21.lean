/- The walk of TokenBack. -/
import Derived.Test.YtobofhiakgohfaaDoorR3
import Derived.Test.YtobofhiakgohfaaDoorT20
set_option linter.unusedVariables false
set_option linter.unusedSimpArgs false
namespace Go.Proofs.YtobofhiakgohfaaDoor
open Go.RowKit

theorem add_add_span (c d : UInt8) : (⟨(digL [c]).toArray⟩ ++ ⟨#[45]⟩ : ByteArray) ++ ⟨(digL [d]).toArray⟩ = ⟨(spanL c d).toArray⟩ := by
  refine ba_ext ?_
  simp [spanL]

theorem byteAt_eq {bs : List UInt8} {k : Nat} (h : k < bs.length) : byteAt bs k = bs[k] := by unfold byteAt; rw [List.getElem?_eq_getElem h]; rfl

set_option maxRecDepth 100000 in
set_option maxHeartbeats 8000000 in
theorem tokenBack_walk (w : World) (hp : PowV w) (n : Int) (hn : (Lit.int .i64 n).wf = true) (v : Value) (bs : List UInt8) (hv : SlV w w.heap.size v bs) (hlen : bs.length ≤ 1048576) :
    Calls Tryd.prog 8 #[.int .i64 n, v] w fun e w' => e = .returned (.bool true) ∧ Below w.heap.size w w' := by
  have hnb : -9223372036854775808 ≤ n ∧ n ≤ 9223372036854775807 := by simpa [Lit.wf, IntKind.min, IntKind.max, IntKind.signed, IntKind.bits] using hn
  obtain ⟨A, cp, rfl, hcp, hcp2, _, hr⟩ := hv
  obtain ⟨n0, n1⟩ := hnb
  have HI := Lib.hid (fun W h => itoa_any n W n0 n1 h)
  have HN := Lib.hid (fun W => number_itoa n W n0 n1)
  obtain ⟨m, ok, hm⟩ : ∃ m ok, backR n = (m, ok) := ⟨_, _, rfl⟩
  rw [hm] at HN
  have hcase : (0 ≤ n ∧ n ≤ 999999999 ∧ m = n ∧ ok = true) ∨ (n < 0 ∧ m = 0 ∧ ok = false) ∨ (0 ≤ n ∧ 999999999 < n ∧ m = 0 ∧ ok = false) := by
    unfold backR at hm
    split at hm
    · rename_i h; cases hm; exact .inl ⟨h.1, h.2, rfl, rfl⟩
    · rename_i h
      cases hm
      by_cases h0 : n < 0
      · exact .inr (.inl ⟨h0, rfl, rfl⟩)
      · exact .inr (.inr ⟨by omega, by omega, rfl, rfl⟩)
  clear hm hn
  have HX := Lib.hid (fun W => hex_dig bs W (by omega))
  go_enter Tryd.func8, Tryd.ntmps8
  go_wp2_with fail
  refine (fixed_any _).mono ?_
  rintro e w1 ⟨rfl, hk1⟩
  have hp1 := hp.k0 hk1
  go_wp2_with fail
  refine (HI.out _ hp1).mono ?_
  rintro e w2 ⟨rfl, hk2⟩
  go_wp2_with fail
  refine (HN.out _).mono ?_
  rintro e w3 ⟨rfl, hk3⟩
  have hk03 : K0 w w3 := (hk1.trans hk2).trans hk3
  have hr3 := hr.k0 (Nat.le_refl _) hk03
  have hr3' := hr3.more hk03.size
  have HD := Lib.hid (digits_any A cp bs w3 hr3' (by omega))
  clear hp hp1
  rcases hcase with ⟨a1, a2, rfl, rfl⟩ | ⟨a1, rfl, rfl⟩ | ⟨a1, a2, rfl, rfl⟩
  all_goals
    go_wp2_with fail
    refine HD.out.mono ?_
    rintro e w4 ⟨rfl, hk4⟩
    go_wp2_with fail
    refine (HX.out _).mono ?_
    rintro e w5 ⟨A5, c5, rfl, hown5, hk5⟩
    have hk05 : K0 w w5 := (hk03.trans hk4).trans hk5
    have cv1 := conv_str (P := Tryd.prog) (w := w5) 44 9 5 Tryd.underlying44 Tryd.underlying5 Tryd.underlying9 (Reads.of_own hown5) rfl (c := c5)
    have cv2 := conv_str (P := Tryd.prog) (w := w5) 44 9 5 Tryd.underlying44 Tryd.underlying5 Tryd.underlying9 (hr.k0 (Nat.le_refl _) hk05) rfl (c := cp)
    go_wp2
    clear cv1 cv2
    go_loopw [57] (fun i wr => ∃ q : Nat, q ≤ bs.length ∧ i = .int .i64 (q : Int) ∧ K0 w wr) (fun i wr => bs.length - (intOf i).toNat)
    case atStart => exact ⟨0, by omega, rfl, hk05⟩
    case round =>
      obtain ⟨q, hq, rfl, hk⟩ := hrel
      by_cases hlt : q < bs.length
      · have rdr := hr.k0 (Nat.le_refl _) hk
        obtain ⟨jn, hjn, hjl⟩ : ∃ jn : Nat, (bs.length : Int) - 1 - q = (jn : Int) ∧ jn < bs.length := ⟨bs.length - 1 - q, by omega, by omega⟩
        have hw1 : IntKind.i64.wrap ((bs.length : Int) - 1) = (bs.length : Int) - 1 := IntWalk.i64_in _ (by omega)
        have hw2 : IntKind.i64.wrap ((bs.length : Int) - 1 - q) = (bs.length : Int) - 1 - q := IntWalk.i64_in _ (by omega)
        obtain ⟨Aq, hAq, SL1⟩ := sliceAt_lh (P := Tryd.prog) 44 1 A bs.length cp q (q + 1) Tryd.underlying44 (fun _ => rfl) (by omega) (by omega) ((q : Int) + 1) (by omega)
        obtain ⟨Aj, hAj, SL2⟩ := sliceAt_lh (P := Tryd.prog) 44 1 A bs.length cp jn (jn + 1) Tryd.underlying44 (fun _ => rfl) (by omega) (by omega) ((jn : Int) + 1) (by omega)
        rw [Nat.add_sub_cancel_left] at SL1 SL2
        have DG := Lib.hid (fun (W : World) (hK : K0 wr W) (k : Nat) (hk' : k < bs.length) (A' : Option Addr) (hA : A' = if cp = k then A else A.map (·.add (k * 1))) => digits_at bs A A' W k cp hk' hcp hA ((rdr.k0 hk.size hK).more (Nat.le_trans hk.size hK.size)))
        have HAq := Lib.hid hAq
        have HAj := Lib.hid hAj
        clear hAq hAj
        have g0 : (0 : Int) ≤ (q : Int) := by omega
        have g1 : (q : Int) ≤ (q : Int) + 1 := by omega
        have g2 : (q : Int) + 1 ≤ (cp : Int) := by omega
        have g4 : (0 : Int) ≤ (jn : Int) := by omega
        have g5 : (jn : Int) ≤ (jn : Int) + 1 := by omega
        have g6 : (jn : Int) + 1 ≤ (cp : Int) := by omega
        have hwq : IntKind.i64.wrap ((q : Int) + 1) = (q : Int) + 1 := IntWalk.i64_in _ (by omega)
        have hwj : IntKind.i64.wrap ((jn : Int) + 1) = (jn : Int) + 1 := IntWalk.i64_in _ (by omega)
        go_wp2
        go_region_with (go_at_call 35; refine (DG.out _ (by first | exact kk5 | exact (Kp.refl (fun _ => False) wr).drew | exact (Kp.refl (fun _ => False) wr).drewN 1) _ (by omega) _ (by first | exact HAq.out | exact HAj.out)).mono ?_; rintro e w5 ⟨rfl, hk5⟩; have kk5 : K0 wr w5 := Kp.trans (by first | exact kk5 | exact (Kp.refl (fun _ => False) wr).drew | exact (Kp.refl (fun _ => False) wr).drewN 1) hk5)
        clear hwq hwj hw1 hw2 SL1 SL2
        all_goals
          have hkF : K0 w w5 := hk.trans kk5
          go_wp2_with fail
          refine (item_two _ _).mono ?_
          rintro e w6 ⟨rfl, hk6⟩
          have hcat := add_add_span (byteAt bs q) (byteAt bs jn)
          go_wp2_with fail
          clear hcat
          have IS := item_span (byteAt bs q) (byteAt bs jn)
          by_cases hcd : (byteAt bs q).toNat ≤ (byteAt bs jn).toNat
          · rw [if_pos hcd] at IS
            refine (IS _).mono ?_
            rintro e w7 ⟨rfl, hk7⟩
            obtain ⟨W8, hW8⟩ : ∃ W8, W8 = w7.alloc (.cells #[.string ⟨#[]⟩, .int .i64 ((byteAt bs q).toNat : Int), .int .i64 ((byteAt bs jn).toNat : Int), .int .i64 0] 47) := ⟨_, rfl⟩
            have k8 : K0 w7 W8 := by rw [hW8]; exact (Kp.refl _ _).alloc _
            have ya := ((Blk.new w6 47 #[.string ⟨#[]⟩, .int .i64 ((byteAt bs q).toNat : Int), .int .i64 ((byteAt bs q).toNat : Int), .int .i64 0]).kp hk7 (fun h => h)).kp k8 (fun h => h)
            have yb : Blk W8 w7.heap.size 47 #[.string ⟨#[]⟩, .int .i64 ((byteAt bs q).toNat : Int), .int .i64 ((byteAt bs jn).toNat : Int), .int .i64 0] := by rw [hW8]; exact Blk.new _ _ _
            have kF8 : K0 w W8 := ((hkF.trans hk6).trans (((Kp.refl _ w6).alloc _).trans hk7)).trans k8
            have rdF := hr.k0 (Nat.le_refl _) kF8
            obtain ⟨ad, rfl, hbl, hcells⟩ := rdF.2 (by omega)
            have hcq := hcells q _ (bvs_get hlt)
            have hcj := hcells jn _ (bvs_get hjl)
            rw [← byteAt_eq hlt] at hcq
            rw [← byteAt_eq hjl] at hcj
            unfold bv at hcq hcj
            have ax0 := ya.cell 0
            have ax1 := ya.cell 1
            have ax2 := ya.cell 2
            have ax3 := ya.cell 3
            have bx0 := yb.cell 0
            have bx1 := yb.cell 1
            have bx2 := yb.cell 2
            have bx3 := yb.cell 3
            simp at ax0 ax1 ax2 ax3 bx0 bx1 bx2 bx3
            have hcl := (byteAt bs q).toNat_lt
            have hdl := (byteAt bs jn).toNat_lt
            have hv1 : IntKind.i64.wrap ((byteAt bs q).toNat : Int) = ((byteAt bs q).toNat : Int) := IntWalk.i64_in _ (by omega)
            have hv2 : IntKind.i64.wrap ((byteAt bs jn).toNat : Int) = ((byteAt bs jn).toNat : Int) := IntWalk.i64_in _ (by omega)
            have hdn : decide ((byteAt bs q).toNat ≤ (byteAt bs jn).toNat) = true := decide_eq_true hcd
            have gq : (q : Int) < (bs.length : Int) := by omega
            have gj : (jn : Int) < (bs.length : Int) := by omega
            have HW := Lib.hid hW8
            clear hcells IS HX HD hk5 hk4 DG hW8
            go_wp2_with fail
            rw [← HW.out]
            go_quiet (fail)
            go_wp2
            exact ⟨⟨q + 1, by omega, by go_num, kF8.drewN _⟩, by simp [intOf]; omega⟩
          · rw [if_neg hcd] at IS
            refine (IS _).mono ?_
            rintro e w7 ⟨rfl, hk7⟩
            obtain ⟨W8, hW8⟩ : ∃ W8, W8 = w7.alloc (.cells #[.string ⟨#[]⟩, .int .i64 0, .int .i64 0, .int .i64 0] 47) := ⟨_, rfl⟩
            have k8 : K0 w7 W8 := by rw [hW8]; exact (Kp.refl _ _).alloc _
            have ya := ((Blk.new w6 47 #[.string ⟨#[]⟩, .int .i64 ((byteAt bs q).toNat : Int), .int .i64 ((byteAt bs q).toNat : Int), .int .i64 0]).kp hk7 (fun h => h)).kp k8 (fun h => h)
            have yb : Blk W8 w7.heap.size 47 #[.string ⟨#[]⟩, .int .i64 0, .int .i64 0, .int .i64 0] := by rw [hW8]; exact Blk.new _ _ _
            have kF8 : K0 w W8 := ((hkF.trans hk6).trans (((Kp.refl _ w6).alloc _).trans hk7)).trans k8
            have rdF := hr.k0 (Nat.le_refl _) kF8
            obtain ⟨ad, rfl, hbl, hcells⟩ := rdF.2 (by omega)
            have hcq := hcells q _ (bvs_get hlt)
            have hcj := hcells jn _ (bvs_get hjl)
            rw [← byteAt_eq hlt] at hcq
            rw [← byteAt_eq hjl] at hcj
            unfold bv at hcq hcj
            have ax0 := ya.cell 0
            have ax1 := ya.cell 1
            have ax2 := ya.cell 2
            have ax3 := ya.cell 3
            have bx0 := yb.cell 0
            have bx1 := yb.cell 1
            have bx2 := yb.cell 2
            have bx3 := yb.cell 3
            simp at ax0 ax1 ax2 ax3 bx0 bx1 bx2 bx3
            have hcl := (byteAt bs q).toNat_lt
            have hdl := (byteAt bs jn).toNat_lt
            have hv1 : IntKind.i64.wrap ((byteAt bs q).toNat : Int) = ((byteAt bs q).toNat : Int) := IntWalk.i64_in _ (by omega)
            have hv2 : IntKind.i64.wrap ((byteAt bs jn).toNat : Int) = ((byteAt bs jn).toNat : Int) := IntWalk.i64_in _ (by omega)
            have hdn : decide ((byteAt bs q).toNat ≤ (byteAt bs jn).toNat) = false := decide_eq_false hcd
            have gq : (q : Int) < (bs.length : Int) := by omega
            have gj : (jn : Int) < (bs.length : Int) := by omega
            have HW := Lib.hid hW8
            clear hcells IS HX HD hk5 hk4 DG hW8
            go_wp2_with fail
            rw [← HW.out]
            go_quiet (fail)
            go_wp2
            exact ⟨⟨q + 1, by omega, by go_num, kF8.drewN _⟩, by simp [intOf]; omega⟩
      · obtain rfl : q = bs.length := by omega
        go_wp2
        go_ret
        exact ⟨rfl, hk.below⟩
end Go.Proofs.YtobofhiakgohfaaDoor
