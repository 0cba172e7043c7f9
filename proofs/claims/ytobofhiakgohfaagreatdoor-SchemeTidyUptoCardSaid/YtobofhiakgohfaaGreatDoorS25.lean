/- SchemeTidy. -/
import Derived.Test.YtobofhiakgohfaaGreatDoorS27
set_option linter.unusedVariables false
set_option linter.unusedSimpArgs false
namespace Go.Proofs.YtobofhiakgohfaaGreatDoor
open Go.RowKit

/-- The classes of which the first q are turned. -/
def midP (pc : List (ClassD × Value)) (q : Nat) : List (ClassD × Value) := (pc.take q).map revP ++ pc.drop q
theorem mid_len (pc : List (ClassD × Value)) (q : Nat) (h : q ≤ pc.length) : (midP pc q).length = pc.length := by simp [midP]; omega
theorem mid_get (pc : List (ClassD × Value)) {q : Nat} (h : q < pc.length) (h' : q < (midP pc q).length) : (midP pc q)[q] = pc[q] := by
  simp only [midP]
  rw [List.getElem_append_right (by simp; omega)]
  simp [Nat.min_eq_left (Nat.le_of_lt h)]
theorem mid_step (pc : List (ClassD × Value)) {q : Nat} (h : q < pc.length) : (midP pc q).set q (revP pc[q]) = midP pc (q + 1) := by
  simp only [midP]
  rw [List.set_append_right _ _ (by simp; omega), List.length_map, List.length_take_of_le (Nat.le_of_lt h), Nat.sub_self, List.drop_eq_getElem_cons h, List.set_cons_zero, List.take_succ_eq_append_getElem h, List.map_append, List.append_assoc]
  rfl
theorem mid_end (pc : List (ClassD × Value)) : midP pc pc.length = pc.map revP := by simp [midP]

theorem fit_rev (d : DescD) : fitD ⟨d.cls.map revC, d.shs⟩ = fitD d := by
  have h1 : All2 likeC d.cls (d.cls.map revC) := all2_self (fun a => ⟨rfl, by
    show (a.its.map erI).Perm (a.its.reverse.map erI)
    rw [List.map_reverse]
    exact (List.reverse_perm _).symm⟩) _
  have h2 : All2 likeS d.shs (d.shs.map id) := all2_self (R := likeS) (f := id) (fun a => ⟨rfl, rfl⟩) d.shs
  rw [List.map_id] at h2
  exact (fitD_like (a := d) (b := ⟨d.cls.map revC, d.shs⟩) h1 h2).symm
/-- The blocks of the items. -/
def itB (pc : List (ClassD × Value)) (k : Nat) : Prop := ∃ x ∈ pc, x.2.ownBlock = some k

set_option maxRecDepth 100000 in
set_option maxHeartbeats 16000000 in
theorem tidy_any (w : World) (s : ByteArray) (hs : s.size ≤ 1048576) (hP : PowV w) : Calls Tryz.prog 5 #[.string s] w fun e w' => e = .returned (.bool true) ∧ K0 w w' := by
  have FX := Lib.hid (fixed_any w hP)
  have HP := Lib.hid hP
  have PA := Lib.hid (fun W => parse_any s W hs)
  go_enter Tryz.func5, Tryz.ntmps5
  go_wp2_with fail
  refine FX.out.mono ?_
  rintro e w1 ⟨rfl, hk1⟩
  go_wp2_with fail
  refine (PA.out w1).mono ?_
  rintro e w2 h
  rcases h with ⟨pp, er, hE, rfl, hk2⟩ | ⟨d, vc, vs, pc, ps, hE, rfl, hPD, hpc, hps, hk2⟩
  · have hne : er ≠ 0 := by rcases parse_err hE with rfl | rfl <;> omega
    go_wp2
    go_ret
    exact ⟨rfl, (hk1.trans hk2).alloc _⟩
  · have hf := parse_fit hE
    have hD2 := hPD.descV hpc hps hf
    have k02 : K0 w w2 := hk1.trans hk2
    have hlen : pc.length ≤ 32 ∧ ps.length ≤ 32 := by
      have hf2 := hf
      unfold fitD at hf2
      simp only [Bool.and_eq_true, decide_eq_true_eq] at hf2
      have h1 : pc.length = d.cls.length := by rw [← hpc]; simp
      have h2 : ps.length = d.shs.length := by rw [← hps]; simp
      omega
    obtain ⟨Ac, cc, rfl, _, _⟩ := own_form hPD.oc
    obtain ⟨As, cs, rfl, _, _⟩ := own_form hPD.os
    have HPD := Lib.hid hPD
    have y3 := Blk.new w2 42 #[.slice Ac pc.length cc, .slice As ps.length cs]
    have k3 : K0 w2 (w2.alloc (.cells #[.slice Ac pc.length cc, .slice As ps.length cs] 42)) := (Kp.refl _ _).alloc _
    obtain ⟨w3, hw3⟩ : ∃ w3, w3 = w2.alloc (.cells #[.slice Ac pc.length cc, .slice As ps.length cs] 42) := ⟨_, rfl⟩
    rw [← hw3] at y3 k3
    have hD3 := hD2.k0 (Nat.le_refl _) k3
    have CO := Lib.hid (copy_any w3 w2.heap.size _ d hD3 k3.size)
    have HD3 := Lib.hid hD3
    have HF := Lib.hid hf
    have HPC := Lib.hid hpc
    have HPS := Lib.hid hps
    have k03 : K0 w w3 := k02.trans k3
    clear hE hPD hD2 hD3 hpc hps hf PA FX
    have cy0 := y3.cell 0
    have cy1 := y3.cell 1
    simp at cy0 cy1
    go_wp2_with fail
    rw [← hw3]
    clear hw3
    refine CO.out.mono ?_
    rintro e w4 ⟨v', rfl, hO4, hk4⟩
    have k04 : K0 w w4 := k03.trans hk4
    have hP4 := HP.out.k0 k04
    have BU := Lib.hid (build_any w4 w4.heap.size v' d hO4.it (Nat.le_refl _) hP4)
    obtain ⟨vc', vs', rfl, _⟩ := hO4
    have y4 := y3.kp hk4 (fun h => h)
    clear hP4 cy0 cy1
    go_wp2_with fail
    refine BU.out.mono ?_
    rintro e w5 ⟨vo, out, h1, rfl, hO5, hl5, hk5⟩
    have k05 : K0 w w5 := k04.trans hk5
    obtain ⟨Ao, co, rfl, _, _⟩ := own_form hO5.row
    have HO5 := Lib.hid hO5
    have y5 := y4.kp hk5 (fun h => h)
    obtain ⟨w6, hw6⟩ : ∃ w6, w6 = w5.alloc (.cells #[.slice Ao out.length co] 25) := ⟨_, rfl⟩
    have k56 : K0 w5 w6 := by rw [hw6]; exact (Kp.refl _ _).alloc _
    have b6 : Blk w6 w5.heap.size 25 #[.slice Ao out.length co] := by rw [hw6]; exact Blk.new _ _ _
    have y6 := y5.kp k56 (fun h => h)
    have k06 : K0 w w6 := k05.trans k56
    have k36 : K0 w3 w6 := (hk4.trans hk5).trans k56
    have PR := Lib.hid (print_any w6 w2.heap.size _ d (HD3.out.k0 k3.size k36) (Nat.le_trans k3.size k36.size) (HP.out.k0 k06))
    rw [printR_fit HF.out] at PR
    have cy0 := y5.cell 0
    have cy1 := y5.cell 1
    have ly := y5.lt
    simp at cy0 cy1
    have H1 := Lib.hid h1
    clear h1 hO5
    obtain ⟨R1, hR1⟩ : ∃ R1, R1 = schR d := ⟨_, rfl⟩
    rw [← hR1] at H1 ⊢
    have HR1 := Lib.hid hR1
    clear hR1 BU
    go_wp2_with fail
    rw [← hw6]
    refine PR.out.mono ?_
    rintro e w7 ⟨rfl, hk7⟩
    have k07 : K0 w w7 := k06.trans hk7
    have hrp := readS_print HF.out
    have hsz7 := txtID_len HF.out
    obtain ⟨T, hT⟩ : ∃ T, T = txtID d := ⟨_, rfl⟩
    rw [← hT] at hrp hsz7 ⊢
    have RE := Lib.hid (read_any w7 ⟨T.toArray⟩ (by show T.toArray.size ≤ _; simp; omega) (HP.out.k0 k07))
    obtain ⟨R2, hR2⟩ : ∃ R2, R2 = readS ⟨T.toArray⟩ := ⟨_, rfl⟩
    rw [← hR2] at RE hrp
    rw [← HR1.out] at hrp
    clear hR2 hT hsz7 PR hw6
    obtain ⟨S1, p1, e1⟩ := R1
    obtain ⟨S2, p2, e2⟩ := R2
    simp only [] at hrp
    obtain ⟨rfl, rfl⟩ := hrp
    go_wp2_with fail
    refine RE.out.mono ?_
    rintro e w8 ⟨vo2, out2, h2, rfl, hO8, hl8, hk8⟩
    simp only [] at h2 ⊢
    have k08 : K0 w w8 := k07.trans hk8
    have k68 : K0 w6 w8 := hk7.trans hk8
    obtain ⟨Ao2, co2, rfl, _, _⟩ := own_form hO8.row
    have hS8 := hO8.shpsV (by omega)
    have b8 := b6.kp k68 (fun h => h)
    have cb := b8.cell 0
    have lb := b8.lt
    simp at cb
    obtain ⟨w9, hw9⟩ : ∃ w9, w9 = w8.alloc (.cells #[.slice Ao2 out2.length co2] 25) := ⟨_, rfl⟩
    have k89 : K0 w8 w9 := by rw [hw9]; exact (Kp.refl _ _).alloc _
    have k59 : K0 w5 w9 := k56.trans (k68.trans k89)
    have hS9 := (HO5.out.shpsV (by omega)).k0 (Nat.le_refl _) k59
    have SM := Lib.hid (same19_any w9 _ _ out out2 hS9 (hS8.k0 (Nat.le_refl _) k89))
    rw [show decide (out.map ShpX.d = out2.map ShpX.d) = true from decide_eq_true (H1.out.trans h2.symm)] at SM
    have y9 := (y6.kp (k68.trans k89) (fun h => h))
    have b9 := b8.kp k89 (fun h => h)
    have k09 : K0 w w9 := k08.trans k89
    have k29 : K0 w2 w9 := k3.trans (k36.trans (k68.trans k89))
    have hPD9 := HPD.out.k0 k29
    clear hS8 hS9 h2 hO8
    have e0 : decide (e2 = e2) = true := decide_eq_true rfl
    go_wp2_with fail
    rw [← hw9]
    refine SM.out.mono ?_
    rintro e wA ⟨rfl, hkA⟩
    have yA := y9.kp hkA (fun h => h)
    have bA := b9.kp hkA (fun h => h)
    have hPDA := hPD9.k0 hkA
    have k0A : K0 w wA := k09.trans hkA
    have cyA := yA.cell 0
    have lyA := yA.lt
    simp at cyA
    have k5A : K0 w5 wA := k59.trans hkA
    clear cy0 cy1 ly cb lb y3 y4 y5 y6 y9 b6 b8 b9 hPD9 hw9 SM RE
    go_wp2
    have hitB := Lib.hid (fun k (h : itB pc k) => show w.heap.size ≤ k ∧ k < w2.heap.size by
      obtain ⟨x, hx, hk⟩ := h
      have := (HPD.out.ci x hx).1.1.lt k hk
      have := hk1.size
      omega)
    have hit53 := Lib.hid (fun k (h : itB pc k) => show ∃ cs, Blk wA k 53 cs by
      obtain ⟨x, hx, hk⟩ := h
      exact own_blk (hPDA.ci x hx).1.1 k hk)
    have HOA := Lib.hid (HO5.out.k0 k5A)
    have HP0 := Lib.hid (show PD wA w1.heap.size (.slice Ac pc.length cc) (.slice As ps.length cs) (midP pc 0) ps by simpa [midP] using hPDA)
    have s2A : w2.heap.size ≤ wA.heap.size := (k29.trans hkA).size
    clear hPDA
    go_loopw [65] (fun i wr => ∃ q : Nat, q ≤ pc.length ∧ i = .int .i64 (q : Int) ∧ Hid (PD wr w1.heap.size (.slice Ac pc.length cc) (.slice As ps.length cs) (midP pc q) ps) ∧ Kp (itB pc) wA wr) (fun i wr => pc.length - (intOf i).toNat)
    case atStart => exact ⟨0, by omega, rfl, HP0, Kp.refl _ _⟩
    case round =>
      obtain ⟨q, hq, rfl, hP, hk⟩ := hrel
      by_cases hlt : q < pc.length
      · have hP1 := hP.out
        have hlen := mid_len pc q hq
        have hql : q < (midP pc q).length := by omega
        have hge := mid_get pc hlt hql
        have hR : Reads wr wr.heap.size 3 Ac (midP pc q).length (tris ctri (midP pc q)) := by
          have h1 := hP1.oc
          rw [hlen] at h1 ⊢
          exact Reads.of_own h1
        obtain ⟨ad, rfl, hbk, r0, r1, r2⟩ := hR.tri hql
        have hit := (hP1.ci _ (List.getElem_mem hql)).1
        have hst := mid_step pc hlt
        have HTU := Lib.hid (fun (w' : World) its' hk hr => hP1.turn (w' := w') (its := its') hql hk hr)
        rw [hge] at r0 r1 r2 hit HTU
        have hmem : pc[q] ∈ pc := List.getElem_mem hlt
        generalize pc[q] = x at r0 r1 r2 hit hst HTU hmem
        obtain ⟨⟨nm, its, pl⟩, v⟩ := x
        simp only [ctri] at r0 r1 r2 hit HTU
        have HST := Lib.hid hst
        have HIT := Lib.hid hit
        obtain ⟨A3, c3, rfl, _, _⟩ := own_form hit.1
        have hn := hit.2.1
        obtain ⟨wb, hwb⟩ : ∃ wb, wb = wr.alloc (.cells #[.string nm, .slice A3 its.length c3, .int .i64 pl] 51) := ⟨_, rfl⟩
        have kb : K0 wr wb := by rw [hwb]; exact (Kp.refl _ _).alloc _
        have yb : Blk wb wr.heap.size 51 #[.string nm, .slice A3 its.length c3, .int .i64 pl] := by rw [hwb]; exact Blk.new _ _ _
        have hw1 : IntKind.i64.wrap ((its.length : Int) - 1) = (its.length : Int) - 1 := IntWalk.i64_in _ (by omega)
        have HMEM := Lib.hid hmem
        clear hst hit hge hR hP1 hmem
        go_wp2
        rw [← hwb]
        have cb1 := yb.cell 1
        have lb1 := yb.lt
        simp at cb1
        go_quiet (fail)
        go_wp2
        go_loopw [16, 17] (fun u v wz => ∃ (i : Nat) (j : Int), i ≤ its.length ∧ 2 * i ≤ its.length + 1 ∧ u = .int .i64 (i : Int) ∧ v = .int .i64 j ∧ j = (its.length : Int) - 1 - i ∧ Hid (OItemsV wz w1.heap.size (.slice A3 its.length c3) (turnAt its i)) ∧ Blk wz wr.heap.size 51 #[.string nm, .slice A3 its.length c3, .int .i64 pl] ∧ Kp (fun k => (Value.slice A3 its.length c3).ownBlock = some k) wb wz) (fun u v wz => its.length - (intOf u).toNat)
        case atStart => exact ⟨0, _, by omega, by omega, rfl, rfl, by omega, Lib.hid (by rw [turn_zero]; have := HIT.out; exact ⟨own_kt this.1 (kb.drewN _) (fun _ _ _ h => h), this.2⟩), yb, (Kp.refl _ _).drewN _⟩
        case round =>
          obtain ⟨i, j, hi1, hi2, rfl, rfl, hj, hO, yz, hkz⟩ := hrel
          have cz := yz.cell 1
          have lz := yz.lt
          simp at cz
          by_cases hij : (i : Int) < j
          · obtain ⟨jn, rfl⟩ : ∃ jn : Nat, j = (jn : Int) := ⟨j.toNat, by omega⟩
            have d0 : decide ((i : Int) < (jn : Int)) = true := decide_eq_true hij
            have hO2 := hO.out
            obtain ⟨X, hX⟩ : ∃ X, its[i]? = some X := ⟨its[i]'(by omega), List.getElem?_eq_getElem (by omega)⟩
            obtain ⟨Y, hY⟩ : ∃ Y, its[jn]? = some Y := ⟨its[jn]'(by omega), List.getElem?_eq_getElem (by omega)⟩
            have htm := turn_mid its (i := i) (j := jn) (by omega) (by omega)
            rw [hX, hY] at htm
            have hstep := turn_step its (i := i) (j := jn) (by omega) (by omega) hX hY
            have htl := turn_len its i
            obtain ⟨ho, hol, hon⟩ := hO2
            rw [htl] at ho
            obtain ⟨g, c', he, _, hg⟩ := ho.form (by omega)
            cases he
            obtain ⟨a0, a1, a2, a3⟩ := icells_get _ i X htm.1
            obtain ⟨b0, b1, b2, b3⟩ := icells_get _ jn Y htm.2
            have A0 := (ho.cellAt (i * 4) (by omega)).trans a0
            have A1 := (ho.cellAt (i * 4 + 1) (by omega)).trans a1
            have A2 := (ho.cellAt (i * 4 + 2) (by omega)).trans a2
            have A3 := (ho.cellAt (i * 4 + 3) (by omega)).trans a3
            have B0 := (ho.cellAt (jn * 4) (by omega)).trans b0
            have B1 := (ho.cellAt (jn * 4 + 1) (by omega)).trans b1
            have B2 := (ho.cellAt (jn * 4 + 2) (by omega)).trans b2
            have B3 := (ho.cellAt (jn * 4 + 3) (by omega)).trans b3
            have F0 := ho.frozenAt (i * 4)
            have F1 := ho.frozenAt (i * 4 + 1)
            have F2 := ho.frozenAt (i * 4 + 2)
            have F3 := ho.frozenAt (i * 4 + 3)
            have G0 := ho.frozenAt (jn * 4)
            have G1 := ho.frozenAt (jn * 4 + 1)
            have G2 := ho.frozenAt (jn * 4 + 2)
            have G3 := ho.frozenAt (jn * 4 + 3)
            have HHO := Lib.hid ho
            have HSTP := Lib.hid hstep
            have HOL := Lib.hid hol
            have HON := Lib.hid hon
            have hgl := (ho.lt _ rfl).2
            have hne := own_blk_ne ho yz (by decide)
            simp [Value.ownBlock] at hne
            have hne2 := fun e => hne (Eq.symm e)
            have hjn : jn < its.length := by omega
            have hin : i < its.length := by omega
            have HJ := Lib.hid hj
            have SWI := Lib.hid (swap_items (X := X) (Y := Y) (i := i) (j := jn) ho (by omega) (by omega) hX hY hn HIT.out.2.2)
            have SWB := Lib.hid (swap_blk (g := g) (i := i) (j := jn) (X := X) (Y := Y) yz (by first | exact hne | exact hne2))
            have SWK := Lib.hid (swap_kp (g := g) (i := i) (j := jn) (X := X) (Y := Y) hkz rfl)
            have HSW := Lib.hid (swapW_eq wr g i jn X Y)
            clear a0 a1 a2 a3 b0 b1 b2 b3 htm hstep hO ho hol hon hX hY hj
            go_wp2
            go_region
            have hsw := HSW.out
            rw [← hsw]
            clear hsw HSW
            generalize swapW wr g i jn X Y = WS at SWI SWB SWK ⊢
            clear A0 A1 A2 A3 B0 B1 B2 B3 F0 F1 F2 F3 G0 G1 G2 G3
            go_wp2
            exact ⟨⟨i + 1, (jn : Int) - 1, by omega, by have := HJ.out; omega, by go_num, by go_num, by have := HJ.out; omega, SWI, SWB.out, SWK.out.drew⟩, by simp [intOf]; omega⟩
          · have d0 : decide ((i : Int) < j) = false := decide_eq_false hij
            have hte := turn_end its (i := i) (by omega)
            rw [hte] at hO
            have hO2 := hO.out
            have HTW := Lib.hid (HTU.out _ _ ((K0.kp kb).trans hkz) hO2)
            go_wp2
            refine ⟨⟨q + 1, by omega, by go_num, Lib.hid ?_, ?_⟩, by simp [intOf]; omega⟩
            · have h1 := HTW.out
              rw [← HST.out]
              exact h1
            · refine hk.trans ((K0.kp kb).trans (hkz.mono (fun k h => ?_)))
              exact ⟨_, HMEM.out, h⟩
      · obtain rfl : q = pc.length := by omega
        have hPE := hP.out
        rw [mid_end] at hPE
        have k0r : K0 w wr := k0A.trans' hk (fun i hi h => by have := (hitB.out i h).1; omega)
        have hc3 : (pc.map revP).map Prod.fst = (⟨d.cls.map revC, d.shs⟩ : DescD).cls := by
          show _ = d.cls.map revC
          rw [← HPC.out, List.map_map, List.map_map]
          rfl
        have hlr : (pc.map revP).length = pc.length := by simp
        have hD := hPE.descV hc3 HPS.out (by rw [fit_rev]; exact HF.out)
        have BU := Lib.hid (build_any wr wr.heap.size _ _ hD (Nat.le_refl _) (HP.out.k0 k0r))
        have hlk := schR_like (build_rev d)
        rw [← HR1.out] at hlk
        generalize schR ⟨d.cls.map revC, d.shs⟩ = R3 at BU hlk
        obtain ⟨S3, p3, e3⟩ := R3
        simp only [] at hlk
        obtain ⟨hl1, hl2⟩ := hlk
        subst hl1 hl2
        have yr := yA.kp hk (fun h => by have := (hitB.out _ h).2; omega)
        have br := bA.kp hk (fun h => by obtain ⟨cs, hb⟩ := hit53.out _ h; have := hb.symm.trans bA; cases this)
        have cy0 := yr.cell 0
        have cy1 := yr.cell 1
        have ly := yr.lt
        simp at cy0 cy1
        have hOr := HOA.out.kt hk (fun g cs hb h => by obtain ⟨cs', hb'⟩ := hit53.out _ h; have := hb.symm.trans hb'; cases this) (fun g cs hb h => by obtain ⟨cs', hb'⟩ := hit53.out _ h; have := hb.symm.trans hb'; cases this) (fun g cs hb h => by obtain ⟨cs', hb'⟩ := hit53.out _ h.2; have := hb.symm.trans hb'; cases this)
        have hSr := hOr.shpsV (by omega)
        clear cyA lyA hPE hD hc3 hlr
        go_wp2_with fail
        refine BU.out.mono ?_
        rintro e wB ⟨vo3, out3, h3, rfl, hOB, hlB, hkB⟩
        simp only [] at h3 ⊢
        obtain ⟨Ao3, co3, rfl, _, _⟩ := own_form hOB.row
        have hSB := hOB.shpsV (by omega)
        have bB := br.kp hkB (fun h => h)
        have cb := bB.cell 0
        have lb := bB.lt
        simp at cb
        have kBC : K0 wB (wB.alloc (.cells #[.slice Ao3 out3.length co3] 25)) := (Kp.refl _ _).alloc _
        have SM := Lib.hid (same19_any _ _ _ out out3 (hSr.k0 (Nat.le_refl _) (hkB.trans kBC)) (hSB.k0 (Nat.le_refl _) kBC))
        rw [show decide (out.map ShpX.d = out3.map ShpX.d) = true from decide_eq_true (H1.out.trans h3.symm)] at SM
        clear hSB hSr hOr h3 hOB cy0 cy1
        go_wp2_with fail
        refine SM.out.mono ?_
        rintro e wD ⟨rfl, hkD⟩
        go_wp2
        go_ret
        exact ⟨rfl, k0r.trans (hkB.trans (kBC.trans hkD))⟩
theorem schemeTidy_walk (W : World) (hP : PowV W) (s : ByteArray) (hs : s.size ≤ 1048576) : Calls Tryz.prog 5 #[.string s] W fun e W' => e = .returned (.bool true) ∧ Below W.heap.size W W' :=
  (tidy_any W s hs hP).mono fun e W' h => ⟨h.1, h.2.below⟩
end Go.Proofs.YtobofhiakgohfaaGreatDoor
