/- The walk of DescrOwns, the marks. -/
import Derived.Test.YtobofhiakgohfaaDoorT59
set_option linter.unusedVariables false
set_option linter.unusedSimpArgs false
namespace Go.Proofs.YtobofhiakgohfaaDoor
open Go.RowKit

theorem take_snd (l : List (ClassD × Value)) {q : Nat} (h : q < l.length) : (l.take (q + 1)).map Prod.snd = (l.take q).map Prod.snd ++ [l[q].2] := by
  rw [List.take_succ_eq_append_getElem h, List.map_append]; rfl
theorem take_snd' (l : List (ShapeD × Value)) {q : Nat} (h : q < l.length) : (l.take (q + 1)).map Prod.snd = (l.take q).map Prod.snd ++ [l[q].2] := by
  rw [List.take_succ_eq_append_getElem h, List.map_append]; rfl
theorem info69 : (Tryd.prog.info? 69).map (fun i => (i.zero, i.size, i.bytes)) = some (some (.slice none 0 0), 1, 24) := by kernel_rfl

theorem rows_get {rs : List (Value × Nat)} {i : Nat} (h : i < rs.length) : rs.getD i (.bool true, 0) = rs[i] := by simp [List.getD_eq_getElem?_getD, h]
theorem set_get {xs : List Value} {j i : Nat} {u : Value} (hj : j * 4 + 3 < xs.length) : (xs.set (j * 4 + 3) u)[i * 4 + 3]? = if j = i then some u else xs[i * 4 + 3]? := by
  rw [List.getElem?_set]
  by_cases h : j = i
  · subst h
    rw [if_pos rfl, if_pos rfl, if_pos hj]
  · rw [if_neg (by omega), if_neg h]
/-- A block of items is not a block of lists. -/
theorem S_ne {w : World} {N : Nat} {vs : Nat → Value} {ns : Nat → Nat} (hr : ∀ i, i < N → ∃ xs, w.ownsRow 0 47 4 (vs i) (ns i) xs) {g : Nat} {cs : Array Value} {t : TypeId} (h : Blk w g t cs) (ht : 47 ≠ t) : ¬ ∃ i, i < N ∧ (vs i).ownBlock = some g := by
  rintro ⟨i, hi, e⟩
  obtain ⟨xs, ho⟩ := hr i hi
  exact own_blk_ne ho h ht e

set_option maxRecDepth 100000 in
set_option maxHeartbeats 16000000 in
theorem descrOwns_walk (w : World) (s : ByteArray) (hs : s.size ≤ 1048576) : Calls Tryd.prog 12 #[.string s] w fun e w' => e = .returned (.bool true) ∧ Below w.heap.size w w' := by
  have P1 := Lib.hid (fun W => (parse_any s W hs).mono (fun e w' h => ParsePost.o h))
  have P2 := Lib.hid (fun W => (refparse_any s W hs).mono (fun e w' h => ParsePost.u h))
  unfold ParseO at P1
  unfold ParseU at P2
  generalize parse3 s = x at *
  obtain ⟨d, p, er⟩ := x
  simp only [] at P1 P2
  have SM := Lib.hid (fun W va vb ha hb => same_any W W.heap.size va vb d d true ha hb (Nat.le_refl _))
  rw [sameD_refl] at SM
  obtain ⟨i0, hi, hz0, hz1, hz2⟩ := info47'
  obtain ⟨i1, hj, hy0, hy1, hy2⟩ := info_parts info69
  go_enter Tryd.func12, Tryd.ntmps12
  go_wp2_with fail
  refine (fixed6_any w).mono ?_
  rintro e w1 ⟨rfl, hk1⟩
  go_wp2_with fail
  refine (P2.out w1).mono ?_
  rintro e w2 ⟨A, n, c, A2, n2, c2, rfl, hm, hk2⟩
  have zw := Blk.new w2 25 #[.slice A n c, .slice A2 n2 c2]
  have kw : K0 w2 (w2.alloc (.cells #[.slice A n c, .slice A2 n2 c2] 25)) := (Kp.refl _ _).alloc _
  go_wp2_with fail
  refine (P1.out _).mono ?_
  rintro e w4 ⟨Aa, na, ca, Aa2, na2, ca2, pc, ps, rfl, hpa, hca, hsa, hf, rfl, rfl, hk4⟩
  have za := Blk.new w4 25 #[.slice Aa pc.length ca, .slice Aa2 ps.length ca2]
  have ka : K0 w4 (w4.alloc (.cells #[.slice Aa pc.length ca, .slice Aa2 ps.length ca2] 25)) := (Kp.refl _ _).alloc _
  go_wp2_with fail
  refine (P1.out _).mono ?_
  rintro e w6 ⟨Ab, nb, cb, Ab2, nb2, cb2, qc, qs, rfl, hpb, hcb, hsb, _, rfl, rfl, hk6⟩
  have zb := Blk.new w6 25 #[.slice Ab qc.length cb, .slice Ab2 qs.length cb2]
  have kb : K0 w6 (w6.alloc (.cells #[.slice Ab qc.length cb, .slice Ab2 qs.length cb2] 25)) := (Kp.refl _ _).alloc _
  obtain ⟨W7, hW7⟩ : ∃ W7, W7 = w6.alloc (.cells #[.slice Ab qc.length cb, .slice Ab2 qs.length cb2] 25) := ⟨_, rfl⟩
  rw [← hW7] at zb kb
  have kA7 := ka.trans (hk6.trans kb)
  have kW7 := (kw.trans hk4).trans kA7
  have zw7 : Blk W7 w2.heap.size 25 #[.slice A n c, .slice A2 n2 c2] := zw.kp (hk4.trans kA7) (fun h => h)
  have za7 : Blk W7 w4.heap.size 25 #[.slice Aa pc.length ca, .slice Aa2 ps.length ca2] := za.kp (hk6.trans kb) (fun h => h)
  have hk07 : K0 w W7 := ((hk1.trans hk2).trans kW7)
  have hw7 : DescV W7 w2.heap.size (.agg #[.slice A n c, .slice A2 n2 c2]) d := hm.k0 (Nat.le_refl _) kW7
  have ha7 : PD W7 (w2.heap.size + 1) (.slice Aa pc.length ca) (.slice Aa2 ps.length ca2) pc ps := by have := (hpa.k0 kA7); simpa using this
  have hb7 : PD W7 (w4.heap.size + 1) (.slice Ab qc.length cb) (.slice Ab2 qs.length cb2) qc qs := by have := (hpb.k0 kb); simpa using this
  have s24 : w2.heap.size + 1 ≤ w4.heap.size := by have := hk4.size; simpa using this
  have s46 : w4.heap.size + 1 ≤ w6.heap.size := by have := hk6.size; simpa using this
  have s67 : w6.heap.size + 1 = W7.heap.size := by rw [hW7]; simp
  have hpaS : ∀ r ∈ rowsOf pc ps, ∀ g, r.1.ownBlock = some g → w2.heap.size + 1 ≤ g ∧ g < w4.heap.size := by
    intro r hr g hg
    obtain ⟨xs, ho⟩ := hpa.rows r hr
    have := ho.lt g hg
    simpa using this
  have s02 := (hk1.trans hk2).size
  have HW := Lib.hid hW7
  clear hW7 zw za hm hpa hpb kw ka kb hk1 hk2 hk4 hk6 kA7 kW7
  have DA : Hid (∀ W, K0 W7 W → DescV W W.heap.size (.agg #[.slice Aa pc.length ca, .slice Aa2 ps.length ca2]) d) := Lib.hid (fun W hk => (ha7.k0 hk).descV hca hsa hf)
  have DB : Hid (∀ W, K0 W7 W → DescV W W.heap.size (.agg #[.slice Ab qc.length cb, .slice Ab2 qs.length cb2]) d) := Lib.hid (fun W hk => (hb7.k0 hk).descV hcb hsb hf)
  have DW : Hid (∀ W, K0 W7 W → DescV W W.heap.size (.agg #[.slice A n c, .slice A2 n2 c2]) d) := Lib.hid (fun W hk => hw7.keep (by have := hk.size; omega) (fun p hp => hk.cell (by omega) (fun h => h)))
  have cA0 := za7.cell 0
  have cA1 := za7.cell 1
  have cB0 := zb.cell 0
  have cB1 := zb.cell 1
  have cW0 := zw7.cell 0
  have cW1 := zw7.cell 1
  have lA := za7.lt
  have lB := zb.lt
  have lW := zw7.lt
  simp at cA0 cA1 cB0 cB1 cW0 cW1
  go_upto_region 6 with (fail)
  rw [← HW.out]
  go_wp2_with fail
  refine (SM.out _ _ _ (DA.out _ (Kp.refl _ _)) (DW.out _ (Kp.refl _ _))).mono ?_
  rintro e w8 ⟨rfl, hk8⟩
  clear cA0 cA1 cB0 cB1 cW0 cW1
  have zb8 := zb.kp hk8 (fun h => h)
  have zw8 := zw7.kp hk8 (fun h => h)
  have cB0 := zb8.cell 0
  have cB1 := zb8.cell 1
  have cW0 := zw8.cell 0
  have cW1 := zw8.cell 1
  have lB8 := zb8.lt
  have lW8 := zw8.lt
  simp at cB0 cB1 cW0 cW1
  go_wp2_with fail
  refine (SM.out _ _ _ (DB.out _ hk8) (DW.out _ hk8)).mono ?_
  rintro e w9 ⟨rfl, hk9⟩
  have k79 := hk8.trans hk9
  clear hk8 hk9 cB0 cB1 cW0 cW1 lB8 lW8 lA lB lW zb8 zw8 DA DB DW HW
  have za9 := za7.kp k79 (fun h => h)
  have zb9 := zb.kp k79 (fun h => h)
  have zw9 := zw7.kp k79 (fun h => h)
  have ha9 := ha7.k0 k79
  have hb9 := hb7.k0 k79
  have hw9 : DescV w9 w2.heap.size (.agg #[.slice A n c, .slice A2 n2 c2]) d := hw7.keep (Nat.le_refl _) (fun p hp => k79.cell (by omega) (fun h => h))
  have hk09 := hk07.trans k79
  have s79 := k79.size
  have s07 := hk07.size
  clear za7 zb zw7 ha7 hb7 hw7 hk07 k79
  obtain ⟨hrl, hpl, hsl⟩ := PD.rows_len hf hca hsa
  have HF := Lib.hid (And.intro hf (And.intro hca hsa))
  have HFb := Lib.hid (And.intro hcb hsb)
  have HRL := Lib.hid hrl
  clear hf hca hsa hcb hsb hrl
  -- the lists of the classes
  have HOC := Lib.hid ha9.oc
  have HOS := Lib.hid ha9.os
  have HZA := Lib.hid za9
  have HCI : Hid (∀ x ∈ pc, ∃ A n c, x.2 = .slice A n c) := Lib.hid (fun x hx => by obtain ⟨A, c, e, _, _⟩ := own_form (ha9.ci x hx).1.1; exact ⟨A, _, c, e⟩)
  have HSI : Hid (∀ x ∈ ps, ∃ A n c, x.2 = .slice A n c) := Lib.hid (fun x hx => by obtain ⟨A, c, e, _, _⟩ := own_form (ha9.si x hx).1.1; exact ⟨A, _, c, e⟩)
  have cA0 := za9.cell 0
  have lA := za9.lt
  simp at cA0
  clear za9
  go_wp2
  go_loopw [12, 58] (fun lv i wr => ∃ q : Nat, q ≤ pc.length ∧ i = .int .i64 (q : Int) ∧ wr.ownsRow w9.heap.size 69 1 lv q ((pc.take q).map Prod.snd) ∧ K0 w9 wr) (fun lv i wr => pc.length - (intOf i).toNat)
  case atStart => exact ⟨0, by omega, rfl, World.ownsRow_nil _ _ _ _, Kp.refl _ _⟩
  clear cA0 lA
  case round =>
    obtain ⟨q, hq, rfl, ho, hk⟩ := hrel
    have zar := HZA.out.kp hk (fun h => h)
    have cA0 := zar.cell 0
    have cA1 := zar.cell 1
    have lA := zar.lt
    simp at cA0 cA1
    obtain ⟨Av, cv, rfl, _, _⟩ := own_form ho
    by_cases hlt : q < pc.length
    · obtain ⟨ad, rfl, hbl, x0, x1, x2⟩ := ((Reads.of_own HOC.out).k0 (Nat.le_refl _) hk).tri hlt
      have ht := take_snd pc hlt
      obtain ⟨A5, n5, c5, hxv⟩ := HCI.out _ (List.getElem_mem hlt)
      generalize pc[q] = x at x0 x1 x2 ht hxv
      obtain ⟨xc, xv⟩ := x
      simp only [] at hxv
      subst hxv
      have HT := Lib.hid ht
      clear ht
      simp only [ctri] at x0 x1 x2
      have hsz := hk.size
      go_wp2_with (at_builtin; refine wpList_append_old _ rfl (.tmp 61) (.tmp 68) _ rfl w9.heap.size 69 i1 _ 1 24 Tryd.underlying68 hj hy0 hy1 hy2 rfl (by omega) (.slice Av q cv) q ((pc.take q).map Prod.snd) rfl (by exact ho.alloc _) (wr.heap.size + 1) (some ⟨wr.heap.size, 0, none⟩) 1 1 [.slice A5 n5 c5] rfl (by have := reads_lit wr #[.slice A5 n5 c5] 1 69 rfl; simpa using this) (by simp [Value.oneCell']) (by simp only [maxLen]; omega) (by omega) (by simp; omega) ?_; intro v2 w2' ho2 hg2 hat2 hold2)
      refine ⟨⟨q + 1, by omega, by go_num, ?_, ?_⟩, by simp [intOf]; omega⟩
      · rw [HT.out]
        exact ho2
      · exact (hk.alloc _).grown hg2 (fun b hb => .inl (ho.lt b hb).1)
    · obtain rfl : q = pc.length := by omega
      rw [List.take_length] at ho
      go_wp2
      -- the lists of the shapes
      obtain ⟨wm, hwm⟩ : ∃ wm, wm = wr := ⟨_, rfl⟩
      rw [← hwm] at ho hk zar cA0 cA1 lA ⊢
      clear hwm
      have HZM := Lib.hid zar
      clear zar cA0 cA1 lA
      go_loopw [12, 74] (fun lv i wr => ∃ q : Nat, q ≤ ps.length ∧ i = .int .i64 (q : Int) ∧ wr.ownsRow w9.heap.size 69 1 lv (pc.length + q) (pc.map Prod.snd ++ (ps.take q).map Prod.snd) ∧ K0 w9 wr) (fun lv i wr => ps.length - (intOf i).toNat)
      case atStart => exact ⟨0, by omega, rfl, by simpa using ho, hk⟩
      clear ho hk
      case round =>
        obtain ⟨q, hq, rfl, ho, hk⟩ := hrel
        have zar := HZA.out.kp hk (fun h => h)
        have cA0 := zar.cell 0
        have cA1 := zar.cell 1
        have lA := zar.lt
        simp at cA0 cA1
        obtain ⟨Av, cv, rfl, _, _⟩ := own_form ho
        by_cases hlt : q < ps.length
        · obtain ⟨ad, rfl, hbl, x0, x1, x2⟩ := ((Reads.of_own HOS.out).k0 (Nat.le_refl _) hk).tri hlt
          have ht := take_snd' ps hlt
          obtain ⟨A5, n5, c5, hxv⟩ := HSI.out _ (List.getElem_mem hlt)
          generalize ps[q] = x at x0 x1 x2 ht hxv
          obtain ⟨xc, xv⟩ := x
          simp only [] at hxv
          subst hxv
          have HT := Lib.hid ht
          clear ht
          simp only [stri] at x0 x1 x2
          have hsz := hk.size
          go_wp2_with (at_builtin; refine wpList_append_old _ rfl (.tmp 77) (.tmp 84) _ rfl w9.heap.size 69 i1 _ 1 24 Tryd.underlying68 hj hy0 hy1 hy2 rfl (by omega) (.slice Av (pc.length + q) cv) (pc.length + q) (pc.map Prod.snd ++ (ps.take q).map Prod.snd) rfl (by exact ho.alloc _) (wr.heap.size + 1) (some ⟨wr.heap.size, 0, none⟩) 1 1 [.slice A5 n5 c5] rfl (by have := reads_lit wr #[.slice A5 n5 c5] 1 69 rfl; simpa using this) (by simp [Value.oneCell']) (by simp only [maxLen]; omega) (by omega) (by simp; omega) ?_; intro v2 w2' ho2 hg2 hat2 hold2)
          refine ⟨⟨q + 1, by omega, by go_num, ?_, ?_⟩, by simp [intOf]; omega⟩
          · rw [HT.out, ← List.append_assoc, ← Nat.add_assoc]
            exact ho2
          · exact (hk.alloc _).grown hg2 (fun b hb => .inl (ho.lt b hb).1)
        · obtain rfl : q = ps.length := by omega
          rw [List.take_length, ← rowsOf_fst] at ho
          obtain ⟨N, hNe⟩ : ∃ N, N = pc.length + ps.length := ⟨_, rfl⟩
          rw [← hNe] at ho ⊢
          have HNe := Lib.hid hNe
          clear hNe
          go_wp2
          obtain ⟨W0, hW0⟩ : ∃ W0, W0 = wr := ⟨_, rfl⟩
          rw [← hW0] at ho hk ⊢
          clear hW0 zar cA0 cA1 lA HZA HZM HCI HSI HOC HOS hq hlt
          have hr0 : ∀ r ∈ rowsOf pc ps, ∃ xs, W0.ownsRow 0 47 4 r.1 r.2 xs := fun r hr => by
            obtain ⟨xs, h⟩ := ha9.rows r hr
            exact ⟨xs, own_mono (own_far h hk (fun _ _ h => h)) (Nat.zero_le _)⟩
          have hap0 := ha9.rows_ap
          have HF2 := HF.out
          have hNe : N = (rowsOf pc ps).length := by rw [rowsOf_len]; exact HNe.out
          have hN : N ≤ 64 := by have := HNe.out; omega
          clear HNe
          have hrl := HRL.out
          clear HF2 HRL ha9 hpl hsl
          generalize rowsOf pc ps = rs at *
          obtain ⟨vs, hvs⟩ : ∃ vs : Nat → Value, vs = fun i => (rs.getD i (.bool true, 0)).1 := ⟨_, rfl⟩
          obtain ⟨ns, hns⟩ : ∃ ns : Nat → Nat, ns = fun i => (rs.getD i (.bool true, 0)).2 := ⟨_, rfl⟩
          have hcs : ∀ i, i < N → (rs.map Prod.fst)[i]? = some (vs i) := fun i hi => by
            rw [hvs, List.getElem?_map, List.getElem?_eq_getElem (by omega)]
            simp only [rows_get (rs := rs) (i := i) (by omega)]
            rfl
          have hn : ∀ i, i < N → ns i ≤ 32 := fun i hi => by rw [hns]; simp only [rows_get (rs := rs) (i := i) (by omega)]; exact hrl _ (List.getElem_mem _)
          have hr : ∀ i, i < N → ∃ xs, W0.ownsRow 0 47 4 (vs i) (ns i) xs := fun i hi => by rw [hvs, hns]; simp only [rows_get (rs := rs) (i := i) (by omega)]; exact hr0 _ (List.getElem_mem _)
          have hSb : ∀ i, i < N → ∀ b, (vs i).ownBlock = some b → w2.heap.size + 1 ≤ b ∧ b < w4.heap.size := fun i hi b => by rw [hvs]; simp only [rows_get (rs := rs) (i := i) (by omega)]; exact hpaS _ (List.getElem_mem _) b
          have hap : ∀ i j b, i < N → j < N → i ≠ j → (vs i).ownBlock = some b → (vs j).ownBlock ≠ some b := fun i j b hi hj hne => by
            rw [hvs]
            simp only [rows_get (rs := rs) (i := i) (by omega), rows_get (rs := rs) (i := j) (by omega)]
            rw [List.pairwise_iff_getElem] at hap0
            rcases Nat.lt_or_ge i j with hl | hl
            · exact hap0 i j (by omega) (by omega) hl b
            · intro h1 h2
              exact hap0 j i (by omega) (by omega) (by omega) b h2 h1
          have s90 := hk.size
          have hLs : ∀ b, (Value.slice Av N cv).ownBlock = some b → w9.heap.size ≤ b ∧ b < W0.heap.size := ho.lt
          have hLS : ∀ g, (Value.slice Av N cv).ownBlock = some g → ¬ ∃ i, i < N ∧ (vs i).ownBlock = some g := fun g hg => by
            obtain ⟨cs, hb⟩ := own_blk ho g hg
            exact S_ne hr hb (by decide)
          have HL := Lib.hid ho
          have HCS := Lib.hid hcs
          clear hr0 hap0 hrl hpaS hvs hns hNe ho hcs
          go_loopw [89] (fun i wr => ∃ K : Nat, K ≤ N ∧ i = .int .i64 (K : Int) ∧ Kp (fun b => ∃ i, i < N ∧ (vs i).ownBlock = some b) W0 wr ∧ (∀ i, i < K → RowM wr (vs i) (ns i) i) ∧ (∀ i, K ≤ i → i < N → ∃ xs, wr.ownsRow 0 47 4 (vs i) (ns i) xs)) (fun i wr => N - (intOf i).toNat)
          case atStart => exact ⟨0, Nat.zero_le _, rfl, Kp.refl _ _, fun i hi => absurd hi (by omega), fun i _ hi => hr i hi⟩
          case round =>
            obtain ⟨K, hK, rfl, hkr, hdone, hrest⟩ := hrel
            by_cases hlt : K < N
            · obtain ⟨ad, u, rfl, _, hu, hcu⟩ := (Reads.of_own (own_far HL.out hkr hLS)).at_ hlt
              rw [HCS.out K hlt] at hu
              cases hu
              obtain ⟨xs0, ho0⟩ := hrest K (Nat.le_refl _) hlt
              obtain ⟨Ak, ck, hv, _, _⟩ := own_form ho0
              rw [hv] at hcu ho0
              have hnK := hn K hlt
              go_wp2
              go_loopw [96] (fun i wq => ∃ j : Nat, j ≤ ns K ∧ i = .int .i64 (j : Int) ∧ Kp (fun b => (Value.slice Ak (ns K) ck).ownBlock = some b) wr wq ∧ ∃ xs, wq.ownsRow 0 47 4 (.slice Ak (ns K) ck) (ns K) xs ∧ ∀ i, i < j → xs[i * 4 + 3]? = some (.int .i64 (-(K : Int) - 5))) (fun i wq => ns K - (intOf i).toNat)
              case atStart => exact ⟨0, Nat.zero_le _, rfl, Kp.refl _ _, xs0, ho0, fun i hi => absurd hi (by omega)⟩
              case round =>
                obtain ⟨j, hj, rfl, hkq, xs, hoq, hx⟩ := hrel
                by_cases hlj : j < ns K
                · obtain ⟨gA, cA', hA, _, hgA⟩ := hoq.form (by omega)
                  cases hA
                  have hxl : xs.length = ns K * 4 := hoq.1
                  have hat := hoq.cellAt (j * 4 + 3) (by omega)
                  have hfr := hoq.frozenAt (j * 4 + 3)
                  rw [List.getElem?_eq_getElem (by omega)] at hat
                  go_wp2
                  have hst := hoq.stored (j * 4 + 3) (.int .i64 (-(K : Int) - 5))
                  refine ⟨⟨j + 1, by omega, by go_num, hkq.grown hst.2 (fun b hb => .inr (by rw [← hb]; rfl)), _, hst.1, fun i hi' => ?_⟩, by simp [intOf]; omega⟩
                  rw [set_get (by omega)]
                  split
                  · rfl
                  · exact hx i (by omega)
                · obtain rfl : j = ns K := by omega
                  go_wp2
                  have hKb : ∀ i, i < N → i ≠ K → ∀ b, (vs i).ownBlock = some b → ¬ (Value.slice Ak (ns K) ck).ownBlock = some b := fun i hi' hne b hb h => hap i K b hi' hlt hne hb (by rw [hv]; exact h)
                  refine ⟨⟨K + 1, by omega, by go_num, ?_, fun i hi' => ?_, fun i h1 h2 => ?_⟩, by simp [intOf]; omega⟩
                  · exact hkr.trans (hkq.mono fun b hb => ⟨K, hlt, by rw [hv]; exact hb⟩)
                  · by_cases hiK : i = K
                    · subst hiK
                      show RowM _ (vs i) (ns i) i
                      rw [hv]
                      exact ⟨xs, hoq, hx⟩
                    · exact (hdone i (by omega)).far hkq (hKb i (by omega) hiK)
                  · obtain ⟨xs', ho'⟩ := hrest i (by omega) h2
                    exact ⟨xs', own_far ho' hkq (hKb i h2 (by omega))⟩
            · obtain rfl : N = K := by omega
              clear hrest hlt
              go_wp2
              go_loopw [18, 110] (fun gv i wr => ∃ K : Nat, K ≤ N ∧ i = .int .i64 (K : Int) ∧ Kp (fun b => ∃ i, i < N ∧ (vs i).ownBlock = some b) W0 wr ∧ (∀ i, i < N → RowM wr (vs i) (ns i) i) ∧ ∃ gs : Nat → Value, wr.ownsRow W0.heap.size 69 1 gv K ((List.range K).map gs) ∧
                  ∀ i, i < K → RowG' wr (gs i) (ns i) 20 i ∧ ((gs i).ownBlock = (vs i).ownBlock ∨ ∃ b, (gs i).ownBlock = some b ∧ W0.heap.size ≤ b))
                (fun gv i wr => N - (intOf i).toNat)
              case atStart => exact ⟨0, Nat.zero_le _, rfl, hkr, hdone, fun _ => .bool true, World.ownsRow_nil _ _ _ _, fun i hi => absurd hi (by omega)⟩
              clear hkr hdone
              case round =>
                obtain ⟨K, hK, rfl, hkr, hdone, gs, hgv, hgs⟩ := hrel
                obtain ⟨wo, rfl⟩ : ∃ wo : World, wo = wr := ⟨_, rfl⟩
                obtain ⟨Agv, cgv, rfl, _, _⟩ := own_form hgv
                by_cases hlt : K < N
                · obtain ⟨ad, u, rfl, _, hu, hcu⟩ := (Reads.of_own (own_far HL.out hkr hLS)).at_ hlt
                  rw [HCS.out K hlt] at hu
                  cases hu
                  obtain ⟨xs, ho0, hx0⟩ := hdone K hlt
                  obtain ⟨Ak, ck, hv, _, _⟩ := own_form ho0
                  have hxl : xs.length = ns K * 4 := ho0.1
                  have hnK := hn K hlt
                  rw [hv] at hcu
                  go_wp2
                  go_loopw [20, 21] (fun x i wr => ∃ (j : Nat) (ys : List Value), j ≤ 20 ∧ i = .int .i64 (j : Int) ∧ Kp (fun b => (vs K).ownBlock = some b) wo wr ∧ wr.ownsRow 0 47 4 x (ns K + j) (xs ++ ys) ∧ (∀ i, i < j → ys[i * 4 + 3]? = some (.int .i64 ((K : Int) + 1))) ∧
                      wr.ownsRow 0 47 4 (vs K) (ns K) xs ∧ (x.ownBlock = (vs K).ownBlock ∨ ∃ b, x.ownBlock = some b ∧ wo.heap.size ≤ b))
                    (fun x i wr => 20 - (intOf i).toNat)
                  case atStart => exact ⟨0, [], by omega, rfl, Kp.refl _ _, by rw [← hv]; simpa using ho0, fun i hi => absurd hi (by omega), ho0, .inl (by rw [hv])⟩
                  case round =>
                    obtain ⟨j, ys, hjj, rfl, hkq, hox, hys, hov, hxb⟩ := hrel
                    obtain ⟨Ax, cx, rfl, _, _⟩ := own_form hox
                    have hyl : ys.length = j * 4 := by have := hox.1; rw [List.length_append, hxl] at this; omega
                    by_cases hlj : j < 20
                    · go_wp2_with (at_builtin; refine wpList_append_old _ rfl (.tmp 119) (.tmp 123) _ rfl 0 47 i0 _ 4 40 Tryd.underlying69 hi hz0 hz1 hz2 rfl (by omega) (.slice Ax (ns K + j) cx) (ns K + j) (xs ++ ys) rfl (by exact hox.alloc _) (wr.heap.size + 1) (some ⟨wr.heap.size, 0, none⟩) 1 1 [.string ⟨#[]⟩, .int .i64 0, .int .i64 0, .int .i64 ((K : Int) + 1)] rfl (by have := reads_new wr 47 #[.string ⟨#[]⟩, .int .i64 0, .int .i64 0, .int .i64 ((K : Int) + 1)] 1 4 rfl; simpa using this) (by simp [Value.oneCell']) (by simp only [maxLen]; omega) (by omega) (by omega) ?_; intro v2 w2' ho2 hg2 hat2 hold2)
                      have hk2 : Kp (fun b => (vs K).ownBlock = some b) wo w2' := (hkq.alloc _).grown hg2 (fun b hb => by
                        rcases hxb with h | ⟨b', h, hb'⟩
                        · exact .inr (by rw [← h]; exact hb)
                        · rw [h] at hb; cases hb; exact .inl hb')
                      refine ⟨⟨j + 1, ys ++ [.string ⟨#[]⟩, .int .i64 0, .int .i64 0, .int .i64 ((K : Int) + 1)], by omega, by go_num, hk2, ?_, fun i hi' => ?_, ?_, ?_⟩, by simp [intOf]; omega⟩
                      · rw [← List.append_assoc, ← Nat.add_assoc]
                        exact ho2
                      · by_cases hij : i < j
                        · rw [List.getElem?_append_left (by omega)]
                          exact hys i hij
                        · obtain rfl : i = j := by omega
                          rw [List.getElem?_append_right (by omega), hyl, show i * 4 + 3 - i * 4 = 3 by omega]
                          rfl
                      · rcases hxb with h | ⟨b', h, hb'⟩
                        · exact own_prefixN hov hox h hold2
                        · exact own_far (hov.alloc _) ((Kp.refl (fun b => (Value.slice Ax (ns K + j) cx).ownBlock = some b) _).grown hg2 (fun b hb => .inr hb)) (fun b hb hb2 => by
                            have := (ho0.lt b hb).2
                            rw [h] at hb2; cases hb2; omega)
                      · rcases hat2 with h | h
                        · rw [h]; exact hxb
                        · exact .inr ⟨_, h, by simp only [World.size_alloc]; have := hkq.size; omega⟩
                    · obtain rfl : j = 20 := by omega
                      have hkm : Kp (fun b => ∃ i, i < N ∧ (vs i).ownBlock = some b) W0 wr := hkr.trans (hkq.mono fun b hb => ⟨K, hlt, hb⟩)
                      have hgvb : ∀ b, (Value.slice Agv K cgv).ownBlock = some b → W0.heap.size ≤ b ∧ ∃ cs, Blk wr b 69 cs := by
                        intro b hb
                        obtain ⟨cs', hb'⟩ := own_blk hgv b hb
                        refine ⟨(hgv.lt b hb).1, cs', hb'.kp hkq ?_⟩
                        intro h
                        obtain ⟨cs2, hb2⟩ := own_blk ho0 b h
                        exact hb2.ne_ hb' (by decide) rfl
                      have hgv' : wr.ownsRow W0.heap.size 69 1 (Value.slice Agv K cgv) K ((List.range K).map gs) := own_far hgv hkq (fun b hb h => by
                        obtain ⟨cs1, hb1⟩ := own_blk hgv b hb
                        obtain ⟨cs2, hb2⟩ := own_blk ho0 b h
                        exact hb2.ne_ hb1 (by decide) rfl)
                      go_wp2_with (at_builtin; refine wpList_append_old _ rfl (.tmp 125) (.tmp 127) _ rfl W0.heap.size 69 i1 _ 1 24 Tryd.underlying68 hj hy0 hy1 hy2 rfl (by omega) (Value.slice Agv K cgv) K ((List.range K).map gs) rfl (by exact hgv'.alloc _) (wr.heap.size + 1) (some ⟨wr.heap.size, 0, none⟩) 1 1 [.slice Ax (ns K + 20) cx] rfl (by have := reads_lit wr #[.slice Ax (ns K + 20) cx] 1 69 rfl; simpa using this) (by simp [Value.oneCell']) (by simp only [maxLen]; omega) (by omega) (by simp only [World.size_alloc]; have := hkm.size; omega) ?_; intro v2 w2' ho2 hg2 hat2 hold2)
                      have hk2 : Kp (fun b => (Value.slice Agv K cgv).ownBlock = some b) wr w2' := ((Kp.refl _ _).alloc _).grown hg2 (fun b hb => .inr hb)
                      have h5 : ∀ {b0 n : Nat} {v : Value} {xs : List Value}, wr.ownsRow b0 47 4 v n xs → ∀ b, v.ownBlock = some b → ¬ (Value.slice Agv K cgv).ownBlock = some b := fun ho b hb h => by
                        obtain ⟨_, cs1, hb1⟩ := hgvb b h
                        obtain ⟨cs2, hb2⟩ := own_blk ho b hb
                        exact hb2.ne_ hb1 (by decide) rfl
                      have hKb : ∀ i, i < N → i ≠ K → ∀ b, (vs i).ownBlock = some b → ¬ (vs K).ownBlock = some b := fun i hi' hne b hb h => hap i K b hi' hlt hne hb h
                      have hvK : ∀ b, (vs K).ownBlock = some b → b < W0.heap.size := fun b hb => by
                        have := hSb K hlt b hb
                        omega
                      refine ⟨⟨K + 1, by omega, by go_num, ?_, fun i hi' => ?_, fun i => if i = K then .slice Ax (ns K + 20) cx else gs i, ?_, fun i hi' => ?_⟩, by simp [intOf]; omega⟩
                      · exact (hkm.alloc _).grown hg2 (fun b hb => .inl (hgvb b hb).1)
                      · by_cases hiK : i = K
                        · subst hiK
                          exact ⟨xs, own_far hov hk2 (h5 hov), hx0⟩
                        · obtain ⟨xs', h1, h2⟩ := (hdone i hi').far hkq (hKb i hi' hiK)
                          exact ⟨xs', own_far h1 hk2 (h5 h1), h2⟩
                      · have hm : (List.range (K + 1)).map (fun i => if i = K then .slice Ax (ns K + 20) cx else gs i) = (List.range K).map gs ++ [.slice Ax (ns K + 20) cx] := by
                          rw [List.range_succ, List.map_append]
                          congr 1
                          · apply List.map_congr_left
                            intro i hi'
                            rw [List.mem_range] at hi'
                            rw [if_neg (by omega)]
                          · simp
                        rw [hm]
                        exact ho2
                      · by_cases hiK : i = K
                        · subst hiK
                          simp only [if_true]
                          refine ⟨⟨xs, ys, own_far hox hk2 (h5 hox), hxl, hx0, hys⟩, ?_⟩
                          rcases hxb with h | ⟨b, h, hb⟩
                          · exact .inl h
                          · exact .inr ⟨b, h, by have := hkr.size; omega⟩
                        · simp only [if_neg hiK]
                          obtain ⟨hG, hb⟩ := hgs i (by omega)
                          have hG2 := hG.far hkq (fun b hb1 hb2 => by
                            rcases hb with h | ⟨b', h, hb'⟩
                            · exact hKb i (by omega) hiK b (by rw [← h]; exact hb1) hb2
                            · rw [h] at hb1; cases hb1
                              have := hvK _ hb2
                              omega)
                          obtain ⟨xs', ys', g1, g2⟩ := hG2
                          exact ⟨⟨xs', ys', own_far g1 hk2 (h5 g1), g2⟩, hb⟩
                · obtain rfl : N = K := by omega
                  have hrg := Reads.of_own hgv
                  have HL2 := Lib.hid (Reads.of_own (own_far HL.out hkr hLS))
                  clear hlt hap hK HL hr
                  go_wp2
                  go_loop [132] (fun i => ∃ K : Nat, K ≤ N ∧ i = .int .i64 (K : Int)) (fun i => N - (intOf i).toNat)
                  case atStart => exact ⟨0, Nat.zero_le _, rfl⟩
                  case round =>
                    obtain ⟨K, hK, rfl⟩ := hrel
                    by_cases hlt : K < N
                    · obtain ⟨ad, u, rfl, _, hu, hcu⟩ := hrg.at_ hlt
                      rw [List.getElem?_map, List.getElem?_range hlt] at hu
                      cases hu
                      obtain ⟨⟨xs, ys, hG, hxl, hx, hy⟩, _⟩ := hgs K hlt
                      obtain ⟨gK, cK, hgK, _, _⟩ := hG.form (by omega)
                      rw [hgK] at hG hcu
                      obtain ⟨ad3, u3, hL3, _, hu3, hcl⟩ := HL2.out.at_ hlt
                      rw [HCS.out K hlt] at hu3
                      cases hu3
                      obtain ⟨xs3, ho, hx3⟩ := hdone K hlt
                      obtain ⟨Ak, ck, hv, _, _⟩ := own_form ho
                      rw [hv] at ho hcl
                      have hnK := hn K hlt
                      subst hL3
                      generalize ns K = n at *
                      have hyl : ys.length = 20 * 4 := by have := hG.1; rw [List.length_append, hxl] at this; omega
                      go_wp2
                      go_loop [139] (fun i => ∃ j : Nat, j ≤ n + 20 ∧ i = .int .i64 (j : Int)) (fun i => n + 20 - (intOf i).toNat)
                      case atStart => exact ⟨0, Nat.zero_le _, rfl⟩
                      case round =>
                        obtain ⟨j, hjj, rfl⟩ := hrel
                        by_cases hlj : j < n + 20
                        · have hat := hG.cellAt (j * 4 + 3) (by omega)
                          by_cases hjn : j < n
                          · obtain ⟨g3, c3, hv3, _, _⟩ := ho.form (by omega)
                            cases hv3
                            have hat2 := ho.cellAt (j * 4 + 3) (by omega)
                            rw [List.getElem?_append_left (by omega), hx j hjn] at hat
                            rw [hx3 j hjn] at hat2
                            go_wp2
                            exact ⟨⟨j + 1, by omega, by go_num⟩, by simp [intOf]; omega⟩
                          · rw [List.getElem?_append_right (by omega), hxl, show j * 4 + 3 - n * 4 = (j - n) * 4 + 3 by omega, hy (j - n) (by omega)] at hat
                            go_wp2
                            exact ⟨⟨j + 1, by omega, by go_num⟩, by simp [intOf]; omega⟩
                        · obtain rfl : j = n + 20 := by omega
                          go_wp2
                          exact ⟨⟨K + 1, by omega, by go_num⟩, by simp [intOf]; omega⟩
                    · obtain rfl : N = K := by omega
                      clear hrg HL2 hlt hgs hdone hn HCS
                      have k9 : Kp (fun b => w2.heap.size + 1 ≤ b ∧ b < w4.heap.size) w9 wo := (K0.kp hk).trans' hkr (fun b _ h => by obtain ⟨i, hi, h⟩ := h; exact hSb i hi b h)
                      have z1 := zb9.kp k9 (fun h => by omega)
                      have z2 := zw9.kp k9 (fun h => by omega)
                      have hb' := (hb9.kb k9 (fun g hg h => by omega)).descV HFb.out.1 HFb.out.2 HF.out.1
                      have hw' : DescV wo wo.heap.size (.agg #[.slice A n c, .slice A2 n2 c2]) d := hw9.keep (by have := k9.size; omega) (fun p hp => k9.cell (by omega) (fun h => by omega))
                      have cB0 := z1.cell 0
                      have cB1 := z1.cell 1
                      have cW0 := z2.cell 0
                      have cW1 := z2.cell 1
                      have lB := z1.lt
                      have lW := z2.lt
                      simp at cB0 cB1 cW0 cW1
                      have HB := Lib.hid hb'
                      have HW := Lib.hid hw'
                      have K9 := Lib.hid (hk09.trans' k9 (fun i hi h => by omega))
                      clear hb' hw' z1 z2 k9 hb9 hw9 zb9 zw9 hkr hk hk09 HF HFb
                      go_wp2_with fail
                      refine (SM.out _ _ _ HB.out HW.out).mono ?_
                      rintro e w10 ⟨rfl, hk10⟩
                      go_wp2
                      go_ret
                      exact ⟨rfl, (K9.out.trans hk10).below⟩
end Go.Proofs.YtobofhiakgohfaaDoor
