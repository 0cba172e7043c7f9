/- SchemeOwns. -/
import Derived.Test.YtobofhiakgohfaaGreatDoorS37
import Derived.Test.YtobofhiakgohfaaGreatDoorSI
import Derived.Test.YtobofhiakgohfaaGreatDoorS40
set_option linter.unusedVariables false
set_option linter.unusedSimpArgs false
namespace Go.Proofs.YtobofhiakgohfaaGreatDoor
open Go.RowKit Go.Maps Go.WideMaps

theorem idx35_0 (a b : Value) (W : World) : (Instr.index 35 (.agg #[a, b]) (.int .i64 0)).run Tryz.prog W = .ok (.agg #[a]) W := by kernel_rfl
theorem idx35_1 (a b : Value) (W : World) : (Instr.index 35 (.agg #[a, b]) (.int .i64 1)).run Tryz.prog W = .ok (.agg #[b]) W := by kernel_rfl
/-- The rows of pieces of a scheme, with how long they are. -/
def RWS (o : List ShpX) : List (Value × Nat) := o.flatMap fun x => x.ps.map fun y => (y.2, y.1.length)
theorem rws_take (o : List ShpX) {q : Nat} (h : q < o.length) : RWS (o.take (q + 1)) = RWS (o.take q) ++ o[q].ps.map fun y => (y.2, y.1.length) := by
  unfold RWS
  rw [List.take_succ_eq_append_getElem h, List.flatMap_append]
  simp
/-- Small schemes. -/
def SmallS (o : List ShpX) : Prop := ∀ x ∈ o, x.ps.length ≤ 8 ∧ ∀ y ∈ x.ps, y.1.length ≤ 256
theorem OutB.small {w : World} {base : Nat} {v : Value} {o : List ShpX} (h : OutB w base v o) : SmallS o := fun x hx => ⟨(h.shs x hx).2.1, fun y hy => ((h.shs x hx).1.prt y hy).2⟩
theorem small_like {o o' : List ShpX} (h : o'.map ShpX.d = o.map ShpX.d) (hs : SmallS o) : SmallS o' := by
  intro x hx
  have hm : x.d ∈ o.map ShpX.d := by rw [← h]; exact List.mem_map.2 ⟨x, hx, rfl⟩
  obtain ⟨y, hy, e⟩ := List.mem_map.1 hm
  have e1 : y.ps.map Prod.fst = x.ps.map Prod.fst := by unfold ShpX.d at e; injection e
  obtain ⟨s1, s2⟩ := hs y hy
  have l1 : y.ps.length = x.ps.length := by have := congrArg List.length e1; simpa using this
  refine ⟨by omega, fun z hz => ?_⟩
  have hz2 : z.1 ∈ y.ps.map Prod.fst := by rw [e1]; exact List.mem_map.2 ⟨z, hz, rfl⟩
  obtain ⟨u, hu, e2⟩ := List.mem_map.1 hz2
  rw [← e2]
  exact s2 u hu
theorem rws_len {o : List ShpX} (h : SmallS o) : (RWS o).length ≤ 8 * o.length := by
  induction o with
  | nil => simp [RWS]
  | cons a t ih =>
    have := ih (fun x hx => h x (by simp [hx]))
    have h1 := (h a (by simp)).1
    unfold RWS at this ⊢
    rw [List.flatMap_cons, List.length_append, List.length_map, List.length_cons]
    omega
theorem small_take {o : List ShpX} (h : SmallS o) (q : Nat) : SmallS (o.take q) := fun x hx => h x (List.mem_of_mem_take hx)
theorem rws_small {o : List ShpX} (h : SmallS o) : ∀ r ∈ RWS o, r.2 ≤ 1024 := by
  intro r hr
  obtain ⟨x, hx, hr⟩ := List.mem_flatMap.1 hr
  obtain ⟨y, hy, rfl⟩ := List.mem_map.1 hr
  have := (h x hx).2 y hy
  show y.1.length ≤ 1024
  omega
theorem OSL.rows {w : World} {base : Nat} {v : Value} {o : List ShpX} (h : OSL w base v o) : ∀ r ∈ RWS o, ∃ xs, w.ownsRow base 61 2 r.1 r.2 xs := by
  intro r hr
  obtain ⟨x, hx, hr⟩ := List.mem_flatMap.1 hr
  obtain ⟨y, hy, rfl⟩ := List.mem_map.1 hr
  exact ⟨_, ((h.shs x hx).1.prt y hy).1⟩
theorem OSL.rows_ap {w : World} {base : Nat} {v : Value} {o : List ShpX} (h : OSL w base v o) : (RWS o).Pairwise fun a b => ∀ k, a.1.ownBlock = some k → b.1.ownBlock ≠ some k := by
  have := h.aps
  have e : (o.flatMap fun x => x.ps.map fun y => y.2.ownBlock) = (RWS o).map fun r => r.1.ownBlock := by
    unfold RWS
    rw [List.map_flatMap]
    simp [Function.comp_def]
  rw [e, List.pairwise_map] at this
  exact this
theorem OSL.kb {S : Nat → Prop} {w w' : World} {base : Nat} {v : Value} {o : List ShpX} (h : OSL w base v o) (hk : Kp S w w') (hs : ∀ g, base ≤ g → ¬ S g) : OSL w' base v o :=
  ⟨own_kp h.row hk hs, fun x hx => ⟨⟨own_kp (h.shs x hx).1.row hk hs, fun y hy => ⟨own_kp ((h.shs x hx).1.prt y hy).1 hk hs, ((h.shs x hx).1.prt y hy).2⟩, (h.shs x hx).1.ap⟩, (h.shs x hx).2⟩, h.aps, h.app⟩
theorem OPL.one {w : World} {base : Nat} {v : Value} {ps : List PartX} (h : OPL w base v ps) : ∀ u ∈ ps.map Prod.snd, u.oneCell' = true := by
  intro u hu
  obtain ⟨y, hy, rfl⟩ := List.mem_map.1 hu
  obtain ⟨A, c, e, _, _⟩ := own_form (h.prt y hy).1
  rw [e]
  rfl
/-- OwnSpans, of a list of rows. -/
theorem ownSpans_list (w : World) (B0 : Nat) (Av : Option Addr) (cv : Nat) (rs : List (Value × Nat)) (hL : w.ownsRow B0 62 1 (.slice Av rs.length cv) rs.length (rs.map Prod.fst)) (hN : rs.length ≤ 1024)
    (hn : ∀ r ∈ rs, r.2 ≤ 1024) (hr : ∀ r ∈ rs, ∃ xs, w.ownsRow 0 61 2 r.1 r.2 xs) (hap : rs.Pairwise fun a b => ∀ k, a.1.ownBlock = some k → b.1.ownBlock ≠ some k) :
    Calls Tryz.prog 14 #[.slice Av rs.length cv] w fun e w' => e = .returned (.bool true) ∧ Kp (fun b => ∃ r, r ∈ rs ∧ r.1.ownBlock = some b) w w' := by
  have hget : ∀ i, (h : i < rs.length) → (rs.getD i (.bool true, 0)) = rs[i] := fun i h => by simp [List.getD_eq_getElem?_getD, h]
  refine (ownSpans_any w B0 Av rs.length cv _ (fun i => (rs.getD i (.bool true, 0)).1) (fun i => (rs.getD i (.bool true, 0)).2) hL (fun i h => ?_) hN (fun i h => ?_) (fun i h => ?_) (fun i j b hi hj hne => ?_)).mono ?_
  · rw [List.getElem?_map, List.getElem?_eq_getElem h]
    show _ = some (rs.getD i (.bool true, 0)).1
    rw [hget i h]
    rfl
  · show (rs.getD i (.bool true, 0)).2 ≤ 1024
    rw [hget i h]; exact hn _ (List.getElem_mem h)
  · show ∃ xs, w.ownsRow 0 61 2 (rs.getD i (.bool true, 0)).1 (rs.getD i (.bool true, 0)).2 xs
    rw [hget i h]; exact hr _ (List.getElem_mem h)
  · show (rs.getD i (.bool true, 0)).1.ownBlock = some b → (rs.getD j (.bool true, 0)).1.ownBlock ≠ some b
    rw [hget i hi, hget j hj]
    rw [List.pairwise_iff_getElem] at hap
    rcases Nat.lt_or_ge i j with hl | hl
    · exact hap i j hi hj hl b
    · intro h1 h2
      exact hap j i hj hi (by omega) b h2 h1
  · rintro e w' ⟨he, hk⟩
    refine ⟨he, hk.mono ?_⟩
    rintro b ⟨i, hi, hb⟩
    have hb : (rs.getD i (.bool true, 0)).1.ownBlock = some b := hb
    rw [hget i hi] at hb
    exact ⟨_, List.getElem_mem hi, hb⟩

set_option maxRecDepth 100000 in
set_option maxHeartbeats 64000000 in
theorem schemeOwns_any (w : World) (s : ByteArray) (hs : s.size ≤ 1048576) (hP : PowV w) :
    Calls Tryz.prog 4 #[.string s] w fun e w' => e = .returned (.bool true) ∧ K0 w w' := by
  have FX := Lib.hid (fixed_any w hP)
  have RA := Lib.hid (fun W (hk : K0 w W) => read_any W s hs (hP.k0 hk))
  have RR := Lib.hid (fun W => rread_any W s hs)
  obtain ⟨i1, hj, hy0, hy1, hy2⟩ := info_parts info62
  generalize readS s = R at RA RR
  obtain ⟨r1, r2, r3⟩ := R
  clear hP hs
  go_enter Tryz.func4, Tryz.ntmps4
  go_wp2_with fail
  refine FX.out.mono ?_
  rintro e w1 ⟨rfl, hk1⟩
  go_wp2_with fail
  refine (RR.out _).mono ?_
  rintro e w2 ⟨vo1, out1, h1, rfl, hO1, hl1, hk2⟩
  obtain ⟨A1, c1, rfl, _, _⟩ := own_form hO1.row
  have hV1 := hO1.shpsV (by omega)
  simp only [] at h1 ⊢
  obtain ⟨wa, hwa⟩ : ∃ wa, wa = w2.alloc (.cells #[.slice A1 out1.length c1] 25) := ⟨_, rfl⟩
  have ka : K0 w2 wa := by rw [hwa]; exact (Kp.refl _ _).alloc _
  have y3 : Blk wa w2.heap.size 25 #[.slice A1 out1.length c1] := by rw [hwa]; exact Blk.new _ _ _
  have kwa : K0 w wa := (hk1.trans hk2).trans ka
  have la := y3.lt
  clear hO1 hk1 hk2 FX
  go_wp2_with fail
  rw [← hwa]
  clear hwa
  refine (RA.out _ kwa).mono ?_
  rintro e w3 ⟨vo2, out2, h2, rfl, hO2', hl2, hk3⟩
  obtain ⟨A2, c2, rfl, _, _⟩ := own_form hO2'.row
  have hsm2 := hO2'.small
  have hO2 := hO2'.osl
  simp only [] at h2 ⊢
  obtain ⟨wb, hwb⟩ : ∃ wb, wb = w3.alloc (.cells #[.slice A2 out2.length c2] 25) := ⟨_, rfl⟩
  have kb : K0 w3 wb := by rw [hwb]; exact (Kp.refl _ _).alloc _
  have y6 : Blk wb w3.heap.size 25 #[.slice A2 out2.length c2] := by rw [hwb]; exact Blk.new _ _ _
  have lb := y6.lt
  have s3 := hk3.size
  have hV2 := (hO2.shpsV (by omega)).k0 (Nat.le_refl _) kb
  have CP := Lib.hid (copy13_any wb _ out2 hV2)
  clear hO2'
  go_wp2_with fail
  rw [← hwb]
  clear hwb
  refine CP.out.mono ?_
  rintro e w4 ⟨vo3, out3, rfl, h3, hO3, hk4⟩
  obtain ⟨A3, c3, rfl, _, _⟩ := own_form hO3.row
  have hsm3 := small_like h3 hsm2
  have hl3 : out3.length = out2.length := by have := congrArg List.length h3; simpa using this
  have hl3' : out3.length ≤ 32 := by omega
  simp only [] at ⊢
  obtain ⟨wc, hwc⟩ : ∃ wc, wc = w4.alloc (.cells #[.slice A3 out3.length c3] 25) := ⟨_, rfl⟩
  have kc : K0 w4 wc := by rw [hwc]; exact (Kp.refl _ _).alloc _
  have y9 : Blk wc w4.heap.size 25 #[.slice A3 out3.length c3] := by rw [hwc]; exact Blk.new _ _ _
  have lc := y9.lt
  have s4 := hk4.size
  have k34 : K0 w3 wc := (kb.trans hk4).trans kc
  have hV3 := (hO3.shpsV (by omega)).k0 (Nat.le_refl _) kc
  have hV2c := hV2.k0 (Nat.le_refl _) (hk4.trans kc)
  have SH2 : Hid (∀ W (hk : K0 wc W) q (hlt : q < out2.length), ∃ ad, A2 = some ad ∧ ad.block < wc.heap.size ∧ W.cell? (ad.add (q * 2)) = some out2[q].v ∧ W.cell? ⟨(ad.add (q * 2)).block, (ad.add (q * 2)).off + 1, none⟩ = some (.int .i64 out2[q].first) ∧ PartsV W W.heap.size out2[q].v out2[q].ps) := Lib.hid (by
    obtain ⟨A, c, e, _, _, _, hr, hp⟩ := hV2c
    injection e with e1 _ _
    subst e1
    exact fun W hk q hlt => shp_at hr hp (Nat.le_refl _) hk hlt)
  have SH3 : Hid (∀ W (hk : K0 wc W) q (hlt : q < out3.length), ∃ ad, A3 = some ad ∧ ad.block < wc.heap.size ∧ W.cell? (ad.add (q * 2)) = some out3[q].v ∧ W.cell? ⟨(ad.add (q * 2)).block, (ad.add (q * 2)).off + 1, none⟩ = some (.int .i64 out3[q].first) ∧ PartsV W W.heap.size out3[q].v out3[q].ps) := Lib.hid (by
    obtain ⟨A, c, e, _, _, _, hr, hp⟩ := hV3
    injection e with e1 _ _
    subst e1
    exact fun W hk q hlt => shp_at hr hp (Nat.le_refl _) hk hlt)
  have HO2 := Lib.hid hO2
  have HO3 := Lib.hid hO3
  have ON2 : Hid (∀ q (hlt : q < out2.length), ∀ u ∈ out2[q].ps.map Prod.snd, u.oneCell' = true) := Lib.hid (fun q hlt => ((HO2.out.shs _ (List.getElem_mem hlt)).1).one)
  have ON3 : Hid (∀ q (hlt : q < out3.length), ∀ u ∈ out3[q].ps.map Prod.snd, u.oneCell' = true) := Lib.hid (fun q hlt => ((HO3.out.shs _ (List.getElem_mem hlt)).1).one)
  have HSM2 := Lib.hid hsm2
  have HSM3 := Lib.hid hsm3
  have HL3 := Lib.hid hl3
  have HV1 := Lib.hid hV1
  have HH := Lib.hid (And.intro h1 (And.intro h2 h3))
  have y6c := y6.kp (hk4.trans kc) (fun h => h)
  have y3c := y3.kp (hk3.trans k34) (fun h => h)
  have kwc : K0 w wc := (kwa.trans hk3).trans k34
  have b0 := y6c.cell 0
  have b1 := y6c.lt
  have b2 := y9.cell 0
  have b3 := y9.lt
  simp at b0 b2
  rw [hwc] at b0 b1 b2 b3
  clear CP hV1 hV2 hV3 hV2c hO2 hO3 hsm2 hsm3 h1 h2 h3 hl3
  go_wp2
  rw [← hwc]
  rw [← hwc] at b0 b1 b2 b3
  clear b0 b1 b2 b3 hwc y6 y3
  have Y3 := Lib.hid y3c
  have Y6 := Lib.hid y6c
  have Y9 := Lib.hid y9
  clear y3c y6c y9
  go_loopw [10, 39] (fun lv i wr => ∃ (rs : List (Value × Nat)), ((i = .int .i64 0 ∧ rs = []) ∨ (i = .int .i64 1 ∧ rs = RWS out2) ∨ (i = .int .i64 2 ∧ rs = RWS out2 ++ RWS out3)) ∧ wr.ownsRow wc.heap.size 62 1 lv rs.length (rs.map Prod.fst) ∧ K0 wc wr) (fun lv i wr => 2 - (intOf i).toNat)
  case atStart => exact ⟨[], .inl ⟨rfl, rfl⟩, World.ownsRow_nil _ _ _ _, Kp.refl _ _⟩
  case round =>
    obtain ⟨wk, rfl⟩ : ∃ wk : World, wk = wr := ⟨_, rfl⟩
    obtain ⟨rs, hK, hL, hk⟩ := hrel
    obtain ⟨Al, cl, rfl, _, _⟩ := own_form hL
    rcases hK with ⟨rfl, rfl⟩ | ⟨rfl, rfl⟩ | ⟨rfl, rfl⟩
    · have hpre : ([] : List (Value × Nat)).length ≤ 256 := by simp
      generalize hpe : ([] : List (Value × Nat)) = pre at hL hpre ⊢
      have HPE := Lib.hid hpe
      clear hpe
      obtain ⟨wi, hwi⟩ : ∃ wi, wi = wk.alloc (.cells #[.slice A2 out2.length c2] 25) := ⟨_, rfl⟩
      have ki : K0 wk wi := by rw [hwi]; exact (Kp.refl _ _).alloc _
      have HWI := Lib.hid hwi
      clear hwi
      obtain ⟨n0, hn0⟩ : ∃ n0, n0 = pre.length := ⟨_, rfl⟩
      rw [← hn0] at hL ⊢
      have HN0 := Lib.hid hn0
      have hn0' : n0 ≤ 256 := by omega
      clear hn0 hpre
      have hix := idx35_0 (.slice A2 out2.length c2) (.slice A3 out3.length c3)
      go_wp2
      clear hix
      rw [← HWI.out]
      clear HWI
      have hLi := Lib.hid (own_kt hL ki (fun _ _ _ h => h))
      have kci := hk.trans ki
      have HLQ := Lib.hid (fun q => show (RWS (out2.take q)).length ≤ 256 from by have := rws_len (small_take HSM2.out q); have : (out2.take q).length ≤ out2.length := List.length_take_le' _ _; omega)
      clear hL
      go_loopw [10, 45] (fun lv i wr => ∃ (q n : Nat), q ≤ out2.length ∧ i = .int .i64 (q : Int) ∧ Hid (n = n0 + (RWS (out2.take q)).length) ∧ n ≤ 512 ∧ Hid (wr.ownsRow wc.heap.size 62 1 lv n ((pre ++ RWS (out2.take q)).map Prod.fst)) ∧ K0 wc wr) (fun lv i wr => out2.length - (intOf i).toNat)
      case atStart => exact ⟨0, n0, by omega, rfl, Lib.hid rfl, by omega, Lib.hid (by simpa [RWS] using hLi.out), kci⟩
      case round =>
        obtain ⟨q, n, hq, rfl, hn, hn5, hLq, kq⟩ := hrel
        obtain ⟨Aq, cq, rfl, _, _⟩ := own_form hLq.out
        have kcr := kq
        by_cases hlt : q < out2.length
        · obtain ⟨ad, rfl, hb, x0, x1, hpq⟩ := SH2.out wr kcr q hlt
          have hone := ON2.out q hlt
          have hrt := rws_take out2 hlt
          have hps := (HSM2.out _ (List.getElem_mem hlt)).1
          generalize out2[q] = x at x0 x1 hpq hone hrt hps
          obtain ⟨ps, pv, first⟩ := x
          simp only [] at x0 x1 hpq hone hrt hps
          obtain ⟨Ax, cx, rfl, _, _, _, hRx, _⟩ := hpq
          have HRT := Lib.hid hrt
          have ks : K0 wr (wr.alloc (.cells #[.slice Ax ps.length cx, .int .i64 first] 37)) := (Kp.refl _ _).alloc _
          have hown := Lib.hid (own_kt hLq.out ks (fun _ _ _ h => h))
          have scr := kcr.size
          have hm0 : (ad.add (q * 2)).block < wr.heap.size := by rw [add_blk]; exact Nat.lt_of_lt_of_le hb kcr.size
          clear hrt
          go_wp2_with (at_builtin; refine wpList_append_any _ rfl (.tmp 49) (.tmp 51) _ rfl wc.heap.size 62 i1 _ 1 24 Tryz.underlying34 hj hy0 hy1 hy2 rfl (by omega) (.slice Aq n cq) n ((pre ++ RWS (out2.take q)).map Prod.fst) rfl (by exact hown.out) wr.heap.size Ax ps.length cx (ps.map Prod.snd) rfl (by exact hRx.k0 (Nat.le_refl _) ks) hone (by simp only [maxLen]; omega) (by omega) (by simp only [World.size_alloc]; omega) ?_; intro v3 w3' ho3 hg3 hat3)
          refine ⟨⟨q + 1, n + ps.length, by omega, by go_num, Lib.hid ?_, ?_, Lib.hid ?_, (kq.alloc _).grown hg3 (fun b hb => .inl ?_)⟩, by simp [intOf]; omega⟩
          · rw [HRT.out, List.length_append, List.length_map, hn.out]; omega
          · have h9 := HLQ.out (q + 1); rw [HRT.out, List.length_append, List.length_map] at h9; have := hn.out; omega
          · rw [HRT.out, ← List.append_assoc, List.map_append]
            have e9 : (ps.map fun y => ((y.2, y.1.length) : Value × Nat)).map Prod.fst = ps.map Prod.snd := by simp [Function.comp_def]
            rw [e9]
            exact ho3
          · have := (hLq.out.lt b hb).1; omega
        · obtain rfl : q = out2.length := by omega
          have h9 := hLq.out
          rw [List.take_length] at h9
          have hn9 := hn.out
          rw [List.take_length] at hn9
          have e9 : n = (pre ++ RWS out2).length := by rw [List.length_append, hn9, HN0.out]
          rw [e9] at h9
          have H9 := Lib.hid h9
          have E9 := Lib.hid e9
          clear h9 hn9 e9
          go_wp2
          refine ⟨⟨pre ++ RWS out2, .inr (.inl ⟨by go_num, by rw [← HPE.out]; rfl⟩), by rw [E9.out]; exact H9.out, kq⟩, by simp [intOf]⟩
    · have hpre : (RWS out2 : List (Value × Nat)).length ≤ 256 := by have := rws_len HSM2.out; omega
      generalize hpe : (RWS out2 : List (Value × Nat)) = pre at hL hpre ⊢
      have HPE := Lib.hid hpe
      clear hpe
      obtain ⟨wi, hwi⟩ : ∃ wi, wi = wk.alloc (.cells #[.slice A3 out3.length c3] 25) := ⟨_, rfl⟩
      have ki : K0 wk wi := by rw [hwi]; exact (Kp.refl _ _).alloc _
      have HWI := Lib.hid hwi
      clear hwi
      obtain ⟨n0, hn0⟩ : ∃ n0, n0 = pre.length := ⟨_, rfl⟩
      rw [← hn0] at hL ⊢
      have HN0 := Lib.hid hn0
      have hn0' : n0 ≤ 256 := by omega
      clear hn0 hpre
      have hix := idx35_1 (.slice A2 out2.length c2) (.slice A3 out3.length c3)
      go_wp2
      clear hix
      rw [← HWI.out]
      clear HWI
      have hLi := Lib.hid (own_kt hL ki (fun _ _ _ h => h))
      have kci := hk.trans ki
      have HLQ := Lib.hid (fun q => show (RWS (out3.take q)).length ≤ 256 from by have := rws_len (small_take HSM3.out q); have : (out3.take q).length ≤ out3.length := List.length_take_le' _ _; omega)
      clear hL
      go_loopw [10, 45] (fun lv i wr => ∃ (q n : Nat), q ≤ out3.length ∧ i = .int .i64 (q : Int) ∧ Hid (n = n0 + (RWS (out3.take q)).length) ∧ n ≤ 512 ∧ Hid (wr.ownsRow wc.heap.size 62 1 lv n ((pre ++ RWS (out3.take q)).map Prod.fst)) ∧ K0 wc wr) (fun lv i wr => out3.length - (intOf i).toNat)
      case atStart => exact ⟨0, n0, by omega, rfl, Lib.hid rfl, by omega, Lib.hid (by simpa [RWS] using hLi.out), kci⟩
      case round =>
        obtain ⟨q, n, hq, rfl, hn, hn5, hLq, kq⟩ := hrel
        obtain ⟨Aq, cq, rfl, _, _⟩ := own_form hLq.out
        have kcr := kq
        by_cases hlt : q < out3.length
        · obtain ⟨ad, rfl, hb, x0, x1, hpq⟩ := SH3.out wr kcr q hlt
          have hone := ON3.out q hlt
          have hrt := rws_take out3 hlt
          have hps := (HSM3.out _ (List.getElem_mem hlt)).1
          generalize out3[q] = x at x0 x1 hpq hone hrt hps
          obtain ⟨ps, pv, first⟩ := x
          simp only [] at x0 x1 hpq hone hrt hps
          obtain ⟨Ax, cx, rfl, _, _, _, hRx, _⟩ := hpq
          have HRT := Lib.hid hrt
          have ks : K0 wr (wr.alloc (.cells #[.slice Ax ps.length cx, .int .i64 first] 37)) := (Kp.refl _ _).alloc _
          have hown := Lib.hid (own_kt hLq.out ks (fun _ _ _ h => h))
          have scr := kcr.size
          have hm0 : (ad.add (q * 2)).block < wr.heap.size := by rw [add_blk]; exact Nat.lt_of_lt_of_le hb kcr.size
          clear hrt
          go_wp2_with (at_builtin; refine wpList_append_any _ rfl (.tmp 49) (.tmp 51) _ rfl wc.heap.size 62 i1 _ 1 24 Tryz.underlying34 hj hy0 hy1 hy2 rfl (by omega) (.slice Aq n cq) n ((pre ++ RWS (out3.take q)).map Prod.fst) rfl (by exact hown.out) wr.heap.size Ax ps.length cx (ps.map Prod.snd) rfl (by exact hRx.k0 (Nat.le_refl _) ks) hone (by simp only [maxLen]; omega) (by omega) (by simp only [World.size_alloc]; omega) ?_; intro v3 w3' ho3 hg3 hat3)
          refine ⟨⟨q + 1, n + ps.length, by omega, by go_num, Lib.hid ?_, ?_, Lib.hid ?_, (kq.alloc _).grown hg3 (fun b hb => .inl ?_)⟩, by simp [intOf]; omega⟩
          · rw [HRT.out, List.length_append, List.length_map, hn.out]; omega
          · have h9 := HLQ.out (q + 1); rw [HRT.out, List.length_append, List.length_map] at h9; have := hn.out; omega
          · rw [HRT.out, ← List.append_assoc, List.map_append]
            have e9 : (ps.map fun y => ((y.2, y.1.length) : Value × Nat)).map Prod.fst = ps.map Prod.snd := by simp [Function.comp_def]
            rw [e9]
            exact ho3
          · have := (hLq.out.lt b hb).1; omega
        · obtain rfl : q = out3.length := by omega
          have h9 := hLq.out
          rw [List.take_length] at h9
          have hn9 := hn.out
          rw [List.take_length] at hn9
          have e9 : n = (pre ++ RWS out3).length := by rw [List.length_append, hn9, HN0.out]
          rw [e9] at h9
          have H9 := Lib.hid h9
          have E9 := Lib.hid e9
          clear h9 hn9 e9
          go_wp2
          refine ⟨⟨pre ++ RWS out3, .inr (.inr ⟨by go_num, by rw [← HPE.out]⟩), by rw [E9.out]; exact H9.out, kq⟩, by simp [intOf]⟩
    · have hrs : (RWS out2 ++ RWS out3).length ≤ 512 := by rw [List.length_append]; have := rws_len HSM2.out; have := rws_len HSM3.out; omega
      obtain ⟨h1, h2, h3⟩ := HH.out
      have C1 := Lib.hid (fun W (hk2 : K0 w2 W) => copy13_any W _ out1 (HV1.out.k0 (Nat.le_refl _) hk2))
      have k2c : K0 w2 wc := (ka.trans hk3).trans k34
      have b0 := (Y3.out.kp hk (fun h => h)).cell 0
      have b1 := (Y3.out.kp hk (fun h => h)).lt
      simp at b0
      have HRN : Hid (∀ r ∈ RWS out2 ++ RWS out3, r.2 ≤ 1024) := Lib.hid (fun r hr => by
        rcases List.mem_append.1 hr with h | h
        · exact rws_small HSM2.out r h
        · exact rws_small HSM3.out r h)
      have k3k : K0 w3 wk := k34.trans hk
      have k4k : K0 w4 wk := kc.trans hk
      have HRI : Hid (∀ r ∈ RWS out2 ++ RWS out3, ∀ b, r.1.ownBlock = some b → (wa.heap.size ≤ b ∧ b < w3.heap.size) ∨ (wb.heap.size ≤ b ∧ b < w4.heap.size)) := Lib.hid (fun r hr b hb => by
        rcases List.mem_append.1 hr with h | h
        · obtain ⟨xs, ho⟩ := HO2.out.rows r h
          exact .inl (ho.lt b hb)
        · obtain ⟨xs, ho⟩ := HO3.out.rows r h
          exact .inr (ho.lt b hb))
      have HRO2 : Hid (∀ r ∈ RWS out2 ++ RWS out3, ∃ xs, wk.ownsRow 0 61 2 r.1 r.2 xs) := Lib.hid (fun r hr => by
        rcases List.mem_append.1 hr with h | h
        · obtain ⟨xs, ho⟩ := HO2.out.rows r h
          exact ⟨xs, own_mono (own_far ho k3k (fun _ _ h => h)) (Nat.zero_le _)⟩
        · obtain ⟨xs, ho⟩ := HO3.out.rows r h
          exact ⟨xs, own_mono (own_far ho k4k (fun _ _ h => h)) (Nat.zero_le _)⟩)
      have HAP : Hid ((RWS out2 ++ RWS out3).Pairwise fun a b => ∀ k, a.1.ownBlock = some k → b.1.ownBlock ≠ some k) := Lib.hid (by
        rw [List.pairwise_append]
        refine ⟨HO2.out.rows_ap, HO3.out.rows_ap, fun a ha b hb k e1 e2 => ?_⟩
        obtain ⟨xs, ho⟩ := HO2.out.rows a ha
        obtain ⟨ys, ho'⟩ := HO3.out.rows b hb
        have := (ho.lt k e1).2
        have := (ho'.lt k e2).1
        omega)
      generalize RWS out2 ++ RWS out3 = rs at hL hrs HRN HRI HRO2 HAP ⊢
      have hLk := Lib.hid hL
      clear hL
      go_wp2_with fail
      refine (C1.out wk (k2c.trans hk)).mono ?_
      rintro e w5 ⟨vo4, out4, rfl, h4, hO4, hk5⟩
      obtain ⟨A4, c4, rfl, _, _⟩ := own_form hO4.row
      have hl4 : out4.length ≤ 32 := by have := congrArg List.length h4; simp only [List.length_map] at this; omega
      simp only []
      obtain ⟨we, hwe⟩ : ∃ we, we = w5.alloc (.cells #[.slice A4 out4.length c4] 25) := ⟨_, rfl⟩
      have ke : K0 w5 we := by rw [hwe]; exact (Kp.refl _ _).alloc _
      have y15 : Blk we w5.heap.size 25 #[.slice A4 out4.length c4] := by rw [hwe]; exact Blk.new _ _ _
      have kke := hk5.trans ke
      have kce := hk.trans kke
      have k2e := k2c.trans kce
      have k3e := k3k.trans kke
      have k4e := k4k.trans kke
      have sw := hk.size
      have hV1 := HV1.out.k0 (Nat.le_refl _) k2e
      have hV2 := (HO2.out.shpsV (by omega)).k0 (Nat.le_refl _) k3e
      have hV3 := (HO3.out.shpsV (by omega)).k0 (Nat.le_refl _) k4e
      have S1 := Lib.hid (same12_any we _ _ out2 out1 hV2 hV1)
      have S2 := Lib.hid (fun W (hk2 : K0 we W) => same12_any W _ _ out3 out1 (hV3.k0 (Nat.le_refl _) hk2) (hV1.k0 (Nat.le_refl _) hk2))
      rw [h2, h1, show decide (r1 = r1) = true from decide_eq_true rfl] at S1
      rw [h3, h2, h1, show decide (r1 = r1) = true from decide_eq_true rfl] at S2
      have z3 := Y3.out.kp kce (fun h => h)
      have z6 := Y6.out.kp kce (fun h => h)
      have z9 := Y9.out.kp kce (fun h => h)
      have Z3 := Lib.hid z3
      have Z6 := Lib.hid z6
      have Z9 := Lib.hid z9
      have Z15 := Lib.hid y15
      have HO4 := Lib.hid hO4
      have H41 : Hid (out4.map ShpX.d = r1) := Lib.hid (by rw [h4, h1])
      have H11 := Lib.hid h1
      have c0 := z6.cell 0
      have c1 := z6.lt
      have d0 := z3.cell 0
      have d1 := z3.lt
      simp at c0 d0
      rw [hwe] at c0 c1 d0 d1
      have HLE := Lib.hid (own_kt hLk.out kke (fun _ _ _ h => h))
      have KKE := Lib.hid kke
      have K2E := Lib.hid k2e
      have K3E := Lib.hid k3e
      have K4E := Lib.hid k4e
      have hsz5 : wk.heap.size ≤ w5.heap.size := hk5.size
      have hsz6 : w5.heap.size < we.heap.size := y15.lt
      have s4k := k4k.size
      clear h1 h2 h3 h4 hV1 hV2 hV3 C1 b0 b1 z3 z6 z9 y15 hO4 hLk SH2 SH3 ON2 ON3
      go_wp2_with fail
      rw [← hwe]
      clear hwe
      refine S1.out.mono ?_
      rintro e w6 ⟨rfl, hk6⟩
      have c0 := (Z9.out.kp hk6 (fun h => h)).cell 0
      have c1 := (Z9.out.kp hk6 (fun h => h)).lt
      have d0 := (Z3.out.kp hk6 (fun h => h)).cell 0
      have d1 := (Z3.out.kp hk6 (fun h => h)).lt
      simp at c0 d0
      clear S1
      go_wp2_with fail
      refine (S2.out w6 hk6).mono ?_
      rintro e w7 ⟨rfl, hk7⟩
      have k67 := hk6.trans hk7
      have OS := Lib.hid (ownSpans_list w7 wc.heap.size Al cl rs (own_kt HLE.out k67 (fun _ _ _ h => h)) (by omega) HRN.out (fun r hr => by
        obtain ⟨xs, ho⟩ := HRO2.out r hr
        exact ⟨xs, own_far ho (KKE.out.trans k67) (fun _ _ h => h)⟩) HAP.out)
      clear S2 c0 c1 d0 d1
      go_wp2_with fail
      refine OS.out.mono ?_
      rintro e w8 ⟨rfl, hk8'⟩
      have hk8 : Kp (fun b => (wa.heap.size ≤ b ∧ b < w3.heap.size) ∨ (wb.heap.size ≤ b ∧ b < w4.heap.size)) w7 w8 := hk8'.mono (fun b h => by obtain ⟨r, hr, hb⟩ := h; exact HRI.out r hr b hb)
      have k8 : Kp (fun b => (wa.heap.size ≤ b ∧ b < w3.heap.size) ∨ (wb.heap.size ≤ b ∧ b < w4.heap.size)) we w8 := (K0.kp k67).trans hk8
      have hne62 : ∀ g cs, Blk w7 g 62 cs → ¬ ∃ r, r ∈ rs ∧ r.1.ownBlock = some g := fun g cs hg h => by
        obtain ⟨r, hr, hb⟩ := h
        obtain ⟨xs, ho⟩ := HRO2.out r hr
        exact own_blk_ne (own_far ho (KKE.out.trans k67) (fun _ _ h => h)) hg (by decide) hb
      have hne37 : ∀ g cs, Blk w7 g 37 cs → ¬ ∃ r, r ∈ rs ∧ r.1.ownBlock = some g := fun g cs hg h => by
        obtain ⟨r, hr, hb⟩ := h
        obtain ⟨xs, ho⟩ := HRO2.out r hr
        exact own_blk_ne (own_far ho (KKE.out.trans k67) (fun _ _ h => h)) hg (by decide) hb
      have k37 := K3E.out.trans k67
      have k47 := K4E.out.trans k67
      have R2 : w8.ownsRow wa.heap.size 37 2 (.slice A2 out2.length c2) out2.length (duos shduo out2) := own_kt (own_far HO2.out.row k37 (fun _ _ h => h)) hk8' hne37
      have R3 : w8.ownsRow wb.heap.size 37 2 (.slice A3 out3.length c3) out3.length (duos shduo out3) := own_kt (own_far HO3.out.row k47 (fun _ _ h => h)) hk8' hne37
      have RP : ∀ j (hj : j < out2.length), ∃ zs, w8.ownsRow wa.heap.size 62 1 out2[j].v out2[j].ps.length zs := fun j hj => ⟨_, own_kt (own_far (HO2.out.shs _ (List.getElem_mem hj)).1.row k37 (fun _ _ h => h)) hk8' hne62⟩
      have IP : ∀ j (hj : j < out2.length) b, out2[j].v.ownBlock = some b → wa.heap.size ≤ b ∧ b < w3.heap.size := fun j hj b hb => (HO2.out.shs _ (List.getElem_mem hj)).1.row.lt b hb
      have I2 : ∀ b, (Value.slice A2 out2.length c2).ownBlock = some b → wa.heap.size ≤ b ∧ b < w3.heap.size := fun b hb => HO2.out.row.lt b hb
      have I3 : ∀ b, (Value.slice A3 out3.length c3).ownBlock = some b → wb.heap.size ≤ b ∧ b < w4.heap.size := fun b hb => HO3.out.row.lt b hb
      have AP : ∀ j k (hj : j < out2.length) (hk : k < out2.length), j ≠ k → ∀ b, out2[j].v.ownBlock = some b → out2[k].v.ownBlock ≠ some b := fun j k hj hk hne b h1 h2 => by
        have ha := HO2.out.app
        rw [List.pairwise_map, List.pairwise_iff_getElem] at ha
        rcases Nat.lt_or_ge j k with hl | hl
        · exact ha j k hj hk hl b h1 h2
        · exact ha k j hk hj (by omega) b h2 h1
      have PL : ∀ j (hj : j < out2.length), out2[j].ps.length ≤ 8 := fun j hj => (HSM2.out _ (List.getElem_mem hj)).1
      have R2c := fun j (hj : j < out2.length) => (duos_get shduo out2 j _ (List.getElem?_eq_getElem hj)).1
      have RPH := Lib.hid RP
      have IPH := Lib.hid IP
      have I2H := Lib.hid I2
      have I3H := Lib.hid I3
      have APH := Lib.hid AP
      have PLH := Lib.hid PL
      have R2H := Lib.hid R2c
      have z6 := Z6.out.kp k8 (fun h => by omega)
      have z9 := Z9.out.kp k8 (fun h => by omega)
      have c0 := z6.cell 0
      have c1 := z6.lt
      simp at c0
      have ZZ6 := Lib.hid z6
      have ZZ9 := Lib.hid z9
      have HR2 := Lib.hid R2
      have HR3 := Lib.hid R3
      have K8 := Lib.hid k8
      clear RP IP I2 I3 AP PL R2c z6 z9 hk8' hne62 hne37 k37 k47 hk8 OS R2 R3 k8
      go_wp2
      clear c0 c1
      go_loopw [75] (fun i wr => ∃ (q : Nat) (xs ys : List Value), q ≤ out2.length ∧ i = .int .i64 (q : Int) ∧ Kp (fun b => (wa.heap.size ≤ b ∧ b < w3.heap.size) ∨ (wb.heap.size ≤ b ∧ b < w4.heap.size)) w8 wr ∧ wr.ownsRow wa.heap.size 37 2 (.slice A2 out2.length c2) out2.length xs ∧ wr.ownsRow wb.heap.size 37 2 (.slice A3 out3.length c3) out3.length ys ∧ Hid (∀ j (hj : j < out2.length), q ≤ j → xs[j * 2]? = some out2[j].v ∧ ∃ zs, wr.ownsRow wa.heap.size 62 1 out2[j].v out2[j].ps.length zs)) (fun i wr => out2.length - (intOf i).toNat)
      case atStart => exact ⟨0, _, _, by omega, rfl, Kp.refl _ _, HR2.out, HR3.out, Lib.hid (fun j hj _ => ⟨R2H.out j hj, RPH.out j hj⟩)⟩
      case round =>
        obtain ⟨q, xs, ys, hq, rfl, kr, R2, R3, HJ⟩ := hrel
        have z6 := ZZ6.out.kp kr (fun h => by omega)
        have z9 := ZZ9.out.kp kr (fun h => by omega)
        have c0 := z6.cell 0
        have c1 := z6.lt
        have e0 := z9.cell 0
        have e1 := z9.lt
        simp at c0 e0
        by_cases hlt : q < out2.length
        · obtain ⟨hxq, zs, hzq⟩ := HJ.out q hlt (Nat.le_refl _)
          have hIP := IPH.out q hlt
          have hPL := PLH.out q hlt
          have hAP := Lib.hid (fun j (hj : j < out2.length) (hne : j ≠ q) => APH.out j q hj hlt hne)
          generalize out2[q] = X at hxq hzq hIP hPL hAP
          obtain ⟨ps, pv, first⟩ := X
          simp only [] at hxq hzq hIP hPL hAP
          obtain ⟨Ap, cp, rfl, _, _⟩ := own_form hzq
          have hlt3 : q < out3.length := by have := HL3.out; omega
          obtain ⟨g2, c2', hA2, _, hg2⟩ := R2.form (by omega)
          cases hA2
          obtain ⟨g3, c3', hA3, _, hg3⟩ := R3.form (by omega)
          cases hA3
          have hxl : xs.length = out2.length * 2 := R2.1
          have hyl : ys.length = out3.length * 2 := R3.1
          have hat := R2.cellAt (q * 2) (by omega)
          rw [hxq] at hat
          have hfr := R2.frozenAt (q * 2)
          have g2b : wa.heap.size ≤ g2 ∧ g2 < w3.heap.size := I2H.out g2 rfl
          have g3b : wb.heap.size ≤ g3 ∧ g3 < w4.heap.size := I3H.out g3 rfl
          have hg2w : g2 < wr.heap.size := (R2.lt g2 rfl).2
          have hwrap : IntKind.i64.wrap (-(q : Int)) = -(q : Int) := IntWalk.i64_in _ (by omega)
          have hne2 : (Value.slice Ap ps.length cp).ownBlock ≠ some g2 := fun h => by
            obtain ⟨cs, hb⟩ := own_blk R2 g2 rfl
            exact own_blk_ne hzq hb (by decide) h
          have hq3 : (q : Int) < (out3.length : Int) := by omega
          have hq2 : (q : Int) < (out2.length : Int) := by omega
          have hq0 : 0 ≤ (q : Int) := by omega
          have s8 := kr.size
          go_wp2
          go_region_law (refine step_append_lies _ rfl (.tmp 86) (.tmp 87) 34 rfl wa.heap.size 62 i1 _ 1 24 Tryz.underlying34 hj hy0 hy1 hy2 rfl (by omega) (.slice Ap ps.length cp) ps.length zs (by simp [Act.eval, Act.put]) (by exact hzq.alloc _) ⟨wr.heap.size, 0, none⟩ 1 1 [.slice none 0 0] (by simp [Act.eval, Act.put]) rfl (by exact World.news_of_block (cs := #[.slice none 0 0]) (t := 62) (fr := (0, 0)) (heap_alloc_new wr _)) (by simp [Value.oneCell']) (by omega) (by simp only [maxLen]; omega) (by omega) (by have := K8.out.size; simp; omega) (wr.heap.size + 1) (by simp) ?_; intro g9 cap9 w9 hown9 hg9 hat9 hlt9; have k9 : Kp (fun k => (Value.slice Ap ps.length cp).ownBlock = some k) wr w9 := ((Kp.refl _ wr).alloc _).drew.grown hg9 (fun k hk => .inr hk); have R29 := own_far R2 k9 (fun g h1 h2 => (by cases h1; exact hne2 h2)); have q9 := R29.cellAt (q * 2) (by omega); have f9 := R29.frozenAt (q * 2); have l9 : g2 < w9.heap.size := (R29.lt g2 rfl).2; rw [hxq] at q9; have z69 := z6.kp k9 (fun h => own_blk_ne hzq z6 (by decide) h); have c69 := z69.cell 0; have l69 := z69.lt; simp at c69)
          all_goals
            have st2 := R29.stored (q * 2) (.slice (some ⟨g9, 0, none⟩) (ps.length + 1) cap9)
            have K9 : Kp (fun k => (Value.slice Ap ps.length cp).ownBlock = some k ∨ k = g2) wr (w9.setCell ⟨g2, q * 2, none⟩ (.slice (some ⟨g9, 0, none⟩) (ps.length + 1) cap9)) := (k9.mono (fun _ h => .inl h)).setCell (p := ⟨g2, q * 2, none⟩) (.inr (.inr rfl)) _
            have hd3 : ∀ g, (Value.slice (some ⟨g3, 0, none⟩) out3.length c3).ownBlock = some g → ¬ ((Value.slice Ap ps.length cp).ownBlock = some g ∨ g = g2) := fun g hg h => by
              have hg' : g3 = g := by simpa [Value.ownBlock] using hg
              rcases h with h | h
              · have := hIP _ h; omega
              · have h' : g = g2 := h
                omega
            have R39 := own_far R3 K9 hd3
            have z99 := z9.kp K9 (fun h => by
              rcases h with h | h
              · exact own_blk_ne hzq z9 (by decide) h
              · omega)
            have a0 := z99.cell 0
            have a1 := z99.lt
            have a2 := R39.cellAt (q * 2 + 1) (by omega)
            have a3 := R39.frozenAt (q * 2 + 1)
            have a4 := (R39.lt g3 rfl).2
            rw [List.getElem?_eq_getElem (by omega)] at a2
            simp at a0
            have ST2 := Lib.hid st2.1
            clear st2 q9 f9 l9 z69 c69 l69 hown9 hg9 hat9 R29 k9
            generalize w9.setCell ⟨g2, q * 2, none⟩ (.slice (some ⟨g9, 0, none⟩) (ps.length + 1) cap9) = W9 at K9 R39 z99 a0 a1 a2 a3 a4 ST2 ⊢
            go_wp2
            have st3 := (R39.stored (q * 2 + 1) (.int .i64 (-(q : Int)))).1
            have KL : Kp (fun k => k = g3) W9 (W9.setCell ⟨g3, q * 2 + 1, none⟩ (.int .i64 (-(q : Int)))) := (Kp.refl (fun k => k = g3) W9).setCell (p := ⟨g3, q * 2 + 1, none⟩) (.inr rfl) _
            have KE : Kp (fun k => ((Value.slice Ap ps.length cp).ownBlock = some k ∨ k = g2) ∨ k = g3) wr (W9.setCell ⟨g3, q * 2 + 1, none⟩ (.int .i64 (-(q : Int)))) := (K9.mono (fun _ h => .inl h)).trans (KL.mono (fun _ h => .inr h))
            refine ⟨⟨q + 1, xs.set (q * 2) (.slice (some ⟨g9, 0, none⟩) (ps.length + 1) cap9), ys.set (q * 2 + 1) (.int .i64 (-(q : Int))), by omega, by go_num, kr.trans (KE.mono (fun b h => ?_)), own_far ST2.out KL (fun g hg h => ?_), st3, Lib.hid (fun j hj hqj => ?_)⟩, by simp [intOf]; omega⟩
            · rcases h with (h | h) | h
              · exact .inl (hIP _ h)
              · subst h; exact .inl g2b
              · subst h; exact .inr g3b
            · have hg' : g2 = g := by simpa [Value.ownBlock] using hg
              have h' : g = g3 := h
              omega
            · obtain ⟨h1, zs2, h2⟩ := HJ.out j hj (by omega)
              refine ⟨by rw [List.getElem?_set, if_neg (by omega)]; exact h1, zs2, own_far h2 KE (fun g hg h => ?_)⟩
              rcases h with (h | h) | h
              · exact hAP.out j hj (by omega) g hg h
              · subst h
                obtain ⟨cs, hb⟩ := own_blk R2 g rfl
                exact own_blk_ne h2 hb (by decide) hg
              · subst h
                obtain ⟨cs, hb⟩ := own_blk R3 g rfl
                exact own_blk_ne h2 hb (by decide) hg
        · obtain rfl : q = out2.length := by omega
          have kS : Kp (fun b => (wa.heap.size ≤ b ∧ b < w3.heap.size) ∨ (wb.heap.size ≤ b ∧ b < w4.heap.size)) we wr := K8.out.trans kr
          have swa := kwa.size
          have k2r : K0 w2 wr := K2E.out.trans' kS (fun i hi h => by omega)
          have kwr : K0 w wr := (kwc.trans (hk.trans KKE.out)).trans' kS (fun i hi h => by omega)
          have kS5 : Kp (fun b => (wa.heap.size ≤ b ∧ b < w3.heap.size) ∨ (wb.heap.size ≤ b ∧ b < w4.heap.size)) w5 wr := (K0.kp ke).trans kS
          have d3 := Z3.out.kp kS (fun h => by omega)
          have d15 := Z15.out.kp kS (fun h => by omega)
          clear HJ R2 R3 z6 z9 c0 c1 e0 e1
          go_wp2_with fail
          refine (RA.out wr kwr).mono ?_
          rintro e w9 ⟨vo5, out5, h5, rfl, hO5, hl5, hk9⟩
          obtain ⟨A5, c5, rfl, _, _⟩ := own_form hO5.row
          simp only [] at h5 ⊢
          obtain ⟨wf, hwf⟩ : ∃ wf, wf = w9.alloc (.cells #[.slice A5 out5.length c5] 25) := ⟨_, rfl⟩
          have kf : K0 w9 wf := by rw [hwf]; exact (Kp.refl _ _).alloc _
          have y17 : Blk wf w9.heap.size 25 #[.slice A5 out5.length c5] := by rw [hwf]; exact Blk.new _ _ _
          have k9f := hk9.trans kf
          have hV1 := HV1.out.k0 (Nat.le_refl _) (k2r.trans k9f)
          have hV5 := (hO5.shpsV (by omega)).k0 (Nat.le_refl _) kf
          have hO4 := HO4.out.kb (kS5.trans (K0.kp k9f)) (fun g hg h => by omega)
          have hV4 := hO4.shpsV (by omega)
          have S5 := Lib.hid (same12_any wf _ _ out5 out1 hV5 hV1)
          have S6 := Lib.hid (fun W (hk2 : K0 wf W) => same12_any W _ _ out4 out1 (hV4.k0 (Nat.le_refl _) hk2) (hV1.k0 (Nat.le_refl _) hk2))
          rw [h5, H11.out, show decide (r1 = r1) = true from decide_eq_true rfl] at S5
          rw [H41.out, H11.out, show decide (r1 = r1) = true from decide_eq_true rfl] at S6
          have f3 := d3.kp k9f (fun h => h)
          have f15 := d15.kp k9f (fun h => h)
          have F3 := Lib.hid f3
          have F15 := Lib.hid f15
          have c0 := f3.cell 0
          have c1 := f3.lt
          have c2 := y17.cell 0
          have c3 := y17.lt
          simp at c0 c2
          rw [hwf] at c0 c1 c2 c3
          have KW := Lib.hid (kwr.trans k9f)
          clear hV1 hV5 hO4 hV4 f3 f15 y17 d3 d15 kS kS5 k2r kwr h5 hO5
          go_wp2_with fail
          rw [← hwf]
          clear hwf
          refine S5.out.mono ?_
          rintro e w10 ⟨rfl, hk10⟩
          have c0 := (F3.out.kp hk10 (fun h => h)).cell 0
          have c1 := (F3.out.kp hk10 (fun h => h)).lt
          have d0 := (F15.out.kp hk10 (fun h => h)).cell 0
          have d1 := (F15.out.kp hk10 (fun h => h)).lt
          simp at c0 d0
          clear S5
          go_wp2_with fail
          refine (S6.out w10 hk10).mono ?_
          rintro e w11 ⟨rfl, hk11⟩
          go_wp2
          go_ret
          exact ⟨rfl, (KW.out.trans hk10).trans hk11⟩
theorem schemeOwns_walk (W : World) (hP : PowV W) (s : ByteArray) (hs : s.size ≤ 1048576) : Calls Tryz.prog 4 #[.string s] W fun e W' => e = .returned (.bool true) ∧ Below W.heap.size W W' :=
  (schemeOwns_any W s hs hP).mono fun e W' h => ⟨h.1, h.2.below⟩
end Go.Proofs.YtobofhiakgohfaaGreatDoor
