/- The walk of TokenTiles. -/
import Derived.Test.YtobofhiakgohfaaDoorT15
import Derived.Test.YtobofhiakgohfaaDoorP10
set_option linter.unusedVariables false
set_option linter.unusedSimpArgs false
namespace Go.Proofs.YtobofhiakgohfaaDoor
open Go.RowKit

/-- A token that tiles: its text is what stands at its place. -/
theorem tok_txt (s : ByteArray) (t : Tok) (h1 : t.pos + t.len ≤ s.size) (h : (t.kind = 3 ∧ t.len = 0 ∧ t.pos = s.data.toList.length) ∨ (t.kind = 4 ∧ t.len = 1) ∨ t.kind = 1 ∨ (t.kind = 2 ∧ t.len = 1 ∧ s.data.toList[t.pos]? = some 10)) :
    tokTxt s t = s.extract t.pos (t.pos + t.len) := by
  unfold tokTxt
  rcases h with ⟨h, h2, _⟩ | ⟨h, _⟩ | h | ⟨h, h2, h3⟩
  · rw [h, if_neg (by decide), if_pos rfl, h2]
    refine ba_ext ?_
    rw [extract_list, Nat.add_zero, Nat.sub_self, List.take_zero]
  · rw [h, if_neg (by decide), if_neg (by decide)]
  · rw [h, if_neg (by decide), if_neg (by decide)]
  · rw [h, if_pos rfl, h2]
    refine ba_ext ?_
    rw [extract_list, Nat.add_sub_cancel_left]
    have hlt : t.pos < s.data.toList.length := (List.getElem?_eq_some_iff.1 h3).1
    have h4 : s.data.toList[t.pos] = 10 := (List.getElem?_eq_some_iff.1 h3).2
    rw [List.drop_eq_getElem_cons hlt, h4]
    rfl
theorem ba_ten {x : ByteArray} (h : (⟨#[10]⟩ : ByteArray) = x) : [10] = x.data.toList := by rw [← h]
theorem ext_size (s : ByteArray) (p n : Nat) (h : p + n ≤ s.size) : (s.extract p (p + n)).size = n := by rw [ByteArray.size_extract]; omega

set_option maxRecDepth 100000 in
set_option maxHeartbeats 8000000 in
theorem tokenTiles_walk (w : World) (s : ByteArray) (hs : s.size ≤ 1048576) : Calls Tryd.prog 6 #[.string s] w fun e w' => e = .returned (.bool true) ∧ Below w.heap.size w w' := by
  obtain ⟨T, hT⟩ : ∃ T, T = toks s.data.toList := ⟨_, rfl⟩
  have hTl : T.length ≤ s.size + 1 := by rw [hT]; have := toks_len s.data.toList; simp at this; omega
  have LA := listed_any s
  unfold ListPost at LA
  rw [← hT] at LA
  have HL := Lib.hid LA
  have HTT := Lib.hid (show TilesFrom s.data.toList 0 T by rw [hT]; exact toks_tiles _)
  have hz : s.data.toList.length = s.size := by simp
  have HZ := Lib.hid hz
  have hT0 : 0 < T.length := by
    rcases Nat.eq_zero_or_pos T.length with h | h
    · have := HTT.out; rw [List.eq_nil_of_length_eq_zero h] at this; exact this.elim
    · exact h
  clear hT LA hz
  have CVT : ∀ (W : World) (x : ByteArray), (convert 9 44 (.string x)).run Tryd.prog W = .ok (.slice (some ⟨W.heap.size, 0, none⟩) x.size (grownCap W x.size 0 5)) (Lib.bytesWorld W 5 x) := fun W x => Lib.run_convert_string_bytes W 9 44 5 x Tryd.underlying9 Tryd.underlying44 Tryd.underlying5
  go_enter Tryd.func6, Tryd.ntmps6
  go_wp2_with fail
  refine (fixed_any _).mono ?_
  rintro e w1 ⟨rfl, hk1⟩
  go_wp2_with fail
  refine (HL.out w1 (by omega)).mono ?_
  rintro e w2 ⟨vL, rfl, hownL, hk2⟩
  obtain ⟨AL, cL, rfl, _, _⟩ := own_form hownL
  have hk02 := hk1.trans hk2
  have rd2 := Reads.of_own hownL
  clear hownL
  go_wp2
  go_loopw [4, 5, 17] (fun av cv i wr => ∃ (q a : Nat), q ≤ T.length ∧ a ≤ s.size ∧ i = .int .i64 (q : Int) ∧ av = .int .i64 (a : Int) ∧ cv = .bool false ∧ K0 w wr ∧ K0 w2 wr ∧ Hid (q < T.length → TilesFrom s.data.toList a (T.drop q)))
    (fun av cv i wr => T.length - (intOf i).toNat)
  case atStart => exact ⟨0, 0, by omega, by omega, rfl, rfl, rfl, hk02, Kp.refl _ _, Lib.hid (fun _ => HTT.out)⟩
  case round =>
    obtain ⟨q, a, hq, ha, rfl, rfl, rfl, hk, hk2r, hti⟩ := hrel
    by_cases hlt : q < T.length
    · have hVl : (T.map (tv s)).length = T.length := by simp
      obtain ⟨ad, rfl, hbl, r0, r1, r2⟩ := (show Reads wr w2.heap.size 3 AL (T.map (tv s)).length (tcells (T.map (tv s))) by rw [hVl]; exact rd2.k0 (Nat.le_refl _) hk2r).tok (j := q) (by omega)
      have hVj : (T.map (tv s))[q]'(by omega) = tv s (T[q]'hlt) := by simp
      rw [hVj] at r0 r1 r2
      have hdr : T.drop q = T[q]'hlt :: T.drop (q + 1) := List.drop_eq_getElem_cons hlt
      have htq := hti.out hlt
      rw [hdr] at htq
      obtain ⟨t, ht⟩ : ∃ t, t = T[q]'hlt := ⟨_, rfl⟩
      rw [← ht] at r0 r1 r2 htq
      clear ht hdr hVj hVl hti
      obtain ⟨t1, t2, ⟨cm, hgs, hcm⟩, hor⟩ := htq
      rw [HZ.out] at t2
      have htx : tokTxt s t = s.extract t.pos (t.pos + t.len) := tok_txt s t t2 (by
        rcases hor with ⟨h | h, _⟩ | ⟨h | h, _⟩
        · exact .inl h
        · exact .inr (.inl h)
        · exact .inr (.inr (.inl h))
        · exact .inr (.inr (.inr h)))
      have hsz := ext_size s t.pos t.len t2
      have hlastn : (T.drop (q + 1) = [] → q + 1 = T.length) ∧ (∀ x, TilesFrom s.data.toList x (T.drop (q + 1)) → q + 1 < T.length) := by
        refine ⟨fun h => ?_, fun x h => ?_⟩
        · have := congrArg List.length h; simp at this; omega
        · rcases Nat.lt_or_ge (q + 1) T.length with h1 | h1
          · exact h1
          · rw [List.drop_eq_nil_of_le h1] at h; exact h.elim
      simp only [tv] at r0 r1 r2
      rw [htx] at r1
      obtain ⟨kd, p, n⟩ := t
      simp only [] at r0 r1 r2 t1 t2 hcm hor hgs hsz
      rcases hor with ⟨⟨rfl, rfl, hp⟩ | ⟨rfl, rfl⟩, hnil⟩ | ⟨rfl | ⟨rfl, rfl, h10⟩, hnx⟩
      -- CASES
      -- CASES
      -- CASES
      · have hql := hlastn.1 hnil
        obtain rfl : p = s.size := by rw [HZ.out] at hp; exact hp
        have eL : ((q : Int) == (T.length : Int) - 1) = true := by rw [beq_iff_eq]; omega
        have hw1 : IntKind.i64.wrap ((T.length : Int) - 1) = (T.length : Int) - 1 := IntWalk.i64_in _ (by omega)
        have hem : (s.extract s.size (s.size + 0)).toList.isEmpty = true := by rw [ByteArray.toList_eq, extract_list]; simp
        have HNX := Lib.hid (fun h : q + 1 < T.length => absurd h (by omega) : q + 1 < T.length → TilesFrom s.data.toList (s.size + 0) (T.drop (q + 1)))
        have HG := Lib.hid hgs
        have hemp : ByteArray.empty = (⟨#[]⟩ : ByteArray) := rfl
        have htt : s.extract s.size s.size = (⟨#[]⟩ : ByteArray) := ba_ext (by rw [extract_list]; simp)
        have hr1 : s.extract s.size (s.size + 0) = (⟨#[]⟩ : ByteArray) := htt
        rw [hr1] at r1
        clear hlastn hnil htx hgs hcm hp hem hr1
        obtain ⟨x, hxe⟩ : ∃ x, s.extract a s.size = x := ⟨_, rfl⟩
        have hxl : x.data.toList = seg s.data.toList a s.size := by rw [← hxe, extract_list]; rfl
        have hxs : x.data.toList.length = x.size := by simp
        have hx20 : x.size ≤ 1048576 := by rw [← hxe, ByteArray.size_extract]; omega
        rw [← hxl] at HG
        have HXS := Lib.hid hxs
        clear hxl hxs
        go_wp2
        obtain ⟨wo, rfl⟩ : ∃ wo : World, wo = wr := ⟨_, rfl⟩
        have k12 : K0 wo (Lib.bytesWorld (wo.alloc (.cells #[.int .i64 3, .string ⟨#[]⟩, .int .i64 (s.size : Int)] 42)) 5 x) := ((Kp.refl _ wo).alloc _).trans (k0_bytes _ _ _)
        have yb := (Blk.new wo 42 #[.int .i64 3, .string ⟨#[]⟩, .int .i64 (s.size : Int)]).kp (k0_bytes (wo.alloc (.cells #[.int .i64 3, .string ⟨#[]⟩, .int .i64 (s.size : Int)] 42)) 5 x) (fun h => h)
        have hby : ∀ j, j < x.size → (Lib.bytesWorld (wo.alloc (.cells #[.int .i64 3, .string ⟨#[]⟩, .int .i64 (s.size : Int)] 42)) 5 x).cell? ⟨wo.heap.size + 1, j, none⟩ = some (.int .u8 ((x.data.toList.getD j 0).toNat : Int)) := fun j hj => by have := Lib.bytesWorld_cell (wo.alloc (.cells #[.int .i64 3, .string ⟨#[]⟩, .int .i64 (s.size : Int)] 42)) 5 x j hj; rwa [World.size_alloc] at this
        generalize Lib.bytesWorld (wo.alloc (.cells #[.int .i64 3, .string ⟨#[]⟩, .int .i64 (s.size : Int)] 42)) 5 x = W2 at *
        have HBY := Lib.hid hby
        clear hby
        go_loopw [5, 57] (fun cv i wi => ∃ (j : Nat) (c' : Bool), j ≤ x.size ∧ i = .int .i64 (j : Int) ∧ cv = .bool c' ∧ Hid (gapScan c' (x.data.toList.drop j) = some cm) ∧ K0 W2 wi)
          (fun cv i wi => x.size - (intOf i).toNat)
        case atStart => exact ⟨0, false, by omega, rfl, rfl, Lib.hid (by rw [List.drop_zero]; exact HG.out), Kp.refl _ _⟩
        case round =>
          obtain ⟨j, c', hj, rfl, rfl, hsc, hkw⟩ := hrel
          have yc := yb.kp hkw (fun h => h)
          have z0 := yc.cell 0
          have z1 := yc.cell 1
          have z2 := yc.cell 2
          simp at z0 z1 z2
          have hlz := yc.lt
          by_cases hlj : j < x.size
          · have hcb := (hkw.cell (p := ⟨wo.heap.size + 1, j, none⟩) (World.block_lt_of_cell? W2 _ (HBY.out j hlj)) (fun h => h)).trans (HBY.out j hlj)
            have hd := drop_here (l := x.data.toList) (k := j) (by rw [HXS.out]; exact hlj)
            have hgd : x.data.toList.getD j 0 = x.data.toList[j]?.getD 0 := by rw [List.getD_eq_getElem?_getD]
            rw [hgd] at hcb
            generalize x.data.toList[j]?.getD 0 = c at hcb hd
            have hg2 := hsc.out
            rw [hd] at hg2
            simp only [gapScan] at hg2
            have hcl := c.toNat_lt
            by_cases hbad : c = 10 ∨ ((c' || c == 35) = false ∧ blankB c = false)
            · rw [if_pos hbad] at hg2; cases hg2
            rw [if_neg hbad] at hg2
            have c10 : c ≠ 10 := fun h => hbad (.inl h)
            have e10 : ((c.toNat : Int) == 10) = false := by rw [beq_eq_false_iff_ne]; intro e; exact c10 (UInt8.toNat_inj.1 (by simp; omega))
            cases c' with
            | true =>
              have HS := Lib.hid hg2
              clear hg2 hd hgd hbad c10 hsc HG
              go_wp2
              exact ⟨⟨j + 1, true, by omega, by go_num, rfl, HS, hkw⟩, by simp [intOf]; omega⟩
            | false =>
              by_cases c35 : c = 35
              · subst c35
                have HS := Lib.hid hg2
                clear hg2 hd hgd hbad c10 hsc HG
                go_wp2
                exact ⟨⟨j + 1, true, by omega, by go_num, rfl, HS, hkw⟩, by simp [intOf]; omega⟩
              have h35 : (c == 35) = false := beq_eq_false_iff_ne.2 c35
              have hbl : blankB c = true := by
                cases hb : blankB c
                · exact absurd (.inr ⟨by rw [h35]; rfl, hb⟩) hbad
                · rfl
              rw [h35, Bool.or_false] at hg2
              have HS := Lib.hid hg2
              simp only [blankB, Bool.or_eq_true, beq_iff_eq] at hbl
              clear hg2 hd hgd hbad c10 hsc HG h35 c35
              rcases hbl with (rfl | rfl) | rfl
              all_goals
                go_wp2
                exact ⟨⟨j + 1, false, by omega, by go_num, rfl, HS, hkw⟩, by simp [intOf]; omega⟩
          · obtain rfl : j = x.size := by omega
            have hcc : c' = cm := by have := hsc.out; rw [List.drop_eq_nil_of_le (by rw [HXS.out]; omega)] at this; simpa [gapScan] using this
            clear hcc
            clear hsc HG HBY
            have hk0w : K0 w wr := (hk.trans k12).trans hkw
            have hk2w : K0 w2 wr := (hk2r.trans k12).trans hkw
            cases c'
            all_goals
              go_wp2
              go_quiet (fail)
              go_wp2
              exact ⟨⟨q + 1, s.size + 0, by omega, by omega, by go_num, by go_num, rfl, hk0w.drewN _, hk2w.drewN _, HNX⟩, by simp [intOf]; omega⟩
      · have hql := hlastn.1 hnil
        have eL : ((q : Int) == (T.length : Int) - 1) = true := by rw [beq_iff_eq]; omega
        have hw1 : IntKind.i64.wrap ((T.length : Int) - 1) = (T.length : Int) - 1 := IntWalk.i64_in _ (by omega)
        have HNX := Lib.hid (fun h : q + 1 < T.length => absurd h (by omega) : q + 1 < T.length → TilesFrom s.data.toList (p + 1) (T.drop (q + 1)))
        have hcf : cm = false := by cases cm; rfl; exact absurd (hcm rfl) (by decide)
        have HG := Lib.hid hgs
        obtain ⟨tx, htt⟩ : ∃ tx, s.extract p (p + 1) = tx := ⟨_, rfl⟩
        rw [htt] at r1 hsz
        clear hlastn hnil htx hgs hcm  
        obtain ⟨x, hxe⟩ : ∃ x, s.extract a p = x := ⟨_, rfl⟩
        have hxl : x.data.toList = seg s.data.toList a p := by rw [← hxe, extract_list]; rfl
        have hxs : x.data.toList.length = x.size := by simp
        have hx20 : x.size ≤ 1048576 := by rw [← hxe, ByteArray.size_extract]; omega
        rw [← hxl] at HG
        have HXS := Lib.hid hxs
        clear hxl hxs
        go_wp2
        obtain ⟨wo, rfl⟩ : ∃ wo : World, wo = wr := ⟨_, rfl⟩
        have k12 : K0 wo (Lib.bytesWorld (wo.alloc (.cells #[.int .i64 4, .string tx, .int .i64 (p : Int)] 42)) 5 x) := ((Kp.refl _ wo).alloc _).trans (k0_bytes _ _ _)
        have yb := (Blk.new wo 42 #[.int .i64 4, .string tx, .int .i64 (p : Int)]).kp (k0_bytes (wo.alloc (.cells #[.int .i64 4, .string tx, .int .i64 (p : Int)] 42)) 5 x) (fun h => h)
        have hby : ∀ j, j < x.size → (Lib.bytesWorld (wo.alloc (.cells #[.int .i64 4, .string tx, .int .i64 (p : Int)] 42)) 5 x).cell? ⟨wo.heap.size + 1, j, none⟩ = some (.int .u8 ((x.data.toList.getD j 0).toNat : Int)) := fun j hj => by have := Lib.bytesWorld_cell (wo.alloc (.cells #[.int .i64 4, .string tx, .int .i64 (p : Int)] 42)) 5 x j hj; rwa [World.size_alloc] at this
        generalize Lib.bytesWorld (wo.alloc (.cells #[.int .i64 4, .string tx, .int .i64 (p : Int)] 42)) 5 x = W2 at *
        have HBY := Lib.hid hby
        clear hby
        go_loopw [5, 57] (fun cv i wi => ∃ (j : Nat) (c' : Bool), j ≤ x.size ∧ i = .int .i64 (j : Int) ∧ cv = .bool c' ∧ Hid (gapScan c' (x.data.toList.drop j) = some cm) ∧ K0 W2 wi)
          (fun cv i wi => x.size - (intOf i).toNat)
        case atStart => exact ⟨0, false, by omega, rfl, rfl, Lib.hid (by rw [List.drop_zero]; exact HG.out), Kp.refl _ _⟩
        case round =>
          obtain ⟨j, c', hj, rfl, rfl, hsc, hkw⟩ := hrel
          have yc := yb.kp hkw (fun h => h)
          have z0 := yc.cell 0
          have z1 := yc.cell 1
          have z2 := yc.cell 2
          simp at z0 z1 z2
          have hlz := yc.lt
          by_cases hlj : j < x.size
          · have hcb := (hkw.cell (p := ⟨wo.heap.size + 1, j, none⟩) (World.block_lt_of_cell? W2 _ (HBY.out j hlj)) (fun h => h)).trans (HBY.out j hlj)
            have hd := drop_here (l := x.data.toList) (k := j) (by rw [HXS.out]; exact hlj)
            have hgd : x.data.toList.getD j 0 = x.data.toList[j]?.getD 0 := by rw [List.getD_eq_getElem?_getD]
            rw [hgd] at hcb
            generalize x.data.toList[j]?.getD 0 = c at hcb hd
            have hg2 := hsc.out
            rw [hd] at hg2
            simp only [gapScan] at hg2
            have hcl := c.toNat_lt
            by_cases hbad : c = 10 ∨ ((c' || c == 35) = false ∧ blankB c = false)
            · rw [if_pos hbad] at hg2; cases hg2
            rw [if_neg hbad] at hg2
            have c10 : c ≠ 10 := fun h => hbad (.inl h)
            have e10 : ((c.toNat : Int) == 10) = false := by rw [beq_eq_false_iff_ne]; intro e; exact c10 (UInt8.toNat_inj.1 (by simp; omega))
            cases c' with
            | true =>
              have HS := Lib.hid hg2
              clear hg2 hd hgd hbad c10 hsc HG
              go_wp2
              exact ⟨⟨j + 1, true, by omega, by go_num, rfl, HS, hkw⟩, by simp [intOf]; omega⟩
            | false =>
              by_cases c35 : c = 35
              · subst c35
                have HS := Lib.hid hg2
                clear hg2 hd hgd hbad c10 hsc HG
                go_wp2
                exact ⟨⟨j + 1, true, by omega, by go_num, rfl, HS, hkw⟩, by simp [intOf]; omega⟩
              have h35 : (c == 35) = false := beq_eq_false_iff_ne.2 c35
              have hbl : blankB c = true := by
                cases hb : blankB c
                · exact absurd (.inr ⟨by rw [h35]; rfl, hb⟩) hbad
                · rfl
              rw [h35, Bool.or_false] at hg2
              have HS := Lib.hid hg2
              simp only [blankB, Bool.or_eq_true, beq_iff_eq] at hbl
              clear hg2 hd hgd hbad c10 hsc HG h35 c35
              rcases hbl with (rfl | rfl) | rfl
              all_goals
                go_wp2
                exact ⟨⟨j + 1, false, by omega, by go_num, rfl, HS, hkw⟩, by simp [intOf]; omega⟩
          · obtain rfl : j = x.size := by omega
            have hcc : c' = cm := by have := hsc.out; rw [List.drop_eq_nil_of_le (by rw [HXS.out]; omega)] at this; simpa [gapScan] using this
            rw [hcf] at hcc
            subst hcc
            clear hsc HG HBY
            have hk0w : K0 w wr := (hk.trans k12).trans hkw
            have hk2w : K0 w2 wr := (hk2r.trans k12).trans hkw
            have dn : decide (s.size < p + 1) = false := decide_eq_false (by omega)
            have di : decide ((s.size : Int) < (p : Int) + 1) = false := decide_eq_false (by omega)
            go_wp2
            go_quiet (fail)
            go_wp2
            exact ⟨⟨q + 1, p + 1, by omega, by omega, by go_num, by go_num, rfl, hk0w.drewN _, hk2w.drewN _, HNX⟩, by simp [intOf]; omega⟩
      · have hql := hlastn.2 _ hnx
        have eL : ((q : Int) == (T.length : Int) - 1) = false := by rw [beq_eq_false_iff_ne]; omega
        have hw1 : IntKind.i64.wrap ((T.length : Int) - 1) = (T.length : Int) - 1 := IntWalk.i64_in _ (by omega)
        have HNX := Lib.hid (fun _ => hnx : q + 1 < T.length → TilesFrom s.data.toList (p + n) (T.drop (q + 1)))
        have hcf : cm = false := by cases cm; rfl; exact absurd (hcm rfl) (by decide)
        have HG := Lib.hid hgs
        obtain ⟨tx, htt⟩ : ∃ tx, s.extract p (p + n) = tx := ⟨_, rfl⟩
        rw [htt] at r1 hsz
        clear hlastn hnx htx hgs hcm  
        obtain ⟨x, hxe⟩ : ∃ x, s.extract a p = x := ⟨_, rfl⟩
        have hxl : x.data.toList = seg s.data.toList a p := by rw [← hxe, extract_list]; rfl
        have hxs : x.data.toList.length = x.size := by simp
        have hx20 : x.size ≤ 1048576 := by rw [← hxe, ByteArray.size_extract]; omega
        rw [← hxl] at HG
        have HXS := Lib.hid hxs
        clear hxl hxs
        go_wp2
        obtain ⟨wo, rfl⟩ : ∃ wo : World, wo = wr := ⟨_, rfl⟩
        have k12 : K0 wo (Lib.bytesWorld (wo.alloc (.cells #[.int .i64 1, .string tx, .int .i64 (p : Int)] 42)) 5 x) := ((Kp.refl _ wo).alloc _).trans (k0_bytes _ _ _)
        have yb := (Blk.new wo 42 #[.int .i64 1, .string tx, .int .i64 (p : Int)]).kp (k0_bytes (wo.alloc (.cells #[.int .i64 1, .string tx, .int .i64 (p : Int)] 42)) 5 x) (fun h => h)
        have hby : ∀ j, j < x.size → (Lib.bytesWorld (wo.alloc (.cells #[.int .i64 1, .string tx, .int .i64 (p : Int)] 42)) 5 x).cell? ⟨wo.heap.size + 1, j, none⟩ = some (.int .u8 ((x.data.toList.getD j 0).toNat : Int)) := fun j hj => by have := Lib.bytesWorld_cell (wo.alloc (.cells #[.int .i64 1, .string tx, .int .i64 (p : Int)] 42)) 5 x j hj; rwa [World.size_alloc] at this
        generalize Lib.bytesWorld (wo.alloc (.cells #[.int .i64 1, .string tx, .int .i64 (p : Int)] 42)) 5 x = W2 at *
        have HBY := Lib.hid hby
        clear hby
        go_loopw [5, 57] (fun cv i wi => ∃ (j : Nat) (c' : Bool), j ≤ x.size ∧ i = .int .i64 (j : Int) ∧ cv = .bool c' ∧ Hid (gapScan c' (x.data.toList.drop j) = some cm) ∧ K0 W2 wi)
          (fun cv i wi => x.size - (intOf i).toNat)
        case atStart => exact ⟨0, false, by omega, rfl, rfl, Lib.hid (by rw [List.drop_zero]; exact HG.out), Kp.refl _ _⟩
        case round =>
          obtain ⟨j, c', hj, rfl, rfl, hsc, hkw⟩ := hrel
          have yc := yb.kp hkw (fun h => h)
          have z0 := yc.cell 0
          have z1 := yc.cell 1
          have z2 := yc.cell 2
          simp at z0 z1 z2
          have hlz := yc.lt
          by_cases hlj : j < x.size
          · have hcb := (hkw.cell (p := ⟨wo.heap.size + 1, j, none⟩) (World.block_lt_of_cell? W2 _ (HBY.out j hlj)) (fun h => h)).trans (HBY.out j hlj)
            have hd := drop_here (l := x.data.toList) (k := j) (by rw [HXS.out]; exact hlj)
            have hgd : x.data.toList.getD j 0 = x.data.toList[j]?.getD 0 := by rw [List.getD_eq_getElem?_getD]
            rw [hgd] at hcb
            generalize x.data.toList[j]?.getD 0 = c at hcb hd
            have hg2 := hsc.out
            rw [hd] at hg2
            simp only [gapScan] at hg2
            have hcl := c.toNat_lt
            by_cases hbad : c = 10 ∨ ((c' || c == 35) = false ∧ blankB c = false)
            · rw [if_pos hbad] at hg2; cases hg2
            rw [if_neg hbad] at hg2
            have c10 : c ≠ 10 := fun h => hbad (.inl h)
            have e10 : ((c.toNat : Int) == 10) = false := by rw [beq_eq_false_iff_ne]; intro e; exact c10 (UInt8.toNat_inj.1 (by simp; omega))
            cases c' with
            | true =>
              have HS := Lib.hid hg2
              clear hg2 hd hgd hbad c10 hsc HG
              go_wp2
              exact ⟨⟨j + 1, true, by omega, by go_num, rfl, HS, hkw⟩, by simp [intOf]; omega⟩
            | false =>
              by_cases c35 : c = 35
              · subst c35
                have HS := Lib.hid hg2
                clear hg2 hd hgd hbad c10 hsc HG
                go_wp2
                exact ⟨⟨j + 1, true, by omega, by go_num, rfl, HS, hkw⟩, by simp [intOf]; omega⟩
              have h35 : (c == 35) = false := beq_eq_false_iff_ne.2 c35
              have hbl : blankB c = true := by
                cases hb : blankB c
                · exact absurd (.inr ⟨by rw [h35]; rfl, hb⟩) hbad
                · rfl
              rw [h35, Bool.or_false] at hg2
              have HS := Lib.hid hg2
              simp only [blankB, Bool.or_eq_true, beq_iff_eq] at hbl
              clear hg2 hd hgd hbad c10 hsc HG h35 c35
              rcases hbl with (rfl | rfl) | rfl
              all_goals
                go_wp2
                exact ⟨⟨j + 1, false, by omega, by go_num, rfl, HS, hkw⟩, by simp [intOf]; omega⟩
          · obtain rfl : j = x.size := by omega
            have hcc : c' = cm := by have := hsc.out; rw [List.drop_eq_nil_of_le (by rw [HXS.out]; omega)] at this; simpa [gapScan] using this
            rw [hcf] at hcc
            subst hcc
            clear hsc HG HBY
            have hk0w : K0 w wr := (hk.trans k12).trans hkw
            have hk2w : K0 w2 wr := (hk2r.trans k12).trans hkw
            have dn : decide (s.size < p + n) = false := decide_eq_false (by omega)
            have di : decide ((s.size : Int) < (p : Int) + n) = false := decide_eq_false (by omega)
            go_wp2
            go_quiet (fail)
            go_wp2
            exact ⟨⟨q + 1, p + n, by omega, by omega, by go_num, by go_num, rfl, hk0w.drewN _, hk2w.drewN _, HNX⟩, by simp [intOf]; omega⟩
      · have hql := hlastn.2 _ hnx
        have eL : ((q : Int) == (T.length : Int) - 1) = false := by rw [beq_eq_false_iff_ne]; omega
        have hw1 : IntKind.i64.wrap ((T.length : Int) - 1) = (T.length : Int) - 1 := IntWalk.i64_in _ (by omega)
        have hem : ((s.extract p (p + 1)).toList == [10]) = true := by rw [beq_iff_eq, ByteArray.toList_eq, ← ba_ten htx]
        have HNX := Lib.hid (fun _ => hnx : q + 1 < T.length → TilesFrom s.data.toList (p + 1) (T.drop (q + 1)))
        have HG := Lib.hid hgs
        obtain ⟨tx, htt⟩ : ∃ tx, s.extract p (p + 1) = tx := ⟨_, rfl⟩
        rw [htt] at r1 hsz
        rw [htt] at hem
        clear hlastn hnx htx hgs hcm h10 
        obtain ⟨x, hxe⟩ : ∃ x, s.extract a p = x := ⟨_, rfl⟩
        have hxl : x.data.toList = seg s.data.toList a p := by rw [← hxe, extract_list]; rfl
        have hxs : x.data.toList.length = x.size := by simp
        have hx20 : x.size ≤ 1048576 := by rw [← hxe, ByteArray.size_extract]; omega
        rw [← hxl] at HG
        have HXS := Lib.hid hxs
        clear hxl hxs
        go_wp2
        obtain ⟨wo, rfl⟩ : ∃ wo : World, wo = wr := ⟨_, rfl⟩
        have k12 : K0 wo (Lib.bytesWorld (wo.alloc (.cells #[.int .i64 2, .string tx, .int .i64 (p : Int)] 42)) 5 x) := ((Kp.refl _ wo).alloc _).trans (k0_bytes _ _ _)
        have yb := (Blk.new wo 42 #[.int .i64 2, .string tx, .int .i64 (p : Int)]).kp (k0_bytes (wo.alloc (.cells #[.int .i64 2, .string tx, .int .i64 (p : Int)] 42)) 5 x) (fun h => h)
        have hby : ∀ j, j < x.size → (Lib.bytesWorld (wo.alloc (.cells #[.int .i64 2, .string tx, .int .i64 (p : Int)] 42)) 5 x).cell? ⟨wo.heap.size + 1, j, none⟩ = some (.int .u8 ((x.data.toList.getD j 0).toNat : Int)) := fun j hj => by have := Lib.bytesWorld_cell (wo.alloc (.cells #[.int .i64 2, .string tx, .int .i64 (p : Int)] 42)) 5 x j hj; rwa [World.size_alloc] at this
        generalize Lib.bytesWorld (wo.alloc (.cells #[.int .i64 2, .string tx, .int .i64 (p : Int)] 42)) 5 x = W2 at *
        have HBY := Lib.hid hby
        clear hby
        go_loopw [5, 57] (fun cv i wi => ∃ (j : Nat) (c' : Bool), j ≤ x.size ∧ i = .int .i64 (j : Int) ∧ cv = .bool c' ∧ Hid (gapScan c' (x.data.toList.drop j) = some cm) ∧ K0 W2 wi)
          (fun cv i wi => x.size - (intOf i).toNat)
        case atStart => exact ⟨0, false, by omega, rfl, rfl, Lib.hid (by rw [List.drop_zero]; exact HG.out), Kp.refl _ _⟩
        case round =>
          obtain ⟨j, c', hj, rfl, rfl, hsc, hkw⟩ := hrel
          have yc := yb.kp hkw (fun h => h)
          have z0 := yc.cell 0
          have z1 := yc.cell 1
          have z2 := yc.cell 2
          simp at z0 z1 z2
          have hlz := yc.lt
          by_cases hlj : j < x.size
          · have hcb := (hkw.cell (p := ⟨wo.heap.size + 1, j, none⟩) (World.block_lt_of_cell? W2 _ (HBY.out j hlj)) (fun h => h)).trans (HBY.out j hlj)
            have hd := drop_here (l := x.data.toList) (k := j) (by rw [HXS.out]; exact hlj)
            have hgd : x.data.toList.getD j 0 = x.data.toList[j]?.getD 0 := by rw [List.getD_eq_getElem?_getD]
            rw [hgd] at hcb
            generalize x.data.toList[j]?.getD 0 = c at hcb hd
            have hg2 := hsc.out
            rw [hd] at hg2
            simp only [gapScan] at hg2
            have hcl := c.toNat_lt
            by_cases hbad : c = 10 ∨ ((c' || c == 35) = false ∧ blankB c = false)
            · rw [if_pos hbad] at hg2; cases hg2
            rw [if_neg hbad] at hg2
            have c10 : c ≠ 10 := fun h => hbad (.inl h)
            have e10 : ((c.toNat : Int) == 10) = false := by rw [beq_eq_false_iff_ne]; intro e; exact c10 (UInt8.toNat_inj.1 (by simp; omega))
            cases c' with
            | true =>
              have HS := Lib.hid hg2
              clear hg2 hd hgd hbad c10 hsc HG
              go_wp2
              exact ⟨⟨j + 1, true, by omega, by go_num, rfl, HS, hkw⟩, by simp [intOf]; omega⟩
            | false =>
              by_cases c35 : c = 35
              · subst c35
                have HS := Lib.hid hg2
                clear hg2 hd hgd hbad c10 hsc HG
                go_wp2
                exact ⟨⟨j + 1, true, by omega, by go_num, rfl, HS, hkw⟩, by simp [intOf]; omega⟩
              have h35 : (c == 35) = false := beq_eq_false_iff_ne.2 c35
              have hbl : blankB c = true := by
                cases hb : blankB c
                · exact absurd (.inr ⟨by rw [h35]; rfl, hb⟩) hbad
                · rfl
              rw [h35, Bool.or_false] at hg2
              have HS := Lib.hid hg2
              simp only [blankB, Bool.or_eq_true, beq_iff_eq] at hbl
              clear hg2 hd hgd hbad c10 hsc HG h35 c35
              rcases hbl with (rfl | rfl) | rfl
              all_goals
                go_wp2
                exact ⟨⟨j + 1, false, by omega, by go_num, rfl, HS, hkw⟩, by simp [intOf]; omega⟩
          · obtain rfl : j = x.size := by omega
            have hcc : c' = cm := by have := hsc.out; rw [List.drop_eq_nil_of_le (by rw [HXS.out]; omega)] at this; simpa [gapScan] using this
            clear hcc
            clear hsc HG HBY
            have hk0w : K0 w wr := (hk.trans k12).trans hkw
            have hk2w : K0 w2 wr := (hk2r.trans k12).trans hkw
            cases c'
            all_goals
              have dn : decide (s.size < p + 1) = false := decide_eq_false (by omega)
              have di : decide ((s.size : Int) < (p : Int) + 1) = false := decide_eq_false (by omega)
              go_wp2
              go_quiet (fail)
              go_wp2
              exact ⟨⟨q + 1, p + 1, by omega, by omega, by go_num, by go_num, rfl, hk0w.drewN _, hk2w.drewN _, HNX⟩, by simp [intOf]; omega⟩
    · obtain rfl : q = T.length := by omega
      go_wp2
      go_ret
      exact ⟨by simp, hk.below⟩
end Go.Proofs.YtobofhiakgohfaaDoor
