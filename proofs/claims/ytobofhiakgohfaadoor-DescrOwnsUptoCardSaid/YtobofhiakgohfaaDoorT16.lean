/- token: Number at the empty word; the walk of TokenWords. -/
import Derived.Test.YtobofhiakgohfaaDoorT15
import Derived.Test.YtobofhiakgohfaaDoorTB
import Derived.Test.YtobofhiakgohfaaDoorTC
set_option linter.unusedVariables false
set_option linter.unusedSimpArgs false
namespace Go.Proofs.YtobofhiakgohfaaDoor
open Go.RowKit

/-- The variable strconv.ErrSyntax holds an error. -/
def SynV (w : World) : Prop := ∃ ev, w.cell? ⟨1, 0, none⟩ = some ev ∧ (ev = .nilIface ∨ ∃ te pe, ev = .iface te pe)

set_option maxRecDepth 100000 in
theorem atoi_empty (w : World) (hv : SynV w) : Calls Tryd.prog 61 #[.string ⟨#[]⟩] w fun e w' => ∃ N, e = .returned (.tuple #[.int .i64 0, .iface 153 (.pointer (some ⟨N, 0, none⟩))]) ∧ K0 w w' := by
  obtain ⟨ev, h1, h2⟩ := hv
  have HI := Lib.hid (Tryd.internal_strconv_Atoi_empty w)
  have HE := Lib.hid (Tryd.strconv_toError_syntax ⟨#[65, 116, 111, 105]⟩ ⟨#[]⟩ 0 0 ev w (by decide) h1 h2)
  clear h1 h2
  go_enter Tryd.func61, Tryd.ntmps61
  go_wp2_with fail
  refine HI.out.mono ?_
  rintro e w1 ⟨rfl, rfl⟩
  go_wp2_with fail
  refine HE.out.mono ?_
  rintro e w2 ⟨N, rfl, _, _, hb⟩
  go_wp2
  go_ret2
  exact ⟨N, rfl, Kp.of_below hb⟩

theorem SynV.kp {S : Nat → Prop} {w w' : World} (h : SynV w) (hk : Kp S w w') (hs : ¬ S 1) : SynV w' := by
  obtain ⟨ev, h1, h2⟩ := h
  exact ⟨ev, (hk.cell (World.block_lt_of_cell? w _ h1) hs).trans h1, h2⟩

set_option maxRecDepth 100000 in
set_option maxHeartbeats 1000000 in
/-- Number, at any word. -/
theorem number_full (s : ByteArray) (w : World) (hs : s.size ≤ 140737488355328) (hv : SynV w) : Calls Tryd.prog 28 #[.string s] w (NumPost s.data.toList w) := by
  by_cases h0 : s.data.toList = []
  · obtain rfl : s = ⟨#[]⟩ := ba_ext h0
    have HT := Lib.hid (fun W => trimTen ⟨#[]⟩ W (by decide))
    have HA := Lib.hid (fun W h => atoi_empty W h)
    rw [show Lib.trimS (ByteArray.mk #[]).data.toList tens = [] by decide] at HT
    go_enter Tryd.func28, Tryd.ntmps28
    go_wp2_with fail
    refine (HT.out _).mono ?_
    rintro e w1 ⟨rfl, hb⟩
    have hv1 := hv.kp (Kp.of_below hb) (fun h => h)
    go_wp2_with fail
    refine (HA.out _ hv1).mono ?_
    rintro e w2 ⟨N, rfl, hk2⟩
    go_wp2
    go_ret2
    exact ⟨rfl, (Kp.of_below hb).trans hk2⟩
  · exact number_any s w hs h0

theorem itemR_form (s : ByteArray) : ∃ n lo hi ok, itemR s = (itemVal n lo hi, ok) := by
  unfold itemR
  split
  · exact ⟨_, _, _, _, rfl⟩
  · split
    · exact ⟨_, _, _, _, rfl⟩
    · split
      · exact ⟨_, _, _, _, rfl⟩
      · exact ⟨_, _, _, _, rfl⟩

set_option maxRecDepth 100000 in
set_option maxHeartbeats 4000000 in
theorem tokenWords_walk (w : World) (hv : SynV w) (s : ByteArray) (hs : s.size ≤ 140737488355328) : Calls Tryd.prog 7 #[.string s] w fun e w' => e = .returned (.bool true) ∧ Below w.heap.size w w' := by
  obtain ⟨n, lo, hi, ok, hI⟩ := itemR_form s
  have HI := Lib.hid (fun W => item_any s W hs)
  have HJ := Lib.hid (fun W => ritem_any s W hs)
  unfold ItemPost at HI HJ
  rw [hI] at HI HJ
  simp only [itemVal] at HI HJ
  have HN := Lib.hid (fun W h => number_full s W hs h)
  have HM := Lib.hid (fun W => rnumber_any s W hs)
  unfold NumPost at HN HM
  have HX := Lib.hid (fun W => hex_any s W hs)
  have HY := Lib.hid (fun W => rhex_any s W hs)
  unfold HexPost at HX HY
  obtain ⟨b, hb⟩ : ∃ b, b = (hexR s.data.toList).isSome := ⟨_, rfl⟩
  obtain ⟨bs, hbs⟩ : ∃ bs, bs = (hexR s.data.toList).getD [] := ⟨_, rfl⟩
  rw [← hb, ← hbs] at HX HY
  have HA := Lib.hid (fun W => name_any s W hs)
  have HB := Lib.hid (fun W => rname_any s W hs)
  obtain ⟨c, hc⟩ : ∃ c, c = nameB s.data.toList := ⟨_, rfl⟩
  rw [← hc] at HA HB
  obtain ⟨m, is, hN, hM, h0⟩ : ∃ (m : Int) (is : Bool), (∀ W, SynV W → Calls Tryd.prog 28 #[.string s] W fun e w' => e = .returned (.tuple #[.int .i64 m, .bool is]) ∧ K0 W w') ∧ (∀ W, Calls Tryd.prog 29 #[.string s] W fun e w' => e = .returned (.tuple #[.int .i64 m, .bool is]) ∧ K0 W w') ∧ (is = true ∨ m = 0) :=
    ⟨_, _, HN.out, HM.out, by cases numR s.data.toList; exact .inr rfl; exact .inl rfl⟩
  clear hI hb hbs hc HN HM
  have HN := Lib.hid hN
  have HM := Lib.hid hM
  clear hN hM
  go_enter Tryd.func7, Tryd.ntmps7
  go_wp2_with fail
  refine (fixed_any _).mono ?_
  rintro e w1 ⟨rfl, hk1⟩
  go_wp2_with fail
  refine (HI.out _).mono ?_
  rintro e w2 ⟨rfl, hk2⟩
  go_wp2_with fail
  refine (HJ.out _).mono ?_
  rintro e w3 ⟨rfl, hk3⟩
  have x1 := (Blk.new w1 47 #[.string n, .int .i64 lo, .int .i64 hi, .int .i64 0])
  have hk02 := hk1.trans hk2
  have y3 := (Blk.new w2 47 #[.string n, .int .i64 lo, .int .i64 hi, .int .i64 0]).kp hk3 (fun h => h)
  have hk03 : K0 w w3 := (hk02.alloc _).trans hk3
  have hv3 := hv.kp hk03 (fun h => h)
  go_wp2_with fail
  refine (HN.out _ (by exact hv3.kp ((Kp.refl (fun _ => False) w3).alloc _) (fun h => h))).mono ?_
  rintro e w4 ⟨rfl, hk4⟩
  go_wp2_with fail
  refine (HM.out _).mono ?_
  rintro e w5 ⟨rfl, hk5⟩
  go_wp2_with fail
  refine (HX.out _).mono ?_
  rintro e w6 ⟨u6, rfl, hown6, hk6⟩
  go_wp2_with fail
  refine (HY.out _).mono ?_
  rintro e w7 ⟨u7, rfl, hown7, hk7⟩
  go_wp2_with fail
  refine (HA.out _).mono ?_
  rintro e w8 ⟨rfl, hk8⟩
  go_wp2_with fail
  refine (HB.out _).mono ?_
  rintro e w9 ⟨rfl, hk9⟩
  have hk39 : K0 w3 w9 := ((((((Kp.refl _ w3).alloc (.cells #[.string n, .int .i64 lo, .int .i64 hi, .int .i64 0] 47)).trans hk4).trans hk5).trans hk6).trans hk7).trans (hk8.trans hk9)
  have hk49 := ((((hk4.trans hk5).trans hk6).trans hk7).trans hk8).trans hk9
  have ya := y3.kp hk39 (fun h => h)
  have yb := (Blk.new w3 47 #[.string n, .int .i64 lo, .int .i64 hi, .int .i64 0]).kp hk49 (fun h => h)
  have a0 := ya.cell 0
  have a1 := ya.cell 1
  have a2 := ya.cell 2
  have a3 := ya.cell 3
  have b0 := yb.cell 0
  have b1 := yb.cell 1
  have b2 := yb.cell 2
  have b3 := yb.cell 3
  simp at a0 a1 a2 a3 b0 b1 b2 b3
  obtain ⟨A6, c6, rfl, _, _⟩ := own_form hown6
  obtain ⟨A7, c7, rfl, _, _⟩ := own_form hown7
  have hown69 := own_kp hown6 (hk7.trans (hk8.trans hk9)) (fun g _ h => h)
  have hown79 := own_kp hown7 (hk8.trans hk9) (fun g _ h => h)
  have cv6 := conv_str (P := Tryd.prog) (w := w9) 44 9 5 Tryd.underlying44 Tryd.underlying5 Tryd.underlying9 (Reads.of_own hown69) rfl (c := c6)
  have cv7 := conv_str (P := Tryd.prog) (w := w9) 44 9 5 Tryd.underlying44 Tryd.underlying5 Tryd.underlying9 (Reads.of_own hown79) rfl (c := c7)
  have hk09 : K0 w w9 := hk03.trans hk39
  rcases h0 with rfl | rfl
  all_goals
    go_wp2
    all_goals
      go_ret
      refine ⟨?_, hk09.below⟩
      first | rfl | simp
end Go.Proofs.YtobofhiakgohfaaDoor
