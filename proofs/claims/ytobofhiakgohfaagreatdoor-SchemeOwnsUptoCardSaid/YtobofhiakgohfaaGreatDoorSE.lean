/- scheme.Build and scheme.Read. Like lists: the program's and the reference's. Like shapes, like schemes. Like schemes. scheme.Same. -/
import Derived.Test.YtobofhiakgohfaaGreatDoorSD
import Derived.Test.YtobofhiakgohfaaGreatDoorSB
import Derived.Laws.StructEq
set_option linter.unusedVariables false
set_option linter.unusedSimpArgs false
namespace Go.Proofs.YtobofhiakgohfaaGreatDoor
open Go.RowKit Go.Maps Go.WideMaps

theorem OutB.mono {w : World} {b b' : Nat} {v : Value} {out : List ShpX} (h : OutB w b v out) (hb : b' ≤ b) : OutB w b' v out := ⟨own_mono h.row hb, fun x hx => ⟨(h.shs x hx).1.mono hb, (h.shs x hx).2⟩, h.aps, h.app⟩
/-- A scheme, the place and the error. -/
def schR (d : DescD) : SchD × Int × Int := match buildR d with
  | .error (p, er) => ([], p, er)
  | .ok out => (out, 0, 0)
/-- What Build and Read answer. -/
def BuildPost (R : SchD × Int × Int) (w : World) (e : Ending) (w' : World) : Prop :=
  ∃ vo out, out.map ShpX.d = R.1 ∧ e = .returned (.tuple #[.agg #[vo], .int .i64 R.2.1, .int .i64 R.2.2]) ∧ OutB w' w.heap.size vo out ∧ out.length ≤ 32 ∧ K0 w w'

theorem fault_as (p e : Int) (w : World) : (Instr.typeAssert (faultV p e) 85 88 false).run Tryz.prog w = .ok (.agg #[.int .i64 p, .int .i64 e]) w := by kernel_rfl
theorem make80 (W : World) : (Instr.makeMap 80 none).run Tryz.prog W = .ok (.map (some W.heap.size)) (W.alloc (.map #[] 0)) := by kernel_rfl

set_option maxRecDepth 100000 in
set_option maxHeartbeats 8000000 in
theorem build_any (w : World) (B : Nat) (v : Value) (d : DescD) (hv : DescV w B v d) (hB : B ≤ w.heap.size) (hP : PowV w) :
    Calls Tryz.prog 16 #[v] w (BuildPost (schR d) w) := by
  obtain ⟨vc, vs, rfl, hvc, hvs⟩ := id hv
  clear hvc hvs
  obtain ⟨wa, hwa⟩ : ∃ wa, wa = w.alloc (.cells #[vc, vs] 42) := ⟨_, rfl⟩
  have ka : K0 w wa := by rw [hwa]; exact (Kp.refl _ _).alloc _
  have sa : wa.heap.size = w.heap.size + 1 := by rw [hwa]; simp
  obtain ⟨wb, hwb⟩ : ∃ wb, wb = wa.alloc (.cells #[.slice none 0 0] 25) := ⟨_, rfl⟩
  have ab : K0 wa wb := by rw [hwb]; exact (Kp.refl _ _).alloc _
  have sb : wb.heap.size = w.heap.size + 1 + 1 := by rw [hwb]; simp [sa]
  obtain ⟨wm, hwm⟩ : ∃ wm, wm = wb.alloc (.map #[] 0) := ⟨_, rfl⟩
  have bm : K0 wb wm := by rw [hwm]; exact (Kp.refl _ _).alloc _
  have sm : wm.heap.size = w.heap.size + 1 + 1 + 1 := by rw [hwm]; simp [sb]
  obtain ⟨wg, hwg⟩ : ∃ wg, wg = wm.alloc (.cells #[.map (some (w.heap.size + 1 + 1)), .slice none 0 0, .slice none 0 0] 83) := ⟨_, rfl⟩
  have mg : K0 wm wg := by rw [hwg]; exact (Kp.refl _ _).alloc _
  have bg : K0 wb wg := bm.trans mg
  have ag : K0 wa wg := ab.trans bg
  have kg : K0 w wg := ka.trans ag
  have sg := kg.size
  have ya : Blk wg w.heap.size 42 #[vc, vs] := by have := Blk.new w 42 #[vc, vs]; rw [← hwa] at this; exact this.kp ag (fun h => h)
  have yb : Blk wg (w.heap.size + 1) 25 #[.slice none 0 0] := by have := Blk.new wa 25 #[.slice none 0 0]; rw [← hwb, sa] at this; exact this.kp bg (fun h => h)
  have hM : wm.ownsMap Tryz.prog 9 heldR (w.heap.size + 1 + 1) 0 (.map []) := by rw [hwm, ← sb]; exact World.ownsMap_made _ _ _ _
  have yg : Blk wg (w.heap.size + 1 + 1 + 1) 83 #[.map (some (w.heap.size + 1 + 1)), .slice none 0 0, .slice none 0 0] := by have := Blk.new wm 83 #[.map (some (w.heap.size + 1 + 1)), .slice none 0 0, .slice none 0 0]; rw [← hwg, sm] at this; exact this
  have AL := Lib.hid (all8_any wg (w.heap.size + 1 + 1 + 1) (w.heap.size + 1 + 1) _ d yg (own_kmap hM mg (fun h => h)) B (hv.k0 hB kg) (by omega) (by omega) (by omega) (hP.k0 kg))
  have HW := Lib.hid (show w.heap.size + 1 + 1 + 1 < wg.heap.size from yg.lt)
  clear hM yg sg
  have hmk := make80
  go_enter Tryz.func16, Tryz.ntmps16
  go_wp2_with fail
  rw [← hwa, ← hwb, ← hwm, ← hwg]
  clear hwa hwb hwm hwg sa sb sm ka ab bm mg bg ag hmk
  refine AL.out.mono ?_
  rintro e w2 h
  rcases h with ⟨pp, er, hE, rfl, hk2⟩ | ⟨out, vt, vo, hE, rfl, hB2, hO2, hl2, hk2⟩
  · have hq1 := fun W => fault_ne pp er W
    have hq2 := fun W => fault_as pp er W
    have kw : K0 w w2 := kg.trans' hk2 (fun i hi h => by rcases h with h | h <;> omega)
    have hW := HW.out
    have yb2 := yb.kp hk2 (fun h => by rcases h with h | h <;> omega)
    have c0 := yb2.cell 0
    have f0 := yb2.frozen 0
    have lb := yb2.lt
    simp at c0
    unfold faultV at hq1 hq2 ⊢
    go_wp2
    go_region
    go_wp2
    refine bodyPost_ret (v := .tuple #[.agg #[.slice none 0 0], .int .i64 pp, .int .i64 er]) ?_ rfl ?_
    · have yb4 := (yb2.set_ 0 (.slice none 0 0)).alloc (.cells #[.int .i64 pp, .int .i64 er] 88)
      have c4 := yb4.cell 0
      simp at c4
      simp [results, Tryz.f16, go_sem, c4]
    · refine ⟨.slice none 0 0, [], ?_, ?_, OutB.nil _ _, by simp, ?_⟩
      · simp [schR, hE]
      · simp [schR, hE]
      · exact ((kw.setCell (p := ⟨w.heap.size + 1, 0, none⟩) (.inl (by simp)) _).alloc _).drew
  · have kw : K0 w w2 := kg.trans' hk2 (fun i hi h => by rcases h with h | h <;> omega)
    have hW := HW.out
    have yb2 := yb.kp hk2 (fun h => by rcases h with h | h <;> omega)
    have c0 := yb2.cell 0
    have f0 := yb2.frozen 0
    have lb := yb2.lt
    simp at c0
    obtain ⟨Ao, co, rfl, ho1, ho2⟩ := own_form hO2.row
    have r2 := hB2.cell 2
    have lg := hB2.lt
    simp at r2
    go_wp2
    have yb3 := yb2.set_ 0 (.slice Ao out.length co)
    have c3 := yb3.cell 0
    simp at c3
    refine bodyPost_ret (v := .tuple #[.agg #[.slice Ao out.length co], .int .i64 0, .int .i64 0]) ?_ rfl ?_
    · simp [results, Tryz.f16, go_sem, c3]
    · refine ⟨.slice Ao out.length co, out, ?_, ?_, ?_, hl2, ?_⟩
      · simp [schR, hE]
      · simp [schR, hE]
      · exact (hO2.kt ((Kp.refl (fun k => k = w.heap.size + 1) w2).setCell (p := ⟨w.heap.size + 1, 0, none⟩) (.inr rfl) _) (fun g cs hg h => by subst h; have := hg.symm.trans yb2; cases this) (fun g cs hg h => by subst h; have := hg.symm.trans yb2; cases this) (fun g cs hg h => by obtain ⟨_, h⟩ := h; subst h; have := hg.symm.trans yb2; cases this)).mono (by omega)
      · exact kw.setCell (p := ⟨w.heap.size + 1, 0, none⟩) (.inl (by simp)) _

/-- A text's scheme. -/
def readS (s : ByteArray) : SchD × Int × Int := match parseR s with
  | .error (p, er) => ([], p, er)
  | .ok d => schR d

set_option maxRecDepth 100000 in
set_option maxHeartbeats 8000000 in
theorem read_any (w : World) (s : ByteArray) (hs : s.size ≤ 1048576) (hP : PowV w) :
    Calls Tryz.prog 10 #[.string s] w (BuildPost (readS s) w) := by
  obtain ⟨wa, hwa⟩ : ∃ wa, wa = w.alloc (.cells #[.slice none 0 0] 25) := ⟨_, rfl⟩
  have ka : K0 w wa := by rw [hwa]; exact (Kp.refl _ _).alloc _
  have ya : Blk wa w.heap.size 25 #[.slice none 0 0] := by rw [hwa]; exact Blk.new _ _ _
  have PA := Lib.hid (parse_desc s wa hs)
  go_enter Tryz.func10, Tryz.ntmps10
  go_wp2_with fail
  rw [← hwa]
  clear hwa
  refine PA.out.mono ?_
  rintro e w2 h
  rcases h with ⟨pp, er, hE, hne, rfl, hk2⟩ | ⟨d, A, n, c, A2, n2, c2, hE, hf, rfl, hD, hn, hn2, hk2⟩
  · have y2 := ya.kp hk2 (fun h => h)
    have c0 := y2.cell 0
    have f0 := y2.frozen 0
    have l0 := y2.lt
    simp at c0
    have HR : Hid (readS s = ([], pp, er)) := Lib.hid (by unfold readS; rw [hE])
    have kw : K0 w w2 := ka.trans hk2
    go_wp2
    have y3 := (y2.set_ 0 (.slice none 0 0)).alloc (.cells #[.slice none 0 0, .slice none 0 0] 42)
    have c3 := y3.cell 0
    simp at c3
    refine bodyPost_ret (v := .tuple #[.agg #[.slice none 0 0], .int .i64 pp, .int .i64 er]) ?_ rfl ?_
    · simp [results, Tryz.f10, go_sem, c3]
    · exact ⟨.slice none 0 0, [], by rw [HR.out]; rfl, by rw [HR.out], OutB.nil _ _, by simp, (kw.setCell (p := ⟨w.heap.size, 0, none⟩) (.inl (by simp)) _).alloc _⟩
  · clear hn hn2
    have HR : Hid (readS s = schR d) := Lib.hid (by unfold readS; rw [hE])
    have kw : K0 w w2 := ka.trans hk2
    have k3 : K0 w2 (w2.alloc (.cells #[.slice A n c, .slice A2 n2 c2] 42)) := (Kp.refl _ _).alloc _
    have BU := Lib.hid (build_any (w2.alloc (.cells #[.slice A n c, .slice A2 n2 c2] 42)) w2.heap.size _ d (hD.k0 (Nat.le_refl _) k3) (by simp) (hP.k0 (kw.trans k3)))
    have ya2 := (ya.kp hk2 (fun h => h)).kp k3 (fun h => h)
    clear hD hE hf
    generalize schR d = R at BU HR
    go_wp2_with fail
    refine BU.out.mono ?_
    rintro e w4 ⟨vo, out, h1, rfl, hO, hl, hk4⟩
    have y4 := ya2.kp hk4 (fun h => h)
    have c0 := y4.cell 0
    have f0 := y4.frozen 0
    have l0 := y4.lt
    simp at c0
    have hsz := (kw.trans k3).size
    have k4 : K0 w w4 := (kw.trans k3).trans hk4
    obtain ⟨Ao, co, rfl, ho1, ho2⟩ := own_form hO.row
    go_wp2
    have yb3 := y4.set_ 0 (.slice Ao out.length co)
    have c3 := yb3.cell 0
    simp at c3
    refine bodyPost_ret (v := .tuple #[.agg #[.slice Ao out.length co], .int .i64 R.2.1, .int .i64 R.2.2]) ?_ rfl ?_
    · simp [results, Tryz.f10, go_sem, c3]
    · refine ⟨.slice Ao out.length co, out, ?_, ?_, ?_, hl, ?_⟩
      · rw [HR.out]; exact h1
      · rw [HR.out]
      · exact (hO.kt ((Kp.refl (fun k => k = w.heap.size) w4).setCell (p := ⟨w.heap.size, 0, none⟩) (.inr rfl) _) (fun g cs hg h => by subst h; have := hg.symm.trans y4; cases this) (fun g cs hg h => by subst h; have := hg.symm.trans y4; cases this) (fun g cs hg h => by obtain ⟨_, h⟩ := h; subst h; have := hg.symm.trans y4; cases this)).mono (by omega)
      · exact k4.setCell (p := ⟨w.heap.size, 0, none⟩) (.inl (by simp)) _
end Go.Proofs.YtobofhiakgohfaaGreatDoor

namespace Go.Proofs.YtobofhiakgohfaaGreatDoor
open Go.RowKit

theorem neq61 (a b c d : Int) (w : World) : (binOp BinOp.neq 61 (.agg #[.int .i64 a, .int .i64 b]) (.agg #[.int .i64 c, .int .i64 d])).run Tryz.prog w = .ok (.bool (!decide (a = c ∧ b = d))) w := by
  have hS : Tryz.prog.underlying 61 = some (.struct (Tryz.prog.fieldsOf 61)) := by kernel_rfl
  have hp : Tryz.prog.stoodInHeld 61 = false := by kernel_rfl
  have u3 := Tryz.underlying3
  have a3 := Tryz.isAgg3
  have z3 := Tryz.sizeOf3
  rw [run_neq_struct, show (10000 : Nat) = 9999 + 1 from rfl, run_equalIn_agg w 9999 61 _ _ hS hp]
  simp only [Program.fieldsOf, Tryz.underlying61]
  go_simp
  by_cases h1 : a = c <;> by_cases h2 : b = d <;> simp [h1, h2]
theorem guard61 : Tryz.prog.eqGuardType Tryz.prog.depth 61 = false := by kernel_rfl

theorem dN (w : World) (a b : Nat) : ∃ n, (w.drewN a).drewN b = w.drewN n := ⟨a + b, by simp⟩
theorem take_more {α : Type} {l m : List α} {q : Nat} (h : l.take q = m.take q) (h1 : q < l.length) (h2 : q < m.length) (he : l[q] = m[q]) : l.take (q + 1) = m.take (q + 1) := by
  rw [List.take_succ_eq_append_getElem h1, List.take_succ_eq_append_getElem h2, h, he]
theorem take_all {α : Type} {l m : List α} (h : l.take l.length = m.take l.length) (hl : l.length = m.length) : l = m := by
  rw [List.take_length, hl, List.take_length] at h
  exact h
theorem ne_at {α : Type} {l m : List α} {q : Nat} (h1 : q < l.length) (h2 : q < m.length) (he : l[q] ≠ m[q]) : l ≠ m := by
  rintro rfl
  exact he rfl

set_option maxRecDepth 100000 in
set_option maxHeartbeats 2000000 in
theorem same59_any (w : World) (A A2 : Option Addr) (c c2 : Nat) (l m : List Sp) (hr : Reads w w.heap.size 2 A l.length (spcs l)) (hs : Reads w w.heap.size 2 A2 m.length (spcs m)) (hl : l.length ≤ 1048576) (hm : m.length ≤ 1048576) :
    Calls Tryz.prog 59 #[.slice A l.length c, .slice A2 m.length c2] w fun e w' => e = .returned (.bool (decide (l = m))) ∧ ∃ n, w' = w.drewN n := by
  obtain ⟨R, hR⟩ : ∃ R, R = decide (l = m) := ⟨_, rfl⟩
  have HR := Lib.hid hr
  have HS := Lib.hid hs
  rw [← hR]
  by_cases hln : l.length = m.length
  · have HN := Lib.hid (fun (q : Nat) (h1 : q < l.length) (h2 : q < m.length) (he : l[q] ≠ m[q]) => show R = false by rw [hR, decide_eq_false (ne_at h1 h2 he)])
    have HY := Lib.hid (fun (h : l.take l.length = m.take l.length) => show R = true by rw [hR, decide_eq_true (take_all h hln)])
    have HL := Lib.hid hln
    rw [← hln]
    clear hr hs hR hln
    go_enter Tryz.func59, Tryz.ntmps59
    go_wp2
    go_loopw [5] (fun i wr => ∃ q : Nat, q ≤ l.length ∧ i = .int .i64 (q : Int) ∧ Hid (l.take q = m.take q) ∧ ∃ n, wr = w.drewN n) (fun i wr => l.length - (intOf i).toNat)
    case atStart => exact ⟨0, by omega, rfl, Lib.hid rfl, 0, rfl⟩
    case round =>
      obtain ⟨q, hq, rfl, hT, nn, rfl⟩ := hrel
      by_cases hlt : q < l.length
      · have hlt2 : q < m.length := by have := HL.out; omega
        obtain ⟨ad, rfl, hb, x0, x1⟩ := HR.out.sp hlt
        obtain ⟨ad2, rfl, hb2, y0, y1⟩ := HS.out.sp hlt2
        have HN1 := Lib.hid (fun he => HN.out q hlt hlt2 he)
        have HT1 := Lib.hid (fun he => take_more hT.out hlt hlt2 he)
        generalize l[q] = s at x0 x1 HN1 HT1
        generalize m[q] = t at y0 y1 HN1 HT1
        obtain ⟨s0, s1⟩ := s
        obtain ⟨t0, t1⟩ := t
        simp only [] at x0 x1 y0 y1
        have hq := fun W => neq61 s0 s1 t0 t1 W
        have hg := guard61
        by_cases he : s0 = t0 ∧ s1 = t1
        · obtain ⟨rfl, rfl⟩ := he
          have HT2 := Lib.hid (HT1.out rfl)
          clear HN1 HT1
          go_wp2
          go_quiet (fail)
          go_wp2
          exact ⟨⟨q + 1, by omega, by go_num, HT2, by first | exact ⟨_, rfl⟩ | exact dN _ _ _⟩, by simp [intOf]; omega⟩
        · have hd : (!decide (s0 = t0) || !decide (s1 = t1)) = true := by
            by_cases h1 : s0 = t0 <;> by_cases h2 : s1 = t1 <;> simp [h1, h2]
            exact he ⟨h1, h2⟩
          have hrf := HN1.out (fun e => he (by injection e with e1 e2; exact ⟨e1, e2⟩))
          clear HN1 HT1 he
          subst hrf
          go_wp2
          go_quiet (fail)
          go_wp2
          go_ret
          exact ⟨rfl, by first | exact ⟨_, rfl⟩ | exact dN _ _ _⟩
      · obtain rfl : q = l.length := by omega
        have hy := HY.out hT.out
        subst hy
        go_wp2
        go_ret
        exact ⟨rfl, by first | exact ⟨_, rfl⟩ | exact dN _ _ _⟩
  · have hRf : R = false := by rw [hR, decide_eq_false (fun e => hln (by rw [e]))]
    clear hR
    subst hRf
    go_enter Tryz.func59, Tryz.ntmps59
    go_wp2
    go_ret
    exact ⟨rfl, ⟨0, rfl⟩⟩
set_option maxRecDepth 100000 in
set_option maxHeartbeats 2000000 in
theorem eq41_any (w : World) (A A2 : Option Addr) (c c2 : Nat) (l m : List Sp) (hr : Reads w w.heap.size 2 A l.length (spcs l)) (hs : Reads w w.heap.size 2 A2 m.length (spcs m)) (hl : l.length ≤ 1048576) (hm : m.length ≤ 1048576) :
    Calls Tryz.prog 41 #[.slice A l.length c, .slice A2 m.length c2] w fun e w' => e = .returned (.bool (decide (l = m))) ∧ ∃ n, w' = w.drewN n := by
  obtain ⟨R, hR⟩ : ∃ R, R = decide (l = m) := ⟨_, rfl⟩
  have HR := Lib.hid hr
  have HS := Lib.hid hs
  rw [← hR]
  by_cases hln : l.length = m.length
  · have HN := Lib.hid (fun (q : Nat) (h1 : q < l.length) (h2 : q < m.length) (he : l[q] ≠ m[q]) => show R = false by rw [hR, decide_eq_false (ne_at h1 h2 he)])
    have HY := Lib.hid (fun (h : l.take l.length = m.take l.length) => show R = true by rw [hR, decide_eq_true (take_all h hln)])
    have HL := Lib.hid hln
    rw [← hln]
    clear hr hs hR hln
    go_enter Tryz.func41, Tryz.ntmps41
    go_wp2
    go_loopw [13] (fun i wr => ∃ q : Nat, q ≤ l.length ∧ i = .int .i64 (q : Int) ∧ Hid (l.take q = m.take q) ∧ ∃ n, wr = w.drewN n) (fun i wr => l.length - (intOf i).toNat)
    case atStart => exact ⟨0, by omega, rfl, Lib.hid rfl, 0, rfl⟩
    case round =>
      obtain ⟨q, hq, rfl, hT, nn, rfl⟩ := hrel
      by_cases hlt : q < l.length
      · have hlt2 : q < m.length := by have := HL.out; omega
        obtain ⟨ad, rfl, hb, x0, x1⟩ := HR.out.sp hlt
        obtain ⟨ad2, rfl, hb2, y0, y1⟩ := HS.out.sp hlt2
        have HN1 := Lib.hid (fun he => HN.out q hlt hlt2 he)
        have HT1 := Lib.hid (fun he => take_more hT.out hlt hlt2 he)
        generalize l[q] = s at x0 x1 HN1 HT1
        generalize m[q] = t at y0 y1 HN1 HT1
        obtain ⟨s0, s1⟩ := s
        obtain ⟨t0, t1⟩ := t
        simp only [] at x0 x1 y0 y1
        have hq := fun W => neq61 s0 s1 t0 t1 W
        have hg := guard61
        by_cases he : s0 = t0 ∧ s1 = t1
        · obtain ⟨rfl, rfl⟩ := he
          have HT2 := Lib.hid (HT1.out rfl)
          clear HN1 HT1
          go_wp2
          go_quiet (fail)
          go_wp2
          exact ⟨⟨q + 1, by omega, by go_num, HT2, by first | exact ⟨_, rfl⟩ | exact dN _ _ _⟩, by simp [intOf]; omega⟩
        · have hd : (!decide (s0 = t0) || !decide (s1 = t1)) = true := by
            by_cases h1 : s0 = t0 <;> by_cases h2 : s1 = t1 <;> simp [h1, h2]
            exact he ⟨h1, h2⟩
          have hrf := HN1.out (fun e => he (by injection e with e1 e2; exact ⟨e1, e2⟩))
          clear HN1 HT1 he
          subst hrf
          go_wp2
          go_quiet (fail)
          go_wp2
          go_ret
          exact ⟨rfl, by first | exact ⟨_, rfl⟩ | exact dN _ _ _⟩
      · obtain rfl : q = l.length := by omega
        have hy := HY.out hT.out
        subst hy
        go_wp2
        go_ret
        exact ⟨rfl, by first | exact ⟨_, rfl⟩ | exact dN _ _ _⟩
  · have hRf : R = false := by rw [hR, decide_eq_false (fun e => hln (by rw [e]))]
    clear hR
    subst hRf
    go_enter Tryz.func41, Tryz.ntmps41
    go_wp2
    go_ret
    exact ⟨rfl, ⟨0, rfl⟩⟩
end Go.Proofs.YtobofhiakgohfaaGreatDoor

namespace Go.Proofs.YtobofhiakgohfaaGreatDoor
open Go.RowKit

instance decShp : DecidableEq ShpD := fun a b =>
  match decEq a.parts b.parts, decEq a.first b.first with
  | .isTrue h1, .isTrue h2 => .isTrue (by cases a; cases b; cases h1; cases h2; rfl)
  | .isFalse h, _ => .isFalse (by rintro rfl; exact h rfl)
  | .isTrue _, .isFalse h => .isFalse (by rintro rfl; exact h rfl)

theorem part_at {w W : World} {B : Nat} {A : Option Addr} {p : List PartX} (hr : Reads w B 1 A p.length (p.map Prod.snd)) (hp : ∀ y ∈ p, PartV w B y.2 y.1) (hB : B ≤ w.heap.size) (hk : K0 w W) {q : Nat} (hlt : q < p.length) :
    ∃ ad, A = some ad ∧ ad.block < B ∧ W.cell? (ad.add q) = some p[q].2 ∧ PartV W W.heap.size p[q].2 p[q].1 := by
  obtain ⟨ad, u, e, hb, hu, hc⟩ := (hr.k0 hB hk).at_ hlt
  rw [List.getElem?_map, List.getElem?_eq_getElem hlt] at hu
  cases hu
  exact ⟨ad, e, hb, hc, (hp _ (List.getElem_mem hlt)).k0 hB hk⟩
theorem shp_at {w W : World} {B : Nat} {A : Option Addr} {p : List ShpX} (hr : Reads w B 2 A p.length (duos shduo p)) (hp : ∀ x ∈ p, PartsV w B x.v x.ps ∧ -9223372036854775808 ≤ x.first ∧ x.first ≤ 9223372036854775807) (hB : B ≤ w.heap.size) (hk : K0 w W) {q : Nat} (hlt : q < p.length) :
    ∃ ad, A = some ad ∧ ad.block < B ∧ W.cell? (ad.add (q * 2)) = some p[q].v ∧ W.cell? ⟨(ad.add (q * 2)).block, (ad.add (q * 2)).off + 1, none⟩ = some (.int .i64 p[q].first) ∧ PartsV W W.heap.size p[q].v p[q].ps := by
  obtain ⟨ad, e, hb, h0, h1⟩ := (hr.k0 hB hk).duo hlt
  exact ⟨ad, e, hb, h0, h1, (hp _ (List.getElem_mem hlt)).1.k0 hB hk⟩

set_option maxRecDepth 100000 in
set_option maxHeartbeats 4000000 in
theorem same26_any (w : World) (v v2 : Value) (ps ps2 : List PartX) (f f2 : Int) (hv : PartsV w w.heap.size v ps) (hv2 : PartsV w w.heap.size v2 ps2) :
    Calls Tryz.prog 26 #[.agg #[v, .int .i64 f], .agg #[v2, .int .i64 f2]] w fun e w' => e = .returned (.bool (decide ((⟨ps.map Prod.fst, f⟩ : ShpD) = ⟨ps2.map Prod.fst, f2⟩))) ∧ K0 w w' := by
  obtain ⟨R, hR⟩ : ∃ R, R = decide ((⟨ps.map Prod.fst, f⟩ : ShpD) = ⟨ps2.map Prod.fst, f2⟩) := ⟨_, rfl⟩
  rw [← hR]
  obtain ⟨A, c, rfl, hc1, hc2, hl, hr, hp⟩ := hv
  obtain ⟨A2, c2, rfl, hd1, hd2, hl2, hr2, hp2⟩ := hv2
  have y0 := (Blk.new w 37 #[.slice A ps.length c, .int .i64 f]).alloc (.cells #[.slice A2 ps2.length c2, .int .i64 f2] 37)
  have y1 := Blk.new (w.alloc (.cells #[.slice A ps.length c, .int .i64 f] 37)) 37 #[.slice A2 ps2.length c2, .int .i64 f2]
  have k0 : K0 w ((w.alloc (.cells #[.slice A ps.length c, .int .i64 f] 37)).alloc (.cells #[.slice A2 ps2.length c2, .int .i64 f2] 37)) := ((Kp.refl _ _).alloc _).alloc _
  rw [World.size_alloc] at y1
  by_cases hff : f = f2
  · subst hff
    by_cases hln : ps.length = ps2.length
    · have e1 : (ps.map Prod.fst).length = ps.length := by simp
      have e2 : (ps2.map Prod.fst).length = ps2.length := by simp
      have HN := Lib.hid (fun (q : Nat) (h1 : q < ps.length) (h2 : q < ps2.length) (he : ps[q].1 ≠ ps2[q].1) => show R = false by
        rw [hR, decide_eq_false (fun e => ?_)]
        injection e with e
        exact ne_at (l := ps.map Prod.fst) (m := ps2.map Prod.fst) (q := q) (by simpa using h1) (by simpa using h2) (by simpa using he) e)
      have HT := Lib.hid (fun (q : Nat) (h : (ps.map Prod.fst).take q = (ps2.map Prod.fst).take q) (h1 : q < ps.length) (h2 : q < ps2.length) (he : ps[q].1 = ps2[q].1) => take_more h (by simpa using h1) (by simpa using h2) (by simpa using he))
      have HY := Lib.hid (fun (h : (ps.map Prod.fst).take ps.length = (ps2.map Prod.fst).take ps.length) => show R = true by rw [hR]; exact decide_eq_true (congrArg (fun z => (⟨z, f⟩ : ShpD)) (take_all (by rw [e1]; exact h) (by rw [e1, e2]; exact hln))))
      have HL := Lib.hid hln
      have HA := Lib.hid (fun W hk q hlt => part_at (W := W) (q := q) hr hp (Nat.le_refl _) hk hlt)
      have HB := Lib.hid (fun W hk q hlt => part_at (W := W) (q := q) hr2 hp2 (Nat.le_refl _) hk hlt)
      rw [← hln] at y0 y1 k0 ⊢
      clear hR hr hp hr2 hp2 hl2 e1 e2 hln hc1 hc2 hd1 hd2
      have c0 := y0.cell 0
      have c1 := y0.cell 1
      have d0 := y1.cell 0
      have d1 := y1.cell 1
      simp at c0 c1 d0 d1
      go_enter Tryz.func26, Tryz.ntmps26
      go_wp2
      clear c0 c1 d0 d1
      go_loopw [5] (fun i wr => ∃ q : Nat, q ≤ ps.length ∧ i = .int .i64 (q : Int) ∧ Hid ((ps.map Prod.fst).take q = (ps2.map Prod.fst).take q) ∧ Blk wr w.heap.size 37 #[.slice A ps.length c, .int .i64 f] ∧ Blk wr (w.heap.size + 1) 37 #[.slice A2 ps.length c2, .int .i64 f] ∧ K0 w wr) (fun i wr => ps.length - (intOf i).toNat)
      case atStart => exact ⟨0, by omega, rfl, Lib.hid rfl, y0, y1, k0⟩
      clear y0 y1 k0
      case round =>
        obtain ⟨q, hq, rfl, hT, y0, y1, hk⟩ := hrel
        have c0 := y0.cell 0
        have c1 := y0.cell 1
        have d0 := y1.cell 0
        have d1 := y1.cell 1
        have l0 := y0.lt
        have l1 := y1.lt
        simp at c0 c1 d0 d1
        by_cases hlt : q < ps.length
        · have hlt2 : q < ps2.length := by have := HL.out; omega
          obtain ⟨ad, rfl, hb, x0, hp⟩ := HA.out wr hk q hlt
          obtain ⟨ad2, rfl, hb2, z0, hp2⟩ := HB.out wr hk q hlt2
          have HN1 := Lib.hid (fun he => HN.out q hlt hlt2 he)
          have HT1 := Lib.hid (fun he => HT.out q hT.out hlt hlt2 he)
          generalize ps[q] = s at x0 hp HN1 HT1
          generalize ps2[q] = t at z0 hp2 HN1 HT1
          obtain ⟨s0, s1⟩ := s
          obtain ⟨t0, t1⟩ := t
          simp only [] at x0 hp z0 hp2
          obtain ⟨A3, c3, rfl, _, _, hl3, hr3⟩ := hp
          obtain ⟨A4, c4, rfl, _, _, hl4, hr4⟩ := hp2
          have HSA := Lib.hid (fun n => same59_any (wr.drewN n) A3 A4 c3 c4 s0 t0 (hr3.drewN n) (hr4.drewN n) hl3 hl4)
          by_cases he : s0 = t0
          · subst he
            have hd : decide (s0 = s0) = true := decide_eq_true rfl
            have HT2 := Lib.hid (HT1.out rfl)
            rw [hd] at HSA
            clear HN1 HT1 hd
            go_wp2
            go_quiet ((go_at_call 59; exact Calls.quiet_of (HSA.out _)))
            go_wp2
            exact ⟨⟨q + 1, by omega, by go_num, HT2, y0, y1, hk.drewN _⟩, by simp [intOf]; omega⟩
          · have hd : decide (s0 = t0) = false := decide_eq_false he
            have hrf := HN1.out he
            rw [hd] at HSA
            clear HN1 HT1 hd he
            subst hrf
            go_wp2
            go_quiet ((go_at_call 59; exact Calls.quiet_of (HSA.out _)))
            go_wp2
            go_ret
            exact ⟨rfl, hk.drewN _⟩
        · obtain rfl : q = ps.length := by omega
          have hy := HY.out hT.out
          subst hy
          go_wp2
          go_ret
          exact ⟨rfl, hk⟩
    · have hRf : R = false := by
        rw [hR, decide_eq_false (fun e => ?_)]
        injection e with e
        exact hln (by have := congrArg List.length e; simpa using this)
      clear hR
      subst hRf
      have c0 := y0.cell 0
      have c1 := y0.cell 1
      have d0 := y1.cell 0
      have d1 := y1.cell 1
      simp at c0 c1 d0 d1
      go_enter Tryz.func26, Tryz.ntmps26
      go_wp2
      go_ret
      exact ⟨rfl, k0⟩
  · have hRf : R = false := by
      rw [hR, decide_eq_false (fun e => ?_)]
      injection e with e e2
      exact hff e2
    clear hR
    subst hRf
    have c0 := y0.cell 0
    have c1 := y0.cell 1
    have d0 := y1.cell 0
    have d1 := y1.cell 1
    simp at c0 c1 d0 d1
    go_enter Tryz.func26, Tryz.ntmps26
    go_wp2
    go_ret
    exact ⟨rfl, k0⟩
end Go.Proofs.YtobofhiakgohfaaGreatDoor

namespace Go.Proofs.YtobofhiakgohfaaGreatDoor
open Go.RowKit

theorem add_blk (a : Addr) (i : Nat) : (a.add i).block = a.block := by unfold Addr.add; split <;> rfl
set_option maxRecDepth 100000 in
set_option maxHeartbeats 4000000 in
theorem same12_any (w : World) (v v2 : Value) (ps ps2 : List ShpX) (hv : ShpsV w w.heap.size v ps) (hv2 : ShpsV w w.heap.size v2 ps2) :
    Calls Tryz.prog 12 #[.agg #[v], .agg #[v2]] w fun e w' => e = .returned (.bool (decide (ps.map ShpX.d = ps2.map ShpX.d))) ∧ K0 w w' := by
  obtain ⟨R, hR⟩ : ∃ R, R = decide (ps.map ShpX.d = ps2.map ShpX.d) := ⟨_, rfl⟩
  rw [← hR]
  obtain ⟨A, c, rfl, hc1, hc2, hl, hr, hp⟩ := hv
  obtain ⟨A2, c2, rfl, hd1, hd2, hl2, hr2, hp2⟩ := hv2
  have y0 := (Blk.new w 25 #[.slice A ps.length c]).alloc (.cells #[.slice A2 ps2.length c2] 25)
  have y1 := Blk.new (w.alloc (.cells #[.slice A ps.length c] 25)) 25 #[.slice A2 ps2.length c2]
  have k0 : K0 w ((w.alloc (.cells #[.slice A ps.length c] 25)).alloc (.cells #[.slice A2 ps2.length c2] 25)) := ((Kp.refl _ _).alloc _).alloc _
  rw [World.size_alloc] at y1
  by_cases hln : ps.length = ps2.length
  · have e1 : (ps.map ShpX.d).length = ps.length := by simp
    have e2 : (ps2.map ShpX.d).length = ps2.length := by simp
    have HN := Lib.hid (fun (q : Nat) (h1 : q < ps.length) (h2 : q < ps2.length) (he : ps[q].d ≠ ps2[q].d) => show R = false by
      rw [hR, decide_eq_false (fun e => ?_)]
      exact ne_at (l := ps.map ShpX.d) (m := ps2.map ShpX.d) (q := q) (by simpa using h1) (by simpa using h2) (by simpa using he) e)
    have HT := Lib.hid (fun (q : Nat) (h : (ps.map ShpX.d).take q = (ps2.map ShpX.d).take q) (h1 : q < ps.length) (h2 : q < ps2.length) (he : ps[q].d = ps2[q].d) => take_more h (by simpa using h1) (by simpa using h2) (by simpa using he))
    have HY := Lib.hid (fun (h : (ps.map ShpX.d).take ps.length = (ps2.map ShpX.d).take ps.length) => show R = true by rw [hR]; exact decide_eq_true (take_all (by rw [e1]; exact h) (by rw [e1, e2]; exact hln)))
    have HL := Lib.hid hln
    have HA := Lib.hid (fun W hk q hlt => shp_at (W := W) (q := q) hr hp (Nat.le_refl _) hk hlt)
    have HB := Lib.hid (fun W hk q hlt => shp_at (W := W) (q := q) hr2 hp2 (Nat.le_refl _) hk hlt)
    rw [← hln] at y0 y1 k0 ⊢
    clear hR hr hp hr2 hp2 hl2 e1 e2 hln hc1 hc2 hd1 hd2
    have c0 := y0.cell 0
    have d0 := y1.cell 0
    simp at c0 d0
    go_enter Tryz.func12, Tryz.ntmps12
    go_wp2
    clear c0 d0
    go_loopw [5] (fun i wr => ∃ q : Nat, q ≤ ps.length ∧ i = .int .i64 (q : Int) ∧ Hid ((ps.map ShpX.d).take q = (ps2.map ShpX.d).take q) ∧ Blk wr w.heap.size 25 #[.slice A ps.length c] ∧ Blk wr (w.heap.size + 1) 25 #[.slice A2 ps.length c2] ∧ K0 w wr) (fun i wr => ps.length - (intOf i).toNat)
    case atStart => exact ⟨0, by omega, rfl, Lib.hid rfl, y0, y1, k0⟩
    clear y0 y1 k0
    case round =>
      obtain ⟨q, hq, rfl, hT, y0, y1, hk⟩ := hrel
      have c0 := y0.cell 0
      have d0 := y1.cell 0
      have l0 := y0.lt
      have l1 := y1.lt
      simp at c0 d0
      by_cases hlt : q < ps.length
      · have hlt2 : q < ps2.length := by have := HL.out; omega
        obtain ⟨ad, rfl, hb, x0, x1, hp⟩ := HA.out wr hk q hlt
        obtain ⟨ad2, rfl, hb2, z0, z1, hp2⟩ := HB.out wr hk q hlt2
        have HN1 := Lib.hid (fun he => HN.out q hlt hlt2 he)
        have HT1 := Lib.hid (fun he => HT.out q hT.out hlt hlt2 he)
        generalize ps[q] = s at x0 x1 hp HN1 HT1
        generalize ps2[q] = t at z0 z1 hp2 HN1 HT1
        obtain ⟨s0, s1, s2⟩ := s
        obtain ⟨t0, t1, t2⟩ := t
        simp only [] at x0 x1 hp z0 z1 hp2
        have HSA := Lib.hid (fun W (h : K0 wr W) => same26_any W s1 t1 s0 t0 s2 t2 (hp.k0 (Nat.le_refl _) h) (hp2.k0 (Nat.le_refl _) h))
        obtain ⟨A3, c3, rfl, _, _, hl3, hr3, _⟩ := hp
        obtain ⟨A4, c4, rfl, _, _, hl4, hr4, _⟩ := hp2
        obtain ⟨D, hD⟩ : ∃ D, D = decide ((⟨s0.map Prod.fst, s2⟩ : ShpD) = ⟨t0.map Prod.fst, t2⟩) := ⟨_, rfl⟩
        rw [← hD] at HSA
        have HDD := Lib.hid hD
        clear hD
        go_wp2
        have hsz := hk.size
        have m0 : (ad.add (q * 2)).block < wr.heap.size := by rw [add_blk]; exact Nat.lt_of_lt_of_le hb hsz
        have m1 : (ad2.add (q * 2)).block < wr.heap.size := by rw [add_blk]; exact Nat.lt_of_lt_of_le hb2 hsz
        go_region_held3 (fun w' => w'.cell? ⟨w.heap.size, 0, none⟩ = some (.slice (some ad) ps.length c) ∧ w'.cell? ⟨w.heap.size + 1, 0, none⟩ = some (.slice (some ad2) ps.length c2) ∧ w'.cell? (ad.add (q * 2)) = some (.slice A3 s0.length c3) ∧ w'.cell? ⟨(ad.add (q * 2)).block, (ad.add (q * 2)).off + 1, none⟩ = some (.int .i64 s2) ∧ w'.cell? (ad2.add (q * 2)) = some (.slice A4 t0.length c4) ∧ w'.cell? ⟨(ad2.add (q * 2)).block, (ad2.add (q * 2)).off + 1, none⟩ = some (.int .i64 t2)) (go_keep) ((go_at_call 26; refine (HSA.out _ (by first | exact (Kp.refl _ _).drew | exact ((Kp.refl _ _).drewN _))).mono ?_; rintro e w2 ⟨rfl, hk2⟩; have q0 := (hk2.cell (p := ⟨w.heap.size, 0, none⟩) (by exact l0) (fun h => h)).trans (by exact c0); have q1 := (hk2.cell (p := ⟨w.heap.size + 1, 0, none⟩) (by exact l1) (fun h => h)).trans (by exact d0); have q2 := (hk2.cell (p := (ad.add (q * 2))) (by exact m0) (fun h => h)).trans (by exact x0); have q3 := (hk2.cell (p := ⟨(ad.add (q * 2)).block, (ad.add (q * 2)).off + 1, none⟩) (by exact m0) (fun h => h)).trans (by exact x1); have q4 := (hk2.cell (p := (ad2.add (q * 2))) (by exact m1) (fun h => h)).trans (by exact z0); have q5 := (hk2.cell (p := ⟨(ad2.add (q * 2)).block, (ad2.add (q * 2)).off + 1, none⟩) (by exact m1) (fun h => h)).trans (by exact z1)))
        have k2 : K0 wr w2 := (Kp.refl _ _).drew.trans hk2
        cases D with
        | true =>
          go_wp2
          exact ⟨⟨q + 1, by omega, by go_num, Lib.hid (HT1.out (of_decide_eq_true HDD.out.symm)), y0.kp k2 (fun h => h), y1.kp k2 (fun h => h), hk.trans k2⟩, by simp [intOf]; omega⟩
        | false =>
          have hrf := HN1.out (of_decide_eq_false HDD.out.symm)
          clear HN1 HT1
          subst hrf
          go_wp2
          go_ret
          exact ⟨rfl, hk.trans k2⟩
      · obtain rfl : q = ps.length := by omega
        have hy := HY.out hT.out
        subst hy
        go_wp2
        go_ret
        exact ⟨rfl, hk⟩
  · have hRf : R = false := by
      rw [hR, decide_eq_false (fun e => ?_)]
      exact hln (by have := congrArg List.length e; simpa using this)
    clear hR
    subst hRf
    have c0 := y0.cell 0
    have d0 := y1.cell 0
    simp at c0 d0
    go_enter Tryz.func12, Tryz.ntmps12
    go_wp2
    go_ret
    exact ⟨rfl, k0⟩
end Go.Proofs.YtobofhiakgohfaaGreatDoor

namespace Go.Proofs.YtobofhiakgohfaaGreatDoor
open Go.RowKit

set_option maxRecDepth 100000 in
set_option maxHeartbeats 4000000 in
theorem eq40_any (w : World) (v v2 : Value) (ps ps2 : List PartX) (hv : PartsV w w.heap.size v ps) (hv2 : PartsV w w.heap.size v2 ps2) :
    Calls Tryz.prog 40 #[v, v2, .func (.func 41) #[] #[]] w fun e w' => e = .returned (.bool (decide (ps.map Prod.fst = ps2.map Prod.fst))) ∧ K0 w w' := by
  obtain ⟨R, hR⟩ : ∃ R, R = decide (ps.map Prod.fst = ps2.map Prod.fst) := ⟨_, rfl⟩
  rw [← hR]
  obtain ⟨A, c, rfl, hc1, hc2, hl, hr, hp⟩ := hv
  obtain ⟨A2, c2, rfl, hd1, hd2, hl2, hr2, hp2⟩ := hv2
  by_cases hln : ps.length = ps2.length
  · have e1 : (ps.map Prod.fst).length = ps.length := by simp
    have e2 : (ps2.map Prod.fst).length = ps2.length := by simp
    have HN := Lib.hid (fun (q : Nat) (h1 : q < ps.length) (h2 : q < ps2.length) (he : ps[q].1 ≠ ps2[q].1) => show R = false by
      rw [hR, decide_eq_false (fun e => ?_)]
      exact ne_at (l := ps.map Prod.fst) (m := ps2.map Prod.fst) (q := q) (by simpa using h1) (by simpa using h2) (by simpa using he) e)
    have HT := Lib.hid (fun (q : Nat) (h : (ps.map Prod.fst).take q = (ps2.map Prod.fst).take q) (h1 : q < ps.length) (h2 : q < ps2.length) (he : ps[q].1 = ps2[q].1) => take_more h (by simpa using h1) (by simpa using h2) (by simpa using he))
    have HY := Lib.hid (fun (h : (ps.map Prod.fst).take ps.length = (ps2.map Prod.fst).take ps.length) => show R = true by rw [hR]; exact decide_eq_true (take_all (by rw [e1]; exact h) (by rw [e1, e2]; exact hln)))
    have HL := Lib.hid hln
    have HA := Lib.hid (fun W hk q hlt => part_at (W := W) (q := q) hr hp (Nat.le_refl _) hk hlt)
    have HB := Lib.hid (fun W hk q hlt => part_at (W := W) (q := q) hr2 hp2 (Nat.le_refl _) hk hlt)
    rw [← hln]
    clear hR hr hp hr2 hp2 hl2 e1 e2 hln hc1 hc2 hd1 hd2
    go_enter Tryz.func40, Tryz.ntmps40
    go_wp2
    go_loopw [17] (fun i wr => ∃ q : Nat, q ≤ ps.length ∧ i = .int .i64 (q : Int) ∧ Hid ((ps.map Prod.fst).take q = (ps2.map Prod.fst).take q) ∧ K0 w wr) (fun i wr => ps.length - (intOf i).toNat)
    case atStart => exact ⟨0, by omega, rfl, Lib.hid rfl, Kp.refl _ _⟩
    case round =>
      obtain ⟨q, hq, rfl, hT, hk⟩ := hrel
      by_cases hlt : q < ps.length
      · have hlt2 : q < ps2.length := by have := HL.out; omega
        obtain ⟨ad, rfl, hb, x0, hp⟩ := HA.out wr hk q hlt
        obtain ⟨ad2, rfl, hb2, z0, hp2⟩ := HB.out wr hk q hlt2
        have HN1 := Lib.hid (fun he => HN.out q hlt hlt2 he)
        have HT1 := Lib.hid (fun he => HT.out q hT.out hlt hlt2 he)
        generalize ps[q] = s at x0 hp HN1 HT1
        generalize ps2[q] = t at z0 hp2 HN1 HT1
        obtain ⟨s0, s1⟩ := s
        obtain ⟨t0, t1⟩ := t
        simp only [] at x0 hp z0 hp2
        obtain ⟨A3, c3, rfl, _, _, hl3, hr3⟩ := hp
        obtain ⟨A4, c4, rfl, _, _, hl4, hr4⟩ := hp2
        have HSA := Lib.hid (eq41_any wr A3 A4 c3 c4 s0 t0 hr3 hr4 hl3 hl4)
        obtain ⟨D, hD⟩ : ∃ D, D = decide (s0 = t0) := ⟨_, rfl⟩
        rw [← hD] at HSA
        have HDD := Lib.hid hD
        clear hD
        go_wp2_with fail
        refine HSA.out.mono ?_
        rintro e w2 ⟨rfl, nn, rfl⟩
        cases D with
        | true =>
          go_wp2
          exact ⟨⟨q + 1, by omega, by go_num, Lib.hid (HT1.out (of_decide_eq_true HDD.out.symm)), hk.drewN _⟩, by simp [intOf]; omega⟩
        | false =>
          have hrf := HN1.out (of_decide_eq_false HDD.out.symm)
          clear HN1 HT1
          subst hrf
          go_wp2
          go_ret
          exact ⟨rfl, hk.drewN _⟩
      · obtain rfl : q = ps.length := by omega
        have hy := HY.out hT.out
        subst hy
        go_wp2
        go_ret
        exact ⟨rfl, hk⟩
  · have hRf : R = false := by
      rw [hR, decide_eq_false (fun e => ?_)]
      exact hln (by have := congrArg List.length e; simpa using this)
    clear hR
    subst hRf
    go_enter Tryz.func40, Tryz.ntmps40
    go_wp2
    go_ret
    exact ⟨rfl, Kp.refl _ _⟩

set_option maxRecDepth 100000 in
set_option maxHeartbeats 4000000 in
theorem eq39_any (w : World) (v v2 : Value) (ps ps2 : List PartX) (f f2 : Int) (hv : PartsV w w.heap.size v ps) (hv2 : PartsV w w.heap.size v2 ps2) :
    Calls Tryz.prog 39 #[.agg #[v, .int .i64 f], .agg #[v2, .int .i64 f2]] w fun e w' => e = .returned (.bool (decide ((⟨ps.map Prod.fst, f⟩ : ShpD) = ⟨ps2.map Prod.fst, f2⟩))) ∧ K0 w w' := by
  obtain ⟨R, hR⟩ : ∃ R, R = decide ((⟨ps.map Prod.fst, f⟩ : ShpD) = ⟨ps2.map Prod.fst, f2⟩) := ⟨_, rfl⟩
  rw [← hR]
  have HE := Lib.hid (fun W (h : K0 w W) => eq40_any W v v2 ps ps2 (hv.k0 (Nat.le_refl _) h) (hv2.k0 (Nat.le_refl _) h))
  obtain ⟨A, c, rfl, _⟩ := hv
  obtain ⟨A2, c2, rfl, _⟩ := hv2
  have y0 := (Blk.new w 37 #[.slice A ps.length c, .int .i64 f]).alloc (.cells #[.slice A2 ps2.length c2, .int .i64 f2] 37)
  have y1 := Blk.new (w.alloc (.cells #[.slice A ps.length c, .int .i64 f] 37)) 37 #[.slice A2 ps2.length c2, .int .i64 f2]
  have k0 : K0 w ((w.alloc (.cells #[.slice A ps.length c, .int .i64 f] 37)).alloc (.cells #[.slice A2 ps2.length c2, .int .i64 f2] 37)) := ((Kp.refl _ _).alloc _).alloc _
  rw [World.size_alloc] at y1
  have c0 := y0.cell 0
  have c1 := y0.cell 1
  have d0 := y1.cell 0
  have d1 := y1.cell 1
  simp at c0 c1 d0 d1
  by_cases hff : f = f2
  · subst hff
    have HR : Hid (R = decide (ps.map Prod.fst = ps2.map Prod.fst)) := Lib.hid (by rw [hR]; exact decide_eq_decide.2 ⟨fun e => by injection e, fun e => by rw [e]⟩)
    clear hR
    go_enter Tryz.func39, Tryz.ntmps39
    go_wp2_with fail
    refine (HE.out _ k0).mono ?_
    rintro e w2 ⟨rfl, hk2⟩
    have HRR := HR.out
    rw [← HRR]
    clear HRR
    go_wp2
    go_ret
    exact ⟨rfl, k0.trans hk2⟩
  · have hRf : R = false := by
      rw [hR, decide_eq_false (fun e => ?_)]
      injection e with e e2
      exact hff e2
    clear hR
    subst hRf
    go_enter Tryz.func39, Tryz.ntmps39
    go_wp2
    go_ret
    exact ⟨rfl, k0⟩

set_option maxRecDepth 100000 in
set_option maxHeartbeats 4000000 in
theorem eq38_any (w : World) (v v2 : Value) (ps ps2 : List ShpX) (hv : ShpsV w w.heap.size v ps) (hv2 : ShpsV w w.heap.size v2 ps2) :
    Calls Tryz.prog 38 #[v, v2, .func (.func 39) #[] #[]] w fun e w' => e = .returned (.bool (decide (ps.map ShpX.d = ps2.map ShpX.d))) ∧ K0 w w' := by
  obtain ⟨R, hR⟩ : ∃ R, R = decide (ps.map ShpX.d = ps2.map ShpX.d) := ⟨_, rfl⟩
  rw [← hR]
  obtain ⟨A, c, rfl, hc1, hc2, hl, hr, hp⟩ := hv
  obtain ⟨A2, c2, rfl, hd1, hd2, hl2, hr2, hp2⟩ := hv2
  by_cases hln : ps.length = ps2.length
  · have e1 : (ps.map ShpX.d).length = ps.length := by simp
    have e2 : (ps2.map ShpX.d).length = ps2.length := by simp
    have HN := Lib.hid (fun (q : Nat) (h1 : q < ps.length) (h2 : q < ps2.length) (he : ps[q].d ≠ ps2[q].d) => show R = false by
      rw [hR, decide_eq_false (fun e => ?_)]
      exact ne_at (l := ps.map ShpX.d) (m := ps2.map ShpX.d) (q := q) (by simpa using h1) (by simpa using h2) (by simpa using he) e)
    have HT := Lib.hid (fun (q : Nat) (h : (ps.map ShpX.d).take q = (ps2.map ShpX.d).take q) (h1 : q < ps.length) (h2 : q < ps2.length) (he : ps[q].d = ps2[q].d) => take_more h (by simpa using h1) (by simpa using h2) (by simpa using he))
    have HY := Lib.hid (fun (h : (ps.map ShpX.d).take ps.length = (ps2.map ShpX.d).take ps.length) => show R = true by rw [hR]; exact decide_eq_true (take_all (by rw [e1]; exact h) (by rw [e1, e2]; exact hln)))
    have HL := Lib.hid hln
    have HA := Lib.hid (fun W hk q hlt => shp_at (W := W) (q := q) hr hp (Nat.le_refl _) hk hlt)
    have HB := Lib.hid (fun W hk q hlt => shp_at (W := W) (q := q) hr2 hp2 (Nat.le_refl _) hk hlt)
    rw [← hln]
    clear hR hr hp hr2 hp2 hl2 e1 e2 hln hc1 hc2 hd1 hd2
    go_enter Tryz.func38, Tryz.ntmps38
    go_wp2
    go_loopw [17] (fun i wr => ∃ q : Nat, q ≤ ps.length ∧ i = .int .i64 (q : Int) ∧ Hid ((ps.map ShpX.d).take q = (ps2.map ShpX.d).take q) ∧ K0 w wr) (fun i wr => ps.length - (intOf i).toNat)
    case atStart => exact ⟨0, by omega, rfl, Lib.hid rfl, Kp.refl _ _⟩
    case round =>
      obtain ⟨q, hq, rfl, hT, hk⟩ := hrel
      by_cases hlt : q < ps.length
      · have hlt2 : q < ps2.length := by have := HL.out; omega
        obtain ⟨ad, rfl, hb, x0, x1, hp⟩ := HA.out wr hk q hlt
        obtain ⟨ad2, rfl, hb2, z0, z1, hp2⟩ := HB.out wr hk q hlt2
        have HN1 := Lib.hid (fun he => HN.out q hlt hlt2 he)
        have HT1 := Lib.hid (fun he => HT.out q hT.out hlt hlt2 he)
        generalize ps[q] = s at x0 x1 hp HN1 HT1
        generalize ps2[q] = t at z0 z1 hp2 HN1 HT1
        obtain ⟨s0, s1, s2⟩ := s
        obtain ⟨t0, t1, t2⟩ := t
        simp only [] at x0 x1 hp z0 z1 hp2
        have k2 : K0 wr ((wr.alloc (.cells #[s1, .int .i64 s2] 37)).alloc (.cells #[t1, .int .i64 t2] 37)) := ((Kp.refl _ _).alloc _).alloc _
        have HSA := Lib.hid (eq39_any _ s1 t1 s0 t0 s2 t2 (hp.k0 (Nat.le_refl _) k2) (hp2.k0 (Nat.le_refl _) k2))
        obtain ⟨A3, c3, rfl, _⟩ := hp
        obtain ⟨A4, c4, rfl, _⟩ := hp2
        obtain ⟨D, hD⟩ : ∃ D, D = decide ((⟨s0.map Prod.fst, s2⟩ : ShpD) = ⟨t0.map Prod.fst, t2⟩) := ⟨_, rfl⟩
        rw [← hD] at HSA
        have HDD := Lib.hid hD
        clear hD
        have m1 : (ad2.add (q * 2)).block < wr.heap.size := by rw [add_blk]; exact Nat.lt_of_lt_of_le hb2 hk.size
        have z0' := (World.cell?_alloc_lt wr (.cells #[.slice A3 s0.length c3, .int .i64 s2] 37) (ad2.add (q * 2)) m1).trans z0
        have z1' := (World.cell?_alloc_lt wr (.cells #[.slice A3 s0.length c3, .int .i64 s2] 37) ⟨(ad2.add (q * 2)).block, (ad2.add (q * 2)).off + 1, none⟩ m1).trans z1
        go_wp2_with fail
        refine HSA.out.mono ?_
        rintro e w2 ⟨rfl, hk2⟩
        have hk3 : K0 w w2 := hk.trans (k2.trans hk2)
        cases D with
        | true =>
          go_wp2
          exact ⟨⟨q + 1, by omega, by go_num, Lib.hid (HT1.out (of_decide_eq_true HDD.out.symm)), hk3⟩, by simp [intOf]; omega⟩
        | false =>
          have hrf := HN1.out (of_decide_eq_false HDD.out.symm)
          clear HN1 HT1
          subst hrf
          go_wp2
          go_ret
          exact ⟨rfl, hk3⟩
      · obtain rfl : q = ps.length := by omega
        have hy := HY.out hT.out
        subst hy
        go_wp2
        go_ret
        exact ⟨rfl, hk⟩
  · have hRf : R = false := by
      rw [hR, decide_eq_false (fun e => ?_)]
      exact hln (by have := congrArg List.length e; simpa using this)
    clear hR
    subst hRf
    go_enter Tryz.func38, Tryz.ntmps38
    go_wp2
    go_ret
    exact ⟨rfl, Kp.refl _ _⟩

set_option maxRecDepth 100000 in
set_option maxHeartbeats 4000000 in
theorem same19_any (w : World) (v v2 : Value) (ps ps2 : List ShpX) (hv : ShpsV w w.heap.size v ps) (hv2 : ShpsV w w.heap.size v2 ps2) :
    Calls Tryz.prog 19 #[.agg #[v], .agg #[v2]] w fun e w' => e = .returned (.bool (decide (ps.map ShpX.d = ps2.map ShpX.d))) ∧ K0 w w' := by
  obtain ⟨R, hR⟩ : ∃ R, R = decide (ps.map ShpX.d = ps2.map ShpX.d) := ⟨_, rfl⟩
  have HE := Lib.hid (fun W (h : K0 w W) => eq38_any W v v2 ps ps2 (hv.k0 (Nat.le_refl _) h) (hv2.k0 (Nat.le_refl _) h))
  rw [← hR] at HE ⊢
  clear hR
  obtain ⟨A, c, rfl, _⟩ := hv
  obtain ⟨A2, c2, rfl, _⟩ := hv2
  have y0 := (Blk.new w 25 #[.slice A ps.length c]).alloc (.cells #[.slice A2 ps2.length c2] 25)
  have y1 := Blk.new (w.alloc (.cells #[.slice A ps.length c] 25)) 25 #[.slice A2 ps2.length c2]
  have k0 : K0 w ((w.alloc (.cells #[.slice A ps.length c] 25)).alloc (.cells #[.slice A2 ps2.length c2] 25)) := ((Kp.refl _ _).alloc _).alloc _
  rw [World.size_alloc] at y1
  have c0 := y0.cell 0
  have d0 := y1.cell 0
  simp at c0 d0
  go_enter Tryz.func19, Tryz.ntmps19
  go_wp2_with fail
  refine (HE.out _ k0).mono ?_
  rintro e w2 ⟨rfl, hk2⟩
  go_wp2
  go_ret
  exact ⟨rfl, k0.trans hk2⟩
end Go.Proofs.YtobofhiakgohfaaGreatDoor
