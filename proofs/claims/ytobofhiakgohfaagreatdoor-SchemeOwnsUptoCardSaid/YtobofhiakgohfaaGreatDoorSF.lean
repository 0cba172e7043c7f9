/- scheme.Valid: the parts. scheme.Valid. The fixed texts. -/
import Derived.Test.YtobofhiakgohfaaGreatDoorSE
set_option linter.unusedVariables false
set_option linter.unusedSimpArgs false
namespace Go.Proofs.YtobofhiakgohfaaGreatDoor
open Go.RowKit

theorem validF_app : ∀ (l t out : SchD), validF out (l ++ t) = (validF out l && validF (out ++ l) t)
  | [], t, out => by simp [validF]
  | p :: r, t, out => by
    rw [List.cons_append, validF, validF, validF_app r t (out ++ [p]), List.append_assoc, List.singleton_append]
    simp only [Bool.and_assoc]
theorem validF_at {l : SchD} {q : Nat} (h : validF [] (l.take q) = true) (hq : q < l.length) : ((vShape l[q] && !overB (l.take q) l[q]) = false → validF [] l = false) ∧ ((vShape l[q] && !overB (l.take q) l[q]) = true → validF [] (l.take (q + 1)) = true) := by
  have e : l.take (q + 1) = l.take q ++ [l[q]] := by rw [List.take_succ_eq_append_getElem hq]
  have h1 := validF_snoc (l.take q) [] l[q]
  rw [h, List.nil_append, Bool.true_and] at h1
  refine ⟨fun hx => ?_, fun hx => by rw [e, h1, hx]⟩
  have h2 := validF_app (l.take (q + 1)) (l.drop (q + 1)) []
  rw [List.take_append_drop, e, h1, hx, Bool.false_and] at h2
  exact h2
theorem good_of_v {p : ShpD} (h : vShape p = true) : goodP p := by
  unfold vShape at h
  simp only [Bool.and_eq_true, decide_eq_true_eq, List.all_eq_true, Bool.not_eq_true'] at h
  obtain ⟨⟨⟨h1, h2, h3, h4⟩, h5⟩, h6⟩ := h
  have := cntP_pos (l := p.parts) (fun s hs => ⟨(h5 s hs).2, by rintro rfl; have := (h5 [] hs).1; simp at this⟩)
  refine ⟨h3, ?_, h6⟩
  unfold lastB
  omega
theorem good_of_valid {l : SchD} (h : validF [] l = true) : ∀ p ∈ l, goodP p := fun p hp => good_of_v (validR_good h p hp)

/-- A part that no shape may have. -/
def badS (l : List Sp) : Bool := l.isEmpty || !okS 255 l

set_option maxRecDepth 100000 in
set_option maxHeartbeats 4000000 in
theorem none_any (w : World) (A : Option Addr) (c : Nat) (l : List Sp) (hr : Reads w w.heap.size 2 A l.length (spcs l)) (hl : l.length ≤ 1048576) :
    Calls Tryz.prog 43 #[.slice A l.length c] w fun e w' => e = .returned (.bool (badS l)) ∧ K0 w w' := by
  have V := Lib.hid (spvalid_any w A c l hr (by omega))
  cases hl0 : l with
  | nil =>
    subst hl0
    go_enter Tryz.func43, Tryz.ntmps43
    go_wp2
    go_ret
    exact ⟨rfl, Kp.refl _ _⟩
  | cons a t =>
    rw [← hl0]
    have hlen : 0 < l.length := by rw [hl0]; simp
    have hb : badS l = !okS 255 l := by unfold badS; rw [hl0]; rfl
    rw [hb]
    obtain ⟨n, hn⟩ : ∃ n, l.length = n + 1 := ⟨l.length - 1, by omega⟩
    rw [hn] at V ⊢
    have e1 : decide ((n : Int) + 1 = 0) = false := decide_eq_false (by omega)
    clear hl0 hb hr hn hlen hl
    go_enter Tryz.func43, Tryz.ntmps43
    go_wp2_with fail
    refine V.out.mono ?_
    rintro e w2 ⟨rfl, hk2⟩
    go_wp2
    go_ret
    exact ⟨rfl, hk2⟩

set_option maxRecDepth 100000 in
set_option maxHeartbeats 4000000 in
theorem idx72_any (w : World) (v : Value) (ps : List PartX) (hv : PartsV w w.heap.size v ps) :
    Calls Tryz.prog 72 #[v, .func (.func 43) #[] #[]] w fun e w' => ∃ r : Int, e = .returned (.int .i64 r) ∧ decide (0 ≤ r) = (ps.map Prod.fst).any badS ∧ K0 w w' := by
  obtain ⟨A, c, rfl, hc1, hc2, hl, hr, hp⟩ := hv
  have HA := Lib.hid (fun W hk q hlt => part_at (W := W) (q := q) hr hp (Nat.le_refl _) hk hlt)
  have HS := Lib.hid (fun (q : Nat) (h : ∀ s ∈ (ps.map Prod.fst).take q, badS s = false) (hq : q < ps.length) (hb : badS ps[q].1 = false) => show ∀ s ∈ (ps.map Prod.fst).take (q + 1), badS s = false by
    rw [List.take_succ_eq_append_getElem (by simpa using hq)]
    intro s hs
    rcases List.mem_append.1 hs with hs | hs
    · exact h s hs
    · simp only [List.getElem_map, List.mem_singleton] at hs; subst hs; exact hb)
  have HT := Lib.hid (fun (q : Nat) (hq : q < ps.length) (hb : badS ps[q].1 = true) => show (ps.map Prod.fst).any badS = true from List.any_eq_true.2 ⟨_, List.mem_map.2 ⟨_, List.getElem_mem hq, rfl⟩, hb⟩)
  have HF := Lib.hid (fun (h : ∀ s ∈ (ps.map Prod.fst).take ps.length, badS s = false) => show (ps.map Prod.fst).any badS = false by
    rw [List.take_of_length_le (by simp)] at h
    rw [List.any_eq_false]
    intro s hs
    rw [h s hs]; simp)
  clear hr hp hc1 hc2
  go_enter Tryz.func72, Tryz.ntmps72
  go_wp2
  go_loopw [8] (fun i wr => ∃ q : Nat, q ≤ ps.length ∧ i = .int .i64 (q : Int) ∧ Hid (∀ s ∈ (ps.map Prod.fst).take q, badS s = false) ∧ K0 w wr) (fun i wr => ps.length - (intOf i).toNat)
  case atStart => exact ⟨0, by omega, rfl, Lib.hid (by simp), Kp.refl _ _⟩
  case round =>
    obtain ⟨q, hq, rfl, hT, hk⟩ := hrel
    by_cases hlt : q < ps.length
    · obtain ⟨ad, rfl, hb, x0, hp⟩ := HA.out wr hk q hlt
      have HS1 := Lib.hid (fun hb => HS.out q hT.out hlt hb)
      have HT1 := Lib.hid (fun hb => HT.out q hlt hb)
      generalize ps[q] = s at x0 hp HS1 HT1
      obtain ⟨s0, s1⟩ := s
      simp only [] at x0 hp
      obtain ⟨A3, c3, rfl, _, _, hl3, hr3⟩ := hp
      have NO := Lib.hid (none_any wr A3 c3 s0 hr3 hl3)
      obtain ⟨D, hD⟩ : ∃ D, D = badS s0 := ⟨_, rfl⟩
      rw [← hD] at NO
      have HDD := Lib.hid hD
      clear hD
      go_wp2_with fail
      refine NO.out.mono ?_
      rintro e w2 ⟨rfl, hk2⟩
      cases D with
      | true =>
        have hx := HT1.out HDD.out.symm
        clear HT1 HS1
        go_wp2
        go_ret
        exact ⟨q, rfl, by rw [hx]; exact decide_eq_true (by omega), hk.trans hk2⟩
      | false =>
        have hx := Lib.hid (HS1.out HDD.out.symm)
        clear HT1 HS1
        go_wp2
        exact ⟨⟨q + 1, by omega, by go_num, hx, hk.trans hk2⟩, by simp [intOf]; omega⟩
    · obtain rfl : q = ps.length := by omega
      have hx := HF.out hT.out
      go_wp2
      go_ret
      exact ⟨-1, rfl, by rw [hx]; exact decide_eq_false (by omega), hk⟩

set_option maxRecDepth 100000 in
set_option maxHeartbeats 4000000 in
theorem has42_any (w : World) (v : Value) (ps : List PartX) (hv : PartsV w w.heap.size v ps) :
    Calls Tryz.prog 42 #[v, .func (.func 43) #[] #[]] w fun e w' => e = .returned (.bool ((ps.map Prod.fst).any badS)) ∧ K0 w w' := by
  have I := Lib.hid (idx72_any w v ps hv)
  obtain ⟨A, c, rfl, _⟩ := hv
  go_enter Tryz.func42, Tryz.ntmps42
  go_wp2_with fail
  refine I.out.mono ?_
  rintro e w2 ⟨r, rfl, hr, hk2⟩
  have hr2 := Lib.hid hr
  clear hr
  go_wp2
  go_ret
  exact ⟨by rw [← hr2.out]; rfl, hk2⟩
end Go.Proofs.YtobofhiakgohfaaGreatDoor

namespace Go.Proofs.YtobofhiakgohfaaGreatDoor
open Go.RowKit

theorem TkB.k0 {w w' : World} {base : Nat} {v : Value} {out : List ShpX} (h : TkB w base v out) (hk : K0 w w') : TkB w' base v out := h.kt hk (fun _ _ _ h => h)
theorem any_bad {l : List (List Sp)} : l.any badS = false ↔ l.all (fun s => !s.isEmpty && okS 255 s) = true := by
  induction l with
  | nil => simp
  | cons a t ih =>
    rw [List.any_cons, List.all_cons]
    unfold badS at ih ⊢
    cases a.isEmpty <;> cases okS 255 a <;> simp [ih]
/-- What the guard ahead says. -/
def okHead (x : ShpX) : Bool := decide (1 ≤ x.ps.length ∧ x.ps.length ≤ 8 ∧ 0 ≤ x.first ∧ x.first ≤ 1073741823) && !(x.ps.map Prod.fst).any badS
theorem vShape_head (x : ShpX) : vShape x.d = (okHead x && decide (lastB x.d ≤ 1073741823)) := by
  have h := any_bad (l := x.ps.map Prod.fst)
  unfold vShape okHead ShpX.d
  simp only [List.length_map]
  cases hA : (x.ps.map Prod.fst).any badS with
  | false => rw [h.1 hA]; simp
  | true =>
    have : ¬ ((x.ps.map Prod.fst).all fun s => !s.isEmpty && okS 255 s) = true := fun e => by rw [h.2 e] at hA; cases hA
    rw [Bool.not_eq_true] at this
    rw [this]
    simp

set_option maxRecDepth 100000 in
set_option maxHeartbeats 16000000 in
theorem valid20_any (w : World) (v : Value) (ss : List ShpX) (hv : ShpsV w w.heap.size v ss) :
    Calls Tryz.prog 20 #[.agg #[v]] w fun e w' => e = .returned (.bool (validR (ss.map ShpX.d))) ∧ K0 w w' := by
  obtain ⟨R, hR⟩ : ∃ R, R = validR (ss.map ShpX.d) := ⟨_, rfl⟩
  rw [← hR]
  obtain ⟨A, c, rfl, hc1, hc2, hl, hr, hp⟩ := hv
  have y0 := Blk.new w 25 #[.slice A ss.length c]
  have k0 : K0 w (w.alloc (.cells #[.slice A ss.length c] 25)) := (Kp.refl _ _).alloc _
  have c0 := y0.cell 0
  simp at c0
  by_cases h32 : ss.length ≤ 32
  · have hR2 : R = validF [] (ss.map ShpX.d) := by rw [hR]; unfold validR; rw [decide_eq_true (by simpa using h32), Bool.true_and]
    have HX := Lib.hid (fun q (hq : q < ss.length) (h : validF [] ((ss.map ShpX.d).take q) = true) => show ((vShape ss[q].d && !overB ((ss.take q).map ShpX.d) ss[q].d) = false → R = false) ∧ ((vShape ss[q].d && !overB ((ss.take q).map ShpX.d) ss[q].d) = true → validF [] ((ss.map ShpX.d).take (q + 1)) = true) by
      have := validF_at h (by simpa using hq)
      rw [hR2]
      rw [List.getElem_map, ← List.map_take] at this
      exact this)
    have HE := Lib.hid (fun (h : validF [] ((ss.map ShpX.d).take ss.length) = true) => show R = true by rw [List.take_of_length_le (by simp)] at h; rw [hR2, h])
    have HA := Lib.hid (fun W hk q hlt => shp_at (W := W) (q := q) hr hp (Nat.le_refl _) hk hlt)
    have HI := Lib.hid (fun q (hlt : q < ss.length) => (hp _ (List.getElem_mem hlt)).2)
    have HTK := Lib.hid (fun q (hlt : q < ss.length) => show ss.take (q + 1) = ss.take q ++ [ss[q]] from List.take_succ_eq_append_getElem hlt)
    clear hR hR2 hr hp hc1 hc2 hl
    go_enter Tryz.func20, Tryz.ntmps20
    go_wp2
    clear c0
    go_loopw [3, 14] (fun tk i wr => ∃ (q : Nat), q ≤ ss.length ∧ i = .int .i64 (q : Int) ∧ Hid (validF [] ((ss.map ShpX.d).take q) = true) ∧ Hid (TkB wr w.heap.size tk (ss.take q)) ∧ K0 w wr) (fun tk i wr => ss.length - (intOf i).toNat)
    case atStart => exact ⟨0, by omega, rfl, Lib.hid rfl, Lib.hid (TkB.nil _ _), k0⟩
    clear y0 k0
    case round =>
      obtain ⟨q, hq, rfl, hT, hK, hk⟩ := hrel
      by_cases hlt : q < ss.length
      · obtain ⟨ad, rfl, hb, x0, x1, hp⟩ := HA.out wr hk q hlt
        have HX1 := HX.out q hlt hT.out
        have HI1 := HI.out q hlt
        have hTK := HTK.out q hlt
        have hlq : (ss.take q).length = q := List.length_take_of_le hq
        have hgo : ∀ p ∈ (ss.take q).map ShpX.d, goodP p := by rw [List.map_take]; exact good_of_valid hT.out
        have hK2 := hK.out
        generalize ss[q] = x at x0 x1 hp HX1 HI1 hTK
        generalize ss.take q = out at hTK hlq hgo hK2 HX1
        obtain ⟨ps, v, first⟩ := x
        simp only [] at x0 x1 hp HX1 HI1 hTK
        obtain ⟨hf1, hf2⟩ := HI1
        have hpk := hp
        obtain ⟨A3, c3, rfl, _, _, hl3, hr3, _⟩ := hp
        have kx : K0 wr (wr.alloc (.cells #[.slice A3 ps.length c3, .int .i64 first] 37)) := (Kp.refl _ _).alloc _
        have yx := Blk.new wr 37 #[.slice A3 ps.length c3, .int .i64 first]
        have HAS := Lib.hid (has42_any (wr.alloc (.cells #[.slice A3 ps.length c3, .int .i64 first] 37)) _ ps (hpk.k0 (Nat.le_refl _) kx))
        have HV := vShape_head ⟨ps, .slice A3 ps.length c3, first⟩
        obtain ⟨hd, hhd⟩ : ∃ hd, hd = (ps.map Prod.fst).any badS := ⟨_, rfl⟩
        unfold okHead at HV
        simp only [] at HV
        rw [← hhd] at HAS HV
        clear hhd
        by_cases hhead : 1 ≤ ps.length ∧ ps.length ≤ 8 ∧ 0 ≤ first ∧ first ≤ 1073741823
        · rw [decide_eq_true hhead, Bool.true_and] at HV
          obtain ⟨g1, g2, g3, g4⟩ := hhead
          have cx0 := yx.cell 0
          have cx1 := yx.cell 1
          have lx := yx.lt
          simp at cx0 cx1
          have kw : K0 w (wr.alloc (.cells #[.slice A3 ps.length c3, .int .i64 first] 37)) := hk.trans kx
          have d1 : decide ((ps.length : Int) < 1) = false := decide_eq_false (by omega)
          have d2 : decide (8 < (ps.length : Int)) = false := decide_eq_false (by omega)
          have d3 : decide (first < 0) = false := decide_eq_false (by omega)
          have d4 : decide (1073741823 < first) = false := decide_eq_false (by omega)
          cases hd with
          | true =>
            have hrf := HX1.1 (by rw [HV]; simp)
            clear HX1 HV
            subst hrf
            go_wp2_with fail
            refine HAS.out.mono ?_
            rintro e w2 ⟨rfl, hk2⟩
            go_wp2
            go_ret
            exact ⟨rfl, kw.trans hk2⟩
          | false =>
            rw [Bool.not_false, Bool.true_and] at HV
            rw [HV] at HX1
            obtain ⟨X, hX⟩ : ∃ X, X = ShpX.d ⟨ps, .slice A3 ps.length c3, first⟩ := ⟨_, rfl⟩
            have hXf : X.first = first := by rw [hX]; rfl
            rw [← hX] at HX1 HV
            have HX2 := Lib.hid HX1
            have HV2 := Lib.hid HV
            have HTKH := Lib.hid hTK
            have HXX := Lib.hid hX
            have HXF := Lib.hid hXf
            have HG := Lib.hid hgo
            have LA := Lib.hid (fun W (h : K0 wr W) => last_any W _ ps first (hpk.k0 (Nat.le_refl _) h) g3 g4)
            rw [show (⟨ps.map Prod.fst, first⟩ : ShpD) = X from hX.symm] at LA
            have hlo : lastB X ≤ 2147483648 ∧ -9223372036854775808 ≤ lastB X := by have := (cntP_bd X.parts); unfold lastB; omega
            obtain ⟨lb, hlb⟩ : ∃ lb, lb = lastB X := ⟨_, rfl⟩
            rw [← hlb] at LA hlo
            have HLB := Lib.hid hlb
            clear HX1 HV hTK hX hXf hgo hlb
            go_wp2_with fail
            refine HAS.out.mono ?_
            rintro e w1 ⟨rfl, hk1⟩
            have yx1 := yx.kp hk1 (fun h => h)
            have cx0 := yx1.cell 0
            have cx1 := yx1.cell 1
            have lx := yx1.lt
            simp at cx0 cx1
            go_wp2
            go_region_held3 (fun w' => w'.cell? ⟨wr.heap.size, 0, none⟩ = some (.slice A3 ps.length c3) ∧ w'.cell? ⟨wr.heap.size, 1, none⟩ = some (.int .i64 first)) (go_keep) ((go_at_call 44; refine (LA.out _ (by first | exact (kx.trans hk1).drew | exact ((kx.trans hk1).drewN _))).mono ?_; rintro e w2 ⟨rfl, hk2⟩; have q0 := (hk2.cell (p := ⟨wr.heap.size, 0, none⟩) (by exact lx) (fun h => h)).trans (by exact cx0); have q1 := (hk2.cell (p := ⟨wr.heap.size, 1, none⟩) (by exact lx) (fun h => h)).trans (by exact cx1)))
            have k2 : K0 wr w2 := (kx.trans hk1).drew.trans hk2
            have kw2 : K0 w w2 := hk.trans k2
            have yr := Blk.new w2 107 #[.int .i64 first, .int .i64 lb]
            have kA : K0 w (w2.alloc (.cells #[.int .i64 first, .int .i64 lb] 107)) := kw2.alloc _
            have kA2 : K0 wr (w2.alloc (.cells #[.int .i64 first, .int .i64 lb] 107)) := k2.alloc _
            obtain ⟨gr, hgr⟩ : ∃ gr, gr = w2.heap.size := ⟨_, rfl⟩
            rw [← hgr] at yr ⊢
            generalize w2.alloc (.cells #[.int .i64 first, .int .i64 lb] 107) = W2 at *
            clear q0 q1 hgr hk2 k2 kw2 cx0 cx1 lx yx1 yx hk1
            have r1 := yr.cell 1
            have rl := yr.lt
            simp at r1
            by_cases hbig : 1073741823 < lb
            · have e1 : decide (1073741823 < lb) = true := decide_eq_true hbig
              have hrf := HX2.out.1 (by rw [← HLB.out, decide_eq_false (by omega)]; rfl)
              clear HX2
              subst hrf
              go_wp2
              go_ret
              exact ⟨rfl, kA⟩
            · have e1 : decide (1073741823 < lb) = false := decide_eq_false hbig
              have hvX : vShape X = true := by rw [HV2.out, ← HLB.out]; exact decide_eq_true (by omega)
              have HX3 := HX2.out
              rw [← HLB.out, decide_eq_true (by omega : lb ≤ 1073741823), Bool.true_and] at HX3
              have HX4 := Lib.hid HX3
              clear HX3 HX2
              have hgX : goodP X := good_of_v hvX
              have hgo2 := HG.out
              have hone := one_ok hgX
              have htok := taken_ok hgo2
              have hmt := taken_meet hgo2 hgX
              have hts := taken_snoc hgo2 hgX
              rw [HXF.out, ← HLB.out] at hone hmt hts
              have hol : out.length ≤ 32 := by omega
              have htl : (takenOf (out.map ShpX.d)).length ≤ 32 := by have := taken_len (out.map ShpX.d); rw [List.length_map] at this; omega
              have htl2 : (takenOf (out.map ShpX.d ++ [X])).length ≤ 33 := by have := taken_len (out.map ShpX.d ++ [X]); rw [List.length_append, List.length_map, List.length_singleton] at this; omega
              obtain ⟨At, ct, hvt, hot⟩ := hK2
              have hotw := own_far hot kA2 (fun _ _ h => h)
              have RT := Reads.of_own (hvt ▸ hotw)
              have RR : Reads W2 W2.heap.size 2 (some ⟨gr, 0, none⟩) [(first, lb)].length (spcs [(first, lb)]) := ⟨rfl, fun _ => ⟨_, rfl, rl, World.news_of_block (cs := #[.int .i64 first, .int .i64 lb]) (t := 107) (fr := (0, 0)) yr⟩⟩
              have ME := Lib.hid (scmeet_any W2 At (some ⟨gr, 0, none⟩) ct 1 (takenOf (out.map ShpX.d)) [(first, lb)] RT RR (by simp; omega))
              rw [setD_of htok, setD_of hone] at ME
              have UN := Lib.hid (fun W (hk : K0 W2 W) => scunion_any W At (some ⟨gr, 0, none⟩) ct 1 (takenOf (out.map ShpX.d)) [(first, lb)] (RT.k0 (Nat.le_refl _) hk |>.more hk.size) (RR.k0 (Nat.le_refl _) hk |>.more hk.size) (by simp; omega) htok hone (by simp) (by rw [hts]; omega))
              rw [hts] at UN
              have HMT := Lib.hid hmt
              unfold SpPost at ME UN
              generalize meetL (takenOf (out.map ShpX.d)) [(first, lb)] = M at ME HMT
              have hTT0 : takenOf ((ss.take (q + 1)).map ShpX.d) = takenOf (out.map ShpX.d ++ [X]) := by rw [HTKH.out, List.map_append, HXX.out]; rfl
              generalize takenOf (out.map ShpX.d ++ [X]) = TT at UN htl2 hTT0
              have HTT := Lib.hid hTT0
              subst hvt
              clear hmt hts htok hone hTT0 RT RR htl hot hotw hgX hgo2
              go_wp2_with fail
              refine ME.out.mono ?_
              rintro e w3 ⟨A3', c3', rfl, ho3, hk3⟩
              cases hov : overB (out.map ShpX.d) X with
              | true =>
                have hM : M ≠ [] := HMT.out.2 hov
                have hMl : 0 < M.length := List.length_pos_iff.2 hM
                have e2 : decide (0 < (M.length : Int)) = true := decide_eq_true (by omega)
                have hrf := HX4.out.1 (by rw [hov]; rfl)
                clear hov hM HX4
                subst hrf
                go_wp2
                go_ret
                exact ⟨rfl, kA.trans hk3⟩
              | false =>
                have hM : M = [] := by
                  cases hM : M with
                  | nil => rfl
                  | cons a t => have := HMT.out.1 (by rw [hM]; simp); rw [hov] at this; cases this
                subst hM
                have hnext := Lib.hid (HX4.out.2 (by rw [hov]; rfl))
                have U1 := Lib.hid (UN.out w3 hk3)
                simp only [List.length_nil]
                have hsw := kA.size
                have hs3 := hk3.size
                clear hov HX4
                go_wp2_with fail
                refine U1.out.mono ?_
                rintro e w4 ⟨A4, c4, rfl, ho4, hk4⟩
                have ktot : K0 w w4 := (kA.trans hk3).trans hk4
                have htk4 : TkB w4 w.heap.size (.slice A4 TT.length c4) (ss.take (q + 1)) := by
                  unfold TkB
                  rw [HTT.out]
                  exact ⟨A4, c4, rfl, own_mono ho4 (by omega)⟩
                have HTK4 := Lib.hid htk4
                clear htk4 ho4
                go_wp2
                exact ⟨⟨q + 1, by omega, by go_num, hnext, HTK4, ktot⟩, by simp [intOf]; omega⟩
        · have hrf := HX1.1 (by rw [HV, decide_eq_false hhead]; simp)
          clear HX1 HV
          subst hrf
          have cx0 := yx.cell 0
          have cx1 := yx.cell 1
          simp at cx0 cx1
          have kw : K0 w (wr.alloc (.cells #[.slice A3 ps.length c3, .int .i64 first] 37)) := hk.trans kx
          by_cases a1 : (ps.length : Int) < 1
          · have d1 : decide ((ps.length : Int) < 1) = true := decide_eq_true a1
            have d2 : ps.length < 1 := by omega
            clear hhead
            go_wp2
            go_ret
            exact ⟨rfl, kw⟩
          · have d1 : decide ((ps.length : Int) < 1) = false := decide_eq_false a1
            by_cases a2 : 8 < (ps.length : Int)
            · have d2 : decide (8 < (ps.length : Int)) = true := decide_eq_true a2
              clear hhead
              go_wp2
              go_ret
              exact ⟨rfl, kw⟩
            · have d2 : decide (8 < (ps.length : Int)) = false := decide_eq_false a2
              by_cases a3 : first < 0
              · have d3 : decide (first < 0) = true := decide_eq_true a3
                clear hhead
                go_wp2
                go_ret
                exact ⟨rfl, kw⟩
              · have d3 : decide (first < 0) = false := decide_eq_false a3
                have d4 : decide (1073741823 < first) = true := decide_eq_true (by omega)
                clear hhead
                go_wp2
                go_ret
                exact ⟨rfl, kw⟩
      · obtain rfl : q = ss.length := by omega
        have hy := HE.out hT.out
        subst hy
        go_wp2
        go_ret
        exact ⟨rfl, hk⟩
  · have hRf : R = false := by rw [hR]; unfold validR; rw [decide_eq_false (by simpa using h32), Bool.false_and]
    clear hR
    subst hRf
    have e0 : decide (32 < (ss.length : Int)) = true := decide_eq_true (by omega)
    go_enter Tryz.func20, Tryz.ntmps20
    go_wp2
    go_ret
    exact ⟨rfl, k0⟩
end Go.Proofs.YtobofhiakgohfaaGreatDoor

namespace Go.Proofs.YtobofhiakgohfaaGreatDoor
open Go.RowKit

theorem normS_sorted {l : List Sp} (h : risingS l) : normS l = mrg l := by
  unfold normS
  rw [List.mergeSort_of_pairwise]
  exact h.imp fun h => by simpa using h
def txFix : ByteArray := ⟨#[99, 108, 97, 115, 115, 32, 116, 32, 56, 48, 45, 57, 70, 32, 65, 48, 45, 66, 70, 10, 115, 104, 97, 112, 101, 32, 48, 48, 45, 55, 70, 32, 97, 116, 32, 48, 10, 115, 104, 97, 112, 101, 32, 67, 50, 45, 68, 70, 32, 116, 32, 97, 116, 32, 49, 50, 56]⟩
def shFix : SchD := [⟨[[(0, 127)]], 0⟩, ⟨[[(194, 223)], [(128, 191)]], 128⟩]
def nmT : ByteArray := ⟨#[116]⟩
def nmN : ByteArray := ⟨#[]⟩
def dFix : DescD := ⟨[⟨nmT, [⟨nmN, 128, 159, 8⟩, ⟨nmN, 160, 191, 14⟩], 6⟩], [⟨[⟨nmN, 0, 127, 26⟩], 0, 35⟩, ⟨[⟨nmN, 194, 223, 43⟩, ⟨nmT, 0, 0, 49⟩], 128, 54⟩]⟩
theorem parse_fix : parseR txFix = .ok dFix := by kernel_rfl
theorem class_fix : classesB [] dFix.cls = .ok [(nmT, normS [(128, 159), (160, 191)])] := by kernel_rfl
theorem norm_fix : normS [(128, 159), (160, 191)] = [(128, 191)] := by rw [normS_sorted (by unfold risingS; decide)]; decide
theorem shape_fix : shapesB [(nmT, [(128, 191)])] [] dFix.shs = .ok shFix := by kernel_rfl
theorem fit_fix : fitD dFix = true := by kernel_rfl
theorem OutB.shpsV {w : World} {base : Nat} {v : Value} {out : List ShpX} (h : OutB w base v out) (hl : out.length ≤ 1048576) : ShpsV w w.heap.size v out := by
  obtain ⟨A, c, rfl, h1, h2⟩ := own_form h.row
  refine ⟨A, c, rfl, h1, h2, hl, Reads.of_own h.row, fun x hx => ?_⟩
  obtain ⟨ho, h8, f0, f9⟩ := h.shs x hx
  exact ⟨ho.partsV (by omega), by omega, by omega⟩
/-- The shapes that the law writes out. -/
def litX (b : Nat) : List ShpX := [⟨[([(0, 127)], .slice (some ⟨b, 0, none⟩) 1 1)], .slice (some ⟨b + 1, 0, none⟩) 1 1, 0⟩, ⟨[([(194, 223)], .slice (some ⟨b + 1 + 1, 0, none⟩) 1 1), ([(128, 191)], .slice (some ⟨b + 1 + 1 + 1, 0, none⟩) 1 1)], .slice (some ⟨b + 1 + 1 + 1 + 1, 0, none⟩) 2 2, 128⟩]
def litW (w : World) : World := (((((w.alloc (.cells #[.int .i64 0, .int .i64 127] 61)).alloc (.cells #[.slice (some ⟨w.heap.size, 0, none⟩) 1 1] 62)).alloc (.cells #[.int .i64 194, .int .i64 223] 61)).alloc (.cells #[.int .i64 128, .int .i64 191] 61)).alloc (.cells #[.slice (some ⟨w.heap.size + 1 + 1, 0, none⟩) 1 1, .slice (some ⟨w.heap.size + 1 + 1 + 1, 0, none⟩) 1 1] 62)).alloc (.cells #[.slice (some ⟨w.heap.size + 1, 0, none⟩) 1 1, .int .i64 0, .slice (some ⟨w.heap.size + 1 + 1 + 1 + 1, 0, none⟩) 2 2, .int .i64 128] 37)
theorem lit_d (b : Nat) : (litX b).map ShpX.d = shFix := rfl
theorem lit_shps (w : World) : K0 w (litW w) ∧ ShpsV (litW w) (litW w).heap.size (.slice (some ⟨w.heap.size + 1 + 1 + 1 + 1 + 1, 0, none⟩) 2 2) (litX w.heap.size) := by
  obtain ⟨w1, h1⟩ : ∃ w1, w1 = w.alloc (.cells #[.int .i64 0, .int .i64 127] 61) := ⟨_, rfl⟩
  obtain ⟨w2, h2⟩ : ∃ w2, w2 = w1.alloc (.cells #[.slice (some ⟨w.heap.size, 0, none⟩) 1 1] 62) := ⟨_, rfl⟩
  obtain ⟨w3, h3⟩ : ∃ w3, w3 = w2.alloc (.cells #[.int .i64 194, .int .i64 223] 61) := ⟨_, rfl⟩
  obtain ⟨w4, h4⟩ : ∃ w4, w4 = w3.alloc (.cells #[.int .i64 128, .int .i64 191] 61) := ⟨_, rfl⟩
  obtain ⟨w5, h5⟩ : ∃ w5, w5 = w4.alloc (.cells #[.slice (some ⟨w.heap.size + 1 + 1, 0, none⟩) 1 1, .slice (some ⟨w.heap.size + 1 + 1 + 1, 0, none⟩) 1 1] 62) := ⟨_, rfl⟩
  obtain ⟨w6, h6⟩ : ∃ w6, w6 = w5.alloc (.cells #[.slice (some ⟨w.heap.size + 1, 0, none⟩) 1 1, .int .i64 0, .slice (some ⟨w.heap.size + 1 + 1 + 1 + 1, 0, none⟩) 2 2, .int .i64 128] 37) := ⟨_, rfl⟩
  have hL : litW w = w6 := by rw [h6, h5, h4, h3, h2, h1]; rfl
  have s1 : w1.heap.size = w.heap.size + 1 := by rw [h1]; simp
  have s2 : w2.heap.size = w.heap.size + 1 + 1 := by rw [h2]; simp [s1]
  have s3 : w3.heap.size = w.heap.size + 1 + 1 + 1 := by rw [h3]; simp [s2]
  have s4 : w4.heap.size = w.heap.size + 1 + 1 + 1 + 1 := by rw [h4]; simp [s3]
  have s5 : w5.heap.size = w.heap.size + 1 + 1 + 1 + 1 + 1 := by rw [h5]; simp [s4]
  have k6 : K0 w5 w6 := by rw [h6]; exact (Kp.refl _ _).alloc _
  have k5 : K0 w4 w6 := (show K0 w4 w5 by rw [h5]; exact (Kp.refl _ _).alloc _).trans k6
  have k4 : K0 w3 w6 := (show K0 w3 w4 by rw [h4]; exact (Kp.refl _ _).alloc _).trans k5
  have k3 : K0 w2 w6 := (show K0 w2 w3 by rw [h3]; exact (Kp.refl _ _).alloc _).trans k4
  have k2 : K0 w1 w6 := (show K0 w1 w2 by rw [h2]; exact (Kp.refl _ _).alloc _).trans k3
  have k1 : K0 w w6 := (show K0 w w1 by rw [h1]; exact (Kp.refl _ _).alloc _).trans k2
  have r1 := reads_new w 61 #[.int .i64 0, .int .i64 127] 1 2 rfl
  have r2 := reads_new w1 62 #[.slice (some ⟨w.heap.size, 0, none⟩) 1 1] 1 1 rfl
  have r3 := reads_new w2 61 #[.int .i64 194, .int .i64 223] 1 2 rfl
  have r4 := reads_new w3 61 #[.int .i64 128, .int .i64 191] 1 2 rfl
  have r5 := reads_new w4 62 #[.slice (some ⟨w.heap.size + 1 + 1, 0, none⟩) 1 1, .slice (some ⟨w.heap.size + 1 + 1 + 1, 0, none⟩) 1 1] 2 1 rfl
  have r6 := reads_new w5 37 #[.slice (some ⟨w.heap.size + 1, 0, none⟩) 1 1, .int .i64 0, .slice (some ⟨w.heap.size + 1 + 1 + 1 + 1, 0, none⟩) 2 2, .int .i64 128] 2 2 rfl
  rw [← h1] at r1
  rw [← h2, s1] at r2
  rw [← h3, s2] at r3
  rw [← h4, s3] at r4
  rw [← h5, s4] at r5
  rw [← h6, s5] at r6
  rw [hL]
  have z1 := k2.size
  have z2 := k3.size
  have z3 := k4.size
  have z4 := k5.size
  have z5 := k6.size
  have s6 : w6.heap.size = w.heap.size + 1 + 1 + 1 + 1 + 1 + 1 := by rw [h6]; simp [s5]
  have q1 := (r1.k0 (by omega) k2).more (show _ ≤ w6.heap.size by omega)
  have q2 := (r2.k0 (by omega) k3).more (show _ ≤ w6.heap.size by omega)
  have q3 := (r3.k0 (by omega) k4).more (show _ ≤ w6.heap.size by omega)
  have q4 := (r4.k0 (by omega) k5).more (show _ ≤ w6.heap.size by omega)
  have q5 := (r5.k0 (by omega) k6).more (show _ ≤ w6.heap.size by omega)
  have q6 := r6.more (show _ ≤ w6.heap.size by omega)
  refine ⟨k1, _, 2, rfl, Nat.le_refl _, by omega, by simp [litX], q6, fun x hx => ?_⟩
  simp only [litX, List.mem_cons, List.not_mem_nil, or_false] at hx
  rcases hx with rfl | rfl
  · refine ⟨⟨_, 1, rfl, Nat.le_refl _, by omega, by simp, q2, fun y hy => ?_⟩, by dsimp only; omega, by dsimp only; omega⟩
    simp only [List.mem_singleton] at hy
    subst hy
    exact ⟨_, 1, rfl, Nat.le_refl _, by omega, by simp, q1⟩
  · refine ⟨⟨_, 2, rfl, Nat.le_refl _, by omega, by simp, q5, fun y hy => ?_⟩, by dsimp only; omega, by dsimp only; omega⟩
    simp only [List.mem_cons, List.not_mem_nil, or_false] at hy
    rcases hy with rfl | rfl
    · exact ⟨_, 1, rfl, Nat.le_refl _, by omega, by simp, q3⟩
    · exact ⟨_, 1, rfl, Nat.le_refl _, by omega, by simp, q4⟩
theorem read_fix : readS txFix = (shFix, 0, 0) := by
  unfold readS
  rw [parse_fix]
  have : buildR dFix = .ok shFix := by
    unfold buildR
    rw [fit_fix, class_fix, norm_fix]
    exact shape_fix
  unfold schR
  simp only [this]

set_option maxRecDepth 100000 in
set_option maxHeartbeats 4000000 in
theorem fixed_any (w : World) (hP : PowV w) : Calls Tryz.prog 9 #[] w fun e w' => e = .returned (.bool true) ∧ K0 w w' := by
  have RD := Lib.hid (read_any w txFix (by decide) hP)
  rw [read_fix] at RD
  unfold txFix at RD
  go_enter Tryz.func9, Tryz.ntmps9
  go_wp2_with fail
  refine RD.out.mono ?_
  rintro e w2 ⟨vo, out, h1, rfl, hO, hl, hk2⟩
  have hS := hO.shpsV (by omega)
  obtain ⟨Ao, co, rfl, ho1, ho2⟩ := own_form hO.row
  have ka : K0 w2 (w2.alloc (.cells #[.slice Ao out.length co] 25)) := (Kp.refl _ _).alloc _
  obtain ⟨kl, hL⟩ := lit_shps (w2.alloc (.cells #[.slice Ao out.length co] 25))
  have SM := Lib.hid (same12_any _ _ _ out _ (hS.k0 (Nat.le_refl _) (ka.trans kl)) hL)
  rw [lit_d, h1, show decide (shFix = shFix) = true from decide_eq_true rfl] at SM
  unfold litW at SM kl
  simp only [World.size_alloc] at SM kl
  clear hL h1 hO hS ho1 ho2
  go_wp2_with fail
  refine SM.out.mono ?_
  rintro e w3 ⟨rfl, hk3⟩
  go_wp2
  go_ret
  exact ⟨rfl, hk2.trans (ka.trans (kl.trans hk3))⟩
end Go.Proofs.YtobofhiakgohfaaGreatDoor
