/- sets.Norm: sorted, those that meet or touch made one. sets.Norm. Schemes in memory; the last scalar of a shape. -/
import Derived.Test.YtobofhiakgohfaaGreatDoorSA
import Derived.Test.YtobofhiakgohfaaGreatDoorSrt
set_option linter.unusedVariables false
set_option linter.unusedSimpArgs false
namespace Go.Proofs.YtobofhiakgohfaaGreatDoor
open Go.RowKit Go.Sort

set_option maxRecDepth 100000 in
theorem cmp_any (x y : Int) (w : World) : Calls Tryz.prog 106 #[.int .i64 x, .int .i64 y] w fun e w' => e = .returned (.int .i64 (Lib.compareInt x y)) ∧ w = w' := by
  obtain ⟨r, hr⟩ : ∃ r, r = Lib.compareInt x y := ⟨_, rfl⟩
  rw [← hr]
  unfold Lib.compareInt at hr
  by_cases h1 : x < y
  · rw [if_pos h1] at hr
    subst hr
    have d1 : decide (x < y) = true := decide_eq_true h1
    clear h1
    go_enter Tryz.func106, Tryz.ntmps106
    go_wp2
    go_ret
    exact ⟨rfl, rfl⟩
  · rw [if_neg h1] at hr
    have d1 : decide (x < y) = false := decide_eq_false h1
    by_cases h2 : y < x
    · have hr2 : r = 1 := by rw [hr]; split <;> first | rfl | omega
      subst hr2
      have d2 : decide (y < x) = true := decide_eq_true h2
      clear h1 h2 hr
      go_enter Tryz.func106, Tryz.ntmps106
      go_wp2
      go_ret
      exact ⟨rfl, rfl⟩
    · have hr2 : r = 0 := by rw [hr]; split <;> first | rfl | omega
      subst hr2
      have d2 : decide (y < x) = false := decide_eq_false h2
      clear h1 h2 hr
      go_enter Tryz.func106, Tryz.ntmps106
      go_wp2
      go_ret
      exact ⟨rfl, rfl⟩

set_option maxRecDepth 100000 in
theorem closure105 (x y : Sp) (W : World) : Calls Tryz.prog 105 #[.agg #[.int .i64 x.1, .int .i64 x.2], .agg #[.int .i64 y.1, .int .i64 y.2]] W fun e w' => e = .returned (.int .i64 (Lib.compareInt x.1 y.1)) ∧ ∃ q os', w' = grow (W.drewN q) os' := by
  have hcon := Lib.hid (fun W' => cmp_any x.1 y.1 W')
  generalize Lib.compareInt x.1 y.1 = r at hcon ⊢
  obtain ⟨a, b⟩ := x
  obtain ⟨c, d⟩ := y
  simp only [] at hcon ⊢
  go_enter Tryz.func105, Tryz.ntmps105
  go_wp2_with (go_at_call 106; refine (hcon.out _).mono ?_; rintro e w' ⟨rfl, rfl⟩)
  go_ret
  exact ⟨rfl, 0, _, by rw [alloc_eq_grow, alloc_eq_grow, grow_grow]; rfl⟩

/-- What the sort leaves. -/
def SortPost (base : Nat) (v : Value) (l : List Sp) (w : World) (e : Ending) (w' : World) : Prop := e = .returned (.tuple #[]) ∧ ∃ m : List Sp, m.Perm l ∧ risingS m ∧ w'.ownsRow base 163 2 v l.length (spcs m) ∧ Kp (fun k => v.ownBlock = some k) w w'
theorem sort_any (w : World) (base g c : Nat) (l : List Sp) (ho : w.ownsRow base 163 2 (.slice (some ⟨g, 0, none⟩) l.length c) l.length (spcs l)) (hl : l.length ≤ 4194304) :
    Calls Tryz.prog 104 #[.slice (some ⟨g, 0, none⟩) l.length c, .func (.func 105) #[] #[]] w (SortPost base (.slice (some ⟨g, 0, none⟩) l.length c) l w) := by
  have eg : ∀ args w, (callFunc 105 args).run Tryz.prog w = .ok (.enter 105 args) w := enters_of Tryz.func105 (by kernel_rfl) rfl
  have hlt : g < w.heap.size := (ho.lt g rfl).2
  have hcon := AnyQ.slices_SortFunc Tryz.sortRun 2 Tryz.isAgg163 Tryz.sizeOf163 spc (fun _ => rfl) (fun x v hv => by simp [spc] at hv; rcases hv with rfl | rfl <;> rfl) (fun x y : Sp => Lib.compareInt x.1 y.1) swo_lo 105 #[] g 0 c l.toArray w eg (fun _ _ _ _ x y => closure105 x y _) (holds_own ho) hlt (by simp; omega)
  change Calls Tryz.prog 104 _ _ _ at hcon
  have hs : l.toArray.size = l.length := by simp
  rw [hs] at hcon
  refine hcon.mono ?_
  rintro e w' ⟨rfl, d', n, os, hp, hsd, rfl⟩
  rw [← hs] at hp
  obtain ⟨h1, h2⟩ := perm_all hp
  obtain ⟨k1, k2⟩ := sort_own (n := n) (os := os) ho (d := d') (by rw [h2, hs])
  exact ⟨rfl, d'.toList, h1, rising_of (by rw [h2, hs]) hsd, k1, k2.mono (fun k h => by subst h; rfl)⟩
end Go.Proofs.YtobofhiakgohfaaGreatDoor

namespace Go.Proofs.YtobofhiakgohfaaGreatDoor
open Go.RowKit

/-- The pieces so far, of those made one. -/
def NormAt (m o : List Sp) (q : Nat) : Prop := (o = [] ∧ q = 0) ∨ ∃ pre c, o = pre ++ [c] ∧ mrg m = pre ++ mrg1 c (m.drop q)
theorem NormAt.first {m : List Sp} {s : Sp} {t : List Sp} (h : m = s :: t) : NormAt m [s] 1 := .inr ⟨[], s, rfl, by rw [h]; rfl⟩
theorem NormAt.one {m pre : List Sp} {c s : Sp} {q : Nat} (h : mrg m = pre ++ mrg1 c (m.drop q)) (hd : m.drop q = s :: m.drop (q + 1)) (hle : s.1 ≤ c.2 + 1) : NormAt m (pre ++ [(c.1, max c.2 s.2)]) (q + 1) := by
  refine .inr ⟨pre, _, rfl, ?_⟩
  rw [h, hd, mrg1, if_pos hle]
theorem NormAt.more {m pre : List Sp} {c s : Sp} {q : Nat} (h : mrg m = pre ++ mrg1 c (m.drop q)) (hd : m.drop q = s :: m.drop (q + 1)) (hle : ¬ s.1 ≤ c.2 + 1) : NormAt m (pre ++ [c] ++ [s]) (q + 1) := by
  refine .inr ⟨pre ++ [c], s, rfl, ?_⟩
  rw [h, hd, mrg1, if_neg hle, List.append_assoc]
  rfl
theorem NormAt.fin {m o : List Sp} (h : NormAt m o m.length) (hm : m ≠ []) : o = mrg m := by
  rcases h with ⟨_, h⟩ | ⟨pre, c, rfl, h⟩
  · exact absurd (List.eq_nil_of_length_eq_zero h) hm
  · rw [h, List.drop_length, mrg1]

/-- What Norm answers. -/
def NormPost (v : Value) (l : List Sp) (w : World) (e : Ending) (w' : World) : Prop := ∃ A c, e = .returned (.slice A (normS l).length c) ∧ w'.ownsRow w.heap.size 163 2 (.slice A (normS l).length c) (normS l).length (spcs (normS l)) ∧ Kp (fun k => v.ownBlock = some k) w w'

theorem own_dr {w : World} {base : Nat} {e : TypeId} {size n : Nat} {v : Value} {xs : List Value} (h : w.ownsRow base e size v n xs) (m : Nat) : (w.drewN m).ownsRow base e size v n xs := h
theorem spcs_setHi (pre : List Sp) (c : Sp) (v : Int) : (spcs (pre ++ [c])).set (pre.length * 2 + 1) (.int .i64 v) = spcs (pre ++ [(c.1, v)]) := by
  rw [spcs_append, spcs_append, List.set_append_right _ _ (by rw [spcs_length]; omega), spcs_length, show pre.length * 2 + 1 - pre.length * 2 = 1 by omega]
  rfl

set_option maxRecDepth 100000 in
set_option maxHeartbeats 4000000 in
theorem normL_any (w : World) (base : Nat) (A : Option Addr) (c : Nat) (l : List Sp) (ho : w.ownsRow base 163 2 (.slice A l.length c) l.length (spcs l)) (hne : l ≠ []) (hl : l.length ≤ 4194304) (hf : ∀ s ∈ l, fitsS 1073741823 s) :
    Calls Tryz.prog 78 #[.slice A l.length c] w (NormPost (.slice A l.length c) l w) := by
  obtain ⟨i0, hi, hz0, hz1, hz2⟩ := info_parts info163
  have hl0 : 0 < l.length := List.length_pos_iff.2 hne
  obtain ⟨g, c', he, _, hgl⟩ := ho.form hl0
  cases he
  have SO := Lib.hid (sort_any w base g c l ho hl)
  have HF := Lib.hid (fun (m : List Sp) (hp : m.Perm l) (hr : risingS m) => mrg_norm (top := 1073741823) hp hr hf)
  have HFF := Lib.hid (fun (m : List Sp) (hp : m.Perm l) s (hs : s ∈ m) => hf s (hp.mem_iff.1 hs))
  clear hf
  unfold SortPost at SO
  unfold NormPost
  generalize normS l = R at *
  go_enter Tryz.func78, Tryz.ntmps78
  go_wp2_with fail
  refine SO.out.mono ?_
  rintro e w1 ⟨rfl, m, hp, hr, ho1, hk1⟩
  have hml : m.length = l.length := hp.length_eq
  have hR := HF.out m hp hr
  have hfm := HFF.out m hp
  have hmne : m ≠ [] := fun e => by rw [e] at hml; simp at hml; omega
  have HR := Lib.hid hR
  have HM := Lib.hid hml
  have HFM := Lib.hid hfm
  have HN := Lib.hid hmne
  rw [← hml] at ho1 hl0 hl ⊢
  clear HF HFF SO hR hfm hp hr hne ho hml hmne
  go_wp2
  go_loopw [3, 11] (fun out i wr => ∃ (q : Nat) (o : List Sp), q ≤ m.length ∧ i = .int .i64 (q : Int) ∧ wr.ownsRow w1.heap.size 163 2 out o.length (spcs o) ∧ Hid (NormAt m o q) ∧ o.length ≤ q ∧ Hid (∀ s ∈ o, fitsS 1073741823 s) ∧ K0 w1 wr) (fun out i wr => m.length - (intOf i).toNat)
  case atStart => exact ⟨0, [], by omega, rfl, World.ownsRow_nil _ _ _ _, Lib.hid (.inl ⟨rfl, rfl⟩), by simp, Lib.hid (fun s hs => by cases hs), Kp.refl _ _⟩
  case round =>
    obtain ⟨q, o, hq, rfl, ho, hN, hoq, hfo, hk⟩ := hrel
    obtain ⟨Ao, co, rfl, _, _⟩ := own_form ho
    by_cases hlt : q < m.length
    · have ho1r := own_far ho1 hk (fun _ _ h => h)
      have hlg := (ho1r.lt g rfl).2
      have x0 := ho1r.cellAt (q * 2) (by omega)
      have x1 := ho1r.cellAt (q * 2 + 1) (by omega)
      rw [(spcs_get m q _ (List.getElem?_eq_getElem hlt)).1] at x0
      rw [(spcs_get m q _ (List.getElem?_eq_getElem hlt)).2] at x1
      have hd := drop_consS m hlt
      have hs := HFM.out _ (List.getElem_mem hlt)
      generalize m[q] = s at x0 x1 hd hs
      obtain ⟨lo, hh⟩ := s
      unfold fitsS at hs
      simp only [] at x0 x1 hs
      obtain ⟨f1, f2, f3⟩ := hs
      have HD := Lib.hid hd
      have hsz := hk.size
      clear hd
      rcases hN.out with ⟨rfl, rfl⟩ | ⟨pre, c2, rfl, hM⟩
      · simp only [List.length_nil] at ho ⊢
        go_wp2
        go_quiet (fail)
        go_wp2_with (at_builtin; refine wpList_append_any _ rfl (.tmp 45) (.tmp 47) _ rfl w1.heap.size 163 i0 _ 2 16 Tryz.underlying133 hi hz0 hz1 hz2 rfl (by omega) (.slice Ao 0 co) 0 [] rfl (by exact (own_dr (ho.alloc _) _).alloc _) (wr.heap.size + 1 + 1) (some ⟨wr.heap.size + 1, 0, none⟩) 1 1 [.int .i64 lo, .int .i64 hh] rfl (by have := reads_new ((wr.alloc (.cells #[.int .i64 lo, .int .i64 hh] 163)).drewN nq) 163 #[.int .i64 lo, .int .i64 hh] 1 2 rfl; simpa using this) (by simp [Value.oneCell']) (by simp only [maxLen]; omega) (by omega) (by simp; omega) ?_; intro v2 w2 ho2 hg2 hat2)
        refine ⟨⟨1, [(lo, hh)], by omega, rfl, by simpa [spcs, spc] using ho2, Lib.hid (NormAt.first HD.out), by simp, Lib.hid (fun s hs => by simp only [List.mem_singleton] at hs; subst hs; exact ⟨f1, f2, f3⟩), ?_⟩, by simp [intOf]; omega⟩
        exact (((hk.alloc _).drewN _).alloc _).grown hg2 (fun b hb => .inl (ho.lt b hb).1)
      · have hc := hfo.out c2 (by simp)
        unfold fitsS at hc
        obtain ⟨g1, g2, g3⟩ := hc
        obtain ⟨go_, co', he, _, hgo⟩ := ho.form (by simp)
        cases he
        have hat := ho.cellAt (pre.length * 2 + 1) (by simp; omega)
        rw [(spcs_get (pre ++ [c2]) pre.length c2 (by simp)).2] at hat
        have hfr := ho.frozenAt (pre.length * 2 + 1)
        have HST := Lib.hid (fun (n : Nat) => by
          have hst := (own_dr (ho.alloc (.cells #[.int .i64 lo, .int .i64 hh] 163)) n).stored (pre.length * 2 + 1) (.int .i64 (max c2.2 hh))
          rw [spcs_setHi] at hst
          exact hst)
        have HMM := Lib.hid hM
        clear hM hN
        simp only [List.length_append, List.length_singleton] at ho hoq hfo ⊢
        by_cases hle : lo ≤ c2.2 + 1
        · go_wp2
          go_quiet (fail)
          go_wp2
          go_region
          go_wp2
          obtain ⟨q1, q2⟩ := HST.out (nq + 1)
          refine ⟨⟨q + 1, pre ++ [(c2.1, max c2.2 hh)], by omega, by go_num, by rw [List.length_append, List.length_singleton] at q1 ⊢; exact q1, Lib.hid (NormAt.one HMM.out HD.out (by show lo ≤ c2.2 + 1; omega)), by simp; omega, Lib.hid ?_, ?_⟩, by simp [intOf]; omega⟩
          · intro s hs
            rcases List.mem_append.1 hs with hs | hs
            · exact hfo.out s (by simp [hs])
            · simp only [List.mem_singleton] at hs
              subst hs
              exact ⟨g1, by show c2.1 ≤ max c2.2 hh; omega, by show max c2.2 hh ≤ _; omega⟩
          · exact ((hk.alloc _).drewN _).grown q2 (fun b hb => .inl (by cases hb; exact (ho.lt _ rfl).1))
        · go_wp2
          go_quiet (fail)
          go_wp2_with (at_builtin; refine wpList_append_any _ rfl (.tmp 45) (.tmp 47) _ rfl w1.heap.size 163 i0 _ 2 16 Tryz.underlying133 hi hz0 hz1 hz2 rfl (by omega) (.slice (some ⟨go_, 0, none⟩) (pre.length + 1) co) (pre.length + 1) (spcs (pre ++ [c2])) rfl (by exact (own_dr (ho.alloc _) _).alloc _) (wr.heap.size + 1 + 1) (some ⟨wr.heap.size + 1, 0, none⟩) 1 1 [.int .i64 lo, .int .i64 hh] rfl (by have := reads_new ((wr.alloc (.cells #[.int .i64 lo, .int .i64 hh] 163)).drewN nq) 163 #[.int .i64 lo, .int .i64 hh] 1 2 rfl; simpa using this) (by simp [Value.oneCell']) (by simp only [maxLen]; omega) (by omega) (by simp; omega) ?_; intro v2 w2 ho2 hg2 hat2)
          refine ⟨⟨q + 1, pre ++ [c2] ++ [(lo, hh)], by omega, by go_num, ?_, Lib.hid (NormAt.more HMM.out HD.out (by show ¬ lo ≤ c2.2 + 1; omega)), by simp; omega, Lib.hid ?_, ?_⟩, by simp [intOf]; omega⟩
          · rw [spcs_append, List.length_append (bs := [(lo, hh)]), List.length_append, List.length_singleton, List.length_singleton]
            exact ho2
          · intro s hs
            rcases List.mem_append.1 hs with hs | hs
            · exact hfo.out s hs
            · simp only [List.mem_singleton] at hs
              subst hs
              exact ⟨f1, f2, f3⟩
          · exact (((hk.alloc _).drewN _).alloc _).grown hg2 (fun b hb => .inl (ho.lt b hb).1)
    · obtain rfl : q = m.length := by omega
      have e := hN.out.fin HN.out
      rw [HR.out] at e
      subst e
      go_wp2
      go_ret
      refine ⟨_, _, rfl, own_mono ho hk1.size, hk1.trans (K0.kp hk)⟩

set_option maxRecDepth 100000 in
set_option maxHeartbeats 2000000 in
theorem spnorm_any (w : World) (A : Option Addr) (c : Nat) (l : List Sp) (hr : Reads w w.heap.size 2 A l.length (spcs l)) (hne : l ≠ []) (hl : l.length ≤ 4194304) (hf : ∀ s ∈ l, fitsS 255 s) (hn : (normS l).length ≤ 4194304) :
    Calls Tryz.prog 90 #[.slice A l.length c] w fun e w' => ∃ A' c', e = .returned (.tuple #[.slice A' (normS l).length c', .int .i64 0, .int .i64 0]) ∧ w'.ownsRow w.heap.size 61 2 (.slice A' (normS l).length c') (normS l).length (spcs (normS l)) ∧ K0 w w' := by
  have TO := Lib.hid (fun W (h : Reads W W.heap.size 2 A l.length (spcs l)) => to_99 W A c l h hl)
  have NO := Lib.hid (fun W b A c h => normL_any W b A c l h hne hl (fun s hs => by have := hf s hs; unfold fitsS at this ⊢; omega))
  have BK := Lib.hid (fun W A c h => spback_any W A c (normS l) h hn)
  unfold SpPost at TO BK
  unfold NormPost at NO
  generalize normS l = R at *
  have HR := Lib.hid hr
  have HF := Lib.hid (fun q (h : q < l.length) => hf _ (List.getElem_mem h))
  clear hr hf hne
  go_enter Tryz.func90, Tryz.ntmps90
  go_wp2
  go_loopw [9] (fun i wr => ∃ q : Nat, q ≤ l.length ∧ i = .int .i64 (q : Int) ∧ K0 w wr) (fun i wr => l.length - (intOf i).toNat)
  case atStart => exact ⟨0, by omega, rfl, Kp.refl _ _⟩
  case round =>
    obtain ⟨q, hq, rfl, hk⟩ := hrel
    by_cases hlt : q < l.length
    · obtain ⟨ad, rfl, hb, x0, x1⟩ := (HR.out.k0 (Nat.le_refl _) hk).sp hlt
      have hs := HF.out q hlt
      generalize l[q] = s at x0 x1 hs
      obtain ⟨lo, hh⟩ := s
      unfold fitsS at hs
      simp only [] at x0 x1 hs
      have d1 : decide (lo < 0) = false := decide_eq_false (by omega)
      have d2 : decide (hh < lo) = false := decide_eq_false (by omega)
      have d3 : decide (255 < hh) = false := decide_eq_false (by omega)
      go_wp2
      exact ⟨⟨q + 1, by omega, by go_num, hk.alloc _⟩, by simp [intOf]; omega⟩
    · obtain rfl : q = l.length := by omega
      have X1 := Lib.hid (TO.out wr ((HR.out.k0 (Nat.le_refl _) hk).more hk.size))
      go_wp2_with fail
      refine X1.out.mono ?_
      rintro e w1 ⟨A1, c1, rfl, ho1, hk1⟩
      have X2 := Lib.hid (NO.out w1 _ A1 c1 ho1)
      go_wp2_with fail
      refine X2.out.mono ?_
      rintro e w2 ⟨A2, c2, rfl, ho2, hk2⟩
      have X3 := Lib.hid (BK.out w2 A2 c2 (Reads.of_own ho2))
      go_wp2_with fail
      refine X3.out.mono ?_
      rintro e w3 ⟨A3, c3, rfl, ho3, hk3⟩
      have k02 : K0 w w2 := (hk.trans hk1).trans' hk2 (fun i hi h => by have := (ho1.lt i h).1; have := hk.size; omega)
      go_wp2
      refine bodyPost_ret (v := .tuple #[.slice A3 R.length c3, .int .i64 0, .int .i64 0]) (by simp [results, Tryz.results90, go_sem]) rfl ?_
      exact ⟨_, _, rfl, own_mono ho3 k02.size, k02.trans hk3⟩

set_option maxRecDepth 100000 in
set_option maxHeartbeats 2000000 in
theorem scunion_any (w : World) (A A2 : Option Addr) (c c2 : Nat) (a b : List Sp) (ha : Reads w w.heap.size 2 A a.length (spcs a)) (hb : Reads w w.heap.size 2 A2 b.length (spcs b)) (hl : a.length + b.length ≤ 1048576) (hoka : okS 1073741823 a = true) (hokb : okS 1073741823 b = true) (hne : b ≠ []) (hn : (normS (a ++ b)).length ≤ 4194304) :
    Calls Tryz.prog 46 #[.slice A a.length c, .slice A2 b.length c2] w (SpPost 107 (normS (a ++ b)) w) := by
  obtain ⟨i0, hi, hz0, hz1, hz2⟩ := info_parts info163
  have T1 := Lib.hid (scset_any w A c a ha (by omega))
  have T2 := Lib.hid (fun W (h : Reads W w.heap.size 2 A2 b.length (spcs b)) (hs : w.heap.size ≤ W.heap.size) => scset_any W A2 c2 b (h.more hs) (by omega))
  rw [setD_of hoka] at T1
  rw [setD_of hokb] at T2
  have NO := Lib.hid (fun W bs A c h => normL_any W bs A c (a ++ b) h (by simp [hne]) (by simp; omega) (fun s hs => by
    rcases List.mem_append.1 hs with hs | hs
    · exact okF_fits hoka s hs
    · exact okF_fits hokb s hs))
  have BK := Lib.hid (fun W A c h => scback_any W A c (normS (a ++ b)) h hn)
  unfold SpPost at *
  unfold NormPost at NO
  generalize normS (a ++ b) = R at *
  have HB := Lib.hid hb
  clear ha hb hoka hokb hne
  go_enter Tryz.func46, Tryz.ntmps46
  go_wp2_with fail
  refine T1.out.mono ?_
  rintro e w1 ⟨A1, c1, rfl, ho1, hk1⟩
  have X2 := Lib.hid (T2.out w1 (HB.out.k0 (Nat.le_refl _) hk1) hk1.size)
  go_wp2_with fail
  refine X2.out.mono ?_
  rintro e w2 ⟨A2', c2', rfl, ho2, hk2⟩
  have hs1 := hk1.size
  have hs2 := hk2.size
  have ho1' := own_far ho1 hk2 (fun _ _ h => h)
  go_wp2_with (first
    | (at_builtin; refine wpList_append_any _ rfl (.tmp 6) (.tmp 8) _ rfl w.heap.size 163 i0 _ 2 16 Tryz.underlying133 hi hz0 hz1 hz2 rfl (by omega) (.slice A1 a.length c1) a.length (spcs a) rfl (by exact ho1') w2.heap.size A2' b.length c2' (spcs b) rfl (by exact Reads.of_own ho2) (spcs_one b) (by simp only [maxLen]; omega) (by omega) (by omega) ?_; intro v3 w3 ho3 hg3 hat3; obtain ⟨A3, c3, rfl, _, _⟩ := own_form ho3; rw [← spcs_append, ← List.length_append] at ho3)
    | fail)
  have k03 : K0 w w3 := (hk1.trans hk2).grown hg3 (fun b hb => .inl (ho1'.lt b hb).1)
  rw [← List.length_append] at *
  have X3 := Lib.hid (NO.out w3 _ A3 c3 ho3)
  refine X3.out.mono ?_
  rintro e w4 ⟨A4, c4, rfl, ho4, hk4⟩
  have k04 : K0 w w4 := k03.trans' hk4 (fun i hi h => by have := (ho3.lt i h).1; omega)
  have X4 := Lib.hid (BK.out w4 A4 c4 (Reads.of_own ho4))
  go_wp2_with fail
  refine X4.out.mono ?_
  rintro e w5 ⟨A5, c5, rfl, ho5, hk5⟩
  go_wp2
  go_ret
  exact ⟨_, _, rfl, own_mono ho5 k04.size, k04.trans hk5⟩
end Go.Proofs.YtobofhiakgohfaaGreatDoor

namespace Go.Proofs.YtobofhiakgohfaaGreatDoor
open Go.RowKit

/-- A part of a shape: its pieces, and the value that leads to them. -/
abbrev PartX := List Sp × Value
/-- A shape: its parts, the value that leads to them, its first scalar. -/
structure ShpX where
  ps : List PartX
  v : Value
  first : Int
def ShpX.d (x : ShpX) : ShpD := ⟨x.ps.map Prod.fst, x.first⟩
def duos {α : Type} (f : α → Value × Value) (l : List α) : List Value := l.flatMap fun x => [(f x).1, (f x).2]
theorem duos_length {α : Type} (f : α → Value × Value) (l : List α) : (duos f l).length = l.length * 2 := by
  induction l with
  | nil => rfl
  | cons a t ih => simp only [duos, List.flatMap_cons, List.length_append, List.length_cons, List.length_nil] at ih ⊢; rw [ih]; omega
theorem duos_append {α : Type} (f : α → Value × Value) (a b : List α) : duos f (a ++ b) = duos f a ++ duos f b := by simp [duos]
theorem duos_get {α : Type} (f : α → Value × Value) : ∀ (l : List α) (j : Nat) (t : α), l[j]? = some t → (duos f l)[j * 2]? = some (f t).1 ∧ (duos f l)[j * 2 + 1]? = some (f t).2
  | [], j, t, h => by simp at h
  | a :: r, 0, t, h => by simp at h; subst h; exact ⟨rfl, rfl⟩
  | a :: r, j + 1, t, h => by
    have ih := duos_get f r j t (by simpa using h)
    have e : ∀ i, (duos f (a :: r))[i + 2]? = (duos f r)[i]? := fun i => by
      show ([(f a).1, (f a).2] ++ duos f r)[i + 2]? = _
      rw [List.getElem?_append_right (by simp)]
      simp
    rw [show (j + 1) * 2 = j * 2 + 2 by omega, show j * 2 + 2 + 1 = (j * 2 + 1) + 2 by omega, e, e]
    exact ih
theorem Reads.duo {α : Type} {f : α → Value × Value} {w : World} {B : Nat} {A : Option Addr} {l : List α} (h : Reads w B 2 A l.length (duos f l)) {j : Nat} (hj : j < l.length) :
    ∃ ad, A = some ad ∧ ad.block < B ∧ w.cell? (ad.add (j * 2)) = some (f l[j]).1 ∧ w.cell? ⟨(ad.add (j * 2)).block, (ad.add (j * 2)).off + 1, none⟩ = some (f l[j]).2 := by
  obtain ⟨ad, e, hb, hc⟩ := h.2 (by omega)
  obtain ⟨h0, h1⟩ := duos_get f l j _ (List.getElem?_eq_getElem hj)
  refine ⟨ad, e, hb, hc _ _ h0, ?_⟩
  have := hc _ _ h1
  rw [← add_of_add, add_one] at this
  exact this
def shduo (x : ShpX) : Value × Value := (x.v, .int .i64 x.first)

/-- A list of pieces. -/
def PartV (w : World) (B : Nat) (v : Value) (l : List Sp) : Prop := ∃ A c, v = .slice A l.length c ∧ l.length ≤ c ∧ c ≤ 9223372036854775807 ∧ l.length ≤ 1048576 ∧ Reads w B 2 A l.length (spcs l)
/-- The parts of a shape. -/
def PartsV (w : World) (B : Nat) (v : Value) (q : List PartX) : Prop := ∃ A c, v = .slice A q.length c ∧ q.length ≤ c ∧ c ≤ 9223372036854775807 ∧ q.length ≤ 1048576 ∧ Reads w B 1 A q.length (q.map Prod.snd) ∧ ∀ y ∈ q, PartV w B y.2 y.1
/-- The shapes of a scheme. -/
def ShpsV (w : World) (B : Nat) (v : Value) (s : List ShpX) : Prop := ∃ A c, v = .slice A s.length c ∧ s.length ≤ c ∧ c ≤ 9223372036854775807 ∧ s.length ≤ 1048576 ∧ Reads w B 2 A s.length (duos shduo s) ∧ ∀ x ∈ s, PartsV w B x.v x.ps ∧ -9223372036854775808 ≤ x.first ∧ x.first ≤ 9223372036854775807
theorem PartV.keep {w w' : World} {B B' : Nat} {v : Value} {l : List Sp} (h : PartV w B v l) (hB : B ≤ B') (hk : ∀ p : Addr, p.block < B → w'.cell? p = w.cell? p) : PartV w' B' v l := by
  obtain ⟨A, c, e, h1, h2, h3, h4⟩ := h
  exact ⟨A, c, e, h1, h2, h3, (h4.keep hk).more hB⟩
theorem PartsV.keep {w w' : World} {B B' : Nat} {v : Value} {l : List PartX} (h : PartsV w B v l) (hB : B ≤ B') (hk : ∀ p : Addr, p.block < B → w'.cell? p = w.cell? p) : PartsV w' B' v l := by
  obtain ⟨A, c, e, h1, h2, h3, h4, h5⟩ := h
  exact ⟨A, c, e, h1, h2, h3, (h4.keep hk).more hB, fun y hy => (h5 y hy).keep hB hk⟩
theorem ShpsV.keep {w w' : World} {B B' : Nat} {v : Value} {l : List ShpX} (h : ShpsV w B v l) (hB : B ≤ B') (hk : ∀ p : Addr, p.block < B → w'.cell? p = w.cell? p) : ShpsV w' B' v l := by
  obtain ⟨A, c, e, h1, h2, h3, h4, h5⟩ := h
  exact ⟨A, c, e, h1, h2, h3, (h4.keep hk).more hB, fun y hy => ⟨(h5 y hy).1.keep hB hk, (h5 y hy).2⟩⟩
theorem PartV.k0 {w w' : World} {B : Nat} {v : Value} {l : List Sp} (h : PartV w B v l) (hB : B ≤ w.heap.size) (hk : K0 w w') : PartV w' w'.heap.size v l := h.keep (Nat.le_trans hB hk.size) fun _ hp => hk.cell (by omega) (fun h => h)
theorem PartsV.k0 {w w' : World} {B : Nat} {v : Value} {l : List PartX} (h : PartsV w B v l) (hB : B ≤ w.heap.size) (hk : K0 w w') : PartsV w' w'.heap.size v l := h.keep (Nat.le_trans hB hk.size) fun _ hp => hk.cell (by omega) (fun h => h)
theorem ShpsV.k0 {w w' : World} {B : Nat} {v : Value} {l : List ShpX} (h : ShpsV w B v l) (hB : B ≤ w.heap.size) (hk : K0 w w') : ShpsV w' w'.heap.size v l := h.keep (Nat.le_trans hB hk.size) fun _ hp => hk.cell (by omega) (fun h => h)

theorem cntP_take {l : List (List Sp)} {q : Nat} (h : q < l.length) : cntP (l.take (q + 1)) = min (cntP (l.take q) * szB l[q]) 1073741825 := by
  rw [List.take_succ_eq_append_getElem h, cntP_snoc]

set_option maxRecDepth 100000 in
set_option maxHeartbeats 2000000 in
theorem last_any (w : World) (pv : Value) (q : List PartX) (first : Int) (hq : PartsV w w.heap.size pv q) (h0 : 0 ≤ first) (h1 : first ≤ 1073741823) :
    Calls Tryz.prog 44 #[.agg #[pv, .int .i64 first]] w fun e w' => e = .returned (.int .i64 (lastB ⟨q.map Prod.fst, first⟩)) ∧ K0 w w' := by
  obtain ⟨A, c, rfl, hc1, hc2, hl, hr, hp⟩ := hq
  have HR := Lib.hid hr
  have HP := Lib.hid hp
  obtain ⟨Q, hQ⟩ : ∃ Q, Q = q.map Prod.fst := ⟨_, rfl⟩
  have hQl : Q.length = q.length := by rw [hQ]; simp
  have HQ := Lib.hid (fun (k : Nat) (hk : k < q.length) (hk' : k < Q.length) => (by subst hQ; simp : Q[k] = q[k].1))
  rw [← hQ]
  unfold lastB
  simp only []
  have HC := Lib.hid (fun (k : Nat) (hk : k < Q.length) => cntP_take (l := Q) hk)
  have hB := Lib.hid (fun k => cntP_bd (Q.take k))
  have HF := Lib.hid (show cntP (Q.take q.length) = cntP Q by rw [← hQl, List.take_length])
  have H0 := Lib.hid (show cntP (Q.take 0) = 1 by simp [cntP])
  have HL := Lib.hid hQl
  clear hr hp hQ hQl
  go_enter Tryz.func44, Tryz.ntmps44
  have y := Blk.new w 37 #[.slice A q.length c, .int .i64 first]
  have hk1 : K0 w (w.alloc (.cells #[.slice A q.length c, .int .i64 first] 37)) := (Kp.refl _ _).alloc _
  go_wp2
  go_loopw [3, 9] (fun nv i wr => ∃ k : Nat, k ≤ q.length ∧ i = .int .i64 (k : Int) ∧ nv = .int .i64 (cntP (Q.take k)) ∧ Blk wr w.heap.size 37 #[.slice A q.length c, .int .i64 first] ∧ K0 w wr) (fun nv i wr => q.length - (intOf i).toNat)
  case atStart => exact ⟨0, by omega, rfl, by rw [H0.out], y, hk1⟩
  clear y hk1
  case round =>
    obtain ⟨k, hk, rfl, rfl, y, hkr⟩ := hrel
    by_cases hlt : k < q.length
    · obtain ⟨ad, u, rfl, hb, hu, hcu⟩ := (HR.out.k0 (Nat.le_refl _) hkr).at_ hlt
      rw [List.getElem?_map, List.getElem?_eq_getElem hlt] at hu
      cases hu
      have hpk := (HP.out _ (List.getElem_mem hlt)).k0 (Nat.le_refl _) hkr
      have hst := HC.out k (by have := HL.out; omega)
      rw [HQ.out k hlt (by have := HL.out; omega)] at hst
      generalize q[k] = p at hcu hpk hst
      obtain ⟨pl, pv⟩ := p
      simp only [] at hcu hpk hst
      obtain ⟨A3, c3, rfl, _, _, hl3, hr3⟩ := hpk
      have SZ := Lib.hid (spsize_any wr A3 c3 pl hr3 (by omega))
      have zb := szB_bd pl
      have nb := hB.out k
      generalize szB pl = z at *
      have HST := Lib.hid hst
      clear hst
      generalize cntP (Q.take k) = n at *
      have m0 : 0 ≤ n * z := Int.mul_nonneg nb.1 zb.1
      have m1 : n * z ≤ 1073741825 * 256 := Int.mul_le_mul nb.2 zb.2 zb.1 (by omega)
      have hwz : IntKind.i64.wrap (n * z) = n * z := IntWalk.i64_in _ (by omega)
      go_wp2_with fail
      refine SZ.out.mono ?_
      rintro e w2 ⟨rfl, hk2⟩
      go_wp2
      refine ⟨⟨k + 1, by omega, by go_num, by rw [HST.out], y.kp hk2 (fun h => h), hkr.trans hk2⟩, by simp [intOf]; omega⟩
    · obtain rfl : k = q.length := by omega
      rw [HF.out]
      have nb := cntP_bd Q
      generalize hn : cntP Q = n at *
      have HN := Lib.hid hn
      clear hn
      have c1 := y.cell 1
      have yl := y.lt
      simp at c1
      go_wp2
      go_ret
      exact ⟨by rw [HN.out]; rfl, hkr⟩
end Go.Proofs.YtobofhiakgohfaaGreatDoor
