/- descr: the parser's token at hand: step, fail, word. descr: the parser's items. -/
import Derived.Test.YtobofhiakgohfaaGreatDoorZI
import Derived.Test.YtobofhiakgohfaaGreatDoorZJ
set_option linter.unusedVariables false
set_option linter.unusedSimpArgs false
namespace Go.Proofs.YtobofhiakgohfaaGreatDoor
open Go.RowKit

/-- The tokens that stand behind. -/
def RowT (w : World) (A : Option Addr) (r : TVl) : Prop := r = [] ∨ ∃ gb off cs, A = some ⟨gb, off, none⟩ ∧ Blk w gb 73 cs ∧ ∀ j u, (tcells r)[j]? = some u → cs[off + j]? = some u
theorem RowT.kt {S : Nat → Prop} {w w' : World} {A : Option Addr} {r : TVl} (h : RowT w A r) (hk : Kp S w w') (hs : ∀ g cs, Blk w g 73 cs → ¬ S g) : RowT w' A r := by
  rcases h with h | ⟨gb, off, cs, h1, h2, h3⟩
  · exact .inl h
  · exact .inr ⟨gb, off, cs, h1, h2.kp hk (hs _ _ h2), h3⟩
theorem RowT.head {w : World} {A : Option Addr} {t : TV} {r : TVl} (h : RowT w A (t :: r)) : ∃ gb off, A = some ⟨gb, off, none⟩ ∧ gb < w.heap.size ∧ (∀ g cs, Blk w g 75 cs → gb ≠ g) ∧ w.cell? ⟨gb, off, none⟩ = some (.int .i64 t.1) ∧ w.cell? ⟨gb, off + 1, none⟩ = some (.string t.2.1) ∧ w.cell? ⟨gb, off + 2, none⟩ = some (.int .i64 t.2.2) ∧ RowT w (some ⟨gb, off + 3, none⟩) r := by
  rcases h with h | ⟨gb, off, cs, h1, h2, h3⟩
  · cases h
  · refine ⟨gb, off, h1, h2.lt, fun g cs' hg => h2.ne_ hg (by decide), ?_, ?_, ?_, .inr ⟨gb, off + 3, cs, rfl, h2, fun j u hj => ?_⟩⟩
    · rw [h2.cell]; exact h3 0 _ rfl
    · rw [h2.cell]; exact h3 1 _ rfl
    · rw [h2.cell]; exact h3 2 _ rfl
    · have := h3 (j + 3) u (by
        show (tcell t ++ tcells r)[j + 3]? = some u
        rw [List.getElem?_append_right (by simp [tcell])]
        simpa [tcell] using hj)
      rw [show off + 3 + j = off + (j + 3) by omega]
      exact this

/-- The parser, as it lies in memory. -/
def PB (w : World) (g : Nat) (A : Option Addr) (c : Nat) (t : TV) (r : TVl) (vc vs : Value) : Prop :=
  Blk w g 75 #[.slice A r.length c, .int .i64 t.1, .string t.2.1, .int .i64 t.2.2, vc, vs] ∧ RowT w A r ∧ r.length ≤ c ∧ c ≤ 9223372036854775807
theorem PB.kt {S : Nat → Prop} {w w' : World} {g : Nat} {A : Option Addr} {c : Nat} {t : TV} {r : TVl} {vc vs : Value} (h : PB w g A c t r vc vs) (hk : Kp S w w') (hs : ∀ g cs, Blk w g 73 cs → ¬ S g) (hg : ¬ S g) : PB w' g A c t r vc vs :=
  ⟨h.1.kp hk hg, h.2.1.kt hk hs, h.2.2⟩
theorem PB.k0 {w w' : World} {g : Nat} {A : Option Addr} {c : Nat} {t : TV} {r : TVl} {vc vs : Value} (h : PB w g A c t r vc vs) (hk : K0 w w') : PB w' g A c t r vc vs := h.kt hk (fun _ _ _ h => h) (fun h => h)

/-- What the parser gives up with. -/
def faultE (p e : Int) : Ending := .panicked [{ v := .iface 68 (.agg #[.int .i64 p, .int .i64 e]), recovered := false }]

set_option maxRecDepth 100000 in
theorem fail_any (w : World) (g : Nat) (x0 x1 x2 : Value) (p : Int) (vc vs : Value) (e : Int) (h : Blk w g 75 #[x0, x1, x2, .int .i64 p, vc, vs]) :
    Calls Tryz.prog 63 #[.pointer (some ⟨g, 0, none⟩), .int .i64 e] w fun e' w' => e' = faultE p e ∧ w = w' := by
  have c3 := h.cell 3
  simp at c3
  unfold faultE
  go_enter Tryz.func63, Tryz.ntmps63
  go_wp2
  exact ⟨rfl, rfl, rfl⟩

set_option maxRecDepth 100000 in
theorem word_one (w : World) (g : Nat) (x0 : Value) (s : ByteArray) (p : Int) (vc vs : Value) (h : Blk w g 75 #[x0, .int .i64 1, .string s, .int .i64 p, vc, vs]) :
    Calls Tryz.prog 62 #[.pointer (some ⟨g, 0, none⟩)] w fun e w' => e = .returned (.string s) ∧ w = w' := by
  have c1 := h.cell 1
  have c2 := h.cell 2
  simp at c1 c2
  go_enter Tryz.func62, Tryz.ntmps62
  go_wp2
  go_ret
  exact ⟨rfl, rfl⟩
set_option maxRecDepth 100000 in
theorem word_none (w : World) (g : Nat) (x0 : Value) (k : Int) (s : ByteArray) (p : Int) (vc vs : Value) (hk : k ≠ 1) (h : Blk w g 75 #[x0, .int .i64 k, .string s, .int .i64 p, vc, vs]) :
    Calls Tryz.prog 62 #[.pointer (some ⟨g, 0, none⟩)] w fun e w' => e = faultE p 60 ∧ w = w' := by
  have c1 := h.cell 1
  simp at c1
  have hd : (k == 1) = false := beq_eq_false_iff_ne.2 hk
  have hd2 : (k != 1) = true := by rw [bne, hd]; rfl
  have F := Lib.hid (fail_any w g x0 (.int .i64 k) (.string s) p vc vs 60 h)
  unfold faultE at F
  clear hk
  go_enter Tryz.func62, Tryz.ntmps62
  go_wp2_with (go_at_call 63; refine F.out.mono ?_; rintro e w' ⟨rfl, rfl⟩)
  exact ⟨rfl, rfl, rfl⟩

/-- 's[1:]'. -/
theorem sliceAt_one {P : Program} (t : TypeId) (sz : Nat) (a : Option Addr) (len cap : Nat) (ht : P.underlying t = some (.slice (P.elem t))) (hs : ∀ W : World, (sizeOf (P.elem t)).run P W = .ok sz W) (h1 : 1 ≤ len) (h2 : len ≤ cap) :
    ∃ A', A' = (if cap = 1 then a else a.map (·.add (1 * sz))) ∧ ∀ W : World, (Instr.sliceAt t (.slice a len cap) (some (.int .i64 1)) none none).run P W = .ok (.slice A' (len - 1) (cap - 1)) W := by
  refine ⟨_, rfl, fun W => ?_⟩
  rw [run_sliceAt_slice (h := ht), run_slice_l (ht := ht) (h0 := by omega) (h1 := by omega), hs]
  rfl

set_option maxRecDepth 100000 in
set_option maxHeartbeats 2000000 in
theorem step_any (w : World) (g : Nat) (A : Option Addr) (c : Nat) (t t' : TV) (r : TVl) (vc vs : Value) (h : PB w g A c t (t' :: r) vc vs) :
    Calls Tryz.prog 30 #[.pointer (some ⟨g, 0, none⟩)] w fun e w' => e = .returned (.tuple #[]) ∧ (∃ A' c', PB w' g A' c' t' r vc vs) ∧ K1 g w w' := by
  obtain ⟨hb, hr, hc1, hc2⟩ := h
  obtain ⟨gb, off, rfl, hlt, hne, r0, r1, r2, hr'⟩ := hr.head
  have hne := hne _ _ hb
  obtain ⟨k, s, p⟩ := t'
  rw [List.length_cons] at hb hc1
  obtain ⟨A', hA', hsl⟩ := sliceAt_one (P := Tryz.prog) 70 3 (some ⟨gb, off, none⟩) (r.length + 1) c Tryz.underlying70 (fun _ => rfl) (by omega) hc1
  simp only [] at r0 r1 r2
  have c0 := hb.cell 0
  have c1 := hb.cell 1
  have c2 := hb.cell 2
  have c3 := hb.cell 3
  have f0 := hb.frozen 0
  have f1 := hb.frozen 1
  have f2 := hb.frozen 2
  have f3 := hb.frozen 3
  have hl := hb.lt
  simp at c0 c1 c2 c3
  have HE : Hid (∃ c', PB ((((w.setCell ⟨g, 1, none⟩ (.int .i64 k)).setCell ⟨g, 2, none⟩ (.string s)).setCell ⟨g, 3, none⟩ (.int .i64 p)).setCell ⟨g, 0, none⟩ (.slice A' r.length (c - 1))) g A' c' (k, s, p) r vc vs) := by
    refine Lib.hid ⟨c - 1, ?_, ?_, by omega, by omega⟩
    · have := (((hb.set_ 1 (.int .i64 k)).set_ 2 (.string s)).set_ 3 (.int .i64 p)).set_ 0 (.slice A' r.length (c - 1))
      simpa using this
    · have hk : K1 g w ((((w.setCell ⟨g, 1, none⟩ (.int .i64 k)).setCell ⟨g, 2, none⟩ (.string s)).setCell ⟨g, 3, none⟩ (.int .i64 p)).setCell ⟨g, 0, none⟩ (.slice A' r.length (c - 1))) :=
        ((((Kp.refl (fun k => k = g) w).setCell (p := ⟨g, 1, none⟩) (.inr rfl) _).setCell (p := ⟨g, 2, none⟩) (.inr rfl) _).setCell (p := ⟨g, 3, none⟩) (.inr rfl) _).setCell (p := ⟨g, 0, none⟩) (.inr rfl) _
      refine RowT.kt (S := fun k => k = g) (w := w) ?_ hk (fun g' cs hg' e => ?_)
      · by_cases hc : c = 1
        · have : r = [] := List.eq_nil_of_length_eq_zero (by omega)
          exact .inl this
        · rw [hA', if_neg hc]
          exact hr'
      · subst e
        exact hg'.ne_ hb (by decide) rfl
  have hk : K1 g w ((((w.setCell ⟨g, 1, none⟩ (.int .i64 k)).setCell ⟨g, 2, none⟩ (.string s)).setCell ⟨g, 3, none⟩ (.int .i64 p)).setCell ⟨g, 0, none⟩ (.slice A' r.length (c - 1))) :=
    ((((Kp.refl (fun k => k = g) w).setCell (p := ⟨g, 1, none⟩) (.inr rfl) _).setCell (p := ⟨g, 2, none⟩) (.inr rfl) _).setCell (p := ⟨g, 3, none⟩) (.inr rfl) _).setCell (p := ⟨g, 0, none⟩) (.inr rfl) _
  have HA := Lib.hid hA'
  clear hr hr' hA' hb
  go_enter Tryz.func30, Tryz.ntmps30
  go_region
  go_end0
  obtain ⟨c', hpb⟩ := HE.out
  exact ⟨rfl, ⟨A', c', hpb.k0 ((Kp.refl _ _).drew)⟩, hk.drew⟩
end Go.Proofs.YtobofhiakgohfaaGreatDoor

namespace Go.Proofs.YtobofhiakgohfaaGreatDoor
open Go.RowKit

/-- The tokens that a parser goes over. -/
def TokOk (T : TVl) : Prop := wft T ∧ ∀ t ∈ T, t.2.1.size ≤ 1048576
theorem TokOk.next {t : TV} {r : TVl} (h : TokOk (t :: r)) (h1 : t.1 = 1) : TokOk r ∧ t.2.1.size ≤ 1048576 ∧ ∃ t' r', r = t' :: r' := by
  obtain ⟨hr, _⟩ := word_more h.1 h1
  refine ⟨⟨hr, fun x hx => h.2 x (by simp [hx])⟩, h.2 t (by simp), ?_⟩
  cases r with
  | nil => exact hr.elim
  | cons t' r' => exact ⟨t', r', rfl⟩

def slen (v : Value) : Nat := match v with | .slice _ n _ => n | _ => 0

/-- What items answers. -/
def ItemsPost (most : Nat) (endw : List UInt8) (T : TVl) (g : Nat) (vc vs : Value) (w : World) (e : Ending) (w' : World) : Prop :=
  (∃ p er, itemsR most endw [] T = .error (p, er) ∧ e = faultE p er ∧ K1 g w w') ∨
  (∃ l t r v A c, itemsR most endw [] T = .ok (l, t :: r) ∧ TokOk (t :: r) ∧ e = .returned v ∧ PB w' g A c t r vc vs ∧ OItemsV w' w.heap.size v l ∧ 0 < l.length ∧ K1 g w w')
theorem ItemsPost.bad {most : Nat} {endw : List UInt8} {T : TVl} {g : Nat} {vc vs : Value} {w w' : World} {p er : Int} (h : itemsR most endw [] T = .error (p, er)) (hk : K1 g w w') : ItemsPost most endw T g vc vs w (faultE p er) w' := .inl ⟨p, er, h, rfl, hk⟩

/-- Where the loop stands. -/
def IState (most : Nat) (endw : List UInt8) (T : TVl) (g : Nat) (vc vs : Value) (w : World) (v : Value) (wr : World) : Prop :=
  ∃ (acc : List ItemD) (t : TV) (r : TVl) (A : Option Addr) (c : Nat), Hid (itemsR most endw [] T = itemsR most endw acc (t :: r)) ∧ TokOk (t :: r) ∧ PB wr g A c t r vc vs ∧ acc.length ≤ most ∧ OItemsV wr w.heap.size v acc ∧ K1 g w wr

theorem itemsR_end {most : Nat} {endw : List UInt8} {acc : List ItemD} {t : TV} {r : TVl} (h0 : acc.length ≠ 0) (h : ¬ (t.1 = 1 ∧ t.2.1.data.toList ≠ endw)) : itemsR most endw acc (t :: r) = .ok (acc, t :: r) := by
  rw [itemsR, if_neg]
  rintro (h1 | h1)
  · exact h0 h1
  · exact h h1
theorem itemsR_nw {most : Nat} {endw : List UInt8} {acc : List ItemD} {t : TV} {r : TVl} (h0 : acc.length = 0) (h : t.1 ≠ 1) : itemsR most endw acc (t :: r) = .error (t.2.2, 60) := by
  rw [itemsR, if_pos (.inl h0), if_neg h]
theorem itemsR_no {most : Nat} {endw : List UInt8} {acc : List ItemD} {s : ByteArray} {p : Int} {r : TVl} (h0 : acc.length = 0 ∨ s.data.toList ≠ endw) (hi : itemD s = none) : itemsR most endw acc ((1, s, p) :: r) = .error (p, 60) := by
  rw [itemsR, if_pos (h0.imp id (fun h => ⟨rfl, h⟩)), if_pos rfl]
  simp only [hi]
theorem itemsR_full {most : Nat} {endw : List UInt8} {acc : List ItemD} {s : ByteArray} {p : Int} {r : TVl} {x : ItemD} (h0 : acc.length = 0 ∨ s.data.toList ≠ endw) (hi : itemD s = some x) (hm : acc.length = most) : itemsR most endw acc ((1, s, p) :: r) = .error (p, 4) := by
  rw [itemsR, if_pos (h0.imp id (fun h => ⟨rfl, h⟩)), if_pos rfl]
  simp only [hi]
  rw [if_pos hm]
theorem itemsR_more {most : Nat} {endw : List UInt8} {acc : List ItemD} {s : ByteArray} {p : Int} {r : TVl} {x : ItemD} (h0 : acc.length = 0 ∨ s.data.toList ≠ endw) (hi : itemD s = some x) (hm : acc.length ≠ most) : itemsR most endw acc ((1, s, p) :: r) = itemsR most endw (acc ++ [⟨x.nm, x.lo, x.hi, p⟩]) r := by
  rw [itemsR, if_pos (h0.imp id (fun h => ⟨rfl, h⟩)), if_pos rfl]
  simp only [hi]
  rw [if_neg hm]
theorem icells_snoc (l : List ItemD) (x : ItemD) : icells (l ++ [x]) = icells l ++ [.string x.nm, .int .i64 x.lo, .int .i64 x.hi, .int .i64 x.pl] := by simp [icells, icell]

set_option maxRecDepth 100000 in
set_option maxHeartbeats 16000000 in
theorem pitems_any (w : World) (g : Nat) (A : Option Addr) (c : Nat) (t : TV) (r : TVl) (vc vs : Value) (most : Nat) (en : ByteArray) (hm1 : 1 ≤ most) (hm : most ≤ 32) (ht : TokOk (t :: r)) (h : PB w g A c t r vc vs) :
    Calls Tryz.prog 87 #[.pointer (some ⟨g, 0, none⟩), .int .i64 (most : Int), .string en] w (ItemsPost most en.data.toList (t :: r) g vc vs w) := by
  obtain ⟨i0, hi, hz0, hz1, hz2⟩ := info47'
  obtain ⟨T, hT⟩ : ∃ T, T = t :: r := ⟨_, rfl⟩
  have S0 : IState most en.data.toList T g vc vs w (.slice none 0 0) w := ⟨[], t, r, A, c, Lib.hid (by rw [hT]), ht, h, Nat.zero_le _, ⟨World.ownsRow_nil _ _ _ _, by simp, by simp⟩, Kp.refl _ _⟩
  rw [← hT]
  have hgw := h.1.lt
  clear ht h hT
  go_enter Tryz.func87, Tryz.ntmps87
  go_wp2
  go_loopw [7] (fun v wr => IState most en.data.toList T g vc vs w v wr) (fun v wr => most - slen v)
  case atStart => exact S0
  case round =>
    clear S0
    obtain ⟨acc, ⟨k, s, p⟩, r, A, c, hres, ht, hpb, hal, ho, hk⟩ := hrel
    obtain ⟨ho, ho1, ho2⟩ := ho
    obtain ⟨N, hN⟩ : ∃ N, N = acc.length := ⟨_, rfl⟩
    rw [← hN] at ho hal
    have HN := Lib.hid hN
    obtain ⟨Aq, cq, rfl, hq1, hq2⟩ := own_form ho
    have hb := hpb.1
    simp only [] at hb
    have c1 := hb.cell 1
    have c2 := hb.cell 2
    have c3 := hb.cell 3
    have hl := hb.lt
    simp at c1 c2 c3
    by_cases hk1 : k = 1
    · subst hk1
      obtain ⟨htr, hsz, t', r', rfl⟩ := ht.next rfl
      simp only [] at hsz
      have IT := Lib.hid (fun W => item_any s W (by omega))
      unfold ItemPost at IT
      rw [itemR_eq] at IT
      have WO := Lib.hid (fun W h => word_one W g (.slice A (t' :: r').length c) s p vc vs h)
      have ST := Lib.hid (fun W A c h => step_any W g A c (1, s, p) t' r' vc vs h)
      have FA := Lib.hid (fun W e h => fail_any W g (.slice A (t' :: r').length c) (.int .i64 1) (.string s) p vc vs e h)
      unfold faultE at FA
      by_cases hA : N = 0 ∨ s.data.toList ≠ en.data.toList
      · have HA := Lib.hid (show acc.length = 0 ∨ s.data.toList ≠ en.data.toList by rw [← hN]; exact hA)
        clear hN
        have hcase : N = 0 ∨ (((N : Int) == 0) = false ∧ (s.toList == en.toList) = false ∧ 0 < N) := by
          rcases Nat.eq_zero_or_pos N with h0 | h0
          · exact .inl h0
          · rcases hA with h | h
            · omega
            · refine .inr ⟨beq_eq_false_iff_ne.2 (by omega), ?_, h0⟩
              rw [beq_eq_false_iff_ne, ByteArray.toList_eq, ByteArray.toList_eq]
              exact h
        clear hA
        cases hi2 : itemD s with
        | none =>
          rw [hi2] at IT
          simp only [itemVal] at IT
          have HB := Lib.hid (hres.out.trans (itemsR_no HA.out hi2))
          clear hi2 hres
          rcases hcase with rfl | ⟨e1, e2, _⟩
          all_goals
            go_wp2_with (first
              | (go_at_call 62; refine (WO.out _ hb).mono ?_; rintro e w1 ⟨rfl, rfl⟩)
              | (go_at_call 109; refine (IT.out _).mono ?_; rintro e w2 ⟨rfl, hk2⟩; have hb2 := hb.kp hk2 (fun h => h); have x3 := hb2.cell 3; simp at x3; have l2 := hb2.lt; have kA := ((Kp.refl (fun _ => False) wr).trans hk2).alloc (.cells #[.string ⟨#[]⟩, .int .i64 0, .int .i64 0, .int .i64 0] 53))
              | (go_at_call 63; refine (FA.out _ _ (by exact hb.kp kA (fun h => h))).mono ?_; rintro e w3 ⟨rfl, rfl⟩))
            exact ⟨rfl, ItemsPost.bad HB.out (hk.trans (K0.kp kA))⟩
        | some x =>
          rw [hi2] at IT
          simp only [itemVal] at IT
          by_cases hfull : N = most
          · have HB := Lib.hid (hres.out.trans (itemsR_full HA.out hi2 (HN.out.symm.trans hfull)))
            clear hi2 hres
            rcases hcase with rfl | ⟨e1, e2, _⟩
            · exfalso; omega
            subst hfull
            go_wp2_with (first
              | (go_at_call 62; refine (WO.out _ hb).mono ?_; rintro e w1 ⟨rfl, rfl⟩)
              | (go_at_call 109; refine (IT.out _).mono ?_; rintro e w2 ⟨rfl, hk2⟩; have hb2 := hb.kp hk2 (fun h => h); have x3 := hb2.cell 3; simp at x3; have l2 := hb2.lt; have kA := ((Kp.refl (fun _ => False) wr).trans hk2).alloc (.cells #[.string x.nm, .int .i64 x.lo, .int .i64 x.hi, .int .i64 0] 53))
              | (go_at_call 63; refine (FA.out _ _ (by exact hb.kp kA (fun h => h))).mono ?_; rintro e w3 ⟨rfl, rfl⟩))
            exact ⟨rfl, ItemsPost.bad HB.out (hk.trans (K0.kp kA))⟩
          · have HB := Lib.hid (hres.out.trans (itemsR_more HA.out hi2 (fun e => hfull (HN.out.trans e))))
            have hxn := (itemD_nm hi2).1
            clear hi2 hres
            have hlt : N < most := by omega
            have d1 : ((N : Int) == (most : Int)) = false := beq_eq_false_iff_ne.2 (by omega)
            have d2 : (N == most) = false := beq_eq_false_iff_ne.2 (by omega)
            have d3 : decide (N = most) = false := decide_eq_false (by omega)
            have HNB := Lib.hid (fun (W : World) => show ∀ j u, [Value.string x.nm, .int .i64 x.lo, .int .i64 x.hi, .int .i64 p][j]? = some u → ((W.alloc (.cells #[.string x.nm, .int .i64 x.lo, .int .i64 x.hi, .int .i64 p] 53)).alloc (.cells #[.string x.nm, .int .i64 x.lo, .int .i64 x.hi, .int .i64 p] 53)).cell? ((⟨W.heap.size + 1, 0, none⟩ : Addr).add j) = some u by
              have := World.news_of_block (cs := #[.string x.nm, .int .i64 x.lo, .int .i64 x.hi, .int .i64 p]) (t := 53) (fr := (0, 0)) (heap_alloc_new (W.alloc (.cells #[.string x.nm, .int .i64 x.lo, .int .i64 x.hi, .int .i64 p] 53)) (.cells #[.string x.nm, .int .i64 x.lo, .int .i64 x.hi, .int .i64 p] 53))
              simpa using this)
            have HIC := Lib.hid (icells_snoc acc ⟨x.nm, x.lo, x.hi, p⟩)
            have hsw := hk.size
            clear hfull
            rcases hcase with rfl | ⟨e1, e2, _⟩
            all_goals
              go_wp2_with (first
                | (go_at_call 62; refine (WO.out _ hb).mono ?_; rintro e w1 ⟨rfl, rfl⟩)
                | (go_at_call 109; refine (IT.out _).mono ?_; rintro e w2 ⟨rfl, hk2⟩; have hb2 := hb.kp hk2 (fun h => h); have x3 := hb2.cell 3; simp at x3; have l2 := hb2.lt; have ho2' := own_kp ho hk2 (fun _ _ h => h); have hs2 := hk2.size)
                | (at_builtin; refine wpList_append_lies _ rfl (.tmp 54) (.tmp 56) _ rfl w.heap.size 53 i0 _ 4 40 Tryz.underlying49 hi hz0 hz1 hz2 rfl (by omega) _ _ (icells acc) rfl (by exact (ho2'.alloc _).alloc _) ⟨w2.heap.size + 1, 0, none⟩ 1 1 [.string x.nm, .int .i64 x.lo, .int .i64 x.hi, .int .i64 p] rfl rfl (HNB.out _) (by simp [Value.oneCell']) (by omega) (by simp only [maxLen]; omega) (by omega) (by simp; omega) (w2.heap.size + 1 + 1) (by simp) ?_; intro g8 cap8 w8 hown8 hg8 hat8 hlt8; have K8 : Kp (fun k => (Value.slice Aq _ cq).ownBlock = some k) wr w8 := (((K0.kp hk2).alloc _).alloc _).grown hg8 (fun k hk => .inr hk); have hpb8 := hpb.kt K8 (fun g cs hg h => own_blk_ne ho hg (by decide) h) (fun h => own_blk_ne ho hb (by decide) h))
                | (go_at_call 30; refine (ST.out _ _ _ hpb8).mono ?_; rintro e w9 ⟨rfl, ⟨A9, c9, hpb9⟩, hk9⟩))
              have hown9 := own_kt hown8 hk9 (fun g' cs hg' e => by subst e; exact hg'.ne_ hpb8.1 (by decide) rfl)
              refine ⟨⟨acc ++ [⟨x.nm, x.lo, x.hi, p⟩], t', r', A9, c9, HB, htr, hpb9, by rw [List.length_append, List.length_singleton, ← HN.out]; omega, ⟨?_, by rw [List.length_append, List.length_singleton, ← HN.out]; omega, ?_⟩, ?_⟩, by simp [slen]; omega⟩
              · rw [HIC.out, List.length_append, List.length_singleton, ← HN.out]
                exact hown9
              · intro y hy
                rcases List.mem_append.1 hy with hy | hy
                · exact ho2 y hy
                · simp only [List.mem_singleton] at hy
                  subst hy
                  show x.nm.size ≤ _
                  omega
              · refine hk.trans' (T := fun k => (Value.slice Aq _ cq).ownBlock = some k ∨ k = g) ((K8.mono (fun _ h => .inl h)).trans (hk9.mono (fun _ h => .inr h))) (fun i hi h => ?_)
                rcases h with h | h
                · have := (ho.lt i h).1; omega
                · exact h
      · have hA0 : N ≠ 0 := fun e => hA (.inl e)
        obtain rfl : s = en := ba_ext (by
          by_cases h : s.data.toList = en.data.toList
          · exact h
          · exact absurd (.inr h) hA)
        have HB := Lib.hid (hres.out.trans (itemsR_end (by rw [← hN]; exact hA0) (fun h => h.2 rfl)))
        have e1 : ((N : Int) == 0) = false := beq_eq_false_iff_ne.2 (by omega)
        have hfin : ∀ e, e = Ending.returned (.slice Aq N cq) → ItemsPost most s.data.toList T g vc vs w e wr := fun e he =>
          .inr ⟨acc, (1, s, p), t' :: r', .slice Aq N cq, A, c, HB.out, ht, he, hpb, ⟨by rw [← HN.out]; exact ho, ho1, ho2⟩, by rw [← HN.out]; omega, hk⟩
        have HF := Lib.hid hfin
        clear hA hN hfin hres
        go_wp2
        go_ret
        exact HF.out _ rfl
    · have hd : (k == 1) = false := beq_eq_false_iff_ne.2 hk1
      by_cases hA0 : N = 0
      · have HB := Lib.hid (hres.out.trans (itemsR_nw (by rw [← hN]; exact hA0) hk1))
        have WO := Lib.hid (word_none wr g (.slice A r.length c) k s p vc vs hk1 hb)
        unfold faultE at WO
        clear hN hres
        subst hA0
        go_wp2_with (go_at_call 62; refine WO.out.mono ?_; rintro e w1 ⟨rfl, rfl⟩)
        exact ⟨rfl, ItemsPost.bad HB.out hk⟩
      · have HB := Lib.hid (hres.out.trans (itemsR_end (by rw [← hN]; exact hA0) (fun h => hk1 h.1)))
        have e1 : ((N : Int) == 0) = false := beq_eq_false_iff_ne.2 (by omega)
        have hfin : ∀ e, e = Ending.returned (.slice Aq N cq) → ItemsPost most en.data.toList T g vc vs w e wr := fun e he =>
          .inr ⟨acc, (k, s, p), r, .slice Aq N cq, A, c, HB.out, ht, he, hpb, ⟨by rw [← HN.out]; exact ho, ho1, ho2⟩, by rw [← HN.out]; omega, hk⟩
        have HF := Lib.hid hfin
        clear hN hfin hres hk1
        go_wp2
        go_ret
        exact HF.out _ rfl
end Go.Proofs.YtobofhiakgohfaaGreatDoor
