/- descr: the document's Parse. The walk of DescrParses. -/
import Derived.Test.YtobofhiakgohfaaGreatDoorZQ
import Derived.Test.YtobofhiakgohfaaGreatDoorZU
import Derived.Test.YtobofhiakgohfaaGreatDoorZF
import Derived.Test.YtobofhiakgohfaaGreatDoorZR
set_option linter.unusedVariables false
set_option linter.unusedSimpArgs false
namespace Go.Proofs.YtobofhiakgohfaaGreatDoor
open Go.RowKit

/-- The loop's state. -/
def FInv (s : ByteArray) (w : World) (B : Nat) (V : TVl) (A : Option Addr) (c : Nat) (q st : Nat) (d : DescD) (W : World) : Prop :=
  RS W w.heap.size (w.heap.size + 1) d ∧ okSt d st ∧ okM d ∧ W.ownsRow B 73 3 (.slice A V.length c) V.length (tcells V) ∧ Blk W w.heap.size 42 #[.slice none 0 0, .slice none 0 0] ∧ K0 w W ∧ parseR s = runT d st (V.drop q)
/-- The stores of a word's step leave the loop's things alone. -/
theorem FInv.far {s : ByteArray} {w : World} {B : Nat} {V : TVl} {A : Option Addr} {c q st : Nat} {d : DescD} {W W' : World} (h : FInv s w B V A c q st d W) (hk : Kp (LW w.heap.size (w.heap.size + 1) W) W W') :
    W'.ownsRow B 73 3 (.slice A V.length c) V.length (tcells V) ∧ Blk W' w.heap.size 42 #[.slice none 0 0, .slice none 0 0] ∧ K0 w W' := by
  obtain ⟨h1, h2, h3, h4, h5, h6, h7⟩ := h
  obtain ⟨vc, vs, pc, ps, hb, _⟩ := h1
  refine ⟨own_kt h4 hk ?_, h5.kp hk ?_, h6.trans' hk (fun i hi hS => by have := hS.1; omega)⟩
  · rintro g cs hg ⟨_, e | ⟨t', cs', ht, hb'⟩⟩
    · subst e
      exact hg.ne_ hb (by decide) rfl
    · exact hg.ne_ hb' (by rcases ht with rfl | rfl | rfl <;> decide) rfl
  · rintro ⟨_, e | ⟨t', cs', ht, hb'⟩⟩
    · omega
    · exact h5.ne_ hb' (by rcases ht with rfl | rfl | rfl <;> decide) rfl
theorem FInv.step {s : ByteArray} {w : World} {B : Nat} {V : TVl} {A : Option Addr} {c q st st' : Nat} {d d' : DescD} {W W' : World} (h : FInv s w B V A c q st d W) (hk : Kp (LW w.heap.size (w.heap.size + 1) W) W W')
    (hr : RS W' w.heap.size (w.heap.size + 1) d') (ho : okSt d' st') (hn : okM d') (hp : parseR s = runT d' st' (V.drop (q + 1))) : FInv s w B V A c (q + 1) st' d' W' := by
  obtain ⟨h4, h5, h6⟩ := h.far hk
  exact ⟨hr, ho, hn, h4, h5, h6, hp⟩
theorem FInv.k0 {s : ByteArray} {w : World} {B : Nat} {V : TVl} {A : Option Addr} {c q st : Nat} {d : DescD} {W W' : World} (h : FInv s w B V A c q st d W) (hk : K0 W W') : FInv s w B V A c q st d W' := by
  obtain ⟨h1, h2, h3, h4, h5, h6, h7⟩ := h
  exact ⟨h1.k0 hk, h2, h3, own_kt h4 hk (fun _ _ _ h => h), h5.kp hk (fun h => h), h6.trans hk, h7⟩

theorem ret42 (tmps : Array Value) (W : World) (b : Nat) (x y p er : Value) (Post : Ending → World → Prop) (h2 : tmps.getD 2 undef = .pointer (some ⟨b, 0, none⟩)) (h3 : tmps.getD 3 undef = p) (h4 : tmps.getD 4 undef = er) (c0 : W.cell? ⟨b, 0, none⟩ = some x) (c1 : W.cell? ⟨b, 1, none⟩ = some y)
    (h : Post (.returned (.tuple #[.agg #[x, y], p, er])) W) : bodyPost Tryz.prog Tryz.f25 Post Exit.ret { tmps := tmps, defers := [] } W := by
  refine bodyPost_ret (v := .tuple #[.agg #[x, y], p, er]) ?_ rfl h
  simp only [Array.getD_eq_getD_getElem?] at h2 h3 h4
  simp [results, Tryz.f25, go_sem, h2, h3, h4, c0, c1]

set_option maxRecDepth 100000 in
set_option maxHeartbeats 4000000 in
theorem refparse_any (s : ByteArray) (w : World) (hs : s.size ≤ 1048576) : Calls Tryz.prog 25 #[.string s] w (ParsePost s w) := by
  have HTO := Lib.hid (tokOk_toks s hs)
  have hpr : parseR s = runT d0 0 ((toks s.data.toList).map (tv s)) := rfl
  have HL := Lib.hid (fun W => list_any s W (by omega))
  unfold ListPost at HL
  have hVT : (toks s.data.toList).length = ((toks s.data.toList).map (tv s)).length := by simp
  rw [hVT] at HL
  generalize (toks s.data.toList).map (tv s) = V at *
  clear hVT
  have HPR := Lib.hid hpr
  clear hpr
  go_enter Tryz.func25, Tryz.ntmps25
  go_wp2_with fail
  have z0 := (Blk.new w 42 #[.slice none 0 0, .slice none 0 0]).alloc (.cells #[.slice none 0 0, .slice none 0 0] 42)
  have z1 := Blk.new (w.alloc (.cells #[.slice none 0 0, .slice none 0 0] 42)) 42 #[.slice none 0 0, .slice none 0 0]
  have ka : K0 w ((w.alloc (.cells #[.slice none 0 0, .slice none 0 0] 42)).alloc (.cells #[.slice none 0 0, .slice none 0 0] 42)) := ((Kp.refl _ w).alloc _).alloc _
  have sa : ((w.alloc (.cells #[.slice none 0 0, .slice none 0 0] 42)).alloc (.cells #[.slice none 0 0, .slice none 0 0] 42)).heap.size = w.heap.size + 1 + 1 := by simp
  rw [World.size_alloc] at z1
  generalize (w.alloc (.cells #[.slice none 0 0, .slice none 0 0] 42)).alloc (.cells #[.slice none 0 0, .slice none 0 0] 42) = wa at *
  refine (HL.out wa).mono ?_
  rintro e w2 ⟨v, rfl, hown, hk2⟩
  obtain ⟨A, c, rfl, _, _⟩ := own_form hown
  have hs2 := hk2.size
  have H0 : Hid (FInv s w wa.heap.size V A c 0 0 d0 w2) := Lib.hid ⟨⟨_, _, [], [], z1.kp hk2 (fun h => h), PD.nil _ _, rfl, rfl, by omega⟩, ⟨fun h => by omega, fun h => by omega, by omega⟩, ⟨Nat.zero_le _, Nat.zero_le _, fun q hq => (by cases hq), fun q hq => (by cases hq)⟩, hown, z0.kp hk2 (fun h => h), ka.trans hk2, by rw [List.drop_zero]; exact HPR.out⟩
  clear z0 z1 hown
  go_wp2_with fail
  go_loopw [6, 8] (fun sv i wr => ∃ (q st : Nat) (d : DescD), q ≤ V.length ∧ i = .int .i64 (q : Int) ∧ sv = .int .i64 (st : Int) ∧ Hid (FInv s w wa.heap.size V A c q st d wr)) (fun sv i wr => V.length - (intOf i).toNat)
  case atStart => exact ⟨0, 0, d0, by omega, rfl, rfl, H0⟩
  case round =>
    obtain ⟨q, st, d, hq, rfl, rfl, hI⟩ := hrel
    have hI2 := hI.out
    obtain ⟨h1, h2, h3, h4, h5, h6, h7⟩ := hI2
    have hgs := h6.size
    have l5 := h5.lt
    obtain ⟨vc, vs, pc, ps, hb, hd, hpc, hps, _⟩ := id h1
    have lb := hb.lt
    have b0 := hb.cell 0
    have b1 := hb.cell 1
    have c0 := h5.cell 0
    have c1 := h5.cell 1
    simp at b0 b1 c0 c1
    by_cases hlt : q < V.length
    · obtain ⟨ad, rfl, hbl, r0, r1, r2⟩ := (Reads.of_own h4).tok hlt
      have hdr : V.drop q = V[q] :: V.drop (q + 1) := List.drop_eq_getElem_cons hlt
      obtain ⟨x, hx⟩ : ∃ x, x = V[q]'hlt := ⟨_, rfl⟩
      have hmem : x ∈ V := by rw [hx]; exact List.getElem_mem hlt
      rw [← hx] at r0 r1 r2 hdr
      obtain ⟨kd, tx, pp⟩ := x
      simp only [] at r0 r1 r2
      have htx : tx.size ≤ 1048576 := HTO.out.2 _ hmem
      rw [hdr, runT] at h7
      have e68 : ∀ W, Kp (LW w.heap.size (w.heap.size + 1) wr) wr W → Blk W w.heap.size 42 #[.slice none 0 0, .slice none 0 0] ∧ K0 w W ∧ W.cell? ⟨(ad.add (q * 3)).block, (ad.add (q * 3)).off + 2, none⟩ = some (.int .i64 pp) ∧ ad.block < W.heap.size := fun W hk => by
        obtain ⟨g1, g2, g3⟩ := hI.out.far hk
        obtain ⟨ad', e, k1, _, _, k2⟩ := (Reads.of_own g1).tok hlt
        cases e
        rw [← hx] at k2
        exact ⟨g2, g3, k2, k1⟩
      have HF := Lib.hid e68
      have HX := Lib.hid (And.intro h2 h3)
      have RWA := Lib.hid (rword_any wr w.heap.size (w.heap.size + 1) d st tx pp htx h1 hgs h2 h3)
      have HR7 := Lib.hid h7
      have EA := Lib.hid (fun W => ended_any st W h2.2.2)
      clear e68 h7 h1 h2 h3 h4 h6 hd hpc hps hdr hmem HPR H0 ka hk2 hx
      by_cases k1 : kd = 1
      · subst k1
        have hst : stepT d st (1, tx, pp) = stepW d st tx pp := by unfold stepT; rw [if_pos rfl]
        have HR8 := HR7.out
        rw [hst] at HR8
        cases hS : stepW d st tx pp with
        | error er =>
          have ne := stepW_err hS
          have ne1 : (er != 0) = true := by simp [ne]
          have RWE : Calls Tryz.prog 57 #[.pointer (some ⟨w.heap.size + 1, 0, none⟩), .int .i64 (st : Int), .agg #[.int .i64 1, .string tx, .int .i64 pp]] wr (fun e w' => ∃ a : Int, e = .returned (.tuple #[.int .i64 a, .int .i64 er]) ∧ Kp (LW w.heap.size (w.heap.size + 1) wr) wr w') := RWA.out.mono (by
            rintro e w' (⟨a, er', g1, g2, g3⟩ | ⟨d', st', g1, g2, g3⟩)
            · rw [hS] at g1
              cases g1
              exact ⟨a, g2, g3⟩
            · rw [hS] at g1
              cases g1)
          rw [hS] at HR8
          have HR9 := Lib.hid HR8
          clear HR8 hS
          go_wp2_with (go_at_call 57; refine RWE.mono ?_; rintro e w3 ⟨a, rfl, hk3⟩; obtain ⟨y0, hk03, y2, y3⟩ := HF.out w3 hk3; have y00 := y0.cell 0; have y01 := y0.cell 1; have yf0 := y0.frozen 0; have yf1 := y0.frozen 1; have yl := y0.lt; simp at y00 y01)
          go_region
          all_goals
            go_wp2_with fail
            refine ret42 _ _ _ (.slice none 0 0) (.slice none 0 0) _ _ _ rfl rfl rfl ?_ ?_ ?_
            · have E := ((y0.set_ 0 (.slice none 0 0)).set_ 1 (.slice none 0 0)).cell 0
              exact E
            · have E := ((y0.set_ 0 (.slice none 0 0)).set_ 1 (.slice none 0 0)).cell 1
              exact E
            · have K := (hk03.trans' (((Kp.refl (fun k => k = w.heap.size) w3).setCell (p := ⟨w.heap.size, 0, none⟩) (.inr rfl) (.slice none 0 0)).setCell (p := ⟨w.heap.size, 1, none⟩) (.inr rfl) (.slice none 0 0)) (fun i hi h => by subst h; exact Nat.lt_irrefl _ hi) : K0 w _)
              exact .inl ⟨pp, er, HR9.out, rfl, ⟨K.os, K.tape, K.output, K.size, K.block⟩⟩
        | ok x =>
          obtain ⟨d', st'⟩ := x
          have RWE : Calls Tryz.prog 57 #[.pointer (some ⟨w.heap.size + 1, 0, none⟩), .int .i64 (st : Int), .agg #[.int .i64 1, .string tx, .int .i64 pp]] wr (fun e w' => e = .returned (.tuple #[.int .i64 (st' : Nat), .int .i64 0]) ∧ RS w' w.heap.size (w.heap.size + 1) d' ∧ Kp (LW w.heap.size (w.heap.size + 1) wr) wr w') := RWA.out.mono (by
            rintro e w' (⟨a, er', g1, g2, g3⟩ | ⟨d', st', g1, g2, g3⟩)
            · rw [hS] at g1
              cases g1
            · rw [hS] at g1
              cases g1
              exact ⟨g2, g3⟩)
          rw [hS] at HR8
          have hok := stepW_ok HX.out.1 HX.out.2 hS
          have HR9 := Lib.hid (And.intro HR8 hok)
          clear HR8 hS hok
          go_wp2_with (go_at_call 57; refine RWE.mono ?_; rintro e w3 ⟨rfl, hrs3, hk3⟩; obtain ⟨y0, hk03, y2, y3⟩ := HF.out w3 hk3)
          exact ⟨⟨q + 1, st', d', by omega, by go_num, rfl, Lib.hid (hI.out.step hk3 hrs3 HR9.out.2.1 HR9.out.2.2 HR9.out.1)⟩, by simp [intOf]; omega⟩
      · by_cases k4 : kd = 4
        · subst k4
          have HR9 := Lib.hid (HR7.out.trans (show (match stepT d st (4, tx, pp) with | .error e => .error (pp, e) | .ok (d', st') => runT d' st' (V.drop (q + 1))) = Except.error (pp, 60) by unfold stepT; rw [if_neg (show ¬ ((4 : Int), tx, pp).1 = 1 by show ¬ (4 : Int) = 1; omega), if_pos rfl]))
          obtain ⟨y0, hk03, _, _⟩ := HF.out wr (Kp.refl _ _)
          have yf0 := y0.frozen 0
          have yf1 := y0.frozen 1
          go_wp2_with fail
          go_region
          all_goals
            go_wp2_with fail
            refine ret42 _ _ _ (.slice none 0 0) (.slice none 0 0) _ _ _ rfl rfl rfl ?_ ?_ ?_
            · have E := ((y0.set_ 0 (.slice none 0 0)).set_ 1 (.slice none 0 0)).cell 0
              exact E
            · have E := ((y0.set_ 0 (.slice none 0 0)).set_ 1 (.slice none 0 0)).cell 1
              exact E
            · have K := (hk03.trans' (((Kp.refl (fun k => k = w.heap.size) wr).setCell (p := ⟨w.heap.size, 0, none⟩) (.inr rfl) (.slice none 0 0)).setCell (p := ⟨w.heap.size, 1, none⟩) (.inr rfl) (.slice none 0 0)) (fun i hi h => by subst h; exact Nat.lt_irrefl _ hi) : K0 w _)
              exact .inl ⟨pp, 60, HR9.out, rfl, ⟨K.os, K.tape, K.output, K.size, K.block⟩⟩
        · have k11 : (kd == 1) = false := beq_eq_false_iff_ne.2 k1
          have k44 : (kd != 4) = true := by simp [k4]
          obtain ⟨y0, hk03, _, _⟩ := HF.out wr (Kp.refl _ _)
          have yf0 := y0.frozen 0
          have yf1 := y0.frozen 1
          by_cases hE : st = 0 ∨ st = 3 ∨ st = 7
          · have HR9 := Lib.hid (HR7.out.trans (show (match stepT d st (kd, tx, pp) with | .error e => .error (pp, e) | .ok (d', st') => runT d' st' (V.drop (q + 1))) = runT d 0 (V.drop (q + 1)) by unfold stepT; rw [if_neg k1, if_neg k4, if_pos hE]))
            unfold endedE at EA
            rw [if_pos hE] at EA
            clear hE
            go_wp2_with (go_at_call 58; refine (EA.out _).mono ?_; rintro e w3 ⟨rfl, rfl⟩)
            exact ⟨⟨q + 1, 0, d, by omega, by go_num, rfl, Lib.hid (hI.out.step (Kp.refl _ _) hI.out.1 ⟨fun h => by omega, fun h => by omega, by omega⟩ HX.out.2 HR9.out)⟩, by simp [intOf]; omega⟩
          · have HR9 := Lib.hid (HR7.out.trans (show (match stepT d st (kd, tx, pp) with | .error e => .error (pp, e) | .ok (d', st') => runT d' st' (V.drop (q + 1))) = Except.error (pp, 60) by unfold stepT; rw [if_neg k1, if_neg k4, if_neg hE]))
            unfold endedE at EA
            rw [if_neg hE] at EA
            clear hE
            go_wp2_with (go_at_call 58; refine (EA.out _).mono ?_; rintro e w3 ⟨rfl, rfl⟩)
            go_region
            all_goals
              go_wp2_with fail
              refine ret42 _ _ _ (.slice none 0 0) (.slice none 0 0) _ _ _ rfl rfl rfl ?_ ?_ ?_
              · have E := ((y0.set_ 0 (.slice none 0 0)).set_ 1 (.slice none 0 0)).cell 0
                exact E
              · have E := ((y0.set_ 0 (.slice none 0 0)).set_ 1 (.slice none 0 0)).cell 1
                exact E
              · have K := (hk03.trans' (((Kp.refl (fun k => k = w.heap.size) wr).setCell (p := ⟨w.heap.size, 0, none⟩) (.inr rfl) (.slice none 0 0)).setCell (p := ⟨w.heap.size, 1, none⟩) (.inr rfl) (.slice none 0 0)) (fun i hi h => by subst h; exact Nat.lt_irrefl _ hi) : K0 w _)
                exact .inl ⟨pp, 60, HR9.out, rfl, ⟨K.os, K.tape, K.output, K.size, K.block⟩⟩
    · obtain rfl : q = V.length := by omega
      rw [List.drop_eq_nil_of_le (Nat.le_refl _), runT] at h7
      clear h4 hI
      obtain ⟨Ac, cc, rfl, _, _⟩ := own_form hd.oc
      obtain ⟨As, cs, rfl, _, _⟩ := own_form hd.os
      have f0 := h5.frozen 0
      have f1 := h5.frozen 1
      have HP := Lib.hid (And.intro h7 (And.intro hd (And.intro hpc hps)))
      have H6 := Lib.hid h6
      clear h7 hd hpc hps h1 h2 h3 h6 HTO HPR H0 ka hk2
      go_wp2
      refine ret42 _ _ _ (.slice Ac pc.length cc) (.slice As ps.length cs) _ _ _ rfl rfl rfl ?_ ?_ ?_
      · have E := ((h5.set_ 0 (.slice Ac pc.length cc)).set_ 1 (.slice As ps.length cs)).cell 0
        exact E
      · have E := ((h5.set_ 0 (.slice Ac pc.length cc)).set_ 1 (.slice As ps.length cs)).cell 1
        exact E
      · have KP : Kp (fun k => k = w.heap.size) wr ((wr.setCell ⟨w.heap.size, 0, none⟩ (.slice Ac pc.length cc)).setCell ⟨w.heap.size, 1, none⟩ (.slice As ps.length cs)) := ((Kp.refl (fun k => k = w.heap.size) wr).setCell (p := ⟨w.heap.size, 0, none⟩) (.inr rfl) _).setCell (p := ⟨w.heap.size, 1, none⟩) (.inr rfl) _
        have K := H6.out.trans' KP (fun i hi h => by subst h; exact Nat.lt_irrefl _ hi)
        have nb : ∀ t, t ≠ 42 → ∀ g cs, Blk wr g t cs → ¬ g = w.heap.size := fun t ht g cs hb e => hb.ne_ h5 ht e
        obtain ⟨e1, e2, e3, e4⟩ := HP.out
        exact .inr ⟨d, _, _, pc, ps, e1, rfl, e2.kt KP (nb 53 (by decide)) (nb 51 (by decide)) (nb 90 (by decide)), e3, e4, K⟩
end Go.Proofs.YtobofhiakgohfaaGreatDoor

namespace Go.Proofs.YtobofhiakgohfaaGreatDoor
open Go.RowKit

/-- What a text's parse is: description, place, kind. -/
def parse3 (s : ByteArray) : DescD × Int × Int := match parseR s with
  | .ok d => (d, 0, 0)
  | .error (p, er) => (d0, p, er)
/-- Any of the two Parse, in one form. -/
def ParseU (s : ByteArray) (w : World) (e : Ending) (w' : World) : Prop :=
  ∃ A n c A2 n2 c2, e = .returned (.tuple #[.agg #[.slice A n c, .slice A2 n2 c2], .int .i64 (parse3 s).2.1, .int .i64 (parse3 s).2.2]) ∧ DescV w' w'.heap.size (.agg #[.slice A n c, .slice A2 n2 c2]) (parse3 s).1 ∧ K0 w w'
theorem ParsePost.u {s : ByteArray} {w w' : World} {e : Ending} (h : ParsePost s w e w') : ParseU s w e w' := by
  rcases h with ⟨p, er, h1, h2, h3⟩ | ⟨d, vc, vs, pc, ps, h1, h2, h3, h4, h5, h6⟩
  · have e3 : parse3 s = (d0, p, er) := by unfold parse3; rw [h1]
    unfold ParseU
    rw [e3]
    exact ⟨none, 0, 0, none, 0, 0, h2, (PD.nil w' 0).descV (d := d0) rfl rfl rfl, h3⟩
  · have e3 : parse3 s = (d, 0, 0) := by unfold parse3; rw [h1]
    unfold ParseU
    rw [e3]
    obtain ⟨A, c, rfl, _, _⟩ := own_form h3.oc
    obtain ⟨A2, c2, rfl, _, _⟩ := own_form h3.os
    exact ⟨A, _, c, A2, _, c2, h2, h3.descV h4 h5 (parse_fit h1), h6⟩

end Go.Proofs.YtobofhiakgohfaaGreatDoor
