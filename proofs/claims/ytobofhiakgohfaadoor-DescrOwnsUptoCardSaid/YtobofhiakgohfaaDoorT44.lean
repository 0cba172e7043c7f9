/- descr: the document's word. -/
import Derived.Test.YtobofhiakgohfaaDoorT43
import Derived.Test.YtobofhiakgohfaaDoorT16
set_option linter.unusedVariables false
set_option linter.unusedSimpArgs false
namespace Go.Proofs.YtobofhiakgohfaaDoor
open Go.RowKit

theorem RS.k0 {w w' : World} {base gd : Nat} {d : DescD} (h : RS w base gd d) (hk : K0 w w') : RS w' base gd d := by
  obtain ⟨vc, vs, pc, ps, h1, h2, h3, h4, h5⟩ := h
  exact ⟨vc, vs, pc, ps, h1.kp hk (fun h => h), h2.k0 hk, h3, h4, h5⟩
theorem LW.k0 {w w1 : World} {base g k : Nat} (hk : K0 w w1) (hb : k < w.heap.size) (h : LW base g w1 k) : LW base g w k := by
  refine ⟨h.1, ?_⟩
  rcases h.2 with h | ⟨t, cs, ht, hb'⟩
  · exact .inl h
  · exact .inr ⟨t, cs, ht, (hk.block k hb (fun h => h)).symm.trans hb'⟩
theorem RWPost.k0 {base gd : Nat} {x : Except Int (DescD × Nat)} {w w1 w' : World} {e : Ending} (hk : K0 w w1) (h : RWPost base gd x w1 e w') : RWPost base gd x w e w' := by
  rcases h with ⟨a, er, h1, h2, h3⟩ | ⟨d, st, h1, h2, h3, h4⟩
  · exact .inl ⟨a, er, h1, h2, (K0.kp hk).trans' h3 (fun i hi h => h.k0 hk hi)⟩
  · exact .inr ⟨d, st, h1, h2, h3, (K0.kp hk).trans' h4 (fun i hi h => h.k0 hk hi)⟩

set_option maxRecDepth 100000 in
set_option maxHeartbeats 4000000 in
theorem rword_0 (w : World) (base gd : Nat) (d : DescD) (s : ByteArray) (p : Int) (hs : s.size ≤ 1048576) (h : RS w base gd d) (hbase : base ≤ w.heap.size) (hlc : d.cls.length ≤ 32) (hls : d.shs.length ≤ 32) :
    Calls Tryd.prog 68 #[.pointer (some ⟨gd, 0, none⟩), .int .i64 0, .agg #[.int .i64 1, .string s, .int .i64 p]] w (RWPost base gd (stepW d 0 s p) w) := by
  obtain ⟨nm, lo, hi', isI, hI⟩ := itemR_form s
  have HI := Lib.hid (fun W => ritem_any s W (by omega))
  unfold ItemPost at HI
  rw [hI] at HI
  simp only [itemVal] at HI
  have HN := Lib.hid (fun W => rnumber_any s W (by omega))
  unfold NumPost at HN
  have y := Blk.new w 42 #[.int .i64 1, .string s, .int .i64 p]
  have ky : K0 w (w.alloc (.cells #[.int .i64 1, .string s, .int .i64 p] 42)) := (Kp.refl _ _).alloc _
  have HB := Lib.hid (fun W h1 h2 => begun_any W base gd d s p h1 h2 hlc hls)
  go_enter Tryd.func68, Tryd.ntmps68
  go_wp2_with (first
    | (go_at_call 27; refine (HI.out _).mono ?_; rintro e w2 ⟨rfl, hk2⟩; have y2 := y.kp hk2 (fun h => h); have y21 := y2.cell 1; have y22 := y2.cell 2; have yl2 := y2.lt; have k02 := ky.trans hk2; have z2 := Blk.new w2 47 #[.string nm, .int .i64 lo, .int .i64 hi', .int .i64 p]; have kz : K0 w2 (w2.alloc (.cells #[.string nm, .int .i64 lo, .int .i64 hi', .int .i64 p] 47)) := (Kp.refl _ _).alloc _; simp at y21 y22)
    | (go_at_call 29; refine (HN.out _).mono ?_; rintro e w3 ⟨rfl, hk3⟩; have y3 := (y2.kp kz (fun h => h)).kp hk3 (fun h => h); have y31 := y3.cell 1; have y32 := y3.cell 2; have yl3 := y3.lt; have z3 := z2.kp hk3 (fun h => h); have z30 := z3.cell 0; have z31 := z3.cell 1; have z32 := z3.cell 2; have z33 := z3.cell 3; have zl3 := z3.lt; have k03 : K0 w w3 := (k02.trans kz).trans hk3; simp at y31 y32 z30 z31 z32 z33)
    )
  refine (HB.out w3 (h.k0 k03) (by have := k03.size; omega)).mono ?_
  rintro e w4 hp
  have hp' := hp.k0 k03
  rcases hp with ⟨a, er, h1, he, h3⟩ | ⟨d', st', h1, he, h3, h4⟩
  all_goals
    rw [he] at hp'
    subst he
    have HP := Lib.hid hp'
    clear hp'
    go_wp2
    go_ret2
    exact HP.out
set_option maxRecDepth 100000 in
set_option maxHeartbeats 4000000 in
theorem rword_7 (w : World) (base gd : Nat) (d : DescD) (s : ByteArray) (p : Int) (hs : s.size ≤ 1048576) (h : RS w base gd d) (hbase : base ≤ w.heap.size) :
    Calls Tryd.prog 68 #[.pointer (some ⟨gd, 0, none⟩), .int .i64 7, .agg #[.int .i64 1, .string s, .int .i64 p]] w (RWPost base gd (stepW d 7 s p) w) := by
  obtain ⟨nm, lo, hi', isI, hI⟩ := itemR_form s
  have HI := Lib.hid (fun W => ritem_any s W (by omega))
  unfold ItemPost at HI
  rw [hI] at HI
  simp only [itemVal] at HI
  have HN := Lib.hid (fun W => rnumber_any s W (by omega))
  unfold NumPost at HN
  have y := Blk.new w 42 #[.int .i64 1, .string s, .int .i64 p]
  have ky : K0 w (w.alloc (.cells #[.int .i64 1, .string s, .int .i64 p] 42)) := (Kp.refl _ _).alloc _
  go_enter Tryd.func68, Tryd.ntmps68
  go_wp2_with (first
    | (go_at_call 27; refine (HI.out _).mono ?_; rintro e w2 ⟨rfl, hk2⟩; have y2 := y.kp hk2 (fun h => h); have y21 := y2.cell 1; have y22 := y2.cell 2; have yl2 := y2.lt; have k02 := ky.trans hk2; have z2 := Blk.new w2 47 #[.string nm, .int .i64 lo, .int .i64 hi', .int .i64 p]; have kz : K0 w2 (w2.alloc (.cells #[.string nm, .int .i64 lo, .int .i64 hi', .int .i64 p] 47)) := (Kp.refl _ _).alloc _; simp at y21 y22)
    | (go_at_call 29; refine (HN.out _).mono ?_; rintro e w3 ⟨rfl, hk3⟩; have y3 := (y2.kp kz (fun h => h)).kp hk3 (fun h => h); have y31 := y3.cell 1; have y32 := y3.cell 2; have yl3 := y3.lt; have z3 := z2.kp hk3 (fun h => h); have z30 := z3.cell 0; have z31 := z3.cell 1; have z32 := z3.cell 2; have z33 := z3.cell 3; have zl3 := z3.lt; have k03 : K0 w w3 := (k02.trans kz).trans hk3; simp at y31 y32 z30 z31 z32 z33)
    )
  go_ret2
  exact RWPost.bad (stepW_7 d s p) (K0.kp k03)
end Go.Proofs.YtobofhiakgohfaaDoor
