/- The walk of DescrParses. -/
import Derived.Test.YtobofhiakgohfaaDoorT42
import Derived.Test.YtobofhiakgohfaaDoorT50
set_option linter.unusedVariables false
set_option linter.unusedSimpArgs false
namespace Go.Proofs.YtobofhiakgohfaaDoor
open Go.RowKit

/-- What a text's parse is: description, place, kind. -/
def parse3 (s : ByteArray) : DescD × Int × Int := match parseR s with
  | .ok d => (d, 0, 0)
  | .error (p, er) => (d0, p, er)
/-- Any of the two Parse, in one form. -/
def ParseU (s : ByteArray) (w : World) (e : Ending) (w' : World) : Prop :=
  ∃ A n c A2 n2 c2, e = .returned (.tuple #[.agg #[.slice A n c, .slice A2 n2 c2], .int .i64 (parse3 s).2.1, .int .i64 (parse3 s).2.2]) ∧ DescV w' w'.heap.size (.agg #[.slice A n c, .slice A2 n2 c2]) (parse3 s).1 ∧ K0 w w'
theorem ParsePost.u {s : ByteArray} {w w' : World} {e : Ending} (h : ParsePost s w e w') : ParseU s w e w' := by
  rcases h with ⟨p, er, h1, h2, h3⟩ | ⟨d, vc, vs, pc, ps, h1, h2, h3, h4, h5, h6⟩
  · have e3 : parse3 s = (d0, p, er) := by unfold parse3; rw [h1]
    unfold ParseU
    rw [e3]
    exact ⟨none, 0, 0, none, 0, 0, h2, (PD.nil w' 0).descV (d := d0) rfl rfl rfl, h3⟩
  · have e3 : parse3 s = (d, 0, 0) := by unfold parse3; rw [h1]
    unfold ParseU
    rw [e3]
    obtain ⟨A, c, rfl, _, _⟩ := own_form h3.oc
    obtain ⟨A2, c2, rfl, _, _⟩ := own_form h3.os
    exact ⟨A, _, c, A2, _, c2, h2, h3.descV h4 h5 (parse_fit h1), h6⟩

set_option maxRecDepth 100000 in
set_option maxHeartbeats 800000 in
theorem descrParses_walk (w : World) (s : ByteArray) (hs : s.size ≤ 1048576) : Calls Tryd.prog 11 #[.string s] w fun e w' => e = .returned (.bool true) ∧ Below w.heap.size w w' := by
  have P1 := Lib.hid (fun W => (parse_any s W hs).mono (fun e w' h => ParsePost.u h))
  have P2 := Lib.hid (fun W => (refparse_any s W hs).mono (fun e w' h => ParsePost.u h))
  unfold ParseU at P1 P2
  generalize parse3 s = x at *
  obtain ⟨d, p, er⟩ := x
  simp only [] at P1 P2
  have SM := Lib.hid (fun W va vb ha hb => same_any W W.heap.size va vb d d true ha hb (Nat.le_refl _))
  rw [sameD_refl] at SM
  go_enter Tryd.func11, Tryd.ntmps11
  go_wp2_with fail
  refine (fixed6_any w).mono ?_
  rintro e w1 ⟨rfl, hk1⟩
  go_wp2_with fail
  refine (P1.out w1).mono ?_
  rintro e w2 ⟨A, n, c, A2, n2, c2, rfl, hm, hk2⟩
  have zb := Blk.new w2 25 #[.slice A n c, .slice A2 n2 c2]
  have kz : K0 w2 (w2.alloc (.cells #[.slice A n c, .slice A2 n2 c2] 25)) := (Kp.refl _ _).alloc _
  go_wp2_with fail
  refine (P2.out _).mono ?_
  rintro e w4 ⟨A3, n3, c3, A4, n4, c4, rfl, hm4, hk4⟩
  have zc := Blk.new w4 25 #[.slice A3 n3 c3, .slice A4 n4 c4]
  have kc : K0 w4 (w4.alloc (.cells #[.slice A3 n3 c3, .slice A4 n4 c4] 25)) := (Kp.refl _ _).alloc _
  have zb4 := zb.kp hk4 (fun h => h)
  have b0 := zb4.cell 0
  have b1 := zb4.cell 1
  have l0 := zb4.lt
  simp at b0 b1
  have hk24 := (kz.trans hk4).trans kc
  have hmd := (hm.k0 (Nat.le_refl _) hk24).keep (B' := (w4.alloc (.cells #[.slice A3 n3 c3, .slice A4 n4 c4] 25)).heap.size) hk24.size (fun _ _ => rfl)
  have hmd' := (hm4.k0 (Nat.le_refl _) kc).keep (B' := (w4.alloc (.cells #[.slice A3 n3 c3, .slice A4 n4 c4] 25)).heap.size) kc.size (fun _ _ => rfl)
  have HD1 := Lib.hid hmd
  have HD2 := Lib.hid hmd'
  clear hmd hmd' hm hm4 zb zc zb4
  go_wp2_with (go_at_call 21; refine (SM.out _ _ _ (by exact HD1.out) (by exact HD2.out)).mono ?_; rintro e w6 ⟨rfl, hk6⟩)
  go_ret
  exact ⟨rfl, (((hk1.trans hk2).trans hk24).trans hk6).below⟩
end Go.Proofs.YtobofhiakgohfaaDoor
