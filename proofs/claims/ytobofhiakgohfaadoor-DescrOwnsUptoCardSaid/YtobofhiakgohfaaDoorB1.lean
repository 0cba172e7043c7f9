/- strings.Builder: what a builder of the call's own does when it is written to. -/
import Derived.Test.YtobofhiakgohfaaDoorShelf
import Derived.Test.YtobofhiakgohfaaDoorMM
import Derived.Lib.Builder
set_option linter.unusedVariables false
set_option linter.unusedSimpArgs false
namespace Go.Proofs.YtobofhiakgohfaaDoor
open Go.RowKit

theorem u8_info : (Tryd.prog.info? 5).map (fun i => (i.zero, i.size, i.bytes)) = some (some (.int .u8 0), 1, 1) := by kernel_rfl

theorem size85 : (Tryd.prog.info? 85).map (fun i => i.size) = some 2 := by kernel_rfl
theorem info85 : ∃ j, Tryd.prog.info? 85 = some j ∧ j.size ≠ 0 := by
  obtain ⟨j, hj, h⟩ := Option.map_eq_some_iff.1 size85
  exact ⟨j, hj, by omega⟩

set_option maxRecDepth 100000 in
set_option maxHeartbeats 400000 in
theorem copyCheck_fresh (b : Nat) (w : World) (v : Value) (h : w.heap[b]? = some (.cells #[.pointer none, v] 85 (0, 0))) :
    Calls Tryd.prog 76 #[.pointer (some ⟨b, 0, none⟩)] w fun e w' => e = .returned (.tuple #[]) ∧ w.setCell ⟨b, 0, none⟩ (.pointer (some ⟨b, 0, none⟩)) = w' := by
  obtain ⟨j, hj, hj0⟩ := info85
  have hB : Blk w b 85 #[.pointer none, v] := h
  have h0 := hB.cell 0
  have hf := hB.frozen 0
  simp at h0
  have hsh : w.shape? b = some (85, 2) := by simp [World.shape?, h]
  have e1 := Lib.run_to_unsafe (P := Tryd.prog) w ⟨b, 0, none⟩ Tryd.underlying83 Tryd.underlying144 hj hj0 hsh (by show 0 < 2; omega)
  have e2 := Lib.run_from_unsafe (P := Tryd.prog) w ⟨b, 0, none⟩ Tryd.underlying144 Tryd.underlying83 hj hsh (by kernel_rfl)
  have e3 : (callFunc 103 #[.pointer (some ⟨b, 0, none⟩)]).run Tryd.prog w = .ok (.value (.pointer (some ⟨b, 0, none⟩))) w := by
    rw [run_callFunc_extern Tryd.func103 (by kernel_rfl) (by kernel_rfl) (by kernel_rfl) (e := Extern.AbiNoEscape.same) (by kernel_rfl), Lib.run_noEscape]
    rfl
  clear h hB hsh hj hj0
  go_enter Tryd.func76, Tryd.ntmps76
  go_wp2
  go_end0
  exact ⟨rfl, rfl⟩

set_option maxRecDepth 100000 in
set_option maxHeartbeats 400000 in
theorem copyCheck_used (b : Nat) (w : World) (h0 : w.cell? ⟨b, 0, none⟩ = some (.pointer (some ⟨b, 0, none⟩))) :
    Calls Tryd.prog 76 #[.pointer (some ⟨b, 0, none⟩)] w fun e w' => e = .returned (.tuple #[]) ∧ w = w' := by
  obtain ⟨j, hj, hj0⟩ := info85
  have e3 := Lib.run_neq_ptr_same (P := Tryd.prog) w ⟨b, 0, none⟩ Tryd.underlying83 hj
  clear hj hj0
  go_enter Tryd.func76, Tryd.ntmps76
  go_wp2
  go_end0
  exact ⟨rfl, rfl⟩

theorem u8_info' : ∃ i0, Tryd.prog.info? 5 = some i0 ∧ i0.zero = some (.int .u8 0) ∧ i0.size = 1 ∧ i0.bytes = 1 := by
  obtain ⟨i0, hi, hz0, hz1, hz2⟩ := info_parts u8_info
  exact ⟨i0, hi, hz0, hz1, hz2⟩

/-- A builder of the call's own that holds the bytes l. -/
abbrev BdV (w : World) (B b : Nat) (l : List UInt8) : Prop := Lib.IsBuilder 85 5 B b (Lib.byteCells l) w

/-- What every writer does first. -/
theorem copyCheck_any (B b : Nat) (bs : List Value) (w : World) (h : Lib.IsBuilder 85 5 B b bs w) :
    Calls Tryd.prog 76 #[.pointer (some ⟨b, 0, none⟩)] w fun e w' => e = .returned (.tuple #[]) ∧ Lib.BuilderAt 85 5 B b (.pointer (some ⟨b, 0, none⟩)) bs w' ∧ Below B w w' := by
  rcases h with h | h
  · obtain ⟨hB, v, hb, ho, hne⟩ := id h
    refine (copyCheck_fresh b w v hb).mono ?_
    rintro e w' ⟨rfl, rfl⟩
    exact ⟨rfl, h.used _, (Below.refl B w).setCell (p := ⟨b, 0, none⟩) hB _⟩
  · refine (copyCheck_used b w h.cell0).mono ?_
    rintro e w' ⟨rfl, rfl⟩
    exact ⟨rfl, h, Below.refl B _⟩

set_option maxRecDepth 100000 in
set_option maxHeartbeats 1000000 in
theorem writeByte_any (B b : Nat) (l : List UInt8) (c : UInt8) (w : World) (h : BdV w B b l) (hl : l.length + 1 ≤ 140737488355328) :
    Calls Tryd.prog 64 #[.pointer (some ⟨b, 0, none⟩), .int .u8 (c.toNat : Int)] w fun e w' => e = .returned .nilIface ∧ BdV w' B b (l ++ [c]) ∧ Below B w w' := by
  obtain ⟨i0, hi, hz0, hz1, hz2⟩ := u8_info'
  have HC := Lib.hid (copyCheck_any B b _ w h)
  have hbl : (Lib.byteCells l).length = l.length := Lib.byteCells_length l
  go_enter Tryd.func64, Tryd.ntmps64
  go_wp2_with (first
    | (go_at_call 76; refine HC.out.mono ?_; rintro e w1 ⟨rfl, ⟨hB, v, hb, ho, hne⟩, hbw⟩; have hB1 : Blk w1 b 85 #[.pointer (some ⟨b, 0, none⟩), v] := hb; have c1 := hB1.cell 1; have f1 := hB1.frozen 1; have hlt1 := hB1.lt; simp at c1; rw [hbl] at ho; obtain ⟨A1, cc1, rfl, _, _⟩ := own_form ho; have hBs : B ≤ w1.heap.size := (by omega))
    | (at_builtin; refine wpList_append_lies _ rfl (.tmp 11) (.tmp 13) _ rfl B 5 i0 _ 1 1 Tryd.underlying44 hi hz0 hz1 hz2 rfl (by omega) (.slice A1 l.length cc1) l.length (Lib.byteCells l) rfl (by exact ho.alloc _) ⟨w1.heap.size, 0, none⟩ 1 1 [.int .u8 (c.toNat : Int)] rfl rfl (World.news_of_block (cs := #[.int .u8 (c.toNat : Int)]) (t := 5) (fr := (0, 0)) (heap_alloc_new _ _)) (by simp [Value.oneCell']) (by omega) (by simp only [maxLen]; omega) (by omega) (by simp; omega) (w1.heap.size + 1) (by simp) ?_; intro g2 cap2 w2 ho2 hg2 hat2 hlt2; have hB2 : Blk w2 b 85 #[.pointer (some ⟨b, 0, none⟩), .slice A1 l.length cc1] := (hB1.alloc _).grown hg2 (Ne.symm hne); have d1 := hB2.cell 1; have e1 := hB2.frozen 1; simp at d1))
  go_ret
  have hne2 := own_blk_ne ho2 hB2 (by decide)
  have hk2 : Kp (fun k => B ≤ k) w1 w2 := ((Kp.refl _ w1).alloc _).grown hg2 (fun k hk => .inr (ho.lt k hk).1)
  refine ⟨rfl, .inr ⟨hB, _, hB2.set_ 1 _, ?_, hne2⟩, (hbw.trans (hk2.below_of hBs (fun k hk h => by omega))).setCell (p := ⟨b, 1, none⟩) hB _⟩
  have := own_setCell ho2 (p := ⟨b, 1, none⟩) (u := .slice (some ⟨g2, 0, none⟩) (l.length + 1) cap2) hne2
  simpa [Lib.byteCells] using this

set_option maxRecDepth 100000 in
set_option maxHeartbeats 1000000 in
theorem writeString_any (B b : Nat) (l : List UInt8) (s : ByteArray) (w : World) (h : BdV w B b l) (hl : l.length + s.size ≤ 140737488355328) :
    Calls Tryd.prog 47 #[.pointer (some ⟨b, 0, none⟩), .string s] w fun e w' => e = .returned (.tuple #[.int .i64 s.size, .nilIface]) ∧ BdV w' B b (l ++ s.data.toList) ∧ Below B w w' := by
  obtain ⟨i0, hi, hz0, hz1, hz2⟩ := u8_info'
  have HC := Lib.hid (copyCheck_any B b _ w h)
  have hbl : (Lib.byteCells l).length = l.length := Lib.byteCells_length l
  go_enter Tryd.func47, Tryd.ntmps47
  go_wp2_with (first
    | (go_at_call 76; refine HC.out.mono ?_; rintro e w1 ⟨rfl, ⟨hB, v, hb, ho, hne⟩, hbw⟩; have hB1 : Blk w1 b 85 #[.pointer (some ⟨b, 0, none⟩), v] := hb; have c1 := hB1.cell 1; have f1 := hB1.frozen 1; have hlt1 := hB1.lt; simp at c1; rw [hbl] at ho; obtain ⟨A1, cc1, rfl, _, _⟩ := own_form ho; have hBs : B ≤ w1.heap.size := (by omega))
    | (at_builtin; refine Lib.wpList_append_own_string (w := w1) rfl (.tmp 12) (.tmp 13) _ _ rfl B 5 i0 Tryd.underlying44 Tryd.underlying9 hi hz0 hz1 hz2 (.slice A1 l.length cc1) l.length (Lib.byteCells l) rfl (by exact ho) s rfl (by simp only [maxLen]; omega) (by omega) (by exact hBs) ?_; intro v2 w2 ho2 hg2 hat2; obtain ⟨A2, cc2, rfl, _, _⟩ := own_form ho2; have hB2 : Blk w2 b 85 #[.pointer (some ⟨b, 0, none⟩), .slice A1 l.length cc1] := hB1.grown hg2 (Ne.symm hne); have d1 := hB2.cell 1; have e1 := hB2.frozen 1; simp at d1))
  go_ret2
  have hne2 := own_blk_ne ho2 hB2 (by decide)
  have hk2 : Kp (fun k => B ≤ k) w1 w2 := (Kp.refl _ w1).grown hg2 (fun k hk => .inr (ho.lt k hk).1)
  refine ⟨rfl, .inr ⟨hB, _, hB2.set_ 1 _, ?_, hne2⟩, (hbw.trans (hk2.below_of hBs (fun k hk h => by omega))).setCell (p := ⟨b, 1, none⟩) hB _⟩
  have := own_setCell ho2 (p := ⟨b, 1, none⟩) (u := .slice A2 (l.length + s.size) cc2) hne2
  have hz : s.data.toList.length = s.size := by simp
  simpa [Lib.byteCells, Lib.strCells, hz] using this

/-- A new builder. -/
theorem bd_new (w : World) (B : Nat) (hB : B ≤ w.heap.size) : BdV (w.alloc (.cells #[.pointer none, .slice none 0 0] 85)) B w.heap.size [] :=
  .inl ⟨hB, _, Blk.new _ _ _, World.ownsRow_nil _ _ _ _, by simp [Value.ownBlock]⟩
end Go.Proofs.YtobofhiakgohfaaDoor
