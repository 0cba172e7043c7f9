/- strings.Builder: what a builder of the call's own does when it is written to. token: inWord, Name. token: pairs of digits. strings.Cut at one byte, whatever the string's length. -/
import Derived.Test.YtobofhiakgohfaaGreatDoorShelf
import Derived.Test.YtobofhiakgohfaaGreatDoorZM
import Derived.Lib.Builder
import Derived.Test.YtobofhiakgohfaaGreatDoorZA
import Derived.Shelf.Strings.SlTrimAscii
set_option linter.unusedVariables false
set_option linter.unusedSimpArgs false
namespace Go.Proofs.YtobofhiakgohfaaGreatDoor
open Go.RowKit

theorem u8_info : (Tryz.prog.info? 5).map (fun i => (i.zero, i.size, i.bytes)) = some (some (.int .u8 0), 1, 1) := by kernel_rfl

theorem size85 : (Tryz.prog.info? 94).map (fun i => i.size) = some 2 := by kernel_rfl
theorem info85 : ∃ j, Tryz.prog.info? 94 = some j ∧ j.size ≠ 0 := by
  obtain ⟨j, hj, h⟩ := Option.map_eq_some_iff.1 size85
  exact ⟨j, hj, by omega⟩

set_option maxRecDepth 100000 in
set_option maxHeartbeats 400000 in
theorem copyCheck_fresh (b : Nat) (w : World) (v : Value) (h : w.heap[b]? = some (.cells #[.pointer none, v] 94 (0, 0))) :
    Calls Tryz.prog 70 #[.pointer (some ⟨b, 0, none⟩)] w fun e w' => e = .returned (.tuple #[]) ∧ w.setCell ⟨b, 0, none⟩ (.pointer (some ⟨b, 0, none⟩)) = w' := by
  obtain ⟨j, hj, hj0⟩ := info85
  have hB : Blk w b 94 #[.pointer none, v] := h
  have h0 := hB.cell 0
  have hf := hB.frozen 0
  simp at h0
  have hsh : w.shape? b = some (94, 2) := by simp [World.shape?, h]
  have e1 := Lib.run_to_unsafe (P := Tryz.prog) w ⟨b, 0, none⟩ Tryz.underlying91 Tryz.underlying158 hj hj0 hsh (by show 0 < 2; omega)
  have e2 := Lib.run_from_unsafe (P := Tryz.prog) w ⟨b, 0, none⟩ Tryz.underlying158 Tryz.underlying91 hj hsh (by kernel_rfl)
  have e3 : (callFunc 96 #[.pointer (some ⟨b, 0, none⟩)]).run Tryz.prog w = .ok (.value (.pointer (some ⟨b, 0, none⟩))) w := by
    rw [run_callFunc_extern Tryz.func96 (by kernel_rfl) (by kernel_rfl) (by kernel_rfl) (e := Extern.AbiNoEscape.same) (by kernel_rfl), Lib.run_noEscape]
    rfl
  clear h hB hsh hj hj0
  go_enter Tryz.func70, Tryz.ntmps70
  go_wp2
  go_end0
  exact ⟨rfl, rfl⟩

set_option maxRecDepth 100000 in
set_option maxHeartbeats 400000 in
theorem copyCheck_used (b : Nat) (w : World) (h0 : w.cell? ⟨b, 0, none⟩ = some (.pointer (some ⟨b, 0, none⟩))) :
    Calls Tryz.prog 70 #[.pointer (some ⟨b, 0, none⟩)] w fun e w' => e = .returned (.tuple #[]) ∧ w = w' := by
  obtain ⟨j, hj, hj0⟩ := info85
  have e3 := Lib.run_neq_ptr_same (P := Tryz.prog) w ⟨b, 0, none⟩ Tryz.underlying91 hj
  clear hj hj0
  go_enter Tryz.func70, Tryz.ntmps70
  go_wp2
  go_end0
  exact ⟨rfl, rfl⟩

theorem u8_info' : ∃ i0, Tryz.prog.info? 5 = some i0 ∧ i0.zero = some (.int .u8 0) ∧ i0.size = 1 ∧ i0.bytes = 1 := by
  obtain ⟨i0, hi, hz0, hz1, hz2⟩ := info_parts u8_info
  exact ⟨i0, hi, hz0, hz1, hz2⟩

/-- A builder of the call's own that holds the bytes l. -/
abbrev BdV (w : World) (B b : Nat) (l : List UInt8) : Prop := Lib.IsBuilder 94 5 B b (Lib.byteCells l) w

/-- What every writer does first. -/
theorem copyCheck_any (B b : Nat) (bs : List Value) (w : World) (h : Lib.IsBuilder 94 5 B b bs w) :
    Calls Tryz.prog 70 #[.pointer (some ⟨b, 0, none⟩)] w fun e w' => e = .returned (.tuple #[]) ∧ Lib.BuilderAt 94 5 B b (.pointer (some ⟨b, 0, none⟩)) bs w' ∧ Below B w w' := by
  rcases h with h | h
  · obtain ⟨hB, v, hb, ho, hne⟩ := id h
    refine (copyCheck_fresh b w v hb).mono ?_
    rintro e w' ⟨rfl, rfl⟩
    exact ⟨rfl, h.used _, (Below.refl B w).setCell (p := ⟨b, 0, none⟩) hB _⟩
  · refine (copyCheck_used b w h.cell0).mono ?_
    rintro e w' ⟨rfl, rfl⟩
    exact ⟨rfl, h, Below.refl B _⟩

set_option maxRecDepth 100000 in
set_option maxHeartbeats 1000000 in
theorem writeByte_any (B b : Nat) (l : List UInt8) (c : UInt8) (w : World) (h : BdV w B b l) (hl : l.length + 1 ≤ 140737488355328) :
    Calls Tryz.prog 113 #[.pointer (some ⟨b, 0, none⟩), .int .u8 (c.toNat : Int)] w fun e w' => e = .returned .nilIface ∧ BdV w' B b (l ++ [c]) ∧ Below B w w' := by
  obtain ⟨i0, hi, hz0, hz1, hz2⟩ := u8_info'
  have HC := Lib.hid (copyCheck_any B b _ w h)
  have hbl : (Lib.byteCells l).length = l.length := Lib.byteCells_length l
  go_enter Tryz.func113, Tryz.ntmps113
  go_wp2_with (first
    | (go_at_call 70; refine HC.out.mono ?_; rintro e w1 ⟨rfl, ⟨hB, v, hb, ho, hne⟩, hbw⟩; have hB1 : Blk w1 b 94 #[.pointer (some ⟨b, 0, none⟩), v] := hb; have c1 := hB1.cell 1; have f1 := hB1.frozen 1; have hlt1 := hB1.lt; simp at c1; rw [hbl] at ho; obtain ⟨A1, cc1, rfl, _, _⟩ := own_form ho; have hBs : B ≤ w1.heap.size := (by omega))
    | (at_builtin; refine wpList_append_lies _ rfl (.tmp 11) (.tmp 13) _ rfl B 5 i0 _ 1 1 Tryz.underlying92 hi hz0 hz1 hz2 rfl (by omega) (.slice A1 l.length cc1) l.length (Lib.byteCells l) rfl (by exact ho.alloc _) ⟨w1.heap.size, 0, none⟩ 1 1 [.int .u8 (c.toNat : Int)] rfl rfl (World.news_of_block (cs := #[.int .u8 (c.toNat : Int)]) (t := 5) (fr := (0, 0)) (heap_alloc_new _ _)) (by simp [Value.oneCell']) (by omega) (by simp only [maxLen]; omega) (by omega) (by simp; omega) (w1.heap.size + 1) (by simp) ?_; intro g2 cap2 w2 ho2 hg2 hat2 hlt2; have hB2 : Blk w2 b 94 #[.pointer (some ⟨b, 0, none⟩), .slice A1 l.length cc1] := (hB1.alloc _).grown hg2 (Ne.symm hne); have d1 := hB2.cell 1; have e1 := hB2.frozen 1; simp at d1))
  go_ret
  have hne2 := own_blk_ne ho2 hB2 (by decide)
  have hk2 : Kp (fun k => B ≤ k) w1 w2 := ((Kp.refl _ w1).alloc _).grown hg2 (fun k hk => .inr (ho.lt k hk).1)
  refine ⟨rfl, .inr ⟨hB, _, hB2.set_ 1 _, ?_, hne2⟩, (hbw.trans (hk2.below_of hBs (fun k hk h => by omega))).setCell (p := ⟨b, 1, none⟩) hB _⟩
  have := own_setCell ho2 (p := ⟨b, 1, none⟩) (u := .slice (some ⟨g2, 0, none⟩) (l.length + 1) cap2) hne2
  simpa [Lib.byteCells] using this

set_option maxRecDepth 100000 in
set_option maxHeartbeats 1000000 in
theorem writeString_any (B b : Nat) (l : List UInt8) (s : ByteArray) (w : World) (h : BdV w B b l) (hl : l.length + s.size ≤ 140737488355328) :
    Calls Tryz.prog 35 #[.pointer (some ⟨b, 0, none⟩), .string s] w fun e w' => e = .returned (.tuple #[.int .i64 s.size, .nilIface]) ∧ BdV w' B b (l ++ s.data.toList) ∧ Below B w w' := by
  obtain ⟨i0, hi, hz0, hz1, hz2⟩ := u8_info'
  have HC := Lib.hid (copyCheck_any B b _ w h)
  have hbl : (Lib.byteCells l).length = l.length := Lib.byteCells_length l
  go_enter Tryz.func35, Tryz.ntmps35
  go_wp2_with (first
    | (go_at_call 70; refine HC.out.mono ?_; rintro e w1 ⟨rfl, ⟨hB, v, hb, ho, hne⟩, hbw⟩; have hB1 : Blk w1 b 94 #[.pointer (some ⟨b, 0, none⟩), v] := hb; have c1 := hB1.cell 1; have f1 := hB1.frozen 1; have hlt1 := hB1.lt; simp at c1; rw [hbl] at ho; obtain ⟨A1, cc1, rfl, _, _⟩ := own_form ho; have hBs : B ≤ w1.heap.size := (by omega))
    | (at_builtin; refine Lib.wpList_append_own_string (w := w1) rfl (.tmp 12) (.tmp 13) _ _ rfl B 5 i0 Tryz.underlying92 Tryz.underlying9 hi hz0 hz1 hz2 (.slice A1 l.length cc1) l.length (Lib.byteCells l) rfl (by exact ho) s rfl (by simp only [maxLen]; omega) (by omega) (by exact hBs) ?_; intro v2 w2 ho2 hg2 hat2; obtain ⟨A2, cc2, rfl, _, _⟩ := own_form ho2; have hB2 : Blk w2 b 94 #[.pointer (some ⟨b, 0, none⟩), .slice A1 l.length cc1] := hB1.grown hg2 (Ne.symm hne); have d1 := hB2.cell 1; have e1 := hB2.frozen 1; simp at d1))
  go_ret2
  have hne2 := own_blk_ne ho2 hB2 (by decide)
  have hk2 : Kp (fun k => B ≤ k) w1 w2 := (Kp.refl _ w1).grown hg2 (fun k hk => .inr (ho.lt k hk).1)
  refine ⟨rfl, .inr ⟨hB, _, hB2.set_ 1 _, ?_, hne2⟩, (hbw.trans (hk2.below_of hBs (fun k hk h => by omega))).setCell (p := ⟨b, 1, none⟩) hB _⟩
  have := own_setCell ho2 (p := ⟨b, 1, none⟩) (u := .slice A2 (l.length + s.size) cc2) hne2
  have hz : s.data.toList.length = s.size := by simp
  simpa [Lib.byteCells, Lib.strCells, hz] using this

/-- A new builder. -/
theorem bd_new (w : World) (B : Nat) (hB : B ≤ w.heap.size) : BdV (w.alloc (.cells #[.pointer none, .slice none 0 0] 94)) B w.heap.size [] :=
  .inl ⟨hB, _, Blk.new _ _ _, World.ownsRow_nil _ _ _ _, by simp [Value.ownBlock]⟩
end Go.Proofs.YtobofhiakgohfaaGreatDoor

namespace Go.Proofs.YtobofhiakgohfaaGreatDoor
open Go.RowKit

theorem ret_bool {a b : Bool} (h : a = b) : Ending.returned (.bool a) = .returned (.bool b) := by rw [h]

set_option maxRecDepth 100000 in
set_option maxHeartbeats 400000 in
theorem inWord_any (c : UInt8) (w : World) : Calls Tryz.prog 61 #[.int .u8 (c.toNat : Int)] w fun e w' => e = .returned (.bool (inWordB c)) ∧ w = w' := by
  have hI : inWordB c = (decide (32 < c.toNat) && decide (c.toNat < 127) && ((c.toNat : Int) != 35)) := by
    simp only [inWordB, bne]
    congr 2
    rw [Bool.eq_iff_iff, beq_iff_eq, beq_iff_eq]
    omega
  rw [hI]
  clear hI
  by_cases h1 : 32 < c.toNat
  · by_cases h2 : c.toNat < 127
    · rw [decide_eq_true h1, decide_eq_true h2]
      go_enter Tryz.func61, Tryz.ntmps61
      go_wp2
      go_ret
      exact ⟨rfl, rfl⟩
    · rw [decide_eq_false h2]
      simp only [Bool.and_false, Bool.false_and]
      go_enter Tryz.func61, Tryz.ntmps61
      go_wp2
      go_ret
      exact ⟨rfl, rfl⟩
  · rw [decide_eq_false h1]
    simp only [Bool.and_false, Bool.false_and]
    go_enter Tryz.func61, Tryz.ntmps61
    go_wp2
    go_ret
    exact ⟨rfl, rfl⟩

theorem trimLow (s : ByteArray) (w : World) : Calls Tryz.prog 69 #[.string s, .string ⟨#[97, 98, 99, 100, 101, 102, 103, 104, 105, 106, 107, 108, 109, 110, 111, 112, 113, 114, 115, 116, 117, 118, 119, 120, 121, 122, 48, 49, 50, 51, 52, 53, 54, 55, 56, 57]⟩] w fun e w' => e = .returned (.string ⟨(s.data.toList.dropWhile (lowers.contains ·)).toArray⟩) ∧ Below w.heap.size w w' :=
  Any.strings_TrimLeft_laid Tryz.lays161 (by kernel_rfl) s _ w (by decide) (ascii_of_all (by decide))

set_option maxRecDepth 100000 in
set_option maxHeartbeats 1000000 in
theorem name_any (s : ByteArray) (w : World) (hs : s.size ≤ 140737488355328) : Calls Tryz.prog 34 #[.string s] w fun e w' => e = .returned (.bool (nameB s.data.toList)) ∧ K0 w w' := by
  have hsl : s.toList = s.data.toList := ByteArray.toList_eq s
  have hz : s.data.toList.length = s.size := by simp
  by_cases h1 : s.data.toList = kwClass
  · have hn : nameB s.data.toList = false := by rw [h1]; decide
    have e1 : (s.toList == [99, 108, 97, 115, 115]) = true := by rw [hsl, h1]; decide
    rw [hn]; clear hsl hz h1 hn
    go_enter Tryz.func34, Tryz.ntmps34
    go_wp2
    go_ret
    exact ⟨rfl, Kp.refl _ _⟩
  have e1 : (s.toList == [99, 108, 97, 115, 115]) = false := by rw [hsl]; exact beq_eq_false_iff_ne.2 h1
  by_cases h2 : s.data.toList = kwShape
  · have hn : nameB s.data.toList = false := by rw [h2]; decide
    have e2 : (s.toList == [115, 104, 97, 112, 101]) = true := by rw [hsl, h2]; decide
    rw [hn]; clear hsl hz h1 h2 hn
    go_enter Tryz.func34, Tryz.ntmps34
    go_wp2
    go_ret
    exact ⟨rfl, Kp.refl _ _⟩
  have e2 : (s.toList == [115, 104, 97, 112, 101]) = false := by rw [hsl]; exact beq_eq_false_iff_ne.2 h2
  by_cases h3 : s.data.toList = kwAt
  · have hn : nameB s.data.toList = false := by rw [h3]; decide
    have e3 : (s.toList == [97, 116]) = true := by rw [hsl, h3]; decide
    rw [hn]; clear hsl hz h1 h2 h3 hn
    go_enter Tryz.func34, Tryz.ntmps34
    go_wp2
    go_ret
    exact ⟨rfl, Kp.refl _ _⟩
  have e3 : (s.toList == [97, 116]) = false := by rw [hsl]; exact beq_eq_false_iff_ne.2 h3
  by_cases h4 : s.data.toList = []
  · have hn : nameB s.data.toList = false := by rw [h4]; decide
    have e4 : s.toList.isEmpty = true := by rw [hsl, h4]; rfl
    rw [hn]; clear hsl hz h1 h2 h3 h4 hn
    go_enter Tryz.func34, Tryz.ntmps34
    go_wp2
    go_ret
    exact ⟨rfl, Kp.refl _ _⟩
  have e4 : s.toList.isEmpty = false := by
    rw [hsl]
    cases h : s.data.toList with
    | nil => exact absurd h h4
    | cons a t => rfl
  by_cases h5 : 16 < s.size
  · have hn : nameB s.data.toList = false := by
      have : ¬ s.data.toList.length ≤ 16 := by omega
      simp only [nameB, decide_eq_false this, Bool.and_false, Bool.false_and]
    rw [hn]; clear hsl hz h1 h2 h3 h4 hn
    go_enter Tryz.func34, Tryz.ntmps34
    go_wp2
    go_ret
    exact ⟨rfl, Kp.refl _ _⟩
  obtain ⟨c, t, hct⟩ : ∃ c t, s.data.toList = c :: t := by
    cases h : s.data.toList with
    | nil => exact absurd h h4
    | cons a t => exact ⟨a, t, rfl⟩
  have hpos : 0 < s.size := by rw [← hz, hct]; simp
  have hc0 : s[0] = c := by
    have : s.data.toList[0]? = some c := by rw [hct]; rfl
    rw [List.getElem?_eq_getElem (by omega)] at this
    injection this
  rw [nameB_trim _ h1 h2 h3 c t hct (by omega)]
  have HT := Lib.hid (trimLow s w)
  generalize hr : s.data.toList.dropWhile (lowers.contains ·) = r at *
  have hc1 : (s[0].toNat : Int) = (c.toNat : Int) := by rw [hc0]
  clear hsl hz h1 h2 h3 h4 hr hct
  by_cases h6 : r = []
  · subst h6
    go_enter Tryz.func34, Tryz.ntmps34
    go_wp2_with (go_at_call 69; refine HT.out.mono ?_; rintro e w1 ⟨rfl, hb⟩)
    have hx : (s[0].toNat : Int) = (c.toNat : Int) := hc1
    go_ret
    all_goals (first | (refine ⟨?_, Kp.of_below hb⟩) | trace_state)
    all_goals (first | (refine ret_bool ?_; simp; omega) | (rw [hx]; refine ret_bool ?_; simp) | trace_state)
  · have e6 : (⟨r.toArray⟩ : ByteArray).toList.isEmpty = false := by
      rw [ByteArray.toList_eq]
      cases r with
      | nil => exact absurd rfl h6
      | cons a t => rfl
    rw [decide_eq_false h6]
    simp only [Bool.false_and]
    go_enter Tryz.func34, Tryz.ntmps34
    go_wp2_with (go_at_call 69; refine HT.out.mono ?_; rintro e w1 ⟨rfl, hb⟩)
    go_ret
    exact ⟨rfl, Kp.of_below hb⟩
end Go.Proofs.YtobofhiakgohfaaGreatDoor

namespace Go.Proofs.YtobofhiakgohfaaGreatDoor
open Go.RowKit

theorem hexIndex (c : UInt8) (w : World) : Calls Tryz.prog 150 #[.string ⟨#[48, 49, 50, 51, 52, 53, 54, 55, 56, 57, 65, 66, 67, 68, 69, 70]⟩, .int .u8 (c.toNat : Int)] w fun e w' => e = .returned (.int .i64 (hexv c)) ∧ w' = w := by
  have h := Tryz.strings_IndexByte ⟨#[48, 49, 50, 51, 52, 53, 54, 55, 56, 57, 65, 66, 67, 68, 69, 70]⟩ (c.toNat : Int) w
  have e : (c.toNat : Int).toNat.toUInt8 = c := by simp
  rw [e] at h
  have h2 := indexByte_hex c
  unfold hexLetters at h2
  rw [show (ByteArray.mk #[48, 49, 50, 51, 52, 53, 54, 55, 56, 57, 65, 66, 67, 68, 69, 70]).data.toList = [48, 49, 50, 51, 52, 53, 54, 55, 56, 57, 65, 66, 67, 68, 69, 70] from rfl, h2] at h
  exact h

set_option maxRecDepth 100000 in
set_option maxHeartbeats 400000 in
theorem digit_any (c : UInt8) (w : World) : Calls Tryz.prog 124 #[.int .u8 (c.toNat : Int)] w fun e w' => e = .returned (.int .i64 (hexv c)) ∧ w = w' := by
  have hc := c.toNat_lt
  unfold hexv
  by_cases h1 : 48 ≤ c.toNat ∧ c.toNat ≤ 57
  · rw [if_pos h1]
    obtain ⟨h1, h2⟩ := h1
    have hw : IntKind.u8.wrap ((c.toNat : Int) - 48) = (c.toNat : Int) - 48 := IntWalk.u8_in _ (by omega)
    go_enter Tryz.func124, Tryz.ntmps124
    go_wp2
    go_ret
    exact ⟨ret_int (by omega), rfl⟩
  · rw [if_neg h1]
    by_cases h2 : 65 ≤ c.toNat ∧ c.toNat ≤ 70
    · rw [if_pos h2]
      obtain ⟨h2, h3⟩ := h2
      have h4 : ¬ c.toNat ≤ 57 := by omega
      have hw : IntKind.u8.wrap ((c.toNat : Int) - 65) = (c.toNat : Int) - 65 := IntWalk.u8_in _ (by omega)
      go_enter Tryz.func124, Tryz.ntmps124
      go_wp2
      go_ret
      exact ⟨ret_int (by omega), rfl⟩
    · rw [if_neg h2]
      go_enter Tryz.func124, Tryz.ntmps124
      go_wp2
      all_goals first | (go_ret; exact ⟨rfl, rfl⟩) | (exfalso; omega)

theorem str_get {s : ByteArray} {i : Nat} (h : i < s.size) : s.data.toList[i]?.getD 0 = s[i] := by
  have : i < s.data.toList.length := by simpa using h
  rw [List.getElem?_eq_getElem this]
  rfl

set_option maxRecDepth 100000 in
set_option maxHeartbeats 1000000 in
theorem rpair_any (s : ByteArray) (i : Nat) (w : World) (hs : s.size ≤ 140737488355328) (hi : i ≤ 140737488355328) : Calls Tryz.prog 108 #[.string s, .int .i64 (i : Int)] w fun e w' => e = .returned (.int .i64 (pairI s.data.toList i)) ∧ K0 w w' := by
  have hl : s.data.toList.length = s.size := by simp
  unfold pairI
  rw [hl]
  clear hl
  by_cases h1 : s.size < i + 2
  · rw [if_pos h1]
    go_enter Tryz.func108, Tryz.ntmps108
    go_wp2
    go_ret
    exact ⟨rfl, Kp.refl _ _⟩
  · rw [if_neg h1, str_get (show i < s.size by omega), str_get (show i + 1 < s.size by omega)]
    have h2 : i < s.size := by omega
    have h3 : i + 1 < s.size := by omega
    generalize ha : s[i] = a
    generalize hb : s[i + 1] = b
    unfold pairV
    have hA16 := hexv_lt a
    have hB16 := hexv_lt b
    by_cases hA : hexv a < 0
    · rw [if_pos (.inl hA)]
      go_enter Tryz.func108, Tryz.ntmps108
      go_wp2_with (go_at_call 124; refine (digit_any _ _).mono ?_; rintro e w' ⟨rfl, rfl⟩)
      go_ret
      exact ⟨rfl, Kp.refl _ _⟩
    · by_cases hB : hexv b < 0
      · rw [if_pos (.inr hB)]
        go_enter Tryz.func108, Tryz.ntmps108
        go_wp2_with (go_at_call 124; refine (digit_any _ _).mono ?_; rintro e w' ⟨rfl, rfl⟩)
        go_ret
        exact ⟨rfl, Kp.refl _ _⟩
      · rw [if_neg (by omega)]
        have hw1 : IntKind.i64.wrap (16 * hexv a) = 16 * hexv a := IntWalk.i64_in _ (by omega)
        have hw2 : IntKind.i64.wrap (16 * hexv a + hexv b) = 16 * hexv a + hexv b := IntWalk.i64_in _ (by omega)
        go_enter Tryz.func108, Tryz.ntmps108
        go_wp2_with (go_at_call 124; refine (digit_any _ _).mono ?_; rintro e w' ⟨rfl, rfl⟩)
        go_quiet (first | (go_at_call 124; exact Calls.quiet_of_same ((digit_any _ _).mono fun _ _ ⟨a, b⟩ => ⟨a, b.symm⟩)))
        go_wp2
        go_ret
        exact ⟨rfl, (Kp.refl _ _).drewN _⟩

theorem or16 (x y : Int) (hx : 0 ≤ x) (hx2 : x < 16) (hy : 0 ≤ y) (hy2 : y < 16) : bits .or .i64 (x * 16) y = x * 16 + y := by
  have h : ∀ i j : Fin 16, bits .or .i64 ((i.val : Int) * 16) (j.val : Int) = (i.val : Int) * 16 + (j.val : Int) := by decide +kernel
  have := h ⟨x.toNat, by omega⟩ ⟨y.toNat, by omega⟩
  simp only [Int.toNat_of_nonneg hx, Int.toNat_of_nonneg hy] at this
  exact this

/-- What pair answers: right or not; the value, where there is one. -/
def PairOk (l : List UInt8) (v : Int) (ok : Bool) : Prop := ok = decide (l.length = 2 ∧ 0 ≤ pairI l 0) ∧ (ok = true → v = pairI l 0) ∧ 0 ≤ v ∧ v < 256

def PairPost (l : List UInt8) (w : World) (e : Ending) (w' : World) : Prop := ∃ (v : Int) (ok : Bool), e = .returned (.tuple #[.int .i64 v, .bool ok]) ∧ PairOk l v ok ∧ K0 w w'
theorem PairPost.mk {l : List UInt8} {w w' : World} {v : Int} {ok : Bool} (h : PairOk l v ok) (k : K0 w w') : PairPost l w (.returned (.tuple #[.int .i64 v, .bool ok])) w' := ⟨v, ok, rfl, h, k⟩

set_option maxRecDepth 100000 in
set_option maxHeartbeats 1000000 in
/-- pair: the value, where there is one. -/
theorem pair_any (s : ByteArray) (w : World) (hs : s.size ≤ 140737488355328) : Calls Tryz.prog 126 #[.string s] w (PairPost s.data.toList w) := by
  have hl : s.data.toList.length = s.size := by simp
  by_cases h1 : s.size = 2
  · have h2 : 0 < s.size := by omega
    have h3 : 1 < s.size := by omega
    have hp : pairI s.data.toList 0 = pairV (s[0]'h2) (s[1]'h3) := by
      unfold pairI
      rw [if_neg (by omega), str_get (show 0 < s.size by omega), str_get (show 0 + 1 < s.size by omega)]
    have hP := Lib.hid hp
    have hL := Lib.hid hl
    clear hp hl
    generalize ha : s[0] = a at *
    generalize hb : s[1] = b at *
    have hA16 := hexv_lt a
    have hB16 := hexv_lt b
    have hA1 := hexv_ge a
    have hB1 := hexv_ge b
    have hor := or16 (max (hexv a) 0) (max (hexv b) 0) (by omega) (by omega) (by omega) (by omega)
    have key : ∀ ok : Bool, ok = decide (0 ≤ hexv a ∧ 0 ≤ hexv b) → PairOk s.data.toList (max (hexv a) 0 * 16 + max (hexv b) 0) ok := by
      intro ok hok
      refine ⟨?_, fun h => ?_, by omega, by omega⟩
      · rw [hok, hP.out, hL.out]
        unfold pairV
        rw [Bool.eq_iff_iff, decide_eq_true_iff, decide_eq_true_iff]
        constructor
        · rintro ⟨x, y⟩; refine ⟨h1, ?_⟩; rw [if_neg (by omega)]; omega
        · rintro ⟨_, y⟩; split at y <;> omega
      · rw [hok, decide_eq_true_iff] at h
        rw [hP.out]
        unfold pairV
        rw [if_neg (by omega)]
        omega
    have KEY := Lib.hid key
    clear key
    go_enter Tryz.func126, Tryz.ntmps126
    go_wp2
    go_quiet (first | (go_at_call 150; exact Calls.quiet_of_same (hexIndex _ _)))
    go_wp2
    all_goals
      go_ret2
      refine PairPost.mk (KEY.out _ ?_) ((Kp.refl _ _).drewN _)
      rw [eq_comm, Bool.eq_iff_iff]
      simp
      try omega
  · go_enter Tryz.func126, Tryz.ntmps126
    go_wp2
    go_ret2
    refine PairPost.mk (v := 0) (ok := false) ⟨?_, fun h => (by cases h), by omega, by omega⟩ (Kp.refl _ _)
    simp [h1]

end Go.Proofs.YtobofhiakgohfaaGreatDoor

namespace Go.Proofs.YtobofhiakgohfaaGreatDoor
open Go.RowKit

set_option maxRecDepth 100000 in
set_option maxHeartbeats 1000000 in
theorem index1_any (s : ByteArray) (w : World) : Calls Tryz.prog 167 #[.string s, .string ⟨#[45]⟩] w fun e w' => e = .returned (.int .i64 (Lib.indexByte s.data.toList 45)) ∧ w = w' := by
  have h : Calls Tryz.prog 168 #[.string s, .int .u8 45] w fun e w' => e = .returned (.int .i64 (Lib.indexByte s.data.toList 45)) ∧ w' = w := Tryz.stringslite_IndexByte s 45 w
  have H := Lib.hid h
  clear h
  by_cases he : s.data.toList = [45]
  · have h0 : Lib.indexByte s.data.toList 45 = 0 := by rw [he]; decide
    have e1 : ([45] == s.toList) = true := by rw [ByteArray.toList_eq, he]; decide
    rw [h0]
    clear H h0 he
    go_enter Tryz.func167, Tryz.ntmps167
    go_wp2
    go_ret
    exact ⟨rfl, rfl⟩
  · have e1 : ([45] == s.toList) = false := by rw [ByteArray.toList_eq]; exact beq_eq_false_iff_ne.2 (Ne.symm he)
    clear he
    go_enter Tryz.func167, Tryz.ntmps167
    go_wp2_with (go_at_call 168; refine H.out.mono ?_; rintro e w1 ⟨rfl, rfl⟩)
    go_ret
    exact ⟨rfl, rfl⟩

theorem indexByte_cut (c : UInt8) (l : List UInt8) : (Lib.indexByte l c = -1 ∧ c ∉ l) ∨ (∃ n : Nat, Lib.indexByte l c = n ∧ n < l.length ∧ l = l.take n ++ c :: l.drop (n + 1) ∧ c ∉ l.take n) := by
  have hge := Lib.indexByte_ge l c
  by_cases h : Lib.indexByte l c = -1
  · refine .inl ⟨h, fun hm => ?_⟩
    obtain ⟨k, hk⟩ := List.mem_iff_getElem?.1 hm
    exact Lib.indexByte_none h k hk
  · obtain ⟨n, hn⟩ := Int.eq_ofNat_of_zero_le (show 0 ≤ Lib.indexByte l c by omega)
    obtain ⟨h1, h2⟩ := Lib.indexByte_some hn
    have hlt : n < l.length := (List.getElem?_eq_some_iff.1 h1).1
    refine .inr ⟨n, hn, hlt, ?_, fun hm => ?_⟩
    · have h3 : l[n] = c := (List.getElem?_eq_some_iff.1 h1).2
      rw [← h3, List.getElem_cons_drop, List.take_append_drop]
    · obtain ⟨k, hk⟩ := List.mem_iff_getElem?.1 hm
      rw [List.getElem?_take] at hk
      split at hk
      · exact h2 k (by omega) hk
      · cases hk

theorem extract_list (s : ByteArray) (a b : Nat) : (s.extract a b).data.toList = (s.data.toList.drop a).take (b - a) := by
  rw [ByteArray.data_extract, Array.toList_extract]

def CutPost (l : List UInt8) (w : World) (e : Ending) (w' : World) : Prop := ∃ (a b : ByteArray) (t : Bool), e = .returned (.tuple #[.string a, .string b, .bool t]) ∧ K0 w w' ∧
  ((t = false ∧ (45 : UInt8) ∉ l ∧ a.data.toList = l) ∨ (t = true ∧ l = a.data.toList ++ 45 :: b.data.toList ∧ (45 : UInt8) ∉ a.data.toList))

set_option maxRecDepth 100000 in
set_option maxHeartbeats 1000000 in
theorem cut0_any (s : ByteArray) (w : World) (hs : s.size ≤ 140737488355328) : Calls Tryz.prog 149 #[.string s, .string ⟨#[45]⟩] w (CutPost s.data.toList w) := by
  have H := Lib.hid (index1_any s w)
  have hl : s.data.toList.length = s.size := by simp
  rcases indexByte_cut 45 s.data.toList with ⟨h1, h2⟩ | ⟨n, h1, h2, h3, h4⟩
  · rw [h1] at H
    clear h1 hl
    go_enter Tryz.func149, Tryz.ntmps149
    go_wp2_with (go_at_call 167; refine H.out.mono ?_; rintro e w1 ⟨rfl, rfl⟩)
    go_ret3
    exact ⟨s, ⟨#[]⟩, false, rfl, Kp.refl _ _, .inl ⟨rfl, h2, rfl⟩⟩
  · rw [h1] at H
    rw [hl] at h2
    have H3 := Lib.hid h3
    have H4 := Lib.hid h4
    clear h1 hl h3 h4
    go_enter Tryz.func149, Tryz.ntmps149
    go_wp2_with (go_at_call 167; refine H.out.mono ?_; rintro e w1 ⟨rfl, rfl⟩)
    go_quiet (fail)
    go_wp2
    go_ret3
    refine ⟨s.extract 0 n, s.extract (n + 1) s.size, true, rfl, (Kp.refl _ _).drewN _, .inr ⟨rfl, ?_, ?_⟩⟩
    · rw [extract_list, extract_list]
      have := H3.out
      have hz : (s.data.toList.drop (n + 1)).take (s.size - (n + 1)) = s.data.toList.drop (n + 1) := List.take_of_length_le (by simp)
      rw [hz]
      simpa using this
    · rw [extract_list]
      simpa using H4.out

set_option maxRecDepth 100000 in
theorem cut1_any (s : ByteArray) (w : World) (hs : s.size ≤ 140737488355328) : Calls Tryz.prog 125 #[.string s, .string ⟨#[45]⟩] w (CutPost s.data.toList w) := by
  have H := Lib.hid (cut0_any s w hs)
  go_enter Tryz.func125, Tryz.ntmps125
  go_wp2_with (go_at_call 149; refine H.out.mono ?_; rintro e w1 ⟨a, b, t, rfl, hk, hab⟩)
  go_ret3
  exact ⟨a, b, t, rfl, hk, hab⟩
end Go.Proofs.YtobofhiakgohfaaGreatDoor
