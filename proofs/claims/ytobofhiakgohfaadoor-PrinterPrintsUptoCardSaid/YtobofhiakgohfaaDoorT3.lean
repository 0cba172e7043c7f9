/- strings.Cut at one byte, whatever the string's length. -/
import Derived.Test.YtobofhiakgohfaaDoorT2
set_option linter.unusedVariables false
set_option linter.unusedSimpArgs false
namespace Go.Proofs.YtobofhiakgohfaaDoor
open Go.RowKit

set_option maxRecDepth 100000 in
set_option maxHeartbeats 1000000 in
theorem index1_any (s : ByteArray) (w : World) : Calls Tryd.prog 105 #[.string s, .string ⟨#[45]⟩] w fun e w' => e = .returned (.int .i64 (Lib.indexByte s.data.toList 45)) ∧ w = w' := by
  have h : Calls Tryd.prog 106 #[.string s, .int .u8 45] w fun e w' => e = .returned (.int .i64 (Lib.indexByte s.data.toList 45)) ∧ w' = w := Tryd.stringslite_IndexByte s 45 w
  have H := Lib.hid h
  clear h
  by_cases he : s.data.toList = [45]
  · have h0 : Lib.indexByte s.data.toList 45 = 0 := by rw [he]; decide
    have e1 : ([45] == s.toList) = true := by rw [ByteArray.toList_eq, he]; decide
    rw [h0]
    clear H h0 he
    go_enter Tryd.func105, Tryd.ntmps105
    go_wp2
    go_ret
    exact ⟨rfl, rfl⟩
  · have e1 : ([45] == s.toList) = false := by rw [ByteArray.toList_eq]; exact beq_eq_false_iff_ne.2 (Ne.symm he)
    clear he
    go_enter Tryd.func105, Tryd.ntmps105
    go_wp2_with (go_at_call 106; refine H.out.mono ?_; rintro e w1 ⟨rfl, rfl⟩)
    go_ret
    exact ⟨rfl, rfl⟩

theorem indexByte_cut (c : UInt8) (l : List UInt8) : (Lib.indexByte l c = -1 ∧ c ∉ l) ∨ (∃ n : Nat, Lib.indexByte l c = n ∧ n < l.length ∧ l = l.take n ++ c :: l.drop (n + 1) ∧ c ∉ l.take n) := by
  have hge := Lib.indexByte_ge l c
  by_cases h : Lib.indexByte l c = -1
  · refine .inl ⟨h, fun hm => ?_⟩
    obtain ⟨k, hk⟩ := List.mem_iff_getElem?.1 hm
    exact Lib.indexByte_none h k hk
  · obtain ⟨n, hn⟩ := Int.eq_ofNat_of_zero_le (show 0 ≤ Lib.indexByte l c by omega)
    obtain ⟨h1, h2⟩ := Lib.indexByte_some hn
    have hlt : n < l.length := (List.getElem?_eq_some_iff.1 h1).1
    refine .inr ⟨n, hn, hlt, ?_, fun hm => ?_⟩
    · have h3 : l[n] = c := (List.getElem?_eq_some_iff.1 h1).2
      rw [← h3, List.getElem_cons_drop, List.take_append_drop]
    · obtain ⟨k, hk⟩ := List.mem_iff_getElem?.1 hm
      rw [List.getElem?_take] at hk
      split at hk
      · exact h2 k (by omega) hk
      · cases hk

theorem extract_list (s : ByteArray) (a b : Nat) : (s.extract a b).data.toList = (s.data.toList.drop a).take (b - a) := by
  rw [ByteArray.data_extract, Array.toList_extract]

def CutPost (l : List UInt8) (w : World) (e : Ending) (w' : World) : Prop := ∃ (a b : ByteArray) (t : Bool), e = .returned (.tuple #[.string a, .string b, .bool t]) ∧ K0 w w' ∧
  ((t = false ∧ (45 : UInt8) ∉ l ∧ a.data.toList = l) ∨ (t = true ∧ l = a.data.toList ++ 45 :: b.data.toList ∧ (45 : UInt8) ∉ a.data.toList))

set_option maxRecDepth 100000 in
set_option maxHeartbeats 1000000 in
theorem cut0_any (s : ByteArray) (w : World) (hs : s.size ≤ 140737488355328) : Calls Tryd.prog 78 #[.string s, .string ⟨#[45]⟩] w (CutPost s.data.toList w) := by
  have H := Lib.hid (index1_any s w)
  have hl : s.data.toList.length = s.size := by simp
  rcases indexByte_cut 45 s.data.toList with ⟨h1, h2⟩ | ⟨n, h1, h2, h3, h4⟩
  · rw [h1] at H
    clear h1 hl
    go_enter Tryd.func78, Tryd.ntmps78
    go_wp2_with (go_at_call 105; refine H.out.mono ?_; rintro e w1 ⟨rfl, rfl⟩)
    go_ret3
    exact ⟨s, ⟨#[]⟩, false, rfl, Kp.refl _ _, .inl ⟨rfl, h2, rfl⟩⟩
  · rw [h1] at H
    rw [hl] at h2
    have H3 := Lib.hid h3
    have H4 := Lib.hid h4
    clear h1 hl h3 h4
    go_enter Tryd.func78, Tryd.ntmps78
    go_wp2_with (go_at_call 105; refine H.out.mono ?_; rintro e w1 ⟨rfl, rfl⟩)
    go_quiet (fail)
    go_wp2
    go_ret3
    refine ⟨s.extract 0 n, s.extract (n + 1) s.size, true, rfl, (Kp.refl _ _).drewN _, .inr ⟨rfl, ?_, ?_⟩⟩
    · rw [extract_list, extract_list]
      have := H3.out
      have hz : (s.data.toList.drop (n + 1)).take (s.size - (n + 1)) = s.data.toList.drop (n + 1) := List.take_of_length_le (by simp)
      rw [hz]
      simpa using this
    · rw [extract_list]
      simpa using H4.out

set_option maxRecDepth 100000 in
theorem cut1_any (s : ByteArray) (w : World) (hs : s.size ≤ 140737488355328) : Calls Tryd.prog 57 #[.string s, .string ⟨#[45]⟩] w (CutPost s.data.toList w) := by
  have H := Lib.hid (cut0_any s w hs)
  go_enter Tryd.func57, Tryd.ntmps57
  go_wp2_with (go_at_call 78; refine H.out.mono ?_; rintro e w1 ⟨a, b, t, rfl, hk, hab⟩)
  go_ret3
  exact ⟨a, b, t, rfl, hk, hab⟩
end Go.Proofs.YtobofhiakgohfaaDoor
