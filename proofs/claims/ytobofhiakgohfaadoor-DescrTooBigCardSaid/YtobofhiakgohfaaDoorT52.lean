/- strings.Repeat, small. -/
import Derived.Test.YtobofhiakgohfaaDoorB1
import Derived.Test.YtobofhiakgohfaaDoorTH
import Derived.Lib.RepeatB
import Derived.Lib.FrozenHead
set_option linter.unusedVariables false
set_option linter.unusedSimpArgs false
namespace Go.Proofs.YtobofhiakgohfaaDoor
open Go.RowKit

/-- A builder that may have been read. -/
abbrev BdF (w : World) (B b : Nat) (l : List UInt8) : Prop := Lib.IsBuilderF 85 5 B b (Lib.byteCells l) w
theorem copyCheckF_any (B b : Nat) (bs : List Value) (w : World) (h : Lib.IsBuilderF 85 5 B b bs w) :
    Calls Tryd.prog 76 #[.pointer (some ⟨b, 0, none⟩)] w fun e w' => e = .returned (.tuple #[]) ∧ Lib.BuilderAtF 85 5 B b (.pointer (some ⟨b, 0, none⟩)) bs w' ∧ Below B w w' := by
  rcases h with h | h
  · obtain ⟨hB, v, hb, ho, hne⟩ := id h
    refine (copyCheck_fresh b w v hb).mono ?_
    rintro e w' ⟨rfl, rfl⟩
    exact ⟨rfl, h.used _, (Below.refl B w).setCell (p := ⟨b, 0, none⟩) hB _⟩
  · refine (copyCheck_used b w h.cell0).mono ?_
    rintro e w' ⟨rfl, rfl⟩
    exact ⟨rfl, h, Below.refl B _⟩
theorem own_formF {w : World} {base size n : Nat} {e : TypeId} {v : Value} {xs : List Value} (h : w.ownsRowF base e size v n xs) : ∃ A c, v = .slice A n c := by
  rcases h.2 with ⟨hv, hn⟩ | ⟨g, cap, cur, fz, hv, _⟩
  · have h1 := h.1
    rw [hn] at h1
    simp at h1
    first
      | exact ⟨_, _, by rw [hv, h1]⟩
      | (refine ⟨none, 0, ?_⟩; rw [hv]; simp_all)
  · exact ⟨_, _, hv⟩

set_option maxRecDepth 100000 in
set_option maxHeartbeats 1000000 in
theorem writeStringF_any (B b : Nat) (l : List UInt8) (s : ByteArray) (w : World) (h : BdF w B b l) (hl : l.length + s.size ≤ 140737488355328) :
    Calls Tryd.prog 47 #[.pointer (some ⟨b, 0, none⟩), .string s] w fun e w' => e = .returned (.tuple #[.int .i64 s.size, .nilIface]) ∧ BdF w' B b (l ++ s.data.toList) ∧ Below B w w' := by
  obtain ⟨i0, hi, hz0, hz1, hz2⟩ := u8_info'
  have HC := Lib.hid (copyCheckF_any B b _ w h)
  have hbl : (Lib.byteCells l).length = l.length := Lib.byteCells_length l
  go_enter Tryd.func47, Tryd.ntmps47
  go_wp2_with (first
    | (go_at_call 76; refine HC.out.mono ?_; rintro e w1 ⟨rfl, ⟨hB, v, hb, ho, hne⟩, hbw⟩; have hB1 : Blk w1 b 85 #[.pointer (some ⟨b, 0, none⟩), v] := hb; have c1 := hB1.cell 1; have f1 := hB1.frozen 1; have hlt1 := hB1.lt; simp at c1; rw [hbl] at ho; obtain ⟨A1, cc1, rfl⟩ := own_formF ho; have hBs : B ≤ w1.heap.size := (by omega))
    | (at_builtin; refine Lib.wpList_append_own_stringF (w := w1) rfl (.tmp 12) (.tmp 13) _ _ rfl B 5 i0 Tryd.underlying44 Tryd.underlying9 hi hz0 hz1 hz2 (.slice A1 l.length cc1) l.length (Lib.byteCells l) rfl (by exact ho) s rfl (by simp only [maxLen]; omega) (by omega) (by exact hBs) ?_; intro v2 w2 ho2 hg2 hat2; obtain ⟨A2, cc2, rfl⟩ := own_formF ho2; have hB2 : Blk w2 b 85 #[.pointer (some ⟨b, 0, none⟩), .slice A1 l.length cc1] := hB1.grown hg2 (Ne.symm hne); have d1 := hB2.cell 1; have e1 := hB2.frozen 1; simp at d1))
  go_ret2
  have hk2 : Kp (fun k => B ≤ k) w1 w2 := (Kp.refl _ w1).grown hg2 (fun k hk => .inr (ho.lt k hk).1)
  have hz : s.data.toList.length = s.size := by simp
  have e3 : Lib.byteCells l ++ Lib.strCells s = Lib.byteCells (l ++ s.data.toList) := by rw [Lib.strCells_eq, ← Lib.byteCells_append]
  have e4 : (Lib.byteCells (l ++ s.data.toList)).length = l.length + s.size := by rw [Lib.byteCells_length, List.length_append, hz]
  rw [e3, ← e4] at ho2
  have := Lib.BuilderAtF.put (v' := .slice A2 (l.length + s.size) cc2) hB hB2 (by rw [← e4]; exact ho2) (by decide)
  exact ⟨rfl, .inr this, (hbw.trans (hk2.below_of hBs (fun k hk h => by omega))).setCell (p := ⟨b, 1, none⟩) hB _⟩

theorem min3 {P : Program} {w : World} (ts : Array TypeId) (t : TypeId) (k k' k'' : IntKind) (x y z : Int) :
    (Builtin.min_ ts t #[.int k x, .int k' y, .int k'' z]).run P w = .ok (.int k (if z < (if y < x then y else x) then z else (if y < x then y else x))) w := by
  simp [Builtin.min_, Builtin.min2]

set_option maxRecDepth 100000 in
theorem repeat_zero (s : ByteArray) (w : World) : Calls Tryd.prog 45 #[.string s, .int .i64 0] w fun e w' => e = .returned (.string ⟨#[]⟩) ∧ K0 w w' := by
  go_enter Tryd.func45, Tryd.ntmps45
  go_wp2
  go_ret
  exact ⟨rfl, Kp.refl _ _⟩
set_option maxRecDepth 100000 in
theorem repeat_one (s : ByteArray) (w : World) : Calls Tryd.prog 45 #[.string s, .int .i64 1] w fun e w' => e = .returned (.string s) ∧ K0 w w' := by
  go_enter Tryd.func45, Tryd.ntmps45
  go_wp2
  go_ret
  exact ⟨rfl, Kp.refl _ _⟩

set_option maxRecDepth 100000 in
set_option maxHeartbeats 4000000 in
/-- At least two copies of a word that begins with none of the five. -/
theorem repeat_many (s : ByteArray) (c : Nat) (b0 : UInt8) (tl : List UInt8) (w : World) (hct : s.data.toList = b0 :: tl) (hne : ((b0.toNat : Int) == 32) = false ∧ ((b0.toNat : Int) == 45) = false ∧ ((b0.toNat : Int) == 48) = false ∧ ((b0.toNat : Int) == 61) = false ∧ ((b0.toNat : Int) == 9) = false) (hc2 : 2 ≤ c) (hc : c ≤ 64) (hlen : s.size * c ≤ 8192) :
    Calls Tryd.prog 45 #[.string s, .int .i64 (c : Int)] w fun e w' => e = .returned (.string ⟨(Lib.repeatL s.data.toList c).toArray⟩) ∧ Below w.heap.size w w' := by
  obtain ⟨d1, d2, d3, d4, d5⟩ := hne
  have hz : s.data.toList.length = s.size := by simp
  have hpos : 0 < s.size := by rw [← hz, hct]; simp
  have hs9 : s.size ≤ 8192 := Nat.le_trans (Nat.le_mul_of_pos_right _ (by omega)) hlen
  have hc0 : s[0] = b0 := by
    have : s.data.toList[0]? = some b0 := by rw [hct]; rfl
    rw [List.getElem?_eq_getElem (by omega)] at this
    injection this
  have hMul := Tryd.bits_Mul s.size c (by omega) (by omega) w
  rw [Nat.div_eq_of_lt (by omega : s.size * c < 18446744073709551616), Nat.mod_eq_of_lt (by omega : s.size * c < 18446744073709551616)] at hMul
  obtain ⟨n, hn⟩ : ∃ n, s.size * c = n := ⟨_, rfl⟩
  rw [hn] at hMul hlen
  have HN := Lib.hid hn
  have HM := Lib.hid hMul
  clear hn hMul hct
  have b0' : Below w.heap.size w (w.alloc (.cells #[.pointer none, .slice none 0 0] 85)) := (Below.refl _ w).alloc (Nat.le_refl _) _
  have cG := Lib.hid (Tryd.Builder_Grow_fresh w.heap.size w.heap.size n (w.alloc (.cells #[.pointer none, .slice none 0 0] 85)) (Nat.le_refl _) (heap_alloc_new w _) b0'.size (by omega))
  go_enter Tryd.func45, Tryd.ntmps45
  go_wp2_with (first
    | (go_at_call 71; refine HM.out.mono ?_; rintro e w1 ⟨rfl, hw⟩; rw [hw])
    | (go_at_call 73; refine cG.out.mono ?_; rintro e w1 ⟨rfl, h1, bw1⟩))
  refine (writeStringF_any w.heap.size w.heap.size [] s w1 (Lib.IsBuilderF.of (.inr h1)) (by simp; omega)).mono ?_
  rintro e w2 ⟨rfl, h2, bw2⟩
  rw [List.nil_append] at h2
  have h2' : BdF w2 w.heap.size w.heap.size (Lib.repeatL s.data.toList 1) := by rw [Lib.repeatL_one]; exact h2
  have b02 : Below w.heap.size w w2 := b0'.trans (bw1.trans bw2)
  clear h2 h1 bw1 bw2 b0' cG HM
  go_wp2_with fail
  go_loopg [] (c - 1) (fun g wx => ∃ q : Nat, 1 ≤ q ∧ q + g = c ∧ BdF wx w.heap.size w.heap.size (Lib.repeatL s.data.toList q) ∧ Below w.heap.size w wx)
  case atStart => exact ⟨1, Nat.le_refl _, by omega, h2', b02⟩
  case round =>
    obtain ⟨q, hq1, hqg, hB, hbx⟩ := hrel
    obtain ⟨Q, hQ⟩ : ∃ Q, q * s.size = Q := ⟨_, rfl⟩
    have hlq : (Lib.byteCells (Lib.repeatL s.data.toList q)).length = Q := by rw [Lib.byteCells_length, Lib.repeatL_length, hz, hQ]
    have cLen := Tryd.Builder_Len_f w.heap.size w.heap.size _ wr hB
    rw [hlq] at cLen
    have hnc : c * s.size = n := by rw [Nat.mul_comm]; exact HN.out
    obtain ⟨S, hS⟩ : ∃ S : ByteArray, (⟨(Lib.repeatL s.data.toList q).toArray⟩ : ByteArray) = S := ⟨_, rfl⟩
    have hSd : S.data.toList = Lib.repeatL s.data.toList q := by rw [← hS]
    have hSz : S.size = Q := by
      have : S.data.toList.length = S.size := by simp
      rw [← this, hSd, Lib.repeatL_length, hz, hQ]
    have cStr := Tryd.Builder_String_any_f w.heap.size w.heap.size (Lib.repeatL s.data.toList q) wr hB hbx.size
    rw [hS] at cStr
    have CL := Lib.hid cLen
    have CS := Lib.hid cStr
    clear cLen cStr
    cases gk with
    | zero =>
      obtain rfl : q = c := by omega
      have hQn : ¬ ((Q : Int) < (n : Int)) := by omega
      have HS := Lib.hid hS
      clear hSd hS hlq hQ hnc
      go_wp2_with (first
        | (go_at_call 74; refine CL.out.mono ?_; rintro e w' ⟨rfl, hw⟩; rw [hw])
        | (go_at_call 48; refine CS.out.mono ?_; rintro e w3 ⟨rfl, h3, b3⟩))
      go_ret
      exact ⟨by rw [HS.out]; rfl, hbx.trans b3⟩
    | succ g =>
      have hqc : q < c := by omega
      obtain ⟨k, hk1, hkq, hkc, hmin⟩ := Lib.chunk_ok c q c s.size hq1 hqc (by omega)
      rw [hnc, hQ] at hmin
      obtain ⟨CH, hCH⟩ : ∃ CH, k * s.size = CH := ⟨_, rfl⟩
      rw [hCH] at hmin
      have hQn : (Q : Int) < (n : Int) := by
        have h1 : (q + 1) * s.size ≤ c * s.size := Nat.mul_le_mul_right _ hqc
        rw [Nat.succ_mul, hQ, hnc] at h1
        omega
      have hCHQ : CH ≤ Q := by rw [← hCH, ← hQ]; exact Nat.mul_le_mul_right _ hkq
      have hmin3 : ∀ (ts : Array TypeId) (t : TypeId) (W : World), (Builtin.min_ ts t #[.int .i64 ((n : Int) - (Q : Int)), .int .i64 (Q : Int), .int .i64 (n : Int)]).run Tryd.prog W = .ok (.int .i64 (CH : Int)) W := fun ts t W => by
        rw [min3]
        congr 2
        rw [← hmin]
        omega
      have HE := Lib.hid (show Lib.repeatL s.data.toList q ++ (S.extract 0 CH).data.toList = Lib.repeatL s.data.toList (q + k) by
        rw [extract_list, hSd]
        simp only [List.drop_zero, Nat.sub_zero]
        rw [← hCH, ← hz]
        exact Lib.step_ok _ _ _ hkq)
      have HW := Lib.hid (fun W (h : BdF W w.heap.size w.heap.size (Lib.repeatL s.data.toList q)) => writeStringF_any w.heap.size w.heap.size _ (S.extract 0 CH) W h (by
        rw [Lib.repeatL_length, hz, hQ, ByteArray.size_extract]
        omega))
      clear hmin hSd hS hlq hQ hnc hCH
      go_wp2_with (first
        | (go_at_call 74; refine CL.out.mono ?_; rintro e w' ⟨rfl, hw⟩; rw [hw])
        | (go_at_call 48; refine CS.out.mono ?_; rintro e w3 ⟨rfl, h3, b3⟩)
        | (go_at_call 47; refine (HW.out _ h3).mono ?_; rintro e w4 ⟨rfl, h4, b4⟩))
      go_roundg (c - (q + k))
      case measure => omega
      case rel =>
        rw [HE.out] at h4
        exact ⟨q + k, by omega, by omega, h4, hbx.trans (b3.trans b4)⟩
set_option maxRecDepth 100000 in
set_option maxHeartbeats 4000000 in
/-- .. of the word that begins with a blank. -/
theorem repeat_blank (s : ByteArray) (c : Nat) (w : World) (hct : s.data.toList = [32, 52, 49]) (hc2 : 2 ≤ c) (hc : c ≤ 20) (hlen : s.size * c ≤ 8192) :
    Calls Tryd.prog 45 #[.string s, .int .i64 (c : Int)] w fun e w' => e = .returned (.string ⟨(Lib.repeatL s.data.toList c).toArray⟩) ∧ Below w.heap.size w w' := by
  have hz : s.data.toList.length = s.size := by simp
  have hpos : 0 < s.size := by rw [← hz, hct]; simp
  have hs9 : s.size ≤ 8192 := Nat.le_trans (Nat.le_mul_of_pos_right _ (by omega)) hlen
  have hc0 : s[0] = 32 := by
    have : s.data.toList[0]? = some 32 := by rw [hct]; rfl
    rw [List.getElem?_eq_getElem (by omega)] at this
    injection this
  have hMul := Tryd.bits_Mul s.size c (by omega) (by omega) w
  rw [Nat.div_eq_of_lt (by omega : s.size * c < 18446744073709551616), Nat.mod_eq_of_lt (by omega : s.size * c < 18446744073709551616)] at hMul
  obtain ⟨n, hn⟩ : ∃ n, s.size * c = n := ⟨_, rfl⟩
  rw [hn] at hMul hlen
  have hs3 : s.size = 3 := by rw [← hz, hct]; rfl
  have hn64 : n ≤ 64 := by rw [hs3] at hn; omega
  clear hs3
  have HN := Lib.hid hn
  have HM := Lib.hid hMul
  have HPF := Lib.hid (fun (K : List UInt8) (hK : K[1]? = K[2]?) => show Lib.hasPrefix K s.data.toList = false by
    rw [hct]
    cases K with
    | nil => rfl
    | cons a K => cases K with
      | nil => simp [Lib.hasPrefix, List.isPrefixOf]
      | cons b K => cases K with
        | nil => simp [Lib.hasPrefix, List.isPrefixOf]
        | cons c' K =>
          simp only [List.getElem?_cons_succ, List.getElem?_cons_zero, Option.some.injEq] at hK
          subst hK
          simp only [Lib.hasPrefix, List.isPrefixOf, Bool.and_eq_false_iff, beq_eq_false_iff_ne]
          by_cases hb : b = 52
          · exact .inr (.inr (.inl (by rw [hb]; decide)))
          · exact .inr (.inl (fun e => hb e.symm)))
  clear hn hMul hct
  have b0' : Below w.heap.size w (w.alloc (.cells #[.pointer none, .slice none 0 0] 85)) := (Below.refl _ w).alloc (Nat.le_refl _) _
  have cG := Lib.hid (Tryd.Builder_Grow_fresh w.heap.size w.heap.size n (w.alloc (.cells #[.pointer none, .slice none 0 0] 85)) (Nat.le_refl _) (heap_alloc_new w _) b0'.size (by omega))
  go_enter Tryd.func45, Tryd.ntmps45
  go_wp2_with (first
    | (go_at_call 71; refine HM.out.mono ?_; rintro e w1 ⟨rfl, hw⟩; rw [hw])
    | (go_at_call 72; refine (Tryd.strings_HasPrefix _ s _).mono ?_; rintro e w1 ⟨rfl, hw⟩; rw [hw, HPF.out _ (by rfl)])
    | (go_at_call 73; refine cG.out.mono ?_; rintro e w1 ⟨rfl, h1, bw1⟩))
  refine (writeStringF_any w.heap.size w.heap.size [] s w1 (Lib.IsBuilderF.of (.inr h1)) (by simp; omega)).mono ?_
  rintro e w2 ⟨rfl, h2, bw2⟩
  rw [List.nil_append] at h2
  have h2' : BdF w2 w.heap.size w.heap.size (Lib.repeatL s.data.toList 1) := by rw [Lib.repeatL_one]; exact h2
  have b02 : Below w.heap.size w w2 := b0'.trans (bw1.trans bw2)
  clear h2 h1 bw1 bw2 b0' cG HM
  go_wp2_with fail
  go_loopg [] (c - 1) (fun g wx => ∃ q : Nat, 1 ≤ q ∧ q + g = c ∧ BdF wx w.heap.size w.heap.size (Lib.repeatL s.data.toList q) ∧ Below w.heap.size w wx)
  case atStart => exact ⟨1, Nat.le_refl _, by omega, h2', b02⟩
  case round =>
    obtain ⟨q, hq1, hqg, hB, hbx⟩ := hrel
    obtain ⟨Q, hQ⟩ : ∃ Q, q * s.size = Q := ⟨_, rfl⟩
    have hlq : (Lib.byteCells (Lib.repeatL s.data.toList q)).length = Q := by rw [Lib.byteCells_length, Lib.repeatL_length, hz, hQ]
    have cLen := Tryd.Builder_Len_f w.heap.size w.heap.size _ wr hB
    rw [hlq] at cLen
    have hnc : c * s.size = n := by rw [Nat.mul_comm]; exact HN.out
    obtain ⟨S, hS⟩ : ∃ S : ByteArray, (⟨(Lib.repeatL s.data.toList q).toArray⟩ : ByteArray) = S := ⟨_, rfl⟩
    have hSd : S.data.toList = Lib.repeatL s.data.toList q := by rw [← hS]
    have hSz : S.size = Q := by
      have : S.data.toList.length = S.size := by simp
      rw [← this, hSd, Lib.repeatL_length, hz, hQ]
    have cStr := Tryd.Builder_String_any_f w.heap.size w.heap.size (Lib.repeatL s.data.toList q) wr hB hbx.size
    rw [hS] at cStr
    have CL := Lib.hid cLen
    have CS := Lib.hid cStr
    clear cLen cStr
    cases gk with
    | zero =>
      obtain rfl : q = c := by omega
      have hQn : ¬ ((Q : Int) < (n : Int)) := by omega
      have HS := Lib.hid hS
      clear hSd hS hlq hQ hnc
      go_wp2_with (first
        | (go_at_call 74; refine CL.out.mono ?_; rintro e w' ⟨rfl, hw⟩; rw [hw])
        | (go_at_call 48; refine CS.out.mono ?_; rintro e w3 ⟨rfl, h3, b3⟩))
      go_ret
      exact ⟨by rw [HS.out]; rfl, hbx.trans b3⟩
    | succ g =>
      have hqc : q < c := by omega
      obtain ⟨k, hk1, hkq, hkc, hmin⟩ := Lib.chunk_ok c q c s.size hq1 hqc (by omega)
      rw [hnc, hQ] at hmin
      obtain ⟨CH, hCH⟩ : ∃ CH, k * s.size = CH := ⟨_, rfl⟩
      rw [hCH] at hmin
      have hQn : (Q : Int) < (n : Int) := by
        have h1 : (q + 1) * s.size ≤ c * s.size := Nat.mul_le_mul_right _ hqc
        rw [Nat.succ_mul, hQ, hnc] at h1
        omega
      have hCHQ : CH ≤ Q := by rw [← hCH, ← hQ]; exact Nat.mul_le_mul_right _ hkq
      have hmin3 : ∀ (ts : Array TypeId) (t : TypeId) (W : World), (Builtin.min_ ts t #[.int .i64 ((n : Int) - (Q : Int)), .int .i64 (Q : Int), .int .i64 (n : Int)]).run Tryd.prog W = .ok (.int .i64 (CH : Int)) W := fun ts t W => by
        rw [min3]
        congr 2
        rw [← hmin]
        omega
      have HE := Lib.hid (show Lib.repeatL s.data.toList q ++ (S.extract 0 CH).data.toList = Lib.repeatL s.data.toList (q + k) by
        rw [extract_list, hSd]
        simp only [List.drop_zero, Nat.sub_zero]
        rw [← hCH, ← hz]
        exact Lib.step_ok _ _ _ hkq)
      have HW := Lib.hid (fun W (h : BdF W w.heap.size w.heap.size (Lib.repeatL s.data.toList q)) => writeStringF_any w.heap.size w.heap.size _ (S.extract 0 CH) W h (by
        rw [Lib.repeatL_length, hz, hQ, ByteArray.size_extract]
        omega))
      clear hmin hSd hS hlq hQ hnc hCH
      go_wp2_with (first
        | (go_at_call 74; refine CL.out.mono ?_; rintro e w' ⟨rfl, hw⟩; rw [hw])
        | (go_at_call 48; refine CS.out.mono ?_; rintro e w3 ⟨rfl, h3, b3⟩)
        | (go_at_call 47; refine (HW.out _ h3).mono ?_; rintro e w4 ⟨rfl, h4, b4⟩))
      go_roundg (c - (q + k))
      case measure => omega
      case rel =>
        rw [HE.out] at h4
        exact ⟨q + k, by omega, by omega, h4, hbx.trans (b3.trans b4)⟩
theorem repeat_any (s : ByteArray) (c : Nat) (b0 : UInt8) (tl : List UInt8) (w : World) (hct : s.data.toList = b0 :: tl) (hne : s.data.toList = [32, 52, 49] ∧ c ≤ 20 ∨ b0 ≠ 32 ∧ b0 ≠ 45 ∧ b0 ≠ 48 ∧ b0 ≠ 61 ∧ b0 ≠ 9) (hc : c ≤ 64) (hlen : s.size * c ≤ 8192) :
    Calls Tryd.prog 45 #[.string s, .int .i64 (c : Int)] w fun e w' => e = .returned (.string ⟨(Lib.repeatL s.data.toList c).toArray⟩) ∧ Below w.heap.size w w' := by
  rcases Nat.lt_or_ge c 2 with h2 | h2
  · have : c = 0 ∨ c = 1 := by omega
    rcases this with rfl | rfl
    · refine (repeat_zero s w).mono ?_
      rintro e w' ⟨rfl, hk⟩
      exact ⟨rfl, hk.below⟩
    · refine (repeat_one s w).mono ?_
      rintro e w' ⟨rfl, hk⟩
      exact ⟨by rw [Lib.repeatL_one], hk.below⟩
  · rcases hne with ⟨h, h20⟩ | ⟨h1, h2', h3, h4, h5⟩
    · exact repeat_blank s c w h h2 h20 hlen
    · have n : ∀ (k : UInt8), b0 ≠ k → ((b0.toNat : Int) == (k.toNat : Int)) = false := fun k h => beq_eq_false_iff_ne.2 (fun e => h (UInt8.toNat_inj.1 (by omega)))
      exact repeat_many s c b0 tl w hct ⟨n 32 h1, n 45 h2', n 48 h3, n 61 h4, n 9 h5⟩ h2 hc hlen
end Go.Proofs.YtobofhiakgohfaaDoor
