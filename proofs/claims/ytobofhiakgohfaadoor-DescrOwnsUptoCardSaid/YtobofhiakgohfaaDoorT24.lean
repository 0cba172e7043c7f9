/- the printer's lists of items: items of the program, listFits of the document. -/
import Derived.Test.YtobofhiakgohfaaDoorT23
set_option linter.unusedVariables false
set_option linter.unusedSimpArgs false
namespace Go.Proofs.YtobofhiakgohfaaDoor
open Go.RowKit

/-- The cells of a row of items. -/
def icell (x : ItemD) : List Value := [.string x.nm, .int .i64 x.lo, .int .i64 x.hi, .int .i64 x.pl]
def icells (l : List ItemD) : List Value := l.flatMap icell
theorem icells_length (l : List ItemD) : (icells l).length = l.length * 4 := by
  induction l with
  | nil => rfl
  | cons a t ih => simp only [icells, List.flatMap_cons, List.length_append, List.length_cons] at ih ⊢; rw [ih]; simp [icell]; omega
theorem icells_get : ∀ (l : List ItemD) (j : Nat) (t : ItemD), l[j]? = some t → (icells l)[j * 4]? = some (.string t.nm) ∧ (icells l)[j * 4 + 1]? = some (.int .i64 t.lo) ∧ (icells l)[j * 4 + 2]? = some (.int .i64 t.hi) ∧ (icells l)[j * 4 + 3]? = some (.int .i64 t.pl)
  | [], j, t, h => by simp at h
  | a :: r, 0, t, h => by simp at h; subst h; exact ⟨rfl, rfl, rfl, rfl⟩
  | a :: r, j + 1, t, h => by
    have ih := icells_get r j t (by simpa using h)
    have e : ∀ i, (icells (a :: r))[i + 4]? = (icells r)[i]? := fun i => by
      show (icell a ++ icells r)[i + 4]? = _
      rw [List.getElem?_append_right (by simp [icell])]
      simp [icell]
    rw [show (j + 1) * 4 = j * 4 + 4 by omega, show j * 4 + 4 + 1 = (j * 4 + 1) + 4 by omega, show j * 4 + 4 + 2 = (j * 4 + 2) + 4 by omega, show j * 4 + 4 + 3 = (j * 4 + 3) + 4 by omega, e, e, e, e]
    exact ih
theorem icells_one (l : List ItemD) : ∀ u ∈ icells l, u.oneCell' = true := by
  intro u hu
  simp only [icells, List.mem_flatMap, icell] at hu
  obtain ⟨t, _, h⟩ := hu
  simp at h
  rcases h with rfl | rfl | rfl | rfl <;> rfl
theorem add_three (a : Addr) : a.add 3 = ⟨a.block, a.off + 3, none⟩ := rfl
theorem Reads.item {w : World} {B : Nat} {A : Option Addr} {l : List ItemD} (h : Reads w B 4 A l.length (icells l)) {j : Nat} (hj : j < l.length) :
    ∃ ad, A = some ad ∧ ad.block < B ∧ w.cell? (ad.add (j * 4)) = some (.string l[j].nm) ∧ w.cell? ⟨(ad.add (j * 4)).block, (ad.add (j * 4)).off + 1, none⟩ = some (.int .i64 l[j].lo) ∧ w.cell? ⟨(ad.add (j * 4)).block, (ad.add (j * 4)).off + 2, none⟩ = some (.int .i64 l[j].hi) ∧ w.cell? ⟨(ad.add (j * 4)).block, (ad.add (j * 4)).off + 3, none⟩ = some (.int .i64 l[j].pl) := by
  obtain ⟨ad, e, hb, hc⟩ := h.2 (by omega)
  obtain ⟨h0, h1, h2, h3⟩ := icells_get l j _ (List.getElem?_eq_getElem hj)
  refine ⟨ad, e, hb, hc _ _ h0, ?_, ?_, ?_⟩
  · have := hc _ _ h1
    rw [← add_of_add, add_one] at this
    exact this
  · have := hc _ _ h2
    rw [← add_of_add, add_two] at this
    exact this
  · have := hc _ _ h3
    rw [← add_of_add, add_three] at this
    exact this

/-- A slice of items. -/
def ItemsV (w : World) (B : Nat) (v : Value) (l : List ItemD) : Prop :=
  ∃ A c, v = .slice A l.length c ∧ l.length ≤ c ∧ c ≤ 9223372036854775807 ∧ l.length ≤ 1048576 ∧ Reads w B 4 A l.length (icells l) ∧ ∀ x ∈ l, x.nm.size ≤ 1048576

set_option maxRecDepth 100000 in
set_option maxHeartbeats 4000000 in
theorem listFits_any (w : World) (B : Nat) (v : Value) (l : List ItemD) (hv : ItemsV w B v l) (hB : B ≤ w.heap.size) (most : Nat) (hm : most ≤ 1048576) :
    Calls Tryd.prog 77 #[v, .int .i64 (most : Int)] w fun e w' => e = .returned (.bool (fitsB most l)) ∧ K0 w w' := by
  obtain ⟨A, cp, rfl, hcp, hcp2, hl, hr, hnm⟩ := hv
  by_cases h1 : l.length < 1
  · have hF : fitsB most l = false := by unfold fitsB; rw [decide_eq_false (by omega)]; rfl
    rw [hF]
    clear hF
    go_enter Tryd.func77, Tryd.ntmps77
    go_wp2
    go_ret
    exact ⟨rfl, Kp.refl _ _⟩
  by_cases h2 : most < l.length
  · have hF : fitsB most l = false := by unfold fitsB; rw [decide_eq_false (show ¬ l.length ≤ most by omega), Bool.and_false]; rfl
    rw [hF]
    clear hF
    go_enter Tryd.func77, Tryd.ntmps77
    go_wp2
    go_ret
    exact ⟨rfl, Kp.refl _ _⟩
  have hF : fitsB most l = l.all fitB := by unfold fitsB; rw [decide_eq_true (by omega), decide_eq_true (by omega)]; rfl
  rw [hF]
  obtain ⟨R, hR⟩ : ∃ R, R = l.all fitB := ⟨_, rfl⟩
  rw [← hR]
  have HR := Lib.hid hR
  have HNM := Lib.hid hnm
  clear hF hR hnm
  go_enter Tryd.func77, Tryd.ntmps77
  go_wp2
  go_loopw [5] (fun i wr => ∃ q : Nat, q ≤ l.length ∧ i = .int .i64 (q : Int) ∧ K0 w wr ∧ Hid (∀ j (h : j < l.length), j < q → fitB l[j] = true)) (fun i wr => l.length - (intOf i).toNat)
  case atStart => exact ⟨0, by omega, rfl, Kp.refl _ _, Lib.hid (fun j h h' => absurd h' (by omega))⟩
  case round =>
    obtain ⟨q, hq, rfl, hk, hall⟩ := hrel
    by_cases hlt : q < l.length
    · obtain ⟨ad, rfl, hbl, r0, r1, r2, r3⟩ := (hr.k0 hB hk).item hlt
      have hx := HNM.out _ (List.getElem_mem hlt)
      obtain ⟨x, hxe⟩ : ∃ x, x = l[q] := ⟨_, rfl⟩
      rw [← hxe] at r0 r1 r2 r3 hx
      have IF := Lib.hid (fun W => itemFits_any x W (by omega))
      have HXE := Lib.hid hxe
      clear hxe
      cases hf : fitB x with
      | true =>
        rw [hf] at IF
        have hn := fun j (h : j < l.length) (h' : j < q + 1) => show fitB l[j] = true by
          by_cases hj : j < q
          · exact hall.out j h hj
          · obtain rfl : j = q := by omega
            rw [← HXE.out]; exact hf
        have HN := Lib.hid hn
        clear hn hf
        go_wp2_with (go_at_call 104; refine (IF.out _).mono ?_; rintro e w1 ⟨rfl, hk1⟩)
        exact ⟨⟨q + 1, by omega, by go_num, hk.trans hk1, HN⟩, by simp [intOf]; omega⟩
      | false =>
        rw [hf] at IF
        have hres : R = false := by
          rw [HR.out]
          cases hx2 : l.all fitB
          · rfl
          · have := List.all_eq_true.1 hx2 _ (List.getElem_mem hlt)
            rw [← HXE.out, hf] at this
            cases this
        subst hres
        clear hf
        go_wp2_with (go_at_call 104; refine (IF.out _).mono ?_; rintro e w1 ⟨rfl, hk1⟩)
        go_ret
        exact ⟨rfl, hk.trans hk1⟩
    · obtain rfl : q = l.length := by omega
      have hres : R = true := by
        rw [HR.out, List.all_eq_true]
        intro x hx
        obtain ⟨j, hj, rfl⟩ := List.getElem_of_mem hx
        exact hall.out j hj hj
      subst hres
      go_wp2
      go_ret
      exact ⟨rfl, hk⟩

theorem BdV.k0 {w w' : World} {B b : Nat} {l : List UInt8} (h : BdV w B b l) (hk : K0 w w') : BdV w' B b l := by
  rcases h with ⟨hB, v, hb, ho, hne⟩ | ⟨hB, v, hb, ho, hne⟩
  · exact .inl ⟨hB, v, Blk.kp hb hk (fun h => h), own_kp ho hk (fun _ _ h => h), hne⟩
  · exact .inr ⟨hB, v, Blk.kp hb hk (fun h => h), own_kp ho hk (fun _ _ h => h), hne⟩

set_option maxRecDepth 100000 in
set_option maxHeartbeats 8000000 in
theorem items_any (w : World) (B : Nat) (v : Value) (l : List ItemD) (hv : ItemsV w B v l) (hB : B ≤ w.heap.size) (most : Nat) (hm : most ≤ 1048576) :
    Calls Tryd.prog 46 #[v, .int .i64 (most : Int)] w fun e w' => e = .returned (.tuple #[.string ⟨(txtPs l).toArray⟩, .bool (fitsB most l)]) ∧ K0 w w' := by
  obtain ⟨A, cp, rfl, hcp, hcp2, hl, hr, hnm⟩ := hv
  rcases Nat.eq_zero_or_pos l.length with h1 | h1
  · obtain rfl : l = [] := List.eq_nil_of_length_eq_zero h1
    clear h1 hl hr hnm
    go_enter Tryd.func46, Tryd.ntmps46
    go_wp2
    go_loopw [7, 22] (fun ok i wr => i = .int .i64 0 ∧ ok = .bool false ∧ BdV wr w.heap.size w.heap.size [] ∧ Below w.heap.size w wr) (fun ok i wr => 0)
    case atStart => exact ⟨rfl, rfl, bd_new w _ (Nat.le_refl _), (Below.refl _ _).alloc (Nat.le_refl _) _⟩
    case round =>
      obtain ⟨rfl, rfl, hbd, hk⟩ := hrel
      go_wp2_with fail
      refine (Tryd.Builder_String_any _ _ _ _ hbd hk.size).mono ?_
      rintro e w2 ⟨rfl, hk2⟩
      go_wp2
      go_ret2
      exact ⟨rfl, Kp.of_below (hk.trans hk2)⟩
  obtain ⟨b0, hb0, hcase⟩ : ∃ b0, b0 = (decide (0 < l.length) && decide (l.length ≤ most)) ∧ ((b0 = true ∧ 0 < l.length ∧ decide (l.length ≤ most) = true) ∨ (b0 = false ∧ 0 < l.length ∧ decide (l.length ≤ most) = false)) := by
    refine ⟨_, rfl, ?_⟩
    by_cases h2 : l.length ≤ most
    · exact .inl ⟨by simp [h1, h2], h1, decide_eq_true h2⟩
    · exact .inr ⟨by simp [h2], h1, decide_eq_false h2⟩
  have hF : fitsB most l = (b0 && l.all fitB) := by unfold fitsB; rw [hb0]
  rw [hF]
  obtain ⟨R, hR⟩ : ∃ R, R = (b0 && l.all fitB) := ⟨_, rfl⟩
  rw [← hR]
  have HR := Lib.hid hR
  have HNM := Lib.hid hnm
  clear hF hR hnm hb0
  rcases hcase with ⟨rfl, c1, c2⟩ | ⟨rfl, c1, c2⟩
  all_goals
    go_enter Tryd.func46, Tryd.ntmps46
    go_wp2
    go_loopw [7, 22] (fun ok i wr => ∃ (q : Nat) (b : Bool), q ≤ l.length ∧ i = .int .i64 (q : Int) ∧ ok = .bool b ∧ Hid (R = (b && (l.drop q).all fitB)) ∧ BdV wr w.heap.size w.heap.size (txtPs (l.take q)) ∧ Below w.heap.size w wr) (fun ok i wr => l.length - (intOf i).toNat)
    case atStart => exact ⟨0, _, by omega, rfl, rfl, Lib.hid (by rw [List.drop_zero]; exact HR.out), bd_new w _ (Nat.le_refl _), (Below.refl _ _).alloc (Nat.le_refl _) _⟩
    case round =>
      obtain ⟨q, b, hq, rfl, rfl, hres, hbd, hk⟩ := hrel
      by_cases hlt : q < l.length
      · obtain ⟨ad, rfl, hbl, r0, r1, r2, r3⟩ := (hr.below (hk.mono hB)).item hlt
        have hx := HNM.out _ (List.getElem_mem hlt)
        have hd : l.drop q = l[q] :: l.drop (q + 1) := List.drop_eq_getElem_cons hlt
        have ht : txtPs (l.take (q + 1)) = txtPs (l.take q) ++ 32 :: txtP l[q] := by
          rw [List.take_add_one, List.getElem?_eq_getElem hlt]; exact txtPs_snoc _ _
        have hln : (txtPs (l.take q)).length ≤ 17 * 1048576 := by
          have := txtPs_len (l.take q); rw [List.length_take] at this; omega
        obtain ⟨x, hxe⟩ : ∃ x, x = l[q] := ⟨_, rfl⟩
        rw [← hxe] at r0 r1 r2 r3 hx hd ht
        have IF := Lib.hid (fun W => itemP_any x W (by omega))
        have hres2 : R = (b && fitB x && (l.drop (q + 1)).all fitB) := by
          rw [hres.out, hd, List.all_cons, Bool.and_assoc]
        have hxl := txtP_len x
        have hne : ((⟨(txtP x).toArray⟩ : ByteArray).toList.isEmpty) = !(fitB x) := by
          rw [ByteArray.toList_eq]
          cases hf : fitB x
          · have : txtP x = [] := by unfold txtP; rw [hf]; rfl
            rw [this]; rfl
          · have := (txtP_ne x).2 hf
            cases ht2 : txtP x with
            | nil => exact absurd ht2 this
            | cons a t => rfl
        obtain ⟨sx, hsx⟩ : ∃ sx : ByteArray, (⟨(txtP x).toArray⟩ : ByteArray) = sx := ⟨_, rfl⟩
        have hsl : sx.data.toList = txtP x := by rw [← hsx]
        rw [hsx] at IF hne
        obtain ⟨sy, hsy⟩ : ∃ sy : ByteArray, (⟨#[32]⟩ : ByteArray) ++ sx = sy := ⟨_, rfl⟩
        have hyl : sy.data.toList = 32 :: txtP x := by rw [← hsy, ← hsl]; simp
        have hyz : sy.size ≤ 17 := by
          have : sy.data.toList.length = sy.size := by simp
          rw [hyl, List.length_cons] at this; omega
        have hxz : sx.size ≤ 16 := by
          have : sx.data.toList.length = sx.size := by simp
          rw [hsl] at this; omega
        have HT := Lib.hid ht
        have HRS := Lib.hid hres2
        have HYL := Lib.hid hyl
        clear hres hres2 hd ht hxe hsl hsx hyl hxl
        cases b
        all_goals
          cases hf : fitB x
          all_goals
            rw [hf] at hne HRS
            clear hf
            go_wp2_with fail
            refine (IF.out _).mono ?_
            rintro e w1 ⟨rfl, hk1⟩
            have kA : K0 wr w1 := ((Kp.refl _ wr).alloc _).trans hk1
            have hbd1 := hbd.k0 kA
            go_wp2_with fail
            refine (writeString_any _ _ _ sy _ hbd1 (by omega)).mono ?_
            rintro e w2 ⟨rfl, hbd2, hk2⟩
            rw [HYL.out, ← HT.out] at hbd2
            go_wp2
            exact ⟨⟨q + 1, _, by omega, by go_num, rfl, Lib.hid HRS.out, hbd2, (hk.trans (kA.below.mono hk.size)).trans hk2⟩, by simp [intOf]; omega⟩
      · obtain rfl : q = l.length := by omega
        rw [List.take_length] at hbd
        have hfin := hres.out
        rw [List.drop_length, List.all_nil, Bool.and_true] at hfin
        subst hfin
        go_wp2_with fail
        refine (Tryd.Builder_String_any _ _ _ _ hbd hk.size).mono ?_
        rintro e w2 ⟨rfl, hk2⟩
        go_wp2
        go_ret2
        exact ⟨rfl, Kp.of_below (hk.trans hk2)⟩
end Go.Proofs.YtobofhiakgohfaaDoor
