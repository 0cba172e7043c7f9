/- Descriptions in memory; the document's Decimal and list. The document's list of items. The document's Fits. -/
import Derived.Test.YtobofhiakgohfaaDoorT24
import Derived.Test.YtobofhiakgohfaaDoorPB
import Derived.Test.YtobofhiakgohfaaDoorO0
import Derived.Test.YtobofhiakgohfaaDoorTD
set_option linter.unusedVariables false
set_option linter.unusedSimpArgs false
namespace Go.Proofs.YtobofhiakgohfaaDoor
open Go.RowKit

/-! ## Rows of three cells -/
def tris {α : Type} (f : α → Value × Value × Value) (l : List α) : List Value := l.flatMap fun x => [(f x).1, (f x).2.1, (f x).2.2]
theorem tris_length {α : Type} (f : α → Value × Value × Value) (l : List α) : (tris f l).length = l.length * 3 := by
  induction l with
  | nil => rfl
  | cons a t ih => simp only [tris, List.flatMap_cons, List.length_append, List.length_cons, List.length_nil] at ih ⊢; rw [ih]; omega
theorem tris_append {α : Type} (f : α → Value × Value × Value) (a b : List α) : tris f (a ++ b) = tris f a ++ tris f b := by simp [tris]
theorem tris_get {α : Type} (f : α → Value × Value × Value) : ∀ (l : List α) (j : Nat) (t : α), l[j]? = some t → (tris f l)[j * 3]? = some (f t).1 ∧ (tris f l)[j * 3 + 1]? = some (f t).2.1 ∧ (tris f l)[j * 3 + 2]? = some (f t).2.2
  | [], j, t, h => by simp at h
  | a :: r, 0, t, h => by simp at h; subst h; exact ⟨rfl, rfl, rfl⟩
  | a :: r, j + 1, t, h => by
    have ih := tris_get f r j t (by simpa using h)
    have e : ∀ i, (tris f (a :: r))[i + 3]? = (tris f r)[i]? := fun i => by
      show ([(f a).1, (f a).2.1, (f a).2.2] ++ tris f r)[i + 3]? = _
      rw [List.getElem?_append_right (by simp)]
      simp
    rw [show (j + 1) * 3 = j * 3 + 3 by omega, show j * 3 + 3 + 1 = (j * 3 + 1) + 3 by omega, show j * 3 + 3 + 2 = (j * 3 + 2) + 3 by omega, e, e, e]
    exact ih
theorem Reads.tri {α : Type} {f : α → Value × Value × Value} {w : World} {B : Nat} {A : Option Addr} {l : List α} (h : Reads w B 3 A l.length (tris f l)) {j : Nat} (hj : j < l.length) :
    ∃ ad, A = some ad ∧ ad.block < B ∧ w.cell? (ad.add (j * 3)) = some (f l[j]).1 ∧ w.cell? ⟨(ad.add (j * 3)).block, (ad.add (j * 3)).off + 1, none⟩ = some (f l[j]).2.1 ∧ w.cell? ⟨(ad.add (j * 3)).block, (ad.add (j * 3)).off + 2, none⟩ = some (f l[j]).2.2 := by
  obtain ⟨ad, e, hb, hc⟩ := h.2 (by omega)
  obtain ⟨h0, h1, h2⟩ := tris_get f l j _ (List.getElem?_eq_getElem hj)
  refine ⟨ad, e, hb, hc _ _ h0, ?_, ?_⟩
  · have := hc _ _ h1
    rw [← add_of_add, add_one] at this
    exact this
  · have := hc _ _ h2
    rw [← add_of_add, add_two] at this
    exact this

/-! ## Descriptions -/
def ctri (x : ClassD × Value) : Value × Value × Value := (.string x.1.nm, x.2, .int .i64 x.1.pl)
def stri (x : ShapeD × Value) : Value × Value × Value := (x.2, .int .i64 x.1.first, .int .i64 x.1.pl)
/-- A slice of classes. -/
def ClsV (w : World) (B : Nat) (v : Value) (l : List ClassD) : Prop :=
  ∃ (p : List (ClassD × Value)) (A : Option Addr) (c : Nat), p.map Prod.fst = l ∧ v = .slice A p.length c ∧ p.length ≤ c ∧ c ≤ 9223372036854775807 ∧ p.length ≤ 1048576 ∧ Reads w B 3 A p.length (tris ctri p) ∧ ∀ x ∈ p, ItemsV w B x.2 x.1.its ∧ x.1.nm.size ≤ 1048576
/-- A slice of shapes. -/
def ShsV (w : World) (B : Nat) (v : Value) (l : List ShapeD) : Prop :=
  ∃ (p : List (ShapeD × Value)) (A : Option Addr) (c : Nat), p.map Prod.fst = l ∧ v = .slice A p.length c ∧ p.length ≤ c ∧ c ≤ 9223372036854775807 ∧ p.length ≤ 1048576 ∧ Reads w B 3 A p.length (tris stri p) ∧ ∀ x ∈ p, ItemsV w B x.2 x.1.its ∧ -9223372036854775808 ≤ x.1.first ∧ x.1.first ≤ 9223372036854775807
/-- A description. -/
def DescV (w : World) (B : Nat) (v : Value) (d : DescD) : Prop := ∃ vc vs, v = .agg #[vc, vs] ∧ ClsV w B vc d.cls ∧ ShsV w B vs d.shs

theorem ItemsV.keep {w w' : World} {B B' : Nat} {v : Value} {l : List ItemD} (h : ItemsV w B v l) (hB : B ≤ B') (hk : ∀ p : Addr, p.block < B → w'.cell? p = w.cell? p) : ItemsV w' B' v l := by
  obtain ⟨A, c, e, h1, h2, h3, h4, h5⟩ := h
  exact ⟨A, c, e, h1, h2, h3, (h4.keep hk).more hB, h5⟩
theorem ClsV.keep {w w' : World} {B B' : Nat} {v : Value} {l : List ClassD} (h : ClsV w B v l) (hB : B ≤ B') (hk : ∀ p : Addr, p.block < B → w'.cell? p = w.cell? p) : ClsV w' B' v l := by
  obtain ⟨p, A, c, e0, e, h1, h2, h3, h4, h5⟩ := h
  exact ⟨p, A, c, e0, e, h1, h2, h3, (h4.keep hk).more hB, fun x hx => ⟨(h5 x hx).1.keep hB hk, (h5 x hx).2⟩⟩
theorem ShsV.keep {w w' : World} {B B' : Nat} {v : Value} {l : List ShapeD} (h : ShsV w B v l) (hB : B ≤ B') (hk : ∀ p : Addr, p.block < B → w'.cell? p = w.cell? p) : ShsV w' B' v l := by
  obtain ⟨p, A, c, e0, e, h1, h2, h3, h4, h5⟩ := h
  exact ⟨p, A, c, e0, e, h1, h2, h3, (h4.keep hk).more hB, fun x hx => ⟨(h5 x hx).1.keep hB hk, (h5 x hx).2⟩⟩
theorem DescV.keep {w w' : World} {B B' : Nat} {v : Value} {d : DescD} (h : DescV w B v d) (hB : B ≤ B') (hk : ∀ p : Addr, p.block < B → w'.cell? p = w.cell? p) : DescV w' B' v d := by
  obtain ⟨vc, vs, e, h1, h2⟩ := h
  exact ⟨vc, vs, e, h1.keep hB hk, h2.keep hB hk⟩
theorem ItemsV.below {w w' : World} {B : Nat} {v : Value} {l : List ItemD} (h : ItemsV w B v l) (hk : Below B w w') : ItemsV w' B v l := h.keep (Nat.le_refl _) fun _ hp => hk.cell hp
theorem ItemsV.k0 {w w' : World} {B : Nat} {v : Value} {l : List ItemD} (h : ItemsV w B v l) (hB : B ≤ w.heap.size) (hk : K0 w w') : ItemsV w' B v l := h.keep (Nat.le_refl _) fun _ hp => hk.cell (by omega) (fun h => h)
theorem DescV.k0 {w w' : World} {B : Nat} {v : Value} {d : DescD} (h : DescV w B v d) (hB : B ≤ w.heap.size) (hk : K0 w w') : DescV w' B v d := h.keep (Nat.le_refl _) fun _ hp => hk.cell (by omega) (fun h => h)
theorem DescV.below {w w' : World} {B : Nat} {v : Value} {d : DescD} (h : DescV w B v d) (hk : Below B w w') : DescV w' B v d := h.keep (Nat.le_refl _) fun _ hp => hk.cell hp

/-! ## Decimal -/
theorem dec_str (s : List UInt8) (c : UInt8) : (⟨#[c]⟩ ++ ⟨s.toArray⟩ : ByteArray) = ⟨(c :: s).toArray⟩ := by
  refine ba_ext ?_
  simp

set_option maxRecDepth 100000 in
set_option maxHeartbeats 4000000 in
theorem decimal_any (n : Int) (w : World) (h0 : 0 ≤ n) (h1 : n ≤ 999999999) : Calls Tryd.prog 51 #[.int .i64 n] w fun e w' => e = .returned (.string ⟨(Lib.itoa n).toArray⟩) ∧ K0 w w' := by
  obtain ⟨u, hu⟩ := Int.eq_ofNat_of_zero_le h0
  have hu2 : n = (u : Int) := hu
  subst hu2
  rw [itoa_pos]
  have hul : (Lib.decDigits u).length ≤ 9 := (dec_length u).2 (by omega)
  have hdl := decUp_last u
  obtain ⟨D, hD⟩ : ∃ D, D = Lib.decDigits u := ⟨_, rfl⟩
  rw [← hD] at hul hdl ⊢
  clear hD
  have hc : ∀ m : Nat, 48 + (m : Int) % 10 = ((UInt8.ofNat (48 + m % 10)).toNat : Int) := by intro m; simp; omega
  obtain ⟨c, hce⟩ : ∃ c, c = UInt8.ofNat (48 + u % 10) := ⟨_, rfl⟩
  have hc0 := hc u
  rw [← hce] at hc0
  have HC := Lib.hid hc
  have HL := Lib.hid (show D = decUp u ++ [c] by rw [hce]; exact hdl)
  clear hc hce hdl
  have cv := conv_str (P := Tryd.prog) (w := w.alloc (.cells #[.int .u8 (c.toNat : Int)] 5)) 44 9 5 Tryd.underlying44 Tryd.underlying5 Tryd.underlying9 (l := [c]) (reads_lit w _ 1 5 rfl) rfl (c := 1)
  go_enter Tryd.func51, Tryd.ntmps51
  have hk1 : K0 w (w.alloc (.cells #[.int .u8 (c.toNat : Int)] 5)) := (Kp.refl _ _).alloc _
  go_wp2
  clear cv hc0
  go_loopw [0, 3] (fun n s wr => ∃ (m : Nat) (t : List UInt8), m ≤ 999999999 ∧ n = .int .i64 (m : Int) ∧ s = .string ⟨t.toArray⟩ ∧ t.length ≤ 9 ∧ Hid (D = decUp m ++ t) ∧ K0 w wr) (fun n s wr => (intOf n).toNat)
  case atStart => exact ⟨u, [c], by omega, rfl, rfl, by simp, HL, hk1⟩
  case round =>
    obtain ⟨m, t, hm, rfl, rfl, ht, hDm, hk⟩ := hrel
    by_cases hlt : m < 10
    · have hfin := hDm.out
      unfold decUp at hfin
      rw [if_pos hlt, List.nil_append] at hfin
      subst hfin
      go_wp2
      go_ret
      exact ⟨rfl, hk⟩
    · have hst := decUp_step hlt
      have hq : Int.tdiv (m : Int) 10 = ((m / 10 : Nat) : Int) := by rw [Int.tdiv_eq_ediv_of_nonneg (by omega)]; omega
      have hq9 : m / 10 < m := by omega
      generalize m / 10 = q at hst hq hq9
      have hc1 := HC.out q
      obtain ⟨d, hde⟩ : ∃ d, d = UInt8.ofNat (48 + q % 10) := ⟨_, rfl⟩
      rw [← hde] at hc1 hst
      have hD2 : D = decUp q ++ d :: t := by rw [hDm.out, hst, List.append_assoc]; rfl
      have HD2 := Lib.hid hD2
      clear hde hD2 hst
      have cv := conv_str (P := Tryd.prog) (w := wr.alloc (.cells #[.int .u8 (d.toNat : Int)] 5)) 44 9 5 Tryd.underlying44 Tryd.underlying5 Tryd.underlying9 (l := [d]) (reads_lit wr _ 1 5 rfl) rfl (c := 1)
      have ht2 : (d :: t).length ≤ 9 := by
        have := congrArg List.length HD2.out
        rw [List.length_append] at this
        omega
      have hds := dec_str t d
      go_wp2
      exact ⟨⟨q, d :: t, by omega, rfl, by rw [← hds], ht2, HD2, hk.alloc _⟩, by simp [intOf]; omega⟩
end Go.Proofs.YtobofhiakgohfaaDoor

namespace Go.Proofs.YtobofhiakgohfaaDoor
open Go.RowKit

theorem rdigits_lit (W : World) (b : Nat) (c : UInt8) (h : W.cell? ⟨b, 0, none⟩ = some (.int .u8 (c.toNat : Int))) : Calls Tryd.prog 39 #[.slice (some ⟨b, 0, none⟩) 1 1] W fun e w' => e = .returned (.string ⟨(digL [c]).toArray⟩) ∧ K0 W w' :=
  rdigits_any (some ⟨b, 0, none⟩) 1 [c] W ⟨rfl, fun _ => ⟨_, rfl, World.block_lt_of_cell? W _ h, fun j u hu => by
    cases j with
    | zero => cases hu; exact h
    | succ j => simp [bvs] at hu⟩⟩ (by simp)

theorem str_add (t s : List UInt8) : (⟨t.toArray⟩ ++ ⟨s.toArray⟩ : ByteArray) = ⟨(t ++ s).toArray⟩ := by
  refine ba_ext ?_
  simp
theorem str_add' (t : List UInt8) (s : ByteArray) : (⟨t.toArray⟩ ++ s : ByteArray) = ⟨(t ++ s.data.toList).toArray⟩ := by
  refine ba_ext ?_
  simp

set_option maxRecDepth 100000 in
set_option maxHeartbeats 8000000 in
theorem list2_any (w : World) (B : Nat) (v : Value) (l : List ItemD) (hv : ItemsV w B v l) (hB : B ≤ w.heap.size) (hf : l.all fitB = true) :
    Calls Tryd.prog 50 #[v] w fun e w' => e = .returned (.string ⟨(txtIs l).toArray⟩) ∧ K0 w w' := by
  obtain ⟨A, cp, rfl, hcp, hcp2, hl, hr, hnm⟩ := hv
  have hTl : (txtIs l).length ≤ 17 * 1048576 := by have := txtIs_len hf; omega
  obtain ⟨R, hR⟩ : ∃ R, R = txtIs l := ⟨_, rfl⟩
  rw [← hR] at hTl ⊢
  have HR := Lib.hid hR
  have HF := Lib.hid hf
  have DG := Lib.hid (fun W b c h => rdigits_lit W b c h)
  clear hf hR
  go_enter Tryd.func50, Tryd.ntmps50
  go_wp2
  go_loopw [3, 4] (fun s i wr => ∃ (q : Nat) (t : List UInt8), q ≤ l.length ∧ i = .int .i64 (q : Int) ∧ s = .string ⟨t.toArray⟩ ∧ t.length ≤ 17 * 1048576 ∧ Hid (R = t ++ txtIs (l.drop q)) ∧ K0 w wr) (fun s i wr => l.length - (intOf i).toNat)
  case atStart => exact ⟨0, [], by omega, rfl, rfl, by simp, Lib.hid HR.out, Kp.refl _ _⟩
  case round =>
    obtain ⟨q, t, hq, rfl, rfl, ht, hres, hk⟩ := hrel
    by_cases hlt : q < l.length
    · obtain ⟨ad, rfl, hbl, r0, r1, r2, r3⟩ := (hr.k0 hB hk).item hlt
      have hbl2 : ad.block < wr.heap.size := by have := hk.size; omega
      have hd : l.drop q = l[q] :: l.drop (q + 1) := List.drop_eq_getElem_cons hlt
      have hx := List.all_eq_true.1 HF.out _ (List.getElem_mem hlt)
      obtain ⟨⟨nm, lo, hi, pl⟩, hxe⟩ : ∃ x, x = l[q] := ⟨_, rfl⟩
      rw [← hxe] at r0 r1 r2 r3 hx hd
      simp only [] at r0 r1 r2 r3
      have hR2 : R = t ++ 32 :: (txtI ⟨nm, lo, hi, pl⟩ ++ txtIs (l.drop (q + 1))) := by rw [hres.out, hd]; simp [txtIs]
      have HR2 := Lib.hid hR2
      have hlen : t.length + 1 + (txtI ⟨nm, lo, hi, pl⟩).length ≤ 17 * 1048576 := by
        have := congrArg List.length hR2
        simp only [List.length_append, List.length_cons] at this
        omega
      clear hres hd hxe hR2
      by_cases h0 : nm.data.toList = []
      · have e0 : nm.toList.isEmpty = true := (empty_iff nm).2 h0
        have e1 : nm.size = 0 := by have : nm.data.toList.length = nm.size := by simp
                                    rw [h0] at this; simpa using this.symm
        have hF : 0 ≤ lo ∧ lo ≤ hi ∧ hi ≤ 255 := by unfold fitB at hx; rw [if_pos h0] at hx; exact of_decide_eq_true hx
        obtain ⟨f1, f2, f3⟩ := hF
        obtain ⟨cl, rfl, hcl⟩ := byte_of f1 (by omega)
        obtain ⟨ch, rfl, hch⟩ := byte_of (show 0 ≤ hi by omega) f3
        have hT : txtI ⟨nm, (cl.toNat : Int), (ch.toNat : Int), pl⟩ = digL [cl] ++ (if (cl.toNat : Int) < (ch.toNat : Int) then 45 :: digL [ch] else []) := by
          unfold txtI; rw [if_pos h0, hcl, hch]
        rw [hT] at hlen HR2
        have hl8 := cl.toNat_lt
        have hh8 := ch.toNat_lt
        have hw1 : IntKind.u8.wrap (cl.toNat : Int) = (cl.toNat : Int) := IntWalk.u8_in _ (by omega)
        have hw2 : IntKind.u8.wrap (ch.toNat : Int) = (ch.toNat : Int) := IntWalk.u8_in _ (by omega)
        have s1 := str_add t [32]
        have s2 := str_add (t ++ [32]) (digL [cl])
        have dl1 := digL_length [cl]
        have dl2 := digL_length [ch]
        simp only [List.length_singleton] at dl1 dl2
        clear hx h0 hT hcl hch
        by_cases hcc : cl.toNat < ch.toNat
        · rw [if_pos (show (cl.toNat : Int) < (ch.toNat : Int) by omega)] at hlen HR2
          go_wp2_with (go_at_call 39; refine (DG.out _ _ cl ?_).mono ?_; (focus (simp)); rintro e w5 ⟨rfl, hk5⟩)
          have k5 : K0 wr w5 := ((Kp.refl _ wr).alloc _).trans hk5
          have y1 := (k5.cell (p := ⟨(ad.add (q * 4)).block, (ad.add (q * 4)).off + 1, none⟩) (by rw [block_of_add]; exact hbl2) (fun h => h)).trans r1
          have y2 := (k5.cell (p := ⟨(ad.add (q * 4)).block, (ad.add (q * 4)).off + 2, none⟩) (by rw [block_of_add]; exact hbl2) (fun h => h)).trans r2
          go_quiet (fail)
          have s3 := str_add [45] (digL [ch])
          go_wp2_with (go_at_call 39; refine (DG.out _ _ ch ?_).mono ?_; (focus (exact (Blk.new (w5.drewN _) 5 #[.int .u8 (ch.toNat : Int)]).cell 0)); rintro e w6 ⟨rfl, hk6⟩)
          have k6 : K0 wr w6 := ((k5.drewN _).alloc _).trans hk6
          simp only [List.length_append, List.length_cons] at hlen
          exact ⟨⟨q + 1, t ++ 32 :: (digL [cl] ++ 45 :: digL [ch]), by omega, by go_num, by simp [str_add], by simp only [List.length_append, List.length_cons]; omega, Lib.hid (by rw [HR2.out]; simp), hk.trans k6⟩, by simp [intOf]; omega⟩
        · rw [if_neg (show ¬ (cl.toNat : Int) < (ch.toNat : Int) by omega)] at hlen HR2
          go_wp2_with (go_at_call 39; refine (DG.out _ _ cl ?_).mono ?_; (focus (simp)); rintro e w5 ⟨rfl, hk5⟩)
          have k5 : K0 wr w5 := ((Kp.refl _ wr).alloc _).trans hk5
          have y1 := (k5.cell (p := ⟨(ad.add (q * 4)).block, (ad.add (q * 4)).off + 1, none⟩) (by rw [block_of_add]; exact hbl2) (fun h => h)).trans r1
          have y2 := (k5.cell (p := ⟨(ad.add (q * 4)).block, (ad.add (q * 4)).off + 2, none⟩) (by rw [block_of_add]; exact hbl2) (fun h => h)).trans r2
          go_quiet (fail)
          go_wp2
          simp only [List.append_nil] at hlen HR2
          exact ⟨⟨q + 1, t ++ 32 :: digL [cl], by omega, by go_num, by simp, by simp only [List.length_append, List.length_cons]; omega, Lib.hid (by rw [HR2.out]; simp), hk.trans (k5.drewN _)⟩, by simp [intOf]; omega⟩
      · have e0 : nm.toList.isEmpty = false := by
          cases h : nm.toList.isEmpty
          · rfl
          · exact absurd ((empty_iff nm).1 h) h0
        have hT : txtI ⟨nm, lo, hi, pl⟩ = nm.data.toList := by unfold txtI; rw [if_neg h0]
        rw [hT] at hlen HR2
        have hns : nm.data.toList.length = nm.size := by simp
        have s1 := str_add t [32]
        have s2 := str_add' (t ++ [32]) nm
        clear hx h0 hT
        go_wp2
        exact ⟨⟨q + 1, t ++ 32 :: nm.data.toList, by omega, by go_num, rfl, by simp; omega, Lib.hid (by rw [HR2.out]; simp), hk⟩, by simp [intOf]; omega⟩
    · obtain rfl : q = l.length := by omega
      have hfin := hres.out
      rw [List.drop_length, txtIs, List.flatMap_nil, List.append_nil] at hfin
      subst hfin
      go_wp2
      go_ret
      exact ⟨rfl, hk⟩
end Go.Proofs.YtobofhiakgohfaaDoor

namespace Go.Proofs.YtobofhiakgohfaaDoor
open Go.RowKit

theorem drop_fst {α β : Type} (p : List (α × β)) {q : Nat} (h : q < p.length) : (p.map Prod.fst).drop q = p[q].1 :: (p.map Prod.fst).drop (q + 1) := by
  rw [List.drop_eq_getElem_cons (by simpa using h)]
  simp
theorem take_fst {α β : Type} (p : List (α × β)) {q : Nat} (h : q < p.length) : (p.map Prod.fst).take (q + 1) = (p.map Prod.fst).take q ++ [p[q].1] := by
  rw [List.take_add_one, List.getElem?_eq_getElem (by simpa using h)]
  simp

/-- What stays readable of a description's class while only new memory is written. -/
theorem cls_at {w W : World} {B : Nat} {A : Option Addr} {p : List (ClassD × Value)} (hr : Reads w B 3 A p.length (tris ctri p)) (hit : ∀ x ∈ p, ItemsV w B x.2 x.1.its ∧ x.1.nm.size ≤ 1048576) (hB : B ≤ w.heap.size) (hk : K0 w W) {q : Nat} (hlt : q < p.length) :
    ∃ ad, A = some ad ∧ ad.block < B ∧ W.cell? (ad.add (q * 3)) = some (.string p[q].1.nm) ∧ W.cell? ⟨(ad.add (q * 3)).block, (ad.add (q * 3)).off + 1, none⟩ = some p[q].2 ∧ W.cell? ⟨(ad.add (q * 3)).block, (ad.add (q * 3)).off + 2, none⟩ = some (.int .i64 p[q].1.pl) ∧ ItemsV W B p[q].2 p[q].1.its ∧ p[q].1.nm.size ≤ 1048576 := by
  obtain ⟨ad, e, hb, r0, r1, r2⟩ := (hr.k0 hB hk).tri hlt
  exact ⟨ad, e, hb, r0, r1, r2, (hit _ (List.getElem_mem hlt)).1.k0 hB hk, (hit _ (List.getElem_mem hlt)).2⟩
theorem shs_at {w W : World} {B : Nat} {A : Option Addr} {p : List (ShapeD × Value)} (hr : Reads w B 3 A p.length (tris stri p)) (hit : ∀ x ∈ p, ItemsV w B x.2 x.1.its ∧ -9223372036854775808 ≤ x.1.first ∧ x.1.first ≤ 9223372036854775807) (hB : B ≤ w.heap.size) (hk : K0 w W) {q : Nat} (hlt : q < p.length) :
    ∃ ad, A = some ad ∧ ad.block < B ∧ W.cell? (ad.add (q * 3)) = some p[q].2 ∧ W.cell? ⟨(ad.add (q * 3)).block, (ad.add (q * 3)).off + 1, none⟩ = some (.int .i64 p[q].1.first) ∧ W.cell? ⟨(ad.add (q * 3)).block, (ad.add (q * 3)).off + 2, none⟩ = some (.int .i64 p[q].1.pl) ∧ ItemsV W B p[q].2 p[q].1.its ∧ -9223372036854775808 ≤ p[q].1.first ∧ p[q].1.first ≤ 9223372036854775807 := by
  obtain ⟨ad, e, hb, r0, r1, r2⟩ := (hr.k0 hB hk).tri hlt
  exact ⟨ad, e, hb, r0, r1, r2, (hit _ (List.getElem_mem hlt)).1.k0 hB hk, (hit _ (List.getElem_mem hlt)).2⟩
/-- A boxed description. -/
theorem box_at {w W : World} {t : TypeId} {a b : Value} (hk : K0 (w.alloc (.cells #[a, b] t)) W) : W.cell? ⟨w.heap.size, 0, none⟩ = some a ∧ W.cell? ⟨w.heap.size, 1, none⟩ = some b := by
  have yb := (Blk.new w t #[a, b]).kp hk (fun h => h)
  have y0 := yb.cell 0
  have y1 := yb.cell 1
  simp at y0 y1
  exact ⟨y0, y1⟩

set_option maxRecDepth 100000 in
set_option maxHeartbeats 8000000 in
theorem fits_any (w : World) (B : Nat) (v : Value) (d : DescD) (hv : DescV w B v d) (hB : B ≤ w.heap.size) :
    Calls Tryd.prog 49 #[v] w fun e w' => e = .returned (.bool (fitD d)) ∧ K0 w w' := by
  obtain ⟨cls, shs⟩ := d
  obtain ⟨vc, vs, rfl, ⟨p, A, c, rfl, rfl, hc1, hc2, hc3, hcr, hci⟩, ⟨s, A2, c2, rfl, rfl, hs1, hs2, hs3, hsr, hsi⟩⟩ := hv
  obtain ⟨R, hR⟩ : ∃ R, R = fitD ⟨p.map Prod.fst, s.map Prod.fst⟩ := ⟨_, rfl⟩
  rw [← hR]
  unfold fitD at hR
  simp only [List.length_map] at hR
  have BX := Lib.hid (fun W => box_at (w := w) (W := W) (t := 25) (a := .slice A p.length c) (b := .slice A2 s.length c2))
  by_cases h1 : 32 < p.length
  · have hres : R = false := by rw [hR, decide_eq_false (show ¬ p.length ≤ 32 by omega)]; simp
    subst hres
    clear hR
    go_enter Tryd.func49, Tryd.ntmps49
    go_wp2
    go_ret
    exact ⟨rfl, (Kp.refl _ _).alloc _⟩
  by_cases h2 : 32 < s.length
  · have hres : R = false := by rw [hR, decide_eq_false (show ¬ s.length ≤ 32 by omega)]; simp
    subst hres
    clear hR
    go_enter Tryd.func49, Tryd.ntmps49
    go_wp2
    go_ret
    exact ⟨rfl, (Kp.refl _ _).alloc _⟩
  rw [decide_eq_true (show p.length ≤ 32 by omega), decide_eq_true (show s.length ≤ 32 by omega), Bool.true_and, Bool.true_and] at hR
  have HR := Lib.hid hR
  clear hR
  have hkb : K0 w (w.alloc (.cells #[.slice A p.length c, .slice A2 s.length c2] 25)) := (Kp.refl _ _).alloc _
  have HC := Lib.hid (fun W hk q hlt => cls_at (W := W) (q := q) hcr hci hB hk hlt)
  have HS := Lib.hid (fun W hk q hlt => shs_at (W := W) (q := q) hsr hsi hB hk hlt)
  clear hcr hci hsr hsi
  go_enter Tryd.func49, Tryd.ntmps49
  go_wp2
  obtain ⟨w0, hw0⟩ : ∃ w0, w0 = w.alloc (.cells #[.slice A p.length c, .slice A2 s.length c2] 25) := ⟨_, rfl⟩
  rw [← hw0] at BX hkb ⊢
  have hs0 : w.heap.size < w0.heap.size := by rw [hw0]; simp
  clear hw0
  go_loopw [3] (fun i wr => ∃ q : Nat, q ≤ p.length ∧ i = .int .i64 (q : Int) ∧ K0 w0 wr ∧ Hid (R = (((p.map Prod.fst).drop q).all fitC && (s.map Prod.fst).all fitS))) (fun i wr => p.length - (intOf i).toNat)
  case atStart => exact ⟨0, by omega, rfl, Kp.refl _ _, Lib.hid HR.out⟩
  case round =>
    obtain ⟨q, hq, rfl, hk, hres⟩ := hrel
    obtain ⟨b0, b1⟩ := BX.out _ hk
    by_cases hlt : q < p.length
    · obtain ⟨ad, rfl, hbl, r0, r1, r2, hit, hnz⟩ := HC.out _ (hkb.trans hk) q hlt
      have hd := drop_fst p hlt
      obtain ⟨⟨⟨nm, its, pl⟩, vi⟩, hxe⟩ : ∃ x, x = p[q] := ⟨_, rfl⟩
      rw [← hxe] at r0 r1 r2 hit hnz hd
      simp only [] at r0 r1 r2 hit hnz hd
      have hres2 : R = (nameB nm.data.toList && (fitsB 32 its && (((p.map Prod.fst).drop (q + 1)).all fitC && (s.map Prod.fst).all fitS))) := by
        rw [hres.out, hd, List.all_cons, show fitC ⟨nm, its, pl⟩ = (nameB nm.data.toList && fitsB 32 its) from rfl, Bool.and_assoc, Bool.and_assoc]
      have HR2 := Lib.hid hres2
      have HN := Lib.hid (fun W => rname_any nm W (by omega))
      have hsz := hk.size
      have hszb := hkb.size
      have HF := Lib.hid (fun W (hw : K0 wr W) => listFits_any W B vi its (hit.k0 (by omega) hw) (by have := hw.size; omega) 32 (by omega))
      have RD := Lib.hid (fun W (hw : K0 wr W) => show W.cell? ⟨w.heap.size, 0, none⟩ = some (.slice (some ad) p.length c) ∧ W.cell? ⟨(ad.add (q * 3)).block, (ad.add (q * 3)).off + 1, none⟩ = some vi from
        ⟨(BX.out _ (hk.trans hw)).1, (hw.cell (p := ⟨(ad.add (q * 3)).block, (ad.add (q * 3)).off + 1, none⟩) (by rw [block_of_add]; omega) (fun h => h)).trans r1⟩)
      clear hres hres2 hd hxe
      cases hn : nameB nm.data.toList with
      | false =>
        rw [hn] at HN HR2
        have hres : R = false := by rw [HR2.out]; rfl
        subst hres
        clear hn
        go_wp2_with (go_at_call 33; refine (HN.out _).mono ?_; rintro e w1 ⟨rfl, hk1⟩)
        go_ret
        exact ⟨rfl, (hkb.trans hk).trans hk1⟩
      | true =>
        rw [hn, Bool.true_and] at HR2
        rw [hn] at HN
        clear hn
        cases hf : fitsB 32 its with
        | false =>
          rw [hf] at HF HR2
          have hres : R = false := by rw [HR2.out]; rfl
          subst hres
          clear hf
          go_wp2_with (first
            | (go_at_call 33; refine (HN.out _).mono ?_; rintro e w1 ⟨rfl, hk1⟩; obtain ⟨x0, x1⟩ := RD.out _ hk1)
            | (go_at_call 77; refine (HF.out _ hk1).mono ?_; rintro e w2 ⟨rfl, hk2⟩))
          go_ret
          exact ⟨rfl, ((hkb.trans hk).trans hk1).trans hk2⟩
        | true =>
          rw [hf, Bool.true_and] at HR2
          rw [hf] at HF
          clear hf
          go_wp2_with (first
            | (go_at_call 33; refine (HN.out _).mono ?_; rintro e w1 ⟨rfl, hk1⟩; obtain ⟨x0, x1⟩ := RD.out _ hk1)
            | (go_at_call 77; refine (HF.out _ hk1).mono ?_; rintro e w2 ⟨rfl, hk2⟩))
          exact ⟨⟨q + 1, by omega, by go_num, (hk.trans hk1).trans hk2, Lib.hid HR2.out⟩, by simp [intOf]; omega⟩
    · obtain rfl : q = p.length := by omega
      have hfin := hres.out
      rw [show (p.map Prod.fst).drop p.length = [] by rw [List.drop_eq_nil_iff]; simp, List.all_nil, Bool.true_and] at hfin
      have HR3 := Lib.hid hfin
      clear hfin hres HC
      go_wp2
      obtain ⟨wm, hwm⟩ : ∃ wm, wm = wr := ⟨_, rfl⟩
      have hkm : K0 w0 wm := by rw [hwm]; exact hk
      rw [← hwm]
      clear hwm b0 b1
      go_loopw [4] (fun i wr => ∃ q : Nat, q ≤ s.length ∧ i = .int .i64 (q : Int) ∧ K0 w0 wr ∧ Hid (R = (((s.map Prod.fst).drop q).all fitS))) (fun i wr => s.length - (intOf i).toNat)
      case atStart => exact ⟨0, by omega, rfl, hkm, Lib.hid HR3.out⟩
      case round =>
        obtain ⟨q, hq, rfl, hk, hres⟩ := hrel
        obtain ⟨b0, b1⟩ := BX.out _ hk
        by_cases hlt : q < s.length
        · obtain ⟨ad, rfl, hbl, r0, r1, r2, hit, hn1, hn2⟩ := HS.out _ (hkb.trans hk) q hlt
          have hd := drop_fst s hlt
          obtain ⟨⟨⟨its, first, pl⟩, vi⟩, hxe⟩ : ∃ x, x = s[q] := ⟨_, rfl⟩
          rw [← hxe] at r0 r1 r2 hit hn1 hn2 hd
          simp only [] at r0 r1 r2 hit hn1 hn2 hd
          have hres2 : R = (decide (0 ≤ first) && (decide (first ≤ 999999999) && (fitsB 8 its && ((s.map Prod.fst).drop (q + 1)).all fitS))) := by
            rw [hres.out, hd, List.all_cons, show fitS ⟨its, first, pl⟩ = (decide (0 ≤ first) && decide (first ≤ 999999999) && fitsB 8 its) from rfl, Bool.and_assoc, Bool.and_assoc]
          have HR2 := Lib.hid hres2
          have hsz := hk.size
          have hszb := hkb.size
          have HF := Lib.hid (fun W (hw : K0 wr W) => listFits_any W B vi its (hit.k0 (by omega) hw) (by have := hw.size; omega) 8 (by omega))
          clear hres hres2 hd hxe
          by_cases hf1 : 0 ≤ first
          · by_cases hf2 : first ≤ 999999999
            · rw [decide_eq_true hf1, decide_eq_true hf2, Bool.true_and, Bool.true_and] at HR2
              cases hf : fitsB 8 its with
              | false =>
                rw [hf] at HF HR2
                have hres : R = false := by rw [HR2.out]; rfl
                subst hres
                clear hf
                go_wp2_with (go_at_call 77; refine (HF.out _ (Kp.refl _ _)).mono ?_; rintro e w2 ⟨rfl, hk2⟩)
                go_ret
                exact ⟨rfl, (hkb.trans hk).trans hk2⟩
              | true =>
                rw [hf, Bool.true_and] at HR2
                rw [hf] at HF
                clear hf
                go_wp2_with (go_at_call 77; refine (HF.out _ (Kp.refl _ _)).mono ?_; rintro e w2 ⟨rfl, hk2⟩)
                exact ⟨⟨q + 1, by omega, by go_num, hk.trans hk2, Lib.hid HR2.out⟩, by simp [intOf]; omega⟩
            · have hres : R = false := by rw [HR2.out, decide_eq_false hf2]; simp
              subst hres
              go_wp2
              go_ret
              exact ⟨rfl, hkb.trans hk⟩
          · have hres : R = false := by rw [HR2.out, decide_eq_false hf1]; simp
            subst hres
            go_wp2
            go_ret
            exact ⟨rfl, hkb.trans hk⟩
        · obtain rfl : q = s.length := by omega
          have hfin := hres.out
          rw [show (s.map Prod.fst).drop s.length = [] by rw [List.drop_eq_nil_iff]; simp, List.all_nil] at hfin
          subst hfin
          go_wp2
          go_ret
          exact ⟨rfl, hkb.trans hk⟩
end Go.Proofs.YtobofhiakgohfaaDoor
