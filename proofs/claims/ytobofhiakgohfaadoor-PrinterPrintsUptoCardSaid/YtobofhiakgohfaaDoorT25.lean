/- Descriptions in memory; the document's Decimal and list. -/
import Derived.Test.YtobofhiakgohfaaDoorT24
import Derived.Test.YtobofhiakgohfaaDoorP13
import Derived.Test.YtobofhiakgohfaaDoorO0
set_option linter.unusedVariables false
set_option linter.unusedSimpArgs false
namespace Go.Proofs.YtobofhiakgohfaaDoor
open Go.RowKit

/-! ## Rows of three cells -/
def tris {α : Type} (f : α → Value × Value × Value) (l : List α) : List Value := l.flatMap fun x => [(f x).1, (f x).2.1, (f x).2.2]
theorem tris_length {α : Type} (f : α → Value × Value × Value) (l : List α) : (tris f l).length = l.length * 3 := by
  induction l with
  | nil => rfl
  | cons a t ih => simp only [tris, List.flatMap_cons, List.length_append, List.length_cons, List.length_nil] at ih ⊢; rw [ih]; omega
theorem tris_append {α : Type} (f : α → Value × Value × Value) (a b : List α) : tris f (a ++ b) = tris f a ++ tris f b := by simp [tris]
theorem tris_get {α : Type} (f : α → Value × Value × Value) : ∀ (l : List α) (j : Nat) (t : α), l[j]? = some t → (tris f l)[j * 3]? = some (f t).1 ∧ (tris f l)[j * 3 + 1]? = some (f t).2.1 ∧ (tris f l)[j * 3 + 2]? = some (f t).2.2
  | [], j, t, h => by simp at h
  | a :: r, 0, t, h => by simp at h; subst h; exact ⟨rfl, rfl, rfl⟩
  | a :: r, j + 1, t, h => by
    have ih := tris_get f r j t (by simpa using h)
    have e : ∀ i, (tris f (a :: r))[i + 3]? = (tris f r)[i]? := fun i => by
      show ([(f a).1, (f a).2.1, (f a).2.2] ++ tris f r)[i + 3]? = _
      rw [List.getElem?_append_right (by simp)]
      simp
    rw [show (j + 1) * 3 = j * 3 + 3 by omega, show j * 3 + 3 + 1 = (j * 3 + 1) + 3 by omega, show j * 3 + 3 + 2 = (j * 3 + 2) + 3 by omega, e, e, e]
    exact ih
theorem Reads.tri {α : Type} {f : α → Value × Value × Value} {w : World} {B : Nat} {A : Option Addr} {l : List α} (h : Reads w B 3 A l.length (tris f l)) {j : Nat} (hj : j < l.length) :
    ∃ ad, A = some ad ∧ ad.block < B ∧ w.cell? (ad.add (j * 3)) = some (f l[j]).1 ∧ w.cell? ⟨(ad.add (j * 3)).block, (ad.add (j * 3)).off + 1, none⟩ = some (f l[j]).2.1 ∧ w.cell? ⟨(ad.add (j * 3)).block, (ad.add (j * 3)).off + 2, none⟩ = some (f l[j]).2.2 := by
  obtain ⟨ad, e, hb, hc⟩ := h.2 (by omega)
  obtain ⟨h0, h1, h2⟩ := tris_get f l j _ (List.getElem?_eq_getElem hj)
  refine ⟨ad, e, hb, hc _ _ h0, ?_, ?_⟩
  · have := hc _ _ h1
    rw [← add_of_add, add_one] at this
    exact this
  · have := hc _ _ h2
    rw [← add_of_add, add_two] at this
    exact this

/-! ## Descriptions -/
def ctri (x : ClassD × Value) : Value × Value × Value := (.string x.1.nm, x.2, .int .i64 x.1.pl)
def stri (x : ShapeD × Value) : Value × Value × Value := (x.2, .int .i64 x.1.first, .int .i64 x.1.pl)
/-- A slice of classes. -/
def ClsV (w : World) (B : Nat) (v : Value) (l : List ClassD) : Prop :=
  ∃ (p : List (ClassD × Value)) (A : Option Addr) (c : Nat), p.map Prod.fst = l ∧ v = .slice A p.length c ∧ p.length ≤ c ∧ c ≤ 9223372036854775807 ∧ p.length ≤ 1048576 ∧ Reads w B 3 A p.length (tris ctri p) ∧ ∀ x ∈ p, ItemsV w B x.2 x.1.its ∧ x.1.nm.size ≤ 1048576
/-- A slice of shapes. -/
def ShsV (w : World) (B : Nat) (v : Value) (l : List ShapeD) : Prop :=
  ∃ (p : List (ShapeD × Value)) (A : Option Addr) (c : Nat), p.map Prod.fst = l ∧ v = .slice A p.length c ∧ p.length ≤ c ∧ c ≤ 9223372036854775807 ∧ p.length ≤ 1048576 ∧ Reads w B 3 A p.length (tris stri p) ∧ ∀ x ∈ p, ItemsV w B x.2 x.1.its ∧ -9223372036854775808 ≤ x.1.first ∧ x.1.first ≤ 9223372036854775807
/-- A description. -/
def DescV (w : World) (B : Nat) (v : Value) (d : DescD) : Prop := ∃ vc vs, v = .agg #[vc, vs] ∧ ClsV w B vc d.cls ∧ ShsV w B vs d.shs

theorem ItemsV.keep {w w' : World} {B B' : Nat} {v : Value} {l : List ItemD} (h : ItemsV w B v l) (hB : B ≤ B') (hk : ∀ p : Addr, p.block < B → w'.cell? p = w.cell? p) : ItemsV w' B' v l := by
  obtain ⟨A, c, e, h1, h2, h3, h4, h5⟩ := h
  exact ⟨A, c, e, h1, h2, h3, (h4.keep hk).more hB, h5⟩
theorem ClsV.keep {w w' : World} {B B' : Nat} {v : Value} {l : List ClassD} (h : ClsV w B v l) (hB : B ≤ B') (hk : ∀ p : Addr, p.block < B → w'.cell? p = w.cell? p) : ClsV w' B' v l := by
  obtain ⟨p, A, c, e0, e, h1, h2, h3, h4, h5⟩ := h
  exact ⟨p, A, c, e0, e, h1, h2, h3, (h4.keep hk).more hB, fun x hx => ⟨(h5 x hx).1.keep hB hk, (h5 x hx).2⟩⟩
theorem ShsV.keep {w w' : World} {B B' : Nat} {v : Value} {l : List ShapeD} (h : ShsV w B v l) (hB : B ≤ B') (hk : ∀ p : Addr, p.block < B → w'.cell? p = w.cell? p) : ShsV w' B' v l := by
  obtain ⟨p, A, c, e0, e, h1, h2, h3, h4, h5⟩ := h
  exact ⟨p, A, c, e0, e, h1, h2, h3, (h4.keep hk).more hB, fun x hx => ⟨(h5 x hx).1.keep hB hk, (h5 x hx).2⟩⟩
theorem DescV.keep {w w' : World} {B B' : Nat} {v : Value} {d : DescD} (h : DescV w B v d) (hB : B ≤ B') (hk : ∀ p : Addr, p.block < B → w'.cell? p = w.cell? p) : DescV w' B' v d := by
  obtain ⟨vc, vs, e, h1, h2⟩ := h
  exact ⟨vc, vs, e, h1.keep hB hk, h2.keep hB hk⟩
theorem ItemsV.below {w w' : World} {B : Nat} {v : Value} {l : List ItemD} (h : ItemsV w B v l) (hk : Below B w w') : ItemsV w' B v l := h.keep (Nat.le_refl _) fun _ hp => hk.cell hp
theorem ItemsV.k0 {w w' : World} {B : Nat} {v : Value} {l : List ItemD} (h : ItemsV w B v l) (hB : B ≤ w.heap.size) (hk : K0 w w') : ItemsV w' B v l := h.keep (Nat.le_refl _) fun _ hp => hk.cell (by omega) (fun h => h)
theorem DescV.k0 {w w' : World} {B : Nat} {v : Value} {d : DescD} (h : DescV w B v d) (hB : B ≤ w.heap.size) (hk : K0 w w') : DescV w' B v d := h.keep (Nat.le_refl _) fun _ hp => hk.cell (by omega) (fun h => h)
theorem DescV.below {w w' : World} {B : Nat} {v : Value} {d : DescD} (h : DescV w B v d) (hk : Below B w w') : DescV w' B v d := h.keep (Nat.le_refl _) fun _ hp => hk.cell hp

/-! ## Decimal -/
theorem dec_str (s : List UInt8) (c : UInt8) : (⟨#[c]⟩ ++ ⟨s.toArray⟩ : ByteArray) = ⟨(c :: s).toArray⟩ := by
  refine ba_ext ?_
  simp

set_option maxRecDepth 100000 in
set_option maxHeartbeats 4000000 in
theorem decimal_any (n : Int) (w : World) (h0 : 0 ≤ n) (h1 : n ≤ 999999999) : Calls Tryd.prog 51 #[.int .i64 n] w fun e w' => e = .returned (.string ⟨(Lib.itoa n).toArray⟩) ∧ K0 w w' := by
  obtain ⟨u, hu⟩ := Int.eq_ofNat_of_zero_le h0
  have hu2 : n = (u : Int) := hu
  subst hu2
  rw [itoa_pos]
  have hul : (Lib.decDigits u).length ≤ 9 := (dec_length u).2 (by omega)
  have hdl := decUp_last u
  obtain ⟨D, hD⟩ : ∃ D, D = Lib.decDigits u := ⟨_, rfl⟩
  rw [← hD] at hul hdl ⊢
  clear hD
  have hc : ∀ m : Nat, 48 + (m : Int) % 10 = ((UInt8.ofNat (48 + m % 10)).toNat : Int) := by intro m; simp; omega
  obtain ⟨c, hce⟩ : ∃ c, c = UInt8.ofNat (48 + u % 10) := ⟨_, rfl⟩
  have hc0 := hc u
  rw [← hce] at hc0
  have HC := Lib.hid hc
  have HL := Lib.hid (show D = decUp u ++ [c] by rw [hce]; exact hdl)
  clear hc hce hdl
  have cv := conv_str (P := Tryd.prog) (w := w.alloc (.cells #[.int .u8 (c.toNat : Int)] 5)) 44 9 5 Tryd.underlying44 Tryd.underlying5 Tryd.underlying9 (l := [c]) (reads_lit w _ 1 5 rfl) rfl (c := 1)
  go_enter Tryd.func51, Tryd.ntmps51
  have hk1 : K0 w (w.alloc (.cells #[.int .u8 (c.toNat : Int)] 5)) := (Kp.refl _ _).alloc _
  go_wp2
  clear cv hc0
  go_loopw [0, 3] (fun n s wr => ∃ (m : Nat) (t : List UInt8), m ≤ 999999999 ∧ n = .int .i64 (m : Int) ∧ s = .string ⟨t.toArray⟩ ∧ t.length ≤ 9 ∧ Hid (D = decUp m ++ t) ∧ K0 w wr) (fun n s wr => (intOf n).toNat)
  case atStart => exact ⟨u, [c], by omega, rfl, rfl, by simp, HL, hk1⟩
  case round =>
    obtain ⟨m, t, hm, rfl, rfl, ht, hDm, hk⟩ := hrel
    by_cases hlt : m < 10
    · have hfin := hDm.out
      unfold decUp at hfin
      rw [if_pos hlt, List.nil_append] at hfin
      subst hfin
      go_wp2
      go_ret
      exact ⟨rfl, hk⟩
    · have hst := decUp_step hlt
      have hq : Int.tdiv (m : Int) 10 = ((m / 10 : Nat) : Int) := by rw [Int.tdiv_eq_ediv_of_nonneg (by omega)]; omega
      have hq9 : m / 10 < m := by omega
      generalize m / 10 = q at hst hq hq9
      have hc1 := HC.out q
      obtain ⟨d, hde⟩ : ∃ d, d = UInt8.ofNat (48 + q % 10) := ⟨_, rfl⟩
      rw [← hde] at hc1 hst
      have hD2 : D = decUp q ++ d :: t := by rw [hDm.out, hst, List.append_assoc]; rfl
      have HD2 := Lib.hid hD2
      clear hde hD2 hst
      have cv := conv_str (P := Tryd.prog) (w := wr.alloc (.cells #[.int .u8 (d.toNat : Int)] 5)) 44 9 5 Tryd.underlying44 Tryd.underlying5 Tryd.underlying9 (l := [d]) (reads_lit wr _ 1 5 rfl) rfl (c := 1)
      have ht2 : (d :: t).length ≤ 9 := by
        have := congrArg List.length HD2.out
        rw [List.length_append] at this
        omega
      have hds := dec_str t d
      go_wp2
      exact ⟨⟨q, d :: t, by omega, rfl, by rw [← hds], ht2, HD2, hk.alloc _⟩, by simp [intOf]; omega⟩
end Go.Proofs.YtobofhiakgohfaaDoor
