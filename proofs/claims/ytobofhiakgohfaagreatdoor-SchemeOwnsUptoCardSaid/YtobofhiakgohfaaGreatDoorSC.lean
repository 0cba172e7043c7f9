/- slices.Clone at spans; the builder's classes; the builder's set. The builder in memory; the builder's set, class. The builder's class. -/
import Derived.Test.YtobofhiakgohfaaGreatDoorSB
import Derived.Test.YtobofhiakgohfaaGreatDoorZX
import Derived.Maps.OwnSet
import Derived.Lib.LazyBuf
import Derived.Test.YtobofhiakgohfaaGreatDoorSA
import Derived.Test.YtobofhiakgohfaaGreatDoorZI
set_option linter.unusedVariables false
set_option linter.unusedSimpArgs false
namespace Go.Proofs.YtobofhiakgohfaaGreatDoor
open Go.RowKit Go.Maps Go.WideMaps

set_option maxRecDepth 100000 in
theorem clone_any (w : World) (A : Option Addr) (c : Nat) (l : List Sp) (hr : Reads w w.heap.size 2 A l.length (spcs l)) (hl : l.length ≤ 4194304) :
    Calls Tryz.prog 27 #[.slice A l.length c] w (SpPost 61 l w) := by
  obtain ⟨i0, hi, hz0, hz1, hz2⟩ := info_parts info61
  unfold SpPost
  cases A with
  | none =>
    have hl0 : l = [] := by
      cases l with
      | nil => rfl
      | cons a t => obtain ⟨ad, e, _⟩ := hr.2 (by simp); cases e
    subst hl0
    clear hr
    have hq := fun w' : World => Lib.run_eql_slice_nil (P := Tryz.prog) w' 62 61 none 0 c 0 0 Tryz.underlying62
    simp only [List.length_nil]
    go_enter Tryz.func27, Tryz.ntmps27
    go_wp2
    go_ret
    exact ⟨none, 0, rfl, World.ownsRow_nil _ _ _ _, Kp.refl _ _⟩
  | some ad =>
    have HR := Lib.hid hr
    clear hr
    have hq := fun w' : World => Lib.run_eql_slice_nil (P := Tryz.prog) w' 62 61 (some ad) l.length c 0 0 Tryz.underlying62
    have M0 := World.ownsRow_made (base := w.heap.size) (e := 61) (size := 2) w #[] 0 (Nat.le_refl _) (Nat.zero_le _) rfl
    go_enter Tryz.func27, Tryz.ntmps27
    go_wp2_with (at_builtin; refine wpList_append_any _ rfl (.tmp 5) (.tmp 6) _ rfl w.heap.size 61 i0 _ 2 16 Tryz.underlying62 hi hz0 hz1 hz2 rfl (by omega) (.slice (some ⟨w.heap.size, 0, none⟩) 0 0) 0 [] rfl (by simpa using M0) w.heap.size (some ad) l.length c (spcs l) rfl (by exact HR.out.alloc (Nat.le_refl _) _) (spcs_one l) (by simp only [maxLen]; omega) (by omega) (by simp) ?_; intro v2 w2 ho2 hg2 hat2; obtain ⟨A2, c2, rfl, _, _⟩ := own_form ho2; rw [Nat.zero_add, List.nil_append] at ho2)
    go_ret
    exact ⟨_, _, by simp, ho2, ((Kp.refl _ _).alloc _).grown hg2 (fun b hb => by simp [Value.ownBlock] at hb; exact .inl (by omega))⟩

/-! ## The classes, as the map has them -/
/-- How the map's elements read: by themselves. -/
def heldR (v : Value) : Option (DataW Value × List MemPlace) := some (.held v, [])
structure ClsX where
  nm : ByteArray
  s : List Sp
  v : Value
def ClsX.d (x : ClsX) : ByteArray × List Sp := (x.nm, x.s)
def lookX (cl : List ClsX) (nm : ByteArray) : Option ClsX := cl.find? fun x => x.nm.data.toList == nm.data.toList
theorem look_d (cl : List ClsX) (nm : ByteArray) : lookB (cl.map ClsX.d) nm = (lookX cl nm).map ClsX.s := by
  unfold lookB lookX
  induction cl with
  | nil => rfl
  | cons a t ih =>
    rw [List.map_cons, List.find?_cons, List.find?_cons]
    show Option.map _ (match a.nm.data.toList == nm.data.toList with | true => some a.d | false => _) = _
    cases a.nm.data.toList == nm.data.toList
    · exact ih
    · rfl
/-- The map holds just the classes. -/
def MapOk (D : DataW Value) (cl : List ClsX) : Prop := IsMap D ∧ ∀ nm : ByteArray, Maps.has D (.string nm.data.toList) = (lookX cl nm).isSome ∧ ∀ z, D.atKey (.string nm.data.toList) z = match lookX cl nm with | some x => .held x.v | none => z
theorem MapOk.nil : MapOk (.map []) [] := ⟨isMap_empty, fun nm => ⟨rfl, fun z => rfl⟩⟩
theorem MapOk.add {D : DataW Value} {cl : List ClsX} {x : ClsX} (h : MapOk D cl) (hn : lookX cl x.nm = none) : MapOk (D.put (.string x.nm.data.toList) (.held x.v)) (cl ++ [x]) := by
  have hkey : WideAt.IsKeyLit (.string x.nm.data.toList) := by exact trivial
  refine ⟨h.1.put _ _, fun nm => ?_⟩
  by_cases e : nm.data.toList = x.nm.data.toList
  · have hl : lookX (cl ++ [x]) nm = some x := by
      have hn2 : lookX cl nm = none := by unfold lookX at hn ⊢; rw [e]; exact hn
      unfold lookX at hn2 ⊢
      rw [List.find?_append, hn2]
      simp [e]
    rw [hl, e]
    exact ⟨has_put_same h.1 hkey _, fun z => atKey_put_same h.1 hkey _ _⟩
  · have hne : (Lit.string nm.data.toList) ≠ .string x.nm.data.toList := fun h => e (by injection h)
    have hl : lookX (cl ++ [x]) nm = lookX cl nm := by
      unfold lookX
      rw [List.find?_append]
      have : ([x].find? fun y => y.nm.data.toList == nm.data.toList) = none := by
        have : (x.nm.data.toList == nm.data.toList) = false := beq_eq_false_iff_ne.2 (fun h => e h.symm)
        simp [List.find?, this]
      rw [this, Option.or_none]
    rw [hl, has_put_other hne]
    exact ⟨(h.2 nm).1, fun z => by rw [atKey_put_other hne]; exact (h.2 nm).2 z⟩
theorem zeroSp (w : World) : (zeroValue 62).run Tryz.prog w = .ok (.slice none 0 0) w := by kernel_rfl
theorem law9 : Keyed Tryz.prog 9 := string_keyed Tryz.underlying9

set_option maxRecDepth 100000 in
/-- The look-up in the classes. -/
theorem look_cls {w : World} {bm n : Nat} {D : DataW Value} {cl : List ClsX} (hm : w.ownsMap Tryz.prog 9 heldR bm n D) (hD : MapOk D cl) (nm : ByteArray) (hs : nm.size ≤ 1048576) :
    (Instr.lookup 80 (.map (some bm)) (.string nm) true).run Tryz.prog w = .ok (.tuple #[match lookX cl nm with | some x => x.v | none => .slice none 0 0, .bool (lookX cl nm).isSome]) w := by
  obtain ⟨v, ps, hrun, hv⟩ := hm.look_ok law9 Tryz.underlying80 (zeroSp w) (zd := .held (.slice none 0 0)) (zp := []) rfl (keyOf_string_mk Tryz.underlying9 (by simp only [maxLen]; omega : nm.size ≤ maxLen))
  rw [hrun, (hD.2 nm).1]
  have hv2 := hv
  rw [(hD.2 nm).2] at hv2
  unfold heldR at hv2
  simp only [Option.some.injEq, Prod.mk.injEq] at hv2
  congr 4
  cases hx : lookX cl nm with
  | none => rw [hx] at hv2; injection hv2.1
  | some x => rw [hx] at hv2; injection hv2.1
end Go.Proofs.YtobofhiakgohfaaGreatDoor

namespace Go.Proofs.YtobofhiakgohfaaGreatDoor
open Go.RowKit Go.Maps Go.WideMaps

/-- A fault, as an error. -/
def faultV (p e : Int) : Value := .iface 88 (.agg #[.int .i64 p, .int .i64 e])
/-- The classes, in memory of the call's own. -/
structure ClsB (w : World) (base bm : Nat) (cl : List ClsX) : Prop where
  mp : ∃ D, w.ownsMap Tryz.prog 9 heldR bm cl.length D ∧ MapOk D cl
  rows : ∀ x ∈ cl, w.ownsRow base 61 2 x.v x.s.length (spcs x.s) ∧ x.s.length ≤ 256
  len : cl.length ≤ 64
theorem own_kmap {S : Nat → Prop} {w w' : World} {bm n : Nat} {D : DataW Value} (h : w.ownsMap Tryz.prog 9 heldR bm n D) (hk : Kp S w w') (hs : ¬ S bm) : w'.ownsMap Tryz.prog 9 heldR bm n D := by
  have hlt := h.lt
  obtain ⟨es, clock, hb, F, hs2, hD⟩ := h
  exact ⟨es, clock, (hk.block bm hlt hs).trans hb, F, hs2, hD⟩
theorem map_ne_blk {w : World} {bm n : Nat} {D : DataW Value} {g : Nat} {t : TypeId} {cs : Array Value} (h : w.ownsMap Tryz.prog 9 heldR bm n D) (hg : Blk w g t cs) : g ≠ bm := by
  rintro rfl
  obtain ⟨es, clock, hb, _⟩ := h
  unfold Blk at hg
  rw [hb] at hg
  injection hg with hg
  cases hg
theorem ClsB.kt {S : Nat → Prop} {w w' : World} {base bm : Nat} {cl : List ClsX} (h : ClsB w base bm cl) (hk : Kp S w w') (h1 : ∀ g cs, Blk w g 61 cs → ¬ S g) (h2 : ¬ S bm) : ClsB w' base bm cl := by
  obtain ⟨⟨D, hm, hD⟩, hr, hl⟩ := h
  exact ⟨⟨D, own_kmap hm hk h2, hD⟩, fun x hx => ⟨own_kt (hr x hx).1 hk h1, (hr x hx).2⟩, hl⟩
theorem ClsB.k0 {w w' : World} {base bm : Nat} {cl : List ClsX} (h : ClsB w base bm cl) (hk : K0 w w') : ClsB w' base bm cl := h.kt hk (fun _ _ _ h => h) (fun h => h)

/-- What set answers. -/
def SetPost (cl : List ClsX) (x : ItemD) (w : World) (e : Ending) (w' : World) : Prop :=
  (setI (cl.map ClsX.d) x = none ∧ e = .returned (.tuple #[.slice none 0 0, faultV x.pl 81]) ∧ K0 w w') ∨
  ∃ s A c, setI (cl.map ClsX.d) x = some s ∧ s.length ≤ 256 ∧ e = .returned (.tuple #[.slice A s.length c, .nilIface]) ∧ w'.ownsRow w.heap.size 61 2 (.slice A s.length c) s.length (spcs s) ∧ K0 w w'

set_option maxRecDepth 100000 in
set_option maxHeartbeats 4000000 in
theorem set_any (w : World) (base gb bm : Nat) (cl : List ClsX) (vt vo : Value) (x : ItemD) (hB : Blk w gb 83 #[.map (some bm), vt, vo]) (hC : ClsB w base bm cl) (hx : x.nm.size ≤ 1048576) :
    Calls Tryz.prog 89 #[.pointer (some ⟨gb, 0, none⟩), .agg #[.string x.nm, .int .i64 x.lo, .int .i64 x.hi, .int .i64 x.pl]] w (SetPost cl x w) := by
  obtain ⟨nm, lo, hi', pl⟩ := x
  simp only [] at hx ⊢
  by_cases h0 : nm.data.toList = []
  · obtain rfl : nm = ⟨#[]⟩ := ba_ext h0
    have hset : setI (cl.map ClsX.d) ⟨⟨#[]⟩, lo, hi', pl⟩ = some [(lo, hi')] := by unfold setI; rw [if_pos rfl]
    have HS := Lib.hid hset
    clear hset h0
    go_enter Tryz.func89, Tryz.ntmps89
    go_wp2
    refine bodyPost_ret (v := .tuple #[.slice (some ⟨w.heap.size + 1, 0, none⟩) 1 1, .nilIface]) (by simp [results, Tryz.results89, go_sem]) rfl ?_
    have hb := Blk.new (w.alloc (.cells #[.string ⟨#[]⟩, .int .i64 lo, .int .i64 hi', .int .i64 pl] 53)) 61 #[.int .i64 lo, .int .i64 hi']
    refine .inr ⟨[(lo, hi')], _, _, HS.out, by simp, rfl, ⟨rfl, .inr ⟨w.heap.size + 1, 1, _, rfl, by omega, by simpa [Blk] using hb, by simp, by simp [maxLen], rfl, rfl⟩⟩, ((Kp.refl _ _).alloc _).alloc _⟩
  · have hne : (nm.data.toList == []) = false := beq_eq_false_iff_ne.2 h0
    have hset : setI (cl.map ClsX.d) ⟨nm, lo, hi', pl⟩ = (lookX cl nm).map ClsX.s := by unfold setI; rw [if_neg h0]; exact look_d cl nm
    obtain ⟨D, hm, hD⟩ := hC.mp
    have LK := Lib.hid (fun (W : World) (hk : K0 w W) => look_cls (own_kmap hm hk (fun h => h)) hD nm hx)
    have HS := Lib.hid hset
    have hbk : ∀ o, Blk (w.alloc o) gb 83 #[.map (some bm), vt, vo] := fun o => hB.alloc o
    have hz := hbk (.cells #[.string nm, .int .i64 lo, .int .i64 hi', .int .i64 pl] 53)
    have c0 := hz.cell 0
    have hlg := hB.lt
    simp at c0
    have e0 : (nm.toList == []) = false := by rw [ByteArray.toList_eq]; exact hne
    cases hl : lookX cl nm with
    | none =>
      rw [hl] at HS LK
      simp only [Option.isSome_none] at LK
      have L1 := fun n => LK.out ((w.alloc (.cells #[.string nm, .int .i64 lo, .int .i64 hi', .int .i64 pl] 53)).drewN n) (((Kp.refl _ _).alloc _).drewN _)
      clear hm hD h0 hset hne hbk hz
      go_enter Tryz.func89, Tryz.ntmps89
      go_wp2
      go_quiet (fail)
      go_wp2
      go_quiet (fail)
      go_wp2
      refine bodyPost_ret (v := .tuple #[.slice none 0 0, faultV pl 81]) (by simp [results, Tryz.results89, go_sem, faultV]) rfl ?_
      exact .inl ⟨HS.out, rfl, (((Kp.refl _ _).alloc _).drewN _).drewN _⟩
    | some y =>
      obtain ⟨hr, hyl⟩ := hC.rows y (List.mem_of_find?_eq_some hl)
      rw [hl] at HS LK
      simp only [Option.isSome_some] at LK
      have L1 := fun n => LK.out ((w.alloc (.cells #[.string nm, .int .i64 lo, .int .i64 hi', .int .i64 pl] 53)).drewN n) (((Kp.refl _ _).alloc _).drewN _)
      obtain ⟨ynm, ys, yv⟩ := y
      simp only [] at hr hyl L1
      have HS2 := Lib.hid (show setI (cl.map ClsX.d) ⟨nm, lo, hi', pl⟩ = some ys from HS.out)
      obtain ⟨A, c, rfl, _, _⟩ := own_form hr
      have CL := Lib.hid (fun n => clone_any ((w.alloc (.cells #[.string nm, .int .i64 lo, .int .i64 hi', .int .i64 pl] 53)).drewN n) A c ys ((Reads.of_own hr).k0 (Nat.le_refl _) (((Kp.refl _ _).alloc _).drewN n) |>.more (by simp)) (by omega))
      unfold SpPost at CL
      clear hm hD h0 hset hne hbk hz hl HS LK hr
      go_enter Tryz.func89, Tryz.ntmps89
      go_wp2
      go_quiet (fail)
      go_wp2_with fail
      refine (CL.out _).mono ?_
      rintro e w2 ⟨A2, c2, rfl, ho2, hk2⟩
      go_wp2
      refine bodyPost_ret (v := .tuple #[.slice A2 ys.length c2, .nilIface]) (by simp [results, Tryz.results89, go_sem]) rfl ?_
      have hk1 : K0 w ((w.alloc (.cells #[.string nm, .int .i64 lo, .int .i64 hi', .int .i64 pl] 53)).drewN nq) := ((Kp.refl _ _).alloc _).drewN _
      exact .inr ⟨ys, A2, c2, HS2.out, hyl, rfl, own_mono ho2 (by simp), hk1.trans hk2⟩
end Go.Proofs.YtobofhiakgohfaaGreatDoor

namespace Go.Proofs.YtobofhiakgohfaaGreatDoor
open Go.RowKit Go.Maps Go.WideMaps

theorem items_snoc (cl : ClsT) (x : ItemD) : ∀ l : List ItemD, itemsB cl (l ++ [x]) = match itemsB cl l with | .error e => .error e | .ok ss => match setI cl x with | none => .error (x.pl, 81) | some s => .ok (ss ++ [s])
  | [] => by
    rw [List.nil_append, itemsB, itemsB]
    cases setI cl x <;> rfl
  | y :: t => by
    rw [List.cons_append, itemsB, itemsB]
    cases setI cl y with
    | none => rfl
    | some s =>
      simp only []
      rw [items_snoc cl x t]
      cases itemsB cl t with
      | error e => rfl
      | ok l => cases setI cl x <;> rfl
theorem items_stop {cl : ClsT} {e : Int × Int} : ∀ {l : List ItemD} (t : List ItemD), itemsB cl l = .error e → itemsB cl (l ++ t) = .error e
  | [], t, h => by cases h
  | y :: r, t, h => by
    rw [List.cons_append, itemsB]
    rw [itemsB] at h
    cases hs : setI cl y with
    | none => rw [hs] at h; exact h
    | some s =>
      rw [hs] at h
      simp only [] at h ⊢
      cases hr : itemsB cl r with
      | error e' =>
        rw [hr] at h
        rw [items_stop t hr]
        exact h
      | ok l => rw [hr] at h; cases h
/-- The first fault among the items. -/
theorem items_at {cl : ClsT} {l : List ItemD} {q : Nat} {ss : List (List Sp)} (h : itemsB cl (l.take q) = .ok ss) (hq : q < l.length) : (setI cl l[q] = none → itemsB cl l = .error (l[q].pl, 81)) ∧ ∀ s, setI cl l[q] = some s → itemsB cl (l.take (q + 1)) = .ok (ss ++ [s]) := by
  have e : l.take (q + 1) = l.take q ++ [l[q]] := by rw [List.take_succ_eq_append_getElem hq]
  have h1 := items_snoc cl l[q] (l.take q)
  rw [h] at h1
  simp only [] at h1
  refine ⟨fun hn => ?_, fun s hs => ?_⟩
  · rw [hn] at h1
    have h2 := items_stop (l.drop (q + 1)) h1
    rw [← e, List.take_append_drop] at h2
    exact h2
  · rw [hs] at h1
    rw [e]
    exact h1
theorem okF_len {top : Int} : ∀ {l : List Sp} {last : Int}, okF top last l = true → (l.length : Int) ≤ sizeL l
  | [], _, _ => by simp [sizeL]
  | r :: t, last, h => by
    obtain ⟨⟨h1, h2, h3, h4⟩, h5⟩ := okF_cons.1 h
    have := okF_len h5
    rw [sizeL_cons]
    simp only [List.length_cons]
    omega
theorem goodS_len {s : List Sp} (h : goodS s) : s.length ≤ 256 := by
  have h1 := okF_len (top := 255) (last := -2) h.1
  have h2 := (goodS_size h).2
  unfold szB at h2
  rw [if_pos h.1] at h2
  omega
theorem fault_ne (p e : Int) (w : World) : (binOp BinOp.neq 85 (faultV p e) .nilIface).run Tryz.prog w = .ok (.bool true) w := by kernel_rfl

/-- What class answers. -/
def ClassPost8 (base bm : Nat) (cl : List ClsX) (c : ClassD) (w : World) (e : Ending) (w' : World) : Prop :=
  (∃ p er, classB (cl.map ClsX.d) c = .error (p, er) ∧ e = .returned (faultV p er) ∧ K0 w w') ∨
  ∃ x, classB (cl.map ClsX.d) c = .ok ((cl ++ [x]).map ClsX.d) ∧ e = .returned .nilIface ∧ ClsB w' base bm (cl ++ [x]) ∧ Kp (fun k => k = bm) w w'

set_option maxRecDepth 100000 in
set_option maxHeartbeats 8000000 in
theorem class8_any (w : World) (base gb bm : Nat) (cl : List ClsX) (vt vo : Value) (c : ClassD) (v : Value) (hB : Blk w gb 83 #[.map (some bm), vt, vo]) (hC : ClsB w base bm cl) (hbase : base ≤ w.heap.size) (hg : goodC (cl.map ClsX.d)) (hf : fitC c = true) (hcl : cl.length < 32) (hv : ItemsV w w.heap.size v c.its) :
    Calls Tryz.prog 66 #[.pointer (some ⟨gb, 0, none⟩), .agg #[.string c.nm, v, .int .i64 c.pl]] w (ClassPost8 base bm cl c w) := by
  obtain ⟨nm, its, pl⟩ := c
  simp only [] at hv ⊢
  have hf2 := hf
  unfold fitC at hf2
  rw [Bool.and_eq_true] at hf2
  simp only [] at hf2
  have hnl := nameB_len hf2.1
  obtain ⟨hif, hine, hil⟩ := fitsB_all hf2.2
  have hil : its.length ≤ 32 := hil
  have hns : nm.size ≤ 1048576 := by simp at hnl; omega
  obtain ⟨A, cp, rfl, hcp, hcp2, hl, hr, hnm⟩ := hv
  obtain ⟨i0, hi, hz0, hz1, hz2⟩ := info_parts info61
  obtain ⟨D, hm, hD⟩ := hC.mp
  have hlk := look_d cl nm
  have hgm : ¬ gb = bm := map_ne_blk hm hB
  have hbm := hm.lt
  have hlg := hB.lt
  obtain ⟨W1, hW1⟩ : ∃ W1, W1 = w.alloc (.cells #[.string nm, .slice A its.length cp, .int .i64 pl] 51) := ⟨_, rfl⟩
  have k1 : K0 w W1 := by rw [hW1]; exact (Kp.refl _ _).alloc _
  have y1 : Blk W1 w.heap.size 51 #[.string nm, .slice A its.length cp, .int .i64 pl] := by rw [hW1]; exact Blk.new _ _ _
  have HW := Lib.hid hW1
  clear hW1
  have LK := Lib.hid (fun n => look_cls (w := W1.drewN n) (own_kmap hm (k1.drewN n) (fun h => h)) hD nm hns)
  have hz := hB.kp k1 (fun h => h)
  have c0 := hz.cell 0
  have lg := hz.lt
  have d0 := y1.cell 0
  have d2 := y1.cell 2
  have l1 := y1.lt
  simp at c0 d0 d2
  cases hx : lookX cl nm with
  | some y =>
    rw [hx] at LK hlk
    simp only [Option.isSome_some] at LK
    have HS : Hid (classB (cl.map ClsX.d) ⟨nm, its, pl⟩ = .error (pl, 80)) := Lib.hid (by unfold classB; rw [hlk]; rfl)
    have L1 := fun n => LK.out n
    clear LK hlk hD hm hx hz y1 hr
    go_enter Tryz.func66, Tryz.ntmps66
    go_upto_region 1 with (fail)
    rw [← HW.out]
    go_quiet (fail)
    go_wp2
    go_ret
    exact .inl ⟨_, _, HS.out, rfl, k1.drewN _⟩
  | none =>
    rw [hx] at LK hlk
    simp only [Option.isSome_none] at LK
    have HS : Hid (classB (cl.map ClsX.d) ⟨nm, its, pl⟩ = match itemsB (cl.map ClsX.d) its with | .error e => .error e | .ok ss => .ok (cl.map ClsX.d ++ [(nm, normS ss.flatten)])) := Lib.hid (by
      unfold classB
      rw [hlk]
      simp only [Option.map_none, Option.isSome_none, Bool.false_eq_true, if_false]
      cases itemsB (cl.map ClsX.d) its <;> rfl)
    have L1 := fun n => LK.out n
    have HX := Lib.hid hx
    have HR := Lib.hid hr
    have HIF := Lib.hid hif
    have HNM := Lib.hid hnm
    clear LK hlk hD hm hx hr hif hnm hz
    have d1 := y1.cell 1
    simp at d1
    go_enter Tryz.func66, Tryz.ntmps66
    go_upto_region 1 with (fail)
    rw [← HW.out]
    go_quiet (fail)
    go_wp2
    clear L1 c0 d0 d1 d2
    have HY := Lib.hid y1
    have kq : K0 w (W1.drewN nq) := k1.drewN _
    generalize hWq : W1.drewN nq = Wq at *
    have y1 : Blk Wq w.heap.size 51 #[.string nm, .slice A its.length cp, .int .i64 pl] := by rw [← hWq]; exact HY.out
    clear hWq HY
    go_loopw [7, 30] (fun av i wr => ∃ (q : Nat) (ss : List (List Sp)) (F : List Sp), q ≤ its.length ∧ i = .int .i64 (q : Int) ∧ Hid (itemsB (cl.map ClsX.d) (its.take q) = .ok ss) ∧ Hid (F = ss.flatten) ∧ wr.ownsRow Wq.heap.size 61 2 av F.length (spcs F) ∧ F.length ≤ q * 256 ∧ K0 Wq wr) (fun av i wr => its.length - (intOf i).toNat)
    case atStart => exact ⟨0, [], [], by omega, rfl, Lib.hid rfl, Lib.hid rfl, World.ownsRow_nil _ _ _ _, by simp, Kp.refl _ _⟩
    case round =>
      obtain ⟨q, ss, F, hq, rfl, hss, hF, ho, hfl, hk⟩ := hrel
      have kr := kq.trans hk
      obtain ⟨Av, cv, rfl, _, _⟩ := own_form ho
      by_cases hlt : q < its.length
      · obtain ⟨ad, rfl, hb, x0, x1, x2, x3⟩ := (HR.out.k0 (Nat.le_refl _) kr).item hlt
        have hat := items_at hss.out hlt
        have hnq := HNM.out _ (List.getElem_mem hlt)
        have SET := Lib.hid (fun W (hk : K0 wr W) => set_any W base gb bm cl vt vo its[q] (hB.kp (kr.trans hk) (fun h => h)) (hC.k0 (kr.trans hk)) hnq)
        generalize its[q] = it at x0 x1 x2 x3 hat hnq SET
        obtain ⟨inm, ilo, ihi, ipl⟩ := it
        simp only [] at x0 x1 x2 x3 hnq SET
        have HAT := Lib.hid hat
        clear hat
        go_wp2_with fail
        refine (SET.out _ ((Kp.refl _ _).alloc _)).mono ?_
        rintro e w2 h
        rcases h with ⟨hn, rfl, hk2⟩ | ⟨s, A2, c2, hs, hsl, rfl, ho2, hk2⟩
        · have HE := Lib.hid (HAT.out.1 hn)
          have hq1 := fun W => fault_ne ipl 81 W
          unfold faultV at hq1 ⊢
          go_wp2
          go_ret
          refine .inl ⟨_, _, by rw [HS.out, HE.out], rfl, (kr.alloc _).trans hk2⟩
        · have HS2 := Lib.hid (HAT.out.2 s hs)
          have hs2 := hk2.size
          have hsz := hk.size
          simp only [World.size_alloc] at hs2
          have ho' := own_far (ho.alloc (.cells #[.string inm, .int .i64 ilo, .int .i64 ihi, .int .i64 ipl] 53)) hk2 (fun _ _ h => h)
          go_wp2_with (at_builtin; refine wpList_append_any _ rfl (.tmp 43) (.tmp 44) _ rfl Wq.heap.size 61 i0 _ 2 16 Tryz.underlying62 hi hz0 hz1 hz2 rfl (by omega) (.slice Av F.length cv) F.length (spcs F) rfl (by exact ho') w2.heap.size A2 s.length c2 (spcs s) rfl (by exact Reads.of_own ho2) (spcs_one s) (by simp only [maxLen]; omega) (by omega) (by omega) ?_; intro v3 w3 ho3 hg3 hat3)
          refine ⟨⟨q + 1, ss ++ [s], F ++ s, by omega, by go_num, HS2, Lib.hid ?_, ?_, ?_, ?_⟩, by simp [intOf]; omega⟩
          · rw [List.flatten_append, List.flatten_singleton, hF.out]
          · rw [spcs_append, List.length_append]
            exact ho3
          · rw [List.length_append]; omega
          · exact ((hk.alloc _).trans hk2).grown hg3 (fun b hb => .inl (ho'.lt b hb).1)
      · obtain rfl : q = its.length := by omega
        have hss := hss.out
        rw [List.take_length] at hss
        obtain ⟨hgs, hgl⟩ := itemsB_good hg HIF.out hss
        have hne : ss ≠ [] := fun e => hine (List.eq_nil_of_length_eq_zero (by rw [← hgl, e]; rfl))
        have hng := norm_good hgs hne
        have hff := flat_fits hgs
        have hfne : F ≠ [] := by
          obtain ⟨s0, t0, rfl⟩ := List.exists_cons_of_ne_nil hne
          have := (hgs s0 (by simp)).2
          rw [hF.out]
          simp [this]
        have hFe := hF.out
        rw [← hFe] at hng hff
        have HB : Hid (classB (cl.map ClsX.d) ⟨nm, its, pl⟩ = .ok (cl.map ClsX.d ++ [(nm, normS F)])) := Lib.hid (by rw [HS.out, hss, hFe])
        have CB := Lib.hid (fun W (hkW : K0 wr W) => hC.k0 (kr.trans hkW))
        have NO := Lib.hid (fun W (hkW : K0 wr W) => spnorm_any W _ cv F ((Reads.of_own ho).k0 (Nat.le_refl _) hkW |>.more hkW.size) hfne (by omega) hff (by have := goodS_len hng; omega))
        have hnl2 := goodS_len hng
        have y2 := y1.kp hk (fun h => h)
        have c0 := (hB.kp kr (fun h => h)).cell 0
        have lg := (hB.kp kr (fun h => h)).lt
        have d0 := y2.cell 0
        have l2 := y2.lt
        simp at c0 d0
        have HG := Lib.hid hng
        clear hss hgs hgl hne hff hfne hng hFe hF
        generalize normS F = R at *
        go_wp2
        go_region_held3 (fun w' => w'.cell? ⟨gb, 0, none⟩ = some (.map (some bm)) ∧ w'.cell? ⟨w.heap.size, 0, none⟩ = some (.string nm)) (go_keep) ((go_at_call 90; refine (NO.out _ (by first | exact (Kp.refl _ _).drew | exact ((Kp.refl _ _).drewN _))).mono ?_; rintro e w2 ⟨A2, c2, rfl, ho2, hk2⟩; have q0 := (hk2.cell (p := ⟨gb, 0, none⟩) (by exact lg) (fun h => h)).trans (by exact c0); have q1 := (hk2.cell (p := ⟨w.heap.size, 0, none⟩) (by exact l2) (fun h => h)).trans (by exact d0); obtain ⟨D2, hm2, hD2⟩ := (CB.out w2 (by first | exact (Kp.refl _ _).drew.trans hk2 | exact ((Kp.refl _ _).drewN _).trans hk2)).mp; obtain ⟨w9, hrun, hown9, hg9⟩ := hm2.update law9 Tryz.underlying80 (by simp only [maxLen]; omega) (keyOf_string_mk Tryz.underlying9 (by simp only [maxLen]; omega : nm.size ≤ maxLen)) (val := .slice A2 R.length c2) (d := .held (.slice A2 R.length c2)) (ps := []) rfl; have k9 : Kp (fun k => k = bm) w2 w9 := (Kp.refl _ _).grown hg9 (fun b hb => .inr (by cases hb; rfl)); have sz2 : wr.heap.size ≤ w2.heap.size := (by exact hk2.size); have r0 := (k9.cell (p := ⟨gb, 0, none⟩) (by show gb < w2.heap.size; omega) hgm).trans q0; have r1 := (k9.cell (p := ⟨w.heap.size, 0, none⟩) (by show w.heap.size < w2.heap.size; omega) (by show ¬ w.heap.size = bm; omega)).trans q1))
        go_wp2
        go_ret
        have k2 : K0 w w2 := kr.drew.trans hk2
        have nbm : ∀ {v : Value} {n : Nat} {xs : List Value} {b : Nat}, w2.ownsRow b 61 2 v n xs → ∀ g, v.ownBlock = some g → ¬ g = bm := fun ho g hg => by
          obtain ⟨cs, hb⟩ := own_blk ho g hg
          exact map_ne_blk hm2 hb
        have hrows := (CB.out w2 (by exact (Kp.refl _ _).drew.trans hk2)).rows
        refine .inr ⟨⟨nm, R, .slice A2 R.length c2⟩, ?_, rfl, ⟨⟨_, by rw [List.length_append]; exact hown9, hD2.add HX.out⟩, fun x hx => ?_, by rw [List.length_append, List.length_singleton]; omega⟩, (K0.kp k2).trans k9⟩
        · rw [HB.out, List.map_append]; rfl
        · rcases List.mem_append.1 hx with hx | hx
          · exact ⟨own_far (hrows x hx).1 k9 (nbm (hrows x hx).1), (hrows x hx).2⟩
          · simp only [List.mem_singleton] at hx
            subst hx
            have ho3 := own_mono ho2 (show base ≤ wr.heap.size by have := kr.size; omega)
            exact ⟨own_far ho3 k9 (nbm ho3), hnl2⟩
end Go.Proofs.YtobofhiakgohfaaGreatDoor
