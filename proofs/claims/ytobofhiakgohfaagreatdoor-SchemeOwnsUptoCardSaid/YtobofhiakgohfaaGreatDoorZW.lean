/- The document's way to a scheme; the order of a class's items, and places, make no difference: plain Lean. -/
import Derived.Test.YtobofhiakgohfaaGreatDoorZP
import Derived.Test.YtobofhiakgohfaaGreatDoorZK
set_option linter.unusedVariables false
set_option linter.unusedSimpArgs false
namespace Go.Proofs.YtobofhiakgohfaaGreatDoor

/-- Is a byte a member? -/
def memB (s : List Sp) (x : Int) : Bool := okS 255 s && s.any fun r => decide (r.1 ≤ x ∧ x ≤ r.2)
theorem memB_iff (s : List Sp) (x : Int) : memB s x = true ↔ okS 255 s = true ∧ memS s x := by
  unfold memB memS
  simp
theorem size_cnt (s : List Sp) : cnt (memB s) 0 256 = szB s := by
  unfold szB
  split
  · rename_i h
    exact cnt_size (top := 255) (memB s) s (-2) 0 256 h (by omega) (by omega) fun x _ _ => by rw [memB_iff]; simp [h]
  · rename_i h
    refine cnt_none 256 0 fun x _ _ => ?_
    cases hx : memB s x
    · rfl
    · exact absurd ((memB_iff s x).1 hx).1 h
theorem set_flat {ss : List (List Sp)} (h : ∀ s ∈ ss, goodS s) : setM (fun x => ss.any fun s => memB s x) 256 = normS ss.flatten := by
  have h1 := setM_ok (fun x => ss.any fun s => memB s x) 256
  have h2 := norm_ok (top := 255) (flat_fits h)
  refine okS_eq (top := 255) h1.1 h2.1 fun x => (h1.2 x).trans (Iff.trans ?_ (h2.2 x).symm)
  constructor
  · rintro ⟨_, _, hx⟩
    obtain ⟨s, hs, hm⟩ := List.any_eq_true.1 hx
    obtain ⟨r, hr, hm⟩ := ((memB_iff s x).1 hm).2
    exact ⟨r, List.mem_flatten.2 ⟨s, hs, hr⟩, hm⟩
  · rintro ⟨r, hr, hm⟩
    obtain ⟨s, hs, hr⟩ := List.mem_flatten.1 hr
    have hf := goodS_fits (h s hs) r hr
    unfold fitsS at hf
    exact ⟨by omega, by omega, List.any_eq_true.2 ⟨s, hs, (memB_iff s x).2 ⟨(h s hs).1, r, hr, hm⟩⟩⟩
theorem any_snoc {ss : List (List Sp)} {s : List Sp} (x : Int) : ((ss ++ [s]).any fun s => memB s x) = ((ss.any fun s => memB s x) || memB s x) := by simp

/-! ## Errors without their places -/
def codeE {α : Type} : Except (Int × Int) α → Except Int α
  | .error e => .error e.2
  | .ok x => .ok x
theorem codeE_eq {α : Type} {x y : Except (Int × Int) α} (h : codeE x = codeE y) : (∃ p q e, x = .error (p, e) ∧ y = .error (q, e)) ∨ ∃ v, x = .ok v ∧ y = .ok v := by
  cases x with
  | error e =>
    cases y with
    | error e' =>
      obtain ⟨p, c⟩ := e
      obtain ⟨q, c'⟩ := e'
      have hc : c = c' := by simpa [codeE] using h
      subst hc
      exact .inl ⟨p, q, c, rfl, rfl⟩
    | ok v => simp [codeE] at h
  | ok v =>
    cases y with
    | error e' => simp [codeE] at h
    | ok v' =>
      have hc : v = v' := by simpa [codeE] using h
      subst hc
      exact .inr ⟨v, rfl, rfl⟩

/-! ## Items -/
theorem items_ok {cl : ClsT} : ∀ {l : List ItemD}, (∀ x ∈ l, setI cl x ≠ none) → itemsB cl l = .ok (l.map fun x => (setI cl x).getD [])
  | [], _ => rfl
  | x :: t, h => by
    rw [itemsB]
    cases hs : setI cl x with
    | none => exact absurd hs (h x (by simp))
    | some s => rw [items_ok (fun y hy => h y (by simp [hy]))]; simp [hs]
theorem items_err {cl : ClsT} : ∀ {l : List ItemD}, (∃ x ∈ l, setI cl x = none) → ∃ p, itemsB cl l = .error (p, 81)
  | [], ⟨x, hx, _⟩ => by cases hx
  | x :: t, ⟨y, hy, he⟩ => by
    rw [itemsB]
    cases hs : setI cl x with
    | none => exact ⟨_, rfl⟩
    | some s =>
      rcases List.mem_cons.1 hy with rfl | hy
      · rw [hs] at he; cases he
      · obtain ⟨p, hp⟩ := items_err ⟨y, hy, he⟩
        rw [hp]
        exact ⟨p, rfl⟩
/-- The same items, in whatever order, with whatever places. -/
theorem items_perm {cl : ClsT} {l m : List ItemD} (h : (l.map erI).Perm (m.map erI)) : (∃ p q, itemsB cl l = .error (p, 81) ∧ itemsB cl m = .error (q, 81)) ∨ ∃ a b, itemsB cl l = .ok a ∧ itemsB cl m = .ok b ∧ a.Perm b ∧ ((l.map erI = m.map erI) → a = b) := by
  have hs : ∀ x, setI cl (erI x) = setI cl x := fun _ => rfl
  have tr : ∀ {l m : List ItemD}, (l.map erI).Perm (m.map erI) → ∀ x ∈ l, ∃ y ∈ m, setI cl y = setI cl x := by
    intro l m h x hx
    obtain ⟨y, hy, e⟩ := List.mem_map.1 (h.mem_iff.1 (List.mem_map.2 ⟨x, hx, rfl⟩))
    exact ⟨y, hy, by rw [← hs y, e, hs]⟩
  by_cases hn : ∃ x ∈ l, setI cl x = none
  · obtain ⟨x, hx, he⟩ := hn
    obtain ⟨y, hy, e⟩ := tr h x hx
    obtain ⟨p, hp⟩ := items_err ⟨x, hx, he⟩
    obtain ⟨q, hq⟩ := items_err ⟨y, hy, e.trans he⟩
    exact .inl ⟨p, q, hp, hq⟩
  · have hl : ∀ x ∈ l, setI cl x ≠ none := fun x hx e => hn ⟨x, hx, e⟩
    have hm : ∀ x ∈ m, setI cl x ≠ none := fun x hx e => by
      obtain ⟨y, hy, e2⟩ := tr h.symm x hx
      exact hl y hy (e2.trans e)
    have em : ∀ k : List ItemD, (k.map fun x => (setI cl x).getD []) = (k.map erI).map fun x => (setI cl x).getD [] := fun k => by rw [List.map_map]; rfl
    refine .inr ⟨_, _, items_ok hl, items_ok hm, ?_, fun e => ?_⟩
    · rw [em l, em m]
      exact h.map _
    · rw [em l, em m, e]
theorem flat_same {a b : List (List Sp)} (h : a.Perm b) (ha : ∀ s ∈ a, goodS s) : normS a.flatten = normS b.flatten := by
  refine norm_same (top := 255) (flat_fits ha) (flat_fits fun s hs => ha s (h.mem_iff.2 hs)) fun x => ?_
  constructor
  · rintro ⟨r, hr, hm⟩
    obtain ⟨s, hs, hr⟩ := List.mem_flatten.1 hr
    exact ⟨r, List.mem_flatten.2 ⟨s, h.mem_iff.1 hs, hr⟩, hm⟩
  · rintro ⟨r, hr, hm⟩
    obtain ⟨s, hs, hr⟩ := List.mem_flatten.1 hr
    exact ⟨r, List.mem_flatten.2 ⟨s, h.mem_iff.2 hs, hr⟩, hm⟩

/-! ## Descriptions that mean one scheme -/
def likeC (a b : ClassD) : Prop := a.nm = b.nm ∧ (a.its.map erI).Perm (b.its.map erI)
def likeS (a b : ShapeD) : Prop := a.first = b.first ∧ a.its.map erI = b.its.map erI
def All2 {α : Type} (R : α → α → Prop) : List α → List α → Prop
  | [], [] => True
  | a :: l, b :: m => R a b ∧ All2 R l m
  | _, _ => False
theorem all_perm {l m : List ItemD} (h : (l.map erI).Perm (m.map erI)) : l.all fitB = m.all fitB := by
  have e : ∀ k : List ItemD, k.all fitB = (k.map erI).all fitB := fun k => by rw [List.all_map]; rfl
  rw [e l, e m]
  rw [Bool.eq_iff_iff, List.all_eq_true, List.all_eq_true]
  exact ⟨fun hx x hy => hx x (h.mem_iff.2 hy), fun hx x hy => hx x (h.mem_iff.1 hy)⟩
theorem fits_perm {n : Nat} {l m : List ItemD} (h : (l.map erI).Perm (m.map erI)) : fitsB n l = fitsB n m := by
  have hl := h.length_eq
  simp only [List.length_map] at hl
  unfold fitsB
  rw [hl, all_perm h]
theorem fitC_like {a b : ClassD} (h : likeC a b) : fitC a = fitC b := by
  unfold fitC
  rw [h.1, fits_perm h.2]
theorem fitS_like {a b : ShapeD} (h : likeS a b) : fitS a = fitS b := by
  unfold fitS
  rw [h.1, fits_perm (List.Perm.of_eq h.2)]
theorem all2_len {α : Type} {R : α → α → Prop} : ∀ {l m : List α}, All2 R l m → l.length = m.length
  | [], [], _ => rfl
  | [], _ :: _, h => by cases h
  | _ :: _, [], h => by cases h
  | _ :: l, _ :: m, h => by simp [all2_len (l := l) (m := m) h.2]
theorem all2_all {α : Type} {R : α → α → Prop} {p : α → Bool} (hR : ∀ a b, R a b → p a = p b) : ∀ {l m : List α}, All2 R l m → l.all p = m.all p
  | [], [], _ => rfl
  | [], _ :: _, h => by cases h
  | _ :: _, [], h => by cases h
  | a :: l, b :: m, h => by rw [List.all_cons, List.all_cons, hR _ _ h.1, all2_all hR h.2]
theorem fitD_like {a b : DescD} (hc : All2 likeC a.cls b.cls) (hs : All2 likeS a.shs b.shs) : fitD a = fitD b := by
  unfold fitD
  rw [all2_len hc, all2_len hs, all2_all (p := fitC) (fun _ _ h => fitC_like h) hc, all2_all (p := fitS) (fun _ _ h => fitS_like h) hs]
theorem class_like {cl : ClsT} {a b : ClassD} (h : likeC a b) (hg : goodC cl) (hf : fitC a = true) : codeE (classB cl a) = codeE (classB cl b) := by
  unfold classB
  rw [h.1]
  split
  · rfl
  · unfold fitC at hf
    rw [Bool.and_eq_true] at hf
    rcases items_perm (cl := cl) h.2 with ⟨p, q, h1, h2⟩ | ⟨x, y, h1, h2, h3, _⟩
    · rw [h1, h2]; rfl
    · rw [h1, h2]
      simp only []
      rw [flat_same h3 (itemsB_good hg (fitsB_all hf.2).1 h1).1]
theorem classes_like : ∀ {l m : List ClassD} {cl : ClsT}, All2 likeC l m → goodC cl → (∀ c ∈ l, fitC c = true) → codeE (classesB cl l) = codeE (classesB cl m)
  | [], [], _, _, _, _ => rfl
  | [], _ :: _, _, h, _, _ => by cases h
  | _ :: _, [], _, h, _, _ => by cases h
  | a :: l, b :: m, cl, ⟨h, t⟩, hg, hf => by
    have hfa := hf a (by simp)
    rw [classesB, classesB]
    rcases codeE_eq (class_like h hg hfa) with ⟨p, q, e, h1, h2⟩ | ⟨v, h1, h2⟩
    · rw [h1, h2]; rfl
    · rw [h1, h2]
      exact classes_like t (classB_good hg hfa h1) (fun c hc => hf c (by simp [hc]))
theorem shape_like {cl : ClsT} {out : SchD} {a b : ShapeD} (h : likeS a b) : codeE (shapeB cl out a) = codeE (shapeB cl out b) := by
  unfold shapeB
  rcases items_perm (cl := cl) (List.Perm.of_eq h.2) with ⟨p, q, h1, h2⟩ | ⟨x, y, h1, h2, _, h4⟩
  · rw [h1, h2]; rfl
  · obtain rfl := h4 h.2
    rw [h1, h2, h.1]
    simp only []
    split
    · rfl
    · split <;> rfl
theorem shapes_like {cl : ClsT} : ∀ {l m : List ShapeD} {out : SchD}, All2 likeS l m → codeE (shapesB cl out l) = codeE (shapesB cl out m)
  | [], [], _, _ => rfl
  | [], _ :: _, _, h => by cases h
  | _ :: _, [], _, h => by cases h
  | a :: l, b :: m, out, ⟨h, t⟩ => by
    rw [shapesB, shapesB]
    rcases codeE_eq (shape_like (cl := cl) (out := out) h) with ⟨p, q, e, h1, h2⟩ | ⟨v, h1, h2⟩
    · rw [h1, h2]; rfl
    · rw [h1, h2]
      exact shapes_like t
theorem build_like {a b : DescD} (hc : All2 likeC a.cls b.cls) (hs : All2 likeS a.shs b.shs) : codeE (buildR a) = codeE (buildR b) := by
  unfold buildR
  rw [← fitD_like hc hs]
  split
  · rfl
  · rename_i hf
    have hf : fitD a = true := by simpa using hf
    unfold fitD at hf
    simp only [Bool.and_eq_true, decide_eq_true_eq, List.all_eq_true] at hf
    rcases codeE_eq (classes_like (cl := []) hc (fun p hp => by cases hp) hf.1.2) with ⟨p, q, e, h1, h2⟩ | ⟨v, h1, h2⟩
    · rw [h1, h2]; rfl
    · rw [h1, h2]
      exact shapes_like hs
theorem all2_map {α β : Type} {R : α → α → Prop} {g : α → β} (hR : ∀ a b, g a = g b → R a b) : ∀ {l m : List α}, l.map g = m.map g → All2 R l m
  | [], [], _ => trivial
  | [], _ :: _, h => by simp at h
  | _ :: _, [], h => by simp at h
  | a :: l, b :: m, h => by
    simp only [List.map_cons, List.cons.injEq] at h
    exact ⟨hR _ _ h.1, all2_map hR h.2⟩
theorem all2_self {α : Type} {R : α → α → Prop} {f : α → α} (hR : ∀ a, R a (f a)) : ∀ l : List α, All2 R l (l.map f)
  | [] => trivial
  | a :: l => ⟨hR a, all2_self hR l⟩
/-- Places make no difference. -/
theorem build_er {a b : DescD} (h : erD a = erD b) : codeE (buildR a) = codeE (buildR b) := by
  have h1 : a.cls.map erC = b.cls.map erC := congrArg DescD.cls h
  have h2 : a.shs.map erS = b.shs.map erS := congrArg DescD.shs h
  refine build_like (all2_map (g := erC) (fun x y (e : erC x = erC y) => ?_) h1) (all2_map (g := erS) (fun x y (e : erS x = erS y) => ?_) h2)
  · have e1 : (erC x).nm = (erC y).nm := congrArg ClassD.nm e
    have e2 : (erC x).its = (erC y).its := congrArg ClassD.its e
    exact ⟨e1, List.Perm.of_eq e2⟩
  · have e1 : (erS x).first = (erS y).first := congrArg ShapeD.first e
    have e2 : (erS x).its = (erS y).its := congrArg ShapeD.its e
    exact ⟨e1, e2⟩
def revC (c : ClassD) : ClassD := ⟨c.nm, c.its.reverse, c.pl⟩
/-- Nor does the order of a class's items. -/
theorem build_rev (d : DescD) : codeE (buildR d) = codeE (buildR ⟨d.cls.map revC, d.shs⟩) := by
  have h1 : All2 likeC d.cls (d.cls.map revC) := all2_self (fun a => ⟨rfl, by
    show (a.its.map erI).Perm (a.its.reverse.map erI)
    rw [List.map_reverse]
    exact (List.reverse_perm _).symm⟩) _
  have h2 : All2 likeS d.shs (d.shs.map id) := all2_self (R := likeS) (f := id) (fun a => ⟨rfl, rfl⟩) d.shs
  rw [List.map_id] at h2
  exact build_like h1 h2
end Go.Proofs.YtobofhiakgohfaaGreatDoor
