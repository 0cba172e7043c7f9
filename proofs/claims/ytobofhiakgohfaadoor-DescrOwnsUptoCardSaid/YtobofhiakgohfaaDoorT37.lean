/- descr: Parse's deferred closure. -/
import Derived.Test.YtobofhiakgohfaaDoorTH
import Derived.Test.YtobofhiakgohfaaDoorT13
import Derived.RecoverIn
import Derived.RegionIn
set_option linter.unusedVariables false
set_option linter.unusedSimpArgs false
namespace Go.Proofs.YtobofhiakgohfaaDoor
open Go.RowKit Go.Shelf
attribute [local go_sem] Oper.semAt_some

theorem wpIn_weak {F : Fence} {n : Nat} {P : Program} {c : Code} {Q Q' : Exit → Act → World → Prop} {a : Act} {w : World} (h : c.wpIn F n P Q' a w) (hq : ∀ e a' w', Q' e a' w' → Q e a' w') : c.wpIn F n P Q a w :=
  fun b k cs h1 h2 h3 => let ⟨e, a', w', q, r⟩ := h b k cs h1 h2 h3; ⟨e, a', w', hq _ _ _ q, r⟩

def IdleQ (w : World) (e : Exit) (a' : Act) (w' : World) : Prop := e = .normal ∧ a'.defers = [] ∧ w' = w
set_option maxRecDepth 100000 in
theorem closure_idle (n : Nat) (b2 b3 b4 : Addr) (w : World) :
    CallsDIn Fence.wide n Tryd.prog 65 #[.pointer (some b2), .pointer (some b3), .pointer (some b4)] .returning w fun e u' w' => e = .returned (.tuple #[]) ∧ u' = .returning ∧ w' = w := by
  refine callsDIn_of_wpSIn Tryd.func65 rfl trivial fun c₀ cs hu => ?_
  apply wpSIn_seq
  apply wpSIn_region
  simp [wpOpsSIn, go_sem, recoverD, hu, Tryd.ntmps65, Exit.thenS]
  refine wpSIn_of_wpIn rfl ?_
  refine wpIn_weak (Q' := IdleQ w) ?_ ?_
  · clear hu
    have hnil : ∀ w : World, (binOp BinOp.eql 20 .nilIface .nilIface).run Tryd.prog w = .ok (.bool true) w := fun _ => by kernel_rfl
    refine wpIn_block ?_
    refine wpIn_seq ?_
    refine wpIn_region_lit ?_
    simp [wpListIn, go_sem, hnil]
    refine wpIn_cond_true (by simp [Act.eval, Array.replicate]) ?_
    refine wpIn_region_lit ?_
    simp [wpListIn, go_sem, IdleQ, Exit.inBlock]
  · rintro e a' w' ⟨rfl, h1, rfl⟩
    cases c₀
    simp only [] at hu
    subst hu
    exact ⟨h1, .returning, rfl, .tuple #[], results_none rfl _ _ _, rfl, rfl, rfl⟩
/-- What the closure leaves behind a fault. -/
def CaughtQ (b2 b3 b4 : Nat) (p er : Int) (w : World) (e : Exit) (a' : Act) (w' : World) : Prop :=
  e = .normal ∧ a'.defers = [] ∧ Blk w' b2 25 #[.slice none 0 0, .slice none 0 0] ∧ Blk w' b3 3 #[.int .i64 p] ∧ Blk w' b4 28 #[.int .i64 er] ∧ Kp (fun k => k = b2 ∨ k = b3 ∨ k = b4) w w'

set_option maxRecDepth 100000 in
theorem closure_caught (n : Nat) (b2 b3 b4 : Nat) (x y z q : Value) (p er : Int) (older : List PanicEntry) (w : World) (h2 : Blk w b2 25 #[x, y]) (h3 : Blk w b3 3 #[z]) (h4 : Blk w b4 28 #[q]) :
    CallsDIn Fence.wide n Tryd.prog 65 #[.pointer (some ⟨b2, 0, none⟩), .pointer (some ⟨b3, 0, none⟩), .pointer (some ⟨b4, 0, none⟩)] (.panicking ({ v := .iface 105 (.agg #[.int .i64 p, .int .i64 er]), recovered := false } :: older)) w fun e u' w' =>
      e = .returned (.tuple #[]) ∧ u' = .panicking ({ v := .iface 105 (.agg #[.int .i64 p, .int .i64 er]), recovered := true } :: older) ∧
      Blk w' b2 25 #[.slice none 0 0, .slice none 0 0] ∧ Blk w' b3 3 #[.int .i64 p] ∧ Blk w' b4 28 #[.int .i64 er] ∧ Kp (fun k => k = b2 ∨ k = b3 ∨ k = b4) w w' := by
  have n23 := h2.ne_ h3 (by decide)
  have n24 := h2.ne_ h4 (by decide)
  have n34 := h3.ne_ h4 (by decide)
  have l2 := h2.lt
  have l3 := h3.lt
  have l4 := h4.lt
  have c20 := h2.cell 0
  have c21 := h2.cell 1
  have c3 := h3.cell 0
  have c4 := h4.cell 0
  have f20 := h2.frozen 0
  have f21 := h2.frozen 1
  have f3 := h3.frozen 0
  have f4 := h4.frozen 0
  simp at c20 c21 c3 c4
  refine callsDIn_of_wpSIn Tryd.func65 rfl trivial fun c₀ cs hu => ?_
  apply wpSIn_seq
  apply wpSIn_region
  simp [wpOpsSIn, go_sem, recoverD, hu, Tryd.ntmps65, Exit.thenS]
  refine wpSIn_of_wpIn rfl ?_
  refine wpIn_weak (Q' := CaughtQ b2 b3 b4 p er w) ?_ ?_
  · clear hu
    have hnil : ∀ w : World, (binOp BinOp.eql 20 (.iface 105 (.agg #[.int .i64 p, .int .i64 er])) .nilIface).run Tryd.prog w = .ok (.bool false) w := fun _ => by kernel_rfl
    have hta : ∀ w : World, (Instr.typeAssert (.iface 105 (.agg #[.int .i64 p, .int .i64 er])) 20 105 true).run Tryd.prog w = .ok (.tuple #[.agg #[.int .i64 p, .int .i64 er], .bool true]) w := fun _ => by kernel_rfl
    refine wpIn_block ?_
    refine wpIn_seq ?_
    refine wpIn_region_lit ?_
    simp [wpListIn, go_sem, hnil]
    refine wpIn_cond_false (by simp [Act.eval, Array.replicate]) ?_
    refine wpIn_seq ?_
    refine wpIn_region_lit ?_
    simp [wpListIn, go_sem, hta]
    refine wpIn_cond_true (by simp [Act.eval, Array.replicate]) ?_
    refine wpIn_seq ?_
    refine wpIn_region_lit ?_
    simp [wpListIn, go_sem]
    have F2 := Lib.hid (((((h2.set_ 0 (.slice none 0 0)).set_ 1 (.slice none 0 0)).far (p := ⟨b3, 0, none⟩) n23 (.int .i64 p)).far (p := ⟨b4, 0, none⟩) n24 (.int .i64 er)).alloc (.cells #[.int .i64 p, .int .i64 er] 105)).drew
    have F3 := Lib.hid (((((h3.far (p := ⟨b2, 0, none⟩) (Ne.symm n23) (.slice none 0 0)).far (p := ⟨b2, 1, none⟩) (Ne.symm n23) (.slice none 0 0)).set_ 0 (.int .i64 p)).far (p := ⟨b4, 0, none⟩) n34 (.int .i64 er)).alloc (.cells #[.int .i64 p, .int .i64 er] 105)).drew
    have F4 := Lib.hid (((((h4.far (p := ⟨b2, 0, none⟩) (Ne.symm n24) (.slice none 0 0)).far (p := ⟨b2, 1, none⟩) (Ne.symm n24) (.slice none 0 0)).far (p := ⟨b3, 0, none⟩) (Ne.symm n34) (.int .i64 p)).set_ 0 (.int .i64 er)).alloc (.cells #[.int .i64 p, .int .i64 er] 105)).drew
    have FK := Lib.hid ((((((Kp.refl (fun k => k = b2 ∨ k = b3 ∨ k = b4) w).setCell (p := ⟨b2, 0, none⟩) (.inr (.inl rfl)) (.slice none 0 0)).setCell (p := ⟨b2, 1, none⟩) (.inr (.inl rfl)) (.slice none 0 0)).setCell (p := ⟨b3, 0, none⟩) (.inr (.inr (.inl rfl))) (.int .i64 p)).setCell (p := ⟨b4, 0, none⟩) (.inr (.inr (.inr rfl))) (.int .i64 er)).alloc (.cells #[.int .i64 p, .int .i64 er] 105)).drew
    clear h2 h3 h4
    gi_region
    all_goals exact ⟨rfl, rfl, F2.out, F3.out, F4.out, FK.out⟩
  · rintro e a' w' ⟨rfl, h1, h2, h3, h4, hk⟩
    cases c₀
    simp only [] at hu
    subst hu
    exact ⟨h1, _, rfl, .tuple #[], results_none rfl _ _ _, rfl, rfl, h2, h3, h4, hk⟩
end Go.Proofs.YtobofhiakgohfaaDoor
