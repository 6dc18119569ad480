/- The errors' numbers: list, Num. -/
import Derived.Test.YtppebegleedifaaDoorXs
import Derived.Deep.WholeRow
namespace Go.Proofs.YtppebegleedifaaDoor
open Go.RowKit

/-- The errors' variables hold nineteen different pointers. -/
structure ErA (w : World) (a : Nat → Addr) : Prop where
  cell : ∀ g, g < 19 → w.cell? ⟨g, 0, none⟩ = some (eV a g)
  row : ∀ g, g < 19 → ∃ ca ta, w.heap[(a g).block]? = some (.cells ca ta (0, 0))
  ne : ∀ g h, g < 19 → h < 19 → g ≠ h → a g ≠ a h
theorem ErA.ers {w : World} {a : Nat → Addr} (h : ErA w a) : Ers w (eV a) := ⟨fun g hg => h.cell g (by omega)⟩
theorem ErA.below {w w' : World} {a : Nat → Addr} (h : ErA w a) (hb : Below w.heap.size w w') : ErA w' a := by
  refine ⟨fun g hg => (hb.cell (World.block_lt_of_cell? w _ (h.cell g hg))).trans (h.cell g hg), fun g hg => ?_, h.ne⟩
  obtain ⟨ca, ta, hr⟩ := h.row g hg
  exact ⟨ca, ta, by rw [hb.block _ (Array.getElem?_eq_some_iff.1 hr).1]; exact hr⟩
theorem ErA.drewN {w : World} {a : Nat → Addr} (h : ErA w a) (m : Nat) : ErA (w.drewN m) a := ⟨h.cell, h.row, h.ne⟩
/-- Place i of the list is this variable. -/
def sg : Nat → Nat := fun i => #[4, 5, 6, 7, 8, 9, 0, 10, 11, 12, 3, 13, 14, 15, 16, 17, 2, 18, 1].getD i 0
def listV (a : Nat → Addr) : Array Value := #[eV a 4, eV a 5, eV a 6, eV a 7, eV a 8, eV a 9, eV a 0, eV a 10, eV a 11, eV a 12, eV a 3, eV a 13, eV a 14, eV a 15, eV a 16, eV a 17, eV a 2, eV a 18, eV a 1]
section
variable {P : Program} {w : World} {ops : Array Oper} {rest : List Oper} {o : Oper} {a : Act} {Q : Exit → Act → World → Prop}
theorem wpl_ld (hg : o.guard = none) (t : TypeId) (x : Operand) (hop : o.op = Op.load t x) (p : Addr) (hx : a.eval x = .pointer (some p)) (hagg : ∀ w : World, (isAgg t).run P w = .ok false w) {v : Value} (hc : w.cell? p = some v)
    (hK : wpList P ops Q rest (a.put o.dst v) w) : wpList P ops Q (o :: rest) a w := by
  refine wpList_plain hg fun K hK' => ?_
  unfold Oper.wp
  simp [execOp, hop, hx, Instr.loadAt, Instr.sureAddr, loadVar, hagg, Result.andThen, hc]
  exact hK' _ _ hK
end
theorem wpl_stnew {P : Program} {w0 : World} {ops : Array Oper} {rest : List Oper} {o : Oper} {a : Act} {Q : Exit → Act → World → Prop} (hg : o.guard = none) (t : TypeId) (x y : Operand) (hop : o.op = Op.store t x y) (c c' : Array Value) (hx : a.eval x = .pointer (some ⟨w0.heap.size, 0, none⟩)) (hy : a.eval y = .agg c')
    (hi : (P.info? t).map (·.size) = some c'.size) (ho : c.size = c'.size) (h1 : c'.all (·.oneCell') = true) (hK : wpList P ops Q rest (a.put o.dst undef) (w0.alloc (.cells c' t))) : wpList P ops Q (o :: rest) a (w0.alloc (.cells c t)) := by
  refine wpList_plain hg fun K hK' => ?_
  unfold Oper.wp execOp
  simp only [hop, hx, hy, Instr.storeAt, Instr.sureAddr, Sem.run_bind, Sem.run_pure, Result.andThen_ok, run_storeVar_new w0 t c c' hi ho h1]
  exact hK' _ _ hK
theorem wpl_build {P : Program} {w : World} {ops : Array Oper} {rest : List Oper} {o : Oper} {a : Act} {Q : Exit → Act → World → Prop} (hg : o.guard = none) (t : TypeId) (parts : Array (Nat × Operand)) (ho : o.op = .build t parts) (cells : Array Value)
    (hf : P.built t (parts.map fun (i, x) => (i, a.eval x)).toList = some cells) (h : wpList P ops Q rest (a.put o.dst (.agg cells)) w) : wpList P ops Q (o :: rest) a w :=
  wpList_build hg t parts ho (by rw [hf]; rfl) (by rw [hf]; exact h)
theorem size62 : (Tryd.prog.info? 62).map (·.size) = some 19 := by kernel_rfl
theorem isAgg26 (w : World) : (isAgg 26).run Tryd.prog w = .ok false w := by
  unfold isAgg
  rw [Sem.run_bind, run_underlying Tryd.underlying26 w]
  rfl
set_option maxRecDepth 8000 in
set_option maxHeartbeats 2000000 in
theorem list_any (a : Nat → Addr) (w : World) (hE : ErA w a) : Calls Tryd.prog 32 #[] w fun e w' => e = .returned (.agg (listV a)) ∧ Below w.heap.size w w' := by
  have HC : Hid (∀ g, g < 19 → ∀ o : Obj, (w.alloc o).cell? ⟨g, 0, none⟩ = some (eV a g)) := fun g hg o => (hE.below ((Below.refl _ _).alloc (Nat.le_refl _) _)).cell g hg
  have hb : Hid (∀ o : Obj, Below w.heap.size w (w.alloc o)) := fun o => (Below.refl _ _).alloc (Nat.le_refl _) _
  have HI : Hid (∀ w : World, (isAgg 26).run Tryd.prog w = .ok false w) := isAgg26
  clear hE
  go_enter Tryd.func32, Tryd.ntmps32
  go_wp2_with (first
    | ((with_reducible show wpList _ _ _ (⟨some 20, _, _, _, _, _⟩ :: _) _ _); refine wpl_build rfl 62 _ rfl (listV a) (by kernel_rfl) ?_; simp only [Act.put, List.setIfInBounds_toArray, List.set_cons_succ, List.set_cons_zero])
    | ((with_reducible show wpList _ _ _ (⟨none, _, _, _, _, _⟩ :: _) _ _); refine wpl_stnew rfl 62 _ _ rfl _ (listV a) rfl rfl size62 rfl (by kernel_rfl) ?_)
    | ((with_reducible show wpList _ _ _ (⟨some 1, _, _, _, _, _⟩ :: _) _ _); refine wpl_ld rfl 26 _ rfl ⟨4, 0, none⟩ rfl HI.out (HC.out 4 (by decide) _) ?_; simp only [Act.put, List.setIfInBounds_toArray, List.set_cons_succ, List.set_cons_zero])
    | ((with_reducible show wpList _ _ _ (⟨some 2, _, _, _, _, _⟩ :: _) _ _); refine wpl_ld rfl 26 _ rfl ⟨5, 0, none⟩ rfl HI.out (HC.out 5 (by decide) _) ?_; simp only [Act.put, List.setIfInBounds_toArray, List.set_cons_succ, List.set_cons_zero])
    | ((with_reducible show wpList _ _ _ (⟨some 3, _, _, _, _, _⟩ :: _) _ _); refine wpl_ld rfl 26 _ rfl ⟨6, 0, none⟩ rfl HI.out (HC.out 6 (by decide) _) ?_; simp only [Act.put, List.setIfInBounds_toArray, List.set_cons_succ, List.set_cons_zero])
    | ((with_reducible show wpList _ _ _ (⟨some 4, _, _, _, _, _⟩ :: _) _ _); refine wpl_ld rfl 26 _ rfl ⟨7, 0, none⟩ rfl HI.out (HC.out 7 (by decide) _) ?_; simp only [Act.put, List.setIfInBounds_toArray, List.set_cons_succ, List.set_cons_zero])
    | ((with_reducible show wpList _ _ _ (⟨some 5, _, _, _, _, _⟩ :: _) _ _); refine wpl_ld rfl 26 _ rfl ⟨8, 0, none⟩ rfl HI.out (HC.out 8 (by decide) _) ?_; simp only [Act.put, List.setIfInBounds_toArray, List.set_cons_succ, List.set_cons_zero])
    | ((with_reducible show wpList _ _ _ (⟨some 6, _, _, _, _, _⟩ :: _) _ _); refine wpl_ld rfl 26 _ rfl ⟨9, 0, none⟩ rfl HI.out (HC.out 9 (by decide) _) ?_; simp only [Act.put, List.setIfInBounds_toArray, List.set_cons_succ, List.set_cons_zero])
    | ((with_reducible show wpList _ _ _ (⟨some 7, _, _, _, _, _⟩ :: _) _ _); refine wpl_ld rfl 26 _ rfl ⟨0, 0, none⟩ rfl HI.out (HC.out 0 (by decide) _) ?_; simp only [Act.put, List.setIfInBounds_toArray, List.set_cons_succ, List.set_cons_zero])
    | ((with_reducible show wpList _ _ _ (⟨some 8, _, _, _, _, _⟩ :: _) _ _); refine wpl_ld rfl 26 _ rfl ⟨10, 0, none⟩ rfl HI.out (HC.out 10 (by decide) _) ?_; simp only [Act.put, List.setIfInBounds_toArray, List.set_cons_succ, List.set_cons_zero])
    | ((with_reducible show wpList _ _ _ (⟨some 9, _, _, _, _, _⟩ :: _) _ _); refine wpl_ld rfl 26 _ rfl ⟨11, 0, none⟩ rfl HI.out (HC.out 11 (by decide) _) ?_; simp only [Act.put, List.setIfInBounds_toArray, List.set_cons_succ, List.set_cons_zero])
    | ((with_reducible show wpList _ _ _ (⟨some 10, _, _, _, _, _⟩ :: _) _ _); refine wpl_ld rfl 26 _ rfl ⟨12, 0, none⟩ rfl HI.out (HC.out 12 (by decide) _) ?_; simp only [Act.put, List.setIfInBounds_toArray, List.set_cons_succ, List.set_cons_zero])
    | ((with_reducible show wpList _ _ _ (⟨some 11, _, _, _, _, _⟩ :: _) _ _); refine wpl_ld rfl 26 _ rfl ⟨3, 0, none⟩ rfl HI.out (HC.out 3 (by decide) _) ?_; simp only [Act.put, List.setIfInBounds_toArray, List.set_cons_succ, List.set_cons_zero])
    | ((with_reducible show wpList _ _ _ (⟨some 12, _, _, _, _, _⟩ :: _) _ _); refine wpl_ld rfl 26 _ rfl ⟨13, 0, none⟩ rfl HI.out (HC.out 13 (by decide) _) ?_; simp only [Act.put, List.setIfInBounds_toArray, List.set_cons_succ, List.set_cons_zero])
    | ((with_reducible show wpList _ _ _ (⟨some 13, _, _, _, _, _⟩ :: _) _ _); refine wpl_ld rfl 26 _ rfl ⟨14, 0, none⟩ rfl HI.out (HC.out 14 (by decide) _) ?_; simp only [Act.put, List.setIfInBounds_toArray, List.set_cons_succ, List.set_cons_zero])
    | ((with_reducible show wpList _ _ _ (⟨some 14, _, _, _, _, _⟩ :: _) _ _); refine wpl_ld rfl 26 _ rfl ⟨15, 0, none⟩ rfl HI.out (HC.out 15 (by decide) _) ?_; simp only [Act.put, List.setIfInBounds_toArray, List.set_cons_succ, List.set_cons_zero])
    | ((with_reducible show wpList _ _ _ (⟨some 15, _, _, _, _, _⟩ :: _) _ _); refine wpl_ld rfl 26 _ rfl ⟨16, 0, none⟩ rfl HI.out (HC.out 16 (by decide) _) ?_; simp only [Act.put, List.setIfInBounds_toArray, List.set_cons_succ, List.set_cons_zero])
    | ((with_reducible show wpList _ _ _ (⟨some 16, _, _, _, _, _⟩ :: _) _ _); refine wpl_ld rfl 26 _ rfl ⟨17, 0, none⟩ rfl HI.out (HC.out 17 (by decide) _) ?_; simp only [Act.put, List.setIfInBounds_toArray, List.set_cons_succ, List.set_cons_zero])
    | ((with_reducible show wpList _ _ _ (⟨some 17, _, _, _, _, _⟩ :: _) _ _); refine wpl_ld rfl 26 _ rfl ⟨2, 0, none⟩ rfl HI.out (HC.out 2 (by decide) _) ?_; simp only [Act.put, List.setIfInBounds_toArray, List.set_cons_succ, List.set_cons_zero])
    | ((with_reducible show wpList _ _ _ (⟨some 18, _, _, _, _, _⟩ :: _) _ _); refine wpl_ld rfl 26 _ rfl ⟨18, 0, none⟩ rfl HI.out (HC.out 18 (by decide) _) ?_; simp only [Act.put, List.setIfInBounds_toArray, List.set_cons_succ, List.set_cons_zero])
    | ((with_reducible show wpList _ _ _ (⟨some 19, _, _, _, _, _⟩ :: _) _ _); refine wpl_ld rfl 26 _ rfl ⟨1, 0, none⟩ rfl HI.out (HC.out 1 (by decide) _) ?_; simp only [Act.put, List.setIfInBounds_toArray, List.set_cons_succ, List.set_cons_zero]))
  refine bodyPost_ret (results_cell_row (p := 0) (ty := 62) ?_ _ _ w.heap.size 62 (listV a) (0, 0) _ ?_ (heap_alloc_new w _) Tryd.underlying62 rfl size62) ?_ ?_
  · rfl
  · rfl
  · rfl
  · exact ⟨rfl, hb.out _⟩
end Go.Proofs.YtppebegleedifaaDoor
