/- Words for the walks: slices that are read, and the laws of their operations. -/
import Derived.Test.YtdfbmfmfhdifpaaWd
namespace Go.Proofs.Ytdfbmfmfhdifpaa
open Go.RowKit

/-- A slice whose cells are read: its places 0 to n - 1 hold what f tells. -/
structure RS (w : World) (A : Option Addr) (n c : Nat) (f : Nat → Value) : Prop where
  nc : n ≤ c
  cm : c ≤ 9223372036854775807
  cell : ∀ j, j < n → ∃ ad, A = some ad ∧ w.cell? (ad.add j) = some (f j)

theorem add_add (ad : Addr) (i j : Nat) : (ad.add i).add j = ad.add (i + j) := by
  unfold Addr.add
  by_cases hi : i = 0
  · subst hi; simp
  · by_cases hj : j = 0
    · subst hj; simp [hi]
    · simp [hi, hj]; omega

theorem RS.congr {w : World} {A : Option Addr} {n c : Nat} {f g : Nat → Value} (h : RS w A n c f) (e : ∀ j, j < n → f j = g j) : RS w A n c g :=
  ⟨h.nc, h.cm, fun j hj => by rw [← e j hj]; exact h.cell j hj⟩
theorem RS.same {w w' : World} {A : Option Addr} {n c : Nat} {f : Nat → Value} (h : RS w A n c f) (e : w'.heap = w.heap) : RS w' A n c f :=
  ⟨h.nc, h.cm, fun j hj => by
    obtain ⟨ad, e1, hc⟩ := h.cell j hj
    exact ⟨ad, e1, by rw [← hc]; simp [World.cell?, e]⟩⟩
theorem RS.drewN {w : World} {A : Option Addr} {n c : Nat} {f : Nat → Value} (h : RS w A n c f) (m : Nat) : RS (w.drewN m) A n c f := ⟨h.nc, h.cm, h.cell⟩
theorem RS.below {w w' : World} {A : Option Addr} {n c : Nat} {f : Nat → Value} (h : RS w A n c f) (hb : Below w.heap.size w w') : RS w' A n c f :=
  ⟨h.nc, h.cm, fun j hj => by
    obtain ⟨ad, e, hc⟩ := h.cell j hj
    exact ⟨ad, e, (hb.cell (World.block_lt_of_cell? w _ hc)).trans hc⟩⟩
theorem RS.take {w : World} {A : Option Addr} {n c : Nat} {f : Nat → Value} (h : RS w A n c f) {k : Nat} (hk : k ≤ n) : RS w A k c f :=
  ⟨by have := h.nc; omega, h.cm, fun j hj => h.cell j (by omega)⟩
theorem RS.nil (w : World) (A : Option Addr) (c : Nat) (f : Nat → Value) (hc : c ≤ 9223372036854775807) : RS w A 0 c f :=
  ⟨by omega, hc, fun j hj => absurd hj (by omega)⟩
theorem RS.drop {w : World} {A : Option Addr} {n c : Nat} {f : Nat → Value} (h : RS w A n c f) {l : Nat} (hl : l ≤ n) :
    RS w (if c = l then A else A.map (·.add l)) (n - l) (c - l) (fun j => f (l + j)) :=
  ⟨by have := h.nc; omega, by have := h.cm; omega, fun j hj => by
    obtain ⟨ad, e, hc⟩ := h.cell (l + j) (by omega)
    have := h.nc
    rw [if_neg (by omega), e]
    exact ⟨ad.add l, rfl, by rw [add_add]; exact hc⟩⟩

section
variable {P : Program} {w : World} {ops : Array Oper} {rest : List Oper} {o : Oper} {a : Act} {Q : Exit → Act → World → Prop}

theorem run_size1 {t : TypeId} (h : P.cellsOf t = 1) : (sizeOf t).run P w = .ok 1 w := by
  unfold Program.cellsOf at h
  cases hi : P.info? t with
  | none => rw [hi] at h; simp at h
  | some i => rw [hi] at h; simp at h; simp [sizeOf, typeInfo, hi, h]

theorem elem_of {t e : TypeId} (ht : P.underlying t = some (.slice e)) : P.elem t = e := by simp [Program.elem, ht]

/-- 'x[lo:]'. -/
theorem wpl_from (hg : o.guard = none) (t e : TypeId) (x lo : Operand) (hop : o.op = Op.slice t x (some lo) none none)
    (ht : P.underlying t = some (.slice e)) (hs : P.cellsOf e = 1) (A : Option Addr) (n c l : Nat) (k : IntKind) (li : Int) (f : Nat → Value)
    (hx : a.eval x = .slice A n c) (hlo : a.eval lo = .int k li) (hl : li = (l : Int)) (hln : l ≤ n) (hr : RS w A n c f)
    (hK : ∀ A', RS w A' (n - l) (c - l) (fun j => f (l + j)) → wpList P ops Q rest (a.put o.dst (.slice A' (n - l) (c - l))) w) :
    wpList P ops Q (o :: rest) a w := by
  refine wpList_plain hg fun K hK' => ?_
  subst hl
  have ht' : P.underlying t = some (.slice (P.elem t)) := by rw [elem_of ht]; exact ht
  have hrun := run_slice_l (P := P) w t A n c ht' k (l : Int) (by omega) (by omega)
  have hsz := run_size1 (P := P) (w := w) hs
  rw [elem_of ht, hsz] at hrun
  unfold Oper.wp
  simp [execOp, hop, hx, hlo, run_sliceAt_slice w t _ _ _ _ ht', hrun, Result.andThen, sliced]
  have := hK _ (hr.drop hln)
  exact hK' _ _ this

/-- 'x[:hi]', within the length. -/
theorem wpl_to (hg : o.guard = none) (t e : TypeId) (x hi : Operand) (hop : o.op = Op.slice t x none (some hi) none)
    (ht : P.underlying t = some (.slice e)) (hs : P.cellsOf e = 1) (A : Option Addr) (n c h : Nat) (k : IntKind) (hiI : Int) (f : Nat → Value)
    (hx : a.eval x = .slice A n c) (hhi : a.eval hi = .int k hiI) (hl : hiI = (h : Int)) (hln : h ≤ n) (hr : RS w A n c f)
    (hK : RS w A h c f → wpList P ops Q rest (a.put o.dst (.slice A h c)) w) :
    wpList P ops Q (o :: rest) a w := by
  refine wpList_plain hg fun K hK' => ?_
  subst hl
  have ht' : P.underlying t = some (.slice (P.elem t)) := by rw [elem_of ht]; exact ht
  have hrun := run_slice_h (P := P) w t A n c ht' k (h : Int) (by omega) (by have := hr.nc; omega)
  have hsz := run_size1 (P := P) (w := w) hs
  rw [elem_of ht, hsz] at hrun
  unfold Oper.wp
  have e : (if c = 0 then A else A.map fun x => x.add 0) = A := by
    split
    · rfl
    · cases A <;> simp [Addr.add]
  simp [execOp, hop, hx, hhi, run_sliceAt_slice w t _ _ _ _ ht', hrun, Result.andThen, sliced, e]
  exact hK' _ _ (hK (hr.take hln))

/-- The address of an element that is there. -/
theorem wpl_ix (hg : o.guard = none) (t e : TypeId) (x i : Operand) (hop : o.op = Op.indexAddr t x i)
    (ht : P.underlying t = some (.slice e)) (hs : P.cellsOf e = 1) (A : Option Addr) (n c j : Nat) (k : IntKind) (ji : Int) (f : Nat → Value)
    (hx : a.eval x = .slice A n c) (hi : a.eval i = .int k ji) (hj : ji = (j : Int)) (hjn : j < n) (hr : RS w A n c f)
    (hK : ∀ p, w.cell? p = some (f j) → wpList P ops Q rest (a.put o.dst (.pointer (some p))) w) :
    wpList P ops Q (o :: rest) a w := by
  refine wpList_plain hg fun K hK' => ?_
  subst hj
  obtain ⟨ad, rfl, hc⟩ := hr.cell j hjn
  have ht' : P.underlying t = some (.slice (P.elem t)) := by rw [elem_of ht]; exact ht
  have hrun := run_indexAt_slice (P := P) w t ad n c k (j : Int) ht'
  have hsz := run_size1 (P := P) (w := w) hs
  rw [elem_of ht, hsz, if_pos (by omega)] at hrun
  unfold Oper.wp
  simp [execOp, hop, hx, hi, hrun, Result.andThen]
  exact hK' _ _ (hK _ hc)
end

/-- Operations on floats as functions of the operands and the world: a rule for the walk. -/
theorem exFop (op : BinOp) (ha : isArith op = true) : ∃ fR fN : Nat → Nat → World → Nat,
    (∀ a b w, (binOp op 26 (.float .f64 a) (.float .f64 b)).run Try.prog w = .ok (.float .f64 (fR a b w)) (w.drewN (fN a b w))) ∧
    Hid (∀ a b w, fR a b w < 2 ^ 64 ∧ cn (fR a b w) = fop op a b) := by
  refine ⟨fun a b w => Classical.choose (run_fop (P := Try.prog) w op 26 a b ha), fun a b w => Classical.choose (Classical.choose_spec (run_fop (P := Try.prog) w op 26 a b ha)), ?_, ?_⟩
  · intro a b w
    exact (Classical.choose_spec (Classical.choose_spec (run_fop (P := Try.prog) w op 26 a b ha))).1
  · intro a b w
    exact (Classical.choose_spec (Classical.choose_spec (run_fop (P := Try.prog) w op 26 a b ha))).2

theorem cells26 : Try.prog.cellsOf 26 = 1 := by kernel_rfl
theorem cells39 : Try.prog.cellsOf 39 = 1 := by kernel_rfl
theorem cells42 : Try.prog.cellsOf 42 = 1 := by kernel_rfl
theorem cells3 : Try.prog.cellsOf 3 = 1 := by kernel_rfl
end Go.Proofs.Ytdfbmfmfhdifpaa
