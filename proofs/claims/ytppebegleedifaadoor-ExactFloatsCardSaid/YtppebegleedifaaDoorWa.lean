/- Words for the walks: slices that are read, slices that are built, laws of single operations. -/
import Derived.Test.YtppebegleedifaaDoorRows
import Derived.WalkKit
import Derived.WalkSpells
import Derived.WalkLawsBesides
import Derived.RegionTactic
import Derived.BigRegion
import Derived.BigQuiet
import Derived.Deep.QuietTactic
import Derived.Deep.RegionWith
import Derived.Deep.Draws
import Derived.Lib.Hide
import Derived.Laws.Externs
import Derived.Shelf.Lays
import Derived.Lib.Mul64
import Derived.Laws.Bits64b
import Derived.Maps.AppendAt
namespace Go.Proofs.YtppebegleedifaaDoor
open Go.RowKit
/-- A slice whose cells are read: its places 0 to n - 1 hold what f tells. -/
structure RS (w : World) (A : Option Addr) (n c : Nat) (f : Nat → Value) : Prop where
  nc : n ≤ c
  cm : c ≤ 9223372036854775807
  cell : ∀ j, j < n → ∃ ad, A = some ad ∧ w.cell? (ad.add j) = some (f j)

theorem add_add (ad : Addr) (i j : Nat) : (ad.add i).add j = ad.add (i + j) := by
  unfold Addr.add
  by_cases hi : i = 0
  · subst hi; simp
  · by_cases hj : j = 0
    · subst hj; simp [hi]
    · simp [hi, hj]; omega

theorem RS.congr {w : World} {A : Option Addr} {n c : Nat} {f g : Nat → Value} (h : RS w A n c f) (e : ∀ j, j < n → f j = g j) : RS w A n c g :=
  ⟨h.nc, h.cm, fun j hj => by rw [← e j hj]; exact h.cell j hj⟩
theorem RS.same {w w' : World} {A : Option Addr} {n c : Nat} {f : Nat → Value} (h : RS w A n c f) (e : w'.heap = w.heap) : RS w' A n c f :=
  ⟨h.nc, h.cm, fun j hj => by
    obtain ⟨ad, e1, hc⟩ := h.cell j hj
    exact ⟨ad, e1, by rw [← hc]; simp [World.cell?, e]⟩⟩
theorem RS.drewN {w : World} {A : Option Addr} {n c : Nat} {f : Nat → Value} (h : RS w A n c f) (m : Nat) : RS (w.drewN m) A n c f := ⟨h.nc, h.cm, h.cell⟩
theorem RS.below {w w' : World} {A : Option Addr} {n c : Nat} {f : Nat → Value} (h : RS w A n c f) (hb : Below w.heap.size w w') : RS w' A n c f :=
  ⟨h.nc, h.cm, fun j hj => by
    obtain ⟨ad, e, hc⟩ := h.cell j hj
    exact ⟨ad, e, (hb.cell (World.block_lt_of_cell? w _ hc)).trans hc⟩⟩
theorem RS.take {w : World} {A : Option Addr} {n c : Nat} {f : Nat → Value} (h : RS w A n c f) {k : Nat} (hk : k ≤ n) : RS w A k c f :=
  ⟨by have := h.nc; omega, h.cm, fun j hj => h.cell j (by omega)⟩
theorem RS.nil (w : World) (A : Option Addr) (c : Nat) (f : Nat → Value) (hc : c ≤ 9223372036854775807) : RS w A 0 c f :=
  ⟨by omega, hc, fun j hj => absurd hj (by omega)⟩
theorem RS.drop {w : World} {A : Option Addr} {n c : Nat} {f : Nat → Value} (h : RS w A n c f) {l : Nat} (hl : l ≤ n) :
    RS w (if c = l then A else A.map (·.add l)) (n - l) (c - l) (fun j => f (l + j)) :=
  ⟨by have := h.nc; omega, by have := h.cm; omega, fun j hj => by
    obtain ⟨ad, e, hc⟩ := h.cell (l + j) (by omega)
    have := h.nc
    rw [if_neg (by omega), e]
    exact ⟨ad.add l, rfl, by rw [add_add]; exact hc⟩⟩

section
variable {P : Program} {w : World} {ops : Array Oper} {rest : List Oper} {o : Oper} {a : Act} {Q : Exit → Act → World → Prop}

theorem run_size1 {t : TypeId} (h : P.cellsOf t = 1) : (sizeOf t).run P w = .ok 1 w := by
  unfold Program.cellsOf at h
  cases hi : P.info? t with
  | none => rw [hi] at h; simp at h
  | some i => rw [hi] at h; simp at h; simp [sizeOf, typeInfo, hi, h]

theorem elem_of {t e : TypeId} (ht : P.underlying t = some (.slice e)) : P.elem t = e := by simp [Program.elem, ht]

/-- 'x[lo:]'. -/
theorem wpl_from (hg : o.guard = none) (t e : TypeId) (x lo : Operand) (hop : o.op = Op.slice t x (some lo) none none)
    (ht : P.underlying t = some (.slice e)) (hs : P.cellsOf e = 1) (A : Option Addr) (n c l : Nat) (k : IntKind) (li : Int) (f : Nat → Value)
    (hx : a.eval x = .slice A n c) (hlo : a.eval lo = .int k li) (hl : li = (l : Int)) (hln : l ≤ n) (hr : RS w A n c f)
    (hK : ∀ A', RS w A' (n - l) (c - l) (fun j => f (l + j)) → wpList P ops Q rest (a.put o.dst (.slice A' (n - l) (c - l))) w) :
    wpList P ops Q (o :: rest) a w := by
  refine wpList_plain hg fun K hK' => ?_
  subst hl
  have ht' : P.underlying t = some (.slice (P.elem t)) := by rw [elem_of ht]; exact ht
  have hrun := run_slice_l (P := P) w t A n c ht' k (l : Int) (by omega) (by omega)
  have hsz := run_size1 (P := P) (w := w) hs
  rw [elem_of ht, hsz] at hrun
  unfold Oper.wp
  simp [execOp, hop, hx, hlo, run_sliceAt_slice w t _ _ _ _ ht', hrun, Result.andThen, sliced]
  have := hK _ (hr.drop hln)
  exact hK' _ _ this

/-- 'x[:hi]', within the length. -/
theorem wpl_to (hg : o.guard = none) (t e : TypeId) (x hi : Operand) (hop : o.op = Op.slice t x none (some hi) none)
    (ht : P.underlying t = some (.slice e)) (hs : P.cellsOf e = 1) (A : Option Addr) (n c h : Nat) (k : IntKind) (hiI : Int) (f : Nat → Value)
    (hx : a.eval x = .slice A n c) (hhi : a.eval hi = .int k hiI) (hl : hiI = (h : Int)) (hln : h ≤ n) (hr : RS w A n c f)
    (hK : RS w A h c f → wpList P ops Q rest (a.put o.dst (.slice A h c)) w) :
    wpList P ops Q (o :: rest) a w := by
  refine wpList_plain hg fun K hK' => ?_
  subst hl
  have ht' : P.underlying t = some (.slice (P.elem t)) := by rw [elem_of ht]; exact ht
  have hrun := run_slice_h (P := P) w t A n c ht' k (h : Int) (by omega) (by have := hr.nc; omega)
  have hsz := run_size1 (P := P) (w := w) hs
  rw [elem_of ht, hsz] at hrun
  unfold Oper.wp
  have e : (if c = 0 then A else A.map fun x => x.add 0) = A := by
    split
    · rfl
    · cases A <;> simp [Addr.add]
  simp [execOp, hop, hx, hhi, run_sliceAt_slice w t _ _ _ _ ht', hrun, Result.andThen, sliced, e]
  exact hK' _ _ (hK (hr.take hln))

/-- The address of an element that is there. -/
theorem wpl_ix (hg : o.guard = none) (t e : TypeId) (x i : Operand) (hop : o.op = Op.indexAddr t x i)
    (ht : P.underlying t = some (.slice e)) (hs : P.cellsOf e = 1) (A : Option Addr) (n c j : Nat) (k : IntKind) (ji : Int) (f : Nat → Value)
    (hx : a.eval x = .slice A n c) (hi : a.eval i = .int k ji) (hj : ji = (j : Int)) (hjn : j < n) (hr : RS w A n c f)
    (hK : ∀ p, w.cell? p = some (f j) → wpList P ops Q rest (a.put o.dst (.pointer (some p))) w) :
    wpList P ops Q (o :: rest) a w := by
  refine wpList_plain hg fun K hK' => ?_
  subst hj
  obtain ⟨ad, rfl, hc⟩ := hr.cell j hjn
  have ht' : P.underlying t = some (.slice (P.elem t)) := by rw [elem_of ht]; exact ht
  have hrun := run_indexAt_slice (P := P) w t ad n c k (j : Int) ht'
  have hsz := run_size1 (P := P) (w := w) hs
  rw [elem_of ht, hsz, if_pos (by omega)] at hrun
  unfold Oper.wp
  simp [execOp, hop, hx, hi, hrun, Result.andThen]
  exact hK' _ _ (hK _ hc)
end

/-- v is a slice of k cells of the call's own, from block B on: what F tells. -/
structure Bld (w : World) (B : Nat) (e : TypeId) (v : Value) (k : Nat) (F : Nat → Value) : Prop where
  own : w.ownsRow B e 1 v k ((List.range k).map F)
  hB : B ≤ w.heap.size
theorem Bld.alloc {w : World} {B : Nat} {e : TypeId} {v : Value} {k : Nat} {F : Nat → Value} (h : Bld w B e v k F) (o : Obj) : Bld (w.alloc o) B e v k F :=
  ⟨h.own.alloc o, by have := h.hB; simp; omega⟩
theorem Bld.same {w w' : World} {B : Nat} {e : TypeId} {v : Value} {k : Nat} {F : Nat → Value} (h : Bld w B e v k F) (hh : w'.heap = w.heap) : Bld w' B e v k F := by
  refine ⟨⟨h.own.1, ?_⟩, by rw [hh]; exact h.hB⟩
  rw [hh]; exact h.own.2
theorem Bld.below {w w' : World} {B : Nat} {e : TypeId} {v : Value} {k : Nat} {F : Nat → Value} (h : Bld w B e v k F) (hb : Below w.heap.size w w') : Bld w' B e v k F :=
  ⟨h.own.kept (row := none) ⟨hb.os, hb.tape, hb.output, hb.size, fun i hi _ => hb.block i hi⟩ (by cases v.ownBlock <;> simp), by have := hb.size; have := h.hB; omega⟩
theorem Bld.congr {w : World} {B : Nat} {e : TypeId} {v : Value} {k : Nat} {F G : Nat → Value} (h : Bld w B e v k F) (he : ∀ j, j < k → F j = G j) : Bld w B e v k G := by
  refine ⟨?_, h.hB⟩
  have : (List.range k).map F = (List.range k).map G := List.map_congr_left fun j hj => he j (List.mem_range.1 hj)
  rw [← this]; exact h.own
theorem Bld.shape {w : World} {B : Nat} {e : TypeId} {v : Value} {k : Nat} {F : Nat → Value} (h : Bld w B e v k F) : ∃ A c, v = .slice A k c ∧ k ≤ c ∧ c ≤ 9223372036854775807 := by
  rcases h.own.2 with ⟨rfl, rfl⟩ | ⟨g, cap, cur, rfl, _, _, h1, h2, _⟩
  · exact ⟨none, 0, rfl, by omega, by omega⟩
  · exact ⟨_, cap, rfl, h1, by simp only [maxLen] at h2; omega⟩
theorem Bld.rs {w : World} {B : Nat} {e : TypeId} {A : Option Addr} {c k : Nat} {F : Nat → Value} (h : Bld w B e (.slice A k c) k F) : RS w A k c F := by
  obtain ⟨A', c', he, h1, h2⟩ := h.shape
  injection he with e1 _ e3
  subst e3
  refine ⟨h1, h2, fun j hj => ?_⟩
  rcases h.own.2 with ⟨hn, h0⟩ | ⟨g, cap, cur, hv, _⟩
  · omega
  · injection hv with hv1 _ _
    refine ⟨⟨g, 0, none⟩, hv1, h.own.cells (g := g) (by rw [hv1]; rfl) j _ ?_⟩
    simp [hj]
theorem Bld.base {w : World} {B : Nat} {e : TypeId} {v : Value} {k : Nat} {F : Nat → Value} (h : Bld w B e v k F) : ∀ g, v.ownBlock = some g → B ≤ g := fun g hg => (h.own.lt g hg).1

section
variable {P : Program} {w w0 : World} {ops : Array Oper} {rest : List Oper} {o : Oper} {a : Act} {Q : Exit → Act → World → Prop}

/-- 'out = append(out, x)'. -/
theorem wpl_push (hg : o.guard = none) (s x : Operand) (t e : TypeId) (z : Value) (bytes : Nat)
    (ho : o.op = .call { callee := .builtin .append, args := #[s, x], argTypes := #[t, t] })
    (ht : P.underlying t = some (.slice e)) (hinfo : (P.info? e).map (fun i => (i.zero, i.size, i.bytes)) = some (some z, 1, bytes)) (hz : z.cells.size = 1)
    (B : Nat) (v : Value) (k b : Nat) (F : Nat → Value) (y : Value) (hs : a.eval s = v) (hx : a.eval x = .slice (some ⟨b, 0, none⟩) 1 1)
    (hbld : Bld w B e v k F) (hbel : Below B w0 w) (hc : w.cell? ⟨b, 0, none⟩ = some y) (hy : y = F k) (hy1 : y.oneCell' = true) (hk : (k + 1) * bytes ≤ 140737488355328) (hb1 : 1 ≤ bytes)
    (hK : ∀ A c w', Bld w' B e (.slice A (k + 1) c) (k + 1) F → Below B w0 w' → k + 1 ≤ c → c ≤ 9223372036854775807 → wpList P ops Q rest (a.put o.dst (.slice A (k + 1) c)) w') :
    wpList P ops Q (o :: rest) a w := by
  obtain ⟨i0, hi, hz0, hz1, hz2⟩ := info_parts hinfo
  have hk2 : k + 1 ≤ 140737488355328 := Nat.le_trans (Nat.le_mul_of_pos_right _ hb1) hk
  refine wpList_append_own w hg s x t ho B e i0 z 1 bytes ht hi hz0 hz1 hz2 hz (by decide) v k _ hs hbld.own ⟨b, 0, none⟩ 1 1 [y] hx rfl ?_ ?_ (by unfold maxLen; omega) hk hbld.hB ?_
  · intro j u hj
    match j, hj with
    | 0, hj => simp at hj; subst hj; simpa [Addr.add] using hc
  · intro u hu
    simp at hu; subst hu; exact hy1
  · intro v' w' hown hgrow _
    have e1 : (List.range k).map F ++ [y] = (List.range (k + 1)).map F := by rw [List.range_succ, List.map_append, hy]; rfl
    rw [e1] at hown
    have hB' : B ≤ w'.heap.size := Nat.le_trans hbld.hB hgrow.size
    have hb2 : Bld w' B e v' (k + 1) F := ⟨hown, hB'⟩
    obtain ⟨A, c, rfl, h1, h2⟩ := hb2.shape
    exact hK A c w' hb2 (hbel.grown hgrow hbld.hB hbld.base) h1 h2

/-- 'make([]T, 0, n)'. -/
theorem wpl_make0 (hg : o.guard = none) (l c : Operand) (t e : TypeId) (z : Value) (bytes : Nat) (hop : o.op = Op.makeSlice t l c)
    (ht : P.underlying t = some (.slice e)) (hinfo : (P.info? e).map (fun i => (i.zero, i.size, i.bytes)) = some (some z, 1, bytes))
    (B : Nat) (kl kc : IntKind) (C : Int) (n : Nat) (F : Nat → Value) (hl : a.eval l = .int kl 0) (hc : a.eval c = .int kc C) (hC : C = (n : Int)) (hbel : Below B w0 w) (hB : B ≤ w.heap.size)
    (b2 : bytes * n ≤ 281474976710656) (b3 : n ≤ 9223372036854775807)
    (hK : ∀ w', Bld w' B e (.slice (some ⟨w.heap.size, 0, none⟩) 0 n) 0 F → Below B w0 w' → wpList P ops Q rest (a.put o.dst (.slice (some ⟨w.heap.size, 0, none⟩) 0 n)) w') :
    wpList P ops Q (o :: rest) a w := by
  obtain ⟨i0, hi, hz0, hz1, hz2⟩ := info_parts hinfo
  refine wpList_make_own w hg l c t hop B e i0 z 1 ht hi hz0 hz1 kl kc C n hl hc hC (by rw [hz2]; exact b2) (by unfold maxLen; omega) hB ?_
  intro w' hown hgrow
  exact hK w' ⟨by simpa using hown, Nat.le_trans hB hgrow.size⟩ (hbel.grown hgrow hB (fun _ h => by cases h))

/-- 'make([]T, m, n)': m zeros. -/
theorem wpl_makez (hg : o.guard = none) (l c : Operand) (t e : TypeId) (z : Value) (bytes : Nat) (hop : o.op = Op.makeSlice t l c)
    (ht : P.underlying t = some (.slice e)) (hinfo : (P.info? e).map (fun i => (i.zero, i.size, i.bytes)) = some (some z, 1, bytes)) (hzc : z.cells = #[z])
    (B : Nat) (kl kc : IntKind) (L C : Int) (m n : Nat) (F : Nat → Value) (hl : a.eval l = .int kl L) (hL : L = (m : Int)) (hc : a.eval c = .int kc C) (hC : C = (n : Int)) (hmn : m ≤ n) (hbel : Below B w0 w) (hB : B ≤ w.heap.size)
    (b2 : bytes * n ≤ 281474976710656) (b3 : n ≤ 9223372036854775807) (hF : ∀ j, j < m → F j = z)
    (hK : ∀ w', Bld w' B e (.slice (some ⟨w.heap.size, 0, none⟩) m n) m F → Below B w0 w' → wpList P ops Q rest (a.put o.dst (.slice (some ⟨w.heap.size, 0, none⟩) m n)) w') :
    wpList P ops Q (o :: rest) a w := by
  obtain ⟨i0, hi, hz0, hz1, hz2⟩ := info_parts hinfo
  refine wpList_plain hg fun K hK' => ?_
  subst hL
  subst hC
  have hrun := run_make (P := P) w t e i0 z ht hi hz0 kl kc (m : Int) (n : Int) (by omega) (by omega) (by rw [hz2]; omega) (by omega)
  rw [hz1, Nat.mul_one, hzc, Int.toNat_natCast, Int.toNat_natCast] at hrun
  have hbld : Bld (w.alloc (.cells (madeCells #[z] n) e)) B e (.slice (some ⟨w.heap.size, 0, none⟩) m n) m F := by
    refine ⟨⟨by simp, .inr ⟨w.heap.size, n, madeCells #[z] n, rfl, hB, heap_alloc_new w _, hmn, by unfold maxLen; omega, by rw [size_madeCells, Nat.mul_one], ?_⟩⟩, by simp; omega⟩
    rw [toList_madeCells_one, Nat.mul_one, List.take_replicate, Nat.min_eq_left hmn]
    apply List.ext_getElem
    · simp
    · intro j h1 h2
      simp at h1
      simp [hF j h1]
  have := hK _ hbld (hbel.alloc hB _)
  unfold Oper.wp
  simp [execOp, hop, hl, hc, hrun, Result.andThen]
  exact hK' _ _ this
end

theorem Bld.block {w : World} {B : Nat} {e : TypeId} {A : Option Addr} {c k : Nat} {F : Nat → Value} (h : Bld w B e (.slice A k c) k F) (hk : 0 < k) :
    ∃ g, A = some ⟨g, 0, none⟩ ∧ B ≤ g ∧ g < w.heap.size := by
  rcases h.own.2 with ⟨_, h0⟩ | ⟨g, cap, cur, hv, hB, hg, _⟩
  · omega
  · injection hv with hv1
    exact ⟨g, hv1, hB, (Array.getElem?_eq_some_iff.1 hg).1⟩
theorem Bld.free {w : World} {B : Nat} {e : TypeId} {g c k : Nat} {F : Nat → Value} (h : Bld w B e (.slice (some ⟨g, 0, none⟩) k c) k F) (j : Nat) : w.frozen? ⟨g, j, none⟩ = false := h.own.frozenAt j
theorem Bld.cell {w : World} {B : Nat} {e : TypeId} {g c k : Nat} {F : Nat → Value} (h : Bld w B e (.slice (some ⟨g, 0, none⟩) k c) k F) (j : Nat) (hj : j < k) : w.cell? ⟨g, j, none⟩ = some (F j) := by
  rw [h.own.cellAt j (by omega)]
  simp [hj]
theorem Bld.set {w : World} {B : Nat} {e : TypeId} {g c k : Nat} {F : Nat → Value} (h : Bld w B e (.slice (some ⟨g, 0, none⟩) k c) k F) (j : Nat) (y : Value) :
    Bld (w.setCell ⟨g, j, none⟩ y) B e (.slice (some ⟨g, 0, none⟩) k c) k (fun i => if i = j then y else F i) := by
  obtain ⟨h1, h2⟩ := h.own.stored j y
  refine ⟨?_, Nat.le_trans h.hB h2.size⟩
  have e1 : ((List.range k).map F).set j y = (List.range k).map (fun i => if i = j then y else F i) := by
    apply List.ext_getElem
    · simp
    · intro i hi1 hi2
      simp only [List.getElem_set, List.getElem_map, List.getElem_range]
      by_cases e : j = i
      · rw [if_pos e, if_pos e.symm]
      · rw [if_neg e, if_neg (fun e' => e e'.symm)]
  rw [← e1]; exact h1
theorem Bld.mono {w : World} {B B' : Nat} {e : TypeId} {v : Value} {k : Nat} {F : Nat → Value} (h : Bld w B e v k F) (hB : B' ≤ B) : Bld w B' e v k F := by
  refine ⟨⟨h.own.1, ?_⟩, Nat.le_trans hB h.hB⟩
  rcases h.own.2 with h2 | ⟨g, cap, cur, h1, h2, h3⟩
  · exact .inl h2
  · exact .inr ⟨g, cap, cur, h1, Nat.le_trans hB h2, h3⟩
theorem Bld.drewN {w : World} {B : Nat} {e : TypeId} {v : Value} {k : Nat} {F : Nat → Value} (h : Bld w B e v k F) (m : Nat) : Bld (w.drewN m) B e v k F := h.same rfl
section
variable {P : Program} {w w0 : World} {ops : Array Oper} {rest : List Oper} {o : Oper} {a : Act} {Q : Exit → Act → World → Prop}
/-- 'append(s, x...)': what x holds behind what s holds; another built slice, in a block of its own, stays. -/
theorem wpl_cat (hg : o.guard = none) (s x : Operand) (t e : TypeId) (z : Value) (bytes : Nat)
    (ho : o.op = .call { callee := .builtin .append, args := #[s, x], argTypes := #[t, t] })
    (ht : P.underlying t = some (.slice e)) (hinfo : (P.info? e).map (fun i => (i.zero, i.size, i.bytes)) = some (some z, 1, bytes)) (hz : z.cells.size = 1)
    (B : Nat) (v : Value) (k m cx : Nat) (Ax : Option Addr) (F G H : Nat → Value) (hs : a.eval s = v) (hx : a.eval x = .slice Ax m cx) (hm : 0 < m)
    (hbld : Bld w B e v k F) (hbel : Below B w0 w) (hr : RS w Ax m cx G) (hH : (∀ j, j < k → F j = H j) ∧ ∀ j, j < m → G j = H (k + j)) (hH1 : ∀ j, (H j).oneCell' = true)
    (hk : (k + m) * bytes ≤ 140737488355328) (hb1 : 1 ≤ bytes)
    (vE : Value) (kE : Nat) (FE : Nat → Value) (hE : Bld w B e vE kE FE) (hne : ∀ gE, vE.ownBlock = some gE → v.ownBlock ≠ some gE)
    (hK : ∀ A c w', Bld w' B e (.slice A (k + m) c) (k + m) H → Bld w' B e vE kE FE → (∀ gE, vE.ownBlock = some gE → (Value.slice A (k + m) c).ownBlock ≠ some gE) → Below B w0 w' → k + m ≤ c → c ≤ 9223372036854775807 → wpList P ops Q rest (a.put o.dst (.slice A (k + m) c)) w') :
    wpList P ops Q (o :: rest) a w := by
  obtain ⟨i0, hi, hz0, hz1, hz2⟩ := info_parts hinfo
  have hk2 : k + m ≤ 140737488355328 := Nat.le_trans (Nat.le_mul_of_pos_right _ hb1) hk
  obtain ⟨ad, rfl, _⟩ := hr.cell 0 hm
  refine wpList_append_own_at w hg s x t ho B e i0 z 1 bytes ht hi hz0 hz1 hz2 hz (by decide) v k _ hs hbld.own ad m cx ((List.range m).map G) hx (by simp) ?_ ?_ (by unfold maxLen; omega) hk hbld.hB ?_
  · intro j u hj
    simp only [List.getElem?_map] at hj
    rcases Nat.lt_or_ge j m with hjm | hjm
    · rw [List.getElem?_range hjm] at hj
      simp at hj
      subst hj
      obtain ⟨ad', e1, hc⟩ := hr.cell j hjm
      injection e1 with e1
      subst e1
      exact hc
    · rw [List.getElem?_eq_none (by simpa using hjm)] at hj
      simp at hj
  · intro u hu
    simp only [List.mem_map, List.mem_range] at hu
    obtain ⟨j, hj, rfl⟩ := hu
    rw [hH.2 j hj]; exact hH1 _
  · intro v' w' hown hgrow _ hor
    have e1 : (List.range k).map F ++ (List.range m).map G = (List.range (k + m)).map H := by
      rw [List.range_add, List.map_append, List.map_map]
      congr 1
      · exact List.map_congr_left fun j hj => hH.1 j (List.mem_range.1 hj)
      · exact List.map_congr_left fun j hj => hH.2 j (List.mem_range.1 hj)
    rw [e1] at hown
    have hB' : B ≤ w'.heap.size := Nat.le_trans hbld.hB hgrow.size
    have hb2 : Bld w' B e v' (k + m) H := ⟨hown, hB'⟩
    have hEk : Bld w' B e vE kE FE := by
      refine ⟨hE.own.kept hgrow ?_, hB'⟩
      cases hv : vE.ownBlock with
      | none => exact .inl rfl
      | some gE => exact .inr fun e' => hne gE hv e'.symm
    have hne' : ∀ gE, vE.ownBlock = some gE → v'.ownBlock ≠ some gE := by
      intro gE hgE hc
      rcases hor with h1 | h1
      · rw [h1] at hc; exact hne gE hgE hc
      · rw [h1] at hc
        injection hc with hc
        have := (hE.own.lt gE hgE).2
        omega
    obtain ⟨A, c, rfl, h1, h2⟩ := hb2.shape
    exact hK A c w' hb2 hEk hne' (hbel.grown hgrow hbld.hB hbld.base) h1 h2
end
theorem below_drewN {B : Nat} {a w : World} (h : Below B a w) (m : Nat) : Below B a (w.drewN m) := ⟨h.os, h.tape, h.output, h.size, h.block⟩
theorem below_of_drew {w w' : World} {m : Nat} (h : Below (w.drewN m).heap.size (w.drewN m) w') : Below w.heap.size w w' := ⟨h.os, h.tape, h.output, h.size, h.block⟩
theorem drew_N (w : World) (m k : Nat) : (w.drewN m).drewN k = w.drewN (m + k) := by simp [World.drewN, Nat.add_assoc]
theorem beq_cast (a b : Nat) : (((a : Int)) == (b : Int)) = (a == b) := by
  rw [Bool.eq_iff_iff, beq_iff_eq, beq_iff_eq]; omega
set_option maxHeartbeats 400000 in
section
variable {P : Program} {w : World} {ops : Array Oper} {rest : List Oper} {o : Oper} {a : Act} {Q : Exit → Act → World → Prop}
theorem wpl_bin (hg : o.guard = none) (op : BinOp) (t s : TypeId) (x y : Operand) (hop : o.op = Op.binOp op t x y s) 
    (X Y v : Value) (hx : a.eval x = X) (hy : a.eval y = Y) (hne : (eqGuard op t x y X Y).run P w = .ok () w) (hrun : (binOp op t X Y).run P w = .ok v w) (hK : wpList P ops Q rest (a.put o.dst v) w) :
    wpList P ops Q (o :: rest) a w := by
  refine wpList_plain hg fun K hK' => ?_
  unfold Oper.wp
  simp [execOp, hop, hx, hy, hrun, hne, Result.andThen]
  exact hK' _ _ hK
end
end Go.Proofs.YtppebegleedifaaDoor
