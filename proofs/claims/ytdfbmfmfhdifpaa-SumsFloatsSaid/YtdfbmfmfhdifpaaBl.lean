/- Slices that a call builds: append, make; naturals as slices of words. -/
import Derived.Test.YtdfbmfmfhdifpaaEw
namespace Go.Proofs.Ytdfbmfmfhdifpaa
open Go.RowKit

/-- v is a slice of k cells of the call's own, from block B on: what F tells. -/
structure Bld (w : World) (B : Nat) (e : TypeId) (v : Value) (k : Nat) (F : Nat → Value) : Prop where
  own : w.ownsRow B e 1 v k ((List.range k).map F)
  hB : B ≤ w.heap.size
theorem Bld.alloc {w : World} {B : Nat} {e : TypeId} {v : Value} {k : Nat} {F : Nat → Value} (h : Bld w B e v k F) (o : Obj) : Bld (w.alloc o) B e v k F :=
  ⟨h.own.alloc o, by have := h.hB; simp; omega⟩
theorem Bld.same {w w' : World} {B : Nat} {e : TypeId} {v : Value} {k : Nat} {F : Nat → Value} (h : Bld w B e v k F) (hh : w'.heap = w.heap) : Bld w' B e v k F := by
  refine ⟨⟨h.own.1, ?_⟩, by rw [hh]; exact h.hB⟩
  rw [hh]; exact h.own.2
theorem Bld.below {w w' : World} {B : Nat} {e : TypeId} {v : Value} {k : Nat} {F : Nat → Value} (h : Bld w B e v k F) (hb : Below w.heap.size w w') : Bld w' B e v k F :=
  ⟨h.own.kept (row := none) ⟨hb.os, hb.tape, hb.output, hb.size, fun i hi _ => hb.block i hi⟩ (by cases v.ownBlock <;> simp), by have := hb.size; have := h.hB; omega⟩
theorem Bld.congr {w : World} {B : Nat} {e : TypeId} {v : Value} {k : Nat} {F G : Nat → Value} (h : Bld w B e v k F) (he : ∀ j, j < k → F j = G j) : Bld w B e v k G := by
  refine ⟨?_, h.hB⟩
  have : (List.range k).map F = (List.range k).map G := List.map_congr_left fun j hj => he j (List.mem_range.1 hj)
  rw [← this]; exact h.own
theorem Bld.shape {w : World} {B : Nat} {e : TypeId} {v : Value} {k : Nat} {F : Nat → Value} (h : Bld w B e v k F) : ∃ A c, v = .slice A k c ∧ k ≤ c ∧ c ≤ 9223372036854775807 := by
  rcases h.own.2 with ⟨rfl, rfl⟩ | ⟨g, cap, cur, rfl, _, _, h1, h2, _⟩
  · exact ⟨none, 0, rfl, by omega, by omega⟩
  · exact ⟨_, cap, rfl, h1, by simp only [maxLen] at h2; omega⟩
theorem Bld.rs {w : World} {B : Nat} {e : TypeId} {A : Option Addr} {c k : Nat} {F : Nat → Value} (h : Bld w B e (.slice A k c) k F) : RS w A k c F := by
  obtain ⟨A', c', he, h1, h2⟩ := h.shape
  injection he with e1 _ e3
  subst e3
  refine ⟨h1, h2, fun j hj => ?_⟩
  rcases h.own.2 with ⟨hn, h0⟩ | ⟨g, cap, cur, hv, _⟩
  · omega
  · injection hv with hv1 _ _
    refine ⟨⟨g, 0, none⟩, hv1, h.own.cells (g := g) (by rw [hv1]; rfl) j _ ?_⟩
    simp [hj]
theorem Bld.base {w : World} {B : Nat} {e : TypeId} {v : Value} {k : Nat} {F : Nat → Value} (h : Bld w B e v k F) : ∀ g, v.ownBlock = some g → B ≤ g := fun g hg => (h.own.lt g hg).1

section
variable {P : Program} {w w0 : World} {ops : Array Oper} {rest : List Oper} {o : Oper} {a : Act} {Q : Exit → Act → World → Prop}

/-- 'out = append(out, x)'. -/
theorem wpl_push (hg : o.guard = none) (s x : Operand) (t e : TypeId) (z : Value) (bytes : Nat)
    (ho : o.op = .call { callee := .builtin .append, args := #[s, x], argTypes := #[t, t] })
    (ht : P.underlying t = some (.slice e)) (hinfo : (P.info? e).map (fun i => (i.zero, i.size, i.bytes)) = some (some z, 1, bytes)) (hz : z.cells.size = 1)
    (B : Nat) (v : Value) (k b : Nat) (F : Nat → Value) (y : Value) (hs : a.eval s = v) (hx : a.eval x = .slice (some ⟨b, 0, none⟩) 1 1)
    (hbld : Bld w B e v k F) (hbel : Below B w0 w) (hc : w.cell? ⟨b, 0, none⟩ = some y) (hy : y = F k) (hy1 : y.oneCell' = true) (hk : (k + 1) * bytes ≤ 140737488355328) (hb1 : 1 ≤ bytes)
    (hK : ∀ A c w', Bld w' B e (.slice A (k + 1) c) (k + 1) F → Below B w0 w' → k + 1 ≤ c → c ≤ 9223372036854775807 → wpList P ops Q rest (a.put o.dst (.slice A (k + 1) c)) w') :
    wpList P ops Q (o :: rest) a w := by
  obtain ⟨i0, hi, hz0, hz1, hz2⟩ := info_parts hinfo
  have hk2 : k + 1 ≤ 140737488355328 := Nat.le_trans (Nat.le_mul_of_pos_right _ hb1) hk
  refine wpList_append_own w hg s x t ho B e i0 z 1 bytes ht hi hz0 hz1 hz2 hz (by decide) v k _ hs hbld.own ⟨b, 0, none⟩ 1 1 [y] hx rfl ?_ ?_ (by unfold maxLen; omega) hk hbld.hB ?_
  · intro j u hj
    match j, hj with
    | 0, hj => simp at hj; subst hj; simpa [Addr.add] using hc
  · intro u hu
    simp at hu; subst hu; exact hy1
  · intro v' w' hown hgrow _
    have e1 : (List.range k).map F ++ [y] = (List.range (k + 1)).map F := by rw [List.range_succ, List.map_append, hy]; rfl
    rw [e1] at hown
    have hB' : B ≤ w'.heap.size := Nat.le_trans hbld.hB hgrow.size
    have hb2 : Bld w' B e v' (k + 1) F := ⟨hown, hB'⟩
    obtain ⟨A, c, rfl, h1, h2⟩ := hb2.shape
    exact hK A c w' hb2 (hbel.grown hgrow hbld.hB hbld.base) h1 h2

/-- 'make([]T, 0, n)'. -/
theorem wpl_make0 (hg : o.guard = none) (l c : Operand) (t e : TypeId) (z : Value) (bytes : Nat) (hop : o.op = Op.makeSlice t l c)
    (ht : P.underlying t = some (.slice e)) (hinfo : (P.info? e).map (fun i => (i.zero, i.size, i.bytes)) = some (some z, 1, bytes))
    (B : Nat) (kl kc : IntKind) (C : Int) (n : Nat) (F : Nat → Value) (hl : a.eval l = .int kl 0) (hc : a.eval c = .int kc C) (hC : C = (n : Int)) (hbel : Below B w0 w) (hB : B ≤ w.heap.size)
    (b2 : bytes * n ≤ 281474976710656) (b3 : n ≤ 9223372036854775807)
    (hK : ∀ w', Bld w' B e (.slice (some ⟨w.heap.size, 0, none⟩) 0 n) 0 F → Below B w0 w' → wpList P ops Q rest (a.put o.dst (.slice (some ⟨w.heap.size, 0, none⟩) 0 n)) w') :
    wpList P ops Q (o :: rest) a w := by
  obtain ⟨i0, hi, hz0, hz1, hz2⟩ := info_parts hinfo
  refine wpList_make_own w hg l c t hop B e i0 z 1 ht hi hz0 hz1 kl kc C n hl hc hC (by rw [hz2]; exact b2) (by unfold maxLen; omega) hB ?_
  intro w' hown hgrow
  exact hK w' ⟨by simpa using hown, Nat.le_trans hB hgrow.size⟩ (hbel.grown hgrow hB (fun _ h => by cases h))

/-- 'make([]T, m, n)': m zeros. -/
theorem wpl_makez (hg : o.guard = none) (l c : Operand) (t e : TypeId) (z : Value) (bytes : Nat) (hop : o.op = Op.makeSlice t l c)
    (ht : P.underlying t = some (.slice e)) (hinfo : (P.info? e).map (fun i => (i.zero, i.size, i.bytes)) = some (some z, 1, bytes)) (hzc : z.cells = #[z])
    (B : Nat) (kl kc : IntKind) (L C : Int) (m n : Nat) (F : Nat → Value) (hl : a.eval l = .int kl L) (hL : L = (m : Int)) (hc : a.eval c = .int kc C) (hC : C = (n : Int)) (hmn : m ≤ n) (hbel : Below B w0 w) (hB : B ≤ w.heap.size)
    (b2 : bytes * n ≤ 281474976710656) (b3 : n ≤ 9223372036854775807) (hF : ∀ j, j < m → F j = z)
    (hK : ∀ w', Bld w' B e (.slice (some ⟨w.heap.size, 0, none⟩) m n) m F → Below B w0 w' → wpList P ops Q rest (a.put o.dst (.slice (some ⟨w.heap.size, 0, none⟩) m n)) w') :
    wpList P ops Q (o :: rest) a w := by
  obtain ⟨i0, hi, hz0, hz1, hz2⟩ := info_parts hinfo
  refine wpList_plain hg fun K hK' => ?_
  subst hL
  subst hC
  have hrun := run_make (P := P) w t e i0 z ht hi hz0 kl kc (m : Int) (n : Int) (by omega) (by omega) (by rw [hz2]; omega) (by omega)
  rw [hz1, Nat.mul_one, hzc, Int.toNat_natCast, Int.toNat_natCast] at hrun
  have hbld : Bld (w.alloc (.cells (madeCells #[z] n) e)) B e (.slice (some ⟨w.heap.size, 0, none⟩) m n) m F := by
    refine ⟨⟨by simp, .inr ⟨w.heap.size, n, madeCells #[z] n, rfl, hB, heap_alloc_new w _, hmn, by unfold maxLen; omega, by rw [size_madeCells, Nat.mul_one], ?_⟩⟩, by simp; omega⟩
    rw [toList_madeCells_one, Nat.mul_one, List.take_replicate, Nat.min_eq_left hmn]
    apply List.ext_getElem
    · simp
    · intro j h1 h2
      simp at h1
      simp [hF j h1]
  have := hK _ hbld (hbel.alloc hB _)
  unfold Oper.wp
  simp [execOp, hop, hl, hc, hrun, Result.andThen]
  exact hK' _ _ this
end

theorem info42 : (Try.prog.info? 42).map (fun i => (i.zero, i.size, i.bytes)) = some (some (.int .u32 0), 1, 4) := by kernel_rfl
theorem info26 : (Try.prog.info? 26).map (fun i => (i.zero, i.size, i.bytes)) = some (some (.float .f64 0), 1, 8) := by kernel_rfl

/-! ### Naturals as slices of words -/
def dw (N : Nat) : Nat → Value := fun j => .int .u32 (dig N j)
/-- The slice's words are N's, the lowest first, no word 0 at the end. -/
structure Nt (w : World) (A : Option Addr) (n c : Nat) (N : Nat) : Prop where
  rs : RS w A n c (dw N)
  lt : N < Mx n
  top : n ≠ 0 → Mx (n - 1) ≤ N
theorem Nt.below {w w' : World} {A : Option Addr} {n c N : Nat} (h : Nt w A n c N) (hb : Below w.heap.size w w') : Nt w' A n c N := ⟨h.rs.below hb, h.lt, h.top⟩
theorem Nt.zero_iff {w : World} {A : Option Addr} {n c N : Nat} (h : Nt w A n c N) : n = 0 ↔ N = 0 := by
  constructor
  · intro hn
    have := h.lt
    subst hn
    unfold Mx at this
    simp at this
    exact this
  · intro hN
    by_cases hn : n = 0
    · exact hn
    · have := h.top hn
      have := Mx_pos (n - 1)
      omega
theorem Mx_lt_iff {i j : Nat} (h : Mx i < Mx j) : i < j := by
  rcases Nat.lt_or_ge i j with h' | h'
  · exact h'
  · have := Mx_mono h'; omega
theorem Nt.len_le {w : World} {A : Option Addr} {n c N m : Nat} (h : Nt w A n c N) (hN : N < Mx m) : n ≤ m := by
  by_cases hn : n = 0
  · omega
  · have h1 := h.top hn
    have := Mx_lt_iff (Nat.lt_of_le_of_lt h1 hN)
    omega
theorem Nt.len_eq {w w' : World} {A A' : Option Addr} {n n' c c' N : Nat} (h : Nt w A n c N) (h' : Nt w' A' n' c' N) : n = n' := by
  have h1 := h.len_le h'.lt
  have h2 := h'.len_le h.lt
  omega

/-- What a call that answers a natural leaves. -/
def NRet (N : Nat) (w : World) (e : Ending) (w' : World) : Prop := ∃ A n c, e = .returned (.slice A n c) ∧ Nt w' A n c N ∧ Below w.heap.size w w'

theorem Mx_succ (k : Nat) : Mx (k + 1) = Mx k * 4294967296 := pow_succ32 k
theorem dig_top_zero {N k : Nat} (h : N < Mx (k + 1)) (h0 : dig N k = 0) : N < Mx k := by
  rw [Mx_succ] at h
  unfold dig at h0
  have hlt : N / 2 ^ (32 * k) < 4294967296 := by
    rw [Nat.div_lt_iff_lt_mul (Nat.two_pow_pos _), Nat.mul_comm]; exact h
  rw [Nat.mod_eq_of_lt hlt] at h0
  unfold Mx
  rcases (Nat.div_eq_zero_iff.1 h0) with h' | h'
  · have := Nat.two_pow_pos (32 * k); omega
  · exact h'
theorem dig_top_ne {N k : Nat} (h0 : dig N k ≠ 0) : Mx k ≤ N := by
  rcases Nat.lt_or_ge N (Mx k) with h | h
  · exact absurd (dig_bigx N k k h (Nat.le_refl _)) h0
  · exact h


end Go.Proofs.Ytdfbmfmfhdifpaa
