/- Small: the walk. -/
import Derived.Test.YtppebegleedifaaDoorXs
namespace Go.Proofs.YtppebegleedifaaDoor
open Go.RowKit

/-- After q turns: a, b, s, t. -/
def rA (q : Nat) (x y : Int) : Int := if q % 2 = 0 then x else y
def rsN (q : Nat) : Int := if q % 4 = 0 ∨ q % 4 = 1 then 1 else -1
def rtN (q : Nat) : Int := if q % 4 = 0 ∨ q % 4 = 3 then 1 else -1
theorem rA_succ (q : Nat) (x y : Int) : rA (q + 1) x y = rA q y x := by
  unfold rA
  by_cases h : q % 2 = 0
  · rw [if_neg (by omega), if_pos h]
  · rw [if_pos (by omega), if_neg h]
theorem rs_succ (q : Nat) : rsN (q + 1) = rtN q := by
  unfold rsN rtN
  by_cases h : q % 4 = 0 ∨ q % 4 = 3
  · rw [if_pos (by omega), if_pos h]
  · rw [if_neg (by omega), if_neg h]
theorem rt_succ (q : Nat) : rtN (q + 1) = -rsN q := by
  unfold rsN rtN
  by_cases h : q % 4 = 0 ∨ q % 4 = 1
  · rw [if_neg (by omega), if_pos h]
  · rw [if_pos (by omega), if_neg h]; rfl
theorem rs_one (q : Nat) : rsN q = 1 ∨ rsN q = -1 := by unfold rsN; split <;> simp
theorem rt_one (q : Nat) : rtN q = 1 ∨ rtN q = -1 := by unfold rtN; split <;> simp
theorem rA_i64 {q : Nat} {x y : Int} (hx : i64B x) (hy : i64B y) : i64B (rA q x y) := by unfold rA; split; exact hx; exact hy
/-- The turns of place k and summand j. -/
def rot (n k j : Nat) : Nat := 4 * j * k / n % 4
/-- The sums at place k: the first j summands. -/
def reS (n : Nat) (x y : Nat → Int) (k : Nat) : Nat → Int
  | 0 => 0
  | j + 1 => reS n x y k j + rA (rot n k j) (x j) (y j) * rsN (rot n k j)
def imS (n : Nat) (x y : Nat → Int) (k : Nat) : Nat → Int
  | 0 => 0
  | j + 1 => imS n x y k j + rA (rot n k j) (y j) (x j) * rtN (rot n k j)
theorem term_le {x s : Int} (hx : i64B x) (hs : s = 1 ∨ s = -1) : -9223372036854775808 ≤ x * s ∧ x * s ≤ 9223372036854775808 := by
  obtain ⟨h1, h2⟩ := hx
  rcases hs with rfl | rfl <;> omega
theorem reS_le {n : Nat} {x y : Nat → Int} (hx : ∀ j, i64B (x j)) (hy : ∀ j, i64B (y j)) (k j : Nat) : -((j : Int) * 9223372036854775808) ≤ reS n x y k j ∧ reS n x y k j ≤ (j : Int) * 9223372036854775808 := by
  induction j with
  | zero => rw [reS]; simp
  | succ j ih =>
    rw [reS]
    have := term_le (s := rsN (rot n k j)) (rA_i64 (q := rot n k j) (hx j) (hy j)) (rs_one _)
    generalize rA (rot n k j) (x j) (y j) * rsN (rot n k j) = v at *
    omega
theorem imS_le {n : Nat} {x y : Nat → Int} (hx : ∀ j, i64B (x j)) (hy : ∀ j, i64B (y j)) (k j : Nat) : -((j : Int) * 9223372036854775808) ≤ imS n x y k j ∧ imS n x y k j ≤ (j : Int) * 9223372036854775808 := by
  induction j with
  | zero => rw [imS]; simp
  | succ j ih =>
    rw [imS]
    have := term_le (s := rtN (rot n k j)) (rA_i64 (q := rot n k j) (hy j) (hx j)) (rt_one _)
    generalize rA (rot n k j) (y j) (x j) * rtN (rot n k j) = v at *
    omega
theorem Wds.congr {w : World} {B n : Nat} {S T : Nat → Int} (h : Wds w B n S) (e : ∀ j, j < n → S j = T j) : Wds w B n T :=
  ⟨fun j hj => by rw [← e j hj]; exact h.num j hj, h.free⟩
/-- Another block is written. -/
theorem Wds.other {w : World} {B n D : Nat} {S : Nat → Int} (h : Wds w B n S) (hne : B ≠ D) (o0 o1 o2 : Nat) (v0 v1 v2 : Value) : Wds (((w.setCell ⟨D, o0, none⟩ v0).setCell ⟨D, o1, none⟩ v1).setCell ⟨D, o2, none⟩ v2) B n S := by
  have ne : ∀ x y : Nat, (⟨D, x, none⟩ : Addr) ≠ ⟨B, y, none⟩ := fun x y e => by injection e with e _ _; exact hne e.symm
  have oth : ∀ (w : World) (x y : Nat) (v : Value), (w.setCell ⟨D, x, none⟩ v).cell? ⟨B, y, none⟩ = w.cell? ⟨B, y, none⟩ := fun w x y v => World.cell?_setCell_other _ _ _ _ (ne x y)
  constructor
  · intro j hj
    obtain ⟨a0, a1, a2, h1, h2, h3, h4⟩ := h.num j hj
    exact ⟨a0, a1, a2, h1, by rw [oth, oth, oth]; exact h2, by rw [oth, oth, oth]; exact h3, by rw [oth, oth, oth]; exact h4⟩
  · intro j
    rw [World.frozen?_setCell, World.frozen?_setCell, World.frozen?_setCell]; exact h.free j
theorem run_make70 (n : Nat) (hn : n ≤ 4194304) (w : World) : (Instr.makeSlice 68 (.int .i64 (n : Nat)) (.int .i64 (n : Nat))).run Tryd.prog w = .ok (.slice (some ⟨w.heap.size, 0, none⟩) n n) (w.alloc (.cells (madeCells #[.int .u64 0, .int .u64 0, .int .u64 0] (n * 3)) 70)) := by
  obtain ⟨i0, hi, hz0, hz1, hz2⟩ : ∃ i0, Tryd.prog.info? 70 = some i0 ∧ i0.zero = some (.agg #[.int .u64 0, .int .u64 0, .int .u64 0]) ∧ i0.size = 3 ∧ i0.bytes = 24 := by
    have h := info70
    cases hq : Tryd.prog.info? 70 with
    | none => rw [hq] at h; cases h
    | some i0 =>
      rw [hq] at h
      simp only [Option.map_some, Option.some.injEq, Prod.mk.injEq] at h
      exact ⟨i0, rfl, h.1, h.2.1, h.2.2⟩
  have hrun := run_make (P := Tryd.prog) w 68 70 i0 _ Tryd.underlying68 hi hz0 .i64 .i64 (n : Int) (n : Int) (by omega) (by omega) (by rw [hz2]; omega) (by omega)
  rw [hz1, Int.toNat_natCast] at hrun
  exact hrun
def upd3 (w : World) (D o : Nat) (s0 s1 s2 : Nat) : World := ((w.setCell ⟨D, o, none⟩ (.int .u64 (s0 : Nat))).setCell ⟨D, o + 1, none⟩ (.int .u64 (s1 : Nat))).setCell ⟨D, o + 2, none⟩ (.int .u64 (s2 : Nat))
theorem Wds.put3 {w : World} {B n : Nat} {S : Nat → Int} (h : Wds w B n S) (k : Nat) (T : Int) (s0 s1 s2 : Nat) (hk : k < n) (hr : R3 T s0 s1 s2) : Wds (upd3 w B (k * 3) s0 s1 s2) B n (fun j => if j = k then T else S j) := by
  have := h.set k T s0 s1 s2 hk hr
  rw [Nat.mul_comm 3 k] at this
  exact this
theorem Wds.oth3 {w : World} {B n D : Nat} {S : Nat → Int} (h : Wds w B n S) (hne : B ≠ D) (o s0 s1 s2 : Nat) : Wds (upd3 w D o s0 s1 s2) B n S := h.other hne _ _ _ _ _ _
theorem below3 {B0 D : Nat} {w w' : World} (h : Below B0 w w') (hD : B0 ≤ D) (o s0 s1 s2 : Nat) : Below B0 w (upd3 w' D o s0 s1 s2) := ((h.setCell hD _).setCell hD _).setCell hD _
theorem size3 (w : World) (D o s0 s1 s2 : Nat) : (upd3 w D o s0 s1 s2).heap.size = w.heap.size := by simp [upd3, World.setCell]
/-- One add at number k of a block. -/
theorem wadd3 {w : World} {D n : Nat} {S : Nat → Int} (h : Wds w D n S) (k : Nat) (hk : k < n) (u v : Int) (hu : i64B u) (hv : i64B v) (w0 : World) (e : w0.heap = w.heap) :
    Calls Tryd.prog 38 #[.pointer (some ⟨D, k * 3, none⟩), .int .i64 u, .int .i64 v] w0 fun e w' => ∃ kk r s0 s1 s2, e = .returned r ∧ R3 (S k + u * v) s0 s1 s2 ∧ w' = (upd3 w0 D (k * 3) s0 s1 s2).drewN kk := by
  obtain ⟨a0, a1, a2, h3, q0, q1, q2⟩ := h.num k hk
  rw [Nat.mul_comm 3 k] at q0 q1 q2
  have f0 := h.free (k * 3)
  have f1 := h.free (k * 3 + 1)
  have f2 := h.free (k * 3 + 2)
  exact wadd_any D (k * 3) a0 a1 a2 _ u v w0 h3 hu hv (by rw [← q0]; simp [World.cell?, e]) (by rw [← q1]; simp [World.cell?, e]) (by rw [← q2]; simp [World.cell?, e]) (by rw [← f0]; simp [World.frozen?, e]) (by rw [← f1]; simp [World.frozen?, e]) (by rw [← f2]; simp [World.frozen?, e])
theorem tab_step (k : Nat) (P : Nat → Int) (u v T : Int) (hT : T = v) (i : Nat) : (if i = k then T else if i < k then P i else if i = k then u else 0) = if i < k then P i else if i = k then v else 0 := by
  by_cases h : i = k
  · subst h; simp [hT]
  · simp [h]
theorem tab_end (k : Nat) (P : Nat → Int) (u : Int) (hu : u = P k) (i : Nat) : (if i < k then P i else if i = k then u else 0) = if i < k + 1 then P i else 0 := by
  by_cases h : i < k
  · rw [if_pos h, if_pos (by omega)]
  · rw [if_neg h]
    by_cases e : i = k
    · subst e; rw [if_pos rfl, if_pos (by omega), hu]
    · rw [if_neg e, if_neg (by omega)]
def smN (n : Nat) (x y : Nat → Int) : Nat := if allFit (fun i => reS n x y i n) n = true ∧ allFit (fun i => imS n x y i n) n = true then 0 else 19
/-- What Small leaves. -/
def SR (ea : Nat → Addr) (n : Nat) (x y : Nat → Int) (w : World) (e : Ending) (w' : World) : Prop :=
  ∃ A c A' c', e = .returned (.tuple #[.slice A (lenOf (smN n x y) n) c, .slice A' (lenOf (smN n x y) n) c', eV2 ea (smN n x y)]) ∧
    Bld w' w.heap.size 2 (.slice A (lenOf (smN n x y) n) c) (lenOf (smN n x y) n) (iw fun i => reS n x y i n) ∧ Bld w' w.heap.size 2 (.slice A' (lenOf (smN n x y) n) c') (lenOf (smN n x y) n) (iw fun i => imS n x y i n) ∧
    (∀ g g', (Value.slice A (lenOf (smN n x y) n) c).ownBlock = some g → (Value.slice A' (lenOf (smN n x y) n) c').ownBlock = some g' → g ≠ g') ∧ Below w.heap.size w w'
theorem sr_ok {ea : Nat → Addr} {n : Nat} {x y : Nat → Int} {w w1 w5 w6 : World} {A5 A6 : Option Addr} {c5 c6 : Nat} (hb1 : Below w.heap.size w w1) (hb5 : Below w1.heap.size w1 w5) (hb6 : Below w5.heap.size w5 w6)
    (hB5 : Bld w5 w1.heap.size 2 (.slice A5 n c5) n (iw fun i => reS n x y i n)) (hB6 : Bld w6 w5.heap.size 2 (.slice A6 n c6) n (iw fun i => imS n x y i n)) (F1 : allFit (fun i => reS n x y i n) n = true) (F2 : allFit (fun i => imS n x y i n) n = true) :
    SR ea n x y w (.returned (.tuple #[.slice A5 n c5, .slice A6 n c6, .nilIface])) w6 := by
  have e : smN n x y = 0 := by unfold smN; rw [if_pos ⟨F1, F2⟩]
  unfold SR
  rw [e]
  refine ⟨A5, c5, A6, c6, rfl, (hB5.mono hb1.size).below hb6, hB6.mono (Nat.le_trans hb1.size hb5.size), ?_, (hb1.trans (hb5.mono hb1.size)).trans (hb6.mono (Nat.le_trans hb1.size hb5.size))⟩
  intro g g' h1 h2 e
  have k1 := (hB5.own.lt g h1).2
  have k2 := hB6.base g' h2
  omega
theorem sr_err {ea : Nat → Addr} {n : Nat} {x y : Nat → Int} {w w6 : World} (F : allFit (fun i => reS n x y i n) n = false ∨ allFit (fun i => imS n x y i n) n = false) (hb : Below w.heap.size w w6) :
    SR ea n x y w (.returned (.tuple #[.slice none 0 0, .slice none 0 0, .iface 110 (.pointer (some (ea 1)))])) w6 := by
  have e : smN n x y = 19 := by
    unfold smN
    rw [if_neg]
    rintro ⟨h1, h2⟩
    rcases F with h | h
    · rw [h] at h1; cases h1
    · rw [h] at h2; cases h2
  unfold SR
  rw [e]
  exact ⟨none, 0, none, 0, rfl, bld_none _ _ _ hb.size _, bld_none _ _ _ hb.size _, fun g g' h => (by cases h), hb⟩
end Go.Proofs.YtppebegleedifaaDoor
