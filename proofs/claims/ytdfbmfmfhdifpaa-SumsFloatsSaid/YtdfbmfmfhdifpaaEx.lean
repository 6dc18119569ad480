/- Exact. -/
import Derived.Test.YtdfbmfmfhdifpaaRo
namespace Go.Proofs.Ytdfbmfmfhdifpaa
open Go.RowKit

def Z70 : Array Value := Array.replicate 70 (.int .u32 0)
def Z10 : Array Value := Array.replicate 10 (.bool false)
theorem zero41 : ∃ z, (Try.prog.info? 41).bind (·.zero) = some z ∧ z = .agg Z10 := ⟨_, rfl, by kernel_rfl⟩
theorem zero44 : ∃ z, (Try.prog.info? 44).bind (·.zero) = some z ∧ z = .agg Z70 := ⟨_, rfl, by kernel_rfl⟩
theorem run_zero {t : TypeId} {z : Value} (h : (Try.prog.info? t).bind (·.zero) = some z) (w : World) : (zeroValue t).run Try.prog w = .ok z w := by
  cases hi : Try.prog.info? t with
  | none => rw [hi] at h; cases h
  | some i => rw [hi] at h; simp at h; simp [zeroValue, typeInfo, hi, h]
theorem run_zero41 (w : World) : (zeroValue 41).run Try.prog w = .ok (.agg Z10) w := by
  obtain ⟨z, hz, rfl⟩ := zero41
  exact run_zero hz w
theorem run_zero44 (w : World) : (zeroValue 44).run Try.prog w = .ok (.agg Z70) w := by
  obtain ⟨z, hz, rfl⟩ := zero44
  exact run_zero hz w


/-! ### The sum modulo 2^2240 -/
def sval (b : Nat) : Int := if b ≥ 9223372036854775808 then -(mag b : Int) else (mag b : Int)
def repr (S : Int) : Nat := (S % (M70 : Int)).toNat
theorem repr_cast (S : Int) : (repr S : Int) = S % (M70 : Int) := by
  unfold repr
  have := M70_pos
  exact Int.toNat_of_nonneg (Int.emod_nonneg _ (by omega))
theorem repr_lt (S : Int) : repr S < M70 := by
  have h := repr_cast S
  have := M70_pos
  have := Int.emod_lt_of_pos S (show (0 : Int) < (M70 : Int) by omega)
  omega
theorem repr_zero : repr 0 = 0 := by unfold repr; simp
theorem mag_M70 (b : Nat) : mag b ≤ M70 := (addFacts b).hXM
theorem addN_repr (S : Int) (b : Nat) : addN (repr S) b = repr (S + sval b) := by
  have h := repr_cast S
  have hp := M70_pos
  have hm := mag_M70 b
  have key : ∀ T : Nat, (T : Int) % (M70 : Int) = (S + sval b) % (M70 : Int) → T % M70 = repr (S + sval b) := by
    intro T hT
    have h2 := repr_cast (S + sval b)
    rw [← hT] at h2
    omega
  unfold addN
  by_cases hs : b ≥ 9223372036854775808
  · rw [if_pos hs]
    apply key
    have es : sval b = -(mag b : Int) := by unfold sval; rw [if_pos hs]
    rw [es]
    have e : ((repr S + M70 - mag b : Nat) : Int) = (repr S : Int) + (M70 : Int) - (mag b : Int) := by omega
    rw [e, h, show S % (M70 : Int) + (M70 : Int) - (mag b : Int) = (S % (M70 : Int) + -(mag b : Int)) + (M70 : Int) from by omega, Int.add_emod_right, Int.emod_add_emod]
  · rw [if_neg hs]
    apply key
    have es : sval b = (mag b : Int) := by unfold sval; rw [if_neg hs]
    rw [es, Int.natCast_add, h, Int.emod_add_emod]

theorem neg70_eq (N k : Nat) (hk : k = 2239) : neg70 N = (N / 2 ^ k % 2 == 1) := by subst hk; rfl
theorem M70_half (k : Nat) (hk : k = 2239) : M70 = 2 * 2 ^ k := by
  unfold M70 Mx
  rw [show 32 * 70 = k + 1 from by omega, Nat.pow_succ, Nat.mul_comm]
theorem repr_pos {S : Int} {k : Nat} (hk : k = 2239) (h0 : 0 ≤ S) (h1 : S.natAbs < 2 ^ k) : repr S = S.natAbs ∧ neg70 (repr S) = false := by
  have hM := M70_half k hk
  have h := repr_cast S
  have e : S % (M70 : Int) = S := Int.emod_eq_of_lt h0 (by omega)
  rw [e] at h
  have e2 : repr S = S.natAbs := by omega
  refine ⟨e2, ?_⟩
  rw [neg70_eq _ k hk, e2, Nat.div_eq_of_lt h1]
  rfl
theorem repr_neg {S : Int} {k : Nat} (hk : k = 2239) (h0 : S < 0) (h1 : S.natAbs < 2 ^ k) : turnN (repr S) = S.natAbs ∧ neg70 (repr S) = true := by
  have hM := M70_half k hk
  have hp := Nat.two_pow_pos k
  have h := repr_cast S
  have e : S % (M70 : Int) = S + (M70 : Int) := by
    rw [← Int.add_emod_right]; exact Int.emod_eq_of_lt (by omega) (by omega)
  rw [e] at h
  constructor
  · unfold turnN
    have : 0 + M70 - repr S = S.natAbs := by omega
    rw [this]
    exact Nat.mod_eq_of_lt (by omega)
  · rw [neg70_eq _ k hk]
    have : repr S / 2 ^ k = 1 := by
      have h2 : repr S = 2 ^ k * 1 + (2 ^ k - S.natAbs) := by omega
      rw [h2, Nat.mul_add_div hp, Nat.div_eq_of_lt (by omega)]
    rw [this]
    rfl

theorem cutF {A : Nat} (hA : A ≠ 0) (hM : A < M70) : CutF A (blen A) (blen A - 53) ∧ blen A ≤ 2240 := by
  have hl : blen A ≤ 2240 := by
    unfold blen
    rw [if_neg hA]
    have : A.log2 < 32 * 70 := (Nat.log2_lt hA).2 (by unfold M70 Mx at hM; exact hM)
    omega
  exact ⟨⟨hA, rfl, hl, rfl⟩, hl⟩

theorem word_true (r : Nat) : Fl.D.word true r = 9223372036854775808 + r := by
  unfold Ieee.Format.word
  rw [if_pos rfl, Fl.D_sign]

theorem turnN_lt (N : Nat) : turnN N < M70 := Nat.mod_lt _ M70_pos

theorem rounded_any (S : Int) (k : Nat) (hk : k = 2239) (h0 : S ≠ 0) (h1 : S.natAbs < 2 ^ k) (cs : Array Value) (w : World)
    (hcs : cs.size = 70 ∧ ∀ j, j < 70 → cs[j]? = some (.int .u32 (dig (repr S) j))) :
    Calls Try.prog 29 #[.agg cs] w fun e w' => e = .returned (.float .f64 (Fl.D.word (S < 0) (Fl.rung S.natAbs 0))) ∧ Below w.heap.size w w' := by
  have hA : S.natAbs ≠ 0 := by omega
  have hAM : S.natAbs < M70 := by have := M70_half k hk; omega
  obtain ⟨hc, hl⟩ := cutF hA hAM
  by_cases hs : S < 0
  · obtain ⟨e1, e2⟩ := repr_neg hk hs h1
    have er : Fl.D.word (S < 0) (Fl.rung S.natAbs 0) = 9223372036854775808 + Fl.rung S.natAbs 0 := by
      rw [show (decide (S < 0)) = true from decide_eq_true hs, word_true]
    rw [er]
    by_cases hb : 53 ≤ blen S.natAbs
    · exact rounded_negb (repr S) S.natAbs (blen S.natAbs) (blen S.natAbs - 53) cs w hcs (repr_lt S) e2 e1.symm hc ⟨by omega, hl⟩ hAM hl (by omega) (by omega)
    · have e0 : blen S.natAbs - 53 = 0 := by omega
      rw [e0] at hc
      exact rounded_negs (repr S) S.natAbs (blen S.natAbs) cs w hcs (repr_lt S) e2 e1.symm hc ⟨by omega, hl⟩ hAM hl (by omega)
  · obtain ⟨e1, e2⟩ := repr_pos hk (by omega) h1
    have er : Fl.D.word (S < 0) (Fl.rung S.natAbs 0) = Fl.rung S.natAbs 0 := by
      rw [show (decide (S < 0)) = false from decide_eq_false hs, word_false]
    rw [er]
    by_cases hb : 53 ≤ blen S.natAbs
    · exact rounded_posb (repr S) S.natAbs (blen S.natAbs) (blen S.natAbs - 53) cs w hcs (repr_lt S) e2 e1.symm hc ⟨by omega, hl⟩ hAM hl (by omega) (by omega)
    · have e0 : blen S.natAbs - 53 = 0 := by omega
      rw [e0] at hc
      exact rounded_poss (repr S) S.natAbs (blen S.natAbs) cs w hcs (repr_lt S) e2 e1.symm hc ⟨by omega, hl⟩ hAM hl (by omega)

/-! ### The specification of Exact -/
def cN (b : Nat) : Nat := (classN b).toNat
theorem cN_cast (b : Nat) : classN b = (cN b : Int) := by
  unfold cN classN
  simp only
  repeat' split
  all_goals rfl
theorem cN_lt (b : Nat) : cN b < 10 := by
  unfold cN classN
  simp only
  repeat' split
  all_goals decide
theorem cN_fin {b : Nat} (hb : b < 18446744073709551616) (h : 1 < cN b ∧ cN b < 8) : b % 9223372036854775808 < 9218868437227405312 := by
  unfold cN classN at h
  simp only at h
  rcases Nat.lt_or_ge (b % 9223372036854775808) 9218868437227405312 with hl | hl
  · exact hl
  · exfalso
    by_cases e : b % 9223372036854775808 > 9218868437227405312
    · rw [if_pos e] at h; exact absurd h.2 (by decide)
    · have e2 : b % 9223372036854775808 = 9218868437227405312 := by omega
      rw [if_neg e, e2] at h
      simp at h
      split at h
      · exact absurd h.1 (by decide)
      · exact absurd h.2 (by decide)
def finB (b : Nat) : Bool := decide (1 < cN b ∧ cN b < 8)
def seenF (g : Nat → Nat) : Nat → Nat → Bool
  | 0, _ => false
  | k + 1, c => if c = cN (g k) then true else seenF g k c
def sumF (g : Nat → Nat) : Nat → Int
  | 0 => 0
  | k + 1 => if finB (g k) = true then sumF g k + sval (g k) else sumF g k
def all4 (g : Nat → Nat) : Nat → Bool
  | 0 => true
  | k + 1 => all4 g k && cN (g k) == 4
def exactG (g : Nat → Nat) (n : Nat) : Nat :=
  if (seenF g n 9 || (seenF g n 8 && seenF g n 1)) = true then nanW
  else if seenF g n 8 = true then 9218868437227405312
  else if seenF g n 1 = true then 18442240474082181120
  else if sumF g n ≠ 0 then Fl.D.word (sumF g n < 0) (Fl.rung (sumF g n).natAbs 0)
  else if n ≠ 0 ∧ all4 g n = true then 9223372036854775808 else 0

/-- Block SB holds ten bools. -/
structure Sn (w : World) (SB : Nat) (f : Nat → Bool) : Prop where
  cell : ∀ c, c < 10 → w.cell? ⟨SB, c, none⟩ = some (.bool (f c))
  free : ∀ c, c < 10 → w.frozen? ⟨SB, c, none⟩ = false
theorem Sn.of_block {w w' : World} {SB : Nat} {f : Nat → Bool} (h : Sn w SB f) (hb : w'.heap[SB]? = w.heap[SB]?) : Sn w' SB f :=
  ⟨fun c hc => by rw [← h.cell c hc]; exact World.cell?_of_block hb, fun c hc => by rw [← h.free c hc]; exact World.frozen?_of_block hb⟩
theorem Sn.set {w : World} {SB : Nat} {f : Nat → Bool} (h : Sn w SB f) (q : Nat) (hq : q < 10) : Sn (w.setCell ⟨SB, q, none⟩ (.bool true)) SB (fun c => if c = q then true else f c) := by
  constructor
  · intro c hc
    by_cases e : c = q
    · subst e; rw [if_pos rfl]; exact World.cell?_setCell_same _ _ _ (h.cell c hc)
    · rw [if_neg e, ← h.cell c hc]
      exact World.cell?_setCell_other _ _ _ _ (by intro e'; injection e' with _ e' _; exact e e'.symm)
  · intro c hc
    rw [← h.free c hc]; exact World.frozen?_setCell ..
theorem Sn.lt {w : World} {SB : Nat} {f : Nat → Bool} (h : Sn w SB f) : SB < w.heap.size := World.block_lt_of_cell? w _ (h.cell 0 (by decide))

theorem sn_start (w : World) : Sn ((w.alloc (.cells Z10 41)).alloc (.cells Z70 44)) w.heap.size (fun _ => false) := by
  have hh : ((w.alloc (.cells Z10 41)).alloc (.cells Z70 44)).heap[w.heap.size]? = some (.cells Z10 41) := heap_alloc2_old w _ _
  constructor
  · intro c hc
    rw [cell_of_row _ _ c _ _ _ hh]
    unfold Z10
    rw [Array.getElem?_replicate, if_pos hc]
  · intro c _
    exact frozen_of_row _ _ c _ _ hh
theorem wh_start (w : World) : Wh ((w.alloc (.cells Z10 41)).alloc (.cells Z70 44)) (w.heap.size + 1) (dig (repr 0)) := by
  refine ⟨Z70, 44, heap_alloc2_new w _ _, by unfold Z70; simp, fun j hj => ?_⟩
  unfold Z70
  rw [repr_zero, dig_zero, Array.getElem?_replicate, if_pos hj]
  rfl

def Fretb (v : Nat) (w : World) (e : Ending) (w' : World) : Prop := ∃ r, e = .returned (.float .f64 r) ∧ r < 2 ^ 64 ∧ cn r = cn v ∧ Below w.heap.size w w'

/-- What holds at the head of each round of Exact. -/
structure ExR (g : Nat → Nat) (SB : Nat) (w wr : World) (k : Nat) : Prop where
  sn : Sn wr SB (seenF g k)
  wh : Wh wr (SB + 1) (dig (repr (sumF g k)))
  bel : Below SB w wr
  lt : SB + 1 < wr.heap.size
theorem exr_start (g : Nat → Nat) (w : World) : ExR g w.heap.size w ((w.alloc (.cells Z10 41)).alloc (.cells Z70 44)) 0 := by
  refine ⟨?_, wh_start w, ((Below.refl _ _).alloc (Nat.le_refl _) _).alloc (by simp) _, (wh_start w).lt⟩
  have := sn_start w
  exact this
theorem exr_seen {g : Nat → Nat} {SB k : Nat} {w wr : World} (h : ExR g SB w wr k) :
    Sn (wr.setCell ⟨SB, cN (g k), none⟩ (.bool true)) SB (seenF g (k + 1)) ∧ Wh (wr.setCell ⟨SB, cN (g k), none⟩ (.bool true)) (SB + 1) (dig (repr (sumF g k))) ∧
    Below SB w (wr.setCell ⟨SB, cN (g k), none⟩ (.bool true)) ∧ SB + 1 < (wr.setCell ⟨SB, cN (g k), none⟩ (.bool true)).heap.size :=
  ⟨h.sn.set _ (cN_lt _), h.wh.of_block (Below.heap_setCell _ _ _ _ (by simp)), h.bel.setCell (Nat.le_refl _) _, by have := h.lt; simp [World.setCell]; exact this⟩
theorem exr_skip {g : Nat → Nat} {SB k : Nat} {w wr : World} (h : ExR g SB w wr k) (hf : finB (g k) = false) : ExR g SB w (wr.setCell ⟨SB, cN (g k), none⟩ (.bool true)) (k + 1) := by
  obtain ⟨a, b, c, d⟩ := exr_seen h
  refine ⟨a, ?_, c, d⟩
  rw [show sumF g (k + 1) = sumF g k from by rw [sumF, hf]; rfl]
  exact b
theorem exr_add {g : Nat → Nat} {SB k : Nat} {w wr w2 : World} (h : ExR g SB w wr k) (hf : finB (g k) = true)
    (hw : Wh w2 (SB + 1) (dig (addN (repr (sumF g k)) (g k)))) (hc : Chg (SB + 1) (wr.setCell ⟨SB, cN (g k), none⟩ (.bool true)) w2) : ExR g SB w w2 (k + 1) := by
  obtain ⟨a, b, c, d⟩ := exr_seen h
  refine ⟨a.of_block (hc.block SB (by omega) (by omega)), ?_, c.trans (hc.below (by omega) (by omega)), by have := hc.size; omega⟩
  rw [show sumF g (k + 1) = sumF g k + sval (g k) from by rw [sumF, if_pos hf], ← addN_repr]
  exact hw

end Go.Proofs.Ytdfbmfmfhdifpaa
