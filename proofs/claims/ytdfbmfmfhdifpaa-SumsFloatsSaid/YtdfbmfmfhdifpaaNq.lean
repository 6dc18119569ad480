/- The reference's Exact: plain parts. -/
import Derived.Test.YtdfbmfmfhdifpaaNp
import Derived.Test.YtdfbmfmfhdifpaaNw
namespace Go.Proofs.Ytdfbmfmfhdifpaa
open Go.RowKit

theorem cls_of (b : Nat) (hb : b < 18446744073709551616) (hc : cn b = b) :
    (b = 9221120237041090560 ∧ cN b = 9) ∨ (b = 9218868437227405312 ∧ cN b = 8) ∨ (b = 18442240474082181120 ∧ cN b = 1) ∨
    (b ≠ 9221120237041090560 ∧ b ≠ 9218868437227405312 ∧ b ≠ 18442240474082181120 ∧ cN b ≠ 9 ∧ cN b ≠ 8 ∧ cN b ≠ 1 ∧ finB b = true ∧ (cN b = 4 ↔ b = 9223372036854775808)) := by
  have key : cN b = (classN b).toNat := rfl
  unfold classN at key
  by_cases h : b % 9223372036854775808 > 9218868437227405312
  · left
    rw [if_pos h] at key
    unfold cn at hc
    rw [if_pos h] at hc
    exact ⟨hc.symm, key⟩
  · rw [if_neg h] at key
    simp only at key
    right
    have hl : b % 9223372036854775808 ≤ 9218868437227405312 := by omega
    by_cases hs : b ≥ 9223372036854775808
    · rw [if_pos hs] at key
      by_cases e : b % 9223372036854775808 = 9218868437227405312
      · rw [e] at key
        right; left
        exact ⟨by omega, key⟩
      · right; right
        by_cases z : b % 9223372036854775808 = 0
        · rw [if_pos z] at key
          have k4 : cN b = 4 := key
          exact ⟨by omega, by omega, by omega, by omega, by omega, by omega, by unfold finB; rw [k4]; rfl, by omega⟩
        · rw [if_neg z] at key
          by_cases t : b % 9223372036854775808 < 4503599627370496
          · rw [if_pos t] at key
            have k4 : cN b = 3 := key
            exact ⟨by omega, by omega, by omega, by omega, by omega, by omega, by unfold finB; rw [k4]; rfl, by omega⟩
          · rw [if_neg t, if_neg e] at key
            have k4 : cN b = 2 := key
            exact ⟨by omega, by omega, by omega, by omega, by omega, by omega, by unfold finB; rw [k4]; rfl, by omega⟩
    · rw [if_neg hs] at key
      by_cases e : b % 9223372036854775808 = 9218868437227405312
      · rw [e] at key
        left
        exact ⟨by omega, key⟩
      · right; right
        by_cases z : b % 9223372036854775808 = 0
        · rw [if_pos z] at key
          have k4 : cN b = 5 := key
          exact ⟨by omega, by omega, by omega, by omega, by omega, by omega, by unfold finB; rw [k4]; rfl, by omega⟩
        · rw [if_neg z] at key
          by_cases t : b % 9223372036854775808 < 4503599627370496
          · rw [if_pos t] at key
            have k4 : cN b = 6 := key
            exact ⟨by omega, by omega, by omega, by omega, by omega, by omega, by unfold finB; rw [k4]; rfl, by omega⟩
          · rw [if_neg t, if_neg e] at key
            have k4 : cN b = 7 := key
            exact ⟨by omega, by omega, by omega, by omega, by omega, by omega, by unfold finB; rw [k4]; rfl, by omega⟩

theorem fM_mod (b : Nat) : fM (b % 9223372036854775808) = fM b := by
  unfold fM
  rw [show b % 9223372036854775808 / 4503599627370496 % 2048 = b / 4503599627370496 % 2048 by omega, show b % 9223372036854775808 % 4503599627370496 = b % 4503599627370496 by omega]
theorem fQ_mod (b : Nat) : fQ (b % 9223372036854775808) = fQ b := by
  unfold fQ
  rw [show b % 9223372036854775808 / 4503599627370496 % 2048 = b / 4503599627370496 % 2048 by omega]
theorem and63 (b : Nat) (h : b < 18446744073709551616) : bits .and .u64 (b : Int) 9223372036854775807 = ((b % 9223372036854775808 : Nat) : Int) := by
  rw [show (9223372036854775807 : Int) = ((9223372036854775807 : Nat) : Int) from rfl, u64_and_nat _ _ (by omega) (by decide), show (9223372036854775807 : Nat) = 2 ^ 63 - 1 from rfl, Nat.and_two_pow_sub_one_eq_mod]
theorem or63 (b : Nat) (h : b < 9223372036854775808) : bits .or .u64 9223372036854775808 (b : Int) = ((9223372036854775808 + b : Nat) : Int) := by
  rw [show (9223372036854775808 : Int) = ((9223372036854775808 : Nat) : Int) from rfl, u64_or_nat _ _ (by decide) (by omega)]
  have := Nat.two_pow_add_eq_or_of_lt (show b < 2 ^ 63 from h) 1
  rw [Nat.mul_one] at this
  exact congrArg _ this.symm

/-- What holds at the head of each round of the reference's Exact. -/
structure RxR (g : Nat → Nat) (n : Nat) (w wr : World) (k : Nat) (ab be mn : Bool) (Pa : Option Addr) (pn pc P : Nat) (Qa : Option Addr) (qn qc Q : Nat) : Prop where
  s9 : seenF g k 9 = false
  s8 : seenF g k 8 = ab
  s1 : seenF g k 1 = be
  mi : ab = false → be = false → mn = (decide (0 < n) && all4 g k)
  hp : Nt wr Pa pn pc P
  hq : Nt wr Qa qn qc Q
  sm : sumF g k = (P : Int) - Q
  pl : P ≤ k * Mx 66
  ql : Q ≤ k * Mx 66
  bel : Below w.heap.size w wr
theorem Mx67 {k P : Nat} (hk : k ≤ 8192) (h : P ≤ k * Mx 66) : P < Mx 67 := by
  have h1 := Nat.mul_le_mul_right (Mx 66) hk
  have h2 := Mx_succ 66
  have h3 := Mx_pos 66
  generalize Mx 66 = v at *
  generalize k * v = u at *
  have : Mx 67 = v * 4294967296 := h2
  omega
theorem RxR.lens {g : Nat → Nat} {n k : Nat} {w wr : World} {ab be mn : Bool} {Pa Qa : Option Addr} {pn pc P qn qc Q : Nat} (h : RxR g n w wr k ab be mn Pa pn pc P Qa qn qc Q) (hk : k ≤ 8192) : pn ≤ 67 ∧ qn ≤ 67 :=
  ⟨h.hp.len_le (Mx67 hk h.pl), h.hq.len_le (Mx67 hk h.ql)⟩
theorem seenF_step {g : Nat → Nat} {k c q : Nat} (h : cN (g k) = q) : seenF g (k + 1) c = (decide (c = q) || seenF g k c) := by
  rw [seenF, h]
  by_cases e : c = q
  · rw [if_pos e]; simp [e]
  · rw [if_neg e]; simp [e]
theorem finB_not {b q : Nat} (h : cN b = q) (hq : q = 1 ∨ q = 8) : finB b = false := by
  unfold finB
  rw [h]
  rcases hq with rfl | rfl <;> rfl
theorem RxR.inf {g : Nat → Nat} {n k : Nat} {w wr : World} {ab be mn : Bool} {Pa Qa : Option Addr} {pn pc P qn qc Q : Nat} (h : RxR g n w wr k ab be mn Pa pn pc P Qa qn qc Q) (hc : cN (g k) = 8) :
    RxR g n w wr (k + 1) true be mn Pa pn pc P Qa qn qc Q := by
  have hs : sumF g (k + 1) = sumF g k := by rw [sumF, finB_not hc (.inr rfl)]; rfl
  have hl : k * Mx 66 ≤ (k + 1) * Mx 66 := Nat.mul_le_mul_right _ (by omega)
  exact ⟨by rw [seenF_step hc, h.s9]; rfl, by rw [seenF_step hc]; rfl, by rw [seenF_step hc, h.s1]; rfl, fun e => (by cases e), h.hp, h.hq, by rw [hs, h.sm],
    Nat.le_trans h.pl hl, Nat.le_trans h.ql hl, h.bel⟩
theorem RxR.ninf {g : Nat → Nat} {n k : Nat} {w wr : World} {ab be mn : Bool} {Pa Qa : Option Addr} {pn pc P qn qc Q : Nat} (h : RxR g n w wr k ab be mn Pa pn pc P Qa qn qc Q) (hc : cN (g k) = 1) :
    RxR g n w wr (k + 1) ab true mn Pa pn pc P Qa qn qc Q := by
  have hs : sumF g (k + 1) = sumF g k := by rw [sumF, finB_not hc (.inl rfl)]; rfl
  have hl : k * Mx 66 ≤ (k + 1) * Mx 66 := Nat.mul_le_mul_right _ (by omega)
  exact ⟨by rw [seenF_step hc, h.s9]; rfl, by rw [seenF_step hc, h.s8]; rfl, by rw [seenF_step hc]; rfl, fun _ e => (by cases e), h.hp, h.hq, by rw [hs, h.sm],
    Nat.le_trans h.pl hl, Nat.le_trans h.ql hl, h.bel⟩
theorem seenF_fin {g : Nat → Nat} {k c : Nat} (h : cN (g k) ≠ c) : seenF g (k + 1) c = seenF g k c := by
  rw [seenF, if_neg (fun e => h e.symm)]
/-- A finite summand of the sign +. -/
theorem RxR.plus {g : Nat → Nat} {n k : Nat} {w wr w2 : World} {ab be mn mn' : Bool} {Pa Qa P2 : Option Addr} {pn pc P qn qc Q pn2 pc2 : Nat} (h : RxR g n w wr k ab be mn Pa pn pc P Qa qn qc Q)
    (hf : finB (g k) = true) (h9 : cN (g k) ≠ 9) (h8 : cN (g k) ≠ 8) (h1 : cN (g k) ≠ 1) (h4 : cN (g k) ≠ 4) (hs : g k < 9223372036854775808) (hm : mn' = false)
    (hn : Nt w2 P2 pn2 pc2 (P + mag (g k))) (hb : Below wr.heap.size wr w2) : RxR g n w w2 (k + 1) ab be mn' P2 pn2 pc2 (P + mag (g k)) Qa qn qc Q := by
  have hsum : sumF g (k + 1) = sumF g k + mag (g k) := by rw [sumF, if_pos hf]; unfold sval; rw [if_neg (by omega)]
  have hl : k * Mx 66 ≤ (k + 1) * Mx 66 := Nat.mul_le_mul_right _ (by omega)
  have hml := mag_lt (g k)
  refine ⟨by rw [seenF_fin h9, h.s9], by rw [seenF_fin h8, h.s8], by rw [seenF_fin h1, h.s1], fun _ _ => ?_, hn, h.hq.below hb, ?_, ?_, Nat.le_trans h.ql hl, h.bel.trans (hb.mono h.bel.size)⟩
  · rw [hm, all4_succ_false h4, Bool.and_false]
  · rw [hsum, h.sm]; push_cast; omega
  · have := h.pl
    rw [Nat.succ_mul]
    omega
/-- A finite summand of the sign -. -/
theorem RxR.less {g : Nat → Nat} {n k : Nat} {w wr w2 : World} {ab be mn mn' : Bool} {Pa Qa Q2 : Option Addr} {pn pc P qn qc Q qn2 qc2 : Nat} (h : RxR g n w wr k ab be mn Pa pn pc P Qa qn qc Q)
    (hf : finB (g k) = true) (h9 : cN (g k) ≠ 9) (h8 : cN (g k) ≠ 8) (h1 : cN (g k) ≠ 1) (h4 : cN (g k) = 4 ↔ g k = 9223372036854775808) (hs : 9223372036854775808 ≤ g k)
    (hm : mn' = (mn && decide (g k = 9223372036854775808)))
    (hn : Nt w2 Q2 qn2 qc2 (Q + mag (g k))) (hb : Below wr.heap.size wr w2) : RxR g n w w2 (k + 1) ab be mn' Pa pn pc P Q2 qn2 qc2 (Q + mag (g k)) := by
  have hsum : sumF g (k + 1) = sumF g k - mag (g k) := by rw [sumF, if_pos hf]; unfold sval; rw [if_pos (by omega)]; omega
  have hl : k * Mx 66 ≤ (k + 1) * Mx 66 := Nat.mul_le_mul_right _ (by omega)
  have hml := mag_lt (g k)
  refine ⟨by rw [seenF_fin h9, h.s9], by rw [seenF_fin h8, h.s8], by rw [seenF_fin h1, h.s1], fun ha hb' => ?_, h.hp.below hb, hn, ?_, Nat.le_trans h.pl hl, ?_, h.bel.trans (hb.mono h.bel.size)⟩
  · rw [hm, h.mi ha hb', all4, Bool.and_assoc]
    congr 2
    by_cases e : g k = 9223372036854775808
    · rw [h4.2 e]; simp [e]
    · have : cN (g k) ≠ 4 := fun e' => e (h4.1 e')
      simp [e, this]
  · rw [hsum, h.sm]; push_cast; omega
  · have := h.ql
    rw [Nat.succ_mul]
    omega
end Go.Proofs.Ytdfbmfmfhdifpaa
