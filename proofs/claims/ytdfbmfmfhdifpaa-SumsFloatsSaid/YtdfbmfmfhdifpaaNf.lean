/- Naturals as slices of words: Size. -/
import Derived.Test.YtdfbmfmfhdifpaaNe
namespace Go.Proofs.Ytdfbmfmfhdifpaa
open Go.RowKit

theorem top_word {N p : Nat} (h : N < Mx (p + 1)) (h1 : Mx p ≤ N) : dig N p = N / Mx p ∧ 1 ≤ dig N p := by
  rw [Mx_succ] at h
  have hp := Mx_pos p
  have hlt : N / Mx p < 4294967296 := by rw [Nat.div_lt_iff_lt_mul hp, Nat.mul_comm]; exact h
  have e : dig N p = N / Mx p := Nat.mod_eq_of_lt hlt
  refine ⟨e, ?_⟩
  rw [e]
  exact (Nat.le_div_iff_mul_le hp).2 (by omega)
theorem size_val {N p j : Nat} (h : N < Mx (p + 1)) (h1 : Mx p ≤ N) (hj : j ≤ 31) (k1 : 2147483648 ≤ dig N p * 2 ^ j) (k2 : dig N p * 2 ^ j < 4294967296) : blen N = 32 * (p + 1) - j := by
  obtain ⟨e, _⟩ := top_word h h1
  have hp := Mx_pos p
  have hN : N ≠ 0 := by omega
  rw [e] at k1 k2
  have a1 : 2 ^ (31 - j) ≤ N / Mx p := by
    rcases Nat.lt_or_ge (N / Mx p) (2 ^ (31 - j)) with h2 | h2
    · have := Nat.mul_lt_mul_of_pos_right h2 (Nat.two_pow_pos j)
      rw [← Nat.pow_add, show 31 - j + j = 31 from by omega] at this
      omega
    · exact h2
  have a2 : N / Mx p < 2 ^ (32 - j) := by
    rcases Nat.lt_or_ge (N / Mx p) (2 ^ (32 - j)) with h2 | h2
    · exact h2
    · have := Nat.mul_le_mul_right (2 ^ j) h2
      rw [← Nat.pow_add, show 32 - j + j = 32 from by omega] at this
      omega
  have b1 : 2 ^ (32 * p + (31 - j)) ≤ N := by
    rw [Nat.pow_add, Nat.mul_comm]; exact (Nat.le_div_iff_mul_le hp).1 a1
  have b2 : N < 2 ^ (32 * p + (31 - j) + 1) := by
    rw [show 32 * p + (31 - j) + 1 = 32 * p + (32 - j) from by omega, Nat.pow_add]; exact (Nat.div_lt_iff_lt_mul hp).1 a2 |> fun h => by rw [Nat.mul_comm]; exact h
  unfold blen
  rw [if_neg hN, log2_of b1 b2]
  omega
theorem size_step {d j : Nat} (h1 : 1 ≤ d) (h : d * 2 ^ j < 2147483648) : j < 31 ∧ d * 2 ^ (j + 1) = d * 2 ^ j * 2 := by
  refine ⟨?_, by rw [Nat.pow_succ, Nat.mul_assoc]⟩
  rcases Nat.lt_or_ge j 31 with h2 | h2
  · exact h2
  · have := Nat.pow_le_pow_right (show 0 < 2 by decide) h2
    have h3 := Nat.mul_le_mul h1 this
    omega

set_option maxHeartbeats 1000000 in
theorem size2_any (A : Option Addr) (n c N : Nat) (w : World) (h : Nt w A n c N) (hn : n ≤ 1000000) :
    Calls Try.prog 50 #[.slice A n c] w fun e w' => e = .returned (.int .i64 (blen N)) ∧ w = w' := by
  have hr := h.rs
  have k1 := hr.cm
  have k2 := hr.nc
  by_cases h0 : n = 0
  · have hN := h.zero_iff.1 h0
    subst hN
    subst h0
    clear h
    have e : blen 0 = 0 := rfl
    rw [e]
    go_enter Try.func50, Try.ntmps50
    go_wp2_with fail
    go_ret
    exact ⟨rfl, rfl⟩
  · obtain ⟨p, hpn⟩ : ∃ p, n = p + 1 := ⟨n - 1, by omega⟩
    have htop := h.top h0
    have hlt0 := h.lt
    rw [hpn, Nat.add_sub_cancel] at htop
    rw [hpn] at hlt0
    obtain ⟨_, hd1⟩ := top_word hlt0 htop
    have HS := Lib.hid (fun j hj a1 a2 => size_val (j := j) hlt0 htop hj a1 a2)
    have hdl := dig_lt N p
    obtain ⟨d, hd⟩ : ∃ d, dig N p = d := ⟨_, rfl⟩
    rw [hd] at hd1 hdl
    have HSd : Hid (∀ j, j ≤ 31 → 2147483648 ≤ d * 2 ^ j → d * 2 ^ j < 4294967296 → blen N = 32 * n - j) := Lib.hid (by rw [← hd, hpn]; exact HS.out)
    have Hd := Lib.hid hd
    clear h htop hd HS hlt0
    have ep : (n : Int) - 1 = (p : Int) := by omega
    have e32 : ((32 : Int) * (n : Int) == 0) = false := by simp; omega
    have hn' : (n : Int) ≤ 1000000 := by omega
    have hn0 : (1 : Int) ≤ (n : Int) := by omega
    have Hd1 := Lib.hid hd1
    have d0 : d * 2 ^ 0 < 4294967296 := by omega
    have D0 := Lib.hid d0
    have Hpn := Lib.hid hpn
    have hpl : p < n := by omega
    clear d0 hd1 hdl h0 hpn
    go_enter Try.func50, Try.ntmps50
    go_wp2_with (first
      | ((with_reducible show wpList _ _ _ (⟨some 14, _, _, _, _, _⟩ :: _) _ _); refine wpl_ix rfl 51 42 _ _ rfl Try.underlying51 cells42 A n c p _ _ _ rfl rfl rfl hpl hr ?_; intro q hp0; have hp : w.cell? q = some (.int .u32 d) := hp0.trans (congrArg (fun u : Nat => some (Value.int .u32 (u : Int))) Hd.out); clear hp0))
    go_loopw [3, 4] (fun s x wr => ∃ j : Nat, ∃ v : Nat, j ≤ 31 ∧ s = .int .i64 (32 * (n : Int) - j) ∧ x = .int .u32 v ∧ Hid (d * 2 ^ j = v) ∧ v < 4294967296 ∧ wr = w) (fun s _ _ => (intOf s).toNat)
    case atStart => exact ⟨0, d, by omega, by go_num, rfl, Lib.hid (by simp), by have := D0.out; simp at this; exact this, rfl⟩
    case round =>
      obtain ⟨j, v, hj, rfl, rfl, hv, hvl, rfl⟩ := hrel
      by_cases hlt : v < 2147483648
      · obtain ⟨a1, a2⟩ := size_step (j := j) Hd1.out (by rw [hv.out]; exact hlt)
        have HV : Hid (d * 2 ^ (j + 1) = v * 2) := Lib.hid (by rw [a2, hv.out])
        have t1 : (v : Int) < 2147483648 := by omega
        clear a2
        go_wp2_with fail
        exact ⟨⟨j + 1, v * 2, by omega, by go_num, by go_num, HV, by omega, trivial⟩, by simp [intOf]; omega⟩
      · have t1 : ¬ (v : Int) < 2147483648 := by omega
        have HE := Lib.hid (HSd.out j hj (by rw [hv.out]; omega) (by rw [hv.out]; exact hvl))
        go_wp2_with fail
        go_ret
        exact ⟨ret_i64 (by rw [HE.out]; omega), rfl⟩
end Go.Proofs.Ytdfbmfmfhdifpaa
