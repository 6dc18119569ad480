/- Naturals as slices of words: Shift. -/
import Derived.Test.YtdfbmfmfhdifpaaNf
namespace Go.Proofs.Ytdfbmfmfhdifpaa
open Go.RowKit

theorem mulC_small {N m k : Nat} (hm : 0 < m) : mulC N m 0 k < m := by
  unfold mulC
  have hp : 0 < 2 ^ (32 * k) := Nat.two_pow_pos _
  generalize 2 ^ (32 * k) = P at *
  rw [Nat.div_lt_iff_lt_mul hp, Nat.add_zero, Nat.mul_comm m]
  exact Nat.mul_lt_mul_of_pos_right (Nat.mod_lt _ hp) hm
theorem or_add {c d r : Nat} (hc : c < 2 ^ r) (hd : d < 4294967296) (hr : r < 32) : bits .or .u64 (c : Int) ((d : Int) * 2 ^ r) = ((c + d * 2 ^ r : Nat) : Int) := by
  have h1 : c < 18446744073709551616 := Nat.lt_of_lt_of_le hc (Nat.le_trans (Nat.pow_le_pow_right (by decide) (show r ≤ 31 by omega)) (by decide))
  have h2 : d * 2 ^ r < 18446744073709551616 := by
    have a := Nat.pow_le_pow_right (show 0 < 2 by decide) (show r ≤ 31 by omega)
    have b := Nat.mul_le_mul (show d ≤ 4294967295 by omega) a
    omega
  have e : (d : Int) * 2 ^ r = ((d * 2 ^ r : Nat) : Int) := by rw [Int.natCast_mul, Int.natCast_pow]; rfl
  rw [e, u64_or_nat c _ h1 h2]
  congr 1
  rw [Nat.or_comm, Nat.mul_comm, ← Nat.two_pow_add_eq_or_of_lt hc]
  omega

set_option maxHeartbeats 1000000 in
theorem shift_any (A : Option Addr) (n c N s : Nat) (w : World) (h : Nt w A n c N) (hn : n ≤ 100000) (hs : s ≤ 100000) :
    Calls Try.prog 34 #[.slice A n c, .int .i64 s] w (NRet (N * 2 ^ s) w) := by
  have hr := h.rs
  have k1 := hr.cm
  have k2 := hr.nc
  by_cases h0 : n = 0
  · have hN := h.zero_iff.1 h0
    subst hN
    subst h0
    clear h
    go_enter Try.func34, Try.ntmps34
    go_wp2_with fail
    go_ret
    refine ⟨none, 0, 0, rfl, ⟨RS.nil _ _ _ _ (by omega), ?_, fun h => absurd rfl h⟩, Below.refl _ _⟩
    rw [Nat.zero_mul]; exact Mx_pos 0
  have e0 : ((n : Int) == 0) = false := by simp; omega
  have hq : (s : Int) / 32 = ((s / 32 : Nat) : Int) := by omega
  have hr32 : (s : Int) % 32 = ((s % 32 : Nat) : Int) := by omega
  have hv : N * 2 ^ s = N * 2 ^ (s % 32) * 2 ^ (32 * (s / 32)) := by rw [Nat.mul_assoc, ← Nat.pow_add]; congr 2; omega
  rw [hv]
  have hs' : (s : Int) ≤ 100000 := by omega
  have hn' : (n : Int) ≤ 100000 := by omega
  have hq2 : s / 32 ≤ 3125 := by omega
  have hr2 : s % 32 < 32 := Nat.mod_lt _ (by decide)
  clear hv
  generalize s / 32 = q at *
  generalize s % 32 = r at *
  have hm : 2 ^ r < 4294967296 := Nat.pow_lt_pow_right (by decide) hr2
  have hD : Hid (∀ i, dig (N * 2 ^ r * 2 ^ (32 * q)) i = if i < q then 0 else dig (N * 2 ^ r) (i - q)) := Lib.hid (fun i => dig_shift _ q i)
  have hlt' : Hid (N * 2 ^ r * 2 ^ (32 * q) < Mx (q + n + 1)) := by
    refine Lib.hid ?_
    have := muladd_lt (a := 0) h.lt hm (by decide)
    rw [Nat.add_zero] at this
    have := Nat.mul_lt_mul_of_pos_right this (Nat.two_pow_pos (32 * q))
    unfold Mx at this ⊢
    rw [← Nat.pow_add] at this
    rw [show 32 * (q + n + 1) = 32 * (n + 1) + 32 * q from by omega]
    exact this
  have HE := Lib.hid (mulC_end (m := 2 ^ r) (a := 0) h.lt hm (by decide))
  generalize hV : N * 2 ^ r * 2 ^ (32 * q) = V at *
  clear h hV
  have Hm := Lib.hid hm
  have Hr2 := Lib.hid hr2
  have hr2' : (r : Int) < 32 := by omega
  have hq2' : (q : Int) ≤ 3125 := by omega
  clear hm
  go_enter Try.func34, Try.ntmps34
  go_wp2_with (first
    | ((with_reducible show wpList _ _ _ (⟨some 20, _, _, _, _, _⟩ :: _) _ _); refine wpl_makez (w0 := w) rfl _ _ 51 42 (.int .u32 0) 4 rfl Try.underlying51 info42 rfl w.heap.size _ _ _ _ q (q + n + 1) (dw V) rfl rfl rfl (by omega) (by omega) (Below.refl _ _) (Nat.le_refl _) (by omega) (by omega) ?_ ?_; exact fun j hj => (by unfold dw; rw [hD.out j, if_pos hj]; rfl); intro w1 hb1 hbel1))
  go_loopw [5, 6, 8, 23] (fun o x y i wr => ∃ k c' : Nat, ∃ A' : Option Addr, k ≤ n ∧ i = .int .i64 k ∧ o = .slice A' (q + k) c' ∧ x = .int .u64 (mulC N (2 ^ r) 0 k) ∧ Bld wr w.heap.size 42 (.slice A' (q + k) c') (q + k) (dw V) ∧ Below w.heap.size w wr) (fun _ _ _ i _ => n - (intOf i).toNat)
  case atStart => exact ⟨0, _, _, by omega, rfl, rfl, by rw [mulC_zero]; rfl, hb1, hbel1⟩
  case round =>
    obtain ⟨k, c', A', hk, rfl, rfl, rfl, hB, hbel⟩ := hrel
    have hrr := hr.below hbel
    have hcl := mulC_small (N := N) (k := k) (Nat.two_pow_pos r)
    by_cases hlt : k < n
    · have hdl := dig_lt N k
      have s1 := mulC_succ N (2 ^ r) 0 k
      have s2 := dig_muladd N (2 ^ r) 0 k
      have s3 := hD.out (q + k)
      rw [if_neg (by omega), Nat.add_sub_cancel_left] at s3
      rw [Nat.add_zero, ← s3] at s2
      obtain ⟨d, hd⟩ : ∃ d, dig N k = d := ⟨_, rfl⟩
      obtain ⟨u, hu⟩ : ∃ u, mulC N (2 ^ r) 0 k = u := ⟨_, rfl⟩
      rw [hd] at hdl s1 s2
      rw [hu] at hcl s1 s2 ⊢
      have f1 := or_add hcl hdl hr2
      have hml := mul_lt32 hdl Hm.out
      obtain ⟨t, ht⟩ : ∃ t, d * 2 ^ r = t := ⟨_, rfl⟩
      have ht2 : (d : Int) * 2 ^ r = (t : Int) := by rw [← ht, Int.natCast_mul, Int.natCast_pow]; rfl
      rw [ht] at hml s1 s2 f1
      rw [ht2] at f1
      have hul : u < 4294967296 := Nat.lt_trans hcl Hm.out
      have b1 : (d : Int) < 4294967296 := by omega
      have b2 : (u : Int) < 4294967296 := by omega
      have b3 : (t : Int) ≤ 18446744065119617025 := by omega
      have b4 : (0 : Int) ≤ (t : Int) := by omega
      have g1 : IntKind.u64.wrap (t : Int) = (t : Int) := by rw [IntKind.wrap_u64]; omega
      have f2 : IntKind.u32.wrap ((u + t : Nat) : Int) = ((dig V (q + k) : Nat) : Int) := by rw [IntKind.wrap_u32, s2]; omega
      obtain ⟨q', hq'⟩ : ∃ q', mulC N (2 ^ r) 0 (k + 1) = q' := ⟨_, rfl⟩
      rw [hq'] at s1
      have f3 : ((u + t : Nat) : Int) / 4294967296 = (q' : Int) := by rw [s1]; omega
      have Hd := Lib.hid hd
      have Hq := Lib.hid hq'
      clear s1 s2 s3 hd hu hq' ht hdl hcl hml hul
      obtain ⟨z, hz⟩ : ∃ z : Nat, u + t = z := ⟨_, rfl⟩
      have hzl : (z : Int) ≤ 18446744069414584320 := by omega
      have hz0 : (0 : Int) ≤ z := by omega
      rw [hz] at f1 f2 f3
      clear hz
      go_wp2_with (first
        | ((with_reducible show wpList _ _ _ (⟨some 25, _, _, _, _, _⟩ :: _) _ _); refine wpl_ix rfl 51 42 _ _ rfl Try.underlying51 cells42 A n c k _ _ _ rfl rfl rfl hlt hrr ?_; intro p hp0; have hp : wr.cell? p = some (.int .u32 d) := hp0.trans (congrArg (fun u : Nat => some (Value.int .u32 (u : Int))) Hd.out); clear hp0)
        | ((with_reducible show wpList _ _ _ (⟨some 39, _, _, _, _, _⟩ :: _) _ _); refine wpl_push (w0 := w) rfl _ _ 51 42 (.int .u32 0) 4 rfl Try.underlying51 info42 rfl w.heap.size _ (q + k) _ (dw V) (.int .u32 (dig V (q + k))) rfl rfl (hB.alloc _) (hbel.alloc hB.hB _) ?_ rfl rfl ?_ (by omega) ?_; exact cell_one _ _ _; omega; intro A2 c2 w2 hB2 hbel2 hk2 hc2))
      exact ⟨⟨k + 1, c2, A2, by omega, by go_num, rfl, by rw [Hq.out], hB2, hbel2⟩, by simp [intOf]; omega⟩
    · obtain rfl : k = n := by omega
      have s3 := hD.out (q + k)
      rw [if_neg (by omega), Nat.add_sub_cancel_left] at s3
      have hul : mulC N (2 ^ r) 0 k < 4294967296 := Nat.lt_trans hcl Hm.out
      have f2 : IntKind.u32.wrap ((mulC N (2 ^ r) 0 k : Nat) : Int) = ((dig V (q + k) : Nat) : Int) := by rw [IntKind.wrap_u32, s3, HE.out]; have := dig_lt (N * 2 ^ r) k; rw [Nat.add_zero]; omega
      have b1 : ((mulC N (2 ^ r) 0 k : Nat) : Int) < 4294967296 := by omega
      have b0 : (0 : Int) ≤ ((mulC N (2 ^ r) 0 k : Nat) : Int) := by omega
      clear hcl hul s3
      go_wp2_with (first
        | ((with_reducible show wpList _ _ _ (⟨some 47, _, _, _, _, _⟩ :: _) _ _); refine wpl_push (w0 := w) rfl _ _ 51 42 (.int .u32 0) 4 rfl Try.underlying51 info42 rfl w.heap.size _ (q + k) _ (dw V) (.int .u32 (dig V (q + k))) rfl rfl (hB.alloc _) (hbel.alloc hB.hB _) ?_ rfl rfl ?_ (by omega) ?_; exact cell_one _ _ _; omega; intro A2 c2 w2 hB2 hbel2 hk2 hc2)
        | (go_at_call 49; refine (trim_bld hB2 hbel2 hlt'.out).mono ?_; rintro e w3 ⟨A3, n3, c3, rfl, h3, hbel3⟩))
      go_ret
      exact ⟨A3, n3, c3, rfl, h3, hbel3⟩
end Go.Proofs.Ytdfbmfmfhdifpaa
