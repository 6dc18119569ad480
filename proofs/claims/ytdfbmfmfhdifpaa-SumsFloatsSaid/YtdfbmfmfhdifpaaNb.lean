/- Naturals as slices of words: MulAdd, push. -/
import Derived.Test.YtdfbmfmfhdifpaaNa
namespace Go.Proofs.Ytdfbmfmfhdifpaa
open Go.RowKit

def mulC (N m a k : Nat) : Nat := (N % 2 ^ (32 * k) * m + a) / 2 ^ (32 * k)
theorem mulC_zero (N m a : Nat) : mulC N m a 0 = a := by unfold mulC; simp [Nat.mod_one]
theorem mulC_succ (N m a k : Nat) : mulC N m a (k + 1) = (mulC N m a k + dig N k * m) / 4294967296 := by
  unfold mulC dig
  rw [pow_succ32, split_mod]
  have hp : 0 < 2 ^ (32 * k) := Nat.two_pow_pos _
  generalize 2 ^ (32 * k) = P at *
  generalize N / P % 4294967296 = d
  rw [← Nat.div_div_eq_div_mul]
  congr 1
  rw [show (d * P + N % P) * m + a = (N % P * m + a) + P * (d * m) from by rw [Nat.add_mul, Nat.mul_right_comm, Nat.mul_comm (d * m) P]; omega, Nat.add_mul_div_left _ _ hp]
theorem dig_muladd (N m a k : Nat) : dig (N * m + a) k = (mulC N m a k + dig N k * m) % 4294967296 := by
  unfold mulC dig
  have hp : 0 < 2 ^ (32 * k) := Nat.two_pow_pos _
  generalize 2 ^ (32 * k) = P at *
  have e : N * m + a = (N % P * m + a) + P * ((N / P) * m) := by
    have := Nat.div_add_mod N P
    calc N * m + a = (P * (N / P) + N % P) * m + a := by rw [this]
      _ = _ := by rw [Nat.add_mul, Nat.mul_assoc]; omega
  rw [e, Nat.add_mul_div_left _ _ hp, Nat.add_mod, Nat.add_mod ((N % P * m + a) / P)]
  congr 2
  rw [Nat.mod_mul_mod]
theorem mulC_lt {N m a : Nat} (hm : m < 4294967296) (ha : a < 4294967296) (k : Nat) : mulC N m a k < 4294967296 := by
  unfold mulC
  have hp : 0 < 2 ^ (32 * k) := Nat.two_pow_pos _
  generalize 2 ^ (32 * k) = P at *
  rw [Nat.div_lt_iff_lt_mul hp]
  have h1 : N % P < P := Nat.mod_lt _ hp
  have h2 : N % P * m ≤ (P - 1) * 4294967295 := Nat.mul_le_mul (by omega) (by omega)
  generalize N % P * m = u at *
  omega
theorem mul_lt32 {d m : Nat} (hd : d < 4294967296) (hm : m < 4294967296) : d * m ≤ 18446744065119617025 := Nat.mul_le_mul (show d ≤ 4294967295 by omega) (show m ≤ 4294967295 by omega)
theorem muladd_lt {N m a n : Nat} (hN : N < Mx n) (hm : m < 4294967296) (ha : a < 4294967296) : N * m + a < Mx (n + 1) := by
  rw [Mx_succ]
  generalize Mx n = P at *
  have h2 : N * m ≤ (P - 1) * 4294967295 := Nat.mul_le_mul (by omega) (by omega)
  generalize N * m = u at *
  omega
theorem mulC_end {N m a n : Nat} (hN : N < Mx n) (hm : m < 4294967296) (ha : a < 4294967296) : mulC N m a n = dig (N * m + a) n := by
  rw [dig_muladd, dig_bigx N n n hN (Nat.le_refl _), Nat.zero_mul, Nat.add_zero, Nat.mod_eq_of_lt (mulC_lt hm ha n)]

set_option maxHeartbeats 1000000 in
theorem muladd_any (A : Option Addr) (n c N m a : Nat) (w : World) (h : Nt w A n c N) (hm : m < 4294967296) (ha : a < 4294967296) (hn : n ≤ 1000000) :
    Calls Try.prog 61 #[.slice A n c, .int .u32 m, .int .u32 a] w (NRet (N * m + a) w) := by
  have hr := h.rs
  have hcm := hr.cm
  have hnc := hr.nc
  have HV := Lib.hid (muladd_lt h.lt hm ha)
  have HE := Lib.hid (mulC_end h.lt hm ha)
  have hm' : (m : Int) < 4294967296 := by omega
  have ha' : (a : Int) < 4294967296 := by omega
  have hm0 : (0 : Int) ≤ m := by omega
  have ha0 : (0 : Int) ≤ a := by omega
  have hn' : (n : Int) ≤ 1000000 := by omega
  have Hm := Lib.hid hm
  have Ha := Lib.hid ha
  clear h hm ha
  go_enter Try.func61, Try.ntmps61
  go_wp2_with (first
    | ((with_reducible show wpList _ _ _ (⟨some 14, _, _, _, _, _⟩ :: _) _ _); refine wpl_make0 (w0 := w) rfl _ _ 51 42 (.int .u32 0) 4 rfl Try.underlying51 info42 w.heap.size _ _ _ (n + 1) (dw (N * m + a)) rfl rfl (by omega) (Below.refl _ _) (Nat.le_refl _) (by omega) (by omega) ?_; intro w1 hb1 hbel1))
  go_loopw [7, 8, 10, 19] (fun o s x i wr => ∃ k c' : Nat, ∃ A' : Option Addr, k ≤ n ∧ i = .int .i64 k ∧ o = .slice A' k c' ∧ s = .int .u64 (mulC N m a k) ∧ Bld wr w.heap.size 42 (.slice A' k c') k (dw (N * m + a)) ∧ Below w.heap.size w wr) (fun _ _ _ i _ => n - (intOf i).toNat)
  case atStart => exact ⟨0, n + 1, _, by omega, rfl, rfl, by rw [mulC_zero], hb1, hbel1⟩
  case round =>
    obtain ⟨k, c', A', hk, rfl, rfl, rfl, hB, hbel⟩ := hrel
    have hrr := hr.below hbel
    have hcl := mulC_lt (N := N) Hm.out Ha.out k
    by_cases hlt : k < n
    · have hdl := dig_lt N k
      have hml := mul_lt32 hdl Hm.out
      have s1 := mulC_succ N m a k
      have s2 := dig_muladd N m a k
      obtain ⟨d, hd⟩ : ∃ d, dig N k = d := ⟨_, rfl⟩
      obtain ⟨q, hq⟩ : ∃ q, mulC N m a k = q := ⟨_, rfl⟩
      rw [hd] at hdl hml s1 s2
      rw [hq] at hcl s1 s2 ⊢
      obtain ⟨t, ht⟩ : ∃ t, d * m = t := ⟨_, rfl⟩
      have f1 : (d : Int) * (m : Int) = (t : Int) := by rw [← ht, Int.natCast_mul]
      rw [ht] at hml s1 s2
      have S1 := Lib.hid s1
      have S2 := Lib.hid s2
      have b1 : (d : Int) < 4294967296 := by omega
      have b2 : (q : Int) < 4294967296 := by omega
      have b3 : (t : Int) ≤ 18446744065119617025 := by omega
      have f2 : IntKind.u32.wrap ((q : Int) + t) = ((dig (N * m + a) k : Nat) : Int) := by rw [IntKind.wrap_u32, s2]; omega
      have f3 : ((q : Int) + t) / 4294967296 = ((mulC N m a (k + 1) : Nat) : Int) := by rw [s1]; omega
      have Hd := Lib.hid hd
      clear s1 s2 hd hq ht hdl hcl hml
      obtain ⟨q', hq'⟩ : ∃ q', mulC N m a (k + 1) = q' := ⟨_, rfl⟩
      rw [hq'] at f3
      have Hq := Lib.hid hq'
      clear hq' S1
      go_wp2_with (first
        | ((with_reducible show wpList _ _ _ (⟨some 21, _, _, _, _, _⟩ :: _) _ _); refine wpl_ix rfl 51 42 _ _ rfl Try.underlying51 cells42 A n c k _ _ _ rfl rfl rfl hlt hrr ?_; intro p hp0; have hp : wr.cell? p = some (.int .u32 d) := hp0.trans (congrArg (fun u : Nat => some (Value.int .u32 (u : Int))) Hd.out); clear hp0)
        | ((with_reducible show wpList _ _ _ (⟨some 34, _, _, _, _, _⟩ :: _) _ _); refine wpl_push (w0 := w) rfl _ _ 51 42 (.int .u32 0) 4 rfl Try.underlying51 info42 rfl w.heap.size _ k _ (dw (N * m + a)) (.int .u32 (dig (N * m + a) k)) rfl rfl (hB.alloc _) (hbel.alloc hB.hB _) ?_ rfl rfl ?_ (by omega) ?_; exact cell_one _ _ _; omega; intro A2 c2 w2 hB2 hbel2 hk2 hc2))
      exact ⟨⟨k + 1, c2, A2, by omega, by go_num, rfl, by rw [Hq.out], hB2, hbel2⟩, by simp [intOf]; omega⟩
    · obtain rfl : k = n := by omega
      have f2 : IntKind.u32.wrap ((mulC N m a k : Nat) : Int) = ((dig (N * m + a) k : Nat) : Int) := by rw [IntKind.wrap_u32, ← HE.out]; omega
      have b1 : ((mulC N m a k : Nat) : Int) < 4294967296 := by omega
      have b0 : (0 : Int) ≤ ((mulC N m a k : Nat) : Int) := by omega
      clear hcl
      go_wp2_with (first
        | ((with_reducible show wpList _ _ _ (⟨some 42, _, _, _, _, _⟩ :: _) _ _); refine wpl_push (w0 := w) rfl _ _ 51 42 (.int .u32 0) 4 rfl Try.underlying51 info42 rfl w.heap.size _ k _ (dw (N * m + a)) (.int .u32 (dig (N * m + a) k)) rfl rfl (hB.alloc _) (hbel.alloc hB.hB _) ?_ rfl rfl ?_ (by omega) ?_; exact cell_one _ _ _; omega; intro A2 c2 w2 hB2 hbel2 hk2 hc2)
        | (go_at_call 49; refine (trim_bld hB2 hbel2 HV.out).mono ?_; rintro e w3 ⟨A3, n3, c3, rfl, h3, hbel3⟩))
      go_ret
      exact ⟨A3, n3, c3, rfl, h3, hbel3⟩

set_option maxHeartbeats 400000 in
theorem push_any (A : Option Addr) (n c N d : Nat) (w : World) (h : Nt w A n c N) (hd : d < 4294967296) (hn : n ≤ 1000000) :
    Calls Try.prog 56 #[.slice A n c, .int .u32 d] w (NRet (N * 2 + d) w) := by
  have H := Lib.hid (muladd_any A n c N 2 d w h (by decide) hd hn)
  have hcm := h.rs.cm
  have hnc := h.rs.nc
  clear h hd
  go_enter Try.func56, Try.ntmps56
  go_wp2_with (go_at_call 61; refine H.out.mono ?_; rintro e w3 ⟨A3, n3, c3, rfl, h3, hbel3⟩)
  go_ret
  exact ⟨A3, n3, c3, rfl, h3, hbel3⟩
end Go.Proofs.Ytdfbmfmfhdifpaa
