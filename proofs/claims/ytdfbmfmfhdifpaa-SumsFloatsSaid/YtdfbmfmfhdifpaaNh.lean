/- Naturals as slices of words: top. -/
import Derived.Test.YtdfbmfmfhdifpaaNg
namespace Go.Proofs.Ytdfbmfmfhdifpaa
open Go.RowKit

theorem bld_nilT (w : World) (t : TypeId) (F : Nat → Value) : Bld (w.alloc (.cells #[] t)) w.heap.size t (.slice (some ⟨w.heap.size, 0, none⟩) 0 0) 0 F := by
  refine ⟨⟨by simp, .inr ⟨w.heap.size, 0, #[], rfl, Nat.le_refl _, heap_alloc_new w _, by omega, by decide, rfl, rfl⟩⟩, by simp⟩
theorem dig_top (N q r j : Nat) (hr : r < 32) : dig (N / 2 ^ (32 * q + r)) j = (dig N (q + j) + dig N (q + j + 1) * 4294967296) / 2 ^ r % 4294967296 := by
  have e1 : N / 2 ^ (32 * q + r) / 2 ^ (32 * j) = N / 2 ^ (32 * (q + j)) / 2 ^ r := by
    rw [Nat.div_div_eq_div_mul, Nat.div_div_eq_div_mul, ← Nat.pow_add, ← Nat.pow_add]
    congr 2; omega
  have e2 : N / 2 ^ (32 * (q + j + 1)) = N / 2 ^ (32 * (q + j)) / 4294967296 := by
    rw [pow_succ32, Nat.div_div_eq_div_mul]
  unfold dig
  rw [e1, e2]
  generalize N / 2 ^ (32 * (q + j)) = M
  have hp : 0 < 2 ^ r := Nat.two_pow_pos r
  have e3 : M = (M % 4294967296 + M / 4294967296 % 4294967296 * 4294967296) + 2 ^ r * (2 ^ (32 - r) * (4294967296 * (M / 4294967296 / 4294967296))) := by
    rw [← Nat.mul_assoc, ← Nat.pow_add, show r + (32 - r) = 32 from by omega]
    omega
  have e4 : M / 2 ^ r = (M % 4294967296 + M / 4294967296 % 4294967296 * 4294967296) / 2 ^ r + 2 ^ (32 - r) * (4294967296 * (M / 4294967296 / 4294967296)) := by
    conv => lhs; rw [e3]
    rw [Nat.add_mul_div_left _ _ hp]
  rw [e4, Nat.mul_left_comm, Nat.add_mul_mod_self_left]
theorem or_add32 {c d : Nat} (hc : c < 4294967296) (hd : d < 4294967296) : bits .or .u64 (c : Int) ((d : Int) * 4294967296) = ((c + d * 4294967296 : Nat) : Int) := by
  have e : (d : Int) * 4294967296 = ((d * 4294967296 : Nat) : Int) := by rw [Int.natCast_mul]; rfl
  rw [e, u64_or_nat c _ (by omega) (by omega)]
  congr 1
  have := Nat.two_pow_add_eq_or_of_lt (show c < 2 ^ 32 from hc) d
  rw [Nat.or_comm, Nat.mul_comm, show (4294967296 : Nat) = 2 ^ 32 from rfl, ← this]
  omega
theorem top_lt {N n q r : Nat} (hN : N < Mx n) (hq : q ≤ n) : N / 2 ^ (32 * q + r) < Mx (n - q) := by
  rw [Nat.div_lt_iff_lt_mul (Nat.two_pow_pos _)]
  refine Nat.lt_of_lt_of_le hN ?_
  unfold Mx
  rw [← Nat.pow_add]
  exact Nat.pow_le_pow_right (by decide) (by omega)
theorem top_zero {N n q r : Nat} (hN : N < Mx n) (hq : n ≤ q) : N / 2 ^ (32 * q + r) < Mx 0 := by
  have : N < 2 ^ (32 * q + r) := Nat.lt_of_lt_of_le hN (by unfold Mx; exact Nat.pow_le_pow_right (by decide) (by omega))
  rw [Nat.div_eq_of_lt this]
  exact Mx_pos 0

set_option maxHeartbeats 1000000 in
theorem top_any (A : Option Addr) (n c N s : Nat) (w : World) (h : Nt w A n c N) (hn : n ≤ 100000) (hs : s ≤ 10000000) :
    Calls Try.prog 55 #[.slice A n c, .int .i64 s] w (NRet (N / 2 ^ s) w) := by
  have hr := h.rs
  have k1 := hr.cm
  have k2 := hr.nc
  have hq : (s : Int) / 32 = ((s / 32 : Nat) : Int) := by omega
  have hr32 : (s : Int) % 32 = ((s % 32 : Nat) : Int) := by omega
  have hv : s = 32 * (s / 32) + s % 32 := by omega
  have hV0 : N / 2 ^ s = N / 2 ^ (32 * (s / 32) + s % 32) := by rw [← hv]
  rw [hV0]
  have hs' : (s : Int) ≤ 10000000 := by omega
  have hn' : (n : Int) ≤ 100000 := by omega
  have hq2 : s / 32 ≤ 312500 := by omega
  have hr2 : s % 32 < 32 := Nat.mod_lt _ (by decide)
  clear hv hV0
  generalize s / 32 = q at *
  generalize s % 32 = r at *
  have hD : Hid (∀ j, dig (N / 2 ^ (32 * q + r)) j = (dig N (q + j) + dig N (q + j + 1) * 4294967296) / 2 ^ r % 4294967296) := Lib.hid (fun j => dig_top N q r j hr2)
  have hT : Hid (∀ k, (k = 0 ∧ n ≤ q ∨ q + k = n) → N / 2 ^ (32 * q + r) < Mx k) := by
    refine Lib.hid ?_
    intro k hk
    rcases hk with ⟨rfl, h2⟩ | h2
    · exact top_zero h.lt h2
    · have := top_lt (r := r) h.lt (show q ≤ n by omega)
      rw [show n - q = k from by omega] at this
      exact this
  have hB0 : Hid (∀ i, n ≤ i → dig N i = 0) := Lib.hid (fun i hi => dig_bigx N i n h.lt hi)
  generalize N / 2 ^ (32 * q + r) = V at *
  clear h
  have hr2' : (r : Int) < 32 := by omega
  have hq2' : (q : Int) ≤ 312500 := by omega
  go_enter Try.func55, Try.ntmps55
  go_wp2_with fail
  go_loopw [5, 6, 7] (fun o i y wr => ∃ k c' : Nat, ∃ A' : Option Addr, (k = 0 ∨ q + k ≤ n) ∧ i = .int .i64 ((q : Int) + k) ∧ o = .slice A' k c' ∧ Bld wr w.heap.size 42 (.slice A' k c') k (dw V) ∧ Below w.heap.size w wr) (fun _ i _ _ => n - (intOf i).toNat)
  case atStart => exact ⟨0, 0, _, .inl rfl, by go_num, rfl, bld_nilT w 42 _, (Below.refl _ _).alloc (Nat.le_refl _) _⟩
  case round =>
    obtain ⟨k, c', A', hk, rfl, rfl, hB, hbel⟩ := hrel
    have hrr := hr.below hbel
    have hk' : (k : Int) ≤ 100000 := by omega
    by_cases hlt : q + k < n
    · have hdl := dig_lt N (q + k)
      have s1 := hD.out k
      obtain ⟨d, hd⟩ : ∃ d, dig N (q + k) = d := ⟨_, rfl⟩
      obtain ⟨d1, hd1⟩ : ∃ d1, dig N (q + k + 1) = d1 := ⟨_, rfl⟩
      have hdl1 : d1 < 4294967296 := by rw [← hd1]; exact dig_lt _ _
      rw [hd] at hdl s1
      rw [hd1] at s1
      have Hd := Lib.hid hd
      have Hd1 := Lib.hid hd1
      have t0 : (q : Int) + k < n := by omega
      have b1 : (d : Int) < 4294967296 := by omega
      have b2 : (d1 : Int) < 4294967296 := by omega
      by_cases hlt1 : q + k + 1 < n
      · have f1 := or_add32 hdl hdl1
        obtain ⟨z, hz⟩ : ∃ z, d + d1 * 4294967296 = z := ⟨_, rfl⟩
        have hzl : z < 18446744073709551616 := by omega
        rw [hz] at f1 s1
        have f2 : IntKind.u32.wrap ((z : Int) / 2 ^ r) = ((dig V k : Nat) : Int) := by
          rw [IntKind.wrap_u32, s1, Int.natCast_emod, Int.natCast_ediv, Int.natCast_pow]; rfl
        have t1 : (q : Int) + k + 1 < n := by omega
        have z0 : (0 : Int) ≤ z := by omega
        have z1 : (z : Int) ≤ 18446744073709551615 := by omega
        clear s1 hd hd1 hz hdl hdl1 hzl
        go_wp2_with (first
          | ((with_reducible show wpList _ _ _ (⟨some 19, _, _, _, _, _⟩ :: _) _ _); refine wpl_ix rfl 51 42 _ _ rfl Try.underlying51 cells42 A n c (q + k) _ _ _ rfl rfl (by omega) hlt hrr ?_; intro p hp0; have hp : wr.cell? p = some (.int .u32 d) := hp0.trans (congrArg (fun u : Nat => some (Value.int .u32 (u : Int))) Hd.out); clear hp0)
          | ((with_reducible show wpList _ _ _ (⟨some 31, _, _, _, _, _⟩ :: _) _ _); refine wpl_ix rfl 51 42 _ _ rfl Try.underlying51 cells42 A n c (q + k + 1) _ _ _ rfl rfl (by omega) hlt1 hrr ?_; intro p1 hp0; have hp1 : wr.cell? p1 = some (.int .u32 d1) := hp0.trans (congrArg (fun u : Nat => some (Value.int .u32 (u : Int))) Hd1.out); clear hp0)
          | ((with_reducible show wpList _ _ _ (⟨some 44, _, _, _, _, _⟩ :: _) _ _); refine wpl_push (w0 := w) rfl _ _ 51 42 (.int .u32 0) 4 rfl Try.underlying51 info42 rfl w.heap.size _ k _ (dw V) (.int .u32 (dig V k)) rfl rfl (hB.alloc _) (hbel.alloc hB.hB _) ?_ rfl rfl ?_ (by omega) ?_; exact cell_one _ _ _; omega; intro A2 c2 w2 hB2 hbel2 hk2 hc2))
        exact ⟨⟨k + 1, c2, A2, .inr (by omega), by go_num, rfl, hB2, hbel2⟩, by simp [intOf]; omega⟩
      · have hz1 : d1 = 0 := by rw [← hd1]; exact hB0.out _ (by omega)
        subst hz1
        rw [Nat.zero_mul, Nat.add_zero] at s1
        have f2 : IntKind.u32.wrap ((d : Int) / 2 ^ r) = ((dig V k : Nat) : Int) := by
          rw [IntKind.wrap_u32, s1, Int.natCast_emod, Int.natCast_ediv, Int.natCast_pow]; rfl
        have t1 : ¬ (q : Int) + k + 1 < n := by omega
        clear s1 hd hd1 hdl hdl1
        go_wp2_with (first
          | ((with_reducible show wpList _ _ _ (⟨some 19, _, _, _, _, _⟩ :: _) _ _); refine wpl_ix rfl 51 42 _ _ rfl Try.underlying51 cells42 A n c (q + k) _ _ _ rfl rfl (by omega) hlt hrr ?_; intro p hp0; have hp : wr.cell? p = some (.int .u32 d) := hp0.trans (congrArg (fun u : Nat => some (Value.int .u32 (u : Int))) Hd.out); clear hp0)
          | ((with_reducible show wpList _ _ _ (⟨some 44, _, _, _, _, _⟩ :: _) _ _); refine wpl_push (w0 := w) rfl _ _ 51 42 (.int .u32 0) 4 rfl Try.underlying51 info42 rfl w.heap.size _ k _ (dw V) (.int .u32 (dig V k)) rfl rfl (hB.alloc _) (hbel.alloc hB.hB _) ?_ rfl rfl ?_ (by omega) ?_; exact cell_one _ _ _; omega; intro A2 c2 w2 hB2 hbel2 hk2 hc2))
        exact ⟨⟨k + 1, c2, A2, .inr (by omega), by go_num, rfl, hB2, hbel2⟩, by simp [intOf]; omega⟩
    · have t0 : ¬ (q : Int) + k < n := by omega
      have hV := Lib.hid (hT.out k (by omega))
      go_wp2_with (go_at_call 49; refine (trim_bld hB hbel hV.out).mono ?_; rintro e w3 ⟨A3, n3, c3, rfl, h3, hbel3⟩)
      go_ret
      exact ⟨A3, n3, c3, rfl, h3, hbel3⟩
end Go.Proofs.Ytdfbmfmfhdifpaa
