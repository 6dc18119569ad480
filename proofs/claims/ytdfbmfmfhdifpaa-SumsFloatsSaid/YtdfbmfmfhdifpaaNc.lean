/- Naturals as slices of words: Add, Sub. -/
import Derived.Test.YtdfbmfmfhdifpaaNb
namespace Go.Proofs.Ytdfbmfmfhdifpaa
open Go.RowKit

theorem add_lt_Mx {N X n n' : Nat} (hN : N < Mx n) (hX : X < Mx n') (h : n' ≤ n) : N + X < Mx (n + 1) := by
  have := Mx_mono h
  rw [Mx_succ]
  omega
theorem add_end {N X n n' : Nat} (hN : N < Mx n) (hX : X < Mx n') (h : n' ≤ n) : carA N X n = dig (N + X) n := by
  have h1 := carA_le N X n
  rw [dig_add, dig_bigx N n n hN (Nat.le_refl _), dig_bigx X n n' hX h, Nat.zero_add, Nat.mod_eq_of_lt (by omega)]

set_option maxHeartbeats 1000000 in
theorem add2_ns (Aa : Option Addr) (na ca N : Nat) (Ab : Option Addr) (nb cb X : Nat) (w : World) (ha : Nt w Aa na ca N) (hb : Nt w Ab nb cb X) (hlen : nb ≤ na) (hn : na ≤ 1000000) :
    Calls Try.prog 36 #[.slice Aa na ca, .slice Ab nb cb] w (NRet (N + X) w) := by
  have hra := ha.rs
  have hrb := hb.rs
  have hca := hra.cm
  have hna := hra.nc
  have hcb := hrb.cm
  have hnb := hrb.nc
  have HV := Lib.hid (add_lt_Mx ha.lt hb.lt (show nb ≤ na by omega))
  have HE := Lib.hid (add_end ha.lt hb.lt (show nb ≤ na by omega))
  have HX := Lib.hid (fun k (hk : nb ≤ k) => dig_bigx X k nb hb.lt hk)
  have hn' : (na : Int) ≤ 1000000 := by omega
  have hlen' : ¬ (na : Int) < (nb : Int) := by omega
  have hlen2 : (nb : Int) ≤ na := by omega
  clear ha hb
  go_enter Try.func36, Try.ntmps36
  go_wp2_with (first
    | ((with_reducible show wpList _ _ _ (⟨some 19, _, _, _, _, _⟩ :: _) _ _); refine wpl_make0 (w0 := w) rfl _ _ 51 42 (.int .u32 0) 4 rfl Try.underlying51 info42 w.heap.size _ _ _ (na + 1) (dw (N + X)) rfl rfl (by omega) (Below.refl _ _) (Nat.le_refl _) (by omega) (by omega) ?_; intro w1 hb1 hbel1))
  go_loopw [5, 6, 7, 8, 22] (fun o s y1 y2 i wr => ∃ k c' : Nat, ∃ A' : Option Addr, k ≤ na ∧ i = .int .i64 k ∧ o = .slice A' k c' ∧ s = .int .u64 (carA N X k) ∧ Bld wr w.heap.size 42 (.slice A' k c') k (dw (N + X)) ∧ Below w.heap.size w wr) (fun _ _ _ _ i _ => na - (intOf i).toNat)
  case atStart => exact ⟨0, na + 1, _, by omega, rfl, rfl, by rw [carA_zero]; rfl, hb1, hbel1⟩
  case round =>
    obtain ⟨k, c', A', hk, rfl, rfl, rfl, hB, hbel⟩ := hrel
    have hrr := hra.below hbel
    have hrr2 := hrb.below hbel
    have hcl := carA_le N X k
    by_cases hlt : k < na
    · have hdl := dig_lt N k
      have hdl2 := dig_lt X k
      have s1 := carA_succ N X k
      have s2 := dig_add N X k
      obtain ⟨d, hd⟩ : ∃ d, dig N k = d := ⟨_, rfl⟩
      obtain ⟨x, hx⟩ : ∃ x, dig X k = x := ⟨_, rfl⟩
      obtain ⟨q, hq⟩ : ∃ q, carA N X k = q := ⟨_, rfl⟩
      obtain ⟨q', hq'⟩ : ∃ q', carA N X (k + 1) = q' := ⟨_, rfl⟩
      rw [hd] at hdl s1 s2
      rw [hx] at hdl2 s1 s2
      rw [hq] at hcl s1 s2 ⊢
      rw [hq'] at s1
      have b1 : (d : Int) < 4294967296 := by omega
      have b2 : (q : Int) ≤ 1 := by omega
      have b3 : (x : Int) < 4294967296 := by omega
      have Hd := Lib.hid hd
      have Hx := Lib.hid hx
      have Hq := Lib.hid hq'
      by_cases hkb : k < nb
      · have f2 : IntKind.u32.wrap ((q : Int) + d + x) = ((dig (N + X) k : Nat) : Int) := by rw [IntKind.wrap_u32, s2]; omega
        have f3 : ((q : Int) + d + x) / 4294967296 = (q' : Int) := by omega
        clear s1 s2 hd hx hq hq' hdl hdl2 hcl
        go_wp2_with (first
          | ((with_reducible show wpList _ _ _ (⟨some 25, _, _, _, _, _⟩ :: _) _ _); refine wpl_ix rfl 51 42 _ _ rfl Try.underlying51 cells42 Aa na ca k _ _ _ rfl rfl rfl hlt hrr ?_; intro p hp0; have hp : wr.cell? p = some (.int .u32 d) := hp0.trans (congrArg (fun u : Nat => some (Value.int .u32 (u : Int))) Hd.out); clear hp0)
          | ((with_reducible show wpList _ _ _ (⟨some 38, _, _, _, _, _⟩ :: _) _ _); refine wpl_ix rfl 51 42 _ _ rfl Try.underlying51 cells42 Ab nb cb k _ _ _ rfl rfl rfl hkb hrr2 ?_; intro p2 hp0; have hp2 : wr.cell? p2 = some (.int .u32 x) := hp0.trans (congrArg (fun u : Nat => some (Value.int .u32 (u : Int))) Hx.out); clear hp0)
          | ((with_reducible show wpList _ _ _ (⟨some 46, _, _, _, _, _⟩ :: _) _ _); refine wpl_push (w0 := w) rfl _ _ 51 42 (.int .u32 0) 4 rfl Try.underlying51 info42 rfl w.heap.size _ k _ (dw (N + X)) (.int .u32 (dig (N + X) k)) rfl rfl (hB.alloc _) (hbel.alloc hB.hB _) ?_ rfl rfl ?_ (by omega) ?_; exact cell_one _ _ _; omega; intro A2 c2 w2 hB2 hbel2 hk2 hc2))
        exact ⟨⟨k + 1, c2, A2, by omega, by go_num, rfl, by rw [Hq.out], hB2, hbel2⟩, by simp [intOf]; omega⟩
      · have hx0 : x = 0 := by rw [← hx]; exact HX.out k (by omega)
        subst hx0
        have f2 : IntKind.u32.wrap ((q : Int) + d) = ((dig (N + X) k : Nat) : Int) := by rw [IntKind.wrap_u32, s2]; omega
        have f3 : ((q : Int) + d) / 4294967296 = (q' : Int) := by omega
        clear s1 s2 hd hx hq hq' hdl hdl2 hcl
        go_wp2_with (first
          | ((with_reducible show wpList _ _ _ (⟨some 25, _, _, _, _, _⟩ :: _) _ _); refine wpl_ix rfl 51 42 _ _ rfl Try.underlying51 cells42 Aa na ca k _ _ _ rfl rfl rfl hlt hrr ?_; intro p hp0; have hp : wr.cell? p = some (.int .u32 d) := hp0.trans (congrArg (fun u : Nat => some (Value.int .u32 (u : Int))) Hd.out); clear hp0)
          | ((with_reducible show wpList _ _ _ (⟨some 46, _, _, _, _, _⟩ :: _) _ _); refine wpl_push (w0 := w) rfl _ _ 51 42 (.int .u32 0) 4 rfl Try.underlying51 info42 rfl w.heap.size _ k _ (dw (N + X)) (.int .u32 (dig (N + X) k)) rfl rfl (hB.alloc _) (hbel.alloc hB.hB _) ?_ rfl rfl ?_ (by omega) ?_; exact cell_one _ _ _; omega; intro A2 c2 w2 hB2 hbel2 hk2 hc2))
        exact ⟨⟨k + 1, c2, A2, by omega, by go_num, rfl, by rw [Hq.out], hB2, hbel2⟩, by simp [intOf]; omega⟩
    · obtain rfl : k = na := by omega
      have f2 : IntKind.u32.wrap ((carA N X k : Nat) : Int) = ((dig (N + X) k : Nat) : Int) := by rw [IntKind.wrap_u32, ← HE.out]; omega
      have b1 : ((carA N X k : Nat) : Int) ≤ 1 := by omega
      have b0 : (0 : Int) ≤ ((carA N X k : Nat) : Int) := by omega
      clear hcl
      go_wp2_with (first
        | ((with_reducible show wpList _ _ _ (⟨some 54, _, _, _, _, _⟩ :: _) _ _); refine wpl_push (w0 := w) rfl _ _ 51 42 (.int .u32 0) 4 rfl Try.underlying51 info42 rfl w.heap.size _ k _ (dw (N + X)) (.int .u32 (dig (N + X) k)) rfl rfl (hB.alloc _) (hbel.alloc hB.hB _) ?_ rfl rfl ?_ (by omega) ?_; exact cell_one _ _ _; omega; intro A2 c2 w2 hB2 hbel2 hk2 hc2)
        | (go_at_call 49; refine (trim_bld hB2 hbel2 HV.out).mono ?_; rintro e w3 ⟨A3, n3, c3, rfl, h3, hbel3⟩))
      go_ret
      exact ⟨A3, n3, c3, rfl, h3, hbel3⟩

set_option maxHeartbeats 1000000 in
theorem add2_sw (Aa : Option Addr) (na ca N : Nat) (Ab : Option Addr) (nb cb X : Nat) (w : World) (ha : Nt w Aa na ca N) (hb : Nt w Ab nb cb X) (hlen : nb < na) (hn : na ≤ 1000000) :
    Calls Try.prog 36 #[.slice Ab nb cb, .slice Aa na ca] w (NRet (N + X) w) := by
  have hra := ha.rs
  have hrb := hb.rs
  have hca := hra.cm
  have hna := hra.nc
  have hcb := hrb.cm
  have hnb := hrb.nc
  have HV := Lib.hid (add_lt_Mx ha.lt hb.lt (show nb ≤ na by omega))
  have HE := Lib.hid (add_end ha.lt hb.lt (show nb ≤ na by omega))
  have HX := Lib.hid (fun k (hk : nb ≤ k) => dig_bigx X k nb hb.lt hk)
  have hn' : (na : Int) ≤ 1000000 := by omega
  have hlen' : (nb : Int) < na := by omega
  clear ha hb
  go_enter Try.func36, Try.ntmps36
  go_wp2_with (first
    | ((with_reducible show wpList _ _ _ (⟨some 19, _, _, _, _, _⟩ :: _) _ _); refine wpl_make0 (w0 := w) rfl _ _ 51 42 (.int .u32 0) 4 rfl Try.underlying51 info42 w.heap.size _ _ _ (na + 1) (dw (N + X)) rfl rfl (by omega) (Below.refl _ _) (Nat.le_refl _) (by omega) (by omega) ?_; intro w1 hb1 hbel1))
  go_loopw [5, 6, 7, 8, 22] (fun o s y1 y2 i wr => ∃ k c' : Nat, ∃ A' : Option Addr, k ≤ na ∧ i = .int .i64 k ∧ o = .slice A' k c' ∧ s = .int .u64 (carA N X k) ∧ Bld wr w.heap.size 42 (.slice A' k c') k (dw (N + X)) ∧ Below w.heap.size w wr) (fun _ _ _ _ i _ => na - (intOf i).toNat)
  case atStart => exact ⟨0, na + 1, _, by omega, rfl, rfl, by rw [carA_zero]; rfl, hb1, hbel1⟩
  case round =>
    obtain ⟨k, c', A', hk, rfl, rfl, rfl, hB, hbel⟩ := hrel
    have hrr := hra.below hbel
    have hrr2 := hrb.below hbel
    have hcl := carA_le N X k
    by_cases hlt : k < na
    · have hdl := dig_lt N k
      have hdl2 := dig_lt X k
      have s1 := carA_succ N X k
      have s2 := dig_add N X k
      obtain ⟨d, hd⟩ : ∃ d, dig N k = d := ⟨_, rfl⟩
      obtain ⟨x, hx⟩ : ∃ x, dig X k = x := ⟨_, rfl⟩
      obtain ⟨q, hq⟩ : ∃ q, carA N X k = q := ⟨_, rfl⟩
      obtain ⟨q', hq'⟩ : ∃ q', carA N X (k + 1) = q' := ⟨_, rfl⟩
      rw [hd] at hdl s1 s2
      rw [hx] at hdl2 s1 s2
      rw [hq] at hcl s1 s2 ⊢
      rw [hq'] at s1
      have b1 : (d : Int) < 4294967296 := by omega
      have b2 : (q : Int) ≤ 1 := by omega
      have b3 : (x : Int) < 4294967296 := by omega
      have Hd := Lib.hid hd
      have Hx := Lib.hid hx
      have Hq := Lib.hid hq'
      by_cases hkb : k < nb
      · have f2 : IntKind.u32.wrap ((q : Int) + d + x) = ((dig (N + X) k : Nat) : Int) := by rw [IntKind.wrap_u32, s2]; omega
        have f3 : ((q : Int) + d + x) / 4294967296 = (q' : Int) := by omega
        clear s1 s2 hd hx hq hq' hdl hdl2 hcl
        go_wp2_with (first
          | ((with_reducible show wpList _ _ _ (⟨some 25, _, _, _, _, _⟩ :: _) _ _); refine wpl_ix rfl 51 42 _ _ rfl Try.underlying51 cells42 Aa na ca k _ _ _ rfl rfl rfl hlt hrr ?_; intro p hp0; have hp : wr.cell? p = some (.int .u32 d) := hp0.trans (congrArg (fun u : Nat => some (Value.int .u32 (u : Int))) Hd.out); clear hp0)
          | ((with_reducible show wpList _ _ _ (⟨some 38, _, _, _, _, _⟩ :: _) _ _); refine wpl_ix rfl 51 42 _ _ rfl Try.underlying51 cells42 Ab nb cb k _ _ _ rfl rfl rfl hkb hrr2 ?_; intro p2 hp0; have hp2 : wr.cell? p2 = some (.int .u32 x) := hp0.trans (congrArg (fun u : Nat => some (Value.int .u32 (u : Int))) Hx.out); clear hp0)
          | ((with_reducible show wpList _ _ _ (⟨some 46, _, _, _, _, _⟩ :: _) _ _); refine wpl_push (w0 := w) rfl _ _ 51 42 (.int .u32 0) 4 rfl Try.underlying51 info42 rfl w.heap.size _ k _ (dw (N + X)) (.int .u32 (dig (N + X) k)) rfl rfl (hB.alloc _) (hbel.alloc hB.hB _) ?_ rfl rfl ?_ (by omega) ?_; exact cell_one _ _ _; omega; intro A2 c2 w2 hB2 hbel2 hk2 hc2))
        exact ⟨⟨k + 1, c2, A2, by omega, by go_num, rfl, by rw [Hq.out], hB2, hbel2⟩, by simp [intOf]; omega⟩
      · have hx0 : x = 0 := by rw [← hx]; exact HX.out k (by omega)
        subst hx0
        have f2 : IntKind.u32.wrap ((q : Int) + d) = ((dig (N + X) k : Nat) : Int) := by rw [IntKind.wrap_u32, s2]; omega
        have f3 : ((q : Int) + d) / 4294967296 = (q' : Int) := by omega
        clear s1 s2 hd hx hq hq' hdl hdl2 hcl
        go_wp2_with (first
          | ((with_reducible show wpList _ _ _ (⟨some 25, _, _, _, _, _⟩ :: _) _ _); refine wpl_ix rfl 51 42 _ _ rfl Try.underlying51 cells42 Aa na ca k _ _ _ rfl rfl rfl hlt hrr ?_; intro p hp0; have hp : wr.cell? p = some (.int .u32 d) := hp0.trans (congrArg (fun u : Nat => some (Value.int .u32 (u : Int))) Hd.out); clear hp0)
          | ((with_reducible show wpList _ _ _ (⟨some 46, _, _, _, _, _⟩ :: _) _ _); refine wpl_push (w0 := w) rfl _ _ 51 42 (.int .u32 0) 4 rfl Try.underlying51 info42 rfl w.heap.size _ k _ (dw (N + X)) (.int .u32 (dig (N + X) k)) rfl rfl (hB.alloc _) (hbel.alloc hB.hB _) ?_ rfl rfl ?_ (by omega) ?_; exact cell_one _ _ _; omega; intro A2 c2 w2 hB2 hbel2 hk2 hc2))
        exact ⟨⟨k + 1, c2, A2, by omega, by go_num, rfl, by rw [Hq.out], hB2, hbel2⟩, by simp [intOf]; omega⟩
    · obtain rfl : k = na := by omega
      have f2 : IntKind.u32.wrap ((carA N X k : Nat) : Int) = ((dig (N + X) k : Nat) : Int) := by rw [IntKind.wrap_u32, ← HE.out]; omega
      have b1 : ((carA N X k : Nat) : Int) ≤ 1 := by omega
      have b0 : (0 : Int) ≤ ((carA N X k : Nat) : Int) := by omega
      clear hcl
      go_wp2_with (first
        | ((with_reducible show wpList _ _ _ (⟨some 54, _, _, _, _, _⟩ :: _) _ _); refine wpl_push (w0 := w) rfl _ _ 51 42 (.int .u32 0) 4 rfl Try.underlying51 info42 rfl w.heap.size _ k _ (dw (N + X)) (.int .u32 (dig (N + X) k)) rfl rfl (hB.alloc _) (hbel.alloc hB.hB _) ?_ rfl rfl ?_ (by omega) ?_; exact cell_one _ _ _; omega; intro A2 c2 w2 hB2 hbel2 hk2 hc2)
        | (go_at_call 49; refine (trim_bld hB2 hbel2 HV.out).mono ?_; rintro e w3 ⟨A3, n3, c3, rfl, h3, hbel3⟩))
      go_ret
      exact ⟨A3, n3, c3, rfl, h3, hbel3⟩

theorem add2_any (Aa : Option Addr) (na ca N : Nat) (Ab : Option Addr) (nb cb X : Nat) (w : World) (ha : Nt w Aa na ca N) (hb : Nt w Ab nb cb X) (hn : na ≤ 1000000) (hn2 : nb ≤ 1000000) :
    Calls Try.prog 36 #[.slice Aa na ca, .slice Ab nb cb] w (NRet (N + X) w) := by
  by_cases h : na < nb
  · rw [Nat.add_comm]
    exact add2_sw Ab nb cb X Aa na ca N w hb ha h hn2
  · exact add2_ns Aa na ca N Ab nb cb X w ha hb (by omega) hn

theorem sub_digit {N X n k : Nat} (hN : N < Mx n) (hX : X ≤ N) (hk : k < n) : (dig (N - X) k : Int) = ((dig N k : Int) - (dig X k + borS N X k)) % 4294967296 := by
  have h := dig_subx N X k n (by omega) hk
  have e : (N + Mx n - X) % Mx n = N - X := by
    rw [show N + Mx n - X = (N - X) + Mx n from by omega, Nat.add_mod_right, Nat.mod_eq_of_lt (by omega)]
  rw [e] at h
  exact h
theorem sub_cases {d x q q' g : Nat} (hd : d < 4294967296) (hx : x < 4294967296) (hq : q ≤ 1) (h1 : q' = if d < x + q then 1 else 0) (h2 : (g : Int) = ((d : Int) - (x + q)) % 4294967296) :
    IntKind.u32.wrap (IntKind.u64.wrap (IntKind.u64.wrap ((d : Int) - q) - x)) = (g : Int) ∧ IntKind.u64.wrap (IntKind.u64.wrap ((d : Int) - q) - x) / 9223372036854775808 = (q' : Int) := by
  rw [IntKind.wrap_u32, IntKind.wrap_u64, IntKind.wrap_u64]
  split at h1 <;> constructor <;> omega
theorem sub_cases0 {d q q' g : Nat} (hd : d < 4294967296) (hq : q ≤ 1) (h1 : q' = if d < 0 + q then 1 else 0) (h2 : (g : Int) = ((d : Int) - ((0 : Nat) + q)) % 4294967296) :
    IntKind.u32.wrap (IntKind.u64.wrap ((d : Int) - q)) = (g : Int) ∧ IntKind.u64.wrap ((d : Int) - q) / 9223372036854775808 = (q' : Int) := by
  rw [IntKind.wrap_u32, IntKind.wrap_u64]
  split at h1 <;> constructor <;> omega
end Go.Proofs.Ytdfbmfmfhdifpaa
