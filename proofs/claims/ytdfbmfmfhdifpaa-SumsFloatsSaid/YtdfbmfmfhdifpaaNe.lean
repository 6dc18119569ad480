/- Naturals as slices of words: digit, Size, Compare. -/
import Derived.Test.YtdfbmfmfhdifpaaNd
namespace Go.Proofs.Ytdfbmfmfhdifpaa
open Go.RowKit

theorem ret_u32 {a b : Int} (h : a = b) : Ending.returned (.int .u32 a) = .returned (.int .u32 b) := by rw [h]
theorem bit_word32 (d r : Nat) (h : d < 4294967296) : bits .and .u32 ((d : Int) / 2 ^ r) 1 = ((d / 2 ^ r % 2 : Nat) : Int) := by
  have h1 : d / 2 ^ r < 4294967296 := Nat.lt_of_le_of_lt (Nat.div_le_self _ _) h
  have e : (d : Int) / 2 ^ r = ((d / 2 ^ r : Nat) : Int) := by
    rw [Int.natCast_ediv, Int.natCast_pow]; rfl
  rw [e]
  generalize d / 2 ^ r = x at *
  rw [show (1 : Int) = ((1 : Nat) : Int) from rfl, u32_and_nat x 1 h1 (by decide), Nat.and_one_is_mod]
set_option maxHeartbeats 400000 in
theorem digit_any (A : Option Addr) (n c N i : Nat) (w : World) (h : Nt w A n c N) (hi : i / 32 < n) (hn : n ≤ 1000000) :
    Calls Try.prog 57 #[.slice A n c, .int .i64 i] w fun e w' => e = .returned (.int .u32 ((N / 2 ^ i % 2 : Nat) : Int)) ∧ w = w' := by
  rw [← bit_dig]
  have hq : (i : Int) / 32 = ((i / 32 : Nat) : Int) := by omega
  have hr : (i : Int) % 32 = ((i % 32 : Nat) : Int) := by omega
  have hr1 : i % 32 < 32 := by omega
  have hi' : (i : Int) < 32000000 := by omega
  have hrs := h.rs
  have hcm := hrs.cm
  have hnc := hrs.nc
  clear h
  generalize i / 32 = q at *
  generalize i % 32 = r at *
  obtain ⟨d, hd⟩ : ∃ d, dig N q = d := ⟨_, rfl⟩
  have hd1 : d < 4294967296 := by rw [← hd]; exact dig_lt N q
  rw [hd]
  have Hd := Lib.hid hd
  clear hd
  go_enter Try.func57, Try.ntmps57
  go_wp2_with (first
    | ((with_reducible show wpList _ _ _ (⟨some 8, _, _, _, _, _⟩ :: _) _ _); refine wpl_ix rfl 51 42 _ _ rfl Try.underlying51 cells42 A n c q _ _ _ rfl rfl rfl hi hrs ?_; intro p hp0; have hp : w.cell? p = some (.int .u32 d) := hp0.trans (congrArg (fun u : Nat => some (Value.int .u32 (u : Int))) Hd.out); clear hp0))
  go_ret
  exact ⟨ret_u32 (bit_word32 d r hd1), rfl⟩

/-- How two numbers stand. -/
def cmpI (N X : Nat) : Int := if N < X then -1 else if X < N then 1 else 0
theorem drew_N (w : World) (m k : Nat) : (w.drewN m).drewN k = w.drewN (m + k) := by simp [World.drewN, Nat.add_assoc]
theorem div_Mx (N j : Nat) : N / Mx j = N / Mx (j + 1) * 4294967296 + dig N j := by
  rw [Mx_succ, ← Nat.div_div_eq_div_mul]
  show _ = _ + N / Mx j % 4294967296
  omega
theorem cmp_lt {N X j : Nat} (h : N / Mx (j + 1) = X / Mx (j + 1)) (hd : dig N j < dig X j) : N < X := by
  have h1 := div_Mx N j
  have h2 := div_Mx X j
  rcases Nat.lt_or_ge N X with h3 | h3
  · exact h3
  · have := Nat.div_le_div_right (c := Mx j) h3
    rw [h1, h2, h] at this
    omega
theorem cmp_eq {N X j : Nat} (h : N / Mx (j + 1) = X / Mx (j + 1)) (hd : dig N j = dig X j) : N / Mx j = X / Mx j := by rw [div_Mx N j, div_Mx X j, h, hd]
theorem cmp_same {N X : Nat} (h : N / Mx 0 = X / Mx 0) : cmpI N X = 0 := by
  have : N = X := by
    have e : Mx 0 = 1 := rfl
    rw [e, Nat.div_one, Nat.div_one] at h
    exact h
  subst this
  unfold cmpI
  rw [if_neg (Nat.lt_irrefl _), if_neg (Nat.lt_irrefl _)]
theorem cmp_len {w : World} {A A' : Option Addr} {n c n' c' N X : Nat} (h : Nt w A n c N) (h' : Nt w A' n' c' X) (hl : n < n') : N < X := by
  have h1 := h.lt
  have h2 := h'.top (by omega)
  have := Mx_mono (show n ≤ n' - 1 by omega)
  omega

set_option maxHeartbeats 1000000 in
theorem compare_any (A : Option Addr) (n c N : Nat) (A' : Option Addr) (n' c' X : Nat) (w : World) (h : Nt w A n c N) (h' : Nt w A' n' c' X) (hn : n ≤ 1000000) :
    Calls Try.prog 38 #[.slice A n c, .slice A' n' c'] w fun e w' => ∃ m, e = .returned (.int .i64 (cmpI N X)) ∧ w' = w.drewN m := by
  have hr := h.rs
  have hr' := h'.rs
  have k1 := hr.cm
  have k2 := hr.nc
  have k3 := hr'.cm
  have k4 := hr'.nc
  by_cases hl : n = n'
  rotate_left
  · rcases Nat.lt_or_gt_of_ne hl with hl | hl
    · have e : cmpI N X = -1 := by unfold cmpI; rw [if_pos (cmp_len h h' hl)]
      rw [e]
      have d1 : ((n : Int) != n') = true := by simp; omega
      have d2 : (n : Int) < n' := by omega
      clear h h' hr hr'
      go_enter Try.func38, Try.ntmps38
      go_wp2_with fail
      go_ret
      exact ⟨0, rfl, rfl⟩
    · have := cmp_len h' h hl
      have e : cmpI N X = 1 := by unfold cmpI; rw [if_neg (by omega), if_pos this]
      rw [e]
      have d1 : ((n : Int) != n') = true := by simp; omega
      have d2 : ¬ (n : Int) < n' := by omega
      clear h h' hr hr'
      go_enter Try.func38, Try.ntmps38
      go_wp2_with fail
      go_ret
      first | exact ⟨0, rfl, rfl⟩ | exact ⟨rfl, 0, rfl⟩
  · subst hl
    have HN := Lib.hid h.lt
    have HX := Lib.hid h'.lt
    have hn' : (n : Int) ≤ 1000000 := by omega
    clear h h'
    go_enter Try.func38, Try.ntmps38
    go_wp2_with fail
    go_loopw [5] (fun s wr => ∃ k m : Nat, k ≤ n ∧ s = .int .i64 ((k : Int) - 1) ∧ Hid (N / Mx k = X / Mx k) ∧ wr = w.drewN m) (fun s _ => (intOf s + 1).toNat)
    case atStart => exact ⟨n, 0, Nat.le_refl _, rfl, Lib.hid (by rw [Nat.div_eq_of_lt HN.out, Nat.div_eq_of_lt HX.out]), rfl⟩
    case round =>
      obtain ⟨k, m, hk, rfl, hE, rfl⟩ := hrel
      by_cases h0 : k = 0
      · subst h0
        have HE := Lib.hid (cmp_same hE.out)
        go_wp2_with fail
        go_ret
        exact ⟨m, ret_i64 HE.out.symm, rfl⟩
      · obtain ⟨j, rfl⟩ : ∃ j, k = j + 1 := ⟨k - 1, by omega⟩
        clear h0
        have ej : ((j + 1 : Nat) : Int) - 1 = (j : Int) := by omega
        rw [ej]
        have hjn : (j : Int) < n := by omega
        obtain ⟨ad, rfl, hc⟩ := (hr.drewN m).cell j (by omega)
        obtain ⟨ad', rfl, hc'⟩ := (hr'.drewN m).cell j (by omega)
        obtain ⟨d, hd⟩ : ∃ d, dig N j = d := ⟨_, rfl⟩
        obtain ⟨x, hx⟩ : ∃ x, dig X j = x := ⟨_, rfl⟩
        unfold dw at hc hc'
        rw [hd] at hc
        rw [hx] at hc'
        obtain ⟨wq, hwq⟩ : ∃ wq, w.drewN m = wq := ⟨_, rfl⟩
        rw [hwq] at hc hc' ⊢
        have Hwq := Lib.hid hwq
        clear hwq ej
        rcases Nat.lt_trichotomy d x with h1 | h1 | h1
        · have e : cmpI N X = -1 := by unfold cmpI; rw [if_pos (cmp_lt hE.out (by rw [hd, hx]; exact h1))]
          have HE := Lib.hid e
          have t1 : (d : Int) < x := by omega
          clear hd hx e h1
          go_wp2_with fail
          go_quiet (fail)
          go_wp2_with fail
          go_ret
          exact ⟨_, ret_i64 HE.out.symm, by rw [← Hwq.out]; exact drew_N _ _ _⟩
        · have he : Hid (N / Mx j = X / Mx j) := Lib.hid (cmp_eq hE.out (by rw [hd, hx]; exact h1))
          subst h1
          have t1 : ¬ (d : Int) < d := by omega
          clear hd hx
          go_wp2_with fail
          go_quiet (fail)
          go_wp2_with fail
          go_quiet (fail)
          go_wp2_with fail
          exact ⟨⟨j, _, by omega, rfl, he, by rw [← Hwq.out, drew_N]⟩, by simp [intOf]⟩
        · have e : cmpI N X = 1 := by
            have := cmp_lt hE.out.symm (show dig X j < dig N j by rw [hd, hx]; exact h1)
            unfold cmpI; rw [if_neg (by omega), if_pos this]
          have HE := Lib.hid e
          have t1 : (x : Int) < d := by omega
          have t2 : ¬ (d : Int) < x := by omega
          clear hd hx e h1
          go_wp2_with fail
          go_quiet (fail)
          go_wp2_with fail
          go_quiet (fail)
          go_wp2_with fail
          go_ret
          exact ⟨_, ret_i64 HE.out.symm, by rw [← Hwq.out, drew_N, drew_N]⟩
end Go.Proofs.Ytdfbmfmfhdifpaa
