/- Nearest: the walk. -/
import Derived.Test.YtdfbmfmfhdifpaaNm
namespace Go.Proofs.Ytdfbmfmfhdifpaa
open Go.RowKit
theorem shl_lenG {w w2 : World} {A A2 : Option Addr} {n c n2 c2 N s m d : Nat} (h2 : Nt w2 A2 n2 c2 (N * 2 ^ s)) (h : Nt w A n c N) (hn : n ≤ m) (hs : s ≤ 32 * d) : n2 ≤ m + d := by
  refine h2.len_le (Nat.lt_of_lt_of_le (Nat.mul_lt_mul_of_pos_right h.lt (Nat.two_pow_pos s)) ?_)
  unfold Mx
  rw [← Nat.pow_add]
  exact Nat.pow_le_pow_right (by decide) (by omega)
theorem shl_len {w w2 : World} {A A2 : Option Addr} {n c n2 c2 N s : Nat} (h2 : Nt w2 A2 n2 c2 (N * 2 ^ s)) (h : Nt w A n c N) (hn : n ≤ 1000) (hs : s ≤ 1076) : n2 ≤ 1034 :=
  shl_lenG (m := 1000) (d := 34) h2 h hn (by omega)
theorem shl_len2 {w w2 : World} {A A2 : Option Addr} {n c n2 c2 N s : Nat} (h2 : Nt w2 A2 n2 c2 (N * 2 ^ s)) (h : Nt w A n c N) (hn : n ≤ 1000) (hs : s ≤ 30000) : n2 ≤ 1938 :=
  shl_lenG (m := 1000) (d := 938) h2 h hn (by omega)
theorem run_lss3_f (N : Int) (k : Int) (h : k ≤ N) (w : World) : (binOp .lss 3 (.int .i64 N) (.int .i64 k)).run Try.prog w = .ok (.bool false) w := by
  simp [binOp, Op.intCmp, h]
theorem len_pos {w : World} {A : Option Addr} {n c R : Nat} (h : Nt w A n c R) : decide (0 < n) = decide (R ≠ 0) := by
  have := h.zero_iff
  by_cases hR : R = 0
  · have := this.2 hR; simp [hR, this]
  · have : n ≠ 0 := fun h' => hR (this.1 h')
    simp [hR]; omega
set_option maxRecDepth 8000 in
set_option maxHeartbeats 800000 in
theorem nearest_low (A : Option Addr) (n c N : Nat) (A' : Option Addr) (n' c' X s Q R V : Nat) (e : Int) (w : World) (h : Nt w A n c N) (h' : Nt w A' n' c' X) (hn : n ≤ 1000) (hn' : n' ≤ 1000) (hn0 : n ≠ 0)
    (hs1 : 1 ≤ s) (hs2 : s ≤ 1076) (hX : X ≠ 0) (bi : Int) (hbi : 0 ≤ bi) (hbi2 : bi ≤ 100000) (hb : Hid ((blen N : Int) = bi)) (hbx : Hid ((blen X : Int) = 1075))
    (hcase : Hid ((s = 1076 ∧ e = -1076 ∧ bi - 1075 - 55 < -1076) ∨ (bi - 1075 - 55 = e ∧ ¬ e < -1076 ∧ e < 0 ∧ -e = (s : Int))))
    (HQ : Hid (N * 2 ^ s / X = Q)) (HR : Hid (N * 2 ^ s % X = R)) (hQ : Q < 18446744073709551616)
    (HC : ∀ w, Calls Try.prog 52 #[.int .u64 Q, .int .i64 e, .bool (decide (R ≠ 0))] w fun e w' => ∃ v, e = .returned (.tuple #[.int .u64 V, v]) ∧ w = w') :
    Calls Try.prog 39 #[.slice A n c, .slice A' n' c'] w fun e w' => ∃ v, e = .returned (.tuple #[.int .u64 V, v]) ∧ Below w.heap.size w w' := by
  have k1 := h.rs.cm
  have k2 := h.rs.nc
  have k3 := h'.rs.cm
  have k4 := h'.rs.nc
  have H := Lib.hid h
  have H' := Lib.hid h'
  have e0 : ((n : Int) == 0) = false := by simp; omega
  have HX := Lib.hid hX
  have Hn := Lib.hid hn
  have HC' := Lib.hid HC
  have hQi : (Q : Int) < 18446744073709551616 := by omega
  have HQ2 := Lib.hid hQ
  clear h h' HC hX hQ
  rcases hcase.out with ⟨rfl, rfl, g1⟩ | ⟨g1, g2, g3, g4⟩
  all_goals clear hcase
  all_goals
  go_enter Try.func39, Try.ntmps39
  go_wp2_with (first
      | (go_at_call_of 50 (Value.slice A n c); refine (size2_any A n c N _ H.out (by omega)).mono ?_; rintro e w1 ⟨rfl, rfl⟩; rw [hb.out])
      | (go_at_call 50; refine (size2_any A' n' c' X _ H'.out (by omega)).mono ?_; rintro e w1 ⟨rfl, rfl⟩; rw [hbx.out])
      | (go_at_call 34; refine (shift_any A n c N s _ H.out (by omega) (by omega)).mono ?_; rintro e w2 ⟨A2, n2, c2, rfl, h2, hb2⟩; have H2 := Lib.hid h2; have k5 := h2.rs.cm; have k6 := h2.rs.nc; have hn2 : n2 ≤ 1034 := shl_len h2 H.out Hn.out hs2; clear h2)
      | (go_at_call 34; refine (shift_any A n c N 1076 _ H.out (by omega) (by omega)).mono ?_; rintro e w2 ⟨A2, n2, c2, rfl, h2, hb2⟩; have H2 := Lib.hid h2; have k5 := h2.rs.cm; have k6 := h2.rs.nc; have hn2 : n2 ≤ 1034 := shl_len h2 H.out Hn.out (Nat.le_refl _); clear h2)
      | (go_at_call 51; refine (div_any A2 n2 c2 _ A' n' c' X _ H2.out (H'.out.below hb2) (by omega) (by omega) HX.out (by rw [HQ.out]; exact HQ2.out)).mono ?_; rw [HQ.out, HR.out]; rintro e w3 ⟨A3, n3, c3, rfl, h3, hb3⟩; have k7 := h3.rs.cm; have k8 := h3.rs.nc; have hd3 := Lib.hid (len_pos h3); clear h3)
      | (go_at_call 52; rw [hd3.out]; refine (HC'.out _).mono ?_; rintro e w4 ⟨v, rfl, rfl⟩))
  all_goals
    go_ret2
    exact ⟨_, rfl, hb2.trans (hb3.mono hb2.size)⟩
set_option maxRecDepth 8000 in
set_option maxHeartbeats 800000 in
theorem nearest_high (A : Option Addr) (n c N : Nat) (A' : Option Addr) (n' c' X s D Q R V : Nat) (w : World) (h : Nt w A n c N) (h' : Nt w A' n' c' X) (hn : n ≤ 1000) (hn' : n' ≤ 1000) (hn0 : n ≠ 0)
    (hs2 : s ≤ 30000) (hX : X ≠ 0) (bi : Int) (hbi : 0 ≤ bi) (hbi2 : bi ≤ 100000) (hb : Hid ((blen N : Int) = bi)) (hbx : Hid ((blen X : Int) = 1075))
    (e : Int) (he1 : bi - 1075 - 55 = e) (he2 : ¬ e < -1076) (he3 : ¬ e < 0) (he4 : 0 ≤ e) (he5 : -1076 ≤ e) (he : Hid (e = (s : Int)))
    (HD : Hid (X * 2 ^ s = D)) (hD0 : D ≠ 0) (HQ : Hid (N / D = Q)) (HR : Hid (N % D = R)) (hQ : Q < 18446744073709551616)
    (HC : ∀ w, Calls Try.prog 52 #[.int .u64 Q, .int .i64 (s : Int), .bool (decide (R ≠ 0))] w fun e w' => ∃ v, e = .returned (.tuple #[.int .u64 V, v]) ∧ w = w') :
    Calls Try.prog 39 #[.slice A n c, .slice A' n' c'] w fun e w' => ∃ v, e = .returned (.tuple #[.int .u64 V, v]) ∧ Below w.heap.size w w' := by
  have k1 := h.rs.cm
  have k2 := h.rs.nc
  have k3 := h'.rs.cm
  have k4 := h'.rs.nc
  have H := Lib.hid h
  have H' := Lib.hid h'
  have e0 : ((n : Int) == 0) = false := by simp; omega
  have HX := Lib.hid hX
  have Hn' := Lib.hid hn'
  have HC' := Lib.hid HC
  have hQi : (Q : Int) < 18446744073709551616 := by omega
  have HXs := Lib.hid hD0
  have HQ3 : Hid (N / D < 18446744073709551616) := by show _ < _; rw [HQ.out]; exact hQ
  clear h h' HC hX hQ hD0
  go_enter Try.func39, Try.ntmps39
  go_wp2_with (first
      | ((with_reducible show wpList _ _ _ (⟨some 20, _, _, _, _, _⟩ :: _) _ _); refine wpl_bin rfl .lss _ _ _ _ rfl _ _ _ rfl rfl rfl (run_lss3_f _ _ he4 _) ?_; simp only [Act.put, List.setIfInBounds_toArray, List.set_cons_succ, List.set_cons_zero])
      | (go_at_call_of 50 (Value.slice A n c); refine (size2_any A n c N _ H.out (by omega)).mono ?_; rintro e w1 ⟨rfl, rfl⟩; rw [hb.out])
      | (go_at_call 50; refine (size2_any A' n' c' X _ H'.out (by omega)).mono ?_; rintro e w1 ⟨rfl, rfl⟩; rw [hbx.out])
      | (go_at_call 34; rw [he.out]; refine (shift_any A' n' c' X s _ H'.out (by omega) (by omega)).mono ?_; rintro e w2 ⟨A2, n2, c2, rfl, h2, hb2⟩; have k5 := h2.rs.cm; have k6 := h2.rs.nc; have hn2 : n2 ≤ 1938 := shl_len2 h2 H'.out Hn'.out hs2; rw [HD.out] at h2; have H2 := Lib.hid h2; clear h2)
      | (go_at_call 51; refine (div_any A n c N A2 n2 c2 D w2 (H.out.below hb2) H2.out (by omega) (by omega) HXs.out HQ3.out).mono ?_; rw [HQ.out, HR.out]; rintro e w3 ⟨A3, n3, c3, rfl, h3, hb3⟩; have k7 := h3.rs.cm; have k8 := h3.rs.nc; have hd3 := Lib.hid (len_pos h3); clear h3)
      | (go_at_call 52; rw [hd3.out]; refine (HC'.out _).mono ?_; rintro e w4 ⟨v, rfl, rfl⟩))
  go_ret2
  exact ⟨_, rfl, hb2.trans (hb3.mono hb2.size)⟩

theorem blen_two_pow (k : Nat) : blen (2 ^ k) = k + 1 := by
  unfold blen
  rw [if_neg (Nat.ne_of_gt (Nat.two_pow_pos k)), Nat.log2_two_pow]
theorem two_len {w : World} {A : Option Addr} {n c k : Nat} (h : Nt w A n c (2 ^ k)) : n ≤ k / 32 + 1 := by
  refine h.len_le ?_
  unfold Mx
  exact Nat.pow_lt_pow_right (by decide) (by omega)
/-- Nearest, where the other number is 2^1074: the rung nearest to N. -/
theorem nearest_any (A : Option Addr) (n c N : Nat) (A' : Option Addr) (n' c' k : Nat) (hk : k = 1074) (w : World) (h : Nt w A n c N) (h' : Nt w A' n' c' (2 ^ k)) (hn : n ≤ 90) (hn0 : N ≠ 0) :
    Calls Try.prog 39 #[.slice A n c, .slice A' n' c'] w fun e w' => ∃ v, e = .returned (.tuple #[.int .u64 (Fl.rung N 0), v]) ∧ Below w.heap.size w w' := by
  have hn' : n' ≤ 1000 := by have := two_len h'; omega
  have hnz : n ≠ 0 := fun e => hn0 (h.zero_iff.1 e)
  have hbw := blen_words h
  have hX : (2 : Nat) ^ k ≠ 0 := Nat.ne_of_gt (Nat.two_pow_pos k)
  have hbx : Hid ((blen (2 ^ k) : Int) = 1075) := by show _ = _; rw [blen_two_pow, hk]; rfl
  obtain ⟨b, hb⟩ : ∃ b, blen N = b := ⟨_, rfl⟩
  have hb' : Hid ((blen N : Int) = b) := by show _ = _; rw [hb]
  rw [hb] at hbw
  rcases Nat.lt_or_ge b 54 with h54 | h54
  · have hN : N < 9007199254740992 := by
      have := blen_lt N
      rw [hb] at this
      exact Nat.lt_of_lt_of_le this (Nat.pow_le_pow_right (show 0 < 2 by decide) (show b ≤ 53 by omega))
    have e1 : N * 2 ^ (k + 2) = N * 4 * 2 ^ k := by rw [Nat.pow_add, Nat.mul_comm (2 ^ k), ← Nat.mul_assoc]
    have hs : k + 2 = 1076 := by omega
    rw [rung_low hN]
    refine nearest_low A n c N A' n' c' (2 ^ k) (k + 2) (N * 4) 0 N (-1076) w h h' (by omega) hn' hnz (by omega) (by omega) hX b (by omega) (by omega) hb' hbx (.inl ⟨hs, rfl, by omega⟩) ?_ ?_ (by omega) ?_
    · show _ = _; rw [e1, Nat.mul_div_cancel _ (Nat.two_pow_pos k)]
    · show _ = _; rw [e1, Nat.mul_mod_left]
    · intro w
      exact rounded_small N (N * 4) rfl hN w
  · rcases Nat.lt_or_ge b (k + 56) with hlt | hge
    · obtain ⟨h1, h2, h3⟩ := near_low hn0 hb h54 hlt
      obtain ⟨s, hs⟩ : ∃ s, k + 56 - b = s := ⟨_, rfl⟩
      rw [hs] at h1 h2 h3
      refine nearest_low A n c N A' n' c' (2 ^ k) s _ _ (Fl.rung N 0) ((b : Int) - 1075 - 55) w h h' (by omega) hn' hnz (by omega) (by omega) hX b (by omega) (by omega) hb' hbx (.inr ⟨rfl, by omega, by omega, by omega⟩) rfl rfl (by omega) ?_
      intro w
      have := nrounded_any _ (b - 53) (decide (N * 2 ^ s % 2 ^ k ≠ 0)) w h1 h2 (by omega) (by omega)
      rw [h3, show ((b - 53 : Nat) : Int) - 1077 = (b : Int) - 1075 - 55 by omega] at this
      exact this
    · obtain ⟨h1, h2, h3⟩ := near_high hn0 hb h54 hge
      obtain ⟨s, hs⟩ : ∃ s, b - (k + 56) = s := ⟨_, rfl⟩
      rw [hs] at h1 h2 h3
      refine nearest_high A n c N A' n' c' (2 ^ k) s _ _ _ (Fl.rung N 0) w h h' (by omega) hn' hnz (by omega) hX b (by omega) (by omega) hb' hbx ((b : Int) - 1075 - 55) rfl (by omega) (by omega) (by omega) (by omega) (by show _ = _; omega) rfl (Nat.mul_ne_zero hX (Nat.ne_of_gt (Nat.two_pow_pos s))) rfl rfl (by omega) ?_
      intro w
      have := nrounded_any _ (b - 53) (decide (N % (2 ^ k * 2 ^ s) ≠ 0)) w h1 h2 (by omega) (by omega)
      rw [h3, show ((b - 53 : Nat) : Int) - 1077 = (s : Int) by omega] at this
      exact this
end Go.Proofs.Ytdfbmfmfhdifpaa
