/- Naturals as slices of words: Div. -/
import Derived.Test.YtdfbmfmfhdifpaaNh
namespace Go.Proofs.Ytdfbmfmfhdifpaa
open Go.RowKit

theorem blen_lt (N : Nat) : N < 2 ^ blen N := by
  unfold blen
  split
  · omega
  · exact Fl.lt_log2 N
theorem blen_le {N : Nat} (h : N ≠ 0) : 2 ^ (blen N - 1) ≤ N ∧ 1 ≤ blen N := by
  unfold blen
  rw [if_neg h, Nat.add_sub_cancel]
  exact ⟨Nat.log2_self_le h, by omega⟩
theorem div_first {N X f : Nat} (hX : X ≠ 0) (hf : blen N + 1 ≤ f + blen X) : N / 2 ^ f < X := by
  obtain ⟨h1, h2⟩ := blen_le hX
  rw [Nat.div_lt_iff_lt_mul (Nat.two_pow_pos _)]
  refine Nat.lt_of_lt_of_le (blen_lt N) ?_
  refine Nat.le_trans (Nat.pow_le_pow_right (by decide) (show blen N ≤ blen X - 1 + f by omega)) ?_
  rw [Nat.pow_add]
  exact Nat.mul_le_mul_right _ h1
theorem div_bit (N k : Nat) : N / 2 ^ k = N / 2 ^ (k + 1) * 2 + N / 2 ^ k % 2 := by
  rw [Nat.pow_succ, ← Nat.div_div_eq_div_mul]
  omega
theorem div_step {M X R q d : Nat} (hX : 0 < X) (h : M = q * X + R) (hR : R < X) (hd : d < 2) :
    (R * 2 + d < X → M * 2 + d = q * 2 * X + (R * 2 + d)) ∧ (X ≤ R * 2 + d → M * 2 + d = (q * 2 + 1) * X + (R * 2 + d - X) ∧ R * 2 + d - X < X) := by
  constructor
  · intro _
    rw [h, Nat.mul_right_comm, Nat.add_mul]; omega
  · intro h2
    refine ⟨?_, by omega⟩
    rw [h, Nat.add_mul, Nat.add_mul, Nat.mul_right_comm, Nat.one_mul]
    omega
theorem div_le {N X k q R : Nat} (hX : 0 < X) (h : N / 2 ^ k = q * X + R) : q ≤ N / X := by
  rw [Nat.le_div_iff_mul_le hX]
  have := Nat.div_le_self N (2 ^ k)
  omega
theorem div_uniq {N X q R : Nat} (h : N = q * X + R) (hR : R < X) : q = N / X ∧ R = N % X := by
  have hX : 0 < X := by omega
  constructor
  · rw [h, Nat.mul_comm, Nat.mul_add_div hX, Nat.div_eq_of_lt hR, Nat.add_zero]
  · rw [h, Nat.mul_comm, Nat.mul_add_mod, Nat.mod_eq_of_lt hR]
theorem blen_words {w : World} {A : Option Addr} {n c N : Nat} (h : Nt w A n c N) : blen N ≤ 32 * n := by
  by_cases h0 : N = 0
  · subst h0; unfold blen; simp
  · have := (blen_le h0).1
    have h1 : 2 ^ (blen N - 1) < 2 ^ (32 * n) := Nat.lt_of_le_of_lt this h.lt
    have := (Nat.pow_lt_pow_iff_right (by decide : 1 < 2)).1 h1
    have := (blen_le h0).2
    omega

set_option maxHeartbeats 2000000 in
theorem div_any (A : Option Addr) (n c N : Nat) (A' : Option Addr) (n' c' X : Nat) (w : World) (h : Nt w A n c N) (h' : Nt w A' n' c' X) (hn : n ≤ 10000) (hn' : n' ≤ 10000) (hX : X ≠ 0) (hq : N / X < 18446744073709551616) :
    Calls Try.prog 51 #[.slice A n c, .slice A' n' c'] w fun e w' => ∃ A2 n2 c2, e = .returned (.tuple #[.int .u64 ((N / X : Nat) : Int), .slice A2 n2 c2]) ∧ Nt w' A2 n2 c2 (N % X) ∧ Below w.heap.size w w' := by
  have k1 := h.rs.cm
  have k2 := h.rs.nc
  have k3 := h'.rs.cm
  have k4 := h'.rs.nc
  have b1 := blen_words h
  have b2 := blen_words h'
  have b3 := (blen_le hX).2
  have hX0 : 0 < X := by omega
  have H := Lib.hid h
  have H' := Lib.hid h'
  obtain ⟨bn, hbn⟩ : ∃ bn, blen N = bn := ⟨_, rfl⟩
  obtain ⟨bx, hbx⟩ : ∃ bx, blen X = bx := ⟨_, rfl⟩
  rw [hbn] at b1
  rw [hbx] at b2 b3
  have b1' : (bn : Int) ≤ 320000 := by omega
  have b2' : (bx : Int) ≤ 320000 := by omega
  have HQ := Lib.hid hq
  have HX := Lib.hid hX0
  have Hbn := Lib.hid hbn
  have Hbx := Lib.hid hbx
  by_cases hc : bx ≤ bn + 1
  rotate_left
  · have HF : Hid (N / 2 ^ 0 < X) := Lib.hid (div_first hX (by omega))
    have e1 : (bn : Int) - bx + 1 < 0 := by omega
    have HV : Hid (0 = N / X ∧ N = N % X) := Lib.hid (div_uniq (by omega) (by have := HF.out; simpa using this))
    have hbn0 : (0 : Int) ≤ bn := by omega
    clear h h' hX hq hbn hbx hX0 hc
    go_enter Try.func51, Try.ntmps51
    go_wp2_with (first
      | (go_at_call_of 50 (Value.slice A n c); refine (size2_any A n c N _ H.out (by omega)).mono ?_; rintro e w1 ⟨rfl, rfl⟩; rw [Hbn.out])
      | (go_at_call 50; refine (size2_any A' n' c' X _ H'.out (by omega)).mono ?_; rintro e w1 ⟨rfl, rfl⟩; rw [Hbx.out])
      | (go_at_call 55; refine (top_any A n c N 0 _ H.out (by omega) (by omega)).mono ?_; rintro e w2 ⟨A2, n2, c2, rfl, h2, hb2⟩))
    have hbn0' : 0 ≤ bn := Nat.zero_le _
    go_loopw [8, 9, 10] (fun o x i wr => ∃ k q R nr cr : Nat, ∃ Ar : Option Addr, k ≤ 0 ∧ i = .int .i64 ((k : Int) - 1) ∧ o = .slice Ar nr cr ∧ x = .int .u64 q ∧ Hid (Nt wr Ar nr cr R ∧ R < X ∧ N / 2 ^ k = q * X + R) ∧ Below w.heap.size w wr) (fun _ _ i _ => (intOf i + 1).toNat)
    case atStart => exact ⟨0, 0, _, n2, c2, A2, Nat.le_refl _, by go_num, rfl, rfl, Lib.hid ⟨h2, HF.out, by omega⟩, hb2⟩
    case round =>
      obtain ⟨k, q, R, nr, cr, Ar, hk, rfl, rfl, rfl, hI, hbel⟩ := hrel
      by_cases h0 : k = 0
      · subst h0
        have HV : Hid (q = N / X ∧ R = N % X) := Lib.hid (div_uniq (by have := hI.out.2.2; simpa using this) hI.out.2.1)
        go_wp2_with fail
        go_ret2
        exact ⟨Ar, nr, cr, by rw [← HV.out.1]; rfl, by rw [← HV.out.2]; exact hI.out.1, hbel⟩
      · obtain ⟨j, rfl⟩ : ∃ j, k = j + 1 := ⟨k - 1, by omega⟩
        clear h0
        have ej : ((j + 1 : Nat) : Int) - 1 = (j : Int) := by omega
        rw [ej]
        have hj32 : j / 32 < n := by omega
        have HN := Lib.hid (H.out.below hbel)
        have hnr : nr ≤ n' := hI.out.1.len_le (Nat.lt_trans hI.out.2.1 H'.out.lt)
        obtain ⟨d, hd⟩ : ∃ d, N / 2 ^ j % 2 = d := ⟨_, rfl⟩
        have hd2 : d < 2 := by rw [← hd]; exact Nat.mod_lt _ (by decide)
        have hbit : N / 2 ^ j = N / 2 ^ (j + 1) * 2 + d := by rw [← hd]; exact div_bit N j
        have hst := div_step HX.out hI.out.2.2 hI.out.2.1 hd2
        rw [← hbit] at hst
        have HD := Lib.hid hd
        have hjf : (j : Int) ≤ 320000 := by omega
        have Hb := Lib.hid hbel
        clear hd hbit ej
        by_cases hcmp : R * 2 + d < X
        · have e1 := hst.1 hcmp
          have hql : q * 2 < 18446744073709551616 := Nat.lt_of_le_of_lt (div_le HX.out e1) HQ.out
          have hq1 : (q : Int) * 2 < 18446744073709551616 := by omega
          have hc1 : Hid (cmpI (R * 2 + d) X = -1) := Lib.hid (by unfold cmpI; rw [if_pos hcmp])
          have HS := Lib.hid e1
          have HC := Lib.hid hcmp
          clear hst e1 hql hcmp
          go_wp2_with (first
            | (go_at_call 57; refine (digit_any A n c N j _ HN.out hj32 (by omega)).mono ?_; rintro e w3 ⟨rfl, rfl⟩; rw [HD.out])
            | (go_at_call 56; refine (push_any Ar nr cr R d _ hI.out.1 (by omega) (by omega)).mono ?_; rintro e w4 ⟨A4, n4, c4, rfl, h4, hb4⟩; have H4 := Lib.hid h4; have hn4 : n4 ≤ n' := h4.len_le (Nat.lt_trans HC.out H'.out.lt); have HX' := Lib.hid ((H'.out.below Hb.out).below hb4); clear h4)
            | (go_at_call 38; refine (compare_any A4 n4 c4 (R * 2 + d) A' n' c' X _ H4.out HX'.out (by omega)).mono ?_; rintro e w5 ⟨m5, rfl, rfl⟩; rw [hc1.out]))
          exact ⟨⟨j, q * 2, R * 2 + d, n4, c4, A4, by omega, by go_num, rfl, by go_num, Lib.hid ⟨⟨H4.out.rs.drewN _, H4.out.lt, H4.out.top⟩, HC.out, HS.out⟩, below_drewN (Hb.out.trans (hb4.mono Hb.out.size)) _⟩, by simp [intOf]⟩
        · obtain ⟨e1, e2⟩ := hst.2 (by omega)
          have hql : q * 2 + 1 < 18446744073709551616 := Nat.lt_of_le_of_lt (div_le HX.out e1) HQ.out
          have hq1 : (q : Int) * 2 + 1 < 18446744073709551616 := by omega
          obtain ⟨v, hv⟩ : ∃ v, cmpI (R * 2 + d) X = v := ⟨_, rfl⟩
          have hv0 : 0 ≤ v := by rw [← hv]; unfold cmpI; rw [if_neg hcmp]; split <;> omega
          have hc1 := Lib.hid hv
          have HS := Lib.hid e1
          have HC := Lib.hid e2
          have hle : X ≤ R * 2 + d := by omega
          have HL := Lib.hid hle
          have Hlt2 : Hid (R * 2 + d < Mx (n' + 1)) := Lib.hid (by have := H'.out.lt; have := hI.out.2.1; rw [Mx_succ]; omega)
          clear hst e1 e2 hql hcmp hv hle
          go_wp2_with (first
            | (go_at_call 57; refine (digit_any A n c N j _ HN.out hj32 (by omega)).mono ?_; rintro e w3 ⟨rfl, rfl⟩; rw [HD.out])
            | (go_at_call 56; refine (push_any Ar nr cr R d _ hI.out.1 (by omega) (by omega)).mono ?_; rintro e w4 ⟨A4, n4, c4, rfl, h4, hb4⟩; have H4 := Lib.hid h4; have hn4 : n4 ≤ n' + 1 := h4.len_le Hlt2.out; have HX' := Lib.hid ((H'.out.below Hb.out).below hb4); clear h4)
            | (go_at_call 38; refine (compare_any A4 n4 c4 (R * 2 + d) A' n' c' X _ H4.out HX'.out (by omega)).mono ?_; rintro e w5 ⟨m5, rfl, rfl⟩; rw [hc1.out])
            | (go_at_call 40; refine (sub2_any A4 n4 c4 (R * 2 + d) A' n' c' X _ ⟨H4.out.rs.drewN _, H4.out.lt, H4.out.top⟩ ⟨HX'.out.rs.drewN _, HX'.out.lt, HX'.out.top⟩ HL.out (by omega)).mono ?_; rintro e w6 ⟨A6, n6, c6, rfl, h6, hb6⟩; have H6 := Lib.hid h6; clear h6))
          exact ⟨⟨j, q * 2 + 1, R * 2 + d - X, n6, c6, A6, by omega, by go_num, rfl, by go_num, Lib.hid ⟨H6.out, HC.out, HS.out⟩, (below_drewN (Hb.out.trans (hb4.mono Hb.out.size)) _).trans (hb6.mono (by have := Hb.out.size; have := hb4.size; simp; omega))⟩, by simp [intOf]⟩
  obtain ⟨f, hf⟩ : ∃ f : Nat, (bn : Int) - bx + 1 = (f : Int) := ⟨((bn : Int) - bx + 1).toNat, by omega⟩
  have hfb : bn + 1 ≤ f + bx := by omega
  have hfn : f ≤ bn := by omega
  have HF : Hid (N / 2 ^ f < X) := Lib.hid (div_first hX (by omega))
  have hfI : (f : Int) ≤ 320000 := by omega
  have hfI2 : (f : Int) ≤ bn := by omega
  clear h h' hX hq hbn hbx hX0 hc
  go_enter Try.func51, Try.ntmps51
  go_wp2_with (first
    | (go_at_call_of 50 (Value.slice A n c); refine (size2_any A n c N _ H.out (by omega)).mono ?_; rintro e w1 ⟨rfl, rfl⟩; rw [Hbn.out])
    | (go_at_call 50; refine (size2_any A' n' c' X _ H'.out (by omega)).mono ?_; rintro e w1 ⟨rfl, rfl⟩; rw [Hbx.out])
    | (go_at_call 55; refine (top_any A n c N f _ H.out (by omega) (by omega)).mono ?_; rintro e w2 ⟨A2, n2, c2, rfl, h2, hb2⟩))
  go_loopw [8, 9, 10] (fun o x i wr => ∃ k q R nr cr : Nat, ∃ Ar : Option Addr, k ≤ f ∧ i = .int .i64 ((k : Int) - 1) ∧ o = .slice Ar nr cr ∧ x = .int .u64 q ∧ Hid (Nt wr Ar nr cr R ∧ R < X ∧ N / 2 ^ k = q * X + R) ∧ Below w.heap.size w wr) (fun _ _ i _ => (intOf i + 1).toNat)
  case atStart => exact ⟨f, 0, _, n2, c2, A2, Nat.le_refl _, rfl, rfl, rfl, Lib.hid ⟨h2, HF.out, by omega⟩, hb2⟩
  case round =>
    obtain ⟨k, q, R, nr, cr, Ar, hk, rfl, rfl, rfl, hI, hbel⟩ := hrel
    by_cases h0 : k = 0
    · subst h0
      have HV : Hid (q = N / X ∧ R = N % X) := Lib.hid (div_uniq (by have := hI.out.2.2; simpa using this) hI.out.2.1)
      go_wp2_with fail
      go_ret2
      exact ⟨Ar, nr, cr, by rw [← HV.out.1]; rfl, by rw [← HV.out.2]; exact hI.out.1, hbel⟩
    · obtain ⟨j, rfl⟩ : ∃ j, k = j + 1 := ⟨k - 1, by omega⟩
      clear h0
      have ej : ((j + 1 : Nat) : Int) - 1 = (j : Int) := by omega
      rw [ej]
      have hj32 : j / 32 < n := by omega
      have HN := Lib.hid (H.out.below hbel)
      have hnr : nr ≤ n' := hI.out.1.len_le (Nat.lt_trans hI.out.2.1 H'.out.lt)
      obtain ⟨d, hd⟩ : ∃ d, N / 2 ^ j % 2 = d := ⟨_, rfl⟩
      have hd2 : d < 2 := by rw [← hd]; exact Nat.mod_lt _ (by decide)
      have hbit : N / 2 ^ j = N / 2 ^ (j + 1) * 2 + d := by rw [← hd]; exact div_bit N j
      have hst := div_step HX.out hI.out.2.2 hI.out.2.1 hd2
      rw [← hbit] at hst
      have HD := Lib.hid hd
      have hjf : (j : Int) ≤ 320000 := by omega
      have Hb := Lib.hid hbel
      clear hd hbit ej
      by_cases hcmp : R * 2 + d < X
      · have e1 := hst.1 hcmp
        have hql : q * 2 < 18446744073709551616 := Nat.lt_of_le_of_lt (div_le HX.out e1) HQ.out
        have hq1 : (q : Int) * 2 < 18446744073709551616 := by omega
        have hc1 : Hid (cmpI (R * 2 + d) X = -1) := Lib.hid (by unfold cmpI; rw [if_pos hcmp])
        have HS := Lib.hid e1
        have HC := Lib.hid hcmp
        clear hst e1 hql hcmp
        go_wp2_with (first
          | (go_at_call 57; refine (digit_any A n c N j _ HN.out hj32 (by omega)).mono ?_; rintro e w3 ⟨rfl, rfl⟩; rw [HD.out])
          | (go_at_call 56; refine (push_any Ar nr cr R d _ hI.out.1 (by omega) (by omega)).mono ?_; rintro e w4 ⟨A4, n4, c4, rfl, h4, hb4⟩; have H4 := Lib.hid h4; have hn4 : n4 ≤ n' := h4.len_le (Nat.lt_trans HC.out H'.out.lt); have HX' := Lib.hid ((H'.out.below Hb.out).below hb4); clear h4)
          | (go_at_call 38; refine (compare_any A4 n4 c4 (R * 2 + d) A' n' c' X _ H4.out HX'.out (by omega)).mono ?_; rintro e w5 ⟨m5, rfl, rfl⟩; rw [hc1.out]))
        exact ⟨⟨j, q * 2, R * 2 + d, n4, c4, A4, by omega, by go_num, rfl, by go_num, Lib.hid ⟨⟨H4.out.rs.drewN _, H4.out.lt, H4.out.top⟩, HC.out, HS.out⟩, below_drewN (Hb.out.trans (hb4.mono Hb.out.size)) _⟩, by simp [intOf]⟩
      · obtain ⟨e1, e2⟩ := hst.2 (by omega)
        have hql : q * 2 + 1 < 18446744073709551616 := Nat.lt_of_le_of_lt (div_le HX.out e1) HQ.out
        have hq1 : (q : Int) * 2 + 1 < 18446744073709551616 := by omega
        obtain ⟨v, hv⟩ : ∃ v, cmpI (R * 2 + d) X = v := ⟨_, rfl⟩
        have hv0 : 0 ≤ v := by rw [← hv]; unfold cmpI; rw [if_neg hcmp]; split <;> omega
        have hc1 := Lib.hid hv
        have HS := Lib.hid e1
        have HC := Lib.hid e2
        have hle : X ≤ R * 2 + d := by omega
        have HL := Lib.hid hle
        have Hlt2 : Hid (R * 2 + d < Mx (n' + 1)) := Lib.hid (by have := H'.out.lt; have := hI.out.2.1; rw [Mx_succ]; omega)
        clear hst e1 e2 hql hcmp hv hle
        go_wp2_with (first
          | (go_at_call 57; refine (digit_any A n c N j _ HN.out hj32 (by omega)).mono ?_; rintro e w3 ⟨rfl, rfl⟩; rw [HD.out])
          | (go_at_call 56; refine (push_any Ar nr cr R d _ hI.out.1 (by omega) (by omega)).mono ?_; rintro e w4 ⟨A4, n4, c4, rfl, h4, hb4⟩; have H4 := Lib.hid h4; have hn4 : n4 ≤ n' + 1 := h4.len_le Hlt2.out; have HX' := Lib.hid ((H'.out.below Hb.out).below hb4); clear h4)
          | (go_at_call 38; refine (compare_any A4 n4 c4 (R * 2 + d) A' n' c' X _ H4.out HX'.out (by omega)).mono ?_; rintro e w5 ⟨m5, rfl, rfl⟩; rw [hc1.out])
          | (go_at_call 40; refine (sub2_any A4 n4 c4 (R * 2 + d) A' n' c' X _ ⟨H4.out.rs.drewN _, H4.out.lt, H4.out.top⟩ ⟨HX'.out.rs.drewN _, HX'.out.lt, HX'.out.top⟩ HL.out (by omega)).mono ?_; rintro e w6 ⟨A6, n6, c6, rfl, h6, hb6⟩; have H6 := Lib.hid h6; clear h6))
        exact ⟨⟨j, q * 2 + 1, R * 2 + d - X, n6, c6, A6, by omega, by go_num, rfl, by go_num, Lib.hid ⟨H6.out, HC.out, HS.out⟩, (below_drewN (Hb.out.trans (hb4.mono Hb.out.size)) _).trans (hb6.mono (by have := Hb.out.size; have := hb4.size; simp; omega))⟩, by simp [intOf]⟩
end Go.Proofs.Ytdfbmfmfhdifpaa
