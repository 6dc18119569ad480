/- The program's whole number of 70 words: bit, minus, length, beside, turn. -/
import Derived.Test.YtdfbmfmfhdifpaaSm
import Derived.Test.YtdfbmfmfhdifpaaDg
namespace Go.Proofs.Ytdfbmfmfhdifpaa
open Go.RowKit

/-- Block W holds 70 words, d. -/
structure Wh (w : World) (W : Nat) (d : Nat → Nat) : Prop where
  blk : ∃ cs t, w.heap[W]? = some (.cells cs t (0, 0)) ∧ cs.size = 70 ∧ ∀ j, j < 70 → cs[j]? = some (.int .u32 (d j))
theorem Wh.cell {w : World} {W : Nat} {d : Nat → Nat} (h : Wh w W d) (j : Nat) (hj : j < 70) : w.cell? ⟨W, j, none⟩ = some (.int .u32 (d j)) := by
  obtain ⟨cs, t, h1, _, h3⟩ := h.blk
  rw [cell_of_row w W j cs t _ h1, h3 j hj]
theorem Wh.free {w : World} {W : Nat} {d : Nat → Nat} (h : Wh w W d) (j : Nat) (_hj : j < 70) : w.frozen? ⟨W, j, none⟩ = false := by
  obtain ⟨cs, t, h1, _, _⟩ := h.blk
  exact frozen_of_row w W j cs t h1
theorem Wh.lt {w : World} {W : Nat} {d : Nat → Nat} (h : Wh w W d) : W < w.heap.size := World.block_lt_of_cell? w _ (h.cell 0 (by decide))
theorem Wh.congr {w : World} {W : Nat} {d e : Nat → Nat} (h : Wh w W d) (he : ∀ j, j < 70 → d j = e j) : Wh w W e := by
  obtain ⟨cs, t, h1, h2, h3⟩ := h.blk
  exact ⟨cs, t, h1, h2, fun j hj => by rw [← he j hj]; exact h3 j hj⟩
theorem Wh.of_block {w w' : World} {W : Nat} {d : Nat → Nat} (h : Wh w W d) (hb : w'.heap[W]? = w.heap[W]?) : Wh w' W d := by
  obtain ⟨cs, t, h1, h2, h3⟩ := h.blk
  exact ⟨cs, t, hb.trans h1, h2, h3⟩
theorem Wh.set {w : World} {W : Nat} {d : Nat → Nat} (h : Wh w W d) (i v : Nat) (hi : i < 70) : Wh (w.setCell ⟨W, i, none⟩ (.int .u32 v)) W (fun j => if j = i then v else d j) := by
  obtain ⟨cs, t, h1, h2, h3⟩ := h.blk
  refine ⟨cs.setIfInBounds i (.int .u32 v), t, heap_setCell_same w W i cs t _ h1, by simpa using h2, fun j hj => ?_⟩
  by_cases hji : j = i
  · subst hji
    rw [if_pos rfl, Array.getElem?_setIfInBounds_self_of_lt (by omega)]
  · rw [if_neg hji, Array.getElem?_setIfInBounds_ne (by omega)]
    exact h3 j hj

theorem ret_u64 {a b : Int} (h : a = b) : Ending.returned (.int .u64 a) = .returned (.int .u64 b) := by rw [h]
theorem ret_i64 {a b : Int} (h : a = b) : Ending.returned (.int .i64 a) = .returned (.int .i64 b) := by rw [h]
theorem bit_word (d r : Nat) (h : d < 4294967296) : IntKind.u64.wrap (bits .and .u32 ((d : Int) / 2 ^ r) 1) = ((d / 2 ^ r % 2 : Nat) : Int) := by
  have h1 : d / 2 ^ r < 4294967296 := Nat.lt_of_le_of_lt (Nat.div_le_self _ _) h
  have e : (d : Int) / 2 ^ r = ((d / 2 ^ r : Nat) : Int) := by
    rw [Int.natCast_ediv, Int.natCast_pow]; rfl
  rw [e]
  generalize d / 2 ^ r = x at *
  rw [show (1 : Int) = ((1 : Nat) : Int) from rfl, u32_and_nat x 1 h1 (by decide), Nat.and_one_is_mod, IntKind.wrap_u64]
  omega

set_option maxHeartbeats 400000 in
theorem bit_any (W N i : Nat) (w : World) (hi : i < 2240) (hw : Wh w W (dig N)) :
    Calls Try.prog 44 #[.pointer (some ⟨W, 0, none⟩), .int .i64 i] w fun e w' => e = .returned (.int .u64 ((N / 2 ^ i % 2 : Nat) : Int)) ∧ w = w' := by
  rw [← bit_dig]
  have hq : (i : Int) / 32 = ((i / 32 : Nat) : Int) := by omega
  have hr : (i : Int) % 32 = ((i % 32 : Nat) : Int) := by omega
  have hq1 : i / 32 < 70 := by omega
  have hr1 : i % 32 < 32 := by omega
  have hi' : (i : Int) < 2240 := by omega
  generalize i / 32 = q at *
  generalize i % 32 = r at *
  have hc := hw.cell q hq1
  generalize hd : dig N q = d at *
  have hd1 : d < 4294967296 := by rw [← hd]; exact dig_lt N q
  clear hd
  go_enter Try.func44, Try.ntmps44
  go_wp2_with fail
  go_ret
  exact ⟨ret_u64 (bit_word d r hd1), rfl⟩

theorem bit_is (W N i z : Nat) (w : World) (hi : i < 2240) (hw : Wh w W (dig N)) (hz : N / 2 ^ i % 2 = z) :
    Calls Try.prog 44 #[.pointer (some ⟨W, 0, none⟩), .int .i64 i] w fun e w' => e = .returned (.int .u64 (z : Int)) ∧ w = w' := by
  rw [← hz]; exact bit_any W N i w hi hw

/-- The sign's bit. -/
def neg70 (N : Nat) : Bool := N / 2 ^ 2239 % 2 == 1
theorem top_bit (N : Nat) : ((dig N 69 : Int) / 2147483648 == 1) = neg70 N := by
  unfold neg70
  have := bit_dig N 2239
  rw [← this]
  have h := dig_lt N 69
  rw [Bool.eq_iff_iff, beq_iff_eq, beq_iff_eq]
  show _ ↔ dig N 69 / 2147483648 % 2 = 1
  omega
set_option maxHeartbeats 400000 in
theorem minus_any (W N : Nat) (w : World) (hw : Wh w W (dig N)) :
    Calls Try.prog 45 #[.pointer (some ⟨W, 0, none⟩)] w fun e w' => e = .returned (.bool (neg70 N)) ∧ w = w' := by
  have hc := hw.cell 69 (by decide)
  rw [← top_bit]
  generalize dig N 69 = d at *
  go_enter Try.func45, Try.ntmps45
  go_wp2_with fail
  go_ret
  exact ⟨rfl, rfl⟩

/-- How many bits N has. -/
def blen (N : Nat) : Nat := if N = 0 then 0 else N.log2 + 1
theorem blen_eq {N j : Nat} (h : N < 2 ^ (j + 1)) (h1 : N / 2 ^ j % 2 = 1) : blen N = j + 1 := by
  have hge : 2 ^ j ≤ N := by
    rcases Nat.lt_or_ge N (2 ^ j) with h' | h'
    · rw [Nat.div_eq_of_lt h'] at h1; omega
    · exact h'
  have h0 : N ≠ 0 := by have := Nat.two_pow_pos j; omega
  unfold blen
  rw [if_neg h0, (Nat.log2_eq_iff h0).2 ⟨hge, h⟩]
def LtP (N k : Nat) : Prop := N < 2 ^ k
theorem lt_of_Mx {N j k : Nat} (h : N < Mx j) (hk : k = 32 * j) : LtP N k := by subst hk; unfold Mx at h; exact h
theorem lt_half {N j : Nat} (h : N < 2 ^ (j + 1)) (h1 : N / 2 ^ j % 2 = 0) : N < 2 ^ j := by
  have hlt : N / 2 ^ j < 2 := by
    rw [Nat.div_lt_iff_lt_mul (Nat.two_pow_pos j)]; rw [Nat.pow_succ, Nat.mul_comm] at h; exact h
  have h0 : N / 2 ^ j = 0 := by
    generalize N / 2 ^ j = q at *
    omega
  rcases (Nat.div_eq_zero_iff.1 h0) with h' | h'
  · have := Nat.two_pow_pos j; omega
  · exact h'

set_option maxHeartbeats 400000 in
theorem length_any (W N : Nat) (w : World) (hw : Wh w W (dig N)) (hN : N < Mx 70) :
    Calls Try.prog 28 #[.pointer (some ⟨W, 0, none⟩)] w fun e w' => e = .returned (.int .i64 (blen N)) ∧ w = w' := by
  have HN := Lib.hid hN; clear hN
  go_enter Try.func28, Try.ntmps28
  go_wp2_with fail
  go_loop [3] (fun n => ∃ k : Nat, k ≤ 2240 ∧ n = .int .i64 k ∧ LtP N k) (fun n => (intOf n).toNat)
  case atStart => exact ⟨2240, by omega, rfl, lt_of_Mx HN.out rfl⟩
  case round =>
    obtain ⟨k, hk, rfl, hN⟩ := hrel
    rcases Nat.eq_zero_or_pos k with h0 | h0
    · subst h0
      go_wp2_with fail
      go_ret
      have : N = 0 := by have h : N < 2 ^ 0 := hN; simp at h; exact h
      subst this
      exact ⟨rfl, rfl⟩
    · obtain ⟨j, rfl⟩ : ∃ j, k = j + 1 := ⟨k - 1, by omega⟩
      have hj : (j : Int) < 2240 := by omega
      have hz : N / 2 ^ j % 2 = 0 ∨ N / 2 ^ j % 2 = 1 := by omega
      rcases hz with hz | hz
      · have Hz := Lib.hid hz; clear hz
        go_wp2_with (go_at_call 44; refine (bit_is W N j 0 _ (by omega) hw Hz.out).mono ?_; rintro e w' ⟨rfl, rfl⟩)
        go_round
        case rel => exact ⟨j, by omega, by go_num, lt_half hN Hz.out⟩
        case measure => simp [intOf]
      · have Hz := Lib.hid hz; clear hz
        go_wp2_with (go_at_call 44; refine (bit_is W N j 1 _ (by omega) hw Hz.out).mono ?_; rintro e w' ⟨rfl, rfl⟩)
        go_ret
        exact ⟨ret_i64 (by rw [blen_eq hN Hz.out]; omega), rfl⟩

/-- What is below bit 'cut' of N beside a half of it. -/
def besideN (N cut : Nat) : Int := if cut = 0 ∨ N / 2 ^ (cut - 1) % 2 = 0 then -1 else if N % 2 ^ (cut - 1) = 0 then 0 else 1

theorem mod_step {N k : Nat} (h : N % 2 ^ k = 0) (h1 : N / 2 ^ k % 2 = 0) : N % 2 ^ (k + 1) = 0 := by
  rw [Nat.pow_succ, Nat.mod_mul, h, h1]; simp
theorem mod_stop {N k c : Nat} (h1 : N / 2 ^ k % 2 = 1) (hk : k < c) : ¬ N % 2 ^ c = 0 := by
  intro h0
  obtain ⟨j, rfl⟩ : ∃ j, c = k + 1 + j := ⟨c - k - 1, by omega⟩
  have hd : 2 ^ (k + 1) ∣ N := Nat.dvd_trans ⟨2 ^ j, by rw [Nat.pow_add]⟩ (Nat.dvd_of_mod_eq_zero h0)
  obtain ⟨q, rfl⟩ := hd
  rw [Nat.pow_succ, Nat.mul_assoc, Nat.mul_div_cancel_left _ (Nat.two_pow_pos k)] at h1
  omega

set_option maxHeartbeats 400000 in
theorem beside_any (W N cut : Nat) (w : World) (hw : Wh w W (dig N)) (hc : cut ≤ 2240) :
    Calls Try.prog 47 #[.pointer (some ⟨W, 0, none⟩), .int .i64 cut] w fun e w' => e = .returned (.int .i64 (besideN N cut)) ∧ w = w' := by
  rcases Nat.eq_zero_or_pos cut with h0 | h0
  · subst h0
    go_enter Try.func47, Try.ntmps47
    go_wp2_with fail
    go_ret
    exact ⟨rfl, rfl⟩
  · obtain ⟨c, rfl⟩ : ∃ j, cut = j + 1 := ⟨cut - 1, by omega⟩
    have hz : N / 2 ^ c % 2 = 0 ∨ N / 2 ^ c % 2 = 1 := by omega
    rcases hz with hz | hz
    · have hR : besideN N (c + 1) = -1 := by unfold besideN; rw [if_pos (.inr hz)]
      rw [hR]
      have Hz := Lib.hid hz; clear hz hR
      go_enter Try.func47, Try.ntmps47
      go_wp2_with (go_at_call 44; refine (bit_is W N c 0 _ (by omega) hw Hz.out).mono ?_; rintro e w' ⟨rfl, rfl⟩)
      go_ret
      exact ⟨rfl, rfl⟩
    · have hR : besideN N (c + 1) = if N % 2 ^ c = 0 then 0 else 1 := by
        unfold besideN; rw [Nat.add_sub_cancel, if_neg (by omega)]
      obtain ⟨z, hzz⟩ : ∃ z, besideN N (c + 1) = z := ⟨_, rfl⟩
      rw [hzz]
      rw [hzz] at hR
      have HR := Lib.hid hR
      have Hz := Lib.hid hz; clear hz hR hzz
      go_enter Try.func47, Try.ntmps47
      go_wp2_with (go_at_call 44; refine (bit_is W N c 1 _ (by omega) hw Hz.out).mono ?_; rintro e w' ⟨rfl, rfl⟩)
      go_loop [5, 17] (fun u i => ∃ k : Nat, k ≤ c ∧ i = .int .i64 k ∧ Hid (N % 2 ^ k = 0)) (fun u i => c - (intOf i).toNat)
      case atStart => exact ⟨0, by omega, rfl, by show N % 2 ^ 0 = 0; simp [Nat.mod_one]⟩
      case round =>
        obtain ⟨k, hk, rfl, hN⟩ := hrel
        by_cases hlt : k < c
        · have hz : N / 2 ^ k % 2 = 0 ∨ N / 2 ^ k % 2 = 1 := by omega
          rcases hz with hz | hz
          · have Hk := Lib.hid hz; clear hz
            go_wp2_with (go_at_call 44; refine (bit_is W N k 0 _ (by omega) hw Hk.out).mono ?_; rintro e w' ⟨rfl, rfl⟩)
            go_round
            case rel => exact ⟨k + 1, by omega, by go_num, mod_step hN.out Hk.out⟩
            case measure => simp [intOf]; omega
          · have Hk := Lib.hid hz; clear hz
            go_wp2_with (go_at_call 44; refine (bit_is W N k 1 _ (by omega) hw Hk.out).mono ?_; rintro e w' ⟨rfl, rfl⟩)
            go_ret
            exact ⟨ret_i64 (by rw [HR.out, if_neg (mod_stop Hk.out hlt)]), rfl⟩
        · have hkc : N % 2 ^ c = 0 := by
            have : k = c := by omega
            rw [← this]; exact hN.out
          have Hk := Lib.hid hkc; clear hkc
          go_wp2_with fail
          go_ret
          exact ⟨ret_i64 (by rw [HR.out, if_pos Hk.out]), rfl⟩
end Go.Proofs.Ytdfbmfmfhdifpaa
