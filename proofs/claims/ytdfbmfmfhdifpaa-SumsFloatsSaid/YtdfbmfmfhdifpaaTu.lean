/- The program's whole number: turn, add. -/
import Derived.Test.YtdfbmfmfhdifpaaWh
namespace Go.Proofs.Ytdfbmfmfhdifpaa
open Go.RowKit

/-- Of what there was, block W alone may have changed. -/
structure Chg (W : Nat) (w w' : World) : Prop where
  os : w'.os = w.os
  tape : w'.tape = w.tape
  output : w'.output = w.output
  size : w.heap.size ≤ w'.heap.size
  block : ∀ k, k < w.heap.size → k ≠ W → w'.heap[k]? = w.heap[k]?
theorem Chg.refl (W : Nat) (w : World) : Chg W w w := ⟨rfl, rfl, rfl, Nat.le_refl _, fun _ _ _ => rfl⟩
theorem Chg.trans {W : Nat} {a b c : World} (h : Chg W a b) (k : Chg W b c) : Chg W a c :=
  ⟨k.os.trans h.os, k.tape.trans h.tape, k.output.trans h.output, Nat.le_trans h.size k.size, fun i hi hw => (k.block i (Nat.lt_of_lt_of_le hi h.size) hw).trans (h.block i hi hw)⟩
theorem Chg.drewN {W : Nat} {a b : World} (h : Chg W a b) (n : Nat) : Chg W a (b.drewN n) := ⟨h.os, h.tape, h.output, h.size, h.block⟩
theorem Chg.drew {W : Nat} {a b : World} (h : Chg W a b) : Chg W a b.drew := ⟨h.os, h.tape, h.output, h.size, h.block⟩
theorem Chg.setCell {W : Nat} {a b : World} (h : Chg W a b) (i : Nat) (v : Value) : Chg W a (b.setCell ⟨W, i, none⟩ v) :=
  h.trans ⟨rfl, rfl, rfl, by simp [World.setCell], fun k _ hk => Below.heap_setCell _ _ _ _ hk⟩
theorem Chg.alloc {W : Nat} {a b : World} (h : Chg W a b) (o : Obj) : Chg W a (b.alloc o) :=
  h.trans ⟨rfl, rfl, rfl, by simp, fun k hk _ => Below.heap_alloc _ _ _ hk⟩
theorem Chg.below {W B : Nat} {a b : World} (h : Chg W a b) (hB : B ≤ W) (hs : B ≤ a.heap.size) : Below B a b :=
  ⟨h.os, h.tape, h.output, h.size, fun k hk => h.block k (by omega) (by omega)⟩

/-- Digits of N' up to place i, those of N from there. -/
def mix (N' N i : Nat) : Nat → Nat := fun j => if j < i then dig N' j else dig N j
theorem mix_at (N' N i : Nat) : mix N' N i i = dig N i := by unfold mix; rw [if_neg (by omega)]
theorem mix_zero (N' N : Nat) : mix N' N 0 = dig N := by funext j; unfold mix; rw [if_neg (by omega)]
theorem mix_next {w : World} {W N' N i v : Nat} (h : Wh w W (mix N' N i)) (hi : i < 70) (hv : v = dig N' i) : Wh (w.setCell ⟨W, i, none⟩ (.int .u32 v)) W (mix N' N (i + 1)) :=
  (h.set i v hi).congr fun j _ => by
    unfold mix
    by_cases e : j = i
    · subst e; rw [if_pos rfl, if_pos (by omega), hv]
    · rw [if_neg e]
      by_cases l : j < i
      · rw [if_pos l, if_pos (by omega)]
      · rw [if_neg l, if_neg (by omega)]
theorem mix_end {w : World} {W N' N : Nat} (h : Wh w W (mix N' N 70)) : Wh w W (dig N') := h.congr fun j hj => by unfold mix; rw [if_pos hj]

/-- M - N, at 2^2240. -/
def turnN (N : Nat) : Nat := (0 + M70 - N) % M70
def turnC (N i : Nat) : Nat := 1 - borS 0 N i
theorem dig_zero (i : Nat) : dig 0 i = 0 := by unfold dig; simp
theorem turn_dig {N i : Nat} (hN : N < M70) (hi : i < 70) : dig (turnN N) i = (turnC N i + (4294967295 - dig N i)) % 4294967296 := by
  have h := dig_sub 0 N i (by omega) hi
  unfold turnN turnC
  rw [dig_zero] at h
  have hb := borS_le 0 N i
  have hd := dig_lt N i
  generalize borS 0 N i = b at *
  generalize dig N i = d at *
  generalize dig ((0 + M70 - N) % M70) i = z at *
  omega
theorem turn_car {N i : Nat} : turnC N (i + 1) = (turnC N i + (4294967295 - dig N i)) / 4294967296 := by
  unfold turnC
  rw [borS_succ, dig_zero]
  have hb := borS_le 0 N i
  have hd := dig_lt N i
  generalize borS 0 N i = b at *
  generalize dig N i = d at *
  by_cases h : 0 < d + b
  · rw [if_pos h]; omega
  · rw [if_neg h]; omega
theorem turn_zero (N : Nat) : turnC N 0 = 1 := by unfold turnC; rw [borS_zero]
theorem turnC_le (N i : Nat) : turnC N i ≤ 1 := by unfold turnC; omega

theorem val_u64 {a b : Int} (h : a = b) : Value.int .u64 a = .int .u64 b := by rw [h]
theorem val_u32 {a b : Int} (h : a = b) : Value.int .u32 a = .int .u32 b := by rw [h]
theorem not_word (d : Nat) (h : d < 4294967296) : bits .xor .u32 (if IntKind.u32.signed = true then -1 else IntKind.u32.max) (d : Int) = ((4294967295 - d : Nat) : Int) := by
  have e : (if IntKind.u32.signed = true then -1 else IntKind.u32.max) = ((4294967295 : Nat) : Int) := by decide
  rw [e, u32_xor_nat 4294967295 d (by decide) h]
  congr 1
  apply Nat.eq_of_testBit_eq
  intro i
  have h1 := Nat.testBit_two_pow_sub_succ (n := 32) (x := d) h i
  rw [show 2 ^ 32 - (d + 1) = 4294967295 - d from by omega] at h1
  rw [h1, Nat.testBit_xor, show (4294967295 : Nat) = 2 ^ 32 - 1 from rfl, Nat.testBit_two_pow_sub_one]
  by_cases hi : i < 32
  · simp [hi]
  · have : d < 2 ^ i := Nat.lt_of_lt_of_le h (Nat.pow_le_pow_right (n := 2) (by decide) (by omega : 32 ≤ i))
    simp [hi, Nat.testBit_lt_two_pow this]
theorem turn_word (d c : Nat) (h : d < 4294967296) (hc : c ≤ 1) :
    IntKind.u64.wrap ((c : Int) + IntKind.u64.wrap (bits .xor .u32 (if IntKind.u32.signed = true then -1 else IntKind.u32.max) (d : Int))) = ((c + (4294967295 - d) : Nat) : Int) := by
  rw [not_word d h, IntKind.wrap_u64, IntKind.wrap_u64]
  omega

set_option maxHeartbeats 400000 in
theorem turn_any (W N : Nat) (w : World) (hN : N < M70) (hw : Wh w W (dig N)) :
    Calls Try.prog 46 #[.pointer (some ⟨W, 0, none⟩)] w fun e w' => e = .returned (.tuple #[]) ∧ Wh w' W (dig (turnN N)) ∧ Chg W w w' := by
  go_enter Try.func46, Try.ntmps46
  go_wp2_with fail
  go_loopw [2, 3, 4] (fun c u i wr => ∃ k : Nat, k ≤ 70 ∧ i = .int .i64 k ∧ c = .int .u64 (turnC N k) ∧ Wh wr W (mix (turnN N) N k) ∧ Chg W w wr) (fun c u i wr => 70 - (intOf i).toNat)
  case atStart => exact ⟨0, by omega, rfl, by rw [turn_zero]; rfl, by rw [mix_zero]; exact hw, Chg.refl _ _⟩
  case round =>
    obtain ⟨k, hk, rfl, rfl, hwr, hch⟩ := hrel
    by_cases hlt : k < 70
    · have hlt' : (k : Int) < 70 := by omega
      have hc := hwr.cell k hlt
      have hf := hwr.free k hlt
      rw [mix_at] at hc
      have hd := dig_lt N k
      have hc1 := turnC_le N k
      generalize hdd : dig N k = d at *
      generalize hcc : turnC N k = c at *
      have Hd := Lib.hid hdd
      have Hc := Lib.hid hcc
      clear hdd hcc
      go_wp2_with fail
      go_roundw
      case rel =>
        refine ⟨k + 1, by omega, by go_num, ?_, ?_, hch.setCell _ _⟩
        · rw [turn_word d c hd hc1, turn_car, Hd.out, Hc.out]; exact val_u64 (by omega)
        · rw [turn_word d c hd hc1]
          have hv := turn_dig hN hlt
          rw [Hd.out, Hc.out] at hv
          have := mix_next hwr hlt hv.symm
          rw [show (((c + (4294967295 - d) : Nat) : Int) % 4294967296) = (((c + (4294967295 - d)) % 4294967296 : Nat) : Int) from by omega]
          exact this
      case measure => simp [intOf]; omega
    · obtain rfl : k = 70 := by omega
      go_wp2_with fail
      go_end0
      exact ⟨rfl, mix_end hwr, hch⟩
end Go.Proofs.Ytdfbmfmfhdifpaa
