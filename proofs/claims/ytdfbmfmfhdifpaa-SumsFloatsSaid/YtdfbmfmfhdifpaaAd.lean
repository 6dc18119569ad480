/- The program's whole number: add. -/
import Derived.Test.YtdfbmfmfhdifpaaTu
import Derived.Deep.QuietTactic
import Derived.BigQuiet
import Derived.RegionTactic
import Derived.BigRegion
namespace Go.Proofs.Ytdfbmfmfhdifpaa
open Go.RowKit

/-- A finite float's value without its sign: m x 2^q times the least place. -/
def fM (b : Nat) : Nat := if b / 4503599627370496 % 2048 = 0 then b % 4503599627370496 else b % 4503599627370496 + 4503599627370496
def fQ (b : Nat) : Nat := b / 4503599627370496 % 2048 - 1
def mag (b : Nat) : Nat := fM b * 2 ^ fQ b
theorem fM_lt (b : Nat) : fM b < 9007199254740992 := by unfold fM; split <;> omega
theorem fQ_lt (b : Nat) : fQ b < 2047 := by unfold fQ; omega

def addN (N b : Nat) : Nat := if b ≥ 9223372036854775808 then (N + M70 - mag b) % M70 else (N + mag b) % M70

theorem and_frac (b : Nat) (h : b < 18446744073709551616) : bits .and .u64 (b : Int) 4503599627370495 = ((b % 4503599627370496 : Nat) : Int) := by
  rw [show (4503599627370495 : Int) = ((4503599627370495 : Nat) : Int) from rfl, u64_and_nat b _ h (by decide), show (4503599627370495 : Nat) = 2 ^ 52 - 1 from rfl, Nat.and_two_pow_sub_one_eq_mod]
theorem and_expo (b : Nat) (h : b < 18446744073709551616) : bits .and .u64 ((b : Int) / 4503599627370496) 2047 = ((b / 4503599627370496 % 2048 : Nat) : Int) := by
  rw [show (b : Int) / 4503599627370496 = ((b / 4503599627370496 : Nat) : Int) from rfl, show (2047 : Int) = ((2047 : Nat) : Int) from rfl, u64_and_nat _ _ (by omega) (by decide), show (2047 : Nat) = 2 ^ 11 - 1 from rfl,
    Nat.and_two_pow_sub_one_eq_mod]
theorem or_lead (f : Nat) (h : f < 4503599627370496) : bits .or .u64 (f : Int) 4503599627370496 = ((f + 4503599627370496 : Nat) : Int) := by
  rw [show (4503599627370496 : Int) = ((4503599627370496 : Nat) : Int) from rfl, u64_or_nat f _ (by omega) (by decide)]
  congr 1
  have := Nat.two_pow_add_eq_or_of_lt (show f < 2 ^ 52 from h) 1
  rw [Nat.mul_one] at this
  rw [Nat.or_comm, show (4503599627370496 : Nat) = 2 ^ 52 from rfl, ← this, Nat.add_comm]

/-- The block of three words. -/
structure Par (w : World) (PB : Nat) (pf : Nat → Nat) : Prop where
  cell : ∀ t, t < 3 → w.cell? ⟨PB, t, none⟩ = some (.int .u32 (pf t))
theorem Par.set {w : World} {PB W : Nat} {pf : Nat → Nat} (h : Par w PB pf) (hne : ¬ W = PB) (i : Nat) (v : Value) : Par (w.setCell ⟨W, i, none⟩ v) PB pf :=
  ⟨fun t ht => by rw [← h.cell t ht]; exact World.cell?_setCell_other _ _ _ _ (by intro e; injection e with e _ _; exact hne e)⟩
theorem par_new {w : World} {PB : Nat} {pf : Nat → Nat} (h : w.heap.size = PB) : Par (w.alloc (.cells #[.int .u32 (pf 0), .int .u32 (pf 1), .int .u32 (pf 2)] 61)) PB pf := by
  subst h
  refine ⟨fun t ht => ?_⟩
  rw [cell_of_row _ _ t _ _ _ (heap_alloc_new w _)]
  match t, ht with
  | 0, _ => rfl
  | 1, _ => rfl
  | 2, _ => rfl
theorem mix_start {N' N i0 : Nat} (h : ∀ j, j < i0 → dig N' j = dig N j) (j : Nat) : dig N j = mix N' N i0 j := by
  unfold mix
  by_cases l : j < i0
  · rw [if_pos l, h j l]
  · rw [if_neg l]

set_option maxHeartbeats 2000000 in
theorem add_pos0 (W N N' b m f q s i0 lo hh : Nat) (pf car : Nat → Nat) (w : World) (hw : Wh w W (dig N)) (hcn : Hid (cn b = b)) (hq1 : q < 2047) (hf : f < 4503599627370496)
    (hd : decide (0 < q) = false) (h2 : bits .and .u64 ((b : Int) / 4503599627370496) 2047 = (q : Int)) (h1 : bits .and .u64 (b : Int) 4503599627370495 = (m : Int))
    (hm : m < 9007199254740992) (hs : (q : Int) % 32 = (s : Int)) (hs1 : s < 32) (hi : (q : Int) / 32 = (i0 : Int)) (hi0 : i0 < 64)
    (hsg : ((b : Int) / 9223372036854775808 == 1) = false)
    (hL : IntKind.u64.wrap ((m : Int) * 2 ^ s) = (lo : Int)) (hH : (m : Int) / 2 ^ (64 - s) = (hh : Int))
    (hp0 : (lo : Int) % 4294967296 = (pf 0 : Int)) (hp1 : (lo : Int) / 4294967296 % 4294967296 = (pf 1 : Int)) (hp2 : (hh : Int) % 4294967296 = (pf 2 : Int))
    (hpl : Hid (∀ t, pf t < 4294967296)) (hcar0 : Hid (car i0 = 0)) (hcl : Hid (∀ i, car i ≤ 1))
    (hstep : Hid (∀ i, i0 ≤ i → i < 70 → dig N' i = (car i + (if i - i0 < 3 then pf (i - i0) else 0) + dig N i) % 4294967296 ∧ car (i + 1) = (car i + (if i - i0 < 3 then pf (i - i0) else 0) + dig N i) / 4294967296))
    (hlow : Hid (∀ j, j < i0 → dig N' j = dig N j)) :
    Calls Try.prog 25 #[.pointer (some ⟨W, 0, none⟩), .float .f64 b] w fun e w' => e = .returned (.tuple #[]) ∧ Wh w' W (dig N') ∧ Chg W w w' := by
  have hs2 : (s : Int) < 32 := by omega
  go_enter Try.func25, Try.ntmps25
  go_wp2_with (go_at_call 43; refine (bits_own _ _).mono ?_; rintro e w' ⟨rfl, rfl⟩; rw [hcn.out])
  go_quiet (fail)
  have hw1 : Wh (w.drewN nq) W (dig N) := hw.of_block rfl
  have hc1 : Chg W w (w.drewN nq) := (Chg.refl W w).drewN nq
  have hlt := hw1.lt
  generalize w.drewN nq = w1 at *
  clear hw
  go_wp2
  obtain ⟨PB, hPB⟩ : ∃ PB, w1.heap.size = PB := ⟨_, rfl⟩
  have hPW : ¬ W = PB := by omega
  have hw2 : Wh (w1.alloc (.cells #[.int .u32 (pf 0), .int .u32 (pf 1), .int .u32 (pf 2)] 61)) W (dig N) := hw1.of_block (Below.heap_alloc _ _ _ hlt)
  have hc2 : Chg W w (w1.alloc (.cells #[.int .u32 (pf 0), .int .u32 (pf 1), .int .u32 (pf 2)] 61)) := hc1.alloc _
  have hpc : Par (w1.alloc (.cells #[.int .u32 (pf 0), .int .u32 (pf 1), .int .u32 (pf 2)] 61)) PB pf := par_new hPB
  rw [hPB]
  clear hw1 hc1 hlt hPB
  generalize w1.alloc (.cells #[.int .u32 (pf 0), .int .u32 (pf 1), .int .u32 (pf 2)] 61) = w2 at *
  simp only [hs, hp0, hp1, hp2]
  clear hs hp0 hp1 hp2 hL hH h1 h2
  go_loopw [11, 12, 13, 14] (fun c i x t wr => ∃ k : Nat, i0 ≤ k ∧ k ≤ 70 ∧ i = .int .i64 k ∧ c = .int .u64 (car k) ∧ Wh wr W (mix N' N k) ∧ Chg W w wr ∧ Par wr PB pf) (fun c i x t _ => 70 - (intOf i).toNat)
  case atStart => exact ⟨i0, by omega, by omega, rfl, by rw [hcar0.out]; rfl, hw2.congr fun j hj => mix_start hlow.out j, hc2, hpc⟩
  case round =>
    obtain ⟨k, hk0, hk, rfl, rfl, hwr, hch, hpr⟩ := hrel
    clear hw2 hc2 hpc
    by_cases hlt : k < 70
    · have hc := hwr.cell k hlt
      have hf := hwr.free k hlt
      rw [mix_at] at hc
      have hd := dig_lt N k
      have hc1 := hcl.out k
      have hst := hstep.out k hk0 hlt
      obtain ⟨t, ht⟩ : ∃ t, k - i0 = t := ⟨_, rfl⟩
      have hkt : (k : Int) - (i0 : Int) = (t : Int) := by omega
      rw [ht] at hst
      clear ht
      have hlt' : (k : Int) < 70 := by omega
      have hd3 : (0 : Int) ≤ (dig N k : Int) := by omega
      generalize hdd : dig N k = d at *
      generalize hcc : car k = c at *
      clear hdd hcc
      by_cases ht3 : t < 3
      · have hpt := hpr.cell t ht3
        have hpb := hpl.out t
        rw [if_pos ht3] at hst
        have ht3' : (t : Int) < 3 := by omega
        generalize pf t = p at *
        have Hst := Lib.hid hst
        clear hst
        go_wp2
        go_roundw
        case rel =>
          refine ⟨k + 1, by omega, by omega, by go_num, ?_, ?_, hch.setCell _ _, hpr.set hPW _ _⟩
          · rw [Hst.out.2]; exact val_u64 (by omega)
          · rw [show (((c : Int) + (p : Int) + (d : Int) : Int) % 4294967296) = (((c + p + d) % 4294967296 : Nat) : Int) from by omega]
            exact mix_next hwr hlt Hst.out.1.symm
        case measure => simp [intOf]; omega
      · rw [if_neg ht3, Nat.add_zero] at hst
        have ht3' : ¬ (t : Int) < 3 := by omega
        have Hst := Lib.hid hst
        clear hst
        go_wp2
        go_roundw
        case rel =>
          refine ⟨k + 1, by omega, by omega, by go_num, ?_, ?_, hch.setCell _ _, hpr.set hPW _ _⟩
          · rw [Hst.out.2]; exact val_u64 (by omega)
          · rw [show (((c : Int) + (d : Int) : Int) % 4294967296) = (((c + d) % 4294967296 : Nat) : Int) from by omega]
            exact mix_next hwr hlt Hst.out.1.symm
        case measure => simp [intOf]; omega
    · obtain rfl : k = 70 := by omega
      go_wp2_with fail
      go_end0
      exact ⟨rfl, mix_end hwr, hch⟩

set_option maxHeartbeats 2000000 in
theorem add_pos1 (W N N' b m f q s i0 lo hh : Nat) (pf car : Nat → Nat) (w : World) (hw : Wh w W (dig N)) (hcn : Hid (cn b = b)) (hq1 : q < 2047) (hf : f < 4503599627370496)
    (h2 : bits .and .u64 ((b : Int) / 4503599627370496) 2047 = ((q + 1 : Nat) : Int)) (h1 : bits .and .u64 (b : Int) 4503599627370495 = (f : Int)) (h3 : bits .or .u64 (f : Int) 4503599627370496 = (m : Int))
    (hm : m < 9007199254740992) (hs : (q : Int) % 32 = (s : Int)) (hs1 : s < 32) (hi : (q : Int) / 32 = (i0 : Int)) (hi0 : i0 < 64)
    (hsg : ((b : Int) / 9223372036854775808 == 1) = false)
    (hL : IntKind.u64.wrap ((m : Int) * 2 ^ s) = (lo : Int)) (hH : (m : Int) / 2 ^ (64 - s) = (hh : Int))
    (hp0 : (lo : Int) % 4294967296 = (pf 0 : Int)) (hp1 : (lo : Int) / 4294967296 % 4294967296 = (pf 1 : Int)) (hp2 : (hh : Int) % 4294967296 = (pf 2 : Int))
    (hpl : Hid (∀ t, pf t < 4294967296)) (hcar0 : Hid (car i0 = 0)) (hcl : Hid (∀ i, car i ≤ 1))
    (hstep : Hid (∀ i, i0 ≤ i → i < 70 → dig N' i = (car i + (if i - i0 < 3 then pf (i - i0) else 0) + dig N i) % 4294967296 ∧ car (i + 1) = (car i + (if i - i0 < 3 then pf (i - i0) else 0) + dig N i) / 4294967296))
    (hlow : Hid (∀ j, j < i0 → dig N' j = dig N j)) :
    Calls Try.prog 25 #[.pointer (some ⟨W, 0, none⟩), .float .f64 b] w fun e w' => e = .returned (.tuple #[]) ∧ Wh w' W (dig N') ∧ Chg W w w' := by
  have hs2 : (s : Int) < 32 := by omega
  go_enter Try.func25, Try.ntmps25
  go_wp2_with (go_at_call 43; refine (bits_own _ _).mono ?_; rintro e w' ⟨rfl, rfl⟩; rw [hcn.out])
  go_quiet (fail)
  have hw1 : Wh (w.drewN nq) W (dig N) := hw.of_block rfl
  have hc1 : Chg W w (w.drewN nq) := (Chg.refl W w).drewN nq
  have hlt := hw1.lt
  generalize w.drewN nq = w1 at *
  clear hw
  go_wp2
  obtain ⟨PB, hPB⟩ : ∃ PB, w1.heap.size = PB := ⟨_, rfl⟩
  have hPW : ¬ W = PB := by omega
  have hw2 : Wh (w1.alloc (.cells #[.int .u32 (pf 0), .int .u32 (pf 1), .int .u32 (pf 2)] 61)) W (dig N) := hw1.of_block (Below.heap_alloc _ _ _ hlt)
  have hc2 : Chg W w (w1.alloc (.cells #[.int .u32 (pf 0), .int .u32 (pf 1), .int .u32 (pf 2)] 61)) := hc1.alloc _
  have hpc : Par (w1.alloc (.cells #[.int .u32 (pf 0), .int .u32 (pf 1), .int .u32 (pf 2)] 61)) PB pf := par_new hPB
  rw [hPB]
  clear hw1 hc1 hlt hPB
  generalize w1.alloc (.cells #[.int .u32 (pf 0), .int .u32 (pf 1), .int .u32 (pf 2)] 61) = w2 at *
  simp only [hs, hp0, hp1, hp2]
  clear hs hp0 hp1 hp2 hL hH h1 h2
  go_loopw [11, 12, 13, 14] (fun c i x t wr => ∃ k : Nat, i0 ≤ k ∧ k ≤ 70 ∧ i = .int .i64 k ∧ c = .int .u64 (car k) ∧ Wh wr W (mix N' N k) ∧ Chg W w wr ∧ Par wr PB pf) (fun c i x t _ => 70 - (intOf i).toNat)
  case atStart => exact ⟨i0, by omega, by omega, rfl, by rw [hcar0.out]; rfl, hw2.congr fun j hj => mix_start hlow.out j, hc2, hpc⟩
  case round =>
    obtain ⟨k, hk0, hk, rfl, rfl, hwr, hch, hpr⟩ := hrel
    clear hw2 hc2 hpc
    by_cases hlt : k < 70
    · have hc := hwr.cell k hlt
      have hf := hwr.free k hlt
      rw [mix_at] at hc
      have hd := dig_lt N k
      have hc1 := hcl.out k
      have hst := hstep.out k hk0 hlt
      obtain ⟨t, ht⟩ : ∃ t, k - i0 = t := ⟨_, rfl⟩
      have hkt : (k : Int) - (i0 : Int) = (t : Int) := by omega
      rw [ht] at hst
      clear ht
      have hlt' : (k : Int) < 70 := by omega
      have hd3 : (0 : Int) ≤ (dig N k : Int) := by omega
      generalize hdd : dig N k = d at *
      generalize hcc : car k = c at *
      clear hdd hcc
      by_cases ht3 : t < 3
      · have hpt := hpr.cell t ht3
        have hpb := hpl.out t
        rw [if_pos ht3] at hst
        have ht3' : (t : Int) < 3 := by omega
        generalize pf t = p at *
        have Hst := Lib.hid hst
        clear hst
        go_wp2
        go_roundw
        case rel =>
          refine ⟨k + 1, by omega, by omega, by go_num, ?_, ?_, hch.setCell _ _, hpr.set hPW _ _⟩
          · rw [Hst.out.2]; exact val_u64 (by omega)
          · rw [show (((c : Int) + (p : Int) + (d : Int) : Int) % 4294967296) = (((c + p + d) % 4294967296 : Nat) : Int) from by omega]
            exact mix_next hwr hlt Hst.out.1.symm
        case measure => simp [intOf]; omega
      · rw [if_neg ht3, Nat.add_zero] at hst
        have ht3' : ¬ (t : Int) < 3 := by omega
        have Hst := Lib.hid hst
        clear hst
        go_wp2
        go_roundw
        case rel =>
          refine ⟨k + 1, by omega, by omega, by go_num, ?_, ?_, hch.setCell _ _, hpr.set hPW _ _⟩
          · rw [Hst.out.2]; exact val_u64 (by omega)
          · rw [show (((c : Int) + (d : Int) : Int) % 4294967296) = (((c + d) % 4294967296 : Nat) : Int) from by omega]
            exact mix_next hwr hlt Hst.out.1.symm
        case measure => simp [intOf]; omega
    · obtain rfl : k = 70 := by omega
      go_wp2_with fail
      go_end0
      exact ⟨rfl, mix_end hwr, hch⟩

set_option maxHeartbeats 2000000 in
theorem add_neg0 (W N N' b m f q s i0 lo hh : Nat) (pf car : Nat → Nat) (w : World) (hw : Wh w W (dig N)) (hcn : Hid (cn b = b)) (hq1 : q < 2047) (hf : f < 4503599627370496)
    (hd : decide (0 < q) = false) (h2 : bits .and .u64 ((b : Int) / 4503599627370496) 2047 = (q : Int)) (h1 : bits .and .u64 (b : Int) 4503599627370495 = (m : Int))
    (hm : m < 9007199254740992) (hs : (q : Int) % 32 = (s : Int)) (hs1 : s < 32) (hi : (q : Int) / 32 = (i0 : Int)) (hi0 : i0 < 64)
    (hsg : ((b : Int) / 9223372036854775808 == 1) = true)
    (hL : IntKind.u64.wrap ((m : Int) * 2 ^ s) = (lo : Int)) (hH : (m : Int) / 2 ^ (64 - s) = (hh : Int))
    (hp0 : (lo : Int) % 4294967296 = (pf 0 : Int)) (hp1 : (lo : Int) / 4294967296 % 4294967296 = (pf 1 : Int)) (hp2 : (hh : Int) % 4294967296 = (pf 2 : Int))
    (hpl : Hid (∀ t, pf t < 4294967296)) (hcar0 : Hid (car i0 = 0)) (hcl : Hid (∀ i, car i ≤ 1))
    (hstep : Hid (∀ i, i0 ≤ i → i < 70 → (dig N' i : Int) = ((dig N i : Int) - (car i + (if i - i0 < 3 then pf (i - i0) else 0) : Nat)) % 4294967296 ∧ car (i + 1) = if dig N i < car i + (if i - i0 < 3 then pf (i - i0) else 0) then 1 else 0))
    (hlow : Hid (∀ j, j < i0 → dig N' j = dig N j)) :
    Calls Try.prog 25 #[.pointer (some ⟨W, 0, none⟩), .float .f64 b] w fun e w' => e = .returned (.tuple #[]) ∧ Wh w' W (dig N') ∧ Chg W w w' := by
  have hs2 : (s : Int) < 32 := by omega
  go_enter Try.func25, Try.ntmps25
  go_wp2_with (go_at_call 43; refine (bits_own _ _).mono ?_; rintro e w' ⟨rfl, rfl⟩; rw [hcn.out])
  go_quiet (fail)
  have hw1 : Wh (w.drewN nq) W (dig N) := hw.of_block rfl
  have hc1 : Chg W w (w.drewN nq) := (Chg.refl W w).drewN nq
  have hlt := hw1.lt
  generalize w.drewN nq = w1 at *
  clear hw
  go_wp2
  obtain ⟨PB, hPB⟩ : ∃ PB, w1.heap.size = PB := ⟨_, rfl⟩
  have hPW : ¬ W = PB := by omega
  have hw2 : Wh (w1.alloc (.cells #[.int .u32 (pf 0), .int .u32 (pf 1), .int .u32 (pf 2)] 61)) W (dig N) := hw1.of_block (Below.heap_alloc _ _ _ hlt)
  have hc2 : Chg W w (w1.alloc (.cells #[.int .u32 (pf 0), .int .u32 (pf 1), .int .u32 (pf 2)] 61)) := hc1.alloc _
  have hpc : Par (w1.alloc (.cells #[.int .u32 (pf 0), .int .u32 (pf 1), .int .u32 (pf 2)] 61)) PB pf := par_new hPB
  rw [hPB]
  clear hw1 hc1 hlt hPB
  generalize w1.alloc (.cells #[.int .u32 (pf 0), .int .u32 (pf 1), .int .u32 (pf 2)] 61) = w2 at *
  simp only [hs, hp0, hp1, hp2]
  clear hs hp0 hp1 hp2 hL hH h1 h2
  go_loopw [11, 12, 13, 14] (fun c i x t wr => ∃ k : Nat, i0 ≤ k ∧ k ≤ 70 ∧ i = .int .i64 k ∧ c = .int .u64 (car k) ∧ Wh wr W (mix N' N k) ∧ Chg W w wr ∧ Par wr PB pf) (fun c i x t _ => 70 - (intOf i).toNat)
  case atStart => exact ⟨i0, by omega, by omega, rfl, by rw [hcar0.out]; rfl, hw2.congr fun j hj => mix_start hlow.out j, hc2, hpc⟩
  case round =>
    obtain ⟨k, hk0, hk, rfl, rfl, hwr, hch, hpr⟩ := hrel
    clear hw2 hc2 hpc
    by_cases hlt : k < 70
    · have hc := hwr.cell k hlt
      have hf := hwr.free k hlt
      rw [mix_at] at hc
      have hd := dig_lt N k
      have hc1 := hcl.out k
      have hst := hstep.out k hk0 hlt
      obtain ⟨t, ht⟩ : ∃ t, k - i0 = t := ⟨_, rfl⟩
      have hkt : (k : Int) - (i0 : Int) = (t : Int) := by omega
      rw [ht] at hst
      clear ht
      have hlt' : (k : Int) < 70 := by omega
      have hd3 : (0 : Int) ≤ (dig N k : Int) := by omega
      generalize hdd : dig N k = d at *
      generalize hcc : car k = c at *
      clear hdd hcc
      by_cases ht3 : t < 3
      · have hpt := hpr.cell t ht3
        have hpb := hpl.out t
        rw [if_pos ht3] at hst
        have ht3' : (t : Int) < 3 := by omega
        generalize pf t = p at *
        have Hst := Lib.hid hst
        clear hst
        by_cases hlx : d < c + p
        · have hlx' : (d : Int) < (c : Int) + (p : Int) := by omega
          have hcar : car (k + 1) = 1 := by rw [Hst.out.2, if_pos hlx]
          have Hcar := Lib.hid hcar
          clear hcar
          go_wp2
          go_region
          go_wp2
          go_roundw
          case rel =>
            refine ⟨k + 1, by omega, by omega, by go_num, ?_, ?_, (hch.setCell _ _).drew, ⟨(hpr.set hPW _ _).cell⟩⟩
            · rw [Hcar.out]; rfl
            · have e : IntKind.u64.wrap ((d : Int) - ((c : Int) + (p : Int))) % 4294967296 = ((dig N' k : Nat) : Int) := by rw [IntKind.wrap_u64, Hst.out.1]; omega
              rw [e]; exact (mix_next hwr hlt rfl).of_block rfl
          case measure => simp [intOf]; omega
        · have hlx' : ¬ (d : Int) < (c : Int) + (p : Int) := by omega
          have hcar : car (k + 1) = 0 := by rw [Hst.out.2, if_neg hlx]
          have Hcar := Lib.hid hcar
          clear hcar
          go_wp2
          go_region
          go_wp2
          go_roundw
          case rel =>
            refine ⟨k + 1, by omega, by omega, by go_num, ?_, ?_, (hch.setCell _ _).drew, ⟨(hpr.set hPW _ _).cell⟩⟩
            · rw [Hcar.out]; rfl
            · have e : (d : Int) - ((c : Int) + (p : Int)) = ((dig N' k : Nat) : Int) := by rw [Hst.out.1]; omega
              rw [e]; exact (mix_next hwr hlt rfl).of_block rfl
          case measure => simp [intOf]; omega
      · rw [if_neg ht3, Nat.add_zero] at hst
        have ht3' : ¬ (t : Int) < 3 := by omega
        have Hst := Lib.hid hst
        clear hst
        by_cases hlx : d < c
        · have hlx' : (d : Int) < (c : Int) := by omega
          have hcar : car (k + 1) = 1 := by rw [Hst.out.2, if_pos hlx]
          have Hcar := Lib.hid hcar
          clear hcar
          go_wp2
          go_region
          go_wp2
          go_roundw
          case rel =>
            refine ⟨k + 1, by omega, by omega, by go_num, ?_, ?_, (hch.setCell _ _).drew, ⟨(hpr.set hPW _ _).cell⟩⟩
            · rw [Hcar.out]; rfl
            · have e : IntKind.u64.wrap ((d : Int) - ((c : Int))) % 4294967296 = ((dig N' k : Nat) : Int) := by rw [IntKind.wrap_u64, Hst.out.1]; omega
              rw [e]; exact (mix_next hwr hlt rfl).of_block rfl
          case measure => simp [intOf]; omega
        · have hlx' : ¬ (d : Int) < (c : Int) := by omega
          have hcar : car (k + 1) = 0 := by rw [Hst.out.2, if_neg hlx]
          have Hcar := Lib.hid hcar
          clear hcar
          go_wp2
          go_region
          go_wp2
          go_roundw
          case rel =>
            refine ⟨k + 1, by omega, by omega, by go_num, ?_, ?_, (hch.setCell _ _).drew, ⟨(hpr.set hPW _ _).cell⟩⟩
            · rw [Hcar.out]; rfl
            · have e : (d : Int) - ((c : Int)) = ((dig N' k : Nat) : Int) := by rw [Hst.out.1]; omega
              rw [e]; exact (mix_next hwr hlt rfl).of_block rfl
          case measure => simp [intOf]; omega
    · obtain rfl : k = 70 := by omega
      go_wp2_with fail
      go_end0
      exact ⟨rfl, mix_end hwr, hch⟩

set_option maxHeartbeats 2000000 in
theorem add_neg1 (W N N' b m f q s i0 lo hh : Nat) (pf car : Nat → Nat) (w : World) (hw : Wh w W (dig N)) (hcn : Hid (cn b = b)) (hq1 : q < 2047) (hf : f < 4503599627370496)
    (h2 : bits .and .u64 ((b : Int) / 4503599627370496) 2047 = ((q + 1 : Nat) : Int)) (h1 : bits .and .u64 (b : Int) 4503599627370495 = (f : Int)) (h3 : bits .or .u64 (f : Int) 4503599627370496 = (m : Int))
    (hm : m < 9007199254740992) (hs : (q : Int) % 32 = (s : Int)) (hs1 : s < 32) (hi : (q : Int) / 32 = (i0 : Int)) (hi0 : i0 < 64)
    (hsg : ((b : Int) / 9223372036854775808 == 1) = true)
    (hL : IntKind.u64.wrap ((m : Int) * 2 ^ s) = (lo : Int)) (hH : (m : Int) / 2 ^ (64 - s) = (hh : Int))
    (hp0 : (lo : Int) % 4294967296 = (pf 0 : Int)) (hp1 : (lo : Int) / 4294967296 % 4294967296 = (pf 1 : Int)) (hp2 : (hh : Int) % 4294967296 = (pf 2 : Int))
    (hpl : Hid (∀ t, pf t < 4294967296)) (hcar0 : Hid (car i0 = 0)) (hcl : Hid (∀ i, car i ≤ 1))
    (hstep : Hid (∀ i, i0 ≤ i → i < 70 → (dig N' i : Int) = ((dig N i : Int) - (car i + (if i - i0 < 3 then pf (i - i0) else 0) : Nat)) % 4294967296 ∧ car (i + 1) = if dig N i < car i + (if i - i0 < 3 then pf (i - i0) else 0) then 1 else 0))
    (hlow : Hid (∀ j, j < i0 → dig N' j = dig N j)) :
    Calls Try.prog 25 #[.pointer (some ⟨W, 0, none⟩), .float .f64 b] w fun e w' => e = .returned (.tuple #[]) ∧ Wh w' W (dig N') ∧ Chg W w w' := by
  have hs2 : (s : Int) < 32 := by omega
  go_enter Try.func25, Try.ntmps25
  go_wp2_with (go_at_call 43; refine (bits_own _ _).mono ?_; rintro e w' ⟨rfl, rfl⟩; rw [hcn.out])
  go_quiet (fail)
  have hw1 : Wh (w.drewN nq) W (dig N) := hw.of_block rfl
  have hc1 : Chg W w (w.drewN nq) := (Chg.refl W w).drewN nq
  have hlt := hw1.lt
  generalize w.drewN nq = w1 at *
  clear hw
  go_wp2
  obtain ⟨PB, hPB⟩ : ∃ PB, w1.heap.size = PB := ⟨_, rfl⟩
  have hPW : ¬ W = PB := by omega
  have hw2 : Wh (w1.alloc (.cells #[.int .u32 (pf 0), .int .u32 (pf 1), .int .u32 (pf 2)] 61)) W (dig N) := hw1.of_block (Below.heap_alloc _ _ _ hlt)
  have hc2 : Chg W w (w1.alloc (.cells #[.int .u32 (pf 0), .int .u32 (pf 1), .int .u32 (pf 2)] 61)) := hc1.alloc _
  have hpc : Par (w1.alloc (.cells #[.int .u32 (pf 0), .int .u32 (pf 1), .int .u32 (pf 2)] 61)) PB pf := par_new hPB
  rw [hPB]
  clear hw1 hc1 hlt hPB
  generalize w1.alloc (.cells #[.int .u32 (pf 0), .int .u32 (pf 1), .int .u32 (pf 2)] 61) = w2 at *
  simp only [hs, hp0, hp1, hp2]
  clear hs hp0 hp1 hp2 hL hH h1 h2
  go_loopw [11, 12, 13, 14] (fun c i x t wr => ∃ k : Nat, i0 ≤ k ∧ k ≤ 70 ∧ i = .int .i64 k ∧ c = .int .u64 (car k) ∧ Wh wr W (mix N' N k) ∧ Chg W w wr ∧ Par wr PB pf) (fun c i x t _ => 70 - (intOf i).toNat)
  case atStart => exact ⟨i0, by omega, by omega, rfl, by rw [hcar0.out]; rfl, hw2.congr fun j hj => mix_start hlow.out j, hc2, hpc⟩
  case round =>
    obtain ⟨k, hk0, hk, rfl, rfl, hwr, hch, hpr⟩ := hrel
    clear hw2 hc2 hpc
    by_cases hlt : k < 70
    · have hc := hwr.cell k hlt
      have hf := hwr.free k hlt
      rw [mix_at] at hc
      have hd := dig_lt N k
      have hc1 := hcl.out k
      have hst := hstep.out k hk0 hlt
      obtain ⟨t, ht⟩ : ∃ t, k - i0 = t := ⟨_, rfl⟩
      have hkt : (k : Int) - (i0 : Int) = (t : Int) := by omega
      rw [ht] at hst
      clear ht
      have hlt' : (k : Int) < 70 := by omega
      have hd3 : (0 : Int) ≤ (dig N k : Int) := by omega
      generalize hdd : dig N k = d at *
      generalize hcc : car k = c at *
      clear hdd hcc
      by_cases ht3 : t < 3
      · have hpt := hpr.cell t ht3
        have hpb := hpl.out t
        rw [if_pos ht3] at hst
        have ht3' : (t : Int) < 3 := by omega
        generalize pf t = p at *
        have Hst := Lib.hid hst
        clear hst
        by_cases hlx : d < c + p
        · have hlx' : (d : Int) < (c : Int) + (p : Int) := by omega
          have hcar : car (k + 1) = 1 := by rw [Hst.out.2, if_pos hlx]
          have Hcar := Lib.hid hcar
          clear hcar
          go_wp2
          go_region
          go_wp2
          go_roundw
          case rel =>
            refine ⟨k + 1, by omega, by omega, by go_num, ?_, ?_, (hch.setCell _ _).drew, ⟨(hpr.set hPW _ _).cell⟩⟩
            · rw [Hcar.out]; rfl
            · have e : IntKind.u64.wrap ((d : Int) - ((c : Int) + (p : Int))) % 4294967296 = ((dig N' k : Nat) : Int) := by rw [IntKind.wrap_u64, Hst.out.1]; omega
              rw [e]; exact (mix_next hwr hlt rfl).of_block rfl
          case measure => simp [intOf]; omega
        · have hlx' : ¬ (d : Int) < (c : Int) + (p : Int) := by omega
          have hcar : car (k + 1) = 0 := by rw [Hst.out.2, if_neg hlx]
          have Hcar := Lib.hid hcar
          clear hcar
          go_wp2
          go_region
          go_wp2
          go_roundw
          case rel =>
            refine ⟨k + 1, by omega, by omega, by go_num, ?_, ?_, (hch.setCell _ _).drew, ⟨(hpr.set hPW _ _).cell⟩⟩
            · rw [Hcar.out]; rfl
            · have e : (d : Int) - ((c : Int) + (p : Int)) = ((dig N' k : Nat) : Int) := by rw [Hst.out.1]; omega
              rw [e]; exact (mix_next hwr hlt rfl).of_block rfl
          case measure => simp [intOf]; omega
      · rw [if_neg ht3, Nat.add_zero] at hst
        have ht3' : ¬ (t : Int) < 3 := by omega
        have Hst := Lib.hid hst
        clear hst
        by_cases hlx : d < c
        · have hlx' : (d : Int) < (c : Int) := by omega
          have hcar : car (k + 1) = 1 := by rw [Hst.out.2, if_pos hlx]
          have Hcar := Lib.hid hcar
          clear hcar
          go_wp2
          go_region
          go_wp2
          go_roundw
          case rel =>
            refine ⟨k + 1, by omega, by omega, by go_num, ?_, ?_, (hch.setCell _ _).drew, ⟨(hpr.set hPW _ _).cell⟩⟩
            · rw [Hcar.out]; rfl
            · have e : IntKind.u64.wrap ((d : Int) - ((c : Int))) % 4294967296 = ((dig N' k : Nat) : Int) := by rw [IntKind.wrap_u64, Hst.out.1]; omega
              rw [e]; exact (mix_next hwr hlt rfl).of_block rfl
          case measure => simp [intOf]; omega
        · have hlx' : ¬ (d : Int) < (c : Int) := by omega
          have hcar : car (k + 1) = 0 := by rw [Hst.out.2, if_neg hlx]
          have Hcar := Lib.hid hcar
          clear hcar
          go_wp2
          go_region
          go_wp2
          go_roundw
          case rel =>
            refine ⟨k + 1, by omega, by omega, by go_num, ?_, ?_, (hch.setCell _ _).drew, ⟨(hpr.set hPW _ _).cell⟩⟩
            · rw [Hcar.out]; rfl
            · have e : (d : Int) - ((c : Int)) = ((dig N' k : Nat) : Int) := by rw [Hst.out.1]; omega
              rw [e]; exact (mix_next hwr hlt rfl).of_block rfl
          case measure => simp [intOf]; omega
    · obtain rfl : k = 70 := by omega
      go_wp2_with fail
      go_end0
      exact ⟨rfl, mix_end hwr, hch⟩

end Go.Proofs.Ytdfbmfmfhdifpaa
