/- Left, of the program and of the reference. -/
import Derived.Test.YtdfbmfmfhdifpaaWe
namespace Go.Proofs.Ytdfbmfmfhdifpaa
open Go.RowKit

def leftG (g : Nat → Nat) : Nat → Nat
  | 0 => 0
  | 1 => g 0
  | k + 2 => fop .add (leftG g (k + 1)) (g (k + 1))

def Fret (v : Nat) (w : World) (e : Ending) (w' : World) : Prop := ∃ r n, e = .returned (.float .f64 r) ∧ r < 2 ^ 64 ∧ cn r = cn v ∧ w' = w.drewN n
def FCell (g : Nat → Nat) (k : Nat) (r : Nat) : Prop := r < 2 ^ 64 ∧ cn r = cn (leftG g k)
abbrev fl (g : Nat → Nat) : Nat → Value := fun j => .float .f64 (g j)

theorem left_step {g : Nat → Nat} {k r r2 : Nat} (h : cn r = cn (leftG g (k + 1))) (h2 : cn r2 = fop .add r (g (1 + k))) : cn r2 = cn (leftG g (k + 1 + 1)) := by
  rw [h2, leftG, cn_fop, Nat.add_comm 1 k]
  exact fop_congr .add h rfl
theorem left_end {g : Nat → Nat} {k n r : Nat} (hk : k + 1 = n) (h : cn r = cn (leftG g (k + 1))) : cn r = cn (leftG g n) := by rw [h, hk]

set_option maxHeartbeats 400000 in
theorem left_nil (A : Option Addr) (c : Nat) (w : World) : Calls Try.prog 9 #[.slice A 0 c] w (Fret 0 w) := by
  go_enter Try.func9, Try.ntmps9
  go_wp2
  go_ret
  exact ⟨0, 0, rfl, by decide, rfl, rfl⟩

set_option maxHeartbeats 400000 in
theorem left_some (A : Option Addr) (n c : Nat) (g : Nat → Nat) (w : World) (h0 : 0 < n) (hg : ∀ j, j < n → g j < 2 ^ 64)
   (hr : RS w A n c (fl g)) : Calls Try.prog 9 #[.slice A n c] w (Fret (leftG g n) w) := by
  have hm := hr.cm
  have hnc := hr.nc
  have hg0 := Lib.hid (hg 0 h0)
  have hg' := Lib.hid hg; clear hg
  go_enter Try.func9, Try.ntmps9
  go_wp2_with (first
    | ((with_reducible show wpList _ _ _ (⟨some 10, _, _, _, _, _⟩ :: _) _ _); refine wpl_ix rfl 24 26 _ _ rfl Try.underlying24 cells26 A n c 0 _ _ (fl g) rfl rfl rfl h0 hr ?_; intro p hp)
    | ((with_reducible show wpList _ _ _ (⟨some 13, _, _, _, _, _⟩ :: _) _ _); refine wpl_from rfl 24 26 _ _ rfl Try.underlying24 cells26 A n c 1 _ _ (fl g) rfl rfl rfl h0 hr ?_; intro A' hr'))
  go_loopw [3, 5, 15] (fun s x i wr => ∃ k r m : Nat, k + 1 ≤ n ∧ i = .int .i64 k ∧ s = .float .f64 r ∧ FCell g (k + 1) r ∧ wr = w.drewN m) (fun _ _ i _ => n - (intOf i).toNat)
  case atStart => exact ⟨0, _, 0, h0, rfl, rfl, ⟨hg0.out, rfl⟩, rfl⟩
  case round =>
    obtain ⟨k, r, m, hk, rfl, rfl, hf, rfl⟩ := hrel
    by_cases hlt : k + 1 < n
    · go_wp2_with (first
        | ((with_reducible show wpList _ _ _ (⟨some 17, _, _, _, _, _⟩ :: _) _ _); refine wpl_ix rfl 24 26 _ _ rfl Try.underlying24 cells26 A' (n - 1) (c - 1) k _ _ _ rfl rfl rfl (by omega) (hr'.drewN _) ?_; intro p hp)
        | ((with_reducible show wpList _ _ _ (⟨some 21, _, _, _, _, _⟩ :: _) _ _); refine wpList_fop rfl .add 26 26 _ _ rfl rfl _ _ rfl rfl ?_; intro r2 m2 hr2 hc2))
      go_roundw
      case rel => exact ⟨k + 1, r2, _, by omega, by go_num, rfl, ⟨hr2, left_step hf.2 hc2⟩, rfl⟩
      case measure => simp [intOf]; omega
    · go_wp2
      go_ret
      exact ⟨r, _, rfl, hf.1, left_end (by omega) hf.2, rfl⟩
theorem left_any (A : Option Addr) (n c : Nat) (g : Nat → Nat) (w : World) (hg : ∀ j, j < n → g j < 2 ^ 64) (hr : RS w A n c (fl g)) :
    Calls Try.prog 9 #[.slice A n c] w (Fret (leftG g n) w) := by
  by_cases h : n = 0
  · subst h; exact left_nil A c w
  · exact left_some A n c g w (by omega) hg hr

set_option maxHeartbeats 400000 in
theorem leftR_nil (A : Option Addr) (c : Nat) (w : World) : Calls Try.prog 15 #[.slice A 0 c] w (Fret 0 w) := by
  go_enter Try.func15, Try.ntmps15
  go_wp2
  go_ret
  exact ⟨0, 0, rfl, by decide, rfl, rfl⟩

set_option maxHeartbeats 400000 in
theorem leftR_some (A : Option Addr) (n c : Nat) (g : Nat → Nat) (w : World) (h0 : 0 < n) (hg : ∀ j, j < n → g j < 2 ^ 64)
   (hr : RS w A n c (fl g)) : Calls Try.prog 15 #[.slice A n c] w (Fret (leftG g n) w) := by
  have hm := hr.cm
  have hnc := hr.nc
  have hg0 := Lib.hid (hg 0 h0)
  have hg' := Lib.hid hg; clear hg
  go_enter Try.func15, Try.ntmps15
  go_wp2_with (first
    | ((with_reducible show wpList _ _ _ (⟨some 10, _, _, _, _, _⟩ :: _) _ _); refine wpl_ix rfl 24 26 _ _ rfl Try.underlying24 cells26 A n c 0 _ _ (fl g) rfl rfl rfl h0 hr ?_; intro p hp)
    | ((with_reducible show wpList _ _ _ (⟨some 13, _, _, _, _, _⟩ :: _) _ _); refine wpl_from rfl 24 26 _ _ rfl Try.underlying24 cells26 A n c 1 _ _ (fl g) rfl rfl rfl h0 hr ?_; intro A' hr'))
  go_loopw [3, 5, 15] (fun s x i wr => ∃ k r m : Nat, k + 1 ≤ n ∧ i = .int .i64 k ∧ s = .float .f64 r ∧ FCell g (k + 1) r ∧ wr = w.drewN m) (fun _ _ i _ => n - (intOf i).toNat)
  case atStart => exact ⟨0, _, 0, h0, rfl, rfl, ⟨hg0.out, rfl⟩, rfl⟩
  case round =>
    obtain ⟨k, r, m, hk, rfl, rfl, hf, rfl⟩ := hrel
    by_cases hlt : k + 1 < n
    · go_wp2_with (first
        | ((with_reducible show wpList _ _ _ (⟨some 17, _, _, _, _, _⟩ :: _) _ _); refine wpl_ix rfl 24 26 _ _ rfl Try.underlying24 cells26 A' (n - 1) (c - 1) k _ _ _ rfl rfl rfl (by omega) (hr'.drewN _) ?_; intro p hp)
        | ((with_reducible show wpList _ _ _ (⟨some 21, _, _, _, _, _⟩ :: _) _ _); refine wpList_fop rfl .add 26 26 _ _ rfl rfl _ _ rfl rfl ?_; intro r2 m2 hr2 hc2))
      go_roundw
      case rel => exact ⟨k + 1, r2, _, by omega, by go_num, rfl, ⟨hr2, left_step hf.2 hc2⟩, rfl⟩
      case measure => simp [intOf]; omega
    · go_wp2
      go_ret
      exact ⟨r, _, rfl, hf.1, left_end (by omega) hf.2, rfl⟩
theorem leftR_any (A : Option Addr) (n c : Nat) (g : Nat → Nat) (w : World) (hg : ∀ j, j < n → g j < 2 ^ 64) (hr : RS w A n c (fl g)) :
    Calls Try.prog 15 #[.slice A n c] w (Fret (leftG g n) w) := by
  by_cases h : n = 0
  · subst h; exact leftR_nil A c w
  · exact leftR_some A n c g w (by omega) hg hr

end Go.Proofs.Ytdfbmfmfhdifpaa
