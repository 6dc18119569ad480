/- fits. -/
import Derived.Test.YtppebegleedifaaDoorXo
import Derived.Deep.MidRow
namespace Go.Proofs.YtppebegleedifaaDoor
open Go.RowKit

/-- Is it an int64? -/
def fitB (S : Int) : Bool := decide (-9223372036854775808 ≤ S ∧ S ≤ 9223372036854775807)
def signW (a0 : Nat) : Nat := if 9223372036854775808 ≤ a0 then 18446744073709551615 else 0
theorem fits_iff {S : Int} {a0 a1 a2 : Nat} (h : R3 S a0 a1 a2) (hS : -1532495540865888858358347027150309183618739122183602176 ≤ S ∧ S ≤ 1532495540865888858358347027150309183618739122183602176) :
    ((a1 = signW a0 ∧ a2 = signW a0) ↔ fitB S = true) ∧ (fitB S = true → IntKind.i64.wrap (a0 : Int) = S) := by
  obtain ⟨l0, l1, l2, q, hq⟩ := h
  unfold signW fitB
  rw [decide_eq_true_iff, IntKind.wrap_i64]
  have hq' : q = 0 ∨ q = -1 := by omega
  constructor
  · rcases hq' with rfl | rfl <;> split <;> omega
  · rcases hq' with rfl | rfl <;> omega
set_option maxHeartbeats 1000000 in
theorem fits_any (S : Int) (a0 a1 a2 : Nat) (h : R3 S a0 a1 a2) (hS : -1532495540865888858358347027150309183618739122183602176 ≤ S ∧ S ≤ 1532495540865888858358347027150309183618739122183602176) (w : World) :
    Calls Tryd.prog 53 #[.agg #[.int .u64 (a0 : Nat), .int .u64 (a1 : Nat), .int .u64 (a2 : Nat)]] w fun e w' => e = .returned (.bool (fitB S)) ∧ Below w.heap.size w w' := by
  obtain ⟨hs, tt, t1, t2, t3⟩ := top_word a0 h.l0 (signW a0) rfl
  have hf := (fits_iff h hS).1
  by_cases e1 : a1 = signW a0
  · by_cases e2 : a2 = signW a0
    · have hB : fitB S = true := hf.1 ⟨e1, e2⟩
      have b1 : ((a1 : Int) == (signW a0 : Int)) = true := by rw [e1]; simp
      have b2 : ((a2 : Int) == (signW a0 : Int)) = true := by rw [e2]; simp
      rw [hB]
      generalize signW a0 = sw at *
      clear h hf e1 e2 hS
      go_enter Tryd.func53, Tryd.ntmps53
      go_wp2_with fail
      go_ret
      exact ⟨rfl, (Below.refl _ _).alloc (Nat.le_refl _) _⟩
    · have hB : fitB S = false := by
        cases hb : fitB S
        · rfl
        · exact absurd (hf.2 hb).2 e2
      have b1 : ((a1 : Int) == (signW a0 : Int)) = true := by rw [e1]; simp
      have b2 : ((a2 : Int) == (signW a0 : Int)) = false := by simp; omega
      rw [hB]
      generalize signW a0 = sw at *
      clear h hf e1 e2 hS
      go_enter Tryd.func53, Tryd.ntmps53
      go_wp2_with fail
      go_ret
      exact ⟨rfl, (Below.refl _ _).alloc (Nat.le_refl _) _⟩
  · have hB : fitB S = false := by
      cases hb : fitB S
      · rfl
      · exact absurd (hf.2 hb).1 e1
    have b1 : ((a1 : Int) == (signW a0 : Int)) = false := by simp; omega
    rw [hB]
    generalize signW a0 = sw at *
    clear h hf e1 hS
    go_enter Tryd.func53, Tryd.ntmps53
    go_wp2_with fail
    go_ret
    exact ⟨rfl, (Below.refl _ _).alloc (Nat.le_refl _) _⟩

/-- A block of wide numbers: number j is S j. -/
structure Wds (w : World) (B n : Nat) (S : Nat → Int) : Prop where
  num : ∀ j, j < n → ∃ a0 a1 a2 : Nat, R3 (S j) a0 a1 a2 ∧ w.cell? ⟨B, 3 * j, none⟩ = some (.int .u64 (a0 : Nat)) ∧ w.cell? ⟨B, 3 * j + 1, none⟩ = some (.int .u64 (a1 : Nat)) ∧ w.cell? ⟨B, 3 * j + 2, none⟩ = some (.int .u64 (a2 : Nat))
  free : ∀ j, w.frozen? ⟨B, j, none⟩ = false
theorem Wds.below {w w' : World} {B n : Nat} {S : Nat → Int} (h : Wds w B n S) (hB : B < w.heap.size) (hb : Below w.heap.size w w') : Wds w' B n S := by
  have e := hb.block B hB
  constructor
  · intro j hj
    obtain ⟨a0, a1, a2, h1, h2, h3, h4⟩ := h.num j hj
    exact ⟨a0, a1, a2, h1, (World.cell?_of_block e).trans h2, (World.cell?_of_block e).trans h3, (World.cell?_of_block e).trans h4⟩
  · intro j; exact (World.frozen?_of_block e).trans (h.free j)
theorem Wds.drewN {w : World} {B n : Nat} {S : Nat → Int} (h : Wds w B n S) (k : Nat) : Wds (w.drewN k) B n S := ⟨h.num, h.free⟩
/-- One number of the block is added to. -/
theorem Wds.set {w : World} {B n : Nat} {S : Nat → Int} (h : Wds w B n S) (i : Nat) (T : Int) (s0 s1 s2 : Nat) (hi : i < n) (hr : R3 T s0 s1 s2) :
    Wds (((w.setCell ⟨B, 3 * i, none⟩ (.int .u64 (s0 : Nat))).setCell ⟨B, 3 * i + 1, none⟩ (.int .u64 (s1 : Nat))).setCell ⟨B, 3 * i + 2, none⟩ (.int .u64 (s2 : Nat))) B n (fun j => if j = i then T else S j) := by
  have ne : ∀ x y : Nat, x ≠ y → (⟨B, x, none⟩ : Addr) ≠ ⟨B, y, none⟩ := fun x y hxy e => by injection e with _ e _; exact hxy e
  have oth : ∀ (w : World) (x y : Nat) (v : Value), x ≠ y → (w.setCell ⟨B, x, none⟩ v).cell? ⟨B, y, none⟩ = w.cell? ⟨B, y, none⟩ := fun w x y v hxy => World.cell?_setCell_other _ _ _ _ (ne x y hxy)
  constructor
  · intro j hj
    by_cases e : j = i
    · subst e
      obtain ⟨a0, a1, a2, h1, h2, h3, h4⟩ := h.num j hj
      refine ⟨s0, s1, s2, by rw [if_pos rfl]; exact hr, ?_, ?_, ?_⟩
      · rw [oth _ _ _ _ (by omega), oth _ _ _ _ (by omega)]; exact World.cell?_setCell_same _ _ _ h2
      · rw [oth _ _ _ _ (by omega)]; exact World.cell?_setCell_same _ _ _ (by rw [oth _ _ _ _ (by omega)]; exact h3)
      · exact World.cell?_setCell_same _ _ _ (by rw [oth _ _ _ _ (by omega), oth _ _ _ _ (by omega)]; exact h4)
    · obtain ⟨a0, a1, a2, h1, h2, h3, h4⟩ := h.num j hj
      refine ⟨a0, a1, a2, by rw [if_neg e]; exact h1, ?_, ?_, ?_⟩
      · rw [oth _ _ _ _ (by omega), oth _ _ _ _ (by omega), oth _ _ _ _ (by omega)]; exact h2
      · rw [oth _ _ _ _ (by omega), oth _ _ _ _ (by omega), oth _ _ _ _ (by omega)]; exact h3
      · rw [oth _ _ _ _ (by omega), oth _ _ _ _ (by omega), oth _ _ _ _ (by omega)]; exact h4
  · intro j
    rw [World.frozen?_setCell, World.frozen?_setCell, World.frozen?_setCell]; exact h.free j
end Go.Proofs.YtppebegleedifaaDoor
