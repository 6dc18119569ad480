/- A world in which the errors' variables lie as their initialisers lay them. -/
import Derived.Test.YtppebegleedifaaDoorYe
namespace Go.Proofs.YtppebegleedifaaDoor
open Go.ChangeShapes Go.WideShapes Go.ChangeAt Go.RowKit

noncomputable def low : Nat := (World.holding Tryd.prog default ⟨#[], #[], []⟩).heap.size
noncomputable def laidWorld (os : Os) : World :=
  let w0 := World.holding Tryd.prog os ⟨#[.cells #[.string { data := #[116, 105, 109, 98, 114, 101, 58, 32, 108, 101, 110, 103, 116, 104] }] 128,
    .cells #[.string { data := #[116, 105, 109, 98, 114, 101, 58, 32, 101, 120, 97, 99, 116] }] 128,
    .cells #[.string { data := #[116, 105, 109, 98, 114, 101, 58, 32, 109, 111, 100, 101] }] 128,
    .cells #[.string { data := #[116, 105, 109, 98, 114, 101, 58, 32, 114, 111, 111, 116] }] 128,
    .cells #[.string { data := #[116, 105, 109, 98, 114, 101, 58, 32, 116, 111, 111, 32, 115, 104, 111, 114, 116] }] 128,
    .cells #[.string { data := #[116, 105, 109, 98, 114, 101, 58, 32, 118, 97, 114, 105, 110, 116] }] 128,
    .cells #[.string { data := #[116, 105, 109, 98, 114, 101, 58, 32, 108, 105, 109, 105, 116] }] 128,
    .cells #[.string { data := #[116, 105, 109, 98, 114, 101, 58, 32, 116, 97, 105, 108] }] 128,
    .cells #[.string { data := #[116, 105, 109, 98, 114, 101, 58, 32, 114, 97, 110, 103, 101] }] 128,
    .cells #[.string { data := #[116, 105, 109, 98, 114, 101, 58, 32, 116, 101, 120, 116] }] 128,
    .cells #[.string { data := #[116, 105, 109, 98, 114, 101, 58, 32, 111, 114, 100, 101, 114] }] 128,
    .cells #[.string { data := #[116, 105, 109, 98, 114, 101, 58, 32, 112, 114, 111, 103, 114, 97, 109] }] 128,
    .cells #[.string { data := #[116, 105, 109, 98, 114, 101, 58, 32, 115, 116, 97, 116, 101] }] 128,
    .cells #[.string { data := #[116, 105, 109, 98, 114, 101, 58, 32, 112, 101, 114, 109, 117, 116, 97, 116, 105, 111, 110] }] 128,
    .cells #[.string { data := #[116, 105, 109, 98, 114, 101, 58, 32, 110, 117, 109, 98, 101, 114] }] 128,
    .cells #[.string { data := #[116, 105, 109, 98, 114, 101, 58, 32, 119, 111, 114, 107, 101, 114, 115] }] 128,
    .cells #[.string { data := #[116, 105, 109, 98, 114, 101, 58, 32, 100, 111, 110, 101] }] 128,
    .cells #[.string { data := #[116, 105, 109, 98, 114, 101, 58, 32, 117, 110, 107, 110, 111, 119, 110] }] 128,
    .cells #[.string { data := #[116, 105, 109, 98, 114, 101, 58, 32, 99, 111, 109, 109, 97, 110, 100] }] 128], #[], []⟩
  { w0 with heap := (List.range 19).foldl (fun h g => h.modify g fun
      | .cells _ t frozen => .cells #[.iface 110 (.pointer (some ⟨low + g, 0, none⟩))] t frozen
      | o => o) w0.heap }
theorem laidWorld_met (os : Os) (args : Array Value) : laidMetH Tryd.prog Rows.exactTransformsRow.laid ((laidWorld os).forCall (fun _ _ => 0) ⟨#[], args, []⟩).memory :=
  show laidMet _ _ _ from laidMet_of_run' 8 (by kernel_rfl) (by kernel_rfl)
theorem laidWorld_met4 (os : Os) (args : Array Value) : laidMetH Tryd.prog Rows.exactBackRow.laid ((laidWorld os).forCall (fun _ _ => 0) ⟨#[], args, []⟩).memory :=
  show laidMet _ _ _ from laidMet_of_run' 8 (by kernel_rfl) (by kernel_rfl)
theorem is_sent4 (k : Nat) (x : String × DataW Unit) (g : Nat) (h : Rows.exactBackRow.laid[k]? = some x) (hg : ([0, 3, 2, 1] : List Nat)[k]? = some g) : IsSent x g := by
  have hk : k < 4 := by
    rcases Nat.lt_or_ge k 4 with h1 | h1
    · exact h1
    · rw [List.getElem?_eq_none (by simpa using h1)] at hg; cases hg
  rcases (show k = 0 ∨ k = 1 ∨ k = 2 ∨ k = 3 by omega) with rfl | rfl | rfl | rfl
  all_goals
    cases h
    cases hg
    exact ⟨⟨_, rfl⟩, by kernel_rfl, by kernel_rfl⟩
theorem ers_of {W : World} (h : laidMet Tryd.prog Rows.exactBackRow.laid W) : ∃ a, Ers W (eV a) := by
  obtain ⟨ps, hv, hnd, hrows⟩ := h
  obtain ⟨al, h1, h2, _⟩ := sentinels _ [0, 3, 2, 1] ps hv rfl is_sent4 hrows
  obtain ⟨a0, _, c0⟩ := h2 0 0 rfl
  obtain ⟨a3, _, c3⟩ := h2 1 3 rfl
  obtain ⟨a2, _, c2⟩ := h2 2 2 rfl
  obtain ⟨a1, _, c1⟩ := h2 3 1 rfl
  refine ⟨fun g => if g = 0 then a0 else if g = 1 then a1 else if g = 2 then a2 else a3, ⟨fun g hg => ?_⟩⟩
  rcases (show g = 0 ∨ g = 1 ∨ g = 2 ∨ g = 3 by omega) with rfl | rfl | rfl | rfl
  · exact c0
  · exact c1
  · exact c2
  · exact c3
end Go.Proofs.YtppebegleedifaaDoor
