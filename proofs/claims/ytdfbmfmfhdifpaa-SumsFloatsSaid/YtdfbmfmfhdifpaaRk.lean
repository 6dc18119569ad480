/- What the proofs of the rows share: an argument that is a slice of numbers is read as such. -/
import Derived.Test.YtdfbmfmfhdifpaaWe
import Derived.ProofKit
import Derived.SizedLaws
namespace Go.Proofs.Ytdfbmfmfhdifpaa
open Go.ChangeShapes Go.WideShapes Go.ChangeAt Go.RowKit

theorem Try.own : ownKnob Try.prog.godebug = none := by kernel_rfl
theorem Try.laidOut : laidOutB Try.prog = true := by kernel_rfl
theorem bytes3 : Try.prog.bytesOf 3 = 8 := by kernel_rfl
theorem bytes39 : Try.prog.bytesOf 39 = 8 := by kernel_rfl

/-- An argument that is a slice of numbers. -/
theorem open_rs {H : Type} {enc : TypeId × Value → H} {W : World} {t e : TypeId} {k : IntKind} {v : Value} {d : DataW H} {p : List MemPlace}
    (ht : Try.prog.underlying t = some (.slice e)) (he : Try.prog.underlying e = some (.int k)) (hc : Try.prog.cellsOf e = 1)
    {base : Nat} (hok : Value.okWide Try.prog W .any base t v) (h : DataW.Trod enc Try.prog W 0 (fun _ => true) true t v d p) :
    ∃ A n c, ∃ z : Nat → Int, v = .slice A n c ∧ RS W A n c (fun j => .int k (z j)) ∧ (∀ j, j < n → (Lit.int k (z j)).wf = true) ∧
      (n = 0 ∨ ∃ zs : List Int, d = .slice (lits k (zs.take n)) (lits k (zs.drop n)) ∧ zs.length = c ∧ n ≤ c) := by
  obtain ⟨a0, len, cap, rfl⟩ := okWide_slice ht hok
  obtain ⟨fuel, hf⟩ := h
  rcases open_ints ht he hc hf with ⟨hcs, hx⟩ | ⟨a, len', cap', zs, hcs, _, hl, hm, hz, hx, hcell, hwz⟩
  · simp [Value.cells] at hcs
    obtain ⟨rfl, rfl, rfl⟩ := hcs
    exact ⟨none, 0, 0, fun _ => 0, rfl, RS.nil _ _ _ _ (by omega), fun j hj => absurd hj (by omega), .inl rfl⟩
  · simp [Value.cells] at hcs
    obtain ⟨rfl, rfl, rfl⟩ := hcs
    simp only [Prod.mk.injEq] at hx
    obtain ⟨rfl, rfl⟩ := hx
    simp only [if_true] at hz
    refine ⟨some a, len, cap, fun j => zs.getD j 0, rfl, ⟨hl, by simpa [maxLen] using hm, fun j hj => ⟨a, rfl, hcell j (by omega)⟩⟩, fun j hj => ?_, .inr ⟨zs, rfl, hz, hl⟩⟩
    have : j < zs.length := by omega
    simp only [List.getD, List.getElem?_eq_getElem this, Option.getD_some]
    exact hwz _ (List.getElem_mem _)

theorem wf_u64 {z : Int} (h : (Lit.int .u64 z).wf = true) : 0 ≤ z ∧ z < 18446744073709551616 := by
  have h1 : IntKind.u64.min = 0 := rfl
  have h2 : IntKind.u64.max = 18446744073709551615 := rfl
  simp only [Lit.wf, Bool.and_eq_true, decide_eq_true_eq] at h
  omega
theorem wf_i64 {z : Int} (h : (Lit.int .i64 z).wf = true) : -9223372036854775808 ≤ z ∧ z ≤ 9223372036854775807 := by
  have h1 : IntKind.i64.min = -9223372036854775808 := rfl
  have h2 : IntKind.i64.max = 9223372036854775807 := rfl
  simp only [Lit.wf, Bool.and_eq_true, decide_eq_true_eq] at h
  omega
/-- Words as natural numbers. -/
theorem rs_nat {W : World} {A : Option Addr} {n c : Nat} {z : Nat → Int} (h : RS W A n c (fun j => .int .u64 (z j))) (hw : ∀ j, j < n → (Lit.int .u64 (z j)).wf = true) :
    RS W A n c (fun j => .int .u64 ((z j).toNat : Nat)) ∧ ∀ j, j < n → (z j).toNat < 18446744073709551616 :=
  ⟨h.congr fun j hj => by have := wf_u64 (hw j hj); show Value.int _ _ = Value.int _ _; rw [Int.toNat_of_nonneg this.1], fun j hj => by have := wf_u64 (hw j hj); omega⟩

end Go.Proofs.Ytdfbmfmfhdifpaa
