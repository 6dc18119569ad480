/- What the proofs of the rows share: arguments, the errors' variables. -/
import Derived.Test.YtppebegleedifaaDoorXy
import Derived.Test.YtppebegleedifaaDoorWb
import Derived.Test.YtppebegleedifaaDoorTie
import Derived.Test.YtppebegleedifaaDoorCards
import Derived.ProofKit
import Derived.SizedLaws
import Derived.ChangeSame
import Derived.ChangeVars
import Derived.JoinedOf
import Derived.RowKitTokens
import Derived.LaidLaws
import Derived.LaidHandle
import Derived.SevenTiedAt
namespace Go.Proofs.YtppebegleedifaaDoor
open Go.ChangeShapes Go.WideShapes Go.ChangeAt Go.RowKit

theorem Tryd.own : ownKnob Tryd.prog.godebug = none := by kernel_rfl
theorem Tryd.laidOut : laidOutB Tryd.prog = true := by kernel_rfl
theorem bytes24 : Tryd.prog.bytesOf 24 = 8 := by kernel_rfl
theorem bytes2 : Tryd.prog.bytesOf 2 = 8 := by kernel_rfl
set_option maxRecDepth 100000 in
/-- An argument that is a slice of numbers. -/
theorem open_rs {H : Type} {enc : TypeId × Value → H} {W : World} {t e : TypeId} {k : IntKind} {v : Value} {d : DataW H} {p : List MemPlace}
    (ht : Tryd.prog.underlying t = some (.slice e)) (he : Tryd.prog.underlying e = some (.int k)) (hc : Tryd.prog.cellsOf e = 1)
    {base : Nat} (hok : Value.okWide Tryd.prog W .any base t v) (h : DataW.Trod enc Tryd.prog W 0 (fun _ => true) true t v d p) :
    ∃ A n c, ∃ z : Nat → Int, v = .slice A n c ∧ RS W A n c (fun j => .int k (z j)) ∧ (A = none → c = 0) ∧ (∀ j, j < n → (Lit.int k (z j)).wf = true) ∧
      (n = 0 ∨ ∃ zs : List Int, d = .slice (lits k (zs.take n)) (lits k (zs.drop n)) ∧ zs.length = c ∧ n ≤ c) := by
  obtain ⟨a0, len, cap, rfl⟩ := okWide_slice ht hok
  obtain ⟨fuel, hf⟩ := h
  rcases open_ints ht he hc hf with ⟨hcs, hx⟩ | ⟨a, len', cap', zs, hcs, _, hl, hm, hz, hx, hcell, hwz⟩
  · simp [Value.cells] at hcs
    obtain ⟨rfl, rfl, rfl⟩ := hcs
    exact ⟨none, 0, 0, fun _ => 0, rfl, RS.nil _ _ _ _ (by omega), fun _ => rfl, fun j hj => absurd hj (by omega), .inl rfl⟩
  · simp [Value.cells] at hcs
    obtain ⟨rfl, rfl, rfl⟩ := hcs
    simp only [Prod.mk.injEq] at hx
    obtain ⟨rfl, rfl⟩ := hx
    simp only [if_true] at hz
    refine ⟨some a, len, cap, fun j => zs.getD j 0, rfl, ⟨hl, by simpa [maxLen] using hm, fun j hj => ⟨a, rfl, hcell j (by omega)⟩⟩, fun h => (by cases h), fun j hj => ?_, .inr ⟨zs, rfl, hz, hl⟩⟩
    have : j < zs.length := by omega
    simp only [List.getD, List.getElem?_eq_getElem this, Option.getD_some]
    exact hwz _ (List.getElem_mem _)
theorem wf_u64 {z : Int} (h : (Lit.int .u64 z).wf = true) : 0 ≤ z ∧ z < 18446744073709551616 := by
  have h1 : IntKind.u64.min = 0 := rfl
  have h2 : IntKind.u64.max = 18446744073709551615 := rfl
  simp only [Lit.wf, Bool.and_eq_true, decide_eq_true_eq] at h
  omega
theorem wf_i64 {z : Int} (h : (Lit.int .i64 z).wf = true) : -9223372036854775808 ≤ z ∧ z ≤ 9223372036854775807 := by
  have h1 : IntKind.i64.min = -9223372036854775808 := rfl
  have h2 : IntKind.i64.max = 9223372036854775807 := rfl
  simp only [Lit.wf, Bool.and_eq_true, decide_eq_true_eq] at h
  omega
/-- Words as natural numbers. -/
theorem rs_nat {W : World} {A : Option Addr} {n c : Nat} {z : Nat → Int} (h : RS W A n c (fun j => .int .u64 (z j))) (hw : ∀ j, j < n → (Lit.int .u64 (z j)).wf = true) :
    RS W A n c (uw fun j => (z j).toNat) ∧ ∀ j, j < n → (z j).toNat < 18446744073709551616 :=
  ⟨h.congr fun j hj => by have := wf_u64 (hw j hj); show Value.int _ _ = Value.int _ _; rw [Int.toNat_of_nonneg this.1], fun j hj => by have := wf_u64 (hw j hj); omega⟩
/-- Numbers, 0 behind the last. -/
theorem rs_int {W : World} {A : Option Addr} {n c : Nat} {z : Nat → Int} (h : RS W A n c (fun j => .int .i64 (z j))) (hw : ∀ j, j < n → (Lit.int .i64 (z j)).wf = true) :
    ∃ y : Nat → Int, RS W A n c (iw y) ∧ ∀ j, i64B (y j) := by
  refine ⟨fun j => if j < n then z j else 0, h.congr fun j hj => ?_, fun j => ?_⟩
  · unfold iw; dsimp only; rw [if_pos hj]
  · unfold i64B
    dsimp only
    split
    · rename_i hj; exact wf_i64 (hw j hj)
    · omega
theorem Tryd.name110 : Tryd.prog.typeName? 3 110 = some "*errors.errorString" := by kernel_rfl
theorem Tryd.star : "*" ++ "errors.errorString" = "*errors.errorString" := by decide
theorem Tryd.row110 (u : TypeId) (h : Tryd.prog.typeName? 3 u = some "*errors.errorString") : u = 110 :=
  typeName_ptr_named (nm := "errors.errorString") (by rw [Tryd.star]; kernel_rfl) (by kernel_rfl) (by decide) u (by rw [Tryd.star]; exact h)
theorem Tryd.cells128 : Tryd.prog.cellsOf 128 = 1 := by kernel_rfl
theorem Tryd.cells9 : Tryd.prog.cellsOf 9 = 1 := by kernel_rfl
/-- A listed variable that is an error. -/
def IsSent (x : String × DataW Unit) (g : Nat) : Prop :=
  (∃ text, x.2 = .iface "*errors.errorString" (.ptr (.agg [.lit (.string text)]))) ∧ Tryd.prog.globalNamed x.1 = some g ∧ (Tryd.prog.globals[g]?).map (·.type) = some 26
set_option maxRecDepth 100000 in
theorem sentinels {W : World} : ∀ (L : List (String × DataW Unit)) (gs : List Nat) (ps : List MemPlace), DataW.LaidVars Tryd.prog W L ps → L.length = gs.length → (∀ (k : Nat) x (g : Nat), L[k]? = some x → gs[k]? = some g → IsSent x g) →
    (∀ b off, MemPlace.cell b off ∈ ps → (∃ c t, W.heap[b]? = some (.cells c t (0, 0))) ∧ ∀ u v, W.cell? ⟨b, off, none⟩ = some (.iface u v) → Value.okWide Tryd.prog W .any 0 u v) →
    ∃ al : List Addr, al.length = L.length ∧ (∀ (k g : Nat), gs[k]? = some g → ∃ a, al[k]? = some a ∧ W.cell? ⟨g, 0, none⟩ = some (.iface 110 (.pointer (some a)))) ∧ List.Sublist (al.map fun a => MemPlace.cell a.block a.off) ps := by
  intro L
  induction L with
  | nil =>
    intro gs ps _ hl _ _
    refine ⟨[], rfl, ?_, List.nil_sublist _⟩
    intro k g hk
    have : gs = [] := List.eq_nil_of_length_eq_zero hl.symm
    subst this
    simp at hk
  | cons x L ih =>
    intro gs ps hv hl hs hok
    match gs, hl with
    | g0 :: gs, hl =>
      obtain ⟨n, d⟩ := x
      obtain ⟨g, t, cs, fuel, p, q, hg, ht, hvar, hd, hq, rfl⟩ := hv
      obtain ⟨⟨text, hx⟩, hg0, ht0⟩ := hs 0 (n, d) g0 rfl rfl
      have hx' : d = .iface "*errors.errorString" (.ptr (.agg [.lit (.string text)])) := hx
      subst hx'
      obtain rfl := Option.some.inj (hg0.symm.trans hg)
      obtain rfl := Option.some.inj (ht0.symm.trans ht)
      obtain ⟨l0⟩ := cs
      have ok0 : ∀ u v, l0 = [.iface u v] → Value.okWide Tryd.prog W .any 0 u v := fun u v e => by
        subst e
        exact (hok g0 0 (by simp [MemPlace.row])).2 u v (by simpa using World.var?_cell hg hvar 0)
      obtain ⟨a0, s0, rfl, _, _, _, rfl⟩ := errorString_of_trod Tryd.underlying26 Tryd.row110 Tryd.underlying110 Tryd.underlying128 rfl rfl Tryd.underlying9 Tryd.cells128 Tryd.cells9 hd ok0
      obtain ⟨al, h1, h2, h3⟩ := ih gs q hq (by simpa using hl) (fun k x g hk hk' => hs (k + 1) x g (by simpa using hk) (by simpa using hk')) (fun b off hm => hok b off (List.mem_append_right _ hm))
      refine ⟨a0 :: al, by simp [h1], ?_, ?_⟩
      · intro k g hk
        cases k with
        | zero =>
          simp at hk
          subst hk
          exact ⟨a0, rfl, by simpa using World.var?_cell hg hvar 0⟩
        | succ k =>
          obtain ⟨a, ha, hc⟩ := h2 k g (by simpa using hk)
          exact ⟨a, by simpa using ha, hc⟩
      · rw [List.map_cons]
        refine List.Sublist.trans ?_ (List.Sublist.append_right (List.sublist_append_right _ _) q)
        simpa [MemPlace.row] using h3
theorem sg_map : (List.range 19).map sg = [4, 5, 6, 7, 8, 9, 0, 10, 11, 12, 3, 13, 14, 15, 16, 17, 2, 18, 1] := by decide
/-- The place of variable g in the list. -/
def si : Nat → Nat := fun g => #[6, 18, 16, 10, 0, 1, 2, 3, 4, 5, 7, 8, 9, 11, 12, 13, 14, 15, 17].getD g 0
theorem si_lt (g : Nat) (h : g < 19) : si g < 19 := by
  have : ∀ j : Fin 19, si j.val < 19 := by decide
  exact this ⟨g, h⟩
theorem sg_si (g : Nat) (h : g < 19) : sg (si g) = g := by
  have : ∀ j : Fin 19, sg (si j.val) = j.val := by decide
  exact this ⟨g, h⟩
theorem is_sent (k : Nat) (x : String × DataW Unit) (g : Nat) (h : Rows.exactTransformsRow.laid[k]? = some x) (hg : ((List.range 19).map sg)[k]? = some g) : IsSent x g := by
  have hk : k < 19 := by
    rcases Nat.lt_or_ge k 19 with h1 | h1
    · exact h1
    · rw [List.getElem?_eq_none (by simpa using h1)] at hg; cases hg
  rw [sg_map] at hg
  rcases (show k = 0 ∨ k = 1 ∨ k = 2 ∨ k = 3 ∨ k = 4 ∨ k = 5 ∨ k = 6 ∨ k = 7 ∨ k = 8 ∨ k = 9 ∨ k = 10 ∨ k = 11 ∨ k = 12 ∨ k = 13 ∨ k = 14 ∨ k = 15 ∨ k = 16 ∨ k = 17 ∨ k = 18 by omega) with rfl | rfl | rfl | rfl | rfl | rfl | rfl | rfl | rfl | rfl | rfl | rfl | rfl | rfl | rfl | rfl | rfl | rfl | rfl
  all_goals
    cases h
    cases hg
    exact ⟨⟨_, rfl⟩, by kernel_rfl, by kernel_rfl⟩
theorem erA_of {W : World} (h : laidMet Tryd.prog Rows.exactTransformsRow.laid W) : ∃ a, ErA W a := by
  obtain ⟨ps, hv, hnd, hrows⟩ := h
  obtain ⟨al, h1, h2, h3⟩ := sentinels _ ((List.range 19).map sg) ps hv rfl is_sent hrows
  have hl : al.length = 19 := h1
  have key : ∀ g, g < 19 → ∃ a, al[si g]? = some a ∧ W.cell? ⟨g, 0, none⟩ = some (.iface 110 (.pointer (some a))) := fun g hg =>
    h2 (si g) g (by rw [List.getElem?_map, List.getElem?_range (si_lt g hg), Option.map_some, sg_si g hg])
  refine ⟨fun g => (al[si g]?).getD default, ?_, ?_, ?_⟩
  · intro g hg
    obtain ⟨a, ha, hc⟩ := key g hg
    rw [hc]; unfold eV; dsimp only; rw [ha]; rfl
  · intro g hg
    obtain ⟨a, ha, hc⟩ := key g hg
    try dsimp only
    rw [ha, Option.getD_some]
    exact (hrows a.block a.off (h3.subset (List.mem_map.2 ⟨a, List.mem_of_getElem? ha, rfl⟩))).1
  · intro g g' hg hg' hne e
    obtain ⟨a, ha, _⟩ := key g hg
    obtain ⟨b, hb, _⟩ := key g' hg'
    try dsimp only at e
    rw [ha, hb, Option.getD_some, Option.getD_some] at e
    subst e
    have hn := hnd.sublist h3
    have hi : si g ≠ si g' := fun e => hne (by rw [← sg_si g hg, ← sg_si g' hg', e])
    have hlg := si_lt g hg
    have hlg' := si_lt g' hg'
    have e1 : (al.map fun a => MemPlace.cell a.block a.off)[si g]? = (al.map fun a => MemPlace.cell a.block a.off)[si g']? := by
      rw [List.getElem?_map, List.getElem?_map, ha, hb]
    exact hi ((List.getElem?_inj (by rw [List.length_map, hl]; exact hlg) hn).1 e1)
end Go.Proofs.YtppebegleedifaaDoor
