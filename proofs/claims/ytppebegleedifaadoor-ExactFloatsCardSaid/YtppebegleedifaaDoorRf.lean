/- ExactFloats: for every list of whole numbers and every number the law returns true, does not panic, and leaves its arguments reading as before. Conditions: none beyond what the card lists: the errors' variables hold what their initialisers lay (tied to the program's text). -/
import Derived.Test.YtppebegleedifaaDoorEh
import Derived.Test.YtppebegleedifaaDoorYf
namespace Go.Proofs.YtppebegleedifaaDoor
open Go.ChangeShapes Go.WideShapes Go.ChangeAt Go.RowKit

set_option maxRecDepth 100000 in
theorem exactFloats_lifted (os : Os) (started : os.Started) (H : Type) (enc : TypeId × Value → H) :
    ReturnsInHanded {} Tryd.checked os 9 .any (fun w args => (Rows.exactFloatsSpec.pre enc Tryd.prog Tryd.f9 [] false w args ∧ laidMetH Tryd.prog Rows.exactFloatsRow.laid w) ∧ sizedMet enc Tryd.prog Tryd.f9 (OpenSpec.ofChange Rows.exactFloatsSpec) false w args)
      (Rows.exactFloatsSpec.post enc Tryd.prog Tryd.f9 false true false false) := by
  refine returnsInHanded_of_change_and (C := Tryd.checked) (X := fun w _ => laidMetH Tryd.prog Rows.exactFloatsRow.laid w) (fun _ _ _ hh h => h.of_heap hh) Tryd.own started (by kernel_rfl) Tryd.func9
    (ChangeSpec.witness_at (enc := enc) (C := Tryd.checked) (os := os) (X := fun w _ => laidMetH Tryd.prog Rows.exactFloatsRow.laid w) false (laidWorld os) #[.slice none 0 0, .int .i64 0] 8 rfl (by kernel_rfl) (by kernel_rfl) (by kernel_rfl) (by kernel_rfl) (by kernel_rfl) (laidWorld_met4 os _)) ?_
  intro W base args ds gs before hval0 hW _ hsz0 hL0 _
  have hL : laidMet Tryd.prog Rows.exactFloatsRow.laid W := hL0
  have hsz : (DataW.weightsEach Tryd.prog (Tryd.f9.params.toList ++ Rows.exactFloatsSpec.plain.varTypes Tryd.prog) (ds ++ gs)).all (· ≤ reachBytes) = true := hsz0
  clear hsz0 hL0
  have hval : ∀ (j : Nat) t v, Tryd.f9.params[j]? = some t → args[j]? = some v → Value.okWide Tryd.prog W .any base t v := hval0
  have hW' := hW
  obtain ⟨p, q, hA0, hV, rfl, _, _⟩ := hW
  have hA : DataW.TrodAll enc Tryd.prog W 0 (fun _ => true) true Tryd.f9.params.toList args.toList ds p := hA0
  rw [Tryd.params9] at hA hval hsz
  obtain ⟨v0, v1, d0, d1, p0, p1, rfl, rfl, rfl, h0, h1⟩ := trodAll_two hA
  obtain ⟨rfl, rfl⟩ := trodVars_none hV
  obtain ⟨a, hE⟩ := ers_of hL
  have hk0 := h0
  obtain ⟨A0, n0, c0, z0, rfl, hr0, hnil0, hwf0, hd0⟩ := open_rs Tryd.underlying34 Tryd.underlying2 cells2 (hval 0 34 v0 rfl rfl) h0
  obtain ⟨y0, hr0, hx0⟩ := rs_int hr0 hwf0
  obtain ⟨i1, rfl, rfl, rfl, hw1⟩ := open_int Tryd.underlying3 (hval 1 3 v1 rfl rfl) h1
  clear hA0 hval0
  simp only [List.append_nil] at hW' hsz
  have hlt0 : ∀ x ∈ p0, x.block < W.heap.size := fun x hx => by simpa using hW'.lt x (by simp [hx])
  have hargs0 : ∀ (W' : World), Below W.heap.size W W' → DataW.Trod enc Tryd.prog W' 0 (fun b => decide (b < W.heap.size)) true 34 (.slice A0 n0 c0) d0 p0 :=
    fun W' hn => Below.trod Tryd.laidOut (by kernel_rfl) (of_decide_eq_true (by kernel_rfl)) hk0 hn hlt0
  have hreach0 : n0 * 8 ≤ 140737488351232 := by
    rcases hd0 with rfl | ⟨zs, rfl, hz, hl⟩
    · omega
    · have := sized_slice hsz (j := 0) (t := 34) (e := 2) rfl rfl Tryd.underlying34
      rw [bytes2] at this
      simp only [lits, List.length_map, List.length_take, List.length_drop, reachBytes] at this
      omega
  refine (exFloats_any A0 n0 c0 i1 y0 a W hr0 hx0 hE).mono ?_
  rintro e W' ⟨rfl, hn⟩
  refine ⟨_, rfl, _, _, _, [], _, [], hW', ?_, trodAll_mk2 (hargs0 _ hn) (shut_int Tryd.underlying3 hw1), rfl, Below.frame hn _, fun h => by cases h⟩
  exact trodAll_mk1 (shut_bool Tryd.underlying4 true)

theorem exactFloats_row : Rows.ExactFloatsSaid :=
  OpenClaim.holds_of_wide 9 Tryd.f9 rfl rfl rfl rfl rfl rfl rfl ⟨rfl, rfl, rfl, rfl, rfl⟩ rfl rfl rfl rfl rfl (by kernel_rfl) Tryd.func9 (by kernel_rfl)
    (of_decide_eq_true (by kernel_rfl)) (by unfold Func.isWrapper; first | (rw [if_pos (by decide +kernel)]; kernel_rfl) | (rw [if_neg (by decide +kernel)]; exact ⟨rfl, rfl⟩))
    (fun os started H enc _ => exactFloats_lifted os started H enc)

theorem exactFloats_holds : Rows.ExactFloatsCardSaid :=
  Claim7.holds_tied_plain_at .later [] _ true (true, "09c19d681245daaa11b039011db708a4dbde0281d4fe927197cf58d99cd61b83") true
    exactFloats_row (fun _ h => by cases h) (by kernel_rfl) (fun _ h => by cases h) exactFloats_row_tie rfl ⟨rfl, rfl⟩ (by kernel_rfl) rfl
    (fun f fn hf hfn => by
      obtain rfl : f = 9 := Option.some.inj ((show Tryd.prog.funcNamed "timbre/timbrelaw26.ExactFloats" = some 9 by kernel_rfl).symm.trans hf) |>.symm
      obtain rfl : fn = Tryd.f9 := (Option.some.inj (Tryd.func9.symm.trans hfn)).symm
      exact ⟨by kernel_rfl, fun j t ht => by
        rw [Tryd.params9] at ht
        rcases j with _ | _ | j
        · have h3 : t = 34 := by simpa using ht.symm
          subst h3
          exact (show Tryd.prog.wantsStandIn 34 = false by kernel_rfl)
        · have h3 : t = 3 := by simpa using ht.symm
          subst h3
          exact (show Tryd.prog.wantsStandIn 3 = false by kernel_rfl)
        · simp at ht⟩)
    (by kernel_rfl)
#print axioms exactFloats_holds
end Go.Proofs.YtppebegleedifaaDoor
