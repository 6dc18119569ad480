/- ExactSmall: for every two lists of whole numbers the law returns true, does not panic, and leaves its arguments reading as before. Conditions: none beyond what the card lists: the errors' variables hold what their initialisers lay (tied to the program's text). -/
import Derived.Test.YtppebegleedifaaDoorZk
import Derived.Test.YtppebegleedifaaDoorYf
namespace Go.Proofs.YtppebegleedifaaDoor
open Go.ChangeShapes Go.WideShapes Go.ChangeAt Go.RowKit

set_option maxRecDepth 100000 in
theorem exactSmall_lifted (os : Os) (started : os.Started) (H : Type) (enc : TypeId × Value → H) :
    ReturnsInHanded {} Tryd.checked os 5 .any (fun w args => (Rows.exactSmallSpec.pre enc Tryd.prog Tryd.f5 [] false w args ∧ laidMetH Tryd.prog Rows.exactSmallRow.laid w) ∧ sizedMet enc Tryd.prog Tryd.f5 (OpenSpec.ofChange Rows.exactSmallSpec) false w args)
      (Rows.exactSmallSpec.post enc Tryd.prog Tryd.f5 false true false false) := by
  refine returnsInHanded_of_change_and (C := Tryd.checked) (X := fun w _ => laidMetH Tryd.prog Rows.exactSmallRow.laid w) (fun _ _ _ hh h => h.of_heap hh) Tryd.own started (by kernel_rfl) Tryd.func5
    (ChangeSpec.witness_at (enc := enc) (C := Tryd.checked) (os := os) (X := fun w _ => laidMetH Tryd.prog Rows.exactSmallRow.laid w) false (laidWorld os) #[.slice none 0 0, .slice none 0 0] 8 rfl (by kernel_rfl) (by kernel_rfl) (by kernel_rfl) (by kernel_rfl) (by kernel_rfl) (laidWorld_met os _)) ?_
  intro W base args ds gs before hval0 hW _ hsz0 hL0 _
  have hL : laidMet Tryd.prog Rows.exactSmallRow.laid W := hL0
  have hsz : (DataW.weightsEach Tryd.prog (Tryd.f5.params.toList ++ Rows.exactSmallSpec.plain.varTypes Tryd.prog) (ds ++ gs)).all (· ≤ reachBytes) = true := hsz0
  clear hsz0 hL0
  have hval : ∀ (j : Nat) t v, Tryd.f5.params[j]? = some t → args[j]? = some v → Value.okWide Tryd.prog W .any base t v := hval0
  have hW' := hW
  obtain ⟨p, q, hA0, hV, rfl, _, _⟩ := hW
  have hA : DataW.TrodAll enc Tryd.prog W 0 (fun _ => true) true Tryd.f5.params.toList args.toList ds p := hA0
  rw [Tryd.params5] at hA hval hsz
  obtain ⟨v0, v1, d0, d1, p0, p1, rfl, rfl, rfl, h0, h1⟩ := trodAll_two hA
  obtain ⟨rfl, rfl⟩ := trodVars_none hV
  obtain ⟨a, hE⟩ := erA_of hL
  have hk0 := h0
  obtain ⟨A0, n0, c0, z0, rfl, hr0, hnil0, hwf0, hd0⟩ := open_rs Tryd.underlying34 Tryd.underlying2 cells2 (hval 0 34 v0 rfl rfl) h0
  obtain ⟨y0, hr0, hx0⟩ := rs_int hr0 hwf0
  have hk1 := h1
  obtain ⟨A1, n1, c1, z1, rfl, hr1, hnil1, hwf1, hd1⟩ := open_rs Tryd.underlying34 Tryd.underlying2 cells2 (hval 1 34 v1 rfl rfl) h1
  obtain ⟨y1, hr1, hx1⟩ := rs_int hr1 hwf1
  clear hA0 hval0
  simp only [List.append_nil] at hW' hsz
  have hlt0 : ∀ x ∈ p0, x.block < W.heap.size := fun x hx => by simpa using hW'.lt x (by simp [hx])
  have hargs0 : ∀ (W' : World), Below W.heap.size W W' → DataW.Trod enc Tryd.prog W' 0 (fun b => decide (b < W.heap.size)) true 34 (.slice A0 n0 c0) d0 p0 :=
    fun W' hn => Below.trod Tryd.laidOut (by kernel_rfl) (of_decide_eq_true (by kernel_rfl)) hk0 hn hlt0
  have hreach0 : n0 * 8 ≤ 140737488351232 := by
    rcases hd0 with rfl | ⟨zs, rfl, hz, hl⟩
    · omega
    · have := sized_slice hsz (j := 0) (t := 34) (e := 2) rfl rfl Tryd.underlying34
      rw [bytes2] at this
      simp only [lits, List.length_map, List.length_take, List.length_drop, reachBytes] at this
      omega
  have hlt1 : ∀ x ∈ p1, x.block < W.heap.size := fun x hx => by simpa using hW'.lt x (by simp [hx])
  have hargs1 : ∀ (W' : World), Below W.heap.size W W' → DataW.Trod enc Tryd.prog W' 0 (fun b => decide (b < W.heap.size)) true 34 (.slice A1 n1 c1) d1 p1 :=
    fun W' hn => Below.trod Tryd.laidOut (by kernel_rfl) (of_decide_eq_true (by kernel_rfl)) hk1 hn hlt1
  have hreach1 : n1 * 8 ≤ 140737488351232 := by
    rcases hd1 with rfl | ⟨zs, rfl, hz, hl⟩
    · omega
    · have := sized_slice hsz (j := 1) (t := 34) (e := 2) rfl rfl Tryd.underlying34
      rw [bytes2] at this
      simp only [lits, List.length_map, List.length_take, List.length_drop, reachBytes] at this
      omega
  refine (smallLaw_any A0 n0 c0 A1 n1 c1 y0 y1 a W hr0 hr1 hnil0 hnil1 hx0 hx1 hreach0 hreach1 hE).mono ?_
  rintro e W' ⟨rfl, hn⟩
  refine ⟨_, rfl, _, _, _, [], _, [], hW', ?_, trodAll_mk2 (hargs0 _ hn) (hargs1 _ hn), rfl, Below.frame hn _, fun h => by cases h⟩
  exact trodAll_mk1 (shut_bool Tryd.underlying4 true)

theorem exactSmall_row : Rows.ExactSmallSaid :=
  OpenClaim.holds_of_wide 5 Tryd.f5 rfl rfl rfl rfl rfl rfl rfl ⟨rfl, rfl, rfl, rfl, rfl⟩ rfl rfl rfl rfl rfl (by kernel_rfl) Tryd.func5 (by kernel_rfl)
    (of_decide_eq_true (by kernel_rfl)) (by unfold Func.isWrapper; first | (rw [if_pos (by decide +kernel)]; kernel_rfl) | (rw [if_neg (by decide +kernel)]; exact ⟨rfl, rfl⟩))
    (fun os started H enc _ => exactSmall_lifted os started H enc)

theorem exactSmall_holds : Rows.ExactSmallCardSaid :=
  Claim7.holds_tied_plain_at .later [] _ true (true, "09c19d681245daaa11b039011db708a4dbde0281d4fe927197cf58d99cd61b83") true
    exactSmall_row (fun _ h => by cases h) (by kernel_rfl) (fun _ h => by cases h) exactSmall_row_tie rfl ⟨rfl, rfl⟩ (by kernel_rfl) rfl
    (fun f fn hf hfn => by
      obtain rfl : f = 5 := Option.some.inj ((show Tryd.prog.funcNamed "timbre/timbrelaw26.ExactSmall" = some 5 by kernel_rfl).symm.trans hf) |>.symm
      obtain rfl : fn = Tryd.f5 := (Option.some.inj (Tryd.func5.symm.trans hfn)).symm
      exact ⟨by kernel_rfl, fun j t ht => by
        rw [Tryd.params5] at ht
        rcases j with _ | _ | j
        · have h3 : t = 34 := by simpa using ht.symm
          subst h3
          exact (show Tryd.prog.wantsStandIn 34 = false by kernel_rfl)
        · have h3 : t = 34 := by simpa using ht.symm
          subst h3
          exact (show Tryd.prog.wantsStandIn 34 = false by kernel_rfl)
        · simp at ht⟩)
    (by kernel_rfl)
#print axioms exactSmall_holds
end Go.Proofs.YtppebegleedifaaDoor
