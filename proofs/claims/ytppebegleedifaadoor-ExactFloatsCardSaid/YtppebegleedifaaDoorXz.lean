/- The number of an error: Num. -/
import Derived.Test.YtppebegleedifaaDoorXy
namespace Go.Proofs.YtppebegleedifaaDoor
open Go.RowKit
theorem num_nil (w : World) : Calls Tryd.prog 13 #[.nilIface] w fun e w' => e = .returned (.int .i64 0) ∧ w = w' := by
  go_enter Tryd.func13, Tryd.ntmps13
  go_wp2_with fail
  go_ret
  exact ⟨rfl, rfl⟩
section
variable {P : Program} {w : World} {ops : Array Oper} {rest : List Oper} {o : Oper} {a : Act} {Q : Exit → Act → World → Prop}
theorem wpl_index (hg : o.guard = none) (t e : TypeId) (x i : Operand) (hop : o.op = Op.index t x i) (n : Nat) (_ht : P.underlying t = some (.array n e)) (L : Array Value) (k : IntKind) (j : Nat) (hx : a.eval x = .agg L) (hi : a.eval i = .int k (j : Int)) (_hj : j < n)
    (v : Value) (hrun : ∀ w : World, (Instr.index t (.agg L) (.int k (j : Int))).run P w = .ok v w) (hK : wpList P ops Q rest (a.put o.dst v) w) : wpList P ops Q (o :: rest) a w := by
  refine wpList_plain hg fun K hK' => ?_
  unfold Oper.wp
  simp [execOp, hop, hx, hi, hrun, Result.andThen]
  exact hK' _ _ hK
end
theorem run_index62 (a : Nat → Addr) (j : Nat) (hj : j < 19) (w : World) : (Instr.index 62 (.agg (listV a)) (.int .i64 (j : Int))).run Tryd.prog w = .ok (eV a (sg j)) w := by

  rcases (show j = 0 ∨ j = 1 ∨ j = 2 ∨ j = 3 ∨ j = 4 ∨ j = 5 ∨ j = 6 ∨ j = 7 ∨ j = 8 ∨ j = 9 ∨ j = 10 ∨ j = 11 ∨ j = 12 ∨ j = 13 ∨ j = 14 ∨ j = 15 ∨ j = 16 ∨ j = 17 ∨ j = 18 by omega) with rfl | rfl | rfl | rfl | rfl | rfl | rfl | rfl | rfl | rfl | rfl | rfl | rfl | rfl | rfl | rfl | rfl | rfl | rfl <;> kernel_rfl
theorem sg_lt (j : Nat) (h : j < 19) : sg j < 19 := by
  have : ∀ j : Fin 19, sg j.val < 19 := by decide
  exact this ⟨j, h⟩
theorem sg_ne (i j : Nat) (hi : i < 19) (hj : j < 19) (h : i ≠ j) : sg i ≠ sg j := by
  have : ∀ i j : Fin 19, i ≠ j → sg i.val ≠ sg j.val := by decide
  exact this ⟨i, hi⟩ ⟨j, hj⟩ (fun e => h (congrArg Fin.val e))
theorem size128 : (Tryd.prog.info? 128).map (·.size) = some 1 := by kernel_rfl
theorem comp110 : (Tryd.prog.info? 110).map (·.comparable) = some true := by kernel_rfl
theorem eql_same (a : Nat → Addr) (g : Nat) (w : World) : (binOp .eql 26 (eV a g) (eV a g)).run Tryd.prog w = .ok (.bool true) w := by
  obtain ⟨i, hi, hc⟩ := Option.map_eq_some_iff.1 comp110
  obtain ⟨j, hj, _⟩ := Option.map_eq_some_iff.1 size128
  exact run_eql_iface_ptr_same w (a g) Tryd.underlying26 Tryd.underlying110 hi hc hj
theorem eql_other (a : Nat → Addr) (g h : Nat) (hg : g < 19) (hh : h < 19) (hne : g ≠ h) (w : World) (hE : ErA w a) : (binOp .eql 26 (eV a g) (eV a h)).run Tryd.prog w = .ok (.bool false) w := by
  obtain ⟨i, hi, hc⟩ := Option.map_eq_some_iff.1 comp110
  obtain ⟨j, hj, hs⟩ := Option.map_eq_some_iff.1 size128
  obtain ⟨ca, ta, ha⟩ := hE.row g hg
  obtain ⟨cb, tb, hb⟩ := hE.row h hh
  exact run_eql_iface_ptr_other w Tryd.underlying26 Tryd.underlying110 hi hc hj (by rw [hs]; decide) (hE.ne g h hg hh hne) ha hb
set_option maxRecDepth 8000 in
set_option maxHeartbeats 1000000 in
theorem num_var (a : Nat → Addr) (i : Nat) (hi : i < 19) (w : World) (hE : ErA w a) : Calls Tryd.prog 13 #[eV a (sg i)] w fun e w' => e = .returned (.int .i64 ((i + 1 : Nat) : Int)) ∧ Below w.heap.size w w' := by
  have e0 : eV a (sg i) = .iface 110 (.pointer (some (a (sg i)))) := rfl
  have HE := Lib.hid hE
  obtain ⟨L, hL⟩ : ∃ L, listV a = L := ⟨_, rfl⟩
  have HLs : Hid (∀ j : Nat, j < 19 → ∀ w : World, (Instr.index 62 (.agg L) (.int .i64 (j : Int))).run Tryd.prog w = .ok (eV a (sg j)) w) := by
    rw [← hL]; exact run_index62 a
  have HL := Lib.hid hL
  have HS : Hid (∀ w : World, (binOp .eql 26 (eV a (sg i)) (eV a (sg i))).run Tryd.prog w = .ok (.bool true) w) := eql_same a _
  obtain ⟨v0, hv0⟩ : ∃ v0, eV a (sg i) = v0 := ⟨_, rfl⟩
  obtain ⟨p0, hp0⟩ : ∃ p0, a (sg i) = p0 := ⟨_, rfl⟩
  rw [hp0] at e0
  have HV := Lib.hid hv0
  clear hE hL hp0
  rw [e0]
  rw [e0] at hv0
  have H0 := Lib.hid hv0
  have HE0 := Lib.hid e0
  clear hv0 e0
  go_enter Tryd.func13, Tryd.ntmps13
  go_wp2_with (go_at_call 32; refine (list_any a _ HE.out).mono ?_; rw [HL.out]; rintro e w1 ⟨rfl, hb⟩)
  have HE1 := Lib.hid (HE.out.below hb)
  have Hb := Lib.hid hb
  clear hb HE
  go_loopw [8] (fun o wr => ∃ j : Nat, j ≤ i ∧ o = .int .i64 j ∧ wr = w1) (fun o _ => 19 - (intOf o).toNat)
  case atStart => exact ⟨0, Nat.zero_le _, rfl, rfl⟩
  case round =>
    obtain ⟨j, hj, rfl, rfl⟩ := hrel
    have hj19 : (j : Int) < 19 := by omega
    obtain ⟨u, hu⟩ : ∃ u, eV a (sg j) = u := ⟨_, rfl⟩
    have HI := Lib.hid (HLs.out j (by omega))
    rw [hu] at HI
    obtain ⟨b, hb⟩ : ∃ b, (binOp .eql 26 v0 u).run Tryd.prog wr = .ok (.bool b) wr ∧ (b = true → j = i) ∧ (b = false → j < i) := by
      rw [← hu, ← HV.out]
      by_cases e : j = i
      · exact ⟨true, by rw [e]; exact HS.out wr, fun _ => e, fun h => by cases h⟩
      · exact ⟨false, eql_other a _ _ (sg_lt i hi) (sg_lt j (by omega)) (sg_ne i j hi (by omega) (fun x => e x.symm)) _ HE1.out, fun h => (by cases h), fun _ => by omega⟩
    obtain ⟨hrun, hb1, hb2⟩ := hb
    have HR := Lib.hid hrun
    have HU : Hid (u = .iface 110 (.pointer (some (a (sg j))))) := by show _ = _; rw [← hu]; rfl
    clear hrun hu
    rw [H0.out]
    cases b
    · have hji := hb2 rfl
      clear hb1 hb2
      go_wp2_with (first
        | ((with_reducible show wpList _ _ _ (⟨some 11, _, _, _, _, _⟩ :: _) _ _); refine wpl_index rfl 62 26 _ _ rfl 19 Tryd.underlying62 L .i64 j rfl rfl (by omega) u HI.out ?_; simp only [Act.put, List.setIfInBounds_toArray, List.set_cons_succ, List.set_cons_zero])
        | ((with_reducible show wpList _ _ _ (⟨some 14, _, _, _, _, _⟩ :: _) _ _); refine wpl_bin rfl .eql _ _ _ _ rfl v0 u _ rfl rfl (by rw [← H0.out, HU.out]; rfl) HR.out ?_; simp only [Act.put, List.setIfInBounds_toArray, List.set_cons_succ, List.set_cons_zero]))
      go_roundw
      case rel => exact ⟨j + 1, by omega, by go_num, by first | rfl | trivial⟩
      case measure => simp only [intOf]; omega
    · obtain rfl := hb1 rfl
      clear hb1 hb2
      go_wp2_with (first
        | ((with_reducible show wpList _ _ _ (⟨some 11, _, _, _, _, _⟩ :: _) _ _); refine wpl_index rfl 62 26 _ _ rfl 19 Tryd.underlying62 L .i64 j rfl rfl (by omega) u HI.out ?_; simp only [Act.put, List.setIfInBounds_toArray, List.set_cons_succ, List.set_cons_zero])
        | ((with_reducible show wpList _ _ _ (⟨some 14, _, _, _, _, _⟩ :: _) _ _); refine wpl_bin rfl .eql _ _ _ _ rfl v0 u _ rfl rfl (by rw [← H0.out, HU.out]; rfl) HR.out ?_; simp only [Act.put, List.setIfInBounds_toArray, List.set_cons_succ, List.set_cons_zero]))
      go_ret
      exact ⟨by first | rfl | go_num, Hb.out⟩
/-- The error with this number. -/
def erV (a : Nat → Addr) (num : Nat) : Value := if num = 0 then .nilIface else eV a (sg (num - 1))
theorem num_any (a : Nat → Addr) (num : Nat) (hn : num ≤ 19) (w : World) (hE : ErA w a) : Calls Tryd.prog 13 #[erV a num] w fun e w' => e = .returned (.int .i64 (num : Int)) ∧ Below w.heap.size w w' := by
  unfold erV
  by_cases h : num = 0
  · subst h
    rw [if_pos rfl]
    refine (num_nil w).mono ?_
    rintro e w' ⟨rfl, rfl⟩
    exact ⟨rfl, Below.refl _ _⟩
  · rw [if_neg h]
    refine (num_var a (num - 1) (by omega) w hE).mono ?_
    rintro e w' ⟨rfl, hb⟩
    exact ⟨by rw [show num - 1 + 1 = num by omega], hb⟩
end Go.Proofs.YtppebegleedifaaDoor
