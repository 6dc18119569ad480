/- rounded: the walk. -/
import Derived.Test.YtdfbmfmfhdifpaaNk
namespace Go.Proofs.Ytdfbmfmfhdifpaa
open Go.RowKit
section
variable {P : Program} {w : World} {ops : Array Oper} {rest : List Oper} {o : Oper} {a : Act} {Q : Exit → Act → World → Prop}
theorem wpl_bin (hg : o.guard = none) (op : BinOp) (t s : TypeId) (x y : Operand) (hop : o.op = Op.binOp op t x y s) 
    (X Y v : Value) (hx : a.eval x = X) (hy : a.eval y = Y) (hne : (eqGuard op t x y X Y).run P w = .ok () w) (hrun : (binOp op t X Y).run P w = .ok v w) (hK : wpList P ops Q rest (a.put o.dst v) w) :
    wpList P ops Q (o :: rest) a w := by
  refine wpList_plain hg fun K hK' => ?_
  unfold Oper.wp
  simp [execOp, hop, hx, hy, hrun, hne, Result.andThen]
  exact hK' _ _ hK
end
theorem cmp_run (N : Int) (k : Int) (h : N < k) : ∀ w : World, (binOp .geq 39 (.int .u64 N) (.int .u64 k)).run Try.prog w = .ok (.bool false) w := by
  intro w
  simp [binOp, Op.intCmp, h]
/-- The bits of the rounded number of 56 digits. -/
def bitsOf (j m : Nat) : Nat := min (j * 4503599627370496 + m) 9218868437227405312
theorem shl_in (B X : Int) (h0 : 0 ≤ X) (h1 : X ≤ 4095) (hB : 4095 * B ≤ 18446744073709551615) (hB0 : 0 ≤ B) : IntKind.u64.wrap (X * B) = X * B := by
  refine IntWalk.u64_in _ ⟨Int.mul_nonneg h0 hB0, ?_⟩
  have := Int.mul_le_mul_of_nonneg_right h1 hB0
  omega
theorem run_shl52 (X z : Int) (h0 : 0 ≤ X) (h1 : X < 4096) (h : X * 4503599627370496 = z) (w : World) : (binOp .shl 39 (.int .u64 X) (.int .u64 52)).run Try.prog w = .ok (.int .u64 z) w := by
  subst h
  have := shl_in 4503599627370496 X h0 (by omega) (by decide) (by decide)
  simp [binOp, Op.shift]
  exact this
theorem bits_finB (B I j m : Nat) (hI : I = 2047 * B) (z : Int) (hz : ((j : Int) + 1) * B = z) (hm : m ≤ 2 * B) (hj : j ≤ 2045) : z + m - B = ((min (j * B + m) I : Nat) : Int) := by
  subst hz hI
  have : j * B ≤ 2045 * B := Nat.mul_le_mul_right _ hj
  rw [Nat.min_eq_left (by omega), Int.add_mul]
  push_cast
  omega
theorem bits_infB (B I j m : Nat) (hI : I = 2047 * B) (hm : B ≤ m) (hj : 2046 ≤ j) : (I : Int) = ((min (j * B + m) I : Nat) : Int) := by
  subst hI
  have : 2046 * B ≤ j * B := Nat.mul_le_mul_right _ hj
  rw [Nat.min_eq_right (by omega)]
theorem bits_carryB (B I j m : Nat) (hI : I = 2047 * B) (z : Int) (hz : ((j : Int) + 2) * B = z) (hm : m = 2 * B) (hj : j ≤ 2044) : z + B - B = ((min (j * B + m) I : Nat) : Int) := by
  subst hz hI hm
  have : j * B ≤ 2044 * B := Nat.mul_le_mul_right _ hj
  rw [Nat.min_eq_left (by omega), Int.add_mul]
  push_cast
  omega
theorem bits_carry_infB (B I j m : Nat) (hI : I = 2047 * B) (hm : m = 2 * B) (hj : 2045 ≤ j) : (I : Int) = ((min (j * B + m) I : Nat) : Int) := by
  subst hI hm
  have : 2045 * B ≤ j * B := Nat.mul_le_mul_right _ hj
  rw [Nat.min_eq_right (by omega)]
theorem bits_fin (j m : Nat) (z : Int) (hz : ((j : Int) + 1) * 4503599627370496 = z) (hm : m ≤ 9007199254740992) (hj : j ≤ 2045) : z + m - 4503599627370496 = (bitsOf j m : Int) :=
  bits_finB 4503599627370496 9218868437227405312 j m (by decide) z hz hm hj
theorem bits_inf (j m : Nat) (hm : 4503599627370496 ≤ m) (hj : 2046 ≤ j) : (9218868437227405312 : Int) = (bitsOf j m : Int) :=
  bits_infB 4503599627370496 9218868437227405312 j m (by decide) hm hj
theorem bits_carry (j m : Nat) (z : Int) (hz : ((j : Int) + 2) * 4503599627370496 = z) (hm : m = 9007199254740992) (hj : j ≤ 2044) : z + 4503599627370496 - 4503599627370496 = (bitsOf j m : Int) :=
  bits_carryB 4503599627370496 9218868437227405312 j m (by decide) z hz hm hj
theorem bits_carry_inf (j m : Nat) (hm : m = 9007199254740992) (hj : 2045 ≤ j) : (9218868437227405312 : Int) = (bitsOf j m : Int) :=
  bits_carry_infB 4503599627370496 9218868437227405312 j m (by decide) hm hj
theorem run_geq_f (N : Int) (k : Int) (h : N < k) (w : World) : (binOp .geq 39 (.int .u64 N) (.int .u64 k)).run Try.prog w = .ok (.bool false) w := by
  simp [binOp, Op.intCmp, h]
theorem run_eql_f (N : Int) (k : Int) (h : N < k) (w : World) : (binOp .eql 39 (.int .u64 N) (.int .u64 k)).run Try.prog w = .ok (.bool false) w := by
  have : N ≠ k := by omega
  simp [binOp, Op.intCmp, this]
theorem run_lss (N : Int) (k : Int) (b : Bool) (h : decide (N < k) = b) (w : World) : (binOp .lss 39 (.int .u64 N) (.int .u64 k)).run Try.prog w = .ok (.bool b) w := by
  subst h
  simp [binOp, Op.intCmp]
theorem and3 (N : Nat) (h : N < 9007199254740992) : bits .and .u64 ((N : Int) * 4) 3 = 0 := by
  rw [show (N : Int) * 4 = ((N * 4 : Nat) : Int) from by omega, show (3 : Int) = ((3 : Nat) : Int) from rfl, u64_and_nat _ _ (by omega) (by decide), show (3 : Nat) = 2 ^ 2 - 1 from rfl, Nat.and_two_pow_sub_one_eq_mod]
  omega
theorem lss_of (N : Int) (k : Int) : ∃ b, Hid (decide (N < k) = b) ∧ (b = true ∨ (b = false ∧ Hid (k ≤ N))) := by
  by_cases h : N < k
  · exact ⟨true, by show _ = _; simpa using h, .inl rfl⟩
  · exact ⟨false, by show _ = _; simpa using h, .inr ⟨rfl, by show _ ≤ _; omega⟩⟩
set_option maxRecDepth 8000 in
set_option maxHeartbeats 400000 in
theorem rounded_small (N q : Nat) (hq : N * 4 = q) (h : N < 9007199254740992) (w : World) :
    Calls Try.prog 52 #[.int .u64 (q : Int), .int .i64 (-1076), .bool false] w fun e w' => ∃ v, e = .returned (.tuple #[.int .u64 N, v]) ∧ w = w' := by
  have f2 : (q : Int) / 4 = N := by omega
  have f3 := Lib.hid (show (N : Int) < 9007199254740992 by omega)
  have f4 : (0 : Int) ≤ N := by omega
  have f6 : (q : Int) < 36028797018963968 := by omega
  have f1 : bits .and .u64 (q : Int) 3 = 0 := by rw [← hq, ← and3 N h]; rfl
  have e9 := Lib.hid (show (4503599627370496 : Int) + N - 4503599627370496 = N from by omega)
  clear hq h
  obtain ⟨b, hb, h8⟩ := lss_of N 4503599627370496
  rcases h8 with rfl | ⟨rfl, h8⟩
  all_goals
    go_enter Try.func52, Try.ntmps52
    go_wp2_with fail
    go_loopw [8] (fun s wr => s = .int .i64 2 ∧ wr = w) (fun _ _ => 0)
    case atStart => exact ⟨rfl, rfl⟩
    case round =>
      obtain ⟨rfl, rfl⟩ := hrel
      go_wp2_with (first
        | ((with_reducible show wpList _ _ _ (⟨some 19, _, _, _, _, _⟩ :: _) _ _); refine wpl_bin rfl .geq _ _ _ _ rfl _ _ _ rfl rfl rfl (run_geq_f _ _ f3.out _) ?_; simp only [Act.put, List.setIfInBounds_toArray, List.set_cons_succ, List.set_cons_zero])
        | ((with_reducible show wpList _ _ _ (⟨some 60, _, _, _, _, _⟩ :: _) _ _); refine wpl_bin rfl .eql _ _ _ _ rfl _ _ _ rfl rfl rfl (run_eql_f _ _ f3.out _) ?_; simp only [Act.put, List.setIfInBounds_toArray, List.set_cons_succ, List.set_cons_zero])
        | ((with_reducible show wpList _ _ _ (⟨some 66, _, _, _, _, _⟩ :: _) _ _); refine wpl_bin rfl .lss _ _ _ _ rfl _ _ _ rfl rfl rfl (run_lss _ _ _ hb.out _) ?_; simp only [Act.put, List.setIfInBounds_toArray, List.set_cons_succ, List.set_cons_zero]))
      all_goals
        (go_ret2; first | exact ⟨_, rfl, rfl⟩ | exact ⟨_, congrArg (fun z => Ending.returned (Value.tuple #[Value.int .u64 z, Value.bool false])) e9.out, rfl⟩)

theorem and7 (q : Nat) (h : q < 72057594037927936) : bits .and .u64 (q : Int) 7 = ((q % 8 : Nat) : Int) := by
  rw [show (7 : Int) = ((7 : Nat) : Int) from rfl, u64_and_nat _ _ (by omega) (by decide), show (7 : Nat) = 2 ^ 3 - 1 from rfl, Nat.and_two_pow_sub_one_eq_mod]
theorem run_geq_t (N : Int) (k : Int) (h : k ≤ N) (w : World) : (binOp .geq 39 (.int .u64 N) (.int .u64 k)).run Try.prog w = .ok (.bool true) w := by
  simp [binOp, Op.intCmp, h]
theorem run_lss_f (N : Int) (k : Int) (h : k ≤ N) (w : World) : (binOp .lss 39 (.int .u64 N) (.int .u64 k)).run Try.prog w = .ok (.bool false) w := by
  simp [binOp, Op.intCmp, h]
theorem run_eql_t (N : Int) (k : Int) (h : N = k) (w : World) : (binOp .eql 39 (.int .u64 N) (.int .u64 k)).run Try.prog w = .ok (.bool true) w := by
  subst h
  simp [binOp, Op.intCmp]
set_option maxRecDepth 8000 in
set_option maxHeartbeats 800000 in
theorem rounded_down (q m0 j : Nat) (more : Bool) (z r : Int) (w : World) (hq : (q : Int) / 8 = m0) (hr : bits .and .u64 (q : Int) 7 = r)
    (g0 : Hid ((9007199254740992 : Int) ≤ q)) (g1 : Hid ((9007199254740992 : Int) ≤ (q : Int) / 2)) (g2 : Hid ((9007199254740992 : Int) ≤ (q : Int) / 4)) (g3 : Hid ((m0 : Int) < 9007199254740992))
    (g4 : Hid ((4503599627370496 : Int) ≤ m0)) (fin : Hid (j ≤ 2045 → z + m0 - 4503599627370496 = (bitsOf j m0 : Int))) (inf : Hid (2046 ≤ j → (9218868437227405312 : Int) = (bitsOf j m0 : Int))) (g5 : (0 : Int) ≤ m0) (g6 : (m0 : Int) ≤ 9007199254740992) (hq56 : (q : Int) < 72057594037927936) (hj : 1 ≤ j) (hj2 : j ≤ 3000)
    (hz : Hid (((j : Int) + 1) * 4503599627370496 = z)) (hz0 : 9007199254740992 ≤ z) (hz1 : z ≤ 17000000000000000000)
    (hr0 : 0 ≤ r) (hup : Hid ((r < 4 ∧ r ≤ 4 ∧ ¬ 4 < r ∧ r ≠ 4) ∨ r = 4 ∧ more = false ∧ (m0 : Int) % 2 = 0)) :
    Calls Try.prog 52 #[.int .u64 (q : Int), .int .i64 ((j : Int) - 1077), .bool more] w fun e w' => ∃ v, e = .returned (.tuple #[.int .u64 (bitsOf j m0), v]) ∧ w = w' := by
  rcases hup.out with ⟨h1, h2, h3, h4⟩ | ⟨rfl, rfl, h1⟩
  all_goals clear hup
  all_goals rcases (show (971 : Int) < (j : Int) - 1077 + 3 ∨ ¬ (971 : Int) < (j : Int) - 1077 + 3 from by omega) with hJ | hJ
  all_goals
  go_enter Try.func52, Try.ntmps52
  repeat (first | go_values | go_skip | go_guarded | go_step | go_upon)
  go_loopw [8] (fun s wr => (∃ n : Int, 0 ≤ n ∧ n ≤ 3 ∧ s = .int .i64 n) ∧ wr = w) (fun s _ => (3 - intOf s).toNat)
  case atStart => exact ⟨⟨_, by first | (split <;> omega) | omega, by first | (split <;> omega) | omega, rfl⟩, rfl⟩
  case round =>
    obtain ⟨⟨n, hn0, hn, rfl⟩, rfl⟩ := hrel
    rcases (show n = 0 ∨ n = 1 ∨ n = 2 ∨ n = 3 by omega) with rfl | rfl | rfl | rfl
    · repeat (first
        | ((with_reducible show wpList _ _ _ (⟨some 19, _, _, _, _, _⟩ :: _) _ _); refine wpl_bin rfl .geq _ _ _ _ rfl _ _ _ rfl rfl rfl (run_geq_t _ _ g0.out _) ?_; simp only [Act.put, List.setIfInBounds_toArray, List.set_cons_succ, List.set_cons_zero])
        | go_values | go_skip | go_guarded | go_step | go_upon)
      exact ⟨⟨⟨_, by decide, by decide, rfl⟩, trivial⟩, by decide⟩
    · repeat (first
        | ((with_reducible show wpList _ _ _ (⟨some 19, _, _, _, _, _⟩ :: _) _ _); refine wpl_bin rfl .geq _ _ _ _ rfl _ _ _ rfl rfl rfl (run_geq_t _ _ g1.out _) ?_; simp only [Act.put, List.setIfInBounds_toArray, List.set_cons_succ, List.set_cons_zero])
        | go_values | go_skip | go_guarded | go_step | go_upon)
      exact ⟨⟨⟨_, by decide, by decide, rfl⟩, trivial⟩, by decide⟩
    · repeat (first
        | ((with_reducible show wpList _ _ _ (⟨some 19, _, _, _, _, _⟩ :: _) _ _); refine wpl_bin rfl .geq _ _ _ _ rfl _ _ _ rfl rfl rfl (run_geq_t _ _ g2.out _) ?_; simp only [Act.put, List.setIfInBounds_toArray, List.set_cons_succ, List.set_cons_zero])
        | go_values | go_skip | go_guarded | go_step | go_upon)
      exact ⟨⟨⟨_, by decide, by decide, rfl⟩, trivial⟩, by decide⟩
    · repeat (first
        | ((with_reducible show wpList _ _ _ (⟨some 19, _, _, _, _, _⟩ :: _) _ _); refine wpl_bin rfl .geq _ _ _ _ rfl _ _ _ rfl rfl rfl (run_geq_f _ _ g3.out _) ?_; simp only [Act.put, List.setIfInBounds_toArray, List.set_cons_succ, List.set_cons_zero])
        | ((with_reducible show wpList _ _ _ (⟨some 60, _, _, _, _, _⟩ :: _) _ _); refine wpl_bin rfl .eql _ _ _ _ rfl _ _ _ rfl rfl rfl (run_eql_f _ _ g3.out _) ?_; simp only [Act.put, List.setIfInBounds_toArray, List.set_cons_succ, List.set_cons_zero])
        | ((with_reducible show wpList _ _ _ (⟨some 66, _, _, _, _, _⟩ :: _) _ _); refine wpl_bin rfl .lss _ _ _ _ rfl _ _ _ rfl rfl rfl (run_lss_f _ _ g4.out _) ?_; simp only [Act.put, List.setIfInBounds_toArray, List.set_cons_succ, List.set_cons_zero])
        | ((with_reducible show wpList _ _ _ (⟨some 73, _, _, _, _, _⟩ :: _) _ _); refine wpl_bin rfl .shl _ _ _ _ rfl _ _ _ rfl rfl rfl (run_shl52 _ z (by omega) (by omega) ((congrArg (· * (4503599627370496 : Int)) (show _ = (j : Int) + 1 by omega)).trans hz.out) _) ?_; simp only [Act.put, List.setIfInBounds_toArray, List.set_cons_succ, List.set_cons_zero])
        | go_values | go_skip | go_guarded | go_step | go_upon)
      go_ret2
      first
        | exact ⟨_, congrArg (fun z => Ending.returned (.tuple #[.int .u64 z, .bool true])) (inf.out (by omega)), rfl⟩
        | exact ⟨_, congrArg (fun z => Ending.returned (.tuple #[.int .u64 z, .bool false])) (fin.out (by omega)), rfl⟩
set_option maxRecDepth 8000 in
set_option maxHeartbeats 800000 in
theorem rounded_up (q m0 j : Nat) (more : Bool) (z r : Int) (w : World) (hq : (q : Int) / 8 = m0) (hr : bits .and .u64 (q : Int) 7 = r)
    (g0 : Hid ((9007199254740992 : Int) ≤ q)) (g1 : Hid ((9007199254740992 : Int) ≤ (q : Int) / 2)) (g2 : Hid ((9007199254740992 : Int) ≤ (q : Int) / 4)) (g3 : Hid ((m0 : Int) < 9007199254740992))
    (g4 : Hid ((4503599627370496 : Int) ≤ (m0 : Int) + 1)) (g7 : Hid ((m0 : Int) + 1 < 9007199254740992)) (fin : Hid (j ≤ 2045 → z + ((m0 : Int) + 1) - 4503599627370496 = (bitsOf j (m0 + 1) : Int))) (inf : Hid (2046 ≤ j → (9218868437227405312 : Int) = (bitsOf j (m0 + 1) : Int))) (g5 : (0 : Int) ≤ m0) (g6 : (m0 : Int) ≤ 9007199254740992) (hq56 : (q : Int) < 72057594037927936) (hj : 1 ≤ j) (hj2 : j ≤ 3000)
    (hz : Hid (((j : Int) + 1) * 4503599627370496 = z)) (hz0 : 9007199254740992 ≤ z) (hz1 : z ≤ 17000000000000000000)
    (hr0 : 0 ≤ r) (hup : Hid ((4 < r ∧ ¬ r ≤ 4 ∧ r ≠ 4) ∨ (r = 4 ∧ more = true) ∨ r = 4 ∧ more = false ∧ (m0 : Int) % 2 = 1)) :
    Calls Try.prog 52 #[.int .u64 (q : Int), .int .i64 ((j : Int) - 1077), .bool more] w fun e w' => ∃ v, e = .returned (.tuple #[.int .u64 (bitsOf j (m0 + 1)), v]) ∧ w = w' := by
  rcases hup.out with ⟨h1, h2, h3⟩ | ⟨rfl, rfl⟩ | ⟨rfl, rfl, h1⟩
  all_goals clear hup
  all_goals rcases (show (971 : Int) < (j : Int) - 1077 + 3 ∨ ¬ (971 : Int) < (j : Int) - 1077 + 3 from by omega) with hJ | hJ
  all_goals
  go_enter Try.func52, Try.ntmps52
  repeat (first | go_values | go_skip | go_guarded | go_step | go_upon)
  go_loopw [8] (fun s wr => (∃ n : Int, 0 ≤ n ∧ n ≤ 3 ∧ s = .int .i64 n) ∧ wr = w) (fun s _ => (3 - intOf s).toNat)
  case atStart => exact ⟨⟨_, by first | (split <;> omega) | omega, by first | (split <;> omega) | omega, rfl⟩, rfl⟩
  case round =>
    obtain ⟨⟨n, hn0, hn, rfl⟩, rfl⟩ := hrel
    rcases (show n = 0 ∨ n = 1 ∨ n = 2 ∨ n = 3 by omega) with rfl | rfl | rfl | rfl
    · repeat (first
        | ((with_reducible show wpList _ _ _ (⟨some 19, _, _, _, _, _⟩ :: _) _ _); refine wpl_bin rfl .geq _ _ _ _ rfl _ _ _ rfl rfl rfl (run_geq_t _ _ g0.out _) ?_; simp only [Act.put, List.setIfInBounds_toArray, List.set_cons_succ, List.set_cons_zero])
        | go_values | go_skip | go_guarded | go_step | go_upon)
      exact ⟨⟨⟨_, by decide, by decide, rfl⟩, trivial⟩, by decide⟩
    · repeat (first
        | ((with_reducible show wpList _ _ _ (⟨some 19, _, _, _, _, _⟩ :: _) _ _); refine wpl_bin rfl .geq _ _ _ _ rfl _ _ _ rfl rfl rfl (run_geq_t _ _ g1.out _) ?_; simp only [Act.put, List.setIfInBounds_toArray, List.set_cons_succ, List.set_cons_zero])
        | go_values | go_skip | go_guarded | go_step | go_upon)
      exact ⟨⟨⟨_, by decide, by decide, rfl⟩, trivial⟩, by decide⟩
    · repeat (first
        | ((with_reducible show wpList _ _ _ (⟨some 19, _, _, _, _, _⟩ :: _) _ _); refine wpl_bin rfl .geq _ _ _ _ rfl _ _ _ rfl rfl rfl (run_geq_t _ _ g2.out _) ?_; simp only [Act.put, List.setIfInBounds_toArray, List.set_cons_succ, List.set_cons_zero])
        | go_values | go_skip | go_guarded | go_step | go_upon)
      exact ⟨⟨⟨_, by decide, by decide, rfl⟩, trivial⟩, by decide⟩
    · repeat (first
        | ((with_reducible show wpList _ _ _ (⟨some 19, _, _, _, _, _⟩ :: _) _ _); refine wpl_bin rfl .geq _ _ _ _ rfl _ _ _ rfl rfl rfl (run_geq_f _ _ g3.out _) ?_; simp only [Act.put, List.setIfInBounds_toArray, List.set_cons_succ, List.set_cons_zero])
        | ((with_reducible show wpList _ _ _ (⟨some 60, _, _, _, _, _⟩ :: _) _ _); refine wpl_bin rfl .eql _ _ _ _ rfl _ _ _ rfl rfl rfl (run_eql_f _ _ g7.out _) ?_; simp only [Act.put, List.setIfInBounds_toArray, List.set_cons_succ, List.set_cons_zero])
        | ((with_reducible show wpList _ _ _ (⟨some 66, _, _, _, _, _⟩ :: _) _ _); refine wpl_bin rfl .lss _ _ _ _ rfl _ _ _ rfl rfl rfl (run_lss_f _ _ g4.out _) ?_; simp only [Act.put, List.setIfInBounds_toArray, List.set_cons_succ, List.set_cons_zero])
        | ((with_reducible show wpList _ _ _ (⟨some 73, _, _, _, _, _⟩ :: _) _ _); refine wpl_bin rfl .shl _ _ _ _ rfl _ _ _ rfl rfl rfl (run_shl52 _ z (by omega) (by omega) ((congrArg (· * (4503599627370496 : Int)) (show _ = (j : Int) + 1 by omega)).trans hz.out) _) ?_; simp only [Act.put, List.setIfInBounds_toArray, List.set_cons_succ, List.set_cons_zero])
        | go_values | go_skip | go_guarded | go_step | go_upon)
      go_ret2
      first
        | exact ⟨_, congrArg (fun z => Ending.returned (.tuple #[.int .u64 z, .bool true])) (inf.out (by omega)), rfl⟩
        | exact ⟨_, congrArg (fun z => Ending.returned (.tuple #[.int .u64 z, .bool false])) (fin.out (by omega)), rfl⟩
set_option maxRecDepth 8000 in
set_option maxHeartbeats 800000 in
theorem rounded_carry (q m0 j : Nat) (more : Bool) (z r : Int) (w : World) (hq : (q : Int) / 8 = m0) (hr : bits .and .u64 (q : Int) 7 = r)
    (g0 : Hid ((9007199254740992 : Int) ≤ q)) (g1 : Hid ((9007199254740992 : Int) ≤ (q : Int) / 2)) (g2 : Hid ((9007199254740992 : Int) ≤ (q : Int) / 4)) (g3 : Hid ((m0 : Int) < 9007199254740992))
    (g7 : Hid ((m0 : Int) + 1 = 9007199254740992)) (g8 : ((m0 : Int) + 1) / 2 = 4503599627370496) (fin : Hid (j ≤ 2044 → z = (bitsOf j (m0 + 1) : Int))) (inf : Hid (2045 ≤ j → (9218868437227405312 : Int) = (bitsOf j (m0 + 1) : Int))) (g5 : (0 : Int) ≤ m0) (g6 : (m0 : Int) ≤ 9007199254740992) (hq56 : (q : Int) < 72057594037927936) (hj : 1 ≤ j) (hj2 : j ≤ 3000)
    (hz : Hid (((j : Int) + 2) * 4503599627370496 = z)) (hz0 : 9007199254740992 ≤ z) (hz1 : z ≤ 17000000000000000000)
    (hr0 : 0 ≤ r) (hup : Hid ((4 < r ∧ ¬ r ≤ 4 ∧ r ≠ 4) ∨ (r = 4 ∧ more = true) ∨ r = 4 ∧ more = false ∧ (m0 : Int) % 2 = 1)) :
    Calls Try.prog 52 #[.int .u64 (q : Int), .int .i64 ((j : Int) - 1077), .bool more] w fun e w' => ∃ v, e = .returned (.tuple #[.int .u64 (bitsOf j (m0 + 1)), v]) ∧ w = w' := by
  rcases hup.out with ⟨h1, h2, h3⟩ | ⟨rfl, rfl⟩ | ⟨rfl, rfl, h1⟩
  all_goals clear hup
  all_goals rcases (show (971 : Int) < (j : Int) - 1077 + 3 + 1 ∨ ¬ (971 : Int) < (j : Int) - 1077 + 3 + 1 from by omega) with hJ | hJ
  all_goals
  go_enter Try.func52, Try.ntmps52
  repeat (first | go_values | go_skip | go_guarded | go_step | go_upon)
  go_loopw [8] (fun s wr => (∃ n : Int, 0 ≤ n ∧ n ≤ 3 ∧ s = .int .i64 n) ∧ wr = w) (fun s _ => (3 - intOf s).toNat)
  case atStart => exact ⟨⟨_, by first | (split <;> omega) | omega, by first | (split <;> omega) | omega, rfl⟩, rfl⟩
  case round =>
    obtain ⟨⟨n, hn0, hn, rfl⟩, rfl⟩ := hrel
    rcases (show n = 0 ∨ n = 1 ∨ n = 2 ∨ n = 3 by omega) with rfl | rfl | rfl | rfl
    · repeat (first
        | ((with_reducible show wpList _ _ _ (⟨some 19, _, _, _, _, _⟩ :: _) _ _); refine wpl_bin rfl .geq _ _ _ _ rfl _ _ _ rfl rfl rfl (run_geq_t _ _ g0.out _) ?_; simp only [Act.put, List.setIfInBounds_toArray, List.set_cons_succ, List.set_cons_zero])
        | go_values | go_skip | go_guarded | go_step | go_upon)
      exact ⟨⟨⟨_, by decide, by decide, rfl⟩, trivial⟩, by decide⟩
    · repeat (first
        | ((with_reducible show wpList _ _ _ (⟨some 19, _, _, _, _, _⟩ :: _) _ _); refine wpl_bin rfl .geq _ _ _ _ rfl _ _ _ rfl rfl rfl (run_geq_t _ _ g1.out _) ?_; simp only [Act.put, List.setIfInBounds_toArray, List.set_cons_succ, List.set_cons_zero])
        | go_values | go_skip | go_guarded | go_step | go_upon)
      exact ⟨⟨⟨_, by decide, by decide, rfl⟩, trivial⟩, by decide⟩
    · repeat (first
        | ((with_reducible show wpList _ _ _ (⟨some 19, _, _, _, _, _⟩ :: _) _ _); refine wpl_bin rfl .geq _ _ _ _ rfl _ _ _ rfl rfl rfl (run_geq_t _ _ g2.out _) ?_; simp only [Act.put, List.setIfInBounds_toArray, List.set_cons_succ, List.set_cons_zero])
        | go_values | go_skip | go_guarded | go_step | go_upon)
      exact ⟨⟨⟨_, by decide, by decide, rfl⟩, trivial⟩, by decide⟩
    · repeat (first
        | ((with_reducible show wpList _ _ _ (⟨some 19, _, _, _, _, _⟩ :: _) _ _); refine wpl_bin rfl .geq _ _ _ _ rfl _ _ _ rfl rfl rfl (run_geq_f _ _ g3.out _) ?_; simp only [Act.put, List.setIfInBounds_toArray, List.set_cons_succ, List.set_cons_zero])
        | ((with_reducible show wpList _ _ _ (⟨some 60, _, _, _, _, _⟩ :: _) _ _); refine wpl_bin rfl .eql _ _ _ _ rfl _ _ _ rfl rfl rfl (run_eql_t _ _ g7.out _) ?_; simp only [Act.put, List.setIfInBounds_toArray, List.set_cons_succ, List.set_cons_zero])
        | ((with_reducible show wpList _ _ _ (⟨some 66, _, _, _, _, _⟩ :: _) _ _); refine wpl_bin rfl .lss _ _ _ _ rfl _ _ _ rfl rfl rfl (run_lss_f _ _ (by first | exact Int.le_refl _ | exact Int.le_of_eq g8.symm) _) ?_; simp only [Act.put, List.setIfInBounds_toArray, List.set_cons_succ, List.set_cons_zero])
        | ((with_reducible show wpList _ _ _ (⟨some 73, _, _, _, _, _⟩ :: _) _ _); refine wpl_bin rfl .shl _ _ _ _ rfl _ _ _ rfl rfl rfl (run_shl52 _ z (by omega) (by omega) ((congrArg (· * (4503599627370496 : Int)) (show _ = (j : Int) + 2 by omega)).trans hz.out) _) ?_; simp only [Act.put, List.setIfInBounds_toArray, List.set_cons_succ, List.set_cons_zero])
        | go_values | go_skip | go_guarded | go_step | go_upon)
      go_ret2
      first
        | exact ⟨_, congrArg (fun z => Ending.returned (.tuple #[.int .u64 z, .bool true])) (inf.out (by omega)), rfl⟩
        | exact ⟨_, congrArg (fun z => Ending.returned (.tuple #[.int .u64 z, .bool false])) (fin.out (by omega)), rfl⟩
theorem z_bounds (B : Int) (hB : 0 ≤ B) (j c : Nat) (hj : 1 ≤ j) (hc1 : 1 ≤ c) (hc : c ≤ 2) (hj2 : j ≤ 3000) (z : Int) (hz : ((j : Int) + c) * B = z) : 2 * B ≤ z ∧ z ≤ 3002 * B := by
  subst hz
  exact ⟨Int.mul_le_mul_of_nonneg_right (by omega) hB, Int.mul_le_mul_of_nonneg_right (by omega) hB⟩
set_option maxRecDepth 8000 in
theorem nrounded_any (q j : Nat) (more : Bool) (w : World) (h1 : 36028797018963968 ≤ q) (h2 : q < 72057594037927936) (hj : 1 ≤ j) (hj2 : j ≤ 3000) :
    Calls Try.prog 52 #[.int .u64 (q : Int), .int .i64 ((j : Int) - 1077), .bool more] w fun e w' => ∃ v, e = .returned (.tuple #[.int .u64 (bitsOf j (up3 q more)), v]) ∧ w = w' := by
  obtain ⟨m0, hm0⟩ : ∃ m, q / 8 = m := ⟨_, rfl⟩
  have hq : (q : Int) / 8 = m0 := by omega
  obtain ⟨rr, hrr⟩ : ∃ r, q % 8 = r := ⟨_, rfl⟩
  have hr : bits .and .u64 (q : Int) 7 = (rr : Int) := by rw [and7 q h2, hrr]
  have hup : up3 q more = m0 + (if 4 < rr ∨ (rr = 4 ∧ (more = true ∨ m0 % 2 = 1)) then 1 else 0) := by unfold up3; rw [hm0, hrr]
  have g0 : Hid ((9007199254740992 : Int) ≤ q) := by show _ ≤ _; omega
  have g1 : Hid ((9007199254740992 : Int) ≤ (q : Int) / 2) := by show _ ≤ _; omega
  have g2 : Hid ((9007199254740992 : Int) ≤ (q : Int) / 4) := by show _ ≤ _; omega
  have g3 : Hid ((m0 : Int) < 9007199254740992) := by show _ < _; omega
  have hb4 : 4503599627370496 ≤ m0 := by omega
  have hb5 : m0 < 9007199254740992 := by omega
  have hr8 : rr < 8 := by omega
  obtain ⟨z, hz⟩ : ∃ z, ((j : Int) + 1) * 4503599627370496 = z := ⟨_, rfl⟩
  obtain ⟨z2, hz2⟩ : ∃ z, ((j : Int) + 2) * 4503599627370496 = z := ⟨_, rfl⟩
  have b1 := z_bounds 4503599627370496 (by decide) j 1 hj (by decide) (by decide) hj2 z hz
  have b2 := z_bounds 4503599627370496 (by decide) j 2 hj (by decide) (by decide) hj2 z2 hz2
  have b1' : 9007199254740992 ≤ z ∧ z ≤ 17000000000000000000 := by omega
  have b2' : 9007199254740992 ≤ z2 ∧ z2 ≤ 17000000000000000000 := by omega
  clear b1 b2
  by_cases hc : 4 < rr ∨ (rr = 4 ∧ (more = true ∨ m0 % 2 = 1))
  · rw [hup, if_pos hc]
    have hu : Hid ((4 < (rr : Int) ∧ ¬ (rr : Int) ≤ 4 ∧ (rr : Int) ≠ 4) ∨ ((rr : Int) = 4 ∧ more = true) ∨ (rr : Int) = 4 ∧ more = false ∧ (m0 : Int) % 2 = 1) := by
      show _ ∨ _
      rcases hc with h | ⟨h, h' | h'⟩
      · left; omega
      · right; left; exact ⟨by omega, h'⟩
      · right
        cases more
        · right; exact ⟨by omega, rfl, by omega⟩
        · left; exact ⟨by omega, rfl⟩
    by_cases hd : m0 + 1 < 9007199254740992
    · exact rounded_up q m0 j more z rr w hq hr g0 g1 g2 g3 (by show _ ≤ _; omega) (by show _ < _; omega)
        (by intro h; exact (bits_fin j (m0 + 1) z hz (by omega) h)) (by intro h; exact bits_inf j (m0 + 1) (by omega) h) (by omega) (by omega) (by omega) hj hj2 hz b1'.1 b1'.2 (by omega) hu
    · exact rounded_carry q m0 j more z2 rr w hq hr g0 g1 g2 g3 (by show _ = _; omega) (by omega)
        (by intro h; have := bits_carry j (m0 + 1) z2 hz2 (by omega) h; omega) (by intro h; exact bits_carry_inf j (m0 + 1) (by omega) h) (by omega) (by omega) (by omega) hj hj2 hz2 b2'.1 b2'.2 (by omega) hu
  · rw [hup, if_neg hc]
    have hu : Hid (((rr : Int) < 4 ∧ (rr : Int) ≤ 4 ∧ ¬ 4 < (rr : Int) ∧ (rr : Int) ≠ 4) ∨ (rr : Int) = 4 ∧ more = false ∧ (m0 : Int) % 2 = 0) := by
      show _ ∨ _
      by_cases h4 : rr = 4
      · right
        cases more
        · refine ⟨by omega, rfl, ?_⟩
          have : ¬ m0 % 2 = 1 := fun h => hc (.inr ⟨h4, .inr h⟩)
          omega
        · exact absurd (.inr ⟨h4, .inl rfl⟩) hc
      · left
        have : ¬ 4 < rr := fun h => hc (.inl h)
        omega
    exact rounded_down q m0 j more z rr w hq hr g0 g1 g2 g3 (by show _ ≤ _; omega)
        (by intro h; exact bits_fin j m0 z hz (by omega) h) (by intro h; exact bits_inf j m0 (by omega) h) (by omega) (by omega) (by omega) hj hj2 hz b1'.1 b1'.2 (by omega) hu
end Go.Proofs.Ytdfbmfmfhdifpaa
