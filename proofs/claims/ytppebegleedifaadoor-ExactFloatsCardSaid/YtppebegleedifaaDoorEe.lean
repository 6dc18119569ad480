/- The roots: Root, All, table, at lengths 1, 2, 4. -/
import Derived.Test.YtppebegleedifaaDoorEd
namespace Go.Proofs.YtppebegleedifaaDoor
open Go.RowKit Fw

def nW : Nat → Nat
  | 0 => 9223372036854775808
  | 1 => 13830554455654793216
  | 2 => 9223372036854775808
  | _ => 4607182418800017408
theorem neg_pW (q : Nat) (hq : q < 4) (w : World) : (Op.unary .neg (.float .f64 (pW (sW q)))).run Tryd.prog w = .ok (.float .f64 (nW q)) w := by
  rcases (show q = 0 ∨ q = 1 ∨ q = 2 ∨ q = 3 by omega) with rfl | rfl | rfl | rfl <;> rfl
theorem q_lt {n k : Nat} (hn : n = 1 ∨ n = 2 ∨ n = 4) (hk : k < n) : 4 * k / n < 4 := by rcases hn with rfl | rfl | rfl <;> omega
theorem nW_of (q : Nat) : nW q = 0 ∨ nW q = 4607182418800017408 ∨ nW q = 9223372036854775808 ∨ nW q = 13830554455654793216 := by
  unfold nW
  split <;> simp
/-- The root of place k at length n. -/
def rootV (n k : Nat) : Value := .complex .f64 (pW (cW (4 * k / n))) (pW (nW (4 * k / n)))
def rootA (n k : Nat) : Int := if 4 * k / n = 0 then 1 else if 4 * k / n = 2 then -1 else 0
def rootB (n k : Nat) : Int := if 4 * k / n = 1 then -1 else if 4 * k / n = 3 then 1 else 0
theorem isI_0 : IsI 0 0 := by have := isI_Wz (z := 0) (by decide); rwa [show Wz 0 = 0 by decide] at this
theorem isI_1 : IsI 4607182418800017408 1 := by have := isI_Wz (z := 1) (by decide); rwa [show Wz 1 = 4607182418800017408 by decide] at this
theorem isI_m1 : IsI 13830554455654793216 (-1) := by have := isI_Wz (z := -1) (by decide); rwa [show Wz (-1) = 13830554455654793216 by decide] at this
theorem root_isC (n k : Nat) (hq : 4 * k / n < 4) : IsC (rootV n k) (rootA n k) (rootB n k) := by
  unfold rootV rootA rootB
  generalize 4 * k / n = q at *
  rcases (show q = 0 ∨ q = 1 ∨ q = 2 ∨ q = 3 by omega) with rfl | rfl | rfl | rfl
  · exact ⟨_, _, rfl, isI_1, isI_0⟩
  · exact ⟨_, _, rfl, isI_0, isI_m1⟩
  · exact ⟨_, _, rfl, isI_m1, isI_0⟩
  · exact ⟨_, _, rfl, isI_0, isI_1⟩
theorem rootC_any (n k : Nat) (hn : n = 1 ∨ n = 2 ∨ n = 4) (hk : k < n) (w : World) : Calls Tryd.prog 61 #[.int .i64 n, .int .i64 k] w fun e w' => e = .returned (.tuple #[rootV n k, .nilIface]) ∧ w = w' := by
  obtain ⟨q, hq⟩ : ∃ q, 4 * k / n = q := ⟨_, rfl⟩
  have hneg := fun w => neg_pW q (by rw [← hq]; exact q_lt hn hk) w
  have Hq := Lib.hid hq
  have Hn := Lib.hid hn
  clear hq hn
  go_enter Tryd.func61, Tryd.ntmps61
  go_wp2_with (first
    | (go_at_call 67; refine (pair_any n k q Hn.out hk Hq.out _).mono ?_; rintro e w' ⟨rfl, rfl⟩)
    | (go_at_call 68; refine (plus_f (nW q) (nW_of q) _).mono ?_; rintro e w' ⟨rfl, rfl⟩))
  go_ret2
  exact ⟨by unfold rootV; rw [Hq.out]; rfl, rfl⟩
theorem info53 : (Tryd.prog.info? 53).map (fun i => (i.zero, i.size, i.bytes)) = some (some (.complex .f64 0 0), 1, 16) := by kernel_rfl
theorem cells53 : Tryd.prog.cellsOf 53 = 1 := by kernel_rfl
set_option maxHeartbeats 4000000 in
theorem all_any (n : Nat) (hn : n = 1 ∨ n = 2 ∨ n = 4) (w : World) : Calls Tryd.prog 54 #[.int .i64 n] w fun e w' => ∃ A c, e = .returned (.tuple #[.slice A n c, .nilIface]) ∧ Bld w' w.heap.size 53 (.slice A n c) n (rootV n) ∧ Nx w w' := by
  have hn1 : (1 : Int) ≤ n := by omega
  have hn4 : (n : Int) ≤ 16384 := by omega
  have hn1' : 1 ≤ n := by omega
  have hn4' : n ≤ 4 := by omega
  have Hn := Lib.hid hn
  clear hn
  go_enter Tryd.func54, Tryd.ntmps54
  go_wp2_with (first
    | ((with_reducible show wpList _ _ _ (⟨some 14, _, _, _, _, _⟩ :: _) _ _); refine wpl_makez (w0 := w) rfl _ _ 52 53 (.complex .f64 0 0) 16 rfl Tryd.underlying52 info53 rfl w.heap.size .i64 .i64 (n : Int) (n : Int) n n (fun _ => .complex .f64 0 0) rfl rfl rfl rfl (Nat.le_refl _) (Below.refl _ _) (Nat.le_refl _) (by omega) (by omega) (fun _ _ => rfl) ?_; intro w1 hB hbel))
  obtain ⟨B, hBs⟩ : ∃ B, w.heap.size = B := ⟨_, rfl⟩
  rw [hBs] at hB hbel ⊢
  go_loopw [17] (fun i wr => ∃ k : Nat, ∃ f : Nat → Value, k ≤ n ∧ i = .int .i64 k ∧ Hid (∀ j, j < k → f j = rootV n j) ∧ Bld wr B 53 (.slice (some ⟨B, 0, none⟩) n n) n f ∧ Below B w wr) (fun i _ => n - (intOf i).toNat)
  case atStart => exact ⟨0, _, Nat.zero_le _, rfl, fun j hj => absurd hj (by omega), hB, hbel⟩
  case round =>
    obtain ⟨k, f, hk, rfl, HF, hBr, hbr⟩ := hrel
    clear hB hbel
    by_cases hlt : k < n
    · have hlt' : (k : Int) < n := by omega
      have hc : wr.cell? ⟨B, k, none⟩ = some (f k) := hBr.cell k hlt
      have hfr := hBr.free k
      obtain ⟨p, q, hpq⟩ : ∃ p q, rootV n k = .complex .f64 p q := ⟨_, _, rfl⟩
      have HB2 := Lib.hid (hBr.set k (.complex .f64 p q))
      have Hb2 : Hid (Below B w (wr.setCell ⟨B, k, none⟩ (.complex .f64 p q))) := hbr.setCell (Nat.le_refl B) _
      have Hpq := Lib.hid hpq
      clear hBr hbr hpq
      have hst := run_store Tryd.prog wr ⟨B, k, none⟩ (.complex .f64 p q) .plain rfl
      go_wp2_with (go_at_call 61; refine (rootC_any n k Hn.out hlt _).mono ?_; rw [Hpq.out]; rintro e w2 ⟨rfl, rfl⟩)
      go_roundw
      case rel => exact ⟨k + 1, fun j => if j = k then .complex .f64 p q else f j, by omega, by go_num, fun j hj => (by
        by_cases e : j = k
        · show (if j = k then _ else _) = _; rw [if_pos e, e, Hpq.out]
        · show (if j = k then _ else _) = _; rw [if_neg e]; exact HF.out j (by omega)), HB2.out, Hb2.out⟩
      case measure => simp only [intOf]; omega
    · obtain rfl : n = k := by omega
      go_wp2_with fail
      go_ret2
      exact ⟨_, _, rfl, by rw [hBs]; exact hBr.congr fun j hj => HF.out j hj, by show Below _ _ _; rw [hBs]; exact hbr⟩
theorem table_any (n : Nat) (hn : n = 1 ∨ n = 2 ∨ n = 4) (w : World) : Calls Tryd.prog 42 #[.int .i64 n] w fun e w' => ∃ A c, e = .returned (.tuple #[.slice A n c, .nilIface]) ∧ Bld w' w.heap.size 53 (.slice A n c) n (rootV n) ∧ Nx w w' := by
  have hn1 : (1 : Int) ≤ n := by omega
  have hn4 : (n : Int) ≤ 1024 := by omega
  have Hn := Lib.hid hn
  clear hn
  go_enter Tryd.func42, Tryd.ntmps42
  go_wp2_with fail
  refine (all_any n Hn.out _).mono ?_
  rintro e w' ⟨A, c, rfl, hB, hb⟩
  have HB := Lib.hid hB
  have Hb := Lib.hid hb
  clear hB hb
  go_wp2_with fail
  go_ret2
  exact ⟨A, c, rfl, HB.out, Hb.out⟩
end Go.Proofs.YtppebegleedifaaDoor
