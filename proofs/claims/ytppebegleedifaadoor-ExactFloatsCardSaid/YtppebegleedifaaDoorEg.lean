/- direct.Forward: the walk. -/
import Derived.Test.YtppebegleedifaaDoorEf
import Derived.Test.YtppebegleedifaaDoorZi
namespace Go.Proofs.YtppebegleedifaaDoor
open Go.RowKit Fw

def reW : Value → Nat
  | .complex _ a _ => a
  | _ => 0
def imW : Value → Nat
  | .complex _ _ b => b
  | _ => 0
set_option maxRecDepth 100000 in
set_option maxHeartbeats 8000000 in
theorem fforward_any (n : Nat) (A : Option Addr) (c : Nat) (p q : Nat → Nat) (x y : Nat → Int) (w : World) (hn : n = 1 ∨ n = 2 ∨ n = 4)
    (hr : RS w A n c (cw p q)) (hp : ∀ j, j < n → IsI (p j) (x j)) (hq : ∀ j, j < n → IsI (q j) (y j))
    (hx : ∀ j, -1099511627776 ≤ x j ∧ x j ≤ 1099511627776) (hy : ∀ j, -1099511627776 ≤ y j ∧ y j ≤ 1099511627776) :
    Calls Tryd.prog 27 #[.slice A n c] w fun e w' => ∃ A2 c2 P Q, e = .returned (.tuple #[.slice A2 n c2, .nilIface]) ∧ Bld w' w.heap.size 53 (.slice A2 n c2) n (cw P Q) ∧ (∀ k, k < n → IsI (P k) (reS n x y k n) ∧ IsI (Q k) (imS n x y k n)) ∧ Nx w w' := by
  have k1 := hr.nc
  have k2 := hr.cm
  have hn1' : 1 ≤ n := by omega
  have hn4' : n ≤ 4 := by omega
  have Hn := Lib.hid hn
  have HR : Hid (∀ w', Nx w w' → RS w' A n c (cw p q)) := fun w' h => hr.nx h
  have Hp := Lib.hid hp
  have Hq := Lib.hid hq
  have Hx := Lib.hid hx
  have Hy := Lib.hid hy
  have HB0 : Hid (Nx w (w.alloc (.cells #[.slice A n c] 52)) ∧ (w.alloc (.cells #[.slice A n c] 52)).cell? ⟨w.heap.size, 0, none⟩ = some (.slice A n c)) := ⟨nx_alloc _ _, by rw [cells_new]⟩
  clear hn hr hp hq hx hy
  go_enter Tryd.func27, Tryd.ntmps27
  go_wp2_with fail
  refine (table_any n Hn.out _).mono ?_
  rintro e w2 ⟨T, ct, rfl, hT, hb⟩
  obtain ⟨cb, hcb⟩ : ∃ b, w.heap.size = b := ⟨_, rfl⟩
  have N2 : Hid (Nx w w2) := HB0.out.1.trans hb
  have hc2 := nx_cell hb HB0.out.2
  rw [hcb] at hc2
  try rw [hcb]
  have HC : Hid (∀ w', Nx w2 w' → w'.cell? ⟨cb, 0, none⟩ = some (.slice A n c)) := fun w' h => nx_cell h hc2
  have HT : Hid (∀ w', Nx w2 w' → RS w' T n ct (rootV n)) := fun w' h => hT.rs.nx h
  have Hcb := Lib.hid hcb
  clear hT hb HB0 hcb
  go_wp2_with ((with_reducible show wpList _ _ _ (⟨some 19, _, _, _, _, _⟩ :: _) _ _); refine wpl_makez (w0 := w2) rfl _ _ 52 53 (.complex .f64 0 0) 16 rfl Tryd.underlying52 info53 rfl w2.heap.size .i64 .i64 (n : Int) (n : Int) n n (fun _ => .complex .f64 0 0) rfl rfl rfl rfl (Nat.le_refl _) (Below.refl _ _) (Nat.le_refl _) (by omega) (by omega) (fun _ _ => rfl) ?_; intro w3 hB hbel; have HB := Lib.hid hB; have Hbel := Lib.hid hbel; clear hB hbel)
  obtain ⟨B, hBs⟩ : ∃ B, w2.heap.size = B := ⟨_, rfl⟩
  have HBs := Lib.hid hBs
  have hB := HB.out
  have hbel := Hbel.out
  rw [hBs] at hB hbel
  rw [hBs]
  clear HB Hbel hBs hc2
  have HB3 := Lib.hid hB
  have Hb3 := Lib.hid hbel
  clear hB hbel
  go_loopw [22] (fun i wr => ∃ k : Nat, ∃ f : Nat → Value, k ≤ n ∧ i = .int .i64 k ∧ Hid (∀ j, j < k → ∃ u v, f j = .complex .f64 u v ∧ IsI u (reS n x y j n) ∧ IsI v (imS n x y j n)) ∧ Bld wr B 53 (.slice (some ⟨B, 0, none⟩) n n) n f ∧ Below B w2 wr) (fun i _ => n - (intOf i).toNat)
  case atStart => exact ⟨0, _, Nat.zero_le _, rfl, fun j hj => absurd hj (by omega), HB3.out, Hb3.out⟩
  case round =>
    obtain ⟨k, f, hk, rfl, HF, hBr, hbr⟩ := hrel
    clear HB3 Hb3
    have hnx : Nx w2 wr := by show Below _ _ _; rw [HBs.out]; exact hbr
    by_cases hlt : k < n
    · have hlt' : (k : Int) < n := by omega
      have hc : wr.cell? ⟨B, k, none⟩ = some (f k) := hBr.cell k hlt
      have hfr := hBr.free k
      have hst := fun (a b : Nat) (w : World) => run_store Tryd.prog w ⟨B, k, none⟩ (.complex .f64 a b) .plain rfl
      have HBr := Lib.hid hBr
      have Hbr := Lib.hid hbr
      have Hnx := Lib.hid hnx
      clear hBr hbr hnx
      go_wp2_with (go_at_call 43; refine (sum_any T n ct k A c p q x y cb _ Hn.out hlt (HT.out _ Hnx.out) (HR.out _ (N2.out.trans Hnx.out)) (HC.out _ Hnx.out) Hp.out Hq.out Hx.out Hy.out).mono ?_; rintro e w' ⟨u, v, rfl, h1, h2, rfl⟩; have H1 := Lib.hid h1; have H2 := Lib.hid h2; clear h1 h2)
      exact ⟨⟨k + 1, fun j => if j = k then .complex .f64 u v else f j, by omega, by go_num, fun j hj => (by
        by_cases e : j = k
        · exact ⟨u, v, by show (if j = k then _ else _) = _; rw [if_pos e], by rw [e]; exact H1.out, by rw [e]; exact H2.out⟩
        · obtain ⟨u', v', h, h'⟩ := HF.out j (by omega)
          exact ⟨u', v', by show (if j = k then _ else _) = _; rw [if_neg e]; exact h, h'⟩), HBr.out.set k (.complex .f64 u v), Hbr.out.setCell (Nat.le_refl B) _⟩, by simp only [intOf]; omega⟩
    · obtain rfl : n = k := by omega
      have Hnx := Lib.hid hnx
      have HBr := Lib.hid hBr
      clear hBr hbr hnx
      go_wp2_with fail
      go_ret2
      refine ⟨_, _, fun j => reW (f j), fun j => imW (f j), rfl, ((HBr.out.mono (by rw [← HBs.out]; exact N2.out.le)).congr fun j hj => ?_), fun j hj => ?_, N2.out.trans Hnx.out⟩
      · obtain ⟨u, v, h, _, _⟩ := HF.out j hj
        show f j = .complex .f64 (reW (f j)) (imW (f j))
        rw [h]; rfl
      · obtain ⟨u, v, h, h1, h2⟩ := HF.out j hj
        show IsI (reW (f j)) _ ∧ IsI (imW (f j)) _
        rw [h]
        exact ⟨h1, h2⟩
end Go.Proofs.YtppebegleedifaaDoor
