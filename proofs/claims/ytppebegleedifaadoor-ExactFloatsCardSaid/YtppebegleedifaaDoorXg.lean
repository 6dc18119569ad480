/- Primes, root of both sides; powers. -/
import Derived.Test.YtppebegleedifaaDoorXf
namespace Go.Proofs.YtppebegleedifaaDoor
open Go.RowKit

theorem info24 : (Tryd.prog.info? 24).map (fun i => (i.zero, i.size, i.bytes)) = some (some (.int .u64 0), 1, 8) := by kernel_rfl
theorem cells24 : Tryd.prog.cellsOf 24 = 1 := by kernel_rfl
def uw (f : Nat → Nat) : Nat → Value := fun j => .int .u64 (f j : Nat)
/-- The errors' variables. -/
structure Ers (w : World) (E : Nat → Value) : Prop where
  cell : ∀ g, g < 4 → w.cell? ⟨g, 0, none⟩ = some (E g)
theorem Ers.below {w w' : World} {E : Nat → Value} (h : Ers w E) (hb : Below w.heap.size w w') : Ers w' E :=
  ⟨fun g hg => (hb.cell (World.block_lt_of_cell? w _ (h.cell g hg))).trans (h.cell g hg)⟩
theorem Ers.drewN {w : World} {E : Nat → Value} (h : Ers w E) (m : Nat) : Ers (w.drewN m) E := ⟨h.cell⟩
def primeF : Nat → Nat := fun j => if j = 0 then 2013265921 else if j = 1 then 1811939329 else 469762049
theorem primes_bld (w : World) : Bld (w.alloc (.cells #[.int .u64 2013265921, .int .u64 1811939329, .int .u64 469762049] 24)) w.heap.size 24 (.slice (some ⟨w.heap.size, 0, none⟩) 3 3) 3 (uw primeF) := by
  refine ⟨⟨by simp, .inr ⟨w.heap.size, 3, _, rfl, Nat.le_refl _, heap_alloc_new w _, by omega, by decide, rfl, ?_⟩⟩, by simp⟩
  rfl
theorem primes_any (w : World) : Calls Tryd.prog 24 #[] w fun e w' => ∃ A c, e = .returned (.slice A 3 c) ∧ Bld w' w.heap.size 24 (.slice A 3 c) 3 (uw primeF) ∧ Below w.heap.size w w' := by
  have h := primes_bld w
  go_enter Tryd.func24, Tryd.ntmps24
  go_wp2_with fail
  go_ret
  exact ⟨_, _, rfl, h, (Below.refl _ _).alloc (Nat.le_refl _) _⟩
theorem primesR_any (w : World) : Calls Tryd.prog 28 #[] w fun e w' => ∃ A c, e = .returned (.slice A 3 c) ∧ Bld w' w.heap.size 24 (.slice A 3 c) 3 (uw primeF) ∧ Below w.heap.size w w' := by
  have h := primes_bld w
  go_enter Tryd.func28, Tryd.ntmps28
  go_wp2_with fail
  go_ret
  exact ⟨_, _, rfl, h, (Below.refl _ _).alloc (Nat.le_refl _) _⟩
set_option maxHeartbeats 1000000 in
theorem root45_ok (n p g : Nat) (T : List Nat) (h : PR p g T) (hn : 1 ≤ n) (hn2 : n ≤ 1024) (hd : (p - 1) % n = 0) (w : World) :
    Calls Tryd.prog 45 #[.int .i64 n, .int .u64 p] w fun e w' => e = .returned (.tuple #[.int .u64 (g ^ ((p - 1) / n) % p : Nat), .nilIface]) ∧ Below w.heap.size w w' := by
  have np2 := h.np.2.1
  have p3 := h.p3
  have g2 := h.g2
  have g1 := h.g1
  obtain ⟨M, hM⟩ : ∃ M, p - 1 = M := ⟨_, rfl⟩
  have hpM : (p : Int) - 1 = (M : Int) := by omega
  have hMl : M < 4294967296 := by omega
  rw [hM] at hd
  rw [hM]
  have e1 : ((M : Int) % n != 0) = false := by simp; omega
  have e2 : (n : Int) ≠ 0 := by omega
  have e4 : (0 : Int) < n := by omega
  obtain ⟨q, hq⟩ : ∃ q, M / n = q := ⟨_, rfl⟩
  have e3 : (M : Int) / n = (q : Int) := by rw [← hq]; rfl
  have hql : q ≤ M := by rw [← hq]; exact Nat.div_le_self _ _
  rw [hq]
  have H := Lib.hid h
  clear h hd hM hq
  go_enter Tryd.func45, Tryd.ntmps45
  go_wp2_with (first
    | (go_at_call 56; refine (root_any p g T H.out _).mono ?_; rintro e w1 ⟨rfl, hb1⟩)
    | (go_at_call 57; refine (pow_any g q p (by omega) (by omega) (by omega) np2 _).mono ?_; rintro e w2 ⟨k, rfl, rfl⟩))
  go_ret2
  exact ⟨rfl, below_drewN hb1 _⟩
set_option maxHeartbeats 1000000 in
theorem root45_no (n p : Nat) (E : Nat → Value) (h2 : 2 ≤ p) (np2 : p < 4294967296) (hn : 1 ≤ n) (hn2 : n ≤ 1024) (hd : (p - 1) % n ≠ 0) (w : World) (hE : Ers w E) :
    Calls Tryd.prog 45 #[.int .i64 n, .int .u64 p] w fun e w' => ∃ k, e = .returned (.tuple #[.int .u64 0, E 3]) ∧ w' = w.drewN k := by
  obtain ⟨M, hM⟩ : ∃ M, p - 1 = M := ⟨_, rfl⟩
  have hpM : (p : Int) - 1 = (M : Int) := by omega
  have hMl : M < 4294967296 := by omega
  rw [hM] at hd
  have e1 : ((M : Int) % n != 0) = true := by rw [bne_iff_ne]; omega
  have e2 : (n : Int) ≠ 0 := by omega
  have e4 : (0 : Int) < n := by omega
  have hc := hE.cell 3 (by decide)
  clear hd hM hE
  go_enter Tryd.func45, Tryd.ntmps45
  go_wp2_with fail
  go_quiet (fail)
  go_wp2_with fail
  go_ret2
  exact ⟨_, rfl, rfl⟩
set_option maxHeartbeats 1000000 in
theorem rootR49_ok (n p g : Nat) (T : List Nat) (h : PR p g T) (hn : 1 ≤ n) (hn2 : n ≤ 1024) (hd : (p - 1) % n = 0) (w : World) :
    Calls Tryd.prog 49 #[.int .i64 n, .int .u64 p] w fun e w' => e = .returned (.tuple #[.int .u64 (g ^ ((p - 1) / n) % p : Nat), .bool true]) ∧ Below w.heap.size w w' := by
  have np2 := h.np.2.1
  have p3 := h.p3
  have g2 := h.g2
  have g1 := h.g1
  obtain ⟨M, hM⟩ : ∃ M, p - 1 = M := ⟨_, rfl⟩
  have hpM : (p : Int) - 1 = (M : Int) := by omega
  have hMl : M < 4294967296 := by omega
  rw [hM] at hd
  rw [hM]
  have e1 : ((M : Int) % n != 0) = false := by simp; omega
  have e2 : (n : Int) ≠ 0 := by omega
  have e4 : (0 : Int) < n := by omega
  obtain ⟨q, hq⟩ : ∃ q, M / n = q := ⟨_, rfl⟩
  have e3 : (M : Int) / n = (q : Int) := by rw [← hq]; rfl
  have hql : q ≤ M := by rw [← hq]; exact Nat.div_le_self _ _
  rw [hq]
  have H := Lib.hid h
  clear h hd hM hq
  go_enter Tryd.func49, Tryd.ntmps49
  go_wp2_with (first
    | (go_at_call 60; refine (rootR_any p g T H.out _).mono ?_; rintro e w1 ⟨rfl, hb1⟩)
    | (go_at_call 33; refine (powR_any g q p (by omega) (by omega) (by omega) np2 _).mono ?_; rintro e w2 ⟨k, rfl, rfl⟩))
  go_ret2
  exact ⟨rfl, below_drewN hb1 _⟩
set_option maxHeartbeats 1000000 in
theorem rootR49_no (n p : Nat) (E : Nat → Value) (h2 : 2 ≤ p) (np2 : p < 4294967296) (hn : 1 ≤ n) (hn2 : n ≤ 1024) (hd : (p - 1) % n ≠ 0) (w : World) (hE : Ers w E) :
    Calls Tryd.prog 49 #[.int .i64 n, .int .u64 p] w fun e w' => ∃ k, e = .returned (.tuple #[.int .u64 0, .bool false]) ∧ w' = w.drewN k := by
  obtain ⟨M, hM⟩ : ∃ M, p - 1 = M := ⟨_, rfl⟩
  have hpM : (p : Int) - 1 = (M : Int) := by omega
  have hMl : M < 4294967296 := by omega
  rw [hM] at hd
  have e1 : ((M : Int) % n != 0) = true := by rw [bne_iff_ne]; omega
  have e2 : (n : Int) ≠ 0 := by omega
  have e4 : (0 : Int) < n := by omega
  have hc := hE.cell 3 (by decide)
  clear hd hM hE
  go_enter Tryd.func49, Tryd.ntmps49
  go_wp2_with fail
  go_ret2
  exact ⟨0, rfl, rfl⟩
def updN (f : Nat → Nat) (k v : Nat) : Nat → Nat := fun i => if i = k then v else f i
theorem upd_uw (f : Nat → Nat) (k v j : Nat) : (if j = k then (Value.int .u64 (v : Nat)) else uw f j) = uw (updN f k v) j := by
  unfold uw updN
  by_cases h : j = k
  · rw [if_pos h, if_pos h]
  · rw [if_neg h, if_neg h]
theorem updN_below {f F : Nat → Nat} {k v : Nat} (h : ∀ j, j < k → f j = F j) (hv : v = F k) : ∀ j, j < k + 1 → updN f k v j = F j := by
  intro j hj
  unfold updN
  by_cases e : j = k
  · rw [if_pos e, e, hv]
  · rw [if_neg e]; exact h j (by omega)
def powF (r p : Nat) : Nat → Nat := fun j => r ^ j % p
theorem powF_succ (r p k : Nat) : powF r p k * r % p = powF r p (k + 1) := by
  unfold powF
  rw [Nat.pow_succ, Nat.mul_mod, Nat.mod_mod, ← Nat.mul_mod]
set_option maxHeartbeats 1000000 in
theorem powers_any (r n p : Nat) (hr : r < p) (h2 : 2 ≤ p) (np2 : p < 4294967296) (hn : 1 ≤ n) (hn2 : n ≤ 1024) (w : World) :
    Calls Tryd.prog 46 #[.int .u64 r, .int .i64 n, .int .u64 p] w fun e w' => ∃ A c, e = .returned (.slice A n c) ∧ Bld w' w.heap.size 24 (.slice A n c) n (uw (powF r p)) ∧ Below w.heap.size w w' := by
  have hn' : (1 : Int) ≤ n := by omega
  have hn2' : (n : Int) ≤ 1024 := by omega
  go_enter Tryd.func46, Tryd.ntmps46
  go_wp2_with (first
    | ((with_reducible show wpList _ _ _ (⟨some 11, _, _, _, _, _⟩ :: _) _ _); refine wpl_makez (w0 := w) rfl _ _ 22 24 (.int .u64 0) 8 rfl Tryd.underlying22 info24 rfl w.heap.size .i64 .i64 (n : Int) (n : Int) n n (fun _ => .int .u64 0) rfl rfl rfl rfl (Nat.le_refl _) (Below.refl _ _) (Nat.le_refl _) (by omega) (by omega) (fun _ _ => rfl) ?_; intro w1 hB hbel))
  obtain ⟨B, hBs⟩ : ∃ B, w.heap.size = B := ⟨_, rfl⟩
  rw [hBs] at hB hbel ⊢
  go_loopw [8, 14] (fun x i wr => ∃ k : Nat, ∃ v : Nat, ∃ f : Nat → Nat, k ≤ n ∧ i = .int .i64 k ∧ x = .int .u64 v ∧ v < p ∧ Hid (v = powF r p k) ∧ Hid (∀ j, j < k → f j = powF r p j) ∧ Bld wr B 24 (.slice (some ⟨B, 0, none⟩) n n) n (uw f) ∧ Below B w wr) (fun _ i _ => n - (intOf i).toNat)
  case atStart => exact ⟨0, 1, fun _ => 0, Nat.zero_le _, rfl, rfl, h2, by show _ = _; unfold powF; rw [Nat.pow_zero, Nat.mod_eq_of_lt h2], fun j hj => absurd hj (by omega), hB, hbel⟩
  case round =>
    obtain ⟨k, v, f, hk, rfl, rfl, hv, HV, HF, hBr, hbr⟩ := hrel
    clear hB hbel
    by_cases hlt : k < n
    · have hlt' : (k : Int) < n := by omega
      have hc : wr.cell? ⟨B, k, none⟩ = some (uw f k) := hBr.cell k hlt
      have hc' : wr.cell? ⟨B, k, none⟩ = some (.int .u64 (f k : Nat)) := hc
      have hfr := hBr.free k
      have HB2 := Lib.hid (hBr.set k (.int .u64 (v : Nat)))
      have Hb2 : Hid (Below B w (wr.setCell ⟨B, k, none⟩ (.int .u64 (v : Nat)))) := hbr.setCell (Nat.le_refl B) _
      have hvm : v < 18446744073709551616 := by omega
      have hrm : r < 18446744073709551616 := by omega
      clear hc hBr hbr
      go_wp2_with (first
        | (go_at_call 47; refine (mul_any v r p hvm hrm (by omega) np2 _).mono ?_; rintro e w2 ⟨k2, rfl, rfl⟩))
      go_roundw
      case rel => exact ⟨k + 1, v * r % p, updN f k v, by omega, by go_num, by go_num, Nat.mod_lt _ (by omega), by show _ = _; rw [HV.out]; exact powF_succ r p k, updN_below HF.out HV.out, (HB2.out.drewN _).congr (fun j _ => upd_uw f k v j), below_drewN Hb2.out _⟩
      case measure => simp only [intOf]; omega
    · obtain rfl : k = n := by omega
      go_wp2_with fail
      go_ret
      exact ⟨_, _, rfl, by rw [hBs]; exact hBr.congr fun j hj => (by unfold uw; rw [HF.out j hj]), by rw [hBs]; exact hbr⟩
end Go.Proofs.YtppebegleedifaaDoor
