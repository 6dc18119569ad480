/- Forward, Inverse of both sides. -/
import Derived.Test.YtppebegleedifaaDoorXl
namespace Go.Proofs.YtppebegleedifaaDoor
open Go.RowKit

/-- The error's number of a list's length and a prime's number. -/
def eN (i : Int) (n : Nat) : Nat := if i < 0 ∨ 3 ≤ i then 17 else if n < 1 ∨ 1024 < n then 7 else if (primeF i.toNat - 1) % n ≠ 0 then 11 else 0
def eVal (a : Nat → Addr) (num : Nat) : Value := if num = 17 then eV a 2 else if num = 7 then eV a 0 else if num = 11 then eV a 3 else .nilIface
def mN (i : Int) (n : Nat) : Nat := if eN i n = 0 then n else 0
/-- The transforms, both ways. -/
def tF (b : Bool) (i : Int) (n : Nat) (x : Nat → Nat) : Nat → Nat :=
  if b then fun k => dsum x (powF (rootN i.toNat n ^ (primeF i.toNat - 2) % primeF i.toNat) (primeF i.toNat) k) (primeF i.toNat) n * (n ^ (primeF i.toNat - 2) % primeF i.toNat) % primeF i.toNat
  else dftN x (rootN i.toNat n) (primeF i.toNat) n
theorem eN_cases (i : Int) (n : Nat) : (eN i n = 17 ∧ (i < 0 ∨ 3 ≤ i)) ∨ (∃ j : Nat, i = (j : Int) ∧ j < 3 ∧ ((eN i n = 7 ∧ (n < 1 ∨ 1024 < n)) ∨ (1 ≤ n ∧ n ≤ 1024 ∧ ((eN i n = 11 ∧ (primeF j - 1) % n ≠ 0) ∨ (eN i n = 0 ∧ (primeF j - 1) % n = 0))))) := by
  by_cases h1 : i < 0 ∨ 3 ≤ i
  · left; exact ⟨by unfold eN; rw [if_pos h1], h1⟩
  · right
    obtain ⟨j, rfl⟩ := Int.eq_ofNat_of_zero_le (show 0 ≤ i by omega)
    refine ⟨j, rfl, by omega, ?_⟩
    by_cases h2 : n < 1 ∨ 1024 < n
    · left; exact ⟨by unfold eN; rw [if_neg h1, if_pos h2], h2⟩
    · right
      refine ⟨by omega, by omega, ?_⟩
      by_cases h3 : (primeF j - 1) % n ≠ 0
      · left; exact ⟨by unfold eN; rw [if_neg h1, if_neg h2, Int.toNat_natCast, if_pos h3], h3⟩
      · right; exact ⟨by unfold eN; rw [if_neg h1, if_neg h2, Int.toNat_natCast, if_neg h3], by omega⟩
theorem bld_none (w : World) (B e : Nat) (hB : B ≤ w.heap.size) (F : Nat → Value) : Bld w B e (.slice none 0 0) 0 F := ⟨⟨by simp, .inl ⟨rfl, rfl⟩⟩, hB⟩
def PRes (a : Nat → Addr) (b : Bool) (i : Int) (n : Nat) (x : Nat → Nat) (w : World) (e : Ending) (w' : World) : Prop :=
  ∃ A c, e = .returned (.tuple #[.slice A (mN i n) c, eVal a (eN i n)]) ∧ Bld w' w.heap.size 24 (.slice A (mN i n) c) (mN i n) (uw (tF b i n x)) ∧ Below w.heap.size w w'
def RRes (b : Bool) (i : Int) (n : Nat) (x : Nat → Nat) (w : World) (e : Ending) (w' : World) : Prop :=
  ∃ A c, e = .returned (.tuple #[.slice A (mN i n) c, .int .i64 (eN i n : Nat)]) ∧ Bld w' w.heap.size 24 (.slice A (mN i n) c) (mN i n) (uw (tF b i n x)) ∧ Below w.heap.size w w'
theorem transform_any (A : Option Addr) (n c : Nat) (i : Int) (b : Bool) (x : Nat → Nat) (a : Nat → Addr) (w : World) (hx : ∀ j, j < n → x j < 18446744073709551616) (hr : RS w A n c (uw x)) (hE : Ers w (eV a)) :
    Calls Tryd.prog 29 #[.slice A n c, .int .i64 i, .bool b] w (PRes a b i n x w) := by
  have k1 := hr.nc
  have k2 := hr.cm
  rcases eN_cases i n with ⟨e1, h1⟩ | ⟨j, rfl, hj, ⟨e1, h1⟩ | ⟨n1, n2, ⟨e1, h1⟩ | ⟨e1, h1⟩⟩⟩
  · refine (transform_mode A n c i b (eV a) w (by omega) h1 hE).mono ?_
    rintro e w' ⟨rfl, hb⟩
    refine ⟨none, 0, ?_, ?_, hb⟩
    · unfold mN eVal; rw [e1]; rfl
    · unfold mN; rw [e1]; exact bld_none _ _ _ hb.size _
  · refine (transform_length A n c j b (eV a) w (by omega) hj h1 hE).mono ?_
    rintro e w' ⟨rfl, hb⟩
    refine ⟨none, 0, ?_, ?_, hb⟩
    · unfold mN eVal; rw [e1]; rfl
    · unfold mN; rw [e1]; exact bld_none _ _ _ hb.size _
  · have hp := prF j hj
    refine (transform_root A n c j (primeF j) b a w hj rfl (by have := hp.p3; omega) hp.np.2.1 n1 n2 h1 hE).mono ?_
    rintro e w' ⟨rfl, hb⟩
    refine ⟨none, 0, ?_, ?_, hb⟩
    · unfold mN eVal; rw [e1]; rfl
    · unfold mN; rw [e1]; exact bld_none _ _ _ hb.size _
  · have hp := prF j hj
    have hm : mN (j : Int) n = n := by unfold mN; rw [e1]; rfl
    have hv : eVal a (eN (j : Int) n) = .nilIface := by unfold eVal; rw [e1]; rfl
    have hrn := root_pow j n hj h1
    cases b
    · refine (transform_fore A n c j (primeF j) (gF j) (TF j) x w hx hr hj rfl hp n1 n2 h1 (rootN j n) rfl).mono ?_
      rintro e w' ⟨A', c', rfl, hB, hb⟩
      refine ⟨A', c', by rw [hm, hv], ?_, hb⟩
      rw [hm]
      refine hB.congr fun k hk => ?_
      unfold uw tF dftN
      rw [if_neg (by decide), Int.toNat_natCast]
      exact congrArg (fun v : Nat => Value.int .u64 (v : Int)) (fore_eq hrn n)
    · refine (transform_back A n c j (primeF j) (gF j) (TF j) x w hx hr hj rfl hp n1 n2 h1 (rootN j n) rfl).mono ?_
      rintro e w' ⟨A', c', inv, rfl, hB, hi1, hi2, hb⟩
      refine ⟨A', c', by rw [hm, hv], ?_, hb⟩
      rw [hm]
      refine hB.congr fun k hk => ?_
      unfold uw tF
      rw [if_pos rfl, Int.toNat_natCast]
      have hiv := inv_eq j n inv hj n1 n2 hi1 hi2
      exact congrArg (fun v : Nat => Value.int .u64 (v : Int)) (by dsimp only; rw [back_eq hrn (root_back j n hj) (by omega), hiv])
set_option maxHeartbeats 1000000 in
theorem forward_any (A : Option Addr) (n c : Nat) (i : Int) (x : Nat → Nat) (a : Nat → Addr) (w : World) (hx : ∀ j, j < n → x j < 18446744073709551616) (hr : RS w A n c (uw x)) (hE : Ers w (eV a)) :
    Calls Tryd.prog 11 #[.slice A n c, .int .i64 i] w (PRes a false i n x w) := by
  have H := Lib.hid (transform_any A n c i false x a w hx hr hE)
  clear hx hr hE
  obtain ⟨m, hm⟩ : ∃ m, mN i n = m := ⟨_, rfl⟩
  obtain ⟨v, hv⟩ : ∃ v, eVal a (eN i n) = v := ⟨_, rfl⟩
  unfold PRes at H ⊢
  rw [hm, hv] at H ⊢
  clear hm hv
  go_enter Tryd.func11, Tryd.ntmps11
  go_wp2_with (go_at_call 29; refine H.out.mono ?_; rintro e w1 ⟨A1, c1, rfl, hB, hb⟩)
  go_ret2
  exact ⟨A1, c1, rfl, hB, hb⟩
set_option maxHeartbeats 1000000 in
theorem inverseT_any (A : Option Addr) (n c : Nat) (i : Int) (x : Nat → Nat) (a : Nat → Addr) (w : World) (hx : ∀ j, j < n → x j < 18446744073709551616) (hr : RS w A n c (uw x)) (hE : Ers w (eV a)) :
    Calls Tryd.prog 15 #[.slice A n c, .int .i64 i] w (PRes a true i n x w) := by
  have H := Lib.hid (transform_any A n c i true x a w hx hr hE)
  clear hx hr hE
  obtain ⟨m, hm⟩ : ∃ m, mN i n = m := ⟨_, rfl⟩
  obtain ⟨v, hv⟩ : ∃ v, eVal a (eN i n) = v := ⟨_, rfl⟩
  unfold PRes at H ⊢
  rw [hm, hv] at H ⊢
  clear hm hv
  go_enter Tryd.func15, Tryd.ntmps15
  go_wp2_with (go_at_call 29; refine H.out.mono ?_; rintro e w1 ⟨A1, c1, rfl, hB, hb⟩)
  go_ret2
  exact ⟨A1, c1, rfl, hB, hb⟩
theorem ask_any (n : Nat) (i : Int) (a : Nat → Addr) (w : World) (hE : Ers w (eV a)) :
    Calls Tryd.prog 30 #[.int .i64 n, .int .i64 i] w fun e w' => (∃ P R : Nat, e = .returned (.tuple #[.int .u64 P, .int .u64 R, .int .i64 (eN i n : Nat)]) ∧ (eN i n = 0 → P = primeF i.toNat ∧ R = rootN i.toNat n)) ∧ Below w.heap.size w w' := by
  rcases eN_cases i n with ⟨e1, h1⟩ | ⟨j, rfl, hj, ⟨e1, h1⟩ | ⟨n1, n2, ⟨e1, h1⟩ | ⟨e1, h1⟩⟩⟩
  · refine (ask_mode n i w h1).mono ?_
    rintro e w' ⟨rfl, hb⟩
    exact ⟨⟨0, 0, by rw [e1]; rfl, fun h => by omega⟩, hb⟩
  · refine (ask_length n j w hj h1).mono ?_
    rintro e w' ⟨rfl, hb⟩
    exact ⟨⟨0, 0, by rw [e1]; rfl, fun h => by omega⟩, hb⟩
  · have hp := prF j hj
    refine (ask_root n j (primeF j) a w hj rfl (by have := hp.p3; omega) hp.np.2.1 n1 n2 h1 hE).mono ?_
    rintro e w' ⟨rfl, hb⟩
    exact ⟨⟨0, 0, by rw [e1]; rfl, fun h => by omega⟩, hb⟩
  · refine (ask_ok n j (primeF j) (gF j) (rootN j n) (TF j) w hj rfl (prF j hj) n1 n2 h1 rfl).mono ?_
    rintro e w' ⟨rfl, hb⟩
    exact ⟨⟨_, _, by rw [e1]; rfl, fun _ => ⟨by rw [Int.toNat_natCast], by rw [Int.toNat_natCast]⟩⟩, hb⟩
theorem eN_ok {i : Int} {n : Nat} (h : eN i n = 0) : ∃ j : Nat, i = j ∧ j < 3 ∧ 1 ≤ n ∧ n ≤ 1024 ∧ (primeF j - 1) % n = 0 := by
  rcases eN_cases i n with ⟨e1, h1⟩ | ⟨j, rfl, hj, ⟨e1, h1⟩ | ⟨n1, n2, ⟨e1, h1⟩ | ⟨e1, h1⟩⟩⟩
  · omega
  · omega
  · omega
  · exact ⟨j, rfl, hj, n1, n2, h1⟩
theorem rootN_lt (j n : Nat) (hj : j < 3) : rootN j n < primeF j := Nat.mod_lt _ (by have := prime_two j hj; omega)
set_option maxHeartbeats 2000000 in
theorem forwardR_any (A : Option Addr) (n c : Nat) (i : Int) (x : Nat → Nat) (a : Nat → Addr) (w : World) (hx : ∀ j, j < n → x j < 18446744073709551616) (hr : RS w A n c (uw x)) (hE : Ers w (eV a)) :
    Calls Tryd.prog 12 #[.slice A n c, .int .i64 i] w (RRes false i n x w) := by
  have k1 := hr.nc
  have k2 := hr.cm
  by_cases h0 : eN i n = 0
  · obtain ⟨j, rfl, hj, n1, n2, h1⟩ := eN_ok h0
    have HA := Lib.hid (ask_any n j a w hE)
    have hp := prF j hj
    have p3 := hp.p3
    have np2 := hp.np.2.1
    have hrl := rootN_lt j n hj
    have Hr := Lib.hid hr
    have Hx := Lib.hid hx
    have hm : mN (j : Int) n = n := by unfold mN; rw [h0]; rfl
    have htf : tF false (j : Int) n x = dftN x (rootN j n) (primeF j) n := rfl
    unfold RRes
    rw [hm, h0, htf]
    rw [h0, Int.toNat_natCast] at HA
    generalize primeF j = p at *
    generalize rootN j n = r at *
    clear h0 hm htf h1 hE hr hx hp
    go_enter Tryd.func12, Tryd.ntmps12
    go_wp2_with (first
      | (go_at_call 30; refine HA.out.mono ?_; rintro e w1 ⟨⟨P, R, rfl, hPR⟩, hb1⟩; obtain ⟨rfl, rfl⟩ := hPR rfl; have Hb1 := Lib.hid hb1; clear hb1)
      | (go_at_call 31; refine (sums_any A n c R P x _ Hx.out (Hr.out.below Hb1.out) hrl (by omega) np2 n2).mono ?_; rintro e w2 ⟨A2, c2, rfl, hB2, hb2⟩))
    go_ret2
    exact ⟨A2, c2, rfl, hB2.mono Hb1.out.size, Hb1.out.trans (hb2.mono Hb1.out.size)⟩
  · have hm : mN i n = 0 := by unfold mN; rw [if_neg h0]
    have HA := Lib.hid (ask_any n i a w hE)
    unfold RRes
    rw [hm]
    generalize eN i n = e at *
    have h1 : ((e : Int) != 0) = true := by rw [bne_iff_ne]; omega
    clear hr hx hE hm
    go_enter Tryd.func12, Tryd.ntmps12
    go_wp2_with (go_at_call 30; refine HA.out.mono ?_; rintro e w1 ⟨⟨P, R, rfl, hPR⟩, hb1⟩; clear hPR)
    go_ret2
    exact ⟨none, 0, rfl, bld_none _ _ _ hb1.size _, hb1⟩
set_option maxHeartbeats 4000000 in
theorem inverseR_any (A : Option Addr) (n c : Nat) (i : Int) (x : Nat → Nat) (a : Nat → Addr) (w : World) (hx : ∀ j, j < n → x j < 18446744073709551616) (hr : RS w A n c (uw x)) (hE : Ers w (eV a)) :
    Calls Tryd.prog 16 #[.slice A n c, .int .i64 i] w (RRes true i n x w) := by
  have k1 := hr.nc
  have k2 := hr.cm
  by_cases h0 : eN i n = 0
  · obtain ⟨j, rfl, hj, n1, n2, h1⟩ := eN_ok h0
    have HA := Lib.hid (ask_any n j a w hE)
    have hp := prF j hj
    have p3 := hp.p3
    have np2 := hp.np.2.1
    have hrl := rootN_lt j n hj
    have Hr := Lib.hid hr
    have Hx := Lib.hid hx
    have hm : mN (j : Int) n = n := by unfold mN; rw [h0]; rfl
    have htf : tF true (j : Int) n x = fun k => dsum x (powF (rootN j n ^ (primeF j - 2) % primeF j) (primeF j) k) (primeF j) n * (n ^ (primeF j - 2) % primeF j) % primeF j := rfl
    unfold RRes
    rw [hm, h0, htf]
    rw [h0, Int.toNat_natCast] at HA
    generalize primeF j = p at *
    generalize rootN j n = r at *
    clear h0 hm htf h1 hE hr hx hp
    obtain ⟨q, hq⟩ : ∃ q, p - 2 = q := ⟨_, rfl⟩
    have hq2 : (p : Int) - 2 = (q : Int) := by omega
    have hql : q < 18446744073709551616 := by omega
    rw [hq]
    obtain ⟨b, hb⟩ : ∃ b, r ^ q % p = b := ⟨_, rfl⟩
    obtain ⟨t, ht⟩ : ∃ t, n ^ q % p = t := ⟨_, rfl⟩
    have hbl : b < p := by rw [← hb]; exact Nat.mod_lt _ (by omega)
    have htl : t < p := by rw [← ht]; exact Nat.mod_lt _ (by omega)
    rw [hb, ht]
    have HB := Lib.hid hb
    have HT := Lib.hid ht
    obtain ⟨D, hD⟩ : ∃ D, dftN x b p n = D := ⟨_, rfl⟩
    have HDf : Hid ((fun k => dsum x (powF b p k) p n * t % p) = fun k => D k * t % p) := by show _ = _; rw [← hD]; rfl
    have HDl : Hid (∀ k, D k < p) := fun k => by rw [← hD]; exact dsum_lt _ _ _ _ (by omega)
    have HD := Lib.hid hD
    rw [HDf.out]
    have hn64 : n < 18446744073709551616 := by omega
    clear hq hb ht hD HDf
    go_enter Tryd.func16, Tryd.ntmps16
    go_wp2_with (first
      | (go_at_call 30; refine HA.out.mono ?_; rintro e w1 ⟨⟨P, R, rfl, hPR⟩, hb1⟩; obtain ⟨rfl, rfl⟩ := hPR rfl; have Hb1 := Lib.hid hb1; clear hb1)
      | (go_at_call_of 33 (Value.int .u64 (R : Int)); refine (powR_any R q P (by omega) hql (by omega) np2 _).mono ?_; rw [HB.out]; rintro e w2 ⟨m2, rfl, rfl⟩)
      | (go_at_call_of 33 (Value.int .u64 (n : Int)); refine (powR_any n q P hn64 hql (by omega) np2 _).mono ?_; rw [HT.out]; rintro e w2 ⟨m3, rfl, rfl⟩; have Hb3 := Lib.hid (below_drewN Hb1.out (m2 + m3)))
      | (go_at_call 31; refine (sums_any A n c b P x _ Hx.out (Hr.out.below Hb3.out) hbl (by omega) np2 n2).mono ?_; rw [HD.out]; rintro e w2 ⟨A2, c2, rfl, hB2, hb2⟩; have Hb2 := Lib.hid (Hb3.out.trans (hb2.mono Hb3.out.size)); have HB2 := Lib.hid (hB2.mono Hb3.out.size); have q1 := hB2.rs.nc; have q2 := hB2.rs.cm; obtain ⟨g2, rfl, g2a, g2b⟩ := hB2.block (by omega); clear hB2 hb2))
    have hgB : w.heap.size ≤ g2 := Nat.le_trans Hb3.out.size g2a
    obtain ⟨B0, hB0⟩ : ∃ B0, w.heap.size = B0 := ⟨_, rfl⟩
    try rw [hB0]
    rw [hB0] at HB2 Hb2 hgB
    go_loopw [43] (fun o wr => ∃ k : Nat, ∃ f : Nat → Nat, k ≤ n ∧ o = .int .i64 k ∧ Hid (∀ j, j < k → f j = D j * t % P) ∧ Hid (∀ j, k ≤ j → f j = D j) ∧ Bld wr B0 24 (.slice (some ⟨g2, 0, none⟩) n c2) n (uw f) ∧ Below B0 w wr) (fun o _ => n - (intOf o).toNat)
    case atStart => exact ⟨0, D, Nat.zero_le _, rfl, fun j hj => absurd hj (by omega), fun _ _ => rfl, HB2.out, Hb2.out⟩
    case round =>
      obtain ⟨k, f, hk, rfl, HK, HO, hBr, hbr⟩ := hrel
      by_cases hlt : k < n
      · have hlt' : (k : Int) < n := by omega
        have cY : wr.cell? ⟨g2, k, none⟩ = some (Value.int .u64 (f k : Nat)) := hBr.cell k hlt
        have fY := hBr.free k
        have hval := HO.out k (Nat.le_refl _)
        have hpl := HDl.out k
        obtain ⟨y, hy⟩ : ∃ y, f k = y := ⟨_, rfl⟩
        rw [hy] at cY hval
        rw [← hval] at hpl
        have hmul := prod_lt hpl htl np2
        obtain ⟨z, hz⟩ : ∃ z, y * t = z := ⟨_, rfl⟩
        rw [hz] at hmul
        have e1 : (y : Int) * t = (z : Int) := by rw [← hz]; exact (Int.natCast_mul _ _).symm
        have HV := Lib.hid (show z % P = D k * t % P by rw [← hz, hval])
        have hp' : (0 : Int) < P := by omega
        have hp'' : (P : Int) ≠ 0 := by omega
        have HBO := Lib.hid hBr
        have HbelO := Lib.hid hbr
        have hgi : k < n := hlt
        clear hz hBr hbr hy hval
        go_wp2_with fail
        go_roundw
        case rel => exact ⟨k + 1, updN f k (z % P), by omega, by go_num, updN_below HK.out HV.out, fun i hi => by show updN _ _ _ _ = _; unfold updN; rw [if_neg (by omega)]; exact HO.out i (by omega), (HBO.out.set k _).congr (fun i _ => upd_uw f k _ i), HbelO.out.setCell hgB _⟩
        case measure => simp only [intOf]; omega
      · obtain rfl : k = n := by omega
        go_wp2_with fail
        go_ret2
        exact ⟨_, _, rfl, by first | exact hBr.congr (fun i hi => (by unfold uw; rw [HK.out i hi])) | (rw [hB0]; exact hBr.congr (fun i hi => (by unfold uw; rw [HK.out i hi]))), by first | exact hbr | (rw [hB0]; exact hbr)⟩
  · have hm : mN i n = 0 := by unfold mN; rw [if_neg h0]
    have HA := Lib.hid (ask_any n i a w hE)
    unfold RRes
    rw [hm]
    generalize eN i n = e at *
    have h1 : ((e : Int) != 0) = true := by rw [bne_iff_ne]; omega
    clear hr hx hE hm
    go_enter Tryd.func16, Tryd.ntmps16
    go_wp2_with (go_at_call 30; refine HA.out.mono ?_; rintro e w1 ⟨⟨P, R, rfl, hPR⟩, hb1⟩; clear hPR)
    go_ret2
    exact ⟨none, 0, rfl, bld_none _ _ _ hb1.size _, hb1⟩
end Go.Proofs.YtppebegleedifaaDoor
