/- transform: the walk. -/
import Derived.Test.YtppebegleedifaaDoorXh
namespace Go.Proofs.YtppebegleedifaaDoor
open Go.RowKit

/-- The program's sum of x[j] times F at j s modulo n, step by step. -/
def psum (x F : Nat → Nat) (n s p : Nat) : Nat → Nat
  | 0 => 0
  | j + 1 => (psum x F n s p j + x j * F (j * s % n) % p) % p
theorem psum_lt (x F : Nat → Nat) (n s p j : Nat) (hp : 0 < p) : psum x F n s p j < p := by
  cases j with
  | zero => exact hp
  | succ j => exact Nat.mod_lt _ hp
theorem gcd_one {p n : Nat} (h : Npr p) (hn : 1 ≤ n) (hn2 : n ≤ 1024) : Nat.gcd p (n % p) = 1 := by
  have e : Nat.gcd p (n % p) = Nat.gcd p n := by rw [Nat.gcd_comm p (n % p), ← Nat.gcd_rec]
  rw [e]
  have h1 := Nat.gcd_dvd_left p n
  have h2 := Nat.gcd_dvd_right p n
  have h3 : Nat.gcd p n ≤ n := Nat.le_of_dvd (by omega) h2
  have h4 : 0 < Nat.gcd p n := Nat.gcd_pos_of_pos_right _ (by omega)
  rcases Nat.lt_or_ge (Nat.gcd p n) 2 with h5 | h5
  · omega
  · exact absurd (Nat.mod_eq_zero_of_dvd h1) (h.2.2 _ h5 (by omega))
theorem at_step (j s n : Nat) : (j * s % n + s) % n = (j + 1) * s % n := by
  rw [Nat.mod_add_mod, Nat.succ_mul]
theorem at_mod (at_ s n : Nat) (_h : at_ < n) : (at_ + s) % n = (at_ + s) % n := rfl
theorem Bld.congr_mono {w : World} {B B2 : Nat} {e : TypeId} {v : Value} {k : Nat} {F G : Nat → Value} (h : Bld w B2 e v k F) (hB : B ≤ B2) (he : ∀ j, j < k → F j = G j) : Bld w B e v k G := (h.congr he).mono hB
theorem Bld.rsAt {w : World} {B : Nat} {e : TypeId} {g c k : Nat} {F : Nat → Value} (h : Bld w B e (.slice (some ⟨g, 0, none⟩) k c) k F) {w' : World} (hb : Below w.heap.size w w') (j : Nat) (hj : j < k) : w'.cell? ⟨g, j, none⟩ = some (F j) := (h.below hb).cell j hj
set_option maxHeartbeats 4000000 in
theorem transform_fore (A : Option Addr) (n c i p g : Nat) (T : List Nat) (x : Nat → Nat) (w : World) (hx : ∀ j, j < n → x j < 18446744073709551616) (hr : RS w A n c (uw x))
    (hi : i < 3) (hip : primeF i = p) (h : PR p g T) (hn : 1 ≤ n) (hn2 : n ≤ 1024) (hd : (p - 1) % n = 0) (r : Nat) (hrv : g ^ ((p - 1) / n) % p = r) :
    Calls Tryd.prog 29 #[.slice A n c, .int .i64 i, .bool false] w fun e w' => ∃ A' c', e = .returned (.tuple #[.slice A' n c', .nilIface]) ∧ Bld w' w.heap.size 24 (.slice A' n c') n (uw fun k => psum x (powF r p) n k p n) ∧ Below w.heap.size w w' := by
  have k1 := hr.nc
  have k2 := hr.cm
  have np2 := h.np.2.1
  have p3 := h.p3
  have hp0 : 0 < p := by omega
  have hrp : r < p := by rw [← hrv]; exact Nat.mod_lt _ hp0
  have hi' : (i : Int) < 3 := by omega
  have hn' : (1 : Int) ≤ n := by omega
  have hn2' : (n : Int) ≤ 1024 := by omega
  have H := Lib.hid h
  have Hx := Lib.hid hx
  have Hip := Lib.hid hip
  have Hd := Lib.hid hd
  have Hrv := Lib.hid hrv
  have HR := Lib.hid hr
  have HG := Lib.hid (gcd_one h.np hn hn2)
  clear h hx hip hd hrv hr
  go_enter Tryd.func29, Tryd.ntmps29
  go_wp2_with (first
    | (go_at_call 24; refine (primes_any _).mono ?_; rintro e w1 ⟨A1, c1, rfl, hB1, hb1⟩; have HB1 := Lib.hid hB1.rs; have Hb1 := Lib.hid hb1; have q1 := hB1.rs.nc; have q2 := hB1.rs.cm; clear hB1 hb1)
    | ((with_reducible show wpList _ _ _ (⟨some 43, _, _, _, _, _⟩ :: _) _ _); refine wpl_ix rfl 22 24 _ _ rfl Tryd.underlying22 cells24 A1 3 c1 i _ _ (uw primeF) rfl rfl rfl hi HB1.out ?_; intro pp hpp; have hpp2 : w1.cell? pp = some (.int .u64 (p : Nat)) := (by rw [hpp]; show some (Value.int .u64 (primeF i : Nat)) = _; rw [Hip.out]); clear hpp)
    | (go_at_call 45; refine (root45_ok n p g T H.out hn hn2 Hd.out _).mono ?_; rw [Hrv.out]; rintro e w2 ⟨rfl, hb2⟩; have Hb2 := Lib.hid (Hb1.out.trans (hb2.mono Hb1.out.size)); clear hb2)
    | (go_at_call 46; refine (powers_any r n p hrp (by omega) np2 hn hn2 _).mono ?_; rintro e w3 ⟨A3, c3, rfl, hB3, hb3⟩; have Hb3 := Lib.hid (Hb2.out.trans (hb3.mono Hb2.out.size)); have q3 := hB3.rs.nc; have q4 := hB3.rs.cm; obtain ⟨g3, rfl, g3a, g3b⟩ := hB3.block (by omega); have HB3 := Lib.hid hB3; clear hB3 hb3)
    | ((with_reducible show wpList _ _ _ (⟨some 59, _, _, _, _, _⟩ :: _) _ _); refine wpl_makez (w0 := w3) rfl _ _ 22 24 (.int .u64 0) 8 rfl Tryd.underlying22 info24 rfl w3.heap.size .i64 .i64 (n : Int) (n : Int) n n (fun _ => .int .u64 0) rfl rfl rfl rfl (Nat.le_refl _) (Below.refl _ _) (Nat.le_refl _) (by omega) (by omega) (fun _ _ => rfl) ?_; intro w4 hB4 hbel4))
  obtain ⟨B, hBs⟩ : ∃ B, w3.heap.size = B := ⟨_, rfl⟩
  rw [hBs] at g3b
  try rw [hBs] at hB4
  try rw [hBs] at hbel4
  try rw [hBs]
  have HRx : Hid (∀ wr, Below B w3 wr → RS wr A n c (uw x)) := fun wr hb => by rw [← hBs] at hb; exact (HR.out.below Hb3.out).below hb
  have HPw : Hid (∀ wr, Below B w3 wr → ∀ j, j < n → wr.cell? ⟨g3, j, none⟩ = some (.int .u64 (powF r p j : Nat))) := fun wr hb j hj => by rw [← hBs] at hb; exact HB3.out.rsAt hb j hj
  have HF : Hid (∀ j, powF r p j < p) := fun j => Nat.mod_lt _ hp0
  obtain ⟨F, hF⟩ : ∃ F, powF r p = F := ⟨_, rfl⟩
  have HFF := Lib.hid hF
  rw [hF] at HPw HF
  have HBw : Hid (w.heap.size ≤ B) := by show _ ≤ _; rw [← hBs]; exact Hb3.out.size
  have HBo : Hid (∀ wr, Below B w3 wr → Below w.heap.size w wr) := fun wr hb => by rw [← hBs] at hb; exact Hb3.out.trans (hb.mono Hb3.out.size)
  have HB4 := Lib.hid hB4
  have Hbel4 := Lib.hid hbel4
  clear hB4 hbel4 hF
  go_loopw [62] (fun o wr => ∃ k : Nat, ∃ f : Nat → Nat, k ≤ n ∧ o = .int .i64 k ∧ Hid (∀ j, j < k → f j = psum x F n j p n) ∧ Hid (∀ j, k ≤ j → f j = 0) ∧ Bld wr B 24 (.slice (some ⟨B, 0, none⟩) n n) n (uw f) ∧ Below B w3 wr) (fun o _ => n - (intOf o).toNat)
  case atStart => exact ⟨0, fun _ => 0, Nat.zero_le _, rfl, fun j hj => absurd hj (by omega), fun _ _ => rfl, HB4.out, Hbel4.out⟩
  case round =>
    obtain ⟨k, f, hk, rfl, HK, H0, hB, hbel⟩ := hrel
    clear HB4 Hbel4
    have HB := Lib.hid hB
    have Hbel := Lib.hid hbel
    clear hB hbel
    by_cases hlt : k < n
    · have hlt' : (k : Int) < n := by omega
      go_wp2_with fail
      go_loopw [16, 67] (fun a o wr => ∃ j at_ : Nat, ∃ f2 : Nat → Nat, j ≤ n ∧ o = .int .i64 j ∧ a = .int .i64 at_ ∧ at_ < n ∧ Hid (at_ = j * k % n) ∧ Hid (f2 k = psum x F n k p j) ∧ Hid (∀ i, i ≠ k → f2 i = f i) ∧ Hid (f2 k < p) ∧ Bld wr B 24 (.slice (some ⟨B, 0, none⟩) n n) n (uw f2) ∧ Below B w3 wr) (fun _ o _ => n - (intOf o).toNat)
      case atStart => exact ⟨0, 0, f, Nat.zero_le _, rfl, rfl, by omega, by show _ = _; rw [Nat.zero_mul, Nat.zero_mod], H0.out k (Nat.le_refl _), fun _ _ => rfl, by show _ < _; rw [H0.out k (Nat.le_refl _)]; exact hp0, HB.out, Hbel.out⟩
      case round =>
        obtain ⟨j, at_, f2, hj, rfl, rfl, hat, HAt, HS, HO, HL, hB2, hbel2⟩ := hrel
        by_cases hjl : j < n
        · have hjl' : (j : Int) < n := by omega
          have hat' : (at_ : Int) < n := by omega
          have hrr := HRx.out _ hbel2
          have hxj := Hx.out j hjl
          have cY : _ = some (Value.int .u64 (f2 k : Nat)) := hB2.cell k hlt
          have fY := hB2.free k
          have cP := HPw.out _ hbel2 at_ hat
          have hFl := HF.out at_
          have hFl2 : F at_ < 18446744073709551616 := by omega
          obtain ⟨y, hy⟩ : ∃ y, f2 k = y := ⟨_, rfl⟩
          have hyl : y < p := by rw [← hy]; exact HL.out
          obtain ⟨z, hz⟩ : ∃ z, x j * F at_ % p = z := ⟨_, rfl⟩
          have hzl : z < p := by rw [← hz]; exact Nat.mod_lt _ hp0
          have HZ := Lib.hid hz
          rw [hy] at cY
          have HV := Lib.hid (show (y + z) % p = psum x F n k p (j + 1) by rw [psum, ← HS.out, hy, ← hz, HAt.out])
          have HB2 := Lib.hid (hB2.set k (.int .u64 ((y + z) % p : Nat)))
          have Hbel2 : Hid (Below B w3 (wr.setCell ⟨B, k, none⟩ (.int .u64 ((y + z) % p : Nat)))) := hbel2.setCell (Nat.le_refl B) _
          have hp' : (0 : Int) < p := by omega
          have hp'' : (p : Int) ≠ 0 := by omega
          have hn'' : (n : Int) ≠ 0 := by omega
          have hAS := Lib.hid (at_step j k n)
          have HBO := Lib.hid hB2
          have HbelO := Lib.hid hbel2
          clear hz hB2 hbel2 hy
          go_wp2_with (first
            | ((with_reducible show wpList _ _ _ (⟨some 69, _, _, _, _, _⟩ :: _) _ _); refine wpl_ix rfl 22 24 _ _ rfl Tryd.underlying22 cells24 A n c j _ _ (uw x) rfl rfl rfl hjl hrr ?_; intro pp hpp; have hpp2 : wr.cell? pp = some (.int .u64 (x j : Nat)) := hpp; clear hpp))
          go_region_with (go_at_call 47; refine (mul_any (x j) (F at_) p hxj hFl2 hp0 np2 _).mono ?_; rw [HZ.out]; rintro e w5 ⟨k5, rfl, rfl⟩)
          all_goals go_wp2_with fail
          all_goals
            go_roundw
            case rel => exact ⟨j + 1, (at_ + k ) % n, updN f2 k ((y + z) % p), by omega, by go_num, by go_num, Nat.mod_lt _ (by omega), by show _ = _; rw [HAt.out]; exact hAS.out, by show updN _ _ _ _ = _; unfold updN; rw [if_pos rfl]; exact HV.out, fun i hi => by show updN _ _ _ _ = _; unfold updN; rw [if_neg hi]; exact HO.out i hi, by show updN _ _ _ _ < _; unfold updN; rw [if_pos rfl]; exact Nat.mod_lt _ hp0, ((HBO.out.drewN _).set k _).congr (fun i _ => upd_uw f2 k _ i), (below_drewN HbelO.out _).setCell (Nat.le_refl B) _⟩
            case measure => simp only [intOf]; omega
        · obtain rfl : j = n := by omega
          go_wp2_with fail
          go_roundw
          case rel => exact ⟨k + 1, f2, by omega, by go_num, fun i hi => by rcases Nat.lt_or_ge i k with h | h; (rw [HO.out i (by omega)]; exact HK.out i h); (have e : i = k := by omega); (rw [e]; exact HS.out), fun i hi => by rw [HO.out i (by omega)]; exact H0.out i (by omega), hB2, hbel2⟩
          case measure => simp only [intOf]; omega
    · obtain rfl : k = n := by omega
      go_wp2_with fail
      go_ret2
      exact ⟨_, _, rfl, HB.out.congr_mono HBw.out (fun i hi => by unfold uw; rw [HK.out i hi, HFF.out]), HBo.out _ Hbel.out⟩
set_option maxHeartbeats 4000000 in
theorem transform_back (A : Option Addr) (n c i p g : Nat) (T : List Nat) (x : Nat → Nat) (w : World) (hx : ∀ j, j < n → x j < 18446744073709551616) (hr : RS w A n c (uw x))
    (hi : i < 3) (hip : primeF i = p) (h : PR p g T) (hn : 1 ≤ n) (hn2 : n ≤ 1024) (hd : (p - 1) % n = 0) (r : Nat) (hrv : g ^ ((p - 1) / n) % p = r) :
    Calls Tryd.prog 29 #[.slice A n c, .int .i64 i, .bool true] w fun e w' => ∃ A' c' inv, e = .returned (.tuple #[.slice A' n c', .nilIface]) ∧ Bld w' w.heap.size 24 (.slice A' n c') n (uw fun k => psum x (powF r p) n (n - k) p n * inv % p) ∧ inv * n % p = 1 ∧ inv < p ∧ Below w.heap.size w w' := by
  have k1 := hr.nc
  have k2 := hr.cm
  have np2 := h.np.2.1
  have p3 := h.p3
  have hp0 : 0 < p := by omega
  have hrp : r < p := by rw [← hrv]; exact Nat.mod_lt _ hp0
  have hi' : (i : Int) < 3 := by omega
  have hn' : (1 : Int) ≤ n := by omega
  have hn2' : (n : Int) ≤ 1024 := by omega
  have H := Lib.hid h
  have Hx := Lib.hid hx
  have Hip := Lib.hid hip
  have Hd := Lib.hid hd
  have Hrv := Lib.hid hrv
  have HR := Lib.hid hr
  have HG := Lib.hid (gcd_one h.np hn hn2)
  clear h hx hip hd hrv hr
  go_enter Tryd.func29, Tryd.ntmps29
  go_wp2_with (first
    | (go_at_call 24; refine (primes_any _).mono ?_; rintro e w1 ⟨A1, c1, rfl, hB1, hb1⟩; have HB1 := Lib.hid hB1.rs; have Hb1 := Lib.hid hb1; have q1 := hB1.rs.nc; have q2 := hB1.rs.cm; clear hB1 hb1)
    | ((with_reducible show wpList _ _ _ (⟨some 43, _, _, _, _, _⟩ :: _) _ _); refine wpl_ix rfl 22 24 _ _ rfl Tryd.underlying22 cells24 A1 3 c1 i _ _ (uw primeF) rfl rfl rfl hi HB1.out ?_; intro pp hpp; have hpp2 : w1.cell? pp = some (.int .u64 (p : Nat)) := (by rw [hpp]; show some (Value.int .u64 (primeF i : Nat)) = _; rw [Hip.out]); clear hpp)
    | (go_at_call 45; refine (root45_ok n p g T H.out hn hn2 Hd.out _).mono ?_; rw [Hrv.out]; rintro e w2 ⟨rfl, hb2⟩; have Hb2 := Lib.hid (Hb1.out.trans (hb2.mono Hb1.out.size)); clear hb2)
    | (go_at_call 46; refine (powers_any r n p hrp (by omega) np2 hn hn2 _).mono ?_; rintro e w3 ⟨A3, c3, rfl, hB3, hb3⟩; have Hb3 := Lib.hid (Hb2.out.trans (hb3.mono Hb2.out.size)); have q3 := hB3.rs.nc; have q4 := hB3.rs.cm; obtain ⟨g3, rfl, g3a, g3b⟩ := hB3.block (by omega); have HB3 := Lib.hid hB3; clear hB3 hb3)
    | ((with_reducible show wpList _ _ _ (⟨some 59, _, _, _, _, _⟩ :: _) _ _); refine wpl_makez (w0 := w3) rfl _ _ 22 24 (.int .u64 0) 8 rfl Tryd.underlying22 info24 rfl w3.heap.size .i64 .i64 (n : Int) (n : Int) n n (fun _ => .int .u64 0) rfl rfl rfl rfl (Nat.le_refl _) (Below.refl _ _) (Nat.le_refl _) (by omega) (by omega) (fun _ _ => rfl) ?_; intro w4 hB4 hbel4))
  obtain ⟨B, hBs⟩ : ∃ B, w3.heap.size = B := ⟨_, rfl⟩
  rw [hBs] at g3b
  try rw [hBs] at hB4
  try rw [hBs] at hbel4
  try rw [hBs]
  have HRx : Hid (∀ wr, Below B w3 wr → RS wr A n c (uw x)) := fun wr hb => by rw [← hBs] at hb; exact (HR.out.below Hb3.out).below hb
  have HPw : Hid (∀ wr, Below B w3 wr → ∀ j, j < n → wr.cell? ⟨g3, j, none⟩ = some (.int .u64 (powF r p j : Nat))) := fun wr hb j hj => by rw [← hBs] at hb; exact HB3.out.rsAt hb j hj
  have HF : Hid (∀ j, powF r p j < p) := fun j => Nat.mod_lt _ hp0
  obtain ⟨F, hF⟩ : ∃ F, powF r p = F := ⟨_, rfl⟩
  have HFF := Lib.hid hF
  rw [hF] at HPw HF
  have HBw : Hid (w.heap.size ≤ B) := by show _ ≤ _; rw [← hBs]; exact Hb3.out.size
  have HBo : Hid (∀ wr, Below B w3 wr → Below w.heap.size w wr) := fun wr hb => by rw [← hBs] at hb; exact Hb3.out.trans (hb.mono Hb3.out.size)
  have HB4 := Lib.hid hB4
  have Hbel4 := Lib.hid hbel4
  clear hB4 hbel4 hF
  go_loopw [62] (fun o wr => ∃ k : Nat, ∃ f : Nat → Nat, k ≤ n ∧ o = .int .i64 k ∧ Hid (∀ j, j < k → f j = psum x F n (n - j) p n) ∧ Hid (∀ j, k ≤ j → f j = 0) ∧ Bld wr B 24 (.slice (some ⟨B, 0, none⟩) n n) n (uw f) ∧ Below B w3 wr) (fun o _ => n - (intOf o).toNat)
  case atStart => exact ⟨0, fun _ => 0, Nat.zero_le _, rfl, fun j hj => absurd hj (by omega), fun _ _ => rfl, HB4.out, Hbel4.out⟩
  case round =>
    obtain ⟨k, f, hk, rfl, HK, H0, hB, hbel⟩ := hrel
    clear HB4 Hbel4
    have HB := Lib.hid hB
    have Hbel := Lib.hid hbel
    clear hB hbel
    by_cases hlt : k < n
    · have hlt' : (k : Int) < n := by omega
      go_wp2_with fail
      go_loopw [16, 67] (fun a o wr => ∃ j at_ : Nat, ∃ f2 : Nat → Nat, j ≤ n ∧ o = .int .i64 j ∧ a = .int .i64 at_ ∧ at_ < n ∧ Hid (at_ = j * (n - k) % n) ∧ Hid (f2 k = psum x F n (n - k) p j) ∧ Hid (∀ i, i ≠ k → f2 i = f i) ∧ Hid (f2 k < p) ∧ Bld wr B 24 (.slice (some ⟨B, 0, none⟩) n n) n (uw f2) ∧ Below B w3 wr) (fun _ o _ => n - (intOf o).toNat)
      case atStart => exact ⟨0, 0, f, Nat.zero_le _, rfl, rfl, by omega, by show _ = _; rw [Nat.zero_mul, Nat.zero_mod], H0.out k (Nat.le_refl _), fun _ _ => rfl, by show _ < _; rw [H0.out k (Nat.le_refl _)]; exact hp0, HB.out, Hbel.out⟩
      case round =>
        obtain ⟨j, at_, f2, hj, rfl, rfl, hat, HAt, HS, HO, HL, hB2, hbel2⟩ := hrel
        by_cases hjl : j < n
        · have hjl' : (j : Int) < n := by omega
          have hat' : (at_ : Int) < n := by omega
          have hrr := HRx.out _ hbel2
          have hxj := Hx.out j hjl
          have cY : _ = some (Value.int .u64 (f2 k : Nat)) := hB2.cell k hlt
          have fY := hB2.free k
          have cP := HPw.out _ hbel2 at_ hat
          have hFl := HF.out at_
          have hFl2 : F at_ < 18446744073709551616 := by omega
          obtain ⟨y, hy⟩ : ∃ y, f2 k = y := ⟨_, rfl⟩
          have hyl : y < p := by rw [← hy]; exact HL.out
          obtain ⟨z, hz⟩ : ∃ z, x j * F at_ % p = z := ⟨_, rfl⟩
          have hzl : z < p := by rw [← hz]; exact Nat.mod_lt _ hp0
          have HZ := Lib.hid hz
          rw [hy] at cY
          have HV := Lib.hid (show (y + z) % p = psum x F n (n - k) p (j + 1) by rw [psum, ← HS.out, hy, ← hz, HAt.out])
          have HB2 := Lib.hid (hB2.set k (.int .u64 ((y + z) % p : Nat)))
          have Hbel2 : Hid (Below B w3 (wr.setCell ⟨B, k, none⟩ (.int .u64 ((y + z) % p : Nat)))) := hbel2.setCell (Nat.le_refl B) _
          have hp' : (0 : Int) < p := by omega
          have hp'' : (p : Int) ≠ 0 := by omega
          have hn'' : (n : Int) ≠ 0 := by omega
          have hAS := Lib.hid (at_step j (n - k) n)
          have HBO := Lib.hid hB2
          have HbelO := Lib.hid hbel2
          clear hz hB2 hbel2 hy
          go_wp2_with (first
            | ((with_reducible show wpList _ _ _ (⟨some 69, _, _, _, _, _⟩ :: _) _ _); refine wpl_ix rfl 22 24 _ _ rfl Tryd.underlying22 cells24 A n c j _ _ (uw x) rfl rfl rfl hjl hrr ?_; intro pp hpp; have hpp2 : wr.cell? pp = some (.int .u64 (x j : Nat)) := hpp; clear hpp))
          go_region_with (go_at_call 47; refine (mul_any (x j) (F at_) p hxj hFl2 hp0 np2 _).mono ?_; rw [HZ.out]; rintro e w5 ⟨k5, rfl, rfl⟩)
          all_goals go_wp2_with fail
          all_goals
            go_roundw
            case rel => exact ⟨j + 1, (at_ + (n - k) ) % n, updN f2 k ((y + z) % p), by omega, by go_num, by rw [show ((at_ : Int) + n - k) = ((at_ + (n - k) : Nat) : Int) by omega]; rfl, Nat.mod_lt _ (by omega), by show _ = _; rw [HAt.out]; exact hAS.out, by show updN _ _ _ _ = _; unfold updN; rw [if_pos rfl]; exact HV.out, fun i hi => by show updN _ _ _ _ = _; unfold updN; rw [if_neg hi]; exact HO.out i hi, by show updN _ _ _ _ < _; unfold updN; rw [if_pos rfl]; exact Nat.mod_lt _ hp0, ((HBO.out.drewN _).set k _).congr (fun i _ => upd_uw f2 k _ i), (below_drewN HbelO.out _).setCell (Nat.le_refl B) _⟩
            case measure => simp only [intOf]; omega
        · obtain rfl : j = n := by omega
          go_wp2_with fail
          go_roundw
          case rel => exact ⟨k + 1, f2, by omega, by go_num, fun i hi => by rcases Nat.lt_or_ge i k with h | h; (rw [HO.out i (by omega)]; exact HK.out i h); (have e : i = k := by omega); (rw [e]; exact HS.out), fun i hi => by rw [HO.out i (by omega)]; exact H0.out i (by omega), hB2, hbel2⟩
          case measure => simp only [intOf]; omega
    · obtain rfl : k = n := by omega
      go_wp2_with (go_at_call 48; refine (inverse_any k p (by omega) np2 (by omega) HG.out _).mono ?_; rintro e w7 ⟨inv, m7, rfl, hiv, hivn, rfl⟩; have HIV := Lib.hid hivn; clear hivn)
      go_loopw [116] (fun o wr2 => ∃ k2 : Nat, ∃ f2 : Nat → Nat, k2 ≤ k ∧ o = .int .i64 k2 ∧ Hid (∀ j, j < k2 → f2 j = psum x F k (k - j) p k * inv % p) ∧ Hid (∀ j, k2 ≤ j → f2 j = f j) ∧ Bld wr2 B 24 (.slice (some ⟨B, 0, none⟩) k k) k (uw f2) ∧ Below B w3 wr2) (fun o _ => k - (intOf o).toNat)
      case atStart => exact ⟨0, f, Nat.zero_le _, rfl, fun j hj => absurd hj (by omega), fun _ _ => rfl, HB.out.drewN _, below_drewN Hbel.out _⟩
      case round =>
        obtain ⟨k2, f2, hk2, rfl, HK2, HO2, hB2, hbel2⟩ := hrel
        by_cases hl2 : k2 < k
        · have hl2' : (k2 : Int) < k := by omega
          have cY : _ = some (Value.int .u64 (f2 k2 : Nat)) := hB2.cell k2 hl2
          have fY := hB2.free k2
          have hval := (HO2.out k2 (Nat.le_refl _)).trans (HK.out k2 hl2)
          have hpl := psum_lt x F k (k - k2) p k hp0
          obtain ⟨y, hy⟩ : ∃ y, f2 k2 = y := ⟨_, rfl⟩
          rw [hy] at cY hval
          rw [← hval] at hpl
          obtain ⟨z, hz⟩ : ∃ z, y * inv % p = z := ⟨_, rfl⟩
          have HZ := Lib.hid hz
          have HV := Lib.hid (show z = psum x F k (k - k2) p k * inv % p by rw [← hz, hval])
          have HBO := Lib.hid hB2
          have HbelO := Lib.hid hbel2
          have hy64 : y < 18446744073709551616 := by omega
          have hi64 : inv < 18446744073709551616 := by omega
          clear hz hB2 hbel2 hy hval
          go_wp2_with (go_at_call 47; refine (mul_any y inv p hy64 hi64 hp0 np2 _).mono ?_; rw [HZ.out]; rintro e w5 ⟨k5, rfl, rfl⟩)
          go_roundw
          case rel => exact ⟨k2 + 1, updN f2 k2 z, by omega, by go_num, updN_below HK2.out HV.out, fun i hi => by show updN _ _ _ _ = _; unfold updN; rw [if_neg (by omega)]; exact HO2.out i (by omega), by first | exact ((HBO.out.drewN _).set k2 _).congr (fun i _ => upd_uw f2 k2 _ i) | exact ((HBO.out.set k2 _).drewN _).congr (fun i _ => upd_uw f2 k2 _ i), by first | exact (below_drewN HbelO.out _).setCell (Nat.le_refl B) _ | exact below_drewN (HbelO.out.setCell (Nat.le_refl B) _) _⟩
          case measure => simp only [intOf]; omega
        · obtain rfl : k2 = k := by omega
          go_wp2_with fail
          go_ret2
          exact ⟨_, _, inv, rfl, hB2.congr_mono HBw.out (fun i hi => by unfold uw; rw [HK2.out i hi, HFF.out]), HIV.out, hiv, HBo.out _ hbel2⟩
end Go.Proofs.YtppebegleedifaaDoor
