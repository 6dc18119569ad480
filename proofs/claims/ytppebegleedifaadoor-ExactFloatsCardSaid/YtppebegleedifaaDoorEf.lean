/- direct.Forward at lengths 1, 2, 4, over complex numbers of whole parts. -/
import Derived.Test.YtppebegleedifaaDoorEe
import Derived.Test.YtppebegleedifaaDoorXt
namespace Go.Proofs.YtppebegleedifaaDoor
open Go.RowKit Fw

/-- A list of complex numbers. -/
def cw (p q : Nat → Nat) : Nat → Value := fun j => .complex .f64 (p j) (q j)
theorem closure_any (A : Option Addr) (n c i : Nat) (p q : Nat → Nat) (cb : Nat) (w : World) (hr : RS w A n c (cw p q)) (hc : w.cell? ⟨cb, 0, none⟩ = some (.slice A n c)) (hi : i < n) :
    Calls Tryd.prog 44 #[.int .i64 i, .pointer (some ⟨cb, 0, none⟩)] w fun e w' => e = .returned (.complex .f64 (p i) (q i)) ∧ w = w' := by
  go_enter Tryd.func44, Tryd.ntmps44
  go_wp2_with ((with_reducible show wpList _ _ _ (⟨some 6, _, _, _, _, _⟩ :: _) _ _); refine wpl_ix rfl 52 53 _ _ rfl Tryd.underlying52 cells53 A n c i _ _ (cw p q) rfl rfl rfl hi hr ?_; intro pp hpp; have hpp2 : w.cell? pp = some (.complex .f64 (p i) (q i)) := hpp; clear hpp)
  go_ret
  exact ⟨rfl, rfl⟩
theorem term_b {x s M : Int} (hx : -M ≤ x ∧ x ≤ M) (hs : s = 1 ∨ s = -1) : -M ≤ x * s ∧ x * s ≤ M := by
  rcases hs with rfl | rfl <;> omega
theorem rA_b {q : Nat} {x y M : Int} (hx : -M ≤ x ∧ x ≤ M) (hy : -M ≤ y ∧ y ≤ M) : -M ≤ rA q x y ∧ rA q x y ≤ M := by unfold rA; split; exact hx; exact hy
theorem reS_b {n : Nat} {x y : Nat → Int} {M : Int} (hx : ∀ j, -M ≤ x j ∧ x j ≤ M) (hy : ∀ j, -M ≤ y j ∧ y j ≤ M) (k j : Nat) : -((j : Int) * M) ≤ reS n x y k j ∧ reS n x y k j ≤ (j : Int) * M := by
  induction j with
  | zero => rw [reS]; simp
  | succ j ih =>
    rw [reS]
    have := term_b (rA_b (q := rot n k j) (hx j) (hy j)) (rs_one (rot n k j))
    rw [Int.natCast_succ, Int.add_mul]
    omega
theorem imS_b {n : Nat} {x y : Nat → Int} {M : Int} (hx : ∀ j, -M ≤ x j ∧ x j ≤ M) (hy : ∀ j, -M ≤ y j ∧ y j ≤ M) (k j : Nat) : -((j : Int) * M) ≤ imS n x y k j ∧ imS n x y k j ≤ (j : Int) * M := by
  induction j with
  | zero => rw [imS]; simp
  | succ j ih =>
    rw [imS]
    have := term_b (rA_b (q := rot n k j) (hy j) (hx j)) (rt_one (rot n k j))
    rw [Int.natCast_succ, Int.add_mul]
    omega
/-- The root at j * k % n is the turn of place k and summand j. -/
theorem rot_root {n k j r : Nat} (hn : n = 1 ∨ n = 2 ∨ n = 4) (hr : j * k % n = r) : 4 * r / n = rot n k j := by
  unfold rot
  rw [← hr, show 4 * j * k = 4 * (j * k) by rw [Nat.mul_assoc]]
  generalize j * k = t
  rcases hn with rfl | rfl | rfl <;> omega
theorem re_turn {n r : Nat} {x y : Int} (q : Nat) (hq : q < 4) (e : 4 * r / n = q) : x * rootA n r - y * rootB n r = rA q x y * rsN q ∧ x * rootB n r + y * rootA n r = rA q y x * rtN q := by
  unfold rootA rootB rA rsN rtN
  rw [e]
  rcases (show q = 0 ∨ q = 1 ∨ q = 2 ∨ q = 3 by omega) with rfl | rfl | rfl | rfl <;> simp
theorem re_zero {x y : Int} : rA 0 x y * rsN 0 = x ∧ rA 0 y x * rtN 0 = y := by unfold rA rsN rtN; simp
theorem rootAB (n r : Nat) : (rootA n r = 1 ∨ rootA n r = 0 ∨ rootA n r = -1) ∧ (rootB n r = 1 ∨ rootB n r = 0 ∨ rootB n r = -1) := by
  unfold rootA rootB
  constructor
  · split; exact .inl rfl; split; exact .inr (.inr rfl); exact .inr (.inl rfl)
  · split; exact .inr (.inr rfl); split; exact .inl rfl; exact .inr (.inl rfl)
theorem prod_b {x s : Int} (hx : -1099511627776 ≤ x ∧ x ≤ 1099511627776) (hs : s = 1 ∨ s = 0 ∨ s = -1) : -1099511627776 ≤ x * s ∧ x * s ≤ 1099511627776 := by
  rcases hs with rfl | rfl | rfl <;> omega
set_option maxRecDepth 100000 in
set_option maxHeartbeats 8000000 in
theorem sum_any (T : Option Addr) (n ct k : Nat) (A : Option Addr) (c : Nat) (p q : Nat → Nat) (x y : Nat → Int) (cb : Nat) (w : World) (hn : n = 1 ∨ n = 2 ∨ n = 4) (hk : k < n)
    (ht : RS w T n ct (rootV n)) (hr : RS w A n c (cw p q)) (hc : w.cell? ⟨cb, 0, none⟩ = some (.slice A n c)) (hp : ∀ j, j < n → IsI (p j) (x j)) (hq : ∀ j, j < n → IsI (q j) (y j))
    (hx : ∀ j, -1099511627776 ≤ x j ∧ x j ≤ 1099511627776) (hy : ∀ j, -1099511627776 ≤ y j ∧ y j ≤ 1099511627776) :
    Calls Tryd.prog 43 #[.slice T n ct, .int .i64 k, .func (Fn.func 44) #[] #[.pointer (some ⟨cb, 0, none⟩)]] w fun e w' => ∃ u v, e = .returned (.complex .f64 u v) ∧ IsI u (reS n x y k n) ∧ IsI v (imS n x y k n) ∧ w = w' := by
  have k1 := ht.nc
  have k2 := ht.cm
  have hn1 : 1 ≤ n := by omega
  have hn4 : n ≤ 4 := by omega
  have z1 : (n : Int) ≠ 0 := by omega
  have z2 : (0 : Int) < n := by omega
  have h1 : (k : Int) % n = k := by rw [← Int.natCast_emod, Nat.mod_eq_of_lt hk]
  have h2 : ((k : Int) + n) % n = k := by rw [Int.add_emod_right, h1]
  have Hn := Lib.hid hn
  have Ht := Lib.hid ht
  have Hr := Lib.hid hr
  have Hc := Lib.hid hc
  have Hp := Lib.hid hp
  have Hq := Lib.hid hq
  have Hx := Lib.hid hx
  have Hy := Lib.hid hy
  clear hn ht hr hc hp hq hx hy
  go_enter Tryd.func43, Tryd.ntmps43
  go_wp2_with (go_at_call 44; refine (closure_any A n c 0 p q cb _ Hr.out Hc.out (by omega)).mono ?_; rintro e w' ⟨rfl, rfl⟩)
  go_loop [9, 8] (fun o s => ∃ j u v : Nat, 1 ≤ j ∧ j ≤ n ∧ o = .int .i64 j ∧ s = .complex .f64 u v ∧ Hid (IsI u (reS n x y k j) ∧ IsI v (imS n x y k j))) (fun o _ => n - (intOf o).toNat)
  case atStart =>
    refine ⟨1, p 0, q 0, Nat.le_refl _, hn1, rfl, rfl, ?_⟩
    show _ ∧ _
    have e : rot n k 0 = 0 := by unfold rot; simp
    rw [reS, imS, reS, imS, e, re_zero.1, re_zero.2, Int.zero_add, Int.zero_add]
    exact ⟨Hp.out 0 (by omega), Hq.out 0 (by omega)⟩
  case round =>
    obtain ⟨j, u, v, hj1, hj, rfl, rfl, HI⟩ := hrel
    by_cases hlt : j < n
    · have hlt' : (j : Int) < n := by omega
      obtain ⟨t, htk⟩ : ∃ t, j * k = t := ⟨_, rfl⟩
      obtain ⟨r, hrr⟩ : ∃ r, t % n = r := ⟨_, rfl⟩
      have i1 : (j : Int) * k = (t : Int) := by rw [← htk]; rfl
      have i2 : (t : Int) % n = (r : Int) := by rw [← hrr]; rfl
      have b1 : t ≤ 16 := by rw [← htk]; exact Nat.mul_le_mul (by omega : j ≤ 4) (by omega : k ≤ 4)
      have hrn : r < n := by rw [← hrr]; exact Nat.mod_lt _ (by omega)
      have hrn' : (r : Int) < n := by omega
      have Hrot : Hid (4 * r / n = rot n k j) := rot_root Hn.out (by rw [htk, hrr])
      have Hxj := Lib.hid (Hx.out j)
      have Hyj := Lib.hid (Hy.out j)
      have hb1 := reS_b (n := n) Hx.out Hy.out k j
      have hb2 := imS_b (n := n) Hx.out Hy.out k j
      have hj4 : (j : Int) ≤ 4 := by omega
      have Hb : Hid ((-4398046511104 ≤ reS n x y k j ∧ reS n x y k j ≤ 4398046511104) ∧ (-4398046511104 ≤ imS n x y k j ∧ imS n x y k j ≤ 4398046511104)) := ⟨⟨by omega, by omega⟩, ⟨by omega, by omega⟩⟩
      clear htk hrr hb1 hb2
      by_cases hr0 : r = 0
      · subst hr0
        have e : rot n k j = 0 := by rw [← Hrot.out]; simp
        have g0 : ((0 : Int) != 0) = false := rfl
        obtain ⟨u2, hu2, ku2⟩ := ex_addI HI.out.1 (Hp.out j hlt) (by have := Hb.out; have := Hxj.out; omega)
        obtain ⟨v2, hv2, kv2⟩ := ex_addI HI.out.2 (Hq.out j hlt) (by have := Hb.out; have := Hyj.out; omega)
        have Ku := Lib.hid ku2
        have Kv := Lib.hid kv2
        have He := Lib.hid e
        clear ku2 kv2 e
        go_wp2_with (go_at_call 44; refine (closure_any A n c j p q cb _ Hr.out Hc.out hlt).mono ?_; rintro e w' ⟨rfl, rfl⟩)
        exact ⟨⟨j + 1, u2, v2, by omega, by omega, by go_num, rfl, by
          show _ ∧ _
          rw [reS, imS, He.out, re_zero.1, re_zero.2]; exact ⟨Ku.out, Kv.out⟩⟩, by simp only [intOf]; omega⟩
      · have g0 : ((r : Int) != 0) = true := by simp; omega
        obtain ⟨a, b, hab, ka, kb⟩ := root_isC n r (q_lt Hn.out hrn)
        have hv' : ∀ pp : Addr, w.cell? pp = some (rootV n r) → w.cell? pp = some (.complex .f64 a b) := fun pp h => by rw [← hab]; exact h
        have HV := Lib.hid hv'
        obtain ⟨e1, e2⟩ := re_turn (x := x j) (y := y j) (rot n k j) (by rw [← Hrot.out]; exact q_lt Hn.out hrn) Hrot.out
        obtain ⟨m1, m2⟩ := rootAB n r
        have c1 := prod_b Hxj.out m1
        have c2 := prod_b Hyj.out m2
        have c3 := prod_b Hxj.out m2
        have c4 := prod_b Hyj.out m1
        have HM := Lib.hid (fun w => cmul_any (p j) (q j) a b (x j) (y j) (rootA n r) (rootB n r) w (Hp.out j hlt) (Hq.out j hlt) ka kb (by omega) (by omega) (by omega) (by omega) (by omega) (by omega))
        have E1 := Lib.hid e1
        have E2 := Lib.hid e2
        have HB1 : Hid (∀ u2, IsI u2 (x j * rootA n r - y j * rootB n r) → ∃ s, (∀ w t, (binOp .add t (.float .f64 u) (.float .f64 u2)).run Tryd.prog w = .ok (.float .f64 s) w) ∧ IsI s (reS n x y k j + (x j * rootA n r - y j * rootB n r))) :=
          fun u2 h => ex_addI HI.out.1 h (by have := Hb.out; omega)
        have HB2 : Hid (∀ v2, IsI v2 (x j * rootB n r + y j * rootA n r) → ∃ s, (∀ w t, (binOp .add t (.float .f64 v) (.float .f64 v2)).run Tryd.prog w = .ok (.float .f64 s) w) ∧ IsI s (imS n x y k j + (x j * rootB n r + y j * rootA n r))) :=
          fun v2 h => ex_addI HI.out.2 h (by have := Hb.out; omega)
        clear hv' e1 e2 m1 m2 c1 c2 c3 c4 ka kb hab
        go_wp2_with (first
          | (go_at_call 44; refine (closure_any A n c j p q cb _ Hr.out Hc.out hlt).mono ?_; rintro e w' ⟨rfl, rfl⟩)
          | ((with_reducible show wpList _ _ _ (⟨some 41, _, _, _, _, _⟩ :: _) _ _); refine wpl_ix rfl 52 53 _ _ rfl Tryd.underlying52 cells53 T n ct r _ _ (rootV n) rfl rfl i2 hrn Ht.out ?_; intro pp hpp; have hpp2 := HV.out pp hpp; clear hpp)
          | (go_at_call 55; refine (HM.out _).mono ?_; rintro e w' ⟨u2, v2, rfl, h1, h2, rfl⟩; obtain ⟨u3, hu3, ku3⟩ := HB1.out u2 h1; obtain ⟨v3, hv3, kv3⟩ := HB2.out v2 h2; have Ku := Lib.hid ku3; have Kv := Lib.hid kv3; clear ku3 kv3 h1 h2))
        exact ⟨⟨j + 1, u3, v3, by omega, by omega, by go_num, rfl, by
          show _ ∧ _
          rw [reS, imS, ← E1.out, ← E2.out]; exact ⟨Ku.out, Kv.out⟩⟩, by simp only [intOf]; omega⟩
    · obtain rfl : n = j := by omega
      go_wp2_with fail
      go_ret
      exact ⟨u, v, rfl, HI.out.1, HI.out.2, rfl⟩
end Go.Proofs.YtppebegleedifaaDoor
