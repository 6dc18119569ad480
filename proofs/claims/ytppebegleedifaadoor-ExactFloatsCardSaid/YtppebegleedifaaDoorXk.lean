/- transform where it answers an error; ask. -/
import Derived.Test.YtppebegleedifaaDoorXj
import Derived.Test.YtppebegleedifaaDoorXi
namespace Go.Proofs.YtppebegleedifaaDoor
open Go.RowKit

/-- An error's value. -/
def eV (a : Nat → Addr) : Nat → Value := fun g => .iface 110 (.pointer (some (a g)))
def gF : Nat → Nat := fun j => if j = 0 then 31 else if j = 1 then 13 else 3
def TF : Nat → List Nat := fun j => if j = 0 then T1 else if j = 1 then T2 else T3
theorem prF (i : Nat) (hi : i < 3) : PR (primeF i) (gF i) (TF i) := by
  rcases (show i = 0 ∨ i = 1 ∨ i = 2 by omega) with rfl | rfl | rfl
  · exact pr1
  · exact pr2
  · exact pr3
set_option maxHeartbeats 2000000 in
theorem transform_mode (A : Option Addr) (n c : Nat) (i : Int) (b : Bool) (E : Nat → Value) (w : World) (_hn : n ≤ 9223372036854775807) (hi : i < 0 ∨ 3 ≤ i) (hE : Ers w E) :
    Calls Tryd.prog 29 #[.slice A n c, .int .i64 i, .bool b] w fun e w' => e = .returned (.tuple #[.slice none 0 0, E 2]) ∧ Below w.heap.size w w' := by
  rcases hi with hi | hi
  · go_enter Tryd.func29, Tryd.ntmps29
    go_wp2_with (go_at_call 24; refine (primes_any _).mono ?_; rintro e w1 ⟨A1, c1, rfl, hB1, hb1⟩; have hc := (hE.below hb1).cell 2 (by decide); clear hB1)
    go_quiet (fail)
    go_wp2_with fail
    go_ret2
    exact ⟨rfl, below_drewN hb1 _⟩
  · have hi2 : ¬ i < 0 := by omega
    go_enter Tryd.func29, Tryd.ntmps29
    go_wp2_with (go_at_call 24; refine (primes_any _).mono ?_; rintro e w1 ⟨A1, c1, rfl, hB1, hb1⟩; have hc := (hE.below hb1).cell 2 (by decide); clear hB1)
    go_quiet (fail)
    go_wp2_with fail
    go_ret2
    exact ⟨rfl, below_drewN hb1 _⟩
set_option maxHeartbeats 2000000 in
theorem transform_length (A : Option Addr) (n c i : Nat) (b : Bool) (E : Nat → Value) (w : World) (hn : n ≤ 9223372036854775807) (hi : i < 3) (h : n < 1 ∨ 1024 < n) (hE : Ers w E) :
    Calls Tryd.prog 29 #[.slice A n c, .int .i64 i, .bool b] w fun e w' => e = .returned (.tuple #[.slice none 0 0, E 0]) ∧ Below w.heap.size w w' := by
  have hi' : (i : Int) < 3 := by omega
  have hi2 : ¬ (3 : Int) ≤ i := by omega
  rcases h with h | h
  · have h' : (n : Int) < 1 := by omega
    go_enter Tryd.func29, Tryd.ntmps29
    go_wp2_with (go_at_call 24; refine (primes_any _).mono ?_; rintro e w1 ⟨A1, c1, rfl, hB1, hb1⟩; have hc := (hE.below hb1).cell 0 (by decide); clear hB1)
    go_quiet (fail)
    go_wp2_with fail
    go_ret2
    exact ⟨rfl, below_drewN hb1 _⟩
  · have h' : (1024 : Int) < n := by omega
    have h2 : ¬ (n : Int) < 1 := by omega
    go_enter Tryd.func29, Tryd.ntmps29
    go_wp2_with (go_at_call 24; refine (primes_any _).mono ?_; rintro e w1 ⟨A1, c1, rfl, hB1, hb1⟩; have hc := (hE.below hb1).cell 0 (by decide); clear hB1)
    go_quiet (fail)
    go_wp2_with fail
    go_ret2
    exact ⟨rfl, below_drewN hb1 _⟩
set_option maxHeartbeats 2000000 in
theorem transform_root (A : Option Addr) (n c i p : Nat) (b : Bool) (a : Nat → Addr) (w : World) (hi : i < 3) (hip : primeF i = p) (h2 : 2 ≤ p) (np2 : p < 4294967296) (hn : 1 ≤ n) (hn2 : n ≤ 1024) (hd : (p - 1) % n ≠ 0) (hE : Ers w (eV a)) :
    Calls Tryd.prog 29 #[.slice A n c, .int .i64 i, .bool b] w fun e w' => e = .returned (.tuple #[.slice none 0 0, eV a 3]) ∧ Below w.heap.size w w' := by
  have hi' : (i : Int) < 3 := by omega
  have hn' : (1 : Int) ≤ n := by omega
  have hn2' : (n : Int) ≤ 1024 := by omega
  have Hip := Lib.hid hip
  have Hd := Lib.hid hd
  have HE := Lib.hid hE
  clear hip hd hE
  have e3 : eV a 3 = .iface 110 (.pointer (some (a 3))) := rfl
  go_enter Tryd.func29, Tryd.ntmps29
  go_wp2_with (first
    | (go_at_call 24; refine (primes_any _).mono ?_; rintro e w1 ⟨A1, c1, rfl, hB1, hb1⟩; have HB1 := Lib.hid hB1.rs; have Hb1 := Lib.hid hb1; have q1 := hB1.rs.nc; have q2 := hB1.rs.cm; clear hB1 hb1)
    | ((with_reducible show wpList _ _ _ (⟨some 43, _, _, _, _, _⟩ :: _) _ _); refine wpl_ix rfl 22 24 _ _ rfl Tryd.underlying22 cells24 A1 3 c1 i _ _ (uw primeF) rfl rfl rfl hi HB1.out ?_; intro pp hpp; have hpp2 : w1.cell? pp = some (.int .u64 (p : Nat)) := (by rw [hpp]; show some (Value.int .u64 (primeF i : Nat)) = _; rw [Hip.out]); clear hpp)
    | (go_at_call 45; refine (root45_no n p (eV a) h2 np2 hn hn2 Hd.out _ (HE.out.below Hb1.out)).mono ?_; rintro e w2 ⟨k, rfl, rfl⟩))
  go_ret2
  exact ⟨rfl, below_drewN Hb1.out _⟩

set_option maxHeartbeats 1000000 in
theorem ask_mode (n : Nat) (i : Int) (w : World) (hi : i < 0 ∨ 3 ≤ i) :
    Calls Tryd.prog 30 #[.int .i64 n, .int .i64 i] w fun e w' => e = .returned (.tuple #[.int .u64 0, .int .u64 0, .int .i64 17]) ∧ Below w.heap.size w w' := by
  rcases hi with hi | hi
  · go_enter Tryd.func30, Tryd.ntmps30
    go_wp2_with fail
    go_ret3
    exact ⟨rfl, Below.refl _ _⟩
  · have hi2 : ¬ i < 0 := by omega
    have hi3 : 2 < i := by omega
    go_enter Tryd.func30, Tryd.ntmps30
    go_wp2_with fail
    go_ret3
    exact ⟨rfl, Below.refl _ _⟩
set_option maxHeartbeats 1000000 in
theorem ask_length (n i : Nat) (w : World) (hi : i < 3) (h : n < 1 ∨ 1024 < n) :
    Calls Tryd.prog 30 #[.int .i64 n, .int .i64 i] w fun e w' => e = .returned (.tuple #[.int .u64 0, .int .u64 0, .int .i64 7]) ∧ Below w.heap.size w w' := by
  have hi' : (i : Int) < 3 := by omega
  have hi2 : ¬ (2 : Int) < i := by omega
  rcases h with h | h
  · have h' : (n : Int) < 1 := by omega
    go_enter Tryd.func30, Tryd.ntmps30
    go_wp2_with fail
    go_ret3
    exact ⟨rfl, Below.refl _ _⟩
  · have h' : (1024 : Int) < n := by omega
    have h2 : ¬ (n : Int) < 1 := by omega
    go_enter Tryd.func30, Tryd.ntmps30
    go_wp2_with fail
    go_ret3
    exact ⟨rfl, Below.refl _ _⟩
set_option maxHeartbeats 1000000 in
theorem ask_root (n i p : Nat) (a : Nat → Addr) (w : World) (hi : i < 3) (hip : primeF i = p) (h2 : 2 ≤ p) (np2 : p < 4294967296) (hn : 1 ≤ n) (hn2 : n ≤ 1024) (hd : (p - 1) % n ≠ 0) (hE : Ers w (eV a)) :
    Calls Tryd.prog 30 #[.int .i64 n, .int .i64 i] w fun e w' => e = .returned (.tuple #[.int .u64 0, .int .u64 0, .int .i64 11]) ∧ Below w.heap.size w w' := by
  have hi' : (i : Int) < 3 := by omega
  have hi2 : ¬ (2 : Int) < i := by omega
  have hn' : (1 : Int) ≤ n := by omega
  have hn2' : (n : Int) ≤ 1024 := by omega
  have Hip := Lib.hid hip
  have Hd := Lib.hid hd
  have HE := Lib.hid hE
  clear hip hd hE
  go_enter Tryd.func30, Tryd.ntmps30
  go_wp2_with (first
    | (go_at_call 28; refine (primesR_any _).mono ?_; rintro e w1 ⟨A1, c1, rfl, hB1, hb1⟩; have HB1 := Lib.hid hB1.rs; have Hb1 := Lib.hid hb1; have q1 := hB1.rs.nc; have q2 := hB1.rs.cm; clear hB1 hb1)
    | ((with_reducible show wpList _ _ _ (⟨some 24, _, _, _, _, _⟩ :: _) _ _); refine wpl_ix rfl 22 24 _ _ rfl Tryd.underlying22 cells24 A1 3 c1 i _ _ (uw primeF) rfl rfl rfl hi HB1.out ?_; intro pp hpp; have hpp2 : w1.cell? pp = some (.int .u64 (p : Nat)) := (by rw [hpp]; show some (Value.int .u64 (primeF i : Nat)) = _; rw [Hip.out]); clear hpp)
    | (go_at_call 49; refine (rootR49_no n p (eV a) h2 np2 hn hn2 Hd.out _ (HE.out.below Hb1.out)).mono ?_; rintro e w2 ⟨k, rfl, rfl⟩))
  go_ret3
  exact ⟨rfl, below_drewN Hb1.out _⟩
set_option maxHeartbeats 1000000 in
theorem ask_ok (n i p g r : Nat) (T : List Nat) (w : World) (hi : i < 3) (hip : primeF i = p) (h : PR p g T) (hn : 1 ≤ n) (hn2 : n ≤ 1024) (hd : (p - 1) % n = 0) (hr : g ^ ((p - 1) / n) % p = r) :
    Calls Tryd.prog 30 #[.int .i64 n, .int .i64 i] w fun e w' => e = .returned (.tuple #[.int .u64 p, .int .u64 r, .int .i64 0]) ∧ Below w.heap.size w w' := by
  have hi' : (i : Int) < 3 := by omega
  have hi2 : ¬ (2 : Int) < i := by omega
  have hn' : (1 : Int) ≤ n := by omega
  have hn2' : (n : Int) ≤ 1024 := by omega
  have Hip := Lib.hid hip
  have Hd := Lib.hid hd
  have H := Lib.hid h
  have Hr := Lib.hid hr
  clear hip hd h hr
  go_enter Tryd.func30, Tryd.ntmps30
  go_wp2_with (first
    | (go_at_call 28; refine (primesR_any _).mono ?_; rintro e w1 ⟨A1, c1, rfl, hB1, hb1⟩; have HB1 := Lib.hid hB1.rs; have Hb1 := Lib.hid hb1; have q1 := hB1.rs.nc; have q2 := hB1.rs.cm; clear hB1 hb1)
    | ((with_reducible show wpList _ _ _ (⟨some 24, _, _, _, _, _⟩ :: _) _ _); refine wpl_ix rfl 22 24 _ _ rfl Tryd.underlying22 cells24 A1 3 c1 i _ _ (uw primeF) rfl rfl rfl hi HB1.out ?_; intro pp hpp; have hpp2 : w1.cell? pp = some (.int .u64 (p : Nat)) := (by rw [hpp]; show some (Value.int .u64 (primeF i : Nat)) = _; rw [Hip.out]); clear hpp)
    | (go_at_call 49; refine (rootR49_ok n p g T H.out hn hn2 Hd.out _).mono ?_; rw [Hr.out]; rintro e w2 ⟨rfl, hb2⟩))
  go_ret3
  exact ⟨rfl, Hb1.out.trans (hb2.mono Hb1.out.size)⟩
end Go.Proofs.YtppebegleedifaaDoor
