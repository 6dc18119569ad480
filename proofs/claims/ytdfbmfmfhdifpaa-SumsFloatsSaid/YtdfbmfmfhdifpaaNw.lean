/- SumsNoOrder: the walk. -/
import Derived.Test.YtdfbmfmfhdifpaaBm
import Derived.BigRegion
namespace Go.Proofs.Ytdfbmfmfhdifpaa
open Go.RowKit

theorem cn_lt64 (b : Nat) (h : b < 18446744073709551616) : cn b < 18446744073709551616 := by
  unfold cn
  split
  · decide
  · exact h
theorem neg_word (b : Nat) (hb : b < 18446744073709551616) : Op.negFloat FloatKind.f64 b = negW b := by
  have e0 : Op.negFloat FloatKind.f64 b = b ^^^ 2 ^ 63 := rfl
  rw [e0]
  have hlt : b % 9223372036854775808 < 2 ^ 63 := Nat.mod_lt _ (by decide)
  have hv : b = b % 9223372036854775808 ∨ b = 2 ^ 63 + b % 9223372036854775808 := by omega
  have e2 := Nat.two_pow_add_eq_or_of_lt hlt 1
  rw [Nat.mul_one] at e2
  unfold negW
  generalize b % 9223372036854775808 = v at *
  have key : ∀ i, (v.testBit i ^^ (2 ^ 63).testBit i) = (2 ^ 63 ||| v).testBit i := by
    intro i
    rw [Nat.testBit_or, Nat.testBit_two_pow]
    by_cases hi : 63 = i
    · subst hi; rw [Nat.testBit_lt_two_pow hlt]; simp
    · simp [hi]
  rcases hv with rfl | rfl
  · rw [if_pos (by omega), show b + 9223372036854775808 = 2 ^ 63 + b from by omega, e2]
    apply Nat.eq_of_testBit_eq
    intro i
    rw [Nat.testBit_xor]; exact key i
  · rw [if_neg (by omega), show 2 ^ 63 + v - 9223372036854775808 = v from by omega, e2]
    apply Nat.eq_of_testBit_eq
    intro i
    rw [Nat.testBit_xor, ← key i]
    cases v.testBit i <;> cases (2 ^ 63).testBit i <;> rfl

set_option maxHeartbeats 400000 in
theorem negative_any (b : Nat) (hb : b < 18446744073709551616) (w : World) : Calls Try.prog 19 #[.float .f64 b] w fun e w' => e = .returned (.float .f64 (negW b)) ∧ w = w' := by
  have hx : ∀ w : World, (Op.unary .neg (.float .f64 b)).run Try.prog w = .ok (.float .f64 (negW b)) w := fun w => by rw [← neg_word b hb]; rfl
  clear hb
  go_enter Try.func19, Try.ntmps19
  go_wp2_with fail
  go_ret
  exact ⟨rfl, rfl⟩

theorem run_store_float (a : Addr) (u : Nat) (w : World) : (store a (.float .f64 u)).run Try.prog w = stored Try.prog w a (.float .f64 u) .plain := run_store Try.prog w a _ .plain rfl
theorem same_true {a b v : Nat} (ha : cn a = cn v) (hb : cn b = cn v) : (cn a == cn b) = true := by rw [ha, hb]; simp
theorem rs_one (w : World) (y : Value) (t : TypeId) : RS (w.alloc (.cells #[y] t)) (some ⟨w.heap.size, 0, none⟩) 1 1 (fun _ => y) := by
  refine ⟨by omega, by omega, fun j hj => ⟨_, rfl, ?_⟩⟩
  obtain rfl : j = 0 := by omega
  exact cell_one w y t
theorem upd_split (g : Nat → Nat) (n f : Nat) : (∀ j, j < n → fl g j = fl (upd g n f) j) ∧ ∀ j, j < 1 → (fun _ : Nat => Value.float .f64 f) j = fl (upd g n f) (n + j) := by
  constructor
  · intro j hj
    show Value.float _ _ = Value.float _ _
    unfold upd; rw [if_neg (by omega)]
  · intro j hj
    obtain rfl : j = 0 := by omega
    show Value.float _ _ = Value.float _ _
    unfold upd; simp
theorem front_split (v : Nat) (g : Nat → Nat) (m : Nat) : (∀ j, j < 1 → (fun _ : Nat => Value.float .f64 v) j = fl (front v g) j) ∧ ∀ j, j < m → fl g j = fl (front v g) (1 + j) := by
  constructor
  · intro j hj
    obtain rfl : j = 0 := by omega
    rfl
  · intro j hj
    show Value.float _ _ = Value.float _ _
    unfold front; rw [if_neg (by omega), show 1 + j - 1 = j from by omega]
theorem front_lt {g : Nat → Nat} {n f v : Nat} (h : ∀ j, j < n → g j < 18446744073709551616) (hf : f < 18446744073709551616) (hv : v < 18446744073709551616) :
    ∀ j, j < 1 + (n + 1) → front v (upd g n f) j < 18446744073709551616 := by
  intro j hj
  unfold front upd
  split
  · exact hv
  · split
    · exact hf
    · exact h _ (by omega)
theorem end_cases {r0 r2 a b : Nat} (h0 : cn r0 = cn a) (h2 : cn r2 = cn b) (h : (a = nanW ∧ b = nanW) ∨ (FloatKind.f64.format.order a b == some .eq) = true) :
    (FloatKind.f64.format.order r0 r2 == some .eq) = true ∨
    ((FloatKind.f64.format.order r0 r2 == some .eq) = false ∧ (FloatKind.f64.format.order r0 r0 != some .eq) = true ∧ (FloatKind.f64.format.order r2 r2 != some .eq) = true) := by
  have nn : ∀ {r : Nat}, cn r = nanW → r % 9223372036854775808 > 9218868437227405312 := by
    intro r hr
    unfold cn at hr
    split at hr
    · assumption
    · rw [hr]; decide
  rcases h with ⟨rfl, rfl⟩ | h
  · rw [cn_nanW] at h0 h2
    right
    have k0 := nn h0
    have k2 := nn h2
    rw [order_nan_left k0, order_nan_left k0, order_nan_left k2]
    exact ⟨rfl, rfl, rfl⟩
  · left
    by_cases ha : a % 9223372036854775808 > 9218868437227405312
    · rw [order_nan_left ha] at h; exact absurd h (by decide)
    · by_cases hb : b % 9223372036854775808 > 9218868437227405312
      · rw [order_nan_right hb] at h; exact absurd h (by decide)
      · have e0 : cn a = a := by unfold cn; rw [if_neg ha]
        have e2 : cn b = b := by unfold cn; rw [if_neg hb]
        have na : a ≠ nanW := by intro e; rw [e] at ha; exact ha (by decide)
        have nb : b ≠ nanW := by intro e; rw [e] at hb; exact hb (by decide)
        rw [eq_of_cn (h0.trans e0) na, eq_of_cn (h2.trans e2) nb]
        exact h
theorem new_ne {w : World} {B : Nat} {e : TypeId} {vE : Value} {kE : Nat} {FE : Nat → Value} (h : Bld w B e vE kE FE) : ∀ gE, vE.ownBlock = some gE → (Value.slice (some ⟨w.heap.size, 0, none⟩) 1 1).ownBlock ≠ some gE := by
  intro gE hgE hc
  have := (h.own.lt gE hgE).2
  injection hc with hc
  have hc2 : w.heap.size = gE := hc
  omega
theorem Bld.drewN {w : World} {B : Nat} {e : TypeId} {v : Value} {k : Nat} {F : Nat → Value} (h : Bld w B e v k F) (m : Nat) : Bld (w.drewN m) B e v k F := h.same rfl
theorem ix_u (zk : Int) (n : Nat) (hn : 0 < n) : ∃ u : Nat, (IntKind.u64.wrap zk).tmod (n : Int) = (u : Int) ∧ u < n := by
  obtain ⟨m, hm⟩ : ∃ m : Nat, IntKind.u64.wrap zk = (m : Int) := ⟨(IntKind.u64.wrap zk).toNat, by have := wrap_u64_nonneg zk; omega⟩
  refine ⟨m % n, ?_, Nat.mod_lt _ hn⟩
  rw [hm, Int.tmod_eq_emod_of_nonneg (by omega)]
  omega
theorem swap_bld {w : World} {B g c n : Nat} {f : Nat → Nat} (h : Bld w B 26 (.slice (some ⟨g, 0, none⟩) n c) n (fl f)) (a b : Nat) :
    Bld ((w.setCell ⟨g, a, none⟩ (.float .f64 (f b))).setCell ⟨g, b, none⟩ (.float .f64 (f a))) B 26 (.slice (some ⟨g, 0, none⟩) n c) n (fl (swp f a b)) := by
  refine ((h.set a _).set b _).congr fun j _ => ?_
  unfold swp upd
  show _ = Value.float .f64 _
  by_cases e1 : j = b
  · simp [e1]
  · by_cases e2 : j = a
    · subst e2; simp [e1]
    · simp [e1, e2]
theorem upd_lt {f : Nat → Nat} {n a b : Nat} (h : ∀ j, j < n → f j < 18446744073709551616) (ha : a < n) (hb : b < n) : ∀ j, j < n → swp f a b j < 18446744073709551616 := by
  intro j hj
  unfold swp upd
  split
  · exact h a ha
  · split
    · exact h b hb
    · exact h j hj

set_option maxHeartbeats 4000000 in
theorem order_any (A : Option Addr) (n c : Nat) (b : Nat → Nat) (A2 : Option Addr) (n2 c2 : Nat) (z : Nat → Int) (A3 : Option Addr) (n3 c3 : Nat) (x : Nat → Nat) (w : World)
    (hr : RS w A n c (fun j => .int .u64 (b j))) (hr2 : RS w A2 n2 c2 (fun j => .int .i64 (z j))) (hr3 : RS w A3 n3 c3 (fun j => .int .u64 (x j)))
    (hb : ∀ j, j < n → b j < 18446744073709551616) (hx : ∀ j, j < n3 → x j < 18446744073709551616) (hz : ∀ j, j < n2 → -9223372036854775808 ≤ z j ∧ z j ≤ 9223372036854775807) :
    Calls Try.prog 4 #[.slice A n c, .slice A2 n2 c2, .slice A3 n3 c3] w fun e w' => e = .returned (.bool true) ∧ Below w.heap.size w w' := by
  have hm := hr.cm
  have hnc := hr.nc
  have hm2 := hr2.cm
  have hnc2 := hr2.nc
  have hm3 := hr3.cm
  have hnc3 := hr3.nc
  have Hb := Lib.hid hb
  have Hx := Lib.hid hx
  have Hz := Lib.hid hz
  clear hb hx hz
  by_cases h1 : n ≤ 8192
  rotate_left
  · go_enter Try.func4, Try.ntmps4
    go_wp2_with (go_at_call 7; refine (lives_any _).mono ?_; rintro e w1 ⟨rfl, hb1⟩)
    all_goals (go_ret; exact ⟨rfl, hb1⟩)
  by_cases h3 : n3 ≤ 100
  rotate_left
  · go_enter Try.func4, Try.ntmps4
    go_wp2_with (go_at_call 7; refine (lives_any _).mono ?_; rintro e w1 ⟨rfl, hb1⟩)
    all_goals (go_ret; exact ⟨rfl, hb1⟩)
  obtain ⟨fR, fN, hfop, hF⟩ := exFop .sub rfl
  by_cases h0 : n = 0
  · subst h0
    have e0 := eqL2
    go_enter Try.func4, Try.ntmps4
    go_wp2_with (first
      | (go_at_call 7; refine (lives_any _).mono ?_; rintro e w1 ⟨rfl, hb1⟩)
      | (go_at_call 8; refine (floats_any A 0 c b _ (by omega) ?_ ?_).mono ?_; exact fun j hj => absurd hj (by omega); exact hr.below hb1; rintro e w2 ⟨⟨A4, c4, rfl, hbl⟩, hb2⟩)
      | (go_at_call_of 12 (Value.slice A4 0 c4); refine (exact_any A4 0 c4 (fun j => cn (b j)) _ ?_ ?_ ?_).mono ?_; exact fun j hj => absurd hj (by omega); exact hbl.rs; exact sum_hS _ 0 (by omega); rintro e w3 ⟨r, rfl, hb', hv, hbel⟩; obtain rfl := eq_of_cn (hv.trans (show cn (exactG (fun j => cn (b j)) 0) = 0 from by rfl)) (by decide); clear hb' hv)
      | (go_at_call 12; refine (exact_any none 0 0 (fun j => cn (b j)) _ ?_ ?_ ?_).mono ?_; exact fun j hj => absurd hj (by omega); exact RS.nil _ _ _ _ (by omega); exact sum_hS _ 0 (by omega); rintro e w5 ⟨r, rfl, hb', hv, hbel5⟩; obtain rfl := eq_of_cn (hv.trans (show cn (exactG (fun j => cn (b j)) 0) = 0 from by rfl)) (by decide); clear hb' hv)
      | (go_at_call 14; refine (same_any _ _ _).mono ?_; rintro e w4 ⟨rfl, rfl⟩))
    go_ret
    refine ⟨by simp, ?_⟩
    exact hb1.trans ((hb2.trans (hbel.mono (by have := hb2.size; omega))).mono (by have := hb1.size; omega) |>.trans (hbel5.mono (by have := hb1.size; have := hb2.size; have := hbel.size; omega)))
  have hn0 : ((n : Int) == 0) = false := by simp; omega
  go_enter Try.func4, Try.ntmps4
  go_wp2_with (first
    | (go_at_call 7; refine (lives_any _).mono ?_; rintro e w1 ⟨rfl, hb1⟩)
    | (go_at_call 8; refine (floats_any A n c b _ (by omega) ?_ ?_).mono ?_; exact Hb.out; exact hr.below hb1; rintro e w2 ⟨⟨A4, c4, rfl, hbl⟩, hb2⟩)
    | (go_at_call_of 12 (Value.slice A4 n c4); refine (exact_any A4 n c4 (fun j => cn (b j)) _ ?_ ?_ ?_).mono ?_; exact fun j hj => cn_lt64 _ (Hb.out j hj); exact hbl.rs; exact sum_hS _ n (by omega); rintro e w3 ⟨r0, rfl, hb', hv, hbel⟩))
  obtain ⟨g, rfl, hgB, hgs⟩ := hbl.block (by omega)
  have hbl3 := hbl.below hbel
  have hw13 : Below w1.heap.size w1 w3 := hb2.trans (hbel.mono hb2.size)
  go_loopw [11, 12, 13, 14, 49] (fun y1 y2 y3 y4 i wr => ∃ k : Nat, ∃ g' : Nat → Nat, k ≤ n2 ∧ i = .int .i64 k ∧ Bld wr w1.heap.size 26 (.slice (some ⟨g, 0, none⟩) n c4) n (fl g') ∧
    Hid (∀ t, ssum t g' n = ssum t (fun j => cn (b j)) n) ∧ Hid (∀ j, j < n → g' j < 18446744073709551616) ∧ Below w1.heap.size w1 wr) (fun _ _ _ _ i _ => n2 - (intOf i).toNat)
  case atStart => exact ⟨0, _, by omega, rfl, hbl3, Lib.hid fun _ => rfl, Lib.hid fun j hj => cn_lt64 _ (Hb.out j hj), hw13⟩
  case round =>
    obtain ⟨k, g', hk, rfl, hB, hT, hL, hbw⟩ := hrel
    have hrr2 := (hr2.below hb1).below hbw
    by_cases hlt : k < n2
    · obtain ⟨hz1, hz2⟩ := Hz.out k hlt
      go_wp2_with (first
        | ((with_reducible show wpList _ _ _ (⟨some 52, _, _, _, _, _⟩ :: _) _ _); refine wpl_ix rfl 31 3 _ _ rfl Try.underlying31 cells3 A2 n2 c2 k _ _ _ rfl rfl rfl hlt hrr2 ?_; intro q hq))
      obtain ⟨jN, hjN, hj⟩ := ix_u (z k) n (by omega)
      have hhN : (k : Int) % (n : Int) = ((k % n : Nat) : Int) := by omega
      have hh : k % n < n := Nat.mod_lt _ (by omega)
      rw [hjN, hhN]
      generalize k % n = hN at *
      clear hjN hhN
      have p1 : (hN : Int) < n := by omega
      have p2 : (jN : Int) < n := by omega
      have p3 : (0 : Int) ≤ hN := by omega
      have p4 : (0 : Int) ≤ jN := by omega
      have ch : wr.cell? ⟨g, hN, none⟩ = some (.float .f64 (g' hN)) := hB.cell hN hh
      have cj : wr.cell? ⟨g, jN, none⟩ = some (.float .f64 (g' jN)) := hB.cell jN hj
      have fh := hB.free hN
      have fj := hB.free jN
      have hsw := Lib.hid (swap_bld hB hN jN)
      have hbw2 : Below w1.heap.size w1 ((wr.setCell ⟨g, hN, none⟩ (.float .f64 (g' jN))).setCell ⟨g, jN, none⟩ (.float .f64 (g' hN))) := (hbw.setCell hgB _).setCell hgB _
      have Hbw2 := Lib.hid hbw2
      clear hbw2
      have hst := run_store_float
      by_cases e : hN = jN
      · subst e
        have cs : (wr.setCell ⟨g, hN, none⟩ (.float .f64 (g' hN))).cell? ⟨g, hN, none⟩ = some (.float .f64 (g' hN)) := World.cell?_setCell_same _ _ _ ch
        go_big_region
        go_wp2
        exact ⟨⟨k + 1, swp g' hN hN, by omega, by go_num, hsw.out.same rfl, Lib.hid fun t => by rw [ssum_swp t g' n hN hN hh hj]; exact hT.out t, Lib.hid (upd_lt hL.out hh hj), Hbw2.out.drew⟩, by simp [intOf]; omega⟩
      · have cs : (wr.setCell ⟨g, hN, none⟩ (.float .f64 (g' jN))).cell? ⟨g, jN, none⟩ = some (.float .f64 (g' jN)) := by
          rw [← cj]; exact World.cell?_setCell_other _ _ _ _ (by intro e'; injection e' with _ e' _; exact e e')
        go_big_region
        go_wp2
        exact ⟨⟨k + 1, swp g' hN jN, by omega, by go_num, hsw.out.same rfl, Lib.hid fun t => by rw [ssum_swp t g' n hN jN hh hj]; exact hT.out t, Lib.hid (upd_lt hL.out hh hj), Hbw2.out.drew⟩, by simp [intOf]; omega⟩
    · obtain rfl : k = n2 := by omega
      have hex := Lib.hid (exact_same hT.out)
      go_wp2_with (first
        | (go_at_call 12; refine (exact_any (some ⟨g, 0, none⟩) n c4 g' _ ?_ ?_ ?_).mono ?_; exact hL.out; exact hB.rs; exact sum_hS _ n (by omega); rintro e w5 ⟨r1, rfl, hb5, hv1, hbel1⟩)
        | (go_at_call 14; refine (same_any _ _ _).mono ?_; rintro e w4 ⟨rfl, rfl⟩; rw [same_true (hv1.trans (congrArg cn hex.out)) hv])
        | (go_at_call 8; refine (floats_any A3 n3 c3 x _ (by omega) ?_ ?_).mono ?_; exact Hx.out; exact ((hr3.below hb1).below hbw).below hbel1; rintro e w7 ⟨⟨A5, c5, rfl, hbl5⟩, hb7⟩))
      have hB7 := (hB.below hbel1).below hb7
      have hE7 : Bld w7 w1.heap.size 26 (.slice A5 n3 c5) n3 (fl fun j => cn (x j)) := hbl5.mono (by have := hbw.size; have := hbel1.size; omega)
      have hbw7 : Below w1.heap.size w1 w7 := (hbw.trans (hbel1.mono hbw.size)).trans (hb7.mono (by have := hbw.size; have := hbel1.size; omega))
      have hne7 : ∀ gE, (Value.slice A5 n3 c5).ownBlock = some gE → (Value.slice (some ⟨g, 0, none⟩) n c4).ownBlock ≠ some gE := by
        intro gE hgE hc
        have h1 := hbl5.base gE hgE
        injection hc with hc
        have hc2 : g = gE := hc
        obtain ⟨g9, e9, _, h3⟩ := hB.block (by omega)
        injection e9 with e9
        injection e9 with e9
        have := hbel1.size
        omega
      go_loopw [8, 16, 85] (fun l f i wr => ∃ k n' c' : Nat, ∃ A' : Option Addr, ∃ g' : Nat → Nat, k ≤ n3 ∧ i = .int .i64 k ∧ l = .slice A' n' c' ∧ Bld wr w1.heap.size 26 (.slice A' n' c') n' (fl g') ∧ Bld wr w1.heap.size 26 (.slice A5 n3 c5) n3 (fl fun j => cn (x j)) ∧
        (∀ gE, (Value.slice A5 n3 c5).ownBlock = some gE → (Value.slice A' n' c').ownBlock ≠ some gE) ∧ n' ≤ n + 2 * k ∧ Hid (Paird (fun j => cn (b j)) n g' n') ∧ Hid (∀ j, j < n' → g' j < 18446744073709551616) ∧ Below w1.heap.size w1 wr) (fun _ _ i _ => n3 - (intOf i).toNat)
      case atStart => exact ⟨0, n, c4, _, g', by omega, rfl, rfl, hB7, hE7, hne7, by omega, Lib.hid (Paird.of_same hT.out), hL, hbw7⟩
      case round =>
        clear hB7 hE7 hne7 hB hT hL
        obtain ⟨k', n', c', A', g'', hk', rfl, rfl, hB, hE, hne, hn', hP, hL, hbw'⟩ := hrel
        by_cases hlt3 : k' < n3
        · have hfv := cn_lt64 _ (Hx.out k' hlt3)
          have hErs := hE.rs
          obtain ⟨f, hf⟩ : ∃ f, cn (x k') = f := ⟨_, rfl⟩
          rw [hf] at hfv
          obtain ⟨r5, hr5⟩ : ∃ r5, fR f f wr = r5 := ⟨_, rfl⟩
          obtain ⟨m5, hm5⟩ : ∃ m5, fN f f wr = m5 := ⟨_, rfl⟩
          have hsub : (binOp BinOp.sub 26 (Value.float FloatKind.f64 f) (Value.float FloatKind.f64 f)).run Try.prog wr = .ok (.float .f64 r5) (wr.drewN m5) := by rw [← hr5, ← hm5]; exact hfop f f wr
          have hcr : cn r5 = fop .sub f f := by rw [← hr5]; exact (hF.out f f wr).2
          have HF := Lib.hid hfv
          have hneg := fun w => negative_any f hfv w
          have hEo : ∀ gE, (Value.slice A5 n3 c5).ownBlock = some gE → gE < wr.heap.size := fun gE hgE => (hE.own.lt gE hgE).2
          clear hfop hF hr5 hm5 hfv
          by_cases hfin : fin f
          · have htest := test_fin hfin hcr
            have Hfin := Lib.hid hfin
            clear hfin hcr
            go_wp2_with (first
              | ((with_reducible show wpList _ _ _ (⟨some 87, _, _, _, _, _⟩ :: _) _ _); refine wpl_ix rfl 24 26 _ _ rfl Try.underlying24 cells26 A5 n3 c5 k' _ _ _ rfl rfl rfl hlt3 hErs ?_; intro q hq0; have hq := hq0.trans (congrArg (fun u => some (Value.float .f64 u)) hf); clear hq0)
              | ((with_reducible show wpList _ _ _ (⟨some 96, _, _, _, _, _⟩ :: _) _ _); refine wpl_cat (w0 := w1) rfl _ _ 24 26 (.float .f64 0) 8 rfl Try.underlying24 info26 rfl w1.heap.size (.slice A' n' c') n' 1 1 _ (fl g'') (fun _ => .float .f64 f) (fl (upd g'' n' f)) rfl rfl (by omega) ((Bld.drewN hB _).alloc _) ((below_drewN hbw' _).alloc hB.hB _) (rs_one _ _ _) (upd_split g'' n' f) (fun _ => rfl) (by omega) (by omega) (.slice A5 n3 c5) n3 (fl fun j => cn (x j)) ((Bld.drewN hE _).alloc _) hne ?_; intro A6 c6 w6 hB6 hE6 hne6 hbw6 hk6 hc6)
              | (go_at_call 19; refine (hneg _).mono ?_; rintro e w7 ⟨rfl, rfl⟩)
              | ((with_reducible show wpList _ _ _ (⟨some 101, _, _, _, _, _⟩ :: _) _ _); refine wpl_cat (w0 := w1) rfl _ _ 24 26 (.float .f64 0) 8 rfl Try.underlying24 info26 rfl w1.heap.size (.slice (some ⟨_, 0, none⟩) 1 1) 1 (n' + 1) c6 A6 (fun _ => .float .f64 (negW f)) (fl (upd g'' n' f)) (fl (front (negW f) (upd g'' n' f))) rfl rfl (by omega) ((bld_one _ (.float .f64 (negW f)) (fun _ => .float .f64 (negW f)) rfl).mono hB6.hB) (hbw6.alloc hB6.hB _) (hB6.alloc _).rs (front_split _ _ _) (fun _ => rfl) (by omega) (by omega) (.slice A5 n3 c5) n3 (fl fun j => cn (x j)) (hE6.alloc _) ?_ ?_; exact new_ne hE6; intro A8 c8 w8 hB8 hE8 hne8 hbw8 hk8 hc8))
            go_roundw
            case rel =>
              refine ⟨k' + 1, 1 + (n' + 1), c8, A8, front (negW f) (upd g'' n' f), by omega, by go_num, rfl, hB8, hE8, hne8, by omega, ?_, ?_, hbw8⟩
              · rw [show 1 + (n' + 1) = n' + 1 + 1 from by omega]
                exact Lib.hid (hP.out.put Hfin.out)
              · exact Lib.hid (front_lt hL.out HF.out (fin_neg Hfin.out).1)
            case measure => simp [intOf]; omega
          · have htest := test_not HF.out hfin hcr
            clear hcr hfin
            go_wp2_with (first
              | ((with_reducible show wpList _ _ _ (⟨some 87, _, _, _, _, _⟩ :: _) _ _); refine wpl_ix rfl 24 26 _ _ rfl Try.underlying24 cells26 A5 n3 c5 k' _ _ _ rfl rfl rfl hlt3 hErs ?_; intro q hq0; have hq := hq0.trans (congrArg (fun u => some (Value.float .f64 u)) hf); clear hq0))
            go_roundw
            case rel => exact ⟨k' + 1, n', c', A', g'', by omega, by go_num, rfl, hB.same rfl, hE.same rfl, hne, by omega, hP, hL, below_drewN hbw' _⟩
            case measure => simp [intOf]; omega
        · clear hfop hF
          have hE2 := Lib.hid (par_end hP.out)
          have HV := Lib.hid hv
          clear hv
          have hsum := sum_hS g'' n' (by omega)
          go_wp2_with (first
            | (go_at_call 12; refine (exact_any A' n' c' g'' _ ?_ ?_ ?_).mono ?_; exact hL.out; exact hB.rs; exact hsum; rintro e w9 ⟨r2, rfl, hb9, hv2, hbel2⟩; have hz := end_cases HV.out hv2 hE2.out; clear hv2 hb9; rcases hz with hz | ⟨hz, hz1, hz2⟩))
          all_goals (go_ret; exact ⟨rfl, hb1.trans ((hbw'.mono hb1.size).trans (hbel2.mono (by have := hb1.size; have := hbw'.size; omega)))⟩)
end Go.Proofs.Ytdfbmfmfhdifpaa
