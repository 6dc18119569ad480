/- ExactFloats: the walk. -/
import Derived.Test.YtppebegleedifaaDoorEg
import Derived.Test.YtppebegleedifaaDoorYc
import Derived.Test.YtppebegleedifaaDoorXx
import Derived.Deep.CutRange
import Derived.Deep.DeepCutAuto
namespace Go.Proofs.YtppebegleedifaaDoor
open Go.RowKit Fw

theorem run_make2 (n : Nat) (hn : n ≤ 4194304) (w : World) : (Instr.makeSlice 34 (.int .i64 (n : Nat)) (.int .i64 (n : Nat))).run Tryd.prog w = .ok (.slice (some ⟨w.heap.size, 0, none⟩) n n) (w.alloc (.cells (madeCells #[.int .i64 0] (n * 1)) 2)) := by
  obtain ⟨i0, hi, hz0, hz1, hz2⟩ := info_parts info2
  have hrun := run_make (P := Tryd.prog) w 34 2 i0 _ Tryd.underlying34 hi hz0 .i64 .i64 (n : Int) (n : Int) (by omega) (by omega) (by rw [hz2]; omega) (by omega)
  rw [hz1, Int.toNat_natCast] at hrun
  exact hrun
theorem made2_at (n j : Nat) (hj : j < n) : (madeCells #[Value.int .i64 0] n)[j]? = some (iw (fun _ => 0) j) := by
  unfold madeCells
  rw [Array.getElem?_map, Array.getElem?_range]
  simp only [hj, if_true, Option.map_some]
  show some ((#[Value.int .i64 0] : Array Value)[j % 1]!) = _
  rw [Nat.mod_one]; rfl
theorem tmod_b (u : Int) : ∃ t, u.tmod 1099511627776 = t ∧ -1099511627776 ≤ t ∧ t ≤ 1099511627776 := by
  obtain ⟨h1, h2⟩ := tmod_neg (show (0 : Int) < 1099511627776 by decide) (v := u) rfl
  refine ⟨_, rfl, ?_⟩
  rcases Int.lt_or_le (u.tmod 1099511627776) 0 with h | h
  · have := (h1 h).2; omega
  · have := (h2 h).2; omega
theorem two_made (w0 : World) (n : Nat) (hn : n ≤ 1000) : Bld (((w0.alloc (.cells (madeCells #[.int .i64 0] n) 2)).alloc (.cells (madeCells #[.int .i64 0] n) 2)).drew) w0.heap.size 2 (.slice (some ⟨w0.heap.size, 0, none⟩) n n) n (iw fun _ => 0) ∧
    Bld (((w0.alloc (.cells (madeCells #[.int .i64 0] n) 2)).alloc (.cells (madeCells #[.int .i64 0] n) 2)).drew) w0.heap.size 2 (.slice (some ⟨w0.heap.size + 1, 0, none⟩) n n) n (iw fun _ => 0) ∧
    Nx w0 (((w0.alloc (.cells (madeCells #[.int .i64 0] n) 2)).alloc (.cells (madeCells #[.int .i64 0] n) 2)).drew) := by
  have hs : (madeCells #[Value.int .i64 0] n).size = n := by unfold madeCells; simp
  have h1 := bld_new w0 2 (madeCells #[.int .i64 0] n) (iw fun _ => 0) n hn hs (fun j hj => made2_at n j hj) w0.heap.size (Nat.le_refl _)
  have h2 := bld_new (w0.alloc (.cells (madeCells #[.int .i64 0] n) 2)) 2 (madeCells #[.int .i64 0] n) (iw fun _ => 0) n hn hs (fun j hj => made2_at n j hj) w0.heap.size (by simp)
  rw [show (w0.alloc (.cells (madeCells #[.int .i64 0] n) 2)).heap.size = w0.heap.size + 1 by simp] at h2
  exact ⟨(h1.alloc _).drewN 1, h2.drewN 1, ((nx_alloc _ _).alloc _).drewN 1⟩
theorem set_xy {w0 w2 w3 : World} {bx bY n k cl : Nat} {Al : Option Addr} {f g : Nat → Int} {tu tv : Int} (hxy : bx ≠ bY) (hX : Bld w3 w0.heap.size 2 (.slice (some ⟨bx, 0, none⟩) n n) n (iw f)) (hY : Bld w3 w0.heap.size 2 (.slice (some ⟨bY, 0, none⟩) n n) n (iw g))
    (hL : Bld w3 w2.heap.size 53 (.slice Al k cl) k (cw (fun j => Wz (f j)) fun j => Wz (g j))) (hn : Nx w0 w3) (hb1 : bx < w2.heap.size) (hb2 : bY < w2.heap.size) :
    Bld ((w3.setCell ⟨bx, k, none⟩ (.int .i64 tu)).setCell ⟨bY, k, none⟩ (.int .i64 tv)).drew w0.heap.size 2 (.slice (some ⟨bx, 0, none⟩) n n) n (iw (updI f k tu)) ∧
    Bld ((w3.setCell ⟨bx, k, none⟩ (.int .i64 tu)).setCell ⟨bY, k, none⟩ (.int .i64 tv)).drew w0.heap.size 2 (.slice (some ⟨bY, 0, none⟩) n n) n (iw (updI g k tv)) ∧
    Bld ((w3.setCell ⟨bx, k, none⟩ (.int .i64 tu)).setCell ⟨bY, k, none⟩ (.int .i64 tv)).drew w2.heap.size 53 (.slice Al k cl) k (cw (fun j => Wz (updI f k tu j)) fun j => Wz (updI g k tv j)) ∧
    Nx w0 ((w3.setCell ⟨bx, k, none⟩ (.int .i64 tu)).setCell ⟨bY, k, none⟩ (.int .i64 tv)).drew := by
  have c1 : Kp (some bx) w3 (w3.setCell ⟨bx, k, none⟩ (.int .i64 tu)) := (Kp.refl _ _).setCell k _
  have c2 : Kp (some bY) (w3.setCell ⟨bx, k, none⟩ (.int .i64 tu)) ((w3.setCell ⟨bx, k, none⟩ (.int .i64 tu)).setCell ⟨bY, k, none⟩ (.int .i64 tv)) := (Kp.refl _ _).setCell k _
  have a1 := ((hX.set k (.int .i64 tu)).congr fun j _ => upd_iw f k tu j)
  have a2 := a1.kp c2 (.inr fun e => by injection e with e; exact hxy e)
  have a3 := hY.kp c1 (.inr fun e => by injection e with e; exact hxy e.symm)
  have a4 := ((a3.set k (.int .i64 tv)).congr fun j _ => upd_iw g k tv j)
  have o1 : (Value.slice Al k cl).ownBlock = none ∨ (Value.slice Al k cl).ownBlock ≠ some bx := by
    cases e : (Value.slice Al k cl).ownBlock with
    | none => exact .inl rfl
    | some q => exact .inr fun e' => by injection e' with e'; have := hL.base q e; omega
  have o2 : (Value.slice Al k cl).ownBlock = none ∨ (Value.slice Al k cl).ownBlock ≠ some bY := by
    cases e : (Value.slice Al k cl).ownBlock with
    | none => exact .inl rfl
    | some q => exact .inr fun e' => by injection e' with e'; have := hL.base q e; omega
  refine ⟨a2.drewN 1, a4.drewN 1, (((hL.kp c1 o1).kp c2 o2).drewN 1).congr fun j hj => ?_, ?_⟩
  · unfold cw updI
    show Value.complex .f64 (Wz (f j)) (Wz (g j)) = Value.complex .f64 (Wz (if j = k then tu else f j)) (Wz (if j = k then tv else g j))
    rw [if_neg (by omega), if_neg (by omega)]
  · have := hX.base bx rfl
    have := hY.base bY rfl
    exact (Nx.drewN (nx_kp (nx_kp hn c1 (fun q e => by injection e with e; omega)) c2 (fun q e => by injection e with e; omega)) 1)
theorem upd_b {f g : Nat → Int} {tu tv : Int} (k : Nat) (h : ∀ j, (-1099511627776 ≤ f j ∧ f j ≤ 1099511627776) ∧ (-1099511627776 ≤ g j ∧ g j ≤ 1099511627776)) (hu : -1099511627776 ≤ tu ∧ tu ≤ 1099511627776) (hv : -1099511627776 ≤ tv ∧ tv ≤ 1099511627776) :
    ∀ j, (-1099511627776 ≤ updI f k tu j ∧ updI f k tu j ≤ 1099511627776) ∧ (-1099511627776 ≤ updI g k tv j ∧ updI g k tv j ≤ 1099511627776) := by
  intro j
  unfold updI
  constructor
  · split; exact hu; exact (h j).1
  · split; exact hv; exact (h j).2
theorem push_xy {w0 w2 w4 w6 : World} {bx bY n k cl : Nat} {Al : Option Addr} {f g : Nat → Int} {o : Obj} {F : Nat → Value} (hX : Bld w4 w0.heap.size 2 (.slice (some ⟨bx, 0, none⟩) n n) n (iw f)) (hY : Bld w4 w0.heap.size 2 (.slice (some ⟨bY, 0, none⟩) n n) n (iw g))
    (hL : Bld w4 w2.heap.size 53 (.slice Al k cl) k F) (hn : Nx w0 w4) (hb1 : bx < w2.heap.size) (hb2 : bY < w2.heap.size) (hk : Kp (Value.slice Al k cl).ownBlock (w4.alloc o).drew w6) (h02 : w0.heap.size ≤ w2.heap.size) :
    Bld w6 w0.heap.size 2 (.slice (some ⟨bx, 0, none⟩) n n) n (iw f) ∧ Bld w6 w0.heap.size 2 (.slice (some ⟨bY, 0, none⟩) n n) n (iw g) ∧ Nx w0 w6 := by
  refine ⟨((hX.alloc o).drewN 1).kp hk (.inr fun e => ?_), ((hY.alloc o).drewN 1).kp hk (.inr fun e => ?_), nx_kp ((hn.alloc o).drewN 1) hk fun q e => ?_⟩
  · have := hL.base bx e.symm; omega
  · have := hL.base bY e.symm; omega
  · have := hL.base q e; omega
theorem fitB_of {S : Int} (h : -9223372036854775808 ≤ S ∧ S ≤ 9223372036854775807) : fitB S = true := by
  unfold fitB
  simp
  omega
theorem allFit_all {S : Nat → Int} {n : Nat} (h : ∀ j, j < n → fitB (S j) = true) : allFit S n = true := by
  induction n with
  | zero => rfl
  | succ n ih => rw [allFit, ih (fun j hj => h j (by omega)), h n (by omega)]; rfl
theorem small_0 (n bx bY : Nat) (f g : Nat → Int) (a : Nat → Addr) (w : World) (hn : n = 1 ∨ n = 2 ∨ n = 4) (hX : RS w (some ⟨bx, 0, none⟩) n n (iw f)) (hY : RS w (some ⟨bY, 0, none⟩) n n (iw g)) (hf : ∀ j, i64B (f j)) (hg : ∀ j, i64B (g j)) (hE : Ers w (eV a))
    (hb : ∀ k, (-9223372036854775808 ≤ reS n f g k n ∧ reS n f g k n ≤ 9223372036854775807) ∧ (-9223372036854775808 ≤ imS n f g k n ∧ imS n f g k n ≤ 9223372036854775807)) :
    Calls Tryd.prog 22 #[.slice (some ⟨bx, 0, none⟩) n n, .slice (some ⟨bY, 0, none⟩) n n] w fun e w' => ∃ A2 c2 A3 c3, e = .returned (.tuple #[.slice A2 n c2, .slice A3 n c3, .nilIface]) ∧
      Bld w' w.heap.size 2 (.slice A2 n c2) n (iw fun i => reS n f g i n) ∧ Bld w' w.heap.size 2 (.slice A3 n c3) n (iw fun i => imS n f g i n) ∧ Nx w w' := by
  have h0 : smN n f g = 0 := by
    unfold smN
    rw [if_pos ⟨allFit_all fun j _ => fitB_of (hb j).1, allFit_all fun j _ => fitB_of (hb j).2⟩]
  refine (small_any (some ⟨bx, 0, none⟩) n n (some ⟨bY, 0, none⟩) n f g a w hX hY hf hg hE hn).mono ?_
  intro e w' h
  unfold SR at h
  rw [h0] at h
  obtain ⟨A2, c2, A3, c3, rfl, h1, h2, _, h4⟩ := h
  exact ⟨A2, c2, A3, c3, rfl, h1, h2, h4⟩
set_option maxRecDepth 100000 in
set_option maxHeartbeats 16000000 in
theorem exFloats_any (A : Option Addr) (m c : Nat) (i : Int) (z : Nat → Int) (a : Nat → Addr) (w : World) (hr : RS w A m c (iw z)) (hz : ∀ j, i64B (z j)) (hE : Ers w (eV a)) :
    Calls Tryd.prog 9 #[.slice A m c, .int .i64 i] w fun e w' => e = .returned (.bool true) ∧ Nx w w' := by
  have k1 := hr.nc
  have k2 := hr.cm
  have HE : Hid (∀ w', Nx w w' → Ers w' (eV a)) := fun w' h => hE.below h
  have HZ : Hid (∀ w', Nx w w' → RS w' A m c (iw z)) := fun w' h => hr.nx h
  have Hz := Lib.hid hz
  obtain ⟨U, eu, hU1, hU2, hU3⟩ := wrapU i
  clear hU3 eu
  clear hE hr hz
  go_enter Tryd.func9, Tryd.ntmps9
  go_upto_region 3 with (go_at_call 10; refine (lives_any a _ (HE.out _ (Nx.refl _))).mono ?_; rintro e w1 ⟨rfl, hb⟩; have N1 := Lib.hid hb; clear hb)
  go_cut [5] (fun s5 wx => ∃ n : Nat, (n = 1 ∨ n = 2 ∨ n = 4) ∧ s5 = .int .i64 n ∧ Nx w wx)
  case first =>
    have h3 : (U : Int) % 3 = 0 ∨ (U : Int) % 3 = 1 ∨ (U : Int) % 3 = 2 := by omega
    rcases h3 with h3 | h3 | h3
    · go_wp2_with fail
      go_meet
      exact ⟨1, by decide, rfl, N1.out.alloc _⟩
    · go_wp2_with fail
      go_meet
      exact ⟨2, by decide, rfl, N1.out.alloc _⟩
    · go_wp2_with fail
      go_meet
      exact ⟨4, by decide, rfl, N1.out.alloc _⟩
  case rest =>
    obtain ⟨n, hn, rfl, hnx⟩ := hcut
    obtain ⟨w0, hw0⟩ : ∃ z, z = wc := ⟨_, rfl⟩
    subst hw0
    have N0 := Lib.hid hnx
    have hn1 : 1 ≤ n := by omega
    have hn4 : n ≤ 4 := by omega
    have Hn := Lib.hid hn
    have hmk := run_make2 n (by omega)
    clear hnx hn
    go_upto_region 4 with (fail)
    go_cut [6, 7] (fun s6 s7 wx => ∃ bx bY : Nat, s6 = .slice (some ⟨bx, 0, none⟩) n n ∧ s7 = .slice (some ⟨bY, 0, none⟩) n n ∧ Hid (bx ≠ bY ∧ Bld wx w0.heap.size 2 (.slice (some ⟨bx, 0, none⟩) n n) n (iw fun _ => 0) ∧ Bld wx w0.heap.size 2 (.slice (some ⟨bY, 0, none⟩) n n) n (iw fun _ => 0) ∧ Nx w0 wx))
    case first =>
      go_big_region
      all_goals (go_wp2_with fail; go_meet)
      · obtain ⟨p1, p2, p3⟩ := two_made w0 n (by omega)
        exact ⟨_, _, rfl, rfl, by omega, p1, p2, p3⟩
      · obtain ⟨p1, p2, p3⟩ := two_made w0 n (by omega)
        exact ⟨_, _, rfl, rfl, by omega, p2, p1, p3⟩
    case rest =>
      obtain ⟨bx, bY, rfl, rfl, HXY⟩ := hcut
      obtain ⟨w2, hw2⟩ : ∃ z, z = wc := ⟨_, rfl⟩
      subst hw2
      clear hmk hU1 hU2
      have HL0 := Lib.hid (bld_new w2 53 #[] (fun _ => Value.complex .f64 0 0) 0 (by decide) rfl (fun j hj => absurd hj (by omega)) w2.heap.size (Nat.le_refl _))
      go_wp2_with fail
      go_loopw [9, 8] (fun o s wr => ∃ k cl : Nat, ∃ Al, ∃ f g : Nat → Int, k ≤ n ∧ o = .int .i64 k ∧ s = .slice Al k cl ∧ Hid (∀ j, (-1099511627776 ≤ f j ∧ f j ≤ 1099511627776) ∧ (-1099511627776 ≤ g j ∧ g j ≤ 1099511627776)) ∧ Bld wr w0.heap.size 2 (.slice (some ⟨bx, 0, none⟩) n n) n (iw f) ∧ Bld wr w0.heap.size 2 (.slice (some ⟨bY, 0, none⟩) n n) n (iw g) ∧ Bld wr w2.heap.size 53 (.slice Al k cl) k (cw (fun j => Wz (f j)) fun j => Wz (g j)) ∧ Nx w0 wr) (fun o _ _ => n - (intOf o).toNat)
      case atStart =>
        obtain ⟨_, p1, p2, p3⟩ := HXY.out
        exact ⟨0, 0, _, fun _ => 0, fun _ => 0, Nat.zero_le _, rfl, rfl, fun j => (show ((-1099511627776 : Int) ≤ 0 ∧ (0 : Int) ≤ 1099511627776) ∧ ((-1099511627776 : Int) ≤ 0 ∧ (0 : Int) ≤ 1099511627776) by decide), p1.alloc _, p2.alloc _, HL0.out.congr fun j hj => absurd hj (by omega), p3.alloc _⟩
      case round =>
        obtain ⟨k, cl, Al, f, g, hk, rfl, rfl, HB, hX, hY, hL, hn0⟩ := hrel
        clear HL0
        obtain ⟨w3, hw3⟩ : ∃ z, z = wr := ⟨_, rfl⟩
        subst hw3
        have HX := Lib.hid hX
        have HY := Lib.hid hY
        have HL := Lib.hid hL
        have N3 := Lib.hid hn0
        clear hX hY hL hn0
        by_cases hlt : k < n
        · have hlt' : (k : Int) < n := by omega
          obtain ⟨k2, hk2⟩ : ∃ t, 2 * k = t := ⟨_, rfl⟩
          have i1 : (2 : Int) * k = (k2 : Int) := by rw [← hk2]; rfl
          obtain ⟨hxy, _⟩ := HXY.out
          have Hlt2 : Hid (bx < w2.heap.size ∧ bY < w2.heap.size) := ⟨(HXY.out.2.1.own.lt bx rfl).2, (HXY.out.2.2.1.own.lt bY rfl).2⟩
          have hyx : bY ≠ bx := fun e => hxy e.symm
          have hb2 : k2 ≤ 8 := by omega
          by_cases hin : k2 + 1 < m
          · have hin' : (k2 : Int) + 1 < m := by omega
            have hin2 : (k2 : Int) < m := by omega
            obtain ⟨ad, rfl, s1⟩ := (HZ.out _ (N0.out.trans N3.out)).cell k2 (by omega)
            obtain ⟨_, e1, s2⟩ := (HZ.out _ (N0.out.trans N3.out)).cell (k2 + 1) hin
            cases e1
            obtain ⟨_, e1, s3⟩ := (HZ.out _ (Nx.refl _)).cell k2 (by omega)
            cases e1
            obtain ⟨_, e1, s4⟩ := (HZ.out _ (Nx.refl _)).cell (k2 + 1) hin
            cases e1
            have sU : w3.cell? (ad.add k2) = some (.int .i64 (z k2)) := s1
            have sV : w3.cell? (ad.add (k2 + 1)) = some (.int .i64 (z (k2 + 1))) := s2
            obtain ⟨pU, hpU⟩ : ∃ p, ad.add k2 = p := ⟨_, rfl⟩
            obtain ⟨pV, hpV⟩ : ∃ p, ad.add (k2 + 1) = p := ⟨_, rfl⟩
            have b0 := N0.out.le
            have bx0 := HX.out.base bx rfl
            have by0 := HY.out.base bY rfl
            have qU : pU.block < bx := by rw [← hpU]; have := World.block_lt_of_cell? _ _ s3; omega
            have qV : pV.block < bx := by rw [← hpV]; have := World.block_lt_of_cell? _ _ s4; omega
            obtain ⟨u, hu⟩ : ∃ u, z k2 = u := ⟨_, rfl⟩
            obtain ⟨v, hv⟩ : ∃ u, z (k2 + 1) = u := ⟨_, rfl⟩
            rw [hpU, hu] at sU
            rw [hpV, hv] at sV
            have cx : w3.cell? ⟨bx, k, none⟩ = some (.int .i64 (f k)) := HX.out.cell k hlt
            have cy : w3.cell? ⟨bY, k, none⟩ = some (.int .i64 (g k)) := HY.out.cell k hlt
            have fx := HX.out.free k
            have fy := HY.out.free k
            have hpU2 : ad.add ((k2 : Int)).toNat = pU := by rw [Int.toNat_natCast]; exact hpU
            have hpV2 : ad.add ((k2 : Int) + 1).toNat = pV := by rw [show ((k2 : Int) + 1).toNat = k2 + 1 from by omega]; exact hpV
            have w1 : IntKind.i64.wrap (k2 : Int) = k2 := by rw [IntKind.wrap_i64]; omega
            have w2' : IntKind.i64.wrap ((k2 : Int) + 1) = (k2 : Int) + 1 := by rw [IntKind.wrap_i64]; omega
            have n1 : (0 : Int) ≤ k2 := by omega
            have n2 : (0 : Int) ≤ (k2 : Int) + 1 := by omega
            obtain ⟨tu, htu, bu1, bu2⟩ := tmod_b u
            obtain ⟨tv, htv, bv1, bv2⟩ := tmod_b v
            have w3' : IntKind.i64.wrap tu = tu := by rw [IntKind.wrap_i64]; omega
            have w4' : IntKind.i64.wrap tv = tv := by rw [IntKind.wrap_i64]; omega
            have kn : (0 : Int) ≤ k := by omega
            clear s1 s2 s3 s4 b0 bx0 by0 hu hv hk2
            go_wp2_with fail
            refine wp_region_noPanic ?_
            refine wp_region_T 19 [0, 1, 2, 3, 4, 5, 6, 7, 8, 9, 10, 11, 12, 13, 14, 15, 16, 17] [18] (fun w' => w'.cell? pU = some (.int .i64 u) ∧ w'.cell? pV = some (.int .i64 v)) (by kernel_rfl) (by kernel_rfl) (fun _ _ _ _ _ h => h) ⟨sU, sV⟩ ?_
            refine ⟨_, ?_, rfl, Or.inl ⟨rfl, ?_⟩, ?_⟩
            rotate_left
            · intro w' hS
              try dsimp only at hS
              obtain ⟨S1, S2⟩ := hS
              go_simp
              try with_reducible rfl
            simp only [Act.put, List.setIfInBounds_toArray]
            refine ⟨_, ?_, rfl, Or.inl ⟨rfl, ?_⟩, ?_⟩
            rotate_left
            · intro w' hS
              try dsimp only at hS
              obtain ⟨S1, S2⟩ := hS
              go_simp
              try with_reducible rfl
            simp only [Act.put]
            refine ⟨_, ?_, rfl, Or.inl ⟨rfl, ?_⟩, ?_⟩
            rotate_left
            · intro w' hS
              try dsimp only at hS
              obtain ⟨S1, S2⟩ := hS
              go_simp
              try with_reducible rfl
            simp only [Act.put]
            refine ⟨_, ?_, rfl, Or.inl ⟨rfl, ?_⟩, ?_⟩
            rotate_left
            · intro w' hS
              try dsimp only at hS
              obtain ⟨S1, S2⟩ := hS
              go_simp
              try with_reducible rfl
            simp only [Act.put]
            refine ⟨_, ?_, rfl, Or.inl ⟨rfl, ?_⟩, ?_⟩
            rotate_left
            · intro w' hS
              try dsimp only at hS
              obtain ⟨S1, S2⟩ := hS
              go_simp
              try with_reducible rfl
            simp only [Act.put]
            refine ⟨_, ?_, rfl, Or.inl ⟨rfl, ?_⟩, ?_⟩
            rotate_left
            · intro w' hS
              try dsimp only at hS
              obtain ⟨S1, S2⟩ := hS
              go_simp
              try with_reducible rfl
            simp only [Act.put]
            refine ⟨_, ?_, rfl, Or.inl ⟨rfl, ?_⟩, ?_⟩
            rotate_left
            · intro w' hS
              try dsimp only at hS
              obtain ⟨S1, S2⟩ := hS
              go_simp
              try with_reducible rfl
            simp only [Act.put]
            refine ⟨_, ?_, rfl, Or.inl ⟨rfl, ?_⟩, ?_⟩
            rotate_left
            · intro w' hS
              try dsimp only at hS
              obtain ⟨S1, S2⟩ := hS
              go_simp
              try with_reducible rfl
            simp only [Act.put]
            refine ⟨_, ?_, rfl, Or.inl ⟨rfl, ?_⟩, ?_⟩
            rotate_left
            · intro w' hS
              try dsimp only at hS
              obtain ⟨S1, S2⟩ := hS
              go_simp
              try with_reducible rfl
            simp only [Act.put]
            refine ⟨_, ?_, rfl, Or.inl ⟨rfl, ?_⟩, ?_⟩
            rotate_left
            · intro w' hS
              try dsimp only at hS
              obtain ⟨S1, S2⟩ := hS
              go_simp
              try with_reducible rfl
            simp only [Act.put]
            refine ⟨_, ?_, rfl, Or.inl ⟨rfl, ?_⟩, ?_⟩
            rotate_left
            · intro w' hS
              try dsimp only at hS
              obtain ⟨S1, S2⟩ := hS
              go_simp
              try with_reducible rfl
            simp only [Act.put]
            refine ⟨_, ?_, rfl, Or.inl ⟨rfl, ?_⟩, ?_⟩
            rotate_left
            · intro w' hS
              try dsimp only at hS
              obtain ⟨S1, S2⟩ := hS
              go_simp
              try with_reducible rfl
            simp only [Act.put]
            refine ⟨_, ?_, rfl, Or.inl ⟨rfl, ?_⟩, ?_⟩
            rotate_left
            · intro w' hS
              try dsimp only at hS
              obtain ⟨S1, S2⟩ := hS
              go_simp
              try with_reducible rfl
            simp only [Act.put]
            refine ⟨_, ?_, rfl, Or.inl ⟨rfl, ?_⟩, ?_⟩
            rotate_left
            · intro w' hS
              try dsimp only at hS
              obtain ⟨S1, S2⟩ := hS
              go_simp
              try with_reducible rfl
            simp only [Act.put]
            refine ⟨_, ?_, rfl, Or.inl ⟨rfl, ?_⟩, ?_⟩
            rotate_left
            · intro w' hS
              try dsimp only at hS
              obtain ⟨S1, S2⟩ := hS
              go_simp
              try with_reducible rfl
            simp only [Act.put]
            refine ⟨_, ?_, rfl, Or.inl ⟨rfl, ?_⟩, ?_⟩
            rotate_left
            · intro w' hS
              try dsimp only at hS
              obtain ⟨S1, S2⟩ := hS
              go_simp
              try with_reducible rfl
            simp only [Act.put]
            refine ⟨_, ?_, rfl, Or.inl ⟨rfl, ?_⟩, ?_⟩
            rotate_left
            · intro w' hS
              try dsimp only at hS
              obtain ⟨S1, S2⟩ := hS
              go_simp
              try with_reducible rfl
            simp only [Act.put]
            refine ⟨_, ?_, rfl, Or.inl ⟨rfl, ?_⟩, ?_⟩
            rotate_left
            · intro w' hS
              try dsimp only at hS
              obtain ⟨S1, S2⟩ := hS
              go_simp
              try with_reducible rfl
            simp only [Act.put]
            refine readsT_nil ?_
            refine callsT_cons (i := 18) rfl (fun K' hK => ?_)
            go_wp2_with fail
            refine hK.out _ _ ⟨cell_set_lo sU qU, cell_set_lo sV qV⟩ ?_
            clear hK K'
            refine callsT_nil ?_
            show wpList _ _ _ [_, _] _ _
            go_wp2_with fail
            refine NoPanic.normal ?_
            go_wp2_with fail
            obtain ⟨h4x, h4y, h4l, h4n⟩ := set_xy (tu := tu) (tv := tv) (k := k) hxy HX.out HY.out HL.out N3.out Hlt2.out.1 Hlt2.out.2
            have hb4 := upd_b k HB.out ⟨bu1, bu2⟩ ⟨bv1, bv2⟩
            obtain ⟨f4, hf4⟩ : ∃ t, updI f k tu = t := ⟨_, rfl⟩
            obtain ⟨g4, hg4⟩ : ∃ t, updI g k tv = t := ⟨_, rfl⟩
            rw [hf4] at h4x h4l hb4
            rw [hg4] at h4y h4l hb4
            obtain ⟨w4, hw4⟩ : ∃ t, ((w3.setCell ⟨bx, k, none⟩ (.int .i64 tu)).setCell ⟨bY, k, none⟩ (.int .i64 tv)).drew = t := ⟨_, rfl⟩
            rw [hw4] at h4x h4y h4l h4n
            rw [hw4]
            have HX4 := Lib.hid h4x
            have HY4 := Lib.hid h4y
            have HL4 := Lib.hid h4l
            have N4 := Lib.hid h4n
            have HB4 := Lib.hid hb4
            clear h4x h4y h4l h4n hb4 hf4 hg4 hw4 sU sV cx cy fx fy htu htv w1 w2' w3' w4' hpU hpV hpU2 hpV2 i1
            obtain ⟨cX, cY⟩ : w4.cell? ⟨bx, k, none⟩ = some (.int .i64 (f4 k)) ∧ w4.cell? ⟨bY, k, none⟩ = some (.int .i64 (g4 k)) := ⟨HX4.out.cell k hlt, HY4.out.cell k hlt⟩
            refine wp_region_noPanic ?_
            refine wp_region_T 13 [0, 1, 2, 3, 4, 5, 6, 7, 8, 9, 10, 11] [12] (fun w' => w'.cell? ⟨bx, k, none⟩ = some (.int .i64 (f4 k)) ∧ w'.cell? ⟨bY, k, none⟩ = some (.int .i64 (g4 k))) (by kernel_rfl) (by kernel_rfl) (fun _ _ _ _ _ h => h) ⟨cX, cY⟩ ?_
            refine ⟨_, ?_, rfl, Or.inl ⟨rfl, ?_⟩, ?_⟩
            rotate_left
            · intro w' hS
              try dsimp only at hS
              obtain ⟨S1, S2⟩ := hS
              go_simp
              try with_reducible rfl
            simp only [Act.put, List.setIfInBounds_toArray]
            refine ⟨_, ?_, rfl, Or.inl ⟨rfl, ?_⟩, ?_⟩
            rotate_left
            · intro w' hS
              try dsimp only at hS
              obtain ⟨S1, S2⟩ := hS
              go_simp
              try with_reducible rfl
            simp only [Act.put]
            refine ⟨_, ?_, rfl, Or.inl ⟨rfl, ?_⟩, ?_⟩
            rotate_left
            · intro w' hS
              try dsimp only at hS
              obtain ⟨S1, S2⟩ := hS
              go_simp
              try with_reducible rfl
            simp only [Act.put]
            refine ⟨_, ?_, rfl, Or.inl ⟨rfl, ?_⟩, ?_⟩
            rotate_left
            · intro w' hS
              try dsimp only at hS
              obtain ⟨S1, S2⟩ := hS
              go_simp
              try with_reducible rfl
            simp only [Act.put]
            refine ⟨_, ?_, rfl, Or.inl ⟨rfl, ?_⟩, ?_⟩
            rotate_left
            · intro w' hS
              try dsimp only at hS
              obtain ⟨S1, S2⟩ := hS
              go_simp
              try with_reducible rfl
            simp only [Act.put]
            refine ⟨_, ?_, rfl, Or.inl ⟨rfl, ?_⟩, ?_⟩
            rotate_left
            · intro w' hS
              try dsimp only at hS
              obtain ⟨S1, S2⟩ := hS
              go_simp
              try with_reducible rfl
            simp only [Act.put]
            refine ⟨_, ?_, rfl, Or.inl ⟨rfl, ?_⟩, ?_⟩
            rotate_left
            · intro w' hS
              try dsimp only at hS
              obtain ⟨S1, S2⟩ := hS
              go_simp
              try with_reducible rfl
            simp only [Act.put]
            refine ⟨_, ?_, rfl, Or.inl ⟨rfl, ?_⟩, ?_⟩
            rotate_left
            · intro w' hS
              try dsimp only at hS
              obtain ⟨S1, S2⟩ := hS
              go_simp
              try with_reducible rfl
            simp only [Act.put]
            refine ⟨_, ?_, rfl, Or.inl ⟨rfl, ?_⟩, ?_⟩
            rotate_left
            · intro w' hS
              try dsimp only at hS
              obtain ⟨S1, S2⟩ := hS
              go_simp
              try with_reducible rfl
            simp only [Act.put]
            refine ⟨_, ?_, rfl, Or.inl ⟨rfl, ?_⟩, ?_⟩
            rotate_left
            · intro w' hS
              try dsimp only at hS
              obtain ⟨S1, S2⟩ := hS
              go_simp
              try with_reducible rfl
            simp only [Act.put]
            refine ⟨_, ?_, rfl, Or.inl ⟨rfl, ?_⟩, ?_⟩
            rotate_left
            · intro w' hS
              try dsimp only at hS
              obtain ⟨S1, S2⟩ := hS
              go_simp
              try with_reducible rfl
            simp only [Act.put]
            refine ⟨_, ?_, rfl, Or.inl ⟨rfl, ?_⟩, ?_⟩
            rotate_left
            · intro w' hS
              try dsimp only at hS
              obtain ⟨S1, S2⟩ := hS
              go_simp
              try with_reducible rfl
            simp only [Act.put]
            refine readsT_nil ?_
            refine callsT_cons (i := 12) rfl (fun K' hK => ?_)
            go_wp2_with fail
            refine hK.out _ _ ⟨nx_cell ((nx_alloc _ _).drewN 1) cX, nx_cell ((nx_alloc _ _).drewN 1) cY⟩ ?_
            clear hK K'
            refine callsT_nil ?_
            show wpList _ _ _ [_, _] _ _
            go_wp2_with ((with_reducible show wpList _ _ _ (⟨some 72, _, _, _, _, _⟩ :: _) _ _); refine wpl_pushK rfl _ _ 52 53 (.complex .f64 0 0) 16 rfl Tryd.underlying52 info53 rfl w2.heap.size (.slice Al k cl) k w4.heap.size (cw (fun j => Wz (f4 j)) fun j => Wz (g4 j)) (cw (fun j => Wz (f4 j)) fun j => Wz (g4 j)) rfl rfl ((HL4.out.alloc _).drewN 1) (cells_new w4 53 _) (fun _ _ => rfl) (fun _ => rfl) (by omega) (by decide) ?_; intro A6 c6 w6 hB6 hk6 _ _ _; have B6 := Lib.hid hB6; have K6 := Lib.hid hk6; clear hB6 hk6)
            refine NoPanic.normal ?_
            go_wp2_with fail
            obtain ⟨e1, e2, e3⟩ := push_xy HX4.out HY4.out HL4.out N4.out Hlt2.out.1 Hlt2.out.2 K6.out HXY.out.2.2.2.le
            exact ⟨⟨k + 1, c6, A6, f4, g4, by omega, by go_num, rfl, HB4.out, e1, e2, B6.out, e3⟩, by simp only [intOf]; omega⟩
          · have hin' : ¬ (k2 : Int) + 1 < m := by omega
            have hind : decide ((k2 : Int) + 1 < m) = false := decide_eq_false hin'
            clear hk2
            go_wp2_with fail
            obtain ⟨w4, hw4⟩ : ∃ t, t = w3 := ⟨_, rfl⟩
            subst hw4
            obtain ⟨f4, hf4⟩ : ∃ t, t = f := ⟨_, rfl⟩
            subst hf4
            obtain ⟨g4, hg4⟩ : ∃ t, t = g := ⟨_, rfl⟩
            subst hg4
            have HX4 := Lib.hid HX.out
            have HY4 := Lib.hid HY.out
            have HL4 := Lib.hid HL.out
            have N4 := Lib.hid N3.out
            have HB4 := Lib.hid HB.out
            clear i1
            obtain ⟨cX, cY⟩ : w4.cell? ⟨bx, k, none⟩ = some (.int .i64 (f4 k)) ∧ w4.cell? ⟨bY, k, none⟩ = some (.int .i64 (g4 k)) := ⟨HX4.out.cell k hlt, HY4.out.cell k hlt⟩
            refine wp_region_noPanic ?_
            refine wp_region_T 13 [0, 1, 2, 3, 4, 5, 6, 7, 8, 9, 10, 11] [12] (fun w' => w'.cell? ⟨bx, k, none⟩ = some (.int .i64 (f4 k)) ∧ w'.cell? ⟨bY, k, none⟩ = some (.int .i64 (g4 k))) (by kernel_rfl) (by kernel_rfl) (fun _ _ _ _ _ h => h) ⟨cX, cY⟩ ?_
            refine ⟨_, ?_, rfl, Or.inl ⟨rfl, ?_⟩, ?_⟩
            rotate_left
            · intro w' hS
              try dsimp only at hS
              obtain ⟨S1, S2⟩ := hS
              go_simp
              try with_reducible rfl
            simp only [Act.put, List.setIfInBounds_toArray]
            refine ⟨_, ?_, rfl, Or.inl ⟨rfl, ?_⟩, ?_⟩
            rotate_left
            · intro w' hS
              try dsimp only at hS
              obtain ⟨S1, S2⟩ := hS
              go_simp
              try with_reducible rfl
            simp only [Act.put]
            refine ⟨_, ?_, rfl, Or.inl ⟨rfl, ?_⟩, ?_⟩
            rotate_left
            · intro w' hS
              try dsimp only at hS
              obtain ⟨S1, S2⟩ := hS
              go_simp
              try with_reducible rfl
            simp only [Act.put]
            refine ⟨_, ?_, rfl, Or.inl ⟨rfl, ?_⟩, ?_⟩
            rotate_left
            · intro w' hS
              try dsimp only at hS
              obtain ⟨S1, S2⟩ := hS
              go_simp
              try with_reducible rfl
            simp only [Act.put]
            refine ⟨_, ?_, rfl, Or.inl ⟨rfl, ?_⟩, ?_⟩
            rotate_left
            · intro w' hS
              try dsimp only at hS
              obtain ⟨S1, S2⟩ := hS
              go_simp
              try with_reducible rfl
            simp only [Act.put]
            refine ⟨_, ?_, rfl, Or.inl ⟨rfl, ?_⟩, ?_⟩
            rotate_left
            · intro w' hS
              try dsimp only at hS
              obtain ⟨S1, S2⟩ := hS
              go_simp
              try with_reducible rfl
            simp only [Act.put]
            refine ⟨_, ?_, rfl, Or.inl ⟨rfl, ?_⟩, ?_⟩
            rotate_left
            · intro w' hS
              try dsimp only at hS
              obtain ⟨S1, S2⟩ := hS
              go_simp
              try with_reducible rfl
            simp only [Act.put]
            refine ⟨_, ?_, rfl, Or.inl ⟨rfl, ?_⟩, ?_⟩
            rotate_left
            · intro w' hS
              try dsimp only at hS
              obtain ⟨S1, S2⟩ := hS
              go_simp
              try with_reducible rfl
            simp only [Act.put]
            refine ⟨_, ?_, rfl, Or.inl ⟨rfl, ?_⟩, ?_⟩
            rotate_left
            · intro w' hS
              try dsimp only at hS
              obtain ⟨S1, S2⟩ := hS
              go_simp
              try with_reducible rfl
            simp only [Act.put]
            refine ⟨_, ?_, rfl, Or.inl ⟨rfl, ?_⟩, ?_⟩
            rotate_left
            · intro w' hS
              try dsimp only at hS
              obtain ⟨S1, S2⟩ := hS
              go_simp
              try with_reducible rfl
            simp only [Act.put]
            refine ⟨_, ?_, rfl, Or.inl ⟨rfl, ?_⟩, ?_⟩
            rotate_left
            · intro w' hS
              try dsimp only at hS
              obtain ⟨S1, S2⟩ := hS
              go_simp
              try with_reducible rfl
            simp only [Act.put]
            refine ⟨_, ?_, rfl, Or.inl ⟨rfl, ?_⟩, ?_⟩
            rotate_left
            · intro w' hS
              try dsimp only at hS
              obtain ⟨S1, S2⟩ := hS
              go_simp
              try with_reducible rfl
            simp only [Act.put]
            refine readsT_nil ?_
            refine callsT_cons (i := 12) rfl (fun K' hK => ?_)
            go_wp2_with fail
            refine hK.out _ _ ⟨nx_cell ((nx_alloc _ _).drewN 1) cX, nx_cell ((nx_alloc _ _).drewN 1) cY⟩ ?_
            clear hK K'
            refine callsT_nil ?_
            show wpList _ _ _ [_, _] _ _
            go_wp2_with ((with_reducible show wpList _ _ _ (⟨some 72, _, _, _, _, _⟩ :: _) _ _); refine wpl_pushK rfl _ _ 52 53 (.complex .f64 0 0) 16 rfl Tryd.underlying52 info53 rfl w2.heap.size (.slice Al k cl) k w4.heap.size (cw (fun j => Wz (f4 j)) fun j => Wz (g4 j)) (cw (fun j => Wz (f4 j)) fun j => Wz (g4 j)) rfl rfl ((HL4.out.alloc _).drewN 1) (cells_new w4 53 _) (fun _ _ => rfl) (fun _ => rfl) (by omega) (by decide) ?_; intro A6 c6 w6 hB6 hk6 _ _ _; have B6 := Lib.hid hB6; have K6 := Lib.hid hk6; clear hB6 hk6)
            refine NoPanic.normal ?_
            go_wp2_with fail
            obtain ⟨e1, e2, e3⟩ := push_xy HX4.out HY4.out HL4.out N4.out Hlt2.out.1 Hlt2.out.2 K6.out HXY.out.2.2.2.le
            exact ⟨⟨k + 1, c6, A6, f4, g4, by omega, by go_num, rfl, HB4.out, e1, e2, B6.out, e3⟩, by simp only [intOf]; omega⟩
        · obtain rfl : n = k := by omega
          have HI : Hid (∀ j, i64B (f j) ∧ i64B (g j)) := fun j => by have := HB.out j; unfold i64B; omega
          have Hb : Hid (∀ k, (-4398046511104 ≤ reS n f g k n ∧ reS n f g k n ≤ 4398046511104) ∧ (-4398046511104 ≤ imS n f g k n ∧ imS n f g k n ≤ 4398046511104)) := fun k => by
            have b1 := reS_b (n := n) (fun j => (HB.out j).1) (fun j => (HB.out j).2) k n
            have b2 := imS_b (n := n) (fun j => (HB.out j).1) (fun j => (HB.out j).2) k n
            omega
          go_wp2_with fail
          refine (fforward_any n Al cl (fun j => Wz (f j)) (fun j => Wz (g j)) f g _ Hn.out HL.out.rs (fun j _ => isI_Wz (by have := HB.out j; omega)) (fun j _ => isI_Wz (by have := HB.out j; omega)) (fun j => (HB.out j).1) (fun j => (HB.out j).2)).mono ?_
          rintro e w4 ⟨A4, c4, P, Q, rfl, hB4, hPQ, hb4⟩
          have HB4 := Lib.hid hB4
          have HPQ := Lib.hid hPQ
          have N4 : Hid (Nx w3 w4) := hb4
          clear hB4 hPQ hb4
          go_wp2_with fail
          refine (small_0 n bx bY f g a _ Hn.out (HX.out.nx N4.out).rs (HY.out.nx N4.out).rs (fun j => (HI.out j).1) (fun j => (HI.out j).2) (HE.out _ (N0.out.trans (N3.out.trans N4.out))) (fun k => by have := Hb.out k; omega)).mono ?_
          rintro e w5 ⟨A5, c5, A6, c6, rfl, hB5, hB6, hb5⟩
          have B4 := Lib.hid (HB4.out.nx hb5)
          have B5 := Lib.hid hB5
          have B6 := Lib.hid hB6
          have N5 : Hid (Nx w w5) := N0.out.trans (N3.out.trans (N4.out.trans hb5))
          clear hB5 hB6 hb5 HB4
          obtain ⟨d4, rfl, _, _⟩ := B4.out.block hn1
          obtain ⟨d5, rfl, _, _⟩ := B5.out.block hn1
          obtain ⟨d6, rfl, _, _⟩ := B6.out.block hn1
          have k4 := B4.out.rs.nc
          have k5 := B5.out.rs.nc
          have k6 := B6.out.rs.nc
          have k4' := B4.out.rs.cm
          have k5' := B5.out.rs.cm
          have k6' := B6.out.rs.cm
          go_wp2_with fail
          go_loopw [111] (fun o wr => ∃ j : Nat, j ≤ n ∧ o = .int .i64 j ∧ Nx w5 wr) (fun o _ => n - (intOf o).toNat)
          case atStart => exact ⟨0, Nat.zero_le _, rfl, Nx.refl _⟩
          case round =>
            obtain ⟨j, hj, rfl, hnr⟩ := hrel
            by_cases hlj : j < n
            · have hlj' : (j : Int) < n := by omega
              have q4 : wr.cell? ⟨d4, j, none⟩ = some (.complex .f64 (P j) (Q j)) := (B4.out.nx hnr).cell j hlj
              have q5 : wr.cell? ⟨d5, j, none⟩ = some (.int .i64 (reS n f g j n)) := (B5.out.nx hnr).cell j hlj
              have q6 : wr.cell? ⟨d6, j, none⟩ = some (.int .i64 (imS n f g j n)) := (B6.out.nx hnr).cell j hlj
              have o1 : (FloatKind.f64.format.order (P j) (floatOfInt .f64 (reS n f g j n)) == some .eq) = true := by
                have := isI_eq (HPQ.out j hlj).1 (isI_Wz (z := reS n f g j n) (by have := Hb.out j; omega))
                rw [decide_eq_true rfl] at this; exact this
              have o2 : (FloatKind.f64.format.order (Q j) (floatOfInt .f64 (imS n f g j n)) == some .eq) = true := by
                have := isI_eq (HPQ.out j hlj).2 (isI_Wz (z := imS n f g j n) (by have := Hb.out j; omega))
                rw [decide_eq_true rfl] at this; exact this
              have Hnr := Lib.hid hnr
              clear hnr
              go_wp2_with fail
              go_quiet (fail)
              go_wp2_with fail
              exact ⟨⟨j + 1, by omega, by go_num, Hnr.out.drewN _⟩, by simp only [intOf]; omega⟩
            · obtain rfl : n = j := by omega
              have Hnr := Lib.hid hnr
              clear hnr
              go_wp2_with fail
              go_ret
              exact ⟨rfl, N5.out.trans Hnr.out⟩
end Go.Proofs.YtppebegleedifaaDoor
