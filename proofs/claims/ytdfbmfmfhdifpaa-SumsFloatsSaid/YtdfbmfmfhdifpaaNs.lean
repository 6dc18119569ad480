/- SumsFloats: the walk. -/
import Derived.Test.YtdfbmfmfhdifpaaNr
namespace Go.Proofs.Ytdfbmfmfhdifpaa
open Go.RowKit
theorem bld_none (w : World) (B : Nat) (hB : B ≤ w.heap.size) (F : Nat → Value) : Bld w B 26 (.slice none 0 0) 0 F := ⟨⟨by simp, .inl ⟨rfl, rfl⟩⟩, hB⟩
theorem rs_two (w : World) (y z : Value) (t : TypeId) (F : Nat → Value) (h0 : F 0 = y) (h1 : F 1 = z) : RS (w.alloc (.cells #[y, z] t)) (some ⟨w.heap.size, 0, none⟩) 2 2 F := by
  refine ⟨by omega, by omega, fun j hj => ⟨_, rfl, ?_⟩⟩
  have hh := heap_alloc_new w (.cells #[y, z] t)
  rw [show (Addr.add ⟨w.heap.size, 0, none⟩ j) = ⟨w.heap.size, j, none⟩ from by unfold Addr.add; simp; omega]
  rcases (show j = 0 ∨ j = 1 by omega) with rfl | rfl
  · rw [cell_of_row _ _ 0 _ _ _ hh, h0]; rfl
  · rw [cell_of_row _ _ 1 _ _ _ hh, h1]; rfl
def tailed (g : Nat → Nat) (n : Nat) : Nat → Nat := fun j => if j < n then g j else if j = n then 4635118810238550016 else 4635189178982727680
def two : Nat → Nat := fun j => if j = 0 then 4635118810238550016 else 4635189178982727680
theorem tailed_split (g : Nat → Nat) (n : Nat) : (∀ j, j < n → fl g j = fl (tailed g n) j) ∧ ∀ j, j < 2 → fl two j = fl (tailed g n) (n + j) := by
  constructor
  · intro j hj
    show Value.float _ _ = Value.float _ _
    unfold tailed; rw [if_pos hj]
  · intro j hj
    show Value.float _ _ = Value.float _ _
    congr 1
    unfold tailed two
    rw [if_neg (show ¬ n + j < n by omega)]
    by_cases e : j = 0
    · rw [if_pos e, if_pos (by omega)]
    · rw [if_neg e, if_neg (by omega)]
theorem tailed_n (g : Nat → Nat) (n : Nat) : fl (tailed g n) n = .float .f64 4635118810238550016 := by
  show Value.float _ _ = _
  unfold tailed; rw [if_neg (by omega), if_pos rfl]
theorem tailed_n1 (g : Nat → Nat) (n : Nat) : fl (tailed g n) (n + 1) = .float .f64 4635189178982727680 := by
  show Value.float _ _ = _
  unfold tailed; rw [if_neg (by omega), if_neg (by omega)]
theorem tailed_take {w : World} {A : Option Addr} {n c : Nat} {g : Nat → Nat} (h : RS w A n c (fl (tailed g n))) : RS w A n c (fl g) := h.congr fun j hj => ((tailed_split g n).1 j hj).symm
theorem HX9 {w w1 w6 w9 : World} {a : Nat} (h1 : Below w.heap.size w w1) (h6 : Below w1.heap.size w1 w6) (h9 : Below (w6.drewN a).heap.size (w6.drewN a) w9) : Below w.heap.size w w9 := by
  have h := h1.trans (h6.mono h1.size)
  exact h.trans ((below_of_drew h9).mono h.size)
set_option maxHeartbeats 4000000 in
theorem floatsum_any (A : Option Addr) (n c : Nat) (b : Nat → Nat) (w : World) (hr : RS w A n c (fun j => .int .u64 (b j))) (hb : ∀ j, j < n → b j < 18446744073709551616) :
    Calls Try.prog 3 #[.slice A n c] w fun e w' => e = .returned (.bool true) ∧ Below w.heap.size w w' := by
  have hm := hr.cm
  have hnc := hr.nc
  have Hb := Lib.hid hb
  clear hb
  by_cases h1 : n ≤ 8192
  rotate_left
  · go_enter Try.func3, Try.ntmps3
    go_wp2_with (go_at_call 7; refine (lives_any _).mono ?_; rintro e w1 ⟨rfl, hb1⟩)
    all_goals (go_ret; exact ⟨rfl, hb1⟩)
  have VS := sum_hS (fun j => cn (b j)) n (by omega)
  obtain ⟨G, hG⟩ : ∃ G : Nat → Nat, (fun j => cn (b j)) = G := ⟨_, rfl⟩
  have VL : Hid (∀ j, j < n → G j < 18446744073709551616) := by rw [← hG]; exact fun j hj => cn_lt64 _ (Hb.out j hj)
  have VC : Hid (∀ j, j < n → cn (G j) = G j) := by rw [← hG]; exact fun j _ => cn_cn _
  rw [hG] at VS
  have E77 : (FloatKind.f64.format.order 4635118810238550016 4635118810238550016 != some .eq) = false := by decide
  have E78 : (FloatKind.f64.format.order 4635189178982727680 4635189178982727680 != some .eq) = false := by decide
  go_enter Try.func3, Try.ntmps3
  go_wp2_with (first
    | (go_at_call 7; refine (lives_any _).mono ?_; rintro e w1 ⟨rfl, hb1⟩)
    | (go_at_call_of 8 (Value.slice A n c); refine (floats_any A n c b _ (by omega) ?_ ?_).mono ?_; exact Hb.out; exact hr.below hb1; rw [hG]; rintro e w2 ⟨⟨A4, c4, rfl, hbl⟩, hb2⟩; have HB2 := Lib.hid hb2; clear hb2)
    | ((with_reducible show wpList _ _ _ (⟨some 23, _, _, _, _, _⟩ :: _) _ _); refine wpl_cat (w0 := w1) rfl _ _ 24 26 (.float .f64 0) 8 rfl Try.underlying24 info26 rfl w1.heap.size (.slice A4 n c4) n 2 2 (some ⟨w2.heap.size, 0, none⟩) (fl G) (fl two) (fl (tailed G n)) rfl rfl (by decide) (hbl.alloc _) (HB2.out.alloc hbl.hB _) (rs_two _ _ _ _ _ rfl rfl) (tailed_split G n) (fun _ => rfl) (by omega) (by decide) (.slice none 0 0) 0 (fl G) (bld_none _ _ (hbl.alloc _).hB _) (fun gE h => by cases h) ?_; intro A6 c6 w6 hB6 _ _ hbel6 hk6 hc6; obtain ⟨g6, rfl, _, _⟩ := hB6.block (by omega))
    | ((with_reducible show wpList _ _ _ (⟨some 27, _, _, _, _, _⟩ :: _) _ _); refine wpl_to rfl 24 26 _ _ rfl Try.underlying24 cells26 (some ⟨g6, 0, none⟩) (n + 2) c6 n .i64 (n : Int) (fl (tailed G n)) rfl rfl rfl (by omega) hB6.rs ?_; intro hRm; have RM := Lib.hid (tailed_take hRm); clear hRm)
    | (go_at_call_of 9 (Value.slice (some ⟨g6, 0, none⟩) n c6); refine (left_any _ n c6 G _ VL.out (RM.out.same rfl)).mono ?_; rintro e w7 ⟨r1, m1, rfl, hl1, hv1, rfl⟩; have HV1 := Lib.hid hv1; clear hv1)
    | (go_at_call_of 10 (Value.slice (some ⟨g6, 0, none⟩) n c6); refine (pair_any (n + 1) _ n c6 G _ ?_ ?_ ?_ ?_).mono ?_; omega; omega; exact VL.out; exact RM.out.same rfl; rintro e w7 ⟨r2, m2, rfl, hl2, hv2, rfl⟩; have HV2 := Lib.hid hv2; clear hv2)
    | (go_at_call_of 11 (Value.slice (some ⟨g6, 0, none⟩) n c6); refine (kept_any _ n c6 G _ ?_ ?_).mono ?_; exact VL.out; exact RM.out.same rfl; rintro e w7 ⟨r3, m3, rfl, hl3, hv3, rfl⟩; have HV3 := Lib.hid hv3; clear hv3)
    | (go_at_call 12; refine (exact_any _ n c6 G _ ?_ ?_ VS).mono ?_; exact VL.out; exact RM.out.same rfl; rintro e w9 ⟨r4, rfl, hl4, hv4, hbel9⟩; have HV4 := Lib.hid hv4; have HB9 : Hid (Below w.heap.size w w9) := HX9 hb1 hbel6 hbel9; have HB69 := Lib.hid (below_of_drew hbel9); clear hv4 hbel9)
    | (go_at_call 8; refine (floats_any A n c b _ (by omega) Hb.out (hr.below HB9.out)).mono ?_; rw [hG]; rintro e w11 ⟨⟨A5, c5, rfl, hbl5⟩, hb11⟩; have HX := Lib.hid hbl5.rs; have RM11 := Lib.hid ((RM.out.below HB69.out).below hb11); have hB11 := (hB6.below HB69.out).below hb11; have cA : w11.cell? ⟨g6, n, none⟩ = some (.float .f64 4635118810238550016) := (by rw [hB11.cell n (by omega), tailed_n]); have cB : w11.cell? ⟨g6, n + 1, none⟩ = some (.float .f64 4635189178982727680) := (by rw [hB11.cell (n + 1) (by omega), tailed_n1]); have HB11 := Lib.hid (HB9.out.trans (hb11.mono HB9.out.size)); clear hbl5 hb11 hB11)
    | (go_at_call 13; refine (samefloats_any (some ⟨g6, 0, none⟩) A5 n c6 c5 G _ RM11.out HX.out).mono ?_; rintro e w12 ⟨m5, rfl, rfl⟩; have cC : (w11.drewN m5).cell? ⟨g6, n, none⟩ = some (.float .f64 4635118810238550016) := cA; have cD : (w11.drewN m5).cell? ⟨g6, n + 1, none⟩ = some (.float .f64 4635189178982727680) := cB)
    | (go_at_call 15; refine (leftR_any _ n c5 G _ ?_ ?_).mono ?_; exact VL.out; exact HX.out.same rfl; rintro e w13 ⟨r5, m6, rfl, hl5, hv5, rfl⟩; have HV5 := Lib.hid hv5; clear hv5)
    | (go_at_call 16; refine (pairR_any n _ n c5 G _ ?_ ?_ ?_ ?_).mono ?_; omega; omega; exact VL.out; exact HX.out.same rfl; rintro e w13 ⟨r6, m7, rfl, hl6, hv6, rfl⟩; have HV6 := Lib.hid hv6; clear hv6)
    | (go_at_call 17; refine (keptR_any _ n c5 G _ ?_ ?_).mono ?_; exact VL.out; exact HX.out.same rfl; rintro e w13 ⟨r7, m8, rfl, hl7, hv7, rfl⟩; have HV7 := Lib.hid hv7; clear hv7)
    | (go_at_call 18; refine (exactR_any _ n c5 G _ ?_ ?_ ?_ h1).mono ?_; exact VL.out; exact VC.out; exact HX.out.same rfl; rintro e w14 ⟨r8, rfl, hl8, hv8, hb14⟩; have HV8 := Lib.hid hv8; have HB14 := Lib.hid (HB11.out.trans ((below_of_drew hb14).mono HB11.out.size)); clear hv8 hb14)
    | (go_at_call 14; refine (same_any _ _ _).mono ?_; rintro e w15 ⟨rfl, rfl⟩; first | rw [same_true HV1.out HV5.out] | rw [same_true HV2.out HV6.out] | rw [same_true HV3.out HV7.out] | rw [same_true HV4.out HV8.out]))
  go_ret
  exact ⟨rfl, HB14.out⟩
end Go.Proofs.Ytdfbmfmfhdifpaa
