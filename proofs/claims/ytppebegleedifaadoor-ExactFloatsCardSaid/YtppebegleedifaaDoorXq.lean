/- whole. -/
import Derived.Test.YtppebegleedifaaDoorXp
namespace Go.Proofs.YtppebegleedifaaDoor
open Go.RowKit

def allFit (S : Nat → Int) : Nat → Bool
  | 0 => true
  | n + 1 => allFit S n && fitB (S n)
theorem allFit_false {S : Nat → Int} {j n : Nat} (hj : j < n) (h : fitB (S j) = false) : allFit S n = false := by
  induction n with
  | zero => omega
  | succ n ih =>
    rw [allFit]
    by_cases e : j = n
    · subst e; rw [h, Bool.and_false]
    · rw [ih (by omega), Bool.false_and]
def updI (f : Nat → Int) (k : Nat) (v : Int) : Nat → Int := fun i => if i = k then v else f i
theorem upd_iw (f : Nat → Int) (k : Nat) (v : Int) (j : Nat) : (if j = k then (Value.int .i64 v) else iw f j) = iw (updI f k v) j := by
  unfold iw updI
  by_cases h : j = k
  · rw [if_pos h, if_pos h]
  · rw [if_neg h, if_neg h]
theorem size70 : (Tryd.prog.info? 70).map (·.size) = some 3 := by kernel_rfl
def WRes (a : Nat → Addr) (S : Nat → Int) (n : Nat) (w : World) (e : Ending) (w' : World) : Prop :=
  ((allFit S n = true ∧ ∃ A c, e = .returned (.tuple #[.slice A n c, .nilIface]) ∧ Bld w' w.heap.size 2 (.slice A n c) n (iw S)) ∨ (allFit S n = false ∧ e = .returned (.tuple #[.slice none 0 0, eV a 1]))) ∧ Below w.heap.size w w'
set_option maxHeartbeats 4000000 in
theorem whole_any (a : Nat → Addr) (B n c : Nat) (S : Nat → Int) (w : World) (hW : Wds w B n S) (hB : B < w.heap.size) (hn : n ≤ 2097152) (hc : n ≤ c) (hc2 : c ≤ 9223372036854775807) (hE : Ers w (eV a))
    (hS : ∀ j, j < n → -1532495540865888858358347027150309183618739122183602176 ≤ S j ∧ S j ≤ 1532495540865888858358347027150309183618739122183602176) :
    Calls Tryd.prog 39 #[.slice (some ⟨B, 0, none⟩) n c] w (WRes a S n w) := by
  have hn' : (n : Int) ≤ 2097152 := by omega
  have HW := Lib.hid hW
  have HE := Lib.hid hE
  have HS := Lib.hid hS
  have HB := Lib.hid hB
  clear hW hE hS hB
  go_enter Tryd.func39, Tryd.ntmps39
  go_wp2_with (first
    | ((with_reducible show wpList _ _ _ (⟨some 9, _, _, _, _, _⟩ :: _) _ _); refine wpl_makez (w0 := w) rfl _ _ 34 2 (.int .i64 0) 8 rfl Tryd.underlying34 info2 rfl w.heap.size .i64 .i64 (n : Int) (n : Int) n n (fun _ => .int .i64 0) rfl rfl rfl rfl (Nat.le_refl _) (Below.refl _ _) (Nat.le_refl _) (by omega) (by omega) (fun _ _ => rfl) ?_; intro w1 hB1 hb1))
  obtain ⟨D, hD⟩ : ∃ D, w.heap.size = D := ⟨_, rfl⟩
  try rw [hD]
  try rw [hD] at hB1
  try rw [hD] at hb1
  have HWr : Hid (∀ wr, Below D w wr → Wds wr B n S) := fun wr hb => by rw [← hD] at hb; exact HW.out.below HB.out hb
  have HEr : Hid (∀ wr, Below D w wr → Ers wr (eV a)) := fun wr hb => by rw [← hD] at hb; exact HE.out.below hb
  have HB1 := Lib.hid hB1
  have Hb1 := Lib.hid hb1
  clear hB1 hb1
  go_loopw [12] (fun i wr => ∃ j : Nat, ∃ f : Nat → Int, j ≤ n ∧ i = .int .i64 j ∧ Hid (∀ k, k < j → f k = S k) ∧ Hid (allFit S j = true) ∧ Bld wr D 2 (.slice (some ⟨D, 0, none⟩) n n) n (iw f) ∧ Below D w wr) (fun i _ => n - (intOf i).toNat)
  case atStart => exact ⟨0, fun _ => 0, Nat.zero_le _, rfl, fun k hk => absurd hk (by omega), rfl, HB1.out, Hb1.out⟩
  case round =>
    obtain ⟨j, f, hj, rfl, HK, HF, hBr, hbr⟩ := hrel
    clear HB1 Hb1
    by_cases hlt : j < n
    · have hlt' : (j : Int) < n := by omega
      obtain ⟨a0, a1, a2, hr, q0, q1, q2⟩ := (HWr.out _ hbr).num j hlt
      have hsj := HS.out j hlt
      rw [Nat.mul_comm] at q0 q1 q2
      have hrange : wr.rangeAt B (j * 3) [.int .u64 (a0 : Nat), .int .u64 (a1 : Nat), .int .u64 (a2 : Nat)] := by
        intro i v hv
        match i, hv with
        | 0, hv => injection hv with hv; rw [← hv]; exact q0
        | 1, hv => injection hv with hv; rw [← hv]; exact q1
        | 2, hv => injection hv with hv; rw [← hv]; exact q2
      have hfit := (fits_iff hr hsj).2
      have Hra := Lib.hid hrange
      have Hr := Lib.hid hr
      have Hsj := Lib.hid hsj
      have HBr := Lib.hid hBr
      have Hbr := Lib.hid hbr
      have HE1 := Lib.hid ((HEr.out _ hbr).cell 1 (by decide))
      have HEb : Hid (∀ w3 : World, Below (wr.heap.size + 1) (wr.alloc (.cells #[.int .u64 (a0 : Nat), .int .u64 (a1 : Nat), .int .u64 (a2 : Nat)] 70)) w3 → Below wr.heap.size wr w3) := fun w3 h3 => ((Below.refl _ wr).alloc (Nat.le_refl _) _).trans (h3.mono (by omega))
      obtain ⟨b, hb⟩ : ∃ b, fitB (S j) = b := ⟨_, rfl⟩
      rw [hb] at hfit
      have Hb := Lib.hid hb
      clear q0 q1 q2 hrange hr hBr hbr hsj hb
      cases b
      · have HN := Lib.hid (allFit_false (n := n) hlt Hb.out)
        clear hfit
        go_wp2_with (first
          | ((with_reducible show wpList _ _ _ (⟨some 16, _, _, _, _, _⟩ :: _) _ _); refine wpList_load_mid rfl 70 _ rfl B (j * 3) rfl [.int .u64 (a0 : Nat), .int .u64 (a1 : Nat), .int .u64 (a2 : Nat)] _ Hra.out Tryd.underlying70 rfl size70 ?_)
          | (go_at_call 53; refine (fits_any (S j) a0 a1 a2 Hr.out Hsj.out _).mono ?_; rw [Hb.out]; rintro e w3 ⟨rfl, hb3⟩; have hb4 := HEb.out w3 (hb3.mono (by simp)); have cE : w3.cell? ⟨1, 0, none⟩ = some (.iface 110 (.pointer (some (a 1)))) := (hb4.cell (World.block_lt_of_cell? wr _ HE1.out)).trans HE1.out; have Hb4 := Lib.hid hb4; clear hb3 hb4))
        go_quiet (fail)
        go_wp2_with fail
        go_ret2
        exact ⟨.inr ⟨HN.out, rfl⟩, below_drewN (by first | exact Hbr.out.trans (Hb4.out.mono Hbr.out.size) | (rw [hD]; exact Hbr.out.trans (Hb4.out.mono (by have := Hbr.out.size; omega)))) _⟩
      · have hw := hfit rfl
        clear hfit
        go_wp2_with (first
          | ((with_reducible show wpList _ _ _ (⟨some 16, _, _, _, _, _⟩ :: _) _ _); refine wpList_load_mid rfl 70 _ rfl B (j * 3) rfl [.int .u64 (a0 : Nat), .int .u64 (a1 : Nat), .int .u64 (a2 : Nat)] _ Hra.out Tryd.underlying70 rfl size70 ?_)
          | (go_at_call 53; refine (fits_any (S j) a0 a1 a2 Hr.out Hsj.out _).mono ?_; rw [Hb.out]; rintro e w3 ⟨rfl, hb3⟩; have hb4 := HEb.out w3 (hb3.mono (by simp)); have cX : w3.cell? ⟨wr.heap.size, 0, none⟩ = some (.int .u64 (a0 : Nat)) := (hb3.cell (by simp)).trans (by rw [cell_of_row _ _ 0 _ _ _ (heap_alloc_new _ _)]; rfl); have hBd := HBr.out.below hb4; have cY : w3.cell? ⟨D, j, none⟩ = some (.int .i64 (f j)) := hBd.cell j hlt; have fY := hBd.free j; have HB4 := Lib.hid hBd; have Hb4 := Lib.hid hb4; clear hb3 hb4 hBd))
        go_roundw
        case rel => exact ⟨j + 1, updI f j (S j), by omega, by go_num, fun k hk => by
            show updI _ _ _ _ = _
            unfold updI
            by_cases e : k = j
            · rw [if_pos e, e]
            · rw [if_neg e]; exact HK.out k (by omega), by show _ = _; rw [allFit, HF.out, Hb.out]; rfl, (HB4.out.set j _).congr (fun k _ => upd_iw f j _ k), (Hbr.out.trans (Hb4.out.mono (by have := Hbr.out.size; omega))).setCell (Nat.le_refl D) _⟩
        case measure => simp only [intOf]; omega
    · obtain rfl : j = n := by omega
      go_wp2_with fail
      go_ret2
      exact ⟨.inl ⟨HF.out, _, _, rfl, by first | exact hBr.congr (fun k hk => (by unfold iw; rw [HK.out k hk])) | (rw [hD]; exact hBr.congr (fun k hk => (by unfold iw; rw [HK.out k hk])))⟩, by first | exact hbr | (rw [hD]; exact hbr)⟩
end Go.Proofs.YtppebegleedifaaDoor
