/- Naturals as slices of words: trim, Of, MulAdd, push. -/
import Derived.Test.YtdfbmfmfhdifpaaBm
namespace Go.Proofs.Ytdfbmfmfhdifpaa
open Go.RowKit

set_option maxHeartbeats 1000000 in
theorem trim_any (A : Option Addr) (n c N : Nat) (w : World) (hr : RS w A n c (dw N)) (hN : N < Mx n) :
    Calls Try.prog 49 #[.slice A n c] w fun e w' => (∃ m, e = .returned (.slice A m c) ∧ m ≤ n ∧ Nt w A m c N) ∧ w = w' := by
  have HN := Lib.hid hN
  clear hN
  have hm := hr.cm
  have hnc := hr.nc
  go_enter Try.func49, Try.ntmps49
  go_wp2_with fail
  go_loopw [3] (fun s wr => ∃ k : Nat, k ≤ n ∧ s = .int .i64 k ∧ Hid (N < Mx k) ∧ wr = w) (fun s _ => (intOf s).toNat)
  case atStart => exact ⟨n, Nat.le_refl _, rfl, HN, rfl⟩
  case round =>
    obtain ⟨k, hk, rfl, hK, rfl⟩ := hrel
    by_cases h0 : k = 0
    · subst h0
      go_wp2_with (first
        | ((with_reducible show wpList _ _ _ (⟨some 20, _, _, _, _, _⟩ :: _) _ _); refine wpl_to rfl 51 42 _ _ rfl Try.underlying51 cells42 A n c 0 _ _ (dw N) rfl rfl rfl (by omega) hr ?_; intro hr0))
      go_ret
      exact ⟨⟨0, rfl, by omega, ⟨hr0, hK.out, fun h => absurd rfl h⟩⟩, rfl⟩
    · obtain ⟨j, rfl⟩ : ∃ j, k = j + 1 := ⟨k - 1, by omega⟩
      clear h0
      have hj : ((j + 1 : Nat) : Int) - 1 = (j : Int) := by omega
      obtain ⟨d, hd⟩ : ∃ d, dig N j = d := ⟨_, rfl⟩
      have hix : RS wr A n c (dw N) := hr
      obtain ⟨ad, rfl, hc⟩ := hr.cell j (by omega)
      have hjn : (j : Int) < n := by omega
      by_cases hd0 : d = 0
      · have hlt : Hid (N < Mx j) := Lib.hid (dig_top_zero hK.out (hd.trans hd0))
        have hc' : wr.cell? (ad.add j) = some (.int .u32 0) := by rw [hc]; unfold dw; rw [hd, hd0]; rfl
        clear hd hd0 hc
        go_wp2_with fail
        exact ⟨⟨j, by omega, rfl, hlt, trivial⟩, by simp [intOf]⟩
      · have hne : ((d : Int) == 0) = false := by simp; omega
        have hc' : wr.cell? (ad.add j) = some (.int .u32 d) := by rw [hc]; unfold dw; rw [hd]
        have ht : Hid (Mx j ≤ N) := Lib.hid (dig_top_ne (by rw [hd]; exact hd0))
        clear hd hd0 hc
        go_wp2_with (first
          | ((with_reducible show wpList _ _ _ (⟨some 20, _, _, _, _, _⟩ :: _) _ _); refine wpl_to rfl 51 42 _ _ rfl Try.underlying51 cells42 (some ad) n c (j + 1) _ _ (dw N) rfl rfl rfl hk hr ?_; intro hr0))
        go_ret
        exact ⟨⟨j + 1, rfl, hk, ⟨hr0, hK.out, fun _ => ht.out⟩⟩, rfl⟩

/-- trim of a slice that the call has built. -/
theorem trim_bld {w0 w : World} {A : Option Addr} {n c N : Nat} (hb : Bld w w0.heap.size 42 (.slice A n c) n (dw N)) (hbel : Below w0.heap.size w0 w) (hN : N < Mx n) :
    Calls Try.prog 49 #[.slice A n c] w (NRet N w0) := by
  refine (trim_any A n c N w hb.rs hN).mono ?_
  rintro e w' ⟨⟨m, rfl, _, h⟩, rfl⟩
  exact ⟨A, m, c, rfl, h, hbel⟩

theorem dig0 (v : Nat) : dig v 0 = v % 4294967296 := by unfold dig; simp
theorem dig1 (v : Nat) : dig v 1 = v / 4294967296 % 4294967296 := rfl
set_option maxHeartbeats 400000 in
theorem of_any (v : Nat) (hv : v < 18446744073709551616) (w : World) : Calls Try.prog 35 #[.int .u64 v] w (NRet v w) := by
  have hrs : RS (w.alloc (.cells #[.int .u32 (v % 4294967296 : Nat), .int .u32 (v / 4294967296 % 4294967296 : Nat)] 42)) (some ⟨w.heap.size, 0, none⟩) 2 2 (dw v) := by
    refine ⟨by omega, by omega, fun j hj => ⟨_, rfl, ?_⟩⟩
    have hh := heap_alloc_new w (.cells #[.int .u32 (v % 4294967296 : Nat), .int .u32 (v / 4294967296 % 4294967296 : Nat)] 42)
    rw [show (Addr.add ⟨w.heap.size, 0, none⟩ j) = ⟨w.heap.size, j, none⟩ from by unfold Addr.add; simp; omega]
    rw [cell_of_row _ _ j _ _ _ hh]
    match j, hj with
    | 0, _ => unfold dw; rw [dig0]; rfl
    | 1, _ => unfold dw; rw [dig1]; rfl
  have hlt : v < Mx 2 := hv
  have HT := Lib.hid (trim_any _ 2 2 v _ hrs hlt)
  have e1 : IntKind.u32.wrap (v : Int) = ((v % 4294967296 : Nat) : Int) := by rw [IntKind.wrap_u32]; omega
  have e2 : IntKind.u32.wrap ((v : Int) / 4294967296) = ((v / 4294967296 % 4294967296 : Nat) : Int) := by rw [IntKind.wrap_u32]; omega
  have v1 : (0 : Int) ≤ v := by omega
  have v2 : (v : Int) ≤ 18446744073709551615 := by omega
  clear hrs hlt hv
  go_enter Try.func35, Try.ntmps35
  go_wp2_with (go_at_call 49; refine HT.out.mono ?_; rintro e w1 ⟨⟨m, rfl, _, h⟩, rfl⟩)
  go_ret
  exact ⟨_, m, 2, rfl, h, (Below.refl _ _).alloc (Nat.le_refl _) _⟩
end Go.Proofs.Ytdfbmfmfhdifpaa
