/- Naturals as slices of words: Sub. -/
import Derived.Test.YtdfbmfmfhdifpaaNc
namespace Go.Proofs.Ytdfbmfmfhdifpaa
open Go.RowKit

set_option maxHeartbeats 1000000 in
theorem sub2_any (Aa : Option Addr) (na ca N : Nat) (Ab : Option Addr) (nb cb X : Nat) (w : World) (ha : Nt w Aa na ca N) (hb : Nt w Ab nb cb X) (hXN : X ≤ N) (hn : na ≤ 1000000) :
    Calls Try.prog 40 #[.slice Aa na ca, .slice Ab nb cb] w (NRet (N - X) w) := by
  have hra := ha.rs
  have hrb := hb.rs
  have hca := hra.cm
  have hna := hra.nc
  have hcb := hrb.cm
  have hnb := hrb.nc
  have HV : Hid (N - X < Mx na) := Lib.hid (by have := ha.lt; omega)
  have HX := Lib.hid (fun k (hk : nb ≤ k) => dig_bigx X k nb hb.lt hk)
  have HD := Lib.hid (fun k (hk : k < na) => sub_digit (k := k) ha.lt hXN hk)
  have hn' : (na : Int) ≤ 1000000 := by omega
  clear ha hb hXN
  go_enter Try.func40, Try.ntmps40
  go_wp2_with (first
    | ((with_reducible show wpList _ _ _ (⟨some 12, _, _, _, _, _⟩ :: _) _ _); refine wpl_make0 (w0 := w) rfl _ _ 51 42 (.int .u32 0) 4 rfl Try.underlying51 info42 w.heap.size _ _ _ na (dw (N - X)) rfl rfl rfl (Below.refl _ _) (Nat.le_refl _) (by omega) (by omega) ?_; intro w1 hb1 hbel1))
  go_loopw [5, 6, 7, 8, 9, 15] (fun o s y1 y2 y3 i wr => ∃ k c' : Nat, ∃ A' : Option Addr, k ≤ na ∧ i = .int .i64 k ∧ o = .slice A' k c' ∧ s = .int .u64 (borS N X k) ∧ Bld wr w.heap.size 42 (.slice A' k c') k (dw (N - X)) ∧ Below w.heap.size w wr) (fun _ _ _ _ _ i _ => na - (intOf i).toNat)
  case atStart => exact ⟨0, na, _, by omega, rfl, rfl, by rw [borS_zero]; rfl, hb1, hbel1⟩
  case round =>
    obtain ⟨k, c', A', hk, rfl, rfl, rfl, hB, hbel⟩ := hrel
    have hrr := hra.below hbel
    have hrr2 := hrb.below hbel
    have hcl := borS_le N X k
    by_cases hlt : k < na
    · have hdl := dig_lt N k
      have hdl2 := dig_lt X k
      have s1 := borS_succ N X k
      have s2 := HD.out k hlt
      obtain ⟨d, hd⟩ : ∃ d, dig N k = d := ⟨_, rfl⟩
      obtain ⟨x, hx⟩ : ∃ x, dig X k = x := ⟨_, rfl⟩
      obtain ⟨q, hq⟩ : ∃ q, borS N X k = q := ⟨_, rfl⟩
      obtain ⟨q', hq'⟩ : ∃ q', borS N X (k + 1) = q' := ⟨_, rfl⟩
      rw [hd] at hdl s1 s2
      rw [hx] at hdl2 s1 s2
      rw [hq] at hcl s1 s2 ⊢
      rw [hq'] at s1
      have b1 : (d : Int) < 4294967296 := by omega
      have b2 : (q : Int) ≤ 1 := by omega
      have b3 : (x : Int) < 4294967296 := by omega
      have Hd := Lib.hid hd
      have Hx := Lib.hid hx
      have Hq := Lib.hid hq'
      by_cases hkb : k < nb
      · obtain ⟨f2, f3⟩ := sub_cases hdl hdl2 hcl s1 s2
        clear s1 s2 hd hx hq hq' hdl hdl2 hcl
        go_wp2_with (first
          | ((with_reducible show wpList _ _ _ (⟨some 18, _, _, _, _, _⟩ :: _) _ _); refine wpl_ix rfl 51 42 _ _ rfl Try.underlying51 cells42 Aa na ca k _ _ _ rfl rfl rfl hlt hrr ?_; intro p hp0; have hp : wr.cell? p = some (.int .u32 d) := hp0.trans (congrArg (fun u : Nat => some (Value.int .u32 (u : Int))) Hd.out); clear hp0)
          | ((with_reducible show wpList _ _ _ (⟨some 31, _, _, _, _, _⟩ :: _) _ _); refine wpl_ix rfl 51 42 _ _ rfl Try.underlying51 cells42 Ab nb cb k _ _ _ rfl rfl rfl hkb hrr2 ?_; intro p2 hp0; have hp2 : wr.cell? p2 = some (.int .u32 x) := hp0.trans (congrArg (fun u : Nat => some (Value.int .u32 (u : Int))) Hx.out); clear hp0)
          | ((with_reducible show wpList _ _ _ (⟨some 39, _, _, _, _, _⟩ :: _) _ _); refine wpl_push (w0 := w) rfl _ _ 51 42 (.int .u32 0) 4 rfl Try.underlying51 info42 rfl w.heap.size _ k _ (dw (N - X)) (.int .u32 (dig (N - X) k)) rfl rfl (hB.alloc _) (hbel.alloc hB.hB _) ?_ rfl rfl ?_ (by omega) ?_; exact cell_one _ _ _; omega; intro A2 c2 w2 hB2 hbel2 hk2 hc2))
        exact ⟨⟨k + 1, c2, A2, by omega, by go_num, rfl, by rw [Hq.out], hB2, hbel2⟩, by simp [intOf]; omega⟩
      · have hx0 : x = 0 := by rw [← hx]; exact HX.out k (by omega)
        subst hx0
        obtain ⟨f2, f3⟩ := sub_cases0 hdl hcl s1 s2
        clear s1 s2 hd hx hq hq' hdl hdl2 hcl
        go_wp2_with (first
          | ((with_reducible show wpList _ _ _ (⟨some 18, _, _, _, _, _⟩ :: _) _ _); refine wpl_ix rfl 51 42 _ _ rfl Try.underlying51 cells42 Aa na ca k _ _ _ rfl rfl rfl hlt hrr ?_; intro p hp0; have hp : wr.cell? p = some (.int .u32 d) := hp0.trans (congrArg (fun u : Nat => some (Value.int .u32 (u : Int))) Hd.out); clear hp0)
          | ((with_reducible show wpList _ _ _ (⟨some 39, _, _, _, _, _⟩ :: _) _ _); refine wpl_push (w0 := w) rfl _ _ 51 42 (.int .u32 0) 4 rfl Try.underlying51 info42 rfl w.heap.size _ k _ (dw (N - X)) (.int .u32 (dig (N - X) k)) rfl rfl (hB.alloc _) (hbel.alloc hB.hB _) ?_ rfl rfl ?_ (by omega) ?_; exact cell_one _ _ _; omega; intro A2 c2 w2 hB2 hbel2 hk2 hc2))
        exact ⟨⟨k + 1, c2, A2, by omega, by go_num, rfl, by rw [Hq.out], hB2, hbel2⟩, by simp [intOf]; omega⟩
    · obtain rfl : k = na := by omega
      go_wp2_with (go_at_call 49; refine (trim_bld hB hbel HV.out).mono ?_; rintro e w3 ⟨A3, n3, c3, rfl, h3, hbel3⟩)
      go_ret
      exact ⟨A3, n3, c3, rfl, h3, hbel3⟩
end Go.Proofs.Ytdfbmfmfhdifpaa
