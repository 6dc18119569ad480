/- SumsScaled: the walk. -/
import Derived.Test.YtdfbmfmfhdifpaaSe
namespace Go.Proofs.Ytdfbmfmfhdifpaa
open Go.RowKit

abbrev dis (a b : Value) : Prop := ∀ g, a.ownBlock = some g → b.ownBlock ≠ some g
theorem dis_comm {a b : Value} (h : dis a b) : dis b a := fun g h1 h2 => h g h2 h1
theorem Bld.grownE {w w' : World} {B : Nat} {e : TypeId} {v vE : Value} {kE : Nat} {FE : Nat → Value} (h : Bld w B e vE kE FE) (hg : w.grownBy w' v.ownBlock) (hne : dis vE v) : Bld w' B e vE kE FE := by
  refine ⟨h.own.kept hg ?_, Nat.le_trans h.hB hg.size⟩
  cases hv : vE.ownBlock with
  | none => exact .inl rfl
  | some gE => exact .inr fun e' => hne gE hv e'.symm
theorem dis_grown {w : World} {B : Nat} {e : TypeId} {v v' vE : Value} {kE : Nat} {FE : Nat → Value} (h : Bld w B e vE kE FE) (hor : v'.ownBlock = v.ownBlock ∨ v'.ownBlock = some w.heap.size) (hne : dis vE v) : dis vE v' := by
  intro gE hgE hc
  rcases hor with h1 | h1
  · rw [h1] at hc; exact hne gE hgE hc
  · rw [h1] at hc
    injection hc with hc
    have := (h.own.lt gE hgE).2
    omega

section
variable {P : Program} {w w0 : World} {ops : Array Oper} {rest : List Oper} {o : Oper} {a : Act} {Q : Exit → Act → World → Prop}
theorem wpl_push2 (hg : o.guard = none) (s x : Operand) (t e : TypeId) (z : Value) (bytes : Nat)
    (ho : o.op = .call { callee := .builtin .append, args := #[s, x], argTypes := #[t, t] })
    (ht : P.underlying t = some (.slice e)) (hinfo : (P.info? e).map (fun i => (i.zero, i.size, i.bytes)) = some (some z, 1, bytes)) (hz : z.cells.size = 1)
    (B : Nat) (v : Value) (k b : Nat) (F : Nat → Value) (y : Value) (hs : a.eval s = v) (hx : a.eval x = .slice (some ⟨b, 0, none⟩) 1 1)
    (hbld : Bld w B e v k F) (hbel : Below B w0 w) (hc : w.cell? ⟨b, 0, none⟩ = some y) (hy : y = F k) (hy1 : y.oneCell' = true) (hk : (k + 1) * bytes ≤ 140737488355328) (hb1 : 1 ≤ bytes)
    (hK : ∀ A c w', Bld w' B e (.slice A (k + 1) c) (k + 1) F → w.grownBy w' v.ownBlock → ((Value.slice A (k + 1) c).ownBlock = v.ownBlock ∨ (Value.slice A (k + 1) c).ownBlock = some w.heap.size) → Below B w0 w' → k + 1 ≤ c → c ≤ 9223372036854775807 → wpList P ops Q rest (a.put o.dst (.slice A (k + 1) c)) w') :
    wpList P ops Q (o :: rest) a w := by
  obtain ⟨i0, hi, hz0, hz1, hz2⟩ := info_parts hinfo
  have hk2 : k + 1 ≤ 140737488355328 := Nat.le_trans (Nat.le_mul_of_pos_right _ hb1) hk
  refine wpList_append_own_at w hg s x t ho B e i0 z 1 bytes ht hi hz0 hz1 hz2 hz (by decide) v k _ hs hbld.own ⟨b, 0, none⟩ 1 1 [y] hx rfl ?_ ?_ (by unfold maxLen; omega) hk hbld.hB ?_
  · intro j u hj
    match j, hj with
    | 0, hj => simp at hj; subst hj; simpa [Addr.add] using hc
  · intro u hu
    simp at hu; subst hu; exact hy1
  · intro v' w' hown hgrow _ hor
    have e1 : (List.range k).map F ++ [y] = (List.range (k + 1)).map F := by rw [List.range_succ, List.map_append, hy]; rfl
    rw [e1] at hown
    have hB' : B ≤ w'.heap.size := Nat.le_trans hbld.hB hgrow.size
    have hb2 : Bld w' B e v' (k + 1) F := ⟨hown, hB'⟩
    obtain ⟨A, c, rfl, h1, h2⟩ := hb2.shape
    exact hK A c w' hb2 hgrow hor (hbel.grown hgrow hbld.hB hbld.base) h1 h2
end

/-- The three slices of the loop. -/
structure Tri (w0 w : World) (B : Nat) (v6 v7 vE : Value) (k6 k7 n : Nat) (F G E : Nat → Value) : Prop where
  b6 : Bld w B 26 v6 k6 F
  b7 : Bld w B 26 v7 k7 G
  bE : Bld w B 26 vE n E
  d67 : dis v6 v7
  dE6 : dis vE v6
  dE7 : dis vE v7
  bel : Below B w0 w
section
variable {w0 w w' : World} {B : Nat} {v6 v7 vE v' : Value} {k6 k7 n k : Nat} {F G E : Nat → Value}
theorem Tri.drewN (h : Tri w0 w B v6 v7 vE k6 k7 n F G E) (m : Nat) : Tri w0 (w.drewN m) B v6 v7 vE k6 k7 n F G E :=
  ⟨h.b6.drewN m, h.b7.drewN m, h.bE.drewN m, h.d67, h.dE6, h.dE7, below_drewN h.bel m⟩
theorem Tri.alloc (h : Tri w0 w B v6 v7 vE k6 k7 n F G E) (o : Obj) : Tri w0 (w.alloc o) B v6 v7 vE k6 k7 n F G E :=
  ⟨h.b6.alloc o, h.b7.alloc o, h.bE.alloc o, h.d67, h.dE6, h.dE7, h.bel.alloc h.b6.hB o⟩
theorem Tri.push6 (h : Tri w0 w B v6 v7 vE k6 k7 n F G E) (hb : Bld w' B 26 v' k F) (hg : w.grownBy w' v6.ownBlock) (hor : v'.ownBlock = v6.ownBlock ∨ v'.ownBlock = some w.heap.size) (hbel : Below B w0 w') :
    Tri w0 w' B v' v7 vE k k7 n F G E :=
  ⟨hb, h.b7.grownE hg (dis_comm h.d67), h.bE.grownE hg h.dE6, dis_comm (dis_grown h.b7 hor (dis_comm h.d67)), dis_grown h.bE hor h.dE6, h.dE7, hbel⟩
theorem Tri.push7 (h : Tri w0 w B v6 v7 vE k6 k7 n F G E) (hb : Bld w' B 26 v' k G) (hg : w.grownBy w' v7.ownBlock) (hor : v'.ownBlock = v7.ownBlock ∨ v'.ownBlock = some w.heap.size) (hbel : Below B w0 w') :
    Tri w0 w' B v6 v' vE k6 k n F G E :=
  ⟨h.b6.grownE hg h.d67, hb, h.bE.grownE hg h.dE7, dis_grown h.b6 hor h.d67, h.dE6, dis_grown h.bE hor h.dE7, hbel⟩
end
theorem bel_chain {w w1 wr : World} (hb1 : Below w.heap.size w w1) (hT : Below w1.heap.size w1 wr) : Below w.heap.size w wr := hb1.trans (hT.mono hb1.size)
theorem nice_step {g : Nat → Nat} {k : Nat} (h : ∀ j, j < k → Nice (g j)) (hk : Nice (g k)) : ∀ j, j < k + 1 → Nice (g j) := by
  intro j hj
  by_cases e : j = k
  · rw [e]; exact hk
  · exact h j (by omega)
theorem tri_start (w1 w2 : World) (n c : Nat) (A : Option Addr) (F G E : Nat → Value)
    (hb : Bld w2 ((w1.alloc (.cells #[] 26)).alloc (.cells #[] 26)).heap.size 26 (.slice A n c) n E) (hb2 : Below ((w1.alloc (.cells #[] 26)).alloc (.cells #[] 26)).heap.size ((w1.alloc (.cells #[] 26)).alloc (.cells #[] 26)) w2) :
    Tri w1 w2 w1.heap.size (.slice (some ⟨w1.heap.size, 0, none⟩) 0 0) (.slice (some ⟨w1.heap.size + 1, 0, none⟩) 0 0) (.slice A n c) 0 0 n F G E := by
  have hsz : ((w1.alloc (.cells #[] 26)).alloc (.cells #[] 26)).heap.size = w1.heap.size + 2 := by simp
  have a6 : Bld ((w1.alloc (.cells #[] 26)).alloc (.cells #[] 26)) w1.heap.size 26 (.slice (some ⟨w1.heap.size, 0, none⟩) 0 0) 0 F := (bld_nil w1 F).alloc _
  have a7 : Bld ((w1.alloc (.cells #[] 26)).alloc (.cells #[] 26)) w1.heap.size 26 (.slice (some ⟨w1.heap.size + 1, 0, none⟩) 0 0) 0 G := by
    have := bld_nil (w1.alloc (.cells #[] 26)) G
    have e : (w1.alloc (.cells #[] 26)).heap.size = w1.heap.size + 1 := by simp
    rw [e] at this
    exact this.mono (by omega)
  have hbase := hb.base
  rw [hsz] at hbase
  refine ⟨a6.below hb2, a7.below hb2, hb.mono (by omega), ?_, ?_, ?_, ?_⟩
  · intro g h1 h2
    injection h1 with h1
    injection h2 with h2
    have e1 : w1.heap.size = g := h1
    have e2 : w1.heap.size + 1 = g := h2
    omega
  · intro g h1 h2
    have := hbase g h1
    injection h2 with h2
    have e2 : w1.heap.size = g := h2
    omega
  · intro g h1 h2
    have := hbase g h1
    injection h2 with h2
    have e2 : w1.heap.size + 1 = g := h2
    omega
  · exact (((Below.refl w1.heap.size w1).alloc (Nat.le_refl _) _).alloc (by simp) _).trans (hb2.mono (by rw [hsz]; omega))

theorem gS_res {g : Nat → Nat} {e j r : Nat} (h : fin (gS g e j)) (hr : cn r = fop .mul (g j) (pw (959 + e))) : r = gS g e j :=
  num_of1 (by have := h.2; show ¬ gS g e j % _ > _; omega) hr

set_option maxHeartbeats 4000000 in
theorem scaled_any (A : Option Addr) (n c : Nat) (b : Nat → Nat) (K : Int) (w : World) (hr : RS w A n c (fun j => .int .u64 (b j))) (hb : ∀ j, j < n → b j < 18446744073709551616)
    (hK : -9223372036854775808 ≤ K ∧ K ≤ 9223372036854775807) :
    Calls Try.prog 6 #[.slice A n c, .int .i64 K] w fun e w' => e = .returned (.bool true) ∧ Below w.heap.size w w' := by
  have hm := hr.cm
  have hnc := hr.nc
  have Hb := Lib.hid hb
  clear hb
  obtain ⟨hK1, hK2⟩ := hK
  by_cases h1 : n ≤ 8192
  rotate_left
  · go_enter Try.func6, Try.ntmps6
    go_wp2_with (go_at_call 7; refine (lives_any _).mono ?_; rintro e w1 ⟨rfl, hb1⟩)
    all_goals (go_ret; exact ⟨rfl, hb1⟩)
  by_cases h2 : -64 ≤ K ∧ K ≤ 64
  rotate_left
  · have h3 : K < -64 ∨ 64 < K := by omega
    clear h2
    go_enter Try.func6, Try.ntmps6
    rcases h3 with h3 | h3
    · go_wp2_with (go_at_call 7; refine (lives_any _).mono ?_; rintro e w1 ⟨rfl, hb1⟩)
      all_goals (go_ret; exact ⟨rfl, hb1⟩)
    · go_wp2_with (go_at_call 7; refine (lives_any _).mono ?_; rintro e w1 ⟨rfl, hb1⟩)
      all_goals (go_ret; exact ⟨rfl, hb1⟩)
  obtain ⟨e, rfl, he⟩ : ∃ e : Nat, K = (e : Int) - 64 ∧ e ≤ 128 := ⟨(K + 64).toNat, by omega, by omega⟩
  obtain ⟨h3, h4⟩ := h2
  obtain ⟨KK, hKK⟩ : ∃ KK : Int, (e : Int) - 64 = KK := ⟨_, rfl⟩
  have PW := Lib.hid (fun w => power_any (959 + e) (by omega) (by omega) KK (by omega) w)
  rw [hKK] at hK1 hK2 h3 h4 ⊢
  clear hKK
  go_enter Try.func6, Try.ntmps6
  go_wp2_with (first
    | (go_at_call 7; refine (lives_any _).mono ?_; rintro e w1 ⟨rfl, hb1⟩)
    | (go_at_call 8; refine (floats_any A n c b _ (by omega) ?_ ?_).mono ?_; exact Hb.out; exact (hr.below hb1).below (((Below.refl _ _).alloc (Nat.le_refl _) _).alloc (by simp) _); rintro e w2 ⟨⟨A4, c4, rfl, hbl⟩, hb2⟩))
  have HT0 := Lib.hid (tri_start w1 w2 n c4 A4 (fl fun j => cn (b j)) (fl (gS (fun j => cn (b j)) e)) _ hbl hb2)
  clear hbl hb2
  go_loopw [6, 7, 9, 34] (fun l6 l7 f i wr => ∃ k c6 c7 : Nat, ∃ A6 A7 : Option Addr, k ≤ n ∧ i = .int .i64 k ∧ l6 = .slice A6 k c6 ∧ l7 = .slice A7 k c7 ∧
    Hid (Tri w1 wr w1.heap.size (.slice A6 k c6) (.slice A7 k c7) (.slice A4 n c4) k k n (fl fun j => cn (b j)) (fl (gS (fun j => cn (b j)) e)) (fl fun j => cn (b j))) ∧ Hid (∀ j, j < k → Nice (cn (b j)))) (fun _ _ _ i _ => n - (intOf i).toNat)
  case atStart => exact ⟨0, 0, 0, _, _, by omega, rfl, rfl, rfl, HT0, Lib.hid fun j hj => absurd hj (by omega)⟩
  case round =>
    clear HT0
    obtain ⟨k, c6, c7, A6, A7, hk, rfl, rfl, rfl, HT, HN⟩ := hrel
    by_cases hlt : k < n
    · have hfv := Lib.hid (cn_lt64 _ (Hb.out k hlt))
      have hErs := HT.out.bE.rs
      by_cases hz : (FloatKind.f64.format.order (cn (b k)) 0 != some .eq) = false
      · have hN : Hid (Nice (cn (b k))) := by
          obtain ⟨a1, a2⟩ := zero_of hfv.out hz
          exact Lib.hid ⟨a1, .inl a2⟩
        go_wp2_with (first
          | ((with_reducible show wpList _ _ _ (⟨some 36, _, _, _, _, _⟩ :: _) _ _); refine wpl_ix rfl 24 26 _ _ rfl Try.underlying24 cells26 A4 n c4 k _ _ _ rfl rfl rfl hlt hErs ?_; intro q hq0; have hq : wr.cell? q = some (.float .f64 (cn (b k))) := hq0; clear hq0)
          | ((with_reducible show wpList _ _ _ (⟨some 48, _, _, _, _, _⟩ :: _) _ _); refine wpl_push2 (w0 := w1) rfl _ _ 24 26 (.float .f64 0) 8 rfl Try.underlying24 info26 rfl w1.heap.size (.slice A6 k c6) k _ (fl fun j => cn (b j)) (.float .f64 (cn (b k))) rfl rfl (HT.out.alloc _).b6 (HT.out.alloc _).bel ?_ rfl rfl ?_ (by omega) ?_; exact cell_one _ _ _; omega; intro A6' c6' w6 hb6 hg6 hor6 hbel6 hk6 hc6; have T1 := Lib.hid ((HT.out.alloc _).push6 hb6 hg6 hor6 hbel6); clear hb6 hg6 hor6 hbel6)
          | (go_at_call 21; refine (PW.out _).mono ?_; rintro e7 w7 ⟨rfl, rfl⟩)
          | ((with_reducible show wpList _ _ _ (⟨some 53, _, _, _, _, _⟩ :: _) _ _); refine wpList_fop rfl .mul 26 26 _ _ rfl rfl _ _ rfl rfl ?_; intro r5 m5 hr5 hc5; obtain rfl := gS_res (g := fun j => cn (b j)) (j := k) (elem_scaled hN.out.1 he hN.out.2).1 hc5; clear hr5 hc5)
          | ((with_reducible show wpList _ _ _ (⟨some 55, _, _, _, _, _⟩ :: _) _ _); refine wpl_push2 (w0 := w1) rfl _ _ 24 26 (.float .f64 0) 8 rfl Try.underlying24 info26 rfl w1.heap.size (.slice A7 k c7) k _ (fl (gS (fun j => cn (b j)) e)) (.float .f64 (gS (fun j => cn (b j)) e k)) rfl rfl ((T1.out.drewN _).alloc _).b7 ((T1.out.drewN _).alloc _).bel ?_ rfl rfl ?_ (by omega) ?_; exact cell_one _ _ _; omega; intro A7' c7' w8 hb7 hg7 hor7 hbel7 hk7 hc7; have T2 := Lib.hid (((T1.out.drewN _).alloc _).push7 hb7 hg7 hor7 hbel7); clear hb7 hg7 hor7 hbel7))
        go_roundw
        case rel => exact ⟨k + 1, c6', c7', A6', A7', by omega, by go_num, rfl, rfl, T2, Lib.hid (nice_step (g := fun j => cn (b j)) HN.out hN.out)⟩
        case measure => simp [intOf]; omega
      · have hz' : (FloatKind.f64.format.order (cn (b k)) 0 != some .eq) = true := by simpa using hz
        clear hz
        have BR := bel_chain hb1 HT.out.bel
        go_wp2_with (first
          | ((with_reducible show wpList _ _ _ (⟨some 36, _, _, _, _, _⟩ :: _) _ _); refine wpl_ix rfl 24 26 _ _ rfl Try.underlying24 cells26 A4 n c4 k _ _ _ rfl rfl rfl hlt hErs ?_; intro q hq0; have hq : wr.cell? q = some (.float .f64 (cn (b k))) := hq0; clear hq0)
          | (go_at_call 20; refine (within_any _ 900 (.inl rfl) hfv.out _).mono ?_; rintro e9 w9 ⟨v, k9, rfl, rfl, hv⟩; cases v; clear hv; rotate_left; have hN : Hid (Nice (cn (b k))) := Lib.hid ⟨(hv rfl).1, .inr (in_range (.inl rfl) (hv rfl).1 (hv rfl).2.1 (hv rfl).2.2)⟩; clear hv)
          | ((with_reducible show wpList _ _ _ (⟨some 48, _, _, _, _, _⟩ :: _) _ _); refine wpl_push2 (w0 := w1) rfl _ _ 24 26 (.float .f64 0) 8 rfl Try.underlying24 info26 rfl w1.heap.size (.slice A6 k c6) k _ (fl fun j => cn (b j)) (.float .f64 (cn (b k))) rfl rfl ((HT.out.drewN _).alloc _).b6 ((HT.out.drewN _).alloc _).bel ?_ rfl rfl ?_ (by omega) ?_; exact cell_one _ _ _; omega; intro A6' c6' w6 hb6 hg6 hor6 hbel6 hk6 hc6; have T1 := Lib.hid (((HT.out.drewN _).alloc _).push6 hb6 hg6 hor6 hbel6); clear hb6 hg6 hor6 hbel6)
          | (go_at_call 21; refine (PW.out _).mono ?_; rintro e7 w7 ⟨rfl, rfl⟩)
          | ((with_reducible show wpList _ _ _ (⟨some 53, _, _, _, _, _⟩ :: _) _ _); refine wpList_fop rfl .mul 26 26 _ _ rfl rfl _ _ rfl rfl ?_; intro r5 m5 hr5 hc5; obtain rfl := gS_res (g := fun j => cn (b j)) (j := k) (elem_scaled hN.out.1 he hN.out.2).1 hc5; clear hr5 hc5)
          | ((with_reducible show wpList _ _ _ (⟨some 55, _, _, _, _, _⟩ :: _) _ _); refine wpl_push2 (w0 := w1) rfl _ _ 24 26 (.float .f64 0) 8 rfl Try.underlying24 info26 rfl w1.heap.size (.slice A7 k c7) k _ (fl (gS (fun j => cn (b j)) e)) (.float .f64 (gS (fun j => cn (b j)) e k)) rfl rfl ((T1.out.drewN _).alloc _).b7 ((T1.out.drewN _).alloc _).bel ?_ rfl rfl ?_ (by omega) ?_; exact cell_one _ _ _; omega; intro A7' c7' w8 hb7 hg7 hor7 hbel7 hk7 hc7; have T2 := Lib.hid (((T1.out.drewN _).alloc _).push7 hb7 hg7 hor7 hbel7); clear hb7 hg7 hor7 hbel7))
        all_goals first
          | (go_ret; exact ⟨rfl, below_drewN BR _⟩)
          | exact ⟨⟨k + 1, c6', c7', A6', A7', by omega, by go_num, rfl, rfl, T2, Lib.hid (nice_step (g := fun j => cn (b j)) HN.out hN.out)⟩, by simp [intOf]; omega⟩
    · obtain rfl : k = n := by omega
      have BR := bel_chain hb1 HT.out.bel
      have hf : ∀ j, j < k → fin (cn (b j)) := fun j hj => (HN.out j hj).1
      have hf' := gS_fin (g := fun j => cn (b j)) he HN.out
      have Hx0 := Lib.hid (exact_num (g := fun j => cn (b j)) hf)
      have HL := Lib.hid (fun j (hj : j < k) => (hf j hj).1)
      have HL' := Lib.hid (fun j (hj : j < k) => (hf' j hj).1)
      clear hf hf'
      have hS1 := sum_hS (fun j => cn (b j)) k (by omega)
      have hS2 := sum_hS (gS (fun j => cn (b j)) e) k (by omega)
      have hNl := Lib.hid HN.out
      go_wp2_with (first
        | (go_at_call_of 12 (Value.slice A6 k c6); refine (exact_any A6 k c6 (fun j => cn (b j)) _ ?_ ?_ ?_).mono ?_; exact HL.out; exact HT.out.b6.rs; exact hS1; rintro e5 w5 ⟨r0, rfl, hb0, hv0, hbel0⟩; have H0 := Lib.hid (num_of Hx0.out hv0); have B5 := BR.trans (hbel0.mono BR.size); clear hv0)
        | (go_at_call 21; refine (PW.out _).mono ?_; rintro e7 w7 ⟨rfl, rfl⟩)
        | ((with_reducible show wpList _ _ _ (⟨some 62, _, _, _, _, _⟩ :: _) _ _); refine wpList_fop rfl .mul 26 26 _ _ rfl rfl _ _ rfl rfl ?_; intro r1 m1 hr1 hc1; have hsc := sc_end he hNl.out H0.out hc1; clear hc1; rcases hsc with ⟨t1, t2, t3⟩ | ⟨t2, t3⟩; have T3 := Lib.hid t3; clear t3; rotate_left; have T3 := Lib.hid t3; clear t3; rotate_left)
        | (go_at_call_of 20 (Value.float FloatKind.f64 r0); refine (within_any _ 950 (.inr rfl) hb0 _).mono ?_; rintro e9 w9 ⟨v, k9, rfl, rfl, hvs⟩; cases v)
        | (go_at_call 20; refine (within_any _ 950 (.inr rfl) hr1 _).mono ?_; rintro e9 w9 ⟨v, k8, rfl, rfl, hvt⟩; cases v)
        | (go_at_call 12; refine (exact_any A7 k c7 (gS (fun j => cn (b j)) e) _ ?_ ?_ ?_).mono ?_; exact HL'.out; exact (HT.out.b7.below hbel0).rs.same rfl; exact hS2; rintro e6 w6 ⟨r2, rfl, hb2', hv2, hbel2⟩; have hq : (FloatKind.f64.format.order r2 r1 == some .eq) = true := (by first | exact T3.out r2 hv2 | exact T3.out (hvs trivial) r2 hv2); clear hv2))
      all_goals first
        | (go_ret; exact ⟨rfl, below_drewN B5 _⟩)
        | (go_ret; exact ⟨rfl, (below_drewN B5 _).trans (hbel2.mono (by have := B5.size; simp; omega))⟩)
        | (trace_state; fail)
end Go.Proofs.Ytdfbmfmfhdifpaa
