/- Built slices: cells that are set, slices put behind one another. -/
import Derived.Test.YtdfbmfmfhdifpaaNo
namespace Go.Proofs.Ytdfbmfmfhdifpaa
open Go.RowKit

theorem Bld.block {w : World} {B : Nat} {e : TypeId} {A : Option Addr} {c k : Nat} {F : Nat → Value} (h : Bld w B e (.slice A k c) k F) (hk : 0 < k) :
    ∃ g, A = some ⟨g, 0, none⟩ ∧ B ≤ g ∧ g < w.heap.size := by
  rcases h.own.2 with ⟨_, h0⟩ | ⟨g, cap, cur, hv, hB, hg, _⟩
  · omega
  · injection hv with hv1
    exact ⟨g, hv1, hB, (Array.getElem?_eq_some_iff.1 hg).1⟩
theorem Bld.free {w : World} {B : Nat} {e : TypeId} {g c k : Nat} {F : Nat → Value} (h : Bld w B e (.slice (some ⟨g, 0, none⟩) k c) k F) (j : Nat) : w.frozen? ⟨g, j, none⟩ = false := h.own.frozenAt j
theorem Bld.cell {w : World} {B : Nat} {e : TypeId} {g c k : Nat} {F : Nat → Value} (h : Bld w B e (.slice (some ⟨g, 0, none⟩) k c) k F) (j : Nat) (hj : j < k) : w.cell? ⟨g, j, none⟩ = some (F j) := by
  rw [h.own.cellAt j (by omega)]
  simp [hj]
theorem Bld.set {w : World} {B : Nat} {e : TypeId} {g c k : Nat} {F : Nat → Value} (h : Bld w B e (.slice (some ⟨g, 0, none⟩) k c) k F) (j : Nat) (y : Value) :
    Bld (w.setCell ⟨g, j, none⟩ y) B e (.slice (some ⟨g, 0, none⟩) k c) k (fun i => if i = j then y else F i) := by
  obtain ⟨h1, h2⟩ := h.own.stored j y
  refine ⟨?_, Nat.le_trans h.hB h2.size⟩
  have e1 : ((List.range k).map F).set j y = (List.range k).map (fun i => if i = j then y else F i) := by
    apply List.ext_getElem
    · simp
    · intro i hi1 hi2
      simp only [List.getElem_set, List.getElem_map, List.getElem_range]
      by_cases e : j = i
      · rw [if_pos e, if_pos e.symm]
      · rw [if_neg e, if_neg (fun e' => e e'.symm)]
  rw [← e1]; exact h1
theorem Bld.mono {w : World} {B B' : Nat} {e : TypeId} {v : Value} {k : Nat} {F : Nat → Value} (h : Bld w B e v k F) (hB : B' ≤ B) : Bld w B' e v k F := by
  refine ⟨⟨h.own.1, ?_⟩, Nat.le_trans hB h.hB⟩
  rcases h.own.2 with h2 | ⟨g, cap, cur, h1, h2, h3⟩
  · exact .inl h2
  · exact .inr ⟨g, cap, cur, h1, Nat.le_trans hB h2, h3⟩
theorem bld_one (w : World) (y : Value) (F : Nat → Value) (hF : F 0 = y) : Bld (w.alloc (.cells #[y] 26)) w.heap.size 26 (.slice (some ⟨w.heap.size, 0, none⟩) 1 1) 1 F := by
  refine ⟨⟨by simp, .inr ⟨w.heap.size, 1, #[y], rfl, Nat.le_refl _, heap_alloc_new w _, by omega, by decide, rfl, ?_⟩⟩, by simp⟩
  simp [hF]

section
variable {P : Program} {w w0 : World} {ops : Array Oper} {rest : List Oper} {o : Oper} {a : Act} {Q : Exit → Act → World → Prop}
/-- 'append(s, x...)': what x holds behind what s holds; another built slice, in a block of its own, stays. -/
theorem wpl_cat (hg : o.guard = none) (s x : Operand) (t e : TypeId) (z : Value) (bytes : Nat)
    (ho : o.op = .call { callee := .builtin .append, args := #[s, x], argTypes := #[t, t] })
    (ht : P.underlying t = some (.slice e)) (hinfo : (P.info? e).map (fun i => (i.zero, i.size, i.bytes)) = some (some z, 1, bytes)) (hz : z.cells.size = 1)
    (B : Nat) (v : Value) (k m cx : Nat) (Ax : Option Addr) (F G H : Nat → Value) (hs : a.eval s = v) (hx : a.eval x = .slice Ax m cx) (hm : 0 < m)
    (hbld : Bld w B e v k F) (hbel : Below B w0 w) (hr : RS w Ax m cx G) (hH : (∀ j, j < k → F j = H j) ∧ ∀ j, j < m → G j = H (k + j)) (hH1 : ∀ j, (H j).oneCell' = true)
    (hk : (k + m) * bytes ≤ 140737488355328) (hb1 : 1 ≤ bytes)
    (vE : Value) (kE : Nat) (FE : Nat → Value) (hE : Bld w B e vE kE FE) (hne : ∀ gE, vE.ownBlock = some gE → v.ownBlock ≠ some gE)
    (hK : ∀ A c w', Bld w' B e (.slice A (k + m) c) (k + m) H → Bld w' B e vE kE FE → (∀ gE, vE.ownBlock = some gE → (Value.slice A (k + m) c).ownBlock ≠ some gE) → Below B w0 w' → k + m ≤ c → c ≤ 9223372036854775807 → wpList P ops Q rest (a.put o.dst (.slice A (k + m) c)) w') :
    wpList P ops Q (o :: rest) a w := by
  obtain ⟨i0, hi, hz0, hz1, hz2⟩ := info_parts hinfo
  have hk2 : k + m ≤ 140737488355328 := Nat.le_trans (Nat.le_mul_of_pos_right _ hb1) hk
  obtain ⟨ad, rfl, _⟩ := hr.cell 0 hm
  refine wpList_append_own_at w hg s x t ho B e i0 z 1 bytes ht hi hz0 hz1 hz2 hz (by decide) v k _ hs hbld.own ad m cx ((List.range m).map G) hx (by simp) ?_ ?_ (by unfold maxLen; omega) hk hbld.hB ?_
  · intro j u hj
    simp only [List.getElem?_map] at hj
    rcases Nat.lt_or_ge j m with hjm | hjm
    · rw [List.getElem?_range hjm] at hj
      simp at hj
      subst hj
      obtain ⟨ad', e1, hc⟩ := hr.cell j hjm
      injection e1 with e1
      subst e1
      exact hc
    · rw [List.getElem?_eq_none (by simpa using hjm)] at hj
      simp at hj
  · intro u hu
    simp only [List.mem_map, List.mem_range] at hu
    obtain ⟨j, hj, rfl⟩ := hu
    rw [hH.2 j hj]; exact hH1 _
  · intro v' w' hown hgrow _ hor
    have e1 : (List.range k).map F ++ (List.range m).map G = (List.range (k + m)).map H := by
      rw [List.range_add, List.map_append, List.map_map]
      congr 1
      · exact List.map_congr_left fun j hj => hH.1 j (List.mem_range.1 hj)
      · exact List.map_congr_left fun j hj => hH.2 j (List.mem_range.1 hj)
    rw [e1] at hown
    have hB' : B ≤ w'.heap.size := Nat.le_trans hbld.hB hgrow.size
    have hb2 : Bld w' B e v' (k + m) H := ⟨hown, hB'⟩
    have hEk : Bld w' B e vE kE FE := by
      refine ⟨hE.own.kept hgrow ?_, hB'⟩
      cases hv : vE.ownBlock with
      | none => exact .inl rfl
      | some gE => exact .inr fun e' => hne gE hv e'.symm
    have hne' : ∀ gE, vE.ownBlock = some gE → v'.ownBlock ≠ some gE := by
      intro gE hgE hc
      rcases hor with h1 | h1
      · rw [h1] at hc; exact hne gE hgE hc
      · rw [h1] at hc
        injection hc with hc
        have := (hE.own.lt gE hgE).2
        omega
    obtain ⟨A, c, rfl, h1, h2⟩ := hb2.shape
    exact hK A c w' hb2 hEk hne' (hbel.grown hgrow hbld.hB hbld.base) h1 h2
end
end Go.Proofs.Ytdfbmfmfhdifpaa
