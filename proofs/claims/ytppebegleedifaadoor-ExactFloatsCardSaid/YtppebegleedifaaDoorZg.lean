/- A region that draws its order: the reads are taken first under a condition, the calls keep it, and the tail, which waits for all, need not. -/
import Derived.Test.YtppebegleedifaaDoorZd
import Derived.OrdersHeld
import Derived.StillTail
import Derived.Deep.RegionHeld3
namespace Go.Proofs.YtppebegleedifaaDoor
open Go Go.RowKit

section
variable {P : Program} {ops : Array Oper} {Q : Exit → Act → World → Prop} {md : Region.Mode} {S : World → Prop} {n : Nat}

/-- Whatever order is picked; the condition holds behind each of the first n operations. -/
def wpAnyT (P : Program) (md : Region.Mode) (ops : Array Oper) (Q : Exit → Act → World → Prop) (S : World → Prop) (n : Nat) : Nat → Array Bool → Act → World → Prop
  | 0, listed, a, w => Region.ready md ops listed = [] ∧ Q .normal a w
  | fuel + 1, listed, a, w => (Region.ready md ops listed = [] → Q .normal a w) ∧
    ∀ i ∈ Region.ready md ops listed, wpOp P ops Q i (fun a' w' => (i < n → S w') ∧ wpAnyT P md ops Q S n fuel (listed.setIfInBounds i true) a' w') a w
theorem wpAny_of_T : ∀ (fuel : Nat) (listed : Array Bool) (a : Act) (w : World), wpAnyT P md ops Q S n fuel listed a w → wpAny P md ops Q fuel listed a w
  | 0, _, _, _, h => h
  | fuel + 1, _, _, _, h => ⟨h.1, fun i hi => wpOp_mono (fun a' w' h' => wpAny_of_T fuel _ a' w' h'.2) (h.2 i hi)⟩
theorem wpAnyT_first {i : Nat} {oi : Oper} {v : Value} (hi : ops[i]? = some oi) (hsel : ∀ (j : Nat) (o : Oper) cs b, ops[j]? = some o → o.op ≠ .select cs b)
    (hs : Region.sinkB md ops n = true) (hc : Region.chainB md ops n = true) (hn : n < ops.size) (hin : i < n)
    (hQ : ∀ c a w, Q (.panic c) (a.put oi.dst v) w → Q (.panic c) a w) :
    ∀ (fuel : Nat) (listed : Array Bool) (a : Act) (w : World), HeadInv md ops n listed →
      (∀ j oj, ops[j]? = some oj → j ≠ i → listed.getD j true = false → (∀ e ∈ oj.after, Region.binds md e = true → e.on ≠ i) → oi.apart ops oj = true) →
      i ∈ Region.ready md ops listed → YieldsIf P ops S oi v a → S w →
      wpAnyT P md ops Q S n fuel (listed.setIfInBounds i true) (a.put oi.dst v) w → wpAnyT P md ops Q S n (fuel + 1) listed a w := by
  intro fuel
  induction fuel with
  | zero =>
    intro listed a w _ _ hr hy hS H
    refine ⟨fun h => (by rw [h] at hr; cases hr), fun j hj => ?_⟩
    by_cases hji : j = i
    · subst hji; exact hy.wpOp hi hS ⟨fun _ => hS, H⟩
    · have := ready_mono hj hji
      rw [H.1] at this
      cases this
  | succ fuel ih =>
    intro listed a w inv hfree hr hy hS H
    have hun := (mem_ready.1 hr).1
    refine ⟨fun h => (by rw [h] at hr; cases hr), fun j hj => ?_⟩
    have hjn : j < n := by
      rcases Nat.lt_or_ge j n with h | h
      · exact h
      · exact absurd hj (tail_waits hs hc hn inv _ i rfl hin hun j h)
    by_cases hji : j = i
    · subst hji; exact hy.wpOp hi hS ⟨fun _ => hS, H⟩
    · have h1 := H.2 j (ready_mono hj hji)
      obtain ⟨hjun, oj, hoj, hall⟩ := mem_ready.1 hj
      have hnot : ∀ e ∈ oj.after, Region.binds md e = true → e.on ≠ i := fun e he hb heq => by
        have h1 := hall e he hb
        rw [heq, getD_both hun] at h1
        cases h1
      have h2 := wpOp_putIf hoj (hfree j oj hoj hji hjun hnot) (fun cs b => hsel i oi cs b hi) (fun cs b => hsel j oj cs b hoj) hQ hy h1
      have hfree' : ∀ k ok, ops[k]? = some ok → k ≠ i → (listed.setIfInBounds j true).getD k true = false →
          (∀ e ∈ ok.after, Region.binds md e = true → e.on ≠ i) → oi.apart ops ok = true := fun k ok hk hki hun hno => by
        refine hfree k ok hk hki ?_ hno
        by_cases hjk : j = k
        · subst hjk; exact hjun
        · rw [getD_set_ne true hjk] at hun; exact hun
      refine wpOp_mono (fun a' w' h3 => ⟨h3.2.1, ih (listed.setIfInBounds j true) a' w' (inv.set hj hjn) hfree' (ready_mono hr (Ne.symm hji)) h3.1 (h3.2.1 hjn) ?_⟩) h2
      rw [Array.setIfInBounds_comm _ _ hji]
      exact h3.2.2

theorem wpAnyT_seq : ∀ (l : List Oper) (k : Nat) (listed : Array Bool) (a : Act) (w : World), n ≤ k → (∀ j, l[j]? = ops[k + j]?) →
    Region.seqB md ops l.length k listed = true → wpList P ops Q l a w → wpAnyT P md ops Q S n l.length listed a w
  | [], _, _, _, _, _, _, hB, h => ⟨by simpa [Region.seqB] using hB, h⟩
  | o :: l, k, listed, a, w, hk, hl, hB, h => by
    have h0 : ops[k]? = some o := by simpa using (hl 0).symm
    simp only [List.length_cons, Region.seqB, Bool.and_eq_true, decide_eq_true_eq] at hB
    refine ⟨fun h1 => (by rw [hB.1] at h1; cases h1), fun i hi => ?_⟩
    rw [hB.1] at hi
    have hik : i = k := by simpa using hi
    subst hik
    have hw : wpOp P ops Q i (wpList P ops Q l) a w := by unfold wpOp; simp only [h0]; exact h
    exact wpOp_mono (fun a' w' h' => ⟨fun hlt => absurd hlt (by omega), wpAnyT_seq l (i + 1) _ a' w' (by omega) (fun j => by have := hl (j + 1); simpa [Nat.add_assoc, Nat.add_comm 1 j] using this) hB.2 h'⟩) hw

/-- The reads, each taken first. -/
def readsT (P : Program) (ops : Array Oper) (S : World → Prop) (G : Act → World → Prop) : List Nat → Act → World → Prop
  | [], a, w => G a w
  | i :: l, a, w => ∃ o v, ops[i]? = some o ∧ YieldsIf P ops S o v a ∧ readsT P ops S G l (a.put o.dst v) w
theorem wpOp_list {i : Nat} {o : Oper} {K : Act → World → Prop} {a : Act} {w : World} (hi : ops[i]? = some o) (h : wpList P ops (Exit.then K Q) [o] a w) : wpOp P ops Q i K a w := by
  unfold wpOp
  simp only [hi]
  unfold wpList at h
  split
  · rename_i hw
    rw [if_pos hw] at h
    rcases h with h | h
    · refine .inl ?_
      unfold Oper.wp at h ⊢
      generalize (execOp a.eval o).run P w = r at *
      cases r with
      | ok n w' =>
        cases n <;> simp only [Oper.upon] at h ⊢ <;> exact h
      | halt x w' => cases x <;> simp only [Oper.upon] at h ⊢ <;> exact h
    · exact .inr ⟨h.1, h.2⟩
  · rename_i hw
    rw [if_neg hw] at h
    exact h
theorem wpOp_call {i : Nat} {o : Oper} {K : Act → World → Prop} {a : Act} {w : World} (hi : ops[i]? = some o) (h : ∀ K' : Act → World → Prop, Hid (∀ a w, K a w → K' a w) → wpList P ops (Exit.then K' Q) [o] a w) : wpOp P ops Q i K a w :=
  wpOp_list hi (h K fun _ _ h => h)
/-- The calls, in the one order that is left. -/
def callsT (P : Program) (ops : Array Oper) (Q : Exit → Act → World → Prop) (S : World → Prop) (G : Act → World → Prop) : List Nat → Act → World → Prop
  | [], a, w => G a w
  | i :: l, a, w => wpOp P ops Q i (fun a' w' => S w' ∧ callsT P ops Q S G l a' w') a w
theorem readsT_nil {G : Act → World → Prop} {a : Act} {w : World} (h : G a w) : readsT P ops S G [] a w := h
theorem readsT_cons {G : Act → World → Prop} {a : Act} {w : World} {i : Nat} {l : List Nat} (o : Oper) (v : Value) (hi : ops[i]? = some o) (hw : Region.wanted o (yielded ops a.tmps) = true)
    (hy : ∀ w, S w → (execOp a.eval o).run P w = .ok (.value v) w) (h : readsT P ops S G l (a.put o.dst v) w) : readsT P ops S G (i :: l) a w := ⟨o, v, hi, .inl ⟨hw, hy⟩, h⟩
theorem callsT_nil {G : Act → World → Prop} {a : Act} {w : World} (h : G a w) : callsT P ops Q S G [] a w := h
theorem callsT_cons {G : Act → World → Prop} {a : Act} {w : World} {i : Nat} {l : List Nat} {o : Oper} (hi : ops[i]? = some o)
    (h : ∀ K' : Act → World → Prop, Hid (∀ a w, S w → callsT P ops Q S G l a w → K' a w) → wpList P ops (Exit.then K' Q) [o] a w) : callsT P ops Q S G (i :: l) a w :=
  wpOp_call hi fun K' hK => h K' fun a w hS h' => hK a w ⟨hS, h'⟩
def okCalls (md : Region.Mode) (ops : Array Oper) (n g : Nat) : List Nat → Array Bool → Bool
  | i :: c, listed => decide (i < n) && decide (Region.ready md ops listed = [i]) && okCalls md ops n g c (listed.setIfInBounds i true)
  | [], listed => Region.seqB md ops g n listed
def okReads (md : Region.Mode) (ops : Array Oper) (n g : Nat) (c : List Nat) : List Nat → Array Bool → Bool
  | i :: l, listed => decide (i < n) && (Region.ready md ops listed).contains i && Region.free md ops listed i && okReads md ops n g c l (listed.setIfInBounds i true)
  | [], listed => okCalls md ops n g c listed

theorem okT_calls {l0 : List Oper} (hl0 : ∀ j, l0[j]? = ops[n + j]?) : ∀ (c : List Nat) (listed : Array Bool) (a : Act) (w : World), okCalls md ops n l0.length c listed = true →
    callsT P ops Q S (wpList P ops Q l0) c a w → wpAnyT P md ops Q S n (c.length + l0.length) listed a w
  | [], listed, a, w, hB, h => by
    rw [List.length_nil, Nat.zero_add]
    exact wpAnyT_seq l0 n listed a w (Nat.le_refl _) hl0 (by unfold okCalls at hB; exact hB) h
  | i :: c, listed, a, w, hB, h => by
    simp only [okCalls, Bool.and_eq_true, decide_eq_true_eq] at hB
    obtain ⟨⟨hin, hr⟩, hB'⟩ := hB
    rw [show (i :: c).length + l0.length = (c.length + l0.length) + 1 by simp only [List.length_cons]; omega]
    refine ⟨fun h1 => (by rw [hr] at h1; cases h1), fun j hj => ?_⟩
    rw [hr] at hj
    have hji : j = i := by simpa using hj
    subst hji
    exact wpOp_mono (fun a' w' h' => ⟨fun _ => h'.1, okT_calls hl0 c _ a' w' hB' h'.2⟩) h
theorem okT_reads {l0 : List Oper} (hl0 : ∀ j, l0[j]? = ops[n + j]?) (hsel : Region.noSelect ops = true) (hs : Region.sinkB md ops n = true) (hc : Region.chainB md ops n = true) (hn : n < ops.size)
    (hQ : ∀ c a d v w, Q (.panic c) (Act.put a d v) w → Q (.panic c) a w) (c : List Nat) : ∀ (r : List Nat) (listed : Array Bool) (a : Act) (w : World), HeadInv md ops n listed → okReads md ops n l0.length c r listed = true → S w →
    readsT P ops S (callsT P ops Q S (wpList P ops Q l0) c) r a w → wpAnyT P md ops Q S n (r.length + (c.length + l0.length)) listed a w
  | [], listed, a, w, _, hB, _, h => by
    rw [List.length_nil, Nat.zero_add]
    exact okT_calls hl0 c listed a w hB h
  | i :: r, listed, a, w, inv, hB, hS, h => by
    simp only [okReads, Bool.and_eq_true, decide_eq_true_eq] at hB
    obtain ⟨⟨⟨hin, hr⟩, hf⟩, hB'⟩ := hB
    obtain ⟨o, v, h0, hy, h'⟩ := h
    have hr' : i ∈ Region.ready md ops listed := by simpa using hr
    rw [show (i :: r).length + (c.length + l0.length) = (r.length + (c.length + l0.length)) + 1 by simp only [List.length_cons]; omega]
    exact wpAnyT_first h0 (Region.noSelect_spec hsel) hs hc hn hin (fun c a w => hQ c a _ _ w) _ listed a w inv (Region.free_spec h0 hf) hr' hy hS
      (okT_reads hl0 hsel hs hc hn hQ c r _ _ w (inv.set hr' hin) hB' hS h')

def fitT (ops : Array Oper) (n : Nat) (r c : List Nat) : Bool :=
  Region.noSelect ops && decide (n < ops.size) && Region.sinkB .any ops n && Region.chainB .any ops n && decide (r.length + c.length = n) && okReads .any ops n (ops.size - n) c r (Array.replicate ops.size false)
/-- The law. -/
theorem wp_region_T {id : Nat} {a : Act} {w : World} {l : List Oper} (n : Nat) (r c : List Nat) (S : World → Prop) (hm : P.follows .mixedOrders = true) (hB : fitT l.toArray n r c = true)
    (hQ : ∀ c a d v w, Q (.panic c) (Act.put a d v) w → Q (.panic c) a w) (hS : S w.drew)
    (h : readsT P l.toArray S (callsT P l.toArray Q S (wpList P l.toArray Q (l.drop n)) c) r a w.drew) : (Code.region id l.toArray true).wp P Q a w := by
  simp only [fitT, Bool.and_eq_true, decide_eq_true_eq] at hB
  obtain ⟨⟨⟨⟨⟨hsel, hn⟩, hs⟩, hc⟩, hlen⟩, hok⟩ := hB
  have hn' : n < l.length := by simpa using hn
  have hdl : (l.drop n).length = l.toArray.size - n := by simp
  have inv0 : HeadInv .any l.toArray n (Array.replicate l.toArray.size false) :=
    ⟨by simp, fun j oj _ hl => (by rw [getD_replicate_false] at hl; cases hl), fun t _ ht => getD_in (by simpa using ht) (getD_replicate_false _ _)⟩
  refine wp_region_any hm (wpAny_of_T (S := S) (n := n) _ _ _ _ ?_)
  have := okT_reads (l0 := l.drop n) (fun j => by simp [List.getElem?_drop]) hsel hs hc hn hQ c r _ a w.drew inv0 (by rw [hdl]; exact hok) hS h
  rw [hdl, show r.length + (c.length + (l.toArray.size - n)) = l.toArray.size by omega] at this
  exact this
end
end Go.Proofs.YtppebegleedifaaDoor
