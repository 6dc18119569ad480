/- ExactRules: the walk, all cases. -/
import Derived.Test.YtppebegleedifaaDoorYm
import Derived.Test.YtppebegleedifaaDoorYn
import Derived.Test.YtppebegleedifaaDoorYo
namespace Go.Proofs.YtppebegleedifaaDoor
open Go.RowKit
theorem rules_any (A : Option Addr) (n c : Nat) (A' : Option Addr) (m c' : Nat) (A'' : Option Addr) (k c'' : Nat) (x y z : Nat → Int) (a : Nat → Addr) (w : World) (hr : RS w A n c (iw x)) (hr' : RS w A' m c' (iw y)) (hr'' : RS w A'' k c'' (iw z)) (hx : ∀ i, i64B (x i)) (hy : ∀ j, i64B (y j)) (hz : ∀ j, i64B (z j)) (hE : ErA w a) :
    Calls Tryd.prog 8 #[.slice A n c, .slice A' m c', .slice A'' k c''] w fun e w' => e = .returned (.bool true) ∧ Nx w w' := by
  by_cases hg : n = 0 ∨ 200 < n ∨ 200 < m
  · exact rules_guard A n c A' m c' A'' k c'' x y z a w hr hr' hr'' hx hy hz hE hg
  have hn : 1 ≤ n ∧ n ≤ 200 := by omega
  have hm : m ≤ 200 := by omega
  by_cases h0 : min m k = 0
  · exact rules_zero A n c A' m c' A'' k c'' x y z a w hr hr' hr'' hx hy hz hE hn hm h0
  have hN0 : 1 ≤ min m k := by omega
  have hN2 : 1 ≤ min m k ∧ min m k ≤ 200 := by omega
  rcases lin_small (x := x) (y := y) hn hN2 with ⟨e1, _⟩ | ⟨e1, _⟩
  · rcases lin_small (x := x) (y := z) hn hN2 with ⟨e2, _⟩ | ⟨e2, _⟩
    · cases hok : allFit (fun j => y j + z j) (min m k)
      · exact rules_f4 A n c A' m c' A'' k c'' x y z a w hr hr' hr'' hx hy hz hE hn hm hN0 e1 e2 hok
      · rcases lin_small (x := x) (y := cutF (fun j => y j + z j) (min m k)) hn hN2 with ⟨e3, _⟩ | ⟨e3, _⟩
        · exact rules_f5 A n c A' m c' A'' k c'' x y z a w hr hr' hr'' hx hy hz hE hn hm hN0 e1 e2 hok e3
        · exact rules_f6 A n c A' m c' A'' k c'' x y z a w hr hr' hr'' hx hy hz hE hn hm hN0 e1 e2 hok e3
    · exact rules_f3 A n c A' m c' A'' k c'' x y z a w hr hr' hr'' hx hy hz hE hn hm hN0 e1 e2
  · rcases lin_small (x := x) (y := z) hn hN2 with ⟨e2, _⟩ | ⟨e2, _⟩
    · exact rules_f2 A n c A' m c' A'' k c'' x y z a w hr hr' hr'' hx hy hz hE hn hm hN0 e1 e2
    · exact rules_f1 A n c A' m c' A'' k c'' x y z a w hr hr' hr'' hx hy hz hE hn hm hN0 e1 e2
end Go.Proofs.YtppebegleedifaaDoor
