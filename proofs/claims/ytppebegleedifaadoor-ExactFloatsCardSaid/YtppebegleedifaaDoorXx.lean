/- Small. -/
import Derived.Test.YtppebegleedifaaDoorXu
import Derived.Test.YtppebegleedifaaDoorXv
import Derived.Test.YtppebegleedifaaDoorXw
namespace Go.Proofs.YtppebegleedifaaDoor
open Go.RowKit
theorem small_any (A : Option Addr) (n c : Nat) (A' : Option Addr) (c' : Nat) (x y : Nat → Int) (ea : Nat → Addr) (w : World) (hr : RS w A n c (iw x)) (hr' : RS w A' n c' (iw y)) (hx : ∀ i, i64B (x i)) (hy : ∀ j, i64B (y j)) (hE : Ers w (eV ea)) (hn : n = 1 ∨ n = 2 ∨ n = 4) :
    Calls Tryd.prog 22 #[.slice A n c, .slice A' n c'] w (SR ea n x y w) := by
  rcases hn with rfl | rfl | rfl
  · exact small_Xu A 1 c A' c' x y ea w hr hr' hx hy hE (by decide) (by decide) rfl
  · exact small_Xv A 2 c A' c' x y ea w hr hr' hx hy hE (by decide) (by decide) rfl rfl
  · exact small_Xw A 4 c A' c' x y ea w hr hr' hx hy hE (by decide) (by decide) rfl rfl rfl
end Go.Proofs.YtppebegleedifaaDoor
