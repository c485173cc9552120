/- FrameAgain over what a reading of the arguments tells. -/
import Derived.Test.YtgnfodfbgkbnbaaFrameAgain
import Derived.Test.YtgnfodfbgkbnbaaOpen
namespace Go.Proofs.Ytgnfodfbgkbnbaa.frameWalk
open Go.RowKit Go.Proofs.Ytgnfodfbgkbnbaa.lib Go.Proofs.Ytgnfodfbgkbnbaa.byt
theorem law_FrameAgain (w : World) {A : Option Addr} {n c : Nat} (h : ∃ bs : List UInt8, n = bs.length ∧ n ≤ c ∧ RdB w w.heap.size A bs) :
    Calls Try.prog 10 #[.slice A n c] w fun e w' => e = .returned (.bool true) ∧ Below w.heap.size w w' :=
  let ⟨_, h1, h2, h3⟩ := h; walk_FrameAgain w h1 h3 (Nat.le_refl _) h2
end Go.Proofs.Ytgnfodfbgkbnbaa.frameWalk
