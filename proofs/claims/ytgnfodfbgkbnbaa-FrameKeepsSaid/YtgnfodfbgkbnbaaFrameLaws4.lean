/- FrameKeeps over what a reading of the arguments tells. -/
import Derived.Test.YtgnfodfbgkbnbaaFrame10
import Derived.Test.YtgnfodfbgkbnbaaOpen
namespace Go.Proofs.Ytgnfodfbgkbnbaa.frameWalk
open Go.RowKit Go.Proofs.Ytgnfodfbgkbnbaa.lib Go.Proofs.Ytgnfodfbgkbnbaa.byt
theorem law_FrameKeeps (w : World) {A : Option Addr} {n c : Nat} (h : ∃ L : List (List UInt8), n = L.length ∧ n ≤ c ∧ RdBB w w.heap.size A L) :
    Calls Try.prog 12 #[.slice A n c] w fun e w' => e = .returned (.bool true) ∧ Below w.heap.size w w' :=
  let ⟨_, h1, _, h3⟩ := h; walk_FrameKeeps w h1 h3 (Nat.le_refl _)
end Go.Proofs.Ytgnfodfbgkbnbaa.frameWalk
