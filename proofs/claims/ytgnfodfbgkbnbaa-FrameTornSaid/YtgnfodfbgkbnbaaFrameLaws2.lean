/- FrameTorn over what a reading of the arguments tells. -/
import Derived.Test.YtgnfodfbgkbnbaaFrame8
import Derived.Test.YtgnfodfbgkbnbaaOpen
namespace Go.Proofs.Ytgnfodfbgkbnbaa.frameWalk
open Go.RowKit Go.Proofs.Ytgnfodfbgkbnbaa.lib Go.Proofs.Ytgnfodfbgkbnbaa.byt
theorem law_FrameTorn (w : World) (cut : Int) {A : Option Addr} {n c : Nat} (h : ∃ L : List (List UInt8), n = L.length ∧ n ≤ c ∧ RdBB w w.heap.size A L) (hc : 0 ≤ cut ∧ cut ≤ 65535) :
    Calls Try.prog 9 #[.slice A n c, .int .u16 cut] w fun e w' => e = .returned (.bool true) ∧ Below w.heap.size w w' :=
  let ⟨_, h1, h2, h3⟩ := h; walk_FrameTorn w cut h1 h3 (Nat.le_refl _) h2 hc
end Go.Proofs.Ytgnfodfbgkbnbaa.frameWalk
