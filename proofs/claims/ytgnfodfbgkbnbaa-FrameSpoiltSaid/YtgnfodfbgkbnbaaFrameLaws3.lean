/- FrameSpoilt over what a reading of the arguments tells. -/
import Derived.Test.YtgnfodfbgkbnbaaFrame9
import Derived.Test.YtgnfodfbgkbnbaaOpen
namespace Go.Proofs.Ytgnfodfbgkbnbaa.frameWalk
open Go.RowKit Go.Proofs.Ytgnfodfbgkbnbaa.lib Go.Proofs.Ytgnfodfbgkbnbaa.byt
theorem law_FrameSpoilt (w : World) (at_ by_ : Int) {A : Option Addr} {n c : Nat} (h : ∃ L : List (List UInt8), n = L.length ∧ n ≤ c ∧ RdBB w w.heap.size A L) (hc : 0 ≤ at_ ∧ at_ ≤ 65535) (hb : 0 ≤ by_ ∧ by_ ≤ 255) :
    Calls Try.prog 11 #[.slice A n c, .int .u16 at_, .int .u8 by_] w fun e w' => e = .returned (.bool true) ∧ Below w.heap.size w w' :=
  let ⟨_, h1, h2, h3⟩ := h; walk_FrameSpoilt w at_ by_ h1 h3 (Nat.le_refl _) h2 hc hb
end Go.Proofs.Ytgnfodfbgkbnbaa.frameWalk
