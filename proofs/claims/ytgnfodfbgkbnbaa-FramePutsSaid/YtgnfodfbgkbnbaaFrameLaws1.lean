/- FrameScans and FramePuts over what a reading of the arguments tells. -/
import Derived.Test.YtgnfodfbgkbnbaaFrame6
import Derived.Test.YtgnfodfbgkbnbaaOpen
namespace Go.Proofs.Ytgnfodfbgkbnbaa.frameWalk
open Go.RowKit Go.Proofs.Ytgnfodfbgkbnbaa.lib Go.Proofs.Ytgnfodfbgkbnbaa.byt
theorem law_FrameScans (w : World) {A : Option Addr} {n c : Nat} (h : ∃ bs : List UInt8, n = bs.length ∧ n ≤ c ∧ RdB w w.heap.size A bs) :
    Calls Try.prog 8 #[.slice A n c] w fun e w' => e = .returned (.bool true) ∧ Below w.heap.size w w' :=
  let ⟨_, h1, h2, h3⟩ := h; walk_FrameScans w h1 h3 (Nat.le_refl _) h2
theorem law_FramePuts (w : World) {A A2 : Option Addr} {n c n2 c2 : Nat} (h : ∃ bs : List UInt8, n = bs.length ∧ n ≤ c ∧ RdB w w.heap.size A bs) (h' : ∃ bs : List UInt8, n2 = bs.length ∧ n2 ≤ c2 ∧ RdB w w.heap.size A2 bs) :
    Calls Try.prog 7 #[.slice A n c, .slice A2 n2 c2] w fun e w' => e = .returned (.bool true) ∧ Below w.heap.size w w' :=
  let ⟨_, h1, _, h3⟩ := h; let ⟨_, h1', _, h3'⟩ := h'; walk_FramePuts w h1 h3 (Nat.le_refl _) h1' h3' (Nat.le_refl _)
end Go.Proofs.Ytgnfodfbgkbnbaa.frameWalk
