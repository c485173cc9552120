/- PlaceLead over what a reading of the arguments tells. -/
import Derived.Test.YtbnpljcjjpokjaaPlace12
namespace Go.Proofs.Ytbnpljcjjpokjaa.placeWalk
open Go.RowKit Go.Proofs.Ytbnpljcjjpokjaa.lib Go.Proofs.Ytbnpljcjjpokjaa.mem
theorem law_PlaceLead (w : World) (a : Int) (ha : 0 ≤ a ∧ a ≤ 255) {A : Option Addr} {n c : Nat} (h : ∃ L : List (Int × Int), n = L.length ∧ n ≤ c ∧ RdM w w.heap.size A L ∧ ∀ i (hi : i < L.length), I64 L[i].1 ∧ I64 L[i].2) :
    Calls Try.prog 9 #[.slice A n c, .int .u8 a] w fun e w' => e = .returned (.bool true) ∧ Below w.heap.size w w' :=
  let ⟨_, h1, h2, h3, _⟩ := h; walk_PlaceLead w a ha h1 h2 h3 (Nat.le_refl _)
end Go.Proofs.Ytbnpljcjjpokjaa.placeWalk
