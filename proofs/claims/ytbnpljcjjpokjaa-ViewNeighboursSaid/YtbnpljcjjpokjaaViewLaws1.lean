/- Two view laws over what a reading of the arguments tells. -/
import Derived.Test.YtbnpljcjjpokjaaView12
namespace Go.Proofs.Ytbnpljcjjpokjaa.viewWalk
open Go.RowKit Go.Proofs.Ytbnpljcjjpokjaa.lib Go.Proofs.Ytbnpljcjjpokjaa.mem
theorem law_ViewIndex (w : World) {A : Option Addr} {n c : Nat} (h : ∃ L : List (Int × Int), n = L.length ∧ n ≤ c ∧ RdM w w.heap.size A L ∧ ∀ i (hi : i < L.length), I64 L[i].1 ∧ I64 L[i].2) :
    Calls Try.prog 4 #[.slice A n c] w fun e w' => e = .returned (.bool true) ∧ Below w.heap.size w w' :=
  let ⟨_, h1, h2, h3, _⟩ := h; walk_ViewIndex w h1 h2 h3 (Nat.le_refl _)
theorem law_ViewNeighbours (w : World) {A : Option Addr} {n c : Nat} (h : ∃ L : List (Int × Int), n = L.length ∧ n ≤ c ∧ RdM w w.heap.size A L ∧ ∀ i (hi : i < L.length), I64 L[i].1 ∧ I64 L[i].2) :
    Calls Try.prog 5 #[.slice A n c] w fun e w' => e = .returned (.bool true) ∧ Below w.heap.size w w' :=
  let ⟨_, h1, h2, h3, _⟩ := h; walk_ViewNeighbours w h1 h2 h3 (Nat.le_refl _)
end Go.Proofs.Ytbnpljcjjpokjaa.viewWalk
