/- PlaceKeeps over what a reading of the arguments tells. -/
import Derived.Test.YtbnpljcjjpokjaaPlace14
namespace Go.Proofs.Ytbnpljcjjpokjaa.placeWalk
open Go.RowKit Go.Proofs.Ytbnpljcjjpokjaa.lib Go.Proofs.Ytbnpljcjjpokjaa.mem
theorem law_PlaceKeeps (w : World) (s : Int) (hs : I64 s) (cnt : Int) {A A2 : Option Addr} {n c n2 c2 : Nat} (h : ∃ L : List (Int × Int), n = L.length ∧ n ≤ c ∧ RdM w w.heap.size A L ∧ ∀ i (hi : i < L.length), I64 L[i].1 ∧ I64 L[i].2)
    (h' : ∃ L : List (Int × Int), n2 = L.length ∧ n2 ≤ c2 ∧ RdM w w.heap.size A2 L ∧ ∀ i (hi : i < L.length), I64 L[i].1 ∧ I64 L[i].2) :
    Calls Try.prog 8 #[.int .i64 s, .slice A n c, .slice A2 n2 c2, .int .i64 cnt] w fun e w' => e = .returned (.bool true) ∧ Below w.heap.size w w' :=
  let ⟨_, h1, _, h3, _⟩ := h; let ⟨_, g1, _, g3, _⟩ := h'; walk_PlaceKeeps w s cnt hs h1 h3 g1 g3 (Nat.le_refl _)
end Go.Proofs.Ytbnpljcjjpokjaa.placeWalk
