/- ViewAlls over what a reading of the arguments tells. -/
import Derived.Test.YtbnpljcjjpokjaaView14
namespace Go.Proofs.Ytbnpljcjjpokjaa.viewWalk
open Go.RowKit Go.Proofs.Ytbnpljcjjpokjaa.lib Go.Proofs.Ytbnpljcjjpokjaa.mem
theorem law_ViewAlls (w : World) (m : Int × Int) (_hm : I64 m.1 ∧ I64 m.2) (fr bo : Int) {A : Option Addr} {n c : Nat} (h : ∃ L : List (Int × Int), n = L.length ∧ n ≤ c ∧ RdM w w.heap.size A L ∧ ∀ i (hi : i < L.length), I64 L[i].1 ∧ I64 L[i].2) :
    Calls Try.prog 6 #[.slice A n c, mv m, .int .i64 fr, .int .i64 bo] w fun e w' => e = .returned (.bool true) ∧ Below w.heap.size w w' :=
  let ⟨_, h1, h2, h3, _⟩ := h; walk_ViewAlls w m fr bo h1 h2 h3 (Nat.le_refl _)
end Go.Proofs.Ytbnpljcjjpokjaa.viewWalk
