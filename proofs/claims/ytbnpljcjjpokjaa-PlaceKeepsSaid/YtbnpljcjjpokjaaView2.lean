/- What view's Head, Behind, Ahead answer. -/
import Derived.Test.YtbnpljcjjpokjaaView
import Derived.Laws.ResultCell
namespace Go.Proofs.Ytbnpljcjjpokjaa.viewWalk
open Go.RowKit Go.Proofs.Ytbnpljcjjpokjaa.lib Go.Proofs.Ytbnpljcjjpokjaa.mem

def headM (L : List (Int × Int)) : (Int × Int) × Bool := match L with
  | [] => ((0, 0), false)
  | m :: _ => (m, true)
theorem head_any (w : World) {B : Nat} {A : Option Addr} {n c : Nat} {L : List (Int × Int)} (hn : n = L.length) (hr : RdM w B A L) :
    Calls Try.prog 16 #[.slice A n c] w fun e w' => e = .returned (.tuple #[mv (headM L).1, .bool (headM L).2]) ∧ Below w.heap.size w w' := by
  rcases L with _ | ⟨m, L⟩
  · subst hn
    go_enter Try.func16, Try.ntmps16
    go_wp2_with fail
    refine bodyPost_ret (v := .tuple #[mv (headM _).1, .bool (headM _).2]) ?_ rfl ⟨rfl, ?_⟩
    · rw [results_cell_tmp rfl]
      go_simp
      first | done | rfl | simp [mv, headM]
    · exact (Below.refl _ _).alloc (Nat.le_refl _) _
  · obtain ⟨ad, rfl, -, hc1, hc2⟩ := RdM.at_ hr (k := 0) (by simp)
    simp only [List.length_cons] at hn
    obtain ⟨q, rfl⟩ : ∃ q, n = q + 1 := ⟨L.length, hn⟩
    have e0 : ad.add 0 = ad := by simp [Addr.add]
    rw [Nat.zero_mul, e0] at hc1 hc2
    simp only [List.getElem_cons_zero] at hc1 hc2
    have hca : ∀ o, (w.alloc o).cell? ad = some (.int .i64 m.1) := fun o => Go.Lib.cell?_alloc_marked o hc1
    have hcb : ∀ o, (w.alloc o).cell? ⟨ad.block, ad.off + 1, none⟩ = some (.int .i64 m.2) := fun o => Go.Lib.cell?_alloc_marked o hc2
    clear hn e0 hc1 hc2
    have q1 : ((q : Int) + 1 == 0) = false := by simp only [beq_eq_false_iff_ne, ne_eq]; omega
    go_enter Try.func16, Try.ntmps16
    go_wp2_with fail
    refine bodyPost_ret (v := .tuple #[mv (headM (m :: L)).1, .bool (headM (m :: L)).2]) ?_ rfl ⟨rfl, ?_⟩
    · rw [results_cell_tmp rfl]
      go_simp
      first | done | rfl | simp [mv, headM]
    · first | exact ((Below.refl _ _).alloc (Nat.le_refl _) _).setCell (by simp) _ | exact (Below.refl _ _).alloc (Nat.le_refl _) _
end Go.Proofs.Ytbnpljcjjpokjaa.viewWalk
