/- Two rows made in whatever order: words for the document's Do. -/
import Derived.Test.YtjipjfionelpkaaDk24
import Derived.Test.YtjipjfionelpkaaTail2
namespace Go.Proofs.Ytjipjfionelpkaa.dk
open Go.RowKit Go.Proofs.Ytjipjfionelpkaa.lib Go.Proofs.Ytjipjfionelpkaa.byt
set_option linter.unusedVariables false

section
variable {AL : Option Addr} {nL cL : Nat} {HL : List Ah} (k ar x y : Int) {v : Value}
theorem row_reads (w : World) {g1 : Nat} (hg : w.heap[g1]? = some (.cells #[.int .u8 k, .int .i64 ar, v, .int .i64 x, .int .i64 y] 39 (0, 0))) : Reads w w.heap.size 5 (some ⟨g1, 0, none⟩) 1 (acV [(k, ar, v, x, y)]) := by
  refine ⟨rfl, fun _ => ⟨_, rfl, (Array.getElem?_eq_some_iff.1 hg).1, fun j u hu => ?_⟩⟩
  rw [add_at, cell_of_row _ g1 j _ _ (0, 0) hg]
  simpa [acV] using hu
theorem two_core (W : World) {base g0 g1 : Nat} (h0 : W.heap[g0]? = some (.cells #[] 39 (0, 0))) (h1 : W.heap[g1]? = some (.cells #[.int .u8 k, .int .i64 ar, v, .int .i64 x, .int .i64 y] 39 (0, 0))) (hne : g0 ≠ g1) (hb0 : base ≤ g0) (hb1 : base ≤ g1) (hv : v.oneCell' = true) (hr : Reads W W.heap.size 5 AL nL (acV HL)) (hone : ∀ u ∈ acV HL, u.oneCell' = true) (hs : nL ≤ 1000000000) :
    ∃ A2 c2 w2 A3 c3 w3, (Builtin.append_ #[33, 33] 33 #[.slice (some ⟨g0, 0, none⟩) (0) (0), .slice (AL) (nL) (cL)]).run Try.prog (W) = .ok (.slice A2 nL c2) w2 ∧ (Builtin.append_ #[33, 33] 33 #[.slice (A2) (nL) (c2), .slice (some ⟨g1, 0, none⟩) (1) (1)]).run Try.prog (w2) = .ok (.slice A3 (nL + 1) c3) w3 ∧ w3.ownsRow base 39 5 (.slice A3 (nL + 1) c3) (nL + 1) (acV (HL ++ [(k, ar, v, x, y)])) ∧ Below base W w2 ∧ Below base W w3 := by
  have hg0 : g0 < W.heap.size := (Array.getElem?_eq_some_iff.1 h0).1
  have hg1 : g1 < W.heap.size := (Array.getElem?_eq_some_iff.1 h1).1
  obtain ⟨A2, c2, w2, hrun, ho, hu, hb⟩ := append_ac W base (n := 0) (c := 0) (H := []) (ownA_at h0 hb0) (c2 := cL) hr hone (by omega) (by omega)
  simp only [List.nil_append, Nat.zero_add] at hrun ho
  have h1' : w2.heap[g1]? = _ := (hu.grown.block g1 hg1 (fun e => hne (by simpa using e.symm))).trans h1
  obtain ⟨A3, c3, w3, hrun2, ho2, _, hb2⟩ := append_ac w2 base ho (c2 := 1) (row_reads k ar x y w2 h1') (by intro u hu; simp [acV] at hu; rcases hu with rfl | rfl | rfl | rfl | rfl <;> first | rfl | exact hv) (by omega) (by have := hb.size; omega)
  exact ⟨A2, c2, w2, A3, c3, w3, hrun, hrun2, ho2, hb, hb.trans hb2⟩
/-- The empty row, the copy, then the act's own row. -/
theorem order_A1 (V : World) (hv : v.oneCell' = true) (hr : Reads V V.heap.size 5 AL nL (acV HL)) (hone : ∀ u ∈ acV HL, u.oneCell' = true) (hs : nL ≤ 1000000000) :
    ∃ A2 c2 w2 A3 c3 w3, (Builtin.append_ #[33, 33] 33 #[.slice (some ⟨V.heap.size, 0, none⟩) (0) (0), .slice (AL) (nL) (cL)]).run Try.prog (V.alloc (.cells #[] 39)) = .ok (.slice A2 nL c2) w2 ∧ (Builtin.append_ #[33, 33] 33 #[.slice (A2) (nL) (c2), .slice (some ⟨w2.heap.size, 0, none⟩) (1) (1)]).run Try.prog (w2.alloc (.cells #[.int .u8 k, .int .i64 ar, v, .int .i64 x, .int .i64 y] 39)) = .ok (.slice A3 (nL + 1) c3) w3 ∧ w3.ownsRow V.heap.size 39 5 (.slice A3 (nL + 1) c3) (nL + 1) (acV (HL ++ [(k, ar, v, x, y)])) ∧ Below V.heap.size V w2 ∧ Below V.heap.size V w3 := by
  have hb0 : Below V.heap.size V (V.alloc (.cells #[] 39)) := (Below.refl _ _).alloc (Nat.le_refl _) _
  obtain ⟨A2, c2, w2, hrun, ho, hb⟩ := append_copyA (V.alloc (.cells #[] 39)) (g := V.heap.size) (base := V.heap.size) (heap_alloc_new V _) (Nat.le_refl _) (c := cL) (hr.below hb0) hone (by omega)
  have hb2 := hb0.trans hb
  obtain ⟨A3, c3, w3, hrun2, ho2, _, _, hb3⟩ := append_one_ac w2 V.heap.size ho hb2.size k ar x y v hv (by omega)
  exact ⟨A2, c2, w2, A3, c3, w3, hrun, hrun2, ho2, hb2, hb2.trans hb3⟩
theorem order_A2 (V : World) (hv : v.oneCell' = true) (hr : Reads V V.heap.size 5 AL nL (acV HL)) (hone : ∀ u ∈ acV HL, u.oneCell' = true) (hs : nL ≤ 1000000000) :
    ∃ A2 c2 w2 A3 c3 w3, (Builtin.append_ #[33, 33] 33 #[.slice (some ⟨V.heap.size, 0, none⟩) (0) (0), .slice (AL) (nL) (cL)]).run Try.prog ((V.alloc (.cells #[] 39)).alloc (.cells #[.int .u8 k, .int .i64 ar, v, .int .i64 x, .int .i64 y] 39)) = .ok (.slice A2 nL c2) w2 ∧ (Builtin.append_ #[33, 33] 33 #[.slice (A2) (nL) (c2), .slice (some ⟨V.heap.size + 1, 0, none⟩) (1) (1)]).run Try.prog (w2) = .ok (.slice A3 (nL + 1) c3) w3 ∧ w3.ownsRow V.heap.size 39 5 (.slice A3 (nL + 1) c3) (nL + 1) (acV (HL ++ [(k, ar, v, x, y)])) ∧ Below V.heap.size V w2 ∧ Below V.heap.size V w3 := by
  have e1 : (V.alloc (.cells #[] 39)).heap.size = V.heap.size + 1 := by simp
  have hb0 : Below V.heap.size V ((V.alloc (.cells #[] 39)).alloc (.cells #[.int .u8 k, .int .i64 ar, v, .int .i64 x, .int .i64 y] 39)) := ((Below.refl _ _).alloc (Nat.le_refl _) _).alloc (by omega) _
  have h0 : ((V.alloc (.cells #[] 39)).alloc (.cells #[.int .u8 k, .int .i64 ar, v, .int .i64 x, .int .i64 y] 39)).heap[V.heap.size]? = some (.cells #[] 39 (0, 0)) := (Below.heap_alloc _ _ _ (by omega)).trans (heap_alloc_new V _)
  have h1 : ((V.alloc (.cells #[] 39)).alloc (.cells #[.int .u8 k, .int .i64 ar, v, .int .i64 x, .int .i64 y] 39)).heap[V.heap.size + 1]? = some (.cells #[.int .u8 k, .int .i64 ar, v, .int .i64 x, .int .i64 y] 39 (0, 0)) := by
    rw [← e1]
    exact heap_alloc_new _ _
  obtain ⟨A2, c2, w2, A3, c3, w3, r1, r2, ho, b2, b3⟩ := two_core k ar x y _ h0 h1 (by omega) (Nat.le_refl _) (by omega) (cL := cL) hv ((hr.below hb0).more hb0.size) hone hs
  exact ⟨A2, c2, w2, A3, c3, w3, r1, r2, ho, hb0.trans b2, hb0.trans b3⟩
theorem order_B (V : World) (hv : v.oneCell' = true) (hr : Reads V V.heap.size 5 AL nL (acV HL)) (hone : ∀ u ∈ acV HL, u.oneCell' = true) (hs : nL ≤ 1000000000) :
    ∃ A2 c2 w2 A3 c3 w3, (Builtin.append_ #[33, 33] 33 #[.slice (some ⟨V.heap.size + 1, 0, none⟩) (0) (0), .slice (AL) (nL) (cL)]).run Try.prog ((V.alloc (.cells #[.int .u8 k, .int .i64 ar, v, .int .i64 x, .int .i64 y] 39)).alloc (.cells #[] 39)) = .ok (.slice A2 nL c2) w2 ∧ (Builtin.append_ #[33, 33] 33 #[.slice (A2) (nL) (c2), .slice (some ⟨V.heap.size, 0, none⟩) (1) (1)]).run Try.prog (w2) = .ok (.slice A3 (nL + 1) c3) w3 ∧ w3.ownsRow V.heap.size 39 5 (.slice A3 (nL + 1) c3) (nL + 1) (acV (HL ++ [(k, ar, v, x, y)])) ∧ Below V.heap.size V w2 ∧ Below V.heap.size V w3 := by
  have e1 : (V.alloc (.cells #[.int .u8 k, .int .i64 ar, v, .int .i64 x, .int .i64 y] 39)).heap.size = V.heap.size + 1 := by simp
  have hb0 : Below V.heap.size V ((V.alloc (.cells #[.int .u8 k, .int .i64 ar, v, .int .i64 x, .int .i64 y] 39)).alloc (.cells #[] 39)) := ((Below.refl _ _).alloc (Nat.le_refl _) _).alloc (by omega) _
  have h1 : ((V.alloc (.cells #[.int .u8 k, .int .i64 ar, v, .int .i64 x, .int .i64 y] 39)).alloc (.cells #[] 39)).heap[V.heap.size]? = some (.cells #[.int .u8 k, .int .i64 ar, v, .int .i64 x, .int .i64 y] 39 (0, 0)) := (Below.heap_alloc _ _ _ (by omega)).trans (heap_alloc_new V _)
  have h0 : ((V.alloc (.cells #[.int .u8 k, .int .i64 ar, v, .int .i64 x, .int .i64 y] 39)).alloc (.cells #[] 39)).heap[V.heap.size + 1]? = some (.cells #[] 39 (0, 0)) := by
    rw [← e1]
    exact heap_alloc_new _ _
  obtain ⟨A2, c2, w2, A3, c3, w3, r1, r2, ho, b2, b3⟩ := two_core k ar x y _ h0 h1 (by omega) (by omega) (Nat.le_refl _) (cL := cL) hv ((hr.below hb0).more hb0.size) hone hs
  exact ⟨A2, c2, w2, A3, c3, w3, r1, r2, ho, hb0.trans b2, hb0.trans b3⟩
end
end Go.Proofs.Ytjipjfionelpkaa.dk
