/- Words for the law DiskClones: the other disk, and what it was. -/
import Derived.Test.YtjipjfionelpkaaDk28
namespace Go.Proofs.Ytjipjfionelpkaa.dk
open Go.RowKit Go.Proofs.Ytjipjfionelpkaa.lib Go.Proofs.Ytjipjfionelpkaa.byt
set_option linter.unusedVariables false

/-- Beside a pair (F2, G2, the document's disk in q): the disk d, which was cloned, and what it was, in q2. -/
structure Side (w : World) (F1 G1 F2 G2 : Nat → Prop) (d q q2 : Nat) (s0 : DS) (r0 : RS) (AS : Option Addr) (cS : Nat) (AL : Option Addr) (cL : Nat) : Prop where
  disk : DiskM w F1 G1 d s0
  bes : Beside w F1 G1 F2 G2
  safe : RdA w (less F2 q) AS r0.safe
  loose : RdA w (less F2 q) AL r0.loose
  cell : w.heap[q2]? = some (.cells #[.slice AS r0.safe.length cS, .slice AL r0.loose.length cL, .int .i64 r0.left, .bool r0.armed, .bool r0.down] 36 (0, 0))
  f2lt : ∀ b, F2 b → b < w.heap.size
  q2_in : F2 q2
  ne : q2 ≠ q
  g1q : G1 q
section
variable {w w' : World} {F1 G1 F2 G2 : Nat → Prop} {d q q2 : Nat} {s0 : DS} {r0 : RS} {AS AL : Option Addr} {cS cL : Nat}
theorem Beside.plus4 (h : Beside w F1 G1 F2 G2) (hs : w.heap.size ≤ w'.heap.size) : Beside w' (plus w w' F1) (plus w w' G1) (plus w w' F2) (plus w w' G2) := fun b hb => by
  by_cases hlt : b < w.heap.size
  · exact ⟨(h b hlt).1.imp (fun x => ⟨hb, .inl x⟩) (fun x => ⟨hb, .inl x⟩), (h b hlt).2.imp (fun x => ⟨hb, .inl x⟩) (fun x => ⟨hb, .inl x⟩)⟩
  · exact ⟨.inl ⟨hb, .inr (by omega)⟩, .inl ⟨hb, .inr (by omega)⟩⟩
/-- The clone has acted. -/
theorem Side.play (h : Side w F1 G1 F2 G2 d q q2 s0 r0 AS cS AL cL) (hb : BelF F2 w w') : Side w' (plus w w' F1) (plus w w' G1) F2 G2 d q q2 s0 r0 AS cS AL cL := by
  have hl := h.disk.lt.2.2
  refine ⟨h.disk.other hb fun b hlt => (h.bes b hlt).2, h.bes.act hb.size, h.safe.bel (hb.mono fun b hb => hb.1), h.loose.bel (hb.mono fun b hb => hb.1), (hb.block q2 (h.f2lt _ h.q2_in) h.q2_in).trans h.cell, fun b hf => Nat.lt_of_lt_of_le (h.f2lt b hf) hb.size, h.q2_in, h.ne, ⟨Nat.lt_of_lt_of_le (hl.2 _ (hl.1 _ h.g1q)) hb.size, .inl h.g1q⟩⟩
/-- Memory has come that is of none. -/
theorem Side.below (h : Side w F1 G1 F2 G2 d q q2 s0 r0 AS cS AL cL) (hb : Below w.heap.size w w') : Side w' (plus w w' F1) (plus w w' G1) (plus w w' F2) (plus w w' G2) d q q2 s0 r0 AS cS AL cL := by
  have hl := h.disk.lt.2.2
  have hsub : ∀ b, less F2 q b → less (plus w w' F2) q b := fun b hb' => ⟨plus_of hb.size h.f2lt hb'.1, hb'.2⟩
  exact ⟨h.disk.plus hb (Nat.le_refl _), h.bes.plus4 hb.size, (h.safe.below hb (Nat.le_refl _)).mono hsub, (h.loose.below hb (Nat.le_refl _)).mono hsub, (hb.block q2 (h.f2lt _ h.q2_in)).trans h.cell, fun b hb' => hb'.1, plus_of hb.size h.f2lt h.q2_in, h.ne, ⟨Nat.lt_of_lt_of_le (hl.2 _ (hl.1 _ h.g1q)) hb.size, .inl h.g1q⟩⟩
/-- The document's disk has been written. -/
theorem Side.set (h : Side w F1 G1 F2 G2 d q q2 s0 r0 AS cS AL cL) (o : Nat) (u : Value) : Side (w.setCell ⟨q, o, none⟩ u) F1 G1 F2 G2 d q q2 s0 r0 AS cS AL cL := by
  have hnq : ¬ less F2 q q := fun h => h.2 rfl
  exact ⟨h.disk.low (p := ⟨q, o, none⟩) h.g1q _, fun b hb => h.bes b (by simpa using hb), h.safe.setC (p := ⟨q, o, none⟩) hnq _, h.loose.setC (p := ⟨q, o, none⟩) hnq _, (heap_setCell_other w ⟨q, o, none⟩ q2 _ h.ne).trans h.cell, fun b hf => by simpa using h.f2lt b hf, h.q2_in, h.ne, h.g1q⟩
theorem Side.shows {M : Nat} (h : Side w F1 G1 F2 G2 d q q2 s0 r0 AS cS AL cL) (hR : Rel s0 r0) (hz : SizeR r0 M) (hf : r0.safe.length ≤ M) (hM : M ≤ 100000) :
    Calls Try.prog 20 #[.pointer (some ⟨d, 0, none⟩), .agg #[.slice AS r0.safe.length cS, .slice AL r0.loose.length cL, .int .i64 r0.left, .bool r0.armed, .bool r0.down]] w fun e w' => e = .returned (.bool true) ∧ Below w.heap.size w w' :=
  shows_any w h.disk hR hz (by omega) (by omega) rfl rfl h.safe h.loose (fun b hb => h.f2lt b hb.1)
theorem Side.cells (h : Side w F1 G1 F2 G2 d q q2 s0 r0 AS cS AL cL) : w.cell? ⟨q2, 0, none⟩ = some (.slice AS r0.safe.length cS) ∧ w.cell? ⟨q2, 1, none⟩ = some (.slice AL r0.loose.length cL) ∧ w.cell? ⟨q2, 2, none⟩ = some (.int .i64 r0.left) ∧ w.cell? ⟨q2, 3, none⟩ = some (.bool r0.armed) ∧ w.cell? ⟨q2, 4, none⟩ = some (.bool r0.down) :=
  ⟨by rw [cell_of_row _ _ _ _ _ (0, 0) h.cell]; rfl, by rw [cell_of_row _ _ _ _ _ (0, 0) h.cell]; rfl, by rw [cell_of_row _ _ _ _ _ (0, 0) h.cell]; rfl, by rw [cell_of_row _ _ _ _ _ (0, 0) h.cell]; rfl, by rw [cell_of_row _ _ _ _ _ (0, 0) h.cell]; rfl⟩
end
end Go.Proofs.Ytjipjfionelpkaa.dk
