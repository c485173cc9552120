/- Words for the laws DiskActs, DiskClones: what a round of theirs leaves. -/
import Derived.Test.YtjipjfionelpkaaDk26
import Derived.Test.YtjipjfionelpkaaDk27
namespace Go.Proofs.Ytjipjfionelpkaa.dk
open Go.RowKit Go.Proofs.Ytjipjfionelpkaa.lib Go.Proofs.Ytjipjfionelpkaa.byt
set_option linter.unusedVariables false

theorem ReadsF.lt {w : World} {F : Nat → Prop} {size n : Nat} {A : Option Addr} {xs : List Value} (h : ReadsF w F size A n xs) : ReadsF w (fun b => F b ∧ b < w.heap.size) size A n xs :=
  ⟨h.1, fun hn => by
    obtain ⟨ad, e, hF⟩ := h.2 hn
    obtain ⟨ad', e', hlt, _⟩ := h.1.2 hn
    rw [e] at e'
    injection e' with e'
    subst e'
    exact ⟨ad, e, hF, hlt⟩⟩
theorem RdA.lt {w : World} {F : Nat → Prop} {A : Option Addr} {L : List Ac} (h : RdA w F A L) : RdA w (fun b => F b ∧ b < w.heap.size) A L := by
  obtain ⟨H, h1, h2, h3⟩ := h
  refine ⟨H, h1.lt, h2, fun i h4 h5 => ?_⟩
  obtain ⟨a, b, ⟨Av, cv, e, hr, hc⟩, d, f⟩ := h3 i h4 h5
  exact ⟨a, b, ⟨Av, cv, e, hr.lt, hc⟩, d, f⟩
/-- F, less the block in which the document's disk lies. -/
def less (F : Nat → Prop) (q : Nat) (b : Nat) : Prop := F b ∧ b ≠ q
/-- The program's disk p at d, the document's in block q: of one mind. -/
structure Pair (w : World) (F G : Nat → Prop) (d q : Nat) (s : DS) (r : RS) (AS : Option Addr) (cS : Nat) (AL : Option Addr) (cL : Nat) (M : Nat) : Prop where
  disk : DiskM w F G d s
  rel : Rel s r
  size : SizeR r M
  few : r.safe.length + r.loose.length ≤ M
  safe : RdA w (less F q) AS r.safe
  loose : RdA w (less F q) AL r.loose
  cell : w.heap[q]? = some (.cells #[.slice AS r.safe.length cS, .slice AL r.loose.length cL, .int .i64 r.left, .bool r.armed, .bool r.down] 36 (0, 0))
  g_in : G q
theorem countR_safe (r : RS) : (countR r).safe = r.safe := (countR_same r).1
theorem cells_len (r : RS) (a : Ac) : (doR r a).1.safe.length + (doR r a).1.loose.length ≤ r.safe.length + r.loose.length + 1 := by
  have hc : (crashL r a.2.2.2.1 a.2.2.2.2).length ≤ r.loose.length := by
    unfold crashL
    cases e : r.loose[keepR r a.2.2.2.1]? with
    | none => simp only [List.length_take]; omega
    | some x =>
      have hk := (List.getElem?_eq_some_iff.1 e).1
      simp only
      split
      · simp only [List.length_append, List.length_take, List.length_singleton]; omega
      · simp only [List.length_take]; omega
  have hcs := fun r : RS => countR_same r
  unfold doR
  split
  · split <;> simp only <;> omega
  · split
    · simp only [crashR, List.length_append, List.length_nil]; omega
    · split
      · simp only; omega
      · split
        · simp only; omega
        · split
          · simp only [(hcs _).1, (hcs _).2, List.length_append, List.length_nil]; omega
          · simp only [(hcs _).1, (hcs _).2, List.length_append, List.length_singleton]; omega
theorem set5 {w : World} {d : Nat} {cs : Array Value} {t : TypeId} (h : w.heap[d]? = some (.cells cs t (0, 0))) (hcs : cs.size = 5) (v0 v1 v2 v3 v4 : Value) :
    (((((w.setCell ⟨d, 0, none⟩ v0).setCell ⟨d, 1, none⟩ v1).setCell ⟨d, 2, none⟩ v2).setCell ⟨d, 3, none⟩ v3).setCell ⟨d, 4, none⟩ v4).heap[d]? = some (.cells #[v0, v1, v2, v3, v4] t (0, 0)) := by
  obtain ⟨l⟩ := cs
  match l, hcs with
  | [a0, a1, a2, a3, a4], _ =>
    have e0 := heap_setCell_same w d 0 _ _ v0 h
    have e1 := heap_setCell_same _ d 1 _ _ v1 e0
    have e2 := heap_setCell_same _ d 2 _ _ v2 e1
    have e3 := heap_setCell_same _ d 3 _ _ v3 e2
    have e4 := heap_setCell_same _ d 4 _ _ v4 e3
    simp only [List.setIfInBounds_toArray, List.set_cons_zero, List.set_cons_succ] at e4
    exact e4
theorem Pair.q_in {w : World} {F G : Nat → Prop} {d q M : Nat} {s : DS} {r : RS} {AS AL : Option Addr} {cS cL : Nat} (h : Pair w F G d q s r AS cS AL cL M) : F q := h.disk.lt.2.2.1 q h.g_in
/-- A round: the program's act, the document's, the document's disk written anew. -/
theorem Pair.step {wr w1 w5 w6 X : World} {F G : Nat → Prop} {d q M : Nat} {s s1 : DS} {r : RS} {AS AL A1 A2 : Option Addr} {cS cL c1 c2 n1 n2 : Nat} (h : Pair wr F G d q s r AS cS AL cL M) {a : Ac} (ha : a.2.2.1.length ≤ 200) (hD1 : DiskM w1 F G d s1) (hR1 : Rel s1 (doR r a).1) (hbf : BelF F wr w1) (hX : Below w1.heap.size w1 X) (hn1 : n1 = (doR r a).1.safe.length) (hn2 : n2 = (doR r a).1.loose.length) (hr1 : RdA w5 (since X (less F q)) A1 (doR r a).1.safe) (hr2 : RdA w5 (since X (less F q)) A2 (doR r a).1.loose)
    (hk : ∀ b, since X (less F q) b → b < w5.heap.size → w6.heap[b]? = w5.heap[b]?) (hs : w5.heap.size ≤ w6.heap.size) (hb6 : Below w1.heap.size w1 w6) : Pair (((((w6.setCell ⟨q, 0, none⟩ (.slice A1 n1 c1)).setCell ⟨q, 1, none⟩ (.slice A2 n2 c2)).setCell ⟨q, 2, none⟩ (.int .i64 (doR r a).1.left)).setCell ⟨q, 3, none⟩ (.bool (doR r a).1.armed)).setCell ⟨q, 4, none⟩ (.bool (doR r a).1.down)) (plus w1 w6 F) (plus w1 w6 G) d q s1 (doR r a).1 A1 c1 A2 c2 (M + 201) := by
  have hq1 : q < w1.heap.size := hD1.lt.2.2.2 q h.q_in
  have hq6 : F q ∧ q < w6.heap.size := ⟨h.q_in, Nat.lt_of_lt_of_le hq1 hb6.size⟩
  have hcell : w6.heap[q]? = _ := (hb6.block q hq1).trans ((hbf.block q (by have := h.disk.lt.2.2.2 q h.q_in; exact this) h.q_in).trans h.cell)
  have hpq : plus w1 w6 G q := ⟨hq6.2, .inl h.g_in⟩
  have hsub : ∀ b, (since X (less F q) b ∧ b < w5.heap.size) → less (plus w1 w6 F) q b := fun b hb => by
    obtain ⟨h1, h2⟩ := hb
    rcases h1 with h1 | h1
    · exact ⟨⟨Nat.lt_of_lt_of_le h2 hs, .inl h1.1⟩, h1.2⟩
    · have := hX.size
      exact ⟨⟨Nat.lt_of_lt_of_le h2 hs, .inr (Nat.le_trans this h1)⟩, by omega⟩
  have hrd : ∀ {A : Option Addr} {L : List Ac}, RdA w5 (since X (less F q)) A L → RdA (((((w6.setCell ⟨q, 0, none⟩ (.slice A1 n1 c1)).setCell ⟨q, 1, none⟩ (.slice A2 n2 c2)).setCell ⟨q, 2, none⟩ (.int .i64 (doR r a).1.left)).setCell ⟨q, 3, none⟩ (.bool (doR r a).1.armed)).setCell ⟨q, 4, none⟩ (.bool (doR r a).1.down)) (less (plus w1 w6 F) q) A L := fun {A L} hr => by
    have h5 : RdA w6 (less (plus w1 w6 F) q) A L := by
      obtain ⟨H, g1, g2⟩ := hr.lt
      refine RdA.mono ⟨H, ?_, ?_⟩ hsub
      · exact g1.keep hs fun b hb hF => hk b hF.1 hF.2
      · refine ⟨g2.1, fun i i1 i2 => ?_⟩
        obtain ⟨e1, e2, ⟨Av, cv, e3, hv, hc⟩, e4, e5⟩ := g2.2 i i1 i2
        exact ⟨e1, e2, ⟨Av, cv, e3, hv.keep hs fun b hb hF => hk b hF.1 hF.2, hc⟩, e4, e5⟩
    have hnq : ¬ less (plus w1 w6 F) q q := fun h => h.2 rfl
    repeat (with_reducible refine RdA.setC ?_ hnq _)
    exact h5
  have hD6 := hD1.plus hb6 (Nat.le_refl _)
  refine ⟨?_, hR1, h.size.step a 201 (by omega), by have := cells_len r a; have := h.few; omega, hrd hr1, hrd hr2, ?_, hpq⟩
  · repeat (with_reducible refine DiskM.low ?_ hpq _)
    exact hD6
  · rw [← hn1, ← hn2]
    exact set5 hcell rfl _ _ _ _ _
/-- Memory has come that is of neither. -/
theorem Pair.below {w w' : World} {F G : Nat → Prop} {d q M : Nat} {s : DS} {r : RS} {AS AL : Option Addr} {cS cL : Nat} (h : Pair w F G d q s r AS cS AL cL M) (hb : Below w.heap.size w w') : Pair w' (plus w w' F) (plus w w' G) d q s r AS cS AL cL M := by
  have hlt := h.disk.lt.2.2.2
  have hsub : ∀ b, less F q b → less (plus w w' F) q b := fun b hb' => ⟨plus_of hb.size hlt hb'.1, hb'.2⟩
  exact ⟨h.disk.plus hb (Nat.le_refl _), h.rel, h.size, h.few, (h.safe.below hb (Nat.le_refl _)).mono hsub, (h.loose.below hb (Nat.le_refl _)).mono hsub, (hb.block q (hlt q h.q_in)).trans h.cell, ⟨Nat.lt_of_lt_of_le (hlt q h.q_in) hb.size, .inl h.g_in⟩⟩
theorem Pair.cells {w : World} {F G : Nat → Prop} {d q M : Nat} {s : DS} {r : RS} {AS AL : Option Addr} {cS cL : Nat} (h : Pair w F G d q s r AS cS AL cL M) : w.cell? ⟨q, 0, none⟩ = some (.slice AS r.safe.length cS) ∧ w.cell? ⟨q, 1, none⟩ = some (.slice AL r.loose.length cL) ∧ w.cell? ⟨q, 2, none⟩ = some (.int .i64 r.left) ∧ w.cell? ⟨q, 3, none⟩ = some (.bool r.armed) ∧ w.cell? ⟨q, 4, none⟩ = some (.bool r.down) ∧ ∀ j, w.frozen? ⟨q, j, none⟩ = false :=
  ⟨by rw [cell_of_row _ _ _ _ _ (0, 0) h.cell]; rfl, by rw [cell_of_row _ _ _ _ _ (0, 0) h.cell]; rfl, by rw [cell_of_row _ _ _ _ _ (0, 0) h.cell]; rfl, by rw [cell_of_row _ _ _ _ _ (0, 0) h.cell]; rfl, by rw [cell_of_row _ _ _ _ _ (0, 0) h.cell]; rfl, fun j => frozen_of_row _ _ j _ _ h.cell⟩
/-- The disk's own act keeps the document's disk's cells. -/
theorem Pair.cellsB {w w1 : World} {F G : Nat → Prop} {d q M : Nat} {s : DS} {r : RS} {AS AL : Option Addr} {cS cL : Nat} (h : Pair w F G d q s r AS cS AL cL M) (hb : BelF F w w1) : w1.cell? ⟨q, 0, none⟩ = some (.slice AS r.safe.length cS) ∧ w1.cell? ⟨q, 1, none⟩ = some (.slice AL r.loose.length cL) ∧ w1.cell? ⟨q, 2, none⟩ = some (.int .i64 r.left) ∧ w1.cell? ⟨q, 3, none⟩ = some (.bool r.armed) ∧ w1.cell? ⟨q, 4, none⟩ = some (.bool r.down) ∧ ∀ j, w1.frozen? ⟨q, j, none⟩ = false := by
  have hc : w1.heap[q]? = _ := (hb.block q (h.disk.lt.2.2.2 q h.q_in) h.q_in).trans h.cell
  exact ⟨by rw [cell_of_row _ _ _ _ _ (0, 0) hc]; rfl, by rw [cell_of_row _ _ _ _ _ (0, 0) hc]; rfl, by rw [cell_of_row _ _ _ _ _ (0, 0) hc]; rfl, by rw [cell_of_row _ _ _ _ _ (0, 0) hc]; rfl, by rw [cell_of_row _ _ _ _ _ (0, 0) hc]; rfl, fun j => frozen_of_row _ _ j _ _ hc⟩
/-- Shows, of a pair. -/
theorem Pair.shows {w : World} {F G : Nat → Prop} {d q M : Nat} {s : DS} {r : RS} {AS AL : Option Addr} {cS cL : Nat} (h : Pair w F G d q s r AS cS AL cL M) (hM : M ≤ 100000) :
    Calls Try.prog 20 #[.pointer (some ⟨d, 0, none⟩), .agg #[.slice AS r.safe.length cS, .slice AL r.loose.length cL, .int .i64 r.left, .bool r.armed, .bool r.down]] w fun e w' => e = .returned (.bool true) ∧ Below w.heap.size w w' :=
  shows_any w h.disk h.rel h.size (by omega) (by have := h.few; omega) rfl rfl h.safe h.loose (fun b hb => h.disk.lt.2.2.2 b hb.1)
/-- The document's act, in a world that has come since. -/
theorem Pair.acts {w w1 X : World} {F G : Nat → Prop} {d q M m cv : Nat} {s : DS} {r : RS} {AS AL Av : Option Addr} {cS cL : Nat} {a : Ac} (h : Pair w F G d q s r AS cS AL cL M) (hM : M ≤ 100000) (hb : BelF F w w1) (hX : Below w1.heap.size w1 X) (ha : 0 ≤ a.1 ∧ a.1 ≤ 255) (hm : m = a.2.2.1.length) (hv : RdF X (less F q) Av a.2.2.1) (hcv : m ≤ cv) :
    Calls Try.prog 19 #[.agg #[.slice AS r.safe.length cS, .slice AL r.loose.length cL, .int .i64 r.left, .bool r.armed, .bool r.down], .agg #[.int .u8 a.1, .int .i64 a.2.1, .slice Av m cv, .int .i64 a.2.2.2.1, .int .i64 a.2.2.2.2]] X (RDo X (less F q) (doR r a)) :=
  rdo_any X rfl rfl ((h.safe.bel (hb.mono fun b hb => hb.1)).below hX (Nat.le_refl _)) ((h.loose.bel (hb.mono fun b hb => hb.1)).below hX (Nat.le_refl _)) (fun b hb' => Nat.lt_of_lt_of_le (h.disk.lt.2.2.2 b hb'.1) (Nat.le_trans hb.size hX.size)) (by have := h.few; omega) ha (fun hd hA => by
    have h2 := h.rel.down
    have h3 := (h.rel.arm (by rw [h2]; exact hd)).2 hA
    exact h3.2) hm hv hcv
end Go.Proofs.Ytjipjfionelpkaa.dk
