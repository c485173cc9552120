/- Opener for a log's acts among the arguments. -/
import Derived.Test.YtjipjfionelpkaaOpenW
import Derived.Test.YtjipjfionelpkaaWl13
namespace Go.Proofs.Ytjipjfionelpkaa.wl
open Go.RowKit Go.Proofs.Ytjipjfionelpkaa.lib Go.Proofs.Ytjipjfionelpkaa.byt Go.Proofs.Ytjipjfionelpkaa.dk
set_option linter.unusedVariables false
section
variable {H : Type} {enc : TypeId × Value → H} {W : World}
theorem cells_ac : Try.prog.cellsOf 60 = 4 := by kernel_rfl
theorem list_of {α : Type} {P : Nat → α → Prop} (n : Nat) (h : ∀ i, i < n → ∃ x, P i x) : ∃ L : List α, L.length = n ∧ ∀ i (hi : i < L.length), P i L[i] := by
  induction n with
  | zero => exact ⟨[], rfl, fun i h => absurd h (by simp)⟩
  | succ n ih =>
    obtain ⟨L, h1, h2⟩ := ih fun i hi => h i (by omega)
    obtain ⟨x, hx⟩ := h n (by omega)
    refine ⟨L ++ [x], by simp [h1], fun i hi => ?_⟩
    by_cases hl : i < L.length
    · rw [List.getElem_append_left hl]
      exact h2 i hl
    · have e : i = n := by simp at hi; omega
      subst e
      rw [List.getElem_append_right (by omega)]
      simpa using hx

theorem open_acts8 {A : Option Addr} {n c : Nat} {d : DataW H} {p : List MemPlace} (h : DataW.Trod enc Try.prog W 0 (fun _ => true) true 52 (.slice A n c) d p) : FactA8 W A n := by
  obtain ⟨fuel, hf⟩ := h
  rcases Go.Deep.open_slice Try.underlying52 hf with ⟨hcs, _⟩ | ⟨a, n', c', m, k, D, Pl, hcs, _, hl, _, hm, _, hel⟩
  · simp [Value.cells] at hcs
    obtain ⟨rfl, rfl, rfl⟩ := hcs
    exact ⟨[], rfl, ⟨[], ReadsF.nil, rfl, fun i h1 h2 => absurd h1 (by simp)⟩, fun i hi => absurd hi (by simp)⟩
  · simp [Value.cells] at hcs
    obtain ⟨rfl, rfl, rfl⟩ := hcs
    simp at hm
    have each : ∀ i, i < n → ∃ q : Ah8 × List UInt8, W.cell? (a.add (i * 4)) = some (.int .u8 q.1.1) ∧ W.cell? (a.add (i * 4 + 1)) = some q.1.2.1 ∧ W.cell? (a.add (i * 4 + 2)) = some (.int .i64 q.1.2.2.1) ∧ W.cell? (a.add (i * 4 + 3)) = some (.int .i64 q.1.2.2.2) ∧ HdF W (fun b => b < W.heap.size) q.1.2.1 q.2 ∧ 0 ≤ q.1.1 ∧ q.1.1 ≤ 255 := fun i hi => by
      obtain ⟨cs', h1, h2⟩ := hel i (by omega)
      rw [cells_ac] at h1
      obtain ⟨_, hl4, hc⟩ := World.cells?_some h1
      match cs', hl4 with
      | [v0, v1, v2, v3], _ =>
        obtain ⟨xs, k', _, _, _, hxl, hf⟩ := DataW.trod_struct Try.underlying60 h2
        have f0 := hf 0 _ rfl
        have f1 := hf 1 _ rfl
        have f2 := hf 2 _ rfl
        have f3 := hf 3 _ rfl
        have hx4 : xs.length = 4 := hxl
        rw [List.getElem?_eq_getElem (by omega)] at f0 f1 f2 f3
        replace f0 : DataW.trod enc Try.prog W 0 (fun _ => true) true k' 5 (([v0, v1, v2, v3].drop 0).take (Try.prog.cellsOf 5)) = some (xs[0]'(by omega)) := f0
        replace f1 : DataW.trod enc Try.prog W 0 (fun _ => true) true k' 22 (([v0, v1, v2, v3].drop 1).take (Try.prog.cellsOf 22)) = some (xs[1]'(by omega)) := f1
        replace f2 : DataW.trod enc Try.prog W 0 (fun _ => true) true k' 3 (([v0, v1, v2, v3].drop 2).take (Try.prog.cellsOf 3)) = some (xs[2]'(by omega)) := f2
        replace f3 : DataW.trod enc Try.prog W 0 (fun _ => true) true k' 3 (([v0, v1, v2, v3].drop 3).take (Try.prog.cellsOf 3)) = some (xs[3]'(by omega)) := f3
        rw [cells_int] at f2 f3
        rw [cells_u8] at f0
        rw [cells_hdr] at f1
        obtain ⟨y0, e0, _, w0⟩ := DataW.trod_int Try.underlying5 f0
        obtain ⟨A', n', c', bs, e1, hn', hcap, hr⟩ := open_bytes_cs f1
        obtain ⟨y2, e2, _, _⟩ := DataW.trod_int Try.underlying3 f2
        obtain ⟨y3, e3, _, _⟩ := DataW.trod_int Try.underlying3 f3
        simp only [List.drop_zero, List.drop_succ_cons, List.take_succ_cons, List.take_zero, List.cons.injEq, and_true] at e0 e1 e2 e3
        subst e0 e1 e2 e3
        have c0 := hc 0 (by decide)
        have c1 := hc 1 (by decide)
        have c2 := hc 2 (by decide)
        have c3 := hc 3 (by decide)
        rw [add_of_add] at c0 c1 c2 c3
        subst hn'
        simp [Lit.wf, IntKind.min, IntKind.max, IntKind.signed, IntKind.bits] at w0
        exact ⟨((y0, .slice A' bs.length c', y2, y3), bs), c0, c1, c2, c3, ⟨A', c', rfl, ReadsF.of_reads hr (Nat.le_refl _) fun b h => h⟩, w0.1, w0.2⟩
    obtain ⟨L, hL, hq⟩ := list_of n each
    refine ⟨L.map fun q => (q.1.1, q.2, q.1.2.2.1, q.1.2.2.2), by simp [hL], ⟨L.map (·.1), ⟨⟨by rw [acV_length]; simp, fun h0 => ⟨a, rfl, ?_, fun j u hu => ?_⟩⟩, fun h0 => ⟨a, rfl, ?_⟩⟩, by simp, fun i h1 h2 => ?_⟩, fun i h => ?_⟩
    · have := block_of_cell (hq 0 (by simpa using h0)).1
      rwa [block_of_add] at this
    · have hj : j < L.length * 4 := by
        have := (List.getElem?_eq_some_iff.1 hu).1
        rw [acV_length] at this
        simpa using this
      have hd : j / 4 < L.length := by omega
      obtain ⟨g1, g2, g3, g4⟩ := acV_get (L.map (·.1)) (j / 4) (by simpa using hd)
      obtain ⟨q1, q2, q3, q4, _⟩ := hq (j / 4) hd
      have h4 : j % 4 = 0 ∨ j % 4 = 1 ∨ j % 4 = 2 ∨ j % 4 = 3 := by omega
      rcases h4 with e | e | e | e
      · rw [show 4 * (j / 4) = j by omega, hu] at g1
        injection g1 with g1
        rw [g1, List.getElem_map, ← q1, show j / 4 * 4 = j by omega]
      · rw [show 4 * (j / 4) + 1 = j by omega, hu] at g2
        injection g2 with g2
        rw [g2, List.getElem_map, ← q2, show j / 4 * 4 + 1 = j by omega]
      · rw [show 4 * (j / 4) + 2 = j by omega, hu] at g3
        injection g3 with g3
        rw [g3, List.getElem_map, ← q3, show j / 4 * 4 + 2 = j by omega]
      · rw [show 4 * (j / 4) + 3 = j by omega, hu] at g4
        injection g4 with g4
        rw [g4, List.getElem_map, ← q4, show j / 4 * 4 + 3 = j by omega]
    · have := block_of_cell (hq 0 (by simpa using h0)).1
      rwa [block_of_add] at this
    · simp only [List.getElem_map]
      exact ⟨trivial, (hq i (by simpa using h1)).2.2.2.2.1, trivial, trivial⟩
    · simp only [List.getElem_map]
      exact (hq i (by simpa using h)).2.2.2.2.2
end
end Go.Proofs.Ytjipjfionelpkaa.wl
