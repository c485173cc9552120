/- Openers for []Act and [][]byte among the arguments. -/
import Derived.Test.YtjipjfionelpkaaOpenD
import Derived.Test.YtjipjfionelpkaaDk20
namespace Go.Proofs.Ytjipjfionelpkaa.dk
open Go.RowKit Go.Proofs.Ytjipjfionelpkaa.lib Go.Proofs.Ytjipjfionelpkaa.byt
set_option linter.unusedVariables false
section
variable {H : Type} {enc : TypeId × Value → H} {W : World}
theorem cells_hdr : Try.prog.cellsOf 22 = 1 := by kernel_rfl
theorem cells_int : Try.prog.cellsOf 3 = 1 := by kernel_rfl
theorem cells_ac : Try.prog.cellsOf 39 = 5 := by kernel_rfl
theorem lists_of {P : Nat → Value → List UInt8 → Prop} (n : Nat) (h : ∀ i, i < n → ∃ v bs, P i v bs) :
    ∃ (hs : List Value) (L : List (List UInt8)), hs.length = n ∧ L.length = n ∧ ∀ i v bs, hs[i]? = some v → L[i]? = some bs → P i v bs := by
  induction n with
  | zero => exact ⟨[], [], rfl, rfl, fun i v bs h => by simp at h⟩
  | succ n ih =>
    obtain ⟨hs, L, h1, h2, h3⟩ := ih fun i hi => h i (by omega)
    obtain ⟨v, bs, hv⟩ := h n (by omega)
    refine ⟨hs ++ [v], L ++ [bs], by simp [h1], by simp [h2], fun i v' bs' hv' hb' => ?_⟩
    by_cases hi : i < n
    · rw [List.getElem?_append_left (by omega)] at hv' hb'
      exact h3 i v' bs' hv' hb'
    · have hi' : i < n + 1 := by
        have := (List.getElem?_eq_some_iff.1 hv').1
        simpa [h1] using this
      obtain rfl : i = n := by omega
      rw [List.getElem?_append_right (by omega), h1, Nat.sub_self] at hv'
      rw [List.getElem?_append_right (by omega), h2, Nat.sub_self] at hb'
      simp at hv' hb'
      subst hv' hb'
      exact hv

theorem open_hdrs {A : Option Addr} {n c : Nat} {d : DataW H} {p : List MemPlace} (h : DataW.Trod enc Try.prog W 0 (fun _ => true) true 43 (.slice A n c) d p) :
    ∃ L : List (List UInt8), n = L.length ∧ n ≤ c ∧ RdBB W W.heap.size A L := by
  obtain ⟨fuel, hf⟩ := h
  rcases Go.Deep.open_slice Try.underlying43 hf with ⟨hcs, _⟩ | ⟨a, len, cap, m, k, D, Pl, hcs, _, hl, _, hm, _, hel⟩
  · simp [Value.cells] at hcs
    obtain ⟨rfl, rfl, rfl⟩ := hcs
    exact ⟨[], rfl, Nat.le_refl _, [], ⟨rfl, fun h => absurd h (by simp)⟩, fun i hi => absurd hi (by simp)⟩
  · simp [Value.cells] at hcs
    obtain ⟨rfl, rfl, rfl⟩ := hcs
    simp at hm
    have each : ∀ i, i < n → ∃ v bs, W.cell? (a.add i) = some v ∧ HdB W W.heap.size v bs := fun i hi => by
      obtain ⟨cs', h1, h2⟩ := hel i (by omega)
      rw [cells_hdr, Nat.mul_one] at h1
      obtain ⟨A', n', c', bs, rfl, e1, _, e3⟩ := open_bytes_cs h2
      subst e1
      exact ⟨_, bs, Go.ChangeShapes.cell_of_cells?_one h1, A', c', rfl, e3⟩
    obtain ⟨hs, L, h1, h2, h3⟩ := lists_of n each
    refine ⟨L, h2.symm, hl, hs, ⟨by rw [h1, h2, Nat.mul_one], fun h0 => ⟨a, rfl, ?_, fun j u hu => ?_⟩⟩, fun i hi => ?_⟩
    · obtain ⟨v, bs, hv, _⟩ := each 0 (by omega)
      have := block_of_cell hv
      rwa [block_of_add] at this
    · have hj : j < n := by
        have := (List.getElem?_eq_some_iff.1 hu).1
        omega
      exact (h3 j u _ hu (List.getElem?_eq_getElem (by omega))).1
    · have hi' : i < hs.length := by omega
      exact ⟨_, List.getElem?_eq_getElem hi', (h3 i _ _ (List.getElem?_eq_getElem hi') (List.getElem?_eq_getElem hi)).2⟩
theorem list_of {α : Type} {P : Nat → α → Prop} (n : Nat) (h : ∀ i, i < n → ∃ x, P i x) : ∃ L : List α, L.length = n ∧ ∀ i (hi : i < L.length), P i L[i] := by
  induction n with
  | zero => exact ⟨[], rfl, fun i h => absurd h (by simp)⟩
  | succ n ih =>
    obtain ⟨L, h1, h2⟩ := ih fun i hi => h i (by omega)
    obtain ⟨x, hx⟩ := h n (by omega)
    refine ⟨L ++ [x], by simp [h1], fun i hi => ?_⟩
    by_cases hl : i < L.length
    · rw [List.getElem_append_left hl]
      exact h2 i hl
    · have e : i = n := by simp at hi; omega
      subst e
      rw [List.getElem_append_right (by omega)]
      simpa using hx

theorem open_acts {A : Option Addr} {n c : Nat} {d : DataW H} {p : List MemPlace} (h : DataW.Trod enc Try.prog W 0 (fun _ => true) true 33 (.slice A n c) d p) : FactA W A n := by
  obtain ⟨fuel, hf⟩ := h
  rcases Go.Deep.open_slice Try.underlying33 hf with ⟨hcs, _⟩ | ⟨a, n', c', m, k, D, Pl, hcs, _, hl, _, hm, _, hel⟩
  · simp [Value.cells] at hcs
    obtain ⟨rfl, rfl, rfl⟩ := hcs
    exact ⟨[], rfl, RdA.nil, fun i hi => absurd hi (by simp)⟩
  · simp [Value.cells] at hcs
    obtain ⟨rfl, rfl, rfl⟩ := hcs
    simp at hm
    have each : ∀ i, i < n → ∃ q : Ah × List UInt8, W.cell? (a.add (i * 5)) = some (.int .u8 q.1.1) ∧ W.cell? (a.add (i * 5 + 1)) = some (.int .i64 q.1.2.1) ∧ W.cell? (a.add (i * 5 + 2)) = some q.1.2.2.1 ∧ W.cell? (a.add (i * 5 + 3)) = some (.int .i64 q.1.2.2.2.1) ∧ W.cell? (a.add (i * 5 + 4)) = some (.int .i64 q.1.2.2.2.2) ∧ HdF W (fun b => b < W.heap.size) q.1.2.2.1 q.2 ∧ AcOk (q.1.1, q.1.2.1, q.2, q.1.2.2.2.1, q.1.2.2.2.2) := fun i hi => by
      obtain ⟨cs', h1, h2⟩ := hel i (by omega)
      rw [cells_ac] at h1
      obtain ⟨_, hl5, hc⟩ := World.cells?_some h1
      match cs', hl5 with
      | [v0, v1, v2, v3, v4], _ =>
        obtain ⟨xs, k', _, _, _, hxl, hf⟩ := DataW.trod_struct Try.underlying39 h2
        have f0 := hf 0 _ rfl
        have f1 := hf 1 _ rfl
        have f2 := hf 2 _ rfl
        have f3 := hf 3 _ rfl
        have f4 := hf 4 _ rfl
        have hx5 : xs.length = 5 := hxl
        rw [List.getElem?_eq_getElem (by omega)] at f0 f1 f2 f3 f4
        replace f0 : DataW.trod enc Try.prog W 0 (fun _ => true) true k' 5 (([v0, v1, v2, v3, v4].drop 0).take (Try.prog.cellsOf 5)) = some (xs[0]'(by omega)) := f0
        replace f1 : DataW.trod enc Try.prog W 0 (fun _ => true) true k' 3 (([v0, v1, v2, v3, v4].drop 1).take (Try.prog.cellsOf 3)) = some (xs[1]'(by omega)) := f1
        replace f2 : DataW.trod enc Try.prog W 0 (fun _ => true) true k' 22 (([v0, v1, v2, v3, v4].drop 2).take (Try.prog.cellsOf 22)) = some (xs[2]'(by omega)) := f2
        replace f3 : DataW.trod enc Try.prog W 0 (fun _ => true) true k' 3 (([v0, v1, v2, v3, v4].drop 3).take (Try.prog.cellsOf 3)) = some (xs[3]'(by omega)) := f3
        replace f4 : DataW.trod enc Try.prog W 0 (fun _ => true) true k' 3 (([v0, v1, v2, v3, v4].drop 4).take (Try.prog.cellsOf 3)) = some (xs[4]'(by omega)) := f4
        rw [cells_int] at f1 f3 f4
        rw [cells_u8] at f0
        rw [cells_hdr] at f2
        obtain ⟨y0, e0, _, w0⟩ := DataW.trod_int Try.underlying5 f0
        obtain ⟨y1, e1, _, _⟩ := DataW.trod_int Try.underlying3 f1
        obtain ⟨A', n', c', bs, e2, hn', hcap, hr⟩ := open_bytes_cs f2
        obtain ⟨y3, e3, _, w3⟩ := DataW.trod_int Try.underlying3 f3
        obtain ⟨y4, e4, _, _⟩ := DataW.trod_int Try.underlying3 f4
        simp only [List.drop_zero, List.drop_succ_cons, List.take_succ_cons, List.take_zero, List.cons.injEq, and_true] at e0 e1 e2 e3 e4
        subst e0 e1 e2 e3 e4
        have c0 := hc 0 (by decide)
        have c1 := hc 1 (by decide)
        have c2 := hc 2 (by decide)
        have c3 := hc 3 (by decide)
        have c4 := hc 4 (by decide)
        rw [add_of_add] at c0 c1 c2 c3 c4
        subst hn'
        simp [Lit.wf, IntKind.min, IntKind.max, IntKind.signed, IntKind.bits] at w0 w3
        exact ⟨((y0, y1, .slice A' bs.length c', y3, y4), bs), c0, c1, c2, c3, c4, ⟨A', c', rfl, ReadsF.of_reads hr (Nat.le_refl _) fun b h => h, hcap⟩, ⟨w0.1, w0.2⟩, w3.2⟩
    obtain ⟨L, hL, hq⟩ := list_of n each
    refine ⟨L.map fun q => (q.1.1, q.1.2.1, q.2, q.1.2.2.2.1, q.1.2.2.2.2), by simp [hL], ⟨L.map (·.1), ⟨⟨by rw [acV_length]; simp, fun h0 => ⟨a, rfl, ?_, fun j u hu => ?_⟩⟩, fun h0 => ⟨a, rfl, ?_⟩⟩, by simp, fun i h1 h2 => ?_⟩, fun i h => ?_⟩
    · have := block_of_cell (hq 0 (by simpa using h0)).1
      rwa [block_of_add] at this
    · have hj : j < L.length * 5 := by
        have := (List.getElem?_eq_some_iff.1 hu).1
        rw [acV_length] at this
        simpa using this
      have hd : j / 5 < L.length := by omega
      obtain ⟨g1, g2, g3, g4, g5⟩ := acV_get (L.map (·.1)) (j / 5) (by simpa using hd)
      obtain ⟨q1, q2, q3, q4, q5, _⟩ := hq (j / 5) hd
      have h5 : j % 5 = 0 ∨ j % 5 = 1 ∨ j % 5 = 2 ∨ j % 5 = 3 ∨ j % 5 = 4 := by omega
      rcases h5 with e | e | e | e | e
      · rw [show 5 * (j / 5) = j by omega, hu] at g1
        injection g1 with g1
        rw [g1, List.getElem_map, ← q1, show j / 5 * 5 = j by omega]
      · rw [show 5 * (j / 5) + 1 = j by omega, hu] at g2
        injection g2 with g2
        rw [g2, List.getElem_map, ← q2, show j / 5 * 5 + 1 = j by omega]
      · rw [show 5 * (j / 5) + 2 = j by omega, hu] at g3
        injection g3 with g3
        rw [g3, List.getElem_map, ← q3, show j / 5 * 5 + 2 = j by omega]
      · rw [show 5 * (j / 5) + 3 = j by omega, hu] at g4
        injection g4 with g4
        rw [g4, List.getElem_map, ← q4, show j / 5 * 5 + 3 = j by omega]
      · rw [show 5 * (j / 5) + 4 = j by omega, hu] at g5
        injection g5 with g5
        rw [g5, List.getElem_map, ← q5, show j / 5 * 5 + 4 = j by omega]
    · have := block_of_cell (hq 0 (by simpa using h0)).1
      rwa [block_of_add] at this
    · simp only [List.getElem_map]
      exact ⟨trivial, trivial, (hq i (by simpa using h1)).2.2.2.2.2.1, trivial, trivial⟩
    · simp only [List.getElem_map]
      exact (hq i (by simpa using h)).2.2.2.2.2.2
end
end Go.Proofs.Ytjipjfionelpkaa.dk
