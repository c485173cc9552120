/- Openers for []api.Member and api.Member among the arguments. -/
import Derived.Test.YtbnpljcjjpokjaaMem
import Derived.Test.YtbnpljcjjpokjaaRows
import Derived.ChangeSlices
import Derived.Deep.SlicePairs
import Derived.Lib.SmallJoins
namespace Go.Proofs.Ytbnpljcjjpokjaa.mem
open Go.RowKit Go.Proofs.Ytbnpljcjjpokjaa.lib
section
variable {H : Type} {enc : TypeId × Value → H} {W : World}
theorem cells_member : Try.prog.cellsOf 26 = 2 := by kernel_rfl
theorem cells_int : Try.prog.cellsOf 3 = 1 := by kernel_rfl

def I64 (x : Int) : Prop := -9223372036854775808 ≤ x ∧ x ≤ 9223372036854775807
theorem I64_of {x : Int} (h : (Lit.int .i64 x).wf = true) : I64 x := by
  simpa [Lit.wf, IntKind.min, IntKind.max, IntKind.signed, IntKind.bits, I64] using h

theorem list_of {α : Type} {P : Nat → α → Prop} (n : Nat) (h : ∀ i, i < n → ∃ x, P i x) : ∃ L : List α, L.length = n ∧ ∀ i (hi : i < L.length), P i L[i] := by
  induction n with
  | zero => exact ⟨[], rfl, fun i h => absurd h (by simp)⟩
  | succ n ih =>
    obtain ⟨L, h1, h2⟩ := ih fun i hi => h i (by omega)
    obtain ⟨x, hx⟩ := h n (by omega)
    refine ⟨L ++ [x], by simp [h1], fun i hi => ?_⟩
    by_cases hl : i < L.length
    · rw [List.getElem_append_left hl]
      exact h2 i hl
    · have e : i = n := by simp at hi; omega
      subst e
      rw [List.getElem_append_right (by omega)]
      simpa using hx
theorem block_of_cell {w : World} {a : Addr} {v : Value} (h : w.cell? a = some v) : a.block < w.heap.size := by
  rcases Nat.lt_or_ge a.block w.heap.size with h' | h'
  · exact h'
  · simp [World.cell?, Array.getElem?_eq_none h'] at h
theorem rdM_of {w : World} {B : Nat} {a : Addr} {L : List (Int × Int)} (hb : 0 < L.length → a.block < B)
    (h : ∀ i (hi : i < L.length), w.cell? (a.add (i * 2)) = some (.int .i64 L[i].1) ∧ w.cell? (a.add (i * 2 + 1)) = some (.int .i64 L[i].2)) : RdM w B (some a) L := by
  refine ⟨memV_length L, fun h0 => ⟨a, rfl, hb h0, fun j u hu => ?_⟩⟩
  have hj : j < L.length * 2 := by
    have := (List.getElem?_eq_some_iff.1 hu).1
    rwa [memV_length] at this
  have h2 := memV_get L (j / 2) (by omega)
  have h3 := h (j / 2) (by omega)
  rcases Nat.mod_two_eq_zero_or_one j with e | e
  · have e1 : 2 * (j / 2) = j := by omega
    rw [e1, hu] at h2
    injection h2.1 with h2
    subst h2
    rw [← h3.1]
    congr 2
    omega
  · have e1 : 2 * (j / 2) + 1 = j := by omega
    rw [e1, hu] at h2
    injection h2.2 with h2
    subst h2
    rw [← h3.2]
    congr 2
    omega

theorem open_members {A : Option Addr} {n c : Nat} {d : DataW H} {p : List MemPlace} (h : DataW.Trod enc Try.prog W 0 (fun _ => true) true 22 (.slice A n c) d p) :
    ∃ L : List (Int × Int), n = L.length ∧ n ≤ c ∧ RdM W W.heap.size A L ∧ ∀ i (hi : i < L.length), I64 L[i].1 ∧ I64 L[i].2 := by
  obtain ⟨fuel, hf⟩ := h
  rcases Go.Deep.open_slice_pairs Try.underlying22 Try.underlying26 cells_member rfl rfl cells_int cells_int hf with ⟨hcs, _⟩ | ⟨a, len, cap, m, k, V0, V1, D0, D1, P0, P1, hcs, _, hl, _, hm, _, hel⟩
  · simp [Value.cells] at hcs
    obtain ⟨rfl, rfl, rfl⟩ := hcs
    exact ⟨[], rfl, Nat.le_refl _, ⟨rfl, fun h => absurd h (by simp)⟩, fun i hi => absurd hi (by simp)⟩
  · simp [Value.cells] at hcs
    obtain ⟨rfl, rfl, rfl⟩ := hcs
    simp at hm
    have each : ∀ i, i < n → ∃ x : Int × Int, W.cell? (a.add (i * 2)) = some (.int .i64 x.1) ∧ W.cell? (a.add (i * 2 + 1)) = some (.int .i64 x.2) ∧ I64 x.1 ∧ I64 x.2 := by
      intro i hi
      obtain ⟨h0, h1, g0, g1⟩ := hel i (by omega)
      obtain ⟨x, e0, _, w0⟩ := DataW.trod_int Try.underlying3 g0
      obtain ⟨y, e1, _, w1⟩ := DataW.trod_int Try.underlying3 g1
      injection e0 with e0
      injection e1 with e1
      exact ⟨(x, y), by rw [h0, e0], by rw [h1, e1], I64_of w0, I64_of w1⟩
    obtain ⟨L, h1, h2⟩ := list_of n each
    refine ⟨L, h1.symm, hl, rdM_of (fun h0 => ?_) fun i hi => ⟨(h2 i hi).1, (h2 i hi).2.1⟩, fun i hi => (h2 i hi).2.2⟩
    have := block_of_cell (h2 0 h0).1
    rwa [block_of_add] at this

theorem open_member {r : Reach} {b0 : Nat} {v : Value} {d : DataW H} {p : List MemPlace} (hv : Value.okWide Try.prog W r b0 26 v) (h : DataW.Trod enc Try.prog W 0 (fun _ => true) true 26 v d p) :
    ∃ x : Int × Int, v = mv x ∧ I64 x.1 ∧ I64 x.2 := by
  obtain ⟨v0, v1, y0, y1, n, rfl, _, _, g0, g1⟩ := Go.Joins.open_agg2 Try.underlying26 (by kernel_rfl) cells_member hv h
  obtain ⟨x, e0, _, w0⟩ := DataW.trod_int Try.underlying3 g0
  obtain ⟨y, e1, _, w1⟩ := DataW.trod_int Try.underlying3 g1
  injection e0 with e0
  injection e1 with e1
  subst e0 e1
  exact ⟨(x, y), rfl, I64_of w0, I64_of w1⟩
end
end Go.Proofs.Ytbnpljcjjpokjaa.mem
