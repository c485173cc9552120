/- Openers for api.Net by value and []byte among the arguments. -/
import Derived.Test.YtnmamfgebbcehaaNet22
import Derived.ChangeSlices
import Derived.Deep.Slices
import Derived.Lib.SmallJoins
namespace Go.Proofs.Ytnmamfgebbcehaa.pk
open Go.RowKit Go.Proofs.Ytnmamfgebbcehaa.lib Go.Proofs.Ytnmamfgebbcehaa.byt
set_option linter.unusedVariables false
section
variable {H : Type} {enc : TypeId × Value → H} {W : World}

theorem cells_u8 : Try.prog.cellsOf 5 = 1 := by kernel_rfl
theorem cells_hdr : Try.prog.cellsOf 25 = 1 := by kernel_rfl
theorem cells_int : Try.prog.cellsOf 3 = 1 := by kernel_rfl
theorem cells_pk : Try.prog.cellsOf 29 = 3 := by kernel_rfl
theorem cells_net : Try.prog.cellsOf 24 = 2 := by kernel_rfl
theorem block_of_cell {w : World} {a : Addr} {v : Value} (h : w.cell? a = some v) : a.block < w.heap.size := by
  rcases Nat.lt_or_ge a.block w.heap.size with h' | h'
  · exact h'
  · simp [World.cell?, Array.getElem?_eq_none h'] at h

theorem open_bytes_cs {fuel : Nat} {cs : List Value} {x : DataW H × List MemPlace} (h : DataW.trod enc Try.prog W 0 (fun _ => true) true fuel 25 cs = some x) :
    ∃ (A : Option Addr) (n c : Nat) (bs : List UInt8), cs = [.slice A n c] ∧ n = bs.length ∧ n ≤ c ∧ RdB W W.heap.size A bs := by
  rcases Go.ChangeShapes.open_ints Try.underlying25 Try.underlying5 cells_u8 h with ⟨hcs, _⟩ | ⟨a, len, cap, zs, hcs, _, hl, _, hz, _, hcell, hwz⟩
  · exact ⟨none, 0, 0, [], hcs, rfl, Nat.le_refl _, rfl, fun h => absurd h (by simp)⟩
  · simp at hz
    have hlt : (zs.take len).length = len := by rw [List.length_take]; omega
    refine ⟨some a, len, cap, (zs.take len).map fun z => UInt8.ofNat z.toNat, hcs, by rw [List.length_map, hlt], hl, by rw [bytesV_length, Nat.mul_one], fun h0 => ?_⟩
    rw [List.length_map, hlt] at h0
    refine ⟨a, rfl, ?_, fun j u hu => ?_⟩
    · have := block_of_cell (hcell 0 (by omega))
      rwa [block_of_add] at this
    · have hj : j < len := by
        have := (List.getElem?_eq_some_iff.1 hu).1
        rwa [bytesV_length, List.length_map, hlt] at this
      rw [hcell j (by omega)]
      rw [← hu]
      have hjz : j < zs.length := by omega
      have hw := hwz zs[j] (List.getElem_mem hjz)
      simp [Lit.wf, IntKind.min, IntKind.max, IntKind.signed, IntKind.bits] at hw
      simp only [bytesV, List.getElem?_map, List.getElem?_take_of_lt hj, List.getElem?_eq_getElem hjz, Option.map_some, List.getD, Option.getD_some]
      have e : ((UInt8.ofNat zs[j].toNat).toNat : Int) = zs[j] := by
        rw [show (UInt8.ofNat zs[j].toNat).toNat = zs[j].toNat % 256 by simp]
        omega
      rw [e]
theorem open_bytes {A : Option Addr} {n c : Nat} {d : DataW H} {p : List MemPlace} (h : DataW.Trod enc Try.prog W 0 (fun _ => true) true 25 (.slice A n c) d p) :
    ∃ bs : List UInt8, n = bs.length ∧ n ≤ c ∧ RdB W W.heap.size A bs := by
  obtain ⟨fuel, hf⟩ := h
  obtain ⟨A', n', c', bs, e, h1, h2, h3⟩ := open_bytes_cs hf
  simp [Value.cells] at e
  obtain ⟨rfl, rfl, rfl⟩ := e
  exact ⟨bs, h1, h2, h3⟩
theorem list_of {α : Type} {P : Nat → α → Prop} (n : Nat) (h : ∀ i, i < n → ∃ x, P i x) : ∃ L : List α, L.length = n ∧ ∀ i (hi : i < L.length), P i L[i] := by
  induction n with
  | zero => exact ⟨[], rfl, fun i h => absurd h (by simp)⟩
  | succ n ih =>
    obtain ⟨L, h1, h2⟩ := ih fun i hi => h i (by omega)
    obtain ⟨x, hx⟩ := h n (by omega)
    refine ⟨L ++ [x], by simp [h1], fun i hi => ?_⟩
    by_cases hl : i < L.length
    · rw [List.getElem_append_left hl]
      exact h2 i hl
    · have e : i = n := by simp at hi; omega
      subst e
      rw [List.getElem_append_right (by omega)]
      simpa using hx
theorem I64_of {x : Int} (h : (Lit.int .i64 x).wf = true) : I64 x := by
  simpa [Lit.wf, IntKind.min, IntKind.max, IntKind.signed, IntKind.bits, I64] using h

theorem open_pkts {fuel : Nat} {cs : List Value} {x : DataW H × List MemPlace} (h : DataW.trod enc Try.prog W 0 (fun _ => true) true fuel 22 cs = some x) :
    ∃ (A : Option Addr) (n c : Nat) (P : List Pk), cs = [.slice A n c] ∧ n = P.length ∧ RdP W W.heap.size A P := by
  rcases Go.Deep.open_slice Try.underlying22 h with ⟨hcs, _⟩ | ⟨a, n, c, m, k, D, Pl, hcs, _, hl, _, hm, _, hel⟩
  · exact ⟨none, 0, 0, [], hcs, rfl, RdP.nil⟩
  · simp at hm
    have each : ∀ i, i < n → ∃ q : Hd × List UInt8, W.cell? (a.add (i * 3)) = some (.int .i64 q.1.1) ∧ W.cell? (a.add (i * 3 + 1)) = some (.int .i64 q.1.2.1) ∧ W.cell? (a.add (i * 3 + 2)) = some q.1.2.2 ∧ HdB W W.heap.size q.1.2.2 q.2 := fun i hi => by
      obtain ⟨cs', h1, h2⟩ := hel i (by omega)
      rw [cells_pk] at h1
      obtain ⟨_, hl3, hc⟩ := World.cells?_some h1
      match cs', hl3 with
      | [v0, v1, v2], _ =>
        obtain ⟨xs, k', _, _, _, hxl, hf⟩ := DataW.trod_struct Try.underlying29 h2
        have f0 := hf 0 _ rfl
        have f1 := hf 1 _ rfl
        have f2 := hf 2 _ rfl
        have hx3 : xs.length = 3 := hxl
        rw [List.getElem?_eq_getElem (by omega)] at f0 f1 f2
        replace f0 : DataW.trod enc Try.prog W 0 (fun _ => true) true k' 3 (([v0, v1, v2].drop 0).take (Try.prog.cellsOf 3)) = some (xs[0]'(by omega)) := f0
        replace f1 : DataW.trod enc Try.prog W 0 (fun _ => true) true k' 3 (([v0, v1, v2].drop 1).take (Try.prog.cellsOf 3)) = some (xs[1]'(by omega)) := f1
        replace f2 : DataW.trod enc Try.prog W 0 (fun _ => true) true k' 25 (([v0, v1, v2].drop 2).take (Try.prog.cellsOf 25)) = some (xs[2]'(by omega)) := f2
        rw [cells_int] at f0 f1
        rw [cells_hdr] at f2
        obtain ⟨y0, e0, _, _⟩ := DataW.trod_int Try.underlying3 f0
        obtain ⟨y1, e1, _, _⟩ := DataW.trod_int Try.underlying3 f1
        obtain ⟨A', n', c', bs, e2, hn', _, hr⟩ := open_bytes_cs f2
        simp only [List.drop_zero, List.drop_succ_cons, List.take_succ_cons, List.take_zero, List.cons.injEq, and_true] at e0 e1 e2
        subst e0 e1 e2
        have c0 := hc 0 (by decide)
        have c1 := hc 1 (by decide)
        have c2 := hc 2 (by decide)
        rw [add_of_add] at c0 c1 c2
        subst hn'
        exact ⟨((y0, y1, .slice A' bs.length c'), bs), c0, c1, c2, A', c', rfl, hr⟩
    obtain ⟨L, hL, hq⟩ := list_of n each
    refine ⟨some a, n, c, L.map fun q => (q.1.1, q.1.2.1, q.2), hcs, by simp [hL], L.map (·.1), ⟨by rw [pkV_length]; simp, fun h0 => ⟨a, rfl, ?_, fun j u hu => ?_⟩⟩, by simp, fun i h1 h2 => ?_⟩
    · have := block_of_cell (hq 0 (by simpa using h0)).1
      rwa [block_of_add] at this
    · have hj : j < L.length * 3 := by
        have := (List.getElem?_eq_some_iff.1 hu).1
        rw [pkV_length] at this
        simpa using this
      have hd : j / 3 < L.length := by omega
      obtain ⟨g1, g2, g3⟩ := pkV_get (L.map (·.1)) (j / 3) (by simpa using hd)
      obtain ⟨q1, q2, q3, _⟩ := hq (j / 3) hd
      have h3 : j % 3 = 0 ∨ j % 3 = 1 ∨ j % 3 = 2 := by omega
      rcases h3 with e | e | e
      · have ej : 3 * (j / 3) = j := by omega
        rw [ej, hu] at g1
        injection g1 with g1
        rw [g1, List.getElem_map, ← q1, show j / 3 * 3 = j by omega]
      · have ej : 3 * (j / 3) + 1 = j := by omega
        rw [ej, hu] at g2
        injection g2 with g2
        rw [g2, List.getElem_map, ← q2, show j / 3 * 3 + 1 = j by omega]
      · have ej : 3 * (j / 3) + 2 = j := by omega
        rw [ej, hu] at g3
        injection g3 with g3
        rw [g3, List.getElem_map, ← q3, show j / 3 * 3 + 2 = j by omega]
    · simp only [List.getElem_map]
      exact ⟨trivial, trivial, (hq i (by simpa using h1)).2.2.2⟩

theorem open_net {r : Reach} {b0 : Nat} {v : Value} {d : DataW H} {p : List MemPlace} (hv : Value.okWide Try.prog W r b0 24 v) (h : DataW.Trod enc Try.prog W 0 (fun _ => true) true 24 v d p) :
    ∃ x : NetA, v = netV x ∧ FactN W x := by
  obtain ⟨v0, v1, y0, y1, n, rfl, _, _, g0, g1⟩ := Go.Joins.open_agg2 Try.underlying24 (by kernel_rfl) cells_net hv h
  obtain ⟨x, e0, _, w0⟩ := DataW.trod_int Try.underlying3 g0
  obtain ⟨A, k, c, P, e1, hk, hr⟩ := open_pkts g1
  injection e0 with e0
  injection e1 with e1
  subst e0 e1
  exact ⟨(x, A, k, c, P), rfl, I64_of w0, hk, hr⟩
theorem open_i64 {x : Int} (h : -9223372036854775808 ≤ x ∧ x ≤ 9223372036854775807) : I64 x := h
end
end Go.Proofs.Ytnmamfgebbcehaa.pk
