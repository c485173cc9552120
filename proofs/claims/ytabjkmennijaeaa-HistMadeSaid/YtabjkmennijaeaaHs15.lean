/- Openers for []byte and []Op among the arguments. -/
import Derived.Test.YtabjkmennijaeaaHs10
import Derived.ChangeSlices
import Derived.Deep.Slices
import Derived.Lib.SmallJoins
namespace Go.Proofs.Ytabjkmennijaeaa.hs
open Go.RowKit Go.Proofs.Ytabjkmennijaeaa.lib Go.Proofs.Ytabjkmennijaeaa.byt
set_option linter.unusedVariables false
section
variable {H : Type} {enc : TypeId × Value → H} {W : World}

theorem cells_u8 : Try.prog.cellsOf 5 = 1 := by kernel_rfl
theorem open_bytes_cs {fuel : Nat} {cs : List Value} {x : DataW H × List MemPlace} (h : DataW.trod enc Try.prog W 0 (fun _ => true) true fuel 23 cs = some x) :
    ∃ (A : Option Addr) (n c : Nat) (bs : List UInt8), cs = [.slice A n c] ∧ n = bs.length ∧ n ≤ c ∧ RdB W W.heap.size A bs := by
  rcases Go.ChangeShapes.open_ints Try.underlying23 Try.underlying5 cells_u8 h with ⟨hcs, _⟩ | ⟨a, len, cap, zs, hcs, _, hl, _, hz, _, hcell, hwz⟩
  · exact ⟨none, 0, 0, [], hcs, rfl, Nat.le_refl _, rfl, fun h => absurd h (by simp)⟩
  · simp at hz
    have hlt : (zs.take len).length = len := by rw [List.length_take]; omega
    refine ⟨some a, len, cap, (zs.take len).map fun z => UInt8.ofNat z.toNat, hcs, by rw [List.length_map, hlt], hl, by rw [bytesV_length, Nat.mul_one], fun h0 => ?_⟩
    rw [List.length_map, hlt] at h0
    refine ⟨a, rfl, ?_, fun j u hu => ?_⟩
    · have := block_of_cell (hcell 0 (by omega))
      rwa [block_of_add] at this
    · have hj : j < len := by
        have := (List.getElem?_eq_some_iff.1 hu).1
        rwa [bytesV_length, List.length_map, hlt] at this
      rw [hcell j (by omega)]
      rw [← hu]
      have hjz : j < zs.length := by omega
      have hw := hwz zs[j] (List.getElem_mem hjz)
      simp [Lit.wf, IntKind.min, IntKind.max, IntKind.signed, IntKind.bits] at hw
      simp only [bytesV, List.getElem?_map, List.getElem?_take_of_lt hj, List.getElem?_eq_getElem hjz, Option.map_some, List.getD, Option.getD_some]
      have e : ((UInt8.ofNat zs[j].toNat).toNat : Int) = zs[j] := by
        rw [show (UInt8.ofNat zs[j].toNat).toNat = zs[j].toNat % 256 by simp]
        omega
      rw [e]
theorem open_bytes {A : Option Addr} {n c : Nat} {d : DataW H} {p : List MemPlace} (h : DataW.Trod enc Try.prog W 0 (fun _ => true) true 23 (.slice A n c) d p) :
    ∃ bs : List UInt8, n = bs.length ∧ n ≤ c ∧ RdB W W.heap.size A bs := by
  obtain ⟨fuel, hf⟩ := h
  obtain ⟨A', n', c', bs, e, h1, h2, h3⟩ := open_bytes_cs hf
  simp [Value.cells] at e
  obtain ⟨rfl, rfl, rfl⟩ := e
  exact ⟨bs, h1, h2, h3⟩
def FactB (W : World) (A : Option Addr) (n : Nat) : Prop := ∃ bs : List UInt8, n = bs.length ∧ RdB W W.heap.size A bs
theorem open_bs {A : Option Addr} {n c : Nat} {d : DataW H} {p : List MemPlace} (h : DataW.Trod enc Try.prog W 0 (fun _ => true) true 23 (.slice A n c) d p) : FactB W A n :=
  let ⟨bs, h1, _, h3⟩ := open_bytes h; ⟨bs, h1, h3⟩
theorem cells_int : Try.prog.cellsOf 3 = 1 := by kernel_rfl
theorem cells_str : Try.prog.cellsOf 9 = 1 := by kernel_rfl
theorem cells_bool : Try.prog.cellsOf 4 = 1 := by kernel_rfl
theorem cells_op : Try.prog.cellsOf 27 = 5 := by kernel_rfl
theorem list_of {α : Type} {P : Nat → α → Prop} (n : Nat) (h : ∀ i, i < n → ∃ x, P i x) : ∃ L : List α, L.length = n ∧ ∀ i (hi : i < L.length), P i L[i] := by
  induction n with
  | zero => exact ⟨[], rfl, fun i h => absurd h (by simp)⟩
  | succ n ih =>
    obtain ⟨L, h1, h2⟩ := ih fun i hi => h i (by omega)
    obtain ⟨x, hx⟩ := h n (by omega)
    refine ⟨L ++ [x], by simp [h1], fun i hi => ?_⟩
    by_cases hl : i < L.length
    · rw [List.getElem_append_left hl]
      exact h2 i hl
    · have e : i = n := by simp at hi; omega
      subst e
      rw [List.getElem_append_right (by omega)]
      simpa using hx
def FactO (W : World) (A : Option Addr) (n : Nat) : Prop := ∃ L : List On, n = L.length ∧ RdO W W.heap.size A L
theorem open_ops {A : Option Addr} {n c : Nat} {d : DataW H} {p : List MemPlace} (h : DataW.Trod enc Try.prog W 0 (fun _ => true) true 22 (.slice A n c) d p) : FactO W A n := by
  obtain ⟨fuel, hf⟩ := h
  rcases Go.Deep.open_slice Try.underlying22 hf with ⟨hcs, _⟩ | ⟨a, n', c', m, k, D, Pl, hcs, _, hl, _, hm, _, hel⟩
  · simp [Value.cells] at hcs
    obtain ⟨rfl, rfl, rfl⟩ := hcs
    exact ⟨[], rfl, rfl, fun h => absurd h (by simp)⟩
  · simp [Value.cells] at hcs
    obtain ⟨rfl, rfl, rfl⟩ := hcs
    simp at hm
    have each : ∀ i, i < n → ∃ o : On, W.cell? (a.add (i * 5)) = some (.int .i64 o.kind) ∧ W.cell? (a.add (i * 5 + 1)) = some (.string o.key) ∧ W.cell? (a.add (i * 5 + 2)) = some (.string o.val) ∧ W.cell? (a.add (i * 5 + 3)) = some (.string o.old) ∧ W.cell? (a.add (i * 5 + 4)) = some (.bool o.hold) := fun i hi => by
      obtain ⟨cs', h1, h2⟩ := hel i (by omega)
      rw [cells_op] at h1
      obtain ⟨_, hl5, hc⟩ := World.cells?_some h1
      match cs', hl5 with
      | [v0, v1, v2, v3, v4], _ =>
        obtain ⟨xs, k', _, _, _, hxl, hf⟩ := DataW.trod_struct Try.underlying27 h2
        have f0 := hf 0 _ rfl
        have f1 := hf 1 _ rfl
        have f2 := hf 2 _ rfl
        have f3 := hf 3 _ rfl
        have f4 := hf 4 _ rfl
        have hx5 : xs.length = 5 := hxl
        rw [List.getElem?_eq_getElem (by omega)] at f0 f1 f2 f3 f4
        replace f0 : DataW.trod enc Try.prog W 0 (fun _ => true) true k' 3 (([v0, v1, v2, v3, v4].drop 0).take (Try.prog.cellsOf 3)) = some (xs[0]'(by omega)) := f0
        replace f1 : DataW.trod enc Try.prog W 0 (fun _ => true) true k' 9 (([v0, v1, v2, v3, v4].drop 1).take (Try.prog.cellsOf 9)) = some (xs[1]'(by omega)) := f1
        replace f2 : DataW.trod enc Try.prog W 0 (fun _ => true) true k' 9 (([v0, v1, v2, v3, v4].drop 2).take (Try.prog.cellsOf 9)) = some (xs[2]'(by omega)) := f2
        replace f3 : DataW.trod enc Try.prog W 0 (fun _ => true) true k' 9 (([v0, v1, v2, v3, v4].drop 3).take (Try.prog.cellsOf 9)) = some (xs[3]'(by omega)) := f3
        replace f4 : DataW.trod enc Try.prog W 0 (fun _ => true) true k' 4 (([v0, v1, v2, v3, v4].drop 4).take (Try.prog.cellsOf 4)) = some (xs[4]'(by omega)) := f4
        rw [cells_int] at f0
        rw [cells_str] at f1 f2 f3
        rw [cells_bool] at f4
        obtain ⟨y0, e0, _, _⟩ := DataW.trod_int Try.underlying3 f0
        obtain ⟨y1, e1, _, _⟩ := DataW.trod_string Try.underlying9 f1
        obtain ⟨y2, e2, _, _⟩ := DataW.trod_string Try.underlying9 f2
        obtain ⟨y3, e3, _, _⟩ := DataW.trod_string Try.underlying9 f3
        obtain ⟨y4, e4, _⟩ := DataW.trod_bool Try.underlying4 f4
        simp only [List.drop_zero, List.drop_succ_cons, List.take_succ_cons, List.take_zero, List.cons.injEq, and_true] at e0 e1 e2 e3 e4
        subst e0 e1 e2 e3 e4
        have c0 := hc 0 (by decide)
        have c1 := hc 1 (by decide)
        have c2 := hc 2 (by decide)
        have c3 := hc 3 (by decide)
        have c4 := hc 4 (by decide)
        rw [add_of_add] at c0 c1 c2 c3 c4
        exact ⟨⟨y0, y1, y2, y3, y4⟩, c0, c1, c2, c3, c4⟩
    obtain ⟨L, hL, hq⟩ := list_of n each
    refine ⟨L, hL.symm, rowO_length L, fun h0 => ⟨a, rfl, ?_, fun j u hu => ?_⟩⟩
    · have := block_of_cell (hq 0 h0).1
      rwa [block_of_add] at this
    · have hj : j < L.length * 5 := by
        have := (List.getElem?_eq_some_iff.1 hu).1
        rwa [rowO_length] at this
      have hd : j / 5 < L.length := by omega
      have h5 : j % 5 < 5 := Nat.mod_lt _ (by decide)
      have hg := rowO_get L (j / 5) hd (j % 5) h5
      rw [show 5 * (j / 5) + j % 5 = j by omega, hu] at hg
      obtain ⟨q0, q1, q2, q3, q4⟩ := hq (j / 5) hd
      rw [show j = j / 5 * 5 + j % 5 by omega]
      generalize L[j / 5] = o at *
      have h6 : j % 5 = 0 ∨ j % 5 = 1 ∨ j % 5 = 2 ∨ j % 5 = 3 ∨ j % 5 = 4 := by omega
      rcases h6 with e | e | e | e | e <;> rw [e] at hg ⊢ <;> simp only [onL, List.getElem?_cons_succ, List.getElem?_cons_zero, Option.some.injEq] at hg <;> subst hg
      · exact q0
      · exact q1
      · exact q2
      · exact q3
      · exact q4
end
end Go.Proofs.Ytabjkmennijaeaa.hs
