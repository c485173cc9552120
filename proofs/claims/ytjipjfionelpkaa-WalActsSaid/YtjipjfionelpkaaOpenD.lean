/- Openers for []byte among the arguments. -/
import Derived.Test.YtjipjfionelpkaaDk15
import Derived.ChangeSlices
import Derived.Deep.Slices
import Derived.Lib.SmallJoins
namespace Go.Proofs.Ytjipjfionelpkaa.dk
open Go.RowKit Go.Proofs.Ytjipjfionelpkaa.lib Go.Proofs.Ytjipjfionelpkaa.byt
set_option linter.unusedVariables false
section
variable {H : Type} {enc : TypeId × Value → H} {W : World}

theorem cells_u8 : Try.prog.cellsOf 5 = 1 := by kernel_rfl
theorem block_of_cell {w : World} {a : Addr} {v : Value} (h : w.cell? a = some v) : a.block < w.heap.size := by
  rcases Nat.lt_or_ge a.block w.heap.size with h' | h'
  · exact h'
  · simp [World.cell?, Array.getElem?_eq_none h'] at h

theorem open_bytes_cs {fuel : Nat} {cs : List Value} {x : DataW H × List MemPlace} (h : DataW.trod enc Try.prog W 0 (fun _ => true) true fuel 22 cs = some x) :
    ∃ (A : Option Addr) (n c : Nat) (bs : List UInt8), cs = [.slice A n c] ∧ n = bs.length ∧ n ≤ c ∧ RdB W W.heap.size A bs := by
  rcases Go.ChangeShapes.open_ints Try.underlying22 Try.underlying5 cells_u8 h with ⟨hcs, _⟩ | ⟨a, len, cap, zs, hcs, _, hl, _, hz, _, hcell, hwz⟩
  · exact ⟨none, 0, 0, [], hcs, rfl, Nat.le_refl _, rfl, fun h => absurd h (by simp)⟩
  · simp at hz
    have hlt : (zs.take len).length = len := by rw [List.length_take]; omega
    refine ⟨some a, len, cap, (zs.take len).map fun z => UInt8.ofNat z.toNat, hcs, by rw [List.length_map, hlt], hl, by rw [bytesV_length, Nat.mul_one], fun h0 => ?_⟩
    rw [List.length_map, hlt] at h0
    refine ⟨a, rfl, ?_, fun j u hu => ?_⟩
    · have := block_of_cell (hcell 0 (by omega))
      rwa [block_of_add] at this
    · have hj : j < len := by
        have := (List.getElem?_eq_some_iff.1 hu).1
        rwa [bytesV_length, List.length_map, hlt] at this
      rw [hcell j (by omega)]
      rw [← hu]
      have hjz : j < zs.length := by omega
      have hw := hwz zs[j] (List.getElem_mem hjz)
      simp [Lit.wf, IntKind.min, IntKind.max, IntKind.signed, IntKind.bits] at hw
      simp only [bytesV, List.getElem?_map, List.getElem?_take_of_lt hj, List.getElem?_eq_getElem hjz, Option.map_some, List.getD, Option.getD_some]
      have e : ((UInt8.ofNat zs[j].toNat).toNat : Int) = zs[j] := by
        rw [show (UInt8.ofNat zs[j].toNat).toNat = zs[j].toNat % 256 by simp]
        omega
      rw [e]
theorem open_bytes {A : Option Addr} {n c : Nat} {d : DataW H} {p : List MemPlace} (h : DataW.Trod enc Try.prog W 0 (fun _ => true) true 22 (.slice A n c) d p) :
    ∃ bs : List UInt8, n = bs.length ∧ n ≤ c ∧ RdB W W.heap.size A bs := by
  obtain ⟨fuel, hf⟩ := h
  obtain ⟨A', n', c', bs, e, h1, h2, h3⟩ := open_bytes_cs hf
  simp [Value.cells] at e
  obtain ⟨rfl, rfl, rfl⟩ := e
  exact ⟨bs, h1, h2, h3⟩
end
end Go.Proofs.Ytjipjfionelpkaa.dk
