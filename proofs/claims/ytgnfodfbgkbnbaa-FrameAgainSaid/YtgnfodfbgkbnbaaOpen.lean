/- What a reading of []byte, [][]byte among the arguments tells: openers for the rows' frames. -/
import Derived.Test.YtgnfodfbgkbnbaaBytes
import Derived.ChangeSlices
import Derived.Deep.Slices
namespace Go.Proofs.Ytgnfodfbgkbnbaa.byt
open Go.RowKit Go.Proofs.Ytgnfodfbgkbnbaa.lib
section
variable {H : Type} {enc : TypeId × Value → H} {W : World}

theorem cells_u8 : Try.prog.cellsOf 5 = 1 := by kernel_rfl
theorem cells_hdr : Try.prog.cellsOf 27 = 1 := by kernel_rfl
theorem block_of_cell {w : World} {a : Addr} {v : Value} (h : w.cell? a = some v) : a.block < w.heap.size := by
  rcases Nat.lt_or_ge a.block w.heap.size with h' | h'
  · exact h'
  · simp [World.cell?, Array.getElem?_eq_none h'] at h

theorem open_bytes_cs {fuel : Nat} {cs : List Value} {x : DataW H × List MemPlace} (h : DataW.trod enc Try.prog W 0 (fun _ => true) true fuel 27 cs = some x) :
    ∃ (A : Option Addr) (n c : Nat) (bs : List UInt8), cs = [.slice A n c] ∧ n = bs.length ∧ n ≤ c ∧ RdB W W.heap.size A bs := by
  rcases Go.ChangeShapes.open_ints Try.underlying27 Try.underlying5 cells_u8 h with ⟨hcs, _⟩ | ⟨a, len, cap, zs, hcs, _, hl, _, hz, _, hcell, hwz⟩
  · exact ⟨none, 0, 0, [], hcs, rfl, Nat.le_refl _, rfl, fun h => absurd h (by simp)⟩
  · simp at hz
    have hlt : (zs.take len).length = len := by rw [List.length_take]; omega
    refine ⟨some a, len, cap, (zs.take len).map fun z => UInt8.ofNat z.toNat, hcs, by rw [List.length_map, hlt], hl, by rw [bytesV_length, Nat.mul_one], fun h0 => ?_⟩
    rw [List.length_map, hlt] at h0
    refine ⟨a, rfl, ?_, fun j u hu => ?_⟩
    · have := block_of_cell (hcell 0 (by omega))
      rwa [block_of_add] at this
    · have hj : j < len := by
        have := (List.getElem?_eq_some_iff.1 hu).1
        rwa [bytesV_length, List.length_map, hlt] at this
      rw [hcell j (by omega)]
      rw [← hu]
      have hjz : j < zs.length := by omega
      have hw := hwz zs[j] (List.getElem_mem hjz)
      simp [Lit.wf, IntKind.min, IntKind.max, IntKind.signed, IntKind.bits] at hw
      simp only [bytesV, List.getElem?_map, List.getElem?_take_of_lt hj, List.getElem?_eq_getElem hjz, Option.map_some, List.getD, Option.getD_some]
      have e : ((UInt8.ofNat zs[j].toNat).toNat : Int) = zs[j] := by
        rw [show (UInt8.ofNat zs[j].toNat).toNat = zs[j].toNat % 256 by simp]
        omega
      rw [e]
theorem open_bytes {A : Option Addr} {n c : Nat} {d : DataW H} {p : List MemPlace} (h : DataW.Trod enc Try.prog W 0 (fun _ => true) true 27 (.slice A n c) d p) :
    ∃ bs : List UInt8, n = bs.length ∧ n ≤ c ∧ RdB W W.heap.size A bs := by
  obtain ⟨fuel, hf⟩ := h
  obtain ⟨A', n', c', bs, e, h1, h2, h3⟩ := open_bytes_cs hf
  simp [Value.cells] at e
  obtain ⟨rfl, rfl, rfl⟩ := e
  exact ⟨bs, h1, h2, h3⟩

theorem lists_of {P : Nat → Value → List UInt8 → Prop} (n : Nat) (h : ∀ i, i < n → ∃ v bs, P i v bs) :
    ∃ (hs : List Value) (L : List (List UInt8)), hs.length = n ∧ L.length = n ∧ ∀ i v bs, hs[i]? = some v → L[i]? = some bs → P i v bs := by
  induction n with
  | zero => exact ⟨[], [], rfl, rfl, fun i v bs h => by simp at h⟩
  | succ n ih =>
    obtain ⟨hs, L, h1, h2, h3⟩ := ih fun i hi => h i (by omega)
    obtain ⟨v, bs, hv⟩ := h n (by omega)
    refine ⟨hs ++ [v], L ++ [bs], by simp [h1], by simp [h2], fun i v' bs' hv' hb' => ?_⟩
    by_cases hi : i < n
    · rw [List.getElem?_append_left (by omega)] at hv' hb'
      exact h3 i v' bs' hv' hb'
    · have hi' : i < n + 1 := by
        have := (List.getElem?_eq_some_iff.1 hv').1
        simpa [h1] using this
      obtain rfl : i = n := by omega
      rw [List.getElem?_append_right (by omega), h1, Nat.sub_self] at hv'
      rw [List.getElem?_append_right (by omega), h2, Nat.sub_self] at hb'
      simp at hv' hb'
      subst hv' hb'
      exact hv

theorem open_hdrs {A : Option Addr} {n c : Nat} {d : DataW H} {p : List MemPlace} (h : DataW.Trod enc Try.prog W 0 (fun _ => true) true 35 (.slice A n c) d p) :
    ∃ L : List (List UInt8), n = L.length ∧ n ≤ c ∧ RdBB W W.heap.size A L := by
  obtain ⟨fuel, hf⟩ := h
  rcases Go.Deep.open_slice Try.underlying35 hf with ⟨hcs, _⟩ | ⟨a, len, cap, m, k, D, Pl, hcs, _, hl, _, hm, _, hel⟩
  · simp [Value.cells] at hcs
    obtain ⟨rfl, rfl, rfl⟩ := hcs
    exact ⟨[], rfl, Nat.le_refl _, [], ⟨rfl, fun h => absurd h (by simp)⟩, fun i hi => absurd hi (by simp)⟩
  · simp [Value.cells] at hcs
    obtain ⟨rfl, rfl, rfl⟩ := hcs
    simp at hm
    have each : ∀ i, i < n → ∃ v bs, W.cell? (a.add i) = some v ∧ HdB W W.heap.size v bs := fun i hi => by
      obtain ⟨cs', h1, h2⟩ := hel i (by omega)
      rw [cells_hdr, Nat.mul_one] at h1
      obtain ⟨A', n', c', bs, rfl, e1, _, e3⟩ := open_bytes_cs h2
      subst e1
      exact ⟨_, bs, Go.ChangeShapes.cell_of_cells?_one h1, A', c', rfl, e3⟩
    obtain ⟨hs, L, h1, h2, h3⟩ := lists_of n each
    refine ⟨L, h2.symm, hl, hs, ⟨by rw [h1, h2, Nat.mul_one], fun h0 => ⟨a, rfl, ?_, fun j u hu => ?_⟩⟩, fun i hi => ?_⟩
    · obtain ⟨v, bs, hv, _⟩ := each 0 (by omega)
      have := block_of_cell hv
      rwa [block_of_add] at this
    · have hj : j < n := by
        have := (List.getElem?_eq_some_iff.1 hu).1
        omega
      exact (h3 j u _ hu (List.getElem?_eq_getElem (by omega))).1
    · have hi' : i < hs.length := by omega
      exact ⟨_, List.getElem?_eq_getElem hi', (h3 i _ _ (List.getElem?_eq_getElem hi') (List.getElem?_eq_getElem hi)).2⟩
end
end Go.Proofs.Ytgnfodfbgkbnbaa.byt
