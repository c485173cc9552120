/- Opener for [][]byte among the arguments. -/
import Derived.Test.YtjipjfionelpkaaOpenD
namespace Go.Proofs.Ytjipjfionelpkaa.dk
open Go.RowKit Go.Proofs.Ytjipjfionelpkaa.lib Go.Proofs.Ytjipjfionelpkaa.byt
set_option linter.unusedVariables false
section
variable {H : Type} {enc : TypeId × Value → H} {W : World}
theorem cells_hdr : Try.prog.cellsOf 22 = 1 := by kernel_rfl
theorem cells_int : Try.prog.cellsOf 3 = 1 := by kernel_rfl
theorem lists_of {P : Nat → Value → List UInt8 → Prop} (n : Nat) (h : ∀ i, i < n → ∃ v bs, P i v bs) :
    ∃ (hs : List Value) (L : List (List UInt8)), hs.length = n ∧ L.length = n ∧ ∀ i v bs, hs[i]? = some v → L[i]? = some bs → P i v bs := by
  induction n with
  | zero => exact ⟨[], [], rfl, rfl, fun i v bs h => by simp at h⟩
  | succ n ih =>
    obtain ⟨hs, L, h1, h2, h3⟩ := ih fun i hi => h i (by omega)
    obtain ⟨v, bs, hv⟩ := h n (by omega)
    refine ⟨hs ++ [v], L ++ [bs], by simp [h1], by simp [h2], fun i v' bs' hv' hb' => ?_⟩
    by_cases hi : i < n
    · rw [List.getElem?_append_left (by omega)] at hv' hb'
      exact h3 i v' bs' hv' hb'
    · have hi' : i < n + 1 := by
        have := (List.getElem?_eq_some_iff.1 hv').1
        simpa [h1] using this
      obtain rfl : i = n := by omega
      rw [List.getElem?_append_right (by omega), h1, Nat.sub_self] at hv'
      rw [List.getElem?_append_right (by omega), h2, Nat.sub_self] at hb'
      simp at hv' hb'
      subst hv' hb'
      exact hv

theorem open_hdrs {A : Option Addr} {n c : Nat} {d : DataW H} {p : List MemPlace} (h : DataW.Trod enc Try.prog W 0 (fun _ => true) true 43 (.slice A n c) d p) :
    ∃ L : List (List UInt8), n = L.length ∧ n ≤ c ∧ RdBB W W.heap.size A L := by
  obtain ⟨fuel, hf⟩ := h
  rcases Go.Deep.open_slice Try.underlying43 hf with ⟨hcs, _⟩ | ⟨a, len, cap, m, k, D, Pl, hcs, _, hl, _, hm, _, hel⟩
  · simp [Value.cells] at hcs
    obtain ⟨rfl, rfl, rfl⟩ := hcs
    exact ⟨[], rfl, Nat.le_refl _, [], ⟨rfl, fun h => absurd h (by simp)⟩, fun i hi => absurd hi (by simp)⟩
  · simp [Value.cells] at hcs
    obtain ⟨rfl, rfl, rfl⟩ := hcs
    simp at hm
    have each : ∀ i, i < n → ∃ v bs, W.cell? (a.add i) = some v ∧ HdB W W.heap.size v bs := fun i hi => by
      obtain ⟨cs', h1, h2⟩ := hel i (by omega)
      rw [cells_hdr, Nat.mul_one] at h1
      obtain ⟨A', n', c', bs, rfl, e1, _, e3⟩ := open_bytes_cs h2
      subst e1
      exact ⟨_, bs, Go.ChangeShapes.cell_of_cells?_one h1, A', c', rfl, e3⟩
    obtain ⟨hs, L, h1, h2, h3⟩ := lists_of n each
    refine ⟨L, h2.symm, hl, hs, ⟨by rw [h1, h2, Nat.mul_one], fun h0 => ⟨a, rfl, ?_, fun j u hu => ?_⟩⟩, fun i hi => ?_⟩
    · obtain ⟨v, bs, hv, _⟩ := each 0 (by omega)
      have := block_of_cell hv
      rwa [block_of_add] at this
    · have hj : j < n := by
        have := (List.getElem?_eq_some_iff.1 hu).1
        omega
      exact (h3 j u _ hu (List.getElem?_eq_getElem (by omega))).1
    · have hi' : i < hs.length := by omega
      exact ⟨_, List.getElem?_eq_getElem hi', (h3 i _ _ (List.getElem?_eq_getElem hi') (List.getElem?_eq_getElem hi)).2⟩
end
end Go.Proofs.Ytjipjfionelpkaa.dk
