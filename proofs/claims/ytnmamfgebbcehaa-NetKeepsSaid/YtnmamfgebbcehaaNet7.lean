/- slices.Delete of one packet. -/
import Derived.Test.YtnmamfgebbcehaaNet6
namespace Go.Proofs.Ytnmamfgebbcehaa.pk
open Go.RowKit Go.Proofs.Ytnmamfgebbcehaa.lib Go.Proofs.Ytnmamfgebbcehaa.byt

def zero3 : List Value := [.int .i64 0, .int .i64 0, .slice none 0 0]
/-- The row behind the append of Delete, and behind its clear. -/
def row1 (cur : List Value) (k i : Nat) : List Value := cur.take (i * 3) ++ (cur.drop ((i + 1) * 3)).take ((k - i) * 3) ++ cur.drop (k * 3)
def row2 (cur : List Value) (k i : Nat) : List Value := (row1 cur k i).take (k * 3) ++ zero3 ++ (row1 cur k i).drop (k * 3 + 3)
theorem row1_length (cur : List Value) (k i : Nat) (hi : i ≤ k) (h : (k + 1) * 3 ≤ cur.length) : (row1 cur k i).length = cur.length := by
  unfold row1
  simp only [List.length_append, List.length_take, List.length_drop]
  omega

set_option maxHeartbeats 2000000 in
theorem delete_row (w : World) {g c i k : Nat} {cur : Array Value} (hg : w.heap[g]? = some (.cells cur 29 (0, 0))) (hcs : cur.size = c * 3) (hi : i ≤ k) (hkc : k + 1 ≤ c) (h1 : ∀ v ∈ cur.toList.take ((k + 1) * 3), v.oneCell' = true) :
    Calls Try.prog 24 #[.slice (some ⟨g, 0, none⟩) (k + 1) c, .int .i64 i, .int .i64 (i + 1)] w fun e w' => e = .returned (.slice (some ⟨g, 0, none⟩) k c) ∧
      w'.heap[g]? = some (.cells (row2 cur.toList k i).toArray 29 (0, 0)) ∧ (∀ b, b ≠ g → w'.heap[b]? = w.heap[b]?) ∧ w'.heap.size = w.heap.size ∧ w'.os = w.os ∧ w'.tape = w.tape ∧ w'.output = w.output := by
  have q0 : ((i : Int) == (i : Int) + 1) = false := by simp only [beq_eq_false_iff_ne, ne_eq]; omega
  have q1 : ¬ (i : Int) = (i : Int) + 1 := by omega
  have hl : cur.toList.length = c * 3 := by simpa using hcs
  have hr1 : (row1 cur.toList k i).toArray.size = c * 3 := by simp only [List.size_toArray]; rw [row1_length _ _ _ hi (by omega), hl]
  have hR : ∀ (W : World), W.heap = w.heap →
      (Builtin.append_ #[22, 22] 22 #[.slice (some ⟨g, 0, none⟩) i c, .slice (if c = i + 1 then some ⟨g, 0, none⟩ else some ⟨g, (i + 1) * 3, none⟩) (k - i) (c - (i + 1))]).run Try.prog W = .ok (.slice (some ⟨g, 0, none⟩) k c) (W.setRow g (row1 cur.toList k i).toArray) := fun W hW => by
    have hgW : W.heap[g]? = some (.cells cur 29 (0, 0)) := by rw [hW]; exact hg
    obtain ⟨i0, hi0, _, hz1, _⟩ := info_parts info_pk
    have hnl : ((cur.toList.drop ((i + 1) * 3)).take ((k - i) * 3)).length = (k - i) * 3 := by rw [List.length_take, List.length_drop, hl]; omega
    have hrd : Reads W (g + 1) 3 (if c = i + 1 then some ⟨g, 0, none⟩ else some ⟨g, (i + 1) * 3, none⟩) (k - i) ((cur.toList.drop ((i + 1) * 3)).take ((k - i) * 3)) := by
      refine ⟨hnl, fun h0 => ?_⟩
      rw [if_neg (show ¬ c = i + 1 by omega)]
      refine ⟨_, rfl, by simp, fun j u hu => ?_⟩
      have hj : j < (k - i) * 3 := by
        have := (List.getElem?_eq_some_iff.1 hu).1
        rwa [hnl] at this
      rw [Addr.add_lit, cell_of_row W g ((i + 1) * 3 + j) cur _ (0, 0) hgW, ← hu, List.getElem?_take_of_lt hj, List.getElem?_drop]
      simp
    have hone : ∀ u ∈ (cur.toList.drop ((i + 1) * 3)).take ((k - i) * 3), u.oneCell' = true := fun u hu => by
      rw [show (k - i) * 3 = (k + 1) * 3 - (i + 1) * 3 by omega, ← List.drop_take] at hu
      exact h1 u (List.mem_of_mem_drop hu)
    have := append_room (P := Try.prog) W 22 22 22 29 i0 3 Try.underlying22 hi0 hz1 (n := i) (c := c) hgW hcs (Src.of_reads Try.underlying22 (c := c - (i + 1)) hrd hone) (by omega)
    rw [this, hnl, show i + (k - i) = k by omega, show i * 3 + (k - i) * 3 = k * 3 by omega]
    rfl
  have hCl : ∀ (W : World) (cp : Nat), W.heap = w.heap → (Builtin.clear_ #[22] 0 #[.slice (some ⟨g, k * 3, none⟩) 1 cp]).run Try.prog (W.setRow g (row1 cur.toList k i).toArray) = .ok (.tuple #[]) ((W.setRow g (row1 cur.toList k i).toArray).setRow g (row2 cur.toList k i).toArray) := fun W cp hW => by
    have hgW : (W.setRow g (row1 cur.toList k i).toArray).heap[g]? = some (.cells (row1 cur.toList k i).toArray 29 (0, 0)) := setRow_heap W g cur _ _ _ (by rw [hW]; exact hg)
    have := clear_row (P := Try.prog) (W.setRow g (row1 cur.toList k i).toArray) 22 29 0 _ Try.underlying22 zero_pk (o := k * 3) (n := 1) (c := cp) hgW (by decide) zero3 (by first | (simp [Builtin.zeroCells, zero3, Value.cells]; done) | kernel_rfl | decide) (by intro v hv; simp [zero3] at hv; rcases hv with rfl | rfl <;> rfl) (by rw [hr1]; simp [zero3]; omega)
    rw [this]
    rfl
  have HR := Lib.hid hR
  have HCl := Lib.hid hCl
  have hik : (i : Int) ≤ k := by omega
  have hkn : ((k + 1 : Nat) : Int) = (k : Int) + 1 := by omega
  have hkc2 : (k : Int) + 1 ≤ c := by omega
  have hic : (i : Int) ≤ c := by omega
  have hic2 : i ≤ c := by omega
  have hi0 : (0 : Int) ≤ i := by omega
  have hi1 : (0 : Int) ≤ (i : Int) + 1 := by omega
  have hi2 : (i : Int) + 1 ≤ (k : Int) + 1 := by omega
  have hi3 : (i : Int) + 1 ≤ ((k + 1 : Nat) : Int) := by omega
  have hi4 : (i : Int) + 1 ≤ c := by omega
  have hit : ((i : Int) + 1).toNat = i + 1 := by omega
  have hsub : k + 1 - (i + 1) = k - i := by omega
  clear hR hCl h1 hl hr1
  go_enter Try.func24, Try.ntmps24
  go_wp2_with fail
  go_region_law (refine step_append_run rfl rfl (by simp [Act.eval, Act.put]) (by simp [Act.eval, Act.put]) (HR.out _ rfl) ?_)
  go_wp2_with fail
  all_goals
    rw [HCl.out w.drew _ rfl]
    go_wp2_with fail
    go_ret
    refine ⟨by first | rfl | (simp; omega) | simp, setRow_heap _ g (row1 cur.toList k i).toArray _ _ _ (setRow_heap w.drew g cur _ _ _ hg), fun b hb => ?_, ?_, rfl, rfl, rfl⟩
    · rw [setRow_other _ g b _ (by first | exact hb | exact hb.symm), setRow_other _ g b _ (by first | exact hb | exact hb.symm)]
      rfl
    · simp [World.setRow]
end Go.Proofs.Ytnmamfgebbcehaa.pk
