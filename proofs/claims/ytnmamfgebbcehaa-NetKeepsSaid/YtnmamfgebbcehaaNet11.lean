/- slices.DeleteFunc of packets with Cut's test. -/
import Derived.Test.YtnmamfgebbcehaaNet10
namespace Go.Proofs.Ytnmamfgebbcehaa.pk
open Go.RowKit Go.Proofs.Ytnmamfgebbcehaa.lib Go.Proofs.Ytnmamfgebbcehaa.byt
set_option linter.unusedVariables false

theorem pkV_set3 (H : List Hd) (k : Nat) (h : k < H.length) (a b : Int) (u : Value) : (((pkV H).set (k * 3) (.int .i64 a)).set (k * 3 + 1) (.int .i64 b)).set (k * 3 + 2) u = pkV (H.set k (a, b, u)) := by
  induction H generalizing k with
  | nil => simp at h
  | cons m H ih =>
    rcases k with _ | k
    · rfl
    · have := ih k (by simpa using h)
      rw [show (k + 1) * 3 = k * 3 + 1 + 1 + 1 by omega, show k * 3 + 1 + 1 + 1 + 1 = (k * 3 + 1) + 1 + 1 + 1 by omega, show k * 3 + 1 + 1 + 1 + 2 = (k * 3 + 2) + 1 + 1 + 1 by omega]
      simp only [pkV, List.set_cons_succ, this]
theorem filter_rel {α β : Type} (R : α → β → Prop) (f : α → Bool) (g : β → Bool) (hfg : ∀ a b, R a b → f a = g b) : ∀ (H : List α) (P : List β), H.length = P.length → (∀ i (h : i < H.length) (h' : i < P.length), R H[i] P[i]) →
    (H.filter f).length = (P.filter g).length ∧ ∀ i (h : i < (H.filter f).length) (h' : i < (P.filter g).length), R (H.filter f)[i] (P.filter g)[i] := by
  intro H
  induction H with
  | nil =>
    intro P hl _
    have : P = [] := List.eq_nil_of_length_eq_zero (by simpa using hl.symm)
    subst this
    exact ⟨rfl, fun i h => absurd h (by simp)⟩
  | cons a H ih =>
    intro P hl hR
    rcases P with _ | ⟨b, P⟩
    · simp at hl
    · have h0 := hR 0 (by simp) (by simp)
      simp only [List.getElem_cons_zero] at h0
      obtain ⟨i1, i2⟩ := ih P (by simpa using hl) (fun i h h' => by
        have := hR (i + 1) (by simpa using h) (by simpa using h')
        simpa using this)
      have e := hfg a b h0
      by_cases hf : f a = true
      · have hg : g b = true := by rw [← e]; exact hf
        simp only [List.filter_cons, hf, hg, if_true]
        refine ⟨by simp [i1], fun i h h' => ?_⟩
        rcases i with _ | i
        · simpa using h0
        · have := i2 i (by simpa using h) (by simpa using h')
          simpa using this
      · have hg : ¬ g b = true := by rw [← e]; exact hf
        simp only [List.filter_cons, hf, hg]
        exact ⟨i1, i2⟩
def keepH (x : Int) (h : Hd) : Bool := h.2.1 != x
def cutL (x : Int) (P : List Pk) : List Pk := P.filter fun p => p.2.1 != x
theorem zero_one (n : Nat) : ∀ v ∈ (Builtin.zeroCells (Value.agg #[.int .i64 0, .int .i64 0, .slice none 0 0]).cells n).toList, v.oneCell' = true := by
  intro v hv
  have e : (Value.agg #[.int .i64 0, .int .i64 0, .slice none 0 0]).cells = #[.int .i64 0, .int .i64 0, .slice none 0 0] := by first | rfl | kernel_rfl | simp [Value.cells]
  rw [e] at hv
  unfold Builtin.zeroCells at hv
  simp only [Array.toList_map, List.mem_map] at hv
  obtain ⟨i, _, rfl⟩ := hv
  have h3 : i % 3 = 0 ∨ i % 3 = 1 ∨ i % 3 = 2 := by omega
  have hs : (#[Value.int .i64 0, .int .i64 0, .slice none 0 0] : Array Value).size = 3 := rfl
  rw [hs]
  rcases h3 with h | h | h <;> rw [h] <;> rfl
theorem zero_len (n : Nat) : (Builtin.zeroCells (Value.agg #[.int .i64 0, .int .i64 0, .slice none 0 0]).cells n).toList.length = n * 3 := by
  rw [Array.length_toList, size_zeroCells]
  have e : (Value.agg #[.int .i64 0, .int .i64 0, .slice none 0 0]).cells.size = 3 := by first | rfl | kernel_rfl
  rw [e]

def DInv (w wr : World) (B g n c : Nat) (H : List Hd) (x : Int) (j i : Nat) : Prop :=
  ∃ H' : List Hd, wr.ownsRow B 29 3 (.slice (some ⟨g, 0, none⟩) n c) n (pkV H') ∧ H'.take i = (H.take j).filter (keepH x) ∧ H'.drop j = H.drop j ∧ Upd w wr (some ⟨g, 0, none⟩) 0 (some ⟨g, 0, none⟩)
theorem len_of_own {w : World} {B g n c : Nat} {H : List Hd} (h : w.ownsRow B 29 3 (.slice (some ⟨g, 0, none⟩) n c) n (pkV H)) : H.length = n := by
  have := h.1
  rw [pkV_length] at this
  omega
theorem DInv.row {w wr : World} {B g n c : Nat} {H : List Hd} {x : Int} {j i : Nat} (h : DInv w wr B g n c H x j i) (hH : H.length = n) (hj : j < n) :
    wr.cell? ⟨g, j * 3, none⟩ = some (.int .i64 (H[j]'(by omega)).1) ∧ wr.cell? ⟨g, j * 3 + 1, none⟩ = some (.int .i64 (H[j]'(by omega)).2.1) ∧ wr.cell? ⟨g, j * 3 + 2, none⟩ = some (H[j]'(by omega)).2.2 := by
  obtain ⟨H', h1, _, h3, _⟩ := h
  have hl := len_of_own h1
  obtain ⟨g1, g2, g3⟩ := pkV_get H' j (by omega)
  have e : H'[j]'(by omega) = H[j]'(by omega) := by
    have e0 := congrArg (fun l => l[0]?) h3
    simp only [List.getElem?_drop, Nat.add_zero] at e0
    rw [List.getElem?_eq_getElem (by omega), List.getElem?_eq_getElem (by omega)] at e0
    injection e0
  rw [← e]
  exact ⟨by rw [h1.cellAt (j * 3) (by omega), Nat.mul_comm, g1], by rw [h1.cellAt (j * 3 + 1) (by omega), Nat.mul_comm, g2], by rw [h1.cellAt (j * 3 + 2) (by omega), Nat.mul_comm, g3]⟩
theorem DInv.there {w wr : World} {B g n c : Nat} {H : List Hd} {x : Int} {j i : Nat} (h : DInv w wr B g n c H x j i) (hi : i < n) :
    ∃ u0 u1 u2, wr.cell? ⟨g, i * 3, none⟩ = some u0 ∧ wr.cell? ⟨g, i * 3 + 1, none⟩ = some u1 ∧ wr.cell? ⟨g, i * 3 + 2, none⟩ = some u2 ∧ ∀ k, wr.frozen? ⟨g, k, none⟩ = false := by
  obtain ⟨H', h1, _, _, _⟩ := h
  have hl := len_of_own h1
  obtain ⟨g1, g2, g3⟩ := pkV_get H' i (by omega)
  refine ⟨.int .i64 (H'[i]'(by omega)).1, .int .i64 (H'[i]'(by omega)).2.1, (H'[i]'(by omega)).2.2, ?_, ?_, ?_, fun k => h1.frozenAt k⟩
  · rw [h1.cellAt (i * 3) (by omega), Nat.mul_comm, g1]
  · rw [h1.cellAt (i * 3 + 1) (by omega), Nat.mul_comm, g2]
  · rw [h1.cellAt (i * 3 + 2) (by omega), Nat.mul_comm, g3]
theorem DInv.below {w wr wx : World} {B g n c : Nat} {H : List Hd} {x : Int} {j i : Nat} (h : DInv w wr B g n c H x j i) (hb : Below wr.heap.size wr wx) (hg : g < w.heap.size) : DInv w wx B g n c H x j i := by
  obtain ⟨H', h1, h2, h3, h4⟩ := h
  have hA : ∀ ad, (some ⟨g, 0, none⟩ : Option Addr) = some ad → ad.block < w.heap.size := fun ad e => by injection e with e; subst e; exact hg
  refine ⟨H', own_below h1 hb (Nat.le_refl _), h2, h3, h4.trans (Upd.of_below hb fun ad e => Nat.lt_of_lt_of_le (hA ad e) h4.size) (Nat.le_refl _) hA⟩
theorem take_snoc {α : Type} (l : List α) (k : Nat) (h : k < l.length) : l.take (k + 1) = l.take k ++ [l[k]] := by
  rw [← List.take_append_getElem h]
theorem DInv.skip {w wr : World} {B g n c : Nat} {H : List Hd} {x : Int} {j i : Nat} (h : DInv w wr B g n c H x j i) (hH : H.length = n) (hj : j < n) (hx : (H[j]'(by omega)).2.1 = x) : DInv w wr B g n c H x (j + 1) i := by
  obtain ⟨H', h1, h2, h3, h4⟩ := h
  refine ⟨H', h1, ?_, ?_, h4⟩
  · rw [take_snoc H j (by omega), List.filter_append, h2]
    simp [keepH, hx]
  · rw [← List.drop_drop, ← List.drop_drop, h3]
theorem DInv.store {w wr : World} {B g n c : Nat} {H : List Hd} {x : Int} {j i : Nat} (h : DInv w wr B g n c H x j i) (hH : H.length = n) (hj : j < n) (hij : i < j) (hx : (H[j]'(by omega)).2.1 ≠ x) (a b : Int) (u : Value) (he : H[j]'(by omega) = (a, b, u)) (hg : g < w.heap.size) :
    DInv w (((wr.setCell ⟨g, i * 3, none⟩ (.int .i64 a)).setCell ⟨g, i * 3 + 1, none⟩ (.int .i64 b)).setCell ⟨g, i * 3 + 2, none⟩ u) B g n c H x (j + 1) (i + 1) := by
  obtain ⟨H', h1, h2, h3, h4⟩ := h
  have hl := len_of_own h1
  obtain ⟨s1, t1⟩ := h1.stored (i * 3) (.int .i64 a)
  obtain ⟨s2, t2⟩ := s1.stored (i * 3 + 1) (.int .i64 b)
  obtain ⟨s3, t3⟩ := s2.stored (i * 3 + 2) u
  rw [pkV_set3 H' i (by omega)] at s3
  refine ⟨H'.set i (a, b, u), s3, ?_, ?_, ?_⟩
  · rw [take_snoc _ i (by rw [List.length_set]; omega), List.take_set_of_le (Nat.le_refl _), List.getElem_set_self, h2, take_snoc H j (by omega), List.filter_append, he]
    have hb : b ≠ x := by rw [he] at hx; exact hx
    rw [List.filter_cons_of_pos (by simp [keepH, hb]), List.filter_nil]
  · rw [List.drop_set_of_lt (by omega), ← List.drop_drop, ← List.drop_drop, h3]
  · have hgr : w.grownBy (((wr.setCell ⟨g, i * 3, none⟩ (.int .i64 a)).setCell ⟨g, i * 3 + 1, none⟩ (.int .i64 b)).setCell ⟨g, i * 3 + 2, none⟩ u) (some g) := ((h4.grown.trans t1).trans t2).trans t3
    exact ⟨hgr, fun ad k _ hk => absurd hk (by omega), .inl rfl⟩
/-- At the loop's end: the row behind 'clear(s[i:])'. -/
theorem DInv.clear {w wr : World} {B g n c : Nat} {H : List Hd} {x : Int} {i : Nat} (h : DInv w wr B g n c H x n i) (hH : H.length = n) (hi : i < n) (hg : g < w.heap.size) (cp : Nat) (ty : TypeId) :
    ∃ w', (Builtin.clear_ #[22] ty #[.slice (some ⟨g, i * 3, none⟩) (n - i) cp]).run Try.prog wr = .ok (.tuple #[]) w' ∧ w'.ownsRow B 29 3 (.slice (some ⟨g, 0, none⟩) i c) i (pkV (H.filter (keepH x))) ∧ Upd w w' (some ⟨g, 0, none⟩) 0 (some ⟨g, 0, none⟩) := by
  obtain ⟨H', h1, h2, h3, h4⟩ := h
  have hl := len_of_own h1
  have hx := h1
  rcases hx.2 with ⟨e5, hz⟩ | ⟨g', cap, cur, e5, hbg, hh, hcap, hmax, hcs, htk⟩
  · omega
  · injection e5 with e5 _ e6
    injection e5 with e5
    injection e5 with e5
    subst e5 e6
    have hzl := zero_len (n - i)
    have hfit : i * 3 + (n - i) * 3 ≤ cur.size := by rw [hcs, ← Nat.add_mul]; exact Nat.mul_le_mul_right _ (by omega)
    have hrun := clear_row (P := Try.prog) wr 22 29 ty _ Try.underlying22 zero_pk (o := i * 3) (n := n - i) (c := cp) hh (by omega) _ rfl (zero_one _) (by rw [hzl]; exact hfit)
    refine ⟨_, hrun, ⟨?_, .inr ⟨g, c, _, rfl, hbg, setRow_heap wr g cur _ _ _ hh, by omega, hmax, ?_, ?_⟩⟩, ?_⟩
    · rw [← List.take_of_length_le (Nat.le_of_eq hH), ← h2, pkV_length, List.length_take, hl, Nat.min_eq_left (by omega)]
    · simp only [List.size_toArray, List.length_append, List.length_take, List.length_drop, hzl, Array.length_toList]
      omega
    · rw [List.append_assoc, List.take_append_of_le_length (by rw [List.length_take, Array.length_toList]; omega), List.take_take, Nat.min_self]
      rw [← List.take_of_length_le (Nat.le_of_eq hH), ← h2, ← pkV_take, ← htk, List.take_take, Nat.min_eq_left (by omega)]
    · refine ⟨h4.grown.trans ⟨rfl, rfl, rfl, by simp [World.setRow], fun k _ hk => setRow_other wr g k _ (fun e => hk (by simp [e]))⟩, fun ad k _ hk => absurd hk (by omega), .inl rfl⟩
end Go.Proofs.Ytnmamfgebbcehaa.pk
