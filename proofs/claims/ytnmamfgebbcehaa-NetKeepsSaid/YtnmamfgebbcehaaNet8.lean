/- slices.Delete of one packet of a list of the call's own; what net's Take and Drop answer. -/
import Derived.Test.YtnmamfgebbcehaaNet7
import Derived.BigRegion
namespace Go.Proofs.Ytnmamfgebbcehaa.pk
open Go.RowKit Go.Proofs.Ytnmamfgebbcehaa.lib Go.Proofs.Ytnmamfgebbcehaa.byt

theorem pkV_take (H : List Hd) (i : Nat) : (pkV H).take (i * 3) = pkV (H.take i) := by
  induction H generalizing i with
  | nil => simp [pkV]
  | cons h H ih =>
    rcases i with _ | i
    · rfl
    · rw [show (i + 1) * 3 = i * 3 + 1 + 1 + 1 by omega]
      simp [pkV, ih]
theorem pkV_drop (H : List Hd) (i : Nat) : (pkV H).drop (i * 3) = pkV (H.drop i) := by
  induction H generalizing i with
  | nil => simp [pkV]
  | cons h H ih =>
    rcases i with _ | i
    · rfl
    · rw [show (i + 1) * 3 = i * 3 + 1 + 1 + 1 by omega]
      simp [pkV, ih]
theorem row2_take (cur : List Value) (H : List Hd) (k i : Nat) (hi : i ≤ k) (hH : H.length = k + 1) (hc : cur.take ((k + 1) * 3) = pkV H) : (row2 cur k i).take (k * 3) = pkV (H.eraseIdx i) := by
  have hl := pkV_length H
  have hcl : (k + 1) * 3 ≤ cur.length := by
    have := congrArg List.length hc
    rw [hl, List.length_take, hH] at this
    omega
  have h1 : cur.take (i * 3) = pkV (H.take i) := by
    rw [← pkV_take, ← hc, List.take_take, Nat.min_eq_left (by omega)]
  have h2 : (cur.drop ((i + 1) * 3)).take ((k - i) * 3) = pkV (H.drop (i + 1)) := by
    rw [← pkV_drop, ← hc, List.drop_take, show (k + 1) * 3 - (i + 1) * 3 = (k - i) * 3 by omega]
  have h3 : (pkV (H.take i) ++ pkV (H.drop (i + 1))).length = k * 3 := by
    rw [List.length_append, pkV_length, pkV_length, List.length_take, List.length_drop]
    omega
  unfold row2
  rw [List.append_assoc, List.take_append_of_le_length (by rw [List.length_take, row1_length _ _ _ hi hcl]; omega), List.take_take, Nat.min_self]
  unfold row1
  rw [h1, h2, ← h3, List.take_left, ← pkV_append, List.eraseIdx_eq_take_drop_succ]
theorem row2_length (cur : List Value) (k i : Nat) (hi : i ≤ k) (h : (k + 1) * 3 ≤ cur.length) : (row2 cur k i).length = cur.length := by
  unfold row2
  simp only [List.length_append, List.length_take, List.length_drop, row1_length _ _ _ hi h, zero3, List.length_cons, List.length_nil]
  omega

/-- Only the row's own block has been written to. -/
structure Only (w w' : World) (g : Nat) : Prop where
  other : ∀ b, b ≠ g → w'.heap[b]? = w.heap[b]?
  size : w'.heap.size = w.heap.size
  os : w'.os = w.os
  tape : w'.tape = w.tape
  output : w'.output = w.output
theorem Only.below {w w' : World} {g B : Nat} (h : Only w w' g) (hg : B ≤ g) : Below B w w' := ⟨h.os, h.tape, h.output, by rw [h.size]; exact Nat.le_refl _, fun b hb => h.other b (by omega)⟩
theorem Only.cell {w w' : World} {g : Nat} (h : Only w w' g) {p : Addr} (hp : p.block ≠ g) : w'.cell? p = w.cell? p := World.cell?_of_block (h.other _ hp)
theorem Only.frozen {w w' : World} {g : Nat} (h : Only w w' g) {p : Addr} (hp : p.block ≠ g) : w'.frozen? p = w.frozen? p := World.frozen?_of_block (h.other _ hp)
theorem ElemB.only {w w' : World} {B g : Nat} {A : Option Addr} {v : Value} {r : List UInt8} (h : ElemB w B A v r) (hg : A.map (·.block) = some g) (hu : Only w w' g) : ElemB w' B A v r := by
  obtain ⟨Ai, ci, e, hr, ha⟩ := h
  have hne : ∀ ad, Ai = some ad → ad.block ≠ g := fun ad e e2 => (ha ad e).2.2.1 (by rw [hg, e2])
  refine ⟨Ai, ci, e, ⟨hr.1, fun hn => ?_⟩, fun ad ea => ?_⟩
  · obtain ⟨ad, e2, hb, hc⟩ := hr.2 hn
    refine ⟨ad, e2, by rw [hu.size]; exact hb, fun j u hu' => ?_⟩
    rw [hu.cell (by rw [block_of_add]; exact hne ad e2)]
    exact hc j u hu'
  · obtain ⟨h1, h2, h3, h4⟩ := ha ad ea
    refine ⟨by rw [hu.size]; exact h1, h2, h3, fun j hj => ?_⟩
    rw [hu.frozen (by rw [block_of_add]; exact hne ad ea)]
    exact h4 j hj
theorem OwnPN.row {w : World} {B : Nat} {A : Option Addr} {c x : Nat} {P : List Pk} (h : OwnPN w B A c P x) {k : Nat} (hk : k < P.length) :
    ∃ g Ai ci, A = some ⟨g, 0, none⟩ ∧ B ≤ g ∧ g < w.heap.size ∧ g ≠ x ∧ w.cell? ⟨g, k * 3, none⟩ = some (.int .i64 P[k].1) ∧ w.cell? ⟨g, k * 3 + 1, none⟩ = some (.int .i64 P[k].2.1) ∧
      w.cell? ⟨g, k * 3 + 2, none⟩ = some (.slice Ai P[k].2.2.length ci) ∧ ElemB w B A (.slice Ai P[k].2.2.length ci) P[k].2.2 ∧ (Value.slice Ai P[k].2.2.length ci).ownBlock ≠ some x := by
  obtain ⟨H, h1, h2, h0, h3⟩ := h
  obtain ⟨e1, e2, he, e3⟩ := h3 k (by omega) hk
  obtain ⟨Ai, ci, e4, hr⟩ := id he
  obtain ⟨g1, g2, g3⟩ := pkV_get H k (by omega)
  rcases h1.2 with ⟨e5, hz⟩ | ⟨g, cap, cur, e5, hg, hh, _⟩
  · omega
  · injection e5 with e5 _ e6
    subst e5 e6
    rw [e4] at he e3
    refine ⟨g, Ai, ci, rfl, hg, (Array.getElem?_eq_some_iff.1 hh).1, fun e => h0 (by simp [e]), ?_, ?_, ?_, he, e3⟩
    · rw [h1.cellAt (k * 3) (by omega), Nat.mul_comm, g1, e1]
    · rw [h1.cellAt (k * 3 + 1) (by omega), Nat.mul_comm, g2, e2]
    · rw [h1.cellAt (k * 3 + 2) (by omega), Nat.mul_comm, g3, e4]
theorem eraseIdx_get_pk {α : Type} (l : List α) (i j : Nat) (h : j < (l.eraseIdx i).length) : ∃ j', ∃ (h' : j' < l.length), (l.eraseIdx i)[j] = l[j'] ∧ j' = if j < i then j else j + 1 := by
  by_cases hj : j < i
  · refine ⟨j, ?_, List.getElem_eraseIdx_of_lt h hj, by simp [hj]⟩
    have := List.length_eraseIdx_le l i
    omega
  · have hl := List.length_eraseIdx (l := l) (i := i)
    have hlt : j + 1 < l.length := by
      by_cases hi : i < l.length
      · rw [hl, if_pos hi] at h; omega
      · rw [hl, if_neg hi] at h; omega
    exact ⟨j + 1, hlt, List.getElem_eraseIdx_of_ge h (by omega), by simp [hj]⟩

theorem deleteP_any (w : World) {B g c i n x : Nat} {P : List Pk} (hn : n = P.length) (ho : OwnPN w B (some ⟨g, 0, none⟩) c P x) (hi : i < n) :
    Calls Try.prog 24 #[.slice (some ⟨g, 0, none⟩) n c, .int .i64 i, .int .i64 (i + 1)] w fun e w' => e = .returned (.slice (some ⟨g, 0, none⟩) (n - 1) c) ∧ OwnPN w' B (some ⟨g, 0, none⟩) c (P.eraseIdx i) x ∧ Only w w' g := by
  obtain ⟨k, rfl⟩ : ∃ k, n = k + 1 := ⟨n - 1, by omega⟩
  obtain ⟨H, h1, h2, h0, h3⟩ := ho
  rw [← hn] at h1
  have hx := h1
  obtain ⟨hl, hr⟩ := hx
  rcases hr with ⟨e5, hz⟩ | ⟨g', cap, cur, e5, hbg, hh, hcap, hmax, hcs, htk⟩
  · omega
  · injection e5 with e5 _ e6
    injection e5 with e5
    injection e5 with e5
    subst e5 e6
    have hone : ∀ v ∈ cur.toList.take ((k + 1) * 3), v.oneCell' = true := by
      rw [htk]
      refine hold_one (w := w) (B := w.heap.size) (P := P) ⟨h2, fun j g1 g2 => ?_⟩
      obtain ⟨a, b, d, _⟩ := h3 j g1 g2
      exact ⟨a, b, d.hd⟩
    refine (delete_row w (i := i) hh hcs (by omega) hcap hone).mono ?_
    rintro e w' ⟨rfl, hg', hoth, hsz, hos, htp, hout⟩
    have hon : Only w w' g := ⟨hoth, hsz, hos, htp, hout⟩
    have hel : (P.eraseIdx i).length = k := by rw [List.length_eraseIdx, if_pos (by omega)]; omega
    have hHl : (H.eraseIdx i).length = k := by rw [List.length_eraseIdx, if_pos (by omega)]; omega
    have hcl : (k + 1) * 3 ≤ cur.toList.length := by simp only [Array.length_toList]; rw [hcs]; exact Nat.mul_le_mul_right _ hcap
    refine ⟨rfl, ⟨H.eraseIdx i, ?_, by rw [hHl, hel], h0, fun j g1 g2 => ?_⟩, hon⟩
    · rw [hel]
      refine ⟨by rw [pkV_length, hHl], .inr ⟨g, c, _, rfl, hbg, hg', by omega, hmax, ?_, ?_⟩⟩
      · simp only [List.size_toArray]
        rw [row2_length _ _ _ (by omega) hcl]
        simpa using hcs
      · rw [row2_take cur.toList H k i (by omega) (by omega) htk]
    · obtain ⟨j1, q1, e1, f1⟩ := eraseIdx_get_pk H i j g1
      obtain ⟨j2, q2, e2, f2⟩ := eraseIdx_get_pk P i j g2
      obtain rfl : j1 = j2 := by rw [f1, f2]
      rw [e1, e2]
      obtain ⟨a, b, d, d2⟩ := h3 j1 q1 q2
      exact ⟨a, b, d.only rfl hon, d2⟩
end Go.Proofs.Ytnmamfgebbcehaa.pk
