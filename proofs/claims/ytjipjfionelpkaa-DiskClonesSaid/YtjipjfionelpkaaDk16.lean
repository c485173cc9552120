/- Lists of acts: a row of five cells for each, and bytes behind each, in blocks of F. -/
import Derived.Test.YtjipjfionelpkaaDk15
namespace Go.Proofs.Ytjipjfionelpkaa.dk
open Go.RowKit Go.Proofs.Ytjipjfionelpkaa.lib Go.Proofs.Ytjipjfionelpkaa.byt
set_option linter.unusedVariables false

abbrev Ac := Int × Int × List UInt8 × Int × Int
abbrev Ah := Int × Int × Value × Int × Int
def acV : List Ah → List Value
  | [] => []
  | h :: l => .int .u8 h.1 :: .int .i64 h.2.1 :: h.2.2.1 :: .int .i64 h.2.2.2.1 :: .int .i64 h.2.2.2.2 :: acV l
theorem acV_length (H : List Ah) : (acV H).length = H.length * 5 := by
  induction H with
  | nil => rfl
  | cons h H ih => simp only [acV, List.length_cons, ih]; omega
theorem acV_get (H : List Ah) (k : Nat) (h : k < H.length) : (acV H)[5 * k]? = some (.int .u8 H[k].1) ∧ (acV H)[5 * k + 1]? = some (.int .i64 H[k].2.1) ∧ (acV H)[5 * k + 2]? = some H[k].2.2.1 ∧ (acV H)[5 * k + 3]? = some (.int .i64 H[k].2.2.2.1) ∧ (acV H)[5 * k + 4]? = some (.int .i64 H[k].2.2.2.2) := by
  induction H generalizing k with
  | nil => simp at h
  | cons m H ih =>
    rcases k with _ | k
    · exact ⟨rfl, rfl, rfl, rfl, rfl⟩
    · have := ih k (by simpa using h)
      rw [show 5 * (k + 1) = 5 * k + 1 + 1 + 1 + 1 + 1 by omega]
      simpa [acV] using this
theorem acV_append (a b : List Ah) : acV (a ++ b) = acV a ++ acV b := by
  induction a with
  | nil => rfl
  | cons m a ih => simp only [List.cons_append, acV, ih]
/-- The header v leads to the bytes r, in a block of F. -/
def HdF (w : World) (F : Nat → Prop) (v : Value) (r : List UInt8) : Prop := ∃ (A : Option Addr) (c : Nat), v = .slice A r.length c ∧ RdF w F A r ∧ r.length ≤ c
def HoldA (w : World) (F : Nat → Prop) (H : List Ah) (L : List Ac) : Prop :=
  H.length = L.length ∧ ∀ i (h : i < H.length) (h' : i < L.length), H[i].1 = L[i].1 ∧ H[i].2.1 = L[i].2.1 ∧ HdF w F H[i].2.2.1 L[i].2.2.1 ∧ H[i].2.2.2.1 = L[i].2.2.2.1 ∧ H[i].2.2.2.2 = L[i].2.2.2.2
def RdA (w : World) (F : Nat → Prop) (A : Option Addr) (L : List Ac) : Prop := ∃ H, ReadsF w F 5 A L.length (acV H) ∧ HoldA w F H L
section
variable {w w' : World} {F F' : Nat → Prop} {A : Option Addr} {L L2 : List Ac} {H H2 : List Ah} {v : Value} {r : List UInt8}
theorem HdF.bel (h : HdF w F v r) (hb : BelF F w w') : HdF w' F v r := let ⟨A, c, e, h1, h2⟩ := h; ⟨A, c, e, h1.bel hb, h2⟩
theorem HdF.mono (h : HdF w F v r) (hF : ∀ b, F b → F' b) : HdF w F' v r := let ⟨A, c, e, h1, h2⟩ := h; ⟨A, c, e, h1.mono hF, h2⟩
theorem HoldA.bel (h : HoldA w F H L) (hb : BelF F w w') : HoldA w' F H L := ⟨h.1, fun i h1 h2 => let ⟨a, b, c, d, e⟩ := h.2 i h1 h2; ⟨a, b, c.bel hb, d, e⟩⟩
theorem HoldA.mono (h : HoldA w F H L) (hF : ∀ b, F b → F' b) : HoldA w F' H L := ⟨h.1, fun i h1 h2 => let ⟨a, b, c, d, e⟩ := h.2 i h1 h2; ⟨a, b, c.mono hF, d, e⟩⟩
theorem RdA.bel (h : RdA w F A L) (hb : BelF F w w') : RdA w' F A L := let ⟨H, h1, h2⟩ := h; ⟨H, h1.bel hb, h2.bel hb⟩
theorem RdA.mono (h : RdA w F A L) (hF : ∀ b, F b → F' b) : RdA w F' A L := let ⟨H, h1, h2⟩ := h; ⟨H, h1.mono hF, h2.mono hF⟩
theorem RdA.below (h : RdA w F A L) {k : Nat} (hb : Below k w w') (hk : w.heap.size ≤ k) : RdA w' F A L := h.bel (BelF.of hb hk)
theorem RdA.nil : RdA w F none [] := ⟨[], ReadsF.nil, rfl, fun i h => absurd h (by simp)⟩
theorem HoldA.append (h : HoldA w F H L) (h2 : HoldA w F H2 L2) : HoldA w F (H ++ H2) (L ++ L2) := by
  refine ⟨by simp [h.1, h2.1], fun i h3 h4 => ?_⟩
  by_cases hl : i < H.length
  · have hl2 : i < L.length := by rw [← h.1]; exact hl
    rw [List.getElem_append_left hl, List.getElem_append_left hl2]
    exact h.2 i hl hl2
  · have hl2 : L.length ≤ i := by rw [← h.1]; omega
    rw [List.getElem_append_right (by omega), List.getElem_append_right hl2]
    have e : i - H.length = i - L.length := by rw [h.1]
    simp only [e]
    exact h2.2 _ (by simp at h3; have := h.1; omega) (by simp at h4; omega)
theorem HoldA.one {a : Ac} (hd : HdF w F v a.2.2.1) : HoldA w F [(a.1, a.2.1, v, a.2.2.2.1, a.2.2.2.2)] [a] := ⟨rfl, fun i h1 h2 => by
  obtain rfl : i = 0 := by simp at h1; omega
  exact ⟨rfl, rfl, hd, rfl, rfl⟩⟩
theorem RdA.at_ (h : RdA w F A L) {k : Nat} (hk : k < L.length) :
    ∃ ad A' c', A = some ad ∧ ad.block < w.heap.size ∧ F ad.block ∧ w.cell? (ad.add (k * 5)) = some (.int .u8 L[k].1) ∧ w.cell? ⟨(ad.add (k * 5)).block, (ad.add (k * 5)).off + 1, none⟩ = some (.int .i64 L[k].2.1) ∧
      w.cell? ⟨(ad.add (k * 5)).block, (ad.add (k * 5)).off + 2, none⟩ = some (.slice A' L[k].2.2.1.length c') ∧ w.cell? ⟨(ad.add (k * 5)).block, (ad.add (k * 5)).off + 3, none⟩ = some (.int .i64 L[k].2.2.2.1) ∧ w.cell? ⟨(ad.add (k * 5)).block, (ad.add (k * 5)).off + 4, none⟩ = some (.int .i64 L[k].2.2.2.2) ∧ RdF w F A' L[k].2.2.1 ∧ L[k].2.2.1.length ≤ c' := by
  obtain ⟨H, h1, h2, h3⟩ := h
  obtain ⟨ad, e, hb, hc⟩ := h1.1.2 (by omega)
  obtain ⟨ad', e', hF⟩ := h1.2 (by omega)
  rw [e] at e'
  injection e' with e'
  subst e'
  have hkH : k < H.length := by omega
  obtain ⟨e1, e2, ⟨A', c', e3, hr, hcap⟩, e4, e5⟩ := h3 k hkH hk
  obtain ⟨g1, g2, g3, g4, g5⟩ := acV_get H k hkH
  have ea : ∀ j, 0 < j → (⟨(ad.add (k * 5)).block, (ad.add (k * 5)).off + j, none⟩ : Addr) = ad.add (5 * k + j) := fun j hj => by
    rw [show 5 * k + j = k * 5 + j by omega, ← add_of_add]
    generalize ad.add (k * 5) = q
    unfold Addr.add
    rw [if_neg (by omega)]
  refine ⟨ad, A', c', e, hb, hF, ?_, ?_, ?_, ?_, ?_, hr, hcap⟩
  · rw [Nat.mul_comm, ← e1]; exact hc _ _ g1
  · rw [ea 1 (by omega), ← e2]; exact hc _ _ g2
  · rw [ea 2 (by omega), ← e3]; exact hc _ _ g3
  · rw [ea 3 (by omega), ← e4]; exact hc _ _ g4
  · rw [ea 4 (by omega), ← e5]; exact hc _ _ g5
theorem holdA_one (h : HoldA w F H L) : ∀ u ∈ acV H, u.oneCell' = true := by
  have hh : ∀ i (hi : i < H.length), H[i].2.2.1.oneCell' = true := fun i hi => by
    obtain ⟨_, _, ⟨A, c, e, _⟩, _, _⟩ := h.2 i hi (by have := h.1; omega)
    rw [e]; rfl
  clear h
  induction H with
  | nil => intro u hu; simp [acV] at hu
  | cons m H ih =>
    intro u hu
    simp only [acV, List.mem_cons] at hu
    rcases hu with rfl | rfl | rfl | rfl | rfl | hu
    · rfl
    · rfl
    · exact hh 0 (by simp)
    · rfl
    · rfl
    · exact ih (fun i hi => hh (i + 1) (by simpa using hi)) u hu
end
theorem info_ac : (Try.prog.info? 39).map (fun i => (i.zero, i.size, i.bytes)) = some (some (.agg #[.int .u8 0, .int .i64 0, .slice none 0 0, .int .i64 0, .int .i64 0]), 5, 56) := by kernel_rfl
theorem append_ac (w : World) (B : Nat) {A : Option Addr} {n c : Nat} {H : List Ah} (hown : w.ownsRow B 39 5 (.slice A n c) n (acV H))
    {B2 : Nat} {A2 : Option Addr} {m c2 : Nat} {H2 : List Ah} (hr : Reads w B2 5 A2 m (acV H2)) (h1 : ∀ u ∈ acV H2, u.oneCell' = true) (hs : n + m ≤ 1099511627776) (hB : B ≤ w.heap.size) :
    ∃ A' c' w', (Builtin.append_ #[33, 33] 33 #[.slice A n c, .slice A2 m c2]).run Try.prog w = .ok (.slice A' (n + m) c') w' ∧ w'.ownsRow B 39 5 (.slice A' (n + m) c') (n + m) (acV (H ++ H2)) ∧ Upd w w' A (n * 5) A' ∧ Below B w w' := by
  obtain ⟨i0, hi, hz0, hz1, hz2⟩ := info_parts info_ac
  obtain ⟨A', c', w', g1, g2, g3⟩ := append_law (P := Try.prog) w B 33 33 33 39 i0 _ 5 56 Try.underlying33 hi hz0 hz1 hz2 rfl (by decide) hown (Src.of_reads Try.underlying33 (c := c2) hr h1) (by unfold maxLen; omega) (by omega) hB
  rw [← acV_append] at g2
  exact ⟨A', c', w', g1, g2, g3, g3.below_own hown hB⟩
theorem ownA_at {w : World} {g base : Nat} (hg : w.heap[g]? = some (.cells #[] 39 (0, 0))) (hb : base ≤ g) : w.ownsRow base 39 5 (.slice (some ⟨g, 0, none⟩) 0 0) 0 (acV []) :=
  ⟨rfl, .inr ⟨g, 0, #[], rfl, hb, hg, Nat.le_refl _, by decide, rfl, rfl⟩⟩
/-- 'append([]Act{}, x...)' -/
theorem append_copyA (W : World) {g base : Nat} (hg : W.heap[g]? = some (.cells #[] 39 (0, 0))) (hb : base ≤ g) {A : Option Addr} {m c B2 : Nat} {H : List Ah} (hr : Reads W B2 5 A m (acV H)) (h1 : ∀ u ∈ acV H, u.oneCell' = true) (hs : m ≤ 1099511627776) :
    ∃ A' c' W', (Builtin.append_ #[33, 33] 33 #[.slice (some ⟨g, 0, none⟩) 0 0, .slice A m c]).run Try.prog W = .ok (.slice A' m c') W' ∧ W'.ownsRow base 39 5 (.slice A' m c') m (acV H) ∧ Below base W W' := by
  have hgl : g < W.heap.size := (Array.getElem?_eq_some_iff.1 hg).1
  obtain ⟨A', c', W', hrun, ho, _, hu⟩ := append_ac W base (n := 0) (c := 0) (H := []) (ownA_at hg hb) (c2 := c) hr h1 (by omega) (by omega)
  simp only [List.nil_append, Nat.zero_add] at hrun ho
  exact ⟨A', c', W', hrun, ho, hu⟩
theorem BelF.low {w w' : World} {F : Nat → Prop} {B : Nat} (hb : Below B w w') (hF : ∀ b, F b → b < B) : BelF F w w' := ⟨hb.os, hb.tape, hb.output, hb.size, fun b _ hf => hb.block b (hF b hf)⟩
theorem cells_at {w : World} {F : Nat → Prop} {A : Option Addr} {n : Nat} {H : List Ah} (h : ReadsF w F 5 A n (acV H)) {k : Nat} (hk : k < H.length) :
    ∃ ad, A = some ad ∧ ad.block < w.heap.size ∧ w.cell? (ad.add (k * 5)) = some (.int .u8 H[k].1) ∧ w.cell? ⟨(ad.add (k * 5)).block, (ad.add (k * 5)).off + 1, none⟩ = some (.int .i64 H[k].2.1) ∧
      w.cell? ⟨(ad.add (k * 5)).block, (ad.add (k * 5)).off + 2, none⟩ = some H[k].2.2.1 ∧ w.cell? ⟨(ad.add (k * 5)).block, (ad.add (k * 5)).off + 3, none⟩ = some (.int .i64 H[k].2.2.2.1) ∧ w.cell? ⟨(ad.add (k * 5)).block, (ad.add (k * 5)).off + 4, none⟩ = some (.int .i64 H[k].2.2.2.2) := by
  have hl := h.1.1
  rw [acV_length] at hl
  obtain ⟨ad, e, hb, hc⟩ := h.1.2 (by omega)
  obtain ⟨g1, g2, g3, g4, g5⟩ := acV_get H k hk
  have ea : ∀ j, 0 < j → (⟨(ad.add (k * 5)).block, (ad.add (k * 5)).off + j, none⟩ : Addr) = ad.add (5 * k + j) := fun j hj => by
    rw [show 5 * k + j = k * 5 + j by omega, ← add_of_add]
    generalize ad.add (k * 5) = q
    unfold Addr.add
    rw [if_neg (by omega)]
  refine ⟨ad, e, hb, ?_, ?_, ?_, ?_, ?_⟩
  · rw [Nat.mul_comm]; exact hc _ _ g1
  · rw [ea 1 (by omega)]; exact hc _ _ g2
  · rw [ea 2 (by omega)]; exact hc _ _ g3
  · rw [ea 3 (by omega)]; exact hc _ _ g4
  · rw [ea 4 (by omega)]; exact hc _ _ g5
theorem HoldA.take {w : World} {F : Nat → Prop} {H : List Ah} {L : List Ac} (h : HoldA w F H L) (k : Nat) : HoldA w F (H.take k) (L.take k) := by
  refine ⟨by simp [h.1], fun i h1 h2 => ?_⟩
  rw [List.getElem_take, List.getElem_take]
  exact h.2 i (by simp at h1; omega) (by simp at h2; omega)
/-- '[]Act{a}...' behind a row of the call's own. -/
theorem append_one_ac (V : World) (base : Nat) {A : Option Addr} {n c : Nat} {H : List Ah} (hown : V.ownsRow base 39 5 (.slice A n c) n (acV H)) (hB : base ≤ V.heap.size) (k ar x y : Int) (v : Value) (h1 : v.oneCell' = true) (hs : n ≤ 1000000000000) :
    ∃ A' c' V', (Builtin.append_ #[33, 33] 33 #[.slice A n c, .slice (some ⟨V.heap.size, 0, none⟩) 1 1]).run Try.prog (V.alloc (.cells #[.int .u8 k, .int .i64 ar, v, .int .i64 x, .int .i64 y] 39)) = .ok (.slice A' (n + 1) c') V' ∧ V'.ownsRow base 39 5 (.slice A' (n + 1) c') (n + 1) (acV (H ++ [(k, ar, v, x, y)])) ∧ V.grownBy V' (A.map (·.block)) ∧ (∀ b, A'.map (·.block) = some b → A.map (·.block) = some b ∨ V.heap.size ≤ b) ∧ Below base V V' := by
  have hb1 : Below V.heap.size V (V.alloc (.cells #[.int .u8 k, .int .i64 ar, v, .int .i64 x, .int .i64 y] 39)) := (Below.refl _ _).alloc (Nat.le_refl _) _
  have hrd := dk.Reads.new_row' V 5 1 #[.int .u8 k, .int .i64 ar, v, .int .i64 x, .int .i64 y] 39 (acV [(k, ar, v, x, y)]) rfl rfl
  obtain ⟨A', c', V', hrun, ho, hu, hb⟩ := append_ac _ base (own_below hown hb1 (Nat.le_refl _)) (c2 := 1) hrd (by intro u hu; simp [acV] at hu; rcases hu with rfl | rfl | rfl | rfl | rfl <;> first | rfl | exact h1) (by omega) (by have := hb1.size; omega)
  refine ⟨A', c', V', hrun, ho, ?_, fun b hb' => ?_, (hb1.mono hB).trans hb⟩
  · exact ⟨hu.grown.os, hu.grown.tape, hu.grown.output, Nat.le_trans hb1.size hu.grown.size, fun b hb' hne => (hu.grown.block b (Nat.lt_of_lt_of_le hb' hb1.size) hne).trans (hb1.block b hb')⟩
  · rcases upd_new hu b hb' with h2 | h2
    · exact .inl h2
    · exact .inr (Nat.le_trans hb1.size h2)
end Go.Proofs.Ytjipjfionelpkaa.dk
