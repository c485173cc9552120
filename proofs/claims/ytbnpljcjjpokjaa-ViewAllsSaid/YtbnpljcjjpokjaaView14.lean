/- The walk of ViewAlls. -/
import Derived.Test.YtbnpljcjjpokjaaView11
import Derived.Test.YtbnpljcjjpokjaaView13
namespace Go.Proofs.Ytbnpljcjjpokjaa.viewWalk
open Go.RowKit Go.Proofs.Ytbnpljcjjpokjaa.lib Go.Proofs.Ytbnpljcjjpokjaa.mem

theorem truth (P : Prop) : ∃ b : Bool, (b = true ↔ P) := by
  by_cases h : P
  · exact ⟨true, by simp [h]⟩
  · exact ⟨false, by simp [h]⟩
theorem same_truth {a b : Bool} {P : Prop} (h1 : a = true ↔ P) (h2 : b = true ↔ P) : a = b := by
  cases a <;> cases b <;> simp_all

set_option maxRecDepth 8000 in
set_option maxHeartbeats 16000000 in
theorem walk_ViewAlls (w : World) (m : Int × Int) (fr bo : Int) {B : Nat} {A : Option Addr} {n c : Nat} {L : List (Int × Int)} (hn : n = L.length) (hc : n ≤ c) (hr : RdM w B A L) (hB : B ≤ w.heap.size) :
    Calls Try.prog 6 #[.slice A n c, mv m, .int .i64 fr, .int .i64 bo] w fun e w' => e = .returned (.bool true) ∧ Below w.heap.size w w' := by
  obtain ⟨m1, m2⟩ := m
  simp only [mv]
  have HN := Lib.hid hn
  clear hn
  by_cases h100 : 100 < n
  · go_enter Try.func6, Try.ntmps6
    go_wp2_with fail
    refine (awake16 _).mono ?_
    rintro e w2 ⟨rfl, hb2⟩
    go_wp2_with fail
    go_ret
    exact ⟨rfl, ((Below.refl _ _).alloc (Nat.le_refl _) _).trans (hb2.mono (by simp))⟩
  have hn100 : n ≤ 100 := by omega
  have hs40 : L.length ≤ 1099511627776 := by have := HN.out; omega
  clear h100
  have hbW0 : Below w.heap.size w (w.alloc (.cells #[.int .i64 m1, .int .i64 m2] 26)) := (Below.refl _ _).alloc (Nat.le_refl _) _
  have c0_0 : Cell2 (w.alloc (.cells #[.int .i64 m1, .int .i64 m2] 26)) w.heap.size (m1, m2) := Cell2.new w (m1, m2) _
  have hsz0 : (w.alloc (.cells #[.int .i64 m1, .int .i64 m2] 26)).heap.size = w.heap.size + 1 := by simp
  obtain ⟨a1, a2, ao, ha⟩ : ∃ a1 a2 o, aheadM L (m1, m2) = ((a1, a2), o) := ⟨_, _, _, rfl⟩
  obtain ⟨b1, b2, bb, hbe⟩ : ∃ a1 a2 o, behindM L (m1, m2) = ((a1, a2), o) := ⟨_, _, _, rfl⟩
  obtain ⟨d1, d2, dd, hde⟩ : ∃ a1 a2 o, headM L = ((a1, a2), o) := ⟨_, _, _, rfl⟩
  have hsa : sideM L (m1, m2) (-1) = ((a1, a2), ao) := by rw [side_ahead, ha]
  have hsb : sideM L (m1, m2) 1 = ((b1, b2), bb) := by rw [side_behind, hbe]
  have HA := Lib.hid ha
  have HBE := Lib.hid hbe
  have HDE := Lib.hid hde
  have HSA := Lib.hid hsa
  have HSB := Lib.hid hsb
  clear ha hbe hde hsa hsb
  go_enter Try.func6, Try.ntmps6
  go_wp2_with fail
  generalize w.alloc (.cells #[.int .i64 m1, .int .i64 m2] 26) = W0 at hbW0 c0_0 hsz0 ⊢
  refine (ahead_any W0 (m1, m2) HN.out (hr.below (hbW0.mono hB)) (Nat.le_trans hB hbW0.size) hs40).mono ?_
  rintro e w1 ⟨rfl, hb1⟩
  rw [HA.out]
  simp only [mv]
  have z1 := hb1.size
  have c0_1 := (c0_0.below hb1 (by omega)).alloc (.cells #[.int .i64 a1, .int .i64 a2] 26)
  have c1_1 : Cell2 (w1.alloc (.cells #[.int .i64 a1, .int .i64 a2] 26)) w1.heap.size (a1, a2) := Cell2.new w1 (a1, a2) _
  have hsz1 : (w1.alloc (.cells #[.int .i64 a1, .int .i64 a2] 26)).heap.size = w1.heap.size + 1 := by simp
  have hbW1 : Below w.heap.size w (w1.alloc (.cells #[.int .i64 a1, .int .i64 a2] 26)) := (hbW0.trans (hb1.mono hbW0.size)).alloc (by have := hbW0.size; omega) _
  have cma := c0_1.1
  have cmb := c0_1.2
  clear hb1 hbW0 c0_0
  go_wp2_with fail
  generalize w1.alloc (.cells #[.int .i64 a1, .int .i64 a2] 26) = W1 at c0_1 c1_1 hsz1 hbW1 cma cmb ⊢
  clear cma cmb
  refine (side_any W1 (m1, m2) (-1) (.inl rfl) HN.out (hr.below (hbW1.mono hB)) (Nat.le_trans hB hbW1.size) hs40).mono ?_
  rintro e w2 ⟨rfl, hb2⟩
  rw [HSA.out]
  simp only [mv]
  have z2 := hb2.size
  have c0_2 := (c0_1.below hb2 (by omega)).alloc (.cells #[.int .i64 a1, .int .i64 a2] 26)
  have c1_2 := (c1_1.below hb2 (by omega)).alloc (.cells #[.int .i64 a1, .int .i64 a2] 26)
  have c2_2 : Cell2 (w2.alloc (.cells #[.int .i64 a1, .int .i64 a2] 26)) w2.heap.size (a1, a2) := Cell2.new w2 (a1, a2) _
  have hsz2 : (w2.alloc (.cells #[.int .i64 a1, .int .i64 a2] 26)).heap.size = w2.heap.size + 1 := by simp
  have hbW2 : Below w.heap.size w (w2.alloc (.cells #[.int .i64 a1, .int .i64 a2] 26)) := (hbW1.trans (hb2.mono hbW1.size)).alloc (by have := hbW1.size; omega) _
  have cma := c0_2.1
  have cmb := c0_2.2
  clear hb2 hbW1 c0_1 c1_1
  go_wp2_with fail
  generalize w2.alloc (.cells #[.int .i64 a1, .int .i64 a2] 26) = W2 at c0_2 c1_2 c2_2 hsz2 hbW2 cma cmb ⊢
  clear cma cmb
  refine (behind_any W2 (m1, m2) HN.out (hr.below (hbW2.mono hB)) (Nat.le_trans hB hbW2.size) hs40).mono ?_
  rintro e w3 ⟨rfl, hb3⟩
  rw [HBE.out]
  simp only [mv]
  have z3 := hb3.size
  have c0_3 := (c0_2.below hb3 (by omega)).alloc (.cells #[.int .i64 b1, .int .i64 b2] 26)
  have c1_3 := (c1_2.below hb3 (by omega)).alloc (.cells #[.int .i64 b1, .int .i64 b2] 26)
  have c2_3 := (c2_2.below hb3 (by omega)).alloc (.cells #[.int .i64 b1, .int .i64 b2] 26)
  have c3_3 : Cell2 (w3.alloc (.cells #[.int .i64 b1, .int .i64 b2] 26)) w3.heap.size (b1, b2) := Cell2.new w3 (b1, b2) _
  have hsz3 : (w3.alloc (.cells #[.int .i64 b1, .int .i64 b2] 26)).heap.size = w3.heap.size + 1 := by simp
  have hbW3 : Below w.heap.size w (w3.alloc (.cells #[.int .i64 b1, .int .i64 b2] 26)) := (hbW2.trans (hb3.mono hbW2.size)).alloc (by have := hbW2.size; omega) _
  have cma := c0_3.1
  have cmb := c0_3.2
  clear hb3 hbW2 c0_2 c1_2 c2_2
  go_wp2_with fail
  generalize w3.alloc (.cells #[.int .i64 b1, .int .i64 b2] 26) = W3 at c0_3 c1_3 c2_3 c3_3 hsz3 hbW3 cma cmb ⊢
  clear cma cmb
  refine (side_any W3 (m1, m2) 1 (.inr rfl) HN.out (hr.below (hbW3.mono hB)) (Nat.le_trans hB hbW3.size) hs40).mono ?_
  rintro e w4 ⟨rfl, hb4⟩
  rw [HSB.out]
  simp only [mv]
  have z4 := hb4.size
  have c0_4 := (c0_3.below hb4 (by omega)).alloc (.cells #[.int .i64 b1, .int .i64 b2] 26)
  have c1_4 := (c1_3.below hb4 (by omega)).alloc (.cells #[.int .i64 b1, .int .i64 b2] 26)
  have c2_4 := (c2_3.below hb4 (by omega)).alloc (.cells #[.int .i64 b1, .int .i64 b2] 26)
  have c3_4 := (c3_3.below hb4 (by omega)).alloc (.cells #[.int .i64 b1, .int .i64 b2] 26)
  have c4_4 : Cell2 (w4.alloc (.cells #[.int .i64 b1, .int .i64 b2] 26)) w4.heap.size (b1, b2) := Cell2.new w4 (b1, b2) _
  have hsz4 : (w4.alloc (.cells #[.int .i64 b1, .int .i64 b2] 26)).heap.size = w4.heap.size + 1 := by simp
  have hbW4 : Below w.heap.size w (w4.alloc (.cells #[.int .i64 b1, .int .i64 b2] 26)) := (hbW3.trans (hb4.mono hbW3.size)).alloc (by have := hbW3.size; omega) _
  have cma := c0_4.1
  have cmb := c0_4.2
  clear hb4 hbW3 c0_3 c1_3 c2_3 c3_3
  go_wp2_with fail
  generalize w4.alloc (.cells #[.int .i64 b1, .int .i64 b2] 26) = W4 at c0_4 c1_4 c2_4 c3_4 c4_4 hsz4 hbW4 cma cmb ⊢
  clear cma cmb
  refine (head_any W4 HN.out (hr.below (hbW4.mono hB))).mono ?_
  rintro e w5 ⟨rfl, hb5⟩
  rw [HDE.out]
  simp only [mv]
  have z5 := hb5.size
  have c0_5 := (c0_4.below hb5 (by omega)).alloc (.cells #[.int .i64 d1, .int .i64 d2] 26)
  have c1_5 := (c1_4.below hb5 (by omega)).alloc (.cells #[.int .i64 d1, .int .i64 d2] 26)
  have c2_5 := (c2_4.below hb5 (by omega)).alloc (.cells #[.int .i64 d1, .int .i64 d2] 26)
  have c3_5 := (c3_4.below hb5 (by omega)).alloc (.cells #[.int .i64 d1, .int .i64 d2] 26)
  have c4_5 := (c4_4.below hb5 (by omega)).alloc (.cells #[.int .i64 d1, .int .i64 d2] 26)
  have c5_5 : Cell2 (w5.alloc (.cells #[.int .i64 d1, .int .i64 d2] 26)) w5.heap.size (d1, d2) := Cell2.new w5 (d1, d2) _
  have hsz5 : (w5.alloc (.cells #[.int .i64 d1, .int .i64 d2] 26)).heap.size = w5.heap.size + 1 := by simp
  have hbW5 : Below w.heap.size w (w5.alloc (.cells #[.int .i64 d1, .int .i64 d2] 26)) := (hbW4.trans (hb5.mono hbW4.size)).alloc (by have := hbW4.size; omega) _
  have cma := c0_5.1
  have cmb := c0_5.2
  clear hb5 hbW4 c0_4 c1_4 c2_4 c3_4 c4_4
  go_wp2_with fail
  generalize w5.alloc (.cells #[.int .i64 d1, .int .i64 d2] 26) = W5 at c0_5 c1_5 c2_5 c3_5 c4_5 c5_5 hsz5 hbW5 cma cmb ⊢
  have hS : ∀ W W' : World, (W.cell? ⟨w.heap.size, 0, none⟩ = some (.int .i64 m1) ∧ W.cell? ⟨w.heap.size, 1, none⟩ = some (.int .i64 m2) ∧ W.cell? ⟨w1.heap.size, 0, none⟩ = some (.int .i64 a1) ∧ W.cell? ⟨w1.heap.size, 1, none⟩ = some (.int .i64 a2) ∧ W.cell? ⟨w2.heap.size, 0, none⟩ = some (.int .i64 a1) ∧ W.cell? ⟨w2.heap.size, 1, none⟩ = some (.int .i64 a2) ∧ W.cell? ⟨w3.heap.size, 0, none⟩ = some (.int .i64 b1) ∧ W.cell? ⟨w3.heap.size, 1, none⟩ = some (.int .i64 b2) ∧ W.cell? ⟨w4.heap.size, 0, none⟩ = some (.int .i64 b1) ∧ W.cell? ⟨w4.heap.size, 1, none⟩ = some (.int .i64 b2) ∧ Below w.heap.size w W) → Below W.heap.size W W' → (W'.cell? ⟨w.heap.size, 0, none⟩ = some (.int .i64 m1) ∧ W'.cell? ⟨w.heap.size, 1, none⟩ = some (.int .i64 m2) ∧ W'.cell? ⟨w1.heap.size, 0, none⟩ = some (.int .i64 a1) ∧ W'.cell? ⟨w1.heap.size, 1, none⟩ = some (.int .i64 a2) ∧ W'.cell? ⟨w2.heap.size, 0, none⟩ = some (.int .i64 a1) ∧ W'.cell? ⟨w2.heap.size, 1, none⟩ = some (.int .i64 a2) ∧ W'.cell? ⟨w3.heap.size, 0, none⟩ = some (.int .i64 b1) ∧ W'.cell? ⟨w3.heap.size, 1, none⟩ = some (.int .i64 b2) ∧ W'.cell? ⟨w4.heap.size, 0, none⟩ = some (.int .i64 b1) ∧ W'.cell? ⟨w4.heap.size, 1, none⟩ = some (.int .i64 b2) ∧ Below w.heap.size w W') := fun W W' h hb => ⟨keep_cell h.1 hb, keep_cell h.2.1 hb, keep_cell h.2.2.1 hb, keep_cell h.2.2.2.1 hb, keep_cell h.2.2.2.2.1 hb, keep_cell h.2.2.2.2.2.1 hb, keep_cell h.2.2.2.2.2.2.1 hb, keep_cell h.2.2.2.2.2.2.2.1 hb, keep_cell h.2.2.2.2.2.2.2.2.1 hb, keep_cell h.2.2.2.2.2.2.2.2.2.1 hb, h.2.2.2.2.2.2.2.2.2.2.trans (hb.mono h.2.2.2.2.2.2.2.2.2.2.size)⟩
  have hD : ∀ W : World, (W.cell? ⟨w.heap.size, 0, none⟩ = some (.int .i64 m1) ∧ W.cell? ⟨w.heap.size, 1, none⟩ = some (.int .i64 m2) ∧ W.cell? ⟨w1.heap.size, 0, none⟩ = some (.int .i64 a1) ∧ W.cell? ⟨w1.heap.size, 1, none⟩ = some (.int .i64 a2) ∧ W.cell? ⟨w2.heap.size, 0, none⟩ = some (.int .i64 a1) ∧ W.cell? ⟨w2.heap.size, 1, none⟩ = some (.int .i64 a2) ∧ W.cell? ⟨w3.heap.size, 0, none⟩ = some (.int .i64 b1) ∧ W.cell? ⟨w3.heap.size, 1, none⟩ = some (.int .i64 b2) ∧ W.cell? ⟨w4.heap.size, 0, none⟩ = some (.int .i64 b1) ∧ W.cell? ⟨w4.heap.size, 1, none⟩ = some (.int .i64 b2) ∧ Below w.heap.size w W) → (W.drew.cell? ⟨w.heap.size, 0, none⟩ = some (.int .i64 m1) ∧ W.drew.cell? ⟨w.heap.size, 1, none⟩ = some (.int .i64 m2) ∧ W.drew.cell? ⟨w1.heap.size, 0, none⟩ = some (.int .i64 a1) ∧ W.drew.cell? ⟨w1.heap.size, 1, none⟩ = some (.int .i64 a2) ∧ W.drew.cell? ⟨w2.heap.size, 0, none⟩ = some (.int .i64 a1) ∧ W.drew.cell? ⟨w2.heap.size, 1, none⟩ = some (.int .i64 a2) ∧ W.drew.cell? ⟨w3.heap.size, 0, none⟩ = some (.int .i64 b1) ∧ W.drew.cell? ⟨w3.heap.size, 1, none⟩ = some (.int .i64 b2) ∧ W.drew.cell? ⟨w4.heap.size, 0, none⟩ = some (.int .i64 b1) ∧ W.drew.cell? ⟨w4.heap.size, 1, none⟩ = some (.int .i64 b2) ∧ Below w.heap.size w W.drew) := fun W h => ⟨h.1, h.2.1, h.2.2.1, h.2.2.2.1, h.2.2.2.2.1, h.2.2.2.2.2.1, h.2.2.2.2.2.2.1, h.2.2.2.2.2.2.2.1, h.2.2.2.2.2.2.2.2.1, h.2.2.2.2.2.2.2.2.2.1, below_drewN h.2.2.2.2.2.2.2.2.2.2 1⟩
  have hL : ∀ W : World, Below w.heap.size w W → RdM W B A L ∧ B ≤ W.heap.size := fun W h => ⟨hr.below (h.mono hB), Nat.le_trans hB h.size⟩
  obtain ⟨rb, hrb⟩ := truth (RightP L)
  obtain ⟨ix, hix⟩ : ∃ i, i = idx L (m1, m2) := ⟨_, rfl⟩
  have hF0 : ∀ W : World, (W.cell? ⟨w.heap.size, 0, none⟩ = some (.int .i64 m1) ∧ W.cell? ⟨w.heap.size, 1, none⟩ = some (.int .i64 m2) ∧ W.cell? ⟨w1.heap.size, 0, none⟩ = some (.int .i64 a1) ∧ W.cell? ⟨w1.heap.size, 1, none⟩ = some (.int .i64 a2) ∧ W.cell? ⟨w2.heap.size, 0, none⟩ = some (.int .i64 a1) ∧ W.cell? ⟨w2.heap.size, 1, none⟩ = some (.int .i64 a2) ∧ W.cell? ⟨w3.heap.size, 0, none⟩ = some (.int .i64 b1) ∧ W.cell? ⟨w3.heap.size, 1, none⟩ = some (.int .i64 b2) ∧ W.cell? ⟨w4.heap.size, 0, none⟩ = some (.int .i64 b1) ∧ W.cell? ⟨w4.heap.size, 1, none⟩ = some (.int .i64 b2) ∧ Below w.heap.size w W) → Calls Try.prog 11 #[] W fun e W' => e = .returned (.bool true) ∧ (W'.cell? ⟨w.heap.size, 0, none⟩ = some (.int .i64 m1) ∧ W'.cell? ⟨w.heap.size, 1, none⟩ = some (.int .i64 m2) ∧ W'.cell? ⟨w1.heap.size, 0, none⟩ = some (.int .i64 a1) ∧ W'.cell? ⟨w1.heap.size, 1, none⟩ = some (.int .i64 a2) ∧ W'.cell? ⟨w2.heap.size, 0, none⟩ = some (.int .i64 a1) ∧ W'.cell? ⟨w2.heap.size, 1, none⟩ = some (.int .i64 a2) ∧ W'.cell? ⟨w3.heap.size, 0, none⟩ = some (.int .i64 b1) ∧ W'.cell? ⟨w3.heap.size, 1, none⟩ = some (.int .i64 b2) ∧ W'.cell? ⟨w4.heap.size, 0, none⟩ = some (.int .i64 b1) ∧ W'.cell? ⟨w4.heap.size, 1, none⟩ = some (.int .i64 b2) ∧ Below w.heap.size w W') := fun W h => by
    refine (awake16 W).mono ?_
    rintro e W' ⟨rfl, hb⟩
    exact ⟨rfl, hS W W' h hb⟩
  have hF1 : ∀ W : World, (W.cell? ⟨w.heap.size, 0, none⟩ = some (.int .i64 m1) ∧ W.cell? ⟨w.heap.size, 1, none⟩ = some (.int .i64 m2) ∧ W.cell? ⟨w1.heap.size, 0, none⟩ = some (.int .i64 a1) ∧ W.cell? ⟨w1.heap.size, 1, none⟩ = some (.int .i64 a2) ∧ W.cell? ⟨w2.heap.size, 0, none⟩ = some (.int .i64 a1) ∧ W.cell? ⟨w2.heap.size, 1, none⟩ = some (.int .i64 a2) ∧ W.cell? ⟨w3.heap.size, 0, none⟩ = some (.int .i64 b1) ∧ W.cell? ⟨w3.heap.size, 1, none⟩ = some (.int .i64 b2) ∧ W.cell? ⟨w4.heap.size, 0, none⟩ = some (.int .i64 b1) ∧ W.cell? ⟨w4.heap.size, 1, none⟩ = some (.int .i64 b2) ∧ Below w.heap.size w W) → Calls Try.prog 13 #[.slice A n c] W fun e W' => e = .returned (.bool rb) ∧ (W'.cell? ⟨w.heap.size, 0, none⟩ = some (.int .i64 m1) ∧ W'.cell? ⟨w.heap.size, 1, none⟩ = some (.int .i64 m2) ∧ W'.cell? ⟨w1.heap.size, 0, none⟩ = some (.int .i64 a1) ∧ W'.cell? ⟨w1.heap.size, 1, none⟩ = some (.int .i64 a2) ∧ W'.cell? ⟨w2.heap.size, 0, none⟩ = some (.int .i64 a1) ∧ W'.cell? ⟨w2.heap.size, 1, none⟩ = some (.int .i64 a2) ∧ W'.cell? ⟨w3.heap.size, 0, none⟩ = some (.int .i64 b1) ∧ W'.cell? ⟨w3.heap.size, 1, none⟩ = some (.int .i64 b2) ∧ W'.cell? ⟨w4.heap.size, 0, none⟩ = some (.int .i64 b1) ∧ W'.cell? ⟨w4.heap.size, 1, none⟩ = some (.int .i64 b2) ∧ Below w.heap.size w W') := fun W h => by
    obtain ⟨g1, g2⟩ := hL W h.2.2.2.2.2.2.2.2.2.2
    refine (right_any W HN.out g1 g2 hc).mono ?_
    rintro e W' ⟨⟨b, rfl, hb'⟩, hb⟩
    exact ⟨by rw [same_truth hb' hrb], hS W W' h hb⟩
  have hF2 : ∀ W : World, (W.cell? ⟨w.heap.size, 0, none⟩ = some (.int .i64 m1) ∧ W.cell? ⟨w.heap.size, 1, none⟩ = some (.int .i64 m2) ∧ W.cell? ⟨w1.heap.size, 0, none⟩ = some (.int .i64 a1) ∧ W.cell? ⟨w1.heap.size, 1, none⟩ = some (.int .i64 a2) ∧ W.cell? ⟨w2.heap.size, 0, none⟩ = some (.int .i64 a1) ∧ W.cell? ⟨w2.heap.size, 1, none⟩ = some (.int .i64 a2) ∧ W.cell? ⟨w3.heap.size, 0, none⟩ = some (.int .i64 b1) ∧ W.cell? ⟨w3.heap.size, 1, none⟩ = some (.int .i64 b2) ∧ W.cell? ⟨w4.heap.size, 0, none⟩ = some (.int .i64 b1) ∧ W.cell? ⟨w4.heap.size, 1, none⟩ = some (.int .i64 b2) ∧ Below w.heap.size w W) → Calls Try.prog 21 #[.slice A n c] W fun e W' => e = .returned (.bool rb) ∧ (W'.cell? ⟨w.heap.size, 0, none⟩ = some (.int .i64 m1) ∧ W'.cell? ⟨w.heap.size, 1, none⟩ = some (.int .i64 m2) ∧ W'.cell? ⟨w1.heap.size, 0, none⟩ = some (.int .i64 a1) ∧ W'.cell? ⟨w1.heap.size, 1, none⟩ = some (.int .i64 a2) ∧ W'.cell? ⟨w2.heap.size, 0, none⟩ = some (.int .i64 a1) ∧ W'.cell? ⟨w2.heap.size, 1, none⟩ = some (.int .i64 a2) ∧ W'.cell? ⟨w3.heap.size, 0, none⟩ = some (.int .i64 b1) ∧ W'.cell? ⟨w3.heap.size, 1, none⟩ = some (.int .i64 b2) ∧ W'.cell? ⟨w4.heap.size, 0, none⟩ = some (.int .i64 b1) ∧ W'.cell? ⟨w4.heap.size, 1, none⟩ = some (.int .i64 b2) ∧ Below w.heap.size w W') := fun W h => by
    obtain ⟨g1, g2⟩ := hL W h.2.2.2.2.2.2.2.2.2.2
    refine (refRight_any W HN.out g1 g2 hs40).mono ?_
    rintro e W' ⟨⟨b, rfl, hb'⟩, hb⟩
    exact ⟨by rw [same_truth hb' hrb], hS W W' h hb⟩
  have hF3 : ∀ W : World, (W.cell? ⟨w.heap.size, 0, none⟩ = some (.int .i64 m1) ∧ W.cell? ⟨w.heap.size, 1, none⟩ = some (.int .i64 m2) ∧ W.cell? ⟨w1.heap.size, 0, none⟩ = some (.int .i64 a1) ∧ W.cell? ⟨w1.heap.size, 1, none⟩ = some (.int .i64 a2) ∧ W.cell? ⟨w2.heap.size, 0, none⟩ = some (.int .i64 a1) ∧ W.cell? ⟨w2.heap.size, 1, none⟩ = some (.int .i64 a2) ∧ W.cell? ⟨w3.heap.size, 0, none⟩ = some (.int .i64 b1) ∧ W.cell? ⟨w3.heap.size, 1, none⟩ = some (.int .i64 b2) ∧ W.cell? ⟨w4.heap.size, 0, none⟩ = some (.int .i64 b1) ∧ W.cell? ⟨w4.heap.size, 1, none⟩ = some (.int .i64 b2) ∧ Below w.heap.size w W) → Calls Try.prog 14 #[.slice A n c, .agg #[.int .i64 m1, .int .i64 m2]] W fun e W' => e = .returned (.int .i64 ix) ∧ (W'.cell? ⟨w.heap.size, 0, none⟩ = some (.int .i64 m1) ∧ W'.cell? ⟨w.heap.size, 1, none⟩ = some (.int .i64 m2) ∧ W'.cell? ⟨w1.heap.size, 0, none⟩ = some (.int .i64 a1) ∧ W'.cell? ⟨w1.heap.size, 1, none⟩ = some (.int .i64 a2) ∧ W'.cell? ⟨w2.heap.size, 0, none⟩ = some (.int .i64 a1) ∧ W'.cell? ⟨w2.heap.size, 1, none⟩ = some (.int .i64 a2) ∧ W'.cell? ⟨w3.heap.size, 0, none⟩ = some (.int .i64 b1) ∧ W'.cell? ⟨w3.heap.size, 1, none⟩ = some (.int .i64 b2) ∧ W'.cell? ⟨w4.heap.size, 0, none⟩ = some (.int .i64 b1) ∧ W'.cell? ⟨w4.heap.size, 1, none⟩ = some (.int .i64 b2) ∧ Below w.heap.size w W') := fun W h => by
    obtain ⟨g1, g2⟩ := hL W h.2.2.2.2.2.2.2.2.2.2
    refine (index_any W (m1, m2) HN.out g1 g2 hs40).mono ?_
    rintro e W' ⟨rfl, hb⟩
    exact ⟨by rw [hix], hS W W' h hb⟩
  have hF4 : ∀ W : World, (W.cell? ⟨w.heap.size, 0, none⟩ = some (.int .i64 m1) ∧ W.cell? ⟨w.heap.size, 1, none⟩ = some (.int .i64 m2) ∧ W.cell? ⟨w1.heap.size, 0, none⟩ = some (.int .i64 a1) ∧ W.cell? ⟨w1.heap.size, 1, none⟩ = some (.int .i64 a2) ∧ W.cell? ⟨w2.heap.size, 0, none⟩ = some (.int .i64 a1) ∧ W.cell? ⟨w2.heap.size, 1, none⟩ = some (.int .i64 a2) ∧ W.cell? ⟨w3.heap.size, 0, none⟩ = some (.int .i64 b1) ∧ W.cell? ⟨w3.heap.size, 1, none⟩ = some (.int .i64 b2) ∧ W.cell? ⟨w4.heap.size, 0, none⟩ = some (.int .i64 b1) ∧ W.cell? ⟨w4.heap.size, 1, none⟩ = some (.int .i64 b2) ∧ Below w.heap.size w W) → Calls Try.prog 20 #[.slice A n c, .agg #[.int .i64 m1, .int .i64 m2]] W fun e W' => e = .returned (.int .i64 ix) ∧ (W'.cell? ⟨w.heap.size, 0, none⟩ = some (.int .i64 m1) ∧ W'.cell? ⟨w.heap.size, 1, none⟩ = some (.int .i64 m2) ∧ W'.cell? ⟨w1.heap.size, 0, none⟩ = some (.int .i64 a1) ∧ W'.cell? ⟨w1.heap.size, 1, none⟩ = some (.int .i64 a2) ∧ W'.cell? ⟨w2.heap.size, 0, none⟩ = some (.int .i64 a1) ∧ W'.cell? ⟨w2.heap.size, 1, none⟩ = some (.int .i64 a2) ∧ W'.cell? ⟨w3.heap.size, 0, none⟩ = some (.int .i64 b1) ∧ W'.cell? ⟨w3.heap.size, 1, none⟩ = some (.int .i64 b2) ∧ W'.cell? ⟨w4.heap.size, 0, none⟩ = some (.int .i64 b1) ∧ W'.cell? ⟨w4.heap.size, 1, none⟩ = some (.int .i64 b2) ∧ Below w.heap.size w W') := fun W h => by
    obtain ⟨g1, g2⟩ := hL W h.2.2.2.2.2.2.2.2.2.2
    refine (refIndex_any W (m1, m2) HN.out g1 g2 hs40).mono ?_
    rintro e W' ⟨rfl, hb⟩
    exact ⟨by rw [hix], hS W W' h hb⟩
  have hF5 : ∀ (W : World) (t : Bool), t = decide ((m1, m2) = (fr, bo) ∧ 0 ≤ ix) → (W.cell? ⟨w.heap.size, 0, none⟩ = some (.int .i64 m1) ∧ W.cell? ⟨w.heap.size, 1, none⟩ = some (.int .i64 m2) ∧ W.cell? ⟨w1.heap.size, 0, none⟩ = some (.int .i64 a1) ∧ W.cell? ⟨w1.heap.size, 1, none⟩ = some (.int .i64 a2) ∧ W.cell? ⟨w2.heap.size, 0, none⟩ = some (.int .i64 a1) ∧ W.cell? ⟨w2.heap.size, 1, none⟩ = some (.int .i64 a2) ∧ W.cell? ⟨w3.heap.size, 0, none⟩ = some (.int .i64 b1) ∧ W.cell? ⟨w3.heap.size, 1, none⟩ = some (.int .i64 b2) ∧ W.cell? ⟨w4.heap.size, 0, none⟩ = some (.int .i64 b1) ∧ W.cell? ⟨w4.heap.size, 1, none⟩ = some (.int .i64 b2) ∧ Below w.heap.size w W) → Calls Try.prog 15 #[.slice A n c, .int .i64 fr, .int .i64 bo, .agg #[.int .i64 m1, .int .i64 m2]] W fun e W' => e = .returned (.bool t) ∧ (W'.cell? ⟨w.heap.size, 0, none⟩ = some (.int .i64 m1) ∧ W'.cell? ⟨w.heap.size, 1, none⟩ = some (.int .i64 m2) ∧ W'.cell? ⟨w1.heap.size, 0, none⟩ = some (.int .i64 a1) ∧ W'.cell? ⟨w1.heap.size, 1, none⟩ = some (.int .i64 a2) ∧ W'.cell? ⟨w2.heap.size, 0, none⟩ = some (.int .i64 a1) ∧ W'.cell? ⟨w2.heap.size, 1, none⟩ = some (.int .i64 a2) ∧ W'.cell? ⟨w3.heap.size, 0, none⟩ = some (.int .i64 b1) ∧ W'.cell? ⟨w3.heap.size, 1, none⟩ = some (.int .i64 b2) ∧ W'.cell? ⟨w4.heap.size, 0, none⟩ = some (.int .i64 b1) ∧ W'.cell? ⟨w4.heap.size, 1, none⟩ = some (.int .i64 b2) ∧ Below w.heap.size w W') := fun W t ht h => by
    obtain ⟨g1, g2⟩ := hL W h.2.2.2.2.2.2.2.2.2.2
    refine (is_any W fr bo (m1, m2) HN.out g1 g2 hs40).mono ?_
    rintro e W' ⟨rfl, hb⟩
    exact ⟨by rw [ht, hix], hS W W' h hb⟩
  have HF0 := Lib.hid hF0
  have HF1 := Lib.hid hF1
  have HF2 := Lib.hid hF2
  have HF3 := Lib.hid hF3
  have HF4 := Lib.hid hF4
  have HF5 := Lib.hid hF5
  have HS := Lib.hid hS
  have HD := Lib.hid hD
  have HIX := Lib.hid hix
  clear hF0 hF1 hF2 hF3 hF4 hF5 hS hD hL hrb hix
  have hW5 : (W5.cell? ⟨w.heap.size, 0, none⟩ = some (.int .i64 m1) ∧ W5.cell? ⟨w.heap.size, 1, none⟩ = some (.int .i64 m2) ∧ W5.cell? ⟨w1.heap.size, 0, none⟩ = some (.int .i64 a1) ∧ W5.cell? ⟨w1.heap.size, 1, none⟩ = some (.int .i64 a2) ∧ W5.cell? ⟨w2.heap.size, 0, none⟩ = some (.int .i64 a1) ∧ W5.cell? ⟨w2.heap.size, 1, none⟩ = some (.int .i64 a2) ∧ W5.cell? ⟨w3.heap.size, 0, none⟩ = some (.int .i64 b1) ∧ W5.cell? ⟨w3.heap.size, 1, none⟩ = some (.int .i64 b2) ∧ W5.cell? ⟨w4.heap.size, 0, none⟩ = some (.int .i64 b1) ∧ W5.cell? ⟨w4.heap.size, 1, none⟩ = some (.int .i64 b2) ∧ Below w.heap.size w W5) := ⟨c0_5.1, c0_5.2, c1_5.1, c1_5.2, c2_5.1, c2_5.2, c3_5.1, c3_5.2, c4_5.1, c4_5.2, hbW5⟩
  obtain ⟨cd1, cd2⟩ := c5_5
  clear c0_5 c1_5 c2_5 c3_5 c4_5
  by_cases h0 : n = 0
  · have hl0 : L = [] := List.eq_nil_of_length_eq_zero (by rw [← HN.out]; exact h0)
    obtain ⟨rfl, rfl, rfl⟩ : d1 = 0 ∧ d2 = 0 ∧ dd = false := by
      have := HDE.out
      rw [hl0] at this
      simp only [headM, Prod.mk.injEq] at this
      exact ⟨this.1.1.symm, this.1.2.symm, this.2.symm⟩
    clear hl0
    subst h0
    clear cma cmb
    go_quiet (fail)
    rename_i nq
    have hW := (show ((W5.drewN nq).cell? ⟨w.heap.size, 0, none⟩ = some (.int .i64 m1) ∧ (W5.drewN nq).cell? ⟨w.heap.size, 1, none⟩ = some (.int .i64 m2) ∧ (W5.drewN nq).cell? ⟨w1.heap.size, 0, none⟩ = some (.int .i64 a1) ∧ (W5.drewN nq).cell? ⟨w1.heap.size, 1, none⟩ = some (.int .i64 a2) ∧ (W5.drewN nq).cell? ⟨w2.heap.size, 0, none⟩ = some (.int .i64 a1) ∧ (W5.drewN nq).cell? ⟨w2.heap.size, 1, none⟩ = some (.int .i64 a2) ∧ (W5.drewN nq).cell? ⟨w3.heap.size, 0, none⟩ = some (.int .i64 b1) ∧ (W5.drewN nq).cell? ⟨w3.heap.size, 1, none⟩ = some (.int .i64 b2) ∧ (W5.drewN nq).cell? ⟨w4.heap.size, 0, none⟩ = some (.int .i64 b1) ∧ (W5.drewN nq).cell? ⟨w4.heap.size, 1, none⟩ = some (.int .i64 b2) ∧ Below w.heap.size w (W5.drewN nq)) from ⟨hW5.1, hW5.2.1, hW5.2.2.1, hW5.2.2.2.1, hW5.2.2.2.2.1, hW5.2.2.2.2.2.1, hW5.2.2.2.2.2.2.1, hW5.2.2.2.2.2.2.2.1, hW5.2.2.2.2.2.2.2.2.1, hW5.2.2.2.2.2.2.2.2.2.1, below_drewN hW5.2.2.2.2.2.2.2.2.2.2 _⟩)
    generalize W5.drewN nq = V at hW ⊢
    clear cd1 cd2 hW5
    obtain ⟨cm1, cm2⟩ : V.cell? ⟨w.heap.size, 0, none⟩ = some (.int .i64 m1) ∧ V.cell? ⟨w.heap.size, 1, none⟩ = some (.int .i64 m2) := ⟨hW.1, hW.2.1⟩
    by_cases h1 : m1 = fr
    · by_cases h2 : m2 = bo
      · subst h1 h2
        go_wp2_with fail
        refine (HF4.out V hW).mono ?_
        rintro e w6 ⟨rfl, hW6⟩
        clear hW cm1 cm2
        by_cases h3 : 0 ≤ ix
        · have HIN := Lib.hid (show true = decide ((m1, m2) = (m1, m2) ∧ 0 ≤ ix) by simp [h3])
          go_wp2_with fail
          go_region_held3 (fun W => (W.cell? ⟨w.heap.size, 0, none⟩ = some (.int .i64 m1) ∧ W.cell? ⟨w.heap.size, 1, none⟩ = some (.int .i64 m2) ∧ W.cell? ⟨w1.heap.size, 0, none⟩ = some (.int .i64 a1) ∧ W.cell? ⟨w1.heap.size, 1, none⟩ = some (.int .i64 a2) ∧ W.cell? ⟨w2.heap.size, 0, none⟩ = some (.int .i64 a1) ∧ W.cell? ⟨w2.heap.size, 1, none⟩ = some (.int .i64 a2) ∧ W.cell? ⟨w3.heap.size, 0, none⟩ = some (.int .i64 b1) ∧ W.cell? ⟨w3.heap.size, 1, none⟩ = some (.int .i64 b2) ∧ W.cell? ⟨w4.heap.size, 0, none⟩ = some (.int .i64 b1) ∧ W.cell? ⟨w4.heap.size, 1, none⟩ = some (.int .i64 b2) ∧ Below w.heap.size w W))
                (first | assumption | (refine ⟨?_, ?_, ?_, ?_, ?_, ?_, ?_, ?_, ?_, ?_, ?_⟩ <;> assumption) | (apply HD.out; first | assumption | (refine ⟨?_, ?_, ?_, ?_, ?_, ?_, ?_, ?_, ?_, ?_, ?_⟩ <;> assumption)))
                (first
                  | (go_at_call 11; refine (HF0.out _ ?_).mono ?_; (first | assumption | (refine ⟨?_, ?_, ?_, ?_, ?_, ?_, ?_, ?_, ?_, ?_, ?_⟩ <;> assumption)); rintro e wx ⟨rfl, i1, i2, i3, i4, i5, i6, i7, i8, i9, i10, i11⟩)
                  | (go_at_call 13; refine (HF1.out _ ?_).mono ?_; (first | assumption | (refine ⟨?_, ?_, ?_, ?_, ?_, ?_, ?_, ?_, ?_, ?_, ?_⟩ <;> assumption)); rintro e wx ⟨rfl, i1, i2, i3, i4, i5, i6, i7, i8, i9, i10, i11⟩)
                  | (go_at_call 21; refine (HF2.out _ ?_).mono ?_; (first | assumption | (refine ⟨?_, ?_, ?_, ?_, ?_, ?_, ?_, ?_, ?_, ?_, ?_⟩ <;> assumption)); rintro e wx ⟨rfl, i1, i2, i3, i4, i5, i6, i7, i8, i9, i10, i11⟩)
                  | (go_at_call 14; refine (HF3.out _ ?_).mono ?_; (first | assumption | (refine ⟨?_, ?_, ?_, ?_, ?_, ?_, ?_, ?_, ?_, ?_, ?_⟩ <;> assumption)); rintro e wx ⟨rfl, i1, i2, i3, i4, i5, i6, i7, i8, i9, i10, i11⟩)
                  | (go_at_call 20; refine (HF4.out _ ?_).mono ?_; (first | assumption | (refine ⟨?_, ?_, ?_, ?_, ?_, ?_, ?_, ?_, ?_, ?_, ?_⟩ <;> assumption)); rintro e wx ⟨rfl, i1, i2, i3, i4, i5, i6, i7, i8, i9, i10, i11⟩)
                  | (go_at_call 15; refine (HF5.out _ _ HIN.out ?_).mono ?_; (first | assumption | (refine ⟨?_, ?_, ?_, ?_, ?_, ?_, ?_, ?_, ?_, ?_, ?_⟩ <;> assumption)); rintro e wx ⟨rfl, i1, i2, i3, i4, i5, i6, i7, i8, i9, i10, i11⟩))
          go_wp2_with fail
          go_ret
          exact ⟨rfl, by assumption⟩
        · have HIN := Lib.hid (show false = decide ((m1, m2) = (m1, m2) ∧ 0 ≤ ix) by simp; omega)
          go_wp2_with fail
          go_region_held3 (fun W => (W.cell? ⟨w.heap.size, 0, none⟩ = some (.int .i64 m1) ∧ W.cell? ⟨w.heap.size, 1, none⟩ = some (.int .i64 m2) ∧ W.cell? ⟨w1.heap.size, 0, none⟩ = some (.int .i64 a1) ∧ W.cell? ⟨w1.heap.size, 1, none⟩ = some (.int .i64 a2) ∧ W.cell? ⟨w2.heap.size, 0, none⟩ = some (.int .i64 a1) ∧ W.cell? ⟨w2.heap.size, 1, none⟩ = some (.int .i64 a2) ∧ W.cell? ⟨w3.heap.size, 0, none⟩ = some (.int .i64 b1) ∧ W.cell? ⟨w3.heap.size, 1, none⟩ = some (.int .i64 b2) ∧ W.cell? ⟨w4.heap.size, 0, none⟩ = some (.int .i64 b1) ∧ W.cell? ⟨w4.heap.size, 1, none⟩ = some (.int .i64 b2) ∧ Below w.heap.size w W))
                (first | assumption | (refine ⟨?_, ?_, ?_, ?_, ?_, ?_, ?_, ?_, ?_, ?_, ?_⟩ <;> assumption) | (apply HD.out; first | assumption | (refine ⟨?_, ?_, ?_, ?_, ?_, ?_, ?_, ?_, ?_, ?_, ?_⟩ <;> assumption)))
                (first
                  | (go_at_call 11; refine (HF0.out _ ?_).mono ?_; (first | assumption | (refine ⟨?_, ?_, ?_, ?_, ?_, ?_, ?_, ?_, ?_, ?_, ?_⟩ <;> assumption)); rintro e wx ⟨rfl, i1, i2, i3, i4, i5, i6, i7, i8, i9, i10, i11⟩)
                  | (go_at_call 13; refine (HF1.out _ ?_).mono ?_; (first | assumption | (refine ⟨?_, ?_, ?_, ?_, ?_, ?_, ?_, ?_, ?_, ?_, ?_⟩ <;> assumption)); rintro e wx ⟨rfl, i1, i2, i3, i4, i5, i6, i7, i8, i9, i10, i11⟩)
                  | (go_at_call 21; refine (HF2.out _ ?_).mono ?_; (first | assumption | (refine ⟨?_, ?_, ?_, ?_, ?_, ?_, ?_, ?_, ?_, ?_, ?_⟩ <;> assumption)); rintro e wx ⟨rfl, i1, i2, i3, i4, i5, i6, i7, i8, i9, i10, i11⟩)
                  | (go_at_call 14; refine (HF3.out _ ?_).mono ?_; (first | assumption | (refine ⟨?_, ?_, ?_, ?_, ?_, ?_, ?_, ?_, ?_, ?_, ?_⟩ <;> assumption)); rintro e wx ⟨rfl, i1, i2, i3, i4, i5, i6, i7, i8, i9, i10, i11⟩)
                  | (go_at_call 20; refine (HF4.out _ ?_).mono ?_; (first | assumption | (refine ⟨?_, ?_, ?_, ?_, ?_, ?_, ?_, ?_, ?_, ?_, ?_⟩ <;> assumption)); rintro e wx ⟨rfl, i1, i2, i3, i4, i5, i6, i7, i8, i9, i10, i11⟩)
                  | (go_at_call 15; refine (HF5.out _ _ HIN.out ?_).mono ?_; (first | assumption | (refine ⟨?_, ?_, ?_, ?_, ?_, ?_, ?_, ?_, ?_, ?_, ?_⟩ <;> assumption)); rintro e wx ⟨rfl, i1, i2, i3, i4, i5, i6, i7, i8, i9, i10, i11⟩))
          go_wp2_with fail
          go_ret
          exact ⟨by show Ending.returned (.bool !decide (0 ≤ ix)) = _; rw [show decide (0 ≤ ix) = false from decide_eq_false (by omega)]; rfl, by assumption⟩
      · have HIN := Lib.hid (show false = decide ((m1, m2) = (fr, bo) ∧ 0 ≤ ix) by simp [h2])
        have q2 : (m2 == bo) = false := by simp only [beq_eq_false_iff_ne, ne_eq]; exact h2
        subst h1
        clear h2
        go_wp2_with fail
        clear cm1 cm2
        go_region_held3 (fun W => (W.cell? ⟨w.heap.size, 0, none⟩ = some (.int .i64 m1) ∧ W.cell? ⟨w.heap.size, 1, none⟩ = some (.int .i64 m2) ∧ W.cell? ⟨w1.heap.size, 0, none⟩ = some (.int .i64 a1) ∧ W.cell? ⟨w1.heap.size, 1, none⟩ = some (.int .i64 a2) ∧ W.cell? ⟨w2.heap.size, 0, none⟩ = some (.int .i64 a1) ∧ W.cell? ⟨w2.heap.size, 1, none⟩ = some (.int .i64 a2) ∧ W.cell? ⟨w3.heap.size, 0, none⟩ = some (.int .i64 b1) ∧ W.cell? ⟨w3.heap.size, 1, none⟩ = some (.int .i64 b2) ∧ W.cell? ⟨w4.heap.size, 0, none⟩ = some (.int .i64 b1) ∧ W.cell? ⟨w4.heap.size, 1, none⟩ = some (.int .i64 b2) ∧ Below w.heap.size w W))
              (first | assumption | (refine ⟨?_, ?_, ?_, ?_, ?_, ?_, ?_, ?_, ?_, ?_, ?_⟩ <;> assumption) | (apply HD.out; first | assumption | (refine ⟨?_, ?_, ?_, ?_, ?_, ?_, ?_, ?_, ?_, ?_, ?_⟩ <;> assumption)))
              (first
                | (go_at_call 11; refine (HF0.out _ ?_).mono ?_; (first | assumption | (refine ⟨?_, ?_, ?_, ?_, ?_, ?_, ?_, ?_, ?_, ?_, ?_⟩ <;> assumption)); rintro e wx ⟨rfl, i1, i2, i3, i4, i5, i6, i7, i8, i9, i10, i11⟩)
                | (go_at_call 13; refine (HF1.out _ ?_).mono ?_; (first | assumption | (refine ⟨?_, ?_, ?_, ?_, ?_, ?_, ?_, ?_, ?_, ?_, ?_⟩ <;> assumption)); rintro e wx ⟨rfl, i1, i2, i3, i4, i5, i6, i7, i8, i9, i10, i11⟩)
                | (go_at_call 21; refine (HF2.out _ ?_).mono ?_; (first | assumption | (refine ⟨?_, ?_, ?_, ?_, ?_, ?_, ?_, ?_, ?_, ?_, ?_⟩ <;> assumption)); rintro e wx ⟨rfl, i1, i2, i3, i4, i5, i6, i7, i8, i9, i10, i11⟩)
                | (go_at_call 14; refine (HF3.out _ ?_).mono ?_; (first | assumption | (refine ⟨?_, ?_, ?_, ?_, ?_, ?_, ?_, ?_, ?_, ?_, ?_⟩ <;> assumption)); rintro e wx ⟨rfl, i1, i2, i3, i4, i5, i6, i7, i8, i9, i10, i11⟩)
                | (go_at_call 20; refine (HF4.out _ ?_).mono ?_; (first | assumption | (refine ⟨?_, ?_, ?_, ?_, ?_, ?_, ?_, ?_, ?_, ?_, ?_⟩ <;> assumption)); rintro e wx ⟨rfl, i1, i2, i3, i4, i5, i6, i7, i8, i9, i10, i11⟩)
                | (go_at_call 15; refine (HF5.out _ _ HIN.out ?_).mono ?_; (first | assumption | (refine ⟨?_, ?_, ?_, ?_, ?_, ?_, ?_, ?_, ?_, ?_, ?_⟩ <;> assumption)); rintro e wx ⟨rfl, i1, i2, i3, i4, i5, i6, i7, i8, i9, i10, i11⟩))
        go_wp2_with fail
        go_ret
        exact ⟨rfl, by assumption⟩
    · have HIN := Lib.hid (show false = decide ((m1, m2) = (fr, bo) ∧ 0 ≤ ix) by simp [h1])
      have q1 : (m1 == fr) = false := by simp only [beq_eq_false_iff_ne, ne_eq]; exact h1
      clear h1
      go_wp2_with fail
      clear cm1 cm2
      go_region_held3 (fun W => (W.cell? ⟨w.heap.size, 0, none⟩ = some (.int .i64 m1) ∧ W.cell? ⟨w.heap.size, 1, none⟩ = some (.int .i64 m2) ∧ W.cell? ⟨w1.heap.size, 0, none⟩ = some (.int .i64 a1) ∧ W.cell? ⟨w1.heap.size, 1, none⟩ = some (.int .i64 a2) ∧ W.cell? ⟨w2.heap.size, 0, none⟩ = some (.int .i64 a1) ∧ W.cell? ⟨w2.heap.size, 1, none⟩ = some (.int .i64 a2) ∧ W.cell? ⟨w3.heap.size, 0, none⟩ = some (.int .i64 b1) ∧ W.cell? ⟨w3.heap.size, 1, none⟩ = some (.int .i64 b2) ∧ W.cell? ⟨w4.heap.size, 0, none⟩ = some (.int .i64 b1) ∧ W.cell? ⟨w4.heap.size, 1, none⟩ = some (.int .i64 b2) ∧ Below w.heap.size w W))
            (first | assumption | (refine ⟨?_, ?_, ?_, ?_, ?_, ?_, ?_, ?_, ?_, ?_, ?_⟩ <;> assumption) | (apply HD.out; first | assumption | (refine ⟨?_, ?_, ?_, ?_, ?_, ?_, ?_, ?_, ?_, ?_, ?_⟩ <;> assumption)))
            (first
              | (go_at_call 11; refine (HF0.out _ ?_).mono ?_; (first | assumption | (refine ⟨?_, ?_, ?_, ?_, ?_, ?_, ?_, ?_, ?_, ?_, ?_⟩ <;> assumption)); rintro e wx ⟨rfl, i1, i2, i3, i4, i5, i6, i7, i8, i9, i10, i11⟩)
              | (go_at_call 13; refine (HF1.out _ ?_).mono ?_; (first | assumption | (refine ⟨?_, ?_, ?_, ?_, ?_, ?_, ?_, ?_, ?_, ?_, ?_⟩ <;> assumption)); rintro e wx ⟨rfl, i1, i2, i3, i4, i5, i6, i7, i8, i9, i10, i11⟩)
              | (go_at_call 21; refine (HF2.out _ ?_).mono ?_; (first | assumption | (refine ⟨?_, ?_, ?_, ?_, ?_, ?_, ?_, ?_, ?_, ?_, ?_⟩ <;> assumption)); rintro e wx ⟨rfl, i1, i2, i3, i4, i5, i6, i7, i8, i9, i10, i11⟩)
              | (go_at_call 14; refine (HF3.out _ ?_).mono ?_; (first | assumption | (refine ⟨?_, ?_, ?_, ?_, ?_, ?_, ?_, ?_, ?_, ?_, ?_⟩ <;> assumption)); rintro e wx ⟨rfl, i1, i2, i3, i4, i5, i6, i7, i8, i9, i10, i11⟩)
              | (go_at_call 20; refine (HF4.out _ ?_).mono ?_; (first | assumption | (refine ⟨?_, ?_, ?_, ?_, ?_, ?_, ?_, ?_, ?_, ?_, ?_⟩ <;> assumption)); rintro e wx ⟨rfl, i1, i2, i3, i4, i5, i6, i7, i8, i9, i10, i11⟩)
              | (go_at_call 15; refine (HF5.out _ _ HIN.out ?_).mono ?_; (first | assumption | (refine ⟨?_, ?_, ?_, ?_, ?_, ?_, ?_, ?_, ?_, ?_, ?_⟩ <;> assumption)); rintro e wx ⟨rfl, i1, i2, i3, i4, i5, i6, i7, i8, i9, i10, i11⟩))
      go_wp2_with fail
      go_ret
      exact ⟨rfl, by assumption⟩
  · have h1L : 0 < L.length := by have := HN.out; omega
    obtain ⟨ad, rfl, -, hc1, hc2⟩ := RdM.at_ (hr.below (hbW5.mono hB)) h1L
    have e0 : ad.add 0 = ad := by simp [Addr.add]
    rw [Nat.zero_mul, e0] at hc1 hc2
    have hdd := HDE.out
    rw [head_right h1L] at hdd
    simp only [Prod.mk.injEq] at hdd
    obtain ⟨hd0, rfl⟩ := hdd
    rw [hd0] at hc1 hc2
    have hn0 : (0 : Int) < n := by omega
    have hn1 : decide ((0 : Int) < n) = true := decide_eq_true hn0
    have hn2 : ¬ (n : Int) ≤ 0 := by omega
    have hn3 : (!decide ((0 : Int) < n)) = false := by rw [hn1]; rfl
    have hn4 : (true != decide ((0 : Int) < n)) = false := by rw [hn1]; rfl
    have hn5 : decide ((n : Int) ≤ 0) = false := decide_eq_false hn2
    have hn6 : ¬ (n : Int) = 0 := by omega
    have hn7 : ¬ n = 0 := by omega
    have hn8 : 0 < n := by omega
    clear cma cmb hd0 h1L h0 e0
    go_quiet (fail)
    rename_i nq
    have hW := (show ((W5.drewN nq).cell? ⟨w.heap.size, 0, none⟩ = some (.int .i64 m1) ∧ (W5.drewN nq).cell? ⟨w.heap.size, 1, none⟩ = some (.int .i64 m2) ∧ (W5.drewN nq).cell? ⟨w1.heap.size, 0, none⟩ = some (.int .i64 a1) ∧ (W5.drewN nq).cell? ⟨w1.heap.size, 1, none⟩ = some (.int .i64 a2) ∧ (W5.drewN nq).cell? ⟨w2.heap.size, 0, none⟩ = some (.int .i64 a1) ∧ (W5.drewN nq).cell? ⟨w2.heap.size, 1, none⟩ = some (.int .i64 a2) ∧ (W5.drewN nq).cell? ⟨w3.heap.size, 0, none⟩ = some (.int .i64 b1) ∧ (W5.drewN nq).cell? ⟨w3.heap.size, 1, none⟩ = some (.int .i64 b2) ∧ (W5.drewN nq).cell? ⟨w4.heap.size, 0, none⟩ = some (.int .i64 b1) ∧ (W5.drewN nq).cell? ⟨w4.heap.size, 1, none⟩ = some (.int .i64 b2) ∧ Below w.heap.size w (W5.drewN nq)) from ⟨hW5.1, hW5.2.1, hW5.2.2.1, hW5.2.2.2.1, hW5.2.2.2.2.1, hW5.2.2.2.2.2.1, hW5.2.2.2.2.2.2.1, hW5.2.2.2.2.2.2.2.1, hW5.2.2.2.2.2.2.2.2.1, hW5.2.2.2.2.2.2.2.2.2.1, below_drewN hW5.2.2.2.2.2.2.2.2.2.2 _⟩)
    generalize W5.drewN nq = V at hW ⊢
    clear cd1 cd2 hW5 hc1 hc2
    obtain ⟨cm1, cm2⟩ : V.cell? ⟨w.heap.size, 0, none⟩ = some (.int .i64 m1) ∧ V.cell? ⟨w.heap.size, 1, none⟩ = some (.int .i64 m2) := ⟨hW.1, hW.2.1⟩
    by_cases h1 : m1 = fr
    · by_cases h2 : m2 = bo
      · subst h1 h2
        go_wp2_with fail
        refine (HF4.out V hW).mono ?_
        rintro e w6 ⟨rfl, hW6⟩
        clear hW cm1 cm2
        by_cases h3 : 0 ≤ ix
        · have HIN := Lib.hid (show true = decide ((m1, m2) = (m1, m2) ∧ 0 ≤ ix) by simp [h3])
          go_wp2_with fail
          go_region_held3 (fun W => (W.cell? ⟨w.heap.size, 0, none⟩ = some (.int .i64 m1) ∧ W.cell? ⟨w.heap.size, 1, none⟩ = some (.int .i64 m2) ∧ W.cell? ⟨w1.heap.size, 0, none⟩ = some (.int .i64 a1) ∧ W.cell? ⟨w1.heap.size, 1, none⟩ = some (.int .i64 a2) ∧ W.cell? ⟨w2.heap.size, 0, none⟩ = some (.int .i64 a1) ∧ W.cell? ⟨w2.heap.size, 1, none⟩ = some (.int .i64 a2) ∧ W.cell? ⟨w3.heap.size, 0, none⟩ = some (.int .i64 b1) ∧ W.cell? ⟨w3.heap.size, 1, none⟩ = some (.int .i64 b2) ∧ W.cell? ⟨w4.heap.size, 0, none⟩ = some (.int .i64 b1) ∧ W.cell? ⟨w4.heap.size, 1, none⟩ = some (.int .i64 b2) ∧ Below w.heap.size w W))
                (first | assumption | (refine ⟨?_, ?_, ?_, ?_, ?_, ?_, ?_, ?_, ?_, ?_, ?_⟩ <;> assumption) | (apply HD.out; first | assumption | (refine ⟨?_, ?_, ?_, ?_, ?_, ?_, ?_, ?_, ?_, ?_, ?_⟩ <;> assumption)))
                (first
                  | (go_at_call 11; refine (HF0.out _ ?_).mono ?_; (first | assumption | (refine ⟨?_, ?_, ?_, ?_, ?_, ?_, ?_, ?_, ?_, ?_, ?_⟩ <;> assumption)); rintro e wx ⟨rfl, i1, i2, i3, i4, i5, i6, i7, i8, i9, i10, i11⟩)
                  | (go_at_call 13; refine (HF1.out _ ?_).mono ?_; (first | assumption | (refine ⟨?_, ?_, ?_, ?_, ?_, ?_, ?_, ?_, ?_, ?_, ?_⟩ <;> assumption)); rintro e wx ⟨rfl, i1, i2, i3, i4, i5, i6, i7, i8, i9, i10, i11⟩)
                  | (go_at_call 21; refine (HF2.out _ ?_).mono ?_; (first | assumption | (refine ⟨?_, ?_, ?_, ?_, ?_, ?_, ?_, ?_, ?_, ?_, ?_⟩ <;> assumption)); rintro e wx ⟨rfl, i1, i2, i3, i4, i5, i6, i7, i8, i9, i10, i11⟩)
                  | (go_at_call 14; refine (HF3.out _ ?_).mono ?_; (first | assumption | (refine ⟨?_, ?_, ?_, ?_, ?_, ?_, ?_, ?_, ?_, ?_, ?_⟩ <;> assumption)); rintro e wx ⟨rfl, i1, i2, i3, i4, i5, i6, i7, i8, i9, i10, i11⟩)
                  | (go_at_call 20; refine (HF4.out _ ?_).mono ?_; (first | assumption | (refine ⟨?_, ?_, ?_, ?_, ?_, ?_, ?_, ?_, ?_, ?_, ?_⟩ <;> assumption)); rintro e wx ⟨rfl, i1, i2, i3, i4, i5, i6, i7, i8, i9, i10, i11⟩)
                  | (go_at_call 15; refine (HF5.out _ _ HIN.out ?_).mono ?_; (first | assumption | (refine ⟨?_, ?_, ?_, ?_, ?_, ?_, ?_, ?_, ?_, ?_, ?_⟩ <;> assumption)); rintro e wx ⟨rfl, i1, i2, i3, i4, i5, i6, i7, i8, i9, i10, i11⟩))
          go_wp2_with fail
          go_ret
          exact ⟨rfl, by assumption⟩
        · have HIN := Lib.hid (show false = decide ((m1, m2) = (m1, m2) ∧ 0 ≤ ix) by simp; omega)
          go_wp2_with fail
          go_region_held3 (fun W => (W.cell? ⟨w.heap.size, 0, none⟩ = some (.int .i64 m1) ∧ W.cell? ⟨w.heap.size, 1, none⟩ = some (.int .i64 m2) ∧ W.cell? ⟨w1.heap.size, 0, none⟩ = some (.int .i64 a1) ∧ W.cell? ⟨w1.heap.size, 1, none⟩ = some (.int .i64 a2) ∧ W.cell? ⟨w2.heap.size, 0, none⟩ = some (.int .i64 a1) ∧ W.cell? ⟨w2.heap.size, 1, none⟩ = some (.int .i64 a2) ∧ W.cell? ⟨w3.heap.size, 0, none⟩ = some (.int .i64 b1) ∧ W.cell? ⟨w3.heap.size, 1, none⟩ = some (.int .i64 b2) ∧ W.cell? ⟨w4.heap.size, 0, none⟩ = some (.int .i64 b1) ∧ W.cell? ⟨w4.heap.size, 1, none⟩ = some (.int .i64 b2) ∧ Below w.heap.size w W))
                (first | assumption | (refine ⟨?_, ?_, ?_, ?_, ?_, ?_, ?_, ?_, ?_, ?_, ?_⟩ <;> assumption) | (apply HD.out; first | assumption | (refine ⟨?_, ?_, ?_, ?_, ?_, ?_, ?_, ?_, ?_, ?_, ?_⟩ <;> assumption)))
                (first
                  | (go_at_call 11; refine (HF0.out _ ?_).mono ?_; (first | assumption | (refine ⟨?_, ?_, ?_, ?_, ?_, ?_, ?_, ?_, ?_, ?_, ?_⟩ <;> assumption)); rintro e wx ⟨rfl, i1, i2, i3, i4, i5, i6, i7, i8, i9, i10, i11⟩)
                  | (go_at_call 13; refine (HF1.out _ ?_).mono ?_; (first | assumption | (refine ⟨?_, ?_, ?_, ?_, ?_, ?_, ?_, ?_, ?_, ?_, ?_⟩ <;> assumption)); rintro e wx ⟨rfl, i1, i2, i3, i4, i5, i6, i7, i8, i9, i10, i11⟩)
                  | (go_at_call 21; refine (HF2.out _ ?_).mono ?_; (first | assumption | (refine ⟨?_, ?_, ?_, ?_, ?_, ?_, ?_, ?_, ?_, ?_, ?_⟩ <;> assumption)); rintro e wx ⟨rfl, i1, i2, i3, i4, i5, i6, i7, i8, i9, i10, i11⟩)
                  | (go_at_call 14; refine (HF3.out _ ?_).mono ?_; (first | assumption | (refine ⟨?_, ?_, ?_, ?_, ?_, ?_, ?_, ?_, ?_, ?_, ?_⟩ <;> assumption)); rintro e wx ⟨rfl, i1, i2, i3, i4, i5, i6, i7, i8, i9, i10, i11⟩)
                  | (go_at_call 20; refine (HF4.out _ ?_).mono ?_; (first | assumption | (refine ⟨?_, ?_, ?_, ?_, ?_, ?_, ?_, ?_, ?_, ?_, ?_⟩ <;> assumption)); rintro e wx ⟨rfl, i1, i2, i3, i4, i5, i6, i7, i8, i9, i10, i11⟩)
                  | (go_at_call 15; refine (HF5.out _ _ HIN.out ?_).mono ?_; (first | assumption | (refine ⟨?_, ?_, ?_, ?_, ?_, ?_, ?_, ?_, ?_, ?_, ?_⟩ <;> assumption)); rintro e wx ⟨rfl, i1, i2, i3, i4, i5, i6, i7, i8, i9, i10, i11⟩))
          go_wp2_with fail
          go_ret
          exact ⟨by show Ending.returned (.bool !decide (0 ≤ ix)) = _; rw [show decide (0 ≤ ix) = false from decide_eq_false (by omega)]; rfl, by assumption⟩
      · have HIN := Lib.hid (show false = decide ((m1, m2) = (fr, bo) ∧ 0 ≤ ix) by simp [h2])
        have q2 : (m2 == bo) = false := by simp only [beq_eq_false_iff_ne, ne_eq]; exact h2
        subst h1
        clear h2
        go_wp2_with fail
        clear cm1 cm2
        go_region_held3 (fun W => (W.cell? ⟨w.heap.size, 0, none⟩ = some (.int .i64 m1) ∧ W.cell? ⟨w.heap.size, 1, none⟩ = some (.int .i64 m2) ∧ W.cell? ⟨w1.heap.size, 0, none⟩ = some (.int .i64 a1) ∧ W.cell? ⟨w1.heap.size, 1, none⟩ = some (.int .i64 a2) ∧ W.cell? ⟨w2.heap.size, 0, none⟩ = some (.int .i64 a1) ∧ W.cell? ⟨w2.heap.size, 1, none⟩ = some (.int .i64 a2) ∧ W.cell? ⟨w3.heap.size, 0, none⟩ = some (.int .i64 b1) ∧ W.cell? ⟨w3.heap.size, 1, none⟩ = some (.int .i64 b2) ∧ W.cell? ⟨w4.heap.size, 0, none⟩ = some (.int .i64 b1) ∧ W.cell? ⟨w4.heap.size, 1, none⟩ = some (.int .i64 b2) ∧ Below w.heap.size w W))
              (first | assumption | (refine ⟨?_, ?_, ?_, ?_, ?_, ?_, ?_, ?_, ?_, ?_, ?_⟩ <;> assumption) | (apply HD.out; first | assumption | (refine ⟨?_, ?_, ?_, ?_, ?_, ?_, ?_, ?_, ?_, ?_, ?_⟩ <;> assumption)))
              (first
                | (go_at_call 11; refine (HF0.out _ ?_).mono ?_; (first | assumption | (refine ⟨?_, ?_, ?_, ?_, ?_, ?_, ?_, ?_, ?_, ?_, ?_⟩ <;> assumption)); rintro e wx ⟨rfl, i1, i2, i3, i4, i5, i6, i7, i8, i9, i10, i11⟩)
                | (go_at_call 13; refine (HF1.out _ ?_).mono ?_; (first | assumption | (refine ⟨?_, ?_, ?_, ?_, ?_, ?_, ?_, ?_, ?_, ?_, ?_⟩ <;> assumption)); rintro e wx ⟨rfl, i1, i2, i3, i4, i5, i6, i7, i8, i9, i10, i11⟩)
                | (go_at_call 21; refine (HF2.out _ ?_).mono ?_; (first | assumption | (refine ⟨?_, ?_, ?_, ?_, ?_, ?_, ?_, ?_, ?_, ?_, ?_⟩ <;> assumption)); rintro e wx ⟨rfl, i1, i2, i3, i4, i5, i6, i7, i8, i9, i10, i11⟩)
                | (go_at_call 14; refine (HF3.out _ ?_).mono ?_; (first | assumption | (refine ⟨?_, ?_, ?_, ?_, ?_, ?_, ?_, ?_, ?_, ?_, ?_⟩ <;> assumption)); rintro e wx ⟨rfl, i1, i2, i3, i4, i5, i6, i7, i8, i9, i10, i11⟩)
                | (go_at_call 20; refine (HF4.out _ ?_).mono ?_; (first | assumption | (refine ⟨?_, ?_, ?_, ?_, ?_, ?_, ?_, ?_, ?_, ?_, ?_⟩ <;> assumption)); rintro e wx ⟨rfl, i1, i2, i3, i4, i5, i6, i7, i8, i9, i10, i11⟩)
                | (go_at_call 15; refine (HF5.out _ _ HIN.out ?_).mono ?_; (first | assumption | (refine ⟨?_, ?_, ?_, ?_, ?_, ?_, ?_, ?_, ?_, ?_, ?_⟩ <;> assumption)); rintro e wx ⟨rfl, i1, i2, i3, i4, i5, i6, i7, i8, i9, i10, i11⟩))
        go_wp2_with fail
        go_ret
        exact ⟨rfl, by assumption⟩
    · have HIN := Lib.hid (show false = decide ((m1, m2) = (fr, bo) ∧ 0 ≤ ix) by simp [h1])
      have q1 : (m1 == fr) = false := by simp only [beq_eq_false_iff_ne, ne_eq]; exact h1
      clear h1
      go_wp2_with fail
      clear cm1 cm2
      go_region_held3 (fun W => (W.cell? ⟨w.heap.size, 0, none⟩ = some (.int .i64 m1) ∧ W.cell? ⟨w.heap.size, 1, none⟩ = some (.int .i64 m2) ∧ W.cell? ⟨w1.heap.size, 0, none⟩ = some (.int .i64 a1) ∧ W.cell? ⟨w1.heap.size, 1, none⟩ = some (.int .i64 a2) ∧ W.cell? ⟨w2.heap.size, 0, none⟩ = some (.int .i64 a1) ∧ W.cell? ⟨w2.heap.size, 1, none⟩ = some (.int .i64 a2) ∧ W.cell? ⟨w3.heap.size, 0, none⟩ = some (.int .i64 b1) ∧ W.cell? ⟨w3.heap.size, 1, none⟩ = some (.int .i64 b2) ∧ W.cell? ⟨w4.heap.size, 0, none⟩ = some (.int .i64 b1) ∧ W.cell? ⟨w4.heap.size, 1, none⟩ = some (.int .i64 b2) ∧ Below w.heap.size w W))
            (first | assumption | (refine ⟨?_, ?_, ?_, ?_, ?_, ?_, ?_, ?_, ?_, ?_, ?_⟩ <;> assumption) | (apply HD.out; first | assumption | (refine ⟨?_, ?_, ?_, ?_, ?_, ?_, ?_, ?_, ?_, ?_, ?_⟩ <;> assumption)))
            (first
              | (go_at_call 11; refine (HF0.out _ ?_).mono ?_; (first | assumption | (refine ⟨?_, ?_, ?_, ?_, ?_, ?_, ?_, ?_, ?_, ?_, ?_⟩ <;> assumption)); rintro e wx ⟨rfl, i1, i2, i3, i4, i5, i6, i7, i8, i9, i10, i11⟩)
              | (go_at_call 13; refine (HF1.out _ ?_).mono ?_; (first | assumption | (refine ⟨?_, ?_, ?_, ?_, ?_, ?_, ?_, ?_, ?_, ?_, ?_⟩ <;> assumption)); rintro e wx ⟨rfl, i1, i2, i3, i4, i5, i6, i7, i8, i9, i10, i11⟩)
              | (go_at_call 21; refine (HF2.out _ ?_).mono ?_; (first | assumption | (refine ⟨?_, ?_, ?_, ?_, ?_, ?_, ?_, ?_, ?_, ?_, ?_⟩ <;> assumption)); rintro e wx ⟨rfl, i1, i2, i3, i4, i5, i6, i7, i8, i9, i10, i11⟩)
              | (go_at_call 14; refine (HF3.out _ ?_).mono ?_; (first | assumption | (refine ⟨?_, ?_, ?_, ?_, ?_, ?_, ?_, ?_, ?_, ?_, ?_⟩ <;> assumption)); rintro e wx ⟨rfl, i1, i2, i3, i4, i5, i6, i7, i8, i9, i10, i11⟩)
              | (go_at_call 20; refine (HF4.out _ ?_).mono ?_; (first | assumption | (refine ⟨?_, ?_, ?_, ?_, ?_, ?_, ?_, ?_, ?_, ?_, ?_⟩ <;> assumption)); rintro e wx ⟨rfl, i1, i2, i3, i4, i5, i6, i7, i8, i9, i10, i11⟩)
              | (go_at_call 15; refine (HF5.out _ _ HIN.out ?_).mono ?_; (first | assumption | (refine ⟨?_, ?_, ?_, ?_, ?_, ?_, ?_, ?_, ?_, ?_, ?_⟩ <;> assumption)); rintro e wx ⟨rfl, i1, i2, i3, i4, i5, i6, i7, i8, i9, i10, i11⟩))
      go_wp2_with fail
      go_ret
      exact ⟨rfl, by assumption⟩
end Go.Proofs.Ytbnpljcjjpokjaa.viewWalk
