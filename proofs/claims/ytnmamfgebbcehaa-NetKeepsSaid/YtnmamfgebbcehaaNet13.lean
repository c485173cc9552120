/- What net's Cut answers. -/
import Derived.Test.YtnmamfgebbcehaaNet12
namespace Go.Proofs.Ytnmamfgebbcehaa.pk
open Go.RowKit Go.Proofs.Ytnmamfgebbcehaa.lib Go.Proofs.Ytnmamfgebbcehaa.byt
set_option linter.unusedVariables false

set_option maxHeartbeats 4000000 in
theorem cut_any (w : World) {B : Nat} {A : Option Addr} {n c : Nat} {P : List Pk} (next x : Int) (hn : n = P.length) (hr : RdP w B A P) (hB : B ≤ w.heap.size) (hP : ShortP P) :
    Calls Try.prog 19 #[.agg #[.int .i64 next, .slice A n c], .int .i64 x] w fun e w' => ∃ A' n' c', e = .returned (.agg #[.int .i64 next, .slice A' n' c']) ∧ n' = (cutL x P).length ∧ OwnP w' w.heap.size A' c' (cutL x P) ∧ Below w.heap.size w w' := by
  have HN := Lib.hid hn
  have HP := Lib.hid hP
  have H0 := heap3 w (.cells #[.int .i64 next, .slice A n c] 24) (.cells #[.int .i64 x] 3) (.cells #[.int .i64 0, .slice none 0 0] 24)
  have hszA : (((w.alloc (.cells #[.int .i64 next, .slice A n c] 24)).alloc (.cells #[.int .i64 x] 3)).alloc (.cells #[.int .i64 0, .slice none 0 0] 24)).heap.size = w.heap.size + 3 := by simp
  have hbA : Below w.heap.size w (((w.alloc (.cells #[.int .i64 next, .slice A n c] 24)).alloc (.cells #[.int .i64 x] 3)).alloc (.cells #[.int .i64 0, .slice none 0 0] 24)) := low3
  have x1 : (((w.alloc (.cells #[.int .i64 next, .slice A n c] 24)).alloc (.cells #[.int .i64 x] 3)).alloc (.cells #[.int .i64 0, .slice none 0 0] 24)).cell? ⟨w.heap.size, 0, none⟩ = some (.int .i64 next) := by rw [cell_of_row _ _ _ _ _ (0, 0) H0.1]; rfl
  have x2 : (((w.alloc (.cells #[.int .i64 next, .slice A n c] 24)).alloc (.cells #[.int .i64 x] 3)).alloc (.cells #[.int .i64 0, .slice none 0 0] 24)).cell? ⟨w.heap.size, 1, none⟩ = some (.slice A n c) := by rw [cell_of_row _ _ _ _ _ (0, 0) H0.1]; rfl
  have x3 : (((w.alloc (.cells #[.int .i64 next, .slice A n c] 24)).alloc (.cells #[.int .i64 x] 3)).alloc (.cells #[.int .i64 0, .slice none 0 0] 24)).cell? ⟨w.heap.size + 1, 0, none⟩ = some (.int .i64 x) := by rw [cell_of_row _ _ _ _ _ (0, 0) H0.2.1]; rfl
  have x4 : (((w.alloc (.cells #[.int .i64 next, .slice A n c] 24)).alloc (.cells #[.int .i64 x] 3)).alloc (.cells #[.int .i64 0, .slice none 0 0] 24)).cell? ⟨w.heap.size + 2, 0, none⟩ = some (.int .i64 0) := by rw [cell_of_row _ _ _ _ _ (0, 0) H0.2.2]; rfl
  have x5 : (((w.alloc (.cells #[.int .i64 next, .slice A n c] 24)).alloc (.cells #[.int .i64 x] 3)).alloc (.cells #[.int .i64 0, .slice none 0 0] 24)).cell? ⟨w.heap.size + 2, 1, none⟩ = some (.slice none 0 0) := by rw [cell_of_row _ _ _ _ _ (0, 0) H0.2.2]; rfl
  have f2 : ∀ j, (((w.alloc (.cells #[.int .i64 next, .slice A n c] 24)).alloc (.cells #[.int .i64 x] 3)).alloc (.cells #[.int .i64 0, .slice none 0 0] 24)).frozen? ⟨w.heap.size + 2, j, none⟩ = false := fun j => frozen_of_row _ _ j _ _ H0.2.2
  clear hn hP H0
  go_enter Try.func19, Try.ntmps19
  go_wp2_with fail
  generalize (((w.alloc (.cells #[.int .i64 next, .slice A n c] 24)).alloc (.cells #[.int .i64 x] 3)).alloc (.cells #[.int .i64 0, .slice none 0 0] 24)) = V at hbA hszA x1 x2 x3 x4 x5 f2 ⊢
  refine (own_any V next HN.out (hr.below (hbA.mono hB)) (Nat.le_trans hB hbA.size) HP.out.1 HP.out.2).mono ?_
  rintro e w1 ⟨A1, c1, rfl, ho1, hb1⟩
  have hbq : Below w1.heap.size w1 (w1.alloc (.cells #[.int .i64 next, .slice A1 n c1] 24)) := (Below.refl _ _).alloc (Nat.le_refl _) _
  have HO := Lib.hid ((ho1.away (x := w1.heap.size) (Nat.le_refl _)).below hbq (Nat.le_refl _))
  have hb12 : Below V.heap.size V (w1.alloc (.cells #[.int .i64 next, .slice A1 n c1] 24)) := hb1.alloc hb1.size _
  have hs1 : V.heap.size ≤ w1.heap.size := hb1.size
  have hsU : (w1.alloc (.cells #[.int .i64 next, .slice A1 n c1] 24)).heap.size = w1.heap.size + 1 := by simp
  replace x3 := keepc x3 hb12
  replace x4 := keepc x4 hb12
  replace x5 := keepc x5 hb12
  replace f2 : ∀ j, (w1.alloc (.cells #[.int .i64 next, .slice A1 n c1] 24)).frozen? ⟨w.heap.size + 2, j, none⟩ = false := fun j => by rw [hb12.frozen (by simp only; omega)]; exact f2 j
  have z1 : (w1.alloc (.cells #[.int .i64 next, .slice A1 n c1] 24)).cell? ⟨w1.heap.size, 0, none⟩ = some (.int .i64 next) := by simp
  have z2 : (w1.alloc (.cells #[.int .i64 next, .slice A1 n c1] 24)).cell? ⟨w1.heap.size, 1, none⟩ = some (.slice A1 n c1) := by simp
  have z3 : ∀ j, (w1.alloc (.cells #[.int .i64 next, .slice A1 n c1] 24)).frozen? ⟨w1.heap.size, j, none⟩ = false := fun j => by simp
  have hbwU : Below w.heap.size w (w1.alloc (.cells #[.int .i64 next, .slice A1 n c1] 24)) := hbA.trans (hb12.mono hbA.size)
  have HV := Lib.hid hszA
  have hwlt : w.heap.size + 3 ≤ w1.heap.size := by omega
  clear hbq hb1 x1 x2 ho1 hb12 hbA hszA hs1
  go_wp2_with fail
  generalize (w1.alloc (.cells #[.int .i64 next, .slice A1 n c1] 24)) = U at x3 x4 x5 f2 z1 z2 z3 hbwU HO hsU ⊢
  have hrow : ∀ b, A1.map (·.block) = some b → V.heap.size ≤ b ∧ b ≠ w1.heap.size := fun b hb => by
    obtain ⟨H, h1, _, h0, _⟩ := HO.out
    exact ⟨(own_row h1 hb).1, fun e => h0 (by rw [hb, e])⟩
  refine (deleteTo_any U x HN.out HO.out HP.out.1 x3 (by have := HV.out; omega) (by have := HV.out; omega)).mono ?_
  rintro e w3 ⟨n', rfl, hn', ho3, hu⟩
  have hsv := HV.out
  have ne1 : some (w.heap.size + 2) ≠ A1.map (·.block) := fun e => by have := (hrow _ e.symm).1; omega
  have ne2 : some w1.heap.size ≠ A1.map (·.block) := fun e => (hrow _ e.symm).2 rfl
  replace x4 : w3.cell? ⟨w.heap.size + 2, 0, none⟩ = some (.int .i64 0) := hu.grown.cell x4 ne1
  replace x5 : w3.cell? ⟨w.heap.size + 2, 1, none⟩ = some (.slice none 0 0) := hu.grown.cell x5 ne1
  replace z1 : w3.cell? ⟨w1.heap.size, 0, none⟩ = some (.int .i64 next) := hu.grown.cell z1 ne2
  replace z2 : w3.cell? ⟨w1.heap.size, 1, none⟩ = some (.slice A1 n c1) := hu.grown.cell z2 ne2
  replace f2 : ∀ j, w3.frozen? ⟨w.heap.size + 2, j, none⟩ = false := fun j => (hu.grown.frozen_far ⟨w.heap.size + 2, j, none⟩ (by simp only; omega) ne1).trans (f2 j)
  replace z3 : ∀ j, w3.frozen? ⟨w1.heap.size, j, none⟩ = false := fun j => (hu.grown.frozen_far ⟨w1.heap.size, j, none⟩ (by simp only; omega) ne2).trans (z3 j)
  have hbw3 : Below w.heap.size w w3 := hbwU.trans ((hu.below (fun ad e => by have := (hrow ad.block (by rw [e]; rfl)).1; omega) (by omega) : Below w.heap.size U w3))
  have c1' : (w3.setCell ⟨w1.heap.size, 1, none⟩ (.slice A1 n' c1)).cell? ⟨w1.heap.size, 0, none⟩ = some (.int .i64 next) := by rw [World.cell?_setCell_other w3 _ _ _ (by simp)]; exact z1
  have c2' : (w3.setCell ⟨w1.heap.size, 1, none⟩ (.slice A1 n' c1)).cell? ⟨w1.heap.size, 1, none⟩ = some (.slice A1 n' c1) := World.cell?_setCell_same w3 _ _ z2
  have c3' : (w3.setCell ⟨w1.heap.size, 1, none⟩ (.slice A1 n' c1)).cell? ⟨w.heap.size + 2, 0, none⟩ = some (.int .i64 0) := by rw [World.cell?_setCell_other w3 _ _ _ (fun e => by injection e; omega)]; exact x4
  have c4' : (w3.setCell ⟨w1.heap.size, 1, none⟩ (.slice A1 n' c1)).cell? ⟨w.heap.size + 2, 1, none⟩ = some (.slice none 0 0) := by rw [World.cell?_setCell_other w3 _ _ _ (fun e => by injection e; omega)]; exact x5
  have g2 : ∀ j, (w3.setCell ⟨w1.heap.size, 1, none⟩ (.slice A1 n' c1)).frozen? ⟨w.heap.size + 2, j, none⟩ = false := fun j => by simpa using f2 j
  have hz3 := z3 1
  have HF := Lib.hid (ho3.store (p := ⟨w1.heap.size, 1, none⟩) rfl (.slice A1 n' c1))
  have HN' := Lib.hid hn'
  clear x3 x4 x5 z1 z3 f2 hu ho3 hn' hbwU hsU HO hrow ne1 ne2 hsv
  go_wp2_with fail
  refine bodyPost_ret (v := .agg #[.int .i64 next, .slice A1 n' c1]) ?_ rfl ⟨A1, n', c1, rfl, HN'.out, ?_, ?_⟩
  · rw [results_cell_one rfl]
    go_simp
    first | done | rfl
  · have hsv := HV.out
    refine OwnP.base (B := V.heap.size) ?_ (by omega)
    repeat (refine OwnP.low ?_ (by simp only; omega) _)
    exact HF.out.own
  · repeat (refine Below.setCell ?_ (by simp only; omega) _)
    exact hbw3
end Go.Proofs.Ytnmamfgebbcehaa.pk
