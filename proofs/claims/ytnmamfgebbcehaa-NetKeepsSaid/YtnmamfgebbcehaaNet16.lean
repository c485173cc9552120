/- What the document's Send of a net answers. -/
import Derived.Test.YtnmamfgebbcehaaNet15
namespace Go.Proofs.Ytnmamfgebbcehaa.pk
open Go.RowKit Go.Proofs.Ytnmamfgebbcehaa.lib Go.Proofs.Ytnmamfgebbcehaa.byt
set_option linter.unusedVariables false

theorem wo_neg (P : List Pk) : wo (-1) P = P := by unfold wo; simp
set_option maxHeartbeats 1000000 in
theorem refSend_any (w : World) {B : Nat} {A Ab : Option Addr} {n c m cb : Nat} {P : List Pk} {bs : List UInt8} (next x : Int) (hn : n = P.length) (hr : RdP w B A P) (hB : B ≤ w.heap.size) (hP : P.length ≤ 1099511627770) (hm : m = bs.length) (hrb : RdB w B Ab bs) (hnx : 0 ≤ next ∧ next ≤ 4611686018427387904) :
    Calls Try.prog 16 #[.agg #[.int .i64 next, .slice A n c], .int .i64 x, .slice Ab m cb] w fun e w' => ∃ A' c', e = .returned (.agg #[.int .i64 (next + 1), .slice A' (n + 1) c']) ∧ WInv w' w.heap.size A' (n + 1) c' B (P ++ [(next, x, bs)]) ∧ Below w.heap.size w w' := by
  have HN := Lib.hid hn
  have hns : n ≤ 1099511627770 := by omega
  have hnw : IntKind.i64.wrap (next + 1) = next + 1 := IntWalk.i64_in _ (by omega)
  have HNX := Lib.hid hnx
  have HM := Lib.hid hm
  have hszA : ((w.alloc (.cells #[.int .i64 next, .slice A n c] 24)).alloc (.cells #[.int .i64 0, .slice none 0 0] 24)).heap.size = w.heap.size + 2 := by simp
  have hbA : Below w.heap.size w ((w.alloc (.cells #[.int .i64 next, .slice A n c] 24)).alloc (.cells #[.int .i64 0, .slice none 0 0] 24)) := ((Below.refl _ _).alloc (Nat.le_refl _) _).alloc (by simp) _
  have x1 : ((w.alloc (.cells #[.int .i64 next, .slice A n c] 24)).alloc (.cells #[.int .i64 0, .slice none 0 0] 24)).cell? ⟨w.heap.size, 0, none⟩ = some (.int .i64 next) := by simp
  have x3 : ((w.alloc (.cells #[.int .i64 next, .slice A n c] 24)).alloc (.cells #[.int .i64 0, .slice none 0 0] 24)).cell? ⟨w.heap.size + 1, 0, none⟩ = some (.int .i64 0) := by simp
  have x4 : ((w.alloc (.cells #[.int .i64 next, .slice A n c] 24)).alloc (.cells #[.int .i64 0, .slice none 0 0] 24)).cell? ⟨w.heap.size + 1, 1, none⟩ = some (.slice none 0 0) := by simp
  have f2 : ∀ j, ((w.alloc (.cells #[.int .i64 next, .slice A n c] 24)).alloc (.cells #[.int .i64 0, .slice none 0 0] 24)).frozen? ⟨w.heap.size + 1, j, none⟩ = false := fun j => by simp
  clear hn hm hnx
  go_enter Try.func16, Try.ntmps16
  go_wp2_with fail
  generalize ((w.alloc (.cells #[.int .i64 next, .slice A n c] 24)).alloc (.cells #[.int .i64 0, .slice none 0 0] 24)) = V at hbA hszA x1 x3 x4 f2 ⊢
  have hwo := without_any V (c := c) next (-1) HN.out (hr.below (hbA.mono hB)) (Nat.le_trans hB hbA.size) hP
  rw [wo_neg] at hwo
  refine hwo.mono ?_
  rintro e w1 ⟨A1, m1, c1, rfl, hm1, hI, hb1⟩
  obtain rfl : m1 = n := by rw [hm1, HN.out]
  have hbq : Below w1.heap.size w1 (w1.alloc (.cells #[.int .i64 next, .slice A1 m1 c1] 24)) := (Below.refl _ _).alloc (Nat.le_refl _) _
  have hs1 := hb1.size
  have HI := Lib.hid (hI.below hbq (by omega))
  have hb12 : Below V.heap.size V (w1.alloc (.cells #[.int .i64 next, .slice A1 m1 c1] 24)) := hb1.alloc hb1.size _
  have hsU : (w1.alloc (.cells #[.int .i64 next, .slice A1 m1 c1] 24)).heap.size = w1.heap.size + 1 := by simp
  replace x1 := keepc x1 hb12
  replace x3 := keepc x3 hb12
  replace x4 := keepc x4 hb12
  replace f2 : ∀ j, (w1.alloc (.cells #[.int .i64 next, .slice A1 m1 c1] 24)).frozen? ⟨w.heap.size + 1, j, none⟩ = false := fun j => by rw [hb12.frozen (by simp only; omega)]; exact f2 j
  have z1 : (w1.alloc (.cells #[.int .i64 next, .slice A1 m1 c1] 24)).cell? ⟨w1.heap.size, 0, none⟩ = some (.int .i64 next) := by simp
  have z2 : (w1.alloc (.cells #[.int .i64 next, .slice A1 m1 c1] 24)).cell? ⟨w1.heap.size, 1, none⟩ = some (.slice A1 m1 c1) := by simp
  have z3 : ∀ j, (w1.alloc (.cells #[.int .i64 next, .slice A1 m1 c1] 24)).frozen? ⟨w1.heap.size, j, none⟩ = false := fun j => by simp
  have hbwU : Below w.heap.size w (w1.alloc (.cells #[.int .i64 next, .slice A1 m1 c1] 24)) := hbA.trans (hb12.mono hbA.size)
  have hfar := hI.far (Nat.le_refl _)
  have HV := Lib.hid hszA
  have hwlt : w.heap.size + 2 ≤ w1.heap.size := by omega
  have hVl : V.heap.size ≤ (w1.alloc (.cells #[.int .i64 next, .slice A1 m1 c1] 24)).heap.size := by omega
  clear hwo hbq hb1 hI hbA hs1 hm1
  obtain ⟨A3, c3, w3, hrun, hI3, hb3, hz⟩ := append_w (w1.alloc (.cells #[.int .i64 next, .slice A1 m1 c1] 24)) V.heap.size HI.out next x (v := .slice Ab m cb) (bs := bs) ⟨Ab, cb, by rw [HM.out], hrb.below (hbwU.mono hB)⟩ (by omega) hVl (by have := HV.out; omega) _ rfl
  obtain ⟨hd3, hfar3⟩ := hz w1.heap.size (by omega) hfar
  have hvs := HV.out
  have u1 := x1
  replace x1 : w3.cell? ⟨w.heap.size, 0, none⟩ = some (.int .i64 next) := (hb3.cell (p := ⟨w.heap.size, 0, none⟩) (by simp only; omega)).trans x1
  replace x3 : w3.cell? ⟨w.heap.size + 1, 0, none⟩ = some (.int .i64 0) := (hb3.cell (p := ⟨w.heap.size + 1, 0, none⟩) (by simp only; omega)).trans x3
  replace x4 : w3.cell? ⟨w.heap.size + 1, 1, none⟩ = some (.slice none 0 0) := (hb3.cell (p := ⟨w.heap.size + 1, 1, none⟩) (by simp only; omega)).trans x4
  replace f2 : ∀ j, w3.frozen? ⟨w.heap.size + 1, j, none⟩ = false := fun j => (hb3.frozen (p := ⟨w.heap.size + 1, j, none⟩) (by simp only; omega)).trans (f2 j)
  replace z1 : w3.cell? ⟨w1.heap.size, 0, none⟩ = some (.int .i64 next) := (World.cell?_of_block hd3).trans z1
  have y2 : w3.cell? ⟨w1.heap.size, 1, none⟩ = some (.slice A1 m1 c1) := (World.cell?_of_block hd3).trans z2
  have y3 : ∀ j, w3.frozen? ⟨w1.heap.size, j, none⟩ = false := fun j => (World.frozen?_of_block hd3).trans (z3 j)
  have hbw3 : Below w.heap.size w w3 := hbwU.trans (hb3.mono (by omega))
  have HI3 := Lib.hid hI3
  have HFAR := Lib.hid hfar3
  rw [hsU] at hrun
  have x1a : ∀ u j, j ≠ 0 ∨ True → (w3.setCell ⟨w1.heap.size, j, none⟩ u).cell? ⟨w.heap.size, 0, none⟩ = some (.int .i64 next) := fun u j _ => by rw [World.cell?_setCell_other w3 _ _ _ (fun e => by injection e; omega)]; exact x1
  have x1b := x1a (.slice A3 (m1 + 1) c3) 1 (.inr trivial)
  have s3 : (w3.setCell ⟨w1.heap.size, 1, none⟩ (.slice A3 (m1 + 1) c3)).cell? ⟨w.heap.size + 1, 0, none⟩ = some (.int .i64 0) := by rw [World.cell?_setCell_other w3 _ _ _ (fun e => by injection e; omega)]; exact x3
  have s4 : (w3.setCell ⟨w1.heap.size, 1, none⟩ (.slice A3 (m1 + 1) c3)).cell? ⟨w.heap.size + 1, 1, none⟩ = some (.slice none 0 0) := by rw [World.cell?_setCell_other w3 _ _ _ (fun e => by injection e; omega)]; exact x4
  have s5 : (w3.setCell ⟨w1.heap.size, 1, none⟩ (.slice A3 (m1 + 1) c3)).cell? ⟨w1.heap.size, 0, none⟩ = some (.int .i64 next) := by rw [World.cell?_setCell_other w3 _ _ _ (by simp)]; exact z1
  have s6 := World.cell?_setCell_same w3 _ (.slice A3 (m1 + 1) c3) y2
  have sf : ∀ j, (w3.setCell ⟨w1.heap.size, 1, none⟩ (.slice A3 (m1 + 1) c3)).frozen? ⟨w.heap.size + 1, j, none⟩ = false := fun j => by simpa using f2 j
  have sg : ∀ j, (w3.setCell ⟨w1.heap.size, 1, none⟩ (.slice A3 (m1 + 1) c3)).frozen? ⟨w1.heap.size, j, none⟩ = false := fun j => by simpa using y3 j
  clear hszA hb12 z2 z3 hz hfar hfar3 hd3 hI3 hb3 x1 x1a x3 x4 f2 z1 hbwU hVl hsU HI hvs
  go_wp2_with (at_builtin; refine wpList_append_run rfl rfl rfl rfl hrun ?_; clear hrun)
  refine bodyPost_ret (v := .agg #[.int .i64 (next + 1), .slice A3 (m1 + 1) c3]) ?_ rfl ⟨A3, c3, rfl, ?_, ?_⟩
  · rw [results_cell_one rfl]
    go_simp
    first | done | rfl
  · have hvs := HV.out
    refine WInv.base (base := V.heap.size) ?_ (by omega)
    repeat (refine WInv.low ?_ (by simp only; omega) (by simp only; omega) _)
    repeat (refine WInv.other ?_ HFAR.out (by simp only; omega) _)
    exact HI3.out
  · repeat (refine Below.setCell ?_ (by simp only; omega) _)
    exact hbw3
end Go.Proofs.Ytnmamfgebbcehaa.pk
