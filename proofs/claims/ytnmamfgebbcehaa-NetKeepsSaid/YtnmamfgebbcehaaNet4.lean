/- What net's Send answers. -/
import Derived.Test.YtnmamfgebbcehaaNet3
namespace Go.Proofs.Ytnmamfgebbcehaa.pk
open Go.RowKit Go.Proofs.Ytnmamfgebbcehaa.lib Go.Proofs.Ytnmamfgebbcehaa.byt

set_option maxHeartbeats 4000000 in
theorem send_any (w : World) {B : Nat} {A Ab : Option Addr} {n c m cb : Nat} {P : List Pk} {bs : List UInt8} (next to : Int) (hn : n = P.length) (hr : RdP w B A P) (hB : B ≤ w.heap.size) (hP : ShortP P) (hm : m = bs.length) (hrb : RdB w B Ab bs) (hbl : bs.length ≤ 1099511627770) (hnx : 0 ≤ next ∧ next ≤ 4611686018427387905) :
    Calls Try.prog 10 #[.agg #[.int .i64 next, .slice A n c], .int .i64 to, .slice Ab m cb] w fun e w' => ∃ A' c', e = .returned (.agg #[.int .i64 (next + 1), .slice A' (n + 1) c']) ∧ OwnP w' w.heap.size A' c' (P ++ [(next, to, bs)]) ∧ Below w.heap.size w w' := by
  have hnl : n ≤ 1099511627770 := by rw [hn]; exact hP.1
  have hnw : IntKind.i64.wrap (next + 1) = next + 1 := IntWalk.i64_in _ (by omega)
  have HN := Lib.hid hn
  have HP := Lib.hid hP
  have HM := Lib.hid hm
  have HNX := Lib.hid hnx
  clear hn hP hm hnx
  go_enter Try.func10, Try.ntmps10
  go_wp2_with fail
  have hszA : ((w.alloc (.cells #[.int .i64 next, .slice A n c] 24)).alloc (.cells #[.int .i64 0, .slice none 0 0] 24)).heap.size = w.heap.size + 2 := by simp
  have hbA : Below w.heap.size w ((w.alloc (.cells #[.int .i64 next, .slice A n c] 24)).alloc (.cells #[.int .i64 0, .slice none 0 0] 24)) := ((Below.refl _ _).alloc (Nat.le_refl _) _).alloc (by simp) _
  have x1 : ((w.alloc (.cells #[.int .i64 next, .slice A n c] 24)).alloc (.cells #[.int .i64 0, .slice none 0 0] 24)).cell? ⟨w.heap.size, 0, none⟩ = some (.int .i64 next) := by simp
  have x3 : ((w.alloc (.cells #[.int .i64 next, .slice A n c] 24)).alloc (.cells #[.int .i64 0, .slice none 0 0] 24)).cell? ⟨w.heap.size + 1, 0, none⟩ = some (.int .i64 0) := by simp
  have x4 : ((w.alloc (.cells #[.int .i64 next, .slice A n c] 24)).alloc (.cells #[.int .i64 0, .slice none 0 0] 24)).cell? ⟨w.heap.size + 1, 1, none⟩ = some (.slice none 0 0) := by simp
  have f2 : ∀ j, ((w.alloc (.cells #[.int .i64 next, .slice A n c] 24)).alloc (.cells #[.int .i64 0, .slice none 0 0] 24)).frozen? ⟨w.heap.size + 1, j, none⟩ = false := fun j => by simp
  generalize (w.alloc (.cells #[.int .i64 next, .slice A n c] 24)).alloc (.cells #[.int .i64 0, .slice none 0 0] 24) = V at hszA hbA x1 x3 x4 f2 ⊢
  refine (own_any V next HN.out (hr.below (hbA.mono hB)) (Nat.le_trans hB hbA.size) HP.out.1 HP.out.2).mono ?_
  rintro e w1 ⟨A1, c1, rfl, ho1, hb1⟩
  have hz1 := hb1.size
  have hbA1 : Below w1.heap.size w1 (w1.alloc (.cells #[.int .i64 next, .slice A1 n c1] 24)) := (Below.refl _ _).alloc (Nat.le_refl _) _
  have hV1 : Below V.heap.size V (w1.alloc (.cells #[.int .i64 next, .slice A1 n c1] 24)) := hb1.alloc hb1.size _
  have hb01 : Below w.heap.size w (w1.alloc (.cells #[.int .i64 next, .slice A1 n c1] 24)) := hbA.trans (hV1.mono hbA.size)
  have y1 := keepc x1 hV1
  have y3 := keepc x3 hV1
  have y4 := keepc x4 hV1
  have g2 : ∀ j, (w1.alloc (.cells #[.int .i64 next, .slice A1 n c1] 24)).frozen? ⟨w.heap.size + 1, j, none⟩ = false := fun j => by rw [hV1.frozen (by simp; omega)]; exact f2 j
  have z1 : (w1.alloc (.cells #[.int .i64 next, .slice A1 n c1] 24)).cell? ⟨w1.heap.size, 0, none⟩ = some (.int .i64 next) := by simp
  have z2 : (w1.alloc (.cells #[.int .i64 next, .slice A1 n c1] 24)).cell? ⟨w1.heap.size, 1, none⟩ = some (.slice A1 n c1) := by simp
  have z3 : ∀ j, (w1.alloc (.cells #[.int .i64 next, .slice A1 n c1] 24)).frozen? ⟨w1.heap.size, j, none⟩ = false := fun j => by simp
  have hszB : (w1.alloc (.cells #[.int .i64 next, .slice A1 n c1] 24)).heap.size = w1.heap.size + 1 := by simp
  have HO := Lib.hid ((ho1.away (x := w1.heap.size) (Nat.le_refl _)).below hbA1 (Nat.le_refl _))
  have hfar : ∀ b, A1.map (·.block) = some b → b < w1.heap.size := fun b e => by obtain ⟨H, h1, _⟩ := ho1; exact (own_row h1 e).2
  have HF := Lib.hid hfar
  clear x1 x3 x4 f2 ho1 hb1 hfar hbA1
  go_wp2_with fail
  generalize w1.alloc (.cells #[.int .i64 next, .slice A1 n c1] 24) = U at hV1 hb01 y1 y3 y4 g2 z1 z2 z3 hszB HO ⊢
  have hC : ∀ W : World, Below U.heap.size U W → Calls Try.prog 23 #[.slice Ab m cb] W fun e W' => ∃ A2 c2, e = .returned (.slice A2 m c2) ∧ Hid (OwnB W' U.heap.size A2 c2 bs) ∧ Below U.heap.size U W' ∧
      W'.cell? ⟨w.heap.size, 0, none⟩ = some (.int .i64 next) ∧ W'.cell? ⟨w1.heap.size, 1, none⟩ = some (.slice A1 n c1) ∧ (∀ o, (W'.alloc o).cell? ⟨w.heap.size, 0, none⟩ = some (.int .i64 next)) ∧ (∀ o, (W'.alloc o).cell? ⟨w1.heap.size, 1, none⟩ = some (.slice A1 n c1)) := fun W h => by
    have hw := hb01.size
    refine (cloneB_any W HM.out (hrb.below ((hb01.trans (h.mono hw)).mono hB)) (by have := h.size; omega) (by omega)).mono ?_
    rintro e W' ⟨A2, c2, rfl, ho, hb⟩
    have hx : Below U.heap.size U W' := h.trans (hb.mono h.size)
    exact ⟨A2, c2, rfl, Lib.hid (own_base ho h.size), hx, keepc y1 hx, keepc z2 hx, fun o => Go.Lib.cell?_alloc_marked o (keepc y1 hx), fun o => Go.Lib.cell?_alloc_marked o (keepc z2 hx)⟩
  have hAp : ∀ (W : World) (A2 : Option Addr) (c2 : Nat), Hid (OwnB W U.heap.size A2 c2 bs) → Below U.heap.size U W →
      ∃ A' c' w', (Builtin.append_ #[22, 22] 22 #[.slice A1 n c1, .slice (some ⟨W.heap.size, 0, none⟩) 1 1]).run Try.prog (W.alloc (.cells #[.int .i64 next, .int .i64 to, .slice A2 m c2] 29)) = .ok (.slice A' (n + 1) c') w' ∧ Hid (OwnPN w' V.heap.size A' c' (P ++ [(next, to, bs)]) w1.heap.size) ∧ Below V.heap.size W w' ∧
        w'.cell? ⟨w1.heap.size, 0, none⟩ = some (.int .i64 next) ∧ w'.cell? ⟨w1.heap.size, 1, none⟩ = some (.slice A1 n c1) ∧ (∀ j, w'.frozen? ⟨w1.heap.size, j, none⟩ = false) := fun W A2 c2 ho hb => by
    have hw := hb.size
    obtain ⟨A', c', w', r1, r2, r3, r4⟩ := append_onePk W V.heap.size HN.out (HO.out.below hb (Nat.le_refl _)) next to HM.out ho.out hV1.size (by omega) (by omega) (fun b e => by have := HF.out b e; omega) (by omega) (by have := hV1.size; omega)
    refine ⟨A', c', w', r1, Lib.hid r2, r3, ?_, ?_, fun j => ?_⟩
    · rw [World.cell?_of_block (w := W) r4]; exact keepc z1 hb
    · rw [World.cell?_of_block (w := W) r4]; exact keepc z2 hb
    · rw [World.frozen?_of_block (w := W) r4, hb.frozen (by simp; omega)]; exact z3 j
  have HC := Lib.hid hC
  have HAP := Lib.hid hAp
  have hbq : Below U.heap.size U U := Below.refl _ _
  have hbqd : Below U.heap.size U U.drew := below_drewN (Below.refl _ _) 1
  clear hC hAp hrb
  go_region_law (first
    | (go_simp; go_at_call 23; refine (HC.out _ (by assumption)).mono ?_; rintro e wx ⟨A2, c2, rfl, HO2, hbx, i1, i2, i3, i4⟩)
    | (obtain ⟨A3, c3, w4, hrun, HO3, hb4, k1, k2, k3⟩ := HAP.out _ _ _ (by assumption) (by assumption); refine step_append_run rfl rfl rfl rfl hrun ?_))
  all_goals
    have hlw : w1.heap.size < wx.heap.size := by have := hbx.size; omega
    have p1 : (w4.setCell ⟨w1.heap.size, 1, none⟩ (.slice A3 (n + 1) c3)).cell? ⟨w1.heap.size, 0, none⟩ = some (.int .i64 next) := by rw [World.cell?_setCell_other w4 _ _ _ (by simp)]; exact k1
    have p2 : (w4.setCell ⟨w1.heap.size, 1, none⟩ (.slice A3 (n + 1) c3)).cell? ⟨w1.heap.size, 1, none⟩ = some (.slice A3 (n + 1) c3) := World.cell?_setCell_same w4 _ _ k2
    have p3 : ∀ j, (w4.setCell ⟨w1.heap.size, 1, none⟩ (.slice A3 (n + 1) c3)).frozen? ⟨w1.heap.size, j, none⟩ = false := fun j => by simpa using k3 j
    have p4 : (w4.setCell ⟨w1.heap.size, 1, none⟩ (.slice A3 (n + 1) c3)).cell? ⟨w.heap.size + 1, 0, none⟩ = some (.int .i64 0) := by
      rw [World.cell?_setCell_other w4 _ _ _ (fun e => by injection e; omega), hb4.cell (by simp only; omega)]; exact keepc y3 hbx
    have p5 : (w4.setCell ⟨w1.heap.size, 1, none⟩ (.slice A3 (n + 1) c3)).cell? ⟨w.heap.size + 1, 1, none⟩ = some (.slice none 0 0) := by
      rw [World.cell?_setCell_other w4 _ _ _ (fun e => by injection e; omega), hb4.cell (by simp only; omega)]; exact keepc y4 hbx
    have p6 : ∀ j, (w4.setCell ⟨w1.heap.size, 1, none⟩ (.slice A3 (n + 1) c3)).frozen? ⟨w.heap.size + 1, j, none⟩ = false := fun j => by
      have : w4.frozen? ⟨w.heap.size + 1, j, none⟩ = false := by rw [hb4.frozen (by simp only; omega), hbx.frozen (by simp only; have := hb01.size; omega)]; exact g2 j
      simpa using this
    have HF2 := Lib.hid (HO3.out.store (p := ⟨w1.heap.size, 1, none⟩) rfl (.slice A3 (n + 1) c3))
    have hbf : Below w.heap.size w (w4.setCell ⟨w1.heap.size, 1, none⟩ (.slice A3 (n + 1) c3)) :=
      ((hb01.trans (hbx.mono hb01.size)).trans (hb4.mono (by omega))).setCell (by simp only; omega) _
    have hlf : w1.heap.size < (w4.setCell ⟨w1.heap.size, 1, none⟩ (.slice A3 (n + 1) c3)).heap.size := by have := hb4.size; simp; omega
    generalize w4.setCell ⟨w1.heap.size, 1, none⟩ (.slice A3 (n + 1) c3) = Wf at p1 p2 p3 p4 p5 p6 HF2 hbf hlf ⊢
    clear k1 k2 k3 hb4 HO3 HO2 hbx i1 i2 i3 i4 HC HAP y1 y3 y4 z1 z2 z3 g2 hbq hbqd
    go_wp2_with fail
    have HE := Lib.hid ((((HF2.out.store (p := ⟨w1.heap.size, 0, none⟩) rfl (.int .i64 (next + 1))).own.low (p := ⟨w.heap.size + 1, 0, none⟩) (by simp only; omega) (.int .i64 (next + 1))).low (p := ⟨w.heap.size + 1, 1, none⟩) (by simp only; omega) (.slice A3 (n + 1) c3)).base (show w.heap.size ≤ V.heap.size by omega))
    refine bodyPost_ret (v := .agg #[.int .i64 (next + 1), .slice A3 (n + 1) c3]) ?_ rfl ⟨A3, c3, rfl, HE.out, (((hbf.setCell (by simp only; omega) _).setCell (by simp) _).setCell (by simp) _)⟩
    rw [results_cell_one rfl]
    go_simp
    first | done | rfl
end Go.Proofs.Ytnmamfgebbcehaa.pk
