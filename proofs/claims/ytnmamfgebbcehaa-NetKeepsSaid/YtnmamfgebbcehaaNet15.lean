/- What the document's Cut of a net answers. -/
import Derived.Test.YtnmamfgebbcehaaNet14
namespace Go.Proofs.Ytnmamfgebbcehaa.pk
open Go.RowKit Go.Proofs.Ytnmamfgebbcehaa.lib Go.Proofs.Ytnmamfgebbcehaa.byt
set_option linter.unusedVariables false

set_option maxHeartbeats 4000000 in
theorem refCut_any (w : World) {B : Nat} {A : Option Addr} {n c : Nat} {P : List Pk} (next x : Int) (hn : n = P.length) (hr : RdP w B A P) (hB : B ≤ w.heap.size) (hP : P.length ≤ 1099511627770) :
    Calls Try.prog 20 #[.agg #[.int .i64 next, .slice A n c], .int .i64 x] w fun e w' => ∃ A' m' c', e = .returned (.agg #[.int .i64 next, .slice A' m' c']) ∧ m' = (cutL x P).length ∧ WInv w' w.heap.size A' m' c' B (cutL x P) ∧ Below w.heap.size w w' := by
  have HN := Lib.hid hn
  have hns : n ≤ 1099511627770 := by omega
  have H0 := heap3 w (.cells #[.int .i64 next, .slice A n c] 24) (.cells #[.int .i64 0, .slice none 0 0] 24) (.cells #[.int .i64 next, .slice none 0 0] 24)
  have hszA : (((w.alloc (.cells #[.int .i64 next, .slice A n c] 24)).alloc (.cells #[.int .i64 0, .slice none 0 0] 24)).alloc (.cells #[.int .i64 next, .slice none 0 0] 24)).heap.size = w.heap.size + 3 := by simp
  have hbA : Below w.heap.size w (((w.alloc (.cells #[.int .i64 next, .slice A n c] 24)).alloc (.cells #[.int .i64 0, .slice none 0 0] 24)).alloc (.cells #[.int .i64 next, .slice none 0 0] 24)) := low3
  have hF : ((((w.alloc (.cells #[.int .i64 next, .slice A n c] 24)).alloc (.cells #[.int .i64 0, .slice none 0 0] 24)).alloc (.cells #[.int .i64 next, .slice none 0 0] 24)).cell? ⟨w.heap.size, 0, none⟩ = some (.int .i64 next) ∧ (((w.alloc (.cells #[.int .i64 next, .slice A n c] 24)).alloc (.cells #[.int .i64 0, .slice none 0 0] 24)).alloc (.cells #[.int .i64 next, .slice none 0 0] 24)).cell? ⟨w.heap.size, 1, none⟩ = some (.slice A n c) ∧ (((w.alloc (.cells #[.int .i64 next, .slice A n c] 24)).alloc (.cells #[.int .i64 0, .slice none 0 0] 24)).alloc (.cells #[.int .i64 next, .slice none 0 0] 24)).cell? ⟨w.heap.size + 1, 0, none⟩ = some (.int .i64 0) ∧ (((w.alloc (.cells #[.int .i64 next, .slice A n c] 24)).alloc (.cells #[.int .i64 0, .slice none 0 0] 24)).alloc (.cells #[.int .i64 next, .slice none 0 0] 24)).cell? ⟨w.heap.size + 1, 1, none⟩ = some (.slice none 0 0) ∧ (((w.alloc (.cells #[.int .i64 next, .slice A n c] 24)).alloc (.cells #[.int .i64 0, .slice none 0 0] 24)).alloc (.cells #[.int .i64 next, .slice none 0 0] 24)).cell? ⟨w.heap.size + 2, 0, none⟩ = some (.int .i64 next) ∧ (∀ j, (((w.alloc (.cells #[.int .i64 next, .slice A n c] 24)).alloc (.cells #[.int .i64 0, .slice none 0 0] 24)).alloc (.cells #[.int .i64 next, .slice none 0 0] 24)).frozen? ⟨w.heap.size + 1, j, none⟩ = false) ∧ (∀ j, (((w.alloc (.cells #[.int .i64 next, .slice A n c] 24)).alloc (.cells #[.int .i64 0, .slice none 0 0] 24)).alloc (.cells #[.int .i64 next, .slice none 0 0] 24)).frozen? ⟨w.heap.size + 2, j, none⟩ = false)) := ⟨by rw [cell_of_row _ _ _ _ _ (0, 0) H0.1]; rfl, by rw [cell_of_row _ _ _ _ _ (0, 0) H0.1]; rfl, by rw [cell_of_row _ _ _ _ _ (0, 0) H0.2.1]; rfl, by rw [cell_of_row _ _ _ _ _ (0, 0) H0.2.1]; rfl, by rw [cell_of_row _ _ _ _ _ (0, 0) H0.2.2]; rfl, fun j => frozen_of_row _ _ j _ _ H0.2.1, fun j => frozen_of_row _ _ j _ _ H0.2.2⟩
  have hf5 : (((w.alloc (.cells #[.int .i64 next, .slice A n c] 24)).alloc (.cells #[.int .i64 0, .slice none 0 0] 24)).alloc (.cells #[.int .i64 next, .slice none 0 0] 24)).cell? ⟨w.heap.size + 2, 1, none⟩ = some (.slice none 0 0) := by rw [cell_of_row _ _ _ _ _ (0, 0) H0.2.2]; rfl
  have HF := Lib.hid hF
  clear hn H0 hF
  go_enter Try.func20, Try.ntmps20
  go_wp2_with fail
  generalize (((w.alloc (.cells #[.int .i64 next, .slice A n c] 24)).alloc (.cells #[.int .i64 0, .slice none 0 0] 24)).alloc (.cells #[.int .i64 next, .slice none 0 0] 24)) = V at hbA hszA HF hf5 ⊢
  have hsz0 : w.heap.size + 3 ≤ V.heap.size := by omega
  have HI0 := Lib.hid (show WInv V (w.heap.size + 3) none 0 0 B (cutL x (P.take 0)) from by
    have : cutL x (P.take 0) = [] := by rfl
    rw [this]
    exact WInv.nil _ _ _)
  clear hszA
  go_loopw [6] (fun vi wr => ∃ (k m1 c1 : Nat) (A1 : Option Addr), k ≤ n ∧ m1 ≤ k ∧ vi = .int .i64 k ∧ Hid (WInv wr (w.heap.size + 3) A1 m1 c1 B (cutL x (P.take k))) ∧ Hid (wr.cell? ⟨w.heap.size, 0, none⟩ = some (.int .i64 next) ∧ wr.cell? ⟨w.heap.size, 1, none⟩ = some (.slice A n c) ∧ wr.cell? ⟨w.heap.size + 1, 0, none⟩ = some (.int .i64 0) ∧ wr.cell? ⟨w.heap.size + 1, 1, none⟩ = some (.slice none 0 0) ∧ wr.cell? ⟨w.heap.size + 2, 0, none⟩ = some (.int .i64 next) ∧ (∀ j, wr.frozen? ⟨w.heap.size + 1, j, none⟩ = false) ∧ (∀ j, wr.frozen? ⟨w.heap.size + 2, j, none⟩ = false)) ∧ wr.cell? ⟨w.heap.size + 2, 1, none⟩ = some (.slice A1 m1 c1) ∧ Below w.heap.size w wr ∧ w.heap.size + 3 ≤ wr.heap.size) (fun vi _ => n - (intOf vi).toNat)
  case atStart => exact ⟨0, 0, 0, none, Nat.zero_le _, Nat.zero_le _, rfl, HI0, HF, hf5, hbA, hsz0⟩
  case round =>
    obtain ⟨k, m1, c1, A1, hk, hmk, rfl, HI, HF, c5, hb, hsz⟩ := hrel
    obtain ⟨c0, c1', c2, c3, c4, f1, f2⟩ := id HF.out
    by_cases hlt : k < n
    · have h1 : k < P.length := by rw [← HN.out]; exact hlt
      obtain ⟨ad, Ab, cb, eA, -, r1, r2, r3, hrb⟩ := RdP.at_ (hr.below (hb.mono hB)) h1
      subst eA
      obtain ⟨p1, p2, bs, hp⟩ : ∃ a b d, P[k] = (a, b, d) := ⟨_, _, _, rfl⟩
      obtain ⟨m, hm⟩ : ∃ m, m = bs.length := ⟨_, rfl⟩
      rw [hp] at r1 r2 r3 hrb
      simp only at r1 r2 r3 hrb
      rw [← hm] at r3
      have hnx := cutL_next x P k h1
      by_cases he : p2 = x
      · have he2 : P[k].2.1 = x := by rw [hp]; exact he
        rw [if_pos he2, List.append_nil] at hnx
        have HNX := Lib.hid (show WInv wr (w.heap.size + 3) A1 m1 c1 B (cutL x (P.take (k + 1))) from by rw [hnx]; exact HI.out)
        subst he
        have hk0 : (0 : Int) ≤ k := by omega
        have hk1 : (k : Int) < n := by omega
        clear he2 hnx hp hm hrb
        go_wp2_with fail
        go_roundw
        case rel => exact ⟨k + 1, m1, c1, A1, by omega, by omega, by go_num, HNX, HF, c5, hb, hsz⟩
        case measure => simp [intOf] <;> omega
      · have he2 : ¬ P[k].2.1 = x := by rw [hp]; exact he
        rw [if_neg he2, hp] at hnx
        have q1 : (p2 == x) = false := by simp only [beq_eq_false_iff_ne, ne_eq]; exact he
        have hAp : ∀ W : World, Below wr.heap.size wr W → ∃ A' c' w', (Builtin.append_ #[22, 22] 22 #[.slice A1 m1 c1, .slice (some ⟨W.heap.size, 0, none⟩) 1 1]).run Try.prog (W.alloc (.cells #[.int .i64 p1, .int .i64 p2, .slice Ab m cb] 29)) = .ok (.slice A' (m1 + 1) c') w' ∧ Hid (WInv w' (w.heap.size + 3) A' (m1 + 1) c' B (cutL x (P.take (k + 1)))) ∧ Hid (w'.cell? ⟨w.heap.size, 0, none⟩ = some (.int .i64 next) ∧ w'.cell? ⟨w.heap.size, 1, none⟩ = some (.slice (some ad) n c) ∧ w'.cell? ⟨w.heap.size + 1, 0, none⟩ = some (.int .i64 0) ∧ w'.cell? ⟨w.heap.size + 1, 1, none⟩ = some (.slice none 0 0) ∧ w'.cell? ⟨w.heap.size + 2, 0, none⟩ = some (.int .i64 next) ∧ (∀ j, w'.frozen? ⟨w.heap.size + 1, j, none⟩ = false) ∧ (∀ j, w'.frozen? ⟨w.heap.size + 2, j, none⟩ = false)) ∧ w'.cell? ⟨w.heap.size + 2, 1, none⟩ = some (.slice A1 m1 c1) ∧ w'.frozen? ⟨w.heap.size + 2, 1, none⟩ = false ∧ Below w.heap.size w w' ∧ w.heap.size + 3 ≤ w'.heap.size := fun W hW => by
          have hs := hW.size
          obtain ⟨A', c', w', e1, e2, e3, -⟩ := append_w W (w.heap.size + 3) (HI.out.below hW (by omega)) p1 p2 (v := .slice Ab m cb) (bs := bs) ⟨Ab, cb, by rw [hm], hrb.below (hW.mono (by omega))⟩ (by omega) (by omega) (by omega) _ rfl
          have hF' := facts_below HF.out ((hW.mono hsz).trans e3)
          exact ⟨A', c', w', e1, Lib.hid (by rw [hnx]; exact e2), Lib.hid hF', (((hW.mono hsz).trans e3).cell (p := ⟨w.heap.size + 2, 1, none⟩) (by simp only; omega)).trans c5, hF'.2.2.2.2.2.2 1, hb.trans (((hW.mono hsz).trans e3).mono (by omega)), by have := e3.size; omega⟩
        have c5a : ∀ o, (wr.alloc o).cell? ⟨w.heap.size + 2, 1, none⟩ = some (.slice A1 m1 c1) := fun o => Go.Lib.cell?_alloc_marked o c5
        have HAP := Lib.hid hAp
        have hbq : Below wr.heap.size wr wr := Below.refl _ _
        have hbqd : Below wr.heap.size wr wr.drew := below_drewN (Below.refl _ _) 1
        have hk0 : (0 : Int) ≤ k := by omega
        have hk1 : (k : Int) < n := by omega
        clear he2 hnx hp hm hrb hAp
        go_wp2_with fail
        go_region_law (obtain ⟨A3, c3, w4, hrun, HI2, HF2, k1, k2, k3, k4⟩ := HAP.out _ (by assumption); refine step_append_run rfl rfl rfl rfl hrun ?_)
        all_goals
          have HNI := Lib.hid (HI2.out.low (p := ⟨w.heap.size + 2, 1, none⟩) (by simp only; omega) (by simp only; omega) (.slice A3 (m1 + 1) c3))
          have HNF := Lib.hid (facts_store HF2.out (.slice A3 (m1 + 1) c3))
          have n5 := World.cell?_setCell_same w4 _ (.slice A3 (m1 + 1) c3) k1
          have nb : Below w.heap.size w (w4.setCell ⟨w.heap.size + 2, 1, none⟩ (.slice A3 (m1 + 1) c3)) := k3.setCell (by simp only; omega) _
          have ns : w.heap.size + 3 ≤ (w4.setCell ⟨w.heap.size + 2, 1, none⟩ (.slice A3 (m1 + 1) c3)).heap.size := by simpa using k4
          clear HAP hbq hbqd c5a
          go_wp2_with fail
          go_roundw
          case rel => exact ⟨k + 1, m1 + 1, c3, A3, by omega, by omega, by go_num, HNI, HNF, n5, nb, ns⟩
          case measure => simp [intOf] <;> omega
    · have hkn : P.take k = P := List.take_of_length_le (by have := HN.out; omega)
      rw [hkn] at HI
      have HL := Lib.hid (show m1 = (cutL x P).length from by obtain ⟨_, _, h, _⟩ := HI.out; exact h)
      have HFN := Lib.hid (((HI.out.base (show w.heap.size + 1 ≤ w.heap.size + 3 by omega))))
      clear hkn
      go_wp2_with fail
      refine bodyPost_ret (v := .agg #[.int .i64 next, .slice A1 m1 c1]) ?_ rfl ⟨A1, m1, c1, rfl, HL.out, ?_, ?_⟩
      · rw [results_cell_one rfl]
        go_simp
        first | done | rfl
      · refine WInv.base (base := w.heap.size + 3) ?_ (by omega)
        repeat (refine WInv.low ?_ (by simp only; omega) (by simp only; omega) _)
        exact HI.out
      · repeat (refine Below.setCell ?_ (by simp only; omega) _)
        exact hb
end Go.Proofs.Ytnmamfgebbcehaa.pk
