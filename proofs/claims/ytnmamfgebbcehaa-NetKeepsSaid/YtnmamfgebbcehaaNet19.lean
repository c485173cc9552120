/- What the document's Copy of a net answers. -/
import Derived.Test.YtnmamfgebbcehaaNet18
namespace Go.Proofs.Ytnmamfgebbcehaa.pk
open Go.RowKit Go.Proofs.Ytnmamfgebbcehaa.lib Go.Proofs.Ytnmamfgebbcehaa.byt
set_option linter.unusedVariables false

theorem refTake_any (w : World) {B : Nat} {A : Option Addr} {n c : Nat} {P : List Pk} (next : Int) (i : Nat) (hn : n = P.length) (hr : RdP w B A P) (hB : B ≤ w.heap.size) (hP : ShortP P) (ok : Bool) (hok : ok = decide (0 < P.length)) :
    Calls Try.prog 15 #[.agg #[.int .i64 next, .slice A n c], .int .i64 i] w fun e w' => ∃ A' n' c' Ab m cb, e = .returned (.tuple #[.agg #[.int .i64 (tkP P i).1, .int .i64 (tkP P i).2.1, .slice Ab m cb], .agg #[.int .i64 next, .slice A' n' c'], .bool ok]) ∧ m = (tkP P i).2.2.length ∧ n' = (tkL P i).length ∧ RdB w' B Ab (tkP P i).2.2 ∧ RdP w' w'.heap.size A' (tkL P i) ∧ Below w.heap.size w w' := by
  by_cases h0 : n = 0
  · have hP0 : P = [] := List.eq_nil_of_length_eq_zero (by omega)
    subst hP0
    subst hok
    refine (refTake_none w next i h0).mono ?_
    rintro e w' ⟨rfl, hb⟩
    exact ⟨A, 0, c, none, 0, 0, rfl, rfl, rfl, ⟨rfl, fun h => absurd h (by rw [tkP_nil]; simp)⟩, (hr.below (hb.mono hB)).more (Nat.le_trans hB hb.size), hb⟩
  · obtain rfl : ok = true := by rw [hok]; exact decide_eq_true (by omega)
    exact refTake_some w next i hn hr hB hP (by omega)

set_option maxHeartbeats 4000000 in
theorem refCopy_none (w : World) {A : Option Addr} {n c : Nat} (next : Int) (i : Nat) (h0 : n = 0) :
    Calls Try.prog 18 #[.agg #[.int .i64 next, .slice A n c], .int .i64 i] w fun e w' => e = .returned (.agg #[.int .i64 next, .slice A 0 c]) ∧ Below w.heap.size w w' := by
  subst h0
  go_enter Try.func18, Try.ntmps18
  go_wp2_with fail
  refine bodyPost_ret (v := .agg #[.int .i64 next, .slice A 0 c]) ?_ rfl ⟨rfl, ?_⟩
  · rw [results_cell_one rfl]
    go_simp
    first | done | rfl
  · repeat (refine Below.setCell ?_ (by simp only; omega) _)
    first | exact ((Below.refl _ _).alloc (Nat.le_refl _) _).alloc (by simp) _ | skip

set_option maxHeartbeats 8000000 in
theorem refCopy_some (w : World) {B : Nat} {A : Option Addr} {n c : Nat} {P : List Pk} (next : Int) (i : Nat) (hn : n = P.length) (hr : RdP w B A P) (hB : B ≤ w.heap.size) (hP : ShortP P) (hnx : 0 ≤ next ∧ next ≤ 4611686018427387904) (h0 : 0 < n) :
    Calls Try.prog 18 #[.agg #[.int .i64 next, .slice A n c], .int .i64 i] w fun e w' => ∃ A' c', e = .returned (.agg #[.int .i64 (next + 1), .slice A' (n + 1) c']) ∧ RdP w' w'.heap.size A' (copyM next P i) ∧ Below w.heap.size w w' := by
  have HP := Lib.hid hP
  have HN := Lib.hid hn
  obtain ⟨q, hq⟩ : ∃ q, q = i % n := ⟨_, rfl⟩
  have hqn : q < n := by rw [hq]; exact Nat.mod_lt _ h0
  have hql : q < P.length := by omega
  obtain ⟨p1, p2, bs, hp⟩ : ∃ a b d, P[q] = (a, b, d) := ⟨_, _, _, rfl⟩
  have HC := Lib.hid (show copyM next P i = P ++ [(next, p2, bs)] by
    unfold copyM
    rw [← hn, ← hq, List.getElem?_eq_getElem hql, hp])
  obtain ⟨m, hm⟩ : ∃ m, m = bs.length := ⟨_, rfl⟩
  obtain ⟨ad, Ab, cb, eA, hadB, r1, r2, r3, hrb⟩ := RdP.at_ hr hql
  subst eA
  rw [hp] at r1 r2 r3 hrb
  simp only at r1 r2 r3 hrb
  rw [← hm] at r3
  have hszA : ((w.alloc (.cells #[.int .i64 next, .slice (some ad) n c] 24)).alloc (.cells #[.int .i64 0, .slice none 0 0] 24)).heap.size = w.heap.size + 2 := by simp
  have hbA : Below w.heap.size w ((w.alloc (.cells #[.int .i64 next, .slice (some ad) n c] 24)).alloc (.cells #[.int .i64 0, .slice none 0 0] 24)) := ((Below.refl _ _).alloc (Nat.le_refl _) _).alloc (by simp) _
  have x1 : ((w.alloc (.cells #[.int .i64 next, .slice (some ad) n c] 24)).alloc (.cells #[.int .i64 0, .slice none 0 0] 24)).cell? ⟨w.heap.size, 0, none⟩ = some (.int .i64 next) := by simp
  have x2 : ((w.alloc (.cells #[.int .i64 next, .slice (some ad) n c] 24)).alloc (.cells #[.int .i64 0, .slice none 0 0] 24)).cell? ⟨w.heap.size, 1, none⟩ = some (.slice (some ad) n c) := by simp
  have x3 : ((w.alloc (.cells #[.int .i64 next, .slice (some ad) n c] 24)).alloc (.cells #[.int .i64 0, .slice none 0 0] 24)).cell? ⟨w.heap.size + 1, 0, none⟩ = some (.int .i64 0) := by simp
  have x4 : ((w.alloc (.cells #[.int .i64 next, .slice (some ad) n c] 24)).alloc (.cells #[.int .i64 0, .slice none 0 0] 24)).cell? ⟨w.heap.size + 1, 1, none⟩ = some (.slice none 0 0) := by simp
  have f2 : ∀ j, ((w.alloc (.cells #[.int .i64 next, .slice (some ad) n c] 24)).alloc (.cells #[.int .i64 0, .slice none 0 0] 24)).frozen? ⟨w.heap.size + 1, j, none⟩ = false := fun j => by simp
  have hnl : n ≤ 1099511627770 := by rw [hn]; exact hP.1
  have q0 : ((n : Int) == 0) = false := by simp only [beq_eq_false_iff_ne, ne_eq]; omega
  have q1 : ¬ (n : Int) = 0 := by omega
  have q2 : (0 : Int) ≤ q := by omega
  have q3 : (q : Int) < n := by omega
  have t1 : (i : Int).tmod n = q := by rw [hq]; rfl
  have HM := Lib.hid hm
  have HNX := Lib.hid hnx
  replace r1 := keepc r1 hbA
  replace r2 := keepc r2 hbA
  replace r3 := keepc r3 hbA
  clear hn hP hm hq hp hnx
  go_enter Try.func18, Try.ntmps18
  go_upto_region 1 with (fail)
  generalize hV : ((w.alloc (.cells #[.int .i64 next, .slice (some ad) n c] 24)).alloc (.cells #[.int .i64 0, .slice none 0 0] 24)) = V at hbA hszA x1 x2 x3 x4 f2 r1 r2 r3 ⊢
  have HSZ := Lib.hid hszA
  have x1a : ∀ o, (V.alloc o).cell? ⟨w.heap.size, 0, none⟩ = some (.int .i64 next) := fun o => Go.Lib.cell?_alloc_marked o x1
  have x2a : ∀ o, (V.alloc o).cell? ⟨w.heap.size, 1, none⟩ = some (.slice (some ad) n c) := fun o => Go.Lib.cell?_alloc_marked o x2
  have r1a : ∀ o, (V.alloc o).cell? (ad.add (q * 3)) = some (.int .i64 p1) := fun o => Go.Lib.cell?_alloc_marked o r1
  have r2a : ∀ o, (V.alloc o).cell? ⟨(ad.add (q * 3)).block, (ad.add (q * 3)).off + 1, none⟩ = some (.int .i64 p2) := fun o => Go.Lib.cell?_alloc_marked o r2
  have r3a : ∀ o, (V.alloc o).cell? ⟨(ad.add (q * 3)).block, (ad.add (q * 3)).off + 2, none⟩ = some (.slice Ab m cb) := fun o => Go.Lib.cell?_alloc_marked o r3
  clear hV hszA
  go_wp2_with fail
  go_region
  have hbU : Below V.heap.size V ((V.alloc (.cells #[.int .i64 p1, .int .i64 p2, .slice Ab m cb] 29)).drew) := below_drew ((Below.refl _ _).alloc (Nat.le_refl _) _)
  have hbwU := hbA.trans (hbU.mono hbA.size)
  have hsv := HSZ.out
  have HX3 := Lib.hid (keepc x3 hbU)
  have HX4 := Lib.hid (keepc x4 hbU)
  have HF2 := Lib.hid (show ∀ j, ((V.alloc (.cells #[.int .i64 p1, .int .i64 p2, .slice Ab m cb] 29)).drew).frozen? ⟨w.heap.size + 1, j, none⟩ = false from fun j => by rw [hbU.frozen (by simp only; omega)]; exact f2 j)
  have hsU : w.heap.size + 2 ≤ ((V.alloc (.cells #[.int .i64 p1, .int .i64 p2, .slice Ab m cb] 29)).drew).heap.size := by have := hbU.size; omega
  clear hsv
  go_wp2_with fail
  generalize (V.alloc (.cells #[.int .i64 p1, .int .i64 p2, .slice Ab m cb] 29)).drew = U at hbU hbwU HX3 HX4 HF2 hsU ⊢
  refine (refSend_any U next p2 HN.out (hr.below (hbwU.mono hB)) (Nat.le_trans hB hbwU.size) HP.out.1 HM.out (hrb.below (hbwU.mono hB)) HNX.out).mono ?_
  rintro e w6 ⟨A6, c6, rfl, hI6, hb6⟩
  have y3 := keepc HX3.out hb6
  have y4 := keepc HX4.out hb6
  have g2 : ∀ j, w6.frozen? ⟨w.heap.size + 1, j, none⟩ = false := fun j => by rw [hb6.frozen (by simp only; omega)]; exact HF2.out j
  have hbf : Below w.heap.size w w6 := hbwU.trans (hb6.mono hbwU.size)
  have HI6 := Lib.hid hI6
  clear x1 x2 x3 x4 f2 r1 r2 r3 x1a x2a r1a r2a r3a HX3 HX4 HF2 hb6 hbU hI6
  go_wp2_with fail
  refine bodyPost_ret (v := .agg #[.int .i64 (next + 1), .slice A6 (n + 1) c6]) ?_ rfl ⟨A6, c6, rfl, ?_, ?_⟩
  · rw [results_cell_one rfl]
    go_simp
    first | done | rfl
  · rw [HC.out]
    have hBs : B ≤ ((w6.setCell ⟨w.heap.size + 1, 0, none⟩ (.int .i64 (next + 1))).setCell ⟨w.heap.size + 1, 1, none⟩ (.slice A6 (n + 1) c6)).heap.size := by
      have := hbf.size
      simp
      omega
    have hI7 : WInv ((w6.setCell ⟨w.heap.size + 1, 0, none⟩ (.int .i64 (next + 1))).setCell ⟨w.heap.size + 1, 1, none⟩ (.slice A6 (n + 1) c6)) U.heap.size A6 (n + 1) c6 B (P ++ [(next, p2, bs)]) :=
      WInv.low (WInv.low HI6.out (by simp only; omega) (by simp only; omega) _) (by simp only; omega) (by simp only; omega) _
    exact hI7.rd hBs
  · repeat (with_reducible refine Below.setCell ?_ (by simp only; omega) _)
    exact hbf
theorem refCopy_any (w : World) {B : Nat} {A : Option Addr} {n c : Nat} {P : List Pk} (next : Int) (i : Nat) (hn : n = P.length) (hr : RdP w B A P) (hB : B ≤ w.heap.size) (hP : ShortP P) (hnx : 0 ≤ next ∧ next ≤ 4611686018427387904) :
    Calls Try.prog 18 #[.agg #[.int .i64 next, .slice A n c], .int .i64 i] w fun e w' => ∃ A' n' c', e = .returned (.agg #[.int .i64 (copyN next P), .slice A' n' c']) ∧ n' = (copyM next P i).length ∧ RdP w' w'.heap.size A' (copyM next P i) ∧ Below w.heap.size w w' := by
  by_cases h0 : n = 0
  · have hP0 : P = [] := List.eq_nil_of_length_eq_zero (by omega)
    subst hP0
    refine (refCopy_none w next i h0).mono ?_
    rintro e w' ⟨rfl, hb⟩
    exact ⟨A, 0, c, rfl, rfl, (hr.below (hb.mono hB)).more (Nat.le_trans hB hb.size), hb⟩
  · have hp : 0 < P.length := by omega
    refine (refCopy_some w next i hn hr hB hP hnx (by omega)).mono ?_
    rintro e w' ⟨A', c', rfl, hI, hb⟩
    refine ⟨A', n + 1, c', by unfold copyN; rw [if_neg (by omega)], ?_, hI, hb⟩
    unfold copyM
    rw [List.getElem?_eq_getElem (Nat.mod_lt _ hp)]
    simp [hn]
end Go.Proofs.Ytnmamfgebbcehaa.pk
