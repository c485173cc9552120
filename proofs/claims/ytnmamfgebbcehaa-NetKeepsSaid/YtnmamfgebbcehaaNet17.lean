/- What the document's Take and Copy of a net answer; net's Take in one contract. -/
import Derived.Test.YtnmamfgebbcehaaNet16
import Derived.Deep.Cut
namespace Go.Proofs.Ytnmamfgebbcehaa.pk
open Go.RowKit Go.Proofs.Ytnmamfgebbcehaa.lib Go.Proofs.Ytnmamfgebbcehaa.byt
set_option linter.unusedVariables false

theorem tkL_nil (i : Nat) : tkL [] i = [] := rfl
theorem tkP_nil (i : Nat) : tkP [] i = (0, 0, []) := rfl
theorem tkL_len {P : List Pk} (i : Nat) (h : 0 < P.length) : (tkL P i).length = P.length - 1 := by
  unfold tkL
  rw [List.length_eraseIdx, if_pos (Nat.mod_lt _ h)]
theorem take_any (w : World) {B : Nat} {A : Option Addr} {n c : Nat} {P : List Pk} (next : Int) (i : Nat) (hn : n = P.length) (hr : RdP w B A P) (hB : B ≤ w.heap.size) (hP : ShortP P) (ok : Bool) (hok : ok = decide (0 < P.length)) :
    Calls Try.prog 11 #[.agg #[.int .i64 next, .slice A n c], .int .i64 i] w fun e w' => ∃ A' n' c' Ab m cb, e = .returned (.tuple #[.agg #[.int .i64 (tkP P i).1, .int .i64 (tkP P i).2.1, .slice Ab m cb], .agg #[.int .i64 next, .slice A' n' c'], .bool ok]) ∧ m = (tkP P i).2.2.length ∧ n' = (tkL P i).length ∧ ElemB w' w.heap.size none (.slice Ab m cb) (tkP P i).2.2 ∧ OwnP w' w.heap.size A' c' (tkL P i) ∧ Below w.heap.size w w' := by
  by_cases h0 : n = 0
  · have hP0 : P = [] := List.eq_nil_of_length_eq_zero (by omega)
    subst hP0
    subst hok
    refine (take_none w next i hn hr hB hP h0).mono ?_
    rintro e w' ⟨A', c', rfl, ho, hb⟩
    exact ⟨A', 0, c', none, 0, 0, rfl, rfl, rfl, ElemB.nil _ _ _, ho, hb⟩
  · have hp : 0 < P.length := by omega
    obtain rfl : ok = true := by rw [hok]; exact decide_eq_true hp
    refine (take_some w next i hn hr hB hP (by omega)).mono ?_
    rintro e w' ⟨A', c', Ab, m, cb, rfl, hm, he, ho, hb⟩
    exact ⟨A', n - 1, c', Ab, m, cb, rfl, hm, by rw [tkL_len i hp, hn], he, ho, hb⟩

set_option maxHeartbeats 4000000 in
theorem refTake_none (w : World) {A : Option Addr} {n c : Nat} (next : Int) (i : Nat) (h0 : n = 0) :
    Calls Try.prog 15 #[.agg #[.int .i64 next, .slice A n c], .int .i64 i] w fun e w' => e = .returned (.tuple #[.agg #[.int .i64 0, .int .i64 0, .slice none 0 0], .agg #[.int .i64 next, .slice A 0 c], .bool false]) ∧ Below w.heap.size w w' := by
  subst h0
  have hbA : Below w.heap.size w (((w.alloc (.cells #[.int .i64 next, .slice A 0 c] 24)).alloc (.cells #[.int .i64 0, .int .i64 0, .slice none 0 0] 29)).alloc (.cells #[.int .i64 0, .slice none 0 0] 24)) := low3
  have H0 := heap3 w (.cells #[.int .i64 next, .slice A 0 c] 24) (.cells #[.int .i64 0, .int .i64 0, .slice none 0 0] 29) (.cells #[.int .i64 0, .slice none 0 0] 24)
  obtain ⟨V, hV⟩ : ∃ V, V = (((w.alloc (.cells #[.int .i64 next, .slice A 0 c] 24)).alloc (.cells #[.int .i64 0, .int .i64 0, .slice none 0 0] 29)).alloc (.cells #[.int .i64 0, .slice none 0 0] 24)) := ⟨_, rfl⟩
  rw [← hV] at hbA H0
  have x1 : V.cell? ⟨w.heap.size, 0, none⟩ = some (.int .i64 next) := by rw [cell_of_row _ _ _ _ _ (0, 0) H0.1]; rfl
  have x2 : V.cell? ⟨w.heap.size, 1, none⟩ = some (.slice A 0 c) := by rw [cell_of_row _ _ _ _ _ (0, 0) H0.1]; rfl
  have x3 : V.cell? ⟨w.heap.size + 1, 0, none⟩ = some (.int .i64 0) := by rw [cell_of_row _ _ _ _ _ (0, 0) H0.2.1]; rfl
  have x4 : V.cell? ⟨w.heap.size + 1, 1, none⟩ = some (.int .i64 0) := by rw [cell_of_row _ _ _ _ _ (0, 0) H0.2.1]; rfl
  have x5 : V.cell? ⟨w.heap.size + 1, 2, none⟩ = some (.slice none 0 0) := by rw [cell_of_row _ _ _ _ _ (0, 0) H0.2.1]; rfl
  have x6 : V.cell? ⟨w.heap.size + 2, 0, none⟩ = some (.int .i64 0) := by rw [cell_of_row _ _ _ _ _ (0, 0) H0.2.2]; rfl
  have x7 : V.cell? ⟨w.heap.size + 2, 1, none⟩ = some (.slice none 0 0) := by rw [cell_of_row _ _ _ _ _ (0, 0) H0.2.2]; rfl
  have f1 : ∀ j, V.frozen? ⟨w.heap.size + 1, j, none⟩ = false := fun j => frozen_of_row _ _ j _ _ H0.2.1
  have f2 : ∀ j, V.frozen? ⟨w.heap.size + 2, j, none⟩ = false := fun j => frozen_of_row _ _ j _ _ H0.2.2
  have HV := Lib.hid hV
  clear hV H0
  go_enter Try.func15, Try.ntmps15
  go_upto_region 1 with (fail)
  rw [← HV.out]
  clear HV
  go_wp2_with fail
  go_region
  go_wp2_with fail
  refine bodyPost_ret (v := .tuple #[.agg #[.int .i64 0, .int .i64 0, .slice none 0 0], .agg #[.int .i64 next, .slice A 0 c], .bool false]) ?_ rfl ⟨rfl, ?_⟩
  · rw [results_cell_cell_tmp rfl]
    go_simp
    first | done | rfl
  · refine below_drew ?_
    repeat (refine Below.setCell ?_ (by simp only; omega) _)
    exact hbA
end Go.Proofs.Ytnmamfgebbcehaa.pk
