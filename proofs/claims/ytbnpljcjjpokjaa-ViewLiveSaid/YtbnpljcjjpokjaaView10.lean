/- view.Live; the walk of ViewLive. -/
import Derived.Test.YtbnpljcjjpokjaaView9
namespace Go.Proofs.Ytbnpljcjjpokjaa.viewWalk
open Go.RowKit Go.Proofs.Ytbnpljcjjpokjaa.lib Go.Proofs.Ytbnpljcjjpokjaa.mem

theorem run_store_complex (P : Program) (w : World) (a : Addr) (m : Mode) (k : FloatKind) (x y : Nat) : (store a (.complex k x y) m).run P w = stored P w a (.complex k x y) m := run_store P w a _ m rfl
attribute [local go_sem] run_store_complex

/-- A Rep's cells, of epoch x, frozen for y, phase z. -/
def repV (x y z : Int) : Array Value := #[.int .i64 0, .int .i64 0, .int .i64 0, .int .i64 0, .int .i64 x, .int .i64 0, .int .i64 z, .slice none 0 0, .int .i64 y, .complex .f64 0 0, .complex .f64 0 0, .slice none 0 0, .slice none 0 0, .complex .f64 0 0, .slice none 0 0]

set_option maxHeartbeats 1000000 in
theorem live_any (w : World) (x y z : Int) :
    Calls Try.prog 12 #[.agg (repV x y z)] w fun e w' => e = .returned (.bool (decide (z ≠ 0 ∧ y ≤ x))) ∧ Below w.heap.size w w' := by
  unfold repV
  by_cases hz : z = 0
  · subst hz
    go_enter Try.func12, Try.ntmps12
    go_wp2_with fail
    go_ret
    exact ⟨by simp, (Below.refl _ _).alloc (Nat.le_refl _) _⟩
  · have q1 : (z != 0) = true := by simp [hz]
    by_cases hy : y ≤ x
    · go_enter Try.func12, Try.ntmps12
      go_wp2_with fail
      go_ret
      exact ⟨by simp [hz, hy], (Below.refl _ _).alloc (Nat.le_refl _) _⟩
    · go_enter Try.func12, Try.ntmps12
      go_wp2_with fail
      go_ret
      exact ⟨by simp [hy], (Below.refl _ _).alloc (Nat.le_refl _) _⟩

set_option maxHeartbeats 1000000 in
theorem walk_ViewLive (w : World) (x y z : Int) :
    Calls Try.prog 3 #[.int .i64 x, .int .i64 y, .int .i64 z] w fun e w' => e = .returned (.bool true) ∧ Below w.heap.size w w' := by
  go_enter Try.func3, Try.ntmps3
  go_wp2_with fail
  refine (awake16 _).mono ?_
  rintro e w1 ⟨rfl, hb1⟩
  have hcs : ∀ i v, (repV x y z)[i]? = some v → w1.cell? ⟨w.heap.size, i, none⟩ = some v := fun i v h => by
    rw [hb1.cell (by simp), cell_of_row _ w.heap.size i _ _ (0, 0) (heap_alloc_new w _)]
    exact h
  have hbw : Below w.heap.size w w1 := ((Below.refl _ _).alloc (Nat.le_refl _) _).trans (hb1.mono (by simp))
  clear hb1
  have c0 := hcs 0 _ rfl
  have c1 := hcs 1 _ rfl
  have c2 := hcs 2 _ rfl
  have c3 := hcs 3 _ rfl
  have c4 := hcs 4 _ rfl
  have c5 := hcs 5 _ rfl
  have c6 := hcs 6 _ rfl
  have c7 := hcs 7 _ rfl
  have c8 := hcs 8 _ rfl
  have c9 := hcs 9 _ rfl
  have c10 := hcs 10 _ rfl
  have c11 := hcs 11 _ rfl
  have c12 := hcs 12 _ rfl
  have c13 := hcs 13 _ rfl
  have c14 := hcs 14 _ rfl
  clear hcs
  by_cases hz : z = 0
  · subst hz
    go_wp2_with fail
    refine (live_any w1 x y 0).mono ?_
    rintro e w2 ⟨rfl, hb2⟩
    rw [show decide ((0 : Int) ≠ 0 ∧ y ≤ x) = false by simp]
    clear c0 c1 c2 c3 c4 c5 c6 c7 c8 c9 c10 c11 c12 c13 c14
    go_wp2_with fail
    go_ret
    exact ⟨rfl, hbw.trans (hb2.mono hbw.size)⟩
  · have q1 : (z != 0) = true := by simp [hz]
    by_cases hy : y ≤ x
    · go_wp2_with fail
      refine (live_any w1 x y z).mono ?_
      rintro e w2 ⟨rfl, hb2⟩
      rw [show decide (z ≠ 0 ∧ y ≤ x) = true by simp [hz, hy]]
      clear c0 c1 c2 c3 c4 c5 c6 c7 c8 c9 c10 c11 c12 c13 c14
      go_wp2_with fail
      go_ret
      exact ⟨rfl, hbw.trans (hb2.mono hbw.size)⟩
    · go_wp2_with fail
      refine (live_any w1 x y z).mono ?_
      rintro e w2 ⟨rfl, hb2⟩
      rw [show decide (z ≠ 0 ∧ y ≤ x) = false by simp [hz, hy]]
      clear c0 c1 c2 c3 c4 c5 c6 c7 c8 c9 c10 c11 c12 c13 c14
      go_wp2_with fail
      go_ret
      exact ⟨by show Ending.returned (.bool !decide (y ≤ x)) = _; rw [show decide (y ≤ x) = false from decide_eq_false (by omega)]; rfl, hbw.trans (hb2.mono hbw.size)⟩
end Go.Proofs.Ytbnpljcjjpokjaa.viewWalk
