/- What view's Live and Is answer. -/
import Derived.Test.YtbnpljcjjpokjaaView4
namespace Go.Proofs.Ytbnpljcjjpokjaa.viewWalk
open Go.RowKit Go.Proofs.Ytbnpljcjjpokjaa.lib Go.Proofs.Ytbnpljcjjpokjaa.mem

set_option maxHeartbeats 1000000 in
theorem is_any (w : World) {B : Nat} {A : Option Addr} {n c : Nat} {L : List (Int × Int)} (from_ boot : Int) (x : Int × Int) (hn : n = L.length) (hr : RdM w B A L) (hB : B ≤ w.heap.size) (hs : L.length ≤ 1099511627776) :
    Calls Try.prog 15 #[.slice A n c, .int .i64 from_, .int .i64 boot, .agg #[.int .i64 x.1, .int .i64 x.2]] w fun e w' => e = .returned (.bool (decide (x = (from_, boot) ∧ 0 ≤ idx L x))) ∧ Below w.heap.size w w' := by
  obtain ⟨x1, x2⟩ := x
  have HN := Lib.hid hn
  clear hn
  by_cases he : x1 = from_ ∧ x2 = boot
  · obtain ⟨rfl, rfl⟩ := he
    have hxa : ∀ o, (w.alloc o).heap.size = w.heap.size + 1 := fun o => by simp
    go_enter Try.func15, Try.ntmps15
    go_wp2_with fail
    refine (index_any _ (x1, x2) HN.out (hr.alloc hB _) (by simp; omega) hs).mono ?_
    rintro e w1 ⟨rfl, hb1⟩
    have hbw : Below w.heap.size w w1 := ((Below.refl _ _).alloc (Nat.le_refl _) _).trans (hb1.mono (by simp))
    obtain ⟨i, hi⟩ : ∃ i, i = idx L (x1, x2) := ⟨_, rfl⟩
    rw [← hi]
    have HI := Lib.hid hi
    clear hi hb1
    by_cases h0 : 0 ≤ i
    · go_wp2_with fail
      go_ret
      refine ⟨?_, hbw⟩
      simp [← HI.out, h0]
    · go_wp2_with fail
      go_ret
      refine ⟨?_, hbw⟩
      simp [← HI.out]
  · go_enter Try.func15, Try.ntmps15
    go_wp2_with fail
    all_goals
      go_ret
      refine ⟨?_, (Below.refl _ _).alloc (Nat.le_refl _) _⟩
      simp [he]
end Go.Proofs.Ytbnpljcjjpokjaa.viewWalk
