/- What view's Behind answers. -/
import Derived.Test.YtbnpljcjjpokjaaView2
namespace Go.Proofs.Ytbnpljcjjpokjaa.viewWalk
open Go.RowKit Go.Proofs.Ytbnpljcjjpokjaa.lib Go.Proofs.Ytbnpljcjjpokjaa.mem

/-- The member at a place, if there is one. -/
def atM (L : List (Int × Int)) (i : Int) : (Int × Int) × Bool := if 0 ≤ i ∧ i < L.length then (L.getD i.toNat (0, 0), true) else ((0, 0), false)
def behindM (L : List (Int × Int)) (x : Int × Int) : (Int × Int) × Bool := if idx L x < 0 then ((0, 0), false) else atM L (idx L x + 1)
def aheadM (L : List (Int × Int)) (x : Int × Int) : (Int × Int) × Bool := atM L (idx L x - 1)
theorem idx_lt (L : List (Int × Int)) (x : Int × Int) : idx L x < L.length := by
  induction L with
  | nil => simp [idx]
  | cons m l ih =>
    unfold idx
    simp only [List.length_cons]
    split <;> (try split) <;> omega

set_option maxHeartbeats 1000000 in
theorem behind_any (w : World) {B : Nat} {A : Option Addr} {n c : Nat} {L : List (Int × Int)} (x : Int × Int) (hn : n = L.length) (hr : RdM w B A L) (hB : B ≤ w.heap.size) (hs : L.length ≤ 1099511627776) :
    Calls Try.prog 18 #[.slice A n c, .agg #[.int .i64 x.1, .int .i64 x.2]] w fun e w' => e = .returned (.tuple #[mv (behindM L x).1, .bool (behindM L x).2]) ∧ Below w.heap.size w w' := by
  obtain ⟨x1, x2⟩ := x
  have hn2 : n ≤ 1099511627776 := by omega
  have HN := Lib.hid hn
  clear hn
  go_enter Try.func18, Try.ntmps18
  go_wp2_with fail
  refine (index_any _ (x1, x2) HN.out ((hr.alloc hB _).alloc (by simp; omega) _) (by simp; omega) hs).mono ?_
  rintro e w1 ⟨rfl, hb1⟩
  obtain ⟨i, hi⟩ : ∃ i, i = idx L (x1, x2) := ⟨_, rfl⟩
  have hlt := idx_lt L (x1, x2)
  rw [← hi, ← HN.out] at hlt
  rw [← hi]
  have HI := Lib.hid hi
  clear hi
  have hlo : -1 ≤ i := by have := idx_bounds L (x1, x2); rw [← HI.out] at this; omega
  have g1 : w1.cell? ⟨w.heap.size + 1, 0, none⟩ = some (.int .i64 0) := by
    rw [hb1.cell (by simp)]
    simp
  have g2 : w1.cell? ⟨w.heap.size + 1, 1, none⟩ = some (.int .i64 0) := by
    rw [hb1.cell (by simp)]
    simp
  have g3 : ∀ j, w1.frozen? ⟨w.heap.size + 1, j, none⟩ = false := fun j => by
    rw [hb1.frozen (by simp)]
    simp
  have hbw : Below w.heap.size w w1 := (((Below.refl _ _).alloc (Nat.le_refl _) _).alloc (by simp) _).trans (hb1.mono (by simp; omega))
  have hrw : RdM w1 B A L := hr.below (hbw.mono hB)
  clear hb1 hr
  by_cases h0 : i < 0
  · have hbm : behindM L (x1, x2) = ((0, 0), false) := by unfold behindM; rw [if_pos (by rw [← HI.out]; exact h0)]
    have HBM := Lib.hid hbm
    clear hbm
    go_wp2_with fail
    refine bodyPost_ret (v := .tuple #[mv (behindM L (x1, x2)).1, .bool (behindM L (x1, x2)).2]) ?_ rfl ⟨rfl, ?_⟩
    · rw [results_cell_tmp rfl, HBM.out]
      go_simp
      first | done | rfl | simp [mv]
    · first | exact (hbw.setCell (by simp) _).setCell (by simp) _ | exact hbw
  · by_cases h1 : (n : Int) ≤ i + 1
    · have hbm : behindM L (x1, x2) = ((0, 0), false) := by unfold behindM atM; rw [if_neg (by rw [← HI.out]; exact h0), if_neg (by rw [← HI.out, ← HN.out]; omega)]
      have HBM := Lib.hid hbm
      clear hbm
      go_wp2_with fail
      refine bodyPost_ret (v := .tuple #[mv (behindM L (x1, x2)).1, .bool (behindM L (x1, x2)).2]) ?_ rfl ⟨rfl, ?_⟩
      · rw [results_cell_tmp rfl, HBM.out]
        go_simp
        first | done | rfl | simp [mv]
      · first | exact (hbw.setCell (by simp) _).setCell (by simp) _ | exact hbw
    · obtain ⟨q, rfl⟩ : ∃ q : Nat, i = q := ⟨i.toNat, by omega⟩
      have hq : q + 1 < L.length := by rw [← HN.out]; omega
      obtain ⟨ad, rfl, -, hc1, hc2⟩ := RdM.at_ hrw hq
      obtain ⟨y, hy⟩ : ∃ y, y = L[q + 1] := ⟨_, rfl⟩
      rw [← hy] at hc1 hc2
      have hbm : behindM L (x1, x2) = (y, true) := by
        unfold behindM atM
        rw [if_neg (by rw [← HI.out]; exact h0), if_pos (by rw [← HI.out]; omega), ← HI.out, hy]
        have e : ((q : Int) + 1).toNat = q + 1 := by omega
        rw [e, List.getD, List.getElem?_eq_getElem hq]
        rfl
      have HBM := Lib.hid hbm
      clear hbm hy
      go_wp2_with fail
      refine bodyPost_ret (v := .tuple #[mv (behindM L (x1, x2)).1, .bool (behindM L (x1, x2)).2]) ?_ rfl ⟨rfl, ?_⟩
      · rw [results_cell_tmp rfl, HBM.out]
        go_simp
        first | done | rfl | simp [mv]
      · first | exact (hbw.setCell (by simp) _).setCell (by simp) _ | exact hbw
end Go.Proofs.Ytbnpljcjjpokjaa.viewWalk
