/- What the document's Side answers. -/
import Derived.Test.YtbnpljcjjpokjaaView6
import Derived.Test.YtbnpljcjjpokjaaViewP
import Derived.IntWalk
namespace Go.Proofs.Ytbnpljcjjpokjaa.viewWalk
open Go.RowKit Go.Proofs.Ytbnpljcjjpokjaa.lib Go.Proofs.Ytbnpljcjjpokjaa.mem

set_option maxHeartbeats 1000000 in
theorem side_any (w : World) {B : Nat} {A : Option Addr} {n c : Nat} {L : List (Int × Int)} (x : Int × Int) (d : Int) (hd : d = -1 ∨ d = 1) (hn : n = L.length) (hr : RdM w B A L) (hB : B ≤ w.heap.size) (hs : L.length ≤ 1099511627776) :
    Calls Try.prog 19 #[.slice A n c, .agg #[.int .i64 x.1, .int .i64 x.2], .int .i64 d] w fun e w' => e = .returned (.tuple #[mv (sideM L x d).1, .bool (sideM L x d).2]) ∧ Below w.heap.size w w' := by
  obtain ⟨x1, x2⟩ := x
  have hn2 : n ≤ 1099511627776 := by omega
  have HN := Lib.hid hn
  have hd1 : -1 ≤ d := by omega
  have hd2 : d ≤ 1 := by omega
  clear hn hd
  go_enter Try.func19, Try.ntmps19
  go_wp2_with fail
  refine (refIndex_any _ (x1, x2) HN.out ((hr.alloc hB _).alloc (by simp; omega) _) (by simp; omega) hs).mono ?_
  rintro e w1 ⟨rfl, hb1⟩
  obtain ⟨i, hi⟩ : ∃ i, i = idx L (x1, x2) := ⟨_, rfl⟩
  have hlt := idx_lt L (x1, x2)
  rw [← hi, ← HN.out] at hlt
  rw [← hi]
  have HI := Lib.hid hi
  clear hi
  have hlo : -1 ≤ i := by have := idx_bounds L (x1, x2); rw [← HI.out] at this; omega
  have g1 : w1.cell? ⟨w.heap.size + 1, 0, none⟩ = some (.int .i64 0) := by
    rw [hb1.cell (by simp)]
    simp
  have g2 : w1.cell? ⟨w.heap.size + 1, 1, none⟩ = some (.int .i64 0) := by
    rw [hb1.cell (by simp)]
    simp
  have g3 : ∀ j, w1.frozen? ⟨w.heap.size + 1, j, none⟩ = false := fun j => by
    rw [hb1.frozen (by simp)]
    simp
  have hbw : Below w.heap.size w w1 := (((Below.refl _ _).alloc (Nat.le_refl _) _).alloc (by simp) _).trans (hb1.mono (by simp; omega))
  have hrw : RdM w1 B A L := hr.below (hbw.mono hB)
  clear hb1 hr
  by_cases h0 : 0 ≤ i ∧ 0 ≤ i + d ∧ i + d < n
  · obtain ⟨h0, h1, h2⟩ := h0
    obtain ⟨q, hq⟩ : ∃ q : Nat, i + d = q := ⟨(i + d).toNat, by omega⟩
    have hql : q < L.length := by rw [← HN.out]; omega
    obtain ⟨ad, rfl, -, hc1, hc2⟩ := RdM.at_ hrw hql
    obtain ⟨y, hy⟩ : ∃ y, y = L[q] := ⟨_, rfl⟩
    rw [← hy] at hc1 hc2
    have hbm : sideM L (x1, x2) d = (y, true) := by
      unfold sideM atM
      rw [if_neg (by rw [← HI.out]; omega), if_pos (by rw [← HI.out]; have := HN.out; omega), ← HI.out, hy, hq]
      rw [Int.toNat_natCast, List.getD, List.getElem?_eq_getElem hql]
      rfl
    have HBM := Lib.hid hbm
    have qt : (i + d).toNat = q := by omega
    have qw : IntKind.i64.wrap (i + d) = i + d := IntWalk.i64_in _ (by omega)
    clear hbm hy hq
    go_wp2_with fail
    refine bodyPost_ret (v := .tuple #[mv (sideM L (x1, x2) d).1, .bool (sideM L (x1, x2) d).2]) ?_ rfl ⟨rfl, ?_⟩
    · rw [results_cell_tmp rfl, HBM.out]
      go_simp
      first | done | rfl | simp [mv]
    · first | exact (hbw.setCell (by simp) _).setCell (by simp) _ | exact hbw
  · have hbm : sideM L (x1, x2) d = ((0, 0), false) := by
      unfold sideM atM
      rw [← HI.out]
      split
      · rfl
      · rw [if_neg (by have := HN.out; omega)]
    have HBM := Lib.hid hbm
    have qw : IntKind.i64.wrap (i + d) = i + d := IntWalk.i64_in _ (by omega)
    clear hbm
    by_cases h1 : i < 0
    · clear h0
      go_wp2_with fail
      all_goals
        refine bodyPost_ret (v := .tuple #[mv (sideM L (x1, x2) d).1, .bool (sideM L (x1, x2) d).2]) ?_ rfl ⟨rfl, ?_⟩
        · rw [results_cell_tmp rfl, HBM.out]
          go_simp
          first | done | rfl | simp [mv]
        · first | exact (hbw.setCell (by simp) _).setCell (by simp) _ | exact hbw
    · by_cases h2 : i + d < 0
      · clear h0
        go_wp2_with fail
        all_goals
          refine bodyPost_ret (v := .tuple #[mv (sideM L (x1, x2) d).1, .bool (sideM L (x1, x2) d).2]) ?_ rfl ⟨rfl, ?_⟩
          · rw [results_cell_tmp rfl, HBM.out]
            go_simp
            first | done | rfl | simp [mv]
          · first | exact (hbw.setCell (by simp) _).setCell (by simp) _ | exact hbw
      · have h3 : (n : Int) ≤ i + d := by omega
        clear h0
        go_wp2_with fail
        all_goals
          refine bodyPost_ret (v := .tuple #[mv (sideM L (x1, x2) d).1, .bool (sideM L (x1, x2) d).2]) ?_ rfl ⟨rfl, ?_⟩
          · rw [results_cell_tmp rfl, HBM.out]
            go_simp
            first | done | rfl | simp [mv]
          · first | exact (hbw.setCell (by simp) _).setCell (by simp) _ | exact hbw
end Go.Proofs.Ytbnpljcjjpokjaa.viewWalk
