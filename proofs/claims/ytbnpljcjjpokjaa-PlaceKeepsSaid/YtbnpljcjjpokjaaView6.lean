/- What the document's Index answers. -/
import Derived.Test.YtbnpljcjjpokjaaView4
import Derived.Deep.QuietTactic
import Derived.BigQuiet
namespace Go.Proofs.Ytbnpljcjjpokjaa.viewWalk
open Go.RowKit Go.Proofs.Ytbnpljcjjpokjaa.lib Go.Proofs.Ytbnpljcjjpokjaa.mem

set_option maxHeartbeats 1000000 in
theorem refIndex_any (w : World) {B : Nat} {A : Option Addr} {n c : Nat} {L : List (Int × Int)} (x : Int × Int) (hn : n = L.length) (hr : RdM w B A L) (hB : B ≤ w.heap.size) (hs : L.length ≤ 1099511627776) :
    Calls Try.prog 20 #[.slice A n c, .agg #[.int .i64 x.1, .int .i64 x.2]] w fun e w' => e = .returned (.int .i64 (idx L x)) ∧ Below w.heap.size w w' := by
  obtain ⟨x1, x2⟩ := x
  have hn2 : n ≤ 1099511627776 := by omega
  have HN := Lib.hid hn
  clear hn
  go_enter Try.func20, Try.ntmps20
  go_wp2_with fail
  go_loopw [5] (fun i wr => ∃ k : Nat, k ≤ n ∧ i = .int .i64 k ∧ (∀ j (hj : j < k) (h : j < L.length), L[j] ≠ (x1, x2)) ∧ Below w.heap.size w wr ∧
      wr.cell? ⟨w.heap.size, 0, none⟩ = some (.int .i64 x1) ∧ wr.cell? ⟨w.heap.size, 1, none⟩ = some (.int .i64 x2)) (fun i _ => n - (intOf i).toNat)
  case atStart => exact ⟨0, Nat.zero_le _, rfl, fun j hj => absurd hj (by omega), (Below.refl _ _).alloc (Nat.le_refl _) _, by simp, by simp⟩
  case round =>
    obtain ⟨k, hk, rfl, hno, hb, hx1, hx2⟩ := hrel
    have HNO := Lib.hid hno
    clear hno
    by_cases hlt : k < n
    · have h1 : k < L.length := by rw [← HN.out]; exact hlt
      obtain ⟨ad, rfl, -, hc1, hc2⟩ := RdM.at_ (hr.below (hb.mono hB)) h1
      obtain ⟨y1, hy1⟩ : ∃ y, y = L[k].1 := ⟨_, rfl⟩
      obtain ⟨y2, hy2⟩ : ∃ y, y = L[k].2 := ⟨_, rfl⟩
      rw [← hy1] at hc1
      rw [← hy2] at hc2
      have HY1 := Lib.hid hy1
      have HY2 := Lib.hid hy2
      clear hy1 hy2
      by_cases he : y1 = x1 ∧ y2 = x2
      · obtain ⟨rfl, rfl⟩ := he
        go_wp2_with fail
        go_quiet (fail)
        go_wp2_with fail
        go_ret
        refine ⟨?_, below_drewN hb _⟩
        rw [idx_of L (y1, y2) k h1 (by rw [HY1.out, HY2.out]) fun j hj => HNO.out j hj (by omega)]
        rfl
      · have hno2 : ∀ j (hj : j < k + 1) (h : j < L.length), L[j] ≠ (x1, x2) := fun j hj h => by
          rcases Nat.lt_or_eq_of_le (Nat.le_of_lt_succ hj) with h2 | rfl
          · exact HNO.out j h2 h
          · intro e
            exact he ⟨by rw [HY1.out, e], by rw [HY2.out, e]⟩
        have HNO2 := Lib.hid hno2
        clear hno2
        by_cases he1 : y1 = x1
        · have q2 : (y2 == x2) = false := by
            simp only [beq_eq_false_iff_ne, ne_eq]
            exact fun e => he ⟨he1, e⟩
          subst he1
          clear he
          go_wp2_with fail
          go_quiet (fail)
          go_wp2_with fail
          go_roundw
          case rel => exact ⟨k + 1, by omega, by go_num, HNO2.out, below_drewN hb _, hx1, hx2⟩
          case measure => simp [intOf] <;> omega
        · have q1 : (y1 == x1) = false := by simp only [beq_eq_false_iff_ne, ne_eq]; exact he1
          clear he he1
          go_wp2_with fail
          go_quiet (fail)
          go_wp2_with fail
          go_roundw
          case rel => exact ⟨k + 1, by omega, by go_num, HNO2.out, below_drewN hb _, hx1, hx2⟩
          case measure => simp [intOf] <;> omega
    · go_wp2_with fail
      go_ret
      refine ⟨?_, hb⟩
      rw [idx_no L (x1, x2) fun j hj => HNO.out j (by have := HN.out; omega) hj]
      rfl
end Go.Proofs.Ytbnpljcjjpokjaa.viewWalk
