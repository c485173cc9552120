/- What the document's Right answers. -/
import Derived.Test.YtbnpljcjjpokjaaView5
import Derived.Deep.QuietTactic
import Derived.BigQuiet
namespace Go.Proofs.Ytbnpljcjjpokjaa.viewWalk
open Go.RowKit Go.Proofs.Ytbnpljcjjpokjaa.lib Go.Proofs.Ytbnpljcjjpokjaa.mem

/-- A Boolean is answered that is true just if P holds. -/
def RetB (e : Ending) (P : Prop) : Prop := ∃ b, e = .returned (.bool b) ∧ (b = true ↔ P)
theorem RetB.of {b : Bool} {P : Prop} (h : b = true ↔ P) : RetB (.returned (.bool b)) P := ⟨b, rfl, h⟩
theorem RetB.of_eq {v : Value} {b : Bool} {P : Prop} (e : v = .bool b) (h : b = true ↔ P) : RetB (.returned v) P := ⟨b, by rw [e], h⟩

set_option maxHeartbeats 1000000 in
theorem refRight_any (w : World) {B : Nat} {A : Option Addr} {n c : Nat} {L : List (Int × Int)} (hn : n = L.length) (hr : RdM w B A L) (hB : B ≤ w.heap.size) (hs : L.length ≤ 1099511627776) :
    Calls Try.prog 21 #[.slice A n c] w fun e w' => RetB e (RightP L) ∧ Below w.heap.size w w' := by
  have hn2 : n ≤ 1099511627776 := by omega
  have HN := Lib.hid hn
  clear hn
  go_enter Try.func21, Try.ntmps21
  go_wp2_with fail
  go_loopw [3] (fun i wr => ∃ k : Nat, k ≤ n ∧ k ≤ 20 ∧ i = .int .i64 k ∧ (∀ i j (hj : j < L.length) (h : i < j), i < k → j < 20 → (L[i]'(by omega)).1 ≠ L[j].1) ∧ Below w.heap.size w wr) (fun i _ => n - (intOf i).toNat)
  case atStart => exact ⟨0, Nat.zero_le _, by decide, rfl, fun i j hj h h2 => absurd h2 (by omega), Below.refl _ _⟩
  case round =>
    obtain ⟨k, hk, hk20, rfl, hno, hb⟩ := hrel
    have HNO := Lib.hid hno
    clear hno
    by_cases hlt : k < n
    · by_cases hl20 : k < 20
      · have h1 : k < L.length := by rw [← HN.out]; exact hlt
        go_wp2_with fail
        go_loopw [4] (fun i wi => ∃ q : Nat, k < q ∧ q ≤ n ∧ q ≤ 20 ∧ i = .int .i64 q ∧ (∀ p (h : p < L.length) (hk : k < p), p < q → L[k].1 ≠ L[p].1) ∧ Below w.heap.size w wi) (fun i _ => n - (intOf i).toNat)
        case atStart => exact ⟨k + 1, by omega, by omega, by omega, by go_num, fun p h h2 h3 => absurd h3 (by omega), hb⟩
        case round =>
          obtain ⟨q, hkq, hqn, hq20, rfl, hne, hbi⟩ := hrel
          have HNE := Lib.hid hne
          clear hne
          by_cases hql : q < n
          · by_cases hq2 : q < 20
            · have h2 : q < L.length := by rw [← HN.out]; exact hql
              obtain ⟨ad, rfl, -, hc1, hc2⟩ := RdM.at_ (hr.below (hbi.mono hB)) h1
              obtain ⟨ad2, eA2, -, hd1, hd2⟩ := RdM.at_ (hr.below (hbi.mono hB)) h2
              injection eA2 with eA2
              subst eA2
              obtain ⟨y1, hy1⟩ : ∃ y, y = L[k].1 := ⟨_, rfl⟩
              obtain ⟨z1, hz1⟩ : ∃ y, y = L[q].1 := ⟨_, rfl⟩
              rw [← hy1] at hc1
              rw [← hz1] at hd1
              have HY1 := Lib.hid hy1
              have HZ1 := Lib.hid hz1
              clear hy1 hz1 hc2 hd2
              by_cases he : y1 = z1
              · subst he
                go_wp2_with fail
                go_quiet (fail)
                go_wp2_with fail
                go_ret
                refine ⟨RetB.of ?_, below_drewN hbi _⟩
                simp only [Bool.false_eq_true, false_iff]
                intro h
                exact h.2.2 k q h2 hkq (by rw [← HY1.out, HZ1.out])
              · have q1 : (y1 == z1) = false := by simp only [beq_eq_false_iff_ne, ne_eq]; exact he
                go_wp2_with fail
                go_quiet (fail)
                go_wp2_with fail
                go_roundw
                case rel =>
                  refine ⟨q + 1, by omega, by omega, by omega, by go_num, fun p h hp h3 => ?_, below_drewN hbi _⟩
                  rcases Nat.lt_or_eq_of_le (Nat.le_of_lt_succ h3) with h4 | rfl
                  · exact HNE.out p h hp h4
                  · rw [← HY1.out, ← HZ1.out]
                    exact he
                case measure => simp [intOf] <;> omega
            · go_wp2_with fail
              go_roundw
              case rel =>
                refine ⟨k + 1, by omega, by omega, by go_num, fun i j hj h h2 h3 => ?_, hbi⟩
                rcases Nat.lt_or_eq_of_le (Nat.le_of_lt_succ h2) with h4 | rfl
                · exact HNO.out i j hj h h4 h3
                · exact HNE.out j hj h (by omega)
              case measure => simp [intOf] <;> omega
          · go_wp2_with fail
            go_roundw
            case rel =>
              refine ⟨k + 1, by omega, by omega, by go_num, fun i j hj h h2 h3 => ?_, hbi⟩
              rcases Nat.lt_or_eq_of_le (Nat.le_of_lt_succ h2) with h4 | rfl
              · exact HNO.out i j hj h h4 h3
              · exact HNE.out j hj h (by have := HN.out; omega)
            case measure => simp [intOf] <;> omega
      · go_wp2_with fail
        go_ret
        refine ⟨RetB.of ?_, hb⟩
        exact ⟨fun h => absurd (of_decide_eq_true h) (by omega), fun h => absurd h.2.1 (by have := HN.out; omega)⟩
    · have hall : ∀ i j (hj : j < L.length) (h : i < j), j < 20 → (L[i]'(by omega)).1 ≠ L[j].1 := fun i j hj h h2 => HNO.out i j hj h (by have := HN.out; omega) h2
      have HALL := Lib.hid hall
      clear hall
      by_cases h0 : n = 0
      · subst h0
        go_wp2_with fail
        go_ret
        refine ⟨RetB.of ?_, hb⟩
        simp only [Bool.false_eq_true, false_iff]
        intro h
        have := h.1
        have := HN.out
        omega
      · by_cases h16 : n ≤ 16
        · go_wp2_with fail
          go_ret
          refine ⟨RetB.of ?_, hb⟩
          exact ⟨fun _ => ⟨by have := HN.out; omega, by have := HN.out; omega, fun i j hj h => HALL.out i j hj h (by have := HN.out; omega)⟩, fun _ => decide_eq_true (by omega)⟩
        · go_wp2_with fail
          go_ret
          refine ⟨RetB.of ?_, hb⟩
          exact ⟨fun h => absurd (of_decide_eq_true h) (by omega), fun h => absurd h.2.1 (by have := HN.out; omega)⟩
end Go.Proofs.Ytbnpljcjjpokjaa.viewWalk
