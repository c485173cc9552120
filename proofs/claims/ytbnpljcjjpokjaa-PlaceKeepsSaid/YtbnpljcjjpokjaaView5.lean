/- What view's Right answers. -/
import Derived.Test.YtbnpljcjjpokjaaView4
namespace Go.Proofs.Ytbnpljcjjpokjaa.viewWalk
open Go.RowKit Go.Proofs.Ytbnpljcjjpokjaa.lib Go.Proofs.Ytbnpljcjjpokjaa.mem

/-- One to sixteen members, no node twice. -/
def RightP (L : List (Int × Int)) : Prop := 0 < L.length ∧ L.length ≤ 16 ∧ ∀ i j (hj : j < L.length) (h : i < j), (L[i]'(by omega)).1 ≠ L[j].1

set_option maxHeartbeats 1000000 in
theorem right_any (w : World) {B : Nat} {A : Option Addr} {n c : Nat} {L : List (Int × Int)} (hn : n = L.length) (hr : RdM w B A L) (hB : B ≤ w.heap.size) (hc : n ≤ c) :
    Calls Try.prog 13 #[.slice A n c] w fun e w' => (∃ b, e = .returned (.bool b) ∧ (b = true ↔ RightP L)) ∧ Below w.heap.size w w' := by
  have HN := Lib.hid hn
  clear hn
  by_cases h0 : n = 0
  · go_enter Try.func13, Try.ntmps13
    go_wp2_with fail
    go_ret
    refine ⟨⟨_, rfl, ?_⟩, Below.refl _ _⟩
    simp only [Bool.false_eq_true, false_iff]
    intro h
    have := h.1
    have := HN.out
    omega
  by_cases h16 : 16 < n
  · go_enter Try.func13, Try.ntmps13
    go_wp2_with fail
    go_ret
    refine ⟨⟨_, rfl, ?_⟩, Below.refl _ _⟩
    simp only [Bool.false_eq_true, false_iff]
    intro h
    have := h.2.1
    have := HN.out
    omega
  have hn16 : n ≤ 16 := by omega
  have q0 : ((n : Int) == 0) = false := by simp only [beq_eq_false_iff_ne, ne_eq]; omega
  clear h16
  go_enter Try.func13, Try.ntmps13
  go_wp2_with fail
  go_loopw [17] (fun i wr => ∃ k : Nat, k ≤ n ∧ i = .int .i64 k ∧ (∀ i j (hj : j < L.length) (h : i < j), j < k → (L[i]'(by omega)).1 ≠ L[j].1) ∧ Below w.heap.size w wr) (fun i _ => n - (intOf i).toNat)
  case atStart => exact ⟨0, Nat.zero_le _, rfl, fun i j hj h h2 => absurd h2 (by omega), Below.refl _ _⟩
  case round =>
    obtain ⟨k, hk, rfl, hno, hb⟩ := hrel
    have HNO := Lib.hid hno
    clear hno
    by_cases hlt : k < n
    · have h1 : k < L.length := by rw [← HN.out]; exact hlt
      have hr1 := hr.below (hb.mono hB)
      obtain ⟨ad, eA, -, hc1, hc2⟩ := RdM.at_ hr1 h1
      subst eA
      obtain ⟨y1, hy1⟩ : ∃ y, y = L[k].1 := ⟨_, rfl⟩
      obtain ⟨y2, hy2⟩ : ∃ y, y = L[k].2 := ⟨_, rfl⟩
      rw [← hy1] at hc1
      rw [← hy2] at hc2
      have HY1 := Lib.hid hy1
      clear hy1 hy2
      have hkc : k ≤ c := by omega
      go_wp2_with fail
      obtain ⟨ws, hws⟩ : ∃ ws, ws = wr.heap.size := ⟨_, rfl⟩
      go_loopw [26] (fun i wi => ∃ q : Nat, q ≤ k ∧ i = .int .i64 q ∧ (∀ p (hp : p < q) (h : p < L.length), L[p].1 ≠ L[k].1) ∧ Below w.heap.size w wi ∧ wi.cell? ⟨ws, 0, none⟩ = some (.int .i64 y1)) (fun i _ => k - (intOf i).toNat)
      case atStart => exact ⟨0, Nat.zero_le _, rfl, fun p hp => absurd hp (by omega), hb.alloc hb.size _, by rw [hws]; simp⟩
      case round =>
        obtain ⟨q, hq, rfl, hne, hbi, hy⟩ := hrel
        have HNE := Lib.hid hne
        clear hne
        by_cases hql : q < k
        · have h2 : q < L.length := by omega
          obtain ⟨ad2, eA2, -, hd1, hd2⟩ := RdM.at_ (hr.below (hbi.mono hB)) h2
          injection eA2 with eA2
          subst eA2
          obtain ⟨z1, hz1⟩ : ∃ y, y = L[q].1 := ⟨_, rfl⟩
          obtain ⟨z2, hz2⟩ : ∃ y, y = L[q].2 := ⟨_, rfl⟩
          rw [← hz1] at hd1
          rw [← hz2] at hd2
          have HZ1 := Lib.hid hz1
          clear hz1 hz2
          have HYA := Lib.hid (show ∀ o, (wr.alloc o).cell? ⟨ws, 0, none⟩ = some (.int .i64 y1) from fun o => Go.Lib.cell?_alloc_marked o hy)
          have hya := HYA.out
          simp only [hws] at hya
          by_cases he : y1 = z1
          · subst he
            go_wp2_with fail
            go_ret
            refine ⟨⟨_, rfl, ?_⟩, hbi.alloc hbi.size _⟩
            simp only [Bool.false_eq_true, false_iff]
            intro h
            exact h.2.2 q k h1 hql (by rw [← HZ1.out, HY1.out])
          · go_wp2_with fail
            go_roundw
            case rel =>
              refine ⟨q + 1, by omega, by go_num, fun p hp h => ?_, hbi.alloc hbi.size _, HYA.out _⟩
              rcases Nat.lt_or_eq_of_le (Nat.le_of_lt_succ hp) with h3 | rfl
              · exact HNE.out p h3 h
              · rw [← HZ1.out, ← HY1.out]
                exact fun e => he e.symm
            case measure => simp [intOf] <;> omega
        · go_wp2_with fail
          go_roundw
          case rel =>
            refine ⟨k + 1, by omega, by go_num, fun i j hj h h2 => ?_, hbi⟩
            rcases Nat.lt_or_eq_of_le (Nat.le_of_lt_succ h2) with h3 | rfl
            · exact HNO.out i j hj h h3
            · exact HNE.out i (by omega) (by omega)
          case measure => simp [intOf] <;> omega
    · go_wp2_with fail
      go_ret
      refine ⟨⟨_, rfl, ?_⟩, hb⟩
      simp only [true_iff]
      refine ⟨by have := HN.out; omega, by have := HN.out; omega, fun i j hj h => HNO.out i j hj h (by have := HN.out; omega)⟩
end Go.Proofs.Ytbnpljcjjpokjaa.viewWalk
