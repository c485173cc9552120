/- What the document's Right of a net answers. -/
import Derived.Test.YtnmamfgebbcehaaNet2
import Derived.Deep.QuietTactic
import Derived.BigQuiet
import Derived.IntWalk
namespace Go.Proofs.Ytnmamfgebbcehaa.pk
open Go.RowKit Go.Proofs.Ytnmamfgebbcehaa.lib Go.Proofs.Ytnmamfgebbcehaa.byt
set_option linter.unusedVariables false

/-- A Boolean is answered; if it is true, then X. -/
def RetT (e : Ending) (X : Prop) : Prop := ∃ b, e = .returned (.bool b) ∧ (b = true → X)
theorem RetT.no {X : Prop} : RetT (.returned (.bool false)) X := ⟨false, rfl, fun h => by cases h⟩
theorem RetT.yes {X : Prop} (h : X) : RetT (.returned (.bool true)) X := ⟨true, rfl, fun _ => h⟩
def RightN (next : Int) (P : List Pk) : Prop := 0 ≤ next ∧ next ≤ 4611686018427387904 ∧ P.length ≤ 60 ∧ ∀ i (h : i < P.length), P[i].2.2.length ≤ 500
def ShortK (P : List Pk) (k : Nat) : Prop := ∀ i (h : i < P.length), i < k → P[i].2.2.length ≤ 500

set_option maxHeartbeats 8000000 in
theorem right_any (w : World) {B : Nat} {A : Option Addr} {n c : Nat} {P : List Pk} (next : Int) (hn : n = P.length) (hr : RdP w B A P) (hB : B ≤ w.heap.size) (hI : -9223372036854775808 ≤ next ∧ next ≤ 9223372036854775807) :
    Calls Try.prog 8 #[.agg #[.int .i64 next, .slice A n c]] w fun e w' => RetT e (RightN next P) ∧ Below w.heap.size w w' := by
  have HN := Lib.hid hn
  have hbA : Below w.heap.size w (w.alloc (.cells #[.int .i64 next, .slice A n c] 24)) := (Below.refl _ _).alloc (Nat.le_refl _) _
  have x1 : (w.alloc (.cells #[.int .i64 next, .slice A n c] 24)).cell? ⟨w.heap.size, 0, none⟩ = some (.int .i64 next) := by simp
  have x2 : (w.alloc (.cells #[.int .i64 next, .slice A n c] 24)).cell? ⟨w.heap.size, 1, none⟩ = some (.slice A n c) := by simp
  clear hn
  by_cases c1 : next < 0
  · go_enter Try.func8, Try.ntmps8
    go_wp2_with fail
    go_ret
    exact ⟨RetT.no, hbA⟩
  by_cases c2 : 4611686018427387904 < next
  · go_enter Try.func8, Try.ntmps8
    go_wp2_with fail
    go_ret
    exact ⟨RetT.no, hbA⟩
  by_cases c3 : 60 < n
  · go_enter Try.func8, Try.ntmps8
    go_wp2_with fail
    go_ret
    exact ⟨RetT.no, hbA⟩
  have hns : n ≤ 1099511627770 := by omega
  have HR0 := Lib.hid (show 0 ≤ next ∧ next ≤ 4611686018427387904 ∧ n ≤ 60 from ⟨by omega, by omega, by omega⟩)
  go_enter Try.func8, Try.ntmps8
  go_wp2_with fail
  generalize (w.alloc (.cells #[.int .i64 next, .slice A n c] 24)) = V at hbA x1 x2 ⊢
  go_loopw [3] (fun vi wr => ∃ k nq : Nat, k ≤ n ∧ vi = .int .i64 k ∧ Hid (ShortK P k) ∧ wr = V.drewN nq) (fun vi _ => n - (intOf vi).toNat)
  case atStart => exact ⟨0, 0, Nat.zero_le _, rfl, Lib.hid fun i h h2 => absurd h2 (by omega), rfl⟩
  case round =>
    obtain ⟨k, nq, hk, rfl, HK, rfl⟩ := hrel
    by_cases hlt : k < n
    · have h1 : k < P.length := by rw [← HN.out]; exact hlt
      obtain ⟨ad, Ab, cb, eA, -, r1, -, r3, -⟩ := RdP.at_ (hr.below (hbA.mono hB)) h1
      subst eA
      obtain ⟨y, hy⟩ : ∃ y, y = P[k].1 := ⟨_, rfl⟩
      obtain ⟨m, hm⟩ : ∃ m, m = P[k].2.2.length := ⟨_, rfl⟩
      rw [← hy] at r1
      rw [← hm] at r3
      have hk0 : (0 : Int) ≤ k := by omega
      have hk1 : (k : Int) < n := by omega
      have HM := Lib.hid hm
      clear hm hy
      by_cases d1 : y < 0
      · have e1 : decide (y < 0) = true := decide_eq_true d1
        go_wp2_with fail
        go_quiet (fail)
        go_wp2_with fail
        go_ret
        exact ⟨RetT.no, below_drewN (below_drewN hbA _) _⟩
      have e1 : decide (y < 0) = false := decide_eq_false d1
      by_cases d2 : next ≤ y
      · have e2 : decide (next ≤ y) = true := decide_eq_true d2
        go_wp2_with fail
        go_quiet (fail)
        go_wp2_with fail
        go_ret
        exact ⟨RetT.no, below_drewN (below_drewN hbA _) _⟩
      have e2 : decide (next ≤ y) = false := decide_eq_false d2
      by_cases d4 : 500 < m
      · have e4 : decide (500 < (m : Int)) = true := decide_eq_true (by omega)
        have d4' : (500 : Int) < m := by omega
        by_cases hz : k = 0
        · have z1 : ¬ (0 : Int) < k := by omega
          have z2 : decide ((0 : Int) < k) = false := decide_eq_false z1
          have z3 : ¬ 0 < k := by omega
          have z4 : decide (0 < k) = false := decide_eq_false z3
          clear hz
          go_wp2_with fail
          go_quiet (fail)
          go_wp2_with fail
          go_ret
          exact ⟨RetT.no, below_drewN (below_drewN hbA _) _⟩
        · obtain ⟨j, hj⟩ : ∃ j, j = k - 1 := ⟨_, rfl⟩
          obtain ⟨ad', Ab', cb', eA', -, s1, -, -, -⟩ := RdP.at_ (hr.below (hbA.mono hB)) (k := j) (by omega)
          injection eA' with eA'
          subst eA'
          obtain ⟨z, hzz⟩ : ∃ z, z = (P[j]'(by omega)).1 := ⟨_, rfl⟩
          rw [← hzz] at s1
          have hw : IntKind.i64.wrap ((k : Int) - 1) = (j : Int) := by rw [IntWalk.i64_in _ (by omega)]; omega
          have z1 : (0 : Int) < k := by omega
          have z2 : decide ((0 : Int) < k) = true := decide_eq_true z1
          have z3 : 0 < k := by omega
          have z4 : decide (0 < k) = true := decide_eq_true z3
          clear hz
          have hw2 : (k : Int) - 1 = (j : Int) := by omega
          have j0 : (0 : Int) ≤ j := by omega
          have j1 : (j : Int) < n := by omega
          clear hzz hj
          by_cases d3 : y ≤ z
          · have e3 : decide (y ≤ z) = true := decide_eq_true d3
            go_wp2_with fail
            go_quiet (fail)
            go_wp2_with fail
            go_ret
            exact ⟨RetT.no, below_drewN (below_drewN hbA _) _⟩
          · have e3 : decide (y ≤ z) = false := decide_eq_false d3
            go_wp2_with fail
            go_quiet (fail)
            go_wp2_with fail
            go_ret
            exact ⟨RetT.no, below_drewN (below_drewN hbA _) _⟩
      · have e4 : decide (500 < (m : Int)) = false := decide_eq_false (by omega)
        have d4' : ¬ (500 : Int) < m := by omega
        have HK1 := Lib.hid (show ShortK P (k + 1) from fun i h h2 => by
          rcases Nat.lt_or_eq_of_le (Nat.le_of_lt_succ h2) with h3 | rfl
          · exact HK.out i h h3
          · rw [← HM.out]; omega)
        by_cases hz : k = 0
        · have z1 : ¬ (0 : Int) < k := by omega
          have z2 : decide ((0 : Int) < k) = false := decide_eq_false z1
          have z3 : ¬ 0 < k := by omega
          have z4 : decide (0 < k) = false := decide_eq_false z3
          clear hz
          go_wp2_with fail
          go_quiet (fail)
          go_wp2_with fail
          go_roundw
          case rel => exact ⟨k + 1, _, by omega, by go_num, HK1, rfl⟩
          case measure => simp [intOf] <;> omega
        · obtain ⟨j, hj⟩ : ∃ j, j = k - 1 := ⟨_, rfl⟩
          obtain ⟨ad', Ab', cb', eA', -, s1, -, -, -⟩ := RdP.at_ (hr.below (hbA.mono hB)) (k := j) (by omega)
          injection eA' with eA'
          subst eA'
          obtain ⟨z, hzz⟩ : ∃ z, z = (P[j]'(by omega)).1 := ⟨_, rfl⟩
          rw [← hzz] at s1
          have hw : IntKind.i64.wrap ((k : Int) - 1) = (j : Int) := by rw [IntWalk.i64_in _ (by omega)]; omega
          have z1 : (0 : Int) < k := by omega
          have z2 : decide ((0 : Int) < k) = true := decide_eq_true z1
          have z3 : 0 < k := by omega
          have z4 : decide (0 < k) = true := decide_eq_true z3
          clear hz
          have hw2 : (k : Int) - 1 = (j : Int) := by omega
          have j0 : (0 : Int) ≤ j := by omega
          have j1 : (j : Int) < n := by omega
          clear hzz hj
          by_cases d3 : y ≤ z
          · have e3 : decide (y ≤ z) = true := decide_eq_true d3
            go_wp2_with fail
            go_quiet (fail)
            go_wp2_with fail
            go_ret
            exact ⟨RetT.no, below_drewN (below_drewN hbA _) _⟩
          · have e3 : decide (y ≤ z) = false := decide_eq_false d3
            go_wp2_with fail
            go_quiet (fail)
            go_wp2_with fail
            go_roundw
            case rel => exact ⟨k + 1, _, by omega, by go_num, HK1, rfl⟩
            case measure => simp [intOf] <;> omega
    · have hkn : k = n := by omega
      have HF := Lib.hid (show RightN next P from ⟨HR0.out.1, HR0.out.2.1, by have := HN.out; have := HR0.out.2.2; omega, fun i h => HK.out i h (by have := HN.out; omega)⟩)
      go_wp2_with fail
      go_ret
      exact ⟨RetT.yes HF.out, below_drewN hbA _⟩
end Go.Proofs.Ytnmamfgebbcehaa.pk
