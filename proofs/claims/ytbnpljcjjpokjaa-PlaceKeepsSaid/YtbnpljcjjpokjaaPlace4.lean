/- What the document's Lead, and turn, answer. -/
import Derived.Test.YtbnpljcjjpokjaaPlace3
import Derived.Deep.QuietTactic
import Derived.BigQuiet
namespace Go.Proofs.Ytbnpljcjjpokjaa.placeWalk
open Go.RowKit Go.Proofs.Ytbnpljcjjpokjaa.lib Go.Proofs.Ytbnpljcjjpokjaa.mem Go.Proofs.Ytbnpljcjjpokjaa.viewWalk

def neM (x m : Int × Int) : Bool := decide (m ≠ x)
set_option maxHeartbeats 1000000 in
theorem refLead_any (w : World) {B : Nat} {A : Option Addr} {n c : Nat} {L : List (Int × Int)} (x : Int × Int) (hn : n = L.length) (hr : RdM w B A L) (hB : B ≤ w.heap.size) (hs : L.length ≤ 549755813880) :
    Calls Try.prog 30 #[.slice A n c, .agg #[.int .i64 x.1, .int .i64 x.2]] w fun e w' => ∃ A' c' m', e = .returned (.slice A' m' c') ∧ m' = (refLeadM L x).length ∧ OwnM w' w.heap.size A' c' (refLeadM L x) ∧ Below w.heap.size w w' := by
  obtain ⟨x1, x2⟩ := x
  have hns : n ≤ 549755813880 := by omega
  have HN := Lib.hid hn
  have HS := Lib.hid hs
  clear hn hs
  have hcell : Cell2 (w.alloc (.cells #[.int .i64 x1, .int .i64 x2] 26)) w.heap.size (x1, x2) := Cell2.new w (x1, x2) _
  have hbA : Below w.heap.size w (w.alloc (.cells #[.int .i64 x1, .int .i64 x2] 26)) := (Below.refl _ _).alloc (Nat.le_refl _) _
  have hsz : (w.alloc (.cells #[.int .i64 x1, .int .i64 x2] 26)).heap.size = w.heap.size + 1 := by simp
  go_enter Try.func30, Try.ntmps30
  go_wp2_with fail
  generalize w.alloc (.cells #[.int .i64 x1, .int .i64 x2] 26) = V at hcell hbA hsz ⊢
  refine (refIndex_any V (x1, x2) HN.out (hr.below (hbA.mono hB)) (Nat.le_trans hB hbA.size) (by have := HS.out; omega)).mono ?_
  rintro e w1 ⟨rfl, hb1⟩
  have hc1 := hcell.below hb1 (by omega)
  obtain ⟨q1, q2⟩ := hcell.below hb1 (by omega)
  have hbw1 : Below w.heap.size w w1 := hbA.trans (hb1.mono hbA.size)
  have hlw1 : w.heap.size < w1.heap.size := by have := hb1.size; omega
  obtain ⟨ix, hix⟩ : ∃ i, i = idx L (x1, x2) := ⟨_, rfl⟩
  rw [← hix]
  clear hcell hb1 hbA hsz
  -- the loop, whatever stands ahead
  obtain ⟨P, hP⟩ : ∃ P : List (Int × Int), P = (if idx L (x1, x2) < 0 then [] else [(x1, x2)]) := ⟨_, rfl⟩
  have hrl : refLeadM L (x1, x2) = P ++ L.filter (neM (x1, x2)) := by rw [hP]; rfl
  have hP1 : P.length ≤ 1 := by rw [hP]; split <;> simp
  have hpl : ∀ k, (P ++ (L.take k).filter (neM (x1, x2))).length ≤ 549755813881 := fun k => by
    have := List.length_filter_le (neM (x1, x2)) (L.take k)
    have := HS.out
    rw [List.length_append]
    rw [List.length_take] at *
    omega
  have hyes : ∀ k (h : k < L.length), L[k] ≠ (x1, x2) → P ++ (L.take (k + 1)).filter (neM (x1, x2)) = (P ++ (L.take k).filter (neM (x1, x2))) ++ [L[k]] := fun k h e => by
    rw [filter_succ _ _ _ h, if_pos (by unfold neM; exact decide_eq_true e), List.append_assoc]
  have hno : ∀ k (h : k < L.length), L[k] = (x1, x2) → P ++ (L.take (k + 1)).filter (neM (x1, x2)) = P ++ (L.take k).filter (neM (x1, x2)) := fun k h e => by
    rw [filter_succ _ _ _ h, if_neg (by unfold neM; simp [e]), List.append_nil]
  have HRL := Lib.hid hrl
  have HPL := Lib.hid hpl
  have HYES := Lib.hid hyes
  have HNO := Lib.hid hno
  have HP := Lib.hid hP
  clear hrl hpl hyes hno hP hP1
  by_cases h0 : 0 ≤ ix
  · have hp : P = [(x1, x2)] := by rw [HP.out, if_neg (by rw [← hix]; omega)]
    obtain ⟨A3, c3, w3, hrun, ho3, hb3⟩ := append_one w1 (w.heap.size + 1) (n := 0) (c := 0) (L := []) rfl (ownM_nil _ _) (x1, x2) (by simp) hlw1
    rw [List.nil_append, ← hp] at ho3
    simp only [Nat.zero_add] at hrun
    have hbw3 : Below w.heap.size w w3 := hbw1.trans (hb3.mono (by omega))
    have hlt3 : w.heap.size < w3.heap.size ∧ Cell2 w3 w.heap.size (x1, x2) := ⟨Nat.lt_of_lt_of_le hlw1 hb3.size, hc1.below hb3 (by omega)⟩
    have hst : 1 = (P ++ (L.take 0).filter (neM (x1, x2))).length ∧ OwnM w3 (w.heap.size + 1) A3 c3 (P ++ (L.take 0).filter (neM (x1, x2))) := by
      rw [List.take_zero, List.filter_nil, List.append_nil]
      exact ⟨by rw [hp]; rfl, ho3⟩
    have HST := Lib.hid hst
    have HC3 := Lib.hid hlt3
    clear hst hp ho3 hlt3 hc1 hix HP
    go_wp2_with (at_builtin; refine wpList_append_run rfl rfl rfl rfl hrun ?_; clear hrun)
    go_loopw [5, 6] (fun v i wr => ∃ (k : Nat) (A' : Option Addr) (c' m' : Nat), k ≤ n ∧ i = .int .i64 k ∧ v = .slice A' m' c' ∧ m' = (P ++ (L.take k).filter (neM (x1, x2))).length ∧ OwnM wr (w.heap.size + 1) A' c' (P ++ (L.take k).filter (neM (x1, x2))) ∧ Below w.heap.size w wr ∧ w.heap.size < wr.heap.size ∧ Cell2 wr w.heap.size (x1, x2)) (fun _ i _ => n - (intOf i).toNat)
    case atStart => exact ⟨0, A3, c3, 1, Nat.zero_le _, rfl, rfl, HST.out.1, HST.out.2, hbw3, HC3.out.1, HC3.out.2⟩
    case round =>
      obtain ⟨k, A', c', m', hk, rfl, rfl, hm', ho, hb, hlt2, hcw⟩ := hrel
      have hml : m' ≤ 549755813881 := by rw [hm']; exact HPL.out k
      by_cases hlt : k < n
      · have h1 : k < L.length := by rw [← HN.out]; exact hlt
        obtain ⟨ad, rfl, -, hc1, hc2⟩ := RdM.at_ (hr.below (hb.mono hB)) h1
        obtain ⟨y1, y2, hy⟩ : ∃ y1 y2, L[k] = (y1, y2) := ⟨_, _, rfl⟩
        rw [hy] at hc1 hc2
        obtain ⟨r1, r2⟩ := hcw
        have HM := Lib.hid hm'
        by_cases he : (y1, y2) = (x1, x2)
        · have hno := HNO.out k h1 (by rw [hy, he])
          simp only [Prod.mk.injEq] at he
          obtain ⟨rfl, rfl⟩ := he
          have HNN := Lib.hid hno
          have HO := Lib.hid ho
          clear hno hm' hy ho
          go_wp2_with fail
          go_quiet (fail)
          go_wp2_with fail
          go_roundw
          case rel => exact ⟨k + 1, A', c', m', by omega, by go_num, rfl, by rw [HNN.out]; exact HM.out, by rw [HNN.out]; exact HO.out, below_drewN hb _, hlt2, ⟨r1, r2⟩⟩
          case measure => simp [intOf] <;> omega
        · have hyes := HYES.out k h1 (by rw [hy]; exact he)
          rw [hy] at hyes
          have hq : ∀ nq : Nat, ∃ A3 c3 w3, (Builtin.append_ #[22, 22] 22 #[.slice A' m' c', .slice (some ⟨wr.heap.size, 0, none⟩) 1 1]).run Try.prog ((wr.drewN nq).alloc (.cells #[.int .i64 y1, .int .i64 y2] 26)) = .ok (.slice A3 (m' + 1) c3) w3 ∧
              OwnM w3 (w.heap.size + 1) A3 c3 (P ++ (L.take (k + 1)).filter (neM (x1, x2))) ∧ Below (w.heap.size + 1) (wr.drewN nq) w3 := fun nq => by
            rw [hyes]
            exact append_one (wr.drewN nq) (w.heap.size + 1) hm' ho (y1, y2) (by rw [← hm']; omega) hlt2
          have hm3 : m' + 1 = (P ++ (L.take (k + 1)).filter (neM (x1, x2))).length := by rw [hyes, List.length_append, ← hm']; rfl
          have HM3 := Lib.hid hm3
          have q1 : (y1 == x1 && y2 == x2) = false := by simp only [Prod.mk.injEq] at he; simpa using he
          have HQ := Lib.hid hq
          have HE := Lib.hid he
          have he2 : y1 = x1 → ¬ y2 = x2 := fun h1 h2 => he (by rw [h1, h2])
          clear hyes hm3 hm' hy ho hq he q1
          by_cases e1 : y1 = x1
          · have q2 : (y2 == x2) = false := by simp only [beq_eq_false_iff_ne, ne_eq]; exact he2 e1
            have q3 : ¬ y2 = x2 := he2 e1
            subst e1
            clear he2
            go_wp2_with fail
            go_quiet (fail)
            obtain ⟨A3, c3, w3, hrun, ho3, hb3⟩ := HQ.out nq
            have HO3 := Lib.hid ho3
            have hb3' : Below (w.heap.size + 1) wr w3 := (below_drewN (Below.refl _ _) nq).trans hb3
            clear HQ ho3 hb3
            go_wp2_with (at_builtin; refine wpList_append_run rfl rfl rfl rfl hrun ?_; clear hrun)
            go_roundw
            case rel => exact ⟨k + 1, A3, c3, m' + 1, by omega, by go_num, rfl, HM3.out, HO3.out, hb.trans (hb3'.mono (by omega)), Nat.lt_of_lt_of_le hlt2 hb3'.size, Cell2.below ⟨r1, r2⟩ hb3' (by omega)⟩
            case measure => simp [intOf] <;> omega
          · have q2 : (y1 == x1) = false := by simp only [beq_eq_false_iff_ne, ne_eq]; exact e1
            clear he2
            go_wp2_with fail
            go_quiet (fail)
            obtain ⟨A3, c3, w3, hrun, ho3, hb3⟩ := HQ.out nq
            have HO3 := Lib.hid ho3
            have hb3' : Below (w.heap.size + 1) wr w3 := (below_drewN (Below.refl _ _) nq).trans hb3
            clear HQ ho3 hb3
            go_wp2_with (at_builtin; refine wpList_append_run rfl rfl rfl rfl hrun ?_; clear hrun)
            go_roundw
            case rel => exact ⟨k + 1, A3, c3, m' + 1, by omega, by go_num, rfl, HM3.out, HO3.out, hb.trans (hb3'.mono (by omega)), Nat.lt_of_lt_of_le hlt2 hb3'.size, Cell2.below ⟨r1, r2⟩ hb3' (by omega)⟩
            case measure => simp [intOf] <;> omega
      · have hkn : k = n := by omega
        subst hkn
        have e : L.take k = L := by rw [HN.out]; exact List.take_length
        rw [e, ← HRL.out] at hm' ho
        have HM := Lib.hid hm'
        have HO := Lib.hid (ownsRow_base ho (Nat.le_succ _))
        clear hm' ho
        go_wp2_with fail
        go_ret
        exact ⟨A', c', m', rfl, HM.out, HO.out, hb⟩
  · have hp : P = [] := by rw [HP.out, if_pos (by rw [← hix]; omega)]
    have hst : 0 = (P ++ (L.take 0).filter (neM (x1, x2))).length ∧ OwnM w1 (w.heap.size + 1) none 0 (P ++ (L.take 0).filter (neM (x1, x2))) := by
      rw [List.take_zero, List.filter_nil, List.append_nil, hp]
      exact ⟨rfl, ownM_nil _ _⟩
    have HST := Lib.hid hst
    have HC3 := Lib.hid (show w.heap.size < w1.heap.size ∧ Cell2 w1 w.heap.size (x1, x2) from ⟨hlw1, hc1⟩)
    clear hst hp hc1 hix HP
    go_wp2_with fail
    go_loopw [5, 6] (fun v i wr => ∃ (k : Nat) (A' : Option Addr) (c' m' : Nat), k ≤ n ∧ i = .int .i64 k ∧ v = .slice A' m' c' ∧ m' = (P ++ (L.take k).filter (neM (x1, x2))).length ∧ OwnM wr (w.heap.size + 1) A' c' (P ++ (L.take k).filter (neM (x1, x2))) ∧ Below w.heap.size w wr ∧ w.heap.size < wr.heap.size ∧ Cell2 wr w.heap.size (x1, x2)) (fun _ i _ => n - (intOf i).toNat)
    case atStart => exact ⟨0, none, 0, 0, Nat.zero_le _, rfl, rfl, HST.out.1, HST.out.2, hbw1, HC3.out.1, HC3.out.2⟩
    case round =>
      obtain ⟨k, A', c', m', hk, rfl, rfl, hm', ho, hb, hlt2, hcw⟩ := hrel
      have hml : m' ≤ 549755813881 := by rw [hm']; exact HPL.out k
      by_cases hlt : k < n
      · have h1 : k < L.length := by rw [← HN.out]; exact hlt
        obtain ⟨ad, rfl, -, hc1, hc2⟩ := RdM.at_ (hr.below (hb.mono hB)) h1
        obtain ⟨y1, y2, hy⟩ : ∃ y1 y2, L[k] = (y1, y2) := ⟨_, _, rfl⟩
        rw [hy] at hc1 hc2
        obtain ⟨r1, r2⟩ := hcw
        have HM := Lib.hid hm'
        by_cases he : (y1, y2) = (x1, x2)
        · have hno := HNO.out k h1 (by rw [hy, he])
          simp only [Prod.mk.injEq] at he
          obtain ⟨rfl, rfl⟩ := he
          have HNN := Lib.hid hno
          have HO := Lib.hid ho
          clear hno hm' hy ho
          go_wp2_with fail
          go_quiet (fail)
          go_wp2_with fail
          go_roundw
          case rel => exact ⟨k + 1, A', c', m', by omega, by go_num, rfl, by rw [HNN.out]; exact HM.out, by rw [HNN.out]; exact HO.out, below_drewN hb _, hlt2, ⟨r1, r2⟩⟩
          case measure => simp [intOf] <;> omega
        · have hyes := HYES.out k h1 (by rw [hy]; exact he)
          rw [hy] at hyes
          have hq : ∀ nq : Nat, ∃ A3 c3 w3, (Builtin.append_ #[22, 22] 22 #[.slice A' m' c', .slice (some ⟨wr.heap.size, 0, none⟩) 1 1]).run Try.prog ((wr.drewN nq).alloc (.cells #[.int .i64 y1, .int .i64 y2] 26)) = .ok (.slice A3 (m' + 1) c3) w3 ∧
              OwnM w3 (w.heap.size + 1) A3 c3 (P ++ (L.take (k + 1)).filter (neM (x1, x2))) ∧ Below (w.heap.size + 1) (wr.drewN nq) w3 := fun nq => by
            rw [hyes]
            exact append_one (wr.drewN nq) (w.heap.size + 1) hm' ho (y1, y2) (by rw [← hm']; omega) hlt2
          have hm3 : m' + 1 = (P ++ (L.take (k + 1)).filter (neM (x1, x2))).length := by rw [hyes, List.length_append, ← hm']; rfl
          have HM3 := Lib.hid hm3
          have q1 : (y1 == x1 && y2 == x2) = false := by simp only [Prod.mk.injEq] at he; simpa using he
          have HQ := Lib.hid hq
          have HE := Lib.hid he
          have he2 : y1 = x1 → ¬ y2 = x2 := fun h1 h2 => he (by rw [h1, h2])
          clear hyes hm3 hm' hy ho hq he q1
          by_cases e1 : y1 = x1
          · have q2 : (y2 == x2) = false := by simp only [beq_eq_false_iff_ne, ne_eq]; exact he2 e1
            have q3 : ¬ y2 = x2 := he2 e1
            subst e1
            clear he2
            go_wp2_with fail
            go_quiet (fail)
            obtain ⟨A3, c3, w3, hrun, ho3, hb3⟩ := HQ.out nq
            have HO3 := Lib.hid ho3
            have hb3' : Below (w.heap.size + 1) wr w3 := (below_drewN (Below.refl _ _) nq).trans hb3
            clear HQ ho3 hb3
            go_wp2_with (at_builtin; refine wpList_append_run rfl rfl rfl rfl hrun ?_; clear hrun)
            go_roundw
            case rel => exact ⟨k + 1, A3, c3, m' + 1, by omega, by go_num, rfl, HM3.out, HO3.out, hb.trans (hb3'.mono (by omega)), Nat.lt_of_lt_of_le hlt2 hb3'.size, Cell2.below ⟨r1, r2⟩ hb3' (by omega)⟩
            case measure => simp [intOf] <;> omega
          · have q2 : (y1 == x1) = false := by simp only [beq_eq_false_iff_ne, ne_eq]; exact e1
            clear he2
            go_wp2_with fail
            go_quiet (fail)
            obtain ⟨A3, c3, w3, hrun, ho3, hb3⟩ := HQ.out nq
            have HO3 := Lib.hid ho3
            have hb3' : Below (w.heap.size + 1) wr w3 := (below_drewN (Below.refl _ _) nq).trans hb3
            clear HQ ho3 hb3
            go_wp2_with (at_builtin; refine wpList_append_run rfl rfl rfl rfl hrun ?_; clear hrun)
            go_roundw
            case rel => exact ⟨k + 1, A3, c3, m' + 1, by omega, by go_num, rfl, HM3.out, HO3.out, hb.trans (hb3'.mono (by omega)), Nat.lt_of_lt_of_le hlt2 hb3'.size, Cell2.below ⟨r1, r2⟩ hb3' (by omega)⟩
            case measure => simp [intOf] <;> omega
      · have hkn : k = n := by omega
        subst hkn
        have e : L.take k = L := by rw [HN.out]; exact List.take_length
        rw [e, ← HRL.out] at hm' ho
        have HM := Lib.hid hm'
        have HO := Lib.hid (ownsRow_base ho (Nat.le_succ _))
        clear hm' ho
        go_wp2_with fail
        go_ret
        exact ⟨A', c', m', rfl, HM.out, HO.out, hb⟩
end Go.Proofs.Ytbnpljcjjpokjaa.placeWalk
