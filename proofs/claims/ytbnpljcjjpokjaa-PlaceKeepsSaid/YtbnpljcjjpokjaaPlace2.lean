/- What place's and the document's Both answer. -/
import Derived.Test.YtbnpljcjjpokjaaPlace
import Derived.Test.YtbnpljcjjpokjaaPlaceP
namespace Go.Proofs.Ytbnpljcjjpokjaa.placeWalk
open Go.RowKit Go.Proofs.Ytbnpljcjjpokjaa.lib Go.Proofs.Ytbnpljcjjpokjaa.mem Go.Proofs.Ytbnpljcjjpokjaa.viewWalk

theorem bothM_take_length (L U : List (Int × Int)) (k : Nat) : (bothM (L.take k) U).length ≤ L.length := by
  unfold bothM
  exact Nat.le_trans (List.length_filter_le _ _) (by rw [List.length_take]; omega)
theorem bothM_yes (L U : List (Int × Int)) (k : Nat) (h : k < L.length) (hp : 0 ≤ idx U L[k]) : bothM (L.take (k + 1)) U = bothM (L.take k) U ++ [L[k]] := by
  unfold bothM
  rw [filter_succ _ _ _ h, if_pos (decide_eq_true hp)]
theorem bothM_no (L U : List (Int × Int)) (k : Nat) (h : k < L.length) (hp : ¬ 0 ≤ idx U L[k]) : bothM (L.take (k + 1)) U = bothM (L.take k) U := by
  unfold bothM
  rw [filter_succ _ _ _ h, if_neg (by simpa using hp), List.append_nil]

set_option maxHeartbeats 1000000 in
theorem both_any (w : World) {B : Nat} {A A2 : Option Addr} {n n2 c c2 : Nat} {L U : List (Int × Int)} (hn : n = L.length) (hr : RdM w B A L) (hn2 : n2 = U.length) (hr2 : RdM w B A2 U) (hB : B ≤ w.heap.size) (hs : L.length ≤ 1099511627770) (hs2 : U.length ≤ 1099511627776) :
    Calls Try.prog 27 #[.slice A n c, .slice A2 n2 c2] w fun e w' => ∃ A' c' m', e = .returned (.slice A' m' c') ∧ m' = (bothM L U).length ∧ OwnM w' w.heap.size A' c' (bothM L U) ∧ Below w.heap.size w w' := by
  have hns : n ≤ 1099511627770 := by omega
  have HN := Lib.hid hn
  have HN2 := Lib.hid hn2
  have HS := Lib.hid hs
  have HS2 := Lib.hid hs2
  clear hn hn2 hs hs2
  go_enter Try.func27, Try.ntmps27
  go_wp2_with fail
  go_loopw [5, 10] (fun v i wr => ∃ (k : Nat) (A' : Option Addr) (c' m' : Nat), k ≤ n ∧ i = .int .i64 k ∧ v = .slice A' m' c' ∧ m' = (bothM (L.take k) U).length ∧ OwnM wr w.heap.size A' c' (bothM (L.take k) U) ∧ Below w.heap.size w wr) (fun _ i _ => n - (intOf i).toNat)
  case atStart => exact ⟨0, none, 0, 0, Nat.zero_le _, rfl, rfl, rfl, ownM_nil _ _, Below.refl _ _⟩
  case round =>
    obtain ⟨k, A', c', m', hk, rfl, rfl, hm', ho, hb⟩ := hrel
    have hml : m' ≤ 1099511627770 := by rw [hm']; exact Nat.le_trans (bothM_take_length _ _ _) HS.out
    by_cases hlt : k < n
    · have h1 : k < L.length := by rw [← HN.out]; exact hlt
      obtain ⟨ad, rfl, -, hc1, hc2⟩ := RdM.at_ (hr.below (hb.mono hB)) h1
      obtain ⟨y1, y2, hy⟩ : ∃ y1 y2, L[k] = (y1, y2) := ⟨_, _, rfl⟩
      rw [hy] at hc1 hc2
      have hru : RdM (wr.alloc (.cells #[.int .i64 y1, .int .i64 y2] 26)) B A2 U := (hr2.below (hb.mono hB)).alloc (Nat.le_trans hB hb.size) _
      have hcell : Cell2 (wr.alloc (.cells #[.int .i64 y1, .int .i64 y2] 26)) wr.heap.size (y1, y2) := Cell2.new wr (y1, y2) _
      have hoA : OwnM (wr.alloc (.cells #[.int .i64 y1, .int .i64 y2] 26)) w.heap.size A' c' (bothM (L.take k) U) := World.ownsRow.alloc ho _
      have hbA : Below w.heap.size w (wr.alloc (.cells #[.int .i64 y1, .int .i64 y2] 26)) := hb.alloc hb.size _
      have hsz : (wr.alloc (.cells #[.int .i64 y1, .int .i64 y2] 26)).heap.size = wr.heap.size + 1 := by simp
      have HY := Lib.hid hy
      have HM := Lib.hid hm'
      have HOA := Lib.hid hoA
      clear hy hm' ho hoA
      go_wp2_with fail
      generalize wr.alloc (.cells #[.int .i64 y1, .int .i64 y2] 26) = V at hru hcell HOA hbA hsz ⊢
      refine (index_any V (y1, y2) HN2.out hru (Nat.le_trans hB hbA.size) HS2.out).mono ?_
      rintro e w1 ⟨rfl, hb1⟩
      obtain ⟨x1, x2⟩ := hcell.below hb1 (by omega)
      have ho1 : OwnM w1 w.heap.size A' c' (bothM (L.take k) U) := own_below HOA.out hb1 (Nat.le_refl _)
      have hbw1 : Below w.heap.size w w1 := hbA.trans (hb1.mono hbA.size)
      obtain ⟨ix, hix⟩ : ∃ i, i = idx U (y1, y2) := ⟨_, rfl⟩
      rw [← hix]
      clear hcell hb1 HOA hru
      by_cases h0 : 0 ≤ ix
      · have hyes := bothM_yes L U k h1 (by rw [HY.out, ← hix]; exact h0)
        rw [HY.out] at hyes
        obtain ⟨A3, c3, w3, hrun, ho3, hb3⟩ := append_one w1 w.heap.size HM.out ho1 (y1, y2) (by rw [← HM.out]; omega) hbw1.size
        rw [← hyes] at ho3
        have hm3 : m' + 1 = (bothM (L.take (k + 1)) U).length := by rw [hyes, List.length_append, ← HM.out]; rfl
        have HM3 := Lib.hid hm3
        have HO3 := Lib.hid ho3
        clear hix hyes hm3 ho3 ho1
        go_wp2_with (at_builtin; refine wpList_append_run rfl rfl rfl rfl hrun ?_; clear hrun)
        go_roundw
        case rel => exact ⟨k + 1, A3, c3, m' + 1, by omega, by go_num, rfl, HM3.out, HO3.out, hbw1.trans hb3⟩
        case measure => simp [intOf] <;> omega
      · have hno := bothM_no L U k h1 (by rw [HY.out, ← hix]; exact h0)
        have HO1 := Lib.hid ho1
        have HNO := Lib.hid hno
        clear hix hno ho1
        go_wp2_with fail
        go_roundw
        case rel => exact ⟨k + 1, A', c', m', by omega, by go_num, rfl, by rw [HNO.out]; exact HM.out, by rw [HNO.out]; exact HO1.out, hbw1⟩
        case measure => simp [intOf] <;> omega
    · have hkn : k = n := by omega
      subst hkn
      have e : L.take k = L := by rw [HN.out]; exact List.take_length
      rw [e] at hm' ho
      have HM := Lib.hid hm'
      have HO := Lib.hid ho
      clear hm' ho
      go_wp2_with fail
      go_ret
      exact ⟨A', c', m', rfl, HM.out, HO.out, hb⟩
end Go.Proofs.Ytbnpljcjjpokjaa.placeWalk
