/- What turn, the document's node, slices.ContainsFunc with Chain's test answer. -/
import Derived.Test.YtbnpljcjjpokjaaPlace3
import Derived.Deep.QuietTactic
import Derived.BigQuiet
namespace Go.Proofs.Ytbnpljcjjpokjaa.placeWalk
open Go.RowKit Go.Proofs.Ytbnpljcjjpokjaa.lib Go.Proofs.Ytbnpljcjjpokjaa.mem Go.Proofs.Ytbnpljcjjpokjaa.viewWalk

set_option maxHeartbeats 1000000 in
theorem turn_any (w : World) {B : Nat} {A : Option Addr} {n c : Nat} {U : List (Int × Int)} (s : Nat) (hn : n = U.length) (hr : RdM w B A U) (hB : B ≤ w.heap.size) (hs : U.length ≤ 16) :
    Calls Try.prog 34 #[.int .i64 s, .slice A n c] w fun e w' => ∃ A' c' m', e = .returned (.slice A' m' c') ∧ m' = (turnM s U).length ∧ OwnM w' w.heap.size A' c' (turnM s U) ∧ Below w.heap.size w w' := by
  have hns : n ≤ 16 := by omega
  have HN := Lib.hid hn
  clear hn hs
  go_enter Try.func34, Try.ntmps34
  go_wp2_with fail
  go_loopw [5, 10] (fun v i wr => ∃ (k : Nat) (A' : Option Addr) (c' : Nat), k ≤ n ∧ i = .int .i64 k ∧ v = .slice A' k c' ∧ k = ((turnM s U).take k).length ∧ OwnM wr w.heap.size A' c' ((turnM s U).take k) ∧ Below w.heap.size w wr) (fun _ i _ => n - (intOf i).toNat)
  case atStart => exact ⟨0, none, 0, Nat.zero_le _, rfl, rfl, rfl, ownM_nil _ _, Below.refl _ _⟩
  case round =>
    obtain ⟨k, A', c', hk, rfl, rfl, hm', ho, hb⟩ := hrel
    by_cases hlt : k < n
    · have h1 : k < U.length := by rw [← HN.out]; exact hlt
      obtain ⟨f, hf⟩ : ∃ f, f = s % n := ⟨_, rfl⟩
      have hfn : f < n := by rw [hf]; exact Nat.mod_lt _ (by omega)
      have t1 : (s : Int).tmod n = f := by rw [hf]; rfl
      obtain ⟨q, hq⟩ : ∃ q, q = (f + k + n) % n := ⟨_, rfl⟩
      have hqn : q < n := by rw [hq]; exact Nat.mod_lt _ (by omega)
      have t2 : ((f : Int) + k + n).tmod n = q := by rw [hq]; rfl
      have hq1 : q < U.length := by rw [← HN.out]; exact hqn
      obtain ⟨ad, rfl, -, hc1, hc2⟩ := RdM.at_ (hr.below (hb.mono hB)) hq1
      obtain ⟨y1, y2, hy⟩ : ∃ y1 y2, U[q] = (y1, y2) := ⟨_, _, rfl⟩
      rw [hy] at hc1 hc2
      have htl := turnM_length s U
      have hget : (turnM s U)[k]'(by omega) = (y1, y2) := by
        rw [turnM_get s U k h1, ← hy]
        congr 1
        rw [hq, hf, HN.out]
      have hnext : (turnM s U).take (k + 1) = (turnM s U).take k ++ [(y1, y2)] := by
        rw [← List.take_append_getElem (show k < (turnM s U).length by omega), hget]
      obtain ⟨A3, c3, w3, hrun, ho3, hb3⟩ := append_one wr w.heap.size hm' ho (y1, y2) (by omega) hb.size
      rw [← hnext] at ho3
      have hm3 : k + 1 = ((turnM s U).take (k + 1)).length := by rw [List.length_take]; omega
      have qn0 : ((n : Int) == 0) = false := by simp only [beq_eq_false_iff_ne, ne_eq]; omega
      have qn1 : ¬ (n : Int) = 0 := by omega
      have qq0 : (0 : Int) ≤ q := by omega
      have qq1 : (q : Int) < n := by omega
      have HM3 := Lib.hid hm3
      have HO3 := Lib.hid ho3
      clear hm3 ho3 hnext hget htl hy hq hf ho hm'
      go_wp2_with (at_builtin; refine wpList_append_run rfl rfl rfl rfl hrun ?_; clear hrun)
      go_roundw
      case rel => exact ⟨k + 1, A3, c3, by omega, by go_num, rfl, HM3.out, HO3.out, hb.trans hb3⟩
      case measure => simp [intOf] <;> omega
    · have hkn : k = n := by omega
      have e : (turnM s U).take k = turnM s U := List.take_of_length_le (by rw [turnM_length, hkn, HN.out]; exact Nat.le_refl _)
      rw [e] at hm' ho
      have HM := Lib.hid hm'
      have HO := Lib.hid ho
      clear hm' ho
      go_wp2_with fail
      go_ret
      exact ⟨A', c', k, rfl, HM.out, HO.out, hb⟩

theorem hasN_at (K : List (Int × Int)) (x : Int) (k : Nat) (h : k < K.length) (e : K[k].1 = x) : hasN K x = true := by
  unfold hasN
  rw [List.any_eq_true]
  exact ⟨K[k], List.getElem_mem h, by rw [e]; simp⟩
theorem hasN_none (K : List (Int × Int)) (x : Int) (h : ∀ j (hj : j < K.length), K[j].1 ≠ x) : hasN K x = false := by
  unfold hasN
  rw [List.any_eq_false]
  intro m hm
  obtain ⟨j, hj, rfl⟩ := List.getElem_of_mem hm
  simpa using h j hj

set_option maxHeartbeats 1000000 in
theorem refNode_any (w : World) {B : Nat} {A : Option Addr} {n c : Nat} {K : List (Int × Int)} (x : Int) (hn : n = K.length) (hr : RdM w B A K) (hs : K.length ≤ 1099511627770) :
    Calls Try.prog 37 #[.slice A n c, .int .i64 x] w fun e w' => e = .returned (.bool (hasN K x)) ∧ w = w' := by
  have hns : n ≤ 1099511627770 := by omega
  have HN := Lib.hid hn
  clear hn hs
  go_enter Try.func37, Try.ntmps37
  go_wp2_with fail
  go_loop [5] (fun i => ∃ k : Nat, k ≤ n ∧ i = .int .i64 k ∧ ∀ j (hj : j < k) (h : j < K.length), K[j].1 ≠ x) (fun i => n - (intOf i).toNat)
  case atStart => exact ⟨0, Nat.zero_le _, rfl, fun j hj => absurd hj (by omega)⟩
  case round =>
    obtain ⟨k, hk, rfl, hno⟩ := hrel
    have HNO := Lib.hid hno
    clear hno
    by_cases hlt : k < n
    · have h1 : k < K.length := by rw [← HN.out]; exact hlt
      obtain ⟨ad, rfl, -, hc1, hc2⟩ := RdM.at_ hr h1
      obtain ⟨y1, hy⟩ : ∃ y1, y1 = K[k].1 := ⟨_, rfl⟩
      rw [← hy] at hc1
      have HY := Lib.hid hy
      clear hy hc2
      by_cases he : y1 = x
      · have HT := Lib.hid (hasN_at K x k h1 (by rw [← HY.out, he]))
        subst he
        go_wp2_with fail
        go_ret
        exact ⟨by rw [HT.out]; rfl, rfl⟩
      · have hno2 : ∀ j (hj : j < k + 1) (h : j < K.length), K[j].1 ≠ x := fun j hj h => by
          rcases Nat.lt_or_eq_of_le (Nat.le_of_lt_succ hj) with h2 | rfl
          · exact HNO.out j h2 h
          · rw [← HY.out]; exact he
        have HNO2 := Lib.hid hno2
        clear hno2
        have q1 : (y1 == x) = false := by simp only [beq_eq_false_iff_ne, ne_eq]; exact he
        go_wp2_with fail
        go_round
        case rel => exact ⟨k + 1, by omega, by go_num, HNO2.out⟩
        case measure => simp [intOf] <;> omega
    · have HT := Lib.hid (hasN_none K x fun j hj => HNO.out j (by have := HN.out; omega) hj)
      go_wp2_with fail
      go_ret
      exact ⟨by rw [HT.out]; rfl, rfl⟩

set_option maxHeartbeats 1000000 in
theorem test_any (w : World) (y : Int × Int) (g : Nat) (x : Int) (h : w.cell? ⟨g, 0, none⟩ = some (.int .i64 x)) :
    Calls Try.prog 36 #[.agg #[.int .i64 y.1, .int .i64 y.2], .pointer (some ⟨g, 0, none⟩)] w fun e w' => e = .returned (.bool (y.1 == x)) ∧ Below w.heap.size w w' := by
  obtain ⟨y1, y2⟩ := y
  have hx := fun o => Go.Lib.cell?_alloc_marked o h
  go_enter Try.func36, Try.ntmps36
  go_wp2_with fail
  go_ret
  exact ⟨rfl, (Below.refl _ _).alloc (Nat.le_refl _) _⟩

def FoundN (e : Ending) (K : List (Int × Int)) (x : Int) : Prop := ∃ i : Int, e = .returned (.int .i64 i) ∧ (hasN K x = true ↔ 0 ≤ i) ∧ -1 ≤ i
set_option maxHeartbeats 1000000 in
theorem indexFunc_any (w : World) {B : Nat} {A : Option Addr} {n c : Nat} {K : List (Int × Int)} (x : Int) (g : Nat) (hn : n = K.length) (hr : RdM w B A K) (hB : B ≤ w.heap.size) (hs : K.length ≤ 1099511627770) (hg : w.cell? ⟨g, 0, none⟩ = some (.int .i64 x)) :
    Calls Try.prog 38 #[.slice A n c, .func (.func 36) #[] #[.pointer (some ⟨g, 0, none⟩)]] w fun e w' => FoundN e K x ∧ Below w.heap.size w w' := by
  have hns : n ≤ 1099511627770 := by omega
  have HN := Lib.hid hn
  clear hn hs
  have hgl := block_of_cell hg
  go_enter Try.func38, Try.ntmps38
  go_wp2_with fail
  go_loopw [8] (fun i wr => ∃ k : Nat, k ≤ n ∧ i = .int .i64 k ∧ (∀ j (hj : j < k) (h : j < K.length), K[j].1 ≠ x) ∧ Below w.heap.size w wr) (fun i _ => n - (intOf i).toNat)
  case atStart => exact ⟨0, Nat.zero_le _, rfl, fun j hj => absurd hj (by omega), Below.refl _ _⟩
  case round =>
    obtain ⟨k, hk, rfl, hno, hb⟩ := hrel
    have HNO := Lib.hid hno
    clear hno
    by_cases hlt : k < n
    · have h1 : k < K.length := by rw [← HN.out]; exact hlt
      obtain ⟨ad, rfl, -, hc1, hc2⟩ := RdM.at_ (hr.below (hb.mono hB)) h1
      obtain ⟨y1, y2, hy⟩ : ∃ y1 y2, K[k] = (y1, y2) := ⟨_, _, rfl⟩
      rw [hy] at hc1 hc2
      have HY := Lib.hid hy
      clear hy
      have hgw : wr.cell? ⟨g, 0, none⟩ = some (.int .i64 x) := (hb.cell hgl).trans hg
      have HT := Lib.hid (test_any wr (y1, y2) g x hgw)
      by_cases he : y1 = x
      · have HH := Lib.hid (hasN_at K x k h1 (by rw [HY.out]; exact he))
        subst he
        go_wp2_with (go_at_call 36; refine (HT.out).mono ?_; rintro e w1 ⟨rfl, hb1⟩; simp only [beq_self_eq_true])
        go_ret
        have hb1 : Below wr.heap.size wr w1 := by assumption
        exact ⟨⟨k, rfl, by rw [HH.out]; simp, by omega⟩, hb.trans (hb1.mono hb.size)⟩
      · have hno2 : ∀ j (hj : j < k + 1) (h : j < K.length), K[j].1 ≠ x := fun j hj h => by
          rcases Nat.lt_or_eq_of_le (Nat.le_of_lt_succ hj) with h2 | rfl
          · exact HNO.out j h2 h
          · rw [HY.out]; exact he
        have HNO2 := Lib.hid hno2
        clear hno2
        have q1 : (y1 == x) = false := by simp only [beq_eq_false_iff_ne, ne_eq]; exact he
        go_wp2_with (go_at_call 36; refine (HT.out).mono ?_; rintro e w1 ⟨rfl, hb1⟩; rw [q1])
        go_roundw
        have hb1 : Below wr.heap.size wr w1 := by assumption
        case rel => exact ⟨k + 1, by omega, by go_num, HNO2.out, hb.trans (hb1.mono hb.size)⟩
        case measure => simp [intOf] <;> omega
    · have HH := Lib.hid (hasN_none K x fun j hj => HNO.out j (by have := HN.out; omega) hj)
      go_wp2_with fail
      go_ret
      exact ⟨⟨-1, rfl, by rw [HH.out]; simp, by omega⟩, hb⟩

set_option maxHeartbeats 1000000 in
theorem contains_any (w : World) {B : Nat} {A : Option Addr} {n c : Nat} {K : List (Int × Int)} (x : Int) (g : Nat) (hn : n = K.length) (hr : RdM w B A K) (hB : B ≤ w.heap.size) (hs : K.length ≤ 1099511627770) (hg : w.cell? ⟨g, 0, none⟩ = some (.int .i64 x)) :
    Calls Try.prog 35 #[.slice A n c, .func (.func 36) #[] #[.pointer (some ⟨g, 0, none⟩)]] w fun e w' => e = .returned (.bool (hasN K x)) ∧ Below w.heap.size w w' := by
  have HN := Lib.hid hn
  clear hn
  go_enter Try.func35, Try.ntmps35
  go_wp2_with fail
  have hI := indexFunc_any w (c := c) x g HN.out hr hB hs hg
  refine hI.mono ?_
  rintro e w1 ⟨⟨i, rfl, hi, hi2⟩, hb⟩
  clear hI hr hB hs hg
  obtain ⟨t, ht⟩ : ∃ t, t = hasN K x := ⟨_, rfl⟩
  rw [← ht] at hi
  have HT := Lib.hid ht
  clear ht
  by_cases h0 : 0 ≤ i
  · obtain rfl : t = true := hi.2 h0
    clear hi
    go_wp2_with fail
    go_ret
    exact ⟨by rw [← HT.out]; simp, hb⟩
  · obtain rfl : t = false := by
      cases t
      · rfl
      · exact absurd (hi.1 rfl) h0
    clear hi
    go_wp2_with fail
    go_ret
    exact ⟨by rw [← HT.out]; simp; omega, hb⟩
end Go.Proofs.Ytbnpljcjjpokjaa.placeWalk
