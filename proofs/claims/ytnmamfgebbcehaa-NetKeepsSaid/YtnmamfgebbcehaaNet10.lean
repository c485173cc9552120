/- slices.IndexFunc and DeleteFunc of packets with Cut's test; what net's Drop answers. -/
import Derived.Test.YtnmamfgebbcehaaNet9
namespace Go.Proofs.Ytnmamfgebbcehaa.pk
open Go.RowKit Go.Proofs.Ytnmamfgebbcehaa.lib Go.Proofs.Ytnmamfgebbcehaa.byt

theorem drop_any (w : World) {B : Nat} {A : Option Addr} {n c : Nat} {P : List Pk} (next : Int) (i : Nat) (hn : n = P.length) (hr : RdP w B A P) (hB : B ≤ w.heap.size) (hP : ShortP P) :
    Calls Try.prog 17 #[.agg #[.int .i64 next, .slice A n c], .int .i64 i] w fun e w' => ∃ A' n' c', e = .returned (.agg #[.int .i64 next, .slice A' n' c']) ∧ n' = (tkL P i).length ∧ OwnP w' w.heap.size A' c' (tkL P i) ∧ Below w.heap.size w w' := by
  have HN := Lib.hid hn
  have hbA : Below w.heap.size w ((w.alloc (.cells #[.int .i64 next, .slice A n c] 24)).alloc (.cells #[.int .i64 0, .slice none 0 0] 24)) := ((Below.refl _ _).alloc (Nat.le_refl _) _).alloc (by simp) _
  have hszA : ((w.alloc (.cells #[.int .i64 next, .slice A n c] 24)).alloc (.cells #[.int .i64 0, .slice none 0 0] 24)).heap.size = w.heap.size + 2 := by simp
  have x3 : ((w.alloc (.cells #[.int .i64 next, .slice A n c] 24)).alloc (.cells #[.int .i64 0, .slice none 0 0] 24)).cell? ⟨w.heap.size + 1, 0, none⟩ = some (.int .i64 0) := by simp
  have x4 : ((w.alloc (.cells #[.int .i64 next, .slice A n c] 24)).alloc (.cells #[.int .i64 0, .slice none 0 0] 24)).cell? ⟨w.heap.size + 1, 1, none⟩ = some (.slice none 0 0) := by simp
  have f2 : ∀ j, ((w.alloc (.cells #[.int .i64 next, .slice A n c] 24)).alloc (.cells #[.int .i64 0, .slice none 0 0] 24)).frozen? ⟨w.heap.size + 1, j, none⟩ = false := fun j => by simp
  obtain ⟨ok, pv1, pv2, hC⟩ : ∃ (ok : Bool) (pv1 pv2 : Int), ∀ V : World, Below w.heap.size w V → Calls Try.prog 11 #[.agg #[.int .i64 next, .slice A n c], .int .i64 i] V fun e w' => ∃ A' c' n' Ab m cb, e = .returned (.tuple #[.agg #[.int .i64 pv1, .int .i64 pv2, .slice Ab m cb], .agg #[.int .i64 next, .slice A' n' c'], .bool ok]) ∧ n' = (tkL P i).length ∧ OwnP w' V.heap.size A' c' (tkL P i) ∧ Below V.heap.size V w' := by
    by_cases h0 : n = 0
    · have hP0 : P = [] := List.eq_nil_of_length_eq_zero (by omega)
      refine ⟨false, 0, 0, fun V hV => (take_none V next i hn (hr.below (hV.mono hB)) (Nat.le_trans hB hV.size) hP h0).mono ?_⟩
      rintro e w' ⟨A', c', rfl, ho, hb⟩
      subst hP0
      exact ⟨A', c', 0, none, 0, 0, rfl, rfl, ho, hb⟩
    · refine ⟨true, (tkP P i).1, (tkP P i).2.1, fun V hV => (take_some V next i hn (hr.below (hV.mono hB)) (Nat.le_trans hB hV.size) hP (by omega)).mono ?_⟩
      rintro e w' ⟨A', c', Ab, m, cb, rfl, _, _, ho, hb⟩
      refine ⟨A', c', n - 1, Ab, m, cb, rfl, ?_, ho, hb⟩
      unfold tkL
      rw [List.length_eraseIdx, if_pos (Nat.mod_lt _ (by omega)), hn]
  have HC := Lib.hid hC
  clear hn hr hP hC
  go_enter Try.func17, Try.ntmps17
  go_wp2_with fail
  generalize ((w.alloc (.cells #[.int .i64 next, .slice A n c] 24)).alloc (.cells #[.int .i64 0, .slice none 0 0] 24)) = V at hbA hszA x3 x4 f2 ⊢
  refine (HC.out V hbA).mono ?_
  rintro e w1 ⟨A1, c1, n1, Ab, m, cb, rfl, hn1, ho, hb⟩
  replace x3 := keepc x3 hb
  replace x4 := keepc x4 hb
  replace f2 : ∀ j, w1.frozen? ⟨w.heap.size + 1, j, none⟩ = false := fun j => by rw [hb.frozen (by simp only; omega)]; exact f2 j
  have hbw : Below w.heap.size w w1 := hbA.trans (hb.mono hbA.size)
  have hs1 : w.heap.size + 2 ≤ w1.heap.size := by have := hb.size; omega
  have hbU : Below w1.heap.size w1 ((w1.alloc (.cells #[.int .i64 pv1, .int .i64 pv2, .slice Ab m cb] 29)).alloc (.cells #[.int .i64 next, .slice A1 n1 c1] 24)) := ((Below.refl _ _).alloc (Nat.le_refl _) _).alloc (by rw [World.size_alloc]; omega) _
  replace x3 := keepc x3 hbU
  replace x4 := keepc x4 hbU
  replace f2 : ∀ j, ((w1.alloc (.cells #[.int .i64 pv1, .int .i64 pv2, .slice Ab m cb] 29)).alloc (.cells #[.int .i64 next, .slice A1 n1 c1] 24)).frozen? ⟨w.heap.size + 1, j, none⟩ = false := fun j => by rw [hbU.frozen (by simp only; omega)]; exact f2 j
  have HO := Lib.hid ho
  have HN1 := Lib.hid hn1
  have HSV := Lib.hid hszA
  clear hb hbA hszA ho hn1 HC hbU
  go_wp2_with fail
  refine bodyPost_ret (v := .agg #[.int .i64 next, .slice A1 n1 c1]) ?_ rfl ⟨A1, n1, c1, rfl, HN1.out, ?_, ?_⟩
  · rw [results_cell_one rfl]
    go_simp
    first | done | rfl
  · have hsv := HSV.out
    refine OwnP.base (B := V.heap.size) ?_ (by omega)
    repeat (refine OwnP.low ?_ (by simp only; omega) _)
    have hh : ∀ o : Obj, Below w1.heap.size w1 (w1.alloc o) := fun o => (Below.refl _ _).alloc (Nat.le_refl _) _
    refine OwnP.below ?_ ((Below.refl _ _).alloc (Nat.le_refl _) _) (Nat.le_refl _)
    refine OwnP.below ?_ ((Below.refl _ _).alloc (Nat.le_refl _) _) (Nat.le_refl _)
    exact HO.out
  · repeat (refine Below.setCell ?_ (by simp only; omega) _)
    exact (hbw.alloc hbw.size _).alloc (by rw [World.size_alloc]; have := hbw.size; omega) _

set_option maxHeartbeats 1000000 in
theorem cutTest_any (w : World) (p1 p2 : Int) (A : Option Addr) (m c g : Nat) (x : Int) (h : w.cell? ⟨g, 0, none⟩ = some (.int .i64 x)) :
    Calls Try.prog 27 #[.agg #[.int .i64 p1, .int .i64 p2, .slice A m c], .pointer (some ⟨g, 0, none⟩)] w fun e w' => e = .returned (.bool (p2 == x)) ∧ Below w.heap.size w w' := by
  have hx := fun o => Go.Lib.cell?_alloc_marked o h
  go_enter Try.func27, Try.ntmps27
  go_wp2_with fail
  go_ret
  exact ⟨rfl, (Below.refl _ _).alloc (Nat.le_refl _) _⟩

def atOf (f n : Nat) : Int := if f < n then (f : Int) else -1
def firstTo (P : List Pk) (x : Int) : Nat := P.findIdx fun p => p.2.1 == x
theorem firstTo_le (P : List Pk) (x : Int) : firstTo P x ≤ P.length := List.findIdx_le_length
theorem firstTo_no (P : List Pk) (x : Int) (j : Nat) (h : j < firstTo P x) (h' : j < P.length) : P[j].2.1 ≠ x := by
  have := List.not_of_lt_findIdx h
  simpa using this
theorem firstTo_yes (P : List Pk) (x : Int) (h : firstTo P x < P.length) : P[firstTo P x].2.1 = x := by
  have := List.findIdx_getElem (p := fun p : Pk => p.2.1 == x) (xs := P) (w := h)
  unfold firstTo
  simpa using this

set_option maxHeartbeats 2000000 in
theorem indexTo_any (w : World) {B : Nat} {A : Option Addr} {n c : Nat} {P : List Pk} (x : Int) (g : Nat) (hn : n = P.length) (hr : RdP w B A P) (hB : B ≤ w.heap.size) (hs : P.length ≤ 1099511627770) (hg : w.cell? ⟨g, 0, none⟩ = some (.int .i64 x)) (f : Nat) (hf : f = firstTo P x) (z : Int) (hz : z = atOf f n) :
    Calls Try.prog (29) #[.slice A n c, .func (.func 27) #[] #[.pointer (some ⟨g, 0, none⟩)]] w fun e w' => e = .returned (.int .i64 z) ∧ Below w.heap.size w w' := by
  have hns : n ≤ 1099511627770 := by omega
  have HN := Lib.hid hn
  have HFF := Lib.hid hf
  have HZ := Lib.hid hz
  have hfn : f ≤ n := by rw [hf, hn]; exact firstTo_le P x
  clear hn hs hf hz
  have hgl := World.block_lt_of_cell? w _ hg
  go_enter Try.func29, Try.ntmps29
  go_wp2_with fail
  go_loopw [8] (fun i wr => ∃ k : Nat, k ≤ f ∧ i = .int .i64 k ∧ Below w.heap.size w wr) (fun i _ => n - (intOf i).toNat)
  case atStart => exact ⟨0, Nat.zero_le _, rfl, Below.refl _ _⟩
  case round =>
    obtain ⟨k, hk, rfl, hb⟩ := hrel
    by_cases hlt : k < n
    · have h1 : k < P.length := by rw [← HN.out]; exact hlt
      obtain ⟨ad, Ab, cb, eA, -, r1, r2, r3, -⟩ := RdP.at_ (hr.below (hb.mono hB)) h1
      subst eA
      obtain ⟨p1, p2, bs, hp⟩ : ∃ a b d, P[k] = (a, b, d) := ⟨_, _, _, rfl⟩
      obtain ⟨m, hm⟩ : ∃ m, m = bs.length := ⟨_, rfl⟩
      rw [hp] at r1 r2 r3
      simp only at r1 r2 r3
      rw [← hm] at r3
      have HPP := Lib.hid hp
      have hgw : wr.cell? ⟨g, 0, none⟩ = some (.int .i64 x) := (hb.cell hgl).trans hg
      have HT := Lib.hid (cutTest_any wr p1 p2 Ab m cb g x hgw)
      clear hp hm
      by_cases he : p2 = x
      · have HK := Lib.hid (show k = f from by
          rcases Nat.lt_or_eq_of_le hk with h2 | h2
          · exact absurd (by rw [HPP.out]; exact he) (firstTo_no P x k (by rw [← HFF.out]; exact h2) h1)
          · exact h2)
        subst he
        go_wp2_with (go_at_call 27; refine (HT.out).mono ?_; rintro e w1 ⟨rfl, hb1⟩; simp only [beq_self_eq_true])
        go_ret
        have hb1 : Below wr.heap.size wr w1 := by assumption
        exact ⟨by rw [HZ.out, ← HK.out, atOf, if_pos hlt]; rfl, hb.trans (hb1.mono hb.size)⟩
      · have hk2 : k + 1 ≤ f := by
          rcases Nat.lt_or_eq_of_le hk with h2 | h2
          · exact h2
          · exfalso
            apply he
            have := firstTo_yes P x (by rw [← HFF.out, ← h2]; exact h1)
            simp only [← HFF.out, ← h2, HPP.out] at this
            exact this
        have q1 : (p2 == x) = false := by simp only [beq_eq_false_iff_ne, ne_eq]; exact he
        go_wp2_with (go_at_call 27; refine (HT.out).mono ?_; rintro e w1 ⟨rfl, hb1⟩; rw [q1])
        go_roundw
        have hb1 : Below wr.heap.size wr w1 := by assumption
        case rel => exact ⟨k + 1, hk2, by go_num, hb.trans (hb1.mono hb.size)⟩
        case measure => simp [intOf] <;> omega
    · go_wp2_with fail
      go_ret
      exact ⟨by rw [HZ.out, atOf, if_neg (by omega)]; rfl, hb⟩
end Go.Proofs.Ytnmamfgebbcehaa.pk
