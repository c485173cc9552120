/- What net's place, the document's SamePacket and Same answer. -/
import Derived.Test.YtnmamfgebbcehaaNet1
import Derived.Deep.QuietTactic
import Derived.BigQuiet
namespace Go.Proofs.Ytnmamfgebbcehaa.pk
open Go.RowKit Go.Proofs.Ytnmamfgebbcehaa.lib Go.Proofs.Ytnmamfgebbcehaa.byt

theorem place_any (w : World) (next : Int) (A : Option Addr) (n c i : Nat) (h0 : 0 < n) :
    Calls Try.prog 22 #[.agg #[.int .i64 next, .slice A n c], .int .i64 i] w fun e w' => e = .returned (.int .i64 (i % n : Nat)) ∧ Below w.heap.size w w' := by
  obtain ⟨q, hq⟩ : ∃ q, q = i % n := ⟨_, rfl⟩
  rw [← hq]
  have t1 : (i : Int).tmod n = q := by rw [hq]; rfl
  have q0 : ((n : Int) == 0) = false := by simp only [beq_eq_false_iff_ne, ne_eq]; omega
  have q1 : ¬ (n : Int) = 0 := by omega
  have q2 : ¬ (q : Int) < 0 := by omega
  clear hq
  go_enter Try.func22, Try.ntmps22
  go_wp2_with fail
  all_goals
    go_ret
    exact ⟨rfl, (Below.refl _ _).alloc (Nat.le_refl _) _⟩

def pkE (p : Pk) (A : Option Addr) (c : Nat) : Value := .agg #[.int .i64 p.1, .int .i64 p.2.1, .slice A p.2.2.length c]
set_option maxHeartbeats 1000000 in
theorem samePk_any (w : World) {B1 B2 : Nat} {A1 A2 : Option Addr} {n1 c1 n2 c2 : Nat} {p q : Pk} (hn1 : n1 = p.2.2.length) (hn2 : n2 = q.2.2.length) (h1 : RdB w B1 A1 p.2.2) (h2 : RdB w B2 A2 q.2.2) (hB1 : B1 ≤ w.heap.size) (hB2 : B2 ≤ w.heap.size) (hs1 : p.2.2.length ≤ 1099511627776) (hs2 : q.2.2.length ≤ 1099511627776) :
    Calls Try.prog 14 #[.agg #[.int .i64 p.1, .int .i64 p.2.1, .slice A1 n1 c1], .agg #[.int .i64 q.1, .int .i64 q.2.1, .slice A2 n2 c2]] w fun e w' => e = .returned (.bool (decide (p = q))) ∧ Below w.heap.size w w' := by
  obtain ⟨p1, p2, xs⟩ := p
  obtain ⟨q1, q2, ys⟩ := q
  have HN1 := Lib.hid hn1
  have HN2 := Lib.hid hn2
  clear hn1 hn2
  by_cases e1 : p1 = q1
  · by_cases e2 : p2 = q2
    · subst e1 e2
      have HD := Lib.hid (show decide ((p1, p2, xs) = (p1, p2, ys)) = decide (xs = ys) by simp)
      go_enter Try.func14, Try.ntmps14
      go_wp2_with fail
      have hbA : Below w.heap.size w ((w.alloc (.cells #[.int .i64 p1, .int .i64 p2, .slice A1 n1 c1] 29)).alloc (.cells #[.int .i64 p1, .int .i64 p2, .slice A2 n2 c2] 29)) := ((Below.refl _ _).alloc (Nat.le_refl _) _).alloc (by simp) _
      refine (same_any _ HN1.out HN2.out (h1.below (hbA.mono hB1)) (h2.below (hbA.mono hB2)) hs1 hs2).mono ?_
      rintro e w' ⟨rfl, nq, rfl⟩
      obtain ⟨t, ht⟩ : ∃ t, t = decide (xs = ys) := ⟨_, rfl⟩
      rw [← ht]
      have HT := Lib.hid ht
      clear ht
      go_wp2_with fail
      go_ret
      exact ⟨by rw [HD.out, ← HT.out]; rfl, below_drewN hbA _⟩
    · have HD := Lib.hid (show decide ((p1, p2, xs) = (q1, q2, ys)) = false from decide_eq_false fun e => e2 (by simp at e; exact e.2.1))
      have q0 : (p2 == q2) = false := by simp only [beq_eq_false_iff_ne, ne_eq]; exact e2
      subst e1
      go_enter Try.func14, Try.ntmps14
      go_wp2_with fail
      go_ret
      exact ⟨by first | rfl | (rw [HD.out]; rfl), ((Below.refl _ _).alloc (Nat.le_refl _) _).alloc (by simp) _⟩
  · have HD := Lib.hid (show decide ((p1, p2, xs) = (q1, q2, ys)) = false from decide_eq_false fun e => e1 (by simp at e; exact e.1))
    have q0 : (p1 == q1) = false := by simp only [beq_eq_false_iff_ne, ne_eq]; exact e1
    go_enter Try.func14, Try.ntmps14
    go_wp2_with fail
    go_ret
    exact ⟨by first | rfl | (rw [HD.out]; rfl), ((Below.refl _ _).alloc (Nat.le_refl _) _).alloc (by simp) _⟩

theorem take_sameP (L M : List Pk) (k : Nat) (h1 : k < L.length) (h2 : k < M.length) (ht : L.take k = M.take k) (e : L[k] = M[k]) : L.take (k + 1) = M.take (k + 1) := by
  rw [← List.take_append_getElem h1, ← List.take_append_getElem h2, ht, e]
def ShortP (P : List Pk) : Prop := P.length ≤ 1099511627770 ∧ ∀ i (h : i < P.length), P[i].2.2.length ≤ 1099511627770

set_option maxHeartbeats 4000000 in
theorem sameNet_any (w : World) {B1 B2 : Nat} {A1 A2 : Option Addr} {n n2 c1 c2 : Nat} {P Q : List Pk} (x y : Int) (hn1 : n = P.length) (hn2 : n2 = Q.length) (h1 : RdP w B1 A1 P) (h2 : RdP w B2 A2 Q) (hB1 : B1 ≤ w.heap.size) (hB2 : B2 ≤ w.heap.size) (hs1 : ShortP P) (hs2 : ShortP Q) :
    Calls Try.prog 12 #[.agg #[.int .i64 x, .slice A1 n c1], .agg #[.int .i64 y, .slice A2 n2 c2]] w fun e w' => e = .returned (.bool (decide (x = y ∧ P = Q))) ∧ Below w.heap.size w w' := by
  have HN1 := Lib.hid hn1
  have HN2 := Lib.hid hn2
  have HS1 := Lib.hid hs1
  have HS2 := Lib.hid hs2
  have hns : n ≤ 1099511627770 := by rw [hn1]; exact hs1.1
  have hns2 : n2 ≤ 1099511627770 := by rw [hn2]; exact hs2.1
  by_cases e0 : x = y
  case neg =>
    have HD := Lib.hid (show decide (x = y ∧ P = Q) = false from decide_eq_false fun h => e0 h.1)
    have q0 : (x == y) = false := by simp only [beq_eq_false_iff_ne, ne_eq]; exact e0
    clear hn1 hn2 hs1 hs2
    go_enter Try.func12, Try.ntmps12
    go_wp2_with fail
    go_ret
    exact ⟨by first | rfl | (rw [HD.out]; rfl), ((Below.refl _ _).alloc (Nat.le_refl _) _).alloc (by simp) _⟩
  case pos =>
  subst e0
  by_cases e1 : n = n2
  case neg =>
    have q0 : ((n : Int) == (n2 : Int)) = false := by simp only [beq_eq_false_iff_ne, ne_eq]; omega
    have q1 : ¬ n = n2 := e1
    clear hn1 hn2 hs1 hs2
    go_enter Try.func12, Try.ntmps12
    go_wp2_with fail
    go_ret
    exact ⟨by simp [show ¬ P = Q from fun h => e1 (by rw [HN1.out, HN2.out, h])], ((Below.refl _ _).alloc (Nat.le_refl _) _).alloc (by simp) _⟩
  case pos =>
  subst e1
  clear hn1 hn2 hs1 hs2
  have hbA : Below w.heap.size w ((w.alloc (.cells #[.int .i64 x, .slice A1 n c1] 24)).alloc (.cells #[.int .i64 x, .slice A2 n c2] 24)) := ((Below.refl _ _).alloc (Nat.le_refl _) _).alloc (by simp) _
  have v1 : ((w.alloc (.cells #[.int .i64 x, .slice A1 n c1] 24)).alloc (.cells #[.int .i64 x, .slice A2 n c2] 24)).cell? ⟨w.heap.size, 1, none⟩ = some (.slice A1 n c1) := by simp
  have v2 : ((w.alloc (.cells #[.int .i64 x, .slice A1 n c1] 24)).alloc (.cells #[.int .i64 x, .slice A2 n c2] 24)).cell? ⟨w.heap.size + 1, 1, none⟩ = some (.slice A2 n c2) := by simp
  go_enter Try.func12, Try.ntmps12
  go_wp2_with fail
  generalize (w.alloc (.cells #[.int .i64 x, .slice A1 n c1] 24)).alloc (.cells #[.int .i64 x, .slice A2 n c2] 24) = V at hbA v1 v2 ⊢
  go_loopw [5] (fun i wr => ∃ k : Nat, k ≤ n ∧ i = .int .i64 k ∧ Hid (P.take k = Q.take k) ∧ wr.cell? ⟨w.heap.size, 1, none⟩ = some (.slice A1 n c1) ∧ wr.cell? ⟨w.heap.size + 1, 1, none⟩ = some (.slice A2 n c2) ∧ Below w.heap.size w wr) (fun i _ => n - (intOf i).toNat)
  case atStart => exact ⟨0, Nat.zero_le _, rfl, Lib.hid rfl, v1, v2, hbA⟩
  case round =>
    obtain ⟨k, hk, rfl, HT, v1, v2, hb⟩ := hrel
    by_cases hlt : k < n
    · have g1 : k < P.length := by rw [← HN1.out]; exact hlt
      have g2 : k < Q.length := by rw [← HN2.out]; exact hlt
      obtain ⟨ad1, Ax, cx, eA, -, r1, r2, r3, hrx⟩ := RdP.at_ (h1.below (hb.mono hB1)) g1
      obtain ⟨ad2, Ay, cy, eB, -, s1, s2, s3, hry⟩ := RdP.at_ (h2.below (hb.mono hB2)) g2
      subst eA eB
      obtain ⟨t, ht⟩ : ∃ t, t = decide (P[k] = Q[k]) := ⟨_, rfl⟩
      obtain ⟨p1, p2, xs, hp⟩ : ∃ a b c, P[k] = (a, b, c) := ⟨_, _, _, rfl⟩
      obtain ⟨q1, q2, ys, hq⟩ : ∃ a b c, Q[k] = (a, b, c) := ⟨_, _, _, rfl⟩
      have hlx := HS1.out.2 k g1
      have hly := HS2.out.2 k g2
      rw [hp] at r1 r2 r3 hrx hlx
      rw [hq] at s1 s2 s3 hry hly
      obtain ⟨mx, hmx⟩ : ∃ m, m = xs.length := ⟨_, rfl⟩
      obtain ⟨my, hmy⟩ : ∃ m, m = ys.length := ⟨_, rfl⟩
      simp only at r1 r2 r3 s1 s2 s3 hrx hry hlx hly
      rw [← hmx] at r3
      rw [← hmy] at s3
      have hS : ∀ W : World, (W.cell? ⟨w.heap.size, 1, none⟩ = some (.slice (some ad1) n c1) ∧ W.cell? ⟨w.heap.size + 1, 1, none⟩ = some (.slice (some ad2) n c2) ∧ W.cell? (ad1.add (k * 3)) = some (.int .i64 p1) ∧ W.cell? ⟨(ad1.add (k * 3)).block, (ad1.add (k * 3)).off + 1, none⟩ = some (.int .i64 p2) ∧ W.cell? ⟨(ad1.add (k * 3)).block, (ad1.add (k * 3)).off + 2, none⟩ = some (.slice Ax mx cx) ∧
          W.cell? (ad2.add (k * 3)) = some (.int .i64 q1) ∧ W.cell? ⟨(ad2.add (k * 3)).block, (ad2.add (k * 3)).off + 1, none⟩ = some (.int .i64 q2) ∧ W.cell? ⟨(ad2.add (k * 3)).block, (ad2.add (k * 3)).off + 2, none⟩ = some (.slice Ay my cy) ∧ Below wr.heap.size wr W) → Calls Try.prog 14 #[.agg #[.int .i64 p1, .int .i64 p2, .slice Ax mx cx], .agg #[.int .i64 q1, .int .i64 q2, .slice Ay my cy]] W fun e W' => e = .returned (.bool t) ∧ (W'.cell? ⟨w.heap.size, 1, none⟩ = some (.slice (some ad1) n c1) ∧ W'.cell? ⟨w.heap.size + 1, 1, none⟩ = some (.slice (some ad2) n c2) ∧ W'.cell? (ad1.add (k * 3)) = some (.int .i64 p1) ∧ W'.cell? ⟨(ad1.add (k * 3)).block, (ad1.add (k * 3)).off + 1, none⟩ = some (.int .i64 p2) ∧ W'.cell? ⟨(ad1.add (k * 3)).block, (ad1.add (k * 3)).off + 2, none⟩ = some (.slice Ax mx cx) ∧
          W'.cell? (ad2.add (k * 3)) = some (.int .i64 q1) ∧ W'.cell? ⟨(ad2.add (k * 3)).block, (ad2.add (k * 3)).off + 1, none⟩ = some (.int .i64 q2) ∧ W'.cell? ⟨(ad2.add (k * 3)).block, (ad2.add (k * 3)).off + 2, none⟩ = some (.slice Ay my cy) ∧ Below wr.heap.size wr W') := fun W h => by
        have hbW := h.2.2.2.2.2.2.2.2
        have hw := hb.size
        refine (samePk_any W (p := (p1, p2, xs)) (q := (q1, q2, ys)) hmx hmy (hrx.below (hbW.mono (by omega))) (hry.below (hbW.mono (by omega))) (by have := hbW.size; omega) (by have := hbW.size; omega) (by simp only; omega) (by simp only; omega)).mono ?_
        rintro e W' ⟨rfl, hb'⟩
        exact ⟨by rw [ht, hp, hq], keepc h.1 hb', keepc h.2.1 hb', keepc h.2.2.1 hb', keepc h.2.2.2.1 hb', keepc h.2.2.2.2.1 hb', keepc h.2.2.2.2.2.1 hb', keepc h.2.2.2.2.2.2.1 hb', keepc h.2.2.2.2.2.2.2.1 hb', hbW.trans (hb'.mono hbW.size)⟩
      have hD : ∀ W : World, (W.cell? ⟨w.heap.size, 1, none⟩ = some (.slice (some ad1) n c1) ∧ W.cell? ⟨w.heap.size + 1, 1, none⟩ = some (.slice (some ad2) n c2) ∧ W.cell? (ad1.add (k * 3)) = some (.int .i64 p1) ∧ W.cell? ⟨(ad1.add (k * 3)).block, (ad1.add (k * 3)).off + 1, none⟩ = some (.int .i64 p2) ∧ W.cell? ⟨(ad1.add (k * 3)).block, (ad1.add (k * 3)).off + 2, none⟩ = some (.slice Ax mx cx) ∧
          W.cell? (ad2.add (k * 3)) = some (.int .i64 q1) ∧ W.cell? ⟨(ad2.add (k * 3)).block, (ad2.add (k * 3)).off + 1, none⟩ = some (.int .i64 q2) ∧ W.cell? ⟨(ad2.add (k * 3)).block, (ad2.add (k * 3)).off + 2, none⟩ = some (.slice Ay my cy) ∧ Below wr.heap.size wr W) → (W.drew.cell? ⟨w.heap.size, 1, none⟩ = some (.slice (some ad1) n c1) ∧ W.drew.cell? ⟨w.heap.size + 1, 1, none⟩ = some (.slice (some ad2) n c2) ∧ W.drew.cell? (ad1.add (k * 3)) = some (.int .i64 p1) ∧ W.drew.cell? ⟨(ad1.add (k * 3)).block, (ad1.add (k * 3)).off + 1, none⟩ = some (.int .i64 p2) ∧ W.drew.cell? ⟨(ad1.add (k * 3)).block, (ad1.add (k * 3)).off + 2, none⟩ = some (.slice Ax mx cx) ∧
          W.drew.cell? (ad2.add (k * 3)) = some (.int .i64 q1) ∧ W.drew.cell? ⟨(ad2.add (k * 3)).block, (ad2.add (k * 3)).off + 1, none⟩ = some (.int .i64 q2) ∧ W.drew.cell? ⟨(ad2.add (k * 3)).block, (ad2.add (k * 3)).off + 2, none⟩ = some (.slice Ay my cy) ∧ Below wr.heap.size wr W.drew) := fun W h => ⟨h.1, h.2.1, h.2.2.1, h.2.2.2.1, h.2.2.2.2.1, h.2.2.2.2.2.1, h.2.2.2.2.2.2.1, h.2.2.2.2.2.2.2.1, below_drewN h.2.2.2.2.2.2.2.2 1⟩
      have HSM := Lib.hid hS
      have HD := Lib.hid hD
      have HP := Lib.hid hp
      have HQ := Lib.hid hq
      have HTT := Lib.hid ht
      have hbq : Below wr.heap.size wr wr := Below.refl _ _
      have hk0 : (0 : Int) ≤ k := by omega
      have hk1 : (k : Int) < n := by omega
      clear hS hD hp hq ht hmx hmy hlx hly hrx hry
      go_wp2_with fail
      go_region_held3 (fun W => (W.cell? ⟨w.heap.size, 1, none⟩ = some (.slice (some ad1) n c1) ∧ W.cell? ⟨w.heap.size + 1, 1, none⟩ = some (.slice (some ad2) n c2) ∧ W.cell? (ad1.add (k * 3)) = some (.int .i64 p1) ∧ W.cell? ⟨(ad1.add (k * 3)).block, (ad1.add (k * 3)).off + 1, none⟩ = some (.int .i64 p2) ∧ W.cell? ⟨(ad1.add (k * 3)).block, (ad1.add (k * 3)).off + 2, none⟩ = some (.slice Ax mx cx) ∧
          W.cell? (ad2.add (k * 3)) = some (.int .i64 q1) ∧ W.cell? ⟨(ad2.add (k * 3)).block, (ad2.add (k * 3)).off + 1, none⟩ = some (.int .i64 q2) ∧ W.cell? ⟨(ad2.add (k * 3)).block, (ad2.add (k * 3)).off + 2, none⟩ = some (.slice Ay my cy) ∧ Below wr.heap.size wr W))
        (first | assumption | (refine ⟨?_, ?_, ?_, ?_, ?_, ?_, ?_, ?_, ?_⟩ <;> assumption) | (apply HD.out; first | assumption | (refine ⟨?_, ?_, ?_, ?_, ?_, ?_, ?_, ?_, ?_⟩ <;> assumption)))
        (first | (go_at_call 14; refine (HSM.out _ ?_).mono ?_; (first | assumption | (refine ⟨?_, ?_, ?_, ?_, ?_, ?_, ?_, ?_, ?_⟩ <;> assumption)); rintro e wx ⟨rfl, i1, i2, i3, i4, i5, i6, i7, i8, i9⟩))
      have hbx : Below wr.heap.size wr wx := by assumption
      have hbw : Below w.heap.size w wx := hb.trans (hbx.mono hb.size)
      cases t
      · have HD2 := Lib.hid (show ¬ P = Q from fun h => by
          have := HTT.out
          rw [eq_comm, decide_eq_false_iff_not] at this
          exact this (by simp only [h]))
        go_wp2_with fail
        go_ret
        exact ⟨by simp [HD2.out], by first | exact hbw | exact below_drewN hbw 1⟩
      · have HT2 := Lib.hid (take_sameP P Q k g1 g2 HT.out (of_decide_eq_true HTT.out.symm))
        go_wp2_with fail
        go_roundw
        case rel => exact ⟨k + 1, by omega, by go_num, HT2, i1, i2, by first | exact hbw | exact below_drewN hbw 1⟩
        case measure => simp [intOf] <;> omega
    · have hkn : k = n := by omega
      have HD2 := Lib.hid (show P = Q from by
        have := HT.out
        rwa [List.take_of_length_le (by rw [hkn, HN1.out]; exact Nat.le_refl _), List.take_of_length_le (by rw [hkn, HN2.out]; exact Nat.le_refl _)] at this)
      go_wp2_with fail
      go_ret
      exact ⟨by simp [HD2.out], hb⟩
end Go.Proofs.Ytnmamfgebbcehaa.pk
