/- The law NetTakes. -/
import Derived.Test.YtnmamfgebbcehaaNet22
import Derived.Deep.RegionHeld3
namespace Go.Proofs.Ytnmamfgebbcehaa.pk
open Go.RowKit Go.Proofs.Ytnmamfgebbcehaa.lib Go.Proofs.Ytnmamfgebbcehaa.byt
set_option linter.unusedVariables false

theorem drop_short {P : List Pk} (h : ShortP P) (k : Nat) : ShortP (P.drop k) := by
  refine ⟨by rw [List.length_drop]; have := h.1; omega, fun j hj => ?_⟩
  rw [List.getElem_drop]
  exact h.2 _ _
theorem tkP_drop (P : List Pk) (k : Nat) (h : k < P.length) : tkP (P.drop k) 0 = P[k] := by
  unfold tkP
  rw [Nat.zero_mod, List.getD_eq_getElem?_getD, List.getElem?_drop, Nat.add_zero, List.getElem?_eq_getElem h]
  rfl
theorem tkL_drop (P : List Pk) (k : Nat) : tkL (P.drop k) 0 = P.drop (k + 1) := by
  unfold tkL
  rw [Nat.zero_mod, List.eraseIdx_zero, List.tail_drop]

set_option maxRecDepth 8000 in
set_option maxHeartbeats 8000000 in
theorem law_NetTakes (w : World) (x : NetA) (hx : FactN w x) :
    Calls Try.prog 4 #[netV x] w fun e w' => e = .returned (.bool true) ∧ Below w.heap.size w w' := by
  obtain ⟨next, A, n, c, P⟩ := x
  obtain ⟨hI, hn, hr⟩ := hx
  unfold netV
  simp only at hI hn hr ⊢
  have HN := Lib.hid hn
  have HI := Lib.hid hI
  have hbA : Below w.heap.size w (w.alloc (.cells #[.int .i64 next, .slice A n c] 24)) := (Below.refl _ _).alloc (Nat.le_refl _) _
  have x1 : (w.alloc (.cells #[.int .i64 next, .slice A n c] 24)).cell? ⟨w.heap.size, 0, none⟩ = some (.int .i64 next) := by simp
  have x2 : (w.alloc (.cells #[.int .i64 next, .slice A n c] 24)).cell? ⟨w.heap.size, 1, none⟩ = some (.slice A n c) := by simp
  clear hn hI
  go_enter Try.func4, Try.ntmps4
  go_wp2_with fail
  generalize (w.alloc (.cells #[.int .i64 next, .slice A n c] 24)) = V at hbA x1 x2 ⊢
  refine (awake11 V).mono ?_
  rintro e w1 ⟨rfl, hb1⟩
  replace x1 := keepc x1 hb1
  replace x2 := keepc x2 hb1
  have hbw1 : Below w.heap.size w w1 := hbA.trans (hb1.mono hbA.size)
  clear hb1 hbA
  go_wp2_with fail
  refine (right_any w1 next HN.out (hr.below hbw1) hbw1.size HI.out).mono ?_
  rintro e w2 ⟨⟨t, rfl, ht⟩, hb2⟩
  replace x1 := keepc x1 hb2
  replace x2 := keepc x2 hb2
  have hbw2 : Below w.heap.size w w2 := hbw1.trans (hb2.mono hbw1.size)
  have hs2 : w.heap.size < w2.heap.size := World.block_lt_of_cell? w2 _ x1
  clear hb2 hbw1
  cases t
  · clear ht
    (go_wp2_with fail; refine (awake11 _).mono ?_; rintro e wz ⟨rfl, hbz⟩; go_wp2_with fail; go_ret; exact ⟨rfl, hbw2.trans (hbz.mono hbw2.size)⟩)
  have hR := ht rfl
  have HS := Lib.hid hR.short
  have hn60 : n ≤ 60 := by have := hR.2.2.1; have := HN.out; omega
  clear ht hR
  have hbU : Below w2.heap.size w2 (w2.alloc (.cells #[.int .i64 next, .slice A n c] 24)) := (Below.refl _ _).alloc (Nat.le_refl _) _
  have ka1 := keepc x1 hbU
  have ka2 := keepc x2 hbU
  have y1 : (w2.alloc (.cells #[.int .i64 next, .slice A n c] 24)).cell? ⟨w2.heap.size, 0, none⟩ = some (.int .i64 next) := by simp
  have y2 : (w2.alloc (.cells #[.int .i64 next, .slice A n c] 24)).cell? ⟨w2.heap.size, 1, none⟩ = some (.slice A n c) := by simp
  have fz : ∀ j, (w2.alloc (.cells #[.int .i64 next, .slice A n c] 24)).frozen? ⟨w2.heap.size, j, none⟩ = false := fun j => by simp
  have hsU : w2.heap.size < (w2.alloc (.cells #[.int .i64 next, .slice A n c] 24)).heap.size := by simp
  have hbwU : Below w.heap.size w (w2.alloc (.cells #[.int .i64 next, .slice A n c] 24)) := hbw2.trans (hbU.mono hbw2.size)
  have HR0 := Lib.hid (show RdP (w2.alloc (.cells #[.int .i64 next, .slice A n c] 24)) (w2.alloc (.cells #[.int .i64 next, .slice A n c] 24)).heap.size A (P.drop 0) from (hr.below hbwU).more hbwU.size)
  clear hbU hbw2
  go_wp2_with fail
  generalize (w2.alloc (.cells #[.int .i64 next, .slice A n c] 24)) = U at ka1 ka2 y1 y2 fz hsU hbwU HR0 ⊢
  clear x1 x2
  go_loopw [4] (fun vi wr => ∃ (k : Nat) (m1 : Nat) (A1 : Option Addr) (c1 : Nat), k ≤ n ∧ vi = .int .i64 k ∧ Hid (m1 = n - k) ∧ Hid (RdP wr wr.heap.size A1 (P.drop k)) ∧ wr.cell? ⟨w.heap.size, 0, none⟩ = some (.int .i64 next) ∧ wr.cell? ⟨w.heap.size, 1, none⟩ = some (.slice A n c) ∧ wr.cell? ⟨w2.heap.size, 0, none⟩ = some (.int .i64 next) ∧ wr.cell? ⟨w2.heap.size, 1, none⟩ = some (.slice A1 m1 c1) ∧ (∀ j, wr.frozen? ⟨w2.heap.size, j, none⟩ = false) ∧ w2.heap.size < wr.heap.size ∧ Below w.heap.size w wr) (fun vi _ => n - (intOf vi).toNat)
  case atStart => exact ⟨0, n, A, c, Nat.zero_le _, rfl, Lib.hid rfl, HR0, ka1, ka2, y1, y2, fz, hsU, hbwU⟩
  case round =>
    clear HR0 ka1 ka2 y1 y2 fz hsU hbwU
    obtain ⟨k, m1, A1, c1, hk, rfl, HM1, HR1, x1, x2, y1, y2, fz, hsw, hb⟩ := hrel
    have hlen : m1 = (P.drop k).length := by rw [List.length_drop, ← HN.out, HM1.out]
    have HLEN := Lib.hid hlen
    clear hlen
    by_cases hlt : k < n
    · have h1 : k < P.length := by rw [← HN.out]; exact hlt
      obtain ⟨p1, p2, bs, hp⟩ : ∃ a b d, P[k] = (a, b, d) := ⟨_, _, _, rfl⟩
      have hpd : tkP (P.drop k) 0 = (p1, p2, bs) := by rw [tkP_drop P k h1, hp]
      have hT := take_any wr (c := c1) next 0 HLEN.out HR1.out (Nat.le_refl _) (drop_short HS.out k) true (by rw [← HLEN.out, HM1.out]; exact (decide_eq_true (by omega)).symm)
      rw [hpd, tkL_drop] at hT
      have HT := Lib.hid hT
      have HP := Lib.hid hp
      clear hT hpd hp
      go_wp2_with fail
      refine HT.out.mono ?_
      rintro e w5 ⟨A5, n5, c5, Ab, m, cb, rfl, hm, hn5, hE, ho, hb5⟩
      obtain ⟨Ai, ci, e1, hrb, -⟩ := hE
      injection e1 with e1 e3 e2
      subst e1 e2
      clear e3
      replace hm : m = bs.length := hm
      replace hrb : RdB w5 w5.heap.size Ab bs := hrb
      have hs5 := hb5.size
      have hbW : Below w5.heap.size w5 ((w5.alloc (.cells #[.int .i64 p1, .int .i64 p2, .slice Ab m cb] 29)).alloc (.cells #[.int .i64 next, .slice A5 n5 c5] 24)) := ((Below.refl _ _).alloc (Nat.le_refl _) _).alloc (by rw [World.size_alloc]; omega) _
      have hb5W : Below wr.heap.size wr ((w5.alloc (.cells #[.int .i64 p1, .int .i64 p2, .slice Ab m cb] 29)).alloc (.cells #[.int .i64 next, .slice A5 n5 c5] 24)) := hb5.trans (hbW.mono hb5.size)
      replace x1 := keepc x1 hb5W
      replace x2 := keepc x2 hb5W
      replace y1 := keepc y1 hb5W
      replace y2 := keepc y2 hb5W
      replace fz : ∀ j, ((w5.alloc (.cells #[.int .i64 p1, .int .i64 p2, .slice Ab m cb] 29)).alloc (.cells #[.int .i64 next, .slice A5 n5 c5] 24)).frozen? ⟨w2.heap.size, j, none⟩ = false := fun j => by rw [hb5W.frozen (by simp only; omega)]; exact fz j
      have v1 : ((w5.alloc (.cells #[.int .i64 p1, .int .i64 p2, .slice Ab m cb] 29)).alloc (.cells #[.int .i64 next, .slice A5 n5 c5] 24)).cell? ⟨w5.heap.size, 0, none⟩ = some (.int .i64 p1) := by simp
      have v2 : ((w5.alloc (.cells #[.int .i64 p1, .int .i64 p2, .slice Ab m cb] 29)).alloc (.cells #[.int .i64 next, .slice A5 n5 c5] 24)).cell? ⟨w5.heap.size, 1, none⟩ = some (.int .i64 p2) := by simp
      have v3 : ((w5.alloc (.cells #[.int .i64 p1, .int .i64 p2, .slice Ab m cb] 29)).alloc (.cells #[.int .i64 next, .slice A5 n5 c5] 24)).cell? ⟨w5.heap.size, 2, none⟩ = some (.slice Ab m cb) := by simp
      have v4 : ((w5.alloc (.cells #[.int .i64 p1, .int .i64 p2, .slice Ab m cb] 29)).alloc (.cells #[.int .i64 next, .slice A5 n5 c5] 24)).cell? ⟨w5.heap.size + 1, 0, none⟩ = some (.int .i64 next) := by simp
      have v5 : ((w5.alloc (.cells #[.int .i64 p1, .int .i64 p2, .slice Ab m cb] 29)).alloc (.cells #[.int .i64 next, .slice A5 n5 c5] 24)).cell? ⟨w5.heap.size + 1, 1, none⟩ = some (.slice A5 n5 c5) := by simp
      have hbw : Below w.heap.size w ((w5.alloc (.cells #[.int .i64 p1, .int .i64 p2, .slice Ab m cb] 29)).alloc (.cells #[.int .i64 next, .slice A5 n5 c5] 24)) := hb.trans (hb5W.mono hb.size)
      obtain ⟨ad, An, cn, eA, -, r1, r2, r3, hrn⟩ := RdP.at_ (hr.below hbw) h1
      subst eA
      rw [HP.out] at r1 r2 r3 hrn
      simp only at r1 r2 r3 hrn
      rw [← hm] at r3
      have hbs : bs.length ≤ 1099511627770 := by have := HS.out.2 k h1; rw [HP.out] at this; exact this
      have HO := Lib.hid (ho.below hbW (Nat.le_refl _))
      have hrbW := (hrb.below hbW).more hbW.size
      have HN5 := Lib.hid hn5
      have HM := Lib.hid hm
      have hsW : w5.heap.size + 2 ≤ ((w5.alloc (.cells #[.int .i64 p1, .int .i64 p2, .slice Ab m cb] 29)).alloc (.cells #[.int .i64 next, .slice A5 n5 c5] 24)).heap.size := by simp
      clear ho hrb hn5 hm hbW hb5W
      go_wp2_with fail
      generalize ((w5.alloc (.cells #[.int .i64 p1, .int .i64 p2, .slice Ab m cb] 29)).alloc (.cells #[.int .i64 next, .slice A5 n5 c5] 24)) = W at x1 x2 y1 y2 fz v1 v2 v3 v4 v5 hbw r1 r2 r3 hrn HO hrbW hsW ⊢
      have hC : ∀ X : World, (X.cell? ⟨w.heap.size, 1, none⟩ = some (.slice (some ad) n c) ∧ X.cell? ⟨w5.heap.size, 0, none⟩ = some (.int .i64 p1) ∧ X.cell? ⟨w5.heap.size, 1, none⟩ = some (.int .i64 p2) ∧ X.cell? ⟨w5.heap.size, 2, none⟩ = some (.slice Ab m cb) ∧ X.cell? (ad.add (k * 3)) = some (.int .i64 p1) ∧ X.cell? ⟨(ad.add (k * 3)).block, (ad.add (k * 3)).off + 1, none⟩ = some (.int .i64 p2) ∧ X.cell? ⟨(ad.add (k * 3)).block, (ad.add (k * 3)).off + 2, none⟩ = some (.slice An m cn) ∧ Below W.heap.size W X) → Calls Try.prog 14 #[.agg #[.int .i64 p1, .int .i64 p2, .slice Ab m cb], .agg #[.int .i64 p1, .int .i64 p2, .slice An m cn]] X fun e X' => e = .returned (.bool true) ∧ (X'.cell? ⟨w.heap.size, 1, none⟩ = some (.slice (some ad) n c) ∧ X'.cell? ⟨w5.heap.size, 0, none⟩ = some (.int .i64 p1) ∧ X'.cell? ⟨w5.heap.size, 1, none⟩ = some (.int .i64 p2) ∧ X'.cell? ⟨w5.heap.size, 2, none⟩ = some (.slice Ab m cb) ∧ X'.cell? (ad.add (k * 3)) = some (.int .i64 p1) ∧ X'.cell? ⟨(ad.add (k * 3)).block, (ad.add (k * 3)).off + 1, none⟩ = some (.int .i64 p2) ∧ X'.cell? ⟨(ad.add (k * 3)).block, (ad.add (k * 3)).off + 2, none⟩ = some (.slice An m cn) ∧ Below W.heap.size W X') := fun X h => by
        have hbX := h.2.2.2.2.2.2.2
        refine (samePk_any X (p := (p1, p2, bs)) (q := (p1, p2, bs)) HM.out HM.out (hrbW.below hbX) (hrn.below (hbX.mono hbw.size)) hbX.size (Nat.le_trans hbw.size hbX.size) (by simp only; omega) (by simp only; omega)).mono ?_
        rintro e X' ⟨rfl, hb'⟩
        exact ⟨by rw [decide_eq_true rfl], keepc h.1 hb', keepc h.2.1 hb', keepc h.2.2.1 hb', keepc h.2.2.2.1 hb', keepc h.2.2.2.2.1 hb', keepc h.2.2.2.2.2.1 hb', keepc h.2.2.2.2.2.2.1 hb', hbX.trans (hb'.mono hbX.size)⟩
      have hD : ∀ X : World, (X.cell? ⟨w.heap.size, 1, none⟩ = some (.slice (some ad) n c) ∧ X.cell? ⟨w5.heap.size, 0, none⟩ = some (.int .i64 p1) ∧ X.cell? ⟨w5.heap.size, 1, none⟩ = some (.int .i64 p2) ∧ X.cell? ⟨w5.heap.size, 2, none⟩ = some (.slice Ab m cb) ∧ X.cell? (ad.add (k * 3)) = some (.int .i64 p1) ∧ X.cell? ⟨(ad.add (k * 3)).block, (ad.add (k * 3)).off + 1, none⟩ = some (.int .i64 p2) ∧ X.cell? ⟨(ad.add (k * 3)).block, (ad.add (k * 3)).off + 2, none⟩ = some (.slice An m cn) ∧ Below W.heap.size W X) → (X.drew.cell? ⟨w.heap.size, 1, none⟩ = some (.slice (some ad) n c) ∧ X.drew.cell? ⟨w5.heap.size, 0, none⟩ = some (.int .i64 p1) ∧ X.drew.cell? ⟨w5.heap.size, 1, none⟩ = some (.int .i64 p2) ∧ X.drew.cell? ⟨w5.heap.size, 2, none⟩ = some (.slice Ab m cb) ∧ X.drew.cell? (ad.add (k * 3)) = some (.int .i64 p1) ∧ X.drew.cell? ⟨(ad.add (k * 3)).block, (ad.add (k * 3)).off + 1, none⟩ = some (.int .i64 p2) ∧ X.drew.cell? ⟨(ad.add (k * 3)).block, (ad.add (k * 3)).off + 2, none⟩ = some (.slice An m cn) ∧ Below W.heap.size W X.drew) := fun X h => ⟨h.1, h.2.1, h.2.2.1, h.2.2.2.1, h.2.2.2.2.1, h.2.2.2.2.2.1, h.2.2.2.2.2.2.1, below_drew h.2.2.2.2.2.2.2⟩
      have HC := Lib.hid hC
      have HD := Lib.hid hD
      have hbq : Below W.heap.size W W := Below.refl _ _
      have hk0 : (0 : Int) ≤ k := by omega
      have hk1 : (k : Int) < n := by omega
      clear hC hD hrn hrbW
      go_region_held3 (fun X => (X.cell? ⟨w.heap.size, 1, none⟩ = some (.slice (some ad) n c) ∧ X.cell? ⟨w5.heap.size, 0, none⟩ = some (.int .i64 p1) ∧ X.cell? ⟨w5.heap.size, 1, none⟩ = some (.int .i64 p2) ∧ X.cell? ⟨w5.heap.size, 2, none⟩ = some (.slice Ab m cb) ∧ X.cell? (ad.add (k * 3)) = some (.int .i64 p1) ∧ X.cell? ⟨(ad.add (k * 3)).block, (ad.add (k * 3)).off + 1, none⟩ = some (.int .i64 p2) ∧ X.cell? ⟨(ad.add (k * 3)).block, (ad.add (k * 3)).off + 2, none⟩ = some (.slice An m cn) ∧ Below W.heap.size W X))
        (first | (first | (with_reducible assumption) | (with_reducible (refine ⟨?_, ?_, ?_, ?_, ?_, ?_, ?_, ?_⟩ <;> assumption))) | ((with_reducible apply HD.out); (first | (with_reducible assumption) | (with_reducible (refine ⟨?_, ?_, ?_, ?_, ?_, ?_, ?_, ?_⟩ <;> assumption)))))
        (first | (go_at_call 14; refine (HC.out _ ?_).mono ?_; (first | (with_reducible assumption) | (with_reducible (refine ⟨?_, ?_, ?_, ?_, ?_, ?_, ?_, ?_⟩ <;> assumption))); rintro e wx ⟨rfl, i1, i2, i3, i4, i5, i6, i7, hbx⟩))
      all_goals
        have hbx : Below W.heap.size W wx := by assumption
        have z4 := keepc v4 hbx
        have z5 := keepc v5 hbx
        have z1 := keepc x1 hbx
        have t1 := keepc y1 hbx
        have t2 := keepc y2 hbx
        have tf : ∀ j, wx.frozen? ⟨w2.heap.size, j, none⟩ = false := fun j => by rw [hbx.frozen (by simp only; omega)]; exact fz j
        have HO2 := Lib.hid (((HO.out.below hbx (Nat.le_refl _)).low (p := ⟨w2.heap.size, 0, none⟩) (by simp only; omega) (.int .i64 next)).low (p := ⟨w2.heap.size, 1, none⟩) (by simp only; omega) (.slice A5 n5 c5))
        have hbwx := hbw.trans (hbx.mono hbw.size)
        have hsx := hbx.size
        have hne : ∀ (b j l : Nat) (v u : Value) (X : World), b ≠ w2.heap.size → X.cell? ⟨b, j, none⟩ = some v → (X.setCell ⟨w2.heap.size, l, none⟩ u).cell? ⟨b, j, none⟩ = some v := fun b j l v u X h e => (World.cell?_setCell_other X _ _ _ (fun e2 => h (by injection e2 with e3; exact e3.symm))).trans e
        have n1 : ((wx.setCell ⟨w2.heap.size, 0, none⟩ (.int .i64 next)).setCell ⟨w2.heap.size, 1, none⟩ (.slice A5 n5 c5)).cell? ⟨w.heap.size, 0, none⟩ = some (.int .i64 next) := hne _ _ _ _ _ _ (by omega) (hne _ _ _ _ _ _ (by omega) z1)
        have n2 : ((wx.setCell ⟨w2.heap.size, 0, none⟩ (.int .i64 next)).setCell ⟨w2.heap.size, 1, none⟩ (.slice A5 n5 c5)).cell? ⟨w.heap.size, 1, none⟩ = some (.slice (some ad) n c) := hne _ _ _ _ _ _ (by omega) (hne _ _ _ _ _ _ (by omega) i1)
        have n3 : ((wx.setCell ⟨w2.heap.size, 0, none⟩ (.int .i64 next)).setCell ⟨w2.heap.size, 1, none⟩ (.slice A5 n5 c5)).cell? ⟨w2.heap.size, 0, none⟩ = some (.int .i64 next) := by rw [World.cell?_setCell_other _ _ _ _ (by simp)]; exact World.cell?_setCell_same _ _ _ t1
        have n4 : ((wx.setCell ⟨w2.heap.size, 0, none⟩ (.int .i64 next)).setCell ⟨w2.heap.size, 1, none⟩ (.slice A5 n5 c5)).cell? ⟨w2.heap.size, 1, none⟩ = some (.slice A5 n5 c5) := World.cell?_setCell_same _ _ _ (by rw [World.cell?_setCell_other _ _ _ _ (by simp)]; exact t2)
        have nf : ∀ j, ((wx.setCell ⟨w2.heap.size, 0, none⟩ (.int .i64 next)).setCell ⟨w2.heap.size, 1, none⟩ (.slice A5 n5 c5)).frozen? ⟨w2.heap.size, j, none⟩ = false := fun j => by simpa using tf j
        have ns : w2.heap.size < ((wx.setCell ⟨w2.heap.size, 0, none⟩ (.int .i64 next)).setCell ⟨w2.heap.size, 1, none⟩ (.slice A5 n5 c5)).heap.size := by simp; omega
        have nb : Below w.heap.size w ((wx.setCell ⟨w2.heap.size, 0, none⟩ (.int .i64 next)).setCell ⟨w2.heap.size, 1, none⟩ (.slice A5 n5 c5)) := (hbwx.setCell (by simp only; omega) _).setCell (by simp only; omega) _
        have HRX := Lib.hid (show RdP ((wx.setCell ⟨w2.heap.size, 0, none⟩ (.int .i64 next)).setCell ⟨w2.heap.size, 1, none⟩ (.slice A5 n5 c5)) ((wx.setCell ⟨w2.heap.size, 0, none⟩ (.int .i64 next)).setCell ⟨w2.heap.size, 1, none⟩ (.slice A5 n5 c5)).heap.size A5 (P.drop (k + 1)) from HO2.out.rd)
        have HNK := Lib.hid (show n5 = n - (k + 1) from by rw [HN5.out, List.length_drop, ← HN.out])
        clear hne
        clear HC HD x1 x2 y1 y2 fz v1 v2 v3 v4 v5 r1 r2 r3 i2 i3 i4 i5 i6 i7 HO hbq hbx
        go_wp2_with fail
        go_roundw
        case rel =>
          refine ⟨k + 1, n5, A5, c5, hlt, by go_num, HNK, HRX, n1, n2, n3, n4, nf, ns, ?_⟩
          first | exact nb | exact below_drew nb
        case measure => simp [intOf] <;> omega
    · obtain rfl : m1 = 0 := by rw [HM1.out]; omega
      have hPd : P.drop k = [] := List.drop_of_length_le (by rw [← HN.out]; omega)
      rw [hPd] at HR1
      have HT := Lib.hid (take_any wr (A := A1) (n := 0) (c := c1) (P := []) next 0 rfl HR1.out (Nat.le_refl _) ⟨by simp, fun i h => absurd h (by simp)⟩ false rfl)
      clear HR1 HLEN HM1 hPd
      go_wp2_with fail
      refine HT.out.mono ?_
      rintro e w5 ⟨A5, n5, c5, Ab, m, cb, rfl, hm, hn5, -, -, hb5⟩
      obtain rfl : n5 = 0 := hn5
      have z1 := keepc x1 hb5
      have z2 := keepc x2 hb5
      have hb5w := hb.trans (hb5.mono hb.size)
      have z1a : ∀ o o', ((w5.alloc o).alloc o').cell? ⟨w.heap.size, 0, none⟩ = some (.int .i64 next) := fun o o' => Go.Lib.cell?_alloc_marked o' (Go.Lib.cell?_alloc_marked o z1)
      clear HT x1 x2 y1 y2 fz hm hb5
      go_wp2_with fail
      go_ret
      exact ⟨rfl, (hb5w.alloc hb5w.size _).alloc (by rw [World.size_alloc]; have := hb5w.size; omega) _⟩
end Go.Proofs.Ytnmamfgebbcehaa.pk
