/- The walks of FrameScans, FrameAgain, FramePuts. -/
import Derived.Test.YtgnfodfbgkbnbaaFrame5
namespace Go.Proofs.Ytgnfodfbgkbnbaa.frameWalk
open Go.RowKit Go.Proofs.Ytgnfodfbgkbnbaa.hashPlain Go.Proofs.Ytgnfodfbgkbnbaa.framePlain Go.Proofs.Ytgnfodfbgkbnbaa.lib Go.Proofs.Ytgnfodfbgkbnbaa.byt Go.Proofs.Ytgnfodfbgkbnbaa.hashWalk

theorem told_short {bs : List UInt8} {R : List (List UInt8)} {k : Nat} (h : ToldB bs R k) (hs : bs.length ≤ 1099511627776) : Short R := by
  have hr := h.row
  have hl : (rowOf R).length ≤ 1099511627776 := by rw [hr.1, List.length_take]; omega
  clear h hr
  induction R with
  | nil => exact ⟨by simp, by simp⟩
  | cons r R ih =>
    rw [rowOf_cons, List.length_append, frameOf_length] at hl
    obtain ⟨i1, i2⟩ := ih (by omega)
    have hR : R.length ≤ (rowOf R).length := by
      clear ih i1 i2 hl
      induction R with
      | nil => simp
      | cons a R ih => rw [rowOf_cons, List.length_append, frameOf_length, List.length_cons]; omega
    refine ⟨by rw [List.length_cons]; omega, fun x hx => ?_⟩
    rcases List.mem_cons.1 hx with rfl | hx
    · omega
    · exact i2 x hx

set_option maxRecDepth 4000 in
set_option maxHeartbeats 2000000 in
theorem walk_FrameScans (w : World) {B : Nat} {A : Option Addr} {n c : Nat} {bs : List UInt8} (hn : n = bs.length) (hr : RdB w B A bs) (hB : B ≤ w.heap.size) (hnc : n ≤ c) :
    Calls Try.prog 8 #[.slice A n c] w fun e w' => e = .returned (.bool true) ∧ Below w.heap.size w w' := by
  have HN := Lib.hid hn
  clear hn
  go_enter Try.func8, Try.ntmps8
  go_wp2_with fail
  refine (awake4 w).mono ?_
  rintro e w1 ⟨rfl, hb1⟩
  by_cases h5 : 5000 < n
  · go_wp2_with fail
    refine (awake4 w1).mono ?_
    rintro e w2 ⟨rfl, hb2⟩
    go_wp2_with fail
    go_ret
    exact ⟨rfl, hb1.trans (hb2.mono hb1.size)⟩
  · have h5' : n ≤ 5000 := by omega
    clear h5
    have hs : bs.length ≤ 1099511627776 := by rw [← HN.out]; omega
    go_wp2_with fail
    refine (scan_any w1 HN.out (hr.below (hb1.mono hB)) (Nat.le_trans hB hb1.size) hnc hs).mono ?_
    rintro e w2 ⟨A2, c2, m2, k2, R2, rfl, hm2, ho2, ht2, hf2, hb2⟩
    have hb2' : Below w.heap.size w w2 := hb1.trans (hb2.mono hb1.size)
    have HM2 := Lib.hid hm2
    have HF2 := Lib.hid hf2
    clear hm2 hf2
    go_wp2_with fail
    refine (ref_scan_any w2 HN.out (hr.below (hb2'.mono hB)) (Nat.le_trans hB hb2'.size) hnc hs).mono ?_
    rintro e w3 ⟨A3, c3, m3, k3, R3, rfl, hm3, ho3, ht3, hf3, hb3⟩
    obtain ⟨rfl, rfl⟩ := ht2.unique ht3 HF2.out hf3
    have HM3 := Lib.hid hm3
    clear hm3 hf3 HF2
    have hr2 : RdBB w3 w2.heap.size A2 R2 := ho2.rd.below hb3
    go_wp2_with fail
    have hsh := told_short ht2 hs
    refine (sameAll_any w3 HM2.out HM3.out hr2 ho3.rd hsh hsh).mono ?_
    rintro e w4 ⟨rfl, nq, rfl⟩
    have ed : decide (R2 = R2) = true := decide_eq_true rfl
    rw [ed]
    go_wp2_with fail
    go_ret
    exact ⟨rfl, below_drewN (hb2'.trans (hb3.mono hb2'.size)) nq⟩

set_option maxRecDepth 4000 in
set_option maxHeartbeats 2000000 in
theorem walk_FramePuts (w : World) {B B2 : Nat} {A A2 : Option Addr} {n c n2 c2 : Nat} {bs rs : List UInt8} (hn : n = bs.length) (hr : RdB w B A bs) (hB : B ≤ w.heap.size)
    (hn2 : n2 = rs.length) (hr2 : RdB w B2 A2 rs) (hB2 : B2 ≤ w.heap.size) :
    Calls Try.prog 7 #[.slice A n c, .slice A2 n2 c2] w fun e w' => e = .returned (.bool true) ∧ Below w.heap.size w w' := by
  have HN := Lib.hid hn
  have HN2 := Lib.hid hn2
  clear hn hn2
  go_enter Try.func7, Try.ntmps7
  go_wp2_with fail
  refine (awake4 w).mono ?_
  rintro e w1 ⟨rfl, hb1⟩
  by_cases h5 : 3000 < n
  · go_wp2_with fail
    refine (awake4 w1).mono ?_
    rintro e w2 ⟨rfl, hb2⟩
    go_wp2_with fail
    go_ret
    exact ⟨rfl, hb1.trans (hb2.mono hb1.size)⟩
  by_cases h6 : 3000 < n2
  · go_wp2_with fail
    refine (awake4 w1).mono ?_
    rintro e w2 ⟨rfl, hb2⟩
    go_wp2_with fail
    go_ret
    exact ⟨rfl, hb1.trans (hb2.mono hb1.size)⟩
  have h5' : n ≤ 3000 := by omega
  have h6' : n2 ≤ 3000 := by omega
  clear h5 h6
  obtain ⟨A3, c3, w3, hrun, ho3, hu3⟩ := append_bytes (w1.alloc (.cells #[] 5)) w1.heap.size (n := 0) (c := 0) rfl (ownB_made w1 w1.heap.size (Nat.le_refl _)) HN.out (c2 := c) ((hr.below (hb1.mono hB)).alloc (Nat.le_trans hB hb1.size) _) (by rw [← HN.out]; simp; omega) (by simp)
  simp only [List.nil_append] at hrun ho3
  rw [← HN.out] at hrun
  have hb3 : Below w1.heap.size w1 w3 := ((Below.refl _ _).alloc (Nat.le_refl _) _).trans ((hu3.below (fun ad e => by injection e with e; subst e; exact Nat.le_refl _) (by simp)))
  have hb3' : Below w.heap.size w w3 := hb1.trans (hb3.mono hb1.size)
  clear hu3
  go_wp2_with (at_builtin; refine wpList_append_run rfl rfl rfl rfl hrun ?_; clear hrun)
  refine (put_any w3 w1.heap.size HN.out ho3 hb3.size HN2.out (hr2.below (hb3'.mono hB2)) (Nat.le_trans hB2 hb3'.size) (by rw [← HN.out]; omega) (by rw [← HN2.out]; omega)).mono ?_
  rintro e w4 ⟨A4, c4, n4, rfl, hn4, ho4, hu4⟩
  have hb4 : Below w1.heap.size w3 w4 := hu4.below_own ho3 hb3.size
  have hb4' : Below w.heap.size w w4 := hb3'.trans (hb4.mono hb1.size)
  have l4 : (bs ++ frameOf rs).length = n + (12 + n2) := by rw [List.length_append, frameOf_length, ← HN.out, ← HN2.out]
  have HN4 := Lib.hid hn4
  have L4 := Lib.hid l4
  clear hn4 hu4 ho3 l4
  obtain ⟨A5, c5, w5, hrun, ho5, hu5⟩ := append_bytes (w4.alloc (.cells #[] 5)) w4.heap.size (n := 0) (c := 0) rfl (ownB_made w4 w4.heap.size (Nat.le_refl _)) HN.out (c2 := c) ((hr.below (hb4'.mono hB)).alloc (Nat.le_trans hB hb4'.size) _) (by rw [← HN.out]; simp; omega) (by simp)
  simp only [List.nil_append] at hrun ho5
  rw [← HN.out] at hrun
  have hb5 : Below w4.heap.size w4 w5 := ((Below.refl _ _).alloc (Nat.le_refl _) _).trans ((hu5.below (fun ad e => by injection e with e; subst e; exact Nat.le_refl _) (by simp)))
  have hb5' : Below w.heap.size w w5 := hb4'.trans (hb5.mono hb4'.size)
  have hr4 : RdB w5 w4.heap.size A4 (bs ++ frameOf rs) := ho4.rd.below hb5
  clear hu5 ho4
  go_wp2_with (at_builtin; refine wpList_append_run rfl rfl rfl rfl hrun ?_; clear hrun)
  refine (ref_frame_any w5 HN2.out (hr2.below (hb5'.mono hB2)) (Nat.le_trans hB2 hb5'.size) (by rw [← HN2.out]; omega)).mono ?_
  rintro e w6 ⟨A6, c6, n6, rfl, hn6, ho6, hb6⟩
  have hb6' : Below w.heap.size w w6 := hb5'.trans (hb6.mono hb5'.size)
  obtain ⟨A7, c7, w7, hrun, ho7, hu7⟩ := append_bytes w6 w4.heap.size HN.out (own_below ho5 hb6 (Nat.le_refl _)) hn6 (c2 := c6) ho6.rd (by rw [← List.length_append, L4.out]; omega) (Nat.le_trans hb5.size hb6.size)
  have hb7 : Below w4.heap.size w6 w7 := hu7.below_own (own_below ho5 hb6 (Nat.le_refl _)) (Nat.le_trans hb5.size hb6.size)
  have hb7' : Below w.heap.size w w7 := hb6'.trans (hb7.mono hb4'.size)
  have hr7 : RdB w7 w4.heap.size A4 (bs ++ frameOf rs) := (hr4.below (hb6.mono hb5.size)).below hb7
  rw [L4.out] at hrun
  have hn7 : n + (12 + n2) = (bs ++ frameOf rs).length := L4.out.symm
  have HN7 := Lib.hid hn7
  clear hn7 hn6 hu7 ho5 ho6
  go_wp2_with (at_builtin; refine wpList_append_run rfl rfl rfl rfl hrun ?_; clear hrun)
  refine (same_any w7 HN4.out HN7.out hr7 ho7.rd (by rw [L4.out]; omega) (by rw [L4.out]; omega)).mono ?_
  rintro e w8 ⟨rfl, nq, rfl⟩
  have ed : decide (bs ++ frameOf rs = bs ++ frameOf rs) = true := decide_eq_true rfl
  rw [ed]
  go_wp2_with fail
  go_ret
  exact ⟨rfl, below_drewN hb7' nq⟩
end Go.Proofs.Ytgnfodfbgkbnbaa.frameWalk
