/- The walk of FrameAgain: the row of what is told is the bytes up to the place told. -/
import Derived.Test.YtgnfodfbgkbnbaaFrame7
import Derived.Deep.RegionHeld3
namespace Go.Proofs.Ytgnfodfbgkbnbaa.frameWalk
open Go.RowKit Go.Proofs.Ytgnfodfbgkbnbaa.hashPlain Go.Proofs.Ytgnfodfbgkbnbaa.framePlain Go.Proofs.Ytgnfodfbgkbnbaa.lib Go.Proofs.Ytgnfodfbgkbnbaa.byt Go.Proofs.Ytgnfodfbgkbnbaa.hashWalk

set_option maxRecDepth 4000 in
set_option maxHeartbeats 1000000 in
theorem walk_FrameAgain (w : World) {B : Nat} {A : Option Addr} {n c : Nat} {bs : List UInt8} (hn : n = bs.length) (hr : RdB w B A bs) (hB : B ≤ w.heap.size) (hnc : n ≤ c) :
    Calls Try.prog 10 #[.slice A n c] w fun e w' => e = .returned (.bool true) ∧ Below w.heap.size w w' := by
  have HN := Lib.hid hn
  clear hn
  go_enter Try.func10, Try.ntmps10
  go_wp2_with fail
  refine (awake4 w).mono ?_
  rintro e w1 ⟨rfl, hb1⟩
  by_cases h5 : 5000 < n
  · go_wp2_with fail
    refine (awake4 w1).mono ?_
    rintro e w2 ⟨rfl, hb2⟩
    go_wp2_with fail
    go_ret
    exact ⟨rfl, hb1.trans (hb2.mono hb1.size)⟩
  · have h5' : n ≤ 5000 := by omega
    clear h5
    have hs : bs.length ≤ 1099511627776 := by rw [← HN.out]; omega
    go_wp2_with fail
    refine (scan_any w1 HN.out (hr.below (hb1.mono hB)) (Nat.le_trans hB hb1.size) hnc hs).mono ?_
    rintro e w2 ⟨A2, c2, m2, k2, R2, rfl, hm2, ho2, ht2, hf2, hb2⟩
    have hb2' : Below w.heap.size w w2 := hb1.trans (hb2.mono hb1.size)
    have hrow := ht2.row
    have hk2 : k2 ≤ n := by rw [HN.out]; exact hrow.2
    have lk : (bs.take k2).length = k2 := by rw [List.length_take, ← HN.out]; omega
    have hrl : (rowOf R2).length ≤ 68719476736 := by rw [hrow.1, lk]; omega
    have hrt := rd_take (hr.below (hb2'.mono hB)) hrow.2
    have hk2c : (k2 : Int) ≤ c := by omega
    have lR : (rowOf R2).length = k2 := by rw [hrow.1, lk]
    have hF : ∀ W : World, Below w2.heap.size w2 W → Calls Try.prog 26 #[.slice A2 m2 c2] W fun e w' => ∃ A' c', e = .returned (.slice A' k2 c') ∧ RdB w' w'.heap.size A' (rowOf R2) ∧ Below w2.heap.size w2 w' := fun W hW =>
      (row_all W (c := c2) hm2 (ho2.rd.below hW) hW.size hrl).mono fun e w' ⟨A', c', n', h1, h2, h3, h4⟩ => ⟨A', c', by rw [h1, h2, lR], h3.rd, hW.trans (h4.mono hW.size)⟩
    have hS : ∀ (wx : World) (A4 : Option Addr) (c4 : Nat), Below w2.heap.size w2 wx → RdB wx wx.heap.size A4 (rowOf R2) →
        Calls Try.prog 19 #[.slice A4 k2 c4, .slice A k2 c] wx fun e w' => e = .returned (.bool true) ∧ Below w2.heap.size w2 w' :=
      fun wx A4 c4 hbx ho4 => by
        have := same_any wx (c1 := c4) (c2 := c) lR.symm lk.symm ho4 (hrt.below (hbx.mono (Nat.le_trans hB hb2'.size))) (by omega) (by omega)
        rw [show decide (rowOf R2 = bs.take k2) = true from decide_eq_true hrow.1] at this
        exact this.mono fun e w' ⟨h1, nq, h2⟩ => ⟨h1, by rw [h2]; exact below_drewN hbx nq⟩
    have hbq : Below w2.heap.size w2 w2 := Below.refl _ _
    have hbd : ∀ W : World, Below w2.heap.size w2 W → Below w2.heap.size w2 W.drew := fun W h => below_drewN h 1
    have HF := Lib.hid hF
    have HS := Lib.hid hS
    have HBD := Lib.hid hbd
    have hk2i : (k2 : Int) ≤ n := by omega
    have hk0 : (0 : Int) ≤ k2 := by omega
    clear hF hS hbd hrl lk lR hrt hrow hf2 ht2 hm2 hs ho2
    go_wp2_with fail
    go_region_held3 (fun w' => Below w2.heap.size w2 w') (first | assumption | (apply HBD.out; assumption))
      (first | (go_at_call 26; refine (HF.out _ ?_).mono ?_; assumption; rintro e wx ⟨A4, c4, rfl, ho4, hb4⟩) | (go_at_call 19; refine (HS.out _ _ _ ?_ ?_).mono ?_; assumption; assumption; rintro e wy ⟨rfl, hby⟩))
    go_wp2_with fail
    go_ret
    exact ⟨rfl, hb2'.trans (hby.mono hb2'.size)⟩
end Go.Proofs.Ytgnfodfbgkbnbaa.frameWalk
