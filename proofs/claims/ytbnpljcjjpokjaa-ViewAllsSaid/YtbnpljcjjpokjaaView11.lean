/- The walk of ViewIndex. -/
import Derived.Test.YtbnpljcjjpokjaaView9
import Derived.Test.YtbnpljcjjpokjaaViewP
import Derived.Test.YtbnpljcjjpokjaaOpenM
import Derived.Deep.RegionHeld3
import Derived.Deep.QuietTactic
import Derived.BigQuiet
import Derived.Laws.BitsAllLaws
namespace Go.Proofs.Ytbnpljcjjpokjaa.viewWalk
open Go.RowKit Go.Proofs.Ytbnpljcjjpokjaa.lib Go.Proofs.Ytbnpljcjjpokjaa.mem

theorem not_ne (y : Int) : bits .xor .i64 (-1) y ≠ y := by
  show IntKind.i64.wrap ((BitVec.ofInt 64 (-1) ^^^ BitVec.ofInt 64 y).toNat : Int) ≠ _
  have h1 : BitVec.ofInt 64 (-1) = BitVec.allOnes 64 := by decide
  rw [h1, BitVec.allOnes_xor, BitVec.toNat_not, BitVec.toNat_ofInt]
  simp only [IntKind.wrap, IntKind.bits, IntKind.signed]
  simp
  split <;> omega
theorem keep_cell {W W' : World} {a : Addr} {v : Value} (h : W.cell? a = some v) (hb : Below W.heap.size W W') : W'.cell? a = some v := (hb.cell (block_of_cell h)).trans h

set_option maxRecDepth 4000 in
set_option maxHeartbeats 4000000 in
theorem walk_ViewIndex (w : World) {B : Nat} {A : Option Addr} {n c : Nat} {L : List (Int × Int)} (hn : n = L.length) (hc : n ≤ c) (hr : RdM w B A L) (hB : B ≤ w.heap.size) :
    Calls Try.prog 4 #[.slice A n c] w fun e w' => e = .returned (.bool true) ∧ Below w.heap.size w w' := by
  have HN := Lib.hid hn
  clear hn
  go_enter Try.func4, Try.ntmps4
  go_wp2_with fail
  refine (awake16 w).mono ?_
  rintro e w1 ⟨rfl, hb1⟩
  by_cases h16 : 16 < n
  · go_wp2_with fail
    refine (awake16 w1).mono ?_
    rintro e w2 ⟨rfl, hb2⟩
    go_wp2_with fail
    go_ret
    exact ⟨rfl, hb1.trans (hb2.mono hb1.size)⟩
  have hn16 : n ≤ 16 := by omega
  clear h16
  have hr1 := hr.below (hb1.mono hB)
  go_wp2_with fail
  refine (right_any w1 HN.out hr1 (by have := hb1.size; omega) hc).mono ?_
  rintro e w2 ⟨⟨b, rfl, hb⟩, hb2⟩
  have hb12 : Below w.heap.size w w2 := hb1.trans (hb2.mono hb1.size)
  have hr2 := hr.below (hb12.mono hB)
  clear hr1 hb1 hb2
  cases b
  · clear hb
    go_wp2_with fail
    refine (awake16 w2).mono ?_
    rintro e w3 ⟨rfl, hb3⟩
    go_wp2_with fail
    go_ret
    exact ⟨rfl, hb12.trans (hb3.mono hb12.size)⟩
  have HR := Lib.hid (hb.1 rfl)
  clear hb
  go_wp2_with fail
  go_loopw [3] (fun i wr => ∃ k : Nat, k ≤ n ∧ i = .int .i64 k ∧ Below w.heap.size w wr) (fun i _ => n - (intOf i).toNat)
  case atStart => exact ⟨0, Nat.zero_le _, rfl, hb12⟩
  case round =>
    obtain ⟨k, hk, rfl, hb⟩ := hrel
    have hrw := hr.below (hb.mono hB)
    by_cases hlt : k < n
    · have h1 : k < L.length := by rw [← HN.out]; exact hlt
      obtain ⟨ad, rfl, hbl, hc1, hc2⟩ := RdM.at_ hrw h1
      obtain ⟨y1, hy1⟩ : ∃ y, y = L[k].1 := ⟨_, rfl⟩
      obtain ⟨y2, hy2⟩ : ∃ y, y = L[k].2 := ⟨_, rfl⟩
      have hyy : L[k] = (y1, y2) := by rw [hy1, hy2]
      rw [← hy1] at hc1
      rw [← hy2] at hc2
      have HYY := Lib.hid hyy
      clear hy1 hy2 hyy
      go_wp2_with fail
      go_region_held3 (fun w' => w'.cell? (ad.add (k * 2)) = some (.int .i64 y1) ∧ w'.cell? ⟨(ad.add (k * 2)).block, (ad.add (k * 2)).off + 1, none⟩ = some (.int .i64 y2)) (go_keep) (fail)
      generalize hbe : bits BinOp.xor IntKind.i64 (if IntKind.i64.signed = true then -1 else 9223372036854775807) y2 = b
      have hne : b ≠ y2 := by rw [← hbe]; exact not_ne y2
      have hp := keep_cell hc1 (((Below.refl wr.heap.size wr).alloc (Nat.le_refl _) (.cells #[.int .i64 y1, .int .i64 b] 26)).trans (below_drewN (Below.refl _ _) 1))
      have hp2 := keep_cell hc2 (((Below.refl wr.heap.size wr).alloc (Nat.le_refl _) (.cells #[.int .i64 y1, .int .i64 b] 26)).trans (below_drewN (Below.refl _ _) 1))
      have hq : Cell2 ((wr.alloc (.cells #[.int .i64 y1, .int .i64 b] 26)).drewN 1) wr.heap.size (y1, b) := Cell2.new wr (y1, b) _
      have hbq : Below w.heap.size w ((wr.alloc (.cells #[.int .i64 y1, .int .i64 b] 26)).drewN 1) := below_drewN (hb.alloc hb.size _) 1
      change (Exit.then _ _) Exit.normal _ ((wr.alloc (.cells #[.int .i64 y1, .int .i64 b] 26)).drewN 1)
      generalize ((wr.alloc (.cells #[.int .i64 y1, .int .i64 b] 26)).drewN 1) = wq at hp hp2 hq hbq ⊢
      obtain ⟨hq1, hq2⟩ := hq
      have hS : ∀ W W' : World, (W.cell? (ad.add (k * 2)) = some (.int .i64 y1) ∧ W.cell? ⟨(ad.add (k * 2)).block, (ad.add (k * 2)).off + 1, none⟩ = some (.int .i64 y2) ∧
          W.cell? ⟨wr.heap.size, 0, none⟩ = some (.int .i64 y1) ∧ W.cell? ⟨wr.heap.size, 1, none⟩ = some (.int .i64 b) ∧ Below w.heap.size w W) → Below W.heap.size W W' →
          (W'.cell? (ad.add (k * 2)) = some (.int .i64 y1) ∧ W'.cell? ⟨(ad.add (k * 2)).block, (ad.add (k * 2)).off + 1, none⟩ = some (.int .i64 y2) ∧
          W'.cell? ⟨wr.heap.size, 0, none⟩ = some (.int .i64 y1) ∧ W'.cell? ⟨wr.heap.size, 1, none⟩ = some (.int .i64 b) ∧ Below w.heap.size w W') :=
        fun W W' h hb => ⟨keep_cell h.1 hb, keep_cell h.2.1 hb, keep_cell h.2.2.1 hb, keep_cell h.2.2.2.1 hb, h.2.2.2.2.trans (hb.mono h.2.2.2.2.size)⟩
      have hD : ∀ W : World, (W.cell? (ad.add (k * 2)) = some (.int .i64 y1) ∧ W.cell? ⟨(ad.add (k * 2)).block, (ad.add (k * 2)).off + 1, none⟩ = some (.int .i64 y2) ∧
          W.cell? ⟨wr.heap.size, 0, none⟩ = some (.int .i64 y1) ∧ W.cell? ⟨wr.heap.size, 1, none⟩ = some (.int .i64 b) ∧ Below w.heap.size w W) →
          (W.drew.cell? (ad.add (k * 2)) = some (.int .i64 y1) ∧ W.drew.cell? ⟨(ad.add (k * 2)).block, (ad.add (k * 2)).off + 1, none⟩ = some (.int .i64 y2) ∧
          W.drew.cell? ⟨wr.heap.size, 0, none⟩ = some (.int .i64 y1) ∧ W.drew.cell? ⟨wr.heap.size, 1, none⟩ = some (.int .i64 b) ∧ Below w.heap.size w W.drew) :=
        fun W h => ⟨h.1, h.2.1, h.2.2.1, h.2.2.2.1, below_drewN h.2.2.2.2 1⟩
      have hL : ∀ W : World, Below w.heap.size w W → RdM W B (some ad) L ∧ B ≤ W.heap.size := fun W h => ⟨hr.below (h.mono hB), Nat.le_trans hB h.size⟩
      have ik : idx L (y1, y2) = k := by rw [← HYY.out]; exact idx_right HR.out k h1
      have io : idx L (y1, b) = -1 := by
        have e1 : y1 = L[k].1 := by rw [HYY.out]
        rw [e1]
        exact idx_other HR.out k h1 (by rw [HYY.out]; exact hne)
      have hs40 : L.length ≤ 1099511627776 := by have := HN.out; omega
      have hF1 : ∀ (W : World) (z : Int), (W.cell? (ad.add (k * 2)) = some (.int .i64 y1) ∧ W.cell? ⟨(ad.add (k * 2)).block, (ad.add (k * 2)).off + 1, none⟩ = some (.int .i64 y2) ∧
          W.cell? ⟨wr.heap.size, 0, none⟩ = some (.int .i64 y1) ∧ W.cell? ⟨wr.heap.size, 1, none⟩ = some (.int .i64 b) ∧ Below w.heap.size w W) →
          Calls Try.prog 14 #[.slice (some ad) n c, .agg #[.int .i64 y1, .int .i64 z]] W fun e W' => e = .returned (.int .i64 (idx L (y1, z))) ∧
          (W'.cell? (ad.add (k * 2)) = some (.int .i64 y1) ∧ W'.cell? ⟨(ad.add (k * 2)).block, (ad.add (k * 2)).off + 1, none⟩ = some (.int .i64 y2) ∧
          W'.cell? ⟨wr.heap.size, 0, none⟩ = some (.int .i64 y1) ∧ W'.cell? ⟨wr.heap.size, 1, none⟩ = some (.int .i64 b) ∧ Below w.heap.size w W') := fun W z h => by
        obtain ⟨g1, g2⟩ := hL W h.2.2.2.2
        refine (index_any W (y1, z) HN.out g1 g2 hs40).mono ?_
        rintro e W' ⟨rfl, hb⟩
        exact ⟨rfl, hS W W' h hb⟩
      have hF3 : ∀ W : World, (W.cell? (ad.add (k * 2)) = some (.int .i64 y1) ∧ W.cell? ⟨(ad.add (k * 2)).block, (ad.add (k * 2)).off + 1, none⟩ = some (.int .i64 y2) ∧
          W.cell? ⟨wr.heap.size, 0, none⟩ = some (.int .i64 y1) ∧ W.cell? ⟨wr.heap.size, 1, none⟩ = some (.int .i64 b) ∧ Below w.heap.size w W) →
          Calls Try.prog 15 #[.slice (some ad) n c, .int .i64 y1, .int .i64 y2, .agg #[.int .i64 y1, .int .i64 y2]] W fun e W' => e = .returned (.bool true) ∧
          (W'.cell? (ad.add (k * 2)) = some (.int .i64 y1) ∧ W'.cell? ⟨(ad.add (k * 2)).block, (ad.add (k * 2)).off + 1, none⟩ = some (.int .i64 y2) ∧
          W'.cell? ⟨wr.heap.size, 0, none⟩ = some (.int .i64 y1) ∧ W'.cell? ⟨wr.heap.size, 1, none⟩ = some (.int .i64 b) ∧ Below w.heap.size w W') := fun W h => by
        obtain ⟨g1, g2⟩ := hL W h.2.2.2.2
        refine (is_any W y1 y2 (y1, y2) HN.out g1 g2 hs40).mono ?_
        rintro e W' ⟨rfl, hb⟩
        refine ⟨?_, hS W W' h hb⟩
        rw [ik]
        simp
      have HF1 := Lib.hid hF1
      have IK := Lib.hid ik
      have IO := Lib.hid io
      have HF3 := Lib.hid hF3
      have HD := Lib.hid hD
      have hk0 : (0 : Int) ≤ k := by omega
      have hkn : (k : Int) < n := by omega
      clear hF1 hF3 hD hS hL ik io hne hbe hc1 hc2 hb hrw hr hb12 hr2
      go_wp2_with fail
      go_region_held3 (fun w' => w'.cell? (ad.add (k * 2)) = some (.int .i64 y1) ∧ w'.cell? ⟨(ad.add (k * 2)).block, (ad.add (k * 2)).off + 1, none⟩ = some (.int .i64 y2) ∧
          w'.cell? ⟨wr.heap.size, 0, none⟩ = some (.int .i64 y1) ∧ w'.cell? ⟨wr.heap.size, 1, none⟩ = some (.int .i64 b) ∧ Below w.heap.size w w')
        (first | assumption | (refine ⟨?_, ?_, ?_, ?_, ?_⟩ <;> assumption) | (apply HD.out; first | assumption | (refine ⟨?_, ?_, ?_, ?_, ?_⟩ <;> assumption)))
        (first
          | (go_at_call 14; refine (HF1.out _ _ ?_).mono ?_; (first | assumption | (refine ⟨?_, ?_, ?_, ?_, ?_⟩ <;> assumption)); rintro e wx ⟨rfl, i1, i2, i3, i4, i5⟩; first | rw [IK.out] | rw [IO.out])
          | (go_at_call 15; refine (HF3.out _ ?_).mono ?_; (first | assumption | (refine ⟨?_, ?_, ?_, ?_, ?_⟩ <;> assumption)); rintro e wx ⟨rfl, i1, i2, i3, i4, i5⟩))
      go_wp2_with fail
      go_roundw
      case rel => exact ⟨k + 1, by omega, by go_num, by assumption⟩
      case measure => simp [intOf] <;> omega
    · go_wp2_with fail
      have h0 : 0 < L.length := HR.out.1
      refine (head_any wr HN.out hrw).mono ?_
      rintro e w4 ⟨rfl, hb4⟩
      obtain ⟨ad, rfl, hbl, hc1, hc2⟩ := RdM.at_ hrw h0
      obtain ⟨y1, hy1⟩ : ∃ y, y = L[0].1 := ⟨_, rfl⟩
      obtain ⟨y2, hy2⟩ : ∃ y, y = L[0].2 := ⟨_, rfl⟩
      have hyy : headM L = ((y1, y2), true) := by rw [head_right h0, hy1, hy2]
      rw [← hy1] at hc1
      rw [← hy2] at hc2
      have e0 : ad.add 0 = ad := by simp [Addr.add]
      rw [Nat.zero_mul, e0] at hc1 hc2
      have hbw4 : Below w.heap.size w w4 := hb.trans (hb4.mono hb.size)
      have hd1 := keep_cell hc1 hb4
      have hd2 := keep_cell hc2 hb4
      have hq : Cell2 (w4.alloc (.cells #[.int .i64 y1, .int .i64 y2] 26)) w4.heap.size (y1, y2) := Cell2.new w4 (y1, y2) _
      have hd1' := Go.Lib.cell?_alloc_marked (.cells #[.int .i64 y1, .int .i64 y2] 26) hd1
      have hd2' := Go.Lib.cell?_alloc_marked (.cells #[.int .i64 y1, .int .i64 y2] 26) hd2
      have hn0 : (0 : Int) < n := by have := HN.out; omega
      rw [hyy]
      simp only [mv]
      clear hc1 hc2 hb4 hd1 hd2 hy1 hy2 hyy hrw hr hr2
      go_wp2_with fail
      have hbx : Below w.heap.size w (w4.alloc (.cells #[.int .i64 y1, .int .i64 y2] 26)) := hbw4.alloc hbw4.size _
      generalize w4.alloc (.cells #[.int .i64 y1, .int .i64 y2] 26) = wq at hq hd1' hd2' hbx ⊢
      obtain ⟨hq1, hq2⟩ := hq
      go_quiet (fail)
      go_wp2_with fail
      go_ret
      exact ⟨rfl, below_drewN hbx _⟩
end Go.Proofs.Ytbnpljcjjpokjaa.viewWalk
