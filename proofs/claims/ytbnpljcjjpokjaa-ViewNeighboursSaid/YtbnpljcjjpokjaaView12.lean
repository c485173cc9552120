/- The walk of ViewNeighbours. -/
import Derived.Test.YtbnpljcjjpokjaaView11
namespace Go.Proofs.Ytbnpljcjjpokjaa.viewWalk
open Go.RowKit Go.Proofs.Ytbnpljcjjpokjaa.lib Go.Proofs.Ytbnpljcjjpokjaa.mem

set_option maxRecDepth 4000 in
set_option maxHeartbeats 4000000 in
theorem walk_ViewNeighbours (w : World) {B : Nat} {A : Option Addr} {n c : Nat} {L : List (Int × Int)} (hn : n = L.length) (hc : n ≤ c) (hr : RdM w B A L) (hB : B ≤ w.heap.size) :
    Calls Try.prog 5 #[.slice A n c] w fun e w' => e = .returned (.bool true) ∧ Below w.heap.size w w' := by
  have HN := Lib.hid hn
  clear hn
  go_enter Try.func5, Try.ntmps5
  go_wp2_with fail
  refine (awake16 w).mono ?_
  rintro e w1 ⟨rfl, hb1⟩
  by_cases h16 : 16 < n
  · go_wp2_with fail
    refine (awake16 w1).mono ?_
    rintro e w2 ⟨rfl, hb2⟩
    go_wp2_with fail
    go_ret
    exact ⟨rfl, hb1.trans (hb2.mono hb1.size)⟩
  have hn16 : n ≤ 16 := by omega
  clear h16
  have hr1 := hr.below (hb1.mono hB)
  go_wp2_with fail
  refine (right_any w1 HN.out hr1 (by have := hb1.size; omega) hc).mono ?_
  rintro e w2 ⟨⟨b, rfl, hb⟩, hb2⟩
  have hb12 : Below w.heap.size w w2 := hb1.trans (hb2.mono hb1.size)
  clear hr1 hb1 hb2
  cases b
  · clear hb
    go_wp2_with fail
    refine (awake16 w2).mono ?_
    rintro e w3 ⟨rfl, hb3⟩
    go_wp2_with fail
    go_ret
    exact ⟨rfl, hb12.trans (hb3.mono hb12.size)⟩
  have HR := Lib.hid (hb.1 rfl)
  have hs40 : L.length ≤ 1099511627776 := by have := HN.out; omega
  clear hb
  go_wp2_with fail
  go_loopw [3] (fun i wr => ∃ k : Nat, k ≤ n ∧ i = .int .i64 k ∧ Below w.heap.size w wr) (fun i _ => n - (intOf i).toNat)
  case atStart => exact ⟨0, Nat.zero_le _, rfl, hb12⟩
  case round =>
    obtain ⟨k, hk, rfl, hb⟩ := hrel
    have hrw := hr.below (hb.mono hB)
    by_cases hlt : k < n
    · have h1 : k < L.length := by rw [← HN.out]; exact hlt
      obtain ⟨ad, rfl, hbl, hc1, hc2⟩ := RdM.at_ hrw h1
      obtain ⟨y1, hy1⟩ : ∃ y, y = L[k].1 := ⟨_, rfl⟩
      obtain ⟨y2, hy2⟩ : ∃ y, y = L[k].2 := ⟨_, rfl⟩
      have hyy : L[k] = (y1, y2) := by rw [hy1, hy2]
      rw [← hy1] at hc1
      rw [← hy2] at hc2
      have HYY := Lib.hid hyy
      clear hy1 hy2 hyy
      go_wp2_with fail
      refine (ahead_any wr (y1, y2) HN.out hrw (Nat.le_trans hB hb.size) hs40).mono ?_
      rintro e w3 ⟨rfl, hb3⟩
      obtain ⟨a1, a2, oa, ha⟩ : ∃ a1 a2 oa, aheadM L (y1, y2) = ((a1, a2), oa) := ⟨_, _, _, rfl⟩
      have hbw3 : Below w.heap.size w w3 := hb.trans (hb3.mono hb.size)
      have ca3 : Cell2 (w3.alloc (.cells #[.int .i64 a1, .int .i64 a2] 26)) w3.heap.size (a1, a2) := Cell2.new w3 (a1, a2) _
      have hd1 := fun o => Go.Lib.cell?_alloc_marked o (keep_cell hc1 hb3)
      have hd2 := fun o => Go.Lib.cell?_alloc_marked o (keep_cell hc2 hb3)
      have hbW3 : Below w.heap.size w (w3.alloc (.cells #[.int .i64 a1, .int .i64 a2] 26)) := hbw3.alloc hbw3.size _
      rw [ha]
      simp only [mv]
      have HA := Lib.hid ha
      clear hc1 hc2 hb3 ha hrw
      go_wp2_with fail
      have he1 := hd1 (.cells #[.int .i64 a1, .int .i64 a2] 26)
      have he2 := hd2 (.cells #[.int .i64 a1, .int .i64 a2] 26)
      clear hd1 hd2
      have hsz : (w3.alloc (.cells #[.int .i64 a1, .int .i64 a2] 26)).heap.size = w3.heap.size + 1 := by simp
      generalize w3.alloc (.cells #[.int .i64 a1, .int .i64 a2] 26) = W3 at ca3 hbW3 he1 he2 hsz ⊢
      refine (behind_any W3 (y1, y2) HN.out (hr.below (hbW3.mono hB)) (Nat.le_trans hB hbW3.size) hs40).mono ?_
      rintro e w4 ⟨rfl, hb4⟩
      obtain ⟨b1, b2, ob, hbe⟩ : ∃ b1 b2 ob, behindM L (y1, y2) = ((b1, b2), ob) := ⟨_, _, _, rfl⟩
      have hbw4 : Below w.heap.size w w4 := hbW3.trans (hb4.mono hbW3.size)
      have z4 := hb4.size
      have ca4 : Cell2 (w4.alloc (.cells #[.int .i64 b1, .int .i64 b2] 26)) w3.heap.size (a1, a2) := (ca3.below hb4 (by omega)).alloc _
      have cb4 : Cell2 (w4.alloc (.cells #[.int .i64 b1, .int .i64 b2] 26)) w4.heap.size (b1, b2) := Cell2.new w4 (b1, b2) _
      have hd1 := Go.Lib.cell?_alloc_marked (.cells #[.int .i64 b1, .int .i64 b2] 26) (keep_cell he1 hb4)
      have hd2 := Go.Lib.cell?_alloc_marked (.cells #[.int .i64 b1, .int .i64 b2] 26) (keep_cell he2 hb4)
      have hbW4 : Below w.heap.size w (w4.alloc (.cells #[.int .i64 b1, .int .i64 b2] 26)) := hbw4.alloc hbw4.size _
      have hsz4 : (w4.alloc (.cells #[.int .i64 b1, .int .i64 b2] 26)).heap.size = w4.heap.size + 1 := by simp
      have ca41 := ca4.1
      have ca42 := ca4.2
      rw [hbe]
      simp only [mv]
      have HBE := Lib.hid hbe
      clear he1 he2 hb4 hbe ca3 hbW3
      have qk : IntKind.i64.wrap ((k : Int) + 1) = (k : Int) + 1 := IntWalk.i64_in _ (by omega)
      have qk0 : (0 : Int) ≤ k := by omega
      have qkn : (k : Int) < n := by omega
      have qk1 : (0 : Int) ≤ (k : Int) + 1 := by omega
      have qt : ((k : Int) + 1).toNat = k + 1 := by omega
      by_cases hl : k + 1 < n
      · by_cases hk0 : k = 0
        · subst hk0
          have p6 : (1 : Int) < n := by omega
          have h2 : 0 + 1 < L.length := by have := HN.out; omega
          obtain rfl : ob = true := by have := HBE.out; rw [← HYY.out, behind_right HR.out 0 h2] at this; injection this with _ e; exact e.symm
          have hbb : L[0 + 1] = (b1, b2) := by have := HBE.out; rw [← HYY.out, behind_right HR.out 0 h2] at this; injection this
          have hk2 : (0 : Int) + 1 < n := by have := HN.out; omega
          have haf : aheadM L L[0] = ((0, 0), false) := by have e := ahead_first HR.out (Nat.lt_of_le_of_lt (Nat.zero_le _) h1); exact e
          obtain rfl : oa = false := by have := HA.out; rw [← HYY.out, haf] at this; injection this with _ e; exact e.symm
          clear haf
          clear ca4 ca41 ca42 hd1 hd2
          go_wp2_with fail
          generalize w4.alloc (.cells #[.int .i64 b1, .int .i64 b2] 26) = W4 at cb4 hbW4 hsz4 ⊢
          obtain ⟨cb41, cb42⟩ := cb4
          obtain ⟨ad', eA, -, hf1, hf2⟩ := RdM.at_ (hr.below (hbW4.mono hB)) h2
          injection eA with eA
          subst eA
          rw [hbb] at hf1 hf2
          have hf3 : W4.cell? (ad.add 2) = some (.int .i64 b1) := hf1
          have hf4 : W4.cell? ⟨(ad.add 2).block, (ad.add 2).off + 1, none⟩ = some (.int .i64 b2) := hf2
          have r1 : IntKind.i64.wrap ((0 : Int) + 1) = 1 := by decide
          have r2 : IntKind.i64.wrap (1 : Int) = 1 := by decide
          have r3 : ((1 : Int)).toNat = 1 := rfl
          have r4 : (0 : Int) ≤ 1 := by decide
          have ead : ad.add 2 = ⟨ad.block, ad.off + 2, none⟩ := by simp [Addr.add]
          have hf7 : W4.cell? ⟨ad.block, ad.off + 2, none⟩ = some (.int .i64 b1) := by rw [← ead]; exact hf1
          have hf8 : W4.cell? ⟨ad.block, ad.off + 2 + 1, none⟩ = some (.int .i64 b2) := by have := hf4; rw [ead] at this; exact this
          have hf9 : W4.cell? ⟨ad.block, ad.off + 3, none⟩ = some (.int .i64 b2) := hf8
          have hf5 : W4.cell? (ad.add (1 * 2)) = some (.int .i64 b1) := hf1
          have hf6 : W4.cell? ⟨(ad.add (1 * 2)).block, (ad.add (1 * 2)).off + 1, none⟩ = some (.int .i64 b2) := hf2
          go_quiet (fail)
          go_wp2_with fail
          go_roundw
          case rel => exact ⟨1, by omega, by go_num, below_drewN hbW4 _⟩
          case measure => simp [intOf] <;> omega
        · have p3 : (k : Int) < n - 1 := by omega
          have p4 : (0 : Int) < k := by omega
          have h2 : k + 1 < L.length := by have := HN.out; omega
          obtain rfl : ob = true := by have := HBE.out; rw [← HYY.out, behind_right HR.out k h2] at this; injection this with _ e; exact e.symm
          have hbb : L[k + 1] = (b1, b2) := by have := HBE.out; rw [← HYY.out, behind_right HR.out k h2] at this; injection this
          have hk2 : (k : Int) + 1 < n := by have := HN.out; omega
          have h3 : L[k] = L[k - 1 + 1] := by congr 1; omega
          obtain rfl : oa = true := by have := HA.out; rw [← HYY.out, h3, ahead_right HR.out (k - 1) (by omega)] at this; injection this with _ e; exact e.symm
          have haa : L[k - 1] = (a1, a2) := by have := HA.out; rw [← HYY.out, h3, ahead_right HR.out (k - 1) (by omega)] at this; injection this
          have hbk : behindM L (a1, a2) = ((y1, y2), true) := by rw [← haa, behind_right HR.out (k - 1) (by omega), ← h3, HYY.out]
          clear h3
          go_wp2_with fail
          generalize w4.alloc (.cells #[.int .i64 b1, .int .i64 b2] 26) = W4 at ca4 cb4 hd1 hd2 hbW4 hsz4 ca41 ca42 ⊢
          refine (behind_any W4 (a1, a2) HN.out (hr.below (hbW4.mono hB)) (Nat.le_trans hB hbW4.size) hs40).mono ?_
          rintro e w5 ⟨rfl, hb5⟩
          rw [hbk]
          simp only [mv]
          have hbw5 : Below w.heap.size w w5 := hbW4.trans (hb5.mono hbW4.size)
          have z5 := hb5.size
          have cb5 := (cb4.below hb5 (by omega)).alloc (.cells #[.int .i64 y1, .int .i64 y2] 26)
          have cy5 : Cell2 (w5.alloc (.cells #[.int .i64 y1, .int .i64 y2] 26)) w5.heap.size (y1, y2) := Cell2.new w5 (y1, y2) _
          have hx1 := Go.Lib.cell?_alloc_marked (.cells #[.int .i64 y1, .int .i64 y2] 26) (keep_cell hd1 hb5)
          have hx2 := Go.Lib.cell?_alloc_marked (.cells #[.int .i64 y1, .int .i64 y2] 26) (keep_cell hd2 hb5)
          have hbW5 : Below w.heap.size w (w5.alloc (.cells #[.int .i64 y1, .int .i64 y2] 26)) := hbw5.alloc hbw5.size _
          clear ca4 cb4 hd1 hd2 ca41 ca42 hb5 hbk haa
          go_wp2_with fail
          generalize w5.alloc (.cells #[.int .i64 y1, .int .i64 y2] 26) = W5 at cb5 cy5 hx1 hx2 hbW5 ⊢
          obtain ⟨cb51, cb52⟩ := cb5
          obtain ⟨cy51, cy52⟩ := cy5
          obtain ⟨ad', eA, -, hf1, hf2⟩ := RdM.at_ (hr.below (hbW5.mono hB)) h2
          injection eA with eA
          subst eA
          rw [hbb] at hf1 hf2
          go_quiet (fail)
          go_wp2_with fail
          go_quiet (fail)
          go_wp2_with fail
          go_roundw
          case rel => exact ⟨k + 1, by omega, by go_num, below_drewN hbW5 _⟩
          case measure => simp [intOf] <;> omega
      · by_cases hk0 : k = 0
        · subst hk0
          have p6 : ¬ (1 : Int) < n := by omega
          obtain rfl : ob = false := by have := HBE.out; rw [← HYY.out, behind_last HR.out 0 (by have := HN.out; omega)] at this; injection this with _ e; exact e.symm
          have haf : aheadM L L[0] = ((0, 0), false) := by have e := ahead_first HR.out (Nat.lt_of_le_of_lt (Nat.zero_le _) h1); exact e
          obtain rfl : oa = false := by have := HA.out; rw [← HYY.out, haf] at this; injection this with _ e; exact e.symm
          clear haf
          clear ca4 ca41 ca42 hd1 hd2
          go_wp2_with fail
          generalize w4.alloc (.cells #[.int .i64 b1, .int .i64 b2] 26) = W4 at cb4 hbW4 hsz4 ⊢
          obtain ⟨cb41, cb42⟩ := cb4
          go_quiet (fail)
          go_wp2_with fail
          go_roundw
          case rel => exact ⟨1, by omega, by go_num, below_drewN hbW4 _⟩
          case measure => simp [intOf] <;> omega
        · have p3 : ¬ (k : Int) < n - 1 := by omega
          have p4 : (0 : Int) < k := by omega
          obtain rfl : ob = false := by have := HBE.out; rw [← HYY.out, behind_last HR.out k (by have := HN.out; omega)] at this; injection this with _ e; exact e.symm
          have h3 : L[k] = L[k - 1 + 1] := by congr 1; omega
          obtain rfl : oa = true := by have := HA.out; rw [← HYY.out, h3, ahead_right HR.out (k - 1) (by omega)] at this; injection this with _ e; exact e.symm
          have haa : L[k - 1] = (a1, a2) := by have := HA.out; rw [← HYY.out, h3, ahead_right HR.out (k - 1) (by omega)] at this; injection this
          have hbk : behindM L (a1, a2) = ((y1, y2), true) := by rw [← haa, behind_right HR.out (k - 1) (by omega), ← h3, HYY.out]
          clear h3
          go_wp2_with fail
          generalize w4.alloc (.cells #[.int .i64 b1, .int .i64 b2] 26) = W4 at ca4 cb4 hd1 hd2 hbW4 hsz4 ca41 ca42 ⊢
          refine (behind_any W4 (a1, a2) HN.out (hr.below (hbW4.mono hB)) (Nat.le_trans hB hbW4.size) hs40).mono ?_
          rintro e w5 ⟨rfl, hb5⟩
          rw [hbk]
          simp only [mv]
          have hbw5 : Below w.heap.size w w5 := hbW4.trans (hb5.mono hbW4.size)
          have z5 := hb5.size
          have cb5 := (cb4.below hb5 (by omega)).alloc (.cells #[.int .i64 y1, .int .i64 y2] 26)
          have cy5 : Cell2 (w5.alloc (.cells #[.int .i64 y1, .int .i64 y2] 26)) w5.heap.size (y1, y2) := Cell2.new w5 (y1, y2) _
          have hx1 := Go.Lib.cell?_alloc_marked (.cells #[.int .i64 y1, .int .i64 y2] 26) (keep_cell hd1 hb5)
          have hx2 := Go.Lib.cell?_alloc_marked (.cells #[.int .i64 y1, .int .i64 y2] 26) (keep_cell hd2 hb5)
          have hbW5 : Below w.heap.size w (w5.alloc (.cells #[.int .i64 y1, .int .i64 y2] 26)) := hbw5.alloc hbw5.size _
          clear ca4 cb4 hd1 hd2 ca41 ca42 hb5 hbk haa
          go_wp2_with fail
          generalize w5.alloc (.cells #[.int .i64 y1, .int .i64 y2] 26) = W5 at cb5 cy5 hx1 hx2 hbW5 ⊢
          obtain ⟨cb51, cb52⟩ := cb5
          obtain ⟨cy51, cy52⟩ := cy5
          go_quiet (fail)
          go_wp2_with fail
          go_quiet (fail)
          go_wp2_with fail
          go_roundw
          case rel => exact ⟨k + 1, by omega, by go_num, below_drewN hbW5 _⟩
          case measure => simp [intOf] <;> omega
    · go_wp2_with fail
      go_ret
      exact ⟨rfl, hb⟩
end Go.Proofs.Ytbnpljcjjpokjaa.viewWalk
