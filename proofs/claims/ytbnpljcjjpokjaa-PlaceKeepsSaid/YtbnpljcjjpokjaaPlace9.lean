/- The place law's awake. -/
import Derived.Test.YtbnpljcjjpokjaaPlace4
import Derived.Test.YtbnpljcjjpokjaaPlace8
namespace Go.Proofs.Ytbnpljcjjpokjaa.placeWalk
open Go.RowKit Go.Proofs.Ytbnpljcjjpokjaa.lib Go.Proofs.Ytbnpljcjjpokjaa.mem Go.Proofs.Ytbnpljcjjpokjaa.viewWalk

theorem node_ag (w : World) (x : Int) : Calls Try.prog 32 #[.int .i64 x] w fun e w' => e = .returned (.agg #[.int .i64 x, .int .i64 1]) ∧ Below w.heap.size w w' := node_any w x

set_option maxRecDepth 4000 in
set_option maxHeartbeats 4000000 in
theorem awake17 (w : World) : Calls Try.prog 22 #[] w fun e w' => e = .returned (.bool true) ∧ Below w.heap.size w w' := by
  have E1 := Lib.hid (show chainM 1 [(3, 1)] [(2, 1), (3, 1), (4, 1)] 2 = [(3, 1), (4, 1)] by decide)
  have E2 := Lib.hid (show leadM [(3, 1), (4, 1)] (4, 1) = [(4, 1), (3, 1)] by decide)
  have E3 := Lib.hid (show bothM [(3, 1), (4, 1)] [] = [] by decide)
  go_enter Try.func22, Try.ntmps22
  go_wp2_with fail
  refine (node_ag w 3).mono ?_
  rintro e w1 ⟨rfl, hb1⟩
  go_wp2_with fail
  have hK := Reads.new_row w1 2 1 #[.int .i64 3, .int .i64 1] 26 (memV [(3, 1)]) rfl rfl
  have hbA : Below w.heap.size w (w1.alloc (.cells #[.int .i64 3, .int .i64 1] 26)) := hb1.alloc hb1.size _
  have hszA : (w1.alloc (.cells #[.int .i64 3, .int .i64 1] 26)).heap.size = w1.heap.size + 1 := by simp
  generalize w1.alloc (.cells #[.int .i64 3, .int .i64 1] 26) = V1 at hK hbA hszA ⊢
  refine (node_ag V1 2).mono ?_
  rintro e w2 ⟨rfl, hb2⟩
  go_wp2_with fail
  refine (node_ag w2 3).mono ?_
  rintro e w3 ⟨rfl, hb3⟩
  go_wp2_with fail
  refine (node_ag w3 4).mono ?_
  rintro e w4 ⟨rfl, hb4⟩
  go_wp2_with fail
  have hb24 : Below V1.heap.size V1 w4 := (hb2.trans (hb3.mono hb2.size)).trans (hb4.mono (Nat.le_trans hb2.size hb3.size))
  have hU := Reads.new_row w4 2 3 #[.int .i64 2, .int .i64 1, .int .i64 3, .int .i64 1, .int .i64 4, .int .i64 1] 26 (memV [(2, 1), (3, 1), (4, 1)]) rfl rfl
  have hK4 := ((hK.below (hb24.mono (by omega))).alloc (by have := hb24.size; omega) (.cells #[.int .i64 2, .int .i64 1, .int .i64 3, .int .i64 1, .int .i64 4, .int .i64 1] 26)).more (show w1.heap.size + 1 ≤ w4.heap.size + 1 by have := hb24.size; omega)
  have hbB : Below w.heap.size w (w4.alloc (.cells #[.int .i64 2, .int .i64 1, .int .i64 3, .int .i64 1, .int .i64 4, .int .i64 1] 26)) := (hbA.trans (hb24.mono hbA.size)).alloc (by have := hbA.size; have := hb24.size; omega) _
  have hszB : (w4.alloc (.cells #[.int .i64 2, .int .i64 1, .int .i64 3, .int .i64 1, .int .i64 4, .int .i64 1] 26)).heap.size = w4.heap.size + 1 := by simp
  generalize w4.alloc (.cells #[.int .i64 2, .int .i64 1, .int .i64 3, .int .i64 1, .int .i64 4, .int .i64 1] 26) = V4 at hU hK4 hbB hszB ⊢
  have hC := chain_any V4 (B := w4.heap.size + 1) (n := 1) (n2 := 3) (c := 1) (c2 := 3) (K := [(3, 1)]) (U := [(2, 1), (3, 1), (4, 1)]) 1 2 rfl hK4 rfl hU (by omega) (by decide) (by decide)
  rw [E1.out] at hC
  refine hC.mono ?_
  rintro e w5 ⟨A5, c5, m5, rfl, hm5, ho5, hb5⟩
  have hm5' : m5 = 2 := hm5
  subst hm5'
  have hbw5 : Below w.heap.size w w5 := hbB.trans (hb5.mono hbB.size)
  have hl5 : RdM w5 w5.heap.size A5 [(3, 1), (4, 1)] := ho5.rd
  have hcap := ho5.cap
  clear hC hm5 ho5 hU hK4 hK hb1 hb2 hb3 hb4 hb24 hb5 hbA hbB
  go_wp2_with fail
  refine (node_ag w5 3).mono ?_
  rintro e w6 ⟨rfl, hb6⟩
  go_wp2_with fail
  refine (node_ag w6 4).mono ?_
  rintro e w7 ⟨rfl, hb7⟩
  go_wp2_with fail
  have hb57 : Below w5.heap.size w5 w7 := hb6.trans (hb7.mono hb6.size)
  have hX := Reads.new_row w7 2 2 #[.int .i64 3, .int .i64 1, .int .i64 4, .int .i64 1] 26 (memV [(3, 1), (4, 1)]) rfl rfl
  have hl7 := (hl5.below hb57).alloc hb57.size (.cells #[.int .i64 3, .int .i64 1, .int .i64 4, .int .i64 1] 26)
  have hbC : Below w.heap.size w (w7.alloc (.cells #[.int .i64 3, .int .i64 1, .int .i64 4, .int .i64 1] 26)) := (hbw5.trans (hb57.mono hbw5.size)).alloc (by have := hbw5.size; have := hb57.size; omega) _
  have hszC : (w7.alloc (.cells #[.int .i64 3, .int .i64 1, .int .i64 4, .int .i64 1] 26)).heap.size = w7.heap.size + 1 := by simp
  generalize w7.alloc (.cells #[.int .i64 3, .int .i64 1, .int .i64 4, .int .i64 1] 26) = V7 at hX hl7 hbC hszC ⊢
  have hS := sameM_any V7 (n := 2) (n2 := 2) (c := c5) (c2 := 2) rfl hl7 rfl hX (by have := hb57.size; omega) (by omega) (by decide) (by decide)
  rw [show decide (([(3, 1), (4, 1)] : List (Int × Int)) = [(3, 1), (4, 1)]) = true from decide_eq_true rfl] at hS
  refine hS.mono ?_
  rintro e w8 ⟨rfl, hb8⟩
  have hl8 := hl7.below (hb8.mono (by have := hb57.size; omega))
  have hbw8 : Below w.heap.size w w8 := hbC.trans (hb8.mono hbC.size)
  have hz8 : w5.heap.size ≤ w8.heap.size := by have := hb57.size; have := hb8.size; omega
  clear hS hX hl7 hl5 hb6 hb7 hb57 hb8 hbC hbw5
  go_wp2_with fail
  refine (node_ag w8 4).mono ?_
  rintro e w9 ⟨rfl, hb9⟩
  have hl9 := hl8.below (hb9.mono hz8)
  have hbw9 : Below w.heap.size w w9 := hbw8.trans (hb9.mono hbw8.size)
  have hz9 : w5.heap.size ≤ w9.heap.size := Nat.le_trans hz8 hb9.size
  clear hl8 hbw8 hb9 hz8
  go_wp2_with fail
  have hL := lead_any w9 (n := 2) (c := c5) (L := [(3, 1), (4, 1)]) (4, 1) rfl hl9 hz9 hcap (by decide)
  rw [E2.out] at hL
  refine hL.mono ?_
  rintro e w10 ⟨A10, c10, m10, rfl, hm10, ho10, hb10⟩
  have hm10' : m10 = 2 := hm10
  subst hm10'
  have hd10 : RdM w10 w10.heap.size A10 [(4, 1), (3, 1)] := ho10.rd
  have hl10 := hl9.below (hb10.mono hz9)
  have hbw10 : Below w.heap.size w w10 := hbw9.trans (hb10.mono hbw9.size)
  have hz10 : w5.heap.size ≤ w10.heap.size := Nat.le_trans hz9 hb10.size
  clear hL hm10 ho10 hl9 hbw9 hz9 hb10
  go_wp2_with fail
  refine (node_ag w10 4).mono ?_
  rintro e w11 ⟨rfl, hb11⟩
  go_wp2_with fail
  refine (node_ag w11 3).mono ?_
  rintro e w12 ⟨rfl, hb12⟩
  go_wp2_with fail
  have hb1012 : Below w10.heap.size w10 w12 := hb11.trans (hb12.mono hb11.size)
  have hX := Reads.new_row w12 2 2 #[.int .i64 4, .int .i64 1, .int .i64 3, .int .i64 1] 26 (memV [(4, 1), (3, 1)]) rfl rfl
  have hd12 := (hd10.below hb1012).alloc hb1012.size (.cells #[.int .i64 4, .int .i64 1, .int .i64 3, .int .i64 1] 26)
  have hl12 := (hl10.below (hb1012.mono hz10)).alloc (by have := hb1012.size; omega) (.cells #[.int .i64 4, .int .i64 1, .int .i64 3, .int .i64 1] 26)
  have hbD : Below w.heap.size w (w12.alloc (.cells #[.int .i64 4, .int .i64 1, .int .i64 3, .int .i64 1] 26)) := (hbw10.trans (hb1012.mono hbw10.size)).alloc (by have := hbw10.size; have := hb1012.size; omega) _
  have hszD : (w12.alloc (.cells #[.int .i64 4, .int .i64 1, .int .i64 3, .int .i64 1] 26)).heap.size = w12.heap.size + 1 := by simp
  generalize w12.alloc (.cells #[.int .i64 4, .int .i64 1, .int .i64 3, .int .i64 1] 26) = V12 at hX hd12 hl12 hbD hszD ⊢
  have hS := sameM_any V12 (n := 2) (n2 := 2) (c := c10) (c2 := 2) rfl hd12 rfl hX (by have := hb1012.size; omega) (by omega) (by decide) (by decide)
  rw [show decide (([(4, 1), (3, 1)] : List (Int × Int)) = [(4, 1), (3, 1)]) = true from decide_eq_true rfl] at hS
  refine hS.mono ?_
  rintro e w13 ⟨rfl, hb13⟩
  have hz13 : w5.heap.size ≤ w13.heap.size := by have := hb1012.size; have := hb13.size; omega
  have hl13 := hl12.below (hb13.mono (by have := hb1012.size; omega))
  have hbw13 : Below w.heap.size w w13 := hbD.trans (hb13.mono hbD.size)
  clear hS hX hd12 hd10 hl12 hl10 hb11 hb12 hb1012 hb13 hbD hbw10
  go_wp2_with fail
  have hB := both_any w13 (n := 2) (c := c5) (n2 := 0) (c2 := 0) (A2 := none) (U := []) rfl hl13 rfl ⟨rfl, fun h => absurd h (by simp)⟩ hz13 (by decide) (by decide)
  rw [E3.out] at hB
  refine hB.mono ?_
  rintro e w14 ⟨A14, c14, m14, rfl, hm14, ho14, hb14⟩
  have hm14' : m14 = 0 := hm14
  subst hm14'
  clear hB hm14 ho14
  go_wp2_with fail
  go_ret
  exact ⟨rfl, hbw13.trans (hb14.mono hbw13.size)⟩
end Go.Proofs.Ytbnpljcjjpokjaa.placeWalk
