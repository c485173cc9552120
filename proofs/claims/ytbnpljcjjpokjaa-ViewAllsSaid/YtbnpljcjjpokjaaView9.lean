/- The view law's awake. -/
import Derived.Test.YtbnpljcjjpokjaaView6
import Derived.Test.YtbnpljcjjpokjaaView7
import Derived.Test.YtbnpljcjjpokjaaView8
namespace Go.Proofs.Ytbnpljcjjpokjaa.viewWalk
open Go.RowKit Go.Proofs.Ytbnpljcjjpokjaa.lib Go.Proofs.Ytbnpljcjjpokjaa.mem

theorem right_ab : RightP [(2, 1), (3, 1)] := ⟨by decide, by decide, fun i j hj h => by
  simp at hj
  obtain rfl : i = 0 := by omega
  obtain rfl : j = 1 := by omega
  simp⟩
theorem not_right_aa : ¬ RightP [(2, 1), (2, 1)] := fun h => h.2.2 0 1 (by decide) (by decide) rfl

set_option maxRecDepth 4000 in
set_option maxHeartbeats 4000000 in
theorem awake16 (w : World) : Calls Try.prog 11 #[] w fun e w' => e = .returned (.bool true) ∧ Below w.heap.size w w' := by
  have e1 : behindM [(2, 1), (3, 1)] (2, 1) = ((3, 1), true) := by decide
  have e2 : headM [(2, 1), (3, 1)] = ((2, 1), true) := rfl
  have e3 : idx [(2, 1), (3, 1)] (3, 2) = -1 := by decide
  have E1 := Lib.hid e1
  have E2 := Lib.hid e2
  have E3 := Lib.hid e3
  clear e1 e2 e3
  go_enter Try.func11, Try.ntmps11
  go_wp2_with fail
  generalize hW1 : ((w.alloc (.cells #[.int .i64 2, .int .i64 1] 26)).alloc (.cells #[.int .i64 3, .int .i64 1] 26)).alloc (.cells #[.int .i64 2, .int .i64 1, .int .i64 3, .int .i64 1] 26) = W1
  have s1 : W1.heap.size = w.heap.size + 3 := by rw [← hW1]; simp
  have ca1 : Cell2 W1 w.heap.size (2, 1) := by rw [← hW1]; exact ((Cell2.new w (2, 1) _).alloc _).alloc _
  have cb1 : Cell2 W1 (w.heap.size + 1) (3, 1) := by
    rw [← hW1]
    have := ((Cell2.new (w.alloc (.cells #[.int .i64 2, .int .i64 1] 26)) (3, 1) 26).alloc (.cells #[.int .i64 2, .int .i64 1, .int .i64 3, .int .i64 1] 26))
    simpa using this
  have hr1 : RdM W1 (w.heap.size + 3) (some ⟨w.heap.size + 1 + 1, 0, none⟩) [(2, 1), (3, 1)] := by
    rw [← hW1]
    have := Reads.new_row ((w.alloc (.cells #[.int .i64 2, .int .i64 1] 26)).alloc (.cells #[.int .i64 3, .int .i64 1] 26)) 2 2 #[.int .i64 2, .int .i64 1, .int .i64 3, .int .i64 1] 26 (memV [(2, 1), (3, 1)]) rfl rfl
    have e : ((w.alloc (.cells #[.int .i64 2, .int .i64 1] 26)).alloc (.cells #[.int .i64 3, .int .i64 1] 26)).heap.size = w.heap.size + 2 := by simp
    rw [e] at this
    exact this
  have hb1 : Below w.heap.size w W1 := by rw [← hW1]; exact (((Below.refl _ _).alloc (Nat.le_refl _) _).alloc (by simp) _).alloc (by simp; omega) _
  clear hW1
  refine (behind_any W1 (2, 1) (n := 2) rfl hr1 (by omega) (by decide)).mono ?_
  rintro e w2 ⟨rfl, hb2⟩
  rw [E1.out]
  simp only [mv]
  go_wp2_with fail
  generalize hW2 : w2.alloc (.cells #[.int .i64 3, .int .i64 1] 26) = W2
  have z2 := hb2.size
  have s2 : W2.heap.size = w2.heap.size + 1 := by rw [← hW2]; simp
  have ca2 : Cell2 W2 w.heap.size (2, 1) := by rw [← hW2]; exact (ca1.below hb2 (by omega)).alloc _
  have cb2 : Cell2 W2 (w.heap.size + 1) (3, 1) := by rw [← hW2]; exact (cb1.below hb2 (by omega)).alloc _
  have cm2 : Cell2 W2 w2.heap.size (3, 1) := by rw [← hW2]; exact Cell2.new _ (3, 1) _
  have hr2 : RdM W2 (w.heap.size + 3) (some ⟨w.heap.size + 1 + 1, 0, none⟩) [(2, 1), (3, 1)] := by rw [← hW2]; exact (hr1.below (hb2.mono (by omega))).alloc (by omega) _
  have hbw2 : Below w.heap.size w W2 := by rw [← hW2]; exact (hb1.trans (hb2.mono (by omega))).alloc (by omega) _
  clear hW2 ca1 cb1 hr1 hb1 hb2
  refine (head_any W2 (n := 2) rfl hr2).mono ?_
  rintro e w3 ⟨rfl, hb3⟩
  rw [E2.out]
  simp only [mv]
  go_wp2_with fail
  generalize hW3 : w3.alloc (.cells #[.int .i64 2, .int .i64 1] 26) = W3
  have z3 := hb3.size
  have s3 : W3.heap.size = w3.heap.size + 1 := by rw [← hW3]; simp
  have ca3 : Cell2 W3 w.heap.size (2, 1) := by rw [← hW3]; exact (ca2.below hb3 (by omega)).alloc _
  have cb3 : Cell2 W3 (w.heap.size + 1) (3, 1) := by rw [← hW3]; exact (cb2.below hb3 (by omega)).alloc _
  have cm3 : Cell2 W3 w2.heap.size (3, 1) := by rw [← hW3]; exact (cm2.below hb3 (by omega)).alloc _
  have ch3 : Cell2 W3 w3.heap.size (2, 1) := by rw [← hW3]; exact Cell2.new _ (2, 1) _
  have hr3 : RdM W3 (w.heap.size + 3) (some ⟨w.heap.size + 1 + 1, 0, none⟩) [(2, 1), (3, 1)] := by rw [← hW3]; exact (hr2.below (hb3.mono (by omega))).alloc (by omega) _
  have hbw3 : Below w.heap.size w W3 := by rw [← hW3]; exact (hbw2.trans (hb3.mono (by omega))).alloc (by omega) _
  clear hW3 ca2 cb2 cm2 hr2 hb3 hbw2
  refine (right_any W3 (n := 2) (c := 2) rfl hr3 (by omega) (by omega)).mono ?_
  rintro e w4 ⟨⟨b, rfl, hb⟩, hb4⟩
  obtain rfl : b = true := hb.2 right_ab
  have z4 := hb4.size
  obtain ⟨ca4, ca4'⟩ := ca3.below hb4 (by omega)
  obtain ⟨cb4, cb4'⟩ := cb3.below hb4 (by omega)
  obtain ⟨cm4, cm4'⟩ := cm3.below hb4 (by omega)
  obtain ⟨ch4, ch4'⟩ := ch3.below hb4 (by omega)
  have hr4 := hr3.below (hb4.mono (by omega))
  have hbw4 : Below w.heap.size w w4 := hbw3.trans (hb4.mono (by omega))
  clear hb hr3 hbw3 cb3 cm3 ch3
  go_wp2_with fail
  refine (index_any w4 (3, 2) (n := 2) rfl hr4 (by omega) (by decide)).mono ?_
  rintro e w5 ⟨rfl, hb5⟩
  rw [E3.out]
  have z5 := hb5.size
  obtain ⟨ca5, ca5'⟩ := (ca3.below hb4 (by omega)).below hb5 (by omega)
  have hbw5 : Below w.heap.size w w5 := hbw4.trans (hb5.mono (by omega))
  clear hr4 hbw4 hb4 hb5 ca3
  go_wp2_with fail
  have hr6 := Reads.new_row w5 2 2 #[.int .i64 2, .int .i64 1, .int .i64 2, .int .i64 1] 26 (memV [(2, 1), (2, 1)]) rfl rfl
  refine (right_any _ (n := 2) (c := 2) rfl hr6 (by simp) (by omega)).mono ?_
  rintro e w6 ⟨⟨b, rfl, hb⟩, hb6⟩
  obtain rfl : b = false := by
    cases b
    · rfl
    · exact absurd (hb.1 rfl) not_right_aa
  go_wp2_with fail
  go_ret
  exact ⟨rfl, (hbw5.alloc hbw5.size _).trans (hb6.mono (by simp; omega))⟩
end Go.Proofs.Ytbnpljcjjpokjaa.viewWalk
