/- The law NetCounts. -/
import Derived.Test.YtnmamfgebbcehaaNet21
namespace Go.Proofs.Ytnmamfgebbcehaa.pk
open Go.RowKit Go.Proofs.Ytnmamfgebbcehaa.lib Go.Proofs.Ytnmamfgebbcehaa.byt
set_option linter.unusedVariables false

def NetA := Int × Option Addr × Nat × Nat × List Pk
def netV (x : NetA) : Value := .agg #[.int .i64 x.1, .slice x.2.1 x.2.2.1 x.2.2.2.1]
def I64 (x : Int) : Prop := -9223372036854775808 ≤ x ∧ x ≤ 9223372036854775807
def FactN (w : World) (x : NetA) : Prop := I64 x.1 ∧ x.2.2.1 = x.2.2.2.2.length ∧ RdP w w.heap.size x.2.1 x.2.2.2.2
theorem RightN.short {next : Int} {P : List Pk} (h : RightN next P) : ShortP P := ⟨by have := h.2.2.1; omega, fun i hi => by have := h.2.2.2 i hi; omega⟩
theorem copyM_len (next : Int) (P : List Pk) (i k : Nat) (h : P.length = k + 1) : (copyM next P i).length = k + 1 + 1 := by
  unfold copyM
  rw [List.getElem?_eq_getElem (Nat.mod_lt _ (by omega))]
  simp [h]
theorem field_net (x : Int) (A : Option Addr) (n c : Nat) (w : World) : (Instr.field 24 (.agg #[.int .i64 x, .slice A n c]) 1).run Try.prog w = .ok (.slice A n c) w := field_list x A n c w

set_option maxRecDepth 8000 in
set_option maxHeartbeats 8000000 in
theorem law_NetCounts (w : World) (x : NetA) (hx : FactN w x) (i : Int) (hi : I64 i) :
    Calls Try.prog 6 #[netV x, .int .i64 i] w fun e w' => e = .returned (.bool true) ∧ Below w.heap.size w w' := by
  obtain ⟨next, A, n, c, P⟩ := x
  obtain ⟨hI, hn, hr⟩ := hx
  unfold netV
  simp only at hI hn hr ⊢
  have HN := Lib.hid hn
  have HI := Lib.hid hI
  have hbA : Below w.heap.size w (w.alloc (.cells #[.int .i64 next, .slice A n c] 24)) := (Below.refl _ _).alloc (Nat.le_refl _) _
  have x1 : (w.alloc (.cells #[.int .i64 next, .slice A n c] 24)).cell? ⟨w.heap.size, 0, none⟩ = some (.int .i64 next) := by simp
  have x2 : (w.alloc (.cells #[.int .i64 next, .slice A n c] 24)).cell? ⟨w.heap.size, 1, none⟩ = some (.slice A n c) := by simp
  clear hn hI
  go_enter Try.func6, Try.ntmps6
  go_wp2_with fail
  generalize (w.alloc (.cells #[.int .i64 next, .slice A n c] 24)) = V at hbA x1 x2 ⊢
  refine (awake11 V).mono ?_
  rintro e w1 ⟨rfl, hb1⟩
  replace x1 := keepc x1 hb1
  replace x2 := keepc x2 hb1
  have hbw1 : Below w.heap.size w w1 := hbA.trans (hb1.mono hbA.size)
  clear hb1 hbA
  go_wp2_with fail
  refine (right_any w1 next HN.out (hr.below hbw1) hbw1.size HI.out).mono ?_
  rintro e w2 ⟨⟨t, rfl, ht⟩, hb2⟩
  replace x1 := keepc x1 hb2
  replace x2 := keepc x2 hb2
  have hbw2 : Below w.heap.size w w2 := hbw1.trans (hb2.mono hbw1.size)
  clear hb2 hbw1
  cases t
  · clear ht
    (go_wp2_with fail; refine (awake11 _).mono ?_; rintro e wz ⟨rfl, hbz⟩; go_wp2_with fail; go_ret; exact ⟨rfl, hbw2.trans (hbz.mono hbw2.size)⟩)
  have hR := ht rfl
  have HS := Lib.hid hR.short
  have HR := Lib.hid hR
  clear ht hR
  by_cases hi0 : i < 0
  · (go_wp2_with fail; refine (awake11 _).mono ?_; rintro e wz ⟨rfl, hbz⟩; go_wp2_with fail; go_ret; exact ⟨rfl, hbw2.trans (hbz.mono hbw2.size)⟩)
  obtain ⟨j, rfl⟩ : ∃ j : Nat, i = j := ⟨i.toNat, by omega⟩
  have hnx : 0 ≤ next ∧ next ≤ 4611686018427387905 := ⟨HR.out.1, by have := HR.out.2.1; omega⟩
  have HNX := Lib.hid hnx
  have hr2 : RdP w2 w.heap.size A P := hr.below hbw2
  clear hnx
  by_cases h0 : n = 0
  · subst h0
    have hP0 : P = [] := List.eq_nil_of_length_eq_zero HN.out.symm
    subst hP0
    clear hi0 hi
    go_wp2_with fail
    refine (take_any w2 next j HN.out hr2 hbw2.size HS.out false rfl).mono ?_
    rintro e w3 ⟨A3, n3, c3, Ab, m3, cb, rfl, -, hn3, -, -, hb3⟩
    obtain rfl : n3 = 0 := hn3
    have hbT : Below w2.heap.size w2 ((w3.alloc (.cells #[.int .i64 (tkP [] j).1, .int .i64 (tkP [] j).2.1, .slice Ab m3 cb] 29)).alloc (.cells #[.int .i64 next, .slice A3 0 c3] 24)) := (hb3.alloc hb3.size _).alloc (by rw [World.size_alloc]; have := hb3.size; omega) _
    replace x1 := keepc x1 hbT
    replace x2 := keepc x2 hbT
    have hbw3 : Below w.heap.size w ((w3.alloc (.cells #[.int .i64 (tkP [] j).1, .int .i64 (tkP [] j).2.1, .slice Ab m3 cb] 29)).alloc (.cells #[.int .i64 next, .slice A3 0 c3] 24)) := hbw2.trans (hbT.mono hbw2.size)
    have hr3 : RdP ((w3.alloc (.cells #[.int .i64 (tkP [] j).1, .int .i64 (tkP [] j).2.1, .slice Ab m3 cb] 29)).alloc (.cells #[.int .i64 next, .slice A3 0 c3] 24)) w.heap.size A [] := hr.below hbw3
    clear hb3 hbT hr2 hbw2
    go_wp2_with fail
    generalize ((w3.alloc (.cells #[.int .i64 (tkP [] j).1, .int .i64 (tkP [] j).2.1, .slice Ab m3 cb] 29)).alloc (.cells #[.int .i64 next, .slice A3 0 c3] 24)) = W3 at x1 x2 hbw3 hr3 ⊢
    refine (drop_any W3 next j HN.out hr3 hbw3.size HS.out).mono ?_
    rintro e w4 ⟨A4, n4, c4, rfl, hn4, -, hb4⟩
    obtain rfl : n4 = 0 := hn4
    replace x1 := keepc x1 hb4
    replace x2 := keepc x2 hb4
    have hbw4 : Below w.heap.size w w4 := hbw3.trans (hb4.mono hbw3.size)
    have hr4 : RdP w4 w.heap.size A [] := hr.below hbw4
    clear hb4 hr3 hbw3
    go_wp2_with fail
    rw [field_net]
    go_wp2_with fail
    refine (copy_any w4 next j HN.out hr4 hbw4.size HS.out HNX.out).mono ?_
    rintro e w5 ⟨A5, c5, n5, rfl, hn5, -, hb5⟩
    obtain rfl : n5 = 0 := hn5
    replace x1 := keepc x1 hb5
    replace x2 := keepc x2 hb5
    have hbw5 : Below w.heap.size w w5 := hbw4.trans (hb5.mono hbw4.size)
    have hr5 : RdP w5 w.heap.size A [] := hr.below hbw5
    clear hb5 hr4 hbw4
    go_wp2_with fail
    rw [field_net]
    go_wp2_with fail
    refine (send_any w5 (Ab := none) (m := 0) (cb := 0) (bs := []) next 0 HN.out hr5 hbw5.size HS.out rfl ⟨rfl, fun h => absurd h (by simp)⟩ (by simp) HNX.out).mono ?_
    rintro e w6 ⟨A6, c6, rfl, -, hb6⟩
    have hbw6 : Below w.heap.size w w6 := hbw5.trans (hb6.mono hbw5.size)
    clear hb6 hr5 hbw5
    go_wp2_with fail
    rw [field_net]
    go_wp2_with fail
    go_ret
    exact ⟨rfl, hbw6⟩
  · obtain ⟨k, rfl⟩ : ∃ k, n = k + 1 := ⟨n - 1, by omega⟩
    have hkl : (k : Int) < 60 := by have := HN.out; have := HR.out.2.2.1; omega
    have hPl : 0 < P.length := by have := HN.out; omega
    have hk0 : (0 : Int) < ((k + 1 : Nat) : Int) := by omega
    have hk1 : 0 < k + 1 := by omega
    have HPL := Lib.hid hPl
    clear hPl hi0 h0 hi
    go_wp2_with fail
    refine (take_any w2 next j HN.out hr2 hbw2.size HS.out true (by have := HPL.out; exact (decide_eq_true this).symm)).mono ?_
    rintro e w3 ⟨A3, n3, c3, Ab, m3, cb, rfl, -, hn3, -, -, hb3⟩
    obtain rfl : n3 = k := by rw [hn3, tkL_len j HPL.out, ← HN.out]; rfl
    clear hn3
    have hbT : Below w2.heap.size w2 ((w3.alloc (.cells #[.int .i64 (tkP P j).1, .int .i64 (tkP P j).2.1, .slice Ab m3 cb] 29)).alloc (.cells #[.int .i64 next, .slice A3 n3 c3] 24)) := (hb3.alloc hb3.size _).alloc (by rw [World.size_alloc]; have := hb3.size; omega) _
    replace x1 := keepc x1 hbT
    replace x2 := keepc x2 hbT
    have hbw3 : Below w.heap.size w ((w3.alloc (.cells #[.int .i64 (tkP P j).1, .int .i64 (tkP P j).2.1, .slice Ab m3 cb] 29)).alloc (.cells #[.int .i64 next, .slice A3 n3 c3] 24)) := hbw2.trans (hbT.mono hbw2.size)
    have hr3 : RdP ((w3.alloc (.cells #[.int .i64 (tkP P j).1, .int .i64 (tkP P j).2.1, .slice Ab m3 cb] 29)).alloc (.cells #[.int .i64 next, .slice A3 n3 c3] 24)) w.heap.size A P := hr.below hbw3
    clear hb3 hbT hr2 hbw2
    go_wp2_with fail
    generalize ((w3.alloc (.cells #[.int .i64 (tkP P j).1, .int .i64 (tkP P j).2.1, .slice Ab m3 cb] 29)).alloc (.cells #[.int .i64 next, .slice A3 n3 c3] 24)) = W3 at x1 x2 hbw3 hr3 ⊢
    refine (drop_any W3 next j HN.out hr3 hbw3.size HS.out).mono ?_
    rintro e w4 ⟨A4, n4, c4, rfl, hn4, -, hb4⟩
    obtain rfl : n4 = n3 := by rw [hn4, tkL_len j HPL.out, ← HN.out]; rfl
    replace x1 := keepc x1 hb4
    replace x2 := keepc x2 hb4
    have hbw4 : Below w.heap.size w w4 := hbw3.trans (hb4.mono hbw3.size)
    have hr4 : RdP w4 w.heap.size A P := hr.below hbw4
    clear hn4 hb4 hr3 hbw3
    go_wp2_with fail
    rw [field_net]
    go_wp2_with fail
    refine (copy_any w4 next j HN.out hr4 hbw4.size HS.out HNX.out).mono ?_
    rintro e w5 ⟨A5, c5, n5, rfl, hn5, -, hb5⟩
    obtain rfl : n5 = n4 + 1 + 1 := by rw [hn5, copyM_len next P j n4 HN.out.symm]
    replace x1 := keepc x1 hb5
    replace x2 := keepc x2 hb5
    have hbw5 : Below w.heap.size w w5 := hbw4.trans (hb5.mono hbw4.size)
    have hr5 : RdP w5 w.heap.size A P := hr.below hbw5
    clear hn5 hb5 hr4 hbw4
    go_wp2_with fail
    rw [field_net]
    go_wp2_with fail
    refine (send_any w5 (Ab := none) (m := 0) (cb := 0) (bs := []) next 0 HN.out hr5 hbw5.size HS.out rfl ⟨rfl, fun h => absurd h (by simp)⟩ (by simp) HNX.out).mono ?_
    rintro e w6 ⟨A6, c6, rfl, -, hb6⟩
    have hbw6 : Below w.heap.size w w6 := hbw5.trans (hb6.mono hbw5.size)
    clear hb6 hr5 hbw5
    go_wp2_with fail
    rw [field_net]
    go_wp2_with fail
    go_ret
    exact ⟨rfl, hbw6⟩
end Go.Proofs.Ytnmamfgebbcehaa.pk
