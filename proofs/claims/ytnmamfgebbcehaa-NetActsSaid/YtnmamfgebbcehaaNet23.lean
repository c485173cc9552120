/- The law NetActs. -/
import Derived.Test.YtnmamfgebbcehaaNet22
import Derived.Deep.RegionHeld3
namespace Go.Proofs.Ytnmamfgebbcehaa.pk
open Go.RowKit Go.Proofs.Ytnmamfgebbcehaa.lib Go.Proofs.Ytnmamfgebbcehaa.byt
set_option linter.unusedVariables false

theorem tkL_short {P : List Pk} (h : ShortP P) (i : Nat) : ShortP (tkL P i) := by
  have hl := List.length_eraseIdx_le P (i % P.length)
  refine ⟨Nat.le_trans hl h.1, fun j hj => ?_⟩
  have hm : (tkL P i)[j] ∈ P := List.mem_of_mem_eraseIdx (List.getElem_mem hj)
  obtain ⟨k, hk, e⟩ := List.getElem_of_mem hm
  rw [← e]
  exact h.2 k hk
theorem tkP_short {P : List Pk} (h : ShortP P) (i : Nat) : (tkP P i).2.2.length ≤ 1099511627770 := by
  unfold tkP
  rw [List.getD_eq_getElem?_getD]
  by_cases hk : i % P.length < P.length
  · rw [List.getElem?_eq_getElem hk]
    exact h.2 _ hk
  · rw [List.getElem?_eq_none (by omega)]
    simp
theorem snoc_short {P : List Pk} (h : ShortP P) (hl : P.length ≤ 60) (p : Pk) (hp : p.2.2.length ≤ 1099511627770) : ShortP (P ++ [p]) := by
  refine ⟨by simp; omega, fun j hj => ?_⟩
  by_cases hk : j < P.length
  · rw [List.getElem_append_left hk]
    exact h.2 j hk
  · rw [List.getElem_append_right (by omega)]
    simpa using hp
theorem copyM_short {P : List Pk} (h : ShortP P) (hl : P.length ≤ 60) (next : Int) (i : Nat) : ShortP (copyM next P i) := by
  unfold copyM
  by_cases hk : i % P.length < P.length
  · rw [List.getElem?_eq_getElem hk]
    exact snoc_short h hl _ (h.2 _ hk)
  · rw [List.getElem?_eq_none (by omega)]
    exact h
theorem cutL_short {P : List Pk} (h : ShortP P) (x : Int) : ShortP (cutL x P) := by
  refine ⟨Nat.le_trans (cutL_len x P) h.1, fun j hj => ?_⟩
  have hm : (cutL x P)[j] ∈ P := (List.mem_filter.1 (List.getElem_mem hj)).1
  obtain ⟨k, hk, e⟩ := List.getElem_of_mem hm
  rw [← e]
  exact h.2 k hk

set_option maxRecDepth 8000 in
set_option maxHeartbeats 16000000 in
theorem law_NetActs (w : World) (x : NetA) (hx : FactN w x) (to : Int) (hto : I64 to) {Ax : Option Addr} {mx cx : Nat} (hbx : ∃ bs : List UInt8, mx = bs.length ∧ mx ≤ cx ∧ RdB w w.heap.size Ax bs) (i : Int) (hi : I64 i) :
    Calls Try.prog 5 #[netV x, .int .i64 to, .slice Ax mx cx, .int .i64 i] w fun e w' => e = .returned (.bool true) ∧ Below w.heap.size w w' := by
  obtain ⟨next, A, n, c, P⟩ := x
  obtain ⟨hI, hn, hr⟩ := hx
  obtain ⟨bx, hmx, -, hrx⟩ := hbx
  unfold netV
  simp only at hI hn hr ⊢
  have HN := Lib.hid hn
  have HI := Lib.hid hI
  have HMX := Lib.hid hmx
  have hbA : Below w.heap.size w (w.alloc (.cells #[.int .i64 next, .slice A n c] 24)) := (Below.refl _ _).alloc (Nat.le_refl _) _
  have x1 : (w.alloc (.cells #[.int .i64 next, .slice A n c] 24)).cell? ⟨w.heap.size, 0, none⟩ = some (.int .i64 next) := by simp
  have x2 : (w.alloc (.cells #[.int .i64 next, .slice A n c] 24)).cell? ⟨w.heap.size, 1, none⟩ = some (.slice A n c) := by simp
  clear hn hI hmx
  go_enter Try.func5, Try.ntmps5
  go_wp2_with fail
  generalize (w.alloc (.cells #[.int .i64 next, .slice A n c] 24)) = V at hbA x1 x2 ⊢
  refine (awake11 V).mono ?_
  rintro e w1 ⟨rfl, hb1⟩
  replace x1 := keepc x1 hb1
  replace x2 := keepc x2 hb1
  have hbw1 : Below w.heap.size w w1 := hbA.trans (hb1.mono hbA.size)
  have hs1 : w.heap.size < w1.heap.size := World.block_lt_of_cell? w1 _ x1
  clear hb1 hbA
  go_wp2_with fail
  refine (right_any w1 next HN.out (hr.below hbw1) hbw1.size HI.out).mono ?_
  rintro e w2 ⟨⟨t, rfl, ht⟩, hb2⟩
  replace x1 := keepc x1 hb2
  replace x2 := keepc x2 hb2
  have hbw2 : Below w.heap.size w w2 := hbw1.trans (hb2.mono hbw1.size)
  have hs2 : w.heap.size < w2.heap.size := by have := hb2.size; omega
  clear hb2 hbw1 hs1
  cases t
  · clear ht
    (go_wp2_with fail; refine (awake11 _).mono ?_; rintro e wz ⟨rfl, hbz⟩; go_wp2_with fail; go_ret; exact ⟨rfl, hbw2.trans (hbz.mono hbw2.size)⟩)
  have hR := ht rfl
  have HS := Lib.hid hR.short
  have HR := Lib.hid hR
  clear ht hR
  by_cases hm5 : 500 < mx
  · have hm6 : (500 : Int) < mx := by omega
    (go_wp2_with fail; refine (awake11 _).mono ?_; rintro e wz ⟨rfl, hbz⟩; go_wp2_with fail; go_ret; exact ⟨rfl, hbw2.trans (hbz.mono hbw2.size)⟩)
  have hm6 : ¬ (500 : Int) < mx := by omega
  by_cases hi0 : i < 0
  · (go_wp2_with fail; refine (awake11 _).mono ?_; rintro e wz ⟨rfl, hbz⟩; go_wp2_with fail; go_ret; exact ⟨rfl, hbw2.trans (hbz.mono hbw2.size)⟩)
  obtain ⟨j, rfl⟩ : ∃ j : Nat, i = j := ⟨i.toNat, by omega⟩
  have HNX := Lib.hid (show 0 ≤ next ∧ next ≤ 4611686018427387904 from ⟨HR.out.1, HR.out.2.1⟩)
  have HXL := Lib.hid (show bx.length ≤ 1099511627770 from by have := HMX.out; omega)
  obtain ⟨ok, hok⟩ : ∃ ok, ok = decide (0 < P.length) := ⟨_, rfl⟩
  obtain ⟨p1, p2, bs, hp⟩ : ∃ a b d, tkP P j = (a, b, d) := ⟨_, _, _, rfl⟩
  obtain ⟨m, hm⟩ : ∃ m, m = bs.length := ⟨_, rfl⟩
  obtain ⟨L, hL⟩ : ∃ L, L = tkL P j := ⟨_, rfl⟩
  obtain ⟨nL, hnL⟩ : ∃ n, n = L.length := ⟨_, rfl⟩
  have hbl : bs.length ≤ 1099511627770 := by have := tkP_short HS.out j; rw [hp] at this; exact this
  have hT1 : ∀ W : World, Below w.heap.size w W → Calls Try.prog 11 #[.agg #[.int .i64 next, .slice A n c], .int .i64 j] W fun e w' => ∃ A' c' Ab cb, e = .returned (.tuple #[.agg #[.int .i64 p1, .int .i64 p2, .slice Ab m cb], .agg #[.int .i64 next, .slice A' nL c'], .bool ok]) ∧ RdB w' w'.heap.size Ab bs ∧ RdP w' w'.heap.size A' L ∧ Below W.heap.size W w' := fun W hW => by
    refine (take_any W next j HN.out (hr.below hW) hW.size HS.out ok hok).mono ?_
    rintro e w' ⟨A', n', c', Ab, m', cb, rfl, hm', hn', hE, ho, hb⟩
    obtain ⟨Ai, ci, e1, hrb, -⟩ := hE
    injection e1 with e1 _ e2
    subst e1 e2
    rw [hp] at hm' hrb
    refine ⟨A', c', Ab, cb, by rw [hp, hm', hn', hm, hnL, hL], hrb, by rw [hL]; exact ho.rd, hb⟩
  have hT2 : ∀ W : World, Below w.heap.size w W → Calls Try.prog 15 #[.agg #[.int .i64 next, .slice A n c], .int .i64 j] W fun e w' => ∃ A' c' Ab cb, e = .returned (.tuple #[.agg #[.int .i64 p1, .int .i64 p2, .slice Ab m cb], .agg #[.int .i64 next, .slice A' nL c'], .bool ok]) ∧ RdB w' w'.heap.size Ab bs ∧ RdP w' w'.heap.size A' L ∧ Below W.heap.size W w' := fun W hW => by
    refine (refTake_any W next j HN.out (hr.below hW) hW.size HS.out ok hok).mono ?_
    rintro e w' ⟨A', n', c', Ab, m', cb, rfl, hm', hn', hrb, ho, hb⟩
    rw [hp] at hm' hrb
    refine ⟨A', c', Ab, cb, by rw [hp, hm', hn', hm, hnL, hL], hrb.more (Nat.le_trans hW.size hb.size), by rw [hL]; exact ho, hb⟩
  have HT1 := Lib.hid hT1
  have HT2 := Lib.hid hT2
  have HL := Lib.hid hL
  have HNL := Lib.hid hnL
  have HM := Lib.hid hm
  have HBL := Lib.hid hbl
  have HP := Lib.hid hp
  clear hT1 hT2 hL hnL hm hbl hp hok hi hm5
  go_wp2_with fail
  refine (HT1.out w2 hbw2).mono ?_
  rintro e w3 ⟨A3, c3, Ab, cb, rfl, hrb3, hr3, hb3⟩
  have hs3 := hb3.size
  have hbU1 : Below w3.heap.size w3 ((w3.alloc (.cells #[.int .i64 p1, .int .i64 p2, .slice Ab m cb] 29)).alloc (.cells #[.int .i64 next, .slice A3 nL c3] 24)) := ((Below.refl _ _).alloc (Nat.le_refl _) _).alloc (by rw [World.size_alloc]; omega) _
  replace x1 := keepc (keepc x1 hb3) hbU1
  replace x2 := keepc (keepc x2 hb3) hbU1
  have v1 : ((w3.alloc (.cells #[.int .i64 p1, .int .i64 p2, .slice Ab m cb] 29)).alloc (.cells #[.int .i64 next, .slice A3 nL c3] 24)).cell? ⟨w3.heap.size, 0, none⟩ = some (.int .i64 p1) := by simp
  have v2 : ((w3.alloc (.cells #[.int .i64 p1, .int .i64 p2, .slice Ab m cb] 29)).alloc (.cells #[.int .i64 next, .slice A3 nL c3] 24)).cell? ⟨w3.heap.size, 1, none⟩ = some (.int .i64 p2) := by simp
  have v3 : ((w3.alloc (.cells #[.int .i64 p1, .int .i64 p2, .slice Ab m cb] 29)).alloc (.cells #[.int .i64 next, .slice A3 nL c3] 24)).cell? ⟨w3.heap.size, 2, none⟩ = some (.slice Ab m cb) := by simp
  have v4 : ((w3.alloc (.cells #[.int .i64 p1, .int .i64 p2, .slice Ab m cb] 29)).alloc (.cells #[.int .i64 next, .slice A3 nL c3] 24)).cell? ⟨w3.heap.size + 1, 0, none⟩ = some (.int .i64 next) := by simp
  have v5 : ((w3.alloc (.cells #[.int .i64 p1, .int .i64 p2, .slice Ab m cb] 29)).alloc (.cells #[.int .i64 next, .slice A3 nL c3] 24)).cell? ⟨w3.heap.size + 1, 1, none⟩ = some (.slice A3 nL c3) := by simp
  have hbwU1 : Below w.heap.size w ((w3.alloc (.cells #[.int .i64 p1, .int .i64 p2, .slice Ab m cb] 29)).alloc (.cells #[.int .i64 next, .slice A3 nL c3] 24)) := (hbw2.trans (hb3.mono hbw2.size)).trans (hbU1.mono (by omega))
  have HRB3 := Lib.hid ((hrb3.below hbU1).more hbU1.size)
  have HR3 := Lib.hid ((hr3.below hbU1).more hbU1.size)
  clear hb3 hbU1 hrb3 hr3
  go_wp2_with fail
  generalize ((w3.alloc (.cells #[.int .i64 p1, .int .i64 p2, .slice Ab m cb] 29)).alloc (.cells #[.int .i64 next, .slice A3 nL c3] 24)) = U1 at x1 x2 v1 v2 v3 v4 v5 hbwU1 HRB3 HR3 ⊢
  refine (HT2.out U1 hbwU1).mono ?_
  rintro e w4 ⟨A4, c4, Ab4, cb4, rfl, hrb4, hr4, hb4⟩
  have hbU2 : Below w4.heap.size w4 ((w4.alloc (.cells #[.int .i64 p1, .int .i64 p2, .slice Ab4 m cb4] 29)).alloc (.cells #[.int .i64 next, .slice A4 nL c4] 24)) := ((Below.refl _ _).alloc (Nat.le_refl _) _).alloc (by rw [World.size_alloc]; omega) _
  replace x1 := keepc (keepc x1 hb4) hbU2
  replace x2 := keepc (keepc x2 hb4) hbU2
  replace v1 := keepc (keepc v1 hb4) hbU2
  replace v2 := keepc (keepc v2 hb4) hbU2
  replace v3 := keepc (keepc v3 hb4) hbU2
  replace v4 := keepc (keepc v4 hb4) hbU2
  replace v5 := keepc (keepc v5 hb4) hbU2
  have u1 : ((w4.alloc (.cells #[.int .i64 p1, .int .i64 p2, .slice Ab4 m cb4] 29)).alloc (.cells #[.int .i64 next, .slice A4 nL c4] 24)).cell? ⟨w4.heap.size, 0, none⟩ = some (.int .i64 p1) := by simp
  have u2 : ((w4.alloc (.cells #[.int .i64 p1, .int .i64 p2, .slice Ab4 m cb4] 29)).alloc (.cells #[.int .i64 next, .slice A4 nL c4] 24)).cell? ⟨w4.heap.size, 1, none⟩ = some (.int .i64 p2) := by simp
  have u3 : ((w4.alloc (.cells #[.int .i64 p1, .int .i64 p2, .slice Ab4 m cb4] 29)).alloc (.cells #[.int .i64 next, .slice A4 nL c4] 24)).cell? ⟨w4.heap.size, 2, none⟩ = some (.slice Ab4 m cb4) := by simp
  have u4 : ((w4.alloc (.cells #[.int .i64 p1, .int .i64 p2, .slice Ab4 m cb4] 29)).alloc (.cells #[.int .i64 next, .slice A4 nL c4] 24)).cell? ⟨w4.heap.size + 1, 0, none⟩ = some (.int .i64 next) := by simp
  have u5 : ((w4.alloc (.cells #[.int .i64 p1, .int .i64 p2, .slice Ab4 m cb4] 29)).alloc (.cells #[.int .i64 next, .slice A4 nL c4] 24)).cell? ⟨w4.heap.size + 1, 1, none⟩ = some (.slice A4 nL c4) := by simp
  have hbU12 : Below U1.heap.size U1 ((w4.alloc (.cells #[.int .i64 p1, .int .i64 p2, .slice Ab4 m cb4] 29)).alloc (.cells #[.int .i64 next, .slice A4 nL c4] 24)) := hb4.trans (hbU2.mono hb4.size)
  have hbwU : Below w.heap.size w ((w4.alloc (.cells #[.int .i64 p1, .int .i64 p2, .slice Ab4 m cb4] 29)).alloc (.cells #[.int .i64 next, .slice A4 nL c4] 24)) := hbwU1.trans (hbU12.mono hbwU1.size)
  have HRB3' := Lib.hid ((HRB3.out.below hbU12).more hbU12.size)
  have HR3' := Lib.hid ((HR3.out.below hbU12).more hbU12.size)
  have HRB4 := Lib.hid ((hrb4.below hbU2).more hbU2.size)
  have HR4 := Lib.hid ((hr4.below hbU2).more hbU2.size)
  clear hb4 hbU2 hrb4 hr4 hbU12 hbwU1 HRB3 HR3 hbw2 HT1 HT2
  go_wp2_with fail
  generalize ((w4.alloc (.cells #[.int .i64 p1, .int .i64 p2, .slice Ab4 m cb4] 29)).alloc (.cells #[.int .i64 next, .slice A4 nL c4] 24)) = U at x1 x2 v1 v2 v3 v4 v5 u1 u2 u3 u4 u5 hbwU HRB3' HR3' HRB4 HR4 ⊢
  have hP : ∀ W W' : World, (Below U.heap.size U W ∧ RdP W W.heap.size A3 L ∧ RdP W W.heap.size A4 L ∧ W.cell? ⟨w.heap.size, 0, none⟩ = some (.int .i64 next) ∧ W.cell? ⟨w.heap.size, 1, none⟩ = some (.slice A n c) ∧ W.cell? ⟨w3.heap.size, 0, none⟩ = some (.int .i64 p1) ∧ W.cell? ⟨w3.heap.size, 1, none⟩ = some (.int .i64 p2) ∧ W.cell? ⟨w3.heap.size, 2, none⟩ = some (.slice Ab m cb) ∧ W.cell? ⟨w3.heap.size + 1, 0, none⟩ = some (.int .i64 next) ∧ W.cell? ⟨w3.heap.size + 1, 1, none⟩ = some (.slice A3 nL c3) ∧ W.cell? ⟨w4.heap.size, 0, none⟩ = some (.int .i64 p1) ∧ W.cell? ⟨w4.heap.size, 1, none⟩ = some (.int .i64 p2) ∧ W.cell? ⟨w4.heap.size, 2, none⟩ = some (.slice Ab4 m cb4) ∧ W.cell? ⟨w4.heap.size + 1, 0, none⟩ = some (.int .i64 next) ∧ W.cell? ⟨w4.heap.size + 1, 1, none⟩ = some (.slice A4 nL c4)) → Below W.heap.size W W' → (Below U.heap.size U W' ∧ RdP W' W'.heap.size A3 L ∧ RdP W' W'.heap.size A4 L ∧ W'.cell? ⟨w.heap.size, 0, none⟩ = some (.int .i64 next) ∧ W'.cell? ⟨w.heap.size, 1, none⟩ = some (.slice A n c) ∧ W'.cell? ⟨w3.heap.size, 0, none⟩ = some (.int .i64 p1) ∧ W'.cell? ⟨w3.heap.size, 1, none⟩ = some (.int .i64 p2) ∧ W'.cell? ⟨w3.heap.size, 2, none⟩ = some (.slice Ab m cb) ∧ W'.cell? ⟨w3.heap.size + 1, 0, none⟩ = some (.int .i64 next) ∧ W'.cell? ⟨w3.heap.size + 1, 1, none⟩ = some (.slice A3 nL c3) ∧ W'.cell? ⟨w4.heap.size, 0, none⟩ = some (.int .i64 p1) ∧ W'.cell? ⟨w4.heap.size, 1, none⟩ = some (.int .i64 p2) ∧ W'.cell? ⟨w4.heap.size, 2, none⟩ = some (.slice Ab4 m cb4) ∧ W'.cell? ⟨w4.heap.size + 1, 0, none⟩ = some (.int .i64 next) ∧ W'.cell? ⟨w4.heap.size + 1, 1, none⟩ = some (.slice A4 nL c4)) := fun W W' h hb => ⟨h.1.trans (hb.mono h.1.size), (h.2.1.below hb).more hb.size, (h.2.2.1.below hb).more hb.size, keepc h.2.2.2.1 hb, keepc h.2.2.2.2.1 hb, keepc h.2.2.2.2.2.1 hb, keepc h.2.2.2.2.2.2.1 hb, keepc h.2.2.2.2.2.2.2.1 hb, keepc h.2.2.2.2.2.2.2.2.1 hb, keepc h.2.2.2.2.2.2.2.2.2.1 hb, keepc h.2.2.2.2.2.2.2.2.2.2.1 hb, keepc h.2.2.2.2.2.2.2.2.2.2.2.1 hb, keepc h.2.2.2.2.2.2.2.2.2.2.2.2.1 hb, keepc h.2.2.2.2.2.2.2.2.2.2.2.2.2.1 hb, keepc h.2.2.2.2.2.2.2.2.2.2.2.2.2.2 hb⟩
  have hD : ∀ W : World, (Below U.heap.size U W ∧ RdP W W.heap.size A3 L ∧ RdP W W.heap.size A4 L ∧ W.cell? ⟨w.heap.size, 0, none⟩ = some (.int .i64 next) ∧ W.cell? ⟨w.heap.size, 1, none⟩ = some (.slice A n c) ∧ W.cell? ⟨w3.heap.size, 0, none⟩ = some (.int .i64 p1) ∧ W.cell? ⟨w3.heap.size, 1, none⟩ = some (.int .i64 p2) ∧ W.cell? ⟨w3.heap.size, 2, none⟩ = some (.slice Ab m cb) ∧ W.cell? ⟨w3.heap.size + 1, 0, none⟩ = some (.int .i64 next) ∧ W.cell? ⟨w3.heap.size + 1, 1, none⟩ = some (.slice A3 nL c3) ∧ W.cell? ⟨w4.heap.size, 0, none⟩ = some (.int .i64 p1) ∧ W.cell? ⟨w4.heap.size, 1, none⟩ = some (.int .i64 p2) ∧ W.cell? ⟨w4.heap.size, 2, none⟩ = some (.slice Ab4 m cb4) ∧ W.cell? ⟨w4.heap.size + 1, 0, none⟩ = some (.int .i64 next) ∧ W.cell? ⟨w4.heap.size + 1, 1, none⟩ = some (.slice A4 nL c4)) → (Below U.heap.size U W.drew ∧ RdP W.drew W.drew.heap.size A3 L ∧ RdP W.drew W.drew.heap.size A4 L ∧ W.drew.cell? ⟨w.heap.size, 0, none⟩ = some (.int .i64 next) ∧ W.drew.cell? ⟨w.heap.size, 1, none⟩ = some (.slice A n c) ∧ W.drew.cell? ⟨w3.heap.size, 0, none⟩ = some (.int .i64 p1) ∧ W.drew.cell? ⟨w3.heap.size, 1, none⟩ = some (.int .i64 p2) ∧ W.drew.cell? ⟨w3.heap.size, 2, none⟩ = some (.slice Ab m cb) ∧ W.drew.cell? ⟨w3.heap.size + 1, 0, none⟩ = some (.int .i64 next) ∧ W.drew.cell? ⟨w3.heap.size + 1, 1, none⟩ = some (.slice A3 nL c3) ∧ W.drew.cell? ⟨w4.heap.size, 0, none⟩ = some (.int .i64 p1) ∧ W.drew.cell? ⟨w4.heap.size, 1, none⟩ = some (.int .i64 p2) ∧ W.drew.cell? ⟨w4.heap.size, 2, none⟩ = some (.slice Ab4 m cb4) ∧ W.drew.cell? ⟨w4.heap.size + 1, 0, none⟩ = some (.int .i64 next) ∧ W.drew.cell? ⟨w4.heap.size + 1, 1, none⟩ = some (.slice A4 nL c4)) := fun W h => ⟨below_drewN h.1 1, h.2.1, h.2.2.1, h.2.2.2.1, h.2.2.2.2.1, h.2.2.2.2.2.1, h.2.2.2.2.2.2.1, h.2.2.2.2.2.2.2.1, h.2.2.2.2.2.2.2.2.1, h.2.2.2.2.2.2.2.2.2.1, h.2.2.2.2.2.2.2.2.2.2.1, h.2.2.2.2.2.2.2.2.2.2.2.1, h.2.2.2.2.2.2.2.2.2.2.2.2.1, h.2.2.2.2.2.2.2.2.2.2.2.2.2.1, h.2.2.2.2.2.2.2.2.2.2.2.2.2.2⟩
  have hK : ∀ W : World, Below U.heap.size U W → RdP W w.heap.size A P ∧ w.heap.size ≤ W.heap.size ∧ RdB W W.heap.size Ab bs ∧ RdB W W.heap.size Ab4 bs ∧ RdB W w.heap.size Ax bx := fun W h =>
    ⟨hr.below (hbwU.trans (h.mono hbwU.size)), Nat.le_trans hbwU.size h.size, (HRB3'.out.below h).more h.size, (HRB4.out.below h).more h.size, hrx.below (hbwU.trans (h.mono hbwU.size))⟩
  obtain ⟨X, hX⟩ : ∃ X, X = P ++ [(next, to, bx)] := ⟨_, rfl⟩
  obtain ⟨nX, hnX⟩ : ∃ n, n = X.length := ⟨_, rfl⟩
  obtain ⟨Y, hY⟩ : ∃ X, X = copyM next P j := ⟨_, rfl⟩
  obtain ⟨nY, hnY⟩ : ∃ n, n = Y.length := ⟨_, rfl⟩
  obtain ⟨yn, hyn⟩ : ∃ n, n = copyN next P := ⟨_, rfl⟩
  obtain ⟨xn, hxn⟩ : ∃ n, n = next + 1 := ⟨_, rfl⟩
  obtain ⟨Z, hZ⟩ : ∃ X, X = cutL to P := ⟨_, rfl⟩
  obtain ⟨nZ, hnZ⟩ : ∃ n, n = Z.length := ⟨_, rfl⟩
  have hXn : n + 1 = nX := by rw [hnX, hX, HN.out]; simp
  have hP60 := HR.out.2.2.1
  have sX : ShortP X := by rw [hX]; exact snoc_short HS.out hP60 _ HXL.out
  have sY : ShortP Y := by rw [hY]; exact copyM_short HS.out hP60 _ _
  have sZ : ShortP Z := by rw [hZ]; exact cutL_short HS.out _
  have sL : ShortP L := by rw [HL.out]; exact tkL_short HS.out _
  have hC1 : ∀ W : World, (Below U.heap.size U W ∧ RdP W W.heap.size A3 L ∧ RdP W W.heap.size A4 L ∧ W.cell? ⟨w.heap.size, 0, none⟩ = some (.int .i64 next) ∧ W.cell? ⟨w.heap.size, 1, none⟩ = some (.slice A n c) ∧ W.cell? ⟨w3.heap.size, 0, none⟩ = some (.int .i64 p1) ∧ W.cell? ⟨w3.heap.size, 1, none⟩ = some (.int .i64 p2) ∧ W.cell? ⟨w3.heap.size, 2, none⟩ = some (.slice Ab m cb) ∧ W.cell? ⟨w3.heap.size + 1, 0, none⟩ = some (.int .i64 next) ∧ W.cell? ⟨w3.heap.size + 1, 1, none⟩ = some (.slice A3 nL c3) ∧ W.cell? ⟨w4.heap.size, 0, none⟩ = some (.int .i64 p1) ∧ W.cell? ⟨w4.heap.size, 1, none⟩ = some (.int .i64 p2) ∧ W.cell? ⟨w4.heap.size, 2, none⟩ = some (.slice Ab4 m cb4) ∧ W.cell? ⟨w4.heap.size + 1, 0, none⟩ = some (.int .i64 next) ∧ W.cell? ⟨w4.heap.size + 1, 1, none⟩ = some (.slice A4 nL c4)) → Calls Try.prog 10 #[.agg #[.int .i64 next, .slice A n c], .int .i64 to, .slice Ax mx cx] W fun e W' => ∃ A' c', e = .returned (.agg #[.int .i64 xn, .slice A' nX c']) ∧ RdP W' W'.heap.size A' X ∧ (Below U.heap.size U W' ∧ RdP W' W'.heap.size A3 L ∧ RdP W' W'.heap.size A4 L ∧ W'.cell? ⟨w.heap.size, 0, none⟩ = some (.int .i64 next) ∧ W'.cell? ⟨w.heap.size, 1, none⟩ = some (.slice A n c) ∧ W'.cell? ⟨w3.heap.size, 0, none⟩ = some (.int .i64 p1) ∧ W'.cell? ⟨w3.heap.size, 1, none⟩ = some (.int .i64 p2) ∧ W'.cell? ⟨w3.heap.size, 2, none⟩ = some (.slice Ab m cb) ∧ W'.cell? ⟨w3.heap.size + 1, 0, none⟩ = some (.int .i64 next) ∧ W'.cell? ⟨w3.heap.size + 1, 1, none⟩ = some (.slice A3 nL c3) ∧ W'.cell? ⟨w4.heap.size, 0, none⟩ = some (.int .i64 p1) ∧ W'.cell? ⟨w4.heap.size, 1, none⟩ = some (.int .i64 p2) ∧ W'.cell? ⟨w4.heap.size, 2, none⟩ = some (.slice Ab4 m cb4) ∧ W'.cell? ⟨w4.heap.size + 1, 0, none⟩ = some (.int .i64 next) ∧ W'.cell? ⟨w4.heap.size + 1, 1, none⟩ = some (.slice A4 nL c4)) := fun W h => by
    obtain ⟨g1, g2, g3, g4, g5⟩ := hK W h.1
    refine (send_any W next to HN.out g1 g2 HS.out HMX.out g5 HXL.out HNX.out).mono ?_
    rintro e W' ⟨A', c', rfl, ho, hb⟩
    exact ⟨A', c', by rw [hxn, hXn], by rw [hX]; exact ho.rd, hP W W' h hb⟩
  have hC2 : ∀ (W : World) (A5 : Option Addr), (Below U.heap.size U W ∧ RdP W W.heap.size A3 L ∧ RdP W W.heap.size A4 L ∧ W.cell? ⟨w.heap.size, 0, none⟩ = some (.int .i64 next) ∧ W.cell? ⟨w.heap.size, 1, none⟩ = some (.slice A n c) ∧ W.cell? ⟨w3.heap.size, 0, none⟩ = some (.int .i64 p1) ∧ W.cell? ⟨w3.heap.size, 1, none⟩ = some (.int .i64 p2) ∧ W.cell? ⟨w3.heap.size, 2, none⟩ = some (.slice Ab m cb) ∧ W.cell? ⟨w3.heap.size + 1, 0, none⟩ = some (.int .i64 next) ∧ W.cell? ⟨w3.heap.size + 1, 1, none⟩ = some (.slice A3 nL c3) ∧ W.cell? ⟨w4.heap.size, 0, none⟩ = some (.int .i64 p1) ∧ W.cell? ⟨w4.heap.size, 1, none⟩ = some (.int .i64 p2) ∧ W.cell? ⟨w4.heap.size, 2, none⟩ = some (.slice Ab4 m cb4) ∧ W.cell? ⟨w4.heap.size + 1, 0, none⟩ = some (.int .i64 next) ∧ W.cell? ⟨w4.heap.size + 1, 1, none⟩ = some (.slice A4 nL c4)) → RdP W W.heap.size A5 X → Calls Try.prog 16 #[.agg #[.int .i64 next, .slice A n c], .int .i64 to, .slice Ax mx cx] W fun e W' => ∃ A' c', e = .returned (.agg #[.int .i64 xn, .slice A' nX c']) ∧ RdP W' W'.heap.size A' X ∧ RdP W' W'.heap.size A5 X ∧ (Below U.heap.size U W' ∧ RdP W' W'.heap.size A3 L ∧ RdP W' W'.heap.size A4 L ∧ W'.cell? ⟨w.heap.size, 0, none⟩ = some (.int .i64 next) ∧ W'.cell? ⟨w.heap.size, 1, none⟩ = some (.slice A n c) ∧ W'.cell? ⟨w3.heap.size, 0, none⟩ = some (.int .i64 p1) ∧ W'.cell? ⟨w3.heap.size, 1, none⟩ = some (.int .i64 p2) ∧ W'.cell? ⟨w3.heap.size, 2, none⟩ = some (.slice Ab m cb) ∧ W'.cell? ⟨w3.heap.size + 1, 0, none⟩ = some (.int .i64 next) ∧ W'.cell? ⟨w3.heap.size + 1, 1, none⟩ = some (.slice A3 nL c3) ∧ W'.cell? ⟨w4.heap.size, 0, none⟩ = some (.int .i64 p1) ∧ W'.cell? ⟨w4.heap.size, 1, none⟩ = some (.int .i64 p2) ∧ W'.cell? ⟨w4.heap.size, 2, none⟩ = some (.slice Ab4 m cb4) ∧ W'.cell? ⟨w4.heap.size + 1, 0, none⟩ = some (.int .i64 next) ∧ W'.cell? ⟨w4.heap.size + 1, 1, none⟩ = some (.slice A4 nL c4)) := fun W A5 h hq => by
    obtain ⟨g1, g2, g3, g4, g5⟩ := hK W h.1
    refine (refSend_any W next to HN.out g1 g2 HS.out.1 HMX.out g5 HNX.out).mono ?_
    rintro e W' ⟨A', c', rfl, ho, hb⟩
    exact ⟨A', c', by rw [hxn, hXn], by rw [hX]; exact ho.rd (Nat.le_trans g2 hb.size), (hq.below hb).more hb.size, hP W W' h hb⟩
  have hE1 : ∀ W : World, (Below U.heap.size U W ∧ RdP W W.heap.size A3 L ∧ RdP W W.heap.size A4 L ∧ W.cell? ⟨w.heap.size, 0, none⟩ = some (.int .i64 next) ∧ W.cell? ⟨w.heap.size, 1, none⟩ = some (.slice A n c) ∧ W.cell? ⟨w3.heap.size, 0, none⟩ = some (.int .i64 p1) ∧ W.cell? ⟨w3.heap.size, 1, none⟩ = some (.int .i64 p2) ∧ W.cell? ⟨w3.heap.size, 2, none⟩ = some (.slice Ab m cb) ∧ W.cell? ⟨w3.heap.size + 1, 0, none⟩ = some (.int .i64 next) ∧ W.cell? ⟨w3.heap.size + 1, 1, none⟩ = some (.slice A3 nL c3) ∧ W.cell? ⟨w4.heap.size, 0, none⟩ = some (.int .i64 p1) ∧ W.cell? ⟨w4.heap.size, 1, none⟩ = some (.int .i64 p2) ∧ W.cell? ⟨w4.heap.size, 2, none⟩ = some (.slice Ab4 m cb4) ∧ W.cell? ⟨w4.heap.size + 1, 0, none⟩ = some (.int .i64 next) ∧ W.cell? ⟨w4.heap.size + 1, 1, none⟩ = some (.slice A4 nL c4)) → Calls Try.prog 17 #[.agg #[.int .i64 next, .slice A n c], .int .i64 j] W fun e W' => ∃ A' c', e = .returned (.agg #[.int .i64 next, .slice A' nL c']) ∧ RdP W' W'.heap.size A' L ∧ (Below U.heap.size U W' ∧ RdP W' W'.heap.size A3 L ∧ RdP W' W'.heap.size A4 L ∧ W'.cell? ⟨w.heap.size, 0, none⟩ = some (.int .i64 next) ∧ W'.cell? ⟨w.heap.size, 1, none⟩ = some (.slice A n c) ∧ W'.cell? ⟨w3.heap.size, 0, none⟩ = some (.int .i64 p1) ∧ W'.cell? ⟨w3.heap.size, 1, none⟩ = some (.int .i64 p2) ∧ W'.cell? ⟨w3.heap.size, 2, none⟩ = some (.slice Ab m cb) ∧ W'.cell? ⟨w3.heap.size + 1, 0, none⟩ = some (.int .i64 next) ∧ W'.cell? ⟨w3.heap.size + 1, 1, none⟩ = some (.slice A3 nL c3) ∧ W'.cell? ⟨w4.heap.size, 0, none⟩ = some (.int .i64 p1) ∧ W'.cell? ⟨w4.heap.size, 1, none⟩ = some (.int .i64 p2) ∧ W'.cell? ⟨w4.heap.size, 2, none⟩ = some (.slice Ab4 m cb4) ∧ W'.cell? ⟨w4.heap.size + 1, 0, none⟩ = some (.int .i64 next) ∧ W'.cell? ⟨w4.heap.size + 1, 1, none⟩ = some (.slice A4 nL c4)) := fun W h => by
    obtain ⟨g1, g2, g3, g4, g5⟩ := hK W h.1
    refine (drop_any W next j HN.out g1 g2 HS.out).mono ?_
    rintro e W' ⟨A', n', c', rfl, hn', ho, hb⟩
    exact ⟨A', c', by rw [hn', HNL.out, HL.out], by rw [HL.out]; exact ho.rd, hP W W' h hb⟩
  have hF1 : ∀ W : World, (Below U.heap.size U W ∧ RdP W W.heap.size A3 L ∧ RdP W W.heap.size A4 L ∧ W.cell? ⟨w.heap.size, 0, none⟩ = some (.int .i64 next) ∧ W.cell? ⟨w.heap.size, 1, none⟩ = some (.slice A n c) ∧ W.cell? ⟨w3.heap.size, 0, none⟩ = some (.int .i64 p1) ∧ W.cell? ⟨w3.heap.size, 1, none⟩ = some (.int .i64 p2) ∧ W.cell? ⟨w3.heap.size, 2, none⟩ = some (.slice Ab m cb) ∧ W.cell? ⟨w3.heap.size + 1, 0, none⟩ = some (.int .i64 next) ∧ W.cell? ⟨w3.heap.size + 1, 1, none⟩ = some (.slice A3 nL c3) ∧ W.cell? ⟨w4.heap.size, 0, none⟩ = some (.int .i64 p1) ∧ W.cell? ⟨w4.heap.size, 1, none⟩ = some (.int .i64 p2) ∧ W.cell? ⟨w4.heap.size, 2, none⟩ = some (.slice Ab4 m cb4) ∧ W.cell? ⟨w4.heap.size + 1, 0, none⟩ = some (.int .i64 next) ∧ W.cell? ⟨w4.heap.size + 1, 1, none⟩ = some (.slice A4 nL c4)) → Calls Try.prog 9 #[.agg #[.int .i64 next, .slice A n c], .int .i64 j] W fun e W' => ∃ A' c', e = .returned (.agg #[.int .i64 yn, .slice A' nY c']) ∧ RdP W' W'.heap.size A' Y ∧ (Below U.heap.size U W' ∧ RdP W' W'.heap.size A3 L ∧ RdP W' W'.heap.size A4 L ∧ W'.cell? ⟨w.heap.size, 0, none⟩ = some (.int .i64 next) ∧ W'.cell? ⟨w.heap.size, 1, none⟩ = some (.slice A n c) ∧ W'.cell? ⟨w3.heap.size, 0, none⟩ = some (.int .i64 p1) ∧ W'.cell? ⟨w3.heap.size, 1, none⟩ = some (.int .i64 p2) ∧ W'.cell? ⟨w3.heap.size, 2, none⟩ = some (.slice Ab m cb) ∧ W'.cell? ⟨w3.heap.size + 1, 0, none⟩ = some (.int .i64 next) ∧ W'.cell? ⟨w3.heap.size + 1, 1, none⟩ = some (.slice A3 nL c3) ∧ W'.cell? ⟨w4.heap.size, 0, none⟩ = some (.int .i64 p1) ∧ W'.cell? ⟨w4.heap.size, 1, none⟩ = some (.int .i64 p2) ∧ W'.cell? ⟨w4.heap.size, 2, none⟩ = some (.slice Ab4 m cb4) ∧ W'.cell? ⟨w4.heap.size + 1, 0, none⟩ = some (.int .i64 next) ∧ W'.cell? ⟨w4.heap.size + 1, 1, none⟩ = some (.slice A4 nL c4)) := fun W h => by
    obtain ⟨g1, g2, g3, g4, g5⟩ := hK W h.1
    refine (copy_any W next j HN.out g1 g2 HS.out HNX.out).mono ?_
    rintro e W' ⟨A', c', n', rfl, hn', ho, hb⟩
    exact ⟨A', c', by rw [hyn, hn', hnY, hY], by rw [hY]; exact ho.rd, hP W W' h hb⟩
  have hF2 : ∀ (W : World) (A5 : Option Addr), (Below U.heap.size U W ∧ RdP W W.heap.size A3 L ∧ RdP W W.heap.size A4 L ∧ W.cell? ⟨w.heap.size, 0, none⟩ = some (.int .i64 next) ∧ W.cell? ⟨w.heap.size, 1, none⟩ = some (.slice A n c) ∧ W.cell? ⟨w3.heap.size, 0, none⟩ = some (.int .i64 p1) ∧ W.cell? ⟨w3.heap.size, 1, none⟩ = some (.int .i64 p2) ∧ W.cell? ⟨w3.heap.size, 2, none⟩ = some (.slice Ab m cb) ∧ W.cell? ⟨w3.heap.size + 1, 0, none⟩ = some (.int .i64 next) ∧ W.cell? ⟨w3.heap.size + 1, 1, none⟩ = some (.slice A3 nL c3) ∧ W.cell? ⟨w4.heap.size, 0, none⟩ = some (.int .i64 p1) ∧ W.cell? ⟨w4.heap.size, 1, none⟩ = some (.int .i64 p2) ∧ W.cell? ⟨w4.heap.size, 2, none⟩ = some (.slice Ab4 m cb4) ∧ W.cell? ⟨w4.heap.size + 1, 0, none⟩ = some (.int .i64 next) ∧ W.cell? ⟨w4.heap.size + 1, 1, none⟩ = some (.slice A4 nL c4)) → RdP W W.heap.size A5 Y → Calls Try.prog 18 #[.agg #[.int .i64 next, .slice A n c], .int .i64 j] W fun e W' => ∃ A' c', e = .returned (.agg #[.int .i64 yn, .slice A' nY c']) ∧ RdP W' W'.heap.size A' Y ∧ RdP W' W'.heap.size A5 Y ∧ (Below U.heap.size U W' ∧ RdP W' W'.heap.size A3 L ∧ RdP W' W'.heap.size A4 L ∧ W'.cell? ⟨w.heap.size, 0, none⟩ = some (.int .i64 next) ∧ W'.cell? ⟨w.heap.size, 1, none⟩ = some (.slice A n c) ∧ W'.cell? ⟨w3.heap.size, 0, none⟩ = some (.int .i64 p1) ∧ W'.cell? ⟨w3.heap.size, 1, none⟩ = some (.int .i64 p2) ∧ W'.cell? ⟨w3.heap.size, 2, none⟩ = some (.slice Ab m cb) ∧ W'.cell? ⟨w3.heap.size + 1, 0, none⟩ = some (.int .i64 next) ∧ W'.cell? ⟨w3.heap.size + 1, 1, none⟩ = some (.slice A3 nL c3) ∧ W'.cell? ⟨w4.heap.size, 0, none⟩ = some (.int .i64 p1) ∧ W'.cell? ⟨w4.heap.size, 1, none⟩ = some (.int .i64 p2) ∧ W'.cell? ⟨w4.heap.size, 2, none⟩ = some (.slice Ab4 m cb4) ∧ W'.cell? ⟨w4.heap.size + 1, 0, none⟩ = some (.int .i64 next) ∧ W'.cell? ⟨w4.heap.size + 1, 1, none⟩ = some (.slice A4 nL c4)) := fun W A5 h hq => by
    obtain ⟨g1, g2, g3, g4, g5⟩ := hK W h.1
    refine (refCopy_any W next j HN.out g1 g2 HS.out HNX.out).mono ?_
    rintro e W' ⟨A', n', c', rfl, hn', ho, hb⟩
    exact ⟨A', c', by rw [hyn, hn', hnY, hY], by rw [hY]; exact ho, (hq.below hb).more hb.size, hP W W' h hb⟩
  have hG1 : ∀ W : World, (Below U.heap.size U W ∧ RdP W W.heap.size A3 L ∧ RdP W W.heap.size A4 L ∧ W.cell? ⟨w.heap.size, 0, none⟩ = some (.int .i64 next) ∧ W.cell? ⟨w.heap.size, 1, none⟩ = some (.slice A n c) ∧ W.cell? ⟨w3.heap.size, 0, none⟩ = some (.int .i64 p1) ∧ W.cell? ⟨w3.heap.size, 1, none⟩ = some (.int .i64 p2) ∧ W.cell? ⟨w3.heap.size, 2, none⟩ = some (.slice Ab m cb) ∧ W.cell? ⟨w3.heap.size + 1, 0, none⟩ = some (.int .i64 next) ∧ W.cell? ⟨w3.heap.size + 1, 1, none⟩ = some (.slice A3 nL c3) ∧ W.cell? ⟨w4.heap.size, 0, none⟩ = some (.int .i64 p1) ∧ W.cell? ⟨w4.heap.size, 1, none⟩ = some (.int .i64 p2) ∧ W.cell? ⟨w4.heap.size, 2, none⟩ = some (.slice Ab4 m cb4) ∧ W.cell? ⟨w4.heap.size + 1, 0, none⟩ = some (.int .i64 next) ∧ W.cell? ⟨w4.heap.size + 1, 1, none⟩ = some (.slice A4 nL c4)) → Calls Try.prog 19 #[.agg #[.int .i64 next, .slice A n c], .int .i64 to] W fun e W' => ∃ A' c', e = .returned (.agg #[.int .i64 next, .slice A' nZ c']) ∧ RdP W' W'.heap.size A' Z ∧ (Below U.heap.size U W' ∧ RdP W' W'.heap.size A3 L ∧ RdP W' W'.heap.size A4 L ∧ W'.cell? ⟨w.heap.size, 0, none⟩ = some (.int .i64 next) ∧ W'.cell? ⟨w.heap.size, 1, none⟩ = some (.slice A n c) ∧ W'.cell? ⟨w3.heap.size, 0, none⟩ = some (.int .i64 p1) ∧ W'.cell? ⟨w3.heap.size, 1, none⟩ = some (.int .i64 p2) ∧ W'.cell? ⟨w3.heap.size, 2, none⟩ = some (.slice Ab m cb) ∧ W'.cell? ⟨w3.heap.size + 1, 0, none⟩ = some (.int .i64 next) ∧ W'.cell? ⟨w3.heap.size + 1, 1, none⟩ = some (.slice A3 nL c3) ∧ W'.cell? ⟨w4.heap.size, 0, none⟩ = some (.int .i64 p1) ∧ W'.cell? ⟨w4.heap.size, 1, none⟩ = some (.int .i64 p2) ∧ W'.cell? ⟨w4.heap.size, 2, none⟩ = some (.slice Ab4 m cb4) ∧ W'.cell? ⟨w4.heap.size + 1, 0, none⟩ = some (.int .i64 next) ∧ W'.cell? ⟨w4.heap.size + 1, 1, none⟩ = some (.slice A4 nL c4)) := fun W h => by
    obtain ⟨g1, g2, g3, g4, g5⟩ := hK W h.1
    refine (cut_any W next to HN.out g1 g2 HS.out).mono ?_
    rintro e W' ⟨A', n', c', rfl, hn', ho, hb⟩
    exact ⟨A', c', by rw [hn', hnZ, hZ], by rw [hZ]; exact ho.rd, hP W W' h hb⟩
  have hG2 : ∀ (W : World) (A5 : Option Addr), (Below U.heap.size U W ∧ RdP W W.heap.size A3 L ∧ RdP W W.heap.size A4 L ∧ W.cell? ⟨w.heap.size, 0, none⟩ = some (.int .i64 next) ∧ W.cell? ⟨w.heap.size, 1, none⟩ = some (.slice A n c) ∧ W.cell? ⟨w3.heap.size, 0, none⟩ = some (.int .i64 p1) ∧ W.cell? ⟨w3.heap.size, 1, none⟩ = some (.int .i64 p2) ∧ W.cell? ⟨w3.heap.size, 2, none⟩ = some (.slice Ab m cb) ∧ W.cell? ⟨w3.heap.size + 1, 0, none⟩ = some (.int .i64 next) ∧ W.cell? ⟨w3.heap.size + 1, 1, none⟩ = some (.slice A3 nL c3) ∧ W.cell? ⟨w4.heap.size, 0, none⟩ = some (.int .i64 p1) ∧ W.cell? ⟨w4.heap.size, 1, none⟩ = some (.int .i64 p2) ∧ W.cell? ⟨w4.heap.size, 2, none⟩ = some (.slice Ab4 m cb4) ∧ W.cell? ⟨w4.heap.size + 1, 0, none⟩ = some (.int .i64 next) ∧ W.cell? ⟨w4.heap.size + 1, 1, none⟩ = some (.slice A4 nL c4)) → RdP W W.heap.size A5 Z → Calls Try.prog 20 #[.agg #[.int .i64 next, .slice A n c], .int .i64 to] W fun e W' => ∃ A' c', e = .returned (.agg #[.int .i64 next, .slice A' nZ c']) ∧ RdP W' W'.heap.size A' Z ∧ RdP W' W'.heap.size A5 Z ∧ (Below U.heap.size U W' ∧ RdP W' W'.heap.size A3 L ∧ RdP W' W'.heap.size A4 L ∧ W'.cell? ⟨w.heap.size, 0, none⟩ = some (.int .i64 next) ∧ W'.cell? ⟨w.heap.size, 1, none⟩ = some (.slice A n c) ∧ W'.cell? ⟨w3.heap.size, 0, none⟩ = some (.int .i64 p1) ∧ W'.cell? ⟨w3.heap.size, 1, none⟩ = some (.int .i64 p2) ∧ W'.cell? ⟨w3.heap.size, 2, none⟩ = some (.slice Ab m cb) ∧ W'.cell? ⟨w3.heap.size + 1, 0, none⟩ = some (.int .i64 next) ∧ W'.cell? ⟨w3.heap.size + 1, 1, none⟩ = some (.slice A3 nL c3) ∧ W'.cell? ⟨w4.heap.size, 0, none⟩ = some (.int .i64 p1) ∧ W'.cell? ⟨w4.heap.size, 1, none⟩ = some (.int .i64 p2) ∧ W'.cell? ⟨w4.heap.size, 2, none⟩ = some (.slice Ab4 m cb4) ∧ W'.cell? ⟨w4.heap.size + 1, 0, none⟩ = some (.int .i64 next) ∧ W'.cell? ⟨w4.heap.size + 1, 1, none⟩ = some (.slice A4 nL c4)) := fun W A5 h hq => by
    obtain ⟨g1, g2, g3, g4, g5⟩ := hK W h.1
    refine (refCut_any W next to HN.out g1 g2 HS.out.1).mono ?_
    rintro e W' ⟨A', n', c', rfl, hn', ho, hb⟩
    exact ⟨A', c', by rw [hn', hnZ, hZ], by rw [hZ]; exact ho.rd (Nat.le_trans g2 hb.size), (hq.below hb).more hb.size, hP W W' h hb⟩
  have hSP : ∀ W : World, (Below U.heap.size U W ∧ RdP W W.heap.size A3 L ∧ RdP W W.heap.size A4 L ∧ W.cell? ⟨w.heap.size, 0, none⟩ = some (.int .i64 next) ∧ W.cell? ⟨w.heap.size, 1, none⟩ = some (.slice A n c) ∧ W.cell? ⟨w3.heap.size, 0, none⟩ = some (.int .i64 p1) ∧ W.cell? ⟨w3.heap.size, 1, none⟩ = some (.int .i64 p2) ∧ W.cell? ⟨w3.heap.size, 2, none⟩ = some (.slice Ab m cb) ∧ W.cell? ⟨w3.heap.size + 1, 0, none⟩ = some (.int .i64 next) ∧ W.cell? ⟨w3.heap.size + 1, 1, none⟩ = some (.slice A3 nL c3) ∧ W.cell? ⟨w4.heap.size, 0, none⟩ = some (.int .i64 p1) ∧ W.cell? ⟨w4.heap.size, 1, none⟩ = some (.int .i64 p2) ∧ W.cell? ⟨w4.heap.size, 2, none⟩ = some (.slice Ab4 m cb4) ∧ W.cell? ⟨w4.heap.size + 1, 0, none⟩ = some (.int .i64 next) ∧ W.cell? ⟨w4.heap.size + 1, 1, none⟩ = some (.slice A4 nL c4)) → Calls Try.prog 14 #[.agg #[.int .i64 p1, .int .i64 p2, .slice Ab m cb], .agg #[.int .i64 p1, .int .i64 p2, .slice Ab4 m cb4]] W fun e W' => e = .returned (.bool true) ∧ (Below U.heap.size U W' ∧ RdP W' W'.heap.size A3 L ∧ RdP W' W'.heap.size A4 L ∧ W'.cell? ⟨w.heap.size, 0, none⟩ = some (.int .i64 next) ∧ W'.cell? ⟨w.heap.size, 1, none⟩ = some (.slice A n c) ∧ W'.cell? ⟨w3.heap.size, 0, none⟩ = some (.int .i64 p1) ∧ W'.cell? ⟨w3.heap.size, 1, none⟩ = some (.int .i64 p2) ∧ W'.cell? ⟨w3.heap.size, 2, none⟩ = some (.slice Ab m cb) ∧ W'.cell? ⟨w3.heap.size + 1, 0, none⟩ = some (.int .i64 next) ∧ W'.cell? ⟨w3.heap.size + 1, 1, none⟩ = some (.slice A3 nL c3) ∧ W'.cell? ⟨w4.heap.size, 0, none⟩ = some (.int .i64 p1) ∧ W'.cell? ⟨w4.heap.size, 1, none⟩ = some (.int .i64 p2) ∧ W'.cell? ⟨w4.heap.size, 2, none⟩ = some (.slice Ab4 m cb4) ∧ W'.cell? ⟨w4.heap.size + 1, 0, none⟩ = some (.int .i64 next) ∧ W'.cell? ⟨w4.heap.size + 1, 1, none⟩ = some (.slice A4 nL c4)) := fun W h => by
    obtain ⟨g1, g2, g3, g4, g5⟩ := hK W h.1
    refine (samePk_any W (p := (p1, p2, bs)) (q := (p1, p2, bs)) HM.out HM.out g3 g4 (Nat.le_refl _) (Nat.le_refl _) (by have := HBL.out; simp only; omega) (by have := HBL.out; simp only; omega)).mono ?_
    rintro e W' ⟨rfl, hb⟩
    exact ⟨by rw [decide_eq_true rfl], hP W W' h hb⟩
  have hSm : ∀ (W : World) (y : Int) (q : Nat) (A5 A6 : Option Addr) (c5 c6 : Nat) (Q : List Pk), q = Q.length → ShortP Q → (Below U.heap.size U W ∧ RdP W W.heap.size A3 L ∧ RdP W W.heap.size A4 L ∧ W.cell? ⟨w.heap.size, 0, none⟩ = some (.int .i64 next) ∧ W.cell? ⟨w.heap.size, 1, none⟩ = some (.slice A n c) ∧ W.cell? ⟨w3.heap.size, 0, none⟩ = some (.int .i64 p1) ∧ W.cell? ⟨w3.heap.size, 1, none⟩ = some (.int .i64 p2) ∧ W.cell? ⟨w3.heap.size, 2, none⟩ = some (.slice Ab m cb) ∧ W.cell? ⟨w3.heap.size + 1, 0, none⟩ = some (.int .i64 next) ∧ W.cell? ⟨w3.heap.size + 1, 1, none⟩ = some (.slice A3 nL c3) ∧ W.cell? ⟨w4.heap.size, 0, none⟩ = some (.int .i64 p1) ∧ W.cell? ⟨w4.heap.size, 1, none⟩ = some (.int .i64 p2) ∧ W.cell? ⟨w4.heap.size, 2, none⟩ = some (.slice Ab4 m cb4) ∧ W.cell? ⟨w4.heap.size + 1, 0, none⟩ = some (.int .i64 next) ∧ W.cell? ⟨w4.heap.size + 1, 1, none⟩ = some (.slice A4 nL c4)) → RdP W W.heap.size A5 Q → RdP W W.heap.size A6 Q → Calls Try.prog 12 #[.agg #[.int .i64 y, .slice A5 q c5], .agg #[.int .i64 y, .slice A6 q c6]] W fun e W' => e = .returned (.bool true) ∧ (Below U.heap.size U W' ∧ RdP W' W'.heap.size A3 L ∧ RdP W' W'.heap.size A4 L ∧ W'.cell? ⟨w.heap.size, 0, none⟩ = some (.int .i64 next) ∧ W'.cell? ⟨w.heap.size, 1, none⟩ = some (.slice A n c) ∧ W'.cell? ⟨w3.heap.size, 0, none⟩ = some (.int .i64 p1) ∧ W'.cell? ⟨w3.heap.size, 1, none⟩ = some (.int .i64 p2) ∧ W'.cell? ⟨w3.heap.size, 2, none⟩ = some (.slice Ab m cb) ∧ W'.cell? ⟨w3.heap.size + 1, 0, none⟩ = some (.int .i64 next) ∧ W'.cell? ⟨w3.heap.size + 1, 1, none⟩ = some (.slice A3 nL c3) ∧ W'.cell? ⟨w4.heap.size, 0, none⟩ = some (.int .i64 p1) ∧ W'.cell? ⟨w4.heap.size, 1, none⟩ = some (.int .i64 p2) ∧ W'.cell? ⟨w4.heap.size, 2, none⟩ = some (.slice Ab4 m cb4) ∧ W'.cell? ⟨w4.heap.size + 1, 0, none⟩ = some (.int .i64 next) ∧ W'.cell? ⟨w4.heap.size + 1, 1, none⟩ = some (.slice A4 nL c4)) := fun W y q A5 A6 c5 c6 Q hq hql h h5 h6 => by
    refine (sameNet_any W y y hq hq h5 h6 (Nat.le_refl _) (Nat.le_refl _) hql hql).mono ?_
    rintro e W' ⟨rfl, hb⟩
    exact ⟨by rw [decide_eq_true ⟨rfl, rfl⟩], hP W W' h hb⟩
  have HC1 := Lib.hid hC1
  have HC2 := Lib.hid hC2
  have HE1 := Lib.hid hE1
  have HF1 := Lib.hid hF1
  have HF2 := Lib.hid hF2
  have HG1 := Lib.hid hG1
  have HG2 := Lib.hid hG2
  have HSP := Lib.hid hSP
  have HSm := Lib.hid hSm
  have HD := Lib.hid hD
  have NX := Lib.hid hnX
  have NY := Lib.hid hnY
  have NZ := Lib.hid hnZ
  have LX := Lib.hid sX
  have LY := Lib.hid sY
  have LZ := Lib.hid sZ
  have LL := Lib.hid sL
  have hbq : Below U.heap.size U U := Below.refl _ _
  have q3 := HR3'.out
  have q4 := HR4.out
  clear hC1 hC2 hE1 hF1 hF2 hG1 hG2 hSP hSm hD hP hK hX hY hZ hnX hnY hnZ hyn hxn hXn sX sY sZ sL hP60
  go_region_held3 (fun W => (Below U.heap.size U W ∧ RdP W W.heap.size A3 L ∧ RdP W W.heap.size A4 L ∧ W.cell? ⟨w.heap.size, 0, none⟩ = some (.int .i64 next) ∧ W.cell? ⟨w.heap.size, 1, none⟩ = some (.slice A n c) ∧ W.cell? ⟨w3.heap.size, 0, none⟩ = some (.int .i64 p1) ∧ W.cell? ⟨w3.heap.size, 1, none⟩ = some (.int .i64 p2) ∧ W.cell? ⟨w3.heap.size, 2, none⟩ = some (.slice Ab m cb) ∧ W.cell? ⟨w3.heap.size + 1, 0, none⟩ = some (.int .i64 next) ∧ W.cell? ⟨w3.heap.size + 1, 1, none⟩ = some (.slice A3 nL c3) ∧ W.cell? ⟨w4.heap.size, 0, none⟩ = some (.int .i64 p1) ∧ W.cell? ⟨w4.heap.size, 1, none⟩ = some (.int .i64 p2) ∧ W.cell? ⟨w4.heap.size, 2, none⟩ = some (.slice Ab4 m cb4) ∧ W.cell? ⟨w4.heap.size + 1, 0, none⟩ = some (.int .i64 next) ∧ W.cell? ⟨w4.heap.size + 1, 1, none⟩ = some (.slice A4 nL c4))) (first | assumption | (refine ⟨?_, ?_, ?_, ?_, ?_, ?_, ?_, ?_, ?_, ?_, ?_, ?_, ?_, ?_, ?_⟩ <;> assumption) | (apply HD.out; first | assumption | (refine ⟨?_, ?_, ?_, ?_, ?_, ?_, ?_, ?_, ?_, ?_, ?_, ?_, ?_, ?_, ?_⟩ <;> assumption)))
    (first
      | (go_at_call 14; refine (HSP.out _ ?_).mono ?_; (first | assumption | (refine ⟨?_, ?_, ?_, ?_, ?_, ?_, ?_, ?_, ?_, ?_, ?_, ?_, ?_, ?_, ?_⟩ <;> assumption)); rintro e wx ⟨rfl, i1, i2, i3, i4, i5, i6, i7, i8, i9, i10, i11, i12, i13, i14, i15⟩)
      | (go_at_call 10; refine (HC1.out _ ?_).mono ?_; (first | assumption | (refine ⟨?_, ?_, ?_, ?_, ?_, ?_, ?_, ?_, ?_, ?_, ?_, ?_, ?_, ?_, ?_⟩ <;> assumption)); rintro e wx ⟨A5, c5, rfl, r5, i1, i2, i3, i4, i5, i6, i7, i8, i9, i10, i11, i12, i13, i14, i15⟩)
      | (go_at_call 16; refine (HC2.out _ _ ?_ (by assumption)).mono ?_; (first | assumption | (refine ⟨?_, ?_, ?_, ?_, ?_, ?_, ?_, ?_, ?_, ?_, ?_, ?_, ?_, ?_, ?_⟩ <;> assumption)); rintro e wy ⟨A6, c6, rfl, r6, r5, i1, i2, i3, i4, i5, i6, i7, i8, i9, i10, i11, i12, i13, i14, i15⟩)
      | (go_at_call 17; refine (HE1.out _ ?_).mono ?_; (first | assumption | (refine ⟨?_, ?_, ?_, ?_, ?_, ?_, ?_, ?_, ?_, ?_, ?_, ?_, ?_, ?_, ?_⟩ <;> assumption)); rintro e wx ⟨A5, c5, rfl, r5, i1, i2, i3, i4, i5, i6, i7, i8, i9, i10, i11, i12, i13, i14, i15⟩)
      | (go_at_call 9; refine (HF1.out _ ?_).mono ?_; (first | assumption | (refine ⟨?_, ?_, ?_, ?_, ?_, ?_, ?_, ?_, ?_, ?_, ?_, ?_, ?_, ?_, ?_⟩ <;> assumption)); rintro e wx ⟨A5, c5, rfl, r5, i1, i2, i3, i4, i5, i6, i7, i8, i9, i10, i11, i12, i13, i14, i15⟩)
      | (go_at_call 18; refine (HF2.out _ _ ?_ (by assumption)).mono ?_; (first | assumption | (refine ⟨?_, ?_, ?_, ?_, ?_, ?_, ?_, ?_, ?_, ?_, ?_, ?_, ?_, ?_, ?_⟩ <;> assumption)); rintro e wy ⟨A6, c6, rfl, r6, r5, i1, i2, i3, i4, i5, i6, i7, i8, i9, i10, i11, i12, i13, i14, i15⟩)
      | (go_at_call 19; refine (HG1.out _ ?_).mono ?_; (first | assumption | (refine ⟨?_, ?_, ?_, ?_, ?_, ?_, ?_, ?_, ?_, ?_, ?_, ?_, ?_, ?_, ?_⟩ <;> assumption)); rintro e wx ⟨A5, c5, rfl, r5, i1, i2, i3, i4, i5, i6, i7, i8, i9, i10, i11, i12, i13, i14, i15⟩)
      | (go_at_call 20; refine (HG2.out _ _ ?_ (by assumption)).mono ?_; (first | assumption | (refine ⟨?_, ?_, ?_, ?_, ?_, ?_, ?_, ?_, ?_, ?_, ?_, ?_, ?_, ?_, ?_⟩ <;> assumption)); rintro e wy ⟨A6, c6, rfl, r6, r5, i1, i2, i3, i4, i5, i6, i7, i8, i9, i10, i11, i12, i13, i14, i15⟩)
      | (go_at_call 12; refine (HSm.out _ _ _ _ _ _ _ _ (by first | exact NX.out | exact NY.out | exact NZ.out | exact HNL.out) (by first | exact LX.out | exact LY.out | exact LZ.out | exact LL.out) ?_ (by assumption) (by assumption)).mono ?_; (first | assumption | (refine ⟨?_, ?_, ?_, ?_, ?_, ?_, ?_, ?_, ?_, ?_, ?_, ?_, ?_, ?_, ?_⟩ <;> assumption)); rintro e wz ⟨rfl, i1, i2, i3, i4, i5, i6, i7, i8, i9, i10, i11, i12, i13, i14, i15⟩))
  all_goals
    go_wp2_with fail
    go_ret
    refine ⟨rfl, ?_⟩
    first | exact hbwU.trans (Below.mono (by assumption) hbwU.size) | exact below_drew (hbwU.trans (Below.mono (by assumption) hbwU.size))
end Go.Proofs.Ytnmamfgebbcehaa.pk
