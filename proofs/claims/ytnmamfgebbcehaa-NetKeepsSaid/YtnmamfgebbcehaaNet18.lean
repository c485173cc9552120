/- What the document's Take of a net that holds packets answers. -/
import Derived.Test.YtnmamfgebbcehaaNet17
namespace Go.Proofs.Ytnmamfgebbcehaa.pk
open Go.RowKit Go.Proofs.Ytnmamfgebbcehaa.lib Go.Proofs.Ytnmamfgebbcehaa.byt
set_option linter.unusedVariables false

theorem wo_at (P : List Pk) (q : Nat) : wo (q : Int) P = P.eraseIdx q := by unfold wo; rw [if_neg (by omega)]; rfl
set_option maxHeartbeats 8000000 in
theorem refTake_some (w : World) {B : Nat} {A : Option Addr} {n c : Nat} {P : List Pk} (next : Int) (i : Nat) (hn : n = P.length) (hr : RdP w B A P) (hB : B ≤ w.heap.size) (hP : ShortP P) (h0 : 0 < n) :
    Calls Try.prog 15 #[.agg #[.int .i64 next, .slice A n c], .int .i64 i] w fun e w' => ∃ A' n' c' Ab m cb, e = .returned (.tuple #[.agg #[.int .i64 (tkP P i).1, .int .i64 (tkP P i).2.1, .slice Ab m cb], .agg #[.int .i64 next, .slice A' n' c'], .bool true]) ∧ m = (tkP P i).2.2.length ∧ n' = (tkL P i).length ∧ RdB w' B Ab (tkP P i).2.2 ∧ RdP w' w'.heap.size A' (tkL P i) ∧ Below w.heap.size w w' := by
  have HP := Lib.hid hP
  have HN := Lib.hid hn
  obtain ⟨q, hq⟩ : ∃ q, q = i % n := ⟨_, rfl⟩
  have hqn : q < n := by rw [hq]; exact Nat.mod_lt _ h0
  have hql : q < P.length := by omega
  obtain ⟨p1, p2, bs, hp⟩ : ∃ a b d, P[q] = (a, b, d) := ⟨_, _, _, rfl⟩
  have hT : tkP P i = (p1, p2, bs) := by
    unfold tkP
    rw [← hn, ← hq, List.getD_eq_getElem?_getD, List.getElem?_eq_getElem hql, hp]
    rfl
  have hL : tkL P i = wo (q : Int) P := by
    unfold tkL
    rw [← hn, ← hq, wo_at]
  rw [hT, hL]
  simp only
  obtain ⟨m, hm⟩ : ∃ m, m = bs.length := ⟨_, rfl⟩
  obtain ⟨ad, Ab, cb, eA, hadB, r1, r2, r3, hrb⟩ := RdP.at_ hr hql
  subst eA
  rw [hp] at r1 r2 r3 hrb
  simp only at r1 r2 r3 hrb
  rw [← hm] at r3
  have hszA : (((w.alloc (.cells #[.int .i64 next, .slice (some ad) n c] 24)).alloc (.cells #[.int .i64 0, .int .i64 0, .slice none 0 0] 29)).alloc (.cells #[.int .i64 0, .slice none 0 0] 24)).heap.size = w.heap.size + 3 := by simp
  have H0 := heap3 w (.cells #[.int .i64 next, .slice (some ad) n c] 24) (.cells #[.int .i64 0, .int .i64 0, .slice none 0 0] 29) (.cells #[.int .i64 0, .slice none 0 0] 24)
  have hbA : Below w.heap.size w (((w.alloc (.cells #[.int .i64 next, .slice (some ad) n c] 24)).alloc (.cells #[.int .i64 0, .int .i64 0, .slice none 0 0] 29)).alloc (.cells #[.int .i64 0, .slice none 0 0] 24)) := low3
  have hS : ((((w.alloc (.cells #[.int .i64 next, .slice (some ad) n c] 24)).alloc (.cells #[.int .i64 0, .int .i64 0, .slice none 0 0] 29)).alloc (.cells #[.int .i64 0, .slice none 0 0] 24)).cell? ⟨w.heap.size, 0, none⟩ = some (.int .i64 next) ∧ (((w.alloc (.cells #[.int .i64 next, .slice (some ad) n c] 24)).alloc (.cells #[.int .i64 0, .int .i64 0, .slice none 0 0] 29)).alloc (.cells #[.int .i64 0, .slice none 0 0] 24)).cell? ⟨w.heap.size, 1, none⟩ = some (.slice (some ad) n c) ∧ (((w.alloc (.cells #[.int .i64 next, .slice (some ad) n c] 24)).alloc (.cells #[.int .i64 0, .int .i64 0, .slice none 0 0] 29)).alloc (.cells #[.int .i64 0, .slice none 0 0] 24)).cell? (ad.add (q * 3)) = some (.int .i64 p1) ∧ (((w.alloc (.cells #[.int .i64 next, .slice (some ad) n c] 24)).alloc (.cells #[.int .i64 0, .int .i64 0, .slice none 0 0] 29)).alloc (.cells #[.int .i64 0, .slice none 0 0] 24)).cell? ⟨(ad.add (q * 3)).block, (ad.add (q * 3)).off + 1, none⟩ = some (.int .i64 p2) ∧ (((w.alloc (.cells #[.int .i64 next, .slice (some ad) n c] 24)).alloc (.cells #[.int .i64 0, .int .i64 0, .slice none 0 0] 29)).alloc (.cells #[.int .i64 0, .slice none 0 0] 24)).cell? ⟨(ad.add (q * 3)).block, (ad.add (q * 3)).off + 2, none⟩ = some (.slice Ab m cb) ∧ Below w.heap.size w (((w.alloc (.cells #[.int .i64 next, .slice (some ad) n c] 24)).alloc (.cells #[.int .i64 0, .int .i64 0, .slice none 0 0] 29)).alloc (.cells #[.int .i64 0, .slice none 0 0] 24)) ∧ w.heap.size + 3 ≤ (((w.alloc (.cells #[.int .i64 next, .slice (some ad) n c] 24)).alloc (.cells #[.int .i64 0, .int .i64 0, .slice none 0 0] 29)).alloc (.cells #[.int .i64 0, .slice none 0 0] 24)).heap.size) := ⟨by rw [cell_of_row _ _ _ _ _ (0, 0) H0.1]; rfl, by rw [cell_of_row _ _ _ _ _ (0, 0) H0.1]; rfl, keepc r1 hbA, keepc r2 hbA, keepc r3 hbA, hbA, by omega⟩
  have hT0 : (((w.alloc (.cells #[.int .i64 next, .slice (some ad) n c] 24)).alloc (.cells #[.int .i64 0, .int .i64 0, .slice none 0 0] 29)).alloc (.cells #[.int .i64 0, .slice none 0 0] 24)).cell? ⟨w.heap.size + 1, 0, none⟩ = some (.int .i64 0) ∧ (((w.alloc (.cells #[.int .i64 next, .slice (some ad) n c] 24)).alloc (.cells #[.int .i64 0, .int .i64 0, .slice none 0 0] 29)).alloc (.cells #[.int .i64 0, .slice none 0 0] 24)).cell? ⟨w.heap.size + 1, 1, none⟩ = some (.int .i64 0) ∧ (((w.alloc (.cells #[.int .i64 next, .slice (some ad) n c] 24)).alloc (.cells #[.int .i64 0, .int .i64 0, .slice none 0 0] 29)).alloc (.cells #[.int .i64 0, .slice none 0 0] 24)).cell? ⟨w.heap.size + 1, 2, none⟩ = some (.slice none 0 0) ∧ (((w.alloc (.cells #[.int .i64 next, .slice (some ad) n c] 24)).alloc (.cells #[.int .i64 0, .int .i64 0, .slice none 0 0] 29)).alloc (.cells #[.int .i64 0, .slice none 0 0] 24)).cell? ⟨w.heap.size + 2, 0, none⟩ = some (.int .i64 0) ∧ (((w.alloc (.cells #[.int .i64 next, .slice (some ad) n c] 24)).alloc (.cells #[.int .i64 0, .int .i64 0, .slice none 0 0] 29)).alloc (.cells #[.int .i64 0, .slice none 0 0] 24)).cell? ⟨w.heap.size + 2, 1, none⟩ = some (.slice none 0 0) ∧ (∀ j, (((w.alloc (.cells #[.int .i64 next, .slice (some ad) n c] 24)).alloc (.cells #[.int .i64 0, .int .i64 0, .slice none 0 0] 29)).alloc (.cells #[.int .i64 0, .slice none 0 0] 24)).frozen? ⟨w.heap.size + 1, j, none⟩ = false) ∧ (∀ j, (((w.alloc (.cells #[.int .i64 next, .slice (some ad) n c] 24)).alloc (.cells #[.int .i64 0, .int .i64 0, .slice none 0 0] 29)).alloc (.cells #[.int .i64 0, .slice none 0 0] 24)).frozen? ⟨w.heap.size + 2, j, none⟩ = false) := ⟨by rw [cell_of_row _ _ _ _ _ (0, 0) H0.2.1]; rfl, by rw [cell_of_row _ _ _ _ _ (0, 0) H0.2.1]; rfl, by rw [cell_of_row _ _ _ _ _ (0, 0) H0.2.1]; rfl, by rw [cell_of_row _ _ _ _ _ (0, 0) H0.2.2]; rfl, by rw [cell_of_row _ _ _ _ _ (0, 0) H0.2.2]; rfl, fun j => frozen_of_row _ _ j _ _ H0.2.1, fun j => frozen_of_row _ _ j _ _ H0.2.2⟩
  have hnl : n ≤ 1099511627770 := by rw [hn]; exact hP.1
  have q0 : ((n : Int) == 0) = false := by simp only [beq_eq_false_iff_ne, ne_eq]; omega
  have q1 : ¬ (n : Int) = 0 := by omega
  have q2 : (0 : Int) ≤ q := by omega
  have q3 : (q : Int) < n := by omega
  have t1 : (i : Int).tmod n = q := by rw [hq]; rfl
  have HM := Lib.hid hm
  clear hn hP hm hq hT hL hp H0 r1 r2 r3
  go_enter Try.func15, Try.ntmps15
  go_upto_region 1 with (fail)
  generalize (((w.alloc (.cells #[.int .i64 next, .slice (some ad) n c] 24)).alloc (.cells #[.int .i64 0, .int .i64 0, .slice none 0 0] 29)).alloc (.cells #[.int .i64 0, .slice none 0 0] 24)) = V at hbA hszA hS hT0 ⊢
  obtain ⟨x1, x2, r1, r2, r3, -, -⟩ := id hS
  go_wp2_with fail
  have hC : ∀ W : World, Below V.heap.size V W → (W.cell? ⟨w.heap.size, 0, none⟩ = some (.int .i64 next) ∧ W.cell? ⟨w.heap.size, 1, none⟩ = some (.slice (some ad) n c) ∧ W.cell? (ad.add (q * 3)) = some (.int .i64 p1) ∧ W.cell? ⟨(ad.add (q * 3)).block, (ad.add (q * 3)).off + 1, none⟩ = some (.int .i64 p2) ∧ W.cell? ⟨(ad.add (q * 3)).block, (ad.add (q * 3)).off + 2, none⟩ = some (.slice Ab m cb) ∧ Below w.heap.size w W ∧ w.heap.size + 3 ≤ W.heap.size) → Calls Try.prog 25 #[.agg #[.int .i64 next, .slice (some ad) n c], .int .i64 q] W fun e W' => ∃ A' m' c', e = .returned (.agg #[.int .i64 next, .slice A' m' c']) ∧ Hid (m' = (wo (q : Int) P).length ∧ WInv W' (w.heap.size + 3) A' m' c' B (wo (q : Int) P)) ∧ W'.cell? ⟨w.heap.size + 1, 0, none⟩ = some (.int .i64 0) ∧ W'.cell? ⟨w.heap.size + 1, 1, none⟩ = some (.int .i64 0) ∧ W'.cell? ⟨w.heap.size + 1, 2, none⟩ = some (.slice none 0 0) ∧ W'.cell? ⟨w.heap.size + 2, 0, none⟩ = some (.int .i64 0) ∧ W'.cell? ⟨w.heap.size + 2, 1, none⟩ = some (.slice none 0 0) ∧ (∀ j, W'.frozen? ⟨w.heap.size + 1, j, none⟩ = false) ∧ (∀ j, W'.frozen? ⟨w.heap.size + 2, j, none⟩ = false) ∧ (W'.cell? ⟨w.heap.size, 0, none⟩ = some (.int .i64 next) ∧ W'.cell? ⟨w.heap.size, 1, none⟩ = some (.slice (some ad) n c) ∧ W'.cell? (ad.add (q * 3)) = some (.int .i64 p1) ∧ W'.cell? ⟨(ad.add (q * 3)).block, (ad.add (q * 3)).off + 1, none⟩ = some (.int .i64 p2) ∧ W'.cell? ⟨(ad.add (q * 3)).block, (ad.add (q * 3)).off + 2, none⟩ = some (.slice Ab m cb) ∧ Below w.heap.size w W' ∧ w.heap.size + 3 ≤ W'.heap.size) := fun W hVW h => by
    have hbW := h.2.2.2.2.2.1
    refine (without_any W (c := c) next q HN.out (hr.below (hbW.mono hB)) (by have := hbW.size; omega) HP.out.1).mono ?_
    rintro e W' ⟨A', m', c', rfl, hm', hI, hb⟩
    have hk : ∀ (b j : Nat) (v : Value), V.cell? ⟨b, j, none⟩ = some v → W'.cell? ⟨b, j, none⟩ = some v := fun b j v hv => keepc (keepc hv hVW) hb
    have hz := hVW.size
    exact ⟨A', m', c', rfl, Lib.hid ⟨hm', hI.base (by omega)⟩, hk _ _ _ hT0.1, hk _ _ _ hT0.2.1, hk _ _ _ hT0.2.2.1, hk _ _ _ hT0.2.2.2.1, hk _ _ _ hT0.2.2.2.2.1, fun j => by rw [hb.frozen (by simp only; omega), hVW.frozen (by simp only; omega)]; exact hT0.2.2.2.2.2.1 j, fun j => by rw [hb.frozen (by simp only; omega), hVW.frozen (by simp only; omega)]; exact hT0.2.2.2.2.2.2 j,
      keepc h.1 hb, keepc h.2.1 hb, keepc h.2.2.1 hb, keepc h.2.2.2.1 hb, keepc h.2.2.2.2.1 hb, hbW.trans (hb.mono hbW.size), by have := hb.size; omega⟩
  have hD : ∀ W : World, (W.cell? ⟨w.heap.size, 0, none⟩ = some (.int .i64 next) ∧ W.cell? ⟨w.heap.size, 1, none⟩ = some (.slice (some ad) n c) ∧ W.cell? (ad.add (q * 3)) = some (.int .i64 p1) ∧ W.cell? ⟨(ad.add (q * 3)).block, (ad.add (q * 3)).off + 1, none⟩ = some (.int .i64 p2) ∧ W.cell? ⟨(ad.add (q * 3)).block, (ad.add (q * 3)).off + 2, none⟩ = some (.slice Ab m cb) ∧ Below w.heap.size w W ∧ w.heap.size + 3 ≤ W.heap.size) → (W.drew.cell? ⟨w.heap.size, 0, none⟩ = some (.int .i64 next) ∧ W.drew.cell? ⟨w.heap.size, 1, none⟩ = some (.slice (some ad) n c) ∧ W.drew.cell? (ad.add (q * 3)) = some (.int .i64 p1) ∧ W.drew.cell? ⟨(ad.add (q * 3)).block, (ad.add (q * 3)).off + 1, none⟩ = some (.int .i64 p2) ∧ W.drew.cell? ⟨(ad.add (q * 3)).block, (ad.add (q * 3)).off + 2, none⟩ = some (.slice Ab m cb) ∧ Below w.heap.size w W.drew ∧ w.heap.size + 3 ≤ W.drew.heap.size) := fun W h => ⟨h.1, h.2.1, h.2.2.1, h.2.2.2.1, h.2.2.2.2.1, below_drew h.2.2.2.2.2.1, h.2.2.2.2.2.2⟩
  have hStore : ∀ (W : World) (b j : Nat) (u : Value), w.heap.size < b → (W.cell? ⟨w.heap.size, 0, none⟩ = some (.int .i64 next) ∧ W.cell? ⟨w.heap.size, 1, none⟩ = some (.slice (some ad) n c) ∧ W.cell? (ad.add (q * 3)) = some (.int .i64 p1) ∧ W.cell? ⟨(ad.add (q * 3)).block, (ad.add (q * 3)).off + 1, none⟩ = some (.int .i64 p2) ∧ W.cell? ⟨(ad.add (q * 3)).block, (ad.add (q * 3)).off + 2, none⟩ = some (.slice Ab m cb) ∧ Below w.heap.size w W ∧ w.heap.size + 3 ≤ W.heap.size) → ((W.setCell ⟨b, j, none⟩ u).cell? ⟨w.heap.size, 0, none⟩ = some (.int .i64 next) ∧ (W.setCell ⟨b, j, none⟩ u).cell? ⟨w.heap.size, 1, none⟩ = some (.slice (some ad) n c) ∧ (W.setCell ⟨b, j, none⟩ u).cell? (ad.add (q * 3)) = some (.int .i64 p1) ∧ (W.setCell ⟨b, j, none⟩ u).cell? ⟨(ad.add (q * 3)).block, (ad.add (q * 3)).off + 1, none⟩ = some (.int .i64 p2) ∧ (W.setCell ⟨b, j, none⟩ u).cell? ⟨(ad.add (q * 3)).block, (ad.add (q * 3)).off + 2, none⟩ = some (.slice Ab m cb) ∧ Below w.heap.size w (W.setCell ⟨b, j, none⟩ u) ∧ w.heap.size + 3 ≤ (W.setCell ⟨b, j, none⟩ u).heap.size) := fun W b j u hb h =>
    have mv : ∀ (p : Addr) (v : Value), p.block ≤ w.heap.size → W.cell? p = some v → (W.setCell ⟨b, j, none⟩ u).cell? p = some v := fun p v hp e => by rw [World.cell?_setCell_other _ _ _ _ (fun e2 => by rw [← e2] at hp; simp only at hp; omega)]; exact e
    have hadd : (ad.add (q * 3)).block ≤ w.heap.size := by rw [block_of_add]; omega
    ⟨mv _ _ (Nat.le_refl _) h.1, mv _ _ (Nat.le_refl _) h.2.1, mv _ _ hadd h.2.2.1, by refine mv _ _ ?_ h.2.2.2.1; exact hadd, by refine mv _ _ ?_ h.2.2.2.2.1; exact hadd, h.2.2.2.2.2.1.setCell (by simp only; omega) _, by simpa using h.2.2.2.2.2.2⟩
  have HC := Lib.hid hC
  have HD := Lib.hid hD
  have HST := Lib.hid hStore
  have HS := Lib.hid hS
  have HRB := Lib.hid hrb
  have hbq : Below V.heap.size V V := Below.refl _ _
  have hbqd : Below V.heap.size V V.drew := below_drew (Below.refl _ _)
  clear hC hD hStore hrb hT0
  have s6 := HS.out.2.2.2.2.2.1
  have s7 := HS.out.2.2.2.2.2.2
  go_region_held3 (fun W => (W.cell? ⟨w.heap.size, 0, none⟩ = some (.int .i64 next) ∧ W.cell? ⟨w.heap.size, 1, none⟩ = some (.slice (some ad) n c) ∧ W.cell? (ad.add (q * 3)) = some (.int .i64 p1) ∧ W.cell? ⟨(ad.add (q * 3)).block, (ad.add (q * 3)).off + 1, none⟩ = some (.int .i64 p2) ∧ W.cell? ⟨(ad.add (q * 3)).block, (ad.add (q * 3)).off + 2, none⟩ = some (.slice Ab m cb) ∧ Below w.heap.size w W ∧ w.heap.size + 3 ≤ W.heap.size))
    (first | (with_reducible assumption) | (with_reducible (refine ⟨?_, ?_, ?_, ?_, ?_, ?_, ?_⟩ <;> assumption)) | ((repeat (first | (with_reducible apply HD.out) | ((with_reducible refine HST.out _ _ _ _ ?_ ?_); focus omega))); (first | (with_reducible assumption) | (with_reducible (refine ⟨?_, ?_, ?_, ?_, ?_, ?_, ?_⟩ <;> assumption)))))
    (first | (go_at_call 25; refine (HC.out _ (by assumption) ?_).mono ?_; (first | assumption | (refine ⟨?_, ?_, ?_, ?_, ?_, ?_, ?_⟩ <;> assumption)); rintro e wx ⟨A', m', c', rfl, HI, k1, k2, k3, k4, k5, k6, k7, i1, i2, i3, i4, i5, i6, i7⟩))
  all_goals
    clear HC HD HST HS x1 x2 r1 r2 r3 s6 s7 hbq hbqd hszA hbA
    go_wp2_with fail
    clear i1 i2 i3 i4 i5
    refine bodyPost_ret (v := .tuple #[.agg #[.int .i64 p1, .int .i64 p2, .slice Ab m cb], .agg #[.int .i64 next, .slice A' m' c'], .bool true]) ?_ rfl ⟨A', m', c', Ab, m, cb, rfl, HM.out, HI.out.1, ?_, ?_, ?_⟩
    · rw [results_cell_cell_tmp rfl]
      go_simp
      first | done | rfl
    · refine HRB.out.below (Below.mono (B := w.heap.size) ?_ hB)
      repeat (with_reducible refine Below.setCell ?_ (by simp only; omega) _)
      exact i6
    · refine WInv.rd (B := B) (base := w.heap.size + 3) (m := m') (c := c') ?_ ?_
      · with_reducible refine WInv.low (WInv.low (WInv.low (WInv.low (WInv.low HI.out.2 ?_ ?_ _) ?_ ?_ _) ?_ ?_ _) ?_ ?_ _) ?_ ?_ _
        all_goals (simp only; omega)
      · simp
        omega
    · repeat (with_reducible refine Below.setCell ?_ (by simp only; omega) _)
      exact i6
end Go.Proofs.Ytnmamfgebbcehaa.pk
