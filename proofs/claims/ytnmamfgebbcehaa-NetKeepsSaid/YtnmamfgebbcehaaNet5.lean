/- What net's Copy answers. -/
import Derived.Test.YtnmamfgebbcehaaNet4
namespace Go.Proofs.Ytnmamfgebbcehaa.pk
open Go.RowKit Go.Proofs.Ytnmamfgebbcehaa.lib Go.Proofs.Ytnmamfgebbcehaa.byt

def copyM (next : Int) (P : List Pk) (i : Nat) : List Pk := match P[i % P.length]? with
  | some p => P ++ [(next, p.2.1, p.2.2)]
  | none => P
def copyN (next : Int) (P : List Pk) : Int := if P.length = 0 then next else next + 1

set_option maxHeartbeats 4000000 in
theorem copy_any (w : World) {B : Nat} {A : Option Addr} {n c : Nat} {P : List Pk} (next : Int) (i : Nat) (hn : n = P.length) (hr : RdP w B A P) (hB : B ≤ w.heap.size) (hP : ShortP P) (hnx : 0 ≤ next ∧ next ≤ 4611686018427387905) :
    Calls Try.prog 9 #[.agg #[.int .i64 next, .slice A n c], .int .i64 i] w fun e w' => ∃ A' c' n', e = .returned (.agg #[.int .i64 (copyN next P), .slice A' n' c']) ∧ n' = (copyM next P i).length ∧ OwnP w' w.heap.size A' c' (copyM next P i) ∧ Below w.heap.size w w' := by
  have HN := Lib.hid hn
  have HP := Lib.hid hP
  have hbA : Below w.heap.size w ((w.alloc (.cells #[.int .i64 next, .slice A n c] 24)).alloc (.cells #[.int .i64 0, .slice none 0 0] 24)) := ((Below.refl _ _).alloc (Nat.le_refl _) _).alloc (by simp) _
  have hszA : ((w.alloc (.cells #[.int .i64 next, .slice A n c] 24)).alloc (.cells #[.int .i64 0, .slice none 0 0] 24)).heap.size = w.heap.size + 2 := by simp
  have x1 : ((w.alloc (.cells #[.int .i64 next, .slice A n c] 24)).alloc (.cells #[.int .i64 0, .slice none 0 0] 24)).cell? ⟨w.heap.size, 0, none⟩ = some (.int .i64 next) := by simp
  have x2 : ((w.alloc (.cells #[.int .i64 next, .slice A n c] 24)).alloc (.cells #[.int .i64 0, .slice none 0 0] 24)).cell? ⟨w.heap.size, 1, none⟩ = some (.slice A n c) := by simp
  have x3 : ((w.alloc (.cells #[.int .i64 next, .slice A n c] 24)).alloc (.cells #[.int .i64 0, .slice none 0 0] 24)).cell? ⟨w.heap.size + 1, 0, none⟩ = some (.int .i64 0) := by simp
  have x4 : ((w.alloc (.cells #[.int .i64 next, .slice A n c] 24)).alloc (.cells #[.int .i64 0, .slice none 0 0] 24)).cell? ⟨w.heap.size + 1, 1, none⟩ = some (.slice none 0 0) := by simp
  have f2 : ∀ j, ((w.alloc (.cells #[.int .i64 next, .slice A n c] 24)).alloc (.cells #[.int .i64 0, .slice none 0 0] 24)).frozen? ⟨w.heap.size + 1, j, none⟩ = false := fun j => by simp
  by_cases h0 : n = 0
  · have hP0 : P = [] := List.eq_nil_of_length_eq_zero (by omega)
    have HC := Lib.hid (show copyM next P i = P ∧ copyN next P = next by rw [hP0]; exact ⟨rfl, rfl⟩)
    clear hn hP hP0
    subst h0
    go_enter Try.func9, Try.ntmps9
    go_wp2_with fail
    generalize (w.alloc (.cells #[.int .i64 next, .slice A 0 c] 24)).alloc (.cells #[.int .i64 0, .slice none 0 0] 24) = V at hbA hszA x1 x2 x3 x4 f2 ⊢
    refine (own_any V next HN.out (hr.below (hbA.mono hB)) (Nat.le_trans hB hbA.size) HP.out.1 HP.out.2).mono ?_
    rintro e w1 ⟨A1, c1, rfl, ho1, hb1⟩
    have y3 := keepc x3 hb1
    have y4 := keepc x4 hb1
    have g2 : ∀ j, w1.frozen? ⟨w.heap.size + 1, j, none⟩ = false := fun j => by rw [hb1.frozen (by simp; omega)]; exact f2 j
    have HE := Lib.hid (((ho1.low (p := ⟨w.heap.size + 1, 0, none⟩) (by simp only; omega) (.int .i64 next)).low (p := ⟨w.heap.size + 1, 1, none⟩) (by simp only; omega) (.slice A1 0 c1)).base (show w.heap.size ≤ V.heap.size by omega))
    have hbf : Below w.heap.size w w1 := hbA.trans (hb1.mono hbA.size)
    clear ho1 hb1 x1 x2 x3 x4 f2
    go_wp2_with fail
    refine bodyPost_ret (v := .agg #[.int .i64 next, .slice A1 0 c1]) ?_ rfl ⟨A1, c1, 0, by rw [HC.out.2], by rw [HC.out.1]; exact HN.out, by rw [HC.out.1]; exact HE.out, ((hbf.setCell (by simp) _).setCell (by simp) _)⟩
    rw [results_cell_one rfl]
    go_simp
    first | done | rfl
  · obtain ⟨q, hq⟩ : ∃ q, q = i % n := ⟨_, rfl⟩
    have hqn : q < n := by rw [hq]; exact Nat.mod_lt _ (by omega)
    have hql : q < P.length := by omega
    obtain ⟨p1, p2, bs, hp⟩ : ∃ a b d, P[q] = (a, b, d) := ⟨_, _, _, rfl⟩
    have HC := Lib.hid (show copyM next P i = P ++ [(next, p2, bs)] ∧ copyN next P = next + 1 by
      constructor
      · unfold copyM
        rw [← hn, ← hq, List.getElem?_eq_getElem hql, hp]
      · unfold copyN
        rw [if_neg (by omega)])
    have hbl := hP.2 q hql
    rw [hp] at hbl
    simp only at hbl
    obtain ⟨m, hm⟩ : ∃ m, m = bs.length := ⟨_, rfl⟩
    obtain ⟨ad, Ab, cb, eA, hadB, r1, r2, r3, hrb⟩ := RdP.at_ (hr.below (hbA.mono hB)) hql
    subst eA
    rw [hp] at r1 r2 r3 hrb
    simp only at r1 r2 r3 hrb
    rw [← hm] at r3
    have hnl : n ≤ 1099511627770 := by rw [hn]; exact hP.1
    have q0 : ((n : Int) == 0) = false := by simp only [beq_eq_false_iff_ne, ne_eq]; omega
    have q1 : ¬ (n : Int) = 0 := by omega
    have q2 : (0 : Int) ≤ q := by omega
    have q3 : (q : Int) < n := by omega
    have q4 : 0 < n := by omega
    have HM := Lib.hid hm
    have HQ := Lib.hid hq
    have HNX := Lib.hid hnx
    clear hn hP hm hp hnx hq
    go_enter Try.func9, Try.ntmps9
    go_wp2_with fail
    generalize (w.alloc (.cells #[.int .i64 next, .slice (some ad) n c] 24)).alloc (.cells #[.int .i64 0, .slice none 0 0] 24) = V at hbA hszA x1 x2 x3 x4 f2 r1 r2 r3 hrb ⊢
    have hC : ∀ W : World, (W.cell? ⟨w.heap.size, 0, none⟩ = some (.int .i64 next) ∧ W.cell? ⟨w.heap.size, 1, none⟩ = some (.slice (some ad) n c) ∧ W.cell? (ad.add (q * 3)) = some (.int .i64 p1) ∧ W.cell? ⟨(ad.add (q * 3)).block, (ad.add (q * 3)).off + 1, none⟩ = some (.int .i64 p2) ∧ W.cell? ⟨(ad.add (q * 3)).block, (ad.add (q * 3)).off + 2, none⟩ = some (.slice Ab m cb) ∧ Below V.heap.size V W) → Calls Try.prog 22 #[.agg #[.int .i64 next, .slice (some ad) n c], .int .i64 i] W fun e W' => e = .returned (.int .i64 q) ∧ Below W.heap.size W W' ∧ (W'.cell? ⟨w.heap.size, 0, none⟩ = some (.int .i64 next) ∧ W'.cell? ⟨w.heap.size, 1, none⟩ = some (.slice (some ad) n c) ∧ W'.cell? (ad.add (q * 3)) = some (.int .i64 p1) ∧ W'.cell? ⟨(ad.add (q * 3)).block, (ad.add (q * 3)).off + 1, none⟩ = some (.int .i64 p2) ∧ W'.cell? ⟨(ad.add (q * 3)).block, (ad.add (q * 3)).off + 2, none⟩ = some (.slice Ab m cb) ∧ Below V.heap.size V W') := fun W h => by
      refine (place_any W next (some ad) n c i q4).mono ?_
      rintro e W' ⟨rfl, hb⟩
      exact ⟨by rw [← HQ.out], hb, keepc h.1 hb, keepc h.2.1 hb, keepc h.2.2.1 hb, keepc h.2.2.2.1 hb, keepc h.2.2.2.2.1 hb, h.2.2.2.2.2.trans (hb.mono h.2.2.2.2.2.size)⟩
    have hCA : ∀ W : World, (W.cell? ⟨w.heap.size, 0, none⟩ = some (.int .i64 next) ∧ W.cell? ⟨w.heap.size, 1, none⟩ = some (.slice (some ad) n c) ∧ W.cell? (ad.add (q * 3)) = some (.int .i64 p1) ∧ W.cell? ⟨(ad.add (q * 3)).block, (ad.add (q * 3)).off + 1, none⟩ = some (.int .i64 p2) ∧ W.cell? ⟨(ad.add (q * 3)).block, (ad.add (q * 3)).off + 2, none⟩ = some (.slice Ab m cb) ∧ Below V.heap.size V W) → W.heap[V.heap.size]? = some (.cells #[.int .i64 0, .int .i64 0, .slice none 0 0] 29) → Calls Try.prog 22 #[.agg #[.int .i64 next, .slice (some ad) n c], .int .i64 i] W fun e W' => e = .returned (.int .i64 q) ∧ W'.cell? ⟨w.heap.size + 2, 0, none⟩ = some (.int .i64 0) ∧ W'.cell? ⟨w.heap.size + 2, 1, none⟩ = some (.int .i64 0) ∧ W'.cell? ⟨w.heap.size + 2, 2, none⟩ = some (.slice none 0 0) ∧ (∀ j, W'.frozen? ⟨w.heap.size + 2, j, none⟩ = false) ∧ (W'.cell? ⟨w.heap.size, 0, none⟩ = some (.int .i64 next) ∧ W'.cell? ⟨w.heap.size, 1, none⟩ = some (.slice (some ad) n c) ∧ W'.cell? (ad.add (q * 3)) = some (.int .i64 p1) ∧ W'.cell? ⟨(ad.add (q * 3)).block, (ad.add (q * 3)).off + 1, none⟩ = some (.int .i64 p2) ∧ W'.cell? ⟨(ad.add (q * 3)).block, (ad.add (q * 3)).off + 2, none⟩ = some (.slice Ab m cb) ∧ Below V.heap.size V W') := fun W h hT => by
      refine (hC W h).mono ?_
      rintro e W' ⟨rfl, hb, hs⟩
      have hlt : V.heap.size < W.heap.size := (Array.getElem?_eq_some_iff.1 hT).1
      have hT' : W'.heap[V.heap.size]? = some (.cells #[.int .i64 0, .int .i64 0, .slice none 0 0] 29) := (hb.block _ hlt).trans hT
      rw [← hszA]
      exact ⟨rfl, by rw [cell_of_row W' V.heap.size 0 _ _ (0, 0) hT']; rfl, by rw [cell_of_row W' V.heap.size 1 _ _ (0, 0) hT']; rfl, by rw [cell_of_row W' V.heap.size 2 _ _ (0, 0) hT']; rfl, fun j => frozen_of_row W' V.heap.size j _ _ hT', hs⟩
    have hD : ∀ W : World, (W.cell? ⟨w.heap.size, 0, none⟩ = some (.int .i64 next) ∧ W.cell? ⟨w.heap.size, 1, none⟩ = some (.slice (some ad) n c) ∧ W.cell? (ad.add (q * 3)) = some (.int .i64 p1) ∧ W.cell? ⟨(ad.add (q * 3)).block, (ad.add (q * 3)).off + 1, none⟩ = some (.int .i64 p2) ∧ W.cell? ⟨(ad.add (q * 3)).block, (ad.add (q * 3)).off + 2, none⟩ = some (.slice Ab m cb) ∧ Below V.heap.size V W) → (W.drew.cell? ⟨w.heap.size, 0, none⟩ = some (.int .i64 next) ∧ W.drew.cell? ⟨w.heap.size, 1, none⟩ = some (.slice (some ad) n c) ∧ W.drew.cell? (ad.add (q * 3)) = some (.int .i64 p1) ∧ W.drew.cell? ⟨(ad.add (q * 3)).block, (ad.add (q * 3)).off + 1, none⟩ = some (.int .i64 p2) ∧ W.drew.cell? ⟨(ad.add (q * 3)).block, (ad.add (q * 3)).off + 2, none⟩ = some (.slice Ab m cb) ∧ Below V.heap.size V W.drew) := fun W h => ⟨h.1, h.2.1, h.2.2.1, h.2.2.2.1, h.2.2.2.2.1, below_drewN h.2.2.2.2.2 1⟩
    have hAl : ∀ (W : World) (o : Obj), (W.cell? ⟨w.heap.size, 0, none⟩ = some (.int .i64 next) ∧ W.cell? ⟨w.heap.size, 1, none⟩ = some (.slice (some ad) n c) ∧ W.cell? (ad.add (q * 3)) = some (.int .i64 p1) ∧ W.cell? ⟨(ad.add (q * 3)).block, (ad.add (q * 3)).off + 1, none⟩ = some (.int .i64 p2) ∧ W.cell? ⟨(ad.add (q * 3)).block, (ad.add (q * 3)).off + 2, none⟩ = some (.slice Ab m cb) ∧ Below V.heap.size V W) → ((W.alloc o).cell? ⟨w.heap.size, 0, none⟩ = some (.int .i64 next) ∧ (W.alloc o).cell? ⟨w.heap.size, 1, none⟩ = some (.slice (some ad) n c) ∧ (W.alloc o).cell? (ad.add (q * 3)) = some (.int .i64 p1) ∧ (W.alloc o).cell? ⟨(ad.add (q * 3)).block, (ad.add (q * 3)).off + 1, none⟩ = some (.int .i64 p2) ∧ (W.alloc o).cell? ⟨(ad.add (q * 3)).block, (ad.add (q * 3)).off + 2, none⟩ = some (.slice Ab m cb) ∧ Below V.heap.size V (W.alloc o)) := fun W o h =>
      have hb : Below W.heap.size W (W.alloc o) := (Below.refl _ _).alloc (Nat.le_refl _) _
      ⟨keepc h.1 hb, keepc h.2.1 hb, keepc h.2.2.1 hb, keepc h.2.2.2.1 hb, keepc h.2.2.2.2.1 hb, h.2.2.2.2.2.trans (hb.mono h.2.2.2.2.2.size)⟩
    have hSt : ∀ (W : World) (u0 u1 u2 : Value), (W.cell? ⟨w.heap.size, 0, none⟩ = some (.int .i64 next) ∧ W.cell? ⟨w.heap.size, 1, none⟩ = some (.slice (some ad) n c) ∧ W.cell? (ad.add (q * 3)) = some (.int .i64 p1) ∧ W.cell? ⟨(ad.add (q * 3)).block, (ad.add (q * 3)).off + 1, none⟩ = some (.int .i64 p2) ∧ W.cell? ⟨(ad.add (q * 3)).block, (ad.add (q * 3)).off + 2, none⟩ = some (.slice Ab m cb) ∧ Below V.heap.size V W) → ((((W.setCell ⟨w.heap.size + 2, 0, none⟩ u0).setCell ⟨w.heap.size + 2, 1, none⟩ u1).setCell ⟨w.heap.size + 2, 2, none⟩ u2).cell? ⟨w.heap.size, 0, none⟩ = some (.int .i64 next) ∧ (((W.setCell ⟨w.heap.size + 2, 0, none⟩ u0).setCell ⟨w.heap.size + 2, 1, none⟩ u1).setCell ⟨w.heap.size + 2, 2, none⟩ u2).cell? ⟨w.heap.size, 1, none⟩ = some (.slice (some ad) n c) ∧ (((W.setCell ⟨w.heap.size + 2, 0, none⟩ u0).setCell ⟨w.heap.size + 2, 1, none⟩ u1).setCell ⟨w.heap.size + 2, 2, none⟩ u2).cell? (ad.add (q * 3)) = some (.int .i64 p1) ∧ (((W.setCell ⟨w.heap.size + 2, 0, none⟩ u0).setCell ⟨w.heap.size + 2, 1, none⟩ u1).setCell ⟨w.heap.size + 2, 2, none⟩ u2).cell? ⟨(ad.add (q * 3)).block, (ad.add (q * 3)).off + 1, none⟩ = some (.int .i64 p2) ∧ (((W.setCell ⟨w.heap.size + 2, 0, none⟩ u0).setCell ⟨w.heap.size + 2, 1, none⟩ u1).setCell ⟨w.heap.size + 2, 2, none⟩ u2).cell? ⟨(ad.add (q * 3)).block, (ad.add (q * 3)).off + 2, none⟩ = some (.slice Ab m cb) ∧ Below V.heap.size V (((W.setCell ⟨w.heap.size + 2, 0, none⟩ u0).setCell ⟨w.heap.size + 2, 1, none⟩ u1).setCell ⟨w.heap.size + 2, 2, none⟩ u2)) := fun W u0 u1 u2 h =>
      ⟨by rw [World.cell?_setCell_other _ _ _ _ (fun e => by (have := congrArg Addr.block e; simp only at this; omega)), World.cell?_setCell_other _ _ _ _ (fun e => by (have := congrArg Addr.block e; simp only at this; omega)), World.cell?_setCell_other _ _ _ _ (fun e => by (have := congrArg Addr.block e; simp only at this; omega))]; exact h.1, by rw [World.cell?_setCell_other _ _ _ _ (fun e => by (have := congrArg Addr.block e; simp only at this; omega)), World.cell?_setCell_other _ _ _ _ (fun e => by (have := congrArg Addr.block e; simp only at this; omega)), World.cell?_setCell_other _ _ _ _ (fun e => by (have := congrArg Addr.block e; simp only at this; omega))]; exact h.2.1, by rw [World.cell?_setCell_other _ _ _ _ (fun e => by (have := congrArg Addr.block e; simp only [block_of_add] at this; omega)), World.cell?_setCell_other _ _ _ _ (fun e => by (have := congrArg Addr.block e; simp only [block_of_add] at this; omega)), World.cell?_setCell_other _ _ _ _ (fun e => by (have := congrArg Addr.block e; simp only [block_of_add] at this; omega))]; exact h.2.2.1, by rw [World.cell?_setCell_other _ _ _ _ (fun e => by (have := congrArg Addr.block e; simp only [block_of_add] at this; omega)), World.cell?_setCell_other _ _ _ _ (fun e => by (have := congrArg Addr.block e; simp only [block_of_add] at this; omega)), World.cell?_setCell_other _ _ _ _ (fun e => by (have := congrArg Addr.block e; simp only [block_of_add] at this; omega))]; exact h.2.2.2.1, by rw [World.cell?_setCell_other _ _ _ _ (fun e => by (have := congrArg Addr.block e; simp only [block_of_add] at this; omega)), World.cell?_setCell_other _ _ _ _ (fun e => by (have := congrArg Addr.block e; simp only [block_of_add] at this; omega)), World.cell?_setCell_other _ _ _ _ (fun e => by (have := congrArg Addr.block e; simp only [block_of_add] at this; omega))]; exact h.2.2.2.2.1, ((h.2.2.2.2.2.setCell (by simp only; omega) _).setCell (by simp only; omega) _).setCell (by simp only; omega) _⟩
    have HST := Lib.hid hSt
    have HCC := Lib.hid hC
    have HCA := Lib.hid hCA
    have HD := Lib.hid hD
    have HAL := Lib.hid hAl
    have hbq : Below V.heap.size V V := Below.refl _ _
    clear hC hCA hD hAl hSt q4
    go_region_held3 (fun W => (W.cell? ⟨w.heap.size, 0, none⟩ = some (.int .i64 next) ∧ W.cell? ⟨w.heap.size, 1, none⟩ = some (.slice (some ad) n c) ∧ W.cell? (ad.add (q * 3)) = some (.int .i64 p1) ∧ W.cell? ⟨(ad.add (q * 3)).block, (ad.add (q * 3)).off + 1, none⟩ = some (.int .i64 p2) ∧ W.cell? ⟨(ad.add (q * 3)).block, (ad.add (q * 3)).off + 2, none⟩ = some (.slice Ab m cb) ∧ Below V.heap.size V W))
      (first | assumption | (refine ⟨?_, ?_, ?_, ?_, ?_, ?_⟩ <;> assumption) | (apply HST.out; first | assumption | (refine ⟨?_, ?_, ?_, ?_, ?_, ?_⟩ <;> assumption)) | (apply HD.out; first | assumption | (refine ⟨?_, ?_, ?_, ?_, ?_, ?_⟩ <;> assumption)) | (apply HD.out; apply HAL.out; first | assumption | (refine ⟨?_, ?_, ?_, ?_, ?_, ?_⟩ <;> assumption)) | (apply HAL.out; first | assumption | (refine ⟨?_, ?_, ?_, ?_, ?_, ?_⟩ <;> assumption)))
      (first
        | (go_at_call 22; refine (HCA.out _ ?_ ?_).mono ?_; (first | assumption | (refine ⟨?_, ?_, ?_, ?_, ?_, ?_⟩ <;> assumption)); exact heap_alloc_new V _; rintro e wx ⟨rfl, s0, s1, s2, s3, i1, i2, i3, i4, i5, i6⟩)
        | (go_at_call 22; refine (HCC.out _ ?_).mono ?_; (first | assumption | (refine ⟨?_, ?_, ?_, ?_, ?_, ?_⟩ <;> assumption)); rintro e wx ⟨rfl, hbx, i1, i2, i3, i4, i5, i6⟩))
    · have hal : Below wx.heap.size wx (wx.alloc (.cells #[.int .i64 p1, .int .i64 p2, .slice Ab m cb] 29)) := (Below.refl _ _).alloc (Nat.le_refl _) _
      have hVf : Below V.heap.size V (wx.alloc (.cells #[.int .i64 p1, .int .i64 p2, .slice Ab m cb] 29)) := i6.trans (hal.mono i6.size)
      have t1 := keepc i1 hal
      have t2 := keepc i2 hal
      have t3 : (wx.alloc (.cells #[.int .i64 p1, .int .i64 p2, .slice Ab m cb] 29)).cell? ⟨wx.heap.size, 1, none⟩ = some (.int .i64 p2) := by simp
      have t4 : (wx.alloc (.cells #[.int .i64 p1, .int .i64 p2, .slice Ab m cb] 29)).cell? ⟨wx.heap.size, 2, none⟩ = some (.slice Ab m cb) := by simp
      have hzf0 : w.heap.size + 2 ≤ (wx.alloc (.cells #[.int .i64 p1, .int .i64 p2, .slice Ab m cb] 29)).heap.size := by have := hVf.size; omega
      generalize wx.alloc (.cells #[.int .i64 p1, .int .i64 p2, .slice Ab m cb] 29) = Wf at hVf t1 t2 t3 t4 hzf0 ⊢
      clear i1 i2 i3 i4 i5 i6 hal
      have y3 : Wf.cell? ⟨w.heap.size + 1, 0, none⟩ = some (.int .i64 0) := keepc x3 hVf
      have y4 : Wf.cell? ⟨w.heap.size + 1, 1, none⟩ = some (.slice none 0 0) := keepc x4 hVf
      have g2 : ∀ j, Wf.frozen? ⟨w.heap.size + 1, j, none⟩ = false := fun j => by rw [hVf.frozen (by simp only; omega)]; exact f2 j
      have hbf : Below w.heap.size w Wf := hbA.trans (hVf.mono hbA.size)
      have hrbf : RdB Wf B Ab bs := hrb.below (hVf.mono (by omega))
      have hrf : RdP Wf B (some ad) P := hr.below (hbf.mono hB)
      clear HCC HCA HD HAL HST x1 x2 x3 x4 f2 r1 r2 r3 hrb hbq hVf
      go_wp2_with fail
      refine (send_any Wf next p2 HN.out hrf (Nat.le_trans hB hbf.size) HP.out HM.out hrbf hbl HNX.out).mono ?_
      rintro e w6 ⟨A6, c6, rfl, ho6, hb6⟩
      have y3' := keepc y3 hb6
      have y4' := keepc y4 hb6
      have hzf : w.heap.size + 2 ≤ Wf.heap.size := hzf0
      have g2' : ∀ j, w6.frozen? ⟨w.heap.size + 1, j, none⟩ = false := fun j => by rw [hb6.frozen (by simp only; omega)]; exact g2 j
      have hb06 : Below w.heap.size w w6 := hbf.trans (hb6.mono hbf.size)
      have HE := Lib.hid (((ho6.low (p := ⟨w.heap.size + 1, 0, none⟩) (by simp only; omega) (.int .i64 (next + 1))).low (p := ⟨w.heap.size + 1, 1, none⟩) (by simp only; omega) (.slice A6 (n + 1) c6)).base (show w.heap.size ≤ Wf.heap.size by omega))
      clear y3 y4 g2 ho6 hb6 hrbf hrf
      go_wp2_with fail
      refine bodyPost_ret (v := .agg #[.int .i64 (next + 1), .slice A6 (n + 1) c6]) ?_ rfl ⟨A6, c6, n + 1, by rw [HC.out.2], by rw [HC.out.1, List.length_append, ← HN.out]; rfl, by rw [HC.out.1]; exact HE.out, ((hb06.setCell (by simp) _).setCell (by simp) _)⟩
      rw [results_cell_one rfl]
      go_simp
      first | done | rfl
    · have hS := HST.out wx (.int .i64 p1) (.int .i64 p2) (.slice Ab m cb) ⟨i1, i2, i3, i4, i5, i6⟩
      have t3 : (((wx.setCell ⟨w.heap.size + 2, 0, none⟩ (.int .i64 p1)).setCell ⟨w.heap.size + 2, 1, none⟩ (.int .i64 p2)).setCell ⟨w.heap.size + 2, 2, none⟩ (.slice Ab m cb)).cell? ⟨w.heap.size + 2, 1, none⟩ = some (.int .i64 p2) := by
        have h1 : (wx.setCell ⟨w.heap.size + 2, 0, none⟩ (.int .i64 p1)).cell? ⟨w.heap.size + 2, 1, none⟩ = some (.int .i64 0) := by rw [World.cell?_setCell_other _ _ _ _ (by simp)]; exact s1
        rw [World.cell?_setCell_other _ _ _ _ (by simp)]
        exact World.cell?_setCell_same _ _ _ h1
      have t4 : (((wx.setCell ⟨w.heap.size + 2, 0, none⟩ (.int .i64 p1)).setCell ⟨w.heap.size + 2, 1, none⟩ (.int .i64 p2)).setCell ⟨w.heap.size + 2, 2, none⟩ (.slice Ab m cb)).cell? ⟨w.heap.size + 2, 2, none⟩ = some (.slice Ab m cb) := by
        have h2 : ((wx.setCell ⟨w.heap.size + 2, 0, none⟩ (.int .i64 p1)).setCell ⟨w.heap.size + 2, 1, none⟩ (.int .i64 p2)).cell? ⟨w.heap.size + 2, 2, none⟩ = some (.slice none 0 0) := by rw [World.cell?_setCell_other _ _ _ _ (by simp), World.cell?_setCell_other _ _ _ _ (by simp)]; exact s2
        exact World.cell?_setCell_same _ _ _ h2
      have t1 := hS.1
      have t2 := hS.2.1
      have hVf := hS.2.2.2.2.2
      have hzf0 : w.heap.size + 2 ≤ (((wx.setCell ⟨w.heap.size + 2, 0, none⟩ (.int .i64 p1)).setCell ⟨w.heap.size + 2, 1, none⟩ (.int .i64 p2)).setCell ⟨w.heap.size + 2, 2, none⟩ (.slice Ab m cb)).heap.size := by have := hVf.size; omega
      generalize ((wx.setCell ⟨w.heap.size + 2, 0, none⟩ (.int .i64 p1)).setCell ⟨w.heap.size + 2, 1, none⟩ (.int .i64 p2)).setCell ⟨w.heap.size + 2, 2, none⟩ (.slice Ab m cb) = Wf at hVf t1 t2 t3 t4 hzf0 ⊢
      clear hS i1 i2 i3 i4 i5 i6 s0 s1 s2 s3
      have y3 : Wf.cell? ⟨w.heap.size + 1, 0, none⟩ = some (.int .i64 0) := keepc x3 hVf
      have y4 : Wf.cell? ⟨w.heap.size + 1, 1, none⟩ = some (.slice none 0 0) := keepc x4 hVf
      have g2 : ∀ j, Wf.frozen? ⟨w.heap.size + 1, j, none⟩ = false := fun j => by rw [hVf.frozen (by simp only; omega)]; exact f2 j
      have hbf : Below w.heap.size w Wf := hbA.trans (hVf.mono hbA.size)
      have hrbf : RdB Wf B Ab bs := hrb.below (hVf.mono (by omega))
      have hrf : RdP Wf B (some ad) P := hr.below (hbf.mono hB)
      clear HCC HCA HD HAL HST x1 x2 x3 x4 f2 r1 r2 r3 hrb hbq hVf
      go_wp2_with fail
      refine (send_any Wf next p2 HN.out hrf (Nat.le_trans hB hbf.size) HP.out HM.out hrbf hbl HNX.out).mono ?_
      rintro e w6 ⟨A6, c6, rfl, ho6, hb6⟩
      have y3' := keepc y3 hb6
      have y4' := keepc y4 hb6
      have hzf : w.heap.size + 2 ≤ Wf.heap.size := hzf0
      have g2' : ∀ j, w6.frozen? ⟨w.heap.size + 1, j, none⟩ = false := fun j => by rw [hb6.frozen (by simp only; omega)]; exact g2 j
      have hb06 : Below w.heap.size w w6 := hbf.trans (hb6.mono hbf.size)
      have HE := Lib.hid (((ho6.low (p := ⟨w.heap.size + 1, 0, none⟩) (by simp only; omega) (.int .i64 (next + 1))).low (p := ⟨w.heap.size + 1, 1, none⟩) (by simp only; omega) (.slice A6 (n + 1) c6)).base (show w.heap.size ≤ Wf.heap.size by omega))
      clear y3 y4 g2 ho6 hb6 hrbf hrf
      go_wp2_with fail
      refine bodyPost_ret (v := .agg #[.int .i64 (next + 1), .slice A6 (n + 1) c6]) ?_ rfl ⟨A6, c6, n + 1, by rw [HC.out.2], by rw [HC.out.1, List.length_append, ← HN.out]; rfl, by rw [HC.out.1]; exact HE.out, ((hb06.setCell (by simp) _).setCell (by simp) _)⟩
      rw [results_cell_one rfl]
      go_simp
      first | done | rfl
end Go.Proofs.Ytnmamfgebbcehaa.pk
