/- The walk of PlaceAlls. -/
import Derived.Test.YtbnpljcjjpokjaaPlace9
import Derived.Deep.RegionHeld3
namespace Go.Proofs.Ytbnpljcjjpokjaa.placeWalk
open Go.RowKit Go.Proofs.Ytbnpljcjjpokjaa.lib Go.Proofs.Ytbnpljcjjpokjaa.mem Go.Proofs.Ytbnpljcjjpokjaa.viewWalk

theorem SingleP.or {L : List (Int × Int)} (h : SingleP L) : L.length = 0 ∨ RightP L := h
theorem bothM_len (L U : List (Int × Int)) : (bothM L U).length ≤ L.length := List.length_filter_le _ _
theorem refLeadM_len (L : List (Int × Int)) (x : Int × Int) : (refLeadM L x).length ≤ L.length + 1 := by
  unfold refLeadM
  have := List.length_filter_le (fun m => decide (m ≠ x)) L
  rw [List.length_append]
  split <;> simp only [List.length_nil, List.length_cons] <;> omega

set_option maxRecDepth 4000 in
set_option maxHeartbeats 8000000 in
theorem walk_PlaceAlls (w : World) (s cnt : Int) (hsi : I64 s) (x : Int × Int) {B : Nat} {A A2 : Option Addr} {n n2 c c2 : Nat} {K U : List (Int × Int)} (hn : n = K.length) (hc : n ≤ c) (hr : RdM w B A K) (hn2 : n2 = U.length) (hc2 : n2 ≤ c2) (hr2 : RdM w B A2 U) (hB : B ≤ w.heap.size) :
    Calls Try.prog 7 #[.int .i64 s, .slice A n c, .slice A2 n2 c2, .int .i64 cnt, mv x] w fun e w' => e = .returned (.bool true) ∧ Below w.heap.size w w' := by
  obtain ⟨x1, x2⟩ := x
  simp only [mv]
  have hS63 : s ≤ 9223372036854775807 := hsi.2
  have HN := Lib.hid hn
  have HN2 := Lib.hid hn2
  clear hn hn2 hsi
  have hcell : Cell2 (w.alloc (.cells #[.int .i64 x1, .int .i64 x2] 26)) w.heap.size (x1, x2) := Cell2.new w (x1, x2) _
  have hbA : Below w.heap.size w (w.alloc (.cells #[.int .i64 x1, .int .i64 x2] 26)) := (Below.refl _ _).alloc (Nat.le_refl _) _
  have hsz : (w.alloc (.cells #[.int .i64 x1, .int .i64 x2] 26)).heap.size = w.heap.size + 1 := by simp
  go_enter Try.func7, Try.ntmps7
  go_wp2_with fail
  generalize w.alloc (.cells #[.int .i64 x1, .int .i64 x2] 26) = V at hcell hbA hsz ⊢
  refine (awake17 V).mono ?_
  rintro e w1 ⟨rfl, hb1⟩
  have hc1 := hcell.below hb1 (by omega)
  have hbw1 : Below w.heap.size w w1 := hbA.trans (hb1.mono hbA.size)
  clear hcell hbA hsz hb1
  by_cases hs0 : s < 0
  · go_wp2_with fail
    refine (awake17 w1).mono ?_
    rintro e w2 ⟨rfl, hb2⟩
    go_wp2_with fail
    go_ret
    exact ⟨rfl, hbw1.trans (hb2.mono hbw1.size)⟩
  go_wp2_with fail
  refine (rightK_any w1 HN.out (hr.below (hbw1.mono hB)) HN2.out (hr2.below (hbw1.mono hB)) (Nat.le_trans hB hbw1.size)).mono ?_
  rintro e w2 ⟨⟨b, rfl, hb'⟩, hb2⟩
  have hc2' : Cell2 w2 w.heap.size (x1, x2) := ⟨keepc hc1.1 hb2, keepc hc1.2 hb2⟩
  have hbw2 : Below w.heap.size w w2 := hbw1.trans (hb2.mono hbw1.size)
  clear hc1 hbw1 hb2
  cases b
  · clear hb' hc2'
    go_wp2_with fail
    refine (awake17 w2).mono ?_
    rintro e w3 ⟨rfl, hb3⟩
    go_wp2_with fail
    go_ret
    exact ⟨rfl, hbw2.trans (hb3.mono hbw2.size)⟩
  have hSS := hb'.1 rfl
  clear hb'
  have hK16 : K.length ≤ 16 := hSS.1.le
  have hU16 : U.length ≤ 16 := hSS.2.le
  obtain ⟨sn, hsn⟩ : ∃ sn : Nat, s = sn := ⟨s.toNat, by omega⟩
  subst hsn
  obtain ⟨X, hX⟩ : ∃ X, X = chainM sn K U cnt := ⟨_, rfl⟩
  obtain ⟨Y, hY⟩ : ∃ Y, Y = bothM K U := ⟨_, rfl⟩
  obtain ⟨Z, hZ⟩ : ∃ Z, Z = refLeadM K (x1, x2) := ⟨_, rfl⟩
  have hZ2 : Z = leadM K (x1, x2) := by rw [hZ, lead_same K (x1, x2) hSS.1.or]
  have hXl : X.length ≤ 32 := by rw [hX, chainM, ← List.take_length (l := turnM sn U)]; exact chain_take_bound sn K U cnt _ hK16 hU16
  have hYl : Y.length ≤ 32 := by rw [hY]; exact Nat.le_trans (bothM_len _ _) (by omega)
  have hZl : Z.length ≤ 32 := by rw [hZ]; exact Nat.le_trans (refLeadM_len _ _) (by omega)
  obtain ⟨nX, hnX⟩ : ∃ n, n = X.length := ⟨_, rfl⟩
  obtain ⟨nY, hnY⟩ : ∃ n, n = Y.length := ⟨_, rfl⟩
  obtain ⟨nZ, hnZ⟩ : ∃ n, n = Z.length := ⟨_, rfl⟩
  have hP : ∀ W W' : World, (Below w.heap.size w W ∧ W.cell? ⟨w.heap.size, 0, none⟩ = some (.int .i64 x1) ∧ W.cell? ⟨w.heap.size, 1, none⟩ = some (.int .i64 x2)) → Below W.heap.size W W' → (Below w.heap.size w W' ∧ W'.cell? ⟨w.heap.size, 0, none⟩ = some (.int .i64 x1) ∧ W'.cell? ⟨w.heap.size, 1, none⟩ = some (.int .i64 x2)) := fun W W' h hb => ⟨h.1.trans (hb.mono h.1.size), keepc h.2.1 hb, keepc h.2.2 hb⟩
  have hD : ∀ W : World, (Below w.heap.size w W ∧ W.cell? ⟨w.heap.size, 0, none⟩ = some (.int .i64 x1) ∧ W.cell? ⟨w.heap.size, 1, none⟩ = some (.int .i64 x2)) → (Below w.heap.size w W.drew ∧ W.drew.cell? ⟨w.heap.size, 0, none⟩ = some (.int .i64 x1) ∧ W.drew.cell? ⟨w.heap.size, 1, none⟩ = some (.int .i64 x2)) := fun W h => ⟨below_drewN h.1 1, h.2.1, h.2.2⟩
  have hK : ∀ W : World, Below w.heap.size w W → RdM W B A K ∧ RdM W B A2 U ∧ B ≤ W.heap.size := fun W h => ⟨hr.below (h.mono hB), hr2.below (h.mono hB), Nat.le_trans hB h.size⟩
  have hX2 := hX
  have hY2 := hY
  have hC1 : ∀ W : World, (Below w.heap.size w W ∧ W.cell? ⟨w.heap.size, 0, none⟩ = some (.int .i64 x1) ∧ W.cell? ⟨w.heap.size, 1, none⟩ = some (.int .i64 x2)) → Calls Try.prog 25 #[.int .i64 sn, .slice A n c, .slice A2 n2 c2, .int .i64 cnt] W fun e W' => ∃ A' c', e = .returned (.slice A' nX c') ∧ RdM W' W'.heap.size A' X ∧ (Below w.heap.size w W' ∧ W'.cell? ⟨w.heap.size, 0, none⟩ = some (.int .i64 x1) ∧ W'.cell? ⟨w.heap.size, 1, none⟩ = some (.int .i64 x2)) := fun W h => by
    obtain ⟨g1, g2, g3⟩ := hK W h.1
    refine (chain_any W sn cnt HN.out g1 HN2.out g2 g3 hK16 hU16).mono ?_
    rintro e W' ⟨A', c', m', rfl, hm, ho, hb⟩
    exact ⟨A', c', by rw [hm, hnX, hX2], by rw [hX2]; exact ho.rd, hP W W' h hb⟩
  have hC2 : ∀ (W : World) (A5 : Option Addr), (Below w.heap.size w W ∧ W.cell? ⟨w.heap.size, 0, none⟩ = some (.int .i64 x1) ∧ W.cell? ⟨w.heap.size, 1, none⟩ = some (.int .i64 x2)) → RdM W W.heap.size A5 X → Calls Try.prog 26 #[.int .i64 sn, .slice A n c, .slice A2 n2 c2, .int .i64 cnt] W fun e W' => ∃ A' c', e = .returned (.slice A' nX c') ∧ RdM W' W'.heap.size A' X ∧ RdM W' W'.heap.size A5 X ∧ (Below w.heap.size w W' ∧ W'.cell? ⟨w.heap.size, 0, none⟩ = some (.int .i64 x1) ∧ W'.cell? ⟨w.heap.size, 1, none⟩ = some (.int .i64 x2)) := fun W A5 h hq => by
    obtain ⟨g1, g2, g3⟩ := hK W h.1
    refine (refChain_any W sn cnt (by omega) HN.out g1 HN2.out hc2 g2 g3 hK16 hU16).mono ?_
    rintro e W' ⟨A', c', m', rfl, hm, ho, hb⟩
    exact ⟨A', c', by rw [hm, hnX, hX], by rw [hX]; exact ho.rd, (hq.below hb).more hb.size, hP W W' h hb⟩
  have hB1 : ∀ W : World, (Below w.heap.size w W ∧ W.cell? ⟨w.heap.size, 0, none⟩ = some (.int .i64 x1) ∧ W.cell? ⟨w.heap.size, 1, none⟩ = some (.int .i64 x2)) → Calls Try.prog 27 #[.slice A n c, .slice A2 n2 c2] W fun e W' => ∃ A' c', e = .returned (.slice A' nY c') ∧ RdM W' W'.heap.size A' Y ∧ (Below w.heap.size w W' ∧ W'.cell? ⟨w.heap.size, 0, none⟩ = some (.int .i64 x1) ∧ W'.cell? ⟨w.heap.size, 1, none⟩ = some (.int .i64 x2)) := fun W h => by
    obtain ⟨g1, g2, g3⟩ := hK W h.1
    refine (both_any W HN.out g1 HN2.out g2 g3 (by omega) (by omega)).mono ?_
    rintro e W' ⟨A', c', m', rfl, hm, ho, hb⟩
    exact ⟨A', c', by rw [hm, hnY, hY2], by rw [hY2]; exact ho.rd, hP W W' h hb⟩
  have hB2 : ∀ (W : World) (A5 : Option Addr), (Below w.heap.size w W ∧ W.cell? ⟨w.heap.size, 0, none⟩ = some (.int .i64 x1) ∧ W.cell? ⟨w.heap.size, 1, none⟩ = some (.int .i64 x2)) → RdM W W.heap.size A5 Y → Calls Try.prog 28 #[.slice A n c, .slice A2 n2 c2] W fun e W' => ∃ A' c', e = .returned (.slice A' nY c') ∧ RdM W' W'.heap.size A' Y ∧ RdM W' W'.heap.size A5 Y ∧ (Below w.heap.size w W' ∧ W'.cell? ⟨w.heap.size, 0, none⟩ = some (.int .i64 x1) ∧ W'.cell? ⟨w.heap.size, 1, none⟩ = some (.int .i64 x2)) := fun W A5 h hq => by
    obtain ⟨g1, g2, g3⟩ := hK W h.1
    refine (refBoth_any W HN.out g1 HN2.out g2 g3 (by omega) (by omega)).mono ?_
    rintro e W' ⟨A', c', m', rfl, hm, ho, hb⟩
    exact ⟨A', c', by rw [hm, hnY, hY], by rw [hY]; exact ho.rd, (hq.below hb).more hb.size, hP W W' h hb⟩
  have hL1 : ∀ W : World, (Below w.heap.size w W ∧ W.cell? ⟨w.heap.size, 0, none⟩ = some (.int .i64 x1) ∧ W.cell? ⟨w.heap.size, 1, none⟩ = some (.int .i64 x2)) → Calls Try.prog 29 #[.slice A n c, .agg #[.int .i64 x1, .int .i64 x2]] W fun e W' => ∃ A' c', e = .returned (.slice A' nZ c') ∧ RdM W' W'.heap.size A' Z ∧ (Below w.heap.size w W' ∧ W'.cell? ⟨w.heap.size, 0, none⟩ = some (.int .i64 x1) ∧ W'.cell? ⟨w.heap.size, 1, none⟩ = some (.int .i64 x2)) := fun W h => by
    obtain ⟨g1, g2, g3⟩ := hK W h.1
    refine (lead_any W (x1, x2) HN.out g1 g3 hc (by omega)).mono ?_
    rintro e W' ⟨A', c', m', rfl, hm, ho, hb⟩
    exact ⟨A', c', by rw [hm, hnZ, hZ2], by rw [hZ2]; exact ho.rd, hP W W' h hb⟩
  have hL2 : ∀ (W : World) (A5 : Option Addr), (Below w.heap.size w W ∧ W.cell? ⟨w.heap.size, 0, none⟩ = some (.int .i64 x1) ∧ W.cell? ⟨w.heap.size, 1, none⟩ = some (.int .i64 x2)) → RdM W W.heap.size A5 Z → Calls Try.prog 30 #[.slice A n c, .agg #[.int .i64 x1, .int .i64 x2]] W fun e W' => ∃ A' c', e = .returned (.slice A' nZ c') ∧ RdM W' W'.heap.size A' Z ∧ RdM W' W'.heap.size A5 Z ∧ (Below w.heap.size w W' ∧ W'.cell? ⟨w.heap.size, 0, none⟩ = some (.int .i64 x1) ∧ W'.cell? ⟨w.heap.size, 1, none⟩ = some (.int .i64 x2)) := fun W A5 h hq => by
    obtain ⟨g1, g2, g3⟩ := hK W h.1
    refine (refLead_any W (x1, x2) HN.out g1 g3 (by omega)).mono ?_
    rintro e W' ⟨A', c', m', rfl, hm, ho, hb⟩
    exact ⟨A', c', by rw [hm, hnZ, hZ], by rw [hZ]; exact ho.rd, (hq.below hb).more hb.size, hP W W' h hb⟩
  have hSm : ∀ (W : World) (q : Nat) (A5 A6 : Option Addr) (c5 c6 : Nat) (Q : List (Int × Int)), q = Q.length → Q.length ≤ 32 → (Below w.heap.size w W ∧ W.cell? ⟨w.heap.size, 0, none⟩ = some (.int .i64 x1) ∧ W.cell? ⟨w.heap.size, 1, none⟩ = some (.int .i64 x2)) → RdM W W.heap.size A5 Q → RdM W W.heap.size A6 Q → Calls Try.prog 24 #[.slice A5 q c5, .slice A6 q c6] W fun e W' => e = .returned (.bool true) ∧ (Below w.heap.size w W' ∧ W'.cell? ⟨w.heap.size, 0, none⟩ = some (.int .i64 x1) ∧ W'.cell? ⟨w.heap.size, 1, none⟩ = some (.int .i64 x2)) := fun W q A5 A6 c5 c6 Q hq hql h h5 h6 => by
    refine (sameM_any W hq h5 hq h6 (Nat.le_refl _) (Nat.le_refl _) (by omega) (by omega)).mono ?_
    rintro e W' ⟨rfl, hb⟩
    exact ⟨by rw [decide_eq_true rfl], hP W W' h hb⟩
  have HC1 := Lib.hid hC1
  have HC2 := Lib.hid hC2
  have HB1 := Lib.hid hB1
  have HB2 := Lib.hid hB2
  have HL1 := Lib.hid hL1
  have HL2 := Lib.hid hL2
  have HSm := Lib.hid hSm
  have HD := Lib.hid hD
  have NX := Lib.hid hnX
  have NY := Lib.hid hnY
  have NZ := Lib.hid hnZ
  have LX := Lib.hid hXl
  have LY := Lib.hid hYl
  have LZ := Lib.hid hZl
  have hs2 : Below w.heap.size w w2 := hbw2
  obtain ⟨q1, q2⟩ := hc2'
  clear hC1 hC2 hB1 hB2 hL1 hL2 hSm hD hP hK hX hY hZ hX2 hY2 hZ2 hnX hnY hnZ hXl hYl hZl hSS hbw2 hs0 hS63
  go_wp2_with fail
  go_region_held3 (fun W => (Below w.heap.size w W ∧ W.cell? ⟨w.heap.size, 0, none⟩ = some (.int .i64 x1) ∧ W.cell? ⟨w.heap.size, 1, none⟩ = some (.int .i64 x2))) (first | assumption | (refine ⟨?_, ?_, ?_⟩ <;> assumption) | (apply HD.out; first | assumption | (refine ⟨?_, ?_, ?_⟩ <;> assumption)))
    (first
      | (go_at_call 25; refine (HC1.out _ ?_).mono ?_; (first | assumption | (refine ⟨?_, ?_, ?_⟩ <;> assumption)); rintro e wx ⟨A5, c5, rfl, r5, i1, i2, i3⟩)
      | (go_at_call 26; refine (HC2.out _ _ ?_ (by assumption)).mono ?_; (first | assumption | (refine ⟨?_, ?_, ?_⟩ <;> assumption)); rintro e wy ⟨A6, c6, rfl, r6, r5, i1, i2, i3⟩)
      | (go_at_call 27; refine (HB1.out _ ?_).mono ?_; (first | assumption | (refine ⟨?_, ?_, ?_⟩ <;> assumption)); rintro e wx ⟨A5, c5, rfl, r5, i1, i2, i3⟩)
      | (go_at_call 28; refine (HB2.out _ _ ?_ (by assumption)).mono ?_; (first | assumption | (refine ⟨?_, ?_, ?_⟩ <;> assumption)); rintro e wy ⟨A6, c6, rfl, r6, r5, i1, i2, i3⟩)
      | (go_at_call 29; refine (HL1.out _ ?_).mono ?_; (first | assumption | (refine ⟨?_, ?_, ?_⟩ <;> assumption)); rintro e wx ⟨A5, c5, rfl, r5, i1, i2, i3⟩)
      | (go_at_call 30; refine (HL2.out _ _ ?_ (by assumption)).mono ?_; (first | assumption | (refine ⟨?_, ?_, ?_⟩ <;> assumption)); rintro e wy ⟨A6, c6, rfl, r6, r5, i1, i2, i3⟩)
      | (go_at_call 24; refine (HSm.out _ _ _ _ _ _ _ (by first | exact NX.out | exact NY.out | exact NZ.out) (by first | exact LX.out | exact LY.out | exact LZ.out) ?_ (by assumption) (by assumption)).mono ?_; (first | assumption | (refine ⟨?_, ?_, ?_⟩ <;> assumption)); rintro e wz ⟨rfl, i1, i2, i3⟩))
  go_wp2_with fail
  go_ret
  exact ⟨rfl, by assumption⟩
end Go.Proofs.Ytbnpljcjjpokjaa.placeWalk
