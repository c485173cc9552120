/- What does answers. -/
import Derived.Test.YtabjkmennijaeaaHs2
namespace Go.Proofs.Ytabjkmennijaeaa.hs
open Go.RowKit Go.Proofs.Ytabjkmennijaeaa.lib Go.Proofs.Ytabjkmennijaeaa.byt
set_option linter.unusedVariables false
set_option linter.unusedSimpArgs false

set_option maxRecDepth 8000 in
set_option maxHeartbeats 4000000 in
theorem does_any (w : World) {sb mb n nv : Nat} {L : List Dn} {V : List ByteArray} {T Hd : List Nat} {Ac : Option Addr} {cc : Nat} {Av : Option Addr} {cv : Nat} {At : Option Addr} {ct : Nat} {Aa : Option Addr} {ca : Nat}
    (h : SearchP w sb mb n nv L V T Hd Ac cc Av cv At ct Aa ca) {i num t : Nat} {d : Dn} (hi : i < n) (hn : num < nv) (hd : L[i]? = some d) (ht : T[i]? = some t) (hbig : n ≤ 1000 ∧ nv ≤ 1000) :
    Calls Try.prog 19 #[.pointer (some ⟨sb, 0, none⟩), .int .i64 i, .int .i64 num] w fun e w' => e = .returned (.tuple #[.int .i64 (numP d t num (valOf V num) : Nat), .bool (doesP d (valOf V num)).2]) ∧ Below w.heap.size w w' := by
  obtain ⟨ad, d', rfl, hd', hc⟩ := h.call hi
  obtain rfl : d = d' := by rw [hd] at hd'; injection hd'
  obtain ⟨at', t', rfl, ht', htc⟩ := h.toI hi
  obtain rfl : t = t' := by rw [ht] at ht'; injection ht'
  obtain ⟨av, x, rfl, hx, hxc⟩ := h.val hn
  obtain ⟨g0, g1, g2, g3, g4⟩ := h.cells
  obtain ⟨k0, k1, k2, k3, k4, k5, k6, k7, k8, k9, k10, k11, k12, k13, k14⟩ := hc.all
  obtain ⟨kind, key, val, old, hold, fr, to, code, rv, has⟩ := d
  simp only at k4 k5 k6 k7 k8 k9 k10 k11 k12 k13
  have hi0 : (0 : Int) ≤ i := by omega
  have hi1 : (i : Int) < n := by omega
  have hn0 : (0 : Int) ≤ num := by omega
  have hn1 : (num : Int) < nv := by omega
  have HA := Lib.hid (fun W => answered_any W ⟨kind, key, val, old, hold, fr, to, code, rv, has⟩)
  obtain ⟨v, hv⟩ : ∃ v, v = valOf V num := ⟨_, rfl⟩
  rw [← hv]
  have HV := Lib.hid hv
  have HX := Lib.hid hx
  clear h hd hd' ht ht' hc g3 g4 hv hx
  go_enter Try.func19, Try.ntmps19
  go_wp2_with (rw [store_cx])
  have hbV : Below w.heap.size w (w.alloc (.cells #[.int .i64 0, .int .i64 0, .int .i64 0, .int .i64 0, .int .i64 kind, .string key, .string val, .string old, .bool hold, .int .i64 fr, .int .i64 to, .int .i64 code, .string rv, .bool has, .complex .f64 0 0] 36)) := (Below.refl _ _).alloc (Nat.le_refl _) _
  have hrow := heap_alloc_new w (.cells #[.int .i64 0, .int .i64 0, .int .i64 0, .int .i64 0, .int .i64 kind, .string key, .string val, .string old, .bool hold, .int .i64 fr, .int .i64 to, .int .i64 code, .string rv, .bool has, .complex .f64 0 0] 36 (0, 0))
  have b4 := cell_of_row _ w.heap.size 4 _ _ (0, 0) hrow
  have b7 := cell_of_row _ w.heap.size 7 _ _ (0, 0) hrow
  have b8 := cell_of_row _ w.heap.size 8 _ _ (0, 0) hrow
  have b11 := cell_of_row _ w.heap.size 11 _ _ (0, 0) hrow
  have b12 := cell_of_row _ w.heap.size 12 _ _ (0, 0) hrow
  have b13 := cell_of_row _ w.heap.size 13 _ _ (0, 0) hrow
  simp only [List.getElem?_toArray, List.getElem?_cons_succ, List.getElem?_cons_zero] at b4 b7 b8 b11 b12 b13
  replace g1 := keepc g1 hbV
  replace g2 := keepc g2 hbV
  replace htc := keepc htc hbV
  replace hxc := keepc hxc hbV
  refine (HA.out (w.alloc (.cells #[.int .i64 0, .int .i64 0, .int .i64 0, .int .i64 0, .int .i64 kind, .string key, .string val, .string old, .bool hold, .int .i64 fr, .int .i64 to, .int .i64 code, .string rv, .bool has, .complex .f64 0 0] 36))).mono ?_
  rintro e w2 ⟨rfl, hb2⟩
  have hbw := hbV.trans (hb2.mono hbV.size)
  replace g1 := keepc g1 hb2
  replace g2 := keepc g2 hb2
  replace htc := keepc htc hb2
  replace hxc := keepc hxc hb2
  replace b4 := keepc b4 hb2
  replace b7 := keepc b7 hb2
  replace b8 := keepc b8 hb2
  replace b11 := keepc b11 hb2
  replace b12 := keepc b12 hb2
  replace b13 := keepc b13 hb2
  clear hrow hbV hb2 HA g0 k0 k1 k2 k3 k4 k5 k6 k7 k8 k9 k10 k11 k12 k13 k14
  have HBW := Lib.hid hbw
  clear hbw
  by_cases hnum : num = 0
  · have hv : v = none := by rw [HV.out]; unfold valOf; rw [if_pos hnum]
    subst hnum hv
    clear HV HX
    cases han : ans ⟨kind, key, val, old, hold, fr, to, code, rv, has⟩ <;> cases has
    · go_wp2_with fail
      go_quiet (fail)
      by_cases q1 : kind = 1
      · subst q1
        go_wp2_with fail
        all_goals (go_ret2; refine ⟨(by first | (simp [numP, doesP, saysP, swapP, han]; done) | (simp [numP, doesP, saysP, swapP, han]; omega)), ?_⟩; first | exact below_drewN HBW.out _ | exact below_drewN (below_drewN HBW.out _) _ | exact below_drewN (below_drewN (below_drewN HBW.out _) _) _)
      have q1b : (kind == 1) = false := beq_false_of_ne q1
      by_cases q2 : kind = 2
      · subst q2
        go_wp2_with fail
        go_quiet (fail)
        go_wp2_with fail
        all_goals (go_ret2; refine ⟨(by first | (simp [numP, doesP, saysP, swapP, han]; done) | (simp [numP, doesP, saysP, swapP, han]; omega)), ?_⟩; first | exact below_drewN HBW.out _ | exact below_drewN (below_drewN HBW.out _) _ | exact below_drewN (below_drewN (below_drewN HBW.out _) _) _)
      have q2b : (kind == 2) = false := beq_false_of_ne q2
      by_cases q3 : kind = 3
      · subst q3
        go_wp2_with fail
        go_quiet (fail)
        go_wp2_with fail
        all_goals (go_ret2; refine ⟨(by first | (simp [numP, doesP, saysP, swapP, han]; done) | (simp [numP, doesP, saysP, swapP, han]; omega)), ?_⟩; first | exact below_drewN HBW.out _ | exact below_drewN (below_drewN HBW.out _) _ | exact below_drewN (below_drewN (below_drewN HBW.out _) _) _)
      have q3b : (kind == 3) = false := beq_false_of_ne q3
      by_cases q4 : kind = 4
      · subst q4
        cases hold
        · go_wp2_with fail
          go_quiet (fail)
          go_wp2_with fail
          go_quiet (fail)
          go_wp2_with fail
          all_goals (go_ret2; refine ⟨(by first | (simp [numP, doesP, saysP, swapP, han]; done) | (simp [numP, doesP, saysP, swapP, han]; omega)), ?_⟩; first | exact below_drewN HBW.out _ | exact below_drewN (below_drewN HBW.out _) _ | exact below_drewN (below_drewN (below_drewN HBW.out _) _) _)
        · go_wp2_with fail
          go_quiet (fail)
          go_wp2_with fail
          all_goals (go_ret2; refine ⟨(by first | (simp [numP, doesP, saysP, swapP, han]; done) | (simp [numP, doesP, saysP, swapP, han]; omega)), ?_⟩; first | exact below_drewN HBW.out _ | exact below_drewN (below_drewN HBW.out _) _ | exact below_drewN (below_drewN (below_drewN HBW.out _) _) _)
      have q4b : (kind == 4) = false := beq_false_of_ne q4
      · go_wp2_with fail
        all_goals (go_ret2; refine ⟨(by first | (simp [numP, doesP, saysP, swapP, han, q1, q2, q3, q4]; done) | (simp [numP, doesP, saysP, swapP, han, q1, q2, q3, q4]; omega)), ?_⟩; first | exact below_drewN HBW.out _ | exact below_drewN (below_drewN HBW.out _) _ | exact below_drewN (below_drewN (below_drewN HBW.out _) _) _)
    · go_wp2_with fail
      go_quiet (fail)
      by_cases q1 : kind = 1
      · subst q1
        go_wp2_with fail
        all_goals (go_ret2; refine ⟨(by first | (simp [numP, doesP, saysP, swapP, han]; done) | (simp [numP, doesP, saysP, swapP, han]; omega)), ?_⟩; first | exact below_drewN HBW.out _ | exact below_drewN (below_drewN HBW.out _) _ | exact below_drewN (below_drewN (below_drewN HBW.out _) _) _)
      have q1b : (kind == 1) = false := beq_false_of_ne q1
      by_cases q2 : kind = 2
      · subst q2
        go_wp2_with fail
        go_quiet (fail)
        go_wp2_with fail
        all_goals (go_ret2; refine ⟨(by first | (simp [numP, doesP, saysP, swapP, han]; done) | (simp [numP, doesP, saysP, swapP, han]; omega)), ?_⟩; first | exact below_drewN HBW.out _ | exact below_drewN (below_drewN HBW.out _) _ | exact below_drewN (below_drewN (below_drewN HBW.out _) _) _)
      have q2b : (kind == 2) = false := beq_false_of_ne q2
      by_cases q3 : kind = 3
      · subst q3
        go_wp2_with fail
        go_quiet (fail)
        go_wp2_with fail
        all_goals (go_ret2; refine ⟨(by first | (simp [numP, doesP, saysP, swapP, han]; done) | (simp [numP, doesP, saysP, swapP, han]; omega)), ?_⟩; first | exact below_drewN HBW.out _ | exact below_drewN (below_drewN HBW.out _) _ | exact below_drewN (below_drewN (below_drewN HBW.out _) _) _)
      have q3b : (kind == 3) = false := beq_false_of_ne q3
      by_cases q4 : kind = 4
      · subst q4
        cases hold
        · go_wp2_with fail
          go_quiet (fail)
          go_wp2_with fail
          go_quiet (fail)
          go_wp2_with fail
          all_goals (go_ret2; refine ⟨(by first | (simp [numP, doesP, saysP, swapP, han]; done) | (simp [numP, doesP, saysP, swapP, han]; omega)), ?_⟩; first | exact below_drewN HBW.out _ | exact below_drewN (below_drewN HBW.out _) _ | exact below_drewN (below_drewN (below_drewN HBW.out _) _) _)
        · go_wp2_with fail
          go_quiet (fail)
          go_wp2_with fail
          all_goals (go_ret2; refine ⟨(by first | (simp [numP, doesP, saysP, swapP, han]; done) | (simp [numP, doesP, saysP, swapP, han]; omega)), ?_⟩; first | exact below_drewN HBW.out _ | exact below_drewN (below_drewN HBW.out _) _ | exact below_drewN (below_drewN (below_drewN HBW.out _) _) _)
      have q4b : (kind == 4) = false := beq_false_of_ne q4
      · go_wp2_with fail
        all_goals (go_ret2; refine ⟨(by first | (simp [numP, doesP, saysP, swapP, han, q1, q2, q3, q4]; done) | (simp [numP, doesP, saysP, swapP, han, q1, q2, q3, q4]; omega)), ?_⟩; first | exact below_drewN HBW.out _ | exact below_drewN (below_drewN HBW.out _) _ | exact below_drewN (below_drewN (below_drewN HBW.out _) _) _)
    · go_wp2_with fail
      go_quiet (fail)
      by_cases q1 : kind = 1
      · subst q1
        go_wp2_with fail
        all_goals (go_ret2; refine ⟨(by first | (simp [numP, doesP, saysP, swapP, han]; done) | (simp [numP, doesP, saysP, swapP, han]; omega)), ?_⟩; first | exact below_drewN HBW.out _ | exact below_drewN (below_drewN HBW.out _) _ | exact below_drewN (below_drewN (below_drewN HBW.out _) _) _)
      have q1b : (kind == 1) = false := beq_false_of_ne q1
      by_cases q2 : kind = 2
      · subst q2
        go_wp2_with fail
        go_quiet (fail)
        go_wp2_with fail
        all_goals (go_ret2; refine ⟨(by first | (simp [numP, doesP, saysP, swapP, han]; done) | (simp [numP, doesP, saysP, swapP, han]; omega)), ?_⟩; first | exact below_drewN HBW.out _ | exact below_drewN (below_drewN HBW.out _) _ | exact below_drewN (below_drewN (below_drewN HBW.out _) _) _)
      have q2b : (kind == 2) = false := beq_false_of_ne q2
      by_cases q3 : kind = 3
      · subst q3
        go_wp2_with fail
        go_quiet (fail)
        go_wp2_with fail
        all_goals (go_ret2; refine ⟨(by first | (simp [numP, doesP, saysP, swapP, han]; done) | (simp [numP, doesP, saysP, swapP, han]; omega)), ?_⟩; first | exact below_drewN HBW.out _ | exact below_drewN (below_drewN HBW.out _) _ | exact below_drewN (below_drewN (below_drewN HBW.out _) _) _)
      have q3b : (kind == 3) = false := beq_false_of_ne q3
      by_cases q4 : kind = 4
      · subst q4
        cases hold
        · go_wp2_with fail
          go_quiet (fail)
          go_wp2_with fail
          go_quiet (fail)
          go_wp2_with fail
          all_goals (go_ret2; refine ⟨(by first | (simp [numP, doesP, saysP, swapP, han]; done) | (simp [numP, doesP, saysP, swapP, han]; omega)), ?_⟩; first | exact below_drewN HBW.out _ | exact below_drewN (below_drewN HBW.out _) _ | exact below_drewN (below_drewN (below_drewN HBW.out _) _) _)
        · go_wp2_with fail
          go_quiet (fail)
          go_wp2_with fail
          all_goals (go_ret2; refine ⟨(by first | (simp [numP, doesP, saysP, swapP, han]; done) | (simp [numP, doesP, saysP, swapP, han]; omega)), ?_⟩; first | exact below_drewN HBW.out _ | exact below_drewN (below_drewN HBW.out _) _ | exact below_drewN (below_drewN (below_drewN HBW.out _) _) _)
      have q4b : (kind == 4) = false := beq_false_of_ne q4
      · go_wp2_with fail
        all_goals (go_ret2; refine ⟨(by first | (simp [numP, doesP, saysP, swapP, han, q1, q2, q3, q4]; done) | (simp [numP, doesP, saysP, swapP, han, q1, q2, q3, q4]; omega)), ?_⟩; first | exact below_drewN HBW.out _ | exact below_drewN (below_drewN HBW.out _) _ | exact below_drewN (below_drewN (below_drewN HBW.out _) _) _)
    · go_wp2_with fail
      go_quiet (fail)
      by_cases q1 : kind = 1
      · subst q1
        go_wp2_with fail
        all_goals (go_ret2; refine ⟨(by first | (simp [numP, doesP, saysP, swapP, han]; done) | (simp [numP, doesP, saysP, swapP, han]; omega)), ?_⟩; first | exact below_drewN HBW.out _ | exact below_drewN (below_drewN HBW.out _) _ | exact below_drewN (below_drewN (below_drewN HBW.out _) _) _)
      have q1b : (kind == 1) = false := beq_false_of_ne q1
      by_cases q2 : kind = 2
      · subst q2
        go_wp2_with fail
        go_quiet (fail)
        go_wp2_with fail
        all_goals (go_ret2; refine ⟨(by first | (simp [numP, doesP, saysP, swapP, han]; done) | (simp [numP, doesP, saysP, swapP, han]; omega)), ?_⟩; first | exact below_drewN HBW.out _ | exact below_drewN (below_drewN HBW.out _) _ | exact below_drewN (below_drewN (below_drewN HBW.out _) _) _)
      have q2b : (kind == 2) = false := beq_false_of_ne q2
      by_cases q3 : kind = 3
      · subst q3
        go_wp2_with fail
        go_quiet (fail)
        go_wp2_with fail
        all_goals (go_ret2; refine ⟨(by first | (simp [numP, doesP, saysP, swapP, han]; done) | (simp [numP, doesP, saysP, swapP, han]; omega)), ?_⟩; first | exact below_drewN HBW.out _ | exact below_drewN (below_drewN HBW.out _) _ | exact below_drewN (below_drewN (below_drewN HBW.out _) _) _)
      have q3b : (kind == 3) = false := beq_false_of_ne q3
      by_cases q4 : kind = 4
      · subst q4
        cases hold
        · go_wp2_with fail
          go_quiet (fail)
          go_wp2_with fail
          go_quiet (fail)
          go_wp2_with fail
          all_goals (go_ret2; refine ⟨(by first | (simp [numP, doesP, saysP, swapP, han]; done) | (simp [numP, doesP, saysP, swapP, han]; omega)), ?_⟩; first | exact below_drewN HBW.out _ | exact below_drewN (below_drewN HBW.out _) _ | exact below_drewN (below_drewN (below_drewN HBW.out _) _) _)
        · go_wp2_with fail
          go_quiet (fail)
          go_wp2_with fail
          all_goals (go_ret2; refine ⟨(by first | (simp [numP, doesP, saysP, swapP, han]; done) | (simp [numP, doesP, saysP, swapP, han]; omega)), ?_⟩; first | exact below_drewN HBW.out _ | exact below_drewN (below_drewN HBW.out _) _ | exact below_drewN (below_drewN (below_drewN HBW.out _) _) _)
      have q4b : (kind == 4) = false := beq_false_of_ne q4
      · go_wp2_with fail
        all_goals (go_ret2; refine ⟨(by first | (simp [numP, doesP, saysP, swapP, han, q1, q2, q3, q4]; done) | (simp [numP, doesP, saysP, swapP, han, q1, q2, q3, q4]; omega)), ?_⟩; first | exact below_drewN HBW.out _ | exact below_drewN (below_drewN HBW.out _) _ | exact below_drewN (below_drewN (below_drewN HBW.out _) _) _)
  · have hv : v = some x := by rw [HV.out]; unfold valOf; rw [if_neg hnum, HX.out]
    subst hv
    have hnp : 0 < num := by omega
    clear HV HX
    cases han : ans ⟨kind, key, val, old, hold, fr, to, code, rv, has⟩ <;> cases has
    · go_wp2_with fail
      go_quiet (fail)
      by_cases q1 : kind = 1
      · subst q1
        go_wp2_with fail
        all_goals (go_ret2; refine ⟨(by first | (simp [numP, doesP, saysP, swapP, han]; done) | (simp [numP, doesP, saysP, swapP, han]; omega)), ?_⟩; first | exact below_drewN HBW.out _ | exact below_drewN (below_drewN HBW.out _) _ | exact below_drewN (below_drewN (below_drewN HBW.out _) _) _)
      have q1b : (kind == 1) = false := beq_false_of_ne q1
      by_cases q2 : kind = 2
      · subst q2
        go_wp2_with fail
        go_quiet (fail)
        go_wp2_with fail
        all_goals (go_ret2; refine ⟨(by first | (simp [numP, doesP, saysP, swapP, han]; done) | (simp [numP, doesP, saysP, swapP, han]; omega)), ?_⟩; first | exact below_drewN HBW.out _ | exact below_drewN (below_drewN HBW.out _) _ | exact below_drewN (below_drewN (below_drewN HBW.out _) _) _)
      have q2b : (kind == 2) = false := beq_false_of_ne q2
      by_cases q3 : kind = 3
      · subst q3
        go_wp2_with fail
        go_quiet (fail)
        go_wp2_with fail
        all_goals (go_ret2; refine ⟨(by first | (simp [numP, doesP, saysP, swapP, han]; done) | (simp [numP, doesP, saysP, swapP, han]; omega)), ?_⟩; first | exact below_drewN HBW.out _ | exact below_drewN (below_drewN HBW.out _) _ | exact below_drewN (below_drewN (below_drewN HBW.out _) _) _)
      have q3b : (kind == 3) = false := beq_false_of_ne q3
      by_cases q4 : kind = 4
      · subst q4
        cases hold
        · go_wp2_with fail
          go_quiet (fail)
          go_wp2_with fail
          all_goals (go_ret2; refine ⟨(by first | (simp [numP, doesP, saysP, swapP, han]; done) | (simp [numP, doesP, saysP, swapP, han]; omega)), ?_⟩; first | exact below_drewN HBW.out _ | exact below_drewN (below_drewN HBW.out _) _ | exact below_drewN (below_drewN (below_drewN HBW.out _) _) _)
        · cases hxo : (x.toList == old.toList)
          · go_wp2_with fail
            go_quiet (fail)
            go_wp2_with fail
            all_goals (go_ret2; refine ⟨(by first | (simp [numP, doesP, saysP, swapP, han, hxo]; done) | (simp [numP, doesP, saysP, swapP, han, hxo]; omega)), ?_⟩; first | exact below_drewN HBW.out _ | exact below_drewN (below_drewN HBW.out _) _ | exact below_drewN (below_drewN (below_drewN HBW.out _) _) _)
          · go_wp2_with fail
            go_quiet (fail)
            go_wp2_with fail
            go_quiet (fail)
            go_wp2_with fail
            all_goals (go_ret2; refine ⟨(by first | (simp [numP, doesP, saysP, swapP, han, hxo]; done) | (simp [numP, doesP, saysP, swapP, han, hxo]; omega)), ?_⟩; first | exact below_drewN HBW.out _ | exact below_drewN (below_drewN HBW.out _) _ | exact below_drewN (below_drewN (below_drewN HBW.out _) _) _)
      have q4b : (kind == 4) = false := beq_false_of_ne q4
      · go_wp2_with fail
        all_goals (go_ret2; refine ⟨(by first | (simp [numP, doesP, saysP, swapP, han, q1, q2, q3, q4]; done) | (simp [numP, doesP, saysP, swapP, han, q1, q2, q3, q4]; omega)), ?_⟩; first | exact below_drewN HBW.out _ | exact below_drewN (below_drewN HBW.out _) _ | exact below_drewN (below_drewN (below_drewN HBW.out _) _) _)
    · go_wp2_with fail
      go_quiet (fail)
      by_cases q1 : kind = 1
      · subst q1
        go_wp2_with fail
        all_goals (go_ret2; refine ⟨(by first | (simp [numP, doesP, saysP, swapP, han]; done) | (simp [numP, doesP, saysP, swapP, han]; omega)), ?_⟩; first | exact below_drewN HBW.out _ | exact below_drewN (below_drewN HBW.out _) _ | exact below_drewN (below_drewN (below_drewN HBW.out _) _) _)
      have q1b : (kind == 1) = false := beq_false_of_ne q1
      by_cases q2 : kind = 2
      · subst q2
        go_wp2_with fail
        go_quiet (fail)
        go_wp2_with fail
        all_goals (go_ret2; refine ⟨(by first | (simp [numP, doesP, saysP, swapP, han]; done) | (simp [numP, doesP, saysP, swapP, han]; omega)), ?_⟩; first | exact below_drewN HBW.out _ | exact below_drewN (below_drewN HBW.out _) _ | exact below_drewN (below_drewN (below_drewN HBW.out _) _) _)
      have q2b : (kind == 2) = false := beq_false_of_ne q2
      by_cases q3 : kind = 3
      · subst q3
        go_wp2_with fail
        go_quiet (fail)
        go_wp2_with fail
        all_goals (go_ret2; refine ⟨(by first | (simp [numP, doesP, saysP, swapP, han]; done) | (simp [numP, doesP, saysP, swapP, han]; omega)), ?_⟩; first | exact below_drewN HBW.out _ | exact below_drewN (below_drewN HBW.out _) _ | exact below_drewN (below_drewN (below_drewN HBW.out _) _) _)
      have q3b : (kind == 3) = false := beq_false_of_ne q3
      by_cases q4 : kind = 4
      · subst q4
        cases hold
        · go_wp2_with fail
          go_quiet (fail)
          go_wp2_with fail
          all_goals (go_ret2; refine ⟨(by first | (simp [numP, doesP, saysP, swapP, han]; done) | (simp [numP, doesP, saysP, swapP, han]; omega)), ?_⟩; first | exact below_drewN HBW.out _ | exact below_drewN (below_drewN HBW.out _) _ | exact below_drewN (below_drewN (below_drewN HBW.out _) _) _)
        · cases hxo : (x.toList == old.toList)
          · go_wp2_with fail
            go_quiet (fail)
            go_wp2_with fail
            all_goals (go_ret2; refine ⟨(by first | (simp [numP, doesP, saysP, swapP, han, hxo]; done) | (simp [numP, doesP, saysP, swapP, han, hxo]; omega)), ?_⟩; first | exact below_drewN HBW.out _ | exact below_drewN (below_drewN HBW.out _) _ | exact below_drewN (below_drewN (below_drewN HBW.out _) _) _)
          · go_wp2_with fail
            go_quiet (fail)
            go_wp2_with fail
            go_quiet (fail)
            go_wp2_with fail
            all_goals (go_ret2; refine ⟨(by first | (simp [numP, doesP, saysP, swapP, han, hxo]; done) | (simp [numP, doesP, saysP, swapP, han, hxo]; omega)), ?_⟩; first | exact below_drewN HBW.out _ | exact below_drewN (below_drewN HBW.out _) _ | exact below_drewN (below_drewN (below_drewN HBW.out _) _) _)
      have q4b : (kind == 4) = false := beq_false_of_ne q4
      · go_wp2_with fail
        all_goals (go_ret2; refine ⟨(by first | (simp [numP, doesP, saysP, swapP, han, q1, q2, q3, q4]; done) | (simp [numP, doesP, saysP, swapP, han, q1, q2, q3, q4]; omega)), ?_⟩; first | exact below_drewN HBW.out _ | exact below_drewN (below_drewN HBW.out _) _ | exact below_drewN (below_drewN (below_drewN HBW.out _) _) _)
    · go_wp2_with fail
      go_quiet (fail)
      by_cases q1 : kind = 1
      · subst q1
        go_wp2_with fail
        all_goals (go_ret2; refine ⟨(by first | (simp [numP, doesP, saysP, swapP, han]; done) | (simp [numP, doesP, saysP, swapP, han]; omega)), ?_⟩; first | exact below_drewN HBW.out _ | exact below_drewN (below_drewN HBW.out _) _ | exact below_drewN (below_drewN (below_drewN HBW.out _) _) _)
      have q1b : (kind == 1) = false := beq_false_of_ne q1
      by_cases q2 : kind = 2
      · subst q2
        go_wp2_with fail
        go_quiet (fail)
        go_wp2_with fail
        all_goals (go_ret2; refine ⟨(by first | (simp [numP, doesP, saysP, swapP, han]; done) | (simp [numP, doesP, saysP, swapP, han]; omega)), ?_⟩; first | exact below_drewN HBW.out _ | exact below_drewN (below_drewN HBW.out _) _ | exact below_drewN (below_drewN (below_drewN HBW.out _) _) _)
      have q2b : (kind == 2) = false := beq_false_of_ne q2
      by_cases q3 : kind = 3
      · subst q3
        go_wp2_with fail
        go_quiet (fail)
        go_wp2_with fail
        all_goals (go_ret2; refine ⟨(by first | (simp [numP, doesP, saysP, swapP, han]; done) | (simp [numP, doesP, saysP, swapP, han]; omega)), ?_⟩; first | exact below_drewN HBW.out _ | exact below_drewN (below_drewN HBW.out _) _ | exact below_drewN (below_drewN (below_drewN HBW.out _) _) _)
      have q3b : (kind == 3) = false := beq_false_of_ne q3
      by_cases q4 : kind = 4
      · subst q4
        cases hold
        · go_wp2_with fail
          go_quiet (fail)
          go_wp2_with fail
          all_goals (go_ret2; refine ⟨(by first | (simp [numP, doesP, saysP, swapP, han]; done) | (simp [numP, doesP, saysP, swapP, han]; omega)), ?_⟩; first | exact below_drewN HBW.out _ | exact below_drewN (below_drewN HBW.out _) _ | exact below_drewN (below_drewN (below_drewN HBW.out _) _) _)
        · cases hxo : (x.toList == old.toList)
          · go_wp2_with fail
            go_quiet (fail)
            go_wp2_with fail
            all_goals (go_ret2; refine ⟨(by first | (simp [numP, doesP, saysP, swapP, han, hxo]; done) | (simp [numP, doesP, saysP, swapP, han, hxo]; omega)), ?_⟩; first | exact below_drewN HBW.out _ | exact below_drewN (below_drewN HBW.out _) _ | exact below_drewN (below_drewN (below_drewN HBW.out _) _) _)
          · go_wp2_with fail
            go_quiet (fail)
            go_wp2_with fail
            go_quiet (fail)
            go_wp2_with fail
            all_goals (go_ret2; refine ⟨(by first | (simp [numP, doesP, saysP, swapP, han, hxo]; done) | (simp [numP, doesP, saysP, swapP, han, hxo]; omega)), ?_⟩; first | exact below_drewN HBW.out _ | exact below_drewN (below_drewN HBW.out _) _ | exact below_drewN (below_drewN (below_drewN HBW.out _) _) _)
      have q4b : (kind == 4) = false := beq_false_of_ne q4
      · go_wp2_with fail
        all_goals (go_ret2; refine ⟨(by first | (simp [numP, doesP, saysP, swapP, han, q1, q2, q3, q4]; done) | (simp [numP, doesP, saysP, swapP, han, q1, q2, q3, q4]; omega)), ?_⟩; first | exact below_drewN HBW.out _ | exact below_drewN (below_drewN HBW.out _) _ | exact below_drewN (below_drewN (below_drewN HBW.out _) _) _)
    · go_wp2_with fail
      go_quiet (fail)
      by_cases q1 : kind = 1
      · subst q1
        go_wp2_with fail
        all_goals (go_ret2; refine ⟨(by first | (simp [numP, doesP, saysP, swapP, han]; done) | (simp [numP, doesP, saysP, swapP, han]; omega)), ?_⟩; first | exact below_drewN HBW.out _ | exact below_drewN (below_drewN HBW.out _) _ | exact below_drewN (below_drewN (below_drewN HBW.out _) _) _)
      have q1b : (kind == 1) = false := beq_false_of_ne q1
      by_cases q2 : kind = 2
      · subst q2
        go_wp2_with fail
        go_quiet (fail)
        go_wp2_with fail
        all_goals (go_ret2; refine ⟨(by first | (simp [numP, doesP, saysP, swapP, han]; done) | (simp [numP, doesP, saysP, swapP, han]; omega)), ?_⟩; first | exact below_drewN HBW.out _ | exact below_drewN (below_drewN HBW.out _) _ | exact below_drewN (below_drewN (below_drewN HBW.out _) _) _)
      have q2b : (kind == 2) = false := beq_false_of_ne q2
      by_cases q3 : kind = 3
      · subst q3
        go_wp2_with fail
        go_quiet (fail)
        go_wp2_with fail
        all_goals (go_ret2; refine ⟨(by first | (simp [numP, doesP, saysP, swapP, han]; done) | (simp [numP, doesP, saysP, swapP, han]; omega)), ?_⟩; first | exact below_drewN HBW.out _ | exact below_drewN (below_drewN HBW.out _) _ | exact below_drewN (below_drewN (below_drewN HBW.out _) _) _)
      have q3b : (kind == 3) = false := beq_false_of_ne q3
      by_cases q4 : kind = 4
      · subst q4
        cases hold
        · go_wp2_with fail
          go_quiet (fail)
          go_wp2_with fail
          all_goals (go_ret2; refine ⟨(by first | (simp [numP, doesP, saysP, swapP, han]; done) | (simp [numP, doesP, saysP, swapP, han]; omega)), ?_⟩; first | exact below_drewN HBW.out _ | exact below_drewN (below_drewN HBW.out _) _ | exact below_drewN (below_drewN (below_drewN HBW.out _) _) _)
        · cases hxo : (x.toList == old.toList)
          · go_wp2_with fail
            go_quiet (fail)
            go_wp2_with fail
            all_goals (go_ret2; refine ⟨(by first | (simp [numP, doesP, saysP, swapP, han, hxo]; done) | (simp [numP, doesP, saysP, swapP, han, hxo]; omega)), ?_⟩; first | exact below_drewN HBW.out _ | exact below_drewN (below_drewN HBW.out _) _ | exact below_drewN (below_drewN (below_drewN HBW.out _) _) _)
          · go_wp2_with fail
            go_quiet (fail)
            go_wp2_with fail
            go_quiet (fail)
            go_wp2_with fail
            all_goals (go_ret2; refine ⟨(by first | (simp [numP, doesP, saysP, swapP, han, hxo]; done) | (simp [numP, doesP, saysP, swapP, han, hxo]; omega)), ?_⟩; first | exact below_drewN HBW.out _ | exact below_drewN (below_drewN HBW.out _) _ | exact below_drewN (below_drewN (below_drewN HBW.out _) _) _)
      have q4b : (kind == 4) = false := beq_false_of_ne q4
      · go_wp2_with fail
        all_goals (go_ret2; refine ⟨(by first | (simp [numP, doesP, saysP, swapP, han, q1, q2, q3, q4]; done) | (simp [numP, doesP, saysP, swapP, han, q1, q2, q3, q4]; omega)), ?_⟩; first | exact below_drewN HBW.out _ | exact below_drewN (below_drewN HBW.out _) _ | exact below_drewN (below_drewN (below_drewN HBW.out _) _) _)
end Go.Proofs.Ytabjkmennijaeaa.hs
