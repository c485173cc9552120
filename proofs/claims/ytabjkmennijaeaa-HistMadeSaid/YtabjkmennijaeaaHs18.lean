/- HistMade. -/
import Derived.Test.YtabjkmennijaeaaHs16
namespace Go.Proofs.Ytabjkmennijaeaa.hs
open Go.RowKit Go.Proofs.Ytabjkmennijaeaa.lib Go.Proofs.Ytabjkmennijaeaa.byt
set_option linter.unusedVariables false
set_option linter.unusedSimpArgs false
theorem cells_at {w : World} {g m : Nat} {cur : Array Value} {t : TypeId} {L : List Dn} (hh : w.heap[g]? = some (.cells cur t (0, 0))) (htk : cur.toList.take (m * 15) = rowD L) {j : Nat} (hj : j < L.length) :
    w.cell? ⟨g, j * 15 + 10, none⟩ = some (.int .i64 L[j].to) ∧ w.cell? ⟨g, j * 15 + 11, none⟩ = some (.int .i64 L[j].code) ∧ w.cell? ⟨g, j * 15 + 12, none⟩ = some (.string L[j].rv) ∧ w.cell? ⟨g, j * 15 + 13, none⟩ = some (.bool L[j].has) := by
  have key : ∀ r (hr : r < 15), w.cell? ⟨g, j * 15 + r, none⟩ = (dnL L[j])[r]? := fun r hr => by
    rw [cell_of_row _ _ _ _ _ (0, 0) hh, ← rowD_get L j hj r hr, ← htk]
    have hs : 15 * j + r < (rowD L).length := by rw [rowD_length]; omega
    have hlt : 15 * j + r < m * 15 := by
      rw [← htk, List.length_take] at hs
      omega
    rw [List.getElem?_take_of_lt hlt, Nat.mul_comm]
    simp
  exact ⟨key 10 (by omega), key 11 (by omega), key 12 (by omega), key 13 (by omega)⟩
theorem rowD_clr : ∀ (L : List Dn) (j : Nat) (h : j < L.length), rowD (L.set j (clrD L[j])) = ((((rowD L).set (j * 15 + 10) (.int .i64 (-1))).set (j * 15 + 11) (.int .i64 0)).set (j * 15 + 12) (.string ⟨#[]⟩)).set (j * 15 + 13) (.bool false)
  | [], j, h => by simp at h
  | d :: L, 0, h => by
    simp [rowD, dnL, clrD]
  | d :: L, j + 1, h => by
    have ih := rowD_clr L j (by simpa using h)
    have hd : ∀ (X : List Value) (k : Nat) (v : Value), (dnL d ++ X).set ((j + 1) * 15 + k) v = dnL d ++ X.set (j * 15 + k) v := fun X k v => by
      rw [List.set_append_right _ _ (by rw [dnL_length]; omega), dnL_length]
      congr 2
      omega
    have e1 : rowD (d :: L) = dnL d ++ rowD L := rfl
    have hj : j < L.length := by simpa using h
    have e2 : rowD ((d :: L).set (j + 1) (clrD ((d :: L)[j + 1]))) = dnL d ++ rowD (L.set j (clrD (L[j]'hj))) := rfl
    rw [e1, e2, hd, hd, hd, hd, ih]
theorem own_clear {w : World} {B g m c j : Nat} {L : List Dn} (ho : w.ownsRow B 36 15 (.slice (some ⟨g, 0, none⟩) m c) m (rowD L)) (hj : j < L.length) :
    ((((w.setCell ⟨g, j * 15 + 10, none⟩ (.int .i64 (-1))).setCell ⟨g, j * 15 + 11, none⟩ (.int .i64 0)).setCell ⟨g, j * 15 + 12, none⟩ (.string ⟨#[]⟩)).setCell ⟨g, j * 15 + 13, none⟩ (.bool false)).ownsRow B 36 15 (.slice (some ⟨g, 0, none⟩) m c) m (rowD (L.set j (clrD L[j]))) := by
  obtain ⟨hlen, h⟩ := ho
  have hlen2 : (rowD (L.set j (clrD L[j]))).length = m * 15 := by rw [rowD_length, List.length_set, ← rowD_length]; exact hlen
  rcases h with ⟨h, -⟩ | ⟨g', cap, cur, hv, hgB, hh, hcap, hmx, hsz, htk⟩
  · cases h
  · injection hv with e1 e2 e3
    injection e1 with e1
    injection e1 with e1 _ _
    subst e1
    subst e3
    have h1 := heap_setCell_same w g (j * 15 + 10) _ _ (.int .i64 (-1)) hh
    have h2 := heap_setCell_same _ g (j * 15 + 11) _ _ (.int .i64 0) h1
    have h3 := heap_setCell_same _ g (j * 15 + 12) _ _ (.string ⟨#[]⟩) h2
    have h4 := heap_setCell_same _ g (j * 15 + 13) _ _ (.bool false) h3
    refine ⟨hlen2, .inr ⟨g, c, _, rfl, hgB, h4, hcap, hmx, by simpa using hsz, ?_⟩⟩
    simp only [Array.toList_setIfInBounds, List.take_set, htk]
    exact (rowD_clr L j hj).symm
theorem los_set {L L' : List Dn} (h : Los L L') {j : Nat} (hj : j < L'.length) : Los L (L'.set j (clrD L'[j])) := by
  refine ⟨by rw [List.length_set]; exact h.1, fun i d d' h1 h2 => ?_⟩
  rw [List.getElem?_set] at h2
  by_cases e : j = i
  · subst e
    rw [if_pos rfl, if_pos hj] at h2
    injection h2 with h2
    subst h2
    refine .inr ?_
    rcases h.2 j d _ h1 (List.getElem?_eq_getElem hj) with e | e <;> rw [e] <;> rfl
  · rw [if_neg e] at h2
    exact h.2 i d d' h1 h2
theorem los_refl {L : List Dn} : Los L L := ⟨rfl, fun j d d' h1 h2 => .inl (by rw [h1] at h2; injection h2 with h2; exact h2.symm)⟩
set_option maxHeartbeats 2000000 in
theorem made_law (w : World) (A : Option Addr) (n c : Nat) (hO : FactO w A n) (As : Option Addr) (ns cs : Nat) (hB : FactB w As ns) (lost : Int) (ha : 0 ≤ lost ∧ lost ≤ 65535) :
    Calls Try.prog 3 #[.slice A n c, .slice As ns cs, .int .u16 lost] w fun e w' => e = .returned (.bool true) ∧ Below w.heap.size w w' := by
  obtain ⟨ops, hn, hr⟩ := hO
  obtain ⟨S, hns, hrs⟩ := hB
  have HN := Lib.hid hn
  have HR := Lib.hid hr
  have HNS := Lib.hid hns
  have HRS := Lib.hid hrs
  clear hn hr hns hrs
  go_enter Try.func3, Try.ntmps3
  go_wp2_with fail
  refine (awake26 w).mono ?_
  rintro e w1 ⟨rfl, hb⟩
  have HB1 := Lib.hid hb
  clear hb
  by_cases h9 : (10 : Int) < n
  case pos =>
    go_wp2_with fail
    refine (awake26 w1).mono ?_
    rintro e w2 ⟨rfl, hb2⟩
    have HB2 := Lib.hid (HB1.out.trans (hb2.mono HB1.out.size))
    clear hb2
    go_wp2_with fail
    go_ret
    exact ⟨rfl, HB2.out⟩
  have HLE := Lib.hid (show n ≤ 10 from by omega)
  go_wp2_with fail
  clear h9
  go_loopw [7, 8] (fun vo vi wr => ∃ (k m : Nat) (Ao : Option Addr) (co : Nat), k ≤ n ∧ vi = .int .i64 k ∧ vo = .slice Ao m co ∧ Hid (m = (mineM (ops.take k)).length) ∧ Hid (wr.ownsRow w.heap.size 27 5 (.slice Ao m co) m (rowO (mineM (ops.take k)))) ∧ Hid (Below w.heap.size w wr)) (fun _ vi _ => n - (intOf vi).toNat)
  case atStart => exact ⟨0, 0, none, 0, Nat.zero_le _, rfl, rfl, Lib.hid rfl, Lib.hid (World.ownsRow_nil _ _ _ _), HB1⟩
  case round =>
    obtain ⟨k, m, Ao, co, hk, rfl, rfl, HM, HO, HB⟩ := hrel
    by_cases hlt : k < n
    · have hkl : k < ops.length := by rw [← HN.out]; exact hlt
      obtain ⟨ad, rfl, hadb, o0, o1, o2, o3, o4⟩ := RdO.at_ (w := wr) (HR.out.below HB.out) hkl
      obtain ⟨o, ho⟩ : ∃ o, o = ops[k] := ⟨_, rfl⟩
      rw [← ho] at o0 o1 o2 o3 o4
      have HTK := Lib.hid (show mineM (ops.take (k + 1)) = mineM (ops.take k) ++ (if pickM o = true then [wk o] else []) from by
        rw [List.take_succ_eq_append_getElem hkl, ← ho, mineM_snoc])
      have HMK := Lib.hid (show m ≤ k from by rw [HM.out]; have := mineM_length (ops.take k); rw [List.length_take] at this; omega)
      have hk0 : (0 : Int) ≤ k := by omega
      have hk1 : (k : Int) < n := by omega
      clear ho hkl hadb
      by_cases h1 : 1 ≤ o.kind
      case neg =>
        have HT := Lib.hid (show mineM (ops.take (k + 1)) = mineM (ops.take k) from by rw [HTK.out]; simp [pickM, h1])
        go_wp2_with fail
        go_roundw
        case rel => exact ⟨k + 1, m, Ao, co, by omega, by go_num, rfl, by rw [HT.out]; exact HM, by rw [HT.out]; exact HO, HB⟩
        case measure => simp [intOf] <;> omega
      by_cases h4 : o.kind ≤ 4
      case neg =>
        have HT := Lib.hid (show mineM (ops.take (k + 1)) = mineM (ops.take k) from by rw [HTK.out]; simp [pickM, h4])
        go_wp2_with fail
        go_roundw
        case rel => exact ⟨k + 1, m, Ao, co, by omega, by go_num, rfl, by rw [HT.out]; exact HM, by rw [HT.out]; exact HO, HB⟩
        case measure => simp [intOf] <;> omega
      have HT := Lib.hid (show mineM (ops.take (k + 1)) = mineM (ops.take k) ++ [wk o] from by rw [HTK.out, show pickM o = true from by unfold pickM; simp [h1, h4]]; simp)
      have hbA : Below wr.heap.size wr (wr.alloc (.cells #[.int .i64 (wk o).kind, .string (wk o).key, .string (wk o).val, .string (wk o).old, .bool (wk o).hold] 27)) := (Below.refl _ _).alloc (Nat.le_refl _) _
      have HBA := Lib.hid (HB.out.trans (hbA.mono HB.out.size))
      have HOA := Lib.hid (own_below HO.out hbA (Nat.le_refl _))
      clear hbA
      obtain ⟨A9, c9, w9, hrun, ho9, hb9⟩ := append_on (wr.alloc (.cells #[.int .i64 (wk o).kind, .string (wk o).key, .string (wk o).val, .string (wk o).old, .bool (wk o).hold] 27)) w.heap.size (A := Ao) (n := m) (c := co) (L := mineM (ops.take k)) HM.out HOA.out (wk o) (by have := HMK.out; have := HLE.out; omega) HBA.out.size
      have HO9 := Lib.hid (show w9.ownsRow w.heap.size 27 5 (.slice A9 (m + 1) c9) (m + 1) (rowO (mineM (ops.take (k + 1)))) from by rw [HT.out]; exact ho9)
      have HM9 := Lib.hid (show m + 1 = (mineM (ops.take (k + 1))).length from by rw [HT.out, List.length_append, ← HM.out]; rfl)
      have HB9 := Lib.hid (HBA.out.trans hb9)
      clear ho9 hb9 HB HM HO HMK HTK HT HBA HOA
      have hsz : (wr.alloc (.cells #[.int .i64 (wk o).kind, .string (wk o).key, .string (wk o).val, .string (wk o).old, .bool (wk o).hold] 27)).heap.size = wr.heap.size + 1 := World.size_alloc _ _
      rw [hsz] at hrun
      simp only [wk] at hrun
      clear hsz
      go_wp2_with (at_builtin; refine wpList_append_run rfl rfl rfl rfl hrun ?_; clear hrun)
      go_roundw
      case rel => exact ⟨k + 1, m + 1, A9, c9, by omega, by go_num, rfl, HM9, HO9, HB9⟩
      case measure => simp [intOf] <;> omega
    · obtain rfl : k = n := by omega
      have ht : ops.take k = ops := List.take_of_length_le (by rw [← HN.out]; exact Nat.le_refl _)
      rw [ht] at HM HO
      clear ht hlt hk
      have HML := Lib.hid (show m ≤ k from by rw [HM.out, HN.out]; exact mineM_length ops)
      go_wp2_with fail
      have hrm : RdO wr wr.heap.size Ao (mineM ops) := by have := Reads.of_own HO.out; rw [HM.out] at this; exact this
      refine (made_any wr HM.out hrm HNS.out ((HRS.out.below HB.out).more HB.out.size) (by have := HML.out; have := HLE.out; omega)).mono ?_
      clear hrm
      rintro e w2 ⟨A', c', rfl, hod, hln, hb2⟩
      have HB2 := Lib.hid (HB.out.trans (hb2.mono HB.out.size))
      have HZ := Lib.hid HB.out.size
      have HD := Lib.hid hod
      have HLN := Lib.hid hln
      clear hod hln hb2 HB HO HRS HR HB1
      go_wp2_with fail
      have hr0 : RdD w2 w2.heap.size A' (madeN (mineM ops) S m) := Reads.of_own HD.out
      refine (linear_any w2 (n := m) (L := madeN (mineM ops) S m) HLN.out.symm hr0 (by have := HML.out; have := HLE.out; omega)).mono ?_
      clear hr0
      rintro e w3 ⟨b, rfl, ht, hf, hb3⟩
      have hbt : b = true := by
        cases b
        · exact absurd (made_alive (mineM ops) S (fun o ho => (mineM_mem ho).1) m) (hf rfl)
        · rfl
      subst hbt
      have HB3 := Lib.hid (HB2.out.trans (hb3.mono HB2.out.size))
      have hod := own_base HD.out HZ.out
      rw [HLN.out] at hod
      have HO3 := Lib.hid (own_below hod hb3 (Nat.le_refl _))
      clear ht hf hb3 hod HD HB2
      go_wp2_with fail
      go_loopw [11] (fun vi wr => ∃ (k : Nat) (L' : List Dn), k ≤ m ∧ vi = .int .i64 k ∧ Hid (Los (madeN (mineM ops) S m) L') ∧ Hid (wr.ownsRow w.heap.size 36 15 (.slice A' m c') m (rowD L')) ∧ Hid (Below w.heap.size w wr)) (fun vi _ => m - (intOf vi).toNat)
      case atStart => exact ⟨0, _, Nat.zero_le _, rfl, Lib.hid los_refl, HO3, HB3⟩
      case round =>
        clear HB3 HO3
        obtain ⟨j, L', hj, rfl, HLO, HO, HB⟩ := hrel
        by_cases hlt : j < m
        · have hm10 : m ≤ 10 := by have := HML.out; have := HLE.out; omega
          have hj0 : (0 : Int) ≤ j := by omega
          have hj1 : (j : Int) < m := by omega
          have hj2 : ¬ (j : Int) < 0 := by omega
          obtain ⟨hlen, h⟩ := HO.out
          rcases h with ⟨-, h⟩ | ⟨g, cap, cur, hv, hgB, hh, hcap, hmx, hsz, htk⟩
          · omega
          · injection hv with e1 e2 e3
            subst e1
            subst e3
            have hjL : j < L'.length := by rw [rowD_length] at hlen; omega
            have HF := Lib.hid (fun q => frozen_of_row _ g q _ _ hh : ∀ q, wr.frozen? ⟨g, q, none⟩ = false)
            have HC := Lib.hid (cells_at hh htk hjL)
            obtain ⟨c10, c11, c12, c13⟩ := HC.out
            have f10 := HF.out (j * 15 + 10)
            have f11 := HF.out (j * 15 + 11)
            have f12 := HF.out (j * 15 + 12)
            have f13 := HF.out (j * 15 + 13)
            have HH := Lib.hid hh
            have HT := Lib.hid htk
            clear hh htk hlen
            have HOC := Lib.hid (own_clear HO.out hjL)
            have HBC := Lib.hid ((((HB.out.setCell (p := ⟨g, j * 15 + 10, none⟩) hgB (.int .i64 (-1))).setCell (p := ⟨g, j * 15 + 11, none⟩) hgB (.int .i64 0)).setCell (p := ⟨g, j * 15 + 12, none⟩) hgB (.string ⟨#[]⟩)).setCell (p := ⟨g, j * 15 + 13, none⟩) hgB (.bool false))
            go_wp2_with fail
            · go_roundw
              case rel => exact ⟨j + 1, L'.set j (clrD (L'[j]'hjL)), by omega, by go_num, Lib.hid (los_set HLO.out hjL), HOC, HBC⟩
              case measure => simp [intOf] <;> omega
            · go_roundw
              case rel => exact ⟨j + 1, L', by omega, by go_num, HLO, HO, HB⟩
              case measure => simp [intOf] <;> omega
        · obtain rfl : j = m := by omega
          clear hlt hj
          go_wp2_with fail
          have hl2 : L'.length = j := HLO.out.1.trans HLN.out
          have hrd : RdD wr wr.heap.size A' L' := by have := Reads.of_own HO.out; rw [← hl2] at this; exact this
          refine (key_any wr (n := j) (L := L') hl2.symm hrd ⟨#[107]⟩ (by have := HML.out; have := HLE.out; omega)).mono ?_
          clear hrd
          rintro e w4 ⟨A5, c5, n5, rfl, hn5, ho5, hb5⟩
          have HB5 := Lib.hid (HB.out.trans (hb5.mono HB.out.size))
          have HN5 := Lib.hid hn5
          have HO5 := Lib.hid ho5
          have HL5 := Lib.hid (show n5 ≤ j from by rw [hn5, ← hl2]; exact List.length_filter_le _ _)
          clear hn5 ho5 hb5
          go_wp2_with fail
          refine (linear_any w4 (n := n5) (L := keyP L' ⟨#[107]⟩) HN5.out (Reads.of_own HO5.out) (by have := HL5.out; have := HML.out; have := HLE.out; omega)).mono ?_
          rintro e w6 ⟨b, rfl, ht, hf, hb6⟩
          have hbt : b = true := by
            cases b
            · exact absurd (lost_alive (mineM ops) S (fun o ho => mineM_mem ho) j HLO.out) (hf rfl)
            · rfl
          subst hbt
          have HB6 := Lib.hid (HB5.out.trans (hb6.mono HB5.out.size))
          clear ht hf hb6
          go_wp2_with fail
          go_ret
          exact ⟨rfl, HB6.out⟩
end Go.Proofs.Ytabjkmennijaeaa.hs
