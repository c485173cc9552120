/- What ofKey, counts and Key answer. -/
import Derived.Test.YtabjkmennijaeaaHs10
namespace Go.Proofs.Ytabjkmennijaeaa.hs
open Go.RowKit Go.Proofs.Ytabjkmennijaeaa.lib Go.Proofs.Ytabjkmennijaeaa.byt
set_option linter.unusedVariables false
set_option linter.unusedSimpArgs false

def keyK (k : Int) : Bool := decide (k = 1) || decide (k = 2) || decide (k = 3) || decide (k = 4)
theorem ofKey_any (w : World) (k : Int) : Calls Try.prog 15 #[.int .i64 k] w fun e w' => e = .returned (.bool (keyK k)) ∧ w = w' := by
  by_cases q1 : k = 1
  · subst q1
    go_enter Try.func15, Try.ntmps15
    go_wp2_with fail
    go_ret
    exact ⟨rfl, rfl⟩
  have b1 : (k == 1) = false := beq_false_of_ne q1
  by_cases q2 : k = 2
  · subst q2
    go_enter Try.func15, Try.ntmps15
    go_wp2_with fail
    go_ret
    exact ⟨rfl, rfl⟩
  have b2 : (k == 2) = false := beq_false_of_ne q2
  by_cases q3 : k = 3
  · subst q3
    go_enter Try.func15, Try.ntmps15
    go_wp2_with fail
    go_ret
    exact ⟨rfl, rfl⟩
  have b3 : (k == 3) = false := beq_false_of_ne q3
  by_cases q4 : k = 4
  · subst q4
    go_enter Try.func15, Try.ntmps15
    go_wp2_with fail
    go_ret
    exact ⟨rfl, rfl⟩
  have b4 : (k == 4) = false := beq_false_of_ne q4
  have hf : keyK k = false := by simp [keyK, q1, q2, q3, q4]
  rw [hf]
  clear hf
  go_enter Try.func15, Try.ntmps15
  go_wp2_with fail
  go_ret
  exact ⟨by simp [q1, q2, q3, q4], rfl⟩
def countsP (d : Dn) : Bool := keyK d.kind && (if ans d = true then decide (d.code = 0) || decide (d.code = 1) || decide (d.code = 2) else !decide (d.kind = 1))
set_option maxHeartbeats 1000000 in
theorem counts_any (w : World) (d : Dn) : Calls Try.prog 14 #[.agg #[.int .i64 0, .int .i64 0, .int .i64 0, .int .i64 0, .int .i64 (d).kind, .string (d).key, .string (d).val, .string (d).old, .bool (d).hold, .int .i64 (d).fr, .int .i64 (d).to, .int .i64 (d).code, .string (d).rv, .bool (d).has, .complex .f64 0 0]] w fun e w' => e = .returned (.bool (countsP d)) ∧ Below w.heap.size w w' := by
  have hbV : Below w.heap.size w (w.alloc (.cells #[.int .i64 0, .int .i64 0, .int .i64 0, .int .i64 0, .int .i64 (d).kind, .string (d).key, .string (d).val, .string (d).old, .bool (d).hold, .int .i64 (d).fr, .int .i64 (d).to, .int .i64 (d).code, .string (d).rv, .bool (d).has, .complex .f64 0 0] 36)) := (Below.refl _ _).alloc (Nat.le_refl _) _
  have hrow := heap_alloc_new w (.cells #[.int .i64 0, .int .i64 0, .int .i64 0, .int .i64 0, .int .i64 (d).kind, .string (d).key, .string (d).val, .string (d).old, .bool (d).hold, .int .i64 (d).fr, .int .i64 (d).to, .int .i64 (d).code, .string (d).rv, .bool (d).has, .complex .f64 0 0] 36)
  have z : ∀ j, (w.alloc (.cells #[.int .i64 0, .int .i64 0, .int .i64 0, .int .i64 0, .int .i64 (d).kind, .string (d).key, .string (d).val, .string (d).old, .bool (d).hold, .int .i64 (d).fr, .int .i64 (d).to, .int .i64 (d).code, .string (d).rv, .bool (d).has, .complex .f64 0 0] 36)).cell? ⟨w.heap.size, j, none⟩ = (dnL d)[j]? := fun j => by rw [cell_of_row _ _ _ _ _ (0, 0) hrow]; simp [dnL]
  have HZ := Lib.hid z
  have HBV := Lib.hid hbV
  have z4 := z 4
  simp only [dnL, List.getElem?_cons_succ, List.getElem?_cons_zero] at z4
  clear hrow z hbV
  go_enter Try.func14, Try.ntmps14
  go_wp2_with fail
  generalize w.alloc (.cells #[.int .i64 0, .int .i64 0, .int .i64 0, .int .i64 0, .int .i64 (d).kind, .string (d).key, .string (d).val, .string (d).old, .bool (d).hold, .int .i64 (d).fr, .int .i64 (d).to, .int .i64 (d).code, .string (d).rv, .bool (d).has, .complex .f64 0 0] 36) = W at HZ HBV z4 ⊢
  refine (ofKey_any W d.kind).mono ?_
  rintro e w2 ⟨rfl, rfl⟩
  have h15 := HZ.out
  have z0 := h15 0
  have z1 := h15 1
  have z2 := h15 2
  have z3 := h15 3
  have z5 := h15 5
  have z6 := h15 6
  have z7 := h15 7
  have z8 := h15 8
  have z9 := h15 9
  have z10 := h15 10
  have z11 := h15 11
  have z12 := h15 12
  have z13 := h15 13
  have z14 := h15 14
  simp only [dnL, List.getElem?_cons_succ, List.getElem?_cons_zero] at z0 z1 z2 z3 z5 z6 z7 z8 z9 z10 z11 z12 z13 z14
  clear h15 HZ
  cases hk : keyK d.kind
  · have HF := Lib.hid (show countsP d = false from by unfold countsP; rw [hk]; rfl)
    go_wp2_with fail
    go_ret
    exact ⟨by rw [HF.out]; rfl, HBV.out⟩
  · have HK := Lib.hid hk
    go_wp2_with fail
    refine (answered_any W d).mono ?_
    rintro e w3 ⟨rfl, hb3⟩
    have HB := Lib.hid (HBV.out.trans (hb3.mono HBV.out.size))
    replace z4 := keepc z4 hb3
    replace z11 := keepc z11 hb3
    clear hb3 z0 z1 z2 z3 z5 z6 z7 z8 z9 z10 z12 z13 z14 hk
    cases ha : ans d
    · have HF := Lib.hid (show countsP d = !decide (d.kind = 1) from by unfold countsP; rw [HK.out, ha]; simp)
      go_wp2_with fail
      go_ret
      exact ⟨by rw [HF.out]; by_cases h : d.kind = 1 <;> simp [h], HB.out⟩
    · have HF := Lib.hid (show countsP d = (decide (d.code = 0) || decide (d.code = 1) || decide (d.code = 2)) from by unfold countsP; rw [HK.out, ha]; simp)
      by_cases c0 : d.code = 0
      · go_wp2_with fail
        go_ret
        exact ⟨by rw [HF.out]; simp [c0], HB.out⟩
      have b0 : (d.code == 0) = false := beq_false_of_ne c0
      by_cases c1 : d.code = 1
      · go_wp2_with fail
        go_ret
        exact ⟨by rw [HF.out]; simp [c1], HB.out⟩
      have b1 : (d.code == 1) = false := beq_false_of_ne c1
      go_wp2_with fail
      go_ret
      exact ⟨by rw [HF.out]; simp [c0, c1]; rfl, HB.out⟩
def keyP (L : List Dn) (key : ByteArray) : List Dn := L.filter fun d => (d.key.toList == key.toList) && countsP d
set_option maxHeartbeats 1000000 in
theorem key_any (w : World) {A : Option Addr} {n c : Nat} {L : List Dn} (hn : n = L.length) (hr : RdD w w.heap.size A L) (key : ByteArray) (hbig : n ≤ 100) :
    Calls Try.prog 8 #[.slice A n c, .string key] w fun e w' => ∃ A' c' n', e = .returned (.slice A' n' c') ∧ n' = (keyP L key).length ∧ OwnD w' w.heap.size A' c' (keyP L key) ∧ Below w.heap.size w w' := by
  have HN := Lib.hid hn
  have HR := Lib.hid hr
  clear hn hr
  go_enter Try.func8, Try.ntmps8
  go_wp2_with fail
  go_loopw [5, 10] (fun vo vi wr => ∃ (k m : Nat) (Ao : Option Addr) (co : Nat), k ≤ n ∧ vi = .int .i64 k ∧ vo = .slice Ao m co ∧ Hid (m = (keyP (L.take k) key).length) ∧ Hid (wr.ownsRow w.heap.size 36 15 (.slice Ao m co) m (rowD (keyP (L.take k) key))) ∧ Hid (Below w.heap.size w wr)) (fun _ vi _ => n - (intOf vi).toNat)
  case atStart => exact ⟨0, 0, none, 0, Nat.zero_le _, rfl, rfl, Lib.hid rfl, Lib.hid (World.ownsRow_nil _ _ _ _), Lib.hid (Below.refl _ _)⟩
  case round =>
    obtain ⟨k, m, Ao, co, hk, rfl, rfl, HM, HO, HB⟩ := hrel
    by_cases hlt : k < n
    · have hkl : k < L.length := by rw [← HN.out]; exact hlt
      obtain ⟨ad, rfl, -, hc⟩ := RdD.at_ (w := wr) (HR.out.below HB.out) hkl
      obtain ⟨d, hd⟩ : ∃ d, d = L[k] := ⟨_, rfl⟩
      rw [← hd] at hc
      have HTK := Lib.hid (show keyP (L.take (k + 1)) key = keyP (L.take k) key ++ (if ((d.key.toList == key.toList) && countsP d) = true then [d] else []) from by
        rw [List.take_succ_eq_append_getElem hkl, ← hd]
        unfold keyP
        rw [List.filter_append]
        congr 1
        simp [List.filter_cons])
      have HML := Lib.hid (show m ≤ k from by rw [HM.out]; unfold keyP; have := List.length_filter_le (fun d : Dn => (d.key.toList == key.toList) && countsP d) (L.take k); rw [List.length_take] at this; omega)
      obtain ⟨k0, k1, k2, k3, k4, k5, k6, k7, k8, k9, k10, k11, k12, k13, k14⟩ := hc.all
      have hi0 : (0 : Int) ≤ k := by omega
      have hi1 : (k : Int) < n := by omega
      have hbA : Below wr.heap.size wr (wr.alloc (.cells #[.int .i64 0, .int .i64 0, .int .i64 0, .int .i64 0, .int .i64 (d).kind, .string (d).key, .string (d).val, .string (d).old, .bool (d).hold, .int .i64 (d).fr, .int .i64 (d).to, .int .i64 (d).code, .string (d).rv, .bool (d).has, .complex .f64 0 0] 36)) := (Below.refl _ _).alloc (Nat.le_refl _) _
      have hrow := heap_alloc_new wr (.cells #[.int .i64 0, .int .i64 0, .int .i64 0, .int .i64 0, .int .i64 (d).kind, .string (d).key, .string (d).val, .string (d).old, .bool (d).hold, .int .i64 (d).fr, .int .i64 (d).to, .int .i64 (d).code, .string (d).rv, .bool (d).has, .complex .f64 0 0] 36)
      have z : ∀ j, (wr.alloc (.cells #[.int .i64 0, .int .i64 0, .int .i64 0, .int .i64 0, .int .i64 (d).kind, .string (d).key, .string (d).val, .string (d).old, .bool (d).hold, .int .i64 (d).fr, .int .i64 (d).to, .int .i64 (d).code, .string (d).rv, .bool (d).has, .complex .f64 0 0] 36)).cell? ⟨wr.heap.size, j, none⟩ = (dnL d)[j]? := fun j => by rw [cell_of_row _ _ _ _ _ (0, 0) hrow]; simp [dnL]
      have HZ := Lib.hid z
      have HBA := Lib.hid hbA
      clear hc hd hkl hrow z hbA
      by_cases hkey : (d.key.toList == key.toList) = true
      case neg =>
        have hkey' : (d.key.toList == key.toList) = false := by simpa using hkey
        have HT := Lib.hid (show keyP (L.take (k + 1)) key = keyP (L.take k) key from by rw [HTK.out, hkey']; simp)
        clear hkey
        go_wp2_with (rw [store_cx]; go_simp)
        have HB2 := Lib.hid (HB.out.trans (HBA.out.mono HB.out.size))
        go_roundw
        case rel => exact ⟨k + 1, m, Ao, co, by omega, by go_num, rfl, by rw [HT.out]; exact HM, by rw [HT.out]; exact Lib.hid (own_below HO.out HBA.out (Nat.le_refl _)), HB2⟩
        case measure => simp [intOf] <;> omega
      case pos =>
        have HKY := Lib.hid hkey
        go_wp2_with (rw [store_cx]; go_simp)
        clear k0 k1 k2 k3 k4 k5 k6 k7 k8 k9 k10 k11 k12 k13 k14
        have hxb : w.heap.size ≤ wr.heap.size := HB.out.size
        have hws : wr.heap.size < (wr.alloc (.cells #[.int .i64 0, .int .i64 0, .int .i64 0, .int .i64 0, .int .i64 (d).kind, .string (d).key, .string (d).val, .string (d).old, .bool (d).hold, .int .i64 (d).fr, .int .i64 (d).to, .int .i64 (d).code, .string (d).rv, .bool (d).has, .complex .f64 0 0] 36)).heap.size := by rw [World.size_alloc]; exact Nat.lt_succ_self _
        generalize wr.alloc (.cells #[.int .i64 0, .int .i64 0, .int .i64 0, .int .i64 0, .int .i64 (d).kind, .string (d).key, .string (d).val, .string (d).old, .bool (d).hold, .int .i64 (d).fr, .int .i64 (d).to, .int .i64 (d).code, .string (d).rv, .bool (d).has, .complex .f64 0 0] 36) = W at HZ HBA hws ⊢
        have HXB := Lib.hid hxb
        have HWS := Lib.hid hws
        clear hxb hws
        refine (counts_any W d).mono ?_
        rintro e w2 ⟨rfl, hb2⟩
        have HBC := Lib.hid (HB.out.trans ((HBA.out.trans (hb2.mono HBA.out.size)).mono HXB.out))
        have HZS := Lib.hid (show w.heap.size ≤ w2.heap.size from Nat.le_trans HXB.out (Nat.le_trans HBA.out.size hb2.size))
        have HO2 := Lib.hid (own_below (own_below HO.out HBA.out (Nat.le_refl _)) hb2 (Nat.le_refl _))
        have HZ2 := Lib.hid (show ∀ j, j < 15 → w2.cell? ⟨wr.heap.size, j, none⟩ = (dnL d)[j]? from fun j hj => by
          have h := HZ.out j
          have hlt : j < (dnL d).length := hj
          rw [List.getElem?_eq_getElem hlt] at h ⊢
          exact keepc h hb2)
        clear hb2
        by_cases hcp : countsP d = true
        case neg =>
          have hcp' : countsP d = false := by simpa using hcp
          have HT := Lib.hid (show keyP (L.take (k + 1)) key = keyP (L.take k) key from by rw [HTK.out, hcp']; simp)
          rw [hcp']
          clear hcp hcp'
          go_wp2_with fail
          go_roundw
          case rel => exact ⟨k + 1, m, Ao, co, by omega, by go_num, rfl, by rw [HT.out]; exact HM, by rw [HT.out]; exact HO2, HBC⟩
          case measure => simp [intOf] <;> omega
        case pos =>
          have HT := Lib.hid (show keyP (L.take (k + 1)) key = keyP (L.take k) key ++ [d] from by rw [HTK.out, hcp, HKY.out]; rfl)
          rw [hcp]
          clear hcp
          have z0 := HZ2.out 0 (by decide)
          have z1 := HZ2.out 1 (by decide)
          have z2 := HZ2.out 2 (by decide)
          have z3 := HZ2.out 3 (by decide)
          have z4 := HZ2.out 4 (by decide)
          have z5 := HZ2.out 5 (by decide)
          have z6 := HZ2.out 6 (by decide)
          have z7 := HZ2.out 7 (by decide)
          have z8 := HZ2.out 8 (by decide)
          have z9 := HZ2.out 9 (by decide)
          have z10 := HZ2.out 10 (by decide)
          have z11 := HZ2.out 11 (by decide)
          have z12 := HZ2.out 12 (by decide)
          have z13 := HZ2.out 13 (by decide)
          have z14 := HZ2.out 14 (by decide)
          simp only [dnL, List.getElem?_cons_succ, List.getElem?_cons_zero] at z0 z1 z2 z3 z4 z5 z6 z7 z8 z9 z10 z11 z12 z13 z14
          obtain ⟨A9, c9, w9, hrun, ho9, -, -, hb9⟩ := append_dn w2 w.heap.size (A := Ao) (n := m) (c := co) (L := keyP (L.take k) key) HM.out HO2.out d (by have := HML.out; omega) HZS.out
          have HO9 := Lib.hid (show w9.ownsRow w.heap.size 36 15 (.slice A9 (m + 1) c9) (m + 1) (rowD (keyP (L.take (k + 1)) key)) from by rw [HT.out]; exact ho9)
          have HM9 := Lib.hid (show m + 1 = (keyP (L.take (k + 1)) key).length from by rw [HT.out, List.length_append, ← HM.out]; rfl)
          have HB9 := Lib.hid (HBC.out.trans hb9)
          clear ho9 hb9 HB HBA HM HO HML HTK HT HZ HZ2 HKY
          go_wp2_with (at_builtin; refine wpList_append_run rfl rfl rfl rfl hrun ?_; clear hrun)
          go_roundw
          case rel => exact ⟨k + 1, m + 1, A9, c9, by omega, by go_num, rfl, HM9, HO9, HB9⟩
          case measure => simp [intOf] <;> omega
    · obtain rfl : k = n := by omega
      have ht : L.take k = L := List.take_of_length_le (by rw [← HN.out]; exact Nat.le_refl _)
      rw [ht] at HM HO
      clear ht
      go_wp2_with fail
      go_ret
      refine ⟨Ao, co, m, rfl, HM.out, ?_, HB.out⟩
      have := HO.out
      have hm := HM.out
      subst hm
      exact this
end Go.Proofs.Ytabjkmennijaeaa.hs
