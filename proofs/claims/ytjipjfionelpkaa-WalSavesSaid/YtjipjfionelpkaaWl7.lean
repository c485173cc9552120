/- The law WalSaves. -/
import Derived.Test.YtjipjfionelpkaaWl5
namespace Go.Proofs.Ytjipjfionelpkaa.wl
open Go.RowKit Go.Proofs.Ytjipjfionelpkaa.lib Go.Proofs.Ytjipjfionelpkaa.byt Go.Proofs.Ytjipjfionelpkaa.dk Go.Proofs.Ytjipjfionelpkaa.framePlain Go.Proofs.Ytjipjfionelpkaa.frameWalk
set_option linter.unusedVariables false

theorem rd_const3 (w : World) (a b c : UInt8) : RdB (w.alloc (.cells #[.int .u8 (a.toNat : Int), .int .u8 (b.toNat : Int), .int .u8 (c.toNat : Int)] 5 (3, 4))) (w.heap.size + 1) (some ⟨w.heap.size, 0, none⟩) [a, b, c] := by
  refine ⟨rfl, fun _ => ⟨_, rfl, by simp, fun j u hu => ?_⟩⟩
  rw [add_at, cell_of_row _ w.heap.size j _ _ (3, 4) (heap_alloc_new w _)]
  have e : bytesV [a, b, c] = [Value.int .u8 (a.toNat : Int), Value.int .u8 (b.toNat : Int), Value.int .u8 (c.toNat : Int)] := rfl
  rw [e] at hu
  simpa using hu
/-- The state behind so many records, added to area 1. -/
def sv (s : DS) (L : List (List UInt8)) : DS := L.foldl (fun s r => (actS s (0, 1, frameOf r)).2) s
theorem sv_succ (s : DS) (L : List (List UInt8)) {k : Nat} (h : k < L.length) : sv s (L.take (k + 1)) = (actS (sv s (L.take k)) (0, 1, frameOf L[k])).2 := by
  rw [List.take_succ_eq_append_getElem h]
  unfold sv
  rw [List.foldl_append]
  rfl
theorem sv_ws (L : List (List UInt8)) : ∀ {s : DS} {fr : List UInt8} {M : Nat}, WS s 1 fr M → WS (sv s L) 1 (fr ++ rowOf L) (M + 2 * sumLen L + 25 * L.length) := by
  induction L with
  | nil => intro s fr M h; rw [show fr ++ rowOf [] = fr by simp [rowOf]]; exact h
  | cons r L ih =>
    intro s fr M h
    have h2 := ih (h.append (frameOf r)).2
    rw [rowOf_cons, ← List.append_assoc]
    exact h2.mono (by rw [frameOf_length]; simp only [sumLen, List.length_cons]; omega)
theorem sumLen_take (L : List (List UInt8)) : ∀ k, sumLen (L.take k) ≤ sumLen L := by
  induction L with
  | nil => intro k; simp [sumLen]
  | cons r L ih =>
    intro k
    rcases k with _ | k
    · simp [sumLen]
    · have := ih k
      simp only [List.take_succ_cons, sumLen]
      omega
theorem rowLen (L : List (List UInt8)) : (rowOf L).length = sumLen L + 12 * L.length := by
  induction L with
  | nil => rfl
  | cons r L ih => rw [rowOf_cons, List.length_append, frameOf_length, ih]; simp only [sumLen, List.length_cons]; omega
def so1 : DS := (actS newS (0, 0, addB [] [111, 108, 100])).2
def so2 (p : List UInt8) : DS := rep so1 (1 - 0) (frameOf p) 5
theorem so_ws (p : List UInt8) (L : List (List UInt8)) (hp : p.length ≤ 500) (hL : fewB L = true) :
    WS so1 0 (addB [] [111, 108, 100]) 1000 ∧ L.length ≤ 40 ∧ (∀ r ∈ L, r.length ≤ 3000) ∧ ∀ k, WS (sv (so2 p) (L.take k)) 1 (rowOf (p :: L.take k)) 20000 ∧ (rowOf (p :: L.take k)).length ≤ 10000 := by
  have h1 : WS so1 0 (addB [] [111, 108, 100]) 1000 := ((WS.new.append (addB [] [111, 108, 100])).2.mono (by have := addB_len [] [111, 108, 100]; simp at this; omega) : WS (actS newS (0, 0, addB [] [111, 108, 100])).2 0 ([] ++ addB [] [111, 108, 100]) 1000)
  have h2 : WS (so2 p) 1 (frameOf p) 9000 := (rep_ok h1 (frameOf p) (o := 1 - 0) rfl).2.2.2.2.2.2.mono (by rw [frameOf_length]; omega)
  obtain ⟨hl, hr, hs⟩ := of_decide_eq_true hL
  refine ⟨h1, hl, hr, fun k => ?_⟩
  have hk := sumLen_take L k
  have hk2 : (L.take k).length ≤ L.length := by simp; omega
  rw [rowOf_cons]
  refine ⟨(sv_ws (L.take k) h2).mono (by omega), ?_⟩
  rw [List.length_append, frameOf_length, rowLen]
  omega
theorem addB_cons (p : List UInt8) (L : List (List UInt8)) (r : List UInt8) : addB (rowOf (p :: L)) r = frameOf r := by
  unfold addB
  rw [if_neg]
  intro h
  have := congrArg List.length h
  rw [rowOf_cons, List.length_append, frameOf_length] at this
  simp at this
set_option maxRecDepth 8000 in
set_option maxHeartbeats 1000000 in
theorem law_WalSaves (w : World) {Ap Ar : Option Addr} {n m cp cr : Nat} (hxp : ∃ bs : List UInt8, n = bs.length ∧ n ≤ cp ∧ RdB w w.heap.size Ap bs) (hxr : ∃ L : List (List UInt8), m = L.length ∧ m ≤ cr ∧ RdBB w w.heap.size Ar L) :
    Calls Try.prog 10 #[.slice Ap n cp, .slice Ar m cr] w fun e w' => e = .returned (.bool true) ∧ Below w.heap.size w w' := by
  obtain ⟨p, hn, -, hrp⟩ := hxp
  obtain ⟨L, hm, -, hrr⟩ := hxr
  have HN := Lib.hid hn
  have HM := Lib.hid hm
  clear hn hm
  go_enter Try.func10, Try.ntmps10
  go_wp2_with fail
  refine (awake08 _).mono ?_
  rintro e w1 ⟨rfl, hb1⟩
  by_cases hl : 500 < n
  · (go_wp2_with fail; refine (awake08 _).mono ?_; rintro e wz ⟨rfl, hbz⟩; go_wp2_with fail; go_ret; exact ⟨rfl, hb1.trans (hbz.mono hb1.size)⟩)
  have hpl : p.length ≤ 500 := by have := HN.out; omega
  go_wp2_with fail
  refine (frameWalk.few_any w1 HM.out (hrr.below hb1)).mono ?_
  rintro e w2 ⟨rfl, rfl⟩
  rcases (Bool.eq_false_or_eq_true (fewB L)).symm with hf | hf
  · rw [hf]
    (go_wp2_with fail; refine (awake08 _).mono ?_; rintro e wz ⟨rfl, hbz⟩; go_wp2_with fail; go_ret; exact ⟨rfl, hb1.trans (hbz.mono hb1.size)⟩)
  have HW := Lib.hid (so_ws p L hpl hf)
  have HPL := Lib.hid hpl
  rw [hf]
  clear hf hpl
  go_wp2_with fail
  refine (new_any w1).mono ?_
  rintro e w3 ⟨rfl, hD, hb⟩
  have hb3 := hb1.trans (hb.mono hb1.size)
  have hszw := hb1.size
  clear hb hb1
  go_wp2_with fail
  refine (open_empty w3 hD WS.new (by omega)).mono ?_
  intro e w4 hh
  obtain ⟨F2, G2, TP, TR, lb, A0, n0, c0, A1, n1, c1, rfl, hO⟩ := hh
  obtain ⟨hD4, hLg, hlbG, hlbn, hsF, hsG, rfl, rfl, -, -, -, -, hfr⟩ := hO
  have hb4 : Below w.heap.size w w4 := hb3.trans (hfr.to_below (fun b h => Nat.lt_of_lt_of_le h hszw) hb3.size)
  have HLO := Lib.hid (show ∀ b, b < w.heap.size → less F2 lb b from fun b h => ⟨hsF b (Nat.lt_of_lt_of_le h hszw), by have := hb3.size; omega⟩)
  clear hD hb3 hsF hsG hfr hlbn
  go_wp2_with fail
  rw [conv_const]
  have hrx := rd_const3 w4 111 108 100
  have hbA : Below w4.heap.size w4 (w4.alloc (.cells #[.int .u8 111, .int .u8 108, .int .u8 100] 5 (3, 4))) := (Below.refl _ _).alloc (Nat.le_refl _) _
  have hDA := hD4.below hbA (Nat.le_refl _)
  have hLA := hLg.below hbA (Nat.le_refl _)
  have hbwA := hb4.trans (hbA.mono hb4.size)
  clear hD4 hLg hbA hb4
  go_wp2_with fail
  refine (add_any _ hDA WS.new (by omega) hLA hlbG ⟨by decide, by decide⟩ (m := 3) (rec := [111, 108, 100]) rfl hrx (by simp) (by decide)).mono ?_
  rintro e w5 ⟨rfl, hD5, hL5, hfr⟩
  replace hD5 : DiskM w5 F2 G2 _ so1 := hD5
  have hb5 := hbwA.trans (hfr.to_below HLO.out hbwA.size)
  clear hDA hLA hrx hbwA hfr
  go_wp2_with fail
  refine (save_any w5 hD5 HW.out.1 (by omega) hL5 hlbG (cr := cp) HN.out (hrp.below hb5) hb5.size (by have := HPL.out; omega)).mono ?_
  rintro e w6 ⟨rfl, hD6, hL6, hfr⟩
  have HD6 := Lib.hid (show DiskM w6 F2 G2 w1.heap.size (sv (so2 p) (L.take 0)) from hD6)
  have HL6 := Lib.hid (show LogAt w6 lb w1.heap.size ((rowOf (p :: L.take 0)).length : Nat) from by rw [show rowOf (p :: L.take 0) = frameOf p by simp [rowOf]]; exact hL6)
  have HB6 := Lib.hid (hb5.trans (hfr.to_below HLO.out hb5.size))
  have HRP := Lib.hid hrp
  have HRR := Lib.hid hrr
  have hm0 : m ≤ 40 := by have := HW.out.2.1; have := HM.out; omega
  clear hD5 hL5 hb5 hfr hD6 hL6 hrp hrr
  go_wp2_with fail
  go_loopw [10] (fun i wr => ∃ k : Nat, k ≤ m ∧ i = .int .i64 k ∧ Hid (DiskM wr F2 G2 w1.heap.size (sv (so2 p) (L.take k))) ∧ Hid (LogAt wr lb w1.heap.size ((rowOf (p :: L.take k)).length : Nat)) ∧ Hid (Below w.heap.size w wr)) (fun i _ => m - (intOf i).toNat)
  case atStart => exact ⟨0, Nat.zero_le _, rfl, HD6, HL6, HB6⟩
  case round =>
    obtain ⟨k, hk, rfl, HDK, HLK, HBK⟩ := hrel
    by_cases hlt : k < m
    · have hk1 : (k : Int) < m := by omega
      have hk0 : (0 : Int) ≤ k := by omega
      have hkl : k < L.length := by have := HM.out; omega
      obtain ⟨ad, A', c', rfl, hc, hr⟩ := (HRR.out.below HBK.out).at_ hkl
      obtain ⟨r, hre⟩ : ∃ r, r = L[k] := ⟨_, rfl⟩
      rw [← hre] at hc hr
      have HRE := Lib.hid hre
      have HRL := Lib.hid (show r.length ≤ 3000 from by rw [hre]; exact HW.out.2.2.1 _ (List.getElem_mem _))
      have HKL := Lib.hid hkl
      clear hre
      go_wp2_with fail
      refine (add_any _ HDK.out (HW.out.2.2.2 k).1 (by omega) HLK.out hlbG ⟨by omega, by have := (HW.out.2.2.2 k).2; omega⟩ (cr := c') rfl hr HBK.out.size (by have := HRL.out; omega)).mono ?_
      rintro e w7 ⟨rfl, hD7, hL7, hfr⟩
      rw [addB_cons] at hD7 hL7
      have HD7 := Lib.hid (show DiskM w7 F2 G2 w1.heap.size (sv (so2 p) (L.take (k + 1))) from by rw [sv_succ _ _ HKL.out, ← HRE.out]; exact hD7)
      have HL7 := Lib.hid (show LogAt w7 lb w1.heap.size ((rowOf (p :: L.take (k + 1))).length : Nat) from by
        rw [List.take_succ_eq_append_getElem HKL.out, ← HRE.out, ← List.cons_append, rowOf_snoc, List.length_append, Int.natCast_add]; exact hL7)
      have HB7 := Lib.hid (HBK.out.trans (hfr.to_below HLO.out HBK.out.size))
      clear hD7 hL7 hfr hc hr
      go_wp2_with fail
      go_roundw
      case rel => exact ⟨k + 1, by omega, by go_num, HD7, HL7, HB7⟩
      case measure => simp [intOf] <;> omega
    · obtain rfl : k = m := by omega
      have hDk := HDK.out
      have hbk := HBK.out
      have ht : L.take k = L := List.take_of_length_le (by have := HM.out; omega)
      have hw := HW.out.2.2.2 k
      rw [ht] at hDk hw
      obtain ⟨fr, hfr⟩ : ∃ x, x = rowOf (p :: L) := ⟨_, rfl⟩
      rw [← hfr] at hw
      obtain ⟨s0, hs0⟩ : ∃ x, x = sv (so2 p) L := ⟨_, rfl⟩
      rw [← hs0] at hw hDk
      have hw2 : WS (rep s0 (1 - 1) fr 5) 0 fr 50000 := (rep_ok hw.1 fr (o := 1 - 1) rfl).2.2.2.2.2.2.mono (by omega)
      have HWK := Lib.hid (show WS s0 1 fr 20000 ∧ fr.length ≤ 10000 ∧ fr = rowOf (p :: L) ∧ WS (rep s0 (1 - 1) fr 5) 0 fr 50000 from ⟨hw.1, hw.2, hfr, hw2⟩)
      have HSM := Lib.hid (show (∀ r ∈ p :: L, r.length ≤ 16777216) ∧ Short L from ⟨fun r hr => by
        rcases List.mem_cons.1 hr with rfl | hr
        · have := HPL.out; omega
        · have := HW.out.2.2.1 r hr; omega, by have := HW.out.2.1; omega, fun r hr => by have := HW.out.2.2.1 r hr; omega⟩)
      clear ht hw hfr hs0 hw2
      clear hlt HD6 HL6 HB6 HDK HLK HBK
      obtain ⟨W, hWe⟩ : ∃ x, x = wr := ⟨_, rfl⟩
      rw [← hWe] at hDk hbk ⊢
      clear hWe
      go_wp2_with fail
      have hbV : Below W.heap.size W (W.alloc (.cells #[.slice Ap n cp, .slice Ar k cr, .int .i64 0] 58 (0, 0))) := (Below.refl _ _).alloc (Nat.le_refl _) _
      have hDV := hDk.plus hbV (Nat.le_refl _)
      have hbz := hbk.trans (hbV.mono hbk.size)
      have hrow := heap_alloc_new W (.cells #[.slice Ap n cp, .slice Ar k cr, .int .i64 0] 58 (0, 0))
      have hlt3 := hDk.lt.2.2
      have hlow : ∀ b, b < w.heap.size → dk.plus W (W.alloc (.cells #[.slice Ap n cp, .slice Ar k cr, .int .i64 0] 58 (0, 0))) F2 b := fun b h => plus_of hbV.size hlt3.2 (HLO.out b h).1
      have hbox : dk.plus W (W.alloc (.cells #[.slice Ap n cp, .slice Ar k cr, .int .i64 0] 58 (0, 0))) F2 W.heap.size := ⟨by simp, .inr (Nat.le_refl _)⟩
      have HK := Lib.hid (show ∀ w', Below w.heap.size w w' → RdB w' w'.heap.size Ap p ∧ RdBB w' w'.heap.size Ar L from fun w' h => ⟨(HRP.out.below h).more h.size, (HRR.out.below h).more h.size⟩)
      refine (opened_any (W.alloc (.cells #[.slice Ap n cp, .slice Ar k cr, .int .i64 0] 58 (0, 0))) hDV HWK.out.1 (by have := HWK.out.2.1; omega) HWK.out.2.2.1 HSM.out.1 HN.out HM.out (fun w' h => HK.out w' (hbz.trans (h.to_below hlow hbz.size))) HSM.out.2).mono ?_
      rintro e w9 ⟨rfl, F4, G4, hD9, hsF, -, hfr⟩
      have hb9 := hbz.trans (hfr.to_below hlow hbz.size)
      have hrow9 := (hfr.block W.heap.size (by simp) hbox).trans hrow
      have hx0 : w9.cell? ⟨W.heap.size, 0, none⟩ = some (.slice Ap n cp) := by rw [cell_of_row _ _ _ _ _ (0, 0) hrow9]; rfl
      have hx1 : w9.cell? ⟨W.heap.size, 1, none⟩ = some (.slice Ar k cr) := by rw [cell_of_row _ _ _ _ _ (0, 0) hrow9]; rfl
      have hx2 : w9.cell? ⟨W.heap.size, 2, none⟩ = some (.int .i64 0) := by rw [cell_of_row _ _ _ _ _ (0, 0) hrow9]; rfl
      have HL9 := Lib.hid (show ∀ b, b < w.heap.size → F4 b from fun b h => hsF b (hlow b h))
      clear hbV hDV hbz hrow hlt3 hlow hbox hsF hfr hrow9 hDk hbk
      go_wp2_with fail
      refine (opened_any w9 hD9 HWK.out.2.2.2 (by have := HWK.out.2.1; omega) HWK.out.2.2.1 HSM.out.1 HN.out HM.out (fun w' h => HK.out w' (hb9.trans (h.to_below HL9.out hb9.size))) HSM.out.2).mono ?_
      rintro e w10 ⟨rfl, F5, G5, -, -, -, hfr⟩
      have hbe := hb9.trans (hfr.to_below HL9.out hb9.size)
      clear hD9 hfr hb9 hx0 hx1 hx2
      go_wp2_with fail
      go_ret
      exact ⟨rfl, hbe⟩
end Go.Proofs.Ytjipjfionelpkaa.wl
