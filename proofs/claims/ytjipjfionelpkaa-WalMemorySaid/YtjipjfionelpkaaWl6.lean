/- The law WalMemory. -/
import Derived.Test.YtjipjfionelpkaaWl5
namespace Go.Proofs.Ytjipjfionelpkaa.wl
open Go.RowKit Go.Proofs.Ytjipjfionelpkaa.lib Go.Proofs.Ytjipjfionelpkaa.byt Go.Proofs.Ytjipjfionelpkaa.dk Go.Proofs.Ytjipjfionelpkaa.framePlain Go.Proofs.Ytjipjfionelpkaa.frameWalk
set_option linter.unusedVariables false

def wm1 (a : List UInt8) : DS := rep newS (1 - 0) (frameOf a) 5
def wm2 (a b : List UInt8) : DS := (actS (wm1 a) (0, 1, frameOf b)).2
def wm3 (a b : List UInt8) : DS := rep (wm2 a b) (1 - 1) (rowOf [a, b]) 5
theorem wm_ws (a b : List UInt8) (ha : a.length ≤ 500) (hb : b.length ≤ 500) : WS (wm1 a) 1 (frameOf a) 100000 ∧ WS (wm2 a b) 1 (rowOf [a, b]) 100000 ∧ WS (wm3 a b) 0 (rowOf [a, b]) 200000 ∧ addB (frameOf a) b = frameOf b ∧ (rowOf [a, b]).length ≤ 1024 := by
  have la := frameOf_length a
  have lb := frameOf_length b
  have er : rowOf [a, b] = frameOf a ++ frameOf b := by simp [rowOf]
  have w1 : WS (wm1 a) 1 (frameOf a) 2000 := (rep_ok WS.new (frameOf a) (o := 1 - 0) rfl).2.2.2.2.2.2.mono (by omega)
  have w2 : WS (wm2 a b) 1 (rowOf [a, b]) 4000 := by rw [er]; exact (w1.append (frameOf b)).2.mono (by omega)
  have hl : (rowOf [a, b]).length ≤ 1024 := by rw [er, List.length_append]; omega
  have w3 : WS (wm3 a b) 0 (rowOf [a, b]) 9000 := (rep_ok w2 (rowOf [a, b]) (o := 1 - 1) rfl).2.2.2.2.2.2.mono (by omega)
  refine ⟨w1.mono (by omega), w2.mono (by omega), w3.mono (by omega), ?_, hl⟩
  unfold addB
  rw [if_neg (by intro h; rw [h] at la; simp at la; omega)]
set_option maxRecDepth 8000 in
set_option maxHeartbeats 1000000 in
theorem law_WalMemory (w : World) {Aa Ab : Option Addr} {n m ca cb : Nat} (hxa : ∃ bs : List UInt8, n = bs.length ∧ n ≤ ca ∧ RdB w w.heap.size Aa bs) (hxb : ∃ bs : List UInt8, m = bs.length ∧ m ≤ cb ∧ RdB w w.heap.size Ab bs) :
    Calls Try.prog 9 #[.slice Aa n ca, .slice Ab m cb] w fun e w' => e = .returned (.bool true) ∧ Below w.heap.size w w' := by
  obtain ⟨a, hn, -, hra⟩ := hxa
  obtain ⟨b, hm, -, hrb⟩ := hxb
  have HN := Lib.hid hn
  have HM := Lib.hid hm
  clear hn hm
  go_enter Try.func9, Try.ntmps9
  go_wp2_with fail
  refine (awake08 _).mono ?_
  rintro e w1 ⟨rfl, hb1⟩
  by_cases hl : 500 < n
  · (go_wp2_with fail; refine (awake08 _).mono ?_; rintro e wz ⟨rfl, hbz⟩; go_wp2_with fail; go_ret; exact ⟨rfl, hb1.trans (hbz.mono hb1.size)⟩)
  by_cases hl2 : 500 < m
  · (go_wp2_with fail; refine (awake08 _).mono ?_; rintro e wz ⟨rfl, hbz⟩; go_wp2_with fail; go_ret; exact ⟨rfl, hb1.trans (hbz.mono hb1.size)⟩)
  have hal : a.length ≤ 500 := by have := HN.out; omega
  have hbl : b.length ≤ 500 := by have := HM.out; omega
  have HW := Lib.hid (wm_ws a b hal hbl)
  obtain ⟨Ac, cc, w2, hrun, hoc, hb2⟩ := append_copyB (w1.alloc (.cells #[] 5)) (g := w1.heap.size) (base := w.heap.size) (heap_alloc_new w1 _) hb1.size (c := ca) HN.out (hra.below (hb1.alloc hb1.size _)) (by omega)
  have hb12 : Below w.heap.size w w2 := (hb1.alloc hb1.size _).trans hb2
  clear hb1 hb2
  go_wp2_with (at_builtin; refine wpList_append_run rfl rfl rfl rfl hrun ?_; clear hrun)
  refine (new_any w2).mono ?_
  rintro e w3 ⟨rfl, hD, hb⟩
  have hb3 := hb12.trans (hb.mono hb12.size)
  have hcr : RdF w3 (fun b => b < w2.heap.size) Ac a := ReadsF.below (ReadsF.of_own hoc fun b h1 h2 => h2) hb (Nat.le_refl _)
  have hszw := hb12.size
  have hcT : ScrT w3 (fun b => w.heap.size ≤ b ∧ b < w2.heap.size) Ac n := (ScrT.of_own hoc HN.out (T := fun b => w.heap.size ≤ b ∧ b < w2.heap.size) (fun b h1 h2 => ⟨h1, h2⟩)).keep (fun b h => h) (fun b _ hlt => hb.block b hlt)
  clear hoc hb hb12
  go_wp2_with fail
  refine (open_empty w3 hD WS.new (by omega)).mono ?_
  intro e w4 hh
  obtain ⟨F2, G2, TP, TR, lb, A0, n0, c0, A1, n1, c1, rfl, hO⟩ := hh
  obtain ⟨hD4, hLg, hlbG, hlbn, hsF, hsG, rfl, rfl, -, -, -, -, hfr⟩ := hO
  have hb4 : Below w.heap.size w w4 := hb3.trans (hfr.to_below (fun b h => Nat.lt_of_lt_of_le h hszw) hb3.size)
  have hlo : ∀ b, b < w.heap.size → less F2 lb b := fun b h => ⟨hsF b (Nat.lt_of_lt_of_le h hszw), by have := hb3.size; omega⟩
  have HGF := Lib.hid hD4.lt.2.2
  have hcr4 := hcr.bel hfr
  have hcT4 := hcT.keep (T' := fun b => w.heap.size ≤ b ∧ b < w2.heap.size) (fun b h => h) (fun b h hlt => hfr.block b hlt h.2)
  have HGS := Lib.hid (show (∀ b, b < w2.heap.size → G2 b) ∧ w2.heap.size ≤ lb from ⟨fun b h => hsG b h, by have := hb3.size; have := hD.lt; omega⟩)
  have HLO := Lib.hid hlo
  clear hD hb3 hsF hsG hfr hlbn hcr hcT hlo
  go_wp2_with fail
  refine (save_any w4 hD4 WS.new (by omega) hLg hlbG (cr := cc) HN.out hcr4.rd (Nat.le_refl _) (by omega)).mono ?_
  rintro e w5 ⟨rfl, hD5, hL5, hfr⟩
  replace hD5 : DiskM w5 F2 G2 _ (wm1 a) := hD5
  have hb5 := hb4.trans (hfr.to_below HLO.out hb4.size)
  have hcT5 := hcT4.keep (T' := fun b => w.heap.size ≤ b ∧ b < w2.heap.size) (fun b h => h) (fun b h hlt => hfr.block b hlt ⟨HGF.out.1 _ (HGS.out.1 b h.2), by have := HGS.out.2; have := h.2; omega⟩)
  clear hD4 hLg hb4 hcr4 hcT4 hfr
  go_wp2_with fail
  refine (add_any w5 hD5 HW.out.1 (by omega) hL5 hlbG ⟨by omega, by have := frameOf_length a; omega⟩ (cr := cb) HM.out (hrb.below hb5) hb5.size (by omega)).mono ?_
  rw [HW.out.2.2.2.1]
  rintro e w6 ⟨rfl, hD6, hL6, hfr⟩
  replace hD6 : DiskM w6 F2 G2 _ (wm2 a b) := hD6
  have hb6 := hb5.trans (hfr.to_below HLO.out hb5.size)
  have hcT6 := hcT5.keep (T' := fun b => w.heap.size ≤ b ∧ b < w2.heap.size) (fun b h => h) (fun b h hlt => hfr.block b hlt ⟨HGF.out.1 _ (HGS.out.1 b h.2), by have := HGS.out.2; have := h.2; omega⟩)
  have HD6 := Lib.hid hD6
  have HC6 := Lib.hid hcT6
  have HB6 := Lib.hid hb6
  have HRA := Lib.hid hra
  have HRB := Lib.hid hrb
  have HAL := Lib.hid (show a.length ≤ 500 ∧ b.length ≤ 500 from ⟨hal, hbl⟩)
  have hn0 : n ≤ 500 := by omega
  clear hD5 hL5 hL6 hD6 hcT5 hcT6 hb5 hb6 hfr hra hrb hal hbl
  go_wp2_with fail
  go_loopw [11] (fun i wr => ∃ k : Nat, k ≤ n ∧ i = .int .i64 k ∧ Hid (DiskM wr F2 G2 w2.heap.size (wm2 a b)) ∧ Hid (ScrT wr (fun b => w.heap.size ≤ b ∧ b < w2.heap.size) Ac n) ∧ Hid (Below w.heap.size w wr)) (fun i _ => n - (intOf i).toNat)
  case atStart => exact ⟨0, Nat.zero_le _, rfl, HD6, HC6, HB6⟩
  case round =>
    obtain ⟨k, hk, rfl, HDK, HCK, HBK⟩ := hrel
    by_cases hlt : k < n
    · have hk1 : (k : Int) < n := by omega
      have hk0 : (0 : Int) ≤ k := by omega
      obtain ⟨ad, rfl, hT, hcl⟩ := HCK.out (by omega)
      obtain ⟨⟨z, hz⟩, hf⟩ := hcl k hlt
      have HD7 := Lib.hid (HDK.out.low (p := ad.add k) (by rw [block_of_add]; exact HGS.out.1 _ hT.2) (.int .u8 9))
      have HC7 := Lib.hid (HCK.out.store (ad.add k) 9)
      have HB7 := Lib.hid (HBK.out.setCell (p := ad.add k) (by rw [block_of_add]; exact hT.1) (.int .u8 9))
      clear hcl hT
      go_wp2_with fail
      go_roundw
      case rel => exact ⟨k + 1, by omega, by go_num, HD7, HC7, HB7⟩
      case measure => simp [intOf] <;> omega
    · obtain rfl : k = n := by omega
      have hDk := HDK.out
      have hbk := HBK.out
      clear hlt HD6 HC6 HB6 HDK HCK HBK
      go_wp2_with fail
      refine (open_row _ hDk HW.out.2.1 (by have := HW.out.2.2.2.2; omega) rfl (by intro r hr; have := HAL.out; simp at hr; rcases hr with rfl | rfl <;> omega)).mono ?_
      intro e w7 hh
      obtain ⟨F3, G3, TP, TR, lb2, A0, n0, c0, A1, n1, c1, rfl, hO⟩ := hh
      obtain ⟨hD7, -, -, -, hsF, hsG, hn0', hn1', ⟨A9, c9, e9, -, hps⟩, hrT, htp, htr, hfr⟩ := hO
      subst hn0'
      injection e9 with e9 _ e8
      subst e9 e8
      obtain ⟨np, hnp⟩ : ∃ x, x = a.length := ⟨_, rfl⟩
      rw [← hnp] at hps ⊢
      have HNP := Lib.hid hnp
      obtain rfl : n1 = 1 := hn1'
      have hb7 := hbk.trans (hfr.to_below (fun b h => (HLO.out b h).1) hbk.size)
      have HT := Lib.hid (show (∀ b, TP b → G3 b ∧ w.heap.size ≤ b) ∧ ∀ b, TR b → ¬ TP b from ⟨fun b h => ⟨(htp b h).1, Nat.le_trans hbk.size (htp b h).2.1⟩, fun b h => (htr b h).2.2.2⟩)
      have HLF := Lib.hid (show ∀ b, b < w.heap.size → F3 b from fun b h => hsF b (HLO.out b h).1)
      replace hD7 : DiskM w7 F3 G3 _ (wm3 a b) := hD7
      have HD7 := Lib.hid hD7
      have HP7 := Lib.hid hps
      have HR7 := Lib.hid hrT
      have HB7 := Lib.hid hb7
      have hnp5 : np ≤ 500 := by have := HAL.out; omega
      clear hnp hDk hbk hD7 hsF hsG hps hrT htp htr hfr hb7
      go_wp2_with fail
      go_loopw [16] (fun i wr => ∃ j : Nat, j ≤ np ∧ i = .int .i64 j ∧ Hid (DiskM wr F3 G3 w2.heap.size (wm3 a b)) ∧ Hid (ScrT wr TP A0 np) ∧ Hid (RdT wr TR A1 [b]) ∧ Hid (Below w.heap.size w wr)) (fun i _ => np - (intOf i).toNat)
      case atStart => exact ⟨0, Nat.zero_le _, rfl, HD7, HP7, HR7, HB7⟩
      case round =>
        obtain ⟨j, hj, rfl, HDJ, HPJ, HRJ, HBJ⟩ := hrel
        by_cases hlt : j < np
        · have hk1 : (j : Int) < np := by omega
          have hk0 : (0 : Int) ≤ j := by omega
          obtain ⟨ad, rfl, hT, hcl⟩ := HPJ.out (by omega)
          obtain ⟨⟨z, hz⟩, hf⟩ := hcl j hlt
          have HD8 := Lib.hid (HDJ.out.low (p := ad.add j) (by rw [block_of_add]; exact (HT.out.1 _ hT).1) (.int .u8 7))
          have HP8 := Lib.hid (HPJ.out.store (ad.add j) 7)
          have HB8 := Lib.hid (HBJ.out.setCell (p := ad.add j) (by rw [block_of_add]; exact (HT.out.1 _ hT).2) (.int .u8 7))
          have HR8 := Lib.hid (HRJ.out.keep (w' := _) (T' := TR) (Nat.le_of_eq (World.size_setCell _ (ad.add j) (.int .u8 7)).symm) (fun b h => h) fun b h _ => heap_setCell_other _ (ad.add j) b _ (fun e => by rw [block_of_add] at e; exact HT.out.2 b h (e ▸ hT)))
          clear hcl hT
          go_wp2_with fail
          go_roundw
          case rel => exact ⟨j + 1, by omega, by go_num, HD8, HP8, HR8, HB8⟩
          case measure => simp [intOf] <;> omega
        · obtain rfl : j = np := by omega
          have hDj := HDJ.out
          have hbj := HBJ.out
          obtain ⟨ad, A', c', rfl, hc, hr⟩ := HRJ.out.rd.at_ (k := 0) (by simp)
          have hc0 := hc
          rw [show ad.add (0 * 1) = ad by simp [Addr.add]] at hc0
          clear hlt HD7 HP7 HR7 HB7 HDJ HPJ HRJ HBJ hc
          go_wp2_with fail
          refine (byt.same_any _ (xs := b) (bs := b) (n1 := b.length) rfl HM.out hr (HRB.out.below hbj) (by have := HAL.out; omega) (by have := HAL.out; omega)).mono ?_
          rintro e w9 ⟨rfl, nq, rfl⟩
          rw [decide_eq_true rfl]
          have hDq := hDj.below (below_drewN (Below.refl _ _) nq) (Nat.le_refl _)
          have hbq := below_drewN hbj nq
          clear hDj hbj hr hc0
          generalize World.drewN _ nq = W at *
          go_wp2_with fail
          have hbV : Below W.heap.size W (W.alloc (.cells #[.slice Ab m cb] 22 (0, 0))) := (Below.refl _ _).alloc (Nat.le_refl _) _
          have hDV := hDq.plus hbV (Nat.le_refl _)
          have hbz := hbq.trans (hbV.mono hbq.size)
          have hlt3 := hDq.lt.2.2
          have hrow := heap_alloc_new W (.cells #[.slice Ab m cb] 22 (0, 0))
          have hlow : ∀ b, b < w.heap.size → dk.plus W (W.alloc (.cells #[.slice Ab m cb] 22 (0, 0))) F3 b := fun b h => plus_of hbV.size hlt3.2 (HLF.out b h)
          refine (opened_any (W.alloc (.cells #[.slice Ab m cb] 22 (0, 0))) hDV HW.out.2.2.1 (by have := HW.out.2.2.2.2; omega) (fr := rowOf [a, b]) rfl (by intro r hr; have := HAL.out; simp at hr; rcases hr with rfl | rfl <;> omega) HN.out (n4 := 1) rfl (fun w' h => ?_) (short_one (by have := HAL.out; omega))).mono ?_
          · have hh := hbz.trans (h.to_below hlow hbz.size)
            refine ⟨(HRA.out.below hh).more hh.size, rdbb_row (t := 22) (mk := (0, 0)) (c := cb) ((h.block W.heap.size (by simp) ⟨by simp, .inr (Nat.le_refl _)⟩).trans hrow) HM.out ((HRB.out.below hh).more hh.size)⟩
          · rintro e w9 ⟨rfl, F4, G4, -, -, -, h⟩
            have hh := hbz.trans (h.to_below hlow hbz.size)
            clear hbV hDV hbz hlt3 hrow hlow h hDq hbq
            go_wp2_with fail
            go_ret
            exact ⟨rfl, hh⟩
end Go.Proofs.Ytjipjfionelpkaa.wl
