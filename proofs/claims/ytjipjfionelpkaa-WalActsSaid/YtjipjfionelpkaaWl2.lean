/- What inFront, Add, Flush, Save, Size of a log do. -/
import Derived.Test.YtjipjfionelpkaaWl1
namespace Go.Proofs.Ytjipjfionelpkaa.wl
open Go.RowKit Go.Proofs.Ytjipjfionelpkaa.lib Go.Proofs.Ytjipjfionelpkaa.byt Go.Proofs.Ytjipjfionelpkaa.dk Go.Proofs.Ytjipjfionelpkaa.framePlain
set_option linter.unusedVariables false

/-- F, less block q. -/
def less (F : Nat → Prop) (q : Nat) (b : Nat) : Prop := F b ∧ b ≠ q
/-- A log in block lb. -/
def LogAt (w : World) (lb d : Nat) (sz : Int) : Prop := w.heap[lb]? = some (.cells #[.pointer (some ⟨d, 0, none⟩), .int .i64 sz] 90 (0, 0))
section
variable {w w' : World} {F G : Nat → Prop} {d lb m cb cr M B2 : Nat} {s : DS} {f sz : Int} {fr rec b : List UInt8} {Ar : Option Addr}
theorem LogAt.cells (h : LogAt w lb d sz) : w.cell? ⟨lb, 0, none⟩ = some (.pointer (some ⟨d, 0, none⟩)) ∧ w.cell? ⟨lb, 1, none⟩ = some (.int .i64 sz) ∧ ∀ j, w.frozen? ⟨lb, j, none⟩ = false :=
  ⟨by rw [cell_of_row _ _ _ _ _ (0, 0) h]; rfl, by rw [cell_of_row _ _ _ _ _ (0, 0) h]; rfl, fun j => frozen_of_row _ _ j _ _ h⟩
theorem LogAt.lt (h : LogAt w lb d sz) : lb < w.heap.size := (Array.getElem?_eq_some_iff.1 h).1
theorem LogAt.bel (h : LogAt w lb d sz) (hb : BelF F w w') (hF : F lb) : LogAt w' lb d sz := (hb.block lb h.lt hF).trans h
theorem LogAt.below (h : LogAt w lb d sz) {k : Nat} (hb : Below k w w') (hk : w.heap.size ≤ k) : LogAt w' lb d sz := (hb.block lb (by have := h.lt; omega)).trans h
theorem LogAt.set (h : LogAt w lb d sz) (z : Int) : LogAt (w.setCell ⟨lb, 1, none⟩ (.int .i64 z)) lb d z := by
  unfold LogAt
  rw [heap_setCell_same w lb 1 _ _ _ h]
  rfl
theorem less_set (h : BelF F w w') (u : Value) (o : Nat) : BelF (less F lb) w (w'.setCell ⟨lb, o, none⟩ u) := (h.mono fun b hb => hb.1).setCell (fun h => h.2 rfl) _

theorem inFront_any (w : World) (hD : DiskM w F G d s) (hW : WS s f fr M) (hM : M ≤ 100000000) (hm : m = fr.length) :
    Calls Try.prog 52 #[.pointer (some ⟨d, 0, none⟩)] w fun e w' => ∃ A c, e = .returned (.tuple #[.int .i64 f, .slice A m c, .int .i64 0]) ∧ OwnB w' w.heap.size A c fr ∧ Below w.heap.size w w' := by
  have HF := Lib.hid (first_any w hD f 0 hW.firstOf)
  have HR := Lib.hid (read_any w hD (hW.len.short (by omega) 0 (by omega)) f fr 0 hW.read m hm)
  clear hD hW hM hm
  go_enter Try.func52, Try.ntmps52
  go_wp2_with fail
  refine HF.out.mono ?_
  rintro e w2 ⟨rfl, rfl⟩
  go_wp2_with fail
  refine HR.out.mono ?_
  rintro e w3 ⟨A, c, rfl, ho, hb⟩
  have HO := Lib.hid ho
  have HB := Lib.hid hb
  clear ho hb HR HF
  go_wp2_with fail
  go_ret3
  exact ⟨A, c, rfl, HO.out, HB.out⟩
def addB (fr rec : List UInt8) : List UInt8 := if fr = [] then frameOf [] ++ frameOf rec else frameOf rec
theorem addB_len (fr rec : List UInt8) : (addB fr rec).length ≤ 24 + rec.length := by
  unfold addB
  split
  · simp [frameOf_length]; omega
  · simp [frameOf_length]
set_option maxRecDepth 4000 in
set_option maxHeartbeats 1000000 in
theorem add_any (w : World) (hD : DiskM w F G d s) (hW : WS s f fr M) (hM : M ≤ 10000000) (hL : LogAt w lb d sz) (hG : G lb) (hsz : 0 ≤ sz ∧ sz ≤ 1000000000) (hm : m = rec.length) (hr : RdB w B2 Ar rec) (hB2 : B2 ≤ w.heap.size) (hrl : rec.length ≤ 1000000) :
    Calls Try.prog 37 #[.pointer (some ⟨lb, 0, none⟩), .slice Ar m cr] w fun e w' => e = .returned (.int .i64 0) ∧ DiskM w' F G d (actS s (0, f, addB fr rec)).2 ∧ LogAt w' lb d (sz + (addB fr rec).length) ∧ BelF (less F lb) w w' := by
  obtain ⟨-, hnF, hGF, hFlt⟩ := hD.lt
  obtain ⟨l0, l1, lf⟩ := hL.cells
  obtain ⟨nf, hnf⟩ : ∃ x, x = fr.length := ⟨_, rfl⟩
  obtain ⟨x, hx⟩ : ∃ x, x = addB fr rec := ⟨_, rfl⟩
  obtain ⟨nx, hnx⟩ : ∃ y, y = x.length := ⟨_, rfl⟩
  have hxl := addB_len fr rec
  rw [← hx] at hxl ⊢
  obtain ⟨ac, -⟩ := hW.append x
  have HIF := Lib.hid (inFront_any w hD hW (by omega) hnf)
  have HM := Lib.hid hm
  have HX := Lib.hid hx
  have HNX := Lib.hid hnx
  have HNF := Lib.hid hnf
  have HAC := Lib.hid ac
  have HXL := Lib.hid hxl
  have HL := Lib.hid hL
  have HGF := Lib.hid hGF
  have HSH := Lib.hid (hW.len.short (by omega) x.length (by omega))
  have HOK := Lib.hid hW.ok
  have hnx9 : nx ≤ 1000100 := by rw [hnx]; omega
  obtain ⟨sz0, sz9⟩ := hsz
  rw [← hnx]
  clear hm hx hnx hnf ac hxl hL hnF hGF hFlt hW hM
  go_enter Try.func37, Try.ntmps37
  go_wp2_with fail
  refine HIF.out.mono ?_
  rintro e w2 ⟨A, c, rfl, ho, hb⟩
  have hD2 := hD.below hb (Nat.le_refl _)
  have hr2 := (hr.below (hb.mono hB2)).more (show B2 ≤ w2.heap.size by have := hb.size; omega)
  replace l0 := keepc l0 hb
  replace l1 := keepc l1 hb
  have HB := Lib.hid hb
  clear ho hD hb
  by_cases hf0 : nf = 0
  · have hfr : fr = [] := List.eq_nil_of_length_eq_zero (by rw [← HNF.out]; exact hf0)
    have hxe : x = frameOf [] ++ frameOf rec := by rw [HX.out]; unfold addB; rw [if_pos hfr]
    have HXE := Lib.hid hxe
    clear hfr hxe
    subst hf0
    go_wp2_with fail
    refine (frameWalk.put_any w2 w2.heap.size (n := 0) (c := 0) (bs := []) rfl (ownB_nil _ _) (Nat.le_refl _) (m := 0) (c2 := 0) (r := []) rfl (OwnB.rd (ownB_nil w2 w2.heap.size)) (Nat.le_refl _) (by simp) (by simp)).mono ?_
    rintro e w3 ⟨A1, c1, n1, rfl, hn1, ho1, hu1⟩
    rw [List.nil_append] at hn1 ho1
    have hb3 := hu1.below_none
    have HN1 := Lib.hid hn1
    have hr3 := (hr2.below hb3).more hb3.size
    clear hn1 hu1
    go_wp2_with fail
    refine (frameWalk.put_any w3 w2.heap.size (n := n1) (c := c1) HN1.out ho1 hb3.size (m := m) HM.out hr3 (Nat.le_refl _) (by rw [frameOf_length]; simp) (by omega)).mono ?_
    rintro e w4 ⟨A4, c4, n4, rfl, hn4, ho4, hu4⟩
    rw [← HXE.out] at hn4 ho4
    have hb4 : Below w2.heap.size w2 w4 := hb3.trans (hu4.below_own ho1 hb3.size)
    obtain rfl : nx = n4 := by rw [hn4, ← HNX.out]
    clear hn4 hu4 ho1 hr3 hb3
    have hD4 := hD2.below hb4 (Nat.le_refl _)
    replace l0 := keepc l0 hb4
    replace l1 := keepc l1 hb4
    have lg := (hb4.frozen (show (Addr.mk lb 1 none).block < w2.heap.size from Nat.lt_of_lt_of_le HL.out.lt HB.out.size)).trans ((HB.out.frozen (show (Addr.mk lb 1 none).block < w.heap.size from HL.out.lt)).trans (lf 1))
    have HAP := Lib.hid (append_any w4 hD4 HOK.out f (cb := c4) HNX.out (OwnB.rd ho4) (Nat.le_refl _) HSH.out (by have := HXL.out; omega))
    rw [HAC.out] at HAP
    have HB4 := Lib.hid (HB.out.trans (hb4.mono HB.out.size))
    clear ho4 hb4 hD2 hD4 hr2
    go_wp2_with fail
    refine HAP.out.mono ?_
    rintro e w5 ⟨rfl, hD5, hbf⟩
    have hlb : F lb := HGF.out _ hG
    have hblk : w5.heap[lb]? = w4.heap[lb]? := hbf.block lb (Nat.lt_of_lt_of_le HL.out.lt HB4.out.size) hlb
    replace l0 := (World.cell?_of_block (a := ⟨lb, 0, none⟩) hblk).trans l0
    replace l1 := (World.cell?_of_block (a := ⟨lb, 1, none⟩) hblk).trans l1
    replace lg := (World.frozen?_of_block (a := ⟨lb, 1, none⟩) hblk).trans lg
    have HE := Lib.hid (show DiskM (w5.setCell ⟨lb, 1, none⟩ (.int .i64 (sz + nx))) F G d (actS s (0, f, x)).2 ∧ LogAt (w5.setCell ⟨lb, 1, none⟩ (.int .i64 (sz + nx))) lb d (sz + nx) ∧ BelF (less F lb) w (w5.setCell ⟨lb, 1, none⟩ (.int .i64 (sz + nx))) from
      ⟨hD5.low hG _, ((HL.out.below HB4.out (Nat.le_refl _)).bel hbf hlb).set _, less_set ((BelF.of HB4.out (Nat.le_refl _)).trans hbf) _ _⟩)
    clear hD5 hbf hblk hlb HAP
    go_wp2_with fail
    go_ret
    exact ⟨rfl, HE.out⟩
  · have hfr : ¬ fr = [] := fun h => hf0 (by rw [HNF.out, h]; rfl)
    have hxe : x = frameOf rec := by rw [HX.out]; unfold addB; rw [if_neg hfr]
    have HXE := Lib.hid hxe
    have hf1 : ¬ (nf : Int) = 0 := by omega
    clear hfr hxe
    go_wp2_with fail
    refine (frameWalk.put_any w2 w2.heap.size (n := 0) (c := 0) (bs := []) rfl (ownB_nil _ _) (Nat.le_refl _) (m := m) HM.out hr2 (Nat.le_refl _) (by simp) (by omega)).mono ?_
    rintro e w4 ⟨A4, c4, n4, rfl, hn4, ho4, hu4⟩
    rw [List.nil_append, ← HXE.out] at hn4 ho4
    have hb4 : Below w2.heap.size w2 w4 := hu4.below_none
    obtain rfl : nx = n4 := by rw [hn4, ← HNX.out]
    clear hn4 hu4
    have hD4 := hD2.below hb4 (Nat.le_refl _)
    replace l0 := keepc l0 hb4
    replace l1 := keepc l1 hb4
    have lg := (hb4.frozen (show (Addr.mk lb 1 none).block < w2.heap.size from Nat.lt_of_lt_of_le HL.out.lt HB.out.size)).trans ((HB.out.frozen (show (Addr.mk lb 1 none).block < w.heap.size from HL.out.lt)).trans (lf 1))
    have HAP := Lib.hid (append_any w4 hD4 HOK.out f (cb := c4) HNX.out (OwnB.rd ho4) (Nat.le_refl _) HSH.out (by have := HXL.out; omega))
    rw [HAC.out] at HAP
    have HB4 := Lib.hid (HB.out.trans (hb4.mono HB.out.size))
    clear ho4 hb4 hD2 hD4 hr2
    go_wp2_with fail
    refine HAP.out.mono ?_
    rintro e w5 ⟨rfl, hD5, hbf⟩
    have hlb : F lb := HGF.out _ hG
    have hblk : w5.heap[lb]? = w4.heap[lb]? := hbf.block lb (Nat.lt_of_lt_of_le HL.out.lt HB4.out.size) hlb
    replace l0 := (World.cell?_of_block (a := ⟨lb, 0, none⟩) hblk).trans l0
    replace l1 := (World.cell?_of_block (a := ⟨lb, 1, none⟩) hblk).trans l1
    replace lg := (World.frozen?_of_block (a := ⟨lb, 1, none⟩) hblk).trans lg
    have HE := Lib.hid (show DiskM (w5.setCell ⟨lb, 1, none⟩ (.int .i64 (sz + nx))) F G d (actS s (0, f, x)).2 ∧ LogAt (w5.setCell ⟨lb, 1, none⟩ (.int .i64 (sz + nx))) lb d (sz + nx) ∧ BelF (less F lb) w (w5.setCell ⟨lb, 1, none⟩ (.int .i64 (sz + nx))) from
      ⟨hD5.low hG _, ((HL.out.below HB4.out (Nat.le_refl _)).bel hbf hlb).set _, less_set ((BelF.of HB4.out (Nat.le_refl _)).trans hbf) _ _⟩)
    clear hD5 hbf hblk hlb HAP
    go_wp2_with fail
    go_ret
    exact ⟨rfl, HE.out⟩
theorem flush_any (w : World) (hD : DiskM w F G d s) (hW : WS s f fr M) (hM : M ≤ 100000000) (hL : LogAt w lb d sz) :
    Calls Try.prog 51 #[.pointer (some ⟨lb, 0, none⟩)] w fun e w' => e = .returned (.int .i64 0) ∧ DiskM w' F G d (syncS s).2 ∧ BelF F w w' := by
  obtain ⟨l0, -, -⟩ := hL.cells
  have HS := Lib.hid (sync_any w hD hW.ok (hW.len.long (by omega)) 0 (syncS s).2 (by rw [← hW.sync.1]))
  clear hD hW hM hL
  go_enter Try.func51, Try.ntmps51
  go_wp2_with fail
  refine HS.out.mono ?_
  rintro e w2 ⟨rfl, hD, hb⟩
  have HE := Lib.hid (show DiskM w2 F G d (syncS s).2 ∧ BelF F w w2 from ⟨hD, hb⟩)
  clear hD hb HS
  go_wp2_with fail
  go_ret
  exact ⟨rfl, HE.out⟩
theorem size_any (w : World) (hL : LogAt w lb d sz) : Calls Try.prog 34 #[.pointer (some ⟨lb, 0, none⟩)] w fun e w' => e = .returned (.int .i64 sz) ∧ w = w' := by
  obtain ⟨-, l1, -⟩ := hL.cells
  clear hL
  go_enter Try.func34, Try.ntmps34
  go_wp2_with fail
  go_ret
  exact ⟨rfl, rfl⟩
set_option maxHeartbeats 1000000 in
theorem save_any (w : World) (hD : DiskM w F G d s) (hW : WS s f fr M) (hM : M ≤ 10000000) (hL : LogAt w lb d sz) (hG : G lb) (hm : m = rec.length) (hr : RdB w B2 Ar rec) (hB2 : B2 ≤ w.heap.size) (hrl : rec.length ≤ 1000000) :
    Calls Try.prog 36 #[.pointer (some ⟨lb, 0, none⟩), .slice Ar m cr] w fun e w' => e = .returned (.int .i64 0) ∧ DiskM w' F G d (rep s (1 - f) (frameOf rec) 5) ∧ LogAt w' lb d ((frameOf rec).length : Nat) ∧ BelF (less F lb) w w' := by
  obtain ⟨-, hnF, hGF, hFlt⟩ := hD.lt
  obtain ⟨l0, l1, lf⟩ := hL.cells
  have HF := Lib.hid (first_any w hD f 0 hW.firstOf)
  have HP := Lib.hid (frameWalk.put_any w w.heap.size (n := 0) (c := 0) (bs := []) rfl (ownB_nil _ _) (Nat.le_refl _) (c2 := cr) hm hr hB2 (by simp) (by omega))
  have HL := Lib.hid hL
  have HGF := Lib.hid hGF
  have HFL := Lib.hid hFlt
  have HD := Lib.hid hD
  have HW := Lib.hid hW
  have HMM := Lib.hid hM
  have hfl : (frameOf rec).length ≤ 1000012 := by rw [frameOf_length]; omega
  have HFR := Lib.hid hfl
  obtain ⟨nr, hnr⟩ : ∃ x, x = (frameOf rec).length := ⟨_, rfl⟩
  rw [← hnr]
  have HNR := Lib.hid hnr
  clear hnr
  clear hD hW hM hL hGF hFlt hnF hm hr hB2 hrl hfl
  go_enter Try.func36, Try.ntmps36
  go_wp2_with fail
  refine HF.out.mono ?_
  rintro e w2 ⟨rfl, rfl⟩
  go_wp2_with fail
  refine HP.out.mono ?_
  rintro e w3 ⟨A3, c3, n3, rfl, hn3, ho3, hu3⟩
  rw [List.nil_append] at hn3 ho3
  have hb3 := hu3.below_none
  have hlb : F lb := HGF.out _ hG
  have hrd : RdF w3 (plus w w3 F) A3 (frameOf rec) := ReadsF.of_own ho3 fun b h1 h2 => ⟨h2, .inr h1⟩
  have HR := Lib.hid (replace_any w3 (HD.out.plus hb3 (Nat.le_refl _)) HW.out (by have := HMM.out; have := HFR.out; omega) (cb := c3) hn3 hrd)
  replace l0 := keepc l0 hb3
  replace l1 := keepc l1 hb3
  have lg := (hb3.frozen (show (Addr.mk lb 1 none).block < w.heap.size from HL.out.lt)).trans (lf 1)
  have HB3 := Lib.hid hb3
  have HN3 := Lib.hid hn3
  have hn39 : n3 ≤ 1000012 := by rw [hn3]; exact HFR.out
  obtain rfl : nr = n3 := by rw [HNR.out, hn3]
  clear hb3 hn3 ho3 hu3 hrd HP HF
  go_wp2_with fail
  refine HR.out.mono ?_
  rintro e w5 ⟨rfl, hD5, hbf⟩
  have hsub : ∀ b, F b → plus w w3 F b := fun b h => plus_of HB3.out.size HFL.out h
  have hblk : w5.heap[lb]? = w3.heap[lb]? := hbf.block lb (Nat.lt_of_lt_of_le HL.out.lt HB3.out.size) (hsub _ hlb)
  replace l0 := (World.cell?_of_block (a := ⟨lb, 0, none⟩) hblk).trans l0
  replace l1 := (World.cell?_of_block (a := ⟨lb, 1, none⟩) hblk).trans l1
  replace lg := (World.frozen?_of_block (a := ⟨lb, 1, none⟩) hblk).trans lg
  have HE := Lib.hid (show DiskM (w5.setCell ⟨lb, 1, none⟩ (.int .i64 nr)) F G d (rep s (1 - f) (frameOf rec) 5) ∧ LogAt (w5.setCell ⟨lb, 1, none⟩ (.int .i64 nr)) lb d nr ∧ BelF (less F lb) w (w5.setCell ⟨lb, 1, none⟩ (.int .i64 nr)) from
    ⟨(shrink hD5 hsub (fun b h => plus_of HB3.out.size (fun b h => HFL.out b (HGF.out b h)) h) HGF.out).low hG _, ((HL.out.below HB3.out (Nat.le_refl _)).bel hbf (hsub _ hlb)).set _, less_set ((BelF.of HB3.out (Nat.le_refl _)).trans (hbf.mono hsub)) _ _⟩)
  clear hD5 hbf hblk hlb hsub HR
  go_wp2_with fail
  go_ret
  exact ⟨rfl, HE.out⟩
end
end Go.Proofs.Ytjipjfionelpkaa.wl
