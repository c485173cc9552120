/- The log law's awake. -/
import Derived.Test.YtjipjfionelpkaaWl3
namespace Go.Proofs.Ytjipjfionelpkaa.wl
open Go.RowKit Go.Proofs.Ytjipjfionelpkaa.lib Go.Proofs.Ytjipjfionelpkaa.byt Go.Proofs.Ytjipjfionelpkaa.dk Go.Proofs.Ytjipjfionelpkaa.framePlain
set_option linter.unusedVariables false

theorem rd_const (w : World) (b : UInt8) : RdB (w.alloc (.cells #[.int .u8 (b.toNat : Int)] 5 (1, 2))) (w.heap.size + 1) (some ⟨w.heap.size, 0, none⟩) [b] := by
  refine ⟨rfl, fun _ => ⟨_, rfl, by simp, fun j u hu => ?_⟩⟩
  rw [add_at, cell_of_row _ w.heap.size j _ _ (1, 2) (heap_alloc_new w _)]
  have e : bytesV [b] = [Value.int .u8 (b.toNat : Int)] := rfl
  rw [e] at hu
  simpa using hu
theorem crash_ws {s : DS} {X Y : List UInt8} {M : Nat} (h : WS s 0 (X ++ Y) M) (h0 : s.by_ 0 = X) (h1 : s.by_ 1 = []) (hf : s.f0 = 0) (hlo : s.lo = [(0, 0, Y)]) : WS (crashS s 0 0) 0 X M := by
  have hk : keepN s 0 = 0 := by unfold keepN; rw [hlo]; rfl
  have hl : lastS s 0 0 = doS 0 s (0, 0, []) := by
    unfold lastS
    rw [hk, hlo]
    rfl
  have b0 : (lastS s 0 0).by_ 0 = X := by rw [hl]; simp [doS, upd_same, h0]
  have b1 : (lastS s 0 0).by_ 1 = [] := by rw [hl]; simp [doS, upd, h1]
  have bf : (lastS s 0 0).f0 = 0 := by rw [hl]; simp [doS, hf]
  have hX : X.length ≤ M := by have := h.len.1 0 (by omega); rw [h0] at this; omega
  refine ⟨rfl, rfl, bf, .inl rfl, b0, fun k hk => ?_, Nat.zero_le _, fun p hp => by simp [crashS, freshS] at hp⟩
  have e : tot (crashS s 0 0).lo = 0 := rfl
  rw [e]
  rcases k with _ | _ | _ | _ | k
  · show ((lastS s 0 0).by_ 0).length + 0 ≤ M; rw [b0]; omega
  · show ((lastS s 0 0).by_ 1).length + 0 ≤ M; rw [b1]; simp
  · show ((lastS s 0 0).by_ 0).length + 0 ≤ M; rw [b0]; omega
  · show ((lastS s 0 0).by_ 1).length + 0 ≤ M; rw [b1]; simp
  · omega
def as1 (X : List UInt8) : DS := (actS newS (0, 0, X)).2
def as2 (X : List UInt8) : DS := (syncS (as1 X)).2
def as3 (X Y : List UInt8) : DS := (actS (as2 X) (0, 0, Y)).2
theorem aw_ws (X Y : List UInt8) (hX : X.length ≤ 100) (hY : Y.length ≤ 100) : WS (as1 X) 0 X 1000 ∧ WS (as2 X) 0 X 1000 ∧ WS (as3 X Y) 0 (X ++ Y) 1000 ∧ WS (crashS (as3 X Y) 0 0) 0 X 1000 := by
  have w1 : WS (as1 X) 0 X 201 := by have := (WS.new.append X).2; exact (this.mono (by omega))
  have w2 : WS (as2 X) 0 X 201 := w1.sync.2
  have w3 : WS (as3 X Y) 0 (X ++ Y) 402 := (w2.append Y).2.mono (by omega)
  refine ⟨w1.mono (by omega), w2.mono (by omega), w3.mono (by omega), (crash_ws (w3.mono (M' := 1000) (by omega)) rfl rfl rfl rfl)⟩
theorem addB_a : addB [] [97] = rowOf [[], [97]] := by unfold addB; rw [if_pos rfl]; simp [rowOf]
theorem addB_b (x : UInt8) (l : List UInt8) (hx : l.length = 25) : addB l [98] = frameOf [98] := by
  unfold addB
  rw [if_neg (by intro h; rw [h] at hx; simp at hx)]
theorem row_len : (rowOf [[], [97]]).length = 25 ∧ (frameOf [98]).length = 13 := by constructor <;> simp [rowOf, frameOf_length]
set_option maxRecDepth 8000 in
set_option maxHeartbeats 1000000 in
theorem awake08 (w : World) : Calls Try.prog 28 #[] w fun e w' => e = .returned (.bool true) ∧ Below w.heap.size w w' := by
  obtain ⟨X, hX⟩ : ∃ X, X = rowOf [[], [97]] := ⟨_, rfl⟩
  obtain ⟨Y, hY⟩ : ∃ Y, Y = frameOf [98] := ⟨_, rfl⟩
  have hXl : X.length = 25 := by rw [hX]; exact row_len.1
  have hYl : Y.length = 13 := by rw [hY]; exact row_len.2
  obtain ⟨w1, w2, w3, w4⟩ := aw_ws X Y (by omega) (by omega)
  have HW := Lib.hid (show WS (as1 X) 0 X 1000 ∧ WS (as2 X) 0 X 1000 ∧ WS (as3 X Y) 0 (X ++ Y) 1000 ∧ WS (crashS (as3 X Y) 0 0) 0 X 1000 from ⟨w1, w2, w3, w4⟩)
  have HA := Lib.hid (show addB [] [97] = X ∧ addB X [98] = Y from ⟨by rw [addB_a, hX], by rw [addB_b 0 X hXl, hY]⟩)
  have HL := Lib.hid (show X.length = 25 ∧ Y.length = 13 from ⟨hXl, hYl⟩)
  have HX := Lib.hid hX
  clear hX hY hXl hYl w1 w2 w3 w4
  go_enter Try.func28, Try.ntmps28
  go_wp2_with fail
  refine (new_any w).mono ?_
  rintro e w1 ⟨rfl, hD, hb1⟩
  go_wp2_with fail
  refine (open_empty w1 hD WS.new (by omega)).mono ?_
  intro e w2 hh
  obtain ⟨F2, G2, TP, TR, lb, A0, n0, c0, A1, n1, c1, rfl, hO⟩ := hh
  obtain ⟨hD2, hLg, hlbG, hlbn, hsF, hsG, rfl, rfl, -, -, -, -, hfr⟩ := hO
  have hb2 : Below w.heap.size w w2 := hb1.trans (hfr.to_below (fun b h => h) hb1.size)
  have hlo : ∀ b, b < w.heap.size → less F2 lb b := fun b h => ⟨hsF b h, by have := hb1.size; omega⟩
  have HGF := Lib.hid hD2.lt.2.2.1
  clear hD hb1 hsF hsG hfr hlbn
  go_wp2_with fail
  rw [conv_const]
  have hrx := rd_const w2 97
  have hbA : Below w2.heap.size w2 (w2.alloc (.cells #[.int .u8 97] 5 (1, 2))) := (Below.refl _ _).alloc (Nat.le_refl _) _
  have hDA := hD2.below hbA (Nat.le_refl _)
  have hLA := hLg.below hbA (Nat.le_refl _)
  have hbwA := hb2.trans (hbA.mono hb2.size)
  clear hD2 hLg hbA hb2
  go_wp2_with fail
  refine (add_any _ hDA WS.new (by omega) hLA hlbG ⟨by decide, by decide⟩ (m := 1) (rec := [97]) rfl hrx (by simp) (by decide)).mono ?_
  rw [HA.out.1, HL.out.1]
  rintro e w3 ⟨rfl, hD3, hL3, hfr⟩
  replace hD3 : DiskM w3 F2 G2 _ (as1 X) := hD3
  have hb3 := hbwA.trans (hfr.to_below hlo hbwA.size)
  clear hDA hLA hrx hbwA hfr
  go_wp2_with fail
  refine (flush_any w3 hD3 HW.out.1 (by omega) hL3).mono ?_
  rintro e w4 ⟨rfl, hD4, hfr⟩
  replace hD4 : DiskM w4 F2 G2 _ (as2 X) := hD4
  have hL4 := hL3.bel hfr (HGF.out _ hlbG)
  have hb4 := hb3.trans ((hfr.mono (F' := less F2 lb) fun b h => h.1).to_below hlo hb3.size)
  clear hD3 hL3 hb3 hfr
  go_wp2_with fail
  rw [conv_const]
  have hrx := rd_const w4 98
  have hbA : Below w4.heap.size w4 (w4.alloc (.cells #[.int .u8 98] 5 (1, 2))) := (Below.refl _ _).alloc (Nat.le_refl _) _
  have hDA := hD4.below hbA (Nat.le_refl _)
  have hLA := hL4.below hbA (Nat.le_refl _)
  have hbwA := hb4.trans (hbA.mono hb4.size)
  clear hD4 hL4 hbA hb4
  go_wp2_with fail
  refine (add_any _ hDA HW.out.2.1 (by omega) hLA hlbG ⟨by decide, by decide⟩ (m := 1) (rec := [98]) rfl hrx (by simp) (by decide)).mono ?_
  rw [HA.out.2, HL.out.2]
  rintro e w5 ⟨rfl, hD5, hL5, hfr⟩
  replace hD5 : DiskM w5 F2 G2 _ (as3 X Y) := hD5
  have hb5 := hbwA.trans (hfr.to_below hlo hbwA.size)
  clear hDA hLA hrx hbwA hfr
  go_wp2_with fail
  refine (size_any w5 hL5).mono ?_
  rintro e w6 ⟨rfl, rfl⟩
  go_wp2_with fail
  refine (crash_any w5 hD5 (HW.out.2.2.1.len.long (by omega)) 0 0).mono ?_
  rintro e w6 ⟨rfl, hD6, hfr⟩
  have hb6 := hb5.trans ((hfr.mono (F' := less F2 lb) fun b h => h.1).to_below hlo hb5.size)
  clear hD5 hb5 hfr hL5
  go_wp2_with fail
  refine (open_row w6 hD6 HW.out.2.2.2 (by have := HL.out.1; omega) HX.out (by intro r hr; simp at hr; rcases hr with rfl | rfl <;> simp)).mono ?_
  intro e w7 hh
  obtain ⟨F3, G3, TP3, TR3, lb3, A0, n0, c0, A1, n1, c1, rfl, hO⟩ := hh
  obtain ⟨ad, A', c', rfl, hc, hr⟩ := hO.recd.rd.at_ (k := 0) (by simp)
  have hn1 := hO.hn1
  have hb7 := hb6.trans ((hO.frame.mono (F' := less F2 lb) fun b h => h.1).to_below hlo hb6.size)
  obtain rfl : n1 = 1 := hn1
  have hc0 : w7.cell? ad = some (.slice A' 1 c') := by
    have e : ad.add 0 = ad := by simp [Addr.add]
    rw [e] at hc
    exact hc
  have hs1 := conv_text w7 (c := c') (n := 1) (bs := [97]) rfl hr
  clear hO hD6 hb6 hc hr hlo
  go_wp2_with (rw [hs1])
  go_ret
  exact ⟨rfl, hb7⟩
end Go.Proofs.Ytjipjfionelpkaa.wl
