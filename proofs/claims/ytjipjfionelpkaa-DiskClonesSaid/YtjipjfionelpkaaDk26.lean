/- What the document's Do answers. -/
import Derived.Test.YtjipjfionelpkaaDk25
namespace Go.Proofs.Ytjipjfionelpkaa.dk
open Go.RowKit Go.Proofs.Ytjipjfionelpkaa.lib Go.Proofs.Ytjipjfionelpkaa.byt
set_option linter.unusedVariables false
set_option linter.unusedSimpArgs false

def RDo (w : World) (F : Nat → Prop) (p : RS × Int) (e : Ending) (w' : World) : Prop :=
  ∃ A1 n1 c1 A2 n2 c2, e = .returned (.tuple #[dagg A1 n1 c1 A2 n2 c2 p.1, .int .i64 p.2]) ∧ n1 = p.1.safe.length ∧ n2 = p.1.loose.length ∧ RdA w' (since w F) A1 p.1.safe ∧ RdA w' (since w F) A2 p.1.loose ∧ Below w.heap.size w w'
def F3 (w : World) (F : Nat → Prop) (b : Nat) : Prop := F b ∨ w.heap.size + 3 ≤ b
theorem F3_since (w : World) (F : Nat → Prop) : ∀ b, F3 w F b → since w F b := fun b h => h.imp_right fun h => Nat.le_trans (Nat.le_add_right _ _) h
theorem F3_not {w : World} {F : Nat → Prop} (hF : ∀ b, F b → b < w.heap.size) {b : Nat} (h1 : w.heap.size ≤ b) (h2 : b < w.heap.size + 3) : ¬ F3 w F b := fun h => by
  rcases h with h | h
  · have := hF b h; omega
  · omega
theorem RdA.setC {w : World} {F : Nat → Prop} {A : Option Addr} {L : List Ac} (h : RdA w F A L) {p : Addr} (hp : ¬ F p.block) (u : Value) : RdA (w.setCell p u) F A L := h.bel ((BelF.refl F w).setCell hp u)
theorem HoldA.setC {w : World} {F : Nat → Prop} {H : List Ah} {L : List Ac} (h : HoldA w F H L) {p : Addr} (hp : ¬ F p.block) (u : Value) : HoldA (w.setCell p u) F H L := h.bel ((BelF.refl F w).setCell hp u)

set_option maxRecDepth 10000 in
set_option maxHeartbeats 8000000 in
theorem rdo_any (w : World) {F : Nat → Prop} {AS AL Av : Option Addr} {nS cS nL cL m cv : Nat} {r : RS} {a : Ac} (hnS : nS = r.safe.length) (hnL : nL = r.loose.length) (hS : RdA w F AS r.safe) (hL : RdA w F AL r.loose) (hF : ∀ b, F b → b < w.heap.size) (hl : r.safe.length + r.loose.length ≤ 1000000000) (h0 : 0 ≤ a.1 ∧ a.1 ≤ 255) (hA : r.down = false → r.armed = true → 0 < r.left ∧ r.left ≤ 9223372036854775807) (hm : m = a.2.2.1.length) (hv : RdF w F Av a.2.2.1) (hcv : m ≤ cv) :
    Calls Try.prog 19 #[dagg AS nS cS AL nL cL r, .agg #[.int .u8 a.1, .int .i64 a.2.1, .slice Av m cv, .int .i64 a.2.2.2.1, .int .i64 a.2.2.2.2]] w (RDo w F (doR r a)) := by
  obtain ⟨sf, lo, lf, am, dn⟩ := r
  obtain ⟨k, ar, b, x, y⟩ := a
  unfold dagg
  simp only at hnS hnL hS hL hl h0 hA hm hv ⊢
  obtain ⟨k0, k255⟩ := h0
  have hbV : Below w.heap.size w (((w.alloc (.cells #[.slice AS nS cS, .slice AL nL cL, .int .i64 lf, .bool am, .bool dn] 36)).alloc (.cells #[.int .u8 k, .int .i64 ar, .slice Av m cv, .int .i64 x, .int .i64 y] 39)).alloc (.cells #[.slice none 0 0, .slice none 0 0, .int .i64 0, .bool false, .bool false] 36)) := low3
  have hsV : (((w.alloc (.cells #[.slice AS nS cS, .slice AL nL cL, .int .i64 lf, .bool am, .bool dn] 36)).alloc (.cells #[.int .u8 k, .int .i64 ar, .slice Av m cv, .int .i64 x, .int .i64 y] 39)).alloc (.cells #[.slice none 0 0, .slice none 0 0, .int .i64 0, .bool false, .bool false] 36)).heap.size = w.heap.size + 3 := by simp
  obtain ⟨hd, ha, hz⟩ := heap3 w (.cells #[.slice AS nS cS, .slice AL nL cL, .int .i64 lf, .bool am, .bool dn] 36) (.cells #[.int .u8 k, .int .i64 ar, .slice Av m cv, .int .i64 x, .int .i64 y] 39) (.cells #[.slice none 0 0, .slice none 0 0, .int .i64 0, .bool false, .bool false] 36)
  have hp7 : ∀ b, F b → b < (((w.alloc (.cells #[.slice AS nS cS, .slice AL nL cL, .int .i64 lf, .bool am, .bool dn] 36)).alloc (.cells #[.int .u8 k, .int .i64 ar, .slice Av m cv, .int .i64 x, .int .i64 y] 39)).alloc (.cells #[.slice none 0 0, .slice none 0 0, .int .i64 0, .bool false, .bool false] 36)).heap.size := fun b hb => by have := hF b hb; omega
  have HSV := Lib.hid hsV
  have HBV := Lib.hid hbV
  have HS3 := Lib.hid (show RdA (((w.alloc (.cells #[.slice AS nS cS, .slice AL nL cL, .int .i64 lf, .bool am, .bool dn] 36)).alloc (.cells #[.int .u8 k, .int .i64 ar, .slice Av m cv, .int .i64 x, .int .i64 y] 39)).alloc (.cells #[.slice none 0 0, .slice none 0 0, .int .i64 0, .bool false, .bool false] 36)) (F3 w F) AS sf from ((hS).below hbV (Nat.le_refl _)).mono (fun b hb => .inl hb))
  have HL3 := Lib.hid (show RdA (((w.alloc (.cells #[.slice AS nS cS, .slice AL nL cL, .int .i64 lf, .bool am, .bool dn] 36)).alloc (.cells #[.int .u8 k, .int .i64 ar, .slice Av m cv, .int .i64 x, .int .i64 y] 39)).alloc (.cells #[.slice none 0 0, .slice none 0 0, .int .i64 0, .bool false, .bool false] 36)) (F3 w F) AL lo from ((hL).below hbV (Nat.le_refl _)).mono (fun b hb => .inl hb))
  have HS4 := Lib.hid (hS.below hbV (Nat.le_refl _))
  have HL4 := Lib.hid (hL.below hbV (Nat.le_refl _))
  have HV4 := Lib.hid (hv.below hbV (Nat.le_refl _))
  have HF4 := Lib.hid hp7
  have HF := Lib.hid hF
  have HNS := Lib.hid hnS
  have HNL := Lib.hid hnL
  have HLL := Lib.hid hl
  have HM := Lib.hid hm
  have HA := Lib.hid hA
  have d0 := cell_of_row _ w.heap.size 0 _ _ (0, 0) hd
  have d1 := cell_of_row _ w.heap.size 1 _ _ (0, 0) hd
  have d2 := cell_of_row _ w.heap.size 2 _ _ (0, 0) hd
  have d3 := cell_of_row _ w.heap.size 3 _ _ (0, 0) hd
  have d4 := cell_of_row _ w.heap.size 4 _ _ (0, 0) hd
  have df : ∀ j, (((w.alloc (.cells #[.slice AS nS cS, .slice AL nL cL, .int .i64 lf, .bool am, .bool dn] 36)).alloc (.cells #[.int .u8 k, .int .i64 ar, .slice Av m cv, .int .i64 x, .int .i64 y] 39)).alloc (.cells #[.slice none 0 0, .slice none 0 0, .int .i64 0, .bool false, .bool false] 36)).frozen? ⟨w.heap.size, j, none⟩ = false := fun j => frozen_of_row _ _ j _ _ hd
  have a0 := cell_of_row _ (w.heap.size + 1) 0 _ _ (0, 0) ha
  have a1 := cell_of_row _ (w.heap.size + 1) 1 _ _ (0, 0) ha
  have a2 := cell_of_row _ (w.heap.size + 1) 2 _ _ (0, 0) ha
  have a3 := cell_of_row _ (w.heap.size + 1) 3 _ _ (0, 0) ha
  have a4 := cell_of_row _ (w.heap.size + 1) 4 _ _ (0, 0) ha
  have af : ∀ j, (((w.alloc (.cells #[.slice AS nS cS, .slice AL nL cL, .int .i64 lf, .bool am, .bool dn] 36)).alloc (.cells #[.int .u8 k, .int .i64 ar, .slice Av m cv, .int .i64 x, .int .i64 y] 39)).alloc (.cells #[.slice none 0 0, .slice none 0 0, .int .i64 0, .bool false, .bool false] 36)).frozen? ⟨w.heap.size + 1, j, none⟩ = false := fun j => frozen_of_row _ _ j _ _ ha
  have z0 := cell_of_row _ (w.heap.size + 1 + 1) 0 _ _ (0, 0) hz
  have z1 := cell_of_row _ (w.heap.size + 1 + 1) 1 _ _ (0, 0) hz
  have z2 := cell_of_row _ (w.heap.size + 1 + 1) 2 _ _ (0, 0) hz
  have z3 := cell_of_row _ (w.heap.size + 1 + 1) 3 _ _ (0, 0) hz
  have z4 := cell_of_row _ (w.heap.size + 1 + 1) 4 _ _ (0, 0) hz
  have zf : ∀ j, (((w.alloc (.cells #[.slice AS nS cS, .slice AL nL cL, .int .i64 lf, .bool am, .bool dn] 36)).alloc (.cells #[.int .u8 k, .int .i64 ar, .slice Av m cv, .int .i64 x, .int .i64 y] 39)).alloc (.cells #[.slice none 0 0, .slice none 0 0, .int .i64 0, .bool false, .bool false] 36)).frozen? ⟨w.heap.size + 1 + 1, j, none⟩ = false := fun j => frozen_of_row _ _ j _ _ hz
  simp only [List.getElem?_toArray, List.getElem?_cons_succ, List.getElem?_cons_zero] at d0 d1 d2 d3 d4 a0 a1 a2 a3 a4 z0 z1 z2 z3 z4
  have h6 : k % 6 = 4 ∨ k % 6 = 5 ∨ k % 6 = 3 ∨ (0 ≤ k % 6 ∧ k % 6 < 3) := by omega
  have hfin : ∀ (P : Prop), P → P := fun P h => h
  clear hbV hsV hp7 hd ha hz hnS hnL hl hm hA hS hL hv hF hfin
  go_enter Try.func19, Try.ntmps19
  go_upto_region 1 with (fail)
  generalize (((w.alloc (.cells #[.slice AS nS cS, .slice AL nL cL, .int .i64 lf, .bool am, .bool dn] 36)).alloc (.cells #[.int .u8 k, .int .i64 ar, .slice Av m cv, .int .i64 x, .int .i64 y] 39)).alloc (.cells #[.slice none 0 0, .slice none 0 0, .int .i64 0, .bool false, .bool false] 36)) = V at HSV HBV HS3 HL3 HS4 HL4 HV4 HF4 d0 d1 d2 d3 d4 df a0 a1 a2 a3 a4 af z0 z1 z2 z3 z4 zf ⊢
  rcases h6 with e | e | e | ⟨e0, e3⟩
  · cases dn
    · rcases (by omega : x < 0 ∨ x = 0 ∨ 0 < x) with hx | hx | hx
      · have HDO := Lib.hid (show doR ⟨sf, lo, lf, am, false⟩ (k, ar, b, x, y) = (⟨sf, lo, x, false, false⟩, 0) from by unfold doR; simp [e]; omega)
        have hx2 : ¬ 0 ≤ x := by omega
        have hx3 : ¬ x = 0 := by omega
        go_wp2_with fail
        refine bodyPost_ret (v := .tuple #[.agg #[.slice AS nS cS, .slice AL nL cL, .int .i64 (x), .bool false, .bool false], .int .i64 0]) ?_ rfl ?_
        · rw [results_cell_tmp rfl]; go_simp; first | done | rfl
        · rw [HDO.out]
          refine ⟨AS, nS, cS, AL, nL, cL, rfl, HNS.out, HNL.out, ?_, ?_, ?_⟩
          · refine RdA.mono ?_ (F3_since w F)
            repeat (with_reducible refine RdA.setC ?_ (F3_not HF.out (by simp only; omega) (by simp only; omega)) _)
            exact HS3.out
          · refine RdA.mono ?_ (F3_since w F)
            repeat (with_reducible refine RdA.setC ?_ (F3_not HF.out (by simp only; omega) (by simp only; omega)) _)
            exact HL3.out
          · repeat (with_reducible refine Below.setCell ?_ (by simp only; omega) _)
            exact HBV.out
      · subst hx
        have HDO := Lib.hid (show doR ⟨sf, lo, lf, am, false⟩ (k, ar, b, 0, y) = (⟨sf, lo, 0, true, true⟩, 0) from by unfold doR; simp [e])
        go_wp2_with fail
        refine bodyPost_ret (v := .tuple #[.agg #[.slice AS nS cS, .slice AL nL cL, .int .i64 (0), .bool true, .bool true], .int .i64 0]) ?_ rfl ?_
        · rw [results_cell_tmp rfl]; go_simp; first | done | rfl
        · rw [HDO.out]
          refine ⟨AS, nS, cS, AL, nL, cL, rfl, HNS.out, HNL.out, ?_, ?_, ?_⟩
          · refine RdA.mono ?_ (F3_since w F)
            repeat (with_reducible refine RdA.setC ?_ (F3_not HF.out (by simp only; omega) (by simp only; omega)) _)
            exact HS3.out
          · refine RdA.mono ?_ (F3_since w F)
            repeat (with_reducible refine RdA.setC ?_ (F3_not HF.out (by simp only; omega) (by simp only; omega)) _)
            exact HL3.out
          · repeat (with_reducible refine Below.setCell ?_ (by simp only; omega) _)
            exact HBV.out
      · have HDO := Lib.hid (show doR ⟨sf, lo, lf, am, false⟩ (k, ar, b, x, y) = (⟨sf, lo, x, true, false⟩, 0) from by unfold doR; simp [e]; omega)
        have hx2 : 0 ≤ x := by omega
        have hx3 : ¬ x = 0 := by omega
        go_wp2_with fail
        refine bodyPost_ret (v := .tuple #[.agg #[.slice AS nS cS, .slice AL nL cL, .int .i64 (x), .bool true, .bool false], .int .i64 0]) ?_ rfl ?_
        · rw [results_cell_tmp rfl]; go_simp; first | done | rfl
        · rw [HDO.out]
          refine ⟨AS, nS, cS, AL, nL, cL, rfl, HNS.out, HNL.out, ?_, ?_, ?_⟩
          · refine RdA.mono ?_ (F3_since w F)
            repeat (with_reducible refine RdA.setC ?_ (F3_not HF.out (by simp only; omega) (by simp only; omega)) _)
            exact HS3.out
          · refine RdA.mono ?_ (F3_since w F)
            repeat (with_reducible refine RdA.setC ?_ (F3_not HF.out (by simp only; omega) (by simp only; omega)) _)
            exact HL3.out
          · repeat (with_reducible refine Below.setCell ?_ (by simp only; omega) _)
            exact HBV.out
    · have HDO := Lib.hid (show doR ⟨sf, lo, lf, am, true⟩ (k, ar, b, x, y) = (⟨sf, lo, lf, am, true⟩, 0) from by unfold doR; simp [e])
      go_wp2_with fail
      refine bodyPost_ret (v := .tuple #[.agg #[.slice AS nS cS, .slice AL nL cL, .int .i64 (lf), .bool am, .bool true], .int .i64 0]) ?_ rfl ?_
      · rw [results_cell_tmp rfl]; go_simp; first | done | rfl
      · rw [HDO.out]
        refine ⟨AS, nS, cS, AL, nL, cL, rfl, HNS.out, HNL.out, ?_, ?_, ?_⟩
        · refine RdA.mono ?_ (F3_since w F)
          repeat (with_reducible refine RdA.setC ?_ (F3_not HF.out (by simp only; omega) (by simp only; omega)) _)
          exact HS3.out
        · refine RdA.mono ?_ (F3_since w F)
          repeat (with_reducible refine RdA.setC ?_ (F3_not HF.out (by simp only; omega) (by simp only; omega)) _)
          exact HL3.out
        · repeat (with_reducible refine Below.setCell ?_ (by simp only; omega) _)
          exact HBV.out
  · have HDO := Lib.hid (show doR ⟨sf, lo, lf, am, dn⟩ (k, ar, b, x, y) = (crashR ⟨sf, lo, lf, am, dn⟩ x y, 0) from by unfold doR; simp [e])
    have hc := rcrash_any V (F := F) (r := ⟨sf, lo, lf, am, dn⟩) HNS.out HNL.out HS4.out HL4.out HF4.out HLL.out (cS := cS) (cL := cL) x y
    unfold dagg at hc
    simp only at hc
    have HC := Lib.hid hc
    clear hc
    go_wp2_with fail
    refine HC.out.mono ?_
    intro e9 w4 hh
    obtain ⟨A1, n1, c1, rfl, hn1, hr1, hb1⟩ := hh
    replace z0 := keepc z0 hb1
    replace z1 := keepc z1 hb1
    replace z2 := keepc z2 hb1
    replace z3 := keepc z3 hb1
    replace z4 := keepc z4 hb1
    have zg : ∀ j, w4.frozen? ⟨w.heap.size + 1 + 1, j, none⟩ = false := fun j => (hb1.frozen (show (Addr.mk (w.heap.size + 1 + 1) j none).block < V.heap.size by have := HSV.out; simp only; omega)).trans (zf j)
    have HN1 := Lib.hid hn1
    have HR1 := Lib.hid (show RdA w4 (F3 w F) A1 (crashR ⟨sf, lo, lf, am, dn⟩ x y).safe from hr1.mono fun b h => h.imp_right fun h => by have := HSV.out; omega)
    have HB1 := Lib.hid (HBV.out.trans (hb1.mono HBV.out.size))
    clear hn1 hr1 hb1 d0 d1 d2 d3 d4 df a0 a1 a2 a3 a4 af zf HC
    go_wp2_with fail
    refine bodyPost_ret (v := .tuple #[.agg #[.slice A1 n1 c1, .slice none 0 0, .int .i64 (0), .bool false, .bool false], .int .i64 0]) ?_ rfl ?_
    · rw [results_cell_tmp rfl]; go_simp; first | done | rfl
    · rw [HDO.out]
      refine ⟨A1, n1, c1, none, 0, 0, rfl, HN1.out, rfl, ?_, ?_, ?_⟩
      · refine RdA.mono ?_ (F3_since w F)
        repeat (with_reducible refine RdA.setC ?_ (F3_not HF.out (by simp only; omega) (by simp only; omega)) _)
        exact HR1.out
      · refine RdA.mono ?_ (F3_since w F)
        repeat (with_reducible refine RdA.setC ?_ (F3_not HF.out (by simp only; omega) (by simp only; omega)) _)
        exact RdA.nil
      · repeat (with_reducible refine Below.setCell ?_ (by simp only; omega) _)
        exact HB1.out
  · cases dn
    · cases am
      · have HDO := Lib.hid (show doR ⟨sf, lo, lf, false, false⟩ (k, ar, b, x, y) = (⟨sf ++ lo, [], lf, false, false⟩, 0) from by unfold doR; simp [e, countR])
        obtain ⟨HSl, hS1, hS2⟩ := HS4.out
        obtain ⟨HLl, hL1, hL2⟩ := HL4.out
        rw [← HNS.out] at hS1
        rw [← HNL.out] at hL1
        have hbA : Below V.heap.size V (V.alloc (.cells #[] 39)) := (Below.refl _ _).alloc (Nat.le_refl _) _
        obtain ⟨A1, c1, w2, hrun1, ho1, hb1⟩ := append_copyA (V.alloc (.cells #[] 39)) (g := V.heap.size) (base := V.heap.size) (heap_alloc_new V _) (Nat.le_refl _) (c := cS) (hS1.below hbA (Nat.le_refl _)).rd (holdA_one hS2) (by have := HLL.out; have := HNS.out; omega)
        have c0 := keepc d0 hbA
        have hb2 := hbA.trans hb1
        have b0 := keepc d0 hb2
        have b1 := keepc d1 hb2
        have b2 := keepc d2 hb2
        have b3 := keepc d3 hb2
        have b4 := keepc d4 hb2
        obtain ⟨A2, c2, w3, hrun2, ho2, -, hb3⟩ := append_ac w2 V.heap.size ho1 (c2 := cL) (hL1.below hb2 (Nat.le_refl _)).rd (holdA_one hL2) (by have := HLL.out; have := HNS.out; have := HNL.out; omega) hb2.size
        have hb4 := hb2.trans hb3
        obtain ⟨nn, hnn⟩ : ∃ n, n = nS + nL := ⟨_, rfl⟩
        rw [← hnn] at hrun2 ho2
        have D0 := keepc d0 hb4
        have D1 := keepc d1 hb4
        have D2 := keepc d2 hb4
        have D3 := keepc d3 hb4
        have D4 := keepc d4 hb4
        have Z0 := keepc z0 hb4
        have Z1 := keepc z1 hb4
        have Z2 := keepc z2 hb4
        have Z3 := keepc z3 hb4
        have Z4 := keepc z4 hb4
        have zg : ∀ j, w3.frozen? ⟨w.heap.size + 1 + 1, j, none⟩ = false := fun j => (hb4.frozen (show (Addr.mk (w.heap.size + 1 + 1) j none).block < V.heap.size by have := HSV.out; simp only; omega)).trans (zf j)
        have dg : ∀ j, w3.frozen? ⟨w.heap.size, j, none⟩ = false := fun j => (hb4.frozen (show (Addr.mk w.heap.size j none).block < V.heap.size by have := HSV.out; simp only; omega)).trans (df j)
        have HN1 := Lib.hid (show nn = (sf ++ lo).length by rw [hnn, List.length_append, ← HNS.out, ← HNL.out])
        have HR1 := Lib.hid (show RdA w3 (F3 w F) A2 (sf ++ lo) from ⟨HSl ++ HLl, by rw [← HN1.out]; exact ReadsF.of_own ho2 (fun b h1 _ => .inr (by have := HSV.out; omega)), ((hS2.append hL2).bel (BelF.of hb4 (Nat.le_refl _))).mono fun b h => .inl h⟩)
        have HB1 := Lib.hid (HBV.out.trans (hb4.mono HBV.out.size))
        clear hnn ho1 ho2 hS1 hS2 hL1 hL2 hbA hb1 hb2 hb3 hb4 zf df
        go_wp2_with (at_builtin; first | (refine wpList_append_run rfl rfl rfl rfl hrun1 ?_; clear hrun1) | (refine wpList_append_run rfl rfl rfl rfl hrun2 ?_; clear hrun2))
        refine bodyPost_ret (v := .tuple #[.agg #[.slice A2 nn c2, .slice none 0 0, .int .i64 (lf), .bool false, .bool false], .int .i64 0]) ?_ rfl ?_
        · rw [results_cell_tmp rfl]; go_simp; first | done | rfl
        · rw [HDO.out]
          refine ⟨A2, nn, c2, none, 0, 0, rfl, HN1.out, rfl, ?_, ?_, ?_⟩
          · refine RdA.mono ?_ (F3_since w F)
            repeat (with_reducible refine RdA.setC ?_ (F3_not HF.out (by simp only; omega) (by simp only; omega)) _)
            exact HR1.out
          · refine RdA.mono ?_ (F3_since w F)
            repeat (with_reducible refine RdA.setC ?_ (F3_not HF.out (by simp only; omega) (by simp only; omega)) _)
            exact RdA.nil
          · repeat (with_reducible refine Below.setCell ?_ (by simp only; omega) _)
            exact HB1.out
      · have hlf := HA.out rfl rfl
        by_cases h1 : lf = 1
        · subst h1
          have HDO := Lib.hid (show doR ⟨sf, lo, 1, true, false⟩ (k, ar, b, x, y) = (⟨sf ++ lo, [], 0, true, true⟩, 0) from by unfold doR; simp [e, countR])
          clear hlf
          obtain ⟨HSl, hS1, hS2⟩ := HS4.out
          obtain ⟨HLl, hL1, hL2⟩ := HL4.out
          rw [← HNS.out] at hS1
          rw [← HNL.out] at hL1
          have hbA : Below V.heap.size V (V.alloc (.cells #[] 39)) := (Below.refl _ _).alloc (Nat.le_refl _) _
          obtain ⟨A1, c1, w2, hrun1, ho1, hb1⟩ := append_copyA (V.alloc (.cells #[] 39)) (g := V.heap.size) (base := V.heap.size) (heap_alloc_new V _) (Nat.le_refl _) (c := cS) (hS1.below hbA (Nat.le_refl _)).rd (holdA_one hS2) (by have := HLL.out; have := HNS.out; omega)
          have c0 := keepc d0 hbA
          have hb2 := hbA.trans hb1
          have b0 := keepc d0 hb2
          have b1 := keepc d1 hb2
          have b2 := keepc d2 hb2
          have b3 := keepc d3 hb2
          have b4 := keepc d4 hb2
          obtain ⟨A2, c2, w3, hrun2, ho2, -, hb3⟩ := append_ac w2 V.heap.size ho1 (c2 := cL) (hL1.below hb2 (Nat.le_refl _)).rd (holdA_one hL2) (by have := HLL.out; have := HNS.out; have := HNL.out; omega) hb2.size
          have hb4 := hb2.trans hb3
          obtain ⟨nn, hnn⟩ : ∃ n, n = nS + nL := ⟨_, rfl⟩
          rw [← hnn] at hrun2 ho2
          have D0 := keepc d0 hb4
          have D1 := keepc d1 hb4
          have D2 := keepc d2 hb4
          have D3 := keepc d3 hb4
          have D4 := keepc d4 hb4
          have Z0 := keepc z0 hb4
          have Z1 := keepc z1 hb4
          have Z2 := keepc z2 hb4
          have Z3 := keepc z3 hb4
          have Z4 := keepc z4 hb4
          have zg : ∀ j, w3.frozen? ⟨w.heap.size + 1 + 1, j, none⟩ = false := fun j => (hb4.frozen (show (Addr.mk (w.heap.size + 1 + 1) j none).block < V.heap.size by have := HSV.out; simp only; omega)).trans (zf j)
          have dg : ∀ j, w3.frozen? ⟨w.heap.size, j, none⟩ = false := fun j => (hb4.frozen (show (Addr.mk w.heap.size j none).block < V.heap.size by have := HSV.out; simp only; omega)).trans (df j)
          have HN1 := Lib.hid (show nn = (sf ++ lo).length by rw [hnn, List.length_append, ← HNS.out, ← HNL.out])
          have HR1 := Lib.hid (show RdA w3 (F3 w F) A2 (sf ++ lo) from ⟨HSl ++ HLl, by rw [← HN1.out]; exact ReadsF.of_own ho2 (fun b h1 _ => .inr (by have := HSV.out; omega)), ((hS2.append hL2).bel (BelF.of hb4 (Nat.le_refl _))).mono fun b h => .inl h⟩)
          have HB1 := Lib.hid (HBV.out.trans (hb4.mono HBV.out.size))
          clear hnn ho1 ho2 hS1 hS2 hL1 hL2 hbA hb1 hb2 hb3 hb4 zf df
          go_wp2_with (at_builtin; first | (refine wpList_append_run rfl rfl rfl rfl hrun1 ?_; clear hrun1) | (refine wpList_append_run rfl rfl rfl rfl hrun2 ?_; clear hrun2))
          refine bodyPost_ret (v := .tuple #[.agg #[.slice A2 nn c2, .slice none 0 0, .int .i64 (0), .bool true, .bool true], .int .i64 0]) ?_ rfl ?_
          · rw [results_cell_tmp rfl]; go_simp; first | done | rfl
          · rw [HDO.out]
            refine ⟨A2, nn, c2, none, 0, 0, rfl, HN1.out, rfl, ?_, ?_, ?_⟩
            · refine RdA.mono ?_ (F3_since w F)
              repeat (with_reducible refine RdA.setC ?_ (F3_not HF.out (by simp only; omega) (by simp only; omega)) _)
              exact HR1.out
            · refine RdA.mono ?_ (F3_since w F)
              repeat (with_reducible refine RdA.setC ?_ (F3_not HF.out (by simp only; omega) (by simp only; omega)) _)
              exact RdA.nil
            · repeat (with_reducible refine Below.setCell ?_ (by simp only; omega) _)
              exact HB1.out
        · have HDO := Lib.hid (show doR ⟨sf, lo, lf, true, false⟩ (k, ar, b, x, y) = (⟨sf ++ lo, [], lf - 1, true, false⟩, 0) from by unfold doR; simp [e, countR, h1])
          obtain ⟨l1, l2⟩ := hlf
          have h2 : ¬ lf - 1 = 0 := by omega
          have h3 : (0 : Int) ≤ lf - 1 := by omega
          obtain ⟨HSl, hS1, hS2⟩ := HS4.out
          obtain ⟨HLl, hL1, hL2⟩ := HL4.out
          rw [← HNS.out] at hS1
          rw [← HNL.out] at hL1
          have hbA : Below V.heap.size V (V.alloc (.cells #[] 39)) := (Below.refl _ _).alloc (Nat.le_refl _) _
          obtain ⟨A1, c1, w2, hrun1, ho1, hb1⟩ := append_copyA (V.alloc (.cells #[] 39)) (g := V.heap.size) (base := V.heap.size) (heap_alloc_new V _) (Nat.le_refl _) (c := cS) (hS1.below hbA (Nat.le_refl _)).rd (holdA_one hS2) (by have := HLL.out; have := HNS.out; omega)
          have c0 := keepc d0 hbA
          have hb2 := hbA.trans hb1
          have b0 := keepc d0 hb2
          have b1 := keepc d1 hb2
          have b2 := keepc d2 hb2
          have b3 := keepc d3 hb2
          have b4 := keepc d4 hb2
          obtain ⟨A2, c2, w3, hrun2, ho2, -, hb3⟩ := append_ac w2 V.heap.size ho1 (c2 := cL) (hL1.below hb2 (Nat.le_refl _)).rd (holdA_one hL2) (by have := HLL.out; have := HNS.out; have := HNL.out; omega) hb2.size
          have hb4 := hb2.trans hb3
          obtain ⟨nn, hnn⟩ : ∃ n, n = nS + nL := ⟨_, rfl⟩
          rw [← hnn] at hrun2 ho2
          have D0 := keepc d0 hb4
          have D1 := keepc d1 hb4
          have D2 := keepc d2 hb4
          have D3 := keepc d3 hb4
          have D4 := keepc d4 hb4
          have Z0 := keepc z0 hb4
          have Z1 := keepc z1 hb4
          have Z2 := keepc z2 hb4
          have Z3 := keepc z3 hb4
          have Z4 := keepc z4 hb4
          have zg : ∀ j, w3.frozen? ⟨w.heap.size + 1 + 1, j, none⟩ = false := fun j => (hb4.frozen (show (Addr.mk (w.heap.size + 1 + 1) j none).block < V.heap.size by have := HSV.out; simp only; omega)).trans (zf j)
          have dg : ∀ j, w3.frozen? ⟨w.heap.size, j, none⟩ = false := fun j => (hb4.frozen (show (Addr.mk w.heap.size j none).block < V.heap.size by have := HSV.out; simp only; omega)).trans (df j)
          have HN1 := Lib.hid (show nn = (sf ++ lo).length by rw [hnn, List.length_append, ← HNS.out, ← HNL.out])
          have HR1 := Lib.hid (show RdA w3 (F3 w F) A2 (sf ++ lo) from ⟨HSl ++ HLl, by rw [← HN1.out]; exact ReadsF.of_own ho2 (fun b h1 _ => .inr (by have := HSV.out; omega)), ((hS2.append hL2).bel (BelF.of hb4 (Nat.le_refl _))).mono fun b h => .inl h⟩)
          have HB1 := Lib.hid (HBV.out.trans (hb4.mono HBV.out.size))
          clear hnn ho1 ho2 hS1 hS2 hL1 hL2 hbA hb1 hb2 hb3 hb4 zf df
          go_wp2_with (at_builtin; first | (refine wpList_append_run rfl rfl rfl rfl hrun1 ?_; clear hrun1) | (refine wpList_append_run rfl rfl rfl rfl hrun2 ?_; clear hrun2))
          refine bodyPost_ret (v := .tuple #[.agg #[.slice A2 nn c2, .slice none 0 0, .int .i64 (lf - 1), .bool true, .bool false], .int .i64 0]) ?_ rfl ?_
          · rw [results_cell_tmp rfl]; go_simp; first | done | rfl
          · rw [HDO.out]
            refine ⟨A2, nn, c2, none, 0, 0, rfl, HN1.out, rfl, ?_, ?_, ?_⟩
            · refine RdA.mono ?_ (F3_since w F)
              repeat (with_reducible refine RdA.setC ?_ (F3_not HF.out (by simp only; omega) (by simp only; omega)) _)
              exact HR1.out
            · refine RdA.mono ?_ (F3_since w F)
              repeat (with_reducible refine RdA.setC ?_ (F3_not HF.out (by simp only; omega) (by simp only; omega)) _)
              exact RdA.nil
            · repeat (with_reducible refine Below.setCell ?_ (by simp only; omega) _)
              exact HB1.out
    · have HDO := Lib.hid (show doR ⟨sf, lo, lf, am, true⟩ (k, ar, b, x, y) = (⟨sf, lo, lf, am, true⟩, 4) from by unfold doR; simp [e])
      go_wp2_with fail
      refine bodyPost_ret (v := .tuple #[.agg #[.slice AS nS cS, .slice AL nL cL, .int .i64 (lf), .bool am, .bool true], .int .i64 4]) ?_ rfl ?_
      · rw [results_cell_tmp rfl]; go_simp; first | done | rfl
      · rw [HDO.out]
        refine ⟨AS, nS, cS, AL, nL, cL, rfl, HNS.out, HNL.out, ?_, ?_, ?_⟩
        · refine RdA.mono ?_ (F3_since w F)
          repeat (with_reducible refine RdA.setC ?_ (F3_not HF.out (by simp only; omega) (by simp only; omega)) _)
          exact HS3.out
        · refine RdA.mono ?_ (F3_since w F)
          repeat (with_reducible refine RdA.setC ?_ (F3_not HF.out (by simp only; omega) (by simp only; omega)) _)
          exact HL3.out
        · repeat (with_reducible refine Below.setCell ?_ (by simp only; omega) _)
          exact HBV.out
  · have q4 : ¬ k % 6 = 4 := by omega
    have q5 : ¬ k % 6 = 5 := by omega
    have q3 : ¬ k % 6 = 3 := by omega
    by_cases har : ar = 0
    · subst har
      cases dn
      · cases am
        · have HDO := Lib.hid (show doR ⟨sf, lo, lf, false, false⟩ (k, 0, b, x, y) = (⟨sf, lo ++ [ofKind (k, 0, b, x, y) (k % 6)], lf, false, false⟩, 0) from by unfold doR; simp [q4, q5, q3, e3, countR])
          have e1 : V.heap.size = w.heap.size + 3 := HSV.out
          have hset : ∀ b, b ≠ w.heap.size + 1 → (V.setCell ⟨w.heap.size + 1, 0, none⟩ (.int .u8 (k % 6))).heap[b]? = V.heap[b]? := fun b hb => heap_setCell_other V ⟨w.heap.size + 1, 0, none⟩ b _ (fun e => hb e)
          have Xd0 : (V.setCell ⟨w.heap.size + 1, 0, none⟩ (.int .u8 (k % 6))).cell? ⟨w.heap.size, 0, none⟩ = _ := (World.cell?_of_block (hset _ (by simp only; omega))).trans d0
          have Xd1 : (V.setCell ⟨w.heap.size + 1, 0, none⟩ (.int .u8 (k % 6))).cell? ⟨w.heap.size, 1, none⟩ = _ := (World.cell?_of_block (hset _ (by simp only; omega))).trans d1
          have Xd2 : (V.setCell ⟨w.heap.size + 1, 0, none⟩ (.int .u8 (k % 6))).cell? ⟨w.heap.size, 2, none⟩ = _ := (World.cell?_of_block (hset _ (by simp only; omega))).trans d2
          have Xd3 : (V.setCell ⟨w.heap.size + 1, 0, none⟩ (.int .u8 (k % 6))).cell? ⟨w.heap.size, 3, none⟩ = _ := (World.cell?_of_block (hset _ (by simp only; omega))).trans d3
          have Xd4 : (V.setCell ⟨w.heap.size + 1, 0, none⟩ (.int .u8 (k % 6))).cell? ⟨w.heap.size, 4, none⟩ = _ := (World.cell?_of_block (hset _ (by simp only; omega))).trans d4
          have Xz0 : (V.setCell ⟨w.heap.size + 1, 0, none⟩ (.int .u8 (k % 6))).cell? ⟨w.heap.size + 1 + 1, 0, none⟩ = _ := (World.cell?_of_block (hset _ (by simp only; omega))).trans z0
          have Xz1 : (V.setCell ⟨w.heap.size + 1, 0, none⟩ (.int .u8 (k % 6))).cell? ⟨w.heap.size + 1 + 1, 1, none⟩ = _ := (World.cell?_of_block (hset _ (by simp only; omega))).trans z1
          have Xz2 : (V.setCell ⟨w.heap.size + 1, 0, none⟩ (.int .u8 (k % 6))).cell? ⟨w.heap.size + 1 + 1, 2, none⟩ = _ := (World.cell?_of_block (hset _ (by simp only; omega))).trans z2
          have Xz3 : (V.setCell ⟨w.heap.size + 1, 0, none⟩ (.int .u8 (k % 6))).cell? ⟨w.heap.size + 1 + 1, 3, none⟩ = _ := (World.cell?_of_block (hset _ (by simp only; omega))).trans z3
          have Xz4 : (V.setCell ⟨w.heap.size + 1, 0, none⟩ (.int .u8 (k % 6))).cell? ⟨w.heap.size + 1 + 1, 4, none⟩ = _ := (World.cell?_of_block (hset _ (by simp only; omega))).trans z4
          have a0' : (V.setCell ⟨w.heap.size + 1, 0, none⟩ (.int .u8 (k % 6))).cell? ⟨w.heap.size + 1, 0, none⟩ = some (.int .u8 (k % 6)) := World.cell?_setCell_same V _ _ a0
          have Xa1 : (V.setCell ⟨w.heap.size + 1, 0, none⟩ (.int .u8 (k % 6))).cell? ⟨w.heap.size + 1, 1, none⟩ = _ := (World.cell?_setCell_other V _ _ _ (by simp)).trans a1
          have Xa2 : (V.setCell ⟨w.heap.size + 1, 0, none⟩ (.int .u8 (k % 6))).cell? ⟨w.heap.size + 1, 2, none⟩ = _ := (World.cell?_setCell_other V _ _ _ (by simp)).trans a2
          have Xa3 : (V.setCell ⟨w.heap.size + 1, 0, none⟩ (.int .u8 (k % 6))).cell? ⟨w.heap.size + 1, 3, none⟩ = _ := (World.cell?_setCell_other V _ _ _ (by simp)).trans a3
          have Xa4 : (V.setCell ⟨w.heap.size + 1, 0, none⟩ (.int .u8 (k % 6))).cell? ⟨w.heap.size + 1, 4, none⟩ = _ := (World.cell?_setCell_other V _ _ _ (by simp)).trans a4
          have dF : ∀ j, (V.setCell ⟨w.heap.size + 1, 0, none⟩ (.int .u8 (k % 6))).frozen? ⟨w.heap.size, j, none⟩ = false := fun j => by simpa using df j
          have zF : ∀ j, (V.setCell ⟨w.heap.size + 1, 0, none⟩ (.int .u8 (k % 6))).frozen? ⟨w.heap.size + 1 + 1, j, none⟩ = false := fun j => by simpa using zf j
          have hnF : ¬ F (w.heap.size + 1) := fun h => by have := HF.out _ h; omega
          have HS5 := Lib.hid (show RdA (V.setCell ⟨w.heap.size + 1, 0, none⟩ (.int .u8 (k % 6))) F AS sf from HS4.out.setC hnF _)
          have HL5 := Lib.hid (show RdA (V.setCell ⟨w.heap.size + 1, 0, none⟩ (.int .u8 (k % 6))) F AL lo from HL4.out.setC hnF _)
          have HV5 := Lib.hid (show RdF (V.setCell ⟨w.heap.size + 1, 0, none⟩ (.int .u8 (k % 6))) F Av b from HV4.out.bel ((BelF.refl F V).setCell hnF _))
          have HB5 := Lib.hid (show Below w.heap.size w (V.setCell ⟨w.heap.size + 1, 0, none⟩ (.int .u8 (k % 6))) from HBV.out.setCell (by simp only; omega) _)
          have HSZ := Lib.hid (show (V.setCell ⟨w.heap.size + 1, 0, none⟩ (.int .u8 (k % 6))).heap.size = w.heap.size + 3 by simpa using e1)
          clear e1 hset hnF HS4 HL4 HV4 HBV HSV HS3 HL3
          go_wp2_with fail
          generalize V.setCell ⟨w.heap.size + 1, 0, none⟩ (.int .u8 (k % 6)) = X at *
          replace d0 := Xd0
          replace d1 := Xd1
          replace d2 := Xd2
          replace d3 := Xd3
          replace d4 := Xd4
          replace z0 := Xz0
          replace z1 := Xz1
          replace z2 := Xz2
          replace z3 := Xz3
          replace z4 := Xz4
          replace a1 := Xa1
          replace a2 := Xa2
          replace a3 := Xa3
          replace a4 := Xa4
          clear Xd0 Xd1 Xd2 Xd3 Xd4 Xz0 Xz1 Xz2 Xz3 Xz4 Xa1 Xa2 Xa3 Xa4 df zf af a0
          obtain ⟨HLl, hL1, hL2⟩ := HL5.out
          rw [← HNL.out] at hL1
          have hone : Value.oneCell' (.slice Av m cv) = true := rfl
          have hcopy : Reads X.drew X.drew.heap.size 5 AL nL (acV HLl) := hL1.rd
          have hh1 := holdA_one hL2
          have hlen : nL ≤ 1000000000 := by have := HLL.out; have := HNL.out; omega
          have HHD := Lib.hid (show HdF X F (.slice Av m cv) b from ⟨Av, cv, by rw [HM.out], HV5.out, by rw [← HM.out]; exact hcv⟩)
          have HH2 := Lib.hid hL2
          have hS0 : (fun X : World => (X.cell? ⟨w.heap.size, 1, none⟩ = some (.slice AL nL cL) ∧ X.cell? ⟨w.heap.size + 1, 0, none⟩ = some (.int .u8 (k % 6)) ∧ X.cell? ⟨w.heap.size + 1, 1, none⟩ = some (.int .i64 0) ∧ X.cell? ⟨w.heap.size + 1, 2, none⟩ = some (.slice Av m cv) ∧ X.cell? ⟨w.heap.size + 1, 3, none⟩ = some (.int .i64 x) ∧ X.cell? ⟨w.heap.size + 1, 4, none⟩ = some (.int .i64 y))) X.drew := ⟨d1, a0', a1, a2, a3, a4⟩
          refine tail.wp_region_till 8 (fun X => (X.cell? ⟨w.heap.size, 1, none⟩ = some (.slice AL nL cL) ∧ X.cell? ⟨w.heap.size + 1, 0, none⟩ = some (.int .u8 (k % 6)) ∧ X.cell? ⟨w.heap.size + 1, 1, none⟩ = some (.int .i64 0) ∧ X.cell? ⟨w.heap.size + 1, 2, none⟩ = some (.slice Av m cv) ∧ X.cell? ⟨w.heap.size + 1, 3, none⟩ = some (.int .i64 x) ∧ X.cell? ⟨w.heap.size + 1, 4, none⟩ = some (.int .i64 y))) (by kernel_rfl) ?_
          (refine tail.till_take 1 (v := ?_) rfl (by kernel_rfl) (by kernel_rfl) (by kernel_rfl) (by kernel_rfl) (by kernel_rfl) (fun _ _ _ h => h) (by rfl) (by assumption) ?_ ?_; rotate_left 1; (focus (intro X hX; obtain ⟨s1, s2, s3, s4, s5, s6⟩ := hX; go_simp; with_reducible rfl)); (try simp only [Act.put, List.setIfInBounds_toArray, List.set_cons_zero, List.set_cons_succ]))
          (refine tail.till_take 2 (v := ?_) rfl (by kernel_rfl) (by kernel_rfl) (by kernel_rfl) (by kernel_rfl) (by kernel_rfl) (fun _ _ _ h => h) (by rfl) (by assumption) ?_ ?_; rotate_left 1; (focus (intro X hX; obtain ⟨s1, s2, s3, s4, s5, s6⟩ := hX; go_simp; with_reducible rfl)); (try simp only [Act.put, List.setIfInBounds_toArray, List.set_cons_zero, List.set_cons_succ]))
          (refine tail.till_take 4 (v := ?_) rfl (by kernel_rfl) (by kernel_rfl) (by kernel_rfl) (by kernel_rfl) (by kernel_rfl) (fun _ _ _ h => h) (by rfl) (by assumption) ?_ ?_; rotate_left 1; (focus (intro X hX; obtain ⟨s1, s2, s3, s4, s5, s6⟩ := hX; go_simp; with_reducible rfl)); (try simp only [Act.put, List.setIfInBounds_toArray, List.set_cons_zero, List.set_cons_succ]))
          refine tail.till_two 0 5 (by kernel_rfl) rfl rfl ?_ ?_
          · intro K hK
            have hbE : Below X.drew.heap.size X.drew (X.drew.alloc (.cells #[] 39)) := (Below.refl _ _).alloc (Nat.le_refl _) _
            have hbS := hbE
            have hSE : (fun X : World => (X.cell? ⟨w.heap.size, 1, none⟩ = some (.slice AL nL cL) ∧ X.cell? ⟨w.heap.size + 1, 0, none⟩ = some (.int .u8 (k % 6)) ∧ X.cell? ⟨w.heap.size + 1, 1, none⟩ = some (.int .i64 0) ∧ X.cell? ⟨w.heap.size + 1, 2, none⟩ = some (.slice Av m cv) ∧ X.cell? ⟨w.heap.size + 1, 3, none⟩ = some (.int .i64 x) ∧ X.cell? ⟨w.heap.size + 1, 4, none⟩ = some (.int .i64 y))) (X.drew.alloc (.cells #[] 39)) := ⟨keepc (W := X.drew) d1 hbS, keepc (W := X.drew) a0' hbS, keepc (W := X.drew) a1 hbS, keepc (W := X.drew) a2 hbS, keepc (W := X.drew) a3 hbS, keepc (W := X.drew) a4 hbS⟩
            clear hbS
            go_simp
            refine hK.out _ _ (fun _ => hSE) ?_
            clear hK K
            try simp only [Act.put, List.setIfInBounds_toArray, List.set_cons_zero, List.set_cons_succ]
            refine tail.till_two 3 5 (by kernel_rfl) rfl rfl ?_ ?_
            · intro K hK
              obtain ⟨A2, c2, w2, A3, c3, w3, run1, run2, ho3, hb2, hb3⟩ := order_A1 (k % 6) 0 x y X.drew hone hcopy hh1 hlen (cL := cL)
              have hbE : Below X.drew.heap.size X.drew (X.drew.alloc (.cells #[] 39)) := (Below.refl _ _).alloc (Nat.le_refl _) _
              have hbR : Below X.drew.heap.size X.drew (X.drew.alloc (.cells #[.int .u8 (k % 6), .int .i64 0, .slice Av m cv, .int .i64 x, .int .i64 y] 39)) := (Below.refl _ _).alloc (Nat.le_refl _) _
              have hbS := hb2
              have hS2 : (fun X : World => (X.cell? ⟨w.heap.size, 1, none⟩ = some (.slice AL nL cL) ∧ X.cell? ⟨w.heap.size + 1, 0, none⟩ = some (.int .u8 (k % 6)) ∧ X.cell? ⟨w.heap.size + 1, 1, none⟩ = some (.int .i64 0) ∧ X.cell? ⟨w.heap.size + 1, 2, none⟩ = some (.slice Av m cv) ∧ X.cell? ⟨w.heap.size + 1, 3, none⟩ = some (.int .i64 x) ∧ X.cell? ⟨w.heap.size + 1, 4, none⟩ = some (.int .i64 y))) w2 := ⟨keepc (W := X.drew) d1 hbS, keepc (W := X.drew) a0' hbS, keepc (W := X.drew) a1 hbS, keepc (W := X.drew) a2 hbS, keepc (W := X.drew) a3 hbS, keepc (W := X.drew) a4 hbS⟩
              clear hbS
              have hb2R : Below X.drew.heap.size X.drew (w2.alloc (.cells #[.int .u8 (k % 6), .int .i64 0, .slice Av m cv, .int .i64 x, .int .i64 y] 39)) := hb2.alloc hb2.size _
              have hbS := hb2R
              have hS2R : (fun X : World => (X.cell? ⟨w.heap.size, 1, none⟩ = some (.slice AL nL cL) ∧ X.cell? ⟨w.heap.size + 1, 0, none⟩ = some (.int .u8 (k % 6)) ∧ X.cell? ⟨w.heap.size + 1, 1, none⟩ = some (.int .i64 0) ∧ X.cell? ⟨w.heap.size + 1, 2, none⟩ = some (.slice Av m cv) ∧ X.cell? ⟨w.heap.size + 1, 3, none⟩ = some (.int .i64 x) ∧ X.cell? ⟨w.heap.size + 1, 4, none⟩ = some (.int .i64 y))) (w2.alloc (.cells #[.int .u8 (k % 6), .int .i64 0, .slice Av m cv, .int .i64 x, .int .i64 y] 39)) := ⟨keepc (W := X.drew) d1 hbS, keepc (W := X.drew) a0' hbS, keepc (W := X.drew) a1 hbS, keepc (W := X.drew) a2 hbS, keepc (W := X.drew) a3 hbS, keepc (W := X.drew) a4 hbS⟩
              clear hbS
              have hbS := hb3
              have hS3 : (fun X : World => (X.cell? ⟨w.heap.size, 1, none⟩ = some (.slice AL nL cL) ∧ X.cell? ⟨w.heap.size + 1, 0, none⟩ = some (.int .u8 (k % 6)) ∧ X.cell? ⟨w.heap.size + 1, 1, none⟩ = some (.int .i64 0) ∧ X.cell? ⟨w.heap.size + 1, 2, none⟩ = some (.slice Av m cv) ∧ X.cell? ⟨w.heap.size + 1, 3, none⟩ = some (.int .i64 x) ∧ X.cell? ⟨w.heap.size + 1, 4, none⟩ = some (.int .i64 y))) w3 := ⟨keepc (W := X.drew) d1 hbS, keepc (W := X.drew) a0' hbS, keepc (W := X.drew) a1 hbS, keepc (W := X.drew) a2 hbS, keepc (W := X.drew) a3 hbS, keepc (W := X.drew) a4 hbS⟩
              clear hbS
              clear hb2R hb2 hbE hbR
              refine step_append_run rfl rfl rfl rfl run1 ?_
              refine hK.out _ _ (fun _ => hS2) ?_
              clear hK K
              try simp only [Act.put, List.setIfInBounds_toArray, List.set_cons_zero, List.set_cons_succ]
              refine tail.till_one 5 (by kernel_rfl) rfl (fun K hK => ?_)
              go_simp
              refine hK.out _ _ (fun _ => hS2R) ?_
              clear hK K
              try simp only [Act.put, List.setIfInBounds_toArray, List.set_cons_zero, List.set_cons_succ]
              refine tail.till_one 6 (by kernel_rfl) rfl (fun K hK => ?_)
              refine step_append_run rfl rfl rfl rfl run2 ?_
              refine hK.out _ _ (fun _ => hS3) ?_
              clear hK K
              try simp only [Act.put, List.setIfInBounds_toArray, List.set_cons_zero, List.set_cons_succ]
              clear hSE hS2 hS2R run1 run2
              have HR2 := Lib.hid (show RdA w3 (F3 w F) A3 (lo ++ [ofKind (k, 0, b, x, y) (k % 6)]) from ⟨HLl ++ [(k % 6, 0, .slice Av m cv, x, y)], by rw [List.length_append, ← HNL.out]; exact ReadsF.of_own ho3 (fun b h1 _ => .inr (by have := HSZ.out; have h7 : X.drew.heap.size = X.heap.size := rfl; omega)), ((HH2.out.snoc (a := ofKind (k, 0, b, x, y) (k % 6)) rfl rfl HHD.out rfl rfl).bel (BelF.of (w := X) (k := X.heap.size) ⟨hb3.os, hb3.tape, hb3.output, hb3.size, hb3.block⟩ (Nat.le_refl _))).mono fun b h => .inl h⟩)
              have HR1 := Lib.hid (show RdA w3 (F3 w F) AS sf from (HS5.out.bel (BelF.of (w := X) (k := X.heap.size) ⟨hb3.os, hb3.tape, hb3.output, hb3.size, hb3.block⟩ (Nat.le_refl _))).mono fun b h => .inl h)
              have HB3 := Lib.hid (show Below w.heap.size w w3 from HB5.out.trans (Below.mono (B := X.heap.size) ⟨hb3.os, hb3.tape, hb3.output, hb3.size, hb3.block⟩ HB5.out.size))
              have x0 := keepc (W := X.drew) d0 hb3
              have x1 := keepc (W := X.drew) d1 hb3
              have x2 := keepc (W := X.drew) d2 hb3
              have x3 := keepc (W := X.drew) d3 hb3
              have x4 := keepc (W := X.drew) d4 hb3
              have y0 := keepc (W := X.drew) z0 hb3
              have y1 := keepc (W := X.drew) z1 hb3
              have y2 := keepc (W := X.drew) z2 hb3
              have y3 := keepc (W := X.drew) z3 hb3
              have y4 := keepc (W := X.drew) z4 hb3
              have xf : ∀ j, w3.frozen? ⟨w.heap.size, j, none⟩ = false := fun j => (hb3.frozen (show (Addr.mk w.heap.size j none).block < X.drew.heap.size by have := HSZ.out; have h7 : X.drew.heap.size = X.heap.size := rfl; simp only; omega)).trans (dF j)
              have yf : ∀ j, w3.frozen? ⟨w.heap.size + 1 + 1, j, none⟩ = false := fun j => (hb3.frozen (show (Addr.mk (w.heap.size + 1 + 1) j none).block < X.drew.heap.size by have := HSZ.out; have h7 : X.drew.heap.size = X.heap.size := rfl; simp only; omega)).trans (zF j)
              have HN2 := Lib.hid (show nL + 1 = (lo ++ [ofKind (k, 0, b, x, y) (k % 6)]).length by rw [List.length_append, ← HNL.out]; rfl)
              clear ho3 hb3 d0 d1 d2 d3 d4 z0 z1 z2 z3 z4 a1 a2 a3 a4 a0' dF zF HS5 HL5 HV5 HHD HH2 hcopy hh1 hone
              (refine tail.till_take 7 (v := ?_) rfl (by kernel_rfl) (by kernel_rfl) (by kernel_rfl) (by kernel_rfl) (by kernel_rfl) (fun _ _ _ h => h) (by rfl) (by assumption) ?_ ?_; rotate_left 1; (focus (intro X hX; obtain ⟨s1, s2, s3, s4, s5, s6⟩ := hX; go_simp; with_reducible rfl)); (try simp only [Act.put, List.setIfInBounds_toArray, List.set_cons_zero, List.set_cons_succ]))
              refine tail.till_one 8 (by kernel_rfl) rfl (fun K hK => ?_)
              go_simp
              refine hK.out _ _ (fun h => absurd rfl h) ?_
              clear hK K
              refine tail.till_done (by kernel_rfl) ?_ _
              go_wp2_with fail
              refine bodyPost_ret (v := .tuple #[.agg #[.slice AS nS cS, .slice A3 (nL + 1) c3, .int .i64 (lf), .bool false, .bool false], .int .i64 0]) ?_ rfl ?_
              · rw [results_cell_tmp rfl]; go_simp; first | done | rfl
              · rw [HDO.out]
                refine ⟨AS, nS, cS, A3, (nL + 1), c3, rfl, HNS.out, HN2.out, ?_, ?_, ?_⟩
                · refine RdA.mono ?_ (F3_since w F)
                  repeat (with_reducible refine RdA.setC ?_ (F3_not HF.out (by simp only; omega) (by simp only; omega)) _)
                  exact HR1.out
                · refine RdA.mono ?_ (F3_since w F)
                  repeat (with_reducible refine RdA.setC ?_ (F3_not HF.out (by simp only; omega) (by simp only; omega)) _)
                  exact HR2.out
                · repeat (with_reducible refine Below.setCell ?_ (by simp only; omega) _)
                  exact HB3.out
            · intro K hK
              obtain ⟨A2, c2, w2, A3, c3, w3, run1, run2, ho3, hb2, hb3⟩ := order_A2 (k % 6) 0 x y X.drew hone hcopy hh1 hlen (cL := cL)
              have hbE : Below X.drew.heap.size X.drew (X.drew.alloc (.cells #[] 39)) := (Below.refl _ _).alloc (Nat.le_refl _) _
              have hbR : Below X.drew.heap.size X.drew (X.drew.alloc (.cells #[.int .u8 (k % 6), .int .i64 0, .slice Av m cv, .int .i64 x, .int .i64 y] 39)) := (Below.refl _ _).alloc (Nat.le_refl _) _
              have hbER : Below X.drew.heap.size X.drew ((X.drew.alloc (.cells #[] 39)).alloc (.cells #[.int .u8 (k % 6), .int .i64 0, .slice Av m cv, .int .i64 x, .int .i64 y] 39)) := hbE.alloc hbE.size _
              have hbS := hbER
              have hSER : (fun X : World => (X.cell? ⟨w.heap.size, 1, none⟩ = some (.slice AL nL cL) ∧ X.cell? ⟨w.heap.size + 1, 0, none⟩ = some (.int .u8 (k % 6)) ∧ X.cell? ⟨w.heap.size + 1, 1, none⟩ = some (.int .i64 0) ∧ X.cell? ⟨w.heap.size + 1, 2, none⟩ = some (.slice Av m cv) ∧ X.cell? ⟨w.heap.size + 1, 3, none⟩ = some (.int .i64 x) ∧ X.cell? ⟨w.heap.size + 1, 4, none⟩ = some (.int .i64 y))) ((X.drew.alloc (.cells #[] 39)).alloc (.cells #[.int .u8 (k % 6), .int .i64 0, .slice Av m cv, .int .i64 x, .int .i64 y] 39)) := ⟨keepc (W := X.drew) d1 hbS, keepc (W := X.drew) a0' hbS, keepc (W := X.drew) a1 hbS, keepc (W := X.drew) a2 hbS, keepc (W := X.drew) a3 hbS, keepc (W := X.drew) a4 hbS⟩
              clear hbS
              have hbS := hb2
              have hS2 : (fun X : World => (X.cell? ⟨w.heap.size, 1, none⟩ = some (.slice AL nL cL) ∧ X.cell? ⟨w.heap.size + 1, 0, none⟩ = some (.int .u8 (k % 6)) ∧ X.cell? ⟨w.heap.size + 1, 1, none⟩ = some (.int .i64 0) ∧ X.cell? ⟨w.heap.size + 1, 2, none⟩ = some (.slice Av m cv) ∧ X.cell? ⟨w.heap.size + 1, 3, none⟩ = some (.int .i64 x) ∧ X.cell? ⟨w.heap.size + 1, 4, none⟩ = some (.int .i64 y))) w2 := ⟨keepc (W := X.drew) d1 hbS, keepc (W := X.drew) a0' hbS, keepc (W := X.drew) a1 hbS, keepc (W := X.drew) a2 hbS, keepc (W := X.drew) a3 hbS, keepc (W := X.drew) a4 hbS⟩
              clear hbS
              have hbS := hb3
              have hS3 : (fun X : World => (X.cell? ⟨w.heap.size, 1, none⟩ = some (.slice AL nL cL) ∧ X.cell? ⟨w.heap.size + 1, 0, none⟩ = some (.int .u8 (k % 6)) ∧ X.cell? ⟨w.heap.size + 1, 1, none⟩ = some (.int .i64 0) ∧ X.cell? ⟨w.heap.size + 1, 2, none⟩ = some (.slice Av m cv) ∧ X.cell? ⟨w.heap.size + 1, 3, none⟩ = some (.int .i64 x) ∧ X.cell? ⟨w.heap.size + 1, 4, none⟩ = some (.int .i64 y))) w3 := ⟨keepc (W := X.drew) d1 hbS, keepc (W := X.drew) a0' hbS, keepc (W := X.drew) a1 hbS, keepc (W := X.drew) a2 hbS, keepc (W := X.drew) a3 hbS, keepc (W := X.drew) a4 hbS⟩
              clear hbS
              clear hbER hb2 hbE hbR
              go_simp
              refine hK.out _ _ (fun _ => hSER) ?_
              clear hK K
              try simp only [Act.put, List.setIfInBounds_toArray, List.set_cons_zero, List.set_cons_succ]
              refine tail.till_one 3 (by kernel_rfl) rfl (fun K hK => ?_)
              refine step_append_run rfl rfl rfl rfl run1 ?_
              refine hK.out _ _ (fun _ => hS2) ?_
              clear hK K
              try simp only [Act.put, List.setIfInBounds_toArray, List.set_cons_zero, List.set_cons_succ]
              refine tail.till_one 6 (by kernel_rfl) rfl (fun K hK => ?_)
              refine step_append_run rfl rfl rfl rfl run2 ?_
              refine hK.out _ _ (fun _ => hS3) ?_
              clear hK K
              try simp only [Act.put, List.setIfInBounds_toArray, List.set_cons_zero, List.set_cons_succ]
              clear hSE hS2 hSER run1 run2
              have HR2 := Lib.hid (show RdA w3 (F3 w F) A3 (lo ++ [ofKind (k, 0, b, x, y) (k % 6)]) from ⟨HLl ++ [(k % 6, 0, .slice Av m cv, x, y)], by rw [List.length_append, ← HNL.out]; exact ReadsF.of_own ho3 (fun b h1 _ => .inr (by have := HSZ.out; have h7 : X.drew.heap.size = X.heap.size := rfl; omega)), ((HH2.out.snoc (a := ofKind (k, 0, b, x, y) (k % 6)) rfl rfl HHD.out rfl rfl).bel (BelF.of (w := X) (k := X.heap.size) ⟨hb3.os, hb3.tape, hb3.output, hb3.size, hb3.block⟩ (Nat.le_refl _))).mono fun b h => .inl h⟩)
              have HR1 := Lib.hid (show RdA w3 (F3 w F) AS sf from (HS5.out.bel (BelF.of (w := X) (k := X.heap.size) ⟨hb3.os, hb3.tape, hb3.output, hb3.size, hb3.block⟩ (Nat.le_refl _))).mono fun b h => .inl h)
              have HB3 := Lib.hid (show Below w.heap.size w w3 from HB5.out.trans (Below.mono (B := X.heap.size) ⟨hb3.os, hb3.tape, hb3.output, hb3.size, hb3.block⟩ HB5.out.size))
              have x0 := keepc (W := X.drew) d0 hb3
              have x1 := keepc (W := X.drew) d1 hb3
              have x2 := keepc (W := X.drew) d2 hb3
              have x3 := keepc (W := X.drew) d3 hb3
              have x4 := keepc (W := X.drew) d4 hb3
              have y0 := keepc (W := X.drew) z0 hb3
              have y1 := keepc (W := X.drew) z1 hb3
              have y2 := keepc (W := X.drew) z2 hb3
              have y3 := keepc (W := X.drew) z3 hb3
              have y4 := keepc (W := X.drew) z4 hb3
              have xf : ∀ j, w3.frozen? ⟨w.heap.size, j, none⟩ = false := fun j => (hb3.frozen (show (Addr.mk w.heap.size j none).block < X.drew.heap.size by have := HSZ.out; have h7 : X.drew.heap.size = X.heap.size := rfl; simp only; omega)).trans (dF j)
              have yf : ∀ j, w3.frozen? ⟨w.heap.size + 1 + 1, j, none⟩ = false := fun j => (hb3.frozen (show (Addr.mk (w.heap.size + 1 + 1) j none).block < X.drew.heap.size by have := HSZ.out; have h7 : X.drew.heap.size = X.heap.size := rfl; simp only; omega)).trans (zF j)
              have HN2 := Lib.hid (show nL + 1 = (lo ++ [ofKind (k, 0, b, x, y) (k % 6)]).length by rw [List.length_append, ← HNL.out]; rfl)
              clear ho3 hb3 d0 d1 d2 d3 d4 z0 z1 z2 z3 z4 a1 a2 a3 a4 a0' dF zF HS5 HL5 HV5 HHD HH2 hcopy hh1 hone
              (refine tail.till_take 7 (v := ?_) rfl (by kernel_rfl) (by kernel_rfl) (by kernel_rfl) (by kernel_rfl) (by kernel_rfl) (fun _ _ _ h => h) (by rfl) (by assumption) ?_ ?_; rotate_left 1; (focus (intro X hX; obtain ⟨s1, s2, s3, s4, s5, s6⟩ := hX; go_simp; with_reducible rfl)); (try simp only [Act.put, List.setIfInBounds_toArray, List.set_cons_zero, List.set_cons_succ]))
              refine tail.till_one 8 (by kernel_rfl) rfl (fun K hK => ?_)
              go_simp
              refine hK.out _ _ (fun h => absurd rfl h) ?_
              clear hK K
              refine tail.till_done (by kernel_rfl) ?_ _
              go_wp2_with fail
              refine bodyPost_ret (v := .tuple #[.agg #[.slice AS nS cS, .slice A3 (nL + 1) c3, .int .i64 (lf), .bool false, .bool false], .int .i64 0]) ?_ rfl ?_
              · rw [results_cell_tmp rfl]; go_simp; first | done | rfl
              · rw [HDO.out]
                refine ⟨AS, nS, cS, A3, (nL + 1), c3, rfl, HNS.out, HN2.out, ?_, ?_, ?_⟩
                · refine RdA.mono ?_ (F3_since w F)
                  repeat (with_reducible refine RdA.setC ?_ (F3_not HF.out (by simp only; omega) (by simp only; omega)) _)
                  exact HR1.out
                · refine RdA.mono ?_ (F3_since w F)
                  repeat (with_reducible refine RdA.setC ?_ (F3_not HF.out (by simp only; omega) (by simp only; omega)) _)
                  exact HR2.out
                · repeat (with_reducible refine Below.setCell ?_ (by simp only; omega) _)
                  exact HB3.out
          · intro K hK
            obtain ⟨A2, c2, w2, A3, c3, w3, run1, run2, ho3, hb2, hb3⟩ := order_B (k % 6) 0 x y X.drew hone hcopy hh1 hlen (cL := cL)
            have hbE : Below X.drew.heap.size X.drew (X.drew.alloc (.cells #[] 39)) := (Below.refl _ _).alloc (Nat.le_refl _) _
            have hbR : Below X.drew.heap.size X.drew (X.drew.alloc (.cells #[.int .u8 (k % 6), .int .i64 0, .slice Av m cv, .int .i64 x, .int .i64 y] 39)) := (Below.refl _ _).alloc (Nat.le_refl _) _
            have hbS := hbR
            have hSR : (fun X : World => (X.cell? ⟨w.heap.size, 1, none⟩ = some (.slice AL nL cL) ∧ X.cell? ⟨w.heap.size + 1, 0, none⟩ = some (.int .u8 (k % 6)) ∧ X.cell? ⟨w.heap.size + 1, 1, none⟩ = some (.int .i64 0) ∧ X.cell? ⟨w.heap.size + 1, 2, none⟩ = some (.slice Av m cv) ∧ X.cell? ⟨w.heap.size + 1, 3, none⟩ = some (.int .i64 x) ∧ X.cell? ⟨w.heap.size + 1, 4, none⟩ = some (.int .i64 y))) (X.drew.alloc (.cells #[.int .u8 (k % 6), .int .i64 0, .slice Av m cv, .int .i64 x, .int .i64 y] 39)) := ⟨keepc (W := X.drew) d1 hbS, keepc (W := X.drew) a0' hbS, keepc (W := X.drew) a1 hbS, keepc (W := X.drew) a2 hbS, keepc (W := X.drew) a3 hbS, keepc (W := X.drew) a4 hbS⟩
            clear hbS
            have hbRE : Below X.drew.heap.size X.drew ((X.drew.alloc (.cells #[.int .u8 (k % 6), .int .i64 0, .slice Av m cv, .int .i64 x, .int .i64 y] 39)).alloc (.cells #[] 39)) := hbR.alloc hbR.size _
            have hbS := hbRE
            have hSRE : (fun X : World => (X.cell? ⟨w.heap.size, 1, none⟩ = some (.slice AL nL cL) ∧ X.cell? ⟨w.heap.size + 1, 0, none⟩ = some (.int .u8 (k % 6)) ∧ X.cell? ⟨w.heap.size + 1, 1, none⟩ = some (.int .i64 0) ∧ X.cell? ⟨w.heap.size + 1, 2, none⟩ = some (.slice Av m cv) ∧ X.cell? ⟨w.heap.size + 1, 3, none⟩ = some (.int .i64 x) ∧ X.cell? ⟨w.heap.size + 1, 4, none⟩ = some (.int .i64 y))) ((X.drew.alloc (.cells #[.int .u8 (k % 6), .int .i64 0, .slice Av m cv, .int .i64 x, .int .i64 y] 39)).alloc (.cells #[] 39)) := ⟨keepc (W := X.drew) d1 hbS, keepc (W := X.drew) a0' hbS, keepc (W := X.drew) a1 hbS, keepc (W := X.drew) a2 hbS, keepc (W := X.drew) a3 hbS, keepc (W := X.drew) a4 hbS⟩
            clear hbS
            have hbS := hb2
            have hS2 : (fun X : World => (X.cell? ⟨w.heap.size, 1, none⟩ = some (.slice AL nL cL) ∧ X.cell? ⟨w.heap.size + 1, 0, none⟩ = some (.int .u8 (k % 6)) ∧ X.cell? ⟨w.heap.size + 1, 1, none⟩ = some (.int .i64 0) ∧ X.cell? ⟨w.heap.size + 1, 2, none⟩ = some (.slice Av m cv) ∧ X.cell? ⟨w.heap.size + 1, 3, none⟩ = some (.int .i64 x) ∧ X.cell? ⟨w.heap.size + 1, 4, none⟩ = some (.int .i64 y))) w2 := ⟨keepc (W := X.drew) d1 hbS, keepc (W := X.drew) a0' hbS, keepc (W := X.drew) a1 hbS, keepc (W := X.drew) a2 hbS, keepc (W := X.drew) a3 hbS, keepc (W := X.drew) a4 hbS⟩
            clear hbS
            have hbS := hb3
            have hS3 : (fun X : World => (X.cell? ⟨w.heap.size, 1, none⟩ = some (.slice AL nL cL) ∧ X.cell? ⟨w.heap.size + 1, 0, none⟩ = some (.int .u8 (k % 6)) ∧ X.cell? ⟨w.heap.size + 1, 1, none⟩ = some (.int .i64 0) ∧ X.cell? ⟨w.heap.size + 1, 2, none⟩ = some (.slice Av m cv) ∧ X.cell? ⟨w.heap.size + 1, 3, none⟩ = some (.int .i64 x) ∧ X.cell? ⟨w.heap.size + 1, 4, none⟩ = some (.int .i64 y))) w3 := ⟨keepc (W := X.drew) d1 hbS, keepc (W := X.drew) a0' hbS, keepc (W := X.drew) a1 hbS, keepc (W := X.drew) a2 hbS, keepc (W := X.drew) a3 hbS, keepc (W := X.drew) a4 hbS⟩
            clear hbS
            clear hbRE hb2 hbE hbR
            go_simp
            refine hK.out _ _ (fun _ => hSR) ?_
            clear hK K
            try simp only [Act.put, List.setIfInBounds_toArray, List.set_cons_zero, List.set_cons_succ]
            refine tail.till_one 0 (by kernel_rfl) rfl (fun K hK => ?_)
            go_simp
            refine hK.out _ _ (fun _ => hSRE) ?_
            clear hK K
            try simp only [Act.put, List.setIfInBounds_toArray, List.set_cons_zero, List.set_cons_succ]
            refine tail.till_one 3 (by kernel_rfl) rfl (fun K hK => ?_)
            refine step_append_run rfl rfl rfl rfl run1 ?_
            refine hK.out _ _ (fun _ => hS2) ?_
            clear hK K
            try simp only [Act.put, List.setIfInBounds_toArray, List.set_cons_zero, List.set_cons_succ]
            refine tail.till_one 6 (by kernel_rfl) rfl (fun K hK => ?_)
            refine step_append_run rfl rfl rfl rfl run2 ?_
            refine hK.out _ _ (fun _ => hS3) ?_
            clear hK K
            try simp only [Act.put, List.setIfInBounds_toArray, List.set_cons_zero, List.set_cons_succ]
            clear hSR hS2 hSRE run1 run2
            have HR2 := Lib.hid (show RdA w3 (F3 w F) A3 (lo ++ [ofKind (k, 0, b, x, y) (k % 6)]) from ⟨HLl ++ [(k % 6, 0, .slice Av m cv, x, y)], by rw [List.length_append, ← HNL.out]; exact ReadsF.of_own ho3 (fun b h1 _ => .inr (by have := HSZ.out; have h7 : X.drew.heap.size = X.heap.size := rfl; omega)), ((HH2.out.snoc (a := ofKind (k, 0, b, x, y) (k % 6)) rfl rfl HHD.out rfl rfl).bel (BelF.of (w := X) (k := X.heap.size) ⟨hb3.os, hb3.tape, hb3.output, hb3.size, hb3.block⟩ (Nat.le_refl _))).mono fun b h => .inl h⟩)
            have HR1 := Lib.hid (show RdA w3 (F3 w F) AS sf from (HS5.out.bel (BelF.of (w := X) (k := X.heap.size) ⟨hb3.os, hb3.tape, hb3.output, hb3.size, hb3.block⟩ (Nat.le_refl _))).mono fun b h => .inl h)
            have HB3 := Lib.hid (show Below w.heap.size w w3 from HB5.out.trans (Below.mono (B := X.heap.size) ⟨hb3.os, hb3.tape, hb3.output, hb3.size, hb3.block⟩ HB5.out.size))
            have x0 := keepc (W := X.drew) d0 hb3
            have x1 := keepc (W := X.drew) d1 hb3
            have x2 := keepc (W := X.drew) d2 hb3
            have x3 := keepc (W := X.drew) d3 hb3
            have x4 := keepc (W := X.drew) d4 hb3
            have y0 := keepc (W := X.drew) z0 hb3
            have y1 := keepc (W := X.drew) z1 hb3
            have y2 := keepc (W := X.drew) z2 hb3
            have y3 := keepc (W := X.drew) z3 hb3
            have y4 := keepc (W := X.drew) z4 hb3
            have xf : ∀ j, w3.frozen? ⟨w.heap.size, j, none⟩ = false := fun j => (hb3.frozen (show (Addr.mk w.heap.size j none).block < X.drew.heap.size by have := HSZ.out; have h7 : X.drew.heap.size = X.heap.size := rfl; simp only; omega)).trans (dF j)
            have yf : ∀ j, w3.frozen? ⟨w.heap.size + 1 + 1, j, none⟩ = false := fun j => (hb3.frozen (show (Addr.mk (w.heap.size + 1 + 1) j none).block < X.drew.heap.size by have := HSZ.out; have h7 : X.drew.heap.size = X.heap.size := rfl; simp only; omega)).trans (zF j)
            have HN2 := Lib.hid (show nL + 1 = (lo ++ [ofKind (k, 0, b, x, y) (k % 6)]).length by rw [List.length_append, ← HNL.out]; rfl)
            clear ho3 hb3 d0 d1 d2 d3 d4 z0 z1 z2 z3 z4 a1 a2 a3 a4 a0' dF zF HS5 HL5 HV5 HHD HH2 hcopy hh1 hone
            (refine tail.till_take 7 (v := ?_) rfl (by kernel_rfl) (by kernel_rfl) (by kernel_rfl) (by kernel_rfl) (by kernel_rfl) (fun _ _ _ h => h) (by rfl) (by assumption) ?_ ?_; rotate_left 1; (focus (intro X hX; obtain ⟨s1, s2, s3, s4, s5, s6⟩ := hX; go_simp; with_reducible rfl)); (try simp only [Act.put, List.setIfInBounds_toArray, List.set_cons_zero, List.set_cons_succ]))
            refine tail.till_one 8 (by kernel_rfl) rfl (fun K hK => ?_)
            go_simp
            refine hK.out _ _ (fun h => absurd rfl h) ?_
            clear hK K
            refine tail.till_done (by kernel_rfl) ?_ _
            go_wp2_with fail
            refine bodyPost_ret (v := .tuple #[.agg #[.slice AS nS cS, .slice A3 (nL + 1) c3, .int .i64 (lf), .bool false, .bool false], .int .i64 0]) ?_ rfl ?_
            · rw [results_cell_tmp rfl]; go_simp; first | done | rfl
            · rw [HDO.out]
              refine ⟨AS, nS, cS, A3, (nL + 1), c3, rfl, HNS.out, HN2.out, ?_, ?_, ?_⟩
              · refine RdA.mono ?_ (F3_since w F)
                repeat (with_reducible refine RdA.setC ?_ (F3_not HF.out (by simp only; omega) (by simp only; omega)) _)
                exact HR1.out
              · refine RdA.mono ?_ (F3_since w F)
                repeat (with_reducible refine RdA.setC ?_ (F3_not HF.out (by simp only; omega) (by simp only; omega)) _)
                exact HR2.out
              · repeat (with_reducible refine Below.setCell ?_ (by simp only; omega) _)
                exact HB3.out
        · have hlf := HA.out rfl rfl
          by_cases h1 : lf = 1
          · subst h1
            clear hlf
            have HDO := Lib.hid (show doR ⟨sf, lo, 1, true, false⟩ (k, 0, b, x, y) = (⟨sf, lo ++ [ofKind (k, 0, b, x, y) (k % 6)], 0, true, true⟩, 0) from by unfold doR; simp [q4, q5, q3, e3, countR])
            have e1 : V.heap.size = w.heap.size + 3 := HSV.out
            have hset : ∀ b, b ≠ w.heap.size + 1 → (V.setCell ⟨w.heap.size + 1, 0, none⟩ (.int .u8 (k % 6))).heap[b]? = V.heap[b]? := fun b hb => heap_setCell_other V ⟨w.heap.size + 1, 0, none⟩ b _ (fun e => hb e)
            have Xd0 : (V.setCell ⟨w.heap.size + 1, 0, none⟩ (.int .u8 (k % 6))).cell? ⟨w.heap.size, 0, none⟩ = _ := (World.cell?_of_block (hset _ (by simp only; omega))).trans d0
            have Xd1 : (V.setCell ⟨w.heap.size + 1, 0, none⟩ (.int .u8 (k % 6))).cell? ⟨w.heap.size, 1, none⟩ = _ := (World.cell?_of_block (hset _ (by simp only; omega))).trans d1
            have Xd2 : (V.setCell ⟨w.heap.size + 1, 0, none⟩ (.int .u8 (k % 6))).cell? ⟨w.heap.size, 2, none⟩ = _ := (World.cell?_of_block (hset _ (by simp only; omega))).trans d2
            have Xd3 : (V.setCell ⟨w.heap.size + 1, 0, none⟩ (.int .u8 (k % 6))).cell? ⟨w.heap.size, 3, none⟩ = _ := (World.cell?_of_block (hset _ (by simp only; omega))).trans d3
            have Xd4 : (V.setCell ⟨w.heap.size + 1, 0, none⟩ (.int .u8 (k % 6))).cell? ⟨w.heap.size, 4, none⟩ = _ := (World.cell?_of_block (hset _ (by simp only; omega))).trans d4
            have Xz0 : (V.setCell ⟨w.heap.size + 1, 0, none⟩ (.int .u8 (k % 6))).cell? ⟨w.heap.size + 1 + 1, 0, none⟩ = _ := (World.cell?_of_block (hset _ (by simp only; omega))).trans z0
            have Xz1 : (V.setCell ⟨w.heap.size + 1, 0, none⟩ (.int .u8 (k % 6))).cell? ⟨w.heap.size + 1 + 1, 1, none⟩ = _ := (World.cell?_of_block (hset _ (by simp only; omega))).trans z1
            have Xz2 : (V.setCell ⟨w.heap.size + 1, 0, none⟩ (.int .u8 (k % 6))).cell? ⟨w.heap.size + 1 + 1, 2, none⟩ = _ := (World.cell?_of_block (hset _ (by simp only; omega))).trans z2
            have Xz3 : (V.setCell ⟨w.heap.size + 1, 0, none⟩ (.int .u8 (k % 6))).cell? ⟨w.heap.size + 1 + 1, 3, none⟩ = _ := (World.cell?_of_block (hset _ (by simp only; omega))).trans z3
            have Xz4 : (V.setCell ⟨w.heap.size + 1, 0, none⟩ (.int .u8 (k % 6))).cell? ⟨w.heap.size + 1 + 1, 4, none⟩ = _ := (World.cell?_of_block (hset _ (by simp only; omega))).trans z4
            have a0' : (V.setCell ⟨w.heap.size + 1, 0, none⟩ (.int .u8 (k % 6))).cell? ⟨w.heap.size + 1, 0, none⟩ = some (.int .u8 (k % 6)) := World.cell?_setCell_same V _ _ a0
            have Xa1 : (V.setCell ⟨w.heap.size + 1, 0, none⟩ (.int .u8 (k % 6))).cell? ⟨w.heap.size + 1, 1, none⟩ = _ := (World.cell?_setCell_other V _ _ _ (by simp)).trans a1
            have Xa2 : (V.setCell ⟨w.heap.size + 1, 0, none⟩ (.int .u8 (k % 6))).cell? ⟨w.heap.size + 1, 2, none⟩ = _ := (World.cell?_setCell_other V _ _ _ (by simp)).trans a2
            have Xa3 : (V.setCell ⟨w.heap.size + 1, 0, none⟩ (.int .u8 (k % 6))).cell? ⟨w.heap.size + 1, 3, none⟩ = _ := (World.cell?_setCell_other V _ _ _ (by simp)).trans a3
            have Xa4 : (V.setCell ⟨w.heap.size + 1, 0, none⟩ (.int .u8 (k % 6))).cell? ⟨w.heap.size + 1, 4, none⟩ = _ := (World.cell?_setCell_other V _ _ _ (by simp)).trans a4
            have dF : ∀ j, (V.setCell ⟨w.heap.size + 1, 0, none⟩ (.int .u8 (k % 6))).frozen? ⟨w.heap.size, j, none⟩ = false := fun j => by simpa using df j
            have zF : ∀ j, (V.setCell ⟨w.heap.size + 1, 0, none⟩ (.int .u8 (k % 6))).frozen? ⟨w.heap.size + 1 + 1, j, none⟩ = false := fun j => by simpa using zf j
            have hnF : ¬ F (w.heap.size + 1) := fun h => by have := HF.out _ h; omega
            have HS5 := Lib.hid (show RdA (V.setCell ⟨w.heap.size + 1, 0, none⟩ (.int .u8 (k % 6))) F AS sf from HS4.out.setC hnF _)
            have HL5 := Lib.hid (show RdA (V.setCell ⟨w.heap.size + 1, 0, none⟩ (.int .u8 (k % 6))) F AL lo from HL4.out.setC hnF _)
            have HV5 := Lib.hid (show RdF (V.setCell ⟨w.heap.size + 1, 0, none⟩ (.int .u8 (k % 6))) F Av b from HV4.out.bel ((BelF.refl F V).setCell hnF _))
            have HB5 := Lib.hid (show Below w.heap.size w (V.setCell ⟨w.heap.size + 1, 0, none⟩ (.int .u8 (k % 6))) from HBV.out.setCell (by simp only; omega) _)
            have HSZ := Lib.hid (show (V.setCell ⟨w.heap.size + 1, 0, none⟩ (.int .u8 (k % 6))).heap.size = w.heap.size + 3 by simpa using e1)
            clear e1 hset hnF HS4 HL4 HV4 HBV HSV HS3 HL3
            go_wp2_with fail
            generalize V.setCell ⟨w.heap.size + 1, 0, none⟩ (.int .u8 (k % 6)) = X at *
            replace d0 := Xd0
            replace d1 := Xd1
            replace d2 := Xd2
            replace d3 := Xd3
            replace d4 := Xd4
            replace z0 := Xz0
            replace z1 := Xz1
            replace z2 := Xz2
            replace z3 := Xz3
            replace z4 := Xz4
            replace a1 := Xa1
            replace a2 := Xa2
            replace a3 := Xa3
            replace a4 := Xa4
            clear Xd0 Xd1 Xd2 Xd3 Xd4 Xz0 Xz1 Xz2 Xz3 Xz4 Xa1 Xa2 Xa3 Xa4 df zf af a0
            obtain ⟨HLl, hL1, hL2⟩ := HL5.out
            rw [← HNL.out] at hL1
            have hone : Value.oneCell' (.slice Av m cv) = true := rfl
            have hcopy : Reads X.drew X.drew.heap.size 5 AL nL (acV HLl) := hL1.rd
            have hh1 := holdA_one hL2
            have hlen : nL ≤ 1000000000 := by have := HLL.out; have := HNL.out; omega
            have HHD := Lib.hid (show HdF X F (.slice Av m cv) b from ⟨Av, cv, by rw [HM.out], HV5.out, by rw [← HM.out]; exact hcv⟩)
            have HH2 := Lib.hid hL2
            have hS0 : (fun X : World => (X.cell? ⟨w.heap.size, 1, none⟩ = some (.slice AL nL cL) ∧ X.cell? ⟨w.heap.size + 1, 0, none⟩ = some (.int .u8 (k % 6)) ∧ X.cell? ⟨w.heap.size + 1, 1, none⟩ = some (.int .i64 0) ∧ X.cell? ⟨w.heap.size + 1, 2, none⟩ = some (.slice Av m cv) ∧ X.cell? ⟨w.heap.size + 1, 3, none⟩ = some (.int .i64 x) ∧ X.cell? ⟨w.heap.size + 1, 4, none⟩ = some (.int .i64 y))) X.drew := ⟨d1, a0', a1, a2, a3, a4⟩
            refine tail.wp_region_till 8 (fun X => (X.cell? ⟨w.heap.size, 1, none⟩ = some (.slice AL nL cL) ∧ X.cell? ⟨w.heap.size + 1, 0, none⟩ = some (.int .u8 (k % 6)) ∧ X.cell? ⟨w.heap.size + 1, 1, none⟩ = some (.int .i64 0) ∧ X.cell? ⟨w.heap.size + 1, 2, none⟩ = some (.slice Av m cv) ∧ X.cell? ⟨w.heap.size + 1, 3, none⟩ = some (.int .i64 x) ∧ X.cell? ⟨w.heap.size + 1, 4, none⟩ = some (.int .i64 y))) (by kernel_rfl) ?_
            (refine tail.till_take 1 (v := ?_) rfl (by kernel_rfl) (by kernel_rfl) (by kernel_rfl) (by kernel_rfl) (by kernel_rfl) (fun _ _ _ h => h) (by rfl) (by assumption) ?_ ?_; rotate_left 1; (focus (intro X hX; obtain ⟨s1, s2, s3, s4, s5, s6⟩ := hX; go_simp; with_reducible rfl)); (try simp only [Act.put, List.setIfInBounds_toArray, List.set_cons_zero, List.set_cons_succ]))
            (refine tail.till_take 2 (v := ?_) rfl (by kernel_rfl) (by kernel_rfl) (by kernel_rfl) (by kernel_rfl) (by kernel_rfl) (fun _ _ _ h => h) (by rfl) (by assumption) ?_ ?_; rotate_left 1; (focus (intro X hX; obtain ⟨s1, s2, s3, s4, s5, s6⟩ := hX; go_simp; with_reducible rfl)); (try simp only [Act.put, List.setIfInBounds_toArray, List.set_cons_zero, List.set_cons_succ]))
            (refine tail.till_take 4 (v := ?_) rfl (by kernel_rfl) (by kernel_rfl) (by kernel_rfl) (by kernel_rfl) (by kernel_rfl) (fun _ _ _ h => h) (by rfl) (by assumption) ?_ ?_; rotate_left 1; (focus (intro X hX; obtain ⟨s1, s2, s3, s4, s5, s6⟩ := hX; go_simp; with_reducible rfl)); (try simp only [Act.put, List.setIfInBounds_toArray, List.set_cons_zero, List.set_cons_succ]))
            refine tail.till_two 0 5 (by kernel_rfl) rfl rfl ?_ ?_
            · intro K hK
              have hbE : Below X.drew.heap.size X.drew (X.drew.alloc (.cells #[] 39)) := (Below.refl _ _).alloc (Nat.le_refl _) _
              have hbS := hbE
              have hSE : (fun X : World => (X.cell? ⟨w.heap.size, 1, none⟩ = some (.slice AL nL cL) ∧ X.cell? ⟨w.heap.size + 1, 0, none⟩ = some (.int .u8 (k % 6)) ∧ X.cell? ⟨w.heap.size + 1, 1, none⟩ = some (.int .i64 0) ∧ X.cell? ⟨w.heap.size + 1, 2, none⟩ = some (.slice Av m cv) ∧ X.cell? ⟨w.heap.size + 1, 3, none⟩ = some (.int .i64 x) ∧ X.cell? ⟨w.heap.size + 1, 4, none⟩ = some (.int .i64 y))) (X.drew.alloc (.cells #[] 39)) := ⟨keepc (W := X.drew) d1 hbS, keepc (W := X.drew) a0' hbS, keepc (W := X.drew) a1 hbS, keepc (W := X.drew) a2 hbS, keepc (W := X.drew) a3 hbS, keepc (W := X.drew) a4 hbS⟩
              clear hbS
              go_simp
              refine hK.out _ _ (fun _ => hSE) ?_
              clear hK K
              try simp only [Act.put, List.setIfInBounds_toArray, List.set_cons_zero, List.set_cons_succ]
              refine tail.till_two 3 5 (by kernel_rfl) rfl rfl ?_ ?_
              · intro K hK
                obtain ⟨A2, c2, w2, A3, c3, w3, run1, run2, ho3, hb2, hb3⟩ := order_A1 (k % 6) 0 x y X.drew hone hcopy hh1 hlen (cL := cL)
                have hbE : Below X.drew.heap.size X.drew (X.drew.alloc (.cells #[] 39)) := (Below.refl _ _).alloc (Nat.le_refl _) _
                have hbR : Below X.drew.heap.size X.drew (X.drew.alloc (.cells #[.int .u8 (k % 6), .int .i64 0, .slice Av m cv, .int .i64 x, .int .i64 y] 39)) := (Below.refl _ _).alloc (Nat.le_refl _) _
                have hbS := hb2
                have hS2 : (fun X : World => (X.cell? ⟨w.heap.size, 1, none⟩ = some (.slice AL nL cL) ∧ X.cell? ⟨w.heap.size + 1, 0, none⟩ = some (.int .u8 (k % 6)) ∧ X.cell? ⟨w.heap.size + 1, 1, none⟩ = some (.int .i64 0) ∧ X.cell? ⟨w.heap.size + 1, 2, none⟩ = some (.slice Av m cv) ∧ X.cell? ⟨w.heap.size + 1, 3, none⟩ = some (.int .i64 x) ∧ X.cell? ⟨w.heap.size + 1, 4, none⟩ = some (.int .i64 y))) w2 := ⟨keepc (W := X.drew) d1 hbS, keepc (W := X.drew) a0' hbS, keepc (W := X.drew) a1 hbS, keepc (W := X.drew) a2 hbS, keepc (W := X.drew) a3 hbS, keepc (W := X.drew) a4 hbS⟩
                clear hbS
                have hb2R : Below X.drew.heap.size X.drew (w2.alloc (.cells #[.int .u8 (k % 6), .int .i64 0, .slice Av m cv, .int .i64 x, .int .i64 y] 39)) := hb2.alloc hb2.size _
                have hbS := hb2R
                have hS2R : (fun X : World => (X.cell? ⟨w.heap.size, 1, none⟩ = some (.slice AL nL cL) ∧ X.cell? ⟨w.heap.size + 1, 0, none⟩ = some (.int .u8 (k % 6)) ∧ X.cell? ⟨w.heap.size + 1, 1, none⟩ = some (.int .i64 0) ∧ X.cell? ⟨w.heap.size + 1, 2, none⟩ = some (.slice Av m cv) ∧ X.cell? ⟨w.heap.size + 1, 3, none⟩ = some (.int .i64 x) ∧ X.cell? ⟨w.heap.size + 1, 4, none⟩ = some (.int .i64 y))) (w2.alloc (.cells #[.int .u8 (k % 6), .int .i64 0, .slice Av m cv, .int .i64 x, .int .i64 y] 39)) := ⟨keepc (W := X.drew) d1 hbS, keepc (W := X.drew) a0' hbS, keepc (W := X.drew) a1 hbS, keepc (W := X.drew) a2 hbS, keepc (W := X.drew) a3 hbS, keepc (W := X.drew) a4 hbS⟩
                clear hbS
                have hbS := hb3
                have hS3 : (fun X : World => (X.cell? ⟨w.heap.size, 1, none⟩ = some (.slice AL nL cL) ∧ X.cell? ⟨w.heap.size + 1, 0, none⟩ = some (.int .u8 (k % 6)) ∧ X.cell? ⟨w.heap.size + 1, 1, none⟩ = some (.int .i64 0) ∧ X.cell? ⟨w.heap.size + 1, 2, none⟩ = some (.slice Av m cv) ∧ X.cell? ⟨w.heap.size + 1, 3, none⟩ = some (.int .i64 x) ∧ X.cell? ⟨w.heap.size + 1, 4, none⟩ = some (.int .i64 y))) w3 := ⟨keepc (W := X.drew) d1 hbS, keepc (W := X.drew) a0' hbS, keepc (W := X.drew) a1 hbS, keepc (W := X.drew) a2 hbS, keepc (W := X.drew) a3 hbS, keepc (W := X.drew) a4 hbS⟩
                clear hbS
                clear hb2R hb2 hbE hbR
                refine step_append_run rfl rfl rfl rfl run1 ?_
                refine hK.out _ _ (fun _ => hS2) ?_
                clear hK K
                try simp only [Act.put, List.setIfInBounds_toArray, List.set_cons_zero, List.set_cons_succ]
                refine tail.till_one 5 (by kernel_rfl) rfl (fun K hK => ?_)
                go_simp
                refine hK.out _ _ (fun _ => hS2R) ?_
                clear hK K
                try simp only [Act.put, List.setIfInBounds_toArray, List.set_cons_zero, List.set_cons_succ]
                refine tail.till_one 6 (by kernel_rfl) rfl (fun K hK => ?_)
                refine step_append_run rfl rfl rfl rfl run2 ?_
                refine hK.out _ _ (fun _ => hS3) ?_
                clear hK K
                try simp only [Act.put, List.setIfInBounds_toArray, List.set_cons_zero, List.set_cons_succ]
                clear hSE hS2 hS2R run1 run2
                have HR2 := Lib.hid (show RdA w3 (F3 w F) A3 (lo ++ [ofKind (k, 0, b, x, y) (k % 6)]) from ⟨HLl ++ [(k % 6, 0, .slice Av m cv, x, y)], by rw [List.length_append, ← HNL.out]; exact ReadsF.of_own ho3 (fun b h1 _ => .inr (by have := HSZ.out; have h7 : X.drew.heap.size = X.heap.size := rfl; omega)), ((HH2.out.snoc (a := ofKind (k, 0, b, x, y) (k % 6)) rfl rfl HHD.out rfl rfl).bel (BelF.of (w := X) (k := X.heap.size) ⟨hb3.os, hb3.tape, hb3.output, hb3.size, hb3.block⟩ (Nat.le_refl _))).mono fun b h => .inl h⟩)
                have HR1 := Lib.hid (show RdA w3 (F3 w F) AS sf from (HS5.out.bel (BelF.of (w := X) (k := X.heap.size) ⟨hb3.os, hb3.tape, hb3.output, hb3.size, hb3.block⟩ (Nat.le_refl _))).mono fun b h => .inl h)
                have HB3 := Lib.hid (show Below w.heap.size w w3 from HB5.out.trans (Below.mono (B := X.heap.size) ⟨hb3.os, hb3.tape, hb3.output, hb3.size, hb3.block⟩ HB5.out.size))
                have x0 := keepc (W := X.drew) d0 hb3
                have x1 := keepc (W := X.drew) d1 hb3
                have x2 := keepc (W := X.drew) d2 hb3
                have x3 := keepc (W := X.drew) d3 hb3
                have x4 := keepc (W := X.drew) d4 hb3
                have y0 := keepc (W := X.drew) z0 hb3
                have y1 := keepc (W := X.drew) z1 hb3
                have y2 := keepc (W := X.drew) z2 hb3
                have y3 := keepc (W := X.drew) z3 hb3
                have y4 := keepc (W := X.drew) z4 hb3
                have xf : ∀ j, w3.frozen? ⟨w.heap.size, j, none⟩ = false := fun j => (hb3.frozen (show (Addr.mk w.heap.size j none).block < X.drew.heap.size by have := HSZ.out; have h7 : X.drew.heap.size = X.heap.size := rfl; simp only; omega)).trans (dF j)
                have yf : ∀ j, w3.frozen? ⟨w.heap.size + 1 + 1, j, none⟩ = false := fun j => (hb3.frozen (show (Addr.mk (w.heap.size + 1 + 1) j none).block < X.drew.heap.size by have := HSZ.out; have h7 : X.drew.heap.size = X.heap.size := rfl; simp only; omega)).trans (zF j)
                have HN2 := Lib.hid (show nL + 1 = (lo ++ [ofKind (k, 0, b, x, y) (k % 6)]).length by rw [List.length_append, ← HNL.out]; rfl)
                clear ho3 hb3 d0 d1 d2 d3 d4 z0 z1 z2 z3 z4 a1 a2 a3 a4 a0' dF zF HS5 HL5 HV5 HHD HH2 hcopy hh1 hone
                (refine tail.till_take 7 (v := ?_) rfl (by kernel_rfl) (by kernel_rfl) (by kernel_rfl) (by kernel_rfl) (by kernel_rfl) (fun _ _ _ h => h) (by rfl) (by assumption) ?_ ?_; rotate_left 1; (focus (intro X hX; obtain ⟨s1, s2, s3, s4, s5, s6⟩ := hX; go_simp; with_reducible rfl)); (try simp only [Act.put, List.setIfInBounds_toArray, List.set_cons_zero, List.set_cons_succ]))
                refine tail.till_one 8 (by kernel_rfl) rfl (fun K hK => ?_)
                go_simp
                refine hK.out _ _ (fun h => absurd rfl h) ?_
                clear hK K
                refine tail.till_done (by kernel_rfl) ?_ _
                go_wp2_with fail
                refine bodyPost_ret (v := .tuple #[.agg #[.slice AS nS cS, .slice A3 (nL + 1) c3, .int .i64 (0), .bool true, .bool true], .int .i64 0]) ?_ rfl ?_
                · rw [results_cell_tmp rfl]; go_simp; first | done | rfl
                · rw [HDO.out]
                  refine ⟨AS, nS, cS, A3, (nL + 1), c3, rfl, HNS.out, HN2.out, ?_, ?_, ?_⟩
                  · refine RdA.mono ?_ (F3_since w F)
                    repeat (with_reducible refine RdA.setC ?_ (F3_not HF.out (by simp only; omega) (by simp only; omega)) _)
                    exact HR1.out
                  · refine RdA.mono ?_ (F3_since w F)
                    repeat (with_reducible refine RdA.setC ?_ (F3_not HF.out (by simp only; omega) (by simp only; omega)) _)
                    exact HR2.out
                  · repeat (with_reducible refine Below.setCell ?_ (by simp only; omega) _)
                    exact HB3.out
              · intro K hK
                obtain ⟨A2, c2, w2, A3, c3, w3, run1, run2, ho3, hb2, hb3⟩ := order_A2 (k % 6) 0 x y X.drew hone hcopy hh1 hlen (cL := cL)
                have hbE : Below X.drew.heap.size X.drew (X.drew.alloc (.cells #[] 39)) := (Below.refl _ _).alloc (Nat.le_refl _) _
                have hbR : Below X.drew.heap.size X.drew (X.drew.alloc (.cells #[.int .u8 (k % 6), .int .i64 0, .slice Av m cv, .int .i64 x, .int .i64 y] 39)) := (Below.refl _ _).alloc (Nat.le_refl _) _
                have hbER : Below X.drew.heap.size X.drew ((X.drew.alloc (.cells #[] 39)).alloc (.cells #[.int .u8 (k % 6), .int .i64 0, .slice Av m cv, .int .i64 x, .int .i64 y] 39)) := hbE.alloc hbE.size _
                have hbS := hbER
                have hSER : (fun X : World => (X.cell? ⟨w.heap.size, 1, none⟩ = some (.slice AL nL cL) ∧ X.cell? ⟨w.heap.size + 1, 0, none⟩ = some (.int .u8 (k % 6)) ∧ X.cell? ⟨w.heap.size + 1, 1, none⟩ = some (.int .i64 0) ∧ X.cell? ⟨w.heap.size + 1, 2, none⟩ = some (.slice Av m cv) ∧ X.cell? ⟨w.heap.size + 1, 3, none⟩ = some (.int .i64 x) ∧ X.cell? ⟨w.heap.size + 1, 4, none⟩ = some (.int .i64 y))) ((X.drew.alloc (.cells #[] 39)).alloc (.cells #[.int .u8 (k % 6), .int .i64 0, .slice Av m cv, .int .i64 x, .int .i64 y] 39)) := ⟨keepc (W := X.drew) d1 hbS, keepc (W := X.drew) a0' hbS, keepc (W := X.drew) a1 hbS, keepc (W := X.drew) a2 hbS, keepc (W := X.drew) a3 hbS, keepc (W := X.drew) a4 hbS⟩
                clear hbS
                have hbS := hb2
                have hS2 : (fun X : World => (X.cell? ⟨w.heap.size, 1, none⟩ = some (.slice AL nL cL) ∧ X.cell? ⟨w.heap.size + 1, 0, none⟩ = some (.int .u8 (k % 6)) ∧ X.cell? ⟨w.heap.size + 1, 1, none⟩ = some (.int .i64 0) ∧ X.cell? ⟨w.heap.size + 1, 2, none⟩ = some (.slice Av m cv) ∧ X.cell? ⟨w.heap.size + 1, 3, none⟩ = some (.int .i64 x) ∧ X.cell? ⟨w.heap.size + 1, 4, none⟩ = some (.int .i64 y))) w2 := ⟨keepc (W := X.drew) d1 hbS, keepc (W := X.drew) a0' hbS, keepc (W := X.drew) a1 hbS, keepc (W := X.drew) a2 hbS, keepc (W := X.drew) a3 hbS, keepc (W := X.drew) a4 hbS⟩
                clear hbS
                have hbS := hb3
                have hS3 : (fun X : World => (X.cell? ⟨w.heap.size, 1, none⟩ = some (.slice AL nL cL) ∧ X.cell? ⟨w.heap.size + 1, 0, none⟩ = some (.int .u8 (k % 6)) ∧ X.cell? ⟨w.heap.size + 1, 1, none⟩ = some (.int .i64 0) ∧ X.cell? ⟨w.heap.size + 1, 2, none⟩ = some (.slice Av m cv) ∧ X.cell? ⟨w.heap.size + 1, 3, none⟩ = some (.int .i64 x) ∧ X.cell? ⟨w.heap.size + 1, 4, none⟩ = some (.int .i64 y))) w3 := ⟨keepc (W := X.drew) d1 hbS, keepc (W := X.drew) a0' hbS, keepc (W := X.drew) a1 hbS, keepc (W := X.drew) a2 hbS, keepc (W := X.drew) a3 hbS, keepc (W := X.drew) a4 hbS⟩
                clear hbS
                clear hbER hb2 hbE hbR
                go_simp
                refine hK.out _ _ (fun _ => hSER) ?_
                clear hK K
                try simp only [Act.put, List.setIfInBounds_toArray, List.set_cons_zero, List.set_cons_succ]
                refine tail.till_one 3 (by kernel_rfl) rfl (fun K hK => ?_)
                refine step_append_run rfl rfl rfl rfl run1 ?_
                refine hK.out _ _ (fun _ => hS2) ?_
                clear hK K
                try simp only [Act.put, List.setIfInBounds_toArray, List.set_cons_zero, List.set_cons_succ]
                refine tail.till_one 6 (by kernel_rfl) rfl (fun K hK => ?_)
                refine step_append_run rfl rfl rfl rfl run2 ?_
                refine hK.out _ _ (fun _ => hS3) ?_
                clear hK K
                try simp only [Act.put, List.setIfInBounds_toArray, List.set_cons_zero, List.set_cons_succ]
                clear hSE hS2 hSER run1 run2
                have HR2 := Lib.hid (show RdA w3 (F3 w F) A3 (lo ++ [ofKind (k, 0, b, x, y) (k % 6)]) from ⟨HLl ++ [(k % 6, 0, .slice Av m cv, x, y)], by rw [List.length_append, ← HNL.out]; exact ReadsF.of_own ho3 (fun b h1 _ => .inr (by have := HSZ.out; have h7 : X.drew.heap.size = X.heap.size := rfl; omega)), ((HH2.out.snoc (a := ofKind (k, 0, b, x, y) (k % 6)) rfl rfl HHD.out rfl rfl).bel (BelF.of (w := X) (k := X.heap.size) ⟨hb3.os, hb3.tape, hb3.output, hb3.size, hb3.block⟩ (Nat.le_refl _))).mono fun b h => .inl h⟩)
                have HR1 := Lib.hid (show RdA w3 (F3 w F) AS sf from (HS5.out.bel (BelF.of (w := X) (k := X.heap.size) ⟨hb3.os, hb3.tape, hb3.output, hb3.size, hb3.block⟩ (Nat.le_refl _))).mono fun b h => .inl h)
                have HB3 := Lib.hid (show Below w.heap.size w w3 from HB5.out.trans (Below.mono (B := X.heap.size) ⟨hb3.os, hb3.tape, hb3.output, hb3.size, hb3.block⟩ HB5.out.size))
                have x0 := keepc (W := X.drew) d0 hb3
                have x1 := keepc (W := X.drew) d1 hb3
                have x2 := keepc (W := X.drew) d2 hb3
                have x3 := keepc (W := X.drew) d3 hb3
                have x4 := keepc (W := X.drew) d4 hb3
                have y0 := keepc (W := X.drew) z0 hb3
                have y1 := keepc (W := X.drew) z1 hb3
                have y2 := keepc (W := X.drew) z2 hb3
                have y3 := keepc (W := X.drew) z3 hb3
                have y4 := keepc (W := X.drew) z4 hb3
                have xf : ∀ j, w3.frozen? ⟨w.heap.size, j, none⟩ = false := fun j => (hb3.frozen (show (Addr.mk w.heap.size j none).block < X.drew.heap.size by have := HSZ.out; have h7 : X.drew.heap.size = X.heap.size := rfl; simp only; omega)).trans (dF j)
                have yf : ∀ j, w3.frozen? ⟨w.heap.size + 1 + 1, j, none⟩ = false := fun j => (hb3.frozen (show (Addr.mk (w.heap.size + 1 + 1) j none).block < X.drew.heap.size by have := HSZ.out; have h7 : X.drew.heap.size = X.heap.size := rfl; simp only; omega)).trans (zF j)
                have HN2 := Lib.hid (show nL + 1 = (lo ++ [ofKind (k, 0, b, x, y) (k % 6)]).length by rw [List.length_append, ← HNL.out]; rfl)
                clear ho3 hb3 d0 d1 d2 d3 d4 z0 z1 z2 z3 z4 a1 a2 a3 a4 a0' dF zF HS5 HL5 HV5 HHD HH2 hcopy hh1 hone
                (refine tail.till_take 7 (v := ?_) rfl (by kernel_rfl) (by kernel_rfl) (by kernel_rfl) (by kernel_rfl) (by kernel_rfl) (fun _ _ _ h => h) (by rfl) (by assumption) ?_ ?_; rotate_left 1; (focus (intro X hX; obtain ⟨s1, s2, s3, s4, s5, s6⟩ := hX; go_simp; with_reducible rfl)); (try simp only [Act.put, List.setIfInBounds_toArray, List.set_cons_zero, List.set_cons_succ]))
                refine tail.till_one 8 (by kernel_rfl) rfl (fun K hK => ?_)
                go_simp
                refine hK.out _ _ (fun h => absurd rfl h) ?_
                clear hK K
                refine tail.till_done (by kernel_rfl) ?_ _
                go_wp2_with fail
                refine bodyPost_ret (v := .tuple #[.agg #[.slice AS nS cS, .slice A3 (nL + 1) c3, .int .i64 (0), .bool true, .bool true], .int .i64 0]) ?_ rfl ?_
                · rw [results_cell_tmp rfl]; go_simp; first | done | rfl
                · rw [HDO.out]
                  refine ⟨AS, nS, cS, A3, (nL + 1), c3, rfl, HNS.out, HN2.out, ?_, ?_, ?_⟩
                  · refine RdA.mono ?_ (F3_since w F)
                    repeat (with_reducible refine RdA.setC ?_ (F3_not HF.out (by simp only; omega) (by simp only; omega)) _)
                    exact HR1.out
                  · refine RdA.mono ?_ (F3_since w F)
                    repeat (with_reducible refine RdA.setC ?_ (F3_not HF.out (by simp only; omega) (by simp only; omega)) _)
                    exact HR2.out
                  · repeat (with_reducible refine Below.setCell ?_ (by simp only; omega) _)
                    exact HB3.out
            · intro K hK
              obtain ⟨A2, c2, w2, A3, c3, w3, run1, run2, ho3, hb2, hb3⟩ := order_B (k % 6) 0 x y X.drew hone hcopy hh1 hlen (cL := cL)
              have hbE : Below X.drew.heap.size X.drew (X.drew.alloc (.cells #[] 39)) := (Below.refl _ _).alloc (Nat.le_refl _) _
              have hbR : Below X.drew.heap.size X.drew (X.drew.alloc (.cells #[.int .u8 (k % 6), .int .i64 0, .slice Av m cv, .int .i64 x, .int .i64 y] 39)) := (Below.refl _ _).alloc (Nat.le_refl _) _
              have hbS := hbR
              have hSR : (fun X : World => (X.cell? ⟨w.heap.size, 1, none⟩ = some (.slice AL nL cL) ∧ X.cell? ⟨w.heap.size + 1, 0, none⟩ = some (.int .u8 (k % 6)) ∧ X.cell? ⟨w.heap.size + 1, 1, none⟩ = some (.int .i64 0) ∧ X.cell? ⟨w.heap.size + 1, 2, none⟩ = some (.slice Av m cv) ∧ X.cell? ⟨w.heap.size + 1, 3, none⟩ = some (.int .i64 x) ∧ X.cell? ⟨w.heap.size + 1, 4, none⟩ = some (.int .i64 y))) (X.drew.alloc (.cells #[.int .u8 (k % 6), .int .i64 0, .slice Av m cv, .int .i64 x, .int .i64 y] 39)) := ⟨keepc (W := X.drew) d1 hbS, keepc (W := X.drew) a0' hbS, keepc (W := X.drew) a1 hbS, keepc (W := X.drew) a2 hbS, keepc (W := X.drew) a3 hbS, keepc (W := X.drew) a4 hbS⟩
              clear hbS
              have hbRE : Below X.drew.heap.size X.drew ((X.drew.alloc (.cells #[.int .u8 (k % 6), .int .i64 0, .slice Av m cv, .int .i64 x, .int .i64 y] 39)).alloc (.cells #[] 39)) := hbR.alloc hbR.size _
              have hbS := hbRE
              have hSRE : (fun X : World => (X.cell? ⟨w.heap.size, 1, none⟩ = some (.slice AL nL cL) ∧ X.cell? ⟨w.heap.size + 1, 0, none⟩ = some (.int .u8 (k % 6)) ∧ X.cell? ⟨w.heap.size + 1, 1, none⟩ = some (.int .i64 0) ∧ X.cell? ⟨w.heap.size + 1, 2, none⟩ = some (.slice Av m cv) ∧ X.cell? ⟨w.heap.size + 1, 3, none⟩ = some (.int .i64 x) ∧ X.cell? ⟨w.heap.size + 1, 4, none⟩ = some (.int .i64 y))) ((X.drew.alloc (.cells #[.int .u8 (k % 6), .int .i64 0, .slice Av m cv, .int .i64 x, .int .i64 y] 39)).alloc (.cells #[] 39)) := ⟨keepc (W := X.drew) d1 hbS, keepc (W := X.drew) a0' hbS, keepc (W := X.drew) a1 hbS, keepc (W := X.drew) a2 hbS, keepc (W := X.drew) a3 hbS, keepc (W := X.drew) a4 hbS⟩
              clear hbS
              have hbS := hb2
              have hS2 : (fun X : World => (X.cell? ⟨w.heap.size, 1, none⟩ = some (.slice AL nL cL) ∧ X.cell? ⟨w.heap.size + 1, 0, none⟩ = some (.int .u8 (k % 6)) ∧ X.cell? ⟨w.heap.size + 1, 1, none⟩ = some (.int .i64 0) ∧ X.cell? ⟨w.heap.size + 1, 2, none⟩ = some (.slice Av m cv) ∧ X.cell? ⟨w.heap.size + 1, 3, none⟩ = some (.int .i64 x) ∧ X.cell? ⟨w.heap.size + 1, 4, none⟩ = some (.int .i64 y))) w2 := ⟨keepc (W := X.drew) d1 hbS, keepc (W := X.drew) a0' hbS, keepc (W := X.drew) a1 hbS, keepc (W := X.drew) a2 hbS, keepc (W := X.drew) a3 hbS, keepc (W := X.drew) a4 hbS⟩
              clear hbS
              have hbS := hb3
              have hS3 : (fun X : World => (X.cell? ⟨w.heap.size, 1, none⟩ = some (.slice AL nL cL) ∧ X.cell? ⟨w.heap.size + 1, 0, none⟩ = some (.int .u8 (k % 6)) ∧ X.cell? ⟨w.heap.size + 1, 1, none⟩ = some (.int .i64 0) ∧ X.cell? ⟨w.heap.size + 1, 2, none⟩ = some (.slice Av m cv) ∧ X.cell? ⟨w.heap.size + 1, 3, none⟩ = some (.int .i64 x) ∧ X.cell? ⟨w.heap.size + 1, 4, none⟩ = some (.int .i64 y))) w3 := ⟨keepc (W := X.drew) d1 hbS, keepc (W := X.drew) a0' hbS, keepc (W := X.drew) a1 hbS, keepc (W := X.drew) a2 hbS, keepc (W := X.drew) a3 hbS, keepc (W := X.drew) a4 hbS⟩
              clear hbS
              clear hbRE hb2 hbE hbR
              go_simp
              refine hK.out _ _ (fun _ => hSR) ?_
              clear hK K
              try simp only [Act.put, List.setIfInBounds_toArray, List.set_cons_zero, List.set_cons_succ]
              refine tail.till_one 0 (by kernel_rfl) rfl (fun K hK => ?_)
              go_simp
              refine hK.out _ _ (fun _ => hSRE) ?_
              clear hK K
              try simp only [Act.put, List.setIfInBounds_toArray, List.set_cons_zero, List.set_cons_succ]
              refine tail.till_one 3 (by kernel_rfl) rfl (fun K hK => ?_)
              refine step_append_run rfl rfl rfl rfl run1 ?_
              refine hK.out _ _ (fun _ => hS2) ?_
              clear hK K
              try simp only [Act.put, List.setIfInBounds_toArray, List.set_cons_zero, List.set_cons_succ]
              refine tail.till_one 6 (by kernel_rfl) rfl (fun K hK => ?_)
              refine step_append_run rfl rfl rfl rfl run2 ?_
              refine hK.out _ _ (fun _ => hS3) ?_
              clear hK K
              try simp only [Act.put, List.setIfInBounds_toArray, List.set_cons_zero, List.set_cons_succ]
              clear hSR hS2 hSRE run1 run2
              have HR2 := Lib.hid (show RdA w3 (F3 w F) A3 (lo ++ [ofKind (k, 0, b, x, y) (k % 6)]) from ⟨HLl ++ [(k % 6, 0, .slice Av m cv, x, y)], by rw [List.length_append, ← HNL.out]; exact ReadsF.of_own ho3 (fun b h1 _ => .inr (by have := HSZ.out; have h7 : X.drew.heap.size = X.heap.size := rfl; omega)), ((HH2.out.snoc (a := ofKind (k, 0, b, x, y) (k % 6)) rfl rfl HHD.out rfl rfl).bel (BelF.of (w := X) (k := X.heap.size) ⟨hb3.os, hb3.tape, hb3.output, hb3.size, hb3.block⟩ (Nat.le_refl _))).mono fun b h => .inl h⟩)
              have HR1 := Lib.hid (show RdA w3 (F3 w F) AS sf from (HS5.out.bel (BelF.of (w := X) (k := X.heap.size) ⟨hb3.os, hb3.tape, hb3.output, hb3.size, hb3.block⟩ (Nat.le_refl _))).mono fun b h => .inl h)
              have HB3 := Lib.hid (show Below w.heap.size w w3 from HB5.out.trans (Below.mono (B := X.heap.size) ⟨hb3.os, hb3.tape, hb3.output, hb3.size, hb3.block⟩ HB5.out.size))
              have x0 := keepc (W := X.drew) d0 hb3
              have x1 := keepc (W := X.drew) d1 hb3
              have x2 := keepc (W := X.drew) d2 hb3
              have x3 := keepc (W := X.drew) d3 hb3
              have x4 := keepc (W := X.drew) d4 hb3
              have y0 := keepc (W := X.drew) z0 hb3
              have y1 := keepc (W := X.drew) z1 hb3
              have y2 := keepc (W := X.drew) z2 hb3
              have y3 := keepc (W := X.drew) z3 hb3
              have y4 := keepc (W := X.drew) z4 hb3
              have xf : ∀ j, w3.frozen? ⟨w.heap.size, j, none⟩ = false := fun j => (hb3.frozen (show (Addr.mk w.heap.size j none).block < X.drew.heap.size by have := HSZ.out; have h7 : X.drew.heap.size = X.heap.size := rfl; simp only; omega)).trans (dF j)
              have yf : ∀ j, w3.frozen? ⟨w.heap.size + 1 + 1, j, none⟩ = false := fun j => (hb3.frozen (show (Addr.mk (w.heap.size + 1 + 1) j none).block < X.drew.heap.size by have := HSZ.out; have h7 : X.drew.heap.size = X.heap.size := rfl; simp only; omega)).trans (zF j)
              have HN2 := Lib.hid (show nL + 1 = (lo ++ [ofKind (k, 0, b, x, y) (k % 6)]).length by rw [List.length_append, ← HNL.out]; rfl)
              clear ho3 hb3 d0 d1 d2 d3 d4 z0 z1 z2 z3 z4 a1 a2 a3 a4 a0' dF zF HS5 HL5 HV5 HHD HH2 hcopy hh1 hone
              (refine tail.till_take 7 (v := ?_) rfl (by kernel_rfl) (by kernel_rfl) (by kernel_rfl) (by kernel_rfl) (by kernel_rfl) (fun _ _ _ h => h) (by rfl) (by assumption) ?_ ?_; rotate_left 1; (focus (intro X hX; obtain ⟨s1, s2, s3, s4, s5, s6⟩ := hX; go_simp; with_reducible rfl)); (try simp only [Act.put, List.setIfInBounds_toArray, List.set_cons_zero, List.set_cons_succ]))
              refine tail.till_one 8 (by kernel_rfl) rfl (fun K hK => ?_)
              go_simp
              refine hK.out _ _ (fun h => absurd rfl h) ?_
              clear hK K
              refine tail.till_done (by kernel_rfl) ?_ _
              go_wp2_with fail
              refine bodyPost_ret (v := .tuple #[.agg #[.slice AS nS cS, .slice A3 (nL + 1) c3, .int .i64 (0), .bool true, .bool true], .int .i64 0]) ?_ rfl ?_
              · rw [results_cell_tmp rfl]; go_simp; first | done | rfl
              · rw [HDO.out]
                refine ⟨AS, nS, cS, A3, (nL + 1), c3, rfl, HNS.out, HN2.out, ?_, ?_, ?_⟩
                · refine RdA.mono ?_ (F3_since w F)
                  repeat (with_reducible refine RdA.setC ?_ (F3_not HF.out (by simp only; omega) (by simp only; omega)) _)
                  exact HR1.out
                · refine RdA.mono ?_ (F3_since w F)
                  repeat (with_reducible refine RdA.setC ?_ (F3_not HF.out (by simp only; omega) (by simp only; omega)) _)
                  exact HR2.out
                · repeat (with_reducible refine Below.setCell ?_ (by simp only; omega) _)
                  exact HB3.out
          · obtain ⟨l1, l2⟩ := hlf
            have h2 : ¬ lf - 1 = 0 := by omega
            have h3 : (0 : Int) ≤ lf - 1 := by omega
            have HDO := Lib.hid (show doR ⟨sf, lo, lf, true, false⟩ (k, 0, b, x, y) = (⟨sf, lo ++ [ofKind (k, 0, b, x, y) (k % 6)], lf - 1, true, false⟩, 0) from by unfold doR; simp [q4, q5, q3, e3, countR, h1])
            have e1 : V.heap.size = w.heap.size + 3 := HSV.out
            have hset : ∀ b, b ≠ w.heap.size + 1 → (V.setCell ⟨w.heap.size + 1, 0, none⟩ (.int .u8 (k % 6))).heap[b]? = V.heap[b]? := fun b hb => heap_setCell_other V ⟨w.heap.size + 1, 0, none⟩ b _ (fun e => hb e)
            have Xd0 : (V.setCell ⟨w.heap.size + 1, 0, none⟩ (.int .u8 (k % 6))).cell? ⟨w.heap.size, 0, none⟩ = _ := (World.cell?_of_block (hset _ (by simp only; omega))).trans d0
            have Xd1 : (V.setCell ⟨w.heap.size + 1, 0, none⟩ (.int .u8 (k % 6))).cell? ⟨w.heap.size, 1, none⟩ = _ := (World.cell?_of_block (hset _ (by simp only; omega))).trans d1
            have Xd2 : (V.setCell ⟨w.heap.size + 1, 0, none⟩ (.int .u8 (k % 6))).cell? ⟨w.heap.size, 2, none⟩ = _ := (World.cell?_of_block (hset _ (by simp only; omega))).trans d2
            have Xd3 : (V.setCell ⟨w.heap.size + 1, 0, none⟩ (.int .u8 (k % 6))).cell? ⟨w.heap.size, 3, none⟩ = _ := (World.cell?_of_block (hset _ (by simp only; omega))).trans d3
            have Xd4 : (V.setCell ⟨w.heap.size + 1, 0, none⟩ (.int .u8 (k % 6))).cell? ⟨w.heap.size, 4, none⟩ = _ := (World.cell?_of_block (hset _ (by simp only; omega))).trans d4
            have Xz0 : (V.setCell ⟨w.heap.size + 1, 0, none⟩ (.int .u8 (k % 6))).cell? ⟨w.heap.size + 1 + 1, 0, none⟩ = _ := (World.cell?_of_block (hset _ (by simp only; omega))).trans z0
            have Xz1 : (V.setCell ⟨w.heap.size + 1, 0, none⟩ (.int .u8 (k % 6))).cell? ⟨w.heap.size + 1 + 1, 1, none⟩ = _ := (World.cell?_of_block (hset _ (by simp only; omega))).trans z1
            have Xz2 : (V.setCell ⟨w.heap.size + 1, 0, none⟩ (.int .u8 (k % 6))).cell? ⟨w.heap.size + 1 + 1, 2, none⟩ = _ := (World.cell?_of_block (hset _ (by simp only; omega))).trans z2
            have Xz3 : (V.setCell ⟨w.heap.size + 1, 0, none⟩ (.int .u8 (k % 6))).cell? ⟨w.heap.size + 1 + 1, 3, none⟩ = _ := (World.cell?_of_block (hset _ (by simp only; omega))).trans z3
            have Xz4 : (V.setCell ⟨w.heap.size + 1, 0, none⟩ (.int .u8 (k % 6))).cell? ⟨w.heap.size + 1 + 1, 4, none⟩ = _ := (World.cell?_of_block (hset _ (by simp only; omega))).trans z4
            have a0' : (V.setCell ⟨w.heap.size + 1, 0, none⟩ (.int .u8 (k % 6))).cell? ⟨w.heap.size + 1, 0, none⟩ = some (.int .u8 (k % 6)) := World.cell?_setCell_same V _ _ a0
            have Xa1 : (V.setCell ⟨w.heap.size + 1, 0, none⟩ (.int .u8 (k % 6))).cell? ⟨w.heap.size + 1, 1, none⟩ = _ := (World.cell?_setCell_other V _ _ _ (by simp)).trans a1
            have Xa2 : (V.setCell ⟨w.heap.size + 1, 0, none⟩ (.int .u8 (k % 6))).cell? ⟨w.heap.size + 1, 2, none⟩ = _ := (World.cell?_setCell_other V _ _ _ (by simp)).trans a2
            have Xa3 : (V.setCell ⟨w.heap.size + 1, 0, none⟩ (.int .u8 (k % 6))).cell? ⟨w.heap.size + 1, 3, none⟩ = _ := (World.cell?_setCell_other V _ _ _ (by simp)).trans a3
            have Xa4 : (V.setCell ⟨w.heap.size + 1, 0, none⟩ (.int .u8 (k % 6))).cell? ⟨w.heap.size + 1, 4, none⟩ = _ := (World.cell?_setCell_other V _ _ _ (by simp)).trans a4
            have dF : ∀ j, (V.setCell ⟨w.heap.size + 1, 0, none⟩ (.int .u8 (k % 6))).frozen? ⟨w.heap.size, j, none⟩ = false := fun j => by simpa using df j
            have zF : ∀ j, (V.setCell ⟨w.heap.size + 1, 0, none⟩ (.int .u8 (k % 6))).frozen? ⟨w.heap.size + 1 + 1, j, none⟩ = false := fun j => by simpa using zf j
            have hnF : ¬ F (w.heap.size + 1) := fun h => by have := HF.out _ h; omega
            have HS5 := Lib.hid (show RdA (V.setCell ⟨w.heap.size + 1, 0, none⟩ (.int .u8 (k % 6))) F AS sf from HS4.out.setC hnF _)
            have HL5 := Lib.hid (show RdA (V.setCell ⟨w.heap.size + 1, 0, none⟩ (.int .u8 (k % 6))) F AL lo from HL4.out.setC hnF _)
            have HV5 := Lib.hid (show RdF (V.setCell ⟨w.heap.size + 1, 0, none⟩ (.int .u8 (k % 6))) F Av b from HV4.out.bel ((BelF.refl F V).setCell hnF _))
            have HB5 := Lib.hid (show Below w.heap.size w (V.setCell ⟨w.heap.size + 1, 0, none⟩ (.int .u8 (k % 6))) from HBV.out.setCell (by simp only; omega) _)
            have HSZ := Lib.hid (show (V.setCell ⟨w.heap.size + 1, 0, none⟩ (.int .u8 (k % 6))).heap.size = w.heap.size + 3 by simpa using e1)
            clear e1 hset hnF HS4 HL4 HV4 HBV HSV HS3 HL3
            go_wp2_with fail
            generalize V.setCell ⟨w.heap.size + 1, 0, none⟩ (.int .u8 (k % 6)) = X at *
            replace d0 := Xd0
            replace d1 := Xd1
            replace d2 := Xd2
            replace d3 := Xd3
            replace d4 := Xd4
            replace z0 := Xz0
            replace z1 := Xz1
            replace z2 := Xz2
            replace z3 := Xz3
            replace z4 := Xz4
            replace a1 := Xa1
            replace a2 := Xa2
            replace a3 := Xa3
            replace a4 := Xa4
            clear Xd0 Xd1 Xd2 Xd3 Xd4 Xz0 Xz1 Xz2 Xz3 Xz4 Xa1 Xa2 Xa3 Xa4 df zf af a0
            obtain ⟨HLl, hL1, hL2⟩ := HL5.out
            rw [← HNL.out] at hL1
            have hone : Value.oneCell' (.slice Av m cv) = true := rfl
            have hcopy : Reads X.drew X.drew.heap.size 5 AL nL (acV HLl) := hL1.rd
            have hh1 := holdA_one hL2
            have hlen : nL ≤ 1000000000 := by have := HLL.out; have := HNL.out; omega
            have HHD := Lib.hid (show HdF X F (.slice Av m cv) b from ⟨Av, cv, by rw [HM.out], HV5.out, by rw [← HM.out]; exact hcv⟩)
            have HH2 := Lib.hid hL2
            have hS0 : (fun X : World => (X.cell? ⟨w.heap.size, 1, none⟩ = some (.slice AL nL cL) ∧ X.cell? ⟨w.heap.size + 1, 0, none⟩ = some (.int .u8 (k % 6)) ∧ X.cell? ⟨w.heap.size + 1, 1, none⟩ = some (.int .i64 0) ∧ X.cell? ⟨w.heap.size + 1, 2, none⟩ = some (.slice Av m cv) ∧ X.cell? ⟨w.heap.size + 1, 3, none⟩ = some (.int .i64 x) ∧ X.cell? ⟨w.heap.size + 1, 4, none⟩ = some (.int .i64 y))) X.drew := ⟨d1, a0', a1, a2, a3, a4⟩
            refine tail.wp_region_till 8 (fun X => (X.cell? ⟨w.heap.size, 1, none⟩ = some (.slice AL nL cL) ∧ X.cell? ⟨w.heap.size + 1, 0, none⟩ = some (.int .u8 (k % 6)) ∧ X.cell? ⟨w.heap.size + 1, 1, none⟩ = some (.int .i64 0) ∧ X.cell? ⟨w.heap.size + 1, 2, none⟩ = some (.slice Av m cv) ∧ X.cell? ⟨w.heap.size + 1, 3, none⟩ = some (.int .i64 x) ∧ X.cell? ⟨w.heap.size + 1, 4, none⟩ = some (.int .i64 y))) (by kernel_rfl) ?_
            (refine tail.till_take 1 (v := ?_) rfl (by kernel_rfl) (by kernel_rfl) (by kernel_rfl) (by kernel_rfl) (by kernel_rfl) (fun _ _ _ h => h) (by rfl) (by assumption) ?_ ?_; rotate_left 1; (focus (intro X hX; obtain ⟨s1, s2, s3, s4, s5, s6⟩ := hX; go_simp; with_reducible rfl)); (try simp only [Act.put, List.setIfInBounds_toArray, List.set_cons_zero, List.set_cons_succ]))
            (refine tail.till_take 2 (v := ?_) rfl (by kernel_rfl) (by kernel_rfl) (by kernel_rfl) (by kernel_rfl) (by kernel_rfl) (fun _ _ _ h => h) (by rfl) (by assumption) ?_ ?_; rotate_left 1; (focus (intro X hX; obtain ⟨s1, s2, s3, s4, s5, s6⟩ := hX; go_simp; with_reducible rfl)); (try simp only [Act.put, List.setIfInBounds_toArray, List.set_cons_zero, List.set_cons_succ]))
            (refine tail.till_take 4 (v := ?_) rfl (by kernel_rfl) (by kernel_rfl) (by kernel_rfl) (by kernel_rfl) (by kernel_rfl) (fun _ _ _ h => h) (by rfl) (by assumption) ?_ ?_; rotate_left 1; (focus (intro X hX; obtain ⟨s1, s2, s3, s4, s5, s6⟩ := hX; go_simp; with_reducible rfl)); (try simp only [Act.put, List.setIfInBounds_toArray, List.set_cons_zero, List.set_cons_succ]))
            refine tail.till_two 0 5 (by kernel_rfl) rfl rfl ?_ ?_
            · intro K hK
              have hbE : Below X.drew.heap.size X.drew (X.drew.alloc (.cells #[] 39)) := (Below.refl _ _).alloc (Nat.le_refl _) _
              have hbS := hbE
              have hSE : (fun X : World => (X.cell? ⟨w.heap.size, 1, none⟩ = some (.slice AL nL cL) ∧ X.cell? ⟨w.heap.size + 1, 0, none⟩ = some (.int .u8 (k % 6)) ∧ X.cell? ⟨w.heap.size + 1, 1, none⟩ = some (.int .i64 0) ∧ X.cell? ⟨w.heap.size + 1, 2, none⟩ = some (.slice Av m cv) ∧ X.cell? ⟨w.heap.size + 1, 3, none⟩ = some (.int .i64 x) ∧ X.cell? ⟨w.heap.size + 1, 4, none⟩ = some (.int .i64 y))) (X.drew.alloc (.cells #[] 39)) := ⟨keepc (W := X.drew) d1 hbS, keepc (W := X.drew) a0' hbS, keepc (W := X.drew) a1 hbS, keepc (W := X.drew) a2 hbS, keepc (W := X.drew) a3 hbS, keepc (W := X.drew) a4 hbS⟩
              clear hbS
              go_simp
              refine hK.out _ _ (fun _ => hSE) ?_
              clear hK K
              try simp only [Act.put, List.setIfInBounds_toArray, List.set_cons_zero, List.set_cons_succ]
              refine tail.till_two 3 5 (by kernel_rfl) rfl rfl ?_ ?_
              · intro K hK
                obtain ⟨A2, c2, w2, A3, c3, w3, run1, run2, ho3, hb2, hb3⟩ := order_A1 (k % 6) 0 x y X.drew hone hcopy hh1 hlen (cL := cL)
                have hbE : Below X.drew.heap.size X.drew (X.drew.alloc (.cells #[] 39)) := (Below.refl _ _).alloc (Nat.le_refl _) _
                have hbR : Below X.drew.heap.size X.drew (X.drew.alloc (.cells #[.int .u8 (k % 6), .int .i64 0, .slice Av m cv, .int .i64 x, .int .i64 y] 39)) := (Below.refl _ _).alloc (Nat.le_refl _) _
                have hbS := hb2
                have hS2 : (fun X : World => (X.cell? ⟨w.heap.size, 1, none⟩ = some (.slice AL nL cL) ∧ X.cell? ⟨w.heap.size + 1, 0, none⟩ = some (.int .u8 (k % 6)) ∧ X.cell? ⟨w.heap.size + 1, 1, none⟩ = some (.int .i64 0) ∧ X.cell? ⟨w.heap.size + 1, 2, none⟩ = some (.slice Av m cv) ∧ X.cell? ⟨w.heap.size + 1, 3, none⟩ = some (.int .i64 x) ∧ X.cell? ⟨w.heap.size + 1, 4, none⟩ = some (.int .i64 y))) w2 := ⟨keepc (W := X.drew) d1 hbS, keepc (W := X.drew) a0' hbS, keepc (W := X.drew) a1 hbS, keepc (W := X.drew) a2 hbS, keepc (W := X.drew) a3 hbS, keepc (W := X.drew) a4 hbS⟩
                clear hbS
                have hb2R : Below X.drew.heap.size X.drew (w2.alloc (.cells #[.int .u8 (k % 6), .int .i64 0, .slice Av m cv, .int .i64 x, .int .i64 y] 39)) := hb2.alloc hb2.size _
                have hbS := hb2R
                have hS2R : (fun X : World => (X.cell? ⟨w.heap.size, 1, none⟩ = some (.slice AL nL cL) ∧ X.cell? ⟨w.heap.size + 1, 0, none⟩ = some (.int .u8 (k % 6)) ∧ X.cell? ⟨w.heap.size + 1, 1, none⟩ = some (.int .i64 0) ∧ X.cell? ⟨w.heap.size + 1, 2, none⟩ = some (.slice Av m cv) ∧ X.cell? ⟨w.heap.size + 1, 3, none⟩ = some (.int .i64 x) ∧ X.cell? ⟨w.heap.size + 1, 4, none⟩ = some (.int .i64 y))) (w2.alloc (.cells #[.int .u8 (k % 6), .int .i64 0, .slice Av m cv, .int .i64 x, .int .i64 y] 39)) := ⟨keepc (W := X.drew) d1 hbS, keepc (W := X.drew) a0' hbS, keepc (W := X.drew) a1 hbS, keepc (W := X.drew) a2 hbS, keepc (W := X.drew) a3 hbS, keepc (W := X.drew) a4 hbS⟩
                clear hbS
                have hbS := hb3
                have hS3 : (fun X : World => (X.cell? ⟨w.heap.size, 1, none⟩ = some (.slice AL nL cL) ∧ X.cell? ⟨w.heap.size + 1, 0, none⟩ = some (.int .u8 (k % 6)) ∧ X.cell? ⟨w.heap.size + 1, 1, none⟩ = some (.int .i64 0) ∧ X.cell? ⟨w.heap.size + 1, 2, none⟩ = some (.slice Av m cv) ∧ X.cell? ⟨w.heap.size + 1, 3, none⟩ = some (.int .i64 x) ∧ X.cell? ⟨w.heap.size + 1, 4, none⟩ = some (.int .i64 y))) w3 := ⟨keepc (W := X.drew) d1 hbS, keepc (W := X.drew) a0' hbS, keepc (W := X.drew) a1 hbS, keepc (W := X.drew) a2 hbS, keepc (W := X.drew) a3 hbS, keepc (W := X.drew) a4 hbS⟩
                clear hbS
                clear hb2R hb2 hbE hbR
                refine step_append_run rfl rfl rfl rfl run1 ?_
                refine hK.out _ _ (fun _ => hS2) ?_
                clear hK K
                try simp only [Act.put, List.setIfInBounds_toArray, List.set_cons_zero, List.set_cons_succ]
                refine tail.till_one 5 (by kernel_rfl) rfl (fun K hK => ?_)
                go_simp
                refine hK.out _ _ (fun _ => hS2R) ?_
                clear hK K
                try simp only [Act.put, List.setIfInBounds_toArray, List.set_cons_zero, List.set_cons_succ]
                refine tail.till_one 6 (by kernel_rfl) rfl (fun K hK => ?_)
                refine step_append_run rfl rfl rfl rfl run2 ?_
                refine hK.out _ _ (fun _ => hS3) ?_
                clear hK K
                try simp only [Act.put, List.setIfInBounds_toArray, List.set_cons_zero, List.set_cons_succ]
                clear hSE hS2 hS2R run1 run2
                have HR2 := Lib.hid (show RdA w3 (F3 w F) A3 (lo ++ [ofKind (k, 0, b, x, y) (k % 6)]) from ⟨HLl ++ [(k % 6, 0, .slice Av m cv, x, y)], by rw [List.length_append, ← HNL.out]; exact ReadsF.of_own ho3 (fun b h1 _ => .inr (by have := HSZ.out; have h7 : X.drew.heap.size = X.heap.size := rfl; omega)), ((HH2.out.snoc (a := ofKind (k, 0, b, x, y) (k % 6)) rfl rfl HHD.out rfl rfl).bel (BelF.of (w := X) (k := X.heap.size) ⟨hb3.os, hb3.tape, hb3.output, hb3.size, hb3.block⟩ (Nat.le_refl _))).mono fun b h => .inl h⟩)
                have HR1 := Lib.hid (show RdA w3 (F3 w F) AS sf from (HS5.out.bel (BelF.of (w := X) (k := X.heap.size) ⟨hb3.os, hb3.tape, hb3.output, hb3.size, hb3.block⟩ (Nat.le_refl _))).mono fun b h => .inl h)
                have HB3 := Lib.hid (show Below w.heap.size w w3 from HB5.out.trans (Below.mono (B := X.heap.size) ⟨hb3.os, hb3.tape, hb3.output, hb3.size, hb3.block⟩ HB5.out.size))
                have x0 := keepc (W := X.drew) d0 hb3
                have x1 := keepc (W := X.drew) d1 hb3
                have x2 := keepc (W := X.drew) d2 hb3
                have x3 := keepc (W := X.drew) d3 hb3
                have x4 := keepc (W := X.drew) d4 hb3
                have y0 := keepc (W := X.drew) z0 hb3
                have y1 := keepc (W := X.drew) z1 hb3
                have y2 := keepc (W := X.drew) z2 hb3
                have y3 := keepc (W := X.drew) z3 hb3
                have y4 := keepc (W := X.drew) z4 hb3
                have xf : ∀ j, w3.frozen? ⟨w.heap.size, j, none⟩ = false := fun j => (hb3.frozen (show (Addr.mk w.heap.size j none).block < X.drew.heap.size by have := HSZ.out; have h7 : X.drew.heap.size = X.heap.size := rfl; simp only; omega)).trans (dF j)
                have yf : ∀ j, w3.frozen? ⟨w.heap.size + 1 + 1, j, none⟩ = false := fun j => (hb3.frozen (show (Addr.mk (w.heap.size + 1 + 1) j none).block < X.drew.heap.size by have := HSZ.out; have h7 : X.drew.heap.size = X.heap.size := rfl; simp only; omega)).trans (zF j)
                have HN2 := Lib.hid (show nL + 1 = (lo ++ [ofKind (k, 0, b, x, y) (k % 6)]).length by rw [List.length_append, ← HNL.out]; rfl)
                clear ho3 hb3 d0 d1 d2 d3 d4 z0 z1 z2 z3 z4 a1 a2 a3 a4 a0' dF zF HS5 HL5 HV5 HHD HH2 hcopy hh1 hone
                (refine tail.till_take 7 (v := ?_) rfl (by kernel_rfl) (by kernel_rfl) (by kernel_rfl) (by kernel_rfl) (by kernel_rfl) (fun _ _ _ h => h) (by rfl) (by assumption) ?_ ?_; rotate_left 1; (focus (intro X hX; obtain ⟨s1, s2, s3, s4, s5, s6⟩ := hX; go_simp; with_reducible rfl)); (try simp only [Act.put, List.setIfInBounds_toArray, List.set_cons_zero, List.set_cons_succ]))
                refine tail.till_one 8 (by kernel_rfl) rfl (fun K hK => ?_)
                go_simp
                refine hK.out _ _ (fun h => absurd rfl h) ?_
                clear hK K
                refine tail.till_done (by kernel_rfl) ?_ _
                go_wp2_with fail
                refine bodyPost_ret (v := .tuple #[.agg #[.slice AS nS cS, .slice A3 (nL + 1) c3, .int .i64 (lf - 1), .bool true, .bool false], .int .i64 0]) ?_ rfl ?_
                · rw [results_cell_tmp rfl]; go_simp; first | done | rfl
                · rw [HDO.out]
                  refine ⟨AS, nS, cS, A3, (nL + 1), c3, rfl, HNS.out, HN2.out, ?_, ?_, ?_⟩
                  · refine RdA.mono ?_ (F3_since w F)
                    repeat (with_reducible refine RdA.setC ?_ (F3_not HF.out (by simp only; omega) (by simp only; omega)) _)
                    exact HR1.out
                  · refine RdA.mono ?_ (F3_since w F)
                    repeat (with_reducible refine RdA.setC ?_ (F3_not HF.out (by simp only; omega) (by simp only; omega)) _)
                    exact HR2.out
                  · repeat (with_reducible refine Below.setCell ?_ (by simp only; omega) _)
                    exact HB3.out
              · intro K hK
                obtain ⟨A2, c2, w2, A3, c3, w3, run1, run2, ho3, hb2, hb3⟩ := order_A2 (k % 6) 0 x y X.drew hone hcopy hh1 hlen (cL := cL)
                have hbE : Below X.drew.heap.size X.drew (X.drew.alloc (.cells #[] 39)) := (Below.refl _ _).alloc (Nat.le_refl _) _
                have hbR : Below X.drew.heap.size X.drew (X.drew.alloc (.cells #[.int .u8 (k % 6), .int .i64 0, .slice Av m cv, .int .i64 x, .int .i64 y] 39)) := (Below.refl _ _).alloc (Nat.le_refl _) _
                have hbER : Below X.drew.heap.size X.drew ((X.drew.alloc (.cells #[] 39)).alloc (.cells #[.int .u8 (k % 6), .int .i64 0, .slice Av m cv, .int .i64 x, .int .i64 y] 39)) := hbE.alloc hbE.size _
                have hbS := hbER
                have hSER : (fun X : World => (X.cell? ⟨w.heap.size, 1, none⟩ = some (.slice AL nL cL) ∧ X.cell? ⟨w.heap.size + 1, 0, none⟩ = some (.int .u8 (k % 6)) ∧ X.cell? ⟨w.heap.size + 1, 1, none⟩ = some (.int .i64 0) ∧ X.cell? ⟨w.heap.size + 1, 2, none⟩ = some (.slice Av m cv) ∧ X.cell? ⟨w.heap.size + 1, 3, none⟩ = some (.int .i64 x) ∧ X.cell? ⟨w.heap.size + 1, 4, none⟩ = some (.int .i64 y))) ((X.drew.alloc (.cells #[] 39)).alloc (.cells #[.int .u8 (k % 6), .int .i64 0, .slice Av m cv, .int .i64 x, .int .i64 y] 39)) := ⟨keepc (W := X.drew) d1 hbS, keepc (W := X.drew) a0' hbS, keepc (W := X.drew) a1 hbS, keepc (W := X.drew) a2 hbS, keepc (W := X.drew) a3 hbS, keepc (W := X.drew) a4 hbS⟩
                clear hbS
                have hbS := hb2
                have hS2 : (fun X : World => (X.cell? ⟨w.heap.size, 1, none⟩ = some (.slice AL nL cL) ∧ X.cell? ⟨w.heap.size + 1, 0, none⟩ = some (.int .u8 (k % 6)) ∧ X.cell? ⟨w.heap.size + 1, 1, none⟩ = some (.int .i64 0) ∧ X.cell? ⟨w.heap.size + 1, 2, none⟩ = some (.slice Av m cv) ∧ X.cell? ⟨w.heap.size + 1, 3, none⟩ = some (.int .i64 x) ∧ X.cell? ⟨w.heap.size + 1, 4, none⟩ = some (.int .i64 y))) w2 := ⟨keepc (W := X.drew) d1 hbS, keepc (W := X.drew) a0' hbS, keepc (W := X.drew) a1 hbS, keepc (W := X.drew) a2 hbS, keepc (W := X.drew) a3 hbS, keepc (W := X.drew) a4 hbS⟩
                clear hbS
                have hbS := hb3
                have hS3 : (fun X : World => (X.cell? ⟨w.heap.size, 1, none⟩ = some (.slice AL nL cL) ∧ X.cell? ⟨w.heap.size + 1, 0, none⟩ = some (.int .u8 (k % 6)) ∧ X.cell? ⟨w.heap.size + 1, 1, none⟩ = some (.int .i64 0) ∧ X.cell? ⟨w.heap.size + 1, 2, none⟩ = some (.slice Av m cv) ∧ X.cell? ⟨w.heap.size + 1, 3, none⟩ = some (.int .i64 x) ∧ X.cell? ⟨w.heap.size + 1, 4, none⟩ = some (.int .i64 y))) w3 := ⟨keepc (W := X.drew) d1 hbS, keepc (W := X.drew) a0' hbS, keepc (W := X.drew) a1 hbS, keepc (W := X.drew) a2 hbS, keepc (W := X.drew) a3 hbS, keepc (W := X.drew) a4 hbS⟩
                clear hbS
                clear hbER hb2 hbE hbR
                go_simp
                refine hK.out _ _ (fun _ => hSER) ?_
                clear hK K
                try simp only [Act.put, List.setIfInBounds_toArray, List.set_cons_zero, List.set_cons_succ]
                refine tail.till_one 3 (by kernel_rfl) rfl (fun K hK => ?_)
                refine step_append_run rfl rfl rfl rfl run1 ?_
                refine hK.out _ _ (fun _ => hS2) ?_
                clear hK K
                try simp only [Act.put, List.setIfInBounds_toArray, List.set_cons_zero, List.set_cons_succ]
                refine tail.till_one 6 (by kernel_rfl) rfl (fun K hK => ?_)
                refine step_append_run rfl rfl rfl rfl run2 ?_
                refine hK.out _ _ (fun _ => hS3) ?_
                clear hK K
                try simp only [Act.put, List.setIfInBounds_toArray, List.set_cons_zero, List.set_cons_succ]
                clear hSE hS2 hSER run1 run2
                have HR2 := Lib.hid (show RdA w3 (F3 w F) A3 (lo ++ [ofKind (k, 0, b, x, y) (k % 6)]) from ⟨HLl ++ [(k % 6, 0, .slice Av m cv, x, y)], by rw [List.length_append, ← HNL.out]; exact ReadsF.of_own ho3 (fun b h1 _ => .inr (by have := HSZ.out; have h7 : X.drew.heap.size = X.heap.size := rfl; omega)), ((HH2.out.snoc (a := ofKind (k, 0, b, x, y) (k % 6)) rfl rfl HHD.out rfl rfl).bel (BelF.of (w := X) (k := X.heap.size) ⟨hb3.os, hb3.tape, hb3.output, hb3.size, hb3.block⟩ (Nat.le_refl _))).mono fun b h => .inl h⟩)
                have HR1 := Lib.hid (show RdA w3 (F3 w F) AS sf from (HS5.out.bel (BelF.of (w := X) (k := X.heap.size) ⟨hb3.os, hb3.tape, hb3.output, hb3.size, hb3.block⟩ (Nat.le_refl _))).mono fun b h => .inl h)
                have HB3 := Lib.hid (show Below w.heap.size w w3 from HB5.out.trans (Below.mono (B := X.heap.size) ⟨hb3.os, hb3.tape, hb3.output, hb3.size, hb3.block⟩ HB5.out.size))
                have x0 := keepc (W := X.drew) d0 hb3
                have x1 := keepc (W := X.drew) d1 hb3
                have x2 := keepc (W := X.drew) d2 hb3
                have x3 := keepc (W := X.drew) d3 hb3
                have x4 := keepc (W := X.drew) d4 hb3
                have y0 := keepc (W := X.drew) z0 hb3
                have y1 := keepc (W := X.drew) z1 hb3
                have y2 := keepc (W := X.drew) z2 hb3
                have y3 := keepc (W := X.drew) z3 hb3
                have y4 := keepc (W := X.drew) z4 hb3
                have xf : ∀ j, w3.frozen? ⟨w.heap.size, j, none⟩ = false := fun j => (hb3.frozen (show (Addr.mk w.heap.size j none).block < X.drew.heap.size by have := HSZ.out; have h7 : X.drew.heap.size = X.heap.size := rfl; simp only; omega)).trans (dF j)
                have yf : ∀ j, w3.frozen? ⟨w.heap.size + 1 + 1, j, none⟩ = false := fun j => (hb3.frozen (show (Addr.mk (w.heap.size + 1 + 1) j none).block < X.drew.heap.size by have := HSZ.out; have h7 : X.drew.heap.size = X.heap.size := rfl; simp only; omega)).trans (zF j)
                have HN2 := Lib.hid (show nL + 1 = (lo ++ [ofKind (k, 0, b, x, y) (k % 6)]).length by rw [List.length_append, ← HNL.out]; rfl)
                clear ho3 hb3 d0 d1 d2 d3 d4 z0 z1 z2 z3 z4 a1 a2 a3 a4 a0' dF zF HS5 HL5 HV5 HHD HH2 hcopy hh1 hone
                (refine tail.till_take 7 (v := ?_) rfl (by kernel_rfl) (by kernel_rfl) (by kernel_rfl) (by kernel_rfl) (by kernel_rfl) (fun _ _ _ h => h) (by rfl) (by assumption) ?_ ?_; rotate_left 1; (focus (intro X hX; obtain ⟨s1, s2, s3, s4, s5, s6⟩ := hX; go_simp; with_reducible rfl)); (try simp only [Act.put, List.setIfInBounds_toArray, List.set_cons_zero, List.set_cons_succ]))
                refine tail.till_one 8 (by kernel_rfl) rfl (fun K hK => ?_)
                go_simp
                refine hK.out _ _ (fun h => absurd rfl h) ?_
                clear hK K
                refine tail.till_done (by kernel_rfl) ?_ _
                go_wp2_with fail
                refine bodyPost_ret (v := .tuple #[.agg #[.slice AS nS cS, .slice A3 (nL + 1) c3, .int .i64 (lf - 1), .bool true, .bool false], .int .i64 0]) ?_ rfl ?_
                · rw [results_cell_tmp rfl]; go_simp; first | done | rfl
                · rw [HDO.out]
                  refine ⟨AS, nS, cS, A3, (nL + 1), c3, rfl, HNS.out, HN2.out, ?_, ?_, ?_⟩
                  · refine RdA.mono ?_ (F3_since w F)
                    repeat (with_reducible refine RdA.setC ?_ (F3_not HF.out (by simp only; omega) (by simp only; omega)) _)
                    exact HR1.out
                  · refine RdA.mono ?_ (F3_since w F)
                    repeat (with_reducible refine RdA.setC ?_ (F3_not HF.out (by simp only; omega) (by simp only; omega)) _)
                    exact HR2.out
                  · repeat (with_reducible refine Below.setCell ?_ (by simp only; omega) _)
                    exact HB3.out
            · intro K hK
              obtain ⟨A2, c2, w2, A3, c3, w3, run1, run2, ho3, hb2, hb3⟩ := order_B (k % 6) 0 x y X.drew hone hcopy hh1 hlen (cL := cL)
              have hbE : Below X.drew.heap.size X.drew (X.drew.alloc (.cells #[] 39)) := (Below.refl _ _).alloc (Nat.le_refl _) _
              have hbR : Below X.drew.heap.size X.drew (X.drew.alloc (.cells #[.int .u8 (k % 6), .int .i64 0, .slice Av m cv, .int .i64 x, .int .i64 y] 39)) := (Below.refl _ _).alloc (Nat.le_refl _) _
              have hbS := hbR
              have hSR : (fun X : World => (X.cell? ⟨w.heap.size, 1, none⟩ = some (.slice AL nL cL) ∧ X.cell? ⟨w.heap.size + 1, 0, none⟩ = some (.int .u8 (k % 6)) ∧ X.cell? ⟨w.heap.size + 1, 1, none⟩ = some (.int .i64 0) ∧ X.cell? ⟨w.heap.size + 1, 2, none⟩ = some (.slice Av m cv) ∧ X.cell? ⟨w.heap.size + 1, 3, none⟩ = some (.int .i64 x) ∧ X.cell? ⟨w.heap.size + 1, 4, none⟩ = some (.int .i64 y))) (X.drew.alloc (.cells #[.int .u8 (k % 6), .int .i64 0, .slice Av m cv, .int .i64 x, .int .i64 y] 39)) := ⟨keepc (W := X.drew) d1 hbS, keepc (W := X.drew) a0' hbS, keepc (W := X.drew) a1 hbS, keepc (W := X.drew) a2 hbS, keepc (W := X.drew) a3 hbS, keepc (W := X.drew) a4 hbS⟩
              clear hbS
              have hbRE : Below X.drew.heap.size X.drew ((X.drew.alloc (.cells #[.int .u8 (k % 6), .int .i64 0, .slice Av m cv, .int .i64 x, .int .i64 y] 39)).alloc (.cells #[] 39)) := hbR.alloc hbR.size _
              have hbS := hbRE
              have hSRE : (fun X : World => (X.cell? ⟨w.heap.size, 1, none⟩ = some (.slice AL nL cL) ∧ X.cell? ⟨w.heap.size + 1, 0, none⟩ = some (.int .u8 (k % 6)) ∧ X.cell? ⟨w.heap.size + 1, 1, none⟩ = some (.int .i64 0) ∧ X.cell? ⟨w.heap.size + 1, 2, none⟩ = some (.slice Av m cv) ∧ X.cell? ⟨w.heap.size + 1, 3, none⟩ = some (.int .i64 x) ∧ X.cell? ⟨w.heap.size + 1, 4, none⟩ = some (.int .i64 y))) ((X.drew.alloc (.cells #[.int .u8 (k % 6), .int .i64 0, .slice Av m cv, .int .i64 x, .int .i64 y] 39)).alloc (.cells #[] 39)) := ⟨keepc (W := X.drew) d1 hbS, keepc (W := X.drew) a0' hbS, keepc (W := X.drew) a1 hbS, keepc (W := X.drew) a2 hbS, keepc (W := X.drew) a3 hbS, keepc (W := X.drew) a4 hbS⟩
              clear hbS
              have hbS := hb2
              have hS2 : (fun X : World => (X.cell? ⟨w.heap.size, 1, none⟩ = some (.slice AL nL cL) ∧ X.cell? ⟨w.heap.size + 1, 0, none⟩ = some (.int .u8 (k % 6)) ∧ X.cell? ⟨w.heap.size + 1, 1, none⟩ = some (.int .i64 0) ∧ X.cell? ⟨w.heap.size + 1, 2, none⟩ = some (.slice Av m cv) ∧ X.cell? ⟨w.heap.size + 1, 3, none⟩ = some (.int .i64 x) ∧ X.cell? ⟨w.heap.size + 1, 4, none⟩ = some (.int .i64 y))) w2 := ⟨keepc (W := X.drew) d1 hbS, keepc (W := X.drew) a0' hbS, keepc (W := X.drew) a1 hbS, keepc (W := X.drew) a2 hbS, keepc (W := X.drew) a3 hbS, keepc (W := X.drew) a4 hbS⟩
              clear hbS
              have hbS := hb3
              have hS3 : (fun X : World => (X.cell? ⟨w.heap.size, 1, none⟩ = some (.slice AL nL cL) ∧ X.cell? ⟨w.heap.size + 1, 0, none⟩ = some (.int .u8 (k % 6)) ∧ X.cell? ⟨w.heap.size + 1, 1, none⟩ = some (.int .i64 0) ∧ X.cell? ⟨w.heap.size + 1, 2, none⟩ = some (.slice Av m cv) ∧ X.cell? ⟨w.heap.size + 1, 3, none⟩ = some (.int .i64 x) ∧ X.cell? ⟨w.heap.size + 1, 4, none⟩ = some (.int .i64 y))) w3 := ⟨keepc (W := X.drew) d1 hbS, keepc (W := X.drew) a0' hbS, keepc (W := X.drew) a1 hbS, keepc (W := X.drew) a2 hbS, keepc (W := X.drew) a3 hbS, keepc (W := X.drew) a4 hbS⟩
              clear hbS
              clear hbRE hb2 hbE hbR
              go_simp
              refine hK.out _ _ (fun _ => hSR) ?_
              clear hK K
              try simp only [Act.put, List.setIfInBounds_toArray, List.set_cons_zero, List.set_cons_succ]
              refine tail.till_one 0 (by kernel_rfl) rfl (fun K hK => ?_)
              go_simp
              refine hK.out _ _ (fun _ => hSRE) ?_
              clear hK K
              try simp only [Act.put, List.setIfInBounds_toArray, List.set_cons_zero, List.set_cons_succ]
              refine tail.till_one 3 (by kernel_rfl) rfl (fun K hK => ?_)
              refine step_append_run rfl rfl rfl rfl run1 ?_
              refine hK.out _ _ (fun _ => hS2) ?_
              clear hK K
              try simp only [Act.put, List.setIfInBounds_toArray, List.set_cons_zero, List.set_cons_succ]
              refine tail.till_one 6 (by kernel_rfl) rfl (fun K hK => ?_)
              refine step_append_run rfl rfl rfl rfl run2 ?_
              refine hK.out _ _ (fun _ => hS3) ?_
              clear hK K
              try simp only [Act.put, List.setIfInBounds_toArray, List.set_cons_zero, List.set_cons_succ]
              clear hSR hS2 hSRE run1 run2
              have HR2 := Lib.hid (show RdA w3 (F3 w F) A3 (lo ++ [ofKind (k, 0, b, x, y) (k % 6)]) from ⟨HLl ++ [(k % 6, 0, .slice Av m cv, x, y)], by rw [List.length_append, ← HNL.out]; exact ReadsF.of_own ho3 (fun b h1 _ => .inr (by have := HSZ.out; have h7 : X.drew.heap.size = X.heap.size := rfl; omega)), ((HH2.out.snoc (a := ofKind (k, 0, b, x, y) (k % 6)) rfl rfl HHD.out rfl rfl).bel (BelF.of (w := X) (k := X.heap.size) ⟨hb3.os, hb3.tape, hb3.output, hb3.size, hb3.block⟩ (Nat.le_refl _))).mono fun b h => .inl h⟩)
              have HR1 := Lib.hid (show RdA w3 (F3 w F) AS sf from (HS5.out.bel (BelF.of (w := X) (k := X.heap.size) ⟨hb3.os, hb3.tape, hb3.output, hb3.size, hb3.block⟩ (Nat.le_refl _))).mono fun b h => .inl h)
              have HB3 := Lib.hid (show Below w.heap.size w w3 from HB5.out.trans (Below.mono (B := X.heap.size) ⟨hb3.os, hb3.tape, hb3.output, hb3.size, hb3.block⟩ HB5.out.size))
              have x0 := keepc (W := X.drew) d0 hb3
              have x1 := keepc (W := X.drew) d1 hb3
              have x2 := keepc (W := X.drew) d2 hb3
              have x3 := keepc (W := X.drew) d3 hb3
              have x4 := keepc (W := X.drew) d4 hb3
              have y0 := keepc (W := X.drew) z0 hb3
              have y1 := keepc (W := X.drew) z1 hb3
              have y2 := keepc (W := X.drew) z2 hb3
              have y3 := keepc (W := X.drew) z3 hb3
              have y4 := keepc (W := X.drew) z4 hb3
              have xf : ∀ j, w3.frozen? ⟨w.heap.size, j, none⟩ = false := fun j => (hb3.frozen (show (Addr.mk w.heap.size j none).block < X.drew.heap.size by have := HSZ.out; have h7 : X.drew.heap.size = X.heap.size := rfl; simp only; omega)).trans (dF j)
              have yf : ∀ j, w3.frozen? ⟨w.heap.size + 1 + 1, j, none⟩ = false := fun j => (hb3.frozen (show (Addr.mk (w.heap.size + 1 + 1) j none).block < X.drew.heap.size by have := HSZ.out; have h7 : X.drew.heap.size = X.heap.size := rfl; simp only; omega)).trans (zF j)
              have HN2 := Lib.hid (show nL + 1 = (lo ++ [ofKind (k, 0, b, x, y) (k % 6)]).length by rw [List.length_append, ← HNL.out]; rfl)
              clear ho3 hb3 d0 d1 d2 d3 d4 z0 z1 z2 z3 z4 a1 a2 a3 a4 a0' dF zF HS5 HL5 HV5 HHD HH2 hcopy hh1 hone
              (refine tail.till_take 7 (v := ?_) rfl (by kernel_rfl) (by kernel_rfl) (by kernel_rfl) (by kernel_rfl) (by kernel_rfl) (fun _ _ _ h => h) (by rfl) (by assumption) ?_ ?_; rotate_left 1; (focus (intro X hX; obtain ⟨s1, s2, s3, s4, s5, s6⟩ := hX; go_simp; with_reducible rfl)); (try simp only [Act.put, List.setIfInBounds_toArray, List.set_cons_zero, List.set_cons_succ]))
              refine tail.till_one 8 (by kernel_rfl) rfl (fun K hK => ?_)
              go_simp
              refine hK.out _ _ (fun h => absurd rfl h) ?_
              clear hK K
              refine tail.till_done (by kernel_rfl) ?_ _
              go_wp2_with fail
              refine bodyPost_ret (v := .tuple #[.agg #[.slice AS nS cS, .slice A3 (nL + 1) c3, .int .i64 (lf - 1), .bool true, .bool false], .int .i64 0]) ?_ rfl ?_
              · rw [results_cell_tmp rfl]; go_simp; first | done | rfl
              · rw [HDO.out]
                refine ⟨AS, nS, cS, A3, (nL + 1), c3, rfl, HNS.out, HN2.out, ?_, ?_, ?_⟩
                · refine RdA.mono ?_ (F3_since w F)
                  repeat (with_reducible refine RdA.setC ?_ (F3_not HF.out (by simp only; omega) (by simp only; omega)) _)
                  exact HR1.out
                · refine RdA.mono ?_ (F3_since w F)
                  repeat (with_reducible refine RdA.setC ?_ (F3_not HF.out (by simp only; omega) (by simp only; omega)) _)
                  exact HR2.out
                · repeat (with_reducible refine Below.setCell ?_ (by simp only; omega) _)
                  exact HB3.out
      · have HDO := Lib.hid (show doR ⟨sf, lo, lf, am, true⟩ (k, 0, b, x, y) = (⟨sf, lo, lf, am, true⟩, 4) from by unfold doR; simp [q4, q5, q3, e3])
        go_wp2_with fail
        refine bodyPost_ret (v := .tuple #[.agg #[.slice AS nS cS, .slice AL nL cL, .int .i64 (lf), .bool am, .bool true], .int .i64 4]) ?_ rfl ?_
        · rw [results_cell_tmp rfl]; go_simp; first | done | rfl
        · rw [HDO.out]
          refine ⟨AS, nS, cS, AL, nL, cL, rfl, HNS.out, HNL.out, ?_, ?_, ?_⟩
          · refine RdA.mono ?_ (F3_since w F)
            repeat (with_reducible refine RdA.setC ?_ (F3_not HF.out (by simp only; omega) (by simp only; omega)) _)
            exact HS3.out
          · refine RdA.mono ?_ (F3_since w F)
            repeat (with_reducible refine RdA.setC ?_ (F3_not HF.out (by simp only; omega) (by simp only; omega)) _)
            exact HL3.out
          · repeat (with_reducible refine Below.setCell ?_ (by simp only; omega) _)
            exact HBV.out
    by_cases har1 : ar = 1
    · subst har1
      cases dn
      · cases am
        · have HDO := Lib.hid (show doR ⟨sf, lo, lf, false, false⟩ (k, 1, b, x, y) = (⟨sf, lo ++ [ofKind (k, 1, b, x, y) (k % 6)], lf, false, false⟩, 0) from by unfold doR; simp [q4, q5, q3, e3, countR])
          have e1 : V.heap.size = w.heap.size + 3 := HSV.out
          have hset : ∀ b, b ≠ w.heap.size + 1 → (V.setCell ⟨w.heap.size + 1, 0, none⟩ (.int .u8 (k % 6))).heap[b]? = V.heap[b]? := fun b hb => heap_setCell_other V ⟨w.heap.size + 1, 0, none⟩ b _ (fun e => hb e)
          have Xd0 : (V.setCell ⟨w.heap.size + 1, 0, none⟩ (.int .u8 (k % 6))).cell? ⟨w.heap.size, 0, none⟩ = _ := (World.cell?_of_block (hset _ (by simp only; omega))).trans d0
          have Xd1 : (V.setCell ⟨w.heap.size + 1, 0, none⟩ (.int .u8 (k % 6))).cell? ⟨w.heap.size, 1, none⟩ = _ := (World.cell?_of_block (hset _ (by simp only; omega))).trans d1
          have Xd2 : (V.setCell ⟨w.heap.size + 1, 0, none⟩ (.int .u8 (k % 6))).cell? ⟨w.heap.size, 2, none⟩ = _ := (World.cell?_of_block (hset _ (by simp only; omega))).trans d2
          have Xd3 : (V.setCell ⟨w.heap.size + 1, 0, none⟩ (.int .u8 (k % 6))).cell? ⟨w.heap.size, 3, none⟩ = _ := (World.cell?_of_block (hset _ (by simp only; omega))).trans d3
          have Xd4 : (V.setCell ⟨w.heap.size + 1, 0, none⟩ (.int .u8 (k % 6))).cell? ⟨w.heap.size, 4, none⟩ = _ := (World.cell?_of_block (hset _ (by simp only; omega))).trans d4
          have Xz0 : (V.setCell ⟨w.heap.size + 1, 0, none⟩ (.int .u8 (k % 6))).cell? ⟨w.heap.size + 1 + 1, 0, none⟩ = _ := (World.cell?_of_block (hset _ (by simp only; omega))).trans z0
          have Xz1 : (V.setCell ⟨w.heap.size + 1, 0, none⟩ (.int .u8 (k % 6))).cell? ⟨w.heap.size + 1 + 1, 1, none⟩ = _ := (World.cell?_of_block (hset _ (by simp only; omega))).trans z1
          have Xz2 : (V.setCell ⟨w.heap.size + 1, 0, none⟩ (.int .u8 (k % 6))).cell? ⟨w.heap.size + 1 + 1, 2, none⟩ = _ := (World.cell?_of_block (hset _ (by simp only; omega))).trans z2
          have Xz3 : (V.setCell ⟨w.heap.size + 1, 0, none⟩ (.int .u8 (k % 6))).cell? ⟨w.heap.size + 1 + 1, 3, none⟩ = _ := (World.cell?_of_block (hset _ (by simp only; omega))).trans z3
          have Xz4 : (V.setCell ⟨w.heap.size + 1, 0, none⟩ (.int .u8 (k % 6))).cell? ⟨w.heap.size + 1 + 1, 4, none⟩ = _ := (World.cell?_of_block (hset _ (by simp only; omega))).trans z4
          have a0' : (V.setCell ⟨w.heap.size + 1, 0, none⟩ (.int .u8 (k % 6))).cell? ⟨w.heap.size + 1, 0, none⟩ = some (.int .u8 (k % 6)) := World.cell?_setCell_same V _ _ a0
          have Xa1 : (V.setCell ⟨w.heap.size + 1, 0, none⟩ (.int .u8 (k % 6))).cell? ⟨w.heap.size + 1, 1, none⟩ = _ := (World.cell?_setCell_other V _ _ _ (by simp)).trans a1
          have Xa2 : (V.setCell ⟨w.heap.size + 1, 0, none⟩ (.int .u8 (k % 6))).cell? ⟨w.heap.size + 1, 2, none⟩ = _ := (World.cell?_setCell_other V _ _ _ (by simp)).trans a2
          have Xa3 : (V.setCell ⟨w.heap.size + 1, 0, none⟩ (.int .u8 (k % 6))).cell? ⟨w.heap.size + 1, 3, none⟩ = _ := (World.cell?_setCell_other V _ _ _ (by simp)).trans a3
          have Xa4 : (V.setCell ⟨w.heap.size + 1, 0, none⟩ (.int .u8 (k % 6))).cell? ⟨w.heap.size + 1, 4, none⟩ = _ := (World.cell?_setCell_other V _ _ _ (by simp)).trans a4
          have dF : ∀ j, (V.setCell ⟨w.heap.size + 1, 0, none⟩ (.int .u8 (k % 6))).frozen? ⟨w.heap.size, j, none⟩ = false := fun j => by simpa using df j
          have zF : ∀ j, (V.setCell ⟨w.heap.size + 1, 0, none⟩ (.int .u8 (k % 6))).frozen? ⟨w.heap.size + 1 + 1, j, none⟩ = false := fun j => by simpa using zf j
          have hnF : ¬ F (w.heap.size + 1) := fun h => by have := HF.out _ h; omega
          have HS5 := Lib.hid (show RdA (V.setCell ⟨w.heap.size + 1, 0, none⟩ (.int .u8 (k % 6))) F AS sf from HS4.out.setC hnF _)
          have HL5 := Lib.hid (show RdA (V.setCell ⟨w.heap.size + 1, 0, none⟩ (.int .u8 (k % 6))) F AL lo from HL4.out.setC hnF _)
          have HV5 := Lib.hid (show RdF (V.setCell ⟨w.heap.size + 1, 0, none⟩ (.int .u8 (k % 6))) F Av b from HV4.out.bel ((BelF.refl F V).setCell hnF _))
          have HB5 := Lib.hid (show Below w.heap.size w (V.setCell ⟨w.heap.size + 1, 0, none⟩ (.int .u8 (k % 6))) from HBV.out.setCell (by simp only; omega) _)
          have HSZ := Lib.hid (show (V.setCell ⟨w.heap.size + 1, 0, none⟩ (.int .u8 (k % 6))).heap.size = w.heap.size + 3 by simpa using e1)
          clear e1 hset hnF HS4 HL4 HV4 HBV HSV HS3 HL3
          go_wp2_with fail
          generalize V.setCell ⟨w.heap.size + 1, 0, none⟩ (.int .u8 (k % 6)) = X at *
          replace d0 := Xd0
          replace d1 := Xd1
          replace d2 := Xd2
          replace d3 := Xd3
          replace d4 := Xd4
          replace z0 := Xz0
          replace z1 := Xz1
          replace z2 := Xz2
          replace z3 := Xz3
          replace z4 := Xz4
          replace a1 := Xa1
          replace a2 := Xa2
          replace a3 := Xa3
          replace a4 := Xa4
          clear Xd0 Xd1 Xd2 Xd3 Xd4 Xz0 Xz1 Xz2 Xz3 Xz4 Xa1 Xa2 Xa3 Xa4 df zf af a0
          obtain ⟨HLl, hL1, hL2⟩ := HL5.out
          rw [← HNL.out] at hL1
          have hone : Value.oneCell' (.slice Av m cv) = true := rfl
          have hcopy : Reads X.drew X.drew.heap.size 5 AL nL (acV HLl) := hL1.rd
          have hh1 := holdA_one hL2
          have hlen : nL ≤ 1000000000 := by have := HLL.out; have := HNL.out; omega
          have HHD := Lib.hid (show HdF X F (.slice Av m cv) b from ⟨Av, cv, by rw [HM.out], HV5.out, by rw [← HM.out]; exact hcv⟩)
          have HH2 := Lib.hid hL2
          have hS0 : (fun X : World => (X.cell? ⟨w.heap.size, 1, none⟩ = some (.slice AL nL cL) ∧ X.cell? ⟨w.heap.size + 1, 0, none⟩ = some (.int .u8 (k % 6)) ∧ X.cell? ⟨w.heap.size + 1, 1, none⟩ = some (.int .i64 1) ∧ X.cell? ⟨w.heap.size + 1, 2, none⟩ = some (.slice Av m cv) ∧ X.cell? ⟨w.heap.size + 1, 3, none⟩ = some (.int .i64 x) ∧ X.cell? ⟨w.heap.size + 1, 4, none⟩ = some (.int .i64 y))) X.drew := ⟨d1, a0', a1, a2, a3, a4⟩
          refine tail.wp_region_till 8 (fun X => (X.cell? ⟨w.heap.size, 1, none⟩ = some (.slice AL nL cL) ∧ X.cell? ⟨w.heap.size + 1, 0, none⟩ = some (.int .u8 (k % 6)) ∧ X.cell? ⟨w.heap.size + 1, 1, none⟩ = some (.int .i64 1) ∧ X.cell? ⟨w.heap.size + 1, 2, none⟩ = some (.slice Av m cv) ∧ X.cell? ⟨w.heap.size + 1, 3, none⟩ = some (.int .i64 x) ∧ X.cell? ⟨w.heap.size + 1, 4, none⟩ = some (.int .i64 y))) (by kernel_rfl) ?_
          (refine tail.till_take 1 (v := ?_) rfl (by kernel_rfl) (by kernel_rfl) (by kernel_rfl) (by kernel_rfl) (by kernel_rfl) (fun _ _ _ h => h) (by rfl) (by assumption) ?_ ?_; rotate_left 1; (focus (intro X hX; obtain ⟨s1, s2, s3, s4, s5, s6⟩ := hX; go_simp; with_reducible rfl)); (try simp only [Act.put, List.setIfInBounds_toArray, List.set_cons_zero, List.set_cons_succ]))
          (refine tail.till_take 2 (v := ?_) rfl (by kernel_rfl) (by kernel_rfl) (by kernel_rfl) (by kernel_rfl) (by kernel_rfl) (fun _ _ _ h => h) (by rfl) (by assumption) ?_ ?_; rotate_left 1; (focus (intro X hX; obtain ⟨s1, s2, s3, s4, s5, s6⟩ := hX; go_simp; with_reducible rfl)); (try simp only [Act.put, List.setIfInBounds_toArray, List.set_cons_zero, List.set_cons_succ]))
          (refine tail.till_take 4 (v := ?_) rfl (by kernel_rfl) (by kernel_rfl) (by kernel_rfl) (by kernel_rfl) (by kernel_rfl) (fun _ _ _ h => h) (by rfl) (by assumption) ?_ ?_; rotate_left 1; (focus (intro X hX; obtain ⟨s1, s2, s3, s4, s5, s6⟩ := hX; go_simp; with_reducible rfl)); (try simp only [Act.put, List.setIfInBounds_toArray, List.set_cons_zero, List.set_cons_succ]))
          refine tail.till_two 0 5 (by kernel_rfl) rfl rfl ?_ ?_
          · intro K hK
            have hbE : Below X.drew.heap.size X.drew (X.drew.alloc (.cells #[] 39)) := (Below.refl _ _).alloc (Nat.le_refl _) _
            have hbS := hbE
            have hSE : (fun X : World => (X.cell? ⟨w.heap.size, 1, none⟩ = some (.slice AL nL cL) ∧ X.cell? ⟨w.heap.size + 1, 0, none⟩ = some (.int .u8 (k % 6)) ∧ X.cell? ⟨w.heap.size + 1, 1, none⟩ = some (.int .i64 1) ∧ X.cell? ⟨w.heap.size + 1, 2, none⟩ = some (.slice Av m cv) ∧ X.cell? ⟨w.heap.size + 1, 3, none⟩ = some (.int .i64 x) ∧ X.cell? ⟨w.heap.size + 1, 4, none⟩ = some (.int .i64 y))) (X.drew.alloc (.cells #[] 39)) := ⟨keepc (W := X.drew) d1 hbS, keepc (W := X.drew) a0' hbS, keepc (W := X.drew) a1 hbS, keepc (W := X.drew) a2 hbS, keepc (W := X.drew) a3 hbS, keepc (W := X.drew) a4 hbS⟩
            clear hbS
            go_simp
            refine hK.out _ _ (fun _ => hSE) ?_
            clear hK K
            try simp only [Act.put, List.setIfInBounds_toArray, List.set_cons_zero, List.set_cons_succ]
            refine tail.till_two 3 5 (by kernel_rfl) rfl rfl ?_ ?_
            · intro K hK
              obtain ⟨A2, c2, w2, A3, c3, w3, run1, run2, ho3, hb2, hb3⟩ := order_A1 (k % 6) 1 x y X.drew hone hcopy hh1 hlen (cL := cL)
              have hbE : Below X.drew.heap.size X.drew (X.drew.alloc (.cells #[] 39)) := (Below.refl _ _).alloc (Nat.le_refl _) _
              have hbR : Below X.drew.heap.size X.drew (X.drew.alloc (.cells #[.int .u8 (k % 6), .int .i64 1, .slice Av m cv, .int .i64 x, .int .i64 y] 39)) := (Below.refl _ _).alloc (Nat.le_refl _) _
              have hbS := hb2
              have hS2 : (fun X : World => (X.cell? ⟨w.heap.size, 1, none⟩ = some (.slice AL nL cL) ∧ X.cell? ⟨w.heap.size + 1, 0, none⟩ = some (.int .u8 (k % 6)) ∧ X.cell? ⟨w.heap.size + 1, 1, none⟩ = some (.int .i64 1) ∧ X.cell? ⟨w.heap.size + 1, 2, none⟩ = some (.slice Av m cv) ∧ X.cell? ⟨w.heap.size + 1, 3, none⟩ = some (.int .i64 x) ∧ X.cell? ⟨w.heap.size + 1, 4, none⟩ = some (.int .i64 y))) w2 := ⟨keepc (W := X.drew) d1 hbS, keepc (W := X.drew) a0' hbS, keepc (W := X.drew) a1 hbS, keepc (W := X.drew) a2 hbS, keepc (W := X.drew) a3 hbS, keepc (W := X.drew) a4 hbS⟩
              clear hbS
              have hb2R : Below X.drew.heap.size X.drew (w2.alloc (.cells #[.int .u8 (k % 6), .int .i64 1, .slice Av m cv, .int .i64 x, .int .i64 y] 39)) := hb2.alloc hb2.size _
              have hbS := hb2R
              have hS2R : (fun X : World => (X.cell? ⟨w.heap.size, 1, none⟩ = some (.slice AL nL cL) ∧ X.cell? ⟨w.heap.size + 1, 0, none⟩ = some (.int .u8 (k % 6)) ∧ X.cell? ⟨w.heap.size + 1, 1, none⟩ = some (.int .i64 1) ∧ X.cell? ⟨w.heap.size + 1, 2, none⟩ = some (.slice Av m cv) ∧ X.cell? ⟨w.heap.size + 1, 3, none⟩ = some (.int .i64 x) ∧ X.cell? ⟨w.heap.size + 1, 4, none⟩ = some (.int .i64 y))) (w2.alloc (.cells #[.int .u8 (k % 6), .int .i64 1, .slice Av m cv, .int .i64 x, .int .i64 y] 39)) := ⟨keepc (W := X.drew) d1 hbS, keepc (W := X.drew) a0' hbS, keepc (W := X.drew) a1 hbS, keepc (W := X.drew) a2 hbS, keepc (W := X.drew) a3 hbS, keepc (W := X.drew) a4 hbS⟩
              clear hbS
              have hbS := hb3
              have hS3 : (fun X : World => (X.cell? ⟨w.heap.size, 1, none⟩ = some (.slice AL nL cL) ∧ X.cell? ⟨w.heap.size + 1, 0, none⟩ = some (.int .u8 (k % 6)) ∧ X.cell? ⟨w.heap.size + 1, 1, none⟩ = some (.int .i64 1) ∧ X.cell? ⟨w.heap.size + 1, 2, none⟩ = some (.slice Av m cv) ∧ X.cell? ⟨w.heap.size + 1, 3, none⟩ = some (.int .i64 x) ∧ X.cell? ⟨w.heap.size + 1, 4, none⟩ = some (.int .i64 y))) w3 := ⟨keepc (W := X.drew) d1 hbS, keepc (W := X.drew) a0' hbS, keepc (W := X.drew) a1 hbS, keepc (W := X.drew) a2 hbS, keepc (W := X.drew) a3 hbS, keepc (W := X.drew) a4 hbS⟩
              clear hbS
              clear hb2R hb2 hbE hbR
              refine step_append_run rfl rfl rfl rfl run1 ?_
              refine hK.out _ _ (fun _ => hS2) ?_
              clear hK K
              try simp only [Act.put, List.setIfInBounds_toArray, List.set_cons_zero, List.set_cons_succ]
              refine tail.till_one 5 (by kernel_rfl) rfl (fun K hK => ?_)
              go_simp
              refine hK.out _ _ (fun _ => hS2R) ?_
              clear hK K
              try simp only [Act.put, List.setIfInBounds_toArray, List.set_cons_zero, List.set_cons_succ]
              refine tail.till_one 6 (by kernel_rfl) rfl (fun K hK => ?_)
              refine step_append_run rfl rfl rfl rfl run2 ?_
              refine hK.out _ _ (fun _ => hS3) ?_
              clear hK K
              try simp only [Act.put, List.setIfInBounds_toArray, List.set_cons_zero, List.set_cons_succ]
              clear hSE hS2 hS2R run1 run2
              have HR2 := Lib.hid (show RdA w3 (F3 w F) A3 (lo ++ [ofKind (k, 1, b, x, y) (k % 6)]) from ⟨HLl ++ [(k % 6, 1, .slice Av m cv, x, y)], by rw [List.length_append, ← HNL.out]; exact ReadsF.of_own ho3 (fun b h1 _ => .inr (by have := HSZ.out; have h7 : X.drew.heap.size = X.heap.size := rfl; omega)), ((HH2.out.snoc (a := ofKind (k, 1, b, x, y) (k % 6)) rfl rfl HHD.out rfl rfl).bel (BelF.of (w := X) (k := X.heap.size) ⟨hb3.os, hb3.tape, hb3.output, hb3.size, hb3.block⟩ (Nat.le_refl _))).mono fun b h => .inl h⟩)
              have HR1 := Lib.hid (show RdA w3 (F3 w F) AS sf from (HS5.out.bel (BelF.of (w := X) (k := X.heap.size) ⟨hb3.os, hb3.tape, hb3.output, hb3.size, hb3.block⟩ (Nat.le_refl _))).mono fun b h => .inl h)
              have HB3 := Lib.hid (show Below w.heap.size w w3 from HB5.out.trans (Below.mono (B := X.heap.size) ⟨hb3.os, hb3.tape, hb3.output, hb3.size, hb3.block⟩ HB5.out.size))
              have x0 := keepc (W := X.drew) d0 hb3
              have x1 := keepc (W := X.drew) d1 hb3
              have x2 := keepc (W := X.drew) d2 hb3
              have x3 := keepc (W := X.drew) d3 hb3
              have x4 := keepc (W := X.drew) d4 hb3
              have y0 := keepc (W := X.drew) z0 hb3
              have y1 := keepc (W := X.drew) z1 hb3
              have y2 := keepc (W := X.drew) z2 hb3
              have y3 := keepc (W := X.drew) z3 hb3
              have y4 := keepc (W := X.drew) z4 hb3
              have xf : ∀ j, w3.frozen? ⟨w.heap.size, j, none⟩ = false := fun j => (hb3.frozen (show (Addr.mk w.heap.size j none).block < X.drew.heap.size by have := HSZ.out; have h7 : X.drew.heap.size = X.heap.size := rfl; simp only; omega)).trans (dF j)
              have yf : ∀ j, w3.frozen? ⟨w.heap.size + 1 + 1, j, none⟩ = false := fun j => (hb3.frozen (show (Addr.mk (w.heap.size + 1 + 1) j none).block < X.drew.heap.size by have := HSZ.out; have h7 : X.drew.heap.size = X.heap.size := rfl; simp only; omega)).trans (zF j)
              have HN2 := Lib.hid (show nL + 1 = (lo ++ [ofKind (k, 1, b, x, y) (k % 6)]).length by rw [List.length_append, ← HNL.out]; rfl)
              clear ho3 hb3 d0 d1 d2 d3 d4 z0 z1 z2 z3 z4 a1 a2 a3 a4 a0' dF zF HS5 HL5 HV5 HHD HH2 hcopy hh1 hone
              (refine tail.till_take 7 (v := ?_) rfl (by kernel_rfl) (by kernel_rfl) (by kernel_rfl) (by kernel_rfl) (by kernel_rfl) (fun _ _ _ h => h) (by rfl) (by assumption) ?_ ?_; rotate_left 1; (focus (intro X hX; obtain ⟨s1, s2, s3, s4, s5, s6⟩ := hX; go_simp; with_reducible rfl)); (try simp only [Act.put, List.setIfInBounds_toArray, List.set_cons_zero, List.set_cons_succ]))
              refine tail.till_one 8 (by kernel_rfl) rfl (fun K hK => ?_)
              go_simp
              refine hK.out _ _ (fun h => absurd rfl h) ?_
              clear hK K
              refine tail.till_done (by kernel_rfl) ?_ _
              go_wp2_with fail
              refine bodyPost_ret (v := .tuple #[.agg #[.slice AS nS cS, .slice A3 (nL + 1) c3, .int .i64 (lf), .bool false, .bool false], .int .i64 0]) ?_ rfl ?_
              · rw [results_cell_tmp rfl]; go_simp; first | done | rfl
              · rw [HDO.out]
                refine ⟨AS, nS, cS, A3, (nL + 1), c3, rfl, HNS.out, HN2.out, ?_, ?_, ?_⟩
                · refine RdA.mono ?_ (F3_since w F)
                  repeat (with_reducible refine RdA.setC ?_ (F3_not HF.out (by simp only; omega) (by simp only; omega)) _)
                  exact HR1.out
                · refine RdA.mono ?_ (F3_since w F)
                  repeat (with_reducible refine RdA.setC ?_ (F3_not HF.out (by simp only; omega) (by simp only; omega)) _)
                  exact HR2.out
                · repeat (with_reducible refine Below.setCell ?_ (by simp only; omega) _)
                  exact HB3.out
            · intro K hK
              obtain ⟨A2, c2, w2, A3, c3, w3, run1, run2, ho3, hb2, hb3⟩ := order_A2 (k % 6) 1 x y X.drew hone hcopy hh1 hlen (cL := cL)
              have hbE : Below X.drew.heap.size X.drew (X.drew.alloc (.cells #[] 39)) := (Below.refl _ _).alloc (Nat.le_refl _) _
              have hbR : Below X.drew.heap.size X.drew (X.drew.alloc (.cells #[.int .u8 (k % 6), .int .i64 1, .slice Av m cv, .int .i64 x, .int .i64 y] 39)) := (Below.refl _ _).alloc (Nat.le_refl _) _
              have hbER : Below X.drew.heap.size X.drew ((X.drew.alloc (.cells #[] 39)).alloc (.cells #[.int .u8 (k % 6), .int .i64 1, .slice Av m cv, .int .i64 x, .int .i64 y] 39)) := hbE.alloc hbE.size _
              have hbS := hbER
              have hSER : (fun X : World => (X.cell? ⟨w.heap.size, 1, none⟩ = some (.slice AL nL cL) ∧ X.cell? ⟨w.heap.size + 1, 0, none⟩ = some (.int .u8 (k % 6)) ∧ X.cell? ⟨w.heap.size + 1, 1, none⟩ = some (.int .i64 1) ∧ X.cell? ⟨w.heap.size + 1, 2, none⟩ = some (.slice Av m cv) ∧ X.cell? ⟨w.heap.size + 1, 3, none⟩ = some (.int .i64 x) ∧ X.cell? ⟨w.heap.size + 1, 4, none⟩ = some (.int .i64 y))) ((X.drew.alloc (.cells #[] 39)).alloc (.cells #[.int .u8 (k % 6), .int .i64 1, .slice Av m cv, .int .i64 x, .int .i64 y] 39)) := ⟨keepc (W := X.drew) d1 hbS, keepc (W := X.drew) a0' hbS, keepc (W := X.drew) a1 hbS, keepc (W := X.drew) a2 hbS, keepc (W := X.drew) a3 hbS, keepc (W := X.drew) a4 hbS⟩
              clear hbS
              have hbS := hb2
              have hS2 : (fun X : World => (X.cell? ⟨w.heap.size, 1, none⟩ = some (.slice AL nL cL) ∧ X.cell? ⟨w.heap.size + 1, 0, none⟩ = some (.int .u8 (k % 6)) ∧ X.cell? ⟨w.heap.size + 1, 1, none⟩ = some (.int .i64 1) ∧ X.cell? ⟨w.heap.size + 1, 2, none⟩ = some (.slice Av m cv) ∧ X.cell? ⟨w.heap.size + 1, 3, none⟩ = some (.int .i64 x) ∧ X.cell? ⟨w.heap.size + 1, 4, none⟩ = some (.int .i64 y))) w2 := ⟨keepc (W := X.drew) d1 hbS, keepc (W := X.drew) a0' hbS, keepc (W := X.drew) a1 hbS, keepc (W := X.drew) a2 hbS, keepc (W := X.drew) a3 hbS, keepc (W := X.drew) a4 hbS⟩
              clear hbS
              have hbS := hb3
              have hS3 : (fun X : World => (X.cell? ⟨w.heap.size, 1, none⟩ = some (.slice AL nL cL) ∧ X.cell? ⟨w.heap.size + 1, 0, none⟩ = some (.int .u8 (k % 6)) ∧ X.cell? ⟨w.heap.size + 1, 1, none⟩ = some (.int .i64 1) ∧ X.cell? ⟨w.heap.size + 1, 2, none⟩ = some (.slice Av m cv) ∧ X.cell? ⟨w.heap.size + 1, 3, none⟩ = some (.int .i64 x) ∧ X.cell? ⟨w.heap.size + 1, 4, none⟩ = some (.int .i64 y))) w3 := ⟨keepc (W := X.drew) d1 hbS, keepc (W := X.drew) a0' hbS, keepc (W := X.drew) a1 hbS, keepc (W := X.drew) a2 hbS, keepc (W := X.drew) a3 hbS, keepc (W := X.drew) a4 hbS⟩
              clear hbS
              clear hbER hb2 hbE hbR
              go_simp
              refine hK.out _ _ (fun _ => hSER) ?_
              clear hK K
              try simp only [Act.put, List.setIfInBounds_toArray, List.set_cons_zero, List.set_cons_succ]
              refine tail.till_one 3 (by kernel_rfl) rfl (fun K hK => ?_)
              refine step_append_run rfl rfl rfl rfl run1 ?_
              refine hK.out _ _ (fun _ => hS2) ?_
              clear hK K
              try simp only [Act.put, List.setIfInBounds_toArray, List.set_cons_zero, List.set_cons_succ]
              refine tail.till_one 6 (by kernel_rfl) rfl (fun K hK => ?_)
              refine step_append_run rfl rfl rfl rfl run2 ?_
              refine hK.out _ _ (fun _ => hS3) ?_
              clear hK K
              try simp only [Act.put, List.setIfInBounds_toArray, List.set_cons_zero, List.set_cons_succ]
              clear hSE hS2 hSER run1 run2
              have HR2 := Lib.hid (show RdA w3 (F3 w F) A3 (lo ++ [ofKind (k, 1, b, x, y) (k % 6)]) from ⟨HLl ++ [(k % 6, 1, .slice Av m cv, x, y)], by rw [List.length_append, ← HNL.out]; exact ReadsF.of_own ho3 (fun b h1 _ => .inr (by have := HSZ.out; have h7 : X.drew.heap.size = X.heap.size := rfl; omega)), ((HH2.out.snoc (a := ofKind (k, 1, b, x, y) (k % 6)) rfl rfl HHD.out rfl rfl).bel (BelF.of (w := X) (k := X.heap.size) ⟨hb3.os, hb3.tape, hb3.output, hb3.size, hb3.block⟩ (Nat.le_refl _))).mono fun b h => .inl h⟩)
              have HR1 := Lib.hid (show RdA w3 (F3 w F) AS sf from (HS5.out.bel (BelF.of (w := X) (k := X.heap.size) ⟨hb3.os, hb3.tape, hb3.output, hb3.size, hb3.block⟩ (Nat.le_refl _))).mono fun b h => .inl h)
              have HB3 := Lib.hid (show Below w.heap.size w w3 from HB5.out.trans (Below.mono (B := X.heap.size) ⟨hb3.os, hb3.tape, hb3.output, hb3.size, hb3.block⟩ HB5.out.size))
              have x0 := keepc (W := X.drew) d0 hb3
              have x1 := keepc (W := X.drew) d1 hb3
              have x2 := keepc (W := X.drew) d2 hb3
              have x3 := keepc (W := X.drew) d3 hb3
              have x4 := keepc (W := X.drew) d4 hb3
              have y0 := keepc (W := X.drew) z0 hb3
              have y1 := keepc (W := X.drew) z1 hb3
              have y2 := keepc (W := X.drew) z2 hb3
              have y3 := keepc (W := X.drew) z3 hb3
              have y4 := keepc (W := X.drew) z4 hb3
              have xf : ∀ j, w3.frozen? ⟨w.heap.size, j, none⟩ = false := fun j => (hb3.frozen (show (Addr.mk w.heap.size j none).block < X.drew.heap.size by have := HSZ.out; have h7 : X.drew.heap.size = X.heap.size := rfl; simp only; omega)).trans (dF j)
              have yf : ∀ j, w3.frozen? ⟨w.heap.size + 1 + 1, j, none⟩ = false := fun j => (hb3.frozen (show (Addr.mk (w.heap.size + 1 + 1) j none).block < X.drew.heap.size by have := HSZ.out; have h7 : X.drew.heap.size = X.heap.size := rfl; simp only; omega)).trans (zF j)
              have HN2 := Lib.hid (show nL + 1 = (lo ++ [ofKind (k, 1, b, x, y) (k % 6)]).length by rw [List.length_append, ← HNL.out]; rfl)
              clear ho3 hb3 d0 d1 d2 d3 d4 z0 z1 z2 z3 z4 a1 a2 a3 a4 a0' dF zF HS5 HL5 HV5 HHD HH2 hcopy hh1 hone
              (refine tail.till_take 7 (v := ?_) rfl (by kernel_rfl) (by kernel_rfl) (by kernel_rfl) (by kernel_rfl) (by kernel_rfl) (fun _ _ _ h => h) (by rfl) (by assumption) ?_ ?_; rotate_left 1; (focus (intro X hX; obtain ⟨s1, s2, s3, s4, s5, s6⟩ := hX; go_simp; with_reducible rfl)); (try simp only [Act.put, List.setIfInBounds_toArray, List.set_cons_zero, List.set_cons_succ]))
              refine tail.till_one 8 (by kernel_rfl) rfl (fun K hK => ?_)
              go_simp
              refine hK.out _ _ (fun h => absurd rfl h) ?_
              clear hK K
              refine tail.till_done (by kernel_rfl) ?_ _
              go_wp2_with fail
              refine bodyPost_ret (v := .tuple #[.agg #[.slice AS nS cS, .slice A3 (nL + 1) c3, .int .i64 (lf), .bool false, .bool false], .int .i64 0]) ?_ rfl ?_
              · rw [results_cell_tmp rfl]; go_simp; first | done | rfl
              · rw [HDO.out]
                refine ⟨AS, nS, cS, A3, (nL + 1), c3, rfl, HNS.out, HN2.out, ?_, ?_, ?_⟩
                · refine RdA.mono ?_ (F3_since w F)
                  repeat (with_reducible refine RdA.setC ?_ (F3_not HF.out (by simp only; omega) (by simp only; omega)) _)
                  exact HR1.out
                · refine RdA.mono ?_ (F3_since w F)
                  repeat (with_reducible refine RdA.setC ?_ (F3_not HF.out (by simp only; omega) (by simp only; omega)) _)
                  exact HR2.out
                · repeat (with_reducible refine Below.setCell ?_ (by simp only; omega) _)
                  exact HB3.out
          · intro K hK
            obtain ⟨A2, c2, w2, A3, c3, w3, run1, run2, ho3, hb2, hb3⟩ := order_B (k % 6) 1 x y X.drew hone hcopy hh1 hlen (cL := cL)
            have hbE : Below X.drew.heap.size X.drew (X.drew.alloc (.cells #[] 39)) := (Below.refl _ _).alloc (Nat.le_refl _) _
            have hbR : Below X.drew.heap.size X.drew (X.drew.alloc (.cells #[.int .u8 (k % 6), .int .i64 1, .slice Av m cv, .int .i64 x, .int .i64 y] 39)) := (Below.refl _ _).alloc (Nat.le_refl _) _
            have hbS := hbR
            have hSR : (fun X : World => (X.cell? ⟨w.heap.size, 1, none⟩ = some (.slice AL nL cL) ∧ X.cell? ⟨w.heap.size + 1, 0, none⟩ = some (.int .u8 (k % 6)) ∧ X.cell? ⟨w.heap.size + 1, 1, none⟩ = some (.int .i64 1) ∧ X.cell? ⟨w.heap.size + 1, 2, none⟩ = some (.slice Av m cv) ∧ X.cell? ⟨w.heap.size + 1, 3, none⟩ = some (.int .i64 x) ∧ X.cell? ⟨w.heap.size + 1, 4, none⟩ = some (.int .i64 y))) (X.drew.alloc (.cells #[.int .u8 (k % 6), .int .i64 1, .slice Av m cv, .int .i64 x, .int .i64 y] 39)) := ⟨keepc (W := X.drew) d1 hbS, keepc (W := X.drew) a0' hbS, keepc (W := X.drew) a1 hbS, keepc (W := X.drew) a2 hbS, keepc (W := X.drew) a3 hbS, keepc (W := X.drew) a4 hbS⟩
            clear hbS
            have hbRE : Below X.drew.heap.size X.drew ((X.drew.alloc (.cells #[.int .u8 (k % 6), .int .i64 1, .slice Av m cv, .int .i64 x, .int .i64 y] 39)).alloc (.cells #[] 39)) := hbR.alloc hbR.size _
            have hbS := hbRE
            have hSRE : (fun X : World => (X.cell? ⟨w.heap.size, 1, none⟩ = some (.slice AL nL cL) ∧ X.cell? ⟨w.heap.size + 1, 0, none⟩ = some (.int .u8 (k % 6)) ∧ X.cell? ⟨w.heap.size + 1, 1, none⟩ = some (.int .i64 1) ∧ X.cell? ⟨w.heap.size + 1, 2, none⟩ = some (.slice Av m cv) ∧ X.cell? ⟨w.heap.size + 1, 3, none⟩ = some (.int .i64 x) ∧ X.cell? ⟨w.heap.size + 1, 4, none⟩ = some (.int .i64 y))) ((X.drew.alloc (.cells #[.int .u8 (k % 6), .int .i64 1, .slice Av m cv, .int .i64 x, .int .i64 y] 39)).alloc (.cells #[] 39)) := ⟨keepc (W := X.drew) d1 hbS, keepc (W := X.drew) a0' hbS, keepc (W := X.drew) a1 hbS, keepc (W := X.drew) a2 hbS, keepc (W := X.drew) a3 hbS, keepc (W := X.drew) a4 hbS⟩
            clear hbS
            have hbS := hb2
            have hS2 : (fun X : World => (X.cell? ⟨w.heap.size, 1, none⟩ = some (.slice AL nL cL) ∧ X.cell? ⟨w.heap.size + 1, 0, none⟩ = some (.int .u8 (k % 6)) ∧ X.cell? ⟨w.heap.size + 1, 1, none⟩ = some (.int .i64 1) ∧ X.cell? ⟨w.heap.size + 1, 2, none⟩ = some (.slice Av m cv) ∧ X.cell? ⟨w.heap.size + 1, 3, none⟩ = some (.int .i64 x) ∧ X.cell? ⟨w.heap.size + 1, 4, none⟩ = some (.int .i64 y))) w2 := ⟨keepc (W := X.drew) d1 hbS, keepc (W := X.drew) a0' hbS, keepc (W := X.drew) a1 hbS, keepc (W := X.drew) a2 hbS, keepc (W := X.drew) a3 hbS, keepc (W := X.drew) a4 hbS⟩
            clear hbS
            have hbS := hb3
            have hS3 : (fun X : World => (X.cell? ⟨w.heap.size, 1, none⟩ = some (.slice AL nL cL) ∧ X.cell? ⟨w.heap.size + 1, 0, none⟩ = some (.int .u8 (k % 6)) ∧ X.cell? ⟨w.heap.size + 1, 1, none⟩ = some (.int .i64 1) ∧ X.cell? ⟨w.heap.size + 1, 2, none⟩ = some (.slice Av m cv) ∧ X.cell? ⟨w.heap.size + 1, 3, none⟩ = some (.int .i64 x) ∧ X.cell? ⟨w.heap.size + 1, 4, none⟩ = some (.int .i64 y))) w3 := ⟨keepc (W := X.drew) d1 hbS, keepc (W := X.drew) a0' hbS, keepc (W := X.drew) a1 hbS, keepc (W := X.drew) a2 hbS, keepc (W := X.drew) a3 hbS, keepc (W := X.drew) a4 hbS⟩
            clear hbS
            clear hbRE hb2 hbE hbR
            go_simp
            refine hK.out _ _ (fun _ => hSR) ?_
            clear hK K
            try simp only [Act.put, List.setIfInBounds_toArray, List.set_cons_zero, List.set_cons_succ]
            refine tail.till_one 0 (by kernel_rfl) rfl (fun K hK => ?_)
            go_simp
            refine hK.out _ _ (fun _ => hSRE) ?_
            clear hK K
            try simp only [Act.put, List.setIfInBounds_toArray, List.set_cons_zero, List.set_cons_succ]
            refine tail.till_one 3 (by kernel_rfl) rfl (fun K hK => ?_)
            refine step_append_run rfl rfl rfl rfl run1 ?_
            refine hK.out _ _ (fun _ => hS2) ?_
            clear hK K
            try simp only [Act.put, List.setIfInBounds_toArray, List.set_cons_zero, List.set_cons_succ]
            refine tail.till_one 6 (by kernel_rfl) rfl (fun K hK => ?_)
            refine step_append_run rfl rfl rfl rfl run2 ?_
            refine hK.out _ _ (fun _ => hS3) ?_
            clear hK K
            try simp only [Act.put, List.setIfInBounds_toArray, List.set_cons_zero, List.set_cons_succ]
            clear hSR hS2 hSRE run1 run2
            have HR2 := Lib.hid (show RdA w3 (F3 w F) A3 (lo ++ [ofKind (k, 1, b, x, y) (k % 6)]) from ⟨HLl ++ [(k % 6, 1, .slice Av m cv, x, y)], by rw [List.length_append, ← HNL.out]; exact ReadsF.of_own ho3 (fun b h1 _ => .inr (by have := HSZ.out; have h7 : X.drew.heap.size = X.heap.size := rfl; omega)), ((HH2.out.snoc (a := ofKind (k, 1, b, x, y) (k % 6)) rfl rfl HHD.out rfl rfl).bel (BelF.of (w := X) (k := X.heap.size) ⟨hb3.os, hb3.tape, hb3.output, hb3.size, hb3.block⟩ (Nat.le_refl _))).mono fun b h => .inl h⟩)
            have HR1 := Lib.hid (show RdA w3 (F3 w F) AS sf from (HS5.out.bel (BelF.of (w := X) (k := X.heap.size) ⟨hb3.os, hb3.tape, hb3.output, hb3.size, hb3.block⟩ (Nat.le_refl _))).mono fun b h => .inl h)
            have HB3 := Lib.hid (show Below w.heap.size w w3 from HB5.out.trans (Below.mono (B := X.heap.size) ⟨hb3.os, hb3.tape, hb3.output, hb3.size, hb3.block⟩ HB5.out.size))
            have x0 := keepc (W := X.drew) d0 hb3
            have x1 := keepc (W := X.drew) d1 hb3
            have x2 := keepc (W := X.drew) d2 hb3
            have x3 := keepc (W := X.drew) d3 hb3
            have x4 := keepc (W := X.drew) d4 hb3
            have y0 := keepc (W := X.drew) z0 hb3
            have y1 := keepc (W := X.drew) z1 hb3
            have y2 := keepc (W := X.drew) z2 hb3
            have y3 := keepc (W := X.drew) z3 hb3
            have y4 := keepc (W := X.drew) z4 hb3
            have xf : ∀ j, w3.frozen? ⟨w.heap.size, j, none⟩ = false := fun j => (hb3.frozen (show (Addr.mk w.heap.size j none).block < X.drew.heap.size by have := HSZ.out; have h7 : X.drew.heap.size = X.heap.size := rfl; simp only; omega)).trans (dF j)
            have yf : ∀ j, w3.frozen? ⟨w.heap.size + 1 + 1, j, none⟩ = false := fun j => (hb3.frozen (show (Addr.mk (w.heap.size + 1 + 1) j none).block < X.drew.heap.size by have := HSZ.out; have h7 : X.drew.heap.size = X.heap.size := rfl; simp only; omega)).trans (zF j)
            have HN2 := Lib.hid (show nL + 1 = (lo ++ [ofKind (k, 1, b, x, y) (k % 6)]).length by rw [List.length_append, ← HNL.out]; rfl)
            clear ho3 hb3 d0 d1 d2 d3 d4 z0 z1 z2 z3 z4 a1 a2 a3 a4 a0' dF zF HS5 HL5 HV5 HHD HH2 hcopy hh1 hone
            (refine tail.till_take 7 (v := ?_) rfl (by kernel_rfl) (by kernel_rfl) (by kernel_rfl) (by kernel_rfl) (by kernel_rfl) (fun _ _ _ h => h) (by rfl) (by assumption) ?_ ?_; rotate_left 1; (focus (intro X hX; obtain ⟨s1, s2, s3, s4, s5, s6⟩ := hX; go_simp; with_reducible rfl)); (try simp only [Act.put, List.setIfInBounds_toArray, List.set_cons_zero, List.set_cons_succ]))
            refine tail.till_one 8 (by kernel_rfl) rfl (fun K hK => ?_)
            go_simp
            refine hK.out _ _ (fun h => absurd rfl h) ?_
            clear hK K
            refine tail.till_done (by kernel_rfl) ?_ _
            go_wp2_with fail
            refine bodyPost_ret (v := .tuple #[.agg #[.slice AS nS cS, .slice A3 (nL + 1) c3, .int .i64 (lf), .bool false, .bool false], .int .i64 0]) ?_ rfl ?_
            · rw [results_cell_tmp rfl]; go_simp; first | done | rfl
            · rw [HDO.out]
              refine ⟨AS, nS, cS, A3, (nL + 1), c3, rfl, HNS.out, HN2.out, ?_, ?_, ?_⟩
              · refine RdA.mono ?_ (F3_since w F)
                repeat (with_reducible refine RdA.setC ?_ (F3_not HF.out (by simp only; omega) (by simp only; omega)) _)
                exact HR1.out
              · refine RdA.mono ?_ (F3_since w F)
                repeat (with_reducible refine RdA.setC ?_ (F3_not HF.out (by simp only; omega) (by simp only; omega)) _)
                exact HR2.out
              · repeat (with_reducible refine Below.setCell ?_ (by simp only; omega) _)
                exact HB3.out
        · have hlf := HA.out rfl rfl
          by_cases h1 : lf = 1
          · subst h1
            clear hlf
            have HDO := Lib.hid (show doR ⟨sf, lo, 1, true, false⟩ (k, 1, b, x, y) = (⟨sf, lo ++ [ofKind (k, 1, b, x, y) (k % 6)], 0, true, true⟩, 0) from by unfold doR; simp [q4, q5, q3, e3, countR])
            have e1 : V.heap.size = w.heap.size + 3 := HSV.out
            have hset : ∀ b, b ≠ w.heap.size + 1 → (V.setCell ⟨w.heap.size + 1, 0, none⟩ (.int .u8 (k % 6))).heap[b]? = V.heap[b]? := fun b hb => heap_setCell_other V ⟨w.heap.size + 1, 0, none⟩ b _ (fun e => hb e)
            have Xd0 : (V.setCell ⟨w.heap.size + 1, 0, none⟩ (.int .u8 (k % 6))).cell? ⟨w.heap.size, 0, none⟩ = _ := (World.cell?_of_block (hset _ (by simp only; omega))).trans d0
            have Xd1 : (V.setCell ⟨w.heap.size + 1, 0, none⟩ (.int .u8 (k % 6))).cell? ⟨w.heap.size, 1, none⟩ = _ := (World.cell?_of_block (hset _ (by simp only; omega))).trans d1
            have Xd2 : (V.setCell ⟨w.heap.size + 1, 0, none⟩ (.int .u8 (k % 6))).cell? ⟨w.heap.size, 2, none⟩ = _ := (World.cell?_of_block (hset _ (by simp only; omega))).trans d2
            have Xd3 : (V.setCell ⟨w.heap.size + 1, 0, none⟩ (.int .u8 (k % 6))).cell? ⟨w.heap.size, 3, none⟩ = _ := (World.cell?_of_block (hset _ (by simp only; omega))).trans d3
            have Xd4 : (V.setCell ⟨w.heap.size + 1, 0, none⟩ (.int .u8 (k % 6))).cell? ⟨w.heap.size, 4, none⟩ = _ := (World.cell?_of_block (hset _ (by simp only; omega))).trans d4
            have Xz0 : (V.setCell ⟨w.heap.size + 1, 0, none⟩ (.int .u8 (k % 6))).cell? ⟨w.heap.size + 1 + 1, 0, none⟩ = _ := (World.cell?_of_block (hset _ (by simp only; omega))).trans z0
            have Xz1 : (V.setCell ⟨w.heap.size + 1, 0, none⟩ (.int .u8 (k % 6))).cell? ⟨w.heap.size + 1 + 1, 1, none⟩ = _ := (World.cell?_of_block (hset _ (by simp only; omega))).trans z1
            have Xz2 : (V.setCell ⟨w.heap.size + 1, 0, none⟩ (.int .u8 (k % 6))).cell? ⟨w.heap.size + 1 + 1, 2, none⟩ = _ := (World.cell?_of_block (hset _ (by simp only; omega))).trans z2
            have Xz3 : (V.setCell ⟨w.heap.size + 1, 0, none⟩ (.int .u8 (k % 6))).cell? ⟨w.heap.size + 1 + 1, 3, none⟩ = _ := (World.cell?_of_block (hset _ (by simp only; omega))).trans z3
            have Xz4 : (V.setCell ⟨w.heap.size + 1, 0, none⟩ (.int .u8 (k % 6))).cell? ⟨w.heap.size + 1 + 1, 4, none⟩ = _ := (World.cell?_of_block (hset _ (by simp only; omega))).trans z4
            have a0' : (V.setCell ⟨w.heap.size + 1, 0, none⟩ (.int .u8 (k % 6))).cell? ⟨w.heap.size + 1, 0, none⟩ = some (.int .u8 (k % 6)) := World.cell?_setCell_same V _ _ a0
            have Xa1 : (V.setCell ⟨w.heap.size + 1, 0, none⟩ (.int .u8 (k % 6))).cell? ⟨w.heap.size + 1, 1, none⟩ = _ := (World.cell?_setCell_other V _ _ _ (by simp)).trans a1
            have Xa2 : (V.setCell ⟨w.heap.size + 1, 0, none⟩ (.int .u8 (k % 6))).cell? ⟨w.heap.size + 1, 2, none⟩ = _ := (World.cell?_setCell_other V _ _ _ (by simp)).trans a2
            have Xa3 : (V.setCell ⟨w.heap.size + 1, 0, none⟩ (.int .u8 (k % 6))).cell? ⟨w.heap.size + 1, 3, none⟩ = _ := (World.cell?_setCell_other V _ _ _ (by simp)).trans a3
            have Xa4 : (V.setCell ⟨w.heap.size + 1, 0, none⟩ (.int .u8 (k % 6))).cell? ⟨w.heap.size + 1, 4, none⟩ = _ := (World.cell?_setCell_other V _ _ _ (by simp)).trans a4
            have dF : ∀ j, (V.setCell ⟨w.heap.size + 1, 0, none⟩ (.int .u8 (k % 6))).frozen? ⟨w.heap.size, j, none⟩ = false := fun j => by simpa using df j
            have zF : ∀ j, (V.setCell ⟨w.heap.size + 1, 0, none⟩ (.int .u8 (k % 6))).frozen? ⟨w.heap.size + 1 + 1, j, none⟩ = false := fun j => by simpa using zf j
            have hnF : ¬ F (w.heap.size + 1) := fun h => by have := HF.out _ h; omega
            have HS5 := Lib.hid (show RdA (V.setCell ⟨w.heap.size + 1, 0, none⟩ (.int .u8 (k % 6))) F AS sf from HS4.out.setC hnF _)
            have HL5 := Lib.hid (show RdA (V.setCell ⟨w.heap.size + 1, 0, none⟩ (.int .u8 (k % 6))) F AL lo from HL4.out.setC hnF _)
            have HV5 := Lib.hid (show RdF (V.setCell ⟨w.heap.size + 1, 0, none⟩ (.int .u8 (k % 6))) F Av b from HV4.out.bel ((BelF.refl F V).setCell hnF _))
            have HB5 := Lib.hid (show Below w.heap.size w (V.setCell ⟨w.heap.size + 1, 0, none⟩ (.int .u8 (k % 6))) from HBV.out.setCell (by simp only; omega) _)
            have HSZ := Lib.hid (show (V.setCell ⟨w.heap.size + 1, 0, none⟩ (.int .u8 (k % 6))).heap.size = w.heap.size + 3 by simpa using e1)
            clear e1 hset hnF HS4 HL4 HV4 HBV HSV HS3 HL3
            go_wp2_with fail
            generalize V.setCell ⟨w.heap.size + 1, 0, none⟩ (.int .u8 (k % 6)) = X at *
            replace d0 := Xd0
            replace d1 := Xd1
            replace d2 := Xd2
            replace d3 := Xd3
            replace d4 := Xd4
            replace z0 := Xz0
            replace z1 := Xz1
            replace z2 := Xz2
            replace z3 := Xz3
            replace z4 := Xz4
            replace a1 := Xa1
            replace a2 := Xa2
            replace a3 := Xa3
            replace a4 := Xa4
            clear Xd0 Xd1 Xd2 Xd3 Xd4 Xz0 Xz1 Xz2 Xz3 Xz4 Xa1 Xa2 Xa3 Xa4 df zf af a0
            obtain ⟨HLl, hL1, hL2⟩ := HL5.out
            rw [← HNL.out] at hL1
            have hone : Value.oneCell' (.slice Av m cv) = true := rfl
            have hcopy : Reads X.drew X.drew.heap.size 5 AL nL (acV HLl) := hL1.rd
            have hh1 := holdA_one hL2
            have hlen : nL ≤ 1000000000 := by have := HLL.out; have := HNL.out; omega
            have HHD := Lib.hid (show HdF X F (.slice Av m cv) b from ⟨Av, cv, by rw [HM.out], HV5.out, by rw [← HM.out]; exact hcv⟩)
            have HH2 := Lib.hid hL2
            have hS0 : (fun X : World => (X.cell? ⟨w.heap.size, 1, none⟩ = some (.slice AL nL cL) ∧ X.cell? ⟨w.heap.size + 1, 0, none⟩ = some (.int .u8 (k % 6)) ∧ X.cell? ⟨w.heap.size + 1, 1, none⟩ = some (.int .i64 1) ∧ X.cell? ⟨w.heap.size + 1, 2, none⟩ = some (.slice Av m cv) ∧ X.cell? ⟨w.heap.size + 1, 3, none⟩ = some (.int .i64 x) ∧ X.cell? ⟨w.heap.size + 1, 4, none⟩ = some (.int .i64 y))) X.drew := ⟨d1, a0', a1, a2, a3, a4⟩
            refine tail.wp_region_till 8 (fun X => (X.cell? ⟨w.heap.size, 1, none⟩ = some (.slice AL nL cL) ∧ X.cell? ⟨w.heap.size + 1, 0, none⟩ = some (.int .u8 (k % 6)) ∧ X.cell? ⟨w.heap.size + 1, 1, none⟩ = some (.int .i64 1) ∧ X.cell? ⟨w.heap.size + 1, 2, none⟩ = some (.slice Av m cv) ∧ X.cell? ⟨w.heap.size + 1, 3, none⟩ = some (.int .i64 x) ∧ X.cell? ⟨w.heap.size + 1, 4, none⟩ = some (.int .i64 y))) (by kernel_rfl) ?_
            (refine tail.till_take 1 (v := ?_) rfl (by kernel_rfl) (by kernel_rfl) (by kernel_rfl) (by kernel_rfl) (by kernel_rfl) (fun _ _ _ h => h) (by rfl) (by assumption) ?_ ?_; rotate_left 1; (focus (intro X hX; obtain ⟨s1, s2, s3, s4, s5, s6⟩ := hX; go_simp; with_reducible rfl)); (try simp only [Act.put, List.setIfInBounds_toArray, List.set_cons_zero, List.set_cons_succ]))
            (refine tail.till_take 2 (v := ?_) rfl (by kernel_rfl) (by kernel_rfl) (by kernel_rfl) (by kernel_rfl) (by kernel_rfl) (fun _ _ _ h => h) (by rfl) (by assumption) ?_ ?_; rotate_left 1; (focus (intro X hX; obtain ⟨s1, s2, s3, s4, s5, s6⟩ := hX; go_simp; with_reducible rfl)); (try simp only [Act.put, List.setIfInBounds_toArray, List.set_cons_zero, List.set_cons_succ]))
            (refine tail.till_take 4 (v := ?_) rfl (by kernel_rfl) (by kernel_rfl) (by kernel_rfl) (by kernel_rfl) (by kernel_rfl) (fun _ _ _ h => h) (by rfl) (by assumption) ?_ ?_; rotate_left 1; (focus (intro X hX; obtain ⟨s1, s2, s3, s4, s5, s6⟩ := hX; go_simp; with_reducible rfl)); (try simp only [Act.put, List.setIfInBounds_toArray, List.set_cons_zero, List.set_cons_succ]))
            refine tail.till_two 0 5 (by kernel_rfl) rfl rfl ?_ ?_
            · intro K hK
              have hbE : Below X.drew.heap.size X.drew (X.drew.alloc (.cells #[] 39)) := (Below.refl _ _).alloc (Nat.le_refl _) _
              have hbS := hbE
              have hSE : (fun X : World => (X.cell? ⟨w.heap.size, 1, none⟩ = some (.slice AL nL cL) ∧ X.cell? ⟨w.heap.size + 1, 0, none⟩ = some (.int .u8 (k % 6)) ∧ X.cell? ⟨w.heap.size + 1, 1, none⟩ = some (.int .i64 1) ∧ X.cell? ⟨w.heap.size + 1, 2, none⟩ = some (.slice Av m cv) ∧ X.cell? ⟨w.heap.size + 1, 3, none⟩ = some (.int .i64 x) ∧ X.cell? ⟨w.heap.size + 1, 4, none⟩ = some (.int .i64 y))) (X.drew.alloc (.cells #[] 39)) := ⟨keepc (W := X.drew) d1 hbS, keepc (W := X.drew) a0' hbS, keepc (W := X.drew) a1 hbS, keepc (W := X.drew) a2 hbS, keepc (W := X.drew) a3 hbS, keepc (W := X.drew) a4 hbS⟩
              clear hbS
              go_simp
              refine hK.out _ _ (fun _ => hSE) ?_
              clear hK K
              try simp only [Act.put, List.setIfInBounds_toArray, List.set_cons_zero, List.set_cons_succ]
              refine tail.till_two 3 5 (by kernel_rfl) rfl rfl ?_ ?_
              · intro K hK
                obtain ⟨A2, c2, w2, A3, c3, w3, run1, run2, ho3, hb2, hb3⟩ := order_A1 (k % 6) 1 x y X.drew hone hcopy hh1 hlen (cL := cL)
                have hbE : Below X.drew.heap.size X.drew (X.drew.alloc (.cells #[] 39)) := (Below.refl _ _).alloc (Nat.le_refl _) _
                have hbR : Below X.drew.heap.size X.drew (X.drew.alloc (.cells #[.int .u8 (k % 6), .int .i64 1, .slice Av m cv, .int .i64 x, .int .i64 y] 39)) := (Below.refl _ _).alloc (Nat.le_refl _) _
                have hbS := hb2
                have hS2 : (fun X : World => (X.cell? ⟨w.heap.size, 1, none⟩ = some (.slice AL nL cL) ∧ X.cell? ⟨w.heap.size + 1, 0, none⟩ = some (.int .u8 (k % 6)) ∧ X.cell? ⟨w.heap.size + 1, 1, none⟩ = some (.int .i64 1) ∧ X.cell? ⟨w.heap.size + 1, 2, none⟩ = some (.slice Av m cv) ∧ X.cell? ⟨w.heap.size + 1, 3, none⟩ = some (.int .i64 x) ∧ X.cell? ⟨w.heap.size + 1, 4, none⟩ = some (.int .i64 y))) w2 := ⟨keepc (W := X.drew) d1 hbS, keepc (W := X.drew) a0' hbS, keepc (W := X.drew) a1 hbS, keepc (W := X.drew) a2 hbS, keepc (W := X.drew) a3 hbS, keepc (W := X.drew) a4 hbS⟩
                clear hbS
                have hb2R : Below X.drew.heap.size X.drew (w2.alloc (.cells #[.int .u8 (k % 6), .int .i64 1, .slice Av m cv, .int .i64 x, .int .i64 y] 39)) := hb2.alloc hb2.size _
                have hbS := hb2R
                have hS2R : (fun X : World => (X.cell? ⟨w.heap.size, 1, none⟩ = some (.slice AL nL cL) ∧ X.cell? ⟨w.heap.size + 1, 0, none⟩ = some (.int .u8 (k % 6)) ∧ X.cell? ⟨w.heap.size + 1, 1, none⟩ = some (.int .i64 1) ∧ X.cell? ⟨w.heap.size + 1, 2, none⟩ = some (.slice Av m cv) ∧ X.cell? ⟨w.heap.size + 1, 3, none⟩ = some (.int .i64 x) ∧ X.cell? ⟨w.heap.size + 1, 4, none⟩ = some (.int .i64 y))) (w2.alloc (.cells #[.int .u8 (k % 6), .int .i64 1, .slice Av m cv, .int .i64 x, .int .i64 y] 39)) := ⟨keepc (W := X.drew) d1 hbS, keepc (W := X.drew) a0' hbS, keepc (W := X.drew) a1 hbS, keepc (W := X.drew) a2 hbS, keepc (W := X.drew) a3 hbS, keepc (W := X.drew) a4 hbS⟩
                clear hbS
                have hbS := hb3
                have hS3 : (fun X : World => (X.cell? ⟨w.heap.size, 1, none⟩ = some (.slice AL nL cL) ∧ X.cell? ⟨w.heap.size + 1, 0, none⟩ = some (.int .u8 (k % 6)) ∧ X.cell? ⟨w.heap.size + 1, 1, none⟩ = some (.int .i64 1) ∧ X.cell? ⟨w.heap.size + 1, 2, none⟩ = some (.slice Av m cv) ∧ X.cell? ⟨w.heap.size + 1, 3, none⟩ = some (.int .i64 x) ∧ X.cell? ⟨w.heap.size + 1, 4, none⟩ = some (.int .i64 y))) w3 := ⟨keepc (W := X.drew) d1 hbS, keepc (W := X.drew) a0' hbS, keepc (W := X.drew) a1 hbS, keepc (W := X.drew) a2 hbS, keepc (W := X.drew) a3 hbS, keepc (W := X.drew) a4 hbS⟩
                clear hbS
                clear hb2R hb2 hbE hbR
                refine step_append_run rfl rfl rfl rfl run1 ?_
                refine hK.out _ _ (fun _ => hS2) ?_
                clear hK K
                try simp only [Act.put, List.setIfInBounds_toArray, List.set_cons_zero, List.set_cons_succ]
                refine tail.till_one 5 (by kernel_rfl) rfl (fun K hK => ?_)
                go_simp
                refine hK.out _ _ (fun _ => hS2R) ?_
                clear hK K
                try simp only [Act.put, List.setIfInBounds_toArray, List.set_cons_zero, List.set_cons_succ]
                refine tail.till_one 6 (by kernel_rfl) rfl (fun K hK => ?_)
                refine step_append_run rfl rfl rfl rfl run2 ?_
                refine hK.out _ _ (fun _ => hS3) ?_
                clear hK K
                try simp only [Act.put, List.setIfInBounds_toArray, List.set_cons_zero, List.set_cons_succ]
                clear hSE hS2 hS2R run1 run2
                have HR2 := Lib.hid (show RdA w3 (F3 w F) A3 (lo ++ [ofKind (k, 1, b, x, y) (k % 6)]) from ⟨HLl ++ [(k % 6, 1, .slice Av m cv, x, y)], by rw [List.length_append, ← HNL.out]; exact ReadsF.of_own ho3 (fun b h1 _ => .inr (by have := HSZ.out; have h7 : X.drew.heap.size = X.heap.size := rfl; omega)), ((HH2.out.snoc (a := ofKind (k, 1, b, x, y) (k % 6)) rfl rfl HHD.out rfl rfl).bel (BelF.of (w := X) (k := X.heap.size) ⟨hb3.os, hb3.tape, hb3.output, hb3.size, hb3.block⟩ (Nat.le_refl _))).mono fun b h => .inl h⟩)
                have HR1 := Lib.hid (show RdA w3 (F3 w F) AS sf from (HS5.out.bel (BelF.of (w := X) (k := X.heap.size) ⟨hb3.os, hb3.tape, hb3.output, hb3.size, hb3.block⟩ (Nat.le_refl _))).mono fun b h => .inl h)
                have HB3 := Lib.hid (show Below w.heap.size w w3 from HB5.out.trans (Below.mono (B := X.heap.size) ⟨hb3.os, hb3.tape, hb3.output, hb3.size, hb3.block⟩ HB5.out.size))
                have x0 := keepc (W := X.drew) d0 hb3
                have x1 := keepc (W := X.drew) d1 hb3
                have x2 := keepc (W := X.drew) d2 hb3
                have x3 := keepc (W := X.drew) d3 hb3
                have x4 := keepc (W := X.drew) d4 hb3
                have y0 := keepc (W := X.drew) z0 hb3
                have y1 := keepc (W := X.drew) z1 hb3
                have y2 := keepc (W := X.drew) z2 hb3
                have y3 := keepc (W := X.drew) z3 hb3
                have y4 := keepc (W := X.drew) z4 hb3
                have xf : ∀ j, w3.frozen? ⟨w.heap.size, j, none⟩ = false := fun j => (hb3.frozen (show (Addr.mk w.heap.size j none).block < X.drew.heap.size by have := HSZ.out; have h7 : X.drew.heap.size = X.heap.size := rfl; simp only; omega)).trans (dF j)
                have yf : ∀ j, w3.frozen? ⟨w.heap.size + 1 + 1, j, none⟩ = false := fun j => (hb3.frozen (show (Addr.mk (w.heap.size + 1 + 1) j none).block < X.drew.heap.size by have := HSZ.out; have h7 : X.drew.heap.size = X.heap.size := rfl; simp only; omega)).trans (zF j)
                have HN2 := Lib.hid (show nL + 1 = (lo ++ [ofKind (k, 1, b, x, y) (k % 6)]).length by rw [List.length_append, ← HNL.out]; rfl)
                clear ho3 hb3 d0 d1 d2 d3 d4 z0 z1 z2 z3 z4 a1 a2 a3 a4 a0' dF zF HS5 HL5 HV5 HHD HH2 hcopy hh1 hone
                (refine tail.till_take 7 (v := ?_) rfl (by kernel_rfl) (by kernel_rfl) (by kernel_rfl) (by kernel_rfl) (by kernel_rfl) (fun _ _ _ h => h) (by rfl) (by assumption) ?_ ?_; rotate_left 1; (focus (intro X hX; obtain ⟨s1, s2, s3, s4, s5, s6⟩ := hX; go_simp; with_reducible rfl)); (try simp only [Act.put, List.setIfInBounds_toArray, List.set_cons_zero, List.set_cons_succ]))
                refine tail.till_one 8 (by kernel_rfl) rfl (fun K hK => ?_)
                go_simp
                refine hK.out _ _ (fun h => absurd rfl h) ?_
                clear hK K
                refine tail.till_done (by kernel_rfl) ?_ _
                go_wp2_with fail
                refine bodyPost_ret (v := .tuple #[.agg #[.slice AS nS cS, .slice A3 (nL + 1) c3, .int .i64 (0), .bool true, .bool true], .int .i64 0]) ?_ rfl ?_
                · rw [results_cell_tmp rfl]; go_simp; first | done | rfl
                · rw [HDO.out]
                  refine ⟨AS, nS, cS, A3, (nL + 1), c3, rfl, HNS.out, HN2.out, ?_, ?_, ?_⟩
                  · refine RdA.mono ?_ (F3_since w F)
                    repeat (with_reducible refine RdA.setC ?_ (F3_not HF.out (by simp only; omega) (by simp only; omega)) _)
                    exact HR1.out
                  · refine RdA.mono ?_ (F3_since w F)
                    repeat (with_reducible refine RdA.setC ?_ (F3_not HF.out (by simp only; omega) (by simp only; omega)) _)
                    exact HR2.out
                  · repeat (with_reducible refine Below.setCell ?_ (by simp only; omega) _)
                    exact HB3.out
              · intro K hK
                obtain ⟨A2, c2, w2, A3, c3, w3, run1, run2, ho3, hb2, hb3⟩ := order_A2 (k % 6) 1 x y X.drew hone hcopy hh1 hlen (cL := cL)
                have hbE : Below X.drew.heap.size X.drew (X.drew.alloc (.cells #[] 39)) := (Below.refl _ _).alloc (Nat.le_refl _) _
                have hbR : Below X.drew.heap.size X.drew (X.drew.alloc (.cells #[.int .u8 (k % 6), .int .i64 1, .slice Av m cv, .int .i64 x, .int .i64 y] 39)) := (Below.refl _ _).alloc (Nat.le_refl _) _
                have hbER : Below X.drew.heap.size X.drew ((X.drew.alloc (.cells #[] 39)).alloc (.cells #[.int .u8 (k % 6), .int .i64 1, .slice Av m cv, .int .i64 x, .int .i64 y] 39)) := hbE.alloc hbE.size _
                have hbS := hbER
                have hSER : (fun X : World => (X.cell? ⟨w.heap.size, 1, none⟩ = some (.slice AL nL cL) ∧ X.cell? ⟨w.heap.size + 1, 0, none⟩ = some (.int .u8 (k % 6)) ∧ X.cell? ⟨w.heap.size + 1, 1, none⟩ = some (.int .i64 1) ∧ X.cell? ⟨w.heap.size + 1, 2, none⟩ = some (.slice Av m cv) ∧ X.cell? ⟨w.heap.size + 1, 3, none⟩ = some (.int .i64 x) ∧ X.cell? ⟨w.heap.size + 1, 4, none⟩ = some (.int .i64 y))) ((X.drew.alloc (.cells #[] 39)).alloc (.cells #[.int .u8 (k % 6), .int .i64 1, .slice Av m cv, .int .i64 x, .int .i64 y] 39)) := ⟨keepc (W := X.drew) d1 hbS, keepc (W := X.drew) a0' hbS, keepc (W := X.drew) a1 hbS, keepc (W := X.drew) a2 hbS, keepc (W := X.drew) a3 hbS, keepc (W := X.drew) a4 hbS⟩
                clear hbS
                have hbS := hb2
                have hS2 : (fun X : World => (X.cell? ⟨w.heap.size, 1, none⟩ = some (.slice AL nL cL) ∧ X.cell? ⟨w.heap.size + 1, 0, none⟩ = some (.int .u8 (k % 6)) ∧ X.cell? ⟨w.heap.size + 1, 1, none⟩ = some (.int .i64 1) ∧ X.cell? ⟨w.heap.size + 1, 2, none⟩ = some (.slice Av m cv) ∧ X.cell? ⟨w.heap.size + 1, 3, none⟩ = some (.int .i64 x) ∧ X.cell? ⟨w.heap.size + 1, 4, none⟩ = some (.int .i64 y))) w2 := ⟨keepc (W := X.drew) d1 hbS, keepc (W := X.drew) a0' hbS, keepc (W := X.drew) a1 hbS, keepc (W := X.drew) a2 hbS, keepc (W := X.drew) a3 hbS, keepc (W := X.drew) a4 hbS⟩
                clear hbS
                have hbS := hb3
                have hS3 : (fun X : World => (X.cell? ⟨w.heap.size, 1, none⟩ = some (.slice AL nL cL) ∧ X.cell? ⟨w.heap.size + 1, 0, none⟩ = some (.int .u8 (k % 6)) ∧ X.cell? ⟨w.heap.size + 1, 1, none⟩ = some (.int .i64 1) ∧ X.cell? ⟨w.heap.size + 1, 2, none⟩ = some (.slice Av m cv) ∧ X.cell? ⟨w.heap.size + 1, 3, none⟩ = some (.int .i64 x) ∧ X.cell? ⟨w.heap.size + 1, 4, none⟩ = some (.int .i64 y))) w3 := ⟨keepc (W := X.drew) d1 hbS, keepc (W := X.drew) a0' hbS, keepc (W := X.drew) a1 hbS, keepc (W := X.drew) a2 hbS, keepc (W := X.drew) a3 hbS, keepc (W := X.drew) a4 hbS⟩
                clear hbS
                clear hbER hb2 hbE hbR
                go_simp
                refine hK.out _ _ (fun _ => hSER) ?_
                clear hK K
                try simp only [Act.put, List.setIfInBounds_toArray, List.set_cons_zero, List.set_cons_succ]
                refine tail.till_one 3 (by kernel_rfl) rfl (fun K hK => ?_)
                refine step_append_run rfl rfl rfl rfl run1 ?_
                refine hK.out _ _ (fun _ => hS2) ?_
                clear hK K
                try simp only [Act.put, List.setIfInBounds_toArray, List.set_cons_zero, List.set_cons_succ]
                refine tail.till_one 6 (by kernel_rfl) rfl (fun K hK => ?_)
                refine step_append_run rfl rfl rfl rfl run2 ?_
                refine hK.out _ _ (fun _ => hS3) ?_
                clear hK K
                try simp only [Act.put, List.setIfInBounds_toArray, List.set_cons_zero, List.set_cons_succ]
                clear hSE hS2 hSER run1 run2
                have HR2 := Lib.hid (show RdA w3 (F3 w F) A3 (lo ++ [ofKind (k, 1, b, x, y) (k % 6)]) from ⟨HLl ++ [(k % 6, 1, .slice Av m cv, x, y)], by rw [List.length_append, ← HNL.out]; exact ReadsF.of_own ho3 (fun b h1 _ => .inr (by have := HSZ.out; have h7 : X.drew.heap.size = X.heap.size := rfl; omega)), ((HH2.out.snoc (a := ofKind (k, 1, b, x, y) (k % 6)) rfl rfl HHD.out rfl rfl).bel (BelF.of (w := X) (k := X.heap.size) ⟨hb3.os, hb3.tape, hb3.output, hb3.size, hb3.block⟩ (Nat.le_refl _))).mono fun b h => .inl h⟩)
                have HR1 := Lib.hid (show RdA w3 (F3 w F) AS sf from (HS5.out.bel (BelF.of (w := X) (k := X.heap.size) ⟨hb3.os, hb3.tape, hb3.output, hb3.size, hb3.block⟩ (Nat.le_refl _))).mono fun b h => .inl h)
                have HB3 := Lib.hid (show Below w.heap.size w w3 from HB5.out.trans (Below.mono (B := X.heap.size) ⟨hb3.os, hb3.tape, hb3.output, hb3.size, hb3.block⟩ HB5.out.size))
                have x0 := keepc (W := X.drew) d0 hb3
                have x1 := keepc (W := X.drew) d1 hb3
                have x2 := keepc (W := X.drew) d2 hb3
                have x3 := keepc (W := X.drew) d3 hb3
                have x4 := keepc (W := X.drew) d4 hb3
                have y0 := keepc (W := X.drew) z0 hb3
                have y1 := keepc (W := X.drew) z1 hb3
                have y2 := keepc (W := X.drew) z2 hb3
                have y3 := keepc (W := X.drew) z3 hb3
                have y4 := keepc (W := X.drew) z4 hb3
                have xf : ∀ j, w3.frozen? ⟨w.heap.size, j, none⟩ = false := fun j => (hb3.frozen (show (Addr.mk w.heap.size j none).block < X.drew.heap.size by have := HSZ.out; have h7 : X.drew.heap.size = X.heap.size := rfl; simp only; omega)).trans (dF j)
                have yf : ∀ j, w3.frozen? ⟨w.heap.size + 1 + 1, j, none⟩ = false := fun j => (hb3.frozen (show (Addr.mk (w.heap.size + 1 + 1) j none).block < X.drew.heap.size by have := HSZ.out; have h7 : X.drew.heap.size = X.heap.size := rfl; simp only; omega)).trans (zF j)
                have HN2 := Lib.hid (show nL + 1 = (lo ++ [ofKind (k, 1, b, x, y) (k % 6)]).length by rw [List.length_append, ← HNL.out]; rfl)
                clear ho3 hb3 d0 d1 d2 d3 d4 z0 z1 z2 z3 z4 a1 a2 a3 a4 a0' dF zF HS5 HL5 HV5 HHD HH2 hcopy hh1 hone
                (refine tail.till_take 7 (v := ?_) rfl (by kernel_rfl) (by kernel_rfl) (by kernel_rfl) (by kernel_rfl) (by kernel_rfl) (fun _ _ _ h => h) (by rfl) (by assumption) ?_ ?_; rotate_left 1; (focus (intro X hX; obtain ⟨s1, s2, s3, s4, s5, s6⟩ := hX; go_simp; with_reducible rfl)); (try simp only [Act.put, List.setIfInBounds_toArray, List.set_cons_zero, List.set_cons_succ]))
                refine tail.till_one 8 (by kernel_rfl) rfl (fun K hK => ?_)
                go_simp
                refine hK.out _ _ (fun h => absurd rfl h) ?_
                clear hK K
                refine tail.till_done (by kernel_rfl) ?_ _
                go_wp2_with fail
                refine bodyPost_ret (v := .tuple #[.agg #[.slice AS nS cS, .slice A3 (nL + 1) c3, .int .i64 (0), .bool true, .bool true], .int .i64 0]) ?_ rfl ?_
                · rw [results_cell_tmp rfl]; go_simp; first | done | rfl
                · rw [HDO.out]
                  refine ⟨AS, nS, cS, A3, (nL + 1), c3, rfl, HNS.out, HN2.out, ?_, ?_, ?_⟩
                  · refine RdA.mono ?_ (F3_since w F)
                    repeat (with_reducible refine RdA.setC ?_ (F3_not HF.out (by simp only; omega) (by simp only; omega)) _)
                    exact HR1.out
                  · refine RdA.mono ?_ (F3_since w F)
                    repeat (with_reducible refine RdA.setC ?_ (F3_not HF.out (by simp only; omega) (by simp only; omega)) _)
                    exact HR2.out
                  · repeat (with_reducible refine Below.setCell ?_ (by simp only; omega) _)
                    exact HB3.out
            · intro K hK
              obtain ⟨A2, c2, w2, A3, c3, w3, run1, run2, ho3, hb2, hb3⟩ := order_B (k % 6) 1 x y X.drew hone hcopy hh1 hlen (cL := cL)
              have hbE : Below X.drew.heap.size X.drew (X.drew.alloc (.cells #[] 39)) := (Below.refl _ _).alloc (Nat.le_refl _) _
              have hbR : Below X.drew.heap.size X.drew (X.drew.alloc (.cells #[.int .u8 (k % 6), .int .i64 1, .slice Av m cv, .int .i64 x, .int .i64 y] 39)) := (Below.refl _ _).alloc (Nat.le_refl _) _
              have hbS := hbR
              have hSR : (fun X : World => (X.cell? ⟨w.heap.size, 1, none⟩ = some (.slice AL nL cL) ∧ X.cell? ⟨w.heap.size + 1, 0, none⟩ = some (.int .u8 (k % 6)) ∧ X.cell? ⟨w.heap.size + 1, 1, none⟩ = some (.int .i64 1) ∧ X.cell? ⟨w.heap.size + 1, 2, none⟩ = some (.slice Av m cv) ∧ X.cell? ⟨w.heap.size + 1, 3, none⟩ = some (.int .i64 x) ∧ X.cell? ⟨w.heap.size + 1, 4, none⟩ = some (.int .i64 y))) (X.drew.alloc (.cells #[.int .u8 (k % 6), .int .i64 1, .slice Av m cv, .int .i64 x, .int .i64 y] 39)) := ⟨keepc (W := X.drew) d1 hbS, keepc (W := X.drew) a0' hbS, keepc (W := X.drew) a1 hbS, keepc (W := X.drew) a2 hbS, keepc (W := X.drew) a3 hbS, keepc (W := X.drew) a4 hbS⟩
              clear hbS
              have hbRE : Below X.drew.heap.size X.drew ((X.drew.alloc (.cells #[.int .u8 (k % 6), .int .i64 1, .slice Av m cv, .int .i64 x, .int .i64 y] 39)).alloc (.cells #[] 39)) := hbR.alloc hbR.size _
              have hbS := hbRE
              have hSRE : (fun X : World => (X.cell? ⟨w.heap.size, 1, none⟩ = some (.slice AL nL cL) ∧ X.cell? ⟨w.heap.size + 1, 0, none⟩ = some (.int .u8 (k % 6)) ∧ X.cell? ⟨w.heap.size + 1, 1, none⟩ = some (.int .i64 1) ∧ X.cell? ⟨w.heap.size + 1, 2, none⟩ = some (.slice Av m cv) ∧ X.cell? ⟨w.heap.size + 1, 3, none⟩ = some (.int .i64 x) ∧ X.cell? ⟨w.heap.size + 1, 4, none⟩ = some (.int .i64 y))) ((X.drew.alloc (.cells #[.int .u8 (k % 6), .int .i64 1, .slice Av m cv, .int .i64 x, .int .i64 y] 39)).alloc (.cells #[] 39)) := ⟨keepc (W := X.drew) d1 hbS, keepc (W := X.drew) a0' hbS, keepc (W := X.drew) a1 hbS, keepc (W := X.drew) a2 hbS, keepc (W := X.drew) a3 hbS, keepc (W := X.drew) a4 hbS⟩
              clear hbS
              have hbS := hb2
              have hS2 : (fun X : World => (X.cell? ⟨w.heap.size, 1, none⟩ = some (.slice AL nL cL) ∧ X.cell? ⟨w.heap.size + 1, 0, none⟩ = some (.int .u8 (k % 6)) ∧ X.cell? ⟨w.heap.size + 1, 1, none⟩ = some (.int .i64 1) ∧ X.cell? ⟨w.heap.size + 1, 2, none⟩ = some (.slice Av m cv) ∧ X.cell? ⟨w.heap.size + 1, 3, none⟩ = some (.int .i64 x) ∧ X.cell? ⟨w.heap.size + 1, 4, none⟩ = some (.int .i64 y))) w2 := ⟨keepc (W := X.drew) d1 hbS, keepc (W := X.drew) a0' hbS, keepc (W := X.drew) a1 hbS, keepc (W := X.drew) a2 hbS, keepc (W := X.drew) a3 hbS, keepc (W := X.drew) a4 hbS⟩
              clear hbS
              have hbS := hb3
              have hS3 : (fun X : World => (X.cell? ⟨w.heap.size, 1, none⟩ = some (.slice AL nL cL) ∧ X.cell? ⟨w.heap.size + 1, 0, none⟩ = some (.int .u8 (k % 6)) ∧ X.cell? ⟨w.heap.size + 1, 1, none⟩ = some (.int .i64 1) ∧ X.cell? ⟨w.heap.size + 1, 2, none⟩ = some (.slice Av m cv) ∧ X.cell? ⟨w.heap.size + 1, 3, none⟩ = some (.int .i64 x) ∧ X.cell? ⟨w.heap.size + 1, 4, none⟩ = some (.int .i64 y))) w3 := ⟨keepc (W := X.drew) d1 hbS, keepc (W := X.drew) a0' hbS, keepc (W := X.drew) a1 hbS, keepc (W := X.drew) a2 hbS, keepc (W := X.drew) a3 hbS, keepc (W := X.drew) a4 hbS⟩
              clear hbS
              clear hbRE hb2 hbE hbR
              go_simp
              refine hK.out _ _ (fun _ => hSR) ?_
              clear hK K
              try simp only [Act.put, List.setIfInBounds_toArray, List.set_cons_zero, List.set_cons_succ]
              refine tail.till_one 0 (by kernel_rfl) rfl (fun K hK => ?_)
              go_simp
              refine hK.out _ _ (fun _ => hSRE) ?_
              clear hK K
              try simp only [Act.put, List.setIfInBounds_toArray, List.set_cons_zero, List.set_cons_succ]
              refine tail.till_one 3 (by kernel_rfl) rfl (fun K hK => ?_)
              refine step_append_run rfl rfl rfl rfl run1 ?_
              refine hK.out _ _ (fun _ => hS2) ?_
              clear hK K
              try simp only [Act.put, List.setIfInBounds_toArray, List.set_cons_zero, List.set_cons_succ]
              refine tail.till_one 6 (by kernel_rfl) rfl (fun K hK => ?_)
              refine step_append_run rfl rfl rfl rfl run2 ?_
              refine hK.out _ _ (fun _ => hS3) ?_
              clear hK K
              try simp only [Act.put, List.setIfInBounds_toArray, List.set_cons_zero, List.set_cons_succ]
              clear hSR hS2 hSRE run1 run2
              have HR2 := Lib.hid (show RdA w3 (F3 w F) A3 (lo ++ [ofKind (k, 1, b, x, y) (k % 6)]) from ⟨HLl ++ [(k % 6, 1, .slice Av m cv, x, y)], by rw [List.length_append, ← HNL.out]; exact ReadsF.of_own ho3 (fun b h1 _ => .inr (by have := HSZ.out; have h7 : X.drew.heap.size = X.heap.size := rfl; omega)), ((HH2.out.snoc (a := ofKind (k, 1, b, x, y) (k % 6)) rfl rfl HHD.out rfl rfl).bel (BelF.of (w := X) (k := X.heap.size) ⟨hb3.os, hb3.tape, hb3.output, hb3.size, hb3.block⟩ (Nat.le_refl _))).mono fun b h => .inl h⟩)
              have HR1 := Lib.hid (show RdA w3 (F3 w F) AS sf from (HS5.out.bel (BelF.of (w := X) (k := X.heap.size) ⟨hb3.os, hb3.tape, hb3.output, hb3.size, hb3.block⟩ (Nat.le_refl _))).mono fun b h => .inl h)
              have HB3 := Lib.hid (show Below w.heap.size w w3 from HB5.out.trans (Below.mono (B := X.heap.size) ⟨hb3.os, hb3.tape, hb3.output, hb3.size, hb3.block⟩ HB5.out.size))
              have x0 := keepc (W := X.drew) d0 hb3
              have x1 := keepc (W := X.drew) d1 hb3
              have x2 := keepc (W := X.drew) d2 hb3
              have x3 := keepc (W := X.drew) d3 hb3
              have x4 := keepc (W := X.drew) d4 hb3
              have y0 := keepc (W := X.drew) z0 hb3
              have y1 := keepc (W := X.drew) z1 hb3
              have y2 := keepc (W := X.drew) z2 hb3
              have y3 := keepc (W := X.drew) z3 hb3
              have y4 := keepc (W := X.drew) z4 hb3
              have xf : ∀ j, w3.frozen? ⟨w.heap.size, j, none⟩ = false := fun j => (hb3.frozen (show (Addr.mk w.heap.size j none).block < X.drew.heap.size by have := HSZ.out; have h7 : X.drew.heap.size = X.heap.size := rfl; simp only; omega)).trans (dF j)
              have yf : ∀ j, w3.frozen? ⟨w.heap.size + 1 + 1, j, none⟩ = false := fun j => (hb3.frozen (show (Addr.mk (w.heap.size + 1 + 1) j none).block < X.drew.heap.size by have := HSZ.out; have h7 : X.drew.heap.size = X.heap.size := rfl; simp only; omega)).trans (zF j)
              have HN2 := Lib.hid (show nL + 1 = (lo ++ [ofKind (k, 1, b, x, y) (k % 6)]).length by rw [List.length_append, ← HNL.out]; rfl)
              clear ho3 hb3 d0 d1 d2 d3 d4 z0 z1 z2 z3 z4 a1 a2 a3 a4 a0' dF zF HS5 HL5 HV5 HHD HH2 hcopy hh1 hone
              (refine tail.till_take 7 (v := ?_) rfl (by kernel_rfl) (by kernel_rfl) (by kernel_rfl) (by kernel_rfl) (by kernel_rfl) (fun _ _ _ h => h) (by rfl) (by assumption) ?_ ?_; rotate_left 1; (focus (intro X hX; obtain ⟨s1, s2, s3, s4, s5, s6⟩ := hX; go_simp; with_reducible rfl)); (try simp only [Act.put, List.setIfInBounds_toArray, List.set_cons_zero, List.set_cons_succ]))
              refine tail.till_one 8 (by kernel_rfl) rfl (fun K hK => ?_)
              go_simp
              refine hK.out _ _ (fun h => absurd rfl h) ?_
              clear hK K
              refine tail.till_done (by kernel_rfl) ?_ _
              go_wp2_with fail
              refine bodyPost_ret (v := .tuple #[.agg #[.slice AS nS cS, .slice A3 (nL + 1) c3, .int .i64 (0), .bool true, .bool true], .int .i64 0]) ?_ rfl ?_
              · rw [results_cell_tmp rfl]; go_simp; first | done | rfl
              · rw [HDO.out]
                refine ⟨AS, nS, cS, A3, (nL + 1), c3, rfl, HNS.out, HN2.out, ?_, ?_, ?_⟩
                · refine RdA.mono ?_ (F3_since w F)
                  repeat (with_reducible refine RdA.setC ?_ (F3_not HF.out (by simp only; omega) (by simp only; omega)) _)
                  exact HR1.out
                · refine RdA.mono ?_ (F3_since w F)
                  repeat (with_reducible refine RdA.setC ?_ (F3_not HF.out (by simp only; omega) (by simp only; omega)) _)
                  exact HR2.out
                · repeat (with_reducible refine Below.setCell ?_ (by simp only; omega) _)
                  exact HB3.out
          · obtain ⟨l1, l2⟩ := hlf
            have h2 : ¬ lf - 1 = 0 := by omega
            have h3 : (0 : Int) ≤ lf - 1 := by omega
            have HDO := Lib.hid (show doR ⟨sf, lo, lf, true, false⟩ (k, 1, b, x, y) = (⟨sf, lo ++ [ofKind (k, 1, b, x, y) (k % 6)], lf - 1, true, false⟩, 0) from by unfold doR; simp [q4, q5, q3, e3, countR, h1])
            have e1 : V.heap.size = w.heap.size + 3 := HSV.out
            have hset : ∀ b, b ≠ w.heap.size + 1 → (V.setCell ⟨w.heap.size + 1, 0, none⟩ (.int .u8 (k % 6))).heap[b]? = V.heap[b]? := fun b hb => heap_setCell_other V ⟨w.heap.size + 1, 0, none⟩ b _ (fun e => hb e)
            have Xd0 : (V.setCell ⟨w.heap.size + 1, 0, none⟩ (.int .u8 (k % 6))).cell? ⟨w.heap.size, 0, none⟩ = _ := (World.cell?_of_block (hset _ (by simp only; omega))).trans d0
            have Xd1 : (V.setCell ⟨w.heap.size + 1, 0, none⟩ (.int .u8 (k % 6))).cell? ⟨w.heap.size, 1, none⟩ = _ := (World.cell?_of_block (hset _ (by simp only; omega))).trans d1
            have Xd2 : (V.setCell ⟨w.heap.size + 1, 0, none⟩ (.int .u8 (k % 6))).cell? ⟨w.heap.size, 2, none⟩ = _ := (World.cell?_of_block (hset _ (by simp only; omega))).trans d2
            have Xd3 : (V.setCell ⟨w.heap.size + 1, 0, none⟩ (.int .u8 (k % 6))).cell? ⟨w.heap.size, 3, none⟩ = _ := (World.cell?_of_block (hset _ (by simp only; omega))).trans d3
            have Xd4 : (V.setCell ⟨w.heap.size + 1, 0, none⟩ (.int .u8 (k % 6))).cell? ⟨w.heap.size, 4, none⟩ = _ := (World.cell?_of_block (hset _ (by simp only; omega))).trans d4
            have Xz0 : (V.setCell ⟨w.heap.size + 1, 0, none⟩ (.int .u8 (k % 6))).cell? ⟨w.heap.size + 1 + 1, 0, none⟩ = _ := (World.cell?_of_block (hset _ (by simp only; omega))).trans z0
            have Xz1 : (V.setCell ⟨w.heap.size + 1, 0, none⟩ (.int .u8 (k % 6))).cell? ⟨w.heap.size + 1 + 1, 1, none⟩ = _ := (World.cell?_of_block (hset _ (by simp only; omega))).trans z1
            have Xz2 : (V.setCell ⟨w.heap.size + 1, 0, none⟩ (.int .u8 (k % 6))).cell? ⟨w.heap.size + 1 + 1, 2, none⟩ = _ := (World.cell?_of_block (hset _ (by simp only; omega))).trans z2
            have Xz3 : (V.setCell ⟨w.heap.size + 1, 0, none⟩ (.int .u8 (k % 6))).cell? ⟨w.heap.size + 1 + 1, 3, none⟩ = _ := (World.cell?_of_block (hset _ (by simp only; omega))).trans z3
            have Xz4 : (V.setCell ⟨w.heap.size + 1, 0, none⟩ (.int .u8 (k % 6))).cell? ⟨w.heap.size + 1 + 1, 4, none⟩ = _ := (World.cell?_of_block (hset _ (by simp only; omega))).trans z4
            have a0' : (V.setCell ⟨w.heap.size + 1, 0, none⟩ (.int .u8 (k % 6))).cell? ⟨w.heap.size + 1, 0, none⟩ = some (.int .u8 (k % 6)) := World.cell?_setCell_same V _ _ a0
            have Xa1 : (V.setCell ⟨w.heap.size + 1, 0, none⟩ (.int .u8 (k % 6))).cell? ⟨w.heap.size + 1, 1, none⟩ = _ := (World.cell?_setCell_other V _ _ _ (by simp)).trans a1
            have Xa2 : (V.setCell ⟨w.heap.size + 1, 0, none⟩ (.int .u8 (k % 6))).cell? ⟨w.heap.size + 1, 2, none⟩ = _ := (World.cell?_setCell_other V _ _ _ (by simp)).trans a2
            have Xa3 : (V.setCell ⟨w.heap.size + 1, 0, none⟩ (.int .u8 (k % 6))).cell? ⟨w.heap.size + 1, 3, none⟩ = _ := (World.cell?_setCell_other V _ _ _ (by simp)).trans a3
            have Xa4 : (V.setCell ⟨w.heap.size + 1, 0, none⟩ (.int .u8 (k % 6))).cell? ⟨w.heap.size + 1, 4, none⟩ = _ := (World.cell?_setCell_other V _ _ _ (by simp)).trans a4
            have dF : ∀ j, (V.setCell ⟨w.heap.size + 1, 0, none⟩ (.int .u8 (k % 6))).frozen? ⟨w.heap.size, j, none⟩ = false := fun j => by simpa using df j
            have zF : ∀ j, (V.setCell ⟨w.heap.size + 1, 0, none⟩ (.int .u8 (k % 6))).frozen? ⟨w.heap.size + 1 + 1, j, none⟩ = false := fun j => by simpa using zf j
            have hnF : ¬ F (w.heap.size + 1) := fun h => by have := HF.out _ h; omega
            have HS5 := Lib.hid (show RdA (V.setCell ⟨w.heap.size + 1, 0, none⟩ (.int .u8 (k % 6))) F AS sf from HS4.out.setC hnF _)
            have HL5 := Lib.hid (show RdA (V.setCell ⟨w.heap.size + 1, 0, none⟩ (.int .u8 (k % 6))) F AL lo from HL4.out.setC hnF _)
            have HV5 := Lib.hid (show RdF (V.setCell ⟨w.heap.size + 1, 0, none⟩ (.int .u8 (k % 6))) F Av b from HV4.out.bel ((BelF.refl F V).setCell hnF _))
            have HB5 := Lib.hid (show Below w.heap.size w (V.setCell ⟨w.heap.size + 1, 0, none⟩ (.int .u8 (k % 6))) from HBV.out.setCell (by simp only; omega) _)
            have HSZ := Lib.hid (show (V.setCell ⟨w.heap.size + 1, 0, none⟩ (.int .u8 (k % 6))).heap.size = w.heap.size + 3 by simpa using e1)
            clear e1 hset hnF HS4 HL4 HV4 HBV HSV HS3 HL3
            go_wp2_with fail
            generalize V.setCell ⟨w.heap.size + 1, 0, none⟩ (.int .u8 (k % 6)) = X at *
            replace d0 := Xd0
            replace d1 := Xd1
            replace d2 := Xd2
            replace d3 := Xd3
            replace d4 := Xd4
            replace z0 := Xz0
            replace z1 := Xz1
            replace z2 := Xz2
            replace z3 := Xz3
            replace z4 := Xz4
            replace a1 := Xa1
            replace a2 := Xa2
            replace a3 := Xa3
            replace a4 := Xa4
            clear Xd0 Xd1 Xd2 Xd3 Xd4 Xz0 Xz1 Xz2 Xz3 Xz4 Xa1 Xa2 Xa3 Xa4 df zf af a0
            obtain ⟨HLl, hL1, hL2⟩ := HL5.out
            rw [← HNL.out] at hL1
            have hone : Value.oneCell' (.slice Av m cv) = true := rfl
            have hcopy : Reads X.drew X.drew.heap.size 5 AL nL (acV HLl) := hL1.rd
            have hh1 := holdA_one hL2
            have hlen : nL ≤ 1000000000 := by have := HLL.out; have := HNL.out; omega
            have HHD := Lib.hid (show HdF X F (.slice Av m cv) b from ⟨Av, cv, by rw [HM.out], HV5.out, by rw [← HM.out]; exact hcv⟩)
            have HH2 := Lib.hid hL2
            have hS0 : (fun X : World => (X.cell? ⟨w.heap.size, 1, none⟩ = some (.slice AL nL cL) ∧ X.cell? ⟨w.heap.size + 1, 0, none⟩ = some (.int .u8 (k % 6)) ∧ X.cell? ⟨w.heap.size + 1, 1, none⟩ = some (.int .i64 1) ∧ X.cell? ⟨w.heap.size + 1, 2, none⟩ = some (.slice Av m cv) ∧ X.cell? ⟨w.heap.size + 1, 3, none⟩ = some (.int .i64 x) ∧ X.cell? ⟨w.heap.size + 1, 4, none⟩ = some (.int .i64 y))) X.drew := ⟨d1, a0', a1, a2, a3, a4⟩
            refine tail.wp_region_till 8 (fun X => (X.cell? ⟨w.heap.size, 1, none⟩ = some (.slice AL nL cL) ∧ X.cell? ⟨w.heap.size + 1, 0, none⟩ = some (.int .u8 (k % 6)) ∧ X.cell? ⟨w.heap.size + 1, 1, none⟩ = some (.int .i64 1) ∧ X.cell? ⟨w.heap.size + 1, 2, none⟩ = some (.slice Av m cv) ∧ X.cell? ⟨w.heap.size + 1, 3, none⟩ = some (.int .i64 x) ∧ X.cell? ⟨w.heap.size + 1, 4, none⟩ = some (.int .i64 y))) (by kernel_rfl) ?_
            (refine tail.till_take 1 (v := ?_) rfl (by kernel_rfl) (by kernel_rfl) (by kernel_rfl) (by kernel_rfl) (by kernel_rfl) (fun _ _ _ h => h) (by rfl) (by assumption) ?_ ?_; rotate_left 1; (focus (intro X hX; obtain ⟨s1, s2, s3, s4, s5, s6⟩ := hX; go_simp; with_reducible rfl)); (try simp only [Act.put, List.setIfInBounds_toArray, List.set_cons_zero, List.set_cons_succ]))
            (refine tail.till_take 2 (v := ?_) rfl (by kernel_rfl) (by kernel_rfl) (by kernel_rfl) (by kernel_rfl) (by kernel_rfl) (fun _ _ _ h => h) (by rfl) (by assumption) ?_ ?_; rotate_left 1; (focus (intro X hX; obtain ⟨s1, s2, s3, s4, s5, s6⟩ := hX; go_simp; with_reducible rfl)); (try simp only [Act.put, List.setIfInBounds_toArray, List.set_cons_zero, List.set_cons_succ]))
            (refine tail.till_take 4 (v := ?_) rfl (by kernel_rfl) (by kernel_rfl) (by kernel_rfl) (by kernel_rfl) (by kernel_rfl) (fun _ _ _ h => h) (by rfl) (by assumption) ?_ ?_; rotate_left 1; (focus (intro X hX; obtain ⟨s1, s2, s3, s4, s5, s6⟩ := hX; go_simp; with_reducible rfl)); (try simp only [Act.put, List.setIfInBounds_toArray, List.set_cons_zero, List.set_cons_succ]))
            refine tail.till_two 0 5 (by kernel_rfl) rfl rfl ?_ ?_
            · intro K hK
              have hbE : Below X.drew.heap.size X.drew (X.drew.alloc (.cells #[] 39)) := (Below.refl _ _).alloc (Nat.le_refl _) _
              have hbS := hbE
              have hSE : (fun X : World => (X.cell? ⟨w.heap.size, 1, none⟩ = some (.slice AL nL cL) ∧ X.cell? ⟨w.heap.size + 1, 0, none⟩ = some (.int .u8 (k % 6)) ∧ X.cell? ⟨w.heap.size + 1, 1, none⟩ = some (.int .i64 1) ∧ X.cell? ⟨w.heap.size + 1, 2, none⟩ = some (.slice Av m cv) ∧ X.cell? ⟨w.heap.size + 1, 3, none⟩ = some (.int .i64 x) ∧ X.cell? ⟨w.heap.size + 1, 4, none⟩ = some (.int .i64 y))) (X.drew.alloc (.cells #[] 39)) := ⟨keepc (W := X.drew) d1 hbS, keepc (W := X.drew) a0' hbS, keepc (W := X.drew) a1 hbS, keepc (W := X.drew) a2 hbS, keepc (W := X.drew) a3 hbS, keepc (W := X.drew) a4 hbS⟩
              clear hbS
              go_simp
              refine hK.out _ _ (fun _ => hSE) ?_
              clear hK K
              try simp only [Act.put, List.setIfInBounds_toArray, List.set_cons_zero, List.set_cons_succ]
              refine tail.till_two 3 5 (by kernel_rfl) rfl rfl ?_ ?_
              · intro K hK
                obtain ⟨A2, c2, w2, A3, c3, w3, run1, run2, ho3, hb2, hb3⟩ := order_A1 (k % 6) 1 x y X.drew hone hcopy hh1 hlen (cL := cL)
                have hbE : Below X.drew.heap.size X.drew (X.drew.alloc (.cells #[] 39)) := (Below.refl _ _).alloc (Nat.le_refl _) _
                have hbR : Below X.drew.heap.size X.drew (X.drew.alloc (.cells #[.int .u8 (k % 6), .int .i64 1, .slice Av m cv, .int .i64 x, .int .i64 y] 39)) := (Below.refl _ _).alloc (Nat.le_refl _) _
                have hbS := hb2
                have hS2 : (fun X : World => (X.cell? ⟨w.heap.size, 1, none⟩ = some (.slice AL nL cL) ∧ X.cell? ⟨w.heap.size + 1, 0, none⟩ = some (.int .u8 (k % 6)) ∧ X.cell? ⟨w.heap.size + 1, 1, none⟩ = some (.int .i64 1) ∧ X.cell? ⟨w.heap.size + 1, 2, none⟩ = some (.slice Av m cv) ∧ X.cell? ⟨w.heap.size + 1, 3, none⟩ = some (.int .i64 x) ∧ X.cell? ⟨w.heap.size + 1, 4, none⟩ = some (.int .i64 y))) w2 := ⟨keepc (W := X.drew) d1 hbS, keepc (W := X.drew) a0' hbS, keepc (W := X.drew) a1 hbS, keepc (W := X.drew) a2 hbS, keepc (W := X.drew) a3 hbS, keepc (W := X.drew) a4 hbS⟩
                clear hbS
                have hb2R : Below X.drew.heap.size X.drew (w2.alloc (.cells #[.int .u8 (k % 6), .int .i64 1, .slice Av m cv, .int .i64 x, .int .i64 y] 39)) := hb2.alloc hb2.size _
                have hbS := hb2R
                have hS2R : (fun X : World => (X.cell? ⟨w.heap.size, 1, none⟩ = some (.slice AL nL cL) ∧ X.cell? ⟨w.heap.size + 1, 0, none⟩ = some (.int .u8 (k % 6)) ∧ X.cell? ⟨w.heap.size + 1, 1, none⟩ = some (.int .i64 1) ∧ X.cell? ⟨w.heap.size + 1, 2, none⟩ = some (.slice Av m cv) ∧ X.cell? ⟨w.heap.size + 1, 3, none⟩ = some (.int .i64 x) ∧ X.cell? ⟨w.heap.size + 1, 4, none⟩ = some (.int .i64 y))) (w2.alloc (.cells #[.int .u8 (k % 6), .int .i64 1, .slice Av m cv, .int .i64 x, .int .i64 y] 39)) := ⟨keepc (W := X.drew) d1 hbS, keepc (W := X.drew) a0' hbS, keepc (W := X.drew) a1 hbS, keepc (W := X.drew) a2 hbS, keepc (W := X.drew) a3 hbS, keepc (W := X.drew) a4 hbS⟩
                clear hbS
                have hbS := hb3
                have hS3 : (fun X : World => (X.cell? ⟨w.heap.size, 1, none⟩ = some (.slice AL nL cL) ∧ X.cell? ⟨w.heap.size + 1, 0, none⟩ = some (.int .u8 (k % 6)) ∧ X.cell? ⟨w.heap.size + 1, 1, none⟩ = some (.int .i64 1) ∧ X.cell? ⟨w.heap.size + 1, 2, none⟩ = some (.slice Av m cv) ∧ X.cell? ⟨w.heap.size + 1, 3, none⟩ = some (.int .i64 x) ∧ X.cell? ⟨w.heap.size + 1, 4, none⟩ = some (.int .i64 y))) w3 := ⟨keepc (W := X.drew) d1 hbS, keepc (W := X.drew) a0' hbS, keepc (W := X.drew) a1 hbS, keepc (W := X.drew) a2 hbS, keepc (W := X.drew) a3 hbS, keepc (W := X.drew) a4 hbS⟩
                clear hbS
                clear hb2R hb2 hbE hbR
                refine step_append_run rfl rfl rfl rfl run1 ?_
                refine hK.out _ _ (fun _ => hS2) ?_
                clear hK K
                try simp only [Act.put, List.setIfInBounds_toArray, List.set_cons_zero, List.set_cons_succ]
                refine tail.till_one 5 (by kernel_rfl) rfl (fun K hK => ?_)
                go_simp
                refine hK.out _ _ (fun _ => hS2R) ?_
                clear hK K
                try simp only [Act.put, List.setIfInBounds_toArray, List.set_cons_zero, List.set_cons_succ]
                refine tail.till_one 6 (by kernel_rfl) rfl (fun K hK => ?_)
                refine step_append_run rfl rfl rfl rfl run2 ?_
                refine hK.out _ _ (fun _ => hS3) ?_
                clear hK K
                try simp only [Act.put, List.setIfInBounds_toArray, List.set_cons_zero, List.set_cons_succ]
                clear hSE hS2 hS2R run1 run2
                have HR2 := Lib.hid (show RdA w3 (F3 w F) A3 (lo ++ [ofKind (k, 1, b, x, y) (k % 6)]) from ⟨HLl ++ [(k % 6, 1, .slice Av m cv, x, y)], by rw [List.length_append, ← HNL.out]; exact ReadsF.of_own ho3 (fun b h1 _ => .inr (by have := HSZ.out; have h7 : X.drew.heap.size = X.heap.size := rfl; omega)), ((HH2.out.snoc (a := ofKind (k, 1, b, x, y) (k % 6)) rfl rfl HHD.out rfl rfl).bel (BelF.of (w := X) (k := X.heap.size) ⟨hb3.os, hb3.tape, hb3.output, hb3.size, hb3.block⟩ (Nat.le_refl _))).mono fun b h => .inl h⟩)
                have HR1 := Lib.hid (show RdA w3 (F3 w F) AS sf from (HS5.out.bel (BelF.of (w := X) (k := X.heap.size) ⟨hb3.os, hb3.tape, hb3.output, hb3.size, hb3.block⟩ (Nat.le_refl _))).mono fun b h => .inl h)
                have HB3 := Lib.hid (show Below w.heap.size w w3 from HB5.out.trans (Below.mono (B := X.heap.size) ⟨hb3.os, hb3.tape, hb3.output, hb3.size, hb3.block⟩ HB5.out.size))
                have x0 := keepc (W := X.drew) d0 hb3
                have x1 := keepc (W := X.drew) d1 hb3
                have x2 := keepc (W := X.drew) d2 hb3
                have x3 := keepc (W := X.drew) d3 hb3
                have x4 := keepc (W := X.drew) d4 hb3
                have y0 := keepc (W := X.drew) z0 hb3
                have y1 := keepc (W := X.drew) z1 hb3
                have y2 := keepc (W := X.drew) z2 hb3
                have y3 := keepc (W := X.drew) z3 hb3
                have y4 := keepc (W := X.drew) z4 hb3
                have xf : ∀ j, w3.frozen? ⟨w.heap.size, j, none⟩ = false := fun j => (hb3.frozen (show (Addr.mk w.heap.size j none).block < X.drew.heap.size by have := HSZ.out; have h7 : X.drew.heap.size = X.heap.size := rfl; simp only; omega)).trans (dF j)
                have yf : ∀ j, w3.frozen? ⟨w.heap.size + 1 + 1, j, none⟩ = false := fun j => (hb3.frozen (show (Addr.mk (w.heap.size + 1 + 1) j none).block < X.drew.heap.size by have := HSZ.out; have h7 : X.drew.heap.size = X.heap.size := rfl; simp only; omega)).trans (zF j)
                have HN2 := Lib.hid (show nL + 1 = (lo ++ [ofKind (k, 1, b, x, y) (k % 6)]).length by rw [List.length_append, ← HNL.out]; rfl)
                clear ho3 hb3 d0 d1 d2 d3 d4 z0 z1 z2 z3 z4 a1 a2 a3 a4 a0' dF zF HS5 HL5 HV5 HHD HH2 hcopy hh1 hone
                (refine tail.till_take 7 (v := ?_) rfl (by kernel_rfl) (by kernel_rfl) (by kernel_rfl) (by kernel_rfl) (by kernel_rfl) (fun _ _ _ h => h) (by rfl) (by assumption) ?_ ?_; rotate_left 1; (focus (intro X hX; obtain ⟨s1, s2, s3, s4, s5, s6⟩ := hX; go_simp; with_reducible rfl)); (try simp only [Act.put, List.setIfInBounds_toArray, List.set_cons_zero, List.set_cons_succ]))
                refine tail.till_one 8 (by kernel_rfl) rfl (fun K hK => ?_)
                go_simp
                refine hK.out _ _ (fun h => absurd rfl h) ?_
                clear hK K
                refine tail.till_done (by kernel_rfl) ?_ _
                go_wp2_with fail
                refine bodyPost_ret (v := .tuple #[.agg #[.slice AS nS cS, .slice A3 (nL + 1) c3, .int .i64 (lf - 1), .bool true, .bool false], .int .i64 0]) ?_ rfl ?_
                · rw [results_cell_tmp rfl]; go_simp; first | done | rfl
                · rw [HDO.out]
                  refine ⟨AS, nS, cS, A3, (nL + 1), c3, rfl, HNS.out, HN2.out, ?_, ?_, ?_⟩
                  · refine RdA.mono ?_ (F3_since w F)
                    repeat (with_reducible refine RdA.setC ?_ (F3_not HF.out (by simp only; omega) (by simp only; omega)) _)
                    exact HR1.out
                  · refine RdA.mono ?_ (F3_since w F)
                    repeat (with_reducible refine RdA.setC ?_ (F3_not HF.out (by simp only; omega) (by simp only; omega)) _)
                    exact HR2.out
                  · repeat (with_reducible refine Below.setCell ?_ (by simp only; omega) _)
                    exact HB3.out
              · intro K hK
                obtain ⟨A2, c2, w2, A3, c3, w3, run1, run2, ho3, hb2, hb3⟩ := order_A2 (k % 6) 1 x y X.drew hone hcopy hh1 hlen (cL := cL)
                have hbE : Below X.drew.heap.size X.drew (X.drew.alloc (.cells #[] 39)) := (Below.refl _ _).alloc (Nat.le_refl _) _
                have hbR : Below X.drew.heap.size X.drew (X.drew.alloc (.cells #[.int .u8 (k % 6), .int .i64 1, .slice Av m cv, .int .i64 x, .int .i64 y] 39)) := (Below.refl _ _).alloc (Nat.le_refl _) _
                have hbER : Below X.drew.heap.size X.drew ((X.drew.alloc (.cells #[] 39)).alloc (.cells #[.int .u8 (k % 6), .int .i64 1, .slice Av m cv, .int .i64 x, .int .i64 y] 39)) := hbE.alloc hbE.size _
                have hbS := hbER
                have hSER : (fun X : World => (X.cell? ⟨w.heap.size, 1, none⟩ = some (.slice AL nL cL) ∧ X.cell? ⟨w.heap.size + 1, 0, none⟩ = some (.int .u8 (k % 6)) ∧ X.cell? ⟨w.heap.size + 1, 1, none⟩ = some (.int .i64 1) ∧ X.cell? ⟨w.heap.size + 1, 2, none⟩ = some (.slice Av m cv) ∧ X.cell? ⟨w.heap.size + 1, 3, none⟩ = some (.int .i64 x) ∧ X.cell? ⟨w.heap.size + 1, 4, none⟩ = some (.int .i64 y))) ((X.drew.alloc (.cells #[] 39)).alloc (.cells #[.int .u8 (k % 6), .int .i64 1, .slice Av m cv, .int .i64 x, .int .i64 y] 39)) := ⟨keepc (W := X.drew) d1 hbS, keepc (W := X.drew) a0' hbS, keepc (W := X.drew) a1 hbS, keepc (W := X.drew) a2 hbS, keepc (W := X.drew) a3 hbS, keepc (W := X.drew) a4 hbS⟩
                clear hbS
                have hbS := hb2
                have hS2 : (fun X : World => (X.cell? ⟨w.heap.size, 1, none⟩ = some (.slice AL nL cL) ∧ X.cell? ⟨w.heap.size + 1, 0, none⟩ = some (.int .u8 (k % 6)) ∧ X.cell? ⟨w.heap.size + 1, 1, none⟩ = some (.int .i64 1) ∧ X.cell? ⟨w.heap.size + 1, 2, none⟩ = some (.slice Av m cv) ∧ X.cell? ⟨w.heap.size + 1, 3, none⟩ = some (.int .i64 x) ∧ X.cell? ⟨w.heap.size + 1, 4, none⟩ = some (.int .i64 y))) w2 := ⟨keepc (W := X.drew) d1 hbS, keepc (W := X.drew) a0' hbS, keepc (W := X.drew) a1 hbS, keepc (W := X.drew) a2 hbS, keepc (W := X.drew) a3 hbS, keepc (W := X.drew) a4 hbS⟩
                clear hbS
                have hbS := hb3
                have hS3 : (fun X : World => (X.cell? ⟨w.heap.size, 1, none⟩ = some (.slice AL nL cL) ∧ X.cell? ⟨w.heap.size + 1, 0, none⟩ = some (.int .u8 (k % 6)) ∧ X.cell? ⟨w.heap.size + 1, 1, none⟩ = some (.int .i64 1) ∧ X.cell? ⟨w.heap.size + 1, 2, none⟩ = some (.slice Av m cv) ∧ X.cell? ⟨w.heap.size + 1, 3, none⟩ = some (.int .i64 x) ∧ X.cell? ⟨w.heap.size + 1, 4, none⟩ = some (.int .i64 y))) w3 := ⟨keepc (W := X.drew) d1 hbS, keepc (W := X.drew) a0' hbS, keepc (W := X.drew) a1 hbS, keepc (W := X.drew) a2 hbS, keepc (W := X.drew) a3 hbS, keepc (W := X.drew) a4 hbS⟩
                clear hbS
                clear hbER hb2 hbE hbR
                go_simp
                refine hK.out _ _ (fun _ => hSER) ?_
                clear hK K
                try simp only [Act.put, List.setIfInBounds_toArray, List.set_cons_zero, List.set_cons_succ]
                refine tail.till_one 3 (by kernel_rfl) rfl (fun K hK => ?_)
                refine step_append_run rfl rfl rfl rfl run1 ?_
                refine hK.out _ _ (fun _ => hS2) ?_
                clear hK K
                try simp only [Act.put, List.setIfInBounds_toArray, List.set_cons_zero, List.set_cons_succ]
                refine tail.till_one 6 (by kernel_rfl) rfl (fun K hK => ?_)
                refine step_append_run rfl rfl rfl rfl run2 ?_
                refine hK.out _ _ (fun _ => hS3) ?_
                clear hK K
                try simp only [Act.put, List.setIfInBounds_toArray, List.set_cons_zero, List.set_cons_succ]
                clear hSE hS2 hSER run1 run2
                have HR2 := Lib.hid (show RdA w3 (F3 w F) A3 (lo ++ [ofKind (k, 1, b, x, y) (k % 6)]) from ⟨HLl ++ [(k % 6, 1, .slice Av m cv, x, y)], by rw [List.length_append, ← HNL.out]; exact ReadsF.of_own ho3 (fun b h1 _ => .inr (by have := HSZ.out; have h7 : X.drew.heap.size = X.heap.size := rfl; omega)), ((HH2.out.snoc (a := ofKind (k, 1, b, x, y) (k % 6)) rfl rfl HHD.out rfl rfl).bel (BelF.of (w := X) (k := X.heap.size) ⟨hb3.os, hb3.tape, hb3.output, hb3.size, hb3.block⟩ (Nat.le_refl _))).mono fun b h => .inl h⟩)
                have HR1 := Lib.hid (show RdA w3 (F3 w F) AS sf from (HS5.out.bel (BelF.of (w := X) (k := X.heap.size) ⟨hb3.os, hb3.tape, hb3.output, hb3.size, hb3.block⟩ (Nat.le_refl _))).mono fun b h => .inl h)
                have HB3 := Lib.hid (show Below w.heap.size w w3 from HB5.out.trans (Below.mono (B := X.heap.size) ⟨hb3.os, hb3.tape, hb3.output, hb3.size, hb3.block⟩ HB5.out.size))
                have x0 := keepc (W := X.drew) d0 hb3
                have x1 := keepc (W := X.drew) d1 hb3
                have x2 := keepc (W := X.drew) d2 hb3
                have x3 := keepc (W := X.drew) d3 hb3
                have x4 := keepc (W := X.drew) d4 hb3
                have y0 := keepc (W := X.drew) z0 hb3
                have y1 := keepc (W := X.drew) z1 hb3
                have y2 := keepc (W := X.drew) z2 hb3
                have y3 := keepc (W := X.drew) z3 hb3
                have y4 := keepc (W := X.drew) z4 hb3
                have xf : ∀ j, w3.frozen? ⟨w.heap.size, j, none⟩ = false := fun j => (hb3.frozen (show (Addr.mk w.heap.size j none).block < X.drew.heap.size by have := HSZ.out; have h7 : X.drew.heap.size = X.heap.size := rfl; simp only; omega)).trans (dF j)
                have yf : ∀ j, w3.frozen? ⟨w.heap.size + 1 + 1, j, none⟩ = false := fun j => (hb3.frozen (show (Addr.mk (w.heap.size + 1 + 1) j none).block < X.drew.heap.size by have := HSZ.out; have h7 : X.drew.heap.size = X.heap.size := rfl; simp only; omega)).trans (zF j)
                have HN2 := Lib.hid (show nL + 1 = (lo ++ [ofKind (k, 1, b, x, y) (k % 6)]).length by rw [List.length_append, ← HNL.out]; rfl)
                clear ho3 hb3 d0 d1 d2 d3 d4 z0 z1 z2 z3 z4 a1 a2 a3 a4 a0' dF zF HS5 HL5 HV5 HHD HH2 hcopy hh1 hone
                (refine tail.till_take 7 (v := ?_) rfl (by kernel_rfl) (by kernel_rfl) (by kernel_rfl) (by kernel_rfl) (by kernel_rfl) (fun _ _ _ h => h) (by rfl) (by assumption) ?_ ?_; rotate_left 1; (focus (intro X hX; obtain ⟨s1, s2, s3, s4, s5, s6⟩ := hX; go_simp; with_reducible rfl)); (try simp only [Act.put, List.setIfInBounds_toArray, List.set_cons_zero, List.set_cons_succ]))
                refine tail.till_one 8 (by kernel_rfl) rfl (fun K hK => ?_)
                go_simp
                refine hK.out _ _ (fun h => absurd rfl h) ?_
                clear hK K
                refine tail.till_done (by kernel_rfl) ?_ _
                go_wp2_with fail
                refine bodyPost_ret (v := .tuple #[.agg #[.slice AS nS cS, .slice A3 (nL + 1) c3, .int .i64 (lf - 1), .bool true, .bool false], .int .i64 0]) ?_ rfl ?_
                · rw [results_cell_tmp rfl]; go_simp; first | done | rfl
                · rw [HDO.out]
                  refine ⟨AS, nS, cS, A3, (nL + 1), c3, rfl, HNS.out, HN2.out, ?_, ?_, ?_⟩
                  · refine RdA.mono ?_ (F3_since w F)
                    repeat (with_reducible refine RdA.setC ?_ (F3_not HF.out (by simp only; omega) (by simp only; omega)) _)
                    exact HR1.out
                  · refine RdA.mono ?_ (F3_since w F)
                    repeat (with_reducible refine RdA.setC ?_ (F3_not HF.out (by simp only; omega) (by simp only; omega)) _)
                    exact HR2.out
                  · repeat (with_reducible refine Below.setCell ?_ (by simp only; omega) _)
                    exact HB3.out
            · intro K hK
              obtain ⟨A2, c2, w2, A3, c3, w3, run1, run2, ho3, hb2, hb3⟩ := order_B (k % 6) 1 x y X.drew hone hcopy hh1 hlen (cL := cL)
              have hbE : Below X.drew.heap.size X.drew (X.drew.alloc (.cells #[] 39)) := (Below.refl _ _).alloc (Nat.le_refl _) _
              have hbR : Below X.drew.heap.size X.drew (X.drew.alloc (.cells #[.int .u8 (k % 6), .int .i64 1, .slice Av m cv, .int .i64 x, .int .i64 y] 39)) := (Below.refl _ _).alloc (Nat.le_refl _) _
              have hbS := hbR
              have hSR : (fun X : World => (X.cell? ⟨w.heap.size, 1, none⟩ = some (.slice AL nL cL) ∧ X.cell? ⟨w.heap.size + 1, 0, none⟩ = some (.int .u8 (k % 6)) ∧ X.cell? ⟨w.heap.size + 1, 1, none⟩ = some (.int .i64 1) ∧ X.cell? ⟨w.heap.size + 1, 2, none⟩ = some (.slice Av m cv) ∧ X.cell? ⟨w.heap.size + 1, 3, none⟩ = some (.int .i64 x) ∧ X.cell? ⟨w.heap.size + 1, 4, none⟩ = some (.int .i64 y))) (X.drew.alloc (.cells #[.int .u8 (k % 6), .int .i64 1, .slice Av m cv, .int .i64 x, .int .i64 y] 39)) := ⟨keepc (W := X.drew) d1 hbS, keepc (W := X.drew) a0' hbS, keepc (W := X.drew) a1 hbS, keepc (W := X.drew) a2 hbS, keepc (W := X.drew) a3 hbS, keepc (W := X.drew) a4 hbS⟩
              clear hbS
              have hbRE : Below X.drew.heap.size X.drew ((X.drew.alloc (.cells #[.int .u8 (k % 6), .int .i64 1, .slice Av m cv, .int .i64 x, .int .i64 y] 39)).alloc (.cells #[] 39)) := hbR.alloc hbR.size _
              have hbS := hbRE
              have hSRE : (fun X : World => (X.cell? ⟨w.heap.size, 1, none⟩ = some (.slice AL nL cL) ∧ X.cell? ⟨w.heap.size + 1, 0, none⟩ = some (.int .u8 (k % 6)) ∧ X.cell? ⟨w.heap.size + 1, 1, none⟩ = some (.int .i64 1) ∧ X.cell? ⟨w.heap.size + 1, 2, none⟩ = some (.slice Av m cv) ∧ X.cell? ⟨w.heap.size + 1, 3, none⟩ = some (.int .i64 x) ∧ X.cell? ⟨w.heap.size + 1, 4, none⟩ = some (.int .i64 y))) ((X.drew.alloc (.cells #[.int .u8 (k % 6), .int .i64 1, .slice Av m cv, .int .i64 x, .int .i64 y] 39)).alloc (.cells #[] 39)) := ⟨keepc (W := X.drew) d1 hbS, keepc (W := X.drew) a0' hbS, keepc (W := X.drew) a1 hbS, keepc (W := X.drew) a2 hbS, keepc (W := X.drew) a3 hbS, keepc (W := X.drew) a4 hbS⟩
              clear hbS
              have hbS := hb2
              have hS2 : (fun X : World => (X.cell? ⟨w.heap.size, 1, none⟩ = some (.slice AL nL cL) ∧ X.cell? ⟨w.heap.size + 1, 0, none⟩ = some (.int .u8 (k % 6)) ∧ X.cell? ⟨w.heap.size + 1, 1, none⟩ = some (.int .i64 1) ∧ X.cell? ⟨w.heap.size + 1, 2, none⟩ = some (.slice Av m cv) ∧ X.cell? ⟨w.heap.size + 1, 3, none⟩ = some (.int .i64 x) ∧ X.cell? ⟨w.heap.size + 1, 4, none⟩ = some (.int .i64 y))) w2 := ⟨keepc (W := X.drew) d1 hbS, keepc (W := X.drew) a0' hbS, keepc (W := X.drew) a1 hbS, keepc (W := X.drew) a2 hbS, keepc (W := X.drew) a3 hbS, keepc (W := X.drew) a4 hbS⟩
              clear hbS
              have hbS := hb3
              have hS3 : (fun X : World => (X.cell? ⟨w.heap.size, 1, none⟩ = some (.slice AL nL cL) ∧ X.cell? ⟨w.heap.size + 1, 0, none⟩ = some (.int .u8 (k % 6)) ∧ X.cell? ⟨w.heap.size + 1, 1, none⟩ = some (.int .i64 1) ∧ X.cell? ⟨w.heap.size + 1, 2, none⟩ = some (.slice Av m cv) ∧ X.cell? ⟨w.heap.size + 1, 3, none⟩ = some (.int .i64 x) ∧ X.cell? ⟨w.heap.size + 1, 4, none⟩ = some (.int .i64 y))) w3 := ⟨keepc (W := X.drew) d1 hbS, keepc (W := X.drew) a0' hbS, keepc (W := X.drew) a1 hbS, keepc (W := X.drew) a2 hbS, keepc (W := X.drew) a3 hbS, keepc (W := X.drew) a4 hbS⟩
              clear hbS
              clear hbRE hb2 hbE hbR
              go_simp
              refine hK.out _ _ (fun _ => hSR) ?_
              clear hK K
              try simp only [Act.put, List.setIfInBounds_toArray, List.set_cons_zero, List.set_cons_succ]
              refine tail.till_one 0 (by kernel_rfl) rfl (fun K hK => ?_)
              go_simp
              refine hK.out _ _ (fun _ => hSRE) ?_
              clear hK K
              try simp only [Act.put, List.setIfInBounds_toArray, List.set_cons_zero, List.set_cons_succ]
              refine tail.till_one 3 (by kernel_rfl) rfl (fun K hK => ?_)
              refine step_append_run rfl rfl rfl rfl run1 ?_
              refine hK.out _ _ (fun _ => hS2) ?_
              clear hK K
              try simp only [Act.put, List.setIfInBounds_toArray, List.set_cons_zero, List.set_cons_succ]
              refine tail.till_one 6 (by kernel_rfl) rfl (fun K hK => ?_)
              refine step_append_run rfl rfl rfl rfl run2 ?_
              refine hK.out _ _ (fun _ => hS3) ?_
              clear hK K
              try simp only [Act.put, List.setIfInBounds_toArray, List.set_cons_zero, List.set_cons_succ]
              clear hSR hS2 hSRE run1 run2
              have HR2 := Lib.hid (show RdA w3 (F3 w F) A3 (lo ++ [ofKind (k, 1, b, x, y) (k % 6)]) from ⟨HLl ++ [(k % 6, 1, .slice Av m cv, x, y)], by rw [List.length_append, ← HNL.out]; exact ReadsF.of_own ho3 (fun b h1 _ => .inr (by have := HSZ.out; have h7 : X.drew.heap.size = X.heap.size := rfl; omega)), ((HH2.out.snoc (a := ofKind (k, 1, b, x, y) (k % 6)) rfl rfl HHD.out rfl rfl).bel (BelF.of (w := X) (k := X.heap.size) ⟨hb3.os, hb3.tape, hb3.output, hb3.size, hb3.block⟩ (Nat.le_refl _))).mono fun b h => .inl h⟩)
              have HR1 := Lib.hid (show RdA w3 (F3 w F) AS sf from (HS5.out.bel (BelF.of (w := X) (k := X.heap.size) ⟨hb3.os, hb3.tape, hb3.output, hb3.size, hb3.block⟩ (Nat.le_refl _))).mono fun b h => .inl h)
              have HB3 := Lib.hid (show Below w.heap.size w w3 from HB5.out.trans (Below.mono (B := X.heap.size) ⟨hb3.os, hb3.tape, hb3.output, hb3.size, hb3.block⟩ HB5.out.size))
              have x0 := keepc (W := X.drew) d0 hb3
              have x1 := keepc (W := X.drew) d1 hb3
              have x2 := keepc (W := X.drew) d2 hb3
              have x3 := keepc (W := X.drew) d3 hb3
              have x4 := keepc (W := X.drew) d4 hb3
              have y0 := keepc (W := X.drew) z0 hb3
              have y1 := keepc (W := X.drew) z1 hb3
              have y2 := keepc (W := X.drew) z2 hb3
              have y3 := keepc (W := X.drew) z3 hb3
              have y4 := keepc (W := X.drew) z4 hb3
              have xf : ∀ j, w3.frozen? ⟨w.heap.size, j, none⟩ = false := fun j => (hb3.frozen (show (Addr.mk w.heap.size j none).block < X.drew.heap.size by have := HSZ.out; have h7 : X.drew.heap.size = X.heap.size := rfl; simp only; omega)).trans (dF j)
              have yf : ∀ j, w3.frozen? ⟨w.heap.size + 1 + 1, j, none⟩ = false := fun j => (hb3.frozen (show (Addr.mk (w.heap.size + 1 + 1) j none).block < X.drew.heap.size by have := HSZ.out; have h7 : X.drew.heap.size = X.heap.size := rfl; simp only; omega)).trans (zF j)
              have HN2 := Lib.hid (show nL + 1 = (lo ++ [ofKind (k, 1, b, x, y) (k % 6)]).length by rw [List.length_append, ← HNL.out]; rfl)
              clear ho3 hb3 d0 d1 d2 d3 d4 z0 z1 z2 z3 z4 a1 a2 a3 a4 a0' dF zF HS5 HL5 HV5 HHD HH2 hcopy hh1 hone
              (refine tail.till_take 7 (v := ?_) rfl (by kernel_rfl) (by kernel_rfl) (by kernel_rfl) (by kernel_rfl) (by kernel_rfl) (fun _ _ _ h => h) (by rfl) (by assumption) ?_ ?_; rotate_left 1; (focus (intro X hX; obtain ⟨s1, s2, s3, s4, s5, s6⟩ := hX; go_simp; with_reducible rfl)); (try simp only [Act.put, List.setIfInBounds_toArray, List.set_cons_zero, List.set_cons_succ]))
              refine tail.till_one 8 (by kernel_rfl) rfl (fun K hK => ?_)
              go_simp
              refine hK.out _ _ (fun h => absurd rfl h) ?_
              clear hK K
              refine tail.till_done (by kernel_rfl) ?_ _
              go_wp2_with fail
              refine bodyPost_ret (v := .tuple #[.agg #[.slice AS nS cS, .slice A3 (nL + 1) c3, .int .i64 (lf - 1), .bool true, .bool false], .int .i64 0]) ?_ rfl ?_
              · rw [results_cell_tmp rfl]; go_simp; first | done | rfl
              · rw [HDO.out]
                refine ⟨AS, nS, cS, A3, (nL + 1), c3, rfl, HNS.out, HN2.out, ?_, ?_, ?_⟩
                · refine RdA.mono ?_ (F3_since w F)
                  repeat (with_reducible refine RdA.setC ?_ (F3_not HF.out (by simp only; omega) (by simp only; omega)) _)
                  exact HR1.out
                · refine RdA.mono ?_ (F3_since w F)
                  repeat (with_reducible refine RdA.setC ?_ (F3_not HF.out (by simp only; omega) (by simp only; omega)) _)
                  exact HR2.out
                · repeat (with_reducible refine Below.setCell ?_ (by simp only; omega) _)
                  exact HB3.out
      · have HDO := Lib.hid (show doR ⟨sf, lo, lf, am, true⟩ (k, 1, b, x, y) = (⟨sf, lo, lf, am, true⟩, 4) from by unfold doR; simp [q4, q5, q3, e3])
        go_wp2_with fail
        refine bodyPost_ret (v := .tuple #[.agg #[.slice AS nS cS, .slice AL nL cL, .int .i64 (lf), .bool am, .bool true], .int .i64 4]) ?_ rfl ?_
        · rw [results_cell_tmp rfl]; go_simp; first | done | rfl
        · rw [HDO.out]
          refine ⟨AS, nS, cS, AL, nL, cL, rfl, HNS.out, HNL.out, ?_, ?_, ?_⟩
          · refine RdA.mono ?_ (F3_since w F)
            repeat (with_reducible refine RdA.setC ?_ (F3_not HF.out (by simp only; omega) (by simp only; omega)) _)
            exact HS3.out
          · refine RdA.mono ?_ (F3_since w F)
            repeat (with_reducible refine RdA.setC ?_ (F3_not HF.out (by simp only; omega) (by simp only; omega)) _)
            exact HL3.out
          · repeat (with_reducible refine Below.setCell ?_ (by simp only; omega) _)
            exact HBV.out
    have HDO := Lib.hid (show doR ⟨sf, lo, lf, am, dn⟩ (k, ar, b, x, y) = (⟨sf, lo, lf, am, dn⟩, 1) from by unfold doR; simp [q4, q5, q3, e3, har, har1])
    have hb0 : (ar != 0) = true := by simpa using har
    have hb1 : (ar != 1) = true := by simpa using har1
    go_wp2_with fail
    refine bodyPost_ret (v := .tuple #[.agg #[.slice AS nS cS, .slice AL nL cL, .int .i64 (lf), .bool am, .bool dn], .int .i64 1]) ?_ rfl ?_
    · rw [results_cell_tmp rfl]; go_simp; first | done | rfl
    · rw [HDO.out]
      refine ⟨AS, nS, cS, AL, nL, cL, rfl, HNS.out, HNL.out, ?_, ?_, ?_⟩
      · refine RdA.mono ?_ (F3_since w F)
        repeat (with_reducible refine RdA.setC ?_ (F3_not HF.out (by simp only; omega) (by simp only; omega)) _)
        exact HS3.out
      · refine RdA.mono ?_ (F3_since w F)
        repeat (with_reducible refine RdA.setC ?_ (F3_not HF.out (by simp only; omega) (by simp only; omega)) _)
        exact HL3.out
      · repeat (with_reducible refine Below.setCell ?_ (by simp only; omega) _)
        exact HBV.out
end Go.Proofs.Ytjipjfionelpkaa.dk
