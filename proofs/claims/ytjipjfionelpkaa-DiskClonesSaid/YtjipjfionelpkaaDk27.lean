/- What the document's Shows answers of a disk that is what it should be. -/
import Derived.Test.YtjipjfionelpkaaDk24
namespace Go.Proofs.Ytjipjfionelpkaa.dk
open Go.RowKit Go.Proofs.Ytjipjfionelpkaa.lib Go.Proofs.Ytjipjfionelpkaa.byt
set_option linter.unusedVariables false

theorem readS_k (s : DS) (k : Nat) (hk : k < 2) : readS s (k : Int) = if s.down = true then ([], 4) else (s.by_ (2 + k), 0) := by
  unfold readS
  rw [if_pos (by omega), Int.toNat_natCast]
theorem Rel.by_k {s : DS} {r : RS} (h : Rel s r) (k : Nat) (hk : k < 2) : s.by_ (2 + k) = evB (r.safe ++ r.loose) k := by
  rcases (by omega : k = 0 ∨ k = 1) with rfl | rfl
  · exact h.b2
  · exact h.b3
set_option maxRecDepth 8000 in
set_option maxHeartbeats 2000000 in
theorem shows_any (w : World) {F G FR : Nat → Prop} {d M : Nat} {s : DS} {AS AL : Option Addr} {nS cS nL cL : Nat} {r : RS} (hD : DiskM w F G d s) (hR : Rel s r) (hz : SizeR r M) (hM : M ≤ 1000000) (hsl : r.safe.length ≤ 1000000) (hnS : nS = r.safe.length) (hnL : nL = r.loose.length) (hS : RdA w FR AS r.safe) (hL : RdA w FR AL r.loose) (hF : ∀ b, FR b → b < w.heap.size) :
    Calls Try.prog 20 #[.pointer (some ⟨d, 0, none⟩), dagg AS nS cS AL nL cL r] w fun e w' => e = .returned (.bool true) ∧ Below w.heap.size w w' := by
  obtain ⟨sf, lo, lf, am, dn⟩ := r
  obtain ⟨z1, -⟩ := hR.short hz (by omega) 0 (by omega)
  have hdn : s.down = dn := hR.down
  have hll : nL = s.lo.length := by rw [hnL, hR.lo, List.length_map]
  have hbA : Below w.heap.size w (w.alloc (.cells #[.slice AS nS cS, .slice AL nL cL, .int .i64 lf, .bool am, .bool dn] 36)) := (Below.refl _ _).alloc (Nat.le_refl _) _
  have d0 : (w.alloc (.cells #[.slice AS nS cS, .slice AL nL cL, .int .i64 lf, .bool am, .bool dn] 36)).cell? ⟨w.heap.size, 0, none⟩ = some (.slice AS nS cS) := by simp
  have d1 : (w.alloc (.cells #[.slice AS nS cS, .slice AL nL cL, .int .i64 lf, .bool am, .bool dn] 36)).cell? ⟨w.heap.size, 1, none⟩ = some (.slice AL nL cL) := by simp
  have d2 : (w.alloc (.cells #[.slice AS nS cS, .slice AL nL cL, .int .i64 lf, .bool am, .bool dn] 36)).cell? ⟨w.heap.size, 2, none⟩ = some (.int .i64 lf) := by simp
  have d3 : (w.alloc (.cells #[.slice AS nS cS, .slice AL nL cL, .int .i64 lf, .bool am, .bool dn] 36)).cell? ⟨w.heap.size, 3, none⟩ = some (.bool am) := by simp
  have d4 : (w.alloc (.cells #[.slice AS nS cS, .slice AL nL cL, .int .i64 lf, .bool am, .bool dn] 36)).cell? ⟨w.heap.size, 4, none⟩ = some (.bool dn) := by simp
  have hDA := hD.below hbA (Nat.le_refl _)
  have HDR := Lib.hid (show ∀ X : World, (DiskM X F G d s ∧ X.cell? ⟨w.heap.size, 1, none⟩ = some (.slice AL nL cL) ∧ X.cell? ⟨w.heap.size, 4, none⟩ = some (.bool dn) ∧ Below (w.alloc (.cells #[.slice AS nS cS, .slice AL nL cL, .int .i64 lf, .bool am, .bool dn] 36)).heap.size (w.alloc (.cells #[.slice AS nS cS, .slice AL nL cL, .int .i64 lf, .bool am, .bool dn] 36)) X) → (DiskM X.drew F G d s ∧ X.drew.cell? ⟨w.heap.size, 1, none⟩ = some (.slice AL nL cL) ∧ X.drew.cell? ⟨w.heap.size, 4, none⟩ = some (.bool dn) ∧ Below (w.alloc (.cells #[.slice AS nS cS, .slice AL nL cL, .int .i64 lf, .bool am, .bool dn] 36)).heap.size (w.alloc (.cells #[.slice AS nS cS, .slice AL nL cL, .int .i64 lf, .bool am, .bool dn] 36)) X.drew) from fun X h => ⟨h.1.drew, h.2.1, h.2.2.1, below_drew h.2.2.2⟩)
  have HCD := Lib.hid (show ∀ X : World, (DiskM X F G d s ∧ X.cell? ⟨w.heap.size, 1, none⟩ = some (.slice AL nL cL) ∧ X.cell? ⟨w.heap.size, 4, none⟩ = some (.bool dn) ∧ Below (w.alloc (.cells #[.slice AS nS cS, .slice AL nL cL, .int .i64 lf, .bool am, .bool dn] 36)).heap.size (w.alloc (.cells #[.slice AS nS cS, .slice AL nL cL, .int .i64 lf, .bool am, .bool dn] 36)) X) → Calls Try.prog 23 #[.pointer (some ⟨d, 0, none⟩)] X fun e w' => e = .returned (.bool dn) ∧ (DiskM w' F G d s ∧ w'.cell? ⟨w.heap.size, 1, none⟩ = some (.slice AL nL cL) ∧ w'.cell? ⟨w.heap.size, 4, none⟩ = some (.bool dn) ∧ Below (w.alloc (.cells #[.slice AS nS cS, .slice AL nL cL, .int .i64 lf, .bool am, .bool dn] 36)).heap.size (w.alloc (.cells #[.slice AS nS cS, .slice AL nL cL, .int .i64 lf, .bool am, .bool dn] 36)) w') from fun X h => (down_any X h.1).mono fun e w' hh => ⟨by rw [hh.1, hdn], by rw [← hh.2]; exact h⟩)
  have HCL := Lib.hid (show ∀ X : World, (DiskM X F G d s ∧ X.cell? ⟨w.heap.size, 1, none⟩ = some (.slice AL nL cL) ∧ X.cell? ⟨w.heap.size, 4, none⟩ = some (.bool dn) ∧ Below (w.alloc (.cells #[.slice AS nS cS, .slice AL nL cL, .int .i64 lf, .bool am, .bool dn] 36)).heap.size (w.alloc (.cells #[.slice AS nS cS, .slice AL nL cL, .int .i64 lf, .bool am, .bool dn] 36)) X) → Calls Try.prog 26 #[.pointer (some ⟨d, 0, none⟩)] X fun e w' => e = .returned (.int .i64 nL) ∧ (DiskM w' F G d s ∧ w'.cell? ⟨w.heap.size, 1, none⟩ = some (.slice AL nL cL) ∧ w'.cell? ⟨w.heap.size, 4, none⟩ = some (.bool dn) ∧ Below (w.alloc (.cells #[.slice AS nS cS, .slice AL nL cL, .int .i64 lf, .bool am, .bool dn] 36)).heap.size (w.alloc (.cells #[.slice AS nS cS, .slice AL nL cL, .int .i64 lf, .bool am, .bool dn] 36)) w') from fun X h => (loose_any X h.1).mono fun e w' hh => ⟨by rw [hh.1, hll], by rw [← hh.2]; exact h⟩)
  have hS0 : (DiskM (w.alloc (.cells #[.slice AS nS cS, .slice AL nL cL, .int .i64 lf, .bool am, .bool dn] 36)) F G d s ∧ (w.alloc (.cells #[.slice AS nS cS, .slice AL nL cL, .int .i64 lf, .bool am, .bool dn] 36)).cell? ⟨w.heap.size, 1, none⟩ = some (.slice AL nL cL) ∧ (w.alloc (.cells #[.slice AS nS cS, .slice AL nL cL, .int .i64 lf, .bool am, .bool dn] 36)).cell? ⟨w.heap.size, 4, none⟩ = some (.bool dn) ∧ Below (w.alloc (.cells #[.slice AS nS cS, .slice AL nL cL, .int .i64 lf, .bool am, .bool dn] 36)).heap.size (w.alloc (.cells #[.slice AS nS cS, .slice AL nL cL, .int .i64 lf, .bool am, .bool dn] 36)) (w.alloc (.cells #[.slice AS nS cS, .slice AL nL cL, .int .i64 lf, .bool am, .bool dn] 36))) := ⟨hDA, d1, d4, Below.refl _ _⟩
  have hS1 := HDR.out _ hS0
  unfold dagg
  clear hD hDA hS0
  have HZ1 := Lib.hid z1
  have HR := Lib.hid hR
  have HBA := Lib.hid hbA
  have HNS := Lib.hid hnS
  have HNL := Lib.hid hnL
  have HS := Lib.hid (hS.below hbA (Nat.le_refl _))
  have HL := Lib.hid (hL.below hbA (Nat.le_refl _))
  have HF := Lib.hid (show ∀ b, FR b → b < (w.alloc (.cells #[.slice AS nS cS, .slice AL nL cL, .int .i64 lf, .bool am, .bool dn] 36)).heap.size from fun b hb => Nat.lt_of_lt_of_le (hF b hb) hbA.size)
  have HSZ := Lib.hid (show sf.length + lo.length ≤ 1000000000 ∧ totA (sf ++ lo) ≤ 1000000000 from ⟨by have := hz.2; simp only at this hsl; omega, by have := hz.1; simp only at this; omega⟩)
  have HDN := Lib.hid hdn
  clear z1 hR hz hdn hll hbA hS hL hF hsl hnS hnL
  go_enter Try.func20, Try.ntmps20
  go_wp2_with fail
  generalize (w.alloc (.cells #[.slice AS nS cS, .slice AL nL cL, .int .i64 lf, .bool am, .bool dn] 36)) = V at *
  go_region_held3 (fun X => (DiskM X F G d s ∧ X.cell? ⟨w.heap.size, 1, none⟩ = some (.slice AL nL cL) ∧ X.cell? ⟨w.heap.size, 4, none⟩ = some (.bool dn) ∧ Below V.heap.size V X)) (first | assumption | (apply HDR.out; assumption)) (first | (go_at_call 23; refine (HCD.out _ ?_).mono ?_; assumption; rintro e w1 ⟨rfl, hs⟩) | (go_at_call 26; refine (HCL.out _ ?_).mono ?_; assumption; rintro e w1 ⟨rfl, hs⟩))
  obtain ⟨hD1, -, -, hb1⟩ := hs
  have HD1 := Lib.hid hD1
  clear hD1
  go_wp2_with fail
  go_loopw [5] (fun vi wr => ∃ k : Nat, k ≤ 2 ∧ vi = .int .i64 k ∧ Hid (DiskM wr F G d s) ∧ Below V.heap.size V wr) (fun vi _ => 2 - (intOf vi).toNat)
  case atStart => exact ⟨0, by omega, rfl, HD1, hb1⟩
  case round =>
    obtain ⟨k, hk, rfl, HDK, hb⟩ := hrel
    by_cases hlt : k < 2
    · have hk0 : (0 : Int) ≤ k := by omega
      have hk1 : (k : Int) < 2 := by omega
      have hdw := HDN.out
      cases dn
      · have hrd := readS_k s k hlt
        rw [if_neg (by rw [hdw]; decide)] at hrd
        have hf : (s.f1, (0 : Int)) = if s.down = true then (0, 4) else (s.f1, 0) := by rw [if_neg (by rw [hdw]; decide)]
        obtain ⟨m, hm⟩ : ∃ m, m = (s.by_ (2 + k)).length := ⟨_, rfl⟩
        have HM := Lib.hid hm
        have HRK := Lib.hid (HR.out.by_k k hlt)
        have HF1 := Lib.hid (show s.f1 = evF (sf ++ lo) from HR.out.f1)
        have hml := HZ1.out.1 (2 + k) (by omega)
        have HML := Lib.hid hml
        have HRD := Lib.hid hrd
        have HFF := Lib.hid hf
        clear hm hml hrd hf hdw
        go_wp2_with fail
        refine (read_any wr HDK.out HZ1.out k _ _ HRD.out.symm m HM.out).mono ?_
        rintro e w2 ⟨A2, c2, rfl, ho2, hb2⟩
        have HD2 := Lib.hid (HDK.out.below hb2 (Nat.le_refl _))
        have hbV2 := hb.trans (hb2.mono hb.size)
        have HO2 := Lib.hid ho2
        clear ho2 hb2
        go_wp2_with fail
        refine (first_any w2 HD2.out _ _ HFF.out).mono ?_
        rintro e w3 ⟨rfl, rfl⟩
        have e0 := keepc d0 hbV2
        have e1 := keepc d1 hbV2
        have e2 := keepc d2 hbV2
        have e3 := keepc d3 hbV2
        have e4 := keepc d4 hbV2
        have hBY := rbytes_any w2 (F := FR) (r := ⟨sf, lo, lf, am, false⟩) HNS.out HNL.out (HS.out.below hbV2 (Nat.le_refl _)) (HL.out.below hbV2 (Nat.le_refl _)) (fun b hb => Nat.lt_of_lt_of_le (HF.out b hb) hbV2.size) HSZ.out.1 HSZ.out.2 (cS := cS) (cL := cL) (k : Int)
        unfold dagg at hBY
        simp only at hBY
        have HBY := Lib.hid hBY
        clear hBY
        go_wp2_with fail
        refine HBY.out.mono ?_
        intro e5 w4 hh
        obtain ⟨A4, n4, c4, rfl, hn4, ho4, hb4⟩ := hh
        rw [← HF1.out]
        have hbV4 := hbV2.trans (hb4.mono hbV2.size)
        have HD4 := Lib.hid (HD2.out.below hb4 (Nat.le_refl _))
        have f4 := keepc d4 hbV4
        have HR2 := Lib.hid ((OwnB.rd (own_below HO2.out hb4 (Nat.le_refl _))))
        have HR4 := Lib.hid (OwnB.rd ho4)
        have HN4 := Lib.hid hn4
        rw [← HRK.out] at HR4 HN4
        clear hn4 ho4 hb4 e0 e1 e2 e3 e4 HBY
        go_wp2_with fail
        refine (same_any w4 (xs := s.by_ (2 + k)) (bs := s.by_ (2 + k)) HM.out HN4.out HR2.out HR4.out (by have := HML.out; omega) (by have := HML.out; omega)).mono ?_
        rintro e w12 ⟨rfl, nq, rfl⟩
        rw [decide_eq_true rfl]
        have HD5 := Lib.hid (HD4.out.below (below_drewN (Below.refl w4.heap.size w4) nq) (Nat.le_refl _))
        have hbV5 : Below V.heap.size V (w4.drewN nq) := below_drewN hbV4 nq
        go_wp2_with fail
        go_roundw
        case rel => exact ⟨k + 1, by omega, by go_num, HD5, hbV5⟩
        case measure => simp [intOf] <;> omega
      · have hrd := readS_k s k hlt
        rw [if_pos hdw] at hrd
        have hf : ((0 : Int), (4 : Int)) = if s.down = true then (0, 4) else (s.f1, 0) := by rw [if_pos hdw]
        have HRD := Lib.hid hrd
        have HFF := Lib.hid hf
        clear hrd hf hdw
        go_wp2_with fail
        refine (read_any wr HDK.out HZ1.out k [] 4 HRD.out.symm 0 rfl).mono ?_
        rintro e w2 ⟨A2, c2, rfl, ho2, hb2⟩
        have HD2 := Lib.hid (HDK.out.below hb2 (Nat.le_refl _))
        have hbV2 := hb.trans (hb2.mono hb.size)
        clear ho2 hb2
        go_wp2_with fail
        refine (first_any w2 HD2.out _ _ HFF.out).mono ?_
        rintro e w3 ⟨rfl, rfl⟩
        have e0 := keepc d0 hbV2
        have e1 := keepc d1 hbV2
        have e2 := keepc d2 hbV2
        have e3 := keepc d3 hbV2
        have e4 := keepc d4 hbV2
        have hBY := rbytes_any w2 (F := FR) (r := ⟨sf, lo, lf, am, true⟩) HNS.out HNL.out (HS.out.below hbV2 (Nat.le_refl _)) (HL.out.below hbV2 (Nat.le_refl _)) (fun b hb => Nat.lt_of_lt_of_le (HF.out b hb) hbV2.size) HSZ.out.1 HSZ.out.2 (cS := cS) (cL := cL) (k : Int)
        unfold dagg at hBY
        simp only at hBY
        have HBY := Lib.hid hBY
        clear hBY
        go_wp2_with fail
        refine HBY.out.mono ?_
        intro e5 w4 hh
        obtain ⟨A4, n4, c4, rfl, hn4, ho4, hb4⟩ := hh
        obtain ⟨fr, hfr⟩ : ∃ x, x = evF (sf ++ lo) := ⟨_, rfl⟩
        rw [← hfr]
        have hbV4 := hbV2.trans (hb4.mono hbV2.size)
        have HD4 := Lib.hid (HD2.out.below hb4 (Nat.le_refl _))
        have f4 := keepc d4 hbV4
        clear hn4 ho4 hb4 e0 e1 e2 e3 e4 HBY hfr
        go_wp2_with fail
        go_roundw
        case rel => exact ⟨k + 1, by omega, by go_num, HD4, hbV4⟩
        case measure => simp [intOf] <;> omega
    · have hbE := HBA.out.trans (hb.mono HBA.out.size)
      go_wp2_with fail
      go_ret
      exact ⟨rfl, hbE⟩
end Go.Proofs.Ytjipjfionelpkaa.dk
