/- What the document's Bytes answers. -/
import Derived.Test.YtjipjfionelpkaaDk23
namespace Go.Proofs.Ytjipjfionelpkaa.dk
open Go.RowKit Go.Proofs.Ytjipjfionelpkaa.lib Go.Proofs.Ytjipjfionelpkaa.byt
set_option linter.unusedVariables false

def RBytes (w : World) (L : List Ac) (area : Int) (e : Ending) (w' : World) : Prop :=
  ∃ A n c, e = .returned (.tuple #[.slice A n c, .int .i64 (evF L)]) ∧ n = (evB L area).length ∧ OwnB w' w.heap.size A c (evB L area) ∧ Below w.heap.size w w'
theorem stB_take (L : List Ac) (k : Nat) (h : k < L.length) (area : Int) : evB (L.take (k + 1)) area = stB area (evB (L.take k) area) L[k] := by
  rw [← List.take_append_getElem h, evB_append]
  rfl
theorem stF_take (L : List Ac) (k : Nat) (h : k < L.length) : evF (L.take (k + 1)) = stF (evF (L.take k)) L[k] := by
  rw [← List.take_append_getElem h, evF_append]
  rfl
set_option maxRecDepth 10000 in
set_option maxHeartbeats 1000000 in
theorem rbytes_any (w : World) {F : Nat → Prop} {AS AL : Option Addr} {nS cS nL cL : Nat} {r : RS} (hnS : nS = r.safe.length) (hnL : nL = r.loose.length) (hS : RdA w F AS r.safe) (hL : RdA w F AL r.loose) (hF : ∀ b, F b → b < w.heap.size) (hl : r.safe.length + r.loose.length ≤ 1000000000) (ht : totA (r.safe ++ r.loose) ≤ 1000000000) (area : Int) :
    Calls Try.prog 48 #[dagg AS nS cS AL nL cL r, .int .i64 area] w (RBytes w (r.safe ++ r.loose) area) := by
  unfold dagg
  obtain ⟨HS, hS1, hS2⟩ := hS
  obtain ⟨HL, hL1, hL2⟩ := hL
  rw [← hnS] at hS1
  rw [← hnL] at hL1
  obtain ⟨lf, hlf⟩ : ∃ x, x = r.left := ⟨_, rfl⟩
  obtain ⟨am, ham⟩ : ∃ x, x = r.armed := ⟨_, rfl⟩
  obtain ⟨dn, hdn⟩ : ∃ x, x = r.down := ⟨_, rfl⟩
  rw [← hlf, ← ham, ← hdn]
  clear hlf ham hdn
  have hb1 : Below w.heap.size w (w.alloc (.cells #[.slice AS nS cS, .slice AL nL cL, .int .i64 lf, .bool am, .bool dn] 36)) := (Below.refl _ _).alloc (Nat.le_refl _) _
  have hb2 : Below w.heap.size w ((w.alloc (.cells #[.slice AS nS cS, .slice AL nL cL, .int .i64 lf, .bool am, .bool dn] 36)).drew.alloc (.cells #[] 39)) := (below_drew hb1).alloc (by simp) _
  have hs1 : (w.alloc (.cells #[.slice AS nS cS, .slice AL nL cL, .int .i64 lf, .bool am, .bool dn] 36)).heap.size = w.heap.size + 1 := by simp
  have hgV : ((w.alloc (.cells #[.slice AS nS cS, .slice AL nL cL, .int .i64 lf, .bool am, .bool dn] 36)).drew.alloc (.cells #[] 39)).heap[w.heap.size + 1]? = some (.cells #[] 39 (0, 0)) := by
    rw [← hs1]
    exact heap_alloc_new _ _
  obtain ⟨A1, c1, w2, hrun1, ho1, hbb1⟩ := append_copyA ((w.alloc (.cells #[.slice AS nS cS, .slice AL nL cL, .int .i64 lf, .bool am, .bool dn] 36)).drew.alloc (.cells #[] 39)) (g := w.heap.size + 1) (base := w.heap.size + 1) hgV (by omega) (c := cS) (m := nS) (H := HS) (hS1.below hb2 (Nat.le_refl _)).rd (holdA_one hS2) (by omega)
  have hbw2 : Below w.heap.size w w2 := hb2.trans (hbb1.mono (by omega))
  have hsz2 : w.heap.size + 1 ≤ w2.heap.size := Nat.le_trans (by simp) hbb1.size
  obtain ⟨A2, c2, w3, hrun2, ho2, -, hbb2⟩ := append_ac w2 (w.heap.size + 1) ho1 (c2 := cL) (m := nL) (H2 := HL) (hL1.below hbw2 (Nat.le_refl _)).rd (holdA_one hL2) (by omega) (by omega)
  have hbw3 : Below w.heap.size w w3 := hbw2.trans (hbb2.mono (by omega))
  have v0 : (w.alloc (.cells #[.slice AS nS cS, .slice AL nL cL, .int .i64 lf, .bool am, .bool dn] 36)).drew.cell? ⟨w.heap.size, 0, none⟩ = some (.slice AS nS cS) := by simp
  have v1 : (w.alloc (.cells #[.slice AS nS cS, .slice AL nL cL, .int .i64 lf, .bool am, .bool dn] 36)).drew.cell? ⟨w.heap.size, 1, none⟩ = some (.slice AL nL cL) := by simp
  have hS0 : (fun X : World => (X.cell? ⟨w.heap.size, 0, none⟩ = some (.slice AS nS cS) ∧ X.cell? ⟨w.heap.size, 1, none⟩ = some (.slice AL nL cL))) (w.alloc (.cells #[.slice AS nS cS, .slice AL nL cL, .int .i64 lf, .bool am, .bool dn] 36)).drew := ⟨v0, v1⟩
  have hS1' : (fun X : World => (X.cell? ⟨w.heap.size, 0, none⟩ = some (.slice AS nS cS) ∧ X.cell? ⟨w.heap.size, 1, none⟩ = some (.slice AL nL cL))) ((w.alloc (.cells #[.slice AS nS cS, .slice AL nL cL, .int .i64 lf, .bool am, .bool dn] 36)).drew.alloc (.cells #[] 39)) := ⟨keepc v0 ((Below.refl _ _).alloc (Nat.le_refl _) _), keepc v1 ((Below.refl _ _).alloc (Nat.le_refl _) _)⟩
  have hS2' : (fun X : World => (X.cell? ⟨w.heap.size, 0, none⟩ = some (.slice AS nS cS) ∧ X.cell? ⟨w.heap.size, 1, none⟩ = some (.slice AL nL cL))) w2 := ⟨(hbb1.cell (by simp only; omega)).trans hS1'.1, (hbb1.cell (by simp only; omega)).trans hS1'.2⟩
  have hS3' : (fun X : World => (X.cell? ⟨w.heap.size, 0, none⟩ = some (.slice AS nS cS) ∧ X.cell? ⟨w.heap.size, 1, none⟩ = some (.slice AL nL cL))) w3 := ⟨(hbb2.cell (by simp only; omega)).trans hS2'.1, (hbb2.cell (by simp only; omega)).trans hS2'.2⟩
  obtain ⟨n, hn⟩ : ∃ n, n = nS + nL := ⟨_, rfl⟩
  have hn9 : n ≤ 1000000000 := by omega
  rw [← hn] at hrun2 ho2
  have HN := Lib.hid (show n = (r.safe ++ r.loose).length by rw [hn, List.length_append, hnS, hnL])
  have HH := Lib.hid (show HoldA w F (HS ++ HL) (r.safe ++ r.loose) from hS2.append hL2)
  have HO := Lib.hid ho2
  have HB3 := Lib.hid hbw3
  have HF := Lib.hid hF
  have HT := Lib.hid ht
  have hsz3 : w.heap.size + 1 ≤ w3.heap.size := Nat.le_trans hsz2 hbb2.size
  generalize r.safe ++ r.loose = L at HN HH HT ⊢
  have HR1 := Lib.hid hrun1
  have HR2 := Lib.hid hrun2
  clear hn hrun1 hrun2 hgV hb1 hb2 ho1 ho2 hbb1 hbb2 hbw2 hbw3 hsz2 hS1 hS2 hL1 hL2 hnS hnL hl hF ht v0 v1 hs1
  go_enter Try.func48, Try.ntmps48
  go_wp2_with fail
  refine tail.wp_region_till 7 (fun X => (X.cell? ⟨w.heap.size, 0, none⟩ = some (.slice AS nS cS) ∧ X.cell? ⟨w.heap.size, 1, none⟩ = some (.slice AL nL cL))) (by kernel_rfl) ?_
  (refine tail.till_take 1 (v := ?_) rfl (by kernel_rfl) (by kernel_rfl) (by kernel_rfl) (by kernel_rfl) (by kernel_rfl) (fun _ _ _ h => h) (by rfl) (by assumption) ?_ ?_; rotate_left 1; (focus (intro X hX; obtain ⟨s1, s2⟩ := hX; go_simp; with_reducible rfl)); (try simp only [Act.put, List.setIfInBounds_toArray, List.set_cons_zero, List.set_cons_succ]))
  (refine tail.till_take 2 (v := ?_) rfl (by kernel_rfl) (by kernel_rfl) (by kernel_rfl) (by kernel_rfl) (by kernel_rfl) (fun _ _ _ h => h) (by rfl) (by assumption) ?_ ?_; rotate_left 1; (focus (intro X hX; obtain ⟨s1, s2⟩ := hX; go_simp; with_reducible rfl)); (try simp only [Act.put, List.setIfInBounds_toArray, List.set_cons_zero, List.set_cons_succ]))
  (refine tail.till_take 4 (v := ?_) rfl (by kernel_rfl) (by kernel_rfl) (by kernel_rfl) (by kernel_rfl) (by kernel_rfl) (fun _ _ _ h => h) (by rfl) (by assumption) ?_ ?_; rotate_left 1; (focus (intro X hX; obtain ⟨s1, s2⟩ := hX; go_simp; with_reducible rfl)); (try simp only [Act.put, List.setIfInBounds_toArray, List.set_cons_zero, List.set_cons_succ]))
  (refine tail.till_take 5 (v := ?_) rfl (by kernel_rfl) (by kernel_rfl) (by kernel_rfl) (by kernel_rfl) (by kernel_rfl) (fun _ _ _ h => h) (by rfl) (by assumption) ?_ ?_; rotate_left 1; (focus (intro X hX; obtain ⟨s1, s2⟩ := hX; go_simp; with_reducible rfl)); (try simp only [Act.put, List.setIfInBounds_toArray, List.set_cons_zero, List.set_cons_succ]))
  refine tail.till_one 0 (by kernel_rfl) rfl (fun K hK => ?_)
  go_simp
  refine hK.out _ _ (fun _ => hS1') ?_
  clear hK K
  try simp only [Act.put, List.setIfInBounds_toArray, List.set_cons_zero, List.set_cons_succ]
  refine tail.till_one 3 (by kernel_rfl) rfl (fun K hK => ?_)
  refine step_append_run rfl rfl rfl rfl HR1.out ?_
  refine hK.out _ _ (fun _ => hS2') ?_
  clear hK K
  try simp only [Act.put, List.setIfInBounds_toArray, List.set_cons_zero, List.set_cons_succ]
  refine tail.till_one 6 (by kernel_rfl) rfl (fun K hK => ?_)
  refine step_append_run rfl rfl rfl rfl HR2.out ?_
  refine hK.out _ _ (fun _ => hS3') ?_
  clear hK K
  try simp only [Act.put, List.setIfInBounds_toArray, List.set_cons_zero, List.set_cons_succ]
  refine tail.till_one 7 (by kernel_rfl) rfl (fun K hK => ?_)
  go_simp
  refine hK.out _ _ (fun h => absurd rfl h) ?_
  clear hK K
  refine tail.till_done (by kernel_rfl) ?_ _
  clear hS0 hS1' hS2' hS3' HR1 HR2
  go_wp2_with fail
  have HRA := Lib.hid (show ReadsF w3 (fun _ => True) 5 A2 n (acV (HS ++ HL)) from ReadsF.of_own HO.out fun _ _ _ => trivial)
  have HHN := Lib.hid (show (HS ++ HL).length = n by rw [HH.out.1, HN.out])
  go_loopw [6, 7, 9] (fun vo vf vi wr => ∃ (k no co : Nat) (Ao : Option Addr), k ≤ n ∧ vo = .slice Ao no co ∧ vf = .int .i64 (evF (L.take k)) ∧ vi = .int .i64 k ∧ Hid (OwnB wr w3.heap.size Ao co (evB (L.take k) area) ∧ no = (evB (L.take k) area).length) ∧ Below w3.heap.size w3 wr) (fun vo vf vi _ => n - (intOf vi).toNat)
  case atStart => exact ⟨0, 0, 0, none, Nat.zero_le _, rfl, rfl, rfl, Lib.hid ⟨ownB_nil _ _, rfl⟩, Below.refl _ _⟩
  case round =>
    obtain ⟨k, no, co, Ao, hk, rfl, rfl, rfl, HOK, hb⟩ := hrel
    by_cases hlt : k < n
    · have hkH : k < (HS ++ HL).length := by rw [HHN.out]; exact hlt
      have hkL : k < L.length := by rw [← HN.out]; exact hlt
      have hk0 : (0 : Int) ≤ k := by omega
      have hk1 : (k : Int) < n := by omega
      obtain ⟨ad, rfl, hbl, c0, c1', c2', c3, c4⟩ := cells_at (HRA.out.below hb (Nat.le_refl _)) hkH
      obtain ⟨e1, e2, ⟨Av, cv, e3, hrv, hcv⟩, e4, e5⟩ := HH.out.2 k hkH hkL
      obtain ⟨m, hm⟩ : ∃ m, m = L[k].2.2.1.length := ⟨_, rfl⟩
      rw [← hm] at e3
      rw [e1] at c0
      rw [e2] at c1'
      rw [e3] at c2'
      have hbw : Below w.heap.size w wr := HB3.out.trans (hb.mono (by omega))
      have hrv' := (hrv.bel (BelF.low hbw HF.out)).rd
      obtain ⟨ky, hky⟩ : ∃ x, x = L[k].1 := ⟨_, rfl⟩
      obtain ⟨ar, har⟩ : ∃ x, x = L[k].2.1 := ⟨_, rfl⟩
      rw [← hky] at c0
      rw [← har] at c1'
      have HSB := Lib.hid (stB_take L k hkL area)
      have HSF := Lib.hid (stF_take L k hkL)
      have HM := Lib.hid hm
      have KY := Lib.hid hky
      have AR := Lib.hid har
      obtain ⟨f1, hf1⟩ : ∃ x, x = evF (L.take k) := ⟨_, rfl⟩
      obtain ⟨f2, hf2⟩ : ∃ x, x = evF (L.take (k + 1)) := ⟨_, rfl⟩
      have HF1 := Lib.hid hf1
      have HF2 := Lib.hid hf2
      rw [← hf1]
      have hrel2 : ∀ (X : World) (A9 : Option Addr) (n9 c9 : Nat), OwnB X w3.heap.size A9 c9 (evB (L.take (k + 1)) area) → n9 = (evB (L.take (k + 1)) area).length → Hid (OwnB X w3.heap.size A9 c9 (evB (L.take (k + 1)) area) ∧ n9 = (evB (L.take (k + 1)) area).length) := fun X A9 n9 c9 h1 h2 => Lib.hid ⟨h1, h2⟩
      have HRL := Lib.hid hrel2
      clear hm hky har e1 e2 e3 e4 e5 c3 c4 hrv hf1 hf2 hrel2
      by_cases h2 : ky = 2
      · have hE : evF (L.take (k + 1)) = ar := by rw [HSF.out]; unfold stF; rw [if_pos (by rw [← KY.out]; exact h2)]; exact AR.out.symm
        have hB : evB (L.take (k + 1)) area = evB (L.take k) area := by rw [HSB.out]; unfold stB; rw [if_pos (by rw [← KY.out]; exact h2)]
        have HE := Lib.hid hE
        have HO9 := HRL.out wr Ao no co (by rw [hB]; exact HOK.out.1) (by rw [hB]; exact HOK.out.2)
        clear hE hB hrv'
        subst h2
        go_wp2_with fail
        go_roundw
        case rel => exact ⟨k + 1, no, co, Ao, by omega, rfl, by rw [HE.out], by go_num, HO9, hb⟩
        case measure => simp [intOf] <;> omega
      have hE : evF (L.take (k + 1)) = f1 := by rw [HSF.out]; unfold stF; rw [if_neg (by rw [← KY.out]; exact h2)]; exact HF1.out.symm
      have HE := Lib.hid hE
      clear hE
      by_cases ha : ar = area
      · by_cases h1 : ky = 1
        · have hB : evB (L.take (k + 1)) area = [] := by rw [HSB.out]; unfold stB; rw [if_neg (by rw [← KY.out]; exact h2), if_pos ⟨AR.out ▸ ha, KY.out ▸ h1⟩]
          have HO9 := HRL.out wr none 0 0 (by rw [hB]; exact ownB_nil _ _) (by rw [hB]; rfl)
          clear hB hrv'
          subst ha h1
          go_wp2_with fail
          go_roundw
          case rel => exact ⟨k + 1, 0, 0, none, by omega, rfl, by rw [HE.out], by go_num, HO9, hb⟩
          case measure => simp [intOf] <;> omega
        · have hB : evB (L.take (k + 1)) area = evB (L.take k) area ++ L[k].2.2.1 := by rw [HSB.out]; unfold stB; rw [if_neg (by rw [← KY.out]; exact h2), if_neg (fun h => h1 (KY.out.trans h.2)), if_pos (AR.out ▸ ha)]
          have hln : (evB (L.take k) area).length + L[k].2.2.1.length ≤ 140737488355328 := by
            have g1 := evB_len (L.take (k + 1)) area
            have g2 := totA_take L (k + 1)
            have g3 := HT.out
            rw [hB, List.length_append] at g1
            omega
          obtain ⟨A9, c9, w9, hrun, ho9, hu9⟩ := append_bytes wr w3.heap.size (n := no) (c := co) HOK.out.2 HOK.out.1 (m := m) HM.out (c2 := cv) hrv' hln hb.size
          obtain ⟨n9, hn9'⟩ : ∃ x, x = (evB (L.take k) area ++ L[k].2.2.1).length := ⟨_, rfl⟩
          rw [← hn9'] at hrun
          have HO9 := HRL.out w9 A9 n9 c9 (by rw [hB]; exact ho9) (by rw [hB]; exact hn9')
          have hb9 : Below w3.heap.size w3 w9 := hb.trans (hu9.below_own HOK.out.1 hb.size)
          clear hB hrv' hln ho9 hu9 hn9' hb
          subst ha
          go_wp2_with (at_builtin; refine wpList_append_run rfl rfl rfl rfl hrun ?_; clear hrun)
          go_roundw
          case rel => exact ⟨k + 1, n9, c9, A9, by omega, rfl, by rw [HE.out], by go_num, HO9, hb9⟩
          case measure => simp [intOf] <;> omega
      · have hB : evB (L.take (k + 1)) area = evB (L.take k) area := by rw [HSB.out]; unfold stB; rw [if_neg (by rw [← KY.out]; exact h2), if_neg (fun h => ha (AR.out.trans h.1)), if_neg (fun h => ha (AR.out.trans h))]
        have HO9 := HRL.out wr Ao no co (by rw [hB]; exact HOK.out.1) (by rw [hB]; exact HOK.out.2)
        clear hB hrv'
        go_wp2_with fail
        go_roundw
        case rel => exact ⟨k + 1, no, co, Ao, by omega, rfl, by rw [HE.out], by go_num, HO9, hb⟩
        case measure => simp [intOf] <;> omega
    · have hkL : L.take k = L := List.take_of_length_le (by rw [← HN.out]; omega)
      rw [hkL] at HOK ⊢
      have HOE := HOK.out
      have hbw : Below w.heap.size w wr := HB3.out.trans (hb.mono (by omega))
      have HE := Lib.hid (show RBytes w L area (.returned (.tuple #[.slice Ao no co, .int .i64 (evF L)])) wr from ⟨Ao, no, co, rfl, HOE.2, own_base HOE.1 (by omega), hbw⟩)
      clear HOE hkL HOK
      go_wp2_with fail
      go_ret2
      exact HE.out
end Go.Proofs.Ytjipjfionelpkaa.dk
