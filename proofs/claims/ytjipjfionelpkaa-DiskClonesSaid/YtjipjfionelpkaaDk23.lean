/- What the document's crash answers. -/
import Derived.Test.YtjipjfionelpkaaDk22
namespace Go.Proofs.Ytjipjfionelpkaa.dk
open Go.RowKit Go.Proofs.Ytjipjfionelpkaa.lib Go.Proofs.Ytjipjfionelpkaa.byt
set_option linter.unusedVariables false

/-- What was in F, and what has come since. -/
def since (w : World) (F : Nat → Prop) (b : Nat) : Prop := F b ∨ w.heap.size ≤ b
def dagg (AS : Option Addr) (nS cS : Nat) (AL : Option Addr) (nL cL : Nat) (r : RS) : Value := .agg #[.slice AS nS cS, .slice AL nL cL, .int .i64 r.left, .bool r.armed, .bool r.down]
theorem hdF_take {w : World} {F : Nat → Prop} {Av : Option Addr} {m cv t : Nat} {torn : Int} {a : Ac} (hm : m = a.2.2.1.length) (hr : RdF w F Av a.2.2.1) (hc : m ≤ cv) (ht : t ≤ m) (e : torn = (t : Int)) : HdF w F (.slice Av t cv) (cutA torn a).2.2.1 := by
  subst e
  have hl : (a.2.2.1.take t).length = t := by rw [List.length_take]; omega
  refine ⟨Av, cv, ?_, ⟨rd_take hr.1 (by omega), fun h0 => hr.2 ?_⟩, ?_⟩
  · simp only [cutA, Int.toNat_natCast, hl]
  · simp only [cutA, Int.toNat_natCast, hl] at h0; omega
  · simp only [cutA, Int.toNat_natCast, hl]; omega
theorem hdF_whole {w : World} {F : Nat → Prop} {Av : Option Addr} {m cv : Nat} {torn : Int} {a : Ac} (hm : m = a.2.2.1.length) (hr : RdF w F Av a.2.2.1) (hc : m ≤ cv) (ht : (m : Int) ≤ torn) : HdF w F (.slice Av m cv) (cutA torn a).2.2.1 := by
  have e : (cutA torn a).2.2.1 = a.2.2.1 := List.take_of_length_le (by omega)
  rw [e]
  exact ⟨Av, cv, by rw [hm], hr, by omega⟩
def RCrash (w : World) (F : Nat → Prop) (r : RS) (keep torn : Int) (e : Ending) (w' : World) : Prop :=
  ∃ A' n' c', e = .returned (.agg #[.slice A' n' c', .slice none 0 0, .int .i64 0, .bool false, .bool false]) ∧ n' = (crashR r keep torn).safe.length ∧ RdA w' (since w F) A' (crashR r keep torn).safe ∧ Below w.heap.size w w'
theorem crashL_cut {r : RS} {keep torn : Int} {k : Nat} (hk : k = keepR r keep) (h : k < r.loose.length) (h0 : r.loose[k].1 = 0) (ht : 0 < torn) : crashL r keep torn = r.loose.take k ++ [cutA torn r.loose[k]] := by
  subst hk
  unfold crashL
  rw [List.getElem?_eq_getElem h]
  simp only [h0, ht, and_self, if_true]
theorem crashL_uncut {r : RS} {keep torn : Int} {k : Nat} (hk : k = keepR r keep) (h : k < r.loose.length) (h0 : ¬ (r.loose[k].1 = 0 ∧ 0 < torn)) : crashL r keep torn = r.loose.take k := by
  subst hk
  unfold crashL
  rw [List.getElem?_eq_getElem h]
  simp only [h0, if_false]
theorem crashL_all {r : RS} {keep torn : Int} {k : Nat} (hk : k = keepR r keep) (h : r.loose.length ≤ k) : crashL r keep torn = r.loose.take k := by
  subst hk
  unfold crashL
  rw [List.getElem?_eq_none h]
theorem ownA_low {w : World} {B size : Nat} {e : TypeId} {A : Option Addr} {n c : Nat} {xs : List Value} (h : w.ownsRow B e size (.slice A n c) n xs) {p : Addr} (hp : p.block < B) (u : Value) : (w.setCell p u).ownsRow B e size (.slice A n c) n xs :=
  ownsRow_setCell_other h (fun e => by have := (h.lt _ e).1; omega) u
theorem HoldA.snoc {w : World} {F : Nat → Prop} {H : List Ah} {L : List Ac} (h : HoldA w F H L) {k ar x y : Int} {v : Value} {a : Ac} (e1 : k = a.1) (e2 : ar = a.2.1) (hd : HdF w F v a.2.2.1) (e3 : x = a.2.2.2.1) (e4 : y = a.2.2.2.2) : HoldA w F (H ++ [(k, ar, v, x, y)]) (L ++ [a]) := by
  subst e1 e2 e3 e4
  exact h.append (HoldA.one hd)
/-- The end: the row told as acts. -/
theorem rdA_end {w w' : World} {F : Nat → Prop} {base n c : Nat} {A : Option Addr} {H : List Ah} {L : List Ac} (ho : w'.ownsRow base 39 5 (.slice A n c) n (acV H)) (hB : w.heap.size ≤ base) (hH : HoldA w F H L) (hb : Below w.heap.size w w') (hF : ∀ b, F b → b < w.heap.size) : n = L.length ∧ RdA w' (since w F) A L := by
  have hl := ho.1
  rw [acV_length] at hl
  have hn : n = L.length := by rw [← hH.1]; omega
  refine ⟨hn, H, ?_, (hH.bel (BelF.low hb hF)).mono fun b h => .inl h⟩
  rw [← hn]
  exact ReadsF.of_own ho fun b h1 _ => .inr (Nat.le_trans hB h1)

/-- 'out.Safe = append(out.Safe, a)', out in block p. -/
theorem rpush (V : World) {p base n c : Nat} {A : Option Addr} {H : List Ah} (ho : V.ownsRow base 39 5 (.slice A n c) n (acV H)) (hp : V.heap[p]? = some (.cells #[.slice A n c, .slice none 0 0, .int .i64 0, .bool false, .bool false] 36 (0, 0))) (hne : ∀ b, A.map (·.block) = some b → b ≠ p) (hB : base ≤ p) (k ar x y : Int) (v : Value) (h1 : v.oneCell' = true) (hs : n ≤ 1000000000000) :
    ∃ A2 c2 V2, (Builtin.append_ #[33, 33] 33 #[.slice A n c, .slice (some ⟨V.heap.size, 0, none⟩) 1 1]).run Try.prog (V.alloc (.cells #[.int .u8 k, .int .i64 ar, v, .int .i64 x, .int .i64 y] 39)) = .ok (.slice A2 (n + 1) c2) V2 ∧
      V2.cell? ⟨p, 0, none⟩ = some (.slice A n c) ∧ V2.frozen? ⟨p, 0, none⟩ = false ∧
      (V2.setCell ⟨p, 0, none⟩ (.slice A2 (n + 1) c2)).ownsRow base 39 5 (.slice A2 (n + 1) c2) (n + 1) (acV (H ++ [(k, ar, v, x, y)])) ∧
      (V2.setCell ⟨p, 0, none⟩ (.slice A2 (n + 1) c2)).heap[p]? = some (.cells #[.slice A2 (n + 1) c2, .slice none 0 0, .int .i64 0, .bool false, .bool false] 36 (0, 0)) ∧
      (∀ b, A2.map (·.block) = some b → b ≠ p) ∧ Below base V (V2.setCell ⟨p, 0, none⟩ (.slice A2 (n + 1) c2)) := by
  have hpl : p < V.heap.size := (Array.getElem?_eq_some_iff.1 hp).1
  obtain ⟨A2, c2, V2, hrun, ho2, hg, hnew, hb⟩ := append_one_ac V base ho (by omega) k ar x y v h1 hs
  have hp2 : V2.heap[p]? = _ := (hg.block p hpl (fun e => hne p e.symm rfl)).trans hp
  have hne2 : ∀ b, A2.map (·.block) = some b → b ≠ p := fun b e => by
    rcases hnew b e with h2 | h2
    · exact hne b h2
    · omega
  refine ⟨A2, c2, V2, hrun, by rw [cell_of_row _ _ _ _ _ (0, 0) hp2]; rfl, frozen_of_row _ _ 0 _ _ hp2, row_set ho2 (fun e => hne2 p e rfl) _, ?_, hne2, hb.setCell hB _⟩
  rw [heap_setCell_same V2 p 0 _ _ _ hp2]
  rfl
set_option maxRecDepth 4000 in
set_option maxHeartbeats 1000000 in
theorem rcrash_any (w : World) {F : Nat → Prop} {AS AL : Option Addr} {nS cS nL cL : Nat} {r : RS} (hnS : nS = r.safe.length) (hnL : nL = r.loose.length) (hS : RdA w F AS r.safe) (hL : RdA w F AL r.loose) (hF : ∀ b, F b → b < w.heap.size) (hl : r.safe.length + r.loose.length ≤ 1000000000) (keep torn : Int) :
    Calls Try.prog 47 #[dagg AS nS cS AL nL cL r, .int .i64 keep, .int .i64 torn] w (RCrash w F r keep torn) := by
  unfold dagg
  obtain ⟨HS, hS1, hS2⟩ := hS
  obtain ⟨HL, hL1, hL2⟩ := hL
  rw [← hnS] at hS1
  rw [← hnL] at hL1
  obtain ⟨lf, hlf⟩ : ∃ x, x = r.left := ⟨_, rfl⟩
  obtain ⟨am, ham⟩ : ∃ x, x = r.armed := ⟨_, rfl⟩
  obtain ⟨dn, hdn⟩ : ∃ x, x = r.down := ⟨_, rfl⟩
  rw [← hlf, ← ham, ← hdn]
  clear hlf ham hdn
  have hbV : Below w.heap.size w (((w.alloc (.cells #[.slice AS nS cS, .slice AL nL cL, .int .i64 lf, .bool am, .bool dn] 36)).alloc (.cells #[.slice none 0 0, .slice none 0 0, .int .i64 0, .bool false, .bool false] 36)).alloc (.cells #[] 39)) := (((Below.refl _ _).alloc (Nat.le_refl _) _).alloc (by simp) _).alloc (by simp; omega) _
  have hszV : (((w.alloc (.cells #[.slice AS nS cS, .slice AL nL cL, .int .i64 lf, .bool am, .bool dn] 36)).alloc (.cells #[.slice none 0 0, .slice none 0 0, .int .i64 0, .bool false, .bool false] 36)).alloc (.cells #[] 39)).heap.size = w.heap.size + 3 := by simp
  have hgV : (((w.alloc (.cells #[.slice AS nS cS, .slice AL nL cL, .int .i64 lf, .bool am, .bool dn] 36)).alloc (.cells #[.slice none 0 0, .slice none 0 0, .int .i64 0, .bool false, .bool false] 36)).alloc (.cells #[] 39)).heap[w.heap.size + 1 + 1]? = some (.cells #[] 39 (0, 0)) := by
    have e : ((w.alloc (.cells #[.slice AS nS cS, .slice AL nL cL, .int .i64 lf, .bool am, .bool dn] 36)).alloc (.cells #[.slice none 0 0, .slice none 0 0, .int .i64 0, .bool false, .bool false] 36)).heap.size = w.heap.size + 1 + 1 := by simp
    rw [← e]
    exact heap_alloc_new _ _
  obtain ⟨A1, c1, w2, hrun, ho1, hb1⟩ := append_copyA (((w.alloc (.cells #[.slice AS nS cS, .slice AL nL cL, .int .i64 lf, .bool am, .bool dn] 36)).alloc (.cells #[.slice none 0 0, .slice none 0 0, .int .i64 0, .bool false, .bool false] 36)).alloc (.cells #[] 39)) (g := w.heap.size + 1 + 1) (base := w.heap.size + 2) hgV (by omega) (c := cS) (m := nS) (H := HS) (hS1.below hbV (Nat.le_refl _)).rd (holdA_one hS2) (by omega)
  have HBV := Lib.hid hbV
  have HB1 := Lib.hid hb1
  have HO1 := Lib.hid ho1
  have HSZ := Lib.hid hszV
  have H1S := Lib.hid hS1
  have H1L := Lib.hid hL1
  have H2S := Lib.hid hS2
  have H2L := Lib.hid hL2
  clear hbV hb1 ho1 hszV hgV hS1 hL1 hS2 hL2
  have HNS := Lib.hid hnS
  have HNL := Lib.hid hnL
  clear hnS hnL
  go_enter Try.func47, Try.ntmps47
  go_wp2_with (at_builtin; refine wpList_append_run rfl rfl rfl rfl hrun ?_; clear hrun)
  obtain ⟨p7, hp7⟩ : ∃ p, p = w2.heap.size := ⟨_, rfl⟩
  have hb2 : Below w.heap.size w w2 := HBV.out.trans (HB1.out.mono (by omega))
  have hd0 : w2.heap[w.heap.size]? = some (.cells #[.slice AS nS cS, .slice AL nL cL, .int .i64 lf, .bool am, .bool dn] 36 (0, 0)) := by
    refine (HB1.out.block _ (by omega)).trans ?_
    exact (heap3 w _ _ _).1
  have hr0 : w2.heap[w.heap.size + 1]? = some (.cells #[.slice none 0 0, .slice none 0 0, .int .i64 0, .bool false, .bool false] 36 (0, 0)) := by
    refine (HB1.out.block _ (by omega)).trans ?_
    exact (heap3 w _ _ _).2.1
  have hs2 : w.heap.size + 3 ≤ w2.heap.size := by rw [← HSZ.out]; exact HB1.out.size
  have hbO : Below w2.heap.size w2 (w2.alloc (.cells #[.slice A1 (nS) c1, .slice none 0 0, .int .i64 0, .bool false, .bool false] 36)) := (Below.refl _ _).alloc (Nat.le_refl _) _
  have HO0 := Lib.hid (show (w2.alloc (.cells #[.slice A1 (nS) c1, .slice none 0 0, .int .i64 0, .bool false, .bool false] 36)).ownsRow (w.heap.size + 2) 39 5 (.slice A1 (nS + 0) c1) (nS + 0) (acV (HS ++ HL.take 0)) ∧ (w2.alloc (.cells #[.slice A1 (nS) c1, .slice none 0 0, .int .i64 0, .bool false, .bool false] 36)).heap[p7]? = some (.cells #[.slice A1 (nS + 0) c1, .slice none 0 0, .int .i64 0, .bool false, .bool false] 36 (0, 0)) ∧ (∀ b, A1.map (·.block) = some b → b ≠ p7) from
    ⟨by simpa using own_below HO1.out hbO (Nat.le_refl _), by rw [hp7]; exact heap_alloc_new _ _, fun b e => by have := (own_row HO1.out e).2; omega⟩)
  have hbI : Below (w.heap.size + 2) w2 (w2.alloc (.cells #[.slice A1 (nS) c1, .slice none 0 0, .int .i64 0, .bool false, .bool false] 36)) := hbO.mono (by omega)
  have HD0 := Lib.hid hd0
  have HR0 := Lib.hid hr0
  have HB2 := Lib.hid hb2
  have HS2 := Lib.hid hs2
  obtain ⟨kk, hkk⟩ : ∃ k, k = keepR r keep := ⟨_, rfl⟩
  have hkn : kk ≤ nL := by rw [hkk, HNL.out]; unfold keepR; omega
  have hkd : (kk : Int) = min (max keep 0) nL := by rw [hkk, HNL.out]; unfold keepR; omega
  have HK := Lib.hid hkk
  have HP7 := Lib.hid (show w.heap.size + 3 ≤ p7 by rw [hp7]; exact hs2)
  have HKD := Lib.hid hkd
  have HF := Lib.hid hF
  have HHL := Lib.hid (show HL.length = nL from by rw [H2L.out.1, HNL.out])
  have HLL := Lib.hid hl
  have hnl9 : nL ≤ 1000000000 := by have := HNL.out; omega
  clear HBV HSZ HB1 HO1 hd0 hr0 hb2 hs2 hbO hkk hkd hF hl
  rw [← hp7]
  generalize w2.alloc (.cells #[.slice A1 (nS) c1, .slice none 0 0, .int .i64 0, .bool false, .bool false] 36) = w3 at HO0 hbI ⊢
  clear hp7
  go_loopw [8] (fun vi wr => ∃ (k : Nat) (A' : Option Addr) (c' : Nat), k ≤ kk ∧ vi = .int .i64 k ∧ Hid (wr.ownsRow (w.heap.size + 2) 39 5 (.slice A' (nS + k) c') (nS + k) (acV (HS ++ HL.take k)) ∧ wr.heap[p7]? = some (.cells #[.slice A' (nS + k) c', .slice none 0 0, .int .i64 0, .bool false, .bool false] 36 (0, 0)) ∧ (∀ b, A'.map (·.block) = some b → b ≠ p7)) ∧ Below (w.heap.size + 2) w2 wr) (fun vi _ => kk - (intOf vi).toNat)
  case atStart => exact ⟨0, A1, c1, Nat.zero_le _, rfl, HO0, hbI⟩
  case round =>
    obtain ⟨k, A', c', hk, rfl, HO, hb⟩ := hrel
    obtain ⟨ho, hp, hne⟩ := HO.out
    have o0 : wr.cell? ⟨p7, 0, none⟩ = some (.slice A' (nS + k) c') := by rw [cell_of_row _ _ _ _ _ (0, 0) hp]; rfl
    have o1 : wr.cell? ⟨p7, 1, none⟩ = some (.slice none 0 0) := by rw [cell_of_row _ _ _ _ _ (0, 0) hp]; rfl
    have o2 : wr.cell? ⟨p7, 2, none⟩ = some (.int .i64 0) := by rw [cell_of_row _ _ _ _ _ (0, 0) hp]; rfl
    have o3 : wr.cell? ⟨p7, 3, none⟩ = some (.bool false) := by rw [cell_of_row _ _ _ _ _ (0, 0) hp]; rfl
    have o4 : wr.cell? ⟨p7, 4, none⟩ = some (.bool false) := by rw [cell_of_row _ _ _ _ _ (0, 0) hp]; rfl
    have of : ∀ j, wr.frozen? ⟨p7, j, none⟩ = false := fun j => frozen_of_row _ _ j _ _ hp
    have hdw : wr.heap[w.heap.size]? = _ := (hb.block _ (by omega)).trans HD0.out
    have hrw : wr.heap[w.heap.size + 1]? = _ := (hb.block _ (by omega)).trans HR0.out
    have d1 : wr.cell? ⟨w.heap.size, 1, none⟩ = some (.slice AL nL cL) := by rw [cell_of_row _ _ _ _ _ (0, 0) hdw]; rfl
    have r0 : wr.cell? ⟨w.heap.size + 1, 0, none⟩ = some (.slice none 0 0) := by rw [cell_of_row _ _ _ _ _ (0, 0) hrw]; rfl
    have r1 : wr.cell? ⟨w.heap.size + 1, 1, none⟩ = some (.slice none 0 0) := by rw [cell_of_row _ _ _ _ _ (0, 0) hrw]; rfl
    have r2 : wr.cell? ⟨w.heap.size + 1, 2, none⟩ = some (.int .i64 0) := by rw [cell_of_row _ _ _ _ _ (0, 0) hrw]; rfl
    have r3 : wr.cell? ⟨w.heap.size + 1, 3, none⟩ = some (.bool false) := by rw [cell_of_row _ _ _ _ _ (0, 0) hrw]; rfl
    have r4 : wr.cell? ⟨w.heap.size + 1, 4, none⟩ = some (.bool false) := by rw [cell_of_row _ _ _ _ _ (0, 0) hrw]; rfl
    have rf : ∀ j, wr.frozen? ⟨w.heap.size + 1, j, none⟩ = false := fun j => frozen_of_row _ _ j _ _ hrw
    have hbw : Below w.heap.size w wr := HB2.out.trans (hb.mono (by omega))
    have HBW := Lib.hid hbw
    have hk0 : (0 : Int) ≤ k := by omega
    by_cases hlt : k < nL
    · have hkH : k < HL.length := by rw [HHL.out]; exact hlt
      have hkL : k < r.loose.length := by rw [← HNL.out]; exact hlt
      have hk1 : (k : Int) < nL := by omega
      obtain ⟨ad, rfl, hbl, c0, c1', c2, c3, c4⟩ := cells_at (H1L.out.bel (BelF.low hbw HF.out)) hkH
      obtain ⟨e1, e2, ⟨Av, cv, e3, hrv, hcv⟩, e4, e5⟩ := H2L.out.2 k hkH hkL
      obtain ⟨m, hm⟩ : ∃ m, m = r.loose[k].2.2.1.length := ⟨_, rfl⟩
      rw [← hm] at e3 hcv
      rw [e1] at c0
      rw [e2] at c1'
      rw [e3] at c2
      rw [e4] at c3
      rw [e5] at c4
      have hHk : HL[k] = (r.loose[k].1, r.loose[k].2.1, .slice Av m cv, r.loose[k].2.2.2.1, r.loose[k].2.2.2.2) := by
        rw [← e1, ← e2, ← e3, ← e4, ← e5]
      have HHK := Lib.hid hHk
      have HM := Lib.hid hm
      have HRV := Lib.hid hrv
      have HG := Lib.hid (show r.loose[k] = r.loose[k] from rfl)
      have HRW := Lib.hid hrw
      clear hm hrv e1 e2 e3 e4 e5 hHk HG hdw hrw hp
      obtain ⟨ky, hky⟩ : ∃ x, x = r.loose[k].1 := ⟨_, rfl⟩
      obtain ⟨ar, har⟩ : ∃ x, x = r.loose[k].2.1 := ⟨_, rfl⟩
      obtain ⟨xn, hxn⟩ : ∃ x, x = r.loose[k].2.2.2.1 := ⟨_, rfl⟩
      obtain ⟨ym, hym⟩ : ∃ x, x = r.loose[k].2.2.2.2 := ⟨_, rfl⟩
      rw [← hky] at c0 HHK
      rw [← har] at c1' HHK
      rw [← hxn] at c3 HHK
      rw [← hym] at c4 HHK
      have KY := Lib.hid hky
      have AR := Lib.hid har
      have XN := Lib.hid hxn
      have YM := Lib.hid hym
      clear hky har hxn hym
      by_cases hke : keep ≤ k
      · have hkk : k = kk := by have := HKD.out; omega
        by_cases hky0 : ky = 0 ∧ 0 < torn
        · obtain ⟨hk00, ht0⟩ := hky0
          have hcl : crashL r keep torn = r.loose.take k ++ [cutA torn r.loose[k]] := crashL_cut (hkk.trans HK.out) hkL (by rw [← KY.out]; exact hk00) ht0
          have HCL := Lib.hid hcl
          clear hcl hkk
          subst hk00
          by_cases htm : torn < m
          · obtain ⟨t, rfl⟩ : ∃ t : Nat, torn = t := ⟨torn.toNat, by omega⟩
            have htm' : t < m := by omega
            have htc : t ≤ cv := by omega
            have htci : (t : Int) ≤ cv := by omega
            have hbA : Below wr.heap.size wr (wr.alloc (.cells #[.int .u8 0, .int .i64 ar, .slice Av t cv, .int .i64 xn, .int .i64 ym] 39)) := (Below.refl _ _).alloc (Nat.le_refl _) _
            (have v0 := keepc o0 hbA; have v1 := keepc o1 hbA; have v2 := keepc o2 hbA; have v3 := keepc o3 hbA; have v4 := keepc o4 hbA; have z0 := keepc r0 hbA; have z1 := keepc r1 hbA; have z2 := keepc r2 hbA; have z3 := keepc r3 hbA; have z4 := keepc r4 hbA; have vf : ∀ j, (wr.alloc (.cells #[.int .u8 0, .int .i64 ar, .slice Av t cv, .int .i64 xn, .int .i64 ym] 39)).frozen? ⟨p7, j, none⟩ = false := fun j => (hbA.frozen (show (Addr.mk p7 j none).block < wr.heap.size from World.block_lt_of_cell? wr ⟨p7, 0, none⟩ o0)).trans (of j); have zf : ∀ j, (wr.alloc (.cells #[.int .u8 0, .int .i64 ar, .slice Av t cv, .int .i64 xn, .int .i64 ym] 39)).frozen? ⟨w.heap.size + 1, j, none⟩ = false := fun j => (hbA.frozen (show (Addr.mk (w.heap.size + 1) j none).block < wr.heap.size from World.block_lt_of_cell? wr ⟨w.heap.size + 1, 0, none⟩ r0)).trans (rf j))
            obtain ⟨A2, c2, V2, hrun, s0, sf, t1, t2, t3, t4⟩ := rpush (wr.alloc (.cells #[.int .u8 0, .int .i64 ar, .slice Av t cv, .int .i64 xn, .int .i64 ym] 39)) (p := p7) (base := w.heap.size + 2) (own_below ho hbA (Nat.le_refl _)) ((hbA.block p7 (World.block_lt_of_cell? wr ⟨p7, 0, none⟩ o0)).trans (HO.out.2.1)) hne (by have := HP7.out; omega) 0 ar xn ym (.slice Av t cv) rfl (by have := HLL.out; have := HNS.out; omega)
            have hold : HoldA w F (HS ++ HL.take k ++ [(0, ar, .slice Av t cv, xn, ym)]) (r.safe ++ (r.loose.take k ++ [cutA (t : Int) r.loose[k]])) := by
              rw [← List.append_assoc]
              refine (H2S.out.append (H2L.out.take k)).snoc (a := cutA (t : Int) r.loose[k]) KY.out AR.out ?_ XN.out YM.out
              exact hdF_take (t := t) HM.out HRV.out (by omega) (by omega) rfl
            have hrun' : (Builtin.append_ #[33, 33] 33 #[.slice A' (nS + k) c', .slice (some ⟨wr.heap.size + 1, 0, none⟩) 1 1]).run Try.prog ((wr.alloc (.cells #[.int .u8 0, .int .i64 ar, .slice Av t cv, .int .i64 xn, .int .i64 ym] 39)).alloc (.cells #[.int .u8 0, .int .i64 ar, .slice Av t cv, .int .i64 xn, .int .i64 ym] 39)) = .ok (.slice A2 (nS + k + 1) c2) V2 := by
              have e : (wr.alloc (.cells #[.int .u8 0, .int .i64 ar, .slice Av t cv, .int .i64 xn, .int .i64 ym] 39)).heap.size = wr.heap.size + 1 := by simp
              rw [← e]
              exact hrun
            have x0 : (V2.setCell ⟨p7, 0, none⟩ (.slice A2 (nS + k + 1) c2)).cell? ⟨p7, 0, none⟩ = some (.slice A2 (nS + k + 1) c2) := by rw [cell_of_row _ _ _ _ _ (0, 0) t2]; rfl
            have x1 : (V2.setCell ⟨p7, 0, none⟩ (.slice A2 (nS + k + 1) c2)).cell? ⟨p7, 1, none⟩ = some (.slice none 0 0) := by rw [cell_of_row _ _ _ _ _ (0, 0) t2]; rfl
            have x2 : (V2.setCell ⟨p7, 0, none⟩ (.slice A2 (nS + k + 1) c2)).cell? ⟨p7, 2, none⟩ = some (.int .i64 0) := by rw [cell_of_row _ _ _ _ _ (0, 0) t2]; rfl
            have x3 : (V2.setCell ⟨p7, 0, none⟩ (.slice A2 (nS + k + 1) c2)).cell? ⟨p7, 3, none⟩ = some (.bool false) := by rw [cell_of_row _ _ _ _ _ (0, 0) t2]; rfl
            have x4 : (V2.setCell ⟨p7, 0, none⟩ (.slice A2 (nS + k + 1) c2)).cell? ⟨p7, 4, none⟩ = some (.bool false) := by rw [cell_of_row _ _ _ _ _ (0, 0) t2]; rfl
            have hrw2 : (V2.setCell ⟨p7, 0, none⟩ (.slice A2 (nS + k + 1) c2)).heap[w.heap.size + 1]? = _ := (t4.block _ (by omega)).trans ((hbA.block _ (World.block_lt_of_cell? wr ⟨w.heap.size + 1, 0, none⟩ r0)).trans HRW.out)
            have y0 := cell_of_row _ (w.heap.size + 1) 0 _ _ (0, 0) hrw2
            have y1 := cell_of_row _ (w.heap.size + 1) 1 _ _ (0, 0) hrw2
            have y2 := cell_of_row _ (w.heap.size + 1) 2 _ _ (0, 0) hrw2
            have y3 := cell_of_row _ (w.heap.size + 1) 3 _ _ (0, 0) hrw2
            have y4 := cell_of_row _ (w.heap.size + 1) 4 _ _ (0, 0) hrw2
            have yf : ∀ j, (V2.setCell ⟨p7, 0, none⟩ (.slice A2 (nS + k + 1) c2)).frozen? ⟨w.heap.size + 1, j, none⟩ = false := fun j => frozen_of_row _ _ j _ _ hrw2
            simp only [List.getElem?_toArray, List.getElem?_cons_succ, List.getElem?_cons_zero] at y0 y1 y2 y3 y4
            have hb2 : Below w.heap.size w (V2.setCell ⟨p7, 0, none⟩ (.slice A2 (nS + k + 1) c2)) := (HBW.out.trans (hbA.mono HBW.out.size)).trans (t4.mono (by omega))
            have HT1 := Lib.hid t1
            have HHO := Lib.hid hold
            have HB2' := Lib.hid hb2
            clear hrun t1 t2 t3 t4 hbA hb HRV ho hne hold hrw2 hb2
            (have hE : Below w.heap.size w ((((((V2.setCell ⟨p7, 0, none⟩ (.slice A2 (nS + k + 1) c2)).setCell ⟨w.heap.size + 1, 0, none⟩ (.slice A2 (nS + k + 1) c2)).setCell ⟨w.heap.size + 1, 1, none⟩ (.slice none 0 0)).setCell ⟨w.heap.size + 1, 2, none⟩ (.int .i64 0)).setCell ⟨w.heap.size + 1, 3, none⟩ (.bool false)).setCell ⟨w.heap.size + 1, 4, none⟩ (.bool false)) := (((((HB2'.out).setCell (by simp only; omega) _).setCell (by simp only; omega) _).setCell (by simp only; omega) _).setCell (by simp only; omega) _).setCell (by simp only; omega) _; have hR := rdA_end (w := w) (F := F) (ownA_low (ownA_low (ownA_low (ownA_low (ownA_low (HT1.out) (p := ⟨w.heap.size + 1, 0, none⟩) (by simp only; omega) (.slice A2 (nS + k + 1) c2)) (p := ⟨w.heap.size + 1, 1, none⟩) (by simp only; omega) (.slice none 0 0)) (p := ⟨w.heap.size + 1, 2, none⟩) (by simp only; omega) (.int .i64 0)) (p := ⟨w.heap.size + 1, 3, none⟩) (by simp only; omega) (.bool false)) (p := ⟨w.heap.size + 1, 4, none⟩) (by simp only; omega) (.bool false)) (by omega) (HHO.out) hE HF.out; have HE := Lib.hid hE; have HR := Lib.hid hR; clear hE hR; go_wp2_with (at_builtin; refine wpList_append_run rfl rfl rfl rfl hrun' ?_; clear hrun'); refine bodyPost_ret (v := .agg #[.slice A2 (nS + k + 1) c2, .slice none 0 0, .int .i64 0, .bool false, .bool false]) ?_ rfl ?_; (· rw [results_cell_one rfl]; go_simp; first | done | rfl); (· unfold RCrash; refine ⟨A2, nS + k + 1, c2, rfl, ?_⟩; unfold crashR; simp only; rw [HCL.out]; exact ⟨HR.out.1, HR.out.2, HE.out⟩))
          · have hbA : Below wr.heap.size wr (wr.alloc (.cells #[.int .u8 0, .int .i64 ar, .slice Av m cv, .int .i64 xn, .int .i64 ym] 39)) := (Below.refl _ _).alloc (Nat.le_refl _) _
            (have v0 := keepc o0 hbA; have v1 := keepc o1 hbA; have v2 := keepc o2 hbA; have v3 := keepc o3 hbA; have v4 := keepc o4 hbA; have z0 := keepc r0 hbA; have z1 := keepc r1 hbA; have z2 := keepc r2 hbA; have z3 := keepc r3 hbA; have z4 := keepc r4 hbA; have vf : ∀ j, (wr.alloc (.cells #[.int .u8 0, .int .i64 ar, .slice Av m cv, .int .i64 xn, .int .i64 ym] 39)).frozen? ⟨p7, j, none⟩ = false := fun j => (hbA.frozen (show (Addr.mk p7 j none).block < wr.heap.size from World.block_lt_of_cell? wr ⟨p7, 0, none⟩ o0)).trans (of j); have zf : ∀ j, (wr.alloc (.cells #[.int .u8 0, .int .i64 ar, .slice Av m cv, .int .i64 xn, .int .i64 ym] 39)).frozen? ⟨w.heap.size + 1, j, none⟩ = false := fun j => (hbA.frozen (show (Addr.mk (w.heap.size + 1) j none).block < wr.heap.size from World.block_lt_of_cell? wr ⟨w.heap.size + 1, 0, none⟩ r0)).trans (rf j))
            obtain ⟨A2, c2, V2, hrun, s0, sf, t1, t2, t3, t4⟩ := rpush (wr.alloc (.cells #[.int .u8 0, .int .i64 ar, .slice Av m cv, .int .i64 xn, .int .i64 ym] 39)) (p := p7) (base := w.heap.size + 2) (own_below ho hbA (Nat.le_refl _)) ((hbA.block p7 (World.block_lt_of_cell? wr ⟨p7, 0, none⟩ o0)).trans (HO.out.2.1)) hne (by have := HP7.out; omega) 0 ar xn ym (.slice Av m cv) rfl (by have := HLL.out; have := HNS.out; omega)
            have hold : HoldA w F (HS ++ HL.take k ++ [(0, ar, .slice Av m cv, xn, ym)]) (r.safe ++ (r.loose.take k ++ [cutA torn r.loose[k]])) := by
              rw [← List.append_assoc]
              refine (H2S.out.append (H2L.out.take k)).snoc (a := cutA torn r.loose[k]) KY.out AR.out ?_ XN.out YM.out
              exact hdF_whole HM.out HRV.out (by omega) (by omega)
            have hrun' : (Builtin.append_ #[33, 33] 33 #[.slice A' (nS + k) c', .slice (some ⟨wr.heap.size + 1, 0, none⟩) 1 1]).run Try.prog ((wr.alloc (.cells #[.int .u8 0, .int .i64 ar, .slice Av m cv, .int .i64 xn, .int .i64 ym] 39)).alloc (.cells #[.int .u8 0, .int .i64 ar, .slice Av m cv, .int .i64 xn, .int .i64 ym] 39)) = .ok (.slice A2 (nS + k + 1) c2) V2 := by
              have e : (wr.alloc (.cells #[.int .u8 0, .int .i64 ar, .slice Av m cv, .int .i64 xn, .int .i64 ym] 39)).heap.size = wr.heap.size + 1 := by simp
              rw [← e]
              exact hrun
            have x0 : (V2.setCell ⟨p7, 0, none⟩ (.slice A2 (nS + k + 1) c2)).cell? ⟨p7, 0, none⟩ = some (.slice A2 (nS + k + 1) c2) := by rw [cell_of_row _ _ _ _ _ (0, 0) t2]; rfl
            have x1 : (V2.setCell ⟨p7, 0, none⟩ (.slice A2 (nS + k + 1) c2)).cell? ⟨p7, 1, none⟩ = some (.slice none 0 0) := by rw [cell_of_row _ _ _ _ _ (0, 0) t2]; rfl
            have x2 : (V2.setCell ⟨p7, 0, none⟩ (.slice A2 (nS + k + 1) c2)).cell? ⟨p7, 2, none⟩ = some (.int .i64 0) := by rw [cell_of_row _ _ _ _ _ (0, 0) t2]; rfl
            have x3 : (V2.setCell ⟨p7, 0, none⟩ (.slice A2 (nS + k + 1) c2)).cell? ⟨p7, 3, none⟩ = some (.bool false) := by rw [cell_of_row _ _ _ _ _ (0, 0) t2]; rfl
            have x4 : (V2.setCell ⟨p7, 0, none⟩ (.slice A2 (nS + k + 1) c2)).cell? ⟨p7, 4, none⟩ = some (.bool false) := by rw [cell_of_row _ _ _ _ _ (0, 0) t2]; rfl
            have hrw2 : (V2.setCell ⟨p7, 0, none⟩ (.slice A2 (nS + k + 1) c2)).heap[w.heap.size + 1]? = _ := (t4.block _ (by omega)).trans ((hbA.block _ (World.block_lt_of_cell? wr ⟨w.heap.size + 1, 0, none⟩ r0)).trans HRW.out)
            have y0 := cell_of_row _ (w.heap.size + 1) 0 _ _ (0, 0) hrw2
            have y1 := cell_of_row _ (w.heap.size + 1) 1 _ _ (0, 0) hrw2
            have y2 := cell_of_row _ (w.heap.size + 1) 2 _ _ (0, 0) hrw2
            have y3 := cell_of_row _ (w.heap.size + 1) 3 _ _ (0, 0) hrw2
            have y4 := cell_of_row _ (w.heap.size + 1) 4 _ _ (0, 0) hrw2
            have yf : ∀ j, (V2.setCell ⟨p7, 0, none⟩ (.slice A2 (nS + k + 1) c2)).frozen? ⟨w.heap.size + 1, j, none⟩ = false := fun j => frozen_of_row _ _ j _ _ hrw2
            simp only [List.getElem?_toArray, List.getElem?_cons_succ, List.getElem?_cons_zero] at y0 y1 y2 y3 y4
            have hb2 : Below w.heap.size w (V2.setCell ⟨p7, 0, none⟩ (.slice A2 (nS + k + 1) c2)) := (HBW.out.trans (hbA.mono HBW.out.size)).trans (t4.mono (by omega))
            have HT1 := Lib.hid t1
            have HHO := Lib.hid hold
            have HB2' := Lib.hid hb2
            clear hrun t1 t2 t3 t4 hbA hb HRV ho hne hold hrw2 hb2
            (have hE : Below w.heap.size w ((((((V2.setCell ⟨p7, 0, none⟩ (.slice A2 (nS + k + 1) c2)).setCell ⟨w.heap.size + 1, 0, none⟩ (.slice A2 (nS + k + 1) c2)).setCell ⟨w.heap.size + 1, 1, none⟩ (.slice none 0 0)).setCell ⟨w.heap.size + 1, 2, none⟩ (.int .i64 0)).setCell ⟨w.heap.size + 1, 3, none⟩ (.bool false)).setCell ⟨w.heap.size + 1, 4, none⟩ (.bool false)) := (((((HB2'.out).setCell (by simp only; omega) _).setCell (by simp only; omega) _).setCell (by simp only; omega) _).setCell (by simp only; omega) _).setCell (by simp only; omega) _; have hR := rdA_end (w := w) (F := F) (ownA_low (ownA_low (ownA_low (ownA_low (ownA_low (HT1.out) (p := ⟨w.heap.size + 1, 0, none⟩) (by simp only; omega) (.slice A2 (nS + k + 1) c2)) (p := ⟨w.heap.size + 1, 1, none⟩) (by simp only; omega) (.slice none 0 0)) (p := ⟨w.heap.size + 1, 2, none⟩) (by simp only; omega) (.int .i64 0)) (p := ⟨w.heap.size + 1, 3, none⟩) (by simp only; omega) (.bool false)) (p := ⟨w.heap.size + 1, 4, none⟩) (by simp only; omega) (.bool false)) (by omega) (HHO.out) hE HF.out; have HE := Lib.hid hE; have HR := Lib.hid hR; clear hE hR; go_wp2_with (at_builtin; refine wpList_append_run rfl rfl rfl rfl hrun' ?_; clear hrun'); refine bodyPost_ret (v := .agg #[.slice A2 (nS + k + 1) c2, .slice none 0 0, .int .i64 0, .bool false, .bool false]) ?_ rfl ?_; (· rw [results_cell_one rfl]; go_simp; first | done | rfl); (· unfold RCrash; refine ⟨A2, nS + k + 1, c2, rfl, ?_⟩; unfold crashR; simp only; rw [HCL.out]; exact ⟨HR.out.1, HR.out.2, HE.out⟩))
        · have hcl : crashL r keep torn = r.loose.take k := crashL_uncut (hkk.trans HK.out) hkL (by rw [← KY.out]; exact hky0)
          have HCL := Lib.hid hcl
          clear hcl hkk
          have hbA : Below wr.heap.size wr (wr.alloc (.cells #[.int .u8 ky, .int .i64 ar, .slice Av m cv, .int .i64 xn, .int .i64 ym] 39)) := (Below.refl _ _).alloc (Nat.le_refl _) _
          have hoA := own_below ho hbA (Nat.le_refl _)
          have hbwA := HBW.out.trans (hbA.mono HBW.out.size)
          (have v0 := keepc o0 hbA; have v1 := keepc o1 hbA; have v2 := keepc o2 hbA; have v3 := keepc o3 hbA; have v4 := keepc o4 hbA; have z0 := keepc r0 hbA; have z1 := keepc r1 hbA; have z2 := keepc r2 hbA; have z3 := keepc r3 hbA; have z4 := keepc r4 hbA; have vf : ∀ j, (wr.alloc (.cells #[.int .u8 ky, .int .i64 ar, .slice Av m cv, .int .i64 xn, .int .i64 ym] 39)).frozen? ⟨p7, j, none⟩ = false := fun j => (hbA.frozen (show (Addr.mk p7 j none).block < wr.heap.size from World.block_lt_of_cell? wr ⟨p7, 0, none⟩ o0)).trans (of j); have zf : ∀ j, (wr.alloc (.cells #[.int .u8 ky, .int .i64 ar, .slice Av m cv, .int .i64 xn, .int .i64 ym] 39)).frozen? ⟨w.heap.size + 1, j, none⟩ = false := fun j => (hbA.frozen (show (Addr.mk (w.heap.size + 1) j none).block < wr.heap.size from World.block_lt_of_cell? wr ⟨w.heap.size + 1, 0, none⟩ r0)).trans (rf j))
          have HBWA := Lib.hid hbwA
          have HOA := Lib.hid hoA
          clear hbA hoA hbwA
          by_cases hk00 : ky = 0
          · have ht0 : ¬ 0 < torn := fun h => hky0 ⟨hk00, h⟩
            subst hk00
            clear hky0
            (have hE : Below w.heap.size w ((((((wr.alloc (.cells #[.int .u8 0, .int .i64 ar, .slice Av m cv, .int .i64 xn, .int .i64 ym] 39)).setCell ⟨w.heap.size + 1, 0, none⟩ (.slice A' (nS + k) c')).setCell ⟨w.heap.size + 1, 1, none⟩ (.slice none 0 0)).setCell ⟨w.heap.size + 1, 2, none⟩ (.int .i64 0)).setCell ⟨w.heap.size + 1, 3, none⟩ (.bool false)).setCell ⟨w.heap.size + 1, 4, none⟩ (.bool false)) := (((((HBWA.out).setCell (by simp only; omega) _).setCell (by simp only; omega) _).setCell (by simp only; omega) _).setCell (by simp only; omega) _).setCell (by simp only; omega) _; have hR := rdA_end (w := w) (F := F) (ownA_low (ownA_low (ownA_low (ownA_low (ownA_low (HOA.out) (p := ⟨w.heap.size + 1, 0, none⟩) (by simp only; omega) (.slice A' (nS + k) c')) (p := ⟨w.heap.size + 1, 1, none⟩) (by simp only; omega) (.slice none 0 0)) (p := ⟨w.heap.size + 1, 2, none⟩) (by simp only; omega) (.int .i64 0)) (p := ⟨w.heap.size + 1, 3, none⟩) (by simp only; omega) (.bool false)) (p := ⟨w.heap.size + 1, 4, none⟩) (by simp only; omega) (.bool false)) (by omega) (H2S.out.append (H2L.out.take k)) hE HF.out; have HE := Lib.hid hE; have HR := Lib.hid hR; clear hE hR; go_wp2_with fail; refine bodyPost_ret (v := .agg #[.slice A' (nS + k) c', .slice none 0 0, .int .i64 0, .bool false, .bool false]) ?_ rfl ?_; (· rw [results_cell_one rfl]; go_simp; first | done | rfl); (· unfold RCrash; refine ⟨A', nS + k, c', rfl, ?_⟩; unfold crashR; simp only; rw [HCL.out]; exact ⟨HR.out.1, HR.out.2, HE.out⟩))
          · clear hky0
            (have hE : Below w.heap.size w ((((((wr.alloc (.cells #[.int .u8 ky, .int .i64 ar, .slice Av m cv, .int .i64 xn, .int .i64 ym] 39)).setCell ⟨w.heap.size + 1, 0, none⟩ (.slice A' (nS + k) c')).setCell ⟨w.heap.size + 1, 1, none⟩ (.slice none 0 0)).setCell ⟨w.heap.size + 1, 2, none⟩ (.int .i64 0)).setCell ⟨w.heap.size + 1, 3, none⟩ (.bool false)).setCell ⟨w.heap.size + 1, 4, none⟩ (.bool false)) := (((((HBWA.out).setCell (by simp only; omega) _).setCell (by simp only; omega) _).setCell (by simp only; omega) _).setCell (by simp only; omega) _).setCell (by simp only; omega) _; have hR := rdA_end (w := w) (F := F) (ownA_low (ownA_low (ownA_low (ownA_low (ownA_low (HOA.out) (p := ⟨w.heap.size + 1, 0, none⟩) (by simp only; omega) (.slice A' (nS + k) c')) (p := ⟨w.heap.size + 1, 1, none⟩) (by simp only; omega) (.slice none 0 0)) (p := ⟨w.heap.size + 1, 2, none⟩) (by simp only; omega) (.int .i64 0)) (p := ⟨w.heap.size + 1, 3, none⟩) (by simp only; omega) (.bool false)) (p := ⟨w.heap.size + 1, 4, none⟩) (by simp only; omega) (.bool false)) (by omega) (H2S.out.append (H2L.out.take k)) hE HF.out; have HE := Lib.hid hE; have HR := Lib.hid hR; clear hE hR; go_wp2_with fail; refine bodyPost_ret (v := .agg #[.slice A' (nS + k) c', .slice none 0 0, .int .i64 0, .bool false, .bool false]) ?_ rfl ?_; (· rw [results_cell_one rfl]; go_simp; first | done | rfl); (· unfold RCrash; refine ⟨A', nS + k, c', rfl, ?_⟩; unfold crashR; simp only; rw [HCL.out]; exact ⟨HR.out.1, HR.out.2, HE.out⟩))
      · have hkk : k + 1 ≤ kk := by have := HKD.out; omega
        have hke' : (k : Int) < keep := by omega
        have hbA : Below wr.heap.size wr (wr.alloc (.cells #[.int .u8 ky, .int .i64 ar, .slice Av m cv, .int .i64 xn, .int .i64 ym] 39)) := (Below.refl _ _).alloc (Nat.le_refl _) _
        (have v0 := keepc o0 hbA; have v1 := keepc o1 hbA; have v2 := keepc o2 hbA; have v3 := keepc o3 hbA; have v4 := keepc o4 hbA; have z0 := keepc r0 hbA; have z1 := keepc r1 hbA; have z2 := keepc r2 hbA; have z3 := keepc r3 hbA; have z4 := keepc r4 hbA; have vf : ∀ j, (wr.alloc (.cells #[.int .u8 ky, .int .i64 ar, .slice Av m cv, .int .i64 xn, .int .i64 ym] 39)).frozen? ⟨p7, j, none⟩ = false := fun j => (hbA.frozen (show (Addr.mk p7 j none).block < wr.heap.size from World.block_lt_of_cell? wr ⟨p7, 0, none⟩ o0)).trans (of j); have zf : ∀ j, (wr.alloc (.cells #[.int .u8 ky, .int .i64 ar, .slice Av m cv, .int .i64 xn, .int .i64 ym] 39)).frozen? ⟨w.heap.size + 1, j, none⟩ = false := fun j => (hbA.frozen (show (Addr.mk (w.heap.size + 1) j none).block < wr.heap.size from World.block_lt_of_cell? wr ⟨w.heap.size + 1, 0, none⟩ r0)).trans (rf j))
        obtain ⟨A2, c2, V2, hrun, s0, sf, t1, t2, t3, t4⟩ := rpush (wr.alloc (.cells #[.int .u8 ky, .int .i64 ar, .slice Av m cv, .int .i64 xn, .int .i64 ym] 39)) (p := p7) (base := w.heap.size + 2) (own_below ho hbA (Nat.le_refl _)) ((hbA.block p7 (World.block_lt_of_cell? wr ⟨p7, 0, none⟩ o0)).trans (HO.out.2.1)) hne (by have := HP7.out; omega) ky ar xn ym (.slice Av m cv) rfl (by have := HLL.out; have := HNS.out; omega)
        have hnx : HS ++ HL.take k ++ [(ky, ar, .slice Av m cv, xn, ym)] = HS ++ HL.take (k + 1) := by
          rw [← List.take_append_getElem hkH, List.append_assoc, HHK.out]
        rw [hnx] at t1
        have HO2 := Lib.hid (show (V2.setCell ⟨p7, 0, none⟩ (.slice A2 (nS + (k + 1)) c2)).ownsRow (w.heap.size + 2) 39 5 (.slice A2 (nS + (k + 1)) c2) (nS + (k + 1)) (acV (HS ++ HL.take (k + 1))) ∧ (V2.setCell ⟨p7, 0, none⟩ (.slice A2 (nS + (k + 1)) c2)).heap[p7]? = some (.cells #[.slice A2 (nS + (k + 1)) c2, .slice none 0 0, .int .i64 0, .bool false, .bool false] 36 (0, 0)) ∧ (∀ b, A2.map (·.block) = some b → b ≠ p7) from ⟨t1, t2, t3⟩)
        have hb2 : Below (w.heap.size + 2) w2 (V2.setCell ⟨p7, 0, none⟩ (.slice A2 (nS + (k + 1)) c2)) := (hb.trans (hbA.mono (by have := hb.size; have := HS2.out; omega))).trans t4
        have hrun' : (Builtin.append_ #[33, 33] 33 #[.slice A' (nS + k) c', .slice (some ⟨wr.heap.size + 1, 0, none⟩) 1 1]).run Try.prog (((wr.alloc (.cells #[.int .u8 ky, .int .i64 ar, .slice Av m cv, .int .i64 xn, .int .i64 ym] 39)).alloc (.cells #[.int .u8 ky, .int .i64 ar, .slice Av m cv, .int .i64 xn, .int .i64 ym] 39))) = .ok (.slice A2 (nS + (k + 1)) c2) V2 := by
          rw [← World.size_alloc]
          exact hrun
        clear hrun t1 t2 t3 t4 hnx hbA hb HRV ho hne
        go_wp2_with (at_builtin; refine wpList_append_run rfl rfl rfl rfl hrun' ?_; clear hrun')
        go_roundw
        case rel => exact ⟨k + 1, A2, c2, hkk, by go_num, HO2, hb2⟩
        case measure => simp [intOf] <;> omega
    · have hkk : k = kk := by omega
      have hcl : crashL r keep torn = r.loose.take k := crashL_all (hkk.trans HK.out) (by rw [← HNL.out]; omega)
      have HCL := Lib.hid hcl
      clear hcl hdw hrw hp hkk
      (have hE : Below w.heap.size w (((((wr.setCell ⟨w.heap.size + 1, 0, none⟩ (.slice A' (nS + k) c')).setCell ⟨w.heap.size + 1, 1, none⟩ (.slice none 0 0)).setCell ⟨w.heap.size + 1, 2, none⟩ (.int .i64 0)).setCell ⟨w.heap.size + 1, 3, none⟩ (.bool false)).setCell ⟨w.heap.size + 1, 4, none⟩ (.bool false)) := (((((HBW.out).setCell (by simp only; omega) _).setCell (by simp only; omega) _).setCell (by simp only; omega) _).setCell (by simp only; omega) _).setCell (by simp only; omega) _; have hR := rdA_end (w := w) (F := F) (ownA_low (ownA_low (ownA_low (ownA_low (ownA_low (ho) (p := ⟨w.heap.size + 1, 0, none⟩) (by simp only; omega) (.slice A' (nS + k) c')) (p := ⟨w.heap.size + 1, 1, none⟩) (by simp only; omega) (.slice none 0 0)) (p := ⟨w.heap.size + 1, 2, none⟩) (by simp only; omega) (.int .i64 0)) (p := ⟨w.heap.size + 1, 3, none⟩) (by simp only; omega) (.bool false)) (p := ⟨w.heap.size + 1, 4, none⟩) (by simp only; omega) (.bool false)) (by omega) (H2S.out.append (H2L.out.take k)) hE HF.out; have HE := Lib.hid hE; have HR := Lib.hid hR; clear hE hR; go_wp2_with fail; refine bodyPost_ret (v := .agg #[.slice A' (nS + k) c', .slice none 0 0, .int .i64 0, .bool false, .bool false]) ?_ rfl ?_; (· rw [results_cell_one rfl]; go_simp; first | done | rfl); (· unfold RCrash; refine ⟨A', nS + k, c', rfl, ?_⟩; unfold crashR; simp only; rw [HCL.out]; exact ⟨HR.out.1, HR.out.2, HE.out⟩))
end Go.Proofs.Ytjipjfionelpkaa.dk
