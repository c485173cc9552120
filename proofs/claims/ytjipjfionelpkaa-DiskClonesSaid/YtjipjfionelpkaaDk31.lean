/- The law DiskClones. -/
import Derived.Test.YtjipjfionelpkaaDk30
import Derived.Test.YtjipjfionelpkaaTail3
namespace Go.Proofs.Ytjipjfionelpkaa.dk
open Go.RowKit Go.Proofs.Ytjipjfionelpkaa.lib Go.Proofs.Ytjipjfionelpkaa.byt
set_option linter.unusedVariables false

set_option maxRecDepth 10000 in
set_option maxHeartbeats 1000000 in
theorem law_DiskClones (w : World) {A : Option Addr} {n c : Nat} {B : Option Addr} {nb cb : Nat} (hx : FactA w A n) (hy : FactA w B nb) :
    Calls Try.prog 6 #[.slice A n c, .slice B nb cb] w fun e w' => e = .returned (.bool true) ∧ Below w.heap.size w w' := by
  obtain ⟨Lb, hnb, hrb0, hokb⟩ := hy
  have HNB := Lib.hid hnb
  have HOKB := Lib.hid hokb
  have HRB0 := Lib.hid hrb0
  clear hnb hokb hrb0
  obtain ⟨L, hn, hr, hok⟩ := hx
  have hr0 := hr
  have HN := Lib.hid hn
  have HOK := Lib.hid hok
  clear hn hok
  go_enter Try.func6, Try.ntmps6
  go_wp2_with fail
  refine (awake07 _).mono ?_
  rintro e w1 ⟨rfl, hb1⟩
  have hr1 := hr.below hb1 (Nat.le_refl _)
  go_wp2_with fail
  refine (few_any w1 HN.out hr1).mono ?_
  rintro e w2 ⟨t, rfl, ht, hb2⟩
  have hr2 := hr1.below hb2 (Nat.le_refl _)
  replace hb2 := hb1.trans (hb2.mono hb1.size)
  cases t
  · clear ht
    (go_wp2_with fail; refine (awake07 _).mono ?_; rintro e wz ⟨rfl, hbz⟩; go_wp2_with fail; go_ret; exact ⟨rfl, hb2.trans (hbz.mono hb2.size)⟩)
  have HF := Lib.hid (ht rfl)
  clear ht
  go_wp2_with fail
  refine (few_any w2 HNB.out (HRB0.out.bel (BelF.low hb2 (fun b h => h)))).mono ?_
  rintro e w2' ⟨t, rfl, ht, hb2'⟩
  replace hr2 := hr2.below hb2' (Nat.le_refl _)
  replace hb2 := hb2.trans (hb2'.mono hb2.size)
  clear hb2'
  generalize w2' = w2 at *
  cases t
  · clear ht
    (go_wp2_with fail; refine (awake07 _).mono ?_; rintro e wz ⟨rfl, hbz⟩; go_wp2_with fail; go_ret; exact ⟨rfl, hb2.trans (hbz.mono hb2.size)⟩)
  have HFB := Lib.hid (ht rfl)
  clear ht hr hr1 hb1
  go_wp2_with fail
  refine (new_any w2).mono ?_
  rintro e w3 ⟨rfl, hD, hb3⟩
  have hszw := hb2.size
  replace hb3 := hb2.trans (hb3.mono hb2.size)
  have hdl := hD.lt.1
  generalize w2.heap.size = d at *
  have hb4 : Below w.heap.size w (w3.alloc (.cells #[.slice none 0 0, .slice none 0 0, .int .i64 0, .bool false, .bool false] 36)) := hb3.alloc hb3.size _
  have hP : Pair (w3.alloc (.cells #[.slice none 0 0, .slice none 0 0, .int .i64 0, .bool false, .bool false] 36)) (plus w3 (w3.alloc (.cells #[.slice none 0 0, .slice none 0 0, .int .i64 0, .bool false, .bool false] 36)) fun b => b < d) (plus w3 (w3.alloc (.cells #[.slice none 0 0, .slice none 0 0, .int .i64 0, .bool false, .bool false] 36)) fun b => b < d) d w3.heap.size newS newR none 0 none 0 0 :=
    ⟨hD.plus ((Below.refl w3.heap.size w3).alloc (Nat.le_refl _) _) (Nat.le_refl _), rel_new, ⟨Nat.le_refl _, Nat.le_refl _⟩, Nat.le_refl _, RdA.nil, RdA.nil, heap_alloc_new w3 _, ⟨by simp, .inr (Nat.le_refl _)⟩⟩
  have HLO0 := Lib.hid (show ∀ b, b < w.heap.size → less (plus w3 (w3.alloc (.cells #[.slice none 0 0, .slice none 0 0, .int .i64 0, .bool false, .bool false] 36)) fun b => b < d) w3.heap.size b from fun b h => ⟨⟨by simp; omega, .inl (Nat.lt_of_lt_of_le h hszw)⟩, by omega⟩)
  have HQ := Lib.hid (show w.heap.size ≤ w3.heap.size from hb3.size)
  have HP0 := Lib.hid hP
  have HB0 := Lib.hid hb4
  have HR0 := Lib.hid hr0
  have hn40 : n ≤ 40 := by have := HN.out; have := HF.out.1; omega
  have hnb40 : nb ≤ 40 := by have := HNB.out; have := HFB.out.1; omega
  clear hP hb4 hb3 hb2 hD hdl hszw hr2 hr0
  go_wp2_with fail
  generalize w3.alloc (.cells #[.slice none 0 0, .slice none 0 0, .int .i64 0, .bool false, .bool false] 36) = w4 at HP0 HB0 HLO0 ⊢
  generalize plus w3 w4 (fun b => b < d) = F0 at HP0 HLO0
  generalize w3.heap.size = q at *
  go_loopw [7] (fun vi wr => ∃ (k : Nat) (s : DS) (r : RS) (F : Nat → Prop) (AS : Option Addr) (cS : Nat) (AL : Option Addr) (cL : Nat), k ≤ n ∧ vi = .int .i64 k ∧ Hid (Pair wr F F d q s r AS cS AL cL (k * 201)) ∧ Hid (∀ b, b < w.heap.size → less F q b) ∧ Hid (Below w.heap.size w wr)) (fun vi _ => n - (intOf vi).toNat)
  case atStart => exact ⟨0, newS, newR, F0, none, 0, none, 0, Nat.zero_le _, rfl, HP0, HLO0, HB0⟩
  case round =>
    obtain ⟨k, s, r, F, AS, cS, AL, cL, hk, rfl, HPK, HLK, HBK⟩ := hrel
    by_cases hlt : k < n
    · have hkl : k < L.length := by rw [← HN.out]; exact hlt
      have hrl := HR0.out.bel (BelF.low HBK.out (fun b h => h))
      obtain ⟨ad, A', c', rfl, hbl, hadF, c0, c1, c2, c3, c4, hrb, hcap⟩ := hrl.at_ hkl
      have hok := HOK.out k hkl
      have hfew := HF.out.2 k hkl
      obtain ⟨a, ha⟩ : ∃ a, a = L[k] := ⟨_, rfl⟩
      rw [← ha] at c0 c1 c2 c3 c4 hrb hcap hok hfew
      obtain ⟨m, hm⟩ : ∃ m, m = a.2.2.1.length := ⟨_, rfl⟩
      rw [← hm] at c2 hcap hfew
      obtain ⟨nS, hnS⟩ : ∃ x, x = r.safe.length := ⟨_, rfl⟩
      obtain ⟨nL, hnL⟩ : ∃ x, x = r.loose.length := ⟨_, rfl⟩
      obtain ⟨lf, hlf⟩ : ∃ x, x = r.left := ⟨_, rfl⟩
      obtain ⟨am, ham⟩ : ∃ x, x = r.armed := ⟨_, rfl⟩
      obtain ⟨dn, hdn⟩ : ∃ x, x = r.down := ⟨_, rfl⟩
      obtain ⟨p2, hp2⟩ : ∃ p, p = doR r a := ⟨_, rfl⟩
      have hP := play_any wr HPK.out.disk HPK.out.rel HPK.out.size (by omega) a hok.1 hok.2 (cb := c') hm hrb.rd (Nat.le_refl _) (by omega)
      rw [← hp2] at hP
      have HPL := Lib.hid hP
      have HM := Lib.hid hm
      have NS := Lib.hid hnS
      have NL := Lib.hid hnL
      have LF := Lib.hid hlf
      have AM := Lib.hid ham
      have DN := Lib.hid hdn
      have HP2 := Lib.hid hp2
      have HOA := Lib.hid hok
      have HFW := Lib.hid (show a.2.2.1.length ≤ 200 from by rw [← hm]; exact hfew)
      have HRB := Lib.hid (hrb.mono HLK.out)
      have HADF := Lib.hid (show ad.block < w.heap.size from hadF)
      have HCAP := Lib.hid hcap
      have hk0 : (0 : Int) ≤ k := by omega
      have hk1 : (k : Int) < n := by omega
      clear ha hm hnS hnL hlf ham hdn hp2 hP hrb hok hrl hadF hcap hfew
      go_wp2_with fail
      refine HPL.out.mono ?_
      rintro e w5 ⟨rfl, s1, hD1, hR1, hbf⟩
      obtain ⟨e0, e1, e2, e3, e4, -⟩ := HPK.out.cellsB hbf
      rw [← NS.out] at e0
      rw [← NL.out] at e1
      rw [← LF.out] at e2
      rw [← AM.out] at e3
      rw [← DN.out] at e4
      have hblk : w5.heap[ad.block]? = wr.heap[ad.block]? := hbf.block ad.block hbl (HLK.out _ HADF.out).1
      have kc : ∀ {p : Addr} {v : Value}, p.block = ad.block → wr.cell? p = some v → w5.cell? p = some v := fun {p v} h1 h2 => (World.cell?_of_block (by rw [h1]; exact hblk)).trans h2
      have hba : (ad.add (k * 5)).block = ad.block := block_of_add _ _
      replace c0 := kc hba c0
      replace c1 := kc (by exact hba) c1
      replace c2 := kc (by exact hba) c2
      replace c3 := kc (by exact hba) c3
      replace c4 := kc (by exact hba) c4
      have hb5w : Below w.heap.size w w5 := HBK.out.trans (hbf.to_below (fun b h => (HLK.out b h).1) HBK.out.size)
      have hDo : ∀ X : World, Below w5.heap.size w5 X → Calls Try.prog 19 #[.agg #[.slice AS nS cS, .slice AL nL cL, .int .i64 lf, .bool am, .bool dn], .agg #[.int .u8 a.1, .int .i64 a.2.1, .slice A' m c', .int .i64 a.2.2.2.1, .int .i64 a.2.2.2.2]] X (RDo X (less F q) p2) := fun X hX => by
        have := HPK.out.acts (m := m) (cv := c') (Av := A') (a := a) (by omega) hbf hX HOA.out.1 HM.out ((HRB.out.bel (hbf.mono fun b hb => hb.1)).below hX (Nat.le_refl _)) HCAP.out
        rw [← NS.out, ← NL.out, ← LF.out, ← AM.out, ← DN.out, ← HP2.out] at this
        exact this
      have HDO := Lib.hid hDo
      have HD1 := Lib.hid hD1
      have HR1 := Lib.hid hR1
      have HBF := Lib.hid hbf
      have HB5 := Lib.hid hb5w
      have HQ5 := Lib.hid (show q < w5.heap.size from Nat.lt_of_lt_of_le (HPK.out.disk.lt.2.2.2 q HPK.out.q_in) hbf.size)
      have hS0 : (fun X : World => (X.cell? ⟨q, 0, none⟩ = some (.slice AS nS cS) ∧ X.cell? ⟨q, 1, none⟩ = some (.slice AL nL cL) ∧ X.cell? ⟨q, 2, none⟩ = some (.int .i64 lf) ∧ X.cell? ⟨q, 3, none⟩ = some (.bool am) ∧ X.cell? ⟨q, 4, none⟩ = some (.bool dn) ∧ X.cell? (ad.add (k * 5)) = some (.int .u8 a.1) ∧ X.cell? ⟨(ad.add (k * 5)).block, (ad.add (k * 5)).off + 1, none⟩ = some (.int .i64 a.2.1) ∧ X.cell? ⟨(ad.add (k * 5)).block, (ad.add (k * 5)).off + 2, none⟩ = some (.slice A' m c') ∧ X.cell? ⟨(ad.add (k * 5)).block, (ad.add (k * 5)).off + 3, none⟩ = some (.int .i64 a.2.2.2.1) ∧ X.cell? ⟨(ad.add (k * 5)).block, (ad.add (k * 5)).off + 4, none⟩ = some (.int .i64 a.2.2.2.2))) w5.drew := ⟨e0, e1, e2, e3, e4, c0, c1, c2, c3, c4⟩
      clear hblk kc hba hDo hD1 hR1 hbf hb5w hbl HPL
      go_wp2_with fail
      have hX : Below w5.heap.size w5 w5.drew := below_drew (Below.refl _ _)
      refine tail3.wp_region_till (fun j => j == 8 || j == 9) (fun X => (X.cell? ⟨q, 0, none⟩ = some (.slice AS nS cS) ∧ X.cell? ⟨q, 1, none⟩ = some (.slice AL nL cL) ∧ X.cell? ⟨q, 2, none⟩ = some (.int .i64 lf) ∧ X.cell? ⟨q, 3, none⟩ = some (.bool am) ∧ X.cell? ⟨q, 4, none⟩ = some (.bool dn) ∧ X.cell? (ad.add (k * 5)) = some (.int .u8 a.1) ∧ X.cell? ⟨(ad.add (k * 5)).block, (ad.add (k * 5)).off + 1, none⟩ = some (.int .i64 a.2.1) ∧ X.cell? ⟨(ad.add (k * 5)).block, (ad.add (k * 5)).off + 2, none⟩ = some (.slice A' m c') ∧ X.cell? ⟨(ad.add (k * 5)).block, (ad.add (k * 5)).off + 3, none⟩ = some (.int .i64 a.2.2.2.1) ∧ X.cell? ⟨(ad.add (k * 5)).block, (ad.add (k * 5)).off + 4, none⟩ = some (.int .i64 a.2.2.2.2))) (by kernel_rfl) ?_
      (refine tail3.till_take 0 (v := ?_) rfl (by kernel_rfl) (by kernel_rfl) (by kernel_rfl) (by kernel_rfl) (by kernel_rfl) (fun _ _ _ h => h) (by rfl) (by assumption) ?_ ?_; rotate_left 1; (focus (intro X hX; obtain ⟨s0, s1, s2, s3, s4, s5, s6, s7, s8, s9⟩ := hX; go_simp; with_reducible rfl)); (try simp only [Act.put, List.setIfInBounds_toArray, List.set_cons_zero, List.set_cons_succ]))
      (refine tail3.till_take 1 (v := ?_) rfl (by kernel_rfl) (by kernel_rfl) (by kernel_rfl) (by kernel_rfl) (by kernel_rfl) (fun _ _ _ h => h) (by rfl) (by assumption) ?_ ?_; rotate_left 1; (focus (intro X hX; obtain ⟨s0, s1, s2, s3, s4, s5, s6, s7, s8, s9⟩ := hX; go_simp; with_reducible rfl)); (try simp only [Act.put, List.setIfInBounds_toArray, List.set_cons_zero, List.set_cons_succ]))
      (refine tail3.till_take 2 (v := ?_) rfl (by kernel_rfl) (by kernel_rfl) (by kernel_rfl) (by kernel_rfl) (by kernel_rfl) (fun _ _ _ h => h) (by rfl) (by assumption) ?_ ?_; rotate_left 1; (focus (intro X hX; obtain ⟨s0, s1, s2, s3, s4, s5, s6, s7, s8, s9⟩ := hX; go_simp; with_reducible rfl)); (try simp only [Act.put, List.setIfInBounds_toArray, List.set_cons_zero, List.set_cons_succ]))
      (refine tail3.till_take 3 (v := ?_) rfl (by kernel_rfl) (by kernel_rfl) (by kernel_rfl) (by kernel_rfl) (by kernel_rfl) (fun _ _ _ h => h) (by rfl) (by assumption) ?_ ?_; rotate_left 1; (focus (intro X hX; obtain ⟨s0, s1, s2, s3, s4, s5, s6, s7, s8, s9⟩ := hX; go_simp; with_reducible rfl)); (try simp only [Act.put, List.setIfInBounds_toArray, List.set_cons_zero, List.set_cons_succ]))
      (refine tail3.till_take 4 (v := ?_) rfl (by kernel_rfl) (by kernel_rfl) (by kernel_rfl) (by kernel_rfl) (by kernel_rfl) (fun _ _ _ h => h) (by rfl) (by assumption) ?_ ?_; rotate_left 1; (focus (intro X hX; obtain ⟨s0, s1, s2, s3, s4, s5, s6, s7, s8, s9⟩ := hX; go_simp; with_reducible rfl)); (try simp only [Act.put, List.setIfInBounds_toArray, List.set_cons_zero, List.set_cons_succ]))
      refine tail3.till_one 5 (by kernel_rfl) rfl (fun K hK => ?_)
      go_simp
      go_at_call 19
      refine (HDO.out _ hX).mono ?_
      intro e6 w6 hh
      obtain ⟨A1, n1, c1', A2, n2, c2', rfl, hn1, hn2, hr1, hr2, hb6⟩ := hh
      unfold dagg
      have HN1 := Lib.hid hn1
      have HN2 := Lib.hid hn2
      clear hn1 hn2
      have hS6 : (fun X : World => (X.cell? ⟨q, 0, none⟩ = some (.slice AS nS cS) ∧ X.cell? ⟨q, 1, none⟩ = some (.slice AL nL cL) ∧ X.cell? ⟨q, 2, none⟩ = some (.int .i64 lf) ∧ X.cell? ⟨q, 3, none⟩ = some (.bool am) ∧ X.cell? ⟨q, 4, none⟩ = some (.bool dn) ∧ X.cell? (ad.add (k * 5)) = some (.int .u8 a.1) ∧ X.cell? ⟨(ad.add (k * 5)).block, (ad.add (k * 5)).off + 1, none⟩ = some (.int .i64 a.2.1) ∧ X.cell? ⟨(ad.add (k * 5)).block, (ad.add (k * 5)).off + 2, none⟩ = some (.slice A' m c') ∧ X.cell? ⟨(ad.add (k * 5)).block, (ad.add (k * 5)).off + 3, none⟩ = some (.int .i64 a.2.2.2.1) ∧ X.cell? ⟨(ad.add (k * 5)).block, (ad.add (k * 5)).off + 4, none⟩ = some (.int .i64 a.2.2.2.2))) w6 := ⟨keepc (W := w5.drew) e0 hb6, keepc (W := w5.drew) e1 hb6, keepc (W := w5.drew) e2 hb6, keepc (W := w5.drew) e3 hb6, keepc (W := w5.drew) e4 hb6, keepc (W := w5.drew) c0 hb6, keepc (W := w5.drew) c1 hb6, keepc (W := w5.drew) c2 hb6, keepc (W := w5.drew) c3 hb6, keepc (W := w5.drew) c4 hb6⟩
      refine hK.out _ _ (fun _ => hS6) ?_
      clear hK K
      try simp only [Act.put, List.setIfInBounds_toArray, List.set_cons_zero, List.set_cons_succ]
      refine tail3.till_one 6 (by kernel_rfl) rfl (fun K hK => ?_)
      go_simp
      refine hK.out _ _ (fun _ => hS6) ?_
      clear hK K
      try simp only [Act.put, List.setIfInBounds_toArray, List.set_cons_zero, List.set_cons_succ]
      have hbW : Below w5.heap.size w5 w6 := hX.trans hb6
      have hszW : w6.heap.size ≤ w6.heap.size := Nat.le_refl _
      have hst := HPK.out.step (a := a) (s1 := s1) (w1 := w5) (w5 := w6) (w6 := w6) (X := w5.drew) HFW.out HD1.out (by rw [← HP2.out]; exact HR1.out) HBF.out hX (c1 := c1') (c2 := c2') (n1 := n1) (n2 := n2) (by rw [← HP2.out]; exact HN1.out) (by rw [← HP2.out]; exact HN2.out) (by rw [← HP2.out]; exact hr1) (by rw [← HP2.out]; exact hr2) (fun b _ hb => rfl) hszW hbW
      rw [← HP2.out] at hst
      have hlow : ∀ b, b < w.heap.size → less (plus w5 w6 F) q b := fun b h => by
        obtain ⟨h1, h2⟩ := HLK.out b h
        exact ⟨plus_of hbW.size HD1.out.lt.2.2.2 h1, h2⟩
      have hbN : Below w.heap.size w (((((w6.setCell ⟨q, 0, none⟩ (.slice A1 n1 c1')).setCell ⟨q, 1, none⟩ (.slice A2 n2 c2')).setCell ⟨q, 2, none⟩ (.int .i64 p2.1.left)).setCell ⟨q, 3, none⟩ (.bool p2.1.armed)).setCell ⟨q, 4, none⟩ (.bool p2.1.down)) := by
        repeat (with_reducible refine Below.setCell ?_ (by have := HQ.out; simp only; omega) _)
        exact HB5.out.trans (hbW.mono HB5.out.size)
      have HST := Lib.hid hst
      have HLW := Lib.hid hlow
      have HBN := Lib.hid hbN
      have q0 := keepc e0 hbW
      have q1 := keepc e1 hbW
      have q2 := keepc e2 hbW
      have q3 := keepc e3 hbW
      have q4 := keepc e4 hbW
      have qf : ∀ j, w6.frozen? ⟨q, j, none⟩ = false := fun j => (hbW.frozen (show (Addr.mk q j none).block < w5.heap.size from HQ5.out)).trans ((HPK.out.cellsB HBF.out).2.2.2.2.2 j)
      obtain ⟨f0, f1, f2, f3, f4, -⟩ := HST.out.cells
      rw [← HN1.out] at f0
      rw [← HN2.out] at f1
      clear hst hlow hbN hr1 hr2 hb6 hX hszW hbW
      refine tail3.till_two 7 8 (by kernel_rfl) rfl rfl ?_ ?_
      · intro K hK
        go_simp
        refine hK.out _ _ (fun _ => hS6) ?_
        clear hK K
        try simp only [Act.put, List.setIfInBounds_toArray, List.set_cons_zero, List.set_cons_succ]
        refine tail3.till_two 8 9 (by kernel_rfl) rfl rfl ?_ ?_
        · intro K hK
          go_simp
          refine hK.out _ _ (fun h => absurd h (by decide)) ?_
          clear hK K
          try simp only [Act.put, List.setIfInBounds_toArray, List.set_cons_zero, List.set_cons_succ]
          refine tail3.till_one 9 (by kernel_rfl) rfl (fun K hK => ?_)
          go_simp
          refine hK.out _ _ (fun h => absurd h (by decide)) ?_
          clear hK K
          try simp only [Act.put, List.setIfInBounds_toArray, List.set_cons_zero, List.set_cons_succ]
          refine tail3.till_done (by kernel_rfl) ?_ _
          clear hS6 hS0 q0 q1 q2 q3 q4 qf f0 f1 f2 f3 f4
          go_wp2_with fail
          go_roundw
          case rel => exact ⟨k + 1, s1, p2.1, _, A1, c1', A2, c2', by omega, by go_num, by rw [show (k + 1) * 201 = k * 201 + 201 by omega]; exact HST, HLW, HBN⟩
          case measure => simp [intOf] <;> omega
        · intro K hK
          go_simp
          refine hK.out _ _ (fun h => absurd h (by decide)) ?_
          clear hK K
          try simp only [Act.put, List.setIfInBounds_toArray, List.set_cons_zero, List.set_cons_succ]
          refine tail3.till_one 8 (by kernel_rfl) rfl (fun K hK => ?_)
          go_simp
          refine hK.out _ _ (fun h => absurd h (by decide)) ?_
          clear hK K
          try simp only [Act.put, List.setIfInBounds_toArray, List.set_cons_zero, List.set_cons_succ]
          refine tail3.till_done (by kernel_rfl) ?_ _
          clear hS6 hS0 q0 q1 q2 q3 q4 qf f0 f1 f2 f3 f4
          go_wp2_with fail
          go_roundw
          case rel => exact ⟨k + 1, s1, p2.1, _, A1, c1', A2, c2', by omega, by go_num, by rw [show (k + 1) * 201 = k * 201 + 201 by omega]; exact HST, HLW, HBN⟩
          case measure => simp [intOf] <;> omega
      · intro K hK
        go_simp
        refine hK.out _ _ (fun h => absurd h (by decide)) ?_
        clear hK K
        try simp only [Act.put, List.setIfInBounds_toArray, List.set_cons_zero, List.set_cons_succ]
        refine tail3.till_one 7 (by kernel_rfl) rfl (fun K hK => ?_)
        go_simp
        refine hK.out _ _ (fun _ => hS6) ?_
        clear hK K
        try simp only [Act.put, List.setIfInBounds_toArray, List.set_cons_zero, List.set_cons_succ]
        refine tail3.till_one 9 (by kernel_rfl) rfl (fun K hK => ?_)
        go_simp
        refine hK.out _ _ (fun h => absurd h (by decide)) ?_
        clear hK K
        try simp only [Act.put, List.setIfInBounds_toArray, List.set_cons_zero, List.set_cons_succ]
        refine tail3.till_done (by kernel_rfl) ?_ _
        clear hS6 hS0 q0 q1 q2 q3 q4 qf f0 f1 f2 f3 f4
        go_wp2_with fail
        go_roundw
        case rel => exact ⟨k + 1, s1, p2.1, _, A1, c1', A2, c2', by omega, by go_num, by rw [show (k + 1) * 201 = k * 201 + 201 by omega]; exact HST, HLW, HBN⟩
        case measure => simp [intOf] <;> omega
    · obtain rfl : k = n := by omega
      clear hlt HP0 HB0 HLO0 HR0 HOK HF
      obtain ⟨z1, -⟩ := HPK.out.rel.short HPK.out.size (by omega) 0 (by omega)
      have HCL := Lib.hid (clone_two wr HPK.out.disk z1)
      obtain ⟨nS, hnS⟩ : ∃ x, x = r.safe.length := ⟨_, rfl⟩
      obtain ⟨nL, hnL⟩ : ∃ x, x = r.loose.length := ⟨_, rfl⟩
      obtain ⟨lf, hlf⟩ : ∃ x, x = r.left := ⟨_, rfl⟩
      obtain ⟨am, ham⟩ : ∃ x, x = r.armed := ⟨_, rfl⟩
      obtain ⟨dn, hdn⟩ : ∃ x, x = r.down := ⟨_, rfl⟩
      have NS := Lib.hid hnS
      have NL := Lib.hid hnL
      have LF := Lib.hid hlf
      have AM := Lib.hid ham
      have DN := Lib.hid hdn
      clear z1 hnS hnL hlf ham hdn
      go_wp2_with fail
      refine HCL.out.mono ?_
      rintro e w5 ⟨rfl, ⟨F1, G1, F2, G2, hP1, hP2, hbes, hF12, hG12⟩, hbc⟩
      obtain ⟨e0, e1, e2, e3, e4, -⟩ := HPK.out.cells
      replace e0 := keepc e0 hbc
      replace e1 := keepc e1 hbc
      replace e2 := keepc e2 hbc
      replace e3 := keepc e3 hbc
      replace e4 := keepc e4 hbc
      rw [← NS.out] at e0
      rw [← NL.out] at e1
      rw [← LF.out] at e2
      rw [← AM.out] at e3
      rw [← DN.out] at e4
      have hlt2 := hP2.lt.2.2.2
      have hqlt : q < wr.heap.size := HPK.out.disk.lt.2.2.2 q HPK.out.q_in
      have hbW : Below w5.heap.size w5 (w5.alloc (.cells #[.slice AS nS cS, .slice AL nL cL, .int .i64 lf, .bool am, .bool dn] 36)) := (Below.refl _ _).alloc (Nat.le_refl _) _
      have hbcW := hbc.trans (hbW.mono hbc.size)
      have hsub : ∀ b, less F q b → less (plus w5 (w5.alloc (.cells #[.slice AS nS cS, .slice AL nL cL, .int .i64 lf, .bool am, .bool dn] 36)) F2) q b := fun b hb => ⟨plus_of hbW.size hlt2 (hF12 b hb.1).2, hb.2⟩
      have hsafe : RdA (w5.alloc (.cells #[.slice AS nS cS, .slice AL nL cL, .int .i64 lf, .bool am, .bool dn] 36)) (less (plus w5 (w5.alloc (.cells #[.slice AS nS cS, .slice AL nL cL, .int .i64 lf, .bool am, .bool dn] 36)) F2) q) AS r.safe := (HPK.out.safe.below hbcW (Nat.le_refl _)).mono hsub
      have hloose : RdA (w5.alloc (.cells #[.slice AS nS cS, .slice AL nL cL, .int .i64 lf, .bool am, .bool dn] 36)) (less (plus w5 (w5.alloc (.cells #[.slice AS nS cS, .slice AL nL cL, .int .i64 lf, .bool am, .bool dn] 36)) F2) q) AL r.loose := (HPK.out.loose.below hbcW (Nat.le_refl _)).mono hsub
      have HPX := Lib.hid (show Pair (w5.alloc (.cells #[.slice AS nS cS, .slice AL nL cL, .int .i64 lf, .bool am, .bool dn] 36)) (plus w5 (w5.alloc (.cells #[.slice AS nS cS, .slice AL nL cL, .int .i64 lf, .bool am, .bool dn] 36)) F2) (plus w5 (w5.alloc (.cells #[.slice AS nS cS, .slice AL nL cL, .int .i64 lf, .bool am, .bool dn] 36)) G2) wr.heap.size q s r AS cS AL cL (8040 + 0 * 201) from
        ⟨hP2.plus hbW (Nat.le_refl _), HPK.out.rel, ⟨Nat.le_trans HPK.out.size.1 (by omega), Nat.le_trans HPK.out.size.2 (by omega)⟩, Nat.le_trans HPK.out.few (by omega), hsafe, hloose, (hbcW.block q hqlt).trans HPK.out.cell, ⟨by have := hbcW.size; omega, .inl (hG12 q HPK.out.g_in).2⟩⟩)
      have HSX := Lib.hid (show Side (w5.alloc (.cells #[.slice AS nS cS, .slice AL nL cL, .int .i64 lf, .bool am, .bool dn] 36)) (plus w5 (w5.alloc (.cells #[.slice AS nS cS, .slice AL nL cL, .int .i64 lf, .bool am, .bool dn] 36)) F1) (plus w5 (w5.alloc (.cells #[.slice AS nS cS, .slice AL nL cL, .int .i64 lf, .bool am, .bool dn] 36)) G1) (plus w5 (w5.alloc (.cells #[.slice AS nS cS, .slice AL nL cL, .int .i64 lf, .bool am, .bool dn] 36)) F2) (plus w5 (w5.alloc (.cells #[.slice AS nS cS, .slice AL nL cL, .int .i64 lf, .bool am, .bool dn] 36)) G2) d q w5.heap.size s r AS cS AL cL from
        ⟨hP1.plus hbW (Nat.le_refl _), hbes.plus4 hbW.size, hsafe, hloose, by rw [← NS.out, ← NL.out, ← LF.out, ← AM.out, ← DN.out]; exact heap_alloc_new w5 _, fun b hb => hb.1, ⟨by simp, .inr (Nat.le_refl _)⟩, by have := hbc.size; omega, ⟨by have := hbcW.size; omega, .inl (hG12 q HPK.out.g_in).1⟩⟩)
      have HLX := Lib.hid (show ∀ b, b < w.heap.size → less (plus w5 (w5.alloc (.cells #[.slice AS nS cS, .slice AL nL cL, .int .i64 lf, .bool am, .bool dn] 36)) F2) q b from fun b h => hsub b (HLK.out b h))
      have HBX := Lib.hid (HBK.out.trans (hbcW.mono HBK.out.size))
      have HR0 := Lib.hid HPK.out.rel
      have HZ0 := Lib.hid (show SizeR r 8040 from ⟨Nat.le_trans HPK.out.size.1 (by omega), Nat.le_trans HPK.out.size.2 (by omega)⟩)
      have HFW0 := Lib.hid (show r.safe.length ≤ 8040 from by have := HPK.out.few; omega)
      have HNE := Lib.hid (show wr.heap.size ≤ w5.heap.size from hbc.size)
      clear hP1 hP2 hbes hF12 hG12 hbc hlt2 hbcW hsub hsafe hloose hqlt hbW HPK HLK HBK HCL
      go_wp2_with fail
      generalize (w5.alloc (.cells #[.slice AS nS cS, .slice AL nL cL, .int .i64 lf, .bool am, .bool dn] 36)) = W at HPX HSX HLX HBX ⊢
      generalize plus w5 W F1 = F1 at HSX
      generalize plus w5 W G1 = G1 at HSX
      generalize plus w5 W F2 = F2 at HPX HSX HLX
      generalize plus w5 W G2 = G2 at HPX HSX
      clear e0 e1 e2 e3 e4 NS NL LF AM DN HNE
      generalize w5.heap.size = qw at *
      generalize wr.heap.size = x at *
      have HRS := Lib.hid (show s = s from rfl)
      clear HRS
      go_loopw [10] (fun vi wr => ∃ (k : Nat) (s2 : DS) (r2 : RS) (F1 G1 F2 G2 : Nat → Prop) (AS2 : Option Addr) (cS2 : Nat) (AL2 : Option Addr) (cL2 : Nat), k ≤ nb ∧ vi = .int .i64 k ∧ Hid (Pair wr F2 G2 x q s2 r2 AS2 cS2 AL2 cL2 (8040 + k * 201)) ∧ Hid (Side wr F1 G1 F2 G2 d q qw s r AS cS AL cL) ∧ Hid (∀ b, b < w.heap.size → less F2 q b) ∧ Hid (Below w.heap.size w wr)) (fun vi _ => nb - (intOf vi).toNat)
      case atStart => exact ⟨0, s, r, F1, G1, F2, G2, AS, cS, AL, cL, Nat.zero_le _, rfl, HPX, HSX, HLX, HBX⟩
      case round =>
        clear HPX HSX HLX HBX
        obtain ⟨k, s, r, F1, G1, F, G, AS, cS, AL, cL, hk, rfl, HPK, HSK, HLK, HBK⟩ := hrel
        by_cases hlt : k < nb
        · have hkl : k < Lb.length := by rw [← HNB.out]; exact hlt
          have hrl := HRB0.out.bel (BelF.low HBK.out (fun b h => h))
          obtain ⟨ad, A', c', rfl, hbl, hadF, c0, c1, c2, c3, c4, hrb, hcap⟩ := hrl.at_ hkl
          have hok := HOKB.out k hkl
          have hfew := HFB.out.2 k hkl
          obtain ⟨a, ha⟩ : ∃ a, a = Lb[k] := ⟨_, rfl⟩
          rw [← ha] at c0 c1 c2 c3 c4 hrb hcap hok hfew
          obtain ⟨m, hm⟩ : ∃ m, m = a.2.2.1.length := ⟨_, rfl⟩
          rw [← hm] at c2 hcap hfew
          obtain ⟨nS, hnS⟩ : ∃ x, x = r.safe.length := ⟨_, rfl⟩
          obtain ⟨nL, hnL⟩ : ∃ x, x = r.loose.length := ⟨_, rfl⟩
          obtain ⟨lf, hlf⟩ : ∃ x, x = r.left := ⟨_, rfl⟩
          obtain ⟨am, ham⟩ : ∃ x, x = r.armed := ⟨_, rfl⟩
          obtain ⟨dn, hdn⟩ : ∃ x, x = r.down := ⟨_, rfl⟩
          obtain ⟨p2, hp2⟩ : ∃ p, p = doR r a := ⟨_, rfl⟩
          have hP := play_any wr HPK.out.disk HPK.out.rel HPK.out.size (by omega) a hok.1 hok.2 (cb := c') hm hrb.rd (Nat.le_refl _) (by omega)
          rw [← hp2] at hP
          have HPL := Lib.hid hP
          have HM := Lib.hid hm
          have NS := Lib.hid hnS
          have NL := Lib.hid hnL
          have LF := Lib.hid hlf
          have AM := Lib.hid ham
          have DN := Lib.hid hdn
          have HP2 := Lib.hid hp2
          have HOA := Lib.hid hok
          have HFW := Lib.hid (show a.2.2.1.length ≤ 200 from by rw [← hm]; exact hfew)
          have HRB := Lib.hid (hrb.mono HLK.out)
          have HADF := Lib.hid (show ad.block < w.heap.size from hadF)
          have HCAP := Lib.hid hcap
          have hk0 : (0 : Int) ≤ k := by omega
          have hk1 : (k : Int) < nb := by omega
          clear ha hm hnS hnL hlf ham hdn hp2 hP hrb hok hrl hadF hcap hfew
          go_wp2_with fail
          refine HPL.out.mono ?_
          rintro e w5 ⟨rfl, s1, hD1, hR1, hbf⟩
          obtain ⟨e0, e1, e2, e3, e4, -⟩ := HPK.out.cellsB hbf
          rw [← NS.out] at e0
          rw [← NL.out] at e1
          rw [← LF.out] at e2
          rw [← AM.out] at e3
          rw [← DN.out] at e4
          have hblk : w5.heap[ad.block]? = wr.heap[ad.block]? := hbf.block ad.block hbl (HLK.out _ HADF.out).1
          have kc : ∀ {p : Addr} {v : Value}, p.block = ad.block → wr.cell? p = some v → w5.cell? p = some v := fun {p v} h1 h2 => (World.cell?_of_block (by rw [h1]; exact hblk)).trans h2
          have hba : (ad.add (k * 5)).block = ad.block := block_of_add _ _
          replace c0 := kc hba c0
          replace c1 := kc (by exact hba) c1
          replace c2 := kc (by exact hba) c2
          replace c3 := kc (by exact hba) c3
          replace c4 := kc (by exact hba) c4
          have hb5w : Below w.heap.size w w5 := HBK.out.trans (hbf.to_below (fun b h => (HLK.out b h).1) HBK.out.size)
          have hDo : ∀ X : World, Below w5.heap.size w5 X → Calls Try.prog 19 #[.agg #[.slice AS nS cS, .slice AL nL cL, .int .i64 lf, .bool am, .bool dn], .agg #[.int .u8 a.1, .int .i64 a.2.1, .slice A' m c', .int .i64 a.2.2.2.1, .int .i64 a.2.2.2.2]] X (RDo X (less F q) p2) := fun X hX => by
            have := HPK.out.acts (m := m) (cv := c') (Av := A') (a := a) (by omega) hbf hX HOA.out.1 HM.out ((HRB.out.bel (hbf.mono fun b hb => hb.1)).below hX (Nat.le_refl _)) HCAP.out
            rw [← NS.out, ← NL.out, ← LF.out, ← AM.out, ← DN.out, ← HP2.out] at this
            exact this
          have HDO := Lib.hid hDo
          have HD1 := Lib.hid hD1
          have HR1 := Lib.hid hR1
          have HBF := Lib.hid hbf
          have HB5 := Lib.hid hb5w
          have HQ5 := Lib.hid (show q < w5.heap.size from Nat.lt_of_lt_of_le (HPK.out.disk.lt.2.2.2 q HPK.out.q_in) hbf.size)
          have hS0 : (fun X : World => (X.cell? ⟨q, 0, none⟩ = some (.slice AS nS cS) ∧ X.cell? ⟨q, 1, none⟩ = some (.slice AL nL cL) ∧ X.cell? ⟨q, 2, none⟩ = some (.int .i64 lf) ∧ X.cell? ⟨q, 3, none⟩ = some (.bool am) ∧ X.cell? ⟨q, 4, none⟩ = some (.bool dn) ∧ X.cell? (ad.add (k * 5)) = some (.int .u8 a.1) ∧ X.cell? ⟨(ad.add (k * 5)).block, (ad.add (k * 5)).off + 1, none⟩ = some (.int .i64 a.2.1) ∧ X.cell? ⟨(ad.add (k * 5)).block, (ad.add (k * 5)).off + 2, none⟩ = some (.slice A' m c') ∧ X.cell? ⟨(ad.add (k * 5)).block, (ad.add (k * 5)).off + 3, none⟩ = some (.int .i64 a.2.2.2.1) ∧ X.cell? ⟨(ad.add (k * 5)).block, (ad.add (k * 5)).off + 4, none⟩ = some (.int .i64 a.2.2.2.2))) w5.drew := ⟨e0, e1, e2, e3, e4, c0, c1, c2, c3, c4⟩
          clear hblk kc hba hDo hD1 hR1 hbf hb5w hbl HPL
          go_wp2_with fail
          have hX : Below w5.heap.size w5 w5.drew := below_drew (Below.refl _ _)
          refine tail3.wp_region_till (fun j => j == 8 || j == 9) (fun X => (X.cell? ⟨q, 0, none⟩ = some (.slice AS nS cS) ∧ X.cell? ⟨q, 1, none⟩ = some (.slice AL nL cL) ∧ X.cell? ⟨q, 2, none⟩ = some (.int .i64 lf) ∧ X.cell? ⟨q, 3, none⟩ = some (.bool am) ∧ X.cell? ⟨q, 4, none⟩ = some (.bool dn) ∧ X.cell? (ad.add (k * 5)) = some (.int .u8 a.1) ∧ X.cell? ⟨(ad.add (k * 5)).block, (ad.add (k * 5)).off + 1, none⟩ = some (.int .i64 a.2.1) ∧ X.cell? ⟨(ad.add (k * 5)).block, (ad.add (k * 5)).off + 2, none⟩ = some (.slice A' m c') ∧ X.cell? ⟨(ad.add (k * 5)).block, (ad.add (k * 5)).off + 3, none⟩ = some (.int .i64 a.2.2.2.1) ∧ X.cell? ⟨(ad.add (k * 5)).block, (ad.add (k * 5)).off + 4, none⟩ = some (.int .i64 a.2.2.2.2))) (by kernel_rfl) ?_
          (refine tail3.till_take 0 (v := ?_) rfl (by kernel_rfl) (by kernel_rfl) (by kernel_rfl) (by kernel_rfl) (by kernel_rfl) (fun _ _ _ h => h) (by rfl) (by assumption) ?_ ?_; rotate_left 1; (focus (intro X hX; obtain ⟨s0, s1, s2, s3, s4, s5, s6, s7, s8, s9⟩ := hX; go_simp; with_reducible rfl)); (try simp only [Act.put, List.setIfInBounds_toArray, List.set_cons_zero, List.set_cons_succ]))
          (refine tail3.till_take 1 (v := ?_) rfl (by kernel_rfl) (by kernel_rfl) (by kernel_rfl) (by kernel_rfl) (by kernel_rfl) (fun _ _ _ h => h) (by rfl) (by assumption) ?_ ?_; rotate_left 1; (focus (intro X hX; obtain ⟨s0, s1, s2, s3, s4, s5, s6, s7, s8, s9⟩ := hX; go_simp; with_reducible rfl)); (try simp only [Act.put, List.setIfInBounds_toArray, List.set_cons_zero, List.set_cons_succ]))
          (refine tail3.till_take 2 (v := ?_) rfl (by kernel_rfl) (by kernel_rfl) (by kernel_rfl) (by kernel_rfl) (by kernel_rfl) (fun _ _ _ h => h) (by rfl) (by assumption) ?_ ?_; rotate_left 1; (focus (intro X hX; obtain ⟨s0, s1, s2, s3, s4, s5, s6, s7, s8, s9⟩ := hX; go_simp; with_reducible rfl)); (try simp only [Act.put, List.setIfInBounds_toArray, List.set_cons_zero, List.set_cons_succ]))
          (refine tail3.till_take 3 (v := ?_) rfl (by kernel_rfl) (by kernel_rfl) (by kernel_rfl) (by kernel_rfl) (by kernel_rfl) (fun _ _ _ h => h) (by rfl) (by assumption) ?_ ?_; rotate_left 1; (focus (intro X hX; obtain ⟨s0, s1, s2, s3, s4, s5, s6, s7, s8, s9⟩ := hX; go_simp; with_reducible rfl)); (try simp only [Act.put, List.setIfInBounds_toArray, List.set_cons_zero, List.set_cons_succ]))
          (refine tail3.till_take 4 (v := ?_) rfl (by kernel_rfl) (by kernel_rfl) (by kernel_rfl) (by kernel_rfl) (by kernel_rfl) (fun _ _ _ h => h) (by rfl) (by assumption) ?_ ?_; rotate_left 1; (focus (intro X hX; obtain ⟨s0, s1, s2, s3, s4, s5, s6, s7, s8, s9⟩ := hX; go_simp; with_reducible rfl)); (try simp only [Act.put, List.setIfInBounds_toArray, List.set_cons_zero, List.set_cons_succ]))
          refine tail3.till_one 5 (by kernel_rfl) rfl (fun K hK => ?_)
          go_simp
          go_at_call 19
          refine (HDO.out _ hX).mono ?_
          intro e6 w6 hh
          obtain ⟨A1, n1, c1', A2, n2, c2', rfl, hn1, hn2, hr1, hr2, hb6⟩ := hh
          unfold dagg
          have HN1 := Lib.hid hn1
          have HN2 := Lib.hid hn2
          clear hn1 hn2
          have hS6 : (fun X : World => (X.cell? ⟨q, 0, none⟩ = some (.slice AS nS cS) ∧ X.cell? ⟨q, 1, none⟩ = some (.slice AL nL cL) ∧ X.cell? ⟨q, 2, none⟩ = some (.int .i64 lf) ∧ X.cell? ⟨q, 3, none⟩ = some (.bool am) ∧ X.cell? ⟨q, 4, none⟩ = some (.bool dn) ∧ X.cell? (ad.add (k * 5)) = some (.int .u8 a.1) ∧ X.cell? ⟨(ad.add (k * 5)).block, (ad.add (k * 5)).off + 1, none⟩ = some (.int .i64 a.2.1) ∧ X.cell? ⟨(ad.add (k * 5)).block, (ad.add (k * 5)).off + 2, none⟩ = some (.slice A' m c') ∧ X.cell? ⟨(ad.add (k * 5)).block, (ad.add (k * 5)).off + 3, none⟩ = some (.int .i64 a.2.2.2.1) ∧ X.cell? ⟨(ad.add (k * 5)).block, (ad.add (k * 5)).off + 4, none⟩ = some (.int .i64 a.2.2.2.2))) w6 := ⟨keepc (W := w5.drew) e0 hb6, keepc (W := w5.drew) e1 hb6, keepc (W := w5.drew) e2 hb6, keepc (W := w5.drew) e3 hb6, keepc (W := w5.drew) e4 hb6, keepc (W := w5.drew) c0 hb6, keepc (W := w5.drew) c1 hb6, keepc (W := w5.drew) c2 hb6, keepc (W := w5.drew) c3 hb6, keepc (W := w5.drew) c4 hb6⟩
          refine hK.out _ _ (fun _ => hS6) ?_
          clear hK K
          try simp only [Act.put, List.setIfInBounds_toArray, List.set_cons_zero, List.set_cons_succ]
          refine tail3.till_one 6 (by kernel_rfl) rfl (fun K hK => ?_)
          go_simp
          refine hK.out _ _ (fun _ => hS6) ?_
          clear hK K
          try simp only [Act.put, List.setIfInBounds_toArray, List.set_cons_zero, List.set_cons_succ]
          have hbW : Below w5.heap.size w5 w6 := hX.trans hb6
          have hszW : w6.heap.size ≤ w6.heap.size := Nat.le_refl _
          have hst := HPK.out.step (a := a) (s1 := s1) (w1 := w5) (w5 := w6) (w6 := w6) (X := w5.drew) HFW.out HD1.out (by rw [← HP2.out]; exact HR1.out) HBF.out hX (c1 := c1') (c2 := c2') (n1 := n1) (n2 := n2) (by rw [← HP2.out]; exact HN1.out) (by rw [← HP2.out]; exact HN2.out) (by rw [← HP2.out]; exact hr1) (by rw [← HP2.out]; exact hr2) (fun b _ hb => rfl) hszW hbW
          rw [← HP2.out] at hst
          have hlow : ∀ b, b < w.heap.size → less (plus w5 w6 F) q b := fun b h => by
            obtain ⟨h1, h2⟩ := HLK.out b h
            exact ⟨plus_of hbW.size HD1.out.lt.2.2.2 h1, h2⟩
          have hbN : Below w.heap.size w (((((w6.setCell ⟨q, 0, none⟩ (.slice A1 n1 c1')).setCell ⟨q, 1, none⟩ (.slice A2 n2 c2')).setCell ⟨q, 2, none⟩ (.int .i64 p2.1.left)).setCell ⟨q, 3, none⟩ (.bool p2.1.armed)).setCell ⟨q, 4, none⟩ (.bool p2.1.down)) := by
            repeat (with_reducible refine Below.setCell ?_ (by have := HQ.out; simp only; omega) _)
            exact HB5.out.trans (hbW.mono HB5.out.size)
          have HST := Lib.hid hst
          have HLW := Lib.hid hlow
          have HBN := Lib.hid hbN
          have HSD9 := Lib.hid (((((((HSK.out.play HBF.out).below hbW).set 0 (.slice A1 n1 c1')).set 1 (.slice A2 n2 c2')).set 2 (.int .i64 p2.1.left)).set 3 (.bool p2.1.armed)).set 4 (.bool p2.1.down))
          have q0 := keepc e0 hbW
          have q1 := keepc e1 hbW
          have q2 := keepc e2 hbW
          have q3 := keepc e3 hbW
          have q4 := keepc e4 hbW
          have qf : ∀ j, w6.frozen? ⟨q, j, none⟩ = false := fun j => (hbW.frozen (show (Addr.mk q j none).block < w5.heap.size from HQ5.out)).trans ((HPK.out.cellsB HBF.out).2.2.2.2.2 j)
          obtain ⟨f0, f1, f2, f3, f4, -⟩ := HST.out.cells
          rw [← HN1.out] at f0
          rw [← HN2.out] at f1
          clear hst hlow hbN hr1 hr2 hb6 hX hszW hbW
          refine tail3.till_two 7 8 (by kernel_rfl) rfl rfl ?_ ?_
          · intro K hK
            go_simp
            refine hK.out _ _ (fun _ => hS6) ?_
            clear hK K
            try simp only [Act.put, List.setIfInBounds_toArray, List.set_cons_zero, List.set_cons_succ]
            refine tail3.till_two 8 9 (by kernel_rfl) rfl rfl ?_ ?_
            · intro K hK
              go_simp
              refine hK.out _ _ (fun h => absurd h (by decide)) ?_
              clear hK K
              try simp only [Act.put, List.setIfInBounds_toArray, List.set_cons_zero, List.set_cons_succ]
              refine tail3.till_one 9 (by kernel_rfl) rfl (fun K hK => ?_)
              go_simp
              refine hK.out _ _ (fun h => absurd h (by decide)) ?_
              clear hK K
              try simp only [Act.put, List.setIfInBounds_toArray, List.set_cons_zero, List.set_cons_succ]
              refine tail3.till_done (by kernel_rfl) ?_ _
              clear hS6 hS0 q0 q1 q2 q3 q4 qf f0 f1 f2 f3 f4
              go_wp2_with fail
              go_roundw
              case rel => exact ⟨k + 1, s1, p2.1, _, _, _, _, A1, c1', A2, c2', by omega, by go_num, by rw [show 8040 + (k + 1) * 201 = 8040 + k * 201 + 201 by omega]; exact HST, HSD9, HLW, HBN⟩
              case measure => simp [intOf] <;> omega
            · intro K hK
              go_simp
              refine hK.out _ _ (fun h => absurd h (by decide)) ?_
              clear hK K
              try simp only [Act.put, List.setIfInBounds_toArray, List.set_cons_zero, List.set_cons_succ]
              refine tail3.till_one 8 (by kernel_rfl) rfl (fun K hK => ?_)
              go_simp
              refine hK.out _ _ (fun h => absurd h (by decide)) ?_
              clear hK K
              try simp only [Act.put, List.setIfInBounds_toArray, List.set_cons_zero, List.set_cons_succ]
              refine tail3.till_done (by kernel_rfl) ?_ _
              clear hS6 hS0 q0 q1 q2 q3 q4 qf f0 f1 f2 f3 f4
              go_wp2_with fail
              go_roundw
              case rel => exact ⟨k + 1, s1, p2.1, _, _, _, _, A1, c1', A2, c2', by omega, by go_num, by rw [show 8040 + (k + 1) * 201 = 8040 + k * 201 + 201 by omega]; exact HST, HSD9, HLW, HBN⟩
              case measure => simp [intOf] <;> omega
          · intro K hK
            go_simp
            refine hK.out _ _ (fun h => absurd h (by decide)) ?_
            clear hK K
            try simp only [Act.put, List.setIfInBounds_toArray, List.set_cons_zero, List.set_cons_succ]
            refine tail3.till_one 7 (by kernel_rfl) rfl (fun K hK => ?_)
            go_simp
            refine hK.out _ _ (fun _ => hS6) ?_
            clear hK K
            try simp only [Act.put, List.setIfInBounds_toArray, List.set_cons_zero, List.set_cons_succ]
            refine tail3.till_one 9 (by kernel_rfl) rfl (fun K hK => ?_)
            go_simp
            refine hK.out _ _ (fun h => absurd h (by decide)) ?_
            clear hK K
            try simp only [Act.put, List.setIfInBounds_toArray, List.set_cons_zero, List.set_cons_succ]
            refine tail3.till_done (by kernel_rfl) ?_ _
            clear hS6 hS0 q0 q1 q2 q3 q4 qf f0 f1 f2 f3 f4
            go_wp2_with fail
            go_roundw
            case rel => exact ⟨k + 1, s1, p2.1, _, _, _, _, A1, c1', A2, c2', by omega, by go_num, by rw [show 8040 + (k + 1) * 201 = 8040 + k * 201 + 201 by omega]; exact HST, HSD9, HLW, HBN⟩
            case measure => simp [intOf] <;> omega
        · obtain rfl : k = nb := by omega
          obtain ⟨e0, e1, e2, e3, e4, -⟩ := HPK.out.cells
          obtain ⟨f0, f1, f2, f3, f4⟩ := HSK.out.cells
          have HSH := Lib.hid (HSK.out.shows HR0.out HZ0.out HFW0.out (by omega))
          have hbE := HBK.out
          clear hlt HRB0 HSK
          go_wp2_with fail
          refine HSH.out.mono ?_
          rintro e w9 ⟨rfl, hb9⟩
          have hbF := hbE.trans (hb9.mono hbE.size)
          replace e0 := keepc e0 hb9
          replace e1 := keepc e1 hb9
          replace e2 := keepc e2 hb9
          replace e3 := keepc e3 hb9
          replace e4 := keepc e4 hb9
          have HSH2 := Lib.hid ((HPK.out.below hb9).shows (by omega))
          clear hb9 f0 f1 f2 f3 f4 HSH
          go_wp2_with fail
          refine HSH2.out.mono ?_
          rintro e w10 ⟨rfl, hb10⟩
          have hbG := hbF.trans (hb10.mono hbF.size)
          go_wp2_with fail
          go_ret
          exact ⟨rfl, hbG⟩
end Go.Proofs.Ytjipjfionelpkaa.dk
