/- The law DiskActs. -/
import Derived.Test.YtjipjfionelpkaaDk28
namespace Go.Proofs.Ytjipjfionelpkaa.dk
open Go.RowKit Go.Proofs.Ytjipjfionelpkaa.lib Go.Proofs.Ytjipjfionelpkaa.byt
set_option linter.unusedVariables false

set_option maxRecDepth 10000 in
set_option maxHeartbeats 1000000 in
theorem law_DiskActs (w : World) {A : Option Addr} {n c : Nat} (hx : FactA w A n) :
    Calls Try.prog 4 #[.slice A n c] w fun e w' => e = .returned (.bool true) ∧ Below w.heap.size w w' := by
  obtain ⟨L, hn, hr, hok⟩ := hx
  have hr0 := hr
  have HN := Lib.hid hn
  have HOK := Lib.hid hok
  clear hn hok
  go_enter Try.func4, Try.ntmps4
  go_wp2_with fail
  refine (awake07 _).mono ?_
  rintro e w1 ⟨rfl, hb1⟩
  have hr1 := hr.below hb1 (Nat.le_refl _)
  go_wp2_with fail
  refine (few_any w1 HN.out hr1).mono ?_
  rintro e w2 ⟨t, rfl, ht, hb2⟩
  have hr2 := hr1.below hb2 (Nat.le_refl _)
  replace hb2 := hb1.trans (hb2.mono hb1.size)
  cases t
  · clear ht
    (go_wp2_with fail; refine (awake07 _).mono ?_; rintro e wz ⟨rfl, hbz⟩; go_wp2_with fail; go_ret; exact ⟨rfl, hb2.trans (hbz.mono hb2.size)⟩)
  have HF := Lib.hid (ht rfl)
  clear ht hr hr1 hb1
  go_wp2_with fail
  refine (new_any w2).mono ?_
  rintro e w3 ⟨rfl, hD, hb3⟩
  have hszw := hb2.size
  replace hb3 := hb2.trans (hb3.mono hb2.size)
  have hdl := hD.lt.1
  generalize w2.heap.size = d at *
  have hb4 : Below w.heap.size w (w3.alloc (.cells #[.slice none 0 0, .slice none 0 0, .int .i64 0, .bool false, .bool false] 36)) := hb3.alloc hb3.size _
  have hP : Pair (w3.alloc (.cells #[.slice none 0 0, .slice none 0 0, .int .i64 0, .bool false, .bool false] 36)) (plus w3 (w3.alloc (.cells #[.slice none 0 0, .slice none 0 0, .int .i64 0, .bool false, .bool false] 36)) fun b => b < d) d w3.heap.size newS newR none 0 none 0 0 :=
    ⟨hD.plus ((Below.refl w3.heap.size w3).alloc (Nat.le_refl _) _) (Nat.le_refl _), rel_new, ⟨Nat.le_refl _, Nat.le_refl _⟩, Nat.le_refl _, RdA.nil, RdA.nil, heap_alloc_new w3 _, ⟨by simp, .inr (Nat.le_refl _)⟩⟩
  have HLO0 := Lib.hid (show ∀ b, b < w.heap.size → less (plus w3 (w3.alloc (.cells #[.slice none 0 0, .slice none 0 0, .int .i64 0, .bool false, .bool false] 36)) fun b => b < d) w3.heap.size b from fun b h => ⟨⟨by simp; omega, .inl (Nat.lt_of_lt_of_le h hszw)⟩, by omega⟩)
  have HQ := Lib.hid (show w.heap.size ≤ w3.heap.size from hb3.size)
  have HP0 := Lib.hid hP
  have HB0 := Lib.hid hb4
  have HR0 := Lib.hid hr0
  have hn40 : n ≤ 40 := by have := HN.out; have := HF.out.1; omega
  clear hP hb4 hb3 hb2 hD hdl hszw hr2 hr0
  go_wp2_with fail
  generalize w3.alloc (.cells #[.slice none 0 0, .slice none 0 0, .int .i64 0, .bool false, .bool false] 36) = w4 at HP0 HB0 HLO0 ⊢
  generalize plus w3 w4 (fun b => b < d) = F0 at HP0 HLO0
  generalize w3.heap.size = q at *
  go_loopw [5] (fun vi wr => ∃ (k : Nat) (s : DS) (r : RS) (F : Nat → Prop) (AS : Option Addr) (cS : Nat) (AL : Option Addr) (cL : Nat), k ≤ n ∧ vi = .int .i64 k ∧ Hid (Pair wr F d q s r AS cS AL cL (k * 201)) ∧ Hid (∀ b, b < w.heap.size → less F q b) ∧ Hid (Below w.heap.size w wr)) (fun vi _ => n - (intOf vi).toNat)
  case atStart => exact ⟨0, newS, newR, F0, none, 0, none, 0, Nat.zero_le _, rfl, HP0, HLO0, HB0⟩
  case round =>
    obtain ⟨k, s, r, F, AS, cS, AL, cL, hk, rfl, HPK, HLK, HBK⟩ := hrel
    by_cases hlt : k < n
    · have hkl : k < L.length := by rw [← HN.out]; exact hlt
      have hrl := HR0.out.bel (BelF.low HBK.out (fun b h => h))
      obtain ⟨ad, A', c', rfl, hbl, hadF, c0, c1, c2, c3, c4, hrb, hcap⟩ := hrl.at_ hkl
      have hok := HOK.out k hkl
      have hfew := HF.out.2 k hkl
      obtain ⟨a, ha⟩ : ∃ a, a = L[k] := ⟨_, rfl⟩
      rw [← ha] at c0 c1 c2 c3 c4 hrb hcap hok hfew
      obtain ⟨m, hm⟩ : ∃ m, m = a.2.2.1.length := ⟨_, rfl⟩
      rw [← hm] at c2 hcap hfew
      obtain ⟨nS, hnS⟩ : ∃ x, x = r.safe.length := ⟨_, rfl⟩
      obtain ⟨nL, hnL⟩ : ∃ x, x = r.loose.length := ⟨_, rfl⟩
      obtain ⟨lf, hlf⟩ : ∃ x, x = r.left := ⟨_, rfl⟩
      obtain ⟨am, ham⟩ : ∃ x, x = r.armed := ⟨_, rfl⟩
      obtain ⟨dn, hdn⟩ : ∃ x, x = r.down := ⟨_, rfl⟩
      obtain ⟨p2, hp2⟩ : ∃ p, p = doR r a := ⟨_, rfl⟩
      have hP := play_any wr HPK.out.disk HPK.out.rel HPK.out.size (by omega) a hok.1 hok.2 (cb := c') hm hrb.rd (Nat.le_refl _) (by omega)
      rw [← hp2] at hP
      have HPL := Lib.hid hP
      have HM := Lib.hid hm
      have NS := Lib.hid hnS
      have NL := Lib.hid hnL
      have LF := Lib.hid hlf
      have AM := Lib.hid ham
      have DN := Lib.hid hdn
      have HP2 := Lib.hid hp2
      have HOA := Lib.hid hok
      have HFW := Lib.hid (show a.2.2.1.length ≤ 200 from by rw [← hm]; exact hfew)
      have HRB := Lib.hid (hrb.mono HLK.out)
      have HADF := Lib.hid (show ad.block < w.heap.size from hadF)
      have HCAP := Lib.hid hcap
      have hk0 : (0 : Int) ≤ k := by omega
      have hk1 : (k : Int) < n := by omega
      clear ha hm hnS hnL hlf ham hdn hp2 hP hrb hok hrl hadF hcap hfew
      go_wp2_with fail
      refine HPL.out.mono ?_
      rintro e w5 ⟨rfl, s1, hD1, hR1, hbf⟩
      obtain ⟨e0, e1, e2, e3, e4, -⟩ := HPK.out.cellsB hbf
      rw [← NS.out] at e0
      rw [← NL.out] at e1
      rw [← LF.out] at e2
      rw [← AM.out] at e3
      rw [← DN.out] at e4
      have hblk : w5.heap[ad.block]? = wr.heap[ad.block]? := hbf.block ad.block hbl (HLK.out _ HADF.out).1
      have kc : ∀ {p : Addr} {v : Value}, p.block = ad.block → wr.cell? p = some v → w5.cell? p = some v := fun {p v} h1 h2 => (World.cell?_of_block (by rw [h1]; exact hblk)).trans h2
      have hba : (ad.add (k * 5)).block = ad.block := block_of_add _ _
      replace c0 := kc hba c0
      replace c1 := kc (by exact hba) c1
      replace c2 := kc (by exact hba) c2
      replace c3 := kc (by exact hba) c3
      replace c4 := kc (by exact hba) c4
      have hb5w : Below w.heap.size w w5 := HBK.out.trans (hbf.to_below (fun b h => (HLK.out b h).1) HBK.out.size)
      have hDo : ∀ X : World, Below w5.heap.size w5 X → Calls Try.prog 19 #[.agg #[.slice AS nS cS, .slice AL nL cL, .int .i64 lf, .bool am, .bool dn], .agg #[.int .u8 a.1, .int .i64 a.2.1, .slice A' m c', .int .i64 a.2.2.2.1, .int .i64 a.2.2.2.2]] X (RDo X (less F q) p2) := fun X hX => by
        have := HPK.out.acts (m := m) (cv := c') (Av := A') (a := a) (by omega) hbf hX HOA.out.1 HM.out ((HRB.out.bel (hbf.mono fun b hb => hb.1)).below hX (Nat.le_refl _)) HCAP.out
        rw [← NS.out, ← NL.out, ← LF.out, ← AM.out, ← DN.out, ← HP2.out] at this
        exact this
      have HDO := Lib.hid hDo
      have HD1 := Lib.hid hD1
      have HR1 := Lib.hid hR1
      have HBF := Lib.hid hbf
      have HB5 := Lib.hid hb5w
      have HQ5 := Lib.hid (show q < w5.heap.size from Nat.lt_of_lt_of_le (HPK.out.disk.lt.2.2.2 q HPK.out.q_in) hbf.size)
      have hS0 : (fun X : World => (X.cell? ⟨q, 0, none⟩ = some (.slice AS nS cS) ∧ X.cell? ⟨q, 1, none⟩ = some (.slice AL nL cL) ∧ X.cell? ⟨q, 2, none⟩ = some (.int .i64 lf) ∧ X.cell? ⟨q, 3, none⟩ = some (.bool am) ∧ X.cell? ⟨q, 4, none⟩ = some (.bool dn) ∧ X.cell? (ad.add (k * 5)) = some (.int .u8 a.1) ∧ X.cell? ⟨(ad.add (k * 5)).block, (ad.add (k * 5)).off + 1, none⟩ = some (.int .i64 a.2.1) ∧ X.cell? ⟨(ad.add (k * 5)).block, (ad.add (k * 5)).off + 2, none⟩ = some (.slice A' m c') ∧ X.cell? ⟨(ad.add (k * 5)).block, (ad.add (k * 5)).off + 3, none⟩ = some (.int .i64 a.2.2.2.1) ∧ X.cell? ⟨(ad.add (k * 5)).block, (ad.add (k * 5)).off + 4, none⟩ = some (.int .i64 a.2.2.2.2))) w5.drew := ⟨e0, e1, e2, e3, e4, c0, c1, c2, c3, c4⟩
      clear hblk kc hba hDo hD1 hR1 hbf hb5w hbl HPL
      go_wp2_with fail
      refine tail.wp_region_till 11 (fun X => (X.cell? ⟨q, 0, none⟩ = some (.slice AS nS cS) ∧ X.cell? ⟨q, 1, none⟩ = some (.slice AL nL cL) ∧ X.cell? ⟨q, 2, none⟩ = some (.int .i64 lf) ∧ X.cell? ⟨q, 3, none⟩ = some (.bool am) ∧ X.cell? ⟨q, 4, none⟩ = some (.bool dn) ∧ X.cell? (ad.add (k * 5)) = some (.int .u8 a.1) ∧ X.cell? ⟨(ad.add (k * 5)).block, (ad.add (k * 5)).off + 1, none⟩ = some (.int .i64 a.2.1) ∧ X.cell? ⟨(ad.add (k * 5)).block, (ad.add (k * 5)).off + 2, none⟩ = some (.slice A' m c') ∧ X.cell? ⟨(ad.add (k * 5)).block, (ad.add (k * 5)).off + 3, none⟩ = some (.int .i64 a.2.2.2.1) ∧ X.cell? ⟨(ad.add (k * 5)).block, (ad.add (k * 5)).off + 4, none⟩ = some (.int .i64 a.2.2.2.2))) (by kernel_rfl) ?_
      (refine tail.till_take 0 (v := ?_) rfl (by kernel_rfl) (by kernel_rfl) (by kernel_rfl) (by kernel_rfl) (by kernel_rfl) (fun _ _ _ h => h) (by rfl) (by assumption) ?_ ?_; rotate_left 1; (focus (intro X hX; obtain ⟨s0, s1, s2, s3, s4, s5, s6, s7, s8, s9⟩ := hX; go_simp; with_reducible rfl)); (try simp only [Act.put, List.setIfInBounds_toArray, List.set_cons_zero, List.set_cons_succ]))
      (refine tail.till_take 1 (v := ?_) rfl (by kernel_rfl) (by kernel_rfl) (by kernel_rfl) (by kernel_rfl) (by kernel_rfl) (fun _ _ _ h => h) (by rfl) (by assumption) ?_ ?_; rotate_left 1; (focus (intro X hX; obtain ⟨s0, s1, s2, s3, s4, s5, s6, s7, s8, s9⟩ := hX; go_simp; with_reducible rfl)); (try simp only [Act.put, List.setIfInBounds_toArray, List.set_cons_zero, List.set_cons_succ]))
      (refine tail.till_take 2 (v := ?_) rfl (by kernel_rfl) (by kernel_rfl) (by kernel_rfl) (by kernel_rfl) (by kernel_rfl) (fun _ _ _ h => h) (by rfl) (by assumption) ?_ ?_; rotate_left 1; (focus (intro X hX; obtain ⟨s0, s1, s2, s3, s4, s5, s6, s7, s8, s9⟩ := hX; go_simp; with_reducible rfl)); (try simp only [Act.put, List.setIfInBounds_toArray, List.set_cons_zero, List.set_cons_succ]))
      (refine tail.till_take 3 (v := ?_) rfl (by kernel_rfl) (by kernel_rfl) (by kernel_rfl) (by kernel_rfl) (by kernel_rfl) (fun _ _ _ h => h) (by rfl) (by assumption) ?_ ?_; rotate_left 1; (focus (intro X hX; obtain ⟨s0, s1, s2, s3, s4, s5, s6, s7, s8, s9⟩ := hX; go_simp; with_reducible rfl)); (try simp only [Act.put, List.setIfInBounds_toArray, List.set_cons_zero, List.set_cons_succ]))
      (refine tail.till_take 4 (v := ?_) rfl (by kernel_rfl) (by kernel_rfl) (by kernel_rfl) (by kernel_rfl) (by kernel_rfl) (fun _ _ _ h => h) (by rfl) (by assumption) ?_ ?_; rotate_left 1; (focus (intro X hX; obtain ⟨s0, s1, s2, s3, s4, s5, s6, s7, s8, s9⟩ := hX; go_simp; with_reducible rfl)); (try simp only [Act.put, List.setIfInBounds_toArray, List.set_cons_zero, List.set_cons_succ]))
      refine tail.till_two 5 9 (by kernel_rfl) rfl rfl ?_ ?_
      · intro K hK
        have hX : Below w5.heap.size w5 w5.drew := below_drew (Below.refl _ _)
        go_simp
        go_at_call 19
        refine (HDO.out _ hX).mono ?_
        intro e6 w6 hh
        obtain ⟨A1, n1, c1', A2, n2, c2', rfl, hn1, hn2, hr1, hr2, hb6⟩ := hh
        unfold dagg
        have HN1 := Lib.hid hn1
        have HN2 := Lib.hid hn2
        clear hn1 hn2
        have hS6 : (fun X : World => (X.cell? ⟨q, 0, none⟩ = some (.slice AS nS cS) ∧ X.cell? ⟨q, 1, none⟩ = some (.slice AL nL cL) ∧ X.cell? ⟨q, 2, none⟩ = some (.int .i64 lf) ∧ X.cell? ⟨q, 3, none⟩ = some (.bool am) ∧ X.cell? ⟨q, 4, none⟩ = some (.bool dn) ∧ X.cell? (ad.add (k * 5)) = some (.int .u8 a.1) ∧ X.cell? ⟨(ad.add (k * 5)).block, (ad.add (k * 5)).off + 1, none⟩ = some (.int .i64 a.2.1) ∧ X.cell? ⟨(ad.add (k * 5)).block, (ad.add (k * 5)).off + 2, none⟩ = some (.slice A' m c') ∧ X.cell? ⟨(ad.add (k * 5)).block, (ad.add (k * 5)).off + 3, none⟩ = some (.int .i64 a.2.2.2.1) ∧ X.cell? ⟨(ad.add (k * 5)).block, (ad.add (k * 5)).off + 4, none⟩ = some (.int .i64 a.2.2.2.2))) w6 := ⟨keepc (W := w5.drew) e0 hb6, keepc (W := w5.drew) e1 hb6, keepc (W := w5.drew) e2 hb6, keepc (W := w5.drew) e3 hb6, keepc (W := w5.drew) e4 hb6, keepc (W := w5.drew) c0 hb6, keepc (W := w5.drew) c1 hb6, keepc (W := w5.drew) c2 hb6, keepc (W := w5.drew) c3 hb6, keepc (W := w5.drew) c4 hb6⟩
        refine hK.out _ _ (fun _ => hS6) ?_
        clear hK K
        try simp only [Act.put, List.setIfInBounds_toArray, List.set_cons_zero, List.set_cons_succ]
        (refine tail.till_take 6 (v := ?_) rfl (by kernel_rfl) (by kernel_rfl) (by kernel_rfl) (by kernel_rfl) (by kernel_rfl) (fun _ _ _ h => h) (by rfl) (by assumption) ?_ ?_; rotate_left 1; (focus (intro X hX; obtain ⟨s0, s1, s2, s3, s4, s5, s6, s7, s8, s9⟩ := hX; go_simp; with_reducible rfl)); (try simp only [Act.put, List.setIfInBounds_toArray, List.set_cons_zero, List.set_cons_succ]))
        (refine tail.till_take 7 (v := ?_) rfl (by kernel_rfl) (by kernel_rfl) (by kernel_rfl) (by kernel_rfl) (by kernel_rfl) (fun _ _ _ h => h) (by rfl) (by assumption) ?_ ?_; rotate_left 1; (focus (intro X hX; obtain ⟨s0, s1, s2, s3, s4, s5, s6, s7, s8, s9⟩ := hX; go_simp; with_reducible rfl)); (try simp only [Act.put, List.setIfInBounds_toArray, List.set_cons_zero, List.set_cons_succ]))
        (refine tail.till_take 8 (v := ?_) rfl (by kernel_rfl) (by kernel_rfl) (by kernel_rfl) (by kernel_rfl) (by kernel_rfl) (fun _ _ _ h => h) (by rfl) (by assumption) ?_ ?_; rotate_left 1; (focus (intro X hX; obtain ⟨s0, s1, s2, s3, s4, s5, s6, s7, s8, s9⟩ := hX; go_simp; with_reducible rfl)); (try simp only [Act.put, List.setIfInBounds_toArray, List.set_cons_zero, List.set_cons_succ]))
        have hbZ : Below w5.drew.heap.size w5.drew (w6.alloc (.cells #[.slice none 0 0, .slice none 0 0, .int .i64 0, .bool false, .bool false] 36)) := hb6.alloc hb6.size _
        have hbX : Below w5.drew.heap.size w5.drew (w6.alloc (.cells #[.slice A1 n1 c1', .slice A2 n2 c2', .int .i64 p2.1.left, .bool p2.1.armed, .bool p2.1.down] 36)) := hb6.alloc hb6.size _
        have hSZ : (fun X : World => (X.cell? ⟨q, 0, none⟩ = some (.slice AS nS cS) ∧ X.cell? ⟨q, 1, none⟩ = some (.slice AL nL cL) ∧ X.cell? ⟨q, 2, none⟩ = some (.int .i64 lf) ∧ X.cell? ⟨q, 3, none⟩ = some (.bool am) ∧ X.cell? ⟨q, 4, none⟩ = some (.bool dn) ∧ X.cell? (ad.add (k * 5)) = some (.int .u8 a.1) ∧ X.cell? ⟨(ad.add (k * 5)).block, (ad.add (k * 5)).off + 1, none⟩ = some (.int .i64 a.2.1) ∧ X.cell? ⟨(ad.add (k * 5)).block, (ad.add (k * 5)).off + 2, none⟩ = some (.slice A' m c') ∧ X.cell? ⟨(ad.add (k * 5)).block, (ad.add (k * 5)).off + 3, none⟩ = some (.int .i64 a.2.2.2.1) ∧ X.cell? ⟨(ad.add (k * 5)).block, (ad.add (k * 5)).off + 4, none⟩ = some (.int .i64 a.2.2.2.2))) (w6.alloc (.cells #[.slice none 0 0, .slice none 0 0, .int .i64 0, .bool false, .bool false] 36)) := ⟨keepc (W := w5.drew) e0 hbZ, keepc (W := w5.drew) e1 hbZ, keepc (W := w5.drew) e2 hbZ, keepc (W := w5.drew) e3 hbZ, keepc (W := w5.drew) e4 hbZ, keepc (W := w5.drew) c0 hbZ, keepc (W := w5.drew) c1 hbZ, keepc (W := w5.drew) c2 hbZ, keepc (W := w5.drew) c3 hbZ, keepc (W := w5.drew) c4 hbZ⟩
        have hSX : (fun X : World => (X.cell? ⟨q, 0, none⟩ = some (.slice AS nS cS) ∧ X.cell? ⟨q, 1, none⟩ = some (.slice AL nL cL) ∧ X.cell? ⟨q, 2, none⟩ = some (.int .i64 lf) ∧ X.cell? ⟨q, 3, none⟩ = some (.bool am) ∧ X.cell? ⟨q, 4, none⟩ = some (.bool dn) ∧ X.cell? (ad.add (k * 5)) = some (.int .u8 a.1) ∧ X.cell? ⟨(ad.add (k * 5)).block, (ad.add (k * 5)).off + 1, none⟩ = some (.int .i64 a.2.1) ∧ X.cell? ⟨(ad.add (k * 5)).block, (ad.add (k * 5)).off + 2, none⟩ = some (.slice A' m c') ∧ X.cell? ⟨(ad.add (k * 5)).block, (ad.add (k * 5)).off + 3, none⟩ = some (.int .i64 a.2.2.2.1) ∧ X.cell? ⟨(ad.add (k * 5)).block, (ad.add (k * 5)).off + 4, none⟩ = some (.int .i64 a.2.2.2.2))) (w6.alloc (.cells #[.slice A1 n1 c1', .slice A2 n2 c2', .int .i64 p2.1.left, .bool p2.1.armed, .bool p2.1.down] 36)) := ⟨keepc (W := w5.drew) e0 hbX, keepc (W := w5.drew) e1 hbX, keepc (W := w5.drew) e2 hbX, keepc (W := w5.drew) e3 hbX, keepc (W := w5.drew) e4 hbX, keepc (W := w5.drew) c0 hbX, keepc (W := w5.drew) c1 hbX, keepc (W := w5.drew) c2 hbX, keepc (W := w5.drew) c3 hbX, keepc (W := w5.drew) c4 hbX⟩
        refine tail.till_one 9 (by kernel_rfl) rfl (fun K hK => ?_)
        go_simp
        refine hK.out _ _ (fun _ => hSZ) ?_
        clear hK K
        try simp only [Act.put, List.setIfInBounds_toArray, List.set_cons_zero, List.set_cons_succ]
        refine tail.till_one 10 (by kernel_rfl) rfl (fun K hK => ?_)
        go_simp
        refine hK.out _ _ (fun _ => hSX) ?_
        clear hK K
        try simp only [Act.put, List.setIfInBounds_toArray, List.set_cons_zero, List.set_cons_succ]
        refine tail.till_one 11 (by kernel_rfl) rfl (fun K hK => ?_)
        go_simp
        refine hK.out _ _ (fun _ => hSX) ?_
        clear hK K
        try simp only [Act.put, List.setIfInBounds_toArray, List.set_cons_zero, List.set_cons_succ]
        refine tail.till_done (by kernel_rfl) ?_ _
        have hbW : Below w5.heap.size w5 (w6.alloc (.cells #[.slice A1 n1 c1', .slice A2 n2 c2', .int .i64 p2.1.left, .bool p2.1.armed, .bool p2.1.down] 36)) := (show Below w5.heap.size w5 w6 from hX.trans hb6).alloc (hX.trans hb6).size _
        have hszW : w6.heap.size ≤ (w6.alloc (.cells #[.slice A1 n1 c1', .slice A2 n2 c2', .int .i64 p2.1.left, .bool p2.1.armed, .bool p2.1.down] 36)).heap.size := by simp
        clear hbZ hbX hSZ hSX hS6 hS0
        have hst := HPK.out.step (a := a) (s1 := s1) (w1 := w5) (w5 := w6) (w6 := (w6.alloc (.cells #[.slice A1 n1 c1', .slice A2 n2 c2', .int .i64 p2.1.left, .bool p2.1.armed, .bool p2.1.down] 36))) (X := w5.drew) HFW.out HD1.out (by rw [← HP2.out]; exact HR1.out) HBF.out hX (c1 := c1') (c2 := c2') (n1 := n1) (n2 := n2) (by rw [← HP2.out]; exact HN1.out) (by rw [← HP2.out]; exact HN2.out) (by rw [← HP2.out]; exact hr1) (by rw [← HP2.out]; exact hr2) (fun b _ hb => Below.heap_alloc w6 _ b hb) hszW hbW
        rw [← HP2.out] at hst
        have hlow : ∀ b, b < w.heap.size → less (plus w5 (w6.alloc (.cells #[.slice A1 n1 c1', .slice A2 n2 c2', .int .i64 p2.1.left, .bool p2.1.armed, .bool p2.1.down] 36)) F) q b := fun b h => by
          obtain ⟨h1, h2⟩ := HLK.out b h
          exact ⟨plus_of hbW.size HD1.out.lt.2.2.2 h1, h2⟩
        have hbN : Below w.heap.size w ((((((w6.alloc (.cells #[.slice A1 n1 c1', .slice A2 n2 c2', .int .i64 p2.1.left, .bool p2.1.armed, .bool p2.1.down] 36)).setCell ⟨q, 0, none⟩ (.slice A1 n1 c1')).setCell ⟨q, 1, none⟩ (.slice A2 n2 c2')).setCell ⟨q, 2, none⟩ (.int .i64 p2.1.left)).setCell ⟨q, 3, none⟩ (.bool p2.1.armed)).setCell ⟨q, 4, none⟩ (.bool p2.1.down)) := by
          repeat (with_reducible refine Below.setCell ?_ (by have := HQ.out; simp only; omega) _)
          exact HB5.out.trans (hbW.mono HB5.out.size)
        have HST := Lib.hid hst
        have HLW := Lib.hid hlow
        have HBN := Lib.hid hbN
        have q0 := keepc e0 hbW
        have q1 := keepc e1 hbW
        have q2 := keepc e2 hbW
        have q3 := keepc e3 hbW
        have q4 := keepc e4 hbW
        have qf : ∀ j, (w6.alloc (.cells #[.slice A1 n1 c1', .slice A2 n2 c2', .int .i64 p2.1.left, .bool p2.1.armed, .bool p2.1.down] 36)).frozen? ⟨q, j, none⟩ = false := fun j => (hbW.frozen (show (Addr.mk q j none).block < w5.heap.size from HQ5.out)).trans ((HPK.out.cellsB HBF.out).2.2.2.2.2 j)
        obtain ⟨f0, f1, f2, f3, f4, -⟩ := HST.out.cells
        rw [← HN1.out] at f0
        rw [← HN2.out] at f1
        clear hst hlow hbN hr1 hr2 hb6 hX hszW hbW
        have HSH := Lib.hid (show Calls Try.prog 20 #[.pointer (some ⟨d, 0, none⟩), .agg #[.slice A1 n1 c1', .slice A2 n2 c2', .int .i64 p2.1.left, .bool p2.1.armed, .bool p2.1.down]] ((((((w6.alloc (.cells #[.slice A1 n1 c1', .slice A2 n2 c2', .int .i64 p2.1.left, .bool p2.1.armed, .bool p2.1.down] 36)).setCell ⟨q, 0, none⟩ (.slice A1 n1 c1')).setCell ⟨q, 1, none⟩ (.slice A2 n2 c2')).setCell ⟨q, 2, none⟩ (.int .i64 p2.1.left)).setCell ⟨q, 3, none⟩ (.bool p2.1.armed)).setCell ⟨q, 4, none⟩ (.bool p2.1.down)) fun e w' => e = .returned (.bool true) ∧ Below ((((((w6.alloc (.cells #[.slice A1 n1 c1', .slice A2 n2 c2', .int .i64 p2.1.left, .bool p2.1.armed, .bool p2.1.down] 36)).setCell ⟨q, 0, none⟩ (.slice A1 n1 c1')).setCell ⟨q, 1, none⟩ (.slice A2 n2 c2')).setCell ⟨q, 2, none⟩ (.int .i64 p2.1.left)).setCell ⟨q, 3, none⟩ (.bool p2.1.armed)).setCell ⟨q, 4, none⟩ (.bool p2.1.down)).heap.size ((((((w6.alloc (.cells #[.slice A1 n1 c1', .slice A2 n2 c2', .int .i64 p2.1.left, .bool p2.1.armed, .bool p2.1.down] 36)).setCell ⟨q, 0, none⟩ (.slice A1 n1 c1')).setCell ⟨q, 1, none⟩ (.slice A2 n2 c2')).setCell ⟨q, 2, none⟩ (.int .i64 p2.1.left)).setCell ⟨q, 3, none⟩ (.bool p2.1.armed)).setCell ⟨q, 4, none⟩ (.bool p2.1.down)) w' from by
          have := HST.out.shows (by omega)
          rw [← HN1.out, ← HN2.out] at this
          exact this)
        go_wp2_with fail
        refine HSH.out.mono ?_
        rintro e w9 ⟨rfl, hb9⟩
        have HP9 := Lib.hid (HST.out.below hb9)
        have HL9 := Lib.hid (show ∀ b, b < w.heap.size → less (plus ((((((w6.alloc (.cells #[.slice A1 n1 c1', .slice A2 n2 c2', .int .i64 p2.1.left, .bool p2.1.armed, .bool p2.1.down] 36)).setCell ⟨q, 0, none⟩ (.slice A1 n1 c1')).setCell ⟨q, 1, none⟩ (.slice A2 n2 c2')).setCell ⟨q, 2, none⟩ (.int .i64 p2.1.left)).setCell ⟨q, 3, none⟩ (.bool p2.1.armed)).setCell ⟨q, 4, none⟩ (.bool p2.1.down)) w9 (plus w5 (w6.alloc (.cells #[.slice A1 n1 c1', .slice A2 n2 c2', .int .i64 p2.1.left, .bool p2.1.armed, .bool p2.1.down] 36)) F)) q b from fun b h => ⟨plus_of hb9.size HST.out.disk.lt.2.2.2 (HLW.out b h).1, (HLW.out b h).2⟩)
        have HB9 := Lib.hid (HBN.out.trans (hb9.mono HBN.out.size))
        clear hb9 q0 q1 q2 q3 q4 qf f0 f1 f2 f3 f4
        go_wp2_with fail
        go_roundw
        case rel => exact ⟨k + 1, s1, p2.1, _, A1, c1', A2, c2', by omega, by go_num, by rw [show (k + 1) * 201 = k * 201 + 201 by omega]; exact HP9, HL9, HB9⟩
        case measure => simp [intOf] <;> omega
      · intro K hK
        have hbZ : Below w5.drew.heap.size w5.drew (w5.drew.alloc (.cells #[.slice none 0 0, .slice none 0 0, .int .i64 0, .bool false, .bool false] 36)) := (Below.refl _ _).alloc (Nat.le_refl _) _
        have hSZ : (fun X : World => (X.cell? ⟨q, 0, none⟩ = some (.slice AS nS cS) ∧ X.cell? ⟨q, 1, none⟩ = some (.slice AL nL cL) ∧ X.cell? ⟨q, 2, none⟩ = some (.int .i64 lf) ∧ X.cell? ⟨q, 3, none⟩ = some (.bool am) ∧ X.cell? ⟨q, 4, none⟩ = some (.bool dn) ∧ X.cell? (ad.add (k * 5)) = some (.int .u8 a.1) ∧ X.cell? ⟨(ad.add (k * 5)).block, (ad.add (k * 5)).off + 1, none⟩ = some (.int .i64 a.2.1) ∧ X.cell? ⟨(ad.add (k * 5)).block, (ad.add (k * 5)).off + 2, none⟩ = some (.slice A' m c') ∧ X.cell? ⟨(ad.add (k * 5)).block, (ad.add (k * 5)).off + 3, none⟩ = some (.int .i64 a.2.2.2.1) ∧ X.cell? ⟨(ad.add (k * 5)).block, (ad.add (k * 5)).off + 4, none⟩ = some (.int .i64 a.2.2.2.2))) (w5.drew.alloc (.cells #[.slice none 0 0, .slice none 0 0, .int .i64 0, .bool false, .bool false] 36)) := ⟨keepc (W := w5.drew) e0 hbZ, keepc (W := w5.drew) e1 hbZ, keepc (W := w5.drew) e2 hbZ, keepc (W := w5.drew) e3 hbZ, keepc (W := w5.drew) e4 hbZ, keepc (W := w5.drew) c0 hbZ, keepc (W := w5.drew) c1 hbZ, keepc (W := w5.drew) c2 hbZ, keepc (W := w5.drew) c3 hbZ, keepc (W := w5.drew) c4 hbZ⟩
        go_simp
        refine hK.out _ _ (fun _ => hSZ) ?_
        clear hK K
        try simp only [Act.put, List.setIfInBounds_toArray, List.set_cons_zero, List.set_cons_succ]
        have hX : Below w5.heap.size w5 (w5.drew.alloc (.cells #[.slice none 0 0, .slice none 0 0, .int .i64 0, .bool false, .bool false] 36)) := (below_drew (Below.refl _ _)).alloc (Nat.le_refl _) _
        have hXs : (w5.drew.alloc (.cells #[.slice none 0 0, .slice none 0 0, .int .i64 0, .bool false, .bool false] 36)).heap.size = w5.heap.size + 1 := by simp
        refine tail.till_one 5 (by kernel_rfl) rfl (fun K hK => ?_)
        go_simp
        go_at_call 19
        refine (HDO.out _ hX).mono ?_
        intro e6 w6 hh
        obtain ⟨A1, n1, c1', A2, n2, c2', rfl, hn1, hn2, hr1, hr2, hb6⟩ := hh
        unfold dagg
        have HN1 := Lib.hid hn1
        have HN2 := Lib.hid hn2
        clear hn1 hn2
        have hb6' : Below w5.drew.heap.size w5.drew w6 := hbZ.trans (hb6.mono hbZ.size)
        have hcx : w6.heap[w5.heap.size]? = some (.cells #[.slice none 0 0, .slice none 0 0, .int .i64 0, .bool false, .bool false] 36 (0, 0)) := (hb6.block _ (by omega)).trans (heap_alloc_new w5.drew _)
        have z0 := cell_of_row _ w5.heap.size 0 _ _ (0, 0) hcx
        have z1 := cell_of_row _ w5.heap.size 1 _ _ (0, 0) hcx
        have z2 := cell_of_row _ w5.heap.size 2 _ _ (0, 0) hcx
        have z3 := cell_of_row _ w5.heap.size 3 _ _ (0, 0) hcx
        have z4 := cell_of_row _ w5.heap.size 4 _ _ (0, 0) hcx
        have zf : ∀ j, w6.frozen? ⟨w5.heap.size, j, none⟩ = false := fun j => frozen_of_row _ _ j _ _ hcx
        simp only [List.getElem?_toArray, List.getElem?_cons_succ, List.getElem?_cons_zero] at z0 z1 z2 z3 z4
        have hS6 : (fun X : World => (X.cell? ⟨q, 0, none⟩ = some (.slice AS nS cS) ∧ X.cell? ⟨q, 1, none⟩ = some (.slice AL nL cL) ∧ X.cell? ⟨q, 2, none⟩ = some (.int .i64 lf) ∧ X.cell? ⟨q, 3, none⟩ = some (.bool am) ∧ X.cell? ⟨q, 4, none⟩ = some (.bool dn) ∧ X.cell? (ad.add (k * 5)) = some (.int .u8 a.1) ∧ X.cell? ⟨(ad.add (k * 5)).block, (ad.add (k * 5)).off + 1, none⟩ = some (.int .i64 a.2.1) ∧ X.cell? ⟨(ad.add (k * 5)).block, (ad.add (k * 5)).off + 2, none⟩ = some (.slice A' m c') ∧ X.cell? ⟨(ad.add (k * 5)).block, (ad.add (k * 5)).off + 3, none⟩ = some (.int .i64 a.2.2.2.1) ∧ X.cell? ⟨(ad.add (k * 5)).block, (ad.add (k * 5)).off + 4, none⟩ = some (.int .i64 a.2.2.2.2))) w6 := ⟨keepc (W := w5.drew) e0 hb6', keepc (W := w5.drew) e1 hb6', keepc (W := w5.drew) e2 hb6', keepc (W := w5.drew) e3 hb6', keepc (W := w5.drew) e4 hb6', keepc (W := w5.drew) c0 hb6', keepc (W := w5.drew) c1 hb6', keepc (W := w5.drew) c2 hb6', keepc (W := w5.drew) c3 hb6', keepc (W := w5.drew) c4 hb6'⟩
        refine hK.out _ _ (fun _ => hS6) ?_
        clear hK K
        try simp only [Act.put, List.setIfInBounds_toArray, List.set_cons_zero, List.set_cons_succ]
        (refine tail.till_take 6 (v := ?_) rfl (by kernel_rfl) (by kernel_rfl) (by kernel_rfl) (by kernel_rfl) (by kernel_rfl) (fun _ _ _ h => h) (by rfl) (by assumption) ?_ ?_; rotate_left 1; (focus (intro X hX; obtain ⟨s0, s1, s2, s3, s4, s5, s6, s7, s8, s9⟩ := hX; go_simp; with_reducible rfl)); (try simp only [Act.put, List.setIfInBounds_toArray, List.set_cons_zero, List.set_cons_succ]))
        (refine tail.till_take 7 (v := ?_) rfl (by kernel_rfl) (by kernel_rfl) (by kernel_rfl) (by kernel_rfl) (by kernel_rfl) (fun _ _ _ h => h) (by rfl) (by assumption) ?_ ?_; rotate_left 1; (focus (intro X hX; obtain ⟨s0, s1, s2, s3, s4, s5, s6, s7, s8, s9⟩ := hX; go_simp; with_reducible rfl)); (try simp only [Act.put, List.setIfInBounds_toArray, List.set_cons_zero, List.set_cons_succ]))
        (refine tail.till_take 8 (v := ?_) rfl (by kernel_rfl) (by kernel_rfl) (by kernel_rfl) (by kernel_rfl) (by kernel_rfl) (fun _ _ _ h => h) (by rfl) (by assumption) ?_ ?_; rotate_left 1; (focus (intro X hX; obtain ⟨s0, s1, s2, s3, s4, s5, s6, s7, s8, s9⟩ := hX; go_simp; with_reducible rfl)); (try simp only [Act.put, List.setIfInBounds_toArray, List.set_cons_zero, List.set_cons_succ]))
        have hbX : Below w5.drew.heap.size w5.drew (((((w6.setCell ⟨w5.heap.size, 0, none⟩ (.slice A1 n1 c1')).setCell ⟨w5.heap.size, 1, none⟩ (.slice A2 n2 c2')).setCell ⟨w5.heap.size, 2, none⟩ (.int .i64 p2.1.left)).setCell ⟨w5.heap.size, 3, none⟩ (.bool p2.1.armed)).setCell ⟨w5.heap.size, 4, none⟩ (.bool p2.1.down)) := ((((hb6'.setCell (show w5.drew.heap.size ≤ w5.heap.size from Nat.le_refl _) _).setCell (show w5.drew.heap.size ≤ w5.heap.size from Nat.le_refl _) _).setCell (show w5.drew.heap.size ≤ w5.heap.size from Nat.le_refl _) _).setCell (show w5.drew.heap.size ≤ w5.heap.size from Nat.le_refl _) _).setCell (show w5.drew.heap.size ≤ w5.heap.size from Nat.le_refl _) _
        have hSX : (fun X : World => (X.cell? ⟨q, 0, none⟩ = some (.slice AS nS cS) ∧ X.cell? ⟨q, 1, none⟩ = some (.slice AL nL cL) ∧ X.cell? ⟨q, 2, none⟩ = some (.int .i64 lf) ∧ X.cell? ⟨q, 3, none⟩ = some (.bool am) ∧ X.cell? ⟨q, 4, none⟩ = some (.bool dn) ∧ X.cell? (ad.add (k * 5)) = some (.int .u8 a.1) ∧ X.cell? ⟨(ad.add (k * 5)).block, (ad.add (k * 5)).off + 1, none⟩ = some (.int .i64 a.2.1) ∧ X.cell? ⟨(ad.add (k * 5)).block, (ad.add (k * 5)).off + 2, none⟩ = some (.slice A' m c') ∧ X.cell? ⟨(ad.add (k * 5)).block, (ad.add (k * 5)).off + 3, none⟩ = some (.int .i64 a.2.2.2.1) ∧ X.cell? ⟨(ad.add (k * 5)).block, (ad.add (k * 5)).off + 4, none⟩ = some (.int .i64 a.2.2.2.2))) (((((w6.setCell ⟨w5.heap.size, 0, none⟩ (.slice A1 n1 c1')).setCell ⟨w5.heap.size, 1, none⟩ (.slice A2 n2 c2')).setCell ⟨w5.heap.size, 2, none⟩ (.int .i64 p2.1.left)).setCell ⟨w5.heap.size, 3, none⟩ (.bool p2.1.armed)).setCell ⟨w5.heap.size, 4, none⟩ (.bool p2.1.down)) := ⟨keepc (W := w5.drew) e0 hbX, keepc (W := w5.drew) e1 hbX, keepc (W := w5.drew) e2 hbX, keepc (W := w5.drew) e3 hbX, keepc (W := w5.drew) e4 hbX, keepc (W := w5.drew) c0 hbX, keepc (W := w5.drew) c1 hbX, keepc (W := w5.drew) c2 hbX, keepc (W := w5.drew) c3 hbX, keepc (W := w5.drew) c4 hbX⟩
        refine tail.till_one 10 (by kernel_rfl) rfl (fun K hK => ?_)
        go_simp
        refine hK.out _ _ (fun _ => hSX) ?_
        clear hK K
        try simp only [Act.put, List.setIfInBounds_toArray, List.set_cons_zero, List.set_cons_succ]
        refine tail.till_one 11 (by kernel_rfl) rfl (fun K hK => ?_)
        go_simp
        refine hK.out _ _ (fun _ => hSX) ?_
        clear hK K
        try simp only [Act.put, List.setIfInBounds_toArray, List.set_cons_zero, List.set_cons_succ]
        refine tail.till_done (by kernel_rfl) ?_ _
        have hbW : Below w5.heap.size w5 (((((w6.setCell ⟨w5.heap.size, 0, none⟩ (.slice A1 n1 c1')).setCell ⟨w5.heap.size, 1, none⟩ (.slice A2 n2 c2')).setCell ⟨w5.heap.size, 2, none⟩ (.int .i64 p2.1.left)).setCell ⟨w5.heap.size, 3, none⟩ (.bool p2.1.armed)).setCell ⟨w5.heap.size, 4, none⟩ (.bool p2.1.down)) := ⟨hbX.os, hbX.tape, hbX.output, hbX.size, hbX.block⟩
        have hszW : w6.heap.size ≤ (((((w6.setCell ⟨w5.heap.size, 0, none⟩ (.slice A1 n1 c1')).setCell ⟨w5.heap.size, 1, none⟩ (.slice A2 n2 c2')).setCell ⟨w5.heap.size, 2, none⟩ (.int .i64 p2.1.left)).setCell ⟨w5.heap.size, 3, none⟩ (.bool p2.1.armed)).setCell ⟨w5.heap.size, 4, none⟩ (.bool p2.1.down)).heap.size := by simp
        have hkf : ∀ b, since (w5.drew.alloc (.cells #[.slice none 0 0, .slice none 0 0, .int .i64 0, .bool false, .bool false] 36)) (less F q) b → b < w6.heap.size → (((((w6.setCell ⟨w5.heap.size, 0, none⟩ (.slice A1 n1 c1')).setCell ⟨w5.heap.size, 1, none⟩ (.slice A2 n2 c2')).setCell ⟨w5.heap.size, 2, none⟩ (.int .i64 p2.1.left)).setCell ⟨w5.heap.size, 3, none⟩ (.bool p2.1.armed)).setCell ⟨w5.heap.size, 4, none⟩ (.bool p2.1.down)).heap[b]? = w6.heap[b]? := fun b hb _ => by
          have hne : b ≠ w5.heap.size := fun e => by
            rcases hb with hb | hb
            · have := HD1.out.lt.2.2.2 b hb.1; omega
            · rw [hXs] at hb; omega
          repeat (rw [heap_setCell_other _ _ b _ (fun e => hne e)])
        clear hbZ hbX hSZ hSX hS6 hS0 hb6' z0 z1 z2 z3 z4 zf
        have hxc := set5 (w := w6) (d := w5.heap.size) hcx rfl (.slice A1 n1 c1') (.slice A2 n2 c2') (.int .i64 p2.1.left) (.bool p2.1.armed) (.bool p2.1.down)
        have x0 := cell_of_row _ w5.heap.size 0 _ _ (0, 0) hxc
        have x1 := cell_of_row _ w5.heap.size 1 _ _ (0, 0) hxc
        have x2 := cell_of_row _ w5.heap.size 2 _ _ (0, 0) hxc
        have x3 := cell_of_row _ w5.heap.size 3 _ _ (0, 0) hxc
        have x4 := cell_of_row _ w5.heap.size 4 _ _ (0, 0) hxc
        simp only [List.getElem?_toArray, List.getElem?_cons_succ, List.getElem?_cons_zero] at x0 x1 x2 x3 x4
        clear hxc hcx
        have hst := HPK.out.step (a := a) (s1 := s1) (w1 := w5) (w5 := w6) (w6 := (((((w6.setCell ⟨w5.heap.size, 0, none⟩ (.slice A1 n1 c1')).setCell ⟨w5.heap.size, 1, none⟩ (.slice A2 n2 c2')).setCell ⟨w5.heap.size, 2, none⟩ (.int .i64 p2.1.left)).setCell ⟨w5.heap.size, 3, none⟩ (.bool p2.1.armed)).setCell ⟨w5.heap.size, 4, none⟩ (.bool p2.1.down))) (X := (w5.drew.alloc (.cells #[.slice none 0 0, .slice none 0 0, .int .i64 0, .bool false, .bool false] 36))) HFW.out HD1.out (by rw [← HP2.out]; exact HR1.out) HBF.out hX (c1 := c1') (c2 := c2') (n1 := n1) (n2 := n2) (by rw [← HP2.out]; exact HN1.out) (by rw [← HP2.out]; exact HN2.out) (by rw [← HP2.out]; exact hr1) (by rw [← HP2.out]; exact hr2) hkf hszW hbW
        rw [← HP2.out] at hst
        have hlow : ∀ b, b < w.heap.size → less (plus w5 (((((w6.setCell ⟨w5.heap.size, 0, none⟩ (.slice A1 n1 c1')).setCell ⟨w5.heap.size, 1, none⟩ (.slice A2 n2 c2')).setCell ⟨w5.heap.size, 2, none⟩ (.int .i64 p2.1.left)).setCell ⟨w5.heap.size, 3, none⟩ (.bool p2.1.armed)).setCell ⟨w5.heap.size, 4, none⟩ (.bool p2.1.down)) F) q b := fun b h => by
          obtain ⟨h1, h2⟩ := HLK.out b h
          exact ⟨plus_of hbW.size HD1.out.lt.2.2.2 h1, h2⟩
        have hbN : Below w.heap.size w ((((((((((w6.setCell ⟨w5.heap.size, 0, none⟩ (.slice A1 n1 c1')).setCell ⟨w5.heap.size, 1, none⟩ (.slice A2 n2 c2')).setCell ⟨w5.heap.size, 2, none⟩ (.int .i64 p2.1.left)).setCell ⟨w5.heap.size, 3, none⟩ (.bool p2.1.armed)).setCell ⟨w5.heap.size, 4, none⟩ (.bool p2.1.down)).setCell ⟨q, 0, none⟩ (.slice A1 n1 c1')).setCell ⟨q, 1, none⟩ (.slice A2 n2 c2')).setCell ⟨q, 2, none⟩ (.int .i64 p2.1.left)).setCell ⟨q, 3, none⟩ (.bool p2.1.armed)).setCell ⟨q, 4, none⟩ (.bool p2.1.down)) := by
          repeat (with_reducible refine Below.setCell ?_ (by have := HQ.out; simp only; omega) _)
          exact HB5.out.trans (hbW.mono HB5.out.size)
        have HST := Lib.hid hst
        have HLW := Lib.hid hlow
        have HBN := Lib.hid hbN
        have q0 := keepc e0 hbW
        have q1 := keepc e1 hbW
        have q2 := keepc e2 hbW
        have q3 := keepc e3 hbW
        have q4 := keepc e4 hbW
        have qf : ∀ j, (((((w6.setCell ⟨w5.heap.size, 0, none⟩ (.slice A1 n1 c1')).setCell ⟨w5.heap.size, 1, none⟩ (.slice A2 n2 c2')).setCell ⟨w5.heap.size, 2, none⟩ (.int .i64 p2.1.left)).setCell ⟨w5.heap.size, 3, none⟩ (.bool p2.1.armed)).setCell ⟨w5.heap.size, 4, none⟩ (.bool p2.1.down)).frozen? ⟨q, j, none⟩ = false := fun j => (hbW.frozen (show (Addr.mk q j none).block < w5.heap.size from HQ5.out)).trans ((HPK.out.cellsB HBF.out).2.2.2.2.2 j)
        obtain ⟨f0, f1, f2, f3, f4, -⟩ := HST.out.cells
        rw [← HN1.out] at f0
        rw [← HN2.out] at f1
        clear hst hlow hbN hr1 hr2 hb6 hX hszW hbW
        clear hkf hXs
        have HSH := Lib.hid (show Calls Try.prog 20 #[.pointer (some ⟨d, 0, none⟩), .agg #[.slice A1 n1 c1', .slice A2 n2 c2', .int .i64 p2.1.left, .bool p2.1.armed, .bool p2.1.down]] ((((((((((w6.setCell ⟨w5.heap.size, 0, none⟩ (.slice A1 n1 c1')).setCell ⟨w5.heap.size, 1, none⟩ (.slice A2 n2 c2')).setCell ⟨w5.heap.size, 2, none⟩ (.int .i64 p2.1.left)).setCell ⟨w5.heap.size, 3, none⟩ (.bool p2.1.armed)).setCell ⟨w5.heap.size, 4, none⟩ (.bool p2.1.down)).setCell ⟨q, 0, none⟩ (.slice A1 n1 c1')).setCell ⟨q, 1, none⟩ (.slice A2 n2 c2')).setCell ⟨q, 2, none⟩ (.int .i64 p2.1.left)).setCell ⟨q, 3, none⟩ (.bool p2.1.armed)).setCell ⟨q, 4, none⟩ (.bool p2.1.down)) fun e w' => e = .returned (.bool true) ∧ Below ((((((((((w6.setCell ⟨w5.heap.size, 0, none⟩ (.slice A1 n1 c1')).setCell ⟨w5.heap.size, 1, none⟩ (.slice A2 n2 c2')).setCell ⟨w5.heap.size, 2, none⟩ (.int .i64 p2.1.left)).setCell ⟨w5.heap.size, 3, none⟩ (.bool p2.1.armed)).setCell ⟨w5.heap.size, 4, none⟩ (.bool p2.1.down)).setCell ⟨q, 0, none⟩ (.slice A1 n1 c1')).setCell ⟨q, 1, none⟩ (.slice A2 n2 c2')).setCell ⟨q, 2, none⟩ (.int .i64 p2.1.left)).setCell ⟨q, 3, none⟩ (.bool p2.1.armed)).setCell ⟨q, 4, none⟩ (.bool p2.1.down)).heap.size ((((((((((w6.setCell ⟨w5.heap.size, 0, none⟩ (.slice A1 n1 c1')).setCell ⟨w5.heap.size, 1, none⟩ (.slice A2 n2 c2')).setCell ⟨w5.heap.size, 2, none⟩ (.int .i64 p2.1.left)).setCell ⟨w5.heap.size, 3, none⟩ (.bool p2.1.armed)).setCell ⟨w5.heap.size, 4, none⟩ (.bool p2.1.down)).setCell ⟨q, 0, none⟩ (.slice A1 n1 c1')).setCell ⟨q, 1, none⟩ (.slice A2 n2 c2')).setCell ⟨q, 2, none⟩ (.int .i64 p2.1.left)).setCell ⟨q, 3, none⟩ (.bool p2.1.armed)).setCell ⟨q, 4, none⟩ (.bool p2.1.down)) w' from by
          have := HST.out.shows (by omega)
          rw [← HN1.out, ← HN2.out] at this
          exact this)
        go_wp2_with fail
        refine HSH.out.mono ?_
        rintro e w9 ⟨rfl, hb9⟩
        have HP9 := Lib.hid (HST.out.below hb9)
        have HL9 := Lib.hid (show ∀ b, b < w.heap.size → less (plus ((((((((((w6.setCell ⟨w5.heap.size, 0, none⟩ (.slice A1 n1 c1')).setCell ⟨w5.heap.size, 1, none⟩ (.slice A2 n2 c2')).setCell ⟨w5.heap.size, 2, none⟩ (.int .i64 p2.1.left)).setCell ⟨w5.heap.size, 3, none⟩ (.bool p2.1.armed)).setCell ⟨w5.heap.size, 4, none⟩ (.bool p2.1.down)).setCell ⟨q, 0, none⟩ (.slice A1 n1 c1')).setCell ⟨q, 1, none⟩ (.slice A2 n2 c2')).setCell ⟨q, 2, none⟩ (.int .i64 p2.1.left)).setCell ⟨q, 3, none⟩ (.bool p2.1.armed)).setCell ⟨q, 4, none⟩ (.bool p2.1.down)) w9 (plus w5 (((((w6.setCell ⟨w5.heap.size, 0, none⟩ (.slice A1 n1 c1')).setCell ⟨w5.heap.size, 1, none⟩ (.slice A2 n2 c2')).setCell ⟨w5.heap.size, 2, none⟩ (.int .i64 p2.1.left)).setCell ⟨w5.heap.size, 3, none⟩ (.bool p2.1.armed)).setCell ⟨w5.heap.size, 4, none⟩ (.bool p2.1.down)) F)) q b from fun b h => ⟨plus_of hb9.size HST.out.disk.lt.2.2.2 (HLW.out b h).1, (HLW.out b h).2⟩)
        have HB9 := Lib.hid (HBN.out.trans (hb9.mono HBN.out.size))
        clear hb9 q0 q1 q2 q3 q4 qf f0 f1 f2 f3 f4
        go_wp2_with fail
        go_roundw
        case rel => exact ⟨k + 1, s1, p2.1, _, A1, c1', A2, c2', by omega, by go_num, by rw [show (k + 1) * 201 = k * 201 + 201 by omega]; exact HP9, HL9, HB9⟩
        case measure => simp [intOf] <;> omega
    · obtain rfl : k = n := by omega
      obtain ⟨e0, e1, e2, e3, e4, -⟩ := HPK.out.cells
      have HSH := Lib.hid (HPK.out.shows (by omega))
      have hbE := HBK.out
      clear hlt HP0 HB0 HLO0 HR0
      go_wp2_with fail
      refine HSH.out.mono ?_
      rintro e w9 ⟨rfl, hb9⟩
      have hbF := hbE.trans (hb9.mono hbE.size)
      go_wp2_with fail
      go_ret
      exact ⟨rfl, hbF⟩
end Go.Proofs.Ytjipjfionelpkaa.dk
