/- The law DiskKeeps. -/
import Derived.Test.YtjipjfionelpkaaDk21
namespace Go.Proofs.Ytjipjfionelpkaa.dk
open Go.RowKit Go.Proofs.Ytjipjfionelpkaa.lib Go.Proofs.Ytjipjfionelpkaa.byt
set_option linter.unusedVariables false

set_option maxRecDepth 8000 in
set_option maxHeartbeats 8000000 in
theorem law_DiskKeeps (w : World) {A Am : Option Addr} {n c nm cm : Nat} (hx : FactA w A n) (hm : ∃ M : List (List UInt8), nm = M.length ∧ nm ≤ cm ∧ RdBB w w.heap.size Am M) (keep torn : Int) :
    Calls Try.prog 5 #[.slice A n c, .slice Am nm cm, .int .i64 keep, .int .i64 torn] w fun e w' => e = .returned (.bool true) ∧ Below w.heap.size w w' := by
  obtain ⟨L, hn, hr, hok⟩ := hx
  obtain ⟨M, hnm, -, hrm⟩ := hm
  have HNM := Lib.hid hnm
  have HRM := Lib.hid hrm
  clear hnm hrm
  have HN := Lib.hid hn
  have HOK := Lib.hid hok
  clear hn hok
  go_enter Try.func5, Try.ntmps5
  go_wp2_with fail
  refine (awake07 _).mono ?_
  rintro e w1 ⟨rfl, hb1⟩
  have hr1 := hr.below hb1 (Nat.le_refl _)
  go_wp2_with fail
  refine (few_any w1 HN.out hr1).mono ?_
  rintro e w2 ⟨t, rfl, ht, hb2⟩
  have hr2 := hr1.below hb2 (Nat.le_refl _)
  replace hb2 := hb1.trans (hb2.mono hb1.size)
  cases t
  · clear ht
    (go_wp2_with fail; refine (awake07 _).mono ?_; rintro e wz ⟨rfl, hbz⟩; go_wp2_with fail; go_ret; exact ⟨rfl, hb2.trans (hbz.mono hb2.size)⟩)
  have HF := Lib.hid (ht rfl)
  by_cases hm20 : 20 < nm
  · clear ht HF
    (go_wp2_with fail; refine (awake07 _).mono ?_; rintro e wz ⟨rfl, hbz⟩; go_wp2_with fail; go_ret; exact ⟨rfl, hb2.trans (hbz.mono hb2.size)⟩)
  have hm20i : ¬ (20 : Int) < nm := by omega
  have hm20d : decide ((20 : Int) < nm) = false := decide_eq_false hm20i
  clear ht hr hr1 hb1
  go_wp2_with fail
  refine (new_any w2).mono ?_
  rintro e w3 ⟨rfl, hD, hb3⟩
  have hr3 := (hr2.below hb3 (Nat.le_refl _)).mono (F' := fun b => b < w2.heap.size) fun b h => Nat.lt_of_lt_of_le h hb2.size
  have hlo : ∀ b, b < w.heap.size → b < w2.heap.size := fun b h => Nat.lt_of_lt_of_le h hb2.size
  replace hb3 := hb2.trans (hb3.mono hb2.size)
  generalize w2.heap.size = d at *
  generalize hFF : (fun b => b < d) = F at hD hr3
  have HLO := Lib.hid (show ∀ b, b < w.heap.size → F b from fun b h => by rw [← hFF]; exact hlo b h)
  clear hFF hlo hb2 hr2
  have HD := Lib.hid hD
  have HR := Lib.hid hr3
  have HB := Lib.hid hb3
  have hn40 : n ≤ 40 := by have := HN.out; have := HF.out.1; omega
  clear hD hr3 hb3
  go_wp2_with fail
  go_loopw [10] (fun vi wr => ∃ (k : Nat) (s : DS) (r : RS), k ≤ n ∧ vi = .int .i64 k ∧ Hid (DiskM wr F F d s) ∧ Hid (Rel s r) ∧ Hid (SizeR r (k * 201)) ∧ Hid (RdA wr F A L) ∧ Hid (Below w.heap.size w wr)) (fun vi _ => n - (intOf vi).toNat)
  case atStart => exact ⟨0, newS, newR, Nat.zero_le _, rfl, HD, Lib.hid rel_new, Lib.hid ⟨Nat.le_refl _, Nat.le_refl _⟩, HR, HB⟩
  case round =>
    obtain ⟨k, s, r, hk, rfl, HDK, HRK, HZ, HAK, HBK⟩ := hrel
    by_cases hlt : k < n
    · have hkl : k < L.length := by rw [← HN.out]; exact hlt
      obtain ⟨ad, A', c', rfl, hbl, -, c0, c1, c2, c3, c4, hrb, hcap⟩ := HAK.out.at_ hkl
      have hP := play_any wr HDK.out HRK.out HZ.out (by omega) L[k] (HOK.out k hkl).1 (HOK.out k hkl).2 (cb := c') rfl hrb.rd (Nat.le_refl _) (by have := HF.out.2 k hkl; omega)
      have HZ2 := Lib.hid (show SizeR (doR r L[k]).1 ((k + 1) * 201) from by
        have := HZ.out.step L[k] 201 (by have := HF.out.2 k hkl; omega)
        rw [show (k + 1) * 201 = k * 201 + 201 by omega]
        exact this)
      have HP := Lib.hid hP
      have hk0 : (0 : Int) ≤ k := by omega
      have hk1 : (k : Int) < n := by omega
      clear hP hrb hcap
      generalize (doR r L[k]).1 = r2 at HP HZ2
      generalize (doR r L[k]).2 = cd at HP
      generalize L[k] = a at *
      go_wp2_with fail
      refine HP.out.mono ?_
      rintro e w5 ⟨rfl, s2, hD2, hR2, hbf⟩
      have HD2 := Lib.hid hD2
      have HR2 := Lib.hid hR2
      have HA2 := Lib.hid (HAK.out.bel hbf)
      have HB2 := Lib.hid (HBK.out.trans (hbf.to_below HLO.out HBK.out.size))
      clear hD2 hR2 hbf HP
      go_wp2_with fail
      go_roundw
      case rel => exact ⟨k + 1, s2, r2, by omega, by go_num, HD2, HR2, HZ2, HA2, HB2⟩
      case measure => simp [intOf] <;> omega
    · obtain rfl : k = n := by omega
      clear hlt HD HR HB HAK HOK HF
      have hD := HDK.out
      have hb := HBK.out
      have hz := HZ.out
      have hR := HRK.out
      clear HDK HBK HZ HRK
      obtain ⟨y1, y2, y3, y4⟩ := rel_armsync hR hz (by omega)
      go_wp2_with fail
      refine (arm_any wr hD (-1)).mono ?_
      rintro e w4 ⟨rfl, hD4, hbf⟩
      have hb4 := hb.trans (hbf.to_below HLO.out hb.size)
      clear hD hb hbf
      cases hdn : s.down
      case true =>
        obtain ⟨e1, e2⟩ := y3 hdn
        clear y4
        go_wp2_with fail
        refine (sync_any w4 hD4 y2 y1 _ _ e1).mono ?_
        rintro e w5 ⟨rfl, hD5, hbf⟩
        have hb5 := hb4.trans (hbf.to_below HLO.out hb4.size)
        clear hD4 y1 y2 y3 e1 hbf hb4
        go_wp2_with fail
        refine (down_any w5 hD5).mono ?_
        rintro e w6 ⟨rfl, rfl⟩
        rw [e2]
        go_wp2_with fail
        go_ret
        exact ⟨rfl, hb5⟩
      case false =>
        obtain ⟨s2, r2, e1, hR2, hl2, hz2, hdr2, har2, hd2⟩ := y4 hdn
        clear y3 y4
        go_wp2_with fail
        refine (sync_any w4 hD4 y2 y1 _ _ e1).mono ?_
        rintro e w5 ⟨rfl, hD5, hbf⟩
        have hb5 := hb4.trans (hbf.to_below HLO.out hb4.size)
        obtain ⟨v1, v2, v3⟩ := readS_up hd2
        obtain ⟨z1, z2⟩ := hR2.short hz2 (by omega) 0 (by omega)
        clear hD4 y1 y2 e1 hbf hb4 hR hz
        obtain ⟨na, hna⟩ : ∃ m, m = (s2.by_ 2).length := ⟨_, rfl⟩
        obtain ⟨nb, hnb⟩ : ∃ m, m = (s2.by_ 3).length := ⟨_, rfl⟩
        have NA := Lib.hid hna
        have NB := Lib.hid hnb
        clear hna hnb
        go_wp2_with fail
        refine (read_any w5 hD5 z1 1 _ _ v2 nb NB.out).mono ?_
        rintro e w6 ⟨Ab, cb, rfl, hob, hb⟩
        have hD6 := hD5.plus hb (Nat.le_refl _)
        have hrb : RdF w6 (plus w5 w6 F) Ab (s2.by_ 3) := ReadsF.of_own hob fun b h1 h2 => ⟨h2, .inr h1⟩
        have hb6 := hb5.trans (hb.mono hb5.size)
        have hlo6 : ∀ b, b < w.heap.size → plus w5 w6 F b := fun b h => ⟨Nat.lt_of_lt_of_le h hb6.size, .inl (HLO.out b h)⟩
        have hcapb := own_cap hob
        rw [← NB.out] at hcapb
        clear hD5 hob hb hb5
        generalize plus w5 w6 F = F6 at hD6 hrb hlo6
        go_wp2_with fail
        refine (read_any w6 hD6 z1 0 _ _ v1 na NA.out).mono ?_
        rintro e w7 ⟨Aa, ca, rfl, hoa, hb⟩
        have hD7 := hD6.plus hb (Nat.le_refl _)
        have hra : RdF w7 (plus w6 w7 F6) Aa (s2.by_ 2) := ReadsF.of_own hoa fun b h1 h2 => ⟨h2, .inr h1⟩
        have hb7 := hb6.trans (hb.mono hb6.size)
        have hlo7 : ∀ b, b < w.heap.size → plus w6 w7 F6 b := fun b h => ⟨Nat.lt_of_lt_of_le h hb7.size, .inl (hlo6 b h)⟩
        have hrb7 : RdF w7 (plus w6 w7 F6) Ab (s2.by_ 3) := (hrb.below hb (Nat.le_refl _)).mono fun b h => plus_of hb.size (hD6.lt.2.2.2) h
        clear hD6 hoa hb hb6 hrb hlo6
        generalize plus w6 w7 F6 = F7 at hD7 hra hrb7 hlo7
        go_wp2_with fail
        refine (first_any w7 hD7 _ _ v3).mono ?_
        rintro e w8 ⟨rfl, rfl⟩
        obtain ⟨Al, cl, w8, hrun, hol, hu⟩ := append_bytes w7 w.heap.size (n := 0) (c := 0) rfl (ownB_nil w7 w.heap.size) NB.out (c2 := cb) hrb7.rd (by have := z1.1 3 (by omega); simp; omega) hb7.size
        rw [List.nil_append] at hrun hol
        rw [← NB.out] at hrun
        have hb := hu.below_none
        have hD8 := hD7.plus hb (Nat.le_refl _)
        have hpl := fun b h => plus_of (F := F7) (b := b) hb.size (hD7.lt.2.2.2) h
        have hra8 := (hra.below hb (Nat.le_refl _)).mono hpl
        have hrb8 := (hrb7.below hb (Nat.le_refl _)).mono hpl
        have hb8 := hb7.trans (hb.mono hb7.size)
        have hlo8 := fun b h => hpl b (hlo7 b h)
        have hal : ∀ b, Al.map (·.block) = some b → plus w7 w8 F7 b ∧ w7.heap.size ≤ b := fun b e => by
          rcases upd_new hu b e with h1 | h1
          · cases h1
          · exact ⟨⟨(own_row hol e).2, .inr h1⟩, h1⟩
        have hfar : ∀ b, Al.map (·.block) = some b → plus w7 w8 F7 b ∧ (0 < na → Aa.map (·.block) ≠ some b) ∧ (0 < nb → Ab.map (·.block) ≠ some b) := fun b e => by
          obtain ⟨h1, h2⟩ := hal b e
          refine ⟨h1, fun h0 e2 => ?_, fun h0 e2 => ?_⟩
          · obtain ⟨ad, ea, hlt, _⟩ := hra.1.2 (by rw [← NA.out]; exact h0)
            rw [ea] at e2
            simp only [Option.map_some, Option.some.injEq] at e2
            omega
          · obtain ⟨ad, ea, hlt, _⟩ := hrb7.1.2 (by rw [← NB.out]; exact h0)
            rw [ea] at e2
            simp only [Option.map_some, Option.some.injEq] at e2
            omega
        generalize plus w7 w8 F7 = F8 at hD8 hra8 hrb8 hlo8 hfar
        obtain ⟨S0, hS0⟩ : ∃ S0, r2.safe = S0 := ⟨_, rfl⟩
        have HI := Lib.hid (show DiskM w8 F8 F8 d s2 ∧ Rel s2 r2 ∧ r2.loose = appL (M.take 0) ∧ r2.safe = S0 ∧ r2.armed = false ∧ r2.down = false ∧ SizeR r2 (8040 + 0 * 201) from ⟨hD8, hR2, hl2, hS0, har2, hdr2, ⟨Nat.le_trans hz2.1 (by omega), Nat.le_trans hz2.2 (by omega)⟩⟩)
        have HJ := Lib.hid (show RdF w8 F8 Aa (s2.by_ 2) ∧ RdF w8 F8 Ab (s2.by_ 3) ∧ OwnB w8 w.heap.size Al cl (s2.by_ 3 ++ (M.take 0).flatten) ∧ (∀ b, Al.map (·.block) = some b → F8 b ∧ (0 < na → Aa.map (·.block) ≠ some b) ∧ (0 < nb → Ab.map (·.block) ≠ some b)) ∧ nb = (s2.by_ 3 ++ (M.take 0).flatten).length ∧ ∀ b, b < w.heap.size → F8 b from ⟨hra8, hrb8, by simpa using hol, hfar, by simpa using NB.out, hlo8⟩)
        have HB := Lib.hid hb8
        have HX := Lib.hid (show s2.by_ 2 = evB S0 0 ∧ s2.by_ 3 = evB S0 1 ∧ s2.f1 = evF S0 from by
          rw [← hS0]
          have e2 := hR2.b2
          have e3 := hR2.b3
          have e4 := hR2.f1
          rw [hl2, List.append_nil] at e2 e3 e4
          exact ⟨e2, e3, e4⟩)
        have HL2 := Lib.hid (show (s2.by_ 2).length ≤ 8040 ∧ (s2.by_ 3).length ≤ 8040 from by
          have h2 := evB_len r2.safe 0
          have h3 := evB_len r2.safe 1
          have h4 := hz2.1
          rw [hl2, List.append_nil] at h4
          rw [HX.out.1, HX.out.2.1, ← hS0]
          omega)
        clear hra hrb7 hlo7 hD7 hol hb hpl hal hfar hb7 hD8 hra8 hrb8 hb8 hlo8 z1 z2 hR2 hl2 har2 hdr2 hz2 hu v1 v2 v3
        go_wp2_with (at_builtin; refine wpList_append_run rfl rfl rfl rfl hrun ?_; clear hrun)
        go_loopw [17, 18] (fun va vi wr => ∃ (k2 nl : Nat) (s : DS) (r : RS) (F9 : Nat → Prop) (Al : Option Addr) (cl : Nat), k2 ≤ nm ∧ va = .slice Al nl cl ∧ vi = .int .i64 k2 ∧
          Hid (DiskM wr F9 F9 d s ∧ Rel s r ∧ r.loose = appL (M.take k2) ∧ r.safe = S0 ∧ r.armed = false ∧ r.down = false ∧ SizeR r (8040 + k2 * 201)) ∧
          Hid (RdF wr F9 Aa (s2.by_ 2) ∧ RdF wr F9 Ab (s2.by_ 3) ∧ OwnB wr w.heap.size Al cl (s2.by_ 3 ++ (M.take k2).flatten) ∧ (∀ b, Al.map (·.block) = some b → F9 b ∧ (0 < na → Aa.map (·.block) ≠ some b) ∧ (0 < nb → Ab.map (·.block) ≠ some b)) ∧ nl = (s2.by_ 3 ++ (M.take k2).flatten).length ∧ ∀ b, b < w.heap.size → F9 b) ∧
          Hid (Below w.heap.size w wr)) (fun va vi _ => nm - (intOf vi).toNat)
        case atStart => exact ⟨0, nb, s2, r2, F8, Al, cl, Nat.zero_le _, rfl, rfl, HI, HJ, HB⟩
        case round =>
          obtain ⟨k2, nl, s3, r3, F9, Al, cl, hk2, rfl, rfl, HI, HJ, HB⟩ := hrel
          by_cases hlt : k2 < nm
          · have hkl : k2 < M.length := by rw [← HNM.out]; exact hlt
            obtain ⟨adm, A', c', rfl, cm0, hrb0⟩ := HRM.out.at_ hkl
            have hrb := hrb0.below HB.out
            have HCM := Lib.hid (show ∀ X : World, Below w.heap.size w X → X.cell? (adm.add k2) = some (.slice A' M[k2].length c') from fun X hX => keepc cm0 hX)
            replace cm0 := keepc cm0 HB.out
            have HRB := Lib.hid hrb0
            clear hrb0
            obtain ⟨m, hm⟩ : ∃ m, m = M[k2].length := ⟨_, rfl⟩
            rw [← hm] at cm0 HCM
            have HM := Lib.hid hm
            have hk0 : (0 : Int) ≤ k2 := by omega
            have hk1 : (k2 : Int) < nm := by omega
            have hb9 := HB.out
            clear hm
            by_cases h200 : 200 < m
            · clear hrb
              go_wp2_with fail
              go_ret
              exact ⟨rfl, hb9⟩
            have h200i : ¬ (200 : Int) < m := by omega
            obtain ⟨i1, i2, i3, i4, i5, i6, i7⟩ := HI.out
            obtain ⟨j1, j2, j3, j4, j5, j6⟩ := HJ.out
            have hml := HM.out
            obtain ⟨x1, x2⟩ := i2.short i7 (by omega) m (by omega)
            obtain ⟨p1, p2⟩ := rel_app i2 i5 i6 M[k2]
            have hA := append_any wr i1 i2.ok 1 (m := m) (cb := c') HM.out hrb hb9.size (by rw [← hml]; exact x1) (by omega)
            rw [p1] at hA
            have hnx : (M.take (k2 + 1)).flatten = (M.take k2).flatten ++ M[k2] := by rw [← List.take_append_getElem hkl, List.flatten_append]; simp
            have hlx : r3.loose ++ [(0, 1, M[k2], 0, 0)] = appL (M.take (k2 + 1)) := by rw [← List.take_append_getElem hkl, appL_snoc, i3]
            have HSZ := Lib.hid (show SizeR { r3 with loose := r3.loose ++ [(0, 1, M[k2], 0, 0)] } (8040 + (k2 + 1) * 201) from by
              obtain ⟨q1, q2⟩ := i7
              refine ⟨?_, ?_⟩
              · simp only [← List.append_assoc]
                rw [totA_append]
                have : totA [(0, 1, M[k2], 0, 0)] = M[k2].length := by simp [totA]
                omega
              · simp only [List.length_append, List.length_singleton]
                omega)
            have HA := Lib.hid hA
            have HP2 := Lib.hid p2
            have HNX := Lib.hid hnx
            have HLX := Lib.hid hlx
            clear hA p1 p2 hnx hlx x1 x2 i1 i2 i3 i4 i5 i6 i7 j1 j2 j3 j4 j5 j6 hrb
            generalize (actS s3 (0, 1, M[k2])).2 = s4 at HA HP2
            clear hml
            have h200d : decide ((200 : Int) < m) = false := decide_eq_false h200i
            go_wp2_with fail
            refine HA.out.mono ?_
            rintro e w10 ⟨rfl, hD10, hbf⟩
            obtain ⟨i1, i2, i3, i4, i5, i6, i7⟩ := HI.out
            obtain ⟨j1, j2, j3, j4, j5, j6⟩ := HJ.out
            have hb10 := hb9.trans (hbf.to_below j6 hb9.size)
            have hrb := HRB.out.below hb10
            have hlen : nl ≤ 8040 + 20 * 1000 := by
              have q1 := HL2.out.2
              have q2 := i7.1
              rw [totA_append, i3] at q2
              have q3 : totA (appL (M.take k2)) = ((M.take k2).flatten).length := by
                unfold totA appL
                simp [List.length_flatten, Function.comp_def]
              rw [j5, List.length_append]
              omega
            obtain ⟨A2, c2, w11, hrun, hol, hu⟩ := append_bytes w10 w.heap.size (n := nl) (c := cl) j5 (own_bel j3 hbf (fun b e => (j4 b e).1)) (m := m) HM.out (c2 := c') hrb (by have := HM.out; rw [← j5]; omega) hb10.size
            have e11 : s2.by_ 3 ++ (M.take k2).flatten ++ M[k2] = s2.by_ 3 ++ (M.take (k2 + 1)).flatten := by rw [HNX.out, List.append_assoc]
            rw [e11] at hrun hol
            obtain ⟨nl2, hnl2⟩ : ∃ x, x = (s2.by_ 3 ++ (M.take (k2 + 1)).flatten).length := ⟨_, rfl⟩
            rw [← hnl2] at hrun
            have hD11 := hD10.grow hu.grown (fun b e => (j4 b e).1)
            have hpl := fun b h => plus_of (F := F9) (b := b) hu.size (hD10.lt.2.2.2) h
            have hra11 : RdF w11 (plus w10 w11 F9) Aa (s2.by_ 2) := by
              by_cases h0 : 0 < na
              · exact ((j1.bel hbf).grow hu.grown fun b e => (j4 b e).2.1 h0).mono hpl
              · have e0 : s2.by_ 2 = [] := List.eq_nil_of_length_eq_zero (by rw [← NA.out]; omega)
                rw [e0]
                exact ⟨⟨rfl, fun h => absurd h (Nat.lt_irrefl _)⟩, fun h => absurd h (Nat.lt_irrefl _)⟩
            have hrb11 : RdF w11 (plus w10 w11 F9) Ab (s2.by_ 3) := by
              by_cases h0 : 0 < nb
              · exact ((j2.bel hbf).grow hu.grown fun b e => (j4 b e).2.2 h0).mono hpl
              · have e0 : s2.by_ 3 = [] := List.eq_nil_of_length_eq_zero (by rw [← NB.out]; omega)
                rw [e0]
                exact ⟨⟨rfl, fun h => absurd h (Nat.lt_irrefl _)⟩, fun h => absurd h (Nat.lt_irrefl _)⟩
            have hfar11 : ∀ b, A2.map (·.block) = some b → plus w10 w11 F9 b ∧ (0 < na → Aa.map (·.block) ≠ some b) ∧ (0 < nb → Ab.map (·.block) ≠ some b) := fun b e => by
              rcases upd_new hu b e with h1 | h1
              · obtain ⟨g1, g2⟩ := j4 b h1
                exact ⟨hpl b g1, g2⟩
              · refine ⟨⟨(own_row hol e).2, .inr h1⟩, fun h0 e2 => ?_, fun h0 e2 => ?_⟩
                · obtain ⟨ad, ea, hlt, _⟩ := j1.1.2 (by rw [← NA.out]; exact h0)
                  rw [ea] at e2
                  simp only [Option.map_some, Option.some.injEq] at e2
                  have := hbf.size
                  omega
                · obtain ⟨ad, ea, hlt, _⟩ := j2.1.2 (by rw [← NB.out]; exact h0)
                  rw [ea] at e2
                  simp only [Option.map_some, Option.some.injEq] at e2
                  have := hbf.size
                  omega
            have hb11 := hb10.trans (hu.below_own (own_bel j3 hbf (fun b e => (j4 b e).1)) hb10.size)
            have hlo11 : ∀ b, b < w.heap.size → plus w10 w11 F9 b := fun b h => hpl b (j6 b h)
            have HI2 := Lib.hid (show DiskM w11 (plus w10 w11 F9) (plus w10 w11 F9) d s4 ∧ Rel s4 { r3 with loose := r3.loose ++ [(0, 1, M[k2], 0, 0)] } ∧ ({ r3 with loose := r3.loose ++ [(0, 1, M[k2], 0, 0)] } : RS).loose = appL (M.take (k2 + 1)) ∧ ({ r3 with loose := r3.loose ++ [(0, 1, M[k2], 0, 0)] } : RS).safe = S0 ∧ ({ r3 with loose := r3.loose ++ [(0, 1, M[k2], 0, 0)] } : RS).armed = false ∧ ({ r3 with loose := r3.loose ++ [(0, 1, M[k2], 0, 0)] } : RS).down = false ∧ SizeR { r3 with loose := r3.loose ++ [(0, 1, M[k2], 0, 0)] } (8040 + (k2 + 1) * 201) from ⟨hD11, HP2.out, HLX.out, i4, i5, i6, HSZ.out⟩)
            have HJ2 := Lib.hid (show RdF w11 (plus w10 w11 F9) Aa (s2.by_ 2) ∧ RdF w11 (plus w10 w11 F9) Ab (s2.by_ 3) ∧ OwnB w11 w.heap.size A2 c2 (s2.by_ 3 ++ (M.take (k2 + 1)).flatten) ∧ (∀ b, A2.map (·.block) = some b → plus w10 w11 F9 b ∧ (0 < na → Aa.map (·.block) ≠ some b) ∧ (0 < nb → Ab.map (·.block) ≠ some b)) ∧ nl2 = (s2.by_ 3 ++ (M.take (k2 + 1)).flatten).length ∧ ∀ b, b < w.heap.size → plus w10 w11 F9 b from ⟨hra11, hrb11, hol, hfar11, hnl2, hlo11⟩)
            have HB2 := Lib.hid hb11
            have cm10 : w10.cell? (adm.add k2) = some (.slice A' m c') := HCM.out w10 hb10
            clear HI HJ hD10 hbf i1 i2 i3 i4 i5 i6 i7 j1 j2 j3 j4 j5 j6 hb10 hrb hlen hol hu e11 hnl2 hD11 hpl hra11 hrb11 hfar11 hb11 hlo11 HP2 HLX HSZ HNX HA hb9 HB
            go_wp2_with (at_builtin; refine wpList_append_run rfl rfl rfl rfl hrun ?_; clear hrun)
            go_roundw
            case rel => exact ⟨k2 + 1, nl2, s4, _, _, A2, c2, by omega, rfl, by go_num, HI2, HJ2, HB2⟩
            case measure => simp [intOf] <;> omega
          · obtain rfl : k2 = nm := by omega
            have hMt : M.take k2 = M := List.take_of_length_le (by rw [HNM.out]; exact Nat.le_refl _)
            rw [hMt] at HI HJ
            obtain ⟨i1, i2, i3, i4, i5, i6, i7⟩ := HI.out
            obtain ⟨j1, j2, j3, j4, j5, j6⟩ := HJ.out
            obtain ⟨P, t1, t2, t3, t4, t5, t6⟩ := rel_keeps i2 i3 keep torn
            obtain ⟨z1, z2⟩ := i2.short i7 (by omega) 0 (by omega)
            obtain ⟨z3, -⟩ := (rel_crash i2 keep torn).short (crash_size i7 keep torn) (by omega) 0 (by omega)
            obtain ⟨u1, u2, u3⟩ := readS_up t6
            rw [i4] at t1 t2 t4
            obtain ⟨x1, x2, x3⟩ := HX.out
            rw [← x1] at t1
            rw [← x2] at t2
            rw [← x3] at t4
            obtain ⟨nc, hnc⟩ : ∃ x, x = ((crashS s3 keep torn).by_ 3).length := ⟨_, rfl⟩
            have NC := Lib.hid hnc
            have hb9 := HB.out
            have hnla : nl ≤ 8040 + 8040 + 20 * 1000 := by
              have q2 := i7.1
              rw [totA_append, i3] at q2
              have q3 : totA (appL M) = (M.flatten).length := by
                unfold totA appL
                simp [List.length_flatten, Function.comp_def]
              have q1 := HL2.out.2
              rw [j5, List.length_append]
              omega
            have hcapl : nl ≤ cl := by have := own_cap j3; rw [j5]; exact this
            have HJ5 := Lib.hid j5
            have HT := Lib.hid (show (crashS s3 keep torn).by_ 2 = s2.by_ 2 ∧ (crashS s3 keep torn).by_ 3 = s2.by_ 3 ++ P ∧ P <+: M.flatten ∧ (crashS s3 keep torn).f1 = s2.f1 ∧ (crashS s3 keep torn).lo = [] from ⟨t1, t2, t3, t4, t5⟩)
            have hz2l : (s2.by_ 3).length ≤ 8040 := HL2.out.2
            have hz2a : (s2.by_ 2).length ≤ 8040 := HL2.out.1
            clear HI HJ HB i2 i3 i4 i5 i6 i7 j5 x1 x2 x3 hnc t1 t2 t3 t4 t5 t6 hMt hlt
            go_wp2_with fail
            refine (crash_any _ i1 z2 keep torn).mono ?_
            rintro e w8 ⟨rfl, hD8, hbf⟩
            have hra8 := j1.bel hbf
            have hrb8 := j2.bel hbf
            have hol8 := own_bel j3 hbf (fun b e => (j4 b e).1)
            have hb8 := hb9.trans (hbf.to_below j6 hb9.size)
            clear i1 z2 j1 j2 j3 j4 j6 hb9 hbf
            go_wp2_with fail
            refine (read_any w8 hD8 z3 1 _ _ u2 nc NC.out).mono ?_
            rintro e w9 ⟨An, cn, rfl, hon, hb⟩
            have hD9 := hD8.below hb (Nat.le_refl _)
            have hra9 := hra8.below hb (Nat.le_refl _)
            have hrb9 := hrb8.below hb (Nat.le_refl _)
            have hol9 := own_below hol8 hb (Nat.le_refl _)
            have hb9 := hb8.trans (hb.mono hb8.size)
            clear hra8 hrb8 hb8 hb hD8 hol8
            go_wp2_with fail
            refine (read_any w9 hD9 z3 0 _ _ u1 na (by rw [HT.out.1]; exact NA.out)).mono ?_
            rintro e w10 ⟨As, cs, rfl, hos, hb⟩
            have hD10 := hD9.below hb (Nat.le_refl _)
            have hra10 := hra9.below hb (Nat.le_refl _)
            have hrb10 := hrb9.below hb (Nat.le_refl _)
            have hol10 := own_below hol9 hb (Nat.le_refl _)
            have hon10 := own_below hon hb (Nat.le_refl _)
            have hb10 := hb9.trans (hb.mono hb9.size)
            have hcapn := own_cap hon
            rw [← NC.out] at hcapn
            clear hra9 hrb9 hb9 hb hD9 hol9 hon
            go_wp2_with fail
            refine (first_any w10 hD10 _ _ u3).mono ?_
            rintro e w11 ⟨rfl, rfl⟩
            rw [HT.out.2.2.2.1]
            rw [HT.out.1] at hos
            rw [HT.out.2.1] at hon10
            have HOL := Lib.hid hol10
            have HON := Lib.hid (OwnB.rd hon10)
            have HOS := Lib.hid (OwnB.rd hos)
            have hncP : nc = (s2.by_ 3 ++ P).length := by rw [NC.out, HT.out.2.1]
            have HNP := Lib.hid hncP
            have hP := HT.out.2.2.1
            have hPl := hP.length_le
            have hncl : (s2.by_ 3 ++ P).length ≤ 1099511627776 := by have := HJ5.out; rw [List.length_append] at this ⊢; omega
            have hp1 : s2.by_ 3 <+: s2.by_ 3 ++ P := List.prefix_append _ _
            have hp2 : s2.by_ 3 ++ P <+: s2.by_ 3 ++ M.flatten := (List.prefix_append_right_inj _).2 hP
            have HP1 := Lib.hid hp1
            have HP2 := Lib.hid hp2
            have HCL := Lib.hid hncl
            have HLO2 := Lib.hid (show (crashS s3 keep torn).lo.length = 0 by rw [HT.out.2.2.2.2]; rfl)
            clear hol10 hon10 hos hncP hP hPl hncl hp1 hp2 u1 u2 u3 z3 HT
            go_wp2_with fail
            refine (same_any w10 (xs := s2.by_ 2) (bs := s2.by_ 2) NA.out NA.out HOS.out hra10.rd (by omega) (by omega)).mono ?_
            rintro e w12 ⟨rfl, nq, rfl⟩
            rw [decide_eq_true rfl]
            go_wp2_with fail
            refine (begins_any (w10.drewN nq) (c2 := cb) HNP.out NB.out (HON.out.drewN nq) (hrb10.rd.drewN nq) hcapn HCL.out HP1.out).mono ?_
            rintro e w13 ⟨rfl, nq2, rfl⟩
            go_wp2_with fail
            refine (begins_any _ (c2 := cn) HJ5.out HNP.out ((OwnB.rd HOL.out).drewN _) (HON.out.drewN _) hcapl (by have := HJ5.out; omega) HP2.out).mono ?_
            rintro e w13 ⟨rfl, nq3, rfl⟩
            go_wp2_with fail
            refine (loose_any _ (hD10.below (below_drewN (Below.refl w10.heap.size w10) _) (Nat.le_refl _))).mono ?_
            rintro e w14 ⟨rfl, rfl⟩
            rw [HLO2.out]
            go_wp2_with fail
            go_ret
            exact ⟨rfl, below_drewN hb10 _⟩
end Go.Proofs.Ytjipjfionelpkaa.dk
