/- The law DiskSyncs. -/
import Derived.Test.YtjipjfionelpkaaDk19
namespace Go.Proofs.Ytjipjfionelpkaa.dk
open Go.RowKit Go.Proofs.Ytjipjfionelpkaa.lib Go.Proofs.Ytjipjfionelpkaa.byt
set_option linter.unusedVariables false

def AcOk (a : Ac) : Prop := (0 ≤ a.1 ∧ a.1 ≤ 255) ∧ a.2.2.2.1 ≤ 9223372036854775807
def FactA (w : World) (A : Option Addr) (n : Nat) : Prop := ∃ L : List Ac, n = L.length ∧ RdA w (fun b => b < w.heap.size) A L ∧ ∀ i (h : i < L.length), AcOk L[i]
theorem rel_quiet {s : DS} {r : RS} (h : Rel s r) (hl : r.loose = []) (keep torn : Int) : (crashS s keep torn).by_ 2 = s.by_ 2 ∧ (crashS s keep torn).by_ 3 = s.by_ 3 ∧ (crashS s keep torn).f1 = s.f1 ∧ (crashS s keep torn).lo = [] ∧ (crashS s keep torn).down = false := by
  have h2 := rel_crash h keep torn
  have e : crashL r keep torn = [] := by unfold crashL; rw [hl]; simp
  unfold crashR at h2
  rw [e] at h2
  refine ⟨?_, ?_, ?_, rfl, rfl⟩
  · rw [h2.b2, h.b2, hl, List.append_nil]
  · rw [h2.b3, h.b3, hl, List.append_nil]
  · rw [h2.f1, h.f1, hl, List.append_nil]
/-- Behind Arm(-1), Sync: nothing is loose, or the disk is down. -/
theorem rel_armsync {s : DS} {r : RS} {M : Nat} (h : Rel s r) (hz : SizeR r M) (hM : M ≤ 1000000000) : LongOk (armS s (-1)) 0 ∧ OkS (armS s (-1)) ∧ (s.down = true → (4, armS s (-1)) = syncS (armS s (-1)) ∧ (armS s (-1)).down = true) ∧
    (s.down = false → ∃ s2 r2, (0, s2) = syncS (armS s (-1)) ∧ Rel s2 r2 ∧ r2.loose = [] ∧ SizeR r2 M ∧ r2.down = false ∧ r2.armed = false ∧ s2.down = false) := by
  have h1 := rel_arm h (-1) (by decide)
  have hz1 : SizeR (if r.down = true then r else { r with armed := decide ((0 : Int) ≤ -1), left := -1, down := decide ((-1 : Int) = 0) }) M := by split <;> exact hz
  refine ⟨(h1.short hz1 hM 0 (by omega)).2, h1.ok, fun hd => ?_, fun hd => ?_⟩
  · have e : armS s (-1) = s := by unfold armS; rw [if_pos hd]
    rw [e]
    exact ⟨by unfold syncS; rw [if_pos hd], hd⟩
  · have hrd : ¬ r.down = true := by rw [← h.down, hd]; decide
    rw [if_neg hrd] at h1
    have ed : (armS s (-1)).down = false := h1.down
    have h2 := rel_sync h1 rfl
    refine ⟨_, _, ?_, h2, rfl, ⟨?_, Nat.zero_le _⟩, rfl, rfl, h2.down⟩
    · unfold syncS; rw [if_neg (by rw [ed]; decide)]
    · have := hz.1
      simpa [countR] using this
theorem crash_size {r : RS} {M : Nat} (hz : SizeR r M) (keep torn : Int) : SizeR (crashR r keep torn) M := by
  have h1 := crashL_tot r keep torn
  have h2 := totA_append r.safe r.loose
  have h3 := hz.1
  refine ⟨?_, Nat.zero_le _⟩
  simp only [crashR, List.append_nil, totA_append]
  omega
theorem readS_up {s : DS} (h : s.down = false) : (s.by_ 2, (0 : Int)) = readS s 0 ∧ (s.by_ 3, (0 : Int)) = readS s 1 ∧ (s.f1, (0 : Int)) = if s.down = true then (0, 4) else (s.f1, 0) := by
  unfold readS
  rw [h]
  exact ⟨rfl, rfl, rfl⟩
set_option maxRecDepth 8000 in
set_option maxHeartbeats 8000000 in
theorem law_DiskSyncs (w : World) {A : Option Addr} {n c : Nat} (hx : FactA w A n) (keep torn : Int) :
    Calls Try.prog 7 #[.slice A n c, .int .i64 keep, .int .i64 torn] w fun e w' => e = .returned (.bool true) ∧ Below w.heap.size w w' := by
  obtain ⟨L, hn, hr, hok⟩ := hx
  have HN := Lib.hid hn
  have HOK := Lib.hid hok
  clear hn hok
  go_enter Try.func7, Try.ntmps7
  go_wp2_with fail
  refine (awake07 _).mono ?_
  rintro e w1 ⟨rfl, hb1⟩
  have hr1 := hr.below hb1 (Nat.le_refl _)
  go_wp2_with fail
  refine (few_any w1 HN.out hr1).mono ?_
  rintro e w2 ⟨t, rfl, ht, hb2⟩
  have hr2 := hr1.below hb2 (Nat.le_refl _)
  replace hb2 := hb1.trans (hb2.mono hb1.size)
  cases t
  · clear ht
    (go_wp2_with fail; refine (awake07 _).mono ?_; rintro e wz ⟨rfl, hbz⟩; go_wp2_with fail; go_ret; exact ⟨rfl, hb2.trans (hbz.mono hb2.size)⟩)
  have HF := Lib.hid (ht rfl)
  clear ht hr hr1 hb1
  go_wp2_with fail
  refine (new_any w2).mono ?_
  rintro e w3 ⟨rfl, hD, hb3⟩
  have hr3 := (hr2.below hb3 (Nat.le_refl _)).mono (F' := fun b => b < w2.heap.size) fun b h => Nat.lt_of_lt_of_le h hb2.size
  have hlo : ∀ b, b < w.heap.size → b < w2.heap.size := fun b h => Nat.lt_of_lt_of_le h hb2.size
  replace hb3 := hb2.trans (hb3.mono hb2.size)
  generalize w2.heap.size = d at *
  generalize hFF : (fun b => b < d) = F at hD hr3
  have HLO := Lib.hid (show ∀ b, b < w.heap.size → F b from fun b h => by rw [← hFF]; exact hlo b h)
  clear hFF hlo hb2 hr2
  have HD := Lib.hid hD
  have HR := Lib.hid hr3
  have HB := Lib.hid hb3
  have hn40 : n ≤ 40 := by have := HN.out; have := HF.out.1; omega
  clear hD hr3 hb3
  go_wp2_with fail
  go_loopw [8] (fun vi wr => ∃ (k : Nat) (s : DS) (r : RS), k ≤ n ∧ vi = .int .i64 k ∧ Hid (DiskM wr F F d s) ∧ Hid (Rel s r) ∧ Hid (SizeR r (k * 201)) ∧ Hid (RdA wr F A L) ∧ Hid (Below w.heap.size w wr)) (fun vi _ => n - (intOf vi).toNat)
  case atStart => exact ⟨0, newS, newR, Nat.zero_le _, rfl, HD, Lib.hid rel_new, Lib.hid ⟨Nat.le_refl _, Nat.le_refl _⟩, HR, HB⟩
  case round =>
    obtain ⟨k, s, r, hk, rfl, HDK, HRK, HZ, HAK, HBK⟩ := hrel
    by_cases hlt : k < n
    · have hkl : k < L.length := by rw [← HN.out]; exact hlt
      obtain ⟨ad, A', c', rfl, hbl, -, c0, c1, c2, c3, c4, hrb, hcap⟩ := HAK.out.at_ hkl
      have hP := play_any wr HDK.out HRK.out HZ.out (by omega) L[k] (HOK.out k hkl).1 (HOK.out k hkl).2 (cb := c') rfl hrb.rd (Nat.le_refl _) (by have := HF.out.2 k hkl; omega)
      have HZ2 := Lib.hid (show SizeR (doR r L[k]).1 ((k + 1) * 201) from by
        have := HZ.out.step L[k] 201 (by have := HF.out.2 k hkl; omega)
        rw [show (k + 1) * 201 = k * 201 + 201 by omega]
        exact this)
      have HP := Lib.hid hP
      have hk0 : (0 : Int) ≤ k := by omega
      have hk1 : (k : Int) < n := by omega
      clear hP hrb hcap
      generalize (doR r L[k]).1 = r2 at HP HZ2
      generalize (doR r L[k]).2 = cd at HP
      generalize L[k] = a at *
      go_wp2_with fail
      refine HP.out.mono ?_
      rintro e w5 ⟨rfl, s2, hD2, hR2, hbf⟩
      have HD2 := Lib.hid hD2
      have HR2 := Lib.hid hR2
      have HA2 := Lib.hid (HAK.out.bel hbf)
      have HB2 := Lib.hid (HBK.out.trans (hbf.to_below HLO.out HBK.out.size))
      clear hD2 hR2 hbf HP
      go_wp2_with fail
      go_roundw
      case rel => exact ⟨k + 1, s2, r2, by omega, by go_num, HD2, HR2, HZ2, HA2, HB2⟩
      case measure => simp [intOf] <;> omega
    · obtain rfl : k = n := by omega
      clear hlt HD HR HB HAK HOK HF
      have hD := HDK.out
      have hb := HBK.out
      have hz := HZ.out
      have hR := HRK.out
      clear HDK HBK HZ HRK
      obtain ⟨y1, y2, y3, y4⟩ := rel_armsync hR hz (by omega)
      go_wp2_with fail
      refine (arm_any wr hD (-1)).mono ?_
      rintro e w4 ⟨rfl, hD4, hbf⟩
      have hb4 := hb.trans (hbf.to_below HLO.out hb.size)
      clear hD hb hbf
      cases hdn : s.down
      · obtain ⟨s2, r2, e1, hR2, hl2, hz2, -, -, hd2⟩ := y4 hdn
        clear y3 y4
        go_wp2_with fail
        refine (sync_any w4 hD4 y2 y1 _ _ e1).mono ?_
        rintro e w5 ⟨rfl, hD5, hbf⟩
        have hb5 := hb4.trans (hbf.to_below HLO.out hb4.size)
        obtain ⟨v1, v2, v3⟩ := readS_up hd2
        obtain ⟨o1, o2, o3, o4, o5⟩ := rel_quiet hR2 hl2 keep torn
        obtain ⟨t1, t2, t3⟩ := readS_up o5
        obtain ⟨z1, z2⟩ := hR2.short hz2 (by omega) 0 (by omega)
        have hR6 := rel_crash hR2 keep torn
        obtain ⟨z3, -⟩ := hR6.short (crash_size hz2 keep torn) (by omega) 0 (by omega)
        clear hD4 y1 y2 e1 hbf hb4 hR hz hR6 hR2 hz2
        obtain ⟨na, hna⟩ : ∃ m, m = (s2.by_ 2).length := ⟨_, rfl⟩
        obtain ⟨nb, hnb⟩ : ∃ m, m = (s2.by_ 3).length := ⟨_, rfl⟩
        have NA := Lib.hid hna
        have NB := Lib.hid hnb
        clear hna hnb
        go_wp2_with fail
        refine (read_any w5 hD5 z1 0 _ _ v1 na NA.out).mono ?_
        rintro e w6 ⟨Aa, ca, rfl, hoa, hb⟩
        have hD6 := hD5.plus hb (Nat.le_refl _)
        have hra : RdF w6 (plus w5 w6 F) Aa (s2.by_ 2) := ReadsF.of_own hoa fun b h1 h2 => ⟨h2, .inr h1⟩
        have hb6 := hb5.trans (hb.mono hb5.size)
        have hlo6 : ∀ b, b < w.heap.size → plus w5 w6 F b := fun b h => ⟨Nat.lt_of_lt_of_le h hb6.size, .inl (HLO.out b h)⟩
        clear hD5 hoa hb hb5
        generalize plus w5 w6 F = F6 at hD6 hra hlo6
        go_wp2_with fail
        refine (read_any w6 hD6 z1 1 _ _ v2 nb NB.out).mono ?_
        rintro e w7 ⟨Ab, cb, rfl, hob, hb⟩
        have hD7 := hD6.plus hb (Nat.le_refl _)
        have hrb : RdF w7 (plus w6 w7 F6) Ab (s2.by_ 3) := ReadsF.of_own hob fun b h1 h2 => ⟨h2, .inr h1⟩
        have hb7 := hb6.trans (hb.mono hb6.size)
        have hlo7 : ∀ b, b < w.heap.size → plus w6 w7 F6 b := fun b h => ⟨Nat.lt_of_lt_of_le h hb7.size, .inl (hlo6 b h)⟩
        have hra7 : RdF w7 (plus w6 w7 F6) Aa (s2.by_ 2) := (hra.below hb (Nat.le_refl _)).mono fun b h => plus_of hb.size (hD6.lt.2.2.2) h
        clear hD6 hob hb hb6 hra hlo6
        generalize plus w6 w7 F6 = F7 at hD7 hra7 hrb hlo7
        go_wp2_with fail
        refine (first_any w7 hD7 _ _ v3).mono ?_
        rintro e w8 ⟨rfl, rfl⟩
        go_wp2_with fail
        refine (crash_any w7 hD7 z2 keep torn).mono ?_
        rintro e w8 ⟨rfl, hD8, hbf⟩
        have hra8 := hra7.bel hbf
        have hrb8 := hrb.bel hbf
        have hb8 := hb7.trans (hbf.to_below hlo7 hb7.size)
        clear hra7 hrb hb7 hlo7 hbf hD7
        go_wp2_with fail
        refine (read_any w8 hD8 z3 0 _ _ t1 na (by rw [o1]; exact NA.out)).mono ?_
        rintro e w9 ⟨Ac, cc, rfl, hoc, hb⟩
        have hD9 := hD8.below hb (Nat.le_refl _)
        have hra9 := hra8.below hb (Nat.le_refl _)
        have hrb9 := hrb8.below hb (Nat.le_refl _)
        have hb9 := hb8.trans (hb.mono hb8.size)
        clear hra8 hrb8 hb8 hb hD8
        go_wp2_with fail
        refine (read_any w9 hD9 z3 1 _ _ t2 nb (by rw [o2]; exact NB.out)).mono ?_
        rintro e w10 ⟨Ad, cd, rfl, hod, hb⟩
        have hD10 := hD9.below hb (Nat.le_refl _)
        have hra10 := hra9.below hb (Nat.le_refl _)
        have hrb10 := hrb9.below hb (Nat.le_refl _)
        have hoc10 := own_below hoc hb (Nat.le_refl _)
        have hb10 := hb9.trans (hb.mono hb9.size)
        clear hra9 hrb9 hb9 hb hD9 hoc
        go_wp2_with fail
        refine (first_any w10 hD10 _ _ t3).mono ?_
        rintro e w11 ⟨rfl, rfl⟩
        rw [o3]
        have HOC := Lib.hid (OwnB.rd hoc10)
        have HOD := Lib.hid (OwnB.rd hod)
        rw [o1] at HOC
        rw [o2] at HOD
        have hll : (crashS s2 keep torn).lo.length = 0 := by rw [o4]; rfl
        have hl1 := z1.1 2 (by omega)
        have hl2 := z1.1 3 (by omega)
        have HLL := Lib.hid hll
        clear hoc10 hod o1 o2 o3 o4 o5 z1 z2 z3 v1 v2 v3 t1 t2 t3 hll
        go_wp2_with fail
        refine (same_any w10 (xs := s2.by_ 2) (bs := s2.by_ 2) NA.out NA.out hra10.rd HOC.out (by omega) (by omega)).mono ?_
        rintro e w12 ⟨rfl, nq, rfl⟩
        rw [decide_eq_true rfl]
        go_wp2_with fail
        refine (same_any (w10.drewN nq) (xs := s2.by_ 3) (bs := s2.by_ 3) NB.out NB.out (hrb10.rd.drewN nq) (HOD.out.drewN nq) (by omega) (by omega)).mono ?_
        rintro e w13 ⟨rfl, nq2, rfl⟩
        rw [decide_eq_true rfl]
        go_wp2_with fail
        refine (loose_any _ (hD10.below (below_drewN (Below.refl w10.heap.size w10) _) (Nat.le_refl _))).mono ?_
        rintro e w14 ⟨rfl, rfl⟩
        rw [HLL.out]
        go_wp2_with fail
        go_ret
        exact ⟨rfl, below_drewN hb10 _⟩
      · obtain ⟨e1, e2⟩ := y3 hdn
        clear y4
        go_wp2_with fail
        refine (sync_any w4 hD4 y2 y1 _ _ e1).mono ?_
        rintro e w5 ⟨rfl, hD5, hbf⟩
        have hb5 := hb4.trans (hbf.to_below HLO.out hb4.size)
        clear hD4 y1 y2 y3 e1 hbf hb4
        go_wp2_with fail
        refine (down_any w5 hD5).mono ?_
        rintro e w6 ⟨rfl, rfl⟩
        rw [e2]
        go_wp2_with fail
        go_ret
        exact ⟨rfl, hb5⟩
end Go.Proofs.Ytjipjfionelpkaa.dk
