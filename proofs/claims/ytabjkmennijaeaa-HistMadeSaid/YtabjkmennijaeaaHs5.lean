/- What goes answers. -/
import Derived.Test.YtabjkmennijaeaaHs4
namespace Go.Proofs.Ytabjkmennijaeaa.hs
open Go.RowKit Go.Proofs.Ytabjkmennijaeaa.lib Go.Proofs.Ytabjkmennijaeaa.byt
set_option linter.unusedVariables false
set_option linter.unusedSimpArgs false

theorem block_of_cell {w : World} {a : Addr} {v : Value} (h : w.cell? a = some v) : a.block < w.heap.size := by
  rcases Nat.lt_or_ge a.block w.heap.size with h' | h'
  · exact h'
  · simp [World.cell?, Array.getElem?_eq_none h'] at h
theorem Keep.cell {mb : Nat} {w w' : World} (h : Keep mb w w') {a : Addr} {v : Value} (hv : w.cell? a = some v) (hne : a.block ≠ mb) : w'.cell? a = some v := (World.cell?_of_block (h.block _ (block_of_cell hv) hne)).trans hv
theorem Keep.drewN {mb : Nat} {w w' : World} (h : Keep mb w w') (n : Nat) : Keep mb w (w'.drewN n) := h.trans (Keep.of (below_drewN (Below.refl _ _) n) (Nat.le_refl _))
theorem MapAt.drewN {w : World} {mb : Nat} {M : List (Nat × Nat)} (h : MapAt w mb M) (n : Nat) : MapAt (w.drewN n) mb M := h
structure EnvS (L : List Dn) (V : List ByteArray) (T Hd : List Nat) (n nv : Nat) : Prop where
  big : n ≤ 60 ∧ nv ≤ 1000
  to : ∀ (i : Nat) (d : Dn), L[i]? = some d → ∃ t, T[i]? = some t ∧ 0 < t ∧ t < nv ∧ V[t]? = some d.val
  hd : ∀ (i x : Nat), Hd[i]? = some x → x < 18446744073709551616
theorem numP_lt {d : Dn} {t num nv : Nat} (v : Option ByteArray) (ht : t < nv) (hn : num < nv) : numP d t num v < nv := by
  unfold numP
  split
  · exact hn
  · split
    · exact ht
    · split
      · omega
      · split
        · split
          · exact ht
          · exact hn
        · exact hn
set_option maxRecDepth 8000 in
set_option maxHeartbeats 4000000 in
theorem goes_any {sb mb n nv : Nat} {L : List Dn} {V : List ByteArray} {T Hd : List Nat} {Ac : Option Addr} {cc : Nat} {Av : Option Addr} {cv : Nat} {At : Option Addr} {ct : Nat} {Aa : Option Addr} {ca : Nat} (hE : EnvS L V T Hd n nv) (left : Nat) :
    ∀ (w : World) (M : List (Nat × Nat)) (num : Nat), SearchP w sb mb n nv L V T Hd Ac cc Av cv At ct Aa ca → MapAt w mb M → left < 18446744073709551616 → num < nv → (∀ p ∈ M, ¬ Alive L Hd p.1 (valOf V p.2) ∨ left < p.1) →
    Calls Try.prog 13 #[.pointer (some ⟨sb, 0, none⟩), .agg #[.int .u64 (left : Int), .int .i64 (num : Int)]] w (RGoes w mb L V Hd M left num) := by
  induction left using Nat.strongRecOn with
  | _ left ih =>
  intro w M num h hM hl64 hnv hmem
  have HIH := Lib.hid ih
  have HME := Lib.hid hmem
  have HEN := Lib.hid hE
  have hbV : Below w.heap.size w (w.alloc (.cells #[.int .u64 (left : Int), .int .i64 (num : Int)] 54)) := (Below.refl _ _).alloc (Nat.le_refl _) _
  have hrow := heap_alloc_new w (.cells #[.int .u64 (left : Int), .int .i64 (num : Int)] 54 (0, 0))
  have b0 := cell_of_row _ w.heap.size 0 _ _ (0, 0) hrow
  have b1 := cell_of_row _ w.heap.size 1 _ _ (0, 0) hrow
  simp only [List.getElem?_toArray, List.getElem?_cons_succ, List.getElem?_cons_zero] at b0 b1
  have hMV := hM.below hbV (Nat.le_refl _)
  have hSV := h.keep (Keep.of hbV (Nat.le_refl _))
  obtain ⟨-, -, -, -, g4⟩ := hSV.cells
  have hbx : w.heap.size ≠ mb := by have := hM.lt; omega
  have HL64 := Lib.hid hl64
  have HW := Lib.hid (show Keep mb w (w.alloc (.cells #[.int .u64 (left : Int), .int .i64 (num : Int)] 54)) from Keep.of hbV (Nat.le_refl _))
  clear hrow ih hmem hE hM h hbV hl64
  go_enter Try.func13, Try.ntmps13
  go_wp2_with fail
  generalize (w.alloc (.cells #[.int .u64 (left : Int), .int .i64 (num : Int)] 54)) = W at HW b0 b1 hMV g4 hSV ⊢
  obtain ⟨bx, hbxe⟩ : ∃ x, x = w.heap.size := ⟨_, rfl⟩
  rw [← hbxe] at b0 b1 hbx ⊢
  clear hbxe
  have hS0 : (fun X : World => (X.cell? ⟨sb, 4, none⟩ = some (.map (some mb)) ∧ X.cell? ⟨bx, 0, none⟩ = some (.int .u64 (left : Int)) ∧ X.cell? ⟨bx, 1, none⟩ = some (.int .i64 (num : Int)) ∧ MapAt X mb M)) W.drew := ⟨g4, b0, b1, hMV⟩
  refine tail.wp_region_till 6 (fun X => (X.cell? ⟨sb, 4, none⟩ = some (.map (some mb)) ∧ X.cell? ⟨bx, 0, none⟩ = some (.int .u64 (left : Int)) ∧ X.cell? ⟨bx, 1, none⟩ = some (.int .i64 (num : Int)) ∧ MapAt X mb M)) (by kernel_rfl) ?_
  (refine tail.till_take 0 (v := ?_) rfl (by kernel_rfl) (by kernel_rfl) (by kernel_rfl) (by kernel_rfl) (by kernel_rfl) (fun _ _ _ h => h) (by rfl) (by assumption) ?_ ?_; rotate_left 1; (focus (intro X hX; obtain ⟨s0, s1, s2, s3⟩ := hX; go_simp; with_reducible rfl)); (try simp only [Act.put, List.setIfInBounds_toArray, List.set_cons_zero, List.set_cons_succ]))
  (refine tail.till_take 1 (v := ?_) rfl (by kernel_rfl) (by kernel_rfl) (by kernel_rfl) (by kernel_rfl) (by kernel_rfl) (fun _ _ _ h => h) (by rfl) (by assumption) ?_ ?_; rotate_left 1; (focus (intro X hX; obtain ⟨s0, s1, s2, s3⟩ := hX; go_simp; with_reducible rfl)); (try simp only [Act.put, List.setIfInBounds_toArray, List.set_cons_zero, List.set_cons_succ]))
  (refine tail.till_take 2 (v := ?_) rfl (by kernel_rfl) (by kernel_rfl) (by kernel_rfl) (by kernel_rfl) (by kernel_rfl) (fun _ _ _ h => h) (by rfl) (by assumption) ?_ ?_; rotate_left 1; (focus (intro X hX; obtain ⟨s0, s1, s2, s3⟩ := hX; go_simp; with_reducible rfl)); (try simp only [Act.put, List.setIfInBounds_toArray, List.set_cons_zero, List.set_cons_succ]))
  (refine tail.till_take 3 (v := ?_) rfl (by kernel_rfl) (by kernel_rfl) (by kernel_rfl) (by kernel_rfl) (by kernel_rfl) (fun _ _ _ h => h) (by rfl) (by assumption) ?_ ?_; rotate_left 1; (focus (intro X hX; obtain ⟨s0, s1, s2, s3⟩ := hX; go_simp; with_reducible rfl)); (try simp only [Act.put, List.setIfInBounds_toArray, List.set_cons_zero, List.set_cons_succ]))
  (refine tail.till_take 4 (v := ?_) rfl (by kernel_rfl) (by kernel_rfl) (by kernel_rfl) (by kernel_rfl) (by kernel_rfl) (fun _ _ _ h => h) (by rfl) (by assumption) ?_ ?_; rotate_left 1; (focus (intro X hX; obtain ⟨s0, s1, s2, s3⟩ := hX; go_simp; with_reducible rfl)); (try simp only [Act.put, List.setIfInBounds_toArray, List.set_cons_zero, List.set_cons_succ]))
  refine tail.till_take 5 (v := .int .i64 (if (left, num) ∈ M then 1 else 0)) rfl (by kernel_rfl) (by kernel_rfl) (by kernel_rfl) (by kernel_rfl) (by kernel_rfl) (fun _ _ _ h => h) (by rfl) (by assumption) (fun X hX => ?_) ?_
  · obtain ⟨s0, s1, s2, s3⟩ := hX
    have hl := lookup_pl s3 left num
    go_simp
  try simp only [Act.put, List.setIfInBounds_toArray, List.set_cons_zero, List.set_cons_succ]
  refine tail.till_one 6 (by kernel_rfl) rfl (fun K hK => ?_)
  by_cases hm : (left, num) ∈ M
  · rw [if_pos hm]
    go_simp
    refine hK.out _ _ (fun h => absurd rfl h) ?_
    clear hK K
    try simp only [Act.put, List.setIfInBounds_toArray, List.set_cons_zero, List.set_cons_succ]
    refine tail.till_done (by kernel_rfl) ?_ _
    have HF := Lib.hid (show RGoes w mb L V Hd M left num (.returned (.bool false)) W.drew from ⟨false, M, rfl, HW.out.drewN 1, hMV, fun h => (by cases h), fun _ => ⟨(HME.out _ hm).resolve_right (Nat.lt_irrefl _), fun p hp => .inl hp⟩⟩)
    clear hMV hS0 hm
    go_wp2_with fail
    refine bodyPost_ret (v := .bool false) (by simp [results, Try.results13]) rfl ?_
    exact HF.out
  · rw [if_neg hm]
    go_simp
    refine hK.out _ _ (fun h => absurd rfl h) ?_
    clear hK K
    try simp only [Act.put, List.setIfInBounds_toArray, List.set_cons_zero, List.set_cons_succ]
    refine tail.till_done (by kernel_rfl) ?_ _
    have hS1 : (fun X : World => (X.cell? ⟨sb, 4, none⟩ = some (.map (some mb)) ∧ X.cell? ⟨bx, 0, none⟩ = some (.int .u64 (left : Int)) ∧ X.cell? ⟨bx, 1, none⟩ = some (.int .i64 (num : Int)) ∧ MapAt X mb M)) W.drew.drew := ⟨g4, b0, b1, hMV⟩
    obtain ⟨w1, hrun, hM1, hsz, hblk, hos, htp, hout⟩ := update_pl (w := W.drew.drew) hMV left num hm
    clear hS0
    go_wp2_with fail
    refine tail.wp_region_till 5 (fun X => (X.cell? ⟨sb, 4, none⟩ = some (.map (some mb)) ∧ X.cell? ⟨bx, 0, none⟩ = some (.int .u64 (left : Int)) ∧ X.cell? ⟨bx, 1, none⟩ = some (.int .i64 (num : Int)) ∧ MapAt X mb M)) (by kernel_rfl) ?_
    (refine tail.till_take 0 (v := ?_) rfl (by kernel_rfl) (by kernel_rfl) (by kernel_rfl) (by kernel_rfl) (by kernel_rfl) (fun _ _ _ h => h) (by rfl) (by assumption) ?_ ?_; rotate_left 1; (focus (intro X hX; obtain ⟨s0, s1, s2, s3⟩ := hX; go_simp; with_reducible rfl)); (try simp only [Act.put, List.setIfInBounds_toArray, List.set_cons_zero, List.set_cons_succ]))
    (refine tail.till_take 1 (v := ?_) rfl (by kernel_rfl) (by kernel_rfl) (by kernel_rfl) (by kernel_rfl) (by kernel_rfl) (fun _ _ _ h => h) (by rfl) (by assumption) ?_ ?_; rotate_left 1; (focus (intro X hX; obtain ⟨s0, s1, s2, s3⟩ := hX; go_simp; with_reducible rfl)); (try simp only [Act.put, List.setIfInBounds_toArray, List.set_cons_zero, List.set_cons_succ]))
    (refine tail.till_take 2 (v := ?_) rfl (by kernel_rfl) (by kernel_rfl) (by kernel_rfl) (by kernel_rfl) (by kernel_rfl) (fun _ _ _ h => h) (by rfl) (by assumption) ?_ ?_; rotate_left 1; (focus (intro X hX; obtain ⟨s0, s1, s2, s3⟩ := hX; go_simp; with_reducible rfl)); (try simp only [Act.put, List.setIfInBounds_toArray, List.set_cons_zero, List.set_cons_succ]))
    (refine tail.till_take 3 (v := ?_) rfl (by kernel_rfl) (by kernel_rfl) (by kernel_rfl) (by kernel_rfl) (by kernel_rfl) (fun _ _ _ h => h) (by rfl) (by assumption) ?_ ?_; rotate_left 1; (focus (intro X hX; obtain ⟨s0, s1, s2, s3⟩ := hX; go_simp; with_reducible rfl)); (try simp only [Act.put, List.setIfInBounds_toArray, List.set_cons_zero, List.set_cons_succ]))
    (refine tail.till_take 4 (v := ?_) rfl (by kernel_rfl) (by kernel_rfl) (by kernel_rfl) (by kernel_rfl) (by kernel_rfl) (fun _ _ _ h => h) (by rfl) (by assumption) ?_ ?_; rotate_left 1; (focus (intro X hX; obtain ⟨s0, s1, s2, s3⟩ := hX; go_simp; with_reducible rfl)); (try simp only [Act.put, List.setIfInBounds_toArray, List.set_cons_zero, List.set_cons_succ]))
    refine tail.till_one 5 (by kernel_rfl) rfl (fun K hK => ?_)
    go_simp
    refine hK.out _ _ (fun h => absurd rfl h) ?_
    clear hK K hrun hS1
    try simp only [Act.put, List.setIfInBounds_toArray, List.set_cons_zero, List.set_cons_succ]
    refine tail.till_done (by kernel_rfl) ?_ _
    have hkW : Keep mb W w1 := ⟨hos, htp, hout, Nat.le_of_eq hsz.symm, fun b _ hb => hblk b hb⟩
    have HKW := Lib.hid hkW
    have HM1 := Lib.hid hM1
    have HSV := Lib.hid hSV
    have HB0 := Lib.hid b0
    have HB1 := Lib.hid b1
    obtain ⟨g0, -, -, -, -⟩ := (hSV.keep hkW).cells
    clear hkW hM1 hMV hos htp hout hsz hblk hSV g4 b0 b1 hm
    go_wp2_with fail
    go_loopw [5, 27] (fun vo vi wr => ∃ (k : Nat) (ov : Bool) (Mk : List (Nat × Nat)), k ≤ n ∧ vi = .int .i64 k ∧ vo = .bool ov ∧ Hid (Keep mb W wr) ∧ Hid (MapAt wr mb Mk) ∧ Hid (LoopI L V Hd M left num k ov Mk)) (fun _ vi _ => n - (intOf vi).toNat)
    case atStart => exact ⟨0, true, _, Nat.zero_le _, rfl, rfl, HKW, HM1, Lib.hid (LoopI.start L V Hd M left num)⟩
    case round =>
      obtain ⟨k, ov, Mk, hk, rfl, rfl, HKK, HMK, HLI⟩ := hrel
      clear HKW HM1 g0
      by_cases hlt : k < n
      · have hSk := HSV.out.keep HKK.out
        obtain ⟨ad, d, rfl, hd, hc⟩ := hSk.call hlt
        obtain ⟨aa, hd2, rfl, hh2, hcc⟩ := hSk.ahead hlt
        obtain ⟨g0, g1, g2, g3, g4⟩ := hSk.cells
        obtain ⟨k0, k1, k2, k3, k4, k5, k6, k7, k8, k9, k10, k11, k12, k13, k14⟩ := hc.all
        have b0 := HKK.out.cell HB0.out hbx
        have b1 := HKK.out.cell HB1.out hbx
        have hi0 : (0 : Int) ≤ k := by omega
        have hi1 : (k : Int) < n := by omega
        have HD := Lib.hid hd
        have HH := Lib.hid hh2
        have hk60 : k < 64 := by have := HEN.out.big; omega
        have HPW := Lib.hid (show IntKind.u64.wrap ((2 : Int) ^ k) = ((2 ^ k : Nat) : Int) from by have := pow_wrap k hk60; rwa [Nat.min_eq_left (by omega)] at this)
        have hp64 : 2 ^ k < 18446744073709551616 := Nat.pow_lt_pow_right (n := 64) (by omega) hk60
        obtain ⟨pk, hpk⟩ : ∃ x, x = 2 ^ k := ⟨_, rfl⟩
        rw [← hpk] at HPW hp64
        have HPK := Lib.hid hpk
        have hw := HPW.out
        clear hc hSk hd hh2 hpk HPW
        go_wp2_with (rw [store_cx]; go_simp)
        have hbA : Below wr.heap.size wr (wr.alloc (.cells #[.int .i64 0, .int .i64 0, .int .i64 0, .int .i64 0, .int .i64 d.kind, .string d.key, .string d.val, .string d.old, .bool d.hold, .int .i64 d.fr, .int .i64 d.to, .int .i64 d.code, .string d.rv, .bool d.has, .complex .f64 0 0] 36)) := (Below.refl _ _).alloc (Nat.le_refl _) _
        have hrow := heap_alloc_new wr (.cells #[.int .i64 0, .int .i64 0, .int .i64 0, .int .i64 0, .int .i64 d.kind, .string d.key, .string d.val, .string d.old, .bool d.hold, .int .i64 d.fr, .int .i64 d.to, .int .i64 d.code, .string d.rv, .bool d.has, .complex .f64 0 0] 36)
        have HC15 := Lib.hid (show ∀ j, (wr.alloc (.cells #[.int .i64 0, .int .i64 0, .int .i64 0, .int .i64 0, .int .i64 d.kind, .string d.key, .string d.val, .string d.old, .bool d.hold, .int .i64 d.fr, .int .i64 d.to, .int .i64 d.code, .string d.rv, .bool d.has, .complex .f64 0 0] 36)).cell? ⟨wr.heap.size, j, none⟩ = (dnL d)[j]? from fun j => by rw [cell_of_row _ _ _ _ _ (0, 0) hrow]; simp [dnL])
        have HKA := Lib.hid (HKK.out.trans (Keep.of hbA (Nat.le_refl _)))
        have HMA := Lib.hid (HMK.out.below hbA (Nat.le_refl _))
        have HSA := Lib.hid (show SearchP (wr.alloc (.cells #[.int .i64 0, .int .i64 0, .int .i64 0, .int .i64 0, .int .i64 d.kind, .string d.key, .string d.val, .string d.old, .bool d.hold, .int .i64 d.fr, .int .i64 d.to, .int .i64 d.code, .string d.rv, .bool d.has, .complex .f64 0 0] 36)) sb mb n nv L V T Hd (some ad) cc Av cv At ct (some aa) ca from (HSV.out.keep HKK.out).keep (Keep.of hbA (Nat.le_refl _)))
        have HNB := Lib.hid (show wr.heap.size ≠ mb from by have := HMK.out.lt; omega)
        replace b0 := keepc b0 hbA
        replace b1 := keepc b1 hbA
        replace g1 := keepc g1 hbA
        replace g3 := keepc g3 hbA
        replace hcc := keepc hcc hbA
        clear hrow hbA k0 k1 k2 k3 k4 k5 k6 k7 k8 k9 k10 k11 k12 k13 k14 g0 g2 g4 HKK HMK
        generalize wr.alloc (.cells #[.int .i64 0, .int .i64 0, .int .i64 0, .int .i64 0, .int .i64 d.kind, .string d.key, .string d.val, .string d.old, .bool d.hold, .int .i64 d.fr, .int .i64 d.to, .int .i64 d.code, .string d.rv, .bool d.has, .complex .f64 0 0] 36) = W2 at HC15 HKA HMA HSA b0 b1 g1 g3 hcc ⊢
        obtain ⟨bd, hbd⟩ : ∃ x, x = wr.heap.size := ⟨_, rfl⟩
        rw [← hbd] at HC15 HNB ⊢
        clear hbd
        by_cases hbit : left.testBit k = true
        case neg =>
          have hbit' : left.testBit k = false := by simpa using hbit
          have hA : bits .and .u64 (left : Int) (pk : Int) = 0 := by rw [bits_and_u64_nat _ _ HL64.out hp64, HPK.out, (and_pow left k).2 hbit']; rfl
          have HST := Lib.hid (HLI.out.step HD.out (Mj := Mk) ov (by rw [hbit']; simp) (fun p hp => .inl hp) (fun hd v' _ e => absurd e (by rw [hbit']; simp)))
          go_quiet (fail)
          go_wp2_with fail
          go_roundw
          case rel => exact ⟨k + 1, ov, Mk, by omega, by go_num, rfl, Lib.hid (HKA.out.drewN _), Lib.hid (HMA.out.drewN _), HST⟩
          case measure => simp [intOf] <;> omega
        case pos =>
          obtain ⟨q, hq⟩ : ∃ q, q = left &&& pk := ⟨_, rfl⟩
          have hA : bits .and .u64 (left : Int) (pk : Int) = (q : Int) := by rw [bits_and_u64_nat _ _ HL64.out hp64, hq]
          have hq0 : ¬ q = 0 := by rw [hq, HPK.out]; intro e; have := (and_pow left k).1 e; rw [hbit] at this; cases this
          have HBIT := Lib.hid hbit
          have h15 := HC15.out
          have c0 := h15 0
          have c1 := h15 1
          have c2 := h15 2
          have c3 := h15 3
          have c4 := h15 4
          have c5 := h15 5
          have c6 := h15 6
          have c7 := h15 7
          have c8 := h15 8
          have c9 := h15 9
          have c10 := h15 10
          have c11 := h15 11
          have c12 := h15 12
          have c13 := h15 13
          have c14 := h15 14
          simp only [dnL, List.getElem?_cons_succ, List.getElem?_cons_zero] at c0 c1 c2 c3 c4 c5 c6 c7 c8 c9 c10 c11 c12 c13 c14
          clear hq hbit h15 HC15
          go_quiet (fail)
          cases ov
          · have HOV := Lib.hid (show false = (false && (!left.testBit k || !ans d)) from rfl)
            have HK3 := Lib.hid (HKA.out.drewN nq)
            have HM3 := Lib.hid (HMA.out.drewN nq)
            have HS3 := Lib.hid (show SearchP (W2.drewN nq) sb mb n nv L V T Hd (some ad) cc Av cv At ct (some aa) ca from HSA.out.keep ((Keep.refl mb W2).drewN nq))
            replace b0 : (W2.drewN nq).cell? ⟨bx, 0, none⟩ = some (.int .u64 (left : Int)) := b0
            replace b1 : (W2.drewN nq).cell? ⟨bx, 1, none⟩ = some (.int .i64 (num : Int)) := b1
            replace g3 : (W2.drewN nq).cell? ⟨sb, 3, none⟩ = some (.slice (some aa) n ca) := g3
            replace hcc : (W2.drewN nq).cell? (aa.add k) = some (.int .u64 (hd2 : Int)) := hcc
            clear c0 c1 c2 c3 c4 c5 c6 c7 c8 c9 c10 c11 c12 c13 c14 g1 HKA HMA HSA
            go_wp2_with fail
            generalize W2.drewN nq = W3 at HK3 HM3 HS3 b0 b1 g3 hcc ⊢
            obtain ⟨r, hr⟩ : ∃ r, r = left &&& hd2 := ⟨_, rfl⟩
            have hA2 : bits .and .u64 (left : Int) (hd2 : Int) = (r : Int) := by rw [bits_and_u64_nat _ _ HL64.out (HEN.out.hd _ _ HH.out), hr]
            have HRR := Lib.hid hr
            clear hr
            by_cases hr0 : r = 0
            case neg =>
              have HST := Lib.hid (HLI.out.step HD.out (Mj := Mk) false HOV.out (fun p hp => .inl hp) (fun hd v' e1 _ e3 => absurd e3 (by rw [HH.out] at e1; injection e1 with e1; subst e1; rw [← HRR.out]; exact hr0)))
              go_quiet (fail)
              go_wp2_with fail
              go_roundw
              case rel => exact ⟨k + 1, false, Mk, by omega, by go_num, rfl, Lib.hid (HK3.out.drewN _), Lib.hid (HM3.out.drewN _), HST⟩
              case measure => simp [intOf] <;> omega
            case pos =>
              subst hr0
              replace hA2 : bits .and .u64 (left : Int) (hd2 : Int) = 0 := hA2
              obtain ⟨t, ht, ht0, htn, htv⟩ := HEN.out.to k d HD.out
              obtain ⟨num2, hn2⟩ : ∃ x, x = numP d t num (valOf V num) := ⟨_, rfl⟩
              obtain ⟨okb, hok⟩ : ∃ x, x = (doesP d (valOf V num)).2 := ⟨_, rfl⟩
              have hn2v : num2 < nv := by rw [hn2]; exact numP_lt _ htn hnv
              have HV2 := Lib.hid (show valOf V num2 = (doesP d (valOf V num)).1 from by rw [hn2]; exact numP_val ht0 htv)
              have HDO := Lib.hid (show ∀ nq, Calls Try.prog 19 #[.pointer (some ⟨sb, 0, none⟩), .int .i64 k, .int .i64 num] (W3.drewN nq) fun e w' => e = .returned (.tuple #[.int .i64 (num2 : Int), .bool okb]) ∧ Below (W3.drewN nq).heap.size (W3.drewN nq) w' from fun nq => by
                have := does_any (W3.drewN nq) (HS3.out.keep ((Keep.refl mb W3).drewN nq)) hlt hnv HD.out ht ⟨by have := HEN.out.big; omega, HEN.out.big.2⟩
                rw [← hn2, ← hok] at this
                exact this)
              have HOK := Lib.hid hok
              clear ht ht0 htn htv hn2 hok
              go_quiet (fail)
              go_wp2_with fail
              refine (HDO.out _).mono ?_
              rintro e W5 ⟨rfl, hb5⟩
              replace hb5 : Below W3.heap.size W3 W5 := (below_drewN (Below.refl _ _) _).trans hb5
              have HK5 := Lib.hid (HK3.out.trans (Keep.of hb5 (Nat.le_refl _)))
              have HM5 := Lib.hid (HM3.out.below hb5 (Nat.le_refl _))
              have HS5 := Lib.hid (HS3.out.keep (Keep.of hb5 (Nat.le_refl _)))
              replace b0 := keepc b0 hb5
              clear b1 g3 hcc hb5 HDO HK3 HM3 HS3 hA2
              cases okb
              case false =>
                have HST := Lib.hid (HLI.out.step HD.out (Mj := Mk) false HOV.out (fun p hp => .inl hp) (fun hd v' _ _ _ e4 => by have := HOK.out; rw [e4] at this; cases this))
                go_wp2_with fail
                go_quiet (fail)
                go_wp2_with fail
                go_roundw
                case rel => exact ⟨k + 1, false, Mk, by omega, by go_num, rfl, Lib.hid (HK5.out.drewN _), Lib.hid (HM5.out.drewN _), HST⟩
                case measure => simp [intOf] <;> omega
              case true =>
                obtain ⟨cl, hcl⟩ : ∃ x, x = clr left k := ⟨_, rfl⟩
                have hB : bits .andNot .u64 (left : Int) (pk : Int) = (cl : Int) := by rw [HPK.out, bits_clr _ _ HBIT.out HL64.out hk60, hcl]
                have HCL := Lib.hid (show cl = clr left k ∧ cl < left from ⟨hcl, by rw [hcl]; exact clr_lt HBIT.out⟩)
                have HI := Lib.hid (HIH.out cl HCL.out.2 W5.drew Mk num2 (HS5.out.keep ((Keep.refl mb W5).drewN 1)) (HM5.out.drewN 1) (by have := HL64.out; have := HCL.out.2; omega) hn2v (fun p hp => by
                  rcases HLI.out.1 p hp with h | h | h
                  · rcases HME.out p h with h | h
                    · exact .inl h
                    · exact .inr (Nat.lt_trans HCL.out.2 h)
                  · rw [h]; exact .inr HCL.out.2
                  · exact .inl h))
                clear hcl
                go_wp2_with fail
                have hS0 : (fun X : World => X.cell? ⟨bx, 0, none⟩ = some (.int .u64 (left : Int))) W5.drew := b0
                refine tail.wp_region_till 11 (fun X : World => X.cell? ⟨bx, 0, none⟩ = some (.int .u64 (left : Int))) (by kernel_rfl) ?_
                (refine tail.till_take 0 (v := ?_) rfl (by kernel_rfl) (by kernel_rfl) (by kernel_rfl) (by kernel_rfl) (by kernel_rfl) (fun _ _ _ h => h) (by rfl) (by assumption) ?_ ?_; rotate_left 1; (focus (intro X hX; have s1 := hX; go_simp; with_reducible rfl)); (try simp only [Act.put, List.setIfInBounds_toArray, List.set_cons_zero, List.set_cons_succ]))
                (refine tail.till_take 1 (v := ?_) rfl (by kernel_rfl) (by kernel_rfl) (by kernel_rfl) (by kernel_rfl) (by kernel_rfl) (fun _ _ _ h => h) (by rfl) (by assumption) ?_ ?_; rotate_left 1; (focus (intro X hX; have s1 := hX; go_simp; with_reducible rfl)); (try simp only [Act.put, List.setIfInBounds_toArray, List.set_cons_zero, List.set_cons_succ]))
                (refine tail.till_take 2 (v := ?_) rfl (by kernel_rfl) (by kernel_rfl) (by kernel_rfl) (by kernel_rfl) (by kernel_rfl) (fun _ _ _ h => h) (by rfl) (by assumption) ?_ ?_; rotate_left 1; (focus (intro X hX; have s1 := hX; go_simp; with_reducible rfl)); (try simp only [Act.put, List.setIfInBounds_toArray, List.set_cons_zero, List.set_cons_succ]))
                (refine tail.till_take 3 (v := ?_) rfl (by kernel_rfl) (by kernel_rfl) (by kernel_rfl) (by kernel_rfl) (by kernel_rfl) (fun _ _ _ h => h) (by rfl) (by assumption) ?_ ?_; rotate_left 1; (focus (intro X hX; have s1 := hX; go_simp; with_reducible rfl)); (try simp only [Act.put, List.setIfInBounds_toArray, List.set_cons_zero, List.set_cons_succ]))
                (refine tail.till_take 4 (v := ?_) rfl (by kernel_rfl) (by kernel_rfl) (by kernel_rfl) (by kernel_rfl) (by kernel_rfl) (fun _ _ _ h => h) (by rfl) (by assumption) ?_ ?_; rotate_left 1; (focus (intro X hX; have s1 := hX; go_simp; with_reducible rfl)); (try simp only [Act.put, List.setIfInBounds_toArray, List.set_cons_zero, List.set_cons_succ]))
                (refine tail.till_take 5 (v := ?_) rfl (by kernel_rfl) (by kernel_rfl) (by kernel_rfl) (by kernel_rfl) (by kernel_rfl) (fun _ _ _ h => h) (by rfl) (by assumption) ?_ ?_; rotate_left 1; (focus (intro X hX; have s1 := hX; go_simp; with_reducible rfl)); (try simp only [Act.put, List.setIfInBounds_toArray, List.set_cons_zero, List.set_cons_succ]))
                (refine tail.till_take 6 (v := ?_) rfl (by kernel_rfl) (by kernel_rfl) (by kernel_rfl) (by kernel_rfl) (by kernel_rfl) (fun _ _ _ h => h) (by rfl) (by assumption) ?_ ?_; rotate_left 1; (focus (intro X hX; have s1 := hX; go_simp; with_reducible rfl)); (try simp only [Act.put, List.setIfInBounds_toArray, List.set_cons_zero, List.set_cons_succ]))
                (refine tail.till_take 7 (v := ?_) rfl (by kernel_rfl) (by kernel_rfl) (by kernel_rfl) (by kernel_rfl) (by kernel_rfl) (fun _ _ _ h => h) (by rfl) (by assumption) ?_ ?_; rotate_left 1; (focus (intro X hX; have s1 := hX; go_simp; with_reducible rfl)); (try simp only [Act.put, List.setIfInBounds_toArray, List.set_cons_zero, List.set_cons_succ]))
                (refine tail.till_take 8 (v := ?_) rfl (by kernel_rfl) (by kernel_rfl) (by kernel_rfl) (by kernel_rfl) (by kernel_rfl) (fun _ _ _ h => h) (by rfl) (by assumption) ?_ ?_; rotate_left 1; (focus (intro X hX; have s1 := hX; go_simp; with_reducible rfl)); (try simp only [Act.put, List.setIfInBounds_toArray, List.set_cons_zero, List.set_cons_succ]))
                (refine tail.till_take 9 (v := ?_) rfl (by kernel_rfl) (by kernel_rfl) (by kernel_rfl) (by kernel_rfl) (by kernel_rfl) (fun _ _ _ h => h) (by rfl) (by assumption) ?_ ?_; rotate_left 1; (focus (intro X hX; have s1 := hX; go_simp; with_reducible rfl)); (try simp only [Act.put, List.setIfInBounds_toArray, List.set_cons_zero, List.set_cons_succ]))
                refine tail.till_one 10 (by kernel_rfl) rfl (fun K hK => ?_)
                go_simp
                go_at_call 13
                refine HI.out.mono ?_
                intro e6 w6 hh
                obtain ⟨bb, M6, rfl, hk6, hM6, ht6, hf6⟩ := hh
                have hk6' : Keep mb W5 w6 := ((Keep.refl mb W5).drewN 1).trans hk6
                have hS6 : (fun X : World => X.cell? ⟨bx, 0, none⟩ = some (.int .u64 (left : Int))) w6 := hk6'.cell b0 hbx
                have HK6 := Lib.hid (HK5.out.trans hk6')
                have HM6 := Lib.hid hM6
                have HT6 := Lib.hid (show (bb = true → Alive L Hd cl (valOf V num2)) ∧ (bb = false → ¬ Alive L Hd cl (valOf V num2) ∧ ∀ p ∈ M6, p ∈ Mk ∨ ¬ Alive L Hd p.1 (valOf V p.2)) from ⟨ht6, hf6⟩)
                clear ht6 hf6 hk6 hk6' hM6 hS0
                refine hK.out _ _ (fun _ => hS6) ?_
                clear hK K
                try simp only [Act.put, List.setIfInBounds_toArray, List.set_cons_zero, List.set_cons_succ]
                refine tail.till_one 11 (by kernel_rfl) rfl (fun K hK => ?_)
                go_simp
                refine hK.out _ _ (fun h => absurd rfl h) ?_
                clear hK K hS6
                try simp only [Act.put, List.setIfInBounds_toArray, List.set_cons_zero, List.set_cons_succ]
                refine tail.till_done (by kernel_rfl) ?_ _
                cases bb
                case false =>
                  have HST := Lib.hid (HLI.out.step HD.out (Mj := M6) false HOV.out (HT6.out.2 rfl).2 (fun hd v' _ _ _ e4 => by
                    have h1 := HV2.out
                    rw [e4] at h1
                    rw [← HCL.out.1, ← show valOf V num2 = v' from h1]
                    exact (HT6.out.2 rfl).1))
                  go_wp2_with fail
                  go_roundw
                  case rel => exact ⟨k + 1, false, M6, by omega, by go_num, rfl, HK6, HM6, HST⟩
                  case measure => simp [intOf] <;> omega
                case true =>
                  have HF := Lib.hid (show RGoes w mb L V Hd M left num (.returned (.bool true)) w6 from ⟨true, M6, rfl, HW.out.trans HK6.out, HM6.out, fun _ => .lay HD.out HH.out HBIT.out HRR.out.symm (show doesP d (valOf V num) = (valOf V num2, true) from by rw [HV2.out]; exact Prod.ext rfl HOK.out.symm) (by rw [← HCL.out.1]; exact HT6.out.1 rfl), fun h => (by cases h)⟩)
                  go_wp2_with fail
                  refine bodyPost_ret (v := .bool true) (by simp [results, Try.results13]) rfl ?_
                  exact HF.out
          · go_wp2_with fail
            refine (answered_any (W2.drewN nq) d).mono ?_
            rintro e W3 ⟨rfl, hb3⟩
            replace hb3 : Below W2.heap.size W2 W3 := (below_drewN (Below.refl _ _) nq).trans hb3
            obtain ⟨an, han⟩ : ∃ x, x = ans d := ⟨_, rfl⟩
            have HOV := Lib.hid (show (!an) = (true && (!left.testBit k || !ans d)) from by rw [han, HBIT.out]; simp)
            rw [← han]
            have HK3 := Lib.hid (HKA.out.trans (Keep.of hb3 (Nat.le_refl _)))
            have HM3 := Lib.hid (HMA.out.below hb3 (Nat.le_refl _))
            have HS3 := Lib.hid (HSA.out.keep (Keep.of hb3 (Nat.le_refl _)))
            replace b0 := keepc b0 hb3
            replace b1 := keepc b1 hb3
            replace g3 := keepc g3 hb3
            replace hcc := keepc hcc hb3
            clear c0 c1 c2 c3 c4 c5 c6 c7 c8 c9 c10 c11 c12 c13 c14 g1 HKA HMA HSA hb3 han
            go_wp2_with fail
            obtain ⟨r, hr⟩ : ∃ r, r = left &&& hd2 := ⟨_, rfl⟩
            have hA2 : bits .and .u64 (left : Int) (hd2 : Int) = (r : Int) := by rw [bits_and_u64_nat _ _ HL64.out (HEN.out.hd _ _ HH.out), hr]
            have HRR := Lib.hid hr
            clear hr
            by_cases hr0 : r = 0
            case neg =>
              have HST := Lib.hid (HLI.out.step HD.out (Mj := Mk) (!an) HOV.out (fun p hp => .inl hp) (fun hd v' e1 _ e3 => absurd e3 (by rw [HH.out] at e1; injection e1 with e1; subst e1; rw [← HRR.out]; exact hr0)))
              go_quiet (fail)
              go_wp2_with fail
              go_roundw
              case rel => exact ⟨k + 1, (!an), Mk, by omega, by go_num, rfl, Lib.hid (HK3.out.drewN _), Lib.hid (HM3.out.drewN _), HST⟩
              case measure => simp [intOf] <;> omega
            case pos =>
              subst hr0
              replace hA2 : bits .and .u64 (left : Int) (hd2 : Int) = 0 := hA2
              obtain ⟨t, ht, ht0, htn, htv⟩ := HEN.out.to k d HD.out
              obtain ⟨num2, hn2⟩ : ∃ x, x = numP d t num (valOf V num) := ⟨_, rfl⟩
              obtain ⟨okb, hok⟩ : ∃ x, x = (doesP d (valOf V num)).2 := ⟨_, rfl⟩
              have hn2v : num2 < nv := by rw [hn2]; exact numP_lt _ htn hnv
              have HV2 := Lib.hid (show valOf V num2 = (doesP d (valOf V num)).1 from by rw [hn2]; exact numP_val ht0 htv)
              have HDO := Lib.hid (show ∀ nq, Calls Try.prog 19 #[.pointer (some ⟨sb, 0, none⟩), .int .i64 k, .int .i64 num] (W3.drewN nq) fun e w' => e = .returned (.tuple #[.int .i64 (num2 : Int), .bool okb]) ∧ Below (W3.drewN nq).heap.size (W3.drewN nq) w' from fun nq => by
                have := does_any (W3.drewN nq) (HS3.out.keep ((Keep.refl mb W3).drewN nq)) hlt hnv HD.out ht ⟨by have := HEN.out.big; omega, HEN.out.big.2⟩
                rw [← hn2, ← hok] at this
                exact this)
              have HOK := Lib.hid hok
              clear ht ht0 htn htv hn2 hok
              go_quiet (fail)
              go_wp2_with fail
              refine (HDO.out _).mono ?_
              rintro e W5 ⟨rfl, hb5⟩
              replace hb5 : Below W3.heap.size W3 W5 := (below_drewN (Below.refl _ _) _).trans hb5
              have HK5 := Lib.hid (HK3.out.trans (Keep.of hb5 (Nat.le_refl _)))
              have HM5 := Lib.hid (HM3.out.below hb5 (Nat.le_refl _))
              have HS5 := Lib.hid (HS3.out.keep (Keep.of hb5 (Nat.le_refl _)))
              replace b0 := keepc b0 hb5
              clear b1 g3 hcc hb5 HDO HK3 HM3 HS3 hA2
              cases okb
              case false =>
                have HST := Lib.hid (HLI.out.step HD.out (Mj := Mk) (!an) HOV.out (fun p hp => .inl hp) (fun hd v' _ _ _ e4 => by have := HOK.out; rw [e4] at this; cases this))
                go_wp2_with fail
                go_quiet (fail)
                go_wp2_with fail
                go_roundw
                case rel => exact ⟨k + 1, (!an), Mk, by omega, by go_num, rfl, Lib.hid (HK5.out.drewN _), Lib.hid (HM5.out.drewN _), HST⟩
                case measure => simp [intOf] <;> omega
              case true =>
                obtain ⟨cl, hcl⟩ : ∃ x, x = clr left k := ⟨_, rfl⟩
                have hB : bits .andNot .u64 (left : Int) (pk : Int) = (cl : Int) := by rw [HPK.out, bits_clr _ _ HBIT.out HL64.out hk60, hcl]
                have HCL := Lib.hid (show cl = clr left k ∧ cl < left from ⟨hcl, by rw [hcl]; exact clr_lt HBIT.out⟩)
                have HI := Lib.hid (HIH.out cl HCL.out.2 W5.drew Mk num2 (HS5.out.keep ((Keep.refl mb W5).drewN 1)) (HM5.out.drewN 1) (by have := HL64.out; have := HCL.out.2; omega) hn2v (fun p hp => by
                  rcases HLI.out.1 p hp with h | h | h
                  · rcases HME.out p h with h | h
                    · exact .inl h
                    · exact .inr (Nat.lt_trans HCL.out.2 h)
                  · rw [h]; exact .inr HCL.out.2
                  · exact .inl h))
                clear hcl
                go_wp2_with fail
                have hS0 : (fun X : World => X.cell? ⟨bx, 0, none⟩ = some (.int .u64 (left : Int))) W5.drew := b0
                refine tail.wp_region_till 11 (fun X : World => X.cell? ⟨bx, 0, none⟩ = some (.int .u64 (left : Int))) (by kernel_rfl) ?_
                (refine tail.till_take 0 (v := ?_) rfl (by kernel_rfl) (by kernel_rfl) (by kernel_rfl) (by kernel_rfl) (by kernel_rfl) (fun _ _ _ h => h) (by rfl) (by assumption) ?_ ?_; rotate_left 1; (focus (intro X hX; have s1 := hX; go_simp; with_reducible rfl)); (try simp only [Act.put, List.setIfInBounds_toArray, List.set_cons_zero, List.set_cons_succ]))
                (refine tail.till_take 1 (v := ?_) rfl (by kernel_rfl) (by kernel_rfl) (by kernel_rfl) (by kernel_rfl) (by kernel_rfl) (fun _ _ _ h => h) (by rfl) (by assumption) ?_ ?_; rotate_left 1; (focus (intro X hX; have s1 := hX; go_simp; with_reducible rfl)); (try simp only [Act.put, List.setIfInBounds_toArray, List.set_cons_zero, List.set_cons_succ]))
                (refine tail.till_take 2 (v := ?_) rfl (by kernel_rfl) (by kernel_rfl) (by kernel_rfl) (by kernel_rfl) (by kernel_rfl) (fun _ _ _ h => h) (by rfl) (by assumption) ?_ ?_; rotate_left 1; (focus (intro X hX; have s1 := hX; go_simp; with_reducible rfl)); (try simp only [Act.put, List.setIfInBounds_toArray, List.set_cons_zero, List.set_cons_succ]))
                (refine tail.till_take 3 (v := ?_) rfl (by kernel_rfl) (by kernel_rfl) (by kernel_rfl) (by kernel_rfl) (by kernel_rfl) (fun _ _ _ h => h) (by rfl) (by assumption) ?_ ?_; rotate_left 1; (focus (intro X hX; have s1 := hX; go_simp; with_reducible rfl)); (try simp only [Act.put, List.setIfInBounds_toArray, List.set_cons_zero, List.set_cons_succ]))
                (refine tail.till_take 4 (v := ?_) rfl (by kernel_rfl) (by kernel_rfl) (by kernel_rfl) (by kernel_rfl) (by kernel_rfl) (fun _ _ _ h => h) (by rfl) (by assumption) ?_ ?_; rotate_left 1; (focus (intro X hX; have s1 := hX; go_simp; with_reducible rfl)); (try simp only [Act.put, List.setIfInBounds_toArray, List.set_cons_zero, List.set_cons_succ]))
                (refine tail.till_take 5 (v := ?_) rfl (by kernel_rfl) (by kernel_rfl) (by kernel_rfl) (by kernel_rfl) (by kernel_rfl) (fun _ _ _ h => h) (by rfl) (by assumption) ?_ ?_; rotate_left 1; (focus (intro X hX; have s1 := hX; go_simp; with_reducible rfl)); (try simp only [Act.put, List.setIfInBounds_toArray, List.set_cons_zero, List.set_cons_succ]))
                (refine tail.till_take 6 (v := ?_) rfl (by kernel_rfl) (by kernel_rfl) (by kernel_rfl) (by kernel_rfl) (by kernel_rfl) (fun _ _ _ h => h) (by rfl) (by assumption) ?_ ?_; rotate_left 1; (focus (intro X hX; have s1 := hX; go_simp; with_reducible rfl)); (try simp only [Act.put, List.setIfInBounds_toArray, List.set_cons_zero, List.set_cons_succ]))
                (refine tail.till_take 7 (v := ?_) rfl (by kernel_rfl) (by kernel_rfl) (by kernel_rfl) (by kernel_rfl) (by kernel_rfl) (fun _ _ _ h => h) (by rfl) (by assumption) ?_ ?_; rotate_left 1; (focus (intro X hX; have s1 := hX; go_simp; with_reducible rfl)); (try simp only [Act.put, List.setIfInBounds_toArray, List.set_cons_zero, List.set_cons_succ]))
                (refine tail.till_take 8 (v := ?_) rfl (by kernel_rfl) (by kernel_rfl) (by kernel_rfl) (by kernel_rfl) (by kernel_rfl) (fun _ _ _ h => h) (by rfl) (by assumption) ?_ ?_; rotate_left 1; (focus (intro X hX; have s1 := hX; go_simp; with_reducible rfl)); (try simp only [Act.put, List.setIfInBounds_toArray, List.set_cons_zero, List.set_cons_succ]))
                (refine tail.till_take 9 (v := ?_) rfl (by kernel_rfl) (by kernel_rfl) (by kernel_rfl) (by kernel_rfl) (by kernel_rfl) (fun _ _ _ h => h) (by rfl) (by assumption) ?_ ?_; rotate_left 1; (focus (intro X hX; have s1 := hX; go_simp; with_reducible rfl)); (try simp only [Act.put, List.setIfInBounds_toArray, List.set_cons_zero, List.set_cons_succ]))
                refine tail.till_one 10 (by kernel_rfl) rfl (fun K hK => ?_)
                go_simp
                go_at_call 13
                refine HI.out.mono ?_
                intro e6 w6 hh
                obtain ⟨bb, M6, rfl, hk6, hM6, ht6, hf6⟩ := hh
                have hk6' : Keep mb W5 w6 := ((Keep.refl mb W5).drewN 1).trans hk6
                have hS6 : (fun X : World => X.cell? ⟨bx, 0, none⟩ = some (.int .u64 (left : Int))) w6 := hk6'.cell b0 hbx
                have HK6 := Lib.hid (HK5.out.trans hk6')
                have HM6 := Lib.hid hM6
                have HT6 := Lib.hid (show (bb = true → Alive L Hd cl (valOf V num2)) ∧ (bb = false → ¬ Alive L Hd cl (valOf V num2) ∧ ∀ p ∈ M6, p ∈ Mk ∨ ¬ Alive L Hd p.1 (valOf V p.2)) from ⟨ht6, hf6⟩)
                clear ht6 hf6 hk6 hk6' hM6 hS0
                refine hK.out _ _ (fun _ => hS6) ?_
                clear hK K
                try simp only [Act.put, List.setIfInBounds_toArray, List.set_cons_zero, List.set_cons_succ]
                refine tail.till_one 11 (by kernel_rfl) rfl (fun K hK => ?_)
                go_simp
                refine hK.out _ _ (fun h => absurd rfl h) ?_
                clear hK K hS6
                try simp only [Act.put, List.setIfInBounds_toArray, List.set_cons_zero, List.set_cons_succ]
                refine tail.till_done (by kernel_rfl) ?_ _
                cases bb
                case false =>
                  have HST := Lib.hid (HLI.out.step HD.out (Mj := M6) (!an) HOV.out (HT6.out.2 rfl).2 (fun hd v' _ _ _ e4 => by
                    have h1 := HV2.out
                    rw [e4] at h1
                    rw [← HCL.out.1, ← show valOf V num2 = v' from h1]
                    exact (HT6.out.2 rfl).1))
                  go_wp2_with fail
                  go_roundw
                  case rel => exact ⟨k + 1, (!an), M6, by omega, by go_num, rfl, HK6, HM6, HST⟩
                  case measure => simp [intOf] <;> omega
                case true =>
                  have HF := Lib.hid (show RGoes w mb L V Hd M left num (.returned (.bool true)) w6 from ⟨true, M6, rfl, HW.out.trans HK6.out, HM6.out, fun _ => .lay HD.out HH.out HBIT.out HRR.out.symm (show doesP d (valOf V num) = (valOf V num2, true) from by rw [HV2.out]; exact Prod.ext rfl HOK.out.symm) (by rw [← HCL.out.1]; exact HT6.out.1 rfl), fun h => (by cases h)⟩)
                  go_wp2_with fail
                  refine bodyPost_ret (v := .bool true) (by simp [results, Try.results13]) rfl ?_
                  exact HF.out
      · obtain rfl : k = n := by omega
        have hkk := HKK.out
        have hfin := HLI.out.done HSV.out.hn
        have HF := Lib.hid (show ∀ w', Keep mb wr w' → w'.heap = wr.heap → RGoes w mb L V Hd M left num (.returned (.bool ov)) w' from fun w' hk he => ⟨ov, Mk, rfl, HW.out.trans (hkk.trans hk), by obtain ⟨es, c, h1, h2⟩ := HMK.out; exact ⟨es, c, by rw [he]; exact h1, h2⟩, hfin.1, hfin.2⟩)
        clear hlt hkk hfin HKK HMK HLI
        go_wp2_with fail
        refine bodyPost_ret (v := .bool ov) (by simp [results, Try.results13]) rfl ?_
        exact HF.out _ (Keep.refl _ _) rfl
end Go.Proofs.Ytabjkmennijaeaa.hs
