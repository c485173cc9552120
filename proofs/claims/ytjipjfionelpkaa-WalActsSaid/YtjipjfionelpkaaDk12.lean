/- What Crash of a disk does. -/
import Derived.Test.YtjipjfionelpkaaDk11
namespace Go.Proofs.Ytjipjfionelpkaa.dk
open Go.RowKit Go.Proofs.Ytjipjfionelpkaa.lib Go.Proofs.Ytjipjfionelpkaa.byt
set_option linter.unusedVariables false

theorem rd_take {w : World} {B : Nat} {A : Option Addr} {bs : List UInt8} (h : RdB w B A bs) {m : Nat} (hm : m ≤ bs.length) : RdB w B A (bs.take m) := by
  have hl : (bs.take m).length = m := by rw [List.length_take]; omega
  refine ⟨by rw [bytesV_length, Nat.mul_one], fun h0 => ?_⟩
  obtain ⟨ad, e, hb, hc⟩ := h.2 (by omega)
  refine ⟨ad, e, hb, fun j u hu => hc j u ?_⟩
  have hj : j < m := by
    have := (List.getElem?_eq_some_iff.1 hu).1
    rwa [bytesV_length, hl] at this
  rw [← hu]
  simp only [bytesV, List.map_take]
  rw [List.getElem?_take_of_lt hj]

theorem last_len {s : DS} (keep torn : Int) (hs : LongOk s 0) (j : Nat) (hj : j < 4) : ((lastS s keep torn).by_ j).length ≤ 1099511627776 := by
  have h0 := hs.1 j hj
  have hk0 : tot (s.lo.take (keepN s keep)) ≤ tot s.lo := by
    by_cases hk : keepN s keep < s.lo.length
    · have := tot_take s.lo _ hk; omega
    · rw [List.take_of_length_le (by omega)]; exact Nat.le_refl _
  have h1 := foldS_len 0 (s.lo.take (keepN s keep)) s j
  unfold lastS
  cases e : s.lo[keepN s keep]? with
  | none => simp only; omega
  | some p =>
    simp only
    split
    · obtain ⟨hk, hp⟩ := List.getElem?_eq_some_iff.1 e
      have h2 := tot_take s.lo _ hk
      have h3 := doS_len 0 (foldS 0 s (s.lo.take (keepN s keep))) (0, p.2.1, cutB torn p.2.2) j
      have h4 : (cutB torn p.2.2).length ≤ p.2.2.length := by unfold cutB; simp only [List.length_take]; omega
      rw [hp] at h2
      simp only at h3
      omega
    · omega
theorem last_cut {s : DS} {keep torn : Int} {kk : Nat} (hk : kk = keepN s keep) (h : kk < s.lo.length) {a b : Int} {bs : List UInt8} (hp : s.lo[kk] = (a, b, bs)) (h0 : a = 0) : doS 0 (foldS 0 s (s.lo.take kk)) (0, b, cutB torn bs) = lastS s keep torn := by
  subst hk h0
  unfold lastS
  rw [List.getElem?_eq_getElem h, hp]
  rfl
theorem last_uncut {s : DS} {keep torn : Int} {kk : Nat} (hk : kk = keepN s keep) (h : kk < s.lo.length) {a b : Int} {bs : List UInt8} (hp : s.lo[kk] = (a, b, bs)) (h0 : a ≠ 0) : foldS 0 s (s.lo.take kk) = lastS s keep torn := by
  subst hk
  unfold lastS
  rw [List.getElem?_eq_getElem h, hp]
  simp only [h0, if_false]
theorem last_all {s : DS} {keep torn : Int} {kk : Nat} (hk : kk = keepN s keep) (h : s.lo.length ≤ kk) : foldS 0 s (s.lo.take kk) = lastS s keep torn := by
  subst hk
  unfold lastS
  rw [List.getElem?_eq_none h]

set_option maxRecDepth 10000 in
set_option maxHeartbeats 16000000 in
theorem crash_any (w : World) {F G : Nat → Prop} {d : Nat} {s : DS} (h : DiskM w F G d s) (hs : LongOk s 0) (keep torn : Int) :
    Calls Try.prog 15 #[.pointer (some ⟨d, 0, none⟩), .int .i64 keep, .int .i64 torn] w fun e w' => e = .returned (.tuple #[]) ∧ DiskM w' F G d (crashS s keep torn) ∧ BelF F w w' := by
  obtain ⟨hdl, hBd, -⟩ := h.lt
  obtain ⟨A, c, AL, cL, H, hP⟩ := h
  obtain ⟨n, hn⟩ : ∃ n, n = s.lo.length := ⟨_, rfl⟩
  have c6 : w.cell? ⟨d, 6, none⟩ = some (.slice AL n cL) := by rw [cell_d hP, hn]; rfl
  have hnl : n ≤ 1099511627770 := by rw [hn]; exact hs.2.1
  have hncap : n ≤ cL := by
    rcases hP.row.2 with ⟨e, h0⟩ | ⟨g, cap, cur, e, _, _, hle, _⟩
    · omega
    · injection e with _ _ e3
      omega
  obtain ⟨kk, hkk⟩ : ∃ k, k = keepN s keep := ⟨_, rfl⟩
  have hkn : kk ≤ n := by rw [hkk, hn]; unfold keepN; omega
  have hcase : (0 ≤ keep ∧ keep ≤ n ∧ keep = kk) ∨ (keep < 0 ∧ kk = 0) ∨ ((n : Int) < keep ∧ 0 ≤ keep ∧ kk = n) := by rw [hkk, hn]; unfold keepN; omega
  have hlast0 := fun j hj => last_len keep torn hs j hj
  have hcutL := fun (h0 : kk < s.lo.length) a b bs => last_cut (torn := torn) hkk h0 (a := a) (b := b) (bs := bs)
  have huncL := fun (h0 : kk < s.lo.length) a b bs => last_uncut (torn := torn) hkk h0 (a := a) (b := b) (bs := bs)
  have hallL := last_all (torn := torn) hkk
  unfold crashS
  generalize lastS s keep torn = S at hlast0 hcutL huncL hallL ⊢
  have HLN := Lib.hid hlast0
  have HCUT := Lib.hid hcutL
  have HUNC := Lib.hid huncL
  have HALL := Lib.hid hallL
  clear hlast0 hcutL huncL hallL
  have HP := Lib.hid hP
  have HS := Lib.hid hs
  have HN := Lib.hid hn
  have HK := Lib.hid hkk
  clear hP hs hn hkk
  rcases hcase with ⟨k1, k2, k3⟩ | ⟨k1, k2⟩ | ⟨k1, k2, k3⟩
  · obtain rfl := k3
    go_enter Try.func15, Try.ntmps15
    go_wp2_with fail
    go_loopw [24] (fun vi wr => ∃ (k : Nat) (A' : Nat → Option Addr) (c' : Nat → Nat), k ≤ kk ∧ vi = .int .i64 k ∧ Hid (DiskP wr F G d (foldS 0 s (s.lo.take k)) A' c' AL cL H) ∧ BelF F w wr ∧ w.heap.size ≤ wr.heap.size) (fun vi _ => kk - (intOf vi).toNat)
    case atStart => exact ⟨0, A, c, Nat.zero_le _, rfl, HP, BelF.refl _ _, Nat.le_refl _⟩
    case round =>
      obtain ⟨k, A', c', hk, rfl, HKK, hb, hsz⟩ := hrel
      by_cases hlt : k < kk
      · have hkl : k < s.lo.length := by have := HN.out; omega
        obtain ⟨l1, l2, l3, l4⟩ := foldS_same 0 (s.lo.take k) s
        have hkf : k < (foldS 0 s (s.lo.take k)).lo.length := by rw [l1]; exact hkl
        obtain ⟨g, Ab, cb, eA, hgl, r1, r2, r3, he⟩ := HKK.out.rowAt hkf
        subst eA
        have heq : (foldS 0 s (s.lo.take k)).lo[k]'hkf = s.lo[k] := by simp only [l1]; try rfl
        rw [heq] at r1 r2 r3 he
        obtain ⟨p1, p2, b, hp⟩ : ∃ x y z, s.lo[k] = (x, y, z) := ⟨_, _, _, rfl⟩
        obtain ⟨m, hm⟩ : ∃ m, m = b.length := ⟨_, rfl⟩
        have hgood := HS.out.2.2 k hkl
        rw [hp] at r1 r2 r3 he hgood
        simp only at r1 r2 r3 he
        rw [← hm] at r3 he
        have hbA : Below wr.heap.size wr (wr.alloc (.cells #[.int .i64 p1, .int .i64 p2, .slice Ab m cb] 79)) := (Below.refl _ _).alloc (Nat.le_refl _) _
        have hbD : Below wr.heap.size wr (wr.alloc (.cells #[.int .i64 p1, .int .i64 p2, .slice Ab m cb] 79)).drew := below_drew hbA
        have v0 : (wr.alloc (.cells #[.int .i64 p1, .int .i64 p2, .slice Ab m cb] 79)).cell? ⟨wr.heap.size, 0, none⟩ = some (.int .i64 p1) := by simp
        have v1 : (wr.alloc (.cells #[.int .i64 p1, .int .i64 p2, .slice Ab m cb] 79)).cell? ⟨wr.heap.size, 1, none⟩ = some (.int .i64 p2) := by simp
        have v2 : (wr.alloc (.cells #[.int .i64 p1, .int .i64 p2, .slice Ab m cb] 79)).cell? ⟨wr.heap.size, 2, none⟩ = some (.slice Ab m cb) := by simp
        obtain ⟨Ai, ci, e1, hrb, -⟩ := he.below hbD (Nat.le_refl _)
        injection e1 with e1 e4 e3
        subst e1 e3
        clear e4
        have hlen := foldS_len 0 (s.lo.take k) s (0 + p2.toNat)
        have htt := tot_take s.lo k hkl
        rw [hp] at htt
        have hp2 : 0 + p2.toNat < 4 := by rcases hgood.2 with e | e <;> simp only at e <;> omega
        have hsk := HS.out.1 (0 + p2.toNat) hp2
        have hDo := do_any (wr.alloc (.cells #[.int .i64 p1, .int .i64 p2, .slice Ab m cb] 79)).drew (HKK.out.below hbD (Nat.le_refl _)) 0 (.inl rfl) (p1, p2, b) hgood hm hrb (Nat.le_refl _) (by simp only at htt ⊢; omega) 0 rfl (cb := cb)
        have HDO := Lib.hid hDo
        have hnx : foldS 0 s (s.lo.take (k + 1)) = doS 0 (foldS 0 s (s.lo.take k)) (p1, p2, b) := by rw [← List.take_append_getElem hkl, foldS_snoc, hp]
        have HNX := Lib.hid hnx
        have hbB : BelF F wr (wr.alloc (.cells #[.int .i64 p1, .int .i64 p2, .slice Ab m cb] 79)).drew := BelF.of hbD (Nat.le_refl _)
        have hk0 : (0 : Int) ≤ k := by omega
        have hk1 : (k : Int) < kk := by omega
        clear hDo hnx he hrb hp hm hlen htt hsk hgood heq l1 l2 l3 l4
        go_wp2_with fail
        go_region_law (go_simp; go_at_call 45; refine (HDO.out).mono ?_; rintro e w1 ⟨rfl, A1, c1, h1, hb1, -, -⟩)
        rw [← HNX.out] at h1
        have H1 := Lib.hid h1
        have hb2 := hb.trans (hbB.trans hb1)
        have hs2 := hb2.size
        clear h1 HDO HNX hb1
        go_wp2_with fail
        go_roundw
        case rel => exact ⟨k + 1, A1, c1, hlt, by go_num, H1, hb2, hs2⟩
        case measure => simp [intOf] <;> omega
      · obtain rfl : k = kk := by omega
        obtain ⟨l1, l2, l3, l4⟩ := foldS_same 0 (s.lo.take k) s
        have e6 : wr.cell? ⟨d, 6, none⟩ = some (.slice AL (foldS 0 s (s.lo.take k)).lo.length cL) := by rw [cell_d HKK.out]; rfl
        rw [l1, ← HN.out] at e6
        by_cases hkq : k < n
        · have hkl : k < s.lo.length := by have := HN.out; omega
          have hkf : k < (foldS 0 s (s.lo.take k)).lo.length := by rw [l1]; exact hkl
          obtain ⟨g, Ab, cb, eA, hgl, r1, r2, r3, he⟩ := HKK.out.rowAt hkf
          subst eA
          have heq : (foldS 0 s (s.lo.take k)).lo[k]'hkf = s.lo[k] := by simp only [l1]; try rfl
          rw [heq] at r1 r2 r3 he
          obtain ⟨p1, p2, b, hp⟩ : ∃ x y z, s.lo[k] = (x, y, z) := ⟨_, _, _, rfl⟩
          obtain ⟨m, hm⟩ : ∃ m, m = b.length := ⟨_, rfl⟩
          have hgood := HS.out.2.2 k hkl
          rw [hp] at r1 r2 r3 he hgood
          simp only at r1 r2 r3 he
          rw [← hm] at r3 he
          have HPP := Lib.hid hp
          have HM := Lib.hid hm
          have HG := Lib.hid hgood
          have HE := Lib.hid he
          have hkq' : (k : Int) < n := by omega
          have hq0 : (0 : Int) ≤ k := by omega
          have he0 := he
          clear hp hgood he heq l1 l2 l3 l4
          by_cases hz : p1 = 0
          · subst hz
            obtain ⟨tt, htt⟩ : ∃ t : Nat, t = min (max torn 0).toNat m := ⟨_, rfl⟩
            have htm : tt ≤ m := by omega
            have htc : tt ≤ cb := by
              obtain ⟨_, _, e1, _, hle, _⟩ := he0
              injection e1 with _ e2 e3
              omega
            have h3 : (torn < 0 ∧ tt = 0) ∨ (0 ≤ torn ∧ torn ≤ m ∧ torn = tt) ∨ ((m : Int) < torn ∧ 0 ≤ torn ∧ tt = m) := by omega
            have HT := Lib.hid htt
            clear htt he0 hm
            rcases h3 with ⟨t1, t2⟩ | ⟨t1, t2, t3⟩ | ⟨t1, t2, t3⟩
            · subst t2
              go_wp2_with fail
              have hbA : Below wr.heap.size wr (wr.alloc (.cells #[.int .i64 0, .int .i64 p2, .slice Ab 0 cb] 79)) := (Below.refl _ _).alloc (Nat.le_refl _) _
              have hbD : Below wr.heap.size wr (wr.alloc (.cells #[.int .i64 0, .int .i64 p2, .slice Ab 0 cb] 79)).drew := below_drew hbA
              obtain ⟨Ai, ci, e1, hrb, -⟩ := HE.out.below hbD (Nat.le_refl _)
              injection e1 with e1 e4 e3
              subst e1 e3
              clear e4
              have hlen := foldS_len 0 (s.lo.take k) s (0 + p2.toNat)
              have htt := tot_take s.lo k hkl
              rw [HPP.out] at htt
              have hgood := HG.out
              have hp2 : 0 + p2.toNat < 4 := by rcases hgood.2 with e | e <;> simp only at e <;> omega
              have hsk := HS.out.1 (0 + p2.toNat) hp2
              have hml := HM.out
              have hDo := do_any _ (HKK.out.below hbD (Nat.le_refl _)) 0 (.inl rfl) (0, p2, b.take 0) ⟨.inl rfl, hgood.2⟩ (m := 0) (by simp only [List.length_take]; omega) (rd_take hrb (m := 0) (by omega)) (Nat.le_refl _) (by simp only [List.length_take] at htt ⊢; omega) 0 rfl (cb := cb)
              have HDO := Lib.hid hDo
              have hcut : b.take 0 = cutB torn b := by unfold cutB; congr 1; omega
              have HC := Lib.hid hcut
              have hbB : BelF F wr (wr.alloc (.cells #[.int .i64 0, .int .i64 p2, .slice Ab 0 cb] 79)).drew := BelF.of hbD (Nat.le_refl _)
              clear hDo hcut hml hsk hp2 hgood htt hlen hrb
              go_region_law (go_simp; go_at_call 45; refine (HDO.out).mono ?_; rintro e w1 ⟨rfl, A1, c1, h1, hb1, -, -⟩)
              have H1 := Lib.hid h1
              have hb2 := hb.trans (hbB.trans hb1)
              have hs2 := hb2.size
              clear h1 HDO hb1
              go_wp2_with fail
              rw [HC.out, HCUT.out hkl _ _ _ HPP.out rfl] at H1
              have hbV := hb2
              clear HKK HE hb hsz hbA hbD hbB
              generalize w1 = V at *
              obtain ⟨n0, hn0⟩ : ∃ n, n = (S.by_ 0).length := ⟨_, rfl⟩
              obtain ⟨n1, hn1⟩ : ∃ n, n = (S.by_ 1).length := ⟨_, rfl⟩
              have y0 : V.cell? ⟨d, 0, none⟩ = some (.slice (A1 0) n0 (c1 0)) := by rw [cell_d H1.out, hn0]; rfl
              have y1 : V.cell? ⟨d, 1, none⟩ = some (.slice (A1 1) n1 (c1 1)) := by rw [cell_d H1.out, hn1]; rfl
              have y2 : V.cell? ⟨d, 2, none⟩ = some (.int .i64 S.f0) := by rw [cell_d H1.out]; rfl
              have hCL := clone_any V.drew (d := d) (q := 0) S.f0 y0 y1 y2 hn0 hn1 (OwnB.rd (H1.out.own 0 (by omega))) (OwnB.rd (H1.out.own 1 (by omega))) (HLN.out 0 (by omega)) (HLN.out 1 (by omega))
              have HCL := Lib.hid hCL
              have N0 := Lib.hid hn0
              have N1 := Lib.hid hn1
              have hS0 : (fun X : World => (X.cell? ⟨d, 0, none⟩ = some (.slice (A1 0) n0 (c1 0)) ∧ X.cell? ⟨d, 1, none⟩ = some (.slice (A1 1) n1 (c1 1)) ∧ X.cell? ⟨d, 2, none⟩ = some (.int .i64 S.f0))) V.drew := ⟨y0, y1, y2⟩
              have hdV : d < V.heap.size := H1.out.dlt
              clear hCL hn0 hn1
              refine tail.wp_region_till 11 (fun X => (X.cell? ⟨d, 0, none⟩ = some (.slice (A1 0) n0 (c1 0)) ∧ X.cell? ⟨d, 1, none⟩ = some (.slice (A1 1) n1 (c1 1)) ∧ X.cell? ⟨d, 2, none⟩ = some (.int .i64 S.f0))) (by kernel_rfl) ?_
              (refine tail.till_take 0 (v := ?_) rfl (by kernel_rfl) (by kernel_rfl) (by kernel_rfl) (by kernel_rfl) (by kernel_rfl) (fun _ _ _ h => h) (by rfl) (by assumption) ?_ ?_; rotate_left 1; (focus (intro X hX; obtain ⟨s1, s2, s3⟩ := hX; go_simp; with_reducible rfl)); (try simp only [Act.put, List.setIfInBounds_toArray, List.set_cons_zero, List.set_cons_succ]))
              (refine tail.till_take 1 (v := ?_) rfl (by kernel_rfl) (by kernel_rfl) (by kernel_rfl) (by kernel_rfl) (by kernel_rfl) (fun _ _ _ h => h) (by rfl) (by assumption) ?_ ?_; rotate_left 1; (focus (intro X hX; obtain ⟨s1, s2, s3⟩ := hX; go_simp; with_reducible rfl)); (try simp only [Act.put, List.setIfInBounds_toArray, List.set_cons_zero, List.set_cons_succ]))
              (refine tail.till_take 2 (v := ?_) rfl (by kernel_rfl) (by kernel_rfl) (by kernel_rfl) (by kernel_rfl) (by kernel_rfl) (fun _ _ _ h => h) (by rfl) (by assumption) ?_ ?_; rotate_left 1; (focus (intro X hX; obtain ⟨s1, s2, s3⟩ := hX; go_simp; with_reducible rfl)); (try simp only [Act.put, List.setIfInBounds_toArray, List.set_cons_zero, List.set_cons_succ]))
              (refine tail.till_take 3 (v := ?_) rfl (by kernel_rfl) (by kernel_rfl) (by kernel_rfl) (by kernel_rfl) (by kernel_rfl) (fun _ _ _ h => h) (by rfl) (by assumption) ?_ ?_; rotate_left 1; (focus (intro X hX; obtain ⟨s1, s2, s3⟩ := hX; go_simp; with_reducible rfl)); (try simp only [Act.put, List.setIfInBounds_toArray, List.set_cons_zero, List.set_cons_succ]))
              (refine tail.till_take 4 (v := ?_) rfl (by kernel_rfl) (by kernel_rfl) (by kernel_rfl) (by kernel_rfl) (by kernel_rfl) (fun _ _ _ h => h) (by rfl) (by assumption) ?_ ?_; rotate_left 1; (focus (intro X hX; obtain ⟨s1, s2, s3⟩ := hX; go_simp; with_reducible rfl)); (try simp only [Act.put, List.setIfInBounds_toArray, List.set_cons_zero, List.set_cons_succ]))
              (refine tail.till_take 5 (v := ?_) rfl (by kernel_rfl) (by kernel_rfl) (by kernel_rfl) (by kernel_rfl) (by kernel_rfl) (fun _ _ _ h => h) (by rfl) (by assumption) ?_ ?_; rotate_left 1; (focus (intro X hX; obtain ⟨s1, s2, s3⟩ := hX; go_simp; with_reducible rfl)); (try simp only [Act.put, List.setIfInBounds_toArray, List.set_cons_zero, List.set_cons_succ]))
              (refine tail.till_take 6 (v := ?_) rfl (by kernel_rfl) (by kernel_rfl) (by kernel_rfl) (by kernel_rfl) (by kernel_rfl) (fun _ _ _ h => h) (by rfl) (by assumption) ?_ ?_; rotate_left 1; (focus (intro X hX; obtain ⟨s1, s2, s3⟩ := hX; go_simp; with_reducible rfl)); (try simp only [Act.put, List.setIfInBounds_toArray, List.set_cons_zero, List.set_cons_succ]))
              (refine tail.till_take 7 (v := ?_) rfl (by kernel_rfl) (by kernel_rfl) (by kernel_rfl) (by kernel_rfl) (by kernel_rfl) (fun _ _ _ h => h) (by rfl) (by assumption) ?_ ?_; rotate_left 1; (focus (intro X hX; obtain ⟨s1, s2, s3⟩ := hX; go_simp; with_reducible rfl)); (try simp only [Act.put, List.setIfInBounds_toArray, List.set_cons_zero, List.set_cons_succ]))
              refine tail.till_one 8 (by kernel_rfl) rfl (fun K hK => ?_)
              go_simp
              go_at_call 46
              refine HCL.out.mono ?_
              rintro e w2 ⟨A2, c2, A3, c3, rfl, ho2, ho3, hf23, hb2⟩
              have hS2 : (fun X : World => (X.cell? ⟨d, 0, none⟩ = some (.slice (A1 0) n0 (c1 0)) ∧ X.cell? ⟨d, 1, none⟩ = some (.slice (A1 1) n1 (c1 1)) ∧ X.cell? ⟨d, 2, none⟩ = some (.int .i64 S.f0))) w2 := ⟨keepc (W := V.drew) y0 hb2, keepc (W := V.drew) y1 hb2, keepc (W := V.drew) y2 hb2⟩
              have hq : w2.heap[d]? = some (.cells (dcells A1 c1 (some ⟨g, 0, none⟩) cL S) 75 (0, 0)) := (hb2.block _ hdV).trans H1.out.cells
              have q0 : w2.cell? ⟨d, 0, none⟩ = _ := cell_of_row _ _ _ _ _ (0, 0) hq
              have q1 : w2.cell? ⟨d, 1, none⟩ = _ := cell_of_row _ _ _ _ _ (0, 0) hq
              have q2 : w2.cell? ⟨d, 2, none⟩ = _ := cell_of_row _ _ _ _ _ (0, 0) hq
              have q3 : w2.cell? ⟨d, 3, none⟩ = _ := cell_of_row _ _ _ _ _ (0, 0) hq
              have q4 : w2.cell? ⟨d, 4, none⟩ = _ := cell_of_row _ _ _ _ _ (0, 0) hq
              have q5 : w2.cell? ⟨d, 5, none⟩ = _ := cell_of_row _ _ _ _ _ (0, 0) hq
              have q6 : w2.cell? ⟨d, 6, none⟩ = _ := cell_of_row _ _ _ _ _ (0, 0) hq
              have q7 : w2.cell? ⟨d, 7, none⟩ = _ := cell_of_row _ _ _ _ _ (0, 0) hq
              have q8 : w2.cell? ⟨d, 8, none⟩ = _ := cell_of_row _ _ _ _ _ (0, 0) hq
              have q9 : w2.cell? ⟨d, 9, none⟩ = _ := cell_of_row _ _ _ _ _ (0, 0) hq
              have qf : ∀ j, w2.frozen? ⟨d, j, none⟩ = false := fun j => frozen_of_row _ _ j _ _ hq
              simp only [dcells, List.getElem?_toArray, List.getElem?_cons_succ, List.getElem?_cons_zero] at q0 q1 q2 q3 q4 q5 q6 q7 q8 q9
              have HF2 := Lib.hid (show w2.heap[d]? = some (.cells (dcells A1 c1 (some ⟨g, 0, none⟩) cL S) 75 (0, 0)) ∧ OwnB w2 V.heap.size A2 c2 (S.by_ 0) ∧ OwnB w2 V.heap.size A3 c3 (S.by_ 1) ∧ FarB A2 A3 ∧ Below V.heap.size V w2 from ⟨hq, ho2, ho3, hf23, hb2.os, hb2.tape, hb2.output, hb2.size, hb2.block⟩)
              clear ho2 ho3 hf23 hb2 hq
              first
                | refine hK.out _ _ (fun _ => hS2) ?_
                | (go_simp; refine hK.out _ _ (fun _ => hS2) ?_)
              clear hK K
              try simp only [Act.put, List.setIfInBounds_toArray, List.set_cons_zero, List.set_cons_succ]
              (refine tail.till_take 9 (v := ?_) rfl (by kernel_rfl) (by kernel_rfl) (by kernel_rfl) (by kernel_rfl) (by kernel_rfl) (fun _ _ _ h => h) (by rfl) (by assumption) ?_ ?_; rotate_left 1; (focus (intro X hX; obtain ⟨s1, s2, s3⟩ := hX; go_simp; with_reducible rfl)); (try simp only [Act.put, List.setIfInBounds_toArray, List.set_cons_zero, List.set_cons_succ]))
              (refine tail.till_take 10 (v := ?_) rfl (by kernel_rfl) (by kernel_rfl) (by kernel_rfl) (by kernel_rfl) (by kernel_rfl) (fun _ _ _ h => h) (by rfl) (by assumption) ?_ ?_; rotate_left 1; (focus (intro X hX; obtain ⟨s1, s2, s3⟩ := hX; go_simp; with_reducible rfl)); (try simp only [Act.put, List.setIfInBounds_toArray, List.set_cons_zero, List.set_cons_succ]))
              refine tail.till_one 11 (by kernel_rfl) rfl (fun K hK => ?_)
              go_simp
              refine hK.out _ _ (fun h => absurd rfl h) ?_
              clear hK K
              refine tail.till_done (by kernel_rfl) ?_ _
              go_wp2_with fail
              refine bodyPost_end (v := .tuple #[]) (by simp [results, Try.results15]) rfl ⟨rfl, ?_, ?_⟩
              · obtain ⟨g1, g2, g3, g4, g5⟩ := HF2.out
                have g6 := set10 g1 rfl (.slice (A1 0) n0 (c1 0)) (.slice (A1 1) n1 (c1 1)) (.int .i64 S.f0) (.slice A2 n0 c2) (.slice A3 n1 c3) (.int .i64 S.f0) (.slice none 0 0) (.bool false) (.int .i64 0) (.bool false)
                have e0 := N0.out
                have e1 := N1.out
                subst e0 e1
                refine H1.out.fresh g5 (Nat.le_refl _) g2 g3 g4 g6 (fun b hb => ?_) (by simp)
                repeat (rw [heap_setCell_other _ _ b _ (fun e => hb e)])
              · obtain ⟨g1, g2, g3, g4, g5⟩ := HF2.out
                repeat (with_reducible refine BelF.setCell ?_ hBd _)
                exact hbV.trans (BelF.of g5 (Nat.le_refl _))
            · obtain rfl := t3
              go_wp2_with fail
              have hbA : Below wr.heap.size wr (wr.alloc (.cells #[.int .i64 0, .int .i64 p2, .slice Ab tt cb] 79)) := (Below.refl _ _).alloc (Nat.le_refl _) _
              have hbD : Below wr.heap.size wr (wr.alloc (.cells #[.int .i64 0, .int .i64 p2, .slice Ab tt cb] 79)).drew := below_drew hbA
              obtain ⟨Ai, ci, e1, hrb, -⟩ := HE.out.below hbD (Nat.le_refl _)
              injection e1 with e1 e4 e3
              subst e1 e3
              clear e4
              have hlen := foldS_len 0 (s.lo.take k) s (0 + p2.toNat)
              have htt := tot_take s.lo k hkl
              rw [HPP.out] at htt
              have hgood := HG.out
              have hp2 : 0 + p2.toNat < 4 := by rcases hgood.2 with e | e <;> simp only at e <;> omega
              have hsk := HS.out.1 (0 + p2.toNat) hp2
              have hml := HM.out
              have hDo := do_any _ (HKK.out.below hbD (Nat.le_refl _)) 0 (.inl rfl) (0, p2, b.take tt) ⟨.inl rfl, hgood.2⟩ (m := tt) (by simp only [List.length_take]; omega) (rd_take hrb (m := tt) (by omega)) (Nat.le_refl _) (by simp only [List.length_take] at htt ⊢; omega) 0 rfl (cb := cb)
              have HDO := Lib.hid hDo
              have hcut : b.take tt = cutB tt b := by unfold cutB; congr 1; omega
              have HC := Lib.hid hcut
              have hbB : BelF F wr (wr.alloc (.cells #[.int .i64 0, .int .i64 p2, .slice Ab tt cb] 79)).drew := BelF.of hbD (Nat.le_refl _)
              clear hDo hcut hml hsk hp2 hgood htt hlen hrb
              go_region_law (go_simp; go_at_call 45; refine (HDO.out).mono ?_; rintro e w1 ⟨rfl, A1, c1, h1, hb1, -, -⟩)
              have H1 := Lib.hid h1
              have hb2 := hb.trans (hbB.trans hb1)
              have hs2 := hb2.size
              clear h1 HDO hb1
              go_wp2_with fail
              rw [HC.out, HCUT.out hkl _ _ _ HPP.out rfl] at H1
              have hbV := hb2
              clear HKK HE hb hsz hbA hbD hbB
              generalize w1 = V at *
              obtain ⟨n0, hn0⟩ : ∃ n, n = (S.by_ 0).length := ⟨_, rfl⟩
              obtain ⟨n1, hn1⟩ : ∃ n, n = (S.by_ 1).length := ⟨_, rfl⟩
              have y0 : V.cell? ⟨d, 0, none⟩ = some (.slice (A1 0) n0 (c1 0)) := by rw [cell_d H1.out, hn0]; rfl
              have y1 : V.cell? ⟨d, 1, none⟩ = some (.slice (A1 1) n1 (c1 1)) := by rw [cell_d H1.out, hn1]; rfl
              have y2 : V.cell? ⟨d, 2, none⟩ = some (.int .i64 S.f0) := by rw [cell_d H1.out]; rfl
              have hCL := clone_any V.drew (d := d) (q := 0) S.f0 y0 y1 y2 hn0 hn1 (OwnB.rd (H1.out.own 0 (by omega))) (OwnB.rd (H1.out.own 1 (by omega))) (HLN.out 0 (by omega)) (HLN.out 1 (by omega))
              have HCL := Lib.hid hCL
              have N0 := Lib.hid hn0
              have N1 := Lib.hid hn1
              have hS0 : (fun X : World => (X.cell? ⟨d, 0, none⟩ = some (.slice (A1 0) n0 (c1 0)) ∧ X.cell? ⟨d, 1, none⟩ = some (.slice (A1 1) n1 (c1 1)) ∧ X.cell? ⟨d, 2, none⟩ = some (.int .i64 S.f0))) V.drew := ⟨y0, y1, y2⟩
              have hdV : d < V.heap.size := H1.out.dlt
              clear hCL hn0 hn1
              refine tail.wp_region_till 11 (fun X => (X.cell? ⟨d, 0, none⟩ = some (.slice (A1 0) n0 (c1 0)) ∧ X.cell? ⟨d, 1, none⟩ = some (.slice (A1 1) n1 (c1 1)) ∧ X.cell? ⟨d, 2, none⟩ = some (.int .i64 S.f0))) (by kernel_rfl) ?_
              (refine tail.till_take 0 (v := ?_) rfl (by kernel_rfl) (by kernel_rfl) (by kernel_rfl) (by kernel_rfl) (by kernel_rfl) (fun _ _ _ h => h) (by rfl) (by assumption) ?_ ?_; rotate_left 1; (focus (intro X hX; obtain ⟨s1, s2, s3⟩ := hX; go_simp; with_reducible rfl)); (try simp only [Act.put, List.setIfInBounds_toArray, List.set_cons_zero, List.set_cons_succ]))
              (refine tail.till_take 1 (v := ?_) rfl (by kernel_rfl) (by kernel_rfl) (by kernel_rfl) (by kernel_rfl) (by kernel_rfl) (fun _ _ _ h => h) (by rfl) (by assumption) ?_ ?_; rotate_left 1; (focus (intro X hX; obtain ⟨s1, s2, s3⟩ := hX; go_simp; with_reducible rfl)); (try simp only [Act.put, List.setIfInBounds_toArray, List.set_cons_zero, List.set_cons_succ]))
              (refine tail.till_take 2 (v := ?_) rfl (by kernel_rfl) (by kernel_rfl) (by kernel_rfl) (by kernel_rfl) (by kernel_rfl) (fun _ _ _ h => h) (by rfl) (by assumption) ?_ ?_; rotate_left 1; (focus (intro X hX; obtain ⟨s1, s2, s3⟩ := hX; go_simp; with_reducible rfl)); (try simp only [Act.put, List.setIfInBounds_toArray, List.set_cons_zero, List.set_cons_succ]))
              (refine tail.till_take 3 (v := ?_) rfl (by kernel_rfl) (by kernel_rfl) (by kernel_rfl) (by kernel_rfl) (by kernel_rfl) (fun _ _ _ h => h) (by rfl) (by assumption) ?_ ?_; rotate_left 1; (focus (intro X hX; obtain ⟨s1, s2, s3⟩ := hX; go_simp; with_reducible rfl)); (try simp only [Act.put, List.setIfInBounds_toArray, List.set_cons_zero, List.set_cons_succ]))
              (refine tail.till_take 4 (v := ?_) rfl (by kernel_rfl) (by kernel_rfl) (by kernel_rfl) (by kernel_rfl) (by kernel_rfl) (fun _ _ _ h => h) (by rfl) (by assumption) ?_ ?_; rotate_left 1; (focus (intro X hX; obtain ⟨s1, s2, s3⟩ := hX; go_simp; with_reducible rfl)); (try simp only [Act.put, List.setIfInBounds_toArray, List.set_cons_zero, List.set_cons_succ]))
              (refine tail.till_take 5 (v := ?_) rfl (by kernel_rfl) (by kernel_rfl) (by kernel_rfl) (by kernel_rfl) (by kernel_rfl) (fun _ _ _ h => h) (by rfl) (by assumption) ?_ ?_; rotate_left 1; (focus (intro X hX; obtain ⟨s1, s2, s3⟩ := hX; go_simp; with_reducible rfl)); (try simp only [Act.put, List.setIfInBounds_toArray, List.set_cons_zero, List.set_cons_succ]))
              (refine tail.till_take 6 (v := ?_) rfl (by kernel_rfl) (by kernel_rfl) (by kernel_rfl) (by kernel_rfl) (by kernel_rfl) (fun _ _ _ h => h) (by rfl) (by assumption) ?_ ?_; rotate_left 1; (focus (intro X hX; obtain ⟨s1, s2, s3⟩ := hX; go_simp; with_reducible rfl)); (try simp only [Act.put, List.setIfInBounds_toArray, List.set_cons_zero, List.set_cons_succ]))
              (refine tail.till_take 7 (v := ?_) rfl (by kernel_rfl) (by kernel_rfl) (by kernel_rfl) (by kernel_rfl) (by kernel_rfl) (fun _ _ _ h => h) (by rfl) (by assumption) ?_ ?_; rotate_left 1; (focus (intro X hX; obtain ⟨s1, s2, s3⟩ := hX; go_simp; with_reducible rfl)); (try simp only [Act.put, List.setIfInBounds_toArray, List.set_cons_zero, List.set_cons_succ]))
              refine tail.till_one 8 (by kernel_rfl) rfl (fun K hK => ?_)
              go_simp
              go_at_call 46
              refine HCL.out.mono ?_
              rintro e w2 ⟨A2, c2, A3, c3, rfl, ho2, ho3, hf23, hb2⟩
              have hS2 : (fun X : World => (X.cell? ⟨d, 0, none⟩ = some (.slice (A1 0) n0 (c1 0)) ∧ X.cell? ⟨d, 1, none⟩ = some (.slice (A1 1) n1 (c1 1)) ∧ X.cell? ⟨d, 2, none⟩ = some (.int .i64 S.f0))) w2 := ⟨keepc (W := V.drew) y0 hb2, keepc (W := V.drew) y1 hb2, keepc (W := V.drew) y2 hb2⟩
              have hq : w2.heap[d]? = some (.cells (dcells A1 c1 (some ⟨g, 0, none⟩) cL S) 75 (0, 0)) := (hb2.block _ hdV).trans H1.out.cells
              have q0 : w2.cell? ⟨d, 0, none⟩ = _ := cell_of_row _ _ _ _ _ (0, 0) hq
              have q1 : w2.cell? ⟨d, 1, none⟩ = _ := cell_of_row _ _ _ _ _ (0, 0) hq
              have q2 : w2.cell? ⟨d, 2, none⟩ = _ := cell_of_row _ _ _ _ _ (0, 0) hq
              have q3 : w2.cell? ⟨d, 3, none⟩ = _ := cell_of_row _ _ _ _ _ (0, 0) hq
              have q4 : w2.cell? ⟨d, 4, none⟩ = _ := cell_of_row _ _ _ _ _ (0, 0) hq
              have q5 : w2.cell? ⟨d, 5, none⟩ = _ := cell_of_row _ _ _ _ _ (0, 0) hq
              have q6 : w2.cell? ⟨d, 6, none⟩ = _ := cell_of_row _ _ _ _ _ (0, 0) hq
              have q7 : w2.cell? ⟨d, 7, none⟩ = _ := cell_of_row _ _ _ _ _ (0, 0) hq
              have q8 : w2.cell? ⟨d, 8, none⟩ = _ := cell_of_row _ _ _ _ _ (0, 0) hq
              have q9 : w2.cell? ⟨d, 9, none⟩ = _ := cell_of_row _ _ _ _ _ (0, 0) hq
              have qf : ∀ j, w2.frozen? ⟨d, j, none⟩ = false := fun j => frozen_of_row _ _ j _ _ hq
              simp only [dcells, List.getElem?_toArray, List.getElem?_cons_succ, List.getElem?_cons_zero] at q0 q1 q2 q3 q4 q5 q6 q7 q8 q9
              have HF2 := Lib.hid (show w2.heap[d]? = some (.cells (dcells A1 c1 (some ⟨g, 0, none⟩) cL S) 75 (0, 0)) ∧ OwnB w2 V.heap.size A2 c2 (S.by_ 0) ∧ OwnB w2 V.heap.size A3 c3 (S.by_ 1) ∧ FarB A2 A3 ∧ Below V.heap.size V w2 from ⟨hq, ho2, ho3, hf23, hb2.os, hb2.tape, hb2.output, hb2.size, hb2.block⟩)
              clear ho2 ho3 hf23 hb2 hq
              first
                | refine hK.out _ _ (fun _ => hS2) ?_
                | (go_simp; refine hK.out _ _ (fun _ => hS2) ?_)
              clear hK K
              try simp only [Act.put, List.setIfInBounds_toArray, List.set_cons_zero, List.set_cons_succ]
              (refine tail.till_take 9 (v := ?_) rfl (by kernel_rfl) (by kernel_rfl) (by kernel_rfl) (by kernel_rfl) (by kernel_rfl) (fun _ _ _ h => h) (by rfl) (by assumption) ?_ ?_; rotate_left 1; (focus (intro X hX; obtain ⟨s1, s2, s3⟩ := hX; go_simp; with_reducible rfl)); (try simp only [Act.put, List.setIfInBounds_toArray, List.set_cons_zero, List.set_cons_succ]))
              (refine tail.till_take 10 (v := ?_) rfl (by kernel_rfl) (by kernel_rfl) (by kernel_rfl) (by kernel_rfl) (by kernel_rfl) (fun _ _ _ h => h) (by rfl) (by assumption) ?_ ?_; rotate_left 1; (focus (intro X hX; obtain ⟨s1, s2, s3⟩ := hX; go_simp; with_reducible rfl)); (try simp only [Act.put, List.setIfInBounds_toArray, List.set_cons_zero, List.set_cons_succ]))
              refine tail.till_one 11 (by kernel_rfl) rfl (fun K hK => ?_)
              go_simp
              refine hK.out _ _ (fun h => absurd rfl h) ?_
              clear hK K
              refine tail.till_done (by kernel_rfl) ?_ _
              go_wp2_with fail
              refine bodyPost_end (v := .tuple #[]) (by simp [results, Try.results15]) rfl ⟨rfl, ?_, ?_⟩
              · obtain ⟨g1, g2, g3, g4, g5⟩ := HF2.out
                have g6 := set10 g1 rfl (.slice (A1 0) n0 (c1 0)) (.slice (A1 1) n1 (c1 1)) (.int .i64 S.f0) (.slice A2 n0 c2) (.slice A3 n1 c3) (.int .i64 S.f0) (.slice none 0 0) (.bool false) (.int .i64 0) (.bool false)
                have e0 := N0.out
                have e1 := N1.out
                subst e0 e1
                refine H1.out.fresh g5 (Nat.le_refl _) g2 g3 g4 g6 (fun b hb => ?_) (by simp)
                repeat (rw [heap_setCell_other _ _ b _ (fun e => hb e)])
              · obtain ⟨g1, g2, g3, g4, g5⟩ := HF2.out
                repeat (with_reducible refine BelF.setCell ?_ hBd _)
                exact hbV.trans (BelF.of g5 (Nat.le_refl _))
            · subst t3
              go_wp2_with fail
              have hbA : Below wr.heap.size wr (wr.alloc (.cells #[.int .i64 0, .int .i64 p2, .slice Ab tt cb] 79)) := (Below.refl _ _).alloc (Nat.le_refl _) _
              have hbD : Below wr.heap.size wr (wr.alloc (.cells #[.int .i64 0, .int .i64 p2, .slice Ab tt cb] 79)).drew := below_drew hbA
              obtain ⟨Ai, ci, e1, hrb, -⟩ := HE.out.below hbD (Nat.le_refl _)
              injection e1 with e1 e4 e3
              subst e1 e3
              clear e4
              have hlen := foldS_len 0 (s.lo.take k) s (0 + p2.toNat)
              have htt := tot_take s.lo k hkl
              rw [HPP.out] at htt
              have hgood := HG.out
              have hp2 : 0 + p2.toNat < 4 := by rcases hgood.2 with e | e <;> simp only at e <;> omega
              have hsk := HS.out.1 (0 + p2.toNat) hp2
              have hml := HM.out
              have hDo := do_any _ (HKK.out.below hbD (Nat.le_refl _)) 0 (.inl rfl) (0, p2, b.take tt) ⟨.inl rfl, hgood.2⟩ (m := tt) (by simp only [List.length_take]; omega) (rd_take hrb (m := tt) (by omega)) (Nat.le_refl _) (by simp only [List.length_take] at htt ⊢; omega) 0 rfl (cb := cb)
              have HDO := Lib.hid hDo
              have hcut : b.take tt = cutB torn b := by unfold cutB; congr 1; omega
              have HC := Lib.hid hcut
              have hbB : BelF F wr (wr.alloc (.cells #[.int .i64 0, .int .i64 p2, .slice Ab tt cb] 79)).drew := BelF.of hbD (Nat.le_refl _)
              clear hDo hcut hml hsk hp2 hgood htt hlen hrb
              go_region_law (go_simp; go_at_call 45; refine (HDO.out).mono ?_; rintro e w1 ⟨rfl, A1, c1, h1, hb1, -, -⟩)
              have H1 := Lib.hid h1
              have hb2 := hb.trans (hbB.trans hb1)
              have hs2 := hb2.size
              clear h1 HDO hb1
              go_wp2_with fail
              rw [HC.out, HCUT.out hkl _ _ _ HPP.out rfl] at H1
              have hbV := hb2
              clear HKK HE hb hsz hbA hbD hbB
              generalize w1 = V at *
              obtain ⟨n0, hn0⟩ : ∃ n, n = (S.by_ 0).length := ⟨_, rfl⟩
              obtain ⟨n1, hn1⟩ : ∃ n, n = (S.by_ 1).length := ⟨_, rfl⟩
              have y0 : V.cell? ⟨d, 0, none⟩ = some (.slice (A1 0) n0 (c1 0)) := by rw [cell_d H1.out, hn0]; rfl
              have y1 : V.cell? ⟨d, 1, none⟩ = some (.slice (A1 1) n1 (c1 1)) := by rw [cell_d H1.out, hn1]; rfl
              have y2 : V.cell? ⟨d, 2, none⟩ = some (.int .i64 S.f0) := by rw [cell_d H1.out]; rfl
              have hCL := clone_any V.drew (d := d) (q := 0) S.f0 y0 y1 y2 hn0 hn1 (OwnB.rd (H1.out.own 0 (by omega))) (OwnB.rd (H1.out.own 1 (by omega))) (HLN.out 0 (by omega)) (HLN.out 1 (by omega))
              have HCL := Lib.hid hCL
              have N0 := Lib.hid hn0
              have N1 := Lib.hid hn1
              have hS0 : (fun X : World => (X.cell? ⟨d, 0, none⟩ = some (.slice (A1 0) n0 (c1 0)) ∧ X.cell? ⟨d, 1, none⟩ = some (.slice (A1 1) n1 (c1 1)) ∧ X.cell? ⟨d, 2, none⟩ = some (.int .i64 S.f0))) V.drew := ⟨y0, y1, y2⟩
              have hdV : d < V.heap.size := H1.out.dlt
              clear hCL hn0 hn1
              refine tail.wp_region_till 11 (fun X => (X.cell? ⟨d, 0, none⟩ = some (.slice (A1 0) n0 (c1 0)) ∧ X.cell? ⟨d, 1, none⟩ = some (.slice (A1 1) n1 (c1 1)) ∧ X.cell? ⟨d, 2, none⟩ = some (.int .i64 S.f0))) (by kernel_rfl) ?_
              (refine tail.till_take 0 (v := ?_) rfl (by kernel_rfl) (by kernel_rfl) (by kernel_rfl) (by kernel_rfl) (by kernel_rfl) (fun _ _ _ h => h) (by rfl) (by assumption) ?_ ?_; rotate_left 1; (focus (intro X hX; obtain ⟨s1, s2, s3⟩ := hX; go_simp; with_reducible rfl)); (try simp only [Act.put, List.setIfInBounds_toArray, List.set_cons_zero, List.set_cons_succ]))
              (refine tail.till_take 1 (v := ?_) rfl (by kernel_rfl) (by kernel_rfl) (by kernel_rfl) (by kernel_rfl) (by kernel_rfl) (fun _ _ _ h => h) (by rfl) (by assumption) ?_ ?_; rotate_left 1; (focus (intro X hX; obtain ⟨s1, s2, s3⟩ := hX; go_simp; with_reducible rfl)); (try simp only [Act.put, List.setIfInBounds_toArray, List.set_cons_zero, List.set_cons_succ]))
              (refine tail.till_take 2 (v := ?_) rfl (by kernel_rfl) (by kernel_rfl) (by kernel_rfl) (by kernel_rfl) (by kernel_rfl) (fun _ _ _ h => h) (by rfl) (by assumption) ?_ ?_; rotate_left 1; (focus (intro X hX; obtain ⟨s1, s2, s3⟩ := hX; go_simp; with_reducible rfl)); (try simp only [Act.put, List.setIfInBounds_toArray, List.set_cons_zero, List.set_cons_succ]))
              (refine tail.till_take 3 (v := ?_) rfl (by kernel_rfl) (by kernel_rfl) (by kernel_rfl) (by kernel_rfl) (by kernel_rfl) (fun _ _ _ h => h) (by rfl) (by assumption) ?_ ?_; rotate_left 1; (focus (intro X hX; obtain ⟨s1, s2, s3⟩ := hX; go_simp; with_reducible rfl)); (try simp only [Act.put, List.setIfInBounds_toArray, List.set_cons_zero, List.set_cons_succ]))
              (refine tail.till_take 4 (v := ?_) rfl (by kernel_rfl) (by kernel_rfl) (by kernel_rfl) (by kernel_rfl) (by kernel_rfl) (fun _ _ _ h => h) (by rfl) (by assumption) ?_ ?_; rotate_left 1; (focus (intro X hX; obtain ⟨s1, s2, s3⟩ := hX; go_simp; with_reducible rfl)); (try simp only [Act.put, List.setIfInBounds_toArray, List.set_cons_zero, List.set_cons_succ]))
              (refine tail.till_take 5 (v := ?_) rfl (by kernel_rfl) (by kernel_rfl) (by kernel_rfl) (by kernel_rfl) (by kernel_rfl) (fun _ _ _ h => h) (by rfl) (by assumption) ?_ ?_; rotate_left 1; (focus (intro X hX; obtain ⟨s1, s2, s3⟩ := hX; go_simp; with_reducible rfl)); (try simp only [Act.put, List.setIfInBounds_toArray, List.set_cons_zero, List.set_cons_succ]))
              (refine tail.till_take 6 (v := ?_) rfl (by kernel_rfl) (by kernel_rfl) (by kernel_rfl) (by kernel_rfl) (by kernel_rfl) (fun _ _ _ h => h) (by rfl) (by assumption) ?_ ?_; rotate_left 1; (focus (intro X hX; obtain ⟨s1, s2, s3⟩ := hX; go_simp; with_reducible rfl)); (try simp only [Act.put, List.setIfInBounds_toArray, List.set_cons_zero, List.set_cons_succ]))
              (refine tail.till_take 7 (v := ?_) rfl (by kernel_rfl) (by kernel_rfl) (by kernel_rfl) (by kernel_rfl) (by kernel_rfl) (fun _ _ _ h => h) (by rfl) (by assumption) ?_ ?_; rotate_left 1; (focus (intro X hX; obtain ⟨s1, s2, s3⟩ := hX; go_simp; with_reducible rfl)); (try simp only [Act.put, List.setIfInBounds_toArray, List.set_cons_zero, List.set_cons_succ]))
              refine tail.till_one 8 (by kernel_rfl) rfl (fun K hK => ?_)
              go_simp
              go_at_call 46
              refine HCL.out.mono ?_
              rintro e w2 ⟨A2, c2, A3, c3, rfl, ho2, ho3, hf23, hb2⟩
              have hS2 : (fun X : World => (X.cell? ⟨d, 0, none⟩ = some (.slice (A1 0) n0 (c1 0)) ∧ X.cell? ⟨d, 1, none⟩ = some (.slice (A1 1) n1 (c1 1)) ∧ X.cell? ⟨d, 2, none⟩ = some (.int .i64 S.f0))) w2 := ⟨keepc (W := V.drew) y0 hb2, keepc (W := V.drew) y1 hb2, keepc (W := V.drew) y2 hb2⟩
              have hq : w2.heap[d]? = some (.cells (dcells A1 c1 (some ⟨g, 0, none⟩) cL S) 75 (0, 0)) := (hb2.block _ hdV).trans H1.out.cells
              have q0 : w2.cell? ⟨d, 0, none⟩ = _ := cell_of_row _ _ _ _ _ (0, 0) hq
              have q1 : w2.cell? ⟨d, 1, none⟩ = _ := cell_of_row _ _ _ _ _ (0, 0) hq
              have q2 : w2.cell? ⟨d, 2, none⟩ = _ := cell_of_row _ _ _ _ _ (0, 0) hq
              have q3 : w2.cell? ⟨d, 3, none⟩ = _ := cell_of_row _ _ _ _ _ (0, 0) hq
              have q4 : w2.cell? ⟨d, 4, none⟩ = _ := cell_of_row _ _ _ _ _ (0, 0) hq
              have q5 : w2.cell? ⟨d, 5, none⟩ = _ := cell_of_row _ _ _ _ _ (0, 0) hq
              have q6 : w2.cell? ⟨d, 6, none⟩ = _ := cell_of_row _ _ _ _ _ (0, 0) hq
              have q7 : w2.cell? ⟨d, 7, none⟩ = _ := cell_of_row _ _ _ _ _ (0, 0) hq
              have q8 : w2.cell? ⟨d, 8, none⟩ = _ := cell_of_row _ _ _ _ _ (0, 0) hq
              have q9 : w2.cell? ⟨d, 9, none⟩ = _ := cell_of_row _ _ _ _ _ (0, 0) hq
              have qf : ∀ j, w2.frozen? ⟨d, j, none⟩ = false := fun j => frozen_of_row _ _ j _ _ hq
              simp only [dcells, List.getElem?_toArray, List.getElem?_cons_succ, List.getElem?_cons_zero] at q0 q1 q2 q3 q4 q5 q6 q7 q8 q9
              have HF2 := Lib.hid (show w2.heap[d]? = some (.cells (dcells A1 c1 (some ⟨g, 0, none⟩) cL S) 75 (0, 0)) ∧ OwnB w2 V.heap.size A2 c2 (S.by_ 0) ∧ OwnB w2 V.heap.size A3 c3 (S.by_ 1) ∧ FarB A2 A3 ∧ Below V.heap.size V w2 from ⟨hq, ho2, ho3, hf23, hb2.os, hb2.tape, hb2.output, hb2.size, hb2.block⟩)
              clear ho2 ho3 hf23 hb2 hq
              first
                | refine hK.out _ _ (fun _ => hS2) ?_
                | (go_simp; refine hK.out _ _ (fun _ => hS2) ?_)
              clear hK K
              try simp only [Act.put, List.setIfInBounds_toArray, List.set_cons_zero, List.set_cons_succ]
              (refine tail.till_take 9 (v := ?_) rfl (by kernel_rfl) (by kernel_rfl) (by kernel_rfl) (by kernel_rfl) (by kernel_rfl) (fun _ _ _ h => h) (by rfl) (by assumption) ?_ ?_; rotate_left 1; (focus (intro X hX; obtain ⟨s1, s2, s3⟩ := hX; go_simp; with_reducible rfl)); (try simp only [Act.put, List.setIfInBounds_toArray, List.set_cons_zero, List.set_cons_succ]))
              (refine tail.till_take 10 (v := ?_) rfl (by kernel_rfl) (by kernel_rfl) (by kernel_rfl) (by kernel_rfl) (by kernel_rfl) (fun _ _ _ h => h) (by rfl) (by assumption) ?_ ?_; rotate_left 1; (focus (intro X hX; obtain ⟨s1, s2, s3⟩ := hX; go_simp; with_reducible rfl)); (try simp only [Act.put, List.setIfInBounds_toArray, List.set_cons_zero, List.set_cons_succ]))
              refine tail.till_one 11 (by kernel_rfl) rfl (fun K hK => ?_)
              go_simp
              refine hK.out _ _ (fun h => absurd rfl h) ?_
              clear hK K
              refine tail.till_done (by kernel_rfl) ?_ _
              go_wp2_with fail
              refine bodyPost_end (v := .tuple #[]) (by simp [results, Try.results15]) rfl ⟨rfl, ?_, ?_⟩
              · obtain ⟨g1, g2, g3, g4, g5⟩ := HF2.out
                have g6 := set10 g1 rfl (.slice (A1 0) n0 (c1 0)) (.slice (A1 1) n1 (c1 1)) (.int .i64 S.f0) (.slice A2 n0 c2) (.slice A3 n1 c3) (.int .i64 S.f0) (.slice none 0 0) (.bool false) (.int .i64 0) (.bool false)
                have e0 := N0.out
                have e1 := N1.out
                subst e0 e1
                refine H1.out.fresh g5 (Nat.le_refl _) g2 g3 g4 g6 (fun b hb => ?_) (by simp)
                repeat (rw [heap_setCell_other _ _ b _ (fun e => hb e)])
              · obtain ⟨g1, g2, g3, g4, g5⟩ := HF2.out
                repeat (with_reducible refine BelF.setCell ?_ hBd _)
                exact hbV.trans (BelF.of g5 (Nat.le_refl _))
          · go_wp2_with fail
            have H1 := HKK
            rw [HUNC.out hkl _ _ _ HPP.out hz] at H1
            have hbV := hb
            generalize c' = c1 at H1
            generalize A' = A1 at H1
            generalize wr = V at *
            obtain ⟨n0, hn0⟩ : ∃ n, n = (S.by_ 0).length := ⟨_, rfl⟩
            obtain ⟨n1, hn1⟩ : ∃ n, n = (S.by_ 1).length := ⟨_, rfl⟩
            have y0 : V.cell? ⟨d, 0, none⟩ = some (.slice (A1 0) n0 (c1 0)) := by rw [cell_d H1.out, hn0]; rfl
            have y1 : V.cell? ⟨d, 1, none⟩ = some (.slice (A1 1) n1 (c1 1)) := by rw [cell_d H1.out, hn1]; rfl
            have y2 : V.cell? ⟨d, 2, none⟩ = some (.int .i64 S.f0) := by rw [cell_d H1.out]; rfl
            have hCL := clone_any V.drew (d := d) (q := 0) S.f0 y0 y1 y2 hn0 hn1 (OwnB.rd (H1.out.own 0 (by omega))) (OwnB.rd (H1.out.own 1 (by omega))) (HLN.out 0 (by omega)) (HLN.out 1 (by omega))
            have HCL := Lib.hid hCL
            have N0 := Lib.hid hn0
            have N1 := Lib.hid hn1
            have hS0 : (fun X : World => (X.cell? ⟨d, 0, none⟩ = some (.slice (A1 0) n0 (c1 0)) ∧ X.cell? ⟨d, 1, none⟩ = some (.slice (A1 1) n1 (c1 1)) ∧ X.cell? ⟨d, 2, none⟩ = some (.int .i64 S.f0))) V.drew := ⟨y0, y1, y2⟩
            have hdV : d < V.heap.size := H1.out.dlt
            clear hCL hn0 hn1
            refine tail.wp_region_till 11 (fun X => (X.cell? ⟨d, 0, none⟩ = some (.slice (A1 0) n0 (c1 0)) ∧ X.cell? ⟨d, 1, none⟩ = some (.slice (A1 1) n1 (c1 1)) ∧ X.cell? ⟨d, 2, none⟩ = some (.int .i64 S.f0))) (by kernel_rfl) ?_
            (refine tail.till_take 0 (v := ?_) rfl (by kernel_rfl) (by kernel_rfl) (by kernel_rfl) (by kernel_rfl) (by kernel_rfl) (fun _ _ _ h => h) (by rfl) (by assumption) ?_ ?_; rotate_left 1; (focus (intro X hX; obtain ⟨s1, s2, s3⟩ := hX; go_simp; with_reducible rfl)); (try simp only [Act.put, List.setIfInBounds_toArray, List.set_cons_zero, List.set_cons_succ]))
            (refine tail.till_take 1 (v := ?_) rfl (by kernel_rfl) (by kernel_rfl) (by kernel_rfl) (by kernel_rfl) (by kernel_rfl) (fun _ _ _ h => h) (by rfl) (by assumption) ?_ ?_; rotate_left 1; (focus (intro X hX; obtain ⟨s1, s2, s3⟩ := hX; go_simp; with_reducible rfl)); (try simp only [Act.put, List.setIfInBounds_toArray, List.set_cons_zero, List.set_cons_succ]))
            (refine tail.till_take 2 (v := ?_) rfl (by kernel_rfl) (by kernel_rfl) (by kernel_rfl) (by kernel_rfl) (by kernel_rfl) (fun _ _ _ h => h) (by rfl) (by assumption) ?_ ?_; rotate_left 1; (focus (intro X hX; obtain ⟨s1, s2, s3⟩ := hX; go_simp; with_reducible rfl)); (try simp only [Act.put, List.setIfInBounds_toArray, List.set_cons_zero, List.set_cons_succ]))
            (refine tail.till_take 3 (v := ?_) rfl (by kernel_rfl) (by kernel_rfl) (by kernel_rfl) (by kernel_rfl) (by kernel_rfl) (fun _ _ _ h => h) (by rfl) (by assumption) ?_ ?_; rotate_left 1; (focus (intro X hX; obtain ⟨s1, s2, s3⟩ := hX; go_simp; with_reducible rfl)); (try simp only [Act.put, List.setIfInBounds_toArray, List.set_cons_zero, List.set_cons_succ]))
            (refine tail.till_take 4 (v := ?_) rfl (by kernel_rfl) (by kernel_rfl) (by kernel_rfl) (by kernel_rfl) (by kernel_rfl) (fun _ _ _ h => h) (by rfl) (by assumption) ?_ ?_; rotate_left 1; (focus (intro X hX; obtain ⟨s1, s2, s3⟩ := hX; go_simp; with_reducible rfl)); (try simp only [Act.put, List.setIfInBounds_toArray, List.set_cons_zero, List.set_cons_succ]))
            (refine tail.till_take 5 (v := ?_) rfl (by kernel_rfl) (by kernel_rfl) (by kernel_rfl) (by kernel_rfl) (by kernel_rfl) (fun _ _ _ h => h) (by rfl) (by assumption) ?_ ?_; rotate_left 1; (focus (intro X hX; obtain ⟨s1, s2, s3⟩ := hX; go_simp; with_reducible rfl)); (try simp only [Act.put, List.setIfInBounds_toArray, List.set_cons_zero, List.set_cons_succ]))
            (refine tail.till_take 6 (v := ?_) rfl (by kernel_rfl) (by kernel_rfl) (by kernel_rfl) (by kernel_rfl) (by kernel_rfl) (fun _ _ _ h => h) (by rfl) (by assumption) ?_ ?_; rotate_left 1; (focus (intro X hX; obtain ⟨s1, s2, s3⟩ := hX; go_simp; with_reducible rfl)); (try simp only [Act.put, List.setIfInBounds_toArray, List.set_cons_zero, List.set_cons_succ]))
            (refine tail.till_take 7 (v := ?_) rfl (by kernel_rfl) (by kernel_rfl) (by kernel_rfl) (by kernel_rfl) (by kernel_rfl) (fun _ _ _ h => h) (by rfl) (by assumption) ?_ ?_; rotate_left 1; (focus (intro X hX; obtain ⟨s1, s2, s3⟩ := hX; go_simp; with_reducible rfl)); (try simp only [Act.put, List.setIfInBounds_toArray, List.set_cons_zero, List.set_cons_succ]))
            refine tail.till_one 8 (by kernel_rfl) rfl (fun K hK => ?_)
            go_simp
            go_at_call 46
            refine HCL.out.mono ?_
            rintro e w2 ⟨A2, c2, A3, c3, rfl, ho2, ho3, hf23, hb2⟩
            have hS2 : (fun X : World => (X.cell? ⟨d, 0, none⟩ = some (.slice (A1 0) n0 (c1 0)) ∧ X.cell? ⟨d, 1, none⟩ = some (.slice (A1 1) n1 (c1 1)) ∧ X.cell? ⟨d, 2, none⟩ = some (.int .i64 S.f0))) w2 := ⟨keepc (W := V.drew) y0 hb2, keepc (W := V.drew) y1 hb2, keepc (W := V.drew) y2 hb2⟩
            have hq : w2.heap[d]? = some (.cells (dcells A1 c1 (some ⟨g, 0, none⟩) cL S) 75 (0, 0)) := (hb2.block _ hdV).trans H1.out.cells
            have q0 : w2.cell? ⟨d, 0, none⟩ = _ := cell_of_row _ _ _ _ _ (0, 0) hq
            have q1 : w2.cell? ⟨d, 1, none⟩ = _ := cell_of_row _ _ _ _ _ (0, 0) hq
            have q2 : w2.cell? ⟨d, 2, none⟩ = _ := cell_of_row _ _ _ _ _ (0, 0) hq
            have q3 : w2.cell? ⟨d, 3, none⟩ = _ := cell_of_row _ _ _ _ _ (0, 0) hq
            have q4 : w2.cell? ⟨d, 4, none⟩ = _ := cell_of_row _ _ _ _ _ (0, 0) hq
            have q5 : w2.cell? ⟨d, 5, none⟩ = _ := cell_of_row _ _ _ _ _ (0, 0) hq
            have q6 : w2.cell? ⟨d, 6, none⟩ = _ := cell_of_row _ _ _ _ _ (0, 0) hq
            have q7 : w2.cell? ⟨d, 7, none⟩ = _ := cell_of_row _ _ _ _ _ (0, 0) hq
            have q8 : w2.cell? ⟨d, 8, none⟩ = _ := cell_of_row _ _ _ _ _ (0, 0) hq
            have q9 : w2.cell? ⟨d, 9, none⟩ = _ := cell_of_row _ _ _ _ _ (0, 0) hq
            have qf : ∀ j, w2.frozen? ⟨d, j, none⟩ = false := fun j => frozen_of_row _ _ j _ _ hq
            simp only [dcells, List.getElem?_toArray, List.getElem?_cons_succ, List.getElem?_cons_zero] at q0 q1 q2 q3 q4 q5 q6 q7 q8 q9
            have HF2 := Lib.hid (show w2.heap[d]? = some (.cells (dcells A1 c1 (some ⟨g, 0, none⟩) cL S) 75 (0, 0)) ∧ OwnB w2 V.heap.size A2 c2 (S.by_ 0) ∧ OwnB w2 V.heap.size A3 c3 (S.by_ 1) ∧ FarB A2 A3 ∧ Below V.heap.size V w2 from ⟨hq, ho2, ho3, hf23, hb2.os, hb2.tape, hb2.output, hb2.size, hb2.block⟩)
            clear ho2 ho3 hf23 hb2 hq
            first
              | refine hK.out _ _ (fun _ => hS2) ?_
              | (go_simp; refine hK.out _ _ (fun _ => hS2) ?_)
            clear hK K
            try simp only [Act.put, List.setIfInBounds_toArray, List.set_cons_zero, List.set_cons_succ]
            (refine tail.till_take 9 (v := ?_) rfl (by kernel_rfl) (by kernel_rfl) (by kernel_rfl) (by kernel_rfl) (by kernel_rfl) (fun _ _ _ h => h) (by rfl) (by assumption) ?_ ?_; rotate_left 1; (focus (intro X hX; obtain ⟨s1, s2, s3⟩ := hX; go_simp; with_reducible rfl)); (try simp only [Act.put, List.setIfInBounds_toArray, List.set_cons_zero, List.set_cons_succ]))
            (refine tail.till_take 10 (v := ?_) rfl (by kernel_rfl) (by kernel_rfl) (by kernel_rfl) (by kernel_rfl) (by kernel_rfl) (fun _ _ _ h => h) (by rfl) (by assumption) ?_ ?_; rotate_left 1; (focus (intro X hX; obtain ⟨s1, s2, s3⟩ := hX; go_simp; with_reducible rfl)); (try simp only [Act.put, List.setIfInBounds_toArray, List.set_cons_zero, List.set_cons_succ]))
            refine tail.till_one 11 (by kernel_rfl) rfl (fun K hK => ?_)
            go_simp
            refine hK.out _ _ (fun h => absurd rfl h) ?_
            clear hK K
            refine tail.till_done (by kernel_rfl) ?_ _
            go_wp2_with fail
            refine bodyPost_end (v := .tuple #[]) (by simp [results, Try.results15]) rfl ⟨rfl, ?_, ?_⟩
            · obtain ⟨g1, g2, g3, g4, g5⟩ := HF2.out
              have g6 := set10 g1 rfl (.slice (A1 0) n0 (c1 0)) (.slice (A1 1) n1 (c1 1)) (.int .i64 S.f0) (.slice A2 n0 c2) (.slice A3 n1 c3) (.int .i64 S.f0) (.slice none 0 0) (.bool false) (.int .i64 0) (.bool false)
              have e0 := N0.out
              have e1 := N1.out
              subst e0 e1
              refine H1.out.fresh g5 (Nat.le_refl _) g2 g3 g4 g6 (fun b hb => ?_) (by simp)
              repeat (rw [heap_setCell_other _ _ b _ (fun e => hb e)])
            · obtain ⟨g1, g2, g3, g4, g5⟩ := HF2.out
              repeat (with_reducible refine BelF.setCell ?_ hBd _)
              exact hbV.trans (BelF.of g5 (Nat.le_refl _))
        · obtain rfl : k = n := by omega
          clear l1 l2 l3 l4
          go_wp2_with fail
          have H1 := HKK
          rw [HALL.out (by have := HN.out; omega)] at H1
          have hbV := hb
          generalize c' = c1 at H1
          generalize A' = A1 at H1
          generalize wr = V at *
          obtain ⟨n0, hn0⟩ : ∃ n, n = (S.by_ 0).length := ⟨_, rfl⟩
          obtain ⟨n1, hn1⟩ : ∃ n, n = (S.by_ 1).length := ⟨_, rfl⟩
          have y0 : V.cell? ⟨d, 0, none⟩ = some (.slice (A1 0) n0 (c1 0)) := by rw [cell_d H1.out, hn0]; rfl
          have y1 : V.cell? ⟨d, 1, none⟩ = some (.slice (A1 1) n1 (c1 1)) := by rw [cell_d H1.out, hn1]; rfl
          have y2 : V.cell? ⟨d, 2, none⟩ = some (.int .i64 S.f0) := by rw [cell_d H1.out]; rfl
          have hCL := clone_any V.drew (d := d) (q := 0) S.f0 y0 y1 y2 hn0 hn1 (OwnB.rd (H1.out.own 0 (by omega))) (OwnB.rd (H1.out.own 1 (by omega))) (HLN.out 0 (by omega)) (HLN.out 1 (by omega))
          have HCL := Lib.hid hCL
          have N0 := Lib.hid hn0
          have N1 := Lib.hid hn1
          have hS0 : (fun X : World => (X.cell? ⟨d, 0, none⟩ = some (.slice (A1 0) n0 (c1 0)) ∧ X.cell? ⟨d, 1, none⟩ = some (.slice (A1 1) n1 (c1 1)) ∧ X.cell? ⟨d, 2, none⟩ = some (.int .i64 S.f0))) V.drew := ⟨y0, y1, y2⟩
          have hdV : d < V.heap.size := H1.out.dlt
          clear hCL hn0 hn1
          refine tail.wp_region_till 11 (fun X => (X.cell? ⟨d, 0, none⟩ = some (.slice (A1 0) n0 (c1 0)) ∧ X.cell? ⟨d, 1, none⟩ = some (.slice (A1 1) n1 (c1 1)) ∧ X.cell? ⟨d, 2, none⟩ = some (.int .i64 S.f0))) (by kernel_rfl) ?_
          (refine tail.till_take 0 (v := ?_) rfl (by kernel_rfl) (by kernel_rfl) (by kernel_rfl) (by kernel_rfl) (by kernel_rfl) (fun _ _ _ h => h) (by rfl) (by assumption) ?_ ?_; rotate_left 1; (focus (intro X hX; obtain ⟨s1, s2, s3⟩ := hX; go_simp; with_reducible rfl)); (try simp only [Act.put, List.setIfInBounds_toArray, List.set_cons_zero, List.set_cons_succ]))
          (refine tail.till_take 1 (v := ?_) rfl (by kernel_rfl) (by kernel_rfl) (by kernel_rfl) (by kernel_rfl) (by kernel_rfl) (fun _ _ _ h => h) (by rfl) (by assumption) ?_ ?_; rotate_left 1; (focus (intro X hX; obtain ⟨s1, s2, s3⟩ := hX; go_simp; with_reducible rfl)); (try simp only [Act.put, List.setIfInBounds_toArray, List.set_cons_zero, List.set_cons_succ]))
          (refine tail.till_take 2 (v := ?_) rfl (by kernel_rfl) (by kernel_rfl) (by kernel_rfl) (by kernel_rfl) (by kernel_rfl) (fun _ _ _ h => h) (by rfl) (by assumption) ?_ ?_; rotate_left 1; (focus (intro X hX; obtain ⟨s1, s2, s3⟩ := hX; go_simp; with_reducible rfl)); (try simp only [Act.put, List.setIfInBounds_toArray, List.set_cons_zero, List.set_cons_succ]))
          (refine tail.till_take 3 (v := ?_) rfl (by kernel_rfl) (by kernel_rfl) (by kernel_rfl) (by kernel_rfl) (by kernel_rfl) (fun _ _ _ h => h) (by rfl) (by assumption) ?_ ?_; rotate_left 1; (focus (intro X hX; obtain ⟨s1, s2, s3⟩ := hX; go_simp; with_reducible rfl)); (try simp only [Act.put, List.setIfInBounds_toArray, List.set_cons_zero, List.set_cons_succ]))
          (refine tail.till_take 4 (v := ?_) rfl (by kernel_rfl) (by kernel_rfl) (by kernel_rfl) (by kernel_rfl) (by kernel_rfl) (fun _ _ _ h => h) (by rfl) (by assumption) ?_ ?_; rotate_left 1; (focus (intro X hX; obtain ⟨s1, s2, s3⟩ := hX; go_simp; with_reducible rfl)); (try simp only [Act.put, List.setIfInBounds_toArray, List.set_cons_zero, List.set_cons_succ]))
          (refine tail.till_take 5 (v := ?_) rfl (by kernel_rfl) (by kernel_rfl) (by kernel_rfl) (by kernel_rfl) (by kernel_rfl) (fun _ _ _ h => h) (by rfl) (by assumption) ?_ ?_; rotate_left 1; (focus (intro X hX; obtain ⟨s1, s2, s3⟩ := hX; go_simp; with_reducible rfl)); (try simp only [Act.put, List.setIfInBounds_toArray, List.set_cons_zero, List.set_cons_succ]))
          (refine tail.till_take 6 (v := ?_) rfl (by kernel_rfl) (by kernel_rfl) (by kernel_rfl) (by kernel_rfl) (by kernel_rfl) (fun _ _ _ h => h) (by rfl) (by assumption) ?_ ?_; rotate_left 1; (focus (intro X hX; obtain ⟨s1, s2, s3⟩ := hX; go_simp; with_reducible rfl)); (try simp only [Act.put, List.setIfInBounds_toArray, List.set_cons_zero, List.set_cons_succ]))
          (refine tail.till_take 7 (v := ?_) rfl (by kernel_rfl) (by kernel_rfl) (by kernel_rfl) (by kernel_rfl) (by kernel_rfl) (fun _ _ _ h => h) (by rfl) (by assumption) ?_ ?_; rotate_left 1; (focus (intro X hX; obtain ⟨s1, s2, s3⟩ := hX; go_simp; with_reducible rfl)); (try simp only [Act.put, List.setIfInBounds_toArray, List.set_cons_zero, List.set_cons_succ]))
          refine tail.till_one 8 (by kernel_rfl) rfl (fun K hK => ?_)
          go_simp
          go_at_call 46
          refine HCL.out.mono ?_
          rintro e w2 ⟨A2, c2, A3, c3, rfl, ho2, ho3, hf23, hb2⟩
          have hS2 : (fun X : World => (X.cell? ⟨d, 0, none⟩ = some (.slice (A1 0) n0 (c1 0)) ∧ X.cell? ⟨d, 1, none⟩ = some (.slice (A1 1) n1 (c1 1)) ∧ X.cell? ⟨d, 2, none⟩ = some (.int .i64 S.f0))) w2 := ⟨keepc (W := V.drew) y0 hb2, keepc (W := V.drew) y1 hb2, keepc (W := V.drew) y2 hb2⟩
          have hq : w2.heap[d]? = some (.cells (dcells A1 c1 AL cL S) 75 (0, 0)) := (hb2.block _ hdV).trans H1.out.cells
          have q0 : w2.cell? ⟨d, 0, none⟩ = _ := cell_of_row _ _ _ _ _ (0, 0) hq
          have q1 : w2.cell? ⟨d, 1, none⟩ = _ := cell_of_row _ _ _ _ _ (0, 0) hq
          have q2 : w2.cell? ⟨d, 2, none⟩ = _ := cell_of_row _ _ _ _ _ (0, 0) hq
          have q3 : w2.cell? ⟨d, 3, none⟩ = _ := cell_of_row _ _ _ _ _ (0, 0) hq
          have q4 : w2.cell? ⟨d, 4, none⟩ = _ := cell_of_row _ _ _ _ _ (0, 0) hq
          have q5 : w2.cell? ⟨d, 5, none⟩ = _ := cell_of_row _ _ _ _ _ (0, 0) hq
          have q6 : w2.cell? ⟨d, 6, none⟩ = _ := cell_of_row _ _ _ _ _ (0, 0) hq
          have q7 : w2.cell? ⟨d, 7, none⟩ = _ := cell_of_row _ _ _ _ _ (0, 0) hq
          have q8 : w2.cell? ⟨d, 8, none⟩ = _ := cell_of_row _ _ _ _ _ (0, 0) hq
          have q9 : w2.cell? ⟨d, 9, none⟩ = _ := cell_of_row _ _ _ _ _ (0, 0) hq
          have qf : ∀ j, w2.frozen? ⟨d, j, none⟩ = false := fun j => frozen_of_row _ _ j _ _ hq
          simp only [dcells, List.getElem?_toArray, List.getElem?_cons_succ, List.getElem?_cons_zero] at q0 q1 q2 q3 q4 q5 q6 q7 q8 q9
          have HF2 := Lib.hid (show w2.heap[d]? = some (.cells (dcells A1 c1 AL cL S) 75 (0, 0)) ∧ OwnB w2 V.heap.size A2 c2 (S.by_ 0) ∧ OwnB w2 V.heap.size A3 c3 (S.by_ 1) ∧ FarB A2 A3 ∧ Below V.heap.size V w2 from ⟨hq, ho2, ho3, hf23, hb2.os, hb2.tape, hb2.output, hb2.size, hb2.block⟩)
          clear ho2 ho3 hf23 hb2 hq
          first
            | refine hK.out _ _ (fun _ => hS2) ?_
            | (go_simp; refine hK.out _ _ (fun _ => hS2) ?_)
          clear hK K
          try simp only [Act.put, List.setIfInBounds_toArray, List.set_cons_zero, List.set_cons_succ]
          (refine tail.till_take 9 (v := ?_) rfl (by kernel_rfl) (by kernel_rfl) (by kernel_rfl) (by kernel_rfl) (by kernel_rfl) (fun _ _ _ h => h) (by rfl) (by assumption) ?_ ?_; rotate_left 1; (focus (intro X hX; obtain ⟨s1, s2, s3⟩ := hX; go_simp; with_reducible rfl)); (try simp only [Act.put, List.setIfInBounds_toArray, List.set_cons_zero, List.set_cons_succ]))
          (refine tail.till_take 10 (v := ?_) rfl (by kernel_rfl) (by kernel_rfl) (by kernel_rfl) (by kernel_rfl) (by kernel_rfl) (fun _ _ _ h => h) (by rfl) (by assumption) ?_ ?_; rotate_left 1; (focus (intro X hX; obtain ⟨s1, s2, s3⟩ := hX; go_simp; with_reducible rfl)); (try simp only [Act.put, List.setIfInBounds_toArray, List.set_cons_zero, List.set_cons_succ]))
          refine tail.till_one 11 (by kernel_rfl) rfl (fun K hK => ?_)
          go_simp
          refine hK.out _ _ (fun h => absurd rfl h) ?_
          clear hK K
          refine tail.till_done (by kernel_rfl) ?_ _
          go_wp2_with fail
          refine bodyPost_end (v := .tuple #[]) (by simp [results, Try.results15]) rfl ⟨rfl, ?_, ?_⟩
          · obtain ⟨g1, g2, g3, g4, g5⟩ := HF2.out
            have g6 := set10 g1 rfl (.slice (A1 0) n0 (c1 0)) (.slice (A1 1) n1 (c1 1)) (.int .i64 S.f0) (.slice A2 n0 c2) (.slice A3 n1 c3) (.int .i64 S.f0) (.slice none 0 0) (.bool false) (.int .i64 0) (.bool false)
            have e0 := N0.out
            have e1 := N1.out
            subst e0 e1
            refine H1.out.fresh g5 (Nat.le_refl _) g2 g3 g4 g6 (fun b hb => ?_) (by simp)
            repeat (rw [heap_setCell_other _ _ b _ (fun e => hb e)])
          · obtain ⟨g1, g2, g3, g4, g5⟩ := HF2.out
            repeat (with_reducible refine BelF.setCell ?_ hBd _)
            exact hbV.trans (BelF.of g5 (Nat.le_refl _))
  · subst k2
    go_enter Try.func15, Try.ntmps15
    go_wp2_with fail
    go_loopw [24] (fun vi wr => ∃ (k : Nat) (A' : Nat → Option Addr) (c' : Nat → Nat), k ≤ 0 ∧ vi = .int .i64 k ∧ Hid (DiskP wr F G d (foldS 0 s (s.lo.take 0)) A' c' AL cL H) ∧ BelF F w wr ∧ w.heap.size ≤ wr.heap.size) (fun vi _ => 0 - (intOf vi).toNat)
    case atStart => exact ⟨0, A, c, Nat.zero_le _, rfl, HP, BelF.refl _ _, Nat.le_refl _⟩
    case round =>
      obtain ⟨k, A', c', hk, rfl, HKK, hb, hsz⟩ := hrel
      by_cases hlt : k < 0
      · exact absurd hlt (by omega)
      · obtain rfl : k = 0 := by omega
        obtain ⟨l1, l2, l3, l4⟩ := foldS_same 0 (s.lo.take 0) s
        have e6 : wr.cell? ⟨d, 6, none⟩ = some (.slice AL (foldS 0 s (s.lo.take 0)).lo.length cL) := by rw [cell_d HKK.out]; rfl
        rw [l1, ← HN.out] at e6
        by_cases hkq : 0 < n
        · have hkl : 0 < s.lo.length := by have := HN.out; omega
          have hkf : 0 < (foldS 0 s (s.lo.take 0)).lo.length := by rw [l1]; exact hkl
          obtain ⟨g, Ab, cb, eA, hgl, r1, r2, r3, he⟩ := HKK.out.rowAt hkf
          subst eA
          have heq : (foldS 0 s (s.lo.take 0)).lo[0]'hkf = s.lo[0] := by simp only [l1]; try rfl
          rw [heq] at r1 r2 r3 he
          simp only [Nat.zero_mul, Nat.zero_add] at r1 r2 r3
          obtain ⟨p1, p2, b, hp⟩ : ∃ x y z, s.lo[0] = (x, y, z) := ⟨_, _, _, rfl⟩
          obtain ⟨m, hm⟩ : ∃ m, m = b.length := ⟨_, rfl⟩
          have hgood : GoodC (p1, p2, b) := by rw [← hp]; exact HS.out.2.2 0 hkl
          rw [hp] at r1 r2 r3 he
          simp only at r1 r2 r3 he
          rw [← hm] at r3 he
          have HPP := Lib.hid hp
          have HM := Lib.hid hm
          have HG := Lib.hid hgood
          have HE := Lib.hid he
          have hkq' : (0 : Int) < n := by omega
          have hq0 : (0 : Int) ≤ 0 := by omega
          have he0 := he
          clear hp hgood he heq l1 l2 l3 l4
          by_cases hz : p1 = 0
          · subst hz
            obtain ⟨tt, htt⟩ : ∃ t : Nat, t = min (max torn 0).toNat m := ⟨_, rfl⟩
            have htm : tt ≤ m := by omega
            have htc : tt ≤ cb := by
              obtain ⟨_, _, e1, _, hle, _⟩ := he0
              injection e1 with _ e2 e3
              omega
            have h3 : (torn < 0 ∧ tt = 0) ∨ (0 ≤ torn ∧ torn ≤ m ∧ torn = tt) ∨ ((m : Int) < torn ∧ 0 ≤ torn ∧ tt = m) := by omega
            have HT := Lib.hid htt
            clear htt he0 hm
            rcases h3 with ⟨t1, t2⟩ | ⟨t1, t2, t3⟩ | ⟨t1, t2, t3⟩
            · subst t2
              go_wp2_with fail
              have hbA : Below wr.heap.size wr (wr.alloc (.cells #[.int .i64 0, .int .i64 p2, .slice Ab 0 cb] 79)) := (Below.refl _ _).alloc (Nat.le_refl _) _
              have hbD : Below wr.heap.size wr (wr.alloc (.cells #[.int .i64 0, .int .i64 p2, .slice Ab 0 cb] 79)).drew := below_drew hbA
              obtain ⟨Ai, ci, e1, hrb, -⟩ := HE.out.below hbD (Nat.le_refl _)
              injection e1 with e1 e4 e3
              subst e1 e3
              clear e4
              have hlen := foldS_len 0 (s.lo.take 0) s (0 + p2.toNat)
              have htt : tot (s.lo.take 0) + s.lo[0].2.2.length ≤ tot s.lo := tot_take s.lo 0 hkl
              rw [HPP.out] at htt
              have hgood := HG.out
              have hp2 : 0 + p2.toNat < 4 := by rcases hgood.2 with e | e <;> simp only at e <;> omega
              have hsk := HS.out.1 (0 + p2.toNat) hp2
              have hml := HM.out
              have hDo := do_any _ (HKK.out.below hbD (Nat.le_refl _)) 0 (.inl rfl) (0, p2, b.take 0) ⟨.inl rfl, hgood.2⟩ (m := 0) (by simp only [List.length_take]; omega) (rd_take hrb (m := 0) (by omega)) (Nat.le_refl _) (by simp only [List.length_take] at htt ⊢; omega) 0 rfl (cb := cb)
              have HDO := Lib.hid hDo
              have hcut : b.take 0 = cutB torn b := by unfold cutB; congr 1; omega
              have HC := Lib.hid hcut
              have hbB : BelF F wr (wr.alloc (.cells #[.int .i64 0, .int .i64 p2, .slice Ab 0 cb] 79)).drew := BelF.of hbD (Nat.le_refl _)
              clear hDo hcut hml hsk hp2 hgood htt hlen hrb
              go_region_law (go_simp; go_at_call 45; refine (HDO.out).mono ?_; rintro e w1 ⟨rfl, A1, c1, h1, hb1, -, -⟩)
              have H1 := Lib.hid h1
              have hb2 := hb.trans (hbB.trans hb1)
              have hs2 := hb2.size
              clear h1 HDO hb1
              go_wp2_with fail
              rw [HC.out, HCUT.out hkl _ _ _ HPP.out rfl] at H1
              have hbV := hb2
              clear HKK HE hb hsz hbA hbD hbB
              generalize w1 = V at *
              obtain ⟨n0, hn0⟩ : ∃ n, n = (S.by_ 0).length := ⟨_, rfl⟩
              obtain ⟨n1, hn1⟩ : ∃ n, n = (S.by_ 1).length := ⟨_, rfl⟩
              have y0 : V.cell? ⟨d, 0, none⟩ = some (.slice (A1 0) n0 (c1 0)) := by rw [cell_d H1.out, hn0]; rfl
              have y1 : V.cell? ⟨d, 1, none⟩ = some (.slice (A1 1) n1 (c1 1)) := by rw [cell_d H1.out, hn1]; rfl
              have y2 : V.cell? ⟨d, 2, none⟩ = some (.int .i64 S.f0) := by rw [cell_d H1.out]; rfl
              have hCL := clone_any V.drew (d := d) (q := 0) S.f0 y0 y1 y2 hn0 hn1 (OwnB.rd (H1.out.own 0 (by omega))) (OwnB.rd (H1.out.own 1 (by omega))) (HLN.out 0 (by omega)) (HLN.out 1 (by omega))
              have HCL := Lib.hid hCL
              have N0 := Lib.hid hn0
              have N1 := Lib.hid hn1
              have hS0 : (fun X : World => (X.cell? ⟨d, 0, none⟩ = some (.slice (A1 0) n0 (c1 0)) ∧ X.cell? ⟨d, 1, none⟩ = some (.slice (A1 1) n1 (c1 1)) ∧ X.cell? ⟨d, 2, none⟩ = some (.int .i64 S.f0))) V.drew := ⟨y0, y1, y2⟩
              have hdV : d < V.heap.size := H1.out.dlt
              clear hCL hn0 hn1
              refine tail.wp_region_till 11 (fun X => (X.cell? ⟨d, 0, none⟩ = some (.slice (A1 0) n0 (c1 0)) ∧ X.cell? ⟨d, 1, none⟩ = some (.slice (A1 1) n1 (c1 1)) ∧ X.cell? ⟨d, 2, none⟩ = some (.int .i64 S.f0))) (by kernel_rfl) ?_
              (refine tail.till_take 0 (v := ?_) rfl (by kernel_rfl) (by kernel_rfl) (by kernel_rfl) (by kernel_rfl) (by kernel_rfl) (fun _ _ _ h => h) (by rfl) (by assumption) ?_ ?_; rotate_left 1; (focus (intro X hX; obtain ⟨s1, s2, s3⟩ := hX; go_simp; with_reducible rfl)); (try simp only [Act.put, List.setIfInBounds_toArray, List.set_cons_zero, List.set_cons_succ]))
              (refine tail.till_take 1 (v := ?_) rfl (by kernel_rfl) (by kernel_rfl) (by kernel_rfl) (by kernel_rfl) (by kernel_rfl) (fun _ _ _ h => h) (by rfl) (by assumption) ?_ ?_; rotate_left 1; (focus (intro X hX; obtain ⟨s1, s2, s3⟩ := hX; go_simp; with_reducible rfl)); (try simp only [Act.put, List.setIfInBounds_toArray, List.set_cons_zero, List.set_cons_succ]))
              (refine tail.till_take 2 (v := ?_) rfl (by kernel_rfl) (by kernel_rfl) (by kernel_rfl) (by kernel_rfl) (by kernel_rfl) (fun _ _ _ h => h) (by rfl) (by assumption) ?_ ?_; rotate_left 1; (focus (intro X hX; obtain ⟨s1, s2, s3⟩ := hX; go_simp; with_reducible rfl)); (try simp only [Act.put, List.setIfInBounds_toArray, List.set_cons_zero, List.set_cons_succ]))
              (refine tail.till_take 3 (v := ?_) rfl (by kernel_rfl) (by kernel_rfl) (by kernel_rfl) (by kernel_rfl) (by kernel_rfl) (fun _ _ _ h => h) (by rfl) (by assumption) ?_ ?_; rotate_left 1; (focus (intro X hX; obtain ⟨s1, s2, s3⟩ := hX; go_simp; with_reducible rfl)); (try simp only [Act.put, List.setIfInBounds_toArray, List.set_cons_zero, List.set_cons_succ]))
              (refine tail.till_take 4 (v := ?_) rfl (by kernel_rfl) (by kernel_rfl) (by kernel_rfl) (by kernel_rfl) (by kernel_rfl) (fun _ _ _ h => h) (by rfl) (by assumption) ?_ ?_; rotate_left 1; (focus (intro X hX; obtain ⟨s1, s2, s3⟩ := hX; go_simp; with_reducible rfl)); (try simp only [Act.put, List.setIfInBounds_toArray, List.set_cons_zero, List.set_cons_succ]))
              (refine tail.till_take 5 (v := ?_) rfl (by kernel_rfl) (by kernel_rfl) (by kernel_rfl) (by kernel_rfl) (by kernel_rfl) (fun _ _ _ h => h) (by rfl) (by assumption) ?_ ?_; rotate_left 1; (focus (intro X hX; obtain ⟨s1, s2, s3⟩ := hX; go_simp; with_reducible rfl)); (try simp only [Act.put, List.setIfInBounds_toArray, List.set_cons_zero, List.set_cons_succ]))
              (refine tail.till_take 6 (v := ?_) rfl (by kernel_rfl) (by kernel_rfl) (by kernel_rfl) (by kernel_rfl) (by kernel_rfl) (fun _ _ _ h => h) (by rfl) (by assumption) ?_ ?_; rotate_left 1; (focus (intro X hX; obtain ⟨s1, s2, s3⟩ := hX; go_simp; with_reducible rfl)); (try simp only [Act.put, List.setIfInBounds_toArray, List.set_cons_zero, List.set_cons_succ]))
              (refine tail.till_take 7 (v := ?_) rfl (by kernel_rfl) (by kernel_rfl) (by kernel_rfl) (by kernel_rfl) (by kernel_rfl) (fun _ _ _ h => h) (by rfl) (by assumption) ?_ ?_; rotate_left 1; (focus (intro X hX; obtain ⟨s1, s2, s3⟩ := hX; go_simp; with_reducible rfl)); (try simp only [Act.put, List.setIfInBounds_toArray, List.set_cons_zero, List.set_cons_succ]))
              refine tail.till_one 8 (by kernel_rfl) rfl (fun K hK => ?_)
              go_simp
              go_at_call 46
              refine HCL.out.mono ?_
              rintro e w2 ⟨A2, c2, A3, c3, rfl, ho2, ho3, hf23, hb2⟩
              have hS2 : (fun X : World => (X.cell? ⟨d, 0, none⟩ = some (.slice (A1 0) n0 (c1 0)) ∧ X.cell? ⟨d, 1, none⟩ = some (.slice (A1 1) n1 (c1 1)) ∧ X.cell? ⟨d, 2, none⟩ = some (.int .i64 S.f0))) w2 := ⟨keepc (W := V.drew) y0 hb2, keepc (W := V.drew) y1 hb2, keepc (W := V.drew) y2 hb2⟩
              have hq : w2.heap[d]? = some (.cells (dcells A1 c1 (some ⟨g, 0, none⟩) cL S) 75 (0, 0)) := (hb2.block _ hdV).trans H1.out.cells
              have q0 : w2.cell? ⟨d, 0, none⟩ = _ := cell_of_row _ _ _ _ _ (0, 0) hq
              have q1 : w2.cell? ⟨d, 1, none⟩ = _ := cell_of_row _ _ _ _ _ (0, 0) hq
              have q2 : w2.cell? ⟨d, 2, none⟩ = _ := cell_of_row _ _ _ _ _ (0, 0) hq
              have q3 : w2.cell? ⟨d, 3, none⟩ = _ := cell_of_row _ _ _ _ _ (0, 0) hq
              have q4 : w2.cell? ⟨d, 4, none⟩ = _ := cell_of_row _ _ _ _ _ (0, 0) hq
              have q5 : w2.cell? ⟨d, 5, none⟩ = _ := cell_of_row _ _ _ _ _ (0, 0) hq
              have q6 : w2.cell? ⟨d, 6, none⟩ = _ := cell_of_row _ _ _ _ _ (0, 0) hq
              have q7 : w2.cell? ⟨d, 7, none⟩ = _ := cell_of_row _ _ _ _ _ (0, 0) hq
              have q8 : w2.cell? ⟨d, 8, none⟩ = _ := cell_of_row _ _ _ _ _ (0, 0) hq
              have q9 : w2.cell? ⟨d, 9, none⟩ = _ := cell_of_row _ _ _ _ _ (0, 0) hq
              have qf : ∀ j, w2.frozen? ⟨d, j, none⟩ = false := fun j => frozen_of_row _ _ j _ _ hq
              simp only [dcells, List.getElem?_toArray, List.getElem?_cons_succ, List.getElem?_cons_zero] at q0 q1 q2 q3 q4 q5 q6 q7 q8 q9
              have HF2 := Lib.hid (show w2.heap[d]? = some (.cells (dcells A1 c1 (some ⟨g, 0, none⟩) cL S) 75 (0, 0)) ∧ OwnB w2 V.heap.size A2 c2 (S.by_ 0) ∧ OwnB w2 V.heap.size A3 c3 (S.by_ 1) ∧ FarB A2 A3 ∧ Below V.heap.size V w2 from ⟨hq, ho2, ho3, hf23, hb2.os, hb2.tape, hb2.output, hb2.size, hb2.block⟩)
              clear ho2 ho3 hf23 hb2 hq
              first
                | refine hK.out _ _ (fun _ => hS2) ?_
                | (go_simp; refine hK.out _ _ (fun _ => hS2) ?_)
              clear hK K
              try simp only [Act.put, List.setIfInBounds_toArray, List.set_cons_zero, List.set_cons_succ]
              (refine tail.till_take 9 (v := ?_) rfl (by kernel_rfl) (by kernel_rfl) (by kernel_rfl) (by kernel_rfl) (by kernel_rfl) (fun _ _ _ h => h) (by rfl) (by assumption) ?_ ?_; rotate_left 1; (focus (intro X hX; obtain ⟨s1, s2, s3⟩ := hX; go_simp; with_reducible rfl)); (try simp only [Act.put, List.setIfInBounds_toArray, List.set_cons_zero, List.set_cons_succ]))
              (refine tail.till_take 10 (v := ?_) rfl (by kernel_rfl) (by kernel_rfl) (by kernel_rfl) (by kernel_rfl) (by kernel_rfl) (fun _ _ _ h => h) (by rfl) (by assumption) ?_ ?_; rotate_left 1; (focus (intro X hX; obtain ⟨s1, s2, s3⟩ := hX; go_simp; with_reducible rfl)); (try simp only [Act.put, List.setIfInBounds_toArray, List.set_cons_zero, List.set_cons_succ]))
              refine tail.till_one 11 (by kernel_rfl) rfl (fun K hK => ?_)
              go_simp
              refine hK.out _ _ (fun h => absurd rfl h) ?_
              clear hK K
              refine tail.till_done (by kernel_rfl) ?_ _
              go_wp2_with fail
              refine bodyPost_end (v := .tuple #[]) (by simp [results, Try.results15]) rfl ⟨rfl, ?_, ?_⟩
              · obtain ⟨g1, g2, g3, g4, g5⟩ := HF2.out
                have g6 := set10 g1 rfl (.slice (A1 0) n0 (c1 0)) (.slice (A1 1) n1 (c1 1)) (.int .i64 S.f0) (.slice A2 n0 c2) (.slice A3 n1 c3) (.int .i64 S.f0) (.slice none 0 0) (.bool false) (.int .i64 0) (.bool false)
                have e0 := N0.out
                have e1 := N1.out
                subst e0 e1
                refine H1.out.fresh g5 (Nat.le_refl _) g2 g3 g4 g6 (fun b hb => ?_) (by simp)
                repeat (rw [heap_setCell_other _ _ b _ (fun e => hb e)])
              · obtain ⟨g1, g2, g3, g4, g5⟩ := HF2.out
                repeat (with_reducible refine BelF.setCell ?_ hBd _)
                exact hbV.trans (BelF.of g5 (Nat.le_refl _))
            · obtain rfl := t3
              go_wp2_with fail
              have hbA : Below wr.heap.size wr (wr.alloc (.cells #[.int .i64 0, .int .i64 p2, .slice Ab tt cb] 79)) := (Below.refl _ _).alloc (Nat.le_refl _) _
              have hbD : Below wr.heap.size wr (wr.alloc (.cells #[.int .i64 0, .int .i64 p2, .slice Ab tt cb] 79)).drew := below_drew hbA
              obtain ⟨Ai, ci, e1, hrb, -⟩ := HE.out.below hbD (Nat.le_refl _)
              injection e1 with e1 e4 e3
              subst e1 e3
              clear e4
              have hlen := foldS_len 0 (s.lo.take 0) s (0 + p2.toNat)
              have htt : tot (s.lo.take 0) + s.lo[0].2.2.length ≤ tot s.lo := tot_take s.lo 0 hkl
              rw [HPP.out] at htt
              have hgood := HG.out
              have hp2 : 0 + p2.toNat < 4 := by rcases hgood.2 with e | e <;> simp only at e <;> omega
              have hsk := HS.out.1 (0 + p2.toNat) hp2
              have hml := HM.out
              have hDo := do_any _ (HKK.out.below hbD (Nat.le_refl _)) 0 (.inl rfl) (0, p2, b.take tt) ⟨.inl rfl, hgood.2⟩ (m := tt) (by simp only [List.length_take]; omega) (rd_take hrb (m := tt) (by omega)) (Nat.le_refl _) (by simp only [List.length_take] at htt ⊢; omega) 0 rfl (cb := cb)
              have HDO := Lib.hid hDo
              have hcut : b.take tt = cutB tt b := by unfold cutB; congr 1; omega
              have HC := Lib.hid hcut
              have hbB : BelF F wr (wr.alloc (.cells #[.int .i64 0, .int .i64 p2, .slice Ab tt cb] 79)).drew := BelF.of hbD (Nat.le_refl _)
              clear hDo hcut hml hsk hp2 hgood htt hlen hrb
              go_region_law (go_simp; go_at_call 45; refine (HDO.out).mono ?_; rintro e w1 ⟨rfl, A1, c1, h1, hb1, -, -⟩)
              have H1 := Lib.hid h1
              have hb2 := hb.trans (hbB.trans hb1)
              have hs2 := hb2.size
              clear h1 HDO hb1
              go_wp2_with fail
              rw [HC.out, HCUT.out hkl _ _ _ HPP.out rfl] at H1
              have hbV := hb2
              clear HKK HE hb hsz hbA hbD hbB
              generalize w1 = V at *
              obtain ⟨n0, hn0⟩ : ∃ n, n = (S.by_ 0).length := ⟨_, rfl⟩
              obtain ⟨n1, hn1⟩ : ∃ n, n = (S.by_ 1).length := ⟨_, rfl⟩
              have y0 : V.cell? ⟨d, 0, none⟩ = some (.slice (A1 0) n0 (c1 0)) := by rw [cell_d H1.out, hn0]; rfl
              have y1 : V.cell? ⟨d, 1, none⟩ = some (.slice (A1 1) n1 (c1 1)) := by rw [cell_d H1.out, hn1]; rfl
              have y2 : V.cell? ⟨d, 2, none⟩ = some (.int .i64 S.f0) := by rw [cell_d H1.out]; rfl
              have hCL := clone_any V.drew (d := d) (q := 0) S.f0 y0 y1 y2 hn0 hn1 (OwnB.rd (H1.out.own 0 (by omega))) (OwnB.rd (H1.out.own 1 (by omega))) (HLN.out 0 (by omega)) (HLN.out 1 (by omega))
              have HCL := Lib.hid hCL
              have N0 := Lib.hid hn0
              have N1 := Lib.hid hn1
              have hS0 : (fun X : World => (X.cell? ⟨d, 0, none⟩ = some (.slice (A1 0) n0 (c1 0)) ∧ X.cell? ⟨d, 1, none⟩ = some (.slice (A1 1) n1 (c1 1)) ∧ X.cell? ⟨d, 2, none⟩ = some (.int .i64 S.f0))) V.drew := ⟨y0, y1, y2⟩
              have hdV : d < V.heap.size := H1.out.dlt
              clear hCL hn0 hn1
              refine tail.wp_region_till 11 (fun X => (X.cell? ⟨d, 0, none⟩ = some (.slice (A1 0) n0 (c1 0)) ∧ X.cell? ⟨d, 1, none⟩ = some (.slice (A1 1) n1 (c1 1)) ∧ X.cell? ⟨d, 2, none⟩ = some (.int .i64 S.f0))) (by kernel_rfl) ?_
              (refine tail.till_take 0 (v := ?_) rfl (by kernel_rfl) (by kernel_rfl) (by kernel_rfl) (by kernel_rfl) (by kernel_rfl) (fun _ _ _ h => h) (by rfl) (by assumption) ?_ ?_; rotate_left 1; (focus (intro X hX; obtain ⟨s1, s2, s3⟩ := hX; go_simp; with_reducible rfl)); (try simp only [Act.put, List.setIfInBounds_toArray, List.set_cons_zero, List.set_cons_succ]))
              (refine tail.till_take 1 (v := ?_) rfl (by kernel_rfl) (by kernel_rfl) (by kernel_rfl) (by kernel_rfl) (by kernel_rfl) (fun _ _ _ h => h) (by rfl) (by assumption) ?_ ?_; rotate_left 1; (focus (intro X hX; obtain ⟨s1, s2, s3⟩ := hX; go_simp; with_reducible rfl)); (try simp only [Act.put, List.setIfInBounds_toArray, List.set_cons_zero, List.set_cons_succ]))
              (refine tail.till_take 2 (v := ?_) rfl (by kernel_rfl) (by kernel_rfl) (by kernel_rfl) (by kernel_rfl) (by kernel_rfl) (fun _ _ _ h => h) (by rfl) (by assumption) ?_ ?_; rotate_left 1; (focus (intro X hX; obtain ⟨s1, s2, s3⟩ := hX; go_simp; with_reducible rfl)); (try simp only [Act.put, List.setIfInBounds_toArray, List.set_cons_zero, List.set_cons_succ]))
              (refine tail.till_take 3 (v := ?_) rfl (by kernel_rfl) (by kernel_rfl) (by kernel_rfl) (by kernel_rfl) (by kernel_rfl) (fun _ _ _ h => h) (by rfl) (by assumption) ?_ ?_; rotate_left 1; (focus (intro X hX; obtain ⟨s1, s2, s3⟩ := hX; go_simp; with_reducible rfl)); (try simp only [Act.put, List.setIfInBounds_toArray, List.set_cons_zero, List.set_cons_succ]))
              (refine tail.till_take 4 (v := ?_) rfl (by kernel_rfl) (by kernel_rfl) (by kernel_rfl) (by kernel_rfl) (by kernel_rfl) (fun _ _ _ h => h) (by rfl) (by assumption) ?_ ?_; rotate_left 1; (focus (intro X hX; obtain ⟨s1, s2, s3⟩ := hX; go_simp; with_reducible rfl)); (try simp only [Act.put, List.setIfInBounds_toArray, List.set_cons_zero, List.set_cons_succ]))
              (refine tail.till_take 5 (v := ?_) rfl (by kernel_rfl) (by kernel_rfl) (by kernel_rfl) (by kernel_rfl) (by kernel_rfl) (fun _ _ _ h => h) (by rfl) (by assumption) ?_ ?_; rotate_left 1; (focus (intro X hX; obtain ⟨s1, s2, s3⟩ := hX; go_simp; with_reducible rfl)); (try simp only [Act.put, List.setIfInBounds_toArray, List.set_cons_zero, List.set_cons_succ]))
              (refine tail.till_take 6 (v := ?_) rfl (by kernel_rfl) (by kernel_rfl) (by kernel_rfl) (by kernel_rfl) (by kernel_rfl) (fun _ _ _ h => h) (by rfl) (by assumption) ?_ ?_; rotate_left 1; (focus (intro X hX; obtain ⟨s1, s2, s3⟩ := hX; go_simp; with_reducible rfl)); (try simp only [Act.put, List.setIfInBounds_toArray, List.set_cons_zero, List.set_cons_succ]))
              (refine tail.till_take 7 (v := ?_) rfl (by kernel_rfl) (by kernel_rfl) (by kernel_rfl) (by kernel_rfl) (by kernel_rfl) (fun _ _ _ h => h) (by rfl) (by assumption) ?_ ?_; rotate_left 1; (focus (intro X hX; obtain ⟨s1, s2, s3⟩ := hX; go_simp; with_reducible rfl)); (try simp only [Act.put, List.setIfInBounds_toArray, List.set_cons_zero, List.set_cons_succ]))
              refine tail.till_one 8 (by kernel_rfl) rfl (fun K hK => ?_)
              go_simp
              go_at_call 46
              refine HCL.out.mono ?_
              rintro e w2 ⟨A2, c2, A3, c3, rfl, ho2, ho3, hf23, hb2⟩
              have hS2 : (fun X : World => (X.cell? ⟨d, 0, none⟩ = some (.slice (A1 0) n0 (c1 0)) ∧ X.cell? ⟨d, 1, none⟩ = some (.slice (A1 1) n1 (c1 1)) ∧ X.cell? ⟨d, 2, none⟩ = some (.int .i64 S.f0))) w2 := ⟨keepc (W := V.drew) y0 hb2, keepc (W := V.drew) y1 hb2, keepc (W := V.drew) y2 hb2⟩
              have hq : w2.heap[d]? = some (.cells (dcells A1 c1 (some ⟨g, 0, none⟩) cL S) 75 (0, 0)) := (hb2.block _ hdV).trans H1.out.cells
              have q0 : w2.cell? ⟨d, 0, none⟩ = _ := cell_of_row _ _ _ _ _ (0, 0) hq
              have q1 : w2.cell? ⟨d, 1, none⟩ = _ := cell_of_row _ _ _ _ _ (0, 0) hq
              have q2 : w2.cell? ⟨d, 2, none⟩ = _ := cell_of_row _ _ _ _ _ (0, 0) hq
              have q3 : w2.cell? ⟨d, 3, none⟩ = _ := cell_of_row _ _ _ _ _ (0, 0) hq
              have q4 : w2.cell? ⟨d, 4, none⟩ = _ := cell_of_row _ _ _ _ _ (0, 0) hq
              have q5 : w2.cell? ⟨d, 5, none⟩ = _ := cell_of_row _ _ _ _ _ (0, 0) hq
              have q6 : w2.cell? ⟨d, 6, none⟩ = _ := cell_of_row _ _ _ _ _ (0, 0) hq
              have q7 : w2.cell? ⟨d, 7, none⟩ = _ := cell_of_row _ _ _ _ _ (0, 0) hq
              have q8 : w2.cell? ⟨d, 8, none⟩ = _ := cell_of_row _ _ _ _ _ (0, 0) hq
              have q9 : w2.cell? ⟨d, 9, none⟩ = _ := cell_of_row _ _ _ _ _ (0, 0) hq
              have qf : ∀ j, w2.frozen? ⟨d, j, none⟩ = false := fun j => frozen_of_row _ _ j _ _ hq
              simp only [dcells, List.getElem?_toArray, List.getElem?_cons_succ, List.getElem?_cons_zero] at q0 q1 q2 q3 q4 q5 q6 q7 q8 q9
              have HF2 := Lib.hid (show w2.heap[d]? = some (.cells (dcells A1 c1 (some ⟨g, 0, none⟩) cL S) 75 (0, 0)) ∧ OwnB w2 V.heap.size A2 c2 (S.by_ 0) ∧ OwnB w2 V.heap.size A3 c3 (S.by_ 1) ∧ FarB A2 A3 ∧ Below V.heap.size V w2 from ⟨hq, ho2, ho3, hf23, hb2.os, hb2.tape, hb2.output, hb2.size, hb2.block⟩)
              clear ho2 ho3 hf23 hb2 hq
              first
                | refine hK.out _ _ (fun _ => hS2) ?_
                | (go_simp; refine hK.out _ _ (fun _ => hS2) ?_)
              clear hK K
              try simp only [Act.put, List.setIfInBounds_toArray, List.set_cons_zero, List.set_cons_succ]
              (refine tail.till_take 9 (v := ?_) rfl (by kernel_rfl) (by kernel_rfl) (by kernel_rfl) (by kernel_rfl) (by kernel_rfl) (fun _ _ _ h => h) (by rfl) (by assumption) ?_ ?_; rotate_left 1; (focus (intro X hX; obtain ⟨s1, s2, s3⟩ := hX; go_simp; with_reducible rfl)); (try simp only [Act.put, List.setIfInBounds_toArray, List.set_cons_zero, List.set_cons_succ]))
              (refine tail.till_take 10 (v := ?_) rfl (by kernel_rfl) (by kernel_rfl) (by kernel_rfl) (by kernel_rfl) (by kernel_rfl) (fun _ _ _ h => h) (by rfl) (by assumption) ?_ ?_; rotate_left 1; (focus (intro X hX; obtain ⟨s1, s2, s3⟩ := hX; go_simp; with_reducible rfl)); (try simp only [Act.put, List.setIfInBounds_toArray, List.set_cons_zero, List.set_cons_succ]))
              refine tail.till_one 11 (by kernel_rfl) rfl (fun K hK => ?_)
              go_simp
              refine hK.out _ _ (fun h => absurd rfl h) ?_
              clear hK K
              refine tail.till_done (by kernel_rfl) ?_ _
              go_wp2_with fail
              refine bodyPost_end (v := .tuple #[]) (by simp [results, Try.results15]) rfl ⟨rfl, ?_, ?_⟩
              · obtain ⟨g1, g2, g3, g4, g5⟩ := HF2.out
                have g6 := set10 g1 rfl (.slice (A1 0) n0 (c1 0)) (.slice (A1 1) n1 (c1 1)) (.int .i64 S.f0) (.slice A2 n0 c2) (.slice A3 n1 c3) (.int .i64 S.f0) (.slice none 0 0) (.bool false) (.int .i64 0) (.bool false)
                have e0 := N0.out
                have e1 := N1.out
                subst e0 e1
                refine H1.out.fresh g5 (Nat.le_refl _) g2 g3 g4 g6 (fun b hb => ?_) (by simp)
                repeat (rw [heap_setCell_other _ _ b _ (fun e => hb e)])
              · obtain ⟨g1, g2, g3, g4, g5⟩ := HF2.out
                repeat (with_reducible refine BelF.setCell ?_ hBd _)
                exact hbV.trans (BelF.of g5 (Nat.le_refl _))
            · subst t3
              go_wp2_with fail
              have hbA : Below wr.heap.size wr (wr.alloc (.cells #[.int .i64 0, .int .i64 p2, .slice Ab tt cb] 79)) := (Below.refl _ _).alloc (Nat.le_refl _) _
              have hbD : Below wr.heap.size wr (wr.alloc (.cells #[.int .i64 0, .int .i64 p2, .slice Ab tt cb] 79)).drew := below_drew hbA
              obtain ⟨Ai, ci, e1, hrb, -⟩ := HE.out.below hbD (Nat.le_refl _)
              injection e1 with e1 e4 e3
              subst e1 e3
              clear e4
              have hlen := foldS_len 0 (s.lo.take 0) s (0 + p2.toNat)
              have htt : tot (s.lo.take 0) + s.lo[0].2.2.length ≤ tot s.lo := tot_take s.lo 0 hkl
              rw [HPP.out] at htt
              have hgood := HG.out
              have hp2 : 0 + p2.toNat < 4 := by rcases hgood.2 with e | e <;> simp only at e <;> omega
              have hsk := HS.out.1 (0 + p2.toNat) hp2
              have hml := HM.out
              have hDo := do_any _ (HKK.out.below hbD (Nat.le_refl _)) 0 (.inl rfl) (0, p2, b.take tt) ⟨.inl rfl, hgood.2⟩ (m := tt) (by simp only [List.length_take]; omega) (rd_take hrb (m := tt) (by omega)) (Nat.le_refl _) (by simp only [List.length_take] at htt ⊢; omega) 0 rfl (cb := cb)
              have HDO := Lib.hid hDo
              have hcut : b.take tt = cutB torn b := by unfold cutB; congr 1; omega
              have HC := Lib.hid hcut
              have hbB : BelF F wr (wr.alloc (.cells #[.int .i64 0, .int .i64 p2, .slice Ab tt cb] 79)).drew := BelF.of hbD (Nat.le_refl _)
              clear hDo hcut hml hsk hp2 hgood htt hlen hrb
              go_region_law (go_simp; go_at_call 45; refine (HDO.out).mono ?_; rintro e w1 ⟨rfl, A1, c1, h1, hb1, -, -⟩)
              have H1 := Lib.hid h1
              have hb2 := hb.trans (hbB.trans hb1)
              have hs2 := hb2.size
              clear h1 HDO hb1
              go_wp2_with fail
              rw [HC.out, HCUT.out hkl _ _ _ HPP.out rfl] at H1
              have hbV := hb2
              clear HKK HE hb hsz hbA hbD hbB
              generalize w1 = V at *
              obtain ⟨n0, hn0⟩ : ∃ n, n = (S.by_ 0).length := ⟨_, rfl⟩
              obtain ⟨n1, hn1⟩ : ∃ n, n = (S.by_ 1).length := ⟨_, rfl⟩
              have y0 : V.cell? ⟨d, 0, none⟩ = some (.slice (A1 0) n0 (c1 0)) := by rw [cell_d H1.out, hn0]; rfl
              have y1 : V.cell? ⟨d, 1, none⟩ = some (.slice (A1 1) n1 (c1 1)) := by rw [cell_d H1.out, hn1]; rfl
              have y2 : V.cell? ⟨d, 2, none⟩ = some (.int .i64 S.f0) := by rw [cell_d H1.out]; rfl
              have hCL := clone_any V.drew (d := d) (q := 0) S.f0 y0 y1 y2 hn0 hn1 (OwnB.rd (H1.out.own 0 (by omega))) (OwnB.rd (H1.out.own 1 (by omega))) (HLN.out 0 (by omega)) (HLN.out 1 (by omega))
              have HCL := Lib.hid hCL
              have N0 := Lib.hid hn0
              have N1 := Lib.hid hn1
              have hS0 : (fun X : World => (X.cell? ⟨d, 0, none⟩ = some (.slice (A1 0) n0 (c1 0)) ∧ X.cell? ⟨d, 1, none⟩ = some (.slice (A1 1) n1 (c1 1)) ∧ X.cell? ⟨d, 2, none⟩ = some (.int .i64 S.f0))) V.drew := ⟨y0, y1, y2⟩
              have hdV : d < V.heap.size := H1.out.dlt
              clear hCL hn0 hn1
              refine tail.wp_region_till 11 (fun X => (X.cell? ⟨d, 0, none⟩ = some (.slice (A1 0) n0 (c1 0)) ∧ X.cell? ⟨d, 1, none⟩ = some (.slice (A1 1) n1 (c1 1)) ∧ X.cell? ⟨d, 2, none⟩ = some (.int .i64 S.f0))) (by kernel_rfl) ?_
              (refine tail.till_take 0 (v := ?_) rfl (by kernel_rfl) (by kernel_rfl) (by kernel_rfl) (by kernel_rfl) (by kernel_rfl) (fun _ _ _ h => h) (by rfl) (by assumption) ?_ ?_; rotate_left 1; (focus (intro X hX; obtain ⟨s1, s2, s3⟩ := hX; go_simp; with_reducible rfl)); (try simp only [Act.put, List.setIfInBounds_toArray, List.set_cons_zero, List.set_cons_succ]))
              (refine tail.till_take 1 (v := ?_) rfl (by kernel_rfl) (by kernel_rfl) (by kernel_rfl) (by kernel_rfl) (by kernel_rfl) (fun _ _ _ h => h) (by rfl) (by assumption) ?_ ?_; rotate_left 1; (focus (intro X hX; obtain ⟨s1, s2, s3⟩ := hX; go_simp; with_reducible rfl)); (try simp only [Act.put, List.setIfInBounds_toArray, List.set_cons_zero, List.set_cons_succ]))
              (refine tail.till_take 2 (v := ?_) rfl (by kernel_rfl) (by kernel_rfl) (by kernel_rfl) (by kernel_rfl) (by kernel_rfl) (fun _ _ _ h => h) (by rfl) (by assumption) ?_ ?_; rotate_left 1; (focus (intro X hX; obtain ⟨s1, s2, s3⟩ := hX; go_simp; with_reducible rfl)); (try simp only [Act.put, List.setIfInBounds_toArray, List.set_cons_zero, List.set_cons_succ]))
              (refine tail.till_take 3 (v := ?_) rfl (by kernel_rfl) (by kernel_rfl) (by kernel_rfl) (by kernel_rfl) (by kernel_rfl) (fun _ _ _ h => h) (by rfl) (by assumption) ?_ ?_; rotate_left 1; (focus (intro X hX; obtain ⟨s1, s2, s3⟩ := hX; go_simp; with_reducible rfl)); (try simp only [Act.put, List.setIfInBounds_toArray, List.set_cons_zero, List.set_cons_succ]))
              (refine tail.till_take 4 (v := ?_) rfl (by kernel_rfl) (by kernel_rfl) (by kernel_rfl) (by kernel_rfl) (by kernel_rfl) (fun _ _ _ h => h) (by rfl) (by assumption) ?_ ?_; rotate_left 1; (focus (intro X hX; obtain ⟨s1, s2, s3⟩ := hX; go_simp; with_reducible rfl)); (try simp only [Act.put, List.setIfInBounds_toArray, List.set_cons_zero, List.set_cons_succ]))
              (refine tail.till_take 5 (v := ?_) rfl (by kernel_rfl) (by kernel_rfl) (by kernel_rfl) (by kernel_rfl) (by kernel_rfl) (fun _ _ _ h => h) (by rfl) (by assumption) ?_ ?_; rotate_left 1; (focus (intro X hX; obtain ⟨s1, s2, s3⟩ := hX; go_simp; with_reducible rfl)); (try simp only [Act.put, List.setIfInBounds_toArray, List.set_cons_zero, List.set_cons_succ]))
              (refine tail.till_take 6 (v := ?_) rfl (by kernel_rfl) (by kernel_rfl) (by kernel_rfl) (by kernel_rfl) (by kernel_rfl) (fun _ _ _ h => h) (by rfl) (by assumption) ?_ ?_; rotate_left 1; (focus (intro X hX; obtain ⟨s1, s2, s3⟩ := hX; go_simp; with_reducible rfl)); (try simp only [Act.put, List.setIfInBounds_toArray, List.set_cons_zero, List.set_cons_succ]))
              (refine tail.till_take 7 (v := ?_) rfl (by kernel_rfl) (by kernel_rfl) (by kernel_rfl) (by kernel_rfl) (by kernel_rfl) (fun _ _ _ h => h) (by rfl) (by assumption) ?_ ?_; rotate_left 1; (focus (intro X hX; obtain ⟨s1, s2, s3⟩ := hX; go_simp; with_reducible rfl)); (try simp only [Act.put, List.setIfInBounds_toArray, List.set_cons_zero, List.set_cons_succ]))
              refine tail.till_one 8 (by kernel_rfl) rfl (fun K hK => ?_)
              go_simp
              go_at_call 46
              refine HCL.out.mono ?_
              rintro e w2 ⟨A2, c2, A3, c3, rfl, ho2, ho3, hf23, hb2⟩
              have hS2 : (fun X : World => (X.cell? ⟨d, 0, none⟩ = some (.slice (A1 0) n0 (c1 0)) ∧ X.cell? ⟨d, 1, none⟩ = some (.slice (A1 1) n1 (c1 1)) ∧ X.cell? ⟨d, 2, none⟩ = some (.int .i64 S.f0))) w2 := ⟨keepc (W := V.drew) y0 hb2, keepc (W := V.drew) y1 hb2, keepc (W := V.drew) y2 hb2⟩
              have hq : w2.heap[d]? = some (.cells (dcells A1 c1 (some ⟨g, 0, none⟩) cL S) 75 (0, 0)) := (hb2.block _ hdV).trans H1.out.cells
              have q0 : w2.cell? ⟨d, 0, none⟩ = _ := cell_of_row _ _ _ _ _ (0, 0) hq
              have q1 : w2.cell? ⟨d, 1, none⟩ = _ := cell_of_row _ _ _ _ _ (0, 0) hq
              have q2 : w2.cell? ⟨d, 2, none⟩ = _ := cell_of_row _ _ _ _ _ (0, 0) hq
              have q3 : w2.cell? ⟨d, 3, none⟩ = _ := cell_of_row _ _ _ _ _ (0, 0) hq
              have q4 : w2.cell? ⟨d, 4, none⟩ = _ := cell_of_row _ _ _ _ _ (0, 0) hq
              have q5 : w2.cell? ⟨d, 5, none⟩ = _ := cell_of_row _ _ _ _ _ (0, 0) hq
              have q6 : w2.cell? ⟨d, 6, none⟩ = _ := cell_of_row _ _ _ _ _ (0, 0) hq
              have q7 : w2.cell? ⟨d, 7, none⟩ = _ := cell_of_row _ _ _ _ _ (0, 0) hq
              have q8 : w2.cell? ⟨d, 8, none⟩ = _ := cell_of_row _ _ _ _ _ (0, 0) hq
              have q9 : w2.cell? ⟨d, 9, none⟩ = _ := cell_of_row _ _ _ _ _ (0, 0) hq
              have qf : ∀ j, w2.frozen? ⟨d, j, none⟩ = false := fun j => frozen_of_row _ _ j _ _ hq
              simp only [dcells, List.getElem?_toArray, List.getElem?_cons_succ, List.getElem?_cons_zero] at q0 q1 q2 q3 q4 q5 q6 q7 q8 q9
              have HF2 := Lib.hid (show w2.heap[d]? = some (.cells (dcells A1 c1 (some ⟨g, 0, none⟩) cL S) 75 (0, 0)) ∧ OwnB w2 V.heap.size A2 c2 (S.by_ 0) ∧ OwnB w2 V.heap.size A3 c3 (S.by_ 1) ∧ FarB A2 A3 ∧ Below V.heap.size V w2 from ⟨hq, ho2, ho3, hf23, hb2.os, hb2.tape, hb2.output, hb2.size, hb2.block⟩)
              clear ho2 ho3 hf23 hb2 hq
              first
                | refine hK.out _ _ (fun _ => hS2) ?_
                | (go_simp; refine hK.out _ _ (fun _ => hS2) ?_)
              clear hK K
              try simp only [Act.put, List.setIfInBounds_toArray, List.set_cons_zero, List.set_cons_succ]
              (refine tail.till_take 9 (v := ?_) rfl (by kernel_rfl) (by kernel_rfl) (by kernel_rfl) (by kernel_rfl) (by kernel_rfl) (fun _ _ _ h => h) (by rfl) (by assumption) ?_ ?_; rotate_left 1; (focus (intro X hX; obtain ⟨s1, s2, s3⟩ := hX; go_simp; with_reducible rfl)); (try simp only [Act.put, List.setIfInBounds_toArray, List.set_cons_zero, List.set_cons_succ]))
              (refine tail.till_take 10 (v := ?_) rfl (by kernel_rfl) (by kernel_rfl) (by kernel_rfl) (by kernel_rfl) (by kernel_rfl) (fun _ _ _ h => h) (by rfl) (by assumption) ?_ ?_; rotate_left 1; (focus (intro X hX; obtain ⟨s1, s2, s3⟩ := hX; go_simp; with_reducible rfl)); (try simp only [Act.put, List.setIfInBounds_toArray, List.set_cons_zero, List.set_cons_succ]))
              refine tail.till_one 11 (by kernel_rfl) rfl (fun K hK => ?_)
              go_simp
              refine hK.out _ _ (fun h => absurd rfl h) ?_
              clear hK K
              refine tail.till_done (by kernel_rfl) ?_ _
              go_wp2_with fail
              refine bodyPost_end (v := .tuple #[]) (by simp [results, Try.results15]) rfl ⟨rfl, ?_, ?_⟩
              · obtain ⟨g1, g2, g3, g4, g5⟩ := HF2.out
                have g6 := set10 g1 rfl (.slice (A1 0) n0 (c1 0)) (.slice (A1 1) n1 (c1 1)) (.int .i64 S.f0) (.slice A2 n0 c2) (.slice A3 n1 c3) (.int .i64 S.f0) (.slice none 0 0) (.bool false) (.int .i64 0) (.bool false)
                have e0 := N0.out
                have e1 := N1.out
                subst e0 e1
                refine H1.out.fresh g5 (Nat.le_refl _) g2 g3 g4 g6 (fun b hb => ?_) (by simp)
                repeat (rw [heap_setCell_other _ _ b _ (fun e => hb e)])
              · obtain ⟨g1, g2, g3, g4, g5⟩ := HF2.out
                repeat (with_reducible refine BelF.setCell ?_ hBd _)
                exact hbV.trans (BelF.of g5 (Nat.le_refl _))
          · go_wp2_with fail
            have H1 := HKK
            rw [HUNC.out hkl _ _ _ HPP.out hz] at H1
            have hbV := hb
            generalize c' = c1 at H1
            generalize A' = A1 at H1
            generalize wr = V at *
            obtain ⟨n0, hn0⟩ : ∃ n, n = (S.by_ 0).length := ⟨_, rfl⟩
            obtain ⟨n1, hn1⟩ : ∃ n, n = (S.by_ 1).length := ⟨_, rfl⟩
            have y0 : V.cell? ⟨d, 0, none⟩ = some (.slice (A1 0) n0 (c1 0)) := by rw [cell_d H1.out, hn0]; rfl
            have y1 : V.cell? ⟨d, 1, none⟩ = some (.slice (A1 1) n1 (c1 1)) := by rw [cell_d H1.out, hn1]; rfl
            have y2 : V.cell? ⟨d, 2, none⟩ = some (.int .i64 S.f0) := by rw [cell_d H1.out]; rfl
            have hCL := clone_any V.drew (d := d) (q := 0) S.f0 y0 y1 y2 hn0 hn1 (OwnB.rd (H1.out.own 0 (by omega))) (OwnB.rd (H1.out.own 1 (by omega))) (HLN.out 0 (by omega)) (HLN.out 1 (by omega))
            have HCL := Lib.hid hCL
            have N0 := Lib.hid hn0
            have N1 := Lib.hid hn1
            have hS0 : (fun X : World => (X.cell? ⟨d, 0, none⟩ = some (.slice (A1 0) n0 (c1 0)) ∧ X.cell? ⟨d, 1, none⟩ = some (.slice (A1 1) n1 (c1 1)) ∧ X.cell? ⟨d, 2, none⟩ = some (.int .i64 S.f0))) V.drew := ⟨y0, y1, y2⟩
            have hdV : d < V.heap.size := H1.out.dlt
            clear hCL hn0 hn1
            refine tail.wp_region_till 11 (fun X => (X.cell? ⟨d, 0, none⟩ = some (.slice (A1 0) n0 (c1 0)) ∧ X.cell? ⟨d, 1, none⟩ = some (.slice (A1 1) n1 (c1 1)) ∧ X.cell? ⟨d, 2, none⟩ = some (.int .i64 S.f0))) (by kernel_rfl) ?_
            (refine tail.till_take 0 (v := ?_) rfl (by kernel_rfl) (by kernel_rfl) (by kernel_rfl) (by kernel_rfl) (by kernel_rfl) (fun _ _ _ h => h) (by rfl) (by assumption) ?_ ?_; rotate_left 1; (focus (intro X hX; obtain ⟨s1, s2, s3⟩ := hX; go_simp; with_reducible rfl)); (try simp only [Act.put, List.setIfInBounds_toArray, List.set_cons_zero, List.set_cons_succ]))
            (refine tail.till_take 1 (v := ?_) rfl (by kernel_rfl) (by kernel_rfl) (by kernel_rfl) (by kernel_rfl) (by kernel_rfl) (fun _ _ _ h => h) (by rfl) (by assumption) ?_ ?_; rotate_left 1; (focus (intro X hX; obtain ⟨s1, s2, s3⟩ := hX; go_simp; with_reducible rfl)); (try simp only [Act.put, List.setIfInBounds_toArray, List.set_cons_zero, List.set_cons_succ]))
            (refine tail.till_take 2 (v := ?_) rfl (by kernel_rfl) (by kernel_rfl) (by kernel_rfl) (by kernel_rfl) (by kernel_rfl) (fun _ _ _ h => h) (by rfl) (by assumption) ?_ ?_; rotate_left 1; (focus (intro X hX; obtain ⟨s1, s2, s3⟩ := hX; go_simp; with_reducible rfl)); (try simp only [Act.put, List.setIfInBounds_toArray, List.set_cons_zero, List.set_cons_succ]))
            (refine tail.till_take 3 (v := ?_) rfl (by kernel_rfl) (by kernel_rfl) (by kernel_rfl) (by kernel_rfl) (by kernel_rfl) (fun _ _ _ h => h) (by rfl) (by assumption) ?_ ?_; rotate_left 1; (focus (intro X hX; obtain ⟨s1, s2, s3⟩ := hX; go_simp; with_reducible rfl)); (try simp only [Act.put, List.setIfInBounds_toArray, List.set_cons_zero, List.set_cons_succ]))
            (refine tail.till_take 4 (v := ?_) rfl (by kernel_rfl) (by kernel_rfl) (by kernel_rfl) (by kernel_rfl) (by kernel_rfl) (fun _ _ _ h => h) (by rfl) (by assumption) ?_ ?_; rotate_left 1; (focus (intro X hX; obtain ⟨s1, s2, s3⟩ := hX; go_simp; with_reducible rfl)); (try simp only [Act.put, List.setIfInBounds_toArray, List.set_cons_zero, List.set_cons_succ]))
            (refine tail.till_take 5 (v := ?_) rfl (by kernel_rfl) (by kernel_rfl) (by kernel_rfl) (by kernel_rfl) (by kernel_rfl) (fun _ _ _ h => h) (by rfl) (by assumption) ?_ ?_; rotate_left 1; (focus (intro X hX; obtain ⟨s1, s2, s3⟩ := hX; go_simp; with_reducible rfl)); (try simp only [Act.put, List.setIfInBounds_toArray, List.set_cons_zero, List.set_cons_succ]))
            (refine tail.till_take 6 (v := ?_) rfl (by kernel_rfl) (by kernel_rfl) (by kernel_rfl) (by kernel_rfl) (by kernel_rfl) (fun _ _ _ h => h) (by rfl) (by assumption) ?_ ?_; rotate_left 1; (focus (intro X hX; obtain ⟨s1, s2, s3⟩ := hX; go_simp; with_reducible rfl)); (try simp only [Act.put, List.setIfInBounds_toArray, List.set_cons_zero, List.set_cons_succ]))
            (refine tail.till_take 7 (v := ?_) rfl (by kernel_rfl) (by kernel_rfl) (by kernel_rfl) (by kernel_rfl) (by kernel_rfl) (fun _ _ _ h => h) (by rfl) (by assumption) ?_ ?_; rotate_left 1; (focus (intro X hX; obtain ⟨s1, s2, s3⟩ := hX; go_simp; with_reducible rfl)); (try simp only [Act.put, List.setIfInBounds_toArray, List.set_cons_zero, List.set_cons_succ]))
            refine tail.till_one 8 (by kernel_rfl) rfl (fun K hK => ?_)
            go_simp
            go_at_call 46
            refine HCL.out.mono ?_
            rintro e w2 ⟨A2, c2, A3, c3, rfl, ho2, ho3, hf23, hb2⟩
            have hS2 : (fun X : World => (X.cell? ⟨d, 0, none⟩ = some (.slice (A1 0) n0 (c1 0)) ∧ X.cell? ⟨d, 1, none⟩ = some (.slice (A1 1) n1 (c1 1)) ∧ X.cell? ⟨d, 2, none⟩ = some (.int .i64 S.f0))) w2 := ⟨keepc (W := V.drew) y0 hb2, keepc (W := V.drew) y1 hb2, keepc (W := V.drew) y2 hb2⟩
            have hq : w2.heap[d]? = some (.cells (dcells A1 c1 (some ⟨g, 0, none⟩) cL S) 75 (0, 0)) := (hb2.block _ hdV).trans H1.out.cells
            have q0 : w2.cell? ⟨d, 0, none⟩ = _ := cell_of_row _ _ _ _ _ (0, 0) hq
            have q1 : w2.cell? ⟨d, 1, none⟩ = _ := cell_of_row _ _ _ _ _ (0, 0) hq
            have q2 : w2.cell? ⟨d, 2, none⟩ = _ := cell_of_row _ _ _ _ _ (0, 0) hq
            have q3 : w2.cell? ⟨d, 3, none⟩ = _ := cell_of_row _ _ _ _ _ (0, 0) hq
            have q4 : w2.cell? ⟨d, 4, none⟩ = _ := cell_of_row _ _ _ _ _ (0, 0) hq
            have q5 : w2.cell? ⟨d, 5, none⟩ = _ := cell_of_row _ _ _ _ _ (0, 0) hq
            have q6 : w2.cell? ⟨d, 6, none⟩ = _ := cell_of_row _ _ _ _ _ (0, 0) hq
            have q7 : w2.cell? ⟨d, 7, none⟩ = _ := cell_of_row _ _ _ _ _ (0, 0) hq
            have q8 : w2.cell? ⟨d, 8, none⟩ = _ := cell_of_row _ _ _ _ _ (0, 0) hq
            have q9 : w2.cell? ⟨d, 9, none⟩ = _ := cell_of_row _ _ _ _ _ (0, 0) hq
            have qf : ∀ j, w2.frozen? ⟨d, j, none⟩ = false := fun j => frozen_of_row _ _ j _ _ hq
            simp only [dcells, List.getElem?_toArray, List.getElem?_cons_succ, List.getElem?_cons_zero] at q0 q1 q2 q3 q4 q5 q6 q7 q8 q9
            have HF2 := Lib.hid (show w2.heap[d]? = some (.cells (dcells A1 c1 (some ⟨g, 0, none⟩) cL S) 75 (0, 0)) ∧ OwnB w2 V.heap.size A2 c2 (S.by_ 0) ∧ OwnB w2 V.heap.size A3 c3 (S.by_ 1) ∧ FarB A2 A3 ∧ Below V.heap.size V w2 from ⟨hq, ho2, ho3, hf23, hb2.os, hb2.tape, hb2.output, hb2.size, hb2.block⟩)
            clear ho2 ho3 hf23 hb2 hq
            first
              | refine hK.out _ _ (fun _ => hS2) ?_
              | (go_simp; refine hK.out _ _ (fun _ => hS2) ?_)
            clear hK K
            try simp only [Act.put, List.setIfInBounds_toArray, List.set_cons_zero, List.set_cons_succ]
            (refine tail.till_take 9 (v := ?_) rfl (by kernel_rfl) (by kernel_rfl) (by kernel_rfl) (by kernel_rfl) (by kernel_rfl) (fun _ _ _ h => h) (by rfl) (by assumption) ?_ ?_; rotate_left 1; (focus (intro X hX; obtain ⟨s1, s2, s3⟩ := hX; go_simp; with_reducible rfl)); (try simp only [Act.put, List.setIfInBounds_toArray, List.set_cons_zero, List.set_cons_succ]))
            (refine tail.till_take 10 (v := ?_) rfl (by kernel_rfl) (by kernel_rfl) (by kernel_rfl) (by kernel_rfl) (by kernel_rfl) (fun _ _ _ h => h) (by rfl) (by assumption) ?_ ?_; rotate_left 1; (focus (intro X hX; obtain ⟨s1, s2, s3⟩ := hX; go_simp; with_reducible rfl)); (try simp only [Act.put, List.setIfInBounds_toArray, List.set_cons_zero, List.set_cons_succ]))
            refine tail.till_one 11 (by kernel_rfl) rfl (fun K hK => ?_)
            go_simp
            refine hK.out _ _ (fun h => absurd rfl h) ?_
            clear hK K
            refine tail.till_done (by kernel_rfl) ?_ _
            go_wp2_with fail
            refine bodyPost_end (v := .tuple #[]) (by simp [results, Try.results15]) rfl ⟨rfl, ?_, ?_⟩
            · obtain ⟨g1, g2, g3, g4, g5⟩ := HF2.out
              have g6 := set10 g1 rfl (.slice (A1 0) n0 (c1 0)) (.slice (A1 1) n1 (c1 1)) (.int .i64 S.f0) (.slice A2 n0 c2) (.slice A3 n1 c3) (.int .i64 S.f0) (.slice none 0 0) (.bool false) (.int .i64 0) (.bool false)
              have e0 := N0.out
              have e1 := N1.out
              subst e0 e1
              refine H1.out.fresh g5 (Nat.le_refl _) g2 g3 g4 g6 (fun b hb => ?_) (by simp)
              repeat (rw [heap_setCell_other _ _ b _ (fun e => hb e)])
            · obtain ⟨g1, g2, g3, g4, g5⟩ := HF2.out
              repeat (with_reducible refine BelF.setCell ?_ hBd _)
              exact hbV.trans (BelF.of g5 (Nat.le_refl _))
        · obtain rfl : n = 0 := by omega
          clear l1 l2 l3 l4
          go_wp2_with fail
          have H1 := HKK
          rw [HALL.out (by have := HN.out; omega)] at H1
          have hbV := hb
          generalize c' = c1 at H1
          generalize A' = A1 at H1
          generalize wr = V at *
          obtain ⟨n0, hn0⟩ : ∃ n, n = (S.by_ 0).length := ⟨_, rfl⟩
          obtain ⟨n1, hn1⟩ : ∃ n, n = (S.by_ 1).length := ⟨_, rfl⟩
          have y0 : V.cell? ⟨d, 0, none⟩ = some (.slice (A1 0) n0 (c1 0)) := by rw [cell_d H1.out, hn0]; rfl
          have y1 : V.cell? ⟨d, 1, none⟩ = some (.slice (A1 1) n1 (c1 1)) := by rw [cell_d H1.out, hn1]; rfl
          have y2 : V.cell? ⟨d, 2, none⟩ = some (.int .i64 S.f0) := by rw [cell_d H1.out]; rfl
          have hCL := clone_any V.drew (d := d) (q := 0) S.f0 y0 y1 y2 hn0 hn1 (OwnB.rd (H1.out.own 0 (by omega))) (OwnB.rd (H1.out.own 1 (by omega))) (HLN.out 0 (by omega)) (HLN.out 1 (by omega))
          have HCL := Lib.hid hCL
          have N0 := Lib.hid hn0
          have N1 := Lib.hid hn1
          have hS0 : (fun X : World => (X.cell? ⟨d, 0, none⟩ = some (.slice (A1 0) n0 (c1 0)) ∧ X.cell? ⟨d, 1, none⟩ = some (.slice (A1 1) n1 (c1 1)) ∧ X.cell? ⟨d, 2, none⟩ = some (.int .i64 S.f0))) V.drew := ⟨y0, y1, y2⟩
          have hdV : d < V.heap.size := H1.out.dlt
          clear hCL hn0 hn1
          refine tail.wp_region_till 11 (fun X => (X.cell? ⟨d, 0, none⟩ = some (.slice (A1 0) n0 (c1 0)) ∧ X.cell? ⟨d, 1, none⟩ = some (.slice (A1 1) n1 (c1 1)) ∧ X.cell? ⟨d, 2, none⟩ = some (.int .i64 S.f0))) (by kernel_rfl) ?_
          (refine tail.till_take 0 (v := ?_) rfl (by kernel_rfl) (by kernel_rfl) (by kernel_rfl) (by kernel_rfl) (by kernel_rfl) (fun _ _ _ h => h) (by rfl) (by assumption) ?_ ?_; rotate_left 1; (focus (intro X hX; obtain ⟨s1, s2, s3⟩ := hX; go_simp; with_reducible rfl)); (try simp only [Act.put, List.setIfInBounds_toArray, List.set_cons_zero, List.set_cons_succ]))
          (refine tail.till_take 1 (v := ?_) rfl (by kernel_rfl) (by kernel_rfl) (by kernel_rfl) (by kernel_rfl) (by kernel_rfl) (fun _ _ _ h => h) (by rfl) (by assumption) ?_ ?_; rotate_left 1; (focus (intro X hX; obtain ⟨s1, s2, s3⟩ := hX; go_simp; with_reducible rfl)); (try simp only [Act.put, List.setIfInBounds_toArray, List.set_cons_zero, List.set_cons_succ]))
          (refine tail.till_take 2 (v := ?_) rfl (by kernel_rfl) (by kernel_rfl) (by kernel_rfl) (by kernel_rfl) (by kernel_rfl) (fun _ _ _ h => h) (by rfl) (by assumption) ?_ ?_; rotate_left 1; (focus (intro X hX; obtain ⟨s1, s2, s3⟩ := hX; go_simp; with_reducible rfl)); (try simp only [Act.put, List.setIfInBounds_toArray, List.set_cons_zero, List.set_cons_succ]))
          (refine tail.till_take 3 (v := ?_) rfl (by kernel_rfl) (by kernel_rfl) (by kernel_rfl) (by kernel_rfl) (by kernel_rfl) (fun _ _ _ h => h) (by rfl) (by assumption) ?_ ?_; rotate_left 1; (focus (intro X hX; obtain ⟨s1, s2, s3⟩ := hX; go_simp; with_reducible rfl)); (try simp only [Act.put, List.setIfInBounds_toArray, List.set_cons_zero, List.set_cons_succ]))
          (refine tail.till_take 4 (v := ?_) rfl (by kernel_rfl) (by kernel_rfl) (by kernel_rfl) (by kernel_rfl) (by kernel_rfl) (fun _ _ _ h => h) (by rfl) (by assumption) ?_ ?_; rotate_left 1; (focus (intro X hX; obtain ⟨s1, s2, s3⟩ := hX; go_simp; with_reducible rfl)); (try simp only [Act.put, List.setIfInBounds_toArray, List.set_cons_zero, List.set_cons_succ]))
          (refine tail.till_take 5 (v := ?_) rfl (by kernel_rfl) (by kernel_rfl) (by kernel_rfl) (by kernel_rfl) (by kernel_rfl) (fun _ _ _ h => h) (by rfl) (by assumption) ?_ ?_; rotate_left 1; (focus (intro X hX; obtain ⟨s1, s2, s3⟩ := hX; go_simp; with_reducible rfl)); (try simp only [Act.put, List.setIfInBounds_toArray, List.set_cons_zero, List.set_cons_succ]))
          (refine tail.till_take 6 (v := ?_) rfl (by kernel_rfl) (by kernel_rfl) (by kernel_rfl) (by kernel_rfl) (by kernel_rfl) (fun _ _ _ h => h) (by rfl) (by assumption) ?_ ?_; rotate_left 1; (focus (intro X hX; obtain ⟨s1, s2, s3⟩ := hX; go_simp; with_reducible rfl)); (try simp only [Act.put, List.setIfInBounds_toArray, List.set_cons_zero, List.set_cons_succ]))
          (refine tail.till_take 7 (v := ?_) rfl (by kernel_rfl) (by kernel_rfl) (by kernel_rfl) (by kernel_rfl) (by kernel_rfl) (fun _ _ _ h => h) (by rfl) (by assumption) ?_ ?_; rotate_left 1; (focus (intro X hX; obtain ⟨s1, s2, s3⟩ := hX; go_simp; with_reducible rfl)); (try simp only [Act.put, List.setIfInBounds_toArray, List.set_cons_zero, List.set_cons_succ]))
          refine tail.till_one 8 (by kernel_rfl) rfl (fun K hK => ?_)
          go_simp
          go_at_call 46
          refine HCL.out.mono ?_
          rintro e w2 ⟨A2, c2, A3, c3, rfl, ho2, ho3, hf23, hb2⟩
          have hS2 : (fun X : World => (X.cell? ⟨d, 0, none⟩ = some (.slice (A1 0) n0 (c1 0)) ∧ X.cell? ⟨d, 1, none⟩ = some (.slice (A1 1) n1 (c1 1)) ∧ X.cell? ⟨d, 2, none⟩ = some (.int .i64 S.f0))) w2 := ⟨keepc (W := V.drew) y0 hb2, keepc (W := V.drew) y1 hb2, keepc (W := V.drew) y2 hb2⟩
          have hq : w2.heap[d]? = some (.cells (dcells A1 c1 AL cL S) 75 (0, 0)) := (hb2.block _ hdV).trans H1.out.cells
          have q0 : w2.cell? ⟨d, 0, none⟩ = _ := cell_of_row _ _ _ _ _ (0, 0) hq
          have q1 : w2.cell? ⟨d, 1, none⟩ = _ := cell_of_row _ _ _ _ _ (0, 0) hq
          have q2 : w2.cell? ⟨d, 2, none⟩ = _ := cell_of_row _ _ _ _ _ (0, 0) hq
          have q3 : w2.cell? ⟨d, 3, none⟩ = _ := cell_of_row _ _ _ _ _ (0, 0) hq
          have q4 : w2.cell? ⟨d, 4, none⟩ = _ := cell_of_row _ _ _ _ _ (0, 0) hq
          have q5 : w2.cell? ⟨d, 5, none⟩ = _ := cell_of_row _ _ _ _ _ (0, 0) hq
          have q6 : w2.cell? ⟨d, 6, none⟩ = _ := cell_of_row _ _ _ _ _ (0, 0) hq
          have q7 : w2.cell? ⟨d, 7, none⟩ = _ := cell_of_row _ _ _ _ _ (0, 0) hq
          have q8 : w2.cell? ⟨d, 8, none⟩ = _ := cell_of_row _ _ _ _ _ (0, 0) hq
          have q9 : w2.cell? ⟨d, 9, none⟩ = _ := cell_of_row _ _ _ _ _ (0, 0) hq
          have qf : ∀ j, w2.frozen? ⟨d, j, none⟩ = false := fun j => frozen_of_row _ _ j _ _ hq
          simp only [dcells, List.getElem?_toArray, List.getElem?_cons_succ, List.getElem?_cons_zero] at q0 q1 q2 q3 q4 q5 q6 q7 q8 q9
          have HF2 := Lib.hid (show w2.heap[d]? = some (.cells (dcells A1 c1 AL cL S) 75 (0, 0)) ∧ OwnB w2 V.heap.size A2 c2 (S.by_ 0) ∧ OwnB w2 V.heap.size A3 c3 (S.by_ 1) ∧ FarB A2 A3 ∧ Below V.heap.size V w2 from ⟨hq, ho2, ho3, hf23, hb2.os, hb2.tape, hb2.output, hb2.size, hb2.block⟩)
          clear ho2 ho3 hf23 hb2 hq
          first
            | refine hK.out _ _ (fun _ => hS2) ?_
            | (go_simp; refine hK.out _ _ (fun _ => hS2) ?_)
          clear hK K
          try simp only [Act.put, List.setIfInBounds_toArray, List.set_cons_zero, List.set_cons_succ]
          (refine tail.till_take 9 (v := ?_) rfl (by kernel_rfl) (by kernel_rfl) (by kernel_rfl) (by kernel_rfl) (by kernel_rfl) (fun _ _ _ h => h) (by rfl) (by assumption) ?_ ?_; rotate_left 1; (focus (intro X hX; obtain ⟨s1, s2, s3⟩ := hX; go_simp; with_reducible rfl)); (try simp only [Act.put, List.setIfInBounds_toArray, List.set_cons_zero, List.set_cons_succ]))
          (refine tail.till_take 10 (v := ?_) rfl (by kernel_rfl) (by kernel_rfl) (by kernel_rfl) (by kernel_rfl) (by kernel_rfl) (fun _ _ _ h => h) (by rfl) (by assumption) ?_ ?_; rotate_left 1; (focus (intro X hX; obtain ⟨s1, s2, s3⟩ := hX; go_simp; with_reducible rfl)); (try simp only [Act.put, List.setIfInBounds_toArray, List.set_cons_zero, List.set_cons_succ]))
          refine tail.till_one 11 (by kernel_rfl) rfl (fun K hK => ?_)
          go_simp
          refine hK.out _ _ (fun h => absurd rfl h) ?_
          clear hK K
          refine tail.till_done (by kernel_rfl) ?_ _
          go_wp2_with fail
          refine bodyPost_end (v := .tuple #[]) (by simp [results, Try.results15]) rfl ⟨rfl, ?_, ?_⟩
          · obtain ⟨g1, g2, g3, g4, g5⟩ := HF2.out
            have g6 := set10 g1 rfl (.slice (A1 0) n0 (c1 0)) (.slice (A1 1) n1 (c1 1)) (.int .i64 S.f0) (.slice A2 n0 c2) (.slice A3 n1 c3) (.int .i64 S.f0) (.slice none 0 0) (.bool false) (.int .i64 0) (.bool false)
            have e0 := N0.out
            have e1 := N1.out
            subst e0 e1
            refine H1.out.fresh g5 (Nat.le_refl _) g2 g3 g4 g6 (fun b hb => ?_) (by simp)
            repeat (rw [heap_setCell_other _ _ b _ (fun e => hb e)])
          · obtain ⟨g1, g2, g3, g4, g5⟩ := HF2.out
            repeat (with_reducible refine BelF.setCell ?_ hBd _)
            exact hbV.trans (BelF.of g5 (Nat.le_refl _))
  · subst k3
    go_enter Try.func15, Try.ntmps15
    go_wp2_with fail
    go_loopw [24] (fun vi wr => ∃ (k : Nat) (A' : Nat → Option Addr) (c' : Nat → Nat), k ≤ kk ∧ vi = .int .i64 k ∧ Hid (DiskP wr F G d (foldS 0 s (s.lo.take k)) A' c' AL cL H) ∧ BelF F w wr ∧ w.heap.size ≤ wr.heap.size) (fun vi _ => kk - (intOf vi).toNat)
    case atStart => exact ⟨0, A, c, Nat.zero_le _, rfl, HP, BelF.refl _ _, Nat.le_refl _⟩
    case round =>
      obtain ⟨k, A', c', hk, rfl, HKK, hb, hsz⟩ := hrel
      by_cases hlt : k < kk
      · have hkl : k < s.lo.length := by have := HN.out; omega
        obtain ⟨l1, l2, l3, l4⟩ := foldS_same 0 (s.lo.take k) s
        have hkf : k < (foldS 0 s (s.lo.take k)).lo.length := by rw [l1]; exact hkl
        obtain ⟨g, Ab, cb, eA, hgl, r1, r2, r3, he⟩ := HKK.out.rowAt hkf
        subst eA
        have heq : (foldS 0 s (s.lo.take k)).lo[k]'hkf = s.lo[k] := by simp only [l1]; try rfl
        rw [heq] at r1 r2 r3 he
        obtain ⟨p1, p2, b, hp⟩ : ∃ x y z, s.lo[k] = (x, y, z) := ⟨_, _, _, rfl⟩
        obtain ⟨m, hm⟩ : ∃ m, m = b.length := ⟨_, rfl⟩
        have hgood := HS.out.2.2 k hkl
        rw [hp] at r1 r2 r3 he hgood
        simp only at r1 r2 r3 he
        rw [← hm] at r3 he
        have hbA : Below wr.heap.size wr (wr.alloc (.cells #[.int .i64 p1, .int .i64 p2, .slice Ab m cb] 79)) := (Below.refl _ _).alloc (Nat.le_refl _) _
        have hbD : Below wr.heap.size wr (wr.alloc (.cells #[.int .i64 p1, .int .i64 p2, .slice Ab m cb] 79)).drew := below_drew hbA
        have v0 : (wr.alloc (.cells #[.int .i64 p1, .int .i64 p2, .slice Ab m cb] 79)).cell? ⟨wr.heap.size, 0, none⟩ = some (.int .i64 p1) := by simp
        have v1 : (wr.alloc (.cells #[.int .i64 p1, .int .i64 p2, .slice Ab m cb] 79)).cell? ⟨wr.heap.size, 1, none⟩ = some (.int .i64 p2) := by simp
        have v2 : (wr.alloc (.cells #[.int .i64 p1, .int .i64 p2, .slice Ab m cb] 79)).cell? ⟨wr.heap.size, 2, none⟩ = some (.slice Ab m cb) := by simp
        obtain ⟨Ai, ci, e1, hrb, -⟩ := he.below hbD (Nat.le_refl _)
        injection e1 with e1 e4 e3
        subst e1 e3
        clear e4
        have hlen := foldS_len 0 (s.lo.take k) s (0 + p2.toNat)
        have htt := tot_take s.lo k hkl
        rw [hp] at htt
        have hp2 : 0 + p2.toNat < 4 := by rcases hgood.2 with e | e <;> simp only at e <;> omega
        have hsk := HS.out.1 (0 + p2.toNat) hp2
        have hDo := do_any (wr.alloc (.cells #[.int .i64 p1, .int .i64 p2, .slice Ab m cb] 79)).drew (HKK.out.below hbD (Nat.le_refl _)) 0 (.inl rfl) (p1, p2, b) hgood hm hrb (Nat.le_refl _) (by simp only at htt ⊢; omega) 0 rfl (cb := cb)
        have HDO := Lib.hid hDo
        have hnx : foldS 0 s (s.lo.take (k + 1)) = doS 0 (foldS 0 s (s.lo.take k)) (p1, p2, b) := by rw [← List.take_append_getElem hkl, foldS_snoc, hp]
        have HNX := Lib.hid hnx
        have hbB : BelF F wr (wr.alloc (.cells #[.int .i64 p1, .int .i64 p2, .slice Ab m cb] 79)).drew := BelF.of hbD (Nat.le_refl _)
        have hk0 : (0 : Int) ≤ k := by omega
        have hk1 : (k : Int) < kk := by omega
        clear hDo hnx he hrb hp hm hlen htt hsk hgood heq l1 l2 l3 l4
        go_wp2_with fail
        go_region_law (go_simp; go_at_call 45; refine (HDO.out).mono ?_; rintro e w1 ⟨rfl, A1, c1, h1, hb1, -, -⟩)
        rw [← HNX.out] at h1
        have H1 := Lib.hid h1
        have hb2 := hb.trans (hbB.trans hb1)
        have hs2 := hb2.size
        clear h1 HDO HNX hb1
        go_wp2_with fail
        go_roundw
        case rel => exact ⟨k + 1, A1, c1, hlt, by go_num, H1, hb2, hs2⟩
        case measure => simp [intOf] <;> omega
      · obtain rfl : k = kk := by omega
        obtain ⟨l1, l2, l3, l4⟩ := foldS_same 0 (s.lo.take k) s
        have e6 : wr.cell? ⟨d, 6, none⟩ = some (.slice AL (foldS 0 s (s.lo.take k)).lo.length cL) := by rw [cell_d HKK.out]; rfl
        rw [l1, ← HN.out] at e6
        have hkq : ¬ k < k := by omega
        clear l1 l2 l3 l4
        go_wp2_with fail
        have H1 := HKK
        rw [HALL.out (by have := HN.out; omega)] at H1
        have hbV := hb
        generalize c' = c1 at H1
        generalize A' = A1 at H1
        generalize wr = V at *
        obtain ⟨n0, hn0⟩ : ∃ n, n = (S.by_ 0).length := ⟨_, rfl⟩
        obtain ⟨n1, hn1⟩ : ∃ n, n = (S.by_ 1).length := ⟨_, rfl⟩
        have y0 : V.cell? ⟨d, 0, none⟩ = some (.slice (A1 0) n0 (c1 0)) := by rw [cell_d H1.out, hn0]; rfl
        have y1 : V.cell? ⟨d, 1, none⟩ = some (.slice (A1 1) n1 (c1 1)) := by rw [cell_d H1.out, hn1]; rfl
        have y2 : V.cell? ⟨d, 2, none⟩ = some (.int .i64 S.f0) := by rw [cell_d H1.out]; rfl
        have hCL := clone_any V.drew (d := d) (q := 0) S.f0 y0 y1 y2 hn0 hn1 (OwnB.rd (H1.out.own 0 (by omega))) (OwnB.rd (H1.out.own 1 (by omega))) (HLN.out 0 (by omega)) (HLN.out 1 (by omega))
        have HCL := Lib.hid hCL
        have N0 := Lib.hid hn0
        have N1 := Lib.hid hn1
        have hS0 : (fun X : World => (X.cell? ⟨d, 0, none⟩ = some (.slice (A1 0) n0 (c1 0)) ∧ X.cell? ⟨d, 1, none⟩ = some (.slice (A1 1) n1 (c1 1)) ∧ X.cell? ⟨d, 2, none⟩ = some (.int .i64 S.f0))) V.drew := ⟨y0, y1, y2⟩
        have hdV : d < V.heap.size := H1.out.dlt
        clear hCL hn0 hn1
        refine tail.wp_region_till 11 (fun X => (X.cell? ⟨d, 0, none⟩ = some (.slice (A1 0) n0 (c1 0)) ∧ X.cell? ⟨d, 1, none⟩ = some (.slice (A1 1) n1 (c1 1)) ∧ X.cell? ⟨d, 2, none⟩ = some (.int .i64 S.f0))) (by kernel_rfl) ?_
        (refine tail.till_take 0 (v := ?_) rfl (by kernel_rfl) (by kernel_rfl) (by kernel_rfl) (by kernel_rfl) (by kernel_rfl) (fun _ _ _ h => h) (by rfl) (by assumption) ?_ ?_; rotate_left 1; (focus (intro X hX; obtain ⟨s1, s2, s3⟩ := hX; go_simp; with_reducible rfl)); (try simp only [Act.put, List.setIfInBounds_toArray, List.set_cons_zero, List.set_cons_succ]))
        (refine tail.till_take 1 (v := ?_) rfl (by kernel_rfl) (by kernel_rfl) (by kernel_rfl) (by kernel_rfl) (by kernel_rfl) (fun _ _ _ h => h) (by rfl) (by assumption) ?_ ?_; rotate_left 1; (focus (intro X hX; obtain ⟨s1, s2, s3⟩ := hX; go_simp; with_reducible rfl)); (try simp only [Act.put, List.setIfInBounds_toArray, List.set_cons_zero, List.set_cons_succ]))
        (refine tail.till_take 2 (v := ?_) rfl (by kernel_rfl) (by kernel_rfl) (by kernel_rfl) (by kernel_rfl) (by kernel_rfl) (fun _ _ _ h => h) (by rfl) (by assumption) ?_ ?_; rotate_left 1; (focus (intro X hX; obtain ⟨s1, s2, s3⟩ := hX; go_simp; with_reducible rfl)); (try simp only [Act.put, List.setIfInBounds_toArray, List.set_cons_zero, List.set_cons_succ]))
        (refine tail.till_take 3 (v := ?_) rfl (by kernel_rfl) (by kernel_rfl) (by kernel_rfl) (by kernel_rfl) (by kernel_rfl) (fun _ _ _ h => h) (by rfl) (by assumption) ?_ ?_; rotate_left 1; (focus (intro X hX; obtain ⟨s1, s2, s3⟩ := hX; go_simp; with_reducible rfl)); (try simp only [Act.put, List.setIfInBounds_toArray, List.set_cons_zero, List.set_cons_succ]))
        (refine tail.till_take 4 (v := ?_) rfl (by kernel_rfl) (by kernel_rfl) (by kernel_rfl) (by kernel_rfl) (by kernel_rfl) (fun _ _ _ h => h) (by rfl) (by assumption) ?_ ?_; rotate_left 1; (focus (intro X hX; obtain ⟨s1, s2, s3⟩ := hX; go_simp; with_reducible rfl)); (try simp only [Act.put, List.setIfInBounds_toArray, List.set_cons_zero, List.set_cons_succ]))
        (refine tail.till_take 5 (v := ?_) rfl (by kernel_rfl) (by kernel_rfl) (by kernel_rfl) (by kernel_rfl) (by kernel_rfl) (fun _ _ _ h => h) (by rfl) (by assumption) ?_ ?_; rotate_left 1; (focus (intro X hX; obtain ⟨s1, s2, s3⟩ := hX; go_simp; with_reducible rfl)); (try simp only [Act.put, List.setIfInBounds_toArray, List.set_cons_zero, List.set_cons_succ]))
        (refine tail.till_take 6 (v := ?_) rfl (by kernel_rfl) (by kernel_rfl) (by kernel_rfl) (by kernel_rfl) (by kernel_rfl) (fun _ _ _ h => h) (by rfl) (by assumption) ?_ ?_; rotate_left 1; (focus (intro X hX; obtain ⟨s1, s2, s3⟩ := hX; go_simp; with_reducible rfl)); (try simp only [Act.put, List.setIfInBounds_toArray, List.set_cons_zero, List.set_cons_succ]))
        (refine tail.till_take 7 (v := ?_) rfl (by kernel_rfl) (by kernel_rfl) (by kernel_rfl) (by kernel_rfl) (by kernel_rfl) (fun _ _ _ h => h) (by rfl) (by assumption) ?_ ?_; rotate_left 1; (focus (intro X hX; obtain ⟨s1, s2, s3⟩ := hX; go_simp; with_reducible rfl)); (try simp only [Act.put, List.setIfInBounds_toArray, List.set_cons_zero, List.set_cons_succ]))
        refine tail.till_one 8 (by kernel_rfl) rfl (fun K hK => ?_)
        go_simp
        go_at_call 46
        refine HCL.out.mono ?_
        rintro e w2 ⟨A2, c2, A3, c3, rfl, ho2, ho3, hf23, hb2⟩
        have hS2 : (fun X : World => (X.cell? ⟨d, 0, none⟩ = some (.slice (A1 0) n0 (c1 0)) ∧ X.cell? ⟨d, 1, none⟩ = some (.slice (A1 1) n1 (c1 1)) ∧ X.cell? ⟨d, 2, none⟩ = some (.int .i64 S.f0))) w2 := ⟨keepc (W := V.drew) y0 hb2, keepc (W := V.drew) y1 hb2, keepc (W := V.drew) y2 hb2⟩
        have hq : w2.heap[d]? = some (.cells (dcells A1 c1 AL cL S) 75 (0, 0)) := (hb2.block _ hdV).trans H1.out.cells
        have q0 : w2.cell? ⟨d, 0, none⟩ = _ := cell_of_row _ _ _ _ _ (0, 0) hq
        have q1 : w2.cell? ⟨d, 1, none⟩ = _ := cell_of_row _ _ _ _ _ (0, 0) hq
        have q2 : w2.cell? ⟨d, 2, none⟩ = _ := cell_of_row _ _ _ _ _ (0, 0) hq
        have q3 : w2.cell? ⟨d, 3, none⟩ = _ := cell_of_row _ _ _ _ _ (0, 0) hq
        have q4 : w2.cell? ⟨d, 4, none⟩ = _ := cell_of_row _ _ _ _ _ (0, 0) hq
        have q5 : w2.cell? ⟨d, 5, none⟩ = _ := cell_of_row _ _ _ _ _ (0, 0) hq
        have q6 : w2.cell? ⟨d, 6, none⟩ = _ := cell_of_row _ _ _ _ _ (0, 0) hq
        have q7 : w2.cell? ⟨d, 7, none⟩ = _ := cell_of_row _ _ _ _ _ (0, 0) hq
        have q8 : w2.cell? ⟨d, 8, none⟩ = _ := cell_of_row _ _ _ _ _ (0, 0) hq
        have q9 : w2.cell? ⟨d, 9, none⟩ = _ := cell_of_row _ _ _ _ _ (0, 0) hq
        have qf : ∀ j, w2.frozen? ⟨d, j, none⟩ = false := fun j => frozen_of_row _ _ j _ _ hq
        simp only [dcells, List.getElem?_toArray, List.getElem?_cons_succ, List.getElem?_cons_zero] at q0 q1 q2 q3 q4 q5 q6 q7 q8 q9
        have HF2 := Lib.hid (show w2.heap[d]? = some (.cells (dcells A1 c1 AL cL S) 75 (0, 0)) ∧ OwnB w2 V.heap.size A2 c2 (S.by_ 0) ∧ OwnB w2 V.heap.size A3 c3 (S.by_ 1) ∧ FarB A2 A3 ∧ Below V.heap.size V w2 from ⟨hq, ho2, ho3, hf23, hb2.os, hb2.tape, hb2.output, hb2.size, hb2.block⟩)
        clear ho2 ho3 hf23 hb2 hq
        first
          | refine hK.out _ _ (fun _ => hS2) ?_
          | (go_simp; refine hK.out _ _ (fun _ => hS2) ?_)
        clear hK K
        try simp only [Act.put, List.setIfInBounds_toArray, List.set_cons_zero, List.set_cons_succ]
        (refine tail.till_take 9 (v := ?_) rfl (by kernel_rfl) (by kernel_rfl) (by kernel_rfl) (by kernel_rfl) (by kernel_rfl) (fun _ _ _ h => h) (by rfl) (by assumption) ?_ ?_; rotate_left 1; (focus (intro X hX; obtain ⟨s1, s2, s3⟩ := hX; go_simp; with_reducible rfl)); (try simp only [Act.put, List.setIfInBounds_toArray, List.set_cons_zero, List.set_cons_succ]))
        (refine tail.till_take 10 (v := ?_) rfl (by kernel_rfl) (by kernel_rfl) (by kernel_rfl) (by kernel_rfl) (by kernel_rfl) (fun _ _ _ h => h) (by rfl) (by assumption) ?_ ?_; rotate_left 1; (focus (intro X hX; obtain ⟨s1, s2, s3⟩ := hX; go_simp; with_reducible rfl)); (try simp only [Act.put, List.setIfInBounds_toArray, List.set_cons_zero, List.set_cons_succ]))
        refine tail.till_one 11 (by kernel_rfl) rfl (fun K hK => ?_)
        go_simp
        refine hK.out _ _ (fun h => absurd rfl h) ?_
        clear hK K
        refine tail.till_done (by kernel_rfl) ?_ _
        go_wp2_with fail
        refine bodyPost_end (v := .tuple #[]) (by simp [results, Try.results15]) rfl ⟨rfl, ?_, ?_⟩
        · obtain ⟨g1, g2, g3, g4, g5⟩ := HF2.out
          have g6 := set10 g1 rfl (.slice (A1 0) n0 (c1 0)) (.slice (A1 1) n1 (c1 1)) (.int .i64 S.f0) (.slice A2 n0 c2) (.slice A3 n1 c3) (.int .i64 S.f0) (.slice none 0 0) (.bool false) (.int .i64 0) (.bool false)
          have e0 := N0.out
          have e1 := N1.out
          subst e0 e1
          refine H1.out.fresh g5 (Nat.le_refl _) g2 g3 g4 g6 (fun b hb => ?_) (by simp)
          repeat (rw [heap_setCell_other _ _ b _ (fun e => hb e)])
        · obtain ⟨g1, g2, g3, g4, g5⟩ := HF2.out
          repeat (with_reducible refine BelF.setCell ?_ hBd _)
          exact hbV.trans (BelF.of g5 (Nat.le_refl _))
end Go.Proofs.Ytjipjfionelpkaa.dk
