/- What row, both Scans and the frame law's awake answer. No condition but that lengths are short. -/
import Derived.Test.YtgnfodfbgkbnbaaFrame2
namespace Go.Proofs.Ytgnfodfbgkbnbaa.frameWalk
open Go.RowKit Go.Proofs.Ytgnfodfbgkbnbaa.hashPlain Go.Proofs.Ytgnfodfbgkbnbaa.framePlain Go.Proofs.Ytgnfodfbgkbnbaa.lib Go.Proofs.Ytgnfodfbgkbnbaa.byt Go.Proofs.Ytgnfodfbgkbnbaa.hashWalk

set_option maxHeartbeats 1000000 in
theorem row_any (w : World) {B : Nat} {A : Option Addr} {n c : Nat} {L : List (List UInt8)} (hn : n = L.length) (hr : RdBB w B A L) (hB : B ≤ w.heap.size) (h40 : L.length ≤ 40) (h3000 : ∀ r ∈ L, r.length ≤ 3000) :
    Calls Try.prog 26 #[.slice A n c] w fun e w' =>
      ∃ A' c' n', e = .returned (.slice A' n' c') ∧ n' = (rowOf L).length ∧ OwnB w' w.heap.size A' c' (rowOf L) ∧ Below w.heap.size w w' := by
  have hn40 : n ≤ 40 := by omega
  have HN := Lib.hid hn
  have H3 := Lib.hid h3000
  clear hn h3000
  go_enter Try.func26, Try.ntmps26
  go_wp2_with fail
  go_loopw [3, 4] (fun v i wr => ∃ (k m : Nat) (A' : Option Addr) (c' : Nat), k ≤ n ∧ i = .int .i64 k ∧ v = .slice A' m c' ∧ m = (rowOf (L.take k)).length ∧ OwnB wr w.heap.size A' c' (rowOf (L.take k)) ∧ Below w.heap.size w wr) (fun _ i _ => n - (intOf i).toNat)
  case atStart => exact ⟨0, 0, none, 0, Nat.zero_le _, rfl, rfl, by simp [rowOf], ownB_nil _ _, Below.refl _ _⟩
  case round =>
    obtain ⟨k, m, A', c', hk, rfl, rfl, hm, ho, hb⟩ := hrel
    have HM := Lib.hid hm
    clear hm
    by_cases hlt : k < n
    · have h1 : k < L.length := by rw [← HN.out]; exact hlt
      obtain ⟨ad, A1, c1, rfl, hc, hr1⟩ := (hr.below (hb.mono hB)).at_ h1
      obtain ⟨m1, hm1⟩ : ∃ m, m = L[k].length := ⟨_, rfl⟩
      rw [← hm1] at hc
      have hk3 : L[k].length ≤ 3000 := H3.out _ (List.getElem_mem h1)
      have HM1 := Lib.hid hm1
      clear hm1
      go_wp2_with fail
      refine (ref_frame_any wr HM1.out hr1 (Nat.le_trans hB hb.size) (by omega)).mono ?_
      rintro e w1 ⟨A2, c2, n2, rfl, hn2, ho2, hb2⟩
      have hlen : (rowOf (L.take k)).length ≤ 40 * 3012 := by
        refine Nat.le_trans (rowOf_length_le _ 3000 fun r hr => H3.out r (List.mem_of_mem_take hr)) ?_
        exact Nat.mul_le_mul_right _ (by rw [List.length_take]; omega)
      obtain ⟨A3, c3, w2, hrun, ho3, hu3⟩ := append_bytes w1 w.heap.size HM.out (own_below ho hb2 (Nat.le_refl _)) hn2 (c2 := c2) ho2.rd (by rw [frameOf_length]; omega) (Nat.le_trans hb.size hb2.size)
      have hb3 := (hb.trans (hb2.mono hb.size)).trans (hu3.below_own (own_below ho hb2 (Nat.le_refl _)) (Nat.le_trans hb.size hb2.size))
      have hT : L.take (k + 1) = L.take k ++ [L[k]] := List.take_succ_eq_append_getElem h1
      rw [← rowOf_snoc, ← hT] at hrun ho3
      obtain ⟨n3, hn3⟩ : ∃ n3, n3 = (rowOf (L.take (k + 1))).length := ⟨_, rfl⟩
      rw [← hn3] at hrun
      have HN3 := Lib.hid hn3
      clear hn3 hn2 hT
      go_wp2_with (at_builtin; refine wpList_append_run rfl rfl rfl rfl hrun ?_; clear hrun)
      go_roundw
      case rel => exact ⟨k + 1, n3, A3, c3, by omega, by go_num, rfl, HN3.out, ho3, hb3⟩
      case measure => simp [intOf] <;> omega
    · have e : L.take k = L := List.take_of_length_le (by rw [← HN.out]; omega)
      rw [e] at ho HM
      clear e
      go_wp2_with fail
      go_ret
      exact ⟨A', c', m, rfl, HM.out, ho, hb⟩

/-! ### frame.Scan -/
def J1 (w : World) (A : Option Addr) (n c : Nat) (bs : List UInt8) (a : Act) (wr : World) : Prop :=
  ∃ (k m : Nat) (R : List (List UInt8)) (A' : Option Addr) (c' : Nat) (u5 u7 u8 u9 u10 u11 u12 u13 u14 u15 u16 u17 u18 u19 u20 u21 u22 u23 u24 u25 u26 u27 u28 u29 u30 u31 u32 u33 u34 u35 u36 u37 u38 u39 u40 u41 u42 u43 u44 u45 u46 u47 u48 u49 u50 u51 u52 u53 u54 u55 u56 u57 u58 u59 u60 u61 u62 u63 u64 u65 u66 u67 u68 : Value),
    a = { tmps := #[.slice A n c, undef, .slice none 0 0, .int .i64 0, .slice A' m c', u5, .int .i64 (k : Int), u7, u8, u9, u10, u11, u12, u13, u14, u15, u16, u17, u18, u19, u20, u21, u22, u23, u24, u25, u26, u27, u28, u29, u30, u31, u32, u33, u34, u35, u36, u37, u38, u39, u40, u41, u42, u43, u44, u45, u46, u47, u48, u49, u50, u51, u52, u53, u54, u55, u56, u57, u58, u59, u60, u61, u62, u63, u64, u65, u66, u67, u68], defers := [] } ∧ m = R.length ∧ OwnBB wr w.heap.size A' c' R ∧ ToldB bs R k ∧ R.length ≤ k ∧ Below w.heap.size w wr
def J0 (w : World) (A : Option Addr) (n c : Nat) (bs : List UInt8) (a : Act) (wr : World) : Prop :=
  ∃ (k m : Nat) (R : List (List UInt8)) (A' : Option Addr) (c' : Nat) (u5 u7 u8 u9 u10 u11 u12 u13 u14 u15 u16 u17 u18 u19 u20 u21 u22 u23 u24 u25 u26 u27 u28 u29 u30 u31 u32 u33 u34 u35 u36 u37 u38 u39 u40 u41 u42 u43 u44 u45 u46 u47 u48 u49 u50 u51 u52 u53 u54 u55 u56 u57 u58 u59 u60 u61 u62 u63 u64 u65 u66 u67 u68 : Value),
    a = { tmps := #[.slice A n c, undef, .slice none 0 0, .int .i64 0, .slice A' m c', u5, .int .i64 (k : Int), u7, u8, u9, u10, u11, u12, u13, u14, u15, u16, u17, u18, u19, u20, u21, u22, u23, u24, u25, u26, u27, u28, u29, u30, u31, u32, u33, u34, u35, u36, u37, u38, u39, u40, u41, u42, u43, u44, u45, u46, u47, u48, u49, u50, u51, u52, u53, u54, u55, u56, u57, u58, u59, u60, u61, u62, u63, u64, u65, u66, u67, u68], defers := [] } ∧ m = R.length ∧ OwnBB wr w.heap.size A' c' R ∧ ToldB bs R k ∧ first (bs.drop k) = none ∧ Below w.heap.size w wr

theorem take_len {bs : List UInt8} {k m : Nat} (h : k + m ≤ bs.length) : ((bs.drop k).take m).length = m := by rw [List.length_take, List.length_drop]; omega
theorem numB4 {l : List UInt8} (h : l.length = 4) : numB l ≤ 4294967295 := by have := numB_lt l; rw [h] at this; omega
set_option maxHeartbeats 4000000 in
theorem scan_any (w : World) {B : Nat} {A : Option Addr} {n c : Nat} {bs : List UInt8} (hn : n = bs.length) (hr : RdB w B A bs) (hB : B ≤ w.heap.size) (hnc : n ≤ c) (hs : bs.length ≤ 1099511627776) :
    Calls Try.prog 22 #[.slice A n c] w fun e w' =>
      ∃ (A' : Option Addr) (c' m k : Nat) (R : List (List UInt8)), e = .returned (.tuple #[.slice A' m c', .int .i64 (k : Int)]) ∧ m = R.length ∧ OwnBB w' w.heap.size A' c' R ∧ ToldB bs R k ∧ first (bs.drop k) = none ∧ Below w.heap.size w w' := by
  have hn2 : n ≤ 1099511627776 := by omega
  have HN := Lib.hid hn
  clear hn
  go_enter Try.func22, Try.ntmps22
  go_wp2_with fail
  refine wp_scope_search 1 0 (by decide) (J1 w A n c bs) (J0 w A n c bs) (fun a _ => n + 1 - (intOf (a.tmps.getD 6 undef)).toNat) (r0 := ?r0) ?h1 ?h0 ?_ ?_ ?_
  case h1 => exact rfl
  case h0 => exact rfl
  · go_wp2_with fail
    unfold J1
    refine ⟨0, 0, [], none, 0, ?_⟩
    (repeat apply Exists.intro)
    exact ⟨rfl, rfl, ownBB_nil _ _, ToldB.start _, Nat.le_refl _, Below.refl _ _⟩
  · rintro a wr ⟨k, m, R, A', c', u5, u7, u8, u9, u10, u11, u12, u13, u14, u15, u16, u17, u18, u19, u20, u21, u22, u23, u24, u25, u26, u27, u28, u29, u30, u31, u32, u33, u34, u35, u36, u37, u38, u39, u40, u41, u42, u43, u44, u45, u46, u47, u48, u49, u50, u51, u52, u53, u54, u55, u56, u57, u58, u59, u60, u61, u62, u63, u64, u65, u66, u67, u68, rfl, hm, ho, ht, hRk, hb⟩
    have hkn : k ≤ n := by rw [HN.out]; exact ht.row.2
    have HM := Lib.hid hm
    clear hm
    by_cases h12 : n < k + 12
    · have hf : first (bs.drop k) = none := first_short (by rw [List.length_drop, ← HN.out]; omega)
      have HF := Lib.hid hf
      clear hf
      go_wp2_with fail
      go_step3
      go_wp2_with fail
      refine Or.inr ⟨rfl, ?_⟩
      unfold J0
      refine ⟨k, m, R, A', c', ?_⟩
      (repeat apply Exists.intro)
      exact ⟨rfl, HM.out, ho, ht, HF.out, hb⟩
    · have h12b : k + 12 ≤ n := by omega
      clear h12
      have hkl : k < bs.length := by rw [← HN.out]; omega
      obtain ⟨ad, rfl, -⟩ := rd_at hr hkl
      have hrw : RdB wr B (some ad) bs := hr.below (hb.mono hB)
      have hr4 := hrw.sub k 4 (by rw [← HN.out]; omega)
      have l4 : ((bs.drop k).take 4).length = 4 := take_len (by rw [← HN.out]; omega)
      obtain ⟨z, hz⟩ : ∃ z, z = numB ((bs.drop k).take 4) := ⟨_, rfl⟩
      have hz2 : z ≤ 4294967295 := by rw [hz]; exact numB4 l4
      have HZ := Lib.hid hz
      have h12l : ¬ (bs.drop k).length < 12 := by rw [List.length_drop, ← HN.out]; omega
      have H12 := Lib.hid h12l
      clear hz h12l
      go_wp2_with fail
      refine (number_as wr l4.symm hr4 (by rw [l4]; omega) z HZ.out).mono ?_
      rintro e w' ⟨rfl, rfl⟩
      have L4 := Lib.hid l4
      clear l4
      by_cases hbig : 16777216 < z
      · have hf : first (bs.drop k) = none := first_large H12.out (.inl (by rw [← HZ.out]; exact hbig))
        have HF := Lib.hid hf
        clear hf
        go_wp2_with fail
        go_step3
        go_wp2_with fail
        refine Or.inr ⟨rfl, ?_⟩
        unfold J0
        refine ⟨k, m, R, A', c', ?_⟩
        (repeat apply Exists.intro)
        exact ⟨rfl, HM.out, ho, ht, HF.out, hb⟩
      · by_cases hlong : n < k + 12 + z
        · have hf : first (bs.drop k) = none := first_large H12.out (.inr (by rw [← HZ.out, List.length_drop, ← HN.out]; omega))
          have HF := Lib.hid hf
          clear hf
          go_wp2_with fail
          go_step3
          go_wp2_with fail
          refine Or.inr ⟨rfl, ?_⟩
          unfold J0
          refine ⟨k, m, R, A', c', ?_⟩
          (repeat apply Exists.intro)
          exact ⟨rfl, HM.out, ho, ht, HF.out, hb⟩
        · have hfit : k + 12 + z ≤ n := by omega
          have hno : ¬ (16777216 < numB ((bs.drop k).take 4) ∨ (bs.drop k).length - 12 < numB ((bs.drop k).take 4)) := by
            rw [← HZ.out, List.length_drop, ← HN.out]; omega
          have HNO := Lib.hid hno
          clear hlong hno
          obtain ⟨q, hq⟩ : ∃ q, q = k + 12 := ⟨_, rfl⟩
          have hrr := hrw.sub_if q z c (by rw [← HN.out]; omega) (by rw [← HN.out]; exact hnc)
          obtain ⟨A2, hif⟩ : ∃ A2, (if c = q then some ad else some (ad.add q)) = A2 := ⟨_, rfl⟩
          rw [hif] at hrr
          have lz : ((bs.drop q).take z).length = z := take_len (by rw [← HN.out]; omega)
          have LZ := Lib.hid lz
          clear lz
          obtain ⟨s1, hs1⟩ : ∃ s1 : ByteArray, s1 = ⟨((bs.drop k).take 4).toArray⟩ := ⟨_, rfl⟩
          obtain ⟨s2, hs2⟩ : ∃ s2 : ByteArray, s2 = ⟨((bs.drop q).take z).toArray⟩ := ⟨_, rfl⟩
          have d1 : s1.data.toList = (bs.drop k).take 4 := by rw [hs1]
          have d2 : s2.data.toList = (bs.drop q).take z := by rw [hs2]
          have z1 : s1.size = 4 := by rw [size_eq_of d1, L4.out]
          have z2 : s2.size = z := by rw [size_eq_of d2, LZ.out]
          have hc1 : ∀ nq, (convert 27 9 (.slice (some (ad.add k)) 4 (c - k))).run Try.prog (wr.drewN nq) = .ok (.string s1) (wr.drewN nq) := fun nq => by rw [hs1]; exact conv_text _ L4.out.symm (hr4.drewN nq)
          have hc2 : ∀ nq, (convert 27 9 (.slice A2 z (c - q))).run Try.prog (wr.drewN nq) = .ok (.string s2) (wr.drewN nq) := fun nq => by rw [hs2]; exact conv_text _ LZ.out.symm (hrr.drewN nq)
          have z1a : 4 ≤ s1.size := by omega
          have z1b : s1.size ≤ 4 := by omega
          have z2b : s2.size ≤ 16777216 := by omega
          have dT : (s1 ++ s2).data.toList = (bs.drop k).take 4 ++ (bs.drop q).take z := by rw [ByteArray.data_append, Array.toList_append, d1, d2]
          have DT := Lib.hid dT
          clear d1 d2 z1 z2 hs1 hs2 dT
          have q1 : (k : Int) + 4 ≤ c := by omega
          have q2 : (k : Int) + 12 + z ≤ c := by omega
          have q3 : ¬ c = k := by omega
          have q5 : (0 : Int) ≤ (k : Int) + 4 := by omega
          have q6 : (0 : Int) ≤ (k : Int) + 12 + z := by omega
          have q7 : (0 : Int) ≤ (k : Int) + 12 := by omega
          have W1 := Lib.hid (IntWalk.i64_in ((k : Int) + 4) (by omega))
          have W2 := Lib.hid (IntWalk.i64_in ((k : Int) + 12) (by omega))
          have W3 := Lib.hid (IntWalk.i64_in ((k : Int) + 12 + z) (by omega))
          have t1 : ((k : Int) + 4).toNat = k + 4 := by omega
          have t2 : ((k : Int) + 12).toNat = q := by omega
          have t3 : ((k : Int) + 12 + z).toNat = q + z := by omega
          have q8 : (k : Int) + 12 ≤ (q : Int) + z := by omega
          have HQ := Lib.hid hq
          clear hq
          go_wp2_with fail
          have w1 := W1.out
          have w2 := W2.out
          have w3 := W3.out
          go_quiet (fail)
          clear hc1 hc2 hif w1 w2 w3 t1 t2 t3
          obtain ⟨wd, hwd⟩ : ∃ wd, wd = wr.drewN nq := ⟨_, rfl⟩
          have hbd : Below wr.heap.size wr wd := by rw [hwd]; exact below_drewN (Below.refl _ _) nq
          rw [← hwd]
          clear hwd hrr hr4
          have hod : OwnBB wd w.heap.size A' c' R := ho.below hbd (Nat.le_refl _)
          have hb2 : Below w.heap.size w wd := hb.trans (hbd.mono hb.size)
          have hrd : RdB wd B (some ad) bs := hrw.below (hbd.mono (Nat.le_trans hB hb.size))
          clear hbd ho hb hrw q1 q2 q3 q5 q6 q7 q8
          have hr8 := hrd.sub (k + 4) 8 (by rw [← HN.out]; omega)
          have l8 : ((bs.drop (k + 4)).take 8).length = 8 := take_len (by rw [← HN.out]; omega)
          obtain ⟨y, hy⟩ : ∃ y, y = numB ((bs.drop (k + 4)).take 8) := ⟨_, rfl⟩
          have HY := Lib.hid hy
          clear hy
          have e84 : ad.add (k + 4) = ⟨ad.block, ad.off + (k + 3 + 1), none⟩ := by simp [Addr.add]
          rw [e84] at hr8
          clear e84
          go_wp2_with fail
          refine (number_as wd l8.symm hr8 (by rw [l8]; omega) y HY.out).mono ?_
          rintro e w' ⟨rfl, rfl⟩
          go_wp2_with fail
          obtain ⟨S, hS⟩ : ∃ S, S = hsum (s1 ++ s2).data.toList := ⟨_, rfl⟩
          refine (sum_as _ _ (by rw [ByteArray.size_append]; unfold maxLen; omega) S hS).mono ?_
          rintro e w' ⟨rfl, rfl⟩
          have e1 : (bs.drop k).drop 12 = bs.drop q := by rw [List.drop_drop, HQ.out]
          have e2 : (bs.drop k).drop 4 = bs.drop (k + 4) := by rw [List.drop_drop]
          rw [DT.out] at hS
          have HS := Lib.hid hS
          have E1 := Lib.hid e1
          have E2 := Lib.hid e2
          clear hS e1 e2 l8 hr8 hrd
          by_cases hyS : y = S
          · have hyS' : ((y : Int) != (S : Int)) = false := by rw [hyS]; simp
            have hf : first (bs.drop k) = some ((bs.drop q).take z) := by
              rw [first_yes H12.out HNO.out (by rw [E2.out, E1.out, ← HY.out, ← HZ.out, hyS]; exact HS.out), E1.out, ← HZ.out]
            have htold := ht.next hf
            have HT := Lib.hid htold
            have e3 := extract_high DT.out L4.out (s1.size + s2.size) ByteArray.size_append.symm
            obtain ⟨c9, w9, hrun9, hb9, hel9⟩ := elem_text wd w.heap.size A' ((s1 ++ s2).extract 4 (s1.size + s2.size)) hb2.size (ownBB_lt hod)
            rw [e3, LZ.out] at hrun9
            rw [e3] at hel9
            have ho9 := hod.below hb9 (Nat.le_refl _)
            obtain ⟨A5, c5, w5, hrun5, ho5, hb5⟩ := append_hdr w9 w.heap.size HM.out ho9 hel9 (by rw [← HN.out] at hs; omega) (Nat.le_trans hb2.size hb9.size)
            rw [LZ.out] at hrun5
            have hb6 : Below w.heap.size w w5 := (hb2.trans (hb9.mono hb2.size)).trans hb5
            obtain ⟨m5, hm5⟩ : ∃ m5, m5 = (R ++ [(bs.drop q).take z]).length := ⟨_, rfl⟩
            rw [← hm5] at hrun5
            have hRk5 : (R ++ [(bs.drop q).take z]).length ≤ k + (12 + ((bs.drop q).take z).length) := by rw [List.length_append]; simp only [List.length_cons, List.length_nil]; omega
            rw [LZ.out] at hRk5
            have HM5 := Lib.hid hm5
            have HR5 := Lib.hid hRk5
            clear hyS hf htold hel9 e3 ho9 hb9 hb5 hm5 hRk5 hod
            go_wp2_with (first | (at_builtin; refine wpList_append_run rfl rfl rfl rfl hrun5 ?_; clear hrun5))
            go_step3
            go_wp2_with fail
            have ek : ((k : Int) + (12 + (z : Int))) = ((k + (12 + z) : Nat) : Int) := by omega
            rw [ek]
            refine Or.inl ⟨rfl, ?_, ?_⟩
            · unfold J1
              refine ⟨k + (12 + z), m5, R ++ [(bs.drop q).take z], A5, c5, ?_⟩
              (repeat apply Exists.intro)
              refine ⟨rfl, HM5.out, ho5, ?_, HR5.out, hb6⟩
              have := HT.out
              rwa [LZ.out] at this
            · simp [intOf]
              omega
          · have hyS' : ((y : Int) != (S : Int)) = true := by rw [bne_iff_ne]; omega
            have hf : first (bs.drop k) = none := first_no H12.out HNO.out (by rw [E2.out, E1.out, ← HY.out, ← HZ.out, ← HS.out]; exact hyS)
            have HF := Lib.hid hf
            clear hyS hf
            go_wp2_with fail
            go_step3
            go_wp2_with fail
            refine Or.inr ⟨rfl, ?_⟩
            unfold J0
            refine ⟨k, m, R, A', c', ?_⟩
            (repeat apply Exists.intro)
            exact ⟨rfl, HM.out, hod, ht, HF.out, hb2⟩
  · rintro a wr ⟨k, m, R, A', c', u5, u7, u8, u9, u10, u11, u12, u13, u14, u15, u16, u17, u18, u19, u20, u21, u22, u23, u24, u25, u26, u27, u28, u29, u30, u31, u32, u33, u34, u35, u36, u37, u38, u39, u40, u41, u42, u43, u44, u45, u46, u47, u48, u49, u50, u51, u52, u53, u54, u55, u56, u57, u58, u59, u60, u61, u62, u63, u64, u65, u66, u67, u68, rfl, hm, ho, ht, hf, hb⟩
    have HM := Lib.hid hm
    have HF := Lib.hid hf
    clear hm hf
    go_wp2_with fail
    try rw [Exit.noGoto_ret]
    go_ret2
    exact ⟨A', c', m, k, R, rfl, HM.out, ho, ht, HF.out, hb⟩
end Go.Proofs.Ytgnfodfbgkbnbaa.frameWalk
