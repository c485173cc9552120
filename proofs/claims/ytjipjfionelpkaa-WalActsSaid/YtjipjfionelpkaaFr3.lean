/- (Scan alone.) What frame.Scan answers. No condition but that lengths are short. -/
import Derived.Test.YtjipjfionelpkaaFr2
namespace Go.Proofs.Ytjipjfionelpkaa.frameWalk
open Go.RowKit Go.Proofs.Ytjipjfionelpkaa.hashPlain Go.Proofs.Ytjipjfionelpkaa.framePlain Go.Proofs.Ytjipjfionelpkaa.lib Go.Proofs.Ytjipjfionelpkaa.byt Go.Proofs.Ytjipjfionelpkaa.hashWalk

/-- The headers lead to blocks that are not one another's. -/
def HApart (hs : List Value) : Prop := ∀ (i j : Nat) (ad1 ad2 : Addr) (n1 c1 n2 c2 : Nat), i < j → hs[i]? = some (Value.slice (some ad1) n1 c1) → hs[j]? = some (Value.slice (some ad2) n2 c2) → ad1.block ≠ ad2.block
/-- As OwnBB, the elements in blocks of their own each. -/
def OwnBX (w : World) (B : Nat) (A : Option Addr) (c : Nat) (L : List (List UInt8)) : Prop :=
  ∃ hs : List Value, w.ownsRow B 22 1 (.slice A L.length c) L.length hs ∧ (∀ i (h : i < L.length), ∃ v, hs[i]? = some v ∧ ElemB w B A v L[i]) ∧ HApart hs
theorem ownBX_nil (w : World) (B : Nat) : OwnBX w B none 0 [] := ⟨[], World.ownsRow_nil w B _ _, fun i h => absurd h (by simp), fun i j _ _ _ _ _ _ _ h => by simp at h⟩
theorem OwnBX.bb {w : World} {B : Nat} {A : Option Addr} {c : Nat} {L : List (List UInt8)} (h : OwnBX w B A c L) : OwnBB w B A c L := let ⟨hs, h1, h2, _⟩ := h; ⟨hs, h1, h2⟩
theorem OwnBX.below {w w' : World} {B : Nat} {A : Option Addr} {c : Nat} {L : List (List UInt8)} (h : OwnBX w B A c L) {k : Nat} (hb : Below k w w') (hk : w.heap.size ≤ k) : OwnBX w' B A c L :=
  let ⟨hs, h1, h2, h3⟩ := h; ⟨hs, own_below h1 hb hk, fun i hi => let ⟨v, e, hv⟩ := h2 i hi; ⟨v, e, hv.below hb hk⟩, h3⟩
theorem append_hdrX (wd w : World) (B : Nat) {A : Option Addr} {n c : Nat} {L : List (List UInt8)} (hn : n = L.length) (hown0 : OwnBX wd B A c L) (hbd : Below wd.heap.size wd w) {n0 c0 : Nat} {r : List UInt8} (hv : ElemB w B A (.slice (some ⟨wd.heap.size, 0, none⟩) n0 c0) r)
    (hs : L.length ≤ 1099511627776) (hB : B ≤ w.heap.size) :
    ∃ A' c' w', (Builtin.append_ #[43, 43] 43 #[.slice A n c, .slice (some ⟨w.heap.size, 0, none⟩) 1 1]).run Try.prog (w.alloc (.cells #[.slice (some ⟨wd.heap.size, 0, none⟩) n0 c0] 22)) = .ok (.slice A' (L ++ [r]).length c') w' ∧
      OwnBX w' B A' c' (L ++ [r]) ∧ Below B w w' := by
  obtain ⟨i0, hi, hz0, hz1, hz2⟩ := info_parts info_hdr
  subst hn
  obtain ⟨hs', h1, h2, h3⟩ := hown0.below hbd (Nat.le_refl _)
  obtain ⟨hs0, g1, g2, g3⟩ := hown0
  have hb1 : Below w.heap.size w (w.alloc (.cells #[.slice (some ⟨wd.heap.size, 0, none⟩) n0 c0] 22)) := (Below.refl _ _).alloc (Nat.le_refl _) _
  replace h1 := own_below g1 hbd (Nat.le_refl _)
  replace h2 : ∀ i (h : i < L.length), ∃ v, hs0[i]? = some v ∧ ElemB w B A v L[i] := fun i hi => let ⟨v, e, hv⟩ := g2 i hi; ⟨v, e, hv.below hbd (Nat.le_refl _)⟩
  have hone : ∀ u ∈ [Value.slice (some ⟨wd.heap.size, 0, none⟩) n0 c0], u.oneCell' = true := by
    intro u hu
    rw [List.mem_singleton] at hu
    rw [hu]; rfl
  obtain ⟨A', c', w', hr1, hr2, hr3⟩ := append_law (P := Try.prog) (w.alloc (.cells #[.slice (some ⟨wd.heap.size, 0, none⟩) n0 c0] 22)) B 43 43 43 22 i0 _ 1 24 Try.underlying43 hi hz0 hz1 hz2 rfl (by decide) (World.ownsRow.alloc h1 _)
    (Src.of_reads Try.underlying43 (c := 1) (Reads.new_ w 1 1 #[.slice (some ⟨wd.heap.size, 0, none⟩) n0 c0] 22 rfl) hone) (by unfold maxLen; omega) (by omega) (by simp; omega)
  have hlen : hs0.length = L.length := by have := h1.1; omega
  refine ⟨A', c', w', by rw [hr1, List.length_append]; rfl, ⟨hs0 ++ [.slice (some ⟨wd.heap.size, 0, none⟩) n0 c0], by rw [List.length_append]; exact hr2, fun i hi => ?_, fun i j ad1 ad2 m1 d1 m2 d2 hij e1 e2 => ?_⟩, (hb1.mono hB).trans (hr3.below_own (World.ownsRow.alloc h1 _) (by simp; omega))⟩
  · rcases Nat.lt_or_ge i L.length with hlt | hge
    · obtain ⟨u, hu, he⟩ := h2 i hlt
      refine ⟨u, by rw [List.getElem?_append_left (by omega)]; exact hu, ?_⟩
      rw [List.getElem_append_left hlt]
      exact (he.below hb1 (Nat.le_refl _)).upd hr3
    · have hil : i = L.length := by rw [List.length_append] at hi; simp at hi; omega
      subst hil
      refine ⟨Value.slice (some ⟨wd.heap.size, 0, none⟩) n0 c0, by rw [List.getElem?_append_right (by omega), hlen]; simp, ?_⟩
      rw [List.getElem_append_right (Nat.le_refl _)]
      simpa using (hv.below hb1 (Nat.le_refl _)).upd hr3
  · have hj : j < (hs0 ++ [Value.slice (some ⟨wd.heap.size, 0, none⟩) n0 c0]).length := (List.getElem?_eq_some_iff.1 e2).1
    simp only [List.length_append, List.length_singleton] at hj
    rw [List.getElem?_append_left (by omega)] at e1
    by_cases hjl : j < hs0.length
    · rw [List.getElem?_append_left hjl] at e2
      exact g3 i j ad1 ad2 m1 d1 m2 d2 hij e1 e2
    · have : j = hs0.length := by omega
      subst this
      rw [List.getElem?_append_right (Nat.le_refl _)] at e2
      simp only [Nat.sub_self, List.getElem?_cons_zero, Option.some.injEq, Value.slice.injEq] at e2
      obtain ⟨e2, _, _⟩ := e2
      subst e2
      obtain ⟨v, hv', Ai, ci, e3, _, ha⟩ := g2 i (by omega)
      rw [e1] at hv'
      injection hv' with hv'
      rw [← hv'] at e3
      injection e3 with e4 _ _
      have := (ha ad1 e4.symm).1
      simp only
      omega
/-! ### frame.Scan -/
def J1 (w : World) (A : Option Addr) (n c : Nat) (bs : List UInt8) (a : Act) (wr : World) : Prop :=
  ∃ (k m : Nat) (R : List (List UInt8)) (A' : Option Addr) (c' : Nat) (u5 u7 u8 u9 u10 u11 u12 u13 u14 u15 u16 u17 u18 u19 u20 u21 u22 u23 u24 u25 u26 u27 u28 u29 u30 u31 u32 u33 u34 u35 u36 u37 u38 u39 u40 u41 u42 u43 u44 u45 u46 u47 u48 u49 u50 u51 u52 u53 u54 u55 u56 u57 u58 u59 u60 u61 u62 u63 u64 u65 u66 u67 u68 : Value),
    a = { tmps := #[.slice A n c, undef, .slice none 0 0, .int .i64 0, .slice A' m c', u5, .int .i64 (k : Int), u7, u8, u9, u10, u11, u12, u13, u14, u15, u16, u17, u18, u19, u20, u21, u22, u23, u24, u25, u26, u27, u28, u29, u30, u31, u32, u33, u34, u35, u36, u37, u38, u39, u40, u41, u42, u43, u44, u45, u46, u47, u48, u49, u50, u51, u52, u53, u54, u55, u56, u57, u58, u59, u60, u61, u62, u63, u64, u65, u66, u67, u68], defers := [] } ∧ m = R.length ∧ OwnBX wr w.heap.size A' c' R ∧ ToldB bs R k ∧ R.length ≤ k ∧ Below w.heap.size w wr
def J0 (w : World) (A : Option Addr) (n c : Nat) (bs : List UInt8) (a : Act) (wr : World) : Prop :=
  ∃ (k m : Nat) (R : List (List UInt8)) (A' : Option Addr) (c' : Nat) (u5 u7 u8 u9 u10 u11 u12 u13 u14 u15 u16 u17 u18 u19 u20 u21 u22 u23 u24 u25 u26 u27 u28 u29 u30 u31 u32 u33 u34 u35 u36 u37 u38 u39 u40 u41 u42 u43 u44 u45 u46 u47 u48 u49 u50 u51 u52 u53 u54 u55 u56 u57 u58 u59 u60 u61 u62 u63 u64 u65 u66 u67 u68 : Value),
    a = { tmps := #[.slice A n c, undef, .slice none 0 0, .int .i64 0, .slice A' m c', u5, .int .i64 (k : Int), u7, u8, u9, u10, u11, u12, u13, u14, u15, u16, u17, u18, u19, u20, u21, u22, u23, u24, u25, u26, u27, u28, u29, u30, u31, u32, u33, u34, u35, u36, u37, u38, u39, u40, u41, u42, u43, u44, u45, u46, u47, u48, u49, u50, u51, u52, u53, u54, u55, u56, u57, u58, u59, u60, u61, u62, u63, u64, u65, u66, u67, u68], defers := [] } ∧ m = R.length ∧ OwnBX wr w.heap.size A' c' R ∧ ToldB bs R k ∧ first (bs.drop k) = none ∧ Below w.heap.size w wr

theorem take_len {bs : List UInt8} {k m : Nat} (h : k + m ≤ bs.length) : ((bs.drop k).take m).length = m := by rw [List.length_take, List.length_drop]; omega
theorem numB4 {l : List UInt8} (h : l.length = 4) : numB l ≤ 4294967295 := by have := numB_lt l; rw [h] at this; omega
set_option maxHeartbeats 4000000 in
theorem scan_any (w : World) {B : Nat} {A : Option Addr} {n c : Nat} {bs : List UInt8} (hn : n = bs.length) (hr : RdB w B A bs) (hB : B ≤ w.heap.size) (hnc : n ≤ c) (hs : bs.length ≤ 1099511627776) :
    Calls Try.prog 53 #[.slice A n c] w fun e w' =>
      ∃ (A' : Option Addr) (c' m k : Nat) (R : List (List UInt8)), e = .returned (.tuple #[.slice A' m c', .int .i64 (k : Int)]) ∧ m = R.length ∧ OwnBX w' w.heap.size A' c' R ∧ ToldB bs R k ∧ first (bs.drop k) = none ∧ Below w.heap.size w w' := by
  have hn2 : n ≤ 1099511627776 := by omega
  have HN := Lib.hid hn
  clear hn
  go_enter Try.func53, Try.ntmps53
  go_wp2_with fail
  refine wp_scope_search 1 0 (by decide) (J1 w A n c bs) (J0 w A n c bs) (fun a _ => n + 1 - (intOf (a.tmps.getD 6 undef)).toNat) (r0 := ?r0) ?h1 ?h0 ?_ ?_ ?_
  case h1 => exact rfl
  case h0 => exact rfl
  · go_wp2_with fail
    unfold J1
    refine ⟨0, 0, [], none, 0, ?_⟩
    (repeat apply Exists.intro)
    exact ⟨rfl, rfl, ownBX_nil _ _, ToldB.start _, Nat.le_refl _, Below.refl _ _⟩
  · rintro a wr ⟨k, m, R, A', c', u5, u7, u8, u9, u10, u11, u12, u13, u14, u15, u16, u17, u18, u19, u20, u21, u22, u23, u24, u25, u26, u27, u28, u29, u30, u31, u32, u33, u34, u35, u36, u37, u38, u39, u40, u41, u42, u43, u44, u45, u46, u47, u48, u49, u50, u51, u52, u53, u54, u55, u56, u57, u58, u59, u60, u61, u62, u63, u64, u65, u66, u67, u68, rfl, hm, ho, ht, hRk, hb⟩
    have hkn : k ≤ n := by rw [HN.out]; exact ht.row.2
    have HM := Lib.hid hm
    clear hm
    by_cases h12 : n < k + 12
    · have hf : first (bs.drop k) = none := first_short (by rw [List.length_drop, ← HN.out]; omega)
      have HF := Lib.hid hf
      clear hf
      go_wp2_with fail
      go_step3
      go_wp2_with fail
      refine Or.inr ⟨rfl, ?_⟩
      unfold J0
      refine ⟨k, m, R, A', c', ?_⟩
      (repeat apply Exists.intro)
      exact ⟨rfl, HM.out, ho, ht, HF.out, hb⟩
    · have h12b : k + 12 ≤ n := by omega
      clear h12
      have hkl : k < bs.length := by rw [← HN.out]; omega
      obtain ⟨ad, rfl, -⟩ := rd_at hr hkl
      have hrw : RdB wr B (some ad) bs := hr.below (hb.mono hB)
      have hr4 := hrw.sub k 4 (by rw [← HN.out]; omega)
      have l4 : ((bs.drop k).take 4).length = 4 := take_len (by rw [← HN.out]; omega)
      obtain ⟨z, hz⟩ : ∃ z, z = numB ((bs.drop k).take 4) := ⟨_, rfl⟩
      have hz2 : z ≤ 4294967295 := by rw [hz]; exact numB4 l4
      have HZ := Lib.hid hz
      have h12l : ¬ (bs.drop k).length < 12 := by rw [List.length_drop, ← HN.out]; omega
      have H12 := Lib.hid h12l
      clear hz h12l
      go_wp2_with fail
      refine (number_as wr l4.symm hr4 (by rw [l4]; omega) z HZ.out).mono ?_
      rintro e w' ⟨rfl, rfl⟩
      have L4 := Lib.hid l4
      clear l4
      by_cases hbig : 16777216 < z
      · have hf : first (bs.drop k) = none := first_large H12.out (.inl (by rw [← HZ.out]; exact hbig))
        have HF := Lib.hid hf
        clear hf
        go_wp2_with fail
        go_step3
        go_wp2_with fail
        refine Or.inr ⟨rfl, ?_⟩
        unfold J0
        refine ⟨k, m, R, A', c', ?_⟩
        (repeat apply Exists.intro)
        exact ⟨rfl, HM.out, ho, ht, HF.out, hb⟩
      · by_cases hlong : n < k + 12 + z
        · have hf : first (bs.drop k) = none := first_large H12.out (.inr (by rw [← HZ.out, List.length_drop, ← HN.out]; omega))
          have HF := Lib.hid hf
          clear hf
          go_wp2_with fail
          go_step3
          go_wp2_with fail
          refine Or.inr ⟨rfl, ?_⟩
          unfold J0
          refine ⟨k, m, R, A', c', ?_⟩
          (repeat apply Exists.intro)
          exact ⟨rfl, HM.out, ho, ht, HF.out, hb⟩
        · have hfit : k + 12 + z ≤ n := by omega
          have hno : ¬ (16777216 < numB ((bs.drop k).take 4) ∨ (bs.drop k).length - 12 < numB ((bs.drop k).take 4)) := by
            rw [← HZ.out, List.length_drop, ← HN.out]; omega
          have HNO := Lib.hid hno
          clear hlong hno
          obtain ⟨q, hq⟩ : ∃ q, q = k + 12 := ⟨_, rfl⟩
          have hrr := hrw.sub_if q z c (by rw [← HN.out]; omega) (by rw [← HN.out]; exact hnc)
          obtain ⟨A2, hif⟩ : ∃ A2, (if c = q then some ad else some (ad.add q)) = A2 := ⟨_, rfl⟩
          rw [hif] at hrr
          have lz : ((bs.drop q).take z).length = z := take_len (by rw [← HN.out]; omega)
          have LZ := Lib.hid lz
          clear lz
          obtain ⟨s1, hs1⟩ : ∃ s1 : ByteArray, s1 = ⟨((bs.drop k).take 4).toArray⟩ := ⟨_, rfl⟩
          obtain ⟨s2, hs2⟩ : ∃ s2 : ByteArray, s2 = ⟨((bs.drop q).take z).toArray⟩ := ⟨_, rfl⟩
          have d1 : s1.data.toList = (bs.drop k).take 4 := by rw [hs1]
          have d2 : s2.data.toList = (bs.drop q).take z := by rw [hs2]
          have z1 : s1.size = 4 := by rw [size_eq_of d1, L4.out]
          have z2 : s2.size = z := by rw [size_eq_of d2, LZ.out]
          have hc1 : ∀ nq, (convert 22 9 (.slice (some (ad.add k)) 4 (c - k))).run Try.prog (wr.drewN nq) = .ok (.string s1) (wr.drewN nq) := fun nq => by rw [hs1]; exact conv_text _ L4.out.symm (hr4.drewN nq)
          have hc2 : ∀ nq, (convert 22 9 (.slice A2 z (c - q))).run Try.prog (wr.drewN nq) = .ok (.string s2) (wr.drewN nq) := fun nq => by rw [hs2]; exact conv_text _ LZ.out.symm (hrr.drewN nq)
          have z1a : 4 ≤ s1.size := by omega
          have z1b : s1.size ≤ 4 := by omega
          have z2b : s2.size ≤ 16777216 := by omega
          have dT : (s1 ++ s2).data.toList = (bs.drop k).take 4 ++ (bs.drop q).take z := by rw [ByteArray.data_append, Array.toList_append, d1, d2]
          have DT := Lib.hid dT
          clear d1 d2 z1 z2 hs1 hs2 dT
          have q1 : (k : Int) + 4 ≤ c := by omega
          have q2 : (k : Int) + 12 + z ≤ c := by omega
          have q3 : ¬ c = k := by omega
          have q5 : (0 : Int) ≤ (k : Int) + 4 := by omega
          have q6 : (0 : Int) ≤ (k : Int) + 12 + z := by omega
          have q7 : (0 : Int) ≤ (k : Int) + 12 := by omega
          have W1 := Lib.hid (IntWalk.i64_in ((k : Int) + 4) (by omega))
          have W2 := Lib.hid (IntWalk.i64_in ((k : Int) + 12) (by omega))
          have W3 := Lib.hid (IntWalk.i64_in ((k : Int) + 12 + z) (by omega))
          have t1 : ((k : Int) + 4).toNat = k + 4 := by omega
          have t2 : ((k : Int) + 12).toNat = q := by omega
          have t3 : ((k : Int) + 12 + z).toNat = q + z := by omega
          have q8 : (k : Int) + 12 ≤ (q : Int) + z := by omega
          have HQ := Lib.hid hq
          clear hq
          go_wp2_with fail
          have w1 := W1.out
          have w2 := W2.out
          have w3 := W3.out
          go_quiet (fail)
          clear hc1 hc2 hif w1 w2 w3 t1 t2 t3
          obtain ⟨wd, hwd⟩ : ∃ wd, wd = wr.drewN nq := ⟨_, rfl⟩
          have hbd : Below wr.heap.size wr wd := by rw [hwd]; exact below_drewN (Below.refl _ _) nq
          rw [← hwd]
          clear hwd hrr hr4
          have hod : OwnBX wd w.heap.size A' c' R := ho.below hbd (Nat.le_refl _)
          have hb2 : Below w.heap.size w wd := hb.trans (hbd.mono hb.size)
          have hrd : RdB wd B (some ad) bs := hrw.below (hbd.mono (Nat.le_trans hB hb.size))
          clear hbd ho hb hrw q1 q2 q3 q5 q6 q7 q8
          have hr8 := hrd.sub (k + 4) 8 (by rw [← HN.out]; omega)
          have l8 : ((bs.drop (k + 4)).take 8).length = 8 := take_len (by rw [← HN.out]; omega)
          obtain ⟨y, hy⟩ : ∃ y, y = numB ((bs.drop (k + 4)).take 8) := ⟨_, rfl⟩
          have HY := Lib.hid hy
          clear hy
          have e84 : ad.add (k + 4) = ⟨ad.block, ad.off + (k + 3 + 1), none⟩ := by simp [Addr.add]
          rw [e84] at hr8
          clear e84
          go_wp2_with fail
          refine (number_as wd l8.symm hr8 (by rw [l8]; omega) y HY.out).mono ?_
          rintro e w' ⟨rfl, rfl⟩
          go_wp2_with fail
          obtain ⟨S, hS⟩ : ∃ S, S = hsum (s1 ++ s2).data.toList := ⟨_, rfl⟩
          refine (sum_as _ _ (by rw [ByteArray.size_append]; unfold maxLen; omega) S hS).mono ?_
          rintro e w' ⟨rfl, rfl⟩
          have e1 : (bs.drop k).drop 12 = bs.drop q := by rw [List.drop_drop, HQ.out]
          have e2 : (bs.drop k).drop 4 = bs.drop (k + 4) := by rw [List.drop_drop]
          rw [DT.out] at hS
          have HS := Lib.hid hS
          have E1 := Lib.hid e1
          have E2 := Lib.hid e2
          clear hS e1 e2 l8 hr8 hrd
          by_cases hyS : y = S
          · have hyS' : ((y : Int) != (S : Int)) = false := by rw [hyS]; simp
            have hf : first (bs.drop k) = some ((bs.drop q).take z) := by
              rw [first_yes H12.out HNO.out (by rw [E2.out, E1.out, ← HY.out, ← HZ.out, hyS]; exact HS.out), E1.out, ← HZ.out]
            have htold := ht.next hf
            have HT := Lib.hid htold
            have e3 := extract_high DT.out L4.out (s1.size + s2.size) ByteArray.size_append.symm
            obtain ⟨c9, w9, hrun9, hb9, hel9⟩ := elem_text wd w.heap.size A' ((s1 ++ s2).extract 4 (s1.size + s2.size)) hb2.size (ownBB_lt hod.bb)
            rw [e3, LZ.out] at hrun9
            rw [e3] at hel9
            obtain ⟨A5, c5, w5, hrun5, ho5, hb5⟩ := append_hdrX wd w9 w.heap.size HM.out hod hb9 hel9 (by rw [← HN.out] at hs; omega) (Nat.le_trans hb2.size hb9.size)
            rw [LZ.out] at hrun5
            have hb6 : Below w.heap.size w w5 := (hb2.trans (hb9.mono hb2.size)).trans hb5
            obtain ⟨m5, hm5⟩ : ∃ m5, m5 = (R ++ [(bs.drop q).take z]).length := ⟨_, rfl⟩
            rw [← hm5] at hrun5
            have hRk5 : (R ++ [(bs.drop q).take z]).length ≤ k + (12 + ((bs.drop q).take z).length) := by rw [List.length_append]; simp only [List.length_cons, List.length_nil]; omega
            rw [LZ.out] at hRk5
            have HM5 := Lib.hid hm5
            have HR5 := Lib.hid hRk5
            clear hyS hf htold hel9 e3 hb9 hb5 hm5 hRk5 hod
            go_wp2_with (first | (at_builtin; refine wpList_append_run rfl rfl rfl rfl hrun5 ?_; clear hrun5))
            go_step3
            go_wp2_with fail
            have ek : ((k : Int) + (12 + (z : Int))) = ((k + (12 + z) : Nat) : Int) := by omega
            rw [ek]
            refine Or.inl ⟨rfl, ?_, ?_⟩
            · unfold J1
              refine ⟨k + (12 + z), m5, R ++ [(bs.drop q).take z], A5, c5, ?_⟩
              (repeat apply Exists.intro)
              refine ⟨rfl, HM5.out, ho5, ?_, HR5.out, hb6⟩
              have := HT.out
              rwa [LZ.out] at this
            · simp [intOf]
              omega
          · have hyS' : ((y : Int) != (S : Int)) = true := by rw [bne_iff_ne]; omega
            have hf : first (bs.drop k) = none := first_no H12.out HNO.out (by rw [E2.out, E1.out, ← HY.out, ← HZ.out, ← HS.out]; exact hyS)
            have HF := Lib.hid hf
            clear hyS hf
            go_wp2_with fail
            go_step3
            go_wp2_with fail
            refine Or.inr ⟨rfl, ?_⟩
            unfold J0
            refine ⟨k, m, R, A', c', ?_⟩
            (repeat apply Exists.intro)
            exact ⟨rfl, HM.out, hod, ht, HF.out, hb2⟩
  · rintro a wr ⟨k, m, R, A', c', u5, u7, u8, u9, u10, u11, u12, u13, u14, u15, u16, u17, u18, u19, u20, u21, u22, u23, u24, u25, u26, u27, u28, u29, u30, u31, u32, u33, u34, u35, u36, u37, u38, u39, u40, u41, u42, u43, u44, u45, u46, u47, u48, u49, u50, u51, u52, u53, u54, u55, u56, u57, u58, u59, u60, u61, u62, u63, u64, u65, u66, u67, u68, rfl, hm, ho, ht, hf, hb⟩
    have HM := Lib.hid hm
    have HF := Lib.hid hf
    clear hm hf
    go_wp2_with fail
    try rw [Exit.noGoto_ret]
    go_ret2
    exact ⟨A', c', m, k, R, rfl, HM.out, ho, ht, HF.out, hb⟩
theorem elem_own {w : World} {B B' : Nat} {A A3 : Option Addr} {n c : Nat} {r : List UInt8} (h : OwnB w B' A3 c r) (hn : n = r.length) (hB : B ≤ B') (hA : ∀ ad, A = some ad → ad.block < B') : ElemB w B A (.slice A3 n c) r := by
  subst hn
  refine ⟨A3, c, rfl, h.rd, fun ad e => ?_⟩
  subst e
  have hl := h.lt ad.block rfl
  refine ⟨hl.2, Nat.le_trans hB hl.1, ?_, fun j _ => ?_⟩
  · rcases A with _ | ad'
    · simp
    · have := hA ad' rfl
      simp only [Option.map_some, ne_eq, Option.some.injEq]
      omega
  · rcases h.2 with ⟨e, _⟩ | ⟨g, cap, cur, e, _, hg, _⟩
    · cases e
    · injection e with e1 _ _
      injection e1 with e1
      subst e1
      rw [show (⟨g, 0, none⟩ : Addr).add j = ⟨g, j, none⟩ from add_at _ j]
      simp [World.frozen?, hg]
end Go.Proofs.Ytjipjfionelpkaa.frameWalk
