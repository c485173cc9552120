/- What the reference's Scan and the frame law's awake answer. No condition but that lengths are short. -/
import Derived.Test.YtgnfodfbgkbnbaaFrame3
import Derived.Deep.RegionWith
namespace Go.Proofs.Ytgnfodfbgkbnbaa.frameWalk
open Go.RowKit Go.Proofs.Ytgnfodfbgkbnbaa.hashPlain Go.Proofs.Ytgnfodfbgkbnbaa.framePlain Go.Proofs.Ytgnfodfbgkbnbaa.lib Go.Proofs.Ytgnfodfbgkbnbaa.byt Go.Proofs.Ytgnfodfbgkbnbaa.hashWalk

theorem numB_four {bs : List UInt8} {k : Nat} (h : k + 4 ≤ bs.length) :
    numB ((bs.drop k).take 4) = bs[k].toNat + 256 * bs[k + 1].toNat + 65536 * bs[k + 2].toNat + 16777216 * bs[k + 3].toNat := by
  rw [List.drop_eq_getElem_cons (by omega), List.drop_eq_getElem_cons (by omega), List.drop_eq_getElem_cons (by omega), List.drop_eq_getElem_cons (by omega)]
  have e2 : bs[k + 1 + 1] = bs[k + 2] := rfl
  have e3 : bs[k + 1 + 1 + 1] = bs[k + 3] := rfl
  simp only [List.take_succ_cons, List.take_zero, numB]
  rw [e2, e3]
  omega
theorem elem_own {w : World} {B B' : Nat} {A A3 : Option Addr} {n c : Nat} {r : List UInt8} (h : OwnB w B' A3 c r) (hn : n = r.length) (hB : B ≤ B') (hA : ∀ ad, A = some ad → ad.block < B') : ElemB w B A (.slice A3 n c) r := by
  subst hn
  refine ⟨A3, c, rfl, h.rd, fun ad e => ?_⟩
  subst e
  have hl := h.lt ad.block rfl
  refine ⟨hl.2, Nat.le_trans hB hl.1, ?_, fun j _ => ?_⟩
  · rcases A with _ | ad'
    · simp
    · have := hA ad' rfl
      simp only [Option.map_some, ne_eq, Option.some.injEq]
      omega
  · rcases h.2 with ⟨e, _⟩ | ⟨g, cap, cur, e, _, hg, _⟩
    · cases e
    · injection e with e1 _ _
      injection e1 with e1
      subst e1
      rw [show (⟨g, 0, none⟩ : Addr).add j = ⟨g, j, none⟩ from add_at _ j]
      simp [World.frozen?, hg]

set_option maxRecDepth 4000 in
set_option maxHeartbeats 4000000 in
theorem ref_scan_any (w : World) {B : Nat} {A : Option Addr} {n c : Nat} {bs : List UInt8} (hn : n = bs.length) (hr : RdB w B A bs) (hB : B ≤ w.heap.size) (hnc : n ≤ c) (hs : bs.length ≤ 1099511627776) :
    Calls Try.prog 23 #[.slice A n c] w fun e w' =>
      ∃ (A' : Option Addr) (c' m k : Nat) (R : List (List UInt8)), e = .returned (.tuple #[.slice A' m c', .int .i64 (k : Int)]) ∧ m = R.length ∧ OwnBB w' w.heap.size A' c' R ∧ ToldB bs R k ∧ first (bs.drop k) = none ∧ Below w.heap.size w w' := by
  have hn2 : n ≤ 1099511627776 := by omega
  have HN := Lib.hid hn
  clear hn
  go_enter Try.func23, Try.ntmps23
  go_wp2_with fail
  go_loopw [4, 5] (fun v i wr => ∃ (k m : Nat) (R : List (List UInt8)) (A' : Option Addr) (c' : Nat), i = .int .i64 k ∧ v = .slice A' m c' ∧ m = R.length ∧ OwnBB wr w.heap.size A' c' R ∧ ToldB bs R k ∧ R.length ≤ k ∧ Below w.heap.size w wr) (fun _ i _ => n + 1 - (intOf i).toNat)
  case atStart => exact ⟨0, 0, [], none, 0, rfl, rfl, rfl, ownBB_nil _ _, ToldB.start _, Nat.le_refl _, Below.refl _ _⟩
  case round =>
    obtain ⟨k, m, R, A', c', rfl, rfl, hm, ho, ht, hRk, hb⟩ := hrel
    have hkn : k ≤ n := by rw [HN.out]; exact ht.row.2
    have HM := Lib.hid hm
    clear hm
    by_cases h12 : n < k + 12
    · have hf : first (bs.drop k) = none := first_short (by rw [List.length_drop, ← HN.out]; omega)
      have HF := Lib.hid hf
      clear hf
      go_wp2_with fail
      go_ret2
      exact ⟨A', c', m, k, R, rfl, HM.out, ho, ht, HF.out, hb⟩
    · have h12b : k + 12 ≤ n := by omega
      clear h12
      have hkl : k + 4 ≤ bs.length := by rw [← HN.out]; omega
      obtain ⟨ad, rfl, -⟩ := rd_at hr (show k < bs.length by omega)
      have hrw : RdB wr B (some ad) bs := hr.below (hb.mono hB)
      obtain ⟨ad', e', hc0⟩ := rd_at hrw (show k < bs.length by omega)
      obtain rfl : ad = ad' := by injection e'
      obtain ⟨ad', e', hc1⟩ := rd_at hrw (show k + 1 < bs.length by omega)
      obtain rfl : ad = ad' := by injection e'
      obtain ⟨ad', e', hc2⟩ := rd_at hrw (show k + 2 < bs.length by omega)
      obtain rfl : ad = ad' := by injection e'
      obtain ⟨ad', e', hc3⟩ := rd_at hrw (show k + 3 < bs.length by omega)
      obtain rfl : ad = ad' := by injection e'
      have e1 : ad.add (k + 1) = ⟨ad.block, ad.off + (k + 1), none⟩ := by simp [Addr.add]
      have e2 : ad.add (k + 2) = ⟨ad.block, ad.off + (k + 1 + 1), none⟩ := by simp [Addr.add]
      have e3 : ad.add (k + 3) = ⟨ad.block, ad.off + (k + 2 + 1), none⟩ := by simp [Addr.add]
      rw [e1] at hc1
      rw [e2] at hc2
      rw [e3] at hc3
      have hz := numB_four hkl
      obtain ⟨b0, hb0⟩ : ∃ b : UInt8, b = bs[k] := ⟨_, rfl⟩
      obtain ⟨b1, hb1⟩ : ∃ b : UInt8, b = bs[k + 1] := ⟨_, rfl⟩
      obtain ⟨b2, hb2⟩ : ∃ b : UInt8, b = bs[k + 2] := ⟨_, rfl⟩
      obtain ⟨b3, hb3⟩ : ∃ b : UInt8, b = bs[k + 3] := ⟨_, rfl⟩
      rw [← hb0] at hc0 hz
      rw [← hb1] at hc1 hz
      rw [← hb2] at hc2 hz
      rw [← hb3] at hc3 hz
      have r0 := b0.toNat_lt
      have r1 := b1.toNat_lt
      have r2 := b2.toNat_lt
      have r3 := b3.toNat_lt
      have HZ := Lib.hid hz
      have HKL := Lib.hid hkl
      clear hz hb0 hb1 hb2 hb3 e' e1 e2 e3 hkl
      have q1 : (k : Int) + 1 < n := by omega
      have q2 : (k : Int) + 2 < n := by omega
      have q3 : (k : Int) + 3 < n := by omega
      have q4 : (k : Int) < n := by omega
      have q5 : (0 : Int) ≤ (k : Int) + 1 := by omega
      have q6 : (0 : Int) ≤ (k : Int) + 2 := by omega
      have q7 : (0 : Int) ≤ (k : Int) + 3 := by omega
      go_wp2_with fail
      go_quiet (fail)
      obtain ⟨z, hz⟩ : ∃ z, z = numB ((bs.drop k).take 4) := ⟨_, rfl⟩
      have hz4 := HZ.out
      rw [← hz] at hz4
      have ez : (b0.toNat : Int) + 256 * b1.toNat + 65536 * b2.toNat + 16777216 * b3.toNat = (z : Int) := by omega
      have HE := Lib.hid ez
      have hz2 : z ≤ 4294967295 := by omega
      have h12l : ¬ (bs.drop k).length < 12 := by rw [List.length_drop, ← HN.out]; omega
      have H12 := Lib.hid h12l
      have HZ' := Lib.hid hz
      rw [HE.out]
      clear HZ hz ez hz4 hc0 hc1 hc2 hc3 r0 r1 r2 r3 q1 q2 q3 q5 q6 q7 h12l
      obtain ⟨wd, hwd⟩ : ∃ wd, wd = wr.drewN nq := ⟨_, rfl⟩
      have hbd : Below wr.heap.size wr wd := by rw [hwd]; exact below_drewN (Below.refl _ _) nq
      rw [← hwd]
      clear hwd
      have hod : OwnBB wd w.heap.size A' c' R := ho.below hbd (Nat.le_refl _)
      have hb2 : Below w.heap.size w wd := hb.trans (hbd.mono hb.size)
      have hrd : RdB wd B (some ad) bs := hrw.below (hbd.mono (Nat.le_trans hB hb.size))
      clear hbd ho hb hrw
      by_cases hbig : 16777216 < z
      · have hf : first (bs.drop k) = none := first_large H12.out (.inl (by rw [← HZ'.out]; exact hbig))
        have HF := Lib.hid hf
        clear hf
        go_wp2_with fail
        go_ret2
        first | exact ⟨A', c', m, k, R, rfl, HM.out, hod, ht, HF.out, hb2⟩ | exact ⟨A', c', m, k, rfl, R, HM.out, hod, ht, HF.out, hb2⟩
      · by_cases hlong : n < k + 12 + z
        · have hf : first (bs.drop k) = none := first_large H12.out (.inr (by rw [← HZ'.out, List.length_drop, ← HN.out]; omega))
          have HF := Lib.hid hf
          clear hf
          go_wp2_with fail
          go_ret2
          first | exact ⟨A', c', m, k, R, rfl, HM.out, hod, ht, HF.out, hb2⟩ | exact ⟨A', c', m, k, rfl, R, HM.out, hod, ht, HF.out, hb2⟩
        · have hfit : k + 12 + z ≤ n := by omega
          have hno : ¬ (16777216 < numB ((bs.drop k).take 4) ∨ (bs.drop k).length - 12 < numB ((bs.drop k).take 4)) := by
            rw [← HZ'.out, List.length_drop, ← HN.out]; omega
          have HNO := Lib.hid hno
          clear hlong hno
          obtain ⟨q, hq⟩ : ∃ q, q = k + 12 := ⟨_, rfl⟩
          have hrr := hrd.sub_if q z c (by rw [← HN.out]; omega) (by rw [← HN.out]; exact hnc)
          obtain ⟨A2, hif⟩ : ∃ A2, (if c = q then some ad else some (ad.add q)) = A2 := ⟨_, rfl⟩
          rw [hif] at hrr
          have lz : ((bs.drop q).take z).length = z := take_len (by rw [← HN.out]; omega)
          have LZ := Lib.hid lz
          clear lz
          obtain ⟨A3, c3, w3, hrun, ho3, hu3⟩ := append_bytes (wd.alloc (.cells #[] 5)) wd.heap.size (n := 0) (c := 0) rfl (ownB_made wd wd.heap.size (Nat.le_refl _)) LZ.out.symm (c2 := c - q) (hrr.alloc (Nat.le_trans hB hb2.size) _) (by rw [LZ.out]; simp; omega) (by simp)
          simp only [List.nil_append] at hrun ho3
          rw [LZ.out] at hrun
          have hb3 : Below wd.heap.size wd w3 := ((Below.refl _ _).alloc (Nat.le_refl _) _).trans ((hu3.below (fun ad e => by injection e with e; subst e; exact Nat.le_refl _) (by simp)))
          have t2 : ((k : Int) + 12).toNat = q := by omega
          have t3 : ((k : Int) + 12 + z).toNat = q + z := by omega
          have q2 : (k : Int) + 12 + z ≤ c := by omega
          have q6 : (0 : Int) ≤ (k : Int) + 12 + z := by omega
          have q7 : (0 : Int) ≤ (k : Int) + 12 := by omega
          have q8 : (k : Int) + 12 ≤ (q : Int) + z := by omega
          have HQ := Lib.hid hq
          clear hq
          go_wp2_with (at_builtin; refine wpList_append_run rfl rfl rfl rfl hrun ?_; clear hrun)
          clear t2 t3 q2 q6 q7 q8 hif hrr
          have hr3 : RdB w3 wd.heap.size (some ad) bs := (hrd.below (hb3.mono (Nat.le_trans hB hb2.size))).more (Nat.le_trans hB hb2.size)
          obtain ⟨f, hf⟩ : ∃ f, f = k + 12 + z := ⟨_, rfl⟩
          have lf : ((bs.drop k).take (f - k)).length = f - k := take_len (by rw [← HN.out]; omega)
          have t3 : ((k : Int) + 12 + z).toNat = f := by omega
          have q2 : (k : Int) + 12 + z ≤ c := by omega
          have q3 : ¬ c = k := by omega
          have q6 : (0 : Int) ≤ (k : Int) + 12 + z := by omega
          have q7 : (0 : Int) ≤ (k : Int) + 12 := by omega
          have q8 : (k : Int) ≤ (f : Int) := by omega
          have q9 : k ≤ f := by omega
          have W2 := Lib.hid (IntWalk.i64_in ((k : Int) + 12) (by omega))
          have W3 := Lib.hid (IntWalk.i64_in ((k : Int) + 12 + z) (by omega))
          have hr5 := hr3.sub k (f - k) (by rw [← HN.out]; omega)
          have hz5 : ((bs.drop q).take z).length ≤ 274877906944 := by rw [LZ.out]; omega
          have hfl : (frameOf ((bs.drop q).take z)).length ≤ 1099511627776 := by rw [frameOf_length, LZ.out]; omega
          have hfl2 : ((bs.drop k).take (f - k)).length ≤ 1099511627776 := by rw [lf]; omega
          obtain ⟨tt, htt⟩ : ∃ tt : Bool, tt = decide (frameOf ((bs.drop q).take z) = (bs.drop k).take (f - k)) := ⟨_, rfl⟩
          have hS : ∀ (wx : World) (A4 : Option Addr) (n4 c4 : Nat), Below w3.heap.size w3 wx → n4 = (frameOf ((bs.drop q).take z)).length → OwnB wx w3.heap.size A4 c4 (frameOf ((bs.drop q).take z)) → 
              Calls Try.prog 19 #[.slice A4 n4 c4, .slice (some (ad.add k)) (f - k) (c - k)] wx fun e w' => e = .returned (.bool tt) ∧ ∃ nq, w' = wx.drewN nq :=
            fun wx A4 n4 c4 hbx h4 ho4 => htt ▸ same_any wx h4 lf.symm ho4.rd (hr5.below (hbx.mono hb3.size)) hfl hfl2
          have hF := ref_frame_any w3.drew (c2 := c3) LZ.out.symm (ho3.rd.drewN 1) (Nat.le_refl _) hz5
          have hbq : Below w3.heap.size w3 w3.drew := below_drewN (Below.refl _ _) 1
          have HTT := Lib.hid htt
          have HF := Lib.hid hF
          have HS := Lib.hid hS
          have HFE := Lib.hid hf
          have LF := Lib.hid lf
          clear htt hF hS hf lf hfl hfl2 hz5 hr5
          have w2 := W2.out
          have w3' := W3.out
          go_region_with ((first | (go_at_call 21; refine (HF.out).mono ?_; rintro e wx ⟨A4, c4, n4, rfl, hn4, ho4, hb4⟩) | (go_at_call 19; refine (HS.out _ _ _ _ (hbq.trans hb4) rfl ho4).mono ?_; rintro e wy ⟨rfl, nq, rfl⟩)))
          clear w2 w3' t3 q2 q3 q6 q7 q8 q9
          obtain ⟨w5, hw5⟩ : ∃ w5, w5 = wx.drewN nq := ⟨_, rfl⟩
          have hb5 : Below w3.heap.size w3 w5 := by rw [hw5]; exact (hbq.trans hb4).trans (below_drewN (Below.refl _ _) nq)
          rw [← hw5]
          clear hw5 hb4 ho4 hn4 hbq
          have hod5 : OwnBB w5 w.heap.size A' c' R := (hod.below hb3 (Nat.le_refl _)).below hb5 (Nat.le_refl _)
          have hel5 : ElemB w5 w.heap.size A' (.slice A3 z c3) ((bs.drop q).take z) := elem_own (own_below ho3 hb5 (Nat.le_refl _)) LZ.out.symm hb2.size (ownBB_lt hod)
          have hb6 : Below w.heap.size w w5 := hb2.trans ((hb3.trans (hb5.mono hb3.size)).mono hb2.size)
          have e1 : (bs.drop k).drop 12 = bs.drop q := by rw [List.drop_drop, HQ.out]
          have E1 := Lib.hid e1
          clear e1 hod ho3 hb3 hb5 hb2 hrd hr3 hu3
          by_cases hy : frameOf ((bs.drop q).take z) = (bs.drop k).take (f - k)
          · have hyB : tt = true := by rw [HTT.out]; exact decide_eq_true hy
            clear HTT
            subst hyB
            have hfk : f - k = 12 + z := by rw [HFE.out]; omega
            have hf : first (bs.drop k) = some ((bs.drop q).take z) := by
              unfold first
              rw [if_neg H12.out, if_neg HNO.out, ← HZ'.out, E1.out, if_pos (by rw [hy, hfk])]
            have htold := ht.next hf
            have HT := Lib.hid htold
            obtain ⟨A6, c6, w6, hrun6, ho6, hb7⟩ := append_hdr w5 w.heap.size HM.out hod5 hel5 (by rw [← HN.out] at hs; omega) hb6.size
            have hb8 : Below w.heap.size w w6 := hb6.trans hb7
            obtain ⟨m5, hm5⟩ : ∃ m5, m5 = (R ++ [(bs.drop q).take z]).length := ⟨_, rfl⟩
            rw [← hm5] at hrun6
            have hRk5 : (R ++ [(bs.drop q).take z]).length ≤ k + (12 + ((bs.drop q).take z).length) := by rw [List.length_append]; simp only [List.length_cons, List.length_nil]; omega
            rw [LZ.out] at hRk5
            have HM5 := Lib.hid hm5
            have HR5 := Lib.hid hRk5
            clear hy hf htold hel5 hod5 hb7 hm5 hRk5 hfk hb6
            go_wp2_with (at_builtin; refine wpList_append_run rfl rfl rfl rfl hrun6 ?_; clear hrun6)
            go_roundw
            case rel =>
              have := HT.out
              rw [LZ.out] at this
              exact ⟨k + (12 + z), m5, R ++ [(bs.drop q).take z], A6, c6, by go_num, rfl, HM5.out, ho6, this, HR5.out, hb8⟩
            case measure => simp [intOf] <;> omega
          · have hyB : tt = false := by rw [HTT.out]; exact decide_eq_false hy
            clear HTT
            subst hyB
            have hfk : f - k = 12 + z := by rw [HFE.out]; omega
            have hf : first (bs.drop k) = none := by
              unfold first
              rw [if_neg H12.out, if_neg HNO.out, ← HZ'.out, E1.out, if_neg (by rw [← hfk]; exact hy)]
            have HF' := Lib.hid hf
            clear hy hf hfk
            go_wp2_with fail
            go_ret2
            first | exact ⟨A', c', m, k, R, rfl, HM.out, hod5, ht, HF'.out, hb6⟩ | exact ⟨A', c', m, k, rfl, R, HM.out, hod5, ht, HF'.out, hb6⟩
end Go.Proofs.Ytgnfodfbgkbnbaa.frameWalk
