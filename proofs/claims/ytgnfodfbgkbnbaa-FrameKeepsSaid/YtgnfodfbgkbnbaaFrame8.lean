/- The walk of FrameTorn. -/
import Derived.Test.YtgnfodfbgkbnbaaFrame7
namespace Go.Proofs.Ytgnfodfbgkbnbaa.frameWalk
open Go.RowKit Go.Proofs.Ytgnfodfbgkbnbaa.hashPlain Go.Proofs.Ytgnfodfbgkbnbaa.framePlain Go.Proofs.Ytgnfodfbgkbnbaa.lib Go.Proofs.Ytgnfodfbgkbnbaa.byt Go.Proofs.Ytgnfodfbgkbnbaa.hashWalk

theorem rdBB_take {w : World} {B : Nat} {A : Option Addr} {L : List (List UInt8)} (h : RdBB w B A L) {m : Nat} (hm : m ≤ L.length) : RdBB w B A (L.take m) := by
  obtain ⟨hs, h1, h2⟩ := h
  have hl : (L.take m).length = m := by rw [List.length_take]; omega
  have hlen : hs.length = L.length := by have := h1.1; omega
  refine ⟨hs.take m, ⟨by rw [List.length_take, hl]; omega, fun h0 => ?_⟩, fun i hi => ?_⟩
  · rw [hl] at h0
    obtain ⟨ad, e, hb, hc⟩ := h1.2 (by omega)
    refine ⟨ad, e, hb, fun j u hu => hc j u ?_⟩
    have hj : j < m := by
      have := (List.getElem?_eq_some_iff.1 hu).1
      rw [List.length_take] at this
      omega
    rwa [List.getElem?_take_of_lt hj] at hu
  · rw [hl] at hi
    obtain ⟨v, e, hv⟩ := h2 i (by omega)
    refine ⟨v, by rw [List.getElem?_take_of_lt hi]; exact e, ?_⟩
    rw [List.getElem_take]
    exact hv
theorem few_of {L : List (List UInt8)} (h : fewB L = true) : L.length ≤ 40 ∧ (∀ r ∈ L, r.length ≤ 3000) ∧ (rowOf L).length ≤ 40 * 3012 := by
  have h' := of_decide_eq_true h
  refine ⟨h'.1, h'.2.1, Nat.le_trans (rowOf_length_le L 3000 h'.2.1) (Nat.mul_le_mul_right _ h'.1)⟩
theorem short_few {L : List (List UInt8)} (h : L.length ≤ 40) (h2 : ∀ r ∈ L, r.length ≤ 3000) : Short L := ⟨by omega, fun r hr => by have := h2 r hr; omega⟩

set_option maxRecDepth 4000 in
set_option maxHeartbeats 2000000 in
theorem walk_FrameTorn (w : World) {B : Nat} {A : Option Addr} {n c : Nat} {L : List (List UInt8)} (cut : Int) (hn : n = L.length) (hr : RdBB w B A L) (hB : B ≤ w.heap.size) (hnc : n ≤ c) (hcut : 0 ≤ cut ∧ cut ≤ 65535) :
    Calls Try.prog 9 #[.slice A n c, .int .u16 cut] w fun e w' => e = .returned (.bool true) ∧ Below w.heap.size w w' := by
  have HN := Lib.hid hn
  clear hn
  go_enter Try.func9, Try.ntmps9
  go_wp2_with fail
  refine (awake4 w).mono ?_
  rintro e w1 ⟨rfl, hb1⟩
  go_wp2_with fail
  have hr1 : RdBB w1 B A L := hr.below (hb1.mono hB)
  refine (few_any w1 HN.out hr1).mono ?_
  rintro e w' ⟨rfl, rfl⟩
  obtain ⟨t, ht⟩ : ∃ t, t = fewB L := ⟨_, rfl⟩
  rw [← ht]
  cases t
  · clear ht
    go_wp2_with fail
    refine (awake4 w1).mono ?_
    rintro e w2 ⟨rfl, hb2⟩
    go_wp2_with fail
    go_ret
    exact ⟨rfl, hb1.trans (hb2.mono hb1.size)⟩
  obtain ⟨f1, f2, f3⟩ := few_of ht.symm
  have hn40 : n ≤ 40 := by rw [HN.out]; exact f1
  have F2 := Lib.hid f2
  have F3 := Lib.hid f3
  clear ht f1 f2 f3
  go_wp2_with fail
  go_loopw [5, 6] (fun v i wr => ∃ (k m : Nat) (A' : Option Addr) (c' : Nat), k ≤ n ∧ i = .int .i64 k ∧ v = .slice A' m c' ∧ m = (rowOf (L.take k)).length ∧ OwnB wr w.heap.size A' c' (rowOf (L.take k)) ∧ Below w.heap.size w wr) (fun _ i _ => n - (intOf i).toNat)
  case atStart => exact ⟨0, 0, none, 0, Nat.zero_le _, rfl, rfl, by simp [rowOf], ownB_nil _ _, hb1⟩
  case round =>
    obtain ⟨k, m, A', c', hk, rfl, rfl, hm, ho, hb⟩ := hrel
    have HM := Lib.hid hm
    clear hm
    by_cases hlt : k < n
    · have h1 : k < L.length := by rw [← HN.out]; exact hlt
      obtain ⟨ad, A1, c1, rfl, hc, hr2⟩ := (hr.below (hb.mono hB)).at_ h1
      obtain ⟨m1, hm1⟩ : ∃ m, m = L[k].length := ⟨_, rfl⟩
      rw [← hm1] at hc
      have hk3 : L[k].length ≤ 3000 := F2.out _ (List.getElem_mem h1)
      have HM1 := Lib.hid hm1
      clear hm1
      go_wp2_with fail
      have hlen : (rowOf (L.take k)).length ≤ 40 * 3012 := Nat.le_trans (rowOf_take_le L k) F3.out
      refine (put_any wr w.heap.size HM.out ho hb.size HM1.out hr2 (Nat.le_trans hB hb.size) (by omega) (by omega)).mono ?_
      rintro e w2 ⟨A2, c2, n2, rfl, hn2, ho2, hu2⟩
      have hb2 : Below w.heap.size w w2 := hb.trans (hu2.below_own ho hb.size)
      have hT : L.take (k + 1) = L.take k ++ [L[k]] := List.take_succ_eq_append_getElem h1
      rw [← rowOf_snoc, ← hT] at hn2 ho2
      have HN2 := Lib.hid hn2
      clear hn2 hT hlen hu2
      go_wp2_with fail
      go_roundw
      case rel => exact ⟨k + 1, n2, A2, c2, by omega, by go_num, rfl, HN2.out, ho2, hb2⟩
      case measure => simp [intOf] <;> omega
    · have e : L.take k = L := List.take_of_length_le (by rw [← HN.out]; omega)
      rw [e] at ho HM
      clear e
      have hmb : m ≤ 40 * 3012 := by rw [HM.out]; exact F3.out
      obtain ⟨q, hq⟩ : ∃ q : Nat, (q : Int) = cut % ((m : Int) + 1) := ⟨(cut % ((m : Int) + 1)).toNat, by have := Int.emod_nonneg cut (show (m : Int) + 1 ≠ 0 by omega); omega⟩
      have hqm : q ≤ m := by have := Int.emod_lt_of_pos cut (show (0 : Int) < (m : Int) + 1 by omega); omega
      have hcap := own_cap ho
      rw [← HM.out] at hcap
      have hqt : cut.tmod ((m : Int) + 1) = q := by rw [Int.tmod_eq_emod_of_nonneg hcut.1, hq]
      clear hq
      go_wp2_with fail
      have lq : ((rowOf L).take q).length = q := by rw [List.length_take, ← HM.out]; omega
      refine (scan_any wr lq.symm (rd_take ho.rd (by rw [← HM.out]; exact hqm)) (Nat.le_refl _) (by omega) (by omega)).mono ?_
      rintro e w3 ⟨A3, c3, m3, k3, R3, rfl, hm3, ho3, ht3, hf3, hb3⟩
      have hb3' : Below w.heap.size w w3 := hb.trans (hb3.mono hb.size)
      have hrl : RdBB w3 B A L := hr.below (hb3'.mono hB)
      have hro3 : RdBB w3 w3.heap.size A3 R3 := ho3.rd
      have HM3 := Lib.hid hm3
      have HT3 := Lib.hid ht3
      have HF3 := Lib.hid hf3
      clear hm3 ht3 hf3 hqt hcap lq ho3 ho
      go_wp2_with fail
      go_loop [10, 11, 12] (fun e cc i => ∃ j E : Nat, j ≤ n ∧ e = .int .i64 E ∧ cc = .int .i64 j ∧ i = .int .i64 j ∧ E = (rowOf (L.take j)).length ∧ E ≤ q) (fun _ _ i => n - (intOf i).toNat)
      case atStart => exact ⟨0, 0, Nat.zero_le _, rfl, rfl, rfl, by simp [rowOf], Nat.zero_le _⟩
      case round =>
        obtain ⟨j, E, hj, rfl, rfl, rfl, hE, hEq⟩ := hrel
        have HE := Lib.hid hE
        clear hE
        have hfin : ∀ (h2 : ∀ hlt : j < L.length, q < E + (12 + L[j].length)), R3 = L.take j ∧ k3 = E := fun h2 => by
          have h3 := scan_torn (fun r hr => by have := F2.out r hr; omega) (by rw [← HE.out]; exact hEq) (fun hlt => by rw [← HE.out]; exact h2 hlt) HT3.out HF3.out
          rw [← HE.out] at h3
          exact h3
        have HFIN := Lib.hid hfin
        clear hfin
        have hjl : j ≤ L.length := by rw [← HN.out]; exact hj
        have ltj : (L.take j).length = j := by rw [List.length_take]; omega
        have hS : R3 = L.take j → ∀ wx : World, wx = w3 → Calls Try.prog 24 #[.slice A3 m3 c3, .slice A j c] wx fun e w' => e = .returned (.bool true) ∧ ∃ nq, w' = wx.drewN nq := fun he wx hx => by
          subst hx
          have hT := rdBB_take hrl hjl
          have hsh : Short (L.take j) := short_few (by rw [ltj]; omega) fun r hr => F2.out r (List.mem_of_mem_take hr)
          have := sameAll_any wx (c1 := c3) (c2 := c) HM3.out ltj.symm hro3 hT (by rw [he]; exact hsh) hsh
          rwa [show decide (R3 = L.take j) = true from decide_eq_true he] at this
        have HS := Lib.hid hS
        clear hS ltj hjl
        by_cases hlt : j < n
        · have h1 : j < L.length := by rw [← HN.out]; exact hlt
          obtain ⟨ad, A1, c1, rfl, hc, -⟩ := hrl.at_ h1
          obtain ⟨m1, hm1⟩ : ∃ m, m = L[j].length := ⟨_, rfl⟩
          rw [← hm1] at hc
          have hk3 : m1 ≤ 3000 := by rw [hm1]; exact F2.out _ (List.getElem_mem h1)
          have HM1 := Lib.hid hm1
          clear hm1
          by_cases hfit : E + (12 + m1) ≤ q
          · have hE2 : E + (12 + m1) = (rowOf (L.take (j + 1))).length := by
              rw [List.take_succ_eq_append_getElem h1, rowOf_snoc, List.length_append, frameOf_length, ← HE.out, ← HM1.out]
            have HE2 := Lib.hid hE2
            clear hE2
            go_wp2_with fail
            go_round
            case rel => exact ⟨j + 1, E + (12 + m1), by omega, by go_num, by go_num, by go_num, HE2.out, hfit⟩
            case measure => simp [intOf] <;> omega
          · obtain ⟨he, rfl⟩ := HFIN.out fun _ => by rw [← HM1.out]; omega
            have hS1 := HS.out he
            go_wp2_with fail
            refine (hS1 _ rfl).mono ?_
            rintro e w4 ⟨rfl, nq, rfl⟩
            go_wp2_with fail
            go_ret
            exact ⟨rfl, below_drewN hb3' nq⟩
        · obtain ⟨he, rfl⟩ := HFIN.out fun h => absurd (by rw [HN.out]; exact h) hlt
          have hS1 := HS.out he
          go_wp2_with fail
          refine (hS1 _ rfl).mono ?_
          rintro e w4 ⟨rfl, nq, rfl⟩
          go_wp2_with fail
          go_ret
          exact ⟨rfl, below_drewN hb3' nq⟩
end Go.Proofs.Ytgnfodfbgkbnbaa.frameWalk
