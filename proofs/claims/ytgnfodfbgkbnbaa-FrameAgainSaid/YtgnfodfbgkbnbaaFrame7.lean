/- The walk of FrameAgain: the row of what is told is the bytes up to the place told. -/
import Derived.Test.YtgnfodfbgkbnbaaFrame6
import Derived.Deep.RegionWith
namespace Go.Proofs.Ytgnfodfbgkbnbaa.frameWalk
open Go.RowKit Go.Proofs.Ytgnfodfbgkbnbaa.hashPlain Go.Proofs.Ytgnfodfbgkbnbaa.framePlain Go.Proofs.Ytgnfodfbgkbnbaa.lib Go.Proofs.Ytgnfodfbgkbnbaa.byt Go.Proofs.Ytgnfodfbgkbnbaa.hashWalk

theorem told_few {bs : List UInt8} {R : List (List UInt8)} {k : Nat} (h : ToldB bs R k) (hs : bs.length ≤ 5000) : 12 * R.length ≤ 5000 ∧ ∀ r ∈ R, r.length ≤ 5000 := by
  have hr := h.row
  have hl : (rowOf R).length ≤ 5000 := by rw [hr.1, List.length_take]; omega
  clear h hr
  have hR : 12 * R.length ≤ (rowOf R).length := by
    clear hl
    induction R with
    | nil => simp
    | cons a R ih => rw [rowOf_cons, List.length_append, frameOf_length, List.length_cons]; omega
  refine ⟨by omega, fun r hr => ?_⟩
  clear hR
  induction R with
  | nil => simp at hr
  | cons a R ih =>
    rw [rowOf_cons, List.length_append, frameOf_length] at hl
    rcases List.mem_cons.1 hr with rfl | hr
    · omega
    · exact ih (by omega) hr

theorem rowOf_take_le (L : List (List UInt8)) (k : Nat) : (rowOf (L.take k)).length ≤ (rowOf L).length := by
  have e : rowOf L = rowOf (L.take k) ++ rowOf (L.drop k) := by rw [← rowOf_append, List.take_append_drop]
  rw [e, List.length_append]
  omega
theorem rowOf_mem_le {L : List (List UInt8)} {r : List UInt8} (h : r ∈ L) : 12 + r.length ≤ (rowOf L).length := by
  induction L with
  | nil => simp at h
  | cons a L ih =>
    rw [rowOf_cons, List.length_append, frameOf_length]
    rcases List.mem_cons.1 h with rfl | h
    · omega
    · have := ih h; omega
theorem rowOf_count_le (L : List (List UInt8)) : L.length ≤ (rowOf L).length := by
  induction L with
  | nil => simp
  | cons a L ih => rw [rowOf_cons, List.length_append, frameOf_length, List.length_cons]; omega

set_option maxHeartbeats 1000000 in
theorem row_all (w : World) {B : Nat} {A : Option Addr} {n c : Nat} {L : List (List UInt8)} (hn : n = L.length) (hr : RdBB w B A L) (hB : B ≤ w.heap.size) (hl : (rowOf L).length ≤ 68719476736) :
    Calls Try.prog 26 #[.slice A n c] w fun e w' =>
      ∃ A' c' n', e = .returned (.slice A' n' c') ∧ n' = (rowOf L).length ∧ OwnB w' w.heap.size A' c' (rowOf L) ∧ Below w.heap.size w w' := by
  have hn40 : n ≤ 68719476736 := by have := rowOf_count_le L; omega
  have HN := Lib.hid hn
  have HL := Lib.hid hl
  clear hn hl
  go_enter Try.func26, Try.ntmps26
  go_wp2_with fail
  go_loopw [3, 4] (fun v i wr => ∃ (k m : Nat) (A' : Option Addr) (c' : Nat), k ≤ n ∧ i = .int .i64 k ∧ v = .slice A' m c' ∧ m = (rowOf (L.take k)).length ∧ OwnB wr w.heap.size A' c' (rowOf (L.take k)) ∧ Below w.heap.size w wr) (fun _ i _ => n - (intOf i).toNat)
  case atStart => exact ⟨0, 0, none, 0, Nat.zero_le _, rfl, rfl, by simp [rowOf], ownB_nil _ _, Below.refl _ _⟩
  case round =>
    obtain ⟨k, m, A', c', hk, rfl, rfl, hm, ho, hb⟩ := hrel
    have HM := Lib.hid hm
    clear hm
    by_cases hlt : k < n
    · have h1 : k < L.length := by rw [← HN.out]; exact hlt
      obtain ⟨ad, A1, c1, rfl, hc, hr1⟩ := (hr.below (hb.mono hB)).at_ h1
      obtain ⟨m1, hm1⟩ : ∃ m, m = L[k].length := ⟨_, rfl⟩
      rw [← hm1] at hc
      have hk3 : 12 + L[k].length ≤ (rowOf L).length := rowOf_mem_le (List.getElem_mem h1)
      have HM1 := Lib.hid hm1
      have HK3 := Lib.hid hk3
      clear hm1 hk3
      go_wp2_with fail
      refine (ref_frame_any wr HM1.out hr1 (Nat.le_trans hB hb.size) (by have := HL.out; have := HK3.out; omega)).mono ?_
      rintro e w1 ⟨A2, c2, n2, rfl, hn2, ho2, hb2⟩
      have hlen := rowOf_take_le L k
      have hlen2 : (frameOf L[k]).length ≤ (rowOf L).length := by rw [frameOf_length]; exact HK3.out
      have hLL := HL.out
      obtain ⟨A3, c3, w2, hrun, ho3, hu3⟩ := append_bytes w1 w.heap.size HM.out (own_below ho hb2 (Nat.le_refl _)) hn2 (c2 := c2) ho2.rd (by omega) (Nat.le_trans hb.size hb2.size)
      have hb3 := (hb.trans (hb2.mono hb.size)).trans (hu3.below_own (own_below ho hb2 (Nat.le_refl _)) (Nat.le_trans hb.size hb2.size))
      have hT : L.take (k + 1) = L.take k ++ [L[k]] := List.take_succ_eq_append_getElem h1
      rw [← rowOf_snoc, ← hT] at hrun ho3
      obtain ⟨n3, hn3⟩ : ∃ n3, n3 = (rowOf (L.take (k + 1))).length := ⟨_, rfl⟩
      rw [← hn3] at hrun
      have HN3 := Lib.hid hn3
      clear hn3 hn2 hT hlen hlen2 hLL
      go_wp2_with (at_builtin; refine wpList_append_run rfl rfl rfl rfl hrun ?_; clear hrun)
      go_roundw
      case rel => exact ⟨k + 1, n3, A3, c3, by omega, by go_num, rfl, HN3.out, ho3, hb3⟩
      case measure => simp [intOf] <;> omega
    · have e : L.take k = L := List.take_of_length_le (by rw [← HN.out]; omega)
      rw [e] at ho HM
      clear e
      go_wp2_with fail
      go_ret
      exact ⟨A', c', m, rfl, HM.out, ho, hb⟩

end Go.Proofs.Ytgnfodfbgkbnbaa.frameWalk
