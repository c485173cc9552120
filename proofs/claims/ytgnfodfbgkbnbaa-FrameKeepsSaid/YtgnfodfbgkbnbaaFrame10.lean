/- The walk of FrameKeeps. -/
import Derived.Test.YtgnfodfbgkbnbaaFrame8
namespace Go.Proofs.Ytgnfodfbgkbnbaa.frameWalk
open Go.RowKit Go.Proofs.Ytgnfodfbgkbnbaa.hashPlain Go.Proofs.Ytgnfodfbgkbnbaa.framePlain Go.Proofs.Ytgnfodfbgkbnbaa.lib Go.Proofs.Ytgnfodfbgkbnbaa.byt Go.Proofs.Ytgnfodfbgkbnbaa.hashWalk

/-- What is needed to write into each element: headers that stay, cells that may be written. -/
def Scrib (w : World) (Bk : Nat) (A : Option Addr) (R : List (List UInt8)) : Prop :=
  ∀ i (h : i < R.length), ∃ (ad : Addr) (Ai : Option Addr) (ci : Nat), A = some ad ∧ w.cell? (ad.add i) = some (.slice Ai R[i].length ci) ∧
    (0 < R[i].length → ∃ adi, Ai = some adi ∧ Bk ≤ adi.block ∧ adi.block ≠ ad.block ∧ ∀ j, j < R[i].length → (∃ u, w.cell? (adi.add j) = some u) ∧ w.frozen? (adi.add j) = false)
theorem Scrib.of_own {w : World} {B : Nat} {A : Option Addr} {c : Nat} {R : List (List UInt8)} (h : OwnBB w B A c R) : Scrib w B A R := fun i hi => by
  obtain ⟨hs, h1, h2⟩ := h
  obtain ⟨v, e, Ai, ci, rfl, hr, ha⟩ := h2 i hi
  obtain ⟨ad, eA, _, hc⟩ := (Reads.of_own h1).2 (by omega)
  refine ⟨ad, Ai, ci, eA, hc i _ e, fun h0 => ?_⟩
  obtain ⟨adi, eAi, _, hci⟩ := hr.2 h0
  obtain ⟨_, g2, g3, g4⟩ := ha adi eAi
  refine ⟨adi, eAi, g2, fun e => g3 (by rw [eA, Option.map_some, e]), fun j hj => ⟨?_, g4 j hj⟩⟩
  exact ⟨_, hci j _ (bytesV_get _ j hj)⟩
theorem Scrib.store {w : World} {Bk : Nat} {A : Option Addr} {R : List (List UInt8)} (h : Scrib w Bk A R) {p : Addr} (hp : ∀ ad, A = some ad → p.block ≠ ad.block) (u : Value) : Scrib (w.setCell p u) Bk A R := fun i hi => by
  obtain ⟨ad, Ai, ci, eA, hc, hel⟩ := h i hi
  refine ⟨ad, Ai, ci, eA, ?_, fun h0 => ?_⟩
  · rw [World.cell?_setCell_other w p _ u (fun e => hp ad eA (by rw [← block_of_add ad i]; exact congrArg (·.block) e))]
    exact hc
  · obtain ⟨adi, e1, e2, e3, e4⟩ := hel h0
    refine ⟨adi, e1, e2, e3, fun j hj => ?_⟩
    obtain ⟨⟨v, hv⟩, hf⟩ := e4 j hj
    refine ⟨?_, by simpa using hf⟩
    by_cases e : adi.add j = p
    · subst e
      exact ⟨u, World.cell?_setCell_same w _ _ hv⟩
    · exact ⟨v, by rw [World.cell?_setCell_other w p _ u (fun h => e h.symm)]; exact hv⟩

set_option maxRecDepth 4000 in
set_option maxHeartbeats 2000000 in
theorem walk_FrameKeeps (w : World) {B : Nat} {A : Option Addr} {n c : Nat} {L : List (List UInt8)} (hn : n = L.length) (hr : RdBB w B A L) (hB : B ≤ w.heap.size) :
    Calls Try.prog 12 #[.slice A n c] w fun e w' => e = .returned (.bool true) ∧ Below w.heap.size w w' := by
  have HN := Lib.hid hn
  clear hn
  go_enter Try.func12, Try.ntmps12
  go_wp2_with fail
  refine (awake4 w).mono ?_
  rintro e w1 ⟨rfl, hb1⟩
  go_wp2_with fail
  have hr1 : RdBB w1 B A L := hr.below (hb1.mono hB)
  refine (few_any w1 HN.out hr1).mono ?_
  rintro e w' ⟨rfl, rfl⟩
  obtain ⟨t, ht⟩ : ∃ t, t = fewB L := ⟨_, rfl⟩
  rw [← ht]
  cases t
  · clear ht
    go_wp2_with fail
    refine (awake4 w1).mono ?_
    rintro e w2 ⟨rfl, hb2⟩
    go_wp2_with fail
    go_ret
    exact ⟨rfl, hb1.trans (hb2.mono hb1.size)⟩
  obtain ⟨f1, f2, f3⟩ := few_of ht.symm
  have hn40 : n ≤ 40 := by rw [HN.out]; exact f1
  have F2 := Lib.hid f2
  have F3 := Lib.hid f3
  clear ht f1 f2 f3
  go_wp2_with fail
  refine (row_all w1 HN.out hr1 (Nat.le_trans hB hb1.size) (Nat.le_trans F3.out (by decide))).mono ?_
  rintro e w2 ⟨A2, c2, n2, rfl, hn2, ho2, hb2⟩
  have hb2' : Below w.heap.size w w2 := hb1.trans (hb2.mono hb1.size)
  have hn2b : n2 ≤ 40 * 3012 := by rw [hn2]; exact F3.out
  have HN2 := Lib.hid hn2
  clear hn2
  obtain ⟨A3, c3, w3, hrun, ho3, hu3⟩ := append_bytes (w2.alloc (.cells #[] 5)) w2.heap.size (n := 0) (c := 0) rfl (ownB_made w2 w2.heap.size (Nat.le_refl _)) HN2.out (c2 := c2) (ho2.rd.alloc (Nat.le_refl _) _) (by rw [← HN2.out]; simp; omega) (by simp)
  simp only [List.nil_append] at hrun ho3
  rw [← HN2.out] at hrun
  have hb3 : Below w2.heap.size w2 w3 := ((Below.refl _ _).alloc (Nat.le_refl _) _).trans ((hu3.below (fun ad e => by injection e with e; subst e; exact Nat.le_refl _) (by simp)))
  have hb3' : Below w.heap.size w w3 := hb2'.trans (hb3.mono hb2'.size)
  have hrb : RdB w3 w3.heap.size A2 (rowOf L) := (ho2.rd.below hb3).more hb3.size
  have hrw : RdB w3 w3.heap.size A3 (rowOf L) := ho3.rd
  have hcap := own_cap ho2
  rw [← HN2.out] at hcap
  clear hu3 ho2 ho3
  go_wp2_with (at_builtin; refine wpList_append_run rfl rfl rfl rfl hrun ?_; clear hrun)
  refine (scan_any w3 HN2.out hrb (Nat.le_refl _) hcap (by rw [← HN2.out]; omega)).mono ?_
  rintro e w4 ⟨A4, c4, m4, k4, R4, rfl, hm4, ho4, ht4, hf4, hb4⟩
  obtain ⟨rfl, -⟩ := scan_row (fun r hr => by have := F2.out r hr; omega) ht4 hf4
  have hsc := Scrib.of_own ho4
  have hm40 : m4 ≤ 40 := by rw [hm4, ← HN.out]; exact hn40
  have HM4 := Lib.hid hm4
  clear hm4 ht4 hf4 ho4 hcap
  go_wp2_with fail
  go_loopw [7] (fun i wr => ∃ k : Nat, k ≤ m4 ∧ i = .int .i64 k ∧ Scrib wr w3.heap.size A4 R4 ∧ Below w3.heap.size w3 wr) (fun i _ => m4 - (intOf i).toNat)
  case atStart => exact ⟨0, Nat.zero_le _, rfl, hsc, hb4⟩
  case round =>
    obtain ⟨k, hk, rfl, hs, hb⟩ := hrel
    by_cases hlt : k < m4
    · have h1 : k < R4.length := by rw [← HM4.out]; exact hlt
      obtain ⟨m1, hm1⟩ : ∃ m1, m1 = R4[k].length := ⟨_, rfl⟩
      have hm3 : m1 ≤ 3000 := by rw [hm1]; exact F2.out _ (List.getElem_mem h1)
      have HM1 := Lib.hid hm1
      clear hm1
      go_wp2_with fail
      go_loopw [8] (fun i wr2 => ∃ j : Nat, j ≤ m1 ∧ i = .int .i64 j ∧ Scrib wr2 w3.heap.size A4 R4 ∧ Below w3.heap.size w3 wr2) (fun i _ => m1 - (intOf i).toNat)
      case atStart => exact ⟨0, Nat.zero_le _, rfl, hs, hb⟩
      case round =>
        obtain ⟨j, hj, rfl, hs2, hbb⟩ := hrel
        obtain ⟨ad, Ai, ci, rfl, hc, hel⟩ := hs2 k h1
        rw [← HM1.out] at hc hel
        by_cases hjl : j < m1
        · obtain ⟨adi, rfl, e2, e3, e4⟩ := hel (by omega)
          obtain ⟨⟨u, hu⟩, hf⟩ := e4 j hjl
          have hs3 : Scrib (wr.setCell (adi.add j) (.int .u8 99)) w3.heap.size (some ad) R4 := hs2.store (fun ad' e => by injection e with e; subst e; rw [block_of_add]; exact e3) _
          have hbb3 : Below w3.heap.size w3 (wr.setCell (adi.add j) (.int .u8 99)) := hbb.setCell (by rw [block_of_add]; exact e2) _
          clear e4 hel e3 e2
          go_wp2_with fail
          go_roundw
          case rel => exact ⟨j + 1, by omega, by go_num, hs3, hbb3⟩
          case measure => simp [intOf] <;> omega
        · clear hel
          go_wp2_with fail
          go_roundw
          case rel => exact ⟨k + 1, by omega, by go_num, hs2, hbb⟩
          case measure => simp [intOf] <;> omega
    · go_wp2_with fail
      have hS := same_any wr (c1 := c2) (c2 := c3) HN2.out HN2.out (hrb.below hb) (hrw.below hb) (by rw [← HN2.out]; omega) (by rw [← HN2.out]; omega)
      rw [show decide (rowOf R4 = rowOf R4) = true from decide_eq_true rfl] at hS
      refine hS.mono ?_
      rintro e w5 ⟨rfl, nq, rfl⟩
      go_wp2_with fail
      go_ret
      exact ⟨rfl, below_drewN (hb3'.trans (hb.mono hb3'.size)) nq⟩
end Go.Proofs.Ytgnfodfbgkbnbaa.frameWalk
