/- The walk of PlaceLead. -/
import Derived.Test.YtbnpljcjjpokjaaPlace9
namespace Go.Proofs.Ytbnpljcjjpokjaa.placeWalk
open Go.RowKit Go.Proofs.Ytbnpljcjjpokjaa.lib Go.Proofs.Ytbnpljcjjpokjaa.mem Go.Proofs.Ytbnpljcjjpokjaa.viewWalk

theorem lead_parts {L : List (Int × Int)} (h : RightP L) (k : Nat) (hk : k < L.length) : leadM L L[k] = [L[k]] ++ L.take k ++ L.drop (k + 1) := by
  unfold leadM
  rw [idx_right h k hk, if_neg (by omega)]
  rfl
theorem lead_len {L : List (Int × Int)} (h : RightP L) (k : Nat) (hk : k < L.length) : (leadM L L[k]).length = L.length := by
  rw [lead_parts h k hk, List.length_append, List.length_append, List.length_take, List.length_drop]
  simp only [List.length_cons, List.length_nil]
  omega
theorem lead_first {L : List (Int × Int)} (h : RightP L) (k : Nat) (hk : k < L.length) : (leadM L L[k])[0]'(by rw [lead_len h k hk]; omega) = L[k] := by
  simp only [lead_parts h k hk]
  rfl
theorem lead_front {L : List (Int × Int)} (h : RightP L) (k : Nat) (hk : k < L.length) (i : Nat) (hi : i < k) : (leadM L L[k])[i + 1]'(by rw [lead_len h k hk]; omega) = L[i] := by
  simp only [lead_parts h k hk]
  rw [List.getElem_append_left (by simp; omega)]
  simp
theorem lead_back {L : List (Int × Int)} (h : RightP L) (k : Nat) (hk : k < L.length) (i : Nat) (hi : k < i) (hil : i < L.length) : (leadM L L[k])[i]'(by rw [lead_len h k hk]; omega) = L[i] := by
  simp only [lead_parts h k hk]
  rw [List.getElem_append_right (by simp; omega)]
  rw [List.getElem_drop]
  congr 1
  simp
  omega

set_option maxRecDepth 4000 in
set_option maxHeartbeats 4000000 in
theorem walk_PlaceLead (w : World) (a : Int) (ha : 0 ≤ a ∧ a ≤ 255) {B : Nat} {A : Option Addr} {n c : Nat} {L : List (Int × Int)} (hn : n = L.length) (hc : n ≤ c) (hr : RdM w B A L) (hB : B ≤ w.heap.size) :
    Calls Try.prog 9 #[.slice A n c, .int .u8 a] w fun e w' => e = .returned (.bool true) ∧ Below w.heap.size w w' := by
  have HN := Lib.hid hn
  clear hn
  obtain ⟨ha0, ha1⟩ := ha
  go_enter Try.func9, Try.ntmps9
  go_wp2_with fail
  refine (awake17 w).mono ?_
  rintro e w1 ⟨rfl, hbw1⟩
  go_wp2_with fail
  refine (single_any w1 HN.out (hr.below (hbw1.mono hB)) (Nat.le_trans hB hbw1.size)).mono ?_
  rintro e w2 ⟨⟨b, rfl, hb'⟩, hb2⟩
  have hbw2 : Below w.heap.size w w2 := hbw1.trans (hb2.mono hbw1.size)
  clear hbw1 hb2
  cases b
  · clear hb'
    go_wp2_with fail
    refine (awake17 w2).mono ?_
    rintro e w3 ⟨rfl, hb3⟩
    go_wp2_with fail
    go_ret
    exact ⟨rfl, hbw2.trans (hb3.mono hbw2.size)⟩
  have hS := hb'.1 rfl
  clear hb'
  by_cases h0 : n = 0
  · have h0' : (n : Int) = 0 := by omega
    clear hS
    subst h0
    go_wp2_with fail
    refine (awake17 w2).mono ?_
    rintro e w3 ⟨rfl, hb3⟩
    go_wp2_with fail
    go_ret
    exact ⟨rfl, hbw2.trans (hb3.mono hbw2.size)⟩
  have hR : RightP L := by
    rcases hS with h | h
    · exact absurd (HN.out.trans h) h0
    · exact h
  have hn16 : n ≤ 16 := by rw [HN.out]; exact hR.2.1
  obtain ⟨an, han⟩ : ∃ an : Nat, a = an := ⟨a.toNat, by omega⟩
  subst han
  obtain ⟨k, hk⟩ : ∃ k, k = an % n := ⟨_, rfl⟩
  have hkn : k < n := by rw [hk]; exact Nat.mod_lt _ (by omega)
  have hkl : k < L.length := by rw [← HN.out]; exact hkn
  have t1 : (an : Int).tmod n = k := by rw [hk]; rfl
  obtain ⟨ad, eA, -, hc1, hc2⟩ := RdM.at_ (hr.below (hbw2.mono hB)) hkl
  subst eA
  obtain ⟨y1, y2, hy⟩ : ∃ y1 y2, L[k] = (y1, y2) := ⟨_, _, rfl⟩
  rw [hy] at hc1 hc2
  have HR := Lib.hid hR
  have HY := Lib.hid hy
  have q0 : ((n : Int) == 0) = false := by simp only [beq_eq_false_iff_ne, ne_eq]; omega
  have q1 : ¬ (n : Int) = 0 := by omega
  have w1k : IntKind.i64.wrap (k : Int) = k := IntWalk.i64_in _ (by omega)
  have w1a : IntKind.i64.wrap (an : Int) = an := IntWalk.i64_in _ (by omega)
  have hk0 : (0 : Int) ≤ k := by omega
  have hkn' : (k : Int) < n := by omega
  clear hS hR hy hk
  go_wp2_with fail
  refine (lead_any w2 (y1, y2) HN.out (hr.below (hbw2.mono hB)) (Nat.le_trans hB hbw2.size) hc (by have := HN.out; omega)).mono ?_
  rintro e w3 ⟨A3, c3, m3, rfl, hm3, ho3, hb3⟩
  have hbw3 : Below w.heap.size w w3 := hbw2.trans (hb3.mono hbw2.size)
  obtain ⟨M, hM⟩ : ∃ M, M = leadM L (y1, y2) := ⟨_, rfl⟩
  rw [← hM] at hm3 ho3
  rw [← HY.out] at hM
  have hml : M.length = L.length := by rw [hM]; exact lead_len HR.out k hkl
  have hm3n : m3 = n := by rw [hm3, hml, ← HN.out]
  subst hm3n
  have hM0 : M[0]'(Nat.lt_of_le_of_lt (Nat.zero_le _) (hml ▸ hkl)) = L[k] := by simp only [hM]; exact lead_first HR.out k hkl
  have hMf : ∀ i (h : i + 1 < M.length) (hi : i < k), M[i + 1] = L[i]'(Nat.lt_trans hi hkl) := fun i _ hi => by simp only [hM]; exact lead_front HR.out k hkl i hi
  have hMb : ∀ i (h : i < M.length) (hi : k < i) (hil : i < L.length), M[i] = L[i] := fun i _ hi hil => by simp only [hM]; exact lead_back HR.out k hkl i hi hil
  have hrM : RdM w3 w3.heap.size A3 M := ho3.rd
  obtain ⟨ad3, eA, -, hd1, hd2⟩ := RdM.at_ hrM (k := 0) (by omega)
  subst eA
  have e0 : ad3.add 0 = ad3 := by simp [Addr.add]
  rw [Nat.zero_mul, e0, hM0, HY.out] at hd1 hd2
  have hc1' := keepc hc1 hb3
  have hc2' := keepc hc2 hb3
  have HMF := Lib.hid hMf
  have HMB := Lib.hid hMb
  have HML := Lib.hid hml
  have HRM := Lib.hid hrM
  have hm0 : (0 : Int) < m3 := by omega
  clear hM hm3 ho3 hM0 hMf hMb hml hrM hc1 hc2 hb3 e0
  go_wp2_with fail
  go_quiet (fail)
  rename_i nq
  have hbw4 : Below w.heap.size w (w3.drewN nq) := below_drewN hbw3 nq
  have hb34 : Below w3.heap.size w3 (w3.drewN nq) := below_drewN (Below.refl _ _) nq
  generalize w3.drewN nq = w4 at hbw4 hb34 ⊢
  clear hd1 hd2 hc1' hc2' hbw3
  go_wp2_with fail
  go_loopw [7] (fun i wr => ∃ i' : Nat, i' ≤ m3 ∧ i = .int .i64 i' ∧ Below w.heap.size w wr ∧ Below w3.heap.size w3 wr) (fun i _ => m3 - (intOf i).toNat)
  case atStart => exact ⟨0, Nat.zero_le _, rfl, hbw4, hb34⟩
  case round =>
    obtain ⟨i, hi, rfl, hb, hb3⟩ := hrel
    by_cases hlt : i < m3
    · have h1 : i < L.length := by rw [← HN.out]; exact hlt
      obtain ⟨ad1, eA, -, hx1, hx2⟩ := RdM.at_ (hr.below (hb.mono hB)) h1
      injection eA with eA
      subst eA
      obtain ⟨z1, z2, hz⟩ : ∃ y1 y2, L[i] = (y1, y2) := ⟨_, _, rfl⟩
      rw [hz] at hx1 hx2
      have hrM := HRM.out.below hb3
      have wi : IntKind.i64.wrap ((i : Int) + 1) = (i : Int) + 1 := IntWalk.i64_in _ (by omega)
      have wt : ((i : Int) + 1).toNat = i + 1 := by omega
      have wi0 : (0 : Int) ≤ (i : Int) + 1 := by omega
      have wi1 : (0 : Int) ≤ i := by omega
      have wi2 : (i : Int) < m3 := by omega
      rcases Nat.lt_trichotomy i k with hik | hik | hik
      · obtain ⟨ad4, eA, -, hg1, hg2⟩ := RdM.at_ hrM (k := i + 1) (by have := HML.out; omega)
        injection eA with eA
        subst eA
        rw [HMF.out i _ hik, hz] at hg1 hg2
        have p1 : (i : Int) < k := by omega
        have p2 : ¬ (k : Int) < i := by omega
        have p3 : decide ((i : Int) < k) = true := decide_eq_true p1
        have p4 : decide ((k : Int) < i) = false := decide_eq_false p2
        have n2 : ¬ k < i := by omega
        have n4 : decide (k < i) = false := decide_eq_false n2
        have p5 : (i : Int) + 1 < m3 := by omega
        clear hrM hz
        go_wp2_with fail
        go_quiet (fail)
        go_wp2_with fail
        go_roundw
        case rel => exact ⟨i + 1, by omega, by go_num, below_drewN hb _, below_drewN hb3 _⟩
        case measure => simp [intOf] <;> omega
      · have p1 : ¬ (i : Int) < k := by omega
        have p2 : ¬ (k : Int) < i := by omega
        have p3 : decide ((i : Int) < k) = false := decide_eq_false p1
        have n1 : ¬ i < k := by omega
        have n3 : decide (i < k) = false := decide_eq_false n1
        have p4 : decide ((k : Int) < i) = false := decide_eq_false p2
        have n2 : ¬ k < i := by omega
        have n4 : decide (k < i) = false := decide_eq_false n2
        clear hrM hz hik
        go_wp2_with fail
        go_quiet (fail)
        go_wp2_with fail
        go_roundw
        case rel => exact ⟨i + 1, by omega, by go_num, below_drewN hb _, below_drewN hb3 _⟩
        case measure => simp [intOf] <;> omega
      · obtain ⟨ad4, eA, -, hg1, hg2⟩ := RdM.at_ hrM (k := i) (by have := HML.out; omega)
        injection eA with eA
        subst eA
        rw [HMB.out i _ hik h1, hz] at hg1 hg2
        have p1 : ¬ (i : Int) < k := by omega
        have p2 : (k : Int) < i := by omega
        have p3 : decide ((i : Int) < k) = false := decide_eq_false p1
        have n1 : ¬ i < k := by omega
        have n3 : decide (i < k) = false := decide_eq_false n1
        have p4 : decide ((k : Int) < i) = true := decide_eq_true p2
        clear hrM hz
        go_wp2_with fail
        go_quiet (fail)
        go_wp2_with fail
        go_roundw
        case rel => exact ⟨i + 1, by omega, by go_num, below_drewN hb _, below_drewN hb3 _⟩
        case measure => simp [intOf] <;> omega
    · go_wp2_with fail
      go_ret
      exact ⟨rfl, hb⟩
end Go.Proofs.Ytbnpljcjjpokjaa.placeWalk
