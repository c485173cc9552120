/- What Few of acts answers. -/
import Derived.Test.YtjipjfionelpkaaDk18
namespace Go.Proofs.Ytjipjfionelpkaa.dk
open Go.RowKit Go.Proofs.Ytjipjfionelpkaa.lib Go.Proofs.Ytjipjfionelpkaa.byt
set_option linter.unusedVariables false

def FewA (L : List Ac) : Prop := L.length ≤ 40 ∧ ∀ i (h : i < L.length), L[i].2.2.1.length ≤ 200
set_option maxHeartbeats 2000000 in
theorem few_any (w : World) {F : Nat → Prop} {A : Option Addr} {n c : Nat} {L : List Ac} (hn : n = L.length) (hr : RdA w F A L) :
    Calls Try.prog 17 #[.slice A n c] w fun e w' => ∃ t, e = .returned (.bool t) ∧ (t = true → FewA L) ∧ Below w.heap.size w w' := by
  have HN := Lib.hid hn
  clear hn
  by_cases h40 : 40 < n
  · go_enter Try.func17, Try.ntmps17
    go_wp2_with fail
    go_ret
    exact ⟨false, rfl, (fun e => by cases e), Below.refl _ _⟩
  have HR := Lib.hid hr
  have h40i : ¬ (40 : Int) < n := by omega
  have h40d : decide ((40 : Int) < n) = false := decide_eq_false h40i
  clear hr
  go_enter Try.func17, Try.ntmps17
  go_wp2_with fail
  go_loopw [3] (fun vi wr => ∃ k : Nat, k ≤ n ∧ vi = .int .i64 k ∧ Hid (∀ i (h : i < L.length), i < k → L[i].2.2.1.length ≤ 200) ∧ Below w.heap.size w wr) (fun vi _ => n - (intOf vi).toNat)
  case atStart => exact ⟨0, Nat.zero_le _, rfl, Lib.hid (fun i h h0 => absurd h0 (by omega)), Below.refl _ _⟩
  case round =>
    obtain ⟨k, hk, rfl, HA, hb⟩ := hrel
    by_cases hlt : k < n
    · have hkl : k < L.length := by rw [← HN.out]; exact hlt
      obtain ⟨ad, A', c', rfl, hbl, -, c0, c1, c2, c3, c4, hrb, hcap⟩ := (HR.out.below hb (Nat.le_refl _)).at_ hkl
      obtain ⟨m, hm⟩ : ∃ m, m = L[k].2.2.1.length := ⟨_, rfl⟩
      rw [← hm] at c2
      have HM := Lib.hid hm
      have hk0 : (0 : Int) ≤ k := by omega
      have hk1 : (k : Int) < n := by omega
      clear hm hrb hcap c0 c1 c3 c4
      by_cases h2 : 200 < m
      · go_wp2_with fail
        go_ret
        exact ⟨false, rfl, (fun e => by cases e), hb⟩
      · have HA2 := Lib.hid (show ∀ i (h : i < L.length), i < k + 1 → L[i].2.2.1.length ≤ 200 from fun i h hi => by
          by_cases e : i = k
          · subst e; have := HM.out; omega
          · exact HA.out i h (by omega))
        go_wp2_with fail
        go_roundw
        case rel => exact ⟨k + 1, by omega, by go_num, HA2, hb⟩
        case measure => simp [intOf] <;> omega
    · go_wp2_with fail
      go_ret
      exact ⟨true, rfl, fun _ => ⟨by have := HN.out; omega, fun i h => HA.out i h (by have := HN.out; omega)⟩, hb⟩
end Go.Proofs.Ytjipjfionelpkaa.dk
