/- Lists of a log's acts: a row of four cells for each, and bytes behind each, in blocks of F; lists of records in blocks of F; what Few of acts answers. -/
import Derived.Test.YtjipjfionelpkaaWl5
namespace Go.Proofs.Ytjipjfionelpkaa.wl
open Go.RowKit Go.Proofs.Ytjipjfionelpkaa.lib Go.Proofs.Ytjipjfionelpkaa.byt Go.Proofs.Ytjipjfionelpkaa.dk
set_option linter.unusedVariables false

/-- Kind, bytes, keep, torn. -/
abbrev Ac8 := Int × List UInt8 × Int × Int
abbrev Ah8 := Int × Value × Int × Int
def acV : List Ah8 → List Value
  | [] => []
  | h :: l => .int .u8 h.1 :: h.2.1 :: .int .i64 h.2.2.1 :: .int .i64 h.2.2.2 :: acV l
theorem acV_length (H : List Ah8) : (acV H).length = H.length * 4 := by
  induction H with
  | nil => rfl
  | cons h H ih => simp only [acV, List.length_cons, ih]; omega
theorem acV_get (H : List Ah8) (k : Nat) (h : k < H.length) : (acV H)[4 * k]? = some (.int .u8 H[k].1) ∧ (acV H)[4 * k + 1]? = some H[k].2.1 ∧ (acV H)[4 * k + 2]? = some (.int .i64 H[k].2.2.1) ∧ (acV H)[4 * k + 3]? = some (.int .i64 H[k].2.2.2) := by
  induction H generalizing k with
  | nil => simp at h
  | cons m H ih =>
    rcases k with _ | k
    · exact ⟨rfl, rfl, rfl, rfl⟩
    · have := ih k (by simpa using h)
      rw [show 4 * (k + 1) = 4 * k + 1 + 1 + 1 + 1 by omega]
      simpa [acV] using this
/-- The header v leads to the bytes r, in a block of F. -/
def HdF (w : World) (F : Nat → Prop) (v : Value) (r : List UInt8) : Prop := ∃ (A : Option Addr) (c : Nat), v = .slice A r.length c ∧ RdF w F A r
def HoldA (w : World) (F : Nat → Prop) (H : List Ah8) (L : List Ac8) : Prop :=
  H.length = L.length ∧ ∀ i (h : i < H.length) (h' : i < L.length), H[i].1 = L[i].1 ∧ HdF w F H[i].2.1 L[i].2.1 ∧ H[i].2.2.1 = L[i].2.2.1 ∧ H[i].2.2.2 = L[i].2.2.2
def RdA (w : World) (F : Nat → Prop) (A : Option Addr) (L : List Ac8) : Prop := ∃ H, ReadsF w F 4 A L.length (acV H) ∧ HoldA w F H L
/-- A list of records, in blocks of F. -/
def RdL (w : World) (F : Nat → Prop) (A : Option Addr) (L : List (List UInt8)) : Prop := ∃ hs : List Value, ReadsF w F 1 A L.length hs ∧ ∀ i (h : i < L.length), ∃ v, hs[i]? = some v ∧ HdF w F v L[i]
section
variable {w w' : World} {F F' : Nat → Prop} {A : Option Addr} {L : List Ac8} {R : List (List UInt8)} {H : List Ah8} {v : Value} {r : List UInt8}
theorem HdF.bel (h : HdF w F v r) (hb : BelF F w w') : HdF w' F v r := let ⟨A, c, e, h1⟩ := h; ⟨A, c, e, h1.bel hb⟩
theorem HdF.mono (h : HdF w F v r) (hF : ∀ b, F b → F' b) : HdF w F' v r := let ⟨A, c, e, h1⟩ := h; ⟨A, c, e, h1.mono hF⟩
theorem HdF.one (h : HdF w F v r) : v.oneCell' = true := by obtain ⟨A, c, e, _⟩ := h; rw [e]; rfl
theorem RdA.bel (h : RdA w F A L) (hb : BelF F w w') : RdA w' F A L := let ⟨H, h1, h2, h3⟩ := h; ⟨H, h1.bel hb, h2, fun i a b => let ⟨x, y, z⟩ := h3 i a b; ⟨x, y.bel hb, z⟩⟩
theorem RdA.mono (h : RdA w F A L) (hF : ∀ b, F b → F' b) : RdA w F' A L := let ⟨H, h1, h2, h3⟩ := h; ⟨H, h1.mono hF, h2, fun i a b => let ⟨x, y, z⟩ := h3 i a b; ⟨x, y.mono hF, z⟩⟩
theorem RdA.below (h : RdA w F A L) {k : Nat} (hb : Below k w w') (hk : w.heap.size ≤ k) : RdA w' F A L := h.bel (BelF.of hb hk)
theorem RdL.bel (h : RdL w F A R) (hb : BelF F w w') : RdL w' F A R := let ⟨H, h1, h2⟩ := h; ⟨H, h1.bel hb, fun i hi => let ⟨v, e, hv⟩ := h2 i hi; ⟨v, e, hv.bel hb⟩⟩
theorem RdL.mono (h : RdL w F A R) (hF : ∀ b, F b → F' b) : RdL w F' A R := let ⟨H, h1, h2⟩ := h; ⟨H, h1.mono hF, fun i hi => let ⟨v, e, hv⟩ := h2 i hi; ⟨v, e, hv.mono hF⟩⟩
theorem RdL.below (h : RdL w F A R) {k : Nat} (hb : Below k w w') (hk : w.heap.size ≤ k) : RdL w' F A R := h.bel (BelF.of hb hk)
theorem RdL.nil : RdL w F none [] := ⟨[], ReadsF.nil, fun i h => absurd h (by simp)⟩
theorem RdL.rd (h : RdL w F A R) : RdBB w w.heap.size A R := let ⟨hs, h1, h2⟩ := h; ⟨hs, h1.rd, fun i hi => let ⟨v, e, A', c, e2, hv⟩ := h2 i hi; ⟨v, e, A', c, e2, hv.rd⟩⟩
theorem RdA.at_ (h : RdA w F A L) {k : Nat} (hk : k < L.length) :
    ∃ ad A' c', A = some ad ∧ ad.block < w.heap.size ∧ F ad.block ∧ w.cell? (ad.add (k * 4)) = some (.int .u8 L[k].1) ∧ w.cell? ⟨(ad.add (k * 4)).block, (ad.add (k * 4)).off + 1, none⟩ = some (.slice A' L[k].2.1.length c') ∧
      w.cell? ⟨(ad.add (k * 4)).block, (ad.add (k * 4)).off + 2, none⟩ = some (.int .i64 L[k].2.2.1) ∧ w.cell? ⟨(ad.add (k * 4)).block, (ad.add (k * 4)).off + 3, none⟩ = some (.int .i64 L[k].2.2.2) ∧ RdF w F A' L[k].2.1 := by
  obtain ⟨H, h1, h2, h3⟩ := h
  obtain ⟨ad, e, hb, hc⟩ := h1.1.2 (by omega)
  obtain ⟨ad', e', hF⟩ := h1.2 (by omega)
  rw [e] at e'
  injection e' with e'
  subst e'
  have hkH : k < H.length := by omega
  obtain ⟨e1, ⟨A', c', e3, hr⟩, e4, e5⟩ := h3 k hkH hk
  obtain ⟨g1, g2, g3, g4⟩ := acV_get H k hkH
  have ea : ∀ j, 0 < j → (⟨(ad.add (k * 4)).block, (ad.add (k * 4)).off + j, none⟩ : Addr) = ad.add (4 * k + j) := fun j hj => by
    rw [show 4 * k + j = k * 4 + j by omega, ← add_of_add]
    generalize ad.add (k * 4) = q
    unfold Addr.add
    rw [if_neg (by omega)]
  refine ⟨ad, A', c', e, hb, hF, ?_, ?_, ?_, ?_, hr⟩
  · rw [Nat.mul_comm, ← e1]; exact hc _ _ g1
  · rw [ea 1 (by omega), ← e3]; exact hc _ _ g2
  · rw [ea 2 (by omega), ← e4]; exact hc _ _ g3
  · rw [ea 3 (by omega), ← e5]; exact hc _ _ g4
end
def FewA (L : List Ac8) : Prop := L.length ≤ 25 ∧ ∀ i (h : i < L.length), L[i].2.1.length ≤ 200
set_option maxHeartbeats 1000000 in
theorem few8_any (w : World) {F : Nat → Prop} {A : Option Addr} {n c : Nat} {L : List Ac8} (hn : n = L.length) (hr : RdA w F A L) :
    Calls Try.prog 29 #[.slice A n c] w fun e w' => ∃ t, e = .returned (.bool t) ∧ (t = true → FewA L) ∧ Below w.heap.size w w' := by
  have HN := Lib.hid hn
  clear hn
  by_cases h25 : 25 < n
  · go_enter Try.func29, Try.ntmps29
    go_wp2_with fail
    go_ret
    exact ⟨false, rfl, (fun e => by cases e), Below.refl _ _⟩
  have HR := Lib.hid hr
  have h25i : ¬ (25 : Int) < n := by omega
  have h25d : decide ((25 : Int) < n) = false := decide_eq_false h25i
  clear hr
  go_enter Try.func29, Try.ntmps29
  go_wp2_with fail
  go_loopw [3] (fun vi wr => ∃ k : Nat, k ≤ n ∧ vi = .int .i64 k ∧ Hid (∀ i (h : i < L.length), i < k → L[i].2.1.length ≤ 200) ∧ Below w.heap.size w wr) (fun vi _ => n - (intOf vi).toNat)
  case atStart => exact ⟨0, Nat.zero_le _, rfl, Lib.hid (fun i h h0 => absurd h0 (by omega)), Below.refl _ _⟩
  case round =>
    obtain ⟨k, hk, rfl, HA, hb⟩ := hrel
    by_cases hlt : k < n
    · have hkl : k < L.length := by rw [← HN.out]; exact hlt
      obtain ⟨ad, A', c', rfl, hbl, -, c0, c1, c2, c3, hrb⟩ := (HR.out.below hb (Nat.le_refl _)).at_ hkl
      obtain ⟨m, hm⟩ : ∃ m, m = L[k].2.1.length := ⟨_, rfl⟩
      rw [← hm] at c1
      have HM := Lib.hid hm
      have hk0 : (0 : Int) ≤ k := by omega
      have hk1 : (k : Int) < n := by omega
      clear hm hrb c0 c2 c3
      by_cases h2 : 200 < m
      · go_wp2_with fail
        go_ret
        exact ⟨false, rfl, (fun e => by cases e), hb⟩
      · have HA2 := Lib.hid (show ∀ i (h : i < L.length), i < k + 1 → L[i].2.1.length ≤ 200 from fun i h hi => by
          by_cases e : i = k
          · subst e; have := HM.out; omega
          · exact HA.out i h (by omega))
        go_wp2_with fail
        go_roundw
        case rel => exact ⟨k + 1, by omega, by go_num, HA2, hb⟩
        case measure => simp [intOf] <;> omega
    · go_wp2_with fail
      go_ret
      exact ⟨true, rfl, fun _ => ⟨by have := HN.out; omega, fun i h => HA.out i h (by have := HN.out; omega)⟩, hb⟩
end Go.Proofs.Ytjipjfionelpkaa.wl
