/- What the document's without and Cut of a net answer. -/
import Derived.Test.YtnmamfgebbcehaaNet13
namespace Go.Proofs.Ytnmamfgebbcehaa.pk
open Go.RowKit Go.Proofs.Ytnmamfgebbcehaa.lib Go.Proofs.Ytnmamfgebbcehaa.byt
set_option linter.unusedVariables false

def wo (i : Int) (P : List Pk) : List Pk := if i < 0 then P else P.eraseIdx i.toNat
theorem wo_next (i : Int) (P : List Pk) (k : Nat) (h : k < P.length) : wo i (P.take (k + 1)) = wo i (P.take k) ++ (if (k : Int) = i then [] else [P[k]]) := by
  have hl : (P.take k).length = k := by rw [List.length_take]; omega
  unfold wo
  rw [← List.take_append_getElem h]
  by_cases h0 : i < 0
  · rw [if_pos h0, if_pos h0, if_neg (by omega)]
  · rw [if_neg h0, if_neg h0]
    by_cases h1 : (k : Int) = i
    · subst h1
      rw [if_pos rfl, List.append_nil, Int.toNat_natCast, List.eraseIdx_append_of_length_le (by omega), hl, Nat.sub_self, List.eraseIdx_of_length_le (l := P.take k) (by omega)]
      simp
    · rw [if_neg h1]
      by_cases h2 : i.toNat < k
      · rw [List.eraseIdx_append_of_lt_length (by omega)]
      · rw [List.eraseIdx_append_of_length_le (by omega), List.eraseIdx_of_length_le (l := [P[k]]) (by simp; omega), List.eraseIdx_of_length_le (l := P.take k) (by omega)]
theorem cutL_next (x : Int) (P : List Pk) (k : Nat) (h : k < P.length) : cutL x (P.take (k + 1)) = cutL x (P.take k) ++ (if P[k].2.1 = x then [] else [P[k]]) := by
  unfold cutL
  rw [← List.take_append_getElem h, List.filter_append]
  congr 1
  by_cases he : P[k].2.1 = x
  · rw [if_pos he, List.filter_cons_of_neg (by simpa using he), List.filter_nil]
  · rw [if_neg he, List.filter_cons_of_pos (by simpa using he), List.filter_nil]
theorem wo_len (i : Int) (P : List Pk) : (wo i P).length ≤ P.length := by
  unfold wo
  split
  · exact Nat.le_refl _
  · exact List.length_eraseIdx_le _ _

/-- A row of the call's own of headers, that lead to bytes below B. -/
def WInv (w : World) (base : Nat) (A : Option Addr) (m c B : Nat) (L : List Pk) : Prop := ∃ H, w.ownsRow base 29 3 (.slice A m c) m (pkV H) ∧ m = L.length ∧ Hold w B H L
theorem WInv.nil (w : World) (base B : Nat) : WInv w base none 0 0 B [] := ⟨[], World.ownsRow_nil w base _ _, rfl, rfl, fun i h => absurd h (by simp)⟩
theorem WInv.rd {w : World} {base : Nat} {A : Option Addr} {m c B : Nat} {L : List Pk} (h : WInv w base A m c B L) (hB : B ≤ w.heap.size) : RdP w w.heap.size A L := by
  obtain ⟨H, h1, h2, h3⟩ := h
  subst h2
  exact ⟨H, Reads.of_own h1, h3.more hB⟩
theorem WInv.below {w w' : World} {base : Nat} {A : Option Addr} {m c B : Nat} {L : List Pk} (h : WInv w base A m c B L) (hb : Below w.heap.size w w') (hB : B ≤ w.heap.size) : WInv w' base A m c B L :=
  let ⟨H, h1, h2, h3⟩ := h; ⟨H, own_below h1 hb (Nat.le_refl _), h2, h3.below (hb.mono hB)⟩
theorem WInv.base {w : World} {base base' : Nat} {A : Option Addr} {m c B : Nat} {L : List Pk} (h : WInv w base A m c B L) (hb : base' ≤ base) : WInv w base' A m c B L :=
  let ⟨H, h1, h2, h3⟩ := h; ⟨H, own_base h1 hb, h2, h3⟩
theorem WInv.low {w : World} {base : Nat} {A : Option Addr} {m c B : Nat} {L : List Pk} (h : WInv w base A m c B L) {p : Addr} (hp : p.block < base) (hB : B ≤ p.block) (u : Value) : WInv (w.setCell p u) base A m c B L :=
  let ⟨H, h1, h2, h3⟩ := h; ⟨H, ownsRow_setCell_other h1 (fun e => by have := (h1.lt _ e).1; omega) u, h2, h3.below ((Below.refl _ _).setCell hB _)⟩
theorem WInv.other {w : World} {base : Nat} {A : Option Addr} {m c B : Nat} {L : List Pk} (h : WInv w base A m c B L) {p : Addr} (hp : A.map (·.block) ≠ some p.block) (hB : B ≤ p.block) (u : Value) : WInv (w.setCell p u) base A m c B L :=
  let ⟨H, h1, h2, h3⟩ := h; ⟨H, ownsRow_setCell_other h1 (fun e => hp (by cases A with | none => cases e | some a => exact e)) u, h2, h3.below ((Below.refl _ _).setCell hB _)⟩
theorem WInv.far {w : World} {base : Nat} {A : Option Addr} {m c B : Nat} {L : List Pk} (h : WInv w base A m c B L) {z : Nat} (hz : w.heap.size ≤ z) : A.map (·.block) ≠ some z := fun e => by
  obtain ⟨H, h1, _⟩ := h
  have := (own_row h1 e).2
  omega
theorem WInv.drew {w : World} {base : Nat} {A : Option Addr} {m c B : Nat} {L : List Pk} (h : WInv w base A m c B L) : WInv w.drew base A m c B L := h
theorem append_w (w : World) (base : Nat) {A : Option Addr} {m c B : Nat} {L : List Pk} (h : WInv w base A m c B L) (x y : Int) {v : Value} {bs : List UInt8} (hv : HdB w B v bs) (hm : m ≤ 1099511627775) (hB : base ≤ w.heap.size) (hBb : B ≤ base) (ty : TypeId) (hty : ty = 22) :
    ∃ A' c' w', (Builtin.append_ #[22, 22] ty #[.slice A m c, .slice (some ⟨w.heap.size, 0, none⟩) 1 1]).run Try.prog (w.alloc (.cells #[.int .i64 x, .int .i64 y, v] 29)) = .ok (.slice A' (m + 1) c') w' ∧ WInv w' base A' (m + 1) c' B (L ++ [(x, y, bs)]) ∧ Below base w w' ∧ ∀ z, z < w.heap.size → A.map (·.block) ≠ some z → w'.heap[z]? = w.heap[z]? ∧ A'.map (·.block) ≠ some z := by
  subst hty
  obtain ⟨H, h1, h2, h3⟩ := h
  obtain ⟨Av, cv, ev, hrv⟩ := id hv
  subst ev
  have hr := pk.Reads.new_row' w 3 1 #[.int .i64 x, .int .i64 y, .slice Av bs.length cv] 29 (pkV [(x, y, .slice Av bs.length cv)]) rfl rfl
  obtain ⟨A', c', w', g1, g2, g3, g4⟩ := append_pk (w.alloc (.cells #[.int .i64 x, .int .i64 y, .slice Av bs.length cv] 29)) base (World.ownsRow.alloc h1 _) (m := 1) (c2 := 1) hr (by intro u hu; simp [pkV] at hu; rcases hu with rfl | rfl | rfl <;> rfl) (by omega) (by simp; omega)
  have hbA : Below w.heap.size w (w.alloc (.cells #[.int .i64 x, .int .i64 y, .slice Av bs.length cv] 29)) := (Below.refl _ _).alloc (Nat.le_refl _) _
  have hbf : Below base w w' := (hbA.mono hB).trans g4
  have hz : ∀ z, z < w.heap.size → A.map (·.block) ≠ some z → w'.heap[z]? = w.heap[z]? ∧ A'.map (·.block) ≠ some z := fun z hz hne => by
    refine ⟨?_, fun e => ?_⟩
    · rw [g3.grown.block z (by simp; omega) (Ne.symm hne)]
      exact Below.heap_alloc w _ z hz
    · rcases g3.lies with e' | ⟨g, e', hg⟩
      · rw [e'] at e; exact hne e
      · rw [e'] at e
        simp only [Option.map_some, Option.some.injEq] at e
        simp at hg
        omega
  refine ⟨A', c', w', g1, ⟨_, g2, by simp [h2], by simp [h3.1], fun i hi hi' => ?_⟩, hbf, hz⟩
  by_cases hl : i < H.length
  · have hlL : i < L.length := by rw [← h3.1]; exact hl
    rw [List.getElem_append_left hl, List.getElem_append_left hlL]
    obtain ⟨a, b, d⟩ := h3.2 i hl hlL
    exact ⟨a, b, d.below (hbf.mono hBb)⟩
  · have e : i = H.length := by simp at hi; omega
    subst e
    rw [List.getElem_append_right (Nat.le_refl _), List.getElem_append_right (by rw [h3.1]; exact Nat.le_refl _)]
    simp only [Nat.sub_self, h3.1, List.getElem_cons_zero]
    exact ⟨trivial, trivial, hv.below (hbf.mono hBb)⟩

theorem facts_below {w wr W : World} {next : Int} {A : Option Addr} {n c : Nat} (h : (wr.cell? ⟨w.heap.size, 0, none⟩ = some (.int .i64 next) ∧ wr.cell? ⟨w.heap.size, 1, none⟩ = some (.slice A n c) ∧ wr.cell? ⟨w.heap.size + 1, 0, none⟩ = some (.int .i64 0) ∧ wr.cell? ⟨w.heap.size + 1, 1, none⟩ = some (.slice none 0 0) ∧ wr.cell? ⟨w.heap.size + 2, 0, none⟩ = some (.int .i64 next) ∧ (∀ j, wr.frozen? ⟨w.heap.size + 1, j, none⟩ = false) ∧ (∀ j, wr.frozen? ⟨w.heap.size + 2, j, none⟩ = false))) (hb : Below (w.heap.size + 3) wr W) : (W.cell? ⟨w.heap.size, 0, none⟩ = some (.int .i64 next) ∧ W.cell? ⟨w.heap.size, 1, none⟩ = some (.slice A n c) ∧ W.cell? ⟨w.heap.size + 1, 0, none⟩ = some (.int .i64 0) ∧ W.cell? ⟨w.heap.size + 1, 1, none⟩ = some (.slice none 0 0) ∧ W.cell? ⟨w.heap.size + 2, 0, none⟩ = some (.int .i64 next) ∧ (∀ j, W.frozen? ⟨w.heap.size + 1, j, none⟩ = false) ∧ (∀ j, W.frozen? ⟨w.heap.size + 2, j, none⟩ = false)) :=
  have hc : ∀ (b j : Nat) (v : Value), b < w.heap.size + 3 → wr.cell? ⟨b, j, none⟩ = some v → W.cell? ⟨b, j, none⟩ = some v := fun b j v hb' e => (hb.cell (p := ⟨b, j, none⟩) hb').trans e
  ⟨hc _ _ _ (by omega) h.1, hc _ _ _ (by omega) h.2.1, hc _ _ _ (by omega) h.2.2.1, hc _ _ _ (by omega) h.2.2.2.1, hc _ _ _ (by omega) h.2.2.2.2.1, fun j => (hb.frozen (p := ⟨w.heap.size + 1, j, none⟩) (by simp only; omega)).trans (h.2.2.2.2.2.1 j), fun j => (hb.frozen (p := ⟨w.heap.size + 2, j, none⟩) (by simp only; omega)).trans (h.2.2.2.2.2.2 j)⟩
theorem facts_store {w wr : World} {next : Int} {A : Option Addr} {n c : Nat} (h : (wr.cell? ⟨w.heap.size, 0, none⟩ = some (.int .i64 next) ∧ wr.cell? ⟨w.heap.size, 1, none⟩ = some (.slice A n c) ∧ wr.cell? ⟨w.heap.size + 1, 0, none⟩ = some (.int .i64 0) ∧ wr.cell? ⟨w.heap.size + 1, 1, none⟩ = some (.slice none 0 0) ∧ wr.cell? ⟨w.heap.size + 2, 0, none⟩ = some (.int .i64 next) ∧ (∀ j, wr.frozen? ⟨w.heap.size + 1, j, none⟩ = false) ∧ (∀ j, wr.frozen? ⟨w.heap.size + 2, j, none⟩ = false))) (u : Value) : ((wr.setCell ⟨w.heap.size + 2, 1, none⟩ u).cell? ⟨w.heap.size, 0, none⟩ = some (.int .i64 next) ∧ (wr.setCell ⟨w.heap.size + 2, 1, none⟩ u).cell? ⟨w.heap.size, 1, none⟩ = some (.slice A n c) ∧ (wr.setCell ⟨w.heap.size + 2, 1, none⟩ u).cell? ⟨w.heap.size + 1, 0, none⟩ = some (.int .i64 0) ∧ (wr.setCell ⟨w.heap.size + 2, 1, none⟩ u).cell? ⟨w.heap.size + 1, 1, none⟩ = some (.slice none 0 0) ∧ (wr.setCell ⟨w.heap.size + 2, 1, none⟩ u).cell? ⟨w.heap.size + 2, 0, none⟩ = some (.int .i64 next) ∧ (∀ j, (wr.setCell ⟨w.heap.size + 2, 1, none⟩ u).frozen? ⟨w.heap.size + 1, j, none⟩ = false) ∧ (∀ j, (wr.setCell ⟨w.heap.size + 2, 1, none⟩ u).frozen? ⟨w.heap.size + 2, j, none⟩ = false)) :=
  ⟨by rw [World.cell?_setCell_other wr _ _ _ (by simp)]; exact h.1, by rw [World.cell?_setCell_other wr _ _ _ (by simp)]; exact h.2.1, by rw [World.cell?_setCell_other wr _ _ _ (by simp)]; exact h.2.2.1, by rw [World.cell?_setCell_other wr _ _ _ (by simp)]; exact h.2.2.2.1, by rw [World.cell?_setCell_other wr _ _ _ (by simp)]; exact h.2.2.2.2.1, fun j => by simpa using h.2.2.2.2.2.1 j, fun j => by simpa using h.2.2.2.2.2.2 j⟩

set_option maxHeartbeats 4000000 in
theorem without_any (w : World) {B : Nat} {A : Option Addr} {n c : Nat} {P : List Pk} (next i : Int) (hn : n = P.length) (hr : RdP w B A P) (hB : B ≤ w.heap.size) (hP : P.length ≤ 1099511627770) :
    Calls Try.prog 25 #[.agg #[.int .i64 next, .slice A n c], .int .i64 i] w fun e w' => ∃ A' m' c', e = .returned (.agg #[.int .i64 next, .slice A' m' c']) ∧ m' = (wo i P).length ∧ WInv w' w.heap.size A' m' c' B (wo i P) ∧ Below w.heap.size w w' := by
  have HN := Lib.hid hn
  have hns : n ≤ 1099511627770 := by omega
  have H0 := heap3 w (.cells #[.int .i64 next, .slice A n c] 24) (.cells #[.int .i64 0, .slice none 0 0] 24) (.cells #[.int .i64 next, .slice none 0 0] 24)
  have hszA : (((w.alloc (.cells #[.int .i64 next, .slice A n c] 24)).alloc (.cells #[.int .i64 0, .slice none 0 0] 24)).alloc (.cells #[.int .i64 next, .slice none 0 0] 24)).heap.size = w.heap.size + 3 := by simp
  have hbA : Below w.heap.size w (((w.alloc (.cells #[.int .i64 next, .slice A n c] 24)).alloc (.cells #[.int .i64 0, .slice none 0 0] 24)).alloc (.cells #[.int .i64 next, .slice none 0 0] 24)) := low3
  have hF : ((((w.alloc (.cells #[.int .i64 next, .slice A n c] 24)).alloc (.cells #[.int .i64 0, .slice none 0 0] 24)).alloc (.cells #[.int .i64 next, .slice none 0 0] 24)).cell? ⟨w.heap.size, 0, none⟩ = some (.int .i64 next) ∧ (((w.alloc (.cells #[.int .i64 next, .slice A n c] 24)).alloc (.cells #[.int .i64 0, .slice none 0 0] 24)).alloc (.cells #[.int .i64 next, .slice none 0 0] 24)).cell? ⟨w.heap.size, 1, none⟩ = some (.slice A n c) ∧ (((w.alloc (.cells #[.int .i64 next, .slice A n c] 24)).alloc (.cells #[.int .i64 0, .slice none 0 0] 24)).alloc (.cells #[.int .i64 next, .slice none 0 0] 24)).cell? ⟨w.heap.size + 1, 0, none⟩ = some (.int .i64 0) ∧ (((w.alloc (.cells #[.int .i64 next, .slice A n c] 24)).alloc (.cells #[.int .i64 0, .slice none 0 0] 24)).alloc (.cells #[.int .i64 next, .slice none 0 0] 24)).cell? ⟨w.heap.size + 1, 1, none⟩ = some (.slice none 0 0) ∧ (((w.alloc (.cells #[.int .i64 next, .slice A n c] 24)).alloc (.cells #[.int .i64 0, .slice none 0 0] 24)).alloc (.cells #[.int .i64 next, .slice none 0 0] 24)).cell? ⟨w.heap.size + 2, 0, none⟩ = some (.int .i64 next) ∧ (∀ j, (((w.alloc (.cells #[.int .i64 next, .slice A n c] 24)).alloc (.cells #[.int .i64 0, .slice none 0 0] 24)).alloc (.cells #[.int .i64 next, .slice none 0 0] 24)).frozen? ⟨w.heap.size + 1, j, none⟩ = false) ∧ (∀ j, (((w.alloc (.cells #[.int .i64 next, .slice A n c] 24)).alloc (.cells #[.int .i64 0, .slice none 0 0] 24)).alloc (.cells #[.int .i64 next, .slice none 0 0] 24)).frozen? ⟨w.heap.size + 2, j, none⟩ = false)) := ⟨by rw [cell_of_row _ _ _ _ _ (0, 0) H0.1]; rfl, by rw [cell_of_row _ _ _ _ _ (0, 0) H0.1]; rfl, by rw [cell_of_row _ _ _ _ _ (0, 0) H0.2.1]; rfl, by rw [cell_of_row _ _ _ _ _ (0, 0) H0.2.1]; rfl, by rw [cell_of_row _ _ _ _ _ (0, 0) H0.2.2]; rfl, fun j => frozen_of_row _ _ j _ _ H0.2.1, fun j => frozen_of_row _ _ j _ _ H0.2.2⟩
  have hf5 : (((w.alloc (.cells #[.int .i64 next, .slice A n c] 24)).alloc (.cells #[.int .i64 0, .slice none 0 0] 24)).alloc (.cells #[.int .i64 next, .slice none 0 0] 24)).cell? ⟨w.heap.size + 2, 1, none⟩ = some (.slice none 0 0) := by rw [cell_of_row _ _ _ _ _ (0, 0) H0.2.2]; rfl
  have HF := Lib.hid hF
  clear hn H0 hF
  go_enter Try.func25, Try.ntmps25
  go_wp2_with fail
  generalize (((w.alloc (.cells #[.int .i64 next, .slice A n c] 24)).alloc (.cells #[.int .i64 0, .slice none 0 0] 24)).alloc (.cells #[.int .i64 next, .slice none 0 0] 24)) = V at hbA hszA HF hf5 ⊢
  have hsz0 : w.heap.size + 3 ≤ V.heap.size := by omega
  have HI0 := Lib.hid (show WInv V (w.heap.size + 3) none 0 0 B (wo i (P.take 0)) from by
    have : wo i (P.take 0) = [] := by unfold wo; simp
    rw [this]
    exact WInv.nil _ _ _)
  clear hszA
  go_loopw [6] (fun vi wr => ∃ (k m1 c1 : Nat) (A1 : Option Addr), k ≤ n ∧ m1 ≤ k ∧ vi = .int .i64 k ∧ Hid (WInv wr (w.heap.size + 3) A1 m1 c1 B (wo i (P.take k))) ∧ Hid (wr.cell? ⟨w.heap.size, 0, none⟩ = some (.int .i64 next) ∧ wr.cell? ⟨w.heap.size, 1, none⟩ = some (.slice A n c) ∧ wr.cell? ⟨w.heap.size + 1, 0, none⟩ = some (.int .i64 0) ∧ wr.cell? ⟨w.heap.size + 1, 1, none⟩ = some (.slice none 0 0) ∧ wr.cell? ⟨w.heap.size + 2, 0, none⟩ = some (.int .i64 next) ∧ (∀ j, wr.frozen? ⟨w.heap.size + 1, j, none⟩ = false) ∧ (∀ j, wr.frozen? ⟨w.heap.size + 2, j, none⟩ = false)) ∧ wr.cell? ⟨w.heap.size + 2, 1, none⟩ = some (.slice A1 m1 c1) ∧ Below w.heap.size w wr ∧ w.heap.size + 3 ≤ wr.heap.size) (fun vi _ => n - (intOf vi).toNat)
  case atStart => exact ⟨0, 0, 0, none, Nat.zero_le _, Nat.zero_le _, rfl, HI0, HF, hf5, hbA, hsz0⟩
  case round =>
    obtain ⟨k, m1, c1, A1, hk, hmk, rfl, HI, HF, c5, hb, hsz⟩ := hrel
    obtain ⟨c0, c1', c2, c3, c4, f1, f2⟩ := id HF.out
    by_cases hlt : k < n
    · have h1 : k < P.length := by rw [← HN.out]; exact hlt
      obtain ⟨ad, Ab, cb, eA, -, r1, r2, r3, hrb⟩ := RdP.at_ (hr.below (hb.mono hB)) h1
      subst eA
      obtain ⟨p1, p2, bs, hp⟩ : ∃ a b d, P[k] = (a, b, d) := ⟨_, _, _, rfl⟩
      obtain ⟨m, hm⟩ : ∃ m, m = bs.length := ⟨_, rfl⟩
      rw [hp] at r1 r2 r3 hrb
      simp only at r1 r2 r3 hrb
      rw [← hm] at r3
      have hnx := wo_next i P k h1
      by_cases he : (k : Int) = i
      · rw [if_pos he, List.append_nil] at hnx
        have HNX := Lib.hid (show WInv wr (w.heap.size + 3) A1 m1 c1 B (wo i (P.take (k + 1))) from by rw [hnx]; exact HI.out)
        subst he
        clear hnx hp hm hrb r1 r2 r3
        go_wp2_with fail
        go_roundw
        case rel => exact ⟨k + 1, m1, c1, A1, by omega, by omega, by go_num, HNX, HF, c5, hb, hsz⟩
        case measure => simp [intOf] <;> omega
      · rw [if_neg he, hp] at hnx
        have q1 : ((k : Int) == i) = false := by simp only [beq_eq_false_iff_ne, ne_eq]; exact he
        have hAp : ∀ W : World, Below wr.heap.size wr W → ∃ A' c' w', (Builtin.append_ #[22, 22] 22 #[.slice A1 m1 c1, .slice (some ⟨W.heap.size, 0, none⟩) 1 1]).run Try.prog (W.alloc (.cells #[.int .i64 p1, .int .i64 p2, .slice Ab m cb] 29)) = .ok (.slice A' (m1 + 1) c') w' ∧ Hid (WInv w' (w.heap.size + 3) A' (m1 + 1) c' B (wo i (P.take (k + 1)))) ∧ Hid (w'.cell? ⟨w.heap.size, 0, none⟩ = some (.int .i64 next) ∧ w'.cell? ⟨w.heap.size, 1, none⟩ = some (.slice (some ad) n c) ∧ w'.cell? ⟨w.heap.size + 1, 0, none⟩ = some (.int .i64 0) ∧ w'.cell? ⟨w.heap.size + 1, 1, none⟩ = some (.slice none 0 0) ∧ w'.cell? ⟨w.heap.size + 2, 0, none⟩ = some (.int .i64 next) ∧ (∀ j, w'.frozen? ⟨w.heap.size + 1, j, none⟩ = false) ∧ (∀ j, w'.frozen? ⟨w.heap.size + 2, j, none⟩ = false)) ∧ w'.cell? ⟨w.heap.size + 2, 1, none⟩ = some (.slice A1 m1 c1) ∧ w'.frozen? ⟨w.heap.size + 2, 1, none⟩ = false ∧ Below w.heap.size w w' ∧ w.heap.size + 3 ≤ w'.heap.size := fun W hW => by
          have hs := hW.size
          obtain ⟨A', c', w', e1, e2, e3, -⟩ := append_w W (w.heap.size + 3) (HI.out.below hW (by omega)) p1 p2 (v := .slice Ab m cb) (bs := bs) ⟨Ab, cb, by rw [hm], hrb.below (hW.mono (by omega))⟩ (by omega) (by omega) (by omega) _ rfl
          have hF' := facts_below HF.out ((hW.mono hsz).trans e3)
          exact ⟨A', c', w', e1, Lib.hid (by rw [hnx]; exact e2), Lib.hid hF', (((hW.mono hsz).trans e3).cell (p := ⟨w.heap.size + 2, 1, none⟩) (by simp only; omega)).trans c5, hF'.2.2.2.2.2.2 1, hb.trans (((hW.mono hsz).trans e3).mono (by omega)), by have := e3.size; omega⟩
        have c5a : ∀ o, (wr.alloc o).cell? ⟨w.heap.size + 2, 1, none⟩ = some (.slice A1 m1 c1) := fun o => Go.Lib.cell?_alloc_marked o c5
        have HAP := Lib.hid hAp
        have hbq : Below wr.heap.size wr wr := Below.refl _ _
        have hbqd : Below wr.heap.size wr wr.drew := below_drewN (Below.refl _ _) 1
        have hk0 : (0 : Int) ≤ k := by omega
        have hk1 : (k : Int) < n := by omega
        clear hnx hp hm hrb hAp
        go_wp2_with fail
        go_region_law (obtain ⟨A3, c3, w4, hrun, HI2, HF2, k1, k2, k3, k4⟩ := HAP.out _ (by assumption); refine step_append_run rfl rfl rfl rfl hrun ?_)
        all_goals
          have HNI := Lib.hid (HI2.out.low (p := ⟨w.heap.size + 2, 1, none⟩) (by simp only; omega) (by simp only; omega) (.slice A3 (m1 + 1) c3))
          have HNF := Lib.hid (facts_store HF2.out (.slice A3 (m1 + 1) c3))
          have n5 := World.cell?_setCell_same w4 _ (.slice A3 (m1 + 1) c3) k1
          have nb : Below w.heap.size w (w4.setCell ⟨w.heap.size + 2, 1, none⟩ (.slice A3 (m1 + 1) c3)) := k3.setCell (by simp only; omega) _
          have ns : w.heap.size + 3 ≤ (w4.setCell ⟨w.heap.size + 2, 1, none⟩ (.slice A3 (m1 + 1) c3)).heap.size := by simpa using k4
          clear HAP hbq hbqd c5a
          go_wp2_with fail
          go_roundw
          case rel => exact ⟨k + 1, m1 + 1, c3, A3, by omega, by omega, by go_num, HNI, HNF, n5, nb, ns⟩
          case measure => simp [intOf] <;> omega
    · have hkn : P.take k = P := List.take_of_length_le (by have := HN.out; omega)
      rw [hkn] at HI
      have HL := Lib.hid (show m1 = (wo i P).length from by obtain ⟨_, _, h, _⟩ := HI.out; exact h)
      have HFN := Lib.hid (((HI.out.base (show w.heap.size + 1 ≤ w.heap.size + 3 by omega))))
      clear hkn
      go_wp2_with fail
      refine bodyPost_ret (v := .agg #[.int .i64 next, .slice A1 m1 c1]) ?_ rfl ⟨A1, m1, c1, rfl, HL.out, ?_, ?_⟩
      · rw [results_cell_one rfl]
        go_simp
        first | done | rfl
      · refine WInv.base (base := w.heap.size + 3) ?_ (by omega)
        repeat (refine WInv.low ?_ (by simp only; omega) (by simp only; omega) _)
        exact HI.out
      · repeat (refine Below.setCell ?_ (by simp only; omega) _)
        exact hb
end Go.Proofs.Ytnmamfgebbcehaa.pk
