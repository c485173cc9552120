/- What the document's Same, Single, the law's right and node answer. -/
import Derived.Test.YtbnpljcjjpokjaaPlace7
import Derived.Test.YtbnpljcjjpokjaaPlaceR
import Derived.Deep.QuietTactic
import Derived.BigQuiet
import Derived.Laws.ResultCell
namespace Go.Proofs.Ytbnpljcjjpokjaa.placeWalk
open Go.RowKit Go.Proofs.Ytbnpljcjjpokjaa.lib Go.Proofs.Ytbnpljcjjpokjaa.mem Go.Proofs.Ytbnpljcjjpokjaa.viewWalk

theorem take_sameM (L M : List (Int × Int)) (k : Nat) (h1 : k < L.length) (h2 : k < M.length) (ht : L.take k = M.take k) (e : L[k] = M[k]) : L.take (k + 1) = M.take (k + 1) := by
  rw [← List.take_append_getElem h1, ← List.take_append_getElem h2, ht, e]

set_option maxHeartbeats 2000000 in
theorem sameM_any (w : World) {B B2 : Nat} {A A2 : Option Addr} {n n2 c c2 : Nat} {L M : List (Int × Int)} (hn : n = L.length) (hr : RdM w B A L) (hn2 : n2 = M.length) (hr2 : RdM w B2 A2 M) (hB : B ≤ w.heap.size) (hB2 : B2 ≤ w.heap.size) (hs : L.length ≤ 1099511627770) (hs2 : M.length ≤ 1099511627770) :
    Calls Try.prog 24 #[.slice A n c, .slice A2 n2 c2] w fun e w' => e = .returned (.bool (decide (L = M))) ∧ Below w.heap.size w w' := by
  have hns : n ≤ 1099511627770 := by omega
  have HN := Lib.hid hn
  have HN2 := Lib.hid hn2
  by_cases hne : n = n2
  case neg =>
    have HD := Lib.hid (show decide (L = M) = false from decide_eq_false fun e => hne (by rw [hn, hn2, e]))
    have q0 : ((n : Int) == (n2 : Int)) = false := by simp only [beq_eq_false_iff_ne, ne_eq]; omega
    clear hn hn2
    go_enter Try.func24, Try.ntmps24
    go_wp2_with fail
    go_ret
    exact ⟨by rw [HD.out]; rfl, Below.refl _ _⟩
  case pos =>
    subst hne
    clear hn hn2
    go_enter Try.func24, Try.ntmps24
    go_wp2_with fail
    go_loopw [5] (fun i wr => ∃ k : Nat, k ≤ n ∧ i = .int .i64 k ∧ L.take k = M.take k ∧ Below w.heap.size w wr) (fun i _ => n - (intOf i).toNat)
    case atStart => exact ⟨0, Nat.zero_le _, rfl, rfl, Below.refl _ _⟩
    case round =>
      obtain ⟨k, hk, rfl, ht, hb⟩ := hrel
      have HT := Lib.hid ht
      clear ht
      by_cases hlt : k < n
      · have h1 : k < L.length := by rw [← HN.out]; exact hlt
        have h2 : k < M.length := by rw [← HN2.out]; exact hlt
        obtain ⟨ad, rfl, -, hc1, hc2⟩ := RdM.at_ (hr.below (hb.mono hB)) h1
        obtain ⟨ad2, rfl, -, hd1, hd2⟩ := RdM.at_ (hr2.below (hb.mono hB2)) h2
        obtain ⟨y1, y2, hy⟩ : ∃ y1 y2, L[k] = (y1, y2) := ⟨_, _, rfl⟩
        obtain ⟨z1, z2, hz⟩ : ∃ y1 y2, M[k] = (y1, y2) := ⟨_, _, rfl⟩
        rw [hy] at hc1 hc2
        rw [hz] at hd1 hd2
        have hdiff : ¬ (y1 = z1 ∧ y2 = z2) → decide (L = M) = false := fun h => decide_eq_false fun e => h (by
          subst e
          rw [hy] at hz
          simpa using hz)
        have hsame : y1 = z1 → y2 = z2 → L.take (k + 1) = M.take (k + 1) := fun e1 e2 => take_sameM L M k h1 h2 HT.out (by rw [hy, hz, e1, e2])
        have HDIFF := Lib.hid hdiff
        have HSAME := Lib.hid hsame
        clear hdiff hsame hy hz
        by_cases e1 : y1 = z1
        · by_cases e2 : y2 = z2
          · have HS := Lib.hid (HSAME.out e1 e2)
            subst e1 e2
            go_wp2_with fail
            go_quiet (fail)
            go_wp2_with fail
            go_roundw
            case rel => exact ⟨k + 1, by omega, by go_num, HS.out, below_drewN hb _⟩
            case measure => simp [intOf] <;> omega
          · have HD := Lib.hid (HDIFF.out fun h => e2 h.2)
            have q2 : (y2 == z2) = false := by simp only [beq_eq_false_iff_ne, ne_eq]; exact e2
            subst e1
            go_wp2_with fail
            go_quiet (fail)
            go_wp2_with fail
            go_ret
            exact ⟨by rw [HD.out]; rfl, below_drewN hb _⟩
        · have HD := Lib.hid (HDIFF.out fun h => e1 h.1)
          have q2 : (y1 == z1) = false := by simp only [beq_eq_false_iff_ne, ne_eq]; exact e1
          go_wp2_with fail
          go_quiet (fail)
          go_wp2_with fail
          go_ret
          exact ⟨by rw [HD.out]; rfl, below_drewN hb _⟩
      · have hkn : k = n := by omega
        have HD := Lib.hid (show decide (L = M) = true from decide_eq_true (by
          have := HT.out
          rwa [List.take_of_length_le (by rw [hkn, HN.out]; exact Nat.le_refl _), List.take_of_length_le (by rw [hkn, HN2.out]; exact Nat.le_refl _)] at this))
        go_wp2_with fail
        go_ret
        exact ⟨by rw [HD.out]; rfl, hb⟩

def SingleP (L : List (Int × Int)) : Prop := L.length = 0 ∨ RightP L
theorem SingleP.le {L : List (Int × Int)} (h : SingleP L) : L.length ≤ 16 := by
  rcases h with h | h
  · omega
  · exact h.2.1
set_option maxHeartbeats 1000000 in
theorem single_any (w : World) {B : Nat} {A : Option Addr} {n c : Nat} {L : List (Int × Int)} (hn : n = L.length) (hr : RdM w B A L) (hB : B ≤ w.heap.size) :
    Calls Try.prog 31 #[.slice A n c] w fun e w' => RetB e (SingleP L) ∧ Below w.heap.size w w' := by
  have HN := Lib.hid hn
  clear hn
  by_cases h0 : n = 0
  · have HS := Lib.hid (show SingleP L from .inl (by rw [← HN.out]; exact h0))
    go_enter Try.func31, Try.ntmps31
    go_wp2_with fail
    go_ret
    exact ⟨RetB.of (by simp only [true_iff]; exact HS.out), Below.refl _ _⟩
  · have q0 : ((n : Int) == 0) = false := by simp only [beq_eq_false_iff_ne, ne_eq]; omega
    go_enter Try.func31, Try.ntmps31
    go_wp2_with fail
    refine (refRight_free w HN.out hr hB).mono ?_
    rintro e w1 ⟨⟨b, rfl, hb'⟩, hb⟩
    have HS := Lib.hid (show b = true ↔ SingleP L from ⟨fun h => .inr (hb'.1 h), fun h => by
      rcases h with h | h
      · exact absurd (HN.out.trans h) h0
      · exact hb'.2 h⟩)
    clear hb'
    go_wp2_with fail
    go_ret
    exact ⟨RetB.of HS.out, hb⟩
set_option maxHeartbeats 1000000 in
theorem rightK_any (w : World) {B : Nat} {A A2 : Option Addr} {n n2 c c2 : Nat} {L M : List (Int × Int)} (hn : n = L.length) (hr : RdM w B A L) (hn2 : n2 = M.length) (hr2 : RdM w B A2 M) (hB : B ≤ w.heap.size) :
    Calls Try.prog 23 #[.slice A n c, .slice A2 n2 c2] w fun e w' => RetB e (SingleP L ∧ SingleP M) ∧ Below w.heap.size w w' := by
  have HN := Lib.hid hn
  have HN2 := Lib.hid hn2
  clear hn hn2
  go_enter Try.func23, Try.ntmps23
  go_wp2_with fail
  refine (single_any w HN.out hr hB).mono ?_
  rintro e w1 ⟨⟨b, rfl, hb'⟩, hb⟩
  have HB := Lib.hid hb'
  clear hb'
  cases b
  · go_wp2_with fail
    go_ret
    exact ⟨RetB.of (by simp only [Bool.false_eq_true, false_iff]; exact fun h => absurd (HB.out.2 h.1) (by simp)), hb⟩
  · go_wp2_with fail
    refine (single_any w1 HN2.out (hr2.below (hb.mono hB)) (Nat.le_trans hB hb.size)).mono ?_
    rintro e w2 ⟨⟨b2, rfl, hb'⟩, hb2⟩
    have HS := Lib.hid (show b2 = true ↔ (SingleP L ∧ SingleP M) from ⟨fun h => ⟨HB.out.1 (by trivial), hb'.1 h⟩, fun h => hb'.2 h.2⟩)
    clear hb'
    go_wp2_with fail
    go_ret
    exact ⟨RetB.of HS.out, hb.trans (hb2.mono hb.size)⟩
theorem results_cell_one {fn : Func} {p : Tmp} {ty : TypeId} (h : fn.results = #[.cell p ty]) (tmps : Array Value) (P : Program) (w : World) :
    (results fn tmps).run P w = ((asAddr (tmps.getD p undef)).run P w).andThen fun a w₁ => (loadVar ty a).run P w₁ := by
  simp only [results, h]
  simp [Sem.run_bind, Result.andThen]
theorem node_any (w : World) (x : Int) : Calls Try.prog 32 #[.int .i64 x] w fun e w' => e = .returned (mv (x, 1)) ∧ Below w.heap.size w w' := by
  go_enter Try.func32, Try.ntmps32
  go_wp2_with fail
  refine bodyPost_ret (v := mv (x, 1)) ?_ rfl ⟨rfl, (Below.refl _ _).alloc (Nat.le_refl _) _⟩
  rw [results_cell_one rfl]
  go_simp
  first | done | rfl | simp [mv]
end Go.Proofs.Ytbnpljcjjpokjaa.placeWalk
