/- What the document's Both, and both Leads, answer. -/
import Derived.Test.YtbnpljcjjpokjaaPlace2
namespace Go.Proofs.Ytbnpljcjjpokjaa.placeWalk
open Go.RowKit Go.Proofs.Ytbnpljcjjpokjaa.lib Go.Proofs.Ytbnpljcjjpokjaa.mem Go.Proofs.Ytbnpljcjjpokjaa.viewWalk

theorem keepc {W W' : World} {a : Addr} {v : Value} (h : W.cell? a = some v) (hb : Below W.heap.size W W') : W'.cell? a = some v := (hb.cell (block_of_cell h)).trans h
set_option maxHeartbeats 1000000 in
theorem refBoth_any (w : World) {B : Nat} {A A2 : Option Addr} {n n2 c c2 : Nat} {L U : List (Int × Int)} (hn : n = L.length) (hr : RdM w B A L) (hn2 : n2 = U.length) (hr2 : RdM w B A2 U) (hB : B ≤ w.heap.size) (hs : L.length ≤ 1099511627770) (hs2 : U.length ≤ 1099511627776) :
    Calls Try.prog 28 #[.slice A n c, .slice A2 n2 c2] w fun e w' => ∃ A' c' m', e = .returned (.slice A' m' c') ∧ m' = (bothM L U).length ∧ OwnM w' w.heap.size A' c' (bothM L U) ∧ Below w.heap.size w w' := by
  have hns : n ≤ 1099511627770 := by omega
  have HN := Lib.hid hn
  have HN2 := Lib.hid hn2
  have HS := Lib.hid hs
  have HS2 := Lib.hid hs2
  clear hn hn2 hs hs2
  go_enter Try.func28, Try.ntmps28
  go_wp2_with fail
  go_loopw [5, 6] (fun v i wr => ∃ (k : Nat) (A' : Option Addr) (c' m' : Nat), k ≤ n ∧ i = .int .i64 k ∧ v = .slice A' m' c' ∧ m' = (bothM (L.take k) U).length ∧ OwnM wr w.heap.size A' c' (bothM (L.take k) U) ∧ Below w.heap.size w wr) (fun _ i _ => n - (intOf i).toNat)
  case atStart => exact ⟨0, none, 0, 0, Nat.zero_le _, rfl, rfl, rfl, ownM_nil _ _, Below.refl _ _⟩
  case round =>
    obtain ⟨k, A', c', m', hk, rfl, rfl, hm', ho, hb⟩ := hrel
    have hml : m' ≤ 1099511627770 := by rw [hm']; exact Nat.le_trans (bothM_take_length _ _ _) HS.out
    by_cases hlt : k < n
    · have h1 : k < L.length := by rw [← HN.out]; exact hlt
      obtain ⟨ad, rfl, -, hc1, hc2⟩ := RdM.at_ (hr.below (hb.mono hB)) h1
      obtain ⟨y1, y2, hy⟩ : ∃ y1 y2, L[k] = (y1, y2) := ⟨_, _, rfl⟩
      rw [hy] at hc1 hc2
      have hru : RdM wr B A2 U := hr2.below (hb.mono hB)
      have HY := Lib.hid hy
      have HM := Lib.hid hm'
      have HO := Lib.hid ho
      clear hy hm' ho
      go_wp2_with fail
      refine (refIndex_any wr (y1, y2) HN2.out hru (Nat.le_trans hB hb.size) HS2.out).mono ?_
      rintro e w1 ⟨rfl, hb1⟩
      have x1 := keepc hc1 hb1
      have x2 := keepc hc2 hb1
      have ho1 : OwnM w1 w.heap.size A' c' (bothM (L.take k) U) := own_below HO.out hb1 (Nat.le_refl _)
      have hbw1 : Below w.heap.size w w1 := hb.trans (hb1.mono hb.size)
      obtain ⟨ix, hix⟩ : ∃ i, i = idx U (y1, y2) := ⟨_, rfl⟩
      rw [← hix]
      clear hc1 hc2 hb1 HO hru
      by_cases h0 : 0 ≤ ix
      · have hyes := bothM_yes L U k h1 (by rw [HY.out, ← hix]; exact h0)
        rw [HY.out] at hyes
        obtain ⟨A3, c3, w3, hrun, ho3, hb3⟩ := append_one w1 w.heap.size HM.out ho1 (y1, y2) (by rw [← HM.out]; omega) hbw1.size
        rw [← hyes] at ho3
        have hm3 : m' + 1 = (bothM (L.take (k + 1)) U).length := by rw [hyes, List.length_append, ← HM.out]; rfl
        have HM3 := Lib.hid hm3
        have HO3 := Lib.hid ho3
        clear hix hyes hm3 ho3 ho1
        go_wp2_with (at_builtin; refine wpList_append_run rfl rfl rfl rfl hrun ?_; clear hrun)
        go_roundw
        case rel => exact ⟨k + 1, A3, c3, m' + 1, by omega, by go_num, rfl, HM3.out, HO3.out, hbw1.trans hb3⟩
        case measure => simp [intOf] <;> omega
      · have hno := bothM_no L U k h1 (by rw [HY.out, ← hix]; exact h0)
        have HO1 := Lib.hid ho1
        have HNO := Lib.hid hno
        clear hix hno ho1
        go_wp2_with fail
        go_roundw
        case rel => exact ⟨k + 1, A', c', m', by omega, by go_num, rfl, by rw [HNO.out]; exact HM.out, by rw [HNO.out]; exact HO1.out, hbw1⟩
        case measure => simp [intOf] <;> omega
    · have hkn : k = n := by omega
      subst hkn
      have e : L.take k = L := by rw [HN.out]; exact List.take_length
      rw [e] at hm' ho
      have HM := Lib.hid hm'
      have HO := Lib.hid ho
      clear hm' ho
      go_wp2_with fail
      go_ret
      exact ⟨A', c', m', rfl, HM.out, HO.out, hb⟩

theorem ownsRow_base {w : World} {B B' : Nat} {e : TypeId} {size : Nat} {v : Value} {n : Nat} {xs : List Value} (h : w.ownsRow B e size v n xs) (hb : B' ≤ B) : w.ownsRow B' e size v n xs :=
  ⟨h.1, h.2.imp_right fun ⟨g, cap, cur, e, h1, r⟩ => ⟨g, cap, cur, e, Nat.le_trans hb h1, r⟩⟩
/-- A cut at the front. -/
theorem RdM.take {w : World} {B : Nat} {A : Option Addr} {L : List (Int × Int)} (h : RdM w B A L) (k : Nat) (hk : k ≤ L.length) : RdM w B A (L.take k) := by
  rcases A with _ | a
  · have h0 : L.length = 0 := by
      rcases Nat.eq_zero_or_pos L.length with h0 | h0
      · exact h0
      · obtain ⟨ad, e, _⟩ := h.2 h0
        cases e
    have : L.take k = [] := List.eq_nil_of_length_eq_zero (by rw [List.length_take]; omega)
    rw [this]
    exact ⟨rfl, fun h => absurd h (by simp)⟩
  · refine rdM_of (fun h0 => ?_) fun i hi => ?_
    · obtain ⟨ad, e, hb, _⟩ := h.2 (by rw [List.length_take] at h0; omega)
      injection e with e
      subst e
      exact hb
    · rw [List.length_take] at hi
      obtain ⟨ad, e, _, h1, h2⟩ := h.at_ (k := i) (by omega)
      injection e with e
      subst e
      rw [List.getElem_take]
      refine ⟨h1, ?_⟩
      have e2 : (⟨(a.add (i * 2)).block, (a.add (i * 2)).off + 1, none⟩ : Addr) = a.add (i * 2 + 1) := by
        rw [← add_of_add]
        simp [Addr.add]
      rw [← e2]
      exact h2
/-- A cut behind, as the model spells its address. -/
theorem RdM.drop_if {w : World} {B : Nat} {a : Addr} {L : List (Int × Int)} (h : RdM w B (some a) L) (k c : Nat) (hk : k ≤ L.length) (hc : L.length ≤ c) : RdM w B (if c = k then some a else some (a.add (k * 2))) (L.drop k) := by
  have hcell : ∀ i (hi : i < (L.drop k).length), w.cell? ((a.add (k * 2)).add (i * 2)) = some (.int .i64 (L.drop k)[i].1) ∧ w.cell? ((a.add (k * 2)).add (i * 2 + 1)) = some (.int .i64 (L.drop k)[i].2) := fun i hi => by
    rw [List.length_drop] at hi
    obtain ⟨ad, e, _, h1, h2⟩ := h.at_ (k := k + i) (by omega)
    injection e with e
    subst e
    have e2 : (⟨(a.add ((k + i) * 2)).block, (a.add ((k + i) * 2)).off + 1, none⟩ : Addr) = a.add ((k + i) * 2 + 1) := by
      rw [← add_of_add]
      simp [Addr.add]
    rw [e2] at h2
    rw [List.getElem_drop, add_of_add, add_of_add]
    exact ⟨by rw [← h1]; congr 2; omega, by rw [← h2]; congr 2; omega⟩
  split
  · have : L.drop k = [] := List.eq_nil_of_length_eq_zero (by rw [List.length_drop]; omega)
    rw [this]
    exact ⟨rfl, fun h => absurd h (by simp)⟩
  · refine rdM_of (fun h0 => ?_) hcell
    obtain ⟨ad, e, hb, _⟩ := h.2 (by rw [List.length_drop] at h0; omega)
    injection e with e
    subst e
    rw [block_of_add]
    exact hb

set_option maxHeartbeats 1000000 in
theorem lead_any (w : World) {B : Nat} {A : Option Addr} {n c : Nat} {L : List (Int × Int)} (x : Int × Int) (hn : n = L.length) (hr : RdM w B A L) (hB : B ≤ w.heap.size) (hc : n ≤ c) (hs : L.length ≤ 549755813880) :
    Calls Try.prog 29 #[.slice A n c, .agg #[.int .i64 x.1, .int .i64 x.2]] w fun e w' => ∃ A' c' m', e = .returned (.slice A' m' c') ∧ m' = (leadM L x).length ∧ OwnM w' w.heap.size A' c' (leadM L x) ∧ Below w.heap.size w w' := by
  obtain ⟨x1, x2⟩ := x
  have hns : n ≤ 549755813880 := by omega
  have HN := Lib.hid hn
  have HS := Lib.hid hs
  clear hn hs
  have hcell : Cell2 (w.alloc (.cells #[.int .i64 x1, .int .i64 x2] 26)) w.heap.size (x1, x2) := Cell2.new w (x1, x2) _
  have hbA : Below w.heap.size w (w.alloc (.cells #[.int .i64 x1, .int .i64 x2] 26)) := (Below.refl _ _).alloc (Nat.le_refl _) _
  have hsz : (w.alloc (.cells #[.int .i64 x1, .int .i64 x2] 26)).heap.size = w.heap.size + 1 := by simp
  go_enter Try.func29, Try.ntmps29
  go_wp2_with fail
  generalize w.alloc (.cells #[.int .i64 x1, .int .i64 x2] 26) = V at hcell hbA hsz ⊢
  refine (index_any V (x1, x2) HN.out (hr.below (hbA.mono hB)) (Nat.le_trans hB hbA.size) (by have := HS.out; omega)).mono ?_
  rintro e w1 ⟨rfl, hb1⟩
  obtain ⟨q1, q2⟩ := hcell.below hb1 (by omega)
  have hbw1 : Below w.heap.size w w1 := hbA.trans (hb1.mono hbA.size)
  obtain ⟨ix, hix⟩ : ∃ i, i = idx L (x1, x2) := ⟨_, rfl⟩
  have hlt := idx_lt L (x1, x2)
  rw [← hix, ← HN.out] at hlt
  rw [← hix]
  have hr1 := hr.below (hbw1.mono hB)
  clear hcell hb1 hbA hsz
  by_cases h0 : ix < 0
  · have hl : leadM L (x1, x2) = L := by unfold leadM; rw [if_pos (by rw [← hix]; exact h0)]
    have HL := Lib.hid hl
    clear hl hix
    go_wp2_with fail
    refine (clone_any w1 HN.out hr1 (Nat.le_trans hB hbw1.size) (by have := HS.out; omega)).mono ?_
    rintro e w2 ⟨A', c', rfl, ho, hb2⟩
    have HO := Lib.hid (ownsRow_base ho hbw1.size)
    clear ho
    go_wp2_with fail
    go_ret
    exact ⟨A', c', n, rfl, by rw [HL.out]; exact HN.out, by rw [HL.out]; exact HO.out, hbw1.trans (hb2.mono hbw1.size)⟩
  · obtain ⟨q, rfl⟩ : ∃ q : Nat, ix = q := ⟨ix.toNat, by omega⟩
    have hqn : q < n := by omega
    have hql : q < L.length := by rw [← HN.out]; exact hqn
    have hl : leadM L (x1, x2) = [(x1, x2)] ++ L.take q ++ L.drop (q + 1) := by unfold leadM; rw [← hix, if_neg (by omega)]; rfl
    obtain ⟨ad, eA, -, -, -⟩ := RdM.at_ hr1 hql
    subst eA
    have hqw : IntKind.i64.wrap ((q : Int) + 1) = (q : Int) + 1 := IntWalk.i64_in _ (by omega)
    have hqt : ((q : Int) + 1).toNat = q + 1 := by omega
    have hq1 : (0 : Int) ≤ (q : Int) + 1 := by omega
    have hq2 : (q : Int) + 1 ≤ n := by omega
    have hqc : (q : Int) ≤ c := by omega
    have hq0 : (0 : Int) ≤ q := by omega
    -- the block of the one
    have ho2 : OwnM (w1.alloc (.cells #[.int .i64 x1, .int .i64 x2] 26)) w.heap.size (some ⟨w1.heap.size, 0, none⟩) 1 [(x1, x2)] :=
      World.ownsRow_lit w1 #[.int .i64 x1, .int .i64 x2] 1 hbw1.size (by decide) (by simp)
    have hb2 : Below w.heap.size w (w1.alloc (.cells #[.int .i64 x1, .int .i64 x2] 26)) := hbw1.alloc hbw1.size _
    obtain ⟨A3, c3, w3, hrun3, ho3, hb3⟩ := append_mem (w1.alloc (.cells #[.int .i64 x1, .int .i64 x2] 26)) w.heap.size (n := 1) (c := 1) rfl ho2 (m := q) (c2 := c) (M := L.take q) (by rw [List.length_take]; omega) (RdM.take (hr.below (hb2.mono hB)) q (by omega)) (by rw [List.length_take]; simp; have := HS.out; omega) hb2.size
    have hbw3 := hb2.trans hb3
    obtain ⟨A4, c4, w4, hrun4, ho4, hb4⟩ := append_mem w3 w.heap.size (n := 1 + q) (c := c3) (by rw [List.length_append, List.length_take]; simp; omega) ho3 (m := n - (q + 1)) (c2 := c - (q + 1)) (M := L.drop (q + 1)) (by rw [List.length_drop, ← HN.out]) (RdM.drop_if (hr.below (hbw3.mono hB)) (q + 1) c (by omega) (by rw [← HN.out]; exact hc)) (by rw [List.length_drop, List.length_append, List.length_take]; simp; have := HS.out; omega) hbw3.size
    rw [← hl] at ho4
    have hm4 : 1 + q + (n - (q + 1)) = (leadM L (x1, x2)).length := by rw [hl, List.length_append, List.length_append, List.length_take, List.length_drop, ← HN.out]; simp; omega
    have HO4 := Lib.hid ho4
    have HM4 := Lib.hid hm4
    clear hl hix hm4 ho4 ho3 ho2
    go_wp2_with (at_builtin; first | (refine wpList_append_run rfl rfl rfl rfl hrun3 ?_; clear hrun3) | (refine wpList_append_run rfl rfl rfl rfl hrun4 ?_; clear hrun4))
    all_goals
      go_ret
      exact ⟨A4, c4, _, rfl, HM4.out, HO4.out, hbw3.trans hb4⟩
end Go.Proofs.Ytbnpljcjjpokjaa.placeWalk
