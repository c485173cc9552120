/- The walk of PlaceMemory. -/
import Derived.Test.YtbnpljcjjpokjaaPlace9
namespace Go.Proofs.Ytbnpljcjjpokjaa.placeWalk
open Go.RowKit Go.Proofs.Ytbnpljcjjpokjaa.lib Go.Proofs.Ytbnpljcjjpokjaa.mem Go.Proofs.Ytbnpljcjjpokjaa.viewWalk

/-- A row that may be written, whatever it holds. -/
def Wr (w : World) (B : Nat) (A : Option Addr) (n c : Nat) : Prop := ∃ xs, w.ownsRow B 26 2 (.slice A n c) n xs
theorem Wr.of {w : World} {B B' : Nat} {A : Option Addr} {n c : Nat} {L : List (Int × Int)} (hn : n = L.length) (h : OwnM w B A c L) (hb : B' ≤ B) : Wr w B' A n c := by
  subst hn
  exact ⟨_, ownsRow_base h hb⟩
theorem Wr.below {w w' : World} {B k : Nat} {A : Option Addr} {n c : Nat} (h : Wr w B A n c) (hb : Below k w w') (hk : w.heap.size ≤ k) : Wr w' B A n c :=
  let ⟨xs, h1⟩ := h; ⟨xs, own_below h1 hb hk⟩
theorem Wr.store {w : World} {B : Nat} {A : Option Addr} {n c : Nat} (h : Wr w B A n c) (g j : Nat) (u : Value) : Wr (w.setCell ⟨g, j, none⟩ u) B A n c := by
  obtain ⟨xs, h1⟩ := h
  by_cases e : (Value.slice A n c).ownBlock = some g
  · rcases h1.2 with ⟨e1, h0⟩ | ⟨g', cap, cur, e1, _, _, _⟩
    · rw [e1] at e
      cases e
    · rw [e1] at e
      injection e with e
      injection e1 with e1 _ e2
      subst e1 e2
      have e3 : g' = g := e
      subst e3
      exact ⟨_, (h1.stored j u).1⟩
  · exact ⟨xs, ownsRow_setCell_other h1 e u⟩
theorem Wr.at_ {w : World} {B : Nat} {A : Option Addr} {n c : Nat} (h : Wr w B A n c) {k : Nat} (hk : k < n) :
    ∃ g u, A = some ⟨g, 0, none⟩ ∧ B ≤ g ∧ w.cell? ⟨g, k * 2, none⟩ = some u ∧ w.frozen? ⟨g, k * 2, none⟩ = false := by
  obtain ⟨xs, h1⟩ := h
  rcases h1.2 with ⟨e1, h0⟩ | ⟨g, cap, cur, e1, hg, _, _⟩
  · omega
  · injection e1 with e1 _ e2
    subst e1 e2
    have hj : k * 2 < xs.length := by rw [h1.1]; omega
    exact ⟨g, xs[k * 2], rfl, hg, by rw [h1.cellAt (k * 2) (by omega)]; exact List.getElem?_eq_getElem hj, h1.frozenAt _⟩

set_option maxRecDepth 4000 in
set_option maxHeartbeats 4000000 in
theorem walk_PlaceMemory (w : World) (s : Int) (hsi : I64 s) {B : Nat} {A A2 : Option Addr} {n n2 c c2 : Nat} {K U : List (Int × Int)} (hn : n = K.length) (hc : n ≤ c) (hr : RdM w B A K) (hn2 : n2 = U.length) (hr2 : RdM w B A2 U) (hB : B ≤ w.heap.size) :
    Calls Try.prog 10 #[.int .i64 s, .slice A n c, .slice A2 n2 c2] w fun e w' => e = .returned (.bool true) ∧ Below w.heap.size w w' := by
  have hS63 : s ≤ 9223372036854775807 := hsi.2
  have HN := Lib.hid hn
  have HN2 := Lib.hid hn2
  clear hn hn2 hsi
  go_enter Try.func10, Try.ntmps10
  go_wp2_with fail
  refine (awake17 w).mono ?_
  rintro e w1 ⟨rfl, hbw1⟩
  by_cases hs0 : s < 0
  · go_wp2_with fail
    refine (awake17 w1).mono ?_
    rintro e w2 ⟨rfl, hb2⟩
    go_wp2_with fail
    go_ret
    exact ⟨rfl, hbw1.trans (hb2.mono hbw1.size)⟩
  go_wp2_with fail
  refine (rightK_any w1 HN.out (hr.below (hbw1.mono hB)) HN2.out (hr2.below (hbw1.mono hB)) (Nat.le_trans hB hbw1.size)).mono ?_
  rintro e w2 ⟨⟨b, rfl, hb'⟩, hb2⟩
  have hbw2 : Below w.heap.size w w2 := hbw1.trans (hb2.mono hbw1.size)
  clear hbw1 hb2
  cases b
  · clear hb'
    go_wp2_with fail
    refine (awake17 w2).mono ?_
    rintro e w3 ⟨rfl, hb3⟩
    go_wp2_with fail
    go_ret
    exact ⟨rfl, hbw2.trans (hb3.mono hbw2.size)⟩
  have hSS := hb'.1 rfl
  clear hb'
  have hK16 : K.length ≤ 16 := hSS.1.le
  have hU16 : U.length ≤ 16 := hSS.2.le
  obtain ⟨sn, hsn⟩ : ∃ sn : Nat, s = sn := ⟨s.toNat, by omega⟩
  subst hsn
  have HK16 := Lib.hid hK16
  have HU16 := Lib.hid hU16
  have hnn : n ≤ 16 := by have := HN.out; omega
  have hnn2 : n2 ≤ 16 := by have := HN2.out; omega
  clear hSS
  -- the copies
  obtain ⟨A3, c3, w3, hrun3, ho3, hb3⟩ := append_mem (w2.alloc (.cells #[] 26)) w2.heap.size (n := 0) (c := 0) (L := []) rfl (ownM_made w2 w2.heap.size (Nat.le_refl _)) HN.out (c2 := c) ((hr.below (hbw2.mono hB)).alloc (Nat.le_trans hB hbw2.size) _) (by simp; omega) (by simp)
  simp only [List.nil_append, Nat.zero_add] at hrun3 ho3
  have hb23 : Below w2.heap.size w2 w3 := ((Below.refl _ _).alloc (Nat.le_refl _) _).trans hb3
  have hbw3 : Below w.heap.size w w3 := hbw2.trans (hb23.mono hbw2.size)
  obtain ⟨A4, c4, w4, hrun4, ho4, hb4⟩ := append_mem (w3.alloc (.cells #[] 26)) w3.heap.size (n := 0) (c := 0) (L := []) rfl (ownM_made w3 w3.heap.size (Nat.le_refl _)) HN2.out (c2 := c2) ((hr2.below (hbw3.mono hB)).alloc (Nat.le_trans hB hbw3.size) _) (by simp; omega) (by simp)
  simp only [List.nil_append, Nat.zero_add] at hrun4 ho4
  have hb34 : Below w3.heap.size w3 w4 := ((Below.refl _ _).alloc (Nat.le_refl _) _).trans hb4
  have hbw4 : Below w.heap.size w w4 := hbw3.trans (hb34.mono hbw3.size)
  have ha4 : RdM w4 w4.heap.size A3 K := (ho3.rd.below hb34).more hb34.size
  have hb4' : RdM w4 w4.heap.size A4 U := ho4.rd
  have HA := Lib.hid ha4
  have HBB := Lib.hid hb4'
  clear ho3 ho4 hb3 hb4 hb23 hb34 hbw3 ha4 hb4' hK16 hU16
  go_wp2_with (at_builtin; first | (refine wpList_append_run rfl rfl rfl rfl hrun3 ?_; clear hrun3) | (refine wpList_append_run rfl rfl rfl rfl hrun4 ?_; clear hrun4))
  refine (chain_any w4 sn 9 HN.out (hr.below (hbw4.mono hB)) HN2.out (hr2.below (hbw4.mono hB)) (Nat.le_trans hB hbw4.size) HK16.out HU16.out).mono ?_
  rintro e w5 ⟨A5, c5, m5, rfl, hm5, ho5, hb5⟩
  have hx5 : m5 ≤ 32 := by rw [hm5, chainM, ← List.take_length (l := turnM sn U)]; exact chain_take_bound sn K U 9 _ HK16.out HU16.out
  have hW5 := Lib.hid (Wr.of hm5 ho5 (Nat.le_refl _))
  have hbw5 : Below w.heap.size w w5 := hbw4.trans (hb5.mono hbw4.size)
  clear hm5 ho5
  go_wp2_with fail
  refine (both_any w5 HN.out (hr.below (hbw5.mono hB)) HN2.out (hr2.below (hbw5.mono hB)) (Nat.le_trans hB hbw5.size) (by have := HK16.out; omega) (by have := HU16.out; omega)).mono ?_
  rintro e w6 ⟨A6, c6, m6, rfl, hm6, ho6, hb6⟩
  have hx6 : m6 ≤ 16 := by rw [hm6]; have := bothM_take_length K U K.length; rw [List.take_length] at this; have := HK16.out; omega
  have hW6 := Lib.hid (Wr.of hm6 ho6 hb5.size)
  have hW56 := Lib.hid (hW5.out.below hb6 (Nat.le_refl _))
  have hbw6 : Below w.heap.size w w6 := hbw5.trans (hb6.mono hbw5.size)
  have hb46 : Below w4.heap.size w4 w6 := hb5.trans (hb6.mono hb5.size)
  clear hm6 ho6 hW5 hb6 hb5 hbw5
  go_wp2_with fail
  refine (lead_any w6 (-9, 0) HN.out (hr.below (hbw6.mono hB)) (Nat.le_trans hB hbw6.size) hc (by have := HK16.out; omega)).mono ?_
  rintro e w7 ⟨A7, c7, m7, rfl, hm7, ho7, hb7⟩
  have hx7 : m7 ≤ 64 := by
    rw [hm7]
    unfold leadM
    have := HK16.out
    split
    · omega
    · rw [List.length_append, List.length_append, List.length_take, List.length_drop]
      simp only [List.length_cons, List.length_nil]
      omega
  have hW7 := Lib.hid (Wr.of hm7 ho7 hb46.size)
  have hW57 := Lib.hid (hW56.out.below hb7 (Nat.le_refl _))
  have hW67 := Lib.hid (hW6.out.below hb7 (Nat.le_refl _))
  have hb47 : Below w4.heap.size w4 w7 := hb46.trans (hb7.mono hb46.size)
  clear hm7 ho7 hW6 hW56 hb7 hb46 hbw6
  go_wp2_with fail
  go_loopw [12] (fun i wr => ∃ k : Nat, k ≤ m5 ∧ i = .int .i64 k ∧ Wr wr w4.heap.size A5 m5 c5 ∧ Wr wr w4.heap.size A6 m6 c6 ∧ Wr wr w4.heap.size A7 m7 c7 ∧ Below w4.heap.size w4 wr) (fun i _ => m5 - (intOf i).toNat)
  case atStart => exact ⟨0, Nat.zero_le _, rfl, hW57.out, hW67.out, hW7.out, hb47⟩
  case round =>
    obtain ⟨k, hk, rfl, h5, h6, h7, hb⟩ := hrel
    by_cases hlt : k < m5
    · obtain ⟨g, u, eA, hg, hu, hf⟩ := h5.at_ hlt
      have G5 := Lib.hid (h5.store g (k * 2) (.int .i64 (-7)))
      have G6 := Lib.hid (h6.store g (k * 2) (.int .i64 (-7)))
      have G7 := Lib.hid (h7.store g (k * 2) (.int .i64 (-7)))
      have hb' : Below w4.heap.size w4 (wr.setCell ⟨g, k * 2, none⟩ (.int .i64 (-7))) := hb.setCell hg _
      clear h5 h6 h7
      subst eA
      go_wp2_with fail
      go_roundw
      case rel => exact ⟨k + 1, by omega, by go_num, G5.out, G6.out, G7.out, hb'⟩
      case measure => simp [intOf] <;> omega
    · go_wp2_with fail
      go_loopw [13] (fun i wr => ∃ k : Nat, k ≤ m6 ∧ i = .int .i64 k ∧ Wr wr w4.heap.size A6 m6 c6 ∧ Wr wr w4.heap.size A7 m7 c7 ∧ Below w4.heap.size w4 wr) (fun i _ => m6 - (intOf i).toNat)
      case atStart => exact ⟨0, Nat.zero_le _, rfl, h6, h7, hb⟩
      case round =>
        obtain ⟨k2, hk2, rfl, h6, h7, hb⟩ := hrel
        by_cases hlt2 : k2 < m6
        · obtain ⟨g, u, eA, hg, hu, hf⟩ := h6.at_ hlt2
          have G6 := Lib.hid (h6.store g (k2 * 2) (.int .i64 (-7)))
          have G7 := Lib.hid (h7.store g (k2 * 2) (.int .i64 (-7)))
          have hb' : Below w4.heap.size w4 (wr.setCell ⟨g, k2 * 2, none⟩ (.int .i64 (-7))) := hb.setCell hg _
          clear h6 h7
          subst eA
          go_wp2_with fail
          go_roundw
          case rel => exact ⟨k2 + 1, by omega, by go_num, G6.out, G7.out, hb'⟩
          case measure => simp [intOf] <;> omega
        · go_wp2_with fail
          go_loopw [14] (fun i wr => ∃ k : Nat, k ≤ m7 ∧ i = .int .i64 k ∧ Wr wr w4.heap.size A7 m7 c7 ∧ Below w4.heap.size w4 wr) (fun i _ => m7 - (intOf i).toNat)
          case atStart => exact ⟨0, Nat.zero_le _, rfl, h7, hb⟩
          case round =>
            obtain ⟨k3, hk3, rfl, h7, hb⟩ := hrel
            by_cases hlt3 : k3 < m7
            · obtain ⟨g, u, eA, hg, hu, hf⟩ := h7.at_ hlt3
              have G7 := Lib.hid (h7.store g (k3 * 2) (.int .i64 (-7)))
              have hb' : Below w4.heap.size w4 (wr.setCell ⟨g, k3 * 2, none⟩ (.int .i64 (-7))) := hb.setCell hg _
              clear h7
              subst eA
              go_wp2_with fail
              go_roundw
              case rel => exact ⟨k3 + 1, by omega, by go_num, G7.out, hb'⟩
              case measure => simp [intOf] <;> omega
            · go_wp2_with fail
              have hbw8 : Below w.heap.size w wr := hbw4.trans (hb.mono hbw4.size)
              refine (sameM_any wr HN.out (hr.below (hbw8.mono hB)) HN.out (HA.out.below hb) (Nat.le_trans hB hbw8.size) hb.size (by have := HK16.out; omega) (by have := HK16.out; omega)).mono ?_
              rintro e w9 ⟨rfl, hb9⟩
              rw [decide_eq_true rfl]
              have hbw9 : Below w.heap.size w w9 := hbw8.trans (hb9.mono hbw8.size)
              have hb49 : Below w4.heap.size w4 w9 := hb.trans (hb9.mono hb.size)
              go_wp2_with fail
              refine (sameM_any w9 HN2.out (hr2.below (hbw9.mono hB)) HN2.out (HBB.out.below hb49) (Nat.le_trans hB hbw9.size) hb49.size (by have := HU16.out; omega) (by have := HU16.out; omega)).mono ?_
              rintro e w10 ⟨rfl, hb10⟩
              rw [decide_eq_true rfl]
              go_wp2_with fail
              go_ret
              exact ⟨rfl, hbw9.trans (hb10.mono hbw9.size)⟩
end Go.Proofs.Ytbnpljcjjpokjaa.placeWalk
