/- What Row of a log answers: the frames of what it holds. -/
import Derived.Test.YtjipjfionelpkaaWl9
namespace Go.Proofs.Ytjipjfionelpkaa.wl
open Go.RowKit Go.Proofs.Ytjipjfionelpkaa.lib Go.Proofs.Ytjipjfionelpkaa.byt Go.Proofs.Ytjipjfionelpkaa.dk Go.Proofs.Ytjipjfionelpkaa.framePlain Go.Proofs.Ytjipjfionelpkaa.frameWalk
set_option linter.unusedVariables false

theorem rowOf_take_le (L : List (List UInt8)) (k : Nat) : (rowOf (L.take k)).length ≤ (rowOf L).length := by
  have e : rowOf L = rowOf (L.take k) ++ rowOf (L.drop k) := by rw [← rowOf_append, List.take_append_drop]
  rw [e, List.length_append]
  omega
theorem rowOf_mem_le {L : List (List UInt8)} {r : List UInt8} (h : r ∈ L) : 12 + r.length ≤ (rowOf L).length := by
  induction L with
  | nil => simp at h
  | cons a L ih =>
    rw [rowOf_cons, List.length_append, frameOf_length]
    rcases List.mem_cons.1 h with rfl | h
    · omega
    · have := ih h; omega
theorem rowOf_count_le (L : List (List UInt8)) : L.length ≤ (rowOf L).length := by
  induction L with
  | nil => simp
  | cons a L ih => rw [rowOf_cons, List.length_append, frameOf_length, List.length_cons]; omega
theorem own_base {w : World} {B B' : Nat} {e : TypeId} {size : Nat} {v : Value} {n : Nat} {xs : List Value} (h : w.ownsRow B e size v n xs) (hb : B' ≤ B) : w.ownsRow B' e size v n xs :=
  ⟨h.1, h.2.imp_right fun ⟨g, cap, cur, e, h1, r⟩ => ⟨g, cap, cur, e, Nat.le_trans hb h1, r⟩⟩
set_option maxHeartbeats 1000000 in
theorem row8_any (w : World) {B : Nat} {A1 A2 : Option Addr} {n1 c1 n2 c2 : Nat} {sf : Int} {p : List UInt8} {L : List (List UInt8)} (hB : B ≤ w.heap.size) (hn1 : n1 = p.length) (hn2 : n2 = L.length) (h1 : RdB w B A1 p) (h2 : RdBB w B A2 L) (hl : (rowOf (p :: L)).length ≤ 1000000) :
    Calls Try.prog 35 #[.agg #[.slice A1 n1 c1, .slice A2 n2 c2, .int .i64 sf]] w fun e w' =>
      ∃ A' c' n', e = .returned (.slice A' n' c') ∧ n' = (rowOf (p :: L)).length ∧ OwnB w' w.heap.size A' c' (rowOf (p :: L)) ∧ Below w.heap.size w w' := by
  have hp9 : 12 + p.length ≤ (rowOf (p :: L)).length := rowOf_mem_le (by simp)
  have hL9 : (rowOf (p :: L)).length = (12 + p.length) + (rowOf L).length := by rw [rowOf_cons, List.length_append, frameOf_length]
  have hc9 := rowOf_count_le L
  have hn40 : n2 ≤ 1000000 := by omega
  have HN1 := Lib.hid hn1
  have HN := Lib.hid hn2
  have HL := Lib.hid (show 12 + p.length ≤ 1000000 ∧ (rowOf L).length ≤ 1000000 ∧ (12 + p.length) + (rowOf L).length ≤ 1000000 from ⟨by omega, by omega, by omega⟩)
  have hbV : Below w.heap.size w (w.alloc (.cells #[.slice A1 n1 c1, .slice A2 n2 c2, .int .i64 sf] 58)) := (Below.refl _ _).alloc (Nat.le_refl _) _
  have hrow := heap_alloc_new w (.cells #[.slice A1 n1 c1, .slice A2 n2 c2, .int .i64 sf] 58 (0, 0))
  have hV : (w.alloc (.cells #[.slice A1 n1 c1, .slice A2 n2 c2, .int .i64 sf] 58)).heap.size = w.heap.size + 1 := by simp
  have hy0 : (w.alloc (.cells #[.slice A1 n1 c1, .slice A2 n2 c2, .int .i64 sf] 58)).cell? ⟨w.heap.size, 0, none⟩ = some (.slice A1 n1 c1) := by rw [cell_of_row _ _ _ _ _ (0, 0) hrow]; rfl
  have hy1 : (w.alloc (.cells #[.slice A1 n1 c1, .slice A2 n2 c2, .int .i64 sf] 58)).cell? ⟨w.heap.size, 1, none⟩ = some (.slice A2 n2 c2) := by rw [cell_of_row _ _ _ _ _ (0, 0) hrow]; rfl
  have HP := Lib.hid (ref_frame_any (w.alloc (.cells #[.slice A1 n1 c1, .slice A2 n2 c2, .int .i64 sf] 58)) (c2 := c1) HN1.out (h1.below (hbV.mono hB)) (Nat.le_trans hB hbV.size) (by omega))
  have H2 := Lib.hid h2
  have HBV := Lib.hid hbV
  have HSV := Lib.hid hV
  clear hn1 hn2 hl hp9 hL9 hc9 h1 h2 hbV hV hrow
  go_enter Try.func35, Try.ntmps35
  go_wp2_with fail
  refine HP.out.mono ?_
  rintro e w1 ⟨A0, c0, n0, rfl, hn0, ho0, hb0⟩
  have hx1 := keepc hy1 hb0
  have HB1 := Lib.hid (HBV.out.trans (hb0.mono HBV.out.size))
  have HN0 := Lib.hid (show n0 = (rowOf (p :: L.take 0)).length from by rw [hn0]; simp [rowOf])
  have HO0 := Lib.hid (show OwnB w1 (w.heap.size + 1) A0 c0 (rowOf (p :: L.take 0)) from by rw [← HSV.out, show rowOf (p :: L.take 0) = frameOf p by simp [rowOf]]; exact ho0)
  have HZ1 := Lib.hid (show w.heap.size + 1 ≤ w1.heap.size from by rw [← HSV.out]; exact hb0.size)
  clear hn0 ho0 hb0 hy0 hy1 HP
  go_wp2_with fail
  go_loopw [3, 4] (fun v i wr => ∃ (k m : Nat) (A' : Option Addr) (c' : Nat), k ≤ n2 ∧ i = .int .i64 k ∧ v = .slice A' m c' ∧ Hid (m = (rowOf (p :: L.take k)).length) ∧ Hid (OwnB wr (w.heap.size + 1) A' c' (rowOf (p :: L.take k))) ∧ wr.cell? ⟨w.heap.size, 1, none⟩ = some (.slice A2 n2 c2) ∧ Hid (Below w.heap.size w wr) ∧ Hid (w.heap.size + 1 ≤ wr.heap.size)) (fun _ i _ => n2 - (intOf i).toNat)
  case atStart => exact ⟨0, n0, A0, c0, Nat.zero_le _, rfl, rfl, HN0, HO0, hx1, HB1, HZ1⟩
  case round =>
    obtain ⟨k, m, A', c', hk, rfl, rfl, HM, HO, hx, HB, HZ⟩ := hrel
    by_cases hlt : k < n2
    · have h1 : k < L.length := by rw [← HN.out]; exact hlt
      obtain ⟨ad, A3, c3, rfl, hc, hr1⟩ := (H2.out.below (HB.out.mono hB)).at_ h1
      obtain ⟨r, hre⟩ : ∃ r, r = L[k] := ⟨_, rfl⟩
      rw [← hre] at hc hr1
      have hT : L.take (k + 1) = L.take k ++ [r] := by rw [hre]; exact List.take_succ_eq_append_getElem h1
      have hk3 : 12 + r.length ≤ (rowOf L).length := rowOf_mem_le (by rw [hre]; exact List.getElem_mem h1)
      have hk4 := rowOf_take_le L k
      have hk5 : (rowOf (p :: L.take k)).length = (12 + p.length) + (rowOf (L.take k)).length := by rw [rowOf_cons, List.length_append, frameOf_length]
      have HLn := Lib.hid (show r.length ≤ 1000000 ∧ (rowOf (p :: L.take k)).length + (frameOf r).length ≤ 3000000 from by have := HL.out; rw [frameOf_length]; omega)
      have HT := Lib.hid hT
      have hk0 : (0 : Int) ≤ k := by omega
      have hk1 : (k : Int) < n2 := by omega
      clear hre hT hk3 hk4 hk5
      go_wp2_with fail
      refine (ref_frame_any wr (c2 := c3) rfl hr1 (Nat.le_trans hB HB.out.size) (by have := HLn.out; omega)).mono ?_
      rintro e w2 ⟨A4, c4, n4, rfl, hn4, ho4, hb4⟩
      have hx2 := keepc hx hb4
      have hbz := HB.out.trans (hb4.mono HB.out.size)
      have hz : w.heap.size + 1 ≤ w2.heap.size := Nat.le_trans HZ.out hb4.size
      have hod := own_below HO.out hb4 (Nat.le_refl _)
      obtain ⟨A5, c5, w5, hrun, ho5, hu5⟩ := append_bytes w2 (w.heap.size + 1) HM.out hod hn4 (c2 := c4) ho4.rd (by have := HLn.out; omega) hz
      have hb5 : Below (w.heap.size + 1) w2 w5 := hu5.below_own hod hz
      rw [← rowOf_snoc, List.cons_append, ← HT.out] at hrun ho5
      obtain ⟨n5, hn5⟩ : ∃ x, x = (rowOf (p :: L.take (k + 1))).length := ⟨_, rfl⟩
      rw [← hn5] at hrun
      have HN5 := Lib.hid hn5
      have HO5 := Lib.hid ho5
      have hx5 := (World.cell?_of_block (a := ⟨w.heap.size, 1, none⟩) (hb5.block w.heap.size (by omega))).trans hx2
      have HB5 := Lib.hid (hbz.trans (hb5.mono (by omega)))
      have HZ5 := Lib.hid (Nat.le_trans hz hb5.size)
      clear hn5 ho5 hn4 ho4 hb4 hod hu5 hb5 hbz hz hx
      go_wp2_with (at_builtin; refine wpList_append_run rfl rfl rfl rfl hrun ?_; clear hrun)
      go_roundw
      case rel => exact ⟨k + 1, n5, A5, c5, by omega, by go_num, rfl, HN5, HO5, hx5, HB5, HZ5⟩
      case measure => simp [intOf] <;> omega
    · have e : L.take k = L := List.take_of_length_le (by rw [← HN.out]; omega)
      rw [e] at HM HO
      clear e
      go_wp2_with fail
      go_ret
      exact ⟨A', c', m, rfl, HM.out, own_base HO.out (Nat.le_add_right _ _), HB.out⟩
end Go.Proofs.Ytjipjfionelpkaa.wl
