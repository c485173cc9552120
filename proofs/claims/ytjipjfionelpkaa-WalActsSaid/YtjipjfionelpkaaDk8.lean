/- What a clone of a disk's state is. -/
import Derived.Test.YtjipjfionelpkaaDk7
namespace Go.Proofs.Ytjipjfionelpkaa.dk
open Go.RowKit Go.Proofs.Ytjipjfionelpkaa.lib Go.Proofs.Ytjipjfionelpkaa.byt
set_option linter.unusedVariables false

def FarB (A A' : Option Addr) : Prop := ∀ b, A.map (·.block) = some b → A'.map (·.block) ≠ some b
theorem own_low {w : World} {B : Nat} {A : Option Addr} {c : Nat} {bs : List UInt8} (h : OwnB w B A c bs) {p : Addr} (hp : p.block < B) (u : Value) : OwnB (w.setCell p u) B A c bs :=
  ownsRow_setCell_other h (fun e => by have := (h.lt _ e).1; omega) u
set_option maxRecDepth 10000 in
set_option maxHeartbeats 4000000 in
theorem clone_any (w : World) {d q n0 n1 c0 c1 : Nat} {A0 A1 : Option Addr} {b0 b1 : List UInt8} (f : Int) (h0 : w.cell? ⟨d, q, none⟩ = some (.slice A0 n0 c0)) (h1 : w.cell? ⟨d, q + 1, none⟩ = some (.slice A1 n1 c1)) (h2 : w.cell? ⟨d, q + 2, none⟩ = some (.int .i64 f)) (hn0 : n0 = b0.length) (hn1 : n1 = b1.length) (hr0 : RdB w w.heap.size A0 b0) (hr1 : RdB w w.heap.size A1 b1) (hl0 : b0.length ≤ 1099511627776) (hl1 : b1.length ≤ 1099511627776) :
    Calls Try.prog 46 #[.pointer (some ⟨d, q, none⟩)] w fun e w' => ∃ A0' c0' A1' c1', e = .returned (.agg #[.slice A0' n0 c0', .slice A1' n1 c1', .int .i64 f]) ∧ OwnB w' w.heap.size A0' c0' b0 ∧ OwnB w' w.heap.size A1' c1' b1 ∧ FarB A0' A1' ∧ Below w.heap.size w w' := by
  have hbA : Below w.heap.size w (w.alloc (.cells #[.slice none 0 0, .slice none 0 0, .int .i64 0] 72)) := (Below.refl _ _).alloc (Nat.le_refl _) _
  have hszA : (w.alloc (.cells #[.slice none 0 0, .slice none 0 0, .int .i64 0] 72)).heap.size = w.heap.size + 1 := by simp
  have v0 := keepc h0 hbA
  have v1 := keepc h1 hbA
  have v2 := keepc h2 hbA
  have x0 : (w.alloc (.cells #[.slice none 0 0, .slice none 0 0, .int .i64 0] 72)).cell? ⟨w.heap.size, 0, none⟩ = some (.slice none 0 0) := by simp
  have x1 : (w.alloc (.cells #[.slice none 0 0, .slice none 0 0, .int .i64 0] 72)).cell? ⟨w.heap.size, 1, none⟩ = some (.slice none 0 0) := by simp
  have x2 : (w.alloc (.cells #[.slice none 0 0, .slice none 0 0, .int .i64 0] 72)).cell? ⟨w.heap.size, 2, none⟩ = some (.int .i64 0) := by simp
  have xf : ∀ j, (w.alloc (.cells #[.slice none 0 0, .slice none 0 0, .int .i64 0] 72)).frozen? ⟨w.heap.size, j, none⟩ = false := fun j => by simp
  have HN0 := Lib.hid hn0
  have HN1 := Lib.hid hn1
  clear hn0 hn1 h0 h1 h2
  go_enter Try.func46, Try.ntmps46
  go_upto_region 1 with (fail)
  go_wp2_with fail
  generalize w.alloc (.cells #[.slice none 0 0, .slice none 0 0, .int .i64 0] 72) = V at hbA hszA v0 v1 v2 x0 x1 x2 xf ⊢
  have hbD : Below V.heap.size V V.drew := below_drew (Below.refl _ _)
  have hbwV : Below w.heap.size w V.drew := below_drew hbA
  have hC0 := cloneB_any V.drew (c := c0) HN0.out (hr0.below hbwV) hbwV.size hl0
  have HC0 := Lib.hid hC0
  have hS0 : (fun X : World => (X.cell? ⟨d, q, none⟩ = some (.slice A0 n0 c0) ∧ X.cell? ⟨d, q + 1, none⟩ = some (.slice A1 n1 c1) ∧ X.cell? ⟨d, q + 2, none⟩ = some (.int .i64 f))) V.drew := ⟨v0, v1, v2⟩
  clear hC0
  refine tail.wp_region_till 18 (fun X => (X.cell? ⟨d, q, none⟩ = some (.slice A0 n0 c0) ∧ X.cell? ⟨d, q + 1, none⟩ = some (.slice A1 n1 c1) ∧ X.cell? ⟨d, q + 2, none⟩ = some (.int .i64 f))) (by kernel_rfl) ?_
  (refine tail.till_take 0 (v := ?_) rfl (by kernel_rfl) (by kernel_rfl) (by kernel_rfl) (by kernel_rfl) (by kernel_rfl) (fun _ _ _ h => h) (by rfl) (by assumption) ?_ ?_; rotate_left 1; (focus (intro X hX; obtain ⟨s1, s2, s3⟩ := hX; go_simp; with_reducible rfl)); (try simp only [Act.put, List.setIfInBounds_toArray, List.set_cons_zero, List.set_cons_succ]))
  (refine tail.till_take 1 (v := ?_) rfl (by kernel_rfl) (by kernel_rfl) (by kernel_rfl) (by kernel_rfl) (by kernel_rfl) (fun _ _ _ h => h) (by rfl) (by assumption) ?_ ?_; rotate_left 1; (focus (intro X hX; obtain ⟨s1, s2, s3⟩ := hX; go_simp; with_reducible rfl)); (try simp only [Act.put, List.setIfInBounds_toArray, List.set_cons_zero, List.set_cons_succ]))
  (refine tail.till_take 2 (v := ?_) rfl (by kernel_rfl) (by kernel_rfl) (by kernel_rfl) (by kernel_rfl) (by kernel_rfl) (fun _ _ _ h => h) (by rfl) (by assumption) ?_ ?_; rotate_left 1; (focus (intro X hX; obtain ⟨s1, s2, s3⟩ := hX; go_simp; with_reducible rfl)); (try simp only [Act.put, List.setIfInBounds_toArray, List.set_cons_zero, List.set_cons_succ]))
  (refine tail.till_take 3 (v := ?_) rfl (by kernel_rfl) (by kernel_rfl) (by kernel_rfl) (by kernel_rfl) (by kernel_rfl) (fun _ _ _ h => h) (by rfl) (by assumption) ?_ ?_; rotate_left 1; (focus (intro X hX; obtain ⟨s1, s2, s3⟩ := hX; go_simp; with_reducible rfl)); (try simp only [Act.put, List.setIfInBounds_toArray, List.set_cons_zero, List.set_cons_succ]))
  (refine tail.till_take 4 (v := ?_) rfl (by kernel_rfl) (by kernel_rfl) (by kernel_rfl) (by kernel_rfl) (by kernel_rfl) (fun _ _ _ h => h) (by rfl) (by assumption) ?_ ?_; rotate_left 1; (focus (intro X hX; obtain ⟨s1, s2, s3⟩ := hX; go_simp; with_reducible rfl)); (try simp only [Act.put, List.setIfInBounds_toArray, List.set_cons_zero, List.set_cons_succ]))
  (refine tail.till_take 6 (v := ?_) rfl (by kernel_rfl) (by kernel_rfl) (by kernel_rfl) (by kernel_rfl) (by kernel_rfl) (fun _ _ _ h => h) (by rfl) (by assumption) ?_ ?_; rotate_left 1; (focus (intro X hX; obtain ⟨s1, s2, s3⟩ := hX; go_simp; with_reducible rfl)); (try simp only [Act.put, List.setIfInBounds_toArray, List.set_cons_zero, List.set_cons_succ]))
  (refine tail.till_take 7 (v := ?_) rfl (by kernel_rfl) (by kernel_rfl) (by kernel_rfl) (by kernel_rfl) (by kernel_rfl) (fun _ _ _ h => h) (by rfl) (by assumption) ?_ ?_; rotate_left 1; (focus (intro X hX; obtain ⟨s1, s2, s3⟩ := hX; go_simp; with_reducible rfl)); (try simp only [Act.put, List.setIfInBounds_toArray, List.set_cons_zero, List.set_cons_succ]))
  (refine tail.till_take 8 (v := ?_) rfl (by kernel_rfl) (by kernel_rfl) (by kernel_rfl) (by kernel_rfl) (by kernel_rfl) (fun _ _ _ h => h) (by rfl) (by assumption) ?_ ?_; rotate_left 1; (focus (intro X hX; obtain ⟨s1, s2, s3⟩ := hX; go_simp; with_reducible rfl)); (try simp only [Act.put, List.setIfInBounds_toArray, List.set_cons_zero, List.set_cons_succ]))
  (refine tail.till_take 9 (v := ?_) rfl (by kernel_rfl) (by kernel_rfl) (by kernel_rfl) (by kernel_rfl) (by kernel_rfl) (fun _ _ _ h => h) (by rfl) (by assumption) ?_ ?_; rotate_left 1; (focus (intro X hX; obtain ⟨s1, s2, s3⟩ := hX; go_simp; with_reducible rfl)); (try simp only [Act.put, List.setIfInBounds_toArray, List.set_cons_zero, List.set_cons_succ]))
  (refine tail.till_take 10 (v := ?_) rfl (by kernel_rfl) (by kernel_rfl) (by kernel_rfl) (by kernel_rfl) (by kernel_rfl) (fun _ _ _ h => h) (by rfl) (by assumption) ?_ ?_; rotate_left 1; (focus (intro X hX; obtain ⟨s1, s2, s3⟩ := hX; go_simp; with_reducible rfl)); (try simp only [Act.put, List.setIfInBounds_toArray, List.set_cons_zero, List.set_cons_succ]))
  (refine tail.till_take 13 (v := ?_) rfl (by kernel_rfl) (by kernel_rfl) (by kernel_rfl) (by kernel_rfl) (by kernel_rfl) (fun _ _ _ h => h) (by rfl) (by assumption) ?_ ?_; rotate_left 1; (focus (intro X hX; obtain ⟨s1, s2, s3⟩ := hX; go_simp; with_reducible rfl)); (try simp only [Act.put, List.setIfInBounds_toArray, List.set_cons_zero, List.set_cons_succ]))
  (refine tail.till_take 14 (v := ?_) rfl (by kernel_rfl) (by kernel_rfl) (by kernel_rfl) (by kernel_rfl) (by kernel_rfl) (fun _ _ _ h => h) (by rfl) (by assumption) ?_ ?_; rotate_left 1; (focus (intro X hX; obtain ⟨s1, s2, s3⟩ := hX; go_simp; with_reducible rfl)); (try simp only [Act.put, List.setIfInBounds_toArray, List.set_cons_zero, List.set_cons_succ]))
  (refine tail.till_take 15 (v := ?_) rfl (by kernel_rfl) (by kernel_rfl) (by kernel_rfl) (by kernel_rfl) (by kernel_rfl) (fun _ _ _ h => h) (by rfl) (by assumption) ?_ ?_; rotate_left 1; (focus (intro X hX; obtain ⟨s1, s2, s3⟩ := hX; go_simp; with_reducible rfl)); (try simp only [Act.put, List.setIfInBounds_toArray, List.set_cons_zero, List.set_cons_succ]))
  (refine tail.till_take 16 (v := ?_) rfl (by kernel_rfl) (by kernel_rfl) (by kernel_rfl) (by kernel_rfl) (by kernel_rfl) (fun _ _ _ h => h) (by rfl) (by assumption) ?_ ?_; rotate_left 1; (focus (intro X hX; obtain ⟨s1, s2, s3⟩ := hX; go_simp; with_reducible rfl)); (try simp only [Act.put, List.setIfInBounds_toArray, List.set_cons_zero, List.set_cons_succ]))
  refine tail.till_one 5 (by kernel_rfl) rfl (fun K hK => ?_)
  go_simp
  go_at_call 43
  refine HC0.out.mono ?_
  rintro e w1 ⟨A0', c0', rfl, ho0, hb1⟩
  have hs1 := hb1.size
  have hS1 : (fun X : World => (X.cell? ⟨d, q, none⟩ = some (.slice A0 n0 c0) ∧ X.cell? ⟨d, q + 1, none⟩ = some (.slice A1 n1 c1) ∧ X.cell? ⟨d, q + 2, none⟩ = some (.int .i64 f))) w1 := ⟨keepc (W := V.drew) v0 hb1, keepc (W := V.drew) v1 hb1, keepc (W := V.drew) v2 hb1⟩
  have hbw1 : Below w.heap.size w w1 := hbwV.trans (hb1.mono hbwV.size)
  have hC1 := cloneB_any w1 (c := c1) HN1.out (hr1.below hbw1) hbw1.size hl1
  have HC1 := Lib.hid hC1
  have HO0 := Lib.hid ho0
  clear hC1 ho0 HC0
  first
    | refine hK.out _ _ (fun _ => hS1) ?_
    | (go_simp; refine hK.out _ _ (fun _ => hS1) ?_)
  clear hK K
  try simp only [Act.put, List.setIfInBounds_toArray, List.set_cons_zero, List.set_cons_succ]
  refine tail.till_one 11 (by kernel_rfl) rfl (fun K hK => ?_)
  go_simp
  go_at_call 43
  refine HC1.out.mono ?_
  rintro e w2 ⟨A1', c1', rfl, ho1, hb2⟩
  have hS2 : (fun X : World => (X.cell? ⟨d, q, none⟩ = some (.slice A0 n0 c0) ∧ X.cell? ⟨d, q + 1, none⟩ = some (.slice A1 n1 c1) ∧ X.cell? ⟨d, q + 2, none⟩ = some (.int .i64 f))) w2 := ⟨keepc hS1.1 hb2, keepc hS1.2.1 hb2, keepc hS1.2.2 hb2⟩
  have hb02 : Below V.drew.heap.size V.drew w2 := hb1.trans (hb2.mono hs1)
  have z0 : w2.cell? ⟨w.heap.size, 0, none⟩ = some (.slice none 0 0) := keepc (W := V.drew) x0 hb02
  have z1 : w2.cell? ⟨w.heap.size, 1, none⟩ = some (.slice none 0 0) := keepc (W := V.drew) x1 hb02
  have z2 : w2.cell? ⟨w.heap.size, 2, none⟩ = some (.int .i64 0) := keepc (W := V.drew) x2 hb02
  have zf : ∀ j, w2.frozen? ⟨w.heap.size, j, none⟩ = false := fun j => by rw [hb02.frozen (show w.heap.size < V.heap.size by omega)]; exact xf j
  have HO02 := Lib.hid (own_below HO0.out hb2 (Nat.le_refl _))
  have HO1 := Lib.hid ho1
  have HAP := Lib.hid (show FarB A0' A1' from fun b hb hb' => by
    have := (own_lt HO0.out hb).2
    have := (own_lt ho1 hb').1
    omega)
  have hbw2 : Below w.heap.size w w2 := hbw1.trans (hb2.mono hbw1.size)
  have HSV := Lib.hid (show w.heap.size + 1 = V.drew.heap.size ∧ V.drew.heap.size ≤ w1.heap.size from ⟨hszA.symm, hs1⟩)
  clear ho1 HO0 HC1
  first
    | refine hK.out _ _ (fun _ => hS2) ?_
    | (go_simp; refine hK.out _ _ (fun _ => hS2) ?_)
  clear hK K
  try simp only [Act.put, List.setIfInBounds_toArray, List.set_cons_zero, List.set_cons_succ]
  (refine tail.till_take 12 (v := ?_) rfl (by kernel_rfl) (by kernel_rfl) (by kernel_rfl) (by kernel_rfl) (by kernel_rfl) (fun _ _ _ h => h) (by rfl) (by assumption) ?_ ?_; rotate_left 1; (focus (intro X hX; obtain ⟨s1, s2, s3⟩ := hX; go_simp; with_reducible rfl)); (try simp only [Act.put, List.setIfInBounds_toArray, List.set_cons_zero, List.set_cons_succ]))
  (refine tail.till_take 17 (v := ?_) rfl (by kernel_rfl) (by kernel_rfl) (by kernel_rfl) (by kernel_rfl) (by kernel_rfl) (fun _ _ _ h => h) (by rfl) (by assumption) ?_ ?_; rotate_left 1; (focus (intro X hX; obtain ⟨s1, s2, s3⟩ := hX; go_simp; with_reducible rfl)); (try simp only [Act.put, List.setIfInBounds_toArray, List.set_cons_zero, List.set_cons_succ]))
  clear v0 v1 v2 x0 x1 x2 xf hszA hS0 hS1 hb1 hb2 hb02 hbD hbA
  refine tail.till_one 18 (by kernel_rfl) rfl (fun K hK => ?_)
  go_simp
  refine hK.out _ _ (fun h => absurd rfl h) ?_
  clear hK K
  refine tail.till_done (by kernel_rfl) ?_ _
  go_wp2_with fail
  refine bodyPost_ret (v := .agg #[.slice A0' n0 c0', .slice A1' n1 c1', .int .i64 f]) ?_ rfl ⟨A0', c0', A1', c1', rfl, ?_, ?_, HAP.out, ?_⟩
  · rw [results_cell_one rfl]
    go_simp
    first | done | rfl
  · have hsv := HSV.out
    exact own_base (own_low (own_low (own_low HO02.out (by simp only; omega) _) (by simp only; omega) _) (by simp only; omega) _) (show w.heap.size ≤ V.drew.heap.size by omega)
  · have hsv := HSV.out
    exact own_base (own_low (own_low (own_low HO1.out (by simp only; omega) _) (by simp only; omega) _) (by simp only; omega) _) (show w.heap.size ≤ w1.heap.size by omega)
  · repeat (with_reducible refine Below.setCell ?_ (by simp only; omega) _)
    exact hbw2
end Go.Proofs.Ytjipjfionelpkaa.dk
