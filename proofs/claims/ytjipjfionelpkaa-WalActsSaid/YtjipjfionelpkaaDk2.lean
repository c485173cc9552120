/- What a disk's state does (do): bytes appended to an area, an area wiped, an area put in front. -/
import Derived.Test.YtjipjfionelpkaaDk1
import Derived.Test.YtjipjfionelpkaaTail
namespace Go.Proofs.Ytjipjfionelpkaa.dk
open Go.RowKit Go.Proofs.Ytjipjfionelpkaa.lib Go.Proofs.Ytjipjfionelpkaa.byt
set_option linter.unusedVariables false

theorem cell_d {w : World} {F G : Nat → Prop} {d : Nat} {s : DS} {A : Nat → Option Addr} {c : Nat → Nat} {AL : Option Addr} {cL : Nat} {H : List Hd} (h : DiskP w F G d s A c AL cL H) (o : Nat) : w.cell? ⟨d, o, none⟩ = (dcells A c AL cL s)[o]? := cell_of_row w d o _ _ (0, 0) h.cells
theorem frozen_d {w : World} {F G : Nat → Prop} {d : Nat} {s : DS} {A : Nat → Option Addr} {c : Nat → Nat} {AL : Option Addr} {cL : Nat} {H : List Hd} (h : DiskP w F G d s A c AL cL H) (o : Nat) : w.frozen? ⟨d, o, none⟩ = false := frozen_of_row w d o _ _ h.cells

set_option maxRecDepth 10000 in
set_option maxHeartbeats 4000000 in
theorem do_app (w : World) {B B2 d n ck m cb : Nat} {Ak Ab : Option Addr} {bs b : List UInt8} (so oo : Nat) (a : Nat) (ha : a < 2) (hoo : oo = so + a) (hn : n = bs.length) (hc : w.cell? ⟨d, oo, none⟩ = some (.slice Ak n ck)) (hf : w.frozen? ⟨d, oo, none⟩ = false) (ho : OwnB w B Ak ck bs) (hB : B ≤ w.heap.size) (hm : m = b.length) (hr : RdB w B2 Ab b) (hB2 : B2 ≤ w.heap.size) (hkd : Ak.map (·.block) ≠ some d) (hs : bs.length + b.length ≤ 1099511627776) :
    Calls Try.prog 45 #[.pointer (some ⟨d, so, none⟩), .agg #[.int .i64 0, .int .i64 a, .slice Ab m cb]] w fun e w' => e = .returned (.tuple #[]) ∧ ∃ w1 A' c', Upd w w1 Ak bs.length A' ∧ OwnB w1 B A' c' (bs ++ b) ∧ w' = w1.setCell ⟨d, oo, none⟩ (.slice A' (n + m) c') := by
  have hdl : d < w.heap.size := World.block_lt_of_cell? w ⟨d, oo, none⟩ hc
  have hbA : Below w.heap.size w (w.alloc (.cells #[.int .i64 0, .int .i64 a, .slice Ab m cb] 79)) := (Below.refl _ _).alloc (Nat.le_refl _) _
  have c1 : (w.alloc (.cells #[.int .i64 0, .int .i64 a, .slice Ab m cb] 79)).cell? ⟨w.heap.size, 0, none⟩ = some (.int .i64 0) := by simp
  have c2 : (w.alloc (.cells #[.int .i64 0, .int .i64 a, .slice Ab m cb] 79)).cell? ⟨w.heap.size, 1, none⟩ = some (.int .i64 a) := by simp
  have c3 : (w.alloc (.cells #[.int .i64 0, .int .i64 a, .slice Ab m cb] 79)).cell? ⟨w.heap.size, 2, none⟩ = some (.slice Ab m cb) := by simp
  have c4 := keepc hc hbA
  have f4 : (w.alloc (.cells #[.int .i64 0, .int .i64 a, .slice Ab m cb] 79)).frozen? ⟨d, oo, none⟩ = false := by rw [hbA.frozen (by exact hdl)]; exact hf
  have hAlt : ∀ ad, Ak = some ad → ad.block < w.heap.size := fun ad e => (own_row ho (by rw [e]; rfl)).2
  have hoA : OwnB (w.alloc (.cells #[.int .i64 0, .int .i64 a, .slice Ab m cb] 79)) B Ak ck bs := own_below ho hbA (Nat.le_refl _)
  have hrA : RdB (w.alloc (.cells #[.int .i64 0, .int .i64 a, .slice Ab m cb] 79)) B2 Ab b := hr.below (hbA.mono hB2)
  obtain ⟨A', c', w1, hrun, ho1, hu1⟩ := append_bytes (w.alloc (.cells #[.int .i64 0, .int .i64 a, .slice Ab m cb] 79)).drew B (n := n) (c := ck) hn hoA hm (c2 := cb) hrA (by omega) (by simp; omega)
  have hu : Upd w w1 Ak bs.length A' := (Upd.of_below (w' := (w.alloc (.cells #[.int .i64 0, .int .i64 a, .slice Ab m cb] 79)).drew) (below_drew hbA) hAlt).trans hu1 (Nat.le_refl _) hAlt
  have hlen : (bs ++ b).length = n + m := by rw [List.length_append, hn, hm]
  rw [hlen] at hrun
  have d1 : w1.heap[d]? = (w.alloc (.cells #[.int .i64 0, .int .i64 a, .slice Ab m cb] 79)).heap[d]? := hu1.grown.block d (by simp; omega) (fun e => hkd e.symm)
  have c5 : w1.cell? ⟨d, oo, none⟩ = some (.slice Ak n ck) := (World.cell?_of_block d1).trans c4
  have f5 : w1.frozen? ⟨d, oo, none⟩ = false := (World.frozen?_of_block d1).trans f4
  have HU := Lib.hid hu
  have HO := Lib.hid ho1
  have hc2 : w1.heap[w.heap.size]? = (w.alloc (.cells #[.int .i64 0, .int .i64 a, .slice Ab m cb] 79)).heap[w.heap.size]? := hu1.grown.block _ (by simp) (fun e => by
    have := (own_row ho e.symm).2
    omega)
  have e2 : w1.cell? ⟨w.heap.size, 1, none⟩ = some (.int .i64 a) := (World.cell?_of_block hc2).trans c2
  have e3 : w1.cell? ⟨w.heap.size, 2, none⟩ = some (.slice Ab m cb) := (World.cell?_of_block hc2).trans c3
  have ha0 : (0 : Int) ≤ a := by omega
  have ha1 : (a : Int) < 2 := by omega
  have HRUN := Lib.hid hrun
  clear hu hu1 ho1 hlen d1 hc2 hoA hrA hr ho hn hm hrun
  subst hoo
  go_enter Try.func45, Try.ntmps45
  go_wp2_with fail
  have hS0 : (fun X : World => X.cell? ⟨w.heap.size, 1, none⟩ = some (.int .i64 a) ∧ X.cell? ⟨w.heap.size, 2, none⟩ = some (.slice Ab m cb) ∧ X.cell? ⟨d, so + a, none⟩ = some (.slice Ak n ck)) (w.alloc (.cells #[.int .i64 0, .int .i64 a, .slice Ab m cb] 79)).drew := ⟨c2, c3, c4⟩
  refine tail.wp_region_till 16 (fun X => X.cell? ⟨w.heap.size, 1, none⟩ = some (.int .i64 a) ∧ X.cell? ⟨w.heap.size, 2, none⟩ = some (.slice Ab m cb) ∧ X.cell? ⟨d, so + a, none⟩ = some (.slice Ak n ck)) (by kernel_rfl) ?_
  (refine tail.till_take 0 (v := ?_) rfl (by kernel_rfl) (by kernel_rfl) (by kernel_rfl) (by kernel_rfl) (by kernel_rfl) (fun _ _ _ h => h) (by rfl) (by assumption) ?_ ?_; rotate_left 1; (focus (intro X hX; obtain ⟨s1, s2, s3⟩ := hX; go_simp; with_reducible rfl)); (try simp only [Act.put, List.setIfInBounds_toArray, List.set_cons_zero, List.set_cons_succ]))
  (refine tail.till_take 1 (v := ?_) rfl (by kernel_rfl) (by kernel_rfl) (by kernel_rfl) (by kernel_rfl) (by kernel_rfl) (fun _ _ _ h => h) (by rfl) (by assumption) ?_ ?_; rotate_left 1; (focus (intro X hX; obtain ⟨s1, s2, s3⟩ := hX; go_simp; with_reducible rfl)); (try simp only [Act.put, List.setIfInBounds_toArray, List.set_cons_zero, List.set_cons_succ]))
  (refine tail.till_take 2 (v := ?_) rfl (by kernel_rfl) (by kernel_rfl) (by kernel_rfl) (by kernel_rfl) (by kernel_rfl) (fun _ _ _ h => h) (by rfl) (by assumption) ?_ ?_; rotate_left 1; (focus (intro X hX; obtain ⟨s1, s2, s3⟩ := hX; go_simp; with_reducible rfl)); (try simp only [Act.put, List.setIfInBounds_toArray, List.set_cons_zero, List.set_cons_succ]))
  (refine tail.till_take 3 (v := ?_) rfl (by kernel_rfl) (by kernel_rfl) (by kernel_rfl) (by kernel_rfl) (by kernel_rfl) (fun _ _ _ h => h) (by rfl) (by assumption) ?_ ?_; rotate_left 1; (focus (intro X hX; obtain ⟨s1, s2, s3⟩ := hX; go_simp; with_reducible rfl)); (try simp only [Act.put, List.setIfInBounds_toArray, List.set_cons_zero, List.set_cons_succ]))
  (refine tail.till_take 4 (v := ?_) rfl (by kernel_rfl) (by kernel_rfl) (by kernel_rfl) (by kernel_rfl) (by kernel_rfl) (fun _ _ _ h => h) (by rfl) (by assumption) ?_ ?_; rotate_left 1; (focus (intro X hX; obtain ⟨s1, s2, s3⟩ := hX; go_simp; with_reducible rfl)); (try simp only [Act.put, List.setIfInBounds_toArray, List.set_cons_zero, List.set_cons_succ]))
  (refine tail.till_take 5 (v := ?_) rfl (by kernel_rfl) (by kernel_rfl) (by kernel_rfl) (by kernel_rfl) (by kernel_rfl) (fun _ _ _ h => h) (by rfl) (by assumption) ?_ ?_; rotate_left 1; (focus (intro X hX; obtain ⟨s1, s2, s3⟩ := hX; go_simp; with_reducible rfl)); (try simp only [Act.put, List.setIfInBounds_toArray, List.set_cons_zero, List.set_cons_succ]))
  (refine tail.till_take 6 (v := ?_) rfl (by kernel_rfl) (by kernel_rfl) (by kernel_rfl) (by kernel_rfl) (by kernel_rfl) (fun _ _ _ h => h) (by rfl) (by assumption) ?_ ?_; rotate_left 1; (focus (intro X hX; obtain ⟨s1, s2, s3⟩ := hX; go_simp; with_reducible rfl)); (try simp only [Act.put, List.setIfInBounds_toArray, List.set_cons_zero, List.set_cons_succ]))
  (refine tail.till_take 7 (v := ?_) rfl (by kernel_rfl) (by kernel_rfl) (by kernel_rfl) (by kernel_rfl) (by kernel_rfl) (fun _ _ _ h => h) (by rfl) (by assumption) ?_ ?_; rotate_left 1; (focus (intro X hX; obtain ⟨s1, s2, s3⟩ := hX; go_simp; with_reducible rfl)); (try simp only [Act.put, List.setIfInBounds_toArray, List.set_cons_zero, List.set_cons_succ]))
  (refine tail.till_take 8 (v := ?_) rfl (by kernel_rfl) (by kernel_rfl) (by kernel_rfl) (by kernel_rfl) (by kernel_rfl) (fun _ _ _ h => h) (by rfl) (by assumption) ?_ ?_; rotate_left 1; (focus (intro X hX; obtain ⟨s1, s2, s3⟩ := hX; go_simp; with_reducible rfl)); (try simp only [Act.put, List.setIfInBounds_toArray, List.set_cons_zero, List.set_cons_succ]))
  (refine tail.till_take 9 (v := ?_) rfl (by kernel_rfl) (by kernel_rfl) (by kernel_rfl) (by kernel_rfl) (by kernel_rfl) (fun _ _ _ h => h) (by rfl) (by assumption) ?_ ?_; rotate_left 1; (focus (intro X hX; obtain ⟨s1, s2, s3⟩ := hX; go_simp; with_reducible rfl)); (try simp only [Act.put, List.setIfInBounds_toArray, List.set_cons_zero, List.set_cons_succ]))
  (refine tail.till_take 10 (v := ?_) rfl (by kernel_rfl) (by kernel_rfl) (by kernel_rfl) (by kernel_rfl) (by kernel_rfl) (fun _ _ _ h => h) (by rfl) (by assumption) ?_ ?_; rotate_left 1; (focus (intro X hX; obtain ⟨s1, s2, s3⟩ := hX; go_simp; with_reducible rfl)); (try simp only [Act.put, List.setIfInBounds_toArray, List.set_cons_zero, List.set_cons_succ]))
  (refine tail.till_take 11 (v := ?_) rfl (by kernel_rfl) (by kernel_rfl) (by kernel_rfl) (by kernel_rfl) (by kernel_rfl) (fun _ _ _ h => h) (by rfl) (by assumption) ?_ ?_; rotate_left 1; (focus (intro X hX; obtain ⟨s1, s2, s3⟩ := hX; go_simp; with_reducible rfl)); (try simp only [Act.put, List.setIfInBounds_toArray, List.set_cons_zero, List.set_cons_succ]))
  (refine tail.till_take 13 (v := ?_) rfl (by kernel_rfl) (by kernel_rfl) (by kernel_rfl) (by kernel_rfl) (by kernel_rfl) (fun _ _ _ h => h) (by rfl) (by assumption) ?_ ?_; rotate_left 1; (focus (intro X hX; obtain ⟨s1, s2, s3⟩ := hX; go_simp; with_reducible rfl)); (try simp only [Act.put, List.setIfInBounds_toArray, List.set_cons_zero, List.set_cons_succ]))
  (refine tail.till_take 14 (v := ?_) rfl (by kernel_rfl) (by kernel_rfl) (by kernel_rfl) (by kernel_rfl) (by kernel_rfl) (fun _ _ _ h => h) (by rfl) (by assumption) ?_ ?_; rotate_left 1; (focus (intro X hX; obtain ⟨s1, s2, s3⟩ := hX; go_simp; with_reducible rfl)); (try simp only [Act.put, List.setIfInBounds_toArray, List.set_cons_zero, List.set_cons_succ]))
  refine tail.till_one 12 (by kernel_rfl) rfl (fun K hK => ?_)
  refine step_append_run rfl rfl rfl rfl HRUN.out ?_
  have hS1 : (fun X : World => X.cell? ⟨w.heap.size, 1, none⟩ = some (.int .i64 a) ∧ X.cell? ⟨w.heap.size, 2, none⟩ = some (.slice Ab m cb) ∧ X.cell? ⟨d, so + a, none⟩ = some (.slice Ak n ck)) w1 := ⟨e2, e3, c5⟩
  refine hK.out _ _ (fun _ => hS1) ?_
  clear hK K
  try simp only [Act.put, List.setIfInBounds_toArray, List.set_cons_zero, List.set_cons_succ]
  (refine tail.till_take 15 (v := ?_) rfl (by kernel_rfl) (by kernel_rfl) (by kernel_rfl) (by kernel_rfl) (by kernel_rfl) (fun _ _ _ h => h) (by rfl) (by assumption) ?_ ?_; rotate_left 1; (focus (intro X hX; obtain ⟨s1, s2, s3⟩ := hX; go_simp; with_reducible rfl)); (try simp only [Act.put, List.setIfInBounds_toArray, List.set_cons_zero, List.set_cons_succ]))
  refine tail.till_one 16 (by kernel_rfl) rfl (fun K hK => ?_)
  go_simp
  refine hK.out _ _ (fun h => absurd rfl h) ?_
  clear hK K
  refine tail.till_done (by kernel_rfl) ?_ _
  go_wp2_with fail
  exact bodyPost_end (v := .tuple #[]) (by simp [results, Try.results45]) rfl ⟨rfl, w1, A', HU.out, c', HO.out, rfl⟩
end Go.Proofs.Ytjipjfionelpkaa.dk
