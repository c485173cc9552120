/- What a change that is loose does to a disk. -/
import Derived.Test.YtjipjfionelpkaaDk4
namespace Go.Proofs.Ytjipjfionelpkaa.dk
open Go.RowKit Go.Proofs.Ytjipjfionelpkaa.lib Go.Proofs.Ytjipjfionelpkaa.byt
set_option linter.unusedVariables false

theorem isArea_any (w : World) (a : Int) : Calls Try.prog 44 #[.int .i64 a] w fun e w' => e = .returned (.bool (decide (a = 0 ∨ a = 1))) ∧ w = w' := by
  by_cases h0 : a = 0
  · subst h0
    go_enter Try.func44, Try.ntmps44
    go_wp2_with fail
    go_ret
    exact ⟨rfl, rfl⟩
  · by_cases h1 : a = 1
    · subst h1
      go_enter Try.func44, Try.ntmps44
      go_wp2_with fail
      go_ret
      exact ⟨rfl, rfl⟩
    · have q0 : (a == 0) = false := by simpa using h0
      have q1 : (a == 1) = false := by simpa using h1
      have HD := Lib.hid (show decide (a = 0 ∨ a = 1) = false from decide_eq_false (by omega))
      go_enter Try.func44, Try.ntmps44
      go_wp2_with fail
      go_ret
      exact ⟨by rw [HD.out]; rfl, rfl⟩

section
variable {w w' : World} {F G : Nat → Prop} {d : Nat} {s : DS} {A : Nat → Option Addr} {c : Nat → Nat} {AL : Option Addr} {cL : Nat} {H : List Hd}
/-- The loose changes have got one more. -/
theorem DiskP.push (h : DiskP w F G d s A c AL cL H) {AL' : Option Addr} {cL' n k : Nat} (hn : n = s.lo.length) (hu : Upd w w' AL k AL') {hd : Hd} {p : Pk} (ho : w'.ownsRow 0 79 3 (.slice AL' (n + 1) cL') (n + 1) (pkV (H ++ [hd]))) (e1 : hd.1 = p.1) (e2 : hd.2.1 = p.2.1) (he : ElemD w G d A AL hd.2.2 p.2.2) :
    DiskP (w'.setCell ⟨d, 6, none⟩ (.slice AL' (n + 1) cL')) F G d { s with lo := s.lo ++ [p] } A c AL' cL' (H ++ [hd]) := by
  subst hn
  have hdl := h.dlt
  have hd' : w'.heap[d]? = some (.cells (dcells A c AL cL s) 75 (0, 0)) := (hu.grown.block d hdl (fun e => h.rowd e.symm)).trans h.cells
  have hnew := upd_new hu
  have hlen : (s.lo ++ [p]).length = s.lo.length + 1 := by simp
  have hALd : AL'.map (·.block) ≠ some d := fun e => by
    rcases hnew d e with h1 | h1
    · exact h.rowd h1
    · omega
  have hALF : ∀ b, AL'.map (·.block) = some b → ¬ F b := fun b e hf => by
    rcases hnew b e with h1 | h1
    · exact h.rowF b h1 hf
    · have := h.flt b hf; omega
  have hel : ∀ v r, ElemD w G d A AL v r → ElemD (w'.setCell ⟨d, 6, none⟩ (.slice AL' (s.lo.length + 1) cL')) G d A AL' v r := fun v r hv => by
    refine hv.keep (by simpa using hu.size) (fun q hlt hqd _ hql => ?_) fun q hlt hqd hqk hql => ⟨hqk, fun e => ?_⟩
    · rw [heap_setCell_other w' ⟨d, 6, none⟩ q _ (fun e => hqd e)]
      exact hu.grown.block q hlt (Ne.symm hql)
    · rcases hnew q e with h3 | h3
      · exact hql h3
      · omega
  refine ⟨?_, h.base, h.ebase, fun b hb => by have := h.flt b hb; have := hu.size; simp; omega, fun k hk => ?_, h.notd, h.notF, h.apart, ?_, hALd, hALF, fun k hk b hb e => ?_, by simp [h.hlen], fun i h1 h2 => ?_⟩
  · rw [heap_setCell_same w' d 6 _ _ _ hd']
    congr 1
    simp [dcells]
  · exact row_set (OwnB.keepU (h.own k hk) hu.grown fun b hb => h.rowa k hk b hb) (h.notd k hk) _
  · rw [hlen]
    exact row_set ho hALd _
  · rcases hnew b e with h3 | h3
    · exact h.rowa k hk b hb h3
    · have := (own_lt (h.own k hk) hb).2; omega
  · by_cases hl : i < H.length
    · rw [List.getElem_append_left hl, List.getElem_append_left (by rw [← h.hlen]; exact hl)]
      obtain ⟨ea, eb, ee⟩ := h.elem i hl (by rw [← h.hlen]; exact hl)
      exact ⟨ea, eb, hel _ _ ee⟩
    · have e : i = H.length := by simp at h1; omega
      subst e
      rw [List.getElem_append_right (Nat.le_refl _), List.getElem_append_right (by rw [h.hlen]; exact Nat.le_refl _)]
      simp only [Nat.sub_self, h.hlen, List.getElem_cons_zero]
      exact ⟨e1, e2, hel _ _ he⟩
end
def chgS (s : DS) (p : Pk) : DS := countS { doS 2 s p with lo := s.lo ++ [p] }
theorem doS_lo (st : Nat) (s : DS) (p : Pk) : (doS st s p).lo = s.lo ∧ (doS st s p).arm = s.arm ∧ (doS st s p).left = s.left ∧ (doS st s p).down = s.down := by
  unfold doS
  split
  · exact ⟨rfl, rfl, rfl, rfl⟩
  · split
    · exact ⟨rfl, rfl, rfl, rfl⟩
    · split <;> exact ⟨rfl, rfl, rfl, rfl⟩

set_option maxRecDepth 10000 in
set_option maxHeartbeats 4000000 in
theorem change_any (w : World) {F G : Nat → Prop} {d m cb : Nat} {s : DS} {A : Nat → Option Addr} {c : Nat → Nat} {AL Ab : Option Addr} {cL : Nat} {H : List Hd} (h : DiskP w F G d s A c AL cL H) (hok : OkS s) (p : Pk) (hk : p.1 = 0 ∨ p.1 = 1 ∨ p.1 = 2) (hm : m = p.2.2.length) (he : ElemD w G d A AL (.slice Ab m cb) p.2.2) (hs : ∀ k, k < 4 → (s.by_ k).length + p.2.2.length ≤ 1099511627776) (hlo : s.lo.length ≤ 1099511627770) (code : Int) (s' : DS) (hcode : (code, s') = if p.2.1 = 0 ∨ p.2.1 = 1 then (if s.down = true then (4, s) else (0, chgS s p)) else (1, s)) :
    Calls Try.prog 42 #[.pointer (some ⟨d, 0, none⟩), .agg #[.int .i64 p.1, .int .i64 p.2.1, .slice Ab m cb]] w fun e w' => e = .returned (.int .i64 code) ∧ DiskM w' F G d s' ∧ BelF F w w' := by
  obtain ⟨p1, p2, b⟩ := p
  simp only at hk hm he hs hcode ⊢
  have HM := Lib.hid hm
  clear hm
  have hdl := h.dlt
  have hBd := h.base
  have hbA : Below w.heap.size w (w.alloc (.cells #[.int .i64 p1, .int .i64 p2, .slice Ab m cb] 79)) := (Below.refl _ _).alloc (Nat.le_refl _) _
  have v0 : (w.alloc (.cells #[.int .i64 p1, .int .i64 p2, .slice Ab m cb] 79)).cell? ⟨w.heap.size, 0, none⟩ = some (.int .i64 p1) := by simp
  have v1 : (w.alloc (.cells #[.int .i64 p1, .int .i64 p2, .slice Ab m cb] 79)).cell? ⟨w.heap.size, 1, none⟩ = some (.int .i64 p2) := by simp
  have v2 : (w.alloc (.cells #[.int .i64 p1, .int .i64 p2, .slice Ab m cb] 79)).cell? ⟨w.heap.size, 2, none⟩ = some (.slice Ab m cb) := by simp
  have c9 : (w.alloc (.cells #[.int .i64 p1, .int .i64 p2, .slice Ab m cb] 79)).cell? ⟨d, 9, none⟩ = some (.bool s.down) := keepc (by rw [cell_d h]; rfl) hbA
  have hA := h.below hbA (Nat.le_refl _)
  have heA := he.below hbA (Nat.le_refl _)
  have hszA : (w.alloc (.cells #[.int .i64 p1, .int .i64 p2, .slice Ab m cb] 79)).heap.size = w.heap.size + 1 := by simp
  by_cases ha : p2 = 0 ∨ p2 = 1
  case neg =>
    rw [if_neg ha] at hcode
    injection hcode with hc1 hc2
    subst hc1 hc2
    have HA := Lib.hid hA
    have HI := Lib.hid (isArea_any (w.alloc (.cells #[.int .i64 p1, .int .i64 p2, .slice Ab m cb] 79)) p2)
    have HD := Lib.hid (show decide (p2 = 0 ∨ p2 = 1) = false from decide_eq_false ha)
    go_enter Try.func42, Try.ntmps42
    go_wp2_with fail
    refine (isArea_any _ p2).mono ?_
    rintro e w' ⟨rfl, rfl⟩
    rw [HD.out]
    go_wp2_with fail
    go_ret
    exact ⟨rfl, HA.out.mem, BelF.of hbA (Nat.le_refl _)⟩
  case pos =>
  rw [if_pos ha] at hcode
  have HD := Lib.hid (show decide (p2 = 0 ∨ p2 = 1) = true from decide_eq_true ha)
  obtain ⟨dn, hdn⟩ : ∃ b, b = s.down := ⟨_, rfl⟩
  rw [← hdn] at c9 hcode
  cases dn with
  | true =>
    rw [if_pos rfl] at hcode
    injection hcode with hc1 hc2
    subst hc1 hc2
    have HA := Lib.hid hA
    clear hdn
    go_enter Try.func42, Try.ntmps42
    go_wp2_with fail
    refine (isArea_any _ p2).mono ?_
    rintro e w' ⟨rfl, rfl⟩
    rw [HD.out]
    go_wp2_with fail
    go_ret
    exact ⟨rfl, HA.out.mem, BelF.of hbA (Nat.le_refl _)⟩
  | false =>
    rw [if_neg (by decide)] at hcode
    injection hcode with hc1 hc2
    subst hc1
    have hk4 : 2 + p2.toNat < 4 := by omega
    obtain ⟨Ai, ci, e1, hrb, hcap, hab⟩ := heA
    injection e1 with e1 e4 e3
    subst e1 e3
    clear e4
    have hbD : Below w.heap.size w (w.alloc (.cells #[.int .i64 p1, .int .i64 p2, .slice Ab m cb] 79)).drew := below_drew hbA
    have hDo := do_any (w.alloc (.cells #[.int .i64 p1, .int .i64 p2, .slice Ab m cb] 79)).drew (h.below hbD (Nat.le_refl _)) 2 (.inr rfl) (p1, p2, b) ⟨hk, ha⟩ HM.out hrb (Nat.le_refl _) (hs _ hk4) 3 rfl (cb := cb)
    have HDO := Lib.hid hDo
    have HEA := Lib.hid (show ElemD (w.alloc (.cells #[.int .i64 p1, .int .i64 p2, .slice Ab m cb] 79)).drew G d A AL (.slice Ab m cb) b from he.below hbD (Nat.le_refl _))
    have hrows : ∀ k, k < 4 → (A k).map (·.block) ≠ some w.heap.size := fun k hk e => by have := (own_lt (h.own k hk) e).2; omega
    have HR := Lib.hid hrows
    clear hDo hrb hab hcap hrows hdn
    go_enter Try.func42, Try.ntmps42
    go_wp2_with fail
    refine (isArea_any _ p2).mono ?_
    rintro e w' ⟨rfl, rfl⟩
    rw [HD.out]
    go_wp2_with fail
    go_region_law (go_simp; go_at_call 45; refine (HDO.out).mono ?_; rintro e w1 ⟨rfl, A1, c1, h1, hb1, hel, hfr⟩)
    have hfb : w1.heap[w.heap.size]? = (w.alloc (.cells #[.int .i64 p1, .int .i64 p2, .slice Ab m cb] 79)).heap[w.heap.size]? := hfr _ (by rw [show (w.alloc (.cells #[.int .i64 p1, .int .i64 p2, .slice Ab m cb] 79)).drew.heap.size = w.heap.size + 1 from hszA]; omega) (by omega) HR.out
    have b0 : w1.cell? ⟨w.heap.size, 0, none⟩ = some (.int .i64 p1) := (World.cell?_of_block hfb).trans v0
    have b1 : w1.cell? ⟨w.heap.size, 1, none⟩ = some (.int .i64 p2) := (World.cell?_of_block hfb).trans v1
    have b2 : w1.cell? ⟨w.heap.size, 2, none⟩ = some (.slice Ab m cb) := (World.cell?_of_block hfb).trans v2
    obtain ⟨n, hn⟩ : ∃ n, n = s.lo.length := ⟨_, rfl⟩
    obtain ⟨l1, l2, l3, l4⟩ := doS_lo 2 s (p1, p2, b)
    have b6 : w1.cell? ⟨d, 6, none⟩ = some (.slice AL n cL) := by rw [cell_d h1, hn]; simp [dcells, l1]
    have f6 := frozen_d h1 6
    have hE1 := hel _ _ HEA.out
    have hwx : Below w1.heap.size w1 (w1.alloc (.cells #[.int .i64 p1, .int .i64 p2, .slice Ab m cb] 79)).drew := below_drew ((Below.refl _ _).alloc (Nat.le_refl _) _)
    have hrow : w1.ownsRow 0 79 3 (.slice AL n cL) n (pkV H) := by have := h1.row; rw [l1, ← hn] at this; exact this
    have hrd := dk.Reads.new_row' w1 3 1 #[.int .i64 p1, .int .i64 p2, .slice Ab m cb] 79 (pkV [(p1, p2, .slice Ab m cb)]) rfl rfl
    obtain ⟨AL', cL', w3, hrun, ho3, hu3, hb3⟩ := append_pk (w1.alloc (.cells #[.int .i64 p1, .int .i64 p2, .slice Ab m cb] 79)).drew 0 (show (w1.alloc (.cells #[.int .i64 p1, .int .i64 p2, .slice Ab m cb] 79)).drew.ownsRow 0 79 3 (.slice AL n cL) n (pkV H) from World.ownsRow.alloc hrow _) (m := 1) (c2 := 1) hrd (by intro u hu; simp [pkV] at hu; rcases hu with rfl | rfl | rfl <;> rfl) (by omega) (by have := hwx.size; have := h1.dlt; omega)
    have hALt : ∀ ad, AL = some ad → ad.block < w1.heap.size := fun ad e => (own_row h1.row (by rw [e]; rfl)).2
    have hu13 : Upd w1 w3 AL 0 AL' := (Upd.of_below (k := 0) hwx hALt).trans hu3 (Nat.zero_le _) hALt
    have hpush := h1.push (p := (p1, p2, b)) (hd := (p1, p2, .slice Ab m cb)) (by rw [l1]; exact hn) hu13 ho3 rfl rfl hE1
    have hcnt := count_any _ hpush (s := { doS 2 s (p1, p2, b) with lo := (doS 2 s (p1, p2, b)).lo ++ [(p1, p2, b)] }) (fun e => by have := hok (by rw [← l2]; exact e); rw [show ({ doS 2 s (p1, p2, b) with lo := (doS 2 s (p1, p2, b)).lo ++ [(p1, p2, b)] } : DS).left = s.left from l3]; exact this)
    have k0 : (w1.alloc (.cells #[.int .i64 p1, .int .i64 p2, .slice Ab m cb] 79)).drew.cell? ⟨w.heap.size, 0, none⟩ = some (.int .i64 p1) := keepc b0 hwx
    have k1 : (w1.alloc (.cells #[.int .i64 p1, .int .i64 p2, .slice Ab m cb] 79)).drew.cell? ⟨w.heap.size, 1, none⟩ = some (.int .i64 p2) := keepc b1 hwx
    have k2 : (w1.alloc (.cells #[.int .i64 p1, .int .i64 p2, .slice Ab m cb] 79)).drew.cell? ⟨w.heap.size, 2, none⟩ = some (.slice Ab m cb) := keepc b2 hwx
    have k6 : (w1.alloc (.cells #[.int .i64 p1, .int .i64 p2, .slice Ab m cb] 79)).drew.cell? ⟨d, 6, none⟩ = some (.slice AL n cL) := keepc b6 hwx
    have hwl : w.heap.size < w1.heap.size := World.block_lt_of_cell? w1 ⟨w.heap.size, 0, none⟩ b0
    have hnr : AL.map (·.block) ≠ some w.heap.size := fun e => by have := (own_row h.row e).2; omega
    have hgb : w3.heap[w.heap.size]? = (w1.alloc (.cells #[.int .i64 p1, .int .i64 p2, .slice Ab m cb] 79)).drew.heap[w.heap.size]? := hu3.grown.block _ (by have := hwx.size; omega) (Ne.symm hnr)
    have j0 : w3.cell? ⟨w.heap.size, 0, none⟩ = some (.int .i64 p1) := (World.cell?_of_block hgb).trans k0
    have j1 : w3.cell? ⟨w.heap.size, 1, none⟩ = some (.int .i64 p2) := (World.cell?_of_block hgb).trans k1
    have j2 : w3.cell? ⟨w.heap.size, 2, none⟩ = some (.slice Ab m cb) := (World.cell?_of_block hgb).trans k2
    have hgd : w3.heap[d]? = (w1.alloc (.cells #[.int .i64 p1, .int .i64 p2, .slice Ab m cb] 79)).drew.heap[d]? := hu3.grown.block _ (by have := hwx.size; have := h1.dlt; omega) (Ne.symm h.rowd)
    have j6 : w3.cell? ⟨d, 6, none⟩ = some (.slice AL n cL) := (World.cell?_of_block hgd).trans k6
    have jf : w3.frozen? ⟨d, 6, none⟩ = false := (World.frozen?_of_block hgd).trans (by rw [hwx.frozen (by simpa using h1.dlt)]; exact f6)
    have HRUN := Lib.hid hrun
    have HCNT := Lib.hid hcnt
    have hbf : BelF F w w3 := ((BelF.of hbD (Nat.le_refl _)).trans hb1).trans ((BelF.of hwx (Nat.le_refl _)).trans (BelF.grown hu3.grown h.rowF))
    have HS := Lib.hid (show ({ doS 2 s (p1, p2, b) with lo := (doS 2 s (p1, p2, b)).lo ++ [(p1, p2, b)] } : DS) = { doS 2 s (p1, p2, b) with lo := s.lo ++ [(p1, p2, b)] } from by rw [l1])
    have HN := Lib.hid hn
    clear hn hrun hcnt hpush hu13 hu3 ho3 hrd hrow hE1 hel hfr HDO HEA HR hgb hgd hb3 hb1 hok h h1 hA he l1 l2 l3 l4
    have hS0 : (fun X : World => (X.cell? ⟨w.heap.size, 0, none⟩ = some (.int .i64 p1) ∧ X.cell? ⟨w.heap.size, 1, none⟩ = some (.int .i64 p2) ∧ X.cell? ⟨w.heap.size, 2, none⟩ = some (.slice Ab m cb) ∧ X.cell? ⟨d, 6, none⟩ = some (.slice AL n cL))) w1.drew := ⟨b0, b1, b2, b6⟩
    have hS1 : (fun X : World => (X.cell? ⟨w.heap.size, 0, none⟩ = some (.int .i64 p1) ∧ X.cell? ⟨w.heap.size, 1, none⟩ = some (.int .i64 p2) ∧ X.cell? ⟨w.heap.size, 2, none⟩ = some (.slice Ab m cb) ∧ X.cell? ⟨d, 6, none⟩ = some (.slice AL n cL))) (w1.alloc (.cells #[.int .i64 p1, .int .i64 p2, .slice Ab m cb] 79)).drew := ⟨k0, k1, k2, k6⟩
    have hS2 : (fun X : World => (X.cell? ⟨w.heap.size, 0, none⟩ = some (.int .i64 p1) ∧ X.cell? ⟨w.heap.size, 1, none⟩ = some (.int .i64 p2) ∧ X.cell? ⟨w.heap.size, 2, none⟩ = some (.slice Ab m cb) ∧ X.cell? ⟨d, 6, none⟩ = some (.slice AL n cL))) w3 := ⟨j0, j1, j2, j6⟩
    clear b0 b1 b2 b6 k0 k1 k2 k6 j0 j1 j2
    go_wp2_with fail
    refine tail.wp_region_till 10 (fun X => (X.cell? ⟨w.heap.size, 0, none⟩ = some (.int .i64 p1) ∧ X.cell? ⟨w.heap.size, 1, none⟩ = some (.int .i64 p2) ∧ X.cell? ⟨w.heap.size, 2, none⟩ = some (.slice Ab m cb) ∧ X.cell? ⟨d, 6, none⟩ = some (.slice AL n cL))) (by kernel_rfl) ?_
    (refine tail.till_take 0 (v := ?_) rfl (by kernel_rfl) (by kernel_rfl) (by kernel_rfl) (by kernel_rfl) (by kernel_rfl) (fun _ _ _ h => h) (by rfl) (by assumption) ?_ ?_; rotate_left 1; (focus (intro X hX; obtain ⟨s1, s2, s3, s4⟩ := hX; go_simp; with_reducible rfl)); (try simp only [Act.put, List.setIfInBounds_toArray, List.set_cons_zero, List.set_cons_succ]))
    (refine tail.till_take 1 (v := ?_) rfl (by kernel_rfl) (by kernel_rfl) (by kernel_rfl) (by kernel_rfl) (by kernel_rfl) (fun _ _ _ h => h) (by rfl) (by assumption) ?_ ?_; rotate_left 1; (focus (intro X hX; obtain ⟨s1, s2, s3, s4⟩ := hX; go_simp; with_reducible rfl)); (try simp only [Act.put, List.setIfInBounds_toArray, List.set_cons_zero, List.set_cons_succ]))
    (refine tail.till_take 2 (v := ?_) rfl (by kernel_rfl) (by kernel_rfl) (by kernel_rfl) (by kernel_rfl) (by kernel_rfl) (fun _ _ _ h => h) (by rfl) (by assumption) ?_ ?_; rotate_left 1; (focus (intro X hX; obtain ⟨s1, s2, s3, s4⟩ := hX; go_simp; with_reducible rfl)); (try simp only [Act.put, List.setIfInBounds_toArray, List.set_cons_zero, List.set_cons_succ]))
    (refine tail.till_take 3 (v := ?_) rfl (by kernel_rfl) (by kernel_rfl) (by kernel_rfl) (by kernel_rfl) (by kernel_rfl) (fun _ _ _ h => h) (by rfl) (by assumption) ?_ ?_; rotate_left 1; (focus (intro X hX; obtain ⟨s1, s2, s3, s4⟩ := hX; go_simp; with_reducible rfl)); (try simp only [Act.put, List.setIfInBounds_toArray, List.set_cons_zero, List.set_cons_succ]))
    (refine tail.till_take 4 (v := ?_) rfl (by kernel_rfl) (by kernel_rfl) (by kernel_rfl) (by kernel_rfl) (by kernel_rfl) (fun _ _ _ h => h) (by rfl) (by assumption) ?_ ?_; rotate_left 1; (focus (intro X hX; obtain ⟨s1, s2, s3, s4⟩ := hX; go_simp; with_reducible rfl)); (try simp only [Act.put, List.setIfInBounds_toArray, List.set_cons_zero, List.set_cons_succ]))
    (refine tail.till_take 5 (v := ?_) rfl (by kernel_rfl) (by kernel_rfl) (by kernel_rfl) (by kernel_rfl) (by kernel_rfl) (fun _ _ _ h => h) (by rfl) (by assumption) ?_ ?_; rotate_left 1; (focus (intro X hX; obtain ⟨s1, s2, s3, s4⟩ := hX; go_simp; with_reducible rfl)); (try simp only [Act.put, List.setIfInBounds_toArray, List.set_cons_zero, List.set_cons_succ]))
    refine tail.till_one 6 (by kernel_rfl) rfl (fun K hK => ?_)
    go_simp
    refine hK.out _ _ (fun _ => hS1) ?_
    clear hK K
    refine tail.till_one 7 (by kernel_rfl) rfl (fun K hK => ?_)
    refine step_append_run rfl rfl rfl rfl HRUN.out ?_
    refine hK.out _ _ (fun _ => hS2) ?_
    clear hK K
    try simp only [Act.put, List.setIfInBounds_toArray, List.set_cons_zero, List.set_cons_succ]
    (refine tail.till_take 8 (v := ?_) rfl (by kernel_rfl) (by kernel_rfl) (by kernel_rfl) (by kernel_rfl) (by kernel_rfl) (fun _ _ _ h => h) (by rfl) (by assumption) ?_ ?_; rotate_left 1; (focus (intro X hX; obtain ⟨s1, s2, s3, s4⟩ := hX; go_simp; with_reducible rfl)); (try simp only [Act.put, List.setIfInBounds_toArray, List.set_cons_zero, List.set_cons_succ]))
    (refine tail.till_take 9 (v := ?_) rfl (by kernel_rfl) (by kernel_rfl) (by kernel_rfl) (by kernel_rfl) (by kernel_rfl) (fun _ _ _ h => h) (by rfl) (by assumption) ?_ ?_; rotate_left 1; (focus (intro X hX; obtain ⟨s1, s2, s3, s4⟩ := hX; go_simp; with_reducible rfl)); (try simp only [Act.put, List.setIfInBounds_toArray, List.set_cons_zero, List.set_cons_succ]))
    refine tail.till_one 10 (by kernel_rfl) rfl (fun K hK => ?_)
    go_simp
    refine hK.out _ _ (fun h => absurd rfl h) ?_
    clear hK K
    refine tail.till_done (by kernel_rfl) ?_ _
    go_wp2_with fail
    refine HCNT.out.mono ?_
    rintro e w5 ⟨rfl, h5, hb5⟩
    rw [HS.out] at h5
    have H5 := Lib.hid h5
    have hbz : BelF F w w5 := (hbf.setCell hBd _).trans hb5
    clear h5 hb5 HCNT
    go_wp2_with fail
    go_ret
    exact ⟨rfl, by rw [hc2]; exact H5.out.mem, hbz⟩
end Go.Proofs.Ytjipjfionelpkaa.dk
