/- What a disk's state does: an area wiped, put in front; the same over a whole disk. -/
import Derived.Test.YtjipjfionelpkaaDk2
namespace Go.Proofs.Ytjipjfionelpkaa.dk
open Go.RowKit Go.Proofs.Ytjipjfionelpkaa.lib Go.Proofs.Ytjipjfionelpkaa.byt
set_option linter.unusedVariables false

set_option maxHeartbeats 2000000 in
theorem do_wipe (w : World) {d m cb : Nat} {Ab : Option Addr} {old : Value} (so oo : Nat) (a : Nat) (ha : a < 2) (hoo : oo = so + a) (hc : w.cell? ⟨d, oo, none⟩ = some old) (hf : w.frozen? ⟨d, oo, none⟩ = false) :
    Calls Try.prog 45 #[.pointer (some ⟨d, so, none⟩), .agg #[.int .i64 1, .int .i64 a, .slice Ab m cb]] w fun e w' => e = .returned (.tuple #[]) ∧ ∃ w1, Below w.heap.size w w1 ∧ w' = w1.setCell ⟨d, oo, none⟩ (.slice none 0 0) := by
  have hdl : d < w.heap.size := World.block_lt_of_cell? w ⟨d, oo, none⟩ hc
  have hbA : Below w.heap.size w (w.alloc (.cells #[.int .i64 1, .int .i64 a, .slice Ab m cb] 79)) := (Below.refl _ _).alloc (Nat.le_refl _) _
  have c1 : (w.alloc (.cells #[.int .i64 1, .int .i64 a, .slice Ab m cb] 79)).cell? ⟨w.heap.size, 0, none⟩ = some (.int .i64 1) := by simp
  have c2 : (w.alloc (.cells #[.int .i64 1, .int .i64 a, .slice Ab m cb] 79)).cell? ⟨w.heap.size, 1, none⟩ = some (.int .i64 a) := by simp
  have c4 := keepc hc hbA
  have f4 : (w.alloc (.cells #[.int .i64 1, .int .i64 a, .slice Ab m cb] 79)).frozen? ⟨d, oo, none⟩ = false := by rw [hbA.frozen (by exact hdl)]; exact hf
  have ha0 : (0 : Int) ≤ a := by omega
  have ha1 : (a : Int) < 2 := by omega
  have hbD : Below w.heap.size w (w.alloc (.cells #[.int .i64 1, .int .i64 a, .slice Ab m cb] 79)).drew := below_drew hbA
  subst hoo
  go_enter Try.func45, Try.ntmps45
  go_wp2_with fail
  generalize w.alloc (.cells #[.int .i64 1, .int .i64 a, .slice Ab m cb] 79) = V at hbA c1 c2 c4 f4 hbD ⊢
  go_region
  go_wp2_with fail
  exact bodyPost_end (v := .tuple #[]) (by simp [results, Try.results45]) rfl ⟨rfl, V.drew, hbD, rfl⟩

set_option maxHeartbeats 2000000 in
theorem do_front (w : World) {d m cb : Nat} {Ab : Option Addr} {old : Value} (so oo : Nat) (a : Int) (hoo : oo = so + 2) (hc : w.cell? ⟨d, oo, none⟩ = some old) (hf : w.frozen? ⟨d, oo, none⟩ = false) :
    Calls Try.prog 45 #[.pointer (some ⟨d, so, none⟩), .agg #[.int .i64 2, .int .i64 a, .slice Ab m cb]] w fun e w' => e = .returned (.tuple #[]) ∧ ∃ w1, Below w.heap.size w w1 ∧ w' = w1.setCell ⟨d, oo, none⟩ (.int .i64 a) := by
  have hdl : d < w.heap.size := World.block_lt_of_cell? w ⟨d, oo, none⟩ hc
  have hbA : Below w.heap.size w (w.alloc (.cells #[.int .i64 2, .int .i64 a, .slice Ab m cb] 79)) := (Below.refl _ _).alloc (Nat.le_refl _) _
  have c4 := keepc hc hbA
  have f4 : (w.alloc (.cells #[.int .i64 2, .int .i64 a, .slice Ab m cb] 79)).frozen? ⟨d, oo, none⟩ = false := by rw [hbA.frozen (by exact hdl)]; exact hf
  have c2 : (w.alloc (.cells #[.int .i64 2, .int .i64 a, .slice Ab m cb] 79)).cell? ⟨w.heap.size, 1, none⟩ = some (.int .i64 a) := by simp
  have c1 : (w.alloc (.cells #[.int .i64 2, .int .i64 a, .slice Ab m cb] 79)).cell? ⟨w.heap.size, 0, none⟩ = some (.int .i64 2) := by simp
  subst hoo
  go_enter Try.func45, Try.ntmps45
  go_upto_region 1 with (fail)
  generalize w.alloc (.cells #[.int .i64 2, .int .i64 a, .slice Ab m cb] 79) = V at hbA c1 c2 c4 f4 ⊢
  go_wp2_with fail
  exact bodyPost_end (v := .tuple #[]) (by simp [results, Try.results45]) rfl ⟨rfl, _, hbA, rfl⟩

/-- A change as it acts on the areas st, st + 1 (st: 0 lasting, 2 as it is). -/
def doS (st : Nat) (s : DS) (c : Pk) : DS :=
  if c.1 = 0 then { s with by_ := upd s.by_ (st + c.2.1.toNat) (s.by_ (st + c.2.1.toNat) ++ c.2.2) }
  else if c.1 = 1 then { s with by_ := upd s.by_ (st + c.2.1.toNat) [] }
  else if st = 0 then { s with f0 := c.2.1 } else { s with f1 := c.2.1 }
/-- What is written down as a change. -/
def GoodC (c : Pk) : Prop := (c.1 = 0 ∨ c.1 = 1 ∨ c.1 = 2) ∧ (c.2.1 = 0 ∨ c.2.1 = 1)

section
variable {w w' : World} {F G : Nat → Prop} {d : Nat} {s s' : DS} {A : Nat → Option Addr} {c : Nat → Nat} {AL : Option Addr} {cL : Nat} {H : List Hd}
/-- A number of the disk has been written. -/
theorem DiskP.num (h : DiskP w F G d s A c AL cL H) (o : Nat) (v : Value) (hby : s'.by_ = s.by_) (hlo : s'.lo = s.lo) (hset : (dcells A c AL cL s).setIfInBounds o v = dcells A c AL cL s') : DiskP (w.setCell ⟨d, o, none⟩ v) F G d s' A c AL cL H := by
  refine ⟨?_, h.base, h.ebase, fun b hb => by simpa using h.flt b hb, fun k hk => ?_, h.notd, h.notF, h.apart, ?_, h.rowd, h.rowF, h.rowa, by rw [hlo]; exact h.hlen, fun i h1 h2 => ?_⟩
  · rw [heap_setCell_same w d o _ _ _ h.cells, hset]
  · rw [hby]; exact row_set (h.own k hk) (h.notd k hk) _
  · rw [hlo]; exact row_set h.row h.rowd _
  · have h2' : i < s.lo.length := by rw [← hlo]; exact h2
    obtain ⟨ea, eb, ee⟩ := h.elem i h1 h2'
    have e : s'.lo[i]'h2 = s.lo[i]'h2' := by simp only [hlo]
    rw [e]
    exact ⟨ea, eb, ee.keep (by simp) (fun q _ hqd _ _ => heap_setCell_other w ⟨d, o, none⟩ q _ (fun e => hqd e)) fun q _ _ hqk hql => ⟨hqk, hql⟩⟩
theorem DiskP.mem (h : DiskP w F G d s A c AL cL H) : DiskM w F G d s := ⟨A, c, AL, cL, H, h⟩
theorem DiskP.below (h : DiskP w F G d s A c AL cL H) {k : Nat} (hb : Below k w w') (hk : w.heap.size ≤ k) : DiskP w' F G d s A c AL cL H := h.keep hb.size fun b hlt _ => hb.block b (by omega)
theorem dcells_area (A : Nat → Option Addr) (c : Nat → Nat) (AL : Option Addr) (cL : Nat) (s : DS) (k : Nat) (hk : k < 4) : (dcells A c AL cL s)[off k]? = some (.slice (A k) (s.by_ k).length (c k)) := by
  rcases k with _ | _ | _ | _ | k
  · rfl
  · rfl
  · rfl
  · rfl
  · omega
end
section
variable {w w' : World} {F G : Nat → Prop} {d : Nat} {s : DS} {A : Nat → Option Addr} {c : Nat → Nat} {AL : Option Addr} {cL : Nat} {H : List Hd} {v : Value} {r : List UInt8}
theorem ElemD.area (he : ElemD w G d A AL v r) {k : Nat} (hk : k < 4) {A' : Option Addr} (hu : w.grownBy w' ((A k).map (·.block))) (hnew : ∀ b, A'.map (·.block) = some b → (A k).map (·.block) = some b ∨ w.heap.size ≤ b) (o : Nat) (u : Value) : ElemD (w'.setCell ⟨d, o, none⟩ u) G d (upd A k A') AL v r := by
  refine he.keep (by simpa using hu.size) (fun q hlt hqd hqk _ => ?_) fun q hlt hqd hqk hql => ⟨fun l hl => ?_, hql⟩
  · rw [heap_setCell_other w' ⟨d, o, none⟩ q _ (fun e => hqd e)]
    exact hu.block q hlt (Ne.symm (hqk k hk))
  · by_cases e : l = k
    · subst e
      rw [upd_same]
      intro e2
      rcases hnew q e2 with h3 | h3
      · exact hqk l hl h3
      · omega
    · rw [upd_ne _ _ e]; exact hqk l hl
theorem ElemD.num (he : ElemD w G d A AL v r) (o : Nat) (u : Value) : ElemD (w.setCell ⟨d, o, none⟩ u) G d A AL v r :=
  he.keep (by simp) (fun q _ hqd _ _ => heap_setCell_other w ⟨d, o, none⟩ q _ (fun e => hqd e)) fun q _ _ hqk hql => ⟨hqk, hql⟩
theorem ElemD.below (he : ElemD w G d A AL v r) {k : Nat} (hb : Below k w w') (hk : w.heap.size ≤ k) : ElemD w' G d A AL v r :=
  he.keep hb.size (fun q hlt _ _ _ => hb.block q (by omega)) fun q _ _ hqk hql => ⟨hqk, hql⟩
end
/-- Where the state st begins. -/
def so (st : Nat) : Nat := if st = 0 then 0 else 3
theorem so_off (st a : Nat) (hst : st = 0 ∨ st = 2) (ha : a < 2) : off (st + a) = so st + a := by
  unfold off so
  rcases hst with rfl | rfl <;> rcases a with _ | _ | a <;> simp <;> omega
/-- 'do' on one of a disk's two states. -/
theorem do_any (w : World) {F G : Nat → Prop} {d m cb : Nat} {s : DS} {A : Nat → Option Addr} {c : Nat → Nat} {AL Ab : Option Addr} {cL : Nat} {H : List Hd} (h : DiskP w F G d s A c AL cL H) (st : Nat) (hst : st = 0 ∨ st = 2) (p : Pk) (hp : GoodC p) (hm : m = p.2.2.length) {B2 : Nat} (hr : RdB w B2 Ab p.2.2) (hB2 : B2 ≤ w.heap.size) (hs : (s.by_ (st + p.2.1.toNat)).length + p.2.2.length ≤ 1099511627776) (q : Nat) (hq : q = so st) :
    Calls Try.prog 45 #[.pointer (some ⟨d, q, none⟩), .agg #[.int .i64 p.1, .int .i64 p.2.1, .slice Ab m cb]] w fun e w' => e = .returned (.tuple #[]) ∧ ∃ A' c', DiskP w' F G d (doS st s p) A' c' AL cL H ∧ BelF F w w' ∧ (∀ v r, ElemD w G d A AL v r → ElemD w' G d A' AL v r) ∧ ∀ b, b < w.heap.size → b ≠ d → (∀ k, k < 4 → (A k).map (·.block) ≠ some b) → w'.heap[b]? = w.heap[b]? := by
  subst hq
  obtain ⟨p1, p2, b⟩ := p
  obtain ⟨g1, g2⟩ := hp
  simp only at g1 g2 hm hr hs ⊢
  have hd := h.dlt
  have hBd := h.base
  obtain ⟨a, ha, ea⟩ : ∃ a : Nat, a < 2 ∧ p2 = (a : Int) := by 
    rcases g2 with rfl | rfl
    · exact ⟨0, by omega, rfl⟩
    · exact ⟨1, by omega, rfl⟩
  subst ea
  have hk : st + a < 4 := by rcases hst with rfl | rfl <;> omega
  have hoff := so_off st a hst ha
  have hcell : w.cell? ⟨d, so st + a, none⟩ = some (.slice (A (st + a)) (s.by_ (st + a)).length (c (st + a))) := by rw [cell_d h, ← hoff]; exact dcells_area A c AL cL s _ hk
  simp only [Int.toNat_natCast] at hs
  rcases g1 with rfl | rfl | rfl
  · refine (do_app w (so st) (so st + a) a ha rfl rfl hcell (frozen_d h _) (h.own _ hk) (by omega) hm hr hB2 (h.notd _ hk) hs).mono ?_
    rintro e w' ⟨rfl, w1, A', c', hu, ho, rfl⟩
    refine ⟨rfl, upd A (st + a) A', upd c (st + a) c', ?_, ?_, fun v r he => he.area hk hu.grown (upd_new hu) _ _, fun b hb hbd hbk => by rw [heap_setCell_other w1 ⟨d, so st + a, none⟩ b _ (fun e => hbd e)]; exact hu.grown.block b hb (Ne.symm (hbk _ hk))⟩
    · have := h.area hk hu.grown (upd_new hu) ho (n := (s.by_ (st + a)).length + m) (by rw [List.length_append, hm])
      rw [hoff] at this
      unfold doS
      rw [if_pos rfl]
      simpa using this
    · exact (BelF.grown hu.grown (h.notF _ hk)).setCell hBd _
  · refine (do_wipe w (so st) (so st + a) a ha rfl hcell (frozen_d h _)).mono ?_
    rintro e w' ⟨rfl, w1, hb, rfl⟩
    have h1 := h.below hb (Nat.le_refl _)
    have hlt : ∀ ad, A (st + a) = some ad → ad.block < w.heap.size := fun ad e => (own_row (h.own _ hk) (by rw [e]; rfl)).2
    have hgr : w.grownBy w1 ((A (st + a)).map (·.block)) := ⟨hb.os, hb.tape, hb.output, hb.size, fun k hk _ => hb.block k hk⟩
    refine ⟨rfl, upd A (st + a) none, upd c (st + a) 0, ?_, (BelF.of hb (Nat.le_refl _)).setCell hBd _, fun v r he => he.area hk hgr (fun b e => by cases e) _ _, fun b' hb' hbd _ => by rw [heap_setCell_other w1 ⟨d, so st + a, none⟩ b' _ (fun e => hbd e)]; exact hb.block b' hb'⟩
    have := h.area hk hgr (A' := none) (c' := 0) (bs := []) (fun b e => by cases e) (ownB_nil w1 0) (n := 0) rfl
    rw [hoff] at this
    simpa [doS] using this
  · refine (do_front w (so st) (so st + 2) a rfl (old := .int .i64 (if st = 0 then s.f0 else s.f1)) ?_ (frozen_d h _)).mono ?_
    · rw [cell_d h]
      rcases hst with rfl | rfl <;> rfl
    rintro e w' ⟨rfl, w1, hb, rfl⟩
    have h1 := h.below hb (Nat.le_refl _)
    refine ⟨rfl, A, c, ?_, (BelF.of hb (Nat.le_refl _)).setCell hBd _, fun v r he => (he.below hb (Nat.le_refl _)).num _ _, fun b' hb' hbd _ => by rw [heap_setCell_other w1 ⟨d, so st + 2, none⟩ b' _ (fun e => hbd e)]; exact hb.block b' hb'⟩
    rcases hst with rfl | rfl
    · have := h1.num (s' := { s with f0 := (a : Int) }) 2 (.int .i64 a) rfl rfl rfl
      simpa [doS, so] using this
    · have := h1.num (s' := { s with f1 := (a : Int) }) 5 (.int .i64 a) rfl rfl rfl
      simpa [doS, so] using this
end Go.Proofs.Ytjipjfionelpkaa.dk
