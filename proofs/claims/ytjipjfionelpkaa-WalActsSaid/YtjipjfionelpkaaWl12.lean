/- A log's deeds, round by round: what holds of the disk, the log and what is held. -/
import Derived.Test.YtjipjfionelpkaaWl11
namespace Go.Proofs.Ytjipjfionelpkaa.wl
open Go.RowKit Go.Proofs.Ytjipjfionelpkaa.lib Go.Proofs.Ytjipjfionelpkaa.byt Go.Proofs.Ytjipjfionelpkaa.dk Go.Proofs.Ytjipjfionelpkaa.framePlain
set_option linter.unusedVariables false

theorem belF_low {w w' : World} {F : Nat → Prop} {B : Nat} (hb : Below B w w') (hF : ∀ b, F b → b < B) : BelF F w w' := ⟨hb.os, hb.tape, hb.output, hb.size, fun b _ hf => hb.block b (hF b hf)⟩
/-- The cells of act k, in every world that keeps what was there. -/
theorem RdA.cells {w : World} {ad : Addr} {L : List Ac8} (h : RdA w (fun b => b < w.heap.size) (some ad) L) {k : Nat} (hk : k < L.length) :
    ∃ A' c', ∀ W, Below w.heap.size w W → W.cell? (ad.add (k * 4)) = some (.int .u8 L[k].1) ∧ W.cell? ⟨(ad.add (k * 4)).block, (ad.add (k * 4)).off + 1, none⟩ = some (.slice A' L[k].2.1.length c') ∧
      W.cell? ⟨(ad.add (k * 4)).block, (ad.add (k * 4)).off + 2, none⟩ = some (.int .i64 L[k].2.2.1) ∧ W.cell? ⟨(ad.add (k * 4)).block, (ad.add (k * 4)).off + 3, none⟩ = some (.int .i64 L[k].2.2.2) ∧ RdF W (fun b => b < w.heap.size) A' L[k].2.1 := by
  obtain ⟨ad', A', c', e, hbl, -, c0, c1, c2, c3, hr⟩ := h.at_ hk
  injection e with e
  subst e
  refine ⟨A', c', fun W hb => ⟨?_, ?_, ?_, ?_, hr.bel (belF_low hb fun b h => h)⟩⟩
  · exact (World.cell?_of_block (hb.block _ (by rw [block_of_add]; exact hbl))).trans c0
  · exact (World.cell?_of_block (hb.block _ (by simp only; rw [block_of_add]; exact hbl))).trans c1
  · exact (World.cell?_of_block (hb.block _ (by simp only; rw [block_of_add]; exact hbl))).trans c2
  · exact (World.cell?_of_block (hb.block _ (by simp only; rw [block_of_add]; exact hbl))).trans c3
theorem readsF_lt {w : World} {F : Nat → Prop} {size n : Nat} {A : Option Addr} {xs : List Value} (h : ReadsF w F size A n xs) : ReadsF w (fun b => F b ∧ b < w.heap.size) size A n xs :=
  ⟨h.1, fun hn => by
    obtain ⟨ad, e, hF⟩ := h.2 hn
    obtain ⟨ad', e', hb, _⟩ := h.1.2 hn
    rw [e] at e'
    injection e' with e'
    subst e'
    exact ⟨ad, e, hF, hb⟩⟩
theorem RdL.lt {w : World} {F : Nat → Prop} {A : Option Addr} {L : List (List UInt8)} (h : RdL w F A L) : RdL w (fun b => F b ∧ b < w.heap.size) A L :=
  let ⟨H, h1, h2⟩ := h; ⟨H, readsF_lt h1, fun i hi => let ⟨v, e, A', c', e2, hv⟩ := h2 i hi; ⟨v, e, A', c', e2, readsF_lt hv⟩⟩
/-- In F, and neither the log's block nor that of what is held. -/
def Zf (F : Nat → Prop) (lb hb b : Nat) : Prop := F b ∧ b ≠ lb ∧ b ≠ hb
structure StA (w wr : World) (d hb lb k : Nat) (em : Bool) (F G : Nat → Prop) (s : DS) (f : Int) (fr p : List UInt8) (L : List (List UInt8)) (sf : Int) (A1 : Option Addr) (n1 c1 : Nat) (A2 : Option Addr) (n2 c2 : Nat) : Prop where
  disk : DiskM wr F G d s
  ws : WS s f fr (20000 * k)
  log : LogAt wr lb d (fr.length : Nat)
  lbG : G lb
  hbG : G hb
  ne : hb ≠ lb
  box : wr.heap[hb]? = some (.cells #[.slice A1 n1 c1, .slice A2 n2 c2, .int .i64 sf] 58 (0, 0))
  e1 : n1 = p.length
  e2 : n2 = L.length
  r1 : RdF wr (Zf F lb hb) A1 p
  r2 : RdL wr (Zf F lb hb) A2 L
  low : ∀ b, b < w.heap.size → Zf F lb hb b
  bel : Below w.heap.size w wr
  emp : em = true → fr = [] ∧ p = [] ∧ L = []
  row : em = false → fr = rowOf (p :: L)
  cnt : L.length ≤ k
  len : ∀ r ∈ p :: L, r.length ≤ 200
  frl : fr.length ≤ 300 * k
section
variable {w wr wr' : World} {d hb lb k : Nat} {em : Bool} {F G : Nat → Prop} {s : DS} {f : Int} {fr p : List UInt8} {L : List (List UInt8)} {sf : Int} {A1 : Option Addr} {n1 c1 : Nat} {A2 : Option Addr} {n2 c2 : Nat}
theorem StA.hb_lt (h : StA w wr d hb lb k em F G s f fr p L sf A1 n1 c1 A2 n2 c2) : hb < wr.heap.size := (Array.getElem?_eq_some_iff.1 h.box).1
theorem StA.hb_ge (h : StA w wr d hb lb k em F G s f fr p L sf A1 n1 c1 A2 n2 c2) : w.heap.size ≤ hb := by
  rcases Nat.lt_or_ge hb w.heap.size with h1 | h1
  · exact absurd rfl (h.low hb h1).2.2
  · exact h1
theorem StA.cells (h : StA w wr d hb lb k em F G s f fr p L sf A1 n1 c1 A2 n2 c2) : wr.cell? ⟨hb, 0, none⟩ = some (.slice A1 n1 c1) ∧ wr.cell? ⟨hb, 1, none⟩ = some (.slice A2 n2 c2) ∧ wr.cell? ⟨hb, 2, none⟩ = some (.int .i64 sf) ∧ ∀ j, wr.frozen? ⟨hb, j, none⟩ = false :=
  ⟨by rw [cell_of_row _ _ _ _ _ (0, 0) h.box]; rfl, by rw [cell_of_row _ _ _ _ _ (0, 0) h.box]; rfl, by rw [cell_of_row _ _ _ _ _ (0, 0) h.box]; rfl, fun j => frozen_of_row _ _ j _ _ h.box⟩
theorem StA.below (h : StA w wr d hb lb k em F G s f fr p L sf A1 n1 c1 A2 n2 c2) (hB : Below wr.heap.size wr wr') : StA w wr' d hb lb k em F G s f fr p L sf A1 n1 c1 A2 n2 c2 where
  disk := h.disk.below hB (Nat.le_refl _)
  ws := h.ws
  log := h.log.below hB (Nat.le_refl _)
  lbG := h.lbG
  hbG := h.hbG
  ne := h.ne
  box := (hB.block hb h.hb_lt).trans h.box
  e1 := h.e1
  e2 := h.e2
  r1 := h.r1.below hB (Nat.le_refl _)
  r2 := h.r2.below hB (Nat.le_refl _)
  low := h.low
  bel := h.bel.trans (hB.mono h.bel.size)
  emp := h.emp
  row := h.row
  cnt := h.cnt
  len := h.len
  frl := h.frl
theorem set3 {w : World} {d : Nat} {cs : Array Value} {t : TypeId} (h : w.heap[d]? = some (.cells cs t (0, 0))) (hcs : cs.size = 3) (v0 v1 v2 : Value) :
    (((w.setCell ⟨d, 0, none⟩ v0).setCell ⟨d, 1, none⟩ v1).setCell ⟨d, 2, none⟩ v2).heap[d]? = some (.cells #[v0, v1, v2] t (0, 0)) := by
  obtain ⟨l⟩ := cs
  match l, hcs with
  | [a0, a1, a2], _ =>
    have e0 := heap_setCell_same w d 0 _ _ v0 h
    have e1 := heap_setCell_same _ d 1 _ _ v1 e0
    have e2 := heap_setCell_same _ d 2 _ _ v2 e1
    simp only [List.setIfInBounds_toArray, List.set_cons_zero, List.set_cons_succ] at e2
    exact e2
/-- How many are safe is noted. -/
theorem StA.safe (h : StA w wr d hb lb k em F G s f fr p L sf A1 n1 c1 A2 n2 c2) (z : Int) : StA w (wr.setCell ⟨hb, 2, none⟩ (.int .i64 z)) d hb lb k em F G s f fr p L z A1 n1 c1 A2 n2 c2 where
  disk := h.disk.low h.hbG _
  ws := h.ws
  log := by
    have := h.log
    unfold LogAt at this ⊢
    rw [heap_setCell_other _ _ lb _ (fun e => h.ne e.symm)]
    exact this
  lbG := h.lbG
  hbG := h.hbG
  ne := h.ne
  box := by
    have := heap_setCell_same wr hb 2 _ _ (.int .i64 z) h.box
    simp only [List.setIfInBounds_toArray, List.set_cons_zero, List.set_cons_succ] at this
    exact this
  e1 := h.e1
  e2 := h.e2
  r1 := setF h.r1 (fun h => h.2.2 rfl) _
  r2 := setL h.r2 (fun h => h.2.2 rfl) _
  low := h.low
  bel := h.bel.setCell h.hb_ge _
  emp := h.emp
  row := h.row
  cnt := h.cnt
  len := h.len
  frl := h.frl
/-- The log is opened anew. -/
theorem StA.open_ (h : StA w wr d hb lb k em F G s f fr p L sf A1 n1 c1 A2 n2 c2) {F2 G2 TP TR : Nat → Prop} {lb2 : Nat} {s2 : DS} {f2 : Int} {A8 : Option Addr} {n8 c8 : Nat} {A9 : Option Addr} {n9 c9 : Nat}
    (hO : OpenedAt wr wr' F G F2 G2 TP TR d lb2 s2 (fr.length : Nat) p L A8 n8 c8 A9 n9 c9) (hW : WS s2 f2 fr (20000 * (k + 1))) : StA w wr' d hb lb2 (k + 1) em F2 G2 s2 f2 fr p L sf A1 n1 c1 A2 n2 c2 := by
  have hFlt := h.disk.lt.2.2.2
  have hne : ∀ b, F b → b ≠ lb2 := fun b hF => by have := hFlt b hF; have := hO.lbnew; omega
  have hZ : ∀ b, Zf F lb hb b → Zf F2 lb2 hb b := fun b hz => ⟨hO.subF b hz.1, hne b hz.1, hz.2.2⟩
  have hhb := (h.disk.lt.2.2.1 hb h.hbG)
  exact {
    disk := hO.disk
    ws := hW
    log := hO.log
    lbG := hO.lbG
    hbG := hO.subG hb h.hbG
    ne := hne hb hhb
    box := (hO.frame.block hb h.hb_lt hhb).trans h.box
    e1 := h.e1
    e2 := h.e2
    r1 := (h.r1.bel (hO.frame.mono fun b hb => hb.1)).mono hZ
    r2 := (h.r2.bel (hO.frame.mono fun b hb => hb.1)).mono hZ
    low := fun b hb => hZ b (h.low b hb)
    bel := h.bel.trans (hO.frame.to_below (fun b hb => (h.low b hb).1) h.bel.size)
    emp := h.emp
    row := h.row
    cnt := Nat.le_succ_of_le h.cnt
    len := h.len
    frl := by have := h.frl; omega }
theorem play_do {a : Ac8} (h4 : a.1 % 6 < 4) (hl : a.2.1.length ≤ 200) (emp : em = true → fr = [] ∧ p = [] ∧ L = []) (row : em = false → fr = rowOf (p :: L)) (cnt : L.length ≤ k) (len : ∀ r ∈ p :: L, r.length ≤ 200) (frl : fr.length ≤ 300 * k) :
    ((em && decide (a.1 % 6 = 2)) = true → playB fr a = [] ∧ (doH (p, L, sf) a).1 = [] ∧ (doH (p, L, sf) a).2.1 = []) ∧ ((em && decide (a.1 % 6 = 2)) = false → playB fr a = rowOf ((doH (p, L, sf) a).1 :: (doH (p, L, sf) a).2.1)) ∧
    (doH (p, L, sf) a).2.1.length ≤ k + 1 ∧ (∀ r ∈ (doH (p, L, sf) a).1 :: (doH (p, L, sf) a).2.1, r.length ≤ 200) ∧ (playB fr a).length ≤ 300 * (k + 1) := by
  by_cases h2 : a.1 % 6 = 2
  · have e1 : playB fr a = fr := by unfold playB; rw [if_pos h2]
    have e2 : doH (p, L, sf) a = (p, L, ((L.length : Nat) : Int)) := by unfold doH; rw [if_pos h2]
    rw [e1, e2, decide_eq_true h2, Bool.and_true]
    exact ⟨emp, row, by simp only; omega, len, by omega⟩
  by_cases h3 : a.1 % 6 = 3
  · have e1 : playB fr a = frameOf a.2.1 := by unfold playB; rw [if_neg h2, if_pos h3]
    have e2 : doH (p, L, sf) a = (a.2.1, [], 0) := by unfold doH; rw [if_neg h2, if_pos h3]
    rw [e1, e2, decide_eq_false h2, Bool.and_false]
    refine ⟨fun h => (by cases h), fun _ => by simp [rowOf], by simp, fun r hr => ?_, by rw [frameOf_length]; omega⟩
    simp only [List.mem_singleton] at hr
    rw [hr]; exact hl
  · have e1 : playB fr a = fr ++ addB fr a.2.1 := by unfold playB; rw [if_neg h2, if_neg h3]
    have e2 : doH (p, L, sf) a = (p, L ++ [a.2.1], sf) := by unfold doH; rw [if_neg h2, if_neg h3]
    have hal := addB_len fr a.2.1
    rw [e1, e2, decide_eq_false h2, Bool.and_false]
    refine ⟨fun h => (by cases h), fun _ => ?_, by simp; omega, fun r hr => ?_, by rw [List.length_append]; omega⟩
    · simp only
      cases em
      · have hr := row rfl
        rw [hr, show addB (rowOf (p :: L)) a.2.1 = frameOf a.2.1 by
          unfold addB
          rw [if_neg]
          intro h
          have := congrArg List.length h
          rw [rowOf_cons, List.length_append, frameOf_length] at this
          simp at this, ← rowOf_snoc, List.cons_append]
      · obtain ⟨rfl, rfl, rfl⟩ := emp rfl
        unfold addB
        rw [if_pos rfl]
        simp [rowOf]
    · simp only [List.mem_cons, List.mem_append, List.not_mem_nil, or_false] at hr
      rcases hr with hr | hr | hr
      · exact len r (by simp [hr])
      · exact len r (by simp [hr])
      · rw [hr]; exact hl
/-- An act has been done by the log, and by the document; what is held is written anew. -/
theorem StA.step (h : StA w wr d hb lb k em F G s f fr p L sf A1 n1 c1 A2 n2 c2) {a : Ac8} (h4 : a.1 % 6 < 4) (hla : a.2.1.length ≤ 200) {w5 X w6 : World} {s2 : DS} {f2 : Int} (hW : WS s2 f2 (playB fr a) (20000 * k + 1000)) (hD : DiskM w5 F G d s2) (hL : LogAt w5 lb d ((playB fr a).length : Nat)) (hbf : BelF (less F lb) wr w5)
    (hX : Below w5.heap.size w5 X) {A3 A4 : Option Addr} {n3 c3 n4 c4 : Nat} (hn3 : n3 = (doH (p, L, sf) a).1.length) (hn4 : n4 = (doH (p, L, sf) a).2.1.length) (hr3 : RdF w6 (since X (Zf F lb hb)) A3 (doH (p, L, sf) a).1) (hr4 : RdL w6 (since X (Zf F lb hb)) A4 (doH (p, L, sf) a).2.1) (h6 : Below X.heap.size X w6) :
    StA w (((w6.setCell ⟨hb, 0, none⟩ (.slice A3 n3 c3)).setCell ⟨hb, 1, none⟩ (.slice A4 n4 c4)).setCell ⟨hb, 2, none⟩ (.int .i64 (doH (p, L, sf) a).2.2)) d hb lb (k + 1) (em && decide (a.1 % 6 = 2)) (plus w5 w6 F) (plus w5 w6 G) s2 f2 (playB fr a) (doH (p, L, sf) a).1 (doH (p, L, sf) a).2.1 (doH (p, L, sf) a).2.2 A3 n3 c3 A4 n4 c4 := by
  obtain ⟨g1, g2, g3, g4, g5⟩ := play_do (sf := sf) h4 hla h.emp h.row h.cnt h.len h.frl
  have hbW : Below w5.heap.size w5 w6 := hX.trans (h6.mono hX.size)
  obtain ⟨-, -, hGF, hFlt⟩ := hD.lt
  have hGlt : ∀ b, G b → b < w5.heap.size := fun b hb => hFlt b (hGF b hb)
  have hhbF : F hb := hGF hb h.hbG
  have hbox5 := (hbf.block hb h.hb_lt ⟨hhbF, h.ne⟩).trans h.box
  have hbox6 := (hbW.block hb (hFlt hb hhbF)).trans hbox5
  have hbP : plus w5 w6 G hb := plus_of hbW.size hGlt h.hbG
  have hlbP : plus w5 w6 G lb := plus_of hbW.size hGlt h.lbG
  have hlog6 := hL.below hbW (Nat.le_refl _)
  have hZ : ∀ b, (since X (Zf F lb hb) b ∧ b < w6.heap.size) → Zf (plus w5 w6 F) lb hb b := fun b hb' => by
    rcases hb'.1 with hz | hz
    · exact ⟨plus_of hbW.size hFlt hz.1, hz.2⟩
    · have := hGlt _ h.lbG
      have := hGlt _ h.hbG
      have := hX.size
      exact ⟨⟨hb'.2, .inr (by omega)⟩, by omega, by omega⟩
  exact {
    disk := ((((hD.plus hbW (Nat.le_refl _)).low hbP _).low hbP _).low hbP _)
    ws := hW.mono (by omega)
    log := by
      unfold LogAt at hlog6 ⊢
      rw [heap_setCell_other _ _ lb _ (fun e => h.ne e.symm), heap_setCell_other _ _ lb _ (fun e => h.ne e.symm), heap_setCell_other _ _ lb _ (fun e => h.ne e.symm)]
      exact hlog6
    lbG := hlbP
    hbG := hbP
    ne := h.ne
    box := set3 hbox6 rfl _ _ _
    e1 := hn3
    e2 := hn4
    r1 := setF (setF (setF ((readsF_lt hr3).mono hZ) (fun h => h.2.2 rfl) _) (fun h => h.2.2 rfl) _) (fun h => h.2.2 rfl) _
    r2 := setL (setL (setL (hr4.lt.mono hZ) (fun h => h.2.2 rfl) _) (fun h => h.2.2 rfl) _) (fun h => h.2.2 rfl) _
    low := fun b hb' => ⟨plus_of hbW.size hFlt (h.low b hb').1, (h.low b hb').2⟩
    bel := (((h.bel.trans (hbf.to_below (fun b hb' => ⟨(h.low b hb').1, (h.low b hb').2.1⟩) h.bel.size)).trans (hbW.mono (Nat.le_trans h.bel.size hbf.size))).setCell h.hb_ge _ |>.setCell h.hb_ge _).setCell h.hb_ge _
    emp := g1
    row := g2
    cnt := g3
    len := g4
    frl := g5 }
end
end Go.Proofs.Ytjipjfionelpkaa.wl
