/- A disk in memory: its cells, the rows of its own, which lie apart. -/
import Derived.Test.YtjipjfionelpkaaDk0
namespace Go.Proofs.Ytjipjfionelpkaa.dk
open Go.RowKit Go.Proofs.Ytjipjfionelpkaa.lib Go.Proofs.Ytjipjfionelpkaa.byt
set_option linter.unusedVariables false

/-- What a disk is: the bytes of the lasting areas (0, 1) and of the areas as they are (2, 3), which ones are in front, the loose changes, the countdown. -/
structure DS where
  by_ : Nat → List UInt8
  f0 : Int
  f1 : Int
  lo : List Pk
  arm : Bool
  left : Int
  down : Bool
def upd {α : Type} (f : Nat → α) (k : Nat) (v : α) : Nat → α := fun l => if l = k then v else f l
theorem upd_same {α : Type} (f : Nat → α) (k : Nat) (v : α) : upd f k v k = v := if_pos rfl
theorem upd_ne {α : Type} (f : Nat → α) {k l : Nat} (v : α) (h : l ≠ k) : upd f k v l = f l := if_neg h
/-- Where area k's cell lies. -/
def off (k : Nat) : Nat := if k < 2 then k else k + 1
def dcells (A : Nat → Option Addr) (c : Nat → Nat) (AL : Option Addr) (cL : Nat) (s : DS) : Array Value :=
  #[.slice (A 0) (s.by_ 0).length (c 0), .slice (A 1) (s.by_ 1).length (c 1), .int .i64 s.f0, .slice (A 2) (s.by_ 2).length (c 2), .slice (A 3) (s.by_ 3).length (c 3), .int .i64 s.f1, .slice AL s.lo.length cL, .bool s.arm, .int .i64 s.left, .bool s.down]
theorem dcells_set (A : Nat → Option Addr) (c : Nat → Nat) (AL : Option Addr) (cL : Nat) (s : DS) (k : Nat) (hk : k < 4) (A' : Option Addr) (c' : Nat) (bs : List UInt8) :
    (dcells A c AL cL s).setIfInBounds (off k) (.slice A' bs.length c') = dcells (upd A k A') (upd c k c') AL cL { s with by_ := upd s.by_ k bs } := by
  rcases k with _ | _ | _ | _ | k
  · simp [dcells, off, upd]
  · simp [dcells, off, upd]
  · simp [dcells, off, upd]
  · simp [dcells, off, upd]
  · omega

/-- As it was, on the blocks that F holds. -/
structure BelF (F : Nat → Prop) (w w' : World) : Prop where
  os : w'.os = w.os
  tape : w'.tape = w.tape
  output : w'.output = w.output
  size : w.heap.size ≤ w'.heap.size
  block : ∀ b, b < w.heap.size → F b → w'.heap[b]? = w.heap[b]?
section
variable {w w' w2 : World} {F F' : Nat → Prop} {k : Nat}
theorem BelF.refl (F : Nat → Prop) (w : World) : BelF F w w := ⟨rfl, rfl, rfl, Nat.le_refl _, fun _ _ _ => rfl⟩
theorem BelF.trans (h : BelF F w w') (h2 : BelF F w' w2) : BelF F w w2 :=
  ⟨h2.os.trans h.os, h2.tape.trans h.tape, h2.output.trans h.output, Nat.le_trans h.size h2.size, fun b hb hf => (h2.block b (Nat.lt_of_lt_of_le hb h.size) hf).trans (h.block b hb hf)⟩
theorem BelF.mono (h : BelF F w w') (hf : ∀ b, F' b → F b) : BelF F' w w' := ⟨h.os, h.tape, h.output, h.size, fun b hb hF => h.block b hb (hf b hF)⟩
theorem BelF.of (h : Below k w w') (hk : w.heap.size ≤ k) : BelF F w w' := ⟨h.os, h.tape, h.output, h.size, fun b hb _ => h.block b (by omega)⟩
theorem BelF.grown {row : Option Nat} (h : w.grownBy w' row) (hr : ∀ b, row = some b → ¬ F b) : BelF F w w' :=
  ⟨h.os, h.tape, h.output, h.size, fun b hb hF => h.block b hb (fun e => hr b e.symm hF)⟩
theorem BelF.setCell (h : BelF F w w') {p : Addr} (hp : ¬ F p.block) (u : Value) : BelF F w (w'.setCell p u) :=
  ⟨h.os, h.tape, h.output, by simpa using h.size, fun b hb hF => (heap_setCell_other w' p b u (fun e => hp (e ▸ hF))).trans (h.block b hb hF)⟩
theorem BelF.to_below (h : BelF F w w') {B : Nat} (hF : ∀ b, b < B → F b) (hB : B ≤ w.heap.size) : Below B w w' := ⟨h.os, h.tape, h.output, h.size, fun b hb => h.block b (by omega) (hF b hb)⟩
end
/-- The header v leads to the bytes r, which lie in another block than all of the disk's rows. -/
def ElemD (w : World) (G : Nat → Prop) (d : Nat) (A : Nat → Option Addr) (AL : Option Addr) (v : Value) (r : List UInt8) : Prop :=
  ∃ (Ai : Option Addr) (ci : Nat), v = .slice Ai r.length ci ∧ RdB w w.heap.size Ai r ∧ r.length ≤ ci ∧
    ∀ ad, Ai = some ad → ad.block < w.heap.size ∧ ¬ G ad.block ∧ ad.block ≠ d ∧ (∀ k, k < 4 → (A k).map (·.block) ≠ some ad.block) ∧ AL.map (·.block) ≠ some ad.block
/-- F: blocks that no deed of the disk turns; G: blocks on which it doesn't lean. -/
structure DiskP (w : World) (F G : Nat → Prop) (d : Nat) (s : DS) (A : Nat → Option Addr) (c : Nat → Nat) (AL : Option Addr) (cL : Nat) (H : List Hd) : Prop where
  cells : w.heap[d]? = some (.cells (dcells A c AL cL s) 75 (0, 0))
  base : ¬ F d
  ebase : ∀ b, G b → F b
  flt : ∀ b, F b → b < w.heap.size
  own : ∀ k, k < 4 → OwnB w 0 (A k) (c k) (s.by_ k)
  notd : ∀ k, k < 4 → (A k).map (·.block) ≠ some d
  notF : ∀ k, k < 4 → ∀ b, (A k).map (·.block) = some b → ¬ F b
  apart : ∀ k l, k < 4 → l < 4 → k ≠ l → ∀ b, (A k).map (·.block) = some b → (A l).map (·.block) ≠ some b
  row : w.ownsRow 0 79 3 (.slice AL s.lo.length cL) s.lo.length (pkV H)
  rowd : AL.map (·.block) ≠ some d
  rowF : ∀ b, AL.map (·.block) = some b → ¬ F b
  rowa : ∀ k, k < 4 → ∀ b, (A k).map (·.block) = some b → AL.map (·.block) ≠ some b
  hlen : H.length = s.lo.length
  elem : ∀ i (h : i < H.length) (h' : i < s.lo.length), H[i].1 = s.lo[i].1 ∧ H[i].2.1 = s.lo[i].2.1 ∧ ElemD w G d A AL H[i].2.2 s.lo[i].2.2
def DiskM (w : World) (F G : Nat → Prop) (d : Nat) (s : DS) : Prop := ∃ A c AL cL H, DiskP w F G d s A c AL cL H

section
variable {w w' : World} {F G : Nat → Prop} {d : Nat} {s : DS} {A : Nat → Option Addr} {c : Nat → Nat} {AL : Option Addr} {cL : Nat} {H : List Hd}
theorem own_lt {B : Nat} {A : Option Addr} {c : Nat} {bs : List UInt8} (h : OwnB w B A c bs) {b : Nat} (hb : A.map (·.block) = some b) : B ≤ b ∧ b < w.heap.size := own_row h hb
theorem DiskP.dlt (h : DiskP w F G d s A c AL cL H) : d < w.heap.size := (Array.getElem?_eq_some_iff.1 h.cells).1
theorem ElemD.keep {v : Value} {r : List UInt8} {A' : Nat → Option Addr} {AL' : Option Addr} (h : ElemD w G d A AL v r) (hs : w.heap.size ≤ w'.heap.size)
    (hk : ∀ b, b < w.heap.size → b ≠ d → (∀ k, k < 4 → (A k).map (·.block) ≠ some b) → AL.map (·.block) ≠ some b → w'.heap[b]? = w.heap[b]?)
    (hA : ∀ b, b < w.heap.size → b ≠ d → (∀ k, k < 4 → (A k).map (·.block) ≠ some b) → AL.map (·.block) ≠ some b → (∀ k, k < 4 → (A' k).map (·.block) ≠ some b) ∧ AL'.map (·.block) ≠ some b) : ElemD w' G d A' AL' v r := by
  obtain ⟨Ai, ci, e, hr, hc, ha⟩ := h
  refine ⟨Ai, ci, e, ⟨hr.1, fun hn => ?_⟩, hc, fun ad ea => ?_⟩
  · obtain ⟨ad, e2, hb, hcell⟩ := hr.2 hn
    obtain ⟨g1, g2, g3, g4, g5⟩ := ha ad e2
    refine ⟨ad, e2, by omega, fun j u hu => ?_⟩
    rw [World.cell?_of_block (w := w) (by rw [block_of_add]; exact hk _ g1 g3 g4 g5)]
    exact hcell j u hu
  · obtain ⟨g1, g2, g3, g4, g5⟩ := ha ad ea
    obtain ⟨i1, i2⟩ := hA _ g1 g3 g4 g5
    exact ⟨by omega, g2, g3, i1, i2⟩
/-- All blocks of the disk are as they were; new blocks may go to F, to G. -/
theorem DiskP.keepF (h : DiskP w F G d s A c AL cL H) {F' G' : Nat → Prop} (hGF : ∀ b, G' b → F' b) (hF : ∀ b, F' b → b < w'.heap.size ∧ (F b ∨ w.heap.size ≤ b)) (hG : ∀ b, G' b → G b ∨ w.heap.size ≤ b) (hs : w.heap.size ≤ w'.heap.size)
    (hk : ∀ b, b < w.heap.size → ¬ G b → w'.heap[b]? = w.heap[b]?) : DiskP w' F' G' d s A c AL cL H := by
  have hd := h.dlt
  have hE := h.ebase
  have hnew : ∀ b, b < w.heap.size → ¬ F b → ¬ F' b := fun b hb hn hf => by
    rcases (hF b hf).2 with h1 | h1
    · exact hn h1
    · omega
  have hown : ∀ {e size c1 n : Nat} {A1 : Option Addr} {xs : List Value}, w.ownsRow 0 e size (.slice A1 n c1) n xs → (∀ b, A1.map (·.block) = some b → ¬ F b) → w'.ownsRow 0 e size (.slice A1 n c1) n xs := fun {e size c1 n A1 xs} ho hnF => by
    refine ⟨ho.1, ?_⟩
    rcases ho.2 with hn | ⟨g, cap, cur, e5, hbg, hg, rest⟩
    · exact .inl hn
    · refine .inr ⟨g, cap, cur, e5, hbg, (hk g (Array.getElem?_eq_some_iff.1 hg).1 fun hg2 => hnF g ?_ (hE _ hg2)).trans hg, rest⟩
      injection e5 with e6 _ _
      subst e6
      rfl
  have hrl : ∀ {e size c1 n : Nat} {A1 : Option Addr} {xs : List Value}, w.ownsRow 0 e size (.slice A1 n c1) n xs → (∀ b, A1.map (·.block) = some b → ¬ F b) → ∀ b, A1.map (·.block) = some b → ¬ F' b := fun ho hnF b e => hnew b (own_row ho e).2 (hnF b e)
  refine ⟨(hk d hd fun hg => h.base (hE _ hg)).trans h.cells, hnew d hd h.base, hGF, fun b hb => (hF b hb).1, fun k hk4 => hown (h.own k hk4) (h.notF k hk4), h.notd, fun k hk4 => hrl (h.own k hk4) (h.notF k hk4), h.apart, hown h.row h.rowF, h.rowd, hrl h.row h.rowF, h.rowa, h.hlen, fun i h1 h2 => ?_⟩
  obtain ⟨a, b, e⟩ := h.elem i h1 h2
  refine ⟨a, b, ?_⟩
  obtain ⟨Ai, ci, e1, hr, hc, ha⟩ := e
  refine ⟨Ai, ci, e1, ⟨hr.1, fun hn => ?_⟩, hc, fun ad ea => ?_⟩
  · obtain ⟨ad, e2, hb, hcell⟩ := hr.2 hn
    obtain ⟨g1, g2, g3, g4, g5⟩ := ha ad e2
    refine ⟨ad, e2, by omega, fun j u hu => ?_⟩
    rw [World.cell?_of_block (w := w) (by rw [block_of_add]; exact hk _ g1 g2)]
    exact hcell j u hu
  · obtain ⟨g1, g2, g3⟩ := ha ad ea
    refine ⟨by omega, fun hg => ?_, g3⟩
    rcases hG _ hg with h5 | h5
    · exact g2 h5
    · omega
theorem DiskP.keep (h : DiskP w F G d s A c AL cL H) (hs : w.heap.size ≤ w'.heap.size)
    (hk : ∀ b, b < w.heap.size → ¬ G b → w'.heap[b]? = w.heap[b]?) : DiskP w' F G d s A c AL cL H :=
  h.keepF h.ebase (fun b hb => ⟨Nat.lt_of_lt_of_le (h.flt b hb) hs, .inl hb⟩) (fun b hb => .inl hb) hs hk
theorem DiskM.keepF (h : DiskM w F G d s) {F' G' : Nat → Prop} (hGF : ∀ b, G' b → F' b) (hF : ∀ b, F' b → b < w'.heap.size ∧ (F b ∨ w.heap.size ≤ b)) (hG : ∀ b, G' b → G b ∨ w.heap.size ≤ b) (hs : w.heap.size ≤ w'.heap.size)
    (hk : ∀ b, b < w.heap.size → ¬ G b → w'.heap[b]? = w.heap[b]?) : DiskM w' F' G' d s :=
  let ⟨A, c, AL, cL, H, hp⟩ := h; ⟨A, c, AL, cL, H, hp.keepF hGF hF hG hs hk⟩
theorem DiskM.below (h : DiskM w F G d s) {k : Nat} (hb : Below k w w') (hk : w.heap.size ≤ k) : DiskM w' F G d s :=
  let ⟨A, c, AL, cL, H, hp⟩ := h; ⟨A, c, AL, cL, H, hp.keep hb.size fun b hlt _ => hb.block b (by omega)⟩
/-- A write below all of the disk's blocks. -/
theorem DiskM.low (h : DiskM w F G d s) {p : Addr} (hp : G p.block) (u : Value) : DiskM (w.setCell p u) F G d s :=
  let ⟨A, c, AL, cL, H, hP⟩ := h; ⟨A, c, AL, cL, H, hP.keep (by simp) fun b _ hb => heap_setCell_other w p b u (fun e => hb (e ▸ hp))⟩
theorem DiskM.drew (h : DiskM w F G d s) : DiskM w.drew F G d s :=
  let ⟨A, c, AL, cL, H, hP⟩ := h; ⟨A, c, AL, cL, H, hP.keep (Nat.le_refl _) fun _ _ _ => rfl⟩

theorem OwnB.keepU {A1 : Option Addr} {c1 : Nat} {bs : List UInt8} {A2 : Option Addr} {B : Nat} (h : OwnB w B A1 c1 bs) (hu : w.grownBy w' (A2.map (·.block))) (hne : ∀ b, A1.map (·.block) = some b → A2.map (·.block) ≠ some b) : OwnB w' B A1 c1 bs := by
  refine World.ownsRow.kept h hu ?_
  cases A1 with
  | none => exact .inl rfl
  | some a => exact .inr fun e => hne a.block rfl e.symm
theorem row_keepU {B e size n c1 : Nat} {A1 : Option Addr} {xs : List Value} {A2 : Option Addr} (h : w.ownsRow B e size (.slice A1 n c1) n xs) (hu : w.grownBy w' (A2.map (·.block))) (hne : ∀ b, A1.map (·.block) = some b → A2.map (·.block) ≠ some b) : w'.ownsRow B e size (.slice A1 n c1) n xs := by
  refine World.ownsRow.kept h hu ?_
  cases A1 with
  | none => exact .inl rfl
  | some a => exact .inr fun e => hne a.block rfl e.symm
theorem row_set {B e size n c1 d o : Nat} {A1 : Option Addr} {xs : List Value} (h : w.ownsRow B e size (.slice A1 n c1) n xs) (hne : A1.map (·.block) ≠ some d) (u : Value) : (w.setCell ⟨d, o, none⟩ u).ownsRow B e size (.slice A1 n c1) n xs :=
  ownsRow_setCell_other h (fun e => hne (by cases A1 with | none => cases e | some a => exact e)) u

theorem upd_new {A A' : Option Addr} {k : Nat} (hu : Upd w w' A k A') : ∀ b, A'.map (·.block) = some b → A.map (·.block) = some b ∨ w.heap.size ≤ b := fun b hb => by
  rcases hu.lies with e | ⟨g, e, hg⟩
  · left; rw [← e]; exact hb
  · right; rw [e] at hb; simp only [Option.map_some, Option.some.injEq] at hb; omega
/-- Area k has been turned: its row alone, and new blocks; then its header. -/
theorem DiskP.area (h : DiskP w F G d s A c AL cL H) {k : Nat} (hk : k < 4) {A' : Option Addr} {c' : Nat} {bs : List UInt8} (hu : w.grownBy w' ((A k).map (·.block))) (hnew : ∀ b, A'.map (·.block) = some b → (A k).map (·.block) = some b ∨ w.heap.size ≤ b) (ho : OwnB w' 0 A' c' bs) {n : Nat} (hn : n = bs.length) :
    DiskP (w'.setCell ⟨d, off k, none⟩ (.slice A' n c')) F G d { s with by_ := upd s.by_ k bs } (upd A k A') (upd c k c') AL cL H := by
  subst hn
  have hd := h.dlt
  have hkd := h.notd k hk
  have hd' : w'.heap[d]? = some (.cells (dcells A c AL cL s) 75 (0, 0)) := (hu.block d hd (fun e => hkd e.symm)).trans h.cells
  have hA'd : A'.map (·.block) ≠ some d := fun e => by
    rcases hnew d e with h1 | h1
    · exact hkd h1
    · omega
  have hA'F : ∀ b, A'.map (·.block) = some b → ¬ F b := fun b e hf => by
    rcases hnew b e with h1 | h1
    · exact h.notF k hk b h1 hf
    · have := h.flt b hf; omega
  have hoth : ∀ l, l < 4 → l ≠ k → ∀ b, A'.map (·.block) = some b → (A l).map (·.block) ≠ some b := fun l hl hlk b hb e => by
    rcases hnew b hb with h1 | h1
    · exact h.apart k l hk hl (Ne.symm hlk) b h1 e
    · have := (own_lt (h.own l hl) e).2; omega
  have hrowA : ∀ b, A'.map (·.block) = some b → AL.map (·.block) ≠ some b := fun b hb e => by
    rcases hnew b hb with h1 | h1
    · exact h.rowa k hk b h1 e
    · have := (own_row h.row e).2; omega
  refine ⟨?_, h.base, h.ebase, fun b hb => by have := h.flt b hb; have := hu.size; simp; omega, fun l hl => ?_, fun l hl => ?_, fun l hl b hb => ?_, fun l m hl hm hlm b hb => ?_, ?_, h.rowd, h.rowF, fun l hl b hb => ?_, h.hlen, fun i h1 h2 => ?_⟩
  · rw [heap_setCell_same w' d (off k) _ _ _ hd', dcells_set A c AL cL s k hk]
  · by_cases e : l = k
    · subst e
      simp only [upd_same]
      exact row_set ho hA'd _
    · simp only [upd_ne _ _ e]
      refine row_set (OwnB.keepU (h.own l hl) hu fun b hb hb2 => h.apart l k hl hk e b hb hb2) (h.notd l hl) _
  · by_cases e : l = k
    · subst e; rw [upd_same]; exact hA'd
    · rw [upd_ne _ _ e]; exact h.notd l hl
  · by_cases e : l = k
    · subst e; rw [upd_same] at hb; exact hA'F b hb
    · rw [upd_ne _ _ e] at hb; exact h.notF l hl b hb
  · by_cases e : l = k
    · subst e
      rw [upd_same] at hb
      rw [upd_ne _ _ (Ne.symm hlm)]
      exact hoth m hm (Ne.symm hlm) b hb
    · rw [upd_ne _ _ e] at hb
      by_cases e2 : m = k
      · subst e2
        rw [upd_same]
        exact fun e3 => hoth l hl e b e3 hb
      · rw [upd_ne _ _ e2]
        exact h.apart l m hl hm hlm b hb
  · exact row_set (row_keepU h.row hu fun b hb hb2 => h.rowa k hk b hb2 hb) h.rowd _
  · by_cases e : l = k
    · subst e; rw [upd_same] at hb; exact hrowA b hb
    · rw [upd_ne _ _ e] at hb; exact h.rowa l hl b hb
  · obtain ⟨ea, eb, ee⟩ := h.elem i h1 h2
    refine ⟨ea, eb, ee.keep (by simpa using hu.size) (fun q hlt hqd hqk _ => ?_) fun q hlt hqd hqk hql => ⟨fun l hl => ?_, hql⟩⟩
    · rw [heap_setCell_other w' ⟨d, off k, none⟩ q _ (fun e => hqd e)]
      exact hu.block q hlt (Ne.symm (hqk k hk))
    · by_cases e : l = k
      · subst e
        rw [upd_same]
        intro e2
        rcases hnew q e2 with h3 | h3
        · exact hqk l hl h3
        · omega
      · rw [upd_ne _ _ e]; exact hqk l hl
end
end Go.Proofs.Ytjipjfionelpkaa.dk
