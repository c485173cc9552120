/- A search as it is built: its struct, its map, its three rows; number. -/
import Derived.Test.YtabjkmennijaeaaHs5
import Derived.Lib.SlicesS
namespace Go.Proofs.Ytabjkmennijaeaa.hs
open Go.RowKit Go.Proofs.Ytabjkmennijaeaa.lib Go.Proofs.Ytabjkmennijaeaa.byt
set_option linter.unusedVariables false
set_option linter.unusedSimpArgs false

abbrev bl (A : Option Addr) : Option Nat := A.map (·.block)
theorem row_lt {w : World} {B e size n c : Nat} {A : Option Addr} {xs : List Value} (h : w.ownsRow B e size (.slice A n c) n xs) {b : Nat} (hb : bl A = some b) : B ≤ b ∧ b < w.heap.size := by
  cases A with
  | none => simp at hb
  | some a =>
    simp only [Option.map_some, Option.some.injEq] at hb
    subst hb
    exact h.lt a.block rfl
theorem row_keepU {w w' : World} {B e size n c1 : Nat} {A1 : Option Addr} {xs : List Value} {A2 : Option Addr} (h : w.ownsRow B e size (.slice A1 n c1) n xs) (hu : w.grownBy w' (bl A2)) (hne : ∀ b, bl A1 = some b → bl A2 ≠ some b) : w'.ownsRow B e size (.slice A1 n c1) n xs := by
  refine World.ownsRow.kept h hu ?_
  cases A1 with
  | none => exact .inl rfl
  | some a => exact .inr fun e => hne a.block rfl e.symm
theorem row_set {w : World} {B e size n c1 d o : Nat} {A1 : Option Addr} {xs : List Value} (h : w.ownsRow B e size (.slice A1 n c1) n xs) (hne : bl A1 ≠ some d) (u : Value) : (w.setCell ⟨d, o, none⟩ u).ownsRow B e size (.slice A1 n c1) n xs :=
  ownsRow_setCell_other h (fun e => hne (by cases A1 with | none => cases e | some a => exact e)) u
theorem upd_new {w w' : World} {A A' : Option Addr} {k : Nat} (hu : Upd w w' A k A') : ∀ b, bl A' = some b → bl A = some b ∨ w.heap.size ≤ b := fun b hb => by
  rcases hu.lies with e | ⟨g, e, hg⟩
  · left; rw [← e]; exact hb
  · right; rw [e] at hb; simp only [Option.map_some, Option.some.injEq] at hb; omega
theorem info_string : (Try.prog.info? 9).map (fun i => (i.zero, i.size, i.bytes)) = some (some (.string ByteArray.empty), 1, 16) := by kernel_rfl
theorem append_string (w : World) (B : Nat) {A : Option Addr} {n c : Nat} {xs : List Value} (hown : w.ownsRow B 9 1 (.slice A n c) n xs) (v : Value) (h1 : v.oneCell' = true) (hs : n ≤ 1000000) (hB : B ≤ w.heap.size) :
    ∃ A' c' w', (Builtin.append_ #[40, 40] 40 #[.slice A n c, .slice (some ⟨w.heap.size, 0, none⟩) 1 1]).run Try.prog (w.alloc (.cells #[v] 9)) = .ok (.slice A' (n + 1) c') w' ∧ w'.ownsRow B 9 1 (.slice A' (n + 1) c') (n + 1) (xs ++ [v]) ∧ w.grownBy w' (bl A) ∧ (∀ b, bl A' = some b → bl A = some b ∨ w.heap.size ≤ b) := by
  obtain ⟨i0, hi, hz0, hz1, hz2⟩ := info_parts info_string
  have hb1 : Below w.heap.size w (w.alloc (.cells #[v] 9)) := (Below.refl _ _).alloc (Nat.le_refl _) _
  obtain ⟨A', c', w', g1, g2, g3⟩ := append_law (P := Try.prog) (w.alloc (.cells #[v] 9)) B 40 40 40 9 i0 _ 1 16 Try.underlying40 hi hz0 hz1 hz2 rfl (by decide) (own_below hown hb1 (Nat.le_refl _)) (Src.of_reads Try.underlying40 (c := 1) (Reads.new_ w 1 1 #[v] 9 rfl) (by intro u hu; simp at hu; rw [hu]; exact h1)) (by unfold maxLen; omega) (by omega) (by have := hb1.size; omega)
  refine ⟨A', c', w', g1, g2, ⟨g3.grown.os, g3.grown.tape, g3.grown.output, Nat.le_trans hb1.size g3.grown.size, fun b hb' hne => (g3.grown.block b (Nat.lt_of_lt_of_le hb' hb1.size) hne).trans (hb1.block b hb')⟩, fun b hb' => ?_⟩
  rcases upd_new g3 b hb' with h2 | h2
  · exact .inl h2
  · exact .inr (Nat.le_trans hb1.size h2)
theorem info_int : (Try.prog.info? 3).map (fun i => (i.zero, i.size, i.bytes)) = some (some (.int .i64 0), 1, 8) := by kernel_rfl
theorem append_int (w : World) (B : Nat) {A : Option Addr} {n c : Nat} {xs : List Value} (hown : w.ownsRow B 3 1 (.slice A n c) n xs) (v : Value) (h1 : v.oneCell' = true) (hs : n ≤ 1000000) (hB : B ≤ w.heap.size) :
    ∃ A' c' w', (Builtin.append_ #[48, 48] 48 #[.slice A n c, .slice (some ⟨w.heap.size, 0, none⟩) 1 1]).run Try.prog (w.alloc (.cells #[v] 3)) = .ok (.slice A' (n + 1) c') w' ∧ w'.ownsRow B 3 1 (.slice A' (n + 1) c') (n + 1) (xs ++ [v]) ∧ w.grownBy w' (bl A) ∧ (∀ b, bl A' = some b → bl A = some b ∨ w.heap.size ≤ b) := by
  obtain ⟨i0, hi, hz0, hz1, hz2⟩ := info_parts info_int
  have hb1 : Below w.heap.size w (w.alloc (.cells #[v] 3)) := (Below.refl _ _).alloc (Nat.le_refl _) _
  obtain ⟨A', c', w', g1, g2, g3⟩ := append_law (P := Try.prog) (w.alloc (.cells #[v] 3)) B 48 48 48 3 i0 _ 1 8 Try.underlying48 hi hz0 hz1 hz2 rfl (by decide) (own_below hown hb1 (Nat.le_refl _)) (Src.of_reads Try.underlying48 (c := 1) (Reads.new_ w 1 1 #[v] 3 rfl) (by intro u hu; simp at hu; rw [hu]; exact h1)) (by unfold maxLen; omega) (by omega) (by have := hb1.size; omega)
  refine ⟨A', c', w', g1, g2, ⟨g3.grown.os, g3.grown.tape, g3.grown.output, Nat.le_trans hb1.size g3.grown.size, fun b hb' hne => (g3.grown.block b (Nat.lt_of_lt_of_le hb' hb1.size) hne).trans (hb1.block b hb')⟩, fun b hb' => ?_⟩
  rcases upd_new g3 b hb' with h2 | h2
  · exact .inl h2
  · exact .inr (Nat.le_trans hb1.size h2)
theorem info_uint64 : (Try.prog.info? 52).map (fun i => (i.zero, i.size, i.bytes)) = some (some (.int .u64 0), 1, 8) := by kernel_rfl
theorem append_uint64 (w : World) (B : Nat) {A : Option Addr} {n c : Nat} {xs : List Value} (hown : w.ownsRow B 52 1 (.slice A n c) n xs) (v : Value) (h1 : v.oneCell' = true) (hs : n ≤ 1000000) (hB : B ≤ w.heap.size) :
    ∃ A' c' w', (Builtin.append_ #[49, 49] 49 #[.slice A n c, .slice (some ⟨w.heap.size, 0, none⟩) 1 1]).run Try.prog (w.alloc (.cells #[v] 52)) = .ok (.slice A' (n + 1) c') w' ∧ w'.ownsRow B 52 1 (.slice A' (n + 1) c') (n + 1) (xs ++ [v]) ∧ w.grownBy w' (bl A) ∧ (∀ b, bl A' = some b → bl A = some b ∨ w.heap.size ≤ b) := by
  obtain ⟨i0, hi, hz0, hz1, hz2⟩ := info_parts info_uint64
  have hb1 : Below w.heap.size w (w.alloc (.cells #[v] 52)) := (Below.refl _ _).alloc (Nat.le_refl _) _
  obtain ⟨A', c', w', g1, g2, g3⟩ := append_law (P := Try.prog) (w.alloc (.cells #[v] 52)) B 49 49 49 52 i0 _ 1 8 Try.underlying49 hi hz0 hz1 hz2 rfl (by decide) (own_below hown hb1 (Nat.le_refl _)) (Src.of_reads Try.underlying49 (c := 1) (Reads.new_ w 1 1 #[v] 52 rfl) (by intro u hu; simp at hu; rw [hu]; exact h1)) (by unfold maxLen; omega) (by omega) (by have := hb1.size; omega)
  refine ⟨A', c', w', g1, g2, ⟨g3.grown.os, g3.grown.tape, g3.grown.output, Nat.le_trans hb1.size g3.grown.size, fun b hb' hne => (g3.grown.block b (Nat.lt_of_lt_of_le hb' hb1.size) hne).trans (hb1.block b hb')⟩, fun b hb' => ?_⟩
  rcases upd_new g3 b hb' with h2 | h2
  · exact .inl h2
  · exact .inr (Nat.le_trans hb1.size h2)
/-- A search as it is built. -/
structure BuildP (w : World) (B sb mb pb left : Nat) (V : List ByteArray) (T Hd : List Nat) (Ac : Option Addr) (n cc : Nat) (Av : Option Addr) (nv cv : Nat) (At : Option Addr) (nt ct : Nat) (Aa : Option Addr) (na ca : Nat) : Prop where
  box : w.heap[sb]? = some (.cells #[.slice Ac n cc, .slice Av nv cv, .slice At nt ct, .slice Aa na ca, .map (some mb)] 51 (0, 0))
  map : w.heap[mb]? = some (.map #[] 0)
  pbox : w.heap[pb]? = some (.cells #[.int .u64 (left : Int), .int .i64 0] 54 (0, 0))
  eV : nv = V.length
  eT : nt = T.length
  eH : na = Hd.length
  ov : w.ownsRow B 9 1 (.slice Av nv cv) nv (V.map .string)
  ot : w.ownsRow B 3 1 (.slice At nt ct) nt (T.map fun t : Nat => .int .i64 (t : Int))
  oa : w.ownsRow B 52 1 (.slice Aa na ca) na (Hd.map fun t : Nat => .int .u64 (t : Int))
  Bsb : B ≤ sb
  Bmb : B ≤ mb
  Bpb : B ≤ pb
  ne : sb ≠ mb
  nps : pb ≠ sb
  npm : pb ≠ mb
  av : ∀ b, bl Av = some b → b ≠ sb ∧ b ≠ mb ∧ b ≠ pb
  at_ : ∀ b, bl At = some b → b ≠ sb ∧ b ≠ mb ∧ b ≠ pb
  aa : ∀ b, bl Aa = some b → b ≠ sb ∧ b ≠ mb ∧ b ≠ pb
  vt : ∀ b, bl Av = some b → bl At ≠ some b
  va : ∀ b, bl Av = some b → bl Aa ≠ some b
  ta : ∀ b, bl At = some b → bl Aa ≠ some b
section
variable {w w' : World} {B sb mb pb left : Nat} {V : List ByteArray} {T Hd : List Nat} {Ac : Option Addr} {n cc : Nat} {Av : Option Addr} {nv cv : Nat} {At : Option Addr} {nt ct : Nat} {Aa : Option Addr} {na ca : Nat}
theorem BuildP.sbl (h : BuildP w B sb mb pb left V T Hd Ac n cc Av nv cv At nt ct Aa na ca) : sb < w.heap.size := (Array.getElem?_eq_some_iff.1 h.box).1
theorem BuildP.mbl (h : BuildP w B sb mb pb left V T Hd Ac n cc Av nv cv At nt ct Aa na ca) : mb < w.heap.size := (Array.getElem?_eq_some_iff.1 h.map).1
theorem BuildP.pbl (h : BuildP w B sb mb pb left V T Hd Ac n cc Av nv cv At nt ct Aa na ca) : pb < w.heap.size := (Array.getElem?_eq_some_iff.1 h.pbox).1
theorem BuildP.below (h : BuildP w B sb mb pb left V T Hd Ac n cc Av nv cv At nt ct Aa na ca) {k : Nat} (hb : Below k w w') (hk : w.heap.size ≤ k) : BuildP w' B sb mb pb left V T Hd Ac n cc Av nv cv At nt ct Aa na ca :=
  ⟨(hb.block sb (Nat.lt_of_lt_of_le h.sbl hk)).trans h.box, (hb.block mb (Nat.lt_of_lt_of_le h.mbl hk)).trans h.map, (hb.block pb (Nat.lt_of_lt_of_le h.pbl hk)).trans h.pbox, h.eV, h.eT, h.eH, own_below h.ov hb hk, own_below h.ot hb hk, own_below h.oa hb hk, h.Bsb, h.Bmb, h.Bpb, h.ne, h.nps, h.npm, h.av, h.at_, h.aa, h.vt, h.va, h.ta⟩
theorem BuildP.cells (h : BuildP w B sb mb pb left V T Hd Ac n cc Av nv cv At nt ct Aa na ca) : w.cell? ⟨sb, 0, none⟩ = some (.slice Ac n cc) ∧ w.cell? ⟨sb, 1, none⟩ = some (.slice Av nv cv) ∧ w.cell? ⟨sb, 2, none⟩ = some (.slice At nt ct) ∧ w.cell? ⟨sb, 3, none⟩ = some (.slice Aa na ca) ∧ w.cell? ⟨sb, 4, none⟩ = some (.map (some mb)) ∧ ∀ j, w.frozen? ⟨sb, j, none⟩ = false :=
  ⟨by rw [cell_of_row _ _ _ _ _ (0, 0) h.box]; rfl, by rw [cell_of_row _ _ _ _ _ (0, 0) h.box]; rfl, by rw [cell_of_row _ _ _ _ _ (0, 0) h.box]; rfl, by rw [cell_of_row _ _ _ _ _ (0, 0) h.box]; rfl, by rw [cell_of_row _ _ _ _ _ (0, 0) h.box]; rfl, fun j => frozen_of_row _ _ j _ _ h.box⟩
theorem BuildP.setV (h : BuildP w B sb mb pb left V T Hd Ac n cc Av nv cv At nt ct Aa na ca) {A' : Option Addr} {c' : Nat} (x : ByteArray) (hg : w.grownBy w' (bl Av)) (ho : w'.ownsRow B 9 1 (.slice A' (nv + 1) c') (nv + 1) ((V ++ [x]).map .string)) (hn : ∀ b, bl A' = some b → bl Av = some b ∨ w.heap.size ≤ b) :
    BuildP (w'.setCell ⟨sb, 1, none⟩ (.slice A' (nv + 1) c')) B sb mb pb left (V ++ [x]) T Hd Ac n cc A' (nv + 1) c' At nt ct Aa na ca := by
  have hs : w'.heap[sb]? = w.heap[sb]? := hg.block sb h.sbl (fun e => (h.av sb e.symm).1 rfl)
  have hm : w'.heap[mb]? = w.heap[mb]? := hg.block mb h.mbl (fun e => (h.av mb e.symm).2.1 rfl)
  have hp : w'.heap[pb]? = w.heap[pb]? := hg.block pb h.pbl (fun e => (h.av pb e.symm).2.2 rfl)
  have hx : ∀ b, bl A' = some b → b ≠ sb ∧ b ≠ mb ∧ b ≠ pb := fun b hb => by
    rcases hn b hb with e | e
    · exact h.av b e
    · have := h.sbl; have := h.mbl; have := h.pbl; omega
  have hT : ∀ b, bl A' = some b → bl At ≠ some b := fun b hb => by
    rcases hn b hb with e | e
    · exact h.vt b e
    · intro e2; have := (row_lt h.ot e2).2; omega
  have kT : ∀ b, bl At = some b → bl Av ≠ some b := fun b hb => fun e2 => h.vt b e2 hb
  have hH : ∀ b, bl A' = some b → bl Aa ≠ some b := fun b hb => by
    rcases hn b hb with e | e
    · exact h.va b e
    · intro e2; have := (row_lt h.oa e2).2; omega
  have kH : ∀ b, bl Aa = some b → bl Av ≠ some b := fun b hb => fun e2 => h.va b e2 hb
  refine ⟨by rw [heap_setCell_same _ sb 1 _ _ _ (hs.trans h.box)]; rfl, by rw [heap_setCell_other _ _ mb _ h.ne.symm]; exact hm.trans h.map, by rw [heap_setCell_other _ _ pb _ h.nps]; exact hp.trans h.pbox, by rw [h.eV]; simp, h.eT, h.eH, row_set ho (fun e => (hx sb e).1 rfl) _, row_set (row_keepU h.ot hg kT) (fun e => (h.at_ sb e).1 rfl) _, row_set (row_keepU h.oa hg kH) (fun e => (h.aa sb e).1 rfl) _, h.Bsb, h.Bmb, h.Bpb, h.ne, h.nps, h.npm, hx, h.at_, h.aa, hT, hH, h.ta⟩
theorem BuildP.setT (h : BuildP w B sb mb pb left V T Hd Ac n cc Av nv cv At nt ct Aa na ca) {A' : Option Addr} {c' : Nat} (x : Nat) (hg : w.grownBy w' (bl At)) (ho : w'.ownsRow B 3 1 (.slice A' (nt + 1) c') (nt + 1) ((T ++ [x]).map fun t : Nat => .int .i64 (t : Int))) (hn : ∀ b, bl A' = some b → bl At = some b ∨ w.heap.size ≤ b) :
    BuildP (w'.setCell ⟨sb, 2, none⟩ (.slice A' (nt + 1) c')) B sb mb pb left V (T ++ [x]) Hd Ac n cc Av nv cv A' (nt + 1) c' Aa na ca := by
  have hs : w'.heap[sb]? = w.heap[sb]? := hg.block sb h.sbl (fun e => (h.at_ sb e.symm).1 rfl)
  have hm : w'.heap[mb]? = w.heap[mb]? := hg.block mb h.mbl (fun e => (h.at_ mb e.symm).2.1 rfl)
  have hp : w'.heap[pb]? = w.heap[pb]? := hg.block pb h.pbl (fun e => (h.at_ pb e.symm).2.2 rfl)
  have hx : ∀ b, bl A' = some b → b ≠ sb ∧ b ≠ mb ∧ b ≠ pb := fun b hb => by
    rcases hn b hb with e | e
    · exact h.at_ b e
    · have := h.sbl; have := h.mbl; have := h.pbl; omega
  have hV : ∀ b, bl A' = some b → bl Av ≠ some b := fun b hb => by
    rcases hn b hb with e | e
    · exact fun e2 => h.vt b e2 e
    · intro e2; have := (row_lt h.ov e2).2; omega
  have kV : ∀ b, bl Av = some b → bl At ≠ some b := fun b hb => h.vt b hb
  have hH : ∀ b, bl A' = some b → bl Aa ≠ some b := fun b hb => by
    rcases hn b hb with e | e
    · exact h.ta b e
    · intro e2; have := (row_lt h.oa e2).2; omega
  have kH : ∀ b, bl Aa = some b → bl At ≠ some b := fun b hb => fun e2 => h.ta b e2 hb
  refine ⟨by rw [heap_setCell_same _ sb 2 _ _ _ (hs.trans h.box)]; rfl, by rw [heap_setCell_other _ _ mb _ h.ne.symm]; exact hm.trans h.map, by rw [heap_setCell_other _ _ pb _ h.nps]; exact hp.trans h.pbox, h.eV, by rw [h.eT]; simp, h.eH, row_set (row_keepU h.ov hg kV) (fun e => (h.av sb e).1 rfl) _, row_set ho (fun e => (hx sb e).1 rfl) _, row_set (row_keepU h.oa hg kH) (fun e => (h.aa sb e).1 rfl) _, h.Bsb, h.Bmb, h.Bpb, h.ne, h.nps, h.npm, h.av, hx, h.aa, fun b e e2 => hV b e2 e, h.va, hH⟩
theorem BuildP.setH (h : BuildP w B sb mb pb left V T Hd Ac n cc Av nv cv At nt ct Aa na ca) {A' : Option Addr} {c' : Nat} (x : Nat) (hg : w.grownBy w' (bl Aa)) (ho : w'.ownsRow B 52 1 (.slice A' (na + 1) c') (na + 1) ((Hd ++ [x]).map fun t : Nat => .int .u64 (t : Int))) (hn : ∀ b, bl A' = some b → bl Aa = some b ∨ w.heap.size ≤ b) :
    BuildP (w'.setCell ⟨sb, 3, none⟩ (.slice A' (na + 1) c')) B sb mb pb left V T (Hd ++ [x]) Ac n cc Av nv cv At nt ct A' (na + 1) c' := by
  have hs : w'.heap[sb]? = w.heap[sb]? := hg.block sb h.sbl (fun e => (h.aa sb e.symm).1 rfl)
  have hm : w'.heap[mb]? = w.heap[mb]? := hg.block mb h.mbl (fun e => (h.aa mb e.symm).2.1 rfl)
  have hp : w'.heap[pb]? = w.heap[pb]? := hg.block pb h.pbl (fun e => (h.aa pb e.symm).2.2 rfl)
  have hx : ∀ b, bl A' = some b → b ≠ sb ∧ b ≠ mb ∧ b ≠ pb := fun b hb => by
    rcases hn b hb with e | e
    · exact h.aa b e
    · have := h.sbl; have := h.mbl; have := h.pbl; omega
  have hV : ∀ b, bl A' = some b → bl Av ≠ some b := fun b hb => by
    rcases hn b hb with e | e
    · exact fun e2 => h.va b e2 e
    · intro e2; have := (row_lt h.ov e2).2; omega
  have kV : ∀ b, bl Av = some b → bl Aa ≠ some b := fun b hb => h.va b hb
  have hT : ∀ b, bl A' = some b → bl At ≠ some b := fun b hb => by
    rcases hn b hb with e | e
    · exact fun e2 => h.ta b e2 e
    · intro e2; have := (row_lt h.ot e2).2; omega
  have kT : ∀ b, bl At = some b → bl Aa ≠ some b := fun b hb => h.ta b hb
  refine ⟨by rw [heap_setCell_same _ sb 3 _ _ _ (hs.trans h.box)]; rfl, by rw [heap_setCell_other _ _ mb _ h.ne.symm]; exact hm.trans h.map, by rw [heap_setCell_other _ _ pb _ h.nps]; exact hp.trans h.pbox, h.eV, h.eT, by rw [h.eH]; simp, row_set (row_keepU h.ov hg kV) (fun e => (h.av sb e).1 rfl) _, row_set (row_keepU h.ot hg kT) (fun e => (h.at_ sb e).1 rfl) _, row_set ho (fun e => (hx sb e).1 rfl) _, h.Bsb, h.Bmb, h.Bpb, h.ne, h.nps, h.npm, h.av, h.at_, hx, h.vt, fun b e e2 => hV b e2 e, fun b e e2 => hT b e2 e⟩
theorem BuildP.setLeft (h : BuildP w B sb mb pb left V T Hd Ac n cc Av nv cv At nt ct Aa na ca) (x : Nat) : BuildP (w.setCell ⟨pb, 0, none⟩ (.int .u64 (x : Int))) B sb mb pb x V T Hd Ac n cc Av nv cv At nt ct Aa na ca :=
  ⟨by rw [heap_setCell_other _ _ sb _ h.nps.symm]; exact h.box, by rw [heap_setCell_other _ _ mb _ h.npm.symm]; exact h.map, by rw [heap_setCell_same _ pb 0 _ _ _ h.pbox]; rfl, h.eV, h.eT, h.eH, row_set h.ov (fun e => (h.av pb e).2.2 rfl) _, row_set h.ot (fun e => (h.at_ pb e).2.2 rfl) _, row_set h.oa (fun e => (h.aa pb e).2.2 rfl) _, h.Bsb, h.Bmb, h.Bpb, h.ne, h.nps, h.npm, h.av, h.at_, h.aa, h.vt, h.va, h.ta⟩
theorem BuildP.place (h : BuildP w B sb mb pb left V T Hd Ac n cc Av nv cv At nt ct Aa na ca) : w.cell? ⟨pb, 0, none⟩ = some (.int .u64 (left : Int)) ∧ w.cell? ⟨pb, 1, none⟩ = some (.int .i64 0) ∧ ∀ j, w.frozen? ⟨pb, j, none⟩ = false :=
  ⟨by rw [cell_of_row _ _ _ _ _ (0, 0) h.pbox]; rfl, by rw [cell_of_row _ _ _ _ _ (0, 0) h.pbox]; rfl, fun j => frozen_of_row _ _ j _ _ h.pbox⟩
end
set_option maxHeartbeats 1000000 in
/-- slices.Index, but not that it is the first. -/
theorem index_any (w : World) {B : Nat} {A : Option Addr} {n c : Nat} {xs : List ByteArray} (hn : n = xs.length) (hr : Reads w B 1 A n (xs.map .string)) (x : ByteArray) (hbig : n ≤ 1000000) :
    Calls Try.prog 18 #[.slice A n c, .string x] w fun e w' => ∃ r : Int, e = .returned (.int .i64 r) ∧ (r = -1 ∨ ∃ j : Nat, r = j ∧ xs[j]? = some x) ∧ w = w' := by
  have HN := Lib.hid hn
  clear hn
  go_enter Try.func18, Try.ntmps18
  go_wp2_with fail
  go_loop [5, 8] (fun _ i => ∃ k : Nat, k ≤ n ∧ i = .int .i64 k) (fun _ i => n - (intOf i).toNat)
  case atStart => exact ⟨0, Nat.zero_le _, rfl⟩
  case round =>
    obtain ⟨k, hk, rfl⟩ := hrel
    by_cases hlt : k < n
    · obtain ⟨ad, u, rfl, -, hx, hc⟩ := Reads.at_ hr hlt
      have hkl : k < xs.length := by rw [← HN.out]; exact hlt
      rw [List.getElem?_map, List.getElem?_eq_getElem hkl, Option.map_some] at hx
      injection hx with hx
      obtain ⟨y, hy⟩ : ∃ y, y = xs[k] := ⟨_, rfl⟩
      rw [← hy] at hx
      subst hx
      have HY := Lib.hid (show xs[k]? = some y from by rw [hy]; exact List.getElem?_eq_getElem hkl)
      have hk0 : (0 : Int) ≤ k := by omega
      have hk1 : (k : Int) < n := by omega
      clear hy hkl hr
      cases heq : (x.toList == y.toList)
      · go_wp2_with fail
        go_round
        case rel => exact ⟨k + 1, by omega, by go_num⟩
        case measure => simp [intOf] <;> omega
      · have HXY := Lib.hid ((Lib.bytes_beq_iff _ _).1 heq)
        go_wp2_with fail
        go_ret
        exact ⟨k, rfl, .inr ⟨k, rfl, by rw [HY.out, HXY.out]⟩, rfl⟩
    · go_wp2_with fail
      go_ret
      exact ⟨-1, rfl, .inl rfl, rfl⟩
end Go.Proofs.Ytabjkmennijaeaa.hs
