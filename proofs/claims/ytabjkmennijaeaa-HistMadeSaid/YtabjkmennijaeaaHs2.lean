/- A search in memory; what a call makes of a value. -/
import Derived.Test.YtabjkmennijaeaaHs1
import Derived.Deep.QuietTactic
import Derived.BigQuiet
namespace Go.Proofs.Ytabjkmennijaeaa.hs
open Go.RowKit Go.Proofs.Ytabjkmennijaeaa.lib Go.Proofs.Ytabjkmennijaeaa.byt
set_option linter.unusedVariables false

theorem store_cx (w : World) (a : Addr) (m : Mode) : (store a (.complex .f64 0 0) m).run Try.prog w = stored Try.prog w a (.complex .f64 0 0) m := run_store _ _ _ _ _ rfl
/-- As it was, but for block mb. -/
structure Keep (mb : Nat) (w w' : World) : Prop where
  os : w'.os = w.os
  tape : w'.tape = w.tape
  output : w'.output = w.output
  size : w.heap.size ≤ w'.heap.size
  block : ∀ b, b < w.heap.size → b ≠ mb → w'.heap[b]? = w.heap[b]?
section
variable {w w' w2 : World} {mb k : Nat}
theorem Keep.refl (mb : Nat) (w : World) : Keep mb w w := ⟨rfl, rfl, rfl, Nat.le_refl _, fun _ _ _ => rfl⟩
theorem Keep.trans (h : Keep mb w w') (h2 : Keep mb w' w2) : Keep mb w w2 :=
  ⟨h2.os.trans h.os, h2.tape.trans h.tape, h2.output.trans h.output, Nat.le_trans h.size h2.size, fun b hb hf => (h2.block b (Nat.lt_of_lt_of_le hb h.size) hf).trans (h.block b hb hf)⟩
theorem Keep.of (h : Below k w w') (hk : w.heap.size ≤ k) : Keep mb w w' := ⟨h.os, h.tape, h.output, h.size, fun b hb _ => h.block b (by omega)⟩
theorem Keep.to_below (h : Keep mb w w') {B : Nat} (hB : B ≤ w.heap.size) (hm : B ≤ mb) : Below B w w' := ⟨h.os, h.tape, h.output, h.size, fun b hb => h.block b (by omega) (by omega)⟩
end
/-- Reads, and lies in another block than mb. -/
def RdX (w : World) (mb size : Nat) (A : Option Addr) (n : Nat) (xs : List Value) : Prop := Reads w w.heap.size size A n xs ∧ (0 < n → ∀ ad, A = some ad → ad.block ≠ mb)
theorem RdX.keep {w w' : World} {mb size n : Nat} {A : Option Addr} {xs : List Value} (h : RdX w mb size A n xs) (hk : Keep mb w w') : RdX w' mb size A n xs := by
  refine ⟨⟨h.1.1, fun hn => ?_⟩, h.2⟩
  obtain ⟨ad, e, hb, hc⟩ := h.1.2 hn
  refine ⟨ad, e, Nat.lt_of_lt_of_le hb hk.size, fun j u hu => ?_⟩
  rw [World.cell?_of_block (w := w) (by rw [block_of_add]; exact hk.block _ hb (h.2 hn ad e))]
  exact hc j u hu
structure SearchP (w : World) (sb mb n nv : Nat) (L : List Dn) (V : List ByteArray) (T Hd : List Nat) (Ac : Option Addr) (cc : Nat) (Av : Option Addr) (cv : Nat) (At : Option Addr) (ct : Nat) (Aa : Option Addr) (ca : Nat) : Prop where
  hn : n = L.length
  nT : n = T.length
  nH : n = Hd.length
  nV : nv = V.length
  box : w.heap[sb]? = some (.cells #[.slice Ac n cc, .slice Av nv cv, .slice At n ct, .slice Aa n ca, .map (some mb)] 51 (0, 0))
  ne : sb ≠ mb
  rc : RdX w mb 15 Ac n (rowD L)
  rv : RdX w mb 1 Av nv (V.map .string)
  rt : RdX w mb 1 At n (T.map fun t : Nat => .int .i64 (t : Int))
  ra : RdX w mb 1 Aa n (Hd.map fun t : Nat => .int .u64 (t : Int))
section
variable {w w' : World} {sb mb n nv : Nat} {L : List Dn} {V : List ByteArray} {T Hd : List Nat} {Ac : Option Addr} {cc : Nat} {Av : Option Addr} {cv : Nat} {At : Option Addr} {ct : Nat} {Aa : Option Addr} {ca : Nat}
theorem SearchP.lt (h : SearchP w sb mb n nv L V T Hd Ac cc Av cv At ct Aa ca) : sb < w.heap.size := (Array.getElem?_eq_some_iff.1 h.box).1
theorem SearchP.keep (h : SearchP w sb mb n nv L V T Hd Ac cc Av cv At ct Aa ca) (hk : Keep mb w w') : SearchP w' sb mb n nv L V T Hd Ac cc Av cv At ct Aa ca :=
  ⟨h.hn, h.nT, h.nH, h.nV, (hk.block sb h.lt h.ne).trans h.box, h.ne, h.rc.keep hk, h.rv.keep hk, h.rt.keep hk, h.ra.keep hk⟩
theorem SearchP.cells (h : SearchP w sb mb n nv L V T Hd Ac cc Av cv At ct Aa ca) : w.cell? ⟨sb, 0, none⟩ = some (.slice Ac n cc) ∧ w.cell? ⟨sb, 1, none⟩ = some (.slice Av nv cv) ∧ w.cell? ⟨sb, 2, none⟩ = some (.slice At n ct) ∧ w.cell? ⟨sb, 3, none⟩ = some (.slice Aa n ca) ∧ w.cell? ⟨sb, 4, none⟩ = some (.map (some mb)) :=
  ⟨by rw [cell_of_row _ _ _ _ _ (0, 0) h.box]; rfl, by rw [cell_of_row _ _ _ _ _ (0, 0) h.box]; rfl, by rw [cell_of_row _ _ _ _ _ (0, 0) h.box]; rfl, by rw [cell_of_row _ _ _ _ _ (0, 0) h.box]; rfl, by rw [cell_of_row _ _ _ _ _ (0, 0) h.box]; rfl⟩
theorem SearchP.call (h : SearchP w sb mb n nv L V T Hd Ac cc Av cv At ct Aa ca) {i : Nat} (hi : i < n) : ∃ ad d, Ac = some ad ∧ L[i]? = some d ∧ CellsD w ad i d := by
  have hl : i < L.length := by rw [← h.hn]; exact hi
  have hr := h.rc.1
  rw [h.hn] at hr
  obtain ⟨ad, e, _, hc⟩ := RdD.at_ hr hl
  exact ⟨ad, L[i], e, List.getElem?_eq_getElem hl, hc⟩
theorem SearchP.val (h : SearchP w sb mb n nv L V T Hd Ac cc Av cv At ct Aa ca) {i : Nat} (hi : i < nv) : ∃ ad x, Av = some ad ∧ V[i]? = some x ∧ w.cell? (ad.add i) = some (.string x) := by
  have hl : i < V.length := by rw [← h.nV]; exact hi
  obtain ⟨ad, u, e, _, hx, hc⟩ := Reads.at_ h.rv.1 hi
  rw [List.getElem?_map, List.getElem?_eq_getElem hl, Option.map_some] at hx
  injection hx with hx
  exact ⟨ad, V[i], e, List.getElem?_eq_getElem hl, by rw [hc, ← hx]⟩
theorem SearchP.toI (h : SearchP w sb mb n nv L V T Hd Ac cc Av cv At ct Aa ca) {i : Nat} (hi : i < n) : ∃ ad x, At = some ad ∧ T[i]? = some x ∧ w.cell? (ad.add i) = some (.int .i64 (x : Int)) := by
  have hl : i < T.length := by rw [← h.nT]; exact hi
  obtain ⟨ad, u, e, _, hx, hc⟩ := Reads.at_ h.rt.1 hi
  rw [List.getElem?_map, List.getElem?_eq_getElem hl, Option.map_some] at hx
  injection hx with hx
  exact ⟨ad, T[i], e, List.getElem?_eq_getElem hl, by rw [hc, ← hx]⟩
theorem SearchP.ahead (h : SearchP w sb mb n nv L V T Hd Ac cc Av cv At ct Aa ca) {i : Nat} (hi : i < n) : ∃ ad x, Aa = some ad ∧ Hd[i]? = some x ∧ w.cell? (ad.add i) = some (.int .u64 (x : Int)) := by
  have hl : i < Hd.length := by rw [← h.nH]; exact hi
  obtain ⟨ad, u, e, _, hx, hc⟩ := Reads.at_ h.ra.1 hi
  rw [List.getElem?_map, List.getElem?_eq_getElem hl, Option.map_some] at hx
  injection hx with hx
  exact ⟨ad, Hd[i], e, List.getElem?_eq_getElem hl, by rw [hc, ← hx]⟩
end
/-- Does an answer tell that value? -/
def saysP (d : Dn) : Option ByteArray → Bool
  | none => !d.has
  | some x => d.has && (d.rv.toList == x.toList)
def swapP (d : Dn) : Option ByteArray → Bool
  | none => !d.hold
  | some x => d.hold && (x.toList == d.old.toList)
/-- The value behind a call, and whether the call says what it should. -/
def doesP (d : Dn) (v : Option ByteArray) : Option ByteArray × Bool :=
  if d.kind = 1 then (v, !ans d || (d.code == (if v.isSome then 0 else 1) && saysP d v))
  else if d.kind = 2 then (some d.val, !ans d || d.code == 0)
  else if d.kind = 3 then (none, !ans d || d.code == 0)
  else if d.kind = 4 then (if swapP d v = true then (some d.val, !ans d || d.code == 0) else (v, !ans d || (d.code == 2 && saysP d v)))
  else (v, !ans d)
def valOf (V : List ByteArray) (num : Nat) : Option ByteArray := if num = 0 then none else V[num]?
/-- The number of the value behind a call. -/
def numP (d : Dn) (t num : Nat) (v : Option ByteArray) : Nat :=
  if d.kind = 1 then num else if d.kind = 2 then t else if d.kind = 3 then 0 else if d.kind = 4 then (if swapP d v = true then t else num) else num
theorem numP_val {V : List ByteArray} {d : Dn} {t num : Nat} (ht : 0 < t) (hv : V[t]? = some d.val) : valOf V (numP d t num (valOf V num)) = (doesP d (valOf V num)).1 := by
  have h0 : valOf V t = some d.val := by unfold valOf; rw [if_neg (by omega), hv]
  unfold numP doesP
  split
  · rfl
  · split
    · exact h0
    · split
      · rfl
      · split
        · split
          · exact h0
          · rfl
        · rfl
end Go.Proofs.Ytabjkmennijaeaa.hs
