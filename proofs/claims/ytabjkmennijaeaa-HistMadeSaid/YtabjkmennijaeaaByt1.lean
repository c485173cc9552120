/- (Without slices of slices.) Bytes in this translation: append of bytes and texts onto a slice of bytes that the call owns; conversions. No condition but that lengths are short. -/
import Derived.Test.YtabjkmennijaeaaRows
import Derived.Test.YtabjkmennijaeaaLib
namespace Go.Proofs.Ytabjkmennijaeaa.byt
open Go.RowKit Go.Proofs.Ytabjkmennijaeaa.lib

theorem info_u8 : (Try.prog.info? 5).map (fun i => (i.zero, i.size, i.bytes)) = some (some (.int .u8 0), 1, 1) := by kernel_rfl
abbrev OwnB (w : World) (B : Nat) (A : Option Addr) (c : Nat) (bs : List UInt8) : Prop := w.ownsRow B 5 1 (.slice A bs.length c) bs.length (bytesV bs)
abbrev RdB (w : World) (B : Nat) (A : Option Addr) (bs : List UInt8) : Prop := Reads w B 1 A bs.length (bytesV bs)

theorem append_bytes (w : World) (B : Nat) {A : Option Addr} {n c : Nat} {bs : List UInt8} (hn : n = bs.length) (hown : OwnB w B A c bs)
    {B2 : Nat} {A2 : Option Addr} {m c2 : Nat} {cs : List UInt8} (hm : m = cs.length) (hr : RdB w B2 A2 cs) (hs : bs.length + cs.length ≤ 140737488355328) (hB : B ≤ w.heap.size) :
    ∃ A' c' w', (Builtin.append_ #[23, 23] 23 #[.slice A n c, .slice A2 m c2]).run Try.prog w = .ok (.slice A' (bs ++ cs).length c') w' ∧ OwnB w' B A' c' (bs ++ cs) ∧ Upd w w' A bs.length A' := by
  obtain ⟨i0, hi, hz0, hz1, hz2⟩ := info_parts info_u8
  subst hn hm
  obtain ⟨A', c', w', h1, h2, h3⟩ := append_law (P := Try.prog) w B 23 23 23 5 i0 _ 1 1 Try.underlying23 hi hz0 hz1 hz2 rfl (by decide) hown (Src.of_reads Try.underlying23 (c := c2) hr (bytesV_one _)) (by unfold maxLen; omega) (by omega) hB
  rw [← bytesV_append, ← List.length_append] at h2
  rw [← List.length_append] at h1
  rw [Nat.mul_one] at h3
  exact ⟨A', c', w', h1, h2, h3⟩
theorem append_text (w : World) (B : Nat) {A : Option Addr} {n c : Nat} {bs : List UInt8} (hn : n = bs.length) (hown : OwnB w B A c bs)
    (s : ByteArray) (hs : bs.length + s.size ≤ 140737488355328) (hB : B ≤ w.heap.size) :
    ∃ A' c' w', (Builtin.append_ #[23, 9] 23 #[.slice A n c, .string s]).run Try.prog w = .ok (.slice A' (bs ++ s.data.toList).length c') w' ∧ OwnB w' B A' c' (bs ++ s.data.toList) ∧ Upd w w' A bs.length A' := by
  obtain ⟨i0, hi, hz0, hz1, hz2⟩ := info_parts info_u8
  subst hn
  obtain ⟨A', c', w', h1, h2, h3⟩ := append_law (P := Try.prog) w B 23 9 23 5 i0 _ 1 1 Try.underlying23 hi hz0 hz1 hz2 rfl (by decide) hown (Src.of_string Try.underlying9 s) (by unfold maxLen; omega) (by omega) hB
  have e : s.size = s.data.toList.length := by simp
  rw [bytesV_str, ← bytesV_append, e, ← List.length_append] at h2
  rw [e, ← List.length_append] at h1
  rw [Nat.mul_one] at h3
  exact ⟨A', c', w', h1, h2, h3⟩
theorem conv_text (w : World) {B : Nat} {A : Option Addr} {n c : Nat} {bs : List UInt8} (hn : n = bs.length) (h : RdB w B A bs) :
    (convert 23 9 (.slice A n c)).run Try.prog w = .ok (.string ⟨bs.toArray⟩) w := by
  subst hn
  exact run_bytes_to_string w 23 9 5 Try.underlying23 Try.underlying5 Try.underlying9 h
theorem OwnB.rd {w : World} {B : Nat} {A : Option Addr} {c : Nat} {bs : List UInt8} (h : OwnB w B A c bs) : RdB w w.heap.size A bs := Reads.of_own h
theorem ownB_nil (w : World) (B : Nat) : OwnB w B none 0 [] := World.ownsRow_nil w B _ _
/-- '[]byte{}' -/
theorem ownB_made (w : World) (B : Nat) (hB : B ≤ w.heap.size) : OwnB (w.alloc (.cells #[] 5)) B (some ⟨w.heap.size, 0, none⟩) 0 [] :=
  World.ownsRow_made w #[] 0 hB (by decide) (by simp)
theorem rd_new1 (w : World) (b : UInt8) : RdB (w.alloc (.cells #[.int .u8 (b.toNat : Int)] 5)) (w.heap.size + 1) (some ⟨w.heap.size, 0, none⟩) [b] :=
  Reads.new_ w 1 1 #[.int .u8 (b.toNat : Int)] 5 rfl

/-- A cut of a slice that has an address. -/
theorem RdB.sub {w : World} {B : Nat} {ad : Addr} {bs : List UInt8} (h : RdB w B (some ad) bs) (lo m : Nat) (hm : lo + m ≤ bs.length) : RdB w B (some (ad.add lo)) ((bs.drop lo).take m) := by
  have hl : ((bs.drop lo).take m).length = m := by rw [List.length_take, List.length_drop]; omega
  refine ⟨by rw [bytesV_length, Nat.mul_one], fun h0 => ?_⟩
  obtain ⟨ad', e, hb, hc⟩ := h.2 (by omega)
  injection e with e
  subst e
  refine ⟨_, rfl, by rw [block_of_add]; exact hb, fun j u hu => ?_⟩
  have hj : j < m := by
    have := (List.getElem?_eq_some_iff.1 hu).1
    rwa [bytesV_length, hl] at this
  rw [add_of_add]
  refine hc _ u ?_
  rw [← hu]
  simp only [bytesV, List.map_take, List.map_drop]
  rw [List.getElem?_take_of_lt hj, List.getElem?_drop]

/-- The same as the model spells the address of a cut: at the capacity's end it stays. -/
theorem RdB.sub_if {w : World} {B : Nat} {ad : Addr} {bs : List UInt8} (h : RdB w B (some ad) bs) (lo m c : Nat) (hm : lo + m ≤ bs.length) (hc : bs.length ≤ c) : RdB w B (if c = lo then some ad else some (ad.add lo)) ((bs.drop lo).take m) := by
  split
  · have hl : ((bs.drop lo).take m) = [] := List.eq_nil_of_length_eq_zero (by rw [List.length_take, List.length_drop]; omega)
    rw [hl]
    exact ⟨rfl, fun h => absurd h (by simp)⟩
  · exact h.sub lo m hm

/-! ### slices of slices of bytes -/
/-- The header v leads to the bytes r. -/
def HdB (w : World) (B : Nat) (v : Value) (r : List UInt8) : Prop := ∃ (A : Option Addr) (c : Nat), v = .slice A r.length c ∧ RdB w B A r
theorem HdB.below {w w' : World} {B : Nat} {v : Value} {r : List UInt8} (h : HdB w B v r) (hb : Below B w w') : HdB w' B v r :=
  let ⟨A, c, e, hr⟩ := h; ⟨A, c, e, hr.below hb⟩
theorem HdB.more {w : World} {B B' : Nat} {v : Value} {r : List UInt8} (h : HdB w B v r) (hb : B ≤ B') : HdB w B' v r :=
  let ⟨A, c, e, hr⟩ := h; ⟨A, c, e, hr.more hb⟩
theorem HdB.drewN {w : World} {B : Nat} {v : Value} {r : List UInt8} (h : HdB w B v r) (k : Nat) : HdB (w.drewN k) B v r :=
  let ⟨A, c, e, hr⟩ := h; ⟨A, c, e, hr.drewN k⟩
end Go.Proofs.Ytabjkmennijaeaa.byt
