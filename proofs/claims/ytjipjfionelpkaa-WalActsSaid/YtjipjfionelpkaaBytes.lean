/- Bytes in this translation: append of bytes and texts onto a slice of bytes that the call owns; conversions. No condition but that lengths are short. -/
import Derived.Test.YtjipjfionelpkaaRows
import Derived.Test.YtjipjfionelpkaaLib
namespace Go.Proofs.Ytjipjfionelpkaa.byt
open Go.RowKit Go.Proofs.Ytjipjfionelpkaa.lib

theorem info_u8 : (Try.prog.info? 5).map (fun i => (i.zero, i.size, i.bytes)) = some (some (.int .u8 0), 1, 1) := by kernel_rfl
abbrev OwnB (w : World) (B : Nat) (A : Option Addr) (c : Nat) (bs : List UInt8) : Prop := w.ownsRow B 5 1 (.slice A bs.length c) bs.length (bytesV bs)
abbrev RdB (w : World) (B : Nat) (A : Option Addr) (bs : List UInt8) : Prop := Reads w B 1 A bs.length (bytesV bs)

theorem append_bytes (w : World) (B : Nat) {A : Option Addr} {n c : Nat} {bs : List UInt8} (hn : n = bs.length) (hown : OwnB w B A c bs)
    {B2 : Nat} {A2 : Option Addr} {m c2 : Nat} {cs : List UInt8} (hm : m = cs.length) (hr : RdB w B2 A2 cs) (hs : bs.length + cs.length ≤ 140737488355328) (hB : B ≤ w.heap.size) :
    ∃ A' c' w', (Builtin.append_ #[22, 22] 22 #[.slice A n c, .slice A2 m c2]).run Try.prog w = .ok (.slice A' (bs ++ cs).length c') w' ∧ OwnB w' B A' c' (bs ++ cs) ∧ Upd w w' A bs.length A' := by
  obtain ⟨i0, hi, hz0, hz1, hz2⟩ := info_parts info_u8
  subst hn hm
  obtain ⟨A', c', w', h1, h2, h3⟩ := append_law (P := Try.prog) w B 22 22 22 5 i0 _ 1 1 Try.underlying22 hi hz0 hz1 hz2 rfl (by decide) hown (Src.of_reads Try.underlying22 (c := c2) hr (bytesV_one _)) (by unfold maxLen; omega) (by omega) hB
  rw [← bytesV_append, ← List.length_append] at h2
  rw [← List.length_append] at h1
  rw [Nat.mul_one] at h3
  exact ⟨A', c', w', h1, h2, h3⟩
theorem append_text (w : World) (B : Nat) {A : Option Addr} {n c : Nat} {bs : List UInt8} (hn : n = bs.length) (hown : OwnB w B A c bs)
    (s : ByteArray) (hs : bs.length + s.size ≤ 140737488355328) (hB : B ≤ w.heap.size) :
    ∃ A' c' w', (Builtin.append_ #[22, 9] 22 #[.slice A n c, .string s]).run Try.prog w = .ok (.slice A' (bs ++ s.data.toList).length c') w' ∧ OwnB w' B A' c' (bs ++ s.data.toList) ∧ Upd w w' A bs.length A' := by
  obtain ⟨i0, hi, hz0, hz1, hz2⟩ := info_parts info_u8
  subst hn
  obtain ⟨A', c', w', h1, h2, h3⟩ := append_law (P := Try.prog) w B 22 9 22 5 i0 _ 1 1 Try.underlying22 hi hz0 hz1 hz2 rfl (by decide) hown (Src.of_string Try.underlying9 s) (by unfold maxLen; omega) (by omega) hB
  have e : s.size = s.data.toList.length := by simp
  rw [bytesV_str, ← bytesV_append, e, ← List.length_append] at h2
  rw [e, ← List.length_append] at h1
  rw [Nat.mul_one] at h3
  exact ⟨A', c', w', h1, h2, h3⟩
theorem conv_text (w : World) {B : Nat} {A : Option Addr} {n c : Nat} {bs : List UInt8} (hn : n = bs.length) (h : RdB w B A bs) :
    (convert 22 9 (.slice A n c)).run Try.prog w = .ok (.string ⟨bs.toArray⟩) w := by
  subst hn
  exact run_bytes_to_string w 22 9 5 Try.underlying22 Try.underlying5 Try.underlying9 h
theorem OwnB.rd {w : World} {B : Nat} {A : Option Addr} {c : Nat} {bs : List UInt8} (h : OwnB w B A c bs) : RdB w w.heap.size A bs := Reads.of_own h
theorem ownB_nil (w : World) (B : Nat) : OwnB w B none 0 [] := World.ownsRow_nil w B _ _
/-- '[]byte{}' -/
theorem ownB_made (w : World) (B : Nat) (hB : B ≤ w.heap.size) : OwnB (w.alloc (.cells #[] 5)) B (some ⟨w.heap.size, 0, none⟩) 0 [] :=
  World.ownsRow_made w #[] 0 hB (by decide) (by simp)
theorem rd_new1 (w : World) (b : UInt8) : RdB (w.alloc (.cells #[.int .u8 (b.toNat : Int)] 5)) (w.heap.size + 1) (some ⟨w.heap.size, 0, none⟩) [b] :=
  Reads.new_ w 1 1 #[.int .u8 (b.toNat : Int)] 5 rfl

/-- A cut of a slice that has an address. -/
theorem RdB.sub {w : World} {B : Nat} {ad : Addr} {bs : List UInt8} (h : RdB w B (some ad) bs) (lo m : Nat) (hm : lo + m ≤ bs.length) : RdB w B (some (ad.add lo)) ((bs.drop lo).take m) := by
  have hl : ((bs.drop lo).take m).length = m := by rw [List.length_take, List.length_drop]; omega
  refine ⟨by rw [bytesV_length, Nat.mul_one], fun h0 => ?_⟩
  obtain ⟨ad', e, hb, hc⟩ := h.2 (by omega)
  injection e with e
  subst e
  refine ⟨_, rfl, by rw [block_of_add]; exact hb, fun j u hu => ?_⟩
  have hj : j < m := by
    have := (List.getElem?_eq_some_iff.1 hu).1
    rwa [bytesV_length, hl] at this
  rw [add_of_add]
  refine hc _ u ?_
  rw [← hu]
  simp only [bytesV, List.map_take, List.map_drop]
  rw [List.getElem?_take_of_lt hj, List.getElem?_drop]

/-- The same as the model spells the address of a cut: at the capacity's end it stays. -/
theorem RdB.sub_if {w : World} {B : Nat} {ad : Addr} {bs : List UInt8} (h : RdB w B (some ad) bs) (lo m c : Nat) (hm : lo + m ≤ bs.length) (hc : bs.length ≤ c) : RdB w B (if c = lo then some ad else some (ad.add lo)) ((bs.drop lo).take m) := by
  split
  · have hl : ((bs.drop lo).take m) = [] := List.eq_nil_of_length_eq_zero (by rw [List.length_take, List.length_drop]; omega)
    rw [hl]
    exact ⟨rfl, fun h => absurd h (by simp)⟩
  · exact h.sub lo m hm

/-! ### slices of slices of bytes -/
/-- The header v leads to the bytes r. -/
def HdB (w : World) (B : Nat) (v : Value) (r : List UInt8) : Prop := ∃ (A : Option Addr) (c : Nat), v = .slice A r.length c ∧ RdB w B A r
def RdBB (w : World) (B : Nat) (A : Option Addr) (L : List (List UInt8)) : Prop :=
  ∃ hs : List Value, Reads w B 1 A L.length hs ∧ ∀ i (h : i < L.length), ∃ v, hs[i]? = some v ∧ HdB w B v L[i]
theorem HdB.below {w w' : World} {B : Nat} {v : Value} {r : List UInt8} (h : HdB w B v r) (hb : Below B w w') : HdB w' B v r :=
  let ⟨A, c, e, hr⟩ := h; ⟨A, c, e, hr.below hb⟩
theorem HdB.more {w : World} {B B' : Nat} {v : Value} {r : List UInt8} (h : HdB w B v r) (hb : B ≤ B') : HdB w B' v r :=
  let ⟨A, c, e, hr⟩ := h; ⟨A, c, e, hr.more hb⟩
theorem HdB.drewN {w : World} {B : Nat} {v : Value} {r : List UInt8} (h : HdB w B v r) (k : Nat) : HdB (w.drewN k) B v r :=
  let ⟨A, c, e, hr⟩ := h; ⟨A, c, e, hr.drewN k⟩
theorem RdBB.below {w w' : World} {B : Nat} {A : Option Addr} {L : List (List UInt8)} (h : RdBB w B A L) (hb : Below B w w') : RdBB w' B A L :=
  let ⟨hs, h1, h2⟩ := h; ⟨hs, h1.below hb, fun i hi => let ⟨v, e, hv⟩ := h2 i hi; ⟨v, e, hv.below hb⟩⟩
theorem RdBB.more {w : World} {B B' : Nat} {A : Option Addr} {L : List (List UInt8)} (h : RdBB w B A L) (hb : B ≤ B') : RdBB w B' A L :=
  let ⟨hs, h1, h2⟩ := h; ⟨hs, h1.more hb, fun i hi => let ⟨v, e, hv⟩ := h2 i hi; ⟨v, e, hv.more hb⟩⟩
theorem RdBB.drewN {w : World} {B : Nat} {A : Option Addr} {L : List (List UInt8)} (h : RdBB w B A L) (k : Nat) : RdBB (w.drewN k) B A L :=
  let ⟨hs, h1, h2⟩ := h; ⟨hs, h1.drewN k, fun i hi => let ⟨v, e, hv⟩ := h2 i hi; ⟨v, e, hv.drewN k⟩⟩
theorem RdBB.at_ {w : World} {B : Nat} {A : Option Addr} {L : List (List UInt8)} (h : RdBB w B A L) {k : Nat} (hk : k < L.length) :
    ∃ ad A' c', A = some ad ∧ w.cell? (ad.add k) = some (.slice A' L[k].length c') ∧ RdB w B A' L[k] := by
  obtain ⟨hs, h1, h2⟩ := h
  obtain ⟨ad, u, e, _, hx, hc⟩ := Reads.at_ h1 hk
  obtain ⟨v, hv, A', c', rfl, hr⟩ := h2 k hk
  rw [hv] at hx
  injection hx with hx
  exact ⟨ad, A', c', e, by rw [hc, ← hx], hr⟩

/-! ### a slice of slices of bytes that the call owns: rows of its own, elements in blocks of their own -/
theorem info_hdr : (Try.prog.info? 22).map (fun i => (i.zero, i.size, i.bytes)) = some (some (.slice none 0 0), 1, 24) := by kernel_rfl
def ElemB (w : World) (B : Nat) (A : Option Addr) (v : Value) (r : List UInt8) : Prop :=
  ∃ (Ai : Option Addr) (ci : Nat), v = .slice Ai r.length ci ∧ RdB w w.heap.size Ai r ∧
    ∀ ad, Ai = some ad → ad.block < w.heap.size ∧ B ≤ ad.block ∧ A.map (·.block) ≠ some ad.block ∧ ∀ j, j < r.length → w.frozen? (ad.add j) = false
def OwnBB (w : World) (B : Nat) (A : Option Addr) (c : Nat) (L : List (List UInt8)) : Prop :=
  ∃ hs : List Value, w.ownsRow B 22 1 (.slice A L.length c) L.length hs ∧ ∀ i (h : i < L.length), ∃ v, hs[i]? = some v ∧ ElemB w B A v L[i]
theorem ElemB.hd {w : World} {B : Nat} {A : Option Addr} {v : Value} {r : List UInt8} (h : ElemB w B A v r) : HdB w w.heap.size v r :=
  let ⟨Ai, ci, e, hr, _⟩ := h; ⟨Ai, ci, e, hr⟩
theorem OwnBB.rd {w : World} {B : Nat} {A : Option Addr} {c : Nat} {L : List (List UInt8)} (h : OwnBB w B A c L) : RdBB w w.heap.size A L :=
  let ⟨hs, h1, h2⟩ := h; ⟨hs, Reads.of_own h1, fun i hi => let ⟨v, e, hv⟩ := h2 i hi; ⟨v, e, hv.hd⟩⟩
theorem ownBB_nil (w : World) (B : Nat) : OwnBB w B none 0 [] := ⟨[], World.ownsRow_nil w B _ _, fun i h => absurd h (by simp)⟩
/-- All blocks but A's are as they were. -/
theorem ElemB.upd {w w' : World} {B k : Nat} {A A' : Option Addr} {v : Value} {r : List UInt8} (h : ElemB w B A v r) (hu : Upd w w' A k A') : ElemB w' B A' v r := by
  obtain ⟨Ai, ci, e, hr, ha⟩ := h
  have hblk : ∀ ad, Ai = some ad → w'.heap[ad.block]? = w.heap[ad.block]? := fun ad e => hu.grown.block _ (ha ad e).1 (Ne.symm (ha ad e).2.2.1)
  refine ⟨Ai, ci, e, ⟨hr.1, fun hn => ?_⟩, fun ad ea => ?_⟩
  · obtain ⟨ad, e2, hb, hc⟩ := hr.2 hn
    refine ⟨ad, e2, Nat.lt_of_lt_of_le hb hu.size, fun j u hu' => ?_⟩
    rw [World.cell?_of_block (w := w) (by rw [block_of_add]; exact hblk ad e2)]
    exact hc j u hu'
  · obtain ⟨h1, h2, h3, h4⟩ := ha ad ea
    refine ⟨Nat.lt_of_lt_of_le h1 hu.size, h2, ?_, fun j hj => ?_⟩
    · rcases hu.lies with e' | ⟨g, e', hg⟩
      · rw [e']; exact h3
      · rw [e']
        simp only [Option.map_some, ne_eq, Option.some.injEq]
        omega
    · rw [World.frozen?_of_block (w := w) (by rw [block_of_add]; exact hblk ad ea)]
      exact h4 j hj
theorem ElemB.below {w w' : World} {B : Nat} {A : Option Addr} {v : Value} {r : List UInt8} (h : ElemB w B A v r) {k : Nat} (hb : Below k w w') (hk : w.heap.size ≤ k) : ElemB w' B A v r := by
  have hb := hb.mono hk
  obtain ⟨Ai, ci, e, hr, ha⟩ := h
  refine ⟨Ai, ci, e, (hr.below hb).more hb.size, fun ad ea => ?_⟩
  obtain ⟨h1, h2, h3, h4⟩ := ha ad ea
  refine ⟨Nat.lt_of_lt_of_le h1 hb.size, h2, h3, fun j hj => ?_⟩
  rw [hb.frozen (by rw [block_of_add]; exact h1)]
  exact h4 j hj
theorem OwnBB.below {w w' : World} {B : Nat} {A : Option Addr} {c : Nat} {L : List (List UInt8)} (h : OwnBB w B A c L) {k : Nat} (hb : Below k w w') (hk : w.heap.size ≤ k) : OwnBB w' B A c L :=
  let ⟨hs, h1, h2⟩ := h; ⟨hs, own_below h1 hb hk, fun i hi => let ⟨v, e, hv⟩ := h2 i hi; ⟨v, e, hv.below hb hk⟩⟩
theorem append_hdr (w : World) (B : Nat) {A : Option Addr} {n c : Nat} {L : List (List UInt8)} (hn : n = L.length) (hown : OwnBB w B A c L) {v : Value} {r : List UInt8} (hv : ElemB w B A v r)
    (hs : L.length ≤ 1099511627776) (hB : B ≤ w.heap.size) :
    ∃ A' c' w', (Builtin.append_ #[43, 43] 43 #[.slice A n c, .slice (some ⟨w.heap.size, 0, none⟩) 1 1]).run Try.prog (w.alloc (.cells #[v] 22)) = .ok (.slice A' (L ++ [r]).length c') w' ∧
      OwnBB w' B A' c' (L ++ [r]) ∧ Below B w w' := by
  obtain ⟨i0, hi, hz0, hz1, hz2⟩ := info_parts info_hdr
  subst hn
  obtain ⟨hs', h1, h2⟩ := hown
  have hb1 : Below w.heap.size w (w.alloc (.cells #[v] 22)) := (Below.refl _ _).alloc (Nat.le_refl _) _
  have hone : ∀ u ∈ [v], u.oneCell' = true := by
    intro u hu
    obtain ⟨Ai, ci, e, _⟩ := hv
    rw [List.mem_singleton] at hu
    rw [hu, e]; rfl
  obtain ⟨A', c', w', hr1, hr2, hr3⟩ := append_law (P := Try.prog) (w.alloc (.cells #[v] 22)) B 43 43 43 22 i0 _ 1 24 Try.underlying43 hi hz0 hz1 hz2 rfl (by decide) (World.ownsRow.alloc h1 _)
    (Src.of_reads Try.underlying43 (c := 1) (Reads.new_ w 1 1 #[v] 22 rfl) hone) (by unfold maxLen; omega) (by omega) (by simp; omega)
  refine ⟨A', c', w', by rw [hr1, List.length_append]; rfl, ⟨hs' ++ [v], by rw [List.length_append]; exact hr2, fun i hi => ?_⟩, (hb1.mono hB).trans (hr3.below_own (World.ownsRow.alloc h1 _) (by simp; omega))⟩
  have hlen : hs'.length = L.length := by have := h1.1; omega
  rcases Nat.lt_or_ge i L.length with hlt | hge
  · obtain ⟨u, hu, he⟩ := h2 i hlt
    refine ⟨u, by rw [List.getElem?_append_left (by omega)]; exact hu, ?_⟩
    rw [List.getElem_append_left hlt]
    exact (he.below hb1 (Nat.le_refl _)).upd hr3
  · have hil : i = L.length := by rw [List.length_append] at hi; simp at hi; omega
    subst hil
    refine ⟨v, by rw [List.getElem?_append_right (by omega), hlen]; simp, ?_⟩
    rw [List.getElem_append_right (Nat.le_refl _)]
    simpa using (hv.below hb1 (Nat.le_refl _)).upd hr3
/-- '[]byte(text)' as an element. -/
theorem elem_text (w : World) (B : Nat) (A : Option Addr) (s : ByteArray) (hB : B ≤ w.heap.size) (hA : ∀ ad, A = some ad → ad.block < w.heap.size) :
    ∃ c w', (convert 9 22 (.string s)).run Try.prog w = .ok (.slice (some ⟨w.heap.size, 0, none⟩) s.data.toList.length c) w' ∧ Below w.heap.size w w' ∧
      ElemB w' B A (.slice (some ⟨w.heap.size, 0, none⟩) s.data.toList.length c) s.data.toList := by
  obtain ⟨c, w', h1, h2, h3, h4⟩ := run_string_to_bytes (P := Try.prog) w 9 22 5 s Try.underlying9 Try.underlying22 Try.underlying5
  have e : s.size = s.data.toList.length := by simp
  have hadd : ∀ j, (⟨w.heap.size, 0, none⟩ : Addr).add j = ⟨w.heap.size, j, none⟩ := fun j => add_at _ j
  refine ⟨c, w', by rw [h1, e], h2, some ⟨w.heap.size, 0, none⟩, c, rfl, reads_of_cells (by omega) (fun j hj => (h4 j (by omega)).1), fun ad ea => ?_⟩
  injection ea with ea
  subst ea
  refine ⟨by simp only; omega, hB, ?_, fun j hj => ?_⟩
  · rcases A with _ | ad
    · simp
    · have := hA ad rfl
      simp only [Option.map_some, ne_eq, Option.some.injEq]
      omega
  · rw [hadd]
    exact (h4 j (by omega)).2
theorem ownBB_lt {w : World} {B : Nat} {A : Option Addr} {c : Nat} {L : List (List UInt8)} (h : OwnBB w B A c L) : ∀ ad, A = some ad → ad.block < w.heap.size :=
  fun ad e => by subst e; obtain ⟨hs, h1, _⟩ := h; exact (h1.lt ad.block rfl).2
end Go.Proofs.Ytjipjfionelpkaa.byt
