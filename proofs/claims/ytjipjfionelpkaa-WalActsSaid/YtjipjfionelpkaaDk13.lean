/- Two disks, one the other's clone: what each leans on, what each leaves. -/
import Derived.Test.YtjipjfionelpkaaDk12
namespace Go.Proofs.Ytjipjfionelpkaa.dk
open Go.RowKit Go.Proofs.Ytjipjfionelpkaa.lib Go.Proofs.Ytjipjfionelpkaa.byt
set_option linter.unusedVariables false

/-- Block b holds bytes of a loose change. -/
def EB (H : List Hd) (b : Nat) : Prop := ∃ hd ∈ H, ∃ (ad : Addr) (n c : Nat), hd.2.2 = .slice (some ad) n c ∧ ad.block = b
/-- All blocks but the disk's own. -/
def maxF (w : World) (d : Nat) (A : Nat → Option Addr) (AL : Option Addr) (b : Nat) : Prop := b < w.heap.size ∧ b ≠ d ∧ (∀ k, k < 4 → (A k).map (·.block) ≠ some b) ∧ AL.map (·.block) ≠ some b
def maxG (w : World) (d : Nat) (A : Nat → Option Addr) (AL : Option Addr) (H : List Hd) (b : Nat) : Prop := maxF w d A AL b ∧ ¬ EB H b
section
variable {w w' : World} {F G : Nat → Prop} {d : Nat} {s : DS} {A : Nat → Option Addr} {c : Nat → Nat} {AL : Option Addr} {cL : Nat} {H : List Hd}
theorem DiskP.notEB (h : DiskP w F G d s A c AL cL H) {b : Nat} (he : EB H b) : maxF w d A AL b := by
  obtain ⟨hd, hm, ad, n, cc, e, rfl⟩ := he
  obtain ⟨i, hi, ei⟩ := List.getElem_of_mem hm
  obtain ⟨_, _, Ai, ci, e1, _, _, ha⟩ := h.elem i hi (by rw [← h.hlen]; exact hi)
  rw [ei, e] at e1
  injection e1 with e2 _ _
  obtain ⟨g1, _, g3, g4, g5⟩ := ha ad e2.symm
  exact ⟨g1, g3, g4, g5⟩
theorem DiskP.max (h : DiskP w F G d s A c AL cL H) : DiskP w (maxF w d A AL) (maxG w d A AL H) d s A c AL cL H := by
  refine ⟨h.cells, fun hf => hf.2.1 rfl, fun b hb => hb.1, fun b hb => hb.1, h.own, h.notd, fun k hk b hb hf => hf.2.2.1 k hk hb, h.apart, h.row, h.rowd, fun b hb hf => hf.2.2.2 hb, h.rowa, h.hlen, fun i h1 h2 => ?_⟩
  obtain ⟨ea, eb, Ai, ci, e, hr, hc, ha⟩ := h.elem i h1 h2
  refine ⟨ea, eb, Ai, ci, e, hr, hc, fun ad e2 => ?_⟩
  obtain ⟨g1, g2, g3, g4, g5⟩ := ha ad e2
  refine ⟨g1, fun hg => hg.2 ⟨H[i], List.getElem_mem h1, ad, s.lo[i].2.2.length, ci, by rw [e, e2], rfl⟩, g3, g4, g5⟩
theorem DiskP.toMax (h : DiskP w F G d s A c AL cL H) : (∀ b, F b → maxF w d A AL b) ∧ ∀ b, G b → maxG w d A AL H b := by
  have hF : ∀ b, F b → maxF w d A AL b := fun b hb => ⟨h.flt b hb, fun e => h.base (e ▸ hb), fun k hk e => h.notF k hk b e hb, fun e => h.rowF b e hb⟩
  refine ⟨hF, fun b hb => ⟨hF b (h.ebase b hb), fun he => ?_⟩⟩
  obtain ⟨hd, hm, ad, n, cc, e, rfl⟩ := he
  obtain ⟨i, hi, ei⟩ := List.getElem_of_mem hm
  obtain ⟨_, _, Ai, ci, e1, _, _, ha⟩ := h.elem i hi (by rw [← h.hlen]; exact hi)
  rw [ei, e] at e1
  injection e1 with e2 _ _
  exact (ha ad e2.symm).2.1 hb
end
/-- A disk p with F, G, a disk q with F', G': what q doesn't leave p doesn't lean on, and the other way. -/
def Beside (w : World) (F G F' G' : Nat → Prop) : Prop := ∀ b, b < w.heap.size → (F b ∨ G' b) ∧ (F' b ∨ G b)
/-- What has come since goes to F. -/
def plus (w w' : World) (F : Nat → Prop) (b : Nat) : Prop := b < w'.heap.size ∧ (F b ∨ w.heap.size ≤ b)
section
variable {w w' : World} {F G F' G' : Nat → Prop} {d : Nat} {s : DS}
/-- Memory has come that is not the disk's. -/
theorem DiskM.plus (h : DiskM w F G d s) {k : Nat} (hb : Below k w w') (hk : w.heap.size ≤ k) : DiskM w' (plus w w' F) (plus w w' G) d s := by
  obtain ⟨_, _, hGF, hlt⟩ := h.lt
  refine h.keepF (fun b hb' => ⟨hb'.1, hb'.2.imp_left (hGF b)⟩) (fun b hb' => hb') (fun b hb' => hb'.2) hb.size fun b h1 _ => hb.block b (by omega)
/-- Another disk has done something. -/
theorem DiskM.other (h : DiskM w F G d s) (hb : BelF F' w w') (hs : ∀ b, b < w.heap.size → F' b ∨ G b) : DiskM w' (dk.plus w w' F) (dk.plus w w' G) d s := by
  obtain ⟨_, _, hGF, hlt⟩ := h.lt
  refine h.keepF (fun b hb' => ⟨hb'.1, hb'.2.imp_left (hGF b)⟩) (fun b hb' => hb') (fun b hb' => hb'.2) hb.size fun b h1 h2 => hb.block b h1 ((hs b h1).resolve_right h2)
theorem plus_of (hb : w.heap.size ≤ w'.heap.size) (hF : ∀ b, F b → b < w.heap.size) {b : Nat} (h : F b) : plus w w' F b := ⟨Nat.lt_of_lt_of_le (hF b h) hb, .inl h⟩
/-- q has acted, p's sets have got what is new. -/
theorem Beside.act (h : Beside w F G F' G') (hs : w.heap.size ≤ w'.heap.size) : Beside w' (plus w w' F) (plus w w' G) F' G' := fun b hb => by
  by_cases hlt : b < w.heap.size
  · exact ⟨(h b hlt).1.imp_left fun x => ⟨hb, .inl x⟩, (h b hlt).2.imp_right fun x => ⟨hb, .inl x⟩⟩
  · exact ⟨.inl ⟨hb, .inr (by omega)⟩, .inr ⟨hb, .inr (by omega)⟩⟩
theorem Beside.symm (h : Beside w F G F' G') : Beside w F' G' F G := fun b hb => ⟨(h b hb).2, (h b hb).1⟩
end
/-- Clone of a disk: two disks beside one another. -/
theorem clone_two (w : World) {F G : Nat → Prop} {d : Nat} {s : DS} (h : DiskM w F G d s) (hs : ShortD s 0) :
    Calls Try.prog 27 #[.pointer (some ⟨d, 0, none⟩)] w fun e w' => e = .returned (.pointer (some ⟨w.heap.size, 0, none⟩)) ∧ (∃ F1 G1 F2 G2, DiskM w' F1 G1 d s ∧ DiskM w' F2 G2 w.heap.size s ∧ Beside w' F1 G1 F2 G2 ∧ (∀ b, F b → F1 b ∧ F2 b) ∧ (∀ b, G b → G1 b ∧ G2 b)) ∧ Below w.heap.size w w' := by
  obtain ⟨A, c, AL, cL, H, hP⟩ := h
  refine (clones_any w hP hs).mono ?_
  rintro e w' ⟨rfl, ⟨A', c', AL', cL', hQ⟩, hb⟩
  refine ⟨rfl, ⟨plus w w' (maxF w d A AL), plus w w' (maxG w d A AL H), maxF w' w.heap.size A' AL', maxG w' w.heap.size A' AL' H, hP.max.mem.plus hb (Nat.le_refl _), hQ.max.mem, fun b hlt => ?_, fun b hf => ?_, fun b hg => ?_⟩, hb⟩
  · have hrow : w.heap.size > b → maxF w' w.heap.size A' AL' b := fun hb' => hQ.toMax.1 b hb'
    by_cases hlt2 : b < w.heap.size
    · refine ⟨?_, .inl (hrow hlt2)⟩
      by_cases hm : maxF w d A AL b
      · exact .inl ⟨hlt, .inl hm⟩
      · exact .inr ⟨hrow hlt2, fun he => hm (hP.notEB he)⟩
    · exact ⟨.inl ⟨hlt, .inr (by omega)⟩, .inr ⟨hlt, .inr (by omega)⟩⟩
  · have := hP.flt b hf
    exact ⟨⟨Nat.lt_of_lt_of_le this hb.size, .inl (hP.toMax.1 b hf)⟩, hQ.toMax.1 b this⟩
  · have := hP.flt b (hP.ebase b hg)
    exact ⟨⟨Nat.lt_of_lt_of_le this hb.size, .inl (hP.toMax.2 b hg)⟩, ⟨hQ.toMax.1 b this, (hP.toMax.2 b hg).2⟩⟩

/-! ### what reads, and lies in blocks of F -/
def ReadsF (w : World) (F : Nat → Prop) (size : Nat) (A : Option Addr) (n : Nat) (xs : List Value) : Prop := Reads w w.heap.size size A n xs ∧ (0 < n → ∃ ad, A = some ad ∧ F ad.block)
abbrev RdF (w : World) (F : Nat → Prop) (A : Option Addr) (bs : List UInt8) : Prop := ReadsF w F 1 A bs.length (bytesV bs)
section
variable {w w' : World} {F F' : Nat → Prop} {size n : Nat} {A : Option Addr} {xs : List Value} {bs : List UInt8}
theorem ReadsF.rd (h : ReadsF w F size A n xs) : Reads w w.heap.size size A n xs := h.1
theorem ReadsF.keep (h : ReadsF w F size A n xs) (hs : w.heap.size ≤ w'.heap.size) (hk : ∀ b, b < w.heap.size → F b → w'.heap[b]? = w.heap[b]?) : ReadsF w' F size A n xs := by
  refine ⟨⟨h.1.1, fun hn => ?_⟩, h.2⟩
  obtain ⟨ad, e, hb, hc⟩ := h.1.2 hn
  obtain ⟨ad', e', hF⟩ := h.2 hn
  rw [e] at e'
  injection e' with e'
  subst e'
  refine ⟨ad, e, by omega, fun j u hu => ?_⟩
  rw [World.cell?_of_block (w := w) (by rw [block_of_add]; exact hk _ hb hF)]
  exact hc j u hu
theorem ReadsF.bel (h : ReadsF w F size A n xs) (hb : BelF F w w') : ReadsF w' F size A n xs := h.keep hb.size hb.block
theorem ReadsF.below (h : ReadsF w F size A n xs) {k : Nat} (hb : Below k w w') (hk : w.heap.size ≤ k) : ReadsF w' F size A n xs := h.keep hb.size fun b hlt _ => hb.block b (by omega)
theorem ReadsF.mono (h : ReadsF w F size A n xs) (hF : ∀ b, F b → F' b) : ReadsF w F' size A n xs := ⟨h.1, fun hn => let ⟨ad, e, h1⟩ := h.2 hn; ⟨ad, e, hF _ h1⟩⟩
theorem ReadsF.of_reads {B : Nat} (h : Reads w B size A n xs) (hB : B ≤ w.heap.size) (hF : ∀ b, b < B → F b) : ReadsF w F size A n xs := ⟨h.more hB, fun hn => let ⟨ad, e, hb, _⟩ := h.2 hn; ⟨ad, e, hF _ hb⟩⟩
theorem ReadsF.of_own {B c : Nat} {e : TypeId} (h : w.ownsRow B e size (.slice A n c) n xs) (hF : ∀ b, B ≤ b → b < w.heap.size → F b) : ReadsF w F size A n xs :=
  ⟨Reads.of_own h, fun hn => by
    obtain ⟨ad, e, hb, _⟩ := (Reads.of_own h).2 hn
    subst e
    obtain ⟨h1, h2⟩ := own_row h (b := ad.block) rfl
    exact ⟨ad, rfl, hF _ h1 h2⟩⟩
theorem ReadsF.nil : ReadsF w F size none 0 [] := ⟨Reads.none_, fun h => absurd h (Nat.lt_irrefl _)⟩
end
end Go.Proofs.Ytjipjfionelpkaa.dk
