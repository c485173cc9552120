/- What Open of a log does. -/
import Derived.Test.YtjipjfionelpkaaWl2
namespace Go.Proofs.Ytjipjfionelpkaa.wl
open Go.RowKit Go.Proofs.Ytjipjfionelpkaa.lib Go.Proofs.Ytjipjfionelpkaa.byt Go.Proofs.Ytjipjfionelpkaa.dk Go.Proofs.Ytjipjfionelpkaa.framePlain Go.Proofs.Ytjipjfionelpkaa.frameWalk
set_option linter.unusedVariables false

/-- The header v leads to the bytes r, in a block of T that may be written. -/
def HdT (w : World) (T : Nat → Prop) (v : Value) (r : List UInt8) : Prop := ∃ (A : Option Addr) (c : Nat), v = .slice A r.length c ∧ RdF w T A r ∧ ScrT w T A r.length
/-- Records, row and bytes in blocks of T. -/
def RdT (w : World) (T : Nat → Prop) (A : Option Addr) (L : List (List UInt8)) : Prop := ∃ hs : List Value, ReadsF w T 1 A L.length hs ∧ ∀ i (h : i < L.length), ∃ v, hs[i]? = some v ∧ HdT w T v L[i]
theorem HdT.keep {w w' : World} {T T' : Nat → Prop} {v : Value} {r : List UInt8} (h : HdT w T v r) (hs : w.heap.size ≤ w'.heap.size) (hT : ∀ b, T b → T' b) (hk : ∀ b, T b → b < w.heap.size → w'.heap[b]? = w.heap[b]?) : HdT w' T' v r := by
  obtain ⟨A, c, e, h1, h2⟩ := h
  exact ⟨A, c, e, (h1.keep hs fun b hb hf => hk b hf hb).mono hT, h2.keep hT hk⟩
theorem RdT.keep {w w' : World} {T T' : Nat → Prop} {A : Option Addr} {L : List (List UInt8)} (h : RdT w T A L) (hs : w.heap.size ≤ w'.heap.size) (hT : ∀ b, T b → T' b) (hk : ∀ b, T b → b < w.heap.size → w'.heap[b]? = w.heap[b]?) : RdT w' T' A L := by
  obtain ⟨H, h1, h2⟩ := h
  exact ⟨H, (h1.keep hs fun b hb hf => hk b hf hb).mono hT, fun i hi => let ⟨v, e, hv⟩ := h2 i hi; ⟨v, e, hv.keep hs hT hk⟩⟩
theorem RdT.rd {w : World} {T : Nat → Prop} {A : Option Addr} {L : List (List UInt8)} (h : RdT w T A L) : RdBB w w.heap.size A L := by
  obtain ⟨H, h1, h2⟩ := h
  exact ⟨H, h1.rd, fun i hi => by obtain ⟨v, e, A', c', e2, h3, _⟩ := h2 i hi; exact ⟨v, e, A', c', e2, h3.rd⟩⟩
theorem elemB_T {w : World} {B : Nat} {A : Option Addr} {v : Value} {r : List UInt8} (h : ElemB w B A v r) : HdT w (fun b => B ≤ b ∧ b < w.heap.size) v r := by
  obtain ⟨Ai, ci, e, hr, ha⟩ := h
  refine ⟨Ai, ci, e, ⟨hr, fun hn => ?_⟩, fun h0 => ?_⟩
  · obtain ⟨ad, e2, hb, _⟩ := hr.2 hn
    obtain ⟨g1, g2, _⟩ := ha ad e2
    exact ⟨ad, e2, g2, g1⟩
  · obtain ⟨ad, e2, hb, hc⟩ := hr.2 h0
    obtain ⟨g1, g2, _, g4⟩ := ha ad e2
    exact ⟨ad, e2, ⟨g2, g1⟩, fun j hj => ⟨⟨_, hc j _ (dk.bytesV_get r j hj)⟩, g4 j hj⟩⟩
structure OpenedAt (w w' : World) (F G F2 G2 TP TR : Nat → Prop) (d lb : Nat) (s' : DS) (sz : Int) (pic : List UInt8) (recs : List (List UInt8)) (A0 : Option Addr) (n0 c0 : Nat) (A1 : Option Addr) (n1 c1 : Nat) : Prop where
  disk : DiskM w' F2 G2 d s'
  log : LogAt w' lb d sz
  lbG : G2 lb
  lbnew : w.heap.size ≤ lb
  subF : ∀ b, F b → F2 b
  subG : ∀ b, G b → G2 b
  hn0 : n0 = pic.length
  hn1 : n1 = recs.length
  pict : HdT w' TP (.slice A0 n0 c0) pic
  recd : RdT w' TR A1 recs
  tp : ∀ b, TP b → G2 b ∧ w.heap.size ≤ b ∧ b ≠ lb
  tr : ∀ b, TR b → G2 b ∧ w.heap.size ≤ b ∧ b ≠ lb ∧ ¬ TP b
  frame : BelF F w w'
def ROpen (w : World) (F G : Nat → Prop) (d : Nat) (s' : DS) (sz : Int) (pic : List UInt8) (recs : List (List UInt8)) (e : Ending) (w' : World) : Prop :=
  ∃ F2 G2 TP TR lb A0 n0 c0 A1 n1 c1, e = .returned (.tuple #[.pointer (some ⟨lb, 0, none⟩), .slice A0 n0 c0, .slice A1 n1 c1, .int .i64 0]) ∧ OpenedAt w w' F G F2 G2 TP TR d lb s' sz pic recs A0 n0 c0 A1 n1 c1
theorem split_recs {w : World} {base c : Nat} {A : Option Addr} {pic : List UInt8} {recs : List (List UInt8)} (h : OwnBX w base A c (pic :: recs)) :
    ∃ g A0 c0, A = some ⟨g, 0, none⟩ ∧ recs.length + 1 ≤ c ∧ w.cell? ⟨g, 0, none⟩ = some (.slice A0 pic.length c0) ∧ HdT w (fun b => (base ≤ b ∧ b < w.heap.size) ∧ A0.map (·.block) = some b) (.slice A0 pic.length c0) pic ∧
      RdT w (fun b => (base ≤ b ∧ b < w.heap.size) ∧ ¬ A0.map (·.block) = some b) (if c = 1 then A else A.map (·.add (1 * 1))) recs := by
  obtain ⟨hs, h1, h2, h3⟩ := h
  obtain ⟨v0, e0, hv0⟩ := h2 0 (by simp)
  obtain ⟨A0, c0, ev0, hr0, ha0⟩ := id hv0
  have hr := Reads.of_own h1
  simp only [List.getElem_cons_zero] at ev0 hr0 ha0
  rcases h1.2 with ⟨e, h0⟩ | ⟨g, cap, cur, e, hbg, hg, hle, _⟩
  · simp at h0
  injection e with eA _ ec
  subst eA ec ev0
  have hgl : g < w.heap.size := (Array.getElem?_eq_some_iff.1 hg).1
  have hlen : hs.length = recs.length + 1 := by have := h1.1; simpa using this
  have hA0g : ¬ A0.map (·.block) = some g := fun e => by
    cases A0 with
    | none => cases e
    | some ad =>
      simp only [Option.map_some, Option.some.injEq] at e
      obtain ⟨_, _, g3, _⟩ := ha0 ad rfl
      exact g3 (by simp only [Option.map_some, e])
  have hcell := h1.cellAt (g := g) 0 (by simp)
  rw [e0] at hcell
  have T0 := elemB_T hv0
  refine ⟨g, A0, c0, rfl, by simpa using hle, hcell, ?_, hs.drop 1, ?_, fun i hi => ?_⟩
  · obtain ⟨A9, c9, e9, hr9, hs9⟩ := T0
    injection e9 with e9 _ e8
    subst e9 e8
    refine ⟨A0, c0, rfl, ⟨hr9.1, fun hn => ?_⟩, fun hn => ?_⟩
    · obtain ⟨ad, ea, hb⟩ := hr9.2 hn
      exact ⟨ad, ea, hb, by rw [ea]; rfl⟩
    · obtain ⟨ad, ea, hb, hc⟩ := hs9 hn
      exact ⟨ad, ea, ⟨hb, by rw [ea]; rfl⟩, hc⟩
  · have hcut := Reads.cut hr (k := 1) (cap := c) (by simp) hle
    simp only [List.length_cons, Nat.add_sub_cancel, Nat.mul_one] at hcut
    refine ⟨hcut, fun hn => ?_⟩
    have hc1 : ¬ c = 1 := by simp at hle; omega
    rw [if_neg hc1]
    exact ⟨_, rfl, ⟨by rw [block_of_add]; exact ⟨hbg, hgl⟩, by rw [block_of_add]; exact hA0g⟩⟩
  · obtain ⟨v, ev, hv⟩ := h2 (i + 1) (by simpa using hi)
    simp only [List.getElem_cons_succ] at hv
    refine ⟨v, by rw [List.getElem?_drop, Nat.add_comm]; exact ev, ?_⟩
    obtain ⟨A9, c9, e9, hr9, hs9⟩ := elemB_T hv
    have hne : ∀ ad, A9 = some ad → ¬ A0.map (·.block) = some ad.block := fun ad ea e => by
      cases A0 with
      | none => cases e
      | some ad0 =>
        simp only [Option.map_some, Option.some.injEq] at e
        exact h3 0 (i + 1) ad0 ad _ _ _ _ (by omega) e0 (by rw [ev, e9, ea]) e
    refine ⟨A9, c9, e9, ⟨hr9.1, fun hn => ?_⟩, fun hn => ?_⟩
    · obtain ⟨ad, ea, hb⟩ := hr9.2 hn
      exact ⟨ad, ea, hb, hne ad ea⟩
    · obtain ⟨ad, ea, hb, hc⟩ := hs9 hn
      exact ⟨ad, ea, ⟨hb, hne ad ea⟩, hc⟩
section
variable {F G : Nat → Prop} {d M : Nat} {s : DS} {f : Int}
set_option maxHeartbeats 1000000 in
theorem open_empty (w : World) (hD : DiskM w F G d s) (hW : WS s f [] M) (hM : M ≤ 10000000) :
    Calls Try.prog 30 #[.pointer (some ⟨d, 0, none⟩)] w (ROpen w F G d s 0 [] []) := by
  have HI := Lib.hid (inFront_any w hD hW (by omega) (m := 0) rfl)
  obtain ⟨-, -, hGF, hFlt⟩ := hD.lt
  have HG := Lib.hid (show (∀ b, G b → F b) ∧ ∀ b, F b → b < w.heap.size from ⟨hGF, hFlt⟩)
  have HD := Lib.hid hD
  clear hW hM hGF hFlt hD
  go_enter Try.func30, Try.ntmps30
  go_wp2_with fail
  refine HI.out.mono ?_
  rintro e w2 ⟨A, c, rfl, -, hb⟩
  have HB := Lib.hid hb
  clear hb HI
  go_wp2_with fail
  have hb2 : Below w.heap.size w (w2.alloc (.cells #[.pointer (some ⟨d, 0, none⟩), .int .i64 0] 90)) := HB.out.alloc HB.out.size _
  refine bodyPost_ret (v := .tuple #[.pointer (some ⟨w2.heap.size, 0, none⟩), .slice none 0 0, .slice none 0 0, .int .i64 0]) (by simp [results, Try.results30]) rfl ?_
  refine ⟨plus w (w2.alloc (.cells #[.pointer (some ⟨d, 0, none⟩), .int .i64 0] 90)) F, plus w (w2.alloc (.cells #[.pointer (some ⟨d, 0, none⟩), .int .i64 0] 90)) G, fun _ => False, fun _ => False, w2.heap.size, none, 0, 0, none, 0, 0, rfl, ?_⟩
  exact ⟨HD.out.plus hb2 (Nat.le_refl _), heap_alloc_new w2 _, ⟨by simp, .inr HB.out.size⟩, HB.out.size, fun b h => plus_of hb2.size HG.out.2 h, fun b h => plus_of hb2.size (fun b h => HG.out.2 b (HG.out.1 b h)) h, rfl, rfl, ⟨none, 0, rfl, ReadsF.nil, fun h => absurd h (by simp)⟩, ⟨[], ReadsF.nil, fun i h => absurd h (by simp)⟩, fun b h => h.elim, fun b h => h.elim, BelF.of hb2 (Nat.le_refl _)⟩
set_option maxRecDepth 8000 in
set_option maxHeartbeats 1000000 in
theorem open_row (w : World) {fr pic : List UInt8} {recs : List (List UInt8)} (hD : DiskM w F G d s) (hW : WS s f fr M) (hM : M + 2 * fr.length + 3 ≤ 10000000) (hfr : fr = rowOf (pic :: recs)) (hsm : ∀ r ∈ pic :: recs, r.length ≤ 16777216) :
    Calls Try.prog 30 #[.pointer (some ⟨d, 0, none⟩)] w (ROpen w F G d (rep s (1 - f) fr 5) fr.length pic recs) := by
  obtain ⟨nf, hnf⟩ : ∃ n, n = fr.length := ⟨_, rfl⟩
  rw [← hnf]
  have HI := Lib.hid (inFront_any w hD hW (by omega) hnf)
  obtain ⟨-, -, hGF, hFlt⟩ := hD.lt
  have HG := Lib.hid (show (∀ b, G b → F b) ∧ ∀ b, F b → b < w.heap.size from ⟨hGF, hFlt⟩)
  have hn0 : 0 < nf := by
    rw [hnf, hfr, rowOf_cons, List.length_append, frameOf_length]
    omega
  have hn9 : nf ≤ 10000000 := by omega
  have HD := Lib.hid hD
  have HW := Lib.hid hW
  have HMM := Lib.hid hM
  have HNF := Lib.hid hnf
  have HFR := Lib.hid hfr
  have HSM := Lib.hid hsm
  clear hW hM hGF hFlt hD hnf hfr hsm
  go_enter Try.func30, Try.ntmps30
  go_wp2_with fail
  refine HI.out.mono ?_
  rintro e w2 ⟨A, c, rfl, ho, hb⟩
  have hcap := own_cap ho
  rw [← HNF.out] at hcap
  have HB := Lib.hid hb
  have HO := Lib.hid ho
  have hni : ¬ (nf : Int) = 0 := by omega
  clear ho hb HI
  go_wp2_with fail
  refine (scan_any w2 HNF.out (OwnB.rd HO.out) (Nat.le_refl _) hcap (by have := HNF.out; omega)).mono ?_
  rintro e w3 ⟨A3, c3, m3, k3, R3, rfl, hm3, ho3, ht3, hf3, hb3⟩
  rw [HFR.out] at ht3 hf3
  obtain ⟨rfl, hk3⟩ := scan_row HSM.out ht3 hf3
  rw [← HFR.out, ← HNF.out] at hk3
  replace hk3 := hk3.symm
  subst hk3
  obtain ⟨g, A0, c0, rfl, hc3, hcell, hT0, hTR⟩ := split_recs ho3
  obtain ⟨n1, hn1⟩ : ∃ n, n = recs.length := ⟨_, rfl⟩
  obtain rfl : m3 = n1 + 1 := by rw [hm3, hn1]; simp
  obtain ⟨n0, hn0'⟩ : ∃ n, n = pic.length := ⟨_, rfl⟩
  rw [← hn0'] at hcell hT0
  obtain ⟨A1, hA1⟩ : ∃ A1, A1 = (if c3 = 1 then some ⟨g, 0, none⟩ else (some ⟨g, 0, none⟩ : Option Addr).map (·.add (1 * 1))) := ⟨_, rfl⟩
  rw [← hA1] at hTR
  rw [← hn1] at hc3
  have hb23 := HB.out.trans (hb3.mono HB.out.size)
  have hsub : ∀ b, F b → plus w w3 F b := fun b h => plus_of hb23.size HG.out.2 h
  have hrd : RdF w3 (plus w w3 F) A fr := (ReadsF.of_own (F := plus w w3 F) (own_below HO.out hb3 (Nat.le_refl _)) fun b h1 h2 => ⟨h2, .inr h1⟩)
  have HRP := Lib.hid (replace_any w3 (HD.out.plus hb23 (Nat.le_refl _)) HW.out (by have := HMM.out; omega) (cb := c) HNF.out hrd)
  have HB23 := Lib.hid hb23
  have HT0 := Lib.hid hT0
  have HTR := Lib.hid hTR
  have HN1 := Lib.hid hn1
  have HN0 := Lib.hid hn0'
  have HA1 := Lib.hid hA1
  have HGB := Lib.hid (show w2.heap.size ≤ g ∧ g < w3.heap.size from own_row ho3.bb.choose_spec.1 rfl)
  have hn1c : (n1 : Int) + 1 ≤ c3 := by omega
  have h1c : (1 : Int) ≤ (n1 : Int) + 1 := by omega
  have hnc : (nf : Int) ≤ c := by omega
  clear hrd hsub hb23 hT0 hTR hn1 hn0' hA1 ho3 ht3 hf3 hm3 hb3
  go_wp2_with fail
  refine HRP.out.mono ?_
  rintro e w5 ⟨rfl, hD5, hbf⟩
  have hgF : plus w w3 F g := ⟨HGB.out.2, .inr (Nat.le_trans HB.out.size HGB.out.1)⟩
  have hc5 : w5.cell? ⟨g, 0, none⟩ = some (.slice A0 n0 c0) := (World.cell?_of_block (a := ⟨g, 0, none⟩) (hbf.block g HGB.out.2 hgF)).trans hcell
  have HD5 := Lib.hid hD5
  have HBF := Lib.hid hbf
  have hc5' : w5.drew.cell? ⟨g, 0, none⟩ = some (.slice A0 n0 c0) := hc5
  clear hD5 hbf hgF hcell HRP
  go_wp2_with fail
  go_region_held3 (fun X => X.cell? ⟨g, 0, none⟩ = some (.slice A0 n0 c0)) (go_keep) (fail)
  have hA1e : (if c3 = 1 then some ⟨g, 0, none⟩ else some ⟨g, 1, none⟩ : Option Addr) = A1 := by
    rw [HA1.out]
    simp only [Option.map_some, Nat.mul_one, add_at]
  rw [hA1e]
  have HE := Lib.hid (show ROpen w F G d (rep s (1 - f) fr 5) nf pic recs (.returned (.tuple #[.pointer (some ⟨w5.heap.size, 0, none⟩), .slice A0 n0 c0, .slice A1 n1 (c3 - 1), .int .i64 0])) (w5.alloc (.cells #[.pointer (some ⟨d, 0, none⟩), .int .i64 nf] 90)).drew from by
    have hbW : Below w5.heap.size w5 (w5.alloc (.cells #[.pointer (some ⟨d, 0, none⟩), .int .i64 nf] 90)).drew := below_drew ((Below.refl _ _).alloc (Nat.le_refl _) _)
    have hszW : w5.heap.size < (w5.alloc (.cells #[.pointer (some ⟨d, 0, none⟩), .int .i64 nf] 90)).drew.heap.size := by show w5.heap.size < (w5.alloc (.cells #[.pointer (some ⟨d, 0, none⟩), .int .i64 nf] 90)).heap.size; simp
    have hsub : ∀ b, F b → plus w w3 F b := fun b h => plus_of HB23.out.size HG.out.2 h
    have hlt5 := HD5.out.lt.2.2
    have hGG : ∀ b, plus w w3 G b → plus w5 (w5.alloc (.cells #[.pointer (some ⟨d, 0, none⟩), .int .i64 nf] 90)).drew (plus w w3 G) b := fun b h => plus_of hbW.size (fun b h => hlt5.2 b (hlt5.1 b h)) h
    have hnew : ∀ b, (w2.heap.size ≤ b ∧ b < w3.heap.size) → plus w w3 F b ∧ plus w5 (w5.alloc (.cells #[.pointer (some ⟨d, 0, none⟩), .int .i64 nf] 90)).drew (plus w w3 G) b ∧ w.heap.size ≤ b ∧ b ≠ w5.heap.size := fun b h => by
      have h1 := HB.out.size
      have h2 := HBF.out.size
      exact ⟨⟨h.2, .inr (by omega)⟩, hGG b ⟨h.2, .inr (by omega)⟩, by omega, by omega⟩
    have hkp : ∀ b, (w2.heap.size ≤ b ∧ b < w3.heap.size) → b < w3.heap.size → (w5.alloc (.cells #[.pointer (some ⟨d, 0, none⟩), .int .i64 nf] 90)).drew.heap[b]? = w3.heap[b]? := fun b h hlt => (hbW.block b (Nat.lt_of_lt_of_le hlt HBF.out.size)).trans (HBF.out.block b hlt (hnew b h).1)
    refine ⟨plus w5 (w5.alloc (.cells #[.pointer (some ⟨d, 0, none⟩), .int .i64 nf] 90)).drew (plus w w3 F), plus w5 (w5.alloc (.cells #[.pointer (some ⟨d, 0, none⟩), .int .i64 nf] 90)).drew (plus w w3 G), (fun b => (w2.heap.size ≤ b ∧ b < w3.heap.size) ∧ A0.map (·.block) = some b), (fun b => (w2.heap.size ≤ b ∧ b < w3.heap.size) ∧ ¬ A0.map (·.block) = some b), w5.heap.size, A0, n0, c0, A1, n1, c3 - 1, rfl, ?_⟩
    refine ⟨HD5.out.plus hbW (Nat.le_refl _), heap_alloc_new w5 _, ⟨hszW, .inr (Nat.le_refl _)⟩, Nat.le_trans HB23.out.size HBF.out.size, fun b h => plus_of hbW.size hlt5.2 (hsub b h), fun b h => hGG b (plus_of HB23.out.size (fun b h => HG.out.2 b (HG.out.1 b h)) h), HN0.out, HN1.out, ?_, ?_, fun b h => ⟨(hnew b h.1).2.1, (hnew b h.1).2.2⟩, fun b h => ⟨(hnew b h.1).2.1, (hnew b h.1).2.2.1, (hnew b h.1).2.2.2, fun h2 => h.2 h2.2⟩, ?_⟩
    · exact HT0.out.keep (Nat.le_trans HBF.out.size hbW.size) (fun b h => h) fun b h hlt => hkp b h.1 hlt
    · exact HTR.out.keep (Nat.le_trans HBF.out.size hbW.size) (fun b h => h) fun b h hlt => hkp b h.1 hlt
    · exact ((BelF.of HB23.out (Nat.le_refl _)).trans (HBF.out.mono hsub)).trans (BelF.of hbW (Nat.le_refl _)))
  clear hc5 hc5'
  go_wp2_with fail
  refine bodyPost_ret (v := .tuple #[.pointer (some ⟨w5.heap.size, 0, none⟩), .slice A0 n0 c0, .slice A1 n1 (c3 - 1), .int .i64 0]) (by simp [results, Try.results30]) rfl ?_
  exact HE.out
end
end Go.Proofs.Ytjipjfionelpkaa.wl
