/- The references Same and Opened of a log. -/
import Derived.Test.YtjipjfionelpkaaWl4
namespace Go.Proofs.Ytjipjfionelpkaa.wl
open Go.RowKit Go.Proofs.Ytjipjfionelpkaa.lib Go.Proofs.Ytjipjfionelpkaa.byt Go.Proofs.Ytjipjfionelpkaa.dk Go.Proofs.Ytjipjfionelpkaa.framePlain Go.Proofs.Ytjipjfionelpkaa.frameWalk
set_option linter.unusedVariables false

theorem rdbb_one (w : World) {B : Nat} {A : Option Addr} {n c : Nat} {r : List UInt8} (mk : Nat × Nat) (hn : n = r.length) (h : RdB w B A r) (hB : B ≤ w.heap.size) : RdBB (w.alloc (.cells #[.slice A n c] 22 mk)) (w.heap.size + 1) (some ⟨w.heap.size, 0, none⟩) [r] := by
  subst hn
  refine ⟨[.slice A r.length c], ⟨rfl, fun _ => ⟨_, rfl, by simp, fun j u hu => ?_⟩⟩, fun i hi => ?_⟩
  · rw [add_at, cell_of_row _ w.heap.size j _ _ mk (heap_alloc_new w _)]
    simpa using hu
  · simp only [List.length_cons, List.length_nil] at hi
    obtain rfl : i = 0 := by omega
    exact ⟨_, rfl, A, c, rfl, (h.below ((Below.refl _ _).alloc hB _)).more (by omega)⟩
theorem rdbb_row {w : World} {g : Nat} {t : TypeId} {mk : Nat × Nat} {A : Option Addr} {n c : Nat} {r : List UInt8} (hg : w.heap[g]? = some (.cells #[.slice A n c] t mk)) (hn : n = r.length) (h : RdB w w.heap.size A r) : RdBB w w.heap.size (some ⟨g, 0, none⟩) [r] := by
  subst hn
  refine ⟨[.slice A r.length c], ⟨rfl, fun _ => ⟨_, rfl, (Array.getElem?_eq_some_iff.1 hg).1, fun j u hu => ?_⟩⟩, fun i hi => ?_⟩
  · rw [add_at, cell_of_row _ g j _ _ mk hg]
    simpa using hu
  · simp only [List.length_cons, List.length_nil] at hi
    obtain rfl : i = 0 := by omega
    exact ⟨_, rfl, A, c, rfl, h⟩
theorem short_one {r : List UInt8} (h : r.length ≤ 1000000000) : Short [r] := ⟨by simp, fun x hx => by rw [List.mem_singleton] at hx; subst hx; omega⟩
set_option maxHeartbeats 1000000 in
theorem same8_any (w : World) {B : Nat} {A1 A2 A3 A4 : Option Addr} {n1 c1 n2 c2 n3 c3 n4 c4 : Nat} {sf : Int} {p q : List UInt8} {L M : List (List UInt8)} (hB : B ≤ w.heap.size)
    (hn1 : n1 = p.length) (hn2 : n2 = L.length) (hn3 : n3 = q.length) (hn4 : n4 = M.length) (h1 : RdB w B A1 p) (h2 : RdBB w B A2 L) (h3 : RdB w B A3 q) (h4 : RdBB w B A4 M) (hs1 : p.length ≤ 1000000000) (hs2 : Short L) (hs3 : q.length ≤ 1000000000) (hs4 : Short M) :
    Calls Try.prog 31 #[.slice A1 n1 c1, .slice A2 n2 c2, .agg #[.slice A3 n3 c3, .slice A4 n4 c4, .int .i64 sf]] w fun e w' => e = .returned (.bool (decide (p = q ∧ L = M))) ∧ Below w.heap.size w w' := by
  have HN1 := Lib.hid hn1
  have HN2 := Lib.hid hn2
  have HN3 := Lib.hid hn3
  have HN4 := Lib.hid hn4
  clear hn1 hn2 hn3 hn4
  go_enter Try.func31, Try.ntmps31
  go_wp2_with fail
  have hb1 : Below w.heap.size w (w.alloc (.cells #[.slice A3 n3 c3, .slice A4 n4 c4, .int .i64 sf] 58)) := (Below.refl _ _).alloc (Nat.le_refl _) _
  have hb2 : Below w.heap.size w ((w.alloc (.cells #[.slice A3 n3 c3, .slice A4 n4 c4, .int .i64 sf] 58)).alloc (.cells #[.slice A1 n1 c1] 22)) := hb1.alloc hb1.size _
  have hb3 : Below w.heap.size w (((w.alloc (.cells #[.slice A3 n3 c3, .slice A4 n4 c4, .int .i64 sf] 58)).alloc (.cells #[.slice A1 n1 c1] 22)).alloc (.cells #[.slice A3 n3 c3] 22)) := hb2.alloc hb2.size _
  have ra : RdBB (((w.alloc (.cells #[.slice A3 n3 c3, .slice A4 n4 c4, .int .i64 sf] 58)).alloc (.cells #[.slice A1 n1 c1] 22)).alloc (.cells #[.slice A3 n3 c3] 22)) (w.heap.size + 1 + 1) (some ⟨w.heap.size + 1, 0, none⟩) [p] := by
    have := (rdbb_one (w.alloc (.cells #[.slice A3 n3 c3, .slice A4 n4 c4, .int .i64 sf] 58)) (B := B) (0, 0) (n := n1) (c := c1) HN1.out (h1.below (hb1.mono hB)) (Nat.le_trans hB hb1.size))
    rw [show (w.alloc (.cells #[.slice A3 n3 c3, .slice A4 n4 c4, .int .i64 sf] 58)).heap.size = w.heap.size + 1 by simp] at this
    exact this.below ((Below.refl _ _).alloc (by simp) _)
  have rb : RdBB (((w.alloc (.cells #[.slice A3 n3 c3, .slice A4 n4 c4, .int .i64 sf] 58)).alloc (.cells #[.slice A1 n1 c1] 22)).alloc (.cells #[.slice A3 n3 c3] 22)) (w.heap.size + 1 + 1 + 1) (some ⟨w.heap.size + 1 + 1, 0, none⟩) [q] := by
    have := rdbb_one ((w.alloc (.cells #[.slice A3 n3 c3, .slice A4 n4 c4, .int .i64 sf] 58)).alloc (.cells #[.slice A1 n1 c1] 22)) (B := B) (0, 0) (n := n3) (c := c3) HN3.out (h3.below (hb2.mono hB)) (Nat.le_trans hB hb2.size)
    rwa [show ((w.alloc (.cells #[.slice A3 n3 c3, .slice A4 n4 c4, .int .i64 sf] 58)).alloc (.cells #[.slice A1 n1 c1] 22)).heap.size = w.heap.size + 1 + 1 by simp] at this
  refine (sameAll_any (((w.alloc (.cells #[.slice A3 n3 c3, .slice A4 n4 c4, .int .i64 sf] 58)).alloc (.cells #[.slice A1 n1 c1] 22)).alloc (.cells #[.slice A3 n3 c3] 22)) (xs := [p]) (ys := [q]) rfl rfl ra rb (short_one hs1) (short_one hs3)).mono ?_
  rintro e w2 ⟨rfl, nq, rfl⟩
  have hx0 : ((((w.alloc (.cells #[.slice A3 n3 c3, .slice A4 n4 c4, .int .i64 sf] 58)).alloc (.cells #[.slice A1 n1 c1] 22)).alloc (.cells #[.slice A3 n3 c3] 22)).drewN nq).cell? ⟨w.heap.size, 1, none⟩ = some (.slice A4 n4 c4) := by
    have h0 : (w.alloc (.cells #[.slice A3 n3 c3, .slice A4 n4 c4, .int .i64 sf] 58)).cell? ⟨w.heap.size, 1, none⟩ = some (.slice A4 n4 c4) := by rw [cell_of_row _ _ _ _ _ (0, 0) (heap_alloc_new w _)]; rfl
    have hb : Below (w.alloc (.cells #[.slice A3 n3 c3, .slice A4 n4 c4, .int .i64 sf] 58)).heap.size (w.alloc (.cells #[.slice A3 n3 c3, .slice A4 n4 c4, .int .i64 sf] 58)) ((((w.alloc (.cells #[.slice A3 n3 c3, .slice A4 n4 c4, .int .i64 sf] 58)).alloc (.cells #[.slice A1 n1 c1] 22)).alloc (.cells #[.slice A3 n3 c3] 22)).drewN nq) := below_drewN (((Below.refl _ _).alloc (Nat.le_refl _) _).alloc (by simp) _) _
    exact keepc h0 hb
  have hbz := below_drewN hb3 nq
  have r2 := h2.below (hbz.mono hB)
  have r4 := h4.below (hbz.mono hB)
  clear hb1 hb2 hb3 ra rb h1 h2 h3 h4
  generalize (((w.alloc (.cells #[.slice A3 n3 c3, .slice A4 n4 c4, .int .i64 sf] 58)).alloc (.cells #[.slice A1 n1 c1] 22)).alloc (.cells #[.slice A3 n3 c3] 22)).drewN nq = W2 at *
  by_cases hpq : p = q
  · rw [decide_eq_true (show [p] = [q] by rw [hpq])]
    have HP := Lib.hid hpq
    clear hpq
    go_wp2_with fail
    refine (sameAll_any W2 HN2.out HN4.out r2 r4 hs2 hs4).mono ?_
    rintro e w3 ⟨rfl, nq2, rfl⟩
    go_wp2_with fail
    go_ret
    exact ⟨by simp [HP.out], below_drewN hbz _⟩
  · rw [decide_eq_false (show ¬ [p] = [q] by intro h; exact hpq (by injection h))]
    have HP := Lib.hid hpq
    clear hpq
    go_wp2_with fail
    go_ret
    exact ⟨by simp [HP.out], hbz⟩
section
variable {F G : Nat → Prop} {d M : Nat} {s : DS} {f : Int}
/-- What Opened leaves: the disk, in more blocks. -/
def RRe (w : World) (F G : Nat → Prop) (d : Nat) (s' : DS) (e : Ending) (w' : World) : Prop :=
  e = .returned (.bool true) ∧ ∃ F2 G2, DiskM w' F2 G2 d s' ∧ (∀ b, F b → F2 b) ∧ (∀ b, G b → G2 b) ∧ BelF F w w'
set_option maxHeartbeats 1000000 in
theorem opened_any (w : World) {fr pic : List UInt8} {recs : List (List UInt8)} (hD : DiskM w F G d s) (hW : WS s f fr M) (hM : M + 2 * fr.length + 3 ≤ 10000000) (hfr : fr = rowOf (pic :: recs)) (hsm : ∀ r ∈ pic :: recs, r.length ≤ 16777216)
    {A3 A4 : Option Addr} {n3 c3 n4 c4 : Nat} {sf : Int} (hn3 : n3 = pic.length) (hn4 : n4 = recs.length) (hk : ∀ w', BelF F w w' → RdB w' w'.heap.size A3 pic ∧ RdBB w' w'.heap.size A4 recs) (hs : Short recs) :
    Calls Try.prog 38 #[.pointer (some ⟨d, 0, none⟩), .agg #[.slice A3 n3 c3, .slice A4 n4 c4, .int .i64 sf]] w (RRe w F G d (rep s (1 - f) fr 5)) := by
  have HN3 := Lib.hid hn3
  have HN4 := Lib.hid hn4
  have HFR := Lib.hid hfr
  have HK := Lib.hid hk
  have hpl : pic.length ≤ 1000000000 := by have := hsm pic (by simp); omega
  obtain ⟨-, -, hGF, hFlt⟩ := hD.lt
  have HG := Lib.hid (show (∀ b, G b → F b) ∧ ∀ b, F b → b < w.heap.size from ⟨hGF, hFlt⟩)
  have HSM := Lib.hid hsm
  have hbV : Below w.heap.size w (w.alloc (.cells #[.slice A3 n3 c3, .slice A4 n4 c4, .int .i64 sf] 58)) := (Below.refl _ _).alloc (Nat.le_refl _) _
  have hDV := hD.plus hbV (Nat.le_refl _)
  have HO := Lib.hid (open_row (w.alloc (.cells #[.slice A3 n3 c3, .slice A4 n4 c4, .int .i64 sf] 58)) hDV hW hM hfr hsm)
  have HBV := Lib.hid hbV
  clear hn3 hn4 hfr hk hGF hFlt hD hW hM hsm hbV hDV
  go_enter Try.func38, Try.ntmps38
  go_wp2_with fail
  refine HO.out.mono ?_
  intro e w2 hh
  obtain ⟨F2, G2, TP, TR, lb, A0, n0, c0, A1, n1, c1, rfl, hO⟩ := hh
  obtain ⟨hD2, -, -, -, hsF, hsG, hn0, hn1, ⟨A9, c9, e9, hpT, -⟩, hrT, -, -, hfr⟩ := hO
  subst hn0
  injection e9 with e9 _ e8
  subst e9 e8
  have hsub : ∀ b, F b → plus w (w.alloc (.cells #[.slice A3 n3 c3, .slice A4 n4 c4, .int .i64 sf] 58)) F b := fun b h => plus_of HBV.out.size HG.out.2 h
  have hq : w2.heap[w.heap.size]? = (w.alloc (.cells #[.slice A3 n3 c3, .slice A4 n4 c4, .int .i64 sf] 58)).heap[w.heap.size]? := hfr.block _ (by simp) ⟨by simp, .inr (Nat.le_refl _)⟩
  have hrow := hq.trans (heap_alloc_new w _)
  have hx0 : w2.cell? ⟨w.heap.size, 0, none⟩ = some (.slice A3 n3 c3) := by rw [cell_of_row _ _ _ _ _ (0, 0) hrow]; rfl
  have hx1 : w2.cell? ⟨w.heap.size, 1, none⟩ = some (.slice A4 n4 c4) := by rw [cell_of_row _ _ _ _ _ (0, 0) hrow]; rfl
  have hx2 : w2.cell? ⟨w.heap.size, 2, none⟩ = some (.int .i64 sf) := by rw [cell_of_row _ _ _ _ _ (0, 0) hrow]; rfl
  obtain ⟨r3, r4⟩ := HK.out w2 ((BelF.of HBV.out (Nat.le_refl _)).trans (hfr.mono hsub))
  have HS := Lib.hid (show Calls Try.prog 31 #[.slice A0 pic.length c0, .slice A1 n1 c1, .agg #[.slice A3 n3 c3, .slice A4 n4 c4, .int .i64 sf]] w2 fun e w' => e = .returned (.bool true) ∧ Below w2.heap.size w2 w' from
    (same8_any w2 (sf := sf) (c1 := c0) (c2 := c1) (c3 := c3) (c4 := c4) (Nat.le_refl _) rfl hn1 HN3.out HN4.out hpT.rd hrT.rd r3 r4 hpl hs hpl hs).mono fun e w' h => ⟨by rw [h.1, decide_eq_true ⟨rfl, rfl⟩], h.2⟩)
  have HE := Lib.hid (show DiskM w2 F2 G2 d (rep s (1 - f) fr 5) ∧ (∀ b, F b → F2 b) ∧ (∀ b, G b → G2 b) ∧ BelF F w w2 from
    ⟨hD2, fun b h => hsF b (hsub b h), fun b h => hsG b (plus_of HBV.out.size (fun b h => HG.out.2 b (HG.out.1 b h)) h), (BelF.of HBV.out (Nat.le_refl _)).trans (hfr.mono hsub)⟩)
  clear hD2 hsF hsG hn1 hpT hrT hfr hsub hq hrow r3 r4 HO hpl
  go_wp2_with fail
  refine HS.out.mono ?_
  rintro e w3 ⟨rfl, hb⟩
  obtain ⟨hD2, hsF, hsG, hfr⟩ := HE.out
  have HF := Lib.hid (show RRe w F G d (rep s (1 - f) fr 5) (.returned (.bool true)) w3 from ⟨rfl, F2, G2, hD2.below hb (Nat.le_refl _), hsF, hsG, hfr.trans (BelF.of hb (Nat.le_refl _))⟩)
  clear hD2 hsF hsG hfr hb HE HS
  go_wp2_with fail
  refine bodyPost_ret (v := .bool true) (by simp [results, Try.results38]) rfl ?_
  exact HF.out
end
end Go.Proofs.Ytjipjfionelpkaa.wl
