/- What number answers. -/
import Derived.Test.YtabjkmennijaeaaHs6
namespace Go.Proofs.Ytabjkmennijaeaa.hs
open Go.RowKit Go.Proofs.Ytabjkmennijaeaa.lib Go.Proofs.Ytabjkmennijaeaa.byt
set_option linter.unusedVariables false
set_option linter.unusedSimpArgs false

theorem own_cap {w : World} {B e n c : Nat} {A : Option Addr} {xs : List Value} (h : w.ownsRow B e 1 (.slice A n c) n xs) (hn : 0 < n) : n ≤ c ∧ ∃ g, A = some ⟨g, 0, none⟩ := by
  rcases h.2 with ⟨e, h0⟩ | ⟨g, cap, cur, e, hbg, hg, hle, _⟩
  · omega
  · injection e with e1 _ e3
    subst e1 e3
    exact ⟨hle, g, rfl⟩
def RNum (w : World) (B sb mb pb left : Nat) (V : List ByteArray) (T Hd : List Nat) (Ac : Option Addr) (n cc : Nat) (Av : Option Addr) (At : Option Addr) (nt ct : Nat) (Aa : Option Addr) (na ca : Nat) (val : ByteArray) (e : Ending) (w' : World) : Prop :=
  ∃ V' Av' nv' cv' j, e = .returned (.int .i64 (j : Nat)) ∧ BuildP w' B sb mb pb left V' T Hd Ac n cc Av' nv' cv' At nt ct Aa na ca ∧ (∃ l, V' = V ++ l ∧ l.length ≤ 1) ∧ V'[j]? = some val ∧ 0 < j ∧ j < nv' ∧ Below B w w' ∧ ∀ b, b < w.heap.size → b ≠ sb → bl Av ≠ some b → w'.heap[b]? = w.heap[b]?
set_option maxHeartbeats 1000000 in
theorem number_any (w : World) {B sb mb pb left : Nat} {V : List ByteArray} {T Hd : List Nat} {Ac : Option Addr} {n cc : Nat} {Av : Option Addr} {nv cv : Nat} {At : Option Addr} {nt ct : Nat} {Aa : Option Addr} {na ca : Nat}
    (h : BuildP w B sb mb pb left V T Hd Ac n cc Av nv cv At nt ct Aa na ca) (val : ByteArray) (hv1 : 1 ≤ nv) (hbig : nv ≤ 1000) (hB : B ≤ w.heap.size) :
    Calls Try.prog 12 #[.pointer (some ⟨sb, 0, none⟩), .string val] w (RNum w B sb mb pb left V T Hd Ac n cc Av At nt ct Aa na ca val) := by
  obtain ⟨g0, g1, g2, g3, g4, gf⟩ := h.cells
  obtain ⟨hcap, gv, rfl⟩ := own_cap h.ov (by omega)
  have hr := (Reads.of_own h.ov).cut (k := 1) (cap := cv) hv1 hcap
  have HEV := Lib.hid h.eV
  have hi0 : ∀ A c2, A = (if cv = 1 then some ⟨gv, 0, none⟩ else (some (⟨gv, 0, none⟩ : Addr)).map (·.add (1 * 1))) → Calls Try.prog 18 #[.slice A (nv - 1) c2, .string val] w fun e w' => ∃ r : Int, e = .returned (.int .i64 r) ∧ (r = -1 ∨ ∃ j : Nat, r = j ∧ (V.drop 1)[j]? = some val) ∧ w = w' := fun A c2 hA => by
    rw [hA]
    exact index_any w (n := nv - 1) (c := c2) (xs := V.drop 1) (by rw [List.length_drop, ← h.eV]) (by rw [List.map_drop]; simpa using hr) val (by omega)
  have H := Lib.hid h
  have h1i : (1 : Int) ≤ nv := by omega
  have h1c : (nv : Int) ≤ cv := by omega
  by_cases hc1 : cv = 1
  · subst hc1
    obtain rfl : nv = 1 := by omega
    have HI := Lib.hid (show ∀ c2, Calls Try.prog 18 #[.slice (some ⟨gv, 0, none⟩) 0 c2, .string val] w fun e w' => ∃ r : Int, e = .returned (.int .i64 r) ∧ (r = -1 ∨ ∃ j : Nat, r = j ∧ (V.drop 1)[j]? = some val) ∧ w = w' from fun c2 => hi0 (some ⟨gv, 0, none⟩) c2 (by rw [if_pos rfl]))
    clear hi0 h hr
    go_enter Try.func12, Try.ntmps12
    go_wp2_with fail
    refine (HI.out _).mono ?_
    rintro e w1 ⟨r, rfl, hr, rfl⟩
    rcases hr with rfl | ⟨j, rfl, hj⟩
    · obtain ⟨A', c', w', hrun, ho, hg, hn⟩ := append_string w B H.out.ov (.string val) rfl (by omega) hB
      have hs : w'.heap[sb]? = w.heap[sb]? := hg.block sb H.out.sbl (fun e => (H.out.av sb e.symm).1 rfl)
      have q1 := (World.cell?_of_block (a := ⟨sb, 1, none⟩) hs).trans g1
      have qf := (World.frozen?_of_block (a := ⟨sb, 1, none⟩) hs).trans (gf 1)
      have hBb : Below B w w' := ⟨hg.os, hg.tape, hg.output, hg.size, fun b hb => hg.block b (by omega) (fun e => by have := (row_lt H.out.ov e.symm).1; omega)⟩
      have HF := Lib.hid (show RNum w B sb mb pb left V T Hd Ac n cc (some ⟨gv, 0, none⟩) At nt ct Aa na ca val (.returned (.int .i64 (1 : Nat))) (w'.setCell ⟨sb, 1, none⟩ (.slice A' (1 + 1) c')) from
        ⟨V ++ [val], A', 1 + 1, c', 1, rfl, H.out.setV val hg (by simpa using ho) hn, ⟨[val], rfl, by simp⟩, by rw [show 1 = V.length from HEV.out]; simp, by omega, by omega, hBb.setCell H.out.Bsb _, fun b h1 h2 h3 => by rw [heap_setCell_other _ _ b _ h2]; exact hg.block b h1 (fun e => h3 e.symm)⟩)
      clear hs hBb hg ho hn HI
      go_wp2_with (at_builtin; refine wpList_append_run rfl rfl rfl rfl hrun ?_; clear hrun)
      refine bodyPost_ret (v := .int .i64 (1 : Nat)) (by simp [results, Try.results12]) rfl ?_
      exact HF.out
    · have hj2 : j + 1 < 1 := by have := (List.getElem?_eq_some_iff.1 hj).1; rw [List.length_drop, ← HEV.out] at this; omega
      have HF := Lib.hid (show RNum w B sb mb pb left V T Hd Ac n cc (some ⟨gv, 0, none⟩) At nt ct Aa na ca val (.returned (.int .i64 ((j + 1 : Nat) : Int))) w from
        ⟨V, _, 1, 1, j + 1, rfl, H.out, ⟨[], by simp, by simp⟩, by rw [List.getElem?_drop] at hj; rw [show j + 1 = 1 + j by omega]; exact hj, by omega, hj2, Below.refl _ _, fun b h1 h2 h3 => rfl⟩)
      have hj0 : (0 : Int) ≤ j := by omega
      clear hj HI
      go_wp2_with fail
      refine bodyPost_ret (v := .int .i64 ((j + 1 : Nat) : Int)) (by simp [results, Try.results12] <;> omega) rfl ?_
      exact HF.out
  · have HI := Lib.hid (show ∀ c2, Calls Try.prog 18 #[.slice (some ⟨gv, 1, none⟩) (nv - 1) c2, .string val] w fun e w' => ∃ r : Int, e = .returned (.int .i64 r) ∧ (r = -1 ∨ ∃ j : Nat, r = j ∧ (V.drop 1)[j]? = some val) ∧ w = w' from fun c2 => hi0 _ c2 (by rw [if_neg hc1]; rfl))
    clear hi0 h hr
    go_enter Try.func12, Try.ntmps12
    go_wp2_with fail
    refine (HI.out _).mono ?_
    rintro e w1 ⟨r, rfl, hr, rfl⟩
    rcases hr with rfl | ⟨j, rfl, hj⟩
    · obtain ⟨A', c', w', hrun, ho, hg, hn⟩ := append_string w B H.out.ov (.string val) rfl (by omega) hB
      have hs : w'.heap[sb]? = w.heap[sb]? := hg.block sb H.out.sbl (fun e => (H.out.av sb e.symm).1 rfl)
      have q1 := (World.cell?_of_block (a := ⟨sb, 1, none⟩) hs).trans g1
      have qf := (World.frozen?_of_block (a := ⟨sb, 1, none⟩) hs).trans (gf 1)
      have hBb : Below B w w' := ⟨hg.os, hg.tape, hg.output, hg.size, fun b hb => hg.block b (by omega) (fun e => by have := (row_lt H.out.ov e.symm).1; omega)⟩
      have HF := Lib.hid (show RNum w B sb mb pb left V T Hd Ac n cc (some ⟨gv, 0, none⟩) At nt ct Aa na ca val (.returned (.int .i64 (nv : Nat))) (w'.setCell ⟨sb, 1, none⟩ (.slice A' (nv + 1) c')) from
        ⟨V ++ [val], A', nv + 1, c', nv, rfl, H.out.setV val hg (by simpa using ho) hn, ⟨[val], rfl, by simp⟩, by rw [HEV.out]; simp, by omega, by omega, hBb.setCell H.out.Bsb _, fun b h1 h2 h3 => by rw [heap_setCell_other _ _ b _ h2]; exact hg.block b h1 (fun e => h3 e.symm)⟩)
      clear hs hBb hg ho hn HI
      go_wp2_with (at_builtin; refine wpList_append_run rfl rfl rfl rfl hrun ?_; clear hrun)
      refine bodyPost_ret (v := .int .i64 (nv : Nat)) (by simp [results, Try.results12]) rfl ?_
      exact HF.out
    · have hj2 : j + 1 < nv := by have := (List.getElem?_eq_some_iff.1 hj).1; rw [List.length_drop, ← HEV.out] at this; omega
      have HF := Lib.hid (show RNum w B sb mb pb left V T Hd Ac n cc (some ⟨gv, 0, none⟩) At nt ct Aa na ca val (.returned (.int .i64 ((j + 1 : Nat) : Int))) w from
        ⟨V, _, nv, cv, j + 1, rfl, H.out, ⟨[], by simp, by simp⟩, by rw [List.getElem?_drop] at hj; rw [show j + 1 = 1 + j by omega]; exact hj, by omega, hj2, Below.refl _ _, fun b h1 h2 h3 => rfl⟩)
      have hj0 : (0 : Int) ≤ j := by omega
      clear hj HI
      go_wp2_with fail
      refine bodyPost_ret (v := .int .i64 ((j + 1 : Nat) : Int)) (by simp [results, Try.results12] <;> omega) rfl ?_
      exact HF.out
end Go.Proofs.Ytabjkmennijaeaa.hs
