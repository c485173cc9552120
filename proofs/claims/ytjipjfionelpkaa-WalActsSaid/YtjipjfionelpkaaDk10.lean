/- What a clone of a disk is. -/
import Derived.Test.YtjipjfionelpkaaDk9
namespace Go.Proofs.Ytjipjfionelpkaa.dk
open Go.RowKit Go.Proofs.Ytjipjfionelpkaa.lib Go.Proofs.Ytjipjfionelpkaa.byt
set_option linter.unusedVariables false

set_option maxHeartbeats 1000000 in
theorem cloneH_any (w : World) {B : Nat} {A : Option Addr} {n c : Nat} {H : List Hd} (hr : Reads w B 3 A n (pkV H)) (h1 : ∀ u ∈ pkV H, u.oneCell' = true) (hB : B ≤ w.heap.size) (hs : n ≤ 1099511627776) :
    Calls Try.prog 50 #[.slice A n c] w fun e w' => ∃ A' c', e = .returned (.slice A' n c') ∧ w'.ownsRow w.heap.size 79 3 (.slice A' n c') n (pkV H) ∧ Below w.heap.size w w' := by
  have heq : ∀ (a : Option Addr) (n c : Nat) (w : World), (binOp .eql 73 (.slice a n c) (.slice none 0 0)).run Try.prog w = .ok (.bool a.isNone) w := fun a n c w => Go.Lib.run_eql_slice_nil w _ _ a n c 0 0 Try.underlying73
  rcases A with _ | ad
  · obtain rfl : n = 0 := by
      rcases Nat.eq_zero_or_pos n with h0 | h0
      · exact h0
      · obtain ⟨ad, e, _⟩ := hr.2 h0
        cases e
    have hl : pkV H = [] := List.eq_nil_of_length_eq_zero (by have := hr.1; omega)
    have HL := Lib.hid hl
    clear hl
    go_enter Try.func50, Try.ntmps50
    go_wp2_with fail
    go_ret
    exact ⟨none, 0, rfl, by rw [HL.out]; exact World.ownsRow_nil _ _ _ _, Below.refl _ _⟩
  · have hm := World.ownsRow_made (base := w.heap.size) (e := 79) (size := 3) w #[] 0 (Nat.le_refl _) (by decide) (by simp)
    obtain ⟨A', c', w', hrun, ho, hu, hb⟩ := append_pk (w.alloc (.cells #[] 79)) w.heap.size (H := []) hm (c2 := c) (hr.alloc hB _) h1 (by omega) (by simp)
    simp only [List.nil_append, Nat.zero_add] at hrun ho
    have hb' : Below w.heap.size w w' := ((Below.refl _ _).alloc (Nat.le_refl _) _).trans hb
    have HO := Lib.hid ho
    clear ho hu hr hm
    go_enter Try.func50, Try.ntmps50
    go_wp2_with (at_builtin; refine wpList_append_run rfl rfl rfl rfl hrun ?_; clear hrun)
    go_ret
    exact ⟨_, _, rfl, HO.out, hb'⟩

theorem DiskP.one {w : World} {F G : Nat → Prop} {d : Nat} {s : DS} {A : Nat → Option Addr} {c : Nat → Nat} {AL : Option Addr} {cL : Nat} {H : List Hd} (h : DiskP w F G d s A c AL cL H) : ∀ u ∈ pkV H, u.oneCell' = true := by
  refine hold_one (w := w) (B := w.heap.size) (P := s.lo) ⟨h.hlen, fun i h1 h2 => ?_⟩
  obtain ⟨a, b, Ai, ci, e, hr, _⟩ := h.elem i h1 h2
  exact ⟨a, b, Ai, ci, e, hr⟩

set_option maxRecDepth 4000 in
set_option maxHeartbeats 4000000 in
theorem clones_any (w : World) {F G : Nat → Prop} {d : Nat} {s : DS} {A : Nat → Option Addr} {c : Nat → Nat} {AL : Option Addr} {cL : Nat} {H : List Hd} (hP : DiskP w F G d s A c AL cL H) (hs : ShortD s 0) :
    Calls Try.prog 27 #[.pointer (some ⟨d, 0, none⟩)] w fun e w' => e = .returned (.pointer (some ⟨w.heap.size, 0, none⟩)) ∧ (∃ A' c' AL' cL', DiskP w' (fun b => b < w.heap.size) G w.heap.size s A' c' AL' cL' H) ∧ Below w.heap.size w w' := by
  have hBd := hP.base
  have hBe := hP.ebase
  have hdl := hP.dlt
  have e0 : w.cell? ⟨d, 0, none⟩ = some (.slice (A 0) (s.by_ 0).length (c 0)) := by rw [cell_d hP]; rfl
  have e1 : w.cell? ⟨d, 1, none⟩ = some (.slice (A 1) (s.by_ 1).length (c 1)) := by rw [cell_d hP]; rfl
  have e2 : w.cell? ⟨d, 2, none⟩ = some (.int .i64 s.f0) := by rw [cell_d hP]; rfl
  have e3 : w.cell? ⟨d, 3, none⟩ = some (.slice (A 2) (s.by_ 2).length (c 2)) := by rw [cell_d hP]; rfl
  have e4 : w.cell? ⟨d, 4, none⟩ = some (.slice (A 3) (s.by_ 3).length (c 3)) := by rw [cell_d hP]; rfl
  have e5 : w.cell? ⟨d, 5, none⟩ = some (.int .i64 s.f1) := by rw [cell_d hP]; rfl
  have e6 : w.cell? ⟨d, 6, none⟩ = some (.slice AL s.lo.length cL) := by rw [cell_d hP]; rfl
  have e7 : w.cell? ⟨d, 7, none⟩ = some (.bool s.arm) := by rw [cell_d hP]; rfl
  have e8 : w.cell? ⟨d, 8, none⟩ = some (.int .i64 s.left) := by rw [cell_d hP]; rfl
  have e9 : w.cell? ⟨d, 9, none⟩ = some (.bool s.down) := by rw [cell_d hP]; rfl
  obtain ⟨n0, hn0⟩ : ∃ n, n = (s.by_ 0).length := ⟨_, rfl⟩
  obtain ⟨n1, hn1⟩ : ∃ n, n = (s.by_ 1).length := ⟨_, rfl⟩
  obtain ⟨n2, hn2⟩ : ∃ n, n = (s.by_ 2).length := ⟨_, rfl⟩
  obtain ⟨n3, hn3⟩ : ∃ n, n = (s.by_ 3).length := ⟨_, rfl⟩
  obtain ⟨nl, hnl⟩ : ∃ n, n = s.lo.length := ⟨_, rfl⟩
  rw [← hn0] at e0
  rw [← hn1] at e1
  rw [← hn2] at e3
  rw [← hn3] at e4
  rw [← hnl] at e6
  have HP := Lib.hid hP
  have N0 := Lib.hid hn0
  have N1 := Lib.hid hn1
  have N2 := Lib.hid hn2
  have N3 := Lib.hid hn3
  have NL := Lib.hid hnl
  have HS := Lib.hid hs
  clear hP hn0 hn1 hn2 hn3 hnl hs
  go_enter Try.func27, Try.ntmps27
  go_wp2_with fail
  have hbU : Below w.heap.size w (w.alloc (.cells #[.slice (A 0) n0 (c 0), .slice (A 1) n1 (c 1), .int .i64 s.f0, .slice (A 2) n2 (c 2), .slice (A 3) n3 (c 3), .int .i64 s.f1, .slice AL nl cL, .bool s.arm, .int .i64 s.left, .bool s.down] 75)) := (Below.refl _ _).alloc (Nat.le_refl _) _
  have hszU : (w.alloc (.cells #[.slice (A 0) n0 (c 0), .slice (A 1) n1 (c 1), .int .i64 s.f0, .slice (A 2) n2 (c 2), .slice (A 3) n3 (c 3), .int .i64 s.f1, .slice AL nl cL, .bool s.arm, .int .i64 s.left, .bool s.down] 75)).heap.size = w.heap.size + 1 := by simp
  have hqU := heap_alloc_new w (.cells #[.slice (A 0) n0 (c 0), .slice (A 1) n1 (c 1), .int .i64 s.f0, .slice (A 2) n2 (c 2), .slice (A 3) n3 (c 3), .int .i64 s.f1, .slice AL nl cL, .bool s.arm, .int .i64 s.left, .bool s.down] 75)
  generalize (w.alloc (.cells #[.slice (A 0) n0 (c 0), .slice (A 1) n1 (c 1), .int .i64 s.f0, .slice (A 2) n2 (c 2), .slice (A 3) n3 (c 3), .int .i64 s.f1, .slice AL nl cL, .bool s.arm, .int .i64 s.left, .bool s.down] 75)) = U at hbU hszU hqU ⊢
  refine (clone_any U (d := d) (q := 0) s.f0 (keepc e0 hbU) (keepc e1 hbU) (keepc e2 hbU) N0.out N1.out (((HP.out.own 0 (by omega)).rd.below hbU).more hbU.size) (((HP.out.own 1 (by omega)).rd.below hbU).more hbU.size) (by have := HS.out.1 0 (by omega); omega) (by have := HS.out.1 1 (by omega); omega)).mono ?_
  rintro e w1 ⟨A0', c0', A1', c1', rfl, ho0, ho1, hf01, hb1⟩
  have hs1 := hb1.size
  have hq1 : w1.heap[w.heap.size]? = some (.cells #[.slice (A 0) n0 (c 0), .slice (A 1) n1 (c 1), .int .i64 s.f0, .slice (A 2) n2 (c 2), .slice (A 3) n3 (c 3), .int .i64 s.f1, .slice AL nl cL, .bool s.arm, .int .i64 s.left, .bool s.down] 75 (0, 0)) := (hb1.block _ (by omega)).trans hqU
  have q0 : w1.cell? ⟨w.heap.size, 0, none⟩ = some (.slice (A 0) n0 (c 0)) := by rw [cell_of_row _ _ _ _ _ (0, 0) hq1]; rfl
  have q1 : w1.cell? ⟨w.heap.size, 1, none⟩ = some (.slice (A 1) n1 (c 1)) := by rw [cell_of_row _ _ _ _ _ (0, 0) hq1]; rfl
  have q2 : w1.cell? ⟨w.heap.size, 2, none⟩ = some (.int .i64 s.f0) := by rw [cell_of_row _ _ _ _ _ (0, 0) hq1]; rfl
  have qf : ∀ j, w1.frozen? ⟨w.heap.size, j, none⟩ = false := fun j => frozen_of_row _ _ j _ _ hq1
  have hqW1 := heap_setCell_same _ w.heap.size 2 _ _ (.int .i64 s.f0) (heap_setCell_same _ w.heap.size 1 _ _ (.slice A1' n1 c1') (heap_setCell_same w1 w.heap.size 0 _ _ (.slice A0' n0 c0') hq1))
  have hbW1 : Below w.heap.size w (((w1.setCell ⟨w.heap.size, 0, none⟩ (.slice A0' n0 c0')).setCell ⟨w.heap.size, 1, none⟩ (.slice A1' n1 c1')).setCell ⟨w.heap.size, 2, none⟩ (.int .i64 s.f0)) := (((hbU.trans (hb1.mono hbU.size)).setCell (by simp only; omega) _).setCell (by simp only; omega) _).setCell (by simp only; omega) _
  have HO0 := Lib.hid (own_low (own_low (own_low ho0 (p := ⟨w.heap.size, 0, none⟩) (by simp only; omega) (.slice A0' n0 c0')) (p := ⟨w.heap.size, 1, none⟩) (by simp only; omega) (.slice A1' n1 c1')) (p := ⟨w.heap.size, 2, none⟩) (by simp only; omega) (.int .i64 s.f0))
  have HO1 := Lib.hid (own_low (own_low (own_low ho1 (p := ⟨w.heap.size, 0, none⟩) (by simp only; omega) (.slice A0' n0 c0')) (p := ⟨w.heap.size, 1, none⟩) (by simp only; omega) (.slice A1' n1 c1')) (p := ⟨w.heap.size, 2, none⟩) (by simp only; omega) (.int .i64 s.f0))
  have HF01 := Lib.hid hf01
  have HSU := Lib.hid hszU
  have hsW1 : w.heap.size < (((w1.setCell ⟨w.heap.size, 0, none⟩ (.slice A0' n0 c0')).setCell ⟨w.heap.size, 1, none⟩ (.slice A1' n1 c1')).setCell ⟨w.heap.size, 2, none⟩ (.int .i64 s.f0)).heap.size := by simp; omega
  clear ho0 ho1 hf01 hb1 hs1 hqU hq1
  go_wp2_with fail
  generalize (((w1.setCell ⟨w.heap.size, 0, none⟩ (.slice A0' n0 c0')).setCell ⟨w.heap.size, 1, none⟩ (.slice A1' n1 c1')).setCell ⟨w.heap.size, 2, none⟩ (.int .i64 s.f0)) = W1 at hqW1 hbW1 HO0 HO1 hsW1 ⊢
  clear q0 q1 q2 qf
  refine (clone_any W1 (d := d) (q := 3) s.f1 (keepc e3 hbW1) (keepc e4 hbW1) (keepc e5 hbW1) N2.out N3.out (((HP.out.own 2 (by omega)).rd.below hbW1).more hbW1.size) (((HP.out.own 3 (by omega)).rd.below hbW1).more hbW1.size) (by have := HS.out.1 2 (by omega); omega) (by have := HS.out.1 3 (by omega); omega)).mono ?_
  rintro e w2 ⟨A2', c2', A3', c3', rfl, ho2, ho3, hf23, hb2⟩
  have hs2 := hb2.size
  have hq2 := (hb2.block _ hsW1).trans hqW1
  have q3 : w2.cell? ⟨w.heap.size, 3, none⟩ = some (.slice (A 2) n2 (c 2)) := by rw [cell_of_row _ _ _ _ _ (0, 0) hq2]; rfl
  have q4 : w2.cell? ⟨w.heap.size, 4, none⟩ = some (.slice (A 3) n3 (c 3)) := by rw [cell_of_row _ _ _ _ _ (0, 0) hq2]; rfl
  have q5 : w2.cell? ⟨w.heap.size, 5, none⟩ = some (.int .i64 s.f1) := by rw [cell_of_row _ _ _ _ _ (0, 0) hq2]; rfl
  have qf : ∀ j, w2.frozen? ⟨w.heap.size, j, none⟩ = false := fun j => frozen_of_row _ _ j _ _ hq2
  have hqW2 := heap_setCell_same _ w.heap.size 5 _ _ (.int .i64 s.f1) (heap_setCell_same _ w.heap.size 4 _ _ (.slice A3' n3 c3') (heap_setCell_same w2 w.heap.size 3 _ _ (.slice A2' n2 c2') hq2))
  have hbW2 : Below w.heap.size w (((w2.setCell ⟨w.heap.size, 3, none⟩ (.slice A2' n2 c2')).setCell ⟨w.heap.size, 4, none⟩ (.slice A3' n3 c3')).setCell ⟨w.heap.size, 5, none⟩ (.int .i64 s.f1)) := (((hbW1.trans (hb2.mono hbW1.size)).setCell (by simp only; omega) _).setCell (by simp only; omega) _).setCell (by simp only; omega) _
  have hb2W : Below W1.heap.size W1 w2 := hb2
  have HO0' := Lib.hid (own_low (own_low (own_low (own_below HO0.out hb2 (Nat.le_refl _)) (p := ⟨w.heap.size, 3, none⟩) (by have := HSU.out; simp only; omega) (.slice A2' n2 c2')) (p := ⟨w.heap.size, 4, none⟩) (by have := HSU.out; simp only; omega) (.slice A3' n3 c3')) (p := ⟨w.heap.size, 5, none⟩) (by have := HSU.out; simp only; omega) (.int .i64 s.f1))
  have HO1' := Lib.hid (own_low (own_low (own_low (own_below HO1.out hb2 (Nat.le_refl _)) (p := ⟨w.heap.size, 3, none⟩) (by have := HSU.out; simp only; omega) (.slice A2' n2 c2')) (p := ⟨w.heap.size, 4, none⟩) (by have := HSU.out; simp only; omega) (.slice A3' n3 c3')) (p := ⟨w.heap.size, 5, none⟩) (by have := HSU.out; simp only; omega) (.int .i64 s.f1))
  have HO2 := Lib.hid (own_low (own_low (own_low ho2 (p := ⟨w.heap.size, 3, none⟩) hsW1 (.slice A2' n2 c2')) (p := ⟨w.heap.size, 4, none⟩) hsW1 (.slice A3' n3 c3')) (p := ⟨w.heap.size, 5, none⟩) hsW1 (.int .i64 s.f1))
  have HO3 := Lib.hid (own_low (own_low (own_low ho3 (p := ⟨w.heap.size, 3, none⟩) hsW1 (.slice A2' n2 c2')) (p := ⟨w.heap.size, 4, none⟩) hsW1 (.slice A3' n3 c3')) (p := ⟨w.heap.size, 5, none⟩) hsW1 (.int .i64 s.f1))
  have HLT := Lib.hid (show (∀ b, A0'.map (·.block) = some b → U.heap.size ≤ b ∧ b < W1.heap.size) ∧ (∀ b, A1'.map (·.block) = some b → U.heap.size ≤ b ∧ b < W1.heap.size) from ⟨fun b hb => own_lt HO0.out hb, fun b hb => own_lt HO1.out hb⟩)
  have HF23 := Lib.hid hf23
  have HSW := Lib.hid hs2
  have hsW2 : w.heap.size < (((w2.setCell ⟨w.heap.size, 3, none⟩ (.slice A2' n2 c2')).setCell ⟨w.heap.size, 4, none⟩ (.slice A3' n3 c3')).setCell ⟨w.heap.size, 5, none⟩ (.int .i64 s.f1)).heap.size := by simp; omega
  have x6 := keepc e6 hbW2
  have hsz12 : W1.heap.size ≤ (((w2.setCell ⟨w.heap.size, 3, none⟩ (.slice A2' n2 c2')).setCell ⟨w.heap.size, 4, none⟩ (.slice A3' n3 c3')).setCell ⟨w.heap.size, 5, none⟩ (.int .i64 s.f1)).heap.size := by simpa using hs2
  clear ho2 ho3 hf23 hb2 hs2 hqW1 hq2 HO0 HO1 hb2W
  go_wp2_with fail
  generalize (((w2.setCell ⟨w.heap.size, 3, none⟩ (.slice A2' n2 c2')).setCell ⟨w.heap.size, 4, none⟩ (.slice A3' n3 c3')).setCell ⟨w.heap.size, 5, none⟩ (.int .i64 s.f1)) = W2 at hqW2 hbW2 HO0' HO1' HO2 HO3 hsW2 x6 hsz12 ⊢
  clear q3 q4 q5 qf
  have hrow : Reads W2 W2.heap.size 3 AL nl (pkV H) := by
    have := Reads.of_own (own_below HP.out.row hbW2 (Nat.le_refl _))
    rw [← NL.out] at this
    exact this
  refine (cloneH_any W2 (c := cL) hrow HP.out.one (Nat.le_refl _) (by have := HS.out.2; have := NL.out; omega)).mono ?_
  rintro e w3 ⟨AL', cL', rfl, hol, hb3⟩
  have hs3 := hb3.size
  have hq3 := (hb3.block _ hsW2).trans hqW2
  have q6 : w3.cell? ⟨w.heap.size, 6, none⟩ = some (.slice AL nl cL) := by rw [cell_of_row _ _ _ _ _ (0, 0) hq3]; rfl
  have qf : w3.frozen? ⟨w.heap.size, 6, none⟩ = false := frozen_of_row _ _ 6 _ _ hq3
  have hqW3 := heap_setCell_same _ w.heap.size 6 _ _ (.slice AL' nl cL') hq3
  have hbW3 : Below w.heap.size w (w3.setCell ⟨w.heap.size, 6, none⟩ (.slice AL' nl cL')) := (hbW2.trans (hb3.mono hbW2.size)).setCell (by simp only; omega) _
  obtain ⟨lt0, lt1⟩ := HLT.out
  have hsU := HSU.out
  have hs12 := HSW.out
  have lt2 := fun b hb => own_lt HO2.out (b := b) hb
  have lt3 := fun b hb => own_lt HO3.out (b := b) hb
  have ltl := fun b hb => own_row hol (b := b) hb
  have HLT3 := Lib.hid (show w.heap.size < (w3.setCell ⟨w.heap.size, 6, none⟩ (.slice AL' nl cL')).heap.size by simp; omega)
  have HF := Lib.hid (show ∃ Ax cx ALx cLx, DiskP (w3.setCell ⟨w.heap.size, 6, none⟩ (.slice AL' nl cL')) (fun b => b < w.heap.size) G w.heap.size s Ax cx ALx cLx H from by
    have low : ∀ {X : World} {b0 : Nat} {Ak : Option Addr} {ck : Nat} {bs : List UInt8}, w.heap.size < b0 → OwnB W2 b0 Ak ck bs → OwnB (w3.setCell ⟨w.heap.size, 6, none⟩ (.slice AL' nl cL')) 0 Ak ck bs := fun {X b0 Ak ck bs} hb0 ho =>
      own_base (own_low (own_below ho hb3 (Nat.le_refl _)) (p := ⟨w.heap.size, 6, none⟩) hb0 _) (Nat.zero_le _)
    have hnq : ∀ k, k < 4 → ∀ b, ((fun k => if k = 0 then A0' else if k = 1 then A1' else if k = 2 then A2' else A3' : Nat → Option Addr) k).map (·.block) = some b → U.heap.size ≤ b ∧ b < W2.heap.size := fun k hk b hb => by
      rcases k with _ | _ | _ | _ | k
      · have := lt0 b hb; omega
      · have := lt1 b hb; omega
      · have := lt2 b hb; omega
      · have := lt3 b hb; omega
      · omega
    refine ⟨fun k => if k = 0 then A0' else if k = 1 then A1' else if k = 2 then A2' else A3', fun k => if k = 0 then c0' else if k = 1 then c1' else if k = 2 then c2' else c3', AL', cL', ?_, Nat.lt_irrefl _, fun b hb => HP.out.flt b (hBe b hb), fun b hb => by have h7 : w.heap.size < _ := HLT3.out; omega, fun k hk => ?_, fun k hk e => ?_, fun k hk b hb hb2 => by have h7 := (hnq k hk b hb).1; omega, fun k l hk hl hkl b hb => ?_, ?_, fun e => ?_, fun b hb hb2 => by have h7 := (ltl b hb).1; omega, fun k hk b hb e => ?_, HP.out.hlen, fun i h1 h2 => ?_⟩
    · refine hqW3.trans ?_
      unfold dcells
      rw [← N0.out, ← N1.out, ← N2.out, ← N3.out, ← NL.out]
      rfl
    · rcases k with _ | _ | _ | _ | k
      · exact low (X := w) (by omega) HO0'.out
      · exact low (X := w) (by omega) HO1'.out
      · exact low (X := w) hsW1 HO2.out
      · exact low (X := w) hsW1 HO3.out
      · omega
    · have := (hnq k hk _ e).1
      omega
    · rcases k with _ | _ | _ | _ | k <;> rcases l with _ | _ | _ | _ | l <;> first | exact absurd rfl hkl | omega | skip
      · exact HF01.out b hb
      · exact fun e => by have := lt0 b hb; have := lt2 b e; omega
      · exact fun e => by have := lt0 b hb; have := lt3 b e; omega
      · exact fun e => HF01.out b e hb
      · exact fun e => by have := lt1 b hb; have := lt2 b e; omega
      · exact fun e => by have := lt1 b hb; have := lt3 b e; omega
      · exact fun e => by have := lt2 b hb; have := lt0 b e; omega
      · exact fun e => by have := lt2 b hb; have := lt1 b e; omega
      · exact HF23.out b hb
      · exact fun e => by have := lt3 b hb; have := lt0 b e; omega
      · exact fun e => by have := lt3 b hb; have := lt1 b e; omega
      · exact fun e => HF23.out b e hb
    · have h9 := ownsRow_setCell_other hol (a := ⟨w.heap.size, 6, none⟩) (fun e => by have h7 : W2.heap.size ≤ w.heap.size := (hol.lt _ e).1; omega) (.slice AL' nl cL')
      rw [← NL.out]
      exact own_base h9 (Nat.zero_le _)
    · have := (ltl _ e).1
      omega
    · have := (hnq k hk b hb).2
      have := (ltl b e).1
      omega
    · obtain ⟨ea, eb, ee⟩ := HP.out.elem i h1 h2
      obtain ⟨Ai, ci, e1', hr, hcap, ha⟩ := ee.below hbW3 (Nat.le_refl _)
      obtain ⟨Aj, cj, e2', hr', _, ha'⟩ := ee
      rw [e1'] at e2'
      injection e2' with e3' _ _
      subst e3'
      refine ⟨ea, eb, Ai, ci, e1', hr, hcap, fun ad ead => ?_⟩
      obtain ⟨i1, i2, i3, i4, i5⟩ := ha ad ead
      have j1 := (ha' ad ead).1
      exact ⟨i1, i2, by omega, fun k hk e => by have := (hnq k hk _ e).1; omega, fun e => by have := (ltl _ e).1; omega⟩)
  clear hol hb3 hs3 hq3 hqW3 lt0 lt1 lt2 lt3 ltl hrow x6
  go_wp2_with fail
  go_ret
  exact ⟨rfl, HF.out, hbW3⟩
end Go.Proofs.Ytjipjfionelpkaa.dk
