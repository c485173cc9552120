/- The net law's awake. -/
import Derived.Test.YtnmamfgebbcehaaNet19
import Derived.Test.YtnmamfgebbcehaaNet20
namespace Go.Proofs.Ytnmamfgebbcehaa.pk
open Go.RowKit Go.Proofs.Ytnmamfgebbcehaa.lib Go.Proofs.Ytnmamfgebbcehaa.byt
set_option linter.unusedVariables false

theorem conv_const (w : World) (C : Array Value) (n c : Nat) : (convert 25 25 (.slice (some ⟨w.heap.size, 0, none⟩) n c)).run Try.prog (w.alloc (.cells C 5)) = .ok (.slice (some ⟨w.heap.size, 0, none⟩) n c) (w.alloc (.cells C 5 (C.size, C.size + 1))) :=
  Go.Lib.run_convert_bytes_const (P := Try.prog) w 25 5 C n c Try.underlying25 Try.underlying5
theorem rd_const (w : World) (b : UInt8) : RdB (w.alloc (.cells #[.int .u8 (b.toNat : Int)] 5 (1, 2))) (w.heap.size + 1) (some ⟨w.heap.size, 0, none⟩) [b] := by
  refine ⟨rfl, fun _ => ⟨_, rfl, by simp, fun j u hu => ?_⟩⟩
  rw [add_at, cell_of_row _ w.heap.size j _ _ (1, 2) (heap_alloc_new w _)]
  have e : bytesV [b] = [Value.int .u8 (b.toNat : Int)] := rfl
  rw [e] at hu
  simpa using hu
theorem field_list (x : Int) (A : Option Addr) (n c : Nat) (w : World) : (Instr.field 24 (.agg #[.int .i64 x, .slice A n c]) 1).run Try.prog w = .ok (.slice A n c) w := by
  first | kernel_rfl | (simp [Instr.field, run_underlying Try.underlying24, part]; done)
def aw1 : List Pk := [(0, 1, [97])]
def aw2 : List Pk := [(0, 1, [97]), (1, 2, [98])]
def aw3 : List Pk := [(0, 1, [97]), (1, 2, [98]), (2, 1, [97])]
theorem short_aw {P : List Pk} (h : P.length ≤ 3) (h2 : ∀ p ∈ P, p.2.2.length ≤ 1) : ShortP P := ⟨by omega, fun i hi => by have := h2 _ (List.getElem_mem hi); omega⟩

set_option maxRecDepth 8000 in
set_option maxHeartbeats 8000000 in
theorem awake11 (w : World) : Calls Try.prog 7 #[] w fun e w' => e = .returned (.bool true) ∧ Below w.heap.size w w' := by
  go_enter Try.func7, Try.ntmps7
  go_wp2_with fail
  rw [conv_const]
  go_wp2_with fail
  have hs1 : Calls Try.prog 10 #[.agg #[.int .i64 0, .slice none 0 0], .int .i64 1, .slice (some ⟨w.heap.size, 0, none⟩) 1 1] (w.alloc (.cells #[.int .u8 97] 5 (1, 2))) fun e w' => ∃ A' c', e = .returned (.agg #[.int .i64 1, .slice A' 1 c']) ∧ Hid (OwnP w' (w.alloc (.cells #[.int .u8 97] 5 (1, 2))).heap.size A' c' aw1) ∧ Below (w.alloc (.cells #[.int .u8 97] 5 (1, 2))).heap.size (w.alloc (.cells #[.int .u8 97] 5 (1, 2))) w' :=
    (send_any (w.alloc (.cells #[.int .u8 97] 5 (1, 2))) (B := w.heap.size + 1) (A := none) (n := 0) (c := 0) (m := 1) (cb := 1) (P := []) (bs := [97]) 0 1 rfl RdP.nil (by simp) (short_aw (by simp) (by simp)) rfl (rd_const w 97) (by simp) (by decide)).mono fun e w' ⟨A', c', he, ho, hb⟩ => ⟨A', c', he, Lib.hid ho, hb⟩
  refine hs1.mono ?_
  rintro e w1 ⟨A1, c1, rfl, HO1, hb1⟩
  have hbw1 : Below w.heap.size w w1 := ((Below.refl _ _).alloc (Nat.le_refl _) _).trans (hb1.mono (by simp))
  clear hs1 hb1
  go_wp2_with fail
  rw [conv_const]
  go_wp2_with fail
  have hbq : Below w1.heap.size w1 (w1.alloc (.cells #[.int .u8 98] 5 (1, 2))) := (Below.refl _ _).alloc (Nat.le_refl _) _
  have hs2 : Calls Try.prog 10 #[.agg #[.int .i64 1, .slice A1 1 c1], .int .i64 2, .slice (some ⟨w1.heap.size, 0, none⟩) 1 1] (w1.alloc (.cells #[.int .u8 98] 5 (1, 2))) fun e w' => ∃ A' c', e = .returned (.agg #[.int .i64 2, .slice A' 2 c']) ∧ Hid (OwnP w' (w1.alloc (.cells #[.int .u8 98] 5 (1, 2))).heap.size A' c' aw2) ∧ Below (w1.alloc (.cells #[.int .u8 98] 5 (1, 2))).heap.size (w1.alloc (.cells #[.int .u8 98] 5 (1, 2))) w' :=
    (send_any (w1.alloc (.cells #[.int .u8 98] 5 (1, 2))) (B := w1.heap.size + 1) (A := A1) (n := 1) (c := c1) (m := 1) (cb := 1) (P := aw1) (bs := [98]) 1 2 rfl ((HO1.out.rd.below hbq).more (by omega)) (by simp) (short_aw (by decide) (by decide)) rfl (rd_const w1 98) (by simp) (by decide)).mono fun e w' ⟨A', c', he, ho, hb⟩ => ⟨A', c', he, Lib.hid ho, hb⟩
  refine hs2.mono ?_
  rintro e w2 ⟨A2, c2, rfl, HO2, hb2⟩
  have hbw2 : Below w.heap.size w w2 := (hbw1.alloc hbw1.size _).trans (hb2.mono (by have := hbw1.size; simp; omega))
  clear hs2 hb2 hbq HO1 hbw1
  go_wp2_with fail
  have hs3 : Calls Try.prog 9 #[.agg #[.int .i64 2, .slice A2 2 c2], .int .i64 0] w2 fun e w' => ∃ A' c', e = .returned (.agg #[.int .i64 3, .slice A' 3 c']) ∧ Hid (OwnP w' w2.heap.size A' c' aw3) ∧ Below w2.heap.size w2 w' :=
    (copy_any w2 (A := A2) (n := 2) (c := c2) (P := aw2) 2 0 rfl HO2.out.rd (Nat.le_refl _) (short_aw (by decide) (by decide)) (by decide)).mono fun e w' ⟨A', c', n', he, hn', ho, hb⟩ => ⟨A', c', by rw [he, hn']; rfl, Lib.hid ho, hb⟩
  refine hs3.mono ?_
  rintro e w3 ⟨A3, c3, rfl, HO3, hb3⟩
  have hbw3 : Below w.heap.size w w3 := hbw2.trans (hb3.mono hbw2.size)
  clear hs3 hb3 hbw2 HO2
  have hbU : Below w3.heap.size w3 (w3.alloc (.cells #[.int .i64 3, .slice A3 3 c3] 24)) := (Below.refl _ _).alloc (Nat.le_refl _) _
  have v1 : (w3.alloc (.cells #[.int .i64 3, .slice A3 3 c3] 24)).cell? ⟨w3.heap.size, 0, none⟩ = some (.int .i64 3) := by simp
  have v2 : (w3.alloc (.cells #[.int .i64 3, .slice A3 3 c3] 24)).cell? ⟨w3.heap.size, 1, none⟩ = some (.slice A3 3 c3) := by simp
  have HO4 := Lib.hid (HO3.out.below hbU (Nat.le_refl _))
  have hbwU : Below w.heap.size w (w3.alloc (.cells #[.int .i64 3, .slice A3 3 c3] 24)) := hbw3.alloc hbw3.size _
  clear hbU hbw3 HO3
  go_wp2_with fail
  generalize w3.alloc (.cells #[.int .i64 3, .slice A3 3 c3] 24) = U at v1 v2 HO4 hbwU ⊢
  have hs4 : Calls Try.prog 11 #[.agg #[.int .i64 3, .slice A3 3 c3], .int .i64 4] U fun e w' => ∃ A' c' Ab cb, e = .returned (.tuple #[.agg #[.int .i64 1, .int .i64 2, .slice Ab 1 cb], .agg #[.int .i64 3, .slice A' 2 c'], .bool true]) ∧ RdB w' w'.heap.size Ab [98] ∧ Below U.heap.size U w' :=
    (take_any U (A := A3) (n := 3) (c := c3) (P := aw3) 3 4 rfl HO4.out.rd (Nat.le_refl _) (short_aw (by decide) (by decide)) true (by decide)).mono fun e w' ⟨A', n', c', Ab, m, cb, he, hm, hn', hE, ho, hb⟩ => by
      obtain ⟨Ai, ci, e1, hr, _⟩ := hE
      injection e1 with e1
      subst e1
      exact ⟨A', c', Ab, cb, by rw [he, hm, hn']; rfl, hr, hb⟩
  refine hs4.mono ?_
  rintro e w5 ⟨A5, c5, Ab, cb, rfl, hrb, hb5⟩
  have hbW : Below U.heap.size U ((w5.alloc (.cells #[.int .i64 1, .int .i64 2, .slice Ab 1 cb] 29)).alloc (.cells #[.int .i64 3, .slice A5 2 c5] 24)) := (hb5.alloc hb5.size _).alloc (by rw [World.size_alloc]; have := hb5.size; omega) _
  have hb5W : Below w5.heap.size w5 ((w5.alloc (.cells #[.int .i64 1, .int .i64 2, .slice Ab 1 cb] 29)).alloc (.cells #[.int .i64 3, .slice A5 2 c5] 24)) := ((Below.refl _ _).alloc (Nat.le_refl _) _).alloc (by rw [World.size_alloc]; omega) _
  replace v1 := keepc v1 hbW
  replace v2 := keepc v2 hbW
  have ho5 := HO4.out.below hbW (Nat.le_refl _)
  have hrd := ho5.rd
  obtain ⟨g, Ac, cc, eA, -, -, -, r1, r2, r3, he, -⟩ := (ho5.away (Nat.le_refl _)).row (k := 2) (by decide)
  obtain ⟨Ai, ci, e1, hrc, -⟩ := he
  injection e1 with e1 _ e2
  subst e1 e2
  subst eA
  have s1 : ((w5.alloc (.cells #[.int .i64 1, .int .i64 2, .slice Ab 1 cb] 29)).alloc (.cells #[.int .i64 3, .slice A5 2 c5] 24)).cell? ⟨g, 6, none⟩ = some (.int .i64 2) := r1
  have s3 : ((w5.alloc (.cells #[.int .i64 1, .int .i64 2, .slice Ab 1 cb] 29)).alloc (.cells #[.int .i64 3, .slice A5 2 c5] 24)).cell? ⟨g, 8, none⟩ = some (.slice Ac 1 cc) := r3
  have hc1 := conv_text ((w5.alloc (.cells #[.int .i64 1, .int .i64 2, .slice Ab 1 cb] 29)).alloc (.cells #[.int .i64 3, .slice A5 2 c5] 24)) (c := cc) (n := 1) (bs := [97]) rfl hrc
  have hc2 := conv_text ((w5.alloc (.cells #[.int .i64 1, .int .i64 2, .slice Ab 1 cb] 29)).alloc (.cells #[.int .i64 3, .slice A5 2 c5] 24)) (c := cb) (n := 1) (bs := [98]) rfl (hrb.below hb5W)
  have hs5 : Calls Try.prog 19 #[.agg #[.int .i64 3, .slice (some ⟨g, 0, none⟩) 3 c3], .int .i64 1] ((w5.alloc (.cells #[.int .i64 1, .int .i64 2, .slice Ab 1 cb] 29)).alloc (.cells #[.int .i64 3, .slice A5 2 c5] 24)) fun e w' => ∃ A' c', e = .returned (.agg #[.int .i64 3, .slice A' 1 c']) ∧ Below ((w5.alloc (.cells #[.int .i64 1, .int .i64 2, .slice Ab 1 cb] 29)).alloc (.cells #[.int .i64 3, .slice A5 2 c5] 24)).heap.size ((w5.alloc (.cells #[.int .i64 1, .int .i64 2, .slice Ab 1 cb] 29)).alloc (.cells #[.int .i64 3, .slice A5 2 c5] 24)) w' :=
    (cut_any ((w5.alloc (.cells #[.int .i64 1, .int .i64 2, .slice Ab 1 cb] 29)).alloc (.cells #[.int .i64 3, .slice A5 2 c5] 24)) (n := 3) (c := c3) (P := aw3) 3 1 rfl hrd (Nat.le_refl _) (short_aw (by decide) (by decide))).mono fun e w' ⟨A', n', c', he, hn', ho, hb⟩ => ⟨A', c', by rw [he, hn']; rfl, hb⟩
  have HS5 := Lib.hid hs5
  have hbF : Below w.heap.size w ((w5.alloc (.cells #[.int .i64 1, .int .i64 2, .slice Ab 1 cb] 29)).alloc (.cells #[.int .i64 3, .slice A5 2 c5] 24)) := hbwU.trans (hbW.mono hbwU.size)
  have HC1 := Lib.hid hc1
  have HC2 := Lib.hid hc2
  clear hs4 hb5 hbW hb5W ho5 hrd r1 r2 r3 hrc hs5 hbwU HO4 hrb hc1 hc2
  go_wp2_with (first | rw [HC1.out] | rw [HC2.out])
  refine HS5.out.mono ?_
  rintro e w6 ⟨A6, c6, rfl, hb6⟩
  go_wp2_with fail
  rw [field_list]
  go_wp2_with fail
  go_ret
  exact ⟨rfl, hbF.trans (hb6.mono hbF.size)⟩
end Go.Proofs.Ytnmamfgebbcehaa.pk
