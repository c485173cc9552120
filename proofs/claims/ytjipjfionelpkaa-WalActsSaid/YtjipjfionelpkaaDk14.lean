/- The disk law's awake. -/
import Derived.Test.YtjipjfionelpkaaDk13
namespace Go.Proofs.Ytjipjfionelpkaa.dk
open Go.RowKit Go.Proofs.Ytjipjfionelpkaa.lib Go.Proofs.Ytjipjfionelpkaa.byt
set_option linter.unusedVariables false

theorem conv_const (w : World) (C : Array Value) (n c : Nat) : (convert 22 22 (.slice (some ⟨w.heap.size, 0, none⟩) n c)).run Try.prog (w.alloc (.cells C 5)) = .ok (.slice (some ⟨w.heap.size, 0, none⟩) n c) (w.alloc (.cells C 5 (C.size, C.size + 1))) :=
  Go.Lib.run_convert_bytes_const (P := Try.prog) w 22 5 C n c Try.underlying22 Try.underlying5
theorem rd_const2 (w : World) (a b : UInt8) : RdB (w.alloc (.cells #[.int .u8 (a.toNat : Int), .int .u8 (b.toNat : Int)] 5 (2, 3))) (w.heap.size + 1) (some ⟨w.heap.size, 0, none⟩) [a, b] := by
  refine ⟨rfl, fun _ => ⟨_, rfl, by simp, fun j u hu => ?_⟩⟩
  rw [add_at, cell_of_row _ w.heap.size j _ _ (2, 3) (heap_alloc_new w _)]
  have e : bytesV [a, b] = [Value.int .u8 (a.toNat : Int), Value.int .u8 (b.toNat : Int)] := rfl
  rw [e] at hu
  simpa using hu

def aw1 : DS := (actS newS (0, 0, [97, 98])).2
def aw2 : DS := (syncS aw1).2
def aw3 : DS := (actS aw2 (0, 0, [99, 100])).2
def aw4 : DS := (actS aw3 (2, 1, [])).2
def aw5 : DS := crashS aw4 1 0
def aw6 : DS := crashS aw4 0 1
theorem ok_off {s : DS} (h : s.arm = false) : OkS s := fun e => by rw [h] at e; cases e
theorem good_of {s : DS} (h : ∀ p ∈ s.lo, GoodC p) : ∀ i (h : i < s.lo.length), GoodC s.lo[i] := fun i hi => h _ (List.getElem_mem hi)
theorem aw1_long : LongOk aw1 0 := ⟨by decide, by decide, good_of (by
  have e : aw1.lo = [(0, 0, [97, 98])] := rfl
  intro p hp
  rw [e] at hp
  simp only [List.mem_singleton] at hp
  subst hp
  exact ⟨.inl rfl, .inl rfl⟩)⟩
theorem aw4_long : LongOk aw4 0 := ⟨by decide, by decide, good_of (by
  have e : aw4.lo = [(0, 0, [99, 100]), (2, 1, [])] := rfl
  intro p hp
  rw [e] at hp
  simp only [List.mem_cons, List.not_mem_nil, or_false] at hp
  rcases hp with rfl | rfl
  · exact ⟨.inl rfl, .inl rfl⟩
  · exact ⟨.inr (.inr rfl), .inr rfl⟩)⟩
theorem aw_codes : (actS newS (0, 0, [97, 98])).1 = 0 ∧ (0, aw2) = syncS aw1 ∧ (actS aw2 (0, 0, [99, 100])).1 = 0 ∧ (actS aw3 (2, 1, [])).1 = 0 ∧ (actS aw5 (1, 2, [])).1 = 1 := ⟨rfl, rfl, rfl, rfl, rfl⟩
theorem aw_short : ShortD newS 2 ∧ ShortD aw2 2 ∧ ShortD aw3 0 ∧ ShortD aw4 0 ∧ ShortD aw5 0 ∧ ShortD aw6 0 := ⟨⟨by decide, by decide⟩, ⟨by decide, by decide⟩, ⟨by decide, by decide⟩, ⟨by decide, by decide⟩, ⟨by decide, by decide⟩, ⟨by decide, by decide⟩⟩
theorem aw_read : ([97, 98, 99, 100], 0) = readS aw5 0 ∧ ([97, 98, 99], 0) = readS aw6 0 ∧ ((0 : Int), (0 : Int)) = if aw5.down = true then (0, 4) else (aw5.f1, 0) := ⟨rfl, rfl, rfl⟩

set_option maxRecDepth 8000 in
set_option maxHeartbeats 8000000 in
theorem awake07 (w : World) : Calls Try.prog 11 #[] w fun e w' => e = .returned (.bool true) ∧ Below w.heap.size w w' := by
  obtain ⟨k1, k2, k3, k4, k5⟩ := aw_codes
  obtain ⟨z1, z2, z3, z4, z5, z6⟩ := aw_short
  obtain ⟨r1, r2, r3⟩ := aw_read
  go_enter Try.func11, Try.ntmps11
  go_wp2_with fail
  refine (new_any w).mono ?_
  rintro e w1 ⟨rfl, hD, hb1⟩
  go_wp2_with fail
  rw [conv_const]
  have hD2 := hD.below ((Below.refl w1.heap.size w1).alloc (Nat.le_refl _) (.cells #[.int .u8 97, .int .u8 98] 5 (2, 3))) (Nat.le_refl _)
  have hb2 : Below w.heap.size w (w1.alloc (.cells #[.int .u8 97, .int .u8 98] 5 (2, 3))) := hb1.alloc hb1.size _
  have hrx := rd_const2 w1 97 98
  clear hD hb1
  go_wp2_with fail
  refine (append_any _ hD2 (ok_off rfl) 0 (m := 2) (b := [97, 98]) rfl hrx (by simp) z1 (by decide)).mono ?_
  rintro e w2 ⟨rfl, hD3, hbf⟩
  replace hD3 : DiskM w2 _ _ _ aw1 := hD3
  rw [k1]
  have hb3 := hb2.trans (hbf.to_below (fun b h => h) hb2.size)
  clear hD2 hb2 hrx hbf
  go_wp2_with fail
  refine (sync_any w2 hD3 (ok_off rfl) aw1_long 0 aw2 k2).mono ?_
  rintro e w3 ⟨rfl, hD4, hbf⟩
  have hb4 := hb3.trans (hbf.to_below (fun b h => h) hb3.size)
  clear hD3 hb3 hbf
  go_wp2_with fail
  rw [conv_const]
  have hD5 := hD4.below ((Below.refl w3.heap.size w3).alloc (Nat.le_refl _) (.cells #[.int .u8 99, .int .u8 100] 5 (2, 3))) (Nat.le_refl _)
  have hb5 : Below w.heap.size w (w3.alloc (.cells #[.int .u8 99, .int .u8 100] 5 (2, 3))) := hb4.alloc hb4.size _
  have hrx := rd_const2 w3 99 100
  clear hD4 hb4
  go_wp2_with fail
  refine (append_any _ hD5 (ok_off rfl) 0 (m := 2) (b := [99, 100]) rfl hrx (by simp) z2 (by decide)).mono ?_
  rintro e w4 ⟨rfl, hD6, hbf⟩
  replace hD6 : DiskM w4 _ _ _ aw3 := hD6
  rw [k3]
  have hb6 := hb5.trans (hbf.to_below (fun b h => h) hb5.size)
  clear hD5 hb5 hrx hbf
  go_wp2_with fail
  refine (front_any w4 hD6 (ok_off rfl) 1 z3).mono ?_
  rintro e w5 ⟨rfl, hD7, hbf⟩
  replace hD7 : DiskM w5 _ _ _ aw4 := hD7
  rw [k4]
  have hb7 := hb6.trans (hbf.to_below (fun b h => h) hb6.size)
  clear hD6 hb6 hbf
  go_wp2_with fail
  refine (clone_two w5 hD7 z4).mono ?_
  rintro e w6 ⟨rfl, ⟨F1, G1, F2, G2, hP, hQ, hbes, hF, hG⟩, hbf⟩
  have hb8 := hb7.trans (hbf.mono hb7.size)
  have hlo := fun b (h : b < w.heap.size) => hF b h
  generalize w5.heap.size = x at hQ ⊢
  clear hD7 hb7 hbf hF hG
  go_wp2_with fail
  refine (crash_any w6 hP aw4_long 1 0).mono ?_
  rintro e w7 ⟨rfl, hP2, hbf⟩
  replace hP2 : DiskM w7 _ _ _ aw5 := hP2
  have hb9 := hb8.trans (hbf.to_below (fun b h => (hlo b h).1) hb8.size)
  have hQ2 := hQ.other hbf fun b h => (hbes b h).1
  have hbes2 := (hbes.symm.act hbf.size).symm
  have hlo2 : ∀ b, b < w.heap.size → F1 b ∧ plus w6 w7 F2 b := fun b h => ⟨(hlo b h).1, Nat.lt_of_lt_of_le h hb9.size, .inl (hlo b h).2⟩
  clear hP hQ hb8 hbf hbes hlo
  go_wp2_with fail
  refine (crash_any w7 hQ2 aw4_long 0 1).mono ?_
  rintro e w8 ⟨rfl, hQ3, hbf⟩
  replace hQ3 : DiskM w8 _ _ _ aw6 := hQ3
  have hb10 := hb9.trans (hbf.to_below (fun b h => (hlo2 b h).2) hb9.size)
  have hP3 := hP2.other hbf fun b h => (hbes2 b h).2
  have hlo3 : ∀ b, b < w.heap.size → plus w7 w8 F1 b := fun b h => ⟨Nat.lt_of_lt_of_le h hb10.size, .inl (hlo2 b h).1⟩
  clear hP2 hQ2 hb9 hbf hbes2 hlo2
  go_wp2_with fail
  refine (read_any w8 hP3 z5 0 _ _ r1 4 rfl).mono ?_
  rintro e w9 ⟨As, cs, rfl, hos, hb⟩
  have hb11 := hb10.trans (hb.mono hb10.size)
  have hP4 := hP3.below hb (Nat.le_refl _)
  have hQ4 := hQ3.below hb (Nat.le_refl _)
  have hsz9 := hb.size
  clear hP3 hQ3 hb10 hb
  go_wp2_with fail
  refine (read_any w9 hQ4 z6 0 _ _ r2 3 rfl).mono ?_
  rintro e w10 ⟨At, ct, rfl, hot, hb⟩
  have hb12 := hb11.trans (hb.mono hb11.size)
  have hP5 := hP4.below hb (Nat.le_refl _)
  have hos2 := own_below hos hb (Nat.le_refl _)
  have hlo4 : ∀ b, b < w.heap.size → plus w7 w8 F1 b := hlo3
  clear hP4 hQ4 hb11 hb hos hlo3 hsz9
  go_wp2_with fail
  refine (first_any w10 hP5 0 0 r3).mono ?_
  rintro e w11 ⟨rfl, rfl⟩
  have hs1 := conv_text w10 (c := cs) (n := 4) (bs := [97, 98, 99, 100]) rfl (OwnB.rd hos2)
  have hs2 := conv_text w10 (c := ct) (n := 3) (bs := [97, 98, 99]) rfl (OwnB.rd hot)
  go_wp2_with (first | rw [hs1] | rw [hs2])
  refine (wipe_any w10 hP5 (ok_off rfl) 2 z5).mono ?_
  rintro e w12 ⟨rfl, -, hbf⟩
  rw [k5]
  have hb13 := hb12.trans (hbf.to_below hlo4 hb12.size)
  clear hbf hlo4
  go_wp2_with fail
  go_ret
  exact ⟨rfl, hb13⟩
end Go.Proofs.Ytjipjfionelpkaa.dk
