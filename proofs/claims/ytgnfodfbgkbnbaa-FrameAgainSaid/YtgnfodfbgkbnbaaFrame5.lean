/- The frame law's awake. -/
import Derived.Test.YtgnfodfbgkbnbaaFrame4
import Derived.Test.YtgnfodfbgkbnbaaFramePlain2
import Derived.Lib.SlBytesConst
namespace Go.Proofs.Ytgnfodfbgkbnbaa.frameWalk
open Go.RowKit Go.Proofs.Ytgnfodfbgkbnbaa.hashPlain Go.Proofs.Ytgnfodfbgkbnbaa.framePlain Go.Proofs.Ytgnfodfbgkbnbaa.lib Go.Proofs.Ytgnfodfbgkbnbaa.byt Go.Proofs.Ytgnfodfbgkbnbaa.hashWalk

theorem own_cap {w : World} {B : Nat} {A : Option Addr} {c : Nat} {bs : List UInt8} (h : OwnB w B A c bs) : bs.length ≤ c := by
  rcases h.2 with ⟨e, h0⟩ | ⟨g, cap, cur, e, _, _, hle, _⟩
  · omega
  · injection e with _ _ e3
    omega
theorem rd_take {w : World} {B : Nat} {A : Option Addr} {bs : List UInt8} (h : RdB w B A bs) {m : Nat} (hm : m ≤ bs.length) : RdB w B A (bs.take m) := by
  have hl : (bs.take m).length = m := by rw [List.length_take]; omega
  refine ⟨by rw [bytesV_length, Nat.mul_one], fun h0 => ?_⟩
  obtain ⟨ad, e, hb, hc⟩ := h.2 (by omega)
  refine ⟨ad, e, hb, fun j u hu => hc j u ?_⟩
  have hj : j < m := by
    have := (List.getElem?_eq_some_iff.1 hu).1
    rwa [bytesV_length, hl] at this
  rw [← hu]
  simp only [bytesV, List.map_take]
  rw [List.getElem?_take_of_lt hj]
theorem frame_nil0 : (frameOf [])[0]? = some 0 := by decide
theorem row_awake : frameOf [] ++ frameOf [120] = rowOf [[], [120]] := by simp [rowOf]

theorem conv_const (w : World) (C : Array Value) (n c : Nat) : (convert 27 27 (.slice (some ⟨w.heap.size, 0, none⟩) n c)).run Try.prog (w.alloc (.cells C 5)) = .ok (.slice (some ⟨w.heap.size, 0, none⟩) n c) (w.alloc (.cells C 5 (C.size, C.size + 1))) :=
  Go.Lib.run_convert_bytes_const (P := Try.prog) w 27 5 C n c Try.underlying27 Try.underlying5
theorem rd_const (w : World) (b : UInt8) : RdB (w.alloc (.cells #[.int .u8 (b.toNat : Int)] 5 (1, 2))) (w.heap.size + 1) (some ⟨w.heap.size, 0, none⟩) [b] := by
  refine ⟨rfl, fun _ => ⟨_, rfl, by simp, fun j u hu => ?_⟩⟩
  rw [add_at, cell_of_row _ w.heap.size j _ _ (1, 2) (heap_alloc_new w _)]
  have e : bytesV [b] = [Value.int .u8 (b.toNat : Int)] := rfl
  rw [e] at hu
  simpa using hu

set_option maxRecDepth 4000 in
set_option maxHeartbeats 4000000 in
theorem awake4 (w : World) : Calls Try.prog 18 #[] w fun e w' => e = .returned (.bool true) ∧ Below w.heap.size w w' := by
  go_enter Try.func18, Try.ntmps18
  go_wp2_with fail
  refine (put_any w w.heap.size (n := 0) (c := 0) (bs := []) rfl (ownB_nil _ _) (Nat.le_refl _) (m := 0) (c2 := 0) (r := []) rfl (ownB_nil w w.heap.size).rd (Nat.le_refl _) (by simp) (by simp)).mono ?_
  rintro e w1 ⟨A1, c1, n1, rfl, hn1, ho1, hu1⟩
  have hb1 := hu1.below_none
  rw [List.nil_append] at hn1 ho1
  have l0 : (frameOf []).length = 12 := frameOf_length []
  rw [l0] at hn1
  subst hn1
  obtain ⟨f0, hf0⟩ : ∃ f0, f0 = frameOf [] := ⟨_, rfl⟩
  rw [← hf0] at ho1 l0
  have F0 := Lib.hid hf0
  clear hf0 hu1
  go_wp2_with fail
  rw [conv_const]
  go_wp2_with fail
  have hoA : OwnB (w1.alloc (.cells #[.int .u8 120] 5 (1, 2))) w.heap.size A1 c1 f0 := own_below ho1 ((Below.refl _ _).alloc (Nat.le_refl _) _) (Nat.le_refl _)
  have hrx := rd_const w1 120
  refine (put_any (w1.alloc (.cells #[.int .u8 120] 5 (1, 2))) w.heap.size (n := 12) (c := c1) l0.symm hoA (by have := hb1.size; simp; omega) (m := 1) (r := [120]) rfl hrx (by simp) (by rw [l0]; decide) (by simp)).mono ?_
  rintro e w2 ⟨A2, c2, n2, rfl, hn2, ho2, hu2⟩
  have hb2 : Below w.heap.size w w2 := (hb1.alloc hb1.size _).trans (hu2.below_own hoA (by have := hb1.size; simp; omega))
  have hrb : RdB w2 w2.heap.size A1 f0 := by
    have hu2' : Upd (w1.alloc (.cells #[.int .u8 120] 5 (1, 2))) w2 A1 (f0.length * 1) A2 := by rw [Nat.mul_one]; exact hu2
    exact hu2'.reads_old hoA
  have hcap1 := own_cap ho1
  rw [l0] at hcap1
  rw [F0.out, row_awake] at hn2 ho2
  have l2 : (rowOf [[], [120]]).length = 25 := by simp [rowOf, frameOf_length]
  rw [l2] at hn2
  subst hn2
  have hcap := own_cap ho2
  rw [l2] at hcap
  clear hoA hrx hu2 ho1 hb1
  go_wp2_with fail
  refine (scan_any w2 l2.symm ho2.rd (Nat.le_refl _) hcap (by rw [l2]; decide)).mono ?_
  rintro e w3 ⟨A3, c3, m3, k3, R3, rfl, hm3, ho3, ht3, hf3, hb3⟩
  obtain ⟨rfl, rfl⟩ := scan_row (by intro r hr; simp at hr; rcases hr with rfl | rfl <;> simp) ht3 hf3
  rw [l2]
  have hm3' : m3 = 2 := hm3
  subst hm3'
  clear hm3 ht3 hf3 hcap
  have hrb3 : RdB w3 w3.heap.size A1 f0 := (hrb.below hb3).more hb3.size
  have h6 : f0.take 6 = (f0.take 6) := rfl
  go_wp2_with fail
  refine (scan_any w3 (n := 6) (bs := f0.take 6) (by rw [List.length_take, l0]; rfl) (rd_take hrb3 (by omega)) (Nat.le_refl _) (by omega) (by rw [List.length_take]; omega)).mono ?_
  rintro e w4 ⟨A4, c4, m4, k4, R4, rfl, hm4, ho4, ht4, hf4, hb4⟩
  obtain ⟨rfl, rfl⟩ := scan_short (by rw [List.length_take]; omega) ht4 hf4
  have hm4' : m4 = 0 := hm4
  subst hm4'
  clear hm4 ht4 hf4 ho4
  have hrb4 : RdB w4 w4.heap.size A1 f0 := (hrb3.below hb4).more hb4.size
  have hrl : RdBB w4 w3.heap.size A3 [[], [120]] := (ho3.rd).below hb4
  obtain ⟨adl, A5, c5, rfl, hc5, hr5⟩ := hrl.at_ (k := 1) (by simp)
  have hs5 := conv_text w4 (c := c5) (n := 1) (bs := [120]) rfl hr5
  obtain ⟨adb, rfl, hc0⟩ := rd_at hrb4 (k := 0) (by omega)
  have hz0 : f0[0] = 0 := by
    have := frame_nil0
    rw [← F0.out, List.getElem?_eq_getElem (by omega)] at this
    injection this
  rw [hz0] at hc0
  have hc0' : w4.cell? adb = some (.int .u8 0) := by
    have e : adb.add 0 = adb := by simp [Addr.add]
    rw [e] at hc0
    exact hc0
  have e5 : adl.add 1 = ⟨adl.block, adl.off + 1, none⟩ := by simp [Addr.add]
  have hc5' : w4.cell? ⟨adl.block, adl.off + 1, none⟩ = some (.slice A5 1 c5) := e5 ▸ hc5
  have hbF : Below w.heap.size w w4 := (hb2.trans (hb3.mono hb2.size)).trans (hb4.mono (Nat.le_trans hb2.size hb3.size))
  clear hz0 hc5 hr5 hrl hrb4 hrb3 hrb hb2 hb3 hb4 ho3 ho2 F0 h6
  go_wp2_with (rw [hs5])
  go_ret
  exact ⟨rfl, hbF⟩
end Go.Proofs.Ytgnfodfbgkbnbaa.frameWalk
