/- The law DiskMemory. -/
import Derived.Test.YtjipjfionelpkaaDk14
import Derived.Deep.RegionHeld3
namespace Go.Proofs.Ytjipjfionelpkaa.dk
open Go.RowKit Go.Proofs.Ytjipjfionelpkaa.lib Go.Proofs.Ytjipjfionelpkaa.byt
set_option linter.unusedVariables false

theorem ownB_at {w : World} {g base : Nat} (hg : w.heap[g]? = some (.cells #[] 5 (0, 0))) (hb : base ≤ g) : OwnB w base (some ⟨g, 0, none⟩) 0 [] :=
  ⟨rfl, .inr ⟨g, 0, #[], rfl, hb, hg, Nat.le_refl _, by decide, rfl, rfl⟩⟩
/-- 'append([]byte{}, x...)' -/
theorem append_copyB (W : World) {g base : Nat} (hg : W.heap[g]? = some (.cells #[] 5 (0, 0))) (hb : base ≤ g) {A : Option Addr} {m c B2 : Nat} {bs : List UInt8} (hm : m = bs.length) (hr : RdB W B2 A bs) (hs : bs.length ≤ 1099511627776) :
    ∃ A' c' W', (Builtin.append_ #[22, 22] 22 #[.slice (some ⟨g, 0, none⟩) 0 0, .slice A m c]).run Try.prog W = .ok (.slice A' m c') W' ∧ OwnB W' base A' c' bs ∧ Below base W W' := by
  have hgl : g < W.heap.size := (Array.getElem?_eq_some_iff.1 hg).1
  obtain ⟨A', c', W', hrun, ho, hu⟩ := append_bytes W base (n := 0) (c := 0) (bs := []) rfl (ownB_at hg hb) hm (c2 := c) hr (by simp; omega) (by omega)
  simp only [List.nil_append] at hrun ho
  rw [← hm] at hrun
  exact ⟨A', c', W', hrun, ho, hu.below_own (ownB_at hg hb) (by omega)⟩

theorem bytesV_get (bs : List UInt8) (j : Nat) (h : j < bs.length) : (bytesV bs)[j]? = some (.int .u8 (bs[j].toNat : Int)) := by
  simp only [bytesV, List.getElem?_map, List.getElem?_eq_getElem h, Option.map_some]
/-- What is needed to write into a slice of m bytes, in a block of T. -/
def ScrT (w : World) (T : Nat → Prop) (A : Option Addr) (m : Nat) : Prop :=
  0 < m → ∃ ad, A = some ad ∧ T ad.block ∧ ∀ j, j < m → (∃ z, w.cell? (ad.add j) = some (.int .u8 z)) ∧ w.frozen? (ad.add j) = false
section
variable {w w' : World} {T T' : Nat → Prop} {A : Option Addr} {m : Nat}
theorem ScrT.store (h : ScrT w T A m) (p : Addr) (z : Int) : ScrT (w.setCell p (.int .u8 z)) T A m := fun h0 => by
  obtain ⟨ad, e1, e2, e4⟩ := h h0
  refine ⟨ad, e1, e2, fun j hj => ?_⟩
  obtain ⟨⟨v, hv⟩, hf⟩ := e4 j hj
  refine ⟨?_, by simpa using hf⟩
  by_cases e : ad.add j = p
  · subst e
    exact ⟨z, World.cell?_setCell_same w _ _ hv⟩
  · exact ⟨v, by rw [World.cell?_setCell_other w p _ _ (fun h => e h.symm)]; exact hv⟩
theorem ScrT.keep (h : ScrT w T A m) (hT : ∀ b, T b → T' b) (hk : ∀ b, T b → b < w.heap.size → w'.heap[b]? = w.heap[b]?) : ScrT w' T' A m := fun h0 => by
  obtain ⟨ad, e1, e2, e4⟩ := h h0
  refine ⟨ad, e1, hT _ e2, fun j hj => ?_⟩
  obtain ⟨⟨v, hv⟩, hf⟩ := e4 j hj
  have hlt := World.block_lt_of_cell? w _ hv
  rw [block_of_add] at hlt
  have e := hk _ e2 hlt
  exact ⟨⟨v, (World.cell?_of_block (by rw [block_of_add]; exact e)).trans hv⟩, (World.frozen?_of_block (by rw [block_of_add]; exact e)).trans hf⟩
theorem ScrT.of_own {B c : Nat} {bs : List UInt8} (h : OwnB w B A c bs) (hm : m = bs.length) (hT : ∀ b, B ≤ b → b < w.heap.size → T b) : ScrT w T A m := fun h0 => by
  subst hm
  rcases id h.2 with ⟨e, hz⟩ | ⟨g, cap, cur, e, hg, hh, _⟩
  · omega
  · injection e with e1 _ _
    subst e1
    refine ⟨_, rfl, hT g hg (Array.getElem?_eq_some_iff.1 hh).1, fun j hj => ?_⟩
    have hc := h.cellAt (g := g) j (by rw [Nat.mul_one]; exact hj)
    rw [bytesV_get bs j hj] at hc
    rw [add_at]
    exact ⟨⟨_, hc⟩, frozen_of_row w g j _ _ hh⟩
end
def me1 (b : List UInt8) : DS := (actS newS (0, 0, b)).2
theorem me_read (b : List UInt8) : (b, (0 : Int)) = readS (me1 b) 0 ∧ (b, (0 : Int)) = readS (crashS (me1 b) 5 0) 0 := ⟨rfl, rfl⟩
theorem me_short (b : List UInt8) (h : b.length ≤ 500) : ShortD (me1 b) 0 ∧ ShortD (crashS (me1 b) 5 0) 0 ∧ LongOk (me1 b) 0 := by
  have h2 : ∀ k, k < 4 → ((me1 b).by_ k).length ≤ 500 ∧ ((crashS (me1 b) 5 0).by_ k).length ≤ 500 := fun k hk => by
    rcases k with _ | _ | _ | _ | k
    · exact ⟨Nat.zero_le _, h⟩
    · exact ⟨Nat.zero_le _, Nat.zero_le _⟩
    · exact ⟨h, h⟩
    · exact ⟨Nat.zero_le _, Nat.zero_le _⟩
    · omega
  have hl : (me1 b).lo = [(0, 0, b)] := rfl
  have ht : tot (me1 b).lo = b.length := by rw [hl]; simp [tot]
  have h1 : (me1 b).lo.length = 1 := by rw [hl]; rfl
  have h0 : (crashS (me1 b) 5 0).lo.length = 0 := rfl
  refine ⟨⟨fun k hk => by have := (h2 k hk).1; omega, by omega⟩, ⟨fun k hk => by have := (h2 k hk).2; omega, by omega⟩, fun k hk => by have := (h2 k hk).1; omega, by omega, good_of fun p hp => ?_⟩
  rw [hl, List.mem_singleton] at hp
  subst hp
  exact ⟨.inl rfl, .inl rfl⟩
theorem newS_short (m : Nat) (h : m ≤ 500) : ShortD newS m := ⟨fun k _ => by have : newS.by_ k = [] := rfl; rw [this, List.length_nil]; omega, by decide⟩

set_option maxRecDepth 8000 in
set_option maxHeartbeats 8000000 in
theorem law_DiskMemory (w : World) {A : Option Addr} {n c : Nat} (hx : ∃ bs : List UInt8, n = bs.length ∧ n ≤ c ∧ RdB w w.heap.size A bs) :
    Calls Try.prog 3 #[.slice A n c] w fun e w' => e = .returned (.bool true) ∧ Below w.heap.size w w' := by
  obtain ⟨b, hn, -, hr⟩ := hx
  have HN := Lib.hid hn
  clear hn
  go_enter Try.func3, Try.ntmps3
  go_wp2_with fail
  refine (awake07 _).mono ?_
  rintro e w1 ⟨rfl, hb1⟩
  by_cases hl : 500 < n
  · (go_wp2_with fail; refine (awake07 _).mono ?_; rintro e wz ⟨rfl, hbz⟩; go_wp2_with fail; go_ret; exact ⟨rfl, hb1.trans (hbz.mono hb1.size)⟩)
  have hbl : b.length ≤ 500 := by have := HN.out; omega
  obtain ⟨Ac, cc, w2, hrun, hoc, hb2⟩ := append_copyB (w1.alloc (.cells #[] 5)) (g := w1.heap.size) (base := w.heap.size) (heap_alloc_new w1 _) hb1.size (c := c) HN.out (hr.below (hb1.alloc hb1.size _)) (by omega)
  have hb12 : Below w.heap.size w w2 := (hb1.alloc hb1.size _).trans hb2
  clear hb1 hb2
  go_wp2_with (at_builtin; refine wpList_append_run rfl rfl rfl rfl hrun ?_; clear hrun)
  refine (new_any w2).mono ?_
  rintro e w3 ⟨rfl, hD, hb⟩
  have hb3 := hb12.trans (hb.mono hb12.size)
  have hoc3 := own_below hoc hb (Nat.le_refl _)
  have hszw := hb12.size
  have hcT : ScrT w3 (fun b => w.heap.size ≤ b ∧ b < w2.heap.size) Ac n := (ScrT.of_own hoc HN.out (T := fun b => w.heap.size ≤ b ∧ b < w2.heap.size) (fun b h1 h2 => ⟨h1, h2⟩)).keep (fun b h => h) (fun b _ hlt => hb.block b hlt)
  clear hoc hb hb12 hl
  go_wp2_with fail
  refine (append_any w3 hD (ok_off rfl) 0 HN.out (OwnB.rd hoc3) (Nat.le_refl _) (newS_short _ hbl) (by omega)).mono ?_
  rintro e w4 ⟨rfl, hD4, hbf⟩
  replace hD4 : DiskM w4 _ _ _ (me1 b) := hD4
  obtain ⟨z1, z2, z3⟩ := me_short b hbl
  obtain ⟨r1, r2⟩ := me_read b
  have hb4 := hb3.trans (hbf.to_below (fun b h => Nat.lt_of_lt_of_le h hszw) hb3.size)
  have hcT4 : ScrT w4 (fun b => w.heap.size ≤ b ∧ b < w2.heap.size) Ac n := hcT.keep (fun b h => h) (fun b h hlt => hbf.block b hlt h.2)
  clear hoc3 hbf hb3 hcT hD
  go_wp2_with fail
  refine (read_any w4 hD4 z1 0 _ _ r1 n HN.out).mono ?_
  rintro e w5 ⟨Ax, cx, rfl, hox, hb⟩
  have hD5 := hD4.plus hb (Nat.le_refl _)
  have hcT5 := hcT4.keep (T' := fun b => w.heap.size ≤ b ∧ b < w2.heap.size) (fun b h => h) (fun b h hlt => hb.block b hlt)
  have hxT5 : ScrT w5 (fun b => w4.heap.size ≤ b ∧ b < w5.heap.size) Ax n := ScrT.of_own hox HN.out fun b h1 h2 => ⟨h1, h2⟩
  have hb5 := hb4.trans (hb.mono hb4.size)
  have hsz4 : w2.heap.size ≤ w4.heap.size ∧ w.heap.size ≤ w4.heap.size ∧ w4.heap.size ≤ w5.heap.size := by have := hD4.lt; exact ⟨by omega, hb4.size, hb.size⟩
  clear hox hb hb4 hcT4 hD4
  generalize hF : plus w4 w5 (fun b => b < w2.heap.size) = F at hD5
  have hG : ∀ b, (w.heap.size ≤ b ∧ b < w2.heap.size) ∨ (w4.heap.size ≤ b ∧ b < w5.heap.size) → F b ∧ w.heap.size ≤ b := fun b h => by
    rw [← hF]
    unfold plus
    omega
  have HLO := Lib.hid (show ∀ b, b < w.heap.size → F b from fun b h => by rw [← hF]; unfold plus; have := hszw; omega)
  have HG := Lib.hid hG
  have HF := Lib.hid hF
  clear hG hF
  have HD5 := Lib.hid hD5
  have HC5 := Lib.hid hcT5
  have HX5 := Lib.hid hxT5
  have hn0 : n ≤ 500 := by have := HN.out; omega
  clear hD5 hcT5 hxT5
  generalize w2.heap.size = d0 at *
  go_wp2_with fail
  go_loopw [7] (fun i wr => ∃ k : Nat, k ≤ n ∧ i = .int .i64 k ∧ Hid (DiskM wr F F d0 (me1 b)) ∧ Hid (ScrT wr (fun b => w.heap.size ≤ b ∧ b < d0) Ac n) ∧ Hid (ScrT wr (fun b => w4.heap.size ≤ b ∧ b < w5.heap.size) Ax n) ∧ Below w.heap.size w wr) (fun i _ => n - (intOf i).toNat)
  case atStart => exact ⟨0, Nat.zero_le _, rfl, HD5, HC5, HX5, hb5⟩
  case round =>
    obtain ⟨k, hk, rfl, HDK, HCK, HXK, hbk⟩ := hrel
    by_cases hlt : k < n
    · have hk1 : (k : Int) < n := by omega
      have hk0 : (0 : Int) ≤ k := by omega
      obtain ⟨ad, rfl, hT, hcl⟩ := HXK.out (by omega)
      obtain ⟨⟨z, hz⟩, hf⟩ := hcl k hlt
      have hgg := HG.out _ (.inr hT)
      have HD6 := Lib.hid (HDK.out.low (p := ad.add k) (by rw [block_of_add]; exact hgg.1) (.int .u8 9))
      have HC6 := Lib.hid (HCK.out.store (ad.add k) 9)
      have HX6 := Lib.hid (HXK.out.store (ad.add k) 9)
      have hb6 := hbk.setCell (p := ad.add k) (by rw [block_of_add]; exact hgg.2) (.int .u8 9)
      clear hcl hT hgg
      go_wp2_with fail
      go_roundw
      case rel => exact ⟨k + 1, by omega, by go_num, HD6, HC6, HX6, hb6⟩
      case measure => simp [intOf] <;> omega
    · obtain rfl : k = n := by omega
      clear hlt HX5 HC5 HD5 HXK
      have HBK := Lib.hid hbk
      clear hb5 hbk
      go_wp2_with fail
      go_loopw [8] (fun i wr => ∃ j : Nat, j ≤ k ∧ i = .int .i64 j ∧ Hid (DiskM wr F F d0 (me1 b)) ∧ Hid (ScrT wr (fun b => w.heap.size ≤ b ∧ b < d0) Ac k) ∧ Hid (Below w.heap.size w wr)) (fun i _ => k - (intOf i).toNat)
      case atStart => exact ⟨0, Nat.zero_le _, rfl, HDK, HCK, HBK⟩
      case round =>
        obtain ⟨j, hj, rfl, HDJ, HCJ, HBJ⟩ := hrel
        by_cases hlt : j < k
        · have hk1 : (j : Int) < k := by omega
          have hk0 : (0 : Int) ≤ j := by omega
          obtain ⟨ad, rfl, hT, hcl⟩ := HCJ.out (by omega)
          obtain ⟨⟨z, hz⟩, hf⟩ := hcl j hlt
          have hgg := HG.out _ (.inl hT)
          have HD6 := Lib.hid (HDJ.out.low (p := ad.add j) (by rw [block_of_add]; exact hgg.1) (.int .u8 7))
          have HC6 := Lib.hid (HCJ.out.store (ad.add j) 7)
          have HB6 := Lib.hid (HBJ.out.setCell (p := ad.add j) (by rw [block_of_add]; exact hgg.2) (.int .u8 7))
          clear hcl hT hgg
          go_wp2_with fail
          go_roundw
          case rel => exact ⟨j + 1, by omega, by go_num, HD6, HC6, HB6⟩
          case measure => simp [intOf] <;> omega
        · obtain rfl : j = k := by omega
          have hbj := HBJ.out
          have hDj := HDJ.out
          clear HCK HDK HBK HCJ hlt
          go_wp2_with fail
          refine (read_any _ hDj z1 0 _ _ r1 j HN.out).mono ?_
          rintro e w6 ⟨Ay, cy, rfl, hoy, hb⟩
          have hD6 := hDj.plus hb (Nat.le_refl _)
          have hb6 := hbj.trans (hb.mono hbj.size)
          have hry : RdF w6 (plus _ w6 F) Ay b := ReadsF.of_own hoy fun b h1 h2 => ⟨h2, .inr h1⟩
          clear hDj hoy HDJ HBJ
          go_wp2_with fail
          refine (crash_any _ hD6 z3 5 0).mono ?_
          rintro e w7 ⟨rfl, hD7, hbf⟩
          have hb7 := hb6.trans (hbf.to_below (fun b h => ⟨Nat.lt_of_lt_of_le h hb6.size, .inl (HLO.out b h)⟩) hb6.size)
          have hry7 := hry.bel hbf
          clear hry hbf hD6 hb6
          go_wp2_with fail
          refine (read_any _ hD7 z2 0 _ _ r2 j HN.out).mono ?_
          rintro e w8 ⟨Az, cz, rfl, hoz, hb⟩
          have hry8 := hry7.below hb (Nat.le_refl _)
          have hb8 := hb7.trans (hb.mono hb7.size)
          have hr8 := hr.below hb8
          clear hD7 hb hry7 hb7
          go_wp2_with fail
          refine (same_any w8 (xs := b) (bs := b) HN.out HN.out hry8.rd hr8 (by omega) (by omega)).mono ?_
          rintro e w9 ⟨rfl, nq, rfl⟩
          rw [decide_eq_true rfl]
          go_wp2_with fail
          refine (same_any (w8.drewN nq) (xs := b) (bs := b) HN.out HN.out ((OwnB.rd hoz).drewN nq) (hr8.drewN nq) (by omega) (by omega)).mono ?_
          rintro e w9 ⟨rfl, nq2, rfl⟩
          rw [decide_eq_true rfl]
          go_wp2_with fail
          go_ret
          exact ⟨rfl, below_drewN hb8 _⟩
end Go.Proofs.Ytjipjfionelpkaa.dk
