/- What Sync of a disk does. -/
import Derived.Test.YtjipjfionelpkaaDk8
namespace Go.Proofs.Ytjipjfionelpkaa.dk
open Go.RowKit Go.Proofs.Ytjipjfionelpkaa.lib Go.Proofs.Ytjipjfionelpkaa.byt
set_option linter.unusedVariables false

def tot (L : List Pk) : Nat := (L.map fun p => p.2.2.length).sum
def foldS (st : Nat) (s : DS) (L : List Pk) : DS := L.foldl (doS st) s
theorem foldS_snoc (st : Nat) (s : DS) (L : List Pk) (p : Pk) : foldS st s (L ++ [p]) = doS st (foldS st s L) p := by unfold foldS; rw [List.foldl_append]; rfl
theorem doS_len (st : Nat) (s : DS) (p : Pk) (k : Nat) : ((doS st s p).by_ k).length ≤ (s.by_ k).length + p.2.2.length := by
  unfold doS
  split
  · by_cases e : k = st + p.2.1.toNat
    · rw [e]; simp only [upd_same, List.length_append]; omega
    · simp only [upd_ne _ _ e]; omega
  · split
    · by_cases e : k = st + p.2.1.toNat
      · rw [e]; simp only [upd_same, List.length_nil]; omega
      · simp only [upd_ne _ _ e]; omega
    · split <;> simp only <;> omega
theorem foldS_len (st : Nat) (L : List Pk) : ∀ (s : DS) (k : Nat), ((foldS st s L).by_ k).length ≤ (s.by_ k).length + tot L := by
  induction L with
  | nil => intro s k; simp [foldS, tot]
  | cons p L ih =>
    intro s k
    have h1 := ih (doS st s p) k
    have h2 := doS_len st s p k
    have e : foldS st s (p :: L) = foldS st (doS st s p) L := rfl
    rw [e]
    simp only [tot, List.map_cons, List.sum_cons] at h1 ⊢
    omega
theorem foldS_same (st : Nat) (L : List Pk) : ∀ s, (foldS st s L).lo = s.lo ∧ (foldS st s L).arm = s.arm ∧ (foldS st s L).left = s.left ∧ (foldS st s L).down = s.down := by
  induction L with
  | nil => intro s; exact ⟨rfl, rfl, rfl, rfl⟩
  | cons p L ih =>
    intro s
    obtain ⟨a1, a2, a3, a4⟩ := ih (doS st s p)
    obtain ⟨b1, b2, b3, b4⟩ := doS_lo st s p
    have e : foldS st s (p :: L) = foldS st (doS st s p) L := rfl
    rw [e]
    exact ⟨a1.trans b1, a2.trans b2, a3.trans b3, a4.trans b4⟩
theorem tot_take (L : List Pk) (k : Nat) (h : k < L.length) : tot (L.take k) + L[k].2.2.length ≤ tot L := by
  have e : L = L.take k ++ (L[k] :: L.drop (k + 1)) := by rw [List.getElem_cons_drop, List.take_append_drop]
  have h2 : tot L = tot (L.take k) + (L[k].2.2.length + tot (L.drop (k + 1))) := by
    conv => lhs; rw [e]
    simp only [tot, List.map_append, List.sum_append, List.map_cons, List.sum_cons]
  omega
section
variable {w w' : World} {F G : Nat → Prop} {d : Nat} {s : DS} {A : Nat → Option Addr} {c : Nat → Nat} {AL : Option Addr} {cL : Nat} {H : List Hd}
theorem DiskP.noloose (h : DiskP w F G d s A c AL cL H) : DiskP (w.setCell ⟨d, 6, none⟩ (.slice none 0 0)) F G d { s with lo := [] } A c none 0 [] := by
  refine ⟨?_, h.base, h.ebase, fun b hb => by simpa using h.flt b hb, fun k hk => row_set (h.own k hk) (h.notd k hk) _, h.notd, h.notF, h.apart, World.ownsRow_nil _ _ _ _, (fun e => by cases e), (fun b e => by cases e), (fun k hk b _ e => by cases e), rfl, fun i h1 => absurd h1 (Nat.not_lt_zero _)⟩
  rw [heap_setCell_same w d 6 _ _ _ h.cells]
  rfl
theorem DiskP.rowAt (h : DiskP w F G d s A c AL cL H) {k : Nat} (hk : k < s.lo.length) :
    ∃ g Ai ci, AL = some ⟨g, 0, none⟩ ∧ g < w.heap.size ∧ w.cell? ⟨g, k * 3, none⟩ = some (.int .i64 s.lo[k].1) ∧ w.cell? ⟨g, k * 3 + 1, none⟩ = some (.int .i64 s.lo[k].2.1) ∧
      w.cell? ⟨g, k * 3 + 2, none⟩ = some (.slice Ai s.lo[k].2.2.length ci) ∧ ElemD w G d A AL (.slice Ai s.lo[k].2.2.length ci) s.lo[k].2.2 := by
  have hkH : k < H.length := by rw [h.hlen]; exact hk
  obtain ⟨e1, e2, he⟩ := h.elem k hkH hk
  obtain ⟨Ai, ci, e4, hr⟩ := id he
  obtain ⟨g1, g2, g3⟩ := pkV_get H k hkH
  have h1 := h.row
  rcases h1.2 with ⟨e5, hz⟩ | ⟨g, cap, cur, e5, hg, hh, _⟩
  · omega
  · injection e5 with e5 _ e6
    subst e5 e6
    rw [e4] at he
    refine ⟨g, Ai, ci, rfl, (Array.getElem?_eq_some_iff.1 hh).1, ?_, ?_, ?_, he⟩
    · rw [h1.cellAt (k * 3) (by omega), Nat.mul_comm, g1, e1]
    · rw [h1.cellAt (k * 3 + 1) (by omega), Nat.mul_comm, g2, e2]
    · rw [h1.cellAt (k * 3 + 2) (by omega), Nat.mul_comm, g3, e4]
end
def LongOk (s : DS) (st : Nat) : Prop := (∀ k, k < 4 → (s.by_ k).length + tot s.lo ≤ 1099511627776) ∧ s.lo.length ≤ 1099511627770 ∧ ∀ i (h : i < s.lo.length), GoodC s.lo[i]
def syncS (s : DS) : Int × DS := if s.down = true then (4, s) else (0, countS { foldS 0 s s.lo with lo := [] })

set_option maxRecDepth 4000 in
set_option maxHeartbeats 4000000 in
theorem sync_any (w : World) {F G : Nat → Prop} {d : Nat} {s : DS} (h : DiskM w F G d s) (hok : OkS s) (hs : LongOk s 0) (code : Int) (s' : DS) (hc : (code, s') = syncS s) :
    Calls Try.prog 22 #[.pointer (some ⟨d, 0, none⟩)] w fun e w' => e = .returned (.int .i64 code) ∧ DiskM w' F G d s' ∧ BelF F w w' := by
  obtain ⟨-, -, -, -, -, c9, -⟩ := h.cell
  obtain ⟨hdl, hBd, -⟩ := h.lt
  obtain ⟨A, c, AL, cL, H, hP⟩ := h
  unfold syncS at hc
  obtain ⟨dn, hdn⟩ : ∃ b, b = s.down := ⟨_, rfl⟩
  rw [← hdn] at c9 hc
  cases dn with
  | true =>
    rw [if_pos rfl] at hc
    injection hc with h1 h2
    subst h1 h2
    clear hdn hs
    have HP := Lib.hid hP
    clear hP
    go_enter Try.func22, Try.ntmps22
    go_wp2_with fail
    go_ret
    exact ⟨rfl, HP.out.mem, BelF.refl _ _⟩
  | false =>
  rw [if_neg (by decide)] at hc
  injection hc with h1 h2
  subst h1
  obtain ⟨n, hn⟩ : ∃ n, n = s.lo.length := ⟨_, rfl⟩
  have c6 : w.cell? ⟨d, 6, none⟩ = some (.slice AL n cL) := by rw [cell_d hP, hn]; rfl
  have hnl : n ≤ 1099511627770 := by rw [hn]; exact hs.2.1
  have HP := Lib.hid hP
  have HS := Lib.hid hs
  have HN := Lib.hid hn
  have HOK := Lib.hid hok
  have H2 := Lib.hid h2
  clear hP hs hn hok h2 hdn
  go_enter Try.func22, Try.ntmps22
  go_wp2_with fail
  go_loopw [14] (fun vi wr => ∃ (k : Nat) (A' : Nat → Option Addr) (c' : Nat → Nat), k ≤ n ∧ vi = .int .i64 k ∧ Hid (DiskP wr F G d (foldS 0 s (s.lo.take k)) A' c' AL cL H) ∧ BelF F w wr ∧ w.heap.size ≤ wr.heap.size) (fun vi _ => n - (intOf vi).toNat)
  case atStart => exact ⟨0, A, c, Nat.zero_le _, rfl, HP, BelF.refl _ _, Nat.le_refl _⟩
  case round =>
    obtain ⟨k, A', c', hk, rfl, HK, hb, hsz⟩ := hrel
    by_cases hlt : k < n
    · have hkl : k < s.lo.length := by rw [← HN.out]; exact hlt
      obtain ⟨l1, l2, l3, l4⟩ := foldS_same 0 (s.lo.take k) s
      have hkf : k < (foldS 0 s (s.lo.take k)).lo.length := by rw [l1]; exact hkl
      obtain ⟨g, Ab, cb, eA, hgl, r1, r2, r3, he⟩ := HK.out.rowAt hkf
      subst eA
      have heq : (foldS 0 s (s.lo.take k)).lo[k]'hkf = s.lo[k] := by simp only [l1]
      rw [heq] at r1 r2 r3 he
      obtain ⟨p1, p2, b, hp⟩ : ∃ x y z, s.lo[k] = (x, y, z) := ⟨_, _, _, rfl⟩
      obtain ⟨m, hm⟩ : ∃ m, m = b.length := ⟨_, rfl⟩
      have hgood := HS.out.2.2 k hkl
      rw [hp] at r1 r2 r3 he hgood
      simp only at r1 r2 r3 he
      rw [← hm] at r3 he
      have hbA : Below wr.heap.size wr (wr.alloc (.cells #[.int .i64 p1, .int .i64 p2, .slice Ab m cb] 79)) := (Below.refl _ _).alloc (Nat.le_refl _) _
      have hbD : Below wr.heap.size wr (wr.alloc (.cells #[.int .i64 p1, .int .i64 p2, .slice Ab m cb] 79)).drew := below_drew hbA
      have v0 : (wr.alloc (.cells #[.int .i64 p1, .int .i64 p2, .slice Ab m cb] 79)).cell? ⟨wr.heap.size, 0, none⟩ = some (.int .i64 p1) := by simp
      have v1 : (wr.alloc (.cells #[.int .i64 p1, .int .i64 p2, .slice Ab m cb] 79)).cell? ⟨wr.heap.size, 1, none⟩ = some (.int .i64 p2) := by simp
      have v2 : (wr.alloc (.cells #[.int .i64 p1, .int .i64 p2, .slice Ab m cb] 79)).cell? ⟨wr.heap.size, 2, none⟩ = some (.slice Ab m cb) := by simp
      obtain ⟨Ai, ci, e1, hrb, -⟩ := he.below hbD (Nat.le_refl _)
      injection e1 with e1 e4 e3
      subst e1 e3
      clear e4
      have hlen := foldS_len 0 (s.lo.take k) s (0 + p2.toNat)
      have htt := tot_take s.lo k hkl
      rw [hp] at htt
      have hp2 : 0 + p2.toNat < 4 := by rcases hgood.2 with e | e <;> simp only at e <;> omega
      have hsk := HS.out.1 (0 + p2.toNat) hp2
      have hDo := do_any (wr.alloc (.cells #[.int .i64 p1, .int .i64 p2, .slice Ab m cb] 79)).drew (HK.out.below hbD (Nat.le_refl _)) 0 (.inl rfl) (p1, p2, b) hgood hm hrb (Nat.le_refl _) (by simp only at htt ⊢; omega) 0 rfl (cb := cb)
      have HDO := Lib.hid hDo
      have hnx : foldS 0 s (s.lo.take (k + 1)) = doS 0 (foldS 0 s (s.lo.take k)) (p1, p2, b) := by rw [← List.take_append_getElem hkl, foldS_snoc, hp]
      have HNX := Lib.hid hnx
      have hbB : BelF F wr (wr.alloc (.cells #[.int .i64 p1, .int .i64 p2, .slice Ab m cb] 79)).drew := BelF.of hbD (Nat.le_refl _)
      have hk0 : (0 : Int) ≤ k := by omega
      have hk1 : (k : Int) < n := by omega
      clear hDo hnx he hrb hp hm hlen htt hsk hgood heq l1 l2 l3 l4
      go_wp2_with fail
      go_region_law (go_simp; go_at_call 45; refine (HDO.out).mono ?_; rintro e w1 ⟨rfl, A1, c1, h1, hb1, -, -⟩)
      rw [← HNX.out] at h1
      have H1 := Lib.hid h1
      have hb2 := hb.trans (hbB.trans hb1)
      have hs2 := hb2.size
      clear h1 HDO HNX hb1
      go_wp2_with fail
      go_roundw
      case rel => exact ⟨k + 1, A1, c1, hlt, by go_num, H1, hb2, hs2⟩
      case measure => simp [intOf] <;> omega
    · have hkn : s.lo.take k = s.lo := List.take_of_length_le (by rw [← HN.out]; omega)
      rw [hkn] at HK
      obtain ⟨l1, l2, l3, l4⟩ := foldS_same 0 s.lo s
      have b6 : wr.cell? ⟨d, 6, none⟩ = some (.slice AL (foldS 0 s s.lo).lo.length cL) := by rw [cell_d HK.out]; rfl
      have f6 := frozen_d HK.out 6
      have hn6 := HK.out.noloose
      have HCNT := Lib.hid (count_any _ hn6 (fun e => by
        have := HOK.out (by rw [← l2]; exact e)
        rw [← l3] at this
        exact this))
      have hbb := hb
      clear hn6 l1 l2 l3 l4 hkn
      go_wp2_with fail
      refine HCNT.out.mono ?_
      rintro e w5 ⟨rfl, h5, hb5⟩
      have H5 := Lib.hid h5
      have hbz : BelF F w w5 := (hbb.setCell hBd _).trans hb5
      clear h5 hb5 HCNT
      go_wp2_with fail
      go_ret
      exact ⟨rfl, by rw [H2.out]; exact H5.out.mem, hbz⟩
end Go.Proofs.Ytjipjfionelpkaa.dk
