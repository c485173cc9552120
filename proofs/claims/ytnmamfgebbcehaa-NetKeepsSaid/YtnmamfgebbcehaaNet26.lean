/- The law NetKeeps. -/
import Derived.Test.YtnmamfgebbcehaaNet25
import Derived.Test.YtnmamfgebbcehaaTail
namespace Go.Proofs.Ytnmamfgebbcehaa.pk
open Go.RowKit Go.Proofs.Ytnmamfgebbcehaa.lib Go.Proofs.Ytnmamfgebbcehaa.byt
set_option linter.unusedVariables false

set_option maxRecDepth 10000 in
set_option maxHeartbeats 16000000 in
theorem law_NetKeeps (w : World) (x : NetA) (hx : FactN w x) {Ax : Option Addr} {mx cx : Nat} (hbx : ∃ bs : List UInt8, mx = bs.length ∧ mx ≤ cx ∧ RdB w w.heap.size Ax bs) (i : Int) (hi : I64 i) :
    Calls Try.prog 3 #[netV x, .slice Ax mx cx, .int .i64 i] w fun e w' => e = .returned (.bool true) ∧ Below w.heap.size w w' := by
  obtain ⟨next, A, n, c, P⟩ := x
  obtain ⟨hI, hn, hr⟩ := hx
  obtain ⟨bx, hmx, -, hrx⟩ := hbx
  unfold netV
  simp only at hI hn hr ⊢
  have HN := Lib.hid hn
  have HI := Lib.hid hI
  have HMX := Lib.hid hmx
  have hbA : Below w.heap.size w (w.alloc (.cells #[.int .i64 next, .slice A n c] 24)) := (Below.refl _ _).alloc (Nat.le_refl _) _
  have x1 : (w.alloc (.cells #[.int .i64 next, .slice A n c] 24)).cell? ⟨w.heap.size, 0, none⟩ = some (.int .i64 next) := by simp
  have x2 : (w.alloc (.cells #[.int .i64 next, .slice A n c] 24)).cell? ⟨w.heap.size, 1, none⟩ = some (.slice A n c) := by simp
  clear hn hI hmx
  go_enter Try.func3, Try.ntmps3
  go_wp2_with fail
  generalize (w.alloc (.cells #[.int .i64 next, .slice A n c] 24)) = V at hbA x1 x2 ⊢
  refine (awake11 V).mono ?_
  rintro e w1 ⟨rfl, hb1⟩
  replace x1 := keepc x1 hb1
  replace x2 := keepc x2 hb1
  have hbw1 : Below w.heap.size w w1 := hbA.trans (hb1.mono hbA.size)
  have hs1 : w.heap.size < w1.heap.size := World.block_lt_of_cell? w1 _ x1
  clear hb1 hbA
  go_wp2_with fail
  refine (right_any w1 next HN.out (hr.below hbw1) hbw1.size HI.out).mono ?_
  rintro e w2 ⟨⟨t, rfl, ht⟩, hb2⟩
  replace x1 := keepc x1 hb2
  replace x2 := keepc x2 hb2
  have hbw2 : Below w.heap.size w w2 := hbw1.trans (hb2.mono hbw1.size)
  have hs2 : w.heap.size < w2.heap.size := by have := hb2.size; omega
  clear hb2 hbw1 hs1
  cases t
  · clear ht
    (go_wp2_with fail; refine (awake11 _).mono ?_; rintro e wz ⟨rfl, hbz⟩; go_wp2_with fail; go_ret; exact ⟨rfl, hbw2.trans (hbz.mono hbw2.size)⟩)
  have hR := ht rfl
  have HS := Lib.hid hR.short
  have HR := Lib.hid hR
  have hn60 : n ≤ 60 := by have := hR.2.2.1; have := HN.out; omega
  clear ht hR
  by_cases hm5 : 500 < mx
  · have hm6 : (500 : Int) < mx := by omega
    (go_wp2_with fail; refine (awake11 _).mono ?_; rintro e wz ⟨rfl, hbz⟩; go_wp2_with fail; go_ret; exact ⟨rfl, hbw2.trans (hbz.mono hbw2.size)⟩)
  have hm6 : ¬ (500 : Int) < mx := by omega
  by_cases hi0 : i < 0
  · (go_wp2_with fail; refine (awake11 _).mono ?_; rintro e wz ⟨rfl, hbz⟩; go_wp2_with fail; go_ret; exact ⟨rfl, hbw2.trans (hbz.mono hbw2.size)⟩)
  obtain ⟨j, rfl⟩ : ∃ j : Nat, i = j := ⟨i.toNat, by omega⟩
  have HXL := Lib.hid (show bx.length ≤ 1099511627770 from by have := HMX.out; omega)
  have hbU : Below w2.heap.size w2 (w2.alloc (.cells #[.int .i64 next, .slice none 0 0] 24)) := (Below.refl _ _).alloc (Nat.le_refl _) _
  have k1 := keepc x1 hbU
  have k2 := keepc x2 hbU
  have k3 : (w2.alloc (.cells #[.int .i64 next, .slice none 0 0] 24)).cell? ⟨w2.heap.size, 0, none⟩ = some (.int .i64 next) := by simp
  have k4 : (w2.alloc (.cells #[.int .i64 next, .slice none 0 0] 24)).cell? ⟨w2.heap.size, 1, none⟩ = some (.slice none 0 0) := by simp
  have kf : ∀ j, (w2.alloc (.cells #[.int .i64 next, .slice none 0 0] 24)).frozen? ⟨w2.heap.size, j, none⟩ = false := fun j => by simp
  have hsU : w2.heap.size + 1 ≤ (w2.alloc (.cells #[.int .i64 next, .slice none 0 0] 24)).heap.size := by simp
  have hbwU : Below w.heap.size w (w2.alloc (.cells #[.int .i64 next, .slice none 0 0] 24)) := hbw2.trans (hbU.mono hbw2.size)
  have HO0 := Lib.hid (show OwnPN (w2.alloc (.cells #[.int .i64 next, .slice none 0 0] 24)) (w2.heap.size + 1) none 0 (P.take 0) w2.heap.size from ⟨[], World.ownsRow_nil _ _ _ _, rfl, by simp, fun i h => absurd h (by simp)⟩)
  clear hbU hi hm5 hi0
  go_wp2_with fail
  generalize (w2.alloc (.cells #[.int .i64 next, .slice none 0 0] 24)) = U at k1 k2 k3 k4 kf hsU hbwU HO0 ⊢
  clear x1 x2 hbw2
  go_loopw [8] (fun vi wr => ∃ (k m1 c1 : Nat) (A1 : Option Addr), k ≤ n ∧ m1 ≤ k ∧ vi = .int .i64 k ∧ Hid (m1 = k) ∧ Hid (OwnPN wr (w2.heap.size + 1) A1 c1 (P.take k) w2.heap.size) ∧ wr.cell? ⟨w.heap.size, 0, none⟩ = some (.int .i64 next) ∧ wr.cell? ⟨w.heap.size, 1, none⟩ = some (.slice A n c) ∧ wr.cell? ⟨w2.heap.size, 0, none⟩ = some (.int .i64 next) ∧ wr.cell? ⟨w2.heap.size, 1, none⟩ = some (.slice A1 m1 c1) ∧ (∀ j, wr.frozen? ⟨w2.heap.size, j, none⟩ = false) ∧ w2.heap.size + 1 ≤ wr.heap.size ∧ Below w.heap.size w wr) (fun vi _ => n - (intOf vi).toNat)
  case atStart => exact ⟨0, 0, 0, none, Nat.zero_le _, Nat.le_refl _, rfl, Lib.hid rfl, HO0, k1, k2, k3, k4, kf, hsU, hbwU⟩
  case round =>
    clear HO0 k1 k2 k3 k4 kf hsU hbwU
    obtain ⟨k, m1, c1, A1, hk, hmk, rfl, HM1, HO, x1, x2, y1, y2, fz, hsw, hb⟩ := hrel
    by_cases hlt : k < n
    · have h1 : k < P.length := by rw [← HN.out]; exact hlt
      obtain ⟨ad, Ab, cb, eA, hadw, r1, r2, r3, hrb⟩ := RdP.at_ (hr.below hb) h1
      subst eA
      obtain ⟨p1, p2, bs, hp⟩ : ∃ a b d, P[k] = (a, b, d) := ⟨_, _, _, rfl⟩
      obtain ⟨m, hm⟩ : ∃ m, m = bs.length := ⟨_, rfl⟩
      rw [hp] at r1 r2 r3 hrb
      simp only at r1 r2 r3 hrb
      rw [← hm] at r3
      have hbs : bs.length ≤ 1099511627770 := by have := HS.out.2 k h1; rw [hp] at this; exact this
      have hnx : P.take (k + 1) = P.take k ++ [(p1, p2, bs)] := by rw [← List.take_append_getElem h1, hp]
      have htl : (P.take k).length = m1 := by rw [List.length_take, HM1.out]; omega
      have hAB : ∀ W : World, Below wr.heap.size wr W → W.heap[wr.heap.size]? = some (.cells #[] 5 (0, 0)) →
          ∃ A2 c2 W', (Builtin.append_ #[25, 25] 25 #[.slice (some ⟨wr.heap.size, 0, none⟩) 0 0, .slice Ab m cb]).run Try.prog W = .ok (.slice A2 m c2) W' ∧ Hid (OwnB W' wr.heap.size A2 c2 bs) ∧ Below wr.heap.size wr W' ∧ W'.cell? ⟨w2.heap.size, 1, none⟩ = some (.slice A1 m1 c1) ∧ (∀ o, (W'.alloc o).cell? ⟨w2.heap.size, 1, none⟩ = some (.slice A1 m1 c1)) ∧ (W'.cell? ⟨w.heap.size, 1, none⟩ = some (.slice (some ad) n c) ∧ W'.cell? (ad.add (k * 3)) = some (.int .i64 p1) ∧ W'.cell? ⟨(ad.add (k * 3)).block, (ad.add (k * 3)).off + 1, none⟩ = some (.int .i64 p2) ∧ W'.cell? ⟨(ad.add (k * 3)).block, (ad.add (k * 3)).off + 2, none⟩ = some (.slice Ab m cb) ∧ Below w.heap.size w W' ∧ w2.heap.size + 1 ≤ W'.heap.size) := fun W hW hg => by
        obtain ⟨A2, c2, W', e1, e2, e3⟩ := append_copyB W hg (Nat.le_refl _) (c := cb) hm (hrb.below (hW.mono hb.size)) (by omega)
        have hbW : Below wr.heap.size wr W' := hW.trans e3
        exact ⟨A2, c2, W', e1, Lib.hid e2, hbW, keepc y2 hbW, fun o => Go.Lib.cell?_alloc_marked o (keepc y2 hbW), keepc x2 hbW, keepc r1 hbW, keepc r2 hbW, keepc r3 hbW, hb.trans (hbW.mono hb.size), by have := hbW.size; omega⟩
      have hAP : ∀ (W : World) (A2 : Option Addr) (c2 : Nat), Hid (OwnB W wr.heap.size A2 c2 bs) → Below wr.heap.size wr W →
          ∃ A' c' w', (Builtin.append_ #[22, 22] 22 #[.slice A1 m1 c1, .slice (some ⟨W.heap.size, 0, none⟩) 1 1]).run Try.prog (W.alloc (.cells #[.int .i64 p1, .int .i64 p2, .slice A2 m c2] 29)) = .ok (.slice A' (m1 + 1) c') w' ∧ Hid (OwnPN w' (w2.heap.size + 1) A' c' (P.take (k + 1)) w2.heap.size) ∧ Below (w2.heap.size + 1) W w' ∧
            w'.cell? ⟨w2.heap.size, 0, none⟩ = some (.int .i64 next) ∧ w'.cell? ⟨w2.heap.size, 1, none⟩ = some (.slice A1 m1 c1) ∧ (∀ j, w'.frozen? ⟨w2.heap.size, j, none⟩ = false) ∧ (w'.cell? ⟨w.heap.size, 1, none⟩ = some (.slice (some ad) n c) ∧ w'.cell? (ad.add (k * 3)) = some (.int .i64 p1) ∧ w'.cell? ⟨(ad.add (k * 3)).block, (ad.add (k * 3)).off + 1, none⟩ = some (.int .i64 p2) ∧ w'.cell? ⟨(ad.add (k * 3)).block, (ad.add (k * 3)).off + 2, none⟩ = some (.slice Ab m cb) ∧ Below w.heap.size w w' ∧ w2.heap.size + 1 ≤ w'.heap.size) := fun W A2 c2 ho hbW => by
        have hw := hbW.size
        obtain ⟨A', c', w', g1, g2, g3, g4⟩ := append_onePk W (w2.heap.size + 1) htl.symm (HO.out.below hbW (Nat.le_refl _)) p1 p2 hm ho.out hsw (by omega) (by omega) (fun b e => by obtain ⟨H, h1, _⟩ := HO.out; exact (own_row h1 e).2) (by omega) (by omega)
        have hlow : ∀ (p : Addr) (v : Value), p.block ≤ w.heap.size → wr.cell? p = some v → w'.cell? p = some v := fun p v hp e => (g3.cell (by omega)).trans (keepc e hbW)
        have hadd : (ad.add (k * 3)).block ≤ w.heap.size := by rw [block_of_add]; omega
        refine ⟨A', c', w', g1, Lib.hid (by rw [hnx]; exact g2), g3, ?_, ?_, fun j => ?_, hlow _ _ (Nat.le_refl _) x2, hlow _ _ hadd r1, by refine hlow _ _ ?_ r2; exact hadd, by refine hlow _ _ ?_ r3; exact hadd, (hb.trans (hbW.mono hb.size)).trans (g3.mono (by omega)), by have := g3.size; omega⟩
        · rw [World.cell?_of_block (w := W) g4]; exact keepc y1 hbW
        · rw [World.cell?_of_block (w := W) g4]; exact keepc y2 hbW
        · rw [World.frozen?_of_block (w := W) g4, hbW.frozen (by simp only; omega)]; exact fz j
      have hD : ∀ X : World, (X.cell? ⟨w.heap.size, 1, none⟩ = some (.slice (some ad) n c) ∧ X.cell? (ad.add (k * 3)) = some (.int .i64 p1) ∧ X.cell? ⟨(ad.add (k * 3)).block, (ad.add (k * 3)).off + 1, none⟩ = some (.int .i64 p2) ∧ X.cell? ⟨(ad.add (k * 3)).block, (ad.add (k * 3)).off + 2, none⟩ = some (.slice Ab m cb) ∧ Below w.heap.size w X ∧ w2.heap.size + 1 ≤ X.heap.size) → (X.drew.cell? ⟨w.heap.size, 1, none⟩ = some (.slice (some ad) n c) ∧ X.drew.cell? (ad.add (k * 3)) = some (.int .i64 p1) ∧ X.drew.cell? ⟨(ad.add (k * 3)).block, (ad.add (k * 3)).off + 1, none⟩ = some (.int .i64 p2) ∧ X.drew.cell? ⟨(ad.add (k * 3)).block, (ad.add (k * 3)).off + 2, none⟩ = some (.slice Ab m cb) ∧ Below w.heap.size w X.drew ∧ w2.heap.size + 1 ≤ X.drew.heap.size) := fun X h => ⟨h.1, h.2.1, h.2.2.1, h.2.2.2.1, below_drew h.2.2.2.2.1, h.2.2.2.2.2⟩
      have hAl : ∀ (X : World) (o : Obj), (X.cell? ⟨w.heap.size, 1, none⟩ = some (.slice (some ad) n c) ∧ X.cell? (ad.add (k * 3)) = some (.int .i64 p1) ∧ X.cell? ⟨(ad.add (k * 3)).block, (ad.add (k * 3)).off + 1, none⟩ = some (.int .i64 p2) ∧ X.cell? ⟨(ad.add (k * 3)).block, (ad.add (k * 3)).off + 2, none⟩ = some (.slice Ab m cb) ∧ Below w.heap.size w X ∧ w2.heap.size + 1 ≤ X.heap.size) → ((X.alloc o).cell? ⟨w.heap.size, 1, none⟩ = some (.slice (some ad) n c) ∧ (X.alloc o).cell? (ad.add (k * 3)) = some (.int .i64 p1) ∧ (X.alloc o).cell? ⟨(ad.add (k * 3)).block, (ad.add (k * 3)).off + 1, none⟩ = some (.int .i64 p2) ∧ (X.alloc o).cell? ⟨(ad.add (k * 3)).block, (ad.add (k * 3)).off + 2, none⟩ = some (.slice Ab m cb) ∧ Below w.heap.size w (X.alloc o) ∧ w2.heap.size + 1 ≤ (X.alloc o).heap.size) := fun X o h =>
        have hb' : Below X.heap.size X (X.alloc o) := (Below.refl _ _).alloc (Nat.le_refl _) _
        ⟨keepc h.1 hb', keepc h.2.1 hb', keepc h.2.2.1 hb', keepc h.2.2.2.1 hb', h.2.2.2.2.1.trans (hb'.mono h.2.2.2.2.1.size), by have := hb'.size; omega⟩
      have hSt : ∀ (X : World) (b l : Nat) (u : Value), w.heap.size < b → (X.cell? ⟨w.heap.size, 1, none⟩ = some (.slice (some ad) n c) ∧ X.cell? (ad.add (k * 3)) = some (.int .i64 p1) ∧ X.cell? ⟨(ad.add (k * 3)).block, (ad.add (k * 3)).off + 1, none⟩ = some (.int .i64 p2) ∧ X.cell? ⟨(ad.add (k * 3)).block, (ad.add (k * 3)).off + 2, none⟩ = some (.slice Ab m cb) ∧ Below w.heap.size w X ∧ w2.heap.size + 1 ≤ X.heap.size) → ((X.setCell ⟨b, l, none⟩ u).cell? ⟨w.heap.size, 1, none⟩ = some (.slice (some ad) n c) ∧ (X.setCell ⟨b, l, none⟩ u).cell? (ad.add (k * 3)) = some (.int .i64 p1) ∧ (X.setCell ⟨b, l, none⟩ u).cell? ⟨(ad.add (k * 3)).block, (ad.add (k * 3)).off + 1, none⟩ = some (.int .i64 p2) ∧ (X.setCell ⟨b, l, none⟩ u).cell? ⟨(ad.add (k * 3)).block, (ad.add (k * 3)).off + 2, none⟩ = some (.slice Ab m cb) ∧ Below w.heap.size w (X.setCell ⟨b, l, none⟩ u) ∧ w2.heap.size + 1 ≤ (X.setCell ⟨b, l, none⟩ u).heap.size) := fun X b l u hb' h =>
        have mv : ∀ (p : Addr) (v : Value), p.block ≤ w.heap.size → X.cell? p = some v → (X.setCell ⟨b, l, none⟩ u).cell? p = some v := fun p v hp e => by rw [World.cell?_setCell_other _ _ _ _ (fun e2 => by rw [← e2] at hp; simp only at hp; omega)]; exact e
        have hadd : (ad.add (k * 3)).block ≤ w.heap.size := by rw [block_of_add]; omega
        ⟨mv _ _ (Nat.le_refl _) h.1, mv _ _ hadd h.2.1, by refine mv _ _ ?_ h.2.2.1; exact hadd, by refine mv _ _ ?_ h.2.2.2.1; exact hadd, h.2.2.2.2.1.setCell (by simp only; omega) _, by simpa using h.2.2.2.2.2⟩
      have HD := Lib.hid hD
      have HAL := Lib.hid hAl
      have HST := Lib.hid hSt
      have HAB := Lib.hid hAB
      have HAP := Lib.hid hAP
      have x2a : ∀ o, (wr.alloc o).cell? ⟨w.heap.size, 1, none⟩ = some (.slice (some ad) n c) := fun o => Go.Lib.cell?_alloc_marked o x2
      have y2a : ∀ o, (wr.alloc o).cell? ⟨w2.heap.size, 1, none⟩ = some (.slice A1 m1 c1) := fun o => Go.Lib.cell?_alloc_marked o y2
      have r1a : ∀ o, (wr.alloc o).cell? (ad.add (k * 3)) = some (.int .i64 p1) := fun o => Go.Lib.cell?_alloc_marked o r1
      have r2a : ∀ o, (wr.alloc o).cell? ⟨(ad.add (k * 3)).block, (ad.add (k * 3)).off + 1, none⟩ = some (.int .i64 p2) := fun o => Go.Lib.cell?_alloc_marked o r2
      have r3a : ∀ o, (wr.alloc o).cell? ⟨(ad.add (k * 3)).block, (ad.add (k * 3)).off + 2, none⟩ = some (.slice Ab m cb) := fun o => Go.Lib.cell?_alloc_marked o r3
      have hk0 : (0 : Int) ≤ k := by omega
      have hk1 : (k : Int) < n := by omega
      have hbq : Below wr.heap.size wr (wr.alloc (.cells #[] 5)) := (Below.refl _ _).alloc (Nat.le_refl _) _
      have hgq : (wr.alloc (.cells #[] 5)).heap[wr.heap.size]? = some (.cells #[] 5 (0, 0)) := heap_alloc_new wr _
      have HGQ := Lib.hid hgq
      have hbqd : Below wr.heap.size wr (wr.alloc (.cells #[] 5)).drew := below_drew hbq
      have HGQD := Lib.hid (show (wr.alloc (.cells #[] 5)).drew.heap[wr.heap.size]? = some (.cells #[] 5 (0, 0)) from hgq)
      clear hAB hAP hD hAl hSt hp hm hnx htl hrb hgq
      go_wp2_with fail
      refine tail.wp_region_till 26 (fun X => (X.cell? ⟨w.heap.size, 1, none⟩ = some (.slice (some ad) n c) ∧ X.cell? (ad.add (k * 3)) = some (.int .i64 p1) ∧ X.cell? ⟨(ad.add (k * 3)).block, (ad.add (k * 3)).off + 1, none⟩ = some (.int .i64 p2) ∧ X.cell? ⟨(ad.add (k * 3)).block, (ad.add (k * 3)).off + 2, none⟩ = some (.slice Ab m cb) ∧ X.cell? ⟨w2.heap.size, 1, none⟩ = some (.slice A1 m1 c1))) (by kernel_rfl) ?_
      have hS0 : (fun X : World => (X.cell? ⟨w.heap.size, 1, none⟩ = some (.slice (some ad) n c) ∧ X.cell? (ad.add (k * 3)) = some (.int .i64 p1) ∧ X.cell? ⟨(ad.add (k * 3)).block, (ad.add (k * 3)).off + 1, none⟩ = some (.int .i64 p2) ∧ X.cell? ⟨(ad.add (k * 3)).block, (ad.add (k * 3)).off + 2, none⟩ = some (.slice Ab m cb) ∧ X.cell? ⟨w2.heap.size, 1, none⟩ = some (.slice A1 m1 c1))) wr.drew := ⟨x2, r1, r2, r3, y2⟩
      (refine tail.till_take 0 (v := ?_) rfl (by kernel_rfl) (by kernel_rfl) (by kernel_rfl) (by kernel_rfl) (by kernel_rfl) (fun _ _ _ h => h) (by rfl) (by assumption) ?_ ?_; rotate_left 1; focus (intro X hX; obtain ⟨s1, s2, s3, s4, s5⟩ := hX; go_simp; with_reducible rfl); (try simp only [Act.put, List.setIfInBounds_toArray, List.set_cons_zero, List.set_cons_succ]))
      (refine tail.till_take 1 (v := ?_) rfl (by kernel_rfl) (by kernel_rfl) (by kernel_rfl) (by kernel_rfl) (by kernel_rfl) (fun _ _ _ h => h) (by rfl) (by assumption) ?_ ?_; rotate_left 1; focus (intro X hX; obtain ⟨s1, s2, s3, s4, s5⟩ := hX; go_simp; with_reducible rfl); (try simp only [Act.put, List.setIfInBounds_toArray, List.set_cons_zero, List.set_cons_succ]))
      (refine tail.till_take 2 (v := ?_) rfl (by kernel_rfl) (by kernel_rfl) (by kernel_rfl) (by kernel_rfl) (by kernel_rfl) (fun _ _ _ h => h) (by rfl) (by assumption) ?_ ?_; rotate_left 1; focus (intro X hX; obtain ⟨s1, s2, s3, s4, s5⟩ := hX; go_simp; with_reducible rfl); (try simp only [Act.put, List.setIfInBounds_toArray, List.set_cons_zero, List.set_cons_succ]))
      (refine tail.till_take 3 (v := ?_) rfl (by kernel_rfl) (by kernel_rfl) (by kernel_rfl) (by kernel_rfl) (by kernel_rfl) (fun _ _ _ h => h) (by rfl) (by assumption) ?_ ?_; rotate_left 1; focus (intro X hX; obtain ⟨s1, s2, s3, s4, s5⟩ := hX; go_simp; with_reducible rfl); (try simp only [Act.put, List.setIfInBounds_toArray, List.set_cons_zero, List.set_cons_succ]))
      (refine tail.till_take 4 (v := ?_) rfl (by kernel_rfl) (by kernel_rfl) (by kernel_rfl) (by kernel_rfl) (by kernel_rfl) (fun _ _ _ h => h) (by rfl) (by assumption) ?_ ?_; rotate_left 1; focus (intro X hX; obtain ⟨s1, s2, s3, s4, s5⟩ := hX; go_simp; with_reducible rfl); (try simp only [Act.put, List.setIfInBounds_toArray, List.set_cons_zero, List.set_cons_succ]))
      (refine tail.till_take 5 (v := ?_) rfl (by kernel_rfl) (by kernel_rfl) (by kernel_rfl) (by kernel_rfl) (by kernel_rfl) (fun _ _ _ h => h) (by rfl) (by assumption) ?_ ?_; rotate_left 1; focus (intro X hX; obtain ⟨s1, s2, s3, s4, s5⟩ := hX; go_simp; with_reducible rfl); (try simp only [Act.put, List.setIfInBounds_toArray, List.set_cons_zero, List.set_cons_succ]))
      (refine tail.till_take 6 (v := ?_) rfl (by kernel_rfl) (by kernel_rfl) (by kernel_rfl) (by kernel_rfl) (by kernel_rfl) (fun _ _ _ h => h) (by rfl) (by assumption) ?_ ?_; rotate_left 1; focus (intro X hX; obtain ⟨s1, s2, s3, s4, s5⟩ := hX; go_simp; with_reducible rfl); (try simp only [Act.put, List.setIfInBounds_toArray, List.set_cons_zero, List.set_cons_succ]))
      (refine tail.till_take 7 (v := ?_) rfl (by kernel_rfl) (by kernel_rfl) (by kernel_rfl) (by kernel_rfl) (by kernel_rfl) (fun _ _ _ h => h) (by rfl) (by assumption) ?_ ?_; rotate_left 1; focus (intro X hX; obtain ⟨s1, s2, s3, s4, s5⟩ := hX; go_simp; with_reducible rfl); (try simp only [Act.put, List.setIfInBounds_toArray, List.set_cons_zero, List.set_cons_succ]))
      (refine tail.till_take 8 (v := ?_) rfl (by kernel_rfl) (by kernel_rfl) (by kernel_rfl) (by kernel_rfl) (by kernel_rfl) (fun _ _ _ h => h) (by rfl) (by assumption) ?_ ?_; rotate_left 1; focus (intro X hX; obtain ⟨s1, s2, s3, s4, s5⟩ := hX; go_simp; with_reducible rfl); (try simp only [Act.put, List.setIfInBounds_toArray, List.set_cons_zero, List.set_cons_succ]))
      (refine tail.till_take 9 (v := ?_) rfl (by kernel_rfl) (by kernel_rfl) (by kernel_rfl) (by kernel_rfl) (by kernel_rfl) (fun _ _ _ h => h) (by rfl) (by assumption) ?_ ?_; rotate_left 1; focus (intro X hX; obtain ⟨s1, s2, s3, s4, s5⟩ := hX; go_simp; with_reducible rfl); (try simp only [Act.put, List.setIfInBounds_toArray, List.set_cons_zero, List.set_cons_succ]))
      (refine tail.till_take 10 (v := ?_) rfl (by kernel_rfl) (by kernel_rfl) (by kernel_rfl) (by kernel_rfl) (by kernel_rfl) (fun _ _ _ h => h) (by rfl) (by assumption) ?_ ?_; rotate_left 1; focus (intro X hX; obtain ⟨s1, s2, s3, s4, s5⟩ := hX; go_simp; with_reducible rfl); (try simp only [Act.put, List.setIfInBounds_toArray, List.set_cons_zero, List.set_cons_succ]))
      (refine tail.till_take 11 (v := ?_) rfl (by kernel_rfl) (by kernel_rfl) (by kernel_rfl) (by kernel_rfl) (by kernel_rfl) (fun _ _ _ h => h) (by rfl) (by assumption) ?_ ?_; rotate_left 1; focus (intro X hX; obtain ⟨s1, s2, s3, s4, s5⟩ := hX; go_simp; with_reducible rfl); (try simp only [Act.put, List.setIfInBounds_toArray, List.set_cons_zero, List.set_cons_succ]))
      (refine tail.till_take 12 (v := ?_) rfl (by kernel_rfl) (by kernel_rfl) (by kernel_rfl) (by kernel_rfl) (by kernel_rfl) (fun _ _ _ h => h) (by rfl) (by assumption) ?_ ?_; rotate_left 1; focus (intro X hX; obtain ⟨s1, s2, s3, s4, s5⟩ := hX; go_simp; with_reducible rfl); (try simp only [Act.put, List.setIfInBounds_toArray, List.set_cons_zero, List.set_cons_succ]))
      (refine tail.till_take 13 (v := ?_) rfl (by kernel_rfl) (by kernel_rfl) (by kernel_rfl) (by kernel_rfl) (by kernel_rfl) (fun _ _ _ h => h) (by rfl) (by assumption) ?_ ?_; rotate_left 1; focus (intro X hX; obtain ⟨s1, s2, s3, s4, s5⟩ := hX; go_simp; with_reducible rfl); (try simp only [Act.put, List.setIfInBounds_toArray, List.set_cons_zero, List.set_cons_succ]))
      (refine tail.till_take 15 (v := ?_) rfl (by kernel_rfl) (by kernel_rfl) (by kernel_rfl) (by kernel_rfl) (by kernel_rfl) (fun _ _ _ h => h) (by rfl) (by assumption) ?_ ?_; rotate_left 1; focus (intro X hX; obtain ⟨s1, s2, s3, s4, s5⟩ := hX; go_simp; with_reducible rfl); (try simp only [Act.put, List.setIfInBounds_toArray, List.set_cons_zero, List.set_cons_succ]))
      (refine tail.till_take 16 (v := ?_) rfl (by kernel_rfl) (by kernel_rfl) (by kernel_rfl) (by kernel_rfl) (by kernel_rfl) (fun _ _ _ h => h) (by rfl) (by assumption) ?_ ?_; rotate_left 1; focus (intro X hX; obtain ⟨s1, s2, s3, s4, s5⟩ := hX; go_simp; with_reducible rfl); (try simp only [Act.put, List.setIfInBounds_toArray, List.set_cons_zero, List.set_cons_succ]))
      (refine tail.till_take 17 (v := ?_) rfl (by kernel_rfl) (by kernel_rfl) (by kernel_rfl) (by kernel_rfl) (by kernel_rfl) (fun _ _ _ h => h) (by rfl) (by assumption) ?_ ?_; rotate_left 1; focus (intro X hX; obtain ⟨s1, s2, s3, s4, s5⟩ := hX; go_simp; with_reducible rfl); (try simp only [Act.put, List.setIfInBounds_toArray, List.set_cons_zero, List.set_cons_succ]))
      (refine tail.till_take 18 (v := ?_) rfl (by kernel_rfl) (by kernel_rfl) (by kernel_rfl) (by kernel_rfl) (by kernel_rfl) (fun _ _ _ h => h) (by rfl) (by assumption) ?_ ?_; rotate_left 1; focus (intro X hX; obtain ⟨s1, s2, s3, s4, s5⟩ := hX; go_simp; with_reducible rfl); (try simp only [Act.put, List.setIfInBounds_toArray, List.set_cons_zero, List.set_cons_succ]))
      (refine tail.till_take 19 (v := ?_) rfl (by kernel_rfl) (by kernel_rfl) (by kernel_rfl) (by kernel_rfl) (by kernel_rfl) (fun _ _ _ h => h) (by rfl) (by assumption) ?_ ?_; rotate_left 1; focus (intro X hX; obtain ⟨s1, s2, s3, s4, s5⟩ := hX; go_simp; with_reducible rfl); (try simp only [Act.put, List.setIfInBounds_toArray, List.set_cons_zero, List.set_cons_succ]))
      (refine tail.till_take 20 (v := ?_) rfl (by kernel_rfl) (by kernel_rfl) (by kernel_rfl) (by kernel_rfl) (by kernel_rfl) (fun _ _ _ h => h) (by rfl) (by assumption) ?_ ?_; rotate_left 1; focus (intro X hX; obtain ⟨s1, s2, s3, s4, s5⟩ := hX; go_simp; with_reducible rfl); (try simp only [Act.put, List.setIfInBounds_toArray, List.set_cons_zero, List.set_cons_succ]))
      refine tail.till_one 14 (by kernel_rfl) rfl (fun K hK => ?_)
      go_simp
      have hS1 : (fun X : World => (X.cell? ⟨w.heap.size, 1, none⟩ = some (.slice (some ad) n c) ∧ X.cell? (ad.add (k * 3)) = some (.int .i64 p1) ∧ X.cell? ⟨(ad.add (k * 3)).block, (ad.add (k * 3)).off + 1, none⟩ = some (.int .i64 p2) ∧ X.cell? ⟨(ad.add (k * 3)).block, (ad.add (k * 3)).off + 2, none⟩ = some (.slice Ab m cb) ∧ X.cell? ⟨w2.heap.size, 1, none⟩ = some (.slice A1 m1 c1))) (wr.alloc (.cells #[] 5)).drew := ⟨keepc x2 hbqd, keepc r1 hbqd, keepc r2 hbqd, keepc r3 hbqd, keepc y2 hbqd⟩
      refine hK.out _ _ (fun _ => hS1) ?_
      clear hK K
      refine tail.till_one 21 (by kernel_rfl) rfl (fun K hK => ?_)
      obtain ⟨A2, c2, wx, hrun, HO2, hbx, i1, i2, j1, j2, j3, j4, j5, j6⟩ := HAB.out _ hbqd HGQD.out
      refine step_append_run rfl rfl rfl rfl hrun ?_
      clear hrun
      have hS2 : (fun X : World => (X.cell? ⟨w.heap.size, 1, none⟩ = some (.slice (some ad) n c) ∧ X.cell? (ad.add (k * 3)) = some (.int .i64 p1) ∧ X.cell? ⟨(ad.add (k * 3)).block, (ad.add (k * 3)).off + 1, none⟩ = some (.int .i64 p2) ∧ X.cell? ⟨(ad.add (k * 3)).block, (ad.add (k * 3)).off + 2, none⟩ = some (.slice Ab m cb) ∧ X.cell? ⟨w2.heap.size, 1, none⟩ = some (.slice A1 m1 c1))) wx := ⟨j1, j2, j3, j4, i1⟩
      refine hK.out _ _ (fun _ => hS2) ?_
      clear hK K
      try simp only [Act.put, List.setIfInBounds_toArray]
      (refine tail.till_take 22 (v := ?_) rfl (by kernel_rfl) (by kernel_rfl) (by kernel_rfl) (by kernel_rfl) (by kernel_rfl) (fun _ _ _ h => h) (by rfl) (by assumption) ?_ ?_; rotate_left 1; focus (intro X hX; obtain ⟨s1, s2, s3, s4, s5⟩ := hX; go_simp; with_reducible rfl); (try simp only [Act.put, List.setIfInBounds_toArray, List.set_cons_zero, List.set_cons_succ]))
      refine tail.till_one 23 (by kernel_rfl) rfl (fun K hK => ?_)
      go_simp
      have hbxa : Below wx.heap.size wx (wx.alloc (.cells #[.int .i64 p1, .int .i64 p2, .slice A2 m c2] 29)) := (Below.refl _ _).alloc (Nat.le_refl _) _
      have hS3 : (fun X : World => (X.cell? ⟨w.heap.size, 1, none⟩ = some (.slice (some ad) n c) ∧ X.cell? (ad.add (k * 3)) = some (.int .i64 p1) ∧ X.cell? ⟨(ad.add (k * 3)).block, (ad.add (k * 3)).off + 1, none⟩ = some (.int .i64 p2) ∧ X.cell? ⟨(ad.add (k * 3)).block, (ad.add (k * 3)).off + 2, none⟩ = some (.slice Ab m cb) ∧ X.cell? ⟨w2.heap.size, 1, none⟩ = some (.slice A1 m1 c1))) (wx.alloc (.cells #[.int .i64 p1, .int .i64 p2, .slice A2 m c2] 29)) := ⟨keepc j1 hbxa, keepc j2 hbxa, keepc j3 hbxa, keepc j4 hbxa, keepc i1 hbxa⟩
      refine hK.out _ _ (fun _ => hS3) ?_
      clear hK K hbxa
      refine tail.till_one 24 (by kernel_rfl) rfl (fun K hK => ?_)
      obtain ⟨A3, c3, w4, hrun, HO3, hb4, t1, t2, t3, l1, l2, l3, l4, l5, l6⟩ := HAP.out _ _ _ HO2 hbx
      refine step_append_run rfl rfl rfl rfl hrun ?_
      clear hrun
      have hS4 : (fun X : World => (X.cell? ⟨w.heap.size, 1, none⟩ = some (.slice (some ad) n c) ∧ X.cell? (ad.add (k * 3)) = some (.int .i64 p1) ∧ X.cell? ⟨(ad.add (k * 3)).block, (ad.add (k * 3)).off + 1, none⟩ = some (.int .i64 p2) ∧ X.cell? ⟨(ad.add (k * 3)).block, (ad.add (k * 3)).off + 2, none⟩ = some (.slice Ab m cb) ∧ X.cell? ⟨w2.heap.size, 1, none⟩ = some (.slice A1 m1 c1))) w4 := ⟨l1, l2, l3, l4, t2⟩
      refine hK.out _ _ (fun _ => hS4) ?_
      clear hK K
      try simp only [Act.put, List.setIfInBounds_toArray]
      (refine tail.till_take 25 (v := ?_) rfl (by kernel_rfl) (by kernel_rfl) (by kernel_rfl) (by kernel_rfl) (by kernel_rfl) (fun _ _ _ h => h) (by rfl) (by assumption) ?_ ?_; rotate_left 1; focus (intro X hX; obtain ⟨s1, s2, s3, s4, s5⟩ := hX; go_simp; with_reducible rfl); (try simp only [Act.put, List.setIfInBounds_toArray, List.set_cons_zero, List.set_cons_succ]))
      refine tail.till_one 26 (by kernel_rfl) rfl (fun K hK => ?_)
      go_simp
      refine hK.out _ _ (fun h => absurd rfl h) ?_
      clear hK K
      refine tail.till_done (by kernel_rfl) ?_ _
      have hbxs := hbx.size
      have z1 := keepc x1 hbx
      have z2 := keepc x2 hbx
      have HN1 := Lib.hid (HO3.out.store (p := ⟨w2.heap.size, 1, none⟩) rfl (.slice A3 (m1 + 1) c3))
      have n1 : (w4.setCell ⟨w2.heap.size, 1, none⟩ (.slice A3 (m1 + 1) c3)).cell? ⟨w.heap.size, 0, none⟩ = some (.int .i64 next) := by
        rw [World.cell?_setCell_other w4 _ _ _ (fun e => by injection e; omega), hb4.cell (by simp only; omega)]; exact z1
      have n2 : (w4.setCell ⟨w2.heap.size, 1, none⟩ (.slice A3 (m1 + 1) c3)).cell? ⟨w.heap.size, 1, none⟩ = some (.slice (some ad) n c) := by
        rw [World.cell?_setCell_other w4 _ _ _ (fun e => by injection e; omega), hb4.cell (by simp only; omega)]; exact z2
      have n3 : (w4.setCell ⟨w2.heap.size, 1, none⟩ (.slice A3 (m1 + 1) c3)).cell? ⟨w2.heap.size, 0, none⟩ = some (.int .i64 next) := by rw [World.cell?_setCell_other w4 _ _ _ (by simp)]; exact t1
      have n4 : (w4.setCell ⟨w2.heap.size, 1, none⟩ (.slice A3 (m1 + 1) c3)).cell? ⟨w2.heap.size, 1, none⟩ = some (.slice A3 (m1 + 1) c3) := World.cell?_setCell_same w4 _ _ t2
      have nf : ∀ j, (w4.setCell ⟨w2.heap.size, 1, none⟩ (.slice A3 (m1 + 1) c3)).frozen? ⟨w2.heap.size, j, none⟩ = false := fun j => by simpa using t3 j
      have ns : w2.heap.size + 1 ≤ (w4.setCell ⟨w2.heap.size, 1, none⟩ (.slice A3 (m1 + 1) c3)).heap.size := by have := hb4.size; simp; omega
      have nb : Below w.heap.size w (w4.setCell ⟨w2.heap.size, 1, none⟩ (.slice A3 (m1 + 1) c3)) := ((hb.trans (hbx.mono hb.size)).trans (hb4.mono (by omega))).setCell (by simp only; omega) _
      have HMK := Lib.hid (show m1 + 1 = k + 1 from by rw [HM1.out])
      clear HAB HAP HGQ HGQD HD HAL HST hbq hbqd x2a y2a r1a r2a r3a r1 r2 r3 HO2 HO3 hbx hb4 i1 i2 j1 j2 j3 j4 j5 j6 l1 l2 l3 l4 l5 l6 t1 t2 t3 z1 z2 hS0 hS1 hS2 hS3 hS4
      go_wp2_with fail
      go_roundw
      case rel =>
        refine ⟨k + 1, m1 + 1, c3, A3, hlt, by omega, by go_num, HMK, HN1, n1, n2, n3, n4, nf, ns, ?_⟩
        first | exact nb | exact below_drew nb
      case measure => simp [intOf] <;> omega
    · obtain rfl : m1 = n := by rw [HM1.out]; omega
      have hPt : P.take k = P := List.take_of_length_le (by rw [← HN.out]; omega)
      rw [hPt] at HO
      obtain ⟨A9, c9, w5, hrun, ho9, hb9⟩ := append_copyB (wr.alloc (.cells #[] 5)) (heap_alloc_new wr _) (Nat.le_refl wr.heap.size) (c := cx) HMX.out (hrx.below (hb.alloc hb.size _)) (by have := HXL.out; omega)
      have hbr5 : Below wr.heap.size wr w5 := ((Below.refl _ _).alloc (Nat.le_refl _) _).trans hb9
      have hbw5 : Below w.heap.size w w5 := hb.trans (hbr5.mono hb.size)
      have hs5 : w2.heap.size + 1 ≤ w5.heap.size := by have := hbr5.size; omega
      have x1w := keepc x1 hbr5
      have x2w := keepc x2 hbr5
      have y1w := keepc y1 hbr5
      have y2w := keepc y2 hbr5
      have HRN := Lib.hid (hr.below hbw5)
      have HRB := Lib.hid (hrx.below hbw5)
      have HRW := Lib.hid ((HO.out.own.rd.below hbr5).more hbr5.size)
      have HRC := Lib.hid (OwnB.rd ho9)
      have HX1 := Lib.hid x1w
      have HX2 := Lib.hid x2w
      have HY1 := Lib.hid y1w
      have HY2 := Lib.hid y2w
      have HNX := Lib.hid (show (0 ≤ next ∧ next ≤ 4611686018427387905) ∧ (0 ≤ next + 1 ∧ next + 1 ≤ 4611686018427387905) from ⟨⟨HR.out.1, by have := HR.out.2.1; omega⟩, by have := HR.out.1; omega, by have := HR.out.2.1; omega⟩)
      have hP60 := HR.out.2.2.1
      have sX : ShortP (P ++ [(next, 3, bx)]) := snocS HS.out (by omega) _ HXL.out
      obtain ⟨X, hX⟩ : ∃ X, X = P ++ [(next, 3, bx)] := ⟨_, rfl⟩
      have hXl : X.length = m1 + 1 := by rw [hX, HN.out]; simp
      rw [← hX] at sX
      obtain ⟨Q, hQ⟩ : ∃ Q, Q = copyM (next + 1) X j := ⟨_, rfl⟩
      obtain ⟨sQ, sQl⟩ := copyS sX (by rw [hXl]; omega) (next + 1) j
      rw [← hQ] at sQ sQl
      obtain ⟨n7, hn7⟩ : ∃ n, n = Q.length := ⟨_, rfl⟩
      have hn7b : n7 ≤ 62 := by omega
      obtain ⟨yn, hyn⟩ : ∃ n, n = copyN (next + 1) X := ⟨_, rfl⟩
      have HX := Lib.hid hX
      have HXL2 := Lib.hid hXl
      have HQ := Lib.hid hQ
      have HN7 := Lib.hid hn7
      have HYN := Lib.hid hyn
      have SX := Lib.hid sX
      have SQ := Lib.hid sQ
      clear hb9 ho9 hbr5 HO hPt hX hXl hQ hn7 hyn sX sQ sQl fz hb y1 y2 y1w y2w hmk hP60
      go_wp2_with (at_builtin; refine wpList_append_run rfl rfl rfl rfl hrun ?_; clear hrun)
      refine (send_any w5 next 3 HN.out (HRN.out.more hbw5.size) (Nat.le_refl _) HS.out HMX.out HRC.out HXL.out HNX.out.1).mono ?_
      rintro e w6 ⟨A6, c6, rfl, ho6, hb6⟩
      rw [← HX.out] at ho6
      have hbw6 := hb6.size
      have HO6 := Lib.hid ho6
      clear ho6
      go_wp2_with fail
      refine (copy_any w6 (A := A6) (n := m1 + 1) (c := c6) (P := X) (next + 1) j HXL2.out.symm HO6.out.rd (Nat.le_refl _) SX.out HNX.out.2).mono ?_
      rintro e w7 ⟨A7, c7, q7, rfl, hq7, ho7, hb7⟩
      obtain rfl : q7 = n7 := by rw [hq7, HN7.out, HQ.out]
      rw [← HYN.out]
      rw [← HQ.out] at ho7
      have hbq7 : Below w7.heap.size w7 (w7.alloc (.cells #[.int .i64 yn, .slice A7 q7 c7] 24)) := (Below.refl _ _).alloc (Nat.le_refl _) _
      have hs7 := hb7.size
      have HS2 := Lib.hid (Scrib.of_own ((ho7.away (x := w7.heap.size) (Nat.le_refl _)).below hbq7 (Nat.le_refl _)))
      have v2 : (w7.alloc (.cells #[.int .i64 yn, .slice A7 q7 c7] 24)).cell? ⟨w7.heap.size, 1, none⟩ = some (.slice A7 q7 c7) := by simp
      have hb57 : Below w5.heap.size w5 (w7.alloc (.cells #[.int .i64 yn, .slice A7 q7 c7] 24)) := hb6.trans (((hb7.trans (hbq7.mono hs7)).mono hbw6))
      clear hq7 ho7 HO6 hb6 hb7 hbq7
      go_wp2_with fail
      generalize w7.alloc (.cells #[.int .i64 yn, .slice A7 q7 c7] 24) = W7 at HS2 v2 hb57 ⊢
      go_loopw [11] (fun vi wr2 => ∃ k : Nat, k ≤ q7 ∧ vi = .int .i64 k ∧ Hid (Scrib wr2 w6.heap.size w7.heap.size A7 Q) ∧ wr2.cell? ⟨w7.heap.size, 1, none⟩ = some (.slice A7 q7 c7) ∧ Below w6.heap.size W7 wr2) (fun vi _ => q7 - (intOf vi).toNat)
      case atStart => exact ⟨0, Nat.zero_le _, rfl, HS2, v2, Below.refl _ _⟩
      case round =>
        clear HS2 v2
        obtain ⟨k2, hk2, rfl, HSK, v2, hb2⟩ := hrel
        by_cases hlt2 : k2 < q7
        · have h2 : k2 < Q.length := by rw [← HN7.out]; exact hlt2
          obtain ⟨ml, hml⟩ : ∃ m, m = Q[k2].2.2.length := ⟨_, rfl⟩
          have hmlb : ml ≤ 1099511627770 := by rw [hml]; exact SQ.out.2 k2 h2
          have HML := Lib.hid hml
          clear hml
          have hk20 : (0 : Int) ≤ k2 := by omega
          have hk21 : (k2 : Int) < q7 := by omega
          go_wp2_with fail
          go_loopw [12] (fun vj wr3 => ∃ j2 : Nat, j2 ≤ ml ∧ vj = .int .i64 j2 ∧ Hid (Scrib wr3 w6.heap.size w7.heap.size A7 Q) ∧ wr3.cell? ⟨w7.heap.size, 1, none⟩ = some (.slice A7 q7 c7) ∧ Below w6.heap.size W7 wr3) (fun vj _ => ml - (intOf vj).toNat)
          case atStart => exact ⟨0, Nat.zero_le _, rfl, HSK, v2, hb2⟩
          case round =>
            clear HSK v2 hb2
            obtain ⟨j2, hj2, rfl, HSJ, v2, hb2⟩ := hrel
            obtain ⟨g, Ai, ci, eA, hc, hel⟩ := HSJ.out k2 h2
            subst eA
            rw [← HML.out] at hc hel
            by_cases hjl : j2 < ml
            · obtain ⟨adi, eAi, e2, e3, e4, e5⟩ := hel (by omega)
              subst eAi
              obtain ⟨⟨z, hz⟩, hfz⟩ := e5 j2 hjl
              have hst : ∀ z', Hid (Scrib (wr.setCell (adi.add j2) (.int .u8 z')) w6.heap.size w7.heap.size (some ⟨g, 0, none⟩) Q) := fun z' => Lib.hid (HSJ.out.store (fun g' e => by injection e with e; injection e with e; subst e; rw [block_of_add]; exact e4) z')
              have hvt : ∀ z', (wr.setCell (adi.add j2) (.int .u8 z')).cell? ⟨w7.heap.size, 1, none⟩ = some (.slice (some ⟨g, 0, none⟩) q7 c7) := fun z' => by
                rw [World.cell?_setCell_other _ _ _ _ (fun e => e3 (by rw [← block_of_add adi j2, e]))]
                exact v2
              have hbt : ∀ z', Below w6.heap.size W7 (wr.setCell (adi.add j2) (.int .u8 z')) := fun z' => hb2.setCell (by rw [block_of_add]; exact e2) _
              have HST2 := Lib.hid hst
              have HVT := Lib.hid hvt
              have HBT := Lib.hid hbt
              have hj20 : (0 : Int) ≤ j2 := by omega
              have hj21 : (j2 : Int) < ml := by omega
              clear hst hvt hbt hel e5 e2 e3 e4
              go_wp2_with fail
              go_roundw
              case rel => exact ⟨j2 + 1, by omega, by go_num, HST2.out _, HVT.out _, HBT.out _⟩
              case measure => simp [intOf] <;> omega
            · clear hel
              go_wp2_with fail
              go_roundw
              case rel => exact ⟨k2 + 1, hlt2, by go_num, HSJ, v2, hb2⟩
              case measure => simp [intOf] <;> omega
        · have hb5r : Below w5.heap.size w5 wr := hb57.trans (hb2.mono hbw6)
          have x1r := keepc x1w hb5r
          have x2r := keepc x2w hb5r
          have hbwr : Below w.heap.size w wr := hbw5.trans (hb5r.mono hbw5.size)
          obtain ⟨ok, hok⟩ : ∃ ok, ok = decide (0 < P.length) := ⟨_, rfl⟩
          obtain ⟨q1, q2, b8, hp8⟩ : ∃ a b d, tkP P j = (a, b, d) := ⟨_, _, _, rfl⟩
          have hT := take_any wr (c := c) next j HN.out (hr.below hbwr) hbwr.size HS.out ok hok
          rw [hp8] at hT
          have h8l : b8.length ≤ 1099511627770 := by
            have hh : (tkP P j).2.2.length ≤ 1099511627770 := by
              unfold tkP
              rw [List.getD_eq_getElem?_getD]
              by_cases hk : j % P.length < P.length
              · rw [List.getElem?_eq_getElem hk]
                exact HS.out.2 _ hk
              · rw [List.getElem?_eq_none (by omega)]
                simp
            rw [hp8] at hh
            exact hh
          have HT := Lib.hid hT
          have H8L := Lib.hid h8l
          clear hT hok hp8 h8l HSK hb2 hb57
          go_wp2_with fail
          refine HT.out.mono ?_
          rintro e w8 ⟨A8, n8, c8, Ab, m8, cb8, rfl, hm8, -, hE, -, hb8⟩
          replace hm8 : m8 = b8.length := hm8
          have hs8 := hb8.size
          have hbW9 : Below w8.heap.size w8 ((w8.alloc (.cells #[.int .i64 q1, .int .i64 q2, .slice Ab m8 cb8] 29)).alloc (.cells #[.int .i64 next, .slice A8 n8 c8] 24)) := ((Below.refl _ _).alloc (Nat.le_refl _) _).alloc (by rw [World.size_alloc]; omega) _
          have HSC := Lib.hid ((Scr1.of_elem hE hm8 (Nat.le_refl _)).below hbW9)
          have hm8l : m8 ≤ 1099511627770 := by rw [hm8]; exact H8L.out
          have v3 : ((w8.alloc (.cells #[.int .i64 q1, .int .i64 q2, .slice Ab m8 cb8] 29)).alloc (.cells #[.int .i64 next, .slice A8 n8 c8] 24)).cell? ⟨w8.heap.size, 2, none⟩ = some (.slice Ab m8 cb8) := by simp
          have hb5W : Below w5.heap.size w5 ((w8.alloc (.cells #[.int .i64 q1, .int .i64 q2, .slice Ab m8 cb8] 29)).alloc (.cells #[.int .i64 next, .slice A8 n8 c8] 24)) := hb5r.trans ((hb8.trans (hbW9.mono hs8)).mono hb5r.size)
          have hb5s := hb5r.size
          have HM8 := Lib.hid hm8
          clear hE hm8 hbW9 hb8 hbwr x1r x2r HT
          go_wp2_with fail
          generalize ((w8.alloc (.cells #[.int .i64 q1, .int .i64 q2, .slice Ab m8 cb8] 29)).alloc (.cells #[.int .i64 next, .slice A8 n8 c8] 24)) = W9 at HSC v3 hb5W ⊢
          go_loopw [16] (fun vi wr4 => ∃ k4 : Nat, k4 ≤ m8 ∧ vi = .int .i64 k4 ∧ Hid (Scr1 wr4 w5.heap.size w8.heap.size Ab m8) ∧ wr4.cell? ⟨w8.heap.size, 2, none⟩ = some (.slice Ab m8 cb8) ∧ Below w5.heap.size w5 wr4) (fun vi _ => m8 - (intOf vi).toNat)
          case atStart => exact ⟨0, Nat.zero_le _, rfl, Lib.hid fun h0 => by obtain ⟨ad, e1, e2, e3⟩ := HSC.out h0; exact ⟨ad, e1, by omega, e3⟩, v3, hb5W⟩
          case round =>
            clear HSC v3 hb5W
            obtain ⟨k4, hk4, rfl, HSC, v3, hb5W⟩ := hrel
            by_cases hl4 : k4 < m8
            · obtain ⟨adi, eAi, e2, e3, e5⟩ := HSC.out (by omega)
              subst eAi
              obtain ⟨⟨z, hz⟩, hfz⟩ := e5 k4 hl4
              have hst : ∀ z', Hid (Scr1 (wr.setCell (adi.add k4) (.int .u8 z')) w5.heap.size w8.heap.size (some adi) m8) := fun z' => Lib.hid (HSC.out.store _ z')
              have hvt : ∀ z', (wr.setCell (adi.add k4) (.int .u8 z')).cell? ⟨w8.heap.size, 2, none⟩ = some (.slice (some adi) m8 cb8) := fun z' => by
                rw [World.cell?_setCell_other _ _ _ _ (fun e => e3 (by rw [← block_of_add adi k4, e]))]
                exact v3
              have hbt : ∀ z', Below w5.heap.size w5 (wr.setCell (adi.add k4) (.int .u8 z')) := fun z' => hb5W.setCell (by rw [block_of_add]; exact e2) _
              have HST2 := Lib.hid hst
              have HVT := Lib.hid hvt
              have HBT := Lib.hid hbt
              have hk40 : (0 : Int) ≤ k4 := by omega
              have hk41 : (k4 : Int) < m8 := by omega
              clear hst hvt hbt e5 e2 e3
              go_wp2_with fail
              go_roundw
              case rel => exact ⟨k4 + 1, by omega, by go_num, HST2.out _, HVT.out _, HBT.out _⟩
              case measure => simp [intOf] <;> omega
            · have z1 := keepc HX1.out hb5W
              have z2 := keepc HX2.out hb5W
              have z3 := keepc HY1.out hb5W
              have z4 := keepc HY2.out hb5W
              have hbwz : Below w.heap.size w wr := hbw5.trans (hb5W.mono hbw5.size)
              have hns := sameNet_any wr (c1 := c) (c2 := c1) next next HN.out HN.out (hr.below hbwz) (HRW.out.below hb5W) hbwz.size hb5W.size HS.out HS.out
              rw [decide_eq_true (show next = next ∧ P = P from ⟨rfl, rfl⟩)] at hns
              have HNS := Lib.hid hns
              clear hns
              clear HSC
              go_wp2_with fail
              refine HNS.out.mono ?_
              rintro e wA ⟨rfl, hbA⟩
              have hbs2 := (same_any wA (c1 := cx) (c2 := c9) HMX.out HMX.out (hrx.below (hbwz.trans (hbA.mono hbwz.size))) (HRC.out.below (hb5W.trans (hbA.mono hb5W.size))) (by have := HXL.out; omega) (by have := HXL.out; omega))
              rw [decide_eq_true (show bx = bx from rfl)] at hbs2
              have HBS := Lib.hid hbs2
              have hbF : Below w.heap.size w wA := hbwz.trans (hbA.mono hbwz.size)
              clear HNS hbA z1 z2 z3 z4 hbs2
              go_wp2_with fail
              refine HBS.out.mono ?_
              rintro e wB ⟨rfl, nq, rfl⟩
              go_wp2_with fail
              go_ret
              exact ⟨rfl, below_drewN hbF nq⟩
end Go.Proofs.Ytnmamfgebbcehaa.pk
