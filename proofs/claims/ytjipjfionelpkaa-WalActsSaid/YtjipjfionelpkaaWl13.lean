/- The law WalActs. -/
import Derived.Test.YtjipjfionelpkaaWl12
namespace Go.Proofs.Ytjipjfionelpkaa.wl
open Go.RowKit Go.Proofs.Ytjipjfionelpkaa.lib Go.Proofs.Ytjipjfionelpkaa.byt Go.Proofs.Ytjipjfionelpkaa.dk Go.Proofs.Ytjipjfionelpkaa.framePlain Go.Proofs.Ytjipjfionelpkaa.frameWalk
set_option linter.unusedVariables false

/-- What is told of the acts that come in. -/
def FactA8 (w : World) (A : Option Addr) (n : Nat) : Prop := ∃ Q : List Ac8, n = Q.length ∧ RdA w (fun b => b < w.heap.size) A Q ∧ ∀ i (h : i < Q.length), 0 ≤ Q[i].1 ∧ Q[i].1 ≤ 255
def StE (w wr : World) (d hb lb k : Nat) (em : Bool) : Prop := ∃ F G s f fr p L sf A1 n1 c1 A2 n2 c2, StA w wr d hb lb k em F G s f fr p L sf A1 n1 c1 A2 n2 c2
section
variable {w wr : World} {d hb lb k : Nat} {em : Bool} {F G : Nat → Prop} {s : DS} {f : Int} {fr p : List UInt8} {L : List (List UInt8)} {sf : Int} {A1 : Option Addr} {n1 c1 : Nat} {A2 : Option Addr} {n2 c2 : Nat}
theorem StA.opens (h : StA w wr d hb lb k em F G s f fr p L sf A1 n1 c1 A2 n2 c2) (hk : k ≤ 25) :
    ∃ s2 f2, WS s2 f2 fr (20000 * (k + 1)) ∧ Calls Try.prog 30 #[.pointer (some ⟨d, 0, none⟩)] wr (ROpen wr F G d s2 (fr.length : Nat) p L) := by
  have hfr := h.frl
  cases em
  · exact ⟨_, _, (rep_ok h.ws fr (o := 1 - f) rfl).2.2.2.2.2.2.mono (by omega), open_row wr h.disk h.ws (by omega) (h.row rfl) (fun r hr => by have := h.len r hr; omega)⟩
  · obtain ⟨e1, e2, e3⟩ := h.emp rfl
    subst e1 e2 e3
    exact ⟨s, f, h.ws.mono (by omega), open_empty wr h.disk h.ws (by omega)⟩
theorem StA.shorts (h : StA w wr d hb lb k em F G s f fr p L sf A1 n1 c1 A2 n2 c2) (hk : k ≤ 25) : p.length ≤ 1000000000 ∧ Short L :=
  ⟨by have := h.len p (by simp); omega, by have := h.cnt; omega, fun r hr => by have := h.len r (by simp [hr]); omega⟩
end
set_option maxRecDepth 10000 in
set_option maxHeartbeats 1000000 in
theorem law_WalActs (w : World) {A : Option Addr} {n c : Nat} (hx : FactA8 w A n) :
    Calls Try.prog 8 #[.slice A n c] w fun e w' => e = .returned (.bool true) ∧ Below w.heap.size w w' := by
  obtain ⟨Q, hn, hr, hok⟩ := hx
  have HN := Lib.hid hn
  have HOK := Lib.hid hok
  clear hn hok
  go_enter Try.func8, Try.ntmps8
  go_wp2_with fail
  refine (awake08 _).mono ?_
  rintro e w1 ⟨rfl, hb1⟩
  have hr1 := hr.below hb1 (Nat.le_refl _)
  go_wp2_with fail
  refine (few8_any w1 HN.out hr1).mono ?_
  rintro e w2 ⟨t, rfl, ht, hb2⟩
  replace hb2 := hb1.trans (hb2.mono hb1.size)
  cases t
  · clear ht hr1
    (go_wp2_with fail; refine (awake08 _).mono ?_; rintro e wz ⟨rfl, hbz⟩; go_wp2_with fail; go_ret; exact ⟨rfl, hb2.trans (hbz.mono hb2.size)⟩)
  have HF := Lib.hid (ht rfl)
  have HR := Lib.hid hr
  have hn25 : n ≤ 25 := by have := HN.out; have := HF.out.1; omega
  clear ht hr hr1 hb1
  go_wp2_with fail
  refine (new_any w2).mono ?_
  rintro e w3 ⟨rfl, hD, hb3⟩
  have hszw := hb2.size
  replace hb3 := hb2.trans (hb3.mono hb2.size)
  go_wp2_with fail
  refine (open_empty w3 hD WS.new (by omega)).mono ?_
  intro e w4 hh
  obtain ⟨F2, G2, TP, TR, lb, A0, n0, c0, A1, n1, c1, rfl, hO⟩ := hh
  obtain ⟨hD4, hLg, hlbG, hlbn, hsF, hsG, rfl, rfl, -, -, -, -, hfr⟩ := hO
  have hb4 : Below w.heap.size w w4 := hb3.trans (hfr.to_below (fun b h => Nat.lt_of_lt_of_le h hszw) hb3.size)
  have hbV : Below w4.heap.size w4 (w4.alloc (.cells #[.slice none 0 0, .slice none 0 0, .int .i64 0] 58)) := (Below.refl _ _).alloc (Nat.le_refl _) _
  have HS0 := Lib.hid (show StE w (w4.alloc (.cells #[.slice none 0 0, .slice none 0 0, .int .i64 0] 58)) w2.heap.size w4.heap.size lb 0 true from ⟨plus w4 (w4.alloc (.cells #[.slice none 0 0, .slice none 0 0, .int .i64 0] 58)) F2, plus w4 (w4.alloc (.cells #[.slice none 0 0, .slice none 0 0, .int .i64 0] 58)) G2, newS, 0, [], [], [], 0, none, 0, 0, none, 0, 0, {
    disk := hD4.plus hbV (Nat.le_refl _)
    ws := WS.new
    log := hLg.below hbV (Nat.le_refl _)
    lbG := plus_of hbV.size (fun b hb => hD4.lt.2.2.2 b (hD4.lt.2.2.1 b hb)) hlbG
    hbG := ⟨by simp, .inr (Nat.le_refl _)⟩
    ne := fun e => by have := hLg.lt; omega
    box := heap_alloc_new w4 _
    e1 := rfl
    e2 := rfl
    r1 := ReadsF.nil
    r2 := RdL.nil
    low := fun b hb => ⟨plus_of hbV.size hD4.lt.2.2.2 (hsF b (Nat.lt_of_lt_of_le hb hszw)), by have := hb3.size; omega, by have := hb4.size; omega⟩
    bel := hb4.trans (hbV.mono hb4.size)
    emp := fun _ => ⟨rfl, rfl, rfl⟩
    row := fun h => (by cases h)
    cnt := Nat.le_refl _
    len := fun r hr => by simp at hr; rw [hr]; simp
    frl := Nat.le_refl _ }⟩)
  clear hb2 hb3 hszw hD hfr hD4 hLg hlbG hlbn hsF hsG hb4 hbV
  go_wp2_with fail
  generalize w4.alloc (.cells #[.slice none 0 0, .slice none 0 0, .int .i64 0] 58) = V at HS0 ⊢
  generalize w4.heap.size = hb at HS0 ⊢
  generalize w2.heap.size = d at HS0 ⊢
  go_loopw [4, 9, 10] (fun vl ve vi wr => ∃ (k lb : Nat) (em : Bool), k ≤ n ∧ vi = .int .i64 k ∧ ve = .bool em ∧ vl = .pointer (some ⟨lb, 0, none⟩) ∧ Hid (StE w wr d hb lb k em)) (fun _ _ vi _ => n - (intOf vi).toNat)
  case atStart => exact ⟨0, lb, true, Nat.zero_le _, rfl, rfl, rfl, HS0⟩
  case round =>
    obtain ⟨k, lb, em, hk, rfl, rfl, rfl, HSK⟩ := hrel
    by_cases hlt : k < n
    · have hkl : k < Q.length := by rw [← HN.out]; exact hlt
      obtain ⟨F, G, s, f, fr, p, L, sf, A1, n1, c1, A2, n2, c2, hS⟩ := HSK.out
      obtain ⟨ad, -, -, rfl, -⟩ := HR.out.at_ hkl
      obtain ⟨A', c', hC⟩ := HR.out.cells hkl
      have hok := HOK.out k hkl
      have hfew := HF.out.2 k hkl
      obtain ⟨a, ha⟩ : ∃ a, a = Q[k] := ⟨_, rfl⟩
      rw [← ha] at hC hok hfew
      clear ha
      obtain ⟨kd, b, x, y⟩ := a
      simp only at hC hok hfew
      obtain ⟨kd0, kd9⟩ := hok
      obtain ⟨m, hm⟩ : ∃ m, m = b.length := ⟨_, rfl⟩
      rw [← hm] at hC
      obtain ⟨c0, c1', c2', c3, -⟩ := hC wr hS.bel
      have HC := Lib.hid hC
      have HM := Lib.hid hm
      have HFW := Lib.hid hfew
      have HS := Lib.hid hS
      have hk0 : (0 : Int) ≤ k := by omega
      have hk1 : (k : Int) < n := by omega
      have hkd : 0 ≤ kd % 6 := by omega
      clear hC hm hfew HSK hkl
      by_cases hK : 4 ≤ kd % 6
      · clear c1' c2' c3
        obtain ⟨s2, f2, hws, ho⟩ := hS.opens (by omega)
        obtain ⟨g0, g1, g2, gf⟩ := hS.cells
        have HO := Lib.hid ho
        clear hS ho
        go_wp2_with fail
        refine HO.out.mono ?_
        intro e w6 hh
        obtain ⟨F3, G3, TP3, TR3, lb2, A8, n8, c8, A9, n9, c9, rfl, hO⟩ := hh
        have hS6 := HS.out.open_ hO hws
        obtain ⟨-, -, -, -, -, -, hn8, hn9, ⟨A9', c9', e9, hpT, -⟩, hrT, -, -, -⟩ := hO
        injection e9 with e9 e7 e8
        subst e9 e8
        clear e7
        obtain ⟨hs1, hs2⟩ := hS6.shorts (by omega)
        have HQ := Lib.hid (show Calls Try.prog 31 #[.slice A8 n8 c8, .slice A9 n9 c9, .agg #[.slice A1 n1 c1, .slice A2 n2 c2, .int .i64 sf]] w6 fun e w' => e = .returned (.bool true) ∧ Below w6.heap.size w6 w' from
          (same8_any w6 (sf := sf) (c1 := c8) (c2 := c9) (c3 := c1) (c4 := c2) (Nat.le_refl _) hn8 hn9 hS6.e1 hS6.e2 hpT.rd hrT.rd hS6.r1.rd hS6.r2.rd hs1 hs2 hs1 hs2).mono fun e w' h => ⟨by rw [h.1, decide_eq_true ⟨rfl, rfl⟩], h.2⟩)
        obtain ⟨g0, g1, g2, gf⟩ := hS6.cells
        have HS6 := Lib.hid hS6
        clear hS6 hn8 hn9 hpT hrT hs1 hs2 HO HS hws
        go_wp2_with fail
        refine HQ.out.mono ?_
        rintro e w7 ⟨rfl, hb7⟩
        have HS7 := Lib.hid (HS6.out.below hb7)
        clear hb7 HS6 HQ g0 g1 g2 gf
        obtain ⟨g0, g1, g2, gf⟩ := HS7.out.cells
        have HSA := Lib.hid (HS7.out.safe n2)
        go_wp2_with fail
        clear g0 g1 g2 gf
        generalize w7.setCell _ _ = X at HSA ⊢
        refine (first_any X HSA.out.disk _ _ HSA.out.ws.firstOf).mono ?_
        rintro e w8 ⟨rfl, rfl⟩
        obtain ⟨nf, hnf⟩ : ∃ x, x = fr.length := ⟨_, rfl⟩
        have HNF := Lib.hid hnf
        clear hnf
        go_wp2_with fail
        refine (read_any X HSA.out.disk (HSA.out.ws.len.short (by omega) 0 (by omega)) _ _ _ HSA.out.ws.read nf HNF.out).mono ?_
        rintro e w8 ⟨A7, c7, rfl, ho7, hb8⟩
        have HSB := Lib.hid (HSA.out.below hb8)
        have hlog : LogAt w8 lb2 d (nf : Nat) := by rw [HNF.out]; exact HSB.out.log
        clear hb8
        cases em
        · have HO7 := Lib.hid ho7
          have HRW := Lib.hid (row8_any w8 (Nat.le_refl _) (c1 := c1) (c2 := c2) (sf := ((n2 : Nat) : Int)) (p := p) (L := L) HSB.out.e1 HSB.out.e2 HSB.out.r1.rd HSB.out.r2.rd (by rw [← HSB.out.row rfl]; have := HSB.out.frl; omega))
          obtain ⟨g0, g1, g2, -⟩ := HSB.out.cells
          clear ho7 hlog
          go_wp2_with fail
          refine HRW.out.mono ?_
          rintro e w9 ⟨A6, c6, n6, rfl, hn6, ho6, hb9⟩
          rw [← HSB.out.row rfl] at hn6 ho6
          have HSC := Lib.hid (HSB.out.below hb9)
          have hfl9 : fr.length ≤ 1000000 := by have := HSB.out.frl; omega
          have HSM := Lib.hid (show Calls Try.prog 16 #[.slice A7 nf c7, .slice A6 n6 c6] w9 fun e w' => e = .returned (.bool true) ∧ ∃ nq, w' = w9.drewN nq from
            (byt.same_any w9 (xs := fr) (bs := fr) (n1 := nf) HNF.out hn6 ((HO7.out.rd.below hb9).more hb9.size) ho6.rd (by omega) (by omega)).mono fun e w' h => ⟨by rw [h.1, decide_eq_true rfl], h.2⟩)
          clear hn6 ho6 hb9 HRW g0 g1 g2 hfl9
          go_wp2_with fail
          refine HSM.out.mono ?_
          rintro e w10 ⟨rfl, nq, rfl⟩
          have HSD := Lib.hid (HSC.out.below (below_drewN (Below.refl _ _) nq))
          have hlog : LogAt (w9.drewN nq) lb2 d (nf : Nat) := by rw [HNF.out]; exact HSD.out.log
          generalize w9.drewN nq = X2 at HSD hlog ⊢
          clear HSM HSC HSB HO7
          go_wp2_with fail
          refine (size_any X2 hlog).mono ?_
          rintro e w11 ⟨rfl, rfl⟩
          clear hlog
          go_wp2_with fail
          go_roundw
          case rel => exact ⟨k + 1, lb2, false, by omega, by go_num, (by first | rfl | rw [h2b]), rfl, Lib.hid ⟨_, _, _, _, _, _, _, _, _, _, _, _, _, _, HSD.out⟩⟩
          case measure => simp [intOf] <;> omega
        · have hnf0 : nf = 0 := by rw [HNF.out, (HSB.out.emp rfl).1]; rfl
          subst hnf0
          clear ho7
          go_wp2_with fail
          refine (size_any w8 hlog).mono ?_
          rintro e w11 ⟨rfl, rfl⟩
          clear hlog
          go_wp2_with fail
          go_roundw
          case rel => exact ⟨k + 1, lb2, true, by omega, by go_num, rfl, rfl, Lib.hid ⟨_, _, _, _, _, _, _, _, _, _, _, _, _, _, HSB.out⟩⟩
          case measure => simp [intOf] <;> omega
      · have h4 : kd % 6 < 4 := by omega
        obtain ⟨-, -, -, -, hrb⟩ := HC.out wr HS.out.bel
        have hP := play8_any wr (a := (kd, b, x, y)) (m := m) (c := c') (Ar := A') ⟨kd0, kd9⟩ h4 HS.out.disk HS.out.ws (by omega) HS.out.log HS.out.lbG (by have := HS.out.frl; omega) HM.out hrb HFW.out
        simp only at hP
        have HPL := Lib.hid hP
        clear hS hrb hP
        go_wp2_with fail
        refine HPL.out.mono ?_
        intro e w5 hh
        obtain ⟨rfl, s2, f2, hW2, hD2, hL2, hbf⟩ := hh
        have hlt5 : ∀ b, F b → b < w5.heap.size := hD2.lt.2.2.2
        have hbw5 : Below w.heap.size w w5 := HS.out.bel.trans (hbf.to_below (fun b h => ⟨(HS.out.low b h).1, (HS.out.low b h).2.1⟩) HS.out.bel.size)
        have hbox5 := (hbf.block hb HS.out.hb_lt ⟨HS.out.disk.lt.2.2.1 hb HS.out.hbG, HS.out.ne⟩).trans HS.out.box
        have g0 := cell_of_row _ hb 0 _ _ (0, 0) hbox5
        have g1 := cell_of_row _ hb 1 _ _ (0, 0) hbox5
        have g2 := cell_of_row _ hb 2 _ _ (0, 0) hbox5
        have gf : ∀ j, w5.frozen? ⟨hb, j, none⟩ = false := fun j => frozen_of_row _ _ j _ _ hbox5
        simp only [List.getElem?_toArray, List.getElem?_cons_succ, List.getElem?_cons_zero] at g0 g1 g2
        obtain ⟨c0, c1', c2', c3, hrb⟩ := HC.out w5 hbw5
        have hX : Below w5.heap.size w5 w5.drew := below_drew (Below.refl _ _)
        have hdo := do8_any w5.drew (T := Zf F lb hb) (a := (kd, b, x, y)) (m := m) (cb := c') (Ab := A') (c1 := c1) (c2 := c2) (sf := sf) HS.out.e1 HS.out.e2 ((HS.out.r1.bel (hbf.mono fun b h => ⟨h.1, h.2.1⟩)).below hX (Nat.le_refl _)) ((HS.out.r2.bel (hbf.mono fun b h => ⟨h.1, h.2.1⟩)).below hX (Nat.le_refl _)) (fun b h => hlt5 b h.1) (by have := HS.out.cnt; omega) ⟨kd0, kd9⟩ h4 HM.out ((hrb.below hX (Nat.le_refl _)).mono HS.out.low)
        simp only at hdo
        have HDO := Lib.hid hdo
        have H5 := Lib.hid (show WS s2 f2 (playB fr (kd, b, x, y)) (20000 * k + 1000) ∧ DiskM w5 F G d s2 ∧ LogAt w5 lb d ((playB fr (kd, b, x, y)).length : Nat) ∧ BelF (less F lb) wr w5 from ⟨hW2, hD2, hL2, hbf⟩)
        have hS0 : (fun X : World => (X.cell? ⟨hb, 0, none⟩ = some (.slice A1 n1 c1) ∧ X.cell? ⟨hb, 1, none⟩ = some (.slice A2 n2 c2) ∧ X.cell? ⟨hb, 2, none⟩ = some (.int .i64 sf) ∧ X.cell? (ad.add (k * 4)) = some (.int .u8 kd) ∧ X.cell? ⟨(ad.add (k * 4)).block, (ad.add (k * 4)).off + 1, none⟩ = some (.slice A' m c') ∧ X.cell? ⟨(ad.add (k * 4)).block, (ad.add (k * 4)).off + 2, none⟩ = some (.int .i64 x) ∧ X.cell? ⟨(ad.add (k * 4)).block, (ad.add (k * 4)).off + 3, none⟩ = some (.int .i64 y))) w5.drew := ⟨g0, g1, g2, c0, c1', c2', c3⟩
        have HHB := Lib.hid (hlt5 hb (HS.out.disk.lt.2.2.1 hb HS.out.hbG))
        clear hW2 hD2 hL2 hbf hlt5 hbw5 hbox5 hrb hX hdo HPL
        go_wp2_with fail
        refine tail.wp_region_till 6 (fun X => (X.cell? ⟨hb, 0, none⟩ = some (.slice A1 n1 c1) ∧ X.cell? ⟨hb, 1, none⟩ = some (.slice A2 n2 c2) ∧ X.cell? ⟨hb, 2, none⟩ = some (.int .i64 sf) ∧ X.cell? (ad.add (k * 4)) = some (.int .u8 kd) ∧ X.cell? ⟨(ad.add (k * 4)).block, (ad.add (k * 4)).off + 1, none⟩ = some (.slice A' m c') ∧ X.cell? ⟨(ad.add (k * 4)).block, (ad.add (k * 4)).off + 2, none⟩ = some (.int .i64 x) ∧ X.cell? ⟨(ad.add (k * 4)).block, (ad.add (k * 4)).off + 3, none⟩ = some (.int .i64 y))) (by kernel_rfl) ?_
        (refine tail.till_take 0 (v := ?_) rfl (by kernel_rfl) (by kernel_rfl) (by kernel_rfl) (by kernel_rfl) (by kernel_rfl) (fun _ _ _ h => h) (by rfl) (by assumption) ?_ ?_; rotate_left 1; (focus (intro X hX; obtain ⟨s0, s1, s2, s3, s4, s5, s6⟩ := hX; go_simp; with_reducible rfl)); (try simp only [Act.put, List.setIfInBounds_toArray, List.set_cons_zero, List.set_cons_succ]))
        (refine tail.till_take 1 (v := ?_) rfl (by kernel_rfl) (by kernel_rfl) (by kernel_rfl) (by kernel_rfl) (by kernel_rfl) (fun _ _ _ h => h) (by rfl) (by assumption) ?_ ?_; rotate_left 1; (focus (intro X hX; obtain ⟨s0, s1, s2, s3, s4, s5, s6⟩ := hX; go_simp; with_reducible rfl)); (try simp only [Act.put, List.setIfInBounds_toArray, List.set_cons_zero, List.set_cons_succ]))
        (refine tail.till_take 2 (v := ?_) rfl (by kernel_rfl) (by kernel_rfl) (by kernel_rfl) (by kernel_rfl) (by kernel_rfl) (fun _ _ _ h => h) (by rfl) (by assumption) ?_ ?_; rotate_left 1; (focus (intro X hX; obtain ⟨s0, s1, s2, s3, s4, s5, s6⟩ := hX; go_simp; with_reducible rfl)); (try simp only [Act.put, List.setIfInBounds_toArray, List.set_cons_zero, List.set_cons_succ]))
        (refine tail.till_take 3 (v := ?_) rfl (by kernel_rfl) (by kernel_rfl) (by kernel_rfl) (by kernel_rfl) (by kernel_rfl) (fun _ _ _ h => h) (by rfl) (by assumption) ?_ ?_; rotate_left 1; (focus (intro X hX; obtain ⟨s0, s1, s2, s3, s4, s5, s6⟩ := hX; go_simp; with_reducible rfl)); (try simp only [Act.put, List.setIfInBounds_toArray, List.set_cons_zero, List.set_cons_succ]))
        (refine tail.till_take 4 (v := ?_) rfl (by kernel_rfl) (by kernel_rfl) (by kernel_rfl) (by kernel_rfl) (by kernel_rfl) (fun _ _ _ h => h) (by rfl) (by assumption) ?_ ?_; rotate_left 1; (focus (intro X hX; obtain ⟨s0, s1, s2, s3, s4, s5, s6⟩ := hX; go_simp; with_reducible rfl)); (try simp only [Act.put, List.setIfInBounds_toArray, List.set_cons_zero, List.set_cons_succ]))
        refine tail.till_one 5 (by kernel_rfl) rfl (fun K hK => ?_)
        go_simp
        go_at_call 33
        refine HDO.out.mono ?_
        intro e6 w6 hh
        obtain ⟨A3, n3, c3', A4, n4, c4, rfl, hn3, hn4, hr3, hr4, hb6⟩ := hh
        have hS6 : (fun X : World => (X.cell? ⟨hb, 0, none⟩ = some (.slice A1 n1 c1) ∧ X.cell? ⟨hb, 1, none⟩ = some (.slice A2 n2 c2) ∧ X.cell? ⟨hb, 2, none⟩ = some (.int .i64 sf) ∧ X.cell? (ad.add (k * 4)) = some (.int .u8 kd) ∧ X.cell? ⟨(ad.add (k * 4)).block, (ad.add (k * 4)).off + 1, none⟩ = some (.slice A' m c') ∧ X.cell? ⟨(ad.add (k * 4)).block, (ad.add (k * 4)).off + 2, none⟩ = some (.int .i64 x) ∧ X.cell? ⟨(ad.add (k * 4)).block, (ad.add (k * 4)).off + 3, none⟩ = some (.int .i64 y))) w6 := ⟨keepc (W := w5.drew) g0 hb6, keepc (W := w5.drew) g1 hb6, keepc (W := w5.drew) g2 hb6, keepc (W := w5.drew) c0 hb6, keepc (W := w5.drew) c1' hb6, keepc (W := w5.drew) c2' hb6, keepc (W := w5.drew) c3 hb6⟩
        have gg : ∀ j, w6.frozen? ⟨hb, j, none⟩ = false := fun j => (hb6.frozen (show (Addr.mk hb j none).block < w5.drew.heap.size from HHB.out)).trans (gf j)
        have hst := HS.out.step (a := (kd, b, x, y)) h4 HFW.out H5.out.1 H5.out.2.1 H5.out.2.2.1 H5.out.2.2.2 (below_drew (Below.refl _ _)) (c3 := c3') (c4 := c4) hn3 hn4 hr3 hr4 hb6
        simp only at hst
        refine hK.out _ _ (fun _ => hS6) ?_
        clear hK K
        try simp only [Act.put, List.setIfInBounds_toArray, List.set_cons_zero, List.set_cons_succ]
        refine tail.till_one 6 (by kernel_rfl) rfl (fun K hK => ?_)
        obtain ⟨q0, q1, q2, -⟩ := hS6
        generalize hdh : doH (p, L, sf) (kd, b, x, y) = dh at *
        have HST := Lib.hid hst
        clear hst hn3 hn4 hr3 hr4 hb6 g0 g1 g2 gf c0 c1' c2' c3 hS0 HDO H5
        go_simp
        refine hK.out _ _ (fun h => absurd rfl h) ?_
        clear hK K q0 q1 q2 gg
        try simp only [Act.put, List.setIfInBounds_toArray, List.set_cons_zero, List.set_cons_succ]
        refine tail.till_done (by kernel_rfl) ?_ _
        have hst := HST.out
        clear HST HS hdh
        generalize ((w6.setCell _ _).setCell _ _).setCell _ _ = X at hst ⊢
        obtain ⟨c0, -, -, -, -⟩ := HC.out X hst.bel
        generalize playB fr (kd, b, x, y) = fr2 at hst
        obtain ⟨p2, L2, sf2⟩ := dh
        simp only at hst
        cases em
        · rw [Bool.false_and] at hst
          have HSA := Lib.hid hst
          clear hst
          go_wp2_with fail
          refine (first_any X HSA.out.disk _ _ HSA.out.ws.firstOf).mono ?_
          rintro e w8 ⟨rfl, rfl⟩
          obtain ⟨nf, hnf⟩ : ∃ x, x = fr2.length := ⟨_, rfl⟩
          have HNF := Lib.hid hnf
          clear hnf
          go_wp2_with fail
          refine (read_any X HSA.out.disk (HSA.out.ws.len.short (by omega) 0 (by omega)) _ _ _ HSA.out.ws.read nf HNF.out).mono ?_
          rintro e w8 ⟨A7, c7, rfl, ho7, hb8⟩
          have HSB := Lib.hid (HSA.out.below hb8)
          have hlog : LogAt w8 lb d (nf : Nat) := by rw [HNF.out]; exact HSB.out.log
          clear hb8
          have HO7 := Lib.hid ho7
          have HRW := Lib.hid (row8_any w8 (Nat.le_refl _) (c1 := c3') (c2 := c4) (sf := sf2) (p := p2) (L := L2) HSB.out.e1 HSB.out.e2 HSB.out.r1.rd HSB.out.r2.rd (by rw [← HSB.out.row rfl]; have := HSB.out.frl; omega))
          obtain ⟨g0, g1, g2, -⟩ := HSB.out.cells
          clear ho7 hlog
          go_wp2_with fail
          refine HRW.out.mono ?_
          rintro e w9 ⟨A6, c6, n6, rfl, hn6, ho6, hb9⟩
          rw [← HSB.out.row rfl] at hn6 ho6
          have HSC := Lib.hid (HSB.out.below hb9)
          have hfl9 : fr2.length ≤ 1000000 := by have := HSB.out.frl; omega
          have HSM := Lib.hid (show Calls Try.prog 16 #[.slice A7 nf c7, .slice A6 n6 c6] w9 fun e w' => e = .returned (.bool true) ∧ ∃ nq, w' = w9.drewN nq from
            (byt.same_any w9 (xs := fr2) (bs := fr2) (n1 := nf) HNF.out hn6 ((HO7.out.rd.below hb9).more hb9.size) ho6.rd (by omega) (by omega)).mono fun e w' h => ⟨by rw [h.1, decide_eq_true rfl], h.2⟩)
          clear hn6 ho6 hb9 HRW g0 g1 g2 hfl9
          go_wp2_with fail
          refine HSM.out.mono ?_
          rintro e w10 ⟨rfl, nq, rfl⟩
          have HSD := Lib.hid (HSC.out.below (below_drewN (Below.refl _ _) nq))
          have hlog : LogAt (w9.drewN nq) lb d (nf : Nat) := by rw [HNF.out]; exact HSD.out.log
          generalize w9.drewN nq = X2 at HSD hlog ⊢
          clear HSM HSC HSB HO7
          go_wp2_with fail
          refine (size_any X2 hlog).mono ?_
          rintro e w11 ⟨rfl, rfl⟩
          clear hlog
          go_wp2_with fail
          go_roundw
          case rel => exact ⟨k + 1, lb, false, by omega, by go_num, (by first | rfl | rw [h2b]), rfl, Lib.hid ⟨_, _, _, _, _, _, _, _, _, _, _, _, _, _, HSD.out⟩⟩
          case measure => simp [intOf] <;> omega
        · by_cases h2 : kd % 6 = 2
          · rw [decide_eq_true h2, Bool.and_true] at hst
            have HSA := Lib.hid hst
            clear hst
            go_wp2_with fail
            refine (first_any X HSA.out.disk _ _ HSA.out.ws.firstOf).mono ?_
            rintro e w8 ⟨rfl, rfl⟩
            obtain ⟨nf, hnf⟩ : ∃ x, x = fr2.length := ⟨_, rfl⟩
            have HNF := Lib.hid hnf
            clear hnf
            go_wp2_with fail
            refine (read_any X HSA.out.disk (HSA.out.ws.len.short (by omega) 0 (by omega)) _ _ _ HSA.out.ws.read nf HNF.out).mono ?_
            rintro e w8 ⟨A7, c7, rfl, ho7, hb8⟩
            have HSB := Lib.hid (HSA.out.below hb8)
            have hlog : LogAt w8 lb d (nf : Nat) := by rw [HNF.out]; exact HSB.out.log
            clear hb8
            have hnf0 : nf = 0 := by rw [HNF.out, (HSB.out.emp rfl).1]; rfl
            subst hnf0
            clear ho7
            go_wp2_with fail
            refine (size_any w8 hlog).mono ?_
            rintro e w11 ⟨rfl, rfl⟩
            clear hlog
            go_wp2_with fail
            go_roundw
            case rel => exact ⟨k + 1, lb, true, by omega, by go_num, rfl, rfl, Lib.hid ⟨_, _, _, _, _, _, _, _, _, _, _, _, _, _, HSB.out⟩⟩
            case measure => simp [intOf] <;> omega
          · rw [decide_eq_false h2, Bool.and_false] at hst
            have h2b : (kd % 6 == 2) = false := beq_false_of_ne h2
            have HSA := Lib.hid hst
            clear hst
            go_wp2_with fail
            refine (first_any X HSA.out.disk _ _ HSA.out.ws.firstOf).mono ?_
            rintro e w8 ⟨rfl, rfl⟩
            obtain ⟨nf, hnf⟩ : ∃ x, x = fr2.length := ⟨_, rfl⟩
            have HNF := Lib.hid hnf
            clear hnf
            go_wp2_with fail
            refine (read_any X HSA.out.disk (HSA.out.ws.len.short (by omega) 0 (by omega)) _ _ _ HSA.out.ws.read nf HNF.out).mono ?_
            rintro e w8 ⟨A7, c7, rfl, ho7, hb8⟩
            have HSB := Lib.hid (HSA.out.below hb8)
            have hlog : LogAt w8 lb d (nf : Nat) := by rw [HNF.out]; exact HSB.out.log
            clear hb8
            have HO7 := Lib.hid ho7
            have HRW := Lib.hid (row8_any w8 (Nat.le_refl _) (c1 := c3') (c2 := c4) (sf := sf2) (p := p2) (L := L2) HSB.out.e1 HSB.out.e2 HSB.out.r1.rd HSB.out.r2.rd (by rw [← HSB.out.row rfl]; have := HSB.out.frl; omega))
            obtain ⟨g0, g1, g2, -⟩ := HSB.out.cells
            clear ho7 hlog
            go_wp2_with fail
            refine HRW.out.mono ?_
            rintro e w9 ⟨A6, c6, n6, rfl, hn6, ho6, hb9⟩
            rw [← HSB.out.row rfl] at hn6 ho6
            have HSC := Lib.hid (HSB.out.below hb9)
            have hfl9 : fr2.length ≤ 1000000 := by have := HSB.out.frl; omega
            have HSM := Lib.hid (show Calls Try.prog 16 #[.slice A7 nf c7, .slice A6 n6 c6] w9 fun e w' => e = .returned (.bool true) ∧ ∃ nq, w' = w9.drewN nq from
              (byt.same_any w9 (xs := fr2) (bs := fr2) (n1 := nf) HNF.out hn6 ((HO7.out.rd.below hb9).more hb9.size) ho6.rd (by omega) (by omega)).mono fun e w' h => ⟨by rw [h.1, decide_eq_true rfl], h.2⟩)
            clear hn6 ho6 hb9 HRW g0 g1 g2 hfl9
            go_wp2_with fail
            refine HSM.out.mono ?_
            rintro e w10 ⟨rfl, nq, rfl⟩
            have HSD := Lib.hid (HSC.out.below (below_drewN (Below.refl _ _) nq))
            have hlog : LogAt (w9.drewN nq) lb d (nf : Nat) := by rw [HNF.out]; exact HSD.out.log
            generalize w9.drewN nq = X2 at HSD hlog ⊢
            clear HSM HSC HSB HO7
            go_wp2_with fail
            refine (size_any X2 hlog).mono ?_
            rintro e w11 ⟨rfl, rfl⟩
            clear hlog
            go_wp2_with fail
            go_roundw
            case rel => exact ⟨k + 1, lb, false, by omega, by go_num, (by first | rfl | rw [h2b]), rfl, Lib.hid ⟨_, _, _, _, _, _, _, _, _, _, _, _, _, _, HSD.out⟩⟩
            case measure => simp [intOf] <;> omega
    · obtain rfl : k = n := by omega
      obtain ⟨F, G, s, f, fr, p, L, sf, A1, n1, c1, A2, n2, c2, hS⟩ := HSK.out
      have hbE := hS.bel
      clear hlt HS0 hS HSK
      go_wp2_with fail
      go_ret
      exact ⟨rfl, hbE⟩
end Go.Proofs.Ytjipjfionelpkaa.wl
