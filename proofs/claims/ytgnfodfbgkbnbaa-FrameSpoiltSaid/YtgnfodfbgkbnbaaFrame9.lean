/- The walk of FrameSpoilt. -/
import Derived.Test.YtgnfodfbgkbnbaaFrame8
import Derived.Test.YtgnfodfbgkbnbaaFramePlain3
import Derived.Test.YtgnfodfbgkbnbaaOpen
namespace Go.Proofs.Ytgnfodfbgkbnbaa.frameWalk
open Go.RowKit Go.Proofs.Ytgnfodfbgkbnbaa.hashPlain Go.Proofs.Ytgnfodfbgkbnbaa.framePlain Go.Proofs.Ytgnfodfbgkbnbaa.lib Go.Proofs.Ytgnfodfbgkbnbaa.byt Go.Proofs.Ytgnfodfbgkbnbaa.hashWalk

theorem bits_xor8 (a c : UInt8) : bits BinOp.xor IntKind.u8 (a.toNat : Int) (c.toNat : Int) = ((a ^^^ c).toNat : Int) := by
  have ha := a.toNat_lt
  have hc := c.toNat_lt
  have e : (BitVec.ofInt IntKind.u8.bits (a.toNat : Int) ^^^ BitVec.ofInt IntKind.u8.bits (c.toNat : Int)).toNat = a.toNat ^^^ c.toNat := by
    show (BitVec.ofInt 8 (a.toNat : Int) ^^^ BitVec.ofInt 8 (c.toNat : Int)).toNat = _
    rw [BitVec.toNat_xor, BitVec.toNat_ofInt, BitVec.toNat_ofInt]
    have e1 : ((a.toNat : Int) % ((2 ^ 8 : Nat) : Int)).toNat = a.toNat := by omega
    have e2 : ((c.toNat : Int) % ((2 ^ 8 : Nat) : Int)).toNat = c.toNat := by omega
    rw [e1, e2]
  show IntKind.u8.wrap ((BitVec.ofInt IntKind.u8.bits (a.toNat : Int) ^^^ BitVec.ofInt IntKind.u8.bits (c.toNat : Int)).toNat : Int) = _
  rw [e, UInt8.toNat_xor]
  have hx : a.toNat ^^^ c.toNat < 256 := Nat.xor_lt_two_pow (n := 8) ha hc
  exact IntWalk.u8_in _ (by omega)
theorem own_at {w : World} {B : Nat} {A : Option Addr} {c : Nat} {bs : List UInt8} (h : OwnB w B A c bs) {k : Nat} (hk : k < bs.length) :
    ∃ g, A = some ⟨g, 0, none⟩ ∧ B ≤ g ∧ g < w.heap.size ∧ w.cell? ⟨g, k, none⟩ = some (.int .u8 (bs[k].toNat : Int)) ∧ w.frozen? ⟨g, k, none⟩ = false ∧
      ∀ v : UInt8, RdB (w.setCell ⟨g, k, none⟩ (.int .u8 (v.toNat : Int))) w.heap.size (some ⟨g, 0, none⟩) (bs.set k v) := by
  rcases h.2 with ⟨_, h0⟩ | ⟨g, cap, cur, e, hBg, hg, _⟩
  · omega
  · injection e with e1 _ _
    subst e1
    have hgs : g < w.heap.size := (Array.getElem?_eq_some_iff.1 hg).1
    have hall : ∀ j, j < bs.length → w.cell? ⟨g, j, none⟩ = some (.int .u8 ((bs.getD j 0).toNat : Int)) := fun j hj => by
      obtain ⟨ad, e, hc⟩ := rd_at h.rd hj
      injection e with e
      subst e
      rw [add_at] at hc
      rw [hc]
      simp [List.getD, hj]
    refine ⟨g, rfl, hBg, hgs, ?_, by simp [World.frozen?, hg], fun v => reads_of_cells hgs (cells_set hall)⟩
    rw [hall k hk]
    simp [List.getD, hk]

set_option maxRecDepth 4000 in
set_option maxHeartbeats 2000000 in
theorem walk_FrameSpoilt (w : World) {B : Nat} {A : Option Addr} {n c : Nat} {L : List (List UInt8)} (at_ by_ : Int) (hn : n = L.length) (hr : RdBB w B A L) (hB : B ≤ w.heap.size) (hnc : n ≤ c) (hat : 0 ≤ at_ ∧ at_ ≤ 65535) (hby : 0 ≤ by_ ∧ by_ ≤ 255) :
    Calls Try.prog 11 #[.slice A n c, .int .u16 at_, .int .u8 by_] w fun e w' => e = .returned (.bool true) ∧ Below w.heap.size w w' := by
  have HN := Lib.hid hn
  clear hn
  go_enter Try.func11, Try.ntmps11
  go_wp2_with fail
  refine (awake4 w).mono ?_
  rintro e w1 ⟨rfl, hb1⟩
  go_wp2_with fail
  have hr1 : RdBB w1 B A L := hr.below (hb1.mono hB)
  refine (few_any w1 HN.out hr1).mono ?_
  rintro e w' ⟨rfl, rfl⟩
  obtain ⟨t, ht⟩ : ∃ t, t = fewB L := ⟨_, rfl⟩
  rw [← ht]
  have hend : Calls Try.prog 18 #[] w1 fun e w' => e = .returned (.bool true) ∧ Below w.heap.size w w' :=
    (awake4 w1).mono fun e w' ⟨h1, h2⟩ => ⟨h1, hb1.trans (h2.mono hb1.size)⟩
  have HEND := Lib.hid hend
  clear hend
  cases t
  · clear ht
    go_wp2_with fail
    refine (HEND.out).mono ?_
    rintro e w2 ⟨rfl, hb2⟩
    go_wp2_with fail
    go_ret
    exact ⟨rfl, hb2⟩
  obtain ⟨f1, f2, f3⟩ := few_of ht.symm
  have hn40 : n ≤ 40 := by rw [HN.out]; exact f1
  have F2 := Lib.hid f2
  have F3 := Lib.hid f3
  clear ht f1 f2 f3
  by_cases h0 : n = 0
  · subst h0
    go_wp2_with fail
    refine (HEND.out).mono ?_
    rintro e w2 ⟨rfl, hb2⟩
    go_wp2_with fail
    go_ret
    exact ⟨rfl, hb2⟩
  by_cases hz : by_ = 0
  · subst hz
    go_wp2_with fail
    refine (HEND.out).mono ?_
    rintro e w2 ⟨rfl, hb2⟩
    go_wp2_with fail
    go_ret
    exact ⟨rfl, hb2⟩
  obtain ⟨q, rfl⟩ : ∃ q, n = q + 1 := ⟨n - 1, by omega⟩
  have hqL : q < L.length := by rw [← HN.out]; omega
  obtain ⟨ad, A1, c1, rfl, hc, -⟩ := hr1.at_ hqL
  obtain ⟨m1, hm1⟩ : ∃ m, m = L[q].length := ⟨_, rfl⟩
  rw [← hm1] at hc
  have hk3 : m1 ≤ 3000 := by rw [hm1]; exact F2.out _ (List.getElem_mem hqL)
  have HM1 := Lib.hid hm1
  clear hm1
  have hq0 : ((q : Int) + 1 == 0) = false := by simp only [beq_eq_false_iff_ne, ne_eq]; omega
  have hz0 : (by_ == 0) = false := by simp only [beq_eq_false_iff_ne, ne_eq]; exact hz
  by_cases hm0 : m1 = 0
  · subst hm0
    go_wp2_with fail
    go_ret
    exact ⟨rfl, hb1⟩
  have hm0' : ((m1 : Int) == 0) = false := by simp only [beq_eq_false_iff_ne, ne_eq]; omega
  go_wp2_with fail
  refine (row_all w1 HN.out hr1 (Nat.le_trans hB hb1.size) (Nat.le_trans F3.out (by decide))).mono ?_
  rintro e w2 ⟨A2, c2, n2, rfl, hn2, ho2, hb2⟩
  have hb2' : Below w.heap.size w w2 := hb1.trans (hb2.mono hb1.size)
  have eL : L = L.take q ++ [L[q]] := by
    rw [← List.take_succ_eq_append_getElem hqL, HN.out, List.take_of_length_le (Nat.le_refl _)]
  obtain ⟨L', hL'⟩ : ∃ L', L' = L.take q := ⟨_, rfl⟩
  obtain ⟨r, hr'⟩ : ∃ r, r = L[q] := ⟨_, rfl⟩
  rw [← hL', ← hr'] at eL
  have hlr : m1 = r.length := by rw [hr']; exact HM1.out
  have hlen : (rowOf L).length = (rowOf L').length + (12 + m1) := by rw [eL, rowOf_snoc, List.length_append, frameOf_length, hlr]
  obtain ⟨i, hi⟩ : ∃ i : Nat, (i : Int) = at_ % (m1 : Int) := ⟨(at_ % (m1 : Int)).toNat, by have := Int.emod_nonneg at_ (show (m1 : Int) ≠ 0 by omega); omega⟩
  have him : i < m1 := by have := Int.emod_lt_of_pos at_ (show (0 : Int) < (m1 : Int) by omega); omega
  have hit : at_.tmod (m1 : Int) = i := by rw [Int.tmod_eq_emod_of_nonneg hat.1, hi]
  obtain ⟨p, hp⟩ : ∃ p, p = m1 - 1 - i := ⟨_, rfl⟩
  have hpr : p < r.length := by omega
  obtain ⟨k, hk⟩ : ∃ k, k = (rowOf L').length + (12 + p) := ⟨_, rfl⟩
  have hkl : k < (rowOf L).length := by omega
  have hkI : (n2 : Int) - 1 - i = (k : Int) := by omega
  have hkn : k < n2 := by omega
  have hn2b : n2 ≤ 40 * 3012 := by rw [hn2]; exact F3.out
  obtain ⟨y, rfl⟩ := byte_of hby
  have hy0 : y ≠ 0 := fun e => hz (by rw [e]; rfl)
  obtain ⟨g, rfl, hBg, hgs, hcell, hfz, hset⟩ := own_at ho2 hkl
  have hcap := own_cap ho2
  rw [← hn2] at hcap
  obtain ⟨b, hb⟩ : ∃ b, b = (rowOf L)[k] := ⟨_, rfl⟩
  rw [← hb] at hcell
  have hbr : b = r[p] := by
    have h1 : (rowOf (L' ++ [r])).length = (rowOf L).length := by rw [← eL]
    have := row_at L' r p hpr (by omega)
    rw [hb, ← this]
    simp only [← hk, ← eL]
  have hx := bits_xor8 b y
  have hv : (b ^^^ y) ≠ r[p] := fun e => hy0 (by
    rw [← hbr] at e
    have := congrArg (b ^^^ ·) e
    simpa [← UInt8.xor_assoc] using this)
  obtain ⟨v, hvv⟩ : ∃ v, v = b ^^^ y := ⟨_, rfl⟩
  rw [← hvv] at hx hv
  have hvn : b.toNat ^^^ y.toNat = v.toNat := by rw [hvv, UInt8.toNat_xor]
  have HVN := Lib.hid hvn
  clear hvn
  have hcw2 : w2.cell? (ad.add q) = some (.slice A1 m1 c1) := by
    rw [hb2.cell (block_of_cell hc)]
    exact hc
  have HN2 := Lib.hid hn2
  have HV := Lib.hid hv
  have EL := Lib.hid eL
  have HK := Lib.hid hk
  have HL' := Lib.hid hL'
  have HLR := Lib.hid hlr
  have HSET := Lib.hid hset
  clear hi hn2 hv eL hk hL' hlr hset hb hbr hy0 hp hlen hr' hkl ho2 hc
  go_wp2_with fail
  rw [HVN.out]
  have hb3 : Below w1.heap.size w1 (w2.setCell ⟨g, k, none⟩ (.int .u8 (v.toNat : Int))) := hb2.setCell hBg _
  have hb3' : Below w.heap.size w (w2.setCell ⟨g, k, none⟩ (.int .u8 (v.toNat : Int))) := hb1.trans (hb3.mono hb1.size)
  have ls : ((rowOf L).set k v).length = n2 := by rw [List.length_set, HN2.out]
  refine (scan_any (w2.setCell ⟨g, k, none⟩ (.int .u8 (v.toNat : Int))) ls.symm (HSET.out v) (by rw [World.size_setCell]; exact Nat.le_refl _) hcap (by rw [ls]; omega)).mono ?_
  rintro e w4 ⟨A4, c4, m4, k4, R4, rfl, hm4, ho4, ht4, hf4, hb4⟩
  have hR : R4 = L' := by
    have hrm : r ∈ L := by rw [EL.out]; simp
    have hk' := HK.out
    rw [EL.out, hk'] at ht4 hf4
    exact scan_spoilt hpr HV.out (by have := F2.out r hrm; omega) (fun x hx => by have := F2.out x (by rw [EL.out]; simp [hx]); omega) ht4 hf4
  subst hR
  have hb4' : Below w.heap.size w w4 := hb3'.trans (hb4.mono (Nat.le_trans hb2'.size (by rw [World.size_setCell]; exact Nat.le_refl _)))
  have hrl : RdBB w4 B (some ad) (L.take q) := rdBB_take (hr.below (hb4'.mono hB)) (Nat.le_of_lt hqL)
  rw [← HL'.out] at hrl
  have lq : R4.length = q := by rw [HL'.out, List.length_take]; omega
  have hsh : Short R4 := short_few (by rw [lq]; omega) fun x hx => F2.out x (by rw [EL.out]; simp [hx])
  have hS := sameAll_any w4 (c1 := c4) (c2 := c) hm4 lq.symm ho4.rd hrl hsh hsh
  rw [show decide (R4 = R4) = true from decide_eq_true rfl] at hS
  have HS := Lib.hid hS
  clear hS ht4 hf4 hm4 lq ls hx hcell hfz
  go_wp2_with fail
  refine (HS.out).mono ?_
  rintro e w5 ⟨rfl, nq, rfl⟩
  go_wp2_with fail
  go_ret
  exact ⟨rfl, below_drewN hb4' nq⟩
end Go.Proofs.Ytgnfodfbgkbnbaa.frameWalk
