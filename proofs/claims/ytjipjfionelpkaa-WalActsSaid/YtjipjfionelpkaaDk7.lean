/- What Read, Down, First, Loose, Arm of a disk do. -/
import Derived.Test.YtjipjfionelpkaaDk6
namespace Go.Proofs.Ytjipjfionelpkaa.dk
open Go.RowKit Go.Proofs.Ytjipjfionelpkaa.lib Go.Proofs.Ytjipjfionelpkaa.byt
set_option linter.unusedVariables false

theorem DiskM.cell {w : World} {F G : Nat → Prop} {d : Nat} {s : DS} (h : DiskM w F G d s) : w.cell? ⟨d, 2, none⟩ = some (.int .i64 s.f0) ∧ w.cell? ⟨d, 5, none⟩ = some (.int .i64 s.f1) ∧ (∃ AL cL, w.cell? ⟨d, 6, none⟩ = some (.slice AL s.lo.length cL)) ∧ w.cell? ⟨d, 7, none⟩ = some (.bool s.arm) ∧ w.cell? ⟨d, 8, none⟩ = some (.int .i64 s.left) ∧ w.cell? ⟨d, 9, none⟩ = some (.bool s.down) ∧ ∀ j, w.frozen? ⟨d, j, none⟩ = false := by
  obtain ⟨A, c, AL, cL, H, hP⟩ := h
  exact ⟨by rw [cell_d hP]; rfl, by rw [cell_d hP]; rfl, ⟨AL, cL, by rw [cell_d hP]; rfl⟩, by rw [cell_d hP]; rfl, by rw [cell_d hP]; rfl, by rw [cell_d hP]; rfl, frozen_d hP⟩
theorem DiskM.area {w : World} {F G : Nat → Prop} {d : Nat} {s : DS} (h : DiskM w F G d s) (k : Nat) (hk : k < 4) : ∃ A c, w.cell? ⟨d, off k, none⟩ = some (.slice A (s.by_ k).length c) ∧ RdB w w.heap.size A (s.by_ k) := by
  obtain ⟨A, c, AL, cL, H, hP⟩ := h
  exact ⟨A k, c k, by rw [cell_d hP]; exact dcells_area A c AL cL s k hk, OwnB.rd (hP.own k hk)⟩
theorem DiskM.lt {w : World} {F G : Nat → Prop} {d : Nat} {s : DS} (h : DiskM w F G d s) : d < w.heap.size ∧ ¬ F d ∧ (∀ b, G b → F b) ∧ ∀ b, F b → b < w.heap.size := by
  obtain ⟨A, c, AL, cL, H, hP⟩ := h
  exact ⟨hP.dlt, hP.base, hP.ebase, hP.flt⟩

theorem down_any (w : World) {F G : Nat → Prop} {d : Nat} {s : DS} (h : DiskM w F G d s) :
    Calls Try.prog 23 #[.pointer (some ⟨d, 0, none⟩)] w fun e w' => e = .returned (.bool s.down) ∧ w = w' := by
  obtain ⟨-, -, -, -, -, c9, -⟩ := h.cell
  clear h
  go_enter Try.func23, Try.ntmps23
  go_wp2_with fail
  go_ret
  exact ⟨rfl, rfl⟩
theorem loose_any (w : World) {F G : Nat → Prop} {d : Nat} {s : DS} (h : DiskM w F G d s) :
    Calls Try.prog 26 #[.pointer (some ⟨d, 0, none⟩)] w fun e w' => e = .returned (.int .i64 s.lo.length) ∧ w = w' := by
  obtain ⟨-, -, ⟨AL, cL, c6⟩, -, -, -, -⟩ := h.cell
  clear h
  go_enter Try.func26, Try.ntmps26
  go_wp2_with fail
  go_ret
  exact ⟨rfl, rfl⟩
theorem first_any (w : World) {F G : Nat → Prop} {d : Nat} {s : DS} (h : DiskM w F G d s) (x y : Int) (hxy : (x, y) = if s.down = true then (0, 4) else (s.f1, 0)) :
    Calls Try.prog 24 #[.pointer (some ⟨d, 0, none⟩)] w fun e w' => e = .returned (.tuple #[.int .i64 x, .int .i64 y]) ∧ w = w' := by
  obtain ⟨-, c5, -, -, -, c9, -⟩ := h.cell
  obtain ⟨dn, hdn⟩ : ∃ b, b = s.down := ⟨_, rfl⟩
  rw [← hdn] at c9 hxy
  clear h hdn
  cases dn with
  | true =>
    rw [if_pos rfl] at hxy
    injection hxy with h1 h2
    subst h1 h2
    go_enter Try.func24, Try.ntmps24
    go_wp2_with fail
    go_ret2
    exact ⟨rfl, rfl⟩
  | false =>
    rw [if_neg (by decide)] at hxy
    injection hxy with h1 h2
    subst h2
    have H1 := Lib.hid h1
    clear h1
    go_enter Try.func24, Try.ntmps24
    go_wp2_with fail
    go_ret2
    exact ⟨by rw [H1.out]; rfl, rfl⟩

def readS (s : DS) (area : Int) : List UInt8 × Int := if area = 0 ∨ area = 1 then (if s.down = true then ([], 4) else (s.by_ (2 + area.toNat), 0)) else ([], 1)
set_option maxHeartbeats 2000000 in
theorem read_any (w : World) {F G : Nat → Prop} {d : Nat} {s : DS} (h : DiskM w F G d s) (hs : ShortD s 0) (area : Int) (b : List UInt8) (code : Int) (hb : (b, code) = readS s area) (m : Nat) (hm : m = b.length) :
    Calls Try.prog 14 #[.pointer (some ⟨d, 0, none⟩), .int .i64 area] w fun e w' => ∃ A' c', e = .returned (.tuple #[.slice A' m c', .int .i64 code]) ∧ OwnB w' w.heap.size A' c' b ∧ Below w.heap.size w w' := by
  obtain ⟨-, -, -, -, -, c9, -⟩ := h.cell
  unfold readS at hb
  by_cases ha : area = 0 ∨ area = 1
  case neg =>
    rw [if_neg ha] at hb
    injection hb with h1 h2
    subst h1 h2
    obtain rfl : m = 0 := hm
    have HD := Lib.hid (show decide (area = 0 ∨ area = 1) = false from decide_eq_false ha)
    go_enter Try.func14, Try.ntmps14
    go_wp2_with fail
    refine (isArea_any _ area).mono ?_
    rintro e w' ⟨rfl, rfl⟩
    rw [HD.out]
    go_wp2_with fail
    go_ret2
    exact ⟨none, 0, rfl, ownB_nil _ _, Below.refl _ _⟩
  case pos =>
  rw [if_pos ha] at hb
  have HD := Lib.hid (show decide (area = 0 ∨ area = 1) = true from decide_eq_true ha)
  obtain ⟨dn, hdn⟩ : ∃ b, b = s.down := ⟨_, rfl⟩
  rw [← hdn] at c9 hb
  cases dn with
  | true =>
    rw [if_pos rfl] at hb
    injection hb with h1 h2
    subst h1 h2
    obtain rfl : m = 0 := hm
    clear hdn
    go_enter Try.func14, Try.ntmps14
    go_wp2_with fail
    refine (isArea_any _ area).mono ?_
    rintro e w' ⟨rfl, rfl⟩
    rw [HD.out]
    go_wp2_with fail
    go_ret2
    exact ⟨none, 0, rfl, ownB_nil _ _, Below.refl _ _⟩
  | false =>
    rw [if_neg (by decide)] at hb
    injection hb with h1 h2
    subst h2
    obtain ⟨a, ha2, ea⟩ : ∃ a : Nat, a < 2 ∧ area = (a : Int) := by
      rcases ha with rfl | rfl
      · exact ⟨0, by omega, rfl⟩
      · exact ⟨1, by omega, rfl⟩
    subst ea
    simp only [Int.toNat_natCast] at h1
    subst h1
    obtain ⟨A, c, ca, hr⟩ := h.area (2 + a) (by omega)
    rw [show off (2 + a) = 3 + a from so_off 2 a (.inr rfl) ha2, ← hm] at ca
    have HC := Lib.hid (cloneB_any w (c := c) hm hr (Nat.le_refl _) (by have := hs.1 (2 + a) (by omega); omega))
    have ha0 : (0 : Int) ≤ a := by omega
    have ha1 : (a : Int) < 2 := by omega
    clear hdn hm hr h hs ha
    go_enter Try.func14, Try.ntmps14
    go_wp2_with fail
    refine (isArea_any _ (a : Int)).mono ?_
    rintro e w' ⟨rfl, rfl⟩
    rw [HD.out]
    go_wp2_with fail
    refine HC.out.mono ?_
    rintro e w1 ⟨A', c', rfl, ho, hb'⟩
    have HO := Lib.hid ho
    clear ho HC
    go_wp2_with fail
    go_ret2
    exact ⟨A', c', rfl, HO.out, hb'⟩

def armS (s : DS) (n : Int) : DS := if s.down = true then s else { s with arm := decide (0 < n), left := max n 0, down := decide (n = 0) }
set_option maxHeartbeats 2000000 in
theorem arm_any (w : World) {F G : Nat → Prop} {d : Nat} {s : DS} (h : DiskM w F G d s) (n : Int) :
    Calls Try.prog 21 #[.pointer (some ⟨d, 0, none⟩), .int .i64 n] w fun e w' => e = .returned (.tuple #[]) ∧ DiskM w' F G d (armS s n) ∧ BelF F w w' := by
  obtain ⟨-, -, -, c7, c8, c9, f⟩ := h.cell
  obtain ⟨hdl, hBd, -⟩ := h.lt
  obtain ⟨dn, hdn⟩ : ∃ b, b = s.down := ⟨_, rfl⟩
  rw [← hdn] at c9
  obtain ⟨A, c, AL, cL, H, hP⟩ := h
  cases dn with
  | true =>
    have HA := Lib.hid (show armS s n = s from by unfold armS; rw [if_pos hdn.symm])
    clear hdn
    go_enter Try.func21, Try.ntmps21
    go_wp2_with fail
    exact bodyPost_ret (v := .tuple #[]) (by simp [results, Try.results21]) rfl ⟨rfl, by rw [HA.out]; exact hP.mem, BelF.refl _ _⟩
  | false =>
    have HA := Lib.hid (show armS s n = { s with arm := decide (0 < n), left := max n 0, down := decide (n = 0) } from by unfold armS; rw [if_neg (by rw [← hdn]; decide)])
    have HD := Lib.hid (((hP.num (s' := { s with arm := decide (0 < n) }) 7 (.bool (decide (0 < n))) rfl rfl rfl).num (s' := { s with arm := decide (0 < n), left := max n 0 }) 8 (.int .i64 (max n 0)) rfl rfl rfl).num (s' := { s with arm := decide (0 < n), left := max n 0, down := decide (n = 0) }) 9 (.bool (decide (n = 0))) rfl rfl rfl)
    clear hdn hP
    go_enter Try.func21, Try.ntmps21
    have hq : (n == 0) = decide (n = 0) := by rw [Bool.eq_iff_iff]; simp
    have HQ := Lib.hid hq
    clear hq
    go_wp2_with fail
    all_goals
      have e : max n 0 = n ∨ max n 0 = 0 := by omega
      refine bodyPost_end (v := .tuple #[]) (by simp [results, Try.results21]) rfl ⟨rfl, ?_, (((BelF.refl _ _).setCell hBd _).setCell hBd _).setCell hBd _⟩
      rw [HA.out, HQ.out]
      have hd := HD.out
      first
        | (rw [show max n 0 = n by omega] at hd ⊢; exact hd.mem)
        | (rw [show max n 0 = 0 by omega] at hd ⊢; exact hd.mem)
end Go.Proofs.Ytjipjfionelpkaa.dk
