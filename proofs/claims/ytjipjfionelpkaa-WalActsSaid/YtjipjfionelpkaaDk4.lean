/- What counts a change, and a change that is loose. -/
import Derived.Test.YtjipjfionelpkaaDk3
namespace Go.Proofs.Ytjipjfionelpkaa.dk
open Go.RowKit Go.Proofs.Ytjipjfionelpkaa.lib Go.Proofs.Ytjipjfionelpkaa.byt
set_option linter.unusedVariables false

def countS (s : DS) : DS := if s.arm = true then (if s.left = 1 then { s with arm := false, left := 0, down := true } else { s with left := s.left - 1 }) else s
def OkS (s : DS) : Prop := s.arm = true → 0 < s.left ∧ s.left ≤ 9223372036854775807

set_option maxHeartbeats 2000000 in
theorem count_any (w : World) {F G : Nat → Prop} {d : Nat} {s : DS} {A : Nat → Option Addr} {c : Nat → Nat} {AL : Option Addr} {cL : Nat} {H : List Hd} (h : DiskP w F G d s A c AL cL H) (hok : OkS s) :
    Calls Try.prog 49 #[.pointer (some ⟨d, 0, none⟩)] w fun e w' => e = .returned (.tuple #[]) ∧ DiskP w' F G d (countS s) A c AL cL H ∧ BelF F w w' := by
  have hBd := h.base
  have c7 : w.cell? ⟨d, 7, none⟩ = some (.bool s.arm) := by rw [cell_d h]; rfl
  have c8 : w.cell? ⟨d, 8, none⟩ = some (.int .i64 s.left) := by rw [cell_d h]; rfl
  have c9 : w.cell? ⟨d, 9, none⟩ = some (.bool s.down) := by rw [cell_d h]; rfl
  have f := frozen_d h
  have HH := Lib.hid h
  obtain ⟨arm, harm⟩ : ∃ b, b = s.arm := ⟨_, rfl⟩
  obtain ⟨left, hleft⟩ : ∃ b, b = s.left := ⟨_, rfl⟩
  rw [← harm] at c7
  rw [← hleft] at c8
  cases arm with
  | false =>
    have HC := Lib.hid (show countS s = s from by unfold countS; rw [← harm]; rfl)
    clear harm hleft
    go_enter Try.func49, Try.ntmps49
    go_wp2_with fail
    exact bodyPost_ret (v := .tuple #[]) (by simp [results, Try.results49]) rfl ⟨rfl, by rw [HC.out]; exact HH.out, BelF.refl _ _⟩
  | true =>
    have hl := hok harm.symm
    rw [← hleft] at hl
    obtain ⟨hl1, hl2⟩ := hl
    have hl0 : (0 : Int) ≤ left - 1 := by omega
    by_cases he : left = 1
    · have HC := Lib.hid (show countS s = { s with arm := false, left := 0, down := true } from by unfold countS; rw [← harm, ← hleft, if_pos rfl, if_pos he])
      have HD := Lib.hid (((h.num (s' := { s with left := 0 }) 8 (.int .i64 0) rfl rfl rfl).num (s' := { s with left := 0, arm := false }) 7 (.bool false) rfl rfl rfl).num (s' := { s with left := 0, arm := false, down := true }) 9 (.bool true) rfl rfl rfl)
      have hw0 : IntKind.i64.wrap (left - 1) = 0 := by rw [IntWalk.i64_in _ (by omega)]; omega
      subst he
      clear harm hleft hw0
      go_enter Try.func49, Try.ntmps49
      go_wp2_with fail
      exact bodyPost_end (v := .tuple #[]) (by simp [results, Try.results49]) rfl ⟨rfl, by rw [HC.out]; exact HD.out, (((BelF.refl _ _).setCell hBd _).setCell hBd _).setCell hBd _⟩
    · have HC := Lib.hid (show countS s = { s with left := left - 1 } from by unfold countS; rw [← harm, ← hleft, if_pos rfl, if_neg he])
      have HD := Lib.hid (h.num (s' := { s with left := left - 1 }) 8 (.int .i64 (left - 1)) rfl rfl rfl)
      have q0 : (left - 1 == 0) = false := by simp only [beq_eq_false_iff_ne, ne_eq]; omega
      have q1 : ¬ left - 1 = 0 := by omega
      clear harm hleft
      go_enter Try.func49, Try.ntmps49
      go_wp2_with fail
      exact bodyPost_end (v := .tuple #[]) (by simp [results, Try.results49]) rfl ⟨rfl, by rw [HC.out]; exact HD.out, (BelF.refl _ _).setCell hBd _⟩
end Go.Proofs.Ytjipjfionelpkaa.dk
