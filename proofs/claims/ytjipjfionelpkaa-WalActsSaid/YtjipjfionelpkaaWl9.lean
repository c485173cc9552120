/- What Play of a log does. -/
import Derived.Test.YtjipjfionelpkaaWl8
namespace Go.Proofs.Ytjipjfionelpkaa.wl
open Go.RowKit Go.Proofs.Ytjipjfionelpkaa.lib Go.Proofs.Ytjipjfionelpkaa.byt Go.Proofs.Ytjipjfionelpkaa.dk Go.Proofs.Ytjipjfionelpkaa.framePlain
set_option linter.unusedVariables false

/-- The front area's bytes behind an act of kind 0 to 3. -/
def playB (fr : List UInt8) (a : Ac8) : List UInt8 := if a.1 % 6 = 2 then fr else if a.1 % 6 = 3 then frameOf a.2.1 else fr ++ addB fr a.2.1
def RPlay (w : World) (F G : Nat → Prop) (d lb : Nat) (fr' : List UInt8) (M : Nat) (e : Ending) (w' : World) : Prop :=
  e = .returned (.int .i64 0) ∧ ∃ s' f', WS s' f' fr' M ∧ DiskM w' F G d s' ∧ LogAt w' lb d (fr'.length : Nat) ∧ BelF (less F lb) w w'
set_option maxHeartbeats 1000000 in
theorem play8_any (w : World) {F G T : Nat → Prop} {d lb m c M : Nat} {s : DS} {f : Int} {fr : List UInt8} {Ar : Option Addr} {a : Ac8} (h0 : 0 ≤ a.1 ∧ a.1 ≤ 255) (h4 : a.1 % 6 < 4) (hD : DiskM w F G d s) (hW : WS s f fr M) (hM : M ≤ 5000000) (hL : LogAt w lb d (fr.length : Nat)) (hG : G lb)
    (hfl : fr.length ≤ 100000) (hm : m = a.2.1.length) (hr : RdF w T Ar a.2.1) (hrl : a.2.1.length ≤ 200) :
    Calls Try.prog 32 #[.pointer (some ⟨lb, 0, none⟩), .agg #[.int .u8 a.1, .slice Ar m c, .int .i64 a.2.2.1, .int .i64 a.2.2.2]] w (RPlay w F G d lb (playB fr a) (M + 1000)) := by
  obtain ⟨k, b, x, y⟩ := a
  simp only at h0 h4 hm hr hrl ⊢
  obtain ⟨k0, k255⟩ := h0
  have h6 : k % 6 = 2 ∨ k % 6 = 3 ∨ (¬ k % 6 = 2 ∧ ¬ k % 6 = 3) := by omega
  have hbA : Below w.heap.size w (w.alloc (.cells #[.int .u8 k, .slice Ar m c, .int .i64 x, .int .i64 y] 60)) := (Below.refl _ _).alloc (Nat.le_refl _) _
  replace hD := hD.below hbA (Nat.le_refl _)
  replace hL := hL.below hbA (Nat.le_refl _)
  have hr2 : RdB (w.alloc (.cells #[.int .u8 k, .slice Ar m c, .int .i64 x, .int .i64 y] 60)) (w.alloc (.cells #[.int .u8 k, .slice Ar m c, .int .i64 x, .int .i64 y] 60)).heap.size Ar b := (hr.below hbA (Nat.le_refl _)).rd
  have hb : BelF (less F lb) w (w.alloc (.cells #[.int .u8 k, .slice Ar m c, .int .i64 x, .int .i64 y] 60)) := BelF.of hbA (Nat.le_refl _)
  have hlG := hD.lt.2.2.1 lb hG
  have HM := Lib.hid hm
  clear hm hbA hr
  rcases h6 with e | e | ⟨q2, q3⟩
  · have hp : playB fr (k, b, x, y) = fr := by unfold playB; rw [if_pos e]
    rw [hp]
    have hw2 := hW.sync.2
    have HC := Lib.hid (flush_any (w.alloc (.cells #[.int .u8 k, .slice Ar m c, .int .i64 x, .int .i64 y] 60)) hD hW (by omega) hL)
    have HL := Lib.hid hL
    have HB := Lib.hid hb
    have HW := Lib.hid (hw2.mono (show M ≤ M + 1000 by omega))
    clear hp hw2 hD hW hL hr2 hb
    go_enter Try.func32, Try.ntmps32
    go_wp2_with fail
    refine HC.out.mono ?_
    rintro e w2 ⟨rfl, hD2, hbf⟩
    have HE := Lib.hid (show RPlay w F G d lb fr (M + 1000) (.returned (.int .i64 0)) w2 from ⟨rfl, _, _, HW.out, hD2, HL.out.bel hbf hlG, HB.out.trans (hbf.mono fun b h => h.1)⟩)
    clear hD2 hbf HC
    go_wp2_with fail
    refine bodyPost_ret (v := .int .i64 0) (by simp [results, Try.results32]) rfl ?_
    exact HE.out
  · have hp : playB fr (k, b, x, y) = frameOf b := by unfold playB; rw [if_neg (by simp only; omega), if_pos e]
    rw [hp]
    have hw2 := (rep_ok hW (frameOf b) (o := 1 - f) rfl).2.2.2.2.2.2
    have HC := Lib.hid (save_any (w.alloc (.cells #[.int .u8 k, .slice Ar m c, .int .i64 x, .int .i64 y] 60)) hD hW (by omega) hL hG (cr := c) HM.out hr2 (Nat.le_refl _) (by omega))
    have HB := Lib.hid hb
    have HW := Lib.hid (hw2.mono (show M + 2 * (frameOf b).length + 3 ≤ M + 1000 by rw [frameOf_length]; omega))
    have q2 : ¬ k % 6 = 2 := by omega
    clear hp hw2 hD hW hL hr2 hb
    go_enter Try.func32, Try.ntmps32
    go_wp2_with fail
    refine HC.out.mono ?_
    rintro e w2 ⟨rfl, hD2, hL2, hbf⟩
    have HE := Lib.hid (show RPlay w F G d lb (frameOf b) (M + 1000) (.returned (.int .i64 0)) w2 from ⟨rfl, _, _, HW.out, hD2, hL2, HB.out.trans hbf⟩)
    clear hD2 hL2 hbf HC
    go_wp2_with fail
    refine bodyPost_ret (v := .int .i64 0) (by simp [results, Try.results32]) rfl ?_
    exact HE.out
  · have hp : playB fr (k, b, x, y) = fr ++ addB fr b := by unfold playB; rw [if_neg q2, if_neg q3]
    rw [hp]
    have hal := addB_len fr b
    have hw2 := (hW.append (addB fr b)).2
    have HC := Lib.hid (add_any (w.alloc (.cells #[.int .u8 k, .slice Ar m c, .int .i64 x, .int .i64 y] 60)) hD hW (by omega) hL hG ⟨by omega, by omega⟩ (cr := c) HM.out hr2 (Nat.le_refl _) (by omega))
    have HB := Lib.hid hb
    have HW := Lib.hid (hw2.mono (show M + 2 * (addB fr b).length + 1 ≤ M + 1000 by omega))
    clear hp hw2 hD hW hL hr2 hb hal
    go_enter Try.func32, Try.ntmps32
    go_wp2_with fail
    refine HC.out.mono ?_
    rintro e w2 ⟨rfl, hD2, hL2, hbf⟩
    have HE := Lib.hid (show RPlay w F G d lb (fr ++ addB fr b) (M + 1000) (.returned (.int .i64 0)) w2 from ⟨rfl, _, _, HW.out, hD2, by rw [List.length_append, Int.natCast_add]; exact hL2, HB.out.trans hbf⟩)
    clear hD2 hL2 hbf HC
    go_wp2_with fail
    refine bodyPost_ret (v := .int .i64 0) (by simp [results, Try.results32]) rfl ?_
    exact HE.out
end Go.Proofs.Ytjipjfionelpkaa.wl
