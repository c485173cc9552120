/- What Play of a disk does. -/
import Derived.Test.YtjipjfionelpkaaDk17
namespace Go.Proofs.Ytjipjfionelpkaa.dk
open Go.RowKit Go.Proofs.Ytjipjfionelpkaa.lib Go.Proofs.Ytjipjfionelpkaa.byt
set_option linter.unusedVariables false

set_option maxHeartbeats 2000000 in
theorem play_any (w : World) {F G : Nat → Prop} {d m cb B2 M : Nat} {s : DS} {r : RS} {Ab : Option Addr} (h : DiskM w F G d s) (hR : Rel s r) (hz : SizeR r M) (hM : M ≤ 1000000000) (a : Ac) (h0 : 0 ≤ a.1 ∧ a.1 ≤ 255) (hn : a.2.2.2.1 ≤ 9223372036854775807) (hm : m = a.2.2.1.length) (hr : RdB w B2 Ab a.2.2.1) (hB2 : B2 ≤ w.heap.size) (hl : a.2.2.1.length ≤ 1000000000) :
    Calls Try.prog 18 #[.pointer (some ⟨d, 0, none⟩), .agg #[.int .u8 a.1, .int .i64 a.2.1, .slice Ab m cb, .int .i64 a.2.2.2.1, .int .i64 a.2.2.2.2]] w fun e w' => e = .returned (.int .i64 (doR r a).2) ∧ ∃ s', DiskM w' F G d s' ∧ Rel s' (doR r a).1 ∧ BelF F w w' := by
  obtain ⟨p1, p2⟩ := rel_play hR a h0.1 hn
  obtain ⟨hsh, hlg⟩ := hR.short hz hM a.2.2.1.length hl
  obtain ⟨hsh0, -⟩ := hR.short hz hM 0 (by omega)
  have hok := hR.ok
  rw [← p2]
  have HP1 := Lib.hid p1
  clear p1 p2 hR hz
  generalize (doR r a).1 = r' at HP1 ⊢
  obtain ⟨k, ar, b, n, mm⟩ := a
  simp only at h0 hn hm hr hl hsh ⊢
  obtain ⟨h0, h255⟩ := h0
  have h6 : k % 6 = 0 ∨ k % 6 = 1 ∨ k % 6 = 2 ∨ k % 6 = 3 ∨ k % 6 = 4 ∨ k % 6 = 5 := by omega
  have hbA : Below w.heap.size w (w.alloc (.cells #[.int .u8 k, .int .i64 ar, .slice Ab m cb, .int .i64 n, .int .i64 mm] 39)) := (Below.refl _ _).alloc (Nat.le_refl _) _
  replace h := h.below hbA (Nat.le_refl _)
  replace hr := (hr.below (hbA.mono hB2)).more (show B2 ≤ (w.alloc (.cells #[.int .u8 k, .int .i64 ar, .slice Ab m cb, .int .i64 n, .int .i64 mm] 39)).heap.size by have := hbA.size; omega)
  have hb : BelF F w (w.alloc (.cells #[.int .u8 k, .int .i64 ar, .slice Ab m cb, .int .i64 n, .int .i64 mm] 39)) := BelF.of hbA (Nat.le_refl _)
  have HM := Lib.hid hm
  clear hm hbA hB2
  rcases h6 with e | e | e | e | e | e
  · have hps : playS s (k, ar, b, n, mm) = actS s (0, ar, b) := by unfold playS; simp only [e]; rfl
    rw [hps] at HP1 ⊢
    clear hps
    go_enter Try.func18, Try.ntmps18
    go_wp2_with fail
    generalize (w.alloc (.cells #[.int .u8 k, .int .i64 ar, .slice Ab m cb, .int .i64 n, .int .i64 mm] 39)) = V at h hr hb ⊢
    refine (append_any V h hok ar HM.out hr (Nat.le_refl _) hsh (by omega)).mono ?_
    rintro e w2 ⟨rfl, hD, hbf⟩
    have HD := Lib.hid hD
    have HB := Lib.hid (hb.trans hbf)
    clear hD hbf
    go_wp2_with fail
    go_ret
    exact ⟨rfl, _, HD.out, HP1.out, HB.out⟩
  · have hps : playS s (k, ar, b, n, mm) = actS s (1, ar, []) := by unfold playS; simp only [e]; rfl
    rw [hps] at HP1 ⊢
    clear hps
    have q0 : ¬ k % 6 = 0 := by omega
    go_enter Try.func18, Try.ntmps18
    go_wp2_with fail
    generalize (w.alloc (.cells #[.int .u8 k, .int .i64 ar, .slice Ab m cb, .int .i64 n, .int .i64 mm] 39)) = V at h hr hb ⊢
    refine (wipe_any V h hok ar hsh0).mono ?_
    rintro e w2 ⟨rfl, hD, hbf⟩
    have HD := Lib.hid hD
    have HB := Lib.hid (hb.trans hbf)
    clear hD hbf
    go_wp2_with fail
    go_ret
    exact ⟨rfl, _, HD.out, HP1.out, HB.out⟩
  · have hps : playS s (k, ar, b, n, mm) = actS s (2, ar, []) := by unfold playS; simp only [e]; rfl
    rw [hps] at HP1 ⊢
    clear hps
    have q0 : ¬ k % 6 = 0 := by omega
    have q1 : ¬ k % 6 = 1 := by omega
    go_enter Try.func18, Try.ntmps18
    go_wp2_with fail
    generalize (w.alloc (.cells #[.int .u8 k, .int .i64 ar, .slice Ab m cb, .int .i64 n, .int .i64 mm] 39)) = V at h hr hb ⊢
    refine (front_any V h hok ar hsh0).mono ?_
    rintro e w2 ⟨rfl, hD, hbf⟩
    have HD := Lib.hid hD
    have HB := Lib.hid (hb.trans hbf)
    clear hD hbf
    go_wp2_with fail
    go_ret
    exact ⟨rfl, _, HD.out, HP1.out, HB.out⟩
  · have hps : playS s (k, ar, b, n, mm) = syncS s := by unfold playS; simp only [e]; rfl
    rw [hps] at HP1 ⊢
    clear hps
    have q0 : ¬ k % 6 = 0 := by omega
    have q1 : ¬ k % 6 = 1 := by omega
    have q2 : ¬ k % 6 = 2 := by omega
    go_enter Try.func18, Try.ntmps18
    go_wp2_with fail
    generalize (w.alloc (.cells #[.int .u8 k, .int .i64 ar, .slice Ab m cb, .int .i64 n, .int .i64 mm] 39)) = V at h hr hb ⊢
    refine (sync_any V h hok hlg _ _ rfl).mono ?_
    rintro e w2 ⟨rfl, hD, hbf⟩
    have HD := Lib.hid hD
    have HB := Lib.hid (hb.trans hbf)
    clear hD hbf
    go_wp2_with fail
    go_ret
    exact ⟨rfl, _, HD.out, HP1.out, HB.out⟩
  · have hps : playS s (k, ar, b, n, mm) = (0, armS s n) := by unfold playS; simp only [e]; rfl
    rw [hps] at HP1 ⊢
    clear hps
    have q0 : ¬ k % 6 = 0 := by omega
    have q1 : ¬ k % 6 = 1 := by omega
    have q2 : ¬ k % 6 = 2 := by omega
    have q3 : ¬ k % 6 = 3 := by omega
    go_enter Try.func18, Try.ntmps18
    go_wp2_with fail
    generalize (w.alloc (.cells #[.int .u8 k, .int .i64 ar, .slice Ab m cb, .int .i64 n, .int .i64 mm] 39)) = V at h hr hb ⊢
    refine (arm_any V h n).mono ?_
    rintro e w2 ⟨rfl, hD, hbf⟩
    have HD := Lib.hid hD
    have HB := Lib.hid (hb.trans hbf)
    clear hD hbf
    go_wp2_with fail
    go_ret
    exact ⟨rfl, _, HD.out, HP1.out, HB.out⟩
  · have hps : playS s (k, ar, b, n, mm) = (0, crashS s n mm) := by unfold playS; simp only [e]; rfl
    rw [hps] at HP1 ⊢
    clear hps
    have q0 : ¬ k % 6 = 0 := by omega
    have q1 : ¬ k % 6 = 1 := by omega
    have q2 : ¬ k % 6 = 2 := by omega
    have q3 : ¬ k % 6 = 3 := by omega
    have q4 : ¬ k % 6 = 4 := by omega
    go_enter Try.func18, Try.ntmps18
    go_wp2_with fail
    generalize (w.alloc (.cells #[.int .u8 k, .int .i64 ar, .slice Ab m cb, .int .i64 n, .int .i64 mm] 39)) = V at h hr hb ⊢
    refine (crash_any V h hlg n mm).mono ?_
    rintro e w2 ⟨rfl, hD, hbf⟩
    have HD := Lib.hid hD
    have HB := Lib.hid (hb.trans hbf)
    clear hD hbf
    go_wp2_with fail
    go_ret
    exact ⟨rfl, _, HD.out, HP1.out, HB.out⟩
end Go.Proofs.Ytjipjfionelpkaa.dk
