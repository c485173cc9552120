/- Plain law: a disk by all that lasts and all that is loose, and a disk by its areas: they stay of one mind. No program here. -/
import Derived.Test.YtjipjfionelpkaaDk16
namespace Go.Proofs.Ytjipjfionelpkaa.dk
open Go.RowKit Go.Proofs.Ytjipjfionelpkaa.lib Go.Proofs.Ytjipjfionelpkaa.byt
set_option linter.unusedVariables false

structure RS where
  safe : List Ac
  loose : List Ac
  left : Int
  armed : Bool
  down : Bool
def newR : RS := { safe := [], loose := [], left := 0, armed := false, down := false }
def cutA (torn : Int) (a : Ac) : Ac := (a.1, a.2.1, a.2.2.1.take torn.toNat, a.2.2.2.1, a.2.2.2.2)
def keepR (r : RS) (keep : Int) : Nat := (min (max keep 0) r.loose.length).toNat
/-- What lasts behind a crash of what was loose. -/
def crashL (r : RS) (keep torn : Int) : List Ac :=
  match r.loose[keepR r keep]? with
  | some a => if a.1 = 0 ∧ 0 < torn then r.loose.take (keepR r keep) ++ [cutA torn a] else r.loose.take (keepR r keep)
  | none => r.loose.take (keepR r keep)
def crashR (r : RS) (keep torn : Int) : RS := { safe := r.safe ++ crashL r keep torn, loose := [], left := 0, armed := false, down := false }
def countR (r : RS) : RS := if r.armed = true then (if r.left = 1 then { r with left := 0, down := true } else { r with left := r.left - 1 }) else r
def ofKind (a : Ac) (k : Int) : Ac := (k, a.2)
def doR (r : RS) (a : Ac) : RS × Int :=
  if a.1 % 6 = 4 then (if r.down = true then r else { r with armed := decide (0 ≤ a.2.2.2.1), left := a.2.2.2.1, down := decide (a.2.2.2.1 = 0) }, 0)
  else if a.1 % 6 = 5 then (crashR r a.2.2.2.1 a.2.2.2.2, 0)
  else if a.1 % 6 < 3 ∧ a.2.1 ≠ 0 ∧ a.2.1 ≠ 1 then (r, 1)
  else if r.down = true then (r, 4)
  else if a.1 % 6 = 3 then (countR { r with safe := r.safe ++ r.loose, loose := [] }, 0)
  else (countR { r with loose := r.loose ++ [ofKind a (a.1 % 6)] }, 0)
def stB (area : Int) (out : List UInt8) (a : Ac) : List UInt8 := if a.1 = 2 then out else if a.2.1 = area ∧ a.1 = 1 then [] else if a.2.1 = area then out ++ a.2.2.1 else out
def stF (f : Int) (a : Ac) : Int := if a.1 = 2 then a.2.1 else f
def evB (L : List Ac) (area : Int) : List UInt8 := L.foldl (stB area) []
def evF (L : List Ac) : Int := L.foldl stF 0
def toPk (a : Ac) : Pk := (a.1, a.2.1, if a.1 = 0 then a.2.2.1 else [])
def GoodA (a : Ac) : Prop := (a.1 = 0 ∨ a.1 = 1 ∨ a.1 = 2) ∧ (a.2.1 = 0 ∨ a.2.1 = 1)
structure Rel (s : DS) (r : RS) : Prop where
  lo : s.lo = r.loose.map toPk
  down : s.down = r.down
  arm : s.down = false → s.arm = r.armed ∧ (r.armed = true → s.left = r.left ∧ 0 < r.left ∧ r.left ≤ 9223372036854775807)
  ok : OkS s
  good : ∀ a ∈ r.safe ++ r.loose, GoodA a
  b0 : s.by_ 0 = evB r.safe 0
  b1 : s.by_ 1 = evB r.safe 1
  f0 : s.f0 = evF r.safe
  b2 : s.by_ 2 = evB (r.safe ++ r.loose) 0
  b3 : s.by_ 3 = evB (r.safe ++ r.loose) 1
  f1 : s.f1 = evF (r.safe ++ r.loose)
theorem rel_new : Rel newS newR := ⟨rfl, rfl, fun _ => ⟨rfl, fun h => (by cases h)⟩, fun h => (by cases h), fun a h => (by simp [newR] at h), rfl, rfl, rfl, rfl, rfl, rfl⟩
theorem doS_by0 (s : DS) (a : Ac) (h : GoodA a) : (doS 0 s (toPk a)).by_ 0 = stB 0 (s.by_ 0) a ∧ (doS 0 s (toPk a)).by_ 1 = stB 1 (s.by_ 1) a ∧ (doS 0 s (toPk a)).f0 = stF s.f0 a ∧ (doS 0 s (toPk a)).by_ 2 = s.by_ 2 ∧ (doS 0 s (toPk a)).by_ 3 = s.by_ 3 ∧ (doS 0 s (toPk a)).f1 = s.f1 := by
  obtain ⟨k, ar, b, n, m⟩ := a
  obtain ⟨h1, h2⟩ := h
  simp only at h1 h2
  rcases h1 with rfl | rfl | rfl <;> rcases h2 with rfl | rfl <;> simp [doS, toPk, stB, stF, upd]
theorem doS_by2 (s : DS) (a : Ac) (h : GoodA a) : (doS 2 s (toPk a)).by_ 2 = stB 0 (s.by_ 2) a ∧ (doS 2 s (toPk a)).by_ 3 = stB 1 (s.by_ 3) a ∧ (doS 2 s (toPk a)).f1 = stF s.f1 a ∧ (doS 2 s (toPk a)).by_ 0 = s.by_ 0 ∧ (doS 2 s (toPk a)).by_ 1 = s.by_ 1 ∧ (doS 2 s (toPk a)).f0 = s.f0 := by
  obtain ⟨k, ar, b, n, m⟩ := a
  obtain ⟨h1, h2⟩ := h
  simp only at h1 h2
  rcases h1 with rfl | rfl | rfl <;> rcases h2 with rfl | rfl <;> simp [doS, toPk, stB, stF, upd]
theorem foldS_by0 (L : List Ac) : ∀ (s : DS), (∀ a ∈ L, GoodA a) → (foldS 0 s (L.map toPk)).by_ 0 = L.foldl (stB 0) (s.by_ 0) ∧ (foldS 0 s (L.map toPk)).by_ 1 = L.foldl (stB 1) (s.by_ 1) ∧ (foldS 0 s (L.map toPk)).f0 = L.foldl stF s.f0 ∧ (foldS 0 s (L.map toPk)).by_ 2 = s.by_ 2 ∧ (foldS 0 s (L.map toPk)).by_ 3 = s.by_ 3 ∧ (foldS 0 s (L.map toPk)).f1 = s.f1 := by
  induction L with
  | nil => intro s _; exact ⟨rfl, rfl, rfl, rfl, rfl, rfl⟩
  | cons a L ih =>
    intro s h
    obtain ⟨i1, i2, i3, i4, i5, i6⟩ := ih (doS 0 s (toPk a)) fun x hx => h x (List.mem_cons_of_mem _ hx)
    obtain ⟨j1, j2, j3, j4, j5, j6⟩ := doS_by0 s a (h a (List.mem_cons_self ..))
    have e : foldS 0 s ((a :: L).map toPk) = foldS 0 (doS 0 s (toPk a)) (L.map toPk) := rfl
    rw [e]
    simp only [List.foldl_cons]
    rw [← j1, ← j2, ← j3]
    exact ⟨i1, i2, i3, i4.trans j4, i5.trans j5, i6.trans j6⟩
theorem evB_append (L M : List Ac) (k : Int) : evB (L ++ M) k = M.foldl (stB k) (evB L k) := by unfold evB; rw [List.foldl_append]
theorem evF_append (L M : List Ac) : evF (L ++ M) = M.foldl stF (evF L) := by unfold evF; rw [List.foldl_append]

def playS (s : DS) (a : Ac) : Int × DS :=
  if a.1 % 6 = 0 then actS s (0, a.2.1, a.2.2.1)
  else if a.1 % 6 = 1 then actS s (1, a.2.1, [])
  else if a.1 % 6 = 2 then actS s (2, a.2.1, [])
  else if a.1 % 6 = 3 then syncS s
  else if a.1 % 6 = 4 then (0, armS s a.2.2.2.1)
  else (0, crashS s a.2.2.2.1 a.2.2.2.2)

theorem rel_count {s : DS} {r : RS} (h : Rel s r) (hd : r.down = false) : Rel (countS s) (countR r) := by
  have hsd : s.down = false := h.down.trans hd
  obtain ⟨ha, hl⟩ := h.arm hsd
  unfold countS countR
  rw [ha]
  by_cases e : r.armed = true
  · obtain ⟨l1, l2, l3⟩ := hl e
    rw [if_pos e, if_pos e, l1]
    by_cases e1 : r.left = 1
    · rw [if_pos e1, if_pos e1]
      exact ⟨h.lo, rfl, fun h => (by cases h), fun h => (by cases h), h.good, h.b0, h.b1, h.f0, h.b2, h.b3, h.f1⟩
    · rw [if_neg e1, if_neg e1]
      refine ⟨h.lo, h.down, fun _ => ⟨rfl, fun _ => ⟨rfl, ?_, ?_⟩⟩, fun _ => ⟨?_, ?_⟩, h.good, h.b0, h.b1, h.f0, h.b2, h.b3, h.f1⟩ <;> simp only <;> omega
  · rw [if_neg e, if_neg e]
    exact h
theorem rel_act {s : DS} {r : RS} (h : Rel s r) (a : Ac) (k : Int) (hk : k = 0 ∨ k = 1 ∨ k = 2) (ha : a.2.1 = 0 ∨ a.2.1 = 1) (hd : r.down = false) (b : List UInt8) (hb : b = if k = 0 then a.2.2.1 else []) :
    Rel (chgS s (k, a.2.1, b)) (countR { r with loose := r.loose ++ [ofKind a k] }) := by
  have hg : GoodA (ofKind a k) := ⟨hk, ha⟩
  have ep : (k, a.2.1, b) = toPk (ofKind a k) := by rw [hb]; rfl
  obtain ⟨i1, i2, i3, i4, i5, i6⟩ := doS_by2 s _ hg
  obtain ⟨l1, l2, l3, l4⟩ := doS_lo 2 s (toPk (ofKind a k))
  unfold chgS
  rw [ep]
  refine rel_count (r := { r with loose := r.loose ++ [ofKind a k] }) ⟨?_, ?_, fun e => ?_, fun e => ?_, fun x hx => ?_, ?_, ?_, ?_, ?_, ?_, ?_⟩ hd
  · simp only [List.map_append, List.map_cons, List.map_nil, h.lo]
  · exact l4.trans h.down
  · have := h.arm (h.down.trans hd)
    simp only [l2, l3]
    exact this
  · have := h.ok (l2 ▸ e)
    simp only [l3]
    exact this
  · simp only [← List.append_assoc, List.mem_append, List.mem_singleton] at hx
    rcases hx with hx | rfl
    · exact h.good x (List.mem_append.2 hx)
    · exact hg
  · exact i4.trans h.b0
  · exact i5.trans h.b1
  · exact i6.trans h.f0
  · simp only [← List.append_assoc]; rw [evB_append, ← h.b2]; exact i1
  · simp only [← List.append_assoc]; rw [evB_append, ← h.b3]; exact i2
  · simp only [← List.append_assoc]; rw [evF_append, ← h.f1]; exact i3
theorem rel_sync {s : DS} {r : RS} (h : Rel s r) (hd : r.down = false) : Rel (countS { foldS 0 s s.lo with lo := [] }) (countR { r with safe := r.safe ++ r.loose, loose := [] }) := by
  obtain ⟨i1, i2, i3, i4, i5, i6⟩ := foldS_by0 r.loose s fun x hx => h.good x (List.mem_append.2 (.inr hx))
  obtain ⟨l1, l2, l3, l4⟩ := foldS_same 0 (r.loose.map toPk) s
  rw [h.lo]
  refine rel_count (r := { r with safe := r.safe ++ r.loose, loose := [] }) ⟨rfl, l4.trans h.down, fun e => ?_, fun e => ?_, fun x hx => h.good x (by simpa using hx), ?_, ?_, ?_, ?_, ?_, ?_⟩ hd
  · have := h.arm (h.down.trans hd)
    simp only [l2, l3]
    exact this
  · have := h.ok (l2 ▸ e)
    simp only [l3]
    exact this
  · simp only [evB_append]; rw [← h.b0]; exact i1
  · simp only [evB_append]; rw [← h.b1]; exact i2
  · simp only [evF_append]; rw [← h.f0]; exact i3
  · simp only [List.append_nil]; exact i4.trans h.b2
  · simp only [List.append_nil]; exact i5.trans h.b3
  · simp only [List.append_nil]; exact i6.trans h.f1
/-- A disk of which only what lasts is left. -/
theorem rel_fresh {s : DS} (L : List Ac) (hg : ∀ a ∈ L, GoodA a) (h0 : s.by_ 0 = evB L 0) (h1 : s.by_ 1 = evB L 1) (hf : s.f0 = evF L) : Rel (freshS s) { safe := L, loose := [], left := 0, armed := false, down := false } :=
  ⟨rfl, rfl, fun _ => ⟨rfl, fun h => (by cases h)⟩, fun h => (by cases h), fun a ha => hg a (by simpa using ha), h0, h1, hf, by simp only [List.append_nil]; exact h0, by simp only [List.append_nil]; exact h1, by simp only [List.append_nil]; exact hf⟩
theorem rel_crash {s : DS} {r : RS} (h : Rel s r) (keep torn : Int) : Rel (crashS s keep torn) (crashR r keep torn) := by
  have hkk : keepN s keep = keepR r keep := by unfold keepN keepR; rw [h.lo, List.length_map]
  have hgl : ∀ x ∈ r.loose, GoodA x := fun x hx => h.good x (List.mem_append.2 (.inr hx))
  have hgs : ∀ x ∈ r.safe, GoodA x := fun x hx => h.good x (List.mem_append.2 (.inl hx))
  have hgt : ∀ x ∈ r.loose.take (keepR r keep), GoodA x := fun x hx => hgl x (List.mem_of_mem_take hx)
  obtain ⟨i1, i2, i3, _, _, _⟩ := foldS_by0 (r.loose.take (keepR r keep)) s hgt
  have et : s.lo.take (keepN s keep) = (r.loose.take (keepR r keep)).map toPk := by rw [hkk, h.lo, List.map_take]
  have key : ∀ L : List Ac, (∀ a ∈ L, GoodA a) → (lastS s keep torn).by_ 0 = L.foldl (stB 0) (s.by_ 0) → (lastS s keep torn).by_ 1 = L.foldl (stB 1) (s.by_ 1) → (lastS s keep torn).f0 = L.foldl stF s.f0 → Rel (crashS s keep torn) { safe := r.safe ++ L, loose := [], left := 0, armed := false, down := false } := fun L hL a b c => by
    refine rel_fresh (r.safe ++ L) (fun x hx => ?_) ?_ ?_ ?_
    · rcases List.mem_append.1 hx with h1 | h1
      · exact hgs x h1
      · exact hL x h1
    · rw [evB_append, ← h.b0]; exact a
    · rw [evB_append, ← h.b1]; exact b
    · rw [evF_append, ← h.f0]; exact c
  unfold crashR crashL
  rw [← et] at i1 i2 i3
  cases e : r.loose[keepR r keep]? with
  | none =>
    have el : lastS s keep torn = foldS 0 s (s.lo.take (keepN s keep)) := by
      unfold lastS
      rw [h.lo, List.getElem?_map, hkk, e]
      rfl
    exact key _ hgt (by rw [el]; exact i1) (by rw [el]; exact i2) (by rw [el]; exact i3)
  | some a =>
    have hga : GoodA a := hgl a (List.mem_of_getElem? e)
    have el : lastS s keep torn = if a.1 = 0 then doS 0 (foldS 0 s (s.lo.take (keepN s keep))) (0, a.2.1, cutB torn (if a.1 = 0 then a.2.2.1 else [])) else foldS 0 s (s.lo.take (keepN s keep)) := by
      unfold lastS
      conv => lhs; rw [show s.lo[keepN s keep]? = some (toPk a) by rw [h.lo, List.getElem?_map, hkk, e]; rfl]
      rfl
    simp only
    by_cases h0 : a.1 = 0
    · rw [if_pos h0, if_pos h0] at el
      by_cases ht : 0 < torn
      · rw [if_pos ⟨h0, ht⟩]
        have hgc : GoodA (cutA torn a) := hga
        obtain ⟨j1, j2, j3, _, _, _⟩ := doS_by0 (foldS 0 s (s.lo.take (keepN s keep))) (cutA torn a) hgc
        have ep : (0, a.2.1, cutB torn a.2.2.1) = toPk (cutA torn a) := by
          unfold toPk cutA cutB
          simp only [h0, if_true]
          congr 2
          rw [show (min (max torn 0) (a.2.2.1.length : Int)).toNat = min torn.toNat a.2.2.1.length by omega]
          exact List.take_eq_take_min.symm
        rw [ep] at el
        refine key _ (fun x hx => ?_) ?_ ?_ ?_
        · rcases List.mem_append.1 hx with h1 | h1
          · exact hgt x h1
          · rw [List.mem_singleton.1 h1]; exact hgc
        · rw [el, List.foldl_append, ← i1]; exact j1
        · rw [el, List.foldl_append, ← i2]; exact j2
        · rw [el, List.foldl_append, ← i3]; exact j3
      · rw [if_neg (fun h => ht h.2)]
        have ec : cutB torn a.2.2.1 = [] := by
          unfold cutB
          rw [show (min (max torn 0) (a.2.2.1.length : Int)).toNat = 0 by omega]
          rfl
        rw [ec] at el
        obtain ⟨j1, j2, j3, _, _, _⟩ := doS_by0 (foldS 0 s (s.lo.take (keepN s keep))) (0, a.2.1, [], 0, 0) ⟨.inl rfl, hga.2⟩
        have ep : toPk (0, a.2.1, [], 0, 0) = (0, a.2.1, []) := rfl
        rw [ep] at j1 j2 j3
        have n1 : ∀ (k : Int) (x : List UInt8), stB k x (0, a.2.1, [], 0, 0) = x := fun k x => by simp [stB]
        have n2 : ∀ (x : Int), stF x (0, a.2.1, [], 0, 0) = x := fun x => by simp [stF]
        rw [n1] at j1 j2
        rw [n2] at j3
        exact key _ hgt (by rw [el, j1]; exact i1) (by rw [el, j2]; exact i2) (by rw [el, j3]; exact i3)
    · rw [if_neg h0] at el
      rw [if_neg (fun h => h0 h.1)]
      exact key _ hgt (by rw [el]; exact i1) (by rw [el]; exact i2) (by rw [el]; exact i3)
theorem rel_arm {s : DS} {r : RS} (h : Rel s r) (n : Int) (hn : n ≤ 9223372036854775807) : Rel (armS s n) (if r.down = true then r else { r with armed := decide (0 ≤ n), left := n, down := decide (n = 0) }) := by
  unfold armS
  rw [h.down]
  by_cases e : r.down = true
  · rw [if_pos e, if_pos e]; exact h
  · rw [if_neg e, if_neg e]
    refine ⟨h.lo, rfl, fun e2 => ?_, fun e2 => ?_, h.good, h.b0, h.b1, h.f0, h.b2, h.b3, h.f1⟩
    · simp only [decide_eq_false_iff_not] at e2
      refine ⟨?_, fun e3 => ?_⟩
      · simp only
        congr 1
        rw [eq_iff_iff]
        omega
      · simp only [decide_eq_true_eq] at e3
        simp only
        omega
    · simp only [decide_eq_true_eq] at e2
      simp only
      omega
theorem rel_play {s : DS} {r : RS} (h : Rel s r) (a : Ac) (h0 : 0 ≤ a.1) (hn : a.2.2.2.1 ≤ 9223372036854775807) : Rel (playS s a).2 (doR r a).1 ∧ (playS s a).1 = (doR r a).2 := by
  have hact : ∀ (k : Int) (b : List UInt8), a.1 % 6 = k → (k = 0 ∨ k = 1 ∨ k = 2) → b = (if k = 0 then a.2.2.1 else []) → Rel (actS s (k, a.2.1, b)).2 (doR r a).1 ∧ (actS s (k, a.2.1, b)).1 = (doR r a).2 := fun k b hk hk3 hb => by
    unfold actS doR
    rw [hk]
    rw [if_neg (show ¬ k = 4 by omega), if_neg (show ¬ k = 5 by omega)]
    simp only
    by_cases ha : a.2.1 = 0 ∨ a.2.1 = 1
    · rw [if_pos ha, if_neg (show ¬ (k < 3 ∧ a.2.1 ≠ 0 ∧ a.2.1 ≠ 1) by omega), h.down]
      by_cases hd : r.down = true
      · rw [if_pos hd, if_pos hd]; exact ⟨h, rfl⟩
      · rw [if_neg hd, if_neg hd, if_neg (show ¬ k = 3 by omega)]
        exact ⟨rel_act h a k hk3 ha (by simpa using hd) b hb, rfl⟩
    · rw [if_neg ha, if_pos (show k < 3 ∧ a.2.1 ≠ 0 ∧ a.2.1 ≠ 1 by omega)]
      exact ⟨h, rfl⟩
  have h6 : a.1 % 6 = 0 ∨ a.1 % 6 = 1 ∨ a.1 % 6 = 2 ∨ a.1 % 6 = 3 ∨ a.1 % 6 = 4 ∨ a.1 % 6 = 5 := by omega
  unfold playS
  rcases h6 with e | e | e | e | e | e
  · rw [if_pos e]; exact hact 0 _ e (.inl rfl) rfl
  · rw [if_neg (by omega), if_pos e]; exact hact 1 _ e (.inr (.inl rfl)) rfl
  · rw [if_neg (by omega), if_neg (by omega), if_pos e]; exact hact 2 _ e (.inr (.inr rfl)) rfl
  · rw [if_neg (by omega), if_neg (by omega), if_neg (by omega), if_pos e]
    unfold syncS doR
    rw [if_neg (show ¬ a.1 % 6 = 4 by omega), if_neg (show ¬ a.1 % 6 = 5 by omega), if_neg (show ¬ (a.1 % 6 < 3 ∧ a.2.1 ≠ 0 ∧ a.2.1 ≠ 1) by omega), h.down]
    by_cases hd : r.down = true
    · rw [if_pos hd, if_pos hd]; exact ⟨h, rfl⟩
    · rw [if_neg hd, if_neg hd, if_pos e]
      exact ⟨rel_sync h (by simpa using hd), rfl⟩
  · rw [if_neg (by omega), if_neg (by omega), if_neg (by omega), if_neg (by omega), if_pos e]
    unfold doR
    rw [if_pos e]
    exact ⟨rel_arm h _ hn, rfl⟩
  · rw [if_neg (by omega), if_neg (by omega), if_neg (by omega), if_neg (by omega), if_neg (by omega)]
    unfold doR
    rw [if_neg (show ¬ a.1 % 6 = 4 by omega), if_pos e]
    exact ⟨rel_crash h _ _, rfl⟩

/-! ### sizes -/
def totA (L : List Ac) : Nat := (L.map fun a => a.2.2.1.length).sum
theorem totA_append (L M : List Ac) : totA (L ++ M) = totA L + totA M := by simp [totA]
theorem stB_len (k : Int) (x : List UInt8) (a : Ac) : (stB k x a).length ≤ x.length + a.2.2.1.length := by
  unfold stB
  split
  · omega
  · split
    · simp
    · split
      · simp
      · omega
theorem foldB_len (k : Int) (L : List Ac) : ∀ x, (L.foldl (stB k) x).length ≤ x.length + totA L := by
  induction L with
  | nil => intro x; simp [totA]
  | cons a L ih =>
    intro x
    have h1 := ih (stB k x a)
    have h2 := stB_len k x a
    simp only [List.foldl_cons, totA, List.map_cons, List.sum_cons] at h1 ⊢
    omega
theorem evB_len (L : List Ac) (k : Int) : (evB L k).length ≤ totA L := by have := foldB_len k L []; simpa [evB] using this
theorem tot_toPk (L : List Ac) : tot (L.map toPk) ≤ totA L := by
  induction L with
  | nil => simp [tot, totA]
  | cons a L ih =>
    have : (toPk a).2.2.length ≤ a.2.2.1.length := by unfold toPk; simp only; split <;> simp
    simp only [tot, totA, List.map_cons, List.sum_cons, List.map_map] at ih ⊢
    omega
/-- Few bytes in all, few loose changes. -/
def SizeR (r : RS) (M : Nat) : Prop := totA (r.safe ++ r.loose) ≤ M ∧ r.loose.length ≤ M
theorem Rel.short {s : DS} {r : RS} (h : Rel s r) {M : Nat} (hz : SizeR r M) (hM : M ≤ 1000000000) (x : Nat) (hx : x ≤ 1000000000) : ShortD s x ∧ LongOk s 0 := by
  obtain ⟨z1, z2⟩ := hz
  have h1 := totA_append r.safe r.loose
  have hk : ∀ k, k < 4 → (s.by_ k).length ≤ M := fun k hk => by
    rcases k with _ | _ | _ | _ | k
    · rw [h.b0]; have := evB_len r.safe 0; omega
    · rw [h.b1]; have := evB_len r.safe 1; omega
    · rw [h.b2]; have := evB_len (r.safe ++ r.loose) 0; omega
    · rw [h.b3]; have := evB_len (r.safe ++ r.loose) 1; omega
    · omega
  have hl : s.lo.length = r.loose.length := by rw [h.lo, List.length_map]
  have ht : tot s.lo ≤ M := by rw [h.lo]; have := tot_toPk r.loose; omega
  refine ⟨⟨fun k hk4 => by have := hk k hk4; omega, by omega⟩, fun k hk4 => by have := hk k hk4; omega, by omega, good_of fun p hp => ?_⟩
  rw [h.lo, List.mem_map] at hp
  obtain ⟨a, ha, rfl⟩ := hp
  exact h.good a (List.mem_append.2 (.inr ha))
theorem totA_take (L : List Ac) (k : Nat) : totA (L.take k) ≤ totA L := by
  have := totA_append (L.take k) (L.drop k)
  rw [List.take_append_drop] at this
  omega
theorem crashL_tot (r : RS) (keep torn : Int) : totA (crashL r keep torn) ≤ totA r.loose := by
  unfold crashL
  cases e : r.loose[keepR r keep]? with
  | none => exact totA_take _ _
  | some a =>
    simp only
    split
    · obtain ⟨hk, ha⟩ := List.getElem?_eq_some_iff.1 e
      have h1 := totA_append (r.loose.take (keepR r keep)) (r.loose.drop (keepR r keep))
      rw [List.take_append_drop, ← List.getElem_cons_drop hk, ha] at h1
      rw [totA_append]
      have h2 : totA [cutA torn a] ≤ a.2.2.1.length := by simp [totA, cutA]; omega
      simp only [totA, List.map_cons, List.sum_cons] at h1 h2 ⊢
      omega
    · exact totA_take _ _
theorem countR_same (r : RS) : (countR r).safe = r.safe ∧ (countR r).loose = r.loose := by
  unfold countR
  split
  · split <;> exact ⟨rfl, rfl⟩
  · exact ⟨rfl, rfl⟩
theorem SizeR.step {r : RS} {M : Nat} (hz : SizeR r M) (a : Ac) (x : Nat) (hx : a.2.2.1.length + 1 ≤ x) : SizeR (doR r a).1 (M + x) := by
  obtain ⟨z1, z2⟩ := hz
  have same : SizeR r (M + x) := ⟨by omega, by omega⟩
  unfold doR
  split
  · simp only
    split
    · exact same
    · exact same
  · split
    · have h1 := crashL_tot r a.2.2.2.1 a.2.2.2.2
      have h2 := totA_append r.safe r.loose
      refine ⟨?_, Nat.zero_le _⟩
      simp only [crashR, List.append_nil, totA_append]
      omega
    · split
      · exact same
      · split
        · exact same
        · split
          · obtain ⟨c1, c2⟩ := countR_same { r with safe := r.safe ++ r.loose, loose := [] }
            refine ⟨?_, ?_⟩
            · simp only; rw [c1, c2]; simp only [List.append_nil]; omega
            · simp only; rw [c2]; simp
          · obtain ⟨c1, c2⟩ := countR_same { r with loose := r.loose ++ [ofKind a (a.1 % 6)] }
            refine ⟨?_, ?_⟩
            · simp only; rw [c1, c2]; simp only [← List.append_assoc]; rw [totA_append]
              have : totA [ofKind a (a.1 % 6)] = a.2.2.1.length := by simp [totA, ofKind]
              omega
            · simp only; rw [c2]; simp; omega
end Go.Proofs.Ytjipjfionelpkaa.dk
