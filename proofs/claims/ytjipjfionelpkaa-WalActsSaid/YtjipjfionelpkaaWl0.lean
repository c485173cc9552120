/- Plain law: a disk that is up and not armed, under a log: its front area, how long all is. -/
import Derived.Test.YtjipjfionelpkaaDk15
import Derived.Test.YtjipjfionelpkaaFr3
import Derived.Test.YtjipjfionelpkaaFramePlain2
namespace Go.Proofs.Ytjipjfionelpkaa.wl
open Go.RowKit Go.Proofs.Ytjipjfionelpkaa.lib Go.Proofs.Ytjipjfionelpkaa.byt Go.Proofs.Ytjipjfionelpkaa.dk
set_option linter.unusedVariables false

def LenOk (s : DS) (M : Nat) : Prop := (∀ k, k < 4 → (s.by_ k).length + tot s.lo ≤ M) ∧ s.lo.length ≤ M ∧ ∀ p ∈ s.lo, GoodC p
/-- Up, not armed; area f in front, fr its bytes; nothing longer than M. -/
structure WS (s : DS) (f : Int) (fr : List UInt8) (M : Nat) : Prop where
  arm : s.arm = false
  down : s.down = false
  front : s.f1 = f
  area : f = 0 ∨ f = 1
  bytes : s.by_ (2 + f.toNat) = fr
  len : LenOk s M
theorem LenOk.long {s : DS} {M : Nat} (h : LenOk s M) (hM : M ≤ 1000000000) : LongOk s 0 :=
  ⟨fun k hk => by have := h.1 k hk; omega, by have := h.2.1; omega, good_of h.2.2⟩
theorem LenOk.short {s : DS} {M : Nat} (h : LenOk s M) (hM : M ≤ 1000000000) (x : Nat) (hx : x ≤ 1000000000) : ShortD s x :=
  ⟨fun k hk => by have := h.1 k hk; omega, by have := h.2.1; omega⟩
theorem tot_snoc (L : List Pk) (p : Pk) : tot (L ++ [p]) = tot L + p.2.2.length := by simp [tot]
theorem act_up {s : DS} {p : Pk} (ha : s.arm = false) (hd : s.down = false) (hp : p.2.1 = 0 ∨ p.2.1 = 1) : actS s p = (0, { doS 2 s p with lo := s.lo ++ [p] }) := by
  unfold actS
  rw [if_pos hp, if_neg (by rw [hd]; decide)]
  unfold chgS countS
  obtain ⟨l1, l2, l3, l4⟩ := doS_lo 2 s p
  rw [if_neg (by simp only [l2, ha]; decide)]
theorem sync_up {s : DS} (ha : s.arm = false) (hd : s.down = false) : syncS s = (0, { foldS 0 s s.lo with lo := [] }) := by
  unfold syncS
  rw [if_neg (by rw [hd]; decide)]
  unfold countS
  obtain ⟨l1, l2, l3, l4⟩ := foldS_same 0 s.lo s
  rw [if_neg (by simp only [l2, ha]; decide)]
theorem LenOk.act {s : DS} {M : Nat} (h : LenOk s M) {p : Pk} (hp : GoodC p) : LenOk { doS 2 s p with lo := s.lo ++ [p] } (M + 2 * p.2.2.length + 1) := by
  obtain ⟨h1, h2, h3⟩ := h
  refine ⟨fun k hk => ?_, ?_, fun x hx => ?_⟩
  · have := doS_len 2 s p k
    have := h1 k hk
    simp only [tot_snoc]
    omega
  · simp only [List.length_append, List.length_singleton]; omega
  · simp only [List.mem_append, List.mem_singleton] at hx
    rcases hx with hx | rfl
    · exact h3 x hx
    · exact hp
theorem LenOk.sync {s : DS} {M : Nat} (h : LenOk s M) : LenOk { foldS 0 s s.lo with lo := [] } M := by
  obtain ⟨h1, h2, h3⟩ := h
  refine ⟨fun k hk => ?_, Nat.zero_le _, fun x hx => by simp at hx⟩
  have := foldS_len 0 s.lo s k
  have := h1 k hk
  simp only [tot, List.map_nil, List.sum_nil]
  omega
/-- The areas as they are do not hang on what lasts. -/
theorem fold0_now (L : List Pk) (hL : ∀ p ∈ L, GoodC p) : ∀ (s : DS), (∀ k, 2 ≤ k → (foldS 0 s L).by_ k = s.by_ k) ∧ (foldS 0 s L).f1 = s.f1 := by
  induction L with
  | nil => intro s; exact ⟨fun k _ => rfl, rfl⟩
  | cons p L ih =>
    intro s
    obtain ⟨i1, i2⟩ := ih (fun x hx => hL x (List.mem_cons_of_mem _ hx)) (doS 0 s p)
    have hp := (hL p (List.mem_cons_self ..)).2
    have e : foldS 0 s (p :: L) = foldS 0 (doS 0 s p) L := rfl
    have j1 : ∀ k, 2 ≤ k → (doS 0 s p).by_ k = s.by_ k := fun k hk => by
      have hne : k ≠ 0 + p.2.1.toNat := by rcases hp with h | h <;> rw [h] <;> simp <;> omega
      unfold doS
      split
      · exact upd_ne _ _ hne
      · split
        · exact upd_ne _ _ hne
        · rfl
    have j2 : (doS 0 s p).f1 = s.f1 := by
      unfold doS
      split
      · rfl
      · split <;> rfl
    rw [e]
    exact ⟨fun k hk => (i1 k hk).trans (j1 k hk), i2.trans j2⟩
section
variable {s : DS} {f : Int} {fr : List UInt8} {M : Nat}
theorem WS.append (h : WS s f fr M) (b : List UInt8) : (actS s (0, f, b)).1 = 0 ∧ WS (actS s (0, f, b)).2 f (fr ++ b) (M + 2 * b.length + 1) := by
  have hp : GoodC (0, f, b) := ⟨.inl rfl, h.area⟩
  rw [act_up h.arm h.down h.area]
  obtain ⟨l1, l2, l3, l4⟩ := doS_lo 2 s (0, f, b)
  refine ⟨rfl, l2.trans h.arm, l4.trans h.down, ?_, h.area, ?_, h.len.act hp⟩
  · exact h.front
  · simp only [doS, if_true, upd_same, h.bytes]
theorem WS.sync (h : WS s f fr M) : (syncS s).1 = 0 ∧ WS (syncS s).2 f fr M := by
  rw [sync_up h.arm h.down]
  obtain ⟨l1, l2, l3, l4⟩ := foldS_same 0 s.lo s
  obtain ⟨i1, i2⟩ := fold0_now s.lo h.len.2.2 s
  refine ⟨rfl, l2.trans h.arm, l4.trans h.down, i2.trans h.front, h.area, (i1 _ (by omega)).trans h.bytes, h.len.sync⟩
/-- The states behind so many steps of replace, by which area o comes in front with the bytes b. -/
def rep1 (s : DS) (o : Int) : DS := (actS s (1, o, [])).2
def rep2 (s : DS) (o : Int) (b : List UInt8) : DS := (actS (rep1 s o) (0, o, b)).2
def rep3 (s : DS) (o : Int) (b : List UInt8) : DS := (syncS (rep2 s o b)).2
def rep4 (s : DS) (o : Int) (b : List UInt8) : DS := (actS (rep3 s o b) (2, o, [])).2
def rep5 (s : DS) (o : Int) (b : List UInt8) : DS := (syncS (rep4 s o b)).2
def rep (s : DS) (o : Int) (b : List UInt8) : Nat → DS
  | 0 => s
  | 1 => rep1 s o
  | 2 => rep2 s o b
  | 3 => rep3 s o b
  | 4 => rep4 s o b
  | _ => rep5 s o b
theorem rep_ok (h : WS s f fr M) (b : List UInt8) {o : Int} (ho : o = 1 - f) :
    (actS (rep s o b 0) (1, o, [])).1 = 0 ∧ (actS (rep s o b 1) (0, o, b)).1 = 0 ∧ (syncS (rep s o b 2)).1 = 0 ∧ (actS (rep s o b 3) (2, o, [])).1 = 0 ∧ (syncS (rep s o b 4)).1 = 0 ∧
    (∀ k, (rep s o b k).arm = false ∧ (rep s o b k).down = false ∧ LenOk (rep s o b k) (M + 2 * b.length + 3)) ∧ WS (rep s o b 5) o b (M + 2 * b.length + 3) := by
  have hoa : o = 0 ∨ o = 1 := by rcases h.area with e | e <;> omega
  have mono : ∀ {s : DS} {M M' : Nat}, LenOk s M → M ≤ M' → LenOk s M' := fun {s M M'} h hm => ⟨fun k hk => Nat.le_trans (h.1 k hk) hm, Nat.le_trans h.2.1 hm, h.2.2⟩
  have e1 := act_up (p := (1, o, [])) h.arm h.down hoa
  have r1 : rep s o b 1 = { doS 2 s (1, o, []) with lo := s.lo ++ [(1, o, [])] } := by show (actS s (1, o, [])).2 = _; rw [e1]
  have a1 : (rep s o b 1).arm = false := by rw [r1]; exact (doS_lo 2 s (1, o, [])).2.1.trans h.arm
  have d1 : (rep s o b 1).down = false := by rw [r1]; exact (doS_lo 2 s (1, o, [])).2.2.2.trans h.down
  have l1 : LenOk (rep s o b 1) (M + 1) := by rw [r1]; exact h.len.act (p := (1, o, [])) ⟨.inr (.inl rfl), hoa⟩
  have b1 : (rep s o b 1).by_ (2 + o.toNat) = [] := by rw [r1]; simp [doS, upd_same]
  have f1 : (rep s o b 1).f1 = s.f1 := by rw [r1]; simp [doS]
  have e2 := act_up (p := (0, o, b)) a1 d1 hoa
  have r2 : rep s o b 2 = { doS 2 (rep s o b 1) (0, o, b) with lo := (rep s o b 1).lo ++ [(0, o, b)] } := by show (actS (rep s o b 1) (0, o, b)).2 = _; rw [e2]
  have a2 : (rep s o b 2).arm = false := by rw [r2]; exact (doS_lo 2 _ _).2.1.trans a1
  have d2 : (rep s o b 2).down = false := by rw [r2]; exact (doS_lo 2 _ _).2.2.2.trans d1
  have l2 : LenOk (rep s o b 2) (M + 1 + 2 * b.length + 1) := by rw [r2]; exact l1.act (p := (0, o, b)) ⟨.inl rfl, hoa⟩
  have b2 : (rep s o b 2).by_ (2 + o.toNat) = b := by rw [r2]; simp only [doS, if_true, upd_same, b1, List.nil_append]
  have e3 := sync_up a2 d2
  have r3 : rep s o b 3 = { foldS 0 (rep s o b 2) (rep s o b 2).lo with lo := [] } := by show (syncS (rep s o b 2)).2 = _; rw [e3]
  obtain ⟨m1, m2, m3, m4⟩ := foldS_same 0 (rep s o b 2).lo (rep s o b 2)
  have n3 := fold0_now _ l2.2.2 (rep s o b 2)
  have a3 : (rep s o b 3).arm = false := by rw [r3]; exact m2.trans a2
  have d3 : (rep s o b 3).down = false := by rw [r3]; exact m4.trans d2
  have l3 : LenOk (rep s o b 3) (M + 1 + 2 * b.length + 1) := by rw [r3]; exact l2.sync
  have b3 : (rep s o b 3).by_ (2 + o.toNat) = b := by rw [r3]; exact (n3.1 _ (by omega)).trans b2
  have e4 := act_up (p := (2, o, [])) a3 d3 hoa
  have r4 : rep s o b 4 = { doS 2 (rep s o b 3) (2, o, []) with lo := (rep s o b 3).lo ++ [(2, o, [])] } := by show (actS (rep s o b 3) (2, o, [])).2 = _; rw [e4]
  have a4 : (rep s o b 4).arm = false := by rw [r4]; exact (doS_lo 2 _ _).2.1.trans a3
  have d4 : (rep s o b 4).down = false := by rw [r4]; exact (doS_lo 2 _ _).2.2.2.trans d3
  have l4 : LenOk (rep s o b 4) (M + 1 + 2 * b.length + 1 + 1) := by rw [r4]; exact l3.act (p := (2, o, [])) ⟨.inr (.inr rfl), hoa⟩
  have b4 : (rep s o b 4).by_ (2 + o.toNat) = b := by rw [r4]; simpa [doS] using b3
  have f4 : (rep s o b 4).f1 = o := by rw [r4]; simp [doS]
  have e5 := sync_up a4 d4
  have r5 : rep s o b 5 = { foldS 0 (rep s o b 4) (rep s o b 4).lo with lo := [] } := by show (syncS (rep s o b 4)).2 = _; rw [e5]
  obtain ⟨p1, p2, p3, p4⟩ := foldS_same 0 (rep s o b 4).lo (rep s o b 4)
  have n5 := fold0_now _ l4.2.2 (rep s o b 4)
  have w5 : WS (rep s o b 5) o b (M + 2 * b.length + 3) := by
    rw [r5]
    exact ⟨p2.trans a4, p4.trans d4, n5.2.trans f4, hoa, (n5.1 _ (by omega)).trans b4, mono l4.sync (by omega)⟩
  refine ⟨by show (actS s (1, o, [])).1 = 0; rw [e1], by rw [e2], by rw [e3], by rw [e4], by rw [e5], fun k => ?_, w5⟩
  rcases k with _ | _ | _ | _ | _ | k
  · exact ⟨h.arm, h.down, mono h.len (by omega)⟩
  · exact ⟨a1, d1, mono l1 (by omega)⟩
  · exact ⟨a2, d2, mono l2 (by omega)⟩
  · exact ⟨a3, d3, mono l3 (by omega)⟩
  · exact ⟨a4, d4, mono l4 (by omega)⟩
  · have e : rep s o b (k + 1 + 1 + 1 + 1 + 1) = rep s o b 5 := by rcases k with _ | k <;> rfl
    rw [e]
    exact ⟨w5.arm, w5.down, w5.len⟩
theorem WS.new : WS newS 0 [] 0 := ⟨rfl, rfl, rfl, .inl rfl, rfl, fun k _ => by simp [newS, tot], Nat.le_refl _, fun p hp => by simp [newS] at hp⟩
theorem WS.mono {M' : Nat} (h : WS s f fr M) (hm : M ≤ M') : WS s f fr M' := ⟨h.arm, h.down, h.front, h.area, h.bytes, fun k hk => Nat.le_trans (h.len.1 k hk) hm, Nat.le_trans h.len.2.1 hm, h.len.2.2⟩
theorem WS.ok (h : WS s f fr M) : OkS s := ok_off h.arm
theorem WS.read (h : WS s f fr M) : (fr, (0 : Int)) = readS s f := by
  unfold readS
  rw [if_pos h.area, if_neg (by rw [h.down]; decide), h.bytes]
theorem WS.firstOf (h : WS s f fr M) : (f, (0 : Int)) = if s.down = true then (0, 4) else (s.f1, 0) := by rw [if_neg (by rw [h.down]; decide), h.front]
end
end Go.Proofs.Ytjipjfionelpkaa.wl
