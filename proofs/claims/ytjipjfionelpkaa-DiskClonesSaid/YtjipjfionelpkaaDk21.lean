/- Begins of bytes; plain law of a crash of bytes that were appended to one area. -/
import Derived.Test.YtjipjfionelpkaaDk20
namespace Go.Proofs.Ytjipjfionelpkaa.dk
open Go.RowKit Go.Proofs.Ytjipjfionelpkaa.lib Go.Proofs.Ytjipjfionelpkaa.byt
set_option linter.unusedVariables false

theorem begins_any (w : World) {B1 B2 : Nat} {A1 A2 : Option Addr} {n1 c1 n2 c2 : Nat} {bs as_ : List UInt8} (hn1 : n1 = bs.length) (hn2 : n2 = as_.length) (hb : RdB w B1 A1 bs) (ha : RdB w B2 A2 as_) (hc : n1 ≤ c1) (hs : bs.length ≤ 1099511627776) (hp : as_ <+: bs) :
    Calls Try.prog 25 #[.slice A1 n1 c1, .slice A2 n2 c2] w fun e w' => e = .returned (.bool true) ∧ ∃ nq, w' = w.drewN nq := by
  have hl : n2 ≤ n1 := by rw [hn1, hn2]; exact hp.length_le
  have he : as_ = bs.take n2 := by rw [hn2]; exact List.prefix_iff_eq_take.1 hp
  have hS := same_any w (n1 := n2) (c1 := c2) (n2 := n2) (c2 := c1) (xs := as_) (bs := bs.take n2) hn2 (by rw [← he]; exact hn2) ha (rd_take hb (by omega)) (by have := hp.length_le; omega) (by rw [List.length_take]; omega)
  rw [decide_eq_true he] at hS
  have HS := Lib.hid hS
  have hlc : n2 ≤ c1 := by omega
  have hli : (n2 : Int) ≤ n1 := by omega
  have hlci : (n2 : Int) ≤ c1 := by omega
  clear hS hn1 hn2 he hp hb ha
  go_enter Try.func25, Try.ntmps25
  go_wp2_with fail
  refine HS.out.mono ?_
  rintro e w' ⟨rfl, nq, rfl⟩
  go_wp2_with fail
  go_ret
  exact ⟨rfl, nq, rfl⟩

def appL (M : List (List UInt8)) : List Ac := M.map fun b => (0, 1, b, 0, 0)
theorem fold_app (M : List (List UInt8)) : (∀ x, (appL M).foldl (stB 1) x = x ++ M.flatten) ∧ (∀ x, (appL M).foldl (stB 0) x = x) ∧ (∀ f, (appL M).foldl stF f = f) := by
  induction M with
  | nil => exact ⟨fun x => by simp [appL], fun x => rfl, fun f => rfl⟩
  | cons b M ih =>
    obtain ⟨h1, h2, h3⟩ := ih
    refine ⟨fun x => ?_, fun x => ?_, fun f => ?_⟩
    · simp only [appL, List.map_cons, List.foldl_cons] at h1 ⊢
      rw [h1]
      simp [stB]
    · simp only [appL, List.map_cons, List.foldl_cons] at h2 ⊢
      rw [h2]
      simp [stB]
    · simp only [appL, List.map_cons, List.foldl_cons] at h3 ⊢
      rw [h3]
      simp [stF]
theorem appL_snoc (M : List (List UInt8)) (b : List UInt8) : appL (M ++ [b]) = appL M ++ [(0, 1, b, 0, 0)] := by simp [appL]
theorem rel_app {s : DS} {r : RS} (h : Rel s r) (ha : r.armed = false) (hd : r.down = false) (b : List UInt8) : (actS s (0, 1, b)).1 = 0 ∧ Rel (actS s (0, 1, b)).2 { r with loose := r.loose ++ [(0, 1, b, 0, 0)] } := by
  have hsd : ¬ s.down = true := by rw [h.down, hd]; decide
  have e : actS s (0, 1, b) = (0, chgS s (0, 1, b)) := by
    unfold actS
    rw [if_pos (.inr rfl), if_neg hsd]
  rw [e]
  have h1 := rel_act h (0, 1, b, 0, 0) 0 (.inl rfl) (.inr rfl) hd b rfl
  unfold countR at h1
  rw [if_neg (by rw [ha]; decide)] at h1
  exact ⟨rfl, h1⟩
theorem crash_app {r : RS} {M : List (List UInt8)} (hl : r.loose = appL M) (keep torn : Int) : ∃ M' : List (List UInt8), (∀ x, (crashL r keep torn).foldl (stB 1) x = x ++ M'.flatten) ∧ (∀ x, (crashL r keep torn).foldl (stB 0) x = x) ∧ (∀ f, (crashL r keep torn).foldl stF f = f) ∧ M'.flatten <+: M.flatten := by
  have ht : ∀ k, r.loose.take k = appL (M.take k) := fun k => by rw [hl]; simp [appL]
  have hp : ∀ k, (M.take k).flatten <+: M.flatten := fun k => by
    conv => rhs; rw [← List.take_append_drop k M, List.flatten_append]
    exact List.prefix_append _ _
  unfold crashL
  cases e : r.loose[keepR r keep]? with
  | none =>
    simp only [ht]
    obtain ⟨f1, f2, f3⟩ := fold_app (M.take (keepR r keep))
    exact ⟨M.take (keepR r keep), f1, f2, f3, hp _⟩
  | some a =>
    simp only
    split
    · rw [hl] at e
      simp only [appL, List.getElem?_map, Option.map_eq_some_iff] at e
      obtain ⟨b, eb, rfl⟩ := e
      have ec : appL (M.take (keepR r keep)) ++ [cutA torn (0, 1, b, 0, 0)] = appL (M.take (keepR r keep) ++ [b.take torn.toNat]) := by simp [appL, cutA]
      rw [ht, ec]
      obtain ⟨f1, f2, f3⟩ := fold_app (M.take (keepR r keep) ++ [b.take torn.toNat])
      refine ⟨_, f1, f2, f3, ?_⟩
      obtain ⟨hk, hb⟩ := List.getElem?_eq_some_iff.1 eb
      conv => rhs; rw [← List.take_append_drop (keepR r keep) M, ← List.getElem_cons_drop hk, hb]
      rw [List.flatten_append, List.flatten_append, List.prefix_append_right_inj]
      simp only [List.flatten_cons, List.flatten_nil, List.append_nil]
      exact (List.take_prefix _ _).trans (List.prefix_append _ _)
    · simp only [ht]
      obtain ⟨f1, f2, f3⟩ := fold_app (M.take (keepR r keep))
      exact ⟨M.take (keepR r keep), f1, f2, f3, hp _⟩
theorem rel_keeps {s : DS} {r : RS} {M : List (List UInt8)} (h : Rel s r) (hl : r.loose = appL M) (keep torn : Int) : ∃ P : List UInt8, (crashS s keep torn).by_ 2 = evB r.safe 0 ∧ (crashS s keep torn).by_ 3 = evB r.safe 1 ++ P ∧ P <+: M.flatten ∧ (crashS s keep torn).f1 = evF r.safe ∧ (crashS s keep torn).lo = [] ∧ (crashS s keep torn).down = false := by
  have h2 := rel_crash h keep torn
  obtain ⟨M', f1, f2, f3, hp⟩ := crash_app hl keep torn
  have e2 := h2.b2
  have e3 := h2.b3
  have ef := h2.f1
  simp only [crashR, List.append_nil] at e2 e3 ef
  rw [evB_append] at e2 e3
  rw [evF_append] at ef
  exact ⟨M'.flatten, by rw [e2, f2], by rw [e3, f1], hp, by rw [ef, f3], rfl, rfl⟩

/-- A row of the call's own has grown, in a block on which the disk does not lean. -/
theorem DiskM.grow {w w' : World} {F G : Nat → Prop} {d : Nat} {s : DS} (h : DiskM w F G d s) {row : Option Nat} (hg : w.grownBy w' row) (hA : ∀ b, row = some b → G b) : DiskM w' (dk.plus w w' F) (dk.plus w w' G) d s := by
  obtain ⟨_, _, hGF, hlt⟩ := h.lt
  refine h.keepF (fun b hb' => ⟨hb'.1, hb'.2.imp_left (hGF b)⟩) (fun b hb' => hb') (fun b hb' => hb'.2) hg.size fun b h1 h2 => hg.block b h1 (fun e => h2 (hA b e.symm))
theorem ReadsF.grow {w w' : World} {F : Nat → Prop} {size n : Nat} {A : Option Addr} {xs : List Value} (h : ReadsF w F size A n xs) {row : Option Nat} (hg : w.grownBy w' row) (hne : ∀ b, row = some b → A.map (·.block) ≠ some b) : ReadsF w' F size A n xs := by
  refine ⟨⟨h.1.1, fun hn => ?_⟩, h.2⟩
  obtain ⟨ad, e, hb, hc⟩ := h.1.2 hn
  refine ⟨ad, e, Nat.lt_of_lt_of_le hb hg.size, fun j u hu => ?_⟩
  rw [World.cell?_of_block (w := w) (by rw [block_of_add]; exact hg.block _ hb (fun e2 => hne _ e2.symm (by rw [e]; rfl)))]
  exact hc j u hu
theorem own_bel {w w' : World} {F : Nat → Prop} {B : Nat} {e : TypeId} {size n c : Nat} {A : Option Addr} {xs : List Value} (h : w.ownsRow B e size (.slice A n c) n xs) (hb : BelF F w w') (hF : ∀ b, A.map (·.block) = some b → F b) : w'.ownsRow B e size (.slice A n c) n xs := by
  refine ⟨h.1, ?_⟩
  rcases h.2 with hn | ⟨g, cap, cur, e5, hbg, hg, rest⟩
  · exact .inl hn
  · refine .inr ⟨g, cap, cur, e5, hbg, (hb.block g (Array.getElem?_eq_some_iff.1 hg).1 (hF g ?_)).trans hg, rest⟩
    injection e5 with e6 _ _
    subst e6
    rfl
end Go.Proofs.Ytjipjfionelpkaa.dk
