/- What Linear answers. -/
import Derived.Test.YtabjkmennijaeaaHs7
import Derived.Carry
namespace Go.Proofs.Ytabjkmennijaeaa.hs
open Go.RowKit Go.Proofs.Ytabjkmennijaeaa.lib Go.Proofs.Ytabjkmennijaeaa.byt
set_option linter.unusedVariables false
set_option linter.unusedSimpArgs false

theorem step_append_run {P : Program} {w w' : World} {ops : Array Oper} {o : Oper} {a : Act} {K : Act → World → Prop} {Q : Exit → Act → World → Prop} {E : Prop} (hgd : o.guard = none) {s x : Operand} {t u : TypeId}
    (ho : o.op = .call { callee := .builtin .append, args := #[s, x], argTypes := #[t, u] }) {v1 v2 v' : Value} (hs : a.eval s = v1) (hx : a.eval x = v2)
    (hrun : (Builtin.append_ #[t, u] o.type #[v1, v2]).run P w = .ok v' w') (h : K (a.put o.dst v') w') : if Region.wanted o (yielded ops a.tmps) = true then Oper.wp P o a w K Q else E := by
  have hw : Region.wanted o (yielded ops a.tmps) = true := by simp [Region.wanted, hgd]
  rw [if_pos hw]
  unfold Oper.wp execOp
  simp only [ho, resolve, invoke, builtin, Sem.run_bind, Sem.run_pure, Result.andThen_ok, List.map_toArray, List.map_cons, List.map_nil, hs, hx, hrun]
  exact h
/-- Is call k ahead of call i? -/
def blockB (L : List Dn) (i k : Nat) : Bool := match L[k]?, L[i]? with
  | some d, some x => !decide (k = i) && ans d && decide (d.to < x.fr)
  | _, _ => false
def aheadN (L : List Dn) (i : Nat) : Nat → Nat
  | 0 => 0
  | k + 1 => if blockB L i k = true then aheadN L i k ||| 2 ^ k else aheadN L i k
theorem aheadN_bit (L : List Dn) (i : Nat) : ∀ k j, (aheadN L i k).testBit j = (decide (j < k) && blockB L i j)
  | 0, j => by simp [aheadN]
  | k + 1, j => by
    have ih := aheadN_bit L i k j
    unfold aheadN
    by_cases hb : blockB L i k = true
    · rw [if_pos hb, Nat.testBit_or, ih, Nat.testBit_two_pow]
      by_cases e : k = j
      · subst e; simp [hb]
      · by_cases h : j < k
        · have : j < k + 1 := by omega
          simp [e, h, this]
        · have : ¬ j < k + 1 := by omega
          simp [e, h, this]
    · rw [if_neg hb, ih]
      by_cases e : k = j
      · subst e; simp at hb; simp [hb]
      · by_cases h : j < k
        · have : j < k + 1 := by omega
          simp [h, this]
        · have : ¬ j < k + 1 := by omega
          simp [h, this]
theorem aheadN_lt (L : List Dn) (i : Nat) : ∀ k, aheadN L i k < 2 ^ k
  | 0 => by simp [aheadN]
  | k + 1 => by
    have ih := aheadN_lt L i k
    have h2 : (2 : Nat) ^ (k + 1) = 2 ^ k * 2 := Nat.pow_succ ..
    unfold aheadN
    split
    · exact Nat.or_lt_two_pow (by omega) (by omega)
    · omega
theorem full_or (i : Nat) : (2 ^ i - 1) ||| 2 ^ i = 2 ^ (i + 1) - 1 := by
  apply Nat.eq_of_testBit_eq
  intro j
  rw [Nat.testBit_or, Nat.testBit_two_pow_sub_one, Nat.testBit_two_pow_sub_one, Nat.testBit_two_pow]
  by_cases e : i = j
  · subst e; simp
  · by_cases h : j < i
    · have : j < i + 1 := by omega
      simp [e, h, this]
    · have : ¬ j < i + 1 := by omega
      simp [e, h, this]
def headsN (L : List Dn) (i : Nat) : List Nat := (List.range i).map fun j => aheadN L j L.length
theorem headsN_succ (L : List Dn) (i : Nat) : headsN L (i + 1) = headsN L i ++ [aheadN L i L.length] := by simp [headsN, List.range_succ]
def RLin (w : World) (L : List Dn) (e : Ending) (w' : World) : Prop :=
  ∃ b, e = .returned (.bool b) ∧ (b = true → Alive L (headsN L L.length) (2 ^ L.length - 1) none) ∧ (b = false → ¬ Alive L (headsN L L.length) (2 ^ L.length - 1) none) ∧ Below w.heap.size w w'
def EnvI (L : List Dn) (V : List ByteArray) (T : List Nat) (i nv : Nat) : Prop := 1 ≤ nv ∧ nv ≤ i + 1 ∧ T.length = i ∧ ∀ (j : Nat) (d : Dn), j < i → L[j]? = some d → ∃ t, T[j]? = some t ∧ 0 < t ∧ t < nv ∧ V[t]? = some d.val
set_option maxRecDepth 8000 in
set_option maxHeartbeats 2000000 in
theorem linear_any (w : World) {A : Option Addr} {n c : Nat} {L : List Dn} (hn : n = L.length) (hr : RdD w w.heap.size A L) (hbig : n ≤ 60) :
    Calls Try.prog 7 #[.slice A n c, .agg #[.string ByteArray.empty, .string ByteArray.empty, .bool false, .complex .f64 0 0]] w (RLin w L) := by
  have HN := Lib.hid hn
  have HR := Lib.hid hr
  clear hn hr
  have hmm := @run_makeMap Try.prog
  have hbW : Below w.heap.size w (((((w.alloc (.cells #[.string ByteArray.empty, .string ByteArray.empty, .bool false, .complex .f64 0 0] 34)).alloc (.cells #[.string ⟨#[]⟩] 9)).alloc (.map #[] 0)).alloc (.cells #[.slice A n c, .slice (some ⟨w.heap.size + 1, 0, none⟩) 1 1, .slice none 0 0, .slice none 0 0, .map (some (w.heap.size + 1 + 1))] 51)).alloc (.cells #[.int .u64 0, .int .i64 0] 54)) := (((((Below.refl _ _).alloc (Nat.le_refl _) _).alloc (by simp) _).alloc (by simp <;> omega) _).alloc (by simp <;> omega) _).alloc (by simp <;> omega) _
  have e1 : (w.alloc (.cells #[.string ByteArray.empty, .string ByteArray.empty, .bool false, .complex .f64 0 0] 34)).heap.size = w.heap.size + 1 := by simp
  have e2 : ((w.alloc (.cells #[.string ByteArray.empty, .string ByteArray.empty, .bool false, .complex .f64 0 0] 34)).alloc (.cells #[.string ⟨#[]⟩] 9)).heap.size = w.heap.size + 2 := by simp
  have e3 : (((w.alloc (.cells #[.string ByteArray.empty, .string ByteArray.empty, .bool false, .complex .f64 0 0] 34)).alloc (.cells #[.string ⟨#[]⟩] 9)).alloc (.map #[] 0)).heap.size = w.heap.size + 3 := by simp
  have e4 : ((((w.alloc (.cells #[.string ByteArray.empty, .string ByteArray.empty, .bool false, .complex .f64 0 0] 34)).alloc (.cells #[.string ⟨#[]⟩] 9)).alloc (.map #[] 0)).alloc (.cells #[.slice A n c, .slice (some ⟨w.heap.size + 1, 0, none⟩) 1 1, .slice none 0 0, .slice none 0 0, .map (some (w.heap.size + 1 + 1))] 51)).heap.size = w.heap.size + 4 := by simp
  have r1 : (((((w.alloc (.cells #[.string ByteArray.empty, .string ByteArray.empty, .bool false, .complex .f64 0 0] 34)).alloc (.cells #[.string ⟨#[]⟩] 9)).alloc (.map #[] 0)).alloc (.cells #[.slice A n c, .slice (some ⟨w.heap.size + 1, 0, none⟩) 1 1, .slice none 0 0, .slice none 0 0, .map (some (w.heap.size + 1 + 1))] 51)).alloc (.cells #[.int .u64 0, .int .i64 0] 54)).heap[w.heap.size + 1]? = some (.cells #[.string ByteArray.empty] 9 (0, 0)) := by
    rw [Below.heap_alloc _ _ _ (by omega), Below.heap_alloc _ _ _ (by omega), Below.heap_alloc _ _ _ (by omega), ← e1]
    exact heap_alloc_new _ _
  have r2 : (((((w.alloc (.cells #[.string ByteArray.empty, .string ByteArray.empty, .bool false, .complex .f64 0 0] 34)).alloc (.cells #[.string ⟨#[]⟩] 9)).alloc (.map #[] 0)).alloc (.cells #[.slice A n c, .slice (some ⟨w.heap.size + 1, 0, none⟩) 1 1, .slice none 0 0, .slice none 0 0, .map (some (w.heap.size + 1 + 1))] 51)).alloc (.cells #[.int .u64 0, .int .i64 0] 54)).heap[w.heap.size + 2]? = some (.map #[] 0) := by
    rw [Below.heap_alloc _ _ _ (by omega), Below.heap_alloc _ _ _ (by omega), ← e2]
    exact heap_alloc_new _ _
  have r3 : (((((w.alloc (.cells #[.string ByteArray.empty, .string ByteArray.empty, .bool false, .complex .f64 0 0] 34)).alloc (.cells #[.string ⟨#[]⟩] 9)).alloc (.map #[] 0)).alloc (.cells #[.slice A n c, .slice (some ⟨w.heap.size + 1, 0, none⟩) 1 1, .slice none 0 0, .slice none 0 0, .map (some (w.heap.size + 1 + 1))] 51)).alloc (.cells #[.int .u64 0, .int .i64 0] 54)).heap[w.heap.size + 3]? = some (.cells #[.slice A n c, .slice (some ⟨w.heap.size + 1, 0, none⟩) 1 1, .slice none 0 0, .slice none 0 0, .map (some (w.heap.size + 1 + 1))] 51 (0, 0)) := by
    rw [Below.heap_alloc _ _ _ (by omega), ← e3]
    exact heap_alloc_new _ _
  have r4 : (((((w.alloc (.cells #[.string ByteArray.empty, .string ByteArray.empty, .bool false, .complex .f64 0 0] 34)).alloc (.cells #[.string ⟨#[]⟩] 9)).alloc (.map #[] 0)).alloc (.cells #[.slice A n c, .slice (some ⟨w.heap.size + 1, 0, none⟩) 1 1, .slice none 0 0, .slice none 0 0, .map (some (w.heap.size + 1 + 1))] 51)).alloc (.cells #[.int .u64 0, .int .i64 0] 54)).heap[w.heap.size + 4]? = some (.cells #[.int .u64 0, .int .i64 0] 54 (0, 0)) := by
    rw [← e4]
    exact heap_alloc_new _ _
  have i0 := cell_of_row _ w.heap.size 2 _ _ (0, 0) (show (((((w.alloc (.cells #[.string ByteArray.empty, .string ByteArray.empty, .bool false, .complex .f64 0 0] 34)).alloc (.cells #[.string ⟨#[]⟩] 9)).alloc (.map #[] 0)).alloc (.cells #[.slice A n c, .slice (some ⟨w.heap.size + 1, 0, none⟩) 1 1, .slice none 0 0, .slice none 0 0, .map (some (w.heap.size + 1 + 1))] 51)).alloc (.cells #[.int .u64 0, .int .i64 0] 54)).heap[w.heap.size]? = _ from by
    rw [Below.heap_alloc _ _ _ (by omega), Below.heap_alloc _ _ _ (by omega), Below.heap_alloc _ _ _ (by omega), Below.heap_alloc _ _ _ (by omega)]
    exact heap_alloc_new w _)
  simp only [List.getElem?_toArray, List.getElem?_cons_succ, List.getElem?_cons_zero] at i0
  have HB0 := Lib.hid (show BuildP (((((w.alloc (.cells #[.string ByteArray.empty, .string ByteArray.empty, .bool false, .complex .f64 0 0] 34)).alloc (.cells #[.string ⟨#[]⟩] 9)).alloc (.map #[] 0)).alloc (.cells #[.slice A n c, .slice (some ⟨w.heap.size + 1, 0, none⟩) 1 1, .slice none 0 0, .slice none 0 0, .map (some (w.heap.size + 1 + 1))] 51)).alloc (.cells #[.int .u64 0, .int .i64 0] 54)) (w.heap.size + 1) (w.heap.size + 1 + 1 + 1) (w.heap.size + 1 + 1) (w.heap.size + 1 + 1 + 1 + 1) (2 ^ 0 - 1) [ByteArray.empty] [] (headsN L 0) A n c (some ⟨w.heap.size + 1, 0, none⟩) 1 1 none 0 0 none 0 0 from
    { box := r3, map := r2, pbox := r4, eV := rfl, eT := rfl, eH := rfl
      ov := ⟨rfl, .inr ⟨w.heap.size + 1, 1, _, rfl, by omega, r1, Nat.le_refl _, by decide, rfl, rfl⟩⟩
      ot := World.ownsRow_nil _ _ _ _
      oa := World.ownsRow_nil _ _ _ _
      Bsb := by omega, Bmb := by omega, Bpb := by omega, ne := by omega, nps := by omega, npm := by omega
      av := fun b hb => by simp at hb; omega
      at_ := fun b hb => by simp at hb
      aa := fun b hb => by simp at hb
      vt := fun b hb => by simp
      va := fun b hb => by simp
      ta := fun b hb => by simp at hb })
  have HE0 := Lib.hid (show EnvI L [ByteArray.empty] [] 0 1 from ⟨Nat.le_refl _, Nat.le_refl _, rfl, fun j d h => absurd h (by omega)⟩)
  have HW0 := Lib.hid hbW
  clear e1 e2 e3 e4 r1 r2 r3 r4 hbW
  go_enter Try.func7, Try.ntmps7
  go_wp2_with fail
  clear hmm
  generalize (((((w.alloc (.cells #[.string ByteArray.empty, .string ByteArray.empty, .bool false, .complex .f64 0 0] 34)).alloc (.cells #[.string ⟨#[]⟩] 9)).alloc (.map #[] 0)).alloc (.cells #[.slice A n c, .slice (some ⟨w.heap.size + 1, 0, none⟩) 1 1, .slice none 0 0, .slice none 0 0, .map (some (w.heap.size + 1 + 1))] 51)).alloc (.cells #[.int .u64 0, .int .i64 0] 54)) = W at HB0 HW0 i0 ⊢
  have HSB := Lib.hid (show w.heap.size < w.heap.size + 1 + 1 + 1 + 1 from by omega)
  generalize w.heap.size + 1 + 1 + 1 + 1 = pb at HB0 HSB ⊢
  generalize w.heap.size + 1 + 1 + 1 = sb at HB0 ⊢
  generalize w.heap.size + 1 + 1 = mb at HB0 ⊢
  have HSW0 := Lib.hid (show w.heap.size + 1 ≤ W.heap.size from by have := HB0.out.pbl; have := HB0.out.Bpb; omega)
  have HI0 := Lib.hid (show W.cell? ⟨w.heap.size, 2, none⟩ = some (.bool false) from i0)
  clear i0
  go_loopw [20] (fun vi wr => ∃ (i : Nat) (V : List ByteArray) (T : List Nat) (Av : Option Addr) (nv cv : Nat) (At : Option Addr) (ct : Nat) (Aa : Option Addr) (ca : Nat), i ≤ n ∧ vi = .int .i64 i ∧ Hid (BuildP wr (w.heap.size + 1) sb mb pb (2 ^ i - 1) V T (headsN L i) A n c Av nv cv At i ct Aa i ca) ∧ Hid (EnvI L V T i nv) ∧ Hid (Below (w.heap.size + 1) W wr)) (fun vi _ => n - (intOf vi).toNat)
  case atStart => exact ⟨0, _, _, _, _, _, _, _, _, _, Nat.zero_le _, rfl, HB0, HE0, Lib.hid (Below.refl _ _)⟩
  case round =>
    obtain ⟨i, V, T, Av, nv, cv, At, ct, Aa, ca, hi, rfl, HBI, HEI, HWI⟩ := hrel
    have HSW := Lib.hid (show w.heap.size + 1 ≤ W.heap.size from HSW0.out)
    have HRW := Lib.hid (HW0.out.trans (HWI.out.mono (Nat.le_succ _)))
    by_cases hlt : i < n
    · have hil : i < L.length := by rw [← HN.out]; exact hlt
      obtain ⟨ad, rfl, -, hc⟩ := RdD.at_ (w := wr) (HR.out.below HRW.out) hil
      obtain ⟨d, hd⟩ : ∃ d, d = L[i] := ⟨_, rfl⟩
      rw [← hd] at hc
      have HD := Lib.hid (show L[i]? = some d from by rw [hd]; exact List.getElem?_eq_getElem hil)
      obtain ⟨k0, k1, k2, k3, k4, k5, k6, k7, k8, k9, k10, k11, k12, k13, k14⟩ := hc.all
      have hi0 : (0 : Int) ≤ i := by omega
      have hi1 : (i : Int) < n := by omega
      clear hc hd hil
      go_wp2_with (rw [store_cx]; go_simp)
      have hbA : Below wr.heap.size wr (wr.alloc (.cells #[.int .i64 0, .int .i64 0, .int .i64 0, .int .i64 0, .int .i64 (d).kind, .string (d).key, .string (d).val, .string (d).old, .bool (d).hold, .int .i64 (d).fr, .int .i64 (d).to, .int .i64 (d).code, .string (d).rv, .bool (d).has, .complex .f64 0 0] 36)) := (Below.refl _ _).alloc (Nat.le_refl _) _
      have hrow := heap_alloc_new wr (.cells #[.int .i64 0, .int .i64 0, .int .i64 0, .int .i64 0, .int .i64 (d).kind, .string (d).key, .string (d).val, .string (d).old, .bool (d).hold, .int .i64 (d).fr, .int .i64 (d).to, .int .i64 (d).code, .string (d).rv, .bool (d).has, .complex .f64 0 0] 36)
      have x9 := cell_of_row _ wr.heap.size 9 _ _ (0, 0) hrow
      have x6 := cell_of_row _ wr.heap.size 6 _ _ (0, 0) hrow
      simp only [List.getElem?_toArray, List.getElem?_cons_succ, List.getElem?_cons_zero] at x9 x6
      have hwsz : w.heap.size + 1 ≤ wr.heap.size := Nat.le_trans HSW.out HWI.out.size
      have HBA := Lib.hid (HBI.out.below hbA (Nat.le_refl _))
      have HWA := Lib.hid (HWI.out.trans (hbA.mono hwsz))
      have HXB := Lib.hid (show wr.heap.size ≠ pb ∧ w.heap.size + 1 ≤ wr.heap.size ∧ wr.heap.size ≠ sb ∧ bl Aa ≠ some wr.heap.size ∧ bl Av ≠ some wr.heap.size ∧ bl At ≠ some wr.heap.size from ⟨by have := HBI.out.pbl; omega, hwsz, by have := HBI.out.sbl; omega, fun e => by have := (row_lt HBI.out.oa e).2; omega, fun e => by have := (row_lt HBI.out.ov e).2; omega, fun e => by have := (row_lt HBI.out.ot e).2; omega⟩)
      have HXL := Lib.hid (show wr.heap.size < (wr.alloc (.cells #[.int .i64 0, .int .i64 0, .int .i64 0, .int .i64 0, .int .i64 (d).kind, .string (d).key, .string (d).val, .string (d).old, .bool (d).hold, .int .i64 (d).fr, .int .i64 (d).to, .int .i64 (d).code, .string (d).rv, .bool (d).has, .complex .f64 0 0] 36)).heap.size from by simp)
      clear k0 k1 k2 k3 k4 k5 k6 k7 k8 k9 k10 k11 k12 k13 k14 hrow hbA HBI HWI hwsz HRW
      generalize wr.alloc (.cells #[.int .i64 0, .int .i64 0, .int .i64 0, .int .i64 0, .int .i64 (d).kind, .string (d).key, .string (d).val, .string (d).old, .bool (d).hold, .int .i64 (d).fr, .int .i64 (d).to, .int .i64 (d).code, .string (d).rv, .bool (d).has, .complex .f64 0 0] 36) = W1 at HBA HWA HXL x9 x6 ⊢
      generalize wr.heap.size = xb at HXB HXL x9 x6 ⊢
      have hi64 : i < 64 := by omega
      obtain ⟨lf, hlf⟩ : ∃ x, x = 2 ^ i - 1 := ⟨_, rfl⟩
      obtain ⟨pi, hpi⟩ : ∃ x, x = 2 ^ i := ⟨_, rfl⟩
      obtain ⟨lg, hlg⟩ : ∃ x, x = 2 ^ (i + 1) - 1 := ⟨_, rfl⟩
      have hw : IntKind.u64.wrap ((2 : Int) ^ i) = (pi : Int) := by have := pow_wrap i hi64; rwa [Nat.min_eq_left (by omega), ← hpi] at this
      have h264 : 2 ^ i < 18446744073709551616 := Nat.pow_lt_pow_right (n := 64) (by omega) hi64
      have hor : bits .or .u64 (lf : Int) (pi : Int) = (lg : Int) := by rw [bits_or_u64_nat _ _ (by omega) (by omega), hlf, hpi, hlg, full_or]
      rw [← hlf] at HBA
      have HLG := Lib.hid hlg
      obtain ⟨p0, -, pf⟩ := HBA.out.place
      clear hlf hpi hlg h264
      have hS0 : (fun X : World => X.cell? ⟨pb, 0, none⟩ = some (.int .u64 (lf : Int))) W1.drew := p0
      refine tail.wp_region_till 6 (fun X : World => X.cell? ⟨pb, 0, none⟩ = some (.int .u64 (lf : Int))) (by kernel_rfl) ?_
      (refine tail.till_take 0 (v := ?_) rfl (by kernel_rfl) (by kernel_rfl) (by kernel_rfl) (by kernel_rfl) (by kernel_rfl) (fun _ _ _ h => h) (by rfl) (by assumption) ?_ ?_; rotate_left 1; (focus (intro X hX; have s1 := hX; go_simp; with_reducible rfl)); (try simp only [Act.put, List.setIfInBounds_toArray, List.set_cons_zero, List.set_cons_succ]))
      (refine tail.till_take 1 (v := ?_) rfl (by kernel_rfl) (by kernel_rfl) (by kernel_rfl) (by kernel_rfl) (by kernel_rfl) (fun _ _ _ h => h) (by rfl) (by assumption) ?_ ?_; rotate_left 1; (focus (intro X hX; have s1 := hX; go_simp; with_reducible rfl)); (try simp only [Act.put, List.setIfInBounds_toArray, List.set_cons_zero, List.set_cons_succ]))
      (refine tail.till_take 2 (v := ?_) rfl (by kernel_rfl) (by kernel_rfl) (by kernel_rfl) (by kernel_rfl) (by kernel_rfl) (fun _ _ _ h => h) (by rfl) (by assumption) ?_ ?_; rotate_left 1; (focus (intro X hX; have s1 := hX; go_simp; with_reducible rfl)); (try simp only [Act.put, List.setIfInBounds_toArray, List.set_cons_zero, List.set_cons_succ]))
      (refine tail.till_take 3 (v := ?_) rfl (by kernel_rfl) (by kernel_rfl) (by kernel_rfl) (by kernel_rfl) (by kernel_rfl) (fun _ _ _ h => h) (by rfl) (by assumption) ?_ ?_; rotate_left 1; (focus (intro X hX; have s1 := hX; go_simp; with_reducible rfl)); (try simp only [Act.put, List.setIfInBounds_toArray, List.set_cons_zero, List.set_cons_succ]))
      (refine tail.till_take 4 (v := ?_) rfl (by kernel_rfl) (by kernel_rfl) (by kernel_rfl) (by kernel_rfl) (by kernel_rfl) (fun _ _ _ h => h) (by rfl) (by assumption) ?_ ?_; rotate_left 1; (focus (intro X hX; have s1 := hX; go_simp; with_reducible rfl)); (try simp only [Act.put, List.setIfInBounds_toArray, List.set_cons_zero, List.set_cons_succ]))
      refine tail.till_one 5 (by kernel_rfl) rfl (fun K hK => ?_)
      go_simp
      refine hK.out _ _ (fun _ => hS0) ?_
      clear hK K
      try simp only [Act.put, List.setIfInBounds_toArray, List.set_cons_zero, List.set_cons_succ]
      refine tail.till_one 6 (by kernel_rfl) rfl (fun K hK => ?_)
      have p0' : W1.drew.cell? ⟨pb, 0, none⟩ = some (.int .u64 (lf : Int)) := p0
      have pf' : W1.drew.frozen? ⟨pb, 0, none⟩ = false := pf 0
      go_simp
      refine hK.out _ _ (fun h => absurd rfl h) ?_
      clear hK K hS0
      try simp only [Act.put, List.setIfInBounds_toArray, List.set_cons_zero, List.set_cons_succ]
      refine tail.till_done (by kernel_rfl) ?_ _
      have HB2 := Lib.hid (show BuildP (W1.setCell ⟨pb, 0, none⟩ (.int .u64 (lg : Int))).drew (w.heap.size + 1) sb mb pb lg V T (headsN L i) (some ad) n c Av nv cv At i ct Aa i ca from (HBA.out.setLeft lg).below (below_drew (Below.refl _ _)) (Nat.le_refl _))
      have HW2 := Lib.hid (show Below (w.heap.size + 1) W (W1.setCell ⟨pb, 0, none⟩ (.int .u64 (lg : Int))).drew from below_drew (HWA.out.setCell HBA.out.Bpb _))
      have y9 : (W1.setCell ⟨pb, 0, none⟩ (.int .u64 (lg : Int))).drew.cell? ⟨xb, 9, none⟩ = some (.int .i64 d.fr) := (World.cell?_setCell_other W1 ⟨pb, 0, none⟩ ⟨xb, 9, none⟩ (.int .u64 (lg : Int)) (by simp)).trans x9
      have y6 : (W1.setCell ⟨pb, 0, none⟩ (.int .u64 (lg : Int))).drew.cell? ⟨xb, 6, none⟩ = some (.string d.val) := (World.cell?_setCell_other W1 ⟨pb, 0, none⟩ ⟨xb, 6, none⟩ (.int .u64 (lg : Int)) (by simp)).trans x6
      have HXL2 := Lib.hid (show xb < (W1.setCell ⟨pb, 0, none⟩ (.int .u64 (lg : Int))).drew.heap.size from by simpa using HXL.out)
      clear x9 x6 p0 pf p0' pf' HBA HWA hor HXL
      generalize (W1.setCell ⟨pb, 0, none⟩ (.int .u64 (lg : Int))).drew = W2 at HB2 HW2 HXL2 y9 y6 ⊢
      have HY9 := Lib.hid y9
      have HY6 := Lib.hid y6
      clear y9 y6 hw
      go_wp2_with fail
      go_loopw [9, 33] (fun va vk wr => ∃ k : Nat, k ≤ n ∧ vk = .int .i64 k ∧ va = .int .u64 (aheadN L i k : Nat) ∧ Hid (Below W2.heap.size W2 wr)) (fun _ vk _ => n - (intOf vk).toNat)
      case atStart => exact ⟨0, Nat.zero_le _, rfl, rfl, Lib.hid (Below.refl _ _)⟩
      case round =>
        obtain ⟨k, hk, rfl, rfl, HBK⟩ := hrel
        by_cases hkn : k < n
        · have hkl : k < L.length := by rw [← HN.out]; exact hkn
          have HWK := Lib.hid (show Below (w.heap.size + 1) W wr from HW2.out.trans (HBK.out.mono (Nat.le_trans HSW.out HW2.out.size)))
          obtain ⟨ad', had, -, hc⟩ := RdD.at_ (w := wr) (HR.out.below (HW0.out.trans (HWK.out.mono (Nat.le_succ _)))) hkl
          obtain rfl : ad = ad' := by injection had
          obtain ⟨d2, hd2⟩ : ∃ d, d = L[k] := ⟨_, rfl⟩
          rw [← hd2] at hc
          have hbk : blockB L i k = (!decide (k = i) && ans d2 && decide (d2.to < d.fr)) := by
            unfold blockB
            rw [HD.out, hd2, List.getElem?_eq_getElem hkl]
          obtain ⟨k0, k1, k2, k3, k4, k5, k6, k7, k8, k9, k10, k11, k12, k13, k14⟩ := hc.all
          have hk0 : (0 : Int) ≤ k := by omega
          have hk1 : (k : Int) < n := by omega
          have HB := Lib.hid hbk
          obtain ⟨ah, hah⟩ : ∃ x, x = aheadN L i k := ⟨_, rfl⟩
          have HAH := Lib.hid hah
          rw [← hah]
          clear hc hd2 hkl hbk had hah
          by_cases hki : k = i
          · subst hki
            have hbl : blockB L k k = false := by rw [HB.out]; simp
            have HF := Lib.hid (show aheadN L k (k + 1) = ah from by rw [HAH.out]; show (if blockB L k k = true then _ else _) = _; rw [if_neg (by rw [hbl]; simp)])
            clear hbl
            go_wp2_with (rw [store_cx]; go_simp)
            have hbA : Below W2.heap.size W2 (wr.alloc (.cells #[.int .i64 0, .int .i64 0, .int .i64 0, .int .i64 0, .int .i64 (d2).kind, .string (d2).key, .string (d2).val, .string (d2).old, .bool (d2).hold, .int .i64 (d2).fr, .int .i64 (d2).to, .int .i64 (d2).code, .string (d2).rv, .bool (d2).has, .complex .f64 0 0] 36)) := HBK.out.alloc HBK.out.size _
            go_roundw
            case rel => exact ⟨k + 1, by omega, by go_num, by rw [HF.out], Lib.hid hbA⟩
            case measure => simp [intOf] <;> omega
          · have HKI := Lib.hid hki
            have hkiI : ¬ (k : Int) = (i : Int) := by omega
            go_wp2_with (rw [store_cx]; go_simp)
            have hbA : Below wr.heap.size wr (wr.alloc (.cells #[.int .i64 0, .int .i64 0, .int .i64 0, .int .i64 0, .int .i64 (d2).kind, .string (d2).key, .string (d2).val, .string (d2).old, .bool (d2).hold, .int .i64 (d2).fr, .int .i64 (d2).to, .int .i64 (d2).code, .string (d2).rv, .bool (d2).has, .complex .f64 0 0] 36)) := (Below.refl _ _).alloc (Nat.le_refl _) _
            have hrow := heap_alloc_new wr (.cells #[.int .i64 0, .int .i64 0, .int .i64 0, .int .i64 0, .int .i64 (d2).kind, .string (d2).key, .string (d2).val, .string (d2).old, .bool (d2).hold, .int .i64 (d2).fr, .int .i64 (d2).to, .int .i64 (d2).code, .string (d2).rv, .bool (d2).has, .complex .f64 0 0] 36)
            have z : ∀ j, (wr.alloc (.cells #[.int .i64 0, .int .i64 0, .int .i64 0, .int .i64 0, .int .i64 (d2).kind, .string (d2).key, .string (d2).val, .string (d2).old, .bool (d2).hold, .int .i64 (d2).fr, .int .i64 (d2).to, .int .i64 (d2).code, .string (d2).rv, .bool (d2).has, .complex .f64 0 0] 36)).cell? ⟨wr.heap.size, j, none⟩ = (dnL d2)[j]? := fun j => by rw [cell_of_row _ _ _ _ _ (0, 0) hrow]; simp [dnL]
            have z0 := z 0
            have z1 := z 1
            have z2 := z 2
            have z3 := z 3
            have z4 := z 4
            have z5 := z 5
            have z6 := z 6
            have z7 := z 7
            have z8 := z 8
            have z9 := z 9
            have z10 := z 10
            have z11 := z 11
            have z12 := z 12
            have z13 := z 13
            have z14 := z 14
            simp only [dnL, List.getElem?_cons_succ, List.getElem?_cons_zero] at z0 z1 z2 z3 z4 z5 z6 z7 z8 z9 z10 z11 z12 z13 z14
            have HB3 := Lib.hid (HBK.out.trans (hbA.mono HBK.out.size))
            have y9 := (World.cell?_of_block (HB3.out.block xb HXL2.out) (a := ⟨xb, 9, none⟩)).trans HY9.out
            clear k0 k1 k2 k3 k4 k5 k6 k7 k8 k9 k10 k11 k12 k13 k14 hrow hbA z HBK HWK
            generalize wr.alloc (.cells #[.int .i64 0, .int .i64 0, .int .i64 0, .int .i64 0, .int .i64 (d2).kind, .string (d2).key, .string (d2).val, .string (d2).old, .bool (d2).hold, .int .i64 (d2).fr, .int .i64 (d2).to, .int .i64 (d2).code, .string (d2).rv, .bool (d2).has, .complex .f64 0 0] 36) = W3 at HB3 y9 z0 z1 z2 z3 z4 z5 z6 z7 z8 z9 z10 z11 z12 z13 z14 ⊢
            generalize wr.heap.size = xd at z0 z1 z2 z3 z4 z5 z6 z7 z8 z9 z10 z11 z12 z13 z14 ⊢
            have hk64 : k < 64 := by omega
            obtain ⟨pk, hpk⟩ : ∃ x, x = 2 ^ k := ⟨_, rfl⟩
            obtain ⟨ag, hag⟩ : ∃ x, x = ah ||| pk := ⟨_, rfl⟩
            have hw : IntKind.u64.wrap ((2 : Int) ^ k) = (pk : Int) := by have := pow_wrap k hk64; rwa [Nat.min_eq_left (by omega), ← hpk] at this
            have h264 : 2 ^ k < 18446744073709551616 := Nat.pow_lt_pow_right (n := 64) (by omega) hk64
            have hor : bits .or .u64 (ah : Int) (pk : Int) = (ag : Int) := by rw [bits_or_u64_nat _ _ (by rw [HAH.out]; have := aheadN_lt L i k; omega) (by omega), hag]
            have HNF := Lib.hid (show blockB L i k = false → aheadN L i (k + 1) = ah from fun h => by rw [HAH.out]; show (if blockB L i k = true then _ else _) = _; rw [if_neg (by rw [h]; simp)])
            have HNT := Lib.hid (show blockB L i k = true → aheadN L i (k + 1) = ag from fun h => by rw [hag, HAH.out, hpk]; show (if blockB L i k = true then _ else _) = _; rw [if_pos h])
            clear hpk hag h264
            refine (answered_any W3 d2).mono ?_
            rintro e W4 ⟨rfl, hb4⟩
            have z10' := keepc z10 hb4
            have y9' := keepc y9 hb4
            have HB4 := Lib.hid (HB3.out.trans (hb4.mono HB3.out.size))
            clear z0 z1 z2 z3 z4 z5 z6 z7 z8 z9 z10 z11 z12 z13 z14 y9 hb4
            cases han : ans d2
            · have HF := Lib.hid (HNF.out (by rw [HB.out, han]; simp))
              go_wp2_with fail
              go_roundw
              case rel => exact ⟨k + 1, by omega, by go_num, by rw [HF.out], HB4⟩
              case measure => simp [intOf] <;> omega
            · by_cases hto : d2.to < d.fr
              · have HF := Lib.hid (HNT.out (by rw [HB.out, han, decide_eq_true hto, decide_eq_false HKI.out]; rfl))
                go_wp2_with fail
                go_roundw
                case rel => exact ⟨k + 1, by omega, by go_num, by rw [HF.out], HB4⟩
                case measure => simp [intOf] <;> omega
              · have HF := Lib.hid (HNF.out (by rw [HB.out, han, decide_eq_false hto]; simp))
                go_wp2_with fail
                go_roundw
                case rel => exact ⟨k + 1, by omega, by go_num, by rw [HF.out], HB4⟩
                case measure => simp [intOf] <;> omega
        · obtain rfl : k = n := by omega
          have hbK := HBK.out
          have hwk : w.heap.size + 1 ≤ wr.heap.size := Nat.le_trans (Nat.le_trans HSW.out HW2.out.size) hbK.size
          have HB4 := Lib.hid (HB2.out.below hbK (Nat.le_refl _))
          have HW4 := Lib.hid (show Below (w.heap.size + 1) W wr from HW2.out.trans (hbK.mono (Nat.le_trans HSW.out HW2.out.size)))
          have y6 := (World.cell?_of_block (hbK.block xb HXL2.out) (a := ⟨xb, 6, none⟩)).trans HY6.out
          have hxl4 : xb < wr.heap.size := Nat.lt_of_lt_of_le HXL2.out hbK.size
          obtain ⟨-, -, -, g3, -, gf⟩ := HB4.out.cells
          obtain ⟨hdv, hhd⟩ : ∃ x, x = aheadN L i k := ⟨_, rfl⟩
          rw [← hhd]
          obtain ⟨A3, c3, w5, hrun, ho, hg, hnew⟩ := append_uint64 wr (w.heap.size + 1) HB4.out.oa (.int .u64 (hdv : Int)) rfl (by omega) hwk
          have hs5 : w5.heap[sb]? = wr.heap[sb]? := hg.block sb HB4.out.sbl (fun e => (HB4.out.aa sb e.symm).1 rfl)
          have hx5 : w5.heap[xb]? = wr.heap[xb]? := hg.block xb hxl4 (fun e => HXB.out.2.2.2.1 e.symm)
          have q3 := (World.cell?_of_block (a := ⟨sb, 3, none⟩) hs5).trans g3
          have qf := (World.frozen?_of_block (a := ⟨sb, 3, none⟩) hs5).trans (gf 3)
          have HB5 := Lib.hid (show BuildP (w5.setCell ⟨sb, 3, none⟩ (.slice A3 (i + 1) c3)) (w.heap.size + 1) sb mb pb lg V T (headsN L (i + 1)) (some ad) k c Av nv cv At i ct A3 (i + 1) c3 from by
            have := HB4.out.setH hdv hg (by simpa using ho) hnew
            rw [headsN_succ, ← HN.out, ← hhd]
            exact this)
          have hW5 : Below (w.heap.size + 1) W w5 := HW4.out.trans ⟨hg.os, hg.tape, hg.output, hg.size, fun b hb => hg.block b (by omega) (fun e => by have := (row_lt HB4.out.oa e.symm).1; omega)⟩
          have HW5 := Lib.hid (show Below (w.heap.size + 1) W (w5.setCell ⟨sb, 3, none⟩ (.slice A3 (i + 1) c3)) from hW5.setCell HB4.out.Bsb _)
          have x6 : (w5.setCell ⟨sb, 3, none⟩ (.slice A3 (i + 1) c3)).cell? ⟨xb, 6, none⟩ = some (.string d.val) := (World.cell?_setCell_other w5 ⟨sb, 3, none⟩ ⟨xb, 6, none⟩ _ (by simp)).trans ((World.cell?_of_block (a := ⟨xb, 6, none⟩) hx5).trans y6)
          have HXL5 := Lib.hid (show xb < (w5.setCell ⟨sb, 3, none⟩ (.slice A3 (i + 1) c3)).heap.size from by have := hg.size; simp; omega)
          clear hs5 hx5 ho hg hnew hW5 HB2 HW2 HB4 HW4 HBK hbK HY9 HY6 HXL2 y6 hxl4 hhd hwk
          go_wp2_with (at_builtin; refine wpList_append_run rfl rfl rfl rfl hrun ?_; clear hrun)
          clear g3 gf q3 qf
          generalize (w5.setCell ⟨sb, 3, none⟩ (.slice A3 (i + 1) c3)) = W5 at HB5 HW5 HXL5 x6 ⊢
          obtain ⟨-, -, g2, -, -, gf⟩ := HB5.out.cells
          have hbD : Below W5.heap.size W5 W5.drew := below_drew (Below.refl _ _)
          have HNUM := Lib.hid (number_any W5.drew (HB5.out.below hbD (Nat.le_refl _)) d.val HEI.out.1 (by have := HEI.out.2.1; omega) (show w.heap.size + 1 ≤ W5.drew.heap.size from Nat.le_trans HSW.out HW5.out.size))
          have hS0 : (fun X : World => (X.cell? ⟨sb, 2, none⟩ = some (.slice At i ct) ∧ X.cell? ⟨xb, 6, none⟩ = some (.string d.val))) W5.drew := ⟨g2, x6⟩
          clear hbD
          refine tail.wp_region_till 14 (fun X : World => (X.cell? ⟨sb, 2, none⟩ = some (.slice At i ct) ∧ X.cell? ⟨xb, 6, none⟩ = some (.string d.val))) (by kernel_rfl) ?_
          (refine tail.till_take 0 (v := ?_) rfl (by kernel_rfl) (by kernel_rfl) (by kernel_rfl) (by kernel_rfl) (by kernel_rfl) (fun _ _ _ h => h) (by rfl) (by assumption) ?_ ?_; rotate_left 1; (focus (intro X hX; obtain ⟨s0, s1⟩ := hX; go_simp; with_reducible rfl)); (try simp only [Act.put, List.setIfInBounds_toArray, List.set_cons_zero, List.set_cons_succ]))
          (refine tail.till_take 1 (v := ?_) rfl (by kernel_rfl) (by kernel_rfl) (by kernel_rfl) (by kernel_rfl) (by kernel_rfl) (fun _ _ _ h => h) (by rfl) (by assumption) ?_ ?_; rotate_left 1; (focus (intro X hX; obtain ⟨s0, s1⟩ := hX; go_simp; with_reducible rfl)); (try simp only [Act.put, List.setIfInBounds_toArray, List.set_cons_zero, List.set_cons_succ]))
          (refine tail.till_take 2 (v := ?_) rfl (by kernel_rfl) (by kernel_rfl) (by kernel_rfl) (by kernel_rfl) (by kernel_rfl) (fun _ _ _ h => h) (by rfl) (by assumption) ?_ ?_; rotate_left 1; (focus (intro X hX; obtain ⟨s0, s1⟩ := hX; go_simp; with_reducible rfl)); (try simp only [Act.put, List.setIfInBounds_toArray, List.set_cons_zero, List.set_cons_succ]))
          (refine tail.till_take 3 (v := ?_) rfl (by kernel_rfl) (by kernel_rfl) (by kernel_rfl) (by kernel_rfl) (by kernel_rfl) (fun _ _ _ h => h) (by rfl) (by assumption) ?_ ?_; rotate_left 1; (focus (intro X hX; obtain ⟨s0, s1⟩ := hX; go_simp; with_reducible rfl)); (try simp only [Act.put, List.setIfInBounds_toArray, List.set_cons_zero, List.set_cons_succ]))
          (refine tail.till_take 4 (v := ?_) rfl (by kernel_rfl) (by kernel_rfl) (by kernel_rfl) (by kernel_rfl) (by kernel_rfl) (fun _ _ _ h => h) (by rfl) (by assumption) ?_ ?_; rotate_left 1; (focus (intro X hX; obtain ⟨s0, s1⟩ := hX; go_simp; with_reducible rfl)); (try simp only [Act.put, List.setIfInBounds_toArray, List.set_cons_zero, List.set_cons_succ]))
          (refine tail.till_take 5 (v := ?_) rfl (by kernel_rfl) (by kernel_rfl) (by kernel_rfl) (by kernel_rfl) (by kernel_rfl) (fun _ _ _ h => h) (by rfl) (by assumption) ?_ ?_; rotate_left 1; (focus (intro X hX; obtain ⟨s0, s1⟩ := hX; go_simp; with_reducible rfl)); (try simp only [Act.put, List.setIfInBounds_toArray, List.set_cons_zero, List.set_cons_succ]))
          (refine tail.till_take 6 (v := ?_) rfl (by kernel_rfl) (by kernel_rfl) (by kernel_rfl) (by kernel_rfl) (by kernel_rfl) (fun _ _ _ h => h) (by rfl) (by assumption) ?_ ?_; rotate_left 1; (focus (intro X hX; obtain ⟨s0, s1⟩ := hX; go_simp; with_reducible rfl)); (try simp only [Act.put, List.setIfInBounds_toArray, List.set_cons_zero, List.set_cons_succ]))
          (refine tail.till_take 7 (v := ?_) rfl (by kernel_rfl) (by kernel_rfl) (by kernel_rfl) (by kernel_rfl) (by kernel_rfl) (fun _ _ _ h => h) (by rfl) (by assumption) ?_ ?_; rotate_left 1; (focus (intro X hX; obtain ⟨s0, s1⟩ := hX; go_simp; with_reducible rfl)); (try simp only [Act.put, List.setIfInBounds_toArray, List.set_cons_zero, List.set_cons_succ]))
          (refine tail.till_take 8 (v := ?_) rfl (by kernel_rfl) (by kernel_rfl) (by kernel_rfl) (by kernel_rfl) (by kernel_rfl) (fun _ _ _ h => h) (by rfl) (by assumption) ?_ ?_; rotate_left 1; (focus (intro X hX; obtain ⟨s0, s1⟩ := hX; go_simp; with_reducible rfl)); (try simp only [Act.put, List.setIfInBounds_toArray, List.set_cons_zero, List.set_cons_succ]))
          refine tail.till_one 9 (by kernel_rfl) rfl (fun K hK => ?_)
          go_simp
          go_at_call 12
          refine HNUM.out.mono ?_
          intro e6 w6 hh
          obtain ⟨V', Av', nv', cv', j, rfl, hB6, ⟨l, hVl, hl1⟩, hVj, hj0, hjn, hb6, hfr6⟩ := hh
          have hS6 : (fun X : World => (X.cell? ⟨sb, 2, none⟩ = some (.slice At i ct) ∧ X.cell? ⟨xb, 6, none⟩ = some (.string d.val))) w6 := ⟨hB6.cells.2.2.1, (World.cell?_of_block (a := ⟨xb, 6, none⟩) (hfr6 xb HXL5.out HXB.out.2.2.1 HXB.out.2.2.2.2.1)).trans x6⟩
          refine hK.out _ _ (fun _ => hS6) ?_
          clear hK K hfr6
          try simp only [Act.put, List.setIfInBounds_toArray, List.set_cons_zero, List.set_cons_succ]
          have hwk6 : w.heap.size + 1 ≤ w6.heap.size := Nat.le_trans (Nat.le_trans HSW.out HW5.out.size) hb6.size
          obtain ⟨A7, c7, w7, hrun, ho, hg, hnew⟩ := append_int w6 (w.heap.size + 1) hB6.ot (.int .i64 (j : Int)) rfl (by omega) hwk6
          have hbA : Below w6.heap.size w6 (w6.alloc (.cells #[.int .i64 (j : Int)] 3)) := (Below.refl _ _).alloc (Nat.le_refl _) _
          have hSA : (fun X : World => (X.cell? ⟨sb, 2, none⟩ = some (.slice At i ct) ∧ X.cell? ⟨xb, 6, none⟩ = some (.string d.val))) (w6.alloc (.cells #[.int .i64 (j : Int)] 3)) := ⟨keepc hS6.1 hbA, keepc hS6.2 hbA⟩
          refine tail.till_one 10 (by kernel_rfl) rfl (fun K hK => ?_)
          go_simp
          refine hK.out _ _ (fun _ => hSA) ?_
          clear hK K hbA
          try simp only [Act.put, List.setIfInBounds_toArray, List.set_cons_zero, List.set_cons_succ]
          have hs7 : w7.heap[sb]? = w6.heap[sb]? := hg.block sb hB6.sbl (fun e => (hB6.at_ sb e.symm).1 rfl)
          have hx7 : w7.heap[xb]? = w6.heap[xb]? := hg.block xb (Nat.lt_of_lt_of_le HXL5.out hb6.size) (fun e => HXB.out.2.2.2.2.2 e.symm)
          have hS7 : (fun X : World => (X.cell? ⟨sb, 2, none⟩ = some (.slice At i ct) ∧ X.cell? ⟨xb, 6, none⟩ = some (.string d.val))) w7 := ⟨(World.cell?_of_block (a := ⟨sb, 2, none⟩) hs7).trans hS6.1, (World.cell?_of_block (a := ⟨xb, 6, none⟩) hx7).trans hS6.2⟩
          have qf := (World.frozen?_of_block (a := ⟨sb, 2, none⟩) hs7).trans (hB6.cells.2.2.2.2.2 2)
          have HB7 := Lib.hid (hB6.setT j hg (by simpa using ho) hnew)
          have HW7 := Lib.hid (show Below (w.heap.size + 1) W (w7.setCell ⟨sb, 2, none⟩ (.slice A7 (i + 1) c7)) from
            ((((below_drew HW5.out).trans hb6).trans ⟨hg.os, hg.tape, hg.output, hg.size, fun b hb => hg.block b (by omega) (fun e => by have := (row_lt hB6.ot e.symm).1; omega)⟩).setCell hB6.Bsb _))
          refine tail.till_one 11 (by kernel_rfl) rfl (fun K hK => ?_)
          refine step_append_run rfl rfl rfl rfl hrun ?_
          refine hK.out _ _ (fun _ => hS7) ?_
          clear hK K hSA hrun
          try simp only [Act.put, List.setIfInBounds_toArray, List.set_cons_zero, List.set_cons_succ]
          (refine tail.till_take 12 (v := ?_) rfl (by kernel_rfl) (by kernel_rfl) (by kernel_rfl) (by kernel_rfl) (by kernel_rfl) (fun _ _ _ h => h) (by rfl) (by assumption) ?_ ?_; rotate_left 1; (focus (intro X hX; obtain ⟨s0, s1⟩ := hX; go_simp; with_reducible rfl)); (try simp only [Act.put, List.setIfInBounds_toArray, List.set_cons_zero, List.set_cons_succ]))
          (refine tail.till_take 13 (v := ?_) rfl (by kernel_rfl) (by kernel_rfl) (by kernel_rfl) (by kernel_rfl) (by kernel_rfl) (fun _ _ _ h => h) (by rfl) (by assumption) ?_ ?_; rotate_left 1; (focus (intro X hX; obtain ⟨s0, s1⟩ := hX; go_simp; with_reducible rfl)); (try simp only [Act.put, List.setIfInBounds_toArray, List.set_cons_zero, List.set_cons_succ]))
          refine tail.till_one 14 (by kernel_rfl) rfl (fun K hK => ?_)
          obtain ⟨q2, -⟩ := hS7
          go_simp
          refine hK.out _ _ (fun h => absurd rfl h) ?_
          clear hK K
          try simp only [Act.put, List.setIfInBounds_toArray, List.set_cons_zero, List.set_cons_succ]
          refine tail.till_done (by kernel_rfl) ?_ _
          have hEF : EnvI L V' (T ++ [j]) (i + 1) nv' := by
            obtain ⟨h1, h2, h3, h4⟩ := HEI.out
            have hv1 := HB5.out.eV
            have hv2 := hB6.eV
            rw [hVl, List.length_append] at hv2
            refine ⟨by omega, by omega, by simp [h3], fun a da ha hda => ?_⟩
            by_cases hai : a < i
            · obtain ⟨t, t1, t2, t3, t4⟩ := h4 a da hai hda
              refine ⟨t, by rw [List.getElem?_append_left (by omega)]; exact t1, t2, by omega, ?_⟩
              rw [hVl, List.getElem?_append_left (by omega)]
              exact t4
            · obtain rfl : a = i := by omega
              rw [HD.out] at hda
              injection hda with hda
              subst hda
              exact ⟨j, by rw [List.getElem?_append_right (by omega), h3]; simp, hj0, hjn, hVj⟩
          have HEF := Lib.hid hEF
          rw [HLG.out] at HB7
          clear hEF q2 qf hs7 hx7 ho hg hnew hB6 hVl hl1 hVj hb6 hwk6 g2 gf x6 hS0 hS6 HNUM HB5 HW5 HEI
          go_wp2_with fail
          go_roundw
          case rel => exact ⟨i + 1, V', T ++ [j], Av', nv', cv', A7, c7, A3, c3, by omega, by go_num, HB7, HEF, HW7⟩
          case measure => simp [intOf] <;> omega
    · obtain rfl : i = n := by omega
      have hI := (World.cell?_of_block (a := ⟨w.heap.size, 2, none⟩) (HWI.out.block w.heap.size (Nat.lt_succ_self _))).trans HI0.out
      obtain ⟨p0, p1, -⟩ := HBI.out.place
      have hBI := HBI.out
      obtain ⟨hv1, hv2, hT, hto⟩ := HEI.out
      have hBm := hBI.Bmb
      have hS : SearchP wr sb mb i nv L V T (headsN L i) A c Av cv At ct Aa ca := by
        refine ⟨HN.out, hT.symm, by simp [headsN], hBI.eV, hBI.box, hBI.ne, ⟨?_, fun h0 ad e => ?_⟩, ⟨Reads.of_own hBI.ov, fun _ ad e => (hBI.av ad.block (by rw [e]; rfl)).2.1⟩, ⟨Reads.of_own hBI.ot, fun _ ad e => (hBI.at_ ad.block (by rw [e]; rfl)).2.1⟩, ⟨Reads.of_own hBI.oa, fun _ ad e => (hBI.aa ad.block (by rw [e]; rfl)).2.1⟩⟩
        · have := (HR.out.below HRW.out).more HRW.out.size
          rw [← HN.out] at this
          exact this
        · obtain ⟨ad', e', hb, -⟩ := HR.out.2 (by rw [← HN.out]; exact h0)
          rw [e] at e'
          injection e' with e'
          subst e'
          omega
      have hlf : 2 ^ i - 1 < 18446744073709551616 := by have := Nat.pow_le_pow_right (n := 2) (by omega) (show i ≤ 60 from hbig); omega
      have hEnv : EnvS L V T (headsN L i) i nv := by
        refine ⟨⟨hbig, by omega⟩, fun a d ha => hto a d (by have := (List.getElem?_eq_some_iff.1 ha).1; have := HN.out; omega) ha, fun a x hx => ?_⟩
        simp only [headsN, List.getElem?_map, Option.map_eq_some_iff] at hx
        obtain ⟨b, -, rfl⟩ := hx
        have h1 := aheadN_lt L b L.length
        have h2 := Nat.pow_le_pow_right (n := 2) (by omega) (show L.length ≤ 60 by have := HN.out; omega)
        omega
      have hG := goes_any hEnv (2 ^ i - 1) wr [] 0 hS ⟨#[], 0, hBI.map, rfl⟩ hlf (by omega) (fun p hp => by simp at hp)
      have HG := Lib.hid (show Calls Try.prog 13 #[.pointer (some ⟨sb, 0, none⟩), .agg #[.int .u64 ((2 ^ i - 1 : Nat) : Int), .int .i64 0]] wr (RLin w L) from hG.mono fun e w' hh => by
        obtain ⟨b, M', e1, hk, -, ht, hf⟩ := hh
        have hv0 : valOf V 0 = none := rfl
        rw [hv0] at ht hf
        have e2 : L.length = i := HN.out.symm
        refine ⟨b, e1, ?_, ?_, HRW.out.trans (hk.to_below HRW.out.size (by omega))⟩
        · rw [e2]; exact ht
        · rw [e2]; exact fun h => (hf h).1)
      obtain ⟨lf, hlfe⟩ : ∃ x, x = 2 ^ i - 1 := ⟨_, rfl⟩
      rw [← hlfe] at HG p0
      clear hlfe hG hEnv hlf hS hBm hv1 hv2 hT hto hBI hlt HBI HEI HWI HB0 HE0
      go_wp2_with fail
      refine HG.out.mono ?_
      intro e w' hh
      have hh' := hh
      obtain ⟨b, rfl, -⟩ := hh'
      have HH := Lib.hid hh
      clear hh HG
      go_wp2_with fail
      refine bodyPost_ret (v := .bool b) (by simp [results, Try.results7]) rfl ?_
      exact HH.out
end Go.Proofs.Ytabjkmennijaeaa.hs
