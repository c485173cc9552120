/- A map from places to numbers: look-up and store. -/
import Derived.Test.YtabjkmennijaeaaHs0
import Derived.Laws.StructEq
import Derived.ChangeKeysEq
import Derived.WideKeyRuns
import Derived.MapKept
namespace Go.Proofs.Ytabjkmennijaeaa.hs
open Go.RowKit Go.Proofs.Ytabjkmennijaeaa.lib Go.Proofs.Ytabjkmennijaeaa.byt
set_option linter.unusedVariables false

/-- A place as a value. -/
abbrev plV (l v : Nat) : Value := .agg #[.int .u64 (l : Int), .int .i64 (v : Int)]
theorem equalIn_pl (w : World) (d l v m u : Nat) : (Op.equalIn (d + 1 + 1) 54 (plV l v) (plV m u)).run Try.prog w = .ok (decide (l = m ∧ v = u)) w := by
  have hu : Try.prog.underlying 54 = some (.struct (Try.prog.fieldsOf 54)) := by unfold Program.fieldsOf; rw [Try.underlying54]
  rw [run_equalIn_struct w (d + 1) 54 _ _ hu (by kernel_rfl)]
  unfold Program.fieldsOf
  rw [Try.underlying54]
  simp only [Op.eqFields, ne_eq]
  rw [if_pos (by decide), if_pos (by decide)]
  simp only [Sem.run_bind]
  rw [run_part_plain (v := .int .u64 (l : Int)) w (by kernel_rfl) rfl]
  simp only [Result.andThen_ok]
  rw [run_part_plain (v := .int .u64 (m : Int)) w (by kernel_rfl) rfl]
  simp only [Result.andThen_ok]
  rw [run_equalIn_int w d _ _ _ _ _ Try.underlying52]
  simp only [Result.andThen_ok, Sem.run_ite, Sem.run_bind, Sem.run_pure]
  by_cases h : l = m
  · subst h
    simp only [beq_self_eq_true, Bool.not_true, Bool.false_eq_true, if_false, true_and]
    rw [run_part_plain (v := .int .i64 (v : Int)) w (by kernel_rfl) rfl]
    simp only [Result.andThen_ok]
    rw [run_part_plain (v := .int .i64 (u : Int)) w (by kernel_rfl) rfl]
    simp only [Result.andThen_ok]
    rw [run_equalIn_int w d _ _ _ _ _ Try.underlying3]
    simp only [Result.andThen_ok]
    by_cases h2 : v = u
    · subst h2; simp
    · have : ((v : Int) == (u : Int)) = false := beq_false_of_ne (by omega)
      rw [this]; simp [h2]
  · have : ((l : Int) == (m : Int)) = false := beq_false_of_ne (by omega)
    rw [this]
    simp [h]
theorem equal_pl (w : World) (l v m u : Nat) : (Op.equal 54 (plV l v) (plV m u)).run Try.prog w = .ok (decide (l = m ∧ v = u)) w := equalIn_pl w 9998 l v m u
theorem check_pl (w : World) (em : Bool) (l v : Nat) : (Instr.checkKey em 10000 54 (plV l v)).run Try.prog w = .ok () w := by
  show (Instr.checkKey em (9998 + 1 + 1) 54 (plV l v)).run Try.prog w = .ok () w
  generalize 9998 = d
  have h1 := run_part_plain (P := Try.prog) (e := 52) (xs := #[.int .u64 (l : Int), .int .i64 (v : Int)]) (off := 0) (v := .int .u64 (l : Int)) w (by kernel_rfl) rfl
  have h2 := run_part_plain (P := Try.prog) (e := 3) (xs := #[.int .u64 (l : Int), .int .i64 (v : Int)]) (off := 1) (v := .int .i64 (v : Int)) w (by kernel_rfl) rfl
  have h3 : (Instr.checkKey em (d + 1) 52 (.int .u64 (l : Int))).run Try.prog w = .ok () w := by simp [Instr.checkKey, run_underlying Try.underlying52]
  have h4 : (Instr.checkKey em (d + 1) 3 (.int .i64 (v : Int))).run Try.prog w = .ok () w := by simp [Instr.checkKey, run_underlying Try.underlying3]
  unfold Instr.checkKey
  simp only [Sem.run_bind, run_underlying Try.underlying54, Result.andThen_ok]
  simp [h1, h2, h3, h4]
/-- What a map holds. -/
def keysM (M : List (Nat × Nat)) : List (Value × Value) := M.map fun p => (plV p.1 p.2, .int .i64 1)
def MapAt (w : World) (b : Nat) (M : List (Nat × Nat)) : Prop := ∃ es clock, w.heap[b]? = some (.map es clock) ∧ es.toList.map (fun e => (e.key, e.val)) = keysM M
theorem find_pl (w : World) (l v : Nat) : ∀ (es : List MapEntry) (M : List (Nat × Nat)) (i : Nat), es.map (fun e => (e.key, e.val)) = keysM M →
    ((l, v) ∈ M → ∃ j, (Instr.findAsking 54 (plV l v) es i).run Try.prog w = .ok (some (j, .int .i64 1)) w) ∧ ((l, v) ∉ M → (Instr.findAsking 54 (plV l v) es i).run Try.prog w = .ok none w)
  | [], [], i, _ => ⟨fun h => by simp at h, fun _ => by simp [Instr.findAsking]⟩
  | [], _ :: _, i, h => by simp [keysM] at h
  | _ :: _, [], i, h => by simp [keysM] at h
  | e :: es, p :: M, i, h => by
    simp only [keysM, List.map_cons, List.cons.injEq, Prod.mk.injEq] at h
    obtain ⟨⟨hk, hv⟩, ht⟩ := h
    obtain ⟨i1, i2⟩ := find_pl w l v es M (i + 1) ht
    have he := equal_pl w l v p.1 p.2
    rw [← hk] at he
    by_cases hp : l = p.1 ∧ v = p.2
    · rw [decide_eq_true hp] at he
      refine ⟨fun _ => ⟨i, by simp [Instr.findAsking, he, hv]⟩, fun hn => absurd ?_ hn⟩
      rw [show (l, v) = p from Prod.ext hp.1 hp.2]
      simp
    · rw [decide_eq_false hp] at he
      have hne : (l, v) ≠ p := fun e => hp ⟨congrArg Prod.fst e, congrArg Prod.snd e⟩
      refine ⟨fun hm => ?_, fun hn => ?_⟩
      · obtain ⟨j, hj⟩ := i1 ((List.mem_cons.1 hm).resolve_left hne)
        exact ⟨j, by simp [Instr.findAsking, he, hj]⟩
      · have := i2 fun h => hn (List.mem_cons_of_mem _ h)
        simp [Instr.findAsking, he, this]
theorem findKey_pl (w : World) (l v : Nat) (es : List MapEntry) : (Instr.findKey 54 (plV l v) es).run Try.prog w = (Instr.findAsking 54 (plV l v) es).run Try.prog w :=
  run_findKey_eq w (by kernel_rfl) _ _
theorem lookup_pl {w : World} {b : Nat} {M : List (Nat × Nat)} (h : MapAt w b M) (l v : Nat) :
    (Instr.lookup 47 (.map (some b)) (plV l v) false).run Try.prog w = .ok (.int .i64 (if (l, v) ∈ M then 1 else 0)) w := by
  obtain ⟨es, clock, hb, hes⟩ := h
  obtain ⟨h1, h2⟩ := find_pl w l v es.toList M 0 hes
  by_cases hm : (l, v) ∈ M
  · obtain ⟨j, hj⟩ := h1 hm
    rw [if_pos hm]
    simp [Instr.lookup, run_underlying Try.underlying47, MapKept.run_getObj_map hb, check_pl, findKey_pl, hj]
  · rw [if_neg hm]
    simp [Instr.lookup, run_underlying Try.underlying47, MapKept.run_getObj_map hb, check_pl, findKey_pl, h2 hm]
theorem update_pl {w : World} {b : Nat} {M : List (Nat × Nat)} (h : MapAt w b M) (l v : Nat) (hn : (l, v) ∉ M) :
    ∃ w', (Instr.mapUpdate 47 (.map (some b)) (plV l v) (.int .i64 1)).run Try.prog w = .ok () w' ∧ MapAt w' b (M ++ [(l, v)]) ∧ w'.heap.size = w.heap.size ∧ (∀ c, c ≠ b → w'.heap[c]? = w.heap[c]?) ∧ w'.os = w.os ∧ w'.tape = w.tape ∧ w'.output = w.output := by
  obtain ⟨es, clock, hb, hes⟩ := h
  obtain ⟨h1, h2⟩ := find_pl w l v es.toList M 0 hes
  have hlt : b < w.heap.size := (Array.getElem?_eq_some_iff.1 hb).1
  refine ⟨{ w with heap := w.heap.set! b (.map (es.push ⟨plV l v, .int .i64 1, clock⟩) (clock + 1)) }, ?_, ⟨es.push ⟨plV l v, .int .i64 1, clock⟩, clock + 1, by simp [hlt], by simp [hes, keysM]⟩, by simp, fun c hc => ?_, rfl, rfl, rfl⟩
  · simp [Instr.mapUpdate, run_underlying Try.underlying47, MapKept.run_getObj_map hb, check_pl, findKey_pl, h2 hn, MapKept.run_setObj_map _ hb]
  · simp [Ne.symm hc]
end Go.Proofs.Ytabjkmennijaeaa.hs
