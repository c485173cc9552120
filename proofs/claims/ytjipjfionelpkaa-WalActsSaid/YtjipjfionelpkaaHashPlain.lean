/- The plain law of the text sums (FNV-1a, 64 bits): no program in sight. Each step can be undone, so sums of texts of one length that differ in one byte differ. No condition. -/
import Derived.WalkKit
namespace Go.Proofs.Ytjipjfionelpkaa.hashPlain
open Go.RowKit

def M : Nat := 18446744073709551616
def fac : Nat := 1099511628211
def beg : Nat := 14695981039346656037
def hstep (h c : Nat) : Nat := ((h ^^^ c) * fac) % M
def hsum (l : List UInt8) : Nat := l.foldl (fun h c => hstep h c.toNat) beg

theorem step_lt (h c : Nat) : hstep h c < M := Nat.mod_lt _ (by decide)
theorem fold_lt (l : List UInt8) (h : Nat) (hh : h < M) : l.foldl (fun h c => hstep h c.toNat) h < M := by
  induction l generalizing h with
  | nil => exact hh
  | cons c l ih => exact ih _ (step_lt _ _)
theorem sum_lt (l : List UInt8) : hsum l < M := by
  unfold hsum
  exact fold_lt l beg (by decide)
theorem sum_snoc (l : List UInt8) (c : UInt8) : hsum (l ++ [c]) = hstep (hsum l) c.toNat := by
  unfold hsum; rw [List.foldl_append, List.foldl_cons, List.foldl_nil]

theorem mul_inj (a b : Nat) (ha : a < M) (hb : b < M) (h : (a * fac) % M = (b * fac) % M) : a = b := by
  have hi : (fac * 14886173955864302971) % M = 1 := by decide
  have e1 : ∀ x, x < M → ((x * fac) % M * 14886173955864302971) % M = x := by
    intro x hx
    rw [Nat.mod_mul_mod, Nat.mul_assoc, Nat.mul_mod, hi, Nat.mul_one, Nat.mod_mod, Nat.mod_eq_of_lt hx]
  have := congrArg (fun y => (y * 14886173955864302971) % M) h
  simpa only [e1 a ha, e1 b hb] using this
theorem xor_lt (a c : Nat) (ha : a < M) (hc : c < 256) : a ^^^ c < M :=
  Nat.xor_lt_two_pow (n := 64) ha (Nat.lt_trans hc (by decide))
theorem byte_lt (c : UInt8) : c.toNat < 256 := c.toNat_lt
theorem step_inj (a b : Nat) (c : UInt8) (ha : a < M) (hb : b < M) (h : hstep a c.toNat = hstep b c.toNat) : a = b := by
  have h1 := mul_inj _ _ (xor_lt a _ ha (byte_lt c)) (xor_lt b _ hb (byte_lt c)) h
  have := congrArg (· ^^^ c.toNat) h1
  simpa [Nat.xor_assoc] using this
theorem step_inj_byte (a : Nat) (c d : UInt8) (ha : a < M) (h : hstep a c.toNat = hstep a d.toNat) : c = d := by
  have h1 := mul_inj _ _ (xor_lt a _ ha (byte_lt c)) (xor_lt a _ ha (byte_lt d)) h
  have := congrArg (a ^^^ ·) h1
  simp only [← Nat.xor_assoc, Nat.xor_self, Nat.zero_xor] at this
  exact UInt8.toNat_inj.1 this
theorem fold_inj (l : List UInt8) (a b : Nat) (ha : a < M) (hb : b < M)
    (h : l.foldl (fun h c => hstep h c.toNat) a = l.foldl (fun h c => hstep h c.toNat) b) : a = b := by
  induction l generalizing a b with
  | nil => exact h
  | cons c l ih => exact step_inj a b c ha hb (ih _ _ (step_lt _ _) (step_lt _ _) h)
theorem hsum_set (l : List UInt8) (k : Nat) (hk : k < l.length) (c : UInt8) : hsum l = hsum (l.set k c) ↔ l = l.set k c := by
  refine ⟨fun h => ?_, fun h => congrArg hsum h⟩
  have e1 : l = l.take k ++ l[k] :: l.drop (k + 1) := by rw [List.getElem_cons_drop, List.take_append_drop]
  have e2 : l.set k c = l.take k ++ c :: l.drop (k + 1) := List.set_eq_take_append_cons_drop .. |>.trans (if_pos hk)
  rw [e2]
  rw [e2] at h
  conv at h => lhs; rw [e1]
  unfold hsum at h
  simp only [List.foldl_append, List.foldl_cons] at h
  have h1 := fold_inj _ _ _ (step_lt _ _) (step_lt _ _) h
  have h2 := step_inj_byte _ _ _ (fold_lt _ _ (by decide)) h1
  conv => lhs; rw [e1]
  rw [h2]
theorem hsum_more (l m : List UInt8) (c : UInt8) : hsum l = hsum m ↔ hsum (l ++ [c]) = hsum (m ++ [c]) := by
  rw [sum_snoc, sum_snoc]
  exact ⟨fun h => by rw [h], fun h => step_inj _ _ c (sum_lt _) (sum_lt _) h⟩

/-! The step as the walk spells it. -/
theorem bits_xor (a c : Nat) (ha : a < M) (hc : c < 256) : bits BinOp.xor IntKind.u64 (a : Int) (c : Int) = ((a ^^^ c : Nat) : Int) := by
  have hx := xor_lt a c ha hc
  unfold M at ha hx
  have e : (BitVec.ofInt IntKind.u64.bits (a : Int) ^^^ BitVec.ofInt IntKind.u64.bits (c : Int)).toNat = a ^^^ c := by
    show (BitVec.ofInt 64 (a : Int) ^^^ BitVec.ofInt 64 (c : Int)).toNat = a ^^^ c
    rw [BitVec.toNat_xor, BitVec.toNat_ofInt, BitVec.toNat_ofInt]
    have e1 : ((a : Int) % ((2 ^ 64 : Nat) : Int)).toNat = a := by omega
    have e2 : ((c : Int) % ((2 ^ 64 : Nat) : Int)).toNat = c := by omega
    rw [e1, e2]
  show IntKind.u64.wrap ((BitVec.ofInt IntKind.u64.bits (a : Int) ^^^ BitVec.ofInt IntKind.u64.bits (c : Int)).toNat : Int) = _
  rw [e]
  exact IntWalk.u64_in _ (by omega)
theorem step_spelt (a c : Nat) (ha : a < M) (hc : c < 256) : IntKind.u64.wrap (bits BinOp.xor IntKind.u64 (a : Int) (IntKind.u64.wrap (c : Int)) * 1099511628211) = ((hstep a c : Nat) : Int) := by
  rw [IntWalk.u64_in (c : Int) (by omega), bits_xor a c ha hc]
  have : ((a ^^^ c : Nat) : Int) * 1099511628211 = (((a ^^^ c) * fac : Nat) : Int) := by unfold fac; omega
  rw [this]
  simp only [hstep, M, IntKind.wrap, IntKind.bits, IntKind.signed]
  simp

theorem wrap_nat (n : Nat) : IntKind.u64.wrap (n : Int) = ((n % M : Nat) : Int) := by
  simp only [M, IntKind.wrap, IntKind.bits, IntKind.signed]
  simp
theorem wrap_add (a b : Nat) : IntKind.u64.wrap ((a : Int) + (b : Int)) = (((a + b) % M : Nat) : Int) := wrap_nat (a + b)
theorem wrap_half (a : Nat) (h : a < M) : IntKind.u64.wrap ((a : Int) / 2) = ((a / 2 : Nat) : Int) := by
  unfold M at h
  exact IntWalk.u64_in _ (by omega)
/-- One round of the product by doubling. -/
theorem times_odd (o i j : Nat) (h : j % 2 = 1) : ((o + i) % M + (i + i) % M * (j / 2)) % M = (o + i * j) % M := by
  have e : o + i * j = (o + i) + (i + i) * (j / 2) := by
    have hj : j = 2 * (j / 2) + 1 := by omega
    generalize j / 2 = q at *
    subst hj
    rw [Nat.mul_add, Nat.mul_one, ← Nat.mul_assoc, Nat.mul_comm i 2, ← Nat.two_mul]; omega
  rw [e, Nat.add_mod ((o + i) % M), Nat.mod_mod, Nat.mod_mul_mod, ← Nat.add_mod]
theorem times_even (o i j : Nat) (h : ¬ j % 2 = 1) : (o + (i + i) % M * (j / 2)) % M = (o + i * j) % M := by
  have e : i * j = (i + i) * (j / 2) := by
    have hj : j = 2 * (j / 2) := by omega
    generalize j / 2 = q at *
    subst hj
    rw [← Nat.mul_assoc, Nat.mul_comm i 2, ← Nat.two_mul]
  rw [e, Nat.add_mod o, Nat.mod_mul_mod, ← Nat.add_mod]

theorem low_xor (h c : Nat) (hc : c < 256) : (h - h % 256) + ((h % 256) ^^^ c) = h ^^^ c := by
  have e1 : (h ^^^ c) % 256 = (h % 256) ^^^ c := by
    have := @Nat.xor_mod_two_pow h c 8
    rw [show (2 : Nat) ^ 8 = 256 from rfl] at this
    rw [this, Nat.mod_eq_of_lt hc]
  have e2 : (h ^^^ c) / 256 = h / 256 := by
    have := @Nat.xor_div_two_pow h c 8
    rw [show (2 : Nat) ^ 8 = 256 from rfl] at this
    rw [this, Nat.div_eq_of_lt hc, Nat.xor_zero]
  have e3 := Nat.div_add_mod (h ^^^ c) 256
  have e4 := Nat.div_add_mod h 256
  omega
theorem low_spelt (a c : Nat) (ha : a < M) (hc : c < 256) :
    IntKind.u64.wrap (IntKind.u64.wrap ((a : Int) - (a : Int) % 256) + bits BinOp.xor IntKind.u64 ((a : Int) % 256) (IntKind.u64.wrap (c : Int))) = ((a ^^^ c : Nat) : Int) := by
  have hx := xor_lt a c ha hc
  have hlow : a % 256 < M := Nat.lt_of_le_of_lt (Nat.mod_le _ _) ha
  have e := bits_xor (a % 256) c hlow hc
  have hl := low_xor a c hc
  have e' : ((a : Int) % 256) = ((a % 256 : Nat) : Int) := by omega
  rw [IntWalk.u64_in (c : Int) (by omega), e', e]
  unfold M at ha hx
  rw [IntWalk.u64_in ((a : Int) - _) (by omega)]
  rw [IntWalk.u64_in _ (by omega)]
  omega
end Go.Proofs.Ytjipjfionelpkaa.hashPlain
