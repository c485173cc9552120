/- What the functions of layer frame, and of the reference, answer: the plain law's frames and scans. No condition but that lengths are short. -/
import Derived.Test.YtjipjfionelpkaaFramePlain
import Derived.Test.YtjipjfionelpkaaHsh
import Derived.Test.YtjipjfionelpkaaBytes
import Derived.Deep.QuietTactic
import Derived.BigQuiet
namespace Go.Proofs.Ytjipjfionelpkaa.frameWalk
open Go.RowKit Go.Proofs.Ytjipjfionelpkaa.hashPlain Go.Proofs.Ytjipjfionelpkaa.framePlain Go.Proofs.Ytjipjfionelpkaa.lib Go.Proofs.Ytjipjfionelpkaa.byt Go.Proofs.Ytjipjfionelpkaa.hashWalk

theorem wrap_u8 (n : Nat) : IntKind.u8.wrap (n : Int) = ((UInt8.ofNat n).toNat : Int) := by
  rw [ofNat_toNat_mod, IntKind.wrap_u8]
  omega
theorem own_lt {w : World} {B : Nat} {A : Option Addr} {c : Nat} {bs : List UInt8} (h : OwnB w B A c bs) : ∀ ad, A = some ad → ad.block < w.heap.size :=
  fun ad e => by subst e; exact (h.lt ad.block rfl).2
theorem byte_mod (n : Nat) : ((UInt8.ofNat n).toNat : Int) = (n : Int) % 256 := by rw [ofNat_toNat_mod]; omega
set_option maxRecDepth 4000 in
set_option maxHeartbeats 400000 in
theorem low_any (w : World) (B : Nat) {A : Option Addr} {n c : Nat} {bs : List UInt8} (hn : n = bs.length) (hown : OwnB w B A c bs) (hB : B ≤ w.heap.size) (x k : Nat) (hk : k ≤ 8) (hs : bs.length ≤ 1099511627776) :
    Calls Try.prog 61 #[.slice A n c, .int .u64 (x : Int), .int .i64 (k : Int)] w fun e w' =>
      ∃ A' c', e = .returned (.slice A' (bs ++ lowB x k).length c') ∧ OwnB w' B A' c' (bs ++ lowB x k) ∧ Upd w w' A bs.length A' := by
  have hlt0 := own_lt hown
  subst hn
  go_enter Try.func61, Try.ntmps61
  go_wp2_with fail
  go_loopw [0, 1, 8] (fun v y i wr => ∃ (j m X : Nat) (L : List UInt8) (A' : Option Addr) (c' : Nat), j ≤ k ∧ i = .int .i64 j ∧ y = .int .u64 X ∧ v = .slice A' m c' ∧ X = x / 256 ^ j ∧ m = L.length ∧ L = bs ++ lowB x j ∧ OwnB wr B A' c' L ∧ Upd w wr A bs.length A') (fun _ _ i _ => k - (intOf i).toNat)
  case atStart => exact ⟨0, _, x, bs, A, c, Nat.zero_le _, rfl, rfl, rfl, by simp, rfl, by simp [lowB], hown, Upd.refl _ _ _⟩
  case round =>
    obtain ⟨j, m, X, L, A', c', hj, rfl, rfl, rfl, hX, hm, hL, ho, hu⟩ := hrel
    by_cases hlt : j < k
    · have hsz : L.length ≤ 1099511627776 + 8 := by rw [hL, List.length_append, lowB_length]; omega
      have hBr : B ≤ wr.heap.size := Nat.le_trans hB hu.size
      have hr1 := rd_new1 wr (UInt8.ofNat X)
      rw [byte_mod] at hr1
      obtain ⟨A2, c2, w2, hrun, ho2, hu2⟩ := append_bytes _ B hm (World.ownsRow.alloc ho _) (m := 1) (c2 := 1) rfl hr1 (by simp; omega) (by simp; omega)
      have hu3 := (Upd.alloc (Upd.refl wr A' L.length) (.cells #[.int .u8 ((X : Int) % 256)] 5) (own_lt ho)).trans hu2 (Nat.le_refl _) (own_lt ho)
      have hu4 := hu.trans hu3 (by rw [hL, List.length_append]; omega) hlt0
      have hL2 : L ++ [UInt8.ofNat X] = bs ++ lowB x (j + 1) := by rw [hL, lowB_snoc, List.append_assoc, hX]
      have hX2 : X / 256 = x / 256 ^ (j + 1) := by rw [hX, Nat.div_div_eq_div_mul, Nat.pow_succ]
      have HL := Lib.hid hL2
      have HX := Lib.hid hX2
      clear hL2 hX2 hX hm hL ho hu hu2 hu3 hr1
      obtain ⟨L2, hL2⟩ : ∃ L2, L2 = L ++ [UInt8.ofNat X] := ⟨_, rfl⟩
      rw [← hL2] at hrun ho2 HL
      clear hL2
      obtain ⟨m2, hm2⟩ : ∃ m2, m2 = L2.length := ⟨_, rfl⟩
      rw [← hm2] at hrun
      have HM := Lib.hid hm2
      clear hm2
      go_wp2_with (at_builtin; refine wpList_append_run rfl rfl rfl rfl hrun ?_; clear hrun)
      go_roundw
      case rel => exact ⟨j + 1, m2, X / 256, L2, A2, c2, by omega, by go_num, rfl, rfl, HX.out, HM.out, HL.out, ho2, hu4⟩
      case measure => simp [intOf]; omega
    · go_wp2_with fail
      go_ret
      have : j = k := by omega
      subst this
      subst hL
      exact ⟨A', c', by rw [hm]; rfl, ho, hu⟩

theorem wrap_256 (a : Nat) (h : a < M) : IntKind.u64.wrap ((a : Int) / 256) = ((a / 256 : Nat) : Int) := by
  unfold M at h
  exact IntWalk.u64_in _ (by omega)
set_option maxRecDepth 4000 in
set_option maxHeartbeats 400000 in
theorem ref_low_any (w : World) (x k : Nat) (hx : x < M) (hk : k ≤ 8) :
    Calls Try.prog 66 #[.int .u64 (x : Int), .int .i64 (k : Int)] w fun e w' =>
      ∃ A' c', e = .returned (.slice A' (lowB x k).length c') ∧ OwnB w' w.heap.size A' c' (lowB x k) ∧ Below w.heap.size w w' := by
  have HX0 := Lib.hid hx
  clear hx
  go_enter Try.func66, Try.ntmps66
  go_wp2_with fail
  go_loopw [0, 5, 6] (fun y v i wr => ∃ (j m X : Nat) (L : List UInt8) (A' : Option Addr) (c' : Nat), j ≤ k ∧ i = .int .i64 j ∧ y = .int .u64 X ∧ v = .slice A' m c' ∧ X = x / 256 ^ j ∧ m = L.length ∧ L = lowB x j ∧ OwnB wr w.heap.size A' c' L ∧ Below w.heap.size w wr) (fun _ _ i _ => k - (intOf i).toNat)
  case atStart => exact ⟨0, 0, x, [], none, 0, Nat.zero_le _, rfl, rfl, rfl, by simp, rfl, by simp [lowB], ownB_nil _ _, Below.refl _ _⟩
  case round =>
    obtain ⟨j, m, X, L, A', c', hj, rfl, rfl, rfl, hX, hm, hL, ho, hu⟩ := hrel
    by_cases hlt : j < k
    · have hsz : L.length ≤ 8 := by rw [hL, lowB_length]; omega
      have hBr : w.heap.size ≤ wr.heap.size := hu.size
      have hr1 := rd_new1 wr (UInt8.ofNat X)
      rw [byte_mod] at hr1
      obtain ⟨A2, c2, w2, hrun, ho2, hu2⟩ := append_bytes _ w.heap.size hm (World.ownsRow.alloc ho _) (m := 1) (c2 := 1) rfl hr1 (by simp; omega) (by simp; omega)
      have hu4 := (hu.alloc hBr (.cells #[.int .u8 ((X : Int) % 256)] 5)).trans (hu2.below_own (World.ownsRow.alloc ho _) (by simp; omega))
      have hL2 : L ++ [UInt8.ofNat X] = lowB x (j + 1) := by rw [hL, lowB_snoc, hX]
      have hX2 : X / 256 = x / 256 ^ (j + 1) := by rw [hX, Nat.div_div_eq_div_mul, Nat.pow_succ]
      have HL := Lib.hid hL2
      have HX := Lib.hid hX2
      have HW := Lib.hid (wrap_256 X (by rw [hX]; exact Nat.lt_of_le_of_lt (Nat.div_le_self _ _) HX0.out))
      clear hL2 hX2 hX hm hL ho hu hu2 hr1
      obtain ⟨L2, hL2⟩ : ∃ L2, L2 = L ++ [UInt8.ofNat X] := ⟨_, rfl⟩
      rw [← hL2] at hrun ho2 HL
      clear hL2
      obtain ⟨m2, hm2⟩ : ∃ m2, m2 = L2.length := ⟨_, rfl⟩
      rw [← hm2] at hrun
      have HM := Lib.hid hm2
      clear hm2
      go_wp2_with (at_builtin; refine wpList_append_run rfl rfl rfl rfl hrun ?_; clear hrun)
      go_roundw
      case rel => exact ⟨j + 1, m2, X / 256, L2, A2, c2, by omega, by go_num, congrArg _ HW.out, rfl, HX.out, HM.out, HL.out, ho2, hu4⟩
      case measure => simp [intOf]; omega
    · go_wp2_with fail
      go_ret
      have : j = k := by omega
      subst this
      subst hL
      exact ⟨A', c', by rw [hm]; rfl, ho, hu⟩

/-! ### Put -/
theorem low_nil (w : World) (x : Nat) :
    Calls Try.prog 61 #[.slice none 0 0, .int .u64 (x : Int), .int .i64 4] w fun e w' =>
      ∃ A' c' n', e = .returned (.slice A' n' c') ∧ n' = (lowB x 4).length ∧ OwnB w' w.heap.size A' c' (lowB x 4) ∧ Below w.heap.size w w' :=
  (low_any w w.heap.size (bs := []) rfl (ownB_nil _ _) (Nat.le_refl _) x 4 (by omega) (by simp)).mono fun _ _ ⟨A', c', h1, h2, h3⟩ => ⟨A', c', _, h1, rfl, h2, h3.below_none⟩
theorem low_eight (w : World) (B : Nat) {A : Option Addr} {n c : Nat} {bs : List UInt8} (hn : n = bs.length) (hown : OwnB w B A c bs) (hB : B ≤ w.heap.size) (x : Nat) (hs : bs.length ≤ 1099511627776) :
    Calls Try.prog 61 #[.slice A n c, .int .u64 (x : Int), .int .i64 8] w fun e w' =>
      ∃ A' c' n', e = .returned (.slice A' n' c') ∧ n' = (bs ++ lowB x 8).length ∧ OwnB w' B A' c' (bs ++ lowB x 8) ∧ Upd w w' A bs.length A' :=
  (low_any w B hn hown hB x 8 (by omega) hs).mono fun _ _ ⟨A', c', h1, h2, h3⟩ => ⟨A', c', _, h1, rfl, h2, h3⟩
theorem sum_as (s : ByteArray) (w : World) (hs : s.size ≤ maxLen) (S : Nat) (hS : S = hsum s.data.toList) :
    Calls Try.prog 60 #[.string s] w fun e w' => e = .returned (.int .u64 (S : Int)) ∧ w = w' := by subst hS; exact sum_any s w hs
theorem ref_sum_as (s : ByteArray) (w : World) (hs : s.size ≤ maxLen) (S : Nat) (hS : S = hsum s.data.toList) :
    Calls Try.prog 67 #[.string s] w fun e w' => e = .returned (.int .u64 (S : Int)) ∧ w = w' := by subst hS; exact ref_sum_any s w hs
theorem extract_low {T : ByteArray} {a b : List UInt8} (h : T.data.toList = a ++ b) (ha : a.length = 4) : (T.extract 0 4).data.toList = a := by
  rw [Lib.extract_data, h, List.drop_zero, List.take_append_of_le_length (by omega), List.take_of_length_le (by omega)]
theorem extract_high {T : ByteArray} {a b : List UInt8} (h : T.data.toList = a ++ b) (ha : a.length = 4) (k : Nat) (hk : k = T.size) : (T.extract 4 k).data.toList = b := by
  subst hk
  rw [Lib.extract_to_end, h, List.drop_append_of_le_length (by omega), List.drop_of_length_le (by omega), List.nil_append]
theorem size_eq_of {T : ByteArray} {l : List UInt8} (h : T.data.toList = l) : T.size = l.length := by
  rw [← h, Array.length_toList]; rfl

set_option maxRecDepth 4000 in
set_option maxHeartbeats 1000000 in
theorem put_any (w : World) (B : Nat) {A : Option Addr} {n c : Nat} {bs : List UInt8} (hn : n = bs.length) (hown : OwnB w B A c bs) (hB : B ≤ w.heap.size)
    {B2 : Nat} {A2 : Option Addr} {m c2 : Nat} {r : List UInt8} (hm : m = r.length) (hr : RdB w B2 A2 r) (hB2 : B2 ≤ w.heap.size) (hs : bs.length ≤ 274877906944) (hs2 : r.length ≤ 274877906944) :
    Calls Try.prog 54 #[.slice A n c, .slice A2 m c2] w fun e w' =>
      ∃ A' c' n', e = .returned (.slice A' n' c') ∧ n' = (bs ++ frameOf r).length ∧ OwnB w' B A' c' (bs ++ frameOf r) ∧ Upd w w' A bs.length A' := by
  have hm2 : m ≤ 274877906944 := by omega
  have HM := Lib.hid hm
  have HN := Lib.hid hn
  clear hm hn
  go_enter Try.func54, Try.ntmps54
  go_wp2_with fail
  refine (low_nil w m).mono ?_
  rintro e w1 ⟨A1, c1, n1, rfl, hn1, ho1, hb1⟩
  have hown1 : OwnB w1 B A c bs := own_below hown hb1 (Nat.le_refl _)
  have hr1 : RdB w1 B2 A2 r := hr.below (hb1.mono hB2)
  have hc1 := conv_text w1 (c := c1) hn1 ho1.rd
  have hc2 := conv_text w1 (c := c2) HM.out hr1
  obtain ⟨s1, hs1⟩ : ∃ s1 : ByteArray, s1 = ⟨(lowB m 4).toArray⟩ := ⟨_, rfl⟩
  obtain ⟨s2, hs2'⟩ : ∃ s2 : ByteArray, s2 = ⟨r.toArray⟩ := ⟨_, rfl⟩
  have d1 : s1.data.toList = lowB m 4 := by rw [hs1]
  have d2 : s2.data.toList = r := by rw [hs2']
  have z1 : s1.size = 4 := by rw [size_eq_of d1, lowB_length]
  have z2 : s2.size ≤ 274877906944 := by rw [size_eq_of d2]; exact hs2
  have z1a : 4 ≤ s1.size := by omega
  have z1b : s1.size ≤ 4 := by omega
  rw [← hs1] at hc1
  rw [← hs2'] at hc2
  have dT : (s1 ++ s2).data.toList = lowB r.length 4 ++ r := by rw [← HM.out, ByteArray.data_append, Array.toList_append, d1, d2]
  have D1 := Lib.hid d1
  have D2 := Lib.hid d2
  have DT := Lib.hid dT
  have HC1 := Lib.hid hc1
  have HC2 := Lib.hid hc2
  clear d1 d2 z1 dT hs1 hs2' hc1 hc2 hn1
  go_wp2_with fail
  rw [HC1.out]
  go_wp2_with fail
  rw [HC2.out]
  have e1 := extract_low DT.out (by rw [lowB_length])
  obtain ⟨A3, c3, w2, hrun, ho3, hu3⟩ := append_text w1 B HN.out hown1 ((s1 ++ s2).extract 0 4) (by rw [size_eq_of e1, lowB_length]; omega) (Nat.le_trans hB hb1.size)
  rw [e1] at hrun ho3
  obtain ⟨n3, hn3⟩ : ∃ n3, n3 = (bs ++ lowB r.length 4).length := ⟨_, rfl⟩
  rw [← hn3] at hrun
  have HN3 := Lib.hid hn3
  clear hn3 e1
  go_wp2_with (at_builtin; refine wpList_append_run rfl rfl rfl rfl hrun ?_; clear hrun)
  obtain ⟨S, hS⟩ : ∃ S, S = hsum (s1 ++ s2).data.toList := ⟨_, rfl⟩
  refine (sum_as _ _ (by rw [ByteArray.size_append]; unfold maxLen; omega) S hS).mono ?_
  have HS := Lib.hid hS
  clear hS
  rintro e w' ⟨rfl, rfl⟩
  go_wp2_with fail
  refine (low_eight w2 B HN3.out ho3 (Nat.le_trans hB (Nat.le_trans hb1.size hu3.size)) S (by rw [List.length_append, lowB_length]; omega)).mono ?_
  rintro e w3 ⟨A4, c4, n4, rfl, hn4, ho4, hu4⟩
  have HN4 := Lib.hid hn4
  clear hn4
  have e2 := extract_high DT.out (by rw [lowB_length]) (s1.size + s2.size) ByteArray.size_append.symm
  obtain ⟨A5, c5, w4, hrun, ho5, hu5⟩ := append_text w3 B HN4.out ho4 ((s1 ++ s2).extract 4 (s1.size + s2.size)) (by rw [size_eq_of e2]; simp only [List.length_append, lowB_length]; omega) (Nat.le_trans hB (Nat.le_trans hb1.size (Nat.le_trans hu3.size hu4.size)))
  rw [e2] at hrun ho5
  have eF : bs ++ lowB r.length 4 ++ lowB S 8 ++ r = bs ++ frameOf r := by rw [HS.out, DT.out, frameOf]; simp only [List.append_assoc]
  rw [eF] at hrun ho5
  obtain ⟨n5, hn5⟩ : ∃ n5, n5 = (bs ++ frameOf r).length := ⟨_, rfl⟩
  rw [← hn5] at hrun
  have HN5 := Lib.hid hn5
  clear hn5 e2 eF
  have hlt0 := own_lt hown1
  have hlt := own_lt hown
  have hU := (hu3.trans hu4 (by rw [List.length_append]; omega) hlt0).trans hu5 (by simp only [List.length_append]; omega) hlt0
  have hU1 : Upd w w1 A bs.length A := Upd.of_below hb1 hlt
  have hU2 := hU1.trans hU (Nat.le_refl _) hlt
  go_wp2_with (at_builtin; refine wpList_append_run rfl rfl rfl rfl hrun ?_; clear hrun)
  go_ret
  exact ⟨A5, c5, n5, rfl, HN5.out, ho5, hU2⟩

/-! ### the reference's frame -/
theorem ref_low_four (w : World) (x : Nat) (hx : x < M) :
    Calls Try.prog 66 #[.int .u64 (x : Int), .int .i64 4] w fun e w' =>
      ∃ A' c' n', e = .returned (.slice A' n' c') ∧ n' = (lowB x 4).length ∧ OwnB w' w.heap.size A' c' (lowB x 4) ∧ Below w.heap.size w w' :=
  (ref_low_any w x 4 hx (by omega)).mono fun _ _ ⟨A', c', h1, h2, h3⟩ => ⟨A', c', _, h1, rfl, h2, h3⟩
theorem ref_low_eight (w : World) (x : Nat) (hx : x < M) :
    Calls Try.prog 66 #[.int .u64 (x : Int), .int .i64 8] w fun e w' =>
      ∃ A' c' n', e = .returned (.slice A' n' c') ∧ n' = (lowB x 8).length ∧ OwnB w' w.heap.size A' c' (lowB x 8) ∧ Below w.heap.size w w' :=
  (ref_low_any w x 8 hx (by omega)).mono fun _ _ ⟨A', c', h1, h2, h3⟩ => ⟨A', c', _, h1, rfl, h2, h3⟩

set_option maxRecDepth 4000 in
set_option maxHeartbeats 1000000 in
theorem ref_frame_any (w : World) {B2 : Nat} {A2 : Option Addr} {m c2 : Nat} {r : List UInt8} (hm : m = r.length) (hr : RdB w B2 A2 r) (hB2 : B2 ≤ w.heap.size) (hs2 : r.length ≤ 274877906944) :
    Calls Try.prog 58 #[.slice A2 m c2] w fun e w' =>
      ∃ A' c' n', e = .returned (.slice A' n' c') ∧ n' = (frameOf r).length ∧ OwnB w' w.heap.size A' c' (frameOf r) ∧ Below w.heap.size w w' := by
  have hm2 : m ≤ 274877906944 := by omega
  have hmM : m < M := by unfold M; omega
  have HMM := Lib.hid hmM
  have HM := Lib.hid hm
  clear hm hmM
  go_enter Try.func58, Try.ntmps58
  go_wp2_with fail
  refine (ref_low_four w m HMM.out).mono ?_
  rintro e w1 ⟨A1, c1, n1, rfl, hn1, ho1, hb1⟩
  have hr1 : RdB w1 B2 A2 r := hr.below (hb1.mono hB2)
  obtain ⟨A3, c3, w2, hrun, ho3, hu3⟩ := append_bytes (w1.alloc (.cells #[] 5)) w.heap.size (n := 0) (c := 0) rfl (ownB_made w1 w.heap.size hb1.size) hn1 (c2 := c1) ((ho1.rd).alloc (Nat.le_refl _) _) (by rw [lowB_length]; simp) (by simp; have := hb1.size; omega)
  simp only [List.nil_append] at hrun ho3
  obtain ⟨n3, hn3⟩ : ∃ n3, n3 = (lowB m 4).length := ⟨_, rfl⟩
  rw [← hn3] at hrun
  have HN3 := Lib.hid hn3
  clear hn3
  have hbx : Below w1.heap.size w1 w2 := ((Below.refl _ _).alloc (Nat.le_refl _) _).trans ((hu3.below (fun ad e => by injection e with e; subst e; exact Nat.le_refl _) (by simp)))
  have HN1 := Lib.hid hn1
  clear hn1
  go_wp2_with (at_builtin; refine wpList_append_run rfl rfl rfl rfl hrun ?_; clear hrun)
  have hrd1 : RdB w2 w1.heap.size A1 (lowB m 4) := ho1.rd.below hbx
  have hb2 : Below w.heap.size w w2 := hb1.trans (hbx.mono hb1.size)
  have hr2 : RdB w2 B2 A2 r := hr.below (hb2.mono hB2)
  have hc1 := conv_text w2 (c := c1) HN1.out hrd1
  have hc2 := conv_text w2 (c := c2) HM.out hr2
  obtain ⟨s1, hs1⟩ : ∃ s1 : ByteArray, s1 = ⟨(lowB m 4).toArray⟩ := ⟨_, rfl⟩
  obtain ⟨s2, hs2'⟩ : ∃ s2 : ByteArray, s2 = ⟨r.toArray⟩ := ⟨_, rfl⟩
  have d1 : s1.data.toList = lowB m 4 := by rw [hs1]
  have d2 : s2.data.toList = r := by rw [hs2']
  have z1 : s1.size = 4 := by rw [size_eq_of d1, lowB_length]
  have z2 : s2.size ≤ 274877906944 := by rw [size_eq_of d2]; exact hs2
  have z1b : s1.size ≤ 4 := by omega
  rw [← hs1] at hc1
  rw [← hs2'] at hc2
  have dT : (s1 ++ s2).data.toList = lowB r.length 4 ++ r := by rw [← HM.out, ByteArray.data_append, Array.toList_append, d1, d2]
  have DT := Lib.hid dT
  have HC1 := Lib.hid hc1
  have HC2 := Lib.hid hc2
  clear d1 d2 z1 dT hs1 hs2' hc1 hc2
  rw [HC1.out]
  go_wp2_with fail
  rw [HC2.out]
  go_wp2_with fail
  obtain ⟨S, hS⟩ : ∃ S, S = hsum (s1 ++ s2).data.toList := ⟨_, rfl⟩
  refine (ref_sum_as _ _ (by rw [ByteArray.size_append]; unfold maxLen; omega) S hS).mono ?_
  have HS := Lib.hid hS
  clear hS
  rintro e w' ⟨rfl, rfl⟩
  go_wp2_with fail
  refine (ref_low_eight w2 S (by rw [HS.out]; exact sum_lt _)).mono ?_
  rintro e w3 ⟨A4, c4, n4, rfl, hn4, ho4, hb3⟩
  obtain ⟨A5, c5, w4, hrun, ho5, hu5⟩ := append_bytes w3 w.heap.size HN3.out (own_below ho3 hb3 (Nat.le_refl _)) hn4 (c2 := c4) ho4.rd (by simp only [lowB_length]; omega) (Nat.le_trans hb2.size hb3.size)
  have HN4 := Lib.hid hn4
  clear hn4
  obtain ⟨n5, hn5⟩ : ∃ n5, n5 = (lowB m 4 ++ lowB S 8).length := ⟨_, rfl⟩
  rw [← hn5] at hrun
  have HN5 := Lib.hid hn5
  clear hn5
  have hb4 : Below w.heap.size w w4 := (hb2.trans (hb3.mono hb2.size)).trans (hu5.below_own (own_below ho3 hb3 (Nat.le_refl _)) (Nat.le_trans hb2.size hb3.size))
  obtain ⟨A6, c6, w5, hrun6, ho6, hu6⟩ := append_bytes w4 w.heap.size HN5.out ho5 HM.out (c2 := c2) (hr.below (hb4.mono hB2)) (by simp only [List.length_append, lowB_length]; omega) hb4.size
  have eF : lowB m 4 ++ lowB S 8 ++ r = frameOf r := by rw [HS.out, DT.out, frameOf, HM.out]; simp only [List.append_assoc]
  rw [eF] at hrun6 ho6
  obtain ⟨n6, hn6⟩ : ∃ n6, n6 = (frameOf r).length := ⟨_, rfl⟩
  rw [← hn6] at hrun6
  have HN6 := Lib.hid hn6
  clear hn6
  have hb5 : Below w.heap.size w w5 := hb4.trans (hu6.below_own ho5 hb4.size)
  go_wp2_with (first | (at_builtin; refine wpList_append_run rfl rfl rfl rfl hrun ?_; clear hrun) | (at_builtin; refine wpList_append_run rfl rfl rfl rfl hrun6 ?_; clear hrun6))
  go_ret
  exact ⟨A6, c6, n6, rfl, HN6.out, ho6, hb5⟩
end Go.Proofs.Ytjipjfionelpkaa.frameWalk
