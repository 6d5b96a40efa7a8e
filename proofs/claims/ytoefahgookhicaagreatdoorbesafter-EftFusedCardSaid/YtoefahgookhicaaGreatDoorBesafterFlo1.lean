/- Walk: the float's small functions (Abs, IsInf, IsNaN, Signbit, NaN, Copysign of 0) and the reference's fraction of a float. -/
import Derived.Test.YtoefahgookhicaaGreatDoorBesafterRat5
namespace Go.Proofs.YtoefahgookhicaaGreatDoorBesafter
open Go.RowKit Ieee

theorem bits_andNot_nat (a b c : Nat) (ha : a < 18446744073709551616) (hc : c < 18446744073709551616) (hb : (~~~ (BitVec.ofInt 64 (b : Int))) = BitVec.ofNat 64 c) :
    bits .andNot .u64 (a : Int) (b : Int) = ((a &&& c : Nat) : Int) := by
  have hx : a &&& c < 2 ^ 64 := Nat.and_lt_two_pow _ (by omega)
  have h1 : (BitVec.ofInt 64 (a : Int)).toNat = a := by
    rw [BitVec.ofInt_natCast, BitVec.toNat_ofNat]; exact Nat.mod_eq_of_lt (by omega)
  have h2 : (BitVec.ofNat 64 c).toNat = c := by
    rw [BitVec.toNat_ofNat]; exact Nat.mod_eq_of_lt (by omega)
  show IntKind.u64.wrap ((BitVec.ofInt 64 (a : Int) &&& ~~~ (BitVec.ofInt 64 (b : Int))).toNat : Int) = _
  rw [hb, BitVec.toNat_and, h1, h2, IntKind.wrap_u64]
  omega

theorem mask_not (y : Nat) (hy : y < 18446744073709551616) : bits BinOp.andNot IntKind.u64 (y : Int) 9223372036854775808 = ((y % 9223372036854775808 : Nat) : Int) := by
  have h := bits_andNot_nat y 9223372036854775808 9223372036854775807 hy (by omega) (by decide)
  rw [show (9223372036854775807 : Nat) = 2 ^ 63 - 1 from rfl, Nat.and_two_pow_sub_one_eq_mod] at h
  exact h

theorem and_pow63 (y : Nat) : y &&& 2 ^ 63 = if y.testBit 63 then 2 ^ 63 else 0 := by
  apply Nat.eq_of_testBit_eq
  intro i
  rw [Nat.testBit_and, Nat.testBit_two_pow]
  by_cases h : 63 = i
  · subst h
    cases hb : y.testBit 63
    · rw [if_neg (by decide)]; simp
    · rw [if_pos rfl, Nat.testBit_two_pow]; simp
  · rw [decide_eq_false h, Bool.and_false]
    split
    · rw [Nat.testBit_two_pow, decide_eq_false h]
    · simp

theorem mask_notexp (y : Nat) (hy : y < 9223372036854775808) : bits BinOp.andNot IntKind.u64 (y : Int) 9218868437227405312 = ((y % 4503599627370496 : Nat) : Int) := by
  have h := bits_andNot_nat y 9218868437227405312 9227875636482146303 (by omega) (by omega) (by decide)
  rw [show (9227875636482146303 : Nat) = (2 ^ 52 - 1) ||| 2 ^ 63 by decide, Nat.and_or_distrib_left, Nat.and_two_pow_sub_one_eq_mod, and_pow63, Nat.testBit_lt_two_pow hy, if_neg (by decide), Nat.or_zero] at h
  exact h

theorem mask_sign (y : Nat) (hy : y < 18446744073709551616) : bits BinOp.and IntKind.u64 (y : Int) 9223372036854775808 = ((sgn (fS y) 0 : Nat) : Int) := by
  have h := bits_and_u64_nat y 9223372036854775808 hy (by omega)
  rw [show (9223372036854775808 : Nat) = 2 ^ 63 from rfl, and_pow63] at h
  refine h.trans ?_
  congr 1
  unfold fS sgn
  rw [Nat.testBit_eq_decide_div_mod_eq]
  by_cases h2 : 2 ^ 63 ≤ y
  · rw [decide_eq_true (p := 2 ^ 63 ≤ y) h2, decide_eq_true (by omega)]
  · rw [decide_eq_false (p := 2 ^ 63 ≤ y) h2, decide_eq_false (by omega)]

set_option maxHeartbeats 400000 in
theorem abs64_calls (x : Nat) (hx : x < 18446744073709551616) (w : World) : Calls Tryz.prog 30 #[.float .f64 x] w fun e w' => e = .returned (.float .f64 (x % 9223372036854775808)) ∧ w = w' := by
  have h1 := call_bits x w
  have h2 := call_frombits (x % 9223372036854775808) w
  have h3 := mask_not x hx
  generalize x % 9223372036854775808 = y at *
  go_enter Tryz.func30, Tryz.ntmps30
  go_wp2
  go_ret
  exact ⟨rfl, rfl⟩

theorem order_max (y : Nat) (hy : y < 2 ^ 63) : (double.order y 9218868437227405311 == some .gt) = isI y := by
  have rm : double.read 9218868437227405311 = .number false 9007199254740991 971 := by decide
  unfold Format.order
  rw [rm]
  rcases float_cases y with ⟨h, h2⟩ | ⟨h, h2⟩ | ⟨h, h2, h3⟩
  · obtain ⟨f, hf⟩ := read_nan (by omega) h
    rw [hf, h2]
    rfl
  · rw [read_inf (by omega) h2, h2]
    have : fS y = false := decide_eq_false (by omega)
    rw [this]
    rfl
  · rw [read_fin (by omega) h3, h2]
    have hs : fS y = false := decide_eq_false (by omega)
    have hM := fM_lt y
    have hE := fE_lt y h3
    rw [hs]
    simp only [Datum.order]
    rw [cmp_gt]
    refine decide_eq_false ?_
    unfold signed
    simp only [Bool.false_eq_true, if_false]
    rw [Nat.shiftLeft_eq, Nat.shiftLeft_eq]
    have e1 : ((fE y : Int) - 1075 - min ((fE y : Int) - 1075) 971) = 0 := by omega
    rw [e1]
    have h1 : 0 < 2 ^ (971 - min ((fE y : Int) - 1075) 971).toNat := pow_pos2 _
    generalize 2 ^ (971 - min ((fE y : Int) - 1075) 971).toNat = q at *
    have h4 : fM y ≤ 9007199254740991 * q := by
      calc fM y ≤ 9007199254740991 * 1 := by omega
        _ ≤ _ := Nat.mul_le_mul_left _ h1
    have h5 : fM y * 2 ^ (0 : Int).toNat = fM y := by simp
    rw [h5]
    omega

set_option maxHeartbeats 400000 in
theorem isInf_calls (x : Nat) (hx : x < 18446744073709551616) (w : World) : Calls Tryz.prog 13 #[.float .f64 x, .int .i64 0] w fun e w' => e = .returned (.bool (isI x)) ∧ w = w' := by
  have ha := Lib.hid (abs64_calls x hx w)
  have hl : x % 9223372036854775808 < 2 ^ 63 := Nat.mod_lt _ (by decide)
  have ho : (FloatKind.f64.format.order (x % 9223372036854775808) 9218868437227405311 == some Ordering.gt) = isI x := by
    refine (order_max _ hl).trans ?_
    unfold isI
    rw [show x % 9223372036854775808 % 2 ^ 63 = x % 2 ^ 63 by omega]
  generalize x % 9223372036854775808 = y at *
  clear hl
  go_enter Tryz.func13, Tryz.ntmps13
  go_wp2_with fail
  refine ha.out.mono ?_
  rintro e w' ⟨rfl, rfl⟩
  go_wp2
  go_ret
  exact ⟨rfl, rfl⟩

set_option maxHeartbeats 400000 in
theorem isNan_calls (x : Nat) (hx : x < 2 ^ 64) (w : World) : Calls Tryz.prog 62 #[.float .f64 x] w fun e w' => e = .returned (.bool (isN x)) ∧ w = w' := by
  have ho : (FloatKind.f64.format.order x x != some Ordering.eq) = isN x := order_self x hx
  clear hx
  go_enter Tryz.func62, Tryz.ntmps62
  go_wp2
  go_ret
  exact ⟨rfl, rfl⟩

set_option maxHeartbeats 400000 in
theorem signbit_calls (x : Nat) (hx : x < 18446744073709551616) (w : World) : Calls Tryz.prog 14 #[.float .f64 x] w fun e w' => e = .returned (.bool (fS x)) ∧ w = w' := by
  have h1 := call_bits x w
  have h2 : decide (wrap64 (x : Int) < 0) = fS x := by
    unfold fS wrap64
    by_cases h : 2 ^ 63 ≤ x
    · rw [decide_eq_true h]; exact decide_eq_true (by omega)
    · rw [decide_eq_false h]; exact decide_eq_false (by omega)
  clear hx
  go_enter Tryz.func14, Tryz.ntmps14
  go_wp2
  go_ret
  exact ⟨rfl, rfl⟩

set_option maxHeartbeats 400000 in
set_option maxRecDepth 100000 in
theorem nan_calls (w : World) : Calls Tryz.prog 12 #[] w fun e w' => ∃ x, IsNan x ∧ e = .returned (.float .f64 x) ∧ w = w' := by
  obtain ⟨x, h0, h1⟩ : ∃ x, IsNan x ∧ (callFunc 29 #[.int .u64 9221120237041090561]).run Tryz.prog w = .ok (.value (.float .f64 x)) w := ⟨_, by unfold IsNan; decide, call_frombits 9221120237041090561 w⟩
  have H0 := Lib.hid h0
  clear h0
  go_enter Tryz.func12, Tryz.ntmps12
  go_wp2
  go_ret
  exact ⟨x, H0.out, rfl, rfl⟩

set_option maxHeartbeats 400000 in
set_option maxRecDepth 100000 in
theorem copysign_calls (y : Nat) (hy : y < 18446744073709551616) (w : World) : Calls Tryz.prog 20 #[.float .f64 0, .float .f64 y] w fun e w' => e = .returned (.float .f64 (sgn (fS y) 0)) ∧ w = w' := by
  have h1 : (callFunc 10 #[.float .f64 0]).run Tryz.prog w = .ok (.value (.int .u64 0)) w := call_bits 0 w
  have h2 := call_bits y w
  have h3 : bits BinOp.andNot IntKind.u64 0 9223372036854775808 = 0 := mask_not 0 (by decide)
  have h4 := mask_sign y hy
  have h5 : sgn (fS y) 0 < 18446744073709551616 := by unfold sgn; split <;> omega
  have h6 : bits BinOp.or IntKind.u64 0 ((sgn (fS y) 0 : Nat) : Int) = ((sgn (fS y) 0 : Nat) : Int) := by
    have h := bits_or_u64_nat 0 (sgn (fS y) 0) (by omega) h5
    rw [Nat.zero_or] at h
    exact h
  have h7 := call_frombits (sgn (fS y) 0) w
  generalize sgn (fS y) 0 = z at *
  clear hy h5
  go_enter Tryz.func20, Tryz.ntmps20
  go_wp2
  go_ret
  exact ⟨rfl, rfl⟩

/-- A new fraction at b. -/
def NewR (w : World) (s : Bool) (n k : Nat) (e : Ending) (w' : World) : Prop :=
  ∃ b n' k', e = .returned (.pointer (some ⟨b, 0, none⟩)) ∧ w.heap.size ≤ b ∧ n' * 2 ^ k = n * 2 ^ k' ∧ n' ≤ n ∧ k' ≤ k ∧ RatAt w' b s n' k' ∧ Below w.heap.size w w'

set_option maxHeartbeats 400000 in
/-- (enclosureref.Rat) -/
theorem ratOf_calls {w : World} {x : Nat} (hx : x < 18446744073709551616) (hf : Fin64 x) : Calls Tryz.prog 16 #[.float .f64 x] w (NewR w (nz (fS x) (fN x)) (fN x) (fK x)) := by
  have h4 : R4 (w.alloc (.cells #[.bool false, .slice none 0 0, .bool false, .slice none 0 0] 39)) w.heap.size (.bool false) (.slice none 0 0) (.bool false) (.slice none 0 0) := heap_alloc_new w _
  have h := Lib.hid (setFloat_calls h4 hx hf)
  clear h4
  go_enter Tryz.func16, Tryz.ntmps16
  go_wp2_with fail
  refine h.out.mono ?_
  rintro e w5 ⟨n', k', rfl, e1, e2, e3, hr, hg⟩
  have E1 := Lib.hid e1
  have HR := Lib.hid hr
  have HG := Lib.hid hg
  clear e1 hr hg
  go_wp2
  go_ret
  refine ⟨_, n', k', rfl, Nat.le_refl _, E1.out, e2, e3, HR.out, ?_⟩
  have hg := HG.out
  exact ⟨hg.os, hg.tape, hg.output, by have := hg.size; simp at this; omega, fun i hi => (hg.block i (by simp; omega) (by simp; omega)).trans (heap_alloc_old w _ hi)⟩

end Go.Proofs.YtoefahgookhicaaGreatDoorBesafter
