/- Plain law: the parts of a float64 (sign, size, exponent; not a number, infinite, finite) and how the model reads them. Condition: the bits are below 2^64. -/
import Derived.Test.YtoefahgookhicaaGreatDoorBesafterLawRound
namespace Go.Proofs.YtoefahgookhicaaGreatDoorBesafter
open Ieee

/-- The parts of a finite float64 with the bits x: sign, size, the power of two beneath. -/
def fE (x : Nat) : Nat := if x / 2 ^ 52 % 2048 = 0 then 1 else x / 2 ^ 52 % 2048
def fM (x : Nat) : Nat := if x / 2 ^ 52 % 2048 = 0 then x % 2 ^ 52 else x % 2 ^ 52 + 2 ^ 52
def fN (x : Nat) : Nat := fM x * 2 ^ (fE x - 1075)
def fK (x : Nat) : Nat := 1075 - fE x
def fS (x : Nat) : Bool := decide (2 ^ 63 ≤ x)

/-- Not a number; an infinity; finite. -/
def isN (x : Nat) : Bool := decide (top < x % 2 ^ 63)
def isI (x : Nat) : Bool := x % 2 ^ 63 == top
def Fin64 (x : Nat) : Prop := x / 2 ^ 52 % 2048 ≠ 2047

theorem top_eq : top = 9218868437227405312 := rfl

theorem read_sign (x : Nat) (hx : x < 2 ^ 64) : (x / double.signWeight % 2 == 1) = fS x := by
  have h : double.signWeight = 9223372036854775808 := rfl
  rw [h]
  unfold fS
  by_cases h2 : 2 ^ 63 ≤ x
  · rw [decide_eq_true h2]; exact beq_iff_eq.2 (by omega)
  · rw [decide_eq_false h2]; exact beq_eq_false_iff_ne.2 (by omega)

theorem read_fin {x : Nat} (hx : x < 2 ^ 64) (hf : Fin64 x) : double.read x = .number (fS x) (fM x) ((fE x : Int) - 1075) := by
  have hs := read_sign x hx
  have h1 : double.signWeight = 9223372036854775808 := rfl
  have h2 : double.binade = 4503599627370496 := rfl
  have h3 : double.infRung = 9218868437227405312 := rfl
  have h4 : double.leastPlace = -1074 := rfl
  unfold Format.read
  rw [hs, h1, h2, h3, h4]
  simp only []
  have hf' : x / 4503599627370496 % 2048 ≠ 2047 := hf
  have dE : fE x = if x / 4503599627370496 % 2048 = 0 then 1 else x / 4503599627370496 % 2048 := rfl
  have dM : fM x = if x / 4503599627370496 % 2048 = 0 then x % 4503599627370496 else x % 4503599627370496 + 4503599627370496 := rfl
  by_cases h0 : x / 4503599627370496 % 2048 = 0
  · rw [if_pos h0] at dE dM
    rw [if_pos (by omega), dE, dM]
    congr 1
    omega
  · rw [if_neg h0] at dE dM
    rw [if_neg (by omega), if_pos (by omega), dE, dM]
    congr 1 <;> omega

theorem read_inf {x : Nat} (hx : x < 2 ^ 64) (h : isI x = true) : double.read x = .infinity (fS x) := by
  have hs := read_sign x hx
  have h1 : double.signWeight = 9223372036854775808 := rfl
  have h2 : double.binade = 4503599627370496 := rfl
  have h3 : double.infRung = 9218868437227405312 := rfl
  have h' : x % 9223372036854775808 = 9218868437227405312 := beq_iff_eq.1 h
  unfold Format.read
  rw [hs, h1, h2, h3]
  simp only []
  rw [if_neg (by omega), if_neg (by omega), if_pos h']

theorem read_nan {x : Nat} (hx : x < 2 ^ 64) (h : isN x = true) : ∃ f, double.read x = .nan (fS x) f := by
  have hs := read_sign x hx
  have h1 : double.signWeight = 9223372036854775808 := rfl
  have h2 : double.binade = 4503599627370496 := rfl
  have h3 : double.infRung = 9218868437227405312 := rfl
  have h' : 9218868437227405312 < x % 9223372036854775808 := of_decide_eq_true h
  unfold Format.read
  rw [hs, h1, h2, h3]
  simp only []
  rw [if_neg (by omega), if_neg (by omega), if_neg (by omega)]
  exact ⟨_, rfl⟩

/-- One of the three. -/
theorem float_cases (x : Nat) : isN x = true ∧ isI x = false ∨ isN x = false ∧ isI x = true ∨ isN x = false ∧ isI x = false ∧ Fin64 x := by
  unfold isN isI Fin64
  rw [top_eq]
  rcases Nat.lt_trichotomy (x % 2 ^ 63) 9218868437227405312 with h | h | h
  · right; right
    exact ⟨decide_eq_false (by omega), beq_eq_false_iff_ne.2 (by omega), by omega⟩
  · right; left
    exact ⟨decide_eq_false (by omega), beq_iff_eq.2 h⟩
  · left
    exact ⟨decide_eq_true h, beq_eq_false_iff_ne.2 (by omega)⟩

theorem order_self (x : Nat) (hx : x < 2 ^ 64) : (double.order x x != some .eq) = isN x := by
  unfold Format.order
  rcases float_cases x with ⟨h, _⟩ | ⟨h, h2⟩ | ⟨h, _, h3⟩
  · obtain ⟨f, hf⟩ := read_nan hx h
    rw [hf, h]
    rfl
  · rw [read_inf hx h2, h]
    cases fS x <;> rfl
  · rw [read_fin hx h3, h]
    simp [Datum.order, Std.ReflCmp.compare_self]

theorem cmp_eq (a b : Int) : (some (compare a b) == some Ordering.eq) = decide (a = b) := by
  by_cases h : a = b
  · subst h; simp [Std.ReflCmp.compare_self]
  · have : compare a b ≠ .eq := fun e => h (Std.LawfulEqCmp.compare_eq_iff_eq.1 e)
    simp [h, this]

theorem cmp_gt (a b : Int) : (some (compare a b) == some Ordering.gt) = decide (b < a) := by
  by_cases h : b < a
  · have : compare a b = .gt := Int.compare_eq_gt.2 h
    simp [h, this]
  · have : compare a b ≠ .gt := fun e => h (Int.compare_eq_gt.1 e)
    simp [h, this]

theorem cmp_lt (a b : Int) : (some (compare a b) == some Ordering.lt) = decide (a < b) := by
  by_cases h : a < b
  · have : compare a b = .lt := Int.compare_eq_lt.2 h
    simp [h, this]
  · have : compare a b ≠ .lt := fun e => h (Int.compare_eq_lt.1 e)
    simp [h, this]

theorem read_zero : double.read 0 = .number false 0 (-1074) := by decide

theorem signed_zero (s : Bool) (m i : Nat) : signed s m i = 0 ↔ m = 0 := by
  unfold signed
  rw [Nat.shiftLeft_eq]
  have h : m * 2 ^ i = 0 ↔ m = 0 := by
    have := pow_pos2 i
    constructor
    · intro h
      rcases Nat.mul_eq_zero.1 h with h | h <;> omega
    · intro h
      rw [h, Nat.zero_mul]
  rw [← h]
  generalize m * 2 ^ i = q
  cases s
  · rw [if_neg (by decide)]; omega
  · rw [if_pos rfl]; omega

theorem fM_zero {x : Nat} (hf : Fin64 x) : fM x = 0 ↔ x % 2 ^ 63 = 0 := by
  have hf' : x / 4503599627370496 % 2048 ≠ 2047 := hf
  have dM : fM x = if x / 4503599627370496 % 2048 = 0 then x % 4503599627370496 else x % 4503599627370496 + 4503599627370496 := rfl
  rw [dM]
  split <;> omega

theorem order_zero (x : Nat) (hx : x < 2 ^ 64) : (double.order x 0 == some .eq) = (x % 2 ^ 63 == 0) := by
  unfold Format.order
  rw [read_zero]
  rcases float_cases x with ⟨h, _⟩ | ⟨h, h2⟩ | ⟨h, _, h3⟩
  · obtain ⟨f, hf⟩ := read_nan hx h
    rw [hf]
    have h' : 9218868437227405312 < x % 9223372036854775808 := of_decide_eq_true h
    exact (beq_eq_false_iff_ne.2 (by omega)).symm
  · rw [read_inf hx h2]
    have h' : x % 9223372036854775808 = 9218868437227405312 := beq_iff_eq.1 h2
    have e : (x % 2 ^ 63 == 0) = false := beq_eq_false_iff_ne.2 (by omega)
    rw [e]
    cases fS x <;> rfl
  · rw [read_fin hx h3]
    simp only [Datum.order]
    rw [cmp_eq]
    have hz : signed false 0 ((-1074 : Int) - min ((fE x : Int) - 1075) (-1074)).toNat = 0 := (signed_zero _ _ _).2 rfl
    rw [hz]
    by_cases hm : fM x = 0
    · rw [decide_eq_true ((signed_zero _ _ _).2 hm)]
      exact (beq_iff_eq.2 ((fM_zero h3).1 hm)).symm
    · rw [decide_eq_false (fun h => hm ((signed_zero _ _ _).1 h))]
      exact (beq_eq_false_iff_ne.2 (fun h => hm ((fM_zero h3).2 h))).symm

end Go.Proofs.YtoefahgookhicaaGreatDoorBesafter
