/- Plain law: a row of words divided by a power of two whose top bit is set, one word of the quotient at a time. No program in sight. -/
import Derived.Test.YtoefahgookhicaaGreatDoorBesafterLawBits
namespace Go.Proofs.YtoefahgookhicaaGreatDoorBesafter

/-! The division of words by a power of two, word by word from above. -/

theorem val_same_len {a b : List Nat} (ha : Ws a) (hb : Ws b) (hl : a.length = b.length) (h : val a = val b) : a = b := by
  induction a generalizing b with
  | nil => cases b with
    | nil => rfl
    | cons y r => simp at hl
  | cons x r ih => cases b with
    | nil => simp at hl
    | cons y r' =>
      simp only [val] at h
      have h1 := ha.head
      have h2 := hb.head
      have : x = y := by omega
      subst this
      rw [ih ha.tail hb.tail (by simpa using hl) (by omega)]

theorem val_inj {a b : List Nat} (ha : Ws a) (hb : Ws b) (ta : Tr a) (tb : Tr b) (h : val a = val b) : a = b := by
  refine val_same_len ha hb ?_ h
  rcases Nat.lt_trichotomy a.length b.length with hl | hl | hl
  · have := val_lt_of_length ha tb hl; omega
  · exact hl
  · have := val_lt_of_length hb ta hl; omega

/-- The divisor, shifted so that its last word's first digit is 1. -/
def topWord (n : Nat) : List Nat := List.replicate (n - 1) 0 ++ [2147483648]
theorem topWord_ws (n : Nat) : Ws (topWord n) := (Ws.zeros _).append (Ws.cons (by decide) Ws.nil)
theorem topWord_tr (n : Nat) : Tr (topWord n) := fun _ => by simp [topWord]
theorem topWord_val (n : Nat) : val (topWord n) = 4294967296 ^ (n - 1) * 2147483648 := by
  unfold topWord; rw [val_snoc, val_zeros, List.length_replicate, Nat.zero_add]
theorem topWord_len {n : Nat} (h : 1 ≤ n) : (topWord n).length = n := by unfold topWord; simp; omega
theorem topWord_low {n i : Nat} (h : i < n - 1) : (topWord n).getD i 0 = 0 := by
  unfold topWord
  rw [List.getD_eq_getElem?_getD, List.getElem?_append_left (by simpa using h)]
  simp [h]
theorem topWord_top {n : Nat} : (topWord n).getD (n - 1) 0 = 2147483648 := by
  unfold topWord
  rw [List.getD_eq_getElem?_getD, List.getElem?_append_right (by simp)]
  simp

theorem split3 {U : List Nat} (p : Nat) (hp : p + 1 < U.length) : val U = val (U.take p) + 4294967296 ^ p * (U.getD p 0 + 4294967296 * (U.getD (p + 1) 0 + 4294967296 * val (U.drop (p + 2)))) := by
  rw [val_drop U p (by omega)]
  congr 2
  have h1 : ∀ j, val (U.drop j) = U.getD j 0 + 4294967296 * val (U.drop (j + 1)) := fun j => by
    by_cases h : j < U.length
    · rw [List.drop_eq_getElem_cons h, val, List.getD_eq_getElem?_getD, List.getElem?_eq_getElem h]; rfl
    · rw [List.drop_of_length_le (by omega), List.drop_of_length_le (by omega), List.getD_eq_getElem?_getD, List.getElem?_eq_none (by omega)]; rfl
  rw [h1 p, h1 (p + 1)]

/-- One round: at p and p + 1 the two words whose quotient by the divisor's last word is sought; nothing above. -/
theorem divStep {U : List Nat} {p x y : Nat} (hU : Ws U) (hp : p + 1 < U.length) (hlt : val U < 2147483648 * 4294967296 ^ (p + 1)) (hx : U.getD p 0 = x) (hy : U.getD (p + 1) 0 = y) :
    y < 2147483648 ∧ (x + 4294967296 * y) / 2147483648 < 4294967296 ∧
    val ((U.set p ((x + 4294967296 * y) % 2147483648)).set (p + 1) 0) + 2147483648 * 4294967296 ^ p * ((x + 4294967296 * y) / 2147483648) = val U ∧
    val ((U.set p ((x + 4294967296 * y) % 2147483648)).set (p + 1) 0) < 2147483648 * 4294967296 ^ p := by
  have e := split3 p hp
  have lo := val_lt (hU.take p)
  rw [List.length_take, Nat.min_eq_left (by omega)] at lo
  have hxw : x < 4294967296 := by rw [← hx]; exact hU.getD p
  rw [hx, hy] at e
  generalize val (U.take p) = l at *
  generalize val (U.drop (p + 2)) = z at *
  have hP := pow32_pos p
  rw [Nat.pow_succ] at hlt
  have hq : x + 4294967296 * (y + 4294967296 * z) < 2147483648 * 4294967296 := by
    refine Nat.lt_of_mul_lt_mul_left (a := 4294967296 ^ p) ?_
    have : 2147483648 * (4294967296 ^ p * 4294967296) = 4294967296 ^ p * (2147483648 * 4294967296) := by ac_rfl
    omega
  have hz : z = 0 := by omega
  have hyl : y < 2147483648 := by omega
  subst hz
  have s1 := val_set U p ((x + 4294967296 * y) % 2147483648) (by omega)
  have s2 := val_set (U.set p ((x + 4294967296 * y) % 2147483648)) (p + 1) 0 (by rw [List.length_set]; omega)
  have g2 : (U.set p ((x + 4294967296 * y) % 2147483648)).getD (p + 1) 0 = y := by
    rw [List.getD_eq_getElem?_getD, List.getElem?_set_ne (by omega), ← List.getD_eq_getElem?_getD, hy]
  rw [hx] at s1
  rw [g2, Nat.mul_zero, Nat.add_zero, Nat.pow_succ] at s2
  generalize val (U.set p ((x + 4294967296 * y) % 2147483648)) = v1 at *
  generalize val ((U.set p ((x + 4294967296 * y) % 2147483648)).set (p + 1) 0) = v2 at *
  have hdm := Nat.div_add_mod (x + 4294967296 * y) 2147483648
  have hr := Nat.mod_lt (x + 4294967296 * y) (by decide : 0 < 2147483648)
  generalize (x + 4294967296 * y) / 2147483648 = g at *
  generalize (x + 4294967296 * y) % 2147483648 = r at *
  generalize 4294967296 ^ p = P at *
  have e1 : P * (x + 4294967296 * (y + 4294967296 * 0)) = P * x + P * 4294967296 * y := by rw [Nat.mul_zero, Nat.add_zero, Nat.mul_add, ← Nat.mul_assoc]
  have e2 : P * (2147483648 * g + r) = P * (x + 4294967296 * y) := by rw [hdm]
  rw [Nat.mul_add, Nat.mul_add, ← Nat.mul_assoc, ← Nat.mul_assoc, Nat.mul_comm P 2147483648] at e2
  have e3 : P * (r + 1) ≤ P * 2147483648 := Nat.mul_le_mul_left _ hr
  rw [Nat.mul_succ] at e3
  refine ⟨hyl, by omega, by omega, by omega⟩

/-- What is subtracted, word by word. -/
theorem subWords (x y g r : Nat) (hx : x < 4294967296) (_hy : y < 2147483648) (hg : g = (x + 4294967296 * y) / 2147483648) (hr : r = (x + 4294967296 * y) % 2147483648) :
    ∃ c1 d : Nat, d ≤ 1 ∧ c1 + d = y ∧ c1 = g * 2147483648 / 4294967296 ∧ x + 4294967296 * d = r + g * 2147483648 % 4294967296 := by
  refine ⟨g * 2147483648 / 4294967296, if r ≤ x then 0 else 1, ?_, ?_, rfl, ?_⟩
  · split <;> omega
  · split <;> omega
  · split <;> omega

end Go.Proofs.YtoefahgookhicaaGreatDoorBesafter
