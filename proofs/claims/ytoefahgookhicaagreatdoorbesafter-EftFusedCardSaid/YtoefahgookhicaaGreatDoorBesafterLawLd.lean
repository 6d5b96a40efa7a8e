/- Plain law: whole numbers of at most 53 bits as floats; the products that Ldexp forms at its end. No program in sight. -/
import Derived.Test.YtoefahgookhicaaGreatDoorBesafterLawFlo
namespace Go.Proofs.YtoefahgookhicaaGreatDoorBesafter
open Ieee

theorem log2_le {q : Nat} (h0 : q ≠ 0) (h : q < 2 ^ 53) : q.log2 ≤ 52 := by
  have := (Nat.log2_lt h0 (k := 53)).2 h
  omega

/-- The size of a whole number below 2^53, shifted to 53 digits. -/
theorem shifted {q : Nat} (h0 : q ≠ 0) (h : q < 2 ^ 53) : 2 ^ 52 ≤ q * 2 ^ (52 - q.log2) ∧ q * 2 ^ (52 - q.log2) < 2 ^ 53 := by
  have h1 := log2_le h0 h
  have h2 := log2_lo h0
  have h3 := log2_hi q
  constructor
  · calc 2 ^ 52 = 2 ^ q.log2 * 2 ^ (52 - q.log2) := by rw [← Nat.pow_add]; congr 1; omega
      _ ≤ _ := Nat.mul_le_mul_right _ h2
  · calc q * 2 ^ (52 - q.log2) < 2 ^ (q.log2 + 1) * 2 ^ (52 - q.log2) := Nat.mul_lt_mul_of_pos_right h3 (pow_pos2 _)
      _ = 2 ^ 53 := by rw [← Nat.pow_add]; congr 1; omega

theorem fofi {q : Nat} (h0 : q ≠ 0) (h : q < 2 ^ 53) : double.nearest false q 0 = (1022 + q.log2) * 2 ^ 52 + q * 2 ^ (52 - q.log2) := by
  have h1 := log2_le h0 h
  obtain ⟨h2, h3⟩ := shifted h0 h
  have h4 : q * 2 ^ (52 - q.log2) ≠ 0 := by omega
  have e := nearest_scale false q (52 - q.log2) 0
  rw [← e, nearest_rung _ _ _ h4, rung_exact _ _ h4 h3 (by omega) (Or.inr h2)]
  rw [show ((0 : Int) - ((52 - q.log2 : Nat) : Int) + 1074).toNat = 1022 + q.log2 by omega]
  rw [Nat.min_eq_left (by rw [top_eq]; omega)]
  rfl

/-- The product of a power of two and a finite number. -/
theorem mul_fin {x y : Nat} (hx : x < 2 ^ 64) (hy : y < 2 ^ 64) (h1 : Fin64 x) (h2 : Fin64 y) : double.mul x y = some (double.nearest (fS x ^^ fS y) (fM x * fM y) ((fE x : Int) - 1075 + ((fE y : Int) - 1075))) := by
  unfold Format.mul
  rw [read_fin hx h1, read_fin hy h2]
  rfl

theorem parts {y E f : Nat} (h1 : y / 2 ^ 52 = E) (h2 : y % 2 ^ 52 = f) (hE : 1 ≤ E) (hE2 : E ≤ 2046) : y < 2 ^ 63 ∧ Fin64 y ∧ fS y = false ∧ fE y = E ∧ fM y = f + 2 ^ 52 := by
  have h1' : y / 4503599627370496 = E := h1
  have h2' : y % 4503599627370496 = f := h2
  have dE : fE y = if y / 4503599627370496 % 2048 = 0 then 1 else y / 4503599627370496 % 2048 := rfl
  have dM : fM y = if y / 4503599627370496 % 2048 = 0 then y % 4503599627370496 else y % 4503599627370496 + 4503599627370496 := rfl
  have hF : Fin64 y ↔ y / 4503599627370496 % 2048 ≠ 2047 := Iff.rfl
  have hS : fS y = decide (9223372036854775808 ≤ y) := rfl
  rw [if_neg (by omega)] at dE dM
  refine ⟨by omega, hF.2 (by omega), hS.trans (decide_eq_false (by omega)), by omega, by omega⟩

/-- 1 * y. -/
theorem one_mul64 {y E f : Nat} (h1 : y / 2 ^ 52 = E) (h2 : y % 2 ^ 52 = f) (hE : 1 ≤ E) (hE2 : E ≤ 2046) : double.mul 4607182418800017408 y = some y := by
  obtain ⟨a1, a2, a3, a4, a5⟩ := parts h1 h2 hE hE2
  rw [mul_fin (by decide) (by omega) (by unfold Fin64; decide) a2, a3, a4, a5]
  rw [show fS 4607182418800017408 = false by decide, show fM 4607182418800017408 = 2 ^ 52 by decide, show fE 4607182418800017408 = 1023 by decide]
  have hf : f < 2 ^ 52 := by omega
  rw [Nat.mul_comm, show (((1023 : Nat) : Int) - 1075 + ((E : Int) - 1075)) = ((E : Int) - 1075) - ((52 : Nat) : Int) by omega]
  rw [nearest_scale, nearest_rung _ _ _ (by omega), rung_exact _ _ (by omega) (by omega) (by omega) (Or.inr (by omega))]
  rw [show ((E : Int) - 1075 + 1074).toNat = E - 1 by omega, Nat.min_eq_left (by rw [top_eq]; omega)]
  have : sgn (false ^^ false) ((E - 1) * 2 ^ 52 + (f + 2 ^ 52)) = (E - 1) * 2 ^ 52 + (f + 2 ^ 52) := rfl
  rw [this]
  congr 1
  omega

/-- 2^-53 * y, where that is the q-th number from zero. -/
theorem tiny_mul64 {y q : Nat} (h0 : q ≠ 0) (h : q < 2 ^ 52) (h1 : y / 2 ^ 52 = q.log2 + 2) (h2 : y % 2 ^ 52 + 2 ^ 52 = q * 2 ^ (52 - q.log2)) : double.mul 4368491638549381120 y = some q := by
  have hl := log2_le h0 (by omega)
  obtain ⟨a1, a2, a3, a4, a5⟩ := parts (f := y % 2 ^ 52) h1 rfl (by omega) (by omega)
  rw [mul_fin (by decide) (by omega) (by unfold Fin64; decide) a2, a3, a4, a5, h2]
  rw [show fS 4368491638549381120 = false by decide, show fM 4368491638549381120 = 2 ^ 52 by decide, show fE 4368491638549381120 = 970 by decide]
  rw [show (false ^^ false) = false from rfl, nearest_same false (m := 2 ^ 52 * (q * 2 ^ (52 - q.log2))) (m' := q) (p' := -1074) 0 (104 - q.log2) (by
    rw [Nat.pow_zero, Nat.mul_one, Nat.mul_comm, Nat.mul_assoc, ← Nat.pow_add]; congr 2; omega) (by omega)]
  rw [nearest_rung _ _ _ h0, rung_exact _ _ h0 (by omega) (by omega) (Or.inl rfl)]
  rw [Nat.min_eq_left (by rw [top_eq]; omega)]
  simp [sgn]

end Go.Proofs.YtoefahgookhicaaGreatDoorBesafter
