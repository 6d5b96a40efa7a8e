/- Plain law: what the reference's rounding to 53 bits answers, case by case. No program in sight. -/
import Derived.Test.YtoefahgookhicaaGreatDoorBesafterLawBits
namespace Go.Proofs.YtoefahgookhicaaGreatDoorBesafter

theorem nearOut_0a {n k : Nat} {p : Int} (hp : place0 n k = p) (h : nearAt n k p < 2 ^ 53) : nearOut n k = (nearAt n k p, p) := by
  subst hp; unfold nearOut; rw [if_pos h]
theorem nearOut_0b {n k : Nat} {p : Int} (hp : place0 n k = p) (h : nearAt n k p = 2 ^ 53) : nearOut n k = (2 ^ 52, p + 1) := by
  subst hp; unfold nearOut; rw [if_neg (by omega), if_pos h]
theorem nearOut_1a {n k : Nat} {p : Int} (hp : place0 n k = p) (h0 : 2 ^ 53 < nearAt n k p) (h : nearAt n k (p + 1) < 2 ^ 53) : nearOut n k = (nearAt n k (p + 1), p + 1) := by
  subst hp; unfold nearOut; rw [if_neg (by omega), if_neg (by omega), if_pos h]
theorem nearOut_1b {n k : Nat} {p : Int} (hp : place0 n k = p) (h0 : 2 ^ 53 < nearAt n k p) (h : nearAt n k (p + 1) = 2 ^ 53) : nearOut n k = (2 ^ 52, p + 2) := by
  subst hp; unfold nearOut; rw [if_neg (by omega), if_neg (by omega), if_neg (by omega)]

theorem nearAt_first {n k : Nat} {p : Int} (hp : place0 n k = p) : nearAt n k p ≤ 2 ^ 54 := by
  subst hp; apply nearAt_le; unfold place0; omega
theorem nearAt_second {n k : Nat} {p : Int} (hp : place0 n k = p) : nearAt n k (p + 1) ≤ 2 ^ 53 := by
  subst hp; apply nearAt_le; unfold place0; omega

/-- Is it rounded up? -/
def upOf (N D : Nat) : Bool := decide (D < 2 * (N % D)) || (decide (2 * (N % D) = D) && decide (N / D % 2 = 1))
theorem nearAt_up (n k : Nat) (p : Int) (N D : Nat) (hN : n * 2 ^ (-p).toNat = N) (hD : 2 ^ (k + p.toNat) = D) : nearAt n k p = N / D + (if upOf N D then 1 else 0) := by
  subst hN; subst hD
  unfold nearAt rhe upOf
  congr 1
  by_cases h1 : 2 ^ (k + p.toNat) < 2 * (n * 2 ^ (-p).toNat % 2 ^ (k + p.toNat))
  · simp [h1]
  · by_cases h2 : 2 ^ (k + p.toNat) = 2 * (n * 2 ^ (-p).toNat % 2 ^ (k + p.toNat))
    · by_cases h3 : n * 2 ^ (-p).toNat / 2 ^ (k + p.toNat) % 2 = 1 <;> simp [← h2, h3]
    · have h2' : ¬ 2 * (n * 2 ^ (-p).toNat % 2 ^ (k + p.toNat)) = 2 ^ (k + p.toNat) := fun h => h2 h.symm
      simp [h1, h2, h2']

end Go.Proofs.YtoefahgookhicaaGreatDoorBesafter
