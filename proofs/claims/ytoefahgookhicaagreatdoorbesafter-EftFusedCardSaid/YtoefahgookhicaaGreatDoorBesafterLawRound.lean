/- Plain law: how the model's float64 rounds a number m times a power of two: by rungs, ties to the even one. No program in sight. -/
import Ieee.Arith
namespace Go.Proofs.YtoefahgookhicaaGreatDoorBesafter
open Ieee

theorem pow_pos2 (n : Nat) : 0 < 2 ^ n := Nat.pow_pos (by decide)

theorem log2_unique {n e : Nat} (h1 : 2 ^ e ≤ n) (h2 : n < 2 ^ (e + 1)) : n.log2 = e := by
  have hn : n ≠ 0 := by have := pow_pos2 e; omega
  have a : e ≤ n.log2 := (Nat.le_log2 hn).2 h1
  have b : n.log2 < e + 1 := (Nat.log2_lt hn).2 h2
  omega

theorem log2_lo {n : Nat} (h : n ≠ 0) : 2 ^ n.log2 ≤ n := Nat.log2_self_le h
theorem log2_hi (n : Nat) : n < 2 ^ (n.log2 + 1) := Nat.lt_log2_self

theorem log2_mul_pow (n t : Nat) (h : n ≠ 0) : (n * 2 ^ t).log2 = n.log2 + t := by
  apply log2_unique
  · rw [Nat.pow_add]; exact Nat.mul_le_mul_right _ (log2_lo h)
  · rw [show n.log2 + t + 1 = (n.log2 + 1) + t by omega, Nat.pow_add]
    exact Nat.mul_lt_mul_of_pos_right (log2_hi n) (pow_pos2 t)

/-- A fraction as the nearest whole number, of two the even one. -/
def rhe (n d : Nat) : Nat := n / d + (if d < 2 * (n % d) ∨ (d = 2 * (n % d) ∧ n / d % 2 = 1) then 1 else 0)

theorem rhe_scale (n d t : Nat) (ht : 0 < t) : rhe (n * t) (d * t) = rhe n d := by
  unfold rhe
  rw [Nat.mul_div_mul_right _ _ ht, Nat.mul_mod_mul_right]
  have e1 : (d * t < 2 * (n % d * t)) ↔ (d < 2 * (n % d)) := by
    rw [show 2 * (n % d * t) = (2 * (n % d)) * t by rw [Nat.mul_assoc]]
    exact Nat.mul_lt_mul_right ht
  have e2 : (d * t = 2 * (n % d * t)) ↔ (d = 2 * (n % d)) := by
    rw [show 2 * (n % d * t) = (2 * (n % d)) * t by rw [Nat.mul_assoc]]
    exact Nat.mul_right_cancel_iff ht
  simp only [e1, e2]

theorem rhe_ratio {n d n' d' : Nat} (hd : 0 < d) (hd' : 0 < d') (h : n * d' = n' * d) : rhe n d = rhe n' d' := by
  rw [← rhe_scale n d d' hd', ← rhe_scale n' d' d hd, h, Nat.mul_comm d d']

theorem cut_even (neg : Bool) (n drop : Nat) : Toward.even.cut neg n drop = rhe n (2 ^ drop) := by
  unfold Toward.cut rhe
  simp only [Nat.shiftLeft_eq, Nat.one_mul]
  by_cases hd : drop ≤ n.log2 + 2
  · rw [Nat.min_eq_left hd]
    congr 1
    by_cases h1 : 2 ^ drop < 2 * (n % 2 ^ drop)
    · simp [h1]
    · by_cases h2 : 2 ^ drop = 2 * (n % 2 ^ drop)
      · by_cases h3 : n / 2 ^ drop % 2 = 1 <;> simp [← h2, h3]
      · simp [h1, h2]
  · rw [Nat.min_eq_right (by omega)]
    have h1 := log2_hi n
    have h2 : 2 ^ (n.log2 + 2) = 2 * 2 ^ (n.log2 + 1) := by rw [Nat.pow_succ]; omega
    have h3 : 2 ^ (n.log2 + 2) ≤ 2 ^ drop := Nat.pow_le_pow_right (by decide) (by omega)
    have a1 : n / 2 ^ (n.log2 + 2) = 0 := Nat.div_eq_of_lt (by omega)
    have a2 : n % 2 ^ (n.log2 + 2) = n := Nat.mod_eq_of_lt (by omega)
    have b1 : n / 2 ^ drop = 0 := Nat.div_eq_of_lt (by omega)
    have b2 : n % 2 ^ drop = n := Nat.mod_eq_of_lt (by omega)
    rw [a1, a2, b1, b2]
    have c1 : ¬ 2 ^ (n.log2 + 2) < 2 * n := by omega
    have c2 : ¬ 2 ^ drop < 2 * n := by omega
    simp [c1, c2]

/-- The last place that is kept of 'mag * 2 ^ place'. -/
def lastOf (mag : Nat) (place : Int) : Int := max (place + mag.log2 - 52) (-1074)

/-- The rung of 'mag * 2 ^ place', as high as it comes. -/
def rung (mag : Nat) (place : Int) : Nat :=
  (lastOf mag place + 1074).toNat * 2 ^ 52 + rhe (mag * 2 ^ (place - lastOf mag place).toNat) (2 ^ (lastOf mag place - place).toNat)

def top : Nat := 2047 * 2 ^ 52
def sgn (s : Bool) (r : Nat) : Nat := if s then 2 ^ 63 + r else r

theorem word_double (s : Bool) (r : Nat) : double.word s r = sgn s r := rfl
theorem infRung_double : double.infRung = top := rfl
theorem leastPlace_double : double.leastPlace = -1074 := rfl

theorem nearest_rung (s : Bool) (m : Nat) (p : Int) (h : m ≠ 0) : double.nearest s m p = sgn s (min (rung m p) top) := by
  unfold Format.nearest
  rw [if_neg h]
  simp only [cut_even, word_double, infRung_double, leastPlace_double, Nat.shiftLeft_eq]
  rfl

theorem nearest_zero (s : Bool) (p : Int) : double.nearest s 0 p = sgn s 0 := rfl

theorem lastOf_scale (m t : Nat) (p : Int) (h : m ≠ 0) : lastOf (m * 2 ^ t) (p - t) = lastOf m p := by
  unfold lastOf; rw [log2_mul_pow m t h]; congr 1; omega

theorem rung_scale (m t : Nat) (p : Int) (h : m ≠ 0) : rung (m * 2 ^ t) (p - t) = rung m p := by
  unfold rung
  rw [lastOf_scale m t p h]
  generalize lastOf m p = L
  congr 1
  apply rhe_ratio (pow_pos2 _) (pow_pos2 _)
  rw [Nat.mul_assoc, Nat.mul_assoc, Nat.mul_assoc, ← Nat.pow_add, ← Nat.pow_add, ← Nat.pow_add]
  congr 2
  omega

theorem nearest_scale (s : Bool) (m t : Nat) (p : Int) : double.nearest s (m * 2 ^ t) (p - t) = double.nearest s m p := by
  by_cases h : m = 0
  · subst h; simp [nearest_zero]
  · rw [nearest_rung _ _ _ h, nearest_rung _ _ _ (by have := pow_pos2 t; exact Nat.ne_of_gt (Nat.mul_pos (by omega) this)), rung_scale m t p h]

/-- Two spellings of one number. -/
theorem nearest_same (s : Bool) {m m' : Nat} {p p' : Int} (t t' : Nat) (hm : m * 2 ^ t = m' * 2 ^ t') (hp : p - t = p' - t') : double.nearest s m p = double.nearest s m' p' := by
  rw [← nearest_scale s m t p, ← nearest_scale s m' t' p', hm, hp]

theorem rhe_one (n : Nat) : rhe n 1 = n := by unfold rhe; simp [Nat.mod_one]

/-- What a float has is written as it is. -/
theorem rung_exact (q : Nat) (p : Int) (h0 : q ≠ 0) (h1 : q < 2 ^ 53) (h2 : -1074 ≤ p) (h3 : p = -1074 ∨ 2 ^ 52 ≤ q) : rung q p = (p + 1074).toNat * 2 ^ 52 + q := by
  have hl : q.log2 < 53 := (Nat.log2_lt h0).2 h1
  have hL : lastOf q p = p := by
    unfold lastOf
    rcases h3 with h3 | h3
    · subst h3; omega
    · have : 52 ≤ q.log2 := (Nat.le_log2 h0).2 h3
      omega
  unfold rung
  rw [hL]
  simp [rhe_one]

theorem rhe_le {n d c : Nat} (hd : 0 < d) (h : n ≤ c * d) : rhe n d ≤ c := by
  unfold rhe
  have e := Nat.div_add_mod n d
  have l := Nat.mod_lt n hd
  by_cases hq : n / d < c
  · split <;> omega
  · have hq' : c ≤ n / d := by omega
    have : c * d ≤ d * (n / d) := by rw [Nat.mul_comm]; exact Nat.mul_le_mul_left d hq'
    have hr : n % d = 0 := by omega
    have hc : n / d ≤ c := by
      have : d * (n / d) ≤ d * c := by rw [Nat.mul_comm d c]; omega
      exact Nat.le_of_mul_le_mul_left this hd
    rw [hr, if_neg (by omega)]; omega

theorem le_rhe {n d c : Nat} (hd : 0 < d) (h : c * d ≤ n) : c ≤ rhe n d := by
  unfold rhe
  have : c ≤ n / d := (Nat.le_div_iff_mul_le hd).2 h
  omega

/-- Where the nearest number to a fraction is 2^53, and it is not below, the half of it is nearest to 2^52. -/
theorem rhe_half {n d c : Nat} (hd : 0 < d) (hlo : 2 * c * d ≤ n) (h : rhe n d = 2 * c) : rhe n (d * 2) = c := by
  unfold rhe at h ⊢
  have e := Nat.div_add_mod n d
  have l := Nat.mod_lt n hd
  have hq : 2 * c ≤ n / d := (Nat.le_div_iff_mul_le hd).2 hlo
  have hq' : n / d = 2 * c := by split at h <;> omega
  rw [hq'] at e h
  have hno : ¬ (d < 2 * (n % d) ∨ (d = 2 * (n % d) ∧ 2 * c % 2 = 1)) := by
    intro hh; rw [if_pos hh] at h; omega
  have e2 : n = n % d + c * (d * 2) := by
    have : d * (2 * c) = c * (d * 2) := by rw [Nat.mul_comm c, Nat.mul_assoc]
    omega
  have a1 : n / (d * 2) = c := by
    rw [e2, Nat.add_mul_div_right _ _ (by omega), Nat.div_eq_of_lt (by omega)]; omega
  have a2 : n % (d * 2) = n % d := by
    conv => lhs; rw [e2]
    rw [Nat.add_mul_mod_self_right, Nat.mod_eq_of_lt (by omega)]
  rw [a1, a2]
  rw [if_neg (by omega)]; omega


/-! What the reference's 'near' comes to, of n / 2^k. -/

def place0 (n k : Nat) : Int := max ((n.log2 : Int) - k - 53) (-1074)
def nearAt (n k : Nat) (p : Int) : Nat := rhe (n * 2 ^ (-p).toNat) (2 ^ (k + p.toNat))
def nearOut (n k : Nat) : Nat × Int :=
  if nearAt n k (place0 n k) < 2 ^ 53 then (nearAt n k (place0 n k), place0 n k)
  else if nearAt n k (place0 n k) = 2 ^ 53 then (2 ^ 52, place0 n k + 1)
  else if nearAt n k (place0 n k + 1) < 2 ^ 53 then (nearAt n k (place0 n k + 1), place0 n k + 1)
  else (2 ^ 52, place0 n k + 2)

theorem rung_nearAt (n k : Nat) : rung n (-k) = (lastOf n (-k) + 1074).toNat * 2 ^ 52 + nearAt n k (lastOf n (-k)) := by
  unfold rung nearAt
  congr 1
  apply rhe_ratio (pow_pos2 _) (pow_pos2 _)
  rw [Nat.mul_assoc, Nat.mul_assoc, ← Nat.pow_add, ← Nat.pow_add]
  congr 2
  omega

theorem nearAt_le {n k : Nat} {p : Int} {c : Nat} (h : (n.log2 : Int) + 1 + (-p).toNat ≤ c + k + p.toNat) : nearAt n k p ≤ 2 ^ c := by
  unfold nearAt
  apply rhe_le (pow_pos2 _)
  have h1 := Nat.le_of_lt (log2_hi n)
  refine Nat.le_trans (Nat.mul_le_mul_right _ h1) ?_
  rw [← Nat.pow_add, ← Nat.pow_add]
  exact Nat.pow_le_pow_right (by decide) (by omega)

theorem num_ge {n k : Nat} {p : Int} {c : Nat} (hn : n ≠ 0) (h : (c : Int) + k + p.toNat ≤ n.log2 + (-p).toNat) : 2 ^ c * 2 ^ (k + p.toNat) ≤ n * 2 ^ (-p).toNat := by
  refine Nat.le_trans ?_ (Nat.mul_le_mul_right _ (log2_lo hn))
  rw [← Nat.pow_add, ← Nat.pow_add]
  exact Nat.pow_le_pow_right (by decide) (by omega)

theorem le_nearAt {n k : Nat} {p : Int} {c : Nat} (hn : n ≠ 0) (h : (c : Int) + k + p.toNat ≤ n.log2 + (-p).toNat) : 2 ^ c ≤ nearAt n k p :=
  le_rhe (pow_pos2 _) (num_ge hn h)

theorem nearAt_next {n k : Nat} {p : Int} (hn : n ≠ 0) (h : (53 : Int) + k + p.toNat ≤ n.log2 + (-p).toNat) (hq : nearAt n k p = 2 ^ 53) : nearAt n k (p + 1) = 2 ^ 52 := by
  have e : nearAt n k (p + 1) = rhe (n * 2 ^ (-p).toNat) (2 ^ (k + p.toNat) * 2) := by
    unfold nearAt
    apply rhe_ratio (pow_pos2 _) (Nat.mul_pos (pow_pos2 _) (by decide))
    rw [← Nat.pow_succ, Nat.mul_assoc, Nat.mul_assoc, ← Nat.pow_add, ← Nat.pow_add]
    congr 2
    omega
  rw [e]
  exact rhe_half (pow_pos2 _) (by have := num_ge hn h; simpa using this) (show rhe _ _ = 2 ^ 53 from hq)

theorem nearOut_spec (n k : Nat) (hn : n ≠ 0) :
    ((nearOut n k).2 + 1074).toNat * 2 ^ 52 + (nearOut n k).1 = rung n (-k) ∧ (nearOut n k).1 < 2 ^ 53 ∧ -1074 ≤ (nearOut n k).2 ∧ ((nearOut n k).2 = -1074 ∨ 2 ^ 52 ≤ (nearOut n k).1) ∧ (nearOut n k).2 ≤ max ((n.log2 : Int) - k - 51) (-1072) := by
  have hr := rung_nearAt n k
  have hL : lastOf n (-k) = max ((n.log2 : Int) - k - 52) (-1074) := by unfold lastOf; congr 1; omega
  by_cases hc : (n.log2 : Int) - k - 52 ≤ -1074
  · have e1 : lastOf n (-k) = -1074 := by omega
    have e2 : place0 n k = -1074 := by unfold place0; omega
    rw [e1] at hr
    have hle : nearAt n k (-1074) ≤ 2 ^ 53 := nearAt_le (by omega)
    unfold nearOut
    rw [e2]
    by_cases h1 : nearAt n k (-1074) < 2 ^ 53
    · rw [if_pos h1]; refine ⟨hr.symm, h1, ?_, Or.inl rfl, ?_⟩ <;> simp only <;> omega
    · rw [if_neg h1, if_pos (by omega)]
      refine ⟨?_, ?_, ?_, Or.inr ?_, ?_⟩ <;> simp only <;> omega
  · have e1 : lastOf n (-k) = (n.log2 : Int) - k - 52 := by omega
    have e2 : place0 n k = (n.log2 : Int) - k - 53 := by unfold place0; omega
    have e3 : lastOf n (-k) = place0 n k + 1 := by omega
    have hp : -1074 ≤ place0 n k := by omega
    rw [e3] at hr
    have hlo : 2 ^ 53 ≤ nearAt n k (place0 n k) := le_nearAt hn (by omega)
    have hlo' : 2 ^ 52 ≤ nearAt n k (place0 n k + 1) := le_nearAt hn (by omega)
    have hhi' : nearAt n k (place0 n k + 1) ≤ 2 ^ 53 := nearAt_le (by omega)
    have hnx : nearAt n k (place0 n k) = 2 ^ 53 → nearAt n k (place0 n k + 1) = 2 ^ 52 := nearAt_next hn (by omega)
    unfold nearOut
    generalize place0 n k = p at *
    generalize nearAt n k p = q at *
    generalize nearAt n k (p + 1) = q' at *
    rw [if_neg (by omega)]
    by_cases h1 : q = 2 ^ 53
    · rw [if_pos h1]; have := hnx h1; refine ⟨?_, ?_, ?_, Or.inr ?_, ?_⟩ <;> simp only <;> omega
    · rw [if_neg h1]
      by_cases h2 : q' < 2 ^ 53
      · rw [if_pos h2]; refine ⟨?_, ?_, ?_, Or.inr ?_, ?_⟩ <;> simp only <;> omega
      · rw [if_neg h2]; refine ⟨?_, ?_, ?_, Or.inr ?_, ?_⟩ <;> simp only <;> omega

end Go.Proofs.YtoefahgookhicaaGreatDoorBesafter
