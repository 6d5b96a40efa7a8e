/- Plain law: the bounds on the reference's numbers, and that what it hands back is what the model's FMA gives. Condition: three finite floats. -/
import Derived.Test.YtoefahgookhicaaGreatDoorBesafterRat5
import Derived.Test.YtoefahgookhicaaGreatDoorBesafterLawFma
namespace Go.Proofs.YtoefahgookhicaaGreatDoorBesafter
open Ieee

/-- The value that the reference reckons: its sum's numerator over 2^(i + j). -/
def refV (x y z n1 n2 n3 m i j : Nat) : Int :=
  iv (nz (nz (nz (fS x) (fN x) != nz (fS y) (fN y)) (n1 * n2)) (n1 * n2)) (m * 2 ^ j) + iv (nz (fS z) (fN z)) (n3 * 2 ^ i)

theorem mul_small {a b c d : Nat} (h1 : Small a c) (h2 : Small b d) : Small (a * b) (c + d) := by
  unfold Small at *
  rw [Nat.pow_add]
  exact Nat.mul_lt_mul'' h1 h2

theorem iv_abs (s t : Bool) (a b : Nat) : (iv s a + iv t b).natAbs ≤ a + b := by
  unfold iv
  cases s <;> cases t
  · show ((a : Int) + (b : Int)).natAbs ≤ _; omega
  · show ((a : Int) + -(b : Int)).natAbs ≤ _; omega
  · show (-(a : Int) + (b : Int)).natAbs ≤ _; omega
  · show (-(a : Int) + -(b : Int)).natAbs ≤ _; omega

theorem Small.le {a b L : Nat} (h : Small b L) (hab : a ≤ b) : Small a L := Nat.lt_of_le_of_lt hab h

theorem add_small {a b L : Nat} (h1 : Small a L) (h2 : Small b L) : Small (a + b) (L + 1) := by
  unfold Small at *
  rw [Nat.pow_succ]
  omega

theorem shift_small {a c k : Nat} (h : Small a c) : Small (a * 2 ^ k) (c + k) := by
  unfold Small at *
  rw [Nat.pow_add]
  exact Nat.mul_lt_mul_of_pos_right h (pow_pos2 k)

/-- The value is below 2^2050. -/
theorem value_log {n c k A L : Nat} (hn : n ≠ 0) (h : n * 2 ^ c = A * 2 ^ k) (hA : Small A (L + c)) : n.log2 ≤ k + L := by
  have h1 : n * 2 ^ c < 2 ^ (L + k) * 2 ^ c := by
    rw [h, ← Nat.pow_add, show L + k + c = (L + c) + k by omega, Nat.pow_add 2 (L + c) k]
    exact Nat.mul_lt_mul_of_pos_right hA (pow_pos2 k)
  have h2 : n < 2 ^ (L + k) := Nat.lt_of_mul_lt_mul_right h1
  have := (Nat.log2_lt hn).2 h2
  omega

theorem zero_sign {s t : Bool} {a b : Nat} (h : iv s a + iv t b = 0) (hs : s = true) (ht : t = true) : a = 0 := by
  subst hs
  subst ht
  have h' : -(a : Int) + -(b : Int) = 0 := h
  omega

/-- What the three numbers read as, and the first two's product. -/
structure Read3 (x y z n1 n2 n3 k1 k2 m i j : Nat) : Prop where
  h1 : n1 * 2 ^ fK x = fN x * 2 ^ k1
  l1 : n1 ≤ fN x
  b1 : k1 ≤ fK x
  h2 : n2 * 2 ^ fK y = fN y * 2 ^ k2
  l2 : n2 ≤ fN y
  b2 : k2 ≤ fK y
  hm : m * 2 ^ (k1 + k2) = n1 * n2 * 2 ^ i
  lm : m ≤ n1 * n2
  bi : i ≤ k1 + k2
  h3 : n3 * 2 ^ fK z = fN z * 2 ^ j
  l3 : n3 ≤ fN z
  b3 : j ≤ fK z

theorem two_bounds {x y n1 n2 k1 k2 : Nat} (fx : Fin64 x) (fy : Fin64 y) (l1 : n1 ≤ fN x) (b1 : k1 ≤ fK x) (l2 : n2 ≤ fN y) (b2 : k2 ≤ fK y) :
    Small n1 10000 ∧ Small n2 10000 ∧ Small (n1 * n2) 2048 ∧ Small (2 ^ k1) 10000 ∧ Small (2 ^ k2) 10000 ∧ Small (2 ^ (k1 + k2)) 10000 ∧ k1 + k2 ≤ 2148 := by
  have sx := (fN_small x fx).le l1
  have sy := (fN_small y fy).le l2
  have kx := fK_le x fx
  have ky := fK_le y fy
  exact ⟨sx.up (by decide), sy.up (by decide), (mul_small sx sy).up (by decide), small_two (by omega), small_two (by omega), small_two (by omega), by omega⟩

theorem three_bounds {x y z n1 n2 n3 k1 k2 m i j : Nat} (fx : Fin64 x) (fy : Fin64 y) (fz : Fin64 z) (r : Read3 x y z n1 n2 n3 k1 k2 m i j) :
    Small m 10000 ∧ Small n3 10000 ∧ Small (m * 2 ^ j) 10000 ∧ Small (n3 * 2 ^ i) 10000 ∧ Small (refV x y z n1 n2 n3 m i j).natAbs (2049 + (i + j)) ∧ Small (2 ^ i) 10000 ∧ Small (2 ^ j) 10000 ∧ Small (2 ^ (i + j)) 10000 ∧ i + j ≤ 3222 := by
  obtain ⟨_, _, s12, _, _, _, k12⟩ := two_bounds fx fy r.l1 r.b1 r.l2 r.b2
  have sm := s12.le r.lm
  have s3 := (fN_small z fz).le r.l3
  have kz := fK_le z fz
  have hi := r.bi
  have hj := r.b3
  have sA : Small (m * 2 ^ j) (2048 + j) := shift_small sm
  have sB : Small (n3 * 2 ^ i) (1024 + i) := shift_small s3
  have sV : Small (refV x y z n1 n2 n3 m i j).natAbs (2049 + (i + j)) :=
    (add_small (L := 2048 + (i + j)) (sA.up (by omega)) (sB.up (by omega))).le (iv_abs _ _ _ _) |>.up (by omega)
  exact ⟨sm.up (by decide), s3.up (by decide), sA.up (by omega), sB.up (by omega), sV, small_two (by omega), small_two (by omega), small_two (by omega), by omega⟩

theorem fE_le (x : Nat) (hf : Fin64 x) : fE x ≤ 2046 := (fE_lt x hf).2

/-- THE LAW: what the reference hands back is what the model's FMA gives. -/
theorem fin_law {x y z n1 n2 n3 k1 k2 m i j n k : Nat} (hx : x < 2 ^ 64) (hy : y < 2 ^ 64) (hz : z < 2 ^ 64) (fx : Fin64 x) (fy : Fin64 y) (fz : Fin64 z) (r : Read3 x y z n1 n2 n3 k1 k2 m i j)
    (hn : n * 2 ^ (i + j) = (refV x y z n1 n2 n3 m i j).natAbs * 2 ^ k) (hk : k ≤ i + j) :
    (n ≠ 0 → double.fma x y z = some (double.nearest (isgn (refV x y z n1 n2 n3 m i j)) n (-(k : Int))) ∧ n.log2 ≤ k + 2050) ∧
    (n = 0 → double.fma x y z = some (sgn ((fS x ^^ fS y) && fS z) 0) ∧ (x % 2 ^ 63 ≠ 0 → y % 2 ^ 63 ≠ 0 → ((fS x ^^ fS y) && fS z) = false)) := by
  obtain ⟨_, _, _, _, sV, _, _, _, hij⟩ := three_bounds fx fy fz r
  have hV := ref_value (fE_le x fx) (fE_le y fy) (fE_le z fz) r.h1 r.b1 r.h2 r.b2 r.h3 r.b3 r.hm r.bi
  have hf := ref_fma hx hy hz fx fy fz (c := i + j) (n := n) (k := k) (V := refV x y z n1 n2 n3 m i j) hV (by omega) hn hk
  refine ⟨fun h0 => ⟨hf.1 h0, ?_⟩, fun h0 => ⟨hf.2 h0, fun hx0 hy0 => ?_⟩⟩
  · have := value_log h0 hn sV
    omega
  · have hV0 : (refV x y z n1 n2 n3 m i j).natAbs = 0 := by
      rw [h0, Nat.zero_mul] at hn
      rcases Nat.mul_eq_zero.1 hn.symm with h | h
      · exact h
      · have := pow_pos2 k; omega
    have hV1 : refV x y z n1 n2 n3 m i j = 0 := Int.natAbs_eq_zero.1 hV0
    have hV' : refV x y z n1 n2 n3 m i j * ((2 ^ (5000 - (i + j)) : Nat) : Int) = _ := hV
    rw [hV1, Int.zero_mul] at hV'
    rw [Bool.eq_false_iff]
    intro hs
    rw [Bool.and_eq_true] at hs
    have h := zero_sign hV'.symm hs.1 hs.2
    rcases Nat.mul_eq_zero.1 h with h | h
    · rcases Nat.mul_eq_zero.1 h with h | h
      · exact hx0 ((fM_zero fx).1 h)
      · exact hy0 ((fM_zero fy).1 h)
    · have := pow_pos2 ((fE x : Int) - 1075 + ((fE y : Int) - 1075) + 5000).toNat
      omega

end Go.Proofs.YtoefahgookhicaaGreatDoorBesafter
