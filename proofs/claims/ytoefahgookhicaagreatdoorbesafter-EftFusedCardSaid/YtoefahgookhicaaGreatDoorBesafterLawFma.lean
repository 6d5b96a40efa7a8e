/- Plain law: where all three floats are finite, what the reference reckons, rounded once, is what the model's FMA gives. Condition: the bits are below 2^64. -/
import Derived.Test.YtoefahgookhicaaGreatDoorBesafterLawFlo
import Derived.Test.YtoefahgookhicaaGreatDoorBesafterInt2
namespace Go.Proofs.YtoefahgookhicaaGreatDoorBesafter
open Ieee

theorem iv_mul (s : Bool) (n c : Nat) : iv s n * (c : Int) = iv s (n * c) := by
  unfold iv
  cases s
  · simp
  · simp [Int.neg_mul]

theorem signed_iv (s : Bool) (m i : Nat) : signed s m i = iv s (m * 2 ^ i) := by
  unfold signed iv
  rw [Nat.shiftLeft_eq]

theorem pow_join {a b : Int} {c : Int} (h : a = b + c) (h2 : 0 ≤ b) (h3 : 0 ≤ c) : 2 ^ a.toNat = 2 ^ b.toNat * 2 ^ c.toNat := by
  rw [← Nat.pow_add]
  congr 1
  omega

/-- What the model's FMA gives at finite numbers: 'tot * 2 ^ base', once rounded. -/
theorem fma_fin {x y z : Nat} (hx : x < 2 ^ 64) (hy : y < 2 ^ 64) (hz : z < 2 ^ 64) (fx : Fin64 x) (fy : Fin64 y) (fz : Fin64 z) :
    ∃ tot base : Int, double.fma x y z = some (double.nearest (if tot = 0 then (fS x ^^ fS y) && fS z else decide (tot < 0)) tot.natAbs base) ∧ -5000 ≤ base ∧
      tot * ((2 ^ (base + 5000).toNat : Nat) : Int) = iv (fS x ^^ fS y) (fM x * fM y * 2 ^ ((fE x : Int) - 1075 + ((fE y : Int) - 1075) + 5000).toNat) + iv (fS z) (fM z * 2 ^ ((fE z : Int) - 1075 + 5000).toNat) := by
  unfold Format.fma
  rw [read_fin hx fx, read_fin hy fy, read_fin hz fz]
  simp only [Datum.product, Option.bind_some, Datum.sum, Option.map_some, Format.write]
  obtain ⟨p, hp⟩ : ∃ p, (fE x : Int) - 1075 + ((fE y : Int) - 1075) = p := ⟨_, rfl⟩
  obtain ⟨q, hq⟩ : ∃ q, (fE z : Int) - 1075 = q := ⟨_, rfl⟩
  rw [hp, hq]
  refine ⟨_, _, rfl, by omega, ?_⟩
  rw [signed_iv, signed_iv, Int.add_mul, iv_mul, iv_mul, Nat.mul_assoc _ (2 ^ _) (2 ^ _), Nat.mul_assoc _ (2 ^ _) (2 ^ _)]
  rw [← pow_join (a := p + 5000) (by omega) (by omega) (by omega), ← pow_join (a := q + 5000) (by omega) (by omega) (by omega)]

theorem cancel_pow {n n' k k' T : Nat} (h : n' * 2 ^ k = n * 2 ^ k') (hk : k ≤ T) (hk' : k' ≤ T) : n' * 2 ^ (T - k') = n * 2 ^ (T - k) := by
  have e1 : 2 ^ T = 2 ^ (T - k') * 2 ^ k' := by rw [← Nat.pow_add]; congr 1; omega
  have e2 : 2 ^ T = 2 ^ (T - k) * 2 ^ k := by rw [← Nat.pow_add]; congr 1; omega
  have h1 : 0 < 2 ^ (k + k') := pow_pos2 _
  refine Nat.eq_of_mul_eq_mul_right h1 ?_
  calc n' * 2 ^ (T - k') * 2 ^ (k + k') = (n' * 2 ^ k) * (2 ^ (T - k') * 2 ^ k') := by rw [Nat.pow_add]; ac_rfl
    _ = (n * 2 ^ k') * (2 ^ (T - k) * 2 ^ k) := by rw [h, ← e1, ← e2]
    _ = n * 2 ^ (T - k) * 2 ^ (k + k') := by rw [Nat.pow_add]; ac_rfl

/-- A number's value, times 2^T. -/
theorem scaled (x T : Nat) (hf : fE x ≤ 2046) (hT : 1075 ≤ T) : fN x * 2 ^ (T - fK x) = fM x * 2 ^ ((fE x : Int) - 1075 + T).toNat := by
  unfold fN fK
  rw [Nat.mul_assoc, ← Nat.pow_add]
  congr 2
  omega

/-- The same value rounds to the same number. -/
theorem nearest_scaled (s : Bool) {m m' : Nat} {p p' : Int} (T : Nat) (hp : -(T : Int) ≤ p) (hp' : -(T : Int) ≤ p') (h : m * 2 ^ (p + T).toNat = m' * 2 ^ (p' + T).toNat) : double.nearest s m p = double.nearest s m' p' :=
  nearest_same s (p + T).toNat (p' + T).toNat h (by omega)

theorem iv_same_of {s t : Bool} {a : Nat} (h : a ≠ 0 → s = t) : iv s a = iv t a := by
  by_cases h0 : a = 0
  · subst h0
    cases s <;> cases t <;> rfl
  · rw [h h0]

theorem nz_ne {s : Bool} {n : Nat} (h : n ≠ 0) : nz s n = s := by
  unfold nz
  rw [decide_eq_true h, Bool.and_true]

theorem zero_same {n n' k k' : Nat} (h : n' * 2 ^ k = n * 2 ^ k') (h0 : n' ≠ 0) : n ≠ 0 := by
  intro h1
  rw [h1, Nat.zero_mul] at h
  rcases Nat.mul_eq_zero.1 h with h | h
  · exact h0 h
  · have := pow_pos2 k; omega

/-- The value that the reference reckons, times 2^5000. -/
theorem ref_value {x y z n1 n2 n3 k1 k2 m i j : Nat} (ex : fE x ≤ 2046) (ey : fE y ≤ 2046) (ez : fE z ≤ 2046)
    (h1 : n1 * 2 ^ fK x = fN x * 2 ^ k1) (b1 : k1 ≤ fK x) (h2 : n2 * 2 ^ fK y = fN y * 2 ^ k2) (b2 : k2 ≤ fK y) (h3 : n3 * 2 ^ fK z = fN z * 2 ^ j) (b3 : j ≤ fK z)
    (hm : m * 2 ^ (k1 + k2) = n1 * n2 * 2 ^ i) (bi : i ≤ k1 + k2) :
    (iv (nz (nz (nz (fS x) (fN x) != nz (fS y) (fN y)) (n1 * n2)) (n1 * n2)) (m * 2 ^ j) + iv (nz (fS z) (fN z)) (n3 * 2 ^ i)) * ((2 ^ (5000 - (i + j)) : Nat) : Int) =
      iv (fS x ^^ fS y) (fM x * fM y * 2 ^ ((fE x : Int) - 1075 + ((fE y : Int) - 1075) + 5000).toNat) + iv (fS z) (fM z * 2 ^ ((fE z : Int) - 1075 + 5000).toNat) := by
  have kx : fK x ≤ 1075 := by unfold fK; omega
  have ky : fK y ≤ 1075 := by unfold fK; omega
  have kz : fK z ≤ 1075 := by unfold fK; omega
  rw [Int.add_mul, iv_mul, iv_mul]
  have e1 : m * 2 ^ j * 2 ^ (5000 - (i + j)) = fM x * fM y * 2 ^ ((fE x : Int) - 1075 + ((fE y : Int) - 1075) + 5000).toNat := by
    rw [Nat.mul_assoc, ← Nat.pow_add, show j + (5000 - (i + j)) = 5000 - i by omega, cancel_pow hm (by omega) (by omega)]
    rw [show 5000 - (k1 + k2) = (2500 - k1) + (2500 - k2) by omega, Nat.pow_add]
    rw [show n1 * n2 * (2 ^ (2500 - k1) * 2 ^ (2500 - k2)) = (n1 * 2 ^ (2500 - k1)) * (n2 * 2 ^ (2500 - k2)) by ac_rfl]
    rw [cancel_pow h1 (by omega) (by omega), cancel_pow h2 (by omega) (by omega), scaled x 2500 ex (by omega), scaled y 2500 ey (by omega)]
    rw [show ((fE x : Int) - 1075 + ((fE y : Int) - 1075) + 5000).toNat = ((fE x : Int) - 1075 + (2500 : Nat)).toNat + ((fE y : Int) - 1075 + (2500 : Nat)).toNat by omega, Nat.pow_add]
    ac_rfl
  have e2 : n3 * 2 ^ i * 2 ^ (5000 - (i + j)) = fM z * 2 ^ ((fE z : Int) - 1075 + 5000).toNat := by
    rw [Nat.mul_assoc, ← Nat.pow_add, show i + (5000 - (i + j)) = 5000 - j by omega, cancel_pow h3 (by omega) (by omega), scaled z 5000 ez (by omega)]
    rfl
  rw [← e1, ← e2]
  congr 1
  · refine iv_same_of fun h => ?_
    have hm0 : m ≠ 0 := fun h0 => h (by rw [h0]; simp)
    have hn := zero_same hm hm0
    have hn1 : n1 ≠ 0 := fun h0 => hn (by rw [h0, Nat.zero_mul])
    have hn2 : n2 ≠ 0 := fun h0 => hn (by rw [h0, Nat.mul_zero])
    rw [nz_ne hn, nz_ne hn, nz_ne (zero_same h1 hn1), nz_ne (zero_same h2 hn2)]
  · refine iv_same_of fun h => ?_
    have hn3 : n3 ≠ 0 := fun h0 => h (by rw [h0]; simp)
    rw [nz_ne (zero_same h3 hn3)]

/-- What the reference rounds is what the model's FMA rounds. -/
theorem ref_fma {x y z n k c : Nat} {V : Int} (hx : x < 2 ^ 64) (hy : y < 2 ^ 64) (hz : z < 2 ^ 64) (fx : Fin64 x) (fy : Fin64 y) (fz : Fin64 z)
    (hV : V * ((2 ^ (5000 - c) : Nat) : Int) = iv (fS x ^^ fS y) (fM x * fM y * 2 ^ ((fE x : Int) - 1075 + ((fE y : Int) - 1075) + 5000).toNat) + iv (fS z) (fM z * 2 ^ ((fE z : Int) - 1075 + 5000).toNat))
    (hc : c ≤ 5000) (hn : n * 2 ^ c = V.natAbs * 2 ^ k) (hk : k ≤ c) :
    (n ≠ 0 → double.fma x y z = some (double.nearest (isgn V) n (-(k : Int)))) ∧ (n = 0 → double.fma x y z = some (sgn ((fS x ^^ fS y) && fS z) 0)) := by
  obtain ⟨tot, base, h1, h2, h3⟩ := fma_fin hx hy hz fx fy fz
  rw [← hV] at h3
  have p1 := pow_pos2 (base + 5000).toNat
  have p2 := pow_pos2 (5000 - c)
  have hab : tot.natAbs * 2 ^ (base + 5000).toNat = V.natAbs * 2 ^ (5000 - c) := by
    have := congrArg Int.natAbs h3
    rwa [Int.natAbs_mul, Int.natAbs_mul, Int.natAbs_natCast, Int.natAbs_natCast] at this
  have hcan := cancel_pow hn hc (by omega : k ≤ 5000)
  constructor
  · intro hn0
    have hV0 : V.natAbs ≠ 0 := zero_same hn hn0
    have ht0 : tot ≠ 0 := by
      intro h
      rw [h] at hab
      rw [Int.natAbs_zero, Nat.zero_mul] at hab
      rcases Nat.mul_eq_zero.1 hab.symm with h | h <;> omega
    rw [h1, if_neg ht0]
    have hs : decide (tot < 0) = isgn V := by
      unfold isgn
      refine decide_eq_decide.2 ?_
      have q1 : (0 : Int) < ((2 ^ (base + 5000).toNat : Nat) : Int) := by omega
      have q2 : (0 : Int) < ((2 ^ (5000 - c) : Nat) : Int) := by omega
      generalize ((2 ^ (base + 5000).toNat : Nat) : Int) = g1 at *
      generalize ((2 ^ (5000 - c) : Nat) : Int) = g2 at *
      constructor
      · intro h
        have := Int.mul_neg_of_neg_of_pos h q1
        rw [h3] at this
        refine Int.lt_of_not_ge fun h4 => ?_
        have := Int.mul_nonneg h4 (Int.le_of_lt q2)
        omega
      · intro h
        have := Int.mul_neg_of_neg_of_pos h q2
        rw [← h3] at this
        refine Int.lt_of_not_ge fun h4 => ?_
        have := Int.mul_nonneg h4 (Int.le_of_lt q1)
        omega
    rw [hs]
    congr 1
    refine nearest_scaled _ 5000 (by omega) (by omega) ?_
    rw [show (-(k : Int) + ((5000 : Nat) : Int)).toNat = 5000 - k by omega, hcan]
    exact hab
  · intro hn0
    have hV0 : V.natAbs = 0 := by
      rw [hn0, Nat.zero_mul] at hn
      rcases Nat.mul_eq_zero.1 hn.symm with h | h
      · exact h
      · have := pow_pos2 k; omega
    have ht0 : tot = 0 := by
      rw [hV0, Nat.zero_mul] at hab
      rcases Nat.mul_eq_zero.1 hab with h | h <;> omega
    rw [h1, if_pos ht0, ht0]
    rfl

end Go.Proofs.YtoefahgookhicaaGreatDoorBesafter
