/- Walk: division by a power of two, whole. Condition: below 2^10000. -/
import Derived.Test.YtoefahgookhicaaGreatDoorBesafterDiv3
namespace Go.Proofs.YtoefahgookhicaaGreatDoorBesafter
open Go.RowKit

/-- (enclosurebig.div, by a power of two) -/
theorem div_calls {w : World} {va vb : Value} {m k : Nat} (ha : Limbs w va m) (hb : Limbs w vb (2 ^ k)) (sa : Small m 9000) (sa' : Small m 10000) (sb : Small (2 ^ k) 10000) : Calls Tryz.prog 97 #[va, vb] w (DivR w (m / 2 ^ k) (m % 2 ^ k)) := by
  have hpk := pow_pos2 k
  by_cases hlt : m < 2 ^ k
  · rw [Nat.div_eq_of_lt hlt, Nat.mod_eq_of_lt hlt]
    exact div_less ha hb sa sa' sb (by omega) hlt
  · obtain ⟨A, wA, tA, eA, rA⟩ := id ha
    obtain ⟨B, wB, tB, eB, rB⟩ := id hb
    obtain ⟨a, ca, rfl, hA⟩ := words_of rA
    obtain ⟨b, cb, rfl, hB⟩ := words_of rB
    have la := small_len tA (by rw [eA]; exact sa')
    have lb := small_len tB (by rw [eB]; exact sb)
    have vA := val_lt wA
    rw [eA] at vA
    have hB0 : 0 < B.length := Nat.pos_of_ne_zero fun h => by have := tB.length_zero.1 h; omega
    have hbl := bl_val wB tB hB0
    rw [eB, bl_pos (by omega), Nat.log2_two_pow] at hbl
    have hx32 : bl (B.getD (B.length - 1) 0) ≤ 32 := bl_le.2 (wB.getD _)
    have hx1 : 1 ≤ bl (B.getD (B.length - 1) 0) := by
      refine Nat.pos_of_ne_zero fun h => ?_
      have h1 : B.getD (B.length - 1) 0 < 2 ^ 0 := bl_le.1 (by omega)
      have h2 : B.getD (B.length - 1) 0 = 0 := by omega
      have hne : B ≠ [] := by intro e; rw [e] at hB0; simp at hB0
      have := tB hne
      rw [List.getLast_eq_getElem] at this
      rw [List.getD_eq_getElem?_getD, List.getElem?_eq_getElem (by omega)] at h2
      exact this h2
    have hkb : B.length = k / 32 + 1 := by omega
    by_cases h2 : A.length ≤ 2
    · refine div_plain ha hb ?_ (by omega) (by omega) h2 hB0 lb
      have : 4294967296 ^ A.length ≤ 4294967296 ^ 2 := Nat.pow_le_pow_right (by decide) h2
      omega
    · by_cases h1 : B.length = 1
      · obtain ⟨g, rfl, hg, hc⟩ := hB.out hB0
        have e0 : B.getD 0 0 = 2 ^ k := by
          have := val_take_next B 0
          rw [val_take_ge B (0 + 1) (by omega), eB] at this
          simp only [List.take_zero, val, Nat.pow_zero, Nat.one_mul, Nat.zero_add] at this
          exact this.symm
        have hc0 := hc 0 hB0
        rw [e0] at hc0
        refine div_word ha hb sa' (by omega) (by omega) (by omega) la h1 (by have := wB.getD 0; omega) ⟨g, rfl, hg, hc0⟩
      · have hll : B.length ≤ A.length := by
          refine Nat.le_of_not_lt fun h => ?_
          have := val_lt_of_length wA tB h
          omega
        rw [hkb] at hb hB ⊢
        exact div_knuth ha hb sa sa' sb (by omega) (by omega) la (by omega) (by omega) rfl vA (by omega)

end Go.Proofs.YtoefahgookhicaaGreatDoorBesafter
