/- Plain law: bit lengths and shifts of whole numbers. No program in sight. -/
import Derived.Test.YtoefahgookhicaaGreatDoorBesafterLawRound
import Derived.Test.YtoefahgookhicaaGreatDoorBesafterLawWords
namespace Go.Proofs.YtoefahgookhicaaGreatDoorBesafter

/-- How many binary digits. -/
def bl (n : Nat) : Nat := if n = 0 then 0 else n.log2 + 1

theorem bl_zero : bl 0 = 0 := rfl
theorem bl_pos {n : Nat} (h : n ≠ 0) : bl n = n.log2 + 1 := if_neg h
theorem bl_half {t : Nat} (h : t ≠ 0) : bl t = bl (t / 2) + 1 := by
  rw [bl_pos h]
  by_cases h1 : t / 2 = 0
  · have : t = 1 := by omega
    subst this; rfl
  · rw [bl_pos h1]
    have := log2_unique (n := t) (e := (t / 2).log2 + 1) (by have := log2_lo h1; rw [Nat.pow_succ]; omega) (by have := log2_hi (t / 2); rw [Nat.pow_succ]; omega)
    omega
theorem bl_le {n k : Nat} : bl n ≤ k ↔ n < 2 ^ k := by
  by_cases h : n = 0
  · subst h; simp [bl_zero, pow_pos2]
  · rw [bl_pos h, ← Nat.log2_lt h]; omega

/-- The digits of a list without a nought at its end: of the words below the last one, all; and the last one's. -/
theorem bl_val {a : List Nat} (ha : Ws a) (ht : Tr a) (h : 0 < a.length) : bl (val a) = (a.length - 1) * 32 + bl (a.getD (a.length - 1) 0) := by
  have h0 : a ≠ [] := by intro e; subst e; simp at h
  have hx : a.getD (a.length - 1) 0 ≠ 0 := by
    have := ht h0
    rw [List.getLast_eq_getElem] at this
    rw [List.getD_eq_getElem?_getD, List.getElem?_eq_getElem (by omega)]; exact this
  have e : val a = val (a.take (a.length - 1)) + 4294967296 ^ (a.length - 1) * a.getD (a.length - 1) 0 := by
    have := val_take_succ a (a.length - 1) (by omega)
    rw [show a.length - 1 + 1 = a.length by omega, List.take_length] at this
    exact this
  have lo := val_lt (ha.take (a.length - 1))
  rw [List.length_take, Nat.min_eq_left (by omega)] at lo
  generalize a.getD (a.length - 1) 0 = x at *
  generalize val (a.take (a.length - 1)) = l at *
  generalize a.length - 1 = k at *
  have hp := pow32_pos k
  have hv : val a ≠ 0 := by
    have := Nat.mul_pos hp (Nat.pos_of_ne_zero hx); omega
  rw [bl_pos hv, bl_pos hx]
  have := log2_unique (n := val a) (e := 32 * k + x.log2) ?_ ?_
  · omega
  · rw [Nat.pow_add, ← pow32, e]
    have := Nat.mul_le_mul_left (4294967296 ^ k) (log2_lo hx)
    omega
  · rw [show 32 * k + x.log2 + 1 = 32 * k + (x.log2 + 1) by omega, Nat.pow_add, ← pow32, e]
    have := Nat.mul_le_mul_left (4294967296 ^ k) (log2_hi x)
    rw [Nat.mul_succ] at this
    omega

end Go.Proofs.YtoefahgookhicaaGreatDoorBesafter
