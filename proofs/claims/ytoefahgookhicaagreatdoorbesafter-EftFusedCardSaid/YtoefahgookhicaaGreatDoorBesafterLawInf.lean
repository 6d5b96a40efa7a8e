/- Plain law: the model's FMA and product where a float is no number or infinite. Condition: the bits are below 2^64. -/
import Derived.Test.YtoefahgookhicaaGreatDoorBesafterLawFlo
namespace Go.Proofs.YtoefahgookhicaaGreatDoorBesafter
open Ieee

theorem fma_nan {x y z : Nat} (hx : x < 2 ^ 64) (hy : y < 2 ^ 64) (hz : z < 2 ^ 64) (h : isN x = true ∨ isN y = true ∨ isN z = true) : double.fma x y z = none := by
  unfold Format.fma
  rcases h with h | h | h
  · obtain ⟨f, hf⟩ := read_nan hx h
    rw [hf]
    rfl
  · obtain ⟨f, hf⟩ := read_nan hy h
    rw [hf]
    cases double.read x <;> rfl
  · obtain ⟨f, hf⟩ := read_nan hz h
    rw [hf]
    cases (double.read x).product (double.read y) with
    | none => rfl
    | some d => cases d <;> rfl

theorem prod_inf {x y : Nat} (hx : x < 2 ^ 64) (hy : y < 2 ^ 64) (nx : isN x = false) (ny : isN y = false) (h : isI x = true ∨ isI y = true) :
    (double.read x).product (double.read y) = none ∨ ∃ s, (double.read x).product (double.read y) = some (.infinity s) := by
  rcases float_cases x with ⟨h1, _⟩ | ⟨_, h1⟩ | ⟨_, h0, h1⟩
  · rw [nx] at h1; cases h1
  · rw [read_inf hx h1]
    rcases float_cases y with ⟨h2, _⟩ | ⟨_, h2⟩ | ⟨_, h3, h2⟩
    · rw [ny] at h2; cases h2
    · rw [read_inf hy h2]; exact Or.inr ⟨_, rfl⟩
    · rw [read_fin hy h2]
      by_cases hz : fM y = 0
      · exact Or.inl (by simp only [Datum.product]; rw [if_pos hz])
      · exact Or.inr ⟨_, by simp only [Datum.product]; rw [if_neg hz]⟩
  · rcases float_cases y with ⟨h2, _⟩ | ⟨_, h2⟩ | ⟨_, h3, h2⟩
    · rw [ny] at h2; cases h2
    · rw [read_inf hy h2, read_fin hx h1]
      by_cases hz : fM x = 0
      · exact Or.inl (by simp only [Datum.product]; rw [if_pos hz])
      · exact Or.inr ⟨_, by simp only [Datum.product]; rw [if_neg hz]⟩
    · rw [h0, h3] at h
      rcases h with h | h <;> cases h

theorem inf_bits (s : Bool) : sgn s top < 2 ^ 64 ∧ isN (sgn s top) = false ∧ isI (sgn s top) = true ∧ fS (sgn s top) = s := by
  cases s <;> decide

theorem inf_of {z : Nat} (hz : z < 2 ^ 64) (h : isI z = true) : sgn (fS z) top = z := by
  have h' : z % 9223372036854775808 = 9218868437227405312 := beq_iff_eq.1 h
  have hz' : z < 18446744073709551616 := hz
  unfold fS sgn
  by_cases h2 : 9223372036854775808 ≤ z
  · rw [decide_eq_true (p := 2 ^ 63 ≤ z) h2, if_pos rfl, top_eq]; omega
  · rw [decide_eq_false (p := 2 ^ 63 ≤ z) h2, if_neg (by decide), top_eq]; omega

/-- Where a factor is an infinity: either there is no answer, or the product is an infinity. -/
theorem fma_inf {x y z : Nat} (hx : x < 2 ^ 64) (hy : y < 2 ^ 64) (hz : z < 2 ^ 64) (nx : isN x = false) (ny : isN y = false) (nz : isN z = false) (h : isI x = true ∨ isI y = true) :
    double.mul x y = none ∧ double.fma x y z = none ∨
    ∃ s, double.mul x y = some (sgn s top) ∧ (isI z = true ∧ s ≠ fS z → double.fma x y z = none) ∧ (isI z = false ∨ s = fS z → double.fma x y z = some (sgn s top)) := by
  unfold Format.mul Format.fma
  rcases prod_inf hx hy nx ny h with h | ⟨s, h⟩
  · rw [h]
    exact Or.inl ⟨rfl, rfl⟩
  · rw [h]
    refine Or.inr ⟨s, rfl, ?_, ?_⟩
    · rintro ⟨h1, h2⟩
      rw [read_inf hz h1]
      simp only [Option.bind_some, Datum.sum]
      rw [if_neg h2]
      rfl
    · intro h1
      rcases float_cases z with ⟨h2, _⟩ | ⟨_, h2⟩ | ⟨_, h3, h2⟩
      · rw [nz] at h2; cases h2
      · rw [h2] at h1
        have hs := h1.resolve_left (by decide)
        rw [read_inf hz h2]
        simp only [Option.bind_some, Datum.sum]
        rw [if_pos hs]
        rfl
      · rw [read_fin hz h2]
        rfl

/-- Where the number that is added is an infinity. -/
theorem fma_infz {x y z : Nat} (hx : x < 2 ^ 64) (hy : y < 2 ^ 64) (hz : z < 2 ^ 64) (fx : Fin64 x) (fy : Fin64 y) (h : isI z = true) : double.fma x y z = some z := by
  unfold Format.fma
  rw [read_fin hx fx, read_fin hy fy, read_inf hz h]
  exact congrArg some (inf_of hz h)

end Go.Proofs.YtoefahgookhicaaGreatDoorBesafter
