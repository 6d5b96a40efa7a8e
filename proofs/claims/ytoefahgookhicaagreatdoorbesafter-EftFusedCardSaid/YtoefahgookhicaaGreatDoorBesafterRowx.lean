/- The model's rows of package math that the law's road meets: Float64bits, Float64frombits, FMA. -/
import Derived.Test.YtoefahgookhicaaGreatDoorBesafterMem
import Derived.Laws.Externs
import Derived.Laws.NewFold
namespace Go.Proofs.YtoefahgookhicaaGreatDoorBesafter
open Go.RowKit

/-- The bits of a float64 that is not a number. -/
def IsNan (x : Nat) : Prop := x / 2 ^ 52 % 2048 = 2047 ∧ x % 2 ^ 52 ≠ 0 ∧ x < 2 ^ 64

theorem call_bits (x : Nat) (w : World) : (callFunc 10 #[.float .f64 x]).run Tryz.prog w = .ok (.value (.int .u64 x)) w := by
  rw [run_callFunc_extern Tryz.func10 (by kernel_rfl) (by kernel_rfl) (by kernel_rfl) (e := Extern.MathFloatBits.float64bits) (by kernel_rfl)]
  rfl

theorem call_frombits (x : Nat) (w : World) : (callFunc 29 #[.int .u64 x]).run Tryz.prog w = .ok (.value (.float .f64 x)) w := by
  rw [run_callFunc_extern Tryz.func29 (by kernel_rfl) (by kernel_rfl) (by kernel_rfl) (e := Extern.MathFloatBits.float64frombits) (by kernel_rfl)]
  rfl

theorem call_fma_some {x y z r : Nat} (h : FloatKind.f64.format.fma x y z = some r) (w : World) : (callFunc 11 #[.float .f64 x, .float .f64 y, .float .f64 z]).run Tryz.prog w = .ok (.value (.float .f64 r)) w := by
  rw [run_callFunc_extern Tryz.func11 (by kernel_rfl) (by kernel_rfl) (by kernel_rfl) (e := Extern.MathFMA.fma) (by kernel_rfl)]
  change (Sem.run Tryz.prog (match FloatKind.f64.format.fma x y z with
    | some r => pure (Value.float .f64 r)
    | none => do
      let (a, b) := if Extern.MathFMA.isNaN x then (x, y) else if Extern.MathFMA.isNaN y then (y, z) else (z, z)
      pure (Value.float .f64 (← choose (.nanBits .f64 a b)))) w).andThen _ = _
  rw [h]
  rfl

theorem cut_nan (a b t : Nat) : IsNan ((Question.nanBits .f64 a b).cut t) := by
  have h2 : (t / 2) % (2 ^ 52 - 1) < 2 ^ 52 - 1 := Nat.mod_lt _ (by decide)
  have h3 : t % 2 < 2 := Nat.mod_lt _ (by decide)
  have h1 : (Question.nanBits .f64 a b).cut t = (t % 2) * 2 ^ 63 + 0x7ff0000000000000 + 1 + (t / 2) % (2 ^ 52 - 1) := rfl
  rw [h1]
  generalize (t / 2) % (2 ^ 52 - 1) = q at *
  generalize t % 2 = p at *
  unfold IsNan
  omega

theorem call_fma_none {x y z : Nat} (h : FloatKind.f64.format.fma x y z = none) (w : World) : ∃ r, IsNan r ∧ (callFunc 11 #[.float .f64 x, .float .f64 y, .float .f64 z]).run Tryz.prog w = .ok (.value (.float .f64 r)) w.drew := by
  obtain ⟨a, b, hab⟩ : ∃ a b, (if Extern.MathFMA.isNaN x then (x, y) else if Extern.MathFMA.isNaN y then (y, z) else (z, z)) = (a, b) := ⟨_, _, rfl⟩
  refine ⟨_, cut_nan a b (w.tape w.drawn (.nanBits .f64 a b)), ?_⟩
  rw [run_callFunc_extern Tryz.func11 (by kernel_rfl) (by kernel_rfl) (by kernel_rfl) (e := Extern.MathFMA.fma) (by kernel_rfl)]
  change (Sem.run Tryz.prog (match FloatKind.f64.format.fma x y z with
    | some r => pure (Value.float .f64 r)
    | none => do
      let (a, b) := if Extern.MathFMA.isNaN x then (x, y) else if Extern.MathFMA.isNaN y then (y, z) else (z, z)
      pure (Value.float .f64 (← choose (.nanBits .f64 a b)))) w).andThen _ = _
  rw [h, hab]
  rfl

end Go.Proofs.YtoefahgookhicaaGreatDoorBesafter
