/- Walk: the law's closed fact on sums and products, the program's Fused, the comparison of two floats. -/
import Derived.Test.YtoefahgookhicaaGreatDoorBesafterFlo1
import Derived.Handy
namespace Go.Proofs.YtoefahgookhicaaGreatDoorBesafter
open Go.RowKit Ieee

theorem run_f {op : BinOp} {x y r : Nat} (h : floatBits op .f64 x y = some r) (w : World) : (binOp op 22 (.float .f64 x) (.float .f64 y)).run Tryz.prog w = .ok (.float .f64 r) w := run_float_arith w op 22 .f64 x y r h

set_option maxHeartbeats 1000000 in
set_option maxRecDepth 100000 in
theorem finite_calls {w : World} {g x y z : Nat} (h0 : w.cell? ⟨g, 0, none⟩ = some (.float .f64 x)) (h1 : w.cell? ⟨g, 1, none⟩ = some (.float .f64 y)) (h2 : w.cell? ⟨g, 2, none⟩ = some (.float .f64 z))
    (s0 : double.sub x x = some 0) (s1 : double.sub y y = some 0) (s2 : double.sub z z = some 0) :
    Calls Tryz.prog 21 #[.slice (some ⟨g, 0, none⟩) 3 3] w fun e w' => e = .returned (.bool true) ∧ w = w' := by
  have r0 := fun w => run_f (op := .sub) s0 w
  have r1 := fun w => run_f (op := .sub) s1 w
  have r2 := fun w => run_f (op := .sub) s2 w
  have o : (FloatKind.f64.format.order 0 0 != some .eq) = false := by decide
  clear s0 s1 s2
  go_enter Tryz.func21, Tryz.ntmps21
  go_wp2
  refine wp_loop_rounds 4 ?_
  rw [rounds_succ]
  go_wp2
  rw [rounds_succ]
  go_wp2
  rw [rounds_succ]
  go_wp2
  rw [rounds_succ]
  go_wp2
  go_ret
  exact ⟨rfl, rfl⟩

set_option maxHeartbeats 1000000 in
set_option maxRecDepth 100000 in
theorem ranged_calls {w : World} {g x y lo hi ax ay : Nat} (h0 : w.cell? ⟨g, 0, none⟩ = some (.float .f64 x)) (h1 : w.cell? ⟨g, 1, none⟩ = some (.float .f64 y))
    (bx : x < 18446744073709551616) (by_ : y < 18446744073709551616) (ex : x % 9223372036854775808 = ax) (ey : y % 9223372036854775808 = ay)
    (l0 : (double.order ax lo == some .lt) = false) (l1 : (double.order ay lo == some .lt) = false) (g0 : (double.order ax hi == some .gt) = false) (g1 : (double.order ay hi == some .gt) = false) :
    Calls Tryz.prog 22 #[.float .f64 lo, .float .f64 hi, .slice (some ⟨g, 0, none⟩) 2 2] w fun e w' => e = .returned (.bool true) ∧ w = w' := by
  have a0 := abs64_calls x bx w
  have a1 := abs64_calls y by_ w
  rw [ex] at a0
  rw [ey] at a1
  have A0 := Lib.hid a0
  have A1 := Lib.hid a1
  have l0' : (FloatKind.f64.format.order ax lo == some .lt) = false := l0
  have l1' : (FloatKind.f64.format.order ay lo == some .lt) = false := l1
  have g0' : (FloatKind.f64.format.order ax hi == some .gt) = false := g0
  have g1' : (FloatKind.f64.format.order ay hi == some .gt) = false := g1
  clear a0 a1 bx by_ ex ey l0 l1 g0 g1
  go_enter Tryz.func22, Tryz.ntmps22
  go_wp2
  refine wp_loop_rounds 3 ?_
  rw [rounds_succ]
  go_wp2_with fail
  refine A0.out.mono ?_
  rintro e w' ⟨rfl, rfl⟩
  go_wp2
  rw [rounds_succ]
  go_wp2_with fail
  refine A1.out.mono ?_
  rintro e w' ⟨rfl, rfl⟩
  go_wp2
  rw [rounds_succ]
  go_wp2
  go_ret
  exact ⟨rfl, rfl⟩

set_option maxHeartbeats 400000 in
theorem plain64_calls (w : World) (x y : Nat) (h : double.add x 0 = some y) : Calls Tryz.prog 26 #[.float .f64 x] w fun e w' => e = .returned (.float .f64 y) ∧ w = w' := by
  have r0 := fun w => run_f (op := .add) h w
  clear h
  go_enter Tryz.func26, Tryz.ntmps26
  go_wp2
  go_ret
  exact ⟨rfl, rfl⟩

set_option maxHeartbeats 400000 in
theorem halves_calls (w : World) : Calls Tryz.prog 28 #[.float .f64 4607182418804211712] w fun e w' => e = .returned (.tuple #[.float .f64 4607182418800017408, .float .f64 4472074429978902528]) ∧ w = w' := by
  have r0 := fun w => run_f (op := .mul) (x := 4728779608772575232) (y := 4607182418804211712) (r := 4728779608776769536) (by decide +kernel) w
  have r1 := fun w => run_f (op := .sub) (x := 4728779608776769536) (y := 4607182418804211712) (r := 4728779608743215104) (by decide +kernel) w
  have r2 := fun w => run_f (op := .sub) (x := 4728779608776769536) (y := 4728779608743215104) (r := 4607182418800017408) (by decide +kernel) w
  have r3 := fun w => run_f (op := .sub) (x := 4607182418804211712) (y := 4607182418800017408) (r := 4472074429978902528) (by decide +kernel) w
  go_enter Tryz.func28, Tryz.ntmps28
  go_wp2
  go_ret2
  exact ⟨rfl, rfl⟩

theorem cells3 (w : World) (x y z : Nat) : (w.alloc (.cells #[.float .f64 x, .float .f64 y, .float .f64 z] 22)).cell? ⟨w.heap.size, 0, none⟩ = some (.float .f64 x) ∧ (w.alloc (.cells #[.float .f64 x, .float .f64 y, .float .f64 z] 22)).cell? ⟨w.heap.size, 1, none⟩ = some (.float .f64 y) ∧ (w.alloc (.cells #[.float .f64 x, .float .f64 y, .float .f64 z] 22)).cell? ⟨w.heap.size, 2, none⟩ = some (.float .f64 z) := by
  refine ⟨?_, ?_, ?_⟩ <;> rw [World.cell?_alloc_at (hn := by simp)] <;> rfl

theorem cells2 (w : World) (x y : Nat) : (w.alloc (.cells #[.float .f64 x, .float .f64 y] 22)).cell? ⟨w.heap.size, 0, none⟩ = some (.float .f64 x) ∧ (w.alloc (.cells #[.float .f64 x, .float .f64 y] 22)).cell? ⟨w.heap.size, 1, none⟩ = some (.float .f64 y) := by
  refine ⟨?_, ?_⟩ <;> rw [World.cell?_alloc_at (hn := by simp)] <;> rfl

set_option maxHeartbeats 1000000 in
set_option maxRecDepth 100000 in
theorem sumOf_calls (w : World) : Calls Tryz.prog 8 #[.float .f64 4846369599423283200, .float .f64 4607182418800017408] w fun e w' => e = .returned (.tuple #[.float .f64 4846369599423283200, .float .f64 4607182418800017408, .bool true]) ∧ Below w.heap.size w w' := by
  have r0 := fun w => run_f (op := .add) (x := 4846369599423283200) (y := 4607182418800017408) (r := 4846369599423283200) (by decide +kernel) w
  have r1 := fun w => run_f (op := .sub) (x := 4846369599423283200) (y := 4846369599423283200) (r := 0) (by decide +kernel) w
  have r2 := fun w => run_f (op := .sub) (x := 4846369599423283200) (y := 0) (r := 4846369599423283200) (by decide +kernel) w
  have r3 := fun w => run_f (op := .sub) (x := 4607182418800017408) (y := 0) (r := 4607182418800017408) (by decide +kernel) w
  have r4 := fun w => run_f (op := .add) (x := 0) (y := 4607182418800017408) (r := 4607182418800017408) (by decide +kernel) w
  go_enter Tryz.func8, Tryz.ntmps8
  go_wp2_with fail
  obtain ⟨k0, k1, k2⟩ := cells3 w 4846369599423283200 4607182418800017408 4846369599423283200
  refine (finite_calls k0 k1 k2 (by decide +kernel) (by decide +kernel) (by decide +kernel)).mono ?_
  rintro e w' ⟨rfl, rfl⟩
  clear k0 k1 k2
  go_wp2_with fail
  obtain ⟨k0, k1⟩ := cells2 (w.alloc (.cells #[.float .f64 4846369599423283200, .float .f64 4607182418800017408, .float .f64 4846369599423283200] 22)) 4846369599423283200 4607182418800017408
  rw [World.size_alloc] at k0 k1
  refine (ranged_calls k0 k1 (by decide) (by decide) (ax := 4846369599423283200) (ay := 4607182418800017408) (by decide) (by decide) (by decide +kernel) (by decide +kernel) (by decide +kernel) (by decide +kernel)).mono ?_
  rintro e w' ⟨rfl, rfl⟩
  clear k0 k1
  go_wp2_with fail
  refine (plain64_calls _ 4607182418800017408 4607182418800017408 (by decide +kernel)).mono ?_
  rintro e w' ⟨rfl, rfl⟩
  go_wp2
  go_ret3
  exact ⟨rfl, below_alloc2 (Below.refl _ _) _ _⟩

set_option maxHeartbeats 1000000 in
set_option maxRecDepth 100000 in
theorem prodOf_calls (w : World) : Calls Tryz.prog 9 #[.float .f64 4607182418804211712, .float .f64 4607182418804211712] w fun e w' => e = .returned (.tuple #[.float .f64 4607182418808406016, .float .f64 4336966441157787648, .bool true]) ∧ Below w.heap.size w w' := by
  have r0 := fun w => run_f (op := .mul) (x := 4607182418804211712) (y := 4607182418804211712) (r := 4607182418808406016) (by decide +kernel) w
  have r1 := fun w => run_f (op := .mul) (x := 4607182418800017408) (y := 4607182418800017408) (r := 4607182418800017408) (by decide +kernel) w
  have r2 := fun w => run_f (op := .sub) (x := 4607182418800017408) (y := 4607182418808406016) (r := 13699950066461048832) (by decide +kernel) w
  have r3 := fun w => run_f (op := .mul) (x := 4607182418800017408) (y := 4472074429978902528) (r := 4472074429978902528) (by decide +kernel) w
  have r4 := fun w => run_f (op := .add) (x := 13699950066461048832) (y := 4472074429978902528) (r := 13695446466833678336) (by decide +kernel) w
  have r5 := fun w => run_f (op := .mul) (x := 4472074429978902528) (y := 4607182418800017408) (r := 4472074429978902528) (by decide +kernel) w
  have r6 := fun w => run_f (op := .add) (x := 13695446466833678336) (y := 4472074429978902528) (r := 0) (by decide +kernel) w
  have r7 := fun w => run_f (op := .mul) (x := 4472074429978902528) (y := 4472074429978902528) (r := 4336966441157787648) (by decide +kernel) w
  have r8 := fun w => run_f (op := .add) (x := 0) (y := 4336966441157787648) (r := 4336966441157787648) (by decide +kernel) w
  go_enter Tryz.func9, Tryz.ntmps9
  go_wp2_with fail
  obtain ⟨k0, k1, k2⟩ := cells3 w 4607182418804211712 4607182418804211712 4607182418808406016
  refine (finite_calls k0 k1 k2 (by decide +kernel) (by decide +kernel) (by decide +kernel)).mono ?_
  rintro e w' ⟨rfl, rfl⟩
  clear k0 k1 k2
  go_wp2_with fail
  obtain ⟨k0, k1⟩ := cells2 (w.alloc (.cells #[.float .f64 4607182418804211712, .float .f64 4607182418804211712, .float .f64 4607182418808406016] 22)) 4607182418804211712 4607182418804211712
  rw [World.size_alloc] at k0 k1
  refine (ranged_calls k0 k1 (by decide) (by decide) (ax := 4607182418804211712) (ay := 4607182418804211712) (by decide) (by decide) (by decide +kernel) (by decide +kernel) (by decide +kernel) (by decide +kernel)).mono ?_
  rintro e w' ⟨rfl, rfl⟩
  clear k0 k1
  go_wp2_with fail
  refine (halves_calls _).mono ?_
  rintro e w' ⟨rfl, rfl⟩
  go_wp2_with fail
  refine (halves_calls _).mono ?_
  rintro e w' ⟨rfl, rfl⟩
  go_wp2_with fail
  refine (plain64_calls _ 4336966441157787648 4336966441157787648 (by decide +kernel)).mono ?_
  rintro e w' ⟨rfl, rfl⟩
  go_wp2
  go_ret3
  exact ⟨rfl, below_alloc2 (Below.refl _ _) _ _⟩

set_option maxHeartbeats 400000 in
/-- (eft.Fused, where FMA gives a number) -/
theorem fused_some {x y z r : Nat} (h : FloatKind.f64.format.fma x y z = some r) (w : World) : Calls Tryz.prog 6 #[.float .f64 x, .float .f64 y, .float .f64 z] w fun e w' => e = .returned (.float .f64 r) ∧ w = w' := by
  have h1 := call_fma_some h w
  clear h
  go_enter Tryz.func6, Tryz.ntmps6
  go_wp2
  go_ret
  exact ⟨rfl, rfl⟩

set_option maxHeartbeats 400000 in
theorem fused_none {x y z : Nat} (h : FloatKind.f64.format.fma x y z = none) (w : World) : Calls Tryz.prog 6 #[.float .f64 x, .float .f64 y, .float .f64 z] w fun e w' => ∃ r, IsNan r ∧ e = .returned (.float .f64 r) ∧ w.drew = w' := by
  obtain ⟨r, hr, h1⟩ := call_fma_none h w
  have HR := Lib.hid hr
  clear h hr
  go_enter Tryz.func6, Tryz.ntmps6
  go_wp2
  go_ret
  exact ⟨r, HR.out, rfl, rfl⟩

set_option maxHeartbeats 1000000 in
set_option maxRecDepth 100000 in
/-- (enclosurelaw.lost) -/
theorem lost_calls (w : World) : Calls Tryz.prog 4 #[] w fun e w' => e = .returned (.bool true) ∧ Below w.heap.size w w' := by
  have hs := Lib.hid (sumOf_calls)
  have hp := Lib.hid (prodOf_calls)
  have hf : FloatKind.f64.format.fma 4611686018427387904 4613937818241073152 4616189618054758400 = some 4621819117588971520 := by decide +kernel
  have hfu := Lib.hid (fun W => fused_some hf W)
  have o1 : (FloatKind.f64.format.order 4846369599423283200 4846369599423283200 == some .eq) = true := by decide +kernel
  have o2 : (FloatKind.f64.format.order 4607182418800017408 4607182418800017408 == some .eq) = true := by decide +kernel
  have o3 : (FloatKind.f64.format.order 4607182418808406016 4607182418808406016 == some .eq) = true := by decide +kernel
  have o4 : (FloatKind.f64.format.order 4336966441157787648 4336966441157787648 == some .eq) = true := by decide +kernel
  have o5 : (FloatKind.f64.format.order 4621819117588971520 4621819117588971520 == some .eq) = true := by decide +kernel
  clear hf
  go_enter Tryz.func4, Tryz.ntmps4
  go_wp2_with fail
  refine (hs.out _).mono ?_
  rintro e w1 ⟨rfl, hb1⟩
  have HB1 := Lib.hid hb1
  clear hb1
  go_wp2_with fail
  refine (hp.out _).mono ?_
  rintro e w2 ⟨rfl, hb2⟩
  have HB2 := Lib.hid hb2
  clear hb2
  go_wp2_with fail
  refine (hfu.out _).mono ?_
  rintro e w' ⟨rfl, rfl⟩
  go_wp2
  go_ret
  exact ⟨rfl, HB1.out.trans (HB2.out.mono HB1.out.size)⟩

theorem isNan_isN {x : Nat} (h : IsNan x) : isN x = true := by
  obtain ⟨h1, h2, h3⟩ := h
  have h1' : x / 4503599627370496 % 2048 = 2047 := h1
  have h2' : x % 4503599627370496 ≠ 0 := h2
  have h3' : x < 18446744073709551616 := h3
  refine decide_eq_true ?_
  rw [top_eq]
  show 9218868437227405312 < x % 9223372036854775808
  omega

set_option maxHeartbeats 400000 in
/-- (enclosuresame.Bits) -/
theorem bits_calls {x y : Nat} (hx : x < 2 ^ 64) (hy : y < 2 ^ 64) (h : x = y ∨ isN x = true ∧ isN y = true) (w : World) : Calls Tryz.prog 5 #[.float .f64 x, .float .f64 y] w fun e w' => e = .returned (.bool true) ∧ w = w' := by
  have b1 := call_bits x w
  have b2 := call_bits y w
  have o1 : (FloatKind.f64.format.order x x != some .eq) = isN x := order_self x hx
  have o2 : (FloatKind.f64.format.order y y != some .eq) = isN y := order_self y hy
  by_cases he : x = y
  · subst he
    have z : ((x : Int) == x) = true := beq_iff_eq.2 rfl
    clear hx hy h o1 o2 b2
    go_enter Tryz.func5, Tryz.ntmps5
    go_wp2
    go_ret
    exact ⟨rfl, rfl⟩
  · obtain ⟨n1, n2⟩ := h.resolve_left he
    rw [n1] at o1
    rw [n2] at o2
    have z : ((x : Int) == y) = false := beq_eq_false_iff_ne.2 (by omega)
    clear hx hy h n1 n2 he
    go_enter Tryz.func5, Tryz.ntmps5
    go_wp2
    go_ret
    exact ⟨rfl, rfl⟩

end Go.Proofs.YtoefahgookhicaaGreatDoorBesafter
