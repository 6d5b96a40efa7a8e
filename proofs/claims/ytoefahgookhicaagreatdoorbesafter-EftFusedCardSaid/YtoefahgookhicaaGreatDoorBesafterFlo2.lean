/- Walk: math's Ldexp on a whole number of at most 53 bits. -/
import Derived.Test.YtoefahgookhicaaGreatDoorBesafterFlo1
import Derived.Test.YtoefahgookhicaaGreatDoorBesafterLawLd
namespace Go.Proofs.YtoefahgookhicaaGreatDoorBesafter
open Go.RowKit Ieee

theorem order_tiny {y E f : Nat} (h1 : y / 2 ^ 52 = E) (h2 : y % 2 ^ 52 = f) (hE : 1 ≤ E) (hE2 : E ≤ 2046) : (double.order y 4503599627370496 == some .lt) = false := by
  obtain ⟨a1, a2, a3, a4, a5⟩ := parts h1 h2 hE hE2
  have rm : double.read 4503599627370496 = .number false 4503599627370496 (-1074) := by decide
  unfold Format.order
  rw [rm, read_fin (by omega) a2, a3, a4, a5]
  simp only [Datum.order]
  rw [cmp_lt]
  refine decide_eq_false ?_
  unfold signed
  simp only [Bool.false_eq_true, if_false]
  rw [Nat.shiftLeft_eq, Nat.shiftLeft_eq]
  have e1 : ((-1074 : Int) - min ((E : Int) - 1075) (-1074)).toNat = 0 := by omega
  rw [e1, Nat.pow_zero, Nat.mul_one]
  have h5 := pow_pos2 ((E : Int) - 1075 - min ((E : Int) - 1075) (-1074)).toNat
  generalize 2 ^ ((E : Int) - 1075 - min ((E : Int) - 1075) (-1074)).toNat = g at *
  have h6 : (f + 2 ^ 52) * 1 ≤ (f + 2 ^ 52) * g := Nat.mul_le_mul_left _ h5
  omega

theorem order_pos {y E f : Nat} (h1 : y / 2 ^ 52 = E) (h2 : y % 2 ^ 52 = f) (hE : 1 ≤ E) (hE2 : E ≤ 2046) : (double.order y 0 == some .lt) = false := by
  obtain ⟨a1, a2, a3, a4, a5⟩ := parts h1 h2 hE hE2
  unfold Format.order
  rw [read_zero, read_fin (by omega) a2, a3, a4, a5]
  simp only [Datum.order]
  rw [cmp_lt]
  refine decide_eq_false ?_
  unfold signed
  simp only [Bool.false_eq_true, if_false]
  rw [Nat.shiftLeft_eq, Nat.shiftLeft_eq, Nat.zero_mul]
  omega

theorem bits_and_i64_nat (a b : Nat) (ha : a < 9223372036854775808) (hb : b < 9223372036854775808) : bits .and .i64 (a : Int) (b : Int) = ((a &&& b : Nat) : Int) := by
  have hx : a &&& b < 2 ^ 63 := Nat.and_lt_two_pow _ (by omega)
  have h1 : (BitVec.ofInt 64 (a : Int)).toNat = a := by
    rw [BitVec.ofInt_natCast, BitVec.toNat_ofNat]; exact Nat.mod_eq_of_lt (by omega)
  have h2 : (BitVec.ofInt 64 (b : Int)).toNat = b := by
    rw [BitVec.ofInt_natCast, BitVec.toNat_ofNat]; exact Nat.mod_eq_of_lt (by omega)
  show IntKind.i64.wrap ((BitVec.ofInt 64 (a : Int) &&& BitVec.ofInt 64 (b : Int)).toNat : Int) = _
  rw [BitVec.toNat_and, h1, h2, IntKind.wrap_i64]
  omega

theorem mask_exp64 (y : Nat) (hy : y < 2048) : bits BinOp.and IntKind.i64 (y : Int) 2047 = (y : Int) := by
  have h := bits_and_i64_nat y 2047 (by omega) (by omega)
  rw [show (2047 : Nat) = 2 ^ 11 - 1 from rfl, Nat.and_two_pow_sub_one_eq_mod, Nat.mod_eq_of_lt (by omega)] at h
  exact h

set_option maxHeartbeats 400000 in
theorem normalize_calls {y E f : Nat} (h1 : y / 2 ^ 52 = E) (h2 : y % 2 ^ 52 = f) (hE : 1 ≤ E) (hE2 : E ≤ 2046) (w : World) : Calls Tryz.prog 149 #[.float .f64 y] w fun e w' => e = .returned (.tuple #[.float .f64 y, .int .i64 0]) ∧ w = w' := by
  obtain ⟨a1, a2, a3, a4, a5⟩ := parts h1 h2 hE hE2
  have ha := abs64_calls y (by omega) w
  rw [Nat.mod_eq_of_lt a1] at ha
  have HA := Lib.hid ha
  have ho : (FloatKind.f64.format.order y 4503599627370496 == some .lt) = false := order_tiny h1 h2 hE hE2
  clear a1 a2 a3 a4 a5 h1 h2 hE hE2 ha
  go_enter Tryz.func149, Tryz.ntmps149
  go_wp2_with fail
  refine HA.out.mono ?_
  rintro e w' ⟨rfl, rfl⟩
  go_wp2
  go_ret2
  exact ⟨rfl, rfl⟩

set_option maxHeartbeats 400000 in
set_option maxRecDepth 100000 in
theorem inf_calls (w : World) : Calls Tryz.prog 40 #[.int .i64 1] w fun e w' => e = .returned (.float .f64 top) ∧ w = w' := by
  have h1 : (callFunc 29 #[.int .u64 9218868437227405312]).run Tryz.prog w = .ok (.value (.float .f64 top)) w := call_frombits 9218868437227405312 w
  generalize top = t at *
  go_enter Tryz.func40, Tryz.ntmps40
  go_wp2
  go_ret
  exact ⟨rfl, rfl⟩

theorem or_shift (f j : Nat) (hf : f < 4503599627370496) (hj : j < 2048) : bits BinOp.or IntKind.u64 (f : Int) ((j : Int) * 4503599627370496) = ((j * 4503599627370496 + f : Nat) : Int) := by
  have h := bits_or_u64_nat f (j * 4503599627370496) (by omega) (by omega)
  rw [show ((j : Int) * 4503599627370496) = ((j * 4503599627370496 : Nat) : Int) from by omega, h]
  congr 1
  have := Nat.two_pow_add_eq_or_of_lt (i := 52) (b := f) hf j
  rw [Nat.or_comm, Nat.mul_comm j]
  exact this.symm

set_option maxHeartbeats 1000000 in
set_option maxRecDepth 100000 in
/-- (math.ldexp, at a whole number below 2^53) -/
theorem ldexp_calls {q : Nat} {p : Int} (h : q < 2 ^ 53) (hp : -1074 ≤ p) (hp2 : p ≤ 5000) (hq : p = -1074 ∨ 2 ^ 52 ≤ q) (w : World) :
    Calls Tryz.prog 110 #[.float .f64 (double.nearest false q 0), .int .i64 p] w fun e w' => e = .returned (.float .f64 (min ((p + 1074).toNat * 2 ^ 52 + q) top)) ∧ w = w' := by
  by_cases h0 : q = 0
  · subst h0
    have e1 : min ((p + 1074).toNat * 2 ^ 52 + 0) top = 0 := by
      rw [show p = -1074 by omega]; rfl
    have e2 : double.nearest false 0 0 = 0 := rfl
    rw [e1, e2]
    have ho : (FloatKind.f64.format.order 0 0 == some .eq) = true := by decide
    clear e1 e2 hp hp2 hq h
    go_enter Tryz.func110, Tryz.ntmps110
    go_wp2
    go_ret
    exact ⟨rfl, rfl⟩
  · have hF := fofi h0 h
    have hl := log2_le h0 h
    obtain ⟨s1, s2⟩ := shifted h0 h
    have hL52 : 2 ^ 52 ≤ q → q.log2 = 52 := fun h3 => log2_unique h3 h
    have hL52' : q.log2 = 52 → q * 2 ^ (52 - q.log2) = q := fun h3 => by rw [h3]; simp
    have hLq : q.log2 = 52 → 2 ^ 52 ≤ q := fun h3 => by have := log2_lo h0; rw [h3] at this; exact this
    have htm := fun y h1 h2 h3 => tiny_mul64 (y := y) h0 h1 h2 h3
    generalize q * 2 ^ (52 - q.log2) = Q at *
    generalize q.log2 = L at *
    obtain ⟨f, rfl⟩ : ∃ f, Q = f + 4503599627370496 := ⟨Q - 4503599627370496, by omega⟩
    have hf : f < 4503599627370496 := by omega
    generalize double.nearest false q 0 = F at *
    have d1 : F / 4503599627370496 = 1023 + L := by omega
    have d2 : F % 4503599627370496 = f := by omega
    obtain ⟨a1, a2, a3, a4, a5⟩ := parts d1 d2 (by omega) (by omega)
    have ho : (FloatKind.f64.format.order F 0 == some .eq) = false := by
      refine (order_zero F (by omega)).trans (beq_eq_false_iff_ne.2 (by omega))
    have hlt : (FloatKind.f64.format.order F 0 == some .lt) = false := order_pos d1 d2 (by omega) (by omega)
    have hi := isInf_calls F (by omega) w
    rw [show isI F = false from beq_eq_false_iff_ne.2 (by rw [top_eq]; omega)] at hi
    have hn := isNan_calls F (by omega) w
    rw [show isN F = false from decide_eq_false (by rw [top_eq]; omega)] at hn
    have hm := normalize_calls d1 d2 (by omega) (by omega) w
    have hb := call_bits F w
    have g1 : (F : Int) / 4503599627370496 = ((1023 + L : Nat) : Int) := by omega
    have g2 : bits BinOp.and IntKind.i64 ((1023 + L : Nat) : Int) 2047 = ((1023 + L : Nat) : Int) := mask_exp64 _ (by omega)
    have g3 : bits BinOp.andNot IntKind.u64 (F : Int) 9218868437227405312 = (f : Int) := by rw [mask_notexp F (by omega), d2]
    obtain ⟨E, hE⟩ : ∃ E, 1023 + L = E := ⟨_, rfl⟩
    rw [hE] at g1 g2
    have HI := Lib.hid hi
    have HN := Lib.hid hn
    have HM := Lib.hid hm
    have IN := Lib.hid (inf_calls w)
    clear hi hn hm a1 a2 a3 a4 a5
    obtain ⟨x, hx⟩ : ∃ x : Int, p + L = x := ⟨_, rfl⟩
    have g4 : p + ((E : Int) - 1023) = x := by omega
    have bx : -1074 ≤ x := by omega
    have bx2 : x ≤ 5052 := by omega
    have bE : E ≤ 2046 := by omega
    obtain ⟨R, hR⟩ : ∃ R, min ((p + 1074).toNat * 2 ^ 52 + q) top = R := ⟨_, rfl⟩
    rw [hR]
    have KR := Lib.hid hR
    have KL := Lib.hid hL52
    have KL' := Lib.hid hL52'
    have KLq := Lib.hid hLq
    have KT := Lib.hid htm
    have KQ := Lib.hid hq
    have KX := Lib.hid hx
    have KE := Lib.hid hE
    have KF := Lib.hid hF
    have Kl := Lib.hid hl
    have K0 : Hid (q ≠ 0) := h0
    have K1 := Lib.hid h
    have Kf := Lib.hid hf
    clear hR hL52 hL52' hLq htm hq hx hE hF hl h0 h hf d1 d2 s1 s2
    go_enter Tryz.func110, Tryz.ntmps110
    go_wp2_with fail
    refine HI.out.mono ?_
    rintro e w' ⟨rfl, rfl⟩
    go_wp2_with fail
    refine HN.out.mono ?_
    rintro e w' ⟨rfl, rfl⟩
    go_wp2_with fail
    refine HM.out.mono ?_
    rintro e w' ⟨rfl, rfl⟩
    by_cases c1 : 1023 < x
    · have hRt : R = top := by
        have hq := KQ.out
        have hx := KX.out
        have hl := Kl.out
        have hr := KR.out
        rcases hq with hq | hq
        · omega
        · have := KL.out hq
          rw [Nat.min_eq_right (by rw [top_eq]; omega)] at hr
          exact hr.symm
      have KRt := Lib.hid hRt
      clear hRt
      go_wp2_with fail
      refine IN.out.mono ?_
      rintro e w' ⟨rfl, rfl⟩
      go_wp2
      go_ret
      exact ⟨by rw [KRt.out]; rfl, rfl⟩
    · by_cases c2 : x < -1022
      · obtain ⟨j, hj⟩ : ∃ j : Nat, x + 53 + 1023 = j := ⟨(x + 53 + 1023).toNat, by omega⟩
        have hx := KX.out
        have hl := Kl.out
        have hq := KQ.out
        have hp3 : p = -1074 := by
          rcases hq with hq | hq
          · exact hq
          · have := KL.out hq; omega
        have hq52 : q < 2 ^ 52 := by
          refine Nat.lt_of_not_le fun h => ?_
          have := KL.out h
          omega
        have hjL : j = L + 2 := by omega
        obtain ⟨Y, hYd⟩ : ∃ Y, j * 4503599627370496 + f = Y := ⟨_, rfl⟩
        have hY := or_shift f j Kf.out (by omega)
        rw [hYd] at hY
        have hfb := call_frombits Y w
        have hmul : double.mul 4368491638549381120 Y = some q := by
          have hf := Kf.out
          exact KT.out _ hq52 (by omega) (by omega)
        have hrun : ∀ W : World, (binOp .mul 22 (.float .f64 4368491638549381120) (.float .f64 Y)).run Tryz.prog W = .ok (.float .f64 q) W := fun W => run_float_arith W .mul 22 .f64 _ _ _ hmul
        have hRq : R = q := by
          have hr := KR.out
          rw [show (p + 1074).toNat = 0 by omega, Nat.zero_mul, Nat.zero_add, Nat.min_eq_left (by rw [top_eq]; omega)] at hr
          exact hr.symm
        have KRq := Lib.hid hRq
        have hj3 : x + 53 + 1023 = j := hj
        clear hYd
        have hj1 : j ≤ 100 := by omega
        clear hRq hmul hjL hq52 hp3 hq hl hx
        go_wp2
        go_ret
        exact ⟨by rw [KRq.out]; rfl, rfl⟩
      · obtain ⟨j, hj⟩ : ∃ j : Nat, x + 1023 = j := ⟨(x + 1023).toNat, by omega⟩
        have hx := KX.out
        have hl := Kl.out
        have hq := KQ.out
        have hL : L = 52 := by
          rcases hq with hq | hq
          · omega
          · exact KL.out hq
        have hQ := KL'.out hL
        have hf := Kf.out
        obtain ⟨Y, hYd⟩ : ∃ Y, j * 4503599627370496 + f = Y := ⟨_, rfl⟩
        have hY := or_shift f j hf (by omega)
        rw [hYd] at hY
        have hfb := call_frombits Y w
        have hmul : double.mul 4607182418800017408 Y = some Y := one_mul64 (E := j) (f := f) (by omega) (by omega) (by omega) (by omega)
        have hrun : ∀ W : World, (binOp .mul 22 (.float .f64 4607182418800017408) (.float .f64 Y)).run Tryz.prog W = .ok (.float .f64 Y) W := fun W => run_float_arith W .mul 22 .f64 _ _ _ hmul
        have hRq : R = Y := by
          have hr := KR.out
          rw [Nat.min_eq_left (by rw [top_eq]; omega)] at hr
          omega
        have KRq := Lib.hid hRq
        have hj1 : j ≤ 2046 := by omega
        clear hRq hmul hL hq hl hx hQ hf hYd
        go_wp2
        go_ret
        exact ⟨by rw [KRq.out]; rfl, rfl⟩

set_option maxHeartbeats 400000 in
/-- (math.Ldexp) -/
theorem Ldexp_calls {q : Nat} {p : Int} (h : q < 2 ^ 53) (hp : -1074 ≤ p) (hp2 : p ≤ 5000) (hq : p = -1074 ∨ 2 ^ 52 ≤ q) (w : World) :
    Calls Tryz.prog 59 #[.float .f64 (double.nearest false q 0), .int .i64 p] w fun e w' => e = .returned (.float .f64 (min ((p + 1074).toNat * 2 ^ 52 + q) top)) ∧ w = w' := by
  have HL := Lib.hid (ldexp_calls h hp hp2 hq w)
  generalize double.nearest false q 0 = F at *
  obtain ⟨R, hR⟩ : ∃ R, min ((p + 1074).toNat * 2 ^ 52 + q) top = R := ⟨_, rfl⟩
  rw [hR] at HL ⊢
  clear hR h hp hp2 hq
  go_enter Tryz.func59, Tryz.ntmps59
  go_wp2_with fail
  refine HL.out.mono ?_
  rintro e w' ⟨rfl, rfl⟩
  go_wp2
  go_ret
  exact ⟨rfl, rfl⟩

end Go.Proofs.YtoefahgookhicaaGreatDoorBesafter
