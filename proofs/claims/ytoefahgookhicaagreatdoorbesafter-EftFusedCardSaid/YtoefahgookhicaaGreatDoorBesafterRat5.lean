/- Walk: the fraction of a float. Condition: the float is finite. -/
import Derived.Test.YtoefahgookhicaaGreatDoorBesafterRat3
import Derived.Test.YtoefahgookhicaaGreatDoorBesafterNear
import Derived.Test.YtoefahgookhicaaGreatDoorBesafterRowx
import Derived.Test.YtoefahgookhicaaGreatDoorBesafterLawFlo
namespace Go.Proofs.YtoefahgookhicaaGreatDoorBesafter
open Go.RowKit

theorem mask_exp (y : Nat) (hy : y < 18446744073709551616) : bits BinOp.and IntKind.u64 (y : Int) 2047 = ((y % 2048 : Nat) : Int) := by
  have h := bits_and_u64_nat y 2047 (by omega) (by omega)
  rw [show (2047 : Nat) = 2 ^ 11 - 1 from rfl, Nat.and_two_pow_sub_one_eq_mod] at h
  exact h

theorem mask_frac (y : Nat) (hy : y < 18446744073709551616) : bits BinOp.and IntKind.u64 (y : Int) 4503599627370495 = ((y % 4503599627370496 : Nat) : Int) := by
  have h := bits_and_u64_nat y 4503599627370495 (by omega) (by omega)
  rw [show (4503599627370495 : Nat) = 2 ^ 52 - 1 from rfl, Nat.and_two_pow_sub_one_eq_mod] at h
  exact h

theorem or_frac (y : Nat) (hy : y < 4503599627370496) : bits BinOp.or IntKind.u64 (y : Int) 4503599627370496 = ((y + 4503599627370496 : Nat) : Int) := by
  have h := bits_or_u64_nat y 4503599627370496 (by omega) (by omega)
  have h2 : y ||| 4503599627370496 = y + 4503599627370496 := by
    have := Nat.two_pow_add_eq_or_of_lt (i := 52) (b := y) hy 1
    rw [Nat.or_comm, Nat.add_comm]
    simpa using this.symm
  rw [h2] at h
  exact h

theorem fM_lt (x : Nat) : fM x < 2 ^ 53 := by
  have : x % 2 ^ 52 < 2 ^ 52 := Nat.mod_lt _ (by decide)
  unfold fM
  split <;> omega
theorem fE_lt (x : Nat) (hf : x / 2 ^ 52 % 2048 ≠ 2047) : 1 ≤ fE x ∧ fE x ≤ 2046 := by
  have : x / 2 ^ 52 % 2048 < 2048 := Nat.mod_lt _ (by decide)
  unfold fE
  split <;> omega
set_option exponentiation.threshold 20000 in
theorem fN_small (x : Nat) (hf : x / 2 ^ 52 % 2048 ≠ 2047) : Small (fN x) 1024 := by
  have h1 := fM_lt x
  have h2 := fE_lt x hf
  unfold fN Small
  calc fM x * 2 ^ (fE x - 1075) < 2 ^ 53 * 2 ^ (fE x - 1075) := Nat.mul_lt_mul_of_pos_right h1 (Nat.pow_pos (by decide))
    _ = 2 ^ (53 + (fE x - 1075)) := (Nat.pow_add _ _ _).symm
    _ ≤ 2 ^ 1024 := Nat.pow_le_pow_right (by decide) (by omega)
theorem fK_le (x : Nat) (hf : x / 2 ^ 52 % 2048 ≠ 2047) : fK x ≤ 1074 := by
  have h2 := fE_lt x hf
  unfold fK
  omega

theorem nz_mul (s : Bool) (M j : Nat) : nz (nz s M) (M * 2 ^ j) = nz s (M * 2 ^ j) := by
  by_cases h : M = 0
  · subst h; simp [nz]
  · have : M * 2 ^ j ≠ 0 := Nat.mul_ne_zero h (Nat.ne_of_gt (pow_pos2 j))
    cases s <;> simp [nz, h]
theorem Small.up {n a b : Nat} (h : Small n a) (hab : a ≤ b) : Small n b := Nat.lt_of_lt_of_le h (Nat.pow_le_pow_right (by decide) hab)
theorem small_two {j L : Nat} (h : j < L) : Small (2 ^ j) L := Nat.pow_lt_pow_right (by decide) h

set_option maxHeartbeats 2000000 in
set_option maxRecDepth 100000 in
/-- (enclosurebig.Rat.SetFloat64) -/
theorem setFloat_calls {w : World} {b x : Nat} {x0 x1 x2 x3 : Value} (hz : R4 w b x0 x1 x2 x3) (hx : x < 18446744073709551616) (hf : x / 2 ^ 52 % 2048 ≠ 2047) :
    Calls Tryz.prog 34 #[.pointer (some ⟨b, 0, none⟩), .float .f64 x] w (NormR w b (nz (fS x) (fN x)) (fN x) (fK x)) := by
  have lz := hz.lt
  have HZ := Lib.hid hz
  have hcb := call_bits x w
  have h53 := fM_lt x
  have hE := fE_lt x hf
  have hdiv : x / 4503599627370496 < 18446744073709551616 := Nat.lt_of_le_of_lt (Nat.div_le_self _ _) hx
  have m1 : bits BinOp.and IntKind.u64 ((x : Int) / 4503599627370496) 2047 = ((x / 4503599627370496 % 2048 : Nat) : Int) := by
    have h := mask_exp (x / 4503599627370496) hdiv
    rw [Int.natCast_ediv] at h
    exact h
  have m2 := mask_frac x hx
  have hf2 : x % 4503599627370496 < 4503599627370496 := Nat.mod_lt _ (by decide)
  have m3 := or_frac _ hf2
  have q1 : x / 4503599627370496 % 2048 ≠ 2047 := hf
  have q2 : x / 4503599627370496 % 2048 < 2048 := Nat.mod_lt _ (by decide)
  have dE : fE x = if x / 4503599627370496 % 2048 = 0 then 1 else x / 4503599627370496 % 2048 := rfl
  have dM : fM x = if x / 4503599627370496 % 2048 = 0 then x % 4503599627370496 else x % 4503599627370496 + 4503599627370496 := rfl
  have dS : fS x = decide (9223372036854775808 ≤ x) := rfl
  have dN : fN x = fM x * 2 ^ (fE x - 1075) := rfl
  have dK : fK x = 1075 - fE x := rfl
  have sN := fN_small x hf
  generalize fN x = n at *
  generalize fK x = k at *
  generalize fE x = E at *
  generalize fM x = M at *
  generalize fS x = sg at *
  generalize x / 4503599627370496 % 2048 = e at *
  generalize x % 4503599627370496 = f at *
  have z1 : ((e : Int) == 2047) = false := beq_eq_false_iff_ne.2 (fun h => q1 (Int.ofNat.inj h))
  have m4 : wrap64 (e : Int) = e := IntWalk.wrap64_in _ ⟨by omega, by omega⟩
  have DE := Lib.hid dE
  have DM := Lib.hid dM
  have DS := Lib.hid dS
  have DN := Lib.hid dN
  have DK := Lib.hid dK
  have SN := Lib.hid sN
  have H53 := Lib.hid h53
  clear hz dE dM dS dN dK sN h53 hf hdiv
  go_enter Tryz.func34, Tryz.ntmps34
  go_upto_if 21 with (fail)
  go_cut [6, 7] (fun s6 s7 wx => s6 = .int .i64 (E : Int) ∧ s7 = .int .u64 (M : Int) ∧ wx = w)
  case first =>
    by_cases h0 : e = 0
    · have e1 : E = 1 := by rw [DE.out, if_pos h0]
      have e2 : M = f := by rw [DM.out, if_pos h0]
      subst h0; subst e1; subst e2
      have z2 : (((0 : Nat) : Int) == 0) = true := rfl
      go_wp2

      go_meet
      exact ⟨rfl, rfl, rfl⟩
    · have e1 : E = e := by rw [DE.out, if_neg h0]
      have e2 : M = f + 4503599627370496 := by rw [DM.out, if_neg h0]
      have z2 : ((e : Int) == 0) = false := beq_eq_false_iff_ne.2 (by omega)
      rw [← e2] at m3
      subst e1
      go_wp2

      go_meet
      exact ⟨rfl, congrArg _ (by omega), rfl⟩
  case rest =>
    obtain ⟨rfl, rfl, hw⟩ := hcut
    rw [hw]
    clear hw wc hcb m1 m2 m3 m4 z1 q1 q2 hf2
    go_wp2_with fail
    refine (setUint_calls M (place_new w _ _) (by have := H53.out; omega)).mono ?_
    rintro e1 w1 h1
    obtain ⟨rfl, hi1, hb1⟩ := newQ h1
    have HI1 := Lib.hid hi1
    have HB1 := Lib.hid hb1
    have l1 := hi1.lt
    clear h1 hi1 hb1
    have sM : Small M 10000 := small64 (by have := H53.out; omega)
    go_upto_if 29 with (fail)
    go_cut [8] (fun s8 wx => s8 = .pointer (some ⟨w.heap.size, 0, none⟩) ∧ IntAt wx w.heap.size 0 (nz sg M) M ∧ Below w.heap.size w wx)
    case first =>
      by_cases hs : 9223372036854775808 ≤ x
      · have e1 : sg = true := by rw [DS.out]; exact decide_eq_true hs
        have z3 : ((x : Int) / 9223372036854775808 == 1) = true := beq_iff_eq.2 (by omega)
        subst e1
        go_wp2_with fail
        refine (neg_calls HI1.out.place HI1.out sM).mono ?_
        rintro e2 w2 ⟨rfl, hw2⟩
        have hi2 := hw2.int HI1.out.place
        rw [show nz (!nz false M) M = nz true M by simp [nz]] at hi2
        have HI2 := Lib.hid hi2
        have HB2 := Lib.hid (HB1.out.trans (hw2.below (B := w.heap.size) (Nat.le_refl _) HB1.out.size))
        clear hw2 hi2
        go_wp2
        go_meet
        exact ⟨rfl, HI2.out, HB2.out⟩
      · have e1 : sg = false := by rw [DS.out]; exact decide_eq_false hs
        have z3 : ((x : Int) / 9223372036854775808 == 1) = false := beq_eq_false_iff_ne.2 (by omega)
        subst e1
        go_wp2
        go_meet
        exact ⟨rfl, HI1.out, HB1.out⟩
    case rest =>
      obtain ⟨rfl, hi, hb⟩ := hcut
      have HI2 := Lib.hid hi
      have HB2 := Lib.hid hb
      have l2 := hi.lt
      clear HI1 HB1 l1 hi hb
      go_wp2_with fail
      refine (newOne_calls wc).mono ?_
      rintro e3 w3 ⟨bo, rfl, hbo, hi3, hb3⟩
      have HI3 := Lib.hid hi3
      have HI4 := Lib.hid (HI2.out.below (hb3.mono (Nat.le_refl _)))
      have HB3 := Lib.hid (HB2.out.trans (hb3.mono HB2.out.size))
      have l3 := hi3.lt
      clear hi3 hb3
      by_cases hge : (1075 : Int) ≤ E
      · obtain ⟨j, hj⟩ : ∃ j : Nat, (E : Int) - 1075 = j := ⟨E - 1075, by omega⟩
        have ej : E - 1075 = j := by omega
        have hj2 : j ≤ 971 := by omega
        have hn : n = M * 2 ^ j := by rw [← ej]; exact DN.out
        have hk : k = 0 := by have := DK.out; omega
        have HN := Lib.hid hn
        subst hk
        clear hn ej
        go_wp2_with fail
        refine (lsh_calls (k := j) HI4.out.place HI4.out sM (by omega)).mono ?_
        rintro e4 w4 ⟨rfl, hw4⟩
        have hi5 := hw4.int HI4.out.place
        have HI6 := Lib.hid (HI3.out.wrote_other HI4.out.place hw4 (by omega))
        have HB4 := Lib.hid (HB3.out.trans (hw4.below (B := w.heap.size) (Nat.le_refl _) HB3.out.size))
        rw [← HN.out, show nz (nz sg M) n = nz sg n by rw [HN.out]; exact nz_mul sg M j] at hi5
        have HI5 := Lib.hid hi5
        clear hw4 hi5
        have hsf := setFrac_calls (k := 0) (HZ.out.below HB4.out) HI5.out HI6.out (Small.up SN.out (by decide)) (small64 (by decide)) (by decide)
        rw [show nz (nz sg n) n = nz sg n by cases sg <;> simp [nz]] at hsf
        have HSF := Lib.hid hsf
        clear hsf
        go_wp2_with fail
        refine HSF.out.mono ?_
        rintro e5 w5 ⟨n', k', rfl, e1, e2, e3, hr, hg⟩
        have E1 := Lib.hid e1
        have HR := Lib.hid hr
        have HG := Lib.hid hg
        clear e1 hr hg
        go_wp2
        go_ret
        exact ⟨n', k', rfl, E1.out, e2, e3, HR.out, grown_below HB4.out HG.out⟩
      · obtain ⟨j, hj⟩ : ∃ j : Nat, 1075 - (E : Int) = j := ⟨1075 - E, by omega⟩
        have hj2 : j ≤ 1074 := by omega
        have hn : n = M := by rw [DN.out, show E - 1075 = 0 by omega]; simp
        have hk : j = k := by have := DK.out; omega
        subst hk
        subst hn
        go_wp2_with fail
        refine (lsh_calls (k := j) HI3.out.place HI3.out (small64 (by decide)) (by omega)).mono ?_
        rintro e4 w4 ⟨rfl, hw4⟩
        have hi5 := hw4.int HI3.out.place
        have HI6 := Lib.hid (HI4.out.wrote_other HI3.out.place hw4 (by omega))
        have HB4 := Lib.hid (HB3.out.trans (hw4.below (B := w.heap.size) (by omega) HB3.out.size))
        rw [Nat.one_mul, show nz false (2 ^ j) = false by rfl] at hi5
        have HI5 := Lib.hid hi5
        clear hw4 hi5
        have hsf := setFrac_calls (k := j) (HZ.out.below HB4.out) HI6.out HI5.out (Small.up SN.out (by decide)) (small_two (by omega)) (by omega)
        rw [show nz (nz sg n) n = nz sg n by cases sg <;> simp [nz]] at hsf
        have HSF := Lib.hid hsf
        clear hsf
        go_wp2_with fail
        refine HSF.out.mono ?_
        rintro e5 w5 ⟨n', k', rfl, e1, e2, e3, hr, hg⟩
        have E1 := Lib.hid e1
        have HR := Lib.hid hr
        have HG := Lib.hid hg
        clear e1 hr hg
        go_wp2
        go_ret
        exact ⟨n', k', rfl, E1.out, e2, e3, HR.out, grown_below HB4.out HG.out⟩

end Go.Proofs.YtoefahgookhicaaGreatDoorBesafter
