/- Walk: division where both numbers are below 2^64, and where the divisor is one word. Condition: the divisor is not 0. -/
import Derived.Test.YtoefahgookhicaaGreatDoorBesafterDiv
namespace Go.Proofs.YtoefahgookhicaaGreatDoorBesafter
open Go.RowKit

set_option exponentiation.threshold 20000 in
theorem small64 {n : Nat} (h : n < 18446744073709551616) : Small n 10000 := by
  show n < 2 ^ 10000
  have : (2 : Nat) ^ 64 ≤ 2 ^ 10000 := Nat.pow_le_pow_right (by decide) (by decide)
  have e : (2 : Nat) ^ 64 = 18446744073709551616 := by decide
  omega

set_option maxHeartbeats 1000000 in
set_option maxRecDepth 100000 in
/-- Both are plain numbers. -/
theorem div_plain {w : World} {a b : Option Addr} {la lb ca cb m n : Nat} (ha : Limbs w (.slice a la ca) m) (hb : Limbs w (.slice b lb cb) n) (hm : m < 18446744073709551616) (hn : n ≠ 0) (h : n ≤ m) (hla : la ≤ 2) (hlb : 0 < lb) (hlb2 : lb ≤ 320) : Calls Tryz.prog 97 #[.slice a la ca, .slice b lb cb] w (DivR w (m / n) (m % n)) := by
  have hc := cmp_calls ha hb (small64 hm) (small64 (by omega))
  have z : ((lb : Int) == 0) = false := beq_eq_false_iff_ne.2 (by omega)
  have HA := Lib.hid ha
  have HB := Lib.hid hb
  have HC := Lib.hid hc
  obtain ⟨q, hq⟩ : ∃ q : Nat, m / n = q := ⟨_, rfl⟩
  obtain ⟨r, hr⟩ : ∃ r : Nat, m % n = r := ⟨_, rfl⟩
  have e1 : (m : Int) / (n : Int) = q := by rw [← hq]; simp
  have e2 : (m : Int) % (n : Int) = r := by rw [← hr]; simp
  have e3 : (m : Int).tmod (n : Int) = r := by rw [Int.tmod_eq_emod_of_nonneg (by omega)]; exact e2
  have b1 : q < 18446744073709551616 := by rw [← hq]; exact Nat.lt_of_le_of_lt (Nat.div_le_self _ _) hm
  have b2 : r < 18446744073709551616 := by rw [← hr]; exact Nat.lt_of_le_of_lt (Nat.mod_le _ _) hm
  have u1 : IntKind.u64.wrap (q : Int) = q := IntWalk.u64_in _ (by omega)
  have u2 : IntKind.u64.wrap (r : Int) = r := IntWalk.u64_in _ (by omega)
  rw [hq, hr]
  clear hq hr
  have c3 : decide (cmp3 m n < 0) = false := by unfold cmp3; rw [if_neg (by omega)]; split <;> rfl
  clear ha hb hc
  go_enter Tryz.func97, Tryz.ntmps97
  go_wp2_with fail
  refine HC.out.mono ?_
  rintro e w' ⟨rfl, d, rfl⟩
  go_wp2_with fail
  refine (plain_calls (w := w.drewN d) HA.out hm).mono ?_
  rintro e w1 ⟨rfl, rfl⟩
  go_wp2_with fail
  refine (plain_calls (w := w.drewN d) HB.out (by omega)).mono ?_
  rintro e w1 ⟨rfl, rfl⟩
  go_wp2_with fail
  go_region_with (first | (go_at_call_of 99 (Value.int .u64 (q : Int)); (with_reducible refine (words_calls _ q b1).mono ?_); rintro e w1 ⟨v1, rfl, hv1, hb1⟩) | (go_at_call_of 99 (Value.int .u64 (r : Int)); (with_reducible refine (words_calls _ r b2).mono ?_); rintro e w2 ⟨v2, rfl, hv2, hb2⟩))
  have HV1 := Lib.hid (hv1.below hb2)
  have HV2 := Lib.hid hv2
  have HB : Hid (Below w.heap.size w w2) := ((below_drewN (Below.refl _ _) _).trans hb1).trans (hb2.mono hb1.size)
  clear hv1 hb1 hb2 hv2
  go_wp2
  go_ret2
  exact ⟨v1, v2, rfl, HV1.out, HV2.out, HB.out⟩

set_option maxHeartbeats 1000000 in
set_option maxRecDepth 100000 in
/-- The divisor is one word. -/
theorem div_word {w : World} {a b : Option Addr} {la lb ca cb m n : Nat} (ha : Limbs w (.slice a la ca) m) (hb : Limbs w (.slice b lb cb) n) (sa : Small m 10000) (hn : n ≠ 0) (h : n ≤ m) (hla : 2 < la) (hla2 : la ≤ 320) (hlb : lb = 1) (hn2 : n < 4294967296)
    (hcell : ∃ g, b = some ⟨g, 0, none⟩ ∧ g < w.heap.size ∧ w.cell? ⟨g, 0, none⟩ = some (.int .u32 n)) : Calls Tryz.prog 97 #[.slice a la ca, .slice b lb cb] w (DivR w (m / n) (m % n)) := by
  have hc := cmp_calls ha hb sa (small64 (by omega))
  subst hlb
  obtain ⟨g, rfl, hg, hcell⟩ := hcell
  have HA := Lib.hid ha
  have HC := Lib.hid hc
  have c3 : decide (cmp3 m n < 0) = false := by unfold cmp3; rw [if_neg (by omega)]; split <;> rfl
  have hs := fun d => small_calls (w := w.drewN d) ha sa (by omega) hn2
  obtain ⟨q, hq⟩ : ∃ q : Nat, m / n = q := ⟨_, rfl⟩
  obtain ⟨r, hr⟩ : ∃ r : Nat, m % n = r := ⟨_, rfl⟩
  have br : r < 4294967296 := by rw [← hr]; exact Nat.lt_trans (Nat.mod_lt _ (by omega)) hn2
  rw [hq, hr] at hs
  rw [hq, hr]
  have HS := Lib.hid hs
  clear ha hb hc hs hq hr
  go_enter Tryz.func97, Tryz.ntmps97
  go_wp2_with fail
  refine HC.out.mono ?_
  rintro e w' ⟨rfl, d, rfl⟩
  go_wp2_with fail
  refine (HS.out d).mono ?_
  rintro e w1 ⟨v, rfl, hv, hbl⟩
  have HV := Lib.hid hv
  have HBL := Lib.hid hbl
  clear hv hbl
  have hm : Made (w1.alloc (.cells #[.int .u32 (r : Int)] 120)) w1.heap.size w1.heap.size 1 [r] :=
    World.ownsRow_lit (base := w1.heap.size) (e := 120) (size := 1) w1 #[.int .u32 (r : Int)] 1 (Nat.le_refl _) (by unfold maxLen; omega) rfl
  have HM := Lib.hid hm
  clear hm
  go_wp2_with fail
  refine (trim_made HM.out (Ws.cons (by omega) Ws.nil) (by omega) (N := r) (by simp [val])).mono ?_
  rintro e w2 ⟨u, rfl, hu, rfl⟩
  have HU := Lib.hid hu
  clear hu
  have ha1 := (Below.refl w1.heap.size w1).alloc (Nat.le_refl _) (.cells #[.int .u32 (r : Int)] 120)
  have HV2 := Lib.hid (HV.out.below ha1)
  have HB : Hid (Below w.heap.size w (w1.alloc (.cells #[.int .u32 (r : Int)] 120))) := ((below_drewN (Below.refl _ _) _).trans HBL.out).trans (ha1.mono HBL.out.size)
  clear ha1
  go_wp2
  go_ret2
  exact ⟨v, u, rfl, HV2.out, HU.out, HB.out⟩

end Go.Proofs.YtoefahgookhicaaGreatDoorBesafter
