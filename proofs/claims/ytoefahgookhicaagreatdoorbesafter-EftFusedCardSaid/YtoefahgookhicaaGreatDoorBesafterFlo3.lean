/- Walk: the reference's rounding of a fraction to a float, to the nearest. Condition: not 0; below 2^2050. -/
import Derived.Test.YtoefahgookhicaaGreatDoorBesafterFlo2
namespace Go.Proofs.YtoefahgookhicaaGreatDoorBesafter
open Go.RowKit Ieee

/-- What Float64 hands back. -/
def FloR (r : Nat) (w : World) (e : Ending) (w' : World) : Prop := ∃ ex, e = .returned (.tuple #[.float .f64 r, .bool ex]) ∧ Below w.heap.size w w'

theorem neg_bits {y : Nat} (hy : y < 2 ^ 63) : Op.negFloat .f64 y = 2 ^ 63 + y := by
  show y ^^^ 2 ^ 63 = 2 ^ 63 + y
  have h := Nat.two_pow_add_eq_or_of_lt (i := 63) (b := y) hy 1
  rw [Nat.mul_one] at h
  rw [h]
  apply Nat.eq_of_testBit_eq
  intro i
  rw [Nat.testBit_xor, Nat.testBit_or, Nat.testBit_two_pow]
  by_cases hi : 63 = i
  · subst hi
    rw [Nat.testBit_lt_two_pow hy]
    simp
  · rw [decide_eq_false hi]
    simp

theorem bl_two (k : Nat) : bl (2 ^ k) = k + 1 := by
  rw [bl_pos (Nat.ne_of_gt (pow_pos2 k)), Nat.log2_two_pow]

set_option maxHeartbeats 1000000 in
set_option maxRecDepth 100000 in
/-- (enclosurebig.Rat.Float64) -/
theorem float_calls {w : World} {b n k : Nat} {s : Bool} (hx : RatAt w b s n k) (hn : n ≠ 0) (sn : Small n 7000) (hk : k ≤ 5000) (hv : n.log2 ≤ k + 2050) :
    Calls Tryz.prog 37 #[.pointer (some ⟨b, 0, none⟩)] w (FloR (double.nearest s n (-(k : Int))) w) := by
  have sn' : Small n 10000 := Small.up sn (by decide)
  have sk : Small (2 ^ k) 10000 := small_two (by omega)
  have hL : n.log2 ≤ 7000 := by
    have := (Nat.log2_lt hn (k := 7000)).2 sn
    omega
  obtain ⟨q1, q2, q3, q4, q5⟩ := nearOut_spec n k hn
  have hp0 : place0 n k ≤ 2000 := by unfold place0; omega
  have hp1 : -1074 ≤ place0 n k := by unfold place0; omega
  have hs := ratSign_calls hx sn'
  rw [if_neg hn] at hs
  have ha := abs_calls (place_new w (.bool false) (.slice none 0 0)) (hx.num.below (below_newQ w _)) sn'
  have hd := fun (W : World) (hb : Below w.heap.size w W) => den_calls (hx.below hb) sk
  have hnr := fun (W : World) (hb : Below w.heap.size w W) (hi : IntAt W w.heap.size 0 false n) => near_calls hi (hx.below hb).den sn sn' sk hn hL hk (place0 n k) rfl hp1 hp0 (by rw [bl_pos hn, bl_two]; show _ = _; omega)
  have hc := fun (W : World) (hb : Below w.heap.size w W) => (hx.below hb).num.cells
  have hnn := nearest_rung s n (-(k : Int)) hn
  rw [hnn, ← q1]
  obtain ⟨q, hq⟩ : ∃ q, (nearOut n k).1 = q := ⟨_, rfl⟩
  obtain ⟨p, hp⟩ : ∃ p, (nearOut n k).2 = p := ⟨_, rfl⟩
  rw [hq, hp] at hnr
  rw [hq] at q2
  rw [hp] at q3 q5
  rw [hp, hq] at q4 ⊢
  have hlx := fun W => Ldexp_calls q2 q3 (by omega) q4 W
  obtain ⟨R, hR⟩ : ∃ R, min ((p + 1074).toNat * 2 ^ 52 + q) top = R := ⟨_, rfl⟩
  rw [hR] at hlx ⊢
  have hRt : R < 9223372036854775808 := Nat.lt_of_le_of_lt (hR ▸ Nat.min_le_right _ _) (by decide)
  have hii := fun W => isInf_calls R (by omega) W
  have hun : Op.unary .neg (.float .f64 R) = pure (.float .f64 (2 ^ 63 + R)) := by
    rw [← neg_bits hRt]
    rfl
  have hfo : floatOfInt .f64 (q : Int) = double.nearest false q 0 := by
    show double.write (.number (decide ((q : Int) < 0)) (q : Int).natAbs 0) = _
    rw [decide_eq_false (by omega), Int.natAbs_natCast]
    rfl
  obtain ⟨F, hF⟩ : ∃ F, double.nearest false q 0 = F := ⟨_, rfl⟩
  rw [hF] at hfo hlx
  have hq64 : q < 18446744073709551616 := by omega
  obtain ⟨g, hg⟩ : ∃ g : Int, (if s = true then -1 else 1) = g := ⟨_, rfl⟩
  rw [hg] at hs
  have hg0 : (g == 0) = false := by
    rw [← hg]
    cases s <;> rfl
  obtain ⟨bb, hbb⟩ : ∃ bb, isI R = bb := ⟨_, rfl⟩
  rw [hbb] at hii
  have lx := hx.lt
  have S := Lib.hid hs
  have A := Lib.hid ha
  have D := Lib.hid hd
  have NR := Lib.hid hnr
  have C := Lib.hid hc
  have LX := Lib.hid hlx
  have II := Lib.hid hii
  have Q64 := Lib.hid hq64
  clear hs ha hd hnr hc hlx hii q1 q2 q3 q4 q5 hp0 hp1 hnn hq hp hR hF hg hbb hx sn sn' sk hL hv hn hk hq64
  go_enter Tryz.func37, Tryz.ntmps37
  go_wp2_with fail
  refine S.out.mono ?_
  rintro e w' ⟨rfl, rfl⟩
  go_wp2_with fail
  refine A.out.mono ?_
  rintro e w1 h1
  obtain ⟨rfl, hi1, hb1⟩ := newQ h1
  have HI1 := Lib.hid hi1
  have HB1 := Lib.hid hb1
  clear h1 hi1 hb1
  go_wp2_with fail
  refine (D.out _ HB1.out).mono ?_
  rintro e w' ⟨rfl, rfl⟩
  go_wp2_with fail
  refine (NR.out _ HB1.out HI1.out).mono ?_
  rintro e w2 ⟨bq, ex, rfl, hi2, hb2⟩
  have hu := uint_calls hi2 Q64.out
  have HU := Lib.hid hu
  have HB2 := Lib.hid (HB1.out.trans (hb2.mono HB1.out.size))
  clear hi2 hb2 hu
  go_wp2_with fail
  refine HU.out.mono ?_
  rintro e w' ⟨rfl, rfl⟩
  go_wp2_with fail
  refine (LX.out _).mono ?_
  rintro e w' ⟨rfl, rfl⟩
  go_wp2_with fail
  refine (II.out _).mono ?_
  rintro e w' ⟨rfl, rfl⟩
  obtain ⟨v0, c0, c1, _⟩ := C.out _ HB2.out
  cases bb <;> cases s
  all_goals go_wp2
  all_goals go_ret2
  · exact ⟨_, rfl, HB2.out⟩
  · exact ⟨_, rfl, HB2.out⟩
  · exact ⟨_, rfl, HB2.out⟩
  · exact ⟨_, rfl, HB2.out⟩

/-- What Round hands back. -/
def RouR (r : Nat) (w : World) (e : Ending) (w' : World) : Prop := e = .returned (.float .f64 r) ∧ Below w.heap.size w w'

set_option maxHeartbeats 1000000 in
set_option maxRecDepth 100000 in
/-- (enclosureref.Round, to the nearest) -/
theorem round_calls {w : World} {b n k : Nat} {s : Bool} (hx : RatAt w b s n k) (hn : n ≠ 0) (sn : Small n 7000) (hk : k ≤ 5000) (hv : n.log2 ≤ k + 2050) :
    Calls Tryz.prog 19 #[.pointer (some ⟨b, 0, none⟩), .int .i64 1] w (RouR (double.nearest s n (-(k : Int))) w) := by
  have sn' : Small n 10000 := Small.up sn (by decide)
  have hfl := float_calls hx hn sn hk hv
  have hs := fun (W : World) (hb : Below w.heap.size w W) => ratSign_calls (hx.below hb) sn'
  have hnn := nearest_rung s n (-(k : Int)) hn
  obtain ⟨r0, hr0⟩ : ∃ r0, min (rung n (-(k : Int))) top = r0 := ⟨_, rfl⟩
  rw [hr0] at hnn
  have hr1 : r0 ≤ top := hr0 ▸ Nat.min_le_right _ _
  have hr2 : r0 < 9223372036854775808 := Nat.lt_of_le_of_lt hr1 (by decide)
  obtain ⟨R, hR⟩ : ∃ R, double.nearest s n (-(k : Int)) = R := ⟨_, rfl⟩
  rw [hR] at hfl hnn ⊢
  have hRl : R < 2 ^ 64 := by rw [hnn]; unfold sgn; split <;> omega
  have ho : (FloatKind.f64.format.order R 0 == some .eq) = (r0 == 0) := by
    refine (order_zero R hRl).trans ?_
    congr 1
    rw [hnn]; unfold sgn; split <;> omega
  have hz : r0 = 0 → sgn s 0 = R := fun h => by rw [hnn, h]
  obtain ⟨g, hg⟩ : ∃ g : Int, (if n = 0 then 0 else if s then -1 else 1) = g := ⟨_, rfl⟩
  rw [hg] at hs
  rw [if_neg hn] at hg
  have hg0 : (g == 0) = false := by rw [← hg]; cases s <;> rfl
  obtain ⟨G, hG, hGs, hGl⟩ : ∃ G, floatOfInt .f64 g = G ∧ fS G = s ∧ G < 18446744073709551616 := by
    refine ⟨_, rfl, ?_⟩
    rw [← hg]
    cases s <;> decide
  have hcp := fun W => copysign_calls G hGl W
  rw [hGs] at hcp
  have FL := Lib.hid hfl
  have S := Lib.hid hs
  have CP := Lib.hid hcp
  have Z := Lib.hid hz
  clear hfl hs hcp hz hx hn sn sn' hk hv hr0 hr1 hr2 hR hRl hg hGs hGl hnn
  go_enter Tryz.func19, Tryz.ntmps19
  go_wp2_with fail
  refine FL.out.mono ?_
  rintro e w1 ⟨ex, rfl, hb1⟩
  have HB1 := Lib.hid hb1
  clear hb1
  go_wp2_with fail
  refine (S.out _ HB1.out).mono ?_
  rintro e w' ⟨rfl, rfl⟩
  by_cases h0 : r0 = 0
  · subst h0
    have ho' : (FloatKind.f64.format.order R 0 == some .eq) = true := ho
    have Z2 := Lib.hid (Z.out rfl)
    clear ho Z
    go_wp2_with fail
    refine (S.out _ HB1.out).mono ?_
    rintro e w' ⟨rfl, rfl⟩
    go_wp2_with fail
    refine (CP.out _).mono ?_
    rintro e w' ⟨rfl, rfl⟩
    rw [Z2.out]
    go_wp2
    go_ret
    exact ⟨rfl, HB1.out⟩
  · have ho' : (FloatKind.f64.format.order R 0 == some .eq) = false := ho.trans (beq_eq_false_iff_ne.2 h0)
    clear ho
    go_wp2
    go_ret
    exact ⟨rfl, HB1.out⟩

end Go.Proofs.YtoefahgookhicaaGreatDoorBesafter
