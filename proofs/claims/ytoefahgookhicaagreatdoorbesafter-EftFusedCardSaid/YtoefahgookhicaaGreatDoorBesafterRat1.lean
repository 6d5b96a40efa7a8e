/- Walk: a fraction over a power of two is brought to its lowest terms. Condition: below 2^10000. -/
import Derived.Test.YtoefahgookhicaaGreatDoorBesafterInt3
import Derived.Test.YtoefahgookhicaaGreatDoorBesafterInt2
import Derived.Test.YtoefahgookhicaaGreatDoorBesafterLawDiv
import Derived.Deep.DeepCutAuto
namespace Go.Proofs.YtoefahgookhicaaGreatDoorBesafter
open Go.RowKit

/-- The four cells of a fraction. -/
def R4 (w : World) (b : Nat) (x0 x1 x2 x3 : Value) : Prop := w.heap[b]? = some (.cells #[x0, x1, x2, x3] 39 (0, 0))

/-- At b stands the fraction of the sign s and n over 2^k. -/
def RatAt (w : World) (b : Nat) (s : Bool) (n k : Nat) : Prop := ∃ va vd, R4 w b (.bool s) va (.bool false) vd ∧ Limbs w va n ∧ Limbs w vd (2 ^ k)

section
variable {w : World} {b : Nat} {x0 x1 x2 x3 v : Value}
theorem R4.lt (h : R4 w b x0 x1 x2 x3) : b < w.heap.size := block_lt h
theorem R4.cell0 (h : R4 w b x0 x1 x2 x3) : w.cell? ⟨b, 0, none⟩ = some x0 := cell_of_row w b 0 _ 39 (0, 0) h
theorem R4.cell1 (h : R4 w b x0 x1 x2 x3) : w.cell? ⟨b, 1, none⟩ = some x1 := cell_of_row w b 1 _ 39 (0, 0) h
theorem R4.cell2 (h : R4 w b x0 x1 x2 x3) : w.cell? ⟨b, 2, none⟩ = some x2 := cell_of_row w b 2 _ 39 (0, 0) h
theorem R4.cell3 (h : R4 w b x0 x1 x2 x3) : w.cell? ⟨b, 3, none⟩ = some x3 := cell_of_row w b 3 _ 39 (0, 0) h
theorem R4.frozen (h : R4 w b x0 x1 x2 x3) (j : Nat) : w.frozen? ⟨b, j, none⟩ = false := frozen_of_row w b j _ 39 h
theorem R4.set0 (h : R4 w b x0 x1 x2 x3) : R4 (w.setCell ⟨b, 0, none⟩ v) b v x1 x2 x3 := heap_setCell_same w b 0 _ 39 v h
theorem R4.set1 (h : R4 w b x0 x1 x2 x3) : R4 (w.setCell ⟨b, 1, none⟩ v) b x0 v x2 x3 := heap_setCell_same w b 1 _ 39 v h
theorem R4.set2 (h : R4 w b x0 x1 x2 x3) : R4 (w.setCell ⟨b, 2, none⟩ v) b x0 x1 v x3 := heap_setCell_same w b 2 _ 39 v h
theorem R4.set3 (h : R4 w b x0 x1 x2 x3) : R4 (w.setCell ⟨b, 3, none⟩ v) b x0 x1 x2 v := heap_setCell_same w b 3 _ 39 v h
theorem R4.place0 (h : R4 w b x0 x1 x2 x3) : Place w b 0 := ⟨_, 39, h, by decide, by simp⟩
theorem R4.place2 (h : R4 w b x0 x1 x2 x3) : Place w b 2 := ⟨_, 39, h, by decide, by simp⟩
theorem R4.below {w' : World} (h : R4 w b x0 x1 x2 x3) (hb : Below w.heap.size w w') : R4 w' b x0 x1 x2 x3 := (hb.block b h.lt).trans h
theorem R4.int0 {s : Bool} {n : Nat} (h : R4 w b (.bool s) x1 x2 x3) (hl : Limbs w x1 n) : IntAt w b 0 s n := ⟨_, 39, x1, h, by decide, rfl, rfl, hl⟩
theorem R4.int2 {s : Bool} {n : Nat} (h : R4 w b x0 x1 (.bool s) x3) (hl : Limbs w x3 n) : IntAt w b 2 s n := ⟨_, 39, x3, h, by decide, rfl, rfl, hl⟩
theorem R4.wrote2 {w' : World} {s : Bool} {n : Nat} (h : R4 w b x0 x1 x2 x3) (hw : Wrote w w' b 2 s n) : ∃ u, R4 w' b x0 x1 (.bool s) u ∧ Limbs w' u n := by
  obtain ⟨cur, t, u, h1, h2, h3, h4⟩ := hw
  unfold R4 at h
  rw [h] at h1
  have := Option.some.inj h1
  simp only [Obj.cells.injEq] at this
  obtain ⟨rfl, rfl, _⟩ := this
  exact ⟨u, h2, h3⟩
/-- A store into the block of a fraction turns no words. -/
theorem Limbs.r4set {u : Value} {n : Nat} (hl : Limbs w u n) (h : R4 w b x0 x1 x2 x3) (j : Nat) (y : Value) : Limbs (w.setCell ⟨b, j, none⟩ y) u n :=
  hl.grown (b := b) ⟨rfl, rfl, rfl, by simp, fun k hk hne => heap_setCell_other w _ k _ (by simpa using hne)⟩ h (by decide)
end

theorem RatAt.below {w w' : World} {b : Nat} {s : Bool} {n k : Nat} (h : RatAt w b s n k) (hb : Below w.heap.size w w') : RatAt w' b s n k := by
  obtain ⟨va, vd, h1, h2, h3⟩ := h; exact ⟨va, vd, h1.below hb, h2.below hb, h3.below hb⟩
theorem RatAt.num {w : World} {b : Nat} {s : Bool} {n k : Nat} (h : RatAt w b s n k) : IntAt w b 0 s n := by
  obtain ⟨va, vd, h1, h2, h3⟩ := h; exact h1.int0 h2
theorem RatAt.den {w : World} {b : Nat} {s : Bool} {n k : Nat} (h : RatAt w b s n k) : IntAt w b 2 false (2 ^ k) := by
  obtain ⟨va, vd, h1, h2, h3⟩ := h; exact h1.int2 h3
theorem RatAt.lt {w : World} {b : Nat} {s : Bool} {n k : Nat} (h : RatAt w b s n k) : b < w.heap.size := h.num.lt

/-- The words of 1. -/
theorem Limbs.one {w : World} {v : Value} (h : Limbs w v 1) : ∃ g cap, v = .slice (some ⟨g, 0, none⟩) 1 cap ∧ w.cell? ⟨g, 0, none⟩ = some (.int .u32 1) := by
  obtain ⟨xs, a, b, e, r⟩ := h
  have : xs = [1] := val_inj a (Ws.cons (by decide) Ws.nil) b (fun _ => by simp) (by rw [e]; rfl)
  subst this
  obtain ⟨ao, cap, rfl, _, hc⟩ := r.open
  obtain ⟨g, rfl, _, hc⟩ := hc (by simp)
  exact ⟨g, cap, rfl, hc 0 (by simp)⟩
/-- Another power of two is no 1. -/
theorem Limbs.pow {w : World} {v : Value} {k : Nat} (h : Limbs w v (2 ^ k)) (hk : 0 < k) (sk : Small (2 ^ k) 10000) : ∃ ao l cap, v = .slice ao l cap ∧ 0 < l ∧ l ≤ 320 ∧ (l = 1 → ∃ g x : Nat, ao = some ⟨g, 0, none⟩ ∧ w.cell? ⟨g, 0, none⟩ = some (.int .u32 x) ∧ x ≠ 1 ∧ x < 4294967296) := by
  obtain ⟨xs, a, b, e, r⟩ := h
  obtain ⟨ao, cap, rfl, _, hc⟩ := r.open
  have h0 : 0 < xs.length := Nat.pos_of_ne_zero fun h => by have := b.length_zero.1 h; have := pow_pos2 k; omega
  refine ⟨ao, xs.length, cap, rfl, h0, small_len b (by rw [e]; exact sk), fun h1 => ?_⟩
  obtain ⟨g, rfl, _, hc⟩ := hc h0
  refine ⟨g, xs.getD 0 0, rfl, hc 0 h0, fun h2 => ?_, a.getD 0⟩
  have := val_take_next xs 0
  rw [val_take_ge xs (0 + 1) (by omega), e, h2] at this
  simp only [List.take_zero, val, Nat.pow_zero, Nat.one_mul, Nat.zero_add] at this
  have h3 : 2 ^ 1 ≤ 2 ^ k := Nat.pow_le_pow_right (by decide) hk
  omega

theorem Twos.unique {n t t' : Nat} (h : Twos n t) (h' : Twos n t') : t = t' := by
  rcases Nat.lt_trichotomy t t' with hl | hl | hl
  · have a := h.at; have b := h'.low hl; omega
  · exact hl
  · have a := h'.at; have b := h.low hl; omega

/-- What 'norm' leaves: the same fraction. -/
def NormR (w : World) (b : Nat) (s : Bool) (n k : Nat) (e : Ending) (w' : World) : Prop :=
  ∃ n' k', e = .returned (.pointer (some ⟨b, 0, none⟩)) ∧ n' * 2 ^ k = n * 2 ^ k' ∧ n' ≤ n ∧ k' ≤ k ∧ RatAt w' b s n' k' ∧ w.grownBy w' (some b)

theorem norm_num (n k t : Nat) (ht : Twos n t) : n / 2 ^ (min k t) * 2 ^ k = n * 2 ^ (k - min k t) ∧ 2 ^ k / 2 ^ (min k t) = 2 ^ (k - min k t) := by
  have h1 : min k t ≤ t := Nat.min_le_right _ _
  have h2 : min k t ≤ k := Nat.min_le_left _ _
  generalize min k t = c at *
  obtain ⟨m, rfl⟩ := ht
  obtain ⟨d, rfl⟩ : ∃ d, t = c + d := ⟨t - c, by omega⟩
  obtain ⟨f, rfl⟩ : ∃ f, k = c + f := ⟨k - c, by omega⟩
  rw [show c + f - c = f by omega]
  constructor
  · rw [Nat.pow_add, Nat.mul_assoc, Nat.mul_div_cancel_left _ (pow_pos2 c), Nat.pow_add]; ac_rfl
  · rw [Nat.pow_add, Nat.mul_div_cancel_left _ (pow_pos2 c)]

set_option maxHeartbeats 2000000 in
set_option maxRecDepth 100000 in
theorem norm_calls {w : World} {b n k : Nat} {s : Bool} (hx : RatAt w b s n k) (sn : Small n 10000) (sk : Small (2 ^ k) 10000) (hk : k < 10000) : Calls Tryz.prog 50 #[.pointer (some ⟨b, 0, none⟩)] w (NormR w b s n k) := by
  obtain ⟨va, vd, h4, hva, hvd⟩ := hx
  have H4 := Lib.hid h4
  have c0 := h4.cell0
  have c1 := h4.cell1
  have c2 := h4.cell2
  have c3 := h4.cell3
  have f1 := h4.frozen 1
  have f3 := h4.frozen 3
  have HVA := Lib.hid hva
  have HVD := Lib.hid hvd
  have SN := Lib.hid sn
  have SK := Lib.hid sk
  have hpk := pow_pos2 k
  have sk0 := sk
  obtain ⟨aa, la, ca, rfl, hla, hla2⟩ := hva.len
  obtain ⟨ad, ld, cd, rfl, hld, hld2⟩ := hvd.len
  have la3 := hla2 sn
  have ld3 := hld2 sk
  have ld0 : 0 < ld := Nat.pos_of_ne_zero fun h => by have := hld.1 h; omega
  have zd : ((ld : Int) == 0) = false := beq_eq_false_iff_ne.2 (by omega)
  clear hla2 hld2 hld
  by_cases hn : n = 0
  · have z1 : la = 0 := hla.2 hn
    subst z1
    clear hla hva hvd h4 sn sk hpk sk0
    go_enter Tryz.func50, Tryz.ntmps50
    go_wp2_with fail
    refine (setOne_calls H4.out.place2).mono ?_
    rintro e w1 h1
    obtain ⟨rfl, h1⟩ := h1
    obtain ⟨u, r4, hu⟩ := H4.out.wrote2 h1
    have HVA1 := Lib.hid (HVA.out.wrote H4.out.place2 h1)
    have R41 := Lib.hid r4
    have HU := Lib.hid hu
    have HG := Lib.hid h1.grown
    clear h1 r4 hu
    go_wp2
    go_ret
    exact ⟨0, 0, rfl, by rw [hn]; simp, by omega, by omega, ⟨_, _, R41.out, by have := HVA1.out; rw [hn] at this; exact this, HU.out⟩, HG.out⟩
  · have la0 : 0 < la := Nat.pos_of_ne_zero fun h => hn (hla.1 h)
    have za : ((la : Int) == 0) = false := beq_eq_false_iff_ne.2 (by omega)
    by_cases hk0 : k = 0
    · subst hk0
      obtain ⟨g, cap, hv1, hg1⟩ := hvd.one
      simp only [Value.slice.injEq] at hv1
      obtain ⟨rfl, rfl, rfl⟩ := hv1
      clear hla hva hvd h4 sn sk hpk sk0
      go_enter Tryz.func50, Tryz.ntmps50
      go_wp2
      go_ret
      exact ⟨n, 0, rfl, by simp, by omega, by omega, ⟨_, _, H4.out, HVA.out, HVD.out⟩, World.grownBy.refl _ _⟩
    · have hpw := hvd.pow (by omega) sk0
      have HPW := Lib.hid hpw
      have HKK : Hid (k ≠ 0) := hk0
      have HNN : Hid (n ≠ 0) := hn
      clear hla hva hvd h4 sn sk sk0 hpw hpk
      go_enter Tryz.func50, Tryz.ntmps50
      go_upto_region 9 with (fail)
      go_cut [69] (fun s69 wx => s69 = .bool false ∧ wx = w)
      case first =>
        by_cases hl1 : ld = 1
        · obtain ⟨ao, l, cap, hv, h0, h1, h2⟩ := HPW.out
          simp only [Value.slice.injEq] at hv
          obtain ⟨rfl, rfl, rfl⟩ := hv
          obtain ⟨g, x, rfl, hg, hx1, hxb⟩ := h2 hl1
          subst hl1
          have zx : ((x : Int) == 1) = false := beq_eq_false_iff_ne.2 (by omega)
          clear h2 h1 h0
          go_wp2
          go_meet
          exact ⟨rfl, rfl⟩
        · have zl : ((ld : Int) == 1) = false := beq_eq_false_iff_ne.2 (by omega)
          go_wp2
          go_meet
          exact ⟨rfl, rfl⟩
      case rest =>
        obtain ⟨rfl, hw⟩ := hcut
        rw [hw]
        clear hw
        clear wc
        go_wp2_with fail
        refine (twos_calls HVD.out SK.out (Nat.ne_of_gt (pow_pos2 k))).mono ?_
        rintro e w' ⟨t1, ht1, htb1, rfl, rfl⟩
        obtain rfl : t1 = k := ht1.unique ⟨0, by simp⟩
        clear ht1
        go_upto_region 12 with (fail)
        go_cut [4] (fun s4 wx => ∃ t, Twos n t ∧ s4 = .int .u64 ((min t1 t : Nat) : Int) ∧ wx = w)
        case first =>
          go_wp2_with fail
          refine (twos_calls HVA.out SN.out HNN.out).mono ?_
          rintro e w' ⟨t, ht, htb, rfl, rfl⟩
          have HT := Lib.hid ht
          clear ht
          by_cases hle : t1 ≤ t
          · have em : min t1 t = t1 := Nat.min_eq_left hle
            have EM := Lib.hid em
            clear em
            go_wp2
            all_goals (go_meet; exact ⟨t, HT.out, by rw [EM.out], rfl⟩)
          · have em : min t1 t = t := Nat.min_eq_right (by omega)
            have EM := Lib.hid em
            clear em
            go_wp2
            all_goals (go_meet; exact ⟨t, HT.out, by rw [EM.out], rfl⟩)
        case rest =>
          obtain ⟨t, ht, rfl, hw⟩ := hcut
          rw [hw]
          clear hw
          clear wc
          obtain ⟨hnum, hden⟩ := norm_num n t1 t ht
          have hcle : min t1 t ≤ t1 := Nat.min_le_left _ _
          obtain ⟨c, hc⟩ : ∃ c, min t1 t = c := ⟨_, rfl⟩
          rw [hc] at hnum hden hcle ⊢
          clear hc ht
          have HNUM := Lib.hid hnum
          have HDEN := Lib.hid hden
          clear hnum hden
          by_cases hc0 : c = 0
          · subst hc0
            rw [Nat.pow_zero, Nat.div_one, Nat.sub_zero] at HNUM
            have hr0 := right_calls t1 HVD.out SK.out (by omega)
            rw [Nat.div_self (pow_pos2 t1)] at hr0
            have HR0 := Lib.hid hr0
            clear hr0
            go_wp2_with fail
            refine HR0.out.mono ?_
            rintro e w1 ⟨v1, rfl, hv1, hb1⟩
            obtain ⟨g, cap, rfl, hg⟩ := hv1.one
            have HB1 := Lib.hid hb1
            have R1 := Lib.hid (H4.out.below hb1)
            have HA1 := Lib.hid (HVA.out.below hb1)
            have HD1 := Lib.hid (HVD.out.below hb1)
            clear hv1 hb1
            go_wp2
            go_ret
            exact ⟨n, t1, rfl, rfl, Nat.le_refl _, Nat.le_refl _, ⟨_, _, R1.out, HA1.out, HD1.out⟩, ⟨HB1.out.os, HB1.out.tape, HB1.out.output, HB1.out.size, fun k hk _ => HB1.out.block k hk⟩⟩
          · have zc : decide ((0 : Int) < (c : Int)) = true := by simp; omega
            go_wp2_with fail
            refine (right_calls c HVA.out SN.out (by omega)).mono ?_
            rintro e w1 ⟨v1, rfl, hv1, hb1⟩
            obtain ⟨a1, l1, p1, rfl, _, _⟩ := hv1.len
            have r1 := H4.out.below hb1
            have r2 := r1.set1 (v := .slice a1 l1 p1)
            have HD2 := Lib.hid ((HVD.out.below hb1).r4set r1 1 (.slice a1 l1 p1))
            have HV2 := Lib.hid (hv1.r4set r1 1 (.slice a1 l1 p1))
            have hg2 : w.grownBy (w1.setCell ⟨b, 1, none⟩ (.slice a1 l1 p1)) (some b) := ⟨hb1.os, hb1.tape, hb1.output, by simp; exact hb1.size, fun k hk hne => (heap_setCell_other w1 _ k _ (by simpa using hne)).trans (hb1.block k hk)⟩
            have HG2 := Lib.hid hg2
            have R2 := Lib.hid r2
            have d1 := r1.cell1
            have d3 := r1.cell3
            have g1 := r1.frozen 1
            have g3 := r1.frozen 3
            clear hv1 hb1 r1 r2 hg2 c0 c1 c2 c3 f1 f3
            go_wp2_with fail
            refine (right_calls c HD2.out SK.out (by omega)).mono ?_
            rintro e w3 ⟨v3, rfl, hv3, hb3⟩
            rw [HDEN.out] at hv3
            obtain ⟨a3, l3, p3, rfl, _, _⟩ := hv3.len
            have r3 := R2.out.below hb3
            have r4 := r3.set3 (v := .slice a3 l3 p3)
            have HV4 := Lib.hid ((HV2.out.below hb3).r4set r3 3 (.slice a3 l3 p3))
            have HD4 := Lib.hid (hv3.r4set r3 3 (.slice a3 l3 p3))
            have hs3 := hb3.size
            have hg4 : w.grownBy (w3.setCell ⟨b, 3, none⟩ (.slice a3 l3 p3)) (some b) := ⟨hb3.os.trans HG2.out.os, hb3.tape.trans HG2.out.tape, hb3.output.trans HG2.out.output, by simp; exact Nat.le_trans HG2.out.size hs3, fun k hk hne => (heap_setCell_other w3 _ k _ (by simpa using hne)).trans ((hb3.block k (Nat.lt_of_lt_of_le hk HG2.out.size)).trans (HG2.out.block k hk hne))⟩
            have hr0 := right_calls (t1 - c) HD4.out (show Small _ _ from Nat.lt_of_le_of_lt (Nat.pow_le_pow_right (by decide) (by omega)) SK.out) (by omega)
            rw [Nat.div_self (pow_pos2 (t1 - c))] at hr0
            have HR0 := Lib.hid hr0
            have HG4 := Lib.hid hg4
            have R4' := Lib.hid r4
            have ez : (t1 : Int) - (c : Int) = ((t1 - c : Nat) : Int) := by omega
            have q1 := r3.cell1
            have q3 := r3.cell3
            have h1 := r3.frozen 1
            have h3 := r3.frozen 3
            clear hv3 hb3 r3 r4 hg4 hr0 d1 d3 g1 g3 hs3
            go_wp2_with fail
            refine HR0.out.mono ?_
            rintro e w5 ⟨v5, rfl, hv5, hb5⟩
            obtain ⟨g, cap, rfl, hg⟩ := hv5.one
            have HB5 := Lib.hid hb5
            clear hv5 hb5 q1 q3 h1 h3 ez
            go_wp2
            go_ret
            exact ⟨n / 2 ^ c, t1 - c, rfl, HNUM.out, Nat.div_le_self _ _, Nat.sub_le _ _, ⟨_, _, R4'.out.below HB5.out, HV4.out.below HB5.out, HD4.out.below HB5.out⟩,
              ⟨HB5.out.os.trans HG4.out.os, HB5.out.tape.trans HG4.out.tape, HB5.out.output.trans HG4.out.output, Nat.le_trans HG4.out.size HB5.out.size, fun k hk hne => (HB5.out.block k (Nat.lt_of_lt_of_le hk HG4.out.size)).trans (HG4.out.block k hk hne)⟩⟩

end Go.Proofs.YtoefahgookhicaaGreatDoorBesafter
