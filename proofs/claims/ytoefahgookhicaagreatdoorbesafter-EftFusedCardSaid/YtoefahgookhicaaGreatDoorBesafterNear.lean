/- Walk: the reference's rounding of a fraction to 53 bits. Condition: the numerator below 2^7000, the denominator a power of two, at most 2^5000. -/
import Derived.Test.YtoefahgookhicaaGreatDoorBesafterInt2b
import Derived.Test.YtoefahgookhicaaGreatDoorBesafterLawNear
import Derived.Test.YtoefahgookhicaaGreatDoorBesafterInt3
import Derived.Test.YtoefahgookhicaaGreatDoorBesafterInt4
import Derived.Deep.DeepCutAuto
namespace Go.Proofs.YtoefahgookhicaaGreatDoorBesafter
open Go.RowKit

/-- A new whole number at b. -/
def NewP (w : World) (b : Nat) (s : Bool) (n : Nat) (e : Ending) (w' : World) : Prop := e = .returned (.pointer (some ⟨b, 0, none⟩)) ∧ IntAt w' b 0 s n ∧ Below w.heap.size w w'
theorem newP {w : World} {x y : Value} {s : Bool} {n : Nat} {e : Ending} {w' : World} (h : PutI (w.alloc (.cells #[x, y] 37)) w.heap.size 0 s n e w') : NewP w w.heap.size s n e w' :=
  ⟨h.1, h.2.int (place_new w x y), ((Below.refl _ _).alloc (Nat.le_refl _) _).trans (h.2.below (Nat.le_refl _) (by simp))⟩
theorem below_new (w : World) (o : Obj) : Below w.heap.size w (w.alloc o) := (Below.refl _ _).alloc (Nat.le_refl _) _

/-- What 'near' hands back. -/
def NearR (w : World) (q : Nat) (p : Int) (e : Ending) (w' : World) : Prop := ∃ b ex, e = .returned (.tuple #[.pointer (some ⟨b, 0, none⟩), .int .i64 p, .bool ex]) ∧ IntAt w' b 0 false q ∧ Below w.heap.size w w'

/-- A number has a highest power of two. -/
theorem twos_ex : ∀ n : Nat, n ≠ 0 → ∃ t, Twos n t := by
  intro n
  induction n using Nat.strongRecOn with
  | _ n ih =>
    intro h
    by_cases h2 : n % 2 = 1
    · exact ⟨0, n / 2, by omega⟩
    · obtain ⟨t, m, hm⟩ := ih (n / 2) (by omega) (by omega)
      exact ⟨t + 1, m, by rw [Nat.pow_succ, Nat.mul_comm (2 ^ t), Nat.mul_assoc, ← hm]; omega⟩

set_option exponentiation.threshold 20000 in
set_option maxHeartbeats 4000000 in
set_option maxRecDepth 100000 in
theorem near_calls {w : World} {b o b2 o2 n k : Nat} (hx : IntAt w b o false n) (hy : IntAt w b2 o2 false (2 ^ k)) (_sn : Small n 7000) (sn' : Small n 10000) (sk : Small (2 ^ k) 10000) (hn : n ≠ 0) (hL : n.log2 ≤ 7000) (hk : k ≤ 5000) (p0 : Int) (hp0 : Hid (place0 n k = p0)) (hlo : -1074 ≤ p0) (hhi : p0 ≤ 2000) (hpb : Hid ((bl n : Int) - (bl (2 ^ k) : Int) - 53 = (n.log2 : Int) - k - 53)) :
    Calls Tryz.prog 57 #[.pointer (some ⟨b, o, none⟩), .pointer (some ⟨b2, o2, none⟩), .int .i64 53, .int .i64 (-1074)] w (NearR w (nearOut n k).1 (nearOut n k).2) := by
  have hbn := bitLen_calls hx sn'
  have hbk := bitLen_calls hy sk
  obtain ⟨x1, hx1⟩ : ∃ x1, bl n = x1 := ⟨_, rfl⟩
  obtain ⟨x2, hx2⟩ : ∃ x2, bl (2 ^ k) = x2 := ⟨_, rfl⟩
  rw [hx1] at hbn
  rw [hx2] at hbk
  have hpm : p0 = max ((x1 : Int) - x2 - 53) (-1074) := by
    have := hpb.out; rw [hx1, hx2] at this; rw [this]; exact hp0.out.symm
  have hx1b : x1 ≤ 7001 := by rw [← hx1, bl_pos hn]; omega
  have hx2b : x2 ≤ 5001 := by rw [← hx2, bl_pos (Nat.ne_of_gt (pow_pos2 k)), Nat.log2_two_pow]; omega
  have HX := Lib.hid hx
  have HY := Lib.hid hy
  have HBN := Lib.hid hbn
  have SN := Lib.hid sn'
  have SK := Lib.hid sk
  have HBK := Lib.hid hbk
  have HPM := Lib.hid hpm
  clear hx hy hbn hbk hx1 hx2 _sn sn' sk hpm
  go_enter Tryz.func57, Tryz.ntmps57
  go_wp2_with fail
  refine HBN.out.mono ?_
  rintro e w1 ⟨rfl, rfl⟩
  go_wp2_with fail
  refine HBK.out.mono ?_
  rintro e w1 ⟨rfl, rfl⟩
  go_upto_if 27 with (fail)
  go_cut [11] (fun s11 wx => s11 = .int .i64 p0 ∧ wx = w)
  case first =>
    by_cases hlt : (x1 : Int) - x2 - 53 < -1074
    · have hp := HPM.out
      rw [Int.max_eq_right (by omega)] at hp
      subst hp
      go_wp2
      go_meet
      exact ⟨rfl, rfl⟩
    · have hp := HPM.out
      rw [Int.max_eq_left (by omega)] at hp
      go_wp2
      go_meet
      exact ⟨by rw [hp], rfl⟩
  case rest =>
    obtain ⟨rfl, hw⟩ := hcut
    rw [hw]
    clear hw
    clear wc
    go_wp2_with fail
    go_loopw [11] (fun s11 wr => ∃ (p : Int), s11 = .int .i64 p ∧ p0 ≤ p ∧ p ≤ p0 + 1 ∧ Hid (p = p0 + 1 → 2 ^ 53 < nearAt n k p0) ∧ Hid (Below w.heap.size w wr)) (fun s11 _ => (p0 + 1 - intOf s11).toNat)
    case atStart => exact ⟨p0, rfl, by omega, by omega, fun h => by omega, Below.refl _ _⟩
    case round =>
      obtain ⟨p, rfl, hp1, hp2, hsec, hbel⟩ := hrel
      obtain ⟨N, hN⟩ : ∃ N, n * 2 ^ (-p).toNat = N := ⟨_, rfl⟩
      obtain ⟨K, hK⟩ : ∃ K, k + p.toNat = K := ⟨_, rfl⟩
      have HN := Lib.hid hN
      have HK := Lib.hid hK
      clear hN hK
      have HXr := Lib.hid (HX.out.below hbel.out)
      have HYr := Lib.hid (HY.out.below hbel.out)
      go_wp2_with fail
      refine (set_calls (place_new wr _ _) (HXr.out.below (below_new wr _)) SN.out).mono ?_
      rintro e w1 h1
      obtain ⟨rfl, hi1, hb1⟩ := newP h1
      have HI1 := Lib.hid hi1
      have HB1 := Lib.hid hb1
      clear h1 hi1 hb1
      go_wp2_with fail
      refine (set_calls (place_new w1 _ _) ((HYr.out.below HB1.out).below (below_new w1 _)) SK.out).mono ?_
      rintro e w2 h2
      obtain ⟨rfl, hi2, hb2⟩ := newP h2
      have HI2 := Lib.hid hi2
      have HB2 := Lib.hid hb2
      have HI12 := Lib.hid (HI1.out.below hb2)
      clear h2 hi2 hb2
      have l1 := HB1.out.size
      have l2 := HI1.out.lt
      go_upto_if 36 with (fail)
      go_cut [12, 13] (fun s12 s13 wx => s12 = .pointer (some ⟨wr.heap.size, 0, none⟩) ∧ s13 = .pointer (some ⟨w1.heap.size, 0, none⟩) ∧ IntAt wx wr.heap.size 0 false N ∧ IntAt wx w1.heap.size 0 false (2 ^ K) ∧ Below wr.heap.size wr wx)
      case first =>
        by_cases hpn : 0 ≤ p
        · obtain ⟨P, rfl⟩ : ∃ P : Nat, p = P := ⟨p.toNat, by omega⟩
          go_wp2_with fail
          refine (lsh_calls (k := P) HI2.out.place HI2.out SK.out (by omega)).mono ?_
          rintro e w3 h3
          obtain ⟨rfl, h3⟩ := h3
          have hi3 := h3.int HI2.out.place
          have hi13 := HI12.out.wrote_other HI2.out.place h3 (by omega)
          rw [← Nat.pow_add, show k + P = K from HK.out] at hi3
          have hb3 := (HB1.out.trans (HB2.out.mono HB1.out.size)).trans (h3.below (B := wr.heap.size) HB1.out.size (by have := HB2.out.size; omega))
          have eN : N = n := by have := HN.out; rw [show (-(P : Int)).toNat = 0 by omega, Nat.pow_zero, Nat.mul_one] at this; exact this.symm
          have HI3 := Lib.hid hi3
          have HI13 := Lib.hid hi13
          have HB3 := Lib.hid hb3
          have EN := Lib.hid eN
          clear h3 hi3 hi13 hb3 eN
          go_wp2_with fail
          go_meet
          exact ⟨rfl, rfl, by rw [EN.out]; exact HI13.out, HI3.out, HB3.out⟩
        · obtain ⟨P, rfl⟩ : ∃ P : Nat, p = -(P : Int) := ⟨(-p).toNat, by omega⟩
          go_wp2_with fail
          refine (lsh_calls (k := P) HI12.out.place HI12.out SN.out (by omega)).mono ?_
          rintro e w3 h3
          obtain ⟨rfl, h3⟩ := h3
          have hi3 := h3.int HI12.out.place
          have hi23 := HI2.out.wrote_other HI12.out.place h3 (by omega)
          have eN : n * 2 ^ P = N := by have := HN.out; rw [show (-(-(P : Int))).toNat = P by omega] at this; exact this
          have eK : K = k := by have := HK.out; omega
          rw [eN] at hi3
          have hb3 := (HB1.out.trans (HB2.out.mono HB1.out.size)).trans (h3.below (B := wr.heap.size) (Nat.le_refl _) (by have := HB2.out.size; omega))
          have HI3 := Lib.hid hi3
          have HI23 := Lib.hid hi23
          have HB3 := Lib.hid hb3
          have EK := Lib.hid eK
          clear h3 hi3 hi23 hb3 eN eK
          go_wp2_with fail
          go_meet
          exact ⟨rfl, rfl, HI3.out, by rw [EK.out]; exact HI23.out, HB3.out⟩
      case rest =>
        obtain ⟨rfl, rfl, hn0, hd0, hb0⟩ := hcut
        have hNs : Small N 9000 := by
          show N < 2 ^ 9000
          rw [← HN.out]
          have h1 : n * 2 ^ (-p).toNat < 2 ^ (n.log2 + 1) * 2 ^ (-p).toNat := Nat.mul_lt_mul_of_pos_right (log2_hi n) (pow_pos2 _)
          refine Nat.lt_of_lt_of_le h1 ?_
          rw [← Nat.pow_add]
          exact Nat.pow_le_pow_right (by decide) (by omega)
        have hNs' : Small N 10000 := Nat.lt_of_lt_of_le hNs (Nat.pow_le_pow_right (by decide) (by decide))
        have hKs : K ≤ 8000 := by have := HK.out; omega
        have hKs' : Small (2 ^ K) 10000 := Nat.pow_lt_pow_right (by decide) (by omega)
        have lA := hn0.lt
        have lB := hd0.lt
        have HNS := Lib.hid hNs
        have HNS' := Lib.hid hNs'
        have HKS := Lib.hid hKs'
        have HN0 := Lib.hid hn0
        have HD0 := Lib.hid hd0
        have HB0 := Lib.hid hb0
        clear hn0 hd0 hb0 hNs hNs' hKs'
        obtain ⟨wq, rfl⟩ : ∃ wq : World, wq = wc := ⟨_, rfl⟩
        have hz := (place_new wq (.bool false) (.slice none 0 0)).below (below_new _ (.cells #[.bool false, .slice none 0 0] 37))
        have hr := place_new (wq.alloc (.cells #[.bool false, .slice none 0 0] 37)) (.bool false) (.slice none 0 0)
        rw [World.size_alloc] at hr
        have hbb := (below_new wq (.cells #[.bool false, .slice none 0 0] 37)).trans ((below_new (wq.alloc (.cells #[.bool false, .slice none 0 0] 37)) (.cells #[.bool false, .slice none 0 0] 37)).mono (by simp))
        have HZ := Lib.hid hz
        have HR := Lib.hid hr
        have HBB := Lib.hid hbb
        clear hz hr hbb
        go_wp2_with fail
        refine (quoRem_calls HZ.out HR.out (HN0.out.below HBB.out) (HD0.out.below HBB.out) (by omega) HNS.out HNS'.out HKS.out).mono ?_
        rintro e w3 ⟨rfl, iq, ir, sz, hB⟩
        have hb3 := HBB.out.trans (hB wq.heap.size (Nat.le_refl _) (by omega))
        have hd3 := HD0.out.below hb3
        obtain ⟨R, hR⟩ : ∃ R, N % 2 ^ K = R := ⟨_, rfl⟩
        obtain ⟨q0, hq0⟩ : ∃ q0, N / 2 ^ K = q0 := ⟨_, rfl⟩
        have hup := nearAt_up n k p N (2 ^ K) HN.out (by rw [HK.out])
        have hRN : R ≤ N := by rw [← hR]; exact Nat.mod_le _ _
        have hRs : Small R 10000 := Nat.lt_of_le_of_lt hRN HNS'.out
        have hRK : R < 2 ^ K := by rw [← hR]; exact Nat.mod_lt _ (pow_pos2 K)
        have hR2s : Small (R * 2 ^ 1) 10000 := by
          show R * 2 ^ 1 < 2 ^ 10000
          have h1 : 2 ^ K * 2 ≤ 2 ^ 8001 := by rw [← Nat.pow_succ]; exact Nat.pow_le_pow_right (by decide) (by omega)
          have h2 : (2 : Nat) ^ 8001 ≤ 2 ^ 10000 := Nat.pow_le_pow_right (by decide) (by decide)
          omega
        unfold upOf at hup
        rw [hR, hq0] at hup
        rw [hq0] at iq
        rw [hR] at ir
        have hq54 : q0 ≤ 2 ^ 54 := by
          have h1 : nearAt n k p ≤ 2 ^ 54 := by
            by_cases hpp : p = p0
            · rw [hpp]; exact nearAt_first hp0.out
            · have h2 := nearAt_second hp0.out
              rw [show p = p0 + 1 by omega]; omega
          omega
        have IQ := Lib.hid iq
        have IR := Lib.hid ir
        have HB3 := Lib.hid hb3
        have HD3 := Lib.hid hd3
        have HUP := Lib.hid hup
        have HRS := Lib.hid hRs
        have HR2S := Lib.hid hR2s
        have lq3 := iq.lt
        have lr3 := ir.lt
        clear iq ir hb3 hd3 hup hRs hR2s hR hq0 hB hRN hRK HZ HR HBB
        go_wp2_with fail
        refine (sign_calls IR.out HRS.out).mono ?_
        rintro e w' ⟨rfl, rfl⟩
        obtain ⟨sg, hsg⟩ : ∃ sg : Int, (if R = 0 then (0 : Int) else if false then -1 else 1) = sg := ⟨_, rfl⟩
        rw [hsg]
        clear hsg
        go_wp2_with fail
        refine (lsh_calls (k := 1) (place_new w3 _ _) (IR.out.below (below_new w3 _)) HRS.out (by omega)).mono ?_
        rintro e w4 h4
        obtain ⟨rfl, hi4, hb4⟩ := newP h4
        have hcm := icmp_calls hi4 (HD3.out.below hb4) HR2S.out HKS.out
        obtain ⟨c, hc⟩ : ∃ c, cmp3 (R * 2 ^ 1) (2 ^ K) = c := ⟨_, rfl⟩
        unfold CmpR at hcm
        rw [hc] at hcm
        have HI4 := Lib.hid hi4
        have HB4 := Lib.hid hb4
        have IQ4 := Lib.hid (IQ.out.below hb4)
        have HCM := Lib.hid hcm
        have HC := Lib.hid hc
        clear h4 hi4 hb4 hcm hc
        go_wp2_with fail
        refine HCM.out.mono ?_
        rintro e w' ⟨rfl, d, rfl⟩
        obtain ⟨up, hu⟩ : ∃ up, (decide (2 ^ K < 2 * R) || (decide (2 * R = 2 ^ K) && decide (q0 % 2 = 1))) = up := ⟨_, rfl⟩
        have HU := Lib.hid hu
        have hnQ := HUP.out
        rw [hu] at hnQ
        have HQ := Lib.hid hnQ
        clear hu hnQ HUP
        go_upto_region 11 with (fail)
        go_cut [74] (fun s74 wx => s74 = .bool up ∧ wx = w4.drewN d)
        case first =>
          rcases Nat.lt_trichotomy (2 ^ K) (2 * R) with h1 | h1 | h1
          · have e1 : c = 1 := by rw [← HC.out, cmp3, if_neg (by omega), if_neg (by omega)]
            have e2 : up = true := by rw [← HU.out, decide_eq_true h1]; rfl
            subst e1; subst e2
            clear h1
            go_wp2
            go_meet
            exact ⟨rfl, rfl⟩
          · have e1 : c = 0 := by rw [← HC.out, cmp3, if_neg (by omega), if_pos (by omega)]
            have e2 : up = decide (q0 % 2 = 1) := by rw [← HU.out, decide_eq_false (by omega : ¬ 2 ^ K < 2 * R), decide_eq_true h1.symm]; rfl
            subst e1
            have hbt : Calls Tryz.prog 106 #[.pointer (some ⟨wq.heap.size, 0, none⟩), .int .i64 0] (w4.drewN d) (SameU (w4.drewN d) ((q0 / 2 ^ 0 % 2 : Nat) : Int)) := bitAt_calls (w := w4.drewN d) (k := 0) IQ4.out (small64 (by omega)) (by omega)
            rw [Nat.pow_zero, Nat.div_one] at hbt
            have HBT := Lib.hid hbt
            clear h1 hbt
            by_cases hod : q0 % 2 = 1
            · rw [hod] at HBT
              have e3 : up = true := by rw [e2]; exact decide_eq_true hod
              subst e3
              clear e2 hod
              go_wp2_with fail
              refine HBT.out.mono ?_
              rintro e w' ⟨rfl, rfl⟩
              go_wp2
              go_meet
              exact ⟨rfl, rfl⟩
            · have hz0 : q0 % 2 = 0 := by omega
              rw [hz0] at HBT
              have e3 : up = false := by rw [e2]; exact decide_eq_false hod
              subst e3
              clear e2 hod hz0
              go_wp2_with fail
              refine HBT.out.mono ?_
              rintro e w' ⟨rfl, rfl⟩
              go_wp2
              go_meet
              exact ⟨rfl, rfl⟩
          · have e1 : c = -1 := by rw [← HC.out, cmp3, if_pos (by omega)]
            have e2 : up = false := by rw [← HU.out, decide_eq_false (by omega : ¬ 2 ^ K < 2 * R), decide_eq_false (by omega : ¬ 2 * R = 2 ^ K)]; rfl
            subst e1; subst e2
            clear h1
            go_wp2
            go_meet
            exact ⟨rfl, rfl⟩
        case rest =>
          obtain ⟨rfl, hw⟩ := hcut
          rw [hw]
          clear hw
          clear wc
          have IQ5 : Hid (IntAt (w4.drewN d) wq.heap.size 0 false q0) := IQ4.out
          have HB5 : Hid (Below wr.heap.size wr (w4.drewN d)) := ((HB0.out.trans (HB3.out.mono HB0.out.size)).trans (below_drewN (HB4.out.mono (Nat.le_trans HB0.out.size HB3.out.size)) d))
          have sz5 : wq.heap.size < (w4.drewN d).heap.size := IQ5.out.lt
          have szq : wr.heap.size ≤ wq.heap.size := HB0.out.size
          obtain ⟨w5, hw5⟩ : ∃ w5, w4.drewN d = w5 := ⟨_, rfl⟩
          rw [hw5] at IQ5 HB5 sz5 ⊢
          clear hw5 HCM IQ4 HC HI4 HB4
          obtain ⟨Q, hQd⟩ : ∃ Q, q0 + (if up then 1 else 0) = Q := ⟨_, rfl⟩
          rw [hQd] at HQ
          go_upto_if 74 with (fail)
          go_cut [14] (fun s14 wx => s14 = .pointer (some ⟨wq.heap.size, 0, none⟩) ∧ IntAt wx wq.heap.size 0 false Q ∧ Below wr.heap.size wr wx)
          case first =>
            cases up
            · have e : q0 = Q := by rw [← hQd]; rfl
              subst e
              clear hQd
              go_wp2
              go_meet
              exact ⟨rfl, IQ5.out, HB5.out⟩
            · have e : q0 + 1 = Q := by rw [← hQd]; rfl
              subst e
              clear hQd
              go_wp2_with fail
              refine (newOne_calls w5).mono ?_
              rintro e w6 ⟨b6, rfl, hb6, hi6, hbl6⟩
              have IQ6 := Lib.hid (IQ5.out.below hbl6)
              have HI6 := Lib.hid hi6
              have HBL6 := Lib.hid hbl6
              clear hi6 hbl6
              go_wp2_with fail
              refine (iadd_self IQ6.out HI6.out (by omega) (small64 (by omega)) (small64 (by omega))).mono ?_
              rintro e w7 h7
              obtain ⟨rfl, h7⟩ := h7
              have hi7 := h7.int IQ6.out.place
              have es : isgn (iv false q0 + iv false 1) = false := decide_eq_false (by show ¬ ((q0 : Int) + ((1 : Nat) : Int) < 0); omega)
              have en : (iv false q0 + iv false 1).natAbs = q0 + 1 := by show ((q0 : Int) + ((1 : Nat) : Int)).natAbs = _; omega
              rw [es, en] at hi7
              have hb7 := (HB5.out.trans (HBL6.out.mono (by omega))).trans (h7.below (B := wr.heap.size) szq (by have := HBL6.out.size; omega))
              have HI7 := Lib.hid hi7
              have HB7 := Lib.hid hb7
              clear h7 hi7 hb7 es en
              go_wp2
              go_meet
              exact ⟨rfl, HI7.out, HB7.out⟩
          case rest =>
            obtain ⟨rfl, hiq, hbl⟩ := hcut
            have hQb : Q ≤ 2 ^ 54 := by
              rw [← HQ.out]
              by_cases hpp : p = p0
              · rw [hpp]; exact nearAt_first hp0.out
              · have h2 := nearAt_second hp0.out
                rw [show p = p0 + 1 by omega]; omega
            have hQs : Small Q 10000 := small64 (by omega)
            have hbl0 := bitLen_calls hiq hQs
            obtain ⟨xq, hxq⟩ : ∃ xq, bl Q = xq := ⟨_, rfl⟩
            rw [hxq] at hbl0
            have HIQ := Lib.hid hiq
            have HBQ : Hid (Below w.heap.size w wc) := hbel.out.trans (hbl.mono hbel.out.size)
            have HBL := Lib.hid hbl0
            have hx64 : xq ≤ 64 := by rw [← hxq]; exact bl_le.2 (by omega)
            clear hiq hbl hbl0 hQs
            by_cases h53 : Q < 2 ^ 53
            · have hx53 : xq ≤ 53 := by rw [← hxq]; exact bl_le.2 h53
              have fin : nearOut n k = (Q, p) := by
                by_cases hpp : p = p0
                · subst hpp
                  have h1 := HQ.out
                  rw [← h1] at h53 ⊢
                  exact nearOut_0a hp0.out h53
                · have e1 : p = p0 + 1 := by omega
                  have h2 := hsec.out e1
                  subst e1
                  have h1 := HQ.out
                  rw [← h1] at h53 ⊢
                  exact nearOut_1a hp0.out h2 h53
              have FIN := Lib.hid fin
              clear fin hxq h53 hQb
              go_wp2_with fail
              refine HBL.out.mono ?_
              rintro e w' ⟨rfl, rfl⟩
              go_wp2
              go_ret3
              rw [FIN.out]
              exact ⟨wq.heap.size, _, rfl, HIQ.out, HBQ.out⟩
            · have hx54 : 53 < xq := by
                refine Nat.lt_of_not_le fun h => h53 ?_
                exact bl_le.1 (by rw [hxq]; exact h)
              by_cases he : Q = 2 ^ 53
              · have hx : xq = 54 := by
                  have : xq ≤ 54 := by rw [← hxq]; exact bl_le.2 (by rw [he]; decide)
                  omega
                have hq9 : Q = 9007199254740992 := he
                have htz := tz_calls (t := 53) HIQ.out (small64 (by omega)) (by omega) (show Twos Q 53 from ⟨0, by rw [he]⟩) (by decide)
                have hrs := rsh_calls (k := 1) HIQ.out.place HIQ.out (small64 (by omega)) (by decide)
                have eh : Q / 2 ^ 1 = 2 ^ 52 := by rw [he]
                rw [eh] at hrs
                have fin : nearOut n k = (2 ^ 52, p + 1) := by
                  have h1 := HQ.out
                  by_cases hpp : p = p0
                  · subst hpp
                    exact nearOut_0b hp0.out (by rw [h1, he])
                  · have e1 : p = p0 + 1 := by omega
                    have h2 := hsec.out e1
                    subst e1
                    have := nearOut_1b hp0.out h2 (by rw [h1, he])
                    rw [this, show p0 + 1 + 1 = p0 + 2 by omega]
                have FIN := Lib.hid fin
                have HTZ := Lib.hid htz
                have HRS2 := Lib.hid hrs
                subst hx
                clear fin htz hrs eh hxq h53 hQb he hq9 hx54 hx64
                go_wp2_with fail
                refine HBL.out.mono ?_
                rintro e w' ⟨rfl, rfl⟩
                go_wp2_with fail
                refine HBL.out.mono ?_
                rintro e w' ⟨rfl, rfl⟩
                go_wp2_with fail
                refine HTZ.out.mono ?_
                rintro e w' ⟨rfl, rfl⟩
                go_wp2_with fail
                refine HRS2.out.mono ?_
                rintro e w8 h8
                obtain ⟨rfl, h8⟩ := h8
                have hi8 := h8.int HIQ.out.place
                have hb8 := HBQ.out.trans (h8.below (B := w.heap.size) (by have := hbel.out.size; omega) HBQ.out.size)
                have HI8 := Lib.hid hi8
                have HB8 := Lib.hid hb8
                clear h8 hi8 hb8
                go_wp2
                go_ret3
                rw [FIN.out]
                exact ⟨wq.heap.size, _, rfl, HI8.out, HB8.out⟩
              · have hgt : 2 ^ 53 < Q := by omega
                have hpp : p = p0 := by
                  refine Classical.byContradiction fun hpp => ?_
                  have h2 := nearAt_second hp0.out
                  have h1 := HQ.out
                  rw [show p = p0 + 1 by omega] at h1
                  omega
                have hsec2 : Hid (p + 1 = p0 + 1 → 2 ^ 53 < nearAt n k p0) := fun _ => by rw [← hpp, HQ.out]; exact hgt
                by_cases he2 : Q = 2 ^ 54
                · have hx : ((xq : Int) == 54) = false := by
                    rw [beq_eq_false_iff_ne]
                    intro h
                    have h2 : Q < 2 ^ 54 := bl_le.1 (by rw [hxq]; omega)
                    omega
                  clear hxq h53 hQb he he2 hgt
                  go_wp2_with fail
                  refine HBL.out.mono ?_
                  rintro e w' ⟨rfl, rfl⟩
                  go_wp2_with fail
                  refine HBL.out.mono ?_
                  rintro e w' ⟨rfl, rfl⟩
                  go_wp2
                  exact ⟨⟨p0 + 1, rfl, by omega, by omega, fun _ => hsec2.out (by rw [hpp]), HBQ.out⟩, by rw [hpp]; show (p0 + 1 - (p0 + 1)).toNat < (p0 + 1 - p0).toNat; omega⟩
                · obtain ⟨t, ht⟩ := twos_ex Q (by omega)
                  have hx : xq = 54 := by
                    have : xq ≤ 54 := by rw [← hxq]; exact bl_le.2 (by omega)
                    omega
                  have ht53 : t < 53 := by
                    refine Nat.lt_of_not_le fun h => ?_
                    obtain ⟨m, hm⟩ := ht
                    obtain ⟨c2, hc2⟩ : ∃ c2, t = 53 + c2 := ⟨t - 53, by omega⟩
                    rw [hc2, Nat.pow_add, Nat.mul_assoc] at hm
                    generalize 2 ^ c2 * (2 * m + 1) = y at hm
                    omega
                  have htz := tz_calls HIQ.out (small64 (by omega)) (by omega) ht (by omega)
                  have HTZ := Lib.hid htz
                  subst hx
                  clear hxq h53 hQb he he2 hgt htz ht hx54 hx64
                  go_wp2_with fail
                  refine HBL.out.mono ?_
                  rintro e w' ⟨rfl, rfl⟩
                  go_wp2_with fail
                  refine HBL.out.mono ?_
                  rintro e w' ⟨rfl, rfl⟩
                  go_wp2_with fail
                  refine HTZ.out.mono ?_
                  rintro e w' ⟨rfl, rfl⟩
                  go_wp2
                  exact ⟨⟨p0 + 1, rfl, by omega, by omega, fun _ => hsec2.out (by rw [hpp]), HBQ.out⟩, by rw [hpp]; show (p0 + 1 - (p0 + 1)).toNat < (p0 + 1 - p0).toNat; omega⟩

end Go.Proofs.YtoefahgookhicaaGreatDoorBesafter
