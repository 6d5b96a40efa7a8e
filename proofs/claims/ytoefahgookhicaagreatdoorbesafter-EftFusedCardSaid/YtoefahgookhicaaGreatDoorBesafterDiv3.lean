/- Walk: division by a power of two of several words: the rounds. Condition: below 2^10000. -/
import Derived.Test.YtoefahgookhicaaGreatDoorBesafterDiv2
import Derived.LoopN
namespace Go.Proofs.YtoefahgookhicaaGreatDoorBesafter
open Go.RowKit

/-- What a slice holds, by its words. -/
theorem Limbs.words {w : World} {v : Value} {n : Nat} (h : Limbs w v n) : ∃ xs, Ws xs ∧ Tr xs ∧ val xs = n ∧ Row w v xs := h

/-- Behind the rounds down to j: what is left of the dividend, and the words of the quotient from j on. -/
def DivInv (M p j : Nat) (U qs : List Nat) : Prop := Ws U ∧ Ws qs ∧ val U + 2147483648 * 4294967296 ^ p * (4294967296 ^ j * val qs) = M ∧ val U < 2147483648 * 4294967296 ^ (p + j)

theorem DivInv.step {M p j : Nat} {U U' qs : List Nat} {G : Nat} (h : DivInv M p (j + 1) U qs) (hU : Ws U') (hG : G < 4294967296)
    (h1 : val U' + 2147483648 * 4294967296 ^ (j + p) * G = val U) (h2 : val U' < 2147483648 * 4294967296 ^ (j + p)) : DivInv M p j U' (G :: qs) := by
  obtain ⟨a1, a2, a3, a4⟩ := h
  refine ⟨hU, Ws.cons hG a2, ?_, by rw [Nat.add_comm p j]; exact h2⟩
  rw [← a3, ← h1, val, Nat.add_assoc]
  congr 1
  rw [Nat.mul_add (4294967296 ^ j), Nat.mul_add, Nat.pow_succ, Nat.add_comm j p, Nat.pow_add]
  congr 1
  · ac_rfl
  · ac_rfl

theorem set_self (U : List Nat) (i : Nat) : U.set i (U.getD i 0) = U := by
  by_cases h : i < U.length
  · rw [List.getD_eq_getElem?_getD, List.getElem?_eq_getElem h]; simp
  · rw [List.set_eq_of_length_le (by omega)]

theorem sub_top (x e R d : Nat) (hx : x < 4294967296) (he : e < 4294967296) (hR : R < 2147483648) (hd : d ≤ 1) (h : x + 4294967296 * d = R + e) :
    IntKind.u64.wrap (IntKind.u64.wrap ((x : Int) - (e : Int))) / 9223372036854775808 = d ∧ IntKind.u64.wrap (IntKind.u64.wrap ((x : Int) - (e : Int))) % 4294967296 = R := by
  simp only [IntKind.wrap_u64]
  rcases Nat.eq_zero_or_pos d with h0 | h0
  · subst h0; constructor <;> omega
  · have : d = 1 := by omega
    subst this; constructor <;> omega

set_option exponentiation.threshold 20000 in
set_option maxHeartbeats 4000000 in
set_option maxRecDepth 100000 in
theorem div_knuth {w : World} {a b : Option Addr} {la p ca cb m k : Nat} (ha : Limbs w (.slice a la ca) m) (hb : Limbs w (.slice b (p + 1) cb) (2 ^ k)) (sa : Small m 9000) (sa' : Small m 10000) (sb : Small (2 ^ k) 10000) (h : 2 ^ k ≤ m) (hla : 2 < la) (hla2 : la ≤ 320) (hlb : 0 < p) (hlb2 : p < 320) (hk : p = k / 32) (hml : Hid (m < 4294967296 ^ la)) (hlab : p < la) :
    Calls Tryz.prog 97 #[.slice a la ca, .slice b (p + 1) cb] w (DivR w (m / 2 ^ k) (m % 2 ^ k)) := by
  have hc := cmp_calls ha hb sa' sb
  have HA := Lib.hid ha
  have HB := Lib.hid hb
  have HC := Lib.hid hc
  have HS := Lib.hid sb
  have bk : bl (2 ^ k) = k + 1 := by rw [bl_pos (Nat.ne_of_gt (pow_pos2 k))]; congr 1; exact Nat.log2_two_pow
  have BK := Lib.hid bk
  have c3 : decide (cmp3 m (2 ^ k) < 0) = false := by unfold cmp3; rw [if_neg (by omega)]; split <;> rfl
  have H := Lib.hid h
  obtain ⟨s, hs⟩ : ∃ s : Nat, s + k % 32 = 31 := ⟨31 - k % 32, by omega⟩
  have HK := Lib.hid hk
  clear ha hb hc sb bk h hk
  go_enter Tryz.func97, Tryz.ntmps97
  go_wp2_with fail
  refine HC.out.mono ?_
  rintro e w' ⟨rfl, d, rfl⟩
  go_wp2_with fail
  refine (length_calls (w := w.drewN d) HB.out HS.out).mono ?_
  rintro e w' ⟨rfl, rfl⟩
  rw [BK.out]
  have hkb : k ≤ 10300 := by have := HK.out; omega
  have e1 : (32 : Int) - (k : Int) % 32 - 1 = s := by omega
  go_wp2_with fail
  refine (left_calls (w := w.drewN d) s HB.out HS.out (by omega)).mono ?_
  rintro e w1 ⟨v, rfl, ⟨V, wV, tV, eV, rV⟩, hb1⟩
  have eV2 : val V = val (topWord (p + 1)) := by
    have hk := HK.out
    rw [eV, topWord_val, ← Nat.pow_add, pow32, show (2147483648 : Nat) = 2 ^ 31 by decide, ← Nat.pow_add]
    congr 1; omega
  obtain rfl := val_inj wV (topWord_ws (p + 1)) tV (topWord_tr (p + 1)) eV2
  obtain ⟨av, cv, hv, _, hcv⟩ := rV.open
  rw [topWord_len (by omega)] at hv hcv
  subst hv
  obtain ⟨gv, rfl, hgv, hcv⟩ := hcv (by omega)
  have HCV := Lib.hid hcv
  have HB1 : Hid (Below w.heap.size w w1) := (below_drewN (Below.refl _ _) d).trans hb1
  have HA1 := Lib.hid (HA.out.below HB1.out)
  clear e1 wV tV eV eV2 rV hb1 hcv HC
  go_wp2_with (at_make; refine wp_make35 _ rfl _ _ rfl _ _ _ _ (la + 2) rfl rfl ?b3 ?b4 ?b1 ?_)
  case b1 => omega
  case b3 => omega
  case b4 => omega
  intro w2 hown2 hgrow2
  have HA2 := Lib.hid (HA1.out.below hgrow2.out)
  go_wp2_with fail
  refine (left_calls (w := w2) s HA2.out sa' (by omega)).mono ?_
  rintro e w3 ⟨v3, rfl, ⟨W, wW, tW, eW, rW⟩, hb3⟩
  have hWl : W.length ≤ la + 1 := by
    by_cases hW : W = []
    · rw [hW]; simp
    · refine Nat.le_of_not_lt fun hgt => ?_
      have h1 := val_ge hW (tW hW)
      have h2 : 4294967296 ^ (la + 1) ≤ 4294967296 ^ (W.length - 1) := Nat.pow_le_pow_right (by decide) (by omega)
      have h3 : m * 2 ^ s < 4294967296 ^ la * 4294967296 := by
        have hs2 : (2 : Nat) ^ s ≤ 2 ^ 32 := Nat.pow_le_pow_right (by decide) (by omega)
        exact Nat.mul_lt_mul_of_lt_of_le hml.out hs2 (by decide)
      rw [eW] at h1
      rw [Nat.pow_succ] at h2
      omega
  have hown3 := hown2.out.kept (grownBy_of_below hb3) (by simp)
  have hb13 : Below w1.heap.size w1 w3 := hgrow2.out.trans (hb3.mono hgrow2.out.size)
  have HO3 := Lib.hid hown3
  have HB13 := Lib.hid hb13
  have RW := Lib.hid rW
  have TW := Lib.hid tW
  have EW := Lib.hid eW
  have WW := Lib.hid wW
  clear hown3 hb13 rW tW eW wW hb3 HA2 hown2 hgrow2 HA1
  go_wp2_with (refine wp_copy35 _ rfl (.tmp 81) (.tmp 84) rfl w1.heap.size w1.heap.size (la + 2) _ W v3 rfl rfl HO3.out RW.out (by omega) w1.heap.size w1 HB13.out (Nat.le_refl _) ?_)
  intro w4 hown4 hb4
  go_wp2_with (at_make; refine wp_make35 _ rfl _ _ rfl _ _ _ _ (la + 1 - p) rfl rfl ?b3 ?b4 ?b1 ?_)
  case b1 => omega
  case b3 => omega
  case b4 => omega
  intro w5 hown5 hgrow5
  have hne : w1.heap.size < w4.heap.size := hown4.out.base.2
  have hown45 := hown4.out.kept (grownBy_of_below hgrow5.out) (by simp)
  have hb5 : Below w1.heap.size w1 w5 := hb4.out.trans (hgrow5.out.mono (by omega))
  have HO45 := Lib.hid hown45
  have HB5 := Lib.hid hb5
  have t1 := (HB5.out.cell (p := ⟨gv, p, none⟩) hgv).trans (HCV.out p (by omega))
  have tt : (topWord (p + 1)).getD p 0 = 2147483648 := topWord_top (n := p + 1)
  rw [tt] at t1
  have t2 := (HB5.out.cell (p := ⟨gv, p - 1, none⟩) hgv).trans (HCV.out (p - 1) (by omega))
  rw [topWord_low (by omega)] at t2
  have hMs : DivInv (m * 2 ^ s) p (la + 1 - p) (W ++ List.replicate (la + 2 - W.length) 0) [] := by
    have hv : val (W ++ List.replicate (la + 2 - W.length) 0) = m * 2 ^ s := by rw [val_append, val_zeros, Nat.mul_zero, Nat.add_zero, EW.out]
    refine ⟨WW.out.append (Ws.zeros _), Ws.nil, by rw [hv]; simp [val], ?_⟩
    rw [hv, show p + (la + 1 - p) = la + 1 by omega, Nat.pow_succ]
    have hs2 : (2 : Nat) ^ s ≤ 2 ^ 31 := Nat.pow_le_pow_right (by decide) (by omega)
    have := Nat.mul_lt_mul_of_lt_of_le hml.out hs2 (by decide)
    have hp := pow32_pos la
    omega
  have HMS := Lib.hid hMs
  have T0 := Lib.hid tt
  clear hown45 hb5 hown4 hb4 hMs tt HO3 HB13 RW TW EW WW c3 
  go_wp2_with fail
  go_quiet (fail)
  clear t1 t2
  go_wp2
  go_loopw [18] (fun i wr => ∃ (jj : Int) (j : Nat) (U qs : List Nat), j ≤ la + 1 - p ∧ i = .int .i64 jj ∧ jj + 1 = j ∧ qs.length + j = la + 1 - p ∧
      Hid (Made wr w1.heap.size w1.heap.size (la + 2) U) ∧ Hid (Made wr w4.heap.size w4.heap.size (la + 1 - p) (List.replicate j 0 ++ qs)) ∧ Hid (DivInv (m * 2 ^ s) p j U qs) ∧ Hid (Below w1.heap.size w1 wr))
    (fun i _ => (intOf i + 1).toNat)
  case atStart => exact ⟨_, la + 1 - p, _, [], Nat.le_refl _, rfl, by omega, by simp, HO45.out, by show Made _ _ _ _ _; rw [List.append_nil]; exact hown5.out, HMS.out, below_drewN HB5.out _⟩
  case round =>
    obtain ⟨jj, j, U, qs, hj, rfl, hjj, hql, hU, hQ, hinv, hbel⟩ := hrel
    by_cases h0 : 0 < j
    · obtain ⟨j, rfl⟩ : ∃ i, j = i + 1 := ⟨j - 1, by omega⟩
      obtain rfl : jj = (j : Int) := by omega
      clear hjj h0
      have hUl := hU.out.length
      obtain ⟨x, hx, bx, gx⟩ : ∃ x, Hid (U.getD (j + p) 0 = x) ∧ x < 4294967296 ∧ wr.cell? ⟨w1.heap.size, j + p, none⟩ = some (.int .u32 x) := ⟨_, rfl, hinv.out.1.getD _, hU.out.cell (j + p) (by omega)⟩
      obtain ⟨y, hy, bY, gy⟩ : ∃ x, Hid (U.getD (j + p + 1) 0 = x) ∧ x < 4294967296 ∧ wr.cell? ⟨w1.heap.size, j + p + 1, none⟩ = some (.int .u32 x) := ⟨_, rfl, hinv.out.1.getD _, hU.out.cell (j + p + 1) (by omega)⟩
      obtain ⟨z, hz, bz, gz⟩ : ∃ x, Hid (U.getD (j + p - 1) 0 = x) ∧ x < 4294967296 ∧ wr.cell? ⟨w1.heap.size, j + p - 1, none⟩ = some (.int .u32 x) := ⟨_, rfl, hinv.out.1.getD _, hU.out.cell (j + p - 1) (by omega)⟩
      have gx' : wr.cell? ⟨w1.heap.size, j + (p + 1) - 1, none⟩ = some (.int .u32 x) := gx
      have gy' : wr.cell? ⟨w1.heap.size, j + (p + 1), none⟩ = some (.int .u32 y) := gy
      have gz' : wr.cell? ⟨w1.heap.size, j + (p + 1) - 2, none⟩ = some (.int .u32 z) := by rw [show j + (p + 1) - 2 = j + p - 1 by omega]; exact gz
      have hst := divStep (p := j + p) hinv.out.1 (by omega) (by have := hinv.out.2.2.2; rw [show j + p + 1 = p + (j + 1) by omega]; exact this) hx.out hy.out
      obtain ⟨G, hG⟩ : ∃ G : Nat, (x + 4294967296 * y) / 2147483648 = G := ⟨_, rfl⟩
      obtain ⟨R, hR⟩ : ∃ R : Nat, (x + 4294967296 * y) % 2147483648 = R := ⟨_, rfl⟩
      have eG : ((x : Int) + 4294967296 * (y : Int)) / 2147483648 = G := by omega
      have eR : ((x : Int) + 4294967296 * (y : Int)) % 2147483648 = R := by omega
      have bR : R < 2147483648 := by omega
      have hsw := subWords x y G R bx hst.1 hG.symm hR.symm
      rw [hG, hR] at hst
      have bG := hst.2.1
      have by2 := hst.1
      have HST := Lib.hid hst
      have HSW := Lib.hid hsw
      have ho := or_high' x y bx bY
      have ho2 := or_high' z R bz (by omega)
      have hUL := Lib.hid hUl
      clear hst hsw hG hR hUl
      go_wp2_with fail
      go_quiet (fail)
      go_wp2_with fail
      go_quiet (fail)
      rw [eG, eR]
      clear ho gx gx' gz
      go_wp2_with fail
      refine wp_loop_rounds 1 ?_
      rw [rounds_succ]
      go_wp2
      clear gy gy' gz' ho2 eG eR
      obtain ⟨wo, rfl⟩ : ∃ wo : World, wo = wr := ⟨_, rfl⟩
      go_loopw [22, 23, 24] (fun c d i wi => ∃ (ii cc dd : Nat) (U' : List Nat), ii ≤ p + 1 ∧ i = .int .i64 ii ∧ c = .int .u64 cc ∧ d = .int .u64 dd ∧ cc ≤ 4294967295 ∧ dd ≤ 1 ∧
          Hid (ii ≤ p → cc = 0 ∧ dd = 0 ∧ U' = U) ∧ Hid (ii = p + 1 → cc + dd = y ∧ U' = U.set (j + p) R) ∧
          Hid (Made wi w1.heap.size w1.heap.size (la + 2) U') ∧ Hid (Made wi w4.heap.size w4.heap.size (la + 1 - p) (List.replicate (j + 1) 0 ++ qs)) ∧ Hid (Below w1.heap.size w1 wi))
        (fun _ _ i _ => p + 1 - (intOf i).toNat)
      case atStart => exact ⟨0, 0, 0, U, by omega, rfl, rfl, rfl, by omega, by omega, fun _ => ⟨rfl, rfl, rfl⟩, fun h => by omega, hU, hQ, by first | exact below_drewN (below_drewN hbel.out _) _ | exact below_drewN hbel.out _⟩
      case round =>
        obtain ⟨ii, cc, dd, U', hii, rfl, rfl, rfl, hcc, hdd, hlo, hhi, hU', hQ', hbel'⟩ := hrel
        by_cases hlt : ii < p
        · obtain ⟨rfl, rfl, rfl⟩ := hlo.out (by omega)
          have tv := (hbel'.out.cell (p := ⟨gv, ii, none⟩) hgv).trans (HCV.out ii (by omega))
          rw [topWord_low (by omega)] at tv
          obtain ⟨u, hu, bu, gu⟩ : ∃ x, Hid (U'.getD (ii + j) 0 = x) ∧ x < 4294967296 ∧ wr.cell? ⟨w1.heap.size, ii + j, none⟩ = some (.int .u32 x) := ⟨_, rfl, hinv.out.1.getD _, hU'.out.cell (ii + j) (by omega)⟩
          have fu := hU'.out.frozen (ii + j)
          clear hcc hdd hlo hhi
          go_wp2
          exact ⟨⟨ii + 1, 0, 0, U', by omega, by go_num, rfl, by congr 1; omega, by omega, by omega, fun _ => ⟨rfl, rfl, rfl⟩, fun h => by omega,
            hU'.out.put (ii + j) u _ rfl (by rw [← hu.out]; exact set_self U' _), hQ'.out.other (a := ⟨w1.heap.size, ii + j, none⟩) (by show w1.heap.size ≠ _; omega) _, hbel'.out.setCell (p := ⟨w1.heap.size, ii + j, none⟩) (Nat.le_refl _) _⟩, by simp [intOf]; omega⟩
        · by_cases heq : ii = p
          · subst heq
            obtain ⟨rfl, rfl, rfl⟩ := hlo.out (by omega)
            have tv := (hbel'.out.cell (p := ⟨gv, ii, none⟩) hgv).trans (HCV.out ii (by omega))
            rw [T0.out] at tv
            have gu : wr.cell? ⟨w1.heap.size, ii + j, none⟩ = some (.int .u32 x) := by
              rw [hU'.out.cell (ii + j) (by omega), Nat.add_comm ii j, hx.out]
            have fu := hU'.out.frozen (ii + j)
            obtain ⟨c1, dd, q1, q2, q3, q4⟩ := HSW.out
            obtain ⟨e, he⟩ : ∃ e : Nat, G * 2147483648 % 4294967296 = e := ⟨_, rfl⟩
            have ee : (G : Int) * 2147483648 % 4294967296 = e := by omega
            have ec : (G : Int) * 2147483648 / 4294967296 = c1 := by omega
            have be : e < 4294967296 := by omega
            rw [he] at q4
            obtain ⟨s1, s2⟩ := sub_top x e R dd bx be bR q1 q4
            have S1 := Lib.hid s1
            have S2 := Lib.hid s2
            have Q4 := Lib.hid q4
            have Q2 := Lib.hid q2
            have Q3 := Lib.hid q3
            clear hcc hdd hlo hhi s1 s2 q4 q2 q3 he
            go_wp2
            refine ⟨⟨ii + 1, c1, dd, U'.set (j + ii) R, by omega, by go_num, ?_, ?_, ?_, q1, fun h => by omega, fun _ => ⟨Q2.out, rfl⟩, ?_, hQ'.out.other (a := ⟨w1.heap.size, ii + j, none⟩) (by show w1.heap.size ≠ _; omega) _, hbel'.out.setCell (p := ⟨w1.heap.size, ii + j, none⟩) (Nat.le_refl _) _⟩, by first | (simp [intOf]; done) | (simp [intOf]; omega)⟩
            · first | rfl | (congr 1; exact ec) | (congr 1; omega)
            · rw [S1.out]
            · have := Q2.out; omega
            · exact hU'.out.put (ii + j) R _ (by rw [S2.out]) (by rw [Nat.add_comm ii j])
          · obtain rfl : ii = p + 1 := by omega
            obtain ⟨hy2, rfl⟩ := hhi.out rfl
            have gu : wr.cell? ⟨w1.heap.size, j + (p + 1), none⟩ = some (.int .u32 y) := by
              rw [hU'.out.cell (j + (p + 1)) (by omega), List.getD_eq_getElem?_getD, List.getElem?_set_ne (by omega), ← List.getD_eq_getElem?_getD]
              exact congrArg (fun n : Nat => some (Value.int .u32 (n : Int))) hy.out
            have fu := hU'.out.frozen (j + (p + 1))
            have b1 : cc + dd ≤ y := by omega
            have b2 : y ≤ cc + dd := by omega
            have ht : (((y : Int) - cc - dd) / 9223372036854775808 != 0) = false := by rw [bne_eq_false_iff_eq]; omega
            have hU2 := hU'.out.put (j + (p + 1)) 0 (.int .u32 ((y : Int) - cc - dd)) (by congr 1; omega) rfl
            have hQ2 := hQ'.out.other (a := ⟨w1.heap.size, j + (p + 1), none⟩) (by show w1.heap.size ≠ _; omega) (.int .u32 ((y : Int) - cc - dd))
            have gq := hQ2.cell j (by omega)
            have fq := hQ2.frozen j
            have hQ3 := hQ2.put j G (.int .u32 G) rfl (zeros_set_down qs j G)
            have hU3 := hU2.other (a := ⟨w4.heap.size, j, none⟩) (by show w4.heap.size ≠ _; omega) (.int .u32 G)
            have hb3 := (hbel'.out.setCell (p := ⟨w1.heap.size, j + (p + 1), none⟩) (Nat.le_refl _) (.int .u32 ((y : Int) - cc - dd))).setCell (p := ⟨w4.heap.size, j, none⟩) (by show _ ≤ w4.heap.size; omega) (.int .u32 G)
            have hst := HST.out
            have hiv := hinv.out.step ((hinv.out.1.set (j + p) R (by omega)).set (j + p + 1) 0 (by omega)) bG hst.2.2.1 hst.2.2.2
            have HU3 := Lib.hid hU3
            have HQ3 := Lib.hid hQ3
            have HB3 := Lib.hid hb3
            have HIV := Lib.hid hiv
            clear hU2 hQ2 hQ3 hU3 hb3 hst hiv hlo hhi hy2
            go_wp2
            go_roundw
            case rel =>
              repeat apply Exists.intro
              refine ⟨⟨_, j, _, G :: qs, ?_, rfl, ?_, ?_, HU3.out, HQ3.out, HIV.out, HB3.out⟩, rfl⟩
              · omega
              · omega
              · simp only [List.length_cons]; omega
            case measure => first | (simp [intOf]; done) | (simp [intOf]; omega)
    · obtain rfl : j = 0 := by omega
      obtain rfl : jj = -1 := by omega
      have hq := hQ.out
      rw [List.replicate_zero, List.nil_append] at hq
      have hi := hinv.out
      obtain ⟨wU, wq, hval, hltU⟩ := hi
      have hk2 : k + s = 32 * p + 31 := by have := HK.out; omega
      have hP : 2147483648 * 4294967296 ^ p = 2 ^ k * 2 ^ s := by
        rw [pow32, show (2147483648 : Nat) = 2 ^ 31 by decide, ← Nat.pow_add, ← Nat.pow_add]; congr 1; omega
      rw [Nat.pow_zero, Nat.one_mul, hP] at hval
      rw [Nat.add_zero, hP] at hltU
      have hps := pow_pos2 s
      have hpk := pow_pos2 k
      have hdq : val qs = m / 2 ^ k ∧ val U / 2 ^ s = m % 2 ^ k := by
        have e1 : m = (val U + 2 ^ k * 2 ^ s * val qs) / 2 ^ s := by rw [hval, Nat.mul_div_cancel _ hps]
        have e2 : m = val U / 2 ^ s + 2 ^ k * val qs := by
          conv => lhs; rw [e1]
          rw [show 2 ^ k * 2 ^ s * val qs = 2 ^ s * (2 ^ k * val qs) by ac_rfl, Nat.add_mul_div_left _ _ hps]
        have l1 : val U / 2 ^ s < 2 ^ k := Nat.div_lt_of_lt_mul (by rw [Nat.mul_comm (2 ^ s)]; exact hltU)
        constructor
        · rw [e2, Nat.add_mul_div_left _ _ hpk, Nat.div_eq_of_lt l1, Nat.zero_add]
        · conv => rhs; rw [e2]
          rw [Nat.add_mul_mod_self_left, Nat.mod_eq_of_lt l1]
      have hsm : Small (val U) 10000 := by
        have h1 : val U ≤ m * 2 ^ s := by omega
        show val U < 2 ^ 10000
        refine Nat.lt_of_le_of_lt h1 ?_
        have h2 : m * 2 ^ s < 2 ^ 9000 * 2 ^ s := Nat.mul_lt_mul_of_pos_right sa hps
        refine Nat.lt_of_lt_of_le h2 ?_
        rw [← Nat.pow_add]
        exact Nat.pow_le_pow_right (by decide) (by omega)
      have HQ := Lib.hid hq
      have HD := Lib.hid hdq
      have HSM := Lib.hid hsm
      clear hq hval hltU hk2 hP hps hpk hdq hsm
      go_wp2_with fail
      refine (trim_made HQ.out wq (by omega) HD.out.1).mono ?_
      rintro e w' ⟨vq, rfl, hvq, rfl⟩
      have HVQ := Lib.hid hvq
      clear hvq
      go_wp2_with fail
      refine (trim_made hU.out wU (by omega) rfl).mono ?_
      rintro e w' ⟨vu, rfl, hvu, rfl⟩
      have HVU := Lib.hid hvu
      clear hvu
      go_wp2_with fail
      refine (right_calls s HVU.out HSM.out (by omega)).mono ?_
      rintro e w' ⟨vr, rfl, hvr, hbr⟩
      rw [HD.out.2] at hvr
      have HVR := Lib.hid hvr
      have HVQ2 := Lib.hid (HVQ.out.below hbr)
      have HF : Hid (Below w.heap.size w w') := (HB1.out.trans (hbel.out.mono HB1.out.size)).trans (hbr.mono (Nat.le_trans HB1.out.size hbel.out.size))
      clear hvr hbr
      go_wp2
      go_ret2
      exact ⟨vq, vr, rfl, HVQ2.out, HVR.out, HF.out⟩

end Go.Proofs.YtoefahgookhicaaGreatDoorBesafter
