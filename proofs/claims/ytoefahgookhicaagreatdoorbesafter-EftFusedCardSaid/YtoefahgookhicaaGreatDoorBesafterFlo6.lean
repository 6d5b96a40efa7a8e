/- Walk: the reference's FusedOf where all three floats are finite. -/
import Derived.Test.YtoefahgookhicaaGreatDoorBesafterFlo5
import Derived.Test.YtoefahgookhicaaGreatDoorBesafterLawSum
namespace Go.Proofs.YtoefahgookhicaaGreatDoorBesafter
open Go.RowKit Ieee

set_option maxHeartbeats 4000000 in
set_option maxRecDepth 100000 in
theorem fused_fin {x y z : Nat} (hx : x < 2 ^ 64) (hy : y < 2 ^ 64) (hz : z < 2 ^ 64) (nx : isN x = false) (ny : isN y = false) (nz' : isN z = false) (ix : isI x = false) (iy : isI y = false) (iz : isI z = false) (fx : Fin64 x) (fy : Fin64 y) (fz : Fin64 z) (w : World) :
    Calls Tryz.prog 7 #[.float .f64 x, .float .f64 y, .float .f64 z] w (FuR x y z w) := by
  have o1 : (FloatKind.f64.format.order x x != some .eq) = false := (order_self x hx).trans nx
  have o2 : (FloatKind.f64.format.order y y != some .eq) = false := (order_self y hy).trans ny
  have o3 : (FloatKind.f64.format.order z z != some .eq) = false := (order_self z hz).trans nz'
  have hix := fun W => isInf_calls x hx W
  have hiy := fun W => isInf_calls y hy W
  have hiz := fun W => isInf_calls z hz W
  rw [ix] at hix
  rw [iy] at hiy
  rw [iz] at hiz
  have IX := Lib.hid hix
  have IY := Lib.hid hiy
  have IZ := Lib.hid hiz
  have RX := Lib.hid (fun W => ratOf_calls (w := W) hx fx)
  have RY := Lib.hid (fun W => ratOf_calls (w := W) hy fy)
  have RZ := Lib.hid (fun W => ratOf_calls (w := W) hz fz)
  have FX := Lib.hid fx
  have FY := Lib.hid fy
  have FZ := Lib.hid fz
  have HX := Lib.hid hx
  have HY := Lib.hid hy
  have HZ := Lib.hid hz
  clear hix hiy hiz hx hy hz nx ny nz' ix iy iz fx fy fz
  go_enter Tryz.func7, Tryz.ntmps7
  go_wp2_with fail
  refine (IX.out _).mono ?_
  rintro e w' ⟨rfl, rfl⟩
  go_wp2_with fail
  refine (IY.out _).mono ?_
  rintro e w' ⟨rfl, rfl⟩
  go_wp2_with fail
  refine (IZ.out _).mono ?_
  rintro e w' ⟨rfl, rfl⟩
  go_wp2_with fail
  refine (RX.out _).mono ?_
  rintro e w1 ⟨b1, n1, k1, rfl, z1, e1, l1, u1, r1, g1⟩
  have r4 : R4 (w.alloc (.cells #[.bool false, .slice none 0 0, .bool false, .slice none 0 0] 39)) w.heap.size (.bool false) (.slice none 0 0) (.bool false) (.slice none 0 0) := heap_alloc_new w _
  have Z1 := Lib.hid (r4.below g1)
  have E1 := Lib.hid e1
  have L1 := Lib.hid l1
  have U1 := Lib.hid u1
  have R1 := Lib.hid r1
  have G1 := Lib.hid ((below_newQ w _).trans (g1.mono (below_newQ w _).size))
  clear z1 e1 l1 u1 r1 g1 r4
  go_wp2_with fail
  refine (RY.out _).mono ?_
  rintro e w2 ⟨b2, n2, k2, rfl, z2, e2, l2, u2, r2, g2⟩
  have Z2 := Lib.hid (Z1.out.below g2)
  have R1' := Lib.hid (R1.out.below g2)
  have E2 := Lib.hid e2
  have L2 := Lib.hid l2
  have U2 := Lib.hid u2
  have R2 := Lib.hid r2
  have G2 := Lib.hid (G1.out.trans (g2.mono G1.out.size))
  have TB := Lib.hid (two_bounds FX.out FY.out L1.out U1.out l2 u2)
  clear z2 e2 l2 u2 r2 g2
  go_wp2_with fail
  refine (ratMul_calls Z2.out R1'.out R2.out TB.out.1 TB.out.2.1 (TB.out.2.2.1.up (by decide)) TB.out.2.2.2.1 TB.out.2.2.2.2.1 TB.out.2.2.2.2.2.1 (Nat.lt_of_le_of_lt TB.out.2.2.2.2.2.2 (by decide))).mono ?_
  rintro e w3 ⟨m, i, rfl, e3, l3, u3, r3, g3⟩
  have E3 := Lib.hid e3
  have L3 := Lib.hid l3
  have U3 := Lib.hid u3
  have R3 := Lib.hid r3
  have s2 := G2.out.size
  have G3 := Lib.hid (below_grown G2.out g3 (Nat.le_refl _) s2)
  clear e3 l3 u3 r3 g3 s2
  go_wp2_with fail
  refine (RZ.out _).mono ?_
  rintro e w4 ⟨b4, n3, j, rfl, z4, e4, l4, u4, r4, g4⟩
  have R3' := Lib.hid (R3.out.below g4)
  have R4' := Lib.hid r4
  have s3 := G3.out.size
  have G4 := Lib.hid (G3.out.trans (g4.mono s3))
  have RD : Read3 x y z n1 n2 n3 k1 k2 m i j := ⟨E1.out, L1.out, U1.out, E2.out, L2.out, U2.out, E3.out, L3.out, U3.out, e4, l4, u4⟩
  have HR := Lib.hid RD
  have TH := Lib.hid (three_bounds FX.out FY.out FZ.out RD)
  obtain ⟨V, hV⟩ : ∃ V, refV x y z n1 n2 n3 m i j = V := ⟨_, rfl⟩
  have HV := Lib.hid hV
  have hadd : Calls Tryz.prog 17 #[.pointer (some ⟨w.heap.size, 0, none⟩), .pointer (some ⟨w.heap.size, 0, none⟩), .pointer (some ⟨b4, 0, none⟩)] w4 (NormR w4 w.heap.size (isgn V) V.natAbs (i + j)) := by
    obtain ⟨sm, s3, sA, sB, sV, si, sj, sij, hij⟩ := TH.out
    rw [hV] at sV
    obtain ⟨va, vd, h4, _, _⟩ := R3'.out
    exact ratAdd_calls h4 R3'.out R4'.out sm s3 sA sB (sV.up (by omega)) si sj sij (by omega) hV
  have AD := Lib.hid hadd
  clear z4 e4 l4 u4 r4 g4 RD hV hadd s3
  go_wp2_with fail
  refine AD.out.mono ?_
  rintro e w5 ⟨n, k, rfl, e5, l5, u5, r5, g5⟩
  have s4 := G4.out.size
  have G5 := Lib.hid (below_grown G4.out g5 (Nat.le_refl _) s4)
  have sn : Small n 7000 := by
    obtain ⟨_, _, _, _, sV, _, _, _, hij⟩ := TH.out
    rw [HV.out] at sV
    exact (sV.le l5).up (by omega)
  have hk : k ≤ 5000 := by
    obtain ⟨_, _, _, _, _, _, _, _, hij⟩ := TH.out
    omega
  have hlaw := fin_law HX.out HY.out HZ.out FX.out FY.out FZ.out HR.out (n := n) (k := k) (by rw [HV.out]; exact e5) u5
  rw [HV.out] at hlaw
  have hsg := ratSign_calls r5 (sn.up (by decide))
  have LW := Lib.hid hlaw
  have R5 := Lib.hid r5
  have SN := Lib.hid sn
  have HK := Lib.hid hk
  clear e5 l5 u5 r5 g5 s4 sn hk hlaw
  by_cases h0 : n = 0
  · rw [if_pos h0] at hsg
    have S0 := Lib.hid hsg
    have N0 := Lib.hid h0
    clear hsg h0
    go_wp2_with fail
    refine S0.out.mono ?_
    rintro e w' ⟨rfl, rfl⟩
    have oz : (FloatKind.f64.format.order x 0 == some .eq) = (x % 2 ^ 63 == 0) := order_zero x HX.out
    have oy : (FloatKind.f64.format.order y 0 == some .eq) = (y % 2 ^ 63 == 0) := order_zero y HY.out
    obtain ⟨hf, hs⟩ := LW.out.2 N0.out
    have sx := fun W => signbit_calls x HX.out W
    have sy := fun W => signbit_calls y HY.out W
    have sz := fun W => signbit_calls z HZ.out W
    have cp : ∀ W, Calls Tryz.prog 20 #[.float .f64 0, .float .f64 13830554455654793216] W fun e w' => e = .returned (.float .f64 9223372036854775808) ∧ W = w' := fun W => copysign_calls 13830554455654793216 (by decide) W
    have CP := Lib.hid cp
    have hs' : (x % 2 ^ 63 == 0) = false → (y % 2 ^ 63 == 0) = false → ((fS x ^^ fS y) && fS z) = false := fun h1 h2 => hs (beq_eq_false_iff_ne.1 h1) (beq_eq_false_iff_ne.1 h2)
    clear hs cp
    generalize (x % 2 ^ 63 == 0) = zx at *
    generalize (y % 2 ^ 63 == 0) = zy at *
    generalize fS x = gx at sx hf hs'
    generalize fS y = gy at sy hf hs'
    generalize fS z = gz at sz hf hs'
    have SX := Lib.hid sx
    have SY := Lib.hid sy
    have SZ := Lib.hid sz
    have HF := Lib.hid hf
    have HS := Lib.hid hs'
    clear sx sy sz hf hs'
    cases zx
    · cases zy
      · have hf := HF.out
        rw [HS.out rfl rfl] at hf
        have HG := Lib.hid hf
        clear hf
        go_wp2
        go_ret
        exact ⟨0, rfl, by decide, Or.inl HG.out, G5.out⟩
      · cases gx
        · cases gy
          · go_wp2_with fail
            refine (SX.out _).mono ?_
            rintro e w' ⟨rfl, rfl⟩
            go_wp2_with fail
            refine (SY.out _).mono ?_
            rintro e w' ⟨rfl, rfl⟩
            go_wp2
            go_ret
            exact ⟨0, rfl, by decide, Or.inl (by cases gz <;> exact HF.out), G5.out⟩
          · cases gz
            · go_wp2_with fail
              refine (SX.out _).mono ?_
              rintro e w' ⟨rfl, rfl⟩
              go_wp2_with fail
              refine (SY.out _).mono ?_
              rintro e w' ⟨rfl, rfl⟩
              go_wp2_with fail
              refine (SZ.out _).mono ?_
              rintro e w' ⟨rfl, rfl⟩
              go_wp2
              go_ret
              exact ⟨0, rfl, by decide, Or.inl HF.out, G5.out⟩
            · go_wp2_with fail
              refine (SX.out _).mono ?_
              rintro e w' ⟨rfl, rfl⟩
              go_wp2_with fail
              refine (SY.out _).mono ?_
              rintro e w' ⟨rfl, rfl⟩
              go_wp2_with fail
              refine (SZ.out _).mono ?_
              rintro e w' ⟨rfl, rfl⟩
              go_wp2_with fail
              refine (CP.out _).mono ?_
              rintro e w' ⟨rfl, rfl⟩
              go_wp2
              go_ret
              exact ⟨9223372036854775808, rfl, by decide, Or.inl HF.out, G5.out⟩
        · cases gy
          · cases gz
            · go_wp2_with fail
              refine (SX.out _).mono ?_
              rintro e w' ⟨rfl, rfl⟩
              go_wp2_with fail
              refine (SY.out _).mono ?_
              rintro e w' ⟨rfl, rfl⟩
              go_wp2_with fail
              refine (SZ.out _).mono ?_
              rintro e w' ⟨rfl, rfl⟩
              go_wp2
              go_ret
              exact ⟨0, rfl, by decide, Or.inl HF.out, G5.out⟩
            · go_wp2_with fail
              refine (SX.out _).mono ?_
              rintro e w' ⟨rfl, rfl⟩
              go_wp2_with fail
              refine (SY.out _).mono ?_
              rintro e w' ⟨rfl, rfl⟩
              go_wp2_with fail
              refine (SZ.out _).mono ?_
              rintro e w' ⟨rfl, rfl⟩
              go_wp2_with fail
              refine (CP.out _).mono ?_
              rintro e w' ⟨rfl, rfl⟩
              go_wp2
              go_ret
              exact ⟨9223372036854775808, rfl, by decide, Or.inl HF.out, G5.out⟩
          · go_wp2_with fail
            refine (SX.out _).mono ?_
            rintro e w' ⟨rfl, rfl⟩
            go_wp2_with fail
            refine (SY.out _).mono ?_
            rintro e w' ⟨rfl, rfl⟩
            go_wp2
            go_ret
            exact ⟨0, rfl, by decide, Or.inl (by cases gz <;> exact HF.out), G5.out⟩
    · cases gx
      · cases gy
        · go_wp2_with fail
          refine (SX.out _).mono ?_
          rintro e w' ⟨rfl, rfl⟩
          go_wp2_with fail
          refine (SY.out _).mono ?_
          rintro e w' ⟨rfl, rfl⟩
          go_wp2
          go_ret
          exact ⟨0, rfl, by decide, Or.inl (by cases gz <;> exact HF.out), G5.out⟩
        · cases gz
          · go_wp2_with fail
            refine (SX.out _).mono ?_
            rintro e w' ⟨rfl, rfl⟩
            go_wp2_with fail
            refine (SY.out _).mono ?_
            rintro e w' ⟨rfl, rfl⟩
            go_wp2_with fail
            refine (SZ.out _).mono ?_
            rintro e w' ⟨rfl, rfl⟩
            go_wp2
            go_ret
            exact ⟨0, rfl, by decide, Or.inl HF.out, G5.out⟩
          · go_wp2_with fail
            refine (SX.out _).mono ?_
            rintro e w' ⟨rfl, rfl⟩
            go_wp2_with fail
            refine (SY.out _).mono ?_
            rintro e w' ⟨rfl, rfl⟩
            go_wp2_with fail
            refine (SZ.out _).mono ?_
            rintro e w' ⟨rfl, rfl⟩
            go_wp2_with fail
            refine (CP.out _).mono ?_
            rintro e w' ⟨rfl, rfl⟩
            go_wp2
            go_ret
            exact ⟨9223372036854775808, rfl, by decide, Or.inl HF.out, G5.out⟩
      · cases gy
        · cases gz
          · go_wp2_with fail
            refine (SX.out _).mono ?_
            rintro e w' ⟨rfl, rfl⟩
            go_wp2_with fail
            refine (SY.out _).mono ?_
            rintro e w' ⟨rfl, rfl⟩
            go_wp2_with fail
            refine (SZ.out _).mono ?_
            rintro e w' ⟨rfl, rfl⟩
            go_wp2
            go_ret
            exact ⟨0, rfl, by decide, Or.inl HF.out, G5.out⟩
          · go_wp2_with fail
            refine (SX.out _).mono ?_
            rintro e w' ⟨rfl, rfl⟩
            go_wp2_with fail
            refine (SY.out _).mono ?_
            rintro e w' ⟨rfl, rfl⟩
            go_wp2_with fail
            refine (SZ.out _).mono ?_
            rintro e w' ⟨rfl, rfl⟩
            go_wp2_with fail
            refine (CP.out _).mono ?_
            rintro e w' ⟨rfl, rfl⟩
            go_wp2
            go_ret
            exact ⟨9223372036854775808, rfl, by decide, Or.inl HF.out, G5.out⟩
        · go_wp2_with fail
          refine (SX.out _).mono ?_
          rintro e w' ⟨rfl, rfl⟩
          go_wp2_with fail
          refine (SY.out _).mono ?_
          rintro e w' ⟨rfl, rfl⟩
          go_wp2
          go_ret
          exact ⟨0, rfl, by decide, Or.inl (by cases gz <;> exact HF.out), G5.out⟩
  · rw [if_neg h0] at hsg
    obtain ⟨g, hg⟩ : ∃ g : Int, (if isgn V = true then -1 else 1) = g := ⟨_, rfl⟩
    rw [hg] at hsg
    have hg0 : (g == 0) = false := by
      rw [← hg]
      cases isgn V <;> rfl
    obtain ⟨hf, hl⟩ := LW.out.1 h0
    have hro := round_calls R5.out h0 SN.out HK.out hl
    obtain ⟨r, hr⟩ : ∃ r, double.nearest (isgn V) n (-(k : Int)) = r := ⟨_, rfl⟩
    have hrl : r < 2 ^ 64 := by
      rw [← hr, nearest_rung (isgn V) n (-(k : Int)) h0]
      have h1 : min (rung n (-(k : Int))) top ≤ top := Nat.min_le_right _ _
      have h2 : top < 9223372036854775808 := by decide
      unfold sgn
      split <;> omega
    rw [hr] at hro hf
    have S0 := Lib.hid hsg
    have RO := Lib.hid hro
    have HF := Lib.hid hf
    have HRL := Lib.hid hrl
    clear hsg h0 hg hf hl hro hr hrl
    go_wp2_with fail
    refine S0.out.mono ?_
    rintro e w' ⟨rfl, rfl⟩
    go_wp2_with fail
    refine RO.out.mono ?_
    rintro e w6 ⟨rfl, hb6⟩
    have G6 := Lib.hid (G5.out.trans (hb6.mono G5.out.size))
    clear hb6
    go_wp2
    go_ret
    exact ⟨r, rfl, HRL.out, Or.inl HF.out, G6.out⟩

end Go.Proofs.YtoefahgookhicaaGreatDoorBesafter
