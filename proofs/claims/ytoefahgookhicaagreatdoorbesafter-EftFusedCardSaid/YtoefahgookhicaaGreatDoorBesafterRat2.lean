/- Walk: a fraction is made of two whole numbers; its denominator; its sign. Condition: the denominator is a power of two. -/
import Derived.Test.YtoefahgookhicaaGreatDoorBesafterRat1
namespace Go.Proofs.YtoefahgookhicaaGreatDoorBesafter
open Go.RowKit

/-- A new whole number at b. -/
def NewQ (w : World) (b : Nat) (s : Bool) (n : Nat) (e : Ending) (w' : World) : Prop := e = .returned (.pointer (some ⟨b, 0, none⟩)) ∧ IntAt w' b 0 s n ∧ Below w.heap.size w w'
theorem newQ {w : World} {x y : Value} {s : Bool} {n : Nat} {e : Ending} {w' : World} (h : PutI (w.alloc (.cells #[x, y] 37)) w.heap.size 0 s n e w') : NewQ w w.heap.size s n e w' :=
  ⟨h.1, h.2.int (place_new w x y), ((Below.refl _ _).alloc (Nat.le_refl _) _).trans (h.2.below (Nat.le_refl _) (by simp))⟩
theorem below_newQ (w : World) (o : Obj) : Below w.heap.size w (w.alloc o) := (Below.refl _ _).alloc (Nat.le_refl _) _

set_option maxHeartbeats 2000000 in
set_option maxRecDepth 100000 in
/-- (enclosurebig.Rat.SetFrac) -/
theorem setFrac_calls {w : World} {b ba oa bb ob n k : Nat} {s : Bool} {x0 x1 x2 x3 : Value} (hz : R4 w b x0 x1 x2 x3) (ha : IntAt w ba oa s n) (hb : IntAt w bb ob false (2 ^ k)) (sn : Small n 10000) (sk : Small (2 ^ k) 10000) (hk : k < 10000) :
    Calls Tryz.prog 31 #[.pointer (some ⟨b, 0, none⟩), .pointer (some ⟨ba, oa, none⟩), .pointer (some ⟨bb, ob, none⟩)] w (NormR w b (nz s n) n k) := by
  obtain ⟨vd, c0, c1, hvd⟩ := hb.cells
  obtain ⟨ad, ld, cd, rfl, hld, hld2⟩ := hvd.len
  have ld3 := hld2 sk
  have ld0 : 0 < ld := Nat.pos_of_ne_zero fun h => by have := hld.1 h; have := pow_pos2 k; omega
  have zd : ((ld : Int) == 0) = false := beq_eq_false_iff_ne.2 (by omega)
  have HZ := Lib.hid hz
  have HA := Lib.hid ha
  have HB := Lib.hid hb
  have SN := Lib.hid sn
  have SK := Lib.hid sk
  have lz := hz.lt
  clear hz ha hb sn sk hld hld2 hvd
  go_enter Tryz.func31, Tryz.ntmps31
  go_wp2_with fail
  refine (set_calls (place_new w _ _) (HA.out.below (below_newQ w _)) SN.out).mono ?_
  rintro e w1 h1
  obtain ⟨rfl, hi1, hb1⟩ := newQ h1
  have HI1 := Lib.hid hi1
  have HB1 := Lib.hid hb1
  clear h1 hi1 hb1
  go_wp2_with fail
  refine (set_calls (place_new w1 _ _) ((HB.out.below HB1.out).below (below_newQ w1 _)) SK.out).mono ?_
  rintro e w2 h2
  obtain ⟨rfl, hi2, hb2⟩ := newQ h2
  obtain ⟨v1, p0, p1, hv1⟩ := (HI1.out.below hb2).cells
  obtain ⟨v2, q0, q1, hv2⟩ := hi2.cells
  obtain ⟨a1, l1, d1, rfl, _, _⟩ := hv1.len
  obtain ⟨a2, l2, d2, rfl, _, _⟩ := hv2.len
  have hb02 : Below w.heap.size w w2 := HB1.out.trans (hb2.mono HB1.out.size)
  have hlp := HI1.out.lt
  have hs1 := HB1.out.size
  have r2 := HZ.out.below hb02
  have y0 := r2.cell0
  have y1 := r2.cell1
  have y2 := r2.cell2
  have y3 := r2.cell3
  have g0 := r2.frozen 0
  have g1 := r2.frozen 1
  have g2 := r2.frozen 2
  have g3 := r2.frozen 3
  have ne1 : w.heap.size ≠ b := by omega
  have ne2 : w1.heap.size ≠ b := by omega
  have R2 := Lib.hid r2
  have HV1 := Lib.hid hv1
  have HV2 := Lib.hid hv2
  have HB02 := Lib.hid hb02
  clear h2 hi2 hb2 r2 hv1 hv2 hb02 hs1 hlp
  have A0 := R2.out.set0 (v := .bool (nz s n))
  have A1 := A0.set1 (v := .slice a1 l1 d1)
  have A2 := A1.set2 (v := .bool (nz false (2 ^ k)))
  have A3 := A2.set3 (v := .slice a2 l2 d2)
  have B1 := (((HV1.out.r4set R2.out 0 (.bool (nz s n))).r4set A0 1 (.slice a1 l1 d1)).r4set A1 2 (.bool (nz false (2 ^ k)))).r4set A2 3 (.slice a2 l2 d2)
  have B2 := (((HV2.out.r4set R2.out 0 (.bool (nz s n))).r4set A0 1 (.slice a1 l1 d1)).r4set A1 2 (.bool (nz false (2 ^ k)))).r4set A2 3 (.slice a2 l2 d2)
  have RA : RatAt ((((w2.setCell ⟨b, 0, none⟩ (.bool (nz s n))).setCell ⟨b, 1, none⟩ (.slice a1 l1 d1)).setCell ⟨b, 2, none⟩ (.bool (nz false (2 ^ k)))).setCell ⟨b, 3, none⟩ (.slice a2 l2 d2)) b (nz s n) n k := ⟨_, _, A3, B1, B2⟩
  have hG : w.grownBy ((((w2.setCell ⟨b, 0, none⟩ (.bool (nz s n))).setCell ⟨b, 1, none⟩ (.slice a1 l1 d1)).setCell ⟨b, 2, none⟩ (.bool (nz false (2 ^ k)))).setCell ⟨b, 3, none⟩ (.slice a2 l2 d2)) (some b) :=
    ⟨HB02.out.os, HB02.out.tape, HB02.out.output, by simp; exact HB02.out.size, fun j hj hne => by
      have hne' : j ≠ b := by simpa using hne
      rw [heap_setCell_other _ _ _ _ (by simpa using hne'), heap_setCell_other _ _ _ _ (by simpa using hne'), heap_setCell_other _ _ _ _ (by simpa using hne'), heap_setCell_other _ _ _ _ (by simpa using hne')]
      exact HB02.out.block j hj⟩
  have HRA := Lib.hid RA
  have HG := Lib.hid hG
  clear A0 A1 A2 A3 B1 B2 RA hG
  go_wp2_with fail
  refine (norm_calls HRA.out SN.out SK.out hk).mono ?_
  rintro e w7 ⟨n', k', rfl, e1, e2, e3, hr, hg⟩
  have E1 := Lib.hid e1
  have HR := Lib.hid hr
  have HG7 := Lib.hid hg
  clear e1 hr hg y0 y1 y2 y3 g0 g1 g2 g3 p0 p1 q0 q1
  go_wp2
  go_ret
  exact ⟨n', k', rfl, E1.out, e2, e3, HR.out, ⟨HG7.out.os.trans HG.out.os, HG7.out.tape.trans HG.out.tape, HG7.out.output.trans HG.out.output, Nat.le_trans HG.out.size HG7.out.size, fun j hj hne => (HG7.out.block j (Nat.lt_of_lt_of_le hj HG.out.size) hne).trans (HG.out.block j hj hne)⟩⟩

set_option maxHeartbeats 1000000 in
/-- (enclosurebig.Rat.den) -/
theorem den_calls {w : World} {b n k : Nat} {s : Bool} (hx : RatAt w b s n k) (sk : Small (2 ^ k) 10000) : Calls Tryz.prog 33 #[.pointer (some ⟨b, 0, none⟩)] w fun e w' => e = .returned (.pointer (some ⟨b, 2, none⟩)) ∧ w = w' := by
  obtain ⟨va, vd, h4, hva, hvd⟩ := hx
  obtain ⟨ad, ld, cd, rfl, hld, hld2⟩ := hvd.len
  have ld3 := hld2 sk
  have ld0 : 0 < ld := Nat.pos_of_ne_zero fun h => by have := hld.1 h; have := pow_pos2 k; omega
  have zd : ((ld : Int) == 0) = false := beq_eq_false_iff_ne.2 (by omega)
  have c3 := h4.cell3
  clear h4 hva hvd hld hld2 sk
  go_enter Tryz.func33, Tryz.ntmps33
  go_wp2
  go_ret
  exact ⟨rfl, rfl⟩

set_option maxHeartbeats 1000000 in
/-- (enclosurebig.Rat.Sign) -/
theorem ratSign_calls {w : World} {b n k : Nat} {s : Bool} (hx : RatAt w b s n k) (sn : Small n 10000) : Calls Tryz.prog 18 #[.pointer (some ⟨b, 0, none⟩)] w (SameI w (if n = 0 then 0 else if s then -1 else 1)) := by
  have h := sign_calls hx.num sn
  obtain ⟨c, hc⟩ : ∃ c : Int, (if n = 0 then 0 else if s then -1 else 1) = c := ⟨_, rfl⟩
  rw [hc] at h ⊢
  have H := Lib.hid h
  clear h hc hx sn
  go_enter Tryz.func18, Tryz.ntmps18
  go_wp2_with fail
  refine H.out.mono ?_
  rintro e w' ⟨rfl, rfl⟩
  go_wp2
  go_ret
  exact ⟨rfl, rfl⟩

end Go.Proofs.YtoefahgookhicaaGreatDoorBesafter
