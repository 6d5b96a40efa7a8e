/- Walk: the reference's FusedOf where a float is no number or infinite. -/
import Derived.Test.YtoefahgookhicaaGreatDoorBesafterRat4
import Derived.Test.YtoefahgookhicaaGreatDoorBesafterFlo3
import Derived.Test.YtoefahgookhicaaGreatDoorBesafterFlo4
import Derived.Test.YtoefahgookhicaaGreatDoorBesafterLawFma
import Derived.Test.YtoefahgookhicaaGreatDoorBesafterLawInf
namespace Go.Proofs.YtoefahgookhicaaGreatDoorBesafter
open Go.RowKit Ieee

/-- What FusedOf hands back: what the model's FMA gives, or a NaN where it gives none. -/
def FuR (x y z : Nat) (w : World) (e : Ending) (w' : World) : Prop :=
  ∃ r, e = .returned (.float .f64 r) ∧ r < 2 ^ 64 ∧ (double.fma x y z = some r ∨ double.fma x y z = none ∧ isN r = true) ∧ Below w.heap.size w w'

theorem run_mul_none {x y : Nat} (h : double.mul x y = none) (w : World) : ∃ r, IsNan r ∧ (binOp .mul 22 (.float .f64 x) (.float .f64 y)).run Tryz.prog w = .ok (.float .f64 r) w.drew := by
  refine ⟨_, cut_nan x y (w.tape w.drawn (.nanBits .f64 x y)), ?_⟩
  have h' : FloatKind.f64.format.mul x y = none := h
  simp [binOp, Op.floatArith, h']
  intro h
  cases h

set_option maxHeartbeats 1000000 in
set_option maxRecDepth 100000 in
theorem fused_nan {x y z : Nat} (hx : x < 2 ^ 64) (hy : y < 2 ^ 64) (hz : z < 2 ^ 64) (h : isN x = true ∨ isN y = true ∨ isN z = true) (w : World) :
    Calls Tryz.prog 7 #[.float .f64 x, .float .f64 y, .float .f64 z] w (FuR x y z w) := by
  have hf := Lib.hid (fma_nan hx hy hz h)
  have N := Lib.hid nan_calls
  have o1 : (FloatKind.f64.format.order x x != some .eq) = isN x := order_self x hx
  have o2 : (FloatKind.f64.format.order y y != some .eq) = isN y := order_self y hy
  have o3 : (FloatKind.f64.format.order z z != some .eq) = isN z := order_self z hz
  generalize isN x = n1 at *
  generalize isN y = n2 at *
  generalize isN z = n3 at *
  clear hx hy hz
  cases n1
  · cases n2
    · cases n3
      · rcases h with h | h | h <;> cases h
      · clear h
        go_enter Tryz.func7, Tryz.ntmps7
        go_wp2_with fail
        refine (N.out _).mono ?_
        rintro e w' ⟨r, hr, rfl, rfl⟩
        have HR := Lib.hid hr
        clear hr
        go_wp2
        go_ret
        exact ⟨r, rfl, HR.out.2.2, Or.inr ⟨hf.out, isNan_isN HR.out⟩, Below.refl _ _⟩
    · clear h o3
      go_enter Tryz.func7, Tryz.ntmps7
      go_wp2_with fail
      refine (N.out _).mono ?_
      rintro e w' ⟨r, hr, rfl, rfl⟩
      have HR := Lib.hid hr
      clear hr
      go_wp2
      go_ret
      exact ⟨r, rfl, HR.out.2.2, Or.inr ⟨hf.out, isNan_isN HR.out⟩, Below.refl _ _⟩
  · clear h o2 o3
    go_enter Tryz.func7, Tryz.ntmps7
    go_wp2_with fail
    refine (N.out _).mono ?_
    rintro e w' ⟨r, hr, rfl, rfl⟩
    have HR := Lib.hid hr
    clear hr
    go_wp2
    go_ret
    exact ⟨r, rfl, HR.out.2.2, Or.inr ⟨hf.out, isNan_isN HR.out⟩, Below.refl _ _⟩

set_option maxHeartbeats 2000000 in
set_option maxRecDepth 100000 in
theorem fused_inf {x y z : Nat} (hx : x < 2 ^ 64) (hy : y < 2 ^ 64) (hz : z < 2 ^ 64) (nx : isN x = false) (ny : isN y = false) (nz' : isN z = false) (h : isI x = true ∨ isI y = true) (w : World) :
    Calls Tryz.prog 7 #[.float .f64 x, .float .f64 y, .float .f64 z] w (FuR x y z w) := by
  have o1 : (FloatKind.f64.format.order x x != some .eq) = false := (order_self x hx).trans nx
  have o2 : (FloatKind.f64.format.order y y != some .eq) = false := (order_self y hy).trans ny
  have o3 : (FloatKind.f64.format.order z z != some .eq) = false := (order_self z hz).trans nz'
  have N := Lib.hid nan_calls
  have ix := fun W => isInf_calls x hx W
  have iy := fun W => isInf_calls y hy W
  have IZ := Lib.hid (fun W => isInf_calls z hz W)
  have SZ := Lib.hid (fun W => signbit_calls z hz W)
  have cases1 : isI x = true ∨ isI x = false ∧ isI y = true := by
    cases hh : isI x
    · exact Or.inr ⟨rfl, h.resolve_left (by rw [hh]; decide)⟩
    · exact Or.inl rfl
  have CC := Lib.hid cases1
  have IX := Lib.hid ix
  have IY := Lib.hid iy
  have FI := Lib.hid (fma_inf hx hy hz nx ny nz' h)
  clear cases1 ix iy hx hy hz nx ny nz' h
  go_enter Tryz.func7, Tryz.ntmps7
  go_upto_region 3 with (fail)
  go_cut [24] (fun s24 wx => s24 = .bool true ∧ wx = w)
  case first =>
    rcases CC.out with e1 | ⟨e1, e2⟩
    · have ix := IX.out
      rw [e1] at ix
      have IX := Lib.hid ix
      clear ix e1
      go_wp2_with fail
      refine (IX.out _).mono ?_
      rintro e w' ⟨rfl, rfl⟩
      go_wp2
      go_meet
      exact ⟨rfl, rfl⟩
    · have ix := IX.out
      have iy := IY.out
      rw [e1] at ix
      rw [e2] at iy
      have IX := Lib.hid ix
      have IY := Lib.hid iy
      clear ix iy e1 e2
      go_wp2_with fail
      refine (IX.out _).mono ?_
      rintro e w' ⟨rfl, rfl⟩
      go_wp2_with fail
      refine (IY.out _).mono ?_
      rintro e w' ⟨rfl, rfl⟩
      go_wp2
      go_meet
      exact ⟨rfl, rfl⟩
  case rest =>
    obtain ⟨rfl, hw⟩ := hcut
    rw [hw]
    clear hw wc IX IY
    rcases FI.out with ⟨hm, hf⟩ | ⟨s, hm, hf1, hf2⟩
    · obtain ⟨p, hp, hrun⟩ := run_mul_none hm w
      have op : (FloatKind.f64.format.order p p != some .eq) = true := (order_self p hp.2.2).trans (isNan_isN hp)
      have HF := Lib.hid hf
      clear hp hm hf FI IZ SZ
      go_wp2_with fail
      refine (N.out _).mono ?_
      rintro e w' ⟨r, hr, rfl, rfl⟩
      have HR := Lib.hid hr
      clear hr
      go_wp2
      go_ret
      exact ⟨r, rfl, HR.out.2.2, Or.inr ⟨HF.out, isNan_isN HR.out⟩, (Below.refl _ _).drew⟩
    · obtain ⟨p1, p2, p3, p4⟩ := inf_bits s
      obtain ⟨p, hp⟩ : ∃ p, sgn s top = p := ⟨_, rfl⟩
      rw [hp] at hm hf2 p1 p2 p4
      have hrun : ∀ W : World, (binOp .mul 22 (.float .f64 x) (.float .f64 y)).run Tryz.prog W = .ok (.float .f64 p) W := fun W => run_f (op := .mul) hm W
      have op : (FloatKind.f64.format.order p p != some .eq) = false := (order_self p p1).trans p2
      have sp := fun W => signbit_calls p p1 W
      rw [p4] at sp
      have P1 := Lib.hid p1
      obtain ⟨t, ht⟩ : ∃ t, fS z = t := ⟨_, rfl⟩
      have sz := SZ.out
      rw [ht] at sz hf1 hf2
      obtain ⟨i3, hi3⟩ : ∃ i, isI z = i := ⟨_, rfl⟩
      have iz := IZ.out
      rw [hi3] at iz hf1 hf2
      have SP := Lib.hid sp
      clear IZ SZ FI
      cases i3
      · have FF := Lib.hid (hf2 (Or.inl rfl))
        have IZ := Lib.hid iz
        clear p1 p2 p3 p4 hp hm hf1 hf2 iz sz sp ht hi3
        go_wp2_with fail
        refine (IZ.out _).mono ?_
        rintro e w' ⟨rfl, rfl⟩
        go_wp2
        go_ret
        exact ⟨p, rfl, P1.out, Or.inl FF.out, Below.refl _ _⟩
      · have IZ := Lib.hid iz
        have SZ := Lib.hid sz
        cases s <;> cases t
        · have FF := Lib.hid (hf2 (Or.inr rfl))
          clear p1 p2 p3 p4 hp hm hf1 hf2 iz sz sp ht hi3
          go_wp2_with fail
          refine (IZ.out _).mono ?_
          rintro e w' ⟨rfl, rfl⟩
          go_wp2_with fail
          refine (SP.out _).mono ?_
          rintro e w' ⟨rfl, rfl⟩
          go_wp2_with fail
          refine (SZ.out _).mono ?_
          rintro e w' ⟨rfl, rfl⟩
          go_wp2
          go_ret
          exact ⟨p, rfl, P1.out, Or.inl FF.out, Below.refl _ _⟩
        · have FF := Lib.hid (hf1 ⟨rfl, by decide⟩)
          clear p1 p2 p3 p4 hp hm hf1 hf2 iz sz sp ht hi3
          go_wp2_with fail
          refine (IZ.out _).mono ?_
          rintro e w' ⟨rfl, rfl⟩
          go_wp2_with fail
          refine (SP.out _).mono ?_
          rintro e w' ⟨rfl, rfl⟩
          go_wp2_with fail
          refine (SZ.out _).mono ?_
          rintro e w' ⟨rfl, rfl⟩
          go_wp2_with fail
          refine (N.out _).mono ?_
          rintro e w' ⟨r, hr, rfl, rfl⟩
          have HR := Lib.hid hr
          clear hr
          go_wp2
          go_ret
          exact ⟨r, rfl, HR.out.2.2, Or.inr ⟨FF.out, isNan_isN HR.out⟩, Below.refl _ _⟩
        · have FF := Lib.hid (hf1 ⟨rfl, by decide⟩)
          clear p1 p2 p3 p4 hp hm hf1 hf2 iz sz sp ht hi3
          go_wp2_with fail
          refine (IZ.out _).mono ?_
          rintro e w' ⟨rfl, rfl⟩
          go_wp2_with fail
          refine (SP.out _).mono ?_
          rintro e w' ⟨rfl, rfl⟩
          go_wp2_with fail
          refine (SZ.out _).mono ?_
          rintro e w' ⟨rfl, rfl⟩
          go_wp2_with fail
          refine (N.out _).mono ?_
          rintro e w' ⟨r, hr, rfl, rfl⟩
          have HR := Lib.hid hr
          clear hr
          go_wp2
          go_ret
          exact ⟨r, rfl, HR.out.2.2, Or.inr ⟨FF.out, isNan_isN HR.out⟩, Below.refl _ _⟩
        · have FF := Lib.hid (hf2 (Or.inr rfl))
          clear p1 p2 p3 p4 hp hm hf1 hf2 iz sz sp ht hi3
          go_wp2_with fail
          refine (IZ.out _).mono ?_
          rintro e w' ⟨rfl, rfl⟩
          go_wp2_with fail
          refine (SP.out _).mono ?_
          rintro e w' ⟨rfl, rfl⟩
          go_wp2_with fail
          refine (SZ.out _).mono ?_
          rintro e w' ⟨rfl, rfl⟩
          go_wp2
          go_ret
          exact ⟨p, rfl, P1.out, Or.inl FF.out, Below.refl _ _⟩

set_option maxHeartbeats 1000000 in
set_option maxRecDepth 100000 in
theorem fused_infz {x y z : Nat} (hx : x < 2 ^ 64) (hy : y < 2 ^ 64) (hz : z < 2 ^ 64) (nx : isN x = false) (ny : isN y = false) (nz' : isN z = false) (ix : isI x = false) (iy : isI y = false) (iz : isI z = true) (fx : Fin64 x) (fy : Fin64 y) (w : World) :
    Calls Tryz.prog 7 #[.float .f64 x, .float .f64 y, .float .f64 z] w (FuR x y z w) := by
  have o1 : (FloatKind.f64.format.order x x != some .eq) = false := (order_self x hx).trans nx
  have o2 : (FloatKind.f64.format.order y y != some .eq) = false := (order_self y hy).trans ny
  have o3 : (FloatKind.f64.format.order z z != some .eq) = false := (order_self z hz).trans nz'
  have hix := fun W => isInf_calls x hx W
  have hiy := fun W => isInf_calls y hy W
  have hiz := fun W => isInf_calls z hz W
  have HF := Lib.hid (fma_infz hx hy hz fx fy iz)
  have HZ := Lib.hid hz
  rw [ix] at hix
  rw [iy] at hiy
  rw [iz] at hiz
  have IX := Lib.hid hix
  have IY := Lib.hid hiy
  have IZ := Lib.hid hiz
  clear hix hiy hiz hx hy hz nx ny nz' ix iy iz fx fy
  go_enter Tryz.func7, Tryz.ntmps7
  go_wp2_with fail
  refine (IX.out _).mono ?_
  rintro e w' ⟨rfl, rfl⟩
  go_wp2_with fail
  refine (IY.out _).mono ?_
  rintro e w' ⟨rfl, rfl⟩
  go_wp2_with fail
  refine (IZ.out _).mono ?_
  rintro e w' ⟨rfl, rfl⟩
  go_wp2
  go_ret
  exact ⟨z, rfl, HZ.out, Or.inl HF.out, Below.refl _ _⟩

theorem below_grown {B : Nat} {w w1 w2 : World} {b : Nat} (h : Below B w w1) (h2 : w1.grownBy w2 (some b)) (hb : B ≤ b) (hB : B ≤ w1.heap.size) : Below B w w2 :=
  ⟨h2.os.trans h.os, h2.tape.trans h.tape, h2.output.trans h.output, Nat.le_trans h.size h2.size, fun j hj => (h2.block j (by omega) (by simp; omega)).trans (h.block j hj)⟩

end Go.Proofs.YtoefahgookhicaaGreatDoorBesafter
