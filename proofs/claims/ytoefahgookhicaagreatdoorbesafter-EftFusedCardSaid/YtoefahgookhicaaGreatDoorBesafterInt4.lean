/- Walk: the whole numbers' quotient and rest by a power of two. Condition: below 2^10000. -/
import Derived.Test.YtoefahgookhicaaGreatDoorBesafterInt1
import Derived.Test.YtoefahgookhicaaGreatDoorBesafterDiv4
namespace Go.Proofs.YtoefahgookhicaaGreatDoorBesafter
open Go.RowKit

/-- Quotient and rest have been written at two places. -/
def QrI (w : World) (b o b2 o2 : Nat) (q r : Nat) (e : Ending) (w' : World) : Prop :=
  e = .returned (.tuple #[.pointer (some ⟨b, o, none⟩), .pointer (some ⟨b2, o2, none⟩)]) ∧ IntAt w' b o false q ∧ IntAt w' b2 o2 false r ∧ w.heap.size ≤ w'.heap.size ∧ ∀ B, B ≤ b → B ≤ b2 → Below B w w'

set_option maxHeartbeats 2000000 in
set_option maxRecDepth 100000 in
/-- (enclosurebig.Int.QuoRem, of what isn't below nought by a power of two) -/
theorem quoRem_calls {w : World} {b o b2 o2 b3 o3 b4 o4 m k : Nat} (hz : Place w b o) (hr : Place w b4 o4) (hx : IntAt w b2 o2 false m) (hy : IntAt w b3 o3 false (2 ^ k)) (hne : b ≠ b4) (sm : Small m 9000) (sm' : Small m 10000) (sk : Small (2 ^ k) 10000) :
    Calls Tryz.prog 105 #[.pointer (some ⟨b, o, none⟩), .pointer (some ⟨b2, o2, none⟩), .pointer (some ⟨b3, o3, none⟩), .pointer (some ⟨b4, o4, none⟩)] w (QrI w b o b4 o4 (m / 2 ^ k) (m % 2 ^ k)) := by
  obtain ⟨v, c0, c1, hv⟩ := hx.cells
  obtain ⟨u, d0, d1, hu⟩ := hy.cells
  have hl := hz.lt
  have hl4 := hr.lt
  have HZ := Lib.hid hz
  have HR := Lib.hid hr
  have HL := Lib.hid (fun (W : World) (h1 : Limbs W v m) (h2 : Limbs W u (2 ^ k)) => div_calls h1 h2 sm sm' sk)
  have HV := Lib.hid hv
  have HU := Lib.hid hu
  clear hx hz hr hv hu hy sm sm' sk
  obtain ⟨q, hq⟩ : ∃ q, m / 2 ^ k = q := ⟨_, rfl⟩
  obtain ⟨r, hr⟩ : ∃ r, m % 2 ^ k = r := ⟨_, rfl⟩
  rw [hq, hr] at HL ⊢
  clear hq hr
  go_enter Tryz.func105, Tryz.ntmps105
  go_wp2_with fail
  go_quiet (fail)
  go_wp2_with fail
  go_region_with (first | (go_at_call 97; refine (HL.out _ ?_ ?_).mono ?_; exact HV.out; exact HU.out; rintro e w1 ⟨v1, v2, rfl, hv1, hv2, hb1⟩))
  all_goals
    have HB1 : Hid (Below w.heap.size w w1) := by first | exact (below_drewN (Below.refl _ _) _).trans hb1 | exact (below_drewN (Below.refl _ _) _).drew.trans hb1
    have HV1 := Lib.hid hv1
    have HV2 := Lib.hid hv2
    have HZ1 := Lib.hid (HZ.out.below HB1.out)
    have HR1 := Lib.hid (HR.out.below HB1.out)
    clear hv1 hv2 hb1
    go_wp2_with fail
    refine (give_calls false HZ1.out HV1.out).mono ?_
    rintro e w2 hw2
    obtain ⟨rfl, hw2⟩ := hw2
    have HI2 := Lib.hid (hw2.int HZ1.out)
    have HV22 := Lib.hid (HV2.out.wrote HZ1.out hw2)
    have HR2 := Lib.hid (HR1.out.wrote hw2)
    have HW2 := Lib.hid hw2
    clear hw2
    go_wp2_with fail
    refine (give_calls false HR2.out HV22.out).mono ?_
    rintro e w3 hw3
    obtain ⟨rfl, hw3⟩ := hw3
    have HI3 := Lib.hid (HI2.out.wrote_other HR2.out hw3 hne)
    have HI4 := Lib.hid (hw3.int HR2.out)
    have HW3 := Lib.hid hw3
    clear hw3
    have s1 := HB1.out.size
    have s2 := HW2.out.size
    have s3 := HW3.out.size
    have HF : Hid (∀ B, B ≤ b → B ≤ b4 → Below B w w3) := fun B h1 h2 => ((HB1.out.mono (by omega)).trans (HW2.out.below h1 (by omega))).trans (HW3.out.below h2 (by omega))
    go_wp2
    go_ret2
    exact ⟨rfl, HI3.out, HI4.out, by omega, HF.out⟩

end Go.Proofs.YtoefahgookhicaaGreatDoorBesafter
