/- Walk: the whole numbers' sum, written over its first operand. Condition: below 2^10000. -/
import Derived.Test.YtoefahgookhicaaGreatDoorBesafterInt2
namespace Go.Proofs.YtoefahgookhicaaGreatDoorBesafter
open Go.RowKit

set_option maxHeartbeats 8000000 in
set_option maxRecDepth 100000 in
/-- (enclosurebig.Int.Add, onto the first summand) -/
theorem iadd_self {w : World} {b o b3 o3 m n : Nat} {s t : Bool} (hx : IntAt w b o s m) (hy : IntAt w b3 o3 t n) (_hby : b3 ≠ b) (sm : Small m 10000) (sn : Small n 10000) :
    Calls Tryz.prog 35 #[.pointer (some ⟨b, o, none⟩), .pointer (some ⟨b, o, none⟩), .pointer (some ⟨b3, o3, none⟩)] w (PutI w b o (isgn (iv s m + iv t n)) (iv s m + iv t n).natAbs) := by
  have hp := hx.place
  obtain ⟨v, c0, c1, hv⟩ := hx.cells
  obtain ⟨u, d0, d1, hu⟩ := hy.cells
  have hl2 := hy.lt
  have hpl := hp.lt
  have HP := Lib.hid hp
  have HL := Lib.hid (fun (W : World) (h1 : Limbs W v m) (h2 : Limbs W u n) => sum_calls (s := s) (t := t) h1 h2 sm sn)
  have HV := Lib.hid hv
  have HU := Lib.hid hu
  clear hx hp hv hu hy sm sn
  obtain ⟨z, hz⟩ : ∃ z, iv s m + iv t n = z := ⟨_, rfl⟩
  rw [hz] at HL ⊢
  clear hz
  go_enter Tryz.func35, Tryz.ntmps35
  go_wp2_with fail
  go_region_with (first | (go_at_call 56; refine (HL.out _ ?_ ?_).mono ?_; exact HV.out; exact HU.out; rintro e w1 ⟨sg, v1, rfl, hnz, hv1, hb1⟩; have HV1 := Lib.hid hv1; have HN := Lib.hid hnz; have HB1 := Lib.hid (below_of_drew hb1); clear hv1 hb1 hnz) | (go_at_call 51; refine (give_calls sg (HP.out.below HB1.out) HV1.out).mono ?_; rintro e w2 hw2; obtain ⟨rfl, hw2⟩ := hw2; rw [HN.out] at hw2))
  all_goals
    go_wp2
    go_ret
    exact ⟨rfl, hw2.after HB1.out hpl⟩

end Go.Proofs.YtoefahgookhicaaGreatDoorBesafter
