/- Walk: the whole numbers' product and sum. Condition: below 2^10000; the sum is not written over an operand. -/
import Derived.Test.YtoefahgookhicaaGreatDoorBesafterInt1
import Derived.Test.YtoefahgookhicaaGreatDoorBesafterMul
import Derived.Test.YtoefahgookhicaaGreatDoorBesafterAdd
import Derived.Test.YtoefahgookhicaaGreatDoorBesafterSub
import Derived.Test.YtoefahgookhicaaGreatDoorBesafterCmp
import Derived.StillTailTactics
namespace Go.Proofs.YtoefahgookhicaaGreatDoorBesafter
open Go.RowKit

theorem Wrote.cell_other {w w' : World} {b o b2 o2 : Nat} {s : Bool} {n : Nat} (hw : Wrote w w' b o s n) (hl : b2 < w.heap.size) (hne : b2 ≠ b) : w'.cell? ⟨b2, o2, none⟩ = w.cell? ⟨b2, o2, none⟩ :=
  World.cell?_of_block (hw.grown.block b2 hl (by simpa using hne))

set_option maxHeartbeats 2000000 in
/-- (enclosurebig.Int.Mul, into another place) -/
theorem imul_calls {w : World} {b o b2 o2 b3 o3 m n : Nat} {s t : Bool} (hp : Place w b o) (hx : IntAt w b2 o2 s m) (hy : IntAt w b3 o3 t n) (hbx : b2 ≠ b) (hby : b3 ≠ b) (sm : Small m 10000) (sn : Small n 10000) :
    Calls Tryz.prog 32 #[.pointer (some ⟨b, o, none⟩), .pointer (some ⟨b2, o2, none⟩), .pointer (some ⟨b3, o3, none⟩)] w (PutI w b o (nz (s != t) (m * n)) (m * n)) := by
  obtain ⟨v, c0, c1, hv⟩ := hx.cells
  obtain ⟨u, d0, d1, hu⟩ := hy.cells
  have hl := hx.lt
  have hl2 := hy.lt
  have hpl := hp.lt
  have HP := Lib.hid hp
  have HL := Lib.hid (fun (W : World) (h1 : Limbs W v m) (h2 : Limbs W u n) => mul_calls h1 h2 sm sn)
  have HV := Lib.hid hv
  have HU := Lib.hid hu
  clear hx hp hv hu hy sm sn
  obtain ⟨q, hq⟩ : ∃ q, m * n = q := ⟨_, rfl⟩
  rw [hq] at HL ⊢
  clear hq
  go_enter Tryz.func32, Tryz.ntmps32
  go_wp2_with fail
  go_region_held3 (fun w' => w'.cell? ⟨b2, o2, none⟩ = some (.bool s) ∧ w'.cell? ⟨b2, o2 + 1, none⟩ = some v ∧ w'.cell? ⟨b3, o3, none⟩ = some (.bool t) ∧ w'.cell? ⟨b3, o3 + 1, none⟩ = some u) (first | exact ⟨e2, e3, f2, f3⟩ | exact ⟨c2, c3, d2, d3⟩ | exact ⟨c0, c1, d0, d1⟩) (first | (go_at_call 52; refine (HL.out _ ?_ ?_).mono ?_; exact HV.out; exact HU.out; rintro e w1 ⟨v1, rfl, hv1, hb1⟩; have c2 := (hb1.cell (p := ⟨b2, o2, none⟩) hl).trans c0; have c3 := (hb1.cell (p := ⟨b2, o2 + 1, none⟩) hl).trans c1; have d2 := (hb1.cell (p := ⟨b3, o3, none⟩) hl2).trans d0; have d3 := (hb1.cell (p := ⟨b3, o3 + 1, none⟩) hl2).trans d1; have HV1 := Lib.hid hv1; have HB1 := Lib.hid (below_of_drew hb1); clear hv1 hb1) | (go_at_call 51; refine (give_calls _ (HP.out.below HB1.out) HV1.out).mono ?_; rintro e w2 hw2; obtain ⟨rfl, hw2⟩ := hw2; have e2 := (hw2.cell_other (o2 := o2) (Nat.lt_of_lt_of_le hl HB1.out.size) hbx).trans c2; have e3 := (hw2.cell_other (o2 := o2 + 1) (Nat.lt_of_lt_of_le hl HB1.out.size) hbx).trans c3; have f2 := (hw2.cell_other (o2 := o3) (Nat.lt_of_lt_of_le hl2 HB1.out.size) hby).trans d2; have f3 := (hw2.cell_other (o2 := o3 + 1) (Nat.lt_of_lt_of_le hl2 HB1.out.size) hby).trans d3))
  all_goals
    go_wp2
    go_ret
    exact ⟨rfl, hw2.after HB1.out hpl⟩

/-- The number of a sign and a size. -/
def iv (s : Bool) (n : Nat) : Int := if s then -(n : Int) else n
def isgn (z : Int) : Bool := decide (z < 0)

theorem iv_same (s : Bool) (m n : Nat) : (iv s m + iv s n).natAbs = m + n ∧ nz s (m + n) = isgn (iv s m + iv s n) := by
  cases s
  · refine ⟨?_, ?_⟩
    · show ((m : Int) + (n : Int)).natAbs = _; omega
    · show (false && _) = decide ((m : Int) + (n : Int) < 0)
      rw [Bool.false_and]; exact (decide_eq_false (by omega)).symm
  · refine ⟨?_, ?_⟩
    · show (-(m : Int) + -(n : Int)).natAbs = _; omega
    · show (true && decide (m + n ≠ 0)) = decide (-(m : Int) + -(n : Int) < 0)
      rw [Bool.true_and]; exact decide_eq_decide.2 (by omega)
theorem iv_less (s t : Bool) (m n : Nat) (h : s ≠ t) (hn : n ≤ m) : (iv s m + iv t n).natAbs = m - n ∧ nz s (m - n) = isgn (iv s m + iv t n) := by
  cases s <;> cases t
  · exact absurd rfl h
  · refine ⟨?_, ?_⟩
    · show ((m : Int) + -(n : Int)).natAbs = _; omega
    · show (false && _) = decide ((m : Int) + -(n : Int) < 0)
      rw [Bool.false_and]; exact (decide_eq_false (by omega)).symm
  · refine ⟨?_, ?_⟩
    · show (-(m : Int) + (n : Int)).natAbs = _; omega
    · show (true && decide (m - n ≠ 0)) = decide (-(m : Int) + (n : Int) < 0)
      rw [Bool.true_and]; exact decide_eq_decide.2 (by omega)
  · exact absurd rfl h
theorem iv_comm (s t : Bool) (m n : Nat) : iv s m + iv t n = iv t n + iv s m := Int.add_comm _ _

/-- A sign and a new number. -/
def SumR (w : World) (z : Int) (e : Ending) (w' : World) : Prop := ∃ (s : Bool) (v : Value), e = .returned (.tuple #[.bool s, v]) ∧ nz s z.natAbs = isgn z ∧ Limbs w' v z.natAbs ∧ Below w.heap.size w w'

set_option maxHeartbeats 1000000 in
/-- (enclosurebig.sum) -/
theorem sum_calls {w : World} {va vb : Value} {s t : Bool} {m n : Nat} (ha : Limbs w va m) (hb : Limbs w vb n) (sm : Small m 10000) (sn : Small n 10000) : Calls Tryz.prog 56 #[.bool s, va, .bool t, vb] w (SumR w (iv s m + iv t n)) := by
  have hadd := add_calls ha hb sm sn
  have hcmp := cmp_calls ha hb sm sn
  by_cases hst : s = t
  · subst hst
    have hz := iv_same s m n
    obtain ⟨z, hz'⟩ : ∃ z, iv s m + iv s n = z := ⟨_, rfl⟩
    rw [hz'] at hz ⊢
    have HA := Lib.hid hadd
    have HZ := Lib.hid hz
    have hq : (s == s) = true := by simp
    clear hadd hcmp hz hz' ha hb sm sn
    go_enter Tryz.func56, Tryz.ntmps56
    go_wp2_with fail
    refine HA.out.mono ?_
    rintro e w1 ⟨v, rfl, hv, hb1⟩
    have HV := Lib.hid hv
    have HB := Lib.hid hb1
    clear hv hb1
    go_wp2
    go_ret2
    exact ⟨s, v, rfl, by rw [HZ.out.1]; exact HZ.out.2, by rw [HZ.out.1]; exact HV.out, HB.out⟩
  · have hq : (s == t) = false := by simpa using hst
    by_cases hmn : n ≤ m
    · have hsub := sub_calls ha hb sm hmn
      have hz := iv_less s t m n hst hmn
      obtain ⟨z, hz'⟩ : ∃ z, iv s m + iv t n = z := ⟨_, rfl⟩
      rw [hz'] at hz ⊢
      have ht : decide (0 ≤ cmp3 m n) = true := by unfold cmp3; rw [if_neg (by omega)]; split <;> rfl
      have hsub' : ∀ d, Calls Tryz.prog 103 #[va, vb] (w.drewN d) (NewL (w.drewN d) (m - n)) := fun d => sub_calls (w := w.drewN d) ha hb sm hmn
      have HA := Lib.hid hsub'
      have HC := Lib.hid hcmp
      have HZ := Lib.hid hz
      clear hadd hcmp hz hz' ha hb sm sn hsub hsub' hst
      go_enter Tryz.func56, Tryz.ntmps56
      go_wp2_with fail
      refine HC.out.mono ?_
      rintro e w1 ⟨rfl, d, rfl⟩
      go_wp2_with fail
      refine (HA.out d).mono ?_
      rintro e w1 ⟨v, rfl, hv, hb1⟩
      have HV := Lib.hid hv
      have HB : Hid (Below w.heap.size w w1) := (below_drewN (Below.refl _ _) d).trans hb1
      clear hv hb1
      go_wp2
      go_ret2
      exact ⟨s, v, rfl, by rw [HZ.out.1]; exact HZ.out.2, by rw [HZ.out.1]; exact HV.out, HB.out⟩
    · have hz := iv_less t s n m (fun h => hst h.symm) (by omega)
      rw [iv_comm t s n m] at hz
      obtain ⟨z, hz'⟩ : ∃ z, iv s m + iv t n = z := ⟨_, rfl⟩
      rw [hz'] at hz ⊢
      have ht : decide (0 ≤ cmp3 m n) = false := by unfold cmp3; rw [if_pos (by omega)]; rfl
      have hsub' : ∀ d, Calls Tryz.prog 103 #[vb, va] (w.drewN d) (NewL (w.drewN d) (n - m)) := fun d => sub_calls (w := w.drewN d) hb ha sn (by omega)
      have HA := Lib.hid hsub'
      have HC := Lib.hid hcmp
      have HZ := Lib.hid hz
      clear hadd hcmp hz hz' ha hb sm sn hsub' hst hmn
      go_enter Tryz.func56, Tryz.ntmps56
      go_wp2_with fail
      refine HC.out.mono ?_
      rintro e w1 ⟨rfl, d, rfl⟩
      go_wp2_with fail
      refine (HA.out d).mono ?_
      rintro e w1 ⟨v, rfl, hv, hb1⟩
      have HV := Lib.hid hv
      have HB : Hid (Below w.heap.size w w1) := (below_drewN (Below.refl _ _) d).trans hb1
      clear hv hb1
      go_wp2
      go_ret2
      exact ⟨t, v, rfl, by rw [HZ.out.1]; exact HZ.out.2, by rw [HZ.out.1]; exact HV.out, HB.out⟩

set_option maxHeartbeats 2000000 in
set_option maxRecDepth 100000 in
/-- (enclosurebig.Int.Add, into another place) -/
theorem iadd_calls {w : World} {b o b2 o2 b3 o3 m n : Nat} {s t : Bool} (hp : Place w b o) (hx : IntAt w b2 o2 s m) (hy : IntAt w b3 o3 t n) (hbx : b2 ≠ b) (hby : b3 ≠ b) (sm : Small m 10000) (sn : Small n 10000) :
    Calls Tryz.prog 35 #[.pointer (some ⟨b, o, none⟩), .pointer (some ⟨b2, o2, none⟩), .pointer (some ⟨b3, o3, none⟩)] w (PutI w b o (isgn (iv s m + iv t n)) (iv s m + iv t n).natAbs) := by
  obtain ⟨v, c0, c1, hv⟩ := hx.cells
  obtain ⟨u, d0, d1, hu⟩ := hy.cells
  have hl := hx.lt
  have hl2 := hy.lt
  have hpl := hp.lt
  have HP := Lib.hid hp
  have HL := Lib.hid (fun (W : World) (h1 : Limbs W v m) (h2 : Limbs W u n) => sum_calls (s := s) (t := t) h1 h2 sm sn)
  have HV := Lib.hid hv
  have HU := Lib.hid hu
  clear hx hp hv hu hy sm sn
  obtain ⟨z, hz⟩ : ∃ z, iv s m + iv t n = z := ⟨_, rfl⟩
  rw [hz] at HL ⊢
  clear hz
  go_enter Tryz.func35, Tryz.ntmps35
  go_wp2_with fail
  go_region_held3 (fun w' => w'.cell? ⟨b2, o2, none⟩ = some (.bool s) ∧ w'.cell? ⟨b2, o2 + 1, none⟩ = some v ∧ w'.cell? ⟨b3, o3, none⟩ = some (.bool t) ∧ w'.cell? ⟨b3, o3 + 1, none⟩ = some u) (first | exact ⟨e2, e3, f2, f3⟩ | exact ⟨c2, c3, d2, d3⟩ | exact ⟨c0, c1, d0, d1⟩) (first | (go_at_call 56; refine (HL.out _ ?_ ?_).mono ?_; exact HV.out; exact HU.out; rintro e w1 ⟨sg, v1, rfl, hnz, hv1, hb1⟩; have c2 := (hb1.cell (p := ⟨b2, o2, none⟩) hl).trans c0; have c3 := (hb1.cell (p := ⟨b2, o2 + 1, none⟩) hl).trans c1; have d2 := (hb1.cell (p := ⟨b3, o3, none⟩) hl2).trans d0; have d3 := (hb1.cell (p := ⟨b3, o3 + 1, none⟩) hl2).trans d1; have HV1 := Lib.hid hv1; have HN := Lib.hid hnz; have HB1 := Lib.hid (below_of_drew hb1); clear hv1 hb1 hnz) | (go_at_call 51; refine (give_calls sg (HP.out.below HB1.out) HV1.out).mono ?_; rintro e w2 hw2; obtain ⟨rfl, hw2⟩ := hw2; rw [HN.out] at hw2; have e2 := (hw2.cell_other (o2 := o2) (Nat.lt_of_lt_of_le hl HB1.out.size) hbx).trans c2; have e3 := (hw2.cell_other (o2 := o2 + 1) (Nat.lt_of_lt_of_le hl HB1.out.size) hbx).trans c3; have f2 := (hw2.cell_other (o2 := o3) (Nat.lt_of_lt_of_le hl2 HB1.out.size) hby).trans d2; have f3 := (hw2.cell_other (o2 := o3 + 1) (Nat.lt_of_lt_of_le hl2 HB1.out.size) hby).trans d3))
  all_goals
    go_wp2
    go_ret
    exact ⟨rfl, hw2.after HB1.out hpl⟩

end Go.Proofs.YtoefahgookhicaaGreatDoorBesafter
