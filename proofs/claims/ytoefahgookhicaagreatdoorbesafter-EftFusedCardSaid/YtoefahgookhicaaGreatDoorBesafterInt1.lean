/- Walk: the whole numbers' methods that set, negate, shift. Condition: below 2^10000. -/
import Derived.Test.YtoefahgookhicaaGreatDoorBesafterLeft
import Derived.Test.YtoefahgookhicaaGreatDoorBesafterRight
import Derived.RegionCalls
import Derived.Deep.RegionWith
namespace Go.Proofs.YtoefahgookhicaaGreatDoorBesafter
open Go.RowKit

/-- The two cells of a whole number. -/
theorem IntAt.cells {w : World} {b o : Nat} {s : Bool} {n : Nat} (h : IntAt w b o s n) : ∃ v, w.cell? ⟨b, o, none⟩ = some (.bool s) ∧ w.cell? ⟨b, o + 1, none⟩ = some v ∧ Limbs w v n := by
  obtain ⟨cur, t, v, h1, _, h3, h4, h5⟩ := h
  exact ⟨v, (cell_of_row w b o cur t (0, 0) h1).trans h3, (cell_of_row w b (o + 1) cur t (0, 0) h1).trans h4, h5⟩

theorem below_of_drew {w w1 : World} (h : Below w.drew.heap.size w.drew w1) : Below w.heap.size w w1 := (Below.refl _ _).drew.trans h
theorem Place.drew {w : World} {b o : Nat} (h : Place w b o) : Place w.drew b o := h
theorem Limbs.drew {w : World} {v : Value} {n : Nat} (h : Limbs w v n) : Limbs w.drew v n := h

/-- Behind draws and new memory: what a write there comes to. -/
theorem PutI.after {w w1 : World} {b o : Nat} {s : Bool} {n : Nat} {e : Ending} {w' : World} (hl : b < w.heap.size) (hb : Below w.heap.size w w1) (h : PutI w1 b o s n e w') : PutI w b o s n e w' :=
  ⟨h.1, h.2.after hb hl⟩

set_option maxHeartbeats 1000000 in
/-- (enclosurebig.Int.Set) -/
theorem set_calls {w : World} {b o b2 o2 n : Nat} {s : Bool} (hp : Place w b o) (hx : IntAt w b2 o2 s n) (sn : Small n 10000) : Calls Tryz.prog 49 #[.pointer (some ⟨b, o, none⟩), .pointer (some ⟨b2, o2, none⟩)] w (PutI w b o (nz s n) n) := by
  obtain ⟨v, c0, c1, hv⟩ := hx.cells
  have hl := hx.lt
  have hpl := hp.lt
  have HP := Lib.hid hp
  have HV := Lib.hid hv
  clear hx hp hv
  go_enter Tryz.func49, Tryz.ntmps49
  go_wp2_with fail
  go_region_with (first | (go_at_call 93; refine (twin_calls (n := n) ?_ sn).mono ?_; exact HV.out; rintro e w1 ⟨v1, rfl, hv1, hb1⟩; have c2 := (hb1.cell (p := ⟨b2, o2, none⟩) hl).trans c0; have HV1 := Lib.hid hv1; have HB1 := Lib.hid (below_of_drew hb1); clear hv1 hb1) | (go_at_call 51; refine (give_calls s (HP.out.below HB1.out) HV1.out).mono ?_; rintro e w2 hw2; obtain ⟨rfl, hw2⟩ := hw2))
  all_goals
    go_wp2
    go_ret
    exact ⟨rfl, hw2.after HB1.out hpl⟩

set_option maxHeartbeats 1000000 in
/-- (enclosurebig.Int.Neg) -/
theorem neg_calls {w : World} {b o b2 o2 n : Nat} {s : Bool} (hp : Place w b o) (hx : IntAt w b2 o2 s n) (sn : Small n 10000) : Calls Tryz.prog 54 #[.pointer (some ⟨b, o, none⟩), .pointer (some ⟨b2, o2, none⟩)] w (PutI w b o (nz (!s) n) n) := by
  obtain ⟨v, c0, c1, hv⟩ := hx.cells
  have hl := hx.lt
  have hpl := hp.lt
  have HP := Lib.hid hp
  have HV := Lib.hid hv
  clear hx hp hv
  go_enter Tryz.func54, Tryz.ntmps54
  go_wp2_with fail
  go_region_with (first | (go_at_call 93; refine (twin_calls (n := n) ?_ sn).mono ?_; exact HV.out; rintro e w1 ⟨v1, rfl, hv1, hb1⟩; have c2 := (hb1.cell (p := ⟨b2, o2, none⟩) hl).trans c0; have HV1 := Lib.hid hv1; have HB1 := Lib.hid (below_of_drew hb1); clear hv1 hb1) | (go_at_call 51; refine (give_calls (!s) (HP.out.below HB1.out) HV1.out).mono ?_; rintro e w2 hw2; obtain ⟨rfl, hw2⟩ := hw2))
  all_goals
    go_wp2
    go_ret
    exact ⟨rfl, hw2.after HB1.out hpl⟩

set_option maxHeartbeats 1000000 in
/-- (enclosurebig.Int.Abs) -/
theorem abs_calls {w : World} {b o b2 o2 n : Nat} {s : Bool} (hp : Place w b o) (hx : IntAt w b2 o2 s n) (sn : Small n 10000) : Calls Tryz.prog 58 #[.pointer (some ⟨b, o, none⟩), .pointer (some ⟨b2, o2, none⟩)] w (PutI w b o (nz false n) n) := by
  obtain ⟨v, c0, c1, hv⟩ := hx.cells
  have hpl := hp.lt
  have HP := Lib.hid hp
  have HV := Lib.hid hv
  clear hx hp hv
  go_enter Tryz.func58, Tryz.ntmps58
  go_wp2_with fail
  refine (twin_calls HV.out sn).mono ?_
  rintro e w1 ⟨v1, rfl, hv1, hb1⟩
  have HV1 := Lib.hid hv1
  have HB1 := Lib.hid hb1
  clear hv1 hb1
  go_wp2_with fail
  refine (give_calls false (HP.out.below HB1.out) HV1.out).mono ?_
  rintro e w2 hw2
  obtain ⟨rfl, hw2⟩ := hw2
  go_wp2
  go_ret
  exact ⟨rfl, hw2.after HB1.out hpl⟩

set_option maxHeartbeats 1000000 in
/-- (enclosurebig.Int.Lsh) -/
theorem lsh_calls {w : World} {b o b2 o2 n k : Nat} {s : Bool} (hp : Place w b o) (hx : IntAt w b2 o2 s n) (sn : Small n 10000) (hk : k ≤ 10000) : Calls Tryz.prog 55 #[.pointer (some ⟨b, o, none⟩), .pointer (some ⟨b2, o2, none⟩), .int .u64 k] w (PutI w b o (nz s (n * 2 ^ k)) (n * 2 ^ k)) := by
  obtain ⟨v, c0, c1, hv⟩ := hx.cells
  have hl := hx.lt
  have hpl := hp.lt
  have HP := Lib.hid hp
  have HV := Lib.hid hv
  clear hx hp hv
  obtain ⟨m, hm⟩ : ∃ m, n * 2 ^ k = m := ⟨_, rfl⟩
  have HL := Lib.hid (fun (W : World) (h : Limbs W v n) => left_calls k h sn hk)
  rw [hm] at HL ⊢
  clear hm
  go_enter Tryz.func55, Tryz.ntmps55
  go_wp2_with fail
  go_region_with (first | (go_at_call 100; refine (HL.out _ ?_).mono ?_; exact HV.out; rintro e w1 ⟨v1, rfl, hv1, hb1⟩; have c2 := (hb1.cell (p := ⟨b2, o2, none⟩) hl).trans c0; have HV1 := Lib.hid hv1; have HB1 := Lib.hid (below_of_drew hb1); clear hv1 hb1) | (go_at_call 51; refine (give_calls s (HP.out.below HB1.out) HV1.out).mono ?_; rintro e w2 hw2; obtain ⟨rfl, hw2⟩ := hw2))
  all_goals
    go_wp2
    go_ret
    exact ⟨rfl, hw2.after HB1.out hpl⟩

set_option maxHeartbeats 1000000 in
/-- (enclosurebig.Int.Rsh, of what isn't below nought) -/
theorem rsh_calls {w : World} {b o b2 o2 n k : Nat} (hp : Place w b o) (hx : IntAt w b2 o2 false n) (sn : Small n 10000) (hk : k ≤ 10000) : Calls Tryz.prog 108 #[.pointer (some ⟨b, o, none⟩), .pointer (some ⟨b2, o2, none⟩), .int .u64 k] w (PutI w b o (nz false (n / 2 ^ k)) (n / 2 ^ k)) := by
  obtain ⟨v, c0, c1, hv⟩ := hx.cells
  have hpl := hp.lt
  have HP := Lib.hid hp
  have HL := Lib.hid (right_calls k hv sn hk)
  clear hx hp hv
  obtain ⟨m, hm⟩ : ∃ m, n / 2 ^ k = m := ⟨_, rfl⟩
  rw [hm] at HL ⊢
  clear hm
  go_enter Tryz.func108, Tryz.ntmps108
  go_wp2_with fail
  refine HL.out.mono ?_
  rintro e w1 ⟨v1, rfl, hv1, hb1⟩
  have HV1 := Lib.hid hv1
  have HB1 := Lib.hid hb1
  clear hv1 hb1
  go_wp2_with fail
  refine (give_calls false (HP.out.below HB1.out) HV1.out).mono ?_
  rintro e w2 hw2
  obtain ⟨rfl, hw2⟩ := hw2
  go_wp2
  go_ret
  exact ⟨rfl, hw2.after HB1.out hpl⟩

set_option maxHeartbeats 1000000 in
/-- (enclosurebig.Int.SetUint64) -/
theorem setUint_calls {w : World} {b o : Nat} (x : Nat) (hp : Place w b o) (hx : x < 18446744073709551616) : Calls Tryz.prog 53 #[.pointer (some ⟨b, o, none⟩), .int .u64 x] w (PutI w b o (nz false x) x) := by
  have hpl := hp.lt
  have HP := Lib.hid hp
  clear hp
  go_enter Tryz.func53, Tryz.ntmps53
  go_wp2_with fail
  refine (words_calls w x hx).mono ?_
  rintro e w1 ⟨v1, rfl, hv1, hb1⟩
  have HV1 := Lib.hid hv1
  have HB1 := Lib.hid hb1
  clear hv1 hb1
  go_wp2_with fail
  refine (give_calls false (HP.out.below HB1.out) HV1.out).mono ?_
  rintro e w2 hw2
  obtain ⟨rfl, hw2⟩ := hw2
  go_wp2
  go_ret
  exact ⟨rfl, hw2.after HB1.out hpl⟩

set_option maxHeartbeats 1000000 in
/-- (enclosurebig.Int.SetInt64, at 1) -/
theorem setOne_calls {w : World} {b o : Nat} (hp : Place w b o) : Calls Tryz.prog 92 #[.pointer (some ⟨b, o, none⟩), .int .i64 1] w (PutI w b o false 1) := by
  have hpl := hp.lt
  have HP := Lib.hid hp
  clear hp
  go_enter Tryz.func92, Tryz.ntmps92
  go_wp2_with fail
  refine (words_calls w 1 (by decide)).mono ?_
  rintro e w1 ⟨v1, rfl, hv1, hb1⟩
  have HV1 := Lib.hid hv1
  have HB1 := Lib.hid hb1
  clear hv1 hb1
  go_wp2_with fail
  refine (give_calls false (HP.out.below HB1.out) HV1.out).mono ?_
  rintro e w2 hw2
  obtain ⟨rfl, hw2⟩ := hw2
  go_wp2
  go_ret
  exact ⟨rfl, hw2.after HB1.out hpl⟩

/-- A new whole number. -/
def NewI (w : World) (s : Bool) (n : Nat) (e : Ending) (w' : World) : Prop := ∃ b, e = .returned (.pointer (some ⟨b, 0, none⟩)) ∧ w.heap.size ≤ b ∧ IntAt w' b 0 s n ∧ Below w.heap.size w w'

set_option maxHeartbeats 1000000 in
/-- (enclosurebig.NewInt, at 1) -/
theorem newOne_calls (w : World) : Calls Tryz.prog 48 #[.int .i64 1] w (NewI w false 1) := by
  have hp := place_new w (.bool false) (.slice none 0 0)
  have HP := Lib.hid hp
  clear hp
  go_enter Tryz.func48, Tryz.ntmps48
  go_wp2_with fail
  refine (setOne_calls HP.out).mono ?_
  rintro e w2 hw2
  obtain ⟨rfl, hw2⟩ := hw2
  go_wp2
  go_ret
  exact ⟨w.heap.size, rfl, Nat.le_refl _, hw2.int HP.out, ((Below.refl _ _).alloc (Nat.le_refl _) _).trans (hw2.below (Nat.le_refl _) (by simp))⟩

end Go.Proofs.YtoefahgookhicaaGreatDoorBesafter
