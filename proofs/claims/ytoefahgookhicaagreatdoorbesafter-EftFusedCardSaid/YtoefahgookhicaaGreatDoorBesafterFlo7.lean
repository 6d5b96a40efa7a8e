/- Walk: the reference's FusedOf and the law itself, whatever the three floats: it answers true. Condition: the bits are below 2^64, as every float64's are. -/
import Derived.Test.YtoefahgookhicaaGreatDoorBesafterFlo6
namespace Go.Proofs.YtoefahgookhicaaGreatDoorBesafter
open Go.RowKit Ieee

/-- (enclosureref.FusedOf) WHATEVER THE FLOATS: what the model's FMA gives, or a NaN where it gives none. -/
theorem fusedOf_calls {x y z : Nat} (hx : x < 2 ^ 64) (hy : y < 2 ^ 64) (hz : z < 2 ^ 64) (w : World) :
    Calls Tryz.prog 7 #[.float .f64 x, .float .f64 y, .float .f64 z] w (FuR x y z w) := by
  rcases float_cases x with ⟨nx, _⟩ | ⟨nx, ix⟩ | ⟨nx, ix, fx⟩
  · exact fused_nan hx hy hz (Or.inl nx) w
  · rcases float_cases y with ⟨ny, _⟩ | ⟨ny, _⟩ | ⟨ny, _⟩
    · exact fused_nan hx hy hz (Or.inr (Or.inl ny)) w
    · rcases float_cases z with ⟨nz, _⟩ | ⟨nz, _⟩ | ⟨nz, _⟩
      · exact fused_nan hx hy hz (Or.inr (Or.inr nz)) w
      · exact fused_inf hx hy hz nx ny nz (Or.inl ix) w
      · exact fused_inf hx hy hz nx ny nz (Or.inl ix) w
    · rcases float_cases z with ⟨nz, _⟩ | ⟨nz, _⟩ | ⟨nz, _⟩
      · exact fused_nan hx hy hz (Or.inr (Or.inr nz)) w
      · exact fused_inf hx hy hz nx ny nz (Or.inl ix) w
      · exact fused_inf hx hy hz nx ny nz (Or.inl ix) w
  · rcases float_cases y with ⟨ny, _⟩ | ⟨ny, iy⟩ | ⟨ny, iy, fy⟩
    · exact fused_nan hx hy hz (Or.inr (Or.inl ny)) w
    · rcases float_cases z with ⟨nz, _⟩ | ⟨nz, _⟩ | ⟨nz, _⟩
      · exact fused_nan hx hy hz (Or.inr (Or.inr nz)) w
      · exact fused_inf hx hy hz nx ny nz (Or.inr iy) w
      · exact fused_inf hx hy hz nx ny nz (Or.inr iy) w
    · rcases float_cases z with ⟨nz, _⟩ | ⟨nz, iz⟩ | ⟨nz, iz, fz⟩
      · exact fused_nan hx hy hz (Or.inr (Or.inr nz)) w
      · exact fused_infz hx hy hz nx ny nz ix iy iz fx fy w
      · exact fused_fin hx hy hz nx ny nz ix iy iz fx fy fz w

set_option maxHeartbeats 1000000 in
set_option maxRecDepth 100000 in
/-- (enclosurelaw.EftFused) WHATEVER THE FLOATS: true. -/
theorem eftFused_calls {x y z : Nat} (hx : x < 2 ^ 64) (hy : y < 2 ^ 64) (hz : z < 2 ^ 64) (w : World) :
    Calls Tryz.prog 3 #[.float .f64 x, .float .f64 y, .float .f64 z] w fun e w' => e = .returned (.bool true) ∧ Below w.heap.size w w' := by
  have L := Lib.hid (lost_calls w)
  have FO := Lib.hid (fun W => fusedOf_calls hx hy hz W)
  cases hf : double.fma x y z with
  | some r =>
    have FS := Lib.hid (fun W => fused_some (show FloatKind.f64.format.fma x y z = some r from hf) W)
    have HF := Lib.hid hf
    clear hf hx hy hz
    go_enter Tryz.func3, Tryz.ntmps3
    go_wp2_with fail
    refine L.out.mono ?_
    rintro e w1 ⟨rfl, hb1⟩
    have HB1 := Lib.hid hb1
    clear hb1
    go_wp2_with fail
    refine (FS.out _).mono ?_
    rintro e w' ⟨rfl, rfl⟩
    go_wp2_with fail
    refine (FO.out _).mono ?_
    rintro e w2 ⟨q, rfl, hq, hr, hb2⟩
    have hrq : r = q := by
      rcases hr with h | ⟨h, _⟩
      · exact Option.some.inj (HF.out.symm.trans h)
      · rw [HF.out] at h; cases h
    subst hrq
    have BB := Lib.hid (fun W => bits_calls hq hq (Or.inl rfl) W)
    have HB2 := Lib.hid (HB1.out.trans (hb2.mono HB1.out.size))
    clear hq hr hb2
    go_wp2_with fail
    refine (BB.out _).mono ?_
    rintro e w' ⟨rfl, rfl⟩
    go_wp2
    go_ret
    exact ⟨rfl, HB2.out⟩
  | none =>
    have FS := Lib.hid (fun W => fused_none (show FloatKind.f64.format.fma x y z = none from hf) W)
    have HF := Lib.hid hf
    clear hf hx hy hz
    go_enter Tryz.func3, Tryz.ntmps3
    go_wp2_with fail
    refine L.out.mono ?_
    rintro e w1 ⟨rfl, hb1⟩
    have HB1 := Lib.hid hb1
    clear hb1
    go_wp2_with fail
    refine (FS.out _).mono ?_
    rintro e w' ⟨r, hr, rfl, rfl⟩
    have HR := Lib.hid hr
    clear hr
    go_wp2_with fail
    refine (FO.out _).mono ?_
    rintro e w2 ⟨q, rfl, hq, hr, hb2⟩
    have hrq : isN q = true := by
      rcases hr with h | ⟨_, h⟩
      · rw [HF.out] at h; cases h
      · exact h
    have BB := Lib.hid (fun W => bits_calls HR.out.2.2 hq (Or.inr ⟨isNan_isN HR.out, hrq⟩) W)
    have HB2 := Lib.hid (HB1.out.trans (Below.trans (Below.refl _ _).drew (hb2.mono HB1.out.size)))
    clear hq hr hb2 hrq
    go_wp2_with fail
    refine (BB.out _).mono ?_
    rintro e w' ⟨rfl, rfl⟩
    go_wp2
    go_ret
    exact ⟨rfl, HB2.out⟩

end Go.Proofs.YtoefahgookhicaaGreatDoorBesafter
