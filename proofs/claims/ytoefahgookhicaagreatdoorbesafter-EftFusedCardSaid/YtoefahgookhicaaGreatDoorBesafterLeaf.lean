/- Walk: the small methods on slices of words: their length in bits, plain ones. -/
import Derived.Test.YtoefahgookhicaaGreatDoorBesafterInts
import Derived.Test.YtoefahgookhicaaGreatDoorBesafterLawBits
namespace Go.Proofs.YtoefahgookhicaaGreatDoorBesafter
open Go.RowKit

/-- A call that hands back an integer and leaves the world as it is. -/
def SameI (w : World) (n : Int) (e : Ending) (w' : World) : Prop := e = .returned (.int .i64 n) ∧ w = w'

theorem or_high (x y : Nat) (hx : x < 4294967296) (hy : y < 4294967296) : bits BinOp.or IntKind.u64 (x : Int) ((y : Int) * 4294967296) = ((x + 4294967296 * y : Nat) : Int) := by
  have h := bits_or_u64_nat x (y * 4294967296) (by omega) (by omega)
  rw [show ((y : Int) * 4294967296) = ((y * 4294967296 : Nat) : Int) from by omega, h]
  congr 1
  have := Nat.two_pow_add_eq_or_of_lt (i := 32) (b := x) (by omega) y
  rw [Nat.or_comm, Nat.mul_comm y, ← this]; omega
theorem or_high' (x y : Nat) (hx : x < 4294967296) (hy : y < 4294967296) : bits BinOp.or IntKind.u64 ((y : Int) * 4294967296) (x : Int) = ((x + 4294967296 * y : Nat) : Int) := by
  have h := bits_or_u64_nat (y * 4294967296) x (by omega) (by omega)
  rw [show ((y : Int) * 4294967296) = ((y * 4294967296 : Nat) : Int) from by omega, h]
  congr 1
  have := Nat.two_pow_add_eq_or_of_lt (i := 32) (b := x) (by omega) y
  rw [Nat.mul_comm y, ← this]; omega

set_option maxHeartbeats 400000 in
theorem length_any (g l cap x : Nat) (w : World) (hl : 0 < l) (h1 : l ≤ 320) (hx : x < 4294967296) (hc : w.cell? ⟨g, l - 1, none⟩ = some (.int .u32 x)) :
    Calls Tryz.prog 147 #[.slice (some ⟨g, 0, none⟩) l cap] w (SameI w (((l - 1) * 32 + bl x : Nat) : Int)) := by
  go_enter Tryz.func147, Tryz.ntmps147
  go_wp2
  go_loop [3, 4] (fun n t => ∃ k y : Nat, n = .int .i64 k ∧ t = .int .u32 y ∧ y < 4294967296 ∧ k ≤ 32 ∧ Hid (bl y + k = bl x)) (fun _ t => (intOf t).toNat)
  case atStart => exact ⟨0, x, rfl, rfl, hx, by omega, rfl⟩
  case round =>
    obtain ⟨k, y, rfl, rfl, hy, hk, hinv⟩ := hrel
    by_cases h0 : y = 0
    · subst h0
      go_wp2
      go_ret
      refine ⟨?_, rfl⟩
      have e := hinv.out
      rw [bl_zero, Nat.zero_add] at e
      rw [← e]
      show Ending.returned (Value.int .i64 (((l : Int) - 1) * 32 + k)) = _
      congr 2
      omega
    · have ht : ((y : Int) != 0) = true := by rw [bne_iff_ne]; omega
      have hb := bl_half h0
      have hx32 : bl x ≤ 32 := bl_le.2 (by omega)
      have he := hinv.out
      have HB := Lib.hid hb
      have HX := Lib.hid hx32
      have HE := Lib.hid he
      clear hb hx32 he
      go_wp2
      exact ⟨⟨k + 1, y / 2, by go_num, rfl, by omega, by have := HB.out; have := HX.out; have := HE.out; omega, by show _ = _; have := HB.out; have := HE.out; omega⟩, by simp [intOf]; omega⟩

set_option maxHeartbeats 400000 in
theorem plain_any (a : Option Addr) (l cap : Nat) (A : List Nat) (w : World) (hA : A.length = l) (h1 : l ≤ 2) (wA : Ws A)
    (ha : Hid (0 < l → ∃ g, a = some ⟨g, 0, none⟩ ∧ g < w.heap.size ∧ ∀ j, j < l → w.cell? ⟨g, j, none⟩ = some (.int .u32 (A.getD j 0)))) :
    Calls Tryz.prog 145 #[.slice a l cap] w fun e w' => e = .returned (.int .u64 (val A)) ∧ w = w' := by
  have HA := Lib.hid hA
  clear hA
  by_cases h2 : l = 2
  · obtain ⟨g, rfl, hg, hca⟩ := ha.out (by omega)
    obtain ⟨x, hx, bx, ga⟩ : ∃ x, Hid (A.getD 0 0 = x) ∧ x < 4294967296 ∧ w.cell? ⟨g, 0, none⟩ = some (.int .u32 x) := ⟨_, rfl, wA.getD _, hca 0 (by omega)⟩
    obtain ⟨y, hy, bY, gb⟩ : ∃ x, Hid (A.getD 1 0 = x) ∧ x < 4294967296 ∧ w.cell? ⟨g, 1, none⟩ = some (.int .u32 x) := ⟨_, rfl, wA.getD _, hca 1 (by omega)⟩
    clear hca ha hg
    subst h2
    have ho := or_high x y bx bY
    go_enter Tryz.func145, Tryz.ntmps145
    go_wp2
    go_ret
    refine ⟨?_, rfl⟩
    have e : val A = x + 4294967296 * y := by
      have h1 := val_take_next A 1
      have h0 := val_take_next A 0
      rw [val_take_ge A (1 + 1) (by rw [HA.out]; omega), h0, hx.out, hy.out] at h1
      simp [val] at h1; exact h1
    rw [e]
    first | rfl | exact congrArg (fun n => Ending.returned (Value.int .u64 n)) ho
  · by_cases h3 : l = 1
    · obtain ⟨g, rfl, hg, hca⟩ := ha.out (by omega)
      obtain ⟨x, hx, bx, ga⟩ : ∃ x, Hid (A.getD 0 0 = x) ∧ x < 4294967296 ∧ w.cell? ⟨g, 0, none⟩ = some (.int .u32 x) := ⟨_, rfl, wA.getD _, hca 0 (by omega)⟩
      clear hca ha hg
      subst h3
      go_enter Tryz.func145, Tryz.ntmps145
      go_wp2
      go_ret
      refine ⟨?_, rfl⟩
      have e : val A = x := by
        have h0 := val_take_next A 0
        rw [val_take_ge A (0 + 1) (by rw [HA.out]; omega), hx.out] at h0
        simp [val] at h0; exact h0
      rw [e]; rfl
    · have h4 : l = 0 := by omega
      subst h4
      go_enter Tryz.func145, Tryz.ntmps145
      go_wp2
      go_ret
      refine ⟨?_, rfl⟩
      have e : A = [] := List.length_eq_zero_iff.1 HA.out
      rw [e]; rfl

/-- (enclosurebig.length) -/
theorem length_calls {w : World} {va : Value} {n : Nat} (ha : Limbs w va n) (sa : Small n 10000) : Calls Tryz.prog 147 #[va] w (SameI w (bl n)) := by
  obtain ⟨A, wA, tA, rfl, rA⟩ := ha
  have hlen := small_len tA sa
  obtain ⟨a, ca, rfl, hA⟩ := words_of rA
  by_cases hl : 0 < A.length
  · obtain ⟨g, rfl, hg, hc⟩ := hA.out hl
    rw [bl_val wA tA hl]
    exact length_any g A.length ca _ w hl hlen (wA.getD _) (hc _ (by omega))
  · have e : A = [] := List.length_eq_zero_iff.1 (by omega)
    subst e
    clear hA hlen sa
    go_enter Tryz.func147, Tryz.ntmps147
    go_wp2
    go_ret
    exact ⟨rfl, rfl⟩

/-- (enclosurebig.plain) -/
theorem plain_calls {w : World} {va : Value} {n : Nat} (ha : Limbs w va n) (hn : n < 18446744073709551616) : Calls Tryz.prog 145 #[va] w fun e w' => e = .returned (.int .u64 n) ∧ w = w' := by
  obtain ⟨A, wA, tA, rfl, rA⟩ := ha
  obtain ⟨a, ca, rfl, hA⟩ := words_of rA
  refine plain_any a _ ca A w rfl ?_ wA hA
  by_cases h0 : A = []
  · subst h0; simp
  · have := val_ge h0 (tA h0)
    refine Nat.le_of_not_lt fun h => ?_
    have h2 : 4294967296 ^ 2 ≤ 4294967296 ^ (A.length - 1) := Nat.pow_le_pow_right (by decide) (by omega)
    omega

end Go.Proofs.YtoefahgookhicaaGreatDoorBesafter
