/- Walk: one bit of a slice of words, and how often two divides it. Condition: below 2^10000. -/
import Derived.Test.YtoefahgookhicaaGreatDoorBesafterRight
namespace Go.Proofs.YtoefahgookhicaaGreatDoorBesafter
open Go.RowKit

/-- .. an unsigned one. -/
def SameU (w : World) (n : Int) (e : Ending) (w' : World) : Prop := e = .returned (.int .u64 n) ∧ w = w'

theorem bit_word {A : List Nat} (hA : Ws A) (i : Nat) : val A / 2 ^ i % 2 = A.getD (i / 32) 0 / 2 ^ (i % 32) % 2 := by
  have e0 : 2 ^ i = 4294967296 ^ (i / 32) * 2 ^ (i % 32) := by rw [pow32, ← Nat.pow_add]; congr 1; omega
  rw [e0, ← Nat.div_div_eq_div_mul, val_div hA, val_uncons]
  generalize A.getD (i / 32) 0 = x
  generalize val _ = z
  have hr : i % 32 < 32 := Nat.mod_lt _ (by decide)
  generalize i % 32 = r at *
  have e1 : x + 4294967296 * z = x + 2 ^ r * (2 * (2 ^ (31 - r) * z)) := by
    have : (2 : Nat) ^ r * (2 * (2 ^ (31 - r) * z)) = 4294967296 * z := by
      rw [show (2 : Nat) ^ r * (2 * (2 ^ (31 - r) * z)) = (2 ^ r * 2 ^ (31 - r)) * (2 * z) by ac_rfl, ← Nat.pow_add, show r + (31 - r) = 31 by omega]
      omega
    omega
  rw [e1, Nat.add_mul_div_left _ _ (pow_pos2 r), Nat.add_mul_mod_self_left]

theorem and_one (x s : Nat) (hx : x < 4294967296) : bits BinOp.and IntKind.u64 (IntKind.u64.wrap ((x : Int) / 2 ^ s)) 1 = ((x / 2 ^ s % 2 : Nat) : Int) := by
  have h : x / 2 ^ s ≤ x := Nat.div_le_self _ _
  have e : ((x : Int) / 2 ^ s) = ((x / 2 ^ s : Nat) : Int) := by simp
  rw [e]
  generalize x / 2 ^ s = y at *
  have hw : IntKind.u64.wrap (y : Int) = y := IntWalk.u64_in _ (by omega)
  rw [hw, and_one_u64 _ (by omega) (by omega)]
  omega

set_option maxHeartbeats 400000 in
theorem bit_any (g l cap n q s x : Nat) (w : World) (h1 : l ≤ 320) (hn : n ≤ 20000) (hq : q < l) (hs : s < 32) (e1 : (n : Int) / 32 = q) (e2 : (n : Int) % 32 = s) (hx : x < 4294967296) (hc : w.cell? ⟨g, q, none⟩ = some (.int .u32 x)) :
    Calls Tryz.prog 148 #[.slice (some ⟨g, 0, none⟩) l cap, .int .i64 n] w (SameU w ((x / 2 ^ s % 2 : Nat) : Int)) := by
  have ha := and_one x s hx
  have HA := Lib.hid ha
  clear ha
  go_enter Tryz.func148, Tryz.ntmps148
  go_wp2
  go_ret
  refine ⟨?_, rfl⟩
  rw [← HA.out]; rfl

set_option maxHeartbeats 400000 in
theorem bit_none (a : Option Addr) (l cap n q : Nat) (w : World) (_h1 : l ≤ 320) (hn : n ≤ 20000) (hq : l ≤ q) (e1 : (n : Int) / 32 = q) :
    Calls Tryz.prog 148 #[.slice a l cap, .int .i64 n] w (SameU w 0) := by
  go_enter Tryz.func148, Tryz.ntmps148
  go_wp2
  go_ret
  exact ⟨rfl, rfl⟩

/-- (enclosurebig.bit) -/
theorem bit_calls {w : World} {va : Value} {m : Nat} (n : Nat) (ha : Limbs w va m) (sa : Small m 10000) (hn : n ≤ 20000) : Calls Tryz.prog 148 #[va, .int .i64 n] w (SameU w ((m / 2 ^ n % 2 : Nat) : Int)) := by
  obtain ⟨A, wA, tA, rfl, rA⟩ := ha
  have hlen := small_len tA sa
  obtain ⟨a, ca, rfl, hA⟩ := words_of rA
  rw [bit_word wA]
  by_cases hl : n / 32 < A.length
  · obtain ⟨g, rfl, hg, hc⟩ := hA.out (by omega)
    exact bit_any g A.length ca n (n / 32) (n % 32) _ w hlen hn hl (by omega) (by omega) (by omega) (wA.getD _) (hc _ hl)
  · rw [getD_none (by omega), Nat.zero_div]
    exact bit_none a A.length ca n (n / 32) w hlen hn (by omega) (by omega)

/-! 'twos' -/

/-- 2^t divides n, and no higher power does. -/
def Twos (n t : Nat) : Prop := ∃ m, n = 2 ^ t * (2 * m + 1)
def TwosR (w : World) (n : Nat) (e : Ending) (w' : World) : Prop := ∃ t : Nat, Twos n t ∧ t < 20000 ∧ e = .returned (.int .u64 t) ∧ w = w'

theorem twos_word {x j y z k : Nat} (hxy : x = y * 2 ^ j) (hj : j < 32) (hy : y % 2 = 1) : Twos (4294967296 ^ k * (x + 4294967296 * z)) (32 * k + j) := by
  refine ⟨y / 2 + 2 ^ (31 - j) * z, ?_⟩
  have e1 : 4294967296 * z = 2 ^ j * (2 * (2 ^ (31 - j) * z)) := by
    rw [show (2 : Nat) ^ j * (2 * (2 ^ (31 - j) * z)) = (2 ^ j * 2 ^ (31 - j)) * (2 * z) by ac_rfl, ← Nat.pow_add, show j + (31 - j) = 31 by omega]
    omega
  rw [e1, hxy, pow32, Nat.pow_add, Nat.mul_comm y, ← Nat.mul_add, ← Nat.mul_assoc]
  congr 1
  rw [Nat.mul_add]
  omega

theorem and_one32 (y : Nat) (hy : y < 4294967296) : bits BinOp.and IntKind.u32 (y : Int) 1 = ((y % 2 : Nat) : Int) := by
  have hx : y &&& 1 < 2 ^ 32 := Nat.lt_of_le_of_lt Nat.and_le_left (by omega)
  have h1 : (BitVec.ofInt 32 (y : Int)).toNat = y := by
    rw [BitVec.ofInt_natCast, BitVec.toNat_ofNat]; exact Nat.mod_eq_of_lt (by omega)
  show IntKind.u32.wrap ((BitVec.ofInt 32 (y : Int) &&& BitVec.ofInt 32 1).toNat : Int) = _
  rw [BitVec.toNat_and, h1, IntKind.wrap_u32, show (BitVec.ofInt 32 1).toNat = 1 from rfl, Nat.and_one_is_mod]
  omega

set_option maxHeartbeats 1000000 in
theorem twos_any (g l cap : Nat) (A : List Nat) (w : World) (hA : A.length = l) (h1 : l ≤ 320) (h0 : 0 < l) (wA : Ws A) (tA : Tr A)
    (hc : Hid (∀ j, j < l → w.cell? ⟨g, j, none⟩ = some (.int .u32 (A.getD j 0)))) :
    Calls Tryz.prog 94 #[.slice (some ⟨g, 0, none⟩) l cap] w (TwosR w (val A)) := by
  have HA := Lib.hid hA
  clear hA
  go_enter Tryz.func94, Tryz.ntmps94
  go_wp2
  go_loop [3, 4] (fun n i => ∃ k : Nat, k < l ∧ n = .int .u64 ((32 * k : Nat) : Int) ∧ i = .int .i64 k ∧ Hid (∀ j, j < k → A.getD j 0 = 0)) (fun _ i => l - (intOf i).toNat)
  case atStart => exact ⟨0, h0, rfl, rfl, fun j hj => by omega⟩
  case round =>
    obtain ⟨k, hk, rfl, rfl, hinv⟩ := hrel
    obtain ⟨x, hx, bx, ga⟩ : ∃ x, Hid (A.getD k 0 = x) ∧ x < 4294967296 ∧ w.cell? ⟨g, k, none⟩ = some (.int .u32 x) := ⟨_, rfl, wA.getD _, hc.out k hk⟩
    by_cases hx0 : x = 0
    · have ht : ((x : Int) == 0) = true := beq_iff_eq.2 (by omega)
      have hk1 : k + 1 < l := by
        refine Nat.lt_of_not_le fun hge => ?_
        have hne : A ≠ [] := by intro e; have := HA.out; rw [e] at this; simp at this; omega
        have h2 := tA hne
        rw [List.getLast_eq_getElem] at h2
        have h3 := hx.out
        have h4 := HA.out
        have e : A.length - 1 = k := by omega
        rw [List.getD_eq_getElem?_getD, List.getElem?_eq_getElem (by omega : k < A.length)] at h3
        simp only [e] at h2
        exact h2 (h3.trans hx0)
      go_wp2
      refine ⟨⟨k + 1, hk1, rfl, by go_num, fun j hj => ?_⟩, by simp [intOf]; omega⟩
      by_cases hjk : j = k
      · rw [hjk, hx.out, hx0]
      · exact hinv.out j (by omega)
    · have ht : ((x : Int) == 0) = false := beq_eq_false_iff_ne.2 (by omega)
      go_wp2
      go_loop [3, 5] (fun n v => ∃ j y : Nat, j < 32 ∧ y ≠ 0 ∧ y ≤ x ∧ n = .int .u64 ((32 * k + j : Nat) : Int) ∧ v = .int .u32 y ∧ Hid (x = y * 2 ^ j)) (fun _ v => (intOf v).toNat)
      case atStart => exact ⟨0, x, by omega, hx0, Nat.le_refl _, rfl, rfl, by show _ = _; simp⟩
      case round =>
        obtain ⟨j, y, hj, hy0, hyx, rfl, rfl, hxy⟩ := hrel
        have hb := and_one32 y (by omega)
        by_cases hev : y % 2 = 0
        · have ht1 : (bits BinOp.and IntKind.u32 (y : Int) 1 == 0) = true := by rw [hb]; exact beq_iff_eq.2 (by omega)
          have hxy2 : x = y / 2 * 2 ^ (j + 1) := by rw [Nat.pow_succ, hxy.out, Nat.mul_comm (2 ^ j), ← Nat.mul_assoc, show y / 2 * 2 = y by omega]
          have hj1 : j + 1 < 32 := by
            refine Nat.lt_of_not_le fun hge => ?_
            have h2 : 2 ^ 32 ≤ 2 ^ (j + 1) := Nat.pow_le_pow_right (by decide) hge
            have h3 : 1 * 2 ^ (j + 1) ≤ y / 2 * 2 ^ (j + 1) := Nat.mul_le_mul_right _ (by omega)
            omega
          have HX := Lib.hid hxy2
          clear hxy2 hb
          go_wp2
          exact ⟨⟨j + 1, y / 2, hj1, by omega, by omega, rfl, by congr 1, HX.out⟩, by simp [intOf]; omega⟩
        · have ht1 : (bits BinOp.and IntKind.u32 (y : Int) 1 == 0) = false := by rw [hb]; exact beq_eq_false_iff_ne.2 (by omega)
          clear hb
          go_wp2
          go_ret
          refine ⟨32 * k + j, ?_, by omega, rfl, rfl⟩
          have e : val A = 4294967296 ^ k * (x + 4294967296 * val (A.drop (k + 1))) := by
            have h4 := HA.out
            rw [val_drop A k (by omega), val_uncons, hx.out]
            have : val (A.take k) = 0 := by
              have := val_take_zeros (a := A.take k) (n := 0) (by omega) (fun i _ => by
                by_cases hi : i < k
                · rw [List.getD_eq_getElem?_getD, List.getElem?_take_of_lt hi, ← List.getD_eq_getElem?_getD]; exact hinv.out i hi
                · exact getD_none (by rw [List.length_take]; omega))
              rw [← this]; rfl
            rw [this, Nat.zero_add]
          rw [e]
          exact twos_word hxy.out hj (by omega)

/-- (enclosurebig.twos) -/
theorem twos_calls {w : World} {va : Value} {m : Nat} (ha : Limbs w va m) (sa : Small m 10000) (hm : m ≠ 0) : Calls Tryz.prog 94 #[va] w (TwosR w m) := by
  obtain ⟨A, wA, tA, rfl, rA⟩ := ha
  have hlen := small_len tA sa
  obtain ⟨a, ca, rfl, hA⟩ := words_of rA
  have hl : 0 < A.length := Nat.pos_of_ne_zero fun h => hm (tA.length_zero.1 h)
  obtain ⟨g, rfl, hg, hc⟩ := hA.out hl
  refine (twos_any g A.length ca A w rfl hlen hl wA tA hc).mono ?_
  exact fun e w' h => h

end Go.Proofs.YtoefahgookhicaaGreatDoorBesafter
