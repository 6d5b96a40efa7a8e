/- Walk: a slice of words shifted to the right. Condition: below 2^10000. -/
import Derived.Test.YtoefahgookhicaaGreatDoorBesafterLeaf
namespace Go.Proofs.YtoefahgookhicaaGreatDoorBesafter
open Go.RowKit

/-- The words from place j on. -/
theorem val_div {A : List Nat} (hA : Ws A) (j : Nat) : val A / 4294967296 ^ j = val (A.drop j) := by
  by_cases h : j ≤ A.length
  · have e := val_drop A j h
    have l := val_lt (hA.take j)
    rw [List.length_take, Nat.min_eq_left h] at l
    rw [e, Nat.add_mul_div_left _ _ (pow32_pos j), Nat.div_eq_of_lt l, Nat.zero_add]
  · rw [List.drop_of_length_le (by omega)]
    have l := val_lt hA
    have : 4294967296 ^ A.length ≤ 4294967296 ^ j := Nat.pow_le_pow_right (by decide) (by omega)
    exact Nat.div_eq_of_lt (by omega)

theorem val_uncons (A : List Nat) (j : Nat) : val (A.drop j) = A.getD j 0 + 4294967296 * val (A.drop (j + 1)) := by
  by_cases h : j < A.length
  · rw [List.drop_eq_getElem_cons h, val, List.getD_eq_getElem?_getD, List.getElem?_eq_getElem h]; rfl
  · rw [List.drop_of_length_le (by omega), List.drop_of_length_le (by omega), getD_none (by omega)]; rfl

/-- After k rounds of 'right', of a number N that is to come out. -/
def RightInv (N k : Nat) (ys : List Nat) : Prop := ys.length = k ∧ Ws ys ∧ val ys = N % 4294967296 ^ k
theorem RightInv.start (N : Nat) : RightInv N 0 [] := ⟨rfl, Ws.nil, by simp [val, Nat.mod_one]⟩
theorem RightInv.out {N k : Nat} {ys : List Nat} (h : RightInv N k ys) : ys.length = k ∧ Ws ys ∧ val ys = N % 4294967296 ^ k := h
theorem RightInv.step {N k : Nat} {ys : List Nat} (h : RightInv N k ys) (v : Nat) (hv : v = N / 4294967296 ^ k % 4294967296) : RightInv N (k + 1) (ys ++ [v]) := by
  obtain ⟨h1, h2, h3⟩ := h
  refine ⟨by simp [h1], h2.append (Ws.cons (by rw [hv]; exact Nat.mod_lt _ (by decide)) Ws.nil), ?_⟩
  rw [val_snoc, h1, h3, hv, Nat.pow_succ, Nat.mod_mul]

/-- A word of 'right'. -/
theorem right_word {A : List Nat} (hA : Ws A) (n k : Nat) : val A / 2 ^ n / 4294967296 ^ k % 4294967296 = (A.getD (k + n / 32) 0 + 4294967296 * A.getD (k + n / 32 + 1) 0) / 2 ^ (n % 32) % 4294967296 := by
  have e0 : 2 ^ n = 4294967296 ^ (n / 32) * 2 ^ (n % 32) := by rw [pow32, ← Nat.pow_add]; congr 1; omega
  rw [e0, Nat.div_div_eq_div_mul, Nat.mul_right_comm, ← Nat.pow_add, ← Nat.div_div_eq_div_mul, Nat.add_comm (n / 32) k, val_div hA, val_uncons, val_uncons A (k + n / 32 + 1)]
  generalize A.getD (k + n / 32) 0 = x
  generalize A.getD (k + n / 32 + 1) 0 = y
  generalize val _ = z
  have hr : n % 32 < 32 := Nat.mod_lt _ (by decide)
  generalize n % 32 = r at *
  have e1 : x + 4294967296 * (y + 4294967296 * z) = (x + 4294967296 * y) + 2 ^ r * (4294967296 * (2 ^ (32 - r) * z)) := by
    have : 2 ^ r * (4294967296 * (2 ^ (32 - r) * z)) = 4294967296 * (4294967296 * z) := by
      rw [show (2 : Nat) ^ r * (4294967296 * (2 ^ (32 - r) * z)) = (2 ^ r * 2 ^ (32 - r)) * (4294967296 * z) by ac_rfl, ← Nat.pow_add, show r + (32 - r) = 32 by omega]
    omega
  rw [e1, Nat.add_mul_div_left _ _ (pow_pos2 r), Nat.add_mul_mod_self_left]

theorem div_cast (x s : Nat) : (x : Int) / 2 ^ s % 4294967296 = ((x / 2 ^ s % 4294967296 : Nat) : Int) := by simp

set_option maxHeartbeats 1000000 in
set_option maxRecDepth 100000 in
theorem right_any (a : Option Addr) (la ca n q s : Nat) (A : List Nat) (w : World) (hA : A.length = la) (h1 : la ≤ 320) (hn : n ≤ 10000) (hq : q < la) (hs : s < 32) (e1 : (n : Int) / 32 = q) (e2 : (n : Int) % 32 = s) (wA : Ws A)
    (ha : Hid (0 < la → ∃ g, a = some ⟨g, 0, none⟩ ∧ g < w.heap.size ∧ ∀ j, j < la → w.cell? ⟨g, j, none⟩ = some (.int .u32 (A.getD j 0)))) :
    Calls Tryz.prog 95 #[.slice a la ca, .int .u64 n] w (NewL w (val A / 2 ^ n)) := by
  have HA := Lib.hid hA
  clear hA
  have en : n / 32 = q ∧ n % 32 = s := by omega
  have EN := Lib.hid en
  clear en
  obtain ⟨g, rfl, hg, hca⟩ := ha.out (by omega)
  have HC := Lib.hid hca
  clear ha hca
  go_enter Tryz.func95, Tryz.ntmps95
  go_wp2_with (at_make; refine wp_make35 _ rfl _ _ rfl _ _ _ _ (la - q) rfl rfl ?b3 ?b4 ?b1 ?_)
  case b1 => omega
  case b3 => omega
  case b4 => omega
  intro w0 hown0 hgrow0
  go_wp2
  clear e1 e2
  go_loopw [8, 9] (fun i _ wr => ∃ (k : Nat) (ys : List Nat), k ≤ la - q ∧ i = .int .i64 k ∧
      Hid (Made wr w.heap.size w.heap.size (la - q) (ys ++ List.replicate (la - q - k) 0)) ∧ RightInv (val A / 2 ^ n) k ys ∧ Hid (Below w.heap.size w wr))
    (fun i _ _ => la - (intOf i).toNat)
  case atStart => exact ⟨0, [], Nat.zero_le _, rfl, hown0, RightInv.start _, hgrow0⟩
  case round =>
    obtain ⟨k, ys, hk, rfl, hown, hinv, hbel⟩ := hrel
    by_cases hlt : k < la - q
    · obtain ⟨x, hx, bx, ga⟩ : ∃ x, Hid (A.getD (k + q) 0 = x) ∧ x < 4294967296 ∧ wr.cell? ⟨g, k + q, none⟩ = some (.int .u32 x) := ⟨_, rfl, wA.getD _, (hbel.out.cell (p := ⟨g, k + q, none⟩) hg).trans (HC.out _ (by omega))⟩
      have gr := hown.out.cell k (by omega)
      have fr := hown.out.frozen k
      by_cases hlb : k + q + 1 < la
      · obtain ⟨y, hy, bY, gb⟩ : ∃ y, Hid (A.getD (k + q + 1) 0 = y) ∧ y < 4294967296 ∧ wr.cell? ⟨g, k + q + 1, none⟩ = some (.int .u32 y) := ⟨_, rfl, wA.getD _, (hbel.out.cell (p := ⟨g, k + q + 1, none⟩) hg).trans (HC.out _ (by omega))⟩
        have ho := or_high x y bx bY
        have HO := Lib.hid ho
        clear ho
        go_wp2
        exact ⟨⟨k + 1, ys ++ [(x + 4294967296 * y) / 2 ^ s % 4294967296], by omega, by go_num,
          hown.out.put k _ _ (by rw [HO.out, div_cast]) (zeros_set ys _ hinv.out.1 (by omega)), hinv.step _ (by rw [right_word wA, EN.out.1, EN.out.2, hx.out, hy.out]), hbel.out.setCell (p := ⟨w.heap.size, k, none⟩) (Nat.le_refl _) _⟩, by simp [intOf]; omega⟩
      · have hy : Hid (A.getD (k + q + 1) 0 = 0) := getD_none (by rw [HA.out]; omega)
        go_wp2
        exact ⟨⟨k + 1, ys ++ [x / 2 ^ s % 4294967296], by omega, by go_num,
          hown.out.put k _ _ (by rw [div_cast]) (zeros_set ys _ hinv.out.1 (by omega)), hinv.step _ (by rw [right_word wA, EN.out.1, EN.out.2, hx.out, hy.out]; rfl), hbel.out.setCell (p := ⟨w.heap.size, k, none⟩) (Nat.le_refl _) _⟩, by simp [intOf]; omega⟩
    · obtain rfl : k = la - q := by omega
      have hm := hown.out
      rw [Nat.sub_self, List.replicate_zero, List.append_nil] at hm
      have HM := Lib.hid hm
      clear hm
      have hval : val ys = val A / 2 ^ n := by
        rw [hinv.out.2.2]
        apply Nat.mod_eq_of_lt
        have l := val_lt wA
        rw [HA.out] at l
        apply Nat.div_lt_of_lt_mul
        refine Nat.lt_of_lt_of_le l ?_
        rw [pow32, pow32, ← Nat.pow_add]
        exact Nat.pow_le_pow_right (by decide) (by have := EN.out; omega)
      have HV := Lib.hid hval
      clear hval
      go_wp2_with fail
      refine (trim_made HM.out hinv.out.2.1 (by omega) HV.out).mono ?_
      rintro e w' ⟨v, rfl, hv, rfl⟩
      have HL := Lib.hid hv
      clear hv
      go_wp2
      go_ret
      exact ⟨v, rfl, HL.out, hbel.out⟩

set_option maxHeartbeats 400000 in
theorem right_none (a : Option Addr) (la ca n q s : Nat) (w : World) (_h1 : la ≤ 320) (hn : n ≤ 10000) (hq : la ≤ q) (e1 : (n : Int) / 32 = q) (e2 : (n : Int) % 32 = s) :
    Calls Tryz.prog 95 #[.slice a la ca, .int .u64 n] w (NewL w 0) := by
  go_enter Tryz.func95, Tryz.ntmps95
  go_wp2
  go_ret
  exact ⟨_, rfl, ⟨[], Ws.nil, Tr.nil, rfl, World.ownsRow_nil w 0 120 1⟩, Below.refl _ _⟩

/-- (enclosurebig.right) -/
theorem right_calls {w : World} {va : Value} {m : Nat} (n : Nat) (ha : Limbs w va m) (sa : Small m 10000) (hn : n ≤ 10000) : Calls Tryz.prog 95 #[va, .int .u64 n] w (NewL w (m / 2 ^ n)) := by
  obtain ⟨A, wA, tA, rfl, rA⟩ := ha
  have hlen := small_len tA sa
  obtain ⟨a, ca, rfl, hA⟩ := words_of rA
  by_cases hl : n / 32 < A.length
  · exact right_any a A.length ca n (n / 32) (n % 32) A w rfl hlen hn hl (by omega) (by omega) (by omega) wA hA
  · have e : val A / 2 ^ n = 0 := by
      have l := val_lt wA
      rw [pow32] at l
      have : (2 : Nat) ^ (32 * A.length) ≤ 2 ^ n := Nat.pow_le_pow_right (by decide) (by omega)
      exact Nat.div_eq_of_lt (by omega)
    rw [e]
    exact right_none a A.length ca n (n / 32) (n % 32) w hlen hn (by omega) (by omega) (by omega)

end Go.Proofs.YtoefahgookhicaaGreatDoorBesafter
