/- Walk: a slice of words divided by one word: quotient and rest. Condition: below 2^10000; the divisor is not 0. -/
import Derived.Test.YtoefahgookhicaaGreatDoorBesafterBit
namespace Go.Proofs.YtoefahgookhicaaGreatDoorBesafter
open Go.RowKit

/-- 'small' behind the words from k on. -/
def SmInv (A : List Nat) (d k r : Nat) (qs : List Nat) : Prop := qs.length + k = A.length ∧ Ws qs ∧ val qs * d + r = val (A.drop k)
theorem SmInv.out {A : List Nat} {d k r : Nat} {qs : List Nat} (h : SmInv A d k r qs) : qs.length + k = A.length ∧ Ws qs ∧ val qs * d + r = val (A.drop k) := h
theorem SmInv.start (A : List Nat) (d : Nat) : SmInv A d A.length 0 [] := ⟨by simp, Ws.nil, by simp [val]⟩
theorem SmInv.step {A : List Nat} {d k r : Nat} {qs : List Nat} (h : SmInv A d (k + 1) r qs) (x t : Nat) (hx : A.getD k 0 = x) (ht : t = x + 4294967296 * r) (hq : t / d < 4294967296) : SmInv A d k (t % d) (t / d :: qs) := by
  obtain ⟨h1, h2, h3⟩ := h
  refine ⟨by simp only [List.length_cons]; omega, Ws.cons hq h2, ?_⟩
  rw [val_uncons, hx, ← h3, val, Nat.add_mul, Nat.mul_assoc, Nat.mul_add]
  have := Nat.div_add_mod t d
  rw [Nat.mul_comm d] at this
  omega
theorem small_q (x r d : Nat) (hx : x < 4294967296) (hr : r < d) : (x + 4294967296 * r) / d < 4294967296 := by
  apply Nat.div_lt_of_lt_mul
  have : 4294967296 * (r + 1) ≤ d * 4294967296 := by rw [Nat.mul_comm d]; exact Nat.mul_le_mul_left _ hr
  omega

theorem zeros_set_down (qs : List Nat) (k v : Nat) : (List.replicate (k + 1) 0 ++ qs).set k v = List.replicate k 0 ++ v :: qs := by
  rw [List.set_append_left _ _ (by simp), ← List.replicate_append_replicate, List.set_append_right _ _ (by simp)]
  simp

/-- A quotient and a rest, both new. -/
def QrR (w : World) (q r : Nat) (e : Ending) (w' : World) : Prop := ∃ v, e = .returned (.tuple #[v, .int .u32 r]) ∧ Limbs w' v q ∧ Below w.heap.size w w'

set_option maxHeartbeats 1000000 in
set_option maxRecDepth 100000 in
theorem small_any (a : Option Addr) (la ca d : Nat) (A : List Nat) (w : World) (hA : A.length = la) (h1 : la ≤ 320) (wA : Ws A) (hd : 1 ≤ d) (hd2 : d < 4294967296)
    (ha : Hid (0 < la → ∃ g, a = some ⟨g, 0, none⟩ ∧ g < w.heap.size ∧ ∀ j, j < la → w.cell? ⟨g, j, none⟩ = some (.int .u32 (A.getD j 0)))) :
    Calls Tryz.prog 146 #[.slice a la ca, .int .u32 d] w (QrR w (val A / d) (val A % d)) := by
  have HA := Lib.hid hA
  clear hA
  go_enter Tryz.func146, Tryz.ntmps146
  go_wp2_with (at_make; refine wp_make35 _ rfl _ _ rfl _ _ _ _ la rfl rfl ?b3 ?b4 ?b1 ?_)
  case b1 => omega
  case b3 => omega
  case b4 => omega
  intro w0 hown0 hgrow0
  go_wp2
  go_loopw [7, 8] (fun r i wr => ∃ (k rr : Nat) (qs : List Nat), k ≤ la ∧ i = .int .i64 ((k : Int) - 1) ∧ r = .int .u64 rr ∧ rr < d ∧
      Hid (Made wr w.heap.size w.heap.size la (List.replicate k 0 ++ qs)) ∧ SmInv A d k rr qs ∧ Hid (Below w.heap.size w wr))
    (fun _ i _ => (intOf i + 1).toNat)
  case atStart => exact ⟨la, 0, [], Nat.le_refl _, rfl, rfl, by omega, by rw [List.append_nil]; exact hown0, by have := SmInv.start A d; rw [HA.out] at this; exact this, hgrow0⟩
  case round =>
    obtain ⟨k, rr, qs, hk, rfl, rfl, hr, hown, hinv, hbel⟩ := hrel
    by_cases h0 : 0 < k
    · obtain ⟨m, rfl⟩ : ∃ m, k = m + 1 := ⟨k - 1, by omega⟩
      obtain ⟨g, rfl, hg, hca⟩ := ha.out (by omega)
      obtain ⟨x, hx, bx, ga⟩ : ∃ x, Hid (A.getD m 0 = x) ∧ x < 4294967296 ∧ wr.cell? ⟨g, m, none⟩ = some (.int .u32 x) := ⟨_, rfl, wA.getD _, (hbel.out.cell (p := ⟨g, m, none⟩) hg).trans (hca m (by omega))⟩
      have gr := hown.out.cell m (by omega)
      have fr := hown.out.frozen m
      clear hca
      have ho := or_high' x rr bx (by omega)
      have hq := small_q x rr d bx hr
      go_wp2
      exact ⟨⟨m, (x + 4294967296 * rr) % d, (x + 4294967296 * rr) / d :: qs, by omega, rfl, by congr 1, Nat.mod_lt _ (by omega),
        hown.out.put m ((x + 4294967296 * rr) / d) _ (by
          have e : ((x : Int) + 4294967296 * (rr : Int)) / (d : Int) = (((x + 4294967296 * rr) / d : Nat) : Int) := by simp
          rw [e]
          generalize (x + 4294967296 * rr) / d = z at *
          congr 1; omega) (zeros_set_down qs m _), hinv.step x _ hx.out rfl hq, hbel.out.setCell (p := ⟨w.heap.size, m, none⟩) (Nat.le_refl _) _⟩, by simp [intOf]⟩
    · obtain rfl : k = 0 := by omega
      have hm := hown.out
      rw [List.replicate_zero, List.nil_append] at hm
      have HM := Lib.hid hm
      clear hm
      have hval : val qs = val A / d ∧ rr = val A % d := by
        have e := hinv.out.2.2
        rw [List.drop_zero] at e
        rw [← e, Nat.mul_comm, Nat.add_comm]
        constructor
        · rw [Nat.add_mul_div_left _ _ (by omega), Nat.div_eq_of_lt hr, Nat.zero_add]
        · rw [Nat.add_mul_mod_self_left, Nat.mod_eq_of_lt hr]
      have HV := Lib.hid hval
      clear hval
      go_wp2_with fail
      refine (trim_made HM.out hinv.out.2.1 (by omega) HV.out.1).mono ?_
      rintro e w' ⟨v, rfl, hv, rfl⟩
      have HL := Lib.hid hv
      clear hv
      go_wp2
      go_ret2
      refine ⟨v, ?_, HL.out, hbel.out⟩
      rw [← HV.out.2]
      have e : (rr : Int) % 4294967296 = rr := by omega
      first | rfl | (rw [← e]; rfl)

/-- (enclosurebig.small) -/
theorem small_calls {w : World} {va : Value} {m d : Nat} (ha : Limbs w va m) (sa : Small m 10000) (hd : 1 ≤ d) (hd2 : d < 4294967296) : Calls Tryz.prog 146 #[va, .int .u32 d] w (QrR w (m / d) (m % d)) := by
  obtain ⟨A, wA, tA, rfl, rA⟩ := ha
  have hlen := small_len tA sa
  obtain ⟨a, ca, rfl, hA⟩ := words_of rA
  exact small_any a _ ca d A w rfl hlen wA hd hd2 hA

end Go.Proofs.YtoefahgookhicaaGreatDoorBesafter
