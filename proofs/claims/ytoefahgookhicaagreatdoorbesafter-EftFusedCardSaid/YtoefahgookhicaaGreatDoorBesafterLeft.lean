/- Walk: a slice of words shifted to the left. Condition: the result is below 2^10000. -/
import Derived.Test.YtoefahgookhicaaGreatDoorBesafterLeaf
namespace Go.Proofs.YtoefahgookhicaaGreatDoorBesafter
open Go.RowKit

/-- After k rounds of 'left': the words that stand, and the next one. -/
def LeftInv (A : List Nat) (q s k c : Nat) (ps : List Nat) : Prop := ps.length = q + k ∧ Ws ps ∧ c < 2 ^ s ∧ val ps + 4294967296 ^ (q + k) * c = 4294967296 ^ q * (val (A.take k) * 2 ^ s)
theorem LeftInv.start (A : List Nat) (q s : Nat) : LeftInv A q s 0 0 (List.replicate q 0) := ⟨by simp, Ws.zeros q, pow_pos2 s, by simp [val, val_zeros]⟩
theorem LeftInv.out {A : List Nat} {q s k c : Nat} {ps : List Nat} (h : LeftInv A q s k c ps) : ps.length = q + k ∧ Ws ps ∧ c < 2 ^ s ∧ val ps + 4294967296 ^ (q + k) * c = 4294967296 ^ q * (val (A.take k) * 2 ^ s) := h

theorem or_low (c x s : Nat) (hs : s < 32) (hc : c < 2 ^ s) : c ||| (x * 2 ^ s % 4294967296) = c + x * 2 ^ s % 4294967296 ∧ c + x * 2 ^ s % 4294967296 < 4294967296 := by
  have e : x * 2 ^ s % 4294967296 = 2 ^ s * (x % 2 ^ (32 - s)) := by
    rw [Nat.mul_comm x, show (4294967296 : Nat) = 2 ^ s * 2 ^ (32 - s) by rw [← Nat.pow_add, show s + (32 - s) = 32 by omega], Nat.mul_mod_mul_left]
  have h := Nat.two_pow_add_eq_or_of_lt hc (x % 2 ^ (32 - s))
  rw [e, Nat.or_comm, ← h]
  refine ⟨by omega, ?_⟩
  have h2 : x % 2 ^ (32 - s) + 1 ≤ 2 ^ (32 - s) := Nat.mod_lt _ (pow_pos2 _)
  have h3 := Nat.mul_le_mul_left (2 ^ s) h2
  rw [← Nat.pow_add, show s + (32 - s) = 32 by omega, Nat.mul_succ] at h3
  have : (2 : Nat) ^ 32 = 4294967296 := by decide
  omega

theorem LeftInv.step {A : List Nat} {q s k c : Nat} {ps : List Nat} (h : LeftInv A q s k c ps) (x : Nat) (hs : s < 32) (hx : x < 4294967296) (he : A.getD k 0 = x) :
    LeftInv A q s (k + 1) (x * 2 ^ s / 4294967296) (ps ++ [c + x * 2 ^ s % 4294967296]) := by
  obtain ⟨h1, h2, h3, h4⟩ := h
  refine ⟨by simp [h1]; omega, h2.append (Ws.cons (or_low c x s hs h3).2 Ws.nil), ?_, ?_⟩
  · apply Nat.div_lt_of_lt_mul
    exact Nat.mul_lt_mul_of_pos_right hx (pow_pos2 s)
  · rw [val_snoc, h1, val_take_next A k, he, Nat.add_mul, Nat.mul_add (4294967296 ^ q), ← h4, ← Nat.add_assoc, Nat.pow_succ]
    have e : 4294967296 ^ (q + k) * (x * 2 ^ s % 4294967296) + 4294967296 ^ (q + k) * 4294967296 * (x * 2 ^ s / 4294967296) = 4294967296 ^ q * (4294967296 ^ k * x * 2 ^ s) := by
      rw [Nat.mul_assoc (4294967296 ^ (q + k)), ← Nat.mul_add, Nat.mod_add_div, Nat.pow_add]; ac_rfl
    rw [Nat.mul_add, ← e]
    omega

theorem bits_or_u32_nat (a b : Nat) (ha : a < 4294967296) (hb : b < 4294967296) : bits BinOp.or IntKind.u32 (a : Int) (b : Int) = ((a ||| b : Nat) : Int) := by
  have hx : a ||| b < 2 ^ 32 := Nat.or_lt_two_pow (by omega) (by omega)
  have h1 : (BitVec.ofInt 32 (a : Int)).toNat = a := by
    rw [BitVec.ofInt_natCast, BitVec.toNat_ofNat]; exact Nat.mod_eq_of_lt (by omega)
  have h2 : (BitVec.ofInt 32 (b : Int)).toNat = b := by
    rw [BitVec.ofInt_natCast, BitVec.toNat_ofNat]; exact Nat.mod_eq_of_lt (by omega)
  show IntKind.u32.wrap ((BitVec.ofInt 32 (a : Int) ||| BitVec.ofInt 32 (b : Int)).toNat : Int) = _
  rw [BitVec.toNat_or, h1, h2, IntKind.wrap_u32]
  omega

theorem left_word (c x s : Nat) (hs : s < 32) (hc : c < 2 ^ s) (hx : x < 4294967296) :
    bits BinOp.or IntKind.u32 (c : Int) (IntKind.u64.wrap ((x : Int) * 2 ^ s) % 4294967296) = ((c + x * 2 ^ s % 4294967296 : Nat) : Int) ∧
    bits BinOp.or IntKind.u32 0 (IntKind.u64.wrap ((x : Int) * 2 ^ s) / 4294967296 % 4294967296) = ((x * 2 ^ s / 4294967296 : Nat) : Int) := by
  have hp : (2 : Nat) ^ s ≤ 2 ^ 31 := Nat.pow_le_pow_right (by decide) (by omega)
  have hb : x * 2 ^ s ≤ 4294967295 * 2 ^ 31 := Nat.mul_le_mul (by omega) hp
  have hm : ((x : Int) * 2 ^ s) = ((x * 2 ^ s : Nat) : Int) := by simp
  have ho := or_low c x s hs hc
  rw [hm]
  generalize x * 2 ^ s = t at *
  have hw : IntKind.u64.wrap (t : Int) = t := IntWalk.u64_in _ (by omega)
  rw [hw]
  constructor
  · have := bits_or_u32_nat c (t % 4294967296) (by omega) (by omega)
    rw [show ((t : Int) % 4294967296) = ((t % 4294967296 : Nat) : Int) by omega, this, ho.1]
  · have := bits_or_u32_nat 0 (t / 4294967296) (by omega) (by omega)
    rw [show ((t : Int) / 4294967296 % 4294967296) = ((t / 4294967296 : Nat) : Int) by omega]
    simpa using this

theorem set2 (ps : List Nat) {m n c lo hi : Nat} (hp : ps.length = m) : ((ps ++ c :: List.replicate (n + 1) 0).set m lo).set (m + 1) hi = (ps ++ [lo]) ++ hi :: List.replicate n 0 := by
  subst hp
  rw [List.set_append_right _ _ (Nat.le_refl _), List.set_append_right _ _ (by omega), Nat.sub_self, show ps.length + 1 - ps.length = 1 by omega]
  simp [List.replicate_succ]

set_option maxHeartbeats 1000000 in
set_option maxRecDepth 100000 in
theorem left_any (a : Option Addr) (la ca n q s : Nat) (A : List Nat) (w : World) (hA : A.length = la) (h1 : la ≤ 320) (h0 : 0 < la) (hn : n ≤ 10000) (hq : q ≤ 320) (hs : s < 32) (e1 : (n : Int) / 32 = q) (e2 : (n : Int) % 32 = s) (wA : Ws A)
    (ha : Hid (0 < la → ∃ g, a = some ⟨g, 0, none⟩ ∧ g < w.heap.size ∧ ∀ j, j < la → w.cell? ⟨g, j, none⟩ = some (.int .u32 (A.getD j 0)))) :
    Calls Tryz.prog 100 #[.slice a la ca, .int .u64 n] w (NewL w (4294967296 ^ q * (val A * 2 ^ s))) := by
  have HA := Lib.hid hA
  clear hA
  obtain ⟨g, rfl, hg, hca⟩ := ha.out h0
  have HC := Lib.hid hca
  clear ha hca
  have hz : ((la : Int) == 0) = false := beq_eq_false_iff_ne.2 (by omega)
  go_enter Tryz.func100, Tryz.ntmps100
  go_wp2_with (at_make; refine wp_make35 _ rfl _ _ rfl _ _ _ _ (la + q + 1) rfl rfl ?b3 ?b4 ?b1 ?_)
  case b1 => omega
  case b3 => omega
  case b4 => omega
  intro w0 hown0 hgrow0
  go_wp2
  clear e1 e2
  go_loopw [8, 9] (fun i _ wr => ∃ (k c : Nat) (ps : List Nat), k ≤ la ∧ i = .int .i64 k ∧
      Hid (Made wr w.heap.size w.heap.size (la + q + 1) (ps ++ c :: List.replicate (la - k) 0)) ∧ LeftInv A q s k c ps ∧ Hid (Below w.heap.size w wr))
    (fun i _ _ => la - (intOf i).toNat)
  case atStart => exact ⟨0, 0, List.replicate q 0, Nat.zero_le _, rfl, by rw [show la + q + 1 = q + (la - 0 + 1) by omega, ← List.replicate_append_replicate, List.replicate_succ] at hown0; rw [show la + q + 1 = q + (la - 0 + 1) by omega]; exact hown0, LeftInv.start A q s, hgrow0⟩
  case round =>
    obtain ⟨k, c, ps, hk, rfl, hown, hinv, hbel⟩ := hrel
    by_cases hlt : k < la
    · obtain ⟨x, hx, bx, ga⟩ : ∃ x, Hid (A.getD k 0 = x) ∧ x < 4294967296 ∧ wr.cell? ⟨g, k, none⟩ = some (.int .u32 x) := ⟨_, rfl, wA.getD k, (hbel.out.cell (p := ⟨g, k, none⟩) hg).trans (HC.out k hlt)⟩
      have hc1 : wr.cell? ⟨w.heap.size, k + q, none⟩ = some (.int .u32 c) := by
        rw [hown.out.cell (k + q) (by omega), List.getD_eq_getElem?_getD, List.getElem?_append_right (by rw [hinv.out.1]; omega), hinv.out.1, show k + q - (q + k) = 0 by omega]; rfl
      have hc2 : wr.cell? ⟨w.heap.size, k + q + 1, none⟩ = some (.int .u32 0) := by
        obtain ⟨m, hm⟩ : ∃ m, la - k = m + 1 := ⟨la - k - 1, by omega⟩
        rw [hown.out.cell (k + q + 1) (by omega), List.getD_eq_getElem?_getD, List.getElem?_append_right (by rw [hinv.out.1]; omega), hinv.out.1, show k + q + 1 - (q + k) = 1 by omega, hm]; rfl
      have f1 := hown.out.frozen (k + q)
      have f2 := hown.out.frozen (k + q + 1)
      obtain ⟨w1, w2⟩ := left_word c x s hs hinv.out.2.2.1 bx
      have W1 := Lib.hid w1
      have W2 := Lib.hid w2
      clear w1 w2
      go_wp2
      exact ⟨⟨k + 1, x * 2 ^ s / 4294967296, ps ++ [c + x * 2 ^ s % 4294967296], by omega, by go_num,
        (hown.out.put (k + q) _ _ (by rw [W1.out]) rfl).put (k + q + 1) _ _ (by rw [W2.out]) (by rw [show k + q = q + k by omega, show la - k = la - (k + 1) + 1 by omega]; exact set2 ps hinv.out.1),
        hinv.step x hs bx hx.out, (hbel.out.setCell (p := ⟨w.heap.size, k + q, none⟩) (Nat.le_refl _) _).setCell (p := ⟨w.heap.size, k + q + 1, none⟩) (Nat.le_refl _) _⟩, by simp [intOf]; omega⟩
    · obtain rfl : k = la := by omega
      have hm := hown.out
      rw [Nat.sub_self, List.replicate_zero] at hm
      have HM := Lib.hid hm
      clear hm
      have hval : val (ps ++ [c]) = 4294967296 ^ q * (val A * 2 ^ s) := by
        rw [val_snoc, hinv.out.1, hinv.out.2.2.2, val_take_ge A _ (by rw [HA.out]; omega)]
      have hc : c < 4294967296 := by
        have h3 := hinv.out.2.2.1
        have : (2 : Nat) ^ s ≤ 2 ^ 31 := Nat.pow_le_pow_right (by decide) (by omega)
        omega
      have HV := Lib.hid hval
      clear hval
      go_wp2_with fail
      refine (trim_made HM.out (hinv.out.2.1.append (Ws.cons hc Ws.nil)) (by omega) HV.out).mono ?_
      rintro e w' ⟨v, rfl, hv, rfl⟩
      have HL := Lib.hid hv
      clear hv
      go_wp2
      go_ret
      exact ⟨v, rfl, HL.out, hbel.out⟩

/-- (enclosurebig.left) -/
theorem left_calls {w : World} {va : Value} {m : Nat} (n : Nat) (ha : Limbs w va m) (sa : Small m 10000) (hn : n ≤ 10000) : Calls Tryz.prog 100 #[va, .int .u64 n] w (NewL w (m * 2 ^ n)) := by
  obtain ⟨A, wA, tA, rfl, rA⟩ := ha
  have hlen := small_len tA sa
  have rA' := rA
  obtain ⟨a, ca, rfl, hA⟩ := words_of rA
  by_cases hl : 0 < A.length
  · have := left_any a A.length ca n (n / 32) (n % 32) A w rfl hlen hl hn (by omega) (by omega) (by omega) (by omega) wA hA
    rw [pow32, Nat.mul_comm, Nat.mul_assoc, ← Nat.pow_add, show n % 32 + 32 * (n / 32) = n by omega] at this
    exact this
  · have e : A = [] := List.length_eq_zero_iff.1 (by omega)
    subst e
    clear hA hlen sa
    go_enter Tryz.func100, Tryz.ntmps100
    go_wp2
    go_ret
    refine ⟨_, rfl, ⟨[], wA, tA, by simp [val], World.ownsRow_nil w 0 120 1⟩, Below.refl _ _⟩

end Go.Proofs.YtoefahgookhicaaGreatDoorBesafter
