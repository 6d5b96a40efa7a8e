/- Walk: the difference of two slices of words. Condition: the second is not the greater; below 2^10000. -/
import Derived.Test.YtoefahgookhicaaGreatDoorBesafterTrim
namespace Go.Proofs.YtoefahgookhicaaGreatDoorBesafter
open Go.RowKit

/-- After k rounds of 'sub': what stands in the new row, and what was borrowed. -/
def SubInv (A B : List Nat) (k c : Nat) (ys : List Nat) : Prop := ys.length = k ∧ Ws ys ∧ val ys + val (B.take k) = val (A.take k) + 4294967296 ^ k * c
theorem SubInv.out {A B : List Nat} {k c : Nat} {ys : List Nat} (h : SubInv A B k c ys) : ys.length = k ∧ Ws ys ∧ val ys + val (B.take k) = val (A.take k) + 4294967296 ^ k * c := h
theorem SubInv.start (A B : List Nat) : SubInv A B 0 0 [] := ⟨rfl, Ws.nil, by simp [val]⟩
theorem SubInv.step {A B : List Nat} {k c : Nat} {ys : List Nat} (h : SubInv A B k c ys) (r c' : Nat) (hr : r < 4294967296) (ht : r + c + B.getD k 0 = A.getD k 0 + 4294967296 * c') : SubInv A B (k + 1) c' (ys ++ [r]) := by
  obtain ⟨h1, h2, h3⟩ := h
  refine ⟨by simp [h1], h2.append (Ws.cons hr Ws.nil), ?_⟩
  rw [val_snoc, h1, val_take_next A k, val_take_next B k, Nat.pow_succ]
  have e := congrArg (4294967296 ^ k * ·) ht
  simp only [Nat.mul_add, ← Nat.mul_assoc] at e
  omega

theorem sub_word (x c y : Nat) (hx : x < 4294967296) (hc : c ≤ 1) (hy : y < 4294967296) : ∃ r c' : Nat, r < 4294967296 ∧ c' ≤ 1 ∧ r + c + y = x + 4294967296 * c' ∧
    Hid (IntKind.u64.wrap (IntKind.u64.wrap ((x : Int) - c) - y) / 9223372036854775808 = c') ∧ Hid (IntKind.u64.wrap (IntKind.u64.wrap ((x : Int) - c) - y) % 4294967296 = r) := by
  refine ⟨if c + y ≤ x then x - c - y else x + 4294967296 - c - y, if c + y ≤ x then 0 else 1, ?_, ?_, ?_, ?_, ?_⟩
  · split <;> omega
  · split <;> omega
  · split <;> omega
  · show _ = _
    simp only [IntKind.wrap_u64]; split <;> omega
  · show _ = _
    simp only [IntKind.wrap_u64]; split <;> omega
theorem sub_word0 (x c : Nat) (hx : x < 4294967296) (hc : c ≤ 1) : ∃ r c' : Nat, r < 4294967296 ∧ c' ≤ 1 ∧ r + c + 0 = x + 4294967296 * c' ∧
    Hid (IntKind.u64.wrap ((x : Int) - c) / 9223372036854775808 = c') ∧ Hid (IntKind.u64.wrap ((x : Int) - c) % 4294967296 = r) := by
  refine ⟨if c ≤ x then x - c else x + 4294967296 - c, if c ≤ x then 0 else 1, ?_, ?_, ?_, ?_, ?_⟩
  · split <;> omega
  · split <;> omega
  · split <;> omega
  · show _ = _
    simp only [IntKind.wrap_u64]; split <;> omega
  · show _ = _
    simp only [IntKind.wrap_u64]; split <;> omega

set_option maxHeartbeats 1000000 in
set_option maxRecDepth 100000 in
theorem sub_ge (a b : Option Addr) (la lb ca cb : Nat) (A B : List Nat) (w : World) (hA : A.length = la) (hB : B.length = lb) (h1 : la ≤ 320) (wA : Ws A) (wB : Ws B) (hab : Hid (val B ≤ val A)) (hll : lb ≤ la)
    (ha : Hid (0 < la → ∃ g, a = some ⟨g, 0, none⟩ ∧ g < w.heap.size ∧ ∀ j, j < la → w.cell? ⟨g, j, none⟩ = some (.int .u32 (A.getD j 0))))
    (hb : Hid (0 < lb → ∃ g, b = some ⟨g, 0, none⟩ ∧ g < w.heap.size ∧ ∀ j, j < lb → w.cell? ⟨g, j, none⟩ = some (.int .u32 (B.getD j 0)))) :
    Calls Tryz.prog 103 #[.slice a la ca, .slice b lb cb] w (NewL w (val A - val B)) := by
  have HA := Lib.hid hA
  have HB := Lib.hid hB
  clear hA hB
  go_enter Tryz.func103, Tryz.ntmps103
  go_wp2_with (at_make; refine wp_make35 _ rfl _ _ rfl _ _ _ _ la rfl rfl ?b3 ?b4 ?b1 ?_)
  case b1 => omega
  case b3 => omega
  case b4 => omega
  intro w0 hown0 hgrow0
  go_wp2
  go_loopw [6, 7, 8] (fun c i _ wr => ∃ (k cc : Nat) (ys : List Nat), k ≤ la ∧ i = .int .i64 k ∧ c = .int .u64 cc ∧ cc ≤ 1 ∧
      Hid (Made wr w.heap.size w.heap.size la (ys ++ List.replicate (la - k) 0)) ∧ SubInv A B k cc ys ∧ Hid (Below w.heap.size w wr))
    (fun _ i _ _ => la - (intOf i).toNat)
  case atStart => exact ⟨0, 0, [], Nat.zero_le _, rfl, rfl, by omega, hown0, SubInv.start A B, hgrow0⟩
  case round =>
    obtain ⟨k, cc, ys, hk, rfl, rfl, hc, hown, hinv, hbel⟩ := hrel
    by_cases hlt : k < la
    · obtain ⟨g, rfl, hg, hca⟩ := ha.out (by omega)
      obtain ⟨x, hx, bx, ga⟩ : ∃ x, Hid (A.getD k 0 = x) ∧ x < 4294967296 ∧ wr.cell? ⟨g, k, none⟩ = some (.int .u32 x) := ⟨_, rfl, wA.getD k, (hbel.out.cell (p := ⟨g, k, none⟩) hg).trans (hca k hlt)⟩
      have gr := hown.out.cell k (by omega)
      have fr := hown.out.frozen k
      clear hca
      by_cases hlb : k < lb
      · obtain ⟨g', rfl, hg', hcb⟩ := hb.out (by omega)
        obtain ⟨y, hy, bY, gb⟩ : ∃ y, Hid (B.getD k 0 = y) ∧ y < 4294967296 ∧ wr.cell? ⟨g', k, none⟩ = some (.int .u32 y) := ⟨_, rfl, wB.getD k, (hbel.out.cell (p := ⟨g', k, none⟩) hg').trans (hcb k hlb)⟩
        clear hcb
        obtain ⟨r, c', hr, hc', ht, e1, e2⟩ := sub_word x cc y bx hc bY
        go_wp2
        exact ⟨⟨k + 1, c', ys ++ [r], by omega, by go_num, by rw [e1.out], hc',
          hown.out.put k _ _ (by rw [e2.out]) (zeros_set ys _ hinv.out.1 (by omega)), hinv.step _ _ hr (by rw [hx.out, hy.out]; exact ht), hbel.out.setCell (p := ⟨w.heap.size, k, none⟩) (Nat.le_refl _) _⟩, by simp [intOf]; omega⟩
      · have hy : Hid (B.getD k 0 = 0) := getD_none (by rw [HB.out]; omega)
        obtain ⟨r, c', hr, hc', ht, e1, e2⟩ := sub_word0 x cc bx hc
        go_wp2
        exact ⟨⟨k + 1, c', ys ++ [r], by omega, by go_num, by rw [e1.out], hc',
          hown.out.put k _ _ (by rw [e2.out]) (zeros_set ys _ hinv.out.1 (by omega)), hinv.step _ _ hr (by rw [hx.out, hy.out]; exact ht), hbel.out.setCell (p := ⟨w.heap.size, k, none⟩) (Nat.le_refl _) _⟩, by simp [intOf]; omega⟩
    · obtain rfl : k = la := by omega
      have hm := hown.out
      rw [Nat.sub_self, List.replicate_zero, List.append_nil] at hm
      have HM := Lib.hid hm
      clear hm
      have hval : val ys = val A - val B := by
        have e := hinv.out.2.2
        rw [val_take_ge A _ (by rw [HA.out]; omega), val_take_ge B _ (by rw [HB.out]; exact hll)] at e
        have lt := val_lt hinv.out.2.1
        rw [hinv.out.1] at lt
        have := hab.out
        have : cc = 0 := by
          rcases Nat.eq_zero_or_pos cc with h | h
          · exact h
          · have : cc = 1 := by omega
            subst this; omega
        subst this; omega
      have HV := Lib.hid hval
      clear hval
      go_wp2_with fail
      refine (trim_made HM.out hinv.out.2.1 (by omega) HV.out).mono ?_
      rintro e w' ⟨v, rfl, hv, rfl⟩
      have HL := Lib.hid hv
      clear hv
      go_wp2
      go_ret
      exact ⟨v, rfl, HL.out, hbel.out⟩

/-- (enclosurebig.sub) -/
theorem sub_calls {w : World} {va vb : Value} {m n : Nat} (ha : Limbs w va m) (hb : Limbs w vb n) (sa : Small m 10000) (hmn : n ≤ m) :
    Calls Tryz.prog 103 #[va, vb] w (NewL w (m - n)) := by
  obtain ⟨A, wA, tA, rfl, rA⟩ := ha
  obtain ⟨B, wB, tB, rfl, rB⟩ := hb
  obtain ⟨a, ca, rfl, hA⟩ := words_of rA
  obtain ⟨b, cb, rfl, hB⟩ := words_of rB
  have hl : B.length ≤ A.length := by
    refine Nat.le_of_not_lt fun h => ?_
    have := val_lt_of_length wA tB h
    omega
  exact sub_ge a b _ _ ca cb A B w rfl rfl (small_len tA sa) wA wB hmn hl hA hB

end Go.Proofs.YtoefahgookhicaaGreatDoorBesafter
