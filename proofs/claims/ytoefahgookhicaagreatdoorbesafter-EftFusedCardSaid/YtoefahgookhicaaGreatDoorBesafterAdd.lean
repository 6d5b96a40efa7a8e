/- Walk: the sum of two slices of words. Condition: each below 2^10000. -/
import Derived.Test.YtoefahgookhicaaGreatDoorBesafterTrim
namespace Go.Proofs.YtoefahgookhicaaGreatDoorBesafter
open Go.RowKit

/-- After k rounds of 'add': what stands in the new row, and the carry. -/
def AddInv (A B : List Nat) (k c : Nat) (ys : List Nat) : Prop := ys.length = k ∧ Ws ys ∧ val ys + 4294967296 ^ k * c = val (A.take k) + val (B.take k)
theorem AddInv.out {A B : List Nat} {k c : Nat} {ys : List Nat} (h : AddInv A B k c ys) : ys.length = k ∧ Ws ys ∧ val ys + 4294967296 ^ k * c = val (A.take k) + val (B.take k) := h
theorem AddInv.start (A B : List Nat) : AddInv A B 0 0 [] := ⟨rfl, Ws.nil, by simp [val]⟩
theorem AddInv.step {A B : List Nat} {k c : Nat} {ys : List Nat} (h : AddInv A B k c ys) (t : Nat) (ht : t = c + A.getD k 0 + B.getD k 0) : AddInv A B (k + 1) (t / 4294967296) (ys ++ [t % 4294967296]) := by
  obtain ⟨h1, h2, h3⟩ := h
  refine ⟨by simp [h1], h2.append (Ws.cons (Nat.mod_lt _ (by decide)) Ws.nil), ?_⟩
  rw [val_snoc, h1, val_take_next A k, val_take_next B k, Nat.pow_succ]
  have e : 4294967296 ^ k * (t % 4294967296) + 4294967296 ^ k * 4294967296 * (t / 4294967296) = 4294967296 ^ k * t := by
    rw [Nat.mul_assoc, ← Nat.mul_add, Nat.mod_add_div]
  rw [ht, Nat.mul_add, Nat.mul_add, ← ht] at e
  omega

set_option maxHeartbeats 1000000 in
set_option maxRecDepth 100000 in
theorem add_ge (a b : Option Addr) (la lb ca cb : Nat) (A B : List Nat) (w : World) (hA : A.length = la) (hB : B.length = lb) (hl : lb ≤ la) (h1 : la ≤ 320) (wA : Ws A) (wB : Ws B)
    (ha : Hid (0 < la → ∃ g, a = some ⟨g, 0, none⟩ ∧ g < w.heap.size ∧ ∀ j, j < la → w.cell? ⟨g, j, none⟩ = some (.int .u32 (A.getD j 0))))
    (hb : Hid (0 < lb → ∃ g, b = some ⟨g, 0, none⟩ ∧ g < w.heap.size ∧ ∀ j, j < lb → w.cell? ⟨g, j, none⟩ = some (.int .u32 (B.getD j 0)))) :
    Calls Tryz.prog 101 #[.slice a la ca, .slice b lb cb] w (NewL w (val A + val B)) := by
  obtain ⟨i0, hi, hz0, hz1, hz2⟩ := info_parts Tryz.info120
  have HA := Lib.hid hA
  have HB := Lib.hid hB
  clear hA hB
  go_enter Tryz.func101, Tryz.ntmps101
  go_wp2_with (at_make; refine wp_make35 _ rfl _ _ rfl _ _ _ _ (la + 1) rfl rfl ?b3 ?b4 ?b1 ?_)
  case b1 => omega
  case b3 => omega
  case b4 => omega
  intro w0 hown0 hgrow0
  go_wp2
  go_loopw [6, 7] (fun c i wr => ∃ (k cc : Nat) (ys : List Nat), k ≤ la ∧ i = .int .i64 k ∧ c = .int .u64 cc ∧ cc ≤ 1 ∧
      Hid (Made wr w.heap.size w.heap.size (la + 1) (ys ++ List.replicate (la + 1 - k) 0)) ∧ AddInv A B k cc ys ∧ Hid (Below w.heap.size w wr))
    (fun _ i _ => la - (intOf i).toNat)
  case atStart => exact ⟨0, 0, [], Nat.zero_le _, rfl, rfl, by omega, hown0, AddInv.start A B, hgrow0⟩
  case round =>
    obtain ⟨k, cc, ys, hk, rfl, rfl, hc, hown, hinv, hbel⟩ := hrel
    by_cases hlt : k < la
    · obtain ⟨g, rfl, hg, hca⟩ := ha.out (by omega)
      obtain ⟨x, hx, bx, ga⟩ : ∃ x, Hid (A.getD k 0 = x) ∧ x < 4294967296 ∧ wr.cell? ⟨g, k, none⟩ = some (.int .u32 x) := ⟨_, rfl, wA.getD k, (hbel.out.cell (p := ⟨g, k, none⟩) hg).trans (hca k hlt)⟩
      have gr := hown.out.cell k (by omega)
      have fr := hown.out.frozen k
      clear hca
      by_cases hlb : k < lb
      · obtain ⟨g', rfl, hg', hcb⟩ := hb.out (by omega)
        obtain ⟨y, hy, bY, gb⟩ : ∃ y, Hid (B.getD k 0 = y) ∧ y < 4294967296 ∧ wr.cell? ⟨g', k, none⟩ = some (.int .u32 y) := ⟨_, rfl, wB.getD k, (hbel.out.cell (p := ⟨g', k, none⟩) hg').trans (hcb k hlb)⟩
        clear hcb
        go_wp2
        exact ⟨⟨k + 1, (cc + x + y) / 4294967296, ys ++ [(cc + x + y) % 4294967296], by omega, by go_num, by congr 1, by omega,
          hown.out.put k _ _ (by congr 1) (zeros_set ys _ hinv.out.1 (by omega)), hinv.step _ (by rw [hx.out, hy.out]), hbel.out.setCell (p := ⟨w.heap.size, k, none⟩) (Nat.le_refl _) _⟩, by simp [intOf]; omega⟩
      · have hy : Hid (B.getD k 0 = 0) := getD_none (by rw [HB.out]; omega)
        go_wp2
        exact ⟨⟨k + 1, (cc + x) / 4294967296, ys ++ [(cc + x) % 4294967296], by omega, by go_num, by congr 1, by omega,
          hown.out.put k _ _ (by congr 1) (zeros_set ys _ hinv.out.1 (by omega)), hinv.step _ (by rw [hx.out, hy.out]; rfl), hbel.out.setCell (p := ⟨w.heap.size, k, none⟩) (Nat.le_refl _) _⟩, by simp [intOf]; omega⟩
    · obtain rfl : k = la := by omega
      have gr := hown.out.cell k (by omega)
      have fr := hown.out.frozen k
      have hm := hown.out.put k cc (.int .u32 cc) rfl (zeros_set ys _ hinv.out.1 (by omega))
      rw [Nat.sub_self, List.replicate_zero, List.append_nil] at hm
      have hb2 := hbel.out.setCell (p := ⟨w.heap.size, k, none⟩) (Nat.le_refl _) (.int .u32 cc)
      have HM := Lib.hid hm
      have HB2 := Lib.hid hb2
      clear hm hb2
      have hval : val (ys ++ [cc]) = val A + val B := by
        rw [val_snoc, hinv.out.1, hinv.out.2.2, val_take_ge A _ (by rw [HA.out]; omega), val_take_ge B _ (by rw [HB.out]; exact hl)]
      have HV := Lib.hid hval
      clear hval
      go_wp2_with fail
      refine (trim_made HM.out (hinv.out.2.1.append (Ws.cons (by omega) Ws.nil)) (by omega) HV.out).mono ?_
      rintro e w' ⟨v, rfl, hv, rfl⟩
      have HL := Lib.hid hv
      clear hv
      go_wp2
      go_ret
      exact ⟨v, rfl, HL.out, HB2.out⟩

set_option maxHeartbeats 1000000 in
set_option maxRecDepth 100000 in
theorem add_lt (a b : Option Addr) (la lb ca cb : Nat) (A B : List Nat) (w : World) (hA : A.length = la) (hB : B.length = lb) (hl : lb < la) (h1 : la ≤ 320) (wA : Ws A) (wB : Ws B)
    (ha : Hid (0 < la → ∃ g, a = some ⟨g, 0, none⟩ ∧ g < w.heap.size ∧ ∀ j, j < la → w.cell? ⟨g, j, none⟩ = some (.int .u32 (A.getD j 0))))
    (hb : Hid (0 < lb → ∃ g, b = some ⟨g, 0, none⟩ ∧ g < w.heap.size ∧ ∀ j, j < lb → w.cell? ⟨g, j, none⟩ = some (.int .u32 (B.getD j 0)))) :
    Calls Tryz.prog 101 #[.slice b lb cb, .slice a la ca] w (NewL w (val A + val B)) := by
  obtain ⟨i0, hi, hz0, hz1, hz2⟩ := info_parts Tryz.info120
  have HA := Lib.hid hA
  have HB := Lib.hid hB
  clear hA hB
  go_enter Tryz.func101, Tryz.ntmps101
  go_wp2_with (at_make; refine wp_make35 _ rfl _ _ rfl _ _ _ _ (la + 1) rfl rfl ?b3 ?b4 ?b1 ?_)
  case b1 => omega
  case b3 => omega
  case b4 => omega
  intro w0 hown0 hgrow0
  go_wp2
  go_loopw [6, 7] (fun c i wr => ∃ (k cc : Nat) (ys : List Nat), k ≤ la ∧ i = .int .i64 k ∧ c = .int .u64 cc ∧ cc ≤ 1 ∧
      Hid (Made wr w.heap.size w.heap.size (la + 1) (ys ++ List.replicate (la + 1 - k) 0)) ∧ AddInv A B k cc ys ∧ Hid (Below w.heap.size w wr))
    (fun _ i _ => la - (intOf i).toNat)
  case atStart => exact ⟨0, 0, [], Nat.zero_le _, rfl, rfl, by omega, hown0, AddInv.start A B, hgrow0⟩
  case round =>
    obtain ⟨k, cc, ys, hk, rfl, rfl, hc, hown, hinv, hbel⟩ := hrel
    by_cases hlt : k < la
    · obtain ⟨g, rfl, hg, hca⟩ := ha.out (by omega)
      obtain ⟨x, hx, bx, ga⟩ : ∃ x, Hid (A.getD k 0 = x) ∧ x < 4294967296 ∧ wr.cell? ⟨g, k, none⟩ = some (.int .u32 x) := ⟨_, rfl, wA.getD k, (hbel.out.cell (p := ⟨g, k, none⟩) hg).trans (hca k hlt)⟩
      have gr := hown.out.cell k (by omega)
      have fr := hown.out.frozen k
      clear hca
      by_cases hlb : k < lb
      · obtain ⟨g', rfl, hg', hcb⟩ := hb.out (by omega)
        obtain ⟨y, hy, bY, gb⟩ : ∃ y, Hid (B.getD k 0 = y) ∧ y < 4294967296 ∧ wr.cell? ⟨g', k, none⟩ = some (.int .u32 y) := ⟨_, rfl, wB.getD k, (hbel.out.cell (p := ⟨g', k, none⟩) hg').trans (hcb k hlb)⟩
        clear hcb
        go_wp2
        exact ⟨⟨k + 1, (cc + x + y) / 4294967296, ys ++ [(cc + x + y) % 4294967296], by omega, by go_num, by congr 1, by omega,
          hown.out.put k _ _ (by congr 1) (zeros_set ys _ hinv.out.1 (by omega)), hinv.step _ (by rw [hx.out, hy.out]), hbel.out.setCell (p := ⟨w.heap.size, k, none⟩) (Nat.le_refl _) _⟩, by simp [intOf]; omega⟩
      · have hy : Hid (B.getD k 0 = 0) := getD_none (by rw [HB.out]; omega)
        go_wp2
        exact ⟨⟨k + 1, (cc + x) / 4294967296, ys ++ [(cc + x) % 4294967296], by omega, by go_num, by congr 1, by omega,
          hown.out.put k _ _ (by congr 1) (zeros_set ys _ hinv.out.1 (by omega)), hinv.step _ (by rw [hx.out, hy.out]; rfl), hbel.out.setCell (p := ⟨w.heap.size, k, none⟩) (Nat.le_refl _) _⟩, by simp [intOf]; omega⟩
    · obtain rfl : k = la := by omega
      have gr := hown.out.cell k (by omega)
      have fr := hown.out.frozen k
      have hm := hown.out.put k cc (.int .u32 cc) rfl (zeros_set ys _ hinv.out.1 (by omega))
      rw [Nat.sub_self, List.replicate_zero, List.append_nil] at hm
      have hb2 := hbel.out.setCell (p := ⟨w.heap.size, k, none⟩) (Nat.le_refl _) (.int .u32 cc)
      have HM := Lib.hid hm
      have HB2 := Lib.hid hb2
      clear hm hb2
      have hval : val (ys ++ [cc]) = val A + val B := by
        rw [val_snoc, hinv.out.1, hinv.out.2.2, val_take_ge A _ (by rw [HA.out]; omega), val_take_ge B _ (by rw [HB.out]; omega)]
      have HV := Lib.hid hval
      clear hval
      go_wp2_with fail
      refine (trim_made HM.out (hinv.out.2.1.append (Ws.cons (by omega) Ws.nil)) (by omega) HV.out).mono ?_
      rintro e w' ⟨v, rfl, hv, rfl⟩
      have HL := Lib.hid hv
      clear hv
      go_wp2
      go_ret
      exact ⟨v, rfl, HL.out, HB2.out⟩

/-- (enclosurebig.add) -/
theorem add_calls {w : World} {va vb : Value} {m n : Nat} (ha : Limbs w va m) (hb : Limbs w vb n) (sa : Small m 10000) (sb : Small n 10000) :
    Calls Tryz.prog 101 #[va, vb] w (NewL w (m + n)) := by
  obtain ⟨A, wA, tA, rfl, rA⟩ := ha
  obtain ⟨B, wB, tB, rfl, rB⟩ := hb
  obtain ⟨a, ca, rfl, hA⟩ := words_of rA
  obtain ⟨b, cb, rfl, hB⟩ := words_of rB
  by_cases h : B.length ≤ A.length
  · exact add_ge a b _ _ ca cb A B w rfl rfl h (small_len tA sa) wA wB hA hB
  · rw [Nat.add_comm]
    exact add_lt b a _ _ cb ca B A w rfl rfl (by omega) (small_len tB sb) wB wA hB hA

end Go.Proofs.YtoefahgookhicaaGreatDoorBesafter
