/- Walk: the product of two slices of words. Condition: the factors are below 2^10000. -/
import Derived.Test.YtoefahgookhicaaGreatDoorBesafterLeaf
namespace Go.Proofs.YtoefahgookhicaaGreatDoorBesafter
open Go.RowKit

/-- After i rounds of 'mul': the words that stand ahead of the noughts. -/
def MulInv (A B : List Nat) (i : Nat) (ps : List Nat) : Prop := ps.length = B.length + i ∧ Ws ps ∧ val ps = val (A.take i) * val B
theorem MulInv.out {A B : List Nat} {i : Nat} {ps : List Nat} (h : MulInv A B i ps) : ps.length = B.length + i ∧ Ws ps ∧ val ps = val (A.take i) * val B := h
theorem MulInv.start (A B : List Nat) : MulInv A B 0 (List.replicate B.length 0) := ⟨by simp, Ws.zeros _, by simp [val, val_zeros]⟩

/-- In round i, behind j of the inner rounds: qs has taken the place of the first i + j words of ps. -/
def RowInv (B ps : List Nat) (x i j c : Nat) (qs : List Nat) : Prop := qs.length = i + j ∧ Ws qs ∧ val qs + 4294967296 ^ (i + j) * c = val (ps.take (i + j)) + 4294967296 ^ i * (x * val (B.take j))
theorem RowInv.out {B ps : List Nat} {x i j c : Nat} {qs : List Nat} (h : RowInv B ps x i j c qs) : qs.length = i + j ∧ Ws qs ∧ val qs + 4294967296 ^ (i + j) * c = val (ps.take (i + j)) + 4294967296 ^ i * (x * val (B.take j)) := h
theorem RowInv.start (B ps : List Nat) (x i : Nat) (hw : Ws ps) (hi : i ≤ ps.length) : RowInv B ps x i 0 0 (ps.take i) := ⟨by simp [hi], hw.take i, by simp [val]⟩
theorem RowInv.step {B ps : List Nat} {x i j c : Nat} {qs : List Nat} (h : RowInv B ps x i j c qs) (y r t : Nat) (hy : B.getD j 0 = y) (hr : ps.getD (i + j) 0 = r) (ht : t = c + (x * y + r)) :
    RowInv B ps x i (j + 1) (t / 4294967296) (qs ++ [t % 4294967296]) := by
  obtain ⟨h1, h2, h3⟩ := h
  refine ⟨by simp [h1]; omega, h2.append (Ws.cons (Nat.mod_lt _ (by decide)) Ws.nil), ?_⟩
  rw [val_snoc, h1, ← Nat.add_assoc i j 1, val_take_next ps (i + j), val_take_next B j, hy, hr, Nat.pow_succ]
  have e : 4294967296 ^ (i + j) * (t % 4294967296) + 4294967296 ^ (i + j) * 4294967296 * (t / 4294967296) = 4294967296 ^ (i + j) * t := by
    rw [Nat.mul_assoc, ← Nat.mul_add, Nat.mod_add_div]
  have e2 : 4294967296 ^ i * (x * (4294967296 ^ j * y)) = 4294967296 ^ (i + j) * (x * y) := by rw [Nat.pow_add]; ac_rfl
  rw [Nat.mul_add x, Nat.mul_add (4294967296 ^ i), e2]
  rw [ht, Nat.mul_add, Nat.mul_add, ← ht] at e
  omega
theorem MulInv.step {A B : List Nat} {i c x : Nat} {ps qs : List Nat} (h : MulInv A B i ps) (hq : RowInv B ps x i B.length c qs) (hc : c < 4294967296) (hx : A.getD i 0 = x) : MulInv A B (i + 1) (qs ++ [c]) := by
  obtain ⟨h1, h2, h3⟩ := h
  obtain ⟨g1, g2, g3⟩ := hq
  refine ⟨by simp [g1]; omega, g2.append (Ws.cons hc Ws.nil), ?_⟩
  rw [val_snoc, g1, g3, val_take_ge ps _ (by omega), List.take_length, h3, val_take_next A i, hx, Nat.add_mul, Nat.mul_assoc]

theorem mul_bound (c x y r : Nat) (hc : c < 4294967296) (hx : x < 4294967296) (hy : y < 4294967296) (hr : r < 4294967296) : c + (x * y + r) < 18446744073709551616 := by
  have : x * y ≤ 4294967295 * 4294967295 := Nat.mul_le_mul (by omega) (by omega)
  omega

set_option maxHeartbeats 1000000 in
set_option maxRecDepth 100000 in
theorem mul_any (a b : Option Addr) (la lb ca cb : Nat) (A B : List Nat) (w : World) (hA : A.length = la) (hB : B.length = lb) (h1 : la ≤ 320) (h2 : lb ≤ 320) (ha0 : 0 < la) (hb0 : 0 < lb) (wA : Ws A) (wB : Ws B)
    (ha : Hid (0 < la → ∃ g, a = some ⟨g, 0, none⟩ ∧ g < w.heap.size ∧ ∀ j, j < la → w.cell? ⟨g, j, none⟩ = some (.int .u32 (A.getD j 0))))
    (hb : Hid (0 < lb → ∃ g, b = some ⟨g, 0, none⟩ ∧ g < w.heap.size ∧ ∀ j, j < lb → w.cell? ⟨g, j, none⟩ = some (.int .u32 (B.getD j 0)))) :
    Calls Tryz.prog 52 #[.slice a la ca, .slice b lb cb] w (NewL w (val A * val B)) := by
  have HA := Lib.hid hA
  have HB := Lib.hid hB
  clear hA hB
  obtain ⟨g, rfl, hg, hca⟩ := ha.out ha0
  obtain ⟨g', rfl, hg', hcb⟩ := hb.out hb0
  have HC := Lib.hid hca
  have HD := Lib.hid hcb
  clear ha hb hca hcb
  have z1 : ((la : Int) == 0) = false := beq_eq_false_iff_ne.2 (by omega)
  have z2 : ((lb : Int) == 0) = false := beq_eq_false_iff_ne.2 (by omega)
  go_enter Tryz.func52, Tryz.ntmps52
  go_wp2_with (at_make; refine wp_make35 _ rfl _ _ rfl _ _ _ _ (la + lb) rfl rfl ?b3 ?b4 ?b1 ?_)
  case b1 => omega
  case b3 => omega
  case b4 => omega
  intro w0 hown0 hgrow0
  go_wp2
  go_loopw [6, 7, 8] (fun i _ _ wr => ∃ (k : Nat) (ps : List Nat), k ≤ la ∧ i = .int .i64 k ∧
      Hid (Made wr w.heap.size w.heap.size (la + lb) (ps ++ List.replicate (la - k) 0)) ∧ MulInv A B k ps ∧ Hid (Below w.heap.size w wr))
    (fun i _ _ _ => la - (intOf i).toNat)
  case atStart => exact ⟨0, List.replicate lb 0, Nat.zero_le _, rfl, by rw [Nat.add_comm la lb, ← List.replicate_append_replicate] at hown0; rw [Nat.add_comm la lb]; exact hown0, by have := MulInv.start A B; rw [HB.out] at this; exact this, hgrow0⟩
  case round =>
    obtain ⟨k, ps, hk, rfl, hown, hinv, hbel⟩ := hrel
    by_cases hlt : k < la
    · obtain ⟨x, hx, bx, ga⟩ : ∃ x, Hid (A.getD k 0 = x) ∧ x < 4294967296 ∧ w.cell? ⟨g, k, none⟩ = some (.int .u32 x) := ⟨_, rfl, wA.getD _, HC.out _ (by omega)⟩
      go_wp2
      obtain ⟨wo, rfl⟩ : ∃ wo : World, wo = wr := ⟨_, rfl⟩
      go_loopw [7, 8] (fun c j wi => ∃ (l cc : Nat) (qs : List Nat), l ≤ lb ∧ j = .int .i64 l ∧ c = .int .u64 cc ∧ cc < 4294967296 ∧
          Hid (Made wi w.heap.size w.heap.size (la + lb) (qs ++ (ps ++ List.replicate (la - k) 0).drop (k + l))) ∧ RowInv B ps x k l cc qs ∧ Hid (Below w.heap.size w wi))
        (fun _ j _ => lb - (intOf j).toNat)
      case atStart => exact ⟨0, 0, ps.take k, Nat.zero_le _, rfl, rfl, by omega, by
          have := hinv.out.1
          have e : ps.take k ++ (ps ++ List.replicate (la - k) 0).drop (k + 0) = ps ++ List.replicate (la - k) 0 := by
            rw [Nat.add_zero, List.drop_append_of_le_length (by omega), ← List.append_assoc, List.take_append_drop]
          rw [e]; exact hown, RowInv.start B ps x k hinv.out.2.1 (by have := hinv.out.1; omega), hbel⟩
      case round =>
        obtain ⟨l, cc, qs, hl, rfl, rfl, hcc, hown1, hinv1, hbel1⟩ := hrel
        by_cases hlb : l < lb
        · obtain ⟨y, hy, bY, gb⟩ : ∃ y, Hid (B.getD l 0 = y) ∧ y < 4294967296 ∧ wr.cell? ⟨g', l, none⟩ = some (.int .u32 y) := ⟨_, rfl, wB.getD _, (hbel1.out.cell (p := ⟨g', l, none⟩) hg').trans (HD.out _ (by omega))⟩
          have ga1 : wr.cell? ⟨g, k, none⟩ = some (.int .u32 x) := (hbel1.out.cell (p := ⟨g, k, none⟩) hg).trans ga
          obtain ⟨r, hr, br, gr⟩ : ∃ r, Hid (ps.getD (k + l) 0 = r) ∧ r < 4294967296 ∧ wr.cell? ⟨w.heap.size, k + l, none⟩ = some (.int .u32 r) := ⟨_, rfl, hinv.out.2.1.getD _, by
            have e1 := hinv.out.1
            have e2 := HB.out
            have e3 := hinv1.out.1
            rw [hown1.out.cell (k + l) (by omega), List.getD_eq_getElem?_getD, List.getElem?_append_right (by omega), e3, Nat.sub_self, List.getElem?_drop, Nat.add_zero, List.getElem?_append_left (by omega), List.getD_eq_getElem?_getD]⟩
          have fr := hown1.out.frozen (k + l)
          have hbd := mul_bound cc x y r hcc bx bY br
          go_wp2
          go_quiet (fail)
          go_wp2
          exact ⟨⟨l + 1, (cc + (x * y + r)) / 4294967296, qs ++ [(cc + (x * y + r)) % 4294967296], by omega, by go_num, by congr 1, by omega,
            (hown1.out.drewN nq).put (k + l) _ _ (by congr 1) (set_drop qs _ hinv1.out.1 (by have := hinv.out.1; have := HB.out; rw [List.length_append]; omega)), hinv1.step y r _ hy.out hr.out rfl,
            (below_drewN hbel1.out nq).setCell (p := ⟨w.heap.size, k + l, none⟩) (Nat.le_refl _) _⟩, by simp [intOf]; omega⟩
        · obtain rfl : l = lb := by omega
          have e1 := hinv.out.1
          have e2 := HB.out
          have e3 := hinv1.out.1
          have gr : ∃ z, wr.cell? ⟨w.heap.size, k + l, none⟩ = some (.int .u32 z) := ⟨_, hown1.out.cell (k + l) (by omega)⟩
          obtain ⟨z, gr⟩ := gr
          have fr := hown1.out.frozen (k + l)
          have E1 := Lib.hid e1
          have E3 := Lib.hid e3
          clear e1 e2 e3
          go_wp2
          refine ⟨⟨k + 1, qs ++ [cc], by omega, by go_num, ?_, ?_, hbel1.out.setCell (p := ⟨w.heap.size, k + l, none⟩) (Nat.le_refl _) _⟩, by simp [intOf]; omega⟩
          · refine hown1.out.put (k + l) cc _ rfl ?_
            have e1 := E1.out
            have e2 := HB.out
            rw [set_drop qs _ E3.out (by rw [List.length_append, List.length_replicate]; omega)]
            congr 1
            rw [List.drop_append, List.drop_of_length_le (by omega), List.nil_append, List.drop_replicate]
            congr 1; omega
          · have := hinv1; rw [← HB.out] at this; exact hinv.step this hcc hx.out
    · obtain rfl : k = la := by omega
      have hm := hown.out
      rw [Nat.sub_self, List.replicate_zero, List.append_nil] at hm
      have HM := Lib.hid hm
      clear hm
      have hval : val ps = val A * val B := by
        rw [hinv.out.2.2, val_take_ge A _ (by rw [HA.out]; omega)]
      have HV := Lib.hid hval
      clear hval
      go_wp2_with fail
      refine (trim_made HM.out hinv.out.2.1 (by omega) HV.out).mono ?_
      rintro e w' ⟨v, rfl, hv, rfl⟩
      have HL := Lib.hid hv
      clear hv
      go_wp2
      go_ret
      exact ⟨v, rfl, HL.out, hbel.out⟩

set_option maxHeartbeats 400000 in
theorem mul_none (a b : Option Addr) (la lb ca cb : Nat) (w : World) (h1 : la ≤ 320) (h2 : lb ≤ 320) (h : la = 0 ∨ lb = 0) :
    Calls Tryz.prog 52 #[.slice a la ca, .slice b lb cb] w (NewL w 0) := by
  have fin : NewL w 0 (.returned (.slice none 0 0)) w := ⟨_, rfl, ⟨[], Ws.nil, Tr.nil, rfl, World.ownsRow_nil w 0 120 1⟩, Below.refl _ _⟩
  have F := Lib.hid fin
  clear fin
  by_cases h0 : la = 0
  · subst h0
    clear h
    go_enter Tryz.func52, Tryz.ntmps52
    go_wp2
    go_ret
    exact F.out
  · have z1 : ((la : Int) == 0) = false := beq_eq_false_iff_ne.2 (by omega)
    obtain rfl : lb = 0 := by omega
    clear h
    go_enter Tryz.func52, Tryz.ntmps52
    go_wp2
    go_ret
    exact F.out

/-- (enclosurebig.mul) -/
theorem mul_calls {w : World} {va vb : Value} {m n : Nat} (ha : Limbs w va m) (hb : Limbs w vb n) (sa : Small m 10000) (sb : Small n 10000) :
    Calls Tryz.prog 52 #[va, vb] w (NewL w (m * n)) := by
  obtain ⟨A, wA, tA, rfl, rA⟩ := ha
  obtain ⟨B, wB, tB, rfl, rB⟩ := hb
  obtain ⟨a, ca, rfl, hA⟩ := words_of rA
  obtain ⟨b, cb, rfl, hB⟩ := words_of rB
  by_cases h : A.length = 0 ∨ B.length = 0
  · have e : val A * val B = 0 := by
      rcases h with h | h
      · rw [tA.length_zero.1 h, Nat.zero_mul]
      · rw [tB.length_zero.1 h, Nat.mul_zero]
    rw [e]
    exact mul_none a b _ _ ca cb w (small_len tA sa) (small_len tB sb) h
  · exact mul_any a b _ _ ca cb A B w rfl rfl (small_len tA sa) (small_len tB sb) (by omega) (by omega) wA wB hA hB

end Go.Proofs.YtoefahgookhicaaGreatDoorBesafter
