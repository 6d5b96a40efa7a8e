/- Walk: division, its plain cases. Condition: below 2^10000. -/
import Derived.Test.YtoefahgookhicaaGreatDoorBesafterLeft
import Derived.Test.YtoefahgookhicaaGreatDoorBesafterSmall
import Derived.Test.YtoefahgookhicaaGreatDoorBesafterCmp
import Derived.Test.YtoefahgookhicaaGreatDoorBesafterLawDiv
import Derived.Laws.CopyOwn
namespace Go.Proofs.YtoefahgookhicaaGreatDoorBesafter
open Go.RowKit

theorem Tryz.size120 : (Tryz.prog.info? 120).map (·.size) = some 1 := by kernel_rfl

theorem Made.heap {w : World} {base b n : Nat} {xs : List Nat} (h : Made w base b n xs) : base ≤ b ∧ w.heap[b]? = some (.cells (xs.map u32).toArray 120 (0, 0)) ∧ xs.length = n ∧ n ≤ maxLen := by
  have hl := h.length
  rcases h.2 with ⟨hv, _⟩ | ⟨g', cap', cur, hv, hb, hg, hl', hm, hs, ht⟩
  · cases hv
  · simp only [Value.slice.injEq, Option.some.injEq, Addr.mk.injEq, true_and, and_true] at hv
    obtain ⟨rfl, rfl⟩ := hv
    refine ⟨hb, ?_, hl, hm⟩
    rw [hg]
    have e : cur = (xs.map u32).toArray := by
      apply Array.toList_inj.1
      rw [← ht, Nat.mul_one, List.take_of_length_le (by rw [Array.length_toList]; omega)]
    rw [e]

theorem Made.of_heap {w : World} {base b n : Nat} {xs : List Nat} (hb : base ≤ b) (hh : w.heap[b]? = some (.cells (xs.map u32).toArray 120 (0, 0))) (hl : xs.length = n) (hm : n ≤ maxLen) : Made w base b n xs :=
  ⟨by simpa using hl, Or.inr ⟨b, n, _, rfl, hb, hh, Nat.le_refl _, hm, by simp [hl], by rw [List.take_of_length_le (by simp; omega)]⟩⟩

theorem Made.other {w : World} {base b n : Nat} {xs : List Nat} (h : Made w base b n xs) {a : Addr} (ha : a.block ≠ b) (u : Value) : Made (w.setCell a u) base b n xs :=
  ownsRow_setCell_other h (by simp [Value.ownBlock]; exact fun e => ha e.symm) u

/-- 'copy(dst, src)': dst a new row. -/
theorem wp_copy35 (w : World) {ops : Array Oper} {rest : List Oper} {o : Oper} {a : Act} {Q : Exit → Act → World → Prop} (hgd : o.guard = none) (d s : Operand)
    (ho : o.op = .call { callee := .builtin .copy, args := #[d, s], argTypes := #[35, 35] }) (base b n : Nat) (xs ys : List Nat) (v : Value)
    (hd : a.eval d = .slice (some ⟨b, 0, none⟩) n n) (hs : a.eval s = v) (hm : Made w base b n xs) (hr : Row w v ys) (hl : ys.length ≤ n) (B : Nat) (w0 : World) (hb : Below B w0 w) (hB : B ≤ base)
    (hK : ∀ w', Hid (Made w' base b n (ys ++ xs.drop ys.length)) → Hid (Below B w0 w') → wpList Tryz.prog ops Q rest (a.put o.dst (goInt ys.length)) w') : wpList Tryz.prog ops Q (o :: rest) a w := by
  obtain ⟨h1, h2, h3, h4⟩ := hm.heap
  obtain ⟨ao, cap, hv, hc1, hc2⟩ := hr.open
  have e : goInt ys.length = goInt (ys.map u32).length := by rw [List.length_map]
  rw [e] at hK
  subst hv
  refine wpList_copy_splice hgd d s 35 35 ho 120 Tryz.underlying35 Tryz.size120 (some ⟨b, 0, none⟩) ao n n ys.length cap hd hs b 0 (xs.map u32) 120 h2 (ys.map u32) (by rw [List.length_map]; exact (Nat.min_eq_left hl).symm) ?_ (by rw [List.length_map, List.length_map]; omega) ?_ B w0 hb (by omega) ?_
  · intro hp
    obtain ⟨g, rfl, _, hcell⟩ := hc2 (by simpa using hp)
    refine ⟨rfl, _, rfl, fun j u hu => ?_⟩
    have hj : j < ys.length := by have := (List.getElem?_eq_some_iff.1 hu).1; simpa using this
    rw [u32_getD ys j hj] at hu
    cases hu
    rw [show (⟨g, 0, none⟩ : Addr).add j = ⟨g, j, none⟩ from by unfold Addr.add; split <;> simp_all]
    exact hcell j hj
  · intro u hu
    obtain ⟨x, _, rfl⟩ := List.mem_map.1 hu
    rfl
  · intro w' hh hb'
    refine hK w' (Made.of_heap h1 ?_ (by rw [List.length_append, List.length_drop]; omega) h4) hb'
    have := hh.out
    simpa [splice] using this

/-- Quotient and rest, both new. -/
def DivR (w : World) (q r : Nat) (e : Ending) (w' : World) : Prop := ∃ u v, e = .returned (.tuple #[u, v]) ∧ Limbs w' u q ∧ Limbs w' v r ∧ Below w.heap.size w w'

set_option maxHeartbeats 1000000 in
set_option maxRecDepth 100000 in
/-- A dividend that is less. -/
theorem div_less {w : World} {va vb : Value} {m n : Nat} (ha : Limbs w va m) (hb : Limbs w vb n) (_sa : Small m 9000) (sa' : Small m 10000) (sb : Small n 10000) (hn : n ≠ 0) (h : m < n) : Calls Tryz.prog 97 #[va, vb] w (DivR w 0 m) := by
  have hc := cmp_calls ha hb sa' sb
  obtain ⟨ao, l, cap, rfl, hl, hl2⟩ := hb.len
  have z : ((l : Int) == 0) = false := beq_eq_false_iff_ne.2 (by have := hl2 sb; have : l ≠ 0 := fun e => hn (hl.1 e); omega)
  have HA := Lib.hid ha
  have HB := Lib.hid hb
  have HC := Lib.hid hc
  have c3 : cmp3 m n = -1 := if_pos h
  have C3 := Lib.hid c3
  clear c3 hl hl2 ha hb hc
  go_enter Tryz.func97, Tryz.ntmps97
  go_wp2_with fail
  refine HC.out.mono ?_
  rintro e w' ⟨rfl, d, rfl⟩
  rw [C3.out]
  go_wp2_with fail
  refine (twin_calls (w := w.drewN d) HA.out sa').mono ?_
  rintro e w1 ⟨v, rfl, hv, hbl⟩
  have HV := Lib.hid hv
  have HBL := Lib.hid hbl
  clear hv hbl
  go_wp2
  go_ret2
  exact ⟨_, v, rfl, ⟨[], Ws.nil, Tr.nil, rfl, World.ownsRow_nil w1 0 120 1⟩, HV.out, (below_drewN (Below.refl _ _) d).trans HBL.out⟩

end Go.Proofs.YtoefahgookhicaaGreatDoorBesafter
