/- What the walks say of memory: slices of words, whole numbers behind a pointer, fractions. -/
import Derived.Test.YtoefahgookhicaaGreatDoorBesafterProg
import Derived.Test.YtoefahgookhicaaGreatDoorBesafterLawWords
import Derived.WalkKit
import Derived.WalkSpells
import Derived.WalkLawsBesides
import Derived.Lib.Hide
import Derived.BigQuiet
import Derived.Deep.QuietTactic
import Derived.Deep.RegionHeld3
namespace Go.Proofs.YtoefahgookhicaaGreatDoorBesafter
open Go.RowKit

/-- A word as a cell. -/
def u32 (x : Nat) : Value := .int .u32 x

theorem Tryz.info120 : (Tryz.prog.info? 120).map (fun i => (i.zero, i.size, i.bytes)) = some (some (.int .u32 0), 1, 4) := by kernel_rfl

/-- Fewer than L binary digits. -/
def Small (n L : Nat) : Prop := n < 2 ^ L

/-- The slice v owns the words xs. -/
def Row (w : World) (v : Value) (xs : List Nat) : Prop := w.ownsRow 0 120 1 v xs.length (xs.map u32)

/-- The slice v holds the words of n, without a nought at the end. -/
def Limbs (w : World) (v : Value) (n : Nat) : Prop := ∃ xs, Ws xs ∧ Tr xs ∧ val xs = n ∧ Row w v xs

theorem u32_getD (xs : List Nat) (i : Nat) (h : i < xs.length) : (xs.map u32)[i]? = some (.int .u32 (xs.getD i 0)) := by
  rw [List.getElem?_map, List.getElem?_eq_getElem h, List.getD_eq_getElem?_getD, List.getElem?_eq_getElem h]; rfl

theorem Row.open {w : World} {v : Value} {xs : List Nat} (h : Row w v xs) : ∃ ao cap, v = .slice ao xs.length cap ∧ xs.length ≤ cap ∧
    (0 < xs.length → ∃ g, ao = some ⟨g, 0, none⟩ ∧ g < w.heap.size ∧ ∀ j, j < xs.length → w.cell? ⟨g, j, none⟩ = some (.int .u32 (xs.getD j 0))) := by
  have hh := h
  rcases h.2 with ⟨hv, hn⟩ | ⟨g, cap, cur, hv, _, hg, hl, hm, hs, ht⟩
  · exact ⟨none, 0, by rw [hv, hn], by omega, by omega⟩
  · subst hv
    exact ⟨some ⟨g, 0, none⟩, cap, rfl, hl, fun _ => ⟨g, rfl, (Array.getElem?_eq_some_iff.1 hg).1, fun j hj => by
      rw [World.ownsRow.cellAt hh j (by omega)]; exact u32_getD xs j hj⟩⟩

theorem Row.kept {w w' : World} {v : Value} {xs : List Nat} {row : Option Nat} (h : Row w v xs) (hg : w.grownBy w' row) (hne : v.ownBlock = none ∨ v.ownBlock ≠ row) : Row w' v xs :=
  World.ownsRow.kept h hg hne

theorem grownBy_of_below {w w' : World} (h : Below w.heap.size w w') : w.grownBy w' none := ⟨h.os, h.tape, h.output, h.size, fun k hk _ => h.block k hk⟩
theorem below_of_grownBy {w w' : World} (h : w.grownBy w' none) : Below w.heap.size w w' := ⟨h.os, h.tape, h.output, h.size, fun k hk => h.block k hk (by simp)⟩

theorem Row.below {w w' : World} {v : Value} {xs : List Nat} (h : Row w v xs) (hb : Below w.heap.size w w') : Row w' v xs :=
  h.kept (grownBy_of_below hb) (by cases v.ownBlock <;> simp)
theorem Limbs.below {w w' : World} {v : Value} {n : Nat} (h : Limbs w v n) (hb : Below w.heap.size w w') : Limbs w' v n := by
  obtain ⟨xs, a, b, c, d⟩ := h; exact ⟨xs, a, b, c, d.below hb⟩

theorem small_len {xs : List Nat} (ht : Tr xs) (h : Small (val xs) 10000) : xs.length ≤ 320 := by
  by_cases h0 : xs = []
  · subst h0; simp
  · have h1 := val_ge h0 (ht h0)
    rw [pow32] at h1
    have h2 : 2 ^ (32 * (xs.length - 1)) < 2 ^ 10000 := Nat.lt_of_le_of_lt h1 h
    have h3 := (Nat.pow_lt_pow_iff_right (by decide : 1 < 2)).1 h2
    omega

/-- A row of its own, cut at k, holds a number. -/
theorem limbs_of_cut {w : World} {g n cap k base : Nat} {xs : List Nat} (hown : w.ownsRow base 120 1 (.slice (some ⟨g, 0, none⟩) n cap) n (xs.map u32)) (hx : Ws xs) (hk : k ≤ xs.length)
    (hz : ∀ i, k ≤ i → xs.getD i 0 = 0) (hl : 0 < k → xs.getD (k - 1) 0 ≠ 0) : Limbs w (.slice (some ⟨g, 0, none⟩) k cap) (val xs) := by
  have hxl : xs.length = n := by have := hown.1; simpa using this
  refine ⟨xs.take k, hx.take k, Tr.take hk hl, val_take_zeros hk hz, ?_⟩
  rcases hown.2 with ⟨hv, _⟩ | ⟨g', cap', cur, hv, _, hg, hl', hm, hs, ht⟩
  · cases hv
  · simp only [Value.slice.injEq, Option.some.injEq, Addr.mk.injEq, true_and, and_true] at hv
    obtain ⟨rfl, rfl⟩ := hv
    refine ⟨by simp, Or.inr ⟨g, cap, cur, ?_, Nat.zero_le _, hg, ?_, hm, hs, ?_⟩⟩
    · rw [List.length_take, Nat.min_eq_left hk]
    · rw [List.length_take, Nat.min_eq_left hk]; omega
    · rw [List.length_take, Nat.min_eq_left hk, List.map_take, ← ht, List.take_take]; congr 1; omega

theorem made_u32 (n : Nat) : (madeCells (Value.int .u32 0).cells (n * 1)).toList = (List.replicate n 0).map u32 := by
  rw [Nat.mul_one, List.map_replicate]; exact toList_madeCells_one _ _

theorem zeros_set (ys : List Nat) {k n : Nat} (x : Nat) (hy : ys.length = k) (hk : k < n) : (ys ++ List.replicate (n - k) 0).set k x = (ys ++ [x]) ++ List.replicate (n - (k + 1)) 0 := by
  subst hy
  obtain ⟨m, hm⟩ : ∃ m, n - ys.length = m + 1 := ⟨n - ys.length - 1, by omega⟩
  rw [hm, show n - (ys.length + 1) = m by omega, List.set_append_right _ _ (Nat.le_refl _)]
  simp [List.replicate_succ]

/-- The n words xs stand in the new block b, which is as long. -/
def Made (w : World) (base b n : Nat) (xs : List Nat) : Prop := w.ownsRow base 120 1 (.slice (some ⟨b, 0, none⟩) n n) n (xs.map u32)

theorem Made.length {w : World} {base b n : Nat} {xs : List Nat} (h : Made w base b n xs) : xs.length = n := by have := h.1; simpa using this
theorem Made.cell {w : World} {base b n : Nat} {xs : List Nat} (h : Made w base b n xs) (k : Nat) (hk : k < n) : w.cell? ⟨b, k, none⟩ = some (.int .u32 (xs.getD k 0)) := by
  rw [World.ownsRow.cellAt h k (by omega)]; exact u32_getD xs k (by rw [h.length]; exact hk)
theorem Made.frozen {w : World} {base b n : Nat} {xs : List Nat} (h : Made w base b n xs) (k : Nat) : w.frozen? ⟨b, k, none⟩ = false := World.ownsRow.frozenAt h k
theorem Made.set {w : World} {base b n : Nat} {xs : List Nat} (h : Made w base b n xs) (k x : Nat) : Made (w.setCell ⟨b, k, none⟩ (.int .u32 x)) base b n (xs.set k x) := by
  have := World.ownsRow.stored h k (u32 x)
  rw [← List.map_set] at this
  exact this.1
theorem Made.put {w : World} {base b n : Nat} {xs ys : List Nat} (h : Made w base b n xs) (k x : Nat) (v : Value) (hv : v = .int .u32 x) (hy : xs.set k x = ys) : Made (w.setCell ⟨b, k, none⟩ v) base b n ys := by
  subst hv; subst hy; exact h.set k x
theorem Made.kept {w w' : World} {base b n : Nat} {xs : List Nat} {row : Option Nat} (h : Made w base b n xs) (hg : w.grownBy w' row) (hne : row ≠ some b) : Made w' base b n xs :=
  World.ownsRow.kept h hg (Or.inr (by simpa [Value.ownBlock] using fun e => hne e.symm))
theorem Made.drewN {w : World} {base b n : Nat} {xs : List Nat} (h : Made w base b n xs) (k : Nat) : Made (w.drewN k) base b n xs := h
theorem set_drop (qs R : List Nat) {m v : Nat} (hq : qs.length = m) (hm : m < R.length) : (qs ++ R.drop m).set m v = (qs ++ [v]) ++ R.drop (m + 1) := by
  subst hq
  have e := List.drop_eq_getElem_cons hm
  rw [List.set_append_right _ _ (Nat.le_refl _), e, Nat.sub_self, List.set_cons_zero]
  simp
theorem Made.base {w : World} {base b n : Nat} {xs : List Nat} (h : Made w base b n xs) : base ≤ b ∧ b < w.heap.size := World.ownsRow.lt h b rfl
theorem Made.cut {w : World} {base b n k : Nat} {xs : List Nat} (h : Made w base b n xs) (hx : Ws xs) (hk : k ≤ xs.length)
    (hz : ∀ i, k ≤ i → xs.getD i 0 = 0) (hl : 0 < k → xs.getD (k - 1) 0 ≠ 0) : Limbs w (.slice (some ⟨b, 0, none⟩) k n) (val xs) := limbs_of_cut h hx hk hz hl

/-- 'make([]uint32, n)'. -/
theorem wp_make35 (w : World) {ops : Array Oper} {rest : List Oper} {o : Oper} {a : Act} {Q : Exit → Act → World → Prop}
    (hg : o.guard = none) (l c : Operand) (hop : o.op = Op.makeSlice 35 l c) (kl kc : IntKind) (L C : Int) (n : Nat) (hl : a.eval l = .int kl L) (hc : a.eval c = .int kc C) (hL : L = (n : Int)) (hC : C = (n : Int)) (hn : n ≤ 100000)
    (hK : ∀ w', Hid (Made w' w.heap.size w.heap.size n (List.replicate n 0)) → Hid (Below w.heap.size w w') → wpList Tryz.prog ops Q rest (a.put o.dst (.slice (some ⟨w.heap.size, 0, none⟩) n n)) w') :
    wpList Tryz.prog ops Q (o :: rest) a w := by
  obtain ⟨i0, hi, hz0, hz1, hz2⟩ := info_parts Tryz.info120
  refine wpList_make_full w hg l c 35 hop w.heap.size 120 i0 (.int .u32 0) 1 Tryz.underlying35 hi hz0 hz1 kl kc L C n hl hc hL hC (by rw [hz2]; omega) (by unfold maxLen; omega) (Nat.le_refl _) ?_
  intro w' hown hgrow
  rw [made_u32] at hown
  exact hK w' hown ((Below.refl _ _).grown hgrow (Nat.le_refl _) (fun k h => by cases h))

theorem getD_none {xs : List Nat} {i : Nat} (h : xs.length ≤ i) : xs.getD i 0 = 0 := by rw [List.getD_eq_getElem?_getD, List.getElem?_eq_none h]; rfl

/-- Words of a slice whose address is open. -/
theorem words_of {w : World} {v : Value} {xs : List Nat} (h : Row w v xs) : ∃ ao cap, v = .slice ao xs.length cap ∧ Hid (0 < xs.length → ∃ g, ao = some ⟨g, 0, none⟩ ∧ g < w.heap.size ∧ ∀ j, j < xs.length → w.cell? ⟨g, j, none⟩ = some (.int .u32 (xs.getD j 0))) := by
  obtain ⟨ao, cap, hv, _, hc⟩ := h.open
  exact ⟨ao, cap, hv, hc⟩

theorem drewN_ex {w w1 : World} (h : ∃ d, w1 = w.drewN d) (n : Nat) : ∃ d, w1.drewN n = w.drewN d := by
  obtain ⟨d, rfl⟩ := h; exact ⟨d + n, World.drewN_drewN ..⟩
theorem drew_ex {w w1 : World} (h : ∃ d, w1 = w.drewN d) : ∃ d, w1.drew = w.drewN d := by
  obtain ⟨d, rfl⟩ := h; exact ⟨d + 1, rfl⟩

/-- A call that hands back a new number and turns nothing that was. -/
def NewL (w : World) (n : Nat) (e : Ending) (w' : World) : Prop := ∃ v, e = .returned v ∧ Limbs w' v n ∧ Below w.heap.size w w'

end Go.Proofs.YtoefahgookhicaaGreatDoorBesafter
