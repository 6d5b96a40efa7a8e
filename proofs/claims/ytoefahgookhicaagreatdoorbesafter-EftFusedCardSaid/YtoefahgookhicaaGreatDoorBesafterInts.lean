/- Walk: a whole number behind a pointer: how it lies in memory, and how one is written. -/
import Derived.Test.YtoefahgookhicaaGreatDoorBesafterTrim
namespace Go.Proofs.YtoefahgookhicaaGreatDoorBesafter
open Go.RowKit

/-! What stands behind a pointer to a whole number (its sign, its words), and what a method turns there. -/

/-- At (b, o) there is room for a whole number. -/
def Place (w : World) (b o : Nat) : Prop := ∃ cur t, w.heap[b]? = some (.cells cur t (0, 0)) ∧ t ≠ 120 ∧ o + 1 < cur.size

/-- At (b, o) stands the whole number with the sign s and the size n. -/
def IntAt (w : World) (b o : Nat) (s : Bool) (n : Nat) : Prop := ∃ cur t v, w.heap[b]? = some (.cells cur t (0, 0)) ∧ t ≠ 120 ∧ cur[o]? = some (.bool s) ∧ cur[o + 1]? = some v ∧ Limbs w v n

/-- The whole number at (b, o) has been written; of what was there nothing else has turned. -/
def Wrote (w w' : World) (b o : Nat) (s : Bool) (n : Nat) : Prop := ∃ cur t v, w.heap[b]? = some (.cells cur t (0, 0)) ∧ w'.heap[b]? = some (.cells ((cur.setIfInBounds (o + 1) v).setIfInBounds o (.bool s)) t (0, 0)) ∧ Limbs w' v n ∧ w.grownBy w' (some b)

theorem block_lt {w : World} {b : Nat} {o : Obj} (h : w.heap[b]? = some o) : b < w.heap.size := (Array.getElem?_eq_some_iff.1 h).1

theorem IntAt.place {w : World} {b o : Nat} {s : Bool} {n : Nat} (h : IntAt w b o s n) : Place w b o := by
  obtain ⟨cur, t, v, h1, h2, h3, h4, h5⟩ := h
  exact ⟨cur, t, h1, h2, (Array.getElem?_eq_some_iff.1 h4).1⟩
theorem Place.lt {w : World} {b o : Nat} (h : Place w b o) : b < w.heap.size := by
  obtain ⟨cur, t, h1, _⟩ := h; exact block_lt h1

theorem IntAt.lt {w : World} {b o : Nat} {s : Bool} {n : Nat} (h : IntAt w b o s n) : b < w.heap.size := h.place.lt

/-- The block of a slice of words is no place of a whole number. -/
theorem Row.block_ne {w : World} {v : Value} {xs : List Nat} (h : Row w v xs) {b : Nat} {cur : Array Value} {t : TypeId} (hb : w.heap[b]? = some (.cells cur t (0, 0))) (ht : t ≠ 120) : v.ownBlock = none ∨ v.ownBlock ≠ some b := by
  rcases h.2 with ⟨hv, _⟩ | ⟨g, cap, cur', hv, _, hg, _⟩
  · left; rw [hv]; rfl
  · right
    rw [hv]
    intro e
    have e' : g = b := Option.some.inj e
    subst e'
    rw [hb] at hg
    have := Option.some.inj hg
    simp only [Obj.cells.injEq] at this
    exact ht this.2.1

theorem Limbs.grown {w w' : World} {v : Value} {n b : Nat} {cur : Array Value} {t : TypeId} (h : Limbs w v n) (hg : w.grownBy w' (some b)) (hb : w.heap[b]? = some (.cells cur t (0, 0))) (ht : t ≠ 120) : Limbs w' v n := by
  obtain ⟨xs, a, c, d, r⟩ := h
  exact ⟨xs, a, c, d, r.kept hg (r.block_ne hb ht)⟩

theorem Limbs.wrote {w w' : World} {v : Value} {n m b o : Nat} {s : Bool} (h : Limbs w v n) (hp : Place w b o) (hw : Wrote w w' b o s m) : Limbs w' v n := by
  obtain ⟨cur, t, u, h1, h2, h3, h4⟩ := hw
  obtain ⟨cur', t', e1, e2, _⟩ := hp
  exact h.grown h4 e1 e2

theorem IntAt.below {w w' : World} {b o : Nat} {s : Bool} {n : Nat} (h : IntAt w b o s n) (hb : Below w.heap.size w w') : IntAt w' b o s n := by
  have hl := h.lt
  obtain ⟨cur, t, v, h1, h2, h3, h4, h5⟩ := h
  exact ⟨cur, t, v, (hb.block b hl).trans h1, h2, h3, h4, h5.below hb⟩
theorem Place.below {w w' : World} {b o : Nat} (h : Place w b o) (hb : Below w.heap.size w w') : Place w' b o := by
  have hl := h.lt
  obtain ⟨cur, t, h1, h2⟩ := h
  exact ⟨cur, t, (hb.block b hl).trans h1, h2⟩

theorem Wrote.int {w w' : World} {b o : Nat} {s : Bool} {n : Nat} (hp : Place w b o) (hw : Wrote w w' b o s n) : IntAt w' b o s n := by
  obtain ⟨cur, t, v, h1, h2, h3, h4⟩ := hw
  obtain ⟨cur', t', e1, e2, e3⟩ := hp
  rw [h1] at e1
  have := Option.some.inj e1
  simp only [Obj.cells.injEq] at this
  obtain ⟨rfl, rfl, _⟩ := this
  refine ⟨_, t, v, h2, e2, ?_, ?_, h3⟩
  · rw [Array.getElem?_setIfInBounds_self_of_lt (by simp; omega)]
  · rw [Array.getElem?_setIfInBounds_ne (by omega), Array.getElem?_setIfInBounds_self_of_lt e3]

/-- Another whole number in the same block. -/
theorem IntAt.wrote_beside {w w' : World} {b o o' : Nat} {s s' : Bool} {n m : Nat} (h : IntAt w b o' s' m) (hw : Wrote w w' b o s n) (ho : o' + 2 ≤ o ∨ o + 2 ≤ o') : IntAt w' b o' s' m := by
  obtain ⟨cur', t', v', e1, e2, e3, e4, e5⟩ := h
  obtain ⟨cur, t, v, h1, h2, h3, h4⟩ := hw
  have e5' := e5.grown h4 e1 e2
  rw [h1] at e1
  have := Option.some.inj e1
  simp only [Obj.cells.injEq] at this
  obtain ⟨rfl, rfl, _⟩ := this
  refine ⟨_, t, v', h2, e2, ?_, ?_, e5'⟩
  · rw [Array.getElem?_setIfInBounds_ne (by omega), Array.getElem?_setIfInBounds_ne (by omega)]; exact e3
  · rw [Array.getElem?_setIfInBounds_ne (by omega), Array.getElem?_setIfInBounds_ne (by omega)]; exact e4

/-- A whole number in another block. -/
theorem IntAt.wrote_other {w w' : World} {b b' o o' : Nat} {s s' : Bool} {n m : Nat} (h : IntAt w b' o' s' m) (hp : Place w b o) (hw : Wrote w w' b o s n) (hne : b' ≠ b) : IntAt w' b' o' s' m := by
  have hl := h.lt
  obtain ⟨cur', t', v', e1, e2, e3, e4, e5⟩ := h
  obtain ⟨cur, t, v, h1, h2, h3, h4⟩ := id hw
  exact ⟨cur', t', v', (h4.block b' hl (by simpa using hne)).trans e1, e2, e3, e4, e5.wrote hp hw⟩
theorem Place.wrote {w w' : World} {b b' o o' : Nat} {s : Bool} {n : Nat} (h : Place w b' o') (hw : Wrote w w' b o s n) : Place w' b' o' := by
  have hl := h.lt
  obtain ⟨cur', t', e1, e2, e3⟩ := h
  obtain ⟨cur, t, v, h1, h2, h3, h4⟩ := hw
  by_cases hb : b' = b
  · subst hb
    rw [h1] at e1
    have := Option.some.inj e1
    simp only [Obj.cells.injEq] at this
    obtain ⟨rfl, rfl, _⟩ := this
    exact ⟨_, t, h2, e2, by simpa using e3⟩
  · exact ⟨cur', t', (h4.block b' hl (by simpa using hb)).trans e1, e2, e3⟩
theorem Wrote.grown {w w' : World} {b o : Nat} {s : Bool} {n : Nat} (hw : Wrote w w' b o s n) : w.grownBy w' (some b) := by
  obtain ⟨cur, t, v, h1, h2, h3, h4⟩ := hw; exact h4
theorem Wrote.size {w w' : World} {b o : Nat} {s : Bool} {n : Nat} (hw : Wrote w w' b o s n) : w.heap.size ≤ w'.heap.size := hw.grown.size
/-- The write was into a block from B on. -/
theorem Wrote.below {w w' : World} {b o B : Nat} {s : Bool} {n : Nat} (hw : Wrote w w' b o s n) (hB : B ≤ b) (hs : B ≤ w.heap.size) : Below B w w' :=
  ⟨hw.grown.os, hw.grown.tape, hw.grown.output, hw.grown.size, fun k hk => hw.grown.block k (by omega) (by simp; omega)⟩
/-- New memory ahead of the write. -/
theorem Wrote.after {w w1 w' : World} {b o : Nat} {s : Bool} {n : Nat} (hb : Below w.heap.size w w1) (hl : b < w.heap.size) (hw : Wrote w1 w' b o s n) : Wrote w w' b o s n := by
  obtain ⟨cur, t, v, h1, h2, h3, h4⟩ := hw
  exact ⟨cur, t, v, (hb.block b hl).symm.trans h1, h2, h3, ⟨h4.os.trans hb.os, h4.tape.trans hb.tape, h4.output.trans hb.output, Nat.le_trans hb.size h4.size, fun k hk hne => (h4.block k (Nat.lt_of_lt_of_le hk hb.size) hne).trans (hb.block k hk)⟩⟩

/-- A new block for a whole number. -/
theorem place_new (w : World) (x y : Value) : Place (w.alloc (.cells #[x, y] 37)) w.heap.size 0 := ⟨_, 37, heap_alloc_new w _, by decide, by simp⟩

/-- A method wrote the whole number at (b, o), and hands its pointer back. -/
def PutI (w : World) (b o : Nat) (s : Bool) (n : Nat) (e : Ending) (w' : World) : Prop := e = .returned (.pointer (some ⟨b, o, none⟩)) ∧ Wrote w w' b o s n

theorem Limbs.len {w : World} {v : Value} {n : Nat} (h : Limbs w v n) : ∃ ao l cap, v = .slice ao l cap ∧ (l = 0 ↔ n = 0) ∧ (Small n 10000 → l ≤ 320) := by
  obtain ⟨xs, a, b, rfl, r⟩ := h
  obtain ⟨ao, cap, rfl, _, _⟩ := r.open
  exact ⟨ao, _, cap, rfl, b.length_zero, fun h => small_len b h⟩

set_option maxHeartbeats 400000 in
theorem give_any (b o l cap : Nat) (ao : Option Addr) (s : Bool) (w : World) (x y : Value) (hx : w.cell? ⟨b, o, none⟩ = some x) (hy : w.cell? ⟨b, o + 1, none⟩ = some y) (fx : w.frozen? ⟨b, o, none⟩ = false) (fy : w.frozen? ⟨b, o + 1, none⟩ = false) :
    Calls Tryz.prog 51 #[.pointer (some ⟨b, o, none⟩), .bool s, .slice ao l cap] w fun e w' => e = .returned (.pointer (some ⟨b, o, none⟩)) ∧ w' = (w.setCell ⟨b, o + 1, none⟩ (.slice ao l cap)).setCell ⟨b, o, none⟩ (.bool (s && decide (0 < l))) := by
  cases s
  · go_enter Tryz.func51, Tryz.ntmps51
    go_wp2
    go_ret
    exact ⟨rfl, rfl⟩
  · by_cases hl : 0 < l
    · go_enter Tryz.func51, Tryz.ntmps51
      go_wp2
      go_ret
      exact ⟨rfl, by simp [hl]⟩
    · go_enter Tryz.func51, Tryz.ntmps51
      go_wp2
      go_ret
      exact ⟨rfl, by simp [hl]⟩

/-- Nought has no sign. -/
def nz (s : Bool) (n : Nat) : Bool := s && decide (n ≠ 0)

/-- (enclosurebig.Int.give) -/
theorem give_calls {w : World} {b o n : Nat} {v : Value} (s : Bool) (hp : Place w b o) (hv : Limbs w v n) :
    Calls Tryz.prog 51 #[.pointer (some ⟨b, o, none⟩), .bool s, v] w (PutI w b o (nz s n) n) := by
  unfold nz
  obtain ⟨cur, t, h1, h2, h3⟩ := hp
  obtain ⟨ao, l, cap, rfl, hl, _⟩ := hv.len
  have hx := cell_of_row w b o cur t (0, 0) h1
  have hy := cell_of_row w b (o + 1) cur t (0, 0) h1
  rw [Array.getElem?_eq_getElem (by omega)] at hx
  rw [Array.getElem?_eq_getElem h3] at hy
  refine (give_any b o l cap ao s w _ _ hx hy (frozen_of_row w b o cur t h1) (frozen_of_row w b (o + 1) cur t h1)).mono ?_
  rintro e w' ⟨rfl, rfl⟩
  have g1 := heap_setCell_same w b (o + 1) cur t (.slice ao l cap) h1
  have g2 := heap_setCell_same (w.setCell ⟨b, o + 1, none⟩ (.slice ao l cap)) b o _ t (.bool (s && decide (0 < l))) g1
  have hg : w.grownBy ((w.setCell ⟨b, o + 1, none⟩ (.slice ao l cap)).setCell ⟨b, o, none⟩ (.bool (s && decide (0 < l)))) (some b) :=
    ⟨rfl, rfl, rfl, by simp, fun k hk hne => by
      have hne' : k ≠ b := by simpa using hne
      rw [heap_setCell_other _ _ _ _ (by simpa using hne'), heap_setCell_other _ _ _ _ (by simpa using hne')]⟩
  refine ⟨rfl, cur, t, .slice ao l cap, h1, ?_, hv.grown hg h1 h2, hg⟩
  rw [g2]
  have e : decide (0 < l) = decide (n ≠ 0) := by
    by_cases hn : n = 0
    · rw [hl.2 hn, hn]; rfl
    · have : l ≠ 0 := fun h => hn (hl.1 h)
      simp [hn]; omega
  rw [e]

/-- (enclosurebig.twin) -/
theorem twin_calls {w : World} {va : Value} {n : Nat} (ha : Limbs w va n) (sa : Small n 10000) : Calls Tryz.prog 93 #[va] w (NewL w n) := by
  obtain ⟨i0, hi, hz0, hz1, hz2⟩ := info_parts Tryz.info120
  obtain ⟨A, wA, tA, rfl, rA⟩ := ha
  have hlen := small_len tA sa
  have h0 := World.ownsRow_nil w 0 120 1
  obtain ⟨ao, cap, rfl, _, hc⟩ := rA.open
  by_cases hl : 0 < A.length
  · obtain ⟨g, rfl, hg, hc⟩ := hc hl
    have H0 := Lib.hid h0
    have HC := Lib.hid hc
    clear hc h0
    go_enter Tryz.func93, Tryz.ntmps93
    go_wp2_with (at_builtin; refine wpList_append_own _ rfl _ _ 35 rfl 0 120 i0 (.int .u32 0) 1 4 Tryz.underlying35 hi hz0 hz1 hz2 rfl (by decide) _ 0 [] rfl H0.out ⟨g, 0, none⟩ A.length cap (A.map u32) rfl (by simp) ?c1 ?c2 ?c3 ?c4 (Nat.zero_le _) ?_)
    case c1 =>
      intro j u hu
      have hj : j < A.length := by have := (List.getElem?_eq_some_iff.1 hu).1; simpa using this
      rw [u32_getD A j hj] at hu
      cases hu
      rw [show (⟨g, 0, none⟩ : Addr).add j = ⟨g, j, none⟩ from by unfold Addr.add; split <;> simp_all]
      exact HC.out j hj
    case c2 =>
      intro u hu
      obtain ⟨x, _, rfl⟩ := List.mem_map.1 hu
      rfl
    case c3 => unfold maxLen; omega
    case c4 => omega
    intro v' w' hown hgrow _
    have HO := Lib.hid hown
    have HG := Lib.hid hgrow
    clear hown hgrow
    go_wp2
    go_ret
    exact ⟨v', rfl, ⟨A, wA, tA, rfl, HO.out⟩, below_of_grownBy HG.out⟩
  · have e : A = [] := List.length_eq_zero_iff.1 (by omega)
    subst e
    have hv : (Value.slice ao 0 cap) = .slice none 0 0 ∨ ∃ g, ao = some ⟨g, 0, none⟩ := by
      rcases rA.2 with ⟨h, _⟩ | ⟨g, cap', cur, h, _⟩
      · left; exact h
      · right; simp only [Value.slice.injEq] at h; exact ⟨g, h.1⟩
    clear hc
    rcases hv with hv | ⟨g, rfl⟩
    · simp only [Value.slice.injEq] at hv
      obtain ⟨rfl, _, rfl⟩ := hv
      have H0 := Lib.hid h0
      clear h0
      go_enter Tryz.func93, Tryz.ntmps93
      go_wp2
      go_ret
      exact ⟨_, rfl, ⟨[], wA, tA, rfl, H0.out⟩, Below.refl _ _⟩
    · have H0 := Lib.hid h0
      clear h0
      go_enter Tryz.func93, Tryz.ntmps93
      go_wp2_with (at_builtin; refine wpList_append_own _ rfl _ _ 35 rfl 0 120 i0 (.int .u32 0) 1 4 Tryz.underlying35 hi hz0 hz1 hz2 rfl (by decide) _ 0 [] rfl H0.out ⟨g, 0, none⟩ 0 cap [] rfl (by simp) ?c1 ?c2 ?c3 ?c4 (Nat.zero_le _) ?_)
      case c1 => intro j u hu; simp at hu
      case c2 => intro u hu; cases hu
      case c3 => unfold maxLen; omega
      case c4 => omega
      intro v' w' hown hgrow _
      have HO := Lib.hid hown
      have HG := Lib.hid hgrow
      clear hown hgrow
      go_wp2
      go_ret
      exact ⟨v', rfl, ⟨[], wA, tA, rfl, HO.out⟩, below_of_grownBy HG.out⟩

/-- (enclosurebig.words) -/
theorem words_calls (w : World) (x : Nat) (hx : x < 18446744073709551616) : Calls Tryz.prog 99 #[.int .u64 x] w (NewL w x) := by
  have hm : Made (w.alloc (.cells #[.int .u32 ((x : Int) % 4294967296), .int .u32 ((x : Int) / 4294967296)] 120)) w.heap.size w.heap.size 2 [x % 4294967296, x / 4294967296] := by
    have := World.ownsRow_lit (base := w.heap.size) (e := 120) (size := 1) w #[.int .u32 ((x : Int) % 4294967296), .int .u32 ((x : Int) / 4294967296)] 2 (Nat.le_refl _) (by unfold maxLen; omega) rfl
    exact this
  have HM := Lib.hid hm
  clear hm
  go_enter Tryz.func99, Tryz.ntmps99
  go_wp2_with fail
  refine (trim_made HM.out (Ws.cons (by omega) (Ws.cons (by omega) Ws.nil)) (by omega) (N := x) (by simp only [val]; omega)).mono ?_
  rintro e w' ⟨v, rfl, hv, rfl⟩
  have HL := Lib.hid hv
  clear hv
  go_wp2
  go_ret
  exact ⟨v, rfl, HL.out, (Below.refl _ _).alloc (Nat.le_refl _) _⟩

end Go.Proofs.YtoefahgookhicaaGreatDoorBesafter
