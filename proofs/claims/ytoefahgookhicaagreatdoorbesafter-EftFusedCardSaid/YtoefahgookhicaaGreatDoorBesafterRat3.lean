/- Walk: the product of two fractions over powers of two. Condition: the parts are below 2^10000. -/
import Derived.Test.YtoefahgookhicaaGreatDoorBesafterRat2
namespace Go.Proofs.YtoefahgookhicaaGreatDoorBesafter
open Go.RowKit

theorem place_new2 (w : World) (o : Obj) (x y : Value) : Place ((w.alloc o).alloc (.cells #[x, y] 37)) (w.heap.size + 1) 0 := by
  have := place_new (w.alloc o) x y
  rw [World.size_alloc] at this
  exact this
theorem place_old (w : World) (o : Obj) (x y : Value) : Place ((w.alloc (.cells #[x, y] 37)).alloc o) w.heap.size 0 := (place_new w x y).below (below_newQ _ _)
theorem below_alloc2 {w w1 : World} (h : Below w.heap.size w w1) (o o' : Obj) : Below w.heap.size w ((w1.alloc o).alloc o') := (h.alloc h.size o).alloc (by have := h.size; simp; omega) o'

/-- What a method that writes a new number leaves. -/
def PutX (w : World) (z : Nat) (s : Bool) (n : Nat) (e : Ending) (w' : World) : Prop :=
  e = .returned (.pointer (some ⟨z, 0, none⟩)) ∧ IntAt w' z 0 s n ∧ Wrote w w' z 0 s n ∧ (∀ b o t m, b ≠ z → IntAt w b o t m → IntAt w' b o t m) ∧ (∀ b o, Place w b o → Place w' b o)
theorem putX {w : World} {z : Nat} {s : Bool} {n : Nat} {e : Ending} {w' : World} (hp : Place w z 0) (h : PutI w z 0 s n e w') : PutX w z s n e w' :=
  ⟨h.1, h.2.int hp, h.2, fun _ _ _ _ hne hi => hi.wrote_other hp h.2 hne, fun _ _ h2 => h2.wrote h.2⟩

theorem grown_below {w w1 w2 : World} {b : Nat} (h : Below w.heap.size w w1) (h2 : w1.grownBy w2 (some b)) : w.grownBy w2 (some b) :=
  ⟨h2.os.trans h.os, h2.tape.trans h.tape, h2.output.trans h.output, Nat.le_trans h.size h2.size, fun j hj hne => (h2.block j (Nat.lt_of_lt_of_le hj h.size) hne).trans (h.block j hj)⟩

set_option maxHeartbeats 4000000 in
set_option maxRecDepth 100000 in
/-- (enclosurebig.Rat.Mul) -/
theorem ratMul_calls {w : World} {b bx by_ m n i j : Nat} {s t : Bool} {x0 x1 x2 x3 : Value} (hz : R4 w b x0 x1 x2 x3) (hx : RatAt w bx s m i) (hy : RatAt w by_ t n j) (sm : Small m 10000) (sn : Small n 10000) (smn : Small (m * n) 10000) (si : Small (2 ^ i) 10000) (sj : Small (2 ^ j) 10000) (sij : Small (2 ^ (i + j)) 10000) (hij : i + j < 10000) :
    Calls Tryz.prog 15 #[.pointer (some ⟨b, 0, none⟩), .pointer (some ⟨bx, 0, none⟩), .pointer (some ⟨by_, 0, none⟩)] w (NormR w b (nz (nz (s != t) (m * n)) (m * n)) (m * n) (i + j)) := by
  have lz := hz.lt
  have lx := hx.lt
  have ly := hy.lt
  have hm1 := fun (W : World) (z : Nat) (hp : Place W z 0) (hb : Below w.heap.size w W) (hl : w.heap.size ≤ z) => (imul_calls hp (hx.below hb).num (hy.below hb).num (by omega) (by omega) sm sn).mono (fun e w' h => putX hp h)
  have hm2 := fun (W : World) (z : Nat) (hp : Place W z 0) (hb : Below w.heap.size w W) (hl : w.heap.size ≤ z) => (imul_calls hp (hx.below hb).den (hy.below hb).den (by omega) (by omega) si sj).mono (fun e w' h => putX hp h)
  have hd1 := fun (W : World) (hb : Below w.heap.size w W) => den_calls (hx.below hb) si
  have hd2 := fun (W : World) (hb : Below w.heap.size w W) => den_calls (hy.below hb) sj
  rw [← Nat.pow_add] at hm2
  have hsf := fun (W : World) (za zb : Nat) (r : Bool) (hb : Below w.heap.size w W) (ia : IntAt W za 0 r (m * n)) (ib : IntAt W zb 0 false (2 ^ (i + j))) => setFrac_calls (hz.below hb) ia ib smn sij hij
  obtain ⟨q, hq⟩ : ∃ q, m * n = q := ⟨_, rfl⟩
  rw [hq] at hm1 hsf ⊢
  obtain ⟨sg, hsg⟩ : ∃ sg, nz (s != t) q = sg := ⟨_, rfl⟩
  rw [hsg] at hm1 ⊢
  have M1 := Lib.hid hm1
  have M2 := Lib.hid hm2
  have D1 := Lib.hid hd1
  have D2 := Lib.hid hd2
  have SF := Lib.hid hsf
  clear hz hx hy sm sn smn si sj sij hm1 hm2 hd1 hd2 hsf hsg hq
  go_enter Tryz.func15, Tryz.ntmps15
  go_wp2_with fail
  go_region_with (first | (go_at_call_of 33 (Value.pointer (some ⟨bx, 0, none⟩)); refine (D1.out _ ?_).mono ?_; (first | exact HB1.out | exact HB1.out.alloc HB1.out.size _); rintro e w' ⟨rfl, rfl⟩) | (go_at_call_of 33 (Value.pointer (some ⟨by_, 0, none⟩)); refine (D2.out _ ?_).mono ?_; (first | exact HB1.out | exact HB1.out.alloc HB1.out.size _); rintro e w' ⟨rfl, rfl⟩) | (go_at_call_of 32 (Value.pointer (some ⟨bx, 0, none⟩)); refine (M1.out _ _ ?_ ?_ ?_).mono ?_; (first | exact place_new _ _ _ | exact place_new2 _ _ _ _ | exact place_old _ _ _ _); (first | exact (Below.refl _ _).drew.alloc (Nat.le_refl _) _ | exact below_alloc2 (Below.refl _ _).drew _ _); omega; rintro e w1 ⟨rfl, hi1, hw1, ht1, hp1⟩; have I1 := Lib.hid hi1; have l1 := hi1.lt; have HB1 := Lib.hid ((by first | exact (Below.refl _ _).drew.alloc (Nat.le_refl _) _ | exact below_alloc2 (Below.refl _ _).drew _ _ : Below w.heap.size w _).trans (hw1.below (B := w.heap.size) (by omega) (by simp <;> omega))); have k1 := HB1.out.size; have HP1 := Lib.hid hp1; clear hi1 hw1 ht1 hp1) | (go_at_call_of 32 (Value.pointer (some ⟨bx, 2, none⟩)); go_loud (refine (M2.out _ _ ?_ ?_ ?_).mono ?_); (first | exact place_new _ _ _ | exact HP1.out _ _ (place_new2 _ _ _ _) | exact HP1.out _ _ (place_old _ _ _ _)); (first | exact HB1.out | exact HB1.out.alloc HB1.out.size _); omega; rintro e w2 ⟨rfl, hi2, hw2, ht2, hp2⟩; have I2 := Lib.hid hi2; have I1' := Lib.hid (by first | exact ht2 _ _ _ _ (by omega) I1.out | exact ht2 _ _ _ _ (by omega) (I1.out.below (below_newQ _ _)) : IntAt w2 _ 0 sg q); have HB2 := Lib.hid (Below.trans (by first | exact HB1.out | exact HB1.out.alloc HB1.out.size _) (hw2.below (B := w.heap.size) (by omega) (by first | exact HB1.out.size | (simp; omega))) : Below w.heap.size w w2); clear hi2 hw2 ht2 hp2) | (go_at_call 31; go_loud (refine (SF.out _ _ _ _ HB2.out I1'.out I2.out).mono ?_); rintro e w3 ⟨n', k', rfl, e1, e2, e3, hr, hg⟩; have E1 := Lib.hid e1; have HR := Lib.hid hr; have HG := Lib.hid hg; have HBB := Lib.hid HB2.out; clear e1 hr hg))
  all_goals
    go_wp2
    go_ret
    exact ⟨n', k', rfl, E1.out, e2, e3, HR.out, grown_below HBB.out HG.out⟩

end Go.Proofs.YtoefahgookhicaaGreatDoorBesafter
