import Derived.Test.YtoefahgookhicaaGreatDoorBesafterRat3
namespace Go.Proofs.YtoefahgookhicaaGreatDoorBesafter
open Go.RowKit

theorem place_top (w : World) (x y : Value) (z : Nat) (hz : z = w.heap.size) : Place (w.alloc (.cells #[x, y] 37)) z 0 := hz ▸ place_new w x y
theorem place_step {w : World} {b : Nat} (o : Obj) (h : Place w b 0) : Place (w.alloc o) b 0 := h.below (below_newQ _ _)
theorem place_drew {w : World} {b : Nat} (h : Place w b 0) : Place w.drew b 0 := h.below (Below.refl _ _).drew
theorem int_step {w : World} {b n : Nat} {s : Bool} (o : Obj) (h : IntAt w b 0 s n) : IntAt (w.alloc o) b 0 s n := h.below (below_newQ _ _)
theorem int_drew {w : World} {b n : Nat} {s : Bool} (h : IntAt w b 0 s n) : IntAt w.drew b 0 s n := h.below (Below.refl _ _).drew
theorem below_step {w w1 : World} (o : Obj) (h : Below w.heap.size w w1) : Below w.heap.size w (w1.alloc o) := h.alloc h.size o
theorem below_drew {w w1 : World} (h : Below w.heap.size w w1) : Below w.heap.size w w1.drew := h.drew
theorem below_put {w w1 w2 : World} {z n : Nat} {s : Bool} (h : Below w.heap.size w w1) (hw : Wrote w1 w2 z 0 s n) (hz : w.heap.size ≤ z) : Below w.heap.size w w2 := h.trans (hw.below (B := w.heap.size) hz h.size)

theorem int_keep {w1 W w2 : World} {b z n : Nat} {s : Bool} (h : IntAt w1 b 0 s n) (ht : ∀ b o t m, b ≠ z → IntAt W b o t m → IntAt w2 b o t m) (hW : Below w1.heap.size w1 W) (hne : b ≠ z) : IntAt w2 b 0 s n := ht _ _ _ _ hne (h.below hW)

theorem iv_nz (s : Bool) (n : Nat) : iv (nz (s != false) n) n = iv s n := by
  cases s <;> simp [iv, nz]
  intro h
  simp [h]

/-- What the sum's first line leaves. -/
def SumQ (w : World) (V : Int) (s7 : Value) (wx : World) : Prop := ∃ za, s7 = .pointer (some ⟨za, 0, none⟩) ∧ IntAt wx za 0 (isgn V) V.natAbs ∧ w.heap.size ≤ za ∧ Below w.heap.size w wx

theorem nz_isgn (V : Int) : nz (isgn V) V.natAbs = isgn V := by
  unfold nz isgn
  by_cases h : V < 0
  · rw [decide_eq_true h]; simp; omega
  · rw [decide_eq_false h]; simp

set_option maxHeartbeats 60000000 in
set_option maxRecDepth 100000 in
/-- (enclosurebig.Rat.Add) -/
theorem ratAdd_calls {w : World} {b bx by_ m n i j : Nat} {s t : Bool} {x0 x1 x2 x3 : Value} {V : Int} (hz : R4 w b x0 x1 x2 x3) (hx : RatAt w bx s m i) (hy : RatAt w by_ t n j) (sm : Small m 10000) (sn : Small n 10000) (sA : Small (m * 2 ^ j) 10000) (sB : Small (n * 2 ^ i) 10000) (sV : Small V.natAbs 10000) (si : Small (2 ^ i) 10000) (sj : Small (2 ^ j) 10000) (sij : Small (2 ^ (i + j)) 10000) (hij : i + j < 10000) (hV : iv s (m * 2 ^ j) + iv t (n * 2 ^ i) = V) :
    Calls Tryz.prog 17 #[.pointer (some ⟨b, 0, none⟩), .pointer (some ⟨bx, 0, none⟩), .pointer (some ⟨by_, 0, none⟩)] w (NormR w b (isgn V) V.natAbs (i + j)) := by
  have lz := hz.lt
  have lx := hx.lt
  have ly := hy.lt
  have hm1 := fun (W : World) (z : Nat) (hp : Place W z 0) (hb : Below w.heap.size w W) (hl : w.heap.size ≤ z) => (imul_calls hp (hx.below hb).num (hy.below hb).den (by omega) (by omega) sm sj).mono (fun e w' h => putX hp h)
  have hm2 := fun (W : World) (z : Nat) (hp : Place W z 0) (hb : Below w.heap.size w W) (hl : w.heap.size ≤ z) => (imul_calls hp (hy.below hb).num (hx.below hb).den (by omega) (by omega) sn si).mono (fun e w' h => putX hp h)
  have hm3 := fun (W : World) (z : Nat) (hp : Place W z 0) (hb : Below w.heap.size w W) (hl : w.heap.size ≤ z) => (imul_calls hp (hx.below hb).den (hy.below hb).den (by omega) (by omega) si sj).mono (fun e w' h => putX hp h)
  have hd1 := fun (W : World) (hb : Below w.heap.size w W) => den_calls (hx.below hb) si
  have hd2 := fun (W : World) (hb : Below w.heap.size w W) => den_calls (hy.below hb) sj
  rw [← Nat.pow_add] at hm3
  rw [← iv_nz s, ← iv_nz t] at hV
  obtain ⟨A, hA⟩ : ∃ q, m * 2 ^ j = q := ⟨_, rfl⟩
  obtain ⟨Bq, hBq⟩ : ∃ q, n * 2 ^ i = q := ⟨_, rfl⟩
  rw [hA] at hm1 hV sA
  rw [hBq] at hm2 hV sB
  obtain ⟨ga, hga⟩ : ∃ sg, nz (s != false) A = sg := ⟨_, rfl⟩
  obtain ⟨gb, hgb⟩ : ∃ sg, nz (t != false) Bq = sg := ⟨_, rfl⟩
  rw [hga] at hm1 hV
  rw [hgb] at hm2 hV
  have hia := fun (W : World) (z za zb : Nat) (hp : Place W z 0) (ia : IntAt W za 0 ga A) (ib : IntAt W zb 0 gb Bq) (h1 : za ≠ z) (h2 : zb ≠ z) => (iadd_calls hp ia ib h1 h2 sA sB).mono (fun e w' h => putX hp h)
  rw [hV] at hia
  have hsf := fun (W : World) (za zb : Nat) (hb : Below w.heap.size w W) (ia : IntAt W za 0 (isgn V) V.natAbs) (ib : IntAt W zb 0 false (2 ^ (i + j))) => setFrac_calls (hz.below hb) ia ib sV sij hij
  rw [nz_isgn] at hsf
  have M1 := Lib.hid hm1
  have M2 := Lib.hid hm2
  have M3 := Lib.hid hm3
  have D1 := Lib.hid hd1
  have D2 := Lib.hid hd2
  have IA := Lib.hid hia
  have SF := Lib.hid hsf
  clear hz hx hy sm sn si sj sij sA sB sV hm1 hm2 hm3 hd1 hd2 hsf hia hV hga hgb hA hBq
  go_enter Tryz.func17, Tryz.ntmps17
  go_upto_region 1 with (fail)
  go_cut [7] (fun s7 wx => SumQ w V s7 wx)
  case first =>
    go_region_with (first | (go_at_call_of 33 (Value.pointer (some ⟨bx, 0, none⟩)); refine (D1.out _ ?_).mono ?_; (repeat' (first | exact Below.refl _ _ | exact HB2.out | exact HB1.out | exact HBC.out | with_reducible refine below_step _ ?_ | with_reducible refine below_drew ?_)); rintro e w' ⟨rfl, rfl⟩) | (go_at_call_of 33 (Value.pointer (some ⟨by_, 0, none⟩)); refine (D2.out _ ?_).mono ?_; (repeat' (first | exact Below.refl _ _ | exact HB2.out | exact HB1.out | exact HBC.out | with_reducible refine below_step _ ?_ | with_reducible refine below_drew ?_)); rintro e w' ⟨rfl, rfl⟩) | (go_at_call_of 32 (Value.pointer (some ⟨bx, 0, none⟩)); refine (M1.out _ _ ?_ ?_ ?_).mono ?_; (repeat' (first | exact HPC.out | (with_reducible refine place_top _ _ _ _ ?_; first | rfl | (simp; done) | (simp; omega)) | with_reducible refine place_step _ ?_ | with_reducible refine place_drew ?_ | with_reducible refine HP2.out _ _ ?_ | with_reducible refine HP1.out _ _ ?_)); (repeat' (first | exact Below.refl _ _ | exact HB2.out | exact HB1.out | exact HBC.out | with_reducible refine below_step _ ?_ | with_reducible refine below_drew ?_)); (first | omega | (simp; done) | (simp; omega)); rintro e w1 ⟨rfl, hi1, hw1, ht1, hp1⟩; have I1 := Lib.hid hi1; have l1 := hi1.lt; have g1 := hw1.grown.size; (try simp at g1); have HB1 := Lib.hid (below_put (w := w) (by (repeat' (first | exact Below.refl _ _ | exact HB2.out | exact HB1.out | exact HBC.out | with_reducible refine below_step _ ?_ | with_reducible refine below_drew ?_))) hw1 (by first | omega | (simp; done) | (simp; omega))); have k1 := HB1.out.size; have HP1 := Lib.hid hp1; clear hi1 hw1 ht1 hp1) | (go_at_call_of 32 (Value.pointer (some ⟨by_, 0, none⟩)); go_loud (refine (M2.out _ _ ?_ ?_ ?_).mono ?_); (repeat' (first | exact HPC.out | (with_reducible refine place_top _ _ _ _ ?_; first | rfl | (simp; done) | (simp; omega)) | with_reducible refine place_step _ ?_ | with_reducible refine place_drew ?_ | with_reducible refine HP2.out _ _ ?_ | with_reducible refine HP1.out _ _ ?_)); (repeat' (first | exact Below.refl _ _ | exact HB2.out | exact HB1.out | exact HBC.out | with_reducible refine below_step _ ?_ | with_reducible refine below_drew ?_)); (first | omega | (simp; done) | (simp; omega)); rintro e w2 ⟨rfl, hi2, hw2, ht2, hp2⟩; have I2 := Lib.hid hi2; have l2 := hi2.lt; have g2 := hw2.grown.size; (try simp at g2); have I1' := Lib.hid (int_keep I1.out ht2 (by repeat' (first | exact Below.refl _ _ | with_reducible refine below_step _ ?_ | with_reducible refine below_drew ?_)) (by first | omega | (simp; done) | (simp; omega))); have HB2 := Lib.hid (below_put (w := w) (by (repeat' (first | exact Below.refl _ _ | exact HB2.out | exact HB1.out | exact HBC.out | with_reducible refine below_step _ ?_ | with_reducible refine below_drew ?_))) hw2 (by first | omega | (simp; done) | (simp; omega))); have HP2 := Lib.hid hp2; clear hi2 hw2 ht2 hp2) | (go_at_call 35; go_loud (refine (IA.out _ _ _ _ ?_ (by repeat' (first | exact I1'.out | with_reducible refine int_step _ ?_ | with_reducible refine int_drew ?_)) (by repeat' (first | exact I2.out | with_reducible refine int_step _ ?_ | with_reducible refine int_drew ?_)) ?_ ?_).mono ?_; (repeat' (first | exact HPC.out | (with_reducible refine place_top _ _ _ _ ?_; first | rfl | (simp; done) | (simp; omega)) | with_reducible refine place_step _ ?_ | with_reducible refine place_drew ?_ | with_reducible refine HP2.out _ _ ?_ | with_reducible refine HP1.out _ _ ?_)); (first | omega | (simp; done) | (simp; omega)); (first | omega | (simp; done) | (simp; omega)); rintro e w3 ⟨rfl, hi3, hw3, ht3, hp3⟩; have I3 := Lib.hid hi3; have HB3 := Lib.hid (below_put (w := w) (by repeat' (first | exact HB2.out | with_reducible refine below_step _ ?_ | with_reducible refine below_drew ?_)) hw3 (by first | omega | (simp; done) | (simp; omega))); clear hi3 hw3 ht3 hp3)))
    all_goals
      go_wp2
      go_meet
      exact ⟨_, rfl, I3.out, by first | omega | (simp; done) | (simp; omega), HB3.out⟩
  case rest =>
    obtain ⟨za, rfl, hia, hza, hbc⟩ := hcut
    have I3 := Lib.hid hia
    have HBC := Lib.hid hbc
    have lc := hbc.size
    clear hia hbc
    go_wp2_with fail
    refine (D1.out _ (below_step _ HBC.out)).mono ?_
    rintro e w' ⟨rfl, rfl⟩
    go_wp2_with fail
    refine (D2.out _ (below_step _ HBC.out)).mono ?_
    rintro e w' ⟨rfl, rfl⟩
    go_wp2_with fail
    refine (M3.out _ _ (place_top _ _ _ _ rfl) (below_step _ HBC.out) lc).mono ?_
    rintro e w1 ⟨rfl, hi1, hw1, ht1, hp1⟩
    have lza := I3.out.lt
    have I4 := Lib.hid hi1
    have I3' := Lib.hid (int_keep I3.out ht1 (below_newQ _ _) (by omega))
    have HB1 := Lib.hid (below_put (w := w) (below_step _ HBC.out) hw1 lc)
    clear hi1 hw1 ht1 hp1
    go_wp2_with fail
    refine (SF.out _ _ _ HB1.out I3'.out I4.out).mono ?_
    rintro e w3 ⟨n', k', rfl, e1, e2, e3, hr, hg⟩
    have E1 := Lib.hid e1
    have HR := Lib.hid hr
    have HG := Lib.hid hg
    clear e1 hr hg
    go_wp2
    go_ret
    exact ⟨n', k', rfl, E1.out, e2, e3, HR.out, grown_below HB1.out HG.out⟩

end Go.Proofs.YtoefahgookhicaaGreatDoorBesafter
