/- Walk: two slices of words are compared. Condition: each below 2^10000. -/
import Derived.Test.YtoefahgookhicaaGreatDoorBesafterTrim
namespace Go.Proofs.YtoefahgookhicaaGreatDoorBesafter
open Go.RowKit

/-- How m stands to n: -1, 0, 1. -/
def cmp3 (m n : Nat) : Int := if m < n then -1 else if m = n then 0 else 1

def CmpR (w : World) (m n : Nat) (e : Ending) (w' : World) : Prop := e = .returned (.int .i64 (cmp3 m n)) ∧ ∃ d, w' = w.drewN d

set_option maxHeartbeats 1000000 in
set_option maxRecDepth 100000 in
theorem cmp_same (a b : Option Addr) (la ca cb : Nat) (A B : List Nat) (w : World) (hA : A.length = la) (hB : B.length = la) (h1 : la ≤ 320) (wA : Ws A) (wB : Ws B)
    (ha : Hid (0 < la → ∃ g, a = some ⟨g, 0, none⟩ ∧ g < w.heap.size ∧ ∀ j, j < la → w.cell? ⟨g, j, none⟩ = some (.int .u32 (A.getD j 0))))
    (hb : Hid (0 < la → ∃ g, b = some ⟨g, 0, none⟩ ∧ g < w.heap.size ∧ ∀ j, j < la → w.cell? ⟨g, j, none⟩ = some (.int .u32 (B.getD j 0)))) :
    Calls Tryz.prog 102 #[.slice a la ca, .slice b la cb] w (CmpR w (val A) (val B)) := by
  have HA := Lib.hid hA
  have HB := Lib.hid hB
  clear hA hB
  go_enter Tryz.func102, Tryz.ntmps102
  go_wp2
  go_loopw [5] (fun i wr => ∃ k : Nat, k ≤ la ∧ i = .int .i64 ((k : Int) - 1) ∧ Hid (A.drop k = B.drop k) ∧ Hid (∃ d, wr = w.drewN d)) (fun i _ => (intOf i + 1).toNat)
  case atStart => exact ⟨la, Nat.le_refl _, rfl, by show _ = _; rw [List.drop_of_length_le (by rw [HA.out]; omega), List.drop_of_length_le (by rw [HB.out]; omega)], 0, rfl⟩
  case round =>
    obtain ⟨k, hk, rfl, hinv, hw⟩ := hrel
    by_cases h0 : 0 < k
    · obtain ⟨g, rfl, hg, hca⟩ := ha.out (by omega)
      obtain ⟨g', rfl, hg', hcb⟩ := hb.out (by omega)
      obtain ⟨x, hx, bx, ga⟩ : ∃ x, Hid (A.getD (k - 1) 0 = x) ∧ x < 4294967296 ∧ wr.cell? ⟨g, k - 1, none⟩ = some (.int .u32 x) := ⟨_, rfl, wA.getD _, by obtain ⟨d, rfl⟩ := hw.out; exact hca (k - 1) (by omega)⟩
      obtain ⟨y, hy, bY, gb⟩ : ∃ y, Hid (B.getD (k - 1) 0 = y) ∧ y < 4294967296 ∧ wr.cell? ⟨g', k - 1, none⟩ = some (.int .u32 y) := ⟨_, rfl, wB.getD _, by obtain ⟨d, rfl⟩ := hw.out; exact hcb (k - 1) (by omega)⟩
      clear hca hcb
      rcases Nat.lt_trichotomy x y with hlt | heq | hgt
      · have ht : ((x : Int) != (y : Int)) = true := by rw [bne_iff_ne]; omega
        go_wp2
        go_quiet (fail)
        go_wp2
        go_quiet (fail)
        go_wp2
        go_ret
        refine ⟨?_, by first | exact drewN_ex hw.out _ | exact drewN_ex (drewN_ex hw.out _) _⟩
        have := val_lt_at wA (HA.out.trans HB.out.symm) (i := k - 1) (by rw [HA.out]; omega) (by rw [show k - 1 + 1 = k by omega]; exact hinv.out) (by rw [hx.out, hy.out]; exact hlt)
        rw [cmp3, if_pos this]; rfl
      · have ht : ((x : Int) != (y : Int)) = false := by rw [bne_eq_false_iff_eq]; omega
        go_wp2
        go_quiet (fail)
        go_wp2
        exact ⟨⟨k - 1, by omega, by congr 1; omega, drop_eq_step (HA.out.trans HB.out.symm) (by rw [HA.out]; omega) (by rw [show k - 1 + 1 = k by omega]; exact hinv.out) (by rw [hx.out, hy.out]; exact heq), drewN_ex hw.out _⟩, by simp [intOf]; omega⟩
      · have ht : ((x : Int) != (y : Int)) = true := by rw [bne_iff_ne]; omega
        go_wp2
        go_quiet (fail)
        go_wp2
        go_quiet (fail)
        go_wp2
        go_ret
        refine ⟨?_, by first | exact drewN_ex hw.out _ | exact drewN_ex (drewN_ex hw.out _) _⟩
        have := val_lt_at wB (HB.out.trans HA.out.symm) (i := k - 1) (by rw [HB.out]; omega) (by rw [show k - 1 + 1 = k by omega]; exact hinv.out.symm) (by rw [hx.out, hy.out]; exact hgt)
        rw [cmp3, if_neg (by omega), if_neg (by omega)]; rfl
    · go_wp2
      go_ret
      obtain ⟨d, rfl⟩ := hw.out
      refine ⟨?_, d, rfl⟩
      have : k = 0 := by omega
      subst this
      have := hinv.out
      rw [List.drop_zero, List.drop_zero] at this
      rw [this, cmp3, if_neg (by omega), if_pos rfl]; rfl

set_option maxHeartbeats 1000000 in
theorem cmp_diff (a b : Option Addr) (la lb ca cb : Nat) (n : Int) (w : World) (_h1 : la ≤ 320) (_h2 : lb ≤ 320) (h : la ≠ lb) (hn : n = if la < lb then -1 else 1) :
    Calls Tryz.prog 102 #[.slice a la ca, .slice b lb cb] w fun e w' => e = .returned (.int .i64 n) ∧ w' = w := by
  have ht : ((la : Int) != (lb : Int)) = true := by rw [bne_iff_ne]; omega
  by_cases hlt : la < lb
  · rw [if_pos hlt] at hn
    subst hn
    go_enter Tryz.func102, Tryz.ntmps102
    go_wp2
    go_ret
    exact ⟨rfl, rfl⟩
  · rw [if_neg hlt] at hn
    subst hn
    go_enter Tryz.func102, Tryz.ntmps102
    go_wp2
    go_ret
    exact ⟨rfl, rfl⟩

/-- (enclosurebig.cmp) -/
theorem cmp_calls {w : World} {va vb : Value} {m n : Nat} (ha : Limbs w va m) (hb : Limbs w vb n) (sa : Small m 10000) (sb : Small n 10000) :
    Calls Tryz.prog 102 #[va, vb] w (CmpR w m n) := by
  obtain ⟨A, wA, tA, rfl, rA⟩ := ha
  obtain ⟨B, wB, tB, rfl, rB⟩ := hb
  obtain ⟨a, ca, rfl, hA⟩ := words_of rA
  obtain ⟨b, cb, rfl, hB⟩ := words_of rB
  by_cases h : A.length = B.length
  · rw [← h] at hB ⊢
    exact cmp_same a b _ ca cb A B w rfl h.symm (small_len tA sa) wA wB hA hB
  · refine (cmp_diff a b _ _ ca cb (cmp3 (val A) (val B)) w (small_len tA sa) (small_len tB sb) h ?_).mono fun e w' ⟨he, hw⟩ => ⟨he, 0, hw⟩
    by_cases hl : A.length < B.length
    · rw [if_pos hl, cmp3, if_pos (val_lt_of_length wA tB hl)]
    · have := val_lt_of_length wB tA (by omega : B.length < A.length)
      rw [if_neg hl, cmp3, if_neg (by omega), if_neg (by omega)]

end Go.Proofs.YtoefahgookhicaaGreatDoorBesafter
