/- Walk: the whole numbers' sign, bit length, bits, comparison. Condition: below 2^10000. -/
import Derived.Test.YtoefahgookhicaaGreatDoorBesafterInt1
import Derived.Test.YtoefahgookhicaaGreatDoorBesafterBit
import Derived.Test.YtoefahgookhicaaGreatDoorBesafterCmp
namespace Go.Proofs.YtoefahgookhicaaGreatDoorBesafter
open Go.RowKit

set_option maxHeartbeats 1000000 in
/-- (enclosurebig.Int.Sign) -/
theorem sign_calls {w : World} {b o n : Nat} {s : Bool} (hx : IntAt w b o s n) (sn : Small n 10000) : Calls Tryz.prog 36 #[.pointer (some ⟨b, o, none⟩)] w (SameI w (if n = 0 then 0 else if s then -1 else 1)) := by
  obtain ⟨v, c0, c1, hv⟩ := hx.cells
  obtain ⟨ao, l, cap, rfl, hl, hl2⟩ := hv.len
  have hl3 := hl2 sn
  clear hv hx hl2 sn
  by_cases hn : n = 0
  · obtain rfl : l = 0 := hl.2 hn
    clear hl
    rw [if_pos hn]
    clear hn
    go_enter Tryz.func36, Tryz.ntmps36
    go_wp2
    go_ret
    exact ⟨rfl, rfl⟩
  · have hl0 : 0 < l := Nat.pos_of_ne_zero fun h => hn (hl.1 h)
    have z : ((l : Int) == 0) = false := beq_eq_false_iff_ne.2 (by omega)
    clear hl
    rw [if_neg hn]
    clear hn
    cases s
    · go_enter Tryz.func36, Tryz.ntmps36
      go_wp2
      go_ret
      exact ⟨rfl, rfl⟩
    · go_enter Tryz.func36, Tryz.ntmps36
      go_wp2
      go_ret
      exact ⟨rfl, rfl⟩

set_option maxHeartbeats 1000000 in
/-- (enclosurebig.Int.BitLen) -/
theorem bitLen_calls {w : World} {b o n : Nat} {s : Bool} (hx : IntAt w b o s n) (sn : Small n 10000) : Calls Tryz.prog 104 #[.pointer (some ⟨b, o, none⟩)] w (SameI w (bl n)) := by
  obtain ⟨v, c0, c1, hv⟩ := hx.cells
  have HL := Lib.hid (length_calls hv sn)
  clear hx hv sn
  go_enter Tryz.func104, Tryz.ntmps104
  go_wp2_with fail
  refine HL.out.mono ?_
  rintro e w1 ⟨rfl, rfl⟩
  go_wp2
  go_ret
  exact ⟨rfl, rfl⟩

set_option maxHeartbeats 1000000 in
/-- (enclosurebig.Int.Bit, of what isn't below nought) -/
theorem bitAt_calls {w : World} {b o n k : Nat} (hx : IntAt w b o false n) (sn : Small n 10000) (hk : k ≤ 20000) : Calls Tryz.prog 106 #[.pointer (some ⟨b, o, none⟩), .int .i64 k] w (SameU w ((n / 2 ^ k % 2 : Nat) : Int)) := by
  obtain ⟨v, c0, c1, hv⟩ := hx.cells
  have hb := bit_calls k hv sn hk
  obtain ⟨m, hm⟩ : ∃ m, n / 2 ^ k % 2 = m := ⟨_, rfl⟩
  rw [hm] at hb ⊢
  have HL := Lib.hid hb
  clear hx hv hb hm sn
  go_enter Tryz.func106, Tryz.ntmps106
  go_wp2_with fail
  refine HL.out.mono ?_
  rintro e w1 ⟨rfl, rfl⟩
  go_wp2
  go_ret
  exact ⟨rfl, rfl⟩

theorem Twos.low {n t k : Nat} (h : Twos n t) (hk : k < t) : n / 2 ^ k % 2 = 0 := by
  obtain ⟨m, rfl⟩ := h
  obtain ⟨d, rfl⟩ : ∃ d, t = k + (d + 1) := ⟨t - k - 1, by omega⟩
  rw [Nat.pow_add, Nat.mul_assoc, Nat.mul_div_cancel_left _ (pow_pos2 k), Nat.pow_succ, Nat.mul_comm (2 ^ d), Nat.mul_assoc]
  exact Nat.mul_mod_right 2 _
theorem Twos.at {n t : Nat} (h : Twos n t) : n / 2 ^ t % 2 = 1 := by
  obtain ⟨m, rfl⟩ := h
  rw [Nat.mul_div_cancel_left _ (pow_pos2 t)]; omega

set_option maxHeartbeats 2000000 in
/-- (enclosurebig.Int.TrailingZeroBits, of what isn't nought) -/
theorem tz_calls {w : World} {b o n t : Nat} {s : Bool} (hx : IntAt w b o s n) (sn : Small n 10000) (hn : n ≠ 0) (ht : Twos n t) (htb : t < 20000) : Calls Tryz.prog 107 #[.pointer (some ⟨b, o, none⟩)] w (SameU w t) := by
  obtain ⟨v, c0, c1, hv⟩ := hx.cells
  have hbit := fun k (hk : k ≤ 20000) => bit_calls k hv sn hk
  obtain ⟨ao, l, cap, rfl, hl, hl2⟩ := hv.len
  have hl3 := hl2 sn
  have hl0 : 0 < l := Nat.pos_of_ne_zero fun h => hn (hl.1 h)
  have z : ((l : Int) == 0) = false := beq_eq_false_iff_ne.2 (by omega)
  have HT := Lib.hid ht
  have HBIT := Lib.hid hbit
  clear hx hv hl hl2 hn ht hbit sn
  go_enter Tryz.func107, Tryz.ntmps107
  go_wp2
  go_loop [3] (fun i => ∃ k : Nat, k ≤ t ∧ i = .int .u64 k) (fun i => t - (intOf i).toNat)
  case atStart => exact ⟨0, Nat.zero_le _, rfl⟩
  case round =>
    obtain ⟨k, hk, rfl⟩ := hrel
    by_cases hlt : k < t
    · have h1 := HBIT.out k (by omega)
      rw [HT.out.low hlt] at h1
      have H1 := Lib.hid h1
      clear h1
      go_wp2_with fail
      refine H1.out.mono ?_
      rintro e w1 ⟨rfl, rfl⟩
      go_wp2
      exact ⟨⟨k + 1, by omega, by go_num⟩, by simp [intOf]; omega⟩
    · obtain rfl : k = t := by omega
      have h1 := HBIT.out k (by omega)
      rw [HT.out.at] at h1
      have H1 := Lib.hid h1
      clear h1
      go_wp2_with fail
      refine H1.out.mono ?_
      rintro e w1 ⟨rfl, rfl⟩
      go_wp2
      go_ret
      exact ⟨rfl, rfl⟩

set_option maxHeartbeats 1000000 in
/-- (enclosurebig.Int.Uint64) -/
theorem uint_calls {w : World} {b o n : Nat} {s : Bool} (hx : IntAt w b o s n) (hn : n < 18446744073709551616) : Calls Tryz.prog 60 #[.pointer (some ⟨b, o, none⟩)] w (SameU w n) := by
  obtain ⟨v, c0, c1, A, wA, tA, rfl, rA⟩ := hx.cells
  have hl2 : A.length ≤ 2 := by
    by_cases h0 : A = []
    · subst h0; simp
    · have := val_ge h0 (tA h0)
      refine Nat.le_of_not_lt fun h => ?_
      have h2 : 4294967296 ^ 2 ≤ 4294967296 ^ (A.length - 1) := Nat.pow_le_pow_right (by decide) (by omega)
      omega
  obtain ⟨a, ca, rfl, hA⟩ := words_of rA
  obtain ⟨l, hl⟩ : ∃ l, A.length = l := ⟨_, rfl⟩
  rw [hl] at c1 hA hl2
  have HL := Lib.hid hl
  clear hl rA hx hn tA
  by_cases h2 : l = 2
  · obtain ⟨g, rfl, hg, hca⟩ := hA.out (by omega)
    obtain ⟨x, hx, bx, ga⟩ : ∃ x, Hid (A.getD 0 0 = x) ∧ x < 4294967296 ∧ w.cell? ⟨g, 0, none⟩ = some (.int .u32 x) := ⟨_, rfl, wA.getD _, hca 0 (by omega)⟩
    obtain ⟨y, hy, bY, gb⟩ : ∃ x, Hid (A.getD 1 0 = x) ∧ x < 4294967296 ∧ w.cell? ⟨g, 1, none⟩ = some (.int .u32 x) := ⟨_, rfl, wA.getD _, hca 1 (by omega)⟩
    clear hca hA hg
    subst h2
    have ho := or_high x y bx bY
    have e : val A = x + 4294967296 * y := by
      have h1 := val_take_next A 1
      have h0 := val_take_next A 0
      rw [val_take_ge A (1 + 1) (by rw [HL.out]; omega), h0, hx.out, hy.out] at h1
      simp [val] at h1; exact h1
    rw [e]
    clear e
    go_enter Tryz.func60, Tryz.ntmps60
    go_wp2
    go_ret
    refine ⟨?_, rfl⟩
    first | rfl | exact congrArg (fun n => Ending.returned (Value.int .u64 n)) ho
  · by_cases h3 : l = 1
    · obtain ⟨g, rfl, hg, hca⟩ := hA.out (by omega)
      obtain ⟨x, hx, bx, ga⟩ : ∃ x, Hid (A.getD 0 0 = x) ∧ x < 4294967296 ∧ w.cell? ⟨g, 0, none⟩ = some (.int .u32 x) := ⟨_, rfl, wA.getD _, hca 0 (by omega)⟩
      clear hca hA hg
      subst h3
      have e : val A = x := by
        have h0 := val_take_next A 0
        rw [val_take_ge A (0 + 1) (by rw [HL.out]; omega), hx.out] at h0
        simp [val] at h0; exact h0
      rw [e]
      clear e
      go_enter Tryz.func60, Tryz.ntmps60
      go_wp2
      go_ret
      exact ⟨rfl, rfl⟩
    · have h4 : l = 0 := by omega
      subst h4
      have e : A = [] := List.length_eq_zero_iff.1 HL.out
      rw [e]
      clear e hA
      go_enter Tryz.func60, Tryz.ntmps60
      go_wp2
      go_ret
      exact ⟨rfl, rfl⟩

/-- A callee that only draws, behind draws that the walk has joined. -/
theorem draws_joined {P : Program} {f : FuncId} {args : Array Value} {w : World} {p q : Nat} {v : Value} (h : Calls P f args (w.drewN (p + q)) fun e w' => e = .returned v ∧ ∃ d, w' = (w.drewN (p + q)).drewN d) :
    Calls P f args (w.drewN (p + q)) fun e w' => e = .returned v ∧ ∃ d, w' = w.drewN (p + d) := by
  refine h.mono ?_
  rintro e w' ⟨he, d, rfl⟩
  exact ⟨he, q + d, by rw [World.drewN_drewN, Nat.add_assoc]⟩

set_option maxHeartbeats 2000000 in
/-- (enclosurebig.Int.Cmp, of two that aren't below nought) -/
theorem icmp_calls {w : World} {b o b2 o2 m n : Nat} (hx : IntAt w b o false m) (hy : IntAt w b2 o2 false n) (sm : Small m 10000) (sn : Small n 10000) : Calls Tryz.prog 61 #[.pointer (some ⟨b, o, none⟩), .pointer (some ⟨b2, o2, none⟩)] w (CmpR w m n) := by
  obtain ⟨v, c0, c1, hv⟩ := hx.cells
  obtain ⟨u, d0, d1, hu⟩ := hy.cells
  have HL := Lib.hid (fun (W : World) (h1 : Limbs W v m) (h2 : Limbs W u n) => cmp_calls h1 h2 sm sn)
  have HV := Lib.hid hv
  have HU := Lib.hid hu
  clear hx hy hv hu sm sn
  obtain ⟨c, hc⟩ : ∃ c, cmp3 m n = c := ⟨_, rfl⟩
  unfold CmpR at HL ⊢
  rw [hc] at HL ⊢
  clear hc
  go_enter Tryz.func61, Tryz.ntmps61
  go_wp2_with fail
  go_quiet (fail)
  go_wp2_with fail
  go_quiet ((go_at_call 102; refine draws_joined (HL.out _ ?_ ?_); exact HV.out; exact HU.out))
  go_wp2
  go_ret
  exact ⟨rfl, by first | exact ⟨_, rfl⟩ | exact drewN_ex ⟨_, rfl⟩ _ | exact drewN_ex (drewN_ex ⟨_, rfl⟩ _) _⟩

end Go.Proofs.YtoefahgookhicaaGreatDoorBesafter
