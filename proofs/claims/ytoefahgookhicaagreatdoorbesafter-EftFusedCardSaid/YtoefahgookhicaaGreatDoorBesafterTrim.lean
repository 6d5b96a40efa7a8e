/- Walk: a slice of words is trimmed of its leading zero words. -/
import Derived.Test.YtoefahgookhicaaGreatDoorBesafterMem
namespace Go.Proofs.YtoefahgookhicaaGreatDoorBesafter
open Go.RowKit

/-- What 'trim' leaves of n words. -/
def Trimmed (xs : List Nat) (g cap : Nat) (w : World) (e : Ending) (w' : World) : Prop :=
  ∃ k, k ≤ xs.length ∧ (∀ i, k ≤ i → xs.getD i 0 = 0) ∧ (0 < k → xs.getD (k - 1) 0 ≠ 0) ∧ e = .returned (.slice (some ⟨g, 0, none⟩) k cap) ∧ w = w'

set_option maxHeartbeats 400000 in
theorem trim_any (g n cap : Nat) (xs : List Nat) (w : World) (hn : xs.length = n) (hc : n ≤ cap) (_hcap : cap ≤ 1000000)
    (hcell : ∀ i, i < n → w.cell? ⟨g, i, none⟩ = some (.int .u32 (xs.getD i 0))) :
    Calls Tryz.prog 98 #[.slice (some ⟨g, 0, none⟩) n cap] w (Trimmed xs g cap w) := by
  have HN := Lib.hid hn
  clear hn
  go_enter Tryz.func98, Tryz.ntmps98
  go_wp2
  go_loop [3] (fun i => ∃ k : Nat, k ≤ n ∧ i = .int .i64 k ∧ Hid (∀ i, k ≤ i → xs.getD i 0 = 0)) (fun i => (intOf i).toNat)
  case atStart => exact ⟨n, Nat.le_refl _, rfl, fun i hi => by rw [List.getD_eq_getElem?_getD, List.getElem?_eq_none (by have := HN.out; omega)]; rfl⟩
  case round =>
    obtain ⟨k, hk, rfl, hz⟩ := hrel
    by_cases h0 : 0 < k
    · have hc1 := hcell (k - 1) (by omega)
      clear hcell
      go_wp2
      · have h1 : xs.getD (k - 1) 0 = 0 := by
          have := beq_iff_eq.1 (by assumption : ((xs[k - 1]?.getD 0 : Int) == 0) = true)
          rw [List.getD_eq_getElem?_getD]; omega
        refine ⟨⟨k - 1, by omega, by congr 1; omega, fun i hi => ?_⟩, by simp [intOf]; omega⟩
        by_cases hik : i = k - 1
        · rw [hik]; exact h1
        · exact hz.out i (by omega)
      · have h1 : xs.getD (k - 1) 0 ≠ 0 := by
          have := beq_eq_false_iff_ne.1 (by assumption : ((xs[k - 1]?.getD 0 : Int) == 0) = false)
          rw [List.getD_eq_getElem?_getD]; omega
        go_ret
        exact ⟨k, by rw [HN.out]; exact hk, hz.out, fun _ => h1, rfl, rfl⟩
    · go_wp2
      go_ret
      exact ⟨k, by rw [HN.out]; exact hk, hz.out, fun h => absurd h h0, rfl, rfl⟩

/-- 'trim' of a new row. -/
def CutL (w : World) (n : Nat) (e : Ending) (w' : World) : Prop := ∃ v, e = .returned v ∧ Limbs w v n ∧ w = w'

theorem trim_made {w : World} {base b n N : Nat} {xs : List Nat} (h : Made w base b n xs) (hx : Ws xs) (hn : n ≤ 100000) (hN : val xs = N) :
    Calls Tryz.prog 98 #[.slice (some ⟨b, 0, none⟩) n n] w (CutL w N) := by
  subst hN
  refine (trim_any b n n xs w h.length (Nat.le_refl _) (by omega) (fun i hi => h.cell i hi)).mono ?_
  rintro e w' ⟨k, hk, hz, hl, rfl, rfl⟩
  exact ⟨_, rfl, h.cut hx hk hz hl, rfl⟩

end Go.Proofs.YtoefahgookhicaaGreatDoorBesafter
