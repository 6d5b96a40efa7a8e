/-
  EftFused: for every three floats the law answers true, and each argument reads behind the call as it read before; the eight listed package-level variables are tied to the program's text (Tie), the others that its row names stay open: the run reads none of them.
-/
import Derived.Test.YtoefahgookhicaaGreatDoorBesafterFlo7
import Derived.Test.YtoefahgookhicaaGreatDoorBesafterFacts
import Derived.Test.YtoefahgookhicaaGreatDoorBesafterCards
import Derived.Test.YtoefahgookhicaaGreatDoorBesafterTie
import Derived.WalkKit
import Derived.WalkLawsBesides
import Derived.Laws.Cover2
import Derived.ProofKit
import Derived.OpenShut
import Derived.Lay
import Derived.SevenTiedAt
namespace Go.Proofs.YtoefahgookhicaaGreatDoorBesafter
open Go.ChangeShapes Go.WideShapes Go.ChangeAt Go.RowKit

theorem own : ownKnob Tryz.prog.godebug = none := by kernel_rfl

set_option maxRecDepth 100000 in
theorem lifted (os : Os) (started : os.Started) (H : Type) (enc : TypeId × Value → H) :
    ReturnsInHanded {} Tryz.checked os 3 .any (fun w args => (Rows.eftFusedSpec.pre enc Tryz.prog Tryz.f3 [] false w args ∧ laidMetH Tryz.prog Rows.eftFusedRow.laid w) ∧ sizedMet enc Tryz.prog Tryz.f3 (OpenSpec.ofChange Rows.eftFusedSpec) false w args)
      (Rows.eftFusedSpec.post enc Tryz.prog Tryz.f3 false true false false) := by
  refine returnsInHanded_of_change_and (C := Tryz.checked) (X := fun w _ => laidMetH Tryz.prog Rows.eftFusedRow.laid w) (fun _ _ _ hh h => h.of_heap hh) own started (by kernel_rfl) Tryz.func3
    (ChangeSpec.witness_shaped (enc := enc) (C := Tryz.checked) (os := os) (X := fun w _ => laidMetH Tryz.prog Rows.eftFusedRow.laid w) false (World.laidAll Tryz.prog os Rows.eftFusedRow.laid) #[.float .f64 0, .float .f64 0, .float .f64 0] 8 (World.laidAll_os _ _ _)
      (World.shaped_of_ZipB (by kernel_rfl) (by kernel_rfl)) (by kernel_rfl) (by kernel_rfl) (by kernel_rfl)
      (by rw [MakeChecks.laidMetH_plain _ _ _ (by kernel_rfl)]; exact laidMet_laidAll _ (by kernel_rfl) (by kernel_rfl))) ?_
  intro W base args ds gs before hval0 hW _ _ _ _
  have hval : ∀ (j : Nat) t v, Tryz.f3.params[j]? = some t → args[j]? = some v → Value.okWide Tryz.prog W .any base t v := hval0
  have hW' := hW
  obtain ⟨p, q, hA0, hV, rfl, _, _⟩ := hW
  have hA : DataW.TrodAll enc Tryz.prog W 0 (fun _ => true) true Tryz.f3.params.toList args.toList ds p := hA0
  rw [Tryz.params3] at hA hval
  obtain ⟨v0, v1, v2, d0, d1, d2, p0, p1, p2, rfl, rfl, rfl, h0, h1, h2⟩ := trodAll_three hA
  obtain ⟨rfl, rfl⟩ := trodVars_none hV
  obtain ⟨x, rfl, rfl, rfl, wx⟩ := open_float Tryz.underlying22 (hval 0 22 v0 rfl rfl) h0
  obtain ⟨y, rfl, rfl, rfl, wy⟩ := open_float Tryz.underlying22 (hval 1 22 v1 rfl rfl) h1
  obtain ⟨z, rfl, rfl, rfl, wz⟩ := open_float Tryz.underlying22 (hval 2 22 v2 rfl rfl) h2
  simp only [List.append_nil] at hW'
  have hx : x < 2 ^ 64 := of_decide_eq_true wx
  have hy : y < 2 ^ 64 := of_decide_eq_true wy
  have hz : z < 2 ^ 64 := of_decide_eq_true wz
  refine (eftFused_calls hx hy hz W).mono fun e W' ⟨he, hb⟩ => ?_
  subst he
  exact ⟨_, rfl, _, _, _, [], [], [], hW', trodAll_mk1 (shut_bool Tryz.underlying4 _), trodAll_mk3 (shut_float Tryz.underlying22 wx) (shut_float Tryz.underlying22 wy) (shut_float Tryz.underlying22 wz), rfl, hb.frame _, fun h => by cases h⟩

theorem named3 : Tryz.prog.funcNamed "enclosure/enclosurelaw.EftFused" = some 3 := by kernel_rfl
theorem inst3 : Tryz.f3.isInstance Tryz.prog Rows.eftFusedRow.origin Rows.eftFusedRow.targs := of_decide_eq_true (by kernel_rfl)
theorem wrap3 : Tryz.f3.isWrapper Tryz.prog Rows.eftFusedRow.wrapper Rows.eftFusedRow.mainSum := by
  unfold Func.isWrapper
  first | (rw [if_pos (by decide +kernel)]; kernel_rfl) | (rw [if_neg (by decide +kernel)]; exact ⟨rfl, rfl⟩)

theorem eftFused_holds : Rows.EftFusedSaid :=
  OpenClaim.holds_of_wide 3 Tryz.f3 rfl rfl rfl rfl rfl rfl rfl ⟨rfl, rfl, rfl, rfl, rfl⟩ rfl rfl rfl rfl rfl named3 Tryz.func3 facts inst3 wrap3
    (fun os started H enc _ => lifted os started H enc)

/-- THE CARD. -/
theorem eftFused_card : Rows.EftFusedCardSaid :=
  Claim7.holds_tied_plain_at .later [] [.data, .data, .data, .data, .data, .data, .data, .data] true (true, "3e7686d6fd4c44ab96d727c3c952abf177c9876d2f2791f38d197581dac96091") true
    eftFused_holds (fun _ h => by cases h) (by kernel_rfl) (fun _ h => by cases h) eftFused_row_tie rfl ⟨rfl, rfl⟩ (by kernel_rfl) rfl
    (fun f fn hf hfn => by
      obtain rfl : f = 3 := Option.some.inj (named3.symm.trans hf) |>.symm
      obtain rfl : fn = Tryz.f3 := (Option.some.inj (Tryz.func3.symm.trans hfn)).symm
      exact ⟨by kernel_rfl, fun j t ht => by
        rw [Tryz.params3] at ht
        have hm : t ∈ [22, 22, 22] := by simpa using Array.mem_of_getElem? ht
        have hall : ([22, 22, 22].all fun u => !Tryz.prog.wantsStandIn u) = true := by kernel_rfl
        exact (show Tryz.prog.wantsStandIn t = false by simpa using List.all_eq_true.1 hall t hm)⟩)
    (by kernel_rfl)
end Go.Proofs.YtoefahgookhicaaGreatDoorBesafter
