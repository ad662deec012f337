/- AsmQuotes: two texts that are quoted alike are alike: the statement's card. Conditions: the row's own (what the listed package-level variables hold). -/
import Derived.Test.YtnlnbhcjgacgmaaGreatDoorAqLaw
import Derived.Test.YtnlnbhcjgacgmaaGreatDoorTie
import Derived.Test.YtnlnbhcjgacgmaaGreatDoorCards
import Derived.ProofKit
import Derived.Lay
import Derived.Lib.LaidU8
import Derived.Stop.Joined
import Derived.SevenTiedAt
set_option linter.unusedVariables false
set_option linter.unusedSimpArgs false
namespace Go.Proofs.YtnlnbhcjgacgmaaGreatDoor
open Go.ChangeShapes Go.WideShapes Go.ChangeAt Go.RowKit Go.ChangeMaps

theorem own : ownKnob Tryz.prog.godebug = none := by kernel_rfl
/-- The condition shows that the package-level variables are there. -/
theorem heap8 {W : World} (h : laidMet Tryz.prog Rows.asmQuotesRow.laid W) : 8 ≤ W.heap.size := by
  obtain ⟨g, t, cs, f, p, h1, h2, h3, h4⟩ := Lib.laidMet.reads h (d := Rows.laid_math_bits_deBruijn64tab) (.tail _ (.head _))
  obtain rfl : g = 7 := Option.some.inj (h1.symm.trans (by kernel_rfl))
  unfold World.var? at h3
  rw [h1] at h3
  simp only [Option.bind_some] at h3
  split at h3
  · rename_i cs' e fr hc
    have := (Array.getElem?_eq_some_iff.1 hc).1
    omega
  · cases h3

set_option maxRecDepth 100000 in
theorem asmQuotes_lifted (os : Os) (started : os.Started) (H : Type) (enc : TypeId × Value → H) :
    ReturnsInHanded {} Tryz.checked os 3 .any (fun w args => (Rows.asmQuotesSpec.pre enc Tryz.prog Tryz.f3 [] false w args ∧ laidMetH Tryz.prog Rows.asmQuotesRow.laid w) ∧ sizedMet enc Tryz.prog Tryz.f3 (OpenSpec.ofChange Rows.asmQuotesSpec) false w args)
      (Rows.asmQuotesSpec.post enc Tryz.prog Tryz.f3 false true false false) := by
  refine returnsInHanded_of_change_and (C := Tryz.checked) (X := fun w _ => laidMetH Tryz.prog Rows.asmQuotesRow.laid w) (fun _ _ _ hh h => h.of_heap hh) own started (by kernel_rfl) Tryz.func3
    (ChangeSpec.witness_shaped (enc := enc) (C := Tryz.checked) (os := os) (X := fun w _ => laidMetH Tryz.prog Rows.asmQuotesRow.laid w) false (World.laidAll Tryz.prog os Rows.asmQuotesRow.laid) #[.string ⟨#[]⟩, .string ⟨#[]⟩] 8 (World.laidAll_os _ _ _)
      (World.shaped_of_ZipB (by kernel_rfl) (by kernel_rfl)) (by kernel_rfl) (by kernel_rfl) (by kernel_rfl)
      (by rw [MakeChecks.laidMetH_plain _ _ _ (by kernel_rfl)]; exact laidMet_laidAll _ (by kernel_rfl) (by kernel_rfl))) ?_
  intro W base args ds gs before hval0 hW _ _ hL _
  have hval : ∀ (j : Nat) t v, Tryz.f3.params[j]? = some t → args[j]? = some v → Value.okWide Tryz.prog W .any base t v := hval0
  have hW' := hW
  obtain ⟨p, q, hA0, hV, rfl, _, _⟩ := hW
  have hA : DataW.TrodAll enc Tryz.prog W 0 (fun _ => true) true Tryz.f3.params.toList args.toList ds p := hA0
  rw [Tryz.params3] at hA hval
  obtain ⟨v0, v1, d0, d1, p0, p1, rfl, rfl, rfl, h0, h1⟩ := trodAll_two hA
  obtain ⟨rfl, rfl⟩ := trodVars_none hV
  obtain ⟨a, rfl, rfl, rfl, wa⟩ := open_string Tryz.underlying9 (hval 0 9 v0 rfl rfl) h0
  obtain ⟨b, rfl, rfl, rfl, wb⟩ := open_string Tryz.underlying9 (hval 1 9 v1 rfl rfl) h1
  simp only [List.append_nil] at hW'
  rw [MakeChecks.laidMetH_plain _ _ _ (by kernel_rfl)] at hL
  have h8 := heap8 hL
  refine (Aq.law a b W h8 (by unfold maxLen at wa; omega) (by unfold maxLen at wb; omega)).mono fun e W' ⟨he, hb⟩ => ?_
  subst he
  exact ⟨_, rfl, _, _, _, [], [], [], hW', trodAll_mk1 (shut_bool Tryz.underlying4 _), trodAll_mk2 (shut_string Tryz.underlying9 wa) (shut_string Tryz.underlying9 wb), rfl, hb.frame _, fun h => by cases h⟩

theorem asmQuotes_said : Rows.AsmQuotesSaid :=
  OpenClaim.holds_of_wide 3 Tryz.f3 rfl rfl rfl rfl rfl rfl rfl ⟨rfl, rfl, rfl, rfl, rfl⟩ rfl rfl rfl rfl rfl (by kernel_rfl) Tryz.func3 (by kernel_rfl)
    (of_decide_eq_true (by kernel_rfl)) (by unfold Func.isWrapper; rw [if_neg (by decide +kernel)]; exact ⟨rfl, rfl⟩)
    (fun os started H enc _ => asmQuotes_lifted os started H enc)

/-- AsmQuotes: the tied card. -/
theorem asmQuotes_holds : Rows.AsmQuotesCardSaid :=
  Claim7.holds_tied_plain_at .later [] [.data, .data, .data, .data, .sentinel, .sentinel, .pinned] true (true, "719bf6bdf1c878d34148e0b36fd5144268baefde113a08f5a632a58cacbdc629") true
    asmQuotes_said (fun _ h => by cases h) (by kernel_rfl) (fun _ h => by cases h) asmQuotes_row_tie rfl ⟨rfl, rfl⟩ (by kernel_rfl) rfl
    (fun f fn hf hfn => by
      obtain rfl : f = 3 := Option.some.inj ((show Tryz.prog.funcNamed Rows.asmQuotesRow.func = some 3 by kernel_rfl).symm.trans hf) |>.symm
      obtain rfl : fn = Tryz.f3 := (Option.some.inj (Tryz.func3.symm.trans hfn)).symm
      exact ⟨by kernel_rfl, fun j t ht => by
        rw [Tryz.params3] at ht
        have hm : t ∈ [9, 9] := by simpa using Array.mem_of_getElem? ht
        have hall : ([9, 9].all fun u => !Tryz.prog.wantsStandIn u) = true := by kernel_rfl
        exact (show Tryz.prog.wantsStandIn t = false by simpa using List.all_eq_true.1 hall t hm)⟩)
    (by kernel_rfl)
end Go.Proofs.YtnlnbhcjgacgmaaGreatDoor
