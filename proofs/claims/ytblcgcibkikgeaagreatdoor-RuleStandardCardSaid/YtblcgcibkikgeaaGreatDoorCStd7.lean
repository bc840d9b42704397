/- RuleStandard (P37.4), its tied card: for every int the law returns true and the argument reads as before: there is a standard rule for each kind, all balance, and they can be used with the standard chart. Conditions: none beyond those of the given row (package-level variables hold what the program text lays; the tie is the given one). -/
import Derived.Test.YtblcgcibkikgeaaGreatDoorCards
import Derived.Test.YtblcgcibkikgeaaGreatDoorTie
import Derived.SevenTiedAt
import Derived.Test.YtblcgcibkikgeaaGreatDoorCStd6
section
namespace Go.Proofs.YtblcgcibkikgeaaGreatDoor.RuleStandard
open Go Go.ChangeShapes Go.WideShapes Go.ChangeAt Go.RowKit Go.Proofs.YtblcgcibkikgeaaGreatDoor.Row
set_option linter.unusedVariables false
set_option maxRecDepth 100000 in
theorem lifted (os : Os) (started : os.Started) (H : Type) (enc : TypeId × Value → H) (F : Stop.Interp) :
    ReturnsInHanded {} Tryz.checked os 6 .any ((OpenSpec.ofChange Rows.ruleStandardSpec).preRow enc Tryz.prog Tryz.f6 Rows.ruleStandardRow.domain false Rows.ruleStandardRow.laid) (((OpenSpec.ofChange Rows.ruleStandardSpec).at F).post enc Tryz.prog Tryz.f6 false true false false) := by
  refine returnsInHanded_of_row (C := Tryz.checked) (s := OpenSpec.ofChange Rows.ruleStandardSpec) own started (by kernel_rfl) Tryz.func6
    (by
      obtain ⟨w, tape, i, h1, h2, h3, h4, h5, h6⟩ := ChangeSpec.witness_shaped (enc := enc) (C := Tryz.checked) (os := os) (f := 6) (fn := Tryz.f6) (s := Rows.ruleStandardSpec) (conds := Rows.ruleStandardRow.domain) (apart := false) (X := fun w _ => laidMetH Tryz.prog Rows.ruleStandardRow.laid w) false (World.laidAll Tryz.prog os Rows.ruleStandardRow.laid) #[.int .i64 0] 8 (World.laidAll_os _ _ _)
        (laidWorld_shaped os _) (by kernel_rfl) (by kernel_rfl) (by kernel_rfl) (laidWorld_met os _)
      exact ⟨w, tape, i, h1, h2, h3, h4, h5, h6⟩) ?_
  intro W base args ds gs before hval0 hW _ _ _ hL hsh _
  have hval : ∀ (j : Nat) t v, Tryz.f6.params[j]? = some t → args[j]? = some v → Value.okWide Tryz.prog W .any base t v := hval0
  have hW' := hW
  obtain ⟨p, q, hA0, hV, rfl, _, _⟩ := hW
  have hA : DataW.TrodAll enc Tryz.prog W 0 (fun _ => true) true Tryz.f6.params.toList args.toList ds p := hA0
  rw [Tryz.params6] at hA hval
  obtain ⟨v0, d0, rfl, rfl, h0⟩ := trodAll_one hA
  obtain ⟨rfl, rfl⟩ := trodVars_none hV
  obtain ⟨x, rfl, rfl, rfl, wx⟩ := open_int Tryz.underlying3 (hval 0 3 v0 rfl rfl) h0
  simp only [List.append_nil] at hW'
  refine (G.std_walk x W (laid_of hL hsh)).mono fun e W' ⟨he, hb⟩ => ?_
  subst he
  exact ⟨_, rfl, _, _, _, [], _, [], hW', trodAll_mk1 (shut_bool Tryz.underlying4 _), trodAll_mk1 (shut_int Tryz.underlying3 wx), rfl, hb.frame _, fun h => by cases h⟩
theorem said : Rows.RuleStandardSaid :=
  OpenClaim.holds_of_cond 6 Tryz.f6 rfl rfl rfl rfl rfl rfl rfl ⟨rfl, rfl, rfl, rfl, rfl⟩ rfl rfl rfl rfl rfl (by kernel_rfl) Tryz.func6 (by kernel_rfl)
    (of_decide_eq_true (by kernel_rfl)) (by unfold Func.isWrapper; first | (rw [if_pos (by decide +kernel)]; kernel_rfl) | (rw [if_neg (by decide +kernel)]; exact ⟨rfl, rfl⟩))
    (fun os started H enc _ F => by rw [OpenClaim.pre_eq_preRow]; exact lifted os started H enc F)
theorem plain (f : FuncId) (fn : Func) (hf : Tryz.pinned.checked.prog.funcNamed "tranche/tranchelaw37.RuleStandard" = some f) (hfn : Tryz.pinned.checked.prog.funcs[f]? = some fn) :
    true = Tryz.pinned.checked.prog.looks [] ∧ ∀ (j : Nat) t, fn.params[j]? = some t → Tryz.pinned.checked.prog.wantsStandIn t = false := by
  obtain rfl : f = 6 := Option.some.inj ((show Tryz.prog.funcNamed "tranche/tranchelaw37.RuleStandard" = some 6 by kernel_rfl).symm.trans hf) |>.symm
  obtain rfl : fn = Tryz.f6 := (Option.some.inj (Tryz.func6.symm.trans hfn)).symm
  refine ⟨by kernel_rfl, fun j t ht => ?_⟩
  rw [Tryz.params6] at ht
  obtain rfl : t = 3 := by simpa using Array.mem_of_getElem? ht
  exact (show Tryz.prog.wantsStandIn 3 = false by kernel_rfl)
theorem card : Rows.RuleStandardCardSaid :=
  Claim7.holds_tied_plain_at .later [] _ _ _ _ said (fun _ h => by cases h) (by kernel_rfl) (fun _ h => by cases h) ruleStandard_row_tie rfl ⟨rfl, rfl⟩ (by kernel_rfl) rfl plain (by kernel_rfl)
end Go.Proofs.YtblcgcibkikgeaaGreatDoor.RuleStandard
end
