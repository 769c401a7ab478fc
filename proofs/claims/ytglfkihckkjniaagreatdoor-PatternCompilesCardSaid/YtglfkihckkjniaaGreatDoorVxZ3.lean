/-
PatternCompiles, for every text. The pattern, or the fault, is what the plain reference says. Condition: the listed package-level variables (affix.signs, utf8.first, utf8.acceptRanges) hold what the program's text lays; the card ties them.
-/
import Derived.Test.YtglfkihckkjniaaGreatDoorVxF22
import Derived.Test.YtglfkihckkjniaaGreatDoorVxZ1
import Derived.Test.YtglfkihckkjniaaGreatDoorCards
set_option maxRecDepth 100000
set_option linter.unusedVariables false
set_option linter.unusedSimpArgs false
namespace Go.Proofs.YtglfkihckkjniaaGreatDoor
open Go Go.RowKit Go.ChangeShapes Go.WideShapes Go.ChangeAt Go.WideMaps Go.WideElems
open Go.ChangeMaps (open_string shut_string)
theorem patternCompiles_lifted (os : Os) (started : os.Started) (H : Type) (enc : TypeId × Value → H) :
    ReturnsInHanded {} Tryz.checked os 3 .any (fun w args => (Rows.patternCompilesSpec.pre enc Tryz.prog Tryz.f3 [] false w args ∧ laidMetH Tryz.prog Vx.laidL w) ∧ sizedMet enc Tryz.prog Tryz.f3 (OpenSpec.ofChange Rows.patternCompilesSpec) false w args)
      (Rows.patternCompilesSpec.post enc Tryz.prog Tryz.f3 false true false false) := by
  refine Vx.returnsInHanded_of_change_both (C := Tryz.checked) (X := fun w _ => laidMetH Tryz.prog Vx.laidL w) (fun _ _ _ hh h => h.of_heap hh) Vx.own started (by kernel_rfl) Tryz.func3
    (ChangeSpec.witness_shaped (enc := enc) (C := Tryz.checked) (os := os) (X := fun w _ => laidMetH Tryz.prog Vx.laidL w) false (World.laidAll Tryz.prog os Vx.laidL) #[.string ⟨#[]⟩] 8 (World.laidAll_os _ _ _)
      (World.shaped_of_ZipB (by kernel_rfl) (by kernel_rfl)) (by kernel_rfl) (by kernel_rfl) (by kernel_rfl)
      (by rw [MakeChecks.laidMetH_plain _ _ _ (by kernel_rfl)]; exact laidMet_laidAll _ (by kernel_rfl) (by kernel_rfl))) ?_
  intro W base args ds gs before hval0 hW hwt hL hsh
  have hval : ∀ (j : Nat) t v, (Tryz.f3).params[j]? = some t → args[j]? = some v → Value.okWide Tryz.prog W .any base t v := hval0
  have hW' := hW
  obtain ⟨p, q, hA0, hV, rfl, _, _⟩ := hW
  have hA : DataW.TrodAll enc Tryz.prog W 0 (fun _ => true) true (Tryz.f3).params.toList args.toList ds p := hA0
  rw [Tryz.params3] at hA hval
  obtain ⟨v0, d0, rfl, rfl, h0⟩ := trodAll_one hA
  obtain ⟨rfl, rfl⟩ := trodVars_none hV
  obtain ⟨s, rfl, rfl, rfl, ws⟩ := open_string Tryz.underlying9 (hval 0 9 v0 rfl rfl) h0
  rw [MakeChecks.laidMetH_plain _ _ _ (by kernel_rfl)] at hL
  have hG := Vx.zglob_of hL hsh
  refine (Vx.ok_lCompiles.calls [.one (.str s.data.toList)] _ _ rfl ?_ W (fun _ => True) [.string s] hG (.cons rfl .nil)).mono fun e W' ⟨v, he, hf, hr⟩ => ?_
  · show s.data.toList.length ≤ _
    have : s.data.toList.length = s.size := rfl
    rw [this]; have := ws; unfold maxLen at this; omega
  · subst he
    have hv : v = .bool true := hr
    subst hv
    exact ⟨_, rfl, _, _, _, [], [], [], hW', trodAll_mk1 (shut_bool Tryz.underlying4 _), trodAll_mk1 (shut_string Tryz.underlying9 ws), rfl, hf.toBelow.frame _, fun h => by cases h⟩
theorem patternCompiles_row : Rows.PatternCompilesSaid :=
  OpenClaim.holds_of_wide 3 Tryz.f3 rfl rfl rfl rfl rfl rfl rfl ⟨rfl, rfl, rfl, rfl, rfl⟩ rfl rfl rfl rfl rfl (by kernel_rfl) Tryz.func3 (by kernel_rfl)
    (of_decide_eq_true (by kernel_rfl)) (by unfold Func.isWrapper; first | (rw [if_pos (by decide +kernel)]; kernel_rfl) | (rw [if_neg (by decide +kernel)]; exact ⟨rfl, rfl⟩))
    (fun os started H enc _ => patternCompiles_lifted os started H enc)
theorem patternCompiles_holds : Rows.PatternCompilesCardSaid :=
  Claim7.holds_tied_plain_at .later [] [.data, .data, .pinned] true (true, "efc9b9724901080112084f73a697328dd09578dd28719bb0ac9c248973d7dd84") true
    patternCompiles_row (fun _ h => by cases h) (by kernel_rfl) (fun _ h => by cases h) patternCompiles_row_tie rfl ⟨rfl, rfl⟩ (by kernel_rfl) rfl
    (fun f fn hf hfn => by
      obtain rfl : f = 3 := Option.some.inj ((show Tryz.prog.funcNamed "figurehead/figureheadlaw16.PatternCompiles" = some 3 by kernel_rfl).symm.trans hf) |>.symm
      obtain rfl : fn = Tryz.f3 := (Option.some.inj (Tryz.func3.symm.trans hfn)).symm
      exact ⟨by kernel_rfl, fun j t ht => by
        rw [Tryz.params3] at ht
        have hm : t ∈ [9] := by simpa using Array.mem_of_getElem? ht
        have hall : ([9].all fun u => !(Tryz.prog).wantsStandIn u) = true := by kernel_rfl
        exact (show (Tryz.prog).wantsStandIn t = false by simpa using List.all_eq_true.1 hall t hm)⟩)
    (by kernel_rfl)
#print axioms patternCompiles_holds
end Go.Proofs.YtglfkihckkjniaaGreatDoor
