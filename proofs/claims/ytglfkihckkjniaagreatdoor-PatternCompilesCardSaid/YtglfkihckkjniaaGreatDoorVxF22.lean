/-
VX, functions 22: PatternCompiles. No statement of the seat is proved here.
-/
import Derived.Test.YtglfkihckkjniaaGreatDoorVxF21
set_option maxRecDepth 100000
set_option linter.unusedVariables false
set_option linter.unusedSimpArgs false
namespace Go.Proofs.YtglfkihckkjniaaGreatDoor.Vx
open Go Go.RowKit
def sp_r3comp : FSpec := ⟨[], fun | [.one (.str s)] => some ([s.length ≤ 1000000], .tup [(true, (compileT s).1.pcs), (true, [.int .i64 (compileT s).2.1, .int .i64 (compileT s).2.2])]) | _ => none⟩
theorem ok_r3comp : FnP 15 sp_r3comp := by
  refine ⟨ok_r3compA.body, ?_⟩
  intro pvs p r hs hp
  unfold sp_r3comp at hs
  simp only at hs
  split at hs
  · rename_i s
    cases hs
    by_cases h : semA s < (els s).length
    · exact ok_r3compA.calls [.one (.str s)] [s.length ≤ 1000000, semA s < (els s).length] _ rfl ⟨hp, h⟩
    · exact ok_r3compB.calls [.one (.str s)] [s.length ≤ 1000000, ¬ semA s < (els s).length] _ rfl ⟨hp, h⟩
  · cases hs
def sp_lCompiles : FSpec := ⟨[], fun | [.one (.str s)] => some ([s.length ≤ 9223372036854775807], .one (.bool true)) | _ => none⟩
theorem vc_lCompiles (s : List UInt8) : vcP [(14, sp_pcompile), (15, sp_r3comp), (13, sp_ans16), (16, sp_spat)] [] misc Tryz.f3 (.nil) [.one (.str s)] (.one (.bool true)) = (letI v0 := (List.length (Pat.pre (compileT s).1) ≤ (1000000000000 : Nat) ∧ List.length (Pat.suf (compileT s).1) ≤ (1000000000000 : Nat) ∧ List.length (Pat.npre (compileT s).1) ≤ (1000000000000 : Nat) ∧ List.length (Pat.nsuf (compileT s).1) ≤ (1000000000000 : Nat)); (br (decide ((↑(List.length s) : Int) > (1000 : Int))) (true = true) (List.length s ≤ (1000000 : Nat) ∧ List.length s ≤ (1000000 : Nat) ∧ br (decide ((compileT s).2.1 = (compileT s).2.1) && decide ((compileT s).2.2 = (compileT s).2.2)) (v0 ∧ v0 ∧ samePt (compileT s).1 (compileT s).1 = true) (false = true)))) := by kernel_rfl
set_option maxHeartbeats 4000000 in
theorem of_lCompiles (h : ∀ (s : List UInt8), (s.length ≤ 9223372036854775807) → vcP [(14, sp_pcompile), (15, sp_r3comp), (13, sp_ans16), (16, sp_spat)] [] misc Tryz.f3 (.nil) [.one (.str s)] (.one (.bool true))) : FnP 3 sp_lCompiles := by
  refine fnP_ok (cs := [(14, sp_pcompile), (15, sp_r3comp), (13, sp_ans16), (16, sp_spat)]) (cas := []) (ms := misc) (.cons ok_pcompile (.cons ok_r3comp (.cons ok_ans16 (.cons ok_spat .nil)))) .nil misc_ok 3 Tryz.f3 (by kernel_rfl) (by kernel_rfl) (by kernel_rfl) (fun _ => .nil) ?_
  intro pvs p r hs hp
  unfold sp_lCompiles at hs
  simp only at hs
  split at hs
  · rename_i s
    cases hs
    refine h s ?_
    · exact hp
  · cases hs
theorem samePt_refl (p : Pat) : samePt p p = true := by
  unfold samePt sameN
  simp
theorem ok_lCompiles : FnP 3 sp_lCompiles := of_lCompiles (by
  intro s hs
  rw [vc_lCompiles]
  refine br_of (fun h => rfl) fun h => ?_
  have h : ¬ ((s.length : Int) > 1000) := of_decide_eq_false h
  refine ⟨by omega, by omega, br_of (fun h1 => ⟨(compileT_small s).mono (by decide), (compileT_small s).mono (by decide), samePt_refl _⟩) fun h1 => ?_⟩
  rw [decide_eq_true rfl, decide_eq_true rfl] at h1
  cases h1)
end Go.Proofs.YtglfkihckkjniaaGreatDoor.Vx
