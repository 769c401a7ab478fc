/-
VX, functions 0: the small interfaces' methods. No statement of the seat is proved here.
-/
import Derived.Test.YtglfkihckkjniaaGreatDoorVxR
set_option maxRecDepth 100000
set_option linter.unusedVariables false
set_option linter.unusedSimpArgs false
namespace Go.Proofs.YtglfkihckkjniaaGreatDoor.Vx
open Go Go.RowKit

def sp_placeS : FSpec := ⟨[], fun | [.agg [.int .i32 r, .bool q, .int .i64 p]] => some ([], .one (.int .i64 p)) | _ => none⟩
theorem vc_placeS (r : Int) (q : Bool) (p : Int) : vcP [] [] misc0 Tryz.f184 (.nil) [.agg [.int .i32 r, .bool q, .int .i64 p]] (.one (.int .i64 p)) = (p = p) := by kernel_rfl
set_option maxHeartbeats 4000000 in
theorem of_placeS (h : ∀ (r : Int) (q : Bool) (p : Int), vcP [] [] misc0 Tryz.f184 (.nil) [.agg [.int .i32 r, .bool q, .int .i64 p]] (.one (.int .i64 p))) : FnP 184 sp_placeS := by
  refine fnP_ok (cs := []) (cas := []) (ms := misc0) .nil .nil misc0_ok 184 Tryz.f184 (by kernel_rfl) (by kernel_rfl) (by kernel_rfl) (fun _ => .nil) ?_
  intro pvs p r hs hp
  unfold sp_placeS at hs
  simp only at hs
  split at hs
  · rename_i r q p
    cases hs
    refine h r q p
  · cases hs
def sp_placeP : FSpec := ⟨[], fun | [.agg [.int .i32 r, .int .i64 p]] => some ([], .one (.int .i64 p)) | _ => none⟩
theorem vc_placeP (r : Int) (p : Int) : vcP [] [] misc0 Tryz.f183 (.nil) [.agg [.int .i32 r, .int .i64 p]] (.one (.int .i64 p)) = (p = p) := by kernel_rfl
set_option maxHeartbeats 4000000 in
theorem of_placeP (h : ∀ (r : Int) (p : Int), vcP [] [] misc0 Tryz.f183 (.nil) [.agg [.int .i32 r, .int .i64 p]] (.one (.int .i64 p))) : FnP 183 sp_placeP := by
  refine fnP_ok (cs := []) (cas := []) (ms := misc0) .nil .nil misc0_ok 183 Tryz.f183 (by kernel_rfl) (by kernel_rfl) (by kernel_rfl) (fun _ => .nil) ?_
  intro pvs p r hs hp
  unfold sp_placeP at hs
  simp only at hs
  split at hs
  · rename_i r p
    cases hs
    refine h r p
  · cases hs
def sp_placeL : FSpec := ⟨[], fun | [.agg [.int .i32 r, .int .i64 p]] => some ([], .one (.int .i64 p)) | _ => none⟩
theorem vc_placeL (r : Int) (p : Int) : vcP [] [] misc0 Tryz.f185 (.nil) [.agg [.int .i32 r, .int .i64 p]] (.one (.int .i64 p)) = (p = p) := by kernel_rfl
set_option maxHeartbeats 4000000 in
theorem of_placeL (h : ∀ (r : Int) (p : Int), vcP [] [] misc0 Tryz.f185 (.nil) [.agg [.int .i32 r, .int .i64 p]] (.one (.int .i64 p))) : FnP 185 sp_placeL := by
  refine fnP_ok (cs := []) (cas := []) (ms := misc0) .nil .nil misc0_ok 185 Tryz.f185 (by kernel_rfl) (by kernel_rfl) (by kernel_rfl) (fun _ => .nil) ?_
  intro pvs p r hs hp
  unfold sp_placeL at hs
  simp only at hs
  split at hs
  · rename_i r p
    cases hs
    refine h r p
  · cases hs
theorem ok_placeS : FnP 184 sp_placeS := of_placeS (by intros; rw [vc_placeS])
theorem ok_placeP : FnP 183 sp_placeP := of_placeP (by intros; rw [vc_placeP])
theorem ok_placeL : FnP 185 sp_placeL := of_placeL (by intros; rw [vc_placeL])
theorem place_calls {f : Nat} {s : FSpec} (h : FnP f s) {l : List Pc} {vs : List Value} {p : Int} (hs : s.spec [.agg l] = some ([], .one (.int .i64 p))) (w : World) (hg : Glob Gl w) (hv : All2 (ReadsC w fun _ => False) vs l) :
    Calls Tryz.prog f #[.agg vs.toArray] w fun e w' => e = .returned (.int .i64 p) ∧ Fr (fun _ => False) w w' := by
  refine (h.calls _ _ _ hs trivial w (fun _ => False) [.agg vs.toArray] hg (.cons ⟨vs, rfl, hv⟩ .nil)).mono ?_
  rintro e w' ⟨v, rfl, h1, h2⟩
  exact ⟨by rw [show v = .int .i64 p from h2], h1⟩
theorem placeE : PlaceOK Tryz.prog Gl "figurehead/pattern.place" Iv.isE := by
  intro y hy w hg
  cases y with
  | single r q p => exact ⟨184, #[.agg #[.int .i32 r, .bool q, .int .i64 p]], by kernel_rfl, place_calls (l := [.int .i32 r, .bool q, .int .i64 p]) (vs := [.int .i32 r, .bool q, .int .i64 p]) ok_placeS rfl w hg (.cons rfl (.cons rfl (.cons rfl .nil)))⟩
  | padding r p => exact ⟨183, #[.agg #[.int .i32 r, .int .i64 p]], by kernel_rfl, place_calls (l := [.int .i32 r, .int .i64 p]) (vs := [.int .i32 r, .int .i64 p]) ok_placeP rfl w hg (.cons rfl (.cons rfl .nil))⟩
  | plain r p => cases hy
  | quoted r p => cases hy
theorem placeT : PlaceOK Tryz.prog Gl "figurehead/token.place" Iv.isT := by
  intro y hy w hg
  cases y with
  | single r q p => cases hy
  | padding r p => cases hy
  | plain r p => exact ⟨185, #[.agg #[.int .i32 r, .int .i64 p]], by kernel_rfl, place_calls (l := [.int .i32 r, .int .i64 p]) (vs := [.int .i32 r, .int .i64 p]) ok_placeL rfl w hg (.cons rfl (.cons rfl .nil))⟩
  | quoted r p => exact ⟨185, #[.agg #[.int .i32 r, .int .i64 p]], by kernel_rfl, place_calls (l := [.int .i32 r, .int .i64 p]) (vs := [.int .i32 r, .int .i64 p]) ok_placeL rfl w hg (.cons rfl (.cons rfl .nil))⟩
def misc : Hook := orHook misc0 (placeHook "figurehead/pattern.place" "figurehead/token.place")
theorem misc_ok : HookOK T (GC Tryz.prog Gl) misc := orHook_ok misc0_ok (placeHook_ok placeE placeT)
end Go.Proofs.YtglfkihckkjniaaGreatDoor.Vx
