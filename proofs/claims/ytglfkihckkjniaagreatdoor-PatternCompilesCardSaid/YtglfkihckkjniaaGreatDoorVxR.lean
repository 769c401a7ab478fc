/-
VX, part R: the seat's program. No statement of the seat is proved here.
-/
import Derived.Test.YtglfkihckkjniaaGreatDoorVxT
import Derived.Test.YtglfkihckkjniaaGreatDoorVxS
import Derived.Lib.DecodeNEq
import Derived.Laws.StructEq
set_option maxRecDepth 100000
set_option linter.unusedVariables false
namespace Go.Proofs.YtglfkihckkjniaaGreatDoor.Vx
open Go Go.RowKit

def bodyOf (f : Func) : Code := match f.body with | some c => c | none => .skip
theorem mixed : Tryz.prog.follows .mixedOrders = true := by kernel_rfl
/-! ### the package-level tables -/
def signCells : List SC := [.int .i64 2, .int .i32 45, .int .i64 3, .int .i32 43, .int .i64 4, .int .i32 37, .int .i64 5, .int .i32 8240, .int .i64 6, .int .i32 164]
def signVals : List Value := [.int .i64 2, .int .i32 45, .int .i64 3, .int .i32 43, .int .i64 4, .int .i32 37, .int .i64 5, .int .i32 8240, .int .i64 6, .int .i32 164]
def firstVals : List Value := (List.range 256).map fun c => .int .u8 (Lib.firstT c)
def rangeVals : List Value := (List.range 16).flatMap fun i => [.int .u8 (Lib.accLo i), .int .u8 (Lib.accHi i)]
def Gl : List (Nat × (List Value → Prop)) := [(0, (· = signVals)), (1, (· = firstVals)), (2, (· = rangeVals)), (3, fun cs => ∃ m, cs = [.int .i64 m])]
def Gs : GSyms := [(0, signCells)]
theorem Gs_ok : GsOK Gs Gl := by
  intro g cs h
  unfold Gs at h
  rw [look_cons] at h
  split at h
  · rename_i e
    cases h
    subst e
    exact ⟨(· = signVals), signVals, List.mem_cons_self .., fun _ h => h, rfl⟩
  · cases h
/-! ### the operations' hooks -/
theorem fault_struct : Tryz.prog.underlying 28 = some (.struct (Tryz.prog.fieldsOf 28)) := by kernel_rfl
theorem fault_held : Tryz.prog.stoodInHeld 28 = false := by kernel_rfl
theorem fault_fields : (Tryz.prog.fieldsOf 28).toList = [{ name := "E", type := 26, offset := 0, embedded := false, tag := "", pkgPath := "", byteOffset := 0 }, { name := "At", type := 3, offset := 1, embedded := false, tag := "", pkgPath := "", byteOffset := 8 }] := by kernel_rfl
theorem fault_eq : PairEq Tryz.prog 28 .i64 .i64 := by
  intro x1 x2 y1 y2 w
  show (Op.equalIn (9999 + 1) _ _ _).run _ _ = _
  rw [run_equalIn_agg (w := w) 9999 28 _ _ fault_struct fault_held, fault_fields]
  simp [go_sem, Op.eqFields]
  by_cases h1 : x1 = y1 <;> by_cases h2 : x2 = y2 <;> simp [h1, h2]
theorem fault_guard (op : BinOp) (X Y : Operand) (x1 x2 y1 y2 : Int) (w : World) : (eqGuard op 28 X Y (.agg #[.int .i64 x1, .int .i64 x2]) (.agg #[.int .i64 y1, .int .i64 y2])).run Tryz.prog w = .ok () w := run_eqGuard_agg w op _ X Y _ _ (by kernel_rfl)
theorem item_struct : Tryz.prog.underlying 79 = some (.struct (Tryz.prog.fieldsOf 79)) := by kernel_rfl
theorem item_held : Tryz.prog.stoodInHeld 79 = false := by kernel_rfl
theorem item_fields : (Tryz.prog.fieldsOf 79).toList = [{ name := "Kind", type := 3, offset := 0, embedded := false, tag := "", pkgPath := "", byteOffset := 0 }, { name := "R", type := 21, offset := 1, embedded := false, tag := "", pkgPath := "", byteOffset := 8 }] := by kernel_rfl
theorem item_eq : PairEq Tryz.prog 79 .i64 .i32 := by
  intro x1 x2 y1 y2 w
  show (Op.equalIn (9999 + 1) _ _ _).run _ _ = _
  rw [run_equalIn_agg (w := w) 9999 79 _ _ item_struct item_held, item_fields]
  simp [go_sem, Op.eqFields]
  by_cases h1 : x1 = y1 <;> by_cases h2 : x2 = y2 <;> simp [h1, h2]
theorem item_guard (op : BinOp) (X Y : Operand) (x1 x2 y1 y2 : Int) (w : World) : (eqGuard op 79 X Y (.agg #[.int .i64 x1, .int .i32 x2]) (.agg #[.int .i64 y1, .int .i32 y2])).run Tryz.prog w = .ok () w := run_eqGuard_agg w op _ X Y _ _ (by kernel_rfl)
def misc0 : Hook := orHook (eqHook 28 .i64 .i64) (orHook (eqHook 79 .i64 .i32) (orHook (b2sHook T) (orHook (r2sHook T) (orHook (makeHook T) (globHook T Gs)))))
theorem misc0_ok : HookOK T (GC Tryz.prog Gl) misc0 := orHook_ok (eqHook_ok fault_eq fault_guard) (orHook_ok (eqHook_ok item_eq item_guard) (orHook_ok b2sHook_ok (orHook_ok r2sHook_ok (orHook_ok makeHook_ok (globHook_ok Gs_ok)))))
/-- The kit of a function: contracts, then the other operations. -/
def HKd (cs : List (Nat × FSpec)) (cas : List (Nat × ASpec)) (ms : Hook) : Hook := orHook (pureHook cs) (orHook (actHook cas) ms)
abbrev FnP (f : Nat) (s : FSpec) : Prop := Pure Tryz.prog Gl f s
abbrev FnA (f : Nat) (s : ASpec) : Prop := Acts Tryz.prog Gl f s
def OKP (cs : List (Nat × FSpec)) : Prop := ∀ f s, look f cs = some s → FnP f s
def OKA (cas : List (Nat × ASpec)) : Prop := ∀ f s, look f cas = some s → FnA f s
theorem OKP.nil : OKP [] := fun f s h => by cases h
theorem OKP.cons {f : Nat} {s : FSpec} {cs : List (Nat × FSpec)} (h : FnP f s) (hs : OKP cs) : OKP ((f, s) :: cs) := by
  intro g t ht
  rw [look_cons] at ht
  split at ht
  · rename_i e; subst e; cases ht; exact h
  · exact hs g t ht
theorem OKA.nil : OKA [] := fun f s h => by cases h
theorem OKA.cons {f : Nat} {s : ASpec} {cs : List (Nat × ASpec)} (h : FnA f s) (hs : OKA cs) : OKA ((f, s) :: cs) := by
  intro g t ht
  rw [look_cons] at ht
  split at ht
  · rename_i e; subst e; cases ht; exact h
  · exact hs g t ht
theorem HKd_ok {cs : List (Nat × FSpec)} {cas : List (Nat × ASpec)} {ms : Hook} (hc : OKP cs) (ha : OKA cas) (hm : HookOK T (GC Tryz.prog Gl) ms) : HookOK T (GC Tryz.prog Gl) (HKd cs cas ms) :=
  orHook_ok (pureHook_ok hc) (orHook_ok (actHook_ok ha) hm)
def vcP (cs : List (Nat × FSpec)) (cas : List (Nat × ASpec)) (ms : Hook) (f : Func) (A : Ann) (pvs : List PV) (r : PV) : Prop := vcPure ⟨T, HKd cs cas ms, f.ntmps⟩ (bodyOf f) f.results.toList A pvs r
def vcA (cs : List (Nat × FSpec)) (cas : List (Nat × ASpec)) (ms : Hook) (f : Func) (A : Ann) (args : List SV) (mem : List (Nat × Option SB)) (r : SV) (post : List (Nat × Option SB)) : Prop := vcActs ⟨T, HKd cs cas ms, f.ntmps⟩ (bodyOf f) f.results.toList A args mem r post
theorem fnP_ok {cs : List (Nat × FSpec)} {cas : List (Nat × ASpec)} {ms : Hook} (hc : OKP cs) (ha : OKA cas) (hm : HookOK T (GC Tryz.prog Gl) ms) (k : Nat) (fn : Func) (hf : Tryz.prog.funcs[k]? = some fn) (hb : fn.body.isSome = true) (hn : (fn.name == "runtime.NumGoroutine") = false) {s : FSpec} (A : List PV → Ann)
    (hv : ∀ pvs p r, s.spec pvs = some (p, r) → All p → vcP cs cas ms fn (A pvs) pvs r) : FnP k s := by
  obtain ⟨c, hc'⟩ := Option.isSome_iff_exists.1 hb
  refine vx_pure (k := ⟨T, HKd cs cas ms, fn.ntmps⟩) fn c hf hc' hn mixed T_ok (HKd_ok hc ha hm) rfl A ?_
  intro pvs p r hs hp
  have := hv pvs p r hs hp
  unfold vcP bodyOf at this
  rw [hc'] at this
  exact this
theorem fnA_ok {cs : List (Nat × FSpec)} {cas : List (Nat × ASpec)} {ms : Hook} (hc : OKP cs) (ha : OKA cas) (hm : HookOK T (GC Tryz.prog Gl) ms) (k : Nat) (fn : Func) (hf : Tryz.prog.funcs[k]? = some fn) (hb : fn.body.isSome = true) (hn : (fn.name == "runtime.NumGoroutine") = false) {s : ASpec} (A : List SV → List (Nat × Option SB) → Ann)
    (hv : ∀ args mem p r post, s.spec args mem = some (p, r, post) → All p → vcA cs cas ms fn (A args mem) args mem r post) : FnA k s := by
  obtain ⟨c, hc'⟩ := Option.isSome_iff_exists.1 hb
  refine vx_acts (k := ⟨T, HKd cs cas ms, fn.ntmps⟩) fn c hf hc' hn mixed T_ok (HKd_ok hc ha hm) rfl A ?_
  intro args mem p r post hs hp
  have := hv args mem p r post hs hp
  unfold vcA bodyOf at this
  rw [hc'] at this
  exact this
end Go.Proofs.YtglfkihckkjniaaGreatDoor.Vx
