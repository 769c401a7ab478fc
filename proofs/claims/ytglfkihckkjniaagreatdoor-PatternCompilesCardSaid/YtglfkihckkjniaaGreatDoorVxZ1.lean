/-
VX, the way from a function's contract to a statement: what the listed variables say of memory; what is read at the start. No statement of the seat is proved here.
-/
import Derived.Test.YtglfkihckkjniaaGreatDoorVxR
import Derived.Test.YtglfkihckkjniaaGreatDoorTie
import Derived.HandedShaped
import Derived.ProofKit
import Derived.Shelf.Vars
import Derived.PinnedBridge
import Derived.Lay
import Derived.Lib.LaidU8
import Derived.LaidMore
import Derived.OpenShut
set_option maxRecDepth 100000
set_option linter.unusedVariables false
set_option linter.unusedSimpArgs false
namespace Go.Proofs.YtglfkihckkjniaaGreatDoor.Vx
open Go Go.RowKit Go.ChangeShapes Go.WideShapes Go.ChangeAt Go.WideMaps Go.WideElems
open Go.ChangeMaps (open_string shut_string)
open Go.Lib (array_elem)
/-- The wrap that keeps both the listed variables and the world's shape. -/
theorem returnsInHanded_of_change_both {H : Type} {enc : TypeId × Value → H} {a : Assume} {C : Checked} {os : Os} {f : FuncId} {fn : Func} {s : ChangeSpec} {conds : List PathCond} {apart fresh handsOn again : Bool} {X : World → Array Value → Prop}
    (hX : ∀ (w w' : World) (args : Array Value), w.heap = w'.heap → X w args → X w' args)
    (own : ownKnob C.prog.godebug = none) (started : os.Started) (noInit : C.prog.inits.idxOf? f = none) (hfn : C.prog.funcs[f]? = some fn)
    (witness : ∃ (w : World) (tape : Tape) (i : Input), w.os = os ∧ (w.forCall tape i).Shaped C.prog ∧ i.vars = [] ∧ Input.okWide C.prog (w.forCall tape i) .any w.heap.size f i ∧
      ((s.pre enc C.prog fn conds apart (w.forCall tape i).memory i.args ∧ X (w.forCall tape i).memory i.args) ∧ sizedMet enc C.prog fn (OpenSpec.ofChange s) apart (w.forCall tape i).memory i.args) ∧ a.holds C.prog (lone (Frame.enter C.prog f i.args .normal) [] (w.forCall tape i)))
    (contract : ∀ (W : World) (base : Nat) (args : Array Value) (ds gs : List (DataW H)) (before : List MemPlace),
      (∀ (j : Nat) t v, fn.params[j]? = some t → args[j]? = some v → Value.okWide C.prog W .any base t v) →
      DataW.Whole enc C.prog fn.params.toList s.vars apart W args.toList ds gs before →
      (DataW.weightsEach C.prog (fn.params.toList ++ s.plain.varTypes C.prog) (ds ++ gs)).all (· ≤ reachBytes) = true → X W args → W.ShapedOpen C.prog →
      Calls C.prog f args W fun e W' => ∃ v, e = .returned v ∧ s.post enc C.prog fn apart fresh handsOn again W args v W') :
    ReturnsInHanded a C os f .any (fun w args => (s.pre enc C.prog fn conds apart w args ∧ X w args) ∧ sizedMet enc C.prog fn (OpenSpec.ofChange s) apart w args) (s.post enc C.prog fn apart fresh handsOn again) := by
  refine returnsInHanded_of_calls own started noInit witness ?_
  intro w tape i _ hsh _ hok hpre hholds
  obtain ⟨_, _, _, fn', hfn', _, _, _, _, hval⟩ := hok
  have e : fn' = fn := Option.some.inj (hfn'.symm.trans hfn)
  subst e
  obtain ⟨⟨⟨ds, gs, before, hw, hc⟩, hx⟩, hz⟩ := hpre
  have hw' := DataW.Whole.of_heap (w' := w.forCall tape i) (by rfl) hw
  refine (contract (w.forCall tape i) w.heap.size i.args ds gs before hval hw' (hz.weights hw) (hX _ _ _ (by rfl) hx) hsh).mono fun e W' ⟨v, he, hp⟩ => ?_
  subst he
  exact ChangeSpec.post_blind hp
/-! ### what the listed variables say -/
def laidL : List (String × DataW Unit) := [("unicode/utf8.acceptRanges", Rows.laid_unicode_utf8_acceptRanges), ("figurehead/affix.signs", Rows.laid_figurehead_affix_signs), ("unicode/utf8.first", Rows.laid_unicode_utf8_first)]
theorem own : ownKnob Tryz.prog.godebug = none := by kernel_rfl
theorem laidOut : laidOutB Tryz.prog = true := by kernel_rfl
section
variable {P : Program} {w : World} {base : Nat} {sp : Nat → Bool} {held : Bool}
/-- An array of pairs of numbers. -/
theorem cells_of_pairs {fuel : Nat} {t e : TypeId} {n : Nat} {f0 f1 : Field} {k0 k1 : IntKind} {cs : List Value} {zs : List (Int × Int)} {p : List MemPlace}
    (ht : P.underlying t = some (.array n e)) (he : P.underlying e = some (.struct #[f0, f1])) (h0 : P.underlying f0.type = some (.int k0)) (h1 : P.underlying f1.type = some (.int k1))
    (o0 : f0.offset = 0) (o1 : f1.offset = 1) (c0 : P.cellsOf f0.type = 1) (c1 : P.cellsOf f1.type = 1) (ce : P.cellsOf e = 2) (ct : P.cellsOf t = n * 2)
    (h : DataW.trod (fun _ => ()) P w base sp held fuel t cs = some (.agg (zs.map fun z => .agg [.lit (.int k0 z.1), .lit (.int k1 z.2)]), p)) : cs = zs.flatMap fun z => [.int k0 z.1, .int k1 z.2] := by
  have hzl : zs.length = n ∧ cs.length = n * 2 := by
    cases fuel with
    | zero => simp [DataW.trod] at h
    | succ fuel =>
      simp only [DataW.trod, ht, ce, ct] at h
      split at h
      · rename_i hl
        obtain ⟨xs, hm, hx⟩ := Option.map_eq_some_iff.1 h
        have hxl : xs.length = n := by simpa using Lib.mapM_length hm
        have h2 := congrArg List.length (show xs.map (·.1) = zs.map fun z => (DataW.agg [.lit (.int k0 z.1), .lit (.int k1 z.2)] : DataW Unit) by simpa using congrArg Prod.fst hx)
        simp at h2
        exact ⟨by omega, by simpa using hl⟩
      · cases h
  have key : ∀ i, i < n → (cs.drop (i * 2)).take 2 = [Value.int k0 (zs.getD i (0, 0)).1, .int k1 (zs.getD i (0, 0)).2] := by
    intro i hi
    obtain ⟨fuel', d, q, hd, hr⟩ := array_elem ht h i hi
    rw [ce] at hr
    rw [List.getElem?_map, List.getElem?_eq_getElem (by omega), Option.map_some, Option.some.injEq] at hd
    subst hd
    rw [List.getD_eq_getElem?_getD, List.getElem?_eq_getElem (by omega), Option.getD_some]
    obtain ⟨xs, m, rfl, hx, hl, hxl, hall⟩ := DataW.trod_struct he hr
    have hx := congrArg Prod.fst hx
    have e0 := hall 0 f0 rfl
    have e1 := hall 1 f1 rfl
    match xs, hxl with
    | [x0, x1], _ =>
      rw [o0, c0] at e0
      rw [o1, c1] at e1
      simp only [List.map_cons, List.map_nil, DataW.agg.injEq, List.cons.injEq, and_true] at hx
      obtain ⟨a0, g1, g2, _⟩ := DataW.trod_int h0 (show DataW.trod _ P w base sp held m f0.type _ = some x0 from e0)
      obtain ⟨a1, g3, g4, _⟩ := DataW.trod_int h1 (show DataW.trod _ P w base sp held m f1.type _ = some x1 from e1)
      have q0 : a0 = (zs[i]'(by omega)).1 := by rw [g2] at hx; simpa using hx.1.symm
      have q1 : a1 = (zs[i]'(by omega)).2 := by rw [g4] at hx; simpa using hx.2.symm
      rw [← q0, ← q1]
      generalize hL : (cs.drop (i * 2)).take 2 = L at g1 g3 hl
      rw [ce] at hl
      match L, hl with
      | [u, v], _ =>
        simp at g1 g3
        rw [g1, g3]
  apply List.ext_getElem?
  intro j
  have hfl : ∀ (zs : List (Int × Int)) (j : Nat), (zs.flatMap fun z => [Value.int k0 z.1, .int k1 z.2])[j]? = if j < zs.length * 2 then some (if j % 2 = 0 then Value.int k0 (zs.getD (j / 2) (0, 0)).1 else .int k1 (zs.getD (j / 2) (0, 0)).2) else none := by
    intro zs
    induction zs with
    | nil => intro j; simp
    | cons z zs ih =>
      intro j
      match j with
      | 0 => simp
      | 1 => simp; omega
      | j + 2 =>
        have e : ((z :: zs).flatMap fun z => [Value.int k0 z.1, .int k1 z.2])[j + 2]? = (zs.flatMap fun z => [Value.int k0 z.1, .int k1 z.2])[j]? := by simp
        rw [e, ih j]
        have e1 : (j + 2) % 2 = j % 2 := by omega
        have e2 : (j + 2) / 2 = j / 2 + 1 := by omega
        have e3 : (j + 2 < (z :: zs).length * 2) ↔ (j < zs.length * 2) := by simp; omega
        rw [e1, e2]
        simp only [e3, List.getD_cons_succ]
  rw [hfl]
  split
  · rename_i hj
    have hk := key (j / 2) (by omega)
    split
    · rename_i h2
      have := congrArg (·[0]?) hk
      simp only [List.getElem?_take, List.getElem?_drop] at this
      have e : j / 2 * 2 + 0 = j := by omega
      rw [e] at this
      simpa using this
    · rename_i h2
      have := congrArg (·[1]?) hk
      simp only [List.getElem?_take, List.getElem?_drop] at this
      have e : j / 2 * 2 + 1 = j := by omega
      rw [e] at this
      simpa using this
  · rw [List.getElem?_eq_none (by omega)]
end
theorem block_of_var {P : Program} {w : World} {n : String} {g : Nat} {cs : Array Value} (hg : P.globalNamed n = some g) (h : w.var? P n = some cs) : ∃ ty fz, w.heap[g]? = some (.cells cs ty fz) := by
  simp only [World.var?, hg, Option.bind_some] at h
  split at h
  · rename_i cs' ty fz e
    cases h
    exact ⟨ty, fz, e⟩
  · cases h
theorem signVals_eq : signVals = ([(2, 45), (3, 43), (4, 37), (5, 8240), (6, 164)] : List (Int × Int)).flatMap fun z => [Value.int .i64 z.1, .int .i32 z.2] := rfl
def rangeZ : List (Int × Int) := (List.range 16).map fun i => (((Lib.accLo i : Nat) : Int), ((Lib.accHi i : Nat) : Int))
theorem rangeVals_eq : rangeVals = rangeZ.flatMap fun z => [Value.int .u8 z.1, .int .u8 z.2] := by kernel_rfl
theorem laid_range : (Rows.laid_unicode_utf8_acceptRanges : DataW Unit) = .agg (rangeZ.map fun z => .agg [.lit (.int .u8 z.1), .lit (.int .u8 z.2)]) := by kernel_rfl
theorem laid_signs : (Rows.laid_figurehead_affix_signs : DataW Unit) = .agg (([(2, 45), (3, 43), (4, 37), (5, 8240), (6, 164)] : List (Int × Int)).map fun z => .agg [.lit (.int .i64 z.1), .lit (.int .i32 z.2)]) := rfl
theorem laid_first : Rows.laid_unicode_utf8_first = Lib.firstData := Pinned.utf8First_eq
theorem firstVals_eq : firstVals = Lib.firstTab.map fun z => Value.int .u8 z := by kernel_rfl
theorem zglob_signs {W : World} (h : Lib.VarReads Tryz.prog W "figurehead/affix.signs" (.agg (([(2, 45), (3, 43), (4, 37), (5, 8240), (6, 164)] : List (Int × Int)).map fun z => .agg [.lit (.int .i64 z.1), .lit (.int .i32 z.2)]))) :
    ∃ (cs : List Value) (ty : TypeId) (fz : Nat × Nat), W.heap[(0 : Nat)]? = some (.cells cs.toArray ty fz) ∧ cs = signVals := by
  obtain ⟨g, t, cs, fuel, p, hg, hty, hvar, hd⟩ := h
  obtain rfl := Option.some.inj ((show Tryz.prog.globalNamed "figurehead/affix.signs" = some 0 by kernel_rfl).symm.trans hg)
  obtain rfl := Option.some.inj ((show (Tryz.prog.globals[(0 : Nat)]?).map (·.type) = some 159 by kernel_rfl).symm.trans hty)
  obtain ⟨ty, fz, hb⟩ := block_of_var hg hvar
  refine ⟨cs.toList, ty, fz, hb, ?_⟩
  rw [signVals_eq]
  exact cells_of_pairs (n := 5) (e := 79) (f0 := { name := "Kind", type := 3, offset := 0, embedded := false, tag := "", pkgPath := "", byteOffset := 0 }) (f1 := { name := "R", type := 21, offset := 1, embedded := false, tag := "", pkgPath := "", byteOffset := 8 }) (by kernel_rfl) (by kernel_rfl) (by kernel_rfl) (by kernel_rfl) rfl rfl (by kernel_rfl) (by kernel_rfl) (by kernel_rfl) (by kernel_rfl) hd
theorem zglob_range {W : World} (h : Lib.VarReads Tryz.prog W "unicode/utf8.acceptRanges" (.agg (rangeZ.map fun z => .agg [.lit (.int .u8 z.1), .lit (.int .u8 z.2)]))) :
    ∃ (cs : List Value) (ty : TypeId) (fz : Nat × Nat), W.heap[(2 : Nat)]? = some (.cells cs.toArray ty fz) ∧ cs = rangeVals := by
  obtain ⟨g, t, cs, fuel, p, hg, hty, hvar, hd⟩ := h
  obtain rfl := Option.some.inj ((show Tryz.prog.globalNamed "unicode/utf8.acceptRanges" = some 2 by kernel_rfl).symm.trans hg)
  obtain rfl := Option.some.inj ((show (Tryz.prog.globals[(2 : Nat)]?).map (·.type) = some 185 by kernel_rfl).symm.trans hty)
  obtain ⟨ty, fz, hb⟩ := block_of_var hg hvar
  refine ⟨cs.toList, ty, fz, hb, ?_⟩
  rw [rangeVals_eq]
  exact cells_of_pairs (n := 16) (e := 184) (f0 := { name := "lo", type := 5, offset := 0, embedded := false, tag := "", pkgPath := "unicode/utf8", byteOffset := 0 }) (f1 := { name := "hi", type := 5, offset := 1, embedded := false, tag := "", pkgPath := "unicode/utf8", byteOffset := 1 }) (by kernel_rfl) (by kernel_rfl) (by kernel_rfl) (by kernel_rfl) rfl rfl (by kernel_rfl) (by kernel_rfl) (by kernel_rfl) (by kernel_rfl) hd
theorem zglob_first {W : World} (h : Lib.VarReads Tryz.prog W "unicode/utf8.first" Lib.firstData) :
    ∃ (cs : List Value) (ty : TypeId) (fz : Nat × Nat), W.heap[(1 : Nat)]? = some (.cells cs.toArray ty fz) ∧ cs = firstVals := by
  obtain ⟨g, t, cs, fuel, p, hg, hty, hvar, hd⟩ := h
  obtain rfl := Option.some.inj ((show Tryz.prog.globalNamed "unicode/utf8.first" = some 1 by kernel_rfl).symm.trans hg)
  obtain rfl := Option.some.inj ((show (Tryz.prog.globals[(1 : Nat)]?).map (·.type) = some 182 by kernel_rfl).symm.trans hty)
  obtain ⟨ty, fz, hb⟩ := block_of_var hg hvar
  refine ⟨cs.toList, ty, fz, hb, ?_⟩
  rw [firstVals_eq]
  exact Lib.cells_of_tab (n := 256) (e := 5) (by kernel_rfl) (by kernel_rfl) (by kernel_rfl) (by kernel_rfl) hd
theorem zglob_max {W : World} (hsh : W.ShapedOpen Tryz.prog) : ∃ (cs : List Value) (ty : TypeId) (fz : Nat × Nat), W.heap[(3 : Nat)]? = some (.cells cs.toArray ty fz) ∧ ∃ m, cs = [.int .i64 m] := by
  obtain ⟨m, hm⟩ := cell_of_shapedOpen_int (g := 3) (t := 3) (zero := #[.int .i64 0]) (k := .i64) hsh (Nat.le_of_ble_eq_true (by kernel_rfl)) (by kernel_rfl) rfl (by kernel_rfl) (by kernel_rfl) (by kernel_rfl)
  obtain ⟨cs, hh, hs, _⟩ := hsh.1 3 #[.int .i64 0] 3 (Nat.le_of_ble_eq_true (by kernel_rfl)) (by kernel_rfl)
  refine ⟨cs.toList, _, _, hh, m, ?_⟩
  simp only [World.cell?, hh] at hm
  have h1 : cs.size = 1 := hs
  obtain ⟨l⟩ := cs
  match l, h1, hm with
  | [x], _, hm => simp at hm; rw [hm]
/-- The tables, as they stand in memory. -/
theorem zglob_of {W : World} (hL : laidMet Tryz.prog laidL W) (hsh : W.ShapedOpen Tryz.prog) : Glob Gl W := by
  have h1 := Lib.laidMet.reads hL (n := "unicode/utf8.acceptRanges") (d := Rows.laid_unicode_utf8_acceptRanges) (by simp [laidL])
  have h2 := Lib.laidMet.reads hL (n := "figurehead/affix.signs") (d := Rows.laid_figurehead_affix_signs) (by simp [laidL])
  have h3 := Lib.laidMet.reads hL (n := "unicode/utf8.first") (d := Rows.laid_unicode_utf8_first) (by simp [laidL])
  rw [laid_range] at h1
  rw [laid_signs] at h2
  rw [laid_first] at h3
  intro p hp
  simp only [Gl, List.mem_cons, List.not_mem_nil, or_false] at hp
  rcases hp with rfl | rfl | rfl | rfl
  · exact zglob_signs h2
  · exact zglob_first h3
  · exact zglob_range h1
  · exact zglob_max hsh
end Go.Proofs.YtglfkihckkjniaaGreatDoor.Vx
