/-
VX, part S: more operations. No statement of the seat is proved here.
-/
import Derived.Test.YtglfkihckkjniaaGreatDoorVxU
import Derived.Laws.OwnMore
import Derived.Lib.RuneBytes
import Derived.Laws.BytesString
set_option linter.unusedVariables false
set_option linter.unusedSimpArgs false
namespace Go.Proofs.YtglfkihckkjniaaGreatDoor.Vx
open Go Go.RowKit

def orHook (x y : Hook) : Hook := fun fr o ev m => match x fr o ev m with | some r => some r | none => y fr o ev m
theorem orHook_ok {tbl : Tbl} {G : Ctx → Prop} {x y : Hook} (hx : HookOK tbl G x) (hy : HookOK tbl G y) : HookOK tbl G (orHook x y) := by
  intro C ρ S a w fr o ev m H hG ps e hk hp
  unfold orHook at hk
  split at hk
  · rename_i r hr; cases hk; exact hx H hG hr hp
  · exact hy H hG hk hp
section
variable {C : Ctx} {tbl : Tbl} {ρ : Env} {S : AS} {a : Act} {w : World} {fr : Nat} {o : Oper} {ev : Evl} {m : Mem}
theorem Here.reads (H : Here C tbl ρ S a w fr o ev m) {x : Operand} {y : SC} (hx : ev x = some (.one y)) {t p : Pc} (hp : absC m t y = some p) : ReadsC w (fun _ => True) (a.eval x) p := by
  obtain ⟨u, h1, h2⟩ := H.val hx
  rw [h2]
  exact absC_ok H.sat H.mem (fun _ _ _ _ _ _ _ _ => trivial) hp h1
/-! ### '==' of two ints' struct -/
def pairOf (a b : IntKind) : Option SV → Option (Int × Int)
  | some (.agg [.int k x, .int k' y]) => bif decide (k = a) && decide (k' = b) then some (x, y) else none
  | _ => none
def eqHook (T : TypeId) (a b : IntKind) : Hook := fun fr o ev m =>
  match o.op with
  | .binOp op T' x y _ =>
    bif Nat.beq T' T then
      match pairOf a b (ev x), pairOf a b (ev y) with
      | some (x1, x2), some (y1, y2) =>
        match op with
        | .eql => some ([], ⟨.one (.bool (decide (x1 = y1) && decide (x2 = y2))), []⟩)
        | .neq => some ([], ⟨.one (.bool (!(decide (x1 = y1) && decide (x2 = y2)))), []⟩)
        | _ => none
      | _, _ => none
    else none
  | _ => none
def PairEq (P : Program) (T : TypeId) (a b : IntKind) : Prop := ∀ (x1 x2 y1 y2 : Int) (w : World), (Op.equal T (.agg #[.int a x1, .int b x2]) (.agg #[.int a y1, .int b y2])).run P w = .ok (decide (x1 = y1) && decide (x2 = y2)) w
theorem pairOf_val {k1 k2 : IntKind} (H : Here C tbl ρ S a w fr o ev m) {x : Operand} {x1 x2 : Int} (h : pairOf k1 k2 (ev x) = some (x1, x2)) : a.eval x = .agg #[.int k1 x1, .int k2 x2] := by
  unfold pairOf at h
  split at h
  · rename_i k y k' y' he
    cases hb : decide (k = k1) && decide (k' = k2) with
    | false => rw [hb] at h; cases h
    | true =>
      rw [hb, cond_true] at h
      cases h
      simp only [Bool.and_eq_true, decide_eq_true_eq] at hb
      obtain ⟨rfl, rfl⟩ := hb
      obtain ⟨u, h1, h2⟩ := H.val he
      rw [h2]
      cases h1
      rfl
  · cases h
theorem eqHook_ok {P : Program} {Gl : List (Nat × (List Value → Prop))} {T : TypeId} {k1 k2 : IntKind} (hT : PairEq P T k1 k2) (hg : ∀ (op : BinOp) (X Y : Operand) (x1 x2 y1 y2 : Int) (w : World), (eqGuard op T X Y (.agg #[.int k1 x1, .int k2 x2]) (.agg #[.int k1 y1, .int k2 y2])).run P w = .ok () w) : HookOK tbl (GC P Gl) (eqHook T k1 k2) := by
  intro C ρ S a w fr o ev m H hG ps e hk hp
  unfold eqHook at hk
  split at hk
  · rename_i op T' x y z ho
    cases hb : Nat.beq T' T with
    | false => rw [hb] at hk; cases hk
    | true =>
      have := Nat.eq_of_beq_eq_true hb
      subst this
      rw [hb, cond_true] at hk
      split at hk
      · rename_i x1 x2 y1 y2 hx hy
        have ex := pairOf_val H hx
        have ey := pairOf_val H hy
        have hTw := hT x1 x2 y1 y2 w
        rw [← hG.prog] at hTw
        have hgw := hg op x y x1 x2 y1 y2 w
        rw [← hG.prog] at hgw
        split at hk
        · cases hk
          refine H.pure (v := .bool (decide (x1 = y1) && decide (x2 = y2))) ?_ rfl
          unfold execOp
          simp [ho, ex, ey, hgw, binOp, hTw]
        · cases hk
          refine H.pure (v := .bool (!(decide (x1 = y1) && decide (x2 = y2)))) ?_ rfl
          unfold execOp
          simp [ho, ex, ey, hgw, binOp, hTw]
        · cases hk
      · cases hk
  · cases hk
/-! ### bytes as text -/
def isU8 (tbl : Tbl) (T : TypeId) : Bool := match sliceOf tbl T with | some e => (match intOf' tbl e with | some .u8 => true | _ => false) | none => false
def b2sHook (tbl : Tbl) : Hook := fun fr o ev m =>
  match o.op with
  | .convert T U x =>
    bif isU8 tbl T && isStr tbl U then
      match ev x with
      | some (.one y) =>
        match absC m (.rd (.ints .u8 [])) y with
        | some (.rd (.ints .u8 l)) => some ([], ⟨.one (.str (l.map fun n => UInt8.ofNat n.toNat)), []⟩)
        | _ => none
      | _ => none
    else none
  | _ => none
theorem foldl_push (l : List Int) : ∀ (b : ByteArray), l.foldl (fun r n => r.push (UInt8.ofNat n.toNat)) b = ⟨b.data ++ (l.map fun n => UInt8.ofNat n.toNat).toArray⟩ := by
  induction l with
  | nil => intro b; simp
  | cons n l ih =>
    intro b
    simp only [List.foldl_cons, ih, List.map_cons]
    congr 1
    simp [ByteArray.push]
theorem b2sHook_ok {G : Ctx → Prop} : HookOK tbl G (b2sHook tbl) := by
  intro C ρ S a w fr o ev m H hG ps e hk hp
  unfold b2sHook at hk
  split at hk
  · rename_i T U x ho
    cases hb : isU8 tbl T && isStr tbl U with
    | false => rw [hb] at hk; cases hk
    | true =>
      rw [hb, cond_true] at hk
      simp only [Bool.and_eq_true] at hb
      obtain ⟨hb1, hb2⟩ := hb
      split at hk
      · rename_i y hy
        split at hk
        · rename_i l hl
          cases hk
          have hr := H.reads hy hl
          have hU := isStr_get H.tbl hb2
          have hT : ∃ el, C.P.underlying T = some (.slice el) ∧ C.P.underlying el = some (.int .u8) := by
            unfold isU8 at hb1
            split at hb1
            · rename_i el hel
              split at hb1
              · rename_i hi
                exact ⟨el, sliceOf_get H.tbl hel, intOf_get H.tbl hi⟩
              · cases hb1
            · cases hb1
          obtain ⟨el, hT1, hT2⟩ := hT
          obtain ⟨A, c, h1, h2, h3, h4⟩ := hr
          refine H.pure (v := .string ⟨(l.map fun n => UInt8.ofNat n.toNat).toArray⟩) ?_ rfl
          have hcv : (Conv.bytesToString (a.eval x)).run C.P w = .ok (.string ⟨(l.map fun n => UInt8.ofNat n.toNat).toArray⟩) w := by
            rw [h1]
            cases A with
            | none =>
              have : l = [] := by
                cases l with
                | nil => rfl
                | cons n l => exact absurd (h4 (by simp [Ls.len])) (by simp)
              subst this
              rfl
            | some ad =>
              have hload : (loadCells ad (Ls.len (.ints .u8 l))).run C.P w = .ok (l.map (Value.int .u8)).toArray w := by
                have : Ls.len (.ints .u8 l) = (l.map (Value.int .u8)).length := by simp [Ls.len]
                rw [this]
                refine run_loadCells_list w ad _ fun j v hv => ?_
                have hj : j < l.length := by have := (List.getElem?_eq_some_iff.1 hv).1; simpa using this
                obtain ⟨b, off, e1, e2, _⟩ := h4 (by simp only [Ls.len]; omega)
                cases e1
                have := e2 j (by simp only [Ls.len, Ls.sz]; omega)
                rw [Addr.add_lit, this]
                simp only [Ls.flat, Ls.rows]
                rw [← hv]
                have hfl : ∀ l : List Int, (l.map fun n => [Value.int IntKind.u8 n]).flatten = l.map (Value.int .u8) := by
                  intro l
                  induction l with
                  | nil => rfl
                  | cons n l ih => simp [ih]
                rw [hfl]
              rw [run_bytesToString w ad _ c l hload, foldl_push]
              simp
          unfold execOp
          simp [ho, convert, run_underlying hT1, run_underlying hU, run_underlying hT2, h1] at hcv ⊢
          simp [hcv]
        · cases hk
      · cases hk
  · cases hk
/-! ### calls of functions that turn nothing, a plain value coming back -/
theorem does_enter (H : Here C tbl ρ S a w fr o ev m) {f : Nat} {args : Array Value} {u : Value} {x : SV} (hr : (execOp a.eval o).run C.P w = .ok (.enter f args) w)
    (hc : Calls C.P f args w fun e w' => e = .returned u ∧ Fr (fun _ => False) w w') (hx : ∀ ρ', ρ.le ρ' → denV ρ' x = some u) : Does C ρ S a w fr o ⟨x, []⟩ := by
  intro K Q hK
  unfold Oper.wp
  rw [hr, Oper.upon_enter]
  refine hc.mono ?_
  rintro en w' ⟨rfl, hfr⟩
  refine hK ρ _ w' (Env.le_refl ρ) (Dom.refl ρ fr) ?_
  exact H.sat.step (G := fun _ => False) o.dst ⟨x, []⟩ u (Env.le_refl ρ) H.sat.one (fun _ _ => rfl) hfr (fun _ hg => hg.elim) (fun _ _ => hx ρ (Env.le_refl ρ)) H.dst (fun _ _ _ _ _ _ _ _ hg => hg)
    (fun _ _ hl => by simp [look] at hl) (fun _ _ _ _ _ _ hl => by simp [look] at hl)
/-! ### methods of the small interfaces -/
def Iv.at_ : Iv → Int
  | .single _ _ p => p
  | .padding _ p => p
  | .plain _ p => p
  | .quoted _ p => p
def Iv.isE : Iv → Bool
  | .single .. => true
  | .padding .. => true
  | _ => false
def Iv.isT : Iv → Bool
  | .plain .. => true
  | .quoted .. => true
  | _ => false
def placeHook (nmE nmT : String) : Hook := fun fr o ev m =>
  match o.op with
  | .call ⟨.invoke x name, args, _⟩ =>
    match args.toList, ev x with
    | [], some (.one (.iv y)) =>
      bif name == nmE then some ([y.isE = true], ⟨.one (.int .i64 y.at_), []⟩)
      else bif name == nmT then some ([y.isT = true], ⟨.one (.int .i64 y.at_), []⟩) else none
    | _, _ => none
  | _ => none
/-- What a method of these gives. -/
def PlaceOK (P : Program) (Gl : List (Nat × (List Value → Prop))) (nm : String) (ok : Iv → Bool) : Prop :=
  ∀ y : Iv, ok y = true → ∀ w : World, Glob Gl w → ∃ f args, (callMethod y.enc nm #[]).run P w = .ok (.enter f args) w ∧ Calls P f args w fun e w' => e = .returned (.int .i64 y.at_) ∧ Fr (fun _ => False) w w'
theorem placeHook_ok {P : Program} {Gl : List (Nat × (List Value → Prop))} {nmE nmT : String} (hE : PlaceOK P Gl nmE Iv.isE) (hT : PlaceOK P Gl nmT Iv.isT) : HookOK tbl (GC P Gl) (placeHook nmE nmT) := by
  intro C ρ S a w fr o ev m H hG ps e hk hp
  have go : ∀ (nm : String) (ok : Iv → Bool) (x : Operand) (args : Array Operand) (ts : Array TypeId) (y : Iv), PlaceOK P Gl nm ok → o.op = .call ⟨.invoke x nm, args, ts⟩ → args.toList = [] → ev x = some (.one (.iv y)) → ok y = true →
      Does C ρ S a w fr o ⟨.one (.int .i64 y.at_), []⟩ := by
    intro nm ok x args ts y hpl ho ha hx hok
    obtain ⟨u, h1, h2⟩ := H.val hx
    simp only [denV, den, Option.some.injEq] at h1
    subst h1
    obtain ⟨f, fargs, h3, h4⟩ := hpl y hok w (hG.now H.sat)
    have ha' : args = #[] := by apply Array.toList_inj.1; rw [ha]
    subst ha'
    refine does_enter H (f := f) (args := fargs) (u := .int .i64 y.at_) ?_ (by rw [hG.prog]; exact h4) (fun _ _ => rfl)
    unfold execOp
    simp only [ho, resolve, h2, Sem.run_bind, Sem.run_pure, Result.andThen_ok, invoke]
    rw [hG.prog]
    simpa using h3
  unfold placeHook at hk
  split at hk
  · rename_i x name args ts ho
    split at hk
    · rename_i y ha hx
      cases hb : name == nmE with
      | true =>
        rw [hb, cond_true] at hk
        cases hk
        have := eq_of_beq hb
        subst this
        exact go _ _ x args ts y hE ho ha hx hp
      | false =>
        rw [hb, cond_false] at hk
        cases hb2 : name == nmT with
        | true =>
          rw [hb2, cond_true] at hk
          cases hk
          have := eq_of_beq hb2
          subst this
          exact go _ _ x args ts y hT ho ha hx hp
        | false => rw [hb2] at hk; cases hk
    · cases hk
  · cases hk
/-! ### 'make' of nothing, with room -/
def makeHook (tbl : Tbl) : Hook := fun fr o ev m =>
  match o.op with
  | .makeSlice T x y =>
    match sliceOf tbl T, ev x, ev y with
    | some e, some (.one (.int _ n)), some (.one (.int _ c)) =>
      match look e tbl, initLs e with
      | some t, some l => bif Nat.beq t.size l.sz then some ([n = 0, 0 ≤ c ∧ c ≤ 140737488355327 ∧ t.bytes * c.toNat ≤ 281474976710656], ⟨.one (.slc fr), [(fr, some (.row e l))]⟩) else none
      | _, _ => none
    | _, _, _ => none
  | _ => none
theorem makeHook_ok {G : Ctx → Prop} : HookOK tbl G (makeHook tbl) := by
  intro C ρ S a w fr o ev m H hG ps e hk hp
  unfold makeHook at hk
  split at hk
  · rename_i T x y ho
    split at hk
    · rename_i ee k1 n k2 c hT hx hy
      split at hk
      · rename_i t l ht hl
        cases hb : Nat.beq t.size l.sz with
        | false => rw [hb] at hk; cases hk
        | true =>
          rw [hb, cond_true] at hk
          cases hk
          obtain ⟨rfl, hc0, hc1, hc2⟩ := hp
          obtain ⟨inf, d, z, tt⟩ := tbl_get H.tbl ht
          obtain ⟨u, h1, h2⟩ := H.val hx
          obtain ⟨u', h3, h4⟩ := H.val hy
          simp only [denV, den, Option.some.injEq] at h1 h3
          subst h1; subst h3
          obtain ⟨z1, z2⟩ := initLs_len hl
          have hsz := Nat.eq_of_beq_eq_true hb
          obtain ⟨w', r1, r2, r3⟩ := run_make_own (P := C.P) w w.heap.size T ee inf z l.sz (sliceOf_get H.tbl hT) tt.info tt.zero (by rw [tt.size, hsz]) k1 k2 c.toNat (by rw [tt.bytes]; exact hc2) (by simp only [maxLen]; omega) (Nat.le_refl _)
          rw [Int.toNat_of_nonneg hc0] at r1
          have hrun : (execOp a.eval o).run C.P w = .ok (.value (.slice (some ⟨w.heap.size, 0, none⟩) 0 c.toNat)) w' := by
            unfold execOp
            simp only [ho, h2, h4, Sem.run_bind, r1, Result.andThen_ok, Sem.run_pure]
          have r4 := World.ownsRowF_of r2
          have r5 : w'.ownsRowF 0 ee l.sz (.slice (some ⟨w.heap.size, 0, none⟩) 0 c.toNat) l.len l.flat := by
            rw [z1, z2]
            refine ⟨r4.1, ?_⟩
            rcases r4.2 with h0 | ⟨g, cap, cur, fz, e1, hbg, rest⟩
            · exact .inl h0
            · exact .inr ⟨g, cap, cur, fz, e1, Nat.zero_le _, rest⟩
          have := append_does H (v := .slice none 0 0) (l' := l) (e := ee) (fun g hg => by simp [Value.ownBlock] at hg)
            ⟨_, w', hrun, r5, r3, fun g hg => .inr (by simp [Value.ownBlock] at hg; omega)⟩ [] (fun k b hk => by simp [look] at hk) (fun k b u _ _ _ g _ hg => by simp [Value.ownBlock] at hg)
          exact this
      · cases hk
    · cases hk
  · cases hk
/-! ### package-level tables -/
abbrev GSyms := List (Nat × List SC)
def rawGlob : Option SV → Option Nat
  | some (.one (.raw (.pointer (some ⟨g, 0, none⟩)))) => some g
  | _ => none
def globHook (tbl : Tbl) (Gs : GSyms) : Hook := fun fr o ev m =>
  match o.op with
  | .indexAddr T x i =>
    match rawGlob (ev x), ev i, arrOf tbl T with
    | some g, some (.one (.int _ n)), some (c, e) => (look e tbl).map fun t => ([0 ≤ n ∧ n < c], ⟨.one (.gpt g n.toNat t.size 0), []⟩)
    | _, _, _ => none
  | .fieldAddr T x f =>
    match (fieldsOf tbl T).bind fun fs => fs[f]?, ev x with
    | some fl, some (.one (.gpt g i sz k)) => some ([], ⟨.one (.gpt g i sz (k + fl.1)), []⟩)
    | _, _ => none
  | .load T x =>
    match look T tbl, ev x with
    | some i, some (.one (.gpt g n sz k)) =>
      (look g Gs).bind fun cs => bif Nat.ble 1 sz && Nat.ble (k + i.size) sz then ((pickCells cs sz (cs.length / sz) n i.size k).bind (svOf i.agg)).map fun v => ([n < cs.length / sz], ⟨v, []⟩) else none
    | some i, y =>
      (rawGlob y).bind fun g => (look g Gs).bind fun cs => bif Nat.beq i.size cs.length then (svOf i.agg cs).map fun v => ([], ⟨v, []⟩) else none
    | _, _ => none
  | _ => none
def GsOK (Gs : GSyms) (Gl : List (Nat × (List Value → Prop))) : Prop := ∀ g cs, look g Gs = some cs → ∃ q vs, (g, q) ∈ Gl ∧ (∀ l, q l → l = vs) ∧ denL (fun _ => none) cs = some vs
theorem rawGlob_val (H : Here C tbl ρ S a w fr o ev m) {x : Operand} {g : Nat} (h : rawGlob (ev x) = some g) : a.eval x = .pointer (some ⟨g, 0, none⟩) := by
  unfold rawGlob at h
  split at h
  · rename_i hx
    cases h
    obtain ⟨u, h1, h2⟩ := H.val hx
    simp only [denV, den, Value.oneCell', if_true, Option.some.injEq] at h1
    rw [h2, ← h1]
  · cases h
theorem globHook_ok {P : Program} {Gl : List (Nat × (List Value → Prop))} {Gs : GSyms} (hGs : GsOK Gs Gl) : HookOK tbl (GC P Gl) (globHook tbl Gs) := by
  intro C ρ S a w fr o ev m H hG ps e hk hp
  have cells : ∀ g cs, look g Gs = some cs → ∃ vs, denL ρ cs = some vs ∧ ∀ j v, vs[j]? = some v → w.cell? ⟨g, j, none⟩ = some v := by
    intro g cs h
    obtain ⟨q, vs, h1, hq, h2⟩ := hGs g cs h
    obtain ⟨cs', ty, fz, h3, h4⟩ := hG.now H.sat _ h1
    rw [hq cs' h4] at h3
    refine ⟨vs, denL_le (fun k v hk => by cases hk) h2, fun j v hj => ?_⟩
    simp [World.cell?, h3, hj]
  unfold globHook at hk
  split at hk
  · rename_i T x i ho
    split at hk
    · rename_i g kd n c ee hg hi ha
      rw [Option.map_eq_some_iff] at hk
      obtain ⟨t, ht, hk⟩ := hk
      cases hk
      have hp : 0 ≤ n ∧ n < (c : Int) := hp
      have e1 := rawGlob_val H hg
      obtain ⟨u, h1, h2⟩ := H.val hi
      simp only [denV, den, Option.some.injEq] at h1
      subst h1
      have hu := arrOf_get H.tbl ha
      refine H.pure (v := .pointer (some ⟨g, n.toNat * t.size, none⟩)) ?_ (by simp [denV, den])
      unfold execOp
      have hn : ¬ (n < 0 ∨ (c : Int) ≤ n) := by omega
      simp [ho, e1, h2, Instr.indexAt, asIntOf, run_underlying hu, Instr.sureAddr, sizeIs H.tbl ht, Addr.add_lit, hp.1, hp.2]
    · cases hk
  · rename_i T x f ho
    split at hk
    · rename_i fl g i sz k hfl hx
      cases hk
      rw [Option.bind_eq_some_iff] at hfl
      obtain ⟨fs, hfs, hf⟩ := hfl
      obtain ⟨u, h1, h2⟩ := H.val hx
      simp only [denV, den, Option.some.injEq] at h1
      subst h1
      obtain ⟨fields, q1, q2⟩ := fieldsOf_get H.tbl hfs
      obtain ⟨fll, inf, d, r1, r2, r3, r4, r5, r6, r7⟩ := fieldsOK_get q2 hf
      refine H.pure (v := .pointer (some ⟨g, i * sz + (k + fl.1), none⟩)) ?_ (by simp [denV, den])
      unfold execOp
      have hsz : (sizeOf fll.type).run C.P w = .ok fl.2.1 w := by simp [sizeOf, typeInfo, r3, r4]
      rw [Array.getElem?_toList] at r1
      simp only [ho, Instr.fieldAt, Sem.run_bind, run_underlying q1, Result.andThen_ok, r1, Instr.sureAddr, h2, Sem.run_pure, fieldPlace, hsz]
      rw [if_neg (by omega)]
      simp only [Sem.run_pure, Result.andThen_ok, Addr.add_lit, r2, Nat.add_assoc]
    · cases hk
  · rename_i T x ho
    split at hk
    · rename_i i g n sz k hi hx
      rw [Option.bind_eq_some_iff] at hk
      obtain ⟨cs, h3, hk⟩ := hk
      cases hc : Nat.ble 1 sz && Nat.ble (k + i.size) sz with
      | false => rw [hc] at hk; cases hk
      | true =>
        rw [hc, cond_true, Option.map_eq_some_iff] at hk
        obtain ⟨v, hv, hk⟩ := hk
        cases hk
        rw [Option.bind_eq_some_iff] at hv
        obtain ⟨r, hr, hs⟩ := hv
        have hp : n < cs.length / sz := hp
        obtain ⟨u, h1, h2⟩ := H.val hx
        simp only [denV, den, Option.some.injEq] at h1
        obtain ⟨vs, f1, f2⟩ := cells g cs h3
        obtain ⟨us, q1, q2, q3⟩ := pickCells_den hp f1 hr
        refine load_at H ho hi h2 (b := g) (off := n * sz + k) h1.symm hs q1 q2 fun j w hj => ?_
        have := f2 _ _ (q3 j w hj)
        rw [show n * sz + k + j = n * sz + (k + j) by omega]
        exact this
    · rename_i i hi _
      rw [Option.bind_eq_some_iff] at hk
      obtain ⟨g, hg, hk⟩ := hk
      rw [Option.bind_eq_some_iff] at hk
      obtain ⟨cs, h3, hk⟩ := hk
      cases hc : Nat.beq i.size cs.length with
      | false => rw [hc] at hk; cases hk
      | true =>
        rw [hc, cond_true, Option.map_eq_some_iff] at hk
        obtain ⟨v, hv, hk⟩ := hk
        cases hk
        obtain ⟨vs, f1, f2⟩ := cells g cs h3
        refine load_at H ho hi rfl (b := g) (off := 0) (rawGlob_val H hg) hv f1 (by rw [denL_length f1]; exact (Nat.eq_of_beq_eq_true hc).symm) fun j w hj => ?_
        rw [Nat.zero_add]
        exact f2 j w hj
    · cases hk
  · cases hk
/-! ### a code point as text -/
def encB (r : Int) : List UInt8 := (Utf8.encode r).data.toList
def r2sHook (tbl : Tbl) : Hook := fun fr o ev m =>
  match o.op with
  | .convert T U x =>
    bif isStr tbl U && (match sliceOf tbl T with | some e => (match intOf' tbl e with | some .i32 => true | _ => false) | none => false) then
      match ev x with
      | some (.one y) =>
        match absC m (.rd (.ints .i32 [])) y with
        | some (.rd (.ints .i32 [r])) => some ([], ⟨.one (.str (encB r)), []⟩)
        | _ => none
      | _ => none
    else none
  | _ => none
theorem r2sHook_ok {G : Ctx → Prop} : HookOK tbl G (r2sHook tbl) := by
  intro C ρ S a w fr o ev m H hG ps e hk hp
  unfold r2sHook at hk
  split at hk
  · rename_i T U x ho
    cases hb : isStr tbl U && (match sliceOf tbl T with | some e => (match intOf' tbl e with | some .i32 => true | _ => false) | none => false) with
    | false => rw [hb] at hk; cases hk
    | true =>
      rw [hb, cond_true] at hk
      simp only [Bool.and_eq_true] at hb
      obtain ⟨hb2, hb1⟩ := hb
      split at hk
      · rename_i y hy
        split at hk
        · rename_i r hl
          cases hk
          have hr := H.reads hy hl
          have hU := isStr_get H.tbl hb2
          have hT : ∃ el, C.P.underlying T = some (.slice el) ∧ C.P.underlying el = some (.int .i32) := by
            split at hb1
            · rename_i el hel
              split at hb1
              · rename_i hi
                exact ⟨el, sliceOf_get H.tbl hel, intOf_get H.tbl hi⟩
              · cases hb1
            · cases hb1
          obtain ⟨el, hT1, hT2⟩ := hT
          obtain ⟨A, c, h1, h2, h3, h4⟩ := hr
          obtain ⟨b, off, e1, e2, _⟩ := h4 (by simp [Ls.len])
          subst e1
          refine H.pure (v := .string (Utf8.encode r)) ?_ (by simp [denV, den, encB])
          have hload : (loadCells ⟨b, off, none⟩ 1).run C.P w = .ok [Value.int .i32 r].toArray w := by
            refine run_loadCells_list w ⟨b, off, none⟩ [Value.int .i32 r] fun j v hv => ?_
            have hj : j < 1 := by have := (List.getElem?_eq_some_iff.1 hv).1; simpa using this
            have := e2 j (by simp only [Ls.len, Ls.sz, List.length_singleton]; omega)
            rw [Addr.add_lit, this]
            simp only [Ls.flat, Ls.rows]
            rw [← hv]
            rfl
          have hempty : (ByteArray.empty ++ Utf8.encode r) = Utf8.encode r := by
            apply ByteArray.ext
            simp
          have hcv : (Conv.runesToString (a.eval x)).run C.P w = .ok (.string (Utf8.encode r)) w := by
            rw [h1]
            simp only [Ls.len, List.length_singleton] at hload ⊢
            simp [Conv.runesToString, hload, hempty]
          unfold execOp
          simp [ho, convert, run_underlying hT1, run_underlying hU, run_underlying hT2, h1] at hcv ⊢
          simp [hcv]
        · cases hk
      · cases hk
  · cases hk
/-! ### numbers cut to a kind -/
def wrapHook (tbl : Tbl) : Hook := fun fr o ev m =>
  match o.op with
  | .convert T U x =>
    match intOf' tbl T, intOf' tbl U, ev x with
    | some _, some k, some (.one (.int _ n)) => some ([], ⟨.one (.int k (k.wrap n)), []⟩)
    | _, _, _ => none
  | _ => none
theorem wrapHook_ok {G : Ctx → Prop} : HookOK tbl G (wrapHook tbl) := by
  intro C ρ S a w fr o ev m H hG ps e hk hp
  unfold wrapHook at hk
  split at hk
  · rename_i T U x ho
    split at hk
    · rename_i k1 k j n hT hU hev
      cases hk
      obtain ⟨u, h1, h2⟩ := H.val hev
      simp only [denV, den, Option.some.injEq] at h1
      subst h1
      refine H.pure (v := .int k (k.wrap n)) ?_ rfl
      unfold execOp
      simp [ho, h2, convert, run_underlying (intOf_get H.tbl hT), run_underlying (intOf_get H.tbl hU), Conv.intToInt]
    · cases hk
  · cases hk
end
end Go.Proofs.YtglfkihckkjniaaGreatDoor.Vx
