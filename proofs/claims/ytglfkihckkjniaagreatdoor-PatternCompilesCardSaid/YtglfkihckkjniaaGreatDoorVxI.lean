/-
VX, part I: operations, the last: lengths, append, iterators; all operations together. No statement of the seat is proved here.
-/
import Derived.Test.YtglfkihckkjniaaGreatDoorVxH
set_option linter.unusedVariables false
set_option linter.unusedSimpArgs false
namespace Go.Proofs.YtglfkihckkjniaaGreatDoor.Vx
open Go Go.RowKit
section
variable {C : Ctx} {tbl : Tbl} {ρ : Env} {S : AS} {a : Act} {w : World} {fr : Nat} {o : Oper} {ev : Evl} {m : Mem}

theorem exec_builtin {b : Builtin} {args : Array Operand} {ts : Array TypeId} (ho : o.op = .call { callee := .builtin b, args := args, argTypes := ts }) {s : Sem Value} {v : Value} {w' : World}
    (hb : ∀ cs, builtin b ts o.type cs (args.map a.eval) = (do pure (.value (← s)))) (hr : s.run C.P w = .ok v w') : (execOp a.eval o).run C.P w = .ok (.value v) w' := by
  unfold execOp
  simp only [ho, resolve, Sem.run_bind, Sem.run_pure, Result.andThen_ok, invoke, hb, hr]

def xLen (tbl : Tbl) (ev : Evl) (m : Mem) (T : TypeId) (x : Operand) : Option Res :=
  match ev x with
  | some (.one (.str s)) => bif isStr tbl T then some (.eff True ⟨.one (.int .i64 s.length), []⟩) else none
  | some (.one .nils) => (sliceOf tbl T).map fun _ => .eff True ⟨.one (.int .i64 0), []⟩
  | some (.one (.slc k)) =>
    match sliceOf tbl T, m k with
    | some _, some (.read l) => some (.eff True ⟨.one (.int .i64 l.len), []⟩)
    | some _, some (.row _ l) => some (.eff True ⟨.one (.int .i64 l.len), []⟩)
    | some _, some (.lit _ n _) => some (.eff True ⟨.one (.int .i64 n), []⟩)
    | _, _ => none
  | _ => none
theorem row_slice {ty : TypeId} {v : Value} {l : Ls} (h : w.ownsRowF 0 ty l.sz v l.len l.flat) : ∃ A cap, v = .slice A l.len cap := by
  rcases h.2 with ⟨h1, h2⟩ | ⟨g, cap, cur, fz, h1, _⟩
  · exact ⟨none, 0, by rw [h2]; exact h1⟩
  · exact ⟨_, cap, h1⟩
theorem does_len (H : Here C tbl ρ S a w fr o ev m) {T : TypeId} {x : Operand} (ho : o.op = .call { callee := .builtin .len, args := #[x], argTypes := #[T] }) {p : Prop} {e : Eff} (hx : xLen tbl ev m T x = some (.eff p e)) : Does C ρ S a w fr o e := by
  have run : ∀ v, (Builtin.len_ #[T] o.type #[a.eval x]).run C.P w = .ok v w → (execOp a.eval o).run C.P w = .ok (.value v) w := by
    intro v hv
    exact exec_builtin ho (s := Builtin.len_ #[T] o.type #[a.eval x]) (fun _ => by simp [builtin]) hv
  unfold xLen at hx
  split at hx
  · rename_i s hev
    cases hT : isStr tbl T with
    | false => rw [hT] at hx; cases hx
    | true =>
      rw [hT] at hx; cases hx
      obtain ⟨u, h1, h2⟩ := H.val hev
      simp only [denV, den, Option.some.injEq] at h1
      subst h1
      refine H.pure (run (.int .i64 s.length) ?_) rfl
      have hsz : (⟨s.toArray⟩ : ByteArray).size = s.length := by simp [ByteArray.size]
      simp [Builtin.len_, h2, run_underlying (isStr_get H.tbl hT), goInt, hsz]
  · rename_i hev
    simp only [Option.map_eq_some_iff, Res.eff.injEq] at hx
    obtain ⟨e', hT, _, rfl⟩ := hx
    obtain ⟨u, h1, h2⟩ := H.val hev
    simp only [denV, den, Option.some.injEq] at h1
    subst h1
    refine H.pure (run (.int .i64 0) ?_) rfl
    simp [Builtin.len_, h2, run_underlying (sliceOf_get H.tbl hT), goInt]
  · rename_i k hev
    obtain ⟨u, h1, h2⟩ := H.val hev
    simp only [denV, den] at h1
    have fin : ∀ (e' : TypeId) (A : Option Addr) (n c : Nat), sliceOf tbl T = some e' → u = .slice A n c → Does C ρ S a w fr o ⟨.one (.int .i64 n), []⟩ := by
      intro e' A n c hT hu
      refine H.pure (run (.int .i64 n) ?_) rfl
      simp [Builtin.len_, h2, hu, run_underlying (sliceOf_get H.tbl hT), goInt]
    split at hx
    · rename_i e' l hT hm
      cases hx
      obtain ⟨y, hy, A, c, g1, _⟩ := H.sat.mem k _ (H.mem k _ hm)
      rw [h1] at hy; cases hy
      exact fin e' A l.len c hT g1
    · rename_i e' ty l hT hm
      cases hx
      obtain ⟨y, hy, g1, _⟩ := H.sat.mem k _ (H.mem k _ hm)
      rw [h1] at hy; cases hy
      obtain ⟨A, c, g2⟩ := row_slice g1
      exact fin e' A l.len c hT g2
    · rename_i e' ty n cs hT hm
      cases hx
      obtain ⟨y, hy, b, vs, g1, _⟩ := H.sat.mem k _ (H.mem k _ hm)
      rw [h1] at hy; cases hy
      exact fin e' _ n n hT g1
    · cases hx
  · cases hx

/-! append -/
def snocs (sz : Nat) : Nat → List SC → Ls → Option Ls
  | 0, _, l => some l
  | n + 1, cs, l => (l.snoc (cs.take sz)).bind fun l' => snocs sz n (cs.drop sz) l'
def Ls.cat : Ls → Ls → Option Ls
  | .toks l, .toks m => some (.toks (l ++ m))
  | .items l, .items m => some (.items (l ++ m))
  | .ivs l, .ivs m => some (.ivs (l ++ m))
  | .ints k l, .ints k' m => bif decide (k = k') then some (.ints k (l ++ m)) else none
  | .strs l, .strs m => some (.strs (l ++ m))
  | .spots l, .spots m => some (.spots (l ++ m))
  | .elms l, .elms m => some (.elms (l ++ m))
  | _, _ => none
def catStr (l : Ls) (s : List UInt8) : Option Ls :=
  match l with
  | .ints .u8 l => some (.ints .u8 (l ++ s.map fun b => (b.toNat : Int)))
  | _ => none
/-- What is appended: how many, what comes of it, what is gone. -/
def appSrc (m : Mem) (y : Option SV) (l : Ls) : Option (Nat × Ls × List (Nat × Option SB)) :=
  match y with
  | some (.one (.slc k2)) =>
    match m k2 with
    | some (.lit _ n cs) => bif Nat.beq cs.length (n * l.sz) && Nat.ble n 100000 then (snocs l.sz n cs l).map fun l' => (n, l', [(k2, none)]) else none
    | some (.read l2) => (l.cat l2).map fun l' => (l2.len, l', [])
    | some (.row _ l2) => (l.cat l2).map fun l' => (l2.len, l', [])
    | _ => none
  | some (.one .nils) => some (0, l, [])
  | some (.one (.str s)) => (catStr l s).map fun l' => (s.length, l', [])
  | _ => none
def isU8e (tbl : Tbl) (T : TypeId) : Bool :=
  match (sliceOf tbl T).bind fun e => look e tbl with
  | some ⟨1, 1, false, [.int .u8 0], .int .u8⟩ => true
  | _ => false
def appOK (tbl : Tbl) (T U : TypeId) (y : Option SV) : Bool :=
  match y with
  | some (.one (.str _)) => isStr tbl U && isU8e tbl T
  | _ => Nat.beq T U
def sameName (k : Nat) (y : Option SV) : Bool :=
  match y with
  | some (.one (.slc k2)) => Nat.beq k k2
  | _ => false
def xAppend (tbl : Tbl) (fr : Nat) (ev : Evl) (m : Mem) (T U : TypeId) (x y : Operand) : Option Res :=
  bif appOK tbl T U (ev y) then
    match sliceOf tbl T, ev x with
    | some e, some (.one .nils) =>
      match look e tbl, initLs e with
      | some t, some l => bif Nat.beq t.size l.sz && Nat.ble 1 t.bytes then (appSrc m (ev y) l).map fun r => .eff ((l.len + r.1) * t.bytes ≤ 140737488355328) ⟨.one (.slc fr), r.2.2 ++ [(fr, some (.row e r.2.1))]⟩ else none
      | _, _ => none
    | some e, some (.one (.slc k)) =>
      match look e tbl, m k with
      | some t, some (.row ty l) => bif Nat.beq t.size l.sz && Nat.ble 1 t.bytes && Nat.beq ty e && !sameName k (ev y) then (appSrc m (ev y) l).map fun r => .eff ((l.len + r.1) * t.bytes ≤ 140737488355328) ⟨.one (.slc fr), (k, none) :: r.2.2 ++ [(fr, some (.row e r.2.1))]⟩ else none
      | _, _ => none
    | _, _ => none
  else none
theorem Ls.snoc_flat {l l' : Ls} {cs : List SC} (h : l.snoc cs = some l') (ρ : Env) : ∃ vs, denL ρ cs = some vs ∧ l'.flat = l.flat ++ vs ∧ l'.sz = l.sz ∧ l'.len = l.len + 1 := by
  obtain ⟨vs, h1, h2, h3, h4⟩ := Ls.snoc_rows h ρ
  exact ⟨vs, h1, by unfold Ls.flat; rw [h2]; simp, h3, h4⟩
theorem snocs_ok (ρ : Env) : ∀ (n : Nat) (cs : List SC) (l l' : Ls), snocs l.sz n cs l = some l' → n * l.sz ≤ cs.length → ∃ vs, denL ρ (cs.take (n * l.sz)) = some vs ∧ l'.flat = l.flat ++ vs ∧ l'.len = l.len + n ∧ l'.sz = l.sz := by
  intro n
  induction n with
  | zero => intro cs l l' h _; cases h; exact ⟨[], by simp [denL_nil], by simp, rfl, rfl⟩
  | succ n ih =>
    intro cs l l' h hl
    simp only [snocs, Option.bind_eq_some_iff] at h
    obtain ⟨l1, h1, h2⟩ := h
    obtain ⟨vs, g1, g2, g3, g4⟩ := Ls.snoc_flat h1 ρ
    rw [← g3] at h2
    have hle : n * l.sz + l.sz ≤ cs.length := by rw [← Nat.succ_mul]; exact hl
    obtain ⟨us, q1, q2, q3, q4⟩ := ih (cs.drop l.sz) l1 l' (by rw [g3] at h2 ⊢; exact h2) (by rw [g3, List.length_drop]; omega)
    refine ⟨vs ++ us, ?_, by rw [q2, g2, List.append_assoc], by omega, by rw [q4, g3]⟩
    have := denL_append g1 q1
    rw [g3] at this
    rw [← this]
    congr 1
    rw [show (n + 1) * l.sz = l.sz + n * l.sz by rw [Nat.succ_mul]; omega, List.take_add]
theorem Ls.cat_flat {l m r : Ls} (h : l.cat m = some r) : r.flat = l.flat ++ m.flat ∧ r.sz = l.sz ∧ r.len = l.len + m.len ∧ m.sz = l.sz := by
  unfold Ls.cat at h
  split at h
  all_goals first | (cases h; done) | skip
  all_goals first
    | (cases h; simp [Ls.flat, Ls.rows, Ls.sz, Ls.len]; done)
    | (rename_i k l k' m
       cases hk : decide (k = k') with
       | false => rw [hk] at h; cases h
       | true =>
         have := of_decide_eq_true hk
         subst this
         rw [hk] at h; cases h
         simp [Ls.flat, Ls.rows, Ls.sz, Ls.len])
/-- What 'append' does to a row that the call owns, its head frozen or not: what is appended: a slice's elements. -/
theorem run_append_anyF {P : Program} (w : World) (t ty : TypeId) (e : TypeId) (i : TypeInfo) (z : Value) (size bytes : Nat) (ht : P.underlying t = some (.slice e)) (hi : P.info? e = some i) (hz : i.zero = some z)
    (hsize : i.size = size) (hby : i.bytes = bytes) (hzs : z.cells.size = size) (hsz : 0 < size)
    (v : Value) (n : Nat) (xs : List Value) (hown : w.ownsRowF 0 e size v n xs)
    (a : Addr) (m c : Nat) (news : List Value) (hl : news.length = m * size) (hnews : ∀ j u, news[j]? = some u → w.cell? (a.add j) = some u) (h1 : ∀ u ∈ news, u.oneCell' = true)
    (h63 : n + m ≤ maxLen) (hbytes : (n + m) * bytes ≤ 140737488355328) :
    ∃ v' w', (Builtin.append_ #[t, t] ty #[v, .slice (some a) m c]).run P w = .ok v' w' ∧
      w'.ownsRowF 0 e size v' (n + m) (xs ++ news) ∧ w.grownBy w' v.ownBlock ∧ ∀ g, v'.ownBlock = some g → v.ownBlock = some g ∨ w.heap.size ≤ g := by
  rcases hown.2 with ⟨rfl, rfl⟩ | ⟨g, cap, cur, fz, rfl, hbg, hg, hfz, hnc, hcm, hcs, htake⟩
  · obtain ⟨v', w', r1, r2, r3, _⟩ := run_append_ownF (P := P) w w.heap.size t ty e i z size bytes ht hi hz hsize hby hzs hsz (.slice none 0 0) 0 xs ⟨hown.1, .inl ⟨rfl, rfl⟩⟩ a m c news hl hnews h1 h63 hbytes (Nat.le_refl _)
    refine ⟨v', w', r1, ⟨r2.1, ?_⟩, r3, fun g hg => .inr (r2.lt g hg).1⟩
    rcases r2.2 with h0 | ⟨g, cap, cur, fz, e1, hbg, rest⟩
    · exact .inl h0
    · exact .inr ⟨g, cap, cur, fz, e1, Nat.zero_le _, rest⟩
  · subst hsize
    subst hby
    have hsmall : n + m ≤ 9223372036854775807 := by simp only [maxLen] at h63; omega
    have hlen : (xs ++ news).length = (n + m) * i.size := by rw [List.length_append, hown.1, hl, Nat.add_mul]
    by_cases hroom : n + m ≤ cap
    · have hfit : n * i.size + news.length ≤ cur.size := by rw [hl, hcs, ← Nat.add_mul]; exact Nat.mul_le_mul_right _ hroom
      have hr := run_append_roomF (P := P) w t ty e i ht hi g n cap cur fz hg hfz a m c news hl hnews h1 hroom hfit
      refine ⟨_, _, hr, ⟨hlen, .inr ⟨g, cap, _, fz, rfl, hbg, setRow_heap w g cur _ e _ hg, Nat.le_trans hfz (Nat.mul_le_mul_right _ (Nat.le_add_right n m)), hroom, hcm, ?_, ?_⟩⟩, ⟨rfl, rfl, rfl, by simp, fun k _ hk => setRow_other w g k _ (fun e => hk (by simp [Value.ownBlock, e]))⟩, fun g' h => .inl h⟩
      · simp only [List.size_toArray, List.length_append, List.length_take, List.length_drop, Array.length_toList]
        omega
      · rw [htake, ← hlen]
        exact List.take_left
    · have holds : ∀ j u, xs[j]? = some u → w.cell? ((⟨g, 0, none⟩ : Addr).add j) = some u := hown.cells (g := g) rfl
      have hr := run_append_grow (P := P) w t ty e i z ht hi hz ⟨g, 0, none⟩ n cap xs hown.1 holds a m c news hl hnews (by omega) (by omega) (growslice_fits (by omega) hbytes)
      have hge := grownCap_ge w (n + m) cap e
      have hcm2 : grownCap w (n + m) cap e ≤ maxLen := grownCap_le_maxLen w (n + m) cap e h63
      refine ⟨_, _, hr, ⟨hlen, .inr ⟨w.heap.size, _, _, (0, 0), rfl, Nat.zero_le _, heap_alloc_new w.drew _, Nat.zero_le _, hge, hcm2, ?_, ?_⟩⟩, ⟨rfl, rfl, rfl, by simp, fun k hk _ => Lib.alloc_old w.drew _ k hk⟩, fun g' h => .inr (by simp [Value.ownBlock] at h; omega)⟩
      · simp only [Array.size_append, List.size_toArray, size_zeroCells, hzs, hown.1, hl, ← Nat.add_mul]
        congr 1
        omega
      · simp only [Array.toList_append, List.append_assoc]
        rw [← List.append_assoc, ← hlen]
        exact List.take_left
/-- .. a text's bytes. -/
theorem run_append_strF {P : Program} (w : World) (t u ty : TypeId) (e : TypeId) (i : TypeInfo) (ht : P.underlying t = some (.slice e)) (hu : P.underlying u = some .string) (hi : P.info? e = some i) (hz : i.zero = some (.int .u8 0))
    (hsize : i.size = 1) (hby : i.bytes = 1) (v : Value) (n : Nat) (xs : List Value) (hown : w.ownsRowF 0 e 1 v n xs) (s : ByteArray)
    (h63 : n + s.size ≤ maxLen) (hbytes : n + s.size ≤ 140737488355328) :
    ∃ v' w', (Builtin.append_ #[t, u] ty #[v, .string s]).run P w = .ok v' w' ∧
      w'.ownsRowF 0 e 1 v' (n + s.size) (xs ++ Lib.strCells s) ∧ w.grownBy w' v.ownBlock ∧ ∀ g, v'.ownBlock = some g → v.ownBlock = some g ∨ w.heap.size ≤ g := by
  rcases hown.2 with ⟨rfl, rfl⟩ | ⟨g, cap, cur, fz, rfl, hbg, hg, hfz, hnc, hcm, hcs, htake⟩
  · obtain ⟨v', w', r1, r2, r3, _⟩ := Lib.run_append_own_stringF (P := P) w w.heap.size t u ty e i ht hu hi hz hsize hby (.slice none 0 0) 0 xs ⟨hown.1, .inl ⟨rfl, rfl⟩⟩ s h63 hbytes (Nat.le_refl _)
    refine ⟨v', w', r1, ⟨r2.1, ?_⟩, r3, fun g hg => .inr (r2.lt g hg).1⟩
    rcases r2.2 with h0 | ⟨g, cap, cur, fz, e1, hbg, rest⟩
    · exact .inl h0
    · exact .inr ⟨g, cap, cur, fz, e1, Nat.zero_le _, rest⟩
  · have hsmall : n + s.size ≤ 9223372036854775807 := by simp only [maxLen] at h63; omega
    have hxl : xs.length = n := by simpa using hown.1
    have hlen : (xs ++ Lib.strCells s).length = (n + s.size) * 1 := by rw [List.length_append, hxl, Lib.strCells_length, Nat.mul_one]
    by_cases hroom : n + s.size ≤ cap
    · have hcs' : cur.size = cap := by simpa using hcs
      have hr := Lib.run_append_room_stringF (P := P) w t u ty e i ht hu hi hsize g n cap cur fz hg (by simpa using hfz) s hroom (by omega)
      refine ⟨_, _, hr, ⟨hlen, .inr ⟨g, cap, _, fz, rfl, hbg, setRow_heap w g cur _ e _ hg, by omega, hroom, hcm, ?_, ?_⟩⟩, ⟨rfl, rfl, rfl, by simp, fun k _ hk => setRow_other w g k _ (fun e => hk (by simp [Value.ownBlock, e]))⟩, fun g' h => .inl h⟩
      · simp only [List.size_toArray, List.length_append, List.length_take, List.length_drop, Array.length_toList, Lib.strCells_length]
        omega
      · have ht' : cur.toList.take n = xs := by simpa using htake
        rw [ht', ← hlen]
        exact List.take_left
    · have holds : ∀ j u, xs[j]? = some u → w.cell? ((⟨g, 0, none⟩ : Addr).add j) = some u := hown.cells (g := g) rfl
      have hr := Lib.run_append_grow_string (P := P) w t u ty e i (.int .u8 0) ht hu hi hz ⟨g, 0, none⟩ n cap xs (by rw [hsize]; simpa using hxl) holds s (by omega) (by omega) (by rw [hby]; exact growslice_fits (by omega) (by omega))
      have hge := grownCap_ge w (n + s.size) cap e
      have hcm2 : grownCap w (n + s.size) cap e ≤ maxLen := grownCap_le_maxLen w (n + s.size) cap e h63
      refine ⟨_, _, hr, ⟨hlen, .inr ⟨w.heap.size, _, _, (0, 0), rfl, Nat.zero_le _, heap_alloc_new w.drew _, Nat.zero_le _, hge, hcm2, ?_, ?_⟩⟩, ⟨rfl, rfl, rfl, by simp, fun k hk _ => Lib.alloc_old w.drew _ k hk⟩, fun g' h => .inr (by simp [Value.ownBlock] at h; omega)⟩
      · have hz1 : (Value.int IntKind.u8 0).cells.size = 1 := rfl
        simp only [Array.size_append, List.size_toArray, size_zeroCells, hz1, hxl, Lib.strCells_length]
        omega
      · simp only [Array.toList_append, List.append_assoc]
        rw [← List.append_assoc, ← hlen]
        exact List.take_left
/-- .. nothing. -/
theorem run_append_noneF {P : Program} (w : World) (t ty : TypeId) (e : TypeId) (i : TypeInfo) (ht : P.underlying t = some (.slice e)) (hi : P.info? e = some i) (v : Value) (n : Nat) (xs : List Value) (hown : w.ownsRowF 0 e i.size v n xs) (c : Nat) :
    (Builtin.append_ #[t, t] ty #[v, .slice none 0 c]).run P w = .ok v w := by
  rcases hown.2 with ⟨rfl, rfl⟩ | ⟨g, cap, cur, fz, rfl, hbg, hg, hfz, hnc, hcm, hcs, htake⟩
  · simp [Builtin.append_, run_underlying ht, sizeOf, typeInfo, hi, Builtin.lenOf, Builtin.firstCells]
  · simp [Builtin.append_, run_underlying ht, sizeOf, typeInfo, hi, Builtin.lenOf, Builtin.firstCells, hnc, storeCells]
/-- Behind what 'append' does. -/
theorem append_does (H : Here C tbl ρ S a w fr o ev m) {e : TypeId} {v : Value} {l' : Ls} (hvo : ∀ g, v.ownBlock = some g → C.own g)
    (hrun : ∃ v' w', (execOp a.eval o).run C.P w = .ok (.value v') w' ∧ w'.ownsRowF 0 e l'.sz v' l'.len l'.flat ∧ w.grownBy w' v.ownBlock ∧ ∀ g, v'.ownBlock = some g → v.ownBlock = some g ∨ w.heap.size ≤ g)
    (rest : List (Nat × Option SB)) (hrest : ∀ k b, look k rest = some (some b) → False)
    (hcov : ∀ k b u, look k rest = none → S.blk k = some b → ρ k = some u → ∀ g, foot u b = some g → v.ownBlock ≠ some g) : Does C ρ S a w fr o ⟨.one (.slc fr), rest ++ [(fr, some (.row e l'))]⟩ := by
  obtain ⟨v', w', hrun, r2, r3, r4⟩ := hrun
  have hone : v'.oneCell' = true := by
    rcases r2.2 with ⟨e1, _⟩ | ⟨g, cap, cur, fz, e1, _⟩ <;> rw [e1] <;> rfl
  have hbo : ∀ g, blockOf v' = some g → v'.ownBlock = some g := by
    intro g hg
    rcases r2.2 with ⟨e1, _⟩ | ⟨g', cap, cur, fz, e1, _⟩
    · subst e1; cases hg
    · subst e1; exact hg
  have hgown : ∀ g, v'.ownBlock = some g → C.own g := by
    intro g hg
    rcases r4 g hg with r4 | r4
    · exact hvo g r4
    · exact .inl (Nat.le_trans H.sat.frame.size r4)
  have hlook : ∀ k, look k (rest ++ [(fr, some (SB.row e l'))]) = (look k rest).or (if fr = k then some (some (SB.row e l')) else none) := by
    intro k
    rw [look_append, look_cons]
    rfl
  have hnewl : ∀ k b, look k (rest ++ [(fr, some (SB.row e l'))]) = some (some b) → k = fr ∧ b = .row e l' := by
    intro k b hk
    rw [hlook] at hk
    cases hr : look k rest with
    | some q =>
      rw [hr] at hk
      simp only [Option.some_or, Option.some.injEq] at hk
      subst hk
      exact (hrest k b hr).elim
    | none =>
      rw [hr] at hk
      simp only [Option.none_or] at hk
      split at hk
      · rename_i ek; cases hk; exact ⟨ek.symm, rfl⟩
      · cases hk
  have hold : ∀ k, look k (rest ++ [(fr, some (SB.row e l'))]) = none → look k rest = none ∧ k ≠ fr := by
    intro k hk
    rw [hlook] at hk
    cases hr : look k rest with
    | some q => rw [hr] at hk; cases hk
    | none =>
      rw [hr] at hk
      refine ⟨rfl, ?_⟩
      rintro rfl
      simp at hk
  refine does_value (ρ' := ρ.set fr v') hrun (Env.set_le H.fr0 _) (Env.set_dom (fr := fr) _ (Nat.le_refl _) (by omega)) ?_
  refine H.sat.step (G := fun i => v.ownBlock = some i) o.dst _ _ (Env.set_le H.fr0 _) (Env.set_one H.sat.one hone) (Env.set_pin H.fr16 _) (Fr.grown r3) (fun i hi => hvo i hi) (fun _ _ => by simp [denV, den, Env.set_self]) H.dst ?_ ?_ ?_
  · intro k b u hk hb hu g' hg' hG
    exact hcov k b u (hold k hk).1 hb hu g' hg' hG
  · intro k b hk
    obtain ⟨rfl, rfl⟩ := hnewl k b hk
    exact ⟨_, Env.set_self ρ _ _, r2, hgown⟩
  · intro k b u k' b' u' hk hu hne hk' hu' _
    obtain ⟨rfl, rfl⟩ := hnewl k b hk
    rw [Env.set_self] at hu; cases hu
    intro gg hgg hgg'
    have hgg := hbo gg hgg
    rcases hk' with hk' | ⟨hk', hb'⟩
    · exact absurd (hnewl k' b' hk').1 hne
    · unfold Env.set at hu'
      rw [if_neg hne] at hu'
      rcases r4 gg hgg with r4 | r4
      · exact hcov k' b' u' (hold k' hk').1 hb' hu' gg hgg' r4
      · obtain ⟨q, q1, q2⟩ := H.sat.mem k' b' hb'
        rw [hu'] at q1; cases q1
        have := q2.lt gg hgg'
        omega
theorem strCells_map (s : List UInt8) : Lib.strCells ⟨s.toArray⟩ = s.map fun b => Value.int .u8 (b.toNat : Int) := by
  simp [Lib.strCells]
theorem Ls.rows_one (l : Ls) : ∀ r ∈ l.rows, ∀ v ∈ r, v.oneCell' = true := by
  intro r hr v hv
  cases l <;> simp only [Ls.rows, List.mem_map] at hr <;> obtain ⟨x, _, rfl⟩ := hr
  case toks => simp only [Tok.enc, List.mem_cons, List.not_mem_nil, or_false] at hv; rcases hv with rfl | rfl | rfl <;> rfl
  case items => simp only [Itm.enc, List.mem_cons, List.not_mem_nil, or_false] at hv; rcases hv with rfl | rfl <;> rfl
  case ivs => simp only [List.mem_cons, List.not_mem_nil, or_false] at hv; subst hv; cases x <;> rfl
  case ints => simp only [List.mem_cons, List.not_mem_nil, or_false] at hv; subst hv; rfl
  case strs => simp only [List.mem_cons, List.not_mem_nil, or_false] at hv; subst hv; rfl
  case spots => simp only [Spot.enc, List.mem_cons, List.not_mem_nil, or_false] at hv; rcases hv with rfl | rfl | rfl <;> rfl
  case elms => simp only [Elm.enc, List.mem_cons, List.not_mem_nil, or_false] at hv; rcases hv with rfl | rfl | rfl | rfl <;> rfl
theorem Ls.flat_one (l : Ls) : ∀ v ∈ l.flat, v.oneCell' = true := by
  intro v hv
  obtain ⟨r, h1, h2⟩ := List.mem_flatten.1 hv
  exact l.rows_one r h1 v h2
theorem flatten_ones (s : List UInt8) : (List.map ((fun n => [Value.int IntKind.u8 n]) ∘ fun b => (b.toNat : Int)) s).flatten = s.map fun b => Value.int .u8 (b.toNat : Int) := by
  induction s with
  | nil => rfl
  | cons b s ih => simp only [List.map_cons, List.flatten_cons, ih]; rfl
/-- What is appended, whatever it is. -/
theorem append_src (H : Here C tbl ρ S a w fr o ev m) {T U e : TypeId} {x y : Operand} (ho : o.op = .call { callee := .builtin .append, args := #[x, y], argTypes := #[T, U] }) (hTU : appOK tbl T U (ev y) = true)
    (hT : sliceOf tbl T = some e) {t : TI} (ht : look e tbl = some t)
    {v : Value} {l l' : Ls} (hv : a.eval x = v) (hown : w.ownsRowF 0 e l.sz v l.len l.flat) (hsz : t.size = l.sz) (hby : 1 ≤ t.bytes) {n : Nat} {kills : List (Nat × Option SB)} (hs : appSrc m (ev y) l = some (n, l', kills)) (hbytes : (l.len + n) * t.bytes ≤ 140737488355328) :
    (∃ v' w', (execOp a.eval o).run C.P w = .ok (.value v') w' ∧ w'.ownsRowF 0 e l'.sz v' l'.len l'.flat ∧ w.grownBy w' v.ownBlock ∧ ∀ g, v'.ownBlock = some g → v.ownBlock = some g ∨ w.heap.size ≤ g) ∧ ∀ k b, look k kills = some (some b) → False := by
  obtain ⟨inf, d, z, tt⟩ := tbl_get H.tbl ht
  have hle : l.len + n ≤ maxLen := by
    have : (l.len + n) * 1 ≤ (l.len + n) * t.bytes := Nat.mul_le_mul_left _ hby
    simp only [maxLen]
    omega
  have hsT := sliceOf_get H.tbl hT
  have exec : ∀ (yv v' : Value) (w' : World), a.eval y = yv → (Builtin.append_ #[T, U] o.type #[v, yv]).run C.P w = .ok v' w' → (execOp a.eval o).run C.P w = .ok (.value v') w' := by
    intro yv v' w' hy hr
    refine exec_builtin ho (s := Builtin.append_ #[T, U] o.type #[v, yv]) (fun cs => ?_) hr
    simp only [List.map_toArray, List.map_cons, List.map_nil, hv, hy]
    rfl
  have hslice : ∀ (ad : Addr) (c : Nat) (news : List Value), U = T → a.eval y = .slice (some ad) n c → l'.flat = l.flat ++ news → l'.sz = l.sz → l'.len = l.len + n → (∀ j u, news[j]? = some u → w.cell? (ad.add j) = some u) → (∀ u ∈ news, u.oneCell' = true) →
      (∃ v' w', (execOp a.eval o).run C.P w = .ok (.value v') w' ∧ w'.ownsRowF 0 e l'.sz v' l'.len l'.flat ∧ w.grownBy w' v.ownBlock ∧ ∀ g, v'.ownBlock = some g → v.ownBlock = some g ∨ w.heap.size ≤ g) := by
    intro ad c news hUT hy f2 f3 f4 hnews hone
    subst hUT
    have hvl : news.length = n * l.sz := by
      have := l'.flat_length
      rw [f2, List.length_append, l.flat_length, f4, f3, Nat.add_mul] at this
      omega
    obtain ⟨v', w', r1, r2, r3, r4⟩ := run_append_anyF (P := C.P) w U o.type e inf z l.sz t.bytes hsT tt.info tt.zero (by rw [tt.size, hsz]) tt.bytes (by rw [tt.zsize, hsz]) l.sz_pos v l.len l.flat hown
      ad n c news hvl hnews hone hle hbytes
    exact ⟨v', w', exec _ _ _ hy r1, by rw [f2, f3, f4]; exact r2, r3, r4⟩
  have hnone : ∀ (c : Nat), U = T → a.eval y = .slice none 0 c → l'.flat = l.flat → l'.sz = l.sz → l'.len = l.len →
      (∃ v' w', (execOp a.eval o).run C.P w = .ok (.value v') w' ∧ w'.ownsRowF 0 e l'.sz v' l'.len l'.flat ∧ w.grownBy w' v.ownBlock ∧ ∀ g, v'.ownBlock = some g → v.ownBlock = some g ∨ w.heap.size ≤ g) := by
    intro c hUT hy f2 f3 f4
    subst hUT
    refine ⟨v, w, exec _ _ _ hy (run_append_noneF w U o.type e inf hsT tt.info v l.len l.flat (by rw [tt.size, hsz]; exact hown) c), by rw [f2, f3, f4]; exact hown, ⟨rfl, rfl, rfl, Nat.le_refl _, fun _ _ _ => rfl⟩, fun g hg => .inl hg⟩
  have hread : ∀ (l2 : Ls) (yv : Value), U = T → a.eval y = yv → (∃ A c, yv = .slice A l2.len c ∧ (0 < l2.len → ∃ b o', A = some ⟨b, o', none⟩ ∧ (∀ j, j < l2.len * l2.sz → w.cell? ⟨b, o' + j, none⟩ = l2.flat[j]?))) → l.cat l2 = some l' → n = l2.len →
      (∃ v' w', (execOp a.eval o).run C.P w = .ok (.value v') w' ∧ w'.ownsRowF 0 e l'.sz v' l'.len l'.flat ∧ w.grownBy w' v.ownBlock ∧ ∀ g, v'.ownBlock = some g → v.ownBlock = some g ∨ w.heap.size ≤ g) := by
    rintro l2 yv hUT hy ⟨A, c, rfl, h4⟩ hcat hn
    obtain ⟨f2, f3, f4, f5⟩ := Ls.cat_flat hcat
    rcases Nat.eq_zero_or_pos l2.len with h0 | hp
    · have hf : l2.flat = [] := List.eq_nil_of_length_eq_zero (by rw [l2.flat_length, h0, Nat.zero_mul])
      rw [hf, List.append_nil] at f2
      cases A with
      | none => exact hnone c hUT (by rw [hy, h0]) f2 f3 (by omega)
      | some ad => exact hslice ad c [] hUT (by rw [hy, hn]) (by simpa using f2) f3 (by omega) (fun j u hj => by simp at hj) (fun u hu => by cases hu)
    · obtain ⟨b, o', rfl, h5⟩ := h4 hp
      refine hslice ⟨b, o', none⟩ c l2.flat hUT (by rw [hy, hn]) f2 f3 (by omega) (fun j u hj => ?_) (fun u hu => l2.flat_one u hu)
      have hj' : j < l2.len * l2.sz := by rw [← l2.flat_length]; exact (List.getElem?_eq_some_iff.1 hj).1
      rw [Addr.add_lit, h5 j hj', hj]
  have hnokill : ∀ k b, look k ([] : List (Nat × Option SB)) = some (some b) → False := fun k b hk => by simp [look] at hk
  unfold appSrc at hs
  split at hs
  · rename_i k2 hey
    have hUT : U = T := by
      unfold appOK at hTU
      rw [hey] at hTU
      exact (Nat.eq_of_beq_eq_true hTU).symm
    obtain ⟨u2, h1, h2⟩ := H.val hey
    simp only [denV, den] at h1
    split at hs
    · rename_i ty2 n2 cs hm2
      cases hc : Nat.beq cs.length (n2 * l.sz) && Nat.ble n2 100000 with
      | false => rw [hc] at hs; cases hs
      | true =>
        rw [hc, cond_true, Option.map_eq_some_iff] at hs
        obtain ⟨l1, h3, h4⟩ := hs
        simp only [Prod.mk.injEq] at h4
        obtain ⟨rfl, rfl, rfl⟩ := h4
        simp only [Bool.and_eq_true] at hc
        have c1 := Nat.eq_of_beq_eq_true hc.1
        obtain ⟨y2, e1, b2, vs2, g1, g2, g3, g4⟩ := H.sat.mem k2 _ (H.mem k2 _ hm2)
        rw [h1] at e1; cases e1
        obtain ⟨vs, f1, f2, f3, f4⟩ := snocs_ok ρ n2 cs l l1 h3 (by omega)
        rw [← c1, List.take_length, g2] at f1
        cases f1
        refine ⟨?_, fun k b hk => by rw [look_cons] at hk; split at hk <;> simp [look] at hk⟩
        exact hslice ⟨b2, 0, none⟩ n2 vs2 hUT (by rw [h2, g1]) f2 f4 f3 (fun j q hq => by rw [Addr.add_lit]; simp [World.cell?, g3, hq]) (denL_oneCell H.sat.one g2)
    · rename_i l2 hm2
      rw [Option.map_eq_some_iff] at hs
      obtain ⟨l1, h3, h4⟩ := hs
      simp only [Prod.mk.injEq] at h4
      obtain ⟨rfl, rfl, rfl⟩ := h4
      obtain ⟨y2, e1, A, c, g1, g2, g3, g4⟩ := H.sat.mem k2 _ (H.mem k2 _ hm2)
      rw [h1] at e1; cases e1
      refine ⟨hread l2 u2 hUT h2 ⟨A, c, g1, fun hp => ?_⟩ h3 rfl, hnokill⟩
      obtain ⟨b, o', q1, q2, _⟩ := g4 hp
      exact ⟨b, o', q1, q2⟩
    · rename_i ty2 l2 hm2
      rw [Option.map_eq_some_iff] at hs
      obtain ⟨l1, h3, h4⟩ := hs
      simp only [Prod.mk.injEq] at h4
      obtain ⟨rfl, rfl, rfl⟩ := h4
      obtain ⟨y2, e1, g1, g2⟩ := H.sat.mem k2 _ (H.mem k2 _ hm2)
      rw [h1] at e1; cases e1
      obtain ⟨A, c, q1⟩ := row_slice g1
      refine ⟨hread l2 u2 hUT h2 ⟨A, c, q1, fun hp => ?_⟩ h3 rfl, hnokill⟩
      obtain ⟨b, cap, r1, _, _, r4⟩ := row_cells g1 hp
      rw [q1] at r1; cases r1
      exact ⟨b, 0, rfl, r4⟩
    · cases hs
  · rename_i hey
    have hUT : U = T := by
      unfold appOK at hTU
      rw [hey] at hTU
      exact (Nat.eq_of_beq_eq_true hTU).symm
    simp only [Option.some.injEq, Prod.mk.injEq] at hs
    obtain ⟨rfl, rfl, rfl⟩ := hs
    obtain ⟨u2, h1, h2⟩ := H.val hey
    simp only [denV, den, Option.some.injEq] at h1
    subst h1
    exact ⟨hnone 0 hUT h2 rfl rfl rfl, hnokill⟩
  · rename_i s hey
    have hU : isStr tbl U = true ∧ isU8e tbl T = true := by
      unfold appOK at hTU
      rw [hey] at hTU
      simpa using hTU
    obtain ⟨hU, hU8⟩ := hU
    rw [Option.map_eq_some_iff] at hs
    obtain ⟨l1, h3, h4⟩ := hs
    simp only [Prod.mk.injEq] at h4
    obtain ⟨rfl, rfl, rfl⟩ := h4
    obtain ⟨u2, h1, h2⟩ := H.val hey
    simp only [denV, den, Option.some.injEq] at h1
    subst h1
    unfold catStr at h3
    split at h3
    · rename_i l0
      cases h3
      refine ⟨?_, hnokill⟩
      have ht8 : t = ⟨1, 1, false, [.int .u8 0], .int .u8⟩ := by
        unfold isU8e at hU8
        rw [hT, Option.bind_some, ht] at hU8
        split at hU8
        · rename_i e1; exact Option.some.inj e1
        · cases hU8
      subst ht8
      have hz : z = .int .u8 0 := by
        have h5 := tt.zden (fun _ => none)
        have h6 := tt.zform
        have h7 : z.cells.toList = [.int .u8 0] := by
          rw [denL_cons] at h5
          simpa [den, denL_nil] using h5.symm
        cases z <;> simp [zeroForm] at h6 <;> simp [Value.cells] at h7 <;> first | exact h7 | (simp [h7])
      have hs1 : inf.size = 1 := tt.size
      have hb1 : inf.bytes = 1 := tt.bytes
      have hlen : (⟨s.toArray⟩ : ByteArray).size = s.length := by simp [ByteArray.size]
      obtain ⟨v', w', r1, r2, r3, r4⟩ := run_append_strF (P := C.P) w T U o.type e inf hsT (isStr_get H.tbl hU) tt.info (by rw [tt.zero, hz]) hs1 hb1 v l0.length _ hown ⟨s.toArray⟩
        (by rw [hlen]; exact hle) (by rw [hlen]; simpa [Ls.len] using hbytes)
      refine ⟨v', w', exec _ _ _ h2 r1, ?_, r3, r4⟩
      rw [hlen, strCells_map] at r2
      have e1 : Ls.len (.ints .u8 (l0 ++ s.map fun b => (b.toNat : Int))) = l0.length + s.length := by simp [Ls.len]
      have e2 : Ls.flat (.ints .u8 (l0 ++ s.map fun b => (b.toNat : Int))) = Ls.flat (.ints .u8 l0) ++ s.map fun b => Value.int .u8 (b.toNat : Int) := by
        unfold Ls.flat
        simp only [Ls.rows, List.map_append, List.flatten_append, List.map_map]
        congr 1
        exact flatten_ones s
      rw [e1, e2]
      exact r2
    · cases h3
  · cases hs
theorem does_append (H : Here C tbl ρ S a w fr o ev m) {T U : TypeId} {x y : Operand} (ho : o.op = .call { callee := .builtin .append, args := #[x, y], argTypes := #[T, U] }) {p : Prop} {e : Eff} (hx : xAppend tbl fr ev m T U x y = some (.eff p e)) (hp : p) : Does C ρ S a w fr o e := by
  unfold xAppend at hx
  cases hTU : appOK tbl T U (ev y) with
  | false => rw [hTU] at hx; cases hx
  | true =>
    rw [hTU, cond_true] at hx
    split at hx
    · rename_i ee hT hex
      split at hx
      · rename_i t l ht hl
        cases hc : Nat.beq t.size l.sz && Nat.ble 1 t.bytes with
        | false => rw [hc] at hx; cases hx
        | true =>
          rw [hc] at hx
          simp only [cond_true, Option.map_eq_some_iff, Res.eff.injEq] at hx
          obtain ⟨⟨n, l', kills⟩, hs, rfl, rfl⟩ := hx
          simp only [Bool.and_eq_true] at hc
          obtain ⟨u, h1, h2⟩ := H.val hex
          simp only [denV, den, Option.some.injEq] at h1
          subst h1
          obtain ⟨z1, z2⟩ := initLs_len hl
          have hown : w.ownsRowF 0 ee l.sz (.slice none 0 0) l.len l.flat := by rw [z1, z2]; exact World.ownsRowF_nil w 0 ee l.sz
          obtain ⟨g1, g2⟩ := append_src H ho hTU hT ht h2 hown (Nat.eq_of_beq_eq_true hc.1) (Nat.le_of_ble_eq_true hc.2) hs hp
          exact append_does H (fun g hg => by simp [Value.ownBlock] at hg) g1 kills g2 (fun k b u _ _ _ g _ hg => by simp [Value.ownBlock] at hg)
      · cases hx
    · rename_i ee k hT hex
      split at hx
      · rename_i t ty l ht hm
        cases hc : Nat.beq t.size l.sz && Nat.ble 1 t.bytes && Nat.beq ty ee && !sameName k (ev y) with
        | false => rw [hc] at hx; cases hx
        | true =>
          rw [hc] at hx
          simp only [cond_true, Option.map_eq_some_iff, Res.eff.injEq] at hx
          obtain ⟨⟨n, l', kills⟩, hs, rfl, rfl⟩ := hx
          simp only [Bool.and_eq_true] at hc
          have := Nat.eq_of_beq_eq_true hc.1.2
          subst this
          obtain ⟨u, h1, h2⟩ := H.val hex
          simp only [denV, den] at h1
          obtain ⟨yv, hy, g1, g2⟩ := H.sat.mem k _ (H.mem k _ hm)
          rw [h1] at hy; cases hy
          obtain ⟨q1, q2⟩ := append_src H ho hTU hT ht h2 g1 (Nat.eq_of_beq_eq_true hc.1.1.1) (Nat.le_of_ble_eq_true hc.1.1.2) hs hp
          exact append_does H g2 q1 ((k, none) :: kills) (fun j b hk => by
            rw [look_cons] at hk
            split at hk
            · cases hk
            · exact q2 j b hk) (fun j b q hj hb hq g hg hg' => by
            rw [look_cons] at hj
            split at hj
            · cases hj
            · rename_i hne
              exact H.sat.apart k j _ b u q hne (H.mem k _ hm) hb rfl h1 hq g (own_blockOf hg') hg)
      · cases hx
    · cases hx

/-! iterators over texts -/
def xRange (tbl : Tbl) (fr : Nat) (ev : Evl) (T : TypeId) (x : Operand) : Option Res :=
  match ev x with
  | some (.one (.str s)) => bif isStr tbl T then some (.eff True ⟨.one (.slc fr), [(fr, some (.iter s 0))]⟩) else none
  | _ => none
theorem does_range (H : Here C tbl ρ S a w fr o ev m) {T : TypeId} {x : Operand} (ho : o.op = .range T x) {p : Prop} {e : Eff} (hx : xRange tbl fr ev T x = some (.eff p e)) : Does C ρ S a w fr o e := by
  unfold xRange at hx
  split at hx
  · rename_i s hev
    cases hT : isStr tbl T with
    | false => rw [hT] at hx; cases hx
    | true =>
      rw [hT] at hx; cases hx
      obtain ⟨u, h1, h2⟩ := H.val hev
      simp only [denV, den, Option.some.injEq] at h1
      subst h1
      refine does_value (v := .pointer (some ⟨w.heap.size, 0, none⟩)) (w' := w.alloc (.stringIter ⟨s.toArray⟩ 0)) ?_ (Env.set_le H.fr0 _) (Env.set_dom (fr := fr) _ (Nat.le_refl _) (by omega))
        (H.sat.new o.dst _ _ _ _ _ H.fr0 H.fr16 H.dst rfl rfl (fun _ => by simp [denV, den, Env.set_self]) ⟨w.heap.size, rfl, heap_new w _, H.sat.base_le⟩ rfl)
      unfold execOp
      simp [ho, h2, Instr.range, run_underlying (isStr_get H.tbl hT)]
  · cases hx
def dec (s : List UInt8) (pos : Nat) : Int := ((Utf8.decode ⟨s.toArray⟩ pos).1 : Int)
def wid (s : List UInt8) (pos : Nat) : Nat := (Utf8.decode ⟨s.toArray⟩ pos).2
def xNext (ev : Evl) (m : Mem) (x : Operand) : Option (Bool × Eff × Eff) :=
  match ev x with
  | some (.one (.slc k)) =>
    match m k with
    | some (.iter s pos) => some (decide (pos < s.length), ⟨.tup [(false, [.tt]), (false, [.int .i64 pos]), (false, [.int .i32 (dec s pos)])], [(k, some (.iter s (pos + wid s pos)))]⟩, ⟨.tup [(false, [.ff])], []⟩)
    | _ => none
  | _ => none
theorem does_next (H : Here C tbl ρ S a w fr o ev m) {x : Operand} (ho : o.op = .next x true) {b : Bool} {e1 e2 : Eff} (hx : xNext ev m x = some (b, e1, e2)) : Does C ρ S a w fr o (bif b then e1 else e2) := by
  unfold xNext at hx
  split at hx
  · rename_i k hev
    split at hx
    · rename_i s pos hm
      cases hx
      obtain ⟨u, h1, h2⟩ := H.val hev
      simp only [denV, den] at h1
      obtain ⟨y, hy, g, g1, g2, g3⟩ := H.sat.mem k _ (H.mem k _ hm)
      rw [h1] at hy; cases hy
      subst g1
      have hsz : (⟨s.toArray⟩ : ByteArray).size = s.length := by simp [ByteArray.size]
      by_cases hp : pos < s.length
      · simp only [hp, decide_true, cond_true]
        have hglt : g < w.heap.size := (Array.getElem?_eq_some_iff.1 g2).1
        refine does_value (v := .tuple #[.bool true, goInt pos, .int .i32 (dec s pos)]) (w' := { w with heap := w.heap.setIfInBounds g (.stringIter ⟨s.toArray⟩ (pos + wid s pos)) }) ?_ (Env.le_refl ρ) (Dom.refl ρ fr) ?_
        · unfold execOp
          simp only [ho, h2, Instr.next, Sem.run_bind]
          have hg : (getObj g).run C.P w = .ok (.stringIter ⟨s.toArray⟩ pos) w := by simp [getObj, Sem.run, g2]
          rw [hg]
          simp only [Result.andThen_ok, hsz]
          rw [if_pos hp]
          have hset : (setObj g (.stringIter ⟨s.toArray⟩ (pos + wid s pos))).run C.P w = .ok () { w with heap := w.heap.setIfInBounds g (.stringIter ⟨s.toArray⟩ (pos + wid s pos)) } := by simp [setObj, Sem.run, g2]
          simp only [Sem.run_bind]
          show ((Sem.run C.P (setObj g (.stringIter ⟨s.toArray⟩ (pos + wid s pos))) w).andThen _).andThen _ = _
          rw [hset]
          rfl
        · have hh : ∀ j, j ≠ g → (w.heap.setIfInBounds g (.stringIter ⟨s.toArray⟩ (pos + wid s pos)))[j]? = w.heap[j]? := fun j hj => by
            rw [Array.getElem?_setIfInBounds, if_neg (Ne.symm hj)]
          refine H.sat.step (G := fun i => i = g) o.dst _ _ (Env.le_refl ρ) H.sat.one (fun _ _ => rfl) ⟨rfl, rfl, rfl, by simp, fun i _ hn => hh i hn⟩ (fun i hi => by subst hi; exact g3) (fun _ _ => by simp [denV, denC, den, goInt]) H.dst ?_ ?_ ?_
          · intro k' b' u' hl hb' hu' g' hg' hgg
            subst hgg
            rw [look_cons] at hl
            split at hl
            · cases hl
            · rename_i hne
              exact H.sat.apart k k' _ b' _ u' hne (H.mem k _ hm) hb' rfl h1 hu' g' rfl hg'
          · intro k' b' hl
            rw [look_cons] at hl
            split at hl
            · rename_i ek
              cases hl
              subst ek
              refine ⟨_, h1, g, rfl, ?_, g3⟩
              rw [Array.getElem?_setIfInBounds, if_pos rfl, if_pos hglt]
            · simp [look] at hl
          · intro k1 b1 u1 k2 b2 u2 hl hu1 hne hl2 hu2 _
            rw [look_cons] at hl
            split at hl
            · rename_i ek
              cases hl
              subst ek
              rw [h1] at hu1; cases hu1
              rw [look_cons, if_neg (Ne.symm hne)] at hl2
              rcases hl2 with hl2 | ⟨_, hl2⟩
              · simp [look] at hl2
              · intro g' hg' hg2
                exact H.sat.apart k k2 _ b2 _ u2 (Ne.symm hne) (H.mem k _ hm) hl2 rfl h1 hu2 g' hg' hg2
            · simp [look] at hl
      · simp only [hp, decide_false, cond_false]
        refine H.pure (v := .tuple #[.bool false]) ?_ (by simp [denV, denC, den])
        unfold execOp
        simp only [ho, h2, Instr.next, Sem.run_bind]
        have hg : (getObj g).run C.P w = .ok (.stringIter ⟨s.toArray⟩ pos) w := by simp [getObj, Sem.run, g2]
        rw [hg]
        simp only [Result.andThen_ok, hsz]
        rw [if_neg hp]
        rfl
    · cases hx
  · cases hx
def evInts (ev : Evl) (k : IntKind) : List Operand → Option (List Int)
  | [] => some []
  | x :: l =>
    match ev x with
    | some (.one (.int k' n)) => bif decide (k' = k) then (evInts ev k l).map fun r => n :: r else none
    | _ => none
def mnx (mx : Bool) (a b : Int) : Int := bif mx then (if b > a then b else a) else (if b < a then b else a)
def xMin (ev : Evl) (mx : Bool) (xs : List Operand) : Option Res :=
  match xs with
  | [] => none
  | x :: l =>
    match ev x with
    | some (.one (.int k n)) => (evInts ev k l).map fun r => .eff True ⟨.one (.int k (r.foldl (mnx mx) n)), []⟩
    | _ => none
theorem evInts_val (H : Here C tbl ρ S a w fr o ev m) {k : IntKind} : ∀ {l : List Operand} {r : List Int}, evInts ev k l = some r → l.map a.eval = r.map (Value.int k) := by
  intro l
  induction l with
  | nil => intro r h; cases h; rfl
  | cons x l ih =>
    intro r h
    unfold evInts at h
    split at h
    · rename_i k' n hev
      cases hk : decide (k' = k) with
      | false => rw [hk] at h; cases h
      | true =>
        have := of_decide_eq_true hk
        subst this
        rw [hk, cond_true, Option.map_eq_some_iff] at h
        obtain ⟨r', h1, rfl⟩ := h
        obtain ⟨u, h2, h3⟩ := H.val hev
        simp only [denV, den, Option.some.injEq] at h2
        subst h2
        simp [ih h1, h3]
    · cases h
theorem min_fold {P : Program} (w : World) (k : IntKind) : ∀ (r : List Int) (n : Int), ((r.map (Value.int k)).foldlM Builtin.min2 (.int k n)).run P w = .ok (.int k (r.foldl (mnx false) n)) w := by
  intro r
  induction r with
  | nil => intro n; rfl
  | cons x r ih =>
    intro n
    simp only [List.map_cons, List.foldlM_cons, Sem.run_bind, Builtin.min2, Sem.run_pure, Result.andThen_ok, ih, List.foldl_cons]
    rfl
theorem max_fold {P : Program} (w : World) (k : IntKind) : ∀ (r : List Int) (n : Int), ((r.map (Value.int k)).foldlM Builtin.max2 (.int k n)).run P w = .ok (.int k (r.foldl (mnx true) n)) w := by
  intro r
  induction r with
  | nil => intro n; rfl
  | cons x r ih =>
    intro n
    simp only [List.map_cons, List.foldlM_cons, Sem.run_bind, Builtin.max2, Sem.run_pure, Result.andThen_ok, ih, List.foldl_cons]
    rfl
theorem does_min (H : Here C tbl ρ S a w fr o ev m) {mx : Bool} {xs : Array Operand} {ts : Array TypeId} (ho : o.op = .call { callee := .builtin (bif mx then .max else .min), args := xs, argTypes := ts }) {p : Prop} {e : Eff} (hx : xMin ev mx xs.toList = some (.eff p e)) : Does C ρ S a w fr o e := by
  unfold xMin at hx
  split at hx
  · cases hx
  · rename_i x l hl
    split at hx
    · rename_i k n hev
      simp only [Option.map_eq_some_iff, Res.eff.injEq] at hx
      obtain ⟨r, h1, _, rfl⟩ := hx
      have h2 := evInts_val H h1
      obtain ⟨u, h3, h4⟩ := H.val hev
      simp only [denV, den, Option.some.injEq] at h3
      subst h3
      have hxs : (xs.map a.eval).toList = .int k n :: r.map (Value.int k) := by
        rw [Array.toList_map, hl, List.map_cons, h4, h2]
      cases mx with
      | true =>
        refine H.pure (exec_builtin ho (s := Builtin.max_ ts o.type (xs.map a.eval)) (fun _ => rfl) (v := .int k (r.foldl (mnx true) n)) ?_) rfl
        unfold Builtin.max_
        rw [hxs]
        exact max_fold w k r n
      | false =>
        refine H.pure (exec_builtin ho (s := Builtin.min_ ts o.type (xs.map a.eval)) (fun _ => rfl) (v := .int k (r.foldl (mnx false) n)) ?_) rfl
        unfold Builtin.min_
        rw [hxs]
        exact min_fold w k r n
    · cases hx

/-! ### all operations -/
/-- All of some obligations. -/
def All : List Prop → Prop
  | [] => True
  | [p] => p
  | p :: l => p ∧ All l
theorem All_one {p : Prop} (h : All [p]) : p := h
abbrev Out := List Prop × Eff
def tv (r : Option Res) : Option Out := r.map fun | .eff _ e => ([], e)
def ob (r : Option Res) : Option Out := r.map fun | .eff p e => ([p], e)
theorem tv_some {r : Option Res} {ps : List Prop} {e : Eff} (h : tv r = some (ps, e)) : ∃ p, r = some (.eff p e) := by
  unfold tv at h
  rw [Option.map_eq_some_iff] at h
  obtain ⟨⟨p, e'⟩, h1, h2⟩ := h
  cases h2
  exact ⟨p, h1⟩
theorem ob_some {r : Option Res} {ps : List Prop} {e : Eff} (h : ob r = some (ps, e)) : ∃ p, r = some (.eff p e) ∧ ps = [p] := by
  unfold ob at h
  rw [Option.map_eq_some_iff] at h
  obtain ⟨⟨p, e'⟩, h1, h2⟩ := h
  cases h2
  exact ⟨p, h1, rfl⟩
abbrev Hook := Nat → Oper → Evl → Mem → Option Out
def HookOK (tbl : Tbl) (G : Ctx → Prop) (hk : Hook) : Prop :=
  ∀ {C : Ctx} {ρ : Env} {S : AS} {a : Act} {w : World} {fr : Nat} {o : Oper} {ev : Evl} {m : Mem}, Here C tbl ρ S a w fr o ev m → G C → ∀ {ps : List Prop} {e : Eff}, hk fr o ev m = some (ps, e) → All ps → Does C ρ S a w fr o e
def isPtr : Option SV → Bool
  | some (.one (.ptr _ _)) => true
  | _ => false
def isInt : Option SV → Bool
  | some (.one (.int _ _)) => true
  | _ => false
def binTriv (op : BinOp) (x : Option SV) : Bool :=
  match op with
  | .eql | .neq | .lss | .leq | .gtr | .geq | .and | .or | .xor | .andNot => true
  | _ => false
theorem xLoad_triv {T : TypeId} {x : Operand} (hi : isPtr (ev x) = true) {p : Prop} {e : Eff} (h : xLoad tbl ev m T x = some (.eff p e)) : p := by
  unfold xLoad at h
  split at h
  · split at h
    · cases hc : Nat.ble _ _ with
      | false => rw [hc] at h; cases h
      | true =>
        rw [hc] at h
        simp only [cond_true, Option.map_eq_some_iff, Res.eff.injEq] at h
        obtain ⟨_, _, rfl, _⟩ := h
        trivial
    · cases hc : Nat.ble _ _ with
      | false => rw [hc] at h; cases h
      | true =>
        rw [hc] at h
        simp only [cond_true, Option.map_eq_some_iff, Res.eff.injEq] at h
        obtain ⟨_, _, rfl, _⟩ := h
        trivial
    · cases hc : Nat.ble _ _ with
      | false => rw [hc] at h; cases h
      | true =>
        rw [hc] at h
        simp only [cond_true, Option.map_eq_some_iff, Res.eff.injEq] at h
        obtain ⟨_, _, rfl, _⟩ := h
        trivial
    · cases h
  · rename_i hev
    rw [hev] at hi; cases hi
  · cases h
theorem xBin_triv {op : BinOp} {T : TypeId} {x y : Operand} (hb : binTriv op (ev x) = true) {p : Prop} {e : Eff} (h : xBinOp tbl ev op T x y = some (.eff p e)) : p := by
  unfold xBinOp at h
  split at h
  · rename_i k n k' n' e1 e2
    split at h
    · cases hb
    · cases hb
    · cases hk : decide (k = k') with
      | false => rw [hk] at h; cases h
      | true =>
        rw [hk] at h
        simp only [cond_true, ofBin, Option.map_eq_some_iff, Res.eff.injEq] at h
        obtain ⟨⟨q, r⟩, g1, rfl, _⟩ := h
        cases op <;> first | (cases hb; done) | (simp only [intBin, Option.some.injEq, Prod.mk.injEq] at g1; obtain ⟨rfl, _⟩ := g1; trivial)
  · rename_i e1 e2
    simp only [ofBin, Option.map_eq_some_iff, Res.eff.injEq] at h
    obtain ⟨⟨q, r⟩, g1, rfl, _⟩ := h
    cases op
    all_goals first | (cases hb; done) | (simp only [strBin, Option.some.injEq, Prod.mk.injEq] at g1; obtain ⟨rfl, _⟩ := g1; trivial) | (simp only [strBin, reduceCtorEq] at g1)
  · split at h
    · cases hk : isBool tbl T with
      | false => rw [hk] at h; cases h
      | true => rw [hk] at h; cases h; trivial
    · cases hk : isBool tbl T with
      | false => rw [hk] at h; cases h
      | true => rw [hk] at h; cases h; trivial
    · cases h
  · cases h
theorem xTA_triv {x : Operand} {T : TypeId} {p : Prop} {e : Eff} (h : xTypeAssert tbl ev x T true = some (.eff p e)) : p := by
  unfold xTypeAssert at h
  split at h
  · split at h
    · cases h; trivial
    · rename_i hh; cases hh
    · cases h
  · cases h
def core (tbl : Tbl) (fr : Nat) (o : Oper) (ev : Evl) (m : Mem) : Option Out :=
  match o.op with
  | .move x => tv (xMove ev x)
  | .assign x => tv (xMove ev x)
  | .pick c x y => tv (xPick ev c x y)
  | .alloc T => tv (xAlloc tbl fr T)
  | .box T x => tv (xBox tbl fr ev T x)
  | .build T ps => tv (xBuild tbl ev T ps.toList)
  | .buildSlice T n ps => tv (xBuildSlice tbl fr ev T n ps.toList)
  | .load T x => bif isPtr (ev x) then tv (xLoad tbl ev m T x) else ob (xLoad tbl ev m T x)
  | .store T x y => tv (xStore tbl ev m T x y)
  | .nilCheck x => tv (xNilCheck ev x)
  | .binOp op T x y _ => bif binTriv op (ev x) then tv (xBinOp tbl ev op T x y) else ob (xBinOp tbl ev op T x y)
  | .unOp op _ x => tv (xUnOp ev op x)
  | .convert T U x => ob (xConvert tbl ev T U x)
  | .makeInterface T x => tv (xMakeIface tbl ev T x)
  | .makeFunc f fs cs => tv (xMakeFunc ev f fs.toList cs.toList)
  | .slice T x lo hi mx => ob (xSlice tbl fr ev m T x lo hi mx)
  | .fieldAddr T x f => tv (xFieldAddr tbl ev T x f)
  | .field T x f => tv (xField tbl ev T x f)
  | .indexAddr T x i => ob (xIndexAddr tbl ev m T x i)
  | .index T x i => ob (xIndex tbl ev T x i)
  | .range T x => tv (xRange tbl fr ev T x)
  | .typeAssert x _ T ok => bif ok then tv (xTypeAssert tbl ev x T ok) else ob (xTypeAssert tbl ev x T ok)
  | .extract x i => tv (xExtract ev x i)
  | .call { callee := .builtin .len, args := ⟨[x]⟩, argTypes := ⟨[T]⟩ } => tv (xLen tbl ev m T x)
  | .call { callee := .builtin .append, args := ⟨[x, y]⟩, argTypes := ⟨[T, U]⟩ } => ob (xAppend tbl fr ev m T U x y)
  | .call { callee := .builtin .min, args := xs, argTypes := _ } => tv (xMin ev false xs.toList)
  | .call { callee := .builtin .max, args := xs, argTypes := _ } => tv (xMin ev true xs.toList)
  | _ => none
theorem core_sound (H : Here C tbl ρ S a w fr o ev m) {ps : List Prop} {e : Eff} (hx : core tbl fr o ev m = some (ps, e)) (hp : All ps) : Does C ρ S a w fr o e := by
  unfold core at hx
  split at hx
  case h_1 ho => obtain ⟨p, hx⟩ := tv_some hx; exact does_move H (.inl ho) hx
  case h_2 ho => obtain ⟨p, hx⟩ := tv_some hx; exact does_move H (.inr ho) hx
  case h_3 ho => obtain ⟨p, hx⟩ := tv_some hx; exact does_pick H ho hx
  case h_4 ho => obtain ⟨p, hx⟩ := tv_some hx; exact does_alloc H ho hx
  case h_5 ho => obtain ⟨p, hx⟩ := tv_some hx; exact does_box H ho hx
  case h_6 ho => obtain ⟨p, hx⟩ := tv_some hx; exact does_build H ho hx
  case h_7 ho => obtain ⟨p, hx⟩ := tv_some hx; exact does_buildSlice H ho hx
  case h_8 x ho =>
    cases hi : isPtr (ev x) with
    | true => rw [hi, cond_true] at hx; obtain ⟨p, hx⟩ := tv_some hx; exact does_load H ho hx (xLoad_triv hi hx)
    | false => rw [hi, cond_false] at hx; obtain ⟨p, hx2, rfl⟩ := ob_some hx; exact does_load H ho hx2 (All_one hp)
  case h_9 ho => obtain ⟨p, hx⟩ := tv_some hx; exact does_store H ho hx
  case h_10 ho => obtain ⟨p, hx⟩ := tv_some hx; exact does_nilCheck H ho hx
  case h_11 op _ x _ _ ho =>
    cases hi : binTriv op (ev x) with
    | true => rw [hi, cond_true] at hx; obtain ⟨p, hx⟩ := tv_some hx; exact does_binOp H ho hx (xBin_triv hi hx)
    | false => rw [hi, cond_false] at hx; obtain ⟨p, hx2, rfl⟩ := ob_some hx; exact does_binOp H ho hx2 (All_one hp)
  case h_12 ho => obtain ⟨p, hx⟩ := tv_some hx; exact does_unOp H ho hx
  case h_13 ho => obtain ⟨p, hx2, rfl⟩ := ob_some hx; exact does_convert H ho hx2 (All_one hp)
  case h_14 ho => obtain ⟨p, hx⟩ := tv_some hx; exact does_makeIface H ho hx
  case h_15 ho => obtain ⟨p, hx⟩ := tv_some hx; exact does_makeFunc H ho hx
  case h_16 ho => obtain ⟨p, hx2, rfl⟩ := ob_some hx; exact does_slice H ho hx2 (All_one hp)
  case h_17 ho => obtain ⟨p, hx⟩ := tv_some hx; exact does_fieldAddr H ho hx
  case h_18 ho => obtain ⟨p, hx⟩ := tv_some hx; exact does_field H ho hx
  case h_19 ho => obtain ⟨p, hx2, rfl⟩ := ob_some hx; exact does_indexAddr H ho hx2 (All_one hp)
  case h_20 ho => obtain ⟨p, hx2, rfl⟩ := ob_some hx; exact does_index H ho hx2 (All_one hp)
  case h_21 ho => obtain ⟨p, hx⟩ := tv_some hx; exact does_range H ho hx
  case h_22 ok ho =>
    cases ok with
    | true => rw [cond_true] at hx; obtain ⟨p, hx⟩ := tv_some hx; exact does_typeAssert H ho hx (xTA_triv hx)
    | false => rw [cond_false] at hx; obtain ⟨p, hx2, rfl⟩ := ob_some hx; exact does_typeAssert H ho hx2 (All_one hp)
  case h_23 ho => obtain ⟨p, hx⟩ := tv_some hx; exact does_extract H ho hx
  case h_24 ho => obtain ⟨p, hx⟩ := tv_some hx; exact does_len H ho hx
  case h_25 ho => obtain ⟨p, hx2, rfl⟩ := ob_some hx; exact does_append H ho hx2 (All_one hp)
  case h_26 ho => obtain ⟨p, hx⟩ := tv_some hx; exact does_min (mx := false) H ho hx
  case h_27 ho => obtain ⟨p, hx⟩ := tv_some hx; exact does_min (mx := true) H ho hx
  case h_28 => cases hx
def nextOf (o : Oper) (ev : Evl) (m : Mem) : Option (Bool × Eff × Eff) :=
  match o.op with
  | .next x true => xNext ev m x
  | _ => none
theorem nextOf_sound (H : Here C tbl ρ S a w fr o ev m) {b : Bool} {e1 e2 : Eff} (hx : nextOf o ev m = some (b, e1, e2)) : Does C ρ S a w fr o (bif b then e1 else e2) := by
  unfold nextOf at hx
  split at hx
  · rename_i ho
    exact does_next H ho hx
  · cases hx
end
end Go.Proofs.YtglfkihckkjniaaGreatDoor.Vx
