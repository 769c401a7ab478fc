/-
VX, part E: operations, continued: memory. No statement of the seat is proved here.
-/
import Derived.Test.YtglfkihckkjniaaGreatDoorVxD
set_option linter.unusedVariables false
set_option linter.unusedSimpArgs false
namespace Go.Proofs.YtglfkihckkjniaaGreatDoor.Vx
open Go Go.RowKit
section
variable {C : Ctx} {tbl : Tbl} {ρ : Env} {S : AS} {a : Act} {w : World} {fr : Nat} {o : Oper} {ev : Evl} {m : Mem}

theorem run_loadVar_list {P : Program} {T : TypeId} {i : TI} {inf : TypeInfo} {d : TypeDesc} {z : Value} (t : TIS P T i inf d z) {sv : SV} {cs : List SC} {vs : List Value} {ρ : Env}
    (hs : svOf i.agg cs = some sv) (hv : denL ρ cs = some vs) (hl : vs.length = i.size) (w : World) (b off : Nat) (hc : ∀ j v, vs[j]? = some v → w.cell? ⟨b, off + j, none⟩ = some v) :
    ∃ v, (loadVar T ⟨b, off, none⟩).run P w = .ok v w ∧ denV ρ sv = some v := by
  rcases svOf_den hs hv with ⟨h1, h2⟩ | ⟨h1, v, h2, h3⟩
  · refine ⟨_, ?_, h2⟩
    unfold loadVar
    rw [Sem.run_bind, t.run_agg, Result.andThen_ok, h1]
    simp only [if_true, Sem.run_bind, t.run_size, Result.andThen_ok]
    rw [← hl, run_loadCells_list w ⟨b, off, none⟩ vs (fun j v hj => by rw [Addr.add_lit]; exact hc j v hj)]
    rfl
  · refine ⟨v, ?_, h3⟩
    unfold loadVar
    rw [Sem.run_bind, t.run_agg, Result.andThen_ok, h1]
    subst h2
    have := hc 0 v rfl
    rw [Nat.add_zero] at this
    simp [this]

/-- A column of a table of cells, told by a variable row. -/
def intsOf (k : IntKind) : List SC → Option (List Int)
  | [] => some []
  | .int k' n :: l => bif decide (k' = k) then (intsOf k l).map fun ns => n :: ns else none
  | _ :: _ => none
def strsOf : List SC → Option (List (List UInt8))
  | [] => some []
  | .str s :: l => (strsOf l).map fun ns => s :: ns
  | _ :: _ => none
def boolsOf : List SC → Option (List Bool)
  | [] => some []
  | x :: l => (boolOf x).bind fun b => (boolsOf l).map fun ns => b :: ns
def col (cs : List SC) (sz f : Nat) : Nat → Nat → Option (List SC)
  | 0, _ => some []
  | n + 1, i => (cs[i * sz + f]?).bind fun x => (col cs sz f n (i + 1)).map fun l => x :: l
def pickCol (l : List SC) (i : Nat) : Option SC :=
  match l with
  | .int k _ :: _ => (intsOf k l).map fun ns => .int k (ns.getD i 0)
  | .str _ :: _ => (strsOf l).map fun ns => .str (ns.getD i [])
  | .bool _ :: _ | .tt :: _ | .ff :: _ => (boolsOf l).map fun ns => .bool (ns.getD i false)
  | _ => none
def pickCells (cs : List SC) (sz n i : Nat) : Nat → Nat → Option (List SC)
  | 0, _ => some []
  | k + 1, f => ((col cs sz f n 0).bind fun l => pickCol l i).bind fun x => (pickCells cs sz n i k (f + 1)).map fun r => x :: r
theorem intsOf_get {k : IntKind} : ∀ {l : List SC} {ns : List Int}, intsOf k l = some ns → ns.length = l.length ∧ ∀ (i : Nat) (x : SC), l[i]? = some x → ns[i]?.map (SC.int k) = some x := by
  intro l
  induction l with
  | nil => intro ns h; cases h; exact ⟨rfl, fun i x hx => by simp at hx⟩
  | cons y l ih =>
    intro ns h
    cases y with
    | int k' n =>
      simp only [intsOf] at h
      by_cases hk : k' = k
      · subst hk
        simp only [decide_true, cond_true, Option.map_eq_some_iff] at h
        obtain ⟨ms, h1, rfl⟩ := h
        obtain ⟨h2, h3⟩ := ih h1
        refine ⟨by simp [h2], fun i x hx => ?_⟩
        cases i with
        | zero => simpa using hx
        | succ i => simpa using h3 i x (by simpa using hx)
      · simp [hk] at h
    | _ => cases h
theorem strsOf_get : ∀ {l : List SC} {ns : List (List UInt8)}, strsOf l = some ns → ns.length = l.length ∧ ∀ (i : Nat) (x : SC), l[i]? = some x → ns[i]?.map SC.str = some x := by
  intro l
  induction l with
  | nil => intro ns h; cases h; exact ⟨rfl, fun i x hx => by simp at hx⟩
  | cons y l ih =>
    intro ns h
    cases y with
    | str n =>
      simp only [strsOf, Option.map_eq_some_iff] at h
      obtain ⟨ms, h1, rfl⟩ := h
      obtain ⟨h2, h3⟩ := ih h1
      refine ⟨by simp [h2], fun i x hx => ?_⟩
      cases i with
      | zero => simpa using hx
      | succ i => simpa using h3 i x (by simpa using hx)
    | _ => cases h
theorem boolsOf_get : ∀ {l : List SC} {ns : List Bool}, boolsOf l = some ns → ns.length = l.length ∧ ∀ (i : Nat) (x : SC), l[i]? = some x → ∃ b, ns[i]? = some b ∧ boolOf x = some b := by
  intro l
  induction l with
  | nil => intro ns h; cases h; exact ⟨rfl, fun i x hx => by simp at hx⟩
  | cons y l ih =>
    intro ns h
    simp only [boolsOf, Option.bind_eq_some_iff, Option.map_eq_some_iff] at h
    obtain ⟨b, hb, ms, h1, rfl⟩ := h
    obtain ⟨h2, h3⟩ := ih h1
    refine ⟨by simp [h2], fun i x hx => ?_⟩
    cases i with
    | zero => simp at hx; subst hx; exact ⟨b, by simp, hb⟩
    | succ i => simpa using h3 i x (by simpa using hx)
theorem col_get {cs : List SC} {sz f : Nat} : ∀ {n i : Nat} {l : List SC}, col cs sz f n i = some l → l.length = n ∧ ∀ j, j < n → l[j]? = cs[(i + j) * sz + f]? := by
  intro n
  induction n with
  | zero => intro i l h; cases h; exact ⟨rfl, fun j hj => by omega⟩
  | succ n ih =>
    intro i l h
    simp only [col, Option.bind_eq_some_iff, Option.map_eq_some_iff] at h
    obtain ⟨x, hx, r, h1, rfl⟩ := h
    obtain ⟨h2, h3⟩ := ih h1
    refine ⟨by simp [h2], fun j hj => ?_⟩
    cases j with
    | zero => simp [hx]
    | succ j => rw [List.getElem?_cons_succ, h3 j (by omega), show i + (j + 1) = i + 1 + j by omega]
theorem pickCol_den {l : List SC} {i : Nat} {x y : SC} (h : pickCol l i = some x) (hy : l[i]? = some y) (ρ : Env) : den ρ x = den ρ y := by
  have hi : i < l.length := (List.getElem?_eq_some_iff.1 hy).1
  unfold pickCol at h
  have bcase : ∀ {x}, (boolsOf l).map (fun ns => SC.bool (ns.getD i false)) = some x → den ρ x = den ρ y := by
    intro x h
    simp only [Option.map_eq_some_iff] at h
    obtain ⟨ns, h1, rfl⟩ := h
    obtain ⟨h2, h3⟩ := boolsOf_get h1
    obtain ⟨b, h4, h5⟩ := h3 i y hy
    rw [boolOf_den h5 ρ, List.getD_eq_getElem?_getD, h4]
    rfl
  split at h
  · simp only [Option.map_eq_some_iff] at h
    obtain ⟨ns, h1, rfl⟩ := h
    obtain ⟨h2, h3⟩ := intsOf_get h1
    have h4 := h3 i y hy
    rw [Option.map_eq_some_iff] at h4
    obtain ⟨n, h5, rfl⟩ := h4
    simp [List.getD_eq_getElem?_getD, h5]
  · simp only [Option.map_eq_some_iff] at h
    obtain ⟨ns, h1, rfl⟩ := h
    obtain ⟨h2, h3⟩ := strsOf_get h1
    have h4 := h3 i y hy
    rw [Option.map_eq_some_iff] at h4
    obtain ⟨n, h5, rfl⟩ := h4
    simp [List.getD_eq_getElem?_getD, h5]
  · exact bcase h
  · exact bcase h
  · exact bcase h
  · cases h
theorem pickCells_den {cs : List SC} {sz n i : Nat} (hi : i < n) {ρ : Env} {vs : List Value} (hvs : denL ρ cs = some vs) : ∀ {k f : Nat} {r : List SC}, pickCells cs sz n i k f = some r →
    ∃ us, denL ρ r = some us ∧ us.length = k ∧ ∀ j v, us[j]? = some v → vs[i * sz + (f + j)]? = some v := by
  intro k
  induction k with
  | zero => intro f r h; cases h; exact ⟨[], rfl, rfl, fun j v hv => by simp at hv⟩
  | succ k ih =>
    intro f r h
    simp only [pickCells, Option.bind_eq_some_iff, Option.map_eq_some_iff] at h
    obtain ⟨x, ⟨l, hl, hx⟩, r', h1, rfl⟩ := h
    obtain ⟨us, h2, h3, h4⟩ := ih h1
    obtain ⟨h5, h6⟩ := col_get hl
    have h7 := h6 i hi
    rw [Nat.zero_add, List.getElem?_eq_getElem (by omega)] at h7
    obtain ⟨u, h8, h9⟩ := denL_get hvs h7.symm
    have h10 := pickCol_den hx (by rw [List.getElem?_eq_getElem (by omega)]) ρ
    refine ⟨u :: us, denL_cons_some.2 ⟨u, us, h10.trans h8, h2, rfl⟩, by simp [h3], fun j v hv => ?_⟩
    cases j with
    | zero => simp at hv; subst hv; simpa using h9
    | succ j =>
      have := h4 j v (by simpa using hv)
      rw [show f + (j + 1) = f + 1 + j by omega]
      exact this

def xLoad (tbl : Tbl) (ev : Evl) (m : Mem) (T : TypeId) (x : Operand) : Option Res :=
  match look T tbl, ev x with
  | some i, some (.one (.ptr k off)) =>
    match m k with
    | some (.cells _ cs) => bif Nat.ble (off + i.size) cs.length then (svOf i.agg ((cs.drop off).take i.size)).map fun v => .eff True ⟨v, []⟩ else none
    | some (.lit _ _ cs) => bif Nat.ble (off + i.size) cs.length then (svOf i.agg ((cs.drop off).take i.size)).map fun v => .eff True ⟨v, []⟩ else none
    | some (.ro _ cs) => bif Nat.ble (off + i.size) cs.length then (svOf i.agg ((cs.drop off).take i.size)).map fun v => .eff True ⟨v, []⟩ else none
    | _ => none
  | some i, some (.one (.ept k ix sz f)) =>
    match m k with
    | some (.read l) => bif Nat.beq sz l.sz && Nat.ble (f + i.size) l.sz then (svOf i.agg (((l.cell ix).drop f).take i.size)).map fun v => .eff (ix < l.len) ⟨v, []⟩ else none
    | some (.row _ l) => bif Nat.beq sz l.sz && Nat.ble (f + i.size) l.sz then (svOf i.agg (((l.cell ix).drop f).take i.size)).map fun v => .eff (ix < l.len) ⟨v, []⟩ else none
    | some (.lit _ n cs) => bif Nat.ble (n * sz) cs.length && Nat.ble (f + i.size) sz then ((pickCells cs sz n ix i.size f).bind (svOf i.agg)).map fun v => .eff (ix < n) ⟨v, []⟩ else none
    | _ => none
  | _, _ => none
theorem listCells_get {w : World} {b o : Nat} {l : Ls} (hc : ∀ j, j < l.len * l.sz → w.cell? ⟨b, o + j, none⟩ = l.flat[j]?) {i : Nat} (hi : i < l.len) {f n : Nat} (hf : f + n ≤ l.sz) (ρ : Env) :
    ∃ vs, denL ρ (((l.cell i).drop f).take n) = some vs ∧ vs.length = n ∧ ∀ j v, vs[j]? = some v → w.cell? ⟨b, o + (i * l.sz + f) + j, none⟩ = some v := by
  obtain ⟨us, h1, h2⟩ := l.cell_den ρ hi
  have hul : us.length = l.sz := l.row_size us (List.mem_of_getElem? h2)
  refine ⟨(us.drop f).take n, denL_take (denL_drop h1 f) n, by simp; omega, fun j v hv => ?_⟩
  have hj : j < n := by
    have := (List.getElem?_eq_some_iff.1 hv).1
    simp at this; omega
  rw [List.getElem?_take, if_pos hj, List.getElem?_drop] at hv
  have hlt : i * l.sz + (f + j) < l.len * l.sz := by
    have : (i + 1) * l.sz ≤ l.len * l.sz := Nat.mul_le_mul_right _ hi
    rw [Nat.succ_mul] at this
    omega
  rw [show o + (i * l.sz + f) + j = o + (i * l.sz + (f + j)) by omega, hc _ hlt, l.flat_get i (f + j) (by omega), h2]
  exact hv
theorem row_cells {w : World} {ty : TypeId} {v : Value} {l : Ls} (h : w.ownsRowF 0 ty l.sz v l.len l.flat) (hp : 0 < l.len) : ∃ b cap, v = .slice (some ⟨b, 0, none⟩) l.len cap ∧ l.len ≤ cap ∧ l.len ≤ maxLen ∧
    ∀ j, j < l.len * l.sz → w.cell? ⟨b, 0 + j, none⟩ = l.flat[j]? := by
  rcases h.2 with ⟨_, h2⟩ | ⟨g, cap, cur, fz, h1, _, h3, _, h4, h5, _⟩
  · omega
  · refine ⟨g, cap, h1, h4, Nat.le_trans h4 h5, fun j hj => ?_⟩
    have hj' : j < l.flat.length := by rw [l.flat_length]; exact hj
    have := h.cells (g := g) (by subst h1; rfl) j _ (List.getElem?_eq_getElem hj')
    rw [Addr.add_lit] at this
    rw [this, List.getElem?_eq_getElem hj']
theorem load_at (H : Here C tbl ρ S a w fr o ev m) {T : TypeId} {x : Operand} (ho : o.op = .load T x) {i : TI} (hi : look T tbl = some i) {u : Value} (hu : a.eval x = u) {b off : Nat} (hub : u = .pointer (some ⟨b, off, none⟩))
    {cs : List SC} {vs : List Value} {sv : SV} (hs : svOf i.agg cs = some sv) (hv : denL ρ cs = some vs) (hl : vs.length = i.size) (hc : ∀ j v, vs[j]? = some v → w.cell? ⟨b, off + j, none⟩ = some v) :
    Does C ρ S a w fr o ⟨sv, []⟩ := by
  obtain ⟨inf, d, z, t⟩ := tbl_get H.tbl hi
  obtain ⟨v, h1, h2⟩ := run_loadVar_list t hs hv hl w b off hc
  refine H.pure (v := v) ?_ h2
  unfold execOp
  simp only [ho, Instr.loadAt, Instr.sureAddr, hu, hub, Sem.run_bind, Sem.run_pure, Result.andThen_ok, h1]
theorem does_load (H : Here C tbl ρ S a w fr o ev m) {T : TypeId} {x : Operand} (ho : o.op = .load T x) {p : Prop} {e : Eff} (hx : xLoad tbl ev m T x = some (.eff p e)) (hp : p) : Does C ρ S a w fr o e := by
  unfold xLoad at hx
  split at hx
  · rename_i i k off hi hev
    obtain ⟨u, hu1, hu2⟩ := H.val hev
    have hcell : ∀ (cs : List SC) (b : Nat) (vs : List Value) (y : Value) (ty : TypeId), ρ k = some y → baseOf y = some b → denL ρ cs = some vs → w.heap[b]? = some (.cells vs.toArray ty (0, 0)) →
        (bif Nat.ble (off + i.size) cs.length then (svOf i.agg ((cs.drop off).take i.size)).map fun v => Res.eff True ⟨v, []⟩ else none) = some (.eff p e) → Does C ρ S a w fr o e := by
      intro cs b vs y ty hy hb hvs hh hx
      cases hc : Nat.ble (off + i.size) cs.length with
      | false => rw [hc] at hx; cases hx
      | true =>
        rw [hc] at hx
        simp only [cond_true, Option.map_eq_some_iff, Res.eff.injEq] at hx
        obtain ⟨sv, hs, _, rfl⟩ := hx
        have hle := Nat.le_of_ble_eq_true hc
        have hlen := denL_length hvs
        have hp : u = .pointer (some ⟨b, off, none⟩) := by
          simp only [denV, den, denPtr, hy, Option.bind_some, hb, Option.map_some, Option.some.injEq] at hu1
          exact hu1.symm
        refine load_at H ho hi hu2 hp hs (denL_take (denL_drop hvs off) i.size) (by simp; omega) fun j v hv => ?_
        have hj : j < i.size := by
          have := (List.getElem?_eq_some_iff.1 hv).1
          simp at this; omega
        rw [List.getElem?_take, if_pos hj, List.getElem?_drop] at hv
        simp [World.cell?, hh, hv]
    split at hx
    · rename_i ty cs hm
      obtain ⟨y, hy, hok⟩ := H.sat.mem k _ (H.mem k _ hm)
      obtain ⟨b, vs, h1, h2, h3, _⟩ := hok
      exact hcell cs b vs y ty hy h1 h2 h3 hx
    · rename_i ty n cs hm
      obtain ⟨y, hy, hok⟩ := H.sat.mem k _ (H.mem k _ hm)
      obtain ⟨b, vs, h1, h2, h3, _⟩ := hok
      exact hcell cs b vs y ty hy (by subst h1; rfl) h2 h3 hx
    · rename_i ty cs hm
      obtain ⟨y, hy, hok⟩ := H.sat.mem k _ (H.mem k _ hm)
      obtain ⟨b, vs, h1, h2, h3, _⟩ := hok
      exact hcell cs b vs y ty hy h1 h2 h3 hx
    · cases hx
  · rename_i i k ix sz f hi hev
    obtain ⟨u, hu1, hu2⟩ := H.val hev
    have hlist : ∀ (l : Ls) (b oo : Nat) (y : Value), ρ k = some y → elemBase y = some ⟨b, oo, none⟩ → (∀ j, j < l.len * l.sz → w.cell? ⟨b, oo + j, none⟩ = l.flat[j]?) → ix < l.len → sz = l.sz → f + i.size ≤ l.sz →
        ∀ sv, svOf i.agg (((l.cell ix).drop f).take i.size) = some sv → Does C ρ S a w fr o ⟨sv, []⟩ := by
      intro l b oo y hy hb hc hix hsz hf sv hs
      obtain ⟨vs, h1, h2, h3⟩ := listCells_get hc hix hf ρ
      have hp : u = .pointer (some ⟨b, oo + (ix * sz + f), none⟩) := by
        simp only [denV, den, hy, Option.bind_some, hb, Option.map_some, Option.some.injEq] at hu1
        exact hu1.symm
      subst hsz
      exact load_at H ho hi hu2 hp hs h1 h2 h3
    split at hx
    · rename_i l hm
      obtain ⟨y, hy, A, c, h1, h2, h3, h4⟩ := H.sat.mem k _ (H.mem k _ hm)
      cases hc : Nat.beq sz l.sz && Nat.ble (f + i.size) l.sz with
      | false => rw [hc] at hx; cases hx
      | true =>
        rw [hc] at hx
        simp only [cond_true, Option.map_eq_some_iff, Res.eff.injEq] at hx
        obtain ⟨sv, hs, rfl, rfl⟩ := hx
        simp only [Bool.and_eq_true] at hc
        obtain ⟨b, oo, e1, e2, _⟩ := h4 (by omega)
        exact hlist l b oo y hy (by subst h1; subst e1; rfl) e2 hp (Nat.eq_of_beq_eq_true hc.1) (Nat.le_of_ble_eq_true hc.2) sv hs
    · rename_i ty l hm
      obtain ⟨y, hy, h1, h2⟩ := H.sat.mem k _ (H.mem k _ hm)
      cases hc : Nat.beq sz l.sz && Nat.ble (f + i.size) l.sz with
      | false => rw [hc] at hx; cases hx
      | true =>
        rw [hc] at hx
        simp only [cond_true, Option.map_eq_some_iff, Res.eff.injEq] at hx
        obtain ⟨sv, hs, rfl, rfl⟩ := hx
        simp only [Bool.and_eq_true] at hc
        obtain ⟨b, cap, e1, _, _, e2⟩ := row_cells h1 (by omega)
        exact hlist l b 0 y hy (by subst e1; rfl) e2 hp (Nat.eq_of_beq_eq_true hc.1) (Nat.le_of_ble_eq_true hc.2) sv hs
    · rename_i ty n cs hm
      obtain ⟨y, hy, b, vs, h1, h2, h3, _⟩ := H.sat.mem k _ (H.mem k _ hm)
      cases hc : Nat.ble (n * sz) cs.length && Nat.ble (f + i.size) sz with
      | false => rw [hc] at hx; cases hx
      | true =>
        rw [hc] at hx
        simp only [cond_true, Option.map_eq_some_iff, Option.bind_eq_some_iff, Res.eff.injEq] at hx
        obtain ⟨sv, ⟨r, hr, hs⟩, rfl, rfl⟩ := hx
        obtain ⟨us, g1, g2, g3⟩ := pickCells_den hp h2 hr
        have hpt : u = .pointer (some ⟨b, 0 + (ix * sz + f), none⟩) := by
          simp only [denV, den, hy, Option.bind_some, h1, elemBase, Option.map_some, Option.some.injEq] at hu1
          exact hu1.symm
        refine load_at H ho hi hu2 hpt hs g1 g2 fun j v hv => ?_
        have := g3 j v hv
        simp only [World.cell?, h3, List.getElem?_toArray]
        rw [show 0 + (ix * sz + f) + j = ix * sz + (f + j) by omega]
        simpa using this
    · cases hx
  · cases hx
end
end Go.Proofs.YtglfkihckkjniaaGreatDoor.Vx
