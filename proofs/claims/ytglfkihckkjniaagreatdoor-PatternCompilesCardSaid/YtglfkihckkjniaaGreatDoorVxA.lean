/-
VX, part A: symbolic values, symbolic memory, what they stand for. No statement of the seat is proved here.
-/
import Derived.WalkKit
import Derived.KernelRfl
set_option linter.unusedVariables false
set_option linter.unusedSimpArgs false
namespace Go.Proofs.YtglfkihckkjniaaGreatDoor.Vx
open Go Go.RowKit

/-! ### 1. Pure data -/
structure Tok where
  r : Int
  q : Bool
  p : Int
deriving DecidableEq, Inhabited
structure Itm where
  k : Int
  r : Int
deriving DecidableEq, Inhabited
/-- The values of the program's small interface types. -/
inductive Iv where
  | single (r : Int) (q : Bool) (p : Int)
  | padding (r p : Int)
  | plain (r p : Int)
  | quoted (r p : Int)
deriving DecidableEq, Inhabited
structure Spot where
  r : Int
  p : Int
  w : Int
deriving DecidableEq, Inhabited
structure Elm where
  r : Int
  q : Bool
  p : Int
  pad : Bool
deriving DecidableEq, Inhabited

def Tok.enc (t : Tok) : List Value := [.int .i32 t.r, .bool t.q, .int .i64 t.p]
def Itm.enc (t : Itm) : List Value := [.int .i64 t.k, .int .i32 t.r]
def Iv.ty : Iv → TypeId
  | .single .. => 106
  | .padding .. => 60
  | .plain .. => 127
  | .quoted .. => 129
def Iv.body : Iv → List Value
  | .single r q p => [.int .i32 r, .bool q, .int .i64 p]
  | .padding r p => [.int .i32 r, .int .i64 p]
  | .plain r p => [.int .i32 r, .int .i64 p]
  | .quoted r p => [.int .i32 r, .int .i64 p]
def Iv.enc (x : Iv) : Value := .iface x.ty (.agg x.body.toArray)
def Spot.enc (s : Spot) : List Value := [.int .i32 s.r, .int .i64 s.p, .int .i64 s.w]
def Elm.enc (s : Elm) : List Value := [.int .i32 s.r, .bool s.q, .int .i64 s.p, .bool s.pad]

/-- A cell, symbolically: names stand for blocks and slices. -/
inductive SC where
  | int (k : IntKind) (n : Int)
  | bool (b : Bool)
  | tt
  | ff
  | str (s : List UInt8)
  | ptr (k off : Nat)
  | slc (k : Nat)
  | nils
  | ept (k i sz f : Nat)
  | mp (k : Nat) (b : Bool)
  | gpt (g i sz f : Nat)
  | fn (f : Nat) (caps : List (Nat × Nat))
  | iv (x : Iv)
  | raw (v : Value)
  | und
inductive SV where
  | one (x : SC)
  | agg (l : List SC)
  | tup (l : List (Bool × List SC))

/-- Typed lists. -/
inductive Ls where
  | toks (l : List Tok)
  | items (l : List Itm)
  | ivs (l : List Iv)
  | ints (k : IntKind) (l : List Int)
  | strs (l : List (List UInt8))
  | spots (l : List Spot)
  | elms (l : List Elm)

def Ls.rows : Ls → List (List Value)
  | .toks l => l.map Tok.enc
  | .items l => l.map Itm.enc
  | .ivs l => l.map fun x => [x.enc]
  | .ints k l => l.map fun n => [.int k n]
  | .strs l => l.map fun s => [.string ⟨s.toArray⟩]
  | .spots l => l.map Spot.enc
  | .elms l => l.map Elm.enc
def Ls.len : Ls → Nat
  | .toks l => l.length
  | .items l => l.length
  | .ivs l => l.length
  | .ints _ l => l.length
  | .strs l => l.length
  | .spots l => l.length
  | .elms l => l.length
def Ls.sz : Ls → Nat
  | .toks _ => 3
  | .items _ => 2
  | .ivs _ => 1
  | .ints _ _ => 1
  | .strs _ => 1
  | .spots _ => 3
  | .elms _ => 4
def Ls.cell : Ls → Nat → List SC
  | .toks l, i => [.int .i32 (l.getD i default).r, .bool (l.getD i default).q, .int .i64 (l.getD i default).p]
  | .items l, i => [.int .i64 (l.getD i default).k, .int .i32 (l.getD i default).r]
  | .ivs l, i => [.iv (l.getD i default)]
  | .ints k l, i => [.int k (l.getD i 0)]
  | .strs l, i => [.str (l.getD i [])]
  | .spots l, i => [.int .i32 (l.getD i default).r, .int .i64 (l.getD i default).p, .int .i64 (l.getD i default).w]
  | .elms l, i => [.int .i32 (l.getD i default).r, .bool (l.getD i default).q, .int .i64 (l.getD i default).p, .bool (l.getD i default).pad]
def Ls.flat (l : Ls) : List Value := l.rows.flatten

def boolOf : SC → Option Bool
  | .bool b => some b
  | .tt => some true
  | .ff => some false
  | _ => none
def Ls.snoc : Ls → List SC → Option Ls
  | .toks l, [.int .i32 r, b, .int .i64 p] => (boolOf b).map fun q => .toks (l ++ [⟨r, q, p⟩])
  | .items l, [.int .i64 k, .int .i32 r] => some (.items (l ++ [⟨k, r⟩]))
  | .ivs l, [.iv x] => some (.ivs (l ++ [x]))
  | .ints .i64 l, [.int .i64 n] => some (.ints .i64 (l ++ [n]))
  | .ints .i32 l, [.int .i32 n] => some (.ints .i32 (l ++ [n]))
  | .ints .u8 l, [.int .u8 n] => some (.ints .u8 (l ++ [n]))
  | .ints .u32 l, [.int .u32 n] => some (.ints .u32 (l ++ [n]))
  | .strs l, [.str s] => some (.strs (l ++ [s]))
  | .spots l, [.int .i32 r, .int .i64 p, .int .i64 w] => some (.spots (l ++ [⟨r, p, w⟩]))
  | .elms l, [.int .i32 r, b, .int .i64 p, d] => (boolOf b).bind fun q => (boolOf d).map fun e => .elms (l ++ [⟨r, q, p, e⟩])
  | _, _ => none
/-- Elements lo to hi. -/
def Ls.cut : Ls → Nat → Nat → Ls
  | .toks l, a, b => .toks ((l.take b).drop a)
  | .items l, a, b => .items ((l.take b).drop a)
  | .ivs l, a, b => .ivs ((l.take b).drop a)
  | .ints k l, a, b => .ints k ((l.take b).drop a)
  | .strs l, a, b => .strs ((l.take b).drop a)
  | .spots l, a, b => .spots ((l.take b).drop a)
  | .elms l, a, b => .elms ((l.take b).drop a)

inductive SB where
  | cells (ty : TypeId) (cs : List SC)
  | row (ty : TypeId) (l : Ls)
  | read (l : Ls)
  | iter (s : List UInt8) (pos : Nat)
  | lit (ty : TypeId) (n : Nat) (cs : List SC)
  | ro (ty : TypeId) (cs : List SC)

def SB.mut : SB → Bool
  | .read _ => false
  | .ro _ _ => false
  | _ => true

def look {α : Type} (k : Nat) : List (Nat × α) → Option α
  | [] => none
  | (j, x) :: l => bif Nat.beq j k then some x else look k l
theorem look_nil {α : Type} (k : Nat) : look k ([] : List (Nat × α)) = none := rfl
theorem look_cons {α : Type} (k j : Nat) (x : α) (l : List (Nat × α)) : look k ((j, x) :: l) = if j = k then some x else look k l := by
  simp only [look]
  by_cases h : j = k
  · simp [h]
  · have : Nat.beq j k = false := by
      cases hb : Nat.beq j k with
      | false => rfl
      | true => exact absurd (Nat.eq_of_beq_eq_true hb) h
    simp [h, this]
theorem look_append {α : Type} (k : Nat) (l m : List (Nat × α)) : look k (l ++ m) = (look k l).or (look k m) := by
  induction l with
  | nil => simp [look]
  | cons x l ih =>
    obtain ⟨j, x⟩ := x
    rw [List.cons_append, look_cons, look_cons, ih]
    split <;> simp

structure AS where
  slots : List (Nat × SV)
  mem : List (Nat × Option SB)
  next : Nat
def AS.slot (S : AS) (t : Nat) : Option SV := look t S.slots
def AS.blk (S : AS) (k : Nat) : Option SB := (look k S.mem).join

structure Eff where
  dst : SV
  mem : List (Nat × Option SB)
def AS.put (S : AS) (dst : Option Nat) (x : SV) : AS :=
  match dst with
  | some d => { S with slots := (d, x) :: S.slots }
  | none => S
def AS.upd (S : AS) (dst : Option Nat) (e : Eff) : AS := { (S.put dst e.dst) with mem := e.mem ++ S.mem }

/-! ### 2. What symbols stand for -/
abbrev Env := Nat → Option Value
def baseOf : Value → Option Nat
  | .pointer (some ⟨b, 0, none⟩) => some b
  | .slice (some ⟨b, 0, none⟩) _ _ => some b
  | _ => none
def elemBase : Value → Option Addr
  | .slice (some ⟨b, o, none⟩) _ _ => some ⟨b, o, none⟩
  | _ => none
def denPtr (ρ : Env) (k off : Nat) : Option Value := ((ρ k).bind baseOf).map fun b => .pointer (some ⟨b, off, none⟩)
def den (ρ : Env) : SC → Option Value
  | .int k n => some (.int k n)
  | .bool b => some (.bool b)
  | .tt => some (.bool true)
  | .ff => some (.bool false)
  | .str s => some (.string ⟨s.toArray⟩)
  | .ptr k off => denPtr ρ k off
  | .slc k => ρ k
  | .nils => some (.slice none 0 0)
  | .mp k b => if b then denPtr ρ k 0 else some (.pointer none)
  | .gpt g i sz f => some (.pointer (some ⟨g, i * sz + f, none⟩))
  | .ept k i sz f => ((ρ k).bind elemBase).map fun a => .pointer (some ⟨a.block, a.off + (i * sz + f), none⟩)
  | .fn f caps => (caps.mapM fun (k, off) => denPtr ρ k off).map fun (vs : List Value) => .func (.func f) #[] vs.toArray
  | .iv x => some x.enc
  | .raw v => if v.oneCell' then some v else none
  | .und => none
def denL (ρ : Env) (l : List SC) : Option (List Value) := l.mapM (den ρ)
def denC (ρ : Env) : Bool × List SC → Option Value
  | (true, l) => (denL ρ l).map fun (vs : List Value) => .agg vs.toArray
  | (false, [x]) => den ρ x
  | (false, _) => none
def denV (ρ : Env) : SV → Option Value
  | .one x => den ρ x
  | .agg l => (denL ρ l).map fun (vs : List Value) => .agg vs.toArray
  | .tup l => (l.mapM (denC ρ)).map fun (vs : List Value) => .tuple vs.toArray

def Env.le (ρ ρ' : Env) : Prop := ∀ k v, ρ k = some v → ρ' k = some v
theorem Env.le_refl (ρ : Env) : ρ.le ρ := fun _ _ h => h
theorem Env.le_trans {a b c : Env} (h : a.le b) (k : b.le c) : a.le c := fun i v e => k i v (h i v e)
theorem denPtr_le {ρ ρ' : Env} (h : ρ.le ρ') {k off : Nat} {v : Value} (e : denPtr ρ k off = some v) : denPtr ρ' k off = some v := by
  unfold denPtr at *
  cases hk : ρ k with
  | none => simp [hk] at e
  | some u => rw [h k u hk]; rw [hk] at e; exact e
theorem mapM_le {α : Type} {f g : α → Option Value} (hfg : ∀ x v, f x = some v → g x = some v) : ∀ (l : List α) (vs : List Value), l.mapM f = some vs → l.mapM g = some vs := by
  intro l
  induction l with
  | nil => intro vs h; simpa using h
  | cons x l ih =>
    intro vs h
    rw [List.mapM_cons] at h ⊢
    cases hx : f x with
    | none => simp [hx] at h
    | some v =>
      rw [hfg x v hx]
      rw [hx] at h
      cases hl : l.mapM f with
      | none => simp [hl] at h
      | some us => simp [hl] at h; simp [ih us hl, h]
theorem den_le {ρ ρ' : Env} (h : ρ.le ρ') {x : SC} {v : Value} (e : den ρ x = some v) : den ρ' x = some v := by
  cases x with
  | ptr k off => exact denPtr_le h e
  | slc k => exact h k v e
  | mp k b =>
    cases b with
    | true => exact denPtr_le h e
    | false => exact e
  | ept k i sz f =>
    simp only [den] at *
    cases hk : ρ k with
    | none => simp [hk] at e
    | some u => rw [h k u hk]; rw [hk] at e; exact e
  | fn f caps =>
    simp only [den, Option.map_eq_some_iff] at *
    obtain ⟨vs, h1, h2⟩ := e
    exact ⟨vs, mapM_le (fun x v hx => denPtr_le h hx) caps vs h1, h2⟩
  | _ => exact e
theorem denL_le {ρ ρ' : Env} (h : ρ.le ρ') {l : List SC} {vs : List Value} (e : denL ρ l = some vs) : denL ρ' l = some vs := mapM_le (fun _ _ hx => den_le h hx) l vs e
theorem denC_le {ρ ρ' : Env} (h : ρ.le ρ') {x : Bool × List SC} {v : Value} (e : denC ρ x = some v) : denC ρ' x = some v := by
  obtain ⟨b, l⟩ := x
  cases b with
  | true =>
    simp only [denC, Option.map_eq_some_iff] at *
    obtain ⟨vs, h1, h2⟩ := e
    exact ⟨vs, denL_le h h1, h2⟩
  | false =>
    match l with
    | [x] => exact den_le h e
    | [] => simp [denC] at e
    | _ :: _ :: _ => simp [denC] at e
theorem denV_le {ρ ρ' : Env} (h : ρ.le ρ') {x : SV} {v : Value} (e : denV ρ x = some v) : denV ρ' x = some v := by
  cases x with
  | one x => exact den_le h e
  | agg l =>
    simp only [denV, Option.map_eq_some_iff] at *
    obtain ⟨vs, h1, h2⟩ := e
    exact ⟨vs, denL_le h h1, h2⟩
  | tup l =>
    simp only [denV, Option.map_eq_some_iff] at *
    obtain ⟨vs, h1, h2⟩ := e
    exact ⟨vs, mapM_le (fun _ _ hx => denC_le h hx) l vs h1, h2⟩

theorem denL_nil (ρ : Env) : denL ρ [] = some [] := rfl
theorem denL_cons (ρ : Env) (x : SC) (l : List SC) : denL ρ (x :: l) = (den ρ x).bind fun v => (denL ρ l).map fun vs => v :: vs := by
  unfold denL
  rw [List.mapM_cons]
  cases den ρ x with
  | none => rfl
  | some v =>
    cases h : l.mapM (den ρ) <;> simp
theorem denL_cons_some {ρ : Env} {x : SC} {l : List SC} {vs : List Value} : denL ρ (x :: l) = some vs ↔ ∃ v us, den ρ x = some v ∧ denL ρ l = some us ∧ vs = v :: us := by
  rw [denL_cons]
  cases den ρ x with
  | none => simp
  | some v =>
    cases denL ρ l with
    | none => simp
    | some us => simp [eq_comm]
theorem denL_length {ρ : Env} : ∀ {l : List SC} {vs : List Value}, denL ρ l = some vs → vs.length = l.length := by
  intro l
  induction l with
  | nil => intro vs h; cases h; rfl
  | cons x l ih =>
    intro vs h
    obtain ⟨v, us, _, h2, rfl⟩ := denL_cons_some.1 h
    simp [ih h2]
theorem denL_get {ρ : Env} : ∀ {l : List SC} {vs : List Value}, denL ρ l = some vs → ∀ {i : Nat} {x : SC}, l[i]? = some x → ∃ v, den ρ x = some v ∧ vs[i]? = some v := by
  intro l
  induction l with
  | nil => intro vs _ i x h; simp at h
  | cons y l ih =>
    intro vs h i x hx
    obtain ⟨v, us, h1, h2, rfl⟩ := denL_cons_some.1 h
    cases i with
    | zero => simp at hx; subst hx; exact ⟨v, h1, by simp⟩
    | succ i => simp at hx; obtain ⟨u, h3, h4⟩ := ih h2 hx; exact ⟨u, h3, by simpa using h4⟩
theorem denL_append {ρ : Env} {l m : List SC} {vs us : List Value} (h : denL ρ l = some vs) (k : denL ρ m = some us) : denL ρ (l ++ m) = some (vs ++ us) := by
  induction l generalizing vs with
  | nil => cases h; simpa using k
  | cons x l ih =>
    obtain ⟨v, ws, h1, h2, rfl⟩ := denL_cons_some.1 h
    exact denL_cons_some.2 ⟨v, ws ++ us, h1, ih h2, rfl⟩
theorem denL_take {ρ : Env} {l : List SC} {vs : List Value} (h : denL ρ l = some vs) (n : Nat) : denL ρ (l.take n) = some (vs.take n) := by
  induction l generalizing vs n with
  | nil => cases h; simp [denL_nil]
  | cons x l ih =>
    obtain ⟨v, ws, h1, h2, rfl⟩ := denL_cons_some.1 h
    cases n with
    | zero => simp [denL_nil]
    | succ n => exact denL_cons_some.2 ⟨v, ws.take n, h1, ih h2 n, by simp⟩
theorem denL_drop {ρ : Env} {l : List SC} {vs : List Value} (h : denL ρ l = some vs) (n : Nat) : denL ρ (l.drop n) = some (vs.drop n) := by
  induction l generalizing vs n with
  | nil => cases h; simp [denL_nil]
  | cons x l ih =>
    obtain ⟨v, ws, h1, h2, rfl⟩ := denL_cons_some.1 h
    cases n with
    | zero => exact h
    | succ n => simpa using ih h2 n
theorem denL_set {ρ : Env} {l : List SC} {vs : List Value} (h : denL ρ l = some vs) {x : SC} {v : Value} (hx : den ρ x = some v) (n : Nat) : denL ρ (l.set n x) = some (vs.set n v) := by
  induction l generalizing vs n with
  | nil => cases h; simp [denL_nil]
  | cons y l ih =>
    obtain ⟨u, ws, h1, h2, rfl⟩ := denL_cons_some.1 h
    cases n with
    | zero => exact denL_cons_some.2 ⟨v, ws, hx, h2, rfl⟩
    | succ n => exact denL_cons_some.2 ⟨u, ws.set n v, h1, ih h2 n, rfl⟩
/-- What stands for one cell is one cell. -/
theorem den_oneCell {ρ : Env} (hρ : ∀ k v, ρ k = some v → v.oneCell' = true) {x : SC} {v : Value} (h : den ρ x = some v) : v.oneCell' = true := by
  cases x with
  | ptr k off =>
    simp only [den, denPtr, Option.map_eq_some_iff] at h
    obtain ⟨b, _, rfl⟩ := h; rfl
  | slc k => exact hρ k v h
  | mp k b =>
    cases b with
    | true =>
      simp only [den, denPtr, if_true, Option.map_eq_some_iff] at h
      obtain ⟨b, _, rfl⟩ := h; rfl
    | false => simp only [den] at h; cases h; rfl
  | ept k i sz f =>
    simp only [den, Option.map_eq_some_iff] at h
    obtain ⟨b, _, rfl⟩ := h; rfl
  | fn f caps =>
    simp only [den, Option.map_eq_some_iff] at h
    obtain ⟨b, _, rfl⟩ := h; rfl
  | raw u =>
    simp only [den] at h
    split at h
    · cases h; assumption
    · cases h
  | und => cases h
  | iv x => simp only [den, Option.some.injEq] at h; subst h; rfl
  | _ => simp only [den, Option.some.injEq] at h; subst h; rfl
theorem denL_oneCell {ρ : Env} (hρ : ∀ k v, ρ k = some v → v.oneCell' = true) : ∀ {l : List SC} {vs : List Value}, denL ρ l = some vs → ∀ v ∈ vs, v.oneCell' = true := by
  intro l
  induction l with
  | nil => intro vs h v hv; cases h; cases hv
  | cons x l ih =>
    intro vs h v hv
    obtain ⟨u, us, h1, h2, rfl⟩ := denL_cons_some.1 h
    rcases List.mem_cons.1 hv with rfl | hv
    · exact den_oneCell hρ h1
    · exact ih h2 v hv

/-! ### 3. Typed lists as rows of cells -/
theorem Ls.rows_length (l : Ls) : l.rows.length = l.len := by cases l <;> simp [Ls.rows, Ls.len]
theorem Ls.row_size (l : Ls) : ∀ r ∈ l.rows, r.length = l.sz := by
  cases l <;> simp [Ls.rows, Ls.sz, Tok.enc, Itm.enc, Spot.enc, Elm.enc]
theorem Ls.sz_pos (l : Ls) : 0 < l.sz := by cases l <;> simp [Ls.sz]
theorem flatten_len {n : Nat} : ∀ (l : List (List Value)), (∀ r ∈ l, r.length = n) → l.flatten.length = l.length * n := by
  intro l
  induction l with
  | nil => intro _; simp
  | cons x l ih =>
    intro h
    simp only [List.flatten_cons, List.length_append, List.length_cons]
    rw [h x (by simp), ih fun r hr => h r (by simp [hr]), Nat.succ_mul]
    omega
theorem flatten_get {n : Nat} : ∀ (l : List (List Value)), (∀ r ∈ l, r.length = n) → ∀ (i f : Nat), f < n → l.flatten[i * n + f]? = (l[i]?).bind fun r => r[f]? := by
  intro l
  induction l with
  | nil => intro _ i f _; simp
  | cons x l ih =>
    intro h i f hf
    have hx : x.length = n := h x (by simp)
    cases i with
    | zero => simp [List.getElem?_append_left (show f < x.length by omega)]
    | succ i =>
      have : (i + 1) * n + f = x.length + (i * n + f) := by rw [hx, Nat.succ_mul]; omega
      rw [List.flatten_cons, this, List.getElem?_append_right (by omega), Nat.add_sub_cancel_left, ih (fun r hr => h r (by simp [hr])) i f hf]
      simp
theorem Ls.flat_length (l : Ls) : l.flat.length = l.len * l.sz := by
  unfold Ls.flat
  rw [flatten_len l.rows l.row_size, l.rows_length]
theorem Ls.flat_get (l : Ls) (i f : Nat) (hf : f < l.sz) : l.flat[i * l.sz + f]? = (l.rows[i]?).bind fun r => r[f]? := flatten_get l.rows l.row_size i f hf
theorem getD_map {α : Type} (l : List α) (d : α) {i : Nat} (h : i < l.length) : l[i]? = some (l.getD i d) := by
  simp [List.getD_eq_getElem?_getD, List.getElem?_eq_getElem h]
theorem Ls.cell_den (l : Ls) (ρ : Env) {i : Nat} (h : i < l.len) : ∃ vs, denL ρ (l.cell i) = some vs ∧ l.rows[i]? = some vs := by
  cases l with
  | toks l => exact ⟨_, rfl, by simp only [Ls.rows, List.getElem?_map, getD_map l default h]; rfl⟩
  | items l => exact ⟨_, rfl, by simp only [Ls.rows, List.getElem?_map, getD_map l default h]; rfl⟩
  | ivs l => exact ⟨_, rfl, by simp only [Ls.rows, List.getElem?_map, getD_map l default h]; rfl⟩
  | ints k l => exact ⟨_, rfl, by simp only [Ls.rows, List.getElem?_map, getD_map l 0 h]; rfl⟩
  | strs l => exact ⟨_, rfl, by simp only [Ls.rows, List.getElem?_map, getD_map l [] h]; rfl⟩
  | spots l => exact ⟨_, rfl, by simp only [Ls.rows, List.getElem?_map, getD_map l default h]; rfl⟩
  | elms l => exact ⟨_, rfl, by simp only [Ls.rows, List.getElem?_map, getD_map l default h]; rfl⟩
theorem boolOf_den {x : SC} {b : Bool} (h : boolOf x = some b) (ρ : Env) : den ρ x = some (.bool b) := by
  cases x <;> simp [boolOf] at h <;> subst h <;> rfl
theorem Ls.snoc_rows {l l' : Ls} {cs : List SC} (h : l.snoc cs = some l') (ρ : Env) : ∃ vs, denL ρ cs = some vs ∧ l'.rows = l.rows ++ [vs] ∧ l'.sz = l.sz ∧ l'.len = l.len + 1 := by
  unfold Ls.snoc at h
  split at h
  · rename_i l r b p
    simp only [Option.map_eq_some_iff] at h
    obtain ⟨q, hq, rfl⟩ := h
    exact ⟨_, denL_cons_some.2 ⟨_, _, rfl, denL_cons_some.2 ⟨_, _, boolOf_den hq ρ, rfl, rfl⟩, rfl⟩, by simp [Ls.rows, Tok.enc], rfl, by simp [Ls.len]⟩
  · cases h; exact ⟨_, rfl, by simp [Ls.rows, Itm.enc], rfl, by simp [Ls.len]⟩
  · cases h; exact ⟨_, rfl, by simp [Ls.rows], rfl, by simp [Ls.len]⟩
  · cases h; exact ⟨_, rfl, by simp [Ls.rows], rfl, by simp [Ls.len]⟩
  · cases h; exact ⟨_, rfl, by simp [Ls.rows], rfl, by simp [Ls.len]⟩
  · cases h; exact ⟨_, rfl, by simp [Ls.rows], rfl, by simp [Ls.len]⟩
  · cases h; exact ⟨_, rfl, by simp [Ls.rows], rfl, by simp [Ls.len]⟩
  · cases h; exact ⟨_, rfl, by simp [Ls.rows], rfl, by simp [Ls.len]⟩
  · cases h; exact ⟨_, rfl, by simp [Ls.rows, Spot.enc], rfl, by simp [Ls.len]⟩
  · rename_i l r b p d
    simp only [Option.map_eq_some_iff, Option.bind_eq_some_iff] at h
    obtain ⟨q, hq, e, he, rfl⟩ := h
    exact ⟨_, denL_cons_some.2 ⟨_, _, rfl, denL_cons_some.2 ⟨_, _, boolOf_den hq ρ, denL_cons_some.2 ⟨_, _, rfl, denL_cons_some.2 ⟨_, _, boolOf_den he ρ, rfl, rfl⟩, rfl⟩, rfl⟩, rfl⟩, by simp [Ls.rows, Elm.enc], rfl, by simp [Ls.len]⟩
  · cases h
theorem Ls.cut_rows (l : Ls) (a b : Nat) : (l.cut a b).rows = (l.rows.take b).drop a ∧ (l.cut a b).sz = l.sz ∧ (l.cut a b).len = min b l.len - a := by
  cases l <;> simp [Ls.cut, Ls.rows, Ls.sz, Ls.len, List.map_take, List.map_drop]

end Go.Proofs.YtglfkihckkjniaaGreatDoor.Vx
