/-
VX, part B: when a frame and a world are what an abstract state says; one step. No statement of the seat is proved here.
-/
import Derived.Test.YtglfkihckkjniaaGreatDoorVxA
import Derived.Lib.FrozenHead2
set_option linter.unusedVariables false
set_option linter.unusedSimpArgs false
namespace Go.Proofs.YtglfkihckkjniaaGreatDoor.Vx
open Go Go.RowKit

/-- Nothing has turned but (perhaps) the blocks of G; new blocks may lie behind. -/
structure Fr (G : Nat → Prop) (w w' : World) : Prop where
  os : w'.os = w.os
  tape : w'.tape = w.tape
  output : w'.output = w.output
  size : w.heap.size ≤ w'.heap.size
  block : ∀ i, i < w.heap.size → ¬ G i → w'.heap[i]? = w.heap[i]?
theorem Fr.refl (G : Nat → Prop) (w : World) : Fr G w w := ⟨rfl, rfl, rfl, Nat.le_refl _, fun _ _ _ => rfl⟩
theorem Fr.drew {G : Nat → Prop} {a w : World} (h : Fr G a w) : Fr G a w.drew := ⟨h.os, h.tape, h.output, h.size, h.block⟩
theorem Fr.mono {G G' : Nat → Prop} {w w' : World} (h : Fr G w w') (hg : ∀ i, i < w.heap.size → G i → G' i) : Fr G' w w' :=
  ⟨h.os, h.tape, h.output, h.size, fun i hi hn => h.block i hi fun hgi => hn (hg i hi hgi)⟩
theorem Fr.trans {G : Nat → Prop} {a b c : World} (h : Fr G a b) (k : Fr G b c) : Fr G a c :=
  ⟨k.os.trans h.os, k.tape.trans h.tape, k.output.trans h.output, Nat.le_trans h.size k.size, fun i hi hn => (k.block i (Nat.lt_of_lt_of_le hi h.size) hn).trans (h.block i hi hn)⟩
theorem Fr.alloc (w : World) (o : Obj) (G : Nat → Prop) : Fr G w (w.alloc o) := by
  refine ⟨rfl, rfl, rfl, by simp, fun i hi _ => ?_⟩
  exact Below.heap_alloc w o i hi
theorem Fr.grown {w w' : World} {row : Option Nat} (h : w.grownBy w' row) : Fr (fun i => row = some i) w w' :=
  ⟨h.os, h.tape, h.output, h.size, fun i hi hn => h.block i hi fun e => hn e.symm⟩
theorem Fr.below {w w' : World} (h : Below w.heap.size w w') (G : Nat → Prop) : Fr G w w' :=
  ⟨h.os, h.tape, h.output, h.size, fun i hi _ => h.block i hi⟩
theorem Fr.toBelow {w w' : World} (h : Fr (fun _ => False) w w') : Below w.heap.size w w' :=
  ⟨h.os, h.tape, h.output, h.size, fun i hi => h.block i hi id⟩
theorem Fr.setCell (w : World) (a : Addr) (v : Value) : Fr (fun i => i = a.block) w (w.setCell a v) :=
  ⟨rfl, rfl, rfl, by simp, fun i _ hn => Below.heap_setCell w a v i hn⟩

structure Ctx where
  P : Program
  w0 : World
  F : Nat → Prop
  A : Nat → Prop
  nt : Nat
  pin : Nat → Option Value
def Ctx.own (C : Ctx) (b : Nat) : Prop := C.w0.heap.size ≤ b ∨ C.F b
def Ctx.seen (C : Ctx) (b : Nat) : Prop := C.own b ∨ C.A b

def blockOf : Value → Option Nat
  | .pointer (some a) => some a.block
  | .slice (some a) _ _ => some a.block
  | _ => none
theorem blockOf_base {v : Value} {b : Nat} (h : baseOf v = some b) : blockOf v = some b := by
  unfold baseOf at h
  split at h <;> simp_all [blockOf]
theorem own_blockOf {v : Value} {b : Nat} (h : v.ownBlock = some b) : blockOf v = some b := by
  unfold Value.ownBlock at h
  split at h <;> simp_all [blockOf]
def foot (v : Value) : SB → Option Nat
  | .read l => if l.len = 0 then none else blockOf v
  | _ => blockOf v
def Apart (x y : Option Nat) : Prop := ∀ g, x = some g → y ≠ some g
theorem Apart.symm {x y : Option Nat} (h : Apart x y) : Apart y x := fun g h1 h2 => h g h2 h1

/-- A block or a slice is what the abstract memory says. -/
def SBok (C : Ctx) (ρ : Env) (w : World) (v : Value) : SB → Prop
  | .cells ty cs => ∃ b vs, baseOf v = some b ∧ denL ρ cs = some vs ∧ w.heap[b]? = some (.cells vs.toArray ty (0, 0)) ∧ C.own b
  | .row ty l => w.ownsRowF 0 ty l.sz v l.len l.flat ∧ ∀ g, v.ownBlock = some g → C.own g
  | .read l => ∃ A c, v = .slice A l.len c ∧ l.len ≤ c ∧ l.len ≤ maxLen ∧
      (0 < l.len → ∃ b o, A = some ⟨b, o, none⟩ ∧ (∀ j, j < l.len * l.sz → w.cell? ⟨b, o + j, none⟩ = l.flat[j]?) ∧ C.seen b)
  | .iter s pos => ∃ b, v = .pointer (some ⟨b, 0, none⟩) ∧ w.heap[b]? = some (.stringIter ⟨s.toArray⟩ pos) ∧ C.own b
  | .lit ty n cs => ∃ b vs, v = .slice (some ⟨b, 0, none⟩) n n ∧ denL ρ cs = some vs ∧ w.heap[b]? = some (.cells vs.toArray ty (0, 0)) ∧ C.own b
  | .ro ty cs => ∃ b vs, baseOf v = some b ∧ denL ρ cs = some vs ∧ w.heap[b]? = some (.cells vs.toArray ty (0, 0)) ∧ C.seen b

theorem SBok.fr {C : Ctx} {ρ ρ' : Env} {w w' : World} {v : Value} {b : SB} (h : SBok C ρ w v b) (hρ : ρ.le ρ') {G : Nat → Prop} (hw : Fr G w w')
    (hg : ∀ g, foot v b = some g → ¬ G g) : SBok C ρ' w' v b := by
  cases b with
  | cells ty cs =>
    obtain ⟨g, vs, h1, h2, h3, h4⟩ := h
    refine ⟨g, vs, h1, denL_le hρ h2, ?_, h4⟩
    rw [hw.block g (Array.getElem?_eq_some_iff.1 h3).1 (hg g (blockOf_base h1))]
    exact h3
  | row ty l =>
    obtain ⟨⟨h1, h2⟩, h3⟩ := h
    refine ⟨⟨h1, ?_⟩, h3⟩
    rcases h2 with h2 | ⟨g, cap, cur, fz, e1, e2, e3, e4⟩
    · exact .inl h2
    · refine .inr ⟨g, cap, cur, fz, e1, e2, ?_, e4⟩
      rw [hw.block g (Array.getElem?_eq_some_iff.1 e3).1 (hg g (by subst e1; rfl))]
      exact e3
  | read l =>
    obtain ⟨A, c, h1, h2, h3, h4⟩ := h
    refine ⟨A, c, h1, h2, h3, fun hn => ?_⟩
    obtain ⟨b, o, e1, e2, e3⟩ := h4 hn
    refine ⟨b, o, e1, fun j hj => ?_, e3⟩
    have hc := e2 j hj
    have hlt : b < w.heap.size := by
      have hj' : j < l.flat.length := by rw [l.flat_length]; exact hj
      rw [List.getElem?_eq_getElem hj'] at hc
      exact World.block_lt_of_cell? w _ hc
    rw [World.cell?_of_block (w := w) (a := ⟨b, o + j, none⟩) (hw.block b hlt (hg b (by
      simp only [foot]
      rw [if_neg (by omega)]
      subst h1; subst e1; rfl)))]
    exact hc
  | iter s pos =>
    obtain ⟨g, h1, h2, h3⟩ := h
    refine ⟨g, h1, ?_, h3⟩
    rw [hw.block g (Array.getElem?_eq_some_iff.1 h2).1 (hg g (by subst h1; rfl))]
    exact h2
  | lit ty n cs =>
    obtain ⟨g, vs, h1, h2, h3, h4⟩ := h
    refine ⟨g, vs, h1, denL_le hρ h2, ?_, h4⟩
    rw [hw.block g (Array.getElem?_eq_some_iff.1 h3).1 (hg g (by subst h1; rfl))]
    exact h3
  | ro ty cs =>
    obtain ⟨g, vs, h1, h2, h3, h4⟩ := h
    refine ⟨g, vs, h1, denL_le hρ h2, ?_, h4⟩
    rw [hw.block g (Array.getElem?_eq_some_iff.1 h3).1 (hg g (blockOf_base h1))]
    exact h3
/-- What a mutable thing covers is there. -/
theorem SBok.lt {C : Ctx} {ρ : Env} {w : World} {v : Value} {b : SB} (h : SBok C ρ w v b) : ∀ g, foot v b = some g → g < w.heap.size := by
  intro g hg
  cases b with
  | cells ty cs =>
    obtain ⟨g', vs, h1, h2, h3, h4⟩ := h
    have : some g' = some g := (blockOf_base h1).symm.trans hg
    cases this
    exact (Array.getElem?_eq_some_iff.1 h3).1
  | row ty l =>
    obtain ⟨⟨h1, h2⟩, h3⟩ := h
    rcases h2 with ⟨h2, _⟩ | ⟨g', cap, cur, fz, e1, e2, e3, e4⟩
    · subst h2; cases hg
    · subst e1; cases hg; exact (Array.getElem?_eq_some_iff.1 e3).1
  | read l =>
    obtain ⟨A, c, h1, h2, h3, h4⟩ := h
    simp only [foot] at hg
    split at hg
    · cases hg
    · rename_i hn
      obtain ⟨b, o, e1, e2, e3⟩ := h4 (by omega)
      subst h1; subst e1; cases hg
      have hp : 0 < l.len * l.sz := Nat.mul_pos (by omega) l.sz_pos
      have hc := e2 0 hp
      rw [List.getElem?_eq_getElem (by rw [l.flat_length]; exact hp)] at hc
      exact World.block_lt_of_cell? w _ hc
  | iter s pos =>
    obtain ⟨g', h1, h2, h3⟩ := h
    subst h1; cases hg; exact (Array.getElem?_eq_some_iff.1 h2).1
  | lit ty n cs =>
    obtain ⟨g', vs, h1, h2, h3, h4⟩ := h
    subst h1; cases hg; exact (Array.getElem?_eq_some_iff.1 h3).1
  | ro ty cs =>
    obtain ⟨g', vs, h1, h2, h3, h4⟩ := h
    have : some g' = some g := (blockOf_base h1).symm.trans hg
    cases this
    exact (Array.getElem?_eq_some_iff.1 h3).1
theorem SBok.own {C : Ctx} {ρ : Env} {w : World} {v : Value} {b : SB} (h : SBok C ρ w v b) (hm : b.mut = true) : ∀ g, foot v b = some g → C.own g := by
  intro g hg
  cases b with
  | cells ty cs =>
    obtain ⟨g', vs, h1, h2, h3, h4⟩ := h
    have : some g' = some g := (blockOf_base h1).symm.trans hg
    cases this; exact h4
  | row ty l =>
    obtain ⟨⟨h1, h2⟩, h3⟩ := h
    rcases h2 with ⟨h2, _⟩ | ⟨g', cap, cur, fz, e1, e2, e3, e4⟩
    · subst h2; cases hg
    · subst e1; cases hg; exact h3 g' rfl
  | read l => cases hm
  | iter s pos =>
    obtain ⟨g', h1, h2, h3⟩ := h
    subst h1; cases hg; exact h3
  | lit ty n cs =>
    obtain ⟨g', vs, h1, h2, h3, h4⟩ := h
    subst h1; cases hg; exact h4
  | ro ty cs => cases hm

structure Sat (C : Ctx) (ρ : Env) (S : AS) (a : Act) (w : World) : Prop where
  frame : Fr C.F C.w0 w
  tsize : a.tmps.size = C.nt
  defers : a.defers = []
  one : ∀ k v, ρ k = some v → v.oneCell' = true
  pin : ∀ k, k < 16 → ρ k = C.pin k
  slots : ∀ t x, S.slot t = some x → x ≠ .one .und → ∃ v, denV ρ x = some v ∧ a.tmps[t]? = some v
  mem : ∀ k b, S.blk k = some b → ∃ v, ρ k = some v ∧ SBok C ρ w v b
  apart : ∀ k k' b b' v v', k ≠ k' → S.blk k = some b → S.blk k' = some b' → b.mut = true → ρ k = some v → ρ k' = some v' → Apart (foot v b) (foot v' b')

theorem AS.upd_slot (S : AS) (dst : Option Nat) (e : Eff) (t : Nat) : (S.upd dst e).slot t = if dst = some t then some e.dst else S.slot t := by
  cases dst with
  | none => simp [AS.upd, AS.put, AS.slot]
  | some d =>
    simp only [AS.upd, AS.put, AS.slot, look_cons, Option.some.injEq]
theorem AS.upd_blk (S : AS) (dst : Option Nat) (e : Eff) (k : Nat) : (S.upd dst e).blk k = match look k e.mem with | some x => x | none => S.blk k := by
  have : (S.upd dst e).mem = e.mem ++ S.mem := rfl
  unfold AS.blk
  rw [this, look_append]
  cases look k e.mem with
  | none => rfl
  | some x => rfl

theorem put_size (a : Act) (dst : Option Tmp) (v : Value) : (a.put dst v).tmps.size = a.tmps.size := by
  cases dst <;> simp [Act.put]
theorem put_defers' (a : Act) (dst : Option Tmp) (v : Value) : (a.put dst v).defers = a.defers := by
  cases dst <;> rfl
theorem put_get (a : Act) (d t : Nat) (v : Value) : (a.put (some d) v).tmps[t]? = if d = t then (if t < a.tmps.size then some v else none) else a.tmps[t]? := by
  simp only [Act.put, Array.getElem?_setIfInBounds]
  by_cases h : d = t <;> simp [h]

theorem Sat.step {C : Ctx} {ρ : Env} {S : AS} {a : Act} {w : World} (h : Sat C ρ S a w) {ρ' : Env} {w' : World} {G : Nat → Prop} (dst : Option Nat) (e : Eff) (v : Value)
    (hρ : ρ.le ρ') (hone : ∀ k v, ρ' k = some v → v.oneCell' = true) (hpin : ∀ k, k < 16 → ρ' k = ρ k) (hw : Fr G w w') (hG : ∀ i, G i → C.own i)
    (hdst : dst ≠ none → e.dst ≠ .one .und → denV ρ' e.dst = some v) (hd : ∀ d, dst = some d → d < C.nt)
    (hfar : ∀ k b u, look k e.mem = none → S.blk k = some b → ρ k = some u → ∀ g, foot u b = some g → ¬ G g)
    (hnew : ∀ k b, look k e.mem = some (some b) → ∃ u, ρ' k = some u ∧ SBok C ρ' w' u b)
    (hap : ∀ k b u k' b' u', look k e.mem = some (some b) → ρ' k = some u → k' ≠ k → (look k' e.mem = some (some b') ∨ (look k' e.mem = none ∧ S.blk k' = some b')) → ρ' k' = some u' → (b.mut = true ∨ b'.mut = true) → Apart (foot u b) (foot u' b')) :
    Sat C ρ' (S.upd dst e) (a.put dst v) w' where
  frame := ⟨hw.os.trans h.frame.os, hw.tape.trans h.frame.tape, hw.output.trans h.frame.output, Nat.le_trans h.frame.size hw.size, fun i hi hn => by
    rw [hw.block i (Nat.lt_of_lt_of_le hi h.frame.size) (fun hg => by
      rcases hG i hg with h1 | h1
      · omega
      · exact hn h1)]
    exact h.frame.block i hi hn⟩
  tsize := by rw [put_size]; exact h.tsize
  defers := by rw [put_defers']; exact h.defers
  one := hone
  pin := fun k hk => (hpin k hk).trans (h.pin k hk)
  slots := by
    intro t x hx hne
    rw [AS.upd_slot] at hx
    cases dst with
    | none =>
      rw [if_neg (by simp)] at hx
      obtain ⟨u, h1, h2⟩ := h.slots t x hx hne
      exact ⟨u, denV_le hρ h1, h2⟩
    | some d =>
      by_cases hdt : d = t
      · subst hdt
        rw [if_pos rfl] at hx
        cases hx
        refine ⟨v, hdst (by simp) hne, ?_⟩
        rw [put_get, if_pos rfl, if_pos (by rw [h.tsize]; exact hd d rfl)]
      · rw [if_neg (by simpa using hdt)] at hx
        obtain ⟨u, h1, h2⟩ := h.slots t x hx hne
        exact ⟨u, denV_le hρ h1, by rw [put_get, if_neg hdt]; exact h2⟩
  mem := by
    intro k b hb
    rw [AS.upd_blk] at hb
    cases hl : look k e.mem with
    | some x =>
      rw [hl] at hb
      subst hb
      exact hnew k b hl
    | none =>
      rw [hl] at hb
      obtain ⟨u, h1, h2⟩ := h.mem k b hb
      exact ⟨u, hρ k u h1, h2.fr hρ hw (hfar k b u hl hb h1)⟩
  apart := by
    intro k k' b b' u u' hne hb hb' hm hu hu'
    rw [AS.upd_blk] at hb hb'
    cases hl : look k e.mem with
    | some x =>
      rw [hl] at hb
      subst hb
      refine hap k b u k' b' u' hl hu (Ne.symm hne) ?_ hu' (.inl hm)
      cases hl' : look k' e.mem with
      | some x' => rw [hl'] at hb'; subst hb'; exact .inl rfl
      | none => rw [hl'] at hb'; exact .inr ⟨rfl, hb'⟩
    | none =>
      rw [hl] at hb
      cases hl' : look k' e.mem with
      | some x' =>
        rw [hl'] at hb'
        subst hb'
        exact (hap k' b' u' k b u hl' hu' hne (.inr ⟨hl, hb⟩) hu (.inr hm)).symm
      | none =>
        rw [hl'] at hb'
        obtain ⟨y, e1, _⟩ := h.mem k b hb
        obtain ⟨y', e1', _⟩ := h.mem k' b' hb'
        have : y = u := by have := hρ k y e1; rw [hu] at this; cases this; rfl
        subst this
        have : y' = u' := by have := hρ k' y' e1'; rw [hu'] at this; cases this; rfl
        subst this
        exact h.apart k k' b b' y y' hne hb hb' hm e1 e1'
end Go.Proofs.YtglfkihckkjniaaGreatDoor.Vx
