/-
VX, functions 14: patterns. No statement of the seat is proved here.
-/
import Derived.Test.YtglfkihckkjniaaGreatDoorVxF13
set_option maxRecDepth 100000
set_option linter.unusedVariables false
set_option linter.unusedSimpArgs false
namespace Go.Proofs.YtglfkihckkjniaaGreatDoor.Vx
open Go Go.RowKit
/-! ### a literal, as a row -/
theorem relit {C : Ctx} {ρ : Env} {S : AS} {a : Act} {w : World} {dst : Option Nat} {fr n : Nat} {e : TypeId} {cs : List SC} {l0 l : Ls}
    (h : Sat C ρ (S.upd dst ⟨.one (.slc fr), [(fr, some (.lit e n cs))]⟩) a w) (h0 : initLs e = some l0) (hr : snocs l0.sz n cs l0 = some l) (hc : cs.length = n * l0.sz) (hn : n ≤ 1000000) :
    Sat C ρ (S.upd dst ⟨.one (.slc fr), [(fr, some (.row e l))]⟩) a w := by
  obtain ⟨z1, z2⟩ := initLs_len h0
  have hL : ∀ k, (S.upd dst ⟨.one (.slc fr), [(fr, some (.row e l))]⟩).blk k = if fr = k then some (.row e l) else (S.upd dst ⟨.one (.slc fr), [(fr, some (.lit e n cs))]⟩).blk k := by
    intro k
    show (look k ((fr, some (SB.row e l)) :: _)).join = if fr = k then _ else (look k ((fr, some (SB.lit e n cs)) :: _)).join
    rw [look_cons, look_cons]
    split <;> rfl
  have hF : (S.upd dst ⟨.one (.slc fr), [(fr, some (.lit e n cs))]⟩).blk fr = some (.lit e n cs) := by
    show (look fr ((fr, some (SB.lit e n cs)) :: _)).join = _
    rw [look_cons, if_pos rfl]; rfl
  refine ⟨h.frame, h.tsize, h.defers, h.one, h.pin, h.slots, ?_, ?_⟩
  · intro k b hk
    rw [hL] at hk
    split at hk
    · rename_i hfk
      subst hfk
      cases hk
      obtain ⟨v, h1, b, vs, rfl, h2, h3, h4⟩ := h.mem _ _ hF
      obtain ⟨us, g1, g2, g3, g4⟩ := snocs_ok ρ n cs l0 l hr (by omega)
      rw [← hc, List.take_length] at g1
      rw [g1] at h2
      cases h2
      have hlen := denL_length g1
      refine ⟨_, h1, ⟨by rw [Ls.flat_length], .inr ⟨b, n, _, (0, 0), by rw [g3, z1, Nat.zero_add], Nat.zero_le _, h3, Nat.zero_le _, by rw [g3, z1]; omega, by simp only [maxLen]; omega, by rw [g4]; simp; omega, ?_⟩⟩, fun g hg => ?_⟩
      · rw [g2, z2, List.nil_append, g3, z1, g4]
        have : vs.length = n * l0.sz := by omega
        show vs.take _ = vs
        rw [Nat.zero_add, ← this, List.take_length]
      · have : b = g := by simpa [Value.ownBlock] using hg
        rw [← this]; exact h4
    · exact h.mem k b hk
  · intro k k' b b' v v' hne hk hk' hm hv hv'
    rw [hL] at hk hk'
    split at hk
    · rename_i hfk
      subst hfk
      cases hk
      rw [if_neg hne] at hk'
      have h9 := h.apart fr k' (.lit e n cs) b' v v' hne hF hk' rfl hv hv'
      exact h9
    · split at hk'
      · rename_i hfk
        subst hfk
        cases hk'
        have h9 := h.apart k fr b (.lit e n cs) v v' hne hk hF hm hv hv'
        exact h9
      · exact h.apart k k' b b' v v' hne hk hk' hm hv hv'
def rowHook (tbl : Tbl) : Hook := fun fr o ev m =>
  match o.op with
  | .buildSlice T n ps =>
    match xBuildSlice tbl fr ev T n ps.toList with
    | some (.eff _ ⟨.one (.slc f), [(f', some (.lit e len cs))]⟩) =>
      match initLs e with
      | some l0 => bif Nat.beq f fr && Nat.beq f' fr && Nat.beq cs.length (len * l0.sz) && Nat.ble len 1000000 then (snocs l0.sz len cs l0).map fun l => ([], ⟨.one (.slc fr), [(fr, some (.row e l))]⟩) else none
      | none => none
    | _ => none
  | _ => none
theorem rowHook_ok {tbl : Tbl} {G : Ctx → Prop} : HookOK tbl G (rowHook tbl) := by
  intro C ρ S a w fr o ev m H hG ps e hk hp
  unfold rowHook at hk
  split at hk
  · rename_i T n parts ho
    split at hk
    · rename_i p f f' ee len cs hx
      split at hk
      · rename_i l0 h0
        cases hb : Nat.beq f fr && Nat.beq f' fr && Nat.beq cs.length (len * l0.sz) && Nat.ble len 1000000 with
        | false => rw [hb] at hk; cases hk
        | true =>
          rw [hb, cond_true, Option.map_eq_some_iff] at hk
          obtain ⟨l, hl, hk⟩ := hk
          cases hk
          simp only [Bool.and_eq_true] at hb
          obtain ⟨⟨⟨b1, b2⟩, b3⟩, b4⟩ := hb
          have b1 := Nat.eq_of_beq_eq_true b1
          have b2 := Nat.eq_of_beq_eq_true b2
          subst b1; subst b2
          have hd := does_buildSlice H ho hx
          intro K Q hK
          exact hd K Q fun ρ' a' w' h1 h2 h3 => hK ρ' a' w' h1 h2 (relit h3 h0 hl (Nat.eq_of_beq_eq_true b3) (Nat.le_of_ble_eq_true b4))
      · cases hk
    · cases hk
  · cases hk
def miscL : Hook := orHook (rowHook T) misc
theorem miscL_ok : HookOK T (GC Tryz.prog Gl) miscL := orHook_ok rowHook_ok misc_ok
/-! ### figurehead/pattern.made -/
structure PA where
  px : List Itm
  sx : List Itm
  f : Pat
  sp : Spot
def PA.pcs (t : PA) : List Pc := .rd (.items t.px) :: .rd (.items t.sx) :: (t.f.pcs ++ [.int .i32 t.sp.r, .int .i64 t.sp.p, .int .i64 t.sp.w])
def PA.pvs (t : PA) : List PV := [.agg t.pcs]
def tailOf : List Pc → Option Spot
  | [r, p, w] => (i32Pc r).bind fun r => (i64Pc p).bind fun p => (i64Pc w).bind fun w => some ⟨r, p, w⟩
  | _ => none
theorem tailOf_eq {l : List Pc} {s : Spot} (h : tailOf l = some s) : l = [.int .i32 s.r, .int .i64 s.p, .int .i64 s.w] := by
  unfold tailOf at h
  split at h
  · simp only [Option.bind_eq_some_iff] at h
    obtain ⟨r, hr, p, hp, w, hw, h2⟩ := h
    cases h2
    rw [i32Pc_eq hr, i64Pc_eq hp, i64Pc_eq hw]
  · cases h
def paOf : List PV → Option PA
  | [.agg (a :: b :: l)] => (itmsOf a).bind fun a => (itmsOf b).bind fun b => (patOf (l.take 20)).bind fun f => (tailOf (l.drop 20)).bind fun s => some ⟨a, b, f, s⟩
  | _ => none
theorem paOf_eq {l : List PV} {p : PA} (h : paOf l = some p) : l = p.pvs := by
  unfold paOf at h
  split at h
  · rename_i a b l
    simp only [Option.bind_eq_some_iff] at h
    obtain ⟨x, hx, y, hy, f, hf, s, hs, h2⟩ := h
    cases h2
    show [PV.agg (a :: b :: l)] = [PV.agg _]
    rw [← List.take_append_drop 20 l, patOf_eq hf, tailOf_eq hs, itmsOf_eq hx, itmsOf_eq hy]
    rfl
  · cases h
def madeT (t : PA) : Pat := ⟨t.px, t.sx, t.f.hn, ⟨2, 0⟩ :: t.px, t.sx, t.f.n, t.sp.w, t.sp.r, t.f.pw⟩
def sp_pmade : FSpec := ⟨[], fun pvs => (paOf pvs).bind fun t => some ([t.px.length ≤ 1000000 ∧ t.sx.length ≤ 1000000], .agg (madeT t).pcs)⟩
theorem vc_pmade (t : PA) : vcP [(68, sp_sclone)] [] miscL Tryz.f34 (.nil) t.pvs (.agg (madeT t).pcs) = (((1 : Nat) + List.length (PA.px t)) * (16 : Nat) ≤ (140737488355328 : Nat) ∧ List.length (PA.sx t) ≤ (1000000000 : Nat) ∧ PA.px t = Pat.pre (madeT t) ∧ PA.sx t = Pat.suf (madeT t) ∧ Pat.hn (PA.f t) = Pat.hn (madeT t) ∧ [] ++ [{ k := (2 : Int), r := (0 : Int) }] ++ PA.px t = Pat.npre (madeT t) ∧ PA.sx t = Pat.nsuf (madeT t) ∧ Num.mi (Pat.n (PA.f t)) = Num.mi (Pat.n (madeT t)) ∧ Num.xi (Pat.n (PA.f t)) = Num.xi (Pat.n (madeT t)) ∧ Num.mf (Pat.n (PA.f t)) = Num.mf (Pat.n (madeT t)) ∧ Num.xf (Pat.n (PA.f t)) = Num.xf (Pat.n (madeT t)) ∧ Num.ms (Pat.n (PA.f t)) = Num.ms (Pat.n (madeT t)) ∧ Num.xs (Pat.n (PA.f t)) = Num.xs (Pat.n (madeT t)) ∧ Num.pr (Pat.n (PA.f t)) = Num.pr (Pat.n (madeT t)) ∧ Num.sc (Pat.n (PA.f t)) = Num.sc (Pat.n (madeT t)) ∧ Num.inc (Pat.n (PA.f t)) = Num.inc (Pat.n (madeT t)) ∧ Num.ps (Pat.n (PA.f t)) = Num.ps (Pat.n (madeT t)) ∧ Num.me (Pat.n (PA.f t)) = Num.me (Pat.n (madeT t)) ∧ Num.px (Pat.n (PA.f t)) = Num.px (Pat.n (madeT t)) ∧ Spot.w (PA.sp t) = Pat.pa (madeT t) ∧ Spot.r (PA.sp t) = Pat.pd (madeT t) ∧ Pat.pw (PA.f t) = Pat.pw (madeT t)) := by kernel_rfl
set_option maxHeartbeats 4000000 in
theorem of_pmade (h : ∀ (t : PA), (t.px.length ≤ 1000000 ∧ t.sx.length ≤ 1000000) → vcP [(68, sp_sclone)] [] miscL Tryz.f34 (.nil) t.pvs (.agg (madeT t).pcs)) : FnP 34 sp_pmade := by
  refine fnP_ok (cs := [(68, sp_sclone)]) (cas := []) (ms := miscL) (.cons ok_sclone .nil) .nil miscL_ok 34 Tryz.f34 (by kernel_rfl) (by kernel_rfl) (by kernel_rfl) (fun _ => .nil) ?_
  intro pvs p r hs hp
  obtain ⟨t, hx, h2⟩ := Option.bind_eq_some_iff.1 hs
  cases h2
  have := h t (hp)
  rw [← paOf_eq hx] at this
  exact this
theorem ok_pmade : FnP 34 sp_pmade := of_pmade (by
  intro t ht
  rw [vc_pmade]
  refine ⟨by omega, by omega, ?_⟩
  and_intros <;> rfl)
end Go.Proofs.YtglfkihckkjniaaGreatDoor.Vx
