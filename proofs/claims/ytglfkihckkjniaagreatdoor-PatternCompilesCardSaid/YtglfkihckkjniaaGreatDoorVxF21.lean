/-
VX, functions 21: the reference's Compile, proved. No statement of the seat is proved here.
-/
import Derived.Test.YtglfkihckkjniaaGreatDoorVxF20
set_option maxRecDepth 100000
set_option linter.unusedVariables false
set_option linter.unusedSimpArgs false
namespace Go.Proofs.YtglfkihckkjniaaGreatDoor.Vx
open Go Go.RowKit
theorem SignOK.itemsL : ∀ (l : List Tok), SignOK (itemsL l).1
  | [] => fun x hx => (by cases hx)
  | t :: m => by
    unfold Vx.itemsL
    split
    · exact fun x hx => (by cases hx)
    · intro x hx
      rcases List.mem_cons.1 hx with hx | hx
      · subst hx
        unfold Itm.of
        split
        · exact .inr rfl
        · exact .inl rfl
      · exact SignOK.itemsL m x hx
theorem SignOK.items (l : List Tok) : SignOK (itemsR l).1 := by
  unfold itemsR
  split
  · exact fun x hx => (by cases hx)
  · split
    · exact fun x hx => (by cases hx)
    · exact SignOK.itemsL l
theorem SignOK.nil : SignOK [] := fun x hx => (by cases hx)
theorem readT_sign (l : List Iv) (b : Int) (first : Bool) : SignOK (readT l b first).1.px ∧ SignOK (readT l b first).1.sx := by
  have i1 := SignOK.items (plainT (cutT l b).1.p)
  have i2 := SignOK.items (plainT (cutT l b).1.s)
  unfold readT
  split
  · exact ⟨SignOK.nil, SignOK.nil⟩
  · split
    · exact ⟨SignOK.nil, SignOK.nil⟩
    · split
      · exact ⟨SignOK.nil, SignOK.nil⟩
      · split
        · exact ⟨SignOK.nil, SignOK.nil⟩
        · split
          · exact ⟨SignOK.nil, SignOK.nil⟩
          · exact ⟨i1, i2⟩
def allI (p : Pat) : List Itm := p.pre ++ p.suf ++ p.npre ++ p.nsuf
theorem bothH_cnt {p : Pat} (h : SignOK (allI p)) : bothH p = (decide (0 < cntK 4 (allI p)) && decide (0 < cntK 5 (allI p))) := by
  unfold bothH
  rw [← hasItm_cnt (by decide) h, ← hasItm_cnt (by decide) h]; rfl
theorem cmP_sign (s : List UInt8) : SignOK (allI (cmP s)) := by
  have h : SignOK (rd1 s).1.px ∧ SignOK (rd1 s).1.sx := readT_sign _ _ _
  exact ((h.1.app h.2).app (fun x hx => by
    rcases List.mem_cons.1 hx with hx | hx
    · subst hx; exact .inr rfl
    · exact h.1 x hx)).app h.2
theorem cmQ_sign (s : List UInt8) : SignOK (allI (cmQ s)) := by
  have h : SignOK (rd1 s).1.px ∧ SignOK (rd1 s).1.sx := readT_sign _ _ _
  have k : SignOK (rd2 s).1.px ∧ SignOK (rd2 s).1.sx := readT_sign _ _ _
  exact ((h.1.app h.2).app k.1).app k.2
theorem C7.none {s : List UInt8} (h : C7 s) : (elE (scanT s).1).2 = none := by
  cases hp : (elE (scanT s).1).2 with
  | none => rfl
  | some p =>
    have := h.h2
    rw [elR_some hp] at this
    exact absurd this (show ¬ (7 : Int) = 0 by decide)
theorem C7.cm {s : List UInt8} (h : C7 s) : cmL s = eL (els s) := (elR_none h.none).2
theorem C7.sem {s : List UInt8} (h : C7 s) : aheadN (cmL s) = semA s := by rw [h.cm]; rfl
theorem C7.of {s : List UInt8} (h1 : (scanT s).2.1 = 0) (h2 : (elE (scanT s).1).2 = Option.none) : C7 s := ⟨h1, (elR_none h2).1⟩
theorem els_len (s : List UInt8) : (els s).length ≤ 400 := by
  obtain ⟨h1, h2, h3, h4, h5⟩ := scanT_in s
  exact Nat.le_trans (elE_iv (scanT s).1.length (scanT s).1 (Nat.le_refl _)).2.2 h4
theorem els_in {s : List UInt8} (h : C7 s) : EP (fun x => 0 ≤ x ∧ x < (s.length : Int)) (eL (els s)) := by
  rw [← h.cm]; exact (elems_in s).1
theorem semA_le (s : List UInt8) : semA s ≤ (els s).length := by
  have h : semA s ≤ (eL (els s)).length := List.findIdx_le_length
  rwa [eL_len] at h
theorem semA_at {s : List UInt8} (h : semA s < (els s).length) : isIn [59] ((eL (els s)).getD (semA s) default) = true := by
  have h' : (eL (els s)).findIdx (isIn [59]) < (eL (els s)).length := by rw [eL_len]; exact h
  have := List.findIdx_getElem (w := h')
  rw [List.getD_eq_getElem?_getD, List.getElem?_eq_getElem (show semA s < (eL (els s)).length from h')]
  exact this
theorem semA_before {s : List UInt8} {j : Nat} (h : j < semA s) : isIn [59] ((eL (els s)).getD j default) = false := by
  have hl : j < (eL (els s)).length := by rw [eL_len]; exact Nat.lt_of_lt_of_le h (semA_le s)
  have h' : j < (eL (els s)).findIdx (isIn [59]) := h
  have := List.not_of_lt_findIdx h'
  rw [List.getD_eq_getElem?_getD, List.getElem?_eq_getElem hl]
  simpa using this
def S18.zero {s : List UInt8} (c : C7 s) : S18 s := ⟨0, c, Nat.zero_le _, fun j _ h2 => absurd h2 (Nat.not_lt_zero _)⟩
theorem S18.zero_sem {s : List UInt8} (c : C7 s) : -1 = (S18.zero c).sem := by
  unfold S18.sem; exact (if_pos (Nat.zero_le _)).symm
/-- No semicolon here. -/
def S18.on {s : List UInt8} (x : S18 s) (h : x.i < (els s).length) (hf : isIn [59] ((eL (els s)).getD x.i default) = false) : S18 s :=
  ⟨x.i + 1, x.ok, h, fun j h1 h2 => by
    rcases Nat.lt_succ_iff_lt_or_eq.1 h2 with h3 | h3
    · exact x.one j h1 h3
    · rw [h3]; exact hf⟩
theorem S18.on_sem {s : List UInt8} (x : S18 s) (h : x.i < (els s).length) (hf : isIn [59] ((eL (els s)).getD x.i default) = false) : x.sem = (x.on h hf).sem := by
  have hne : x.i ≠ semA s := fun he => by
    rw [he] at hf h
    rw [semA_at h] at hf; cases hf
  unfold S18.sem
  show _ = if x.i + 1 ≤ semA s then _ else _
  split <;> split <;> omega
/-- The first semicolon. -/
theorem S18.first {s : List UInt8} (x : S18 s) (h : x.i < (els s).length) (hf : isIn [59] ((eL (els s)).getD x.i default) = true) (hs : ¬ x.sem ≥ 0) : x.i = semA s := by
  rcases Nat.lt_trichotomy x.i (semA s) with h1 | h1 | h1
  · rw [semA_before h1] at hf; cases hf
  · exact h1
  · exact absurd (by unfold S18.sem; rw [if_neg (by omega)]; omega) hs
def S18.fst {s : List UInt8} (x : S18 s) (h : x.i < (els s).length) (he : x.i = semA s) : S18 s :=
  ⟨x.i + 1, x.ok, h, fun j h1 h2 => by omega⟩
theorem S18.fst_sem {s : List UInt8} (x : S18 s) (h : x.i < (els s).length) (he : x.i = semA s) : (x.i : Int) = (x.fst h he).sem := by
  unfold S18.sem
  show _ = if x.i + 1 ≤ semA s then _ else _
  rw [if_neg (by omega)]; omega
theorem behind_eq {s : List UInt8} (h : C7 s) : behindL (cmL s) = (eL (els s)).drop (semA s + 1) := by
  unfold behindL
  rw [h.sem, h.cm, eL_len]
  by_cases hh : semA s + 1 ≤ (els s).length
  · rw [Nat.min_eq_left hh]
  · rw [List.drop_of_length_le (by rw [eL_len]; omega), List.drop_of_length_le (by rw [eL_len]; omega)]
/-- A second semicolon. -/
theorem S18.twice {s : List UInt8} (x : S18 s) (h : x.i < (els s).length) (hf : isIn [59] ((eL (els s)).getD x.i default) = true) (hs : x.sem ≥ 0) : compileT s = (p0, 4, ((els s).getD x.i default).p) := by
  have h1 : semA s < x.i := by
    unfold S18.sem at hs
    split at hs
    · exact absurd hs (by decide)
    · omega
  have hb := behind_eq x.ok
  have hl : (behindL (cmL s)).length = (els s).length - (semA s + 1) := by rw [hb, List.length_drop, eL_len]
  have ha : aheadN (behindL (cmL s)) = x.i - (semA s + 1) := by
    have g : ∀ j, (behindL (cmL s)).getD j default = (eL (els s)).getD (semA s + 1 + j) default := fun j => by
      rw [hb, List.getD_eq_getElem?_getD, List.getD_eq_getElem?_getD, List.getElem?_drop]
    have hlt : x.i - (semA s + 1) < (behindL (cmL s)).length := by rw [hl]; omega
    have e1 : isIn [59] ((behindL (cmL s))[x.i - (semA s + 1)]) = true := by
      have := g (x.i - (semA s + 1))
      rw [show semA s + 1 + (x.i - (semA s + 1)) = x.i by omega] at this
      rw [List.getD_eq_getElem?_getD, List.getElem?_eq_getElem hlt] at this
      rw [← hf, ← this]; rfl
    refine Nat.le_antisymm (Nat.le_of_not_lt fun hx => ?_) (Nat.le_of_not_lt fun hx => ?_)
    · have hx : x.i - (semA s + 1) < (behindL (cmL s)).findIdx (isIn [59]) := hx
      have := List.not_of_lt_findIdx hx
      rw [e1] at this; exact absurd this (by decide)
    have hlt2 : aheadN (behindL (cmL s)) < (behindL (cmL s)).length := Nat.lt_trans hx hlt
    have e2 : isIn [59] ((behindL (cmL s)).getD (aheadN (behindL (cmL s))) default) = true := by
      have := List.findIdx_getElem (w := hlt2)
      rw [List.getD_eq_getElem?_getD, List.getElem?_eq_getElem hlt2]
      exact this
    rw [g, x.one _ (by omega) (by omega)] at e2
    cases e2
  have hlt : aheadN (behindL (cmL s)) < (behindL (cmL s)).length := by rw [ha, hl]; omega
  rw [compile_semi x.ok hlt]
  have : ((behindL (cmL s)).getD (aheadN (behindL (cmL s))) default).at_ = ((els s).getD x.i default).p := by
    rw [ha, hb, List.getD_eq_getElem?_getD, List.getElem?_drop, ← List.getD_eq_getElem?_getD, show semA s + 1 + (x.i - (semA s + 1)) = x.i by omega, eL_get h, iv_at]
  rw [this]
theorem S18.done {s : List UInt8} (x : S18 s) (h : ¬ x.i < (els s).length) : C12 s ∧ x.sem = semZ s := by
  have hi : x.i = (els s).length := Nat.le_antisymm x.le (Nat.le_of_not_lt h)
  refine ⟨⟨x.ok, fun hlt => ?_⟩, ?_⟩
  · have hb := behind_eq x.ok
    have e2 : isIn [59] ((behindL (cmL s)).getD (aheadN (behindL (cmL s))) default) = true := by
      have := List.findIdx_getElem (w := hlt)
      rw [List.getD_eq_getElem?_getD, List.getElem?_eq_getElem hlt]
      exact this
    have hl : (behindL (cmL s)).length = (els s).length - (semA s + 1) := by rw [hb, List.length_drop, eL_len]
    rw [show (behindL (cmL s)).getD (aheadN (behindL (cmL s))) default = (eL (els s)).getD (semA s + 1 + aheadN (behindL (cmL s))) default by
      conv => lhs; arg 1; rw [hb]
      rw [List.getD_eq_getElem?_getD, List.getD_eq_getElem?_getD, List.getElem?_drop], x.one _ (by omega) (by omega)] at e2
    cases e2
  · have := semA_le s
    unfold S18.sem semZ
    rw [hi]
    split <;> split <;> omega
theorem h1_eq {s : List UInt8} (h : C7 s) : readT (eL ((els s).take (semA s))) 0 true = rd1 s := by
  unfold rd1
  rw [h.sem, h.cm]; unfold eL; rw [List.map_take]
theorem h2_eq {s : List UInt8} (h : C7 s) (hs : semA s < (els s).length) : readT (eL ((els s).drop (semA s + 1))) (((els s).getD (semA s) default).p + 1) false = rd2 s := by
  unfold rd2
  rw [behind_eq h, h.sem]
  conv => rhs; rw [h.cm, eL_get hs, iv_at]
  unfold eL; rw [List.map_drop]
/-- The width that a half gives. -/
def SpOK (x : Spot) : Prop := 0 ≤ x.w ∧ (x.w = 0 → x.r = 0)
theorem spotsE_w (N E n : Nat) : ∀ (l : List Iv) (i : Nat), ∀ x ∈ spotsE N E n i l, 0 ≤ x.w := by
  intro l
  induction l with
  | nil => intro i x hx; cases hx
  | cons y l ih =>
    intro i x hx
    unfold spotsE at hx
    rcases List.mem_append.1 hx with hx | hx
    · split at hx
      · rw [List.mem_singleton] at hx
        subst hx
        show 0 ≤ posAt N E n i
        unfold posAt
        repeat' split
        all_goals omega
      · cases hx
    · exact ih (i + 1) x hx
theorem hSp_ok (l : List Elm) (first : Bool) : SpOK (hSp l first).1 := by
  have h := spotsE_w (hN l) (hE l) l.length (eL l) 0
  unfold hSp
  generalize spotsE (hN l) (hE l) l.length 0 (eL l) = L at h
  unfold paddedT SpOK
  split
  · exact ⟨Int.le_refl _, fun _ => rfl⟩
  · rename_i x m
    split
    · exact ⟨Int.le_refl _, fun _ => rfl⟩
    · rename_i hx
      cases m with
      | nil => exact ⟨h x (by simp), fun h0 => absurd (.inl h0) hx⟩
      | cons y m => exact ⟨Int.le_refl _, fun _ => rfl⟩
structure HOK (h : HF) (t : PT) : Prop where
  px : h.px = t.px
  sx : h.sx = t.sx
  n : h.n = t.n
  w : h.w = t.sp.w
  r : h.r = t.sp.r
  tw : t.w = if t.sp.w ≠ 0 then (t.px.length : Int) + (t.sx.length : Int) + h.k else 0
  ok : SpOK t.sp
  k0 : 0 ≤ h.k
  k1 : h.k ≤ 4 * 1000
theorem half_ok {l : List Elm} {b : Int} {first : Bool} (hl : l.length ≤ 1000) (h : (readT (eL l) b first).2.1 = 0) : HOK (halfH l b first) (readT (eL l) b first).1 := by
  have hk : ((hT l).length : Int) ≤ 4 * 1000 := by
    have := (encs_len (List.map Iv.sR (((eL l).take (hE l)).drop (hN l)))).2
    rw [List.length_map, List.length_drop, List.length_take, eL_len] at this
    have : (hT l).length ≤ _ := this
    omega
  have e : halfH l b first = ⟨(readT (eL l) b first).1.px, (readT (eL l) b first).1.sx, (readT (eL l) b first).1.n, (readT (eL l) b first).1.sp.w, (readT (eL l) b first).1.sp.r, (hT l).length⟩ := by
    unfold halfH; rw [if_pos h]
  by_cases hlt : hN l < l.length
  · have ok := hSp_ok l first
    have hr := rt_some b first hlt
    have : (readT (eL l) b first).1.w = (if (readT (eL l) b first).1.sp.w ≠ 0 then ((readT (eL l) b first).1.px.length : Int) + ((readT (eL l) b first).1.sx.length : Int) + ((hT l).length : Int) else 0) ∧ SpOK (readT (eL l) b first).1.sp := by
      revert h
      rw [hr]
      split
      · exact fun h0 => absurd h0 (by assumption)
      · split
        · exact fun h0 => absurd h0 (by assumption)
        · split
          · exact fun h0 => absurd h0 (by assumption)
          · split
            · exact fun h0 => absurd h0 (by assumption)
            · exact fun _ => ⟨rfl, ok⟩
    rw [e]
    exact ⟨rfl, rfl, rfl, rfl, rfl, this.1, this.2, by show (0 : Int) ≤ ((hT l).length : Int); omega, hk⟩
  · rw [rt_none b first hlt] at h
    exact absurd h (show ¬ (4 : Int) = 0 by decide)
theorem h1_ok {s : List UInt8} (h : C16 s) : HOK (h1 s) (rd1 s).1 := by
  have e := h1_eq h.toC7
  rw [← e]
  refine half_ok ?_ (by rw [e]; exact h.h4)
  have := els_len s
  rw [List.length_take]; omega
theorem cmP_of {s : List UInt8} (h : C16 s) : cmP s = ⟨(h1 s).px, (h1 s).sx, false, ⟨2, 0⟩ :: (h1 s).px, (h1 s).sx, (h1 s).n, (h1 s).w, (h1 s).r, if 0 < (h1 s).w then ((h1 s).px.length : Int) + ((h1 s).sx.length : Int) + (h1 s).k else 0⟩ := by
  obtain ⟨q1, q2, q3, q4, q5, q6, q7, _, _⟩ := h1_ok h
  have e : (if 0 < (h1 s).w then ((h1 s).px.length : Int) + ((h1 s).sx.length : Int) + (h1 s).k else 0) = (rd1 s).1.w := by
    rw [q6, q4, q1, q2]
    have := q7.1
    by_cases h0 : (rd1 s).1.sp.w = 0
    · rw [if_neg (by omega), if_neg (by omega)]
    · rw [if_pos (by omega), if_pos h0]
  rw [e, q1, q2, q3, q4, q5]; rfl
theorem tailP {s : List UInt8} {p : Pat} (hs : SignOK (allI p)) (e : compileT s = if bothH p = true then (p0, 6, 0) else (p, 0, 0)) {A B C D : Prop}
    (hA : A) (hB : compileT s = (p0, 6, 0) → B) (hC : compileT s = (p, 0, 0) → C) (hD : compileT s = (p, 0, 0) → D) :
    br (decide (((cntK 4 (allI p) : Nat) : Int) > 0)) (A ∧ br (decide (((cntK 5 (allI p) : Nat) : Int) > 0)) B C) D := by
  have b := bothH_cnt hs
  refine br_of (fun h4 => ⟨hA, br_of (fun h5 => hB ?_) fun h5 => hC ?_⟩) fun h4 => hD ?_
  · have h4 := of_decide_eq_true h4
    have h5 := of_decide_eq_true h5
    rw [e, if_pos]
    rw [b, decide_eq_true (by omega), decide_eq_true (by omega)]; rfl
  · have h5 := of_decide_eq_false h5
    rw [e, if_neg]
    rw [b, decide_eq_false (p := 0 < cntK 5 (allI p)) (by omega)]; simp
  · have h4 := of_decide_eq_false h4
    rw [e, if_neg]
    rw [b, decide_eq_false (p := 0 < cntK 4 (allI p)) (by omega)]; simp
set_option maxHeartbeats 8000000 in
theorem ok_r3compB : FnP 15 sp_r3compB := of_r3compB (by
  intro s hs hsem
  rw [vc_r3compB]
  obtain ⟨k1, k2, k3, k4, k5⟩ := scanT_in s
  have hel := els_len s
  have hZ : semZ s = -1 := if_neg hsem
  have htk : (els s).take (semA s) = els s := List.take_of_length_le (by omega)
  have eh : halfH (els s) 0 true = h1 s := by unfold h1; rw [htk]
  refine ⟨by omega, br_of (fun h => ?_) fun h => ⟨⟨⟨EE.zero _, ?_⟩, fun x => br_of (fun hn => ?_) fun hn => ⟨⟨?_⟩, ?_⟩⟩, fun j7 => ⟨⟨⟨S18.zero j7.down, S18.zero_sem _, ?_⟩, fun x => br_of (fun hn => ?_) fun hn => ⟨⟨(x.done ?_).1⟩, (x.done ?_).2, ?_⟩⟩, fun j12 => ⟨⟨by rw [hZ]; rfl, j12, ?_⟩, fun _ => ⟨⟨(els_in j12.down.toC7).eok, by omega, j12, ?_⟩, fun _ => br_of (fun h => ?_) fun h => ?_⟩⟩⟩⟩⟩
  · have h : (scanT s).2.1 ≠ 0 := by simpa using h
    rw [compile_scan h]; and_intros <;> rfl
  · and_intros <;> rfl
  · have g1 : (scanT s).2.1 = 0 := by simpa using h
    have hn : x.n < (scanT s).1.length := Int.ofNat_lt.1 (of_decide_eq_true hn)
    have hf := x.few
    rw [Int.toNat_natCast]
    refine ⟨⟨by omega, by omega⟩, hn, br_of (fun hst => ⟨by simp only [inR]; omega, br_of (fun he => ?_) fun he => ?_⟩) fun hst => ⟨⟨hn, fun h' => ?_⟩, ?_⟩, fun j => ?_⟩
    · have he : x.n + 1 = (scanT s).1.length := by have := eq_of_beq he; omega
      have := elR_some (x.last hn hst he)
      rw [compile_elems g1 (by rw [this]; exact (show ¬ (7 : Int) = 0 by decide)), this]
      and_intros <;> rfl
    · have he : x.n + 1 < (scanT s).1.length := by have : ¬ ((x.n : Int) + 1 = (scanT s).1.length) := fun h' => by rw [beq_iff_eq.2 h'] at he; cases he
                                                   omega
      have hst : isStar ((scanT s).1.getD x.n default) = true := hst
      have e1 : Int.toNat ((x.n : Int) + 1) = x.n + 1 := by omega
      rw [e1]
      refine ⟨by simp only [inR]; omega, ⟨by omega, by omega⟩, he, by simp only [inR]; omega, ⟨⟨hn, fun _ => he⟩⟩, ?_⟩
      rw [hst]
      and_intros <;> rfl
    · have hst : isStar ((scanT s).1.getD x.n default) = false := hst
      rw [hst] at h'; cases h'
    · have hst : isStar ((scanT s).1.getD x.n default) = false := hst
      rw [hst]
      and_intros <;> rfl
    · cases hst : isStar ((scanT s).1.getD x.n default) with
      | true =>
        have h2 := j.down.2 hst
        refine ⟨by omega, ?_, x.two h2 hst, ?_, ?_⟩
        · rw [if_pos rfl]; simp only [inR]; omega
        · and_intros
          all_goals first | rfl | (show (x.n : Int) + 1 + 1 = ((x.n + 2 : Nat) : Int); omega)
        · show _ - (x.n + 2) < _; omega
      | false =>
        refine ⟨by omega, ?_, x.one hn hst, ?_, ?_⟩
        · rw [if_neg (by decide)]; simp only [inR]; omega
        · and_intros
          all_goals first | rfl | (show (x.n : Int) + 1 = ((x.n + 1 : Nat) : Int); omega)
        · show _ - (x.n + 1) < _; omega
  · have g1 : (scanT s).2.1 = 0 := by simpa using h
    have hn : ¬ x.n < (scanT s).1.length := fun h' => of_decide_eq_false hn (Int.ofNat_lt.2 h')
    have e := x.fin2
    rw [List.drop_of_length_le (by omega)] at e
    exact C7.of g1 e.symm
  · have hn : ¬ x.n < (scanT s).1.length := fun h' => of_decide_eq_false hn (Int.ofNat_lt.2 h')
    have e := x.fin1
    rw [List.drop_of_length_le (by omega)] at e
    have e : x.ps = els s := by rw [← List.append_nil x.ps]; exact e
    rw [e]
    and_intros <;> rfl
  · and_intros <;> rfl
  · have hn : x.i < (els s).length := Int.ofNat_lt.1 (of_decide_eq_true hn)
    rw [Int.toNat_natCast]
    refine ⟨⟨by omega, by omega⟩, hn, br_of (fun hst => br_of (fun hp => ⟨⟨by omega, by omega⟩, hn, ?_⟩) fun hp => ⟨by simp only [inR]; omega, x.fst hn ?_, ⟨x.fst_sem hn ?_, ?_⟩, ?_⟩) fun hst => ⟨by simp only [inR]; omega, x.on hn ?_, ⟨x.on_sem hn ?_, ?_⟩, ?_⟩⟩
    all_goals have hi := plain_iv ((els s).getD x.i default) 59
    all_goals rw [← eL_get hn] at hi
    · rw [x.twice hn (hi.trans hst) (of_decide_eq_true hp)]
      and_intros <;> rfl
    · exact x.first hn (hi.trans hst) (of_decide_eq_false hp)
    · exact x.first hn (hi.trans hst) (of_decide_eq_false hp)
    · and_intros <;> rfl
    · show _ - (x.i + 1) < _; omega
    · exact hi.trans hst
    · exact hi.trans hst
    · and_intros <;> rfl
    · show _ - (x.i + 1) < _; omega
  · exact fun h' => of_decide_eq_false hn (Int.ofNat_lt.2 h')
  · exact fun h' => of_decide_eq_false hn (Int.ofNat_lt.2 h')
  · and_intros <;> rfl
  · and_intros <;> rfl
  · have e := h1_eq j12.down.toC7
    rw [htk] at e
    rw [eh, e]
    and_intros <;> rfl
  · have h : (rd1 s).2.1 ≠ 0 := by simpa using h
    rw [compile_r1 j12.down h]; and_intros <;> rfl
  · have g4 : (rd1 s).2.1 = 0 := by simpa using h
    have g16 : C16 s := ⟨j12.down, g4⟩
    have h5 : ¬ aheadN (cmL s) < (cmL s).length := by rw [g16.sem, g16.cm, eL_len]; exact hsem
    have hc := compile_one g16 h5
    have hP := cmP_of g16
    obtain ⟨q1, q2, q3, q4, q5, q6, q7, q8, q9⟩ := h1_ok g16
    have l1 : (rd1 s).1.px.length ≤ 40 ∧ (rd1 s).1.sx.length ≤ 40 := readT_len _ _ _
    rw [← q1, ← q2] at l1
    have small : (cmP s).pre.length ≤ 1000000 ∧ (cmP s).suf.length ≤ 1000000 ∧ (cmP s).npre.length ≤ 1000000 ∧ (cmP s).suf.length ≤ 1000000 := by
      rw [hP]
      refine ⟨?_, ?_, ?_, ?_⟩
      · show (h1 s).px.length ≤ _; omega
      · show (h1 s).sx.length ≤ _; omega
      · show (h1 s).px.length + 1 ≤ _; omega
      · show (h1 s).sx.length ≤ _; omega
    have tail := fun {A B C D : Prop} => @tailP s (cmP s) (cmP_sign s) hc A B C D
    refine br_of (fun hw => ⟨by simp only [inR]; omega, by simp only [inR]; omega, by omega, ⟨⟨g16⟩, ?_⟩, fun j16 => ⟨by rw [hZ]; rfl, small, tail small ?_ ?_ ?_⟩⟩) fun hw => ⟨by omega, ⟨⟨g16⟩, ?_⟩, fun j16 => ⟨by rw [hZ]; rfl, small, tail small ?_ ?_ ?_⟩⟩
    · have hw := of_decide_eq_true hw
      rw [if_pos hw] at hP
      rw [hP]
      and_intros <;> rfl
    · intro e; rw [e]; and_intros <;> rfl
    · intro e; rw [e]; and_intros <;> rfl
    · intro e; rw [e]; and_intros <;> rfl
    · have hw := of_decide_eq_false hw
      have w0 : (h1 s).w = 0 := by have := q7.1; omega
      have r0 : (h1 s).r = 0 := by rw [q5]; exact q7.2 (by omega)
      rw [if_neg (by omega), w0, r0] at hP
      rw [hP]
      try rw [w0]
      try rw [r0]
      and_intros <;> rfl
    · intro e; rw [e]; and_intros <;> rfl
    · intro e; rw [e]; and_intros <;> rfl
    · intro e; rw [e]; and_intros <;> rfl)
theorem EP.take' {P : Int → Prop} {l : List Elm} (h : EP P (eL l)) (n : Nat) : EP P (eL (l.take n)) := by
  unfold eL; rw [List.map_take]; exact h.take n
theorem EP.drop' {P : Int → Prop} {l : List Elm} (h : EP P (eL l)) (n : Nat) : EP P (eL (l.drop n)) := by
  unfold eL; rw [List.map_drop]; exact h.drop n
theorem h2_ok {s : List UInt8} (h : C18 s) (r2 : (rd2 s).2.1 = 0) : (h2 s).px = (rd2 s).1.px ∧ (h2 s).sx = (rd2 s).1.sx := by
  have hs : semA s < (els s).length := by
    have := h.h5
    rw [h.sem, h.cm, eL_len] at this; exact this
  have e := h2_eq h.toC7 hs
  rw [← e] at r2 ⊢
  have hel := els_len s
  have k := half_ok (by rw [List.length_drop]; omega) r2
  exact ⟨k.px, k.sx⟩
set_option maxHeartbeats 8000000 in
theorem ok_r3compA : FnP 15 sp_r3compA := of_r3compA (by
  intro s hs hsem
  rw [vc_r3compA]
  obtain ⟨k1, k2, k3, k4, k5⟩ := scanT_in s
  have hel := els_len s
  have hZ : semZ s = (semA s : Int) := if_pos hsem
  have t2 : Int.toNat (semZ s) = semA s := by rw [hZ]; omega
  have t3 : Int.toNat (semZ s + 1) = semA s + 1 := by rw [hZ]; omega
  have dz : decide (semZ s ≥ 0) = true := decide_eq_true (by omega)
  refine ⟨by omega, br_of (fun h => ?_) fun h => ⟨⟨⟨EE.zero _, ?_⟩, fun x => br_of (fun hn => ?_) fun hn => ⟨⟨?_⟩, ?_⟩⟩, fun j7 => ⟨⟨⟨S18.zero j7.down, S18.zero_sem _, ?_⟩, fun x => br_of (fun hn => ?_) fun hn => ⟨⟨(x.done ?_).1⟩, (x.done ?_).2, ?_⟩⟩, fun j12 => ⟨⟨dz, ⟨by omega, by omega⟩, j12, ?_⟩, fun _ => ⟨⟨((els_in j12.down.toC7).take' _).eok, by rw [List.length_take]; omega, j12, ?_⟩, fun _ => br_of (fun h => ?_) fun h => ?_⟩⟩⟩⟩⟩
  · have h : (scanT s).2.1 ≠ 0 := by simpa using h
    rw [compile_scan h]; and_intros <;> rfl
  · and_intros <;> rfl
  · have g1 : (scanT s).2.1 = 0 := by simpa using h
    have hn : x.n < (scanT s).1.length := Int.ofNat_lt.1 (of_decide_eq_true hn)
    have hf := x.few
    rw [Int.toNat_natCast]
    refine ⟨⟨by omega, by omega⟩, hn, br_of (fun hst => ⟨by simp only [inR]; omega, br_of (fun he => ?_) fun he => ?_⟩) fun hst => ⟨⟨hn, fun h' => ?_⟩, ?_⟩, fun j => ?_⟩
    · have he : x.n + 1 = (scanT s).1.length := by have := eq_of_beq he; omega
      have := elR_some (x.last hn hst he)
      rw [compile_elems g1 (by rw [this]; exact (show ¬ (7 : Int) = 0 by decide)), this]
      and_intros <;> rfl
    · have he : x.n + 1 < (scanT s).1.length := by have : ¬ ((x.n : Int) + 1 = (scanT s).1.length) := fun h' => by rw [beq_iff_eq.2 h'] at he; cases he
                                                   omega
      have hst : isStar ((scanT s).1.getD x.n default) = true := hst
      have e1 : Int.toNat ((x.n : Int) + 1) = x.n + 1 := by omega
      rw [e1]
      refine ⟨by simp only [inR]; omega, ⟨by omega, by omega⟩, he, by simp only [inR]; omega, ⟨⟨hn, fun _ => he⟩⟩, ?_⟩
      rw [hst]
      and_intros <;> rfl
    · have hst : isStar ((scanT s).1.getD x.n default) = false := hst
      rw [hst] at h'; cases h'
    · have hst : isStar ((scanT s).1.getD x.n default) = false := hst
      rw [hst]
      and_intros <;> rfl
    · cases hst : isStar ((scanT s).1.getD x.n default) with
      | true =>
        have h2 := j.down.2 hst
        refine ⟨by omega, ?_, x.two h2 hst, ?_, ?_⟩
        · rw [if_pos rfl]; simp only [inR]; omega
        · and_intros
          all_goals first | rfl | (show (x.n : Int) + 1 + 1 = ((x.n + 2 : Nat) : Int); omega)
        · show _ - (x.n + 2) < _; omega
      | false =>
        refine ⟨by omega, ?_, x.one hn hst, ?_, ?_⟩
        · rw [if_neg (by decide)]; simp only [inR]; omega
        · and_intros
          all_goals first | rfl | (show (x.n : Int) + 1 = ((x.n + 1 : Nat) : Int); omega)
        · show _ - (x.n + 1) < _; omega
  · have g1 : (scanT s).2.1 = 0 := by simpa using h
    have hn : ¬ x.n < (scanT s).1.length := fun h' => of_decide_eq_false hn (Int.ofNat_lt.2 h')
    have e := x.fin2
    rw [List.drop_of_length_le (by omega)] at e
    exact C7.of g1 e.symm
  · have hn : ¬ x.n < (scanT s).1.length := fun h' => of_decide_eq_false hn (Int.ofNat_lt.2 h')
    have e := x.fin1
    rw [List.drop_of_length_le (by omega)] at e
    have e : x.ps = els s := by rw [← List.append_nil x.ps]; exact e
    rw [e]
    and_intros <;> rfl
  · and_intros <;> rfl
  · have hn : x.i < (els s).length := Int.ofNat_lt.1 (of_decide_eq_true hn)
    rw [Int.toNat_natCast]
    refine ⟨⟨by omega, by omega⟩, hn, br_of (fun hst => br_of (fun hp => ⟨⟨by omega, by omega⟩, hn, ?_⟩) fun hp => ⟨by simp only [inR]; omega, x.fst hn ?_, ⟨x.fst_sem hn ?_, ?_⟩, ?_⟩) fun hst => ⟨by simp only [inR]; omega, x.on hn ?_, ⟨x.on_sem hn ?_, ?_⟩, ?_⟩⟩
    all_goals have hi := plain_iv ((els s).getD x.i default) 59
    all_goals rw [← eL_get hn] at hi
    · rw [x.twice hn (hi.trans hst) (of_decide_eq_true hp)]
      and_intros <;> rfl
    · exact x.first hn (hi.trans hst) (of_decide_eq_false hp)
    · exact x.first hn (hi.trans hst) (of_decide_eq_false hp)
    · and_intros <;> rfl
    · show _ - (x.i + 1) < _; omega
    · exact hi.trans hst
    · exact hi.trans hst
    · and_intros <;> rfl
    · show _ - (x.i + 1) < _; omega
  · exact fun h' => of_decide_eq_false hn (Int.ofNat_lt.2 h')
  · exact fun h' => of_decide_eq_false hn (Int.ofNat_lt.2 h')
  · and_intros <;> rfl
  · rw [t2]
    and_intros <;> rfl
  · rw [h1_eq j12.down.toC7]
    and_intros <;> rfl
  · have h : (rd1 s).2.1 ≠ 0 := by simpa using h
    rw [compile_r1 j12.down h]; and_intros <;> rfl
  · have g4 : (rd1 s).2.1 = 0 := by simpa using h
    have g16 : C16 s := ⟨j12.down, g4⟩
    have h5 : aheadN (cmL s) < (cmL s).length := by rw [g16.sem, g16.cm, eL_len]; exact hsem
    have g18 : C18 s := ⟨g16, h5⟩
    have hP := cmP_of g16
    obtain ⟨q1, q2, q3, q4, q5, q6, q7, q8, q9⟩ := h1_ok g16
    have l1 : (rd1 s).1.px.length ≤ 40 ∧ (rd1 s).1.sx.length ≤ 40 := readT_len _ _ _
    have l2 : (rd2 s).1.px.length ≤ 40 ∧ (rd2 s).1.sx.length ≤ 40 := readT_len _ _ _
    rw [← q1, ← q2] at l1
    have small : (cmP s).pre.length ≤ 1000000 ∧ (cmP s).suf.length ≤ 1000000 ∧ (rd2 s).1.px.length ≤ 1000000 ∧ (rd2 s).1.sx.length ≤ 1000000 := by
      refine ⟨?_, ?_, by omega, by omega⟩
      · rw [hP]; show (h1 s).px.length ≤ _; omega
      · rw [hP]; show (h1 s).sx.length ≤ _; omega
    refine br_of (fun hw => ⟨by simp only [inR]; omega, by simp only [inR]; omega, by omega, ⟨⟨g16⟩, ?_⟩, fun j16 => ?_⟩) fun hw => ⟨by omega, ⟨⟨g16⟩, ?_⟩, fun j16 => ?_⟩
    · have hw := of_decide_eq_true hw
      rw [if_pos hw] at hP
      rw [hP]
      and_intros <;> rfl
    · rw [t2, t3, List.take_length]
      refine ⟨dz, ⟨by simp only [inR]; omega, ⟨by omega, by omega⟩, ⟨by omega, by omega⟩, hsem, ?_, ?_, by rw [List.length_drop]; omega, ⟨g18⟩, ?_⟩, fun _ => br_of (fun h => ?_) fun h => ?_⟩
      · have := ((els_in g16.toC7).get (n := semA s) (by rw [eL_len]; exact hsem))
        rw [eL_get hsem, iv_at] at this
        simp only [inR]; omega
      · exact ((els_in g16.toC7).drop' _).eok
      · rw [h2_eq g16.toC7 hsem]
        and_intros <;> rfl
      · have h : (rd2 s).2.1 ≠ 0 := by simpa using h
        rw [compile_r2 g18 h]; and_intros <;> rfl
      · have r2 : (rd2 s).2.1 = 0 := by simpa using h
        obtain ⟨u1, u2⟩ := h2_ok g18 r2
        rw [u1, u2]
        refine ⟨small, tailP (cmQ_sign s) (compile_two g18 r2) small ?_ ?_ ?_⟩
        · intro e; rw [e]; and_intros <;> rfl
        · intro e; rw [e]; and_intros <;> rfl
        · intro e; rw [e]; and_intros <;> rfl
    · have hw := of_decide_eq_false hw
      have w0 : (h1 s).w = 0 := by have := q7.1; omega
      have r0 : (h1 s).r = 0 := by rw [q5]; exact q7.2 (by omega)
      rw [if_neg (by omega), w0, r0] at hP
      rw [hP]
      try rw [w0]
      try rw [r0]
      and_intros <;> rfl
    · rw [t2, t3, List.take_length]
      refine ⟨dz, ⟨by simp only [inR]; omega, ⟨by omega, by omega⟩, ⟨by omega, by omega⟩, hsem, ?_, ?_, by rw [List.length_drop]; omega, ⟨g18⟩, ?_⟩, fun _ => br_of (fun h => ?_) fun h => ?_⟩
      · have := ((els_in g16.toC7).get (n := semA s) (by rw [eL_len]; exact hsem))
        rw [eL_get hsem, iv_at] at this
        simp only [inR]; omega
      · exact ((els_in g16.toC7).drop' _).eok
      · rw [h2_eq g16.toC7 hsem]
        and_intros <;> rfl
      · have h : (rd2 s).2.1 ≠ 0 := by simpa using h
        rw [compile_r2 g18 h]; and_intros <;> rfl
      · have r2 : (rd2 s).2.1 = 0 := by simpa using h
        obtain ⟨u1, u2⟩ := h2_ok g18 r2
        rw [u1, u2]
        refine ⟨small, tailP (cmQ_sign s) (compile_two g18 r2) small ?_ ?_ ?_⟩
        · intro e; rw [e]; and_intros <;> rfl
        · intro e; rw [e]; and_intros <;> rfl
        · intro e; rw [e]; and_intros <;> rfl)
end Go.Proofs.YtglfkihckkjniaaGreatDoor.Vx
