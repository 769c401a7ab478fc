/-
VX, functions 16: patterns compared; the first law. No statement of the seat is proved here.
-/
import Derived.Test.YtglfkihckkjniaaGreatDoorVxF15
set_option maxRecDepth 100000
set_option linter.unusedVariables false
set_option linter.unusedSimpArgs false
namespace Go.Proofs.YtglfkihckkjniaaGreatDoor.Vx
open Go Go.RowKit
/-! ### figureheadref13.SameItems -/
structure SI (a b : List Itm) where
  n : Nat
  le : n ≤ a.length
  len : a.length = b.length
  eq : a.take n = b.take n
def sp_sitems : FSpec := ⟨[], fun | [.one (.rd (.items a)), .one (.rd (.items b))] => some ([a.length ≤ 1000000000000, b.length ≤ 1000000000000], .one (.bool (decide (a = b)))) | _ => none⟩
theorem vc_sitems (a b : List Itm) : vcP [] [] misc Tryz.f20 (.loop 4 (SI a b) (fun i => ⟨[(0, .one (.slc 0)), (1, .one (.slc 1)), (5, .one (.int .i64 i.n))], [(0, some (.read (.items a))), (1, some (.read (.items b)))], 16⟩) (fun i => a.length - i.n) (fun _ => .nil) .nil) [.one (.rd (.items a)), .one (.rd (.items b))] (.one (.bool (decide (a = b)))) = (br ((↑(List.length a) : Int) != (↑(List.length b) : Int)) (false = decide (a = b)) ((∃ (x : SI a b), (0 : Int) = (↑(SI.n x) : Int) ∧ a = a ∧ b = b) ∧ ∀ (x : SI a b), br (decide ((↑(SI.n x) : Int) < (↑(List.length a) : Int))) (((0 : Int) ≤ (↑(SI.n x) : Int) ∧ (↑(SI.n x) : Int) < (↑(List.length a) : Int)) ∧ Int.toNat (↑(SI.n x) : Int) < List.length a ∧ ((0 : Int) ≤ (↑(SI.n x) : Int) ∧ (↑(SI.n x) : Int) < (↑(List.length b) : Int)) ∧ Int.toNat (↑(SI.n x) : Int) < List.length b ∧ br (Itm.k (List.getD a (Int.toNat (↑(SI.n x) : Int)) default) != Itm.k (List.getD b (Int.toNat (↑(SI.n x) : Int)) default)) (false = decide (a = b)) (((0 : Int) ≤ (↑(SI.n x) : Int) ∧ (↑(SI.n x) : Int) < (↑(List.length a) : Int)) ∧ Int.toNat (↑(SI.n x) : Int) < List.length a ∧ ((0 : Int) ≤ (↑(SI.n x) : Int) ∧ (↑(SI.n x) : Int) < (↑(List.length b) : Int)) ∧ Int.toNat (↑(SI.n x) : Int) < List.length b ∧ br (Itm.r (List.getD a (Int.toNat (↑(SI.n x) : Int)) default) != Itm.r (List.getD b (Int.toNat (↑(SI.n x) : Int)) default)) (false = decide (a = b)) (inR IntKind.i64 ((↑(SI.n x) : Int) + (1 : Int)) ∧ ∃ (x' : SI a b), ((↑(SI.n x) : Int) + (1 : Int) = (↑(SI.n x') : Int) ∧ a = a ∧ b = b) ∧ List.length a - SI.n x' < List.length a - SI.n x))) (true = decide (a = b)))) := by kernel_rfl
set_option maxHeartbeats 4000000 in
theorem of_sitems (h : ∀ (a b : List Itm), (a.length ≤ 1000000000000) → (b.length ≤ 1000000000000) → vcP [] [] misc Tryz.f20 (.loop 4 (SI a b) (fun i => ⟨[(0, .one (.slc 0)), (1, .one (.slc 1)), (5, .one (.int .i64 i.n))], [(0, some (.read (.items a))), (1, some (.read (.items b)))], 16⟩) (fun i => a.length - i.n) (fun _ => .nil) .nil) [.one (.rd (.items a)), .one (.rd (.items b))] (.one (.bool (decide (a = b))))) : FnP 20 sp_sitems := by
  refine fnP_ok (cs := []) (cas := []) (ms := misc) .nil .nil misc_ok 20 Tryz.f20 (by kernel_rfl) (by kernel_rfl) (by kernel_rfl) (fun | [.one (.rd (.items a)), .one (.rd (.items b))] => .loop 4 (SI a b) (fun i => ⟨[(0, .one (.slc 0)), (1, .one (.slc 1)), (5, .one (.int .i64 i.n))], [(0, some (.read (.items a))), (1, some (.read (.items b)))], 16⟩) (fun i => a.length - i.n) (fun _ => .nil) .nil | _ => .nil) ?_
  intro pvs p r hs hp
  unfold sp_sitems at hs
  simp only at hs
  split at hs
  · rename_i a b
    cases hs
    refine h a b ?_ ?_
    · exact hp.1
    · exact hp.2
  · cases hs
theorem SI.next {a b : List Itm} (x : SI a b) (h : x.n < a.length) (hk : (a.getD x.n default).k = (b.getD x.n default).k) (hr : (a.getD x.n default).r = (b.getD x.n default).r) : a.take (x.n + 1) = b.take (x.n + 1) := by
  have hl := x.len
  rw [List.take_add_one, List.take_add_one, x.eq, List.getElem?_eq_getElem h, List.getElem?_eq_getElem (by omega)]
  rw [List.getD_eq_getElem?_getD, List.getD_eq_getElem?_getD, List.getElem?_eq_getElem h, List.getElem?_eq_getElem (by omega)] at hk hr
  have : a[x.n] = b[x.n] := by
    cases ha : a[x.n]; cases hb : b[x.n]
    rw [ha, hb] at hk hr
    simp at hk hr; rw [hk, hr]
  rw [this]
theorem ok_sitems : FnP 20 sp_sitems := of_sitems (by
  intro a b ha hb
  rw [vc_sitems]
  refine br_of (fun h => ?_) fun h => ?_
  · have h : (a.length : Int) ≠ b.length := by simpa using h
    symm; rw [decide_eq_false_iff_not]; intro e; exact h (by rw [e])
  have h0 : (a.length : Int) = b.length := by simpa using h
  have h0 : a.length = b.length := by omega
  refine ⟨⟨⟨0, Nat.zero_le _, h0, rfl⟩, by and_intros <;> rfl⟩, fun x => ?_⟩
  rw [Int.toNat_natCast]
  refine br_of (fun h => ?_) fun h => ?_
  · have h : x.n < a.length := by simpa using h
    refine ⟨⟨by omega, by omega⟩, h, ⟨by omega, by omega⟩, by omega, br_of (fun h1 => ?_) fun h1 => ⟨⟨by omega, by omega⟩, h, ⟨by omega, by omega⟩, by omega, br_of (fun h2 => ?_) fun h2 => ⟨by simp only [inR]; omega, ⟨x.n + 1, h, h0, x.next h (by simpa using h1) (by simpa using h2)⟩, by and_intros <;> rfl, by show a.length - (x.n + 1) < _; omega⟩⟩⟩
    · have h1 : (a.getD x.n default).k ≠ (b.getD x.n default).k := by simpa using h1
      symm; rw [decide_eq_false_iff_not]; intro e; exact h1 (congrArg (fun l => (List.getD l x.n default).k) e)
    · have h1 : (a.getD x.n default).r ≠ (b.getD x.n default).r := by simpa using h2
      symm; rw [decide_eq_false_iff_not]; intro e; exact h1 (congrArg (fun l => (List.getD l x.n default).r) e)
  · have h : ¬ x.n < a.length := by simpa using h
    symm; rw [decide_eq_true_iff]
    have := x.eq
    rwa [List.take_of_length_le (by omega), List.take_of_length_le (by omega)] at this)
/-! ### figureheadref13.SameFields, SamePattern -/
structure P2 where
  a : Pat
  b : Pat
def P2.pvs (t : P2) : List PV := [.agg t.a.pcs, .agg t.b.pcs]
def p2Of : List PV → Option P2
  | [.agg x, .agg y] => (patOf x).bind fun a => (patOf y).bind fun b => some ⟨a, b⟩
  | _ => none
theorem p2Of_eq {l : List PV} {p : P2} (h : p2Of l = some p) : l = p.pvs := by
  unfold p2Of at h
  split at h
  · rename_i x y
    simp only [Option.bind_eq_some_iff] at h
    obtain ⟨a, ha, b, hb, h2⟩ := h
    cases h2
    rw [patOf_eq ha, patOf_eq hb]
    rfl
  · cases h
def sameN (a b : Num) : Bool := decide (a.mi = b.mi ∧ a.xi = b.xi ∧ a.mf = b.mf ∧ a.xf = b.xf ∧ a.ms = b.ms ∧ a.xs = b.xs ∧ a.pr = b.pr ∧ a.sc = b.sc ∧ a.inc = b.inc ∧ a.ps = b.ps ∧ a.me = b.me ∧ a.px = b.px)
def samePt (a b : Pat) : Bool := sameN a.n b.n && decide (a.pre = b.pre ∧ a.suf = b.suf ∧ a.hn = b.hn ∧ a.npre = b.npre ∧ a.nsuf = b.nsuf ∧ a.pa = b.pa ∧ a.pd = b.pd ∧ a.pw = b.pw)
def sp_sfields : FSpec := ⟨[.agg p0.pcs, .agg p0.pcs], fun pvs => (p2Of pvs).bind fun t => some ([], .one (.bool (sameN t.a.n t.b.n)))⟩
theorem vc_sfields (t : P2) : vcP [] [] misc Tryz.f39 (.nil) t.pvs (.one (.bool (sameN t.a.n t.b.n))) = (letI v0 := (false = sameN (Pat.n (P2.a t)) (Pat.n (P2.b t))); (br (Num.mi (Pat.n (P2.a t)) == Num.mi (Pat.n (P2.b t))) (br (Num.xi (Pat.n (P2.a t)) == Num.xi (Pat.n (P2.b t))) (br (Num.mf (Pat.n (P2.a t)) == Num.mf (Pat.n (P2.b t))) (br (Num.xf (Pat.n (P2.a t)) == Num.xf (Pat.n (P2.b t))) (br (Num.ms (Pat.n (P2.a t)) == Num.ms (Pat.n (P2.b t))) (br (Num.xs (Pat.n (P2.a t)) == Num.xs (Pat.n (P2.b t))) (br (Num.pr (Pat.n (P2.a t)) == Num.pr (Pat.n (P2.b t))) (br (Num.sc (Pat.n (P2.a t)) == Num.sc (Pat.n (P2.b t))) (br (decide (Num.inc (Pat.n (P2.a t)) = Num.inc (Pat.n (P2.b t)))) (br (Num.ps (Pat.n (P2.a t)) == Num.ps (Pat.n (P2.b t))) (br (Num.me (Pat.n (P2.a t)) == Num.me (Pat.n (P2.b t))) ((Num.px (Pat.n (P2.a t)) == Num.px (Pat.n (P2.b t))) = sameN (Pat.n (P2.a t)) (Pat.n (P2.b t))) v0) v0) v0) v0) v0) v0) v0) v0) v0) v0) v0)) := by kernel_rfl
set_option maxHeartbeats 4000000 in
theorem of_sfields (h : ∀ (t : P2), vcP [] [] misc Tryz.f39 (.nil) t.pvs (.one (.bool (sameN t.a.n t.b.n)))) : FnP 39 sp_sfields := by
  refine fnP_ok (cs := []) (cas := []) (ms := misc) .nil .nil misc_ok 39 Tryz.f39 (by kernel_rfl) (by kernel_rfl) (by kernel_rfl) (fun _ => .nil) ?_
  intro pvs p r hs hp
  obtain ⟨t, hx, h2⟩ := Option.bind_eq_some_iff.1 hs
  cases h2
  have := h t
  rw [← p2Of_eq hx] at this
  exact this
theorem ok_sfields : FnP 39 sp_sfields := of_sfields (by
  intro t
  rw [vc_sfields]
  unfold sameN
  repeat' (first | (refine br_of (fun h => ?_) fun h => ?_))
  all_goals simp_all
  all_goals first | rfl | exact Bool.beq_eq_decide_eq _ _)
def Pat.small (p : Pat) (n : Nat) : Prop := p.pre.length ≤ n ∧ p.suf.length ≤ n ∧ p.npre.length ≤ n ∧ p.nsuf.length ≤ n
def sp_spat : FSpec := ⟨[.agg p0.pcs, .agg p0.pcs], fun pvs => (p2Of pvs).bind fun t => some ([t.a.small 1000000000000, t.b.small 1000000000000], .one (.bool (samePt t.a t.b)))⟩
theorem vc_spat (t : P2) : vcP [(39, sp_sfields), (20, sp_sitems)] [] misc Tryz.f16 (.nil) t.pvs (.one (.bool (samePt t.a t.b))) = (letI v0 := (false = samePt (P2.a t) (P2.b t)); (br (sameN (Pat.n (P2.a t)) (Pat.n (P2.b t))) (List.length (Pat.pre (P2.a t)) ≤ (1000000000000 : Nat) ∧ List.length (Pat.pre (P2.b t)) ≤ (1000000000000 : Nat) ∧ br (decide (Pat.pre (P2.a t) = Pat.pre (P2.b t))) (List.length (Pat.suf (P2.a t)) ≤ (1000000000000 : Nat) ∧ List.length (Pat.suf (P2.b t)) ≤ (1000000000000 : Nat) ∧ br (decide (Pat.suf (P2.a t) = Pat.suf (P2.b t))) (br (Pat.hn (P2.a t) == Pat.hn (P2.b t)) (List.length (Pat.npre (P2.a t)) ≤ (1000000000000 : Nat) ∧ List.length (Pat.npre (P2.b t)) ≤ (1000000000000 : Nat) ∧ br (decide (Pat.npre (P2.a t) = Pat.npre (P2.b t))) (List.length (Pat.nsuf (P2.a t)) ≤ (1000000000000 : Nat) ∧ List.length (Pat.nsuf (P2.b t)) ≤ (1000000000000 : Nat) ∧ br (decide (Pat.nsuf (P2.a t) = Pat.nsuf (P2.b t))) (br (Pat.pa (P2.a t) == Pat.pa (P2.b t)) (br (Pat.pd (P2.a t) == Pat.pd (P2.b t)) ((Pat.pw (P2.a t) == Pat.pw (P2.b t)) = samePt (P2.a t) (P2.b t)) v0) v0) v0) v0) v0) v0) v0) v0)) := by kernel_rfl
set_option maxHeartbeats 4000000 in
theorem of_spat (h : ∀ (t : P2), (t.a.small 1000000000000) → (t.b.small 1000000000000) → vcP [(39, sp_sfields), (20, sp_sitems)] [] misc Tryz.f16 (.nil) t.pvs (.one (.bool (samePt t.a t.b)))) : FnP 16 sp_spat := by
  refine fnP_ok (cs := [(39, sp_sfields), (20, sp_sitems)]) (cas := []) (ms := misc) (.cons ok_sfields (.cons ok_sitems .nil)) .nil misc_ok 16 Tryz.f16 (by kernel_rfl) (by kernel_rfl) (by kernel_rfl) (fun _ => .nil) ?_
  intro pvs p r hs hp
  obtain ⟨t, hx, h2⟩ := Option.bind_eq_some_iff.1 hs
  cases h2
  have := h t (hp.1) (hp.2)
  rw [← p2Of_eq hx] at this
  exact this
theorem ok_spat : FnP 16 sp_spat := of_spat (by
  intro t ha hb
  obtain ⟨a1, a2, a3, a4⟩ := ha
  obtain ⟨b1, b2, b3, b4⟩ := hb
  rw [vc_spat]
  unfold samePt
  refine br_of (fun h => ⟨a1, b1, br_of (fun h => ⟨a2, b2, br_of (fun h => br_of (fun h => ⟨a3, b3, br_of (fun h => ⟨a4, b4, br_of (fun h => br_of (fun h => br_of (fun h => ?_) fun h => ?_) fun h => ?_) fun h => ?_⟩) fun h => ?_⟩) fun h => ?_) fun h => ?_⟩) fun h => ?_⟩) fun h => ?_
  all_goals simp_all
  all_goals first | rfl | exact Bool.beq_eq_decide_eq _ _)
/-! ### figureheadlaw16.answers, PatternFaults -/
def litA : List UInt8 := [42, 120, 35, 44, 35, 35, 48, 46, 48, 48, 37, 59, 40, 35, 41]
def patA : Pat := ⟨[], [⟨4, 0⟩], true, [⟨1, 40⟩], [⟨1, 41⟩], ⟨1, 0, 2, 2, 0, 0, 3, 3, [], false, 0, false⟩, 1, 120, 9⟩
theorem compA : compileT litA = (patA, 0, 0) := by kernel_rfl
theorem compB : compileT [97] = (p0, 4, 0) := by kernel_rfl
def sp_pcAB : FSpec := ⟨[], fun
  | [.one (.str s)] => bif s == litA then some ([], .tup [(true, patA.pcs), (true, [.int .i64 0, .int .i64 0])]) else bif s == [97] then some ([], .tup [(true, p0.pcs), (true, [.int .i64 4, .int .i64 0])]) else none
  | _ => none⟩
theorem ok_pcAB : FnP 14 sp_pcAB := by
  refine ⟨ok_pcompile.body, ?_⟩
  intro pvs p r hs hp
  unfold sp_pcAB at hs
  simp only at hs
  split at hs
  · rename_i s
    cases h1 : s == litA with
    | true =>
      rw [h1, cond_true] at hs
      cases hs
      have := eq_of_beq h1
      subst this
      refine ok_pcompile.calls [.one (.str litA)] [litA.length ≤ 1000000] _ ?_ (show litA.length ≤ 1000000 by decide)
      show some (_, _) = some (_, _)
      rw [compA]
    | false =>
      rw [h1, cond_false] at hs
      cases h2 : s == [97] with
      | true =>
        rw [h2, cond_true] at hs
        cases hs
        have := eq_of_beq h2
        subst this
        refine ok_pcompile.calls [.one (.str [97])] [([97] : List UInt8).length ≤ 1000000] _ ?_ (show ([97] : List UInt8).length ≤ 1000000 by decide)
        show some (_, _) = some (_, _)
        rw [compB]
      | false => rw [h2, cond_false] at hs; cases hs
  · cases hs
def sp_ans16 : FSpec := ⟨[], fun | [] => some ([], .one (.bool true)) | _ => none⟩
theorem vc_ans16  : vcP [(14, sp_pcAB), (29, sp_pmult)] [] misc Tryz.f13 (.nil) [] (.one (.bool true)) = (List.length (Pat.pre patA) + List.length (Pat.suf patA) + List.length (Pat.npre patA) + List.length (Pat.nsuf patA) ≤ (1000000000 : Nat) ∧ ((4 : Int) == (4 : Int)) = true) := by kernel_rfl
set_option maxHeartbeats 4000000 in
theorem of_ans16 (h : vcP [(14, sp_pcAB), (29, sp_pmult)] [] misc Tryz.f13 (.nil) [] (.one (.bool true))) : FnP 13 sp_ans16 := by
  refine fnP_ok (cs := [(14, sp_pcAB), (29, sp_pmult)]) (cas := []) (ms := misc) (.cons ok_pcAB (.cons ok_pmult .nil)) .nil misc_ok 13 Tryz.f13 (by kernel_rfl) (by kernel_rfl) (by kernel_rfl) (fun _ => .nil) ?_
  intro pvs p r hs hp
  unfold sp_ans16 at hs
  simp only at hs
  split at hs
  · cases hs
    refine h 
  · cases hs
theorem ok_ans16 : FnP 13 sp_ans16 := of_ans16 (by
  rw [vc_ans16]
  exact ⟨by decide, rfl⟩)
def sp_lFaults : FSpec := ⟨[], fun | [.one (.str s)] => some ([s.length ≤ 9223372036854775807], .one (.bool true)) | _ => none⟩
theorem vc_lFaults (s : List UInt8) : vcP [(14, sp_pcompile), (13, sp_ans16), (16, sp_spat)] [] misc Tryz.f4 (.nil) [.one (.str s)] (.one (.bool true)) = (letI v0 : Pat := { pre := [], suf := [], hn := false, npre := [], nsuf := [], n := { mi := (0 : Int), xi := (0 : Int), mf := (0 : Int), xf := (0 : Int), ms := (0 : Int), xs := (0 : Int), pr := (0 : Int), sc := (0 : Int), inc := [], ps := false, me := (0 : Int), px := false }, pa := (0 : Int), pd := (0 : Int), pw := (0 : Int) }; (br (decide ((↑(List.length s) : Int) > (1000 : Int))) (true = true) (List.length s ≤ (1000000 : Nat) ∧ br ((compileT s).2.1 == (0 : Int)) (((compileT s).2.2 == (0 : Int)) = true) (br (decide ((compileT s).2.2 ≥ (0 : Int))) (br (decide ((compileT s).2.2 ≤ (↑(List.length s) : Int))) ((List.length (Pat.pre (compileT s).1) ≤ (1000000000000 : Nat) ∧ List.length (Pat.suf (compileT s).1) ≤ (1000000000000 : Nat) ∧ List.length (Pat.npre (compileT s).1) ≤ (1000000000000 : Nat) ∧ List.length (Pat.nsuf (compileT s).1) ≤ (1000000000000 : Nat)) ∧ (List.length (Pat.pre v0) ≤ (1000000000000 : Nat) ∧ List.length (Pat.suf v0) ≤ (1000000000000 : Nat) ∧ List.length (Pat.npre v0) ≤ (1000000000000 : Nat) ∧ List.length (Pat.nsuf v0) ≤ (1000000000000 : Nat)) ∧ samePt (compileT s).1 v0 = true) (false = true)) (false = true))))) := by kernel_rfl
set_option maxHeartbeats 4000000 in
theorem of_lFaults (h : ∀ (s : List UInt8), (s.length ≤ 9223372036854775807) → vcP [(14, sp_pcompile), (13, sp_ans16), (16, sp_spat)] [] misc Tryz.f4 (.nil) [.one (.str s)] (.one (.bool true))) : FnP 4 sp_lFaults := by
  refine fnP_ok (cs := [(14, sp_pcompile), (13, sp_ans16), (16, sp_spat)]) (cas := []) (ms := misc) (.cons ok_pcompile (.cons ok_ans16 (.cons ok_spat .nil))) .nil misc_ok 4 Tryz.f4 (by kernel_rfl) (by kernel_rfl) (by kernel_rfl) (fun _ => .nil) ?_
  intro pvs p r hs hp
  unfold sp_lFaults at hs
  simp only at hs
  split at hs
  · rename_i s
    cases hs
    refine h s ?_
    · exact hp
  · cases hs

theorem compE_small (l : List Iv) : (compE l).1.small 41 := by
  have l1 := readT_len (l.take (aheadN l)) 0 true
  have l2 := readT_len (behindL l) ((l.getD (aheadN l) default).at_ + 1) false
  have h0 : p0.small 41 := ⟨Nat.zero_le _, Nat.zero_le _, Nat.zero_le _, Nat.zero_le _⟩
  have hm : (madeT (readT (l.take (aheadN l)) 0 true).1.pa).small 41 := by
    refine ⟨?_, ?_, ?_, ?_⟩
    · show (readT (l.take (aheadN l)) 0 true).1.px.length ≤ _; omega
    · show (readT (l.take (aheadN l)) 0 true).1.sx.length ≤ _; omega
    · show (readT (l.take (aheadN l)) 0 true).1.px.length + 1 ≤ _; omega
    · show (readT (l.take (aheadN l)) 0 true).1.sx.length ≤ _; omega
  unfold compE
  repeat' split
  all_goals first | exact h0 | exact hm | exact ⟨hm.1, hm.2.1, by show List.length _ ≤ _; dsimp only; omega, by show List.length _ ≤ _; dsimp only; omega⟩
theorem compileT_small (s : List UInt8) : (compileT s).1.small 41 := by
  have h0 : p0.small 41 := ⟨Nat.zero_le _, Nat.zero_le _, Nat.zero_le _, Nat.zero_le _⟩
  unfold compileT
  repeat' split
  all_goals first | exact h0 | exact compE_small _
theorem Pat.small.mono {p : Pat} {n m : Nat} (h : p.small n) (hm : n ≤ m) : p.small m := ⟨Nat.le_trans h.1 hm, Nat.le_trans h.2.1 hm, Nat.le_trans h.2.2.1 hm, Nat.le_trans h.2.2.2 hm⟩
theorem ok_lFaults : FnP 4 sp_lFaults := of_lFaults (by
  intro s hs
  rw [vc_lFaults]
  obtain ⟨⟨c1, c2⟩, c3, c4⟩ := compileT_in s
  refine br_of (fun h => rfl) fun h => ?_
  have h : ¬ (s.length : Int) > 1000 := by simpa using h
  refine ⟨by omega, br_of (fun h1 => ?_) fun h1 => br_of (fun h2 => br_of (fun h3 => ⟨(compileT_small s).mono (by decide), by decide, ?_⟩) fun h3 => ?_) fun h2 => ?_⟩
  · rw [c3 (eq_of_beq h1)]; rfl
  · have h1 : (compileT s).2.1 ≠ 0 := by simpa using h1
    rw [c4 h1]; rfl
  · exact absurd c2 (by simpa using h3)
  · exact absurd c1 (by simpa using h2))
end Go.Proofs.YtglfkihckkjniaaGreatDoor.Vx
