/-
A part of the proof of Pads: lemmas and contracts. No statement of the seat is proved here.
-/
import Derived.Shelf.Spec.SlicesGrow
import Derived.Lib.SliceRun
import Derived.Test.YtglfkihckkjniaaGreatDoorClPads2
set_option maxRecDepth 100000
set_option linter.unusedVariables false
set_option linter.unusedSimpArgs false
namespace Go.Proofs.YtglfkihckkjniaaGreatDoor.Vx
open Go Go.RowKit
def signifT (w : List UInt8) (pt : Bool) (p : Num) : Int × Num :=
  if pt = true ∨ anyP isDig w = true then (6, p)
  else if dropP (· == 35) (dropP (· == 64) (dropP (· == 35) w)) ≠ [] ∨ span1 (· == 64) (dropP (· == 35) w) = 0 then (4, p)
  else (0, { p with ms := span1 (· == 64) (dropP (· == 35) w), xs := span1 (· == 64) (dropP (· == 35) w) + span1 (· == 35) (dropP (· == 64) (dropP (· == 35) w)) })
def sp_rsignif : ASpec := ⟨fun | [.one (.ptr 0 0)], [(0, some (.cells 139 [.str w, .str f, .str e, .bool pt, .bool sci, .nils, .nils, .ff, .nils, .nils, .int .i64 mi, .int .i64 xi, .int .i64 mf, .int .i64 xf, .int .i64 ms, .int .i64 xs, .int .i64 pr, .int .i64 sc, .str inc, .bool ps, .int .i64 me, .bool px, .int .i64 0, .int .i32 0, .int .i64 0]))] => some ([Asc w, w.length ≤ 100000000], .one (.int .i64 (signifT w pt (⟨mi, xi, mf, xf, ms, xs, pr, sc, inc, ps, me, px⟩ : Num)).1), [(0, some (.cells 139 (rdC w f e pt sci (signifT w pt (⟨mi, xi, mf, xf, ms, xs, pr, sc, inc, ps, me, px⟩ : Num)).2)))]) | _, _ => none⟩
theorem vc_rsignif (w f e : List UInt8) (pt sci : Bool) (mi xi mf xf ms xs pr sc : Int) (inc : List UInt8) (ps : Bool) (me : Int) (px : Bool) : vcA [(121, sp_scfD), (117, sp_one)] [(116, sp_spansC)] misc Tryz.f126 (.nil) [.one (.ptr 0 0)] [(0, some (.cells 139 [.str w, .str f, .str e, .bool pt, .bool sci, .nils, .nils, .ff, .nils, .nils, .int .i64 mi, .int .i64 xi, .int .i64 mf, .int .i64 xf, .int .i64 ms, .int .i64 xs, .int .i64 pr, .int .i64 sc, .str inc, .bool ps, .int .i64 me, .bool px, .int .i64 0, .int .i32 0, .int .i64 0]))] (.one (.int .i64 (signifT w pt (⟨mi, xi, mf, xf, ms, xs, pr, sc, inc, ps, me, px⟩ : Num)).1)) [(0, some (.cells 139 (rdC w f e pt sci (signifT w pt (⟨mi, xi, mf, xf, ms, xs, pr, sc, inc, ps, me, px⟩ : Num)).2)))] = (letI v0 := (signifT w pt { mi := mi, xi := xi, mf := mf, xf := xf, ms := ms, xs := xs, pr := pr, sc := sc, inc := inc, ps := ps, me := me, px := px }); letI v1 := ((6 : Int) = v0.1 ∧ w = w ∧ f = f ∧ e = e ∧ pt = pt ∧ sci = sci ∧ mi = Num.mi v0.2 ∧ xi = Num.xi v0.2 ∧ mf = Num.mf v0.2 ∧ xf = Num.xf v0.2 ∧ ms = Num.ms v0.2 ∧ xs = Num.xs v0.2 ∧ pr = Num.pr v0.2 ∧ sc = Num.sc v0.2 ∧ inc = Num.inc v0.2 ∧ ps = Num.ps v0.2 ∧ me = Num.me v0.2 ∧ px = Num.px v0.2 ∧ (0 : Int) = (0 : Int) ∧ (0 : Int) = (0 : Int) ∧ (0 : Int) = (0 : Int)); letI v2 := ((4 : Int) = v0.1 ∧ w = w ∧ f = f ∧ e = e ∧ pt = pt ∧ sci = sci ∧ mi = Num.mi v0.2 ∧ xi = Num.xi v0.2 ∧ mf = Num.mf v0.2 ∧ xf = Num.xf v0.2 ∧ ms = Num.ms v0.2 ∧ xs = Num.xs v0.2 ∧ pr = Num.pr v0.2 ∧ sc = Num.sc v0.2 ∧ inc = Num.inc v0.2 ∧ ps = Num.ps v0.2 ∧ me = Num.me v0.2 ∧ px = Num.px v0.2 ∧ (0 : Int) = (0 : Int) ∧ (0 : Int) = (0 : Int) ∧ (0 : Int) = (0 : Int)); letI v3 := ((0 : Int) ≤ (1 : Int) ∧ (1 : Int) < (↑(3 : Nat) : Int)); (br pt v1 ((∀ (c : UInt8), c ∈ w → UInt8.toNat c < (128 : Nat)) ∧ List.length w ≤ (1000000000 : Nat) ∧ br (anyP isDig w) v1 ((∀ (c : UInt8), c ∈ w → UInt8.toNat c < (128 : Nat)) ∧ List.length w ≤ (1000000000 : Nat) ∧ br (!decide (dropP (fun (x : Int) => x == (35 : Int)) (dropP (fun (x : Int) => x == (64 : Int)) (dropP (fun (x : Int) => x == (35 : Int)) w)) = [])) v2 (v3 ∧ Int.toNat (1 : Int) < (3 : Nat) ∧ br ((span1 (fun (x : Int) => x == (64 : Int)) (dropP (fun (x : Int) => x == (35 : Int)) w)) == (0 : Int)) v2 (v3 ∧ Int.toNat (1 : Int) < (3 : Nat) ∧ v3 ∧ Int.toNat (1 : Int) < (3 : Nat) ∧ ((0 : Int) ≤ (2 : Int) ∧ (2 : Int) < (↑(3 : Nat) : Int)) ∧ Int.toNat (2 : Int) < (3 : Nat) ∧ inR IntKind.i64 ((span1 (fun (x : Int) => x == (64 : Int)) (dropP (fun (x : Int) => x == (35 : Int)) w)) + (span1 (fun (x : Int) => x == (35 : Int)) (dropP (fun (x : Int) => x == (64 : Int)) (dropP (fun (x : Int) => x == (35 : Int)) w)))) ∧ (0 : Int) = v0.1 ∧ w = w ∧ f = f ∧ e = e ∧ pt = pt ∧ sci = sci ∧ mi = Num.mi v0.2 ∧ xi = Num.xi v0.2 ∧ mf = Num.mf v0.2 ∧ xf = Num.xf v0.2 ∧ (span1 (fun (x : Int) => x == (64 : Int)) (dropP (fun (x : Int) => x == (35 : Int)) w)) = Num.ms v0.2 ∧ (span1 (fun (x : Int) => x == (64 : Int)) (dropP (fun (x : Int) => x == (35 : Int)) w)) + (span1 (fun (x : Int) => x == (35 : Int)) (dropP (fun (x : Int) => x == (64 : Int)) (dropP (fun (x : Int) => x == (35 : Int)) w))) = Num.xs v0.2 ∧ pr = Num.pr v0.2 ∧ sc = Num.sc v0.2 ∧ inc = Num.inc v0.2 ∧ ps = Num.ps v0.2 ∧ me = Num.me v0.2 ∧ px = Num.px v0.2 ∧ (0 : Int) = (0 : Int) ∧ (0 : Int) = (0 : Int) ∧ (0 : Int) = (0 : Int))))))) := by kernel_rfl
set_option maxHeartbeats 4000000 in
theorem of_rsignif (h : ∀ (w f e : List UInt8) (pt sci : Bool) (mi xi mf xf ms xs pr sc : Int) (inc : List UInt8) (ps : Bool) (me : Int) (px : Bool), (Asc w) → (w.length ≤ 100000000) → vcA [(121, sp_scfD), (117, sp_one)] [(116, sp_spansC)] misc Tryz.f126 (.nil) [.one (.ptr 0 0)] [(0, some (.cells 139 [.str w, .str f, .str e, .bool pt, .bool sci, .nils, .nils, .ff, .nils, .nils, .int .i64 mi, .int .i64 xi, .int .i64 mf, .int .i64 xf, .int .i64 ms, .int .i64 xs, .int .i64 pr, .int .i64 sc, .str inc, .bool ps, .int .i64 me, .bool px, .int .i64 0, .int .i32 0, .int .i64 0]))] (.one (.int .i64 (signifT w pt (⟨mi, xi, mf, xf, ms, xs, pr, sc, inc, ps, me, px⟩ : Num)).1)) [(0, some (.cells 139 (rdC w f e pt sci (signifT w pt (⟨mi, xi, mf, xf, ms, xs, pr, sc, inc, ps, me, px⟩ : Num)).2)))]) : FnA 126 sp_rsignif := by
  refine fnA_ok (cs := [(121, sp_scfD), (117, sp_one)]) (cas := [(116, sp_spansC)]) (ms := misc) (.cons ok_scfD (.cons ok_one .nil)) (.cons ok_spansC .nil) misc_ok 126 Tryz.f126 (by kernel_rfl) (by kernel_rfl) (by kernel_rfl) (fun _ _ => .nil) ?_
  intro args mem p r post hs hp
  unfold sp_rsignif at hs
  simp only at hs
  split at hs
  · rename_i w f e pt sci mi xi mf xf ms xs pr sc inc ps me px
    cases hs
    refine h w f e pt sci mi xi mf xf ms xs pr sc inc ps me px ?_ ?_
    · exact hp.1
    · exact hp.2
  · cases hs
theorem span1_range (P : Int → Bool) (s : List UInt8) : 0 ≤ span1 P s ∧ span1 P s ≤ s.length := by
  have := dropP_len P s
  unfold span1
  omega
theorem ok_rsignif : FnA 126 sp_rsignif := of_rsignif (by
  intro w f e pt sci mi xi mf xf ms xs pr sc inc ps me px hw hn
  rw [vc_rsignif]
  have r1 := span1_range (· == 64) (dropP (· == 35) w)
  have r2 := span1_range (· == 35) (dropP (· == 64) (dropP (· == 35) w))
  have l1 := dropP_len (· == 35) w
  have l2 := dropP_len (· == 64) (dropP (· == 35) w)
  refine br_of (fun h => ?_) fun h => ⟨hw, by omega, br_of (fun h1 => ?_) fun h1 => ⟨hw, by omega, br_of (fun h2 => ?_) fun h2 => ⟨by decide, by decide, br_of (fun h3 => ?_) fun h3 => ⟨by decide, by decide, by decide, by decide, by decide, by decide, by simp only [inR]; omega, ?_⟩⟩⟩⟩
  · have hE : signifT w pt (⟨mi, xi, mf, xf, ms, xs, pr, sc, inc, ps, me, px⟩ : Num) = (6, (⟨mi, xi, mf, xf, ms, xs, pr, sc, inc, ps, me, px⟩ : Num)) := by unfold signifT; rw [if_pos (.inl h)]
    rw [hE]; and_intros <;> rfl
  · have hE : signifT w pt (⟨mi, xi, mf, xf, ms, xs, pr, sc, inc, ps, me, px⟩ : Num) = (6, (⟨mi, xi, mf, xf, ms, xs, pr, sc, inc, ps, me, px⟩ : Num)) := by unfold signifT; rw [if_pos (.inr h1)]
    rw [hE]; and_intros <;> rfl
  all_goals have hn1 : ¬ (pt = true ∨ anyP isDig w = true) := fun h4 => h4.elim (fun h5 => by rw [h] at h5; cases h5) (fun h5 => by rw [h1] at h5; cases h5)
  · have h2 : dropP (· == 35) (dropP (· == 64) (dropP (· == 35) w)) ≠ [] := by simpa using h2
    have hE : signifT w pt (⟨mi, xi, mf, xf, ms, xs, pr, sc, inc, ps, me, px⟩ : Num) = (4, (⟨mi, xi, mf, xf, ms, xs, pr, sc, inc, ps, me, px⟩ : Num)) := by unfold signifT; rw [if_neg hn1, if_pos (.inl h2)]
    rw [hE]; and_intros <;> rfl
  · have hE : signifT w pt (⟨mi, xi, mf, xf, ms, xs, pr, sc, inc, ps, me, px⟩ : Num) = (4, (⟨mi, xi, mf, xf, ms, xs, pr, sc, inc, ps, me, px⟩ : Num)) := by unfold signifT; rw [if_neg hn1, if_pos (.inr (eq_of_beq h3))]
    rw [hE]; and_intros <;> rfl
  · have h2 : dropP (· == 35) (dropP (· == 64) (dropP (· == 35) w)) = [] := by simpa using h2
    have h3 : ¬ span1 (· == 64) (dropP (· == 35) w) = 0 := by simpa using h3
    have hE : signifT w pt (⟨mi, xi, mf, xf, ms, xs, pr, sc, inc, ps, me, px⟩ : Num) = (0, { (⟨mi, xi, mf, xf, ms, xs, pr, sc, inc, ps, me, px⟩ : Num) with ms := span1 (· == 64) (dropP (· == 35) w), xs := span1 (· == 64) (dropP (· == 35) w) + span1 (· == 35) (dropP (· == 64) (dropP (· == 35) w)) }) := by
      unfold signifT; rw [if_neg hn1, if_neg (fun h4 => h4.elim (fun h5 => h5 h2) h3)]
    rw [hE]; and_intros <;> rfl)
def countsP (w f : List UInt8) (sci : Bool) (p : Num) : Num :=
  { p with mi := span1 isDig (dropP (· == 35) w), mf := span1 isDig f, xf := f.length, xi := if sci = true then (w.length : Int) else p.xi, inc := Lib.trimLeftB (w.drop (span1 (· == 35) w).toNat ++ f.take (span1 isDig f).toNat) 48 }
def countsT (w f : List UInt8) (pt sci : Bool) (p : Num) : Int × Num :=
  if w ++ f = [] then (4, p)
  else if 0 ≤ Lib.indexByte (w ++ f) 64 then signifT w pt p
  else if dropP isDig (dropP (· == 35) w) ≠ [] ∨ dropP (· == 35) (dropP isDig f) ≠ [] then (4, p)
  else if (countsP w f sci p).inc ≠ [] ∧ (0 < span1 (· == 35) (dropP isDig f) ∨ sci = true) then (6, countsP w f sci p)
  else (0, countsP w f sci p)
def sp_rcounts : ASpec := ⟨fun | [.one (.ptr 0 0)], [(0, some (.cells 139 [.str w, .str f, .str e, .bool pt, .bool sci, .nils, .nils, .ff, .nils, .nils, .int .i64 mi, .int .i64 xi, .int .i64 mf, .int .i64 xf, .int .i64 ms, .int .i64 xs, .int .i64 pr, .int .i64 sc, .str inc, .bool ps, .int .i64 me, .bool px, .int .i64 0, .int .i32 0, .int .i64 0]))] => some ([Asc w ∧ Asc f, w.length ≤ 100000000 ∧ f.length ≤ 100000000], .one (.int .i64 (countsT w f pt sci (⟨mi, xi, mf, xf, ms, xs, pr, sc, inc, ps, me, px⟩ : Num)).1), [(0, some (.cells 139 (rdC w f e pt sci (countsT w f pt sci (⟨mi, xi, mf, xf, ms, xs, pr, sc, inc, ps, me, px⟩ : Num)).2)))]) | _, _ => none⟩
theorem vc_rcounts (w f e : List UInt8) (pt sci : Bool) (mi xi mf xf ms xs pr sc : Int) (inc : List UInt8) (ps : Bool) (me : Int) (px : Bool) : vcA [(124, sp_scont), (117, sp_one), (127, sp_strim)] [(126, sp_rsignif), (116, sp_spansAB)] misc Tryz.f96 (.nil) [.one (.ptr 0 0)] [(0, some (.cells 139 [.str w, .str f, .str e, .bool pt, .bool sci, .nils, .nils, .ff, .nils, .nils, .int .i64 mi, .int .i64 xi, .int .i64 mf, .int .i64 xf, .int .i64 ms, .int .i64 xs, .int .i64 pr, .int .i64 sc, .str inc, .bool ps, .int .i64 me, .bool px, .int .i64 0, .int .i32 0, .int .i64 0]))] (.one (.int .i64 (countsT w f pt sci (⟨mi, xi, mf, xf, ms, xs, pr, sc, inc, ps, me, px⟩ : Num)).1)) [(0, some (.cells 139 (rdC w f e pt sci (countsT w f pt sci (⟨mi, xi, mf, xf, ms, xs, pr, sc, inc, ps, me, px⟩ : Num)).2)))] = (letI v0 := (countsT w f pt sci { mi := mi, xi := xi, mf := mf, xf := xf, ms := ms, xs := xs, pr := pr, sc := sc, inc := inc, ps := ps, me := me, px := px }); letI v1 := (signifT w pt { mi := mi, xi := xi, mf := mf, xf := xf, ms := ms, xs := xs, pr := pr, sc := sc, inc := inc, ps := ps, me := me, px := px }); letI v2 := ((4 : Int) = v0.1 ∧ w = w ∧ f = f ∧ e = e ∧ pt = pt ∧ sci = sci ∧ mi = Num.mi v0.2 ∧ xi = Num.xi v0.2 ∧ mf = Num.mf v0.2 ∧ xf = Num.xf v0.2 ∧ ms = Num.ms v0.2 ∧ xs = Num.xs v0.2 ∧ pr = Num.pr v0.2 ∧ sc = Num.sc v0.2 ∧ inc = Num.inc v0.2 ∧ ps = Num.ps v0.2 ∧ me = Num.me v0.2 ∧ px = Num.px v0.2 ∧ (0 : Int) = (0 : Int) ∧ (0 : Int) = (0 : Int) ∧ (0 : Int) = (0 : Int)); letI v3 := (Int.toNat ((span1 isDig f))); letI v4 := ((0 : Int) ≤ (0 : Int) ∧ (0 : Int) < (↑(2 : Nat) : Int)); letI v5 := ((0 : Int) ≤ (1 : Int) ∧ (1 : Int) < (↑(2 : Nat) : Int)); letI v6 := ((0 : Int) ≤ (span1 isDig f) ∧ (span1 isDig f) ≤ (↑(List.length f) : Int)); (List.length w + List.length f ≤ (9223372036854775807 : Nat) ∧ br (decide (w ++ f = ([] : List UInt8))) v2 (List.length w + List.length f ≤ (9223372036854775807 : Nat) ∧ br (decide ((0 : Int) ≤ Lib.indexByte (w ++ f) (64 : UInt8))) ((∀ (c : UInt8), c ∈ w → UInt8.toNat c < (128 : Nat)) ∧ List.length w ≤ (100000000 : Nat) ∧ v1.1 = v0.1 ∧ w = w ∧ f = f ∧ e = e ∧ pt = pt ∧ sci = sci ∧ Num.mi v1.2 = Num.mi v0.2 ∧ Num.xi v1.2 = Num.xi v0.2 ∧ Num.mf v1.2 = Num.mf v0.2 ∧ Num.xf v1.2 = Num.xf v0.2 ∧ Num.ms v1.2 = Num.ms v0.2 ∧ Num.xs v1.2 = Num.xs v0.2 ∧ Num.pr v1.2 = Num.pr v0.2 ∧ Num.sc v1.2 = Num.sc v0.2 ∧ Num.inc v1.2 = Num.inc v0.2 ∧ Num.ps v1.2 = Num.ps v0.2 ∧ Num.me v1.2 = Num.me v0.2 ∧ Num.px v1.2 = Num.px v0.2 ∧ (0 : Int) = (0 : Int) ∧ (0 : Int) = (0 : Int) ∧ (0 : Int) = (0 : Int)) ((∀ (c : UInt8), c ∈ w → UInt8.toNat c < (128 : Nat)) ∧ List.length w ≤ (1000000000 : Nat) ∧ (∀ (c : UInt8), c ∈ f → UInt8.toNat c < (128 : Nat)) ∧ List.length f ≤ (1000000000 : Nat) ∧ br (!decide (dropP isDig (dropP (fun (x : Int) => x == (35 : Int)) w) = [])) v2 (br (!decide (dropP (fun (x : Int) => x == (35 : Int)) (dropP isDig f) = [])) v2 (v5 ∧ Int.toNat (1 : Int) < (2 : Nat) ∧ v4 ∧ Int.toNat (0 : Int) < (2 : Nat) ∧ br sci (v4 ∧ Int.toNat (0 : Int) < (2 : Nat) ∧ ((0 : Int) ≤ (span1 (fun (x : Int) => x == (35 : Int)) w) ∧ (span1 (fun (x : Int) => x == (35 : Int)) w) ≤ (↑(List.length w) : Int)) ∧ v4 ∧ Int.toNat (0 : Int) < (2 : Nat) ∧ v6 ∧ List.length (List.drop (Int.toNat ((span1 (fun (x : Int) => x == (35 : Int)) w))) w) + List.length (List.take v3 f) ≤ (9223372036854775807 : Nat) ∧ UInt8.toNat (48 : UInt8) < (128 : Nat) ∧ br (!decide (Lib.trimLeftB (List.drop (Int.toNat ((span1 (fun (x : Int) => x == (35 : Int)) w))) w ++ List.take v3 f) (48 : UInt8) = ([] : List UInt8))) (v5 ∧ Int.toNat (1 : Int) < (2 : Nat) ∧ br (decide ((span1 (fun (x : Int) => x == (35 : Int)) (dropP isDig f)) > (0 : Int))) ((6 : Int) = v0.1 ∧ w = w ∧ f = f ∧ e = e ∧ pt = pt ∧ sci = sci ∧ (span1 isDig (dropP (fun (x : Int) => x == (35 : Int)) w)) = Num.mi v0.2 ∧ (↑(List.length w) : Int) = Num.xi v0.2 ∧ (span1 isDig f) = Num.mf v0.2 ∧ (↑(List.length f) : Int) = Num.xf v0.2 ∧ ms = Num.ms v0.2 ∧ xs = Num.xs v0.2 ∧ pr = Num.pr v0.2 ∧ sc = Num.sc v0.2 ∧ Lib.trimLeftB (List.drop (Int.toNat ((span1 (fun (x : Int) => x == (35 : Int)) w))) w ++ List.take v3 f) (48 : UInt8) = Num.inc v0.2 ∧ ps = Num.ps v0.2 ∧ me = Num.me v0.2 ∧ px = Num.px v0.2 ∧ (0 : Int) = (0 : Int) ∧ (0 : Int) = (0 : Int) ∧ (0 : Int) = (0 : Int)) (br sci ((6 : Int) = v0.1 ∧ w = w ∧ f = f ∧ e = e ∧ pt = pt ∧ sci = sci ∧ (span1 isDig (dropP (fun (x : Int) => x == (35 : Int)) w)) = Num.mi v0.2 ∧ (↑(List.length w) : Int) = Num.xi v0.2 ∧ (span1 isDig f) = Num.mf v0.2 ∧ (↑(List.length f) : Int) = Num.xf v0.2 ∧ ms = Num.ms v0.2 ∧ xs = Num.xs v0.2 ∧ pr = Num.pr v0.2 ∧ sc = Num.sc v0.2 ∧ Lib.trimLeftB (List.drop (Int.toNat ((span1 (fun (x : Int) => x == (35 : Int)) w))) w ++ List.take v3 f) (48 : UInt8) = Num.inc v0.2 ∧ ps = Num.ps v0.2 ∧ me = Num.me v0.2 ∧ px = Num.px v0.2 ∧ (0 : Int) = (0 : Int) ∧ (0 : Int) = (0 : Int) ∧ (0 : Int) = (0 : Int)) ((0 : Int) = v0.1 ∧ w = w ∧ f = f ∧ e = e ∧ pt = pt ∧ sci = sci ∧ (span1 isDig (dropP (fun (x : Int) => x == (35 : Int)) w)) = Num.mi v0.2 ∧ (↑(List.length w) : Int) = Num.xi v0.2 ∧ (span1 isDig f) = Num.mf v0.2 ∧ (↑(List.length f) : Int) = Num.xf v0.2 ∧ ms = Num.ms v0.2 ∧ xs = Num.xs v0.2 ∧ pr = Num.pr v0.2 ∧ sc = Num.sc v0.2 ∧ Lib.trimLeftB (List.drop (Int.toNat ((span1 (fun (x : Int) => x == (35 : Int)) w))) w ++ List.take v3 f) (48 : UInt8) = Num.inc v0.2 ∧ ps = Num.ps v0.2 ∧ me = Num.me v0.2 ∧ px = Num.px v0.2 ∧ (0 : Int) = (0 : Int) ∧ (0 : Int) = (0 : Int) ∧ (0 : Int) = (0 : Int)))) ((0 : Int) = v0.1 ∧ w = w ∧ f = f ∧ e = e ∧ pt = pt ∧ sci = sci ∧ (span1 isDig (dropP (fun (x : Int) => x == (35 : Int)) w)) = Num.mi v0.2 ∧ (↑(List.length w) : Int) = Num.xi v0.2 ∧ (span1 isDig f) = Num.mf v0.2 ∧ (↑(List.length f) : Int) = Num.xf v0.2 ∧ ms = Num.ms v0.2 ∧ xs = Num.xs v0.2 ∧ pr = Num.pr v0.2 ∧ sc = Num.sc v0.2 ∧ Lib.trimLeftB (List.drop (Int.toNat ((span1 (fun (x : Int) => x == (35 : Int)) w))) w ++ List.take v3 f) (48 : UInt8) = Num.inc v0.2 ∧ ps = Num.ps v0.2 ∧ me = Num.me v0.2 ∧ px = Num.px v0.2 ∧ (0 : Int) = (0 : Int) ∧ (0 : Int) = (0 : Int) ∧ (0 : Int) = (0 : Int))) (v4 ∧ Int.toNat (0 : Int) < (2 : Nat) ∧ ((0 : Int) ≤ (span1 (fun (x : Int) => x == (35 : Int)) w) ∧ (span1 (fun (x : Int) => x == (35 : Int)) w) ≤ (↑(List.length w) : Int)) ∧ v4 ∧ Int.toNat (0 : Int) < (2 : Nat) ∧ v6 ∧ List.length (List.drop (Int.toNat ((span1 (fun (x : Int) => x == (35 : Int)) w))) w) + List.length (List.take v3 f) ≤ (9223372036854775807 : Nat) ∧ UInt8.toNat (48 : UInt8) < (128 : Nat) ∧ br (!decide (Lib.trimLeftB (List.drop (Int.toNat ((span1 (fun (x : Int) => x == (35 : Int)) w))) w ++ List.take v3 f) (48 : UInt8) = ([] : List UInt8))) (v5 ∧ Int.toNat (1 : Int) < (2 : Nat) ∧ br (decide ((span1 (fun (x : Int) => x == (35 : Int)) (dropP isDig f)) > (0 : Int))) ((6 : Int) = v0.1 ∧ w = w ∧ f = f ∧ e = e ∧ pt = pt ∧ sci = sci ∧ (span1 isDig (dropP (fun (x : Int) => x == (35 : Int)) w)) = Num.mi v0.2 ∧ xi = Num.xi v0.2 ∧ (span1 isDig f) = Num.mf v0.2 ∧ (↑(List.length f) : Int) = Num.xf v0.2 ∧ ms = Num.ms v0.2 ∧ xs = Num.xs v0.2 ∧ pr = Num.pr v0.2 ∧ sc = Num.sc v0.2 ∧ Lib.trimLeftB (List.drop (Int.toNat ((span1 (fun (x : Int) => x == (35 : Int)) w))) w ++ List.take v3 f) (48 : UInt8) = Num.inc v0.2 ∧ ps = Num.ps v0.2 ∧ me = Num.me v0.2 ∧ px = Num.px v0.2 ∧ (0 : Int) = (0 : Int) ∧ (0 : Int) = (0 : Int) ∧ (0 : Int) = (0 : Int)) (br sci ((6 : Int) = v0.1 ∧ w = w ∧ f = f ∧ e = e ∧ pt = pt ∧ sci = sci ∧ (span1 isDig (dropP (fun (x : Int) => x == (35 : Int)) w)) = Num.mi v0.2 ∧ xi = Num.xi v0.2 ∧ (span1 isDig f) = Num.mf v0.2 ∧ (↑(List.length f) : Int) = Num.xf v0.2 ∧ ms = Num.ms v0.2 ∧ xs = Num.xs v0.2 ∧ pr = Num.pr v0.2 ∧ sc = Num.sc v0.2 ∧ Lib.trimLeftB (List.drop (Int.toNat ((span1 (fun (x : Int) => x == (35 : Int)) w))) w ++ List.take v3 f) (48 : UInt8) = Num.inc v0.2 ∧ ps = Num.ps v0.2 ∧ me = Num.me v0.2 ∧ px = Num.px v0.2 ∧ (0 : Int) = (0 : Int) ∧ (0 : Int) = (0 : Int) ∧ (0 : Int) = (0 : Int)) ((0 : Int) = v0.1 ∧ w = w ∧ f = f ∧ e = e ∧ pt = pt ∧ sci = sci ∧ (span1 isDig (dropP (fun (x : Int) => x == (35 : Int)) w)) = Num.mi v0.2 ∧ xi = Num.xi v0.2 ∧ (span1 isDig f) = Num.mf v0.2 ∧ (↑(List.length f) : Int) = Num.xf v0.2 ∧ ms = Num.ms v0.2 ∧ xs = Num.xs v0.2 ∧ pr = Num.pr v0.2 ∧ sc = Num.sc v0.2 ∧ Lib.trimLeftB (List.drop (Int.toNat ((span1 (fun (x : Int) => x == (35 : Int)) w))) w ++ List.take v3 f) (48 : UInt8) = Num.inc v0.2 ∧ ps = Num.ps v0.2 ∧ me = Num.me v0.2 ∧ px = Num.px v0.2 ∧ (0 : Int) = (0 : Int) ∧ (0 : Int) = (0 : Int) ∧ (0 : Int) = (0 : Int)))) ((0 : Int) = v0.1 ∧ w = w ∧ f = f ∧ e = e ∧ pt = pt ∧ sci = sci ∧ (span1 isDig (dropP (fun (x : Int) => x == (35 : Int)) w)) = Num.mi v0.2 ∧ xi = Num.xi v0.2 ∧ (span1 isDig f) = Num.mf v0.2 ∧ (↑(List.length f) : Int) = Num.xf v0.2 ∧ ms = Num.ms v0.2 ∧ xs = Num.xs v0.2 ∧ pr = Num.pr v0.2 ∧ sc = Num.sc v0.2 ∧ Lib.trimLeftB (List.drop (Int.toNat ((span1 (fun (x : Int) => x == (35 : Int)) w))) w ++ List.take v3 f) (48 : UInt8) = Num.inc v0.2 ∧ ps = Num.ps v0.2 ∧ me = Num.me v0.2 ∧ px = Num.px v0.2 ∧ (0 : Int) = (0 : Int) ∧ (0 : Int) = (0 : Int) ∧ (0 : Int) = (0 : Int))))))))) := by kernel_rfl
set_option maxHeartbeats 4000000 in
theorem of_rcounts (h : ∀ (w f e : List UInt8) (pt sci : Bool) (mi xi mf xf ms xs pr sc : Int) (inc : List UInt8) (ps : Bool) (me : Int) (px : Bool), (Asc w ∧ Asc f) → (w.length ≤ 100000000 ∧ f.length ≤ 100000000) → vcA [(124, sp_scont), (117, sp_one), (127, sp_strim)] [(126, sp_rsignif), (116, sp_spansAB)] misc Tryz.f96 (.nil) [.one (.ptr 0 0)] [(0, some (.cells 139 [.str w, .str f, .str e, .bool pt, .bool sci, .nils, .nils, .ff, .nils, .nils, .int .i64 mi, .int .i64 xi, .int .i64 mf, .int .i64 xf, .int .i64 ms, .int .i64 xs, .int .i64 pr, .int .i64 sc, .str inc, .bool ps, .int .i64 me, .bool px, .int .i64 0, .int .i32 0, .int .i64 0]))] (.one (.int .i64 (countsT w f pt sci (⟨mi, xi, mf, xf, ms, xs, pr, sc, inc, ps, me, px⟩ : Num)).1)) [(0, some (.cells 139 (rdC w f e pt sci (countsT w f pt sci (⟨mi, xi, mf, xf, ms, xs, pr, sc, inc, ps, me, px⟩ : Num)).2)))]) : FnA 96 sp_rcounts := by
  refine fnA_ok (cs := [(124, sp_scont), (117, sp_one), (127, sp_strim)]) (cas := [(126, sp_rsignif), (116, sp_spansAB)]) (ms := misc) (.cons ok_scont (.cons ok_one (.cons ok_strim .nil))) (.cons ok_rsignif (.cons ok_spansAB .nil)) misc_ok 96 Tryz.f96 (by kernel_rfl) (by kernel_rfl) (by kernel_rfl) (fun _ _ => .nil) ?_
  intro args mem p r post hs hp
  unfold sp_rcounts at hs
  simp only at hs
  split at hs
  · rename_i w f e pt sci mi xi mf xf ms xs pr sc inc ps me px
    cases hs
    refine h w f e pt sci mi xi mf xf ms xs pr sc inc ps me px ?_ ?_
    · exact hp.1
    · exact hp.2
  · cases hs
set_option maxHeartbeats 1000000 in
theorem ok_rcounts : FnA 96 sp_rcounts := of_rcounts (by
  intro w f e pt sci mi xi mf xf ms xs pr sc inc ps me px hA hN
  rw [vc_rcounts]
  have r1 := span1_range (· == 35) w
  have r2 := span1_range isDig f
  have hl : (w.drop (span1 (· == 35) w).toNat).length + (f.take (span1 isDig f).toNat).length ≤ 9223372036854775807 := by
    rw [List.length_drop, List.length_take]; omega
  refine ⟨by omega, br_of (fun h => ?_) fun h => ⟨by omega, br_of (fun h1 => ?_) fun h1 => ⟨hA.1, by omega, hA.2, by omega, br_of (fun h2 => ?_) fun h2 => br_of (fun h3 => ?_) fun h3 => ⟨by decide, by decide, by decide, by decide, ?_⟩⟩⟩⟩
  · have hE : countsT w f pt sci (⟨mi, xi, mf, xf, ms, xs, pr, sc, inc, ps, me, px⟩ : Num) = (4, (⟨mi, xi, mf, xf, ms, xs, pr, sc, inc, ps, me, px⟩ : Num)) := by unfold countsT; rw [if_pos (of_decide_eq_true h)]
    rw [hE]; and_intros <;> rfl
  all_goals have h := of_decide_eq_false h
  · have hE : countsT w f pt sci (⟨mi, xi, mf, xf, ms, xs, pr, sc, inc, ps, me, px⟩ : Num) = signifT w pt (⟨mi, xi, mf, xf, ms, xs, pr, sc, inc, ps, me, px⟩ : Num) := by unfold countsT; rw [if_neg h, if_pos (of_decide_eq_true h1)]
    rw [hE]
    refine ⟨hA.1, hN.1, ?_⟩
    and_intros <;> rfl
  all_goals have h1 := of_decide_eq_false h1
  · have h2 : dropP isDig (dropP (· == 35) w) ≠ [] := by simpa using h2
    have hE : countsT w f pt sci (⟨mi, xi, mf, xf, ms, xs, pr, sc, inc, ps, me, px⟩ : Num) = (4, (⟨mi, xi, mf, xf, ms, xs, pr, sc, inc, ps, me, px⟩ : Num)) := by unfold countsT; rw [if_neg h, if_neg h1, if_pos (.inl h2)]
    rw [hE]; and_intros <;> rfl
  all_goals have h2 : dropP isDig (dropP (· == 35) w) = [] := by simpa using h2
  · have h3 : dropP (· == 35) (dropP isDig f) ≠ [] := by simpa using h3
    have hE : countsT w f pt sci (⟨mi, xi, mf, xf, ms, xs, pr, sc, inc, ps, me, px⟩ : Num) = (4, (⟨mi, xi, mf, xf, ms, xs, pr, sc, inc, ps, me, px⟩ : Num)) := by unfold countsT; rw [if_neg h, if_neg h1, if_pos (.inr h3)]
    rw [hE]; and_intros <;> rfl
  have h3 : dropP (· == 35) (dropP isDig f) = [] := by simpa using h3
  have hT : countsT w f pt sci (⟨mi, xi, mf, xf, ms, xs, pr, sc, inc, ps, me, px⟩ : Num) = if (countsP w f sci (⟨mi, xi, mf, xf, ms, xs, pr, sc, inc, ps, me, px⟩ : Num)).inc ≠ [] ∧ (0 < span1 (· == 35) (dropP isDig f) ∨ sci = true) then (6, countsP w f sci (⟨mi, xi, mf, xf, ms, xs, pr, sc, inc, ps, me, px⟩ : Num)) else (0, countsP w f sci (⟨mi, xi, mf, xf, ms, xs, pr, sc, inc, ps, me, px⟩ : Num)) := by
    unfold countsT; rw [if_neg h, if_neg h1, if_neg (fun h4 => h4.elim (fun h5 => h5 h2) (fun h5 => h5 h3))]
  have hI : (countsP w f sci (⟨mi, xi, mf, xf, ms, xs, pr, sc, inc, ps, me, px⟩ : Num)).inc = Lib.trimLeftB (w.drop (span1 (· == 35) w).toNat ++ f.take (span1 isDig f).toNat) 48 := rfl
  have six : (Lib.trimLeftB (w.drop (span1 (· == 35) w).toNat ++ f.take (span1 isDig f).toNat) 48 ≠ [] ∧ (0 < span1 (· == 35) (dropP isDig f) ∨ sci = true)) → countsT w f pt sci (⟨mi, xi, mf, xf, ms, xs, pr, sc, inc, ps, me, px⟩ : Num) = (6, countsP w f sci (⟨mi, xi, mf, xf, ms, xs, pr, sc, inc, ps, me, px⟩ : Num)) := fun hc => by rw [hT]; exact if_pos hc
  have nought : ¬ (Lib.trimLeftB (w.drop (span1 (· == 35) w).toNat ++ f.take (span1 isDig f).toNat) 48 ≠ [] ∧ (0 < span1 (· == 35) (dropP isDig f) ∨ sci = true)) → countsT w f pt sci (⟨mi, xi, mf, xf, ms, xs, pr, sc, inc, ps, me, px⟩ : Num) = (0, countsP w f sci (⟨mi, xi, mf, xf, ms, xs, pr, sc, inc, ps, me, px⟩ : Num)) := fun hc => by rw [hT]; exact if_neg hc
  cases hs : sci with
  | true =>
    rw [hs] at six nought
    refine ⟨by decide, by decide, r1, by decide, by decide, r2, hl, by decide, br_of (fun h4 => ⟨by decide, by decide, br_of (fun h5 => ?_) fun h5 => ?_⟩) fun h4 => ?_⟩
    · rw [six ⟨by simpa using h4, .inl (of_decide_eq_true h5)⟩]; and_intros <;> rfl
    · refine br_of (fun _ => ?_) fun h6 => by cases h6
      rw [six ⟨by simpa using h4, .inr rfl⟩]; and_intros <;> rfl
    · rw [nought (fun h5 => h5.1 (by simpa using h4))]; and_intros <;> rfl
  | false =>
    rw [hs] at six nought
    refine ⟨by decide, by decide, r1, by decide, by decide, r2, hl, by decide, br_of (fun h4 => ⟨by decide, by decide, br_of (fun h5 => ?_) fun h5 => ?_⟩) fun h4 => ?_⟩
    · rw [six ⟨by simpa using h4, .inl (of_decide_eq_true h5)⟩]; and_intros <;> rfl
    · refine br_of (fun h6 => by cases h6) fun _ => ?_
      rw [nought (fun h6 => h6.2.elim (of_decide_eq_false h5) (fun h7 => by cases h7))]; and_intros <;> rfl
    · rw [nought (fun h5 => h5.1 (by simpa using h4))]; and_intros <;> rfl)
def mixedT (w : List UInt8) (sci : Bool) (p : Num) : Int :=
  if sci = true ∧ (0 < p.pr ∨ 0 < p.ms ∧ bAt w 0 = 35) then 6
  else if 40 < max p.mi (max p.xi (max p.xf (max p.xs (max p.pr (max p.sc p.inc.length))))) then 8
  else 0
def sp_rmixed : ASpec := ⟨fun | [.one (.ptr 0 0)], [(0, some (.cells 139 [.str w, .str f, .str e, .bool pt, .bool sci, .nils, .nils, .ff, .nils, .nils, .int .i64 mi, .int .i64 xi, .int .i64 mf, .int .i64 xf, .int .i64 ms, .int .i64 xs, .int .i64 pr, .int .i64 sc, .str inc, .bool ps, .int .i64 me, .bool px, .int .i64 0, .int .i32 0, .int .i64 0]))] => some ([0 < ms → w ≠ []], .one (.int .i64 (mixedT w sci (⟨mi, xi, mf, xf, ms, xs, pr, sc, inc, ps, me, px⟩ : Num))), [(0, some (.cells 139 (rdC w f e pt sci (⟨mi, xi, mf, xf, ms, xs, pr, sc, inc, ps, me, px⟩ : Num))))]) | _, _ => none⟩
theorem vc_rmixed (w f e : List UInt8) (pt sci : Bool) (mi xi mf xf ms xs pr sc : Int) (inc : List UInt8) (ps : Bool) (me : Int) (px : Bool) : vcA [] [] misc Tryz.f97 (.nil) [.one (.ptr 0 0)] [(0, some (.cells 139 [.str w, .str f, .str e, .bool pt, .bool sci, .nils, .nils, .ff, .nils, .nils, .int .i64 mi, .int .i64 xi, .int .i64 mf, .int .i64 xf, .int .i64 ms, .int .i64 xs, .int .i64 pr, .int .i64 sc, .str inc, .bool ps, .int .i64 me, .bool px, .int .i64 0, .int .i32 0, .int .i64 0]))] (.one (.int .i64 (mixedT w sci (⟨mi, xi, mf, xf, ms, xs, pr, sc, inc, ps, me, px⟩ : Num)))) [(0, some (.cells 139 (rdC w f e pt sci (⟨mi, xi, mf, xf, ms, xs, pr, sc, inc, ps, me, px⟩ : Num))))] = (letI v0 := (br (decide (List.foldl (mnx true) mi [xi, xf, xs, pr, sc, (↑(List.length inc) : Int)] > (40 : Int))) ((8 : Int) = mixedT w sci { mi := mi, xi := xi, mf := mf, xf := xf, ms := ms, xs := xs, pr := pr, sc := sc, inc := inc, ps := ps, me := me, px := px } ∧ w = w ∧ f = f ∧ e = e ∧ pt = pt ∧ sci = sci ∧ mi = Num.mi { mi := mi, xi := xi, mf := mf, xf := xf, ms := ms, xs := xs, pr := pr, sc := sc, inc := inc, ps := ps, me := me, px := px } ∧ xi = Num.xi { mi := mi, xi := xi, mf := mf, xf := xf, ms := ms, xs := xs, pr := pr, sc := sc, inc := inc, ps := ps, me := me, px := px } ∧ mf = Num.mf { mi := mi, xi := xi, mf := mf, xf := xf, ms := ms, xs := xs, pr := pr, sc := sc, inc := inc, ps := ps, me := me, px := px } ∧ xf = Num.xf { mi := mi, xi := xi, mf := mf, xf := xf, ms := ms, xs := xs, pr := pr, sc := sc, inc := inc, ps := ps, me := me, px := px } ∧ ms = Num.ms { mi := mi, xi := xi, mf := mf, xf := xf, ms := ms, xs := xs, pr := pr, sc := sc, inc := inc, ps := ps, me := me, px := px } ∧ xs = Num.xs { mi := mi, xi := xi, mf := mf, xf := xf, ms := ms, xs := xs, pr := pr, sc := sc, inc := inc, ps := ps, me := me, px := px } ∧ pr = Num.pr { mi := mi, xi := xi, mf := mf, xf := xf, ms := ms, xs := xs, pr := pr, sc := sc, inc := inc, ps := ps, me := me, px := px } ∧ sc = Num.sc { mi := mi, xi := xi, mf := mf, xf := xf, ms := ms, xs := xs, pr := pr, sc := sc, inc := inc, ps := ps, me := me, px := px } ∧ inc = Num.inc { mi := mi, xi := xi, mf := mf, xf := xf, ms := ms, xs := xs, pr := pr, sc := sc, inc := inc, ps := ps, me := me, px := px } ∧ ps = Num.ps { mi := mi, xi := xi, mf := mf, xf := xf, ms := ms, xs := xs, pr := pr, sc := sc, inc := inc, ps := ps, me := me, px := px } ∧ me = Num.me { mi := mi, xi := xi, mf := mf, xf := xf, ms := ms, xs := xs, pr := pr, sc := sc, inc := inc, ps := ps, me := me, px := px } ∧ px = Num.px { mi := mi, xi := xi, mf := mf, xf := xf, ms := ms, xs := xs, pr := pr, sc := sc, inc := inc, ps := ps, me := me, px := px } ∧ (0 : Int) = (0 : Int) ∧ (0 : Int) = (0 : Int) ∧ (0 : Int) = (0 : Int)) ((0 : Int) = mixedT w sci { mi := mi, xi := xi, mf := mf, xf := xf, ms := ms, xs := xs, pr := pr, sc := sc, inc := inc, ps := ps, me := me, px := px } ∧ w = w ∧ f = f ∧ e = e ∧ pt = pt ∧ sci = sci ∧ mi = Num.mi { mi := mi, xi := xi, mf := mf, xf := xf, ms := ms, xs := xs, pr := pr, sc := sc, inc := inc, ps := ps, me := me, px := px } ∧ xi = Num.xi { mi := mi, xi := xi, mf := mf, xf := xf, ms := ms, xs := xs, pr := pr, sc := sc, inc := inc, ps := ps, me := me, px := px } ∧ mf = Num.mf { mi := mi, xi := xi, mf := mf, xf := xf, ms := ms, xs := xs, pr := pr, sc := sc, inc := inc, ps := ps, me := me, px := px } ∧ xf = Num.xf { mi := mi, xi := xi, mf := mf, xf := xf, ms := ms, xs := xs, pr := pr, sc := sc, inc := inc, ps := ps, me := me, px := px } ∧ ms = Num.ms { mi := mi, xi := xi, mf := mf, xf := xf, ms := ms, xs := xs, pr := pr, sc := sc, inc := inc, ps := ps, me := me, px := px } ∧ xs = Num.xs { mi := mi, xi := xi, mf := mf, xf := xf, ms := ms, xs := xs, pr := pr, sc := sc, inc := inc, ps := ps, me := me, px := px } ∧ pr = Num.pr { mi := mi, xi := xi, mf := mf, xf := xf, ms := ms, xs := xs, pr := pr, sc := sc, inc := inc, ps := ps, me := me, px := px } ∧ sc = Num.sc { mi := mi, xi := xi, mf := mf, xf := xf, ms := ms, xs := xs, pr := pr, sc := sc, inc := inc, ps := ps, me := me, px := px } ∧ inc = Num.inc { mi := mi, xi := xi, mf := mf, xf := xf, ms := ms, xs := xs, pr := pr, sc := sc, inc := inc, ps := ps, me := me, px := px } ∧ ps = Num.ps { mi := mi, xi := xi, mf := mf, xf := xf, ms := ms, xs := xs, pr := pr, sc := sc, inc := inc, ps := ps, me := me, px := px } ∧ me = Num.me { mi := mi, xi := xi, mf := mf, xf := xf, ms := ms, xs := xs, pr := pr, sc := sc, inc := inc, ps := ps, me := me, px := px } ∧ px = Num.px { mi := mi, xi := xi, mf := mf, xf := xf, ms := ms, xs := xs, pr := pr, sc := sc, inc := inc, ps := ps, me := me, px := px } ∧ (0 : Int) = (0 : Int) ∧ (0 : Int) = (0 : Int) ∧ (0 : Int) = (0 : Int))); letI v1 := ((6 : Int) = mixedT w sci { mi := mi, xi := xi, mf := mf, xf := xf, ms := ms, xs := xs, pr := pr, sc := sc, inc := inc, ps := ps, me := me, px := px } ∧ w = w ∧ f = f ∧ e = e ∧ pt = pt ∧ sci = sci ∧ mi = Num.mi { mi := mi, xi := xi, mf := mf, xf := xf, ms := ms, xs := xs, pr := pr, sc := sc, inc := inc, ps := ps, me := me, px := px } ∧ xi = Num.xi { mi := mi, xi := xi, mf := mf, xf := xf, ms := ms, xs := xs, pr := pr, sc := sc, inc := inc, ps := ps, me := me, px := px } ∧ mf = Num.mf { mi := mi, xi := xi, mf := mf, xf := xf, ms := ms, xs := xs, pr := pr, sc := sc, inc := inc, ps := ps, me := me, px := px } ∧ xf = Num.xf { mi := mi, xi := xi, mf := mf, xf := xf, ms := ms, xs := xs, pr := pr, sc := sc, inc := inc, ps := ps, me := me, px := px } ∧ ms = Num.ms { mi := mi, xi := xi, mf := mf, xf := xf, ms := ms, xs := xs, pr := pr, sc := sc, inc := inc, ps := ps, me := me, px := px } ∧ xs = Num.xs { mi := mi, xi := xi, mf := mf, xf := xf, ms := ms, xs := xs, pr := pr, sc := sc, inc := inc, ps := ps, me := me, px := px } ∧ pr = Num.pr { mi := mi, xi := xi, mf := mf, xf := xf, ms := ms, xs := xs, pr := pr, sc := sc, inc := inc, ps := ps, me := me, px := px } ∧ sc = Num.sc { mi := mi, xi := xi, mf := mf, xf := xf, ms := ms, xs := xs, pr := pr, sc := sc, inc := inc, ps := ps, me := me, px := px } ∧ inc = Num.inc { mi := mi, xi := xi, mf := mf, xf := xf, ms := ms, xs := xs, pr := pr, sc := sc, inc := inc, ps := ps, me := me, px := px } ∧ ps = Num.ps { mi := mi, xi := xi, mf := mf, xf := xf, ms := ms, xs := xs, pr := pr, sc := sc, inc := inc, ps := ps, me := me, px := px } ∧ me = Num.me { mi := mi, xi := xi, mf := mf, xf := xf, ms := ms, xs := xs, pr := pr, sc := sc, inc := inc, ps := ps, me := me, px := px } ∧ px = Num.px { mi := mi, xi := xi, mf := mf, xf := xf, ms := ms, xs := xs, pr := pr, sc := sc, inc := inc, ps := ps, me := me, px := px } ∧ (0 : Int) = (0 : Int) ∧ (0 : Int) = (0 : Int) ∧ (0 : Int) = (0 : Int)); (br sci (br (decide (pr > (0 : Int))) v1 (br (decide (ms > (0 : Int))) (((0 : Int) ≤ (0 : Int) ∧ (0 : Int) < (↑(List.length w) : Int)) ∧ br (bAt w (0 : Int) == (35 : Int)) v1 v0) v0)) v0)) := by kernel_rfl
set_option maxHeartbeats 4000000 in
theorem of_rmixed (h : ∀ (w f e : List UInt8) (pt sci : Bool) (mi xi mf xf ms xs pr sc : Int) (inc : List UInt8) (ps : Bool) (me : Int) (px : Bool), (0 < ms → w ≠ []) → vcA [] [] misc Tryz.f97 (.nil) [.one (.ptr 0 0)] [(0, some (.cells 139 [.str w, .str f, .str e, .bool pt, .bool sci, .nils, .nils, .ff, .nils, .nils, .int .i64 mi, .int .i64 xi, .int .i64 mf, .int .i64 xf, .int .i64 ms, .int .i64 xs, .int .i64 pr, .int .i64 sc, .str inc, .bool ps, .int .i64 me, .bool px, .int .i64 0, .int .i32 0, .int .i64 0]))] (.one (.int .i64 (mixedT w sci (⟨mi, xi, mf, xf, ms, xs, pr, sc, inc, ps, me, px⟩ : Num)))) [(0, some (.cells 139 (rdC w f e pt sci (⟨mi, xi, mf, xf, ms, xs, pr, sc, inc, ps, me, px⟩ : Num))))]) : FnA 97 sp_rmixed := by
  refine fnA_ok (cs := []) (cas := []) (ms := misc) .nil .nil misc_ok 97 Tryz.f97 (by kernel_rfl) (by kernel_rfl) (by kernel_rfl) (fun _ _ => .nil) ?_
  intro args mem p r post hs hp
  unfold sp_rmixed at hs
  simp only at hs
  split at hs
  · rename_i w f e pt sci mi xi mf xf ms xs pr sc inc ps me px
    cases hs
    refine h w f e pt sci mi xi mf xf ms xs pr sc inc ps me px ?_
    · exact hp
  · cases hs
theorem max7 (a b c d e f g : Int) : List.foldl (mnx true) a [b, c, d, e, f, g] = max a (max b (max c (max d (max e (max f g))))) := by
  simp only [List.foldl, mnx]
  simp
  omega
theorem ok_rmixed : FnA 97 sp_rmixed := of_rmixed (by
  intro w f e pt sci mi xi mf xf ms xs pr sc inc ps me px hw
  rw [vc_rmixed, max7]
  have six : (sci = true ∧ (0 < pr ∨ 0 < ms ∧ bAt w 0 = 35)) → mixedT w sci (⟨mi, xi, mf, xf, ms, xs, pr, sc, inc, ps, me, px⟩ : Num) = 6 := fun h => by unfold mixedT; rw [if_pos h]
  have eight : ¬ (sci = true ∧ (0 < pr ∨ 0 < ms ∧ bAt w 0 = 35)) → decide (max mi (max xi (max xf (max xs (max pr (max sc (inc.length : Int)))))) > 40) = true → mixedT w sci (⟨mi, xi, mf, xf, ms, xs, pr, sc, inc, ps, me, px⟩ : Num) = 8 := fun h h1 => by unfold mixedT; rw [if_neg h, if_pos (of_decide_eq_true h1)]
  have nought : ¬ (sci = true ∧ (0 < pr ∨ 0 < ms ∧ bAt w 0 = 35)) → decide (max mi (max xi (max xf (max xs (max pr (max sc (inc.length : Int)))))) > 40) = false → mixedT w sci (⟨mi, xi, mf, xf, ms, xs, pr, sc, inc, ps, me, px⟩ : Num) = 0 := fun h h1 => by unfold mixedT; rw [if_neg h, if_neg (of_decide_eq_false h1)]
  refine br_of (fun h => br_of (fun h1 => ?_) fun h1 => br_of (fun h2 => ⟨?_, br_of (fun h3 => ?_) fun h3 => br_of (fun h4 => ?_) fun h4 => ?_⟩) fun h2 => br_of (fun h4 => ?_) fun h4 => ?_) fun h => br_of (fun h4 => ?_) fun h4 => ?_
  · rw [six ⟨h, .inl (of_decide_eq_true h1)⟩]; and_intros <;> rfl
  · have := List.length_pos_iff.2 (hw (of_decide_eq_true h2))
    exact ⟨by decide, by omega⟩
  · rw [six ⟨h, .inr ⟨of_decide_eq_true h2, eq_of_beq h3⟩⟩]; and_intros <;> rfl
  · rw [eight (fun h5 => h5.2.elim (of_decide_eq_false h1) (fun h6 => by rw [h6.2] at h3; cases h3)) h4]; and_intros <;> rfl
  · rw [nought (fun h5 => h5.2.elim (of_decide_eq_false h1) (fun h6 => by rw [h6.2] at h3; cases h3)) h4]; and_intros <;> rfl
  · rw [eight (fun h5 => h5.2.elim (of_decide_eq_false h1) (fun h6 => of_decide_eq_false h2 h6.1)) h4]; and_intros <;> rfl
  · rw [nought (fun h5 => h5.2.elim (of_decide_eq_false h1) (fun h6 => of_decide_eq_false h2 h6.1)) h4]; and_intros <;> rfl
  · rw [eight (fun h5 => by rw [h] at h5; cases h5.1) h4]; and_intros <;> rfl
  · rw [nought (fun h5 => by rw [h] at h5; cases h5.1) h4]; and_intros <;> rfl)
end Go.Proofs.YtglfkihckkjniaaGreatDoor.Vx
namespace Go.Proofs.YtglfkihckkjniaaGreatDoor.Vx
open Go Go.RowKit
def z0 : Num := ⟨0, 0, 0, 0, 0, 0, 0, 0, [], false, 0, false⟩
structure RS where
  c : Int
  w : List UInt8
  f : List UInt8
  pt : Bool
  p : Num
def numB (s : List UInt8) : List UInt8 := (Lib.cut s [69]).1
def numX (s : List UInt8) : List UInt8 := (Lib.cut s [69]).2.1
def numS (s : List UInt8) : Bool := (Lib.cut s [69]).2.2
def rs1 (s : List UInt8) : RS := ⟨(expT (numX s) (numS s) z0).1, [], [], false, (expT (numX s) (numS s) z0).2⟩
def rs2 (s : List UInt8) : RS := if (rs1 s).c = 0 then ⟨(partsT (numB s) [] [] false).1, (partsT (numB s) [] [] false).2.1, (partsT (numB s) [] [] false).2.2.1, (partsT (numB s) [] [] false).2.2.2, (rs1 s).p⟩ else rs1 s
def rs3 (s : List UInt8) : RS := if (rs2 s).c = 0 then ⟨(groupsT (rs2 s).w (rs2 s).f (rs2 s).p).1, (groupsT (rs2 s).w (rs2 s).f (rs2 s).p).2.1, (rs2 s).f, (rs2 s).pt, (groupsT (rs2 s).w (rs2 s).f (rs2 s).p).2.2⟩ else rs2 s
def rs4 (s : List UInt8) : RS := if (rs3 s).c = 0 then ⟨(countsT (rs3 s).w (rs3 s).f (rs3 s).pt (numS s) (rs3 s).p).1, (rs3 s).w, (rs3 s).f, (rs3 s).pt, (countsT (rs3 s).w (rs3 s).f (rs3 s).pt (numS s) (rs3 s).p).2⟩ else rs3 s
def rs5 (s : List UInt8) : RS := if (rs4 s).c = 0 then ⟨mixedT (rs4 s).w (numS s) (rs4 s).p, (rs4 s).w, (rs4 s).f, (rs4 s).pt, (rs4 s).p⟩ else rs4 s
def rsN (s : List UInt8) : Nat → RS
  | 0 => rs2 s
  | 1 => rs3 s
  | 2 => rs4 s
  | _ => rs5 s
def numT (s : List UInt8) : Num × Int := if (rs5 s).c = 0 then ((rs5 s).p, 0) else (z0, (rs5 s).c)
def Num.pcs (p : Num) : List Pc := [.rd (.items []), .rd (.items []), .bool false, .rd (.items []), .rd (.items []), .int .i64 p.mi, .int .i64 p.xi, .int .i64 p.mf, .int .i64 p.xf, .int .i64 p.ms, .int .i64 p.xs, .int .i64 p.pr, .int .i64 p.sc, .str p.inc, .bool p.ps, .int .i64 p.me, .bool p.px, .int .i64 0, .int .i32 0, .int .i64 0]
def RS.mem (r : RS) (s : List UInt8) : List (Nat × Option SB) := [(16, some (.cells 139 (rdC r.w r.f (numX s) r.pt (numS s) r.p))), (17, some (.cells 25 z0.sc'))]
def ann10 (s : List UInt8) : Ann :=
  .cut 3 Unit (fun _ => ⟨[(0, .one (.str (numB s))), (2, .one (.ptr 17 0)), (4, .one (.ptr 16 0))], (⟨0, [], [], false, z0⟩ : RS).mem s, 18⟩)
    (fun _ => .cut 4 Unit (fun _ => ⟨[(0, .one (.str (numB s))), (2, .one (.ptr 17 0)), (4, .one (.ptr 16 0)), (5, .one (.int .i64 (rs1 s).c))], (rs1 s).mem s, 18⟩)
      (fun _ => .cut 6 Unit (fun _ => ⟨[(2, .one (.ptr 17 0)), (4, .one (.ptr 16 0)), (5, .one (.int .i64 (rs2 s).c))], (rs2 s).mem s, 18⟩)
        (fun _ => .turns 7 4 (fun i => .cut 11 Unit (fun _ => ⟨[(2, .one (.ptr 17 0)), (4, .one (.ptr 16 0)), (5, .one (.int .i64 (rsN s (i + 1)).c)), (29, .one (.slc 18)), (30, .one (.int .i64 3)), (31, .one (.int .i64 i))], (rsN s (i + 1)).mem s ++ [(18, some (.lit 143 3 [.fn 95 [], .fn 96 [], .fn 97 []]))], 19⟩) (fun _ => .nil) .nil)
          .nil) .nil) .nil) .nil
def sp_nparse : FSpec := ⟨[], fun | [.one (.str s)] => some ([Asc s, s.length ≤ 100000000], .tup [(true, (numT s).1.pcs), (false, [.int .i64 (numT s).2])]) | _ => none⟩
theorem vc_nparse (s : List UInt8) : vcP [(92, sp_scut)] [(93, sp_rexp), (94, sp_rparts), (95, sp_rgroups), (96, sp_rcounts), (97, sp_rmixed)] misc Tryz.f67 (ann10 s) [.one (.str s)] (.tup [(true, (numT s).1.pcs), (false, [.int .i64 (numT s).2])]) = (letI v0 := (countsT (RS.w (rsN s ((0 : Nat) + (1 : Nat)))) (RS.f (rsN s ((0 : Nat) + (1 : Nat)))) (RS.pt (rsN s ((0 : Nat) + (1 : Nat)))) (numS s) { mi := Num.mi (RS.p (rsN s ((0 : Nat) + (1 : Nat)))), xi := Num.xi (RS.p (rsN s ((0 : Nat) + (1 : Nat)))), mf := Num.mf (RS.p (rsN s ((0 : Nat) + (1 : Nat)))), xf := Num.xf (RS.p (rsN s ((0 : Nat) + (1 : Nat)))), ms := Num.ms (RS.p (rsN s ((0 : Nat) + (1 : Nat)))), xs := Num.xs (RS.p (rsN s ((0 : Nat) + (1 : Nat)))), pr := Num.pr (RS.p (rsN s ((0 : Nat) + (1 : Nat)))), sc := Num.sc (RS.p (rsN s ((0 : Nat) + (1 : Nat)))), inc := Num.inc (RS.p (rsN s ((0 : Nat) + (1 : Nat)))), ps := Num.ps (RS.p (rsN s ((0 : Nat) + (1 : Nat)))), me := Num.me (RS.p (rsN s ((0 : Nat) + (1 : Nat)))), px := Num.px (RS.p (rsN s ((0 : Nat) + (1 : Nat)))) }); letI v1 := (RS.p (rsN s ((0 : Nat) + (1 : Nat) + (1 : Nat)))); letI v2 := (groupsT (RS.w (rs2 s)) (RS.f (rs2 s)) { mi := Num.mi (RS.p (rs2 s)), xi := Num.xi (RS.p (rs2 s)), mf := Num.mf (RS.p (rs2 s)), xf := Num.xf (RS.p (rs2 s)), ms := Num.ms (RS.p (rs2 s)), xs := Num.xs (RS.p (rs2 s)), pr := Num.pr (RS.p (rs2 s)), sc := Num.sc (RS.p (rs2 s)), inc := Num.inc (RS.p (rs2 s)), ps := Num.ps (RS.p (rs2 s)), me := Num.me (RS.p (rs2 s)), px := Num.px (RS.p (rs2 s)) }); letI v3 := (rsN s ((0 : Nat) + (1 : Nat) + (1 : Nat) + (1 : Nat))); letI v4 := (rsN s ((0 : Nat) + (1 : Nat))); letI v5 := (rsN s ((0 : Nat) + (1 : Nat) + (1 : Nat))); letI v6 := (partsT (numB s) (RS.w (rs1 s)) (RS.f (rs1 s)) (RS.pt (rs1 s))); letI v7 := (↑((0 : Nat) + (1 : Nat)) : Int); letI v8 := (↑((0 : Nat) + (1 : Nat) + (1 : Nat)) : Int); letI v9 := (Lib.cut s (([(69 : UInt8)] : List UInt8))); ((List.length s ≤ (1000000000 : Nat) ∧ ∃ (j : Unit), v9.1 = numB s ∧ ([] = RS.w { c := (0 : Int), w := [], f := [], pt := false, p := z0 } ∧ [] = RS.f { c := (0 : Int), w := [], f := [], pt := false, p := z0 } ∧ v9.2.1 = numX s ∧ false = RS.pt { c := (0 : Int), w := [], f := [], pt := false, p := z0 } ∧ v9.2.2 = numS s ∧ (0 : Int) = Num.mi (RS.p { c := (0 : Int), w := [], f := [], pt := false, p := z0 }) ∧ (0 : Int) = Num.xi (RS.p { c := (0 : Int), w := [], f := [], pt := false, p := z0 }) ∧ (0 : Int) = Num.mf (RS.p { c := (0 : Int), w := [], f := [], pt := false, p := z0 }) ∧ (0 : Int) = Num.xf (RS.p { c := (0 : Int), w := [], f := [], pt := false, p := z0 }) ∧ (0 : Int) = Num.ms (RS.p { c := (0 : Int), w := [], f := [], pt := false, p := z0 }) ∧ (0 : Int) = Num.xs (RS.p { c := (0 : Int), w := [], f := [], pt := false, p := z0 }) ∧ (0 : Int) = Num.pr (RS.p { c := (0 : Int), w := [], f := [], pt := false, p := z0 }) ∧ (0 : Int) = Num.sc (RS.p { c := (0 : Int), w := [], f := [], pt := false, p := z0 }) ∧ [] = Num.inc (RS.p { c := (0 : Int), w := [], f := [], pt := false, p := z0 }) ∧ false = Num.ps (RS.p { c := (0 : Int), w := [], f := [], pt := false, p := z0 }) ∧ (0 : Int) = Num.me (RS.p { c := (0 : Int), w := [], f := [], pt := false, p := z0 }) ∧ false = Num.px (RS.p { c := (0 : Int), w := [], f := [], pt := false, p := z0 }) ∧ (0 : Int) = (0 : Int) ∧ (0 : Int) = (0 : Int) ∧ (0 : Int) = (0 : Int)) ∧ (0 : Int) = Num.mi z0 ∧ (0 : Int) = Num.xi z0 ∧ (0 : Int) = Num.mf z0 ∧ (0 : Int) = Num.xf z0 ∧ (0 : Int) = Num.ms z0 ∧ (0 : Int) = Num.xs z0 ∧ (0 : Int) = Num.pr z0 ∧ (0 : Int) = Num.sc z0 ∧ [] = Num.inc z0 ∧ false = Num.ps z0 ∧ (0 : Int) = Num.me z0 ∧ false = Num.px z0 ∧ (0 : Int) = (0 : Int) ∧ (0 : Int) = (0 : Int) ∧ (0 : Int) = (0 : Int)) ∧ ∀ (j : Unit), ((∀ (c : UInt8), c ∈ numX s → UInt8.toNat c < (128 : Nat)) ∧ List.length (numX s) ≤ (1000000000 : Nat) ∧ ∃ (j : Unit), numB s = numB s ∧ (expT (numX s) (numS s) { mi := Num.mi (RS.p { c := (0 : Int), w := [], f := [], pt := false, p := z0 }), xi := Num.xi (RS.p { c := (0 : Int), w := [], f := [], pt := false, p := z0 }), mf := Num.mf (RS.p { c := (0 : Int), w := [], f := [], pt := false, p := z0 }), xf := Num.xf (RS.p { c := (0 : Int), w := [], f := [], pt := false, p := z0 }), ms := Num.ms (RS.p { c := (0 : Int), w := [], f := [], pt := false, p := z0 }), xs := Num.xs (RS.p { c := (0 : Int), w := [], f := [], pt := false, p := z0 }), pr := Num.pr (RS.p { c := (0 : Int), w := [], f := [], pt := false, p := z0 }), sc := Num.sc (RS.p { c := (0 : Int), w := [], f := [], pt := false, p := z0 }), inc := Num.inc (RS.p { c := (0 : Int), w := [], f := [], pt := false, p := z0 }), ps := Num.ps (RS.p { c := (0 : Int), w := [], f := [], pt := false, p := z0 }), me := Num.me (RS.p { c := (0 : Int), w := [], f := [], pt := false, p := z0 }), px := Num.px (RS.p { c := (0 : Int), w := [], f := [], pt := false, p := z0 }) }).1 = RS.c (rs1 s) ∧ (RS.w { c := (0 : Int), w := [], f := [], pt := false, p := z0 } = RS.w (rs1 s) ∧ RS.f { c := (0 : Int), w := [], f := [], pt := false, p := z0 } = RS.f (rs1 s) ∧ numX s = numX s ∧ RS.pt { c := (0 : Int), w := [], f := [], pt := false, p := z0 } = RS.pt (rs1 s) ∧ numS s = numS s ∧ Num.mi (expT (numX s) (numS s) { mi := Num.mi (RS.p { c := (0 : Int), w := [], f := [], pt := false, p := z0 }), xi := Num.xi (RS.p { c := (0 : Int), w := [], f := [], pt := false, p := z0 }), mf := Num.mf (RS.p { c := (0 : Int), w := [], f := [], pt := false, p := z0 }), xf := Num.xf (RS.p { c := (0 : Int), w := [], f := [], pt := false, p := z0 }), ms := Num.ms (RS.p { c := (0 : Int), w := [], f := [], pt := false, p := z0 }), xs := Num.xs (RS.p { c := (0 : Int), w := [], f := [], pt := false, p := z0 }), pr := Num.pr (RS.p { c := (0 : Int), w := [], f := [], pt := false, p := z0 }), sc := Num.sc (RS.p { c := (0 : Int), w := [], f := [], pt := false, p := z0 }), inc := Num.inc (RS.p { c := (0 : Int), w := [], f := [], pt := false, p := z0 }), ps := Num.ps (RS.p { c := (0 : Int), w := [], f := [], pt := false, p := z0 }), me := Num.me (RS.p { c := (0 : Int), w := [], f := [], pt := false, p := z0 }), px := Num.px (RS.p { c := (0 : Int), w := [], f := [], pt := false, p := z0 }) }).2 = Num.mi (RS.p (rs1 s)) ∧ Num.xi (expT (numX s) (numS s) { mi := Num.mi (RS.p { c := (0 : Int), w := [], f := [], pt := false, p := z0 }), xi := Num.xi (RS.p { c := (0 : Int), w := [], f := [], pt := false, p := z0 }), mf := Num.mf (RS.p { c := (0 : Int), w := [], f := [], pt := false, p := z0 }), xf := Num.xf (RS.p { c := (0 : Int), w := [], f := [], pt := false, p := z0 }), ms := Num.ms (RS.p { c := (0 : Int), w := [], f := [], pt := false, p := z0 }), xs := Num.xs (RS.p { c := (0 : Int), w := [], f := [], pt := false, p := z0 }), pr := Num.pr (RS.p { c := (0 : Int), w := [], f := [], pt := false, p := z0 }), sc := Num.sc (RS.p { c := (0 : Int), w := [], f := [], pt := false, p := z0 }), inc := Num.inc (RS.p { c := (0 : Int), w := [], f := [], pt := false, p := z0 }), ps := Num.ps (RS.p { c := (0 : Int), w := [], f := [], pt := false, p := z0 }), me := Num.me (RS.p { c := (0 : Int), w := [], f := [], pt := false, p := z0 }), px := Num.px (RS.p { c := (0 : Int), w := [], f := [], pt := false, p := z0 }) }).2 = Num.xi (RS.p (rs1 s)) ∧ Num.mf (expT (numX s) (numS s) { mi := Num.mi (RS.p { c := (0 : Int), w := [], f := [], pt := false, p := z0 }), xi := Num.xi (RS.p { c := (0 : Int), w := [], f := [], pt := false, p := z0 }), mf := Num.mf (RS.p { c := (0 : Int), w := [], f := [], pt := false, p := z0 }), xf := Num.xf (RS.p { c := (0 : Int), w := [], f := [], pt := false, p := z0 }), ms := Num.ms (RS.p { c := (0 : Int), w := [], f := [], pt := false, p := z0 }), xs := Num.xs (RS.p { c := (0 : Int), w := [], f := [], pt := false, p := z0 }), pr := Num.pr (RS.p { c := (0 : Int), w := [], f := [], pt := false, p := z0 }), sc := Num.sc (RS.p { c := (0 : Int), w := [], f := [], pt := false, p := z0 }), inc := Num.inc (RS.p { c := (0 : Int), w := [], f := [], pt := false, p := z0 }), ps := Num.ps (RS.p { c := (0 : Int), w := [], f := [], pt := false, p := z0 }), me := Num.me (RS.p { c := (0 : Int), w := [], f := [], pt := false, p := z0 }), px := Num.px (RS.p { c := (0 : Int), w := [], f := [], pt := false, p := z0 }) }).2 = Num.mf (RS.p (rs1 s)) ∧ Num.xf (expT (numX s) (numS s) { mi := Num.mi (RS.p { c := (0 : Int), w := [], f := [], pt := false, p := z0 }), xi := Num.xi (RS.p { c := (0 : Int), w := [], f := [], pt := false, p := z0 }), mf := Num.mf (RS.p { c := (0 : Int), w := [], f := [], pt := false, p := z0 }), xf := Num.xf (RS.p { c := (0 : Int), w := [], f := [], pt := false, p := z0 }), ms := Num.ms (RS.p { c := (0 : Int), w := [], f := [], pt := false, p := z0 }), xs := Num.xs (RS.p { c := (0 : Int), w := [], f := [], pt := false, p := z0 }), pr := Num.pr (RS.p { c := (0 : Int), w := [], f := [], pt := false, p := z0 }), sc := Num.sc (RS.p { c := (0 : Int), w := [], f := [], pt := false, p := z0 }), inc := Num.inc (RS.p { c := (0 : Int), w := [], f := [], pt := false, p := z0 }), ps := Num.ps (RS.p { c := (0 : Int), w := [], f := [], pt := false, p := z0 }), me := Num.me (RS.p { c := (0 : Int), w := [], f := [], pt := false, p := z0 }), px := Num.px (RS.p { c := (0 : Int), w := [], f := [], pt := false, p := z0 }) }).2 = Num.xf (RS.p (rs1 s)) ∧ Num.ms (expT (numX s) (numS s) { mi := Num.mi (RS.p { c := (0 : Int), w := [], f := [], pt := false, p := z0 }), xi := Num.xi (RS.p { c := (0 : Int), w := [], f := [], pt := false, p := z0 }), mf := Num.mf (RS.p { c := (0 : Int), w := [], f := [], pt := false, p := z0 }), xf := Num.xf (RS.p { c := (0 : Int), w := [], f := [], pt := false, p := z0 }), ms := Num.ms (RS.p { c := (0 : Int), w := [], f := [], pt := false, p := z0 }), xs := Num.xs (RS.p { c := (0 : Int), w := [], f := [], pt := false, p := z0 }), pr := Num.pr (RS.p { c := (0 : Int), w := [], f := [], pt := false, p := z0 }), sc := Num.sc (RS.p { c := (0 : Int), w := [], f := [], pt := false, p := z0 }), inc := Num.inc (RS.p { c := (0 : Int), w := [], f := [], pt := false, p := z0 }), ps := Num.ps (RS.p { c := (0 : Int), w := [], f := [], pt := false, p := z0 }), me := Num.me (RS.p { c := (0 : Int), w := [], f := [], pt := false, p := z0 }), px := Num.px (RS.p { c := (0 : Int), w := [], f := [], pt := false, p := z0 }) }).2 = Num.ms (RS.p (rs1 s)) ∧ Num.xs (expT (numX s) (numS s) { mi := Num.mi (RS.p { c := (0 : Int), w := [], f := [], pt := false, p := z0 }), xi := Num.xi (RS.p { c := (0 : Int), w := [], f := [], pt := false, p := z0 }), mf := Num.mf (RS.p { c := (0 : Int), w := [], f := [], pt := false, p := z0 }), xf := Num.xf (RS.p { c := (0 : Int), w := [], f := [], pt := false, p := z0 }), ms := Num.ms (RS.p { c := (0 : Int), w := [], f := [], pt := false, p := z0 }), xs := Num.xs (RS.p { c := (0 : Int), w := [], f := [], pt := false, p := z0 }), pr := Num.pr (RS.p { c := (0 : Int), w := [], f := [], pt := false, p := z0 }), sc := Num.sc (RS.p { c := (0 : Int), w := [], f := [], pt := false, p := z0 }), inc := Num.inc (RS.p { c := (0 : Int), w := [], f := [], pt := false, p := z0 }), ps := Num.ps (RS.p { c := (0 : Int), w := [], f := [], pt := false, p := z0 }), me := Num.me (RS.p { c := (0 : Int), w := [], f := [], pt := false, p := z0 }), px := Num.px (RS.p { c := (0 : Int), w := [], f := [], pt := false, p := z0 }) }).2 = Num.xs (RS.p (rs1 s)) ∧ Num.pr (expT (numX s) (numS s) { mi := Num.mi (RS.p { c := (0 : Int), w := [], f := [], pt := false, p := z0 }), xi := Num.xi (RS.p { c := (0 : Int), w := [], f := [], pt := false, p := z0 }), mf := Num.mf (RS.p { c := (0 : Int), w := [], f := [], pt := false, p := z0 }), xf := Num.xf (RS.p { c := (0 : Int), w := [], f := [], pt := false, p := z0 }), ms := Num.ms (RS.p { c := (0 : Int), w := [], f := [], pt := false, p := z0 }), xs := Num.xs (RS.p { c := (0 : Int), w := [], f := [], pt := false, p := z0 }), pr := Num.pr (RS.p { c := (0 : Int), w := [], f := [], pt := false, p := z0 }), sc := Num.sc (RS.p { c := (0 : Int), w := [], f := [], pt := false, p := z0 }), inc := Num.inc (RS.p { c := (0 : Int), w := [], f := [], pt := false, p := z0 }), ps := Num.ps (RS.p { c := (0 : Int), w := [], f := [], pt := false, p := z0 }), me := Num.me (RS.p { c := (0 : Int), w := [], f := [], pt := false, p := z0 }), px := Num.px (RS.p { c := (0 : Int), w := [], f := [], pt := false, p := z0 }) }).2 = Num.pr (RS.p (rs1 s)) ∧ Num.sc (expT (numX s) (numS s) { mi := Num.mi (RS.p { c := (0 : Int), w := [], f := [], pt := false, p := z0 }), xi := Num.xi (RS.p { c := (0 : Int), w := [], f := [], pt := false, p := z0 }), mf := Num.mf (RS.p { c := (0 : Int), w := [], f := [], pt := false, p := z0 }), xf := Num.xf (RS.p { c := (0 : Int), w := [], f := [], pt := false, p := z0 }), ms := Num.ms (RS.p { c := (0 : Int), w := [], f := [], pt := false, p := z0 }), xs := Num.xs (RS.p { c := (0 : Int), w := [], f := [], pt := false, p := z0 }), pr := Num.pr (RS.p { c := (0 : Int), w := [], f := [], pt := false, p := z0 }), sc := Num.sc (RS.p { c := (0 : Int), w := [], f := [], pt := false, p := z0 }), inc := Num.inc (RS.p { c := (0 : Int), w := [], f := [], pt := false, p := z0 }), ps := Num.ps (RS.p { c := (0 : Int), w := [], f := [], pt := false, p := z0 }), me := Num.me (RS.p { c := (0 : Int), w := [], f := [], pt := false, p := z0 }), px := Num.px (RS.p { c := (0 : Int), w := [], f := [], pt := false, p := z0 }) }).2 = Num.sc (RS.p (rs1 s)) ∧ Num.inc (expT (numX s) (numS s) { mi := Num.mi (RS.p { c := (0 : Int), w := [], f := [], pt := false, p := z0 }), xi := Num.xi (RS.p { c := (0 : Int), w := [], f := [], pt := false, p := z0 }), mf := Num.mf (RS.p { c := (0 : Int), w := [], f := [], pt := false, p := z0 }), xf := Num.xf (RS.p { c := (0 : Int), w := [], f := [], pt := false, p := z0 }), ms := Num.ms (RS.p { c := (0 : Int), w := [], f := [], pt := false, p := z0 }), xs := Num.xs (RS.p { c := (0 : Int), w := [], f := [], pt := false, p := z0 }), pr := Num.pr (RS.p { c := (0 : Int), w := [], f := [], pt := false, p := z0 }), sc := Num.sc (RS.p { c := (0 : Int), w := [], f := [], pt := false, p := z0 }), inc := Num.inc (RS.p { c := (0 : Int), w := [], f := [], pt := false, p := z0 }), ps := Num.ps (RS.p { c := (0 : Int), w := [], f := [], pt := false, p := z0 }), me := Num.me (RS.p { c := (0 : Int), w := [], f := [], pt := false, p := z0 }), px := Num.px (RS.p { c := (0 : Int), w := [], f := [], pt := false, p := z0 }) }).2 = Num.inc (RS.p (rs1 s)) ∧ Num.ps (expT (numX s) (numS s) { mi := Num.mi (RS.p { c := (0 : Int), w := [], f := [], pt := false, p := z0 }), xi := Num.xi (RS.p { c := (0 : Int), w := [], f := [], pt := false, p := z0 }), mf := Num.mf (RS.p { c := (0 : Int), w := [], f := [], pt := false, p := z0 }), xf := Num.xf (RS.p { c := (0 : Int), w := [], f := [], pt := false, p := z0 }), ms := Num.ms (RS.p { c := (0 : Int), w := [], f := [], pt := false, p := z0 }), xs := Num.xs (RS.p { c := (0 : Int), w := [], f := [], pt := false, p := z0 }), pr := Num.pr (RS.p { c := (0 : Int), w := [], f := [], pt := false, p := z0 }), sc := Num.sc (RS.p { c := (0 : Int), w := [], f := [], pt := false, p := z0 }), inc := Num.inc (RS.p { c := (0 : Int), w := [], f := [], pt := false, p := z0 }), ps := Num.ps (RS.p { c := (0 : Int), w := [], f := [], pt := false, p := z0 }), me := Num.me (RS.p { c := (0 : Int), w := [], f := [], pt := false, p := z0 }), px := Num.px (RS.p { c := (0 : Int), w := [], f := [], pt := false, p := z0 }) }).2 = Num.ps (RS.p (rs1 s)) ∧ Num.me (expT (numX s) (numS s) { mi := Num.mi (RS.p { c := (0 : Int), w := [], f := [], pt := false, p := z0 }), xi := Num.xi (RS.p { c := (0 : Int), w := [], f := [], pt := false, p := z0 }), mf := Num.mf (RS.p { c := (0 : Int), w := [], f := [], pt := false, p := z0 }), xf := Num.xf (RS.p { c := (0 : Int), w := [], f := [], pt := false, p := z0 }), ms := Num.ms (RS.p { c := (0 : Int), w := [], f := [], pt := false, p := z0 }), xs := Num.xs (RS.p { c := (0 : Int), w := [], f := [], pt := false, p := z0 }), pr := Num.pr (RS.p { c := (0 : Int), w := [], f := [], pt := false, p := z0 }), sc := Num.sc (RS.p { c := (0 : Int), w := [], f := [], pt := false, p := z0 }), inc := Num.inc (RS.p { c := (0 : Int), w := [], f := [], pt := false, p := z0 }), ps := Num.ps (RS.p { c := (0 : Int), w := [], f := [], pt := false, p := z0 }), me := Num.me (RS.p { c := (0 : Int), w := [], f := [], pt := false, p := z0 }), px := Num.px (RS.p { c := (0 : Int), w := [], f := [], pt := false, p := z0 }) }).2 = Num.me (RS.p (rs1 s)) ∧ Num.px (expT (numX s) (numS s) { mi := Num.mi (RS.p { c := (0 : Int), w := [], f := [], pt := false, p := z0 }), xi := Num.xi (RS.p { c := (0 : Int), w := [], f := [], pt := false, p := z0 }), mf := Num.mf (RS.p { c := (0 : Int), w := [], f := [], pt := false, p := z0 }), xf := Num.xf (RS.p { c := (0 : Int), w := [], f := [], pt := false, p := z0 }), ms := Num.ms (RS.p { c := (0 : Int), w := [], f := [], pt := false, p := z0 }), xs := Num.xs (RS.p { c := (0 : Int), w := [], f := [], pt := false, p := z0 }), pr := Num.pr (RS.p { c := (0 : Int), w := [], f := [], pt := false, p := z0 }), sc := Num.sc (RS.p { c := (0 : Int), w := [], f := [], pt := false, p := z0 }), inc := Num.inc (RS.p { c := (0 : Int), w := [], f := [], pt := false, p := z0 }), ps := Num.ps (RS.p { c := (0 : Int), w := [], f := [], pt := false, p := z0 }), me := Num.me (RS.p { c := (0 : Int), w := [], f := [], pt := false, p := z0 }), px := Num.px (RS.p { c := (0 : Int), w := [], f := [], pt := false, p := z0 }) }).2 = Num.px (RS.p (rs1 s)) ∧ (0 : Int) = (0 : Int) ∧ (0 : Int) = (0 : Int) ∧ (0 : Int) = (0 : Int)) ∧ Num.mi z0 = Num.mi z0 ∧ Num.xi z0 = Num.xi z0 ∧ Num.mf z0 = Num.mf z0 ∧ Num.xf z0 = Num.xf z0 ∧ Num.ms z0 = Num.ms z0 ∧ Num.xs z0 = Num.xs z0 ∧ Num.pr z0 = Num.pr z0 ∧ Num.sc z0 = Num.sc z0 ∧ Num.inc z0 = Num.inc z0 ∧ Num.ps z0 = Num.ps z0 ∧ Num.me z0 = Num.me z0 ∧ Num.px z0 = Num.px z0 ∧ (0 : Int) = (0 : Int) ∧ (0 : Int) = (0 : Int) ∧ (0 : Int) = (0 : Int)) ∧ ∀ (j : Unit), br (RS.c (rs1 s) == (0 : Int)) ((∀ (c : UInt8), c ∈ numB s → UInt8.toNat c < (128 : Nat)) ∧ List.length (numB s) ≤ (1000000000 : Nat) ∧ ∃ (j : Unit), v6.1 = RS.c (rs2 s) ∧ (v6.2.1 = RS.w (rs2 s) ∧ v6.2.2.1 = RS.f (rs2 s) ∧ numX s = numX s ∧ v6.2.2.2 = RS.pt (rs2 s) ∧ numS s = numS s ∧ Num.mi { mi := Num.mi (RS.p (rs1 s)), xi := Num.xi (RS.p (rs1 s)), mf := Num.mf (RS.p (rs1 s)), xf := Num.xf (RS.p (rs1 s)), ms := Num.ms (RS.p (rs1 s)), xs := Num.xs (RS.p (rs1 s)), pr := Num.pr (RS.p (rs1 s)), sc := Num.sc (RS.p (rs1 s)), inc := Num.inc (RS.p (rs1 s)), ps := Num.ps (RS.p (rs1 s)), me := Num.me (RS.p (rs1 s)), px := Num.px (RS.p (rs1 s)) } = Num.mi (RS.p (rs2 s)) ∧ Num.xi { mi := Num.mi (RS.p (rs1 s)), xi := Num.xi (RS.p (rs1 s)), mf := Num.mf (RS.p (rs1 s)), xf := Num.xf (RS.p (rs1 s)), ms := Num.ms (RS.p (rs1 s)), xs := Num.xs (RS.p (rs1 s)), pr := Num.pr (RS.p (rs1 s)), sc := Num.sc (RS.p (rs1 s)), inc := Num.inc (RS.p (rs1 s)), ps := Num.ps (RS.p (rs1 s)), me := Num.me (RS.p (rs1 s)), px := Num.px (RS.p (rs1 s)) } = Num.xi (RS.p (rs2 s)) ∧ Num.mf { mi := Num.mi (RS.p (rs1 s)), xi := Num.xi (RS.p (rs1 s)), mf := Num.mf (RS.p (rs1 s)), xf := Num.xf (RS.p (rs1 s)), ms := Num.ms (RS.p (rs1 s)), xs := Num.xs (RS.p (rs1 s)), pr := Num.pr (RS.p (rs1 s)), sc := Num.sc (RS.p (rs1 s)), inc := Num.inc (RS.p (rs1 s)), ps := Num.ps (RS.p (rs1 s)), me := Num.me (RS.p (rs1 s)), px := Num.px (RS.p (rs1 s)) } = Num.mf (RS.p (rs2 s)) ∧ Num.xf { mi := Num.mi (RS.p (rs1 s)), xi := Num.xi (RS.p (rs1 s)), mf := Num.mf (RS.p (rs1 s)), xf := Num.xf (RS.p (rs1 s)), ms := Num.ms (RS.p (rs1 s)), xs := Num.xs (RS.p (rs1 s)), pr := Num.pr (RS.p (rs1 s)), sc := Num.sc (RS.p (rs1 s)), inc := Num.inc (RS.p (rs1 s)), ps := Num.ps (RS.p (rs1 s)), me := Num.me (RS.p (rs1 s)), px := Num.px (RS.p (rs1 s)) } = Num.xf (RS.p (rs2 s)) ∧ Num.ms { mi := Num.mi (RS.p (rs1 s)), xi := Num.xi (RS.p (rs1 s)), mf := Num.mf (RS.p (rs1 s)), xf := Num.xf (RS.p (rs1 s)), ms := Num.ms (RS.p (rs1 s)), xs := Num.xs (RS.p (rs1 s)), pr := Num.pr (RS.p (rs1 s)), sc := Num.sc (RS.p (rs1 s)), inc := Num.inc (RS.p (rs1 s)), ps := Num.ps (RS.p (rs1 s)), me := Num.me (RS.p (rs1 s)), px := Num.px (RS.p (rs1 s)) } = Num.ms (RS.p (rs2 s)) ∧ Num.xs { mi := Num.mi (RS.p (rs1 s)), xi := Num.xi (RS.p (rs1 s)), mf := Num.mf (RS.p (rs1 s)), xf := Num.xf (RS.p (rs1 s)), ms := Num.ms (RS.p (rs1 s)), xs := Num.xs (RS.p (rs1 s)), pr := Num.pr (RS.p (rs1 s)), sc := Num.sc (RS.p (rs1 s)), inc := Num.inc (RS.p (rs1 s)), ps := Num.ps (RS.p (rs1 s)), me := Num.me (RS.p (rs1 s)), px := Num.px (RS.p (rs1 s)) } = Num.xs (RS.p (rs2 s)) ∧ Num.pr { mi := Num.mi (RS.p (rs1 s)), xi := Num.xi (RS.p (rs1 s)), mf := Num.mf (RS.p (rs1 s)), xf := Num.xf (RS.p (rs1 s)), ms := Num.ms (RS.p (rs1 s)), xs := Num.xs (RS.p (rs1 s)), pr := Num.pr (RS.p (rs1 s)), sc := Num.sc (RS.p (rs1 s)), inc := Num.inc (RS.p (rs1 s)), ps := Num.ps (RS.p (rs1 s)), me := Num.me (RS.p (rs1 s)), px := Num.px (RS.p (rs1 s)) } = Num.pr (RS.p (rs2 s)) ∧ Num.sc { mi := Num.mi (RS.p (rs1 s)), xi := Num.xi (RS.p (rs1 s)), mf := Num.mf (RS.p (rs1 s)), xf := Num.xf (RS.p (rs1 s)), ms := Num.ms (RS.p (rs1 s)), xs := Num.xs (RS.p (rs1 s)), pr := Num.pr (RS.p (rs1 s)), sc := Num.sc (RS.p (rs1 s)), inc := Num.inc (RS.p (rs1 s)), ps := Num.ps (RS.p (rs1 s)), me := Num.me (RS.p (rs1 s)), px := Num.px (RS.p (rs1 s)) } = Num.sc (RS.p (rs2 s)) ∧ Num.inc { mi := Num.mi (RS.p (rs1 s)), xi := Num.xi (RS.p (rs1 s)), mf := Num.mf (RS.p (rs1 s)), xf := Num.xf (RS.p (rs1 s)), ms := Num.ms (RS.p (rs1 s)), xs := Num.xs (RS.p (rs1 s)), pr := Num.pr (RS.p (rs1 s)), sc := Num.sc (RS.p (rs1 s)), inc := Num.inc (RS.p (rs1 s)), ps := Num.ps (RS.p (rs1 s)), me := Num.me (RS.p (rs1 s)), px := Num.px (RS.p (rs1 s)) } = Num.inc (RS.p (rs2 s)) ∧ Num.ps { mi := Num.mi (RS.p (rs1 s)), xi := Num.xi (RS.p (rs1 s)), mf := Num.mf (RS.p (rs1 s)), xf := Num.xf (RS.p (rs1 s)), ms := Num.ms (RS.p (rs1 s)), xs := Num.xs (RS.p (rs1 s)), pr := Num.pr (RS.p (rs1 s)), sc := Num.sc (RS.p (rs1 s)), inc := Num.inc (RS.p (rs1 s)), ps := Num.ps (RS.p (rs1 s)), me := Num.me (RS.p (rs1 s)), px := Num.px (RS.p (rs1 s)) } = Num.ps (RS.p (rs2 s)) ∧ Num.me { mi := Num.mi (RS.p (rs1 s)), xi := Num.xi (RS.p (rs1 s)), mf := Num.mf (RS.p (rs1 s)), xf := Num.xf (RS.p (rs1 s)), ms := Num.ms (RS.p (rs1 s)), xs := Num.xs (RS.p (rs1 s)), pr := Num.pr (RS.p (rs1 s)), sc := Num.sc (RS.p (rs1 s)), inc := Num.inc (RS.p (rs1 s)), ps := Num.ps (RS.p (rs1 s)), me := Num.me (RS.p (rs1 s)), px := Num.px (RS.p (rs1 s)) } = Num.me (RS.p (rs2 s)) ∧ Num.px { mi := Num.mi (RS.p (rs1 s)), xi := Num.xi (RS.p (rs1 s)), mf := Num.mf (RS.p (rs1 s)), xf := Num.xf (RS.p (rs1 s)), ms := Num.ms (RS.p (rs1 s)), xs := Num.xs (RS.p (rs1 s)), pr := Num.pr (RS.p (rs1 s)), sc := Num.sc (RS.p (rs1 s)), inc := Num.inc (RS.p (rs1 s)), ps := Num.ps (RS.p (rs1 s)), me := Num.me (RS.p (rs1 s)), px := Num.px (RS.p (rs1 s)) } = Num.px (RS.p (rs2 s)) ∧ (0 : Int) = (0 : Int) ∧ (0 : Int) = (0 : Int) ∧ (0 : Int) = (0 : Int)) ∧ Num.mi z0 = Num.mi z0 ∧ Num.xi z0 = Num.xi z0 ∧ Num.mf z0 = Num.mf z0 ∧ Num.xf z0 = Num.xf z0 ∧ Num.ms z0 = Num.ms z0 ∧ Num.xs z0 = Num.xs z0 ∧ Num.pr z0 = Num.pr z0 ∧ Num.sc z0 = Num.sc z0 ∧ Num.inc z0 = Num.inc z0 ∧ Num.ps z0 = Num.ps z0 ∧ Num.me z0 = Num.me z0 ∧ Num.px z0 = Num.px z0 ∧ (0 : Int) = (0 : Int) ∧ (0 : Int) = (0 : Int) ∧ (0 : Int) = (0 : Int)) (∃ (j : Unit), RS.c (rs1 s) = RS.c (rs2 s) ∧ (RS.w (rs1 s) = RS.w (rs2 s) ∧ RS.f (rs1 s) = RS.f (rs2 s) ∧ numX s = numX s ∧ RS.pt (rs1 s) = RS.pt (rs2 s) ∧ numS s = numS s ∧ Num.mi (RS.p (rs1 s)) = Num.mi (RS.p (rs2 s)) ∧ Num.xi (RS.p (rs1 s)) = Num.xi (RS.p (rs2 s)) ∧ Num.mf (RS.p (rs1 s)) = Num.mf (RS.p (rs2 s)) ∧ Num.xf (RS.p (rs1 s)) = Num.xf (RS.p (rs2 s)) ∧ Num.ms (RS.p (rs1 s)) = Num.ms (RS.p (rs2 s)) ∧ Num.xs (RS.p (rs1 s)) = Num.xs (RS.p (rs2 s)) ∧ Num.pr (RS.p (rs1 s)) = Num.pr (RS.p (rs2 s)) ∧ Num.sc (RS.p (rs1 s)) = Num.sc (RS.p (rs2 s)) ∧ Num.inc (RS.p (rs1 s)) = Num.inc (RS.p (rs2 s)) ∧ Num.ps (RS.p (rs1 s)) = Num.ps (RS.p (rs2 s)) ∧ Num.me (RS.p (rs1 s)) = Num.me (RS.p (rs2 s)) ∧ Num.px (RS.p (rs1 s)) = Num.px (RS.p (rs2 s)) ∧ (0 : Int) = (0 : Int) ∧ (0 : Int) = (0 : Int) ∧ (0 : Int) = (0 : Int)) ∧ Num.mi z0 = Num.mi z0 ∧ Num.xi z0 = Num.xi z0 ∧ Num.mf z0 = Num.mf z0 ∧ Num.xf z0 = Num.xf z0 ∧ Num.ms z0 = Num.ms z0 ∧ Num.xs z0 = Num.xs z0 ∧ Num.pr z0 = Num.pr z0 ∧ Num.sc z0 = Num.sc z0 ∧ Num.inc z0 = Num.inc z0 ∧ Num.ps z0 = Num.ps z0 ∧ Num.me z0 = Num.me z0 ∧ Num.px z0 = Num.px z0 ∧ (0 : Int) = (0 : Int) ∧ (0 : Int) = (0 : Int) ∧ (0 : Int) = (0 : Int)) ∧ ∀ (j : Unit), (((0 : Int) ≤ (0 : Int) ∧ (0 : Int) < (↑(3 : Nat) : Int)) ∧ br (RS.c (rs2 s) == (0 : Int)) (List.length (RS.w (rs2 s)) ≤ (100000000 : Nat) ∧ ∃ (j : Unit), v2.1 = RS.c v4 ∧ (↑(3 : Nat) : Int) = (3 : Int) ∧ (0 : Int) = (↑(0 : Nat) : Int) ∧ (v2.2.1 = RS.w v4 ∧ RS.f (rs2 s) = RS.f v4 ∧ numX s = numX s ∧ RS.pt (rs2 s) = RS.pt v4 ∧ numS s = numS s ∧ Num.mi v2.2.2 = Num.mi (RS.p v4) ∧ Num.xi v2.2.2 = Num.xi (RS.p v4) ∧ Num.mf v2.2.2 = Num.mf (RS.p v4) ∧ Num.xf v2.2.2 = Num.xf (RS.p v4) ∧ Num.ms v2.2.2 = Num.ms (RS.p v4) ∧ Num.xs v2.2.2 = Num.xs (RS.p v4) ∧ Num.pr v2.2.2 = Num.pr (RS.p v4) ∧ Num.sc v2.2.2 = Num.sc (RS.p v4) ∧ Num.inc v2.2.2 = Num.inc (RS.p v4) ∧ Num.ps v2.2.2 = Num.ps (RS.p v4) ∧ Num.me v2.2.2 = Num.me (RS.p v4) ∧ Num.px v2.2.2 = Num.px (RS.p v4) ∧ (0 : Int) = (0 : Int) ∧ (0 : Int) = (0 : Int) ∧ (0 : Int) = (0 : Int)) ∧ Num.mi z0 = Num.mi z0 ∧ Num.xi z0 = Num.xi z0 ∧ Num.mf z0 = Num.mf z0 ∧ Num.xf z0 = Num.xf z0 ∧ Num.ms z0 = Num.ms z0 ∧ Num.xs z0 = Num.xs z0 ∧ Num.pr z0 = Num.pr z0 ∧ Num.sc z0 = Num.sc z0 ∧ Num.inc z0 = Num.inc z0 ∧ Num.ps z0 = Num.ps z0 ∧ Num.me z0 = Num.me z0 ∧ Num.px z0 = Num.px z0 ∧ (0 : Int) = (0 : Int) ∧ (0 : Int) = (0 : Int) ∧ (0 : Int) = (0 : Int)) (∃ (j : Unit), RS.c (rs2 s) = RS.c v4 ∧ (↑(3 : Nat) : Int) = (3 : Int) ∧ (0 : Int) = (↑(0 : Nat) : Int) ∧ (RS.w (rs2 s) = RS.w v4 ∧ RS.f (rs2 s) = RS.f v4 ∧ numX s = numX s ∧ RS.pt (rs2 s) = RS.pt v4 ∧ numS s = numS s ∧ Num.mi (RS.p (rs2 s)) = Num.mi (RS.p v4) ∧ Num.xi (RS.p (rs2 s)) = Num.xi (RS.p v4) ∧ Num.mf (RS.p (rs2 s)) = Num.mf (RS.p v4) ∧ Num.xf (RS.p (rs2 s)) = Num.xf (RS.p v4) ∧ Num.ms (RS.p (rs2 s)) = Num.ms (RS.p v4) ∧ Num.xs (RS.p (rs2 s)) = Num.xs (RS.p v4) ∧ Num.pr (RS.p (rs2 s)) = Num.pr (RS.p v4) ∧ Num.sc (RS.p (rs2 s)) = Num.sc (RS.p v4) ∧ Num.inc (RS.p (rs2 s)) = Num.inc (RS.p v4) ∧ Num.ps (RS.p (rs2 s)) = Num.ps (RS.p v4) ∧ Num.me (RS.p (rs2 s)) = Num.me (RS.p v4) ∧ Num.px (RS.p (rs2 s)) = Num.px (RS.p v4) ∧ (0 : Int) = (0 : Int) ∧ (0 : Int) = (0 : Int) ∧ (0 : Int) = (0 : Int)) ∧ Num.mi z0 = Num.mi z0 ∧ Num.xi z0 = Num.xi z0 ∧ Num.mf z0 = Num.mf z0 ∧ Num.xf z0 = Num.xf z0 ∧ Num.ms z0 = Num.ms z0 ∧ Num.xs z0 = Num.xs z0 ∧ Num.pr z0 = Num.pr z0 ∧ Num.sc z0 = Num.sc z0 ∧ Num.inc z0 = Num.inc z0 ∧ Num.ps z0 = Num.ps z0 ∧ Num.me z0 = Num.me z0 ∧ Num.px z0 = Num.px z0 ∧ (0 : Int) = (0 : Int) ∧ (0 : Int) = (0 : Int) ∧ (0 : Int) = (0 : Int))) ∧ ∀ (j : Unit), inR IntKind.i64 ((↑(0 : Nat) : Int) + (1 : Int)) ∧ (((0 : Int) ≤ (↑(0 : Nat) : Int) + (1 : Int) ∧ (↑(0 : Nat) : Int) + (1 : Int) < (↑(3 : Nat) : Int)) ∧ br (RS.c v4 == (0 : Int)) (((∀ (c : UInt8), c ∈ RS.w v4 → UInt8.toNat c < (128 : Nat)) ∧ ∀ (c : UInt8), c ∈ RS.f v4 → UInt8.toNat c < (128 : Nat)) ∧ (List.length (RS.w v4) ≤ (100000000 : Nat) ∧ List.length (RS.f v4) ≤ (100000000 : Nat)) ∧ ∃ (j : Unit), v0.1 = RS.c v5 ∧ (3 : Int) = (3 : Int) ∧ (↑(0 : Nat) : Int) + (1 : Int) = v7 ∧ (RS.w v4 = RS.w v5 ∧ RS.f v4 = RS.f v5 ∧ numX s = numX s ∧ RS.pt v4 = RS.pt v5 ∧ numS s = numS s ∧ Num.mi v0.2 = Num.mi v1 ∧ Num.xi v0.2 = Num.xi v1 ∧ Num.mf v0.2 = Num.mf v1 ∧ Num.xf v0.2 = Num.xf v1 ∧ Num.ms v0.2 = Num.ms v1 ∧ Num.xs v0.2 = Num.xs v1 ∧ Num.pr v0.2 = Num.pr v1 ∧ Num.sc v0.2 = Num.sc v1 ∧ Num.inc v0.2 = Num.inc v1 ∧ Num.ps v0.2 = Num.ps v1 ∧ Num.me v0.2 = Num.me v1 ∧ Num.px v0.2 = Num.px v1 ∧ (0 : Int) = (0 : Int) ∧ (0 : Int) = (0 : Int) ∧ (0 : Int) = (0 : Int)) ∧ Num.mi z0 = Num.mi z0 ∧ Num.xi z0 = Num.xi z0 ∧ Num.mf z0 = Num.mf z0 ∧ Num.xf z0 = Num.xf z0 ∧ Num.ms z0 = Num.ms z0 ∧ Num.xs z0 = Num.xs z0 ∧ Num.pr z0 = Num.pr z0 ∧ Num.sc z0 = Num.sc z0 ∧ Num.inc z0 = Num.inc z0 ∧ Num.ps z0 = Num.ps z0 ∧ Num.me z0 = Num.me z0 ∧ Num.px z0 = Num.px z0 ∧ (0 : Int) = (0 : Int) ∧ (0 : Int) = (0 : Int) ∧ (0 : Int) = (0 : Int)) (∃ (j : Unit), RS.c v4 = RS.c v5 ∧ (3 : Int) = (3 : Int) ∧ (↑(0 : Nat) : Int) + (1 : Int) = v7 ∧ (RS.w v4 = RS.w v5 ∧ RS.f v4 = RS.f v5 ∧ numX s = numX s ∧ RS.pt v4 = RS.pt v5 ∧ numS s = numS s ∧ Num.mi (RS.p v4) = Num.mi v1 ∧ Num.xi (RS.p v4) = Num.xi v1 ∧ Num.mf (RS.p v4) = Num.mf v1 ∧ Num.xf (RS.p v4) = Num.xf v1 ∧ Num.ms (RS.p v4) = Num.ms v1 ∧ Num.xs (RS.p v4) = Num.xs v1 ∧ Num.pr (RS.p v4) = Num.pr v1 ∧ Num.sc (RS.p v4) = Num.sc v1 ∧ Num.inc (RS.p v4) = Num.inc v1 ∧ Num.ps (RS.p v4) = Num.ps v1 ∧ Num.me (RS.p v4) = Num.me v1 ∧ Num.px (RS.p v4) = Num.px v1 ∧ (0 : Int) = (0 : Int) ∧ (0 : Int) = (0 : Int) ∧ (0 : Int) = (0 : Int)) ∧ Num.mi z0 = Num.mi z0 ∧ Num.xi z0 = Num.xi z0 ∧ Num.mf z0 = Num.mf z0 ∧ Num.xf z0 = Num.xf z0 ∧ Num.ms z0 = Num.ms z0 ∧ Num.xs z0 = Num.xs z0 ∧ Num.pr z0 = Num.pr z0 ∧ Num.sc z0 = Num.sc z0 ∧ Num.inc z0 = Num.inc z0 ∧ Num.ps z0 = Num.ps z0 ∧ Num.me z0 = Num.me z0 ∧ Num.px z0 = Num.px z0 ∧ (0 : Int) = (0 : Int) ∧ (0 : Int) = (0 : Int) ∧ (0 : Int) = (0 : Int))) ∧ ∀ (j : Unit), inR IntKind.i64 (v7 + (1 : Int)) ∧ (((0 : Int) ≤ v7 + (1 : Int) ∧ v7 + (1 : Int) < (↑(3 : Nat) : Int)) ∧ br (RS.c v5 == (0 : Int)) (((0 : Int) < Num.ms v1 → RS.w v5 ≠ []) ∧ ∃ (j : Unit), mixedT (RS.w v5) (numS s) { mi := Num.mi v1, xi := Num.xi v1, mf := Num.mf v1, xf := Num.xf v1, ms := Num.ms v1, xs := Num.xs v1, pr := Num.pr v1, sc := Num.sc v1, inc := Num.inc v1, ps := Num.ps v1, me := Num.me v1, px := Num.px v1 } = RS.c v3 ∧ (3 : Int) = (3 : Int) ∧ v7 + (1 : Int) = v8 ∧ (RS.w v5 = RS.w v3 ∧ RS.f v5 = RS.f v3 ∧ numX s = numX s ∧ RS.pt v5 = RS.pt v3 ∧ numS s = numS s ∧ Num.mi { mi := Num.mi v1, xi := Num.xi v1, mf := Num.mf v1, xf := Num.xf v1, ms := Num.ms v1, xs := Num.xs v1, pr := Num.pr v1, sc := Num.sc v1, inc := Num.inc v1, ps := Num.ps v1, me := Num.me v1, px := Num.px v1 } = Num.mi (RS.p v3) ∧ Num.xi { mi := Num.mi v1, xi := Num.xi v1, mf := Num.mf v1, xf := Num.xf v1, ms := Num.ms v1, xs := Num.xs v1, pr := Num.pr v1, sc := Num.sc v1, inc := Num.inc v1, ps := Num.ps v1, me := Num.me v1, px := Num.px v1 } = Num.xi (RS.p v3) ∧ Num.mf { mi := Num.mi v1, xi := Num.xi v1, mf := Num.mf v1, xf := Num.xf v1, ms := Num.ms v1, xs := Num.xs v1, pr := Num.pr v1, sc := Num.sc v1, inc := Num.inc v1, ps := Num.ps v1, me := Num.me v1, px := Num.px v1 } = Num.mf (RS.p v3) ∧ Num.xf { mi := Num.mi v1, xi := Num.xi v1, mf := Num.mf v1, xf := Num.xf v1, ms := Num.ms v1, xs := Num.xs v1, pr := Num.pr v1, sc := Num.sc v1, inc := Num.inc v1, ps := Num.ps v1, me := Num.me v1, px := Num.px v1 } = Num.xf (RS.p v3) ∧ Num.ms { mi := Num.mi v1, xi := Num.xi v1, mf := Num.mf v1, xf := Num.xf v1, ms := Num.ms v1, xs := Num.xs v1, pr := Num.pr v1, sc := Num.sc v1, inc := Num.inc v1, ps := Num.ps v1, me := Num.me v1, px := Num.px v1 } = Num.ms (RS.p v3) ∧ Num.xs { mi := Num.mi v1, xi := Num.xi v1, mf := Num.mf v1, xf := Num.xf v1, ms := Num.ms v1, xs := Num.xs v1, pr := Num.pr v1, sc := Num.sc v1, inc := Num.inc v1, ps := Num.ps v1, me := Num.me v1, px := Num.px v1 } = Num.xs (RS.p v3) ∧ Num.pr { mi := Num.mi v1, xi := Num.xi v1, mf := Num.mf v1, xf := Num.xf v1, ms := Num.ms v1, xs := Num.xs v1, pr := Num.pr v1, sc := Num.sc v1, inc := Num.inc v1, ps := Num.ps v1, me := Num.me v1, px := Num.px v1 } = Num.pr (RS.p v3) ∧ Num.sc { mi := Num.mi v1, xi := Num.xi v1, mf := Num.mf v1, xf := Num.xf v1, ms := Num.ms v1, xs := Num.xs v1, pr := Num.pr v1, sc := Num.sc v1, inc := Num.inc v1, ps := Num.ps v1, me := Num.me v1, px := Num.px v1 } = Num.sc (RS.p v3) ∧ Num.inc { mi := Num.mi v1, xi := Num.xi v1, mf := Num.mf v1, xf := Num.xf v1, ms := Num.ms v1, xs := Num.xs v1, pr := Num.pr v1, sc := Num.sc v1, inc := Num.inc v1, ps := Num.ps v1, me := Num.me v1, px := Num.px v1 } = Num.inc (RS.p v3) ∧ Num.ps { mi := Num.mi v1, xi := Num.xi v1, mf := Num.mf v1, xf := Num.xf v1, ms := Num.ms v1, xs := Num.xs v1, pr := Num.pr v1, sc := Num.sc v1, inc := Num.inc v1, ps := Num.ps v1, me := Num.me v1, px := Num.px v1 } = Num.ps (RS.p v3) ∧ Num.me { mi := Num.mi v1, xi := Num.xi v1, mf := Num.mf v1, xf := Num.xf v1, ms := Num.ms v1, xs := Num.xs v1, pr := Num.pr v1, sc := Num.sc v1, inc := Num.inc v1, ps := Num.ps v1, me := Num.me v1, px := Num.px v1 } = Num.me (RS.p v3) ∧ Num.px { mi := Num.mi v1, xi := Num.xi v1, mf := Num.mf v1, xf := Num.xf v1, ms := Num.ms v1, xs := Num.xs v1, pr := Num.pr v1, sc := Num.sc v1, inc := Num.inc v1, ps := Num.ps v1, me := Num.me v1, px := Num.px v1 } = Num.px (RS.p v3) ∧ (0 : Int) = (0 : Int) ∧ (0 : Int) = (0 : Int) ∧ (0 : Int) = (0 : Int)) ∧ Num.mi z0 = Num.mi z0 ∧ Num.xi z0 = Num.xi z0 ∧ Num.mf z0 = Num.mf z0 ∧ Num.xf z0 = Num.xf z0 ∧ Num.ms z0 = Num.ms z0 ∧ Num.xs z0 = Num.xs z0 ∧ Num.pr z0 = Num.pr z0 ∧ Num.sc z0 = Num.sc z0 ∧ Num.inc z0 = Num.inc z0 ∧ Num.ps z0 = Num.ps z0 ∧ Num.me z0 = Num.me z0 ∧ Num.px z0 = Num.px z0 ∧ (0 : Int) = (0 : Int) ∧ (0 : Int) = (0 : Int) ∧ (0 : Int) = (0 : Int)) (∃ (j : Unit), RS.c v5 = RS.c v3 ∧ (3 : Int) = (3 : Int) ∧ v7 + (1 : Int) = v8 ∧ (RS.w v5 = RS.w v3 ∧ RS.f v5 = RS.f v3 ∧ numX s = numX s ∧ RS.pt v5 = RS.pt v3 ∧ numS s = numS s ∧ Num.mi v1 = Num.mi (RS.p v3) ∧ Num.xi v1 = Num.xi (RS.p v3) ∧ Num.mf v1 = Num.mf (RS.p v3) ∧ Num.xf v1 = Num.xf (RS.p v3) ∧ Num.ms v1 = Num.ms (RS.p v3) ∧ Num.xs v1 = Num.xs (RS.p v3) ∧ Num.pr v1 = Num.pr (RS.p v3) ∧ Num.sc v1 = Num.sc (RS.p v3) ∧ Num.inc v1 = Num.inc (RS.p v3) ∧ Num.ps v1 = Num.ps (RS.p v3) ∧ Num.me v1 = Num.me (RS.p v3) ∧ Num.px v1 = Num.px (RS.p v3) ∧ (0 : Int) = (0 : Int) ∧ (0 : Int) = (0 : Int) ∧ (0 : Int) = (0 : Int)) ∧ Num.mi z0 = Num.mi z0 ∧ Num.xi z0 = Num.xi z0 ∧ Num.mf z0 = Num.mf z0 ∧ Num.xf z0 = Num.xf z0 ∧ Num.ms z0 = Num.ms z0 ∧ Num.xs z0 = Num.xs z0 ∧ Num.pr z0 = Num.pr z0 ∧ Num.sc z0 = Num.sc z0 ∧ Num.inc z0 = Num.inc z0 ∧ Num.ps z0 = Num.ps z0 ∧ Num.me z0 = Num.me z0 ∧ Num.px z0 = Num.px z0 ∧ (0 : Int) = (0 : Int) ∧ (0 : Int) = (0 : Int) ∧ (0 : Int) = (0 : Int))) ∧ ∀ (j : Unit), inR IntKind.i64 (v8 + (1 : Int)) ∧ br (RS.c v3 != (0 : Int)) ((([] : List Itm) = [] ∧ ([] : List Itm) = [] ∧ false = false ∧ ([] : List Itm) = [] ∧ ([] : List Itm) = [] ∧ (0 : Int) = Num.mi (numT s).1 ∧ (0 : Int) = Num.xi (numT s).1 ∧ (0 : Int) = Num.mf (numT s).1 ∧ (0 : Int) = Num.xf (numT s).1 ∧ (0 : Int) = Num.ms (numT s).1 ∧ (0 : Int) = Num.xs (numT s).1 ∧ (0 : Int) = Num.pr (numT s).1 ∧ (0 : Int) = Num.sc (numT s).1 ∧ [] = Num.inc (numT s).1 ∧ false = Num.ps (numT s).1 ∧ (0 : Int) = Num.me (numT s).1 ∧ false = Num.px (numT s).1 ∧ (0 : Int) = (0 : Int) ∧ (0 : Int) = (0 : Int) ∧ (0 : Int) = (0 : Int)) ∧ RS.c v3 = (numT s).2) ((([] : List Itm) = [] ∧ ([] : List Itm) = [] ∧ false = false ∧ ([] : List Itm) = [] ∧ ([] : List Itm) = [] ∧ Num.mi (RS.p v3) = Num.mi (numT s).1 ∧ Num.xi (RS.p v3) = Num.xi (numT s).1 ∧ Num.mf (RS.p v3) = Num.mf (numT s).1 ∧ Num.xf (RS.p v3) = Num.xf (numT s).1 ∧ Num.ms (RS.p v3) = Num.ms (numT s).1 ∧ Num.xs (RS.p v3) = Num.xs (numT s).1 ∧ Num.pr (RS.p v3) = Num.pr (numT s).1 ∧ Num.sc (RS.p v3) = Num.sc (numT s).1 ∧ Num.inc (RS.p v3) = Num.inc (numT s).1 ∧ Num.ps (RS.p v3) = Num.ps (numT s).1 ∧ Num.me (RS.p v3) = Num.me (numT s).1 ∧ Num.px (RS.p v3) = Num.px (numT s).1 ∧ (0 : Int) = (0 : Int) ∧ (0 : Int) = (0 : Int) ∧ (0 : Int) = (0 : Int)) ∧ (0 : Int) = (numT s).2))) := by kernel_rfl
set_option maxHeartbeats 4000000 in
theorem of_nparse (h : ∀ (s : List UInt8), (Asc s) → (s.length ≤ 100000000) → vcP [(92, sp_scut)] [(93, sp_rexp), (94, sp_rparts), (95, sp_rgroups), (96, sp_rcounts), (97, sp_rmixed)] misc Tryz.f67 (ann10 s) [.one (.str s)] (.tup [(true, (numT s).1.pcs), (false, [.int .i64 (numT s).2])])) : FnP 67 sp_nparse := by
  refine fnP_ok (cs := [(92, sp_scut)]) (cas := [(93, sp_rexp), (94, sp_rparts), (95, sp_rgroups), (96, sp_rcounts), (97, sp_rmixed)]) (ms := misc) (.cons ok_scut .nil) (.cons ok_rexp (.cons ok_rparts (.cons ok_rgroups (.cons ok_rcounts (.cons ok_rmixed .nil))))) misc_ok 67 Tryz.f67 (by kernel_rfl) (by kernel_rfl) (by kernel_rfl) (fun | [.one (.str s)] => ann10 s | _ => .nil) ?_
  intro pvs p r hs hp
  unfold sp_nparse at hs
  simp only at hs
  split at hs
  · rename_i s
    cases hs
    refine h s ?_ ?_
    · exact hp.1
    · exact hp.2
  · cases hs
theorem cutC_sub (k : UInt8) (s : List UInt8) : (∀ c ∈ (cutC k s).1, c ∈ s) ∧ (∀ c ∈ (cutC k s).2.1, c ∈ s) ∧ (cutC k s).1.length + (cutC k s).2.1.length ≤ s.length := by
  induction s with
  | nil => exact ⟨fun c h => h, fun c h => h, Nat.le_refl _⟩
  | cons x l ih =>
    obtain ⟨h1, h2, h3⟩ := ih
    unfold cutC
    split
    · exact ⟨fun c h => (by cases h), fun c h => List.mem_cons_of_mem _ h, by simp⟩
    · refine ⟨fun c h => ?_, fun c h => List.mem_cons_of_mem _ (h2 c h), by simp; omega⟩
      rcases List.mem_cons.1 h with h | h
      · rw [h]; exact List.mem_cons_self
      · exact List.mem_cons_of_mem _ (h1 c h)
theorem splitC_sub (k : UInt8) (s : List UInt8) : ∀ c ∈ (splitC k s).flatten, c ∈ s := by
  induction s with
  | nil => intro c h; simp [splitC] at h
  | cons x l ih =>
    intro c h
    unfold splitC at h
    split at h
    · rw [List.flatten_cons, List.nil_append] at h
      exact List.mem_cons_of_mem _ (ih c h)
    · have hne := splitC_ne k l
      cases hs : splitC k l with
      | nil => exact absurd hs hne
      | cons a t =>
        rw [hs] at h ih
        rw [List.flatten_cons] at h ih
        rcases List.mem_append.1 h with h | h
        · rcases List.mem_cons.1 h with h | h
          · rw [h]; exact List.mem_cons_self
          · exact List.mem_cons_of_mem _ (ih c (List.mem_append_left _ h))
        · exact List.mem_cons_of_mem _ (ih c (List.mem_append_right _ h))
def Sub (t s : List UInt8) : Prop := (∀ c ∈ t, c ∈ s) ∧ t.length ≤ s.length
theorem Sub.nil (s : List UInt8) : Sub [] s := ⟨fun c h => (by cases h), Nat.zero_le _⟩
theorem Sub.trans {a b c : List UInt8} (h : Sub a b) (k : Sub b c) : Sub a c := ⟨fun x hx => k.1 x (h.1 x hx), Nat.le_trans h.2 k.2⟩
theorem cut_sub (k : UInt8) (s : List UInt8) : Sub (Lib.cut s [k]).1 s ∧ Sub (Lib.cut s [k]).2.1 s := by
  rw [cut_C]
  obtain ⟨h1, h2, h3⟩ := cutC_sub k s
  exact ⟨⟨h1, by omega⟩, ⟨h2, by omega⟩⟩
theorem rs2_sub (s : List UInt8) : Sub (rs2 s).w s ∧ Sub (rs2 s).f s := by
  have hb : Sub (numB s) s := (cut_sub 69 s).1
  have hc := cut_sub 46 (numB s)
  unfold rs2
  split
  · unfold partsT
    split
    · exact ⟨Sub.nil s, Sub.nil s⟩
    · split <;> exact ⟨hc.1.trans hb, hc.2.trans hb⟩
  · exact ⟨Sub.nil s, Sub.nil s⟩
theorem rs3_sub (s : List UInt8) : Sub (rs3 s).w s ∧ Sub (rs3 s).f s := by
  obtain ⟨h1, h2⟩ := rs2_sub s
  have h3 : Sub (splitC 44 (rs2 s).w).flatten (rs2 s).w := ⟨splitC_sub 44 _, splitC_flat 44 _⟩
  unfold rs3
  split
  · refine ⟨?_, h2⟩
    show Sub (groupsT _ _ _).2.1 s
    unfold groupsT
    split
    · exact h1
    · split
      · exact h1
      · exact h3.trans h1
  · exact ⟨h1, h2⟩
theorem rs1_ms (s : List UInt8) : (rs1 s).p.ms = 0 := by
  show (expT _ _ _).2.ms = 0
  unfold expT
  repeat' split
  all_goals rfl
theorem rs3_ms (s : List UInt8) : (rs3 s).p.ms = 0 := by
  have h2 : (rs2 s).p.ms = 0 := by unfold rs2; split <;> exact rs1_ms s
  unfold rs3
  split
  · show (groupsT _ _ _).2.2.ms = 0
    unfold groupsT
    split
    · exact h2
    · split
      · exact h2
      · show (if _ then _ else _ : Num).ms = 0
        split <;> exact h2
  · exact h2
theorem rs4_ms (s : List UInt8) : 0 < (rs4 s).p.ms → (rs4 s).w ≠ [] := by
  have h3 := rs3_ms s
  unfold rs4
  split
  · show 0 < (countsT _ _ _ _ _).2.ms → (rs3 s).w ≠ []
    unfold countsT
    split
    · intro h; rw [h3] at h; exact absurd h (by decide)
    · split
      · unfold signifT
        split
        · intro h; rw [h3] at h; exact absurd h (by decide)
        · split
          · intro h; rw [h3] at h; exact absurd h (by decide)
          · intro h h0
            have h : 0 < span1 (· == 64) (dropP (· == 35) (rs3 s).w) := h
            rw [h0] at h
            exact absurd h (by decide)
      · split
        · intro h; rw [h3] at h; exact absurd h (by decide)
        · split <;> (intro h; have h : 0 < (rs3 s).p.ms := h; rw [h3] at h; exact absurd h (by decide))
  · intro h; rw [h3] at h; exact absurd h (by decide)
theorem ok_nparse : FnP 67 sp_nparse := of_nparse (by
  intro s hs hn
  rw [vc_nparse]
  have hB : Sub (numB s) s := (cut_sub 69 s).1
  have hX : Sub (numX s) s := (cut_sub 69 s).2
  have asc : ∀ {t}, Sub t s → Asc t := fun h c hc => hs c (h.1 c hc)
  obtain ⟨w2, f2⟩ := rs2_sub s
  obtain ⟨w3, f3⟩ := rs3_sub s
  have lX := hX.2
  have lB := hB.2
  have lw2 := w2.2
  have lw3 := w3.2
  have lf3 := f3.2
  have ms4 := rs4_ms s
  refine ⟨⟨by omega, (), by and_intros <;> rfl⟩, fun _ => ⟨⟨asc hX, by omega, (), by and_intros <;> rfl⟩, fun _ => ⟨br_of (fun h => ⟨asc hB, by omega, (), ?_⟩) fun h => ⟨(), ?_⟩, fun _ => ⟨⟨by decide, br_of (fun h => ⟨by omega, (), ?_⟩) fun h => ⟨(), ?_⟩⟩, fun _ => ⟨by simp only [inR]; omega, ⟨by decide, br_of (fun h => ⟨⟨asc w3, asc f3⟩, ⟨by show (rs3 s).w.length ≤ _; omega, by show (rs3 s).f.length ≤ _; omega⟩, (), ?_⟩) fun h => ⟨(), ?_⟩⟩, fun _ => ⟨by simp only [inR]; omega, ⟨by decide, br_of (fun h => ⟨ms4, (), ?_⟩) fun h => ⟨(), ?_⟩⟩, fun _ => ⟨by simp only [inR]; omega, br_of (fun h => ?_) fun h => ?_⟩⟩⟩⟩⟩⟩⟩
  · have h2 : rs2 s = ⟨(partsT (numB s) [] [] false).1, (partsT (numB s) [] [] false).2.1, (partsT (numB s) [] [] false).2.2.1, (partsT (numB s) [] [] false).2.2.2, (rs1 s).p⟩ := by unfold rs2; rw [if_pos (eq_of_beq h)]
    rw [h2]; and_intros <;> rfl
  · have h : ¬ (rs1 s).c = 0 := by simpa using h
    have h2 : rs2 s = rs1 s := by unfold rs2; rw [if_neg h]
    rw [h2]; and_intros <;> rfl
  · have h2 : rsN s (0 + 1) = ⟨(groupsT (rs2 s).w (rs2 s).f (rs2 s).p).1, (groupsT (rs2 s).w (rs2 s).f (rs2 s).p).2.1, (rs2 s).f, (rs2 s).pt, (groupsT (rs2 s).w (rs2 s).f (rs2 s).p).2.2⟩ := by show rs3 s = _; unfold rs3; rw [if_pos (eq_of_beq h)]
    rw [h2]; and_intros <;> rfl
  · have h : ¬ (rs2 s).c = 0 := by simpa using h
    have h2 : rsN s (0 + 1) = rs2 s := by show rs3 s = _; unfold rs3; rw [if_neg h]
    rw [h2]; and_intros <;> rfl
  · have h : (rs3 s).c = 0 := eq_of_beq h
    have h2 : rsN s (0 + 1 + 1) = ⟨(countsT (rs3 s).w (rs3 s).f (rs3 s).pt (numS s) (rs3 s).p).1, (rs3 s).w, (rs3 s).f, (rs3 s).pt, (countsT (rs3 s).w (rs3 s).f (rs3 s).pt (numS s) (rs3 s).p).2⟩ := by show rs4 s = _; unfold rs4; rw [if_pos h]
    rw [h2]; and_intros <;> rfl
  · have h : ¬ (rs3 s).c = 0 := by
      have h : ((rs3 s).c == 0) = false := h
      simpa using h
    have h2 : rsN s (0 + 1 + 1) = rs3 s := by show rs4 s = _; unfold rs4; rw [if_neg h]
    rw [h2]; and_intros <;> rfl
  · have h : (rs4 s).c = 0 := eq_of_beq h
    have h2 : rsN s (0 + 1 + 1 + 1) = ⟨mixedT (rs4 s).w (numS s) (rs4 s).p, (rs4 s).w, (rs4 s).f, (rs4 s).pt, (rs4 s).p⟩ := by show rs5 s = _; unfold rs5; rw [if_pos h]
    rw [h2]; and_intros <;> rfl
  · have h : ¬ (rs4 s).c = 0 := by
      have h : ((rs4 s).c == 0) = false := h
      simpa using h
    have h2 : rsN s (0 + 1 + 1 + 1) = rs4 s := by show rs5 s = _; unfold rs5; rw [if_neg h]
    rw [h2]; and_intros <;> rfl
  · have h : ¬ (rs5 s).c = 0 := by
      have h : ((rs5 s).c != 0) = true := h
      simpa using h
    have h2 : numT s = (z0, (rs5 s).c) := by unfold numT; rw [if_neg h]
    rw [h2]; and_intros <;> rfl
  · have h : (rs5 s).c = 0 := by
      have h : ((rs5 s).c != 0) = false := h
      simpa using h
    have h2 : numT s = ((rs5 s).p, 0) := by unfold numT; rw [if_pos h]
    rw [h2]; and_intros <;> rfl)
end Go.Proofs.YtglfkihckkjniaaGreatDoor.Vx
namespace Go.Proofs.YtglfkihckkjniaaGreatDoor.Vx
open Go Go.RowKit
def rg : Go.Shelf.Ren := ⟨fun | 4 => 129 | n => n, fun | 0 => 0 | 3 => 3 | 4 => 4 | 9 => 9 | 20 => 20 | 22 => 23 | 25 => 79 | n => n, fun n => n⟩
theorem lays_grow : Go.Proofs.Lays8.n4 Tryz.prog rg := {
  mixed := by kernel_rfl
  f4 := ⟨"slices.Grow[[]figurehead/api.Item,figurehead/api.Item]", by decide, Tryz.func129.trans (congrArg some (by kernel_rfl))⟩
  t0 := Tryz.underlying0
  a0 := Tryz.isAgg0
  z0 := Tryz.sizeOf0
  v0 := Tryz.zeroValue0
  t3 := Tryz.underlying3
  a3 := Tryz.isAgg3
  z3 := Tryz.sizeOf3
  v3 := Tryz.zeroValue3
  t4 := Tryz.underlying4
  a4 := Tryz.isAgg4
  z4 := Tryz.sizeOf4
  v4 := Tryz.zeroValue4
  t9 := Tryz.underlying9
  a9 := Tryz.isAgg9
  z9 := Tryz.sizeOf9
  v9 := Tryz.zeroValue9
  t20 := Tryz.underlying20
  a20 := Tryz.isAgg20
  z20 := Tryz.sizeOf20
  v20 := Tryz.zeroValue20
  t22 := Tryz.underlying23
  a22 := Tryz.isAgg23
  z22 := Tryz.sizeOf23
  v22 := Tryz.zeroValue23 }
def sp_sgrow : ASpec := ⟨fun
  | [.one .nils, .one (.int .i64 n)], [] => some ([0 ≤ n ∧ n ≤ 1000000000], .one (.slc 16), [(16, some (.row 79 (.items [])))])
  | _, _ => none⟩
theorem ok_sgrow : FnA 129 sp_sgrow := by
  refine ⟨body_of Tryz.f129 (by kernel_rfl) (by kernel_rfl) (by kernel_rfl), ?_⟩
  intro args mem ps r post hs hp C ρ w vs hP hw hg hgf hms hdom hargs
  unfold sp_sgrow at hs
  simp only at hs
  split at hs
  · rename_i n
    cases hs
    have hp : 0 ≤ n ∧ n ≤ 1000000000 := hp
    have hv : vs = [.slice none 0 0, .int .i64 n] := by
      cases hargs with
      | cons h1 h2 =>
        cases h2 with
        | cons h3 h4 =>
          cases h4
          simp only [denV, den, Option.some.injEq] at h1 h3
          rw [h1, h3]
    subst hv
    obtain ⟨k, hk⟩ : ∃ k : Nat, n = (k : Int) := ⟨n.toNat, by omega⟩
    subst hk
    obtain ⟨i, hi⟩ := Option.isSome_iff_exists.1 (show (look 79 T).isSome = true by kernel_rfl)
    have hsz : i.size = 2 := by
      have h1 : (look 79 T).map (fun i => i.size) = some 2 := by kernel_rfl
      rw [hi] at h1; simpa using h1
    have hby : i.bytes = 16 := by
      have h1 : (look 79 T).map (fun i => i.bytes) = some 16 := by kernel_rfl
      rw [hi] at h1; simpa using h1
    obtain ⟨inf, d, z, tt⟩ := tbl_get T_ok hi
    have hz2 : z.cells.size = 2 := by
      have h1 := denL_length (tt.zden ρ)
      rw [tt.zlen, hsz] at h1
      have h2 : z.cells.toList.length = z.cells.size := Array.length_toList
      omega
    have fin : ∀ (v : Value) (w' : World), Fr (fun _ => False) w w' → v.oneCell' = true → SBok C (fun j => if j = 16 then some v else ρ j) w' v (.row 79 (.items [])) →
        ∃ v' ρ', Ending.returned v = .returned v' ∧ Fr C.F w w' ∧ MS C ρ' [(16, some (.row 79 (.items [])))] w' ∧ DomLt ρ' 32 ∧ denV ρ' (.one (.slc 16)) = some v' := by
      intro v w' hf hone hb
      refine ⟨v, fun j => if j = 16 then some v else ρ j, rfl, hf.mono fun _ _ h => h.elim, ⟨?_, ?_, ?_, ?_⟩, ?_, by simp [denV, den]⟩
      · intro j u hu
        have hu : (if j = 16 then some v else ρ j) = some u := hu
        split at hu
        · cases hu; exact hone
        · exact hms.one j u hu
      · intro j hj
        show (if j = 16 then some v else ρ j) = _
        rw [if_neg (by omega)]
        exact hms.pin j hj
      · intro j b hb2
        rw [look_cons] at hb2
        split at hb2
        · rename_i h16
          cases hb2
          exact ⟨v, by simp [← h16], hb⟩
        · cases hb2
      · intro j j' b b' u u' hne h1 h2
        rw [look_cons] at h1 h2
        split at h1
        · split at h2
          · exfalso; apply hne; omega
          · cases h2
        · cases h1
      · intro j u hu
        have hu : (if j = 16 then some v else ρ j) = some u := hu
        split at hu
        · omega
        · have := hdom j u hu; omega
    by_cases h0 : k = 0
    · subst h0
      refine (Go.Proofs.Any8.slices_Grow_room lays_grow none 0 0 0 w (Nat.le_refl _) (by decide) (by decide) (Nat.le_refl _)).mono ?_
      rintro e w' ⟨rfl, rfl⟩
      exact fin _ _ (Fr.refl _ _) rfl ⟨⟨rfl, .inl ⟨rfl, rfl⟩⟩, fun g hg => by cases hg⟩
    · have hL := Go.Proofs.Any8.slices_Grow_grow lays_grow inf z tt.info tt.zero (by rw [tt.size, hsz]; decide) none 0 0 k [] w (Nat.le_refl _) (by omega) (by rw [tt.bytes, hby]; omega) (by omega) (by simp) (fun _ => rfl) (fun a ha => by cases ha)
      refine hL.mono ?_
      rintro e w' ⟨rfl, rfl⟩
      have hge := grownCap_ge w (0 + k) 0 79
      have hcm : grownCap w (0 + k) 0 79 ≤ maxLen := grownCap_le_maxLen w (0 + k) 0 _ (by simp only [maxLen]; omega)
      refine fin _ _ ((Fr.refl _ w).drew.trans (Fr.alloc w.drew _ _)) rfl ⟨⟨rfl, .inr ⟨w.heap.size, _, _, (0, 0), rfl, Nat.zero_le _, (by show (w.heap.push _)[w.heap.size]? = _; rw [Array.getElem?_push_size]; rfl), Nat.zero_le _, Nat.zero_le _, hcm, ?_, rfl⟩⟩, fun g hg => ?_⟩
      · have hzs : ∀ m, (Builtin.zeroCells z.cells m).size = m * 2 := fun m => by rw [size_zeroCells, hz2]
        simp only [Array.size_append, hzs]
        show 0 + (0 + k - 0) * 2 + (grownCap w (0 + k) 0 79 - (0 + k)) * 2 = grownCap w (0 + k) 0 79 * 2
        omega
      · have : w.heap.size = g := by simpa [Value.ownBlock] using hg
        exact .inl (by rw [hw]; omega)
  · cases hs
def isItm (k r : Int) (x : Itm) : Bool := decide (k = x.k) && decide (r = x.r)
def sp_sindex : FSpec := ⟨[], fun | [.one (.rd (.items l)), .agg [.int .i64 k, .int .i32 r]] => some ([l.length ≤ 1000000000], .one (.int .i64 (idxZ (isItm k r) l))) | _ => none⟩
theorem vc_sindex (l : List Itm) (k r : Int) : vcP [] [] misc Tryz.f128 (.loop 2 (None (isItm k r) l) (fun i => ⟨[(0, .one (.slc 0)), (3, .one (.ptr 17 0)), (7, .one (.int .i64 l.length)), (8, .one (.int .i64 i.1))], [(0, some (.read (.items l))), (17, some (.cells 79 [.int .i64 k, .int .i32 r]))], 18⟩) (fun i => l.length - i.1) (fun _ => .nil) .nil) [.one (.rd (.items l)), .agg [.int .i64 k, .int .i32 r]] (.one (.int .i64 (idxZ (isItm k r) l))) = ((∃ (x : None (isItm k r) l), (↑(List.length l) : Int) = (↑(List.length l) : Int) ∧ (0 : Int) = (↑(Subtype.val x) : Int) ∧ l = l ∧ k = k ∧ r = r) ∧ ∀ (x : None (isItm k r) l), br (decide ((↑(Subtype.val x) : Int) < (↑(List.length l) : Int))) (((0 : Int) ≤ (↑(Subtype.val x) : Int) ∧ (↑(Subtype.val x) : Int) < (↑(List.length l) : Int)) ∧ Int.toNat (↑(Subtype.val x) : Int) < List.length l ∧ br (decide (k = Itm.k (List.getD l (Int.toNat (↑(Subtype.val x) : Int)) default)) && decide (r = Itm.r (List.getD l (Int.toNat (↑(Subtype.val x) : Int)) default))) ((↑(Subtype.val x) : Int) = idxZ (isItm k r) l) (inR IntKind.i64 ((↑(Subtype.val x) : Int) + (1 : Int)) ∧ ∃ (x' : None (isItm k r) l), ((↑(List.length l) : Int) = (↑(List.length l) : Int) ∧ (↑(Subtype.val x) : Int) + (1 : Int) = (↑(Subtype.val x') : Int) ∧ l = l ∧ k = k ∧ r = r) ∧ List.length l - Subtype.val x' < List.length l - Subtype.val x)) ((-1 : Int) = idxZ (isItm k r) l)) := by kernel_rfl
set_option maxHeartbeats 4000000 in
theorem of_sindex (h : ∀ (l : List Itm) (k r : Int), (l.length ≤ 1000000000) → vcP [] [] misc Tryz.f128 (.loop 2 (None (isItm k r) l) (fun i => ⟨[(0, .one (.slc 0)), (3, .one (.ptr 17 0)), (7, .one (.int .i64 l.length)), (8, .one (.int .i64 i.1))], [(0, some (.read (.items l))), (17, some (.cells 79 [.int .i64 k, .int .i32 r]))], 18⟩) (fun i => l.length - i.1) (fun _ => .nil) .nil) [.one (.rd (.items l)), .agg [.int .i64 k, .int .i32 r]] (.one (.int .i64 (idxZ (isItm k r) l)))) : FnP 128 sp_sindex := by
  refine fnP_ok (cs := []) (cas := []) (ms := misc) .nil .nil misc_ok 128 Tryz.f128 (by kernel_rfl) (by kernel_rfl) (by kernel_rfl) (fun | [.one (.rd (.items l)), .agg [.int .i64 k, .int .i32 r]] => .loop 2 (None (isItm k r) l) (fun i => ⟨[(0, .one (.slc 0)), (3, .one (.ptr 17 0)), (7, .one (.int .i64 l.length)), (8, .one (.int .i64 i.1))], [(0, some (.read (.items l))), (17, some (.cells 79 [.int .i64 k, .int .i32 r]))], 18⟩) (fun i => l.length - i.1) (fun _ => .nil) .nil | _ => .nil) ?_
  intro pvs p r hs hp
  unfold sp_sindex at hs
  simp only at hs
  split at hs
  · rename_i l k r
    cases hs
    refine h l k r ?_
    · exact hp
  · cases hs
def sp_sconcat : ASpec := ⟨fun | [.one (.slc 0)], [(0, some (.lit 23 4 [.slc 1, .slc 2, .slc 3, .slc 4])), (1, some (.read (.items a))), (2, some (.read (.items b))), (3, some (.read (.items c))), (4, some (.read (.items d)))] => some ([a.length + b.length + c.length + d.length ≤ 1000000000], .one (.slc 16), [(16, some (.row 79 (.items (a ++ b ++ c ++ d))))]) | _, _ => none⟩
theorem vc_sconcat (a b c d : List Itm) : vcA [] [(129, sp_sgrow)] misc Tryz.f99 (.turns 3 5 (fun _ => .dec 20 false .nil) (.turns 11 5 (fun _ => .nil) .nil)) [.one (.slc 0)] [(0, some (.lit 23 4 [.slc 1, .slc 2, .slc 3, .slc 4])), (1, some (.read (.items a))), (2, some (.read (.items b))), (3, some (.read (.items c))), (4, some (.read (.items d)))] (.one (.slc 16)) [(16, some (.row 79 (.items (a ++ b ++ c ++ d))))] = (letI v0 := ((0 : Int) ≤ (0 : Int) + (1 : Int) + (1 : Int) + (1 : Int) ∧ (0 : Int) + (1 : Int) + (1 : Int) + (1 : Int) < (↑(4 : Nat) : Int)); letI v1 := ((0 : Int) ≤ (0 : Int) + (1 : Int) + (1 : Int) ∧ (0 : Int) + (1 : Int) + (1 : Int) < (↑(4 : Nat) : Int)); letI v2 := ((0 : Int) ≤ (0 : Int) + (1 : Int) ∧ (0 : Int) + (1 : Int) < (↑(4 : Nat) : Int)); (((0 : Int) ≤ (0 : Int) ∧ (0 : Int) < (↑(4 : Nat) : Int)) ∧ inR IntKind.i64 ((0 : Int) + (↑(List.length a) : Int)) ∧ decide ((0 : Int) + (↑(List.length a) : Int) < (0 : Int)) = false ∧ inR IntKind.i64 ((0 : Int) + (1 : Int)) ∧ v2 ∧ inR IntKind.i64 ((0 : Int) + (↑(List.length a) : Int) + (↑(List.length b) : Int)) ∧ decide ((0 : Int) + (↑(List.length a) : Int) + (↑(List.length b) : Int) < (0 : Int)) = false ∧ inR IntKind.i64 ((0 : Int) + (1 : Int) + (1 : Int)) ∧ v1 ∧ inR IntKind.i64 ((0 : Int) + (↑(List.length a) : Int) + (↑(List.length b) : Int) + (↑(List.length c) : Int)) ∧ decide ((0 : Int) + (↑(List.length a) : Int) + (↑(List.length b) : Int) + (↑(List.length c) : Int) < (0 : Int)) = false ∧ inR IntKind.i64 ((0 : Int) + (1 : Int) + (1 : Int) + (1 : Int)) ∧ v0 ∧ inR IntKind.i64 ((0 : Int) + (↑(List.length a) : Int) + (↑(List.length b) : Int) + (↑(List.length c) : Int) + (↑(List.length d) : Int)) ∧ decide ((0 : Int) + (↑(List.length a) : Int) + (↑(List.length b) : Int) + (↑(List.length c) : Int) + (↑(List.length d) : Int) < (0 : Int)) = false ∧ inR IntKind.i64 ((0 : Int) + (1 : Int) + (1 : Int) + (1 : Int) + (1 : Int)) ∧ ((0 : Int) ≤ (0 : Int) + (↑(List.length a) : Int) + (↑(List.length b) : Int) + (↑(List.length c) : Int) + (↑(List.length d) : Int) ∧ (0 : Int) + (↑(List.length a) : Int) + (↑(List.length b) : Int) + (↑(List.length c) : Int) + (↑(List.length d) : Int) ≤ (1000000000 : Int)) ∧ ((0 : Int) ≤ (0 : Int) ∧ (0 : Int) < (↑(4 : Nat) : Int)) ∧ ((0 : Nat) + List.length a) * (16 : Nat) ≤ (140737488355328 : Nat) ∧ inR IntKind.i64 ((0 : Int) + (1 : Int)) ∧ v2 ∧ (List.length ([] ++ a) + List.length b) * (16 : Nat) ≤ (140737488355328 : Nat) ∧ inR IntKind.i64 ((0 : Int) + (1 : Int) + (1 : Int)) ∧ v1 ∧ (List.length ([] ++ a ++ b) + List.length c) * (16 : Nat) ≤ (140737488355328 : Nat) ∧ inR IntKind.i64 ((0 : Int) + (1 : Int) + (1 : Int) + (1 : Int)) ∧ v0 ∧ (List.length ([] ++ a ++ b ++ c) + List.length d) * (16 : Nat) ≤ (140737488355328 : Nat) ∧ inR IntKind.i64 ((0 : Int) + (1 : Int) + (1 : Int) + (1 : Int) + (1 : Int)) ∧ [] ++ a ++ b ++ c ++ d = a ++ b ++ c ++ d)) := by kernel_rfl
set_option maxHeartbeats 4000000 in
theorem of_sconcat (h : ∀ (a b c d : List Itm), (a.length + b.length + c.length + d.length ≤ 1000000000) → vcA [] [(129, sp_sgrow)] misc Tryz.f99 (.turns 3 5 (fun _ => .dec 20 false .nil) (.turns 11 5 (fun _ => .nil) .nil)) [.one (.slc 0)] [(0, some (.lit 23 4 [.slc 1, .slc 2, .slc 3, .slc 4])), (1, some (.read (.items a))), (2, some (.read (.items b))), (3, some (.read (.items c))), (4, some (.read (.items d)))] (.one (.slc 16)) [(16, some (.row 79 (.items (a ++ b ++ c ++ d))))]) : FnA 99 sp_sconcat := by
  refine fnA_ok (cs := []) (cas := [(129, sp_sgrow)]) (ms := misc) .nil (.cons ok_sgrow .nil) misc_ok 99 Tryz.f99 (by kernel_rfl) (by kernel_rfl) (by kernel_rfl) (fun | [.one (.slc 0)], [(0, some (.lit 23 4 [.slc 1, .slc 2, .slc 3, .slc 4])), (1, some (.read (.items a))), (2, some (.read (.items b))), (3, some (.read (.items c))), (4, some (.read (.items d)))] => .turns 3 5 (fun _ => .dec 20 false .nil) (.turns 11 5 (fun _ => .nil) .nil) | _, _ => .nil) ?_
  intro args mem p r post hs hp
  unfold sp_sconcat at hs
  simp only at hs
  split at hs
  · rename_i a b c d
    cases hs
    refine h a b c d ?_
    · exact hp
  · cases hs
theorem ok_sindex : FnP 128 sp_sindex := of_sindex (by
  intro l k r hl
  rw [vc_sindex]
  refine ⟨⟨.zero _ l, by and_intros <;> rfl⟩, fun x => br_of (fun h => ?_) fun h => ?_⟩
  · have h : x.1 < l.length := by simpa using h
    rw [Int.toNat_natCast]
    exact ⟨⟨by omega, by omega⟩, h, br_of (fun h1 => (x.hitZ h h1).symm) fun h1 => ⟨by simp only [inR]; omega, x.next default h h1, by and_intros <;> rfl, by show l.length - (x.1 + 1) < _; omega⟩⟩
  · exact (x.overZ (by simpa using h)).symm)
theorem ok_sconcat : FnA 99 sp_sconcat := of_sconcat (by
  intro a b c d h
  rw [vc_sconcat]
  and_intros
  all_goals first | rfl | omega | (simp only [inR]; omega) | exact decide_eq_false (by omega) | (simp only [List.length_append, List.length_nil]; omega))
def hasItm (k : Int) (l : List Itm) : Bool := l.any (isItm k 0)
def sp_scontains : FSpec := ⟨[], fun | [.one (.rd (.items l)), .agg [.int .i64 k, .int .i32 r]] => some ([l.length ≤ 1000000000], .one (.bool (l.any (isItm k r)))) | _ => none⟩
theorem vc_scontains (l : List Itm) (k r : Int) : vcP [(128, sp_sindex)] [] misc Tryz.f98 (.nil) [.one (.rd (.items l)), .agg [.int .i64 k, .int .i32 r]] (.one (.bool (l.any (isItm k r)))) = (List.length l ≤ (1000000000 : Nat) ∧ decide (idxZ (isItm k r) l ≥ (0 : Int)) = List.any l (isItm k r)) := by kernel_rfl
set_option maxHeartbeats 4000000 in
theorem of_scontains (h : ∀ (l : List Itm) (k r : Int), (l.length ≤ 1000000000) → vcP [(128, sp_sindex)] [] misc Tryz.f98 (.nil) [.one (.rd (.items l)), .agg [.int .i64 k, .int .i32 r]] (.one (.bool (l.any (isItm k r))))) : FnP 98 sp_scontains := by
  refine fnP_ok (cs := [(128, sp_sindex)]) (cas := []) (ms := misc) (.cons ok_sindex .nil) .nil misc_ok 98 Tryz.f98 (by kernel_rfl) (by kernel_rfl) (by kernel_rfl) (fun _ => .nil) ?_
  intro pvs p r hs hp
  unfold sp_scontains at hs
  simp only at hs
  split at hs
  · rename_i l k r
    cases hs
    refine h l k r ?_
    · exact hp
  · cases hs
theorem any_idxI {α : Type} (P : α → Bool) (l : List α) : decide (idxZ P l ≥ 0) = l.any P := by
  unfold idxZ
  rw [Bool.eq_iff_iff, decide_eq_true_iff, List.any_eq_true]
  by_cases h : l.findIdx P < l.length
  · rw [if_pos h]
    exact ⟨fun _ => ⟨_, List.getElem_mem h, List.findIdx_getElem (w := h)⟩, fun _ => by omega⟩
  · rw [if_neg h]
    have h0 : l.findIdx P = l.length := by have := List.findIdx_le_length (p := P) (xs := l); omega
    rw [List.findIdx_eq_length] at h0
    refine ⟨fun h => absurd h (by decide), ?_⟩
    rintro ⟨c, hc, h1⟩
    rw [h0 c hc] at h1; cases h1
theorem ok_scontains : FnP 98 sp_scontains := of_scontains (by
  intro l k r hl
  rw [vc_scontains]
  exact ⟨hl, any_idxI _ l⟩)
def sp_phas : ASpec := ⟨fun | [.one (.int .i64 k), .one (.slc 0)], [(0, some (.lit 23 4 [.slc 1, .slc 2, .slc 3, .slc 4])), (1, some (.read (.items a))), (2, some (.read (.items b))), (3, some (.read (.items c))), (4, some (.read (.items d)))] => some ([a.length + b.length + c.length + d.length ≤ 1000000000], .one (.bool (hasItm k (a ++ b ++ c ++ d))), []) | _, _ => none⟩
theorem vc_phas (k : Int) (a b c d : List Itm) : vcA [(98, sp_scontains)] [(99, sp_sconcat)] misc Tryz.f69 (.nil) [.one (.int .i64 k), .one (.slc 0)] [(0, some (.lit 23 4 [.slc 1, .slc 2, .slc 3, .slc 4])), (1, some (.read (.items a))), (2, some (.read (.items b))), (3, some (.read (.items c))), (4, some (.read (.items d)))] (.one (.bool (hasItm k (a ++ b ++ c ++ d)))) [] = (List.length a + List.length b + List.length c + List.length d ≤ (1000000000 : Nat) ∧ List.length (a ++ b ++ c ++ d) ≤ (1000000000 : Nat) ∧ List.any (a ++ b ++ c ++ d) (isItm k (0 : Int)) = hasItm k (a ++ b ++ c ++ d)) := by kernel_rfl
set_option maxHeartbeats 4000000 in
theorem of_phas (h : ∀ (k : Int) (a b c d : List Itm), (a.length + b.length + c.length + d.length ≤ 1000000000) → vcA [(98, sp_scontains)] [(99, sp_sconcat)] misc Tryz.f69 (.nil) [.one (.int .i64 k), .one (.slc 0)] [(0, some (.lit 23 4 [.slc 1, .slc 2, .slc 3, .slc 4])), (1, some (.read (.items a))), (2, some (.read (.items b))), (3, some (.read (.items c))), (4, some (.read (.items d)))] (.one (.bool (hasItm k (a ++ b ++ c ++ d)))) []) : FnA 69 sp_phas := by
  refine fnA_ok (cs := [(98, sp_scontains)]) (cas := [(99, sp_sconcat)]) (ms := misc) (.cons ok_scontains .nil) (.cons ok_sconcat .nil) misc_ok 69 Tryz.f69 (by kernel_rfl) (by kernel_rfl) (by kernel_rfl) (fun _ _ => .nil) ?_
  intro args mem p r post hs hp
  unfold sp_phas at hs
  simp only at hs
  split at hs
  · rename_i k a b c d
    cases hs
    refine h k a b c d ?_
    · exact hp
  · cases hs
theorem ok_phas : FnA 69 sp_phas := of_phas (by
  intro k a b c d h
  rw [vc_phas]
  refine ⟨h, ?_, ?_⟩
  · simp only [List.length_append]; omega
  · rfl)
def sp_pall : FSpec := ⟨[], fun | [.agg [.rd (.items pre), .rd (.items suf), .bool hn, .rd (.items npre), .rd (.items nsuf), .int .i64 mi, .int .i64 xi, .int .i64 mf, .int .i64 xf, .int .i64 ms, .int .i64 xs, .int .i64 pr, .int .i64 sc, .str inc, .bool ps, .int .i64 me, .bool px, .int .i64 pa, .int .i32 pd, .int .i64 pw], .one (.int .i64 k)] => some ([pre.length + suf.length + npre.length + nsuf.length ≤ 1000000000], .one (.bool (hasItm k (pre ++ suf ++ npre ++ nsuf)))) | _ => none⟩
theorem vc_pall (pre suf : List Itm) (hn : Bool) (npre nsuf : List Itm) (mi xi mf xf ms xs pr sc : Int) (inc : List UInt8) (ps : Bool) (me : Int) (px : Bool) (pa pd pw : Int) (k : Int) : vcP [] [(69, sp_phas)] misc Tryz.f35 (.nil) [.agg [.rd (.items pre), .rd (.items suf), .bool hn, .rd (.items npre), .rd (.items nsuf), .int .i64 mi, .int .i64 xi, .int .i64 mf, .int .i64 xf, .int .i64 ms, .int .i64 xs, .int .i64 pr, .int .i64 sc, .str inc, .bool ps, .int .i64 me, .bool px, .int .i64 pa, .int .i32 pd, .int .i64 pw], .one (.int .i64 k)] (.one (.bool (hasItm k (pre ++ suf ++ npre ++ nsuf)))) = (List.length pre + List.length suf + List.length npre + List.length nsuf ≤ (1000000000 : Nat) ∧ hasItm k (pre ++ suf ++ npre ++ nsuf) = hasItm k (pre ++ suf ++ npre ++ nsuf)) := by kernel_rfl
set_option maxHeartbeats 4000000 in
theorem of_pall (h : ∀ (pre suf : List Itm) (hn : Bool) (npre nsuf : List Itm) (mi xi mf xf ms xs pr sc : Int) (inc : List UInt8) (ps : Bool) (me : Int) (px : Bool) (pa pd pw : Int) (k : Int), (pre.length + suf.length + npre.length + nsuf.length ≤ 1000000000) → vcP [] [(69, sp_phas)] misc Tryz.f35 (.nil) [.agg [.rd (.items pre), .rd (.items suf), .bool hn, .rd (.items npre), .rd (.items nsuf), .int .i64 mi, .int .i64 xi, .int .i64 mf, .int .i64 xf, .int .i64 ms, .int .i64 xs, .int .i64 pr, .int .i64 sc, .str inc, .bool ps, .int .i64 me, .bool px, .int .i64 pa, .int .i32 pd, .int .i64 pw], .one (.int .i64 k)] (.one (.bool (hasItm k (pre ++ suf ++ npre ++ nsuf))))) : FnP 35 sp_pall := by
  refine fnP_ok (cs := []) (cas := [(69, sp_phas)]) (ms := misc) .nil (.cons ok_phas .nil) misc_ok 35 Tryz.f35 (by kernel_rfl) (by kernel_rfl) (by kernel_rfl) (fun _ => .nil) ?_
  intro pvs p r hs hp
  unfold sp_pall at hs
  simp only at hs
  split at hs
  · rename_i pre suf hn npre nsuf mi xi mf xf ms xs pr sc inc ps me px pa pd pw k
    cases hs
    refine h pre suf hn npre nsuf mi xi mf xf ms xs pr sc inc ps me px pa pd pw k ?_
    · exact hp
  · cases hs
theorem ok_pall : FnP 35 sp_pall := of_pall (by
  intro pre suf hn npre nsuf mi xi mf xf ms xs pr sc inc ps me px pa pd pw k h
  rw [vc_pall]
  exact ⟨h, rfl⟩)
def multT (l : List Itm) : Int := if hasItm 4 l = true then 2 else if hasItm 5 l = true then 3 else 0
def sp_pmult : FSpec := ⟨[], fun | [.agg [.rd (.items pre), .rd (.items suf), .bool hn, .rd (.items npre), .rd (.items nsuf), .int .i64 mi, .int .i64 xi, .int .i64 mf, .int .i64 xf, .int .i64 ms, .int .i64 xs, .int .i64 pr, .int .i64 sc, .str inc, .bool ps, .int .i64 me, .bool px, .int .i64 pa, .int .i32 pd, .int .i64 pw]] => some ([pre.length + suf.length + npre.length + nsuf.length ≤ 1000000000], .one (.int .i64 (multT (pre ++ suf ++ npre ++ nsuf)))) | _ => none⟩
theorem vc_pmult (pre suf : List Itm) (hn : Bool) (npre nsuf : List Itm) (mi xi mf xf ms xs pr sc : Int) (inc : List UInt8) (ps : Bool) (me : Int) (px : Bool) (pa pd pw : Int) : vcP [(35, sp_pall)] [] misc Tryz.f29 (.nil) [.agg [.rd (.items pre), .rd (.items suf), .bool hn, .rd (.items npre), .rd (.items nsuf), .int .i64 mi, .int .i64 xi, .int .i64 mf, .int .i64 xf, .int .i64 ms, .int .i64 xs, .int .i64 pr, .int .i64 sc, .str inc, .bool ps, .int .i64 me, .bool px, .int .i64 pa, .int .i32 pd, .int .i64 pw]] (.one (.int .i64 (multT (pre ++ suf ++ npre ++ nsuf)))) = (letI v0 := (pre ++ suf ++ npre ++ nsuf); (List.length pre + List.length suf + List.length npre + List.length nsuf ≤ (1000000000 : Nat) ∧ br (hasItm (4 : Int) v0) ((2 : Int) = multT v0) (List.length pre + List.length suf + List.length npre + List.length nsuf ≤ (1000000000 : Nat) ∧ br (hasItm (5 : Int) v0) ((3 : Int) = multT v0) ((0 : Int) = multT v0)))) := by kernel_rfl
set_option maxHeartbeats 4000000 in
theorem of_pmult (h : ∀ (pre suf : List Itm) (hn : Bool) (npre nsuf : List Itm) (mi xi mf xf ms xs pr sc : Int) (inc : List UInt8) (ps : Bool) (me : Int) (px : Bool) (pa pd pw : Int), (pre.length + suf.length + npre.length + nsuf.length ≤ 1000000000) → vcP [(35, sp_pall)] [] misc Tryz.f29 (.nil) [.agg [.rd (.items pre), .rd (.items suf), .bool hn, .rd (.items npre), .rd (.items nsuf), .int .i64 mi, .int .i64 xi, .int .i64 mf, .int .i64 xf, .int .i64 ms, .int .i64 xs, .int .i64 pr, .int .i64 sc, .str inc, .bool ps, .int .i64 me, .bool px, .int .i64 pa, .int .i32 pd, .int .i64 pw]] (.one (.int .i64 (multT (pre ++ suf ++ npre ++ nsuf))))) : FnP 29 sp_pmult := by
  refine fnP_ok (cs := [(35, sp_pall)]) (cas := []) (ms := misc) (.cons ok_pall .nil) .nil misc_ok 29 Tryz.f29 (by kernel_rfl) (by kernel_rfl) (by kernel_rfl) (fun _ => .nil) ?_
  intro pvs p r hs hp
  unfold sp_pmult at hs
  simp only at hs
  split at hs
  · rename_i pre suf hn npre nsuf mi xi mf xf ms xs pr sc inc ps me px pa pd pw
    cases hs
    refine h pre suf hn npre nsuf mi xi mf xf ms xs pr sc inc ps me px pa pd pw ?_
    · exact hp
  · cases hs
theorem ok_pmult : FnP 29 sp_pmult := of_pmult (by
  intro pre suf hn npre nsuf mi xi mf xf ms xs pr sc inc ps me px pa pd pw h
  rw [vc_pmult]
  unfold multT
  exact ⟨h, br_of (fun h1 => by rw [if_pos h1]) fun h1 => ⟨h, br_of (fun h2 => by rw [if_neg (by rw [h1]; decide), if_pos h2]) fun h2 => by rw [if_neg (by rw [h1]; decide), if_neg (by rw [h2]; decide)]⟩⟩)
end Go.Proofs.YtglfkihckkjniaaGreatDoor.Vx
namespace Go.Proofs.YtglfkihckkjniaaGreatDoor.Vx
open Go Go.RowKit
structure Pat where
  pre : List Itm
  suf : List Itm
  hn : Bool
  npre : List Itm
  nsuf : List Itm
  n : Num
  pa : Int
  pd : Int
  pw : Int
def Pat.pcs (p : Pat) : List Pc := [.rd (.items p.pre), .rd (.items p.suf), .bool p.hn, .rd (.items p.npre), .rd (.items p.nsuf), .int .i64 p.n.mi, .int .i64 p.n.xi, .int .i64 p.n.mf, .int .i64 p.n.xf, .int .i64 p.n.ms, .int .i64 p.n.xs, .int .i64 p.n.pr, .int .i64 p.n.sc, .str p.n.inc, .bool p.n.ps, .int .i64 p.n.me, .bool p.n.px, .int .i64 p.pa, .int .i32 p.pd, .int .i64 p.pw]
def itmsOf : Pc → Option (List Itm) | .rd (.items l) => some l | _ => none
def boolPc : Pc → Option Bool | .bool b => some b | _ => none
def i64Pc : Pc → Option Int | .int .i64 n => some n | _ => none
def i32Pc : Pc → Option Int | .int .i32 n => some n | _ => none
def strPc : Pc → Option (List UInt8) | .str s => some s | _ => none
theorem itmsOf_eq {x : Pc} {l : List Itm} (h : itmsOf x = some l) : x = .rd (.items l) := by unfold itmsOf at h; split at h <;> cases h; rfl
theorem boolPc_eq {x : Pc} {l : Bool} (h : boolPc x = some l) : x = .bool l := by unfold boolPc at h; split at h <;> cases h; rfl
theorem i64Pc_eq {x : Pc} {l : Int} (h : i64Pc x = some l) : x = .int .i64 l := by unfold i64Pc at h; split at h <;> cases h; rfl
theorem i32Pc_eq {x : Pc} {l : Int} (h : i32Pc x = some l) : x = .int .i32 l := by unfold i32Pc at h; split at h <;> cases h; rfl
theorem strPc_eq {x : Pc} {l : List UInt8} (h : strPc x = some l) : x = .str l := by unfold strPc at h; split at h <;> cases h; rfl
def patOf : List Pc → Option Pat
  | [a, b, c, d, e, f, g, h, i, j, k, l, m, n, o, p, q, r, s, t] =>
    (itmsOf a).bind fun a => (itmsOf b).bind fun b => (boolPc c).bind fun c => (itmsOf d).bind fun d => (itmsOf e).bind fun e =>
    (i64Pc f).bind fun f => (i64Pc g).bind fun g => (i64Pc h).bind fun h => (i64Pc i).bind fun i => (i64Pc j).bind fun j => (i64Pc k).bind fun k => (i64Pc l).bind fun l => (i64Pc m).bind fun m =>
    (strPc n).bind fun n => (boolPc o).bind fun o => (i64Pc p).bind fun p => (boolPc q).bind fun q => (i64Pc r).bind fun r => (i32Pc s).bind fun s => (i64Pc t).bind fun t =>
    some ⟨a, b, c, d, e, ⟨f, g, h, i, j, k, l, m, n, o, p, q⟩, r, s, t⟩
  | _ => none
theorem patOf_eq {l : List Pc} {p : Pat} (h : patOf l = some p) : l = p.pcs := by
  unfold patOf at h
  split at h
  · simp only [Option.bind_eq_some_iff] at h
    obtain ⟨a, ha, b, hb, c, hc, d, hd, e, he, f, hf, g, hg, hh, h1, i, hi, j, hj, k, hk, l, hl, m, hm, n, hn, o, ho, p', hp, q, hq, r, hr, s, hs, t, ht, h2⟩ := h
    cases h2
    rw [itmsOf_eq ha, itmsOf_eq hb, boolPc_eq hc, itmsOf_eq hd, itmsOf_eq he, i64Pc_eq hf, i64Pc_eq hg, i64Pc_eq h1, i64Pc_eq hi, i64Pc_eq hj, i64Pc_eq hk, i64Pc_eq hl, i64Pc_eq hm, strPc_eq hn, boolPc_eq ho, i64Pc_eq hp, boolPc_eq hq, i64Pc_eq hr, i32Pc_eq hs, i64Pc_eq ht]
    rfl
  · cases h
structure PT where
  px : List Itm
  sx : List Itm
  n : Num
  w : Int
  sp : Spot
def PT.pcs (t : PT) : List Pc := .rd (.items t.px) :: .rd (.items t.sx) :: ((⟨[], [], false, [], [], t.n, 0, 0, t.w⟩ : Pat).pcs ++ [.int .i32 t.sp.r, .int .i64 t.sp.p, .int .i64 t.sp.w])
def pt0 : PT := ⟨[], [], z0, 0, ⟨0, 0, 0⟩⟩
def readT (l : List Iv) (b : Int) (first : Bool) : PT × Int × Int :=
  if (cutT l b).2 = false then (pt0, 4, b)
  else if (paddedT (spotsT (cutT l b).1.p (cutT l b).1.s) first).2.1 ≠ 0 then (pt0, (paddedT (spotsT (cutT l b).1.p (cutT l b).1.s) first).2)
  else if (itemsR (plainT (cutT l b).1.p)).2.1 ≠ 0 then (pt0, (itemsR (plainT (cutT l b).1.p)).2)
  else if (numT (cutT l b).1.t).2 ≠ 0 then (pt0, (numT (cutT l b).1.t).2, (cutT l b).1.a)
  else if (itemsR (plainT (cutT l b).1.s)).2.1 ≠ 0 then (pt0, (itemsR (plainT (cutT l b).1.s)).2)
  else (⟨(itemsR (plainT (cutT l b).1.p)).1, (itemsR (plainT (cutT l b).1.s)).1, (numT (cutT l b).1.t).1,
    if (paddedT (spotsT (cutT l b).1.p (cutT l b).1.s) first).1.w ≠ 0 then ((itemsR (plainT (cutT l b).1.p)).1.length : Int) + ((itemsR (plainT (cutT l b).1.s)).1.length : Int) + ((cutT l b).1.t.length : Int) else 0,
    (paddedT (spotsT (cutT l b).1.p (cutT l b).1.s) first).1⟩, 0, 0)
def sp_pread : FSpec := ⟨[], fun | [.one (.rd (.ivs l)), .one (.int .i64 b), .one (.bool first)] => some ([EOK l, l.length ≤ 1000000], .tup [(true, (readT l b first).1.pcs), (true, [.int .i64 (readT l b first).2.1, .int .i64 (readT l b first).2.2])]) | _ => none⟩
theorem vc_pread (l : List Iv) (b : Int) (first : Bool) : vcP [(63, sp_pcut), (64, sp_padded), (66, sp_plain), (65, sp_aitems), (67, sp_nparse)] [] misc Tryz.f33 (.nil) [.one (.rd (.ivs l)), .one (.int .i64 b), .one (.bool first)] (.tup [(true, (readT l b first).1.pcs), (true, [.int .i64 (readT l b first).2.1, .int .i64 (readT l b first).2.2])]) = (letI v0 : Pat := { pre := [], suf := [], hn := false, npre := [], nsuf := [], n := PT.n (readT l b first).1, pa := (0 : Int), pd := (0 : Int), pw := PT.w (readT l b first).1 }; letI v1 := ([] = PT.px (readT l b first).1 ∧ [] = PT.sx (readT l b first).1 ∧ [] = Pat.pre v0 ∧ [] = Pat.suf v0 ∧ false = Pat.hn v0 ∧ [] = Pat.npre v0 ∧ [] = Pat.nsuf v0 ∧ (0 : Int) = Num.mi (Pat.n v0) ∧ (0 : Int) = Num.xi (Pat.n v0) ∧ (0 : Int) = Num.mf (Pat.n v0) ∧ (0 : Int) = Num.xf (Pat.n v0) ∧ (0 : Int) = Num.ms (Pat.n v0) ∧ (0 : Int) = Num.xs (Pat.n v0) ∧ (0 : Int) = Num.pr (Pat.n v0) ∧ (0 : Int) = Num.sc (Pat.n v0) ∧ [] = Num.inc (Pat.n v0) ∧ false = Num.ps (Pat.n v0) ∧ (0 : Int) = Num.me (Pat.n v0) ∧ false = Num.px (Pat.n v0) ∧ (0 : Int) = Pat.pa v0 ∧ (0 : Int) = Pat.pd v0 ∧ (0 : Int) = Pat.pw v0 ∧ (0 : Int) = Spot.r (PT.sp (readT l b first).1) ∧ (0 : Int) = Spot.p (PT.sp (readT l b first).1) ∧ (0 : Int) = Spot.w (PT.sp (readT l b first).1)); letI v2 := (numT (HalfT.t (cutT l b).1)); letI v3 := (paddedT (spotsT (HalfT.p (cutT l b).1) (HalfT.s (cutT l b).1)) first); letI v4 := (itemsR (plainT (HalfT.p (cutT l b).1))); letI v5 := (itemsR (plainT (HalfT.s (cutT l b).1))); ((∀ (y : Iv), y ∈ l → Iv.isE y = true ∧ (Iv.isS y = true → scalar (Iv.sR y) = true)) ∧ List.length l ≤ (1000000000 : Nat) ∧ br (!(cutT l b).2) (v1 ∧ (4 : Int) = (readT l b first).2.1 ∧ b = (readT l b first).2.2) (List.length (HalfT.p (cutT l b).1) ≤ (1000000000 : Nat) ∧ List.length (HalfT.s (cutT l b).1) ≤ (1000000000 : Nat) ∧ br (v3.2.1 != (0 : Int)) (v1 ∧ v3.2.1 = (readT l b first).2.1 ∧ v3.2.2 = (readT l b first).2.2) (List.length (HalfT.p (cutT l b).1) ≤ (1000000000 : Nat) ∧ List.length (plainT (HalfT.p (cutT l b).1)) ≤ (1000000000 : Nat) ∧ br (v4.2.1 != (0 : Int)) (v1 ∧ v4.2.1 = (readT l b first).2.1 ∧ v4.2.2 = (readT l b first).2.2) ((∀ (c : UInt8), c ∈ HalfT.t (cutT l b).1 → UInt8.toNat c < (128 : Nat)) ∧ List.length (HalfT.t (cutT l b).1) ≤ (100000000 : Nat) ∧ br (v2.2 != (0 : Int)) (v1 ∧ v2.2 = (readT l b first).2.1 ∧ HalfT.a (cutT l b).1 = (readT l b first).2.2) (List.length (HalfT.s (cutT l b).1) ≤ (1000000000 : Nat) ∧ List.length (plainT (HalfT.s (cutT l b).1)) ≤ (1000000000 : Nat) ∧ br (v5.2.1 != (0 : Int)) (v1 ∧ v5.2.1 = (readT l b first).2.1 ∧ v5.2.2 = (readT l b first).2.2) (br (Spot.w v3.1 != (0 : Int)) (inR IntKind.i64 ((↑(List.length v4.1) : Int) + (↑(List.length v5.1) : Int)) ∧ inR IntKind.i64 ((↑(List.length v4.1) : Int) + (↑(List.length v5.1) : Int) + (↑(List.length (HalfT.t (cutT l b).1)) : Int)) ∧ (v4.1 = PT.px (readT l b first).1 ∧ v5.1 = PT.sx (readT l b first).1 ∧ [] = Pat.pre v0 ∧ [] = Pat.suf v0 ∧ false = Pat.hn v0 ∧ [] = Pat.npre v0 ∧ [] = Pat.nsuf v0 ∧ Num.mi v2.1 = Num.mi (Pat.n v0) ∧ Num.xi v2.1 = Num.xi (Pat.n v0) ∧ Num.mf v2.1 = Num.mf (Pat.n v0) ∧ Num.xf v2.1 = Num.xf (Pat.n v0) ∧ Num.ms v2.1 = Num.ms (Pat.n v0) ∧ Num.xs v2.1 = Num.xs (Pat.n v0) ∧ Num.pr v2.1 = Num.pr (Pat.n v0) ∧ Num.sc v2.1 = Num.sc (Pat.n v0) ∧ Num.inc v2.1 = Num.inc (Pat.n v0) ∧ Num.ps v2.1 = Num.ps (Pat.n v0) ∧ Num.me v2.1 = Num.me (Pat.n v0) ∧ Num.px v2.1 = Num.px (Pat.n v0) ∧ (0 : Int) = Pat.pa v0 ∧ (0 : Int) = Pat.pd v0 ∧ (↑(List.length v4.1) : Int) + (↑(List.length v5.1) : Int) + (↑(List.length (HalfT.t (cutT l b).1)) : Int) = Pat.pw v0 ∧ Spot.r v3.1 = Spot.r (PT.sp (readT l b first).1) ∧ Spot.p v3.1 = Spot.p (PT.sp (readT l b first).1) ∧ Spot.w v3.1 = Spot.w (PT.sp (readT l b first).1)) ∧ (0 : Int) = (readT l b first).2.1 ∧ (0 : Int) = (readT l b first).2.2) ((v4.1 = PT.px (readT l b first).1 ∧ v5.1 = PT.sx (readT l b first).1 ∧ [] = Pat.pre v0 ∧ [] = Pat.suf v0 ∧ false = Pat.hn v0 ∧ [] = Pat.npre v0 ∧ [] = Pat.nsuf v0 ∧ Num.mi v2.1 = Num.mi (Pat.n v0) ∧ Num.xi v2.1 = Num.xi (Pat.n v0) ∧ Num.mf v2.1 = Num.mf (Pat.n v0) ∧ Num.xf v2.1 = Num.xf (Pat.n v0) ∧ Num.ms v2.1 = Num.ms (Pat.n v0) ∧ Num.xs v2.1 = Num.xs (Pat.n v0) ∧ Num.pr v2.1 = Num.pr (Pat.n v0) ∧ Num.sc v2.1 = Num.sc (Pat.n v0) ∧ Num.inc v2.1 = Num.inc (Pat.n v0) ∧ Num.ps v2.1 = Num.ps (Pat.n v0) ∧ Num.me v2.1 = Num.me (Pat.n v0) ∧ Num.px v2.1 = Num.px (Pat.n v0) ∧ (0 : Int) = Pat.pa v0 ∧ (0 : Int) = Pat.pd v0 ∧ (0 : Int) = Pat.pw v0 ∧ Spot.r v3.1 = Spot.r (PT.sp (readT l b first).1) ∧ Spot.p v3.1 = Spot.p (PT.sp (readT l b first).1) ∧ Spot.w v3.1 = Spot.w (PT.sp (readT l b first).1)) ∧ (0 : Int) = (readT l b first).2.1 ∧ (0 : Int) = (readT l b first).2.2)))))))) := by kernel_rfl
set_option maxHeartbeats 4000000 in
theorem of_pread (h : ∀ (l : List Iv) (b : Int) (first : Bool), (EOK l) → (l.length ≤ 1000000) → vcP [(63, sp_pcut), (64, sp_padded), (66, sp_plain), (65, sp_aitems), (67, sp_nparse)] [] misc Tryz.f33 (.nil) [.one (.rd (.ivs l)), .one (.int .i64 b), .one (.bool first)] (.tup [(true, (readT l b first).1.pcs), (true, [.int .i64 (readT l b first).2.1, .int .i64 (readT l b first).2.2])])) : FnP 33 sp_pread := by
  refine fnP_ok (cs := [(63, sp_pcut), (64, sp_padded), (66, sp_plain), (65, sp_aitems), (67, sp_nparse)]) (cas := []) (ms := misc) (.cons ok_pcut (.cons ok_padded (.cons ok_plain (.cons ok_aitems (.cons ok_nparse .nil))))) .nil misc_ok 33 Tryz.f33 (by kernel_rfl) (by kernel_rfl) (by kernel_rfl) (fun _ => .nil) ?_
  intro pvs p r hs hp
  unfold sp_pread at hs
  simp only at hs
  split at hs
  · rename_i l b first
    cases hs
    refine h l b first ?_ ?_
    · exact hp.1
    · exact hp.2
  · cases hs
theorem itemsR_len (l : List Tok) : (itemsR l).1.length ≤ 40 := by
  unfold itemsR
  split
  · exact Nat.zero_le _
  · split
    · exact Nat.zero_le _
    · show (itemsL l).1.length ≤ 40; omega
theorem isIn_asc {c : List UInt8} (hc : Asc c) {y : Iv} (h : isIn c y = true) : 0 ≤ y.sR ∧ y.sR < 128 := by
  unfold isIn hasR at h
  rw [Bool.and_eq_true, Bool.and_eq_true, List.any_eq_true] at h
  obtain ⟨_, _, x, hx, h2⟩ := h
  have h2 : (x.toNat : Int) = y.sR := by simpa using h2
  have := hc x hx
  omega
theorem cut_asc {l : List Iv} (h : cutN l < l.length) {i : Nat} (h1 : cutN l ≤ i) (h2 : i < cutE l) : 0 ≤ (l.getD i default).sR ∧ (l.getD i default).sR < 128 := by
  have h69 : Asc [69] := asc_iff.2 rfl
  have h43 : Asc [43] := asc_iff.2 rfl
  by_cases ha : i < cutA l (cutN l)
  · exact isIn_asc bodyC_asc (run_drop h1 ha)
  · unfold cutE at h2
    split at h2
    · rename_i h3
      by_cases hb : i < cutB l (cutA l (cutN l))
      · by_cases hc : i = cutA l (cutN l)
        · subst hc
          exact isIn_asc h69 (run_drop (c := [69]) (Nat.le_refl _) (by omega))
        · refine isIn_asc h43 (run_drop (c := [43]) (p := cutA l (cutN l) + 1) (by omega) ?_)
          unfold cutB at hb
          omega
      · exact isIn_asc bodyC_asc (run_drop (by omega) h2)
    · exact absurd h2 ha
theorem encs_asc : ∀ {l : List Int}, (∀ r ∈ l, 0 ≤ r ∧ r < 128) → Asc (encs l) ∧ (encs l).length = l.length := by
  intro l
  induction l with
  | nil => intro _; exact ⟨fun c hc => (by cases hc), rfl⟩
  | cons r l ih =>
    intro h
    obtain ⟨h1, h2⟩ := ih fun x hx => h x (List.mem_cons_of_mem _ hx)
    have h3 := h r List.mem_cons_self
    rw [encs_cons, enc1 h3.1 h3.2]
    refine ⟨fun c hc => ?_, by simp [h2]⟩
    rcases List.mem_cons.1 hc with hc | hc
    · rw [hc]
      have := ofNat_toNat h3.1 (by omega : r < 256)
      omega
    · exact h1 c hc
theorem cutT_txt (l : List Iv) (b : Int) : Asc (cutT l b).1.t ∧ (cutT l b).1.t.length ≤ l.length ∧ (cutT l b).1.p.length ≤ l.length ∧ (cutT l b).1.s.length ≤ l.length := by
  unfold cutT
  split
  · rename_i h
    have hh := encs_asc (l := ((l.take (cutE l)).drop (cutN l)).map Iv.sR) (by
      intro r hr
      obtain ⟨y, hy, rfl⟩ := List.mem_map.1 hr
      obtain ⟨i, i1, i2, i3, rfl⟩ := mem_mid default hy
      exact cut_asc h i1 i2)
    refine ⟨hh.1, ?_, ?_, ?_⟩
    · show (encs _).length ≤ _
      rw [hh.2, List.length_map, List.length_drop, List.length_take]; omega
    · show (l.take _).length ≤ _
      rw [List.length_take]; omega
    · show (l.drop _).length ≤ _
      rw [List.length_drop]; omega
  · exact ⟨fun c hc => (by cases hc), Nat.zero_le _, Nat.zero_le _, Nat.zero_le _⟩
set_option maxHeartbeats 4000000 in
theorem ok_pread : FnP 33 sp_pread := of_pread (by
  intro l b first hl hn
  rw [vc_pread]
  obtain ⟨t1, t2, t3, t4⟩ := cutT_txt l b
  have p1 := plainT_len (cutT l b).1.p
  have p2 := plainT_len (cutT l b).1.s
  have i1 := itemsR_len (plainT (cutT l b).1.p)
  have i2 := itemsR_len (plainT (cutT l b).1.s)
  refine ⟨hl, by omega, br_of (fun h => ?_) fun h => ⟨by omega, by omega, br_of (fun h1 => ?_) fun h1 => ⟨by omega, by omega, br_of (fun h2 => ?_) fun h2 => ⟨t1, by omega, br_of (fun h3 => ?_) fun h3 => ⟨by omega, by omega, br_of (fun h4 => ?_) fun h4 => br_of (fun h5 => ⟨by simp only [inR]; omega, by simp only [inR]; omega, ?_⟩) fun h5 => ?_⟩⟩⟩⟩⟩
  · have h : (cutT l b).2 = false := by simpa using h
    have hE : readT l b first = (pt0, 4, b) := by unfold readT; rw [if_pos h]
    rw [hE]; and_intros <;> rfl
  all_goals have h : ¬ (cutT l b).2 = false := by simpa using h
  · have h1 : (paddedT (spotsT (cutT l b).1.p (cutT l b).1.s) first).2.1 ≠ 0 := by simpa using h1
    have hE : readT l b first = (pt0, (paddedT (spotsT (cutT l b).1.p (cutT l b).1.s) first).2) := by unfold readT; rw [if_neg h, if_pos h1]
    rw [hE]; and_intros <;> rfl
  all_goals have h1 : ¬ (paddedT (spotsT (cutT l b).1.p (cutT l b).1.s) first).2.1 ≠ 0 := by simpa using h1
  · have h2 : (itemsR (plainT (cutT l b).1.p)).2.1 ≠ 0 := by simpa using h2
    have hE : readT l b first = (pt0, (itemsR (plainT (cutT l b).1.p)).2) := by unfold readT; rw [if_neg h, if_neg h1, if_pos h2]
    rw [hE]; and_intros <;> rfl
  all_goals have h2 : ¬ (itemsR (plainT (cutT l b).1.p)).2.1 ≠ 0 := by simpa using h2
  · have h3 : (numT (cutT l b).1.t).2 ≠ 0 := by simpa using h3
    have hE : readT l b first = (pt0, (numT (cutT l b).1.t).2, (cutT l b).1.a) := by unfold readT; rw [if_neg h, if_neg h1, if_neg h2, if_pos h3]
    rw [hE]; and_intros <;> rfl
  all_goals have h3 : ¬ (numT (cutT l b).1.t).2 ≠ 0 := by simpa using h3
  · have h4 : (itemsR (plainT (cutT l b).1.s)).2.1 ≠ 0 := by simpa using h4
    have hE : readT l b first = (pt0, (itemsR (plainT (cutT l b).1.s)).2) := by unfold readT; rw [if_neg h, if_neg h1, if_neg h2, if_neg h3, if_pos h4]
    rw [hE]; and_intros <;> rfl
  all_goals have h4 : ¬ (itemsR (plainT (cutT l b).1.s)).2.1 ≠ 0 := by simpa using h4
  · have h5 : (paddedT (spotsT (cutT l b).1.p (cutT l b).1.s) first).1.w ≠ 0 := by simpa using h5
    have hE : readT l b first = (⟨(itemsR (plainT (cutT l b).1.p)).1, (itemsR (plainT (cutT l b).1.s)).1, (numT (cutT l b).1.t).1, ((itemsR (plainT (cutT l b).1.p)).1.length : Int) + ((itemsR (plainT (cutT l b).1.s)).1.length : Int) + ((cutT l b).1.t.length : Int), (paddedT (spotsT (cutT l b).1.p (cutT l b).1.s) first).1⟩, 0, 0) := by
      unfold readT; rw [if_neg h, if_neg h1, if_neg h2, if_neg h3, if_neg h4, if_pos h5]
    rw [hE]; and_intros <;> rfl
  · have h5 : ¬ (paddedT (spotsT (cutT l b).1.p (cutT l b).1.s) first).1.w ≠ 0 := by simpa using h5
    have hE : readT l b first = (⟨(itemsR (plainT (cutT l b).1.p)).1, (itemsR (plainT (cutT l b).1.s)).1, (numT (cutT l b).1.t).1, 0, (paddedT (spotsT (cutT l b).1.p (cutT l b).1.s) first).1⟩, 0, 0) := by
      unfold readT; rw [if_neg h, if_neg h1, if_neg h2, if_neg h3, if_neg h4, if_neg h5]
    rw [hE]; and_intros <;> rfl)
end Go.Proofs.YtglfkihckkjniaaGreatDoor.Vx
namespace Go.Proofs.YtglfkihckkjniaaGreatDoor.Vx
open Go Go.RowKit
theorem item_info : ∃ inf z, Tryz.prog.info? 79 = some inf ∧ inf.zero = some z ∧ inf.size = 2 ∧ inf.bytes = 16 ∧ z.cells.size = 2 := by
  obtain ⟨i, hi⟩ := Option.isSome_iff_exists.1 (show (look 79 T).isSome = true by kernel_rfl)
  have hsz : i.size = 2 := by
    have h1 : (look 79 T).map (fun i => i.size) = some 2 := by kernel_rfl
    rw [hi] at h1; simpa using h1
  have hby : i.bytes = 16 := by
    have h1 : (look 79 T).map (fun i => i.bytes) = some 16 := by kernel_rfl
    rw [hi] at h1; simpa using h1
  obtain ⟨inf, d, z, tt⟩ := tbl_get T_ok hi
  refine ⟨inf, z, tt.info, tt.zero, by rw [tt.size, hsz], by rw [tt.bytes, hby], ?_⟩
  have h1 := denL_length (tt.zden fun _ => none)
  rw [tt.zlen, hsz] at h1
  have h2 : z.cells.toList.length = z.cells.size := Array.length_toList
  omega
set_option maxHeartbeats 2000000 in
theorem clone_some (w : World) (a : Addr) (n c : Nat) (news : List Value) (hl : news.length = n * 2) (hnews : ∀ j u, news[j]? = some u → w.cell? (a.add j) = some u) (h1 : ∀ u ∈ news, u.oneCell' = true) (hn : n ≤ 1000000000) :
    Calls Tryz.prog 68 #[.slice (some a) n c] w fun e w' => ∃ v', e = .returned v' ∧ w'.ownsRow w.heap.size 79 2 v' n news ∧ Below w.heap.size w w' := by
  obtain ⟨inf, z, hi, hz, hs, hb, hz2⟩ := item_info
  have q22 := fun (w : World) (a : Option Addr) (n c n' c' : Nat) => Lib.run_eql_slice_nil (P := Tryz.prog) w 23 79 a n c n' c' Tryz.underlying23
  have mx : Tryz.prog.follows .mixedOrders = true := mixed
  go_enter Tryz.func68, Tryz.ntmps68
  go_wp2_with (at_builtin; refine wpList_append_own _ rfl _ _ 23 rfl w.heap.size 79 inf z 2 16 Tryz.underlying23 hi hz hs hb hz2 (by decide) _ _ _ rfl (World.ownsRow_made w #[] 0 (Nat.le_refl _) (Nat.zero_le _) rfl) a n c news rfl hl ?qc2 h1 ?qc4 ?qc5 ?qc6 ?_)
  case qc2 =>
    intro j u hj
    exact Lib.cell?_alloc_some _ (hnews j u hj)
  case qc4 => unfold maxLen; omega
  case qc5 => omega
  case qc6 => simp
  intro v' w1 hown hgrow hnil
  go_wp2
  go_ret
  refine ⟨v', rfl, by simpa using hown, ?_⟩
  exact ((Below.refl _ w).alloc (Nat.le_refl _) _).grown hgrow (by simp) (by intro k hk; simp [Value.ownBlock] at hk; omega)
set_option maxHeartbeats 2000000 in
theorem clone_none (w : World) (n c : Nat) :
    Calls Tryz.prog 68 #[.slice none n c] w fun e w' => e = .returned (.slice none 0 0) ∧ w' = w := by
  have q22 := fun (w : World) (a : Option Addr) (n c n' c' : Nat) => Lib.run_eql_slice_nil (P := Tryz.prog) w 23 79 a n c n' c' Tryz.underlying23
  have mx : Tryz.prog.follows .mixedOrders = true := mixed
  go_enter Tryz.func68, Tryz.ntmps68
  go_wp2
  go_ret
  exact ⟨rfl, rfl⟩
theorem items_flat_len (l : List Itm) : (Ls.flat (.items l)).length = l.length * 2 := by
  unfold Ls.flat
  simp only [Ls.rows]
  induction l with
  | nil => rfl
  | cons x l ih => rw [List.map_cons, List.flatten_cons, List.length_append, ih]; show 2 + _ = (l.length + 1) * 2; omega
theorem items_flat_one (l : List Itm) : ∀ u ∈ Ls.flat (.items l), u.oneCell' = true := by
  intro u hu
  unfold Ls.flat at hu
  simp only [Ls.rows] at hu
  obtain ⟨r, hr, hu⟩ := List.mem_flatten.1 hu
  obtain ⟨x, _, rfl⟩ := List.mem_map.1 hr
  simp only [Itm.enc, List.mem_cons, List.not_mem_nil, or_false] at hu
  rcases hu with rfl | rfl <;> rfl
def sp_sclone : FSpec := ⟨[], fun | [.one (.rd (.items l))] => some ([l.length ≤ 1000000000], .one (.rd (.items l))) | _ => none⟩
theorem ok_sclone : FnP 68 sp_sclone := by
  refine ⟨body_of Tryz.f68 (by kernel_rfl) (by kernel_rfl) (by kernel_rfl), ?_⟩
  intro pvs p r hs hp w B args hg ha
  unfold sp_sclone at hs
  simp only at hs
  split at hs
  · rename_i l
    cases hs
    have hp : l.length ≤ 1000000000 := hp
    obtain ⟨v, rfl, hv⟩ := args1 ha
    obtain ⟨A, c, rfl, h1, h2, h3⟩ := hv
    cases A with
    | none =>
      have h0 : l = [] := by
        cases l with
        | nil => rfl
        | cons x l =>
          obtain ⟨b, o, e, _⟩ := h3 (Nat.succ_pos _)
          cases e
      subst h0
      refine (clone_none w 0 c).mono ?_
      rintro e w' ⟨rfl, rfl⟩
      exact ⟨_, rfl, Fr.refl _ _, ⟨none, 0, rfl, Nat.le_refl _, Nat.zero_le _, fun h => absurd h (Nat.lt_irrefl _)⟩⟩
    | some a =>
      have hfl := items_flat_len l
      refine (clone_some w a l.length c (Ls.flat (.items l)) hfl ?_ (items_flat_one l) hp).mono ?_
      · intro j u hj
        have hjl := (List.getElem?_eq_some_iff.1 hj).1
        have hpos : 0 < l.length := by omega
        obtain ⟨b, o, e, h4, _⟩ := h3 hpos
        cases e
        rw [Addr.add_lit]
        have hsz : (Ls.items l).len * (Ls.items l).sz = l.length * 2 := rfl
        rw [h4 j (by rw [hsz]; omega), hj]
      · rintro e w' ⟨v', rfl, hown, hb⟩
        refine ⟨v', rfl, Fr.below hb _, ?_⟩
        rcases hown.2 with ⟨rfl, hz⟩ | ⟨g, cap, cur, rfl, hbg, hg', hnc, hcm, hcs, htake⟩
        · have h0 : l = [] := List.eq_nil_of_length_eq_zero hz
          subst h0
          exact ⟨none, 0, rfl, Nat.le_refl _, Nat.zero_le _, fun h => absurd h (Nat.lt_irrefl _)⟩
        · refine ⟨some ⟨g, 0, none⟩, cap, rfl, hnc, Nat.le_trans hnc hcm, fun _ => ⟨g, 0, rfl, fun j hj => ?_, .inl hbg⟩⟩
          have hsz : (Ls.items l).len * (Ls.items l).sz = l.length * 2 := rfl
          rw [hsz] at hj
          rw [← htake, List.getElem?_take, if_pos hj]
          simp only [World.cell?, hg', Nat.zero_add]
          simp
  · cases hs
end Go.Proofs.YtglfkihckkjniaaGreatDoor.Vx
namespace Go.Proofs.YtglfkihckkjniaaGreatDoor.Vx
open Go Go.RowKit
theorem relit {C : Ctx} {ρ : Env} {S : AS} {a : Act} {w : World} {dst : Option Nat} {fr n : Nat} {e : TypeId} {cs : List SC} {l0 l : Ls}
    (h : Sat C ρ (S.upd dst ⟨.one (.slc fr), [(fr, some (.lit e n cs))]⟩) a w) (h0 : initLs e = some l0) (hr : snocs l0.sz n cs l0 = some l) (hc : cs.length = n * l0.sz) (hn : n ≤ 1000000) :
    Sat C ρ (S.upd dst ⟨.one (.slc fr), [(fr, some (.row e l))]⟩) a w := by
  obtain ⟨z1, z2⟩ := initLs_len h0
  have hL : ∀ k, (S.upd dst ⟨.one (.slc fr), [(fr, some (.row e l))]⟩).blk k = if fr = k then some (.row e l) else (S.upd dst ⟨.one (.slc fr), [(fr, some (.lit e n cs))]⟩).blk k := by
    intro k
    show (look k ((fr, some (SB.row e l)) :: _)).join = if fr = k then _ else (look k ((fr, some (SB.lit e n cs)) :: _)).join
    rw [look_cons, look_cons]
    split <;> rfl
  have hF : (S.upd dst ⟨.one (.slc fr), [(fr, some (.lit e n cs))]⟩).blk fr = some (.lit e n cs) := by
    show (look fr ((fr, some (SB.lit e n cs)) :: _)).join = _
    rw [look_cons, if_pos rfl]; rfl
  refine ⟨h.frame, h.tsize, h.defers, h.one, h.pin, h.slots, ?_, ?_⟩
  · intro k b hk
    rw [hL] at hk
    split at hk
    · rename_i hfk
      subst hfk
      cases hk
      obtain ⟨v, h1, b, vs, rfl, h2, h3, h4⟩ := h.mem _ _ hF
      obtain ⟨us, g1, g2, g3, g4⟩ := snocs_ok ρ n cs l0 l hr (by omega)
      rw [← hc, List.take_length] at g1
      rw [g1] at h2
      cases h2
      have hlen := denL_length g1
      refine ⟨_, h1, ⟨by rw [Ls.flat_length], .inr ⟨b, n, _, (0, 0), by rw [g3, z1, Nat.zero_add], Nat.zero_le _, h3, Nat.zero_le _, by rw [g3, z1]; omega, by simp only [maxLen]; omega, by rw [g4]; simp; omega, ?_⟩⟩, fun g hg => ?_⟩
      · rw [g2, z2, List.nil_append, g3, z1, g4]
        have : vs.length = n * l0.sz := by omega
        show vs.take _ = vs
        rw [Nat.zero_add, ← this, List.take_length]
      · have : b = g := by simpa [Value.ownBlock] using hg
        rw [← this]; exact h4
    · exact h.mem k b hk
  · intro k k' b b' v v' hne hk hk' hm hv hv'
    rw [hL] at hk hk'
    split at hk
    · rename_i hfk
      subst hfk
      cases hk
      rw [if_neg hne] at hk'
      have h9 := h.apart fr k' (.lit e n cs) b' v v' hne hF hk' rfl hv hv'
      exact h9
    · split at hk'
      · rename_i hfk
        subst hfk
        cases hk'
        have h9 := h.apart k fr b (.lit e n cs) v v' hne hk hF hm hv hv'
        exact h9
      · exact h.apart k k' b b' v v' hne hk hk' hm hv hv'
def rowHook (tbl : Tbl) : Hook := fun fr o ev m =>
  match o.op with
  | .buildSlice T n ps =>
    match xBuildSlice tbl fr ev T n ps.toList with
    | some (.eff _ ⟨.one (.slc f), [(f', some (.lit e len cs))]⟩) =>
      match initLs e with
      | some l0 => bif Nat.beq f fr && Nat.beq f' fr && Nat.beq cs.length (len * l0.sz) && Nat.ble len 1000000 then (snocs l0.sz len cs l0).map fun l => ([], ⟨.one (.slc fr), [(fr, some (.row e l))]⟩) else none
      | none => none
    | _ => none
  | _ => none
theorem rowHook_ok {tbl : Tbl} {G : Ctx → Prop} : HookOK tbl G (rowHook tbl) := by
  intro C ρ S a w fr o ev m H hG ps e hk hp
  unfold rowHook at hk
  split at hk
  · rename_i T n parts ho
    split at hk
    · rename_i p f f' ee len cs hx
      split at hk
      · rename_i l0 h0
        cases hb : Nat.beq f fr && Nat.beq f' fr && Nat.beq cs.length (len * l0.sz) && Nat.ble len 1000000 with
        | false => rw [hb] at hk; cases hk
        | true =>
          rw [hb, cond_true, Option.map_eq_some_iff] at hk
          obtain ⟨l, hl, hk⟩ := hk
          cases hk
          simp only [Bool.and_eq_true] at hb
          obtain ⟨⟨⟨b1, b2⟩, b3⟩, b4⟩ := hb
          have b1 := Nat.eq_of_beq_eq_true b1
          have b2 := Nat.eq_of_beq_eq_true b2
          subst b1; subst b2
          have hd := does_buildSlice H ho hx
          intro K Q hK
          exact hd K Q fun ρ' a' w' h1 h2 h3 => hK ρ' a' w' h1 h2 (relit h3 h0 hl (Nat.eq_of_beq_eq_true b3) (Nat.le_of_ble_eq_true b4))
      · cases hk
    · cases hk
  · cases hk
def miscL : Hook := orHook (rowHook T) misc
theorem miscL_ok : HookOK T (GC Tryz.prog Gl) miscL := orHook_ok rowHook_ok misc_ok
structure PA where
  px : List Itm
  sx : List Itm
  f : Pat
  sp : Spot
def PA.pcs (t : PA) : List Pc := .rd (.items t.px) :: .rd (.items t.sx) :: (t.f.pcs ++ [.int .i32 t.sp.r, .int .i64 t.sp.p, .int .i64 t.sp.w])
def PA.pvs (t : PA) : List PV := [.agg t.pcs]
def tailOf : List Pc → Option Spot
  | [r, p, w] => (i32Pc r).bind fun r => (i64Pc p).bind fun p => (i64Pc w).bind fun w => some ⟨r, p, w⟩
  | _ => none
theorem tailOf_eq {l : List Pc} {s : Spot} (h : tailOf l = some s) : l = [.int .i32 s.r, .int .i64 s.p, .int .i64 s.w] := by
  unfold tailOf at h
  split at h
  · simp only [Option.bind_eq_some_iff] at h
    obtain ⟨r, hr, p, hp, w, hw, h2⟩ := h
    cases h2
    rw [i32Pc_eq hr, i64Pc_eq hp, i64Pc_eq hw]
  · cases h
def paOf : List PV → Option PA
  | [.agg (a :: b :: l)] => (itmsOf a).bind fun a => (itmsOf b).bind fun b => (patOf (l.take 20)).bind fun f => (tailOf (l.drop 20)).bind fun s => some ⟨a, b, f, s⟩
  | _ => none
theorem paOf_eq {l : List PV} {p : PA} (h : paOf l = some p) : l = p.pvs := by
  unfold paOf at h
  split at h
  · rename_i a b l
    simp only [Option.bind_eq_some_iff] at h
    obtain ⟨x, hx, y, hy, f, hf, s, hs, h2⟩ := h
    cases h2
    show [PV.agg (a :: b :: l)] = [PV.agg _]
    rw [← List.take_append_drop 20 l, patOf_eq hf, tailOf_eq hs, itmsOf_eq hx, itmsOf_eq hy]
    rfl
  · cases h
def madeT (t : PA) : Pat := ⟨t.px, t.sx, t.f.hn, ⟨2, 0⟩ :: t.px, t.sx, t.f.n, t.sp.w, t.sp.r, t.f.pw⟩
def sp_pmade : FSpec := ⟨[], fun pvs => (paOf pvs).bind fun t => some ([t.px.length ≤ 1000000 ∧ t.sx.length ≤ 1000000], .agg (madeT t).pcs)⟩
theorem vc_pmade (t : PA) : vcP [(68, sp_sclone)] [] miscL Tryz.f34 (.nil) t.pvs (.agg (madeT t).pcs) = (((1 : Nat) + List.length (PA.px t)) * (16 : Nat) ≤ (140737488355328 : Nat) ∧ List.length (PA.sx t) ≤ (1000000000 : Nat) ∧ PA.px t = Pat.pre (madeT t) ∧ PA.sx t = Pat.suf (madeT t) ∧ Pat.hn (PA.f t) = Pat.hn (madeT t) ∧ [] ++ [{ k := (2 : Int), r := (0 : Int) }] ++ PA.px t = Pat.npre (madeT t) ∧ PA.sx t = Pat.nsuf (madeT t) ∧ Num.mi (Pat.n (PA.f t)) = Num.mi (Pat.n (madeT t)) ∧ Num.xi (Pat.n (PA.f t)) = Num.xi (Pat.n (madeT t)) ∧ Num.mf (Pat.n (PA.f t)) = Num.mf (Pat.n (madeT t)) ∧ Num.xf (Pat.n (PA.f t)) = Num.xf (Pat.n (madeT t)) ∧ Num.ms (Pat.n (PA.f t)) = Num.ms (Pat.n (madeT t)) ∧ Num.xs (Pat.n (PA.f t)) = Num.xs (Pat.n (madeT t)) ∧ Num.pr (Pat.n (PA.f t)) = Num.pr (Pat.n (madeT t)) ∧ Num.sc (Pat.n (PA.f t)) = Num.sc (Pat.n (madeT t)) ∧ Num.inc (Pat.n (PA.f t)) = Num.inc (Pat.n (madeT t)) ∧ Num.ps (Pat.n (PA.f t)) = Num.ps (Pat.n (madeT t)) ∧ Num.me (Pat.n (PA.f t)) = Num.me (Pat.n (madeT t)) ∧ Num.px (Pat.n (PA.f t)) = Num.px (Pat.n (madeT t)) ∧ Spot.w (PA.sp t) = Pat.pa (madeT t) ∧ Spot.r (PA.sp t) = Pat.pd (madeT t) ∧ Pat.pw (PA.f t) = Pat.pw (madeT t)) := by kernel_rfl
set_option maxHeartbeats 4000000 in
theorem of_pmade (h : ∀ (t : PA), (t.px.length ≤ 1000000 ∧ t.sx.length ≤ 1000000) → vcP [(68, sp_sclone)] [] miscL Tryz.f34 (.nil) t.pvs (.agg (madeT t).pcs)) : FnP 34 sp_pmade := by
  refine fnP_ok (cs := [(68, sp_sclone)]) (cas := []) (ms := miscL) (.cons ok_sclone .nil) .nil miscL_ok 34 Tryz.f34 (by kernel_rfl) (by kernel_rfl) (by kernel_rfl) (fun _ => .nil) ?_
  intro pvs p r hs hp
  obtain ⟨t, hx, h2⟩ := Option.bind_eq_some_iff.1 hs
  cases h2
  have := h t (hp)
  rw [← paOf_eq hx] at this
  exact this
theorem ok_pmade : FnP 34 sp_pmade := of_pmade (by
  intro t ht
  rw [vc_pmade]
  refine ⟨by omega, by omega, ?_⟩
  and_intros <;> rfl)
end Go.Proofs.YtglfkihckkjniaaGreatDoor.Vx
namespace Go.Proofs.YtglfkihckkjniaaGreatDoor.Vx
open Go Go.RowKit
theorem scanStep_in {l : List Int} (hl : Scalars l) (hne : l ≠ []) (a o : Int) :
    (scanStep l a o).2.1 + (encs (scanStep l a o).1).length = a + (encs l).length ∧ ((scanStep l a o).2.2.1 = o ∨ (scanStep l a o).2.2.1 = a ∨ (scanStep l a o).2.2.1 = -1) ∧
    (∀ y ∈ (scanStep l a o).2.2.2, y.tok.p = a ∧ scalar y.tok.r = true) := by
  obtain ⟨r, m, rfl⟩ := List.exists_cons_of_ne_nil hne
  have e8 := enc39
  have hr : scalar r = true := hl r (by simp)
  by_cases h39 : r = 39
  · subst h39
    cases m with
    | nil => by_cases ho : o < 0 <;> simp [scanStep, ho, encs_cons, e8] <;> omega
    | cons x m =>
      by_cases hx : x = 39
      · subst hx
        simp [scanStep, encs_cons, e8, Iv.tok, hr]; omega
      · by_cases ho : o < 0 <;> simp [scanStep, ho, hx, encs_cons, e8] <;> omega
  · by_cases ho : o < 0 <;> simp [scanStep, ho, h39, encs_cons, Iv.tok, hr] <;> omega
theorem scanN_in : ∀ (n : Nat) (l : List Int) (a o N : Int), Scalars l → l.length ≤ n → 0 ≤ a → o < a → N = a + (encs l).length →
    (∀ y ∈ (scanN n l a o).2, 0 ≤ y.tok.p ∧ y.tok.p < N ∧ scalar y.tok.r = true) ∧ (scanN n l a o).1 < N := by
  intro n
  induction n with
  | zero =>
    intro l a o N hl hn ha ho hN
    have : l = [] := List.eq_nil_of_length_eq_zero (by omega)
    subst this
    exact ⟨fun y hy => (by cases hy), by show o < N; rw [hN]; simp [encs]; omega⟩
  | succ n ih =>
    intro l a o N hl hn ha ho hN
    cases l with
    | nil => exact ⟨fun y hy => (by cases hy), by show o < N; rw [hN]; simp [encs]; omega⟩
    | cons r m =>
      obtain ⟨h1, h2, h3, _, _, _⟩ := scanStep_facts hl (by simp) a o
      obtain ⟨k1, k2, k3⟩ := scanStep_in hl (by simp) a o
      obtain ⟨g1, g2⟩ := ih (scanStep (r :: m) a o).1 (scanStep (r :: m) a o).2.1 (scanStep (r :: m) a o).2.2.1 N h1 (by simp at hn h2 ⊢; omega) (by omega) (by rcases k2 with k | k | k <;> omega) (by omega)
      refine ⟨fun y hy => ?_, g2⟩
      rcases List.mem_append.1 hy with hy | hy
      · obtain ⟨e1, e2⟩ := k3 y hy
        have : 1 ≤ (encs (r :: m)).length := by have := (encs_len (r :: m)).1; simp at this; omega
        exact ⟨by omega, by omega, e2⟩
      · exact g1 y hy
theorem scanT_in (s : List UInt8) : (∀ t ∈ (scanT s).1, 0 ≤ t.p ∧ t.p < s.length ∧ scalar t.r = true) ∧ 0 ≤ (scanT s).2.2 ∧ (scanT s).2.2 ≤ s.length ∧ (scanT s).1.length ≤ 400 ∧ ((scanT s).2.1 = 0 → (scanT s).2.2 = 0) := by
  have hd := decomp_ok s
  have hlen : (encs (decomp s).1).length ≤ s.length := by
    have := congrArg List.length hd.1
    rw [List.length_append] at this; omega
  obtain ⟨g1, g2⟩ := scanN_in (decomp s).1.length (decomp s).1 0 (-1) _ hd.2.1 (Nat.le_refl _) (by omega) (by omega) rfl
  unfold scanT
  split
  · refine ⟨fun t ht => (by cases ht), by assumption, ?_, Nat.zero_le _, fun h => absurd h (show ¬ (2 : Int) = 0 by decide)⟩
    show badAt s ≤ _
    unfold badAt; split <;> omega
  · split
    · refine ⟨fun t ht => (by cases ht), by assumption, ?_, Nat.zero_le _, fun h => absurd h (show ¬ (3 : Int) = 0 by decide)⟩
      have g2 : (scanF s).1 < _ := g2
      show (scanF s).1 ≤ _
      omega
    · split
      · exact ⟨fun t ht => (by cases ht), Int.le_refl _, by show (0 : Int) ≤ _; omega, Nat.zero_le _, fun h => rfl⟩
      · refine ⟨fun t ht => ?_, Int.le_refl _, by show (0 : Int) ≤ _; omega, by show ((scanF s).2.map Iv.tok).length ≤ 400; rw [List.length_map]; omega, fun h => rfl⟩
        obtain ⟨y, hy, rfl⟩ := List.mem_map.1 ht
        obtain ⟨a, b, c⟩ := g1 y hy
        exact ⟨a, by omega, c⟩
def EP (P : Int → Prop) (l : List Iv) : Prop := ∀ y ∈ l, (y.isE = true ∧ (y.isS = true → scalar y.sR = true)) ∧ P y.at_
theorem EP.take {P : Int → Prop} {l : List Iv} (h : EP P l) (n : Nat) : EP P (l.take n) := fun y hy => h y (List.mem_of_mem_take hy)
theorem EP.drop {P : Int → Prop} {l : List Iv} (h : EP P l) (n : Nat) : EP P (l.drop n) := fun y hy => h y (List.mem_of_mem_drop hy)
theorem EP.get {P : Int → Prop} {l : List Iv} (h : EP P l) {n : Nat} (hn : n < l.length) : P (l.getD n default).at_ := by
  rw [List.getD_eq_getElem?_getD, List.getElem?_eq_getElem hn]
  exact (h _ (List.getElem_mem hn)).2
theorem elemsL_in (P : Int → Prop) : ∀ (n : Nat) (l : List Tok), l.length ≤ n → (∀ t ∈ l, P t.p ∧ scalar t.r = true) → EP P (elemsL l).1 ∧ (∀ p, (elemsL l).2 = some p → P p) ∧ (elemsL l).1.length ≤ l.length := by
  intro n
  induction n with
  | zero =>
    intro l hn _
    have : l = [] := List.eq_nil_of_length_eq_zero (by omega)
    subst this
    exact ⟨fun y hy => (by cases hy), fun p hp => (by cases hp), Nat.le_refl _⟩
  | succ n ih =>
    intro l hn h
    match l, hn, h with
    | [], _, _ => exact ⟨fun y hy => (by cases hy), fun p hp => (by cases hp), Nat.le_refl _⟩
    | [t], hn, h =>
      unfold elemsL
      split
      · exact ⟨fun y hy => (by cases hy), fun p hp => (by cases hp; exact (h t (by simp)).1), Nat.zero_le _⟩
      · refine ⟨fun y hy => ?_, fun p hp => (by cases hp), Nat.le_refl _⟩
        rw [List.mem_singleton] at hy
        subst hy
        exact ⟨⟨rfl, fun _ => (h t (by simp)).2⟩, (h t (by simp)).1⟩
    | t :: x :: m, hn, h =>
      have ht := h t (by simp)
      unfold elemsL
      split
      · obtain ⟨h1, h2, h3⟩ := ih m (by simp at hn; omega) fun t ht => h t (by simp [ht])
        refine ⟨fun y hy => ?_, h2, by simp; omega⟩
        rcases List.mem_cons.1 hy with hy | hy
        · subst hy; exact ⟨⟨rfl, fun h => (by cases h)⟩, ht.1⟩
        · exact h1 y hy
      · obtain ⟨h1, h2, h3⟩ := ih (x :: m) (by simp at hn ⊢; omega) fun t ht => h t (by simp at ht ⊢; right; exact ht)
        refine ⟨fun y hy => ?_, h2, by simp at h3 ⊢; omega⟩
        rcases List.mem_cons.1 hy with hy | hy
        · subst hy; exact ⟨⟨rfl, fun _ => ht.2⟩, ht.1⟩
        · exact h1 y hy
theorem elemsR_in (P : Int → Prop) (l : List Tok) (h : ∀ t ∈ l, P t.p ∧ scalar t.r = true) : EP P (elemsR l).1 ∧ ((elemsR l).2.1 ≠ 0 → P (elemsR l).2.2) ∧ (elemsR l).1.length ≤ l.length := by
  obtain ⟨h1, h2, h3⟩ := elemsL_in P l.length l (Nat.le_refl _) h
  unfold elemsR
  split
  · exact ⟨h1, fun h => absurd rfl h, h3⟩
  · rename_i p hp
    exact ⟨fun y hy => (by cases hy), fun _ => h2 p hp, Nat.zero_le _⟩
def p0 : Pat := ⟨[], [], false, [], [], z0, 0, 0, 0⟩
def aheadN (l : List Iv) : Nat := l.findIdx (isIn [59])
def behindL (l : List Iv) : List Iv := l.drop (min (aheadN l + 1) l.length)
def PT.pa (t : PT) : PA := ⟨t.px, t.sx, ⟨[], [], false, [], [], t.n, 0, 0, t.w⟩, t.sp⟩
def bothH (p : Pat) : Bool := hasItm 4 (p.pre ++ p.suf ++ p.npre ++ p.nsuf) && hasItm 5 (p.pre ++ p.suf ++ p.npre ++ p.nsuf)
def compE (l : List Iv) : Pat × Int × Int :=
  if aheadN (behindL l) < (behindL l).length then (p0, 4, ((behindL l).getD (aheadN (behindL l)) default).at_)
  else if (readT (l.take (aheadN l)) 0 true).2.1 ≠ 0 then (p0, (readT (l.take (aheadN l)) 0 true).2)
  else if aheadN l < l.length then
    if (readT (behindL l) ((l.getD (aheadN l) default).at_ + 1) false).2.1 ≠ 0 then (p0, (readT (behindL l) ((l.getD (aheadN l) default).at_ + 1) false).2)
    else if bothH { madeT (readT (l.take (aheadN l)) 0 true).1.pa with hn := true, npre := (readT (behindL l) ((l.getD (aheadN l) default).at_ + 1) false).1.px, nsuf := (readT (behindL l) ((l.getD (aheadN l) default).at_ + 1) false).1.sx } = true then (p0, 6, 0)
    else ({ madeT (readT (l.take (aheadN l)) 0 true).1.pa with hn := true, npre := (readT (behindL l) ((l.getD (aheadN l) default).at_ + 1) false).1.px, nsuf := (readT (behindL l) ((l.getD (aheadN l) default).at_ + 1) false).1.sx }, 0, 0)
  else if bothH (madeT (readT (l.take (aheadN l)) 0 true).1.pa) = true then (p0, 6, 0)
  else (madeT (readT (l.take (aheadN l)) 0 true).1.pa, 0, 0)
def compileT (s : List UInt8) : Pat × Int × Int :=
  if (scanT s).2.1 ≠ 0 then (p0, (scanT s).2)
  else if (elemsR (scanT s).1).2.1 ≠ 0 then (p0, (elemsR (scanT s).1).2)
  else compE (elemsR (scanT s).1).1
theorem elems_in (s : List UInt8) : EP (fun x => 0 ≤ x ∧ x < (s.length : Int)) (elemsR (scanT s).1).1 ∧ ((elemsR (scanT s).1).2.1 ≠ 0 → 0 ≤ (elemsR (scanT s).1).2.2 ∧ (elemsR (scanT s).1).2.2 < (s.length : Int)) ∧ (elemsR (scanT s).1).1.length ≤ 400 := by
  obtain ⟨h1, h2, h3, h4, h5⟩ := scanT_in s
  obtain ⟨k1, k2, k3⟩ := elemsR_in (fun x => 0 ≤ x ∧ x < (s.length : Int)) (scanT s).1 fun t ht => ⟨⟨(h1 t ht).1, (h1 t ht).2.1⟩, (h1 t ht).2.2⟩
  exact ⟨k1, k2, by omega⟩
end Go.Proofs.YtglfkihckkjniaaGreatDoor.Vx
namespace Go.Proofs.YtglfkihckkjniaaGreatDoor.Vx
open Go Go.RowKit
def Pat.sc (a b c d : Nat) (p : Pat) : List SC := [.slc a, .slc b, .bool p.hn, .slc c, .slc d, .int .i64 p.n.mi, .int .i64 p.n.xi, .int .i64 p.n.mf, .int .i64 p.n.xf, .int .i64 p.n.ms, .int .i64 p.n.xs, .int .i64 p.n.pr, .int .i64 p.n.sc, .str p.n.inc, .bool p.n.ps, .int .i64 p.n.me, .bool p.n.px, .int .i64 p.pa, .int .i32 p.pd, .int .i64 p.pw]
def PT.sc (a b c d e f : Nat) (t : PT) : List SC := .slc a :: .slc b :: ((⟨[], [], false, [], [], t.n, 0, 0, t.w⟩ : Pat).sc c d e f ++ [.int .i32 t.sp.r, .int .i64 t.sp.p, .int .i64 t.sp.w])
def cmL (s : List UInt8) : List Iv := (elemsR (scanT s).1).1
def rd1 (s : List UInt8) : PT × Int × Int := readT ((cmL s).take (aheadN (cmL s))) 0 true
def rd2 (s : List UInt8) : PT × Int × Int := readT (behindL (cmL s)) (((cmL s).getD (aheadN (cmL s)) default).at_ + 1) false
def cmP (s : List UInt8) : Pat := madeT (rd1 s).1.pa
def cmQ (s : List UInt8) : Pat := { cmP s with hn := true, npre := (rd2 s).1.px, nsuf := (rd2 s).1.sx }
structure CO (s : List UInt8) where
  p : Pat
  few : p.pre.length + p.suf.length + p.npre.length + p.nsuf.length ≤ 1000000000
  eq : compileT s = if bothH p = true then (p0, 6, 0) else (p, 0, 0)
structure C7 (s : List UInt8) : Prop where
  h1 : (scanT s).2.1 = 0
  h2 : (elemsR (scanT s).1).2.1 = 0
structure C12 (s : List UInt8) : Prop extends C7 s where
  h3 : ¬ aheadN (behindL (cmL s)) < (behindL (cmL s)).length
structure C16 (s : List UInt8) : Prop extends C12 s where
  h4 : (rd1 s).2.1 = 0
structure C18 (s : List UInt8) : Prop extends C16 s where
  h5 : aheadN (cmL s) < (cmL s).length
def ann15 (s : List UInt8) : Ann :=
  .cut 7 (PLift (C7 s)) (fun _ => ⟨[(2, .one (.ptr 16 0)), (3, .one (.ptr 17 0)), (5, .one (.ptr 18 0)), (6, .one (.slc 19))], [(16, some (.cells 25 z0.sc')), (17, some (.cells 28 [.int .i64 0, .int .i64 0])), (18, some (.cells 28 [.int .i64 (elemsR (scanT s).1).2.1, .int .i64 (elemsR (scanT s).1).2.2])), (19, some (.read (.ivs (cmL s))))], 20⟩)
  (fun _ => .cut 9 (PLift (C7 s)) (fun _ => ⟨[(2, .one (.ptr 16 0)), (3, .one (.ptr 17 0)), (5, .one (.ptr 18 0)), (6, .one (.slc 19)), (7, .one (.int .i64 (aheadN (cmL s)))), (8, .one (.slc 20))], [(16, some (.cells 25 z0.sc')), (17, some (.cells 28 [.int .i64 0, .int .i64 0])), (18, some (.cells 28 [.int .i64 (elemsR (scanT s).1).2.1, .int .i64 (elemsR (scanT s).1).2.2])), (19, some (.read (.ivs (cmL s)))), (20, some (.read (.ivs (behindL (cmL s)))))], 21⟩)
  (fun _ => .cut 12 (PLift (C12 s)) (fun _ => ⟨[(2, .one (.ptr 16 0)), (3, .one (.ptr 17 0)), (5, .one (.ptr 18 0)), (6, .one (.slc 19)), (7, .one (.int .i64 (aheadN (cmL s)))), (8, .one (.slc 20))], [(16, some (.cells 25 z0.sc')), (17, some (.cells 28 [.int .i64 0, .int .i64 0])), (18, some (.cells 28 [.int .i64 (elemsR (scanT s).1).2.1, .int .i64 (elemsR (scanT s).1).2.2])), (19, some (.read (.ivs (cmL s)))), (20, some (.read (.ivs (behindL (cmL s)))))], 21⟩)
  (fun _ => .cut 13 (PLift (C12 s)) (fun _ => ⟨[(2, .one (.ptr 16 0)), (3, .one (.ptr 17 0)), (5, .one (.ptr 18 0)), (6, .one (.slc 19)), (7, .one (.int .i64 (aheadN (cmL s)))), (8, .one (.slc 20)), (10, .one (.ptr 21 0))], [(16, some (.cells 25 z0.sc')), (17, some (.cells 28 [.int .i64 0, .int .i64 0])), (18, some (.cells 28 [.int .i64 (rd1 s).2.1, .int .i64 (rd1 s).2.2])), (19, some (.read (.ivs (cmL s)))), (20, some (.read (.ivs (behindL (cmL s))))), (21, some (.cells 64 ((rd1 s).1.sc 22 23 24 25 26 27))), (22, some (.read (.items (rd1 s).1.px))), (23, some (.read (.items (rd1 s).1.sx))), (24, some (.read (.items []))), (25, some (.read (.items []))), (26, some (.read (.items []))), (27, some (.read (.items [])))], 28⟩)
  (fun _ => .cut 16 (PLift (C16 s)) (fun _ => ⟨[(2, .one (.ptr 16 0)), (3, .one (.ptr 17 0)), (6, .one (.slc 19)), (7, .one (.int .i64 (aheadN (cmL s)))), (8, .one (.slc 20)), (11, .one (.ptr 21 0))], [(21, some (.cells 25 ((cmP s).sc 22 23 24 25))), (22, some (.read (.items (cmP s).pre))), (23, some (.read (.items (cmP s).suf))), (24, some (.read (.items (cmP s).npre))), (25, some (.read (.items (cmP s).nsuf))), (16, some (.cells 25 z0.sc')), (17, some (.cells 28 [.int .i64 0, .int .i64 0])), (19, some (.read (.ivs (cmL s)))), (20, some (.read (.ivs (behindL (cmL s)))))], 26⟩)
  (fun _ => .cut 18 (PLift (C18 s)) (fun _ => ⟨[(2, .one (.ptr 16 0)), (3, .one (.ptr 17 0)), (11, .one (.ptr 21 0)), (12, .one (.ptr 26 0)), (13, .one (.ptr 33 0))], [(21, some (.cells 25 ((cmP s).sc 22 23 24 25))), (22, some (.read (.items (cmP s).pre))), (23, some (.read (.items (cmP s).suf))), (24, some (.read (.items (cmP s).npre))), (25, some (.read (.items (cmP s).nsuf))), (16, some (.cells 25 z0.sc')), (17, some (.cells 28 [.int .i64 0, .int .i64 0])), (33, some (.cells 28 [.int .i64 (rd2 s).2.1, .int .i64 (rd2 s).2.2])), (26, some (.cells 64 ((rd2 s).1.sc 27 28 29 30 31 32))), (27, some (.read (.items (rd2 s).1.px))), (28, some (.read (.items (rd2 s).1.sx))), (29, some (.read (.items []))), (30, some (.read (.items []))), (31, some (.read (.items []))), (32, some (.read (.items [])))], 34⟩) (fun _ => .nil)
  (.cut 21 (CO s) (fun x => ⟨[(2, .one (.ptr 16 0)), (3, .one (.ptr 17 0)), (11, .one (.ptr 18 0))], [(16, some (.cells 25 z0.sc')), (17, some (.cells 28 [.int .i64 0, .int .i64 0])), (18, some (.cells 25 (x.p.sc 19 20 21 22))), (19, some (.read (.items x.p.pre))), (20, some (.read (.items x.p.suf))), (21, some (.read (.items x.p.npre))), (22, some (.read (.items x.p.nsuf)))], 23⟩) (fun _ => .nil) .nil)) .nil) .nil) .nil) .nil) .nil
def sp_pcompile : FSpec := ⟨[], fun | [.one (.str s)] => some ([s.length ≤ 1000000], .tup [(true, (compileT s).1.pcs), (true, [.int .i64 (compileT s).2.1, .int .i64 (compileT s).2.2])]) | _ => none⟩
theorem vc_pcompile (s : List UInt8) : vcP [(30, sp_tscan), (31, sp_elements), (32, sp_ahead), (33, sp_pread), (34, sp_pmade), (35, sp_pall)] [] misc Tryz.f14 (ann15 s) [.one (.str s)] (.tup [(true, (compileT s).1.pcs), (true, [.int .i64 (compileT s).2.1, .int .i64 (compileT s).2.2])]) = (letI v0 := (madeT { px := PT.px (rd1 s).1, sx := PT.sx (rd1 s).1, f := { pre := [], suf := [], hn := false, npre := [], nsuf := [], n := PT.n (rd1 s).1, pa := (0 : Int), pd := (0 : Int), pw := PT.w (rd1 s).1 }, sp := PT.sp (rd1 s).1 }); letI v1 := ([] = Pat.pre (compileT s).1 ∧ [] = Pat.suf (compileT s).1 ∧ false = Pat.hn (compileT s).1 ∧ [] = Pat.npre (compileT s).1 ∧ [] = Pat.nsuf (compileT s).1 ∧ (0 : Int) = Num.mi (Pat.n (compileT s).1) ∧ (0 : Int) = Num.xi (Pat.n (compileT s).1) ∧ (0 : Int) = Num.mf (Pat.n (compileT s).1) ∧ (0 : Int) = Num.xf (Pat.n (compileT s).1) ∧ (0 : Int) = Num.ms (Pat.n (compileT s).1) ∧ (0 : Int) = Num.xs (Pat.n (compileT s).1) ∧ (0 : Int) = Num.pr (Pat.n (compileT s).1) ∧ (0 : Int) = Num.sc (Pat.n (compileT s).1) ∧ [] = Num.inc (Pat.n (compileT s).1) ∧ false = Num.ps (Pat.n (compileT s).1) ∧ (0 : Int) = Num.me (Pat.n (compileT s).1) ∧ false = Num.px (Pat.n (compileT s).1) ∧ (0 : Int) = Pat.pa (compileT s).1 ∧ (0 : Int) = Pat.pd (compileT s).1 ∧ (0 : Int) = Pat.pw (compileT s).1); letI v2 := (readT (behindL (cmL s)) (Iv.at_ (List.getD (cmL s) (Int.toNat (↑(aheadN (cmL s)) : Int)) default) + (1 : Int)) false); letI v3 := (Num.mi z0 = Num.mi z0 ∧ Num.xi z0 = Num.xi z0 ∧ Num.mf z0 = Num.mf z0 ∧ Num.xf z0 = Num.xf z0 ∧ Num.ms z0 = Num.ms z0 ∧ Num.xs z0 = Num.xs z0 ∧ Num.pr z0 = Num.pr z0 ∧ Num.sc z0 = Num.sc z0 ∧ Num.inc z0 = Num.inc z0 ∧ Num.ps z0 = Num.ps z0 ∧ Num.me z0 = Num.me z0 ∧ Num.px z0 = Num.px z0 ∧ (0 : Int) = (0 : Int) ∧ (0 : Int) = (0 : Int) ∧ (0 : Int) = (0 : Int)); letI v4 := (readT (List.drop (0 : Nat) (List.take (Int.toNat (↑(aheadN (cmL s)) : Int)) (cmL s))) (0 : Int) true); letI v5 := (↑(List.findIdx (isIn [(59 : UInt8)]) (behindL (cmL s))) : Int); letI v6 := (↑(List.findIdx (isIn [(59 : UInt8)]) (cmL s)) : Int); letI v7 := (↑(List.length (cmL s)) : Int); letI v8 := (Int.toNat (↑(aheadN (cmL s)) : Int)); (List.length s ≤ (1000000 : Nat) ∧ br ((scanT s).2.1 != (0 : Int)) (v1 ∧ (scanT s).2.1 = (compileT s).2.1 ∧ (scanT s).2.2 = (compileT s).2.2) (List.length (scanT s).1 ≤ (1000000000 : Nat) ∧ br ((elemsR (scanT s).1).2.1 != (0 : Int)) (v1 ∧ (elemsR (scanT s).1).2.1 = (compileT s).2.1 ∧ (elemsR (scanT s).1).2.2 = (compileT s).2.2) (∃ (j : PLift (C7 s)), ((0 : Int) = Num.mi z0 ∧ (0 : Int) = Num.xi z0 ∧ (0 : Int) = Num.mf z0 ∧ (0 : Int) = Num.xf z0 ∧ (0 : Int) = Num.ms z0 ∧ (0 : Int) = Num.xs z0 ∧ (0 : Int) = Num.pr z0 ∧ (0 : Int) = Num.sc z0 ∧ [] = Num.inc z0 ∧ false = Num.ps z0 ∧ (0 : Int) = Num.me z0 ∧ false = Num.px z0 ∧ (0 : Int) = (0 : Int) ∧ (0 : Int) = (0 : Int) ∧ (0 : Int) = (0 : Int)) ∧ (0 : Int) = (0 : Int) ∧ (0 : Int) = (0 : Int) ∧ (elemsR (scanT s).1).2.1 = (elemsR (scanT s).1).2.1 ∧ (elemsR (scanT s).1).2.2 = (elemsR (scanT s).1).2.2 ∧ (elemsR (scanT s).1).1 = cmL s) ∧ ∀ (j : PLift (C7 s)), List.length (cmL s) ≤ (1000000000 : Nat) ∧ (inR IntKind.i64 (v6 + (1 : Int)) ∧ ((0 : Int) ≤ List.foldl (mnx false) (v6 + (1 : Int)) [v7] ∧ List.foldl (mnx false) (v6 + (1 : Int)) [v7] ≤ v7) ∧ ∃ (j : PLift (C7 s)), v6 = (↑(aheadN (cmL s)) : Int) ∧ v3 ∧ (0 : Int) = (0 : Int) ∧ (0 : Int) = (0 : Int) ∧ (elemsR (scanT s).1).2.1 = (elemsR (scanT s).1).2.1 ∧ (elemsR (scanT s).1).2.2 = (elemsR (scanT s).1).2.2 ∧ cmL s = cmL s ∧ List.drop (Int.toNat (List.foldl (mnx false) (v6 + (1 : Int)) [v7])) (List.take (List.length (cmL s)) (cmL s)) = behindL (cmL s)) ∧ ∀ (j : PLift (C7 s)), (List.length (behindL (cmL s)) ≤ (1000000000 : Nat) ∧ br (decide (v5 < (↑(List.length (behindL (cmL s))) : Int))) (((0 : Int) ≤ v5 ∧ v5 < (↑(List.length (behindL (cmL s))) : Int)) ∧ Int.toNat v5 < List.length (behindL (cmL s)) ∧ Iv.isE (List.getD (behindL (cmL s)) (Int.toNat v5) default) = true ∧ v1 ∧ (4 : Int) = (compileT s).2.1 ∧ Iv.at_ (List.getD (behindL (cmL s)) (Int.toNat v5) default) = (compileT s).2.2) (∃ (j : PLift (C12 s)), (↑(aheadN (cmL s)) : Int) = (↑(aheadN (cmL s)) : Int) ∧ v3 ∧ (0 : Int) = (0 : Int) ∧ (0 : Int) = (0 : Int) ∧ (elemsR (scanT s).1).2.1 = (elemsR (scanT s).1).2.1 ∧ (elemsR (scanT s).1).2.2 = (elemsR (scanT s).1).2.2 ∧ cmL s = cmL s ∧ behindL (cmL s) = behindL (cmL s))) ∧ ∀ (j : PLift (C12 s)), (((0 : Int) ≤ (↑(aheadN (cmL s)) : Int) ∧ (↑(aheadN (cmL s)) : Int) ≤ v7) ∧ (∀ (y : Iv), y ∈ List.drop (0 : Nat) (List.take v8 (cmL s)) → Iv.isE y = true ∧ (Iv.isS y = true → scalar (Iv.sR y) = true)) ∧ List.length (List.drop (0 : Nat) (List.take v8 (cmL s))) ≤ (1000000 : Nat) ∧ ∃ (j : PLift (C12 s)), (↑(aheadN (cmL s)) : Int) = (↑(aheadN (cmL s)) : Int) ∧ v3 ∧ (0 : Int) = (0 : Int) ∧ (0 : Int) = (0 : Int) ∧ v4.2.1 = (rd1 s).2.1 ∧ v4.2.2 = (rd1 s).2.2 ∧ cmL s = cmL s ∧ behindL (cmL s) = behindL (cmL s) ∧ (false = false ∧ Num.mi (PT.n v4.1) = Num.mi (PT.n (rd1 s).1) ∧ Num.xi (PT.n v4.1) = Num.xi (PT.n (rd1 s).1) ∧ Num.mf (PT.n v4.1) = Num.mf (PT.n (rd1 s).1) ∧ Num.xf (PT.n v4.1) = Num.xf (PT.n (rd1 s).1) ∧ Num.ms (PT.n v4.1) = Num.ms (PT.n (rd1 s).1) ∧ Num.xs (PT.n v4.1) = Num.xs (PT.n (rd1 s).1) ∧ Num.pr (PT.n v4.1) = Num.pr (PT.n (rd1 s).1) ∧ Num.sc (PT.n v4.1) = Num.sc (PT.n (rd1 s).1) ∧ Num.inc (PT.n v4.1) = Num.inc (PT.n (rd1 s).1) ∧ Num.ps (PT.n v4.1) = Num.ps (PT.n (rd1 s).1) ∧ Num.me (PT.n v4.1) = Num.me (PT.n (rd1 s).1) ∧ Num.px (PT.n v4.1) = Num.px (PT.n (rd1 s).1) ∧ (0 : Int) = (0 : Int) ∧ (0 : Int) = (0 : Int) ∧ PT.w v4.1 = PT.w (rd1 s).1 ∧ Spot.r (PT.sp v4.1) = Spot.r (PT.sp (rd1 s).1) ∧ Spot.p (PT.sp v4.1) = Spot.p (PT.sp (rd1 s).1) ∧ Spot.w (PT.sp v4.1) = Spot.w (PT.sp (rd1 s).1)) ∧ PT.px v4.1 = PT.px (rd1 s).1 ∧ PT.sx v4.1 = PT.sx (rd1 s).1 ∧ ([] : List Itm) = [] ∧ ([] : List Itm) = [] ∧ ([] : List Itm) = [] ∧ ([] : List Itm) = []) ∧ ∀ (j : PLift (C12 s)), br ((rd1 s).2.1 != (0 : Int)) (v1 ∧ (rd1 s).2.1 = (compileT s).2.1 ∧ (rd1 s).2.2 = (compileT s).2.2) (((List.length (PT.px (rd1 s).1) ≤ (1000000 : Nat) ∧ List.length (PT.sx (rd1 s).1) ≤ (1000000 : Nat)) ∧ ∃ (j : PLift (C16 s)), (↑(aheadN (cmL s)) : Int) = (↑(aheadN (cmL s)) : Int) ∧ (Pat.hn v0 = Pat.hn (cmP s) ∧ Num.mi (Pat.n v0) = Num.mi (Pat.n (cmP s)) ∧ Num.xi (Pat.n v0) = Num.xi (Pat.n (cmP s)) ∧ Num.mf (Pat.n v0) = Num.mf (Pat.n (cmP s)) ∧ Num.xf (Pat.n v0) = Num.xf (Pat.n (cmP s)) ∧ Num.ms (Pat.n v0) = Num.ms (Pat.n (cmP s)) ∧ Num.xs (Pat.n v0) = Num.xs (Pat.n (cmP s)) ∧ Num.pr (Pat.n v0) = Num.pr (Pat.n (cmP s)) ∧ Num.sc (Pat.n v0) = Num.sc (Pat.n (cmP s)) ∧ Num.inc (Pat.n v0) = Num.inc (Pat.n (cmP s)) ∧ Num.ps (Pat.n v0) = Num.ps (Pat.n (cmP s)) ∧ Num.me (Pat.n v0) = Num.me (Pat.n (cmP s)) ∧ Num.px (Pat.n v0) = Num.px (Pat.n (cmP s)) ∧ Pat.pa v0 = Pat.pa (cmP s) ∧ Pat.pd v0 = Pat.pd (cmP s) ∧ Pat.pw v0 = Pat.pw (cmP s)) ∧ Pat.pre v0 = Pat.pre (cmP s) ∧ Pat.suf v0 = Pat.suf (cmP s) ∧ Pat.npre v0 = Pat.npre (cmP s) ∧ Pat.nsuf v0 = Pat.nsuf (cmP s) ∧ v3 ∧ (0 : Int) = (0 : Int) ∧ (0 : Int) = (0 : Int) ∧ cmL s = cmL s ∧ behindL (cmL s) = behindL (cmL s)) ∧ ∀ (j : PLift (C16 s)), br (decide ((↑(aheadN (cmL s)) : Int) < v7)) ((((0 : Int) ≤ (↑(aheadN (cmL s)) : Int) ∧ (↑(aheadN (cmL s)) : Int) < v7) ∧ Int.toNat (↑(aheadN (cmL s)) : Int) < List.length (cmL s) ∧ Iv.isE (List.getD (cmL s) v8 default) = true ∧ inR IntKind.i64 (Iv.at_ (List.getD (cmL s) v8 default) + (1 : Int)) ∧ (∀ (y : Iv), y ∈ behindL (cmL s) → Iv.isE y = true ∧ (Iv.isS y = true → scalar (Iv.sR y) = true)) ∧ List.length (behindL (cmL s)) ≤ (1000000 : Nat) ∧ ∃ (j : PLift (C18 s)), (Pat.hn (cmP s) = Pat.hn (cmP s) ∧ Num.mi (Pat.n (cmP s)) = Num.mi (Pat.n (cmP s)) ∧ Num.xi (Pat.n (cmP s)) = Num.xi (Pat.n (cmP s)) ∧ Num.mf (Pat.n (cmP s)) = Num.mf (Pat.n (cmP s)) ∧ Num.xf (Pat.n (cmP s)) = Num.xf (Pat.n (cmP s)) ∧ Num.ms (Pat.n (cmP s)) = Num.ms (Pat.n (cmP s)) ∧ Num.xs (Pat.n (cmP s)) = Num.xs (Pat.n (cmP s)) ∧ Num.pr (Pat.n (cmP s)) = Num.pr (Pat.n (cmP s)) ∧ Num.sc (Pat.n (cmP s)) = Num.sc (Pat.n (cmP s)) ∧ Num.inc (Pat.n (cmP s)) = Num.inc (Pat.n (cmP s)) ∧ Num.ps (Pat.n (cmP s)) = Num.ps (Pat.n (cmP s)) ∧ Num.me (Pat.n (cmP s)) = Num.me (Pat.n (cmP s)) ∧ Num.px (Pat.n (cmP s)) = Num.px (Pat.n (cmP s)) ∧ Pat.pa (cmP s) = Pat.pa (cmP s) ∧ Pat.pd (cmP s) = Pat.pd (cmP s) ∧ Pat.pw (cmP s) = Pat.pw (cmP s)) ∧ Pat.pre (cmP s) = Pat.pre (cmP s) ∧ Pat.suf (cmP s) = Pat.suf (cmP s) ∧ Pat.npre (cmP s) = Pat.npre (cmP s) ∧ Pat.nsuf (cmP s) = Pat.nsuf (cmP s) ∧ v3 ∧ (0 : Int) = (0 : Int) ∧ (0 : Int) = (0 : Int) ∧ v2.2.1 = (rd2 s).2.1 ∧ v2.2.2 = (rd2 s).2.2 ∧ (false = false ∧ Num.mi (PT.n v2.1) = Num.mi (PT.n (rd2 s).1) ∧ Num.xi (PT.n v2.1) = Num.xi (PT.n (rd2 s).1) ∧ Num.mf (PT.n v2.1) = Num.mf (PT.n (rd2 s).1) ∧ Num.xf (PT.n v2.1) = Num.xf (PT.n (rd2 s).1) ∧ Num.ms (PT.n v2.1) = Num.ms (PT.n (rd2 s).1) ∧ Num.xs (PT.n v2.1) = Num.xs (PT.n (rd2 s).1) ∧ Num.pr (PT.n v2.1) = Num.pr (PT.n (rd2 s).1) ∧ Num.sc (PT.n v2.1) = Num.sc (PT.n (rd2 s).1) ∧ Num.inc (PT.n v2.1) = Num.inc (PT.n (rd2 s).1) ∧ Num.ps (PT.n v2.1) = Num.ps (PT.n (rd2 s).1) ∧ Num.me (PT.n v2.1) = Num.me (PT.n (rd2 s).1) ∧ Num.px (PT.n v2.1) = Num.px (PT.n (rd2 s).1) ∧ (0 : Int) = (0 : Int) ∧ (0 : Int) = (0 : Int) ∧ PT.w v2.1 = PT.w (rd2 s).1 ∧ Spot.r (PT.sp v2.1) = Spot.r (PT.sp (rd2 s).1) ∧ Spot.p (PT.sp v2.1) = Spot.p (PT.sp (rd2 s).1) ∧ Spot.w (PT.sp v2.1) = Spot.w (PT.sp (rd2 s).1)) ∧ PT.px v2.1 = PT.px (rd2 s).1 ∧ PT.sx v2.1 = PT.sx (rd2 s).1 ∧ ([] : List Itm) = [] ∧ ([] : List Itm) = [] ∧ ([] : List Itm) = [] ∧ ([] : List Itm) = []) ∧ ∀ (j : PLift (C18 s)), br ((rd2 s).2.1 != (0 : Int)) (v1 ∧ (rd2 s).2.1 = (compileT s).2.1 ∧ (rd2 s).2.2 = (compileT s).2.2) (∃ (j : CO s), v3 ∧ (0 : Int) = (0 : Int) ∧ (0 : Int) = (0 : Int) ∧ (true = Pat.hn (CO.p j) ∧ Num.mi (Pat.n (cmP s)) = Num.mi (Pat.n (CO.p j)) ∧ Num.xi (Pat.n (cmP s)) = Num.xi (Pat.n (CO.p j)) ∧ Num.mf (Pat.n (cmP s)) = Num.mf (Pat.n (CO.p j)) ∧ Num.xf (Pat.n (cmP s)) = Num.xf (Pat.n (CO.p j)) ∧ Num.ms (Pat.n (cmP s)) = Num.ms (Pat.n (CO.p j)) ∧ Num.xs (Pat.n (cmP s)) = Num.xs (Pat.n (CO.p j)) ∧ Num.pr (Pat.n (cmP s)) = Num.pr (Pat.n (CO.p j)) ∧ Num.sc (Pat.n (cmP s)) = Num.sc (Pat.n (CO.p j)) ∧ Num.inc (Pat.n (cmP s)) = Num.inc (Pat.n (CO.p j)) ∧ Num.ps (Pat.n (cmP s)) = Num.ps (Pat.n (CO.p j)) ∧ Num.me (Pat.n (cmP s)) = Num.me (Pat.n (CO.p j)) ∧ Num.px (Pat.n (cmP s)) = Num.px (Pat.n (CO.p j)) ∧ Pat.pa (cmP s) = Pat.pa (CO.p j) ∧ Pat.pd (cmP s) = Pat.pd (CO.p j) ∧ Pat.pw (cmP s) = Pat.pw (CO.p j)) ∧ Pat.pre (cmP s) = Pat.pre (CO.p j) ∧ Pat.suf (cmP s) = Pat.suf (CO.p j) ∧ PT.px (rd2 s).1 = Pat.npre (CO.p j) ∧ PT.sx (rd2 s).1 = Pat.nsuf (CO.p j))) (∃ (j : CO s), v3 ∧ (0 : Int) = (0 : Int) ∧ (0 : Int) = (0 : Int) ∧ (Pat.hn (cmP s) = Pat.hn (CO.p j) ∧ Num.mi (Pat.n (cmP s)) = Num.mi (Pat.n (CO.p j)) ∧ Num.xi (Pat.n (cmP s)) = Num.xi (Pat.n (CO.p j)) ∧ Num.mf (Pat.n (cmP s)) = Num.mf (Pat.n (CO.p j)) ∧ Num.xf (Pat.n (cmP s)) = Num.xf (Pat.n (CO.p j)) ∧ Num.ms (Pat.n (cmP s)) = Num.ms (Pat.n (CO.p j)) ∧ Num.xs (Pat.n (cmP s)) = Num.xs (Pat.n (CO.p j)) ∧ Num.pr (Pat.n (cmP s)) = Num.pr (Pat.n (CO.p j)) ∧ Num.sc (Pat.n (cmP s)) = Num.sc (Pat.n (CO.p j)) ∧ Num.inc (Pat.n (cmP s)) = Num.inc (Pat.n (CO.p j)) ∧ Num.ps (Pat.n (cmP s)) = Num.ps (Pat.n (CO.p j)) ∧ Num.me (Pat.n (cmP s)) = Num.me (Pat.n (CO.p j)) ∧ Num.px (Pat.n (cmP s)) = Num.px (Pat.n (CO.p j)) ∧ Pat.pa (cmP s) = Pat.pa (CO.p j) ∧ Pat.pd (cmP s) = Pat.pd (CO.p j) ∧ Pat.pw (cmP s) = Pat.pw (CO.p j)) ∧ Pat.pre (cmP s) = Pat.pre (CO.p j) ∧ Pat.suf (cmP s) = Pat.suf (CO.p j) ∧ Pat.npre (cmP s) = Pat.npre (CO.p j) ∧ Pat.nsuf (cmP s) = Pat.nsuf (CO.p j)) ∧ ∀ (j : CO s), List.length (Pat.pre (CO.p j)) + List.length (Pat.suf (CO.p j)) + List.length (Pat.npre (CO.p j)) + List.length (Pat.nsuf (CO.p j)) ≤ (1000000000 : Nat) ∧ br (hasItm (4 : Int) (Pat.pre (CO.p j) ++ Pat.suf (CO.p j) ++ Pat.npre (CO.p j) ++ Pat.nsuf (CO.p j))) (List.length (Pat.pre (CO.p j)) + List.length (Pat.suf (CO.p j)) + List.length (Pat.npre (CO.p j)) + List.length (Pat.nsuf (CO.p j)) ≤ (1000000000 : Nat) ∧ br (hasItm (5 : Int) (Pat.pre (CO.p j) ++ Pat.suf (CO.p j) ++ Pat.npre (CO.p j) ++ Pat.nsuf (CO.p j))) (v1 ∧ (6 : Int) = (compileT s).2.1 ∧ (0 : Int) = (compileT s).2.2) ((Pat.pre (CO.p j) = Pat.pre (compileT s).1 ∧ Pat.suf (CO.p j) = Pat.suf (compileT s).1 ∧ Pat.hn (CO.p j) = Pat.hn (compileT s).1 ∧ Pat.npre (CO.p j) = Pat.npre (compileT s).1 ∧ Pat.nsuf (CO.p j) = Pat.nsuf (compileT s).1 ∧ Num.mi (Pat.n (CO.p j)) = Num.mi (Pat.n (compileT s).1) ∧ Num.xi (Pat.n (CO.p j)) = Num.xi (Pat.n (compileT s).1) ∧ Num.mf (Pat.n (CO.p j)) = Num.mf (Pat.n (compileT s).1) ∧ Num.xf (Pat.n (CO.p j)) = Num.xf (Pat.n (compileT s).1) ∧ Num.ms (Pat.n (CO.p j)) = Num.ms (Pat.n (compileT s).1) ∧ Num.xs (Pat.n (CO.p j)) = Num.xs (Pat.n (compileT s).1) ∧ Num.pr (Pat.n (CO.p j)) = Num.pr (Pat.n (compileT s).1) ∧ Num.sc (Pat.n (CO.p j)) = Num.sc (Pat.n (compileT s).1) ∧ Num.inc (Pat.n (CO.p j)) = Num.inc (Pat.n (compileT s).1) ∧ Num.ps (Pat.n (CO.p j)) = Num.ps (Pat.n (compileT s).1) ∧ Num.me (Pat.n (CO.p j)) = Num.me (Pat.n (compileT s).1) ∧ Num.px (Pat.n (CO.p j)) = Num.px (Pat.n (compileT s).1) ∧ Pat.pa (CO.p j) = Pat.pa (compileT s).1 ∧ Pat.pd (CO.p j) = Pat.pd (compileT s).1 ∧ Pat.pw (CO.p j) = Pat.pw (compileT s).1) ∧ (0 : Int) = (compileT s).2.1 ∧ (0 : Int) = (compileT s).2.2)) ((Pat.pre (CO.p j) = Pat.pre (compileT s).1 ∧ Pat.suf (CO.p j) = Pat.suf (compileT s).1 ∧ Pat.hn (CO.p j) = Pat.hn (compileT s).1 ∧ Pat.npre (CO.p j) = Pat.npre (compileT s).1 ∧ Pat.nsuf (CO.p j) = Pat.nsuf (compileT s).1 ∧ Num.mi (Pat.n (CO.p j)) = Num.mi (Pat.n (compileT s).1) ∧ Num.xi (Pat.n (CO.p j)) = Num.xi (Pat.n (compileT s).1) ∧ Num.mf (Pat.n (CO.p j)) = Num.mf (Pat.n (compileT s).1) ∧ Num.xf (Pat.n (CO.p j)) = Num.xf (Pat.n (compileT s).1) ∧ Num.ms (Pat.n (CO.p j)) = Num.ms (Pat.n (compileT s).1) ∧ Num.xs (Pat.n (CO.p j)) = Num.xs (Pat.n (compileT s).1) ∧ Num.pr (Pat.n (CO.p j)) = Num.pr (Pat.n (compileT s).1) ∧ Num.sc (Pat.n (CO.p j)) = Num.sc (Pat.n (compileT s).1) ∧ Num.inc (Pat.n (CO.p j)) = Num.inc (Pat.n (compileT s).1) ∧ Num.ps (Pat.n (CO.p j)) = Num.ps (Pat.n (compileT s).1) ∧ Num.me (Pat.n (CO.p j)) = Num.me (Pat.n (compileT s).1) ∧ Num.px (Pat.n (CO.p j)) = Num.px (Pat.n (compileT s).1) ∧ Pat.pa (CO.p j) = Pat.pa (compileT s).1 ∧ Pat.pd (CO.p j) = Pat.pd (compileT s).1 ∧ Pat.pw (CO.p j) = Pat.pw (compileT s).1) ∧ (0 : Int) = (compileT s).2.1 ∧ (0 : Int) = (compileT s).2.2))))) := by kernel_rfl
set_option maxHeartbeats 4000000 in
theorem of_pcompile (h : ∀ (s : List UInt8), (s.length ≤ 1000000) → vcP [(30, sp_tscan), (31, sp_elements), (32, sp_ahead), (33, sp_pread), (34, sp_pmade), (35, sp_pall)] [] misc Tryz.f14 (ann15 s) [.one (.str s)] (.tup [(true, (compileT s).1.pcs), (true, [.int .i64 (compileT s).2.1, .int .i64 (compileT s).2.2])])) : FnP 14 sp_pcompile := by
  refine fnP_ok (cs := [(30, sp_tscan), (31, sp_elements), (32, sp_ahead), (33, sp_pread), (34, sp_pmade), (35, sp_pall)]) (cas := []) (ms := misc) (.cons ok_tscan (.cons ok_elements (.cons ok_ahead (.cons ok_pread (.cons ok_pmade (.cons ok_pall .nil)))))) .nil misc_ok 14 Tryz.f14 (by kernel_rfl) (by kernel_rfl) (by kernel_rfl) (fun | [.one (.str s)] => ann15 s | _ => .nil) ?_
  intro pvs p r hs hp
  unfold sp_pcompile at hs
  simp only at hs
  split at hs
  · rename_i s
    cases hs
    refine h s ?_
    · exact hp
  · cases hs
theorem readT_len (l : List Iv) (b : Int) (first : Bool) : (readT l b first).1.px.length ≤ 40 ∧ (readT l b first).1.sx.length ≤ 40 := by
  have i1 := itemsR_len (plainT (cutT l b).1.p)
  have i2 := itemsR_len (plainT (cutT l b).1.s)
  unfold readT
  split
  · exact ⟨Nat.zero_le _, Nat.zero_le _⟩
  · split
    · exact ⟨Nat.zero_le _, Nat.zero_le _⟩
    · split
      · exact ⟨Nat.zero_le _, Nat.zero_le _⟩
      · split
        · exact ⟨Nat.zero_le _, Nat.zero_le _⟩
        · split
          · exact ⟨Nat.zero_le _, Nat.zero_le _⟩
          · exact ⟨i1, i2⟩
theorem fold_min (x y : Int) : List.foldl (mnx false) x [y] = min x y := by
  show (if y < x then y else x) = _
  split <;> omega
theorem compile_scan {s : List UInt8} (h : (scanT s).2.1 ≠ 0) : compileT s = (p0, (scanT s).2) := by unfold compileT; rw [if_pos h]
theorem compile_elems {s : List UInt8} (h1 : (scanT s).2.1 = 0) (h : (elemsR (scanT s).1).2.1 ≠ 0) : compileT s = (p0, (elemsR (scanT s).1).2) := by unfold compileT; rw [if_neg (by simp [h1]), if_pos h]
theorem compile_E {s : List UInt8} (h : C7 s) : compileT s = compE (cmL s) := by unfold compileT; rw [if_neg (by simp [h.h1]), if_neg (by simp [h.h2])]; rfl
theorem compile_semi {s : List UInt8} (h : C7 s) (h3 : aheadN (behindL (cmL s)) < (behindL (cmL s)).length) : compileT s = (p0, 4, ((behindL (cmL s)).getD (aheadN (behindL (cmL s))) default).at_) := by
  rw [compile_E h]; unfold compE; rw [if_pos h3]
theorem compile_r1 {s : List UInt8} (h : C12 s) (h4 : (rd1 s).2.1 ≠ 0) : compileT s = (p0, (rd1 s).2) := by
  rw [compile_E h.toC7]; unfold compE; rw [if_neg h.h3]
  exact if_pos h4
theorem compile_r2 {s : List UInt8} (h : C18 s) (h4 : (rd2 s).2.1 ≠ 0) : compileT s = (p0, (rd2 s).2) := by
  rw [compile_E h.toC7]; unfold compE; rw [if_neg h.h3]
  exact (if_neg fun h0 => h0 h.h4).trans ((if_pos h.h5).trans (if_pos h4))
theorem compile_two {s : List UInt8} (h : C18 s) (h4 : (rd2 s).2.1 = 0) : compileT s = if bothH (cmQ s) = true then (p0, 6, 0) else (cmQ s, 0, 0) := by
  rw [compile_E h.toC7]; unfold compE; rw [if_neg h.h3]
  exact (if_neg fun h0 => h0 h.h4).trans ((if_pos h.h5).trans (if_neg fun h0 => h0 h4))
theorem compile_one {s : List UInt8} (h : C16 s) (h5 : ¬ aheadN (cmL s) < (cmL s).length) : compileT s = if bothH (cmP s) = true then (p0, 6, 0) else (cmP s, 0, 0) := by
  rw [compile_E h.toC7]; unfold compE; rw [if_neg h.h3]
  exact (if_neg fun h0 => h0 h.h4).trans (if_neg h5)
set_option maxHeartbeats 4000000 in
theorem ok_pcompile : FnP 14 sp_pcompile := of_pcompile (by
  intro s hs
  rw [vc_pcompile]
  obtain ⟨h1, h2, h3, h4, h5⟩ := scanT_in s
  obtain ⟨k1, k2, k3⟩ := elems_in s
  have hL : cmL s = (elemsR (scanT s).1).1 := rfl
  rw [← hL] at k1 k3
  have l1 : (rd1 s).1.px.length ≤ 40 ∧ (rd1 s).1.sx.length ≤ 40 := readT_len ((cmL s).take (aheadN (cmL s))) 0 true
  have l2 : (rd2 s).1.px.length ≤ 40 ∧ (rd2 s).1.sx.length ≤ 40 := readT_len (behindL (cmL s)) (((cmL s).getD (aheadN (cmL s)) default).at_ + 1) false
  have hb : (behindL (cmL s)).length ≤ 400 := by unfold behindL; rw [List.length_drop]; omega
  have hb1 : EP (fun x => 0 ≤ x ∧ x < (s.length : Int)) (behindL (cmL s)) := k1.drop _
  have ha : (cmL s).findIdx (isIn [59]) = aheadN (cmL s) := rfl
  have hal : aheadN (cmL s) ≤ (cmL s).length := List.findIdx_le_length
  have hab : (behindL (cmL s)).findIdx (isIn [59]) = aheadN (behindL (cmL s)) := rfl
  have hbe : List.drop (Int.toNat (List.foldl (mnx false) ((aheadN (cmL s) : Int) + 1) [((cmL s).length : Int)])) (List.take (cmL s).length (cmL s)) = behindL (cmL s) := by
    rw [fold_min, List.take_length]; unfold behindL; congr 1; omega
  have htk : List.drop 0 (List.take (Int.toNat (aheadN (cmL s) : Int)) (cmL s)) = (cmL s).take (aheadN (cmL s)) := by rw [Int.toNat_natCast]; rfl
  have htl : ((cmL s).take (aheadN (cmL s))).length ≤ 400 := by rw [List.length_take]; omega
  rw [ha, hab, htk]
  rw [show readT (List.take (aheadN (cmL s)) (cmL s)) 0 true = rd1 s from rfl]
  have fP : (cmP s).pre.length + (cmP s).suf.length + (cmP s).npre.length + (cmP s).nsuf.length ≤ 1000000000 := by
    show (rd1 s).1.px.length + (rd1 s).1.sx.length + ((rd1 s).1.px.length + 1) + (rd1 s).1.sx.length ≤ _
    omega
  have fQ : (cmQ s).pre.length + (cmQ s).suf.length + (cmQ s).npre.length + (cmQ s).nsuf.length ≤ 1000000000 := by
    show (rd1 s).1.px.length + (rd1 s).1.sx.length + (rd2 s).1.px.length + (rd2 s).1.sx.length ≤ _
    omega
  refine ⟨by omega, br_of (fun h => ?_) fun h => ⟨by omega, br_of (fun h' => ?_) fun h' => ⟨⟨⟨?_, ?_⟩⟩, ?_⟩, fun j7 => ⟨by omega, ⟨by simp only [inR]; omega, by rw [fold_min]; omega, j7, ?_⟩, fun _ => ⟨⟨by omega, br_of (fun h => ?_) fun h => ⟨⟨j7.down, ?_⟩, ?_⟩⟩, fun j12 => ⟨⟨by omega, fun y hy => (k1.take _ y hy).1, by omega, j12, ?_⟩, fun _ => br_of (fun h => ?_) fun h => ⟨⟨by omega, ⟨⟨j12.down, ?_⟩⟩, ?_⟩, fun j16 => ⟨br_of (fun h => ?_) fun h => ?_, fun x => ?_⟩⟩⟩⟩⟩⟩⟩
  · have h : (scanT s).2.1 ≠ 0 := by simpa using h
    rw [compile_scan h]; and_intros <;> rfl
  all_goals have g1 : (scanT s).2.1 = 0 := by first | exact j7.down.h1 | simpa using h
  · have h' : (elemsR (scanT s).1).2.1 ≠ 0 := by simpa using h'
    rw [compile_elems g1 h']; and_intros <;> rfl
  · exact g1
  · simpa using h'
  · and_intros <;> rfl
  · and_intros
    all_goals first | rfl | exact hbe
  all_goals have g7 : C7 s := j7.down
  · have h : aheadN (behindL (cmL s)) < (behindL (cmL s)).length := by simpa using h
    rw [compile_semi g7 h, Int.toNat_natCast]
    refine ⟨by omega, h, ?_⟩
    have := (hb1 _ (show (behindL (cmL s)).getD (aheadN (behindL (cmL s))) default ∈ behindL (cmL s) by rw [List.getD_eq_getElem?_getD, List.getElem?_eq_getElem h]; exact List.getElem_mem h)).1.1
    refine ⟨this, ?_⟩
    and_intros <;> rfl
  · simpa using h
  · and_intros <;> rfl
  all_goals have g12 : C12 s := j12.down
  · and_intros
    all_goals first | rfl
  · have h : (rd1 s).2.1 ≠ 0 := by simpa using h
    rw [compile_r1 g12 h]; and_intros <;> rfl
  · simpa using h
  · and_intros <;> rfl
  all_goals have g16 : C16 s := j16.down
  · have h : aheadN (cmL s) < (cmL s).length := by simpa using h
    have hm := k1 _ (show (cmL s).getD (aheadN (cmL s)) default ∈ cmL s by rw [List.getD_eq_getElem?_getD, List.getElem?_eq_getElem h]; exact List.getElem_mem h)
    rw [Int.toNat_natCast]
    refine ⟨⟨by omega, h, hm.1.1, by have := hm.2; simp only [inR]; omega, fun y hy => (hb1 y hy).1, by omega, ⟨⟨g16, h⟩⟩, ?_⟩, fun j18 => br_of (fun h => ?_) fun h => ⟨⟨cmQ s, fQ, compile_two j18.down (by simpa using h)⟩, ?_⟩⟩
    · and_intros <;> rfl
    · have h : (rd2 s).2.1 ≠ 0 := by simpa using h
      rw [compile_r2 j18.down h]; and_intros <;> rfl
    · and_intros <;> rfl
  · have h : ¬ aheadN (cmL s) < (cmL s).length := by simpa using h
    refine ⟨⟨cmP s, fP, compile_one g16 h⟩, ?_⟩
    and_intros <;> rfl
  · have hx := x.eq
    refine ⟨x.few, br_of (fun h => ⟨x.few, br_of (fun h' => ?_) fun h' => ?_⟩) fun h => ?_⟩
    · rw [if_pos (by unfold bothH; rw [h, h']; rfl)] at hx
      rw [hx]; and_intros <;> rfl
    · rw [if_neg (by unfold bothH; rw [h, h']; decide)] at hx
      rw [hx]; and_intros <;> rfl
    · rw [if_neg (by unfold bothH; rw [h]; simp)] at hx
      rw [hx]; and_intros <;> rfl)
end Go.Proofs.YtglfkihckkjniaaGreatDoor.Vx
namespace Go.Proofs.YtglfkihckkjniaaGreatDoor.Vx
open Go Go.RowKit
structure SI (a b : List Itm) where
  n : Nat
  le : n ≤ a.length
  len : a.length = b.length
  eq : a.take n = b.take n
theorem SI.next {a b : List Itm} (x : SI a b) (h : x.n < a.length) (hk : (a.getD x.n default).k = (b.getD x.n default).k) (hr : (a.getD x.n default).r = (b.getD x.n default).r) : a.take (x.n + 1) = b.take (x.n + 1) := by
  have hl := x.len
  rw [List.take_add_one, List.take_add_one, x.eq, List.getElem?_eq_getElem h, List.getElem?_eq_getElem (by omega)]
  rw [List.getD_eq_getElem?_getD, List.getD_eq_getElem?_getD, List.getElem?_eq_getElem h, List.getElem?_eq_getElem (by omega)] at hk hr
  have : a[x.n] = b[x.n] := by
    cases ha : a[x.n]; cases hb : b[x.n]
    rw [ha, hb] at hk hr
    simp at hk hr; rw [hk, hr]
  rw [this]
structure P2 where
  a : Pat
  b : Pat
def P2.pvs (t : P2) : List PV := [.agg t.a.pcs, .agg t.b.pcs]
def Pat.small (p : Pat) (n : Nat) : Prop := p.pre.length ≤ n ∧ p.suf.length ≤ n ∧ p.npre.length ≤ n ∧ p.nsuf.length ≤ n
def litA : List UInt8 := [42, 120, 35, 44, 35, 35, 48, 46, 48, 48, 37, 59, 40, 35, 41]
def patA : Pat := ⟨[], [⟨4, 0⟩], true, [⟨1, 40⟩], [⟨1, 41⟩], ⟨1, 0, 2, 2, 0, 0, 3, 3, [], false, 0, false⟩, 1, 120, 9⟩
theorem compA : compileT litA = (patA, 0, 0) := by kernel_rfl
theorem compB : compileT [97] = (p0, 4, 0) := by kernel_rfl
def sp_pcAB : FSpec := ⟨[], fun
  | [.one (.str s)] => bif s == litA then some ([], .tup [(true, patA.pcs), (true, [.int .i64 0, .int .i64 0])]) else bif s == [97] then some ([], .tup [(true, p0.pcs), (true, [.int .i64 4, .int .i64 0])]) else none
  | _ => none⟩
theorem ok_pcAB : FnP 14 sp_pcAB := by
  refine ⟨ok_pcompile.body, ?_⟩
  intro pvs p r hs hp
  unfold sp_pcAB at hs
  simp only at hs
  split at hs
  · rename_i s
    cases h1 : s == litA with
    | true =>
      rw [h1, cond_true] at hs
      cases hs
      have := eq_of_beq h1
      subst this
      refine ok_pcompile.calls [.one (.str litA)] [litA.length ≤ 1000000] _ ?_ (show litA.length ≤ 1000000 by decide)
      show some (_, _) = some (_, _)
      rw [compA]
    | false =>
      rw [h1, cond_false] at hs
      cases h2 : s == [97] with
      | true =>
        rw [h2, cond_true] at hs
        cases hs
        have := eq_of_beq h2
        subst this
        refine ok_pcompile.calls [.one (.str [97])] [([97] : List UInt8).length ≤ 1000000] _ ?_ (show ([97] : List UInt8).length ≤ 1000000 by decide)
        show some (_, _) = some (_, _)
        rw [compB]
      | false => rw [h2, cond_false] at hs; cases hs
  · cases hs
def sp_ans16 : FSpec := ⟨[], fun | [] => some ([], .one (.bool true)) | _ => none⟩
theorem vc_ans16  : vcP [(14, sp_pcAB), (29, sp_pmult)] [] misc Tryz.f13 (.nil) [] (.one (.bool true)) = (List.length (Pat.pre patA) + List.length (Pat.suf patA) + List.length (Pat.npre patA) + List.length (Pat.nsuf patA) ≤ (1000000000 : Nat) ∧ ((4 : Int) == (4 : Int)) = true) := by kernel_rfl
set_option maxHeartbeats 4000000 in
theorem of_ans16 (h : vcP [(14, sp_pcAB), (29, sp_pmult)] [] misc Tryz.f13 (.nil) [] (.one (.bool true))) : FnP 13 sp_ans16 := by
  refine fnP_ok (cs := [(14, sp_pcAB), (29, sp_pmult)]) (cas := []) (ms := misc) (.cons ok_pcAB (.cons ok_pmult .nil)) .nil misc_ok 13 Tryz.f13 (by kernel_rfl) (by kernel_rfl) (by kernel_rfl) (fun _ => .nil) ?_
  intro pvs p r hs hp
  unfold sp_ans16 at hs
  simp only at hs
  split at hs
  · cases hs
    refine h 
  · cases hs
theorem ok_ans16 : FnP 13 sp_ans16 := of_ans16 (by
  rw [vc_ans16]
  exact ⟨by decide, rfl⟩)
theorem Pat.small.mono {p : Pat} {n m : Nat} (h : p.small n) (hm : n ≤ m) : p.small m := ⟨Nat.le_trans h.1 hm, Nat.le_trans h.2.1 hm, Nat.le_trans h.2.2.1 hm, Nat.le_trans h.2.2.2 hm⟩
end Go.Proofs.YtglfkihckkjniaaGreatDoor.Vx
namespace Go.Proofs.YtglfkihckkjniaaGreatDoor.Vx
open Go Go.RowKit
def cutI (c : Int) : List UInt8 → List UInt8 × List UInt8 × Bool
  | [] => ([], [], false)
  | x :: l => if (x.toNat : Int) = c then ([], l, true) else (x :: (cutI c l).1, (cutI c l).2.1, (cutI c l).2.2)
def CI (c : Int) (s : List UInt8) : Type := {i : Nat // i ≤ s.length ∧ cutI c s = (s.take i ++ (cutI c (s.drop i)).1, (cutI c (s.drop i)).2.1, (cutI c (s.drop i)).2.2)}
def sp_r3cut : FSpec := ⟨[], fun | [.one (.str s), .one (.int .u8 c)] => some ([s.length ≤ 1000000000000], .tup [(false, [.str (cutI c s).1]), (false, [.str (cutI c s).2.1]), (false, [.bool (cutI c s).2.2])]) | _ => none⟩
theorem vc_r3cut (s : List UInt8) (c : Int) : vcP [] [] misc Tryz.f40 (.loop 2 (CI c s) (fun i => ⟨[(0, .one (.str s)), (1, .one (.int .u8 c)), (7, .one (.int .i64 i.1))], [], 16⟩) (fun i => s.length - i.1) (fun _ => .nil) .nil) [.one (.str s), .one (.int .u8 c)] (.tup [(false, [.str (cutI c s).1]), (false, [.str (cutI c s).2.1]), (false, [.bool (cutI c s).2.2])]) = ((∃ (x : CI c s), s = s ∧ c = c ∧ (0 : Int) = (↑(Subtype.val x) : Int)) ∧ ∀ (x : CI c s), br (decide ((↑(Subtype.val x) : Int) < (↑(List.length s) : Int))) (((0 : Int) ≤ (↑(Subtype.val x) : Int) ∧ (↑(Subtype.val x) : Int) < (↑(List.length s) : Int)) ∧ br (bAt s (↑(Subtype.val x) : Int) == c) (((0 : Int) ≤ (↑(Subtype.val x) : Int) ∧ (↑(Subtype.val x) : Int) ≤ (↑(List.length s) : Int)) ∧ inR IntKind.i64 ((↑(Subtype.val x) : Int) + (1 : Int)) ∧ ((0 : Int) ≤ (↑(Subtype.val x) : Int) + (1 : Int) ∧ (↑(Subtype.val x) : Int) + (1 : Int) ≤ (↑(List.length s) : Int)) ∧ List.take (Int.toNat (↑(Subtype.val x) : Int)) s = (cutI c s).1 ∧ List.drop (Int.toNat ((↑(Subtype.val x) : Int) + (1 : Int))) s = (cutI c s).2.1 ∧ true = (cutI c s).2.2) (inR IntKind.i64 ((↑(Subtype.val x) : Int) + (1 : Int)) ∧ ∃ (x' : CI c s), (s = s ∧ c = c ∧ (↑(Subtype.val x) : Int) + (1 : Int) = (↑(Subtype.val x') : Int)) ∧ List.length s - Subtype.val x' < List.length s - Subtype.val x)) (s = (cutI c s).1 ∧ Array.toList #[] = (cutI c s).2.1 ∧ false = (cutI c s).2.2)) := by kernel_rfl
set_option maxHeartbeats 4000000 in
theorem of_r3cut (h : ∀ (s : List UInt8) (c : Int), (s.length ≤ 1000000000000) → vcP [] [] misc Tryz.f40 (.loop 2 (CI c s) (fun i => ⟨[(0, .one (.str s)), (1, .one (.int .u8 c)), (7, .one (.int .i64 i.1))], [], 16⟩) (fun i => s.length - i.1) (fun _ => .nil) .nil) [.one (.str s), .one (.int .u8 c)] (.tup [(false, [.str (cutI c s).1]), (false, [.str (cutI c s).2.1]), (false, [.bool (cutI c s).2.2])])) : FnP 40 sp_r3cut := by
  refine fnP_ok (cs := []) (cas := []) (ms := misc) .nil .nil misc_ok 40 Tryz.f40 (by kernel_rfl) (by kernel_rfl) (by kernel_rfl) (fun | [.one (.str s), .one (.int .u8 c)] => .loop 2 (CI c s) (fun i => ⟨[(0, .one (.str s)), (1, .one (.int .u8 c)), (7, .one (.int .i64 i.1))], [], 16⟩) (fun i => s.length - i.1) (fun _ => .nil) .nil | _ => .nil) ?_
  intro pvs p r hs hp
  unfold sp_r3cut at hs
  simp only at hs
  split at hs
  · rename_i s c
    cases hs
    refine h s c ?_
    · exact hp
  · cases hs
def isC (k : Int) (x : UInt8) : Bool := ((x.toNat : Int) == k) || ((k == 48) && decide ((x.toNat : Int) ≥ 48) && decide ((x.toNat : Int) ≤ 57))
def cntC (k : Int) (s : List UInt8) : Nat := s.countP (isC k)
def sp_r3count : FSpec := ⟨[], fun | [.one (.str s), .one (.int .u8 c)] => some ([s.length ≤ 1000000000000], .one (.int .i64 (cntC c s))) | _ => none⟩
theorem vc_r3count (s : List UInt8) (c : Int) : vcP [] [] misc Tryz.f42 (.loop 3 (Upto s) (fun i => ⟨[(0, .one (.str s)), (1, .one (.int .u8 c)), (5, .one (.int .i64 (cntC c (s.take i.1)))), (6, .one (.int .i64 i.1))], [], 16⟩) (fun i => s.length - i.1) (fun _ => .nil) .nil) [.one (.str s), .one (.int .u8 c)] (.one (.int .i64 (cntC c s))) = ((∃ (x : Upto s), s = s ∧ c = c ∧ (0 : Int) = (↑(cntC c (List.take (Subtype.val x) s)) : Int) ∧ (0 : Int) = (↑(Subtype.val x) : Int)) ∧ ∀ (x : Upto s), br (decide ((↑(Subtype.val x) : Int) < (↑(List.length s) : Int))) (((0 : Int) ≤ (↑(Subtype.val x) : Int) ∧ (↑(Subtype.val x) : Int) < (↑(List.length s) : Int)) ∧ br (bAt s (↑(Subtype.val x) : Int) == c) (inR IntKind.i64 ((↑(cntC c (List.take (Subtype.val x) s)) : Int) + (1 : Int)) ∧ inR IntKind.i64 ((↑(Subtype.val x) : Int) + (1 : Int)) ∧ ∃ (x' : Upto s), (s = s ∧ c = c ∧ (↑(cntC c (List.take (Subtype.val x) s)) : Int) + (1 : Int) = (↑(cntC c (List.take (Subtype.val x') s)) : Int) ∧ (↑(Subtype.val x) : Int) + (1 : Int) = (↑(Subtype.val x') : Int)) ∧ List.length s - Subtype.val x' < List.length s - Subtype.val x) (br (c == (48 : Int)) (((0 : Int) ≤ (↑(Subtype.val x) : Int) ∧ (↑(Subtype.val x) : Int) < (↑(List.length s) : Int)) ∧ br (decide (bAt s (↑(Subtype.val x) : Int) ≥ (48 : Int))) (((0 : Int) ≤ (↑(Subtype.val x) : Int) ∧ (↑(Subtype.val x) : Int) < (↑(List.length s) : Int)) ∧ br (decide (bAt s (↑(Subtype.val x) : Int) ≤ (57 : Int))) (inR IntKind.i64 ((↑(cntC c (List.take (Subtype.val x) s)) : Int) + (1 : Int)) ∧ inR IntKind.i64 ((↑(Subtype.val x) : Int) + (1 : Int)) ∧ ∃ (x' : Upto s), (s = s ∧ c = c ∧ (↑(cntC c (List.take (Subtype.val x) s)) : Int) + (1 : Int) = (↑(cntC c (List.take (Subtype.val x') s)) : Int) ∧ (↑(Subtype.val x) : Int) + (1 : Int) = (↑(Subtype.val x') : Int)) ∧ List.length s - Subtype.val x' < List.length s - Subtype.val x) (inR IntKind.i64 ((↑(Subtype.val x) : Int) + (1 : Int)) ∧ ∃ (x' : Upto s), (s = s ∧ c = c ∧ (↑(cntC c (List.take (Subtype.val x) s)) : Int) = (↑(cntC c (List.take (Subtype.val x') s)) : Int) ∧ (↑(Subtype.val x) : Int) + (1 : Int) = (↑(Subtype.val x') : Int)) ∧ List.length s - Subtype.val x' < List.length s - Subtype.val x)) (inR IntKind.i64 ((↑(Subtype.val x) : Int) + (1 : Int)) ∧ ∃ (x' : Upto s), (s = s ∧ c = c ∧ (↑(cntC c (List.take (Subtype.val x) s)) : Int) = (↑(cntC c (List.take (Subtype.val x') s)) : Int) ∧ (↑(Subtype.val x) : Int) + (1 : Int) = (↑(Subtype.val x') : Int)) ∧ List.length s - Subtype.val x' < List.length s - Subtype.val x)) (inR IntKind.i64 ((↑(Subtype.val x) : Int) + (1 : Int)) ∧ ∃ (x' : Upto s), (s = s ∧ c = c ∧ (↑(cntC c (List.take (Subtype.val x) s)) : Int) = (↑(cntC c (List.take (Subtype.val x') s)) : Int) ∧ (↑(Subtype.val x) : Int) + (1 : Int) = (↑(Subtype.val x') : Int)) ∧ List.length s - Subtype.val x' < List.length s - Subtype.val x))) ((↑(cntC c (List.take (Subtype.val x) s)) : Int) = (↑(cntC c s) : Int))) := by kernel_rfl
set_option maxHeartbeats 4000000 in
theorem of_r3count (h : ∀ (s : List UInt8) (c : Int), (s.length ≤ 1000000000000) → vcP [] [] misc Tryz.f42 (.loop 3 (Upto s) (fun i => ⟨[(0, .one (.str s)), (1, .one (.int .u8 c)), (5, .one (.int .i64 (cntC c (s.take i.1)))), (6, .one (.int .i64 i.1))], [], 16⟩) (fun i => s.length - i.1) (fun _ => .nil) .nil) [.one (.str s), .one (.int .u8 c)] (.one (.int .i64 (cntC c s)))) : FnP 42 sp_r3count := by
  refine fnP_ok (cs := []) (cas := []) (ms := misc) .nil .nil misc_ok 42 Tryz.f42 (by kernel_rfl) (by kernel_rfl) (by kernel_rfl) (fun | [.one (.str s), .one (.int .u8 c)] => .loop 3 (Upto s) (fun i => ⟨[(0, .one (.str s)), (1, .one (.int .u8 c)), (5, .one (.int .i64 (cntC c (s.take i.1)))), (6, .one (.int .i64 i.1))], [], 16⟩) (fun i => s.length - i.1) (fun _ => .nil) .nil | _ => .nil) ?_
  intro pvs p r hs hp
  unfold sp_r3count at hs
  simp only at hs
  split at hs
  · rename_i s c
    cases hs
    refine h s c ?_
    · exact hp
  · cases hs
theorem bAt_nat (s : List UInt8) (i : Nat) : bAt s (i : Int) = ((s.getD i 0).toNat : Int) := by
  unfold bAt; rw [Int.toNat_natCast]
theorem cntC_next (c : Int) (s : List UInt8) {i : Nat} (h : i < s.length) : cntC c (s.take (i + 1)) = cntC c (s.take i) + if isC c (s.getD i 0) = true then 1 else 0 := by
  unfold cntC
  rw [take_next s 0 h, List.countP_append, List.countP_singleton]
theorem cntC_le (c : Int) (s : List UInt8) : cntC c s ≤ s.length := List.countP_le_length
theorem ok_r3count : FnP 42 sp_r3count := of_r3count (by
  intro s c hs
  rw [vc_r3count]
  refine ⟨⟨⟨0, Nat.zero_le _⟩, by and_intros <;> rfl⟩, fun x => ?_⟩
  have hx := x.2
  have hl := cntC_le c (s.take x.1)
  have hl2 : (s.take x.1).length ≤ s.length := by rw [List.length_take]; omega
  refine br_of (fun h => ?_) fun h => ?_
  · have h : x.1 < s.length := by simpa using h
    have hn := cntC_next c s h
    rw [bAt_nat]
    have yes : isC c (s.getD x.1 0) = true → ∃ x' : Upto s, (s = s ∧ c = c ∧ ((cntC c (s.take x.1) : Nat) : Int) + 1 = (cntC c (s.take x'.1) : Nat) ∧ (x.1 : Int) + 1 = (x'.1 : Nat)) ∧ s.length - x'.1 < s.length - x.1 := fun hy => by
      rw [if_pos hy] at hn
      exact ⟨⟨x.1 + 1, h⟩, ⟨rfl, rfl, by show _ = ((cntC c (s.take (x.1 + 1)) : Nat) : Int); omega, rfl⟩, by show s.length - (x.1 + 1) < _; omega⟩
    have no : isC c (s.getD x.1 0) = false → ∃ x' : Upto s, (s = s ∧ c = c ∧ ((cntC c (s.take x.1) : Nat) : Int) = (cntC c (s.take x'.1) : Nat) ∧ (x.1 : Int) + 1 = (x'.1 : Nat)) ∧ s.length - x'.1 < s.length - x.1 := fun hy => by
      rw [if_neg (by rw [hy]; decide)] at hn
      exact ⟨⟨x.1 + 1, h⟩, ⟨rfl, rfl, by show _ = ((cntC c (s.take (x.1 + 1)) : Nat) : Int); omega, rfl⟩, by show s.length - (x.1 + 1) < _; omega⟩
    have i1 : inR .i64 ((x.1 : Int) + 1) := by simp only [inR]; omega
    have i2 : inR .i64 (((cntC c (s.take x.1) : Nat) : Int) + 1) := by simp only [inR]; omega
    refine ⟨⟨by omega, by omega⟩, br_of (fun h1 => ⟨i2, i1, yes (by unfold isC; rw [h1]; rfl)⟩) fun h1 => br_of (fun h2 => ⟨⟨by omega, by omega⟩, br_of (fun h3 => ⟨⟨by omega, by omega⟩, br_of (fun h4 => ⟨i2, i1, yes (by unfold isC; rw [h1, h2, h3, h4]; rfl)⟩) fun h4 => ⟨i1, no (by unfold isC; rw [h1, h2, h3, h4]; rfl)⟩⟩) fun h3 => ⟨i1, no (by unfold isC; rw [h1, h2, h3]; rfl)⟩⟩) fun h2 => ⟨i1, no (by unfold isC; rw [h1, h2]; rfl)⟩⟩
  · have h : ¬ x.1 < s.length := by simpa using h
    rw [List.take_of_length_le (by omega)])
def ST (s : List UInt8) : Type := {t : List UInt8 // t.length ≤ s.length ∧ dropP (· == 48) t = dropP (· == 48) s}
def sp_r3strip : FSpec := ⟨[], fun | [.one (.str s)] => some ([s.length ≤ 1000000000000], .one (.str (dropP (· == 48) s))) | _ => none⟩
theorem vc_r3strip (s : List UInt8) : vcP [] [] misc Tryz.f41 (.loop 1 (ST s) (fun t => ⟨[(0, .one (.str t.1))], [], 16⟩) (fun t => t.1.length) (fun _ => .nil) .nil) [.one (.str s)] (.one (.str (dropP (· == 48) s))) = ((∃ (x : ST s), s = Subtype.val x) ∧ ∀ (x : ST s), br (decide ((↑(List.length (Subtype.val x)) : Int) > (0 : Int))) (((0 : Int) ≤ (0 : Int) ∧ (0 : Int) < (↑(List.length (Subtype.val x)) : Int)) ∧ br (bAt (Subtype.val x) (0 : Int) == (48 : Int)) (((0 : Int) ≤ (1 : Int) ∧ (1 : Int) ≤ (↑(List.length (Subtype.val x)) : Int)) ∧ ∃ (x' : ST s), List.drop (Int.toNat (1 : Int)) (Subtype.val x) = Subtype.val x' ∧ List.length (Subtype.val x') < List.length (Subtype.val x)) (Subtype.val x = dropP (fun (x : Int) => x == (48 : Int)) s)) (Subtype.val x = dropP (fun (x : Int) => x == (48 : Int)) s)) := by kernel_rfl
set_option maxHeartbeats 4000000 in
theorem of_r3strip (h : ∀ (s : List UInt8), (s.length ≤ 1000000000000) → vcP [] [] misc Tryz.f41 (.loop 1 (ST s) (fun t => ⟨[(0, .one (.str t.1))], [], 16⟩) (fun t => t.1.length) (fun _ => .nil) .nil) [.one (.str s)] (.one (.str (dropP (· == 48) s)))) : FnP 41 sp_r3strip := by
  refine fnP_ok (cs := []) (cas := []) (ms := misc) .nil .nil misc_ok 41 Tryz.f41 (by kernel_rfl) (by kernel_rfl) (by kernel_rfl) (fun | [.one (.str s)] => .loop 1 (ST s) (fun t => ⟨[(0, .one (.str t.1))], [], 16⟩) (fun t => t.1.length) (fun _ => .nil) .nil | _ => .nil) ?_
  intro pvs p r hs hp
  unfold sp_r3strip at hs
  simp only at hs
  split at hs
  · rename_i s
    cases hs
    refine h s ?_
    · exact hp
  · cases hs
def dropC (k : Int) (s : List UInt8) : List UInt8 := s.dropWhile (isC k)
def rowsF (a b c : Int) (k : Nat) (s : List UInt8) : List UInt8 :=
  match k with
  | 0 => dropC c (dropC b (dropC a s))
  | 1 => dropC c (dropC b s)
  | 2 => dropC c s
  | _ => s
def RW (a b c : Int) (s : List UInt8) : Type := {p : Nat × Nat // p.1 ≤ s.length ∧ p.2 ≤ 2 ∧ rowsF a b c p.2 (s.drop p.1) = rowsF a b c 0 s}
def RI (a b c : Int) (s : List UInt8) (i : Nat) : Type := {k : Nat // i < s.length ∧ k ≤ 3 ∧ rowsF a b c k (s.drop i) = rowsF a b c 0 s}
def sp_r3rows : FSpec := ⟨[], fun | [.one (.str s), .one (.int .u8 a), .one (.int .u8 b), .one (.int .u8 c)] => some ([s.length ≤ 1000000000000, (0 ≤ a ∧ a < 256) ∧ (0 ≤ b ∧ b < 256) ∧ (0 ≤ c ∧ c < 256)], .one (.bool (decide (rowsF a b c 0 s = [])))) | _ => none⟩
theorem vc_r3rows (s : List UInt8) (a b c : Int) : vcP [(42, sp_r3count)] [] miscL Tryz.f43 (.loop 4 (RW a b c s) (fun p => ⟨[(0, .one (.str s)), (9, .one (.slc 16)), (10, .one (.int .i64 p.1.2)), (11, .one (.int .i64 p.1.1))], [(16, some (.row 5 (.ints .u8 [a, b, c])))], 17⟩) (fun p => s.length - p.1.1) (fun p => .loop 6 (RI a b c s p.1.1) (fun k => ⟨[(0, .one (.str s)), (9, .one (.slc 16)), (10, .one (.int .i64 k.1)), (11, .one (.int .i64 p.1.1))], [(16, some (.row 5 (.ints .u8 [a, b, c])))], 17⟩) (fun k => 3 - k.1) (fun _ => .nil) .nil) .nil) [.one (.str s), .one (.int .u8 a), .one (.int .u8 b), .one (.int .u8 c)] (.one (.bool (decide (rowsF a b c 0 s = [])))) = ((∃ (x : RW a b c s), s = s ∧ (0 : Int) = (↑(Subtype.val x).2 : Int) ∧ (0 : Int) = (↑(Subtype.val x).1 : Int) ∧ [] ++ [a] ++ [b] ++ [c] = [a, b, c]) ∧ ∀ (x : RW a b c s), br (decide ((↑(Subtype.val x).1 : Int) < (↑(List.length s) : Int))) ((∃ (x_1 : RI a b c s (Prod.fst (Subtype.val x))), s = s ∧ (↑(Subtype.val x).2 : Int) = (↑(Subtype.val x_1) : Int) ∧ (↑(Subtype.val x).1 : Int) = (↑(Subtype.val x).1 : Int) ∧ [a, b, c] = [a, b, c]) ∧ ∀ (x_1 : RI a b c s (Prod.fst (Subtype.val x))), br (decide ((↑(Subtype.val x_1) : Int) < (3 : Int))) (inR IntKind.i64 ((↑(Subtype.val x).1 : Int) + (1 : Int)) ∧ ((0 : Int) ≤ (↑(Subtype.val x).1 : Int) ∧ (↑(Subtype.val x).1 : Int) ≤ (↑(Subtype.val x).1 : Int) + (1 : Int) ∧ (↑(Subtype.val x).1 : Int) + (1 : Int) ≤ (↑(List.length s) : Int)) ∧ ((0 : Int) ≤ (↑(Subtype.val x_1) : Int) ∧ (↑(Subtype.val x_1) : Int) < (↑(3 : Nat) : Int)) ∧ Int.toNat (↑(Subtype.val x_1) : Int) < (3 : Nat) ∧ List.length (List.drop (Int.toNat (↑(Subtype.val x).1 : Int)) (List.take (Int.toNat ((↑(Subtype.val x).1 : Int) + (1 : Int))) s)) ≤ (1000000000000 : Nat) ∧ br ((↑(cntC (List.getD [a, b, c] (Int.toNat (↑(Subtype.val x_1) : Int)) (0 : Int)) (List.drop (Int.toNat (↑(Subtype.val x).1 : Int)) (List.take (Int.toNat ((↑(Subtype.val x).1 : Int) + (1 : Int))) s))) : Int) == (0 : Int)) (inR IntKind.i64 ((↑(Subtype.val x_1) : Int) + (1 : Int)) ∧ ∃ (x' : RI a b c s (Prod.fst (Subtype.val x))), (s = s ∧ (↑(Subtype.val x_1) : Int) + (1 : Int) = (↑(Subtype.val x') : Int) ∧ (↑(Subtype.val x).1 : Int) = (↑(Subtype.val x).1 : Int) ∧ [a, b, c] = [a, b, c]) ∧ (3 : Nat) - Subtype.val x' < (3 : Nat) - Subtype.val x_1) (br ((↑(Subtype.val x_1) : Int) == (3 : Int)) (false = decide (rowsF a b c (0 : Nat) s = [])) (inR IntKind.i64 ((↑(Subtype.val x).1 : Int) + (1 : Int)) ∧ ∃ (x' : RW a b c s), (s = s ∧ (↑(Subtype.val x_1) : Int) = (↑(Subtype.val x').2 : Int) ∧ (↑(Subtype.val x).1 : Int) + (1 : Int) = (↑(Subtype.val x').1 : Int) ∧ [a, b, c] = [a, b, c]) ∧ List.length s - (Subtype.val x').1 < List.length s - (Subtype.val x).1))) (br ((↑(Subtype.val x_1) : Int) == (3 : Int)) (false = decide (rowsF a b c (0 : Nat) s = [])) (inR IntKind.i64 ((↑(Subtype.val x).1 : Int) + (1 : Int)) ∧ ∃ (x' : RW a b c s), (s = s ∧ (↑(Subtype.val x_1) : Int) = (↑(Subtype.val x').2 : Int) ∧ (↑(Subtype.val x).1 : Int) + (1 : Int) = (↑(Subtype.val x').1 : Int) ∧ [a, b, c] = [a, b, c]) ∧ List.length s - (Subtype.val x').1 < List.length s - (Subtype.val x).1))) (true = decide (rowsF a b c (0 : Nat) s = []))) := by kernel_rfl
set_option maxHeartbeats 4000000 in
theorem of_r3rows (h : ∀ (s : List UInt8) (a b c : Int), (s.length ≤ 1000000000000) → ((0 ≤ a ∧ a < 256) ∧ (0 ≤ b ∧ b < 256) ∧ (0 ≤ c ∧ c < 256)) → vcP [(42, sp_r3count)] [] miscL Tryz.f43 (.loop 4 (RW a b c s) (fun p => ⟨[(0, .one (.str s)), (9, .one (.slc 16)), (10, .one (.int .i64 p.1.2)), (11, .one (.int .i64 p.1.1))], [(16, some (.row 5 (.ints .u8 [a, b, c])))], 17⟩) (fun p => s.length - p.1.1) (fun p => .loop 6 (RI a b c s p.1.1) (fun k => ⟨[(0, .one (.str s)), (9, .one (.slc 16)), (10, .one (.int .i64 k.1)), (11, .one (.int .i64 p.1.1))], [(16, some (.row 5 (.ints .u8 [a, b, c])))], 17⟩) (fun k => 3 - k.1) (fun _ => .nil) .nil) .nil) [.one (.str s), .one (.int .u8 a), .one (.int .u8 b), .one (.int .u8 c)] (.one (.bool (decide (rowsF a b c 0 s = []))))) : FnP 43 sp_r3rows := by
  refine fnP_ok (cs := [(42, sp_r3count)]) (cas := []) (ms := miscL) (.cons ok_r3count .nil) .nil miscL_ok 43 Tryz.f43 (by kernel_rfl) (by kernel_rfl) (by kernel_rfl) (fun | [.one (.str s), .one (.int .u8 a), .one (.int .u8 b), .one (.int .u8 c)] => .loop 4 (RW a b c s) (fun p => ⟨[(0, .one (.str s)), (9, .one (.slc 16)), (10, .one (.int .i64 p.1.2)), (11, .one (.int .i64 p.1.1))], [(16, some (.row 5 (.ints .u8 [a, b, c])))], 17⟩) (fun p => s.length - p.1.1) (fun p => .loop 6 (RI a b c s p.1.1) (fun k => ⟨[(0, .one (.str s)), (9, .one (.slc 16)), (10, .one (.int .i64 k.1)), (11, .one (.int .i64 p.1.1))], [(16, some (.row 5 (.ints .u8 [a, b, c])))], 17⟩) (fun k => 3 - k.1) (fun _ => .nil) .nil) .nil | _ => .nil) ?_
  intro pvs p r hs hp
  unfold sp_r3rows at hs
  simp only at hs
  split at hs
  · rename_i s a b c
    cases hs
    refine h s a b c ?_ ?_
    · exact hp.1
    · exact hp.2
  · cases hs
theorem cutI_here {c : Int} {s : List UInt8} {i : Nat} (h : i < s.length) (hc : ((s.getD i 0).toNat : Int) = c) : cutI c (s.drop i) = ([], s.drop (i + 1), true) := by
  rw [drop_next s 0 h]; unfold cutI; rw [if_pos hc]
theorem cutI_on {c : Int} {s : List UInt8} {i : Nat} (h : i < s.length) (hc : ((s.getD i 0).toNat : Int) ≠ c) : cutI c (s.drop i) = (s.getD i 0 :: (cutI c (s.drop (i + 1))).1, (cutI c (s.drop (i + 1))).2.1, (cutI c (s.drop (i + 1))).2.2) := by
  rw [drop_next s 0 h, cutI, if_neg hc]
theorem ok_r3cut : FnP 40 sp_r3cut := of_r3cut (by
  intro s c hs
  rw [vc_r3cut]
  refine ⟨⟨⟨0, Nat.zero_le _, rfl⟩, by and_intros <;> rfl⟩, fun x => ?_⟩
  obtain ⟨i, hx, hq⟩ := x
  dsimp only
  refine br_of (fun h => ?_) fun h => ?_
  · have h : i < s.length := by simpa using h
    rw [bAt_nat]
    refine ⟨⟨by omega, by omega⟩, br_of (fun h1 => ⟨⟨by omega, by omega⟩, by simp only [inR]; omega, ⟨by omega, by omega⟩, ?_⟩) fun h1 => ⟨by simp only [inR]; omega, ⟨i + 1, h, ?_⟩, by and_intros <;> rfl, by show s.length - (i + 1) < _; omega⟩⟩
    · rw [cutI_here h (by simpa using h1)] at hq
      rw [hq, Int.toNat_natCast, show ((i : Int) + 1).toNat = i + 1 by omega]
      exact ⟨(List.append_nil _).symm, rfl, rfl⟩
    · rw [hq, cutI_on h (by simpa using h1), take_next s 0 h]
      simp
  · have h : i = s.length := by
      have : ¬ i < s.length := by simpa using h
      omega
    rw [h, List.drop_length, List.take_length] at hq
    rw [hq]
    exact ⟨(List.append_nil _).symm, rfl, rfl⟩)
theorem ok_r3strip : FnP 41 sp_r3strip := of_r3strip (by
  intro s hs
  rw [vc_r3strip]
  refine ⟨⟨⟨s, Nat.le_refl _, rfl⟩, rfl⟩, fun x => ?_⟩
  obtain ⟨t, ht, hq⟩ := x
  refine br_of (fun h => ?_) fun h => ?_
  · have h : 0 < t.length := by simpa using h
    obtain ⟨y, m, rfl⟩ := List.exists_cons_of_length_pos h
    have hb : bAt (y :: m) 0 = (y.toNat : Int) := rfl
    rw [hb]
    have hd : dropP (· == 48) (y :: m) = if ((y.toNat : Int) == 48) = true then dropP (· == 48) m else y :: m := by
      unfold dropP; rw [List.dropWhile_cons]
    refine ⟨⟨by omega, by simp⟩, br_of (fun h1 => ⟨⟨by omega, by simp only [List.length_cons]; omega⟩, ⟨m, by simp at ht; omega, ?_⟩, rfl, by simp⟩) fun h1 => ?_⟩
    · rw [if_pos h1] at hd; rw [← hq, hd]
    · rw [if_neg (by simp [h1])] at hd; exact hd.symm.trans hq
  · have h : t = [] := by
      have : ¬ 0 < t.length := by simpa using h
      exact List.eq_nil_of_length_eq_zero (by omega)
    subst h
    exact hq)
theorem dropC_cons (k : Int) (x : UInt8) (s : List UInt8) : dropC k (x :: s) = if isC k x = true then dropC k s else x :: s := by
  unfold dropC; rw [List.dropWhile_cons]
theorem rowsF_nil (a b c : Int) (k : Nat) : rowsF a b c k [] = [] := by
  unfold rowsF; split <;> rfl
theorem rowsF_up {a b c : Int} {k : Nat} {x : UInt8} {s : List UInt8} (hk : k < 3) (h : isC ([a, b, c].getD k 0) x = false) : rowsF a b c k (x :: s) = rowsF a b c (k + 1) (x :: s) := by
  match k, hk, h with
  | 0, _, h => unfold rowsF; simp only; rw [dropC_cons a, if_neg (by have h : isC a x = false := h; simp [h])]
  | 1, _, h => unfold rowsF; simp only; rw [dropC_cons b, if_neg (by have h : isC b x = false := h; simp [h])]
  | 2, _, h => unfold rowsF; simp only; rw [dropC_cons c, if_neg (by have h : isC c x = false := h; simp [h])]
theorem rowsF_on {a b c : Int} {k : Nat} {x : UInt8} {s : List UInt8} (hk : k < 3) (h : isC ([a, b, c].getD k 0) x = true) : rowsF a b c k (x :: s) = rowsF a b c k s := by
  match k, hk, h with
  | 0, _, h => unfold rowsF; simp only; rw [dropC_cons a, if_pos (show isC a x = true from h)]
  | 1, _, h => unfold rowsF; simp only; rw [dropC_cons b, if_pos (show isC b x = true from h)]
  | 2, _, h => unfold rowsF; simp only; rw [dropC_cons c, if_pos (show isC c x = true from h)]
theorem ok_r3rows : FnP 43 sp_r3rows := of_r3rows (by
  intro s a b c hs hb
  rw [vc_r3rows]
  refine ⟨⟨⟨(0, 0), Nat.zero_le _, by decide, rfl⟩, by and_intros <;> rfl⟩, fun x => ?_⟩
  obtain ⟨⟨i, k0⟩, hi, hk0, hq⟩ := x
  dsimp only at hi hk0 hq ⊢
  refine br_of (fun h => ?_) fun h => ?_
  · have h : i < s.length := by simpa using h
    refine ⟨⟨⟨k0, h, by omega, hq⟩, by and_intros <;> rfl⟩, fun y => ?_⟩
    obtain ⟨k, _, hk, hr⟩ := y
    dsimp only at hr ⊢
    rw [drop_next s 0 h] at hr
    have e1 : ((i : Int) + 1).toNat = i + 1 := by omega
    have e2 : List.drop i (List.take (i + 1) s) = [s.getD i 0] := by
      rw [List.drop_take, drop_next s 0 h, show i + 1 - i = 1 by omega]; rfl
    have i1 : inR .i64 ((i : Int) + 1) := by simp only [inR]; omega
    rw [Int.toNat_natCast, Int.toNat_natCast, e1, e2]
    have hc : cntC ([a, b, c].getD k 0) [s.getD i 0] = if isC ([a, b, c].getD k 0) (s.getD i 0) = true then 1 else 0 := by
      unfold cntC; rw [List.countP_singleton]
    rw [hc]
    have k3 : decide ((k : Int) < 3) = true → k < 3 := fun h1 => by
      have : (k : Int) < 3 := by simpa using h1
      omega
    have ck3 : decide ((k : Int) < 3) = true → (k : Int) < ((3 : Nat) : Int) := fun h1 => by
      have := k3 h1
      omega
    refine br_of (fun h1 => ⟨i1, ⟨by omega, by omega, by omega⟩, ⟨by omega, ck3 h1⟩, k3 h1, by simp, br_of (fun h2 => ?_) fun h2 => br_of (fun h3 => ?_) fun h3 => ?_⟩) fun h1 => br_of (fun h3 => ?_) fun h3 => ?_
    all_goals first | have h1 : k < 3 := by (have : (k : Int) < 3 := by simpa using h1); omega
                    | have h1 : ¬ k < 3 := by (have : ¬ (k : Int) < 3 := by simpa using h1); omega
    · have h2 : isC ([a, b, c].getD k 0) (s.getD i 0) = false := by
        cases hx : isC ([a, b, c].getD k 0) (s.getD i 0) with
        | false => rfl
        | true => rw [hx] at h2; simp at h2
      rw [rowsF_up h1 h2] at hr
      exact ⟨by simp only [inR]; omega, ⟨k + 1, h, by omega, by rw [drop_next s 0 h]; exact hr⟩, by and_intros <;> rfl, by show 3 - (k + 1) < 3 - k; omega⟩
    · exfalso; simp at h3; omega
    · have h2 : isC ([a, b, c].getD k 0) (s.getD i 0) = true := by
        cases hx : isC ([a, b, c].getD k 0) (s.getD i 0) with
        | true => rfl
        | false => rw [hx] at h2; simp at h2
      rw [rowsF_on h1 h2] at hr
      exact ⟨i1, ⟨(i + 1, k), h, by show k ≤ 2; omega, hr⟩, by and_intros <;> rfl, by show s.length - (i + 1) < s.length - i; omega⟩
    · have h3 : k = 3 := by omega
      subst h3
      have hr : s.getD i 0 :: s.drop (i + 1) = rowsF a b c 0 s := hr
      rw [← hr]; symm; exact decide_eq_false (by simp)
    · exfalso
      have h3 : ¬ (k : Int) = 3 := by simpa using h3
      omega
  · have h : ¬ i < s.length := by simpa using h
    rw [List.drop_of_length_le (by omega), rowsF_nil] at hq
    rw [← hq]; exact (decide_eq_true rfl).symm)
end Go.Proofs.YtglfkihckkjniaaGreatDoor.Vx
namespace Go.Proofs.YtglfkihckkjniaaGreatDoor.Vx
open Go Go.RowKit
theorem u8_toNat {x k : UInt8} : (x.toNat : Int) = (k.toNat : Int) ↔ x = k := by
  constructor
  · intro h; exact UInt8.toNat_inj.1 (by omega)
  · rintro rfl; rfl
theorem cutI_cut (k : UInt8) (s : List UInt8) : cutI (k.toNat : Int) s = Lib.cut s [k] := by
  rw [cut_C]
  induction s with
  | nil => rfl
  | cons x l ih => unfold cutI cutC; rw [ih]; simp only [u8_toNat]
theorem isC_ne {k : UInt8} (hk : k ≠ 48) (x : UInt8) : isC (k.toNat : Int) x = (x == k) := by
  unfold isC
  have h1 : ((k.toNat : Int) == 48) = false := by
    rw [beq_eq_false_iff_ne]; intro h; exact hk ((u8_toNat (k := 48)).1 h)
  rw [h1]
  simp only [Bool.false_and, Bool.or_false]
  rw [Bool.eq_iff_iff, beq_iff_eq, beq_iff_eq, u8_toNat]
theorem isC_dig (x : UInt8) : isC 48 x = isDig (x.toNat : Int) := by
  unfold isC isDig
  rw [Bool.eq_iff_iff]
  simp
  omega
theorem cntC_count {k : UInt8} (hk : k ≠ 48) (s : List UInt8) : cntC (k.toNat : Int) s = s.count k := by
  unfold cntC List.count
  congr 1
  funext x
  exact isC_ne hk x
theorem dropC_ne {k : UInt8} (hk : k ≠ 48) (s : List UInt8) : dropC (k.toNat : Int) s = dropP (· == (k.toNat : Int)) s := by
  unfold dropC dropP
  congr 1
  funext x
  rw [isC_ne hk, Bool.eq_iff_iff, beq_iff_eq, beq_iff_eq, u8_toNat]
theorem dropC_dig (s : List UInt8) : dropC 48 s = dropP isDig s := by
  unfold dropC dropP
  congr 1
  funext x
  exact isC_dig x
theorem count_cutC (k : UInt8) (s : List UInt8) : s.count k = if (cutC k s).2.2 = true then 1 + (cutC k s).2.1.count k else 0 := by
  induction s with
  | nil => rfl
  | cons x l ih =>
    unfold cutC
    by_cases h : x = k
    · subst h; rw [if_pos rfl, List.count_cons_self]; simp only [if_true]; omega
    · rw [if_neg h, List.count_cons_of_ne h]; exact ih
theorem not_found_frac (k : UInt8) (s : List UInt8) (h : (cutC k s).2.2 = false) : (cutC k s).2.1 = [] := by
  induction s with
  | nil => rfl
  | cons x l ih =>
    unfold cutC at h ⊢
    split
    · rename_i hx; rw [if_pos hx] at h; cases h
    · rename_i hx; rw [if_neg hx] at h; exact ih h
theorem num_stop2 {s : List UInt8} (h : (rs2 s).c ≠ 0) : rs5 s = rs2 s := by
  have h3 : rs3 s = rs2 s := by unfold rs3; rw [if_neg h]
  have h4 : rs4 s = rs2 s := by unfold rs4; rw [h3, if_neg h]
  unfold rs5; rw [h4, if_neg h]
theorem num_stop3 {s : List UInt8} (h : (rs3 s).c ≠ 0) : rs5 s = rs3 s := by
  have h4 : rs4 s = rs3 s := by unfold rs4; rw [if_neg h]
  unfold rs5; rw [h4, if_neg h]
theorem num_stop4 {s : List UInt8} (h : (rs4 s).c ≠ 0) : rs5 s = rs4 s := by unfold rs5; rw [if_neg h]
theorem num_fail1 {s : List UInt8} {e : Int} (h : (rs1 s).c = e) (he : e ≠ 0) : numT s = (z0, e) := by
  have h2 : rs2 s = rs1 s := by unfold rs2; rw [if_neg (by rw [h]; exact he)]
  have h5 := num_stop2 (s := s) (by rw [h2, h]; exact he)
  unfold numT; rw [h5, h2, h, if_neg he]
theorem num_fail2 {s : List UInt8} {e : Int} (h : (rs2 s).c = e) (he : e ≠ 0) : numT s = (z0, e) := by
  have h5 := num_stop2 (s := s) (by rw [h]; exact he)
  unfold numT; rw [h5, h, if_neg he]
theorem num_fail3 {s : List UInt8} {e : Int} (h : (rs3 s).c = e) (he : e ≠ 0) : numT s = (z0, e) := by
  have h5 := num_stop3 (s := s) (by rw [h]; exact he)
  unfold numT; rw [h5, h, if_neg he]
theorem num_fail4 {s : List UInt8} {e : Int} (h : (rs4 s).c = e) (he : e ≠ 0) : numT s = (z0, e) := by
  have h5 := num_stop4 (s := s) (by rw [h]; exact he)
  unfold numT; rw [h5, h, if_neg he]
theorem num_fail5 {s : List UInt8} {e : Int} (h : (rs5 s).c = e) (he : e ≠ 0) : numT s = (z0, e) := by
  unfold numT; rw [h, if_neg he]
theorem span1_nil {P : Int → Bool} {s : List UInt8} (h : dropP P s = []) : span1 P s = s.length := by unfold span1; rw [h]; simp
theorem trim_plus (e : List UInt8) : Lib.trimPrefix e [43] = if Lib.hasPrefix e [43] = true then e.drop 1 else e := rfl
theorem has_plus (e : List UInt8) : Lib.hasPrefix e [43] = decide (0 < e.length ∧ ((e.getD 0 0).toNat : Int) = 43) := by
  unfold Lib.hasPrefix
  cases e with
  | nil => rfl
  | cons x l =>
    rw [Bool.eq_iff_iff]
    simp [List.isPrefixOf]
    have := u8_toNat (x := x) (k := 43)
    constructor
    · rintro rfl; rfl
    · intro h; exact (this.1 (by simpa using h)).symm
theorem exp_bad {e : List UInt8} {p : Num} (h : Lib.trimPrefix e [43] = [] ∨ dropP (· == 48) (Lib.trimPrefix e [43]) ≠ []) : expT e true p = (4, p) := by
  unfold expT
  rw [if_pos rfl, if_pos]
  rcases h with h | h
  · right; rw [h]; rfl
  · left; exact h
theorem exp_long {e : List UInt8} {p : Num} (h1 : Lib.trimPrefix e [43] ≠ []) (h2 : dropP (· == 48) (Lib.trimPrefix e [43]) = []) (h3 : 9 < (Lib.trimPrefix e [43]).length) : expT e true p = (8, p) := by
  unfold expT
  have := span1_nil h2
  have : 0 < (Lib.trimPrefix e [43]).length := List.length_pos_iff.2 h1
  rw [if_pos rfl, if_neg (by rintro (h | h); exact h h2; omega), if_pos (by omega)]
theorem exp_ok {e : List UInt8} {p : Num} (h1 : Lib.trimPrefix e [43] ≠ []) (h2 : dropP (· == 48) (Lib.trimPrefix e [43]) = []) (h3 : ¬ 9 < (Lib.trimPrefix e [43]).length) : expT e true p = (0, { p with ps := true, px := Lib.hasPrefix e [43], me := (Lib.trimPrefix e [43]).length }) := by
  unfold expT
  have h4 := span1_nil h2
  have : 0 < (Lib.trimPrefix e [43]).length := List.length_pos_iff.2 h1
  rw [if_pos rfl, if_neg (by rintro (h | h); exact h h2; omega), if_neg (by omega), h4]
theorem parts_odd {s : List UInt8} (h1 : (rs1 s).c = 0) (h : anyP isOdd (numB s) = true) : numT s = (z0, 4) := by
  refine num_fail2 ?_ (by decide)
  unfold rs2; rw [if_pos h1]
  show (partsT _ _ _ _).1 = 4
  unfold partsT; rw [if_pos (.inl h)]
theorem cnt46 (s : List UInt8) : (1 < Lib.countByte s 46) ↔ 0 < cntC 46 (Lib.cut s [46]).2.1 := by
  have h := count_cutC 46 s
  have h2 := cntC_count (k := 46) (by decide) (Lib.cut s [46]).2.1
  have e : ((46 : UInt8).toNat : Int) = 46 := rfl
  rw [e] at h2
  rw [h2, cut_C]
  unfold Lib.countByte
  rw [h]
  split
  · omega
  · rename_i hf
    rw [not_found_frac 46 s (by simpa using hf)]
    simp
theorem parts_bad {s : List UInt8} (h1 : (rs1 s).c = 0) (h : 0 < cntC 46 (Lib.cut (numB s) [46]).2.1 ∨ ((Lib.cut (numB s) [46]).2.2 = true ∧ (Lib.cut (numB s) [46]).2.1 = [])) : numT s = (z0, 4) := by
  refine num_fail2 ?_ (by decide)
  unfold rs2; rw [if_pos h1]
  show (partsT _ _ _ _).1 = 4
  unfold partsT
  rcases h with h | h
  · rw [if_pos (.inr ((cnt46 _).2 h))]
  · split
    · rfl
    · first | rfl | rw [if_pos h]
theorem parts_ok {s : List UInt8} (h1 : (rs1 s).c = 0) (h2 : anyP isOdd (numB s) = false) (h3 : ¬ 0 < cntC 46 (Lib.cut (numB s) [46]).2.1) (h4 : ¬ ((Lib.cut (numB s) [46]).2.2 = true ∧ (Lib.cut (numB s) [46]).2.1 = [])) :
    rs2 s = ⟨0, (Lib.cut (numB s) [46]).1, (Lib.cut (numB s) [46]).2.1, (Lib.cut (numB s) [46]).2.2, (rs1 s).p⟩ := by
  unfold rs2; rw [if_pos h1]
  have : partsT (numB s) [] [] false = (0, Lib.cut (numB s) [46]) := by
    unfold partsT
    rw [if_neg (by rintro (h | h); rw [h2] at h; cases h; exact h3 ((cnt46 _).1 h)), if_neg h4]
  rw [this]
def szZ (w : List UInt8) : List Int := (splitC 44 w).map fun t => (t.length : Int)
def sizesN (n : Int) : List UInt8 → List Int
  | [] => [n]
  | x :: t => if x = 44 then n :: sizesN 0 t else sizesN (n + 1) t
theorem sizesN_split (w : List UInt8) : ∀ n : Int, sizesN n w = (((splitC 44 w).headD []).length + n : Int) :: (splitC 44 w).tail.map fun t => (t.length : Int) := by
  induction w with
  | nil => intro n; simp [sizesN, splitC]
  | cons x t ih =>
    intro n
    unfold sizesN splitC
    split
    · have hne := splitC_ne 44 t
      rw [ih 0]
      cases hs : splitC 44 t with
      | nil => exact absurd hs hne
      | cons a l => simp
    · rw [ih (n + 1)]; simp; omega
theorem szZ_eq (w : List UInt8) : sizesN 0 w = szZ w := by
  rw [sizesN_split]
  unfold szZ
  have hne := splitC_ne 44 w
  cases hs : splitC 44 w with
  | nil => exact absurd hs hne
  | cons a l => simp
theorem flat_filter (w : List UInt8) : (splitC 44 w).flatten = w.filter fun x => decide (x ≠ 44) := by
  induction w with
  | nil => rfl
  | cons x t ih =>
    unfold splitC
    by_cases h : x = 44
    · subst h; rw [if_pos rfl]; simpa using ih
    · rw [if_neg h]
      have hne := splitC_ne 44 t
      rw [List.filter_cons_of_pos (by simpa using h), ← ih]
      cases hs : splitC 44 t with
      | nil => exact absurd hs hne
      | cons a l => simp
theorem szZ_len (w : List UInt8) : (szZ w).length = (splitC 44 w).length := by unfold szZ; simp
theorem szZ_get (w : List UInt8) {i : Nat} (h : i < (splitC 44 w).length) : (szZ w).getD i 0 = ((splitC 44 w).getD i []).length := by
  unfold szZ
  rw [List.getD_eq_getElem?_getD, List.getD_eq_getElem?_getD, List.getElem?_map, List.getElem?_eq_getElem h]; rfl
theorem empty_of {w : List UInt8} {i : Nat} (h1 : 1 < (szZ w).length) (hi : i < (szZ w).length) (h : (szZ w).getD i 0 = 0) : emptyIn (splitC 44 w) = true := by
  rw [szZ_len] at h1 hi
  rw [szZ_get w hi] at h
  unfold emptyIn
  rw [Bool.and_eq_true, decide_eq_true_iff, List.any_eq_true]
  refine ⟨h1, (splitC 44 w).getD i [], getD_mem' hi, ?_⟩
  rw [decide_eq_true_iff]
  exact List.eq_nil_of_length_eq_zero (by omega)
theorem not_empty {w : List UInt8} (h : 1 < (szZ w).length → ∀ i, i < (szZ w).length → (szZ w).getD i 0 ≠ 0) : emptyIn (splitC 44 w) = false := by
  cases he : emptyIn (splitC 44 w) with
  | false => rfl
  | true =>
    unfold emptyIn at he
    rw [Bool.and_eq_true, decide_eq_true_iff, List.any_eq_true] at he
    obtain ⟨h1, t, ht, h2⟩ := he
    rw [decide_eq_true_iff] at h2
    subst h2
    obtain ⟨i, hi, hget⟩ := List.mem_iff_getElem.1 ht
    exfalso
    refine h (by rw [szZ_len]; exact h1) i (by rw [szZ_len]; exact hi) ?_
    rw [szZ_get w hi, List.getD_eq_getElem?_getD, List.getElem?_eq_getElem hi, hget]; rfl
theorem cnt44 (f : List UInt8) : 0 < cntC 44 f ↔ 0 ≤ Lib.indexByte f 44 := by
  have h2 := cntC_count (k := 44) (by decide) f
  have e : ((44 : UInt8).toNat : Int) = 44 := rfl
  rw [e] at h2
  rw [h2, indexByte_has, List.count_pos_iff]
theorem groups_bad {s : List UInt8} (h2 : (rs2 s).c = 0) (h : emptyIn (splitC 44 (rs2 s).w) = true ∨ 0 < cntC 44 (rs2 s).f) : numT s = (z0, 5) := by
  refine num_fail3 ?_ (by decide)
  unfold rs3; rw [if_pos h2]
  show (groupsT _ _ _).1 = 5
  unfold groupsT
  rcases h with h | h
  · rw [if_pos h]
  · split
    · rfl
    · rw [if_pos ((cnt44 _).1 h)]
def grpP (w : List UInt8) (p : Num) : Num := if 1 < (szZ w).length then { p with pr := (szZ w).getD ((szZ w).length - 1) 0, sc := if 2 < (szZ w).length then (szZ w).getD ((szZ w).length - 2) 0 else (szZ w).getD ((szZ w).length - 1) 0 } else p
theorem groups_ok {s : List UInt8} (h2 : (rs2 s).c = 0) (h3 : emptyIn (splitC 44 (rs2 s).w) = false) (h4 : ¬ 0 < cntC 44 (rs2 s).f) : rs3 s = ⟨0, (splitC 44 (rs2 s).w).flatten, (rs2 s).f, (rs2 s).pt, grpP (rs2 s).w (rs2 s).p⟩ := by
  unfold rs3; rw [if_pos h2]
  have : groupsT (rs2 s).w (rs2 s).f (rs2 s).p = (0, (splitC 44 (rs2 s).w).flatten, grpP (rs2 s).w (rs2 s).p) := by
    unfold groupsT
    rw [if_neg (by rw [h3]; decide), if_neg (fun h => h4 ((cnt44 _).2 h))]
    unfold grpP
    rw [szZ_len]
    split
    · rw [szZ_get _ (by omega), szZ_get _ (by omega)]
    · rfl
  rw [this]
theorem dropC35 (s : List UInt8) : dropC 35 s = dropP (· == 35) s := dropC_ne (k := 35) (by decide) s
theorem dropC64 (s : List UInt8) : dropC 64 s = dropP (· == 64) s := dropC_ne (k := 64) (by decide) s
theorem cnt64 (s : List UInt8) : 0 < cntC 64 s ↔ 0 ≤ Lib.indexByte s 64 := by
  have h2 := cntC_count (k := 64) (by decide) s
  have e : ((64 : UInt8).toNat : Int) = 64 := rfl
  rw [e] at h2
  rw [h2, indexByte_has, List.count_pos_iff]
theorem cnt48 (s : List UInt8) : 0 < cntC 48 s ↔ anyP isDig s = true := by
  unfold cntC anyP
  rw [List.countP_pos_iff, List.any_eq_true]
  simp only [isC_dig]
theorem span1_take (P : Int → Bool) (s : List UInt8) : span1 P s = ((s.takeWhile fun c => P (c.toNat : Int)).length : Int) := by
  unfold span1 dropP
  have := congrArg List.length (List.takeWhile_append_dropWhile (p := fun c : UInt8 => P (c.toNat : Int)) (l := s))
  rw [List.length_append] at this
  omega
theorem dropP_eq (P : Int → Bool) (s : List UInt8) : dropP P s = s.drop (s.takeWhile fun c => P (c.toNat : Int)).length := by
  have := List.takeWhile_append_dropWhile (p := fun c : UInt8 => P (c.toNat : Int)) (l := s)
  unfold dropP
  have h2 := congrArg (List.drop (s.takeWhile fun c : UInt8 => P (c.toNat : Int)).length) this
  rw [List.drop_left] at h2
  exact h2
theorem takeP_eq (P : Int → Bool) (s : List UInt8) : (s.takeWhile fun c => P (c.toNat : Int)) = s.take (s.takeWhile fun c => P (c.toNat : Int)).length := by
  have := List.takeWhile_append_dropWhile (p := fun c : UInt8 => P (c.toNat : Int)) (l := s)
  have h2 := congrArg (List.take (s.takeWhile fun c : UInt8 => P (c.toNat : Int)).length) this
  rw [List.take_left] at h2
  exact h2
theorem all_of_nil {P : Int → Bool} {s : List UInt8} (h : dropP P s = []) : ∀ x ∈ s, P (x.toNat : Int) = true := by
  have h1 := List.takeWhile_append_dropWhile (p := fun c : UInt8 => P (c.toNat : Int)) (l := s)
  unfold dropP at h
  rw [h, List.append_nil] at h1
  intro x hx
  rw [← h1] at hx
  exact List.all_eq_true.1 (List.all_takeWhile (p := fun c : UInt8 => P (c.toNat : Int)) (l := s)) x hx
theorem all_take (P : Int → Bool) (s : List UInt8) : ∀ x ∈ (s.takeWhile fun c => P (c.toNat : Int)), P (x.toNat : Int) = true := fun x hx => List.all_eq_true.1 (List.all_takeWhile (p := fun c : UInt8 => P (c.toNat : Int)) (l := s)) x hx
theorem dropP_none (s : List UInt8) : dropP (fun _ => false) s = s := by cases s <;> rfl
theorem countP_split (P Q : Int → Bool) (s : List UInt8) : s.countP (fun c => Q (c.toNat : Int)) = (s.takeWhile fun c => P (c.toNat : Int)).countP (fun c => Q (c.toNat : Int)) + (dropP P s).countP (fun c => Q (c.toNat : Int)) := by
  conv => lhs; rw [← List.takeWhile_append_dropWhile (p := fun c : UInt8 => P (c.toNat : Int)) (l := s)]
  rw [List.countP_append]; rfl
theorem countP_own {P : Int → Bool} (s : List UInt8) : (s.takeWhile fun c => P (c.toNat : Int)).countP (fun c => P (c.toNat : Int)) = (s.takeWhile fun c => P (c.toNat : Int)).length := by
  rw [List.countP_eq_length]
  intro a ha
  exact List.all_eq_true.1 (List.all_takeWhile (p := fun c : UInt8 => P (c.toNat : Int)) (l := s)) a ha
theorem countP_other {P Q : Int → Bool} (hPQ : ∀ x, P x = true → Q x = false) (s : List UInt8) : (s.takeWhile fun c => P (c.toNat : Int)).countP (fun c => Q (c.toNat : Int)) = 0 := by
  rw [List.countP_eq_zero]
  intro a ha
  have := List.all_eq_true.1 (List.all_takeWhile (p := fun c : UInt8 => P (c.toNat : Int)) (l := s)) a ha
  rw [hPQ _ this]; decide
theorem cnt_mid {P Q R : Int → Bool} (hP : ∀ x, P x = true → Q x = false) (hR : ∀ x, R x = true → Q x = false) {s : List UInt8} (h : dropP R (dropP Q (dropP P s)) = []) : (s.countP (fun c => Q (c.toNat : Int)) : Int) = span1 Q (dropP P s) := by
  rw [countP_split P Q s, countP_other hP, countP_split Q Q (dropP P s), countP_own, countP_split R Q (dropP Q (dropP P s)), countP_other hR, h, span1_take]
  simp
theorem cnt64_mid {w : List UInt8} (h : rowsF 35 64 35 0 w = []) : (cntC 64 w : Int) = span1 (· == 64) (dropP (· == 35) w) := by
  have h : dropC 35 (dropC 64 (dropC 35 w)) = [] := h
  rw [dropC35, dropC64, dropC35] at h
  rw [← cnt_mid (Q := (· == 64)) (by intro x hx; simp at hx ⊢; omega) (by intro x hx; simp at hx ⊢; omega) h]
  unfold cntC
  have : (fun c : UInt8 => ((c.toNat : Int) == 64)) = isC 64 := by
    funext x
    rw [show isC 64 x = (x == 64) from isC_ne (k := 64) (by decide) x, Bool.eq_iff_iff, beq_iff_eq, beq_iff_eq, ← u8_toNat (k := 64)]; rfl
  rw [this]
theorem dropP_idem (P : Int → Bool) (s : List UInt8) : dropP P (dropP P s) = dropP P s := by
  unfold dropP
  induction s with
  | nil => rfl
  | cons x l ih =>
    rw [List.dropWhile_cons]
    split
    · exact ih
    · rename_i h; rw [List.dropWhile_cons, if_neg h]
theorem rows_w (w : List UInt8) : rowsF 35 48 48 0 w = dropP isDig (dropP (· == 35) w) := by
  show dropC 48 (dropC 48 (dropC 35 w)) = _
  rw [dropC35, dropC_dig, dropC_dig, dropP_idem]
theorem rows_f (f : List UInt8) : rowsF 48 35 35 0 f = dropP (· == 35) (dropP isDig f) := by
  show dropC 35 (dropC 35 (dropC 48 f)) = _
  rw [dropC_dig, dropC35, dropC35, dropP_idem]
theorem rows_at (w : List UInt8) : rowsF 35 64 35 0 w = dropP (· == 35) (dropP (· == 64) (dropP (· == 35) w)) := by
  show dropC 35 (dropC 64 (dropC 35 w)) = _
  rw [dropC35, dropC64, dropC35]
theorem cntC48 (s : List UInt8) : cntC 48 s = s.countP fun c => isDig (c.toNat : Int) := by
  unfold cntC; congr 1; funext x; exact isC_dig x
theorem dig35 : ∀ x, (x == 35) = true → isDig x = false := by
  intro x hx; have hx : x = 35 := by simpa using hx
  subst hx; rfl
theorem cnt48_w {w : List UInt8} (h : dropP isDig (dropP (· == 35) w) = []) : (cntC 48 w : Int) = span1 isDig (dropP (· == 35) w) := by
  rw [cntC48]
  exact cnt_mid (Q := isDig) (P := (· == 35)) (R := fun _ => false) dig35 (fun x hx => absurd hx (by decide)) (by rw [dropP_none]; exact h)
theorem cnt48_f {f : List UInt8} (h : dropP (· == 35) (dropP isDig f) = []) : (cntC 48 f : Int) = span1 isDig f := by
  rw [cntC48]
  rw [countP_split isDig isDig f, countP_own, countP_split (· == 35) isDig (dropP isDig f), countP_other dig35, h, span1_take]
  simp
theorem n35 (x : UInt8) : decide ((x.toNat : Int) ≠ 35) = !((x.toNat : Int) == 35) := by
  by_cases h : (x.toNat : Int) = 35 <;> simp [h]
theorem filter_w {w : List UInt8} (h : dropP isDig (dropP (· == 35) w) = []) : (w.filter fun x => decide ((x.toNat : Int) ≠ 35)) = w.drop (span1 (· == 35) w).toNat := by
  have h1 := all_of_nil h
  have h2 := all_take (· == 35) w
  rw [span1_take, Int.toNat_natCast]
  refine Eq.trans ?_ (dropP_eq (· == 35) w)
  conv => lhs; rw [← List.takeWhile_append_dropWhile (p := fun c : UInt8 => ((c.toNat : Int) == 35)) (l := w)]
  rw [List.filter_append, List.filter_eq_nil_iff.2 (fun x hx => by rw [n35, h2 x hx]; decide), List.nil_append]
  exact List.filter_eq_self.2 fun x hx => by
    rw [n35]
    cases hb : ((x.toNat : Int) == 35) with
    | false => rfl
    | true => have := dig35 _ hb; rw [h1 x hx] at this; cases this
theorem filter_f {f : List UInt8} (h : dropP (· == 35) (dropP isDig f) = []) : (f.filter fun x => decide ((x.toNat : Int) ≠ 35)) = f.take (span1 isDig f).toNat := by
  have h1 := all_of_nil h
  have h2 := all_take isDig f
  rw [span1_take, Int.toNat_natCast, ← takeP_eq]
  conv => lhs; rw [← List.takeWhile_append_dropWhile (p := fun c : UInt8 => isDig (c.toNat : Int)) (l := f)]
  rw [List.filter_append]
  have e1 : ((f.takeWhile fun c : UInt8 => isDig (c.toNat : Int)).filter fun x => decide ((x.toNat : Int) ≠ 35)) = f.takeWhile fun c : UInt8 => isDig (c.toNat : Int) := List.filter_eq_self.2 fun x hx => by
    rw [n35]
    cases hb : ((x.toNat : Int) == 35) with
    | false => rfl
    | true => have := dig35 _ hb; rw [h2 x hx] at this; cases this
  have e2 : ((f.dropWhile fun c : UInt8 => isDig (c.toNat : Int)).filter fun x => decide ((x.toNat : Int) ≠ 35)) = [] := List.filter_eq_nil_iff.2 fun x hx => by rw [n35, h1 x hx]; decide
  rw [e1, e2, List.append_nil]
theorem trimL (s : List UInt8) : Lib.trimLeftB s 48 = dropP (· == 48) s := by
  unfold Lib.trimLeftB dropP
  congr 1
  funext x
  rw [Bool.eq_iff_iff, beq_iff_eq, beq_iff_eq, ← u8_toNat (k := 48)]; rfl
theorem counts_fail {s : List UInt8} {e : Int} (h3 : (rs3 s).c = 0) (h : (countsT (rs3 s).w (rs3 s).f (rs3 s).pt (numS s) (rs3 s).p).1 = e) (he : e ≠ 0) : numT s = (z0, e) := by
  refine num_fail4 ?_ he
  unfold rs4; rw [if_pos h3]; exact h
theorem counts_done {s : List UInt8} {p : Num} (h3 : (rs3 s).c = 0) (h : countsT (rs3 s).w (rs3 s).f (rs3 s).pt (numS s) (rs3 s).p = (0, p)) : rs4 s = ⟨0, (rs3 s).w, (rs3 s).f, (rs3 s).pt, p⟩ := by
  unfold rs4; rw [if_pos h3, h]
theorem counts_none {w f : List UInt8} {pt sci : Bool} {p : Num} (h : w ++ f = []) : (countsT w f pt sci p).1 = 4 := by unfold countsT; rw [if_pos h]
theorem counts_sig {w f : List UInt8} {pt sci : Bool} {p : Num} (h : ¬ w ++ f = []) (h1 : 0 < cntC 64 (w ++ f)) : countsT w f pt sci p = signifT w pt p := by unfold countsT; rw [if_neg h, if_pos ((cnt64 _).1 h1)]
theorem sig_mix {w : List UInt8} {pt : Bool} {p : Num} (h : pt = true ∨ 0 < cntC 48 w) : (signifT w pt p).1 = 6 := by
  unfold signifT; rw [if_pos (h.imp id (cnt48 w).1)]
theorem sig_rows {w : List UInt8} {pt : Bool} {p : Num} (h : ¬ (pt = true ∨ 0 < cntC 48 w)) (h1 : rowsF 35 64 35 0 w ≠ []) : (signifT w pt p).1 = 4 := by
  unfold signifT; rw [if_neg (fun h' => h (h'.imp id (cnt48 w).2)), if_pos (.inl (by rw [← rows_at]; exact h1))]
theorem sig_ok {w : List UInt8} {pt : Bool} {p : Num} (h : ¬ (pt = true ∨ 0 < cntC 48 w)) (h1 : rowsF 35 64 35 0 w = []) (h2 : 0 < cntC 64 w) : signifT w pt p = (0, { p with ms := (cntC 64 w : Int), xs := ((dropP (· == 35) w).length : Int) }) := by
  have e := cnt64_mid h1
  rw [rows_at] at h1
  unfold signifT; rw [if_neg (fun h' => h (h'.imp id (cnt48 w).2)), if_neg (by rintro (h' | h'); exact h' h1; omega), ← e]
  have : (cntC 64 w : Int) + span1 (· == 35) (dropP (· == 64) (dropP (· == 35) w)) = ((dropP (· == 35) w).length : Int) := by
    rw [e]; unfold span1; rw [h1]; simp
  rw [this]
theorem counts_dig {w f : List UInt8} {pt sci : Bool} {p : Num} (h : ¬ w ++ f = []) (h1 : ¬ 0 < cntC 64 (w ++ f)) (h2 : rowsF 35 48 48 0 w ≠ [] ∨ rowsF 48 35 35 0 f ≠ []) : (countsT w f pt sci p).1 = 4 := by
  unfold countsT; rw [if_neg h, if_neg (fun h' => h1 ((cnt64 _).2 h')), if_pos (by rw [rows_w, rows_f] at h2; exact h2)]
def digP (w f : List UInt8) (sci : Bool) (p : Num) : Num := { p with mi := cntC 48 w, mf := cntC 48 f, xf := f.length, xi := if sci = true then (w.length : Int) else p.xi, inc := dropP (· == 48) ((w ++ f).filter fun x => decide ((x.toNat : Int) ≠ 35)) }
theorem digP_eq {w f : List UInt8} {sci : Bool} {p : Num} (h1 : rowsF 35 48 48 0 w = []) (h2 : rowsF 48 35 35 0 f = []) : countsP w f sci p = digP w f sci p := by
  rw [rows_w] at h1
  rw [rows_f] at h2
  unfold countsP digP
  rw [cnt48_w h1, cnt48_f h2, List.filter_append, filter_w h1, filter_f h2, trimL]
theorem few_f {f : List UInt8} (h2 : rowsF 48 35 35 0 f = []) : (0 < span1 (· == 35) (dropP isDig f)) ↔ (cntC 48 f : Int) < f.length := by
  rw [rows_f] at h2
  rw [cnt48_f h2]
  unfold span1; rw [h2]; simp
  have := dropP_len isDig f
  omega
theorem counts_mix {w f : List UInt8} {pt sci : Bool} {p : Num} (h : ¬ w ++ f = []) (h1 : ¬ 0 < cntC 64 (w ++ f)) (h2 : rowsF 35 48 48 0 w = []) (h3 : rowsF 48 35 35 0 f = []) (h4 : (digP w f sci p).inc ≠ [] ∧ ((cntC 48 f : Int) < f.length ∨ sci = true)) : (countsT w f pt sci p).1 = 6 := by
  have e := digP_eq (sci := sci) (p := p) h2 h3
  have g := few_f h3
  unfold countsT; rw [if_neg h, if_neg (fun h' => h1 ((cnt64 _).2 h')), if_neg (by rw [rows_w] at h2; rw [rows_f] at h3; rintro (h' | h'); exact h' h2; exact h' h3), e, if_pos (by rw [g]; exact h4)]
theorem counts_fine {w f : List UInt8} {pt sci : Bool} {p : Num} (h : ¬ w ++ f = []) (h1 : ¬ 0 < cntC 64 (w ++ f)) (h2 : rowsF 35 48 48 0 w = []) (h3 : rowsF 48 35 35 0 f = []) (h4 : ¬ ((digP w f sci p).inc ≠ [] ∧ ((cntC 48 f : Int) < f.length ∨ sci = true))) : countsT w f pt sci p = (0, digP w f sci p) := by
  have e := digP_eq (sci := sci) (p := p) h2 h3
  have g := few_f h3
  unfold countsT; rw [if_neg h, if_neg (fun h' => h1 ((cnt64 _).2 h')), if_neg (by rw [rows_w] at h2; rw [rows_f] at h3; rintro (h' | h'); exact h' h2; exact h' h3), e, if_neg (by rw [g]; exact h4)]
end Go.Proofs.YtglfkihckkjniaaGreatDoor.Vx
