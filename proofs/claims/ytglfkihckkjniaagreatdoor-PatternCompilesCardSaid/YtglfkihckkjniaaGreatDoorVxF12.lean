/-
VX, functions 12: a pattern's halves. No statement of the seat is proved here.
-/
import Derived.Test.YtglfkihckkjniaaGreatDoorVxF11
set_option maxRecDepth 100000
set_option linter.unusedVariables false
set_option linter.unusedSimpArgs false
namespace Go.Proofs.YtglfkihckkjniaaGreatDoor.Vx
open Go Go.RowKit

/-! ### a pattern, as data -/
structure Pat where
  pre : List Itm
  suf : List Itm
  hn : Bool
  npre : List Itm
  nsuf : List Itm
  n : Num
  pa : Int
  pd : Int
  pw : Int
def Pat.pcs (p : Pat) : List Pc := [.rd (.items p.pre), .rd (.items p.suf), .bool p.hn, .rd (.items p.npre), .rd (.items p.nsuf), .int .i64 p.n.mi, .int .i64 p.n.xi, .int .i64 p.n.mf, .int .i64 p.n.xf, .int .i64 p.n.ms, .int .i64 p.n.xs, .int .i64 p.n.pr, .int .i64 p.n.sc, .str p.n.inc, .bool p.n.ps, .int .i64 p.n.me, .bool p.n.px, .int .i64 p.pa, .int .i32 p.pd, .int .i64 p.pw]
def itmsOf : Pc → Option (List Itm) | .rd (.items l) => some l | _ => none
def boolPc : Pc → Option Bool | .bool b => some b | _ => none
def i64Pc : Pc → Option Int | .int .i64 n => some n | _ => none
def i32Pc : Pc → Option Int | .int .i32 n => some n | _ => none
def strPc : Pc → Option (List UInt8) | .str s => some s | _ => none
theorem itmsOf_eq {x : Pc} {l : List Itm} (h : itmsOf x = some l) : x = .rd (.items l) := by unfold itmsOf at h; split at h <;> cases h; rfl
theorem boolPc_eq {x : Pc} {l : Bool} (h : boolPc x = some l) : x = .bool l := by unfold boolPc at h; split at h <;> cases h; rfl
theorem i64Pc_eq {x : Pc} {l : Int} (h : i64Pc x = some l) : x = .int .i64 l := by unfold i64Pc at h; split at h <;> cases h; rfl
theorem i32Pc_eq {x : Pc} {l : Int} (h : i32Pc x = some l) : x = .int .i32 l := by unfold i32Pc at h; split at h <;> cases h; rfl
theorem strPc_eq {x : Pc} {l : List UInt8} (h : strPc x = some l) : x = .str l := by unfold strPc at h; split at h <;> cases h; rfl
def patOf : List Pc → Option Pat
  | [a, b, c, d, e, f, g, h, i, j, k, l, m, n, o, p, q, r, s, t] =>
    (itmsOf a).bind fun a => (itmsOf b).bind fun b => (boolPc c).bind fun c => (itmsOf d).bind fun d => (itmsOf e).bind fun e =>
    (i64Pc f).bind fun f => (i64Pc g).bind fun g => (i64Pc h).bind fun h => (i64Pc i).bind fun i => (i64Pc j).bind fun j => (i64Pc k).bind fun k => (i64Pc l).bind fun l => (i64Pc m).bind fun m =>
    (strPc n).bind fun n => (boolPc o).bind fun o => (i64Pc p).bind fun p => (boolPc q).bind fun q => (i64Pc r).bind fun r => (i32Pc s).bind fun s => (i64Pc t).bind fun t =>
    some ⟨a, b, c, d, e, ⟨f, g, h, i, j, k, l, m, n, o, p, q⟩, r, s, t⟩
  | _ => none
theorem patOf_eq {l : List Pc} {p : Pat} (h : patOf l = some p) : l = p.pcs := by
  unfold patOf at h
  split at h
  · simp only [Option.bind_eq_some_iff] at h
    obtain ⟨a, ha, b, hb, c, hc, d, hd, e, he, f, hf, g, hg, hh, h1, i, hi, j, hj, k, hk, l, hl, m, hm, n, hn, o, ho, p', hp, q, hq, r, hr, s, hs, t, ht, h2⟩ := h
    cases h2
    rw [itmsOf_eq ha, itmsOf_eq hb, boolPc_eq hc, itmsOf_eq hd, itmsOf_eq he, i64Pc_eq hf, i64Pc_eq hg, i64Pc_eq h1, i64Pc_eq hi, i64Pc_eq hj, i64Pc_eq hk, i64Pc_eq hl, i64Pc_eq hm, strPc_eq hn, boolPc_eq ho, i64Pc_eq hp, boolPc_eq hq, i64Pc_eq hr, i32Pc_eq hs, i64Pc_eq ht]
    rfl
  · cases h
/-! ### figurehead/pattern.read -/
structure PT where
  px : List Itm
  sx : List Itm
  n : Num
  w : Int
  sp : Spot
def PT.pcs (t : PT) : List Pc := .rd (.items t.px) :: .rd (.items t.sx) :: ((⟨[], [], false, [], [], t.n, 0, 0, t.w⟩ : Pat).pcs ++ [.int .i32 t.sp.r, .int .i64 t.sp.p, .int .i64 t.sp.w])
def pt0 : PT := ⟨[], [], z0, 0, ⟨0, 0, 0⟩⟩
def readT (l : List Iv) (b : Int) (first : Bool) : PT × Int × Int :=
  if (cutT l b).2 = false then (pt0, 4, b)
  else if (paddedT (spotsT (cutT l b).1.p (cutT l b).1.s) first).2.1 ≠ 0 then (pt0, (paddedT (spotsT (cutT l b).1.p (cutT l b).1.s) first).2)
  else if (itemsR (plainT (cutT l b).1.p)).2.1 ≠ 0 then (pt0, (itemsR (plainT (cutT l b).1.p)).2)
  else if (numT (cutT l b).1.t).2 ≠ 0 then (pt0, (numT (cutT l b).1.t).2, (cutT l b).1.a)
  else if (itemsR (plainT (cutT l b).1.s)).2.1 ≠ 0 then (pt0, (itemsR (plainT (cutT l b).1.s)).2)
  else (⟨(itemsR (plainT (cutT l b).1.p)).1, (itemsR (plainT (cutT l b).1.s)).1, (numT (cutT l b).1.t).1,
    if (paddedT (spotsT (cutT l b).1.p (cutT l b).1.s) first).1.w ≠ 0 then ((itemsR (plainT (cutT l b).1.p)).1.length : Int) + ((itemsR (plainT (cutT l b).1.s)).1.length : Int) + ((cutT l b).1.t.length : Int) else 0,
    (paddedT (spotsT (cutT l b).1.p (cutT l b).1.s) first).1⟩, 0, 0)
def sp_pread : FSpec := ⟨[], fun | [.one (.rd (.ivs l)), .one (.int .i64 b), .one (.bool first)] => some ([EOK l, l.length ≤ 1000000], .tup [(true, (readT l b first).1.pcs), (true, [.int .i64 (readT l b first).2.1, .int .i64 (readT l b first).2.2])]) | _ => none⟩
theorem vc_pread (l : List Iv) (b : Int) (first : Bool) : vcP [(63, sp_pcut), (64, sp_padded), (66, sp_plain), (65, sp_aitems), (67, sp_nparse)] [] misc Tryz.f33 (.nil) [.one (.rd (.ivs l)), .one (.int .i64 b), .one (.bool first)] (.tup [(true, (readT l b first).1.pcs), (true, [.int .i64 (readT l b first).2.1, .int .i64 (readT l b first).2.2])]) = (letI v0 : Pat := { pre := [], suf := [], hn := false, npre := [], nsuf := [], n := PT.n (readT l b first).1, pa := (0 : Int), pd := (0 : Int), pw := PT.w (readT l b first).1 }; letI v1 := ([] = PT.px (readT l b first).1 ∧ [] = PT.sx (readT l b first).1 ∧ [] = Pat.pre v0 ∧ [] = Pat.suf v0 ∧ false = Pat.hn v0 ∧ [] = Pat.npre v0 ∧ [] = Pat.nsuf v0 ∧ (0 : Int) = Num.mi (Pat.n v0) ∧ (0 : Int) = Num.xi (Pat.n v0) ∧ (0 : Int) = Num.mf (Pat.n v0) ∧ (0 : Int) = Num.xf (Pat.n v0) ∧ (0 : Int) = Num.ms (Pat.n v0) ∧ (0 : Int) = Num.xs (Pat.n v0) ∧ (0 : Int) = Num.pr (Pat.n v0) ∧ (0 : Int) = Num.sc (Pat.n v0) ∧ [] = Num.inc (Pat.n v0) ∧ false = Num.ps (Pat.n v0) ∧ (0 : Int) = Num.me (Pat.n v0) ∧ false = Num.px (Pat.n v0) ∧ (0 : Int) = Pat.pa v0 ∧ (0 : Int) = Pat.pd v0 ∧ (0 : Int) = Pat.pw v0 ∧ (0 : Int) = Spot.r (PT.sp (readT l b first).1) ∧ (0 : Int) = Spot.p (PT.sp (readT l b first).1) ∧ (0 : Int) = Spot.w (PT.sp (readT l b first).1)); letI v2 := (numT (HalfT.t (cutT l b).1)); letI v3 := (paddedT (spotsT (HalfT.p (cutT l b).1) (HalfT.s (cutT l b).1)) first); letI v4 := (itemsR (plainT (HalfT.p (cutT l b).1))); letI v5 := (itemsR (plainT (HalfT.s (cutT l b).1))); ((∀ (y : Iv), y ∈ l → Iv.isE y = true ∧ (Iv.isS y = true → scalar (Iv.sR y) = true)) ∧ List.length l ≤ (1000000000 : Nat) ∧ br (!(cutT l b).2) (v1 ∧ (4 : Int) = (readT l b first).2.1 ∧ b = (readT l b first).2.2) (List.length (HalfT.p (cutT l b).1) ≤ (1000000000 : Nat) ∧ List.length (HalfT.s (cutT l b).1) ≤ (1000000000 : Nat) ∧ br (v3.2.1 != (0 : Int)) (v1 ∧ v3.2.1 = (readT l b first).2.1 ∧ v3.2.2 = (readT l b first).2.2) (List.length (HalfT.p (cutT l b).1) ≤ (1000000000 : Nat) ∧ List.length (plainT (HalfT.p (cutT l b).1)) ≤ (1000000000 : Nat) ∧ br (v4.2.1 != (0 : Int)) (v1 ∧ v4.2.1 = (readT l b first).2.1 ∧ v4.2.2 = (readT l b first).2.2) ((∀ (c : UInt8), c ∈ HalfT.t (cutT l b).1 → UInt8.toNat c < (128 : Nat)) ∧ List.length (HalfT.t (cutT l b).1) ≤ (100000000 : Nat) ∧ br (v2.2 != (0 : Int)) (v1 ∧ v2.2 = (readT l b first).2.1 ∧ HalfT.a (cutT l b).1 = (readT l b first).2.2) (List.length (HalfT.s (cutT l b).1) ≤ (1000000000 : Nat) ∧ List.length (plainT (HalfT.s (cutT l b).1)) ≤ (1000000000 : Nat) ∧ br (v5.2.1 != (0 : Int)) (v1 ∧ v5.2.1 = (readT l b first).2.1 ∧ v5.2.2 = (readT l b first).2.2) (br (Spot.w v3.1 != (0 : Int)) (inR IntKind.i64 ((↑(List.length v4.1) : Int) + (↑(List.length v5.1) : Int)) ∧ inR IntKind.i64 ((↑(List.length v4.1) : Int) + (↑(List.length v5.1) : Int) + (↑(List.length (HalfT.t (cutT l b).1)) : Int)) ∧ (v4.1 = PT.px (readT l b first).1 ∧ v5.1 = PT.sx (readT l b first).1 ∧ [] = Pat.pre v0 ∧ [] = Pat.suf v0 ∧ false = Pat.hn v0 ∧ [] = Pat.npre v0 ∧ [] = Pat.nsuf v0 ∧ Num.mi v2.1 = Num.mi (Pat.n v0) ∧ Num.xi v2.1 = Num.xi (Pat.n v0) ∧ Num.mf v2.1 = Num.mf (Pat.n v0) ∧ Num.xf v2.1 = Num.xf (Pat.n v0) ∧ Num.ms v2.1 = Num.ms (Pat.n v0) ∧ Num.xs v2.1 = Num.xs (Pat.n v0) ∧ Num.pr v2.1 = Num.pr (Pat.n v0) ∧ Num.sc v2.1 = Num.sc (Pat.n v0) ∧ Num.inc v2.1 = Num.inc (Pat.n v0) ∧ Num.ps v2.1 = Num.ps (Pat.n v0) ∧ Num.me v2.1 = Num.me (Pat.n v0) ∧ Num.px v2.1 = Num.px (Pat.n v0) ∧ (0 : Int) = Pat.pa v0 ∧ (0 : Int) = Pat.pd v0 ∧ (↑(List.length v4.1) : Int) + (↑(List.length v5.1) : Int) + (↑(List.length (HalfT.t (cutT l b).1)) : Int) = Pat.pw v0 ∧ Spot.r v3.1 = Spot.r (PT.sp (readT l b first).1) ∧ Spot.p v3.1 = Spot.p (PT.sp (readT l b first).1) ∧ Spot.w v3.1 = Spot.w (PT.sp (readT l b first).1)) ∧ (0 : Int) = (readT l b first).2.1 ∧ (0 : Int) = (readT l b first).2.2) ((v4.1 = PT.px (readT l b first).1 ∧ v5.1 = PT.sx (readT l b first).1 ∧ [] = Pat.pre v0 ∧ [] = Pat.suf v0 ∧ false = Pat.hn v0 ∧ [] = Pat.npre v0 ∧ [] = Pat.nsuf v0 ∧ Num.mi v2.1 = Num.mi (Pat.n v0) ∧ Num.xi v2.1 = Num.xi (Pat.n v0) ∧ Num.mf v2.1 = Num.mf (Pat.n v0) ∧ Num.xf v2.1 = Num.xf (Pat.n v0) ∧ Num.ms v2.1 = Num.ms (Pat.n v0) ∧ Num.xs v2.1 = Num.xs (Pat.n v0) ∧ Num.pr v2.1 = Num.pr (Pat.n v0) ∧ Num.sc v2.1 = Num.sc (Pat.n v0) ∧ Num.inc v2.1 = Num.inc (Pat.n v0) ∧ Num.ps v2.1 = Num.ps (Pat.n v0) ∧ Num.me v2.1 = Num.me (Pat.n v0) ∧ Num.px v2.1 = Num.px (Pat.n v0) ∧ (0 : Int) = Pat.pa v0 ∧ (0 : Int) = Pat.pd v0 ∧ (0 : Int) = Pat.pw v0 ∧ Spot.r v3.1 = Spot.r (PT.sp (readT l b first).1) ∧ Spot.p v3.1 = Spot.p (PT.sp (readT l b first).1) ∧ Spot.w v3.1 = Spot.w (PT.sp (readT l b first).1)) ∧ (0 : Int) = (readT l b first).2.1 ∧ (0 : Int) = (readT l b first).2.2)))))))) := by kernel_rfl
set_option maxHeartbeats 4000000 in
theorem of_pread (h : ∀ (l : List Iv) (b : Int) (first : Bool), (EOK l) → (l.length ≤ 1000000) → vcP [(63, sp_pcut), (64, sp_padded), (66, sp_plain), (65, sp_aitems), (67, sp_nparse)] [] misc Tryz.f33 (.nil) [.one (.rd (.ivs l)), .one (.int .i64 b), .one (.bool first)] (.tup [(true, (readT l b first).1.pcs), (true, [.int .i64 (readT l b first).2.1, .int .i64 (readT l b first).2.2])])) : FnP 33 sp_pread := by
  refine fnP_ok (cs := [(63, sp_pcut), (64, sp_padded), (66, sp_plain), (65, sp_aitems), (67, sp_nparse)]) (cas := []) (ms := misc) (.cons ok_pcut (.cons ok_padded (.cons ok_plain (.cons ok_aitems (.cons ok_nparse .nil))))) .nil misc_ok 33 Tryz.f33 (by kernel_rfl) (by kernel_rfl) (by kernel_rfl) (fun _ => .nil) ?_
  intro pvs p r hs hp
  unfold sp_pread at hs
  simp only at hs
  split at hs
  · rename_i l b first
    cases hs
    refine h l b first ?_ ?_
    · exact hp.1
    · exact hp.2
  · cases hs
theorem itemsR_len (l : List Tok) : (itemsR l).1.length ≤ 40 := by
  unfold itemsR
  split
  · exact Nat.zero_le _
  · split
    · exact Nat.zero_le _
    · show (itemsL l).1.length ≤ 40; omega
theorem isIn_asc {c : List UInt8} (hc : Asc c) {y : Iv} (h : isIn c y = true) : 0 ≤ y.sR ∧ y.sR < 128 := by
  unfold isIn hasR at h
  rw [Bool.and_eq_true, Bool.and_eq_true, List.any_eq_true] at h
  obtain ⟨_, _, x, hx, h2⟩ := h
  have h2 : (x.toNat : Int) = y.sR := by simpa using h2
  have := hc x hx
  omega
theorem cut_asc {l : List Iv} (h : cutN l < l.length) {i : Nat} (h1 : cutN l ≤ i) (h2 : i < cutE l) : 0 ≤ (l.getD i default).sR ∧ (l.getD i default).sR < 128 := by
  have h69 : Asc [69] := asc_iff.2 rfl
  have h43 : Asc [43] := asc_iff.2 rfl
  by_cases ha : i < cutA l (cutN l)
  · exact isIn_asc bodyC_asc (run_drop h1 ha)
  · unfold cutE at h2
    split at h2
    · rename_i h3
      by_cases hb : i < cutB l (cutA l (cutN l))
      · by_cases hc : i = cutA l (cutN l)
        · subst hc
          exact isIn_asc h69 (run_drop (c := [69]) (Nat.le_refl _) (by omega))
        · refine isIn_asc h43 (run_drop (c := [43]) (p := cutA l (cutN l) + 1) (by omega) ?_)
          unfold cutB at hb
          omega
      · exact isIn_asc bodyC_asc (run_drop (by omega) h2)
    · exact absurd h2 ha
theorem encs_asc : ∀ {l : List Int}, (∀ r ∈ l, 0 ≤ r ∧ r < 128) → Asc (encs l) ∧ (encs l).length = l.length := by
  intro l
  induction l with
  | nil => intro _; exact ⟨fun c hc => (by cases hc), rfl⟩
  | cons r l ih =>
    intro h
    obtain ⟨h1, h2⟩ := ih fun x hx => h x (List.mem_cons_of_mem _ hx)
    have h3 := h r List.mem_cons_self
    rw [encs_cons, enc1 h3.1 h3.2]
    refine ⟨fun c hc => ?_, by simp [h2]⟩
    rcases List.mem_cons.1 hc with hc | hc
    · rw [hc]
      have := ofNat_toNat h3.1 (by omega : r < 256)
      omega
    · exact h1 c hc
theorem cutT_txt (l : List Iv) (b : Int) : Asc (cutT l b).1.t ∧ (cutT l b).1.t.length ≤ l.length ∧ (cutT l b).1.p.length ≤ l.length ∧ (cutT l b).1.s.length ≤ l.length := by
  unfold cutT
  split
  · rename_i h
    have hh := encs_asc (l := ((l.take (cutE l)).drop (cutN l)).map Iv.sR) (by
      intro r hr
      obtain ⟨y, hy, rfl⟩ := List.mem_map.1 hr
      obtain ⟨i, i1, i2, i3, rfl⟩ := mem_mid default hy
      exact cut_asc h i1 i2)
    refine ⟨hh.1, ?_, ?_, ?_⟩
    · show (encs _).length ≤ _
      rw [hh.2, List.length_map, List.length_drop, List.length_take]; omega
    · show (l.take _).length ≤ _
      rw [List.length_take]; omega
    · show (l.drop _).length ≤ _
      rw [List.length_drop]; omega
  · exact ⟨fun c hc => (by cases hc), Nat.zero_le _, Nat.zero_le _, Nat.zero_le _⟩
set_option maxHeartbeats 4000000 in
theorem ok_pread : FnP 33 sp_pread := of_pread (by
  intro l b first hl hn
  rw [vc_pread]
  obtain ⟨t1, t2, t3, t4⟩ := cutT_txt l b
  have p1 := plainT_len (cutT l b).1.p
  have p2 := plainT_len (cutT l b).1.s
  have i1 := itemsR_len (plainT (cutT l b).1.p)
  have i2 := itemsR_len (plainT (cutT l b).1.s)
  refine ⟨hl, by omega, br_of (fun h => ?_) fun h => ⟨by omega, by omega, br_of (fun h1 => ?_) fun h1 => ⟨by omega, by omega, br_of (fun h2 => ?_) fun h2 => ⟨t1, by omega, br_of (fun h3 => ?_) fun h3 => ⟨by omega, by omega, br_of (fun h4 => ?_) fun h4 => br_of (fun h5 => ⟨by simp only [inR]; omega, by simp only [inR]; omega, ?_⟩) fun h5 => ?_⟩⟩⟩⟩⟩
  · have h : (cutT l b).2 = false := by simpa using h
    have hE : readT l b first = (pt0, 4, b) := by unfold readT; rw [if_pos h]
    rw [hE]; and_intros <;> rfl
  all_goals have h : ¬ (cutT l b).2 = false := by simpa using h
  · have h1 : (paddedT (spotsT (cutT l b).1.p (cutT l b).1.s) first).2.1 ≠ 0 := by simpa using h1
    have hE : readT l b first = (pt0, (paddedT (spotsT (cutT l b).1.p (cutT l b).1.s) first).2) := by unfold readT; rw [if_neg h, if_pos h1]
    rw [hE]; and_intros <;> rfl
  all_goals have h1 : ¬ (paddedT (spotsT (cutT l b).1.p (cutT l b).1.s) first).2.1 ≠ 0 := by simpa using h1
  · have h2 : (itemsR (plainT (cutT l b).1.p)).2.1 ≠ 0 := by simpa using h2
    have hE : readT l b first = (pt0, (itemsR (plainT (cutT l b).1.p)).2) := by unfold readT; rw [if_neg h, if_neg h1, if_pos h2]
    rw [hE]; and_intros <;> rfl
  all_goals have h2 : ¬ (itemsR (plainT (cutT l b).1.p)).2.1 ≠ 0 := by simpa using h2
  · have h3 : (numT (cutT l b).1.t).2 ≠ 0 := by simpa using h3
    have hE : readT l b first = (pt0, (numT (cutT l b).1.t).2, (cutT l b).1.a) := by unfold readT; rw [if_neg h, if_neg h1, if_neg h2, if_pos h3]
    rw [hE]; and_intros <;> rfl
  all_goals have h3 : ¬ (numT (cutT l b).1.t).2 ≠ 0 := by simpa using h3
  · have h4 : (itemsR (plainT (cutT l b).1.s)).2.1 ≠ 0 := by simpa using h4
    have hE : readT l b first = (pt0, (itemsR (plainT (cutT l b).1.s)).2) := by unfold readT; rw [if_neg h, if_neg h1, if_neg h2, if_neg h3, if_pos h4]
    rw [hE]; and_intros <;> rfl
  all_goals have h4 : ¬ (itemsR (plainT (cutT l b).1.s)).2.1 ≠ 0 := by simpa using h4
  · have h5 : (paddedT (spotsT (cutT l b).1.p (cutT l b).1.s) first).1.w ≠ 0 := by simpa using h5
    have hE : readT l b first = (⟨(itemsR (plainT (cutT l b).1.p)).1, (itemsR (plainT (cutT l b).1.s)).1, (numT (cutT l b).1.t).1, ((itemsR (plainT (cutT l b).1.p)).1.length : Int) + ((itemsR (plainT (cutT l b).1.s)).1.length : Int) + ((cutT l b).1.t.length : Int), (paddedT (spotsT (cutT l b).1.p (cutT l b).1.s) first).1⟩, 0, 0) := by
      unfold readT; rw [if_neg h, if_neg h1, if_neg h2, if_neg h3, if_neg h4, if_pos h5]
    rw [hE]; and_intros <;> rfl
  · have h5 : ¬ (paddedT (spotsT (cutT l b).1.p (cutT l b).1.s) first).1.w ≠ 0 := by simpa using h5
    have hE : readT l b first = (⟨(itemsR (plainT (cutT l b).1.p)).1, (itemsR (plainT (cutT l b).1.s)).1, (numT (cutT l b).1.t).1, 0, (paddedT (spotsT (cutT l b).1.p (cutT l b).1.s) first).1⟩, 0, 0) := by
      unfold readT; rw [if_neg h, if_neg h1, if_neg h2, if_neg h3, if_neg h4, if_neg h5]
    rw [hE]; and_intros <;> rfl)
end Go.Proofs.YtglfkihckkjniaaGreatDoor.Vx
