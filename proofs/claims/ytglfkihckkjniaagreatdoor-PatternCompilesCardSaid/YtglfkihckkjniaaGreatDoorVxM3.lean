/-
Number parts: the two ways of reading one, held side by side. Plain Lean, no program in sight. No statement of the seat is proved here.
-/
import Derived.Test.YtglfkihckkjniaaGreatDoorVxF17
set_option maxRecDepth 100000
set_option linter.unusedVariables false
set_option linter.unusedSimpArgs false
namespace Go.Proofs.YtglfkihckkjniaaGreatDoor.Vx
open Go Go.RowKit
theorem u8_toNat {x k : UInt8} : (x.toNat : Int) = (k.toNat : Int) ↔ x = k := by
  constructor
  · intro h; exact UInt8.toNat_inj.1 (by omega)
  · rintro rfl; rfl
theorem cutI_cut (k : UInt8) (s : List UInt8) : cutI (k.toNat : Int) s = Lib.cut s [k] := by
  rw [cut_C]
  induction s with
  | nil => rfl
  | cons x l ih => unfold cutI cutC; rw [ih]; simp only [u8_toNat]
theorem isC_ne {k : UInt8} (hk : k ≠ 48) (x : UInt8) : isC (k.toNat : Int) x = (x == k) := by
  unfold isC
  have h1 : ((k.toNat : Int) == 48) = false := by
    rw [beq_eq_false_iff_ne]; intro h; exact hk ((u8_toNat (k := 48)).1 h)
  rw [h1]
  simp only [Bool.false_and, Bool.or_false]
  rw [Bool.eq_iff_iff, beq_iff_eq, beq_iff_eq, u8_toNat]
theorem isC_dig (x : UInt8) : isC 48 x = isDig (x.toNat : Int) := by
  unfold isC isDig
  rw [Bool.eq_iff_iff]
  simp
  omega
theorem cntC_count {k : UInt8} (hk : k ≠ 48) (s : List UInt8) : cntC (k.toNat : Int) s = s.count k := by
  unfold cntC List.count
  congr 1
  funext x
  exact isC_ne hk x
theorem dropC_ne {k : UInt8} (hk : k ≠ 48) (s : List UInt8) : dropC (k.toNat : Int) s = dropP (· == (k.toNat : Int)) s := by
  unfold dropC dropP
  congr 1
  funext x
  rw [isC_ne hk, Bool.eq_iff_iff, beq_iff_eq, beq_iff_eq, u8_toNat]
theorem dropC_dig (s : List UInt8) : dropC 48 s = dropP isDig s := by
  unfold dropC dropP
  congr 1
  funext x
  exact isC_dig x
theorem count_cutC (k : UInt8) (s : List UInt8) : s.count k = if (cutC k s).2.2 = true then 1 + (cutC k s).2.1.count k else 0 := by
  induction s with
  | nil => rfl
  | cons x l ih =>
    unfold cutC
    by_cases h : x = k
    · subst h; rw [if_pos rfl, List.count_cons_self]; simp only [if_true]; omega
    · rw [if_neg h, List.count_cons_of_ne h]; exact ih
theorem not_found_frac (k : UInt8) (s : List UInt8) (h : (cutC k s).2.2 = false) : (cutC k s).2.1 = [] := by
  induction s with
  | nil => rfl
  | cons x l ih =>
    unfold cutC at h ⊢
    split
    · rename_i hx; rw [if_pos hx] at h; cases h
    · rename_i hx; rw [if_neg hx] at h; exact ih h
/-! ### where it stops -/
theorem num_stop2 {s : List UInt8} (h : (rs2 s).c ≠ 0) : rs5 s = rs2 s := by
  have h3 : rs3 s = rs2 s := by unfold rs3; rw [if_neg h]
  have h4 : rs4 s = rs2 s := by unfold rs4; rw [h3, if_neg h]
  unfold rs5; rw [h4, if_neg h]
theorem num_stop3 {s : List UInt8} (h : (rs3 s).c ≠ 0) : rs5 s = rs3 s := by
  have h4 : rs4 s = rs3 s := by unfold rs4; rw [if_neg h]
  unfold rs5; rw [h4, if_neg h]
theorem num_stop4 {s : List UInt8} (h : (rs4 s).c ≠ 0) : rs5 s = rs4 s := by unfold rs5; rw [if_neg h]
theorem num_fail1 {s : List UInt8} {e : Int} (h : (rs1 s).c = e) (he : e ≠ 0) : numT s = (z0, e) := by
  have h2 : rs2 s = rs1 s := by unfold rs2; rw [if_neg (by rw [h]; exact he)]
  have h5 := num_stop2 (s := s) (by rw [h2, h]; exact he)
  unfold numT; rw [h5, h2, h, if_neg he]
theorem num_fail2 {s : List UInt8} {e : Int} (h : (rs2 s).c = e) (he : e ≠ 0) : numT s = (z0, e) := by
  have h5 := num_stop2 (s := s) (by rw [h]; exact he)
  unfold numT; rw [h5, h, if_neg he]
theorem num_fail3 {s : List UInt8} {e : Int} (h : (rs3 s).c = e) (he : e ≠ 0) : numT s = (z0, e) := by
  have h5 := num_stop3 (s := s) (by rw [h]; exact he)
  unfold numT; rw [h5, h, if_neg he]
theorem num_fail4 {s : List UInt8} {e : Int} (h : (rs4 s).c = e) (he : e ≠ 0) : numT s = (z0, e) := by
  have h5 := num_stop4 (s := s) (by rw [h]; exact he)
  unfold numT; rw [h5, h, if_neg he]
theorem num_fail5 {s : List UInt8} {e : Int} (h : (rs5 s).c = e) (he : e ≠ 0) : numT s = (z0, e) := by
  unfold numT; rw [h, if_neg he]
/-! ### the exponent -/
theorem span1_nil {P : Int → Bool} {s : List UInt8} (h : dropP P s = []) : span1 P s = s.length := by unfold span1; rw [h]; simp
theorem trim_plus (e : List UInt8) : Lib.trimPrefix e [43] = if Lib.hasPrefix e [43] = true then e.drop 1 else e := rfl
theorem has_plus (e : List UInt8) : Lib.hasPrefix e [43] = decide (0 < e.length ∧ ((e.getD 0 0).toNat : Int) = 43) := by
  unfold Lib.hasPrefix
  cases e with
  | nil => rfl
  | cons x l =>
    rw [Bool.eq_iff_iff]
    simp [List.isPrefixOf]
    have := u8_toNat (x := x) (k := 43)
    constructor
    · rintro rfl; rfl
    · intro h; exact (this.1 (by simpa using h)).symm
theorem exp_bad {e : List UInt8} {p : Num} (h : Lib.trimPrefix e [43] = [] ∨ dropP (· == 48) (Lib.trimPrefix e [43]) ≠ []) : expT e true p = (4, p) := by
  unfold expT
  rw [if_pos rfl, if_pos]
  rcases h with h | h
  · right; rw [h]; rfl
  · left; exact h
theorem exp_long {e : List UInt8} {p : Num} (h1 : Lib.trimPrefix e [43] ≠ []) (h2 : dropP (· == 48) (Lib.trimPrefix e [43]) = []) (h3 : 9 < (Lib.trimPrefix e [43]).length) : expT e true p = (8, p) := by
  unfold expT
  have := span1_nil h2
  have : 0 < (Lib.trimPrefix e [43]).length := List.length_pos_iff.2 h1
  rw [if_pos rfl, if_neg (by rintro (h | h); exact h h2; omega), if_pos (by omega)]
theorem exp_ok {e : List UInt8} {p : Num} (h1 : Lib.trimPrefix e [43] ≠ []) (h2 : dropP (· == 48) (Lib.trimPrefix e [43]) = []) (h3 : ¬ 9 < (Lib.trimPrefix e [43]).length) : expT e true p = (0, { p with ps := true, px := Lib.hasPrefix e [43], me := (Lib.trimPrefix e [43]).length }) := by
  unfold expT
  have h4 := span1_nil h2
  have : 0 < (Lib.trimPrefix e [43]).length := List.length_pos_iff.2 h1
  rw [if_pos rfl, if_neg (by rintro (h | h); exact h h2; omega), if_neg (by omega), h4]
theorem exp_no {e : List UInt8} {p : Num} : expT e false p = (0, p) := rfl
/-! ### the parts -/
theorem parts_odd {s : List UInt8} (h1 : (rs1 s).c = 0) (h : anyP isOdd (numB s) = true) : numT s = (z0, 4) := by
  refine num_fail2 ?_ (by decide)
  unfold rs2; rw [if_pos h1]
  show (partsT _ _ _ _).1 = 4
  unfold partsT; rw [if_pos (.inl h)]
theorem cnt46 (s : List UInt8) : (1 < Lib.countByte s 46) ↔ 0 < cntC 46 (Lib.cut s [46]).2.1 := by
  have h := count_cutC 46 s
  have h2 := cntC_count (k := 46) (by decide) (Lib.cut s [46]).2.1
  have e : ((46 : UInt8).toNat : Int) = 46 := rfl
  rw [e] at h2
  rw [h2, cut_C]
  unfold Lib.countByte
  rw [h]
  split
  · omega
  · rename_i hf
    rw [not_found_frac 46 s (by simpa using hf)]
    simp
theorem parts_bad {s : List UInt8} (h1 : (rs1 s).c = 0) (h : 0 < cntC 46 (Lib.cut (numB s) [46]).2.1 ∨ ((Lib.cut (numB s) [46]).2.2 = true ∧ (Lib.cut (numB s) [46]).2.1 = [])) : numT s = (z0, 4) := by
  refine num_fail2 ?_ (by decide)
  unfold rs2; rw [if_pos h1]
  show (partsT _ _ _ _).1 = 4
  unfold partsT
  rcases h with h | h
  · rw [if_pos (.inr ((cnt46 _).2 h))]
  · split
    · rfl
    · first | rfl | rw [if_pos h]
theorem parts_ok {s : List UInt8} (h1 : (rs1 s).c = 0) (h2 : anyP isOdd (numB s) = false) (h3 : ¬ 0 < cntC 46 (Lib.cut (numB s) [46]).2.1) (h4 : ¬ ((Lib.cut (numB s) [46]).2.2 = true ∧ (Lib.cut (numB s) [46]).2.1 = [])) :
    rs2 s = ⟨0, (Lib.cut (numB s) [46]).1, (Lib.cut (numB s) [46]).2.1, (Lib.cut (numB s) [46]).2.2, (rs1 s).p⟩ := by
  unfold rs2; rw [if_pos h1]
  have : partsT (numB s) [] [] false = (0, Lib.cut (numB s) [46]) := by
    unfold partsT
    rw [if_neg (by rintro (h | h); rw [h2] at h; cases h; exact h3 ((cnt46 _).1 h)), if_neg h4]
  rw [this]
/-! ### the groups -/
def szZ (w : List UInt8) : List Int := (splitC 44 w).map fun t => (t.length : Int)
def sizesN (n : Int) : List UInt8 → List Int
  | [] => [n]
  | x :: t => if x = 44 then n :: sizesN 0 t else sizesN (n + 1) t
theorem sizesN_split (w : List UInt8) : ∀ n : Int, sizesN n w = (((splitC 44 w).headD []).length + n : Int) :: (splitC 44 w).tail.map fun t => (t.length : Int) := by
  induction w with
  | nil => intro n; simp [sizesN, splitC]
  | cons x t ih =>
    intro n
    unfold sizesN splitC
    split
    · have hne := splitC_ne 44 t
      rw [ih 0]
      cases hs : splitC 44 t with
      | nil => exact absurd hs hne
      | cons a l => simp
    · rw [ih (n + 1)]; simp; omega
theorem szZ_eq (w : List UInt8) : sizesN 0 w = szZ w := by
  rw [sizesN_split]
  unfold szZ
  have hne := splitC_ne 44 w
  cases hs : splitC 44 w with
  | nil => exact absurd hs hne
  | cons a l => simp
theorem flat_filter (w : List UInt8) : (splitC 44 w).flatten = w.filter fun x => decide (x ≠ 44) := by
  induction w with
  | nil => rfl
  | cons x t ih =>
    unfold splitC
    by_cases h : x = 44
    · subst h; rw [if_pos rfl]; simpa using ih
    · rw [if_neg h]
      have hne := splitC_ne 44 t
      rw [List.filter_cons_of_pos (by simpa using h), ← ih]
      cases hs : splitC 44 t with
      | nil => exact absurd hs hne
      | cons a l => simp
theorem szZ_len (w : List UInt8) : (szZ w).length = (splitC 44 w).length := by unfold szZ; simp
theorem szZ_get (w : List UInt8) {i : Nat} (h : i < (splitC 44 w).length) : (szZ w).getD i 0 = ((splitC 44 w).getD i []).length := by
  unfold szZ
  rw [List.getD_eq_getElem?_getD, List.getD_eq_getElem?_getD, List.getElem?_map, List.getElem?_eq_getElem h]; rfl
theorem empty_of {w : List UInt8} {i : Nat} (h1 : 1 < (szZ w).length) (hi : i < (szZ w).length) (h : (szZ w).getD i 0 = 0) : emptyIn (splitC 44 w) = true := by
  rw [szZ_len] at h1 hi
  rw [szZ_get w hi] at h
  unfold emptyIn
  rw [Bool.and_eq_true, decide_eq_true_iff, List.any_eq_true]
  refine ⟨h1, (splitC 44 w).getD i [], getD_mem' hi, ?_⟩
  rw [decide_eq_true_iff]
  exact List.eq_nil_of_length_eq_zero (by omega)
theorem not_empty {w : List UInt8} (h : 1 < (szZ w).length → ∀ i, i < (szZ w).length → (szZ w).getD i 0 ≠ 0) : emptyIn (splitC 44 w) = false := by
  cases he : emptyIn (splitC 44 w) with
  | false => rfl
  | true =>
    unfold emptyIn at he
    rw [Bool.and_eq_true, decide_eq_true_iff, List.any_eq_true] at he
    obtain ⟨h1, t, ht, h2⟩ := he
    rw [decide_eq_true_iff] at h2
    subst h2
    obtain ⟨i, hi, hget⟩ := List.mem_iff_getElem.1 ht
    exfalso
    refine h (by rw [szZ_len]; exact h1) i (by rw [szZ_len]; exact hi) ?_
    rw [szZ_get w hi, List.getD_eq_getElem?_getD, List.getElem?_eq_getElem hi, hget]; rfl
theorem cnt44 (f : List UInt8) : 0 < cntC 44 f ↔ 0 ≤ Lib.indexByte f 44 := by
  have h2 := cntC_count (k := 44) (by decide) f
  have e : ((44 : UInt8).toNat : Int) = 44 := rfl
  rw [e] at h2
  rw [h2, indexByte_has, List.count_pos_iff]
theorem groups_bad {s : List UInt8} (h2 : (rs2 s).c = 0) (h : emptyIn (splitC 44 (rs2 s).w) = true ∨ 0 < cntC 44 (rs2 s).f) : numT s = (z0, 5) := by
  refine num_fail3 ?_ (by decide)
  unfold rs3; rw [if_pos h2]
  show (groupsT _ _ _).1 = 5
  unfold groupsT
  rcases h with h | h
  · rw [if_pos h]
  · split
    · rfl
    · rw [if_pos ((cnt44 _).1 h)]
def grpP (w : List UInt8) (p : Num) : Num := if 1 < (szZ w).length then { p with pr := (szZ w).getD ((szZ w).length - 1) 0, sc := if 2 < (szZ w).length then (szZ w).getD ((szZ w).length - 2) 0 else (szZ w).getD ((szZ w).length - 1) 0 } else p
theorem groups_ok {s : List UInt8} (h2 : (rs2 s).c = 0) (h3 : emptyIn (splitC 44 (rs2 s).w) = false) (h4 : ¬ 0 < cntC 44 (rs2 s).f) : rs3 s = ⟨0, (splitC 44 (rs2 s).w).flatten, (rs2 s).f, (rs2 s).pt, grpP (rs2 s).w (rs2 s).p⟩ := by
  unfold rs3; rw [if_pos h2]
  have : groupsT (rs2 s).w (rs2 s).f (rs2 s).p = (0, (splitC 44 (rs2 s).w).flatten, grpP (rs2 s).w (rs2 s).p) := by
    unfold groupsT
    rw [if_neg (by rw [h3]; decide), if_neg (fun h => h4 ((cnt44 _).2 h))]
    unfold grpP
    rw [szZ_len]
    split
    · rw [szZ_get _ (by omega), szZ_get _ (by omega)]
    · rfl
  rw [this]
/-! ### digits and signs -/
theorem ne48 : (64 : UInt8) ≠ 48 ∧ (35 : UInt8) ≠ 48 := by decide
theorem dropC35 (s : List UInt8) : dropC 35 s = dropP (· == 35) s := dropC_ne (k := 35) (by decide) s
theorem dropC64 (s : List UInt8) : dropC 64 s = dropP (· == 64) s := dropC_ne (k := 64) (by decide) s
theorem cnt64 (s : List UInt8) : 0 < cntC 64 s ↔ 0 ≤ Lib.indexByte s 64 := by
  have h2 := cntC_count (k := 64) (by decide) s
  have e : ((64 : UInt8).toNat : Int) = 64 := rfl
  rw [e] at h2
  rw [h2, indexByte_has, List.count_pos_iff]
theorem cnt48 (s : List UInt8) : 0 < cntC 48 s ↔ anyP isDig s = true := by
  unfold cntC anyP
  rw [List.countP_pos_iff, List.any_eq_true]
  simp only [isC_dig]
/-- How many are dropped. -/
theorem span1_take (P : Int → Bool) (s : List UInt8) : span1 P s = ((s.takeWhile fun c => P (c.toNat : Int)).length : Int) := by
  unfold span1 dropP
  have := congrArg List.length (List.takeWhile_append_dropWhile (p := fun c : UInt8 => P (c.toNat : Int)) (l := s))
  rw [List.length_append] at this
  omega
theorem dropP_eq (P : Int → Bool) (s : List UInt8) : dropP P s = s.drop (s.takeWhile fun c => P (c.toNat : Int)).length := by
  have := List.takeWhile_append_dropWhile (p := fun c : UInt8 => P (c.toNat : Int)) (l := s)
  unfold dropP
  have h2 := congrArg (List.drop (s.takeWhile fun c : UInt8 => P (c.toNat : Int)).length) this
  rw [List.drop_left] at h2
  exact h2
theorem takeP_eq (P : Int → Bool) (s : List UInt8) : (s.takeWhile fun c => P (c.toNat : Int)) = s.take (s.takeWhile fun c => P (c.toNat : Int)).length := by
  have := List.takeWhile_append_dropWhile (p := fun c : UInt8 => P (c.toNat : Int)) (l := s)
  have h2 := congrArg (List.take (s.takeWhile fun c : UInt8 => P (c.toNat : Int)).length) this
  rw [List.take_left] at h2
  exact h2
theorem all_of_nil {P : Int → Bool} {s : List UInt8} (h : dropP P s = []) : ∀ x ∈ s, P (x.toNat : Int) = true := by
  have h1 := List.takeWhile_append_dropWhile (p := fun c : UInt8 => P (c.toNat : Int)) (l := s)
  unfold dropP at h
  rw [h, List.append_nil] at h1
  intro x hx
  rw [← h1] at hx
  exact List.all_eq_true.1 (List.all_takeWhile (p := fun c : UInt8 => P (c.toNat : Int)) (l := s)) x hx
theorem all_take (P : Int → Bool) (s : List UInt8) : ∀ x ∈ (s.takeWhile fun c => P (c.toNat : Int)), P (x.toNat : Int) = true := fun x hx => List.all_eq_true.1 (List.all_takeWhile (p := fun c : UInt8 => P (c.toNat : Int)) (l := s)) x hx
theorem dropP_none (s : List UInt8) : dropP (fun _ => false) s = s := by cases s <;> rfl
theorem countP_split (P Q : Int → Bool) (s : List UInt8) : s.countP (fun c => Q (c.toNat : Int)) = (s.takeWhile fun c => P (c.toNat : Int)).countP (fun c => Q (c.toNat : Int)) + (dropP P s).countP (fun c => Q (c.toNat : Int)) := by
  conv => lhs; rw [← List.takeWhile_append_dropWhile (p := fun c : UInt8 => P (c.toNat : Int)) (l := s)]
  rw [List.countP_append]; rfl
theorem countP_own {P : Int → Bool} (s : List UInt8) : (s.takeWhile fun c => P (c.toNat : Int)).countP (fun c => P (c.toNat : Int)) = (s.takeWhile fun c => P (c.toNat : Int)).length := by
  rw [List.countP_eq_length]
  intro a ha
  exact List.all_eq_true.1 (List.all_takeWhile (p := fun c : UInt8 => P (c.toNat : Int)) (l := s)) a ha
theorem countP_other {P Q : Int → Bool} (hPQ : ∀ x, P x = true → Q x = false) (s : List UInt8) : (s.takeWhile fun c => P (c.toNat : Int)).countP (fun c => Q (c.toNat : Int)) = 0 := by
  rw [List.countP_eq_zero]
  intro a ha
  have := List.all_eq_true.1 (List.all_takeWhile (p := fun c : UInt8 => P (c.toNat : Int)) (l := s)) a ha
  rw [hPQ _ this]; decide
theorem cnt_mid {P Q R : Int → Bool} (hP : ∀ x, P x = true → Q x = false) (hR : ∀ x, R x = true → Q x = false) {s : List UInt8} (h : dropP R (dropP Q (dropP P s)) = []) : (s.countP (fun c => Q (c.toNat : Int)) : Int) = span1 Q (dropP P s) := by
  rw [countP_split P Q s, countP_other hP, countP_split Q Q (dropP P s), countP_own, countP_split R Q (dropP Q (dropP P s)), countP_other hR, h, span1_take]
  simp
theorem cnt64_mid {w : List UInt8} (h : rowsF 35 64 35 0 w = []) : (cntC 64 w : Int) = span1 (· == 64) (dropP (· == 35) w) := by
  have h : dropC 35 (dropC 64 (dropC 35 w)) = [] := h
  rw [dropC35, dropC64, dropC35] at h
  rw [← cnt_mid (Q := (· == 64)) (by intro x hx; simp at hx ⊢; omega) (by intro x hx; simp at hx ⊢; omega) h]
  unfold cntC
  have : (fun c : UInt8 => ((c.toNat : Int) == 64)) = isC 64 := by
    funext x
    rw [show isC 64 x = (x == 64) from isC_ne (k := 64) (by decide) x, Bool.eq_iff_iff, beq_iff_eq, beq_iff_eq, ← u8_toNat (k := 64)]; rfl
  rw [this]
theorem dropP_idem (P : Int → Bool) (s : List UInt8) : dropP P (dropP P s) = dropP P s := by
  unfold dropP
  induction s with
  | nil => rfl
  | cons x l ih =>
    rw [List.dropWhile_cons]
    split
    · exact ih
    · rename_i h; rw [List.dropWhile_cons, if_neg h]
theorem rows_w (w : List UInt8) : rowsF 35 48 48 0 w = dropP isDig (dropP (· == 35) w) := by
  show dropC 48 (dropC 48 (dropC 35 w)) = _
  rw [dropC35, dropC_dig, dropC_dig, dropP_idem]
theorem rows_f (f : List UInt8) : rowsF 48 35 35 0 f = dropP (· == 35) (dropP isDig f) := by
  show dropC 35 (dropC 35 (dropC 48 f)) = _
  rw [dropC_dig, dropC35, dropC35, dropP_idem]
theorem rows_at (w : List UInt8) : rowsF 35 64 35 0 w = dropP (· == 35) (dropP (· == 64) (dropP (· == 35) w)) := by
  show dropC 35 (dropC 64 (dropC 35 w)) = _
  rw [dropC35, dropC64, dropC35]
theorem cntC48 (s : List UInt8) : cntC 48 s = s.countP fun c => isDig (c.toNat : Int) := by
  unfold cntC; congr 1; funext x; exact isC_dig x
theorem dig35 : ∀ x, (x == 35) = true → isDig x = false := by
  intro x hx; have hx : x = 35 := by simpa using hx
  subst hx; rfl
theorem cnt48_w {w : List UInt8} (h : dropP isDig (dropP (· == 35) w) = []) : (cntC 48 w : Int) = span1 isDig (dropP (· == 35) w) := by
  rw [cntC48]
  exact cnt_mid (Q := isDig) (P := (· == 35)) (R := fun _ => false) dig35 (fun x hx => absurd hx (by decide)) (by rw [dropP_none]; exact h)
theorem cnt48_f {f : List UInt8} (h : dropP (· == 35) (dropP isDig f) = []) : (cntC 48 f : Int) = span1 isDig f := by
  rw [cntC48]
  rw [countP_split isDig isDig f, countP_own, countP_split (· == 35) isDig (dropP isDig f), countP_other dig35, h, span1_take]
  simp
theorem n35 (x : UInt8) : decide ((x.toNat : Int) ≠ 35) = !((x.toNat : Int) == 35) := by
  by_cases h : (x.toNat : Int) = 35 <;> simp [h]
theorem filter_w {w : List UInt8} (h : dropP isDig (dropP (· == 35) w) = []) : (w.filter fun x => decide ((x.toNat : Int) ≠ 35)) = w.drop (span1 (· == 35) w).toNat := by
  have h1 := all_of_nil h
  have h2 := all_take (· == 35) w
  rw [span1_take, Int.toNat_natCast]
  refine Eq.trans ?_ (dropP_eq (· == 35) w)
  conv => lhs; rw [← List.takeWhile_append_dropWhile (p := fun c : UInt8 => ((c.toNat : Int) == 35)) (l := w)]
  rw [List.filter_append, List.filter_eq_nil_iff.2 (fun x hx => by rw [n35, h2 x hx]; decide), List.nil_append]
  exact List.filter_eq_self.2 fun x hx => by
    rw [n35]
    cases hb : ((x.toNat : Int) == 35) with
    | false => rfl
    | true => have := dig35 _ hb; rw [h1 x hx] at this; cases this
theorem filter_f {f : List UInt8} (h : dropP (· == 35) (dropP isDig f) = []) : (f.filter fun x => decide ((x.toNat : Int) ≠ 35)) = f.take (span1 isDig f).toNat := by
  have h1 := all_of_nil h
  have h2 := all_take isDig f
  rw [span1_take, Int.toNat_natCast, ← takeP_eq]
  conv => lhs; rw [← List.takeWhile_append_dropWhile (p := fun c : UInt8 => isDig (c.toNat : Int)) (l := f)]
  rw [List.filter_append]
  have e1 : ((f.takeWhile fun c : UInt8 => isDig (c.toNat : Int)).filter fun x => decide ((x.toNat : Int) ≠ 35)) = f.takeWhile fun c : UInt8 => isDig (c.toNat : Int) := List.filter_eq_self.2 fun x hx => by
    rw [n35]
    cases hb : ((x.toNat : Int) == 35) with
    | false => rfl
    | true => have := dig35 _ hb; rw [h2 x hx] at this; cases this
  have e2 : ((f.dropWhile fun c : UInt8 => isDig (c.toNat : Int)).filter fun x => decide ((x.toNat : Int) ≠ 35)) = [] := List.filter_eq_nil_iff.2 fun x hx => by rw [n35, h1 x hx]; decide
  rw [e1, e2, List.append_nil]
theorem trimL (s : List UInt8) : Lib.trimLeftB s 48 = dropP (· == 48) s := by
  unfold Lib.trimLeftB dropP
  congr 1
  funext x
  rw [Bool.eq_iff_iff, beq_iff_eq, beq_iff_eq, ← u8_toNat (k := 48)]; rfl
/-! ### the counts -/
theorem counts_fail {s : List UInt8} {e : Int} (h3 : (rs3 s).c = 0) (h : (countsT (rs3 s).w (rs3 s).f (rs3 s).pt (numS s) (rs3 s).p).1 = e) (he : e ≠ 0) : numT s = (z0, e) := by
  refine num_fail4 ?_ he
  unfold rs4; rw [if_pos h3]; exact h
theorem counts_done {s : List UInt8} {p : Num} (h3 : (rs3 s).c = 0) (h : countsT (rs3 s).w (rs3 s).f (rs3 s).pt (numS s) (rs3 s).p = (0, p)) : rs4 s = ⟨0, (rs3 s).w, (rs3 s).f, (rs3 s).pt, p⟩ := by
  unfold rs4; rw [if_pos h3, h]
theorem counts_none {w f : List UInt8} {pt sci : Bool} {p : Num} (h : w ++ f = []) : (countsT w f pt sci p).1 = 4 := by unfold countsT; rw [if_pos h]
theorem counts_sig {w f : List UInt8} {pt sci : Bool} {p : Num} (h : ¬ w ++ f = []) (h1 : 0 < cntC 64 (w ++ f)) : countsT w f pt sci p = signifT w pt p := by unfold countsT; rw [if_neg h, if_pos ((cnt64 _).1 h1)]
theorem sig_mix {w : List UInt8} {pt : Bool} {p : Num} (h : pt = true ∨ 0 < cntC 48 w) : (signifT w pt p).1 = 6 := by
  unfold signifT; rw [if_pos (h.imp id (cnt48 w).1)]
theorem sig_rows {w : List UInt8} {pt : Bool} {p : Num} (h : ¬ (pt = true ∨ 0 < cntC 48 w)) (h1 : rowsF 35 64 35 0 w ≠ []) : (signifT w pt p).1 = 4 := by
  unfold signifT; rw [if_neg (fun h' => h (h'.imp id (cnt48 w).2)), if_pos (.inl (by rw [← rows_at]; exact h1))]
theorem sig_ok {w : List UInt8} {pt : Bool} {p : Num} (h : ¬ (pt = true ∨ 0 < cntC 48 w)) (h1 : rowsF 35 64 35 0 w = []) (h2 : 0 < cntC 64 w) : signifT w pt p = (0, { p with ms := (cntC 64 w : Int), xs := ((dropP (· == 35) w).length : Int) }) := by
  have e := cnt64_mid h1
  rw [rows_at] at h1
  unfold signifT; rw [if_neg (fun h' => h (h'.imp id (cnt48 w).2)), if_neg (by rintro (h' | h'); exact h' h1; omega), ← e]
  have : (cntC 64 w : Int) + span1 (· == 35) (dropP (· == 64) (dropP (· == 35) w)) = ((dropP (· == 35) w).length : Int) := by
    rw [e]; unfold span1; rw [h1]; simp
  rw [this]
theorem counts_dig {w f : List UInt8} {pt sci : Bool} {p : Num} (h : ¬ w ++ f = []) (h1 : ¬ 0 < cntC 64 (w ++ f)) (h2 : rowsF 35 48 48 0 w ≠ [] ∨ rowsF 48 35 35 0 f ≠ []) : (countsT w f pt sci p).1 = 4 := by
  unfold countsT; rw [if_neg h, if_neg (fun h' => h1 ((cnt64 _).2 h')), if_pos (by rw [rows_w, rows_f] at h2; exact h2)]
def digP (w f : List UInt8) (sci : Bool) (p : Num) : Num := { p with mi := cntC 48 w, mf := cntC 48 f, xf := f.length, xi := if sci = true then (w.length : Int) else p.xi, inc := dropP (· == 48) ((w ++ f).filter fun x => decide ((x.toNat : Int) ≠ 35)) }
theorem digP_eq {w f : List UInt8} {sci : Bool} {p : Num} (h1 : rowsF 35 48 48 0 w = []) (h2 : rowsF 48 35 35 0 f = []) : countsP w f sci p = digP w f sci p := by
  rw [rows_w] at h1
  rw [rows_f] at h2
  unfold countsP digP
  rw [cnt48_w h1, cnt48_f h2, List.filter_append, filter_w h1, filter_f h2, trimL]
theorem few_f {f : List UInt8} (h2 : rowsF 48 35 35 0 f = []) : (0 < span1 (· == 35) (dropP isDig f)) ↔ (cntC 48 f : Int) < f.length := by
  rw [rows_f] at h2
  rw [cnt48_f h2]
  unfold span1; rw [h2]; simp
  have := dropP_len isDig f
  omega
theorem counts_mix {w f : List UInt8} {pt sci : Bool} {p : Num} (h : ¬ w ++ f = []) (h1 : ¬ 0 < cntC 64 (w ++ f)) (h2 : rowsF 35 48 48 0 w = []) (h3 : rowsF 48 35 35 0 f = []) (h4 : (digP w f sci p).inc ≠ [] ∧ ((cntC 48 f : Int) < f.length ∨ sci = true)) : (countsT w f pt sci p).1 = 6 := by
  have e := digP_eq (sci := sci) (p := p) h2 h3
  have g := few_f h3
  unfold countsT; rw [if_neg h, if_neg (fun h' => h1 ((cnt64 _).2 h')), if_neg (by rw [rows_w] at h2; rw [rows_f] at h3; rintro (h' | h'); exact h' h2; exact h' h3), e, if_pos (by rw [g]; exact h4)]
theorem counts_fine {w f : List UInt8} {pt sci : Bool} {p : Num} (h : ¬ w ++ f = []) (h1 : ¬ 0 < cntC 64 (w ++ f)) (h2 : rowsF 35 48 48 0 w = []) (h3 : rowsF 48 35 35 0 f = []) (h4 : ¬ ((digP w f sci p).inc ≠ [] ∧ ((cntC 48 f : Int) < f.length ∨ sci = true))) : countsT w f pt sci p = (0, digP w f sci p) := by
  have e := digP_eq (sci := sci) (p := p) h2 h3
  have g := few_f h3
  unfold countsT; rw [if_neg h, if_neg (fun h' => h1 ((cnt64 _).2 h')), if_neg (by rw [rows_w] at h2; rw [rows_f] at h3; rintro (h' | h'); exact h' h2; exact h' h3), e, if_neg (by rw [g]; exact h4)]
end Go.Proofs.YtglfkihckkjniaaGreatDoor.Vx
