/-
VX, functions 8: a number part's texts. No statement of the seat is proved here.
-/
import Derived.Test.YtglfkihckkjniaaGreatDoorVxF07
import Derived.Lib.SplitLaws
set_option maxRecDepth 100000
set_option linter.unusedVariables false
set_option linter.unusedSimpArgs false
namespace Go.Proofs.YtglfkihckkjniaaGreatDoor.Vx
open Go Go.RowKit

/-! ### cuts at a byte -/
def splitC (c : UInt8) : List UInt8 → List (List UInt8)
  | [] => [[]]
  | x :: l => if x = c then [] :: splitC c l else (x :: (splitC c l).headD []) :: (splitC c l).tail
theorem index_eq (c : UInt8) (l : List UInt8) : Lib.index (c :: l) [c] = 0 := by rw [Lib.index]; simp [List.isPrefixOf]
theorem index_ne {b c : UInt8} (h : b ≠ c) (l : List UInt8) : Lib.index (b :: l) [c] = if Lib.index l [c] == -1 then -1 else Lib.index l [c] + 1 := by
  have hp : ([c] : List UInt8).isPrefixOf (b :: l) = false := by simp [List.isPrefixOf, Ne.symm h]
  rw [Lib.index, hp]; simp
theorem splitK_eq (c : UInt8) (k : Nat) (l : List UInt8) : Lib.splitK [c] 0 (k + 1) (c :: l) = [] :: Lib.splitK [c] 0 k l := by
  rw [Lib.splitK, index_eq]
  simp
theorem splitK_ne {b c : UInt8} (h : b ≠ c) (k : Nat) (l : List UInt8) : Lib.splitK [c] 0 k (b :: l) = (b :: (Lib.splitK [c] 0 k l).headD []) :: (Lib.splitK [c] 0 k l).tail := by
  cases k with
  | zero => rfl
  | succ k =>
    have hge := Lib.index_ge l [c]
    rw [Lib.splitK, Lib.splitK, index_ne h]
    by_cases hm : Lib.index l [c] = -1
    · rw [hm]; simp
    · have e1 : (Lib.index l [c] == -1) = false := by simpa using hm
      have e2 : (Lib.index l [c] + 1 == -1) = false := by
        have : Lib.index l [c] + 1 ≠ -1 := by omega
        simpa using this
      rw [e1]
      simp only [Bool.false_eq_true, if_false, e2]
      obtain ⟨j, hj⟩ : ∃ j : Nat, Lib.index l [c] = j := ⟨(Lib.index l [c]).toNat, by omega⟩
      rw [hj, show ((j : Int) + 1).toNat = j + 1 by omega, show (j : Int).toNat = j by omega]
      simp
theorem splitK_C (c : UInt8) : ∀ l : List UInt8, Lib.splitK [c] 0 (l.count c) l = splitC c l := by
  intro l
  induction l with
  | nil => rfl
  | cons b l ih =>
    by_cases h : b = c
    · subst h
      rw [List.count_cons_self, splitK_eq, ih, splitC, if_pos rfl]
    · rw [List.count_cons_of_ne h, splitK_ne h, ih, splitC, if_neg h]
theorem splitC_ne (c : UInt8) (l : List UInt8) : splitC c l ≠ [] := by
  cases l with
  | nil => simp [splitC]
  | cons x l => unfold splitC; split <;> simp
theorem splitC_len (c : UInt8) (l : List UInt8) : (splitC c l).length = l.count c + 1 := by
  induction l with
  | nil => rfl
  | cons x l ih =>
    unfold splitC
    by_cases h : x = c
    · subst h; rw [if_pos rfl, List.length_cons, ih, List.count_cons_self]
    · rw [if_neg h, List.length_cons, List.length_tail, ih, List.count_cons_of_ne h]; omega
def cutC (c : UInt8) : List UInt8 → List UInt8 × List UInt8 × Bool
  | [] => ([], [], false)
  | x :: l => if x = c then ([], l, true) else (x :: (cutC c l).1, (cutC c l).2.1, (cutC c l).2.2)
theorem cut_C (c : UInt8) (l : List UInt8) : Lib.cut l [c] = cutC c l := by
  induction l with
  | nil => rfl
  | cons b l ih =>
    unfold Lib.cut cutC
    by_cases h : b = c
    · subst h; rw [index_eq, if_pos rfl]; simp
    · rw [index_ne h, if_neg h]
      have hge := Lib.index_ge l [c]
      unfold Lib.cut at ih
      by_cases hm : Lib.index l [c] = -1
      · rw [hm] at ih ⊢
        rw [← ih]; simp
      · have e1 : (Lib.index l [c] == -1) = false := by simpa using hm
        rw [if_pos (by omega)] at ih
        rw [← ih, e1]
        simp only [Bool.false_eq_true, if_false]
        obtain ⟨j, hj⟩ : ∃ j : Nat, Lib.index l [c] = j := ⟨(Lib.index l [c]).toNat, by omega⟩
        rw [hj, if_pos (by omega), show ((j : Int) + 1).toNat = j + 1 by omega, show (j : Int).toNat = j by omega]
        rfl
/-! ### strings.Split, Join -/
def sp_ssplit : FSpec := ⟨[], fun | [.one (.str s), .one (.str [c])] => some ([s.length ≤ 1000000000], .one (.rd (.strs (splitC c s)))) | _ => none⟩
theorem ok_ssplit : FnP 123 sp_ssplit := by
  refine ⟨body_of Tryz.f123 (by kernel_rfl) (by kernel_rfl) (by kernel_rfl), ?_⟩
  intro pvs p r hs hp w B args hg ha
  unfold sp_ssplit at hs
  simp only at hs
  split at hs
  · rename_i s q
    cases hs
    have hp : s.length ≤ 1000000000 := hp
    obtain ⟨v, u, rfl, hv, hu⟩ := args2 ha
    have hv : v = .string ⟨s.toArray⟩ := hv
    have hu : u = .string ⟨#[q]⟩ := hu
    subst hv; subst hu
    obtain ⟨m, hm⟩ := glob_max hg
    refine (Tryz.strings_Split ⟨s.toArray⟩ ⟨#[q]⟩ m w (by rw [bsize]; omega) hm (Nat.le_refl 1)).mono ?_
    rintro e w' ⟨rfl, rfl⟩
    have hc : Lib.countB ⟨s.toArray⟩ ⟨#[q]⟩ = s.count q := Lib.count_one q s
    have hd := Lib.splitB_data ⟨#[q]⟩ 0 (s.count q) ⟨s.toArray⟩
    have hd : (Lib.splitB ⟨#[q]⟩ 0 (s.count q) ⟨s.toArray⟩).map (·.data.toList) = splitC q s := by rw [hd]; exact splitK_C q s
    rw [hc]
    have hmap : (Lib.splitB ⟨#[q]⟩ 0 (s.count q) ⟨s.toArray⟩).map Value.string = (splitC q s).map fun t => Value.string ⟨t.toArray⟩ := by
      rw [← hd, List.map_map]
      rfl
    rw [hmap]
    have hlen := splitC_len q s
    have hcl := List.count_le_length (a := q) (l := s)
    refine ⟨_, rfl, Fr.alloc w _ _, ?_⟩
    have hfl : Ls.flat (.strs (splitC q s)) = (splitC q s).map fun t => Value.string ⟨t.toArray⟩ := by
      unfold Ls.flat
      simp only [Ls.rows]
      induction splitC q s with
      | nil => rfl
      | cons x l ih => rw [List.map_cons, List.flatten_cons, ih]; rfl
    refine ⟨some ⟨w.heap.size, 0, none⟩, s.count q + 1, by show Value.slice _ _ _ = Value.slice _ (splitC q s).length _; rw [hlen], by show (splitC q s).length ≤ _; omega, by show (splitC q s).length ≤ _; simp only [maxLen]; omega, fun _ => ⟨w.heap.size, 0, rfl, fun j hj => ?_, .inl (Nat.le_refl _)⟩⟩
    rw [hfl]
    have : (w.alloc (.cells ((splitC q s).map fun t => Value.string ⟨t.toArray⟩).toArray 9)).heap[w.heap.size]? = some (.cells ((splitC q s).map fun t => Value.string ⟨t.toArray⟩).toArray 9 (0, 0)) := by
      show (w.heap.push _)[w.heap.size]? = _
      rw [Array.getElem?_push_size]
    simp only [World.cell?, this, Nat.zero_add]
    simp
  · cases hs
theorem strs_flat (l : List (List UInt8)) : Ls.flat (.strs l) = l.map fun t => Value.string ⟨t.toArray⟩ := by
  unfold Ls.flat
  simp only [Ls.rows]
  induction l with
  | nil => rfl
  | cons x l ih => rw [List.map_cons, List.flatten_cons, ih]; rfl
theorem join_nilsep (l : List (List UInt8)) : Lib.join l [] = l.flatten := by
  induction l with
  | nil => rfl
  | cons x l ih =>
    rw [Lib.join_cons, List.flatten_cons]
    congr 1
    clear ih
    unfold Lib.joinTail
    congr 1
    induction l with
    | nil => rfl
    | cons y l ih => rw [List.map_cons, ih]; rfl
theorem cell_lt {w : World} {b o : Nat} {v : Value} (h : w.cell? ⟨b, o, none⟩ = some v) : b < w.heap.size := by
  rcases Nat.lt_or_ge b w.heap.size with h1 | h1
  · exact h1
  · have : w.heap[b]? = none := Array.getElem?_eq_none h1
    simp [World.cell?, this] at h
def sp_sjoin : FSpec := ⟨[], fun | [.one (.rd (.strs l)), .one (.str [])] => some ([l.length ≤ 1000000000 ∧ l.flatten.length ≤ 1000000000], .one (.str l.flatten)) | _ => none⟩
theorem ok_sjoin : FnP 125 sp_sjoin := by
  refine ⟨body_of Tryz.f125 (by kernel_rfl) (by kernel_rfl) (by kernel_rfl), ?_⟩
  intro pvs p r hs hp w B args hg ha
  unfold sp_sjoin at hs
  simp only at hs
  split at hs
  · rename_i l
    cases hs
    have hp : l.length ≤ 1000000000 ∧ l.flatten.length ≤ 1000000000 := hp
    obtain ⟨v, u, rfl, hv, hu⟩ := args2 ha
    have hu : u = .string ⟨#[]⟩ := hu
    subst hu
    obtain ⟨A, c, rfl, h1, h2, h3⟩ := hv
    have h1 : l.length ≤ c := h1
    by_cases h0 : l = []
    · subst h0
      refine (Tryz.strings_Join_none A c ⟨#[]⟩ w).mono ?_
      rintro e w' ⟨rfl, rfl⟩
      exact ⟨_, rfl, Fr.refl _ _, rfl⟩
    · have hpos : 0 < l.length := List.length_pos_iff.2 h0
      obtain ⟨b, o, rfl, h4, h5⟩ := h3 hpos
      rw [strs_flat] at h4
      have hm : (l.map fun t => (⟨t.toArray⟩ : ByteArray)).map (·.data.toList) = l := by rw [List.map_map]; exact List.map_id' l
      have hsz : (Ls.strs l).len * (Ls.strs l).sz = l.length := Nat.mul_one _
      have h4 : ∀ j, j < l.length → w.cell? ⟨b, o + j, none⟩ = (l.map fun t => Value.string ⟨t.toArray⟩)[j]? := fun j hj => h4 j (by rw [hsz]; exact hj)
      have hj : Lib.join ((l.map fun t => (⟨t.toArray⟩ : ByteArray)).map (·.data.toList)) (⟨#[]⟩ : ByteArray).data.toList = l.flatten := by rw [hm]; exact join_nilsep l
      have hc0 := h4 0 hpos
      rw [List.getElem?_map, List.getElem?_eq_getElem hpos] at hc0
      have hcall := Tryz.strings_Join b o c (l.map fun t => (⟨t.toArray⟩ : ByteArray)) ⟨#[]⟩ w (fun j x hx => by
        rw [List.getElem?_map, Option.map_eq_some_iff] at hx
        obtain ⟨y, hy, rfl⟩ := hx
        rw [h4 j (List.getElem?_eq_some_iff.1 hy).1, List.getElem?_map, hy]; rfl) (cell_lt hc0) (by rw [List.length_map]; omega) (by rw [List.length_map]; exact h1) (by rw [hj]; omega)
      rw [hj, List.length_map] at hcall
      refine hcall.mono ?_
      rintro e w' ⟨rfl, hb⟩
      exact ⟨_, rfl, Fr.below hb _, rfl⟩
  · cases hs
/-! ### the reader -/
structure Num where
  mi : Int
  xi : Int
  mf : Int
  xf : Int
  ms : Int
  xs : Int
  pr : Int
  sc : Int
  inc : List UInt8
  ps : Bool
  me : Int
  px : Bool
def Num.sc' (p : Num) : List SC := [.nils, .nils, .ff, .nils, .nils, .int .i64 p.mi, .int .i64 p.xi, .int .i64 p.mf, .int .i64 p.xf, .int .i64 p.ms, .int .i64 p.xs, .int .i64 p.pr, .int .i64 p.sc, .str p.inc, .bool p.ps, .int .i64 p.me, .bool p.px, .int .i64 0, .int .i32 0, .int .i64 0]
def rdC (w f e : List UInt8) (pt sci : Bool) (p : Num) : List SC := .str w :: .str f :: .str e :: .bool pt :: .bool sci :: p.sc'
def expT (e : List UInt8) (sci : Bool) (p : Num) : Int × Num :=
  if sci = true then
    if dropP (· == 48) (Lib.trimPrefix e [43]) ≠ [] ∨ span1 (· == 48) (Lib.trimPrefix e [43]) = 0 then (4, p)
    else if 9 < span1 (· == 48) (Lib.trimPrefix e [43]) then (8, p)
    else (0, { p with ps := true, px := Lib.hasPrefix e [43], me := span1 (· == 48) (Lib.trimPrefix e [43]) })
  else (0, p)
def sp_rexp : ASpec := ⟨fun | [.one (.ptr 0 0)], [(0, some (.cells 139 [.str w, .str f, .str e, .bool pt, .bool sci, .nils, .nils, .ff, .nils, .nils, .int .i64 mi, .int .i64 xi, .int .i64 mf, .int .i64 xf, .int .i64 ms, .int .i64 xs, .int .i64 pr, .int .i64 sc, .str inc, .bool ps, .int .i64 me, .bool px, .int .i64 0, .int .i32 0, .int .i64 0]))] => some ([Asc e, e.length ≤ 1000000000], .one (.int .i64 (expT e sci (⟨mi, xi, mf, xf, ms, xs, pr, sc, inc, ps, me, px⟩ : Num)).1), [(0, some (.cells 139 (rdC w f e pt sci (expT e sci (⟨mi, xi, mf, xf, ms, xs, pr, sc, inc, ps, me, px⟩ : Num)).2)))]) | _, _ => none⟩
theorem vc_rexp (w f e : List UInt8) (pt sci : Bool) (mi xi mf xf ms xs pr sc : Int) (inc : List UInt8) (ps : Bool) (me : Int) (px : Bool) : vcA [(115, sp_scutp), (117, sp_one)] [(116, sp_spans1)] misc Tryz.f93 (.nil) [.one (.ptr 0 0)] [(0, some (.cells 139 [.str w, .str f, .str e, .bool pt, .bool sci, .nils, .nils, .ff, .nils, .nils, .int .i64 mi, .int .i64 xi, .int .i64 mf, .int .i64 xf, .int .i64 ms, .int .i64 xs, .int .i64 pr, .int .i64 sc, .str inc, .bool ps, .int .i64 me, .bool px, .int .i64 0, .int .i32 0, .int .i64 0]))] (.one (.int .i64 (expT e sci (⟨mi, xi, mf, xf, ms, xs, pr, sc, inc, ps, me, px⟩ : Num)).1)) [(0, some (.cells 139 (rdC w f e pt sci (expT e sci (⟨mi, xi, mf, xf, ms, xs, pr, sc, inc, ps, me, px⟩ : Num)).2)))] = (letI v0 := (expT e sci { mi := mi, xi := xi, mf := mf, xf := xf, ms := ms, xs := xs, pr := pr, sc := sc, inc := inc, ps := ps, me := me, px := px }); letI v1 := ((4 : Int) = v0.1 ∧ w = w ∧ f = f ∧ e = e ∧ pt = pt ∧ sci = sci ∧ mi = Num.mi v0.2 ∧ xi = Num.xi v0.2 ∧ mf = Num.mf v0.2 ∧ xf = Num.xf v0.2 ∧ ms = Num.ms v0.2 ∧ xs = Num.xs v0.2 ∧ pr = Num.pr v0.2 ∧ sc = Num.sc v0.2 ∧ inc = Num.inc v0.2 ∧ ps = Num.ps v0.2 ∧ me = Num.me v0.2 ∧ px = Num.px v0.2 ∧ (0 : Int) = (0 : Int) ∧ (0 : Int) = (0 : Int) ∧ (0 : Int) = (0 : Int)); letI v2 := (Lib.trimPrefix e (([(43 : UInt8)] : List UInt8))); letI v3 := ((0 : Int) ≤ (0 : Int) ∧ (0 : Int) < (↑(1 : Nat) : Int)); (br (!sci) ((0 : Int) = v0.1 ∧ w = w ∧ f = f ∧ e = e ∧ pt = pt ∧ sci = sci ∧ mi = Num.mi v0.2 ∧ xi = Num.xi v0.2 ∧ mf = Num.mf v0.2 ∧ xf = Num.xf v0.2 ∧ ms = Num.ms v0.2 ∧ xs = Num.xs v0.2 ∧ pr = Num.pr v0.2 ∧ sc = Num.sc v0.2 ∧ inc = Num.inc v0.2 ∧ ps = Num.ps v0.2 ∧ me = Num.me v0.2 ∧ px = Num.px v0.2 ∧ (0 : Int) = (0 : Int) ∧ (0 : Int) = (0 : Int) ∧ (0 : Int) = (0 : Int)) ((∀ (c : UInt8), c ∈ Lib.trimPrefix e (([(43 : UInt8)] : List UInt8)) → UInt8.toNat c < (128 : Nat)) ∧ List.length v2 ≤ (1000000000 : Nat) ∧ br (!decide (dropP (fun (x : Int) => x == (48 : Int)) v2 = [])) v1 (v3 ∧ Int.toNat (0 : Int) < (1 : Nat) ∧ br ((span1 (fun (x : Int) => x == (48 : Int)) v2) == (0 : Int)) v1 (v3 ∧ Int.toNat (0 : Int) < (1 : Nat) ∧ br (decide ((span1 (fun (x : Int) => x == (48 : Int)) v2) > (9 : Int))) ((8 : Int) = v0.1 ∧ w = w ∧ f = f ∧ e = e ∧ pt = pt ∧ sci = sci ∧ mi = Num.mi v0.2 ∧ xi = Num.xi v0.2 ∧ mf = Num.mf v0.2 ∧ xf = Num.xf v0.2 ∧ ms = Num.ms v0.2 ∧ xs = Num.xs v0.2 ∧ pr = Num.pr v0.2 ∧ sc = Num.sc v0.2 ∧ inc = Num.inc v0.2 ∧ ps = Num.ps v0.2 ∧ me = Num.me v0.2 ∧ px = Num.px v0.2 ∧ (0 : Int) = (0 : Int) ∧ (0 : Int) = (0 : Int) ∧ (0 : Int) = (0 : Int)) (v3 ∧ Int.toNat (0 : Int) < (1 : Nat) ∧ (0 : Int) = v0.1 ∧ w = w ∧ f = f ∧ e = e ∧ pt = pt ∧ sci = sci ∧ mi = Num.mi v0.2 ∧ xi = Num.xi v0.2 ∧ mf = Num.mf v0.2 ∧ xf = Num.xf v0.2 ∧ ms = Num.ms v0.2 ∧ xs = Num.xs v0.2 ∧ pr = Num.pr v0.2 ∧ sc = Num.sc v0.2 ∧ inc = Num.inc v0.2 ∧ true = Num.ps v0.2 ∧ (span1 (fun (x : Int) => x == (48 : Int)) v2) = Num.me v0.2 ∧ Lib.hasPrefix e (([(43 : UInt8)] : List UInt8)) = Num.px v0.2 ∧ (0 : Int) = (0 : Int) ∧ (0 : Int) = (0 : Int) ∧ (0 : Int) = (0 : Int))))))) := by kernel_rfl
set_option maxHeartbeats 4000000 in
theorem of_rexp (h : ∀ (w f e : List UInt8) (pt sci : Bool) (mi xi mf xf ms xs pr sc : Int) (inc : List UInt8) (ps : Bool) (me : Int) (px : Bool), (Asc e) → (e.length ≤ 1000000000) → vcA [(115, sp_scutp), (117, sp_one)] [(116, sp_spans1)] misc Tryz.f93 (.nil) [.one (.ptr 0 0)] [(0, some (.cells 139 [.str w, .str f, .str e, .bool pt, .bool sci, .nils, .nils, .ff, .nils, .nils, .int .i64 mi, .int .i64 xi, .int .i64 mf, .int .i64 xf, .int .i64 ms, .int .i64 xs, .int .i64 pr, .int .i64 sc, .str inc, .bool ps, .int .i64 me, .bool px, .int .i64 0, .int .i32 0, .int .i64 0]))] (.one (.int .i64 (expT e sci (⟨mi, xi, mf, xf, ms, xs, pr, sc, inc, ps, me, px⟩ : Num)).1)) [(0, some (.cells 139 (rdC w f e pt sci (expT e sci (⟨mi, xi, mf, xf, ms, xs, pr, sc, inc, ps, me, px⟩ : Num)).2)))]) : FnA 93 sp_rexp := by
  refine fnA_ok (cs := [(115, sp_scutp), (117, sp_one)]) (cas := [(116, sp_spans1)]) (ms := misc) (.cons ok_scutp (.cons ok_one .nil)) (.cons ok_spans1 .nil) misc_ok 93 Tryz.f93 (by kernel_rfl) (by kernel_rfl) (by kernel_rfl) (fun _ _ => .nil) ?_
  intro args mem p r post hs hp
  unfold sp_rexp at hs
  simp only at hs
  split at hs
  · rename_i w f e pt sci mi xi mf xf ms xs pr sc inc ps me px
    cases hs
    refine h w f e pt sci mi xi mf xf ms xs pr sc inc ps me px ?_ ?_
    · exact hp.1
    · exact hp.2
  · cases hs
theorem trimPrefix_asc {e p : List UInt8} (h : Asc e) : Asc (Lib.trimPrefix e p) := by
  unfold Lib.trimPrefix
  split
  · exact fun c hc => h c (List.mem_of_mem_drop hc)
  · exact h
theorem trimPrefix_len (e p : List UInt8) : (Lib.trimPrefix e p).length ≤ e.length := by
  unfold Lib.trimPrefix
  split
  · rw [List.length_drop]; omega
  · exact Nat.le_refl _
theorem ok_rexp : FnA 93 sp_rexp := of_rexp (by
  intro w f e pt sci mi xi mf xf ms xs pr sc inc ps me px he hn
  rw [vc_rexp]
  have hl := trimPrefix_len e [43]
  refine br_of (fun h => ?_) fun h => ⟨trimPrefix_asc he, by omega, br_of (fun h1 => ?_) fun h1 => ⟨by decide, by decide, br_of (fun h2 => ?_) fun h2 => ⟨by decide, by decide, br_of (fun h3 => ?_) fun h3 => ⟨by decide, by decide, ?_⟩⟩⟩⟩
  · have h : sci = false := by simpa using h
    have hE : expT e sci (⟨mi, xi, mf, xf, ms, xs, pr, sc, inc, ps, me, px⟩ : Num) = (0, (⟨mi, xi, mf, xf, ms, xs, pr, sc, inc, ps, me, px⟩ : Num)) := by unfold expT; rw [if_neg (by rw [h]; decide)]
    rw [hE]; and_intros <;> rfl
  · have h : sci = true := by simpa using h
    have h1 : dropP (· == 48) (Lib.trimPrefix e [43]) ≠ [] := by simpa using h1
    have hE : expT e sci (⟨mi, xi, mf, xf, ms, xs, pr, sc, inc, ps, me, px⟩ : Num) = (4, (⟨mi, xi, mf, xf, ms, xs, pr, sc, inc, ps, me, px⟩ : Num)) := by unfold expT; rw [if_pos h, if_pos (.inl h1)]
    rw [hE]; and_intros <;> rfl
  · have h : sci = true := by simpa using h
    have h2 : span1 (· == 48) (Lib.trimPrefix e [43]) = 0 := by simpa using h2
    have hE : expT e sci (⟨mi, xi, mf, xf, ms, xs, pr, sc, inc, ps, me, px⟩ : Num) = (4, (⟨mi, xi, mf, xf, ms, xs, pr, sc, inc, ps, me, px⟩ : Num)) := by unfold expT; rw [if_pos h, if_pos (.inr h2)]
    rw [hE]; and_intros <;> rfl
  · have h : sci = true := by simpa using h
    have h1 : dropP (· == 48) (Lib.trimPrefix e [43]) = [] := by simpa using h1
    have h2 : ¬ span1 (· == 48) (Lib.trimPrefix e [43]) = 0 := by simpa using h2
    have h3 : span1 (· == 48) (Lib.trimPrefix e [43]) > 9 := by simpa using h3
    have hE : expT e sci (⟨mi, xi, mf, xf, ms, xs, pr, sc, inc, ps, me, px⟩ : Num) = (8, (⟨mi, xi, mf, xf, ms, xs, pr, sc, inc, ps, me, px⟩ : Num)) := by unfold expT; rw [if_pos h, if_neg (fun h4 => h4.elim (fun h5 => h5 h1) h2), if_pos h3]
    rw [hE]; and_intros <;> rfl
  · have h : sci = true := by simpa using h
    have h1 : dropP (· == 48) (Lib.trimPrefix e [43]) = [] := by simpa using h1
    have h2 : ¬ span1 (· == 48) (Lib.trimPrefix e [43]) = 0 := by simpa using h2
    have h3 : ¬ 9 < span1 (· == 48) (Lib.trimPrefix e [43]) := by simpa using h3
    have hE : expT e sci (⟨mi, xi, mf, xf, ms, xs, pr, sc, inc, ps, me, px⟩ : Num) = (0, { (⟨mi, xi, mf, xf, ms, xs, pr, sc, inc, ps, me, px⟩ : Num) with ps := true, px := Lib.hasPrefix e [43], me := span1 (· == 48) (Lib.trimPrefix e [43]) }) := by unfold expT; rw [if_pos h, if_neg (fun h4 => h4.elim (fun h5 => h5 h1) h2), if_neg h3]
    rw [hE]; and_intros <;> rfl)
def partsT (s w f : List UInt8) (pt : Bool) : Int × List UInt8 × List UInt8 × Bool :=
  if anyP isOdd s = true ∨ 1 < Lib.countByte s 46 then (4, w, f, pt)
  else if (Lib.cut s [46]).2.2 = true ∧ (Lib.cut s [46]).2.1 = [] then (4, Lib.cut s [46]) else (0, Lib.cut s [46])
def sp_rparts : ASpec := ⟨fun | [.one (.ptr 0 0), .one (.str s)], [(0, some (.cells 139 [.str w, .str f, .str e, .bool pt, .bool sci, .nils, .nils, .ff, .nils, .nils, .int .i64 mi, .int .i64 xi, .int .i64 mf, .int .i64 xf, .int .i64 ms, .int .i64 xs, .int .i64 pr, .int .i64 sc, .str inc, .bool ps, .int .i64 me, .bool px, .int .i64 0, .int .i32 0, .int .i64 0]))] => some ([Asc s, s.length ≤ 1000000000], .one (.int .i64 (partsT s w f pt).1), [(0, some (.cells 139 (rdC (partsT s w f pt).2.1 (partsT s w f pt).2.2.1 e (partsT s w f pt).2.2.2 sci (⟨mi, xi, mf, xf, ms, xs, pr, sc, inc, ps, me, px⟩ : Num))))]) | _, _ => none⟩
theorem vc_rparts (w f e : List UInt8) (pt sci : Bool) (mi xi mf xf ms xs pr sc : Int) (inc : List UInt8) (ps : Bool) (me : Int) (px : Bool) (s : List UInt8) : vcA [(121, sp_scfO), (122, sp_scount), (92, sp_scut)] [] misc Tryz.f94 (.nil) [.one (.ptr 0 0), .one (.str s)] [(0, some (.cells 139 [.str w, .str f, .str e, .bool pt, .bool sci, .nils, .nils, .ff, .nils, .nils, .int .i64 mi, .int .i64 xi, .int .i64 mf, .int .i64 xf, .int .i64 ms, .int .i64 xs, .int .i64 pr, .int .i64 sc, .str inc, .bool ps, .int .i64 me, .bool px, .int .i64 0, .int .i32 0, .int .i64 0]))] (.one (.int .i64 (partsT s w f pt).1)) [(0, some (.cells 139 (rdC (partsT s w f pt).2.1 (partsT s w f pt).2.2.1 e (partsT s w f pt).2.2.2 sci (⟨mi, xi, mf, xf, ms, xs, pr, sc, inc, ps, me, px⟩ : Num))))] = (letI v0 := ((0 : Int) = (partsT s w f pt).1 ∧ (Lib.cut s (([(46 : UInt8)] : List UInt8))).1 = (partsT s w f pt).2.1 ∧ (Lib.cut s (([(46 : UInt8)] : List UInt8))).2.1 = (partsT s w f pt).2.2.1 ∧ e = e ∧ (Lib.cut s (([(46 : UInt8)] : List UInt8))).2.2 = (partsT s w f pt).2.2.2 ∧ sci = sci ∧ mi = Num.mi { mi := mi, xi := xi, mf := mf, xf := xf, ms := ms, xs := xs, pr := pr, sc := sc, inc := inc, ps := ps, me := me, px := px } ∧ xi = Num.xi { mi := mi, xi := xi, mf := mf, xf := xf, ms := ms, xs := xs, pr := pr, sc := sc, inc := inc, ps := ps, me := me, px := px } ∧ mf = Num.mf { mi := mi, xi := xi, mf := mf, xf := xf, ms := ms, xs := xs, pr := pr, sc := sc, inc := inc, ps := ps, me := me, px := px } ∧ xf = Num.xf { mi := mi, xi := xi, mf := mf, xf := xf, ms := ms, xs := xs, pr := pr, sc := sc, inc := inc, ps := ps, me := me, px := px } ∧ ms = Num.ms { mi := mi, xi := xi, mf := mf, xf := xf, ms := ms, xs := xs, pr := pr, sc := sc, inc := inc, ps := ps, me := me, px := px } ∧ xs = Num.xs { mi := mi, xi := xi, mf := mf, xf := xf, ms := ms, xs := xs, pr := pr, sc := sc, inc := inc, ps := ps, me := me, px := px } ∧ pr = Num.pr { mi := mi, xi := xi, mf := mf, xf := xf, ms := ms, xs := xs, pr := pr, sc := sc, inc := inc, ps := ps, me := me, px := px } ∧ sc = Num.sc { mi := mi, xi := xi, mf := mf, xf := xf, ms := ms, xs := xs, pr := pr, sc := sc, inc := inc, ps := ps, me := me, px := px } ∧ inc = Num.inc { mi := mi, xi := xi, mf := mf, xf := xf, ms := ms, xs := xs, pr := pr, sc := sc, inc := inc, ps := ps, me := me, px := px } ∧ ps = Num.ps { mi := mi, xi := xi, mf := mf, xf := xf, ms := ms, xs := xs, pr := pr, sc := sc, inc := inc, ps := ps, me := me, px := px } ∧ me = Num.me { mi := mi, xi := xi, mf := mf, xf := xf, ms := ms, xs := xs, pr := pr, sc := sc, inc := inc, ps := ps, me := me, px := px } ∧ px = Num.px { mi := mi, xi := xi, mf := mf, xf := xf, ms := ms, xs := xs, pr := pr, sc := sc, inc := inc, ps := ps, me := me, px := px } ∧ (0 : Int) = (0 : Int) ∧ (0 : Int) = (0 : Int) ∧ (0 : Int) = (0 : Int)); letI v1 := ((4 : Int) = (partsT s w f pt).1 ∧ w = (partsT s w f pt).2.1 ∧ f = (partsT s w f pt).2.2.1 ∧ e = e ∧ pt = (partsT s w f pt).2.2.2 ∧ sci = sci ∧ mi = Num.mi { mi := mi, xi := xi, mf := mf, xf := xf, ms := ms, xs := xs, pr := pr, sc := sc, inc := inc, ps := ps, me := me, px := px } ∧ xi = Num.xi { mi := mi, xi := xi, mf := mf, xf := xf, ms := ms, xs := xs, pr := pr, sc := sc, inc := inc, ps := ps, me := me, px := px } ∧ mf = Num.mf { mi := mi, xi := xi, mf := mf, xf := xf, ms := ms, xs := xs, pr := pr, sc := sc, inc := inc, ps := ps, me := me, px := px } ∧ xf = Num.xf { mi := mi, xi := xi, mf := mf, xf := xf, ms := ms, xs := xs, pr := pr, sc := sc, inc := inc, ps := ps, me := me, px := px } ∧ ms = Num.ms { mi := mi, xi := xi, mf := mf, xf := xf, ms := ms, xs := xs, pr := pr, sc := sc, inc := inc, ps := ps, me := me, px := px } ∧ xs = Num.xs { mi := mi, xi := xi, mf := mf, xf := xf, ms := ms, xs := xs, pr := pr, sc := sc, inc := inc, ps := ps, me := me, px := px } ∧ pr = Num.pr { mi := mi, xi := xi, mf := mf, xf := xf, ms := ms, xs := xs, pr := pr, sc := sc, inc := inc, ps := ps, me := me, px := px } ∧ sc = Num.sc { mi := mi, xi := xi, mf := mf, xf := xf, ms := ms, xs := xs, pr := pr, sc := sc, inc := inc, ps := ps, me := me, px := px } ∧ inc = Num.inc { mi := mi, xi := xi, mf := mf, xf := xf, ms := ms, xs := xs, pr := pr, sc := sc, inc := inc, ps := ps, me := me, px := px } ∧ ps = Num.ps { mi := mi, xi := xi, mf := mf, xf := xf, ms := ms, xs := xs, pr := pr, sc := sc, inc := inc, ps := ps, me := me, px := px } ∧ me = Num.me { mi := mi, xi := xi, mf := mf, xf := xf, ms := ms, xs := xs, pr := pr, sc := sc, inc := inc, ps := ps, me := me, px := px } ∧ px = Num.px { mi := mi, xi := xi, mf := mf, xf := xf, ms := ms, xs := xs, pr := pr, sc := sc, inc := inc, ps := ps, me := me, px := px } ∧ (0 : Int) = (0 : Int) ∧ (0 : Int) = (0 : Int) ∧ (0 : Int) = (0 : Int)); letI v2 := (Lib.cut s (([(46 : UInt8)] : List UInt8))); ((∀ (c : UInt8), c ∈ s → UInt8.toNat c < (128 : Nat)) ∧ List.length s ≤ (1000000000 : Nat) ∧ br (anyP isOdd s) v1 (br (decide ((↑(Lib.countByte s (46 : UInt8)) : Int) > (1 : Int))) v1 (List.length s ≤ (1000000000 : Nat) ∧ br v2.2.2 (br (decide (v2.2.1 = ([] : List UInt8))) ((4 : Int) = (partsT s w f pt).1 ∧ v2.1 = (partsT s w f pt).2.1 ∧ v2.2.1 = (partsT s w f pt).2.2.1 ∧ e = e ∧ v2.2.2 = (partsT s w f pt).2.2.2 ∧ sci = sci ∧ mi = Num.mi { mi := mi, xi := xi, mf := mf, xf := xf, ms := ms, xs := xs, pr := pr, sc := sc, inc := inc, ps := ps, me := me, px := px } ∧ xi = Num.xi { mi := mi, xi := xi, mf := mf, xf := xf, ms := ms, xs := xs, pr := pr, sc := sc, inc := inc, ps := ps, me := me, px := px } ∧ mf = Num.mf { mi := mi, xi := xi, mf := mf, xf := xf, ms := ms, xs := xs, pr := pr, sc := sc, inc := inc, ps := ps, me := me, px := px } ∧ xf = Num.xf { mi := mi, xi := xi, mf := mf, xf := xf, ms := ms, xs := xs, pr := pr, sc := sc, inc := inc, ps := ps, me := me, px := px } ∧ ms = Num.ms { mi := mi, xi := xi, mf := mf, xf := xf, ms := ms, xs := xs, pr := pr, sc := sc, inc := inc, ps := ps, me := me, px := px } ∧ xs = Num.xs { mi := mi, xi := xi, mf := mf, xf := xf, ms := ms, xs := xs, pr := pr, sc := sc, inc := inc, ps := ps, me := me, px := px } ∧ pr = Num.pr { mi := mi, xi := xi, mf := mf, xf := xf, ms := ms, xs := xs, pr := pr, sc := sc, inc := inc, ps := ps, me := me, px := px } ∧ sc = Num.sc { mi := mi, xi := xi, mf := mf, xf := xf, ms := ms, xs := xs, pr := pr, sc := sc, inc := inc, ps := ps, me := me, px := px } ∧ inc = Num.inc { mi := mi, xi := xi, mf := mf, xf := xf, ms := ms, xs := xs, pr := pr, sc := sc, inc := inc, ps := ps, me := me, px := px } ∧ ps = Num.ps { mi := mi, xi := xi, mf := mf, xf := xf, ms := ms, xs := xs, pr := pr, sc := sc, inc := inc, ps := ps, me := me, px := px } ∧ me = Num.me { mi := mi, xi := xi, mf := mf, xf := xf, ms := ms, xs := xs, pr := pr, sc := sc, inc := inc, ps := ps, me := me, px := px } ∧ px = Num.px { mi := mi, xi := xi, mf := mf, xf := xf, ms := ms, xs := xs, pr := pr, sc := sc, inc := inc, ps := ps, me := me, px := px } ∧ (0 : Int) = (0 : Int) ∧ (0 : Int) = (0 : Int) ∧ (0 : Int) = (0 : Int)) v0) v0)))) := by kernel_rfl
set_option maxHeartbeats 4000000 in
theorem of_rparts (h : ∀ (w f e : List UInt8) (pt sci : Bool) (mi xi mf xf ms xs pr sc : Int) (inc : List UInt8) (ps : Bool) (me : Int) (px : Bool) (s : List UInt8), (Asc s) → (s.length ≤ 1000000000) → vcA [(121, sp_scfO), (122, sp_scount), (92, sp_scut)] [] misc Tryz.f94 (.nil) [.one (.ptr 0 0), .one (.str s)] [(0, some (.cells 139 [.str w, .str f, .str e, .bool pt, .bool sci, .nils, .nils, .ff, .nils, .nils, .int .i64 mi, .int .i64 xi, .int .i64 mf, .int .i64 xf, .int .i64 ms, .int .i64 xs, .int .i64 pr, .int .i64 sc, .str inc, .bool ps, .int .i64 me, .bool px, .int .i64 0, .int .i32 0, .int .i64 0]))] (.one (.int .i64 (partsT s w f pt).1)) [(0, some (.cells 139 (rdC (partsT s w f pt).2.1 (partsT s w f pt).2.2.1 e (partsT s w f pt).2.2.2 sci (⟨mi, xi, mf, xf, ms, xs, pr, sc, inc, ps, me, px⟩ : Num))))]) : FnA 94 sp_rparts := by
  refine fnA_ok (cs := [(121, sp_scfO), (122, sp_scount), (92, sp_scut)]) (cas := []) (ms := misc) (.cons ok_scfO (.cons ok_scount (.cons ok_scut .nil))) .nil misc_ok 94 Tryz.f94 (by kernel_rfl) (by kernel_rfl) (by kernel_rfl) (fun _ _ => .nil) ?_
  intro args mem p r post hs hp
  unfold sp_rparts at hs
  simp only at hs
  split at hs
  · rename_i s w f e pt sci mi xi mf xf ms xs pr sc inc ps me px
    cases hs
    refine h w f e pt sci mi xi mf xf ms xs pr sc inc ps me px s ?_ ?_
    · exact hp.1
    · exact hp.2
  · cases hs
theorem ok_rparts : FnA 94 sp_rparts := of_rparts (by
  intro w f e pt sci mi xi mf xf ms xs pr sc inc ps me px s hs hn
  rw [vc_rparts]
  refine ⟨hs, hn, br_of (fun h => ?_) fun h => br_of (fun h1 => ?_) fun h1 => ⟨hn, br_of (fun h2 => br_of (fun h3 => ?_) fun h3 => ?_) fun h2 => ?_⟩⟩
  · have hE : partsT s w f pt = (4, w, f, pt) := by unfold partsT; rw [if_pos (.inl h)]
    rw [hE]; and_intros <;> rfl
  · have h1 : 1 < Lib.countByte s 46 := by have := of_decide_eq_true h1; omega
    have hE : partsT s w f pt = (4, w, f, pt) := by unfold partsT; rw [if_pos (.inr h1)]
    rw [hE]; and_intros <;> rfl
  · have h1 : ¬ 1 < Lib.countByte s 46 := by have := of_decide_eq_false h1; omega
    have hE : partsT s w f pt = (4, Lib.cut s [46]) := by unfold partsT; rw [if_neg (fun h4 => h4.elim (fun h5 => by rw [h] at h5; cases h5) h1), if_pos ⟨h2, of_decide_eq_true h3⟩]
    rw [hE]; and_intros <;> rfl
  · have h1 : ¬ 1 < Lib.countByte s 46 := by have := of_decide_eq_false h1; omega
    have hE : partsT s w f pt = (0, Lib.cut s [46]) := by unfold partsT; rw [if_neg (fun h4 => h4.elim (fun h5 => by rw [h] at h5; cases h5) h1), if_neg (fun h4 => of_decide_eq_false h3 h4.2)]
    rw [hE]; and_intros <;> rfl
  · have h1 : ¬ 1 < Lib.countByte s 46 := by have := of_decide_eq_false h1; omega
    have hE : partsT s w f pt = (0, Lib.cut s [46]) := by unfold partsT; rw [if_neg (fun h4 => h4.elim (fun h5 => by rw [h] at h5; cases h5) h1), if_neg (fun h4 => by have := h4.1; rw [h2] at this; cases this)]
    rw [hE]; and_intros <;> rfl)
def emptyIn (l : List (List UInt8)) : Bool := decide (1 < l.length) && l.any fun t => decide (t = [])
def groupsT (w f : List UInt8) (p : Num) : Int × List UInt8 × Num :=
  if emptyIn (splitC 44 w) = true then (5, w, p)
  else if 0 ≤ Lib.indexByte f 44 then (5, w, p)
  else (0, (splitC 44 w).flatten, if 1 < (splitC 44 w).length then { p with pr := ((splitC 44 w).getD ((splitC 44 w).length - 1) []).length, sc := if 2 < (splitC 44 w).length then ((splitC 44 w).getD ((splitC 44 w).length - 2) []).length else ((splitC 44 w).getD ((splitC 44 w).length - 1) []).length } else p)
def GE (w : List UInt8) : Type := {i : Nat // i ≤ (splitC 44 w).length ∧ (1 < (splitC 44 w).length → ∀ t ∈ (splitC 44 w).take i, t ≠ [])}
def GE.next {w : List UInt8} (x : GE w) (h : x.1 < (splitC 44 w).length) (hx : 1 < (splitC 44 w).length → (splitC 44 w).getD x.1 [] ≠ []) : GE w := ⟨x.1 + 1, h, fun h1 t ht => by
  rw [take_next _ [] h] at ht
  rcases List.mem_append.1 ht with ht | ht
  · exact x.2.2 h1 t ht
  · rw [List.mem_singleton] at ht; rw [ht]; exact hx h1⟩
def sp_rgroups : ASpec := ⟨fun | [.one (.ptr 0 0)], [(0, some (.cells 139 [.str w, .str f, .str e, .bool pt, .bool sci, .nils, .nils, .ff, .nils, .nils, .int .i64 mi, .int .i64 xi, .int .i64 mf, .int .i64 xf, .int .i64 ms, .int .i64 xs, .int .i64 pr, .int .i64 sc, .str inc, .bool ps, .int .i64 me, .bool px, .int .i64 0, .int .i32 0, .int .i64 0]))] => some ([w.length ≤ 100000000], .one (.int .i64 (groupsT w f (⟨mi, xi, mf, xf, ms, xs, pr, sc, inc, ps, me, px⟩ : Num)).1), [(0, some (.cells 139 (rdC (groupsT w f (⟨mi, xi, mf, xf, ms, xs, pr, sc, inc, ps, me, px⟩ : Num)).2.1 f e pt sci (groupsT w f (⟨mi, xi, mf, xf, ms, xs, pr, sc, inc, ps, me, px⟩ : Num)).2.2)))]) | _, _ => none⟩
theorem vc_rgroups (w f e : List UInt8) (pt sci : Bool) (mi xi mf xf ms xs pr sc : Int) (inc : List UInt8) (ps : Bool) (me : Int) (px : Bool) : vcA [(123, sp_ssplit), (124, sp_scont), (125, sp_sjoin)] [] misc Tryz.f95 (.loop 3 (GE w) (fun x => ⟨[(0, .one (.ptr 0 0)), (3, .one (.slc 17)), (12, .one (.slc 17)), (13, .one (.int .i64 (splitC 44 w).length)), (14, .one (.int .i64 x.1))], [(0, some (.cells 139 [.str w, .str f, .str e, .bool pt, .bool sci, .nils, .nils, .ff, .nils, .nils, .int .i64 mi, .int .i64 xi, .int .i64 mf, .int .i64 xf, .int .i64 ms, .int .i64 xs, .int .i64 pr, .int .i64 sc, .str inc, .bool ps, .int .i64 me, .bool px, .int .i64 0, .int .i32 0, .int .i64 0])), (17, some (.read (.strs (splitC 44 w))))], 18⟩) (fun x => (splitC 44 w).length - x.1) (fun _ => .nil) .nil) [.one (.ptr 0 0)] [(0, some (.cells 139 [.str w, .str f, .str e, .bool pt, .bool sci, .nils, .nils, .ff, .nils, .nils, .int .i64 mi, .int .i64 xi, .int .i64 mf, .int .i64 xf, .int .i64 ms, .int .i64 xs, .int .i64 pr, .int .i64 sc, .str inc, .bool ps, .int .i64 me, .bool px, .int .i64 0, .int .i32 0, .int .i64 0]))] (.one (.int .i64 (groupsT w f (⟨mi, xi, mf, xf, ms, xs, pr, sc, inc, ps, me, px⟩ : Num)).1)) [(0, some (.cells 139 (rdC (groupsT w f (⟨mi, xi, mf, xf, ms, xs, pr, sc, inc, ps, me, px⟩ : Num)).2.1 f e pt sci (groupsT w f (⟨mi, xi, mf, xf, ms, xs, pr, sc, inc, ps, me, px⟩ : Num)).2.2)))] = (letI v0 := (groupsT w f { mi := mi, xi := xi, mf := mf, xf := xf, ms := ms, xs := xs, pr := pr, sc := sc, inc := inc, ps := ps, me := me, px := px }); letI v1 := (↑(List.length (splitC (44 : UInt8) w)) : Int); letI v2 := (w = w ∧ f = f ∧ e = e ∧ pt = pt ∧ sci = sci ∧ mi = mi ∧ xi = xi ∧ mf = mf ∧ xf = xf ∧ ms = ms ∧ xs = xs ∧ pr = pr ∧ sc = sc ∧ inc = inc ∧ ps = ps ∧ me = me ∧ px = px ∧ (0 : Int) = (0 : Int) ∧ (0 : Int) = (0 : Int) ∧ (0 : Int) = (0 : Int)); letI v3 := ((5 : Int) = v0.1 ∧ w = v0.2.1 ∧ f = f ∧ e = e ∧ pt = pt ∧ sci = sci ∧ mi = Num.mi v0.2.2 ∧ xi = Num.xi v0.2.2 ∧ mf = Num.mf v0.2.2 ∧ xf = Num.xf v0.2.2 ∧ ms = Num.ms v0.2.2 ∧ xs = Num.xs v0.2.2 ∧ pr = Num.pr v0.2.2 ∧ sc = Num.sc v0.2.2 ∧ inc = Num.inc v0.2.2 ∧ ps = Num.ps v0.2.2 ∧ me = Num.me v0.2.2 ∧ px = Num.px v0.2.2 ∧ (0 : Int) = (0 : Int) ∧ (0 : Int) = (0 : Int) ∧ (0 : Int) = (0 : Int)); letI v4 := (List.length (splitC (44 : UInt8) w) ≤ (1000000000 : Nat) ∧ List.length (List.flatten (splitC (44 : UInt8) w)) ≤ (1000000000 : Nat)); letI v5 := (↑(List.length (List.getD (splitC (44 : UInt8) w) (Int.toNat (v1 - (1 : Int))) [])) : Int); (List.length w ≤ (1000000000 : Nat) ∧ (∃ (x : GE w), v1 = v1 ∧ (0 : Int) = (↑(Subtype.val x) : Int) ∧ v2 ∧ splitC (44 : UInt8) w = splitC (44 : UInt8) w) ∧ ∀ (x : GE w), br (decide ((↑(Subtype.val x) : Int) < v1)) (((0 : Int) ≤ (↑(Subtype.val x) : Int) ∧ (↑(Subtype.val x) : Int) < v1) ∧ Int.toNat (↑(Subtype.val x) : Int) < List.length (splitC (44 : UInt8) w) ∧ br (decide (List.getD (splitC (44 : UInt8) w) (Int.toNat (↑(Subtype.val x) : Int)) [] = ([] : List UInt8))) (br (decide (v1 > (1 : Int))) v3 (inR IntKind.i64 ((↑(Subtype.val x) : Int) + (1 : Int)) ∧ ∃ (x' : GE w), (v1 = v1 ∧ (↑(Subtype.val x) : Int) + (1 : Int) = (↑(Subtype.val x') : Int) ∧ v2 ∧ splitC (44 : UInt8) w = splitC (44 : UInt8) w) ∧ List.length (splitC (44 : UInt8) w) - Subtype.val x' < List.length (splitC (44 : UInt8) w) - Subtype.val x)) (inR IntKind.i64 ((↑(Subtype.val x) : Int) + (1 : Int)) ∧ ∃ (x' : GE w), (v1 = v1 ∧ (↑(Subtype.val x) : Int) + (1 : Int) = (↑(Subtype.val x') : Int) ∧ v2 ∧ splitC (44 : UInt8) w = splitC (44 : UInt8) w) ∧ List.length (splitC (44 : UInt8) w) - Subtype.val x' < List.length (splitC (44 : UInt8) w) - Subtype.val x)) (br (decide ((0 : Int) ≤ Lib.indexByte f (44 : UInt8))) v3 (br (decide (v1 > (1 : Int))) (inR IntKind.i64 (v1 - (1 : Int)) ∧ ((0 : Int) ≤ v1 - (1 : Int) ∧ v1 - (1 : Int) < v1) ∧ Int.toNat (v1 - (1 : Int)) < List.length (splitC (44 : UInt8) w) ∧ br (decide (v1 > (2 : Int))) (inR IntKind.i64 (v1 - (2 : Int)) ∧ ((0 : Int) ≤ v1 - (2 : Int) ∧ v1 - (2 : Int) < v1) ∧ Int.toNat (v1 - (2 : Int)) < List.length (splitC (44 : UInt8) w) ∧ v4 ∧ (0 : Int) = v0.1 ∧ List.flatten (splitC (44 : UInt8) w) = v0.2.1 ∧ f = f ∧ e = e ∧ pt = pt ∧ sci = sci ∧ mi = Num.mi v0.2.2 ∧ xi = Num.xi v0.2.2 ∧ mf = Num.mf v0.2.2 ∧ xf = Num.xf v0.2.2 ∧ ms = Num.ms v0.2.2 ∧ xs = Num.xs v0.2.2 ∧ v5 = Num.pr v0.2.2 ∧ (↑(List.length (List.getD (splitC (44 : UInt8) w) (Int.toNat (v1 - (2 : Int))) [])) : Int) = Num.sc v0.2.2 ∧ inc = Num.inc v0.2.2 ∧ ps = Num.ps v0.2.2 ∧ me = Num.me v0.2.2 ∧ px = Num.px v0.2.2 ∧ (0 : Int) = (0 : Int) ∧ (0 : Int) = (0 : Int) ∧ (0 : Int) = (0 : Int)) (v4 ∧ (0 : Int) = v0.1 ∧ List.flatten (splitC (44 : UInt8) w) = v0.2.1 ∧ f = f ∧ e = e ∧ pt = pt ∧ sci = sci ∧ mi = Num.mi v0.2.2 ∧ xi = Num.xi v0.2.2 ∧ mf = Num.mf v0.2.2 ∧ xf = Num.xf v0.2.2 ∧ ms = Num.ms v0.2.2 ∧ xs = Num.xs v0.2.2 ∧ v5 = Num.pr v0.2.2 ∧ v5 = Num.sc v0.2.2 ∧ inc = Num.inc v0.2.2 ∧ ps = Num.ps v0.2.2 ∧ me = Num.me v0.2.2 ∧ px = Num.px v0.2.2 ∧ (0 : Int) = (0 : Int) ∧ (0 : Int) = (0 : Int) ∧ (0 : Int) = (0 : Int))) (v4 ∧ (0 : Int) = v0.1 ∧ List.flatten (splitC (44 : UInt8) w) = v0.2.1 ∧ f = f ∧ e = e ∧ pt = pt ∧ sci = sci ∧ mi = Num.mi v0.2.2 ∧ xi = Num.xi v0.2.2 ∧ mf = Num.mf v0.2.2 ∧ xf = Num.xf v0.2.2 ∧ ms = Num.ms v0.2.2 ∧ xs = Num.xs v0.2.2 ∧ pr = Num.pr v0.2.2 ∧ sc = Num.sc v0.2.2 ∧ inc = Num.inc v0.2.2 ∧ ps = Num.ps v0.2.2 ∧ me = Num.me v0.2.2 ∧ px = Num.px v0.2.2 ∧ (0 : Int) = (0 : Int) ∧ (0 : Int) = (0 : Int) ∧ (0 : Int) = (0 : Int)))))) := by kernel_rfl
set_option maxHeartbeats 4000000 in
theorem of_rgroups (h : ∀ (w f e : List UInt8) (pt sci : Bool) (mi xi mf xf ms xs pr sc : Int) (inc : List UInt8) (ps : Bool) (me : Int) (px : Bool), (w.length ≤ 100000000) → vcA [(123, sp_ssplit), (124, sp_scont), (125, sp_sjoin)] [] misc Tryz.f95 (.loop 3 (GE w) (fun x => ⟨[(0, .one (.ptr 0 0)), (3, .one (.slc 17)), (12, .one (.slc 17)), (13, .one (.int .i64 (splitC 44 w).length)), (14, .one (.int .i64 x.1))], [(0, some (.cells 139 [.str w, .str f, .str e, .bool pt, .bool sci, .nils, .nils, .ff, .nils, .nils, .int .i64 mi, .int .i64 xi, .int .i64 mf, .int .i64 xf, .int .i64 ms, .int .i64 xs, .int .i64 pr, .int .i64 sc, .str inc, .bool ps, .int .i64 me, .bool px, .int .i64 0, .int .i32 0, .int .i64 0])), (17, some (.read (.strs (splitC 44 w))))], 18⟩) (fun x => (splitC 44 w).length - x.1) (fun _ => .nil) .nil) [.one (.ptr 0 0)] [(0, some (.cells 139 [.str w, .str f, .str e, .bool pt, .bool sci, .nils, .nils, .ff, .nils, .nils, .int .i64 mi, .int .i64 xi, .int .i64 mf, .int .i64 xf, .int .i64 ms, .int .i64 xs, .int .i64 pr, .int .i64 sc, .str inc, .bool ps, .int .i64 me, .bool px, .int .i64 0, .int .i32 0, .int .i64 0]))] (.one (.int .i64 (groupsT w f (⟨mi, xi, mf, xf, ms, xs, pr, sc, inc, ps, me, px⟩ : Num)).1)) [(0, some (.cells 139 (rdC (groupsT w f (⟨mi, xi, mf, xf, ms, xs, pr, sc, inc, ps, me, px⟩ : Num)).2.1 f e pt sci (groupsT w f (⟨mi, xi, mf, xf, ms, xs, pr, sc, inc, ps, me, px⟩ : Num)).2.2)))]) : FnA 95 sp_rgroups := by
  refine fnA_ok (cs := [(123, sp_ssplit), (124, sp_scont), (125, sp_sjoin)]) (cas := []) (ms := misc) (.cons ok_ssplit (.cons ok_scont (.cons ok_sjoin .nil))) .nil misc_ok 95 Tryz.f95 (by kernel_rfl) (by kernel_rfl) (by kernel_rfl) (fun | [.one (.ptr 0 0)], [(0, some (.cells 139 [.str w, .str f, .str e, .bool pt, .bool sci, .nils, .nils, .ff, .nils, .nils, .int .i64 mi, .int .i64 xi, .int .i64 mf, .int .i64 xf, .int .i64 ms, .int .i64 xs, .int .i64 pr, .int .i64 sc, .str inc, .bool ps, .int .i64 me, .bool px, .int .i64 0, .int .i32 0, .int .i64 0]))] => .loop 3 (GE w) (fun x => ⟨[(0, .one (.ptr 0 0)), (3, .one (.slc 17)), (12, .one (.slc 17)), (13, .one (.int .i64 (splitC 44 w).length)), (14, .one (.int .i64 x.1))], [(0, some (.cells 139 [.str w, .str f, .str e, .bool pt, .bool sci, .nils, .nils, .ff, .nils, .nils, .int .i64 mi, .int .i64 xi, .int .i64 mf, .int .i64 xf, .int .i64 ms, .int .i64 xs, .int .i64 pr, .int .i64 sc, .str inc, .bool ps, .int .i64 me, .bool px, .int .i64 0, .int .i32 0, .int .i64 0])), (17, some (.read (.strs (splitC 44 w))))], 18⟩) (fun x => (splitC 44 w).length - x.1) (fun _ => .nil) .nil | _, _ => .nil) ?_
  intro args mem p r post hs hp
  unfold sp_rgroups at hs
  simp only at hs
  split at hs
  · rename_i w f e pt sci mi xi mf xf ms xs pr sc inc ps me px
    cases hs
    refine h w f e pt sci mi xi mf xf ms xs pr sc inc ps me px ?_
    · exact hp
  · cases hs
theorem splitC_flat (c : UInt8) (l : List UInt8) : (splitC c l).flatten.length ≤ l.length := by
  induction l with
  | nil => simp [splitC]
  | cons x l ih =>
    unfold splitC
    split
    · simp; simp at ih; omega
    · have hne := splitC_ne c l
      cases hs : splitC c l with
      | nil => exact absurd hs hne
      | cons h t => rw [hs] at ih; simp at ih ⊢; omega
theorem ok_rgroups : FnA 95 sp_rgroups := of_rgroups (by
  intro w f e pt sci mi xi mf xf ms xs pr sc inc ps me px hw
  rw [vc_rgroups]
  have hl := splitC_len 44 w
  have hc := List.count_le_length (a := 44) (l := w)
  have hfl := splitC_flat 44 w
  refine ⟨by omega, ⟨⟨0, Nat.zero_le _, fun _ t ht => (by cases ht)⟩, by and_intros <;> rfl⟩, fun x => br_of (fun h => ?_) fun h => ?_⟩
  · have h : x.1 < (splitC 44 w).length := by simpa using h
    rw [Int.toNat_natCast]
    have hin : inR .i64 ((x.1 : Int) + 1) := by simp only [inR]; omega
    have hμ : ∀ hx, (splitC 44 w).length - (x.next h hx).1 < (splitC 44 w).length - x.1 := fun hx => by show (splitC 44 w).length - (x.1 + 1) < _; omega
    refine ⟨⟨by omega, by omega⟩, h, br_of (fun h1 => br_of (fun h2 => ?_) fun h2 => ?_) fun h1 => ⟨hin, x.next h (fun _ => of_decide_eq_false h1), by and_intros <;> rfl, hμ _⟩⟩
    · have h2 : 1 < (splitC 44 w).length := by have := of_decide_eq_true h2; omega
      have hem : emptyIn (splitC 44 w) = true := by
        unfold emptyIn
        rw [decide_eq_true h2, Bool.true_and, List.any_eq_true]
        exact ⟨_, getD_mem' (d := []) h, h1⟩
      have hE : groupsT w f (⟨mi, xi, mf, xf, ms, xs, pr, sc, inc, ps, me, px⟩ : Num) = (5, w, (⟨mi, xi, mf, xf, ms, xs, pr, sc, inc, ps, me, px⟩ : Num)) := by unfold groupsT; rw [if_pos hem]
      rw [hE]; and_intros <;> rfl
    · exact ⟨hin, x.next h (fun h3 => absurd h3 (by have := of_decide_eq_false h2; omega)), by and_intros <;> rfl, hμ _⟩
  · have h : ¬ x.1 < (splitC 44 w).length := by simpa using h
    have hem : ¬ emptyIn (splitC 44 w) = true := by
      unfold emptyIn
      intro hh
      rw [Bool.and_eq_true, List.any_eq_true] at hh
      obtain ⟨h1, t, ht, h2⟩ := hh
      have h3 := x.2.2 (of_decide_eq_true h1) t
      rw [List.take_of_length_le (by omega)] at h3
      exact h3 ht (of_decide_eq_true h2)
    refine br_of (fun h1 => ?_) fun h1 => br_of (fun h2 => ?_) fun h2 => ?_
    · have hE : groupsT w f (⟨mi, xi, mf, xf, ms, xs, pr, sc, inc, ps, me, px⟩ : Num) = (5, w, (⟨mi, xi, mf, xf, ms, xs, pr, sc, inc, ps, me, px⟩ : Num)) := by unfold groupsT; rw [if_neg hem, if_pos (of_decide_eq_true h1)]
      rw [hE]; and_intros <;> rfl
    · have h2 : 1 < (splitC 44 w).length := by have := of_decide_eq_true h2; omega
      have e1 : (((splitC 44 w).length : Int) - 1).toNat = (splitC 44 w).length - 1 := by omega
      have e2 : (((splitC 44 w).length : Int) - 2).toNat = (splitC 44 w).length - 2 := by omega
      rw [e1, e2]
      refine ⟨by simp only [inR]; omega, ⟨by omega, by omega⟩, by omega, br_of (fun h3 => ⟨by simp only [inR]; omega, ⟨by have := of_decide_eq_true h3; omega, by omega⟩, by omega, ⟨by omega, by omega⟩, ?_⟩) fun h3 => ⟨⟨by omega, by omega⟩, ?_⟩⟩
      · have h3 : 2 < (splitC 44 w).length := by have := of_decide_eq_true h3; omega
        have hE : groupsT w f (⟨mi, xi, mf, xf, ms, xs, pr, sc, inc, ps, me, px⟩ : Num) = (0, (splitC 44 w).flatten, { (⟨mi, xi, mf, xf, ms, xs, pr, sc, inc, ps, me, px⟩ : Num) with pr := ((splitC 44 w).getD ((splitC 44 w).length - 1) []).length, sc := ((splitC 44 w).getD ((splitC 44 w).length - 2) []).length }) := by
          unfold groupsT; rw [if_neg hem, if_neg (of_decide_eq_false h1), if_pos h2, if_pos h3]
        rw [hE]; and_intros <;> rfl
      · have h3 : ¬ 2 < (splitC 44 w).length := by have := of_decide_eq_false h3; omega
        have hE : groupsT w f (⟨mi, xi, mf, xf, ms, xs, pr, sc, inc, ps, me, px⟩ : Num) = (0, (splitC 44 w).flatten, { (⟨mi, xi, mf, xf, ms, xs, pr, sc, inc, ps, me, px⟩ : Num) with pr := ((splitC 44 w).getD ((splitC 44 w).length - 1) []).length, sc := ((splitC 44 w).getD ((splitC 44 w).length - 1) []).length }) := by
          unfold groupsT; rw [if_neg hem, if_neg (of_decide_eq_false h1), if_pos h2, if_neg h3]
        rw [hE]; and_intros <;> rfl
    · have h2 : ¬ 1 < (splitC 44 w).length := by have := of_decide_eq_false h2; omega
      have hE : groupsT w f (⟨mi, xi, mf, xf, ms, xs, pr, sc, inc, ps, me, px⟩ : Num) = (0, (splitC 44 w).flatten, (⟨mi, xi, mf, xf, ms, xs, pr, sc, inc, ps, me, px⟩ : Num)) := by
        unfold groupsT; rw [if_neg hem, if_neg (of_decide_eq_false h1), if_neg h2]
      rw [hE]
      refine ⟨⟨by omega, by omega⟩, ?_⟩
      and_intros <;> rfl)
end Go.Proofs.YtglfkihckkjniaaGreatDoor.Vx
