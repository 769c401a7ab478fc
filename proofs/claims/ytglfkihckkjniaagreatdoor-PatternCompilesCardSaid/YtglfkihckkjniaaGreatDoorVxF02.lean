/-
VX, functions 2: texts as code points. No statement of the seat is proved here.
-/
import Derived.Test.YtglfkihckkjniaaGreatDoorVxF01
import Derived.Test.YtglfkihckkjniaaGreatDoorVxShelf
set_option maxRecDepth 100000
set_option linter.unusedVariables false
set_option linter.unusedSimpArgs false
namespace Go.Proofs.YtglfkihckkjniaaGreatDoor.Vx
open Go Go.RowKit

/-! ### the library's contracts, as these -/
theorem body_of {k : Nat} (fn : Func) (hf : Tryz.prog.funcs[k]? = some fn) (hb : fn.body.isSome = true) (hn : (fn.name == "runtime.NumGoroutine") = false) : ∃ fn c, Tryz.prog.funcs[k]? = some fn ∧ fn.body = some c ∧ (fn.name == "runtime.NumGoroutine") = false := by
  obtain ⟨c, hc⟩ := Option.isSome_iff_exists.1 hb
  exact ⟨fn, c, hf, hc, hn⟩
theorem args1 {R : Value → PV → Prop} {args : List Value} {x : PV} (h : All2 R args [x]) : ∃ v, args = [v] ∧ R v x := by
  cases h with
  | cons h1 h2 => cases h2; exact ⟨_, rfl, h1⟩
theorem args2 {R : Value → PV → Prop} {args : List Value} {x y : PV} (h : All2 R args [x, y]) : ∃ v u, args = [v, u] ∧ R v x ∧ R u y := by
  cases h with
  | cons h1 h2 => obtain ⟨u, rfl, h3⟩ := args1 h2; exact ⟨_, _, rfl, h1, h3⟩
theorem glob_first {w : World} (h : Glob Gl w) : Lib.Utf8Tabs 1 2 w := by
  obtain ⟨c1, t1, f1, h1, rfl⟩ := h (1, (· = firstVals)) (by simp [Gl])
  obtain ⟨c2, t2, f2, h2, rfl⟩ := h (2, (· = rangeVals)) (by simp [Gl])
  refine ⟨fun c hc => ?_, fun i hi => ?_⟩
  · simp only [World.cell?, h1]
    simp [firstVals, hc]
  · have r1 : rangeVals[2 * i]? = some (.int .u8 (Lib.accLo i)) ∧ rangeVals[2 * i + 1]? = some (.int .u8 (Lib.accHi i)) := by
      have : i = 0 ∨ i = 1 ∨ i = 2 ∨ i = 3 ∨ i = 4 ∨ i = 5 ∨ i = 6 ∨ i = 7 ∨ i = 8 ∨ i = 9 ∨ i = 10 ∨ i = 11 ∨ i = 12 ∨ i = 13 ∨ i = 14 ∨ i = 15 := by omega
      rcases this with rfl | rfl | rfl | rfl | rfl | rfl | rfl | rfl | rfl | rfl | rfl | rfl | rfl | rfl | rfl | rfl <;> exact ⟨rfl, rfl⟩
    simp only [World.cell?, h2]
    simpa using r1
theorem glob_max {w : World} (h : Glob Gl w) : ∃ m, w.cell? ⟨3, 0, none⟩ = some (.int .i64 m) := by
  obtain ⟨c1, t1, f1, h1, m, rfl⟩ := h (3, fun cs => ∃ m, cs = [.int .i64 m]) (by simp [Gl])
  exact ⟨m, by simp [World.cell?, h1]⟩
/-! ### unicode/utf8.DecodeRuneInString -/
def dR (s : List UInt8) : Int := if s = [] then 65533 else ((decL s).1 : Int)
def dN (s : List UInt8) : Int := if s = [] then 0 else ((decL s).2 : Int)
def sp_decode : FSpec := ⟨[], fun | [.one (.str s)] => some ([], .tup [(false, [.int .i32 (dR s)]), (false, [.int .i64 (dN s)])]) | _ => none⟩
theorem ok_decode : FnP 82 sp_decode := by
  refine ⟨body_of Tryz.f82 (by kernel_rfl) (by kernel_rfl) (by kernel_rfl), ?_⟩
  intro pvs p r hs hp w B args hg ha
  unfold sp_decode at hs
  simp only at hs
  split at hs
  · rename_i s
    cases hs
    obtain ⟨v, rfl, hv⟩ := args1 ha
    have hv : v = .string ⟨s.toArray⟩ := hv
    subst hv
    refine (Tryz.utf8_DecodeRuneInString ⟨s.toArray⟩ w (glob_first hg)).mono ?_
    rintro e w' ⟨rfl, hb⟩
    refine ⟨_, rfl, Fr.below hb _, ?_⟩
    have e1 : ((Lib.decodeGo ⟨s.toArray⟩).1 : Int) = dR s ∧ ((Lib.decodeGo ⟨s.toArray⟩).2 : Int) = dN s := by
      unfold Lib.decodeGo dR dN
      have hsz : (⟨s.toArray⟩ : ByteArray).size = s.length := by simp [ByteArray.size]
      rw [hsz]
      by_cases h0 : s = []
      · subst h0; exact ⟨rfl, rfl⟩
      · rw [if_neg (by simpa using h0), if_neg h0, if_neg h0, decode_drop, List.drop_zero]
        exact ⟨rfl, rfl⟩
    rw [e1.1, e1.2]
    exact ⟨[_, _], rfl, .cons rfl (.cons rfl .nil)⟩
  · cases hs
/-! ### figurehead/utf.Scalar -/
def sp_vrune : FSpec := ⟨[], fun | [.one (.int .i32 r)] => some ([], .one (.bool (scalar r))) | _ => none⟩
theorem validRune_scalar (r : Int) : Lib.validRune r = scalar r := by
  unfold Lib.validRune scalar
  rw [Bool.eq_iff_iff]
  simp
  omega
theorem ok_vrune : FnP 130 sp_vrune := by
  refine ⟨body_of Tryz.f130 (by kernel_rfl) (by kernel_rfl) (by kernel_rfl), ?_⟩
  intro pvs p r hs hp w B args hg ha
  unfold sp_vrune at hs
  simp only at hs
  split at hs
  · rename_i s
    cases hs
    obtain ⟨v, rfl, hv⟩ := args1 ha
    have hv : v = .int .i32 s := hv
    subst hv
    refine (Tryz.utf8_ValidRune s w).mono ?_
    rintro e w' ⟨rfl, rfl⟩
    exact ⟨_, rfl, Fr.refl _ _, by rw [validRune_scalar]; rfl⟩
  · cases hs
def sp_uscalar : FSpec := ⟨[], fun | [.one (.int .i32 r)] => some ([], .one (.bool (scalar r))) | _ => none⟩
theorem vc_uscalar (r : Int) : vcP [(130, sp_vrune)] [] misc Tryz.f102 (.nil) [.one (.int .i32 r)] (.one (.bool (scalar r))) = (scalar r = scalar r) := by kernel_rfl
set_option maxHeartbeats 4000000 in
theorem of_uscalar (h : ∀ (r : Int), vcP [(130, sp_vrune)] [] misc Tryz.f102 (.nil) [.one (.int .i32 r)] (.one (.bool (scalar r)))) : FnP 102 sp_uscalar := by
  refine fnP_ok (cs := [(130, sp_vrune)]) (cas := []) (ms := misc) (.cons ok_vrune .nil) .nil misc_ok 102 Tryz.f102 (by kernel_rfl) (by kernel_rfl) (by kernel_rfl) (fun _ => .nil) ?_
  intro pvs p r hs hp
  unfold sp_uscalar at hs
  simp only at hs
  split at hs
  · rename_i r
    cases hs
    refine h r
  · cases hs
theorem ok_uscalar : FnP 102 sp_uscalar := of_uscalar (by intros; rw [vc_uscalar])
/-! ### figurehead/utf.Bad -/
/-- Code points that a text begins with. -/
def Done (s : List UInt8) : Type := {d : List Int // Scalars d ∧ encs d <+: s}
def Done.pos {s : List UInt8} (d : Done s) : Nat := (encs d.1).length
def sp_bad : FSpec := ⟨[], fun | [.one (.str s)] => some ([s.length ≤ 1000000000], .one (.int .i64 (badAt s))) | _ => none⟩
theorem vc_bad (s : List UInt8) : vcP [(82, sp_decode)] [] misc Tryz.f56 (.loop 2 (Done s) (fun d => ⟨[(0, .one (.str s)), (8, .one (.slc 17))], [(17, some (.iter s d.pos))], 18⟩) (fun d => s.length - d.pos) (fun _ => .nil) .nil) [.one (.str s)] (.one (.int .i64 (badAt s))) = ((∃ (x : Done s), s = s ∧ (0 : Nat) = Done.pos x ∧ s = s) ∧ ∀ (x : Done s), br (decide (Done.pos x < List.length s)) (br (dec s (Done.pos x) != (65533 : Int)) (∃ (x' : Done s), (s = s ∧ Done.pos x + wid s (Done.pos x) = Done.pos x' ∧ s = s) ∧ List.length s - Done.pos x' < List.length s - Done.pos x) (((0 : Int) ≤ (↑(Done.pos x) : Int) ∧ (↑(Done.pos x) : Int) ≤ (↑(List.length s) : Int)) ∧ br (dN (List.drop (Int.toNat (↑(Done.pos x) : Int)) s) == (1 : Int)) ((↑(Done.pos x) : Int) = badAt s) (∃ (x' : Done s), (s = s ∧ Done.pos x + wid s (Done.pos x) = Done.pos x' ∧ s = s) ∧ List.length s - Done.pos x' < List.length s - Done.pos x))) ((-1 : Int) = badAt s)) := by kernel_rfl
set_option maxHeartbeats 4000000 in
theorem of_bad (h : ∀ (s : List UInt8), (s.length ≤ 1000000000) → vcP [(82, sp_decode)] [] misc Tryz.f56 (.loop 2 (Done s) (fun d => ⟨[(0, .one (.str s)), (8, .one (.slc 17))], [(17, some (.iter s d.pos))], 18⟩) (fun d => s.length - d.pos) (fun _ => .nil) .nil) [.one (.str s)] (.one (.int .i64 (badAt s)))) : FnP 56 sp_bad := by
  refine fnP_ok (cs := [(82, sp_decode)]) (cas := []) (ms := misc) (.cons ok_decode .nil) .nil misc_ok 56 Tryz.f56 (by kernel_rfl) (by kernel_rfl) (by kernel_rfl) (fun | [.one (.str s)] => .loop 2 (Done s) (fun d => ⟨[(0, .one (.str s)), (8, .one (.slc 17))], [(17, some (.iter s d.pos))], 18⟩) (fun d => s.length - d.pos) (fun _ => .nil) .nil | _ => .nil) ?_
  intro pvs p r hs hp
  unfold sp_bad at hs
  simp only at hs
  split at hs
  · rename_i s
    cases hs
    refine h s ?_
    · exact hp
  · cases hs
theorem Done.rest {s : List UInt8} (d : Done s) : s = encs d.1 ++ s.drop d.pos := by
  exact (List.prefix_iff_eq_append.1 d.2.2).symm
theorem Done.le {s : List UInt8} (d : Done s) : d.pos ≤ s.length := d.2.2.length_le
def Done.zero (s : List UInt8) : Done s := ⟨[], (fun r hr => by cases hr), List.nil_prefix⟩
theorem dec_decL (s : List UInt8) (p : Nat) : dec s p = ((decL (s.drop p)).1 : Int) ∧ wid s p = (decL (s.drop p)).2 := by
  unfold dec wid
  rw [decode_drop]
  exact ⟨rfl, rfl⟩
/-- The next code point, or none. -/
theorem Done.next {s : List UInt8} (d : Done s) (h : d.pos < s.length) :
    (∃ (r : Int) (d' : Done s), step (s.drop d.pos) = some (r, (enc r).length) ∧ scalar r = true ∧ d'.1 = d.1 ++ [r] ∧ dec s d.pos = r ∧ wid s d.pos = (enc r).length ∧ d'.pos = d.pos + (enc r).length ∧ decL (s.drop d.pos) ≠ (65533, 1)) ∨
    (Stuck (s.drop d.pos) ∧ s.drop d.pos ≠ [] ∧ decL (s.drop d.pos) = (65533, 1)) := by
  have hne : s.drop d.pos ≠ [] := by
    intro h0
    have := congrArg List.length h0
    simp at this
    omega
  have hst : step (s.drop d.pos) = if decL (s.drop d.pos) = (65533, 1) then none else some (((decL (s.drop d.pos)).1 : Int), (decL (s.drop d.pos)).2) := by
    unfold step; rw [if_neg hne]
  by_cases hd : decL (s.drop d.pos) = (65533, 1)
  · rw [if_pos hd] at hst
    exact .inr ⟨hst, hne, hd⟩
  · rw [if_neg hd] at hst
    obtain ⟨h1, h2, h3⟩ := step_starts hst
    have hr := d.rest
    rw [h3] at hr
    refine .inl ⟨((decL (s.drop d.pos)).1 : Int), ⟨d.1 ++ [((decL (s.drop d.pos)).1 : Int)], d.2.1.snoc h1, ?_⟩, by rw [hst, h2], h1, rfl, (dec_decL s d.pos).1, by rw [(dec_decL s d.pos).2, h2], ?_, hd⟩
    · rw [encs_snoc]
      exact ⟨_, by rw [List.append_assoc]; exact hr.symm⟩
    · unfold Done.pos
      rw [encs_snoc, List.length_append]
theorem Done.stuck {s : List UInt8} (d : Done s) (h : Stuck (s.drop d.pos)) : decomp s = (d.1, s.drop d.pos) := decomp_eq d.rest d.2.1 h
theorem Done.whole {s : List UInt8} (d : Done s) (h : ¬ d.pos < s.length) : s.drop d.pos = [] ∧ decomp s = (d.1, []) ∧ s = encs d.1 := by
  have h0 : s.drop d.pos = [] := by simp; omega
  refine ⟨h0, ?_, ?_⟩
  · have := d.stuck (by rw [h0]; rfl)
    rw [h0] at this; exact this
  · have := d.rest
    rw [h0, List.append_nil] at this; exact this
theorem dN_decL {t : List UInt8} (h : t ≠ []) : dN t = ((decL t).2 : Int) := by unfold dN; rw [if_neg h]
theorem ok_bad : FnP 56 sp_bad := of_bad (by
  intro s hs
  rw [vc_bad]
  refine ⟨⟨.zero s, rfl, rfl, rfl⟩, fun d => br_of (fun h => ?_) fun h => ?_⟩
  · have h : d.pos < s.length := by simpa using h
    rcases d.next h with ⟨r, d', h1, h2, h3, h4, h5, h6, h7⟩ | ⟨h1, h2, h3⟩
    · have hgo : (∃ (x' : Done s), (s = s ∧ d.pos + wid s d.pos = x'.pos ∧ s = s) ∧ s.length - x'.pos < s.length - d.pos) :=
        ⟨d', ⟨rfl, by rw [h5, h6], rfl⟩, by have := enc_len r; have := d'.le; omega⟩
      refine br_of (fun _ => hgo) fun hr => ⟨⟨by omega, by omega⟩, br_of (fun hn => ?_) fun _ => hgo⟩
      exfalso
      simp only [bne_eq_false_iff_eq] at hr
      rw [h4] at hr
      subst hr
      rw [Int.toNat_natCast, dN_decL (by intro h0; rw [h0] at h1; cases h1)] at hn
      rw [(dec_decL s d.pos).2] at h5
      rw [h5] at hn
      exact absurd hn (by decide)
    · obtain ⟨q1, q2⟩ := dec_decL s d.pos
      rw [h3] at q1 q2
      have hb : (d.pos : Int) = badAt s := by
        unfold badAt
        rw [d.stuck h1, if_neg h2]
        rfl
      rw [q1, q2]
      refine br_of (fun hx => by simp at hx) fun _ => ⟨⟨by omega, by omega⟩, br_of (fun _ => hb) fun hn => ?_⟩
      exfalso
      rw [Int.toNat_natCast, dN_decL h2, h3] at hn
      simp at hn
  · have h : ¬ d.pos < s.length := by simpa using h
    obtain ⟨g1, g2, g3⟩ := d.whole h
    unfold badAt
    rw [g2, if_pos rfl])
/-! ### figurehead/utf.Runes -/
def sp_urunes : FSpec := ⟨[], fun | [.one (.str s)] => some ([s.length ≤ 1000000000], .tup [(false, [.rd (.ints .i32 (if badAt s < 0 then (decomp s).1 else []))]), (false, [.bool (decide (badAt s < 0))])]) | _ => none⟩
theorem vc_urunes (s : List UInt8) : vcP [(56, sp_bad)] [] misc Tryz.f57 (.loop 5 (Done s) (fun d => ⟨[(0, .one (.str s)), (4, .one (.slc 18)), (11, .one (.slc 17))], [(17, some (.iter s d.pos)), (18, some (.row 21 (.ints .i32 d.1)))], 19⟩) (fun d => s.length - d.pos) (fun _ => .nil) .nil) [.one (.str s)] (.tup [(false, [.rd (.ints .i32 (if badAt s < 0 then (decomp s).1 else []))]), (false, [.bool (decide (badAt s < 0))])]) = (List.length s ≤ (1000000000 : Nat) ∧ br (decide (badAt s ≥ (0 : Int))) (([] = if badAt s < (0 : Int) then (decomp s).1 else []) ∧ false = decide (badAt s < (0 : Int))) ((∃ (x : Done s), s = s ∧ (0 : Nat) = Done.pos x ∧ s = s ∧ Subtype.val x = []) ∧ ∀ (x : Done s), br (decide (Done.pos x < List.length s)) ((List.length (Subtype.val x) + (1 : Nat)) * (4 : Nat) ≤ (140737488355328 : Nat) ∧ ∃ (x' : Done s), (s = s ∧ Done.pos x + wid s (Done.pos x) = Done.pos x' ∧ s = s ∧ Subtype.val x ++ [dec s (Done.pos x)] = Subtype.val x') ∧ List.length s - Done.pos x' < List.length s - Done.pos x) ((Subtype.val x = if badAt s < (0 : Int) then (decomp s).1 else []) ∧ true = decide (badAt s < (0 : Int))))) := by kernel_rfl
set_option maxHeartbeats 4000000 in
theorem of_urunes (h : ∀ (s : List UInt8), (s.length ≤ 1000000000) → vcP [(56, sp_bad)] [] misc Tryz.f57 (.loop 5 (Done s) (fun d => ⟨[(0, .one (.str s)), (4, .one (.slc 18)), (11, .one (.slc 17))], [(17, some (.iter s d.pos)), (18, some (.row 21 (.ints .i32 d.1)))], 19⟩) (fun d => s.length - d.pos) (fun _ => .nil) .nil) [.one (.str s)] (.tup [(false, [.rd (.ints .i32 (if badAt s < 0 then (decomp s).1 else []))]), (false, [.bool (decide (badAt s < 0))])])) : FnP 57 sp_urunes := by
  refine fnP_ok (cs := [(56, sp_bad)]) (cas := []) (ms := misc) (.cons ok_bad .nil) .nil misc_ok 57 Tryz.f57 (by kernel_rfl) (by kernel_rfl) (by kernel_rfl) (fun | [.one (.str s)] => .loop 5 (Done s) (fun d => ⟨[(0, .one (.str s)), (4, .one (.slc 18)), (11, .one (.slc 17))], [(17, some (.iter s d.pos)), (18, some (.row 21 (.ints .i32 d.1)))], 19⟩) (fun d => s.length - d.pos) (fun _ => .nil) .nil | _ => .nil) ?_
  intro pvs p r hs hp
  unfold sp_urunes at hs
  simp only at hs
  split at hs
  · rename_i s
    cases hs
    refine h s ?_
    · exact hp
  · cases hs
theorem bad_neg {s : List UInt8} : badAt s < 0 ↔ (decomp s).2 = [] := by
  unfold badAt
  split <;> simp_all
theorem Done.len {s : List UInt8} (d : Done s) : d.1.length ≤ d.pos := (encs_len d.1).1
theorem ok_urunes : FnP 57 sp_urunes := of_urunes (by
  intro s hs
  rw [vc_urunes]
  refine ⟨hs, br_of (fun h => ?_) fun h => ⟨⟨.zero s, rfl, rfl, rfl, rfl⟩, fun d => br_of (fun h1 => ?_) fun h1 => ?_⟩⟩
  · have h : badAt s ≥ 0 := by simpa using h
    have h' : ¬ badAt s < 0 := by omega
    rw [if_neg h']; exact ⟨rfl, by simp [h']⟩
  · have h : badAt s < 0 := by simpa using h
    have h1 : d.pos < s.length := by simpa using h1
    have := d.len
    rcases d.next h1 with ⟨r, d', g1, g2, g3, g4, g5, g6, g7⟩ | ⟨g1, g2, g3⟩
    · exact ⟨by omega, d', ⟨rfl, by rw [g5, g6], rfl, by rw [g4]; exact g3.symm⟩, by have := enc_len r; have := d'.le; omega⟩
    · rw [bad_neg, d.stuck g1] at h
      exact absurd h g2
  · have h : badAt s < 0 := by simpa using h
    have h1 : ¬ d.pos < s.length := by simpa using h1
    obtain ⟨g1, g2, g3⟩ := d.whole h1
    rw [if_pos h, g2]
    exact ⟨rfl, by simp [h]⟩)
/-! ### figureheadref11.Runes -/
def sp_rrunes : FSpec := ⟨[], fun | [.one (.str s)] => some ([s.length ≤ 1000000000], .tup [(false, [.rd (.ints .i32 (if badAt s < 0 then (decomp s).1 else []))]), (false, [.int .i64 (badAt s)])]) | _ => none⟩
theorem vc_rrunes (s : List UInt8) : vcP [(55, sp_first)] [] misc Tryz.f54 (.loop 3 (Done s) (fun d => ⟨[(0, .one (.str s)), (4, .one (.slc 17)), (5, .one (.int .i64 d.pos))], [(17, some (.row 21 (.ints .i32 d.1)))], 18⟩) (fun d => s.length - d.pos) (fun _ => .nil) .nil) [.one (.str s)] (.tup [(false, [.rd (.ints .i32 (if badAt s < 0 then (decomp s).1 else []))]), (false, [.int .i64 (badAt s)])]) = ((∃ (x : Done s), s = s ∧ (0 : Int) = (↑(Done.pos x) : Int) ∧ Subtype.val x = []) ∧ ∀ (x : Done s), br (decide ((↑(Done.pos x) : Int) < (↑(List.length s) : Int))) (((0 : Int) ≤ (↑(Done.pos x) : Int) ∧ (↑(Done.pos x) : Int) ≤ (↑(List.length s) : Int)) ∧ br (firstN (List.drop (Int.toNat (↑(Done.pos x) : Int)) s) == (0 : Int)) (([] = if badAt s < (0 : Int) then (decomp s).1 else []) ∧ (↑(Done.pos x) : Int) = badAt s) ((List.length (Subtype.val x) + (1 : Nat)) * (4 : Nat) ≤ (140737488355328 : Nat) ∧ inR IntKind.i64 ((↑(Done.pos x) : Int) + firstN (List.drop (Int.toNat (↑(Done.pos x) : Int)) s)) ∧ ∃ (x' : Done s), (s = s ∧ (↑(Done.pos x) : Int) + firstN (List.drop (Int.toNat (↑(Done.pos x) : Int)) s) = (↑(Done.pos x') : Int) ∧ Subtype.val x ++ [firstR (List.drop (Int.toNat (↑(Done.pos x) : Int)) s)] = Subtype.val x') ∧ List.length s - Done.pos x' < List.length s - Done.pos x)) ((Subtype.val x = if badAt s < (0 : Int) then (decomp s).1 else []) ∧ (-1 : Int) = badAt s)) := by kernel_rfl
set_option maxHeartbeats 4000000 in
theorem of_rrunes (h : ∀ (s : List UInt8), (s.length ≤ 1000000000) → vcP [(55, sp_first)] [] misc Tryz.f54 (.loop 3 (Done s) (fun d => ⟨[(0, .one (.str s)), (4, .one (.slc 17)), (5, .one (.int .i64 d.pos))], [(17, some (.row 21 (.ints .i32 d.1)))], 18⟩) (fun d => s.length - d.pos) (fun _ => .nil) .nil) [.one (.str s)] (.tup [(false, [.rd (.ints .i32 (if badAt s < 0 then (decomp s).1 else []))]), (false, [.int .i64 (badAt s)])])) : FnP 54 sp_rrunes := by
  refine fnP_ok (cs := [(55, sp_first)]) (cas := []) (ms := misc) (.cons ok_first .nil) .nil misc_ok 54 Tryz.f54 (by kernel_rfl) (by kernel_rfl) (by kernel_rfl) (fun | [.one (.str s)] => .loop 3 (Done s) (fun d => ⟨[(0, .one (.str s)), (4, .one (.slc 17)), (5, .one (.int .i64 d.pos))], [(17, some (.row 21 (.ints .i32 d.1)))], 18⟩) (fun d => s.length - d.pos) (fun _ => .nil) .nil | _ => .nil) ?_
  intro pvs p r hs hp
  unfold sp_rrunes at hs
  simp only at hs
  split at hs
  · rename_i s
    cases hs
    refine h s ?_
    · exact hp
  · cases hs
theorem Done.first {s : List UInt8} (d : Done s) : firstN (s.drop d.pos) = 0 ∧ (∀ h : d.pos < s.length, Stuck (s.drop d.pos) ∧ s.drop d.pos ≠ []) ∨
    ∃ (r : Int) (d' : Done s), firstR (s.drop d.pos) = r ∧ firstN (s.drop d.pos) = ((enc r).length : Int) ∧ d'.1 = d.1 ++ [r] ∧ d'.pos = d.pos + (enc r).length := by
  by_cases h : d.pos < s.length
  · rcases d.next h with ⟨r, d', g1, g2, g3, g4, g5, g6, g7⟩ | ⟨g1, g2, g3⟩
    · exact .inr ⟨r, d', by unfold firstR; rw [g1], by unfold firstN; rw [g1], g3, g6⟩
    · exact .inl ⟨by unfold firstN; rw [show step (s.drop d.pos) = none from g1], fun _ => ⟨g1, g2⟩⟩
  · refine .inl ⟨?_, fun h' => absurd h' h⟩
    rw [(d.whole h).1]; rfl
theorem ok_rrunes : FnP 54 sp_rrunes := of_rrunes (by
  intro s hs
  rw [vc_rrunes]
  refine ⟨⟨.zero s, rfl, rfl, rfl⟩, fun d => br_of (fun h1 => ?_) fun h1 => ?_⟩
  · have h1 : d.pos < s.length := by simpa using h1
    have := d.len
    rw [Int.toNat_natCast]
    refine ⟨⟨by omega, by omega⟩, ?_⟩
    rcases d.first with ⟨g1, g2⟩ | ⟨r, d', g1, g2, g3, g4⟩
    · obtain ⟨q1, q2⟩ := g2 h1
      rw [g1]
      have hb : badAt s = d.pos := by
        unfold badAt
        rw [d.stuck q1, if_neg q2]; rfl
      refine br_of (fun _ => ?_) fun h => by simp at h
      rw [hb, if_neg (by omega)]
      exact ⟨rfl, rfl⟩
    · have hl := enc_len r
      have := d'.le
      rw [g1, g2]
      refine br_of (fun h => by rw [beq_iff_eq] at h; omega) fun _ => ⟨by omega, by simp only [inR]; omega, d', ⟨rfl, by omega, g3.symm⟩, by omega⟩
  · have h1 : ¬ d.pos < s.length := by simpa using h1
    obtain ⟨g1, g2, g3⟩ := d.whole h1
    have hb : badAt s = -1 := by unfold badAt; rw [g2, if_pos rfl]
    rw [hb, g2]
    simp)
end Go.Proofs.YtglfkihckkjniaaGreatDoor.Vx
