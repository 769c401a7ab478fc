/-
VX, functions 11: slices of items. No statement of the seat is proved here.
-/
import Derived.Test.YtglfkihckkjniaaGreatDoorVxF10
import Derived.Shelf.Spec.SlicesGrow
set_option maxRecDepth 100000
set_option linter.unusedVariables false
set_option linter.unusedSimpArgs false
namespace Go.Proofs.YtglfkihckkjniaaGreatDoor.Vx
open Go Go.RowKit

/-! ### slices.Grow -/
def rg : Go.Shelf.Ren := ⟨fun | 4 => 129 | n => n, fun | 0 => 0 | 3 => 3 | 4 => 4 | 9 => 9 | 20 => 20 | 22 => 23 | 25 => 79 | n => n, fun n => n⟩
theorem lays_grow : Go.Proofs.Lays8.n4 Tryz.prog rg := {
  mixed := by kernel_rfl
  f4 := ⟨"slices.Grow[[]figurehead/api.Item,figurehead/api.Item]", by decide, Tryz.func129.trans (congrArg some (by kernel_rfl))⟩
  t0 := Tryz.underlying0
  a0 := Tryz.isAgg0
  z0 := Tryz.sizeOf0
  v0 := Tryz.zeroValue0
  t3 := Tryz.underlying3
  a3 := Tryz.isAgg3
  z3 := Tryz.sizeOf3
  v3 := Tryz.zeroValue3
  t4 := Tryz.underlying4
  a4 := Tryz.isAgg4
  z4 := Tryz.sizeOf4
  v4 := Tryz.zeroValue4
  t9 := Tryz.underlying9
  a9 := Tryz.isAgg9
  z9 := Tryz.sizeOf9
  v9 := Tryz.zeroValue9
  t20 := Tryz.underlying20
  a20 := Tryz.isAgg20
  z20 := Tryz.sizeOf20
  v20 := Tryz.zeroValue20
  t22 := Tryz.underlying23
  a22 := Tryz.isAgg23
  z22 := Tryz.sizeOf23
  v22 := Tryz.zeroValue23 }
def sp_sgrow : ASpec := ⟨fun
  | [.one .nils, .one (.int .i64 n)], [] => some ([0 ≤ n ∧ n ≤ 1000000000], .one (.slc 16), [(16, some (.row 79 (.items [])))])
  | _, _ => none⟩
theorem ok_sgrow : FnA 129 sp_sgrow := by
  refine ⟨body_of Tryz.f129 (by kernel_rfl) (by kernel_rfl) (by kernel_rfl), ?_⟩
  intro args mem ps r post hs hp C ρ w vs hP hw hg hgf hms hdom hargs
  unfold sp_sgrow at hs
  simp only at hs
  split at hs
  · rename_i n
    cases hs
    have hp : 0 ≤ n ∧ n ≤ 1000000000 := hp
    have hv : vs = [.slice none 0 0, .int .i64 n] := by
      cases hargs with
      | cons h1 h2 =>
        cases h2 with
        | cons h3 h4 =>
          cases h4
          simp only [denV, den, Option.some.injEq] at h1 h3
          rw [h1, h3]
    subst hv
    obtain ⟨k, hk⟩ : ∃ k : Nat, n = (k : Int) := ⟨n.toNat, by omega⟩
    subst hk
    obtain ⟨i, hi⟩ := Option.isSome_iff_exists.1 (show (look 79 T).isSome = true by kernel_rfl)
    have hsz : i.size = 2 := by
      have h1 : (look 79 T).map (fun i => i.size) = some 2 := by kernel_rfl
      rw [hi] at h1; simpa using h1
    have hby : i.bytes = 16 := by
      have h1 : (look 79 T).map (fun i => i.bytes) = some 16 := by kernel_rfl
      rw [hi] at h1; simpa using h1
    obtain ⟨inf, d, z, tt⟩ := tbl_get T_ok hi
    have hz2 : z.cells.size = 2 := by
      have h1 := denL_length (tt.zden ρ)
      rw [tt.zlen, hsz] at h1
      have h2 : z.cells.toList.length = z.cells.size := Array.length_toList
      omega
    have fin : ∀ (v : Value) (w' : World), Fr (fun _ => False) w w' → v.oneCell' = true → SBok C (fun j => if j = 16 then some v else ρ j) w' v (.row 79 (.items [])) →
        ∃ v' ρ', Ending.returned v = .returned v' ∧ Fr C.F w w' ∧ MS C ρ' [(16, some (.row 79 (.items [])))] w' ∧ DomLt ρ' 32 ∧ denV ρ' (.one (.slc 16)) = some v' := by
      intro v w' hf hone hb
      refine ⟨v, fun j => if j = 16 then some v else ρ j, rfl, hf.mono fun _ _ h => h.elim, ⟨?_, ?_, ?_, ?_⟩, ?_, by simp [denV, den]⟩
      · intro j u hu
        have hu : (if j = 16 then some v else ρ j) = some u := hu
        split at hu
        · cases hu; exact hone
        · exact hms.one j u hu
      · intro j hj
        show (if j = 16 then some v else ρ j) = _
        rw [if_neg (by omega)]
        exact hms.pin j hj
      · intro j b hb2
        rw [look_cons] at hb2
        split at hb2
        · rename_i h16
          cases hb2
          exact ⟨v, by simp [← h16], hb⟩
        · cases hb2
      · intro j j' b b' u u' hne h1 h2
        rw [look_cons] at h1 h2
        split at h1
        · split at h2
          · exfalso; apply hne; omega
          · cases h2
        · cases h1
      · intro j u hu
        have hu : (if j = 16 then some v else ρ j) = some u := hu
        split at hu
        · omega
        · have := hdom j u hu; omega
    by_cases h0 : k = 0
    · subst h0
      refine (Go.Proofs.Any8.slices_Grow_room lays_grow none 0 0 0 w (Nat.le_refl _) (by decide) (by decide) (Nat.le_refl _)).mono ?_
      rintro e w' ⟨rfl, rfl⟩
      exact fin _ _ (Fr.refl _ _) rfl ⟨⟨rfl, .inl ⟨rfl, rfl⟩⟩, fun g hg => by cases hg⟩
    · have hL := Go.Proofs.Any8.slices_Grow_grow lays_grow inf z tt.info tt.zero (by rw [tt.size, hsz]; decide) none 0 0 k [] w (Nat.le_refl _) (by omega) (by rw [tt.bytes, hby]; omega) (by omega) (by simp) (fun _ => rfl) (fun a ha => by cases ha)
      refine hL.mono ?_
      rintro e w' ⟨rfl, rfl⟩
      have hge := grownCap_ge w (0 + k) 0 79
      have hcm : grownCap w (0 + k) 0 79 ≤ maxLen := grownCap_le_maxLen w (0 + k) 0 _ (by simp only [maxLen]; omega)
      refine fin _ _ ((Fr.refl _ w).drew.trans (Fr.alloc w.drew _ _)) rfl ⟨⟨rfl, .inr ⟨w.heap.size, _, _, (0, 0), rfl, Nat.zero_le _, (by show (w.heap.push _)[w.heap.size]? = _; rw [Array.getElem?_push_size]; rfl), Nat.zero_le _, Nat.zero_le _, hcm, ?_, rfl⟩⟩, fun g hg => ?_⟩
      · have hzs : ∀ m, (Builtin.zeroCells z.cells m).size = m * 2 := fun m => by rw [size_zeroCells, hz2]
        simp only [Array.size_append, hzs]
        show 0 + (0 + k - 0) * 2 + (grownCap w (0 + k) 0 79 - (0 + k)) * 2 = grownCap w (0 + k) 0 79 * 2
        omega
      · have : w.heap.size = g := by simpa [Value.ownBlock] using hg
        exact .inl (by rw [hw]; omega)
  · cases hs
/-! ### slices.Index, Contains, Concat -/
def isItm (k r : Int) (x : Itm) : Bool := decide (k = x.k) && decide (r = x.r)
def sp_sindex : FSpec := ⟨[], fun | [.one (.rd (.items l)), .agg [.int .i64 k, .int .i32 r]] => some ([l.length ≤ 1000000000], .one (.int .i64 (idxZ (isItm k r) l))) | _ => none⟩
theorem vc_sindex (l : List Itm) (k r : Int) : vcP [] [] misc Tryz.f128 (.loop 2 (None (isItm k r) l) (fun i => ⟨[(0, .one (.slc 0)), (3, .one (.ptr 17 0)), (7, .one (.int .i64 l.length)), (8, .one (.int .i64 i.1))], [(0, some (.read (.items l))), (17, some (.cells 79 [.int .i64 k, .int .i32 r]))], 18⟩) (fun i => l.length - i.1) (fun _ => .nil) .nil) [.one (.rd (.items l)), .agg [.int .i64 k, .int .i32 r]] (.one (.int .i64 (idxZ (isItm k r) l))) = ((∃ (x : None (isItm k r) l), (↑(List.length l) : Int) = (↑(List.length l) : Int) ∧ (0 : Int) = (↑(Subtype.val x) : Int) ∧ l = l ∧ k = k ∧ r = r) ∧ ∀ (x : None (isItm k r) l), br (decide ((↑(Subtype.val x) : Int) < (↑(List.length l) : Int))) (((0 : Int) ≤ (↑(Subtype.val x) : Int) ∧ (↑(Subtype.val x) : Int) < (↑(List.length l) : Int)) ∧ Int.toNat (↑(Subtype.val x) : Int) < List.length l ∧ br (decide (k = Itm.k (List.getD l (Int.toNat (↑(Subtype.val x) : Int)) default)) && decide (r = Itm.r (List.getD l (Int.toNat (↑(Subtype.val x) : Int)) default))) ((↑(Subtype.val x) : Int) = idxZ (isItm k r) l) (inR IntKind.i64 ((↑(Subtype.val x) : Int) + (1 : Int)) ∧ ∃ (x' : None (isItm k r) l), ((↑(List.length l) : Int) = (↑(List.length l) : Int) ∧ (↑(Subtype.val x) : Int) + (1 : Int) = (↑(Subtype.val x') : Int) ∧ l = l ∧ k = k ∧ r = r) ∧ List.length l - Subtype.val x' < List.length l - Subtype.val x)) ((-1 : Int) = idxZ (isItm k r) l)) := by kernel_rfl
set_option maxHeartbeats 4000000 in
theorem of_sindex (h : ∀ (l : List Itm) (k r : Int), (l.length ≤ 1000000000) → vcP [] [] misc Tryz.f128 (.loop 2 (None (isItm k r) l) (fun i => ⟨[(0, .one (.slc 0)), (3, .one (.ptr 17 0)), (7, .one (.int .i64 l.length)), (8, .one (.int .i64 i.1))], [(0, some (.read (.items l))), (17, some (.cells 79 [.int .i64 k, .int .i32 r]))], 18⟩) (fun i => l.length - i.1) (fun _ => .nil) .nil) [.one (.rd (.items l)), .agg [.int .i64 k, .int .i32 r]] (.one (.int .i64 (idxZ (isItm k r) l)))) : FnP 128 sp_sindex := by
  refine fnP_ok (cs := []) (cas := []) (ms := misc) .nil .nil misc_ok 128 Tryz.f128 (by kernel_rfl) (by kernel_rfl) (by kernel_rfl) (fun | [.one (.rd (.items l)), .agg [.int .i64 k, .int .i32 r]] => .loop 2 (None (isItm k r) l) (fun i => ⟨[(0, .one (.slc 0)), (3, .one (.ptr 17 0)), (7, .one (.int .i64 l.length)), (8, .one (.int .i64 i.1))], [(0, some (.read (.items l))), (17, some (.cells 79 [.int .i64 k, .int .i32 r]))], 18⟩) (fun i => l.length - i.1) (fun _ => .nil) .nil | _ => .nil) ?_
  intro pvs p r hs hp
  unfold sp_sindex at hs
  simp only at hs
  split at hs
  · rename_i l k r
    cases hs
    refine h l k r ?_
    · exact hp
  · cases hs
def sp_sconcat : ASpec := ⟨fun | [.one (.slc 0)], [(0, some (.lit 23 4 [.slc 1, .slc 2, .slc 3, .slc 4])), (1, some (.read (.items a))), (2, some (.read (.items b))), (3, some (.read (.items c))), (4, some (.read (.items d)))] => some ([a.length + b.length + c.length + d.length ≤ 1000000000], .one (.slc 16), [(16, some (.row 79 (.items (a ++ b ++ c ++ d))))]) | _, _ => none⟩
theorem vc_sconcat (a b c d : List Itm) : vcA [] [(129, sp_sgrow)] misc Tryz.f99 (.turns 3 5 (fun _ => .dec 20 false .nil) (.turns 11 5 (fun _ => .nil) .nil)) [.one (.slc 0)] [(0, some (.lit 23 4 [.slc 1, .slc 2, .slc 3, .slc 4])), (1, some (.read (.items a))), (2, some (.read (.items b))), (3, some (.read (.items c))), (4, some (.read (.items d)))] (.one (.slc 16)) [(16, some (.row 79 (.items (a ++ b ++ c ++ d))))] = (letI v0 := ((0 : Int) ≤ (0 : Int) + (1 : Int) + (1 : Int) + (1 : Int) ∧ (0 : Int) + (1 : Int) + (1 : Int) + (1 : Int) < (↑(4 : Nat) : Int)); letI v1 := ((0 : Int) ≤ (0 : Int) + (1 : Int) + (1 : Int) ∧ (0 : Int) + (1 : Int) + (1 : Int) < (↑(4 : Nat) : Int)); letI v2 := ((0 : Int) ≤ (0 : Int) + (1 : Int) ∧ (0 : Int) + (1 : Int) < (↑(4 : Nat) : Int)); (((0 : Int) ≤ (0 : Int) ∧ (0 : Int) < (↑(4 : Nat) : Int)) ∧ inR IntKind.i64 ((0 : Int) + (↑(List.length a) : Int)) ∧ decide ((0 : Int) + (↑(List.length a) : Int) < (0 : Int)) = false ∧ inR IntKind.i64 ((0 : Int) + (1 : Int)) ∧ v2 ∧ inR IntKind.i64 ((0 : Int) + (↑(List.length a) : Int) + (↑(List.length b) : Int)) ∧ decide ((0 : Int) + (↑(List.length a) : Int) + (↑(List.length b) : Int) < (0 : Int)) = false ∧ inR IntKind.i64 ((0 : Int) + (1 : Int) + (1 : Int)) ∧ v1 ∧ inR IntKind.i64 ((0 : Int) + (↑(List.length a) : Int) + (↑(List.length b) : Int) + (↑(List.length c) : Int)) ∧ decide ((0 : Int) + (↑(List.length a) : Int) + (↑(List.length b) : Int) + (↑(List.length c) : Int) < (0 : Int)) = false ∧ inR IntKind.i64 ((0 : Int) + (1 : Int) + (1 : Int) + (1 : Int)) ∧ v0 ∧ inR IntKind.i64 ((0 : Int) + (↑(List.length a) : Int) + (↑(List.length b) : Int) + (↑(List.length c) : Int) + (↑(List.length d) : Int)) ∧ decide ((0 : Int) + (↑(List.length a) : Int) + (↑(List.length b) : Int) + (↑(List.length c) : Int) + (↑(List.length d) : Int) < (0 : Int)) = false ∧ inR IntKind.i64 ((0 : Int) + (1 : Int) + (1 : Int) + (1 : Int) + (1 : Int)) ∧ ((0 : Int) ≤ (0 : Int) + (↑(List.length a) : Int) + (↑(List.length b) : Int) + (↑(List.length c) : Int) + (↑(List.length d) : Int) ∧ (0 : Int) + (↑(List.length a) : Int) + (↑(List.length b) : Int) + (↑(List.length c) : Int) + (↑(List.length d) : Int) ≤ (1000000000 : Int)) ∧ ((0 : Int) ≤ (0 : Int) ∧ (0 : Int) < (↑(4 : Nat) : Int)) ∧ ((0 : Nat) + List.length a) * (16 : Nat) ≤ (140737488355328 : Nat) ∧ inR IntKind.i64 ((0 : Int) + (1 : Int)) ∧ v2 ∧ (List.length ([] ++ a) + List.length b) * (16 : Nat) ≤ (140737488355328 : Nat) ∧ inR IntKind.i64 ((0 : Int) + (1 : Int) + (1 : Int)) ∧ v1 ∧ (List.length ([] ++ a ++ b) + List.length c) * (16 : Nat) ≤ (140737488355328 : Nat) ∧ inR IntKind.i64 ((0 : Int) + (1 : Int) + (1 : Int) + (1 : Int)) ∧ v0 ∧ (List.length ([] ++ a ++ b ++ c) + List.length d) * (16 : Nat) ≤ (140737488355328 : Nat) ∧ inR IntKind.i64 ((0 : Int) + (1 : Int) + (1 : Int) + (1 : Int) + (1 : Int)) ∧ [] ++ a ++ b ++ c ++ d = a ++ b ++ c ++ d)) := by kernel_rfl
set_option maxHeartbeats 4000000 in
theorem of_sconcat (h : ∀ (a b c d : List Itm), (a.length + b.length + c.length + d.length ≤ 1000000000) → vcA [] [(129, sp_sgrow)] misc Tryz.f99 (.turns 3 5 (fun _ => .dec 20 false .nil) (.turns 11 5 (fun _ => .nil) .nil)) [.one (.slc 0)] [(0, some (.lit 23 4 [.slc 1, .slc 2, .slc 3, .slc 4])), (1, some (.read (.items a))), (2, some (.read (.items b))), (3, some (.read (.items c))), (4, some (.read (.items d)))] (.one (.slc 16)) [(16, some (.row 79 (.items (a ++ b ++ c ++ d))))]) : FnA 99 sp_sconcat := by
  refine fnA_ok (cs := []) (cas := [(129, sp_sgrow)]) (ms := misc) .nil (.cons ok_sgrow .nil) misc_ok 99 Tryz.f99 (by kernel_rfl) (by kernel_rfl) (by kernel_rfl) (fun | [.one (.slc 0)], [(0, some (.lit 23 4 [.slc 1, .slc 2, .slc 3, .slc 4])), (1, some (.read (.items a))), (2, some (.read (.items b))), (3, some (.read (.items c))), (4, some (.read (.items d)))] => .turns 3 5 (fun _ => .dec 20 false .nil) (.turns 11 5 (fun _ => .nil) .nil) | _, _ => .nil) ?_
  intro args mem p r post hs hp
  unfold sp_sconcat at hs
  simp only at hs
  split at hs
  · rename_i a b c d
    cases hs
    refine h a b c d ?_
    · exact hp
  · cases hs
theorem ok_sindex : FnP 128 sp_sindex := of_sindex (by
  intro l k r hl
  rw [vc_sindex]
  refine ⟨⟨.zero _ l, by and_intros <;> rfl⟩, fun x => br_of (fun h => ?_) fun h => ?_⟩
  · have h : x.1 < l.length := by simpa using h
    rw [Int.toNat_natCast]
    exact ⟨⟨by omega, by omega⟩, h, br_of (fun h1 => (x.hitZ h h1).symm) fun h1 => ⟨by simp only [inR]; omega, x.next default h h1, by and_intros <;> rfl, by show l.length - (x.1 + 1) < _; omega⟩⟩
  · exact (x.overZ (by simpa using h)).symm)
theorem ok_sconcat : FnA 99 sp_sconcat := of_sconcat (by
  intro a b c d h
  rw [vc_sconcat]
  and_intros
  all_goals first | rfl | omega | (simp only [inR]; omega) | exact decide_eq_false (by omega) | (simp only [List.length_append, List.length_nil]; omega))
def hasItm (k : Int) (l : List Itm) : Bool := l.any (isItm k 0)
def sp_scontains : FSpec := ⟨[], fun | [.one (.rd (.items l)), .agg [.int .i64 k, .int .i32 r]] => some ([l.length ≤ 1000000000], .one (.bool (l.any (isItm k r)))) | _ => none⟩
theorem vc_scontains (l : List Itm) (k r : Int) : vcP [(128, sp_sindex)] [] misc Tryz.f98 (.nil) [.one (.rd (.items l)), .agg [.int .i64 k, .int .i32 r]] (.one (.bool (l.any (isItm k r)))) = (List.length l ≤ (1000000000 : Nat) ∧ decide (idxZ (isItm k r) l ≥ (0 : Int)) = List.any l (isItm k r)) := by kernel_rfl
set_option maxHeartbeats 4000000 in
theorem of_scontains (h : ∀ (l : List Itm) (k r : Int), (l.length ≤ 1000000000) → vcP [(128, sp_sindex)] [] misc Tryz.f98 (.nil) [.one (.rd (.items l)), .agg [.int .i64 k, .int .i32 r]] (.one (.bool (l.any (isItm k r))))) : FnP 98 sp_scontains := by
  refine fnP_ok (cs := [(128, sp_sindex)]) (cas := []) (ms := misc) (.cons ok_sindex .nil) .nil misc_ok 98 Tryz.f98 (by kernel_rfl) (by kernel_rfl) (by kernel_rfl) (fun _ => .nil) ?_
  intro pvs p r hs hp
  unfold sp_scontains at hs
  simp only at hs
  split at hs
  · rename_i l k r
    cases hs
    refine h l k r ?_
    · exact hp
  · cases hs
theorem any_idxI {α : Type} (P : α → Bool) (l : List α) : decide (idxZ P l ≥ 0) = l.any P := by
  unfold idxZ
  rw [Bool.eq_iff_iff, decide_eq_true_iff, List.any_eq_true]
  by_cases h : l.findIdx P < l.length
  · rw [if_pos h]
    exact ⟨fun _ => ⟨_, List.getElem_mem h, List.findIdx_getElem (w := h)⟩, fun _ => by omega⟩
  · rw [if_neg h]
    have h0 : l.findIdx P = l.length := by have := List.findIdx_le_length (p := P) (xs := l); omega
    rw [List.findIdx_eq_length] at h0
    refine ⟨fun h => absurd h (by decide), ?_⟩
    rintro ⟨c, hc, h1⟩
    rw [h0 c hc] at h1; cases h1
theorem ok_scontains : FnP 98 sp_scontains := of_scontains (by
  intro l k r hl
  rw [vc_scontains]
  exact ⟨hl, any_idxI _ l⟩)
/-! ### figurehead/pattern.has, all, Mult -/
def sp_phas : ASpec := ⟨fun | [.one (.int .i64 k), .one (.slc 0)], [(0, some (.lit 23 4 [.slc 1, .slc 2, .slc 3, .slc 4])), (1, some (.read (.items a))), (2, some (.read (.items b))), (3, some (.read (.items c))), (4, some (.read (.items d)))] => some ([a.length + b.length + c.length + d.length ≤ 1000000000], .one (.bool (hasItm k (a ++ b ++ c ++ d))), []) | _, _ => none⟩
theorem vc_phas (k : Int) (a b c d : List Itm) : vcA [(98, sp_scontains)] [(99, sp_sconcat)] misc Tryz.f69 (.nil) [.one (.int .i64 k), .one (.slc 0)] [(0, some (.lit 23 4 [.slc 1, .slc 2, .slc 3, .slc 4])), (1, some (.read (.items a))), (2, some (.read (.items b))), (3, some (.read (.items c))), (4, some (.read (.items d)))] (.one (.bool (hasItm k (a ++ b ++ c ++ d)))) [] = (List.length a + List.length b + List.length c + List.length d ≤ (1000000000 : Nat) ∧ List.length (a ++ b ++ c ++ d) ≤ (1000000000 : Nat) ∧ List.any (a ++ b ++ c ++ d) (isItm k (0 : Int)) = hasItm k (a ++ b ++ c ++ d)) := by kernel_rfl
set_option maxHeartbeats 4000000 in
theorem of_phas (h : ∀ (k : Int) (a b c d : List Itm), (a.length + b.length + c.length + d.length ≤ 1000000000) → vcA [(98, sp_scontains)] [(99, sp_sconcat)] misc Tryz.f69 (.nil) [.one (.int .i64 k), .one (.slc 0)] [(0, some (.lit 23 4 [.slc 1, .slc 2, .slc 3, .slc 4])), (1, some (.read (.items a))), (2, some (.read (.items b))), (3, some (.read (.items c))), (4, some (.read (.items d)))] (.one (.bool (hasItm k (a ++ b ++ c ++ d)))) []) : FnA 69 sp_phas := by
  refine fnA_ok (cs := [(98, sp_scontains)]) (cas := [(99, sp_sconcat)]) (ms := misc) (.cons ok_scontains .nil) (.cons ok_sconcat .nil) misc_ok 69 Tryz.f69 (by kernel_rfl) (by kernel_rfl) (by kernel_rfl) (fun _ _ => .nil) ?_
  intro args mem p r post hs hp
  unfold sp_phas at hs
  simp only at hs
  split at hs
  · rename_i k a b c d
    cases hs
    refine h k a b c d ?_
    · exact hp
  · cases hs
theorem ok_phas : FnA 69 sp_phas := of_phas (by
  intro k a b c d h
  rw [vc_phas]
  refine ⟨h, ?_, ?_⟩
  · simp only [List.length_append]; omega
  · rfl)
def sp_pall : FSpec := ⟨[], fun | [.agg [.rd (.items pre), .rd (.items suf), .bool hn, .rd (.items npre), .rd (.items nsuf), .int .i64 mi, .int .i64 xi, .int .i64 mf, .int .i64 xf, .int .i64 ms, .int .i64 xs, .int .i64 pr, .int .i64 sc, .str inc, .bool ps, .int .i64 me, .bool px, .int .i64 pa, .int .i32 pd, .int .i64 pw], .one (.int .i64 k)] => some ([pre.length + suf.length + npre.length + nsuf.length ≤ 1000000000], .one (.bool (hasItm k (pre ++ suf ++ npre ++ nsuf)))) | _ => none⟩
theorem vc_pall (pre suf : List Itm) (hn : Bool) (npre nsuf : List Itm) (mi xi mf xf ms xs pr sc : Int) (inc : List UInt8) (ps : Bool) (me : Int) (px : Bool) (pa pd pw : Int) (k : Int) : vcP [] [(69, sp_phas)] misc Tryz.f35 (.nil) [.agg [.rd (.items pre), .rd (.items suf), .bool hn, .rd (.items npre), .rd (.items nsuf), .int .i64 mi, .int .i64 xi, .int .i64 mf, .int .i64 xf, .int .i64 ms, .int .i64 xs, .int .i64 pr, .int .i64 sc, .str inc, .bool ps, .int .i64 me, .bool px, .int .i64 pa, .int .i32 pd, .int .i64 pw], .one (.int .i64 k)] (.one (.bool (hasItm k (pre ++ suf ++ npre ++ nsuf)))) = (List.length pre + List.length suf + List.length npre + List.length nsuf ≤ (1000000000 : Nat) ∧ hasItm k (pre ++ suf ++ npre ++ nsuf) = hasItm k (pre ++ suf ++ npre ++ nsuf)) := by kernel_rfl
set_option maxHeartbeats 4000000 in
theorem of_pall (h : ∀ (pre suf : List Itm) (hn : Bool) (npre nsuf : List Itm) (mi xi mf xf ms xs pr sc : Int) (inc : List UInt8) (ps : Bool) (me : Int) (px : Bool) (pa pd pw : Int) (k : Int), (pre.length + suf.length + npre.length + nsuf.length ≤ 1000000000) → vcP [] [(69, sp_phas)] misc Tryz.f35 (.nil) [.agg [.rd (.items pre), .rd (.items suf), .bool hn, .rd (.items npre), .rd (.items nsuf), .int .i64 mi, .int .i64 xi, .int .i64 mf, .int .i64 xf, .int .i64 ms, .int .i64 xs, .int .i64 pr, .int .i64 sc, .str inc, .bool ps, .int .i64 me, .bool px, .int .i64 pa, .int .i32 pd, .int .i64 pw], .one (.int .i64 k)] (.one (.bool (hasItm k (pre ++ suf ++ npre ++ nsuf))))) : FnP 35 sp_pall := by
  refine fnP_ok (cs := []) (cas := [(69, sp_phas)]) (ms := misc) .nil (.cons ok_phas .nil) misc_ok 35 Tryz.f35 (by kernel_rfl) (by kernel_rfl) (by kernel_rfl) (fun _ => .nil) ?_
  intro pvs p r hs hp
  unfold sp_pall at hs
  simp only at hs
  split at hs
  · rename_i pre suf hn npre nsuf mi xi mf xf ms xs pr sc inc ps me px pa pd pw k
    cases hs
    refine h pre suf hn npre nsuf mi xi mf xf ms xs pr sc inc ps me px pa pd pw k ?_
    · exact hp
  · cases hs
theorem ok_pall : FnP 35 sp_pall := of_pall (by
  intro pre suf hn npre nsuf mi xi mf xf ms xs pr sc inc ps me px pa pd pw k h
  rw [vc_pall]
  exact ⟨h, rfl⟩)
def multT (l : List Itm) : Int := if hasItm 4 l = true then 2 else if hasItm 5 l = true then 3 else 0
def sp_pmult : FSpec := ⟨[], fun | [.agg [.rd (.items pre), .rd (.items suf), .bool hn, .rd (.items npre), .rd (.items nsuf), .int .i64 mi, .int .i64 xi, .int .i64 mf, .int .i64 xf, .int .i64 ms, .int .i64 xs, .int .i64 pr, .int .i64 sc, .str inc, .bool ps, .int .i64 me, .bool px, .int .i64 pa, .int .i32 pd, .int .i64 pw]] => some ([pre.length + suf.length + npre.length + nsuf.length ≤ 1000000000], .one (.int .i64 (multT (pre ++ suf ++ npre ++ nsuf)))) | _ => none⟩
theorem vc_pmult (pre suf : List Itm) (hn : Bool) (npre nsuf : List Itm) (mi xi mf xf ms xs pr sc : Int) (inc : List UInt8) (ps : Bool) (me : Int) (px : Bool) (pa pd pw : Int) : vcP [(35, sp_pall)] [] misc Tryz.f29 (.nil) [.agg [.rd (.items pre), .rd (.items suf), .bool hn, .rd (.items npre), .rd (.items nsuf), .int .i64 mi, .int .i64 xi, .int .i64 mf, .int .i64 xf, .int .i64 ms, .int .i64 xs, .int .i64 pr, .int .i64 sc, .str inc, .bool ps, .int .i64 me, .bool px, .int .i64 pa, .int .i32 pd, .int .i64 pw]] (.one (.int .i64 (multT (pre ++ suf ++ npre ++ nsuf)))) = (letI v0 := (pre ++ suf ++ npre ++ nsuf); (List.length pre + List.length suf + List.length npre + List.length nsuf ≤ (1000000000 : Nat) ∧ br (hasItm (4 : Int) v0) ((2 : Int) = multT v0) (List.length pre + List.length suf + List.length npre + List.length nsuf ≤ (1000000000 : Nat) ∧ br (hasItm (5 : Int) v0) ((3 : Int) = multT v0) ((0 : Int) = multT v0)))) := by kernel_rfl
set_option maxHeartbeats 4000000 in
theorem of_pmult (h : ∀ (pre suf : List Itm) (hn : Bool) (npre nsuf : List Itm) (mi xi mf xf ms xs pr sc : Int) (inc : List UInt8) (ps : Bool) (me : Int) (px : Bool) (pa pd pw : Int), (pre.length + suf.length + npre.length + nsuf.length ≤ 1000000000) → vcP [(35, sp_pall)] [] misc Tryz.f29 (.nil) [.agg [.rd (.items pre), .rd (.items suf), .bool hn, .rd (.items npre), .rd (.items nsuf), .int .i64 mi, .int .i64 xi, .int .i64 mf, .int .i64 xf, .int .i64 ms, .int .i64 xs, .int .i64 pr, .int .i64 sc, .str inc, .bool ps, .int .i64 me, .bool px, .int .i64 pa, .int .i32 pd, .int .i64 pw]] (.one (.int .i64 (multT (pre ++ suf ++ npre ++ nsuf))))) : FnP 29 sp_pmult := by
  refine fnP_ok (cs := [(35, sp_pall)]) (cas := []) (ms := misc) (.cons ok_pall .nil) .nil misc_ok 29 Tryz.f29 (by kernel_rfl) (by kernel_rfl) (by kernel_rfl) (fun _ => .nil) ?_
  intro pvs p r hs hp
  unfold sp_pmult at hs
  simp only at hs
  split at hs
  · rename_i pre suf hn npre nsuf mi xi mf xf ms xs pr sc inc ps me px pa pd pw
    cases hs
    refine h pre suf hn npre nsuf mi xi mf xf ms xs pr sc inc ps me px pa pd pw ?_
    · exact hp
  · cases hs
theorem ok_pmult : FnP 29 sp_pmult := of_pmult (by
  intro pre suf hn npre nsuf mi xi mf xf ms xs pr sc inc ps me px pa pd pw h
  rw [vc_pmult]
  unfold multT
  exact ⟨h, br_of (fun h1 => by rw [if_pos h1]) fun h1 => ⟨h, br_of (fun h2 => by rw [if_neg (by rw [h1]; decide), if_pos h2]) fun h2 => by rw [if_neg (by rw [h1]; decide), if_neg (by rw [h2]; decide)]⟩⟩)
end Go.Proofs.YtglfkihckkjniaaGreatDoor.Vx
