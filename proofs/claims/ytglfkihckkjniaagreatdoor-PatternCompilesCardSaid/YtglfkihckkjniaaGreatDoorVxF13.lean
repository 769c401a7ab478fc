/-
VX, functions 13: slices.Clone. No statement of the seat is proved here.
-/
import Derived.Test.YtglfkihckkjniaaGreatDoorVxF12
import Derived.Lib.SliceRun
set_option maxRecDepth 100000
set_option linter.unusedVariables false
set_option linter.unusedSimpArgs false
namespace Go.Proofs.YtglfkihckkjniaaGreatDoor.Vx
open Go Go.RowKit

theorem item_info : ∃ inf z, Tryz.prog.info? 79 = some inf ∧ inf.zero = some z ∧ inf.size = 2 ∧ inf.bytes = 16 ∧ z.cells.size = 2 := by
  obtain ⟨i, hi⟩ := Option.isSome_iff_exists.1 (show (look 79 T).isSome = true by kernel_rfl)
  have hsz : i.size = 2 := by
    have h1 : (look 79 T).map (fun i => i.size) = some 2 := by kernel_rfl
    rw [hi] at h1; simpa using h1
  have hby : i.bytes = 16 := by
    have h1 : (look 79 T).map (fun i => i.bytes) = some 16 := by kernel_rfl
    rw [hi] at h1; simpa using h1
  obtain ⟨inf, d, z, tt⟩ := tbl_get T_ok hi
  refine ⟨inf, z, tt.info, tt.zero, by rw [tt.size, hsz], by rw [tt.bytes, hby], ?_⟩
  have h1 := denL_length (tt.zden fun _ => none)
  rw [tt.zlen, hsz] at h1
  have h2 : z.cells.toList.length = z.cells.size := Array.length_toList
  omega
set_option maxHeartbeats 2000000 in
theorem clone_some (w : World) (a : Addr) (n c : Nat) (news : List Value) (hl : news.length = n * 2) (hnews : ∀ j u, news[j]? = some u → w.cell? (a.add j) = some u) (h1 : ∀ u ∈ news, u.oneCell' = true) (hn : n ≤ 1000000000) :
    Calls Tryz.prog 68 #[.slice (some a) n c] w fun e w' => ∃ v', e = .returned v' ∧ w'.ownsRow w.heap.size 79 2 v' n news ∧ Below w.heap.size w w' := by
  obtain ⟨inf, z, hi, hz, hs, hb, hz2⟩ := item_info
  have q22 := fun (w : World) (a : Option Addr) (n c n' c' : Nat) => Lib.run_eql_slice_nil (P := Tryz.prog) w 23 79 a n c n' c' Tryz.underlying23
  have mx : Tryz.prog.follows .mixedOrders = true := mixed
  go_enter Tryz.func68, Tryz.ntmps68
  go_wp2_with (at_builtin; refine wpList_append_own _ rfl _ _ 23 rfl w.heap.size 79 inf z 2 16 Tryz.underlying23 hi hz hs hb hz2 (by decide) _ _ _ rfl (World.ownsRow_made w #[] 0 (Nat.le_refl _) (Nat.zero_le _) rfl) a n c news rfl hl ?qc2 h1 ?qc4 ?qc5 ?qc6 ?_)
  case qc2 =>
    intro j u hj
    exact Lib.cell?_alloc_some _ (hnews j u hj)
  case qc4 => unfold maxLen; omega
  case qc5 => omega
  case qc6 => simp
  intro v' w1 hown hgrow hnil
  go_wp2
  go_ret
  refine ⟨v', rfl, by simpa using hown, ?_⟩
  exact ((Below.refl _ w).alloc (Nat.le_refl _) _).grown hgrow (by simp) (by intro k hk; simp [Value.ownBlock] at hk; omega)
set_option maxHeartbeats 2000000 in
theorem clone_none (w : World) (n c : Nat) :
    Calls Tryz.prog 68 #[.slice none n c] w fun e w' => e = .returned (.slice none 0 0) ∧ w' = w := by
  have q22 := fun (w : World) (a : Option Addr) (n c n' c' : Nat) => Lib.run_eql_slice_nil (P := Tryz.prog) w 23 79 a n c n' c' Tryz.underlying23
  have mx : Tryz.prog.follows .mixedOrders = true := mixed
  go_enter Tryz.func68, Tryz.ntmps68
  go_wp2
  go_ret
  exact ⟨rfl, rfl⟩
theorem items_flat_len (l : List Itm) : (Ls.flat (.items l)).length = l.length * 2 := by
  unfold Ls.flat
  simp only [Ls.rows]
  induction l with
  | nil => rfl
  | cons x l ih => rw [List.map_cons, List.flatten_cons, List.length_append, ih]; show 2 + _ = (l.length + 1) * 2; omega
theorem items_flat_one (l : List Itm) : ∀ u ∈ Ls.flat (.items l), u.oneCell' = true := by
  intro u hu
  unfold Ls.flat at hu
  simp only [Ls.rows] at hu
  obtain ⟨r, hr, hu⟩ := List.mem_flatten.1 hu
  obtain ⟨x, _, rfl⟩ := List.mem_map.1 hr
  simp only [Itm.enc, List.mem_cons, List.not_mem_nil, or_false] at hu
  rcases hu with rfl | rfl <;> rfl
def sp_sclone : FSpec := ⟨[], fun | [.one (.rd (.items l))] => some ([l.length ≤ 1000000000], .one (.rd (.items l))) | _ => none⟩
theorem ok_sclone : FnP 68 sp_sclone := by
  refine ⟨body_of Tryz.f68 (by kernel_rfl) (by kernel_rfl) (by kernel_rfl), ?_⟩
  intro pvs p r hs hp w B args hg ha
  unfold sp_sclone at hs
  simp only at hs
  split at hs
  · rename_i l
    cases hs
    have hp : l.length ≤ 1000000000 := hp
    obtain ⟨v, rfl, hv⟩ := args1 ha
    obtain ⟨A, c, rfl, h1, h2, h3⟩ := hv
    cases A with
    | none =>
      have h0 : l = [] := by
        cases l with
        | nil => rfl
        | cons x l =>
          obtain ⟨b, o, e, _⟩ := h3 (Nat.succ_pos _)
          cases e
      subst h0
      refine (clone_none w 0 c).mono ?_
      rintro e w' ⟨rfl, rfl⟩
      exact ⟨_, rfl, Fr.refl _ _, ⟨none, 0, rfl, Nat.le_refl _, Nat.zero_le _, fun h => absurd h (Nat.lt_irrefl _)⟩⟩
    | some a =>
      have hfl := items_flat_len l
      refine (clone_some w a l.length c (Ls.flat (.items l)) hfl ?_ (items_flat_one l) hp).mono ?_
      · intro j u hj
        have hjl := (List.getElem?_eq_some_iff.1 hj).1
        have hpos : 0 < l.length := by omega
        obtain ⟨b, o, e, h4, _⟩ := h3 hpos
        cases e
        rw [Addr.add_lit]
        have hsz : (Ls.items l).len * (Ls.items l).sz = l.length * 2 := rfl
        rw [h4 j (by rw [hsz]; omega), hj]
      · rintro e w' ⟨v', rfl, hown, hb⟩
        refine ⟨v', rfl, Fr.below hb _, ?_⟩
        rcases hown.2 with ⟨rfl, hz⟩ | ⟨g, cap, cur, rfl, hbg, hg', hnc, hcm, hcs, htake⟩
        · have h0 : l = [] := List.eq_nil_of_length_eq_zero hz
          subst h0
          exact ⟨none, 0, rfl, Nat.le_refl _, Nat.zero_le _, fun h => absurd h (Nat.lt_irrefl _)⟩
        · refine ⟨some ⟨g, 0, none⟩, cap, rfl, hnc, Nat.le_trans hnc hcm, fun _ => ⟨g, 0, rfl, fun j hj => ?_, .inl hbg⟩⟩
          have hsz : (Ls.items l).len * (Ls.items l).sz = l.length * 2 := rfl
          rw [hsz] at hj
          rw [← htake, List.getElem?_take, if_pos hj]
          simp only [World.cell?, hg', Nat.zero_add]
          simp
  · cases hs
end Go.Proofs.YtglfkihckkjniaaGreatDoor.Vx
