/-
A part of the proof of Pads: lemmas and contracts. No statement of the seat is proved here.
-/
import Derived.Lib.SplitLaws
import Derived.Test.YtglfkihckkjniaaGreatDoorClPads1
set_option maxRecDepth 100000
set_option linter.unusedVariables false
set_option linter.unusedSimpArgs false
namespace Go.Proofs.YtglfkihckkjniaaGreatDoor.Vx
open Go Go.RowKit
def miscW : Hook := orHook (wrapHook T) misc
theorem miscW_ok : HookOK T (GC Tryz.prog Gl) miscW := orHook_ok wrapHook_ok misc_ok
def sp_appendN : ASpec := ⟨fun | [.one (.slc 0), .one (.int .i32 r)], [(0, some (.row 5 (.ints .u8 l)))] => some ([scalar r = true, 128 ≤ r, l.length ≤ 1000000000000], .one (.slc 16), [(16, some (.row 5 (.ints .u8 (l ++ Lib.encodeRuneZ r))))]) | _, _ => none⟩
theorem vc_appendN (r : Int) (l : List Int) : vcA [] [] miscW Tryz.f152 (.nil) [.one (.slc 0), .one (.int .i32 r)] [(0, some (.row 5 (.ints .u8 l)))] (.one (.slc 16)) [(16, some (.row 5 (.ints .u8 (l ++ Lib.encodeRuneZ r))))] = (letI v0 := (br (decide (IntKind.wrap IntKind.u32 r > (65535 : Int))) (br (decide (IntKind.wrap IntKind.u32 r ≤ (1114111 : Int))) ((0 : Int) ≤ (18 : Int) ∧ (0 : Int) ≤ (12 : Int) ∧ (0 : Int) ≤ (6 : Int) ∧ (List.length l + (4 : Nat)) * (1 : Nat) ≤ (140737488355328 : Nat) ∧ l ++ [bitsOf BinOp.or IntKind.u8 (240 : Int) (IntKind.wrap IntKind.u8 (Int.fdiv r ((2 : Int) ^ min (Int.toNat (18 : Int)) (IntKind.bits IntKind.i32))))] ++ [bitsOf BinOp.or IntKind.u8 (128 : Int) (bitsOf BinOp.and IntKind.u8 (IntKind.wrap IntKind.u8 (Int.fdiv r ((2 : Int) ^ min (Int.toNat (12 : Int)) (IntKind.bits IntKind.i32)))) (63 : Int))] ++ [bitsOf BinOp.or IntKind.u8 (128 : Int) (bitsOf BinOp.and IntKind.u8 (IntKind.wrap IntKind.u8 (Int.fdiv r ((2 : Int) ^ min (Int.toNat (6 : Int)) (IntKind.bits IntKind.i32)))) (63 : Int))] ++ [bitsOf BinOp.or IntKind.u8 (128 : Int) (bitsOf BinOp.and IntKind.u8 (IntKind.wrap IntKind.u8 r) (63 : Int))] = l ++ Lib.encodeRuneZ r) ((List.length l + (3 : Nat)) * (1 : Nat) ≤ (140737488355328 : Nat) ∧ l ++ [(239 : Int)] ++ [(191 : Int)] ++ [(189 : Int)] = l ++ Lib.encodeRuneZ r)) ((List.length l + (3 : Nat)) * (1 : Nat) ≤ (140737488355328 : Nat) ∧ l ++ [(239 : Int)] ++ [(191 : Int)] ++ [(189 : Int)] = l ++ Lib.encodeRuneZ r)); letI v1 := ((0 : Int) ≤ (12 : Int) ∧ (0 : Int) ≤ (6 : Int) ∧ (List.length l + (3 : Nat)) * (1 : Nat) ≤ (140737488355328 : Nat) ∧ l ++ [bitsOf BinOp.or IntKind.u8 (224 : Int) (IntKind.wrap IntKind.u8 (Int.fdiv r ((2 : Int) ^ min (Int.toNat (12 : Int)) (IntKind.bits IntKind.i32))))] ++ [bitsOf BinOp.or IntKind.u8 (128 : Int) (bitsOf BinOp.and IntKind.u8 (IntKind.wrap IntKind.u8 (Int.fdiv r ((2 : Int) ^ min (Int.toNat (6 : Int)) (IntKind.bits IntKind.i32)))) (63 : Int))] ++ [bitsOf BinOp.or IntKind.u8 (128 : Int) (bitsOf BinOp.and IntKind.u8 (IntKind.wrap IntKind.u8 r) (63 : Int))] = l ++ Lib.encodeRuneZ r); (br (decide (IntKind.wrap IntKind.u32 r ≤ (2047 : Int))) ((0 : Int) ≤ (6 : Int) ∧ (List.length l + (2 : Nat)) * (1 : Nat) ≤ (140737488355328 : Nat) ∧ l ++ [bitsOf BinOp.or IntKind.u8 (192 : Int) (IntKind.wrap IntKind.u8 (Int.fdiv r ((2 : Int) ^ min (Int.toNat (6 : Int)) (IntKind.bits IntKind.i32))))] ++ [bitsOf BinOp.or IntKind.u8 (128 : Int) (bitsOf BinOp.and IntKind.u8 (IntKind.wrap IntKind.u8 r) (63 : Int))] = l ++ Lib.encodeRuneZ r) (br (decide (IntKind.wrap IntKind.u32 r < (55296 : Int))) (br (decide (IntKind.wrap IntKind.u32 r < (55296 : Int))) v1 v0) (br (decide ((57343 : Int) < IntKind.wrap IntKind.u32 r)) (br (decide (IntKind.wrap IntKind.u32 r ≤ (65535 : Int))) v1 v0) v0)))) := by kernel_rfl
set_option maxHeartbeats 4000000 in
theorem of_appendN (h : ∀ (r : Int) (l : List Int), (scalar r = true) → (128 ≤ r) → (l.length ≤ 1000000000000) → vcA [] [] miscW Tryz.f152 (.nil) [.one (.slc 0), .one (.int .i32 r)] [(0, some (.row 5 (.ints .u8 l)))] (.one (.slc 16)) [(16, some (.row 5 (.ints .u8 (l ++ Lib.encodeRuneZ r))))]) : FnA 152 sp_appendN := by
  refine fnA_ok (cs := []) (cas := []) (ms := miscW) .nil .nil miscW_ok 152 Tryz.f152 (by kernel_rfl) (by kernel_rfl) (by kernel_rfl) (fun _ _ => .nil) ?_
  intro args mem p r post hs hp
  unfold sp_appendN at hs
  simp only at hs
  split at hs
  · rename_i r l
    cases hs
    refine h r l ?_ ?_ ?_
    · exact hp.1
    · exact hp.2.1
    · exact hp.2.2
  · cases hs
theorem wrap_u8 (z : Int) : IntKind.wrap .u8 z = z % 256 := by simp [IntKind.wrap, IntKind.bits, IntKind.signed]
theorem wrap_u32 {z : Int} (h : 0 ≤ z) (h1 : z ≤ 4294967295) : IntKind.wrap .u32 z = z := wrap_in (k := .u32) ⟨h, h1⟩
theorem and63 : ∀ x : Fin 256, bitsOf .and .u8 (x.1 : Int) 63 = (x.1 : Int) % 64 := by decide
theorem or128 : ∀ x : Fin 64, bitsOf .or .u8 128 (x.1 : Int) = 128 + (x.1 : Int) := by decide
theorem or192 : ∀ x : Fin 32, bitsOf .or .u8 192 (x.1 : Int) = 192 + (x.1 : Int) := by decide
theorem or224 : ∀ x : Fin 16, bitsOf .or .u8 224 (x.1 : Int) = 224 + (x.1 : Int) := by decide
theorem or240 : ∀ x : Fin 8, bitsOf .or .u8 240 (x.1 : Int) = 240 + (x.1 : Int) := by decide
theorem fin_of {n : Nat} {z : Int} (h0 : 0 ≤ z) (h1 : z < n) : ∃ x : Fin n, (x.1 : Int) = z := ⟨⟨z.toNat, by omega⟩, by simp; omega⟩
theorem low6 {z : Int} (h : 0 ≤ z) : bitsOf .or .u8 128 (bitsOf .and .u8 (IntKind.wrap .u8 z) 63) = 128 + z % 64 := by
  rw [wrap_u8]
  obtain ⟨x, hx⟩ := fin_of (n := 256) (z := z % 256) (by omega) (by omega)
  rw [← hx, and63 x]
  obtain ⟨y, hy⟩ := fin_of (n := 64) (z := (x.1 : Int) % 64) (by omega) (by omega)
  rw [← hy, or128 y]
  omega
theorem top192 {z : Int} (h : 0 ≤ z) (h1 : z < 32) : bitsOf .or .u8 192 (IntKind.wrap .u8 z) = 192 + z := by
  obtain ⟨x, hx⟩ := fin_of (n := 32) h h1
  rw [wrap_u8, show z % 256 = z by omega, ← hx, or192 x]
theorem top224 {z : Int} (h : 0 ≤ z) (h1 : z < 16) : bitsOf .or .u8 224 (IntKind.wrap .u8 z) = 224 + z := by
  obtain ⟨x, hx⟩ := fin_of (n := 16) h h1
  rw [wrap_u8, show z % 256 = z by omega, ← hx, or224 x]
theorem top240 {z : Int} (h : 0 ≤ z) (h1 : z < 8) : bitsOf .or .u8 240 (IntKind.wrap .u8 z) = 240 + z := by
  obtain ⟨x, hx⟩ := fin_of (n := 8) h h1
  rw [wrap_u8, show z % 256 = z by omega, ← hx, or240 x]
theorem ok_appendN : FnA 152 sp_appendN := of_appendN (by
  intro r l hr h128 hl
  rw [vc_appendN]
  rw [scalar_iff] at hr
  have f6 : Int.fdiv r (2 ^ min (Int.toNat 6) (IntKind.bits .i32)) = r / 64 := by
    show Int.fdiv r 64 = _
    exact Int.fdiv_eq_ediv_of_nonneg _ (by omega)
  have f12 : Int.fdiv r (2 ^ min (Int.toNat 12) (IntKind.bits .i32)) = r / 4096 := by
    show Int.fdiv r 4096 = _
    exact Int.fdiv_eq_ediv_of_nonneg _ (by omega)
  have f18 : Int.fdiv r (2 ^ min (Int.toNat 18) (IntKind.bits .i32)) = r / 262144 := by
    show Int.fdiv r 262144 = _
    exact Int.fdiv_eq_ediv_of_nonneg _ (by omega)
  rw [f6, f12, f18, wrap_u32 (by omega) (by omega)]
  rw [low6 (by omega), low6 (by omega), low6 (by omega)]
  have two : r ≤ 2047 → l ++ [bitsOf .or .u8 192 (IntKind.wrap .u8 (r / 64))] ++ [128 + r % 64] = l ++ Lib.encodeRuneZ r := fun h => by
    rw [top192 (by omega) (by omega), Lib.encodeRuneZ_two (by omega) h]; simp
  have three : 2047 < r → r ≤ 65535 → l ++ [bitsOf .or .u8 224 (IntKind.wrap .u8 (r / 4096))] ++ [128 + r / 64 % 64] ++ [128 + r % 64] = l ++ Lib.encodeRuneZ r := fun h h' => by
    rw [top224 (by omega) (by omega), Lib.encodeRuneZ_three (by omega)]; simp
  have four : 65535 < r → l ++ [bitsOf .or .u8 240 (IntKind.wrap .u8 (r / 262144))] ++ [128 + r / 4096 % 64] ++ [128 + r / 64 % 64] ++ [128 + r % 64] = l ++ Lib.encodeRuneZ r := fun h => by
    rw [top240 (by omega) (by omega), Lib.encodeRuneZ_four (by omega) (by omega)]; simp
  repeat' (first | apply And.intro | apply br_of | intro _)
  all_goals (try simp only [decide_eq_true_eq, decide_eq_false_iff_not] at *)
  all_goals first
    | omega
    | exact two (by omega)
    | exact three (by omega) (by omega)
    | exact four (by omega)
    | (exfalso; omega))
def sp_appendR : ASpec := ⟨fun | [.one (.slc 0), .one (.int .i32 r)], [(0, some (.row 5 (.ints .u8 l)))] => some ([scalar r = true, l.length ≤ 1000000000000], .one (.slc 16), [(16, some (.row 5 (.ints .u8 (l ++ Lib.encodeRuneZ r))))]) | _, _ => none⟩
theorem vc_appendR (r : Int) (l : List Int) : vcA [] [(152, sp_appendN)] miscW Tryz.f132 (.nil) [.one (.slc 0), .one (.int .i32 r)] [(0, some (.row 5 (.ints .u8 l)))] (.one (.slc 16)) [(16, some (.row 5 (.ints .u8 (l ++ Lib.encodeRuneZ r))))] = (br (decide (IntKind.wrap IntKind.u32 r ≤ (127 : Int))) ((List.length l + (1 : Nat)) * (1 : Nat) ≤ (140737488355328 : Nat) ∧ l ++ [IntKind.wrap IntKind.u8 r] = l ++ Lib.encodeRuneZ r) (scalar r = true ∧ (128 : Int) ≤ r ∧ List.length l ≤ (1000000000000 : Nat) ∧ l ++ Lib.encodeRuneZ r = l ++ Lib.encodeRuneZ r)) := by kernel_rfl
set_option maxHeartbeats 4000000 in
theorem of_appendR (h : ∀ (r : Int) (l : List Int), (scalar r = true) → (l.length ≤ 1000000000000) → vcA [] [(152, sp_appendN)] miscW Tryz.f132 (.nil) [.one (.slc 0), .one (.int .i32 r)] [(0, some (.row 5 (.ints .u8 l)))] (.one (.slc 16)) [(16, some (.row 5 (.ints .u8 (l ++ Lib.encodeRuneZ r))))]) : FnA 132 sp_appendR := by
  refine fnA_ok (cs := []) (cas := [(152, sp_appendN)]) (ms := miscW) .nil (.cons ok_appendN .nil) miscW_ok 132 Tryz.f132 (by kernel_rfl) (by kernel_rfl) (by kernel_rfl) (fun _ _ => .nil) ?_
  intro args mem p r post hs hp
  unfold sp_appendR at hs
  simp only at hs
  split at hs
  · rename_i r l
    cases hs
    refine h r l ?_ ?_
    · exact hp.1
    · exact hp.2
  · cases hs
theorem ok_appendR : FnA 132 sp_appendR := of_appendR (by
  intro r l hr hl
  rw [vc_appendR]
  have hr' := hr
  rw [scalar_iff] at hr
  rw [wrap_u32 (by omega) (by omega)]
  refine br_of (fun h => ⟨by omega, ?_⟩) fun h => ⟨hr', ?_, hl, rfl⟩
  · have h : r ≤ 127 := by simpa using h
    rw [wrap_u8, Lib.encodeRuneZ_one hr.1 h, show r % 256 = r by omega]
  · have h : ¬ r ≤ 127 := by simpa using h
    omega)
def bHook : Hook := fun fr o ev m =>
  match o.op with
  | .binOp op T x y _ =>
    bif Nat.beq T 147 then
      match op, ev x, ev y with
      | .eql, some (.one (.mp k b)), some (.one (.raw (.pointer none))) => some ([], ⟨.one (.bool (!b)), []⟩)
      | .neq, some (.one (.mp k b)), some (.one (.ptr k' 0)) => bif Nat.beq k k' then some ([b = true], ⟨.one .ff, []⟩) else none
      | _, _, _ => none
    else none
  | .convert T U x =>
    bif (Nat.beq T 147 && Nat.beq U 198) || (Nat.beq T 198 && Nat.beq U 147) then
      match ev x with
      | some (.one (.ptr k 0)) => match m k with
        | some (.cells ty cs) => bif Nat.beq ty 149 && Nat.beq cs.length 2 then some ([], ⟨.one (.ptr k 0), []⟩) else none
        | _ => none
      | _ => none
    else none
  | .call ⟨.value x, args, _⟩ =>
    match calleeOf ev x, args.toList with
    | some (f, []), [y] => bif Nat.beq f 151 then (match ev y with | some (.one (.ptr k 0)) => some ([], ⟨.one (.ptr k 0), []⟩) | _ => none) else none
    | _, _ => none
  | _ => none
theorem bldr_ptr : Tryz.prog.underlying 147 = some (.pointer 149) := by kernel_rfl
theorem unsafe_ptr : Tryz.prog.underlying 198 = some .unsafePointer := by kernel_rfl
theorem bldr_size : (Tryz.prog.info? 149).map (·.size) = some 2 := by kernel_rfl
theorem bldr_lies : liesAt Tryz.prog Tryz.prog.depth 149 (2 / Tryz.prog.cellsOf 149) 0 149 1 = true := by kernel_rfl
theorem noEscape_run (x : Value) (w : World) : (callFunc 151 #[x]).run Tryz.prog w = .ok (.value x) w := by
  rw [run_callFunc_extern Tryz.func151 (by kernel_rfl) (by kernel_rfl) (by kernel_rfl) (e := Extern.AbiNoEscape.same) (by kernel_rfl)]
  rfl
theorem bHook_ok : HookOK T (GC Tryz.prog Gl) bHook := by
  intro C ρ S a w fr o ev m H hG ps e hk hp
  obtain ⟨j, hj, hjs⟩ := Option.map_eq_some_iff.1 bldr_size
  unfold bHook at hk
  split at hk
  · rename_i op T' x y z ho
    cases hb : Nat.beq T' 147 with
    | false => rw [hb] at hk; cases hk
    | true =>
      have := Nat.eq_of_beq_eq_true hb
      subst this
      rw [hb, cond_true] at hk
      split at hk
      · rename_i k b hx hy
        cases hk
        obtain ⟨u, h1, h2⟩ := H.val hx
        obtain ⟨u', h3, h4⟩ := H.val hy
        simp only [denV, den, Value.oneCell', if_true, Option.some.injEq] at h3
        subst h3
        have hp : ∃ p, u = .pointer p ∧ p.isNone = !b := by
          cases b with
          | false => simp only [denV, den] at h1; cases h1; exact ⟨_, rfl, rfl⟩
          | true =>
            simp only [denV, den, denPtr, if_true, Option.map_eq_some_iff] at h1
            obtain ⟨g, _, rfl⟩ := h1
            exact ⟨_, rfl, rfl⟩
        obtain ⟨p, rfl, hpn⟩ := hp
        refine H.pure (v := .bool (!b)) ?_ rfl
        have he := run_equal_pointer_nil (P := C.P) w 147 p (by rw [hG.prog]; kernel_rfl)
        unfold execOp
        simp [ho, h2, h4, eqGuard, binOp, he, hpn]
      · rename_i k b k' hx hy
        cases hkk : Nat.beq k k' with
        | false => rw [hkk] at hk; cases hk
        | true =>
          have := Nat.eq_of_beq_eq_true hkk
          subst this
          rw [hkk, cond_true] at hk
          cases hk
          have hp : b = true := hp
          subst hp
          obtain ⟨u, h1, h2⟩ := H.val hx
          obtain ⟨u', h3, h4⟩ := H.val hy
          simp only [denV, den, if_true] at h1 h3
          rw [h1] at h3; cases h3
          simp only [denPtr, Option.map_eq_some_iff] at h1
          obtain ⟨g, _, rfl⟩ := h1
          refine H.pure (v := .bool false) ?_ rfl
          have he := Lib.run_neq_ptr_same (P := C.P) w (tp := 147) ⟨g, 0, none⟩ (by rw [hG.prog]; exact bldr_ptr) (by rw [hG.prog]; exact hj)
          unfold execOp
          simp [ho, h2, h4, eqGuard, he]
      · cases hk
  · rename_i T' U x ho
    cases hb : (Nat.beq T' 147 && Nat.beq U 198) || (Nat.beq T' 198 && Nat.beq U 147) with
    | false => rw [hb] at hk; cases hk
    | true =>
      rw [hb, cond_true] at hk
      split at hk
      · rename_i k hx
        split at hk
        · rename_i ty cs hm
          cases hc : Nat.beq ty 149 && Nat.beq cs.length 2 with
          | false => rw [hc] at hk; cases hk
          | true =>
            rw [hc, cond_true] at hk
            cases hk
            simp only [Bool.and_eq_true] at hc
            have c1 := Nat.eq_of_beq_eq_true hc.1
            have c2 := Nat.eq_of_beq_eq_true hc.2
            subst c1
            obtain ⟨u, h1, h2⟩ := H.val hx
            obtain ⟨y, e1, g, vs, q1, q2, q3, q4⟩ := H.sat.mem k _ (H.mem k _ hm)
            have hd : denV ρ (.one (.ptr k 0)) = some (.pointer (some ⟨g, 0, none⟩)) := by simp [denV, den, denPtr, e1, q1]
            have hu : u = .pointer (some ⟨g, 0, none⟩) := Option.some.inj (h1.symm.trans hd)
            subst hu
            have hsh : w.shape? (⟨g, 0, none⟩ : Addr).block = some (149, 2) := by
              simp [World.shape?, q3, denL_length q2, c2]
            refine H.pure (v := .pointer (some ⟨g, 0, none⟩)) ?_ hd
            simp only [Bool.or_eq_true, Bool.and_eq_true] at hb
            rcases hb with ⟨b1, b2⟩ | ⟨b1, b2⟩
            · have b1 := Nat.eq_of_beq_eq_true b1
              have b2 := Nat.eq_of_beq_eq_true b2
              subst b1; subst b2
              have hr := Lib.run_to_unsafe (P := C.P) w ⟨g, 0, none⟩ (by rw [hG.prog]; exact bldr_ptr) (by rw [hG.prog]; exact unsafe_ptr) (by rw [hG.prog]; exact hj) (by rw [hjs]; decide) hsh (Nat.zero_lt_succ 1)
              unfold execOp
              simp only [ho, h2, Sem.run_bind, hr, Result.andThen_ok, Sem.run_pure]
            · have b1 := Nat.eq_of_beq_eq_true b1
              have b2 := Nat.eq_of_beq_eq_true b2
              subst b1; subst b2
              have hr := Lib.run_from_unsafe (P := C.P) w ⟨g, 0, none⟩ (by rw [hG.prog]; exact unsafe_ptr) (by rw [hG.prog]; exact bldr_ptr) (by rw [hG.prog]; exact hj) hsh (by rw [hG.prog]; exact bldr_lies)
              unfold execOp
              simp only [ho, h2, Sem.run_bind, hr, Result.andThen_ok, Sem.run_pure]
        · cases hk
      · cases hk
  · rename_i x args ts ho
    split at hk
    · rename_i f y hc ha
      cases hb : Nat.beq f 151 with
      | false => rw [hb] at hk; cases hk
      | true =>
        have := Nat.eq_of_beq_eq_true hb
        subst this
        rw [hb, cond_true] at hk
        split at hk
        · rename_i k hy
          cases hk
          obtain ⟨u, h1, h2⟩ := H.val hy
          obtain ⟨cvs, g1, g2⟩ := callee_run H ho hc
          cases g1
          refine H.pure (v := u) ?_ h1
          rw [g2, hG.prog, ha]
          simp only [List.map_cons, List.map_nil, List.append_nil, h2]
          exact noEscape_run u w
        · cases hk
    · cases hk
  · cases hk
def miscB : Hook := orHook bHook misc
theorem miscB_ok : HookOK T (GC Tryz.prog Gl) miscB := orHook_ok bHook_ok misc_ok
def sp_copyCheck : ASpec := ⟨fun | [.one (.ptr 0 0)], [(0, some (.cells 149 [.mp 0 b, .slc 1])), (1, some (.row 5 (.ints .u8 l)))] => some ([], .tup [], [(0, some (.cells 149 [.mp 0 true, .slc 1])), (1, some (.row 5 (.ints .u8 l)))]) | _, _ => none⟩
theorem vc_copyCheck (b : Bool) (l : List Int) : vcA [] [] miscB Tryz.f131 (.nil) [.one (.ptr 0 0)] [(0, some (.cells 149 [.mp 0 b, .slc 1])), (1, some (.row 5 (.ints .u8 l)))] (.tup []) [(0, some (.cells 149 [.mp 0 true, .slc 1])), (1, some (.row 5 (.ints .u8 l)))] = (br (!b) (true = true ∧ l = l) (b = true ∧ b = true ∧ l = l)) := by kernel_rfl
set_option maxHeartbeats 4000000 in
theorem of_copyCheck (h : ∀ (b : Bool) (l : List Int), vcA [] [] miscB Tryz.f131 (.nil) [.one (.ptr 0 0)] [(0, some (.cells 149 [.mp 0 b, .slc 1])), (1, some (.row 5 (.ints .u8 l)))] (.tup []) [(0, some (.cells 149 [.mp 0 true, .slc 1])), (1, some (.row 5 (.ints .u8 l)))]) : FnA 131 sp_copyCheck := by
  refine fnA_ok (cs := []) (cas := []) (ms := miscB) .nil .nil miscB_ok 131 Tryz.f131 (by kernel_rfl) (by kernel_rfl) (by kernel_rfl) (fun _ _ => .nil) ?_
  intro args mem p r post hs hp
  unfold sp_copyCheck at hs
  simp only at hs
  split at hs
  · rename_i b l
    cases hs
    refine h b l
  · cases hs
theorem ok_copyCheck : FnA 131 sp_copyCheck := of_copyCheck (by
  intro b l
  rw [vc_copyCheck]
  refine br_of (fun _ => ⟨rfl, rfl⟩) fun h => ?_
  have : b = true := by simpa using h
  exact ⟨this, this, rfl⟩)
def sp_writeRune : ASpec := ⟨fun | [.one (.ptr 0 0), .one (.int .i32 r)], [(0, some (.cells 149 [.mp 0 b, .slc 1])), (1, some (.row 5 (.ints .u8 l)))] => some ([scalar r = true, l.length ≤ 1000000000000], .tup [(false, [.int .i64 (Lib.encodeRuneZ r).length]), (false, [.raw .nilIface])], [(0, some (.cells 149 [.mp 0 true, .slc 16])), (16, some (.row 5 (.ints .u8 (l ++ Lib.encodeRuneZ r))))]) | _, _ => none⟩
theorem vc_writeRune (b : Bool) (l : List Int) (r : Int) : vcA [] [(131, sp_copyCheck), (132, sp_appendR)] misc Tryz.f104 (.nil) [.one (.ptr 0 0), .one (.int .i32 r)] [(0, some (.cells 149 [.mp 0 b, .slc 1])), (1, some (.row 5 (.ints .u8 l)))] (.tup [(false, [.int .i64 (Lib.encodeRuneZ r).length]), (false, [.raw .nilIface])]) [(0, some (.cells 149 [.mp 0 true, .slc 16])), (16, some (.row 5 (.ints .u8 (l ++ Lib.encodeRuneZ r))))] = (scalar r = true ∧ List.length l ≤ (1000000000000 : Nat) ∧ inR IntKind.i64 ((↑(List.length (l ++ Lib.encodeRuneZ r)) : Int) - (↑(List.length l) : Int)) ∧ (↑(List.length (l ++ Lib.encodeRuneZ r)) : Int) - (↑(List.length l) : Int) = (↑(List.length (Lib.encodeRuneZ r)) : Int) ∧ Value.nilIface = Value.nilIface ∧ true = true ∧ l ++ Lib.encodeRuneZ r = l ++ Lib.encodeRuneZ r) := by kernel_rfl
set_option maxHeartbeats 4000000 in
theorem of_writeRune (h : ∀ (b : Bool) (l : List Int) (r : Int), (scalar r = true) → (l.length ≤ 1000000000000) → vcA [] [(131, sp_copyCheck), (132, sp_appendR)] misc Tryz.f104 (.nil) [.one (.ptr 0 0), .one (.int .i32 r)] [(0, some (.cells 149 [.mp 0 b, .slc 1])), (1, some (.row 5 (.ints .u8 l)))] (.tup [(false, [.int .i64 (Lib.encodeRuneZ r).length]), (false, [.raw .nilIface])]) [(0, some (.cells 149 [.mp 0 true, .slc 16])), (16, some (.row 5 (.ints .u8 (l ++ Lib.encodeRuneZ r))))]) : FnA 104 sp_writeRune := by
  refine fnA_ok (cs := []) (cas := [(131, sp_copyCheck), (132, sp_appendR)]) (ms := misc) .nil (.cons ok_copyCheck (.cons ok_appendR .nil)) misc_ok 104 Tryz.f104 (by kernel_rfl) (by kernel_rfl) (by kernel_rfl) (fun _ _ => .nil) ?_
  intro args mem p r post hs hp
  unfold sp_writeRune at hs
  simp only at hs
  split at hs
  · rename_i r b l
    cases hs
    refine h b l r ?_ ?_
    · exact hp.1
    · exact hp.2
  · cases hs
theorem ok_writeRune : FnA 104 sp_writeRune := of_writeRune (by
  intro b l r hr hl
  rw [vc_writeRune]
  have := Lib.encodeRuneZ_length r
  rw [List.length_append]
  exact ⟨hr, hl, by simp only [inR]; omega, by omega, rfl, rfl, rfl⟩)
set_option maxHeartbeats 2000000 in
theorem bstr_row (w : World) (b g cap : Nat) (p : Value) (cur : Array Value) (fz : Nat × Nat) (l : List UInt8) (h0 : l ≠ []) (hbk : w.heap[b]? = some (.cells #[p, .slice (some ⟨g, 0, none⟩) l.length cap] 149 (0, 0)))
    (hg : w.heap[g]? = some (.cells cur 5 fz)) (hnc : l.length ≤ cap) (hcm : cap ≤ maxLen) (hcs : cur.size = cap) (htake : cur.toList.take l.length = Lib.byteCells l) :
    Calls Tryz.prog 107 #[.pointer (some ⟨b, 0, none⟩)] w fun e w' => e = .returned (.string ⟨l.toArray⟩) ∧ w' = w.drew.freeze ⟨g, 0, none⟩ l.length := by
  have hl0 : l.length ≠ 0 := by simpa using h0
  have c1 : w.drew.cell? ⟨b, 1, none⟩ = some (.slice (some ⟨g, 0, none⟩) l.length cap) := by
    have : w.drew.heap[b]? = some (.cells #[p, .slice (some ⟨g, 0, none⟩) l.length cap] 149 (0, 0)) := hbk
    rw [Lib.cell_of_heap this]; rfl
  have hSD : (Builtin.unsafeSliceData_ #[41] 177 #[.slice (some ⟨g, 0, none⟩) l.length cap]).run Tryz.prog w.drew = .ok (.pointer (some ⟨g, 0, none⟩)) w.drew :=
    Lib.run_unsafeSliceData_row _ _ _ _ _ _ (by omega)
  have hUS : (Builtin.unsafeString_ #[177, 3] 9 #[.pointer (some ⟨g, 0, none⟩), .int .i64 l.length]).run Tryz.prog w.drew = .ok (.string ⟨l.toArray⟩) (w.drew.freeze ⟨g, 0, none⟩ l.length) := by
    refine Lib.run_unsafeString_row w.drew 177 3 9 5 (by kernel_rfl) (by kernel_rfl) g cur.size (by have hg' : w.drew.heap[g]? = some (.cells cur 5 fz) := hg; simp [World.shape?, hg']) l h0 (by omega) (by unfold maxLen at hcm; omega) ?_
    intro j x hx
    have hj : j < l.length := (List.getElem?_eq_some_iff.1 hx).1
    have hg' : w.drew.heap[g]? = some (.cells cur 5 fz) := hg
    rw [Addr.add_lit]
    simp only [World.cell?, hg', Nat.zero_add]
    have : (cur.toList.take l.length)[j]? = some (.int .u8 x.toNat) := by rw [htake]; simp [Lib.byteCells, hx]
    rw [List.getElem?_take, if_pos hj] at this
    simpa using this
  have mx : Tryz.prog.follows .mixedOrders = true := mixed
  go_enter Tryz.func107, Tryz.ntmps107
  go_wp2
  go_region_o
  all_goals (go_wp2; go_ret; exact ⟨rfl, rfl⟩)
set_option maxHeartbeats 2000000 in
theorem bstr_nil (w : World) (b : Nat) (p : Value) (hbk : w.heap[b]? = some (.cells #[p, .slice none 0 0] 149 (0, 0))) :
    Calls Tryz.prog 107 #[.pointer (some ⟨b, 0, none⟩)] w fun e w' => e = .returned (.string ⟨#[]⟩) ∧ w' = w.drew := by
  have hUS := fun (W : World) (q : Option Addr) => Lib.run_unsafeString_none (P := Tryz.prog) W 177 3 9 q
  have c1 : w.drew.cell? ⟨b, 1, none⟩ = some (.slice none 0 0) := by
    have : w.drew.heap[b]? = some (.cells #[p, .slice none 0 0] 149 (0, 0)) := hbk
    rw [Lib.cell_of_heap this]; rfl
  have hSD : (Builtin.unsafeSliceData_ #[41] 177 #[.slice none 0 0]).run Tryz.prog w.drew = .ok (.pointer none) w.drew := rfl
  have mx : Tryz.prog.follows .mixedOrders = true := mixed
  go_enter Tryz.func107, Tryz.ntmps107
  go_wp2
  go_region_o
  all_goals (go_wp2; go_ret; exact ⟨rfl, rfl⟩)
set_option maxHeartbeats 2000000 in
theorem bstr_room (w : World) (b g cap : Nat) (p : Value) (hc : cap ≠ 0) (hbk : w.heap[b]? = some (.cells #[p, .slice (some ⟨g, 0, none⟩) 0 cap] 149 (0, 0))) :
    Calls Tryz.prog 107 #[.pointer (some ⟨b, 0, none⟩)] w fun e w' => e = .returned (.string ⟨#[]⟩) ∧ w' = w.drew := by
  have hUS := fun (W : World) (q : Option Addr) => Lib.run_unsafeString_none (P := Tryz.prog) W 177 3 9 q
  have c1 : w.drew.cell? ⟨b, 1, none⟩ = some (.slice (some ⟨g, 0, none⟩) 0 cap) := by
    have : w.drew.heap[b]? = some (.cells #[p, .slice (some ⟨g, 0, none⟩) 0 cap] 149 (0, 0)) := hbk
    rw [Lib.cell_of_heap this]; rfl
  have hSD : (Builtin.unsafeSliceData_ #[41] 177 #[.slice (some ⟨g, 0, none⟩) 0 cap]).run Tryz.prog w.drew = .ok (.pointer (some ⟨g, 0, none⟩)) w.drew := Lib.run_unsafeSliceData_row _ _ _ _ _ _ hc
  have mx : Tryz.prog.follows .mixedOrders = true := mixed
  go_enter Tryz.func107, Tryz.ntmps107
  go_wp2
  go_region_o
  all_goals (go_wp2; go_ret; exact ⟨rfl, rfl⟩)
theorem Sat.world {C : Ctx} {ρ : Env} {S : AS} {a : Act} {w w' : World} (h : Sat C ρ S a w) (hw : Fr (fun _ => False) w w') : Sat C ρ S a w' :=
  h.step (G := fun _ => False) none ⟨.one .und, []⟩ undef (Env.le_refl ρ) h.one (fun _ _ => rfl) hw (fun _ hg => hg.elim) (fun hne => absurd rfl hne) (fun d hd => by cases hd) (fun _ _ _ _ _ _ _ _ hg => hg)
    (fun _ _ hl => by cases hl) (fun _ _ _ _ _ _ hl => by cases hl)
set_option maxHeartbeats 2000000 in
theorem bstr_full (w : World) (b g : Nat) (p : Value) (cur : Array Value) (fz : Nat × Nat) (hbk : w.heap[b]? = some (.cells #[p, .slice (some ⟨g, 0, none⟩) 0 0] 149 (0, 0))) (hg : w.heap[g]? = some (.cells cur 5 fz)) :
    Calls Tryz.prog 107 #[.pointer (some ⟨b, 0, none⟩)] w fun e w' => e = .returned (.string ⟨#[]⟩) ∧ Fr (fun _ => False) w w' := by
  have hUS := fun (W : World) (q : Option Addr) => Lib.run_unsafeString_none (P := Tryz.prog) W 177 3 9 q
  have hlt : b < w.heap.size := (Array.getElem?_eq_some_iff.1 hbk).1
  have c1 : w.drew.cell? ⟨b, 1, none⟩ = some (.slice (some ⟨g, 0, none⟩) 0 0) := by
    have : w.drew.heap[b]? = some (.cells #[p, .slice (some ⟨g, 0, none⟩) 0 0] 149 (0, 0)) := hbk
    rw [Lib.cell_of_heap this]; rfl
  have hSD : (Builtin.unsafeSliceData_ #[41] 177 #[.slice (some ⟨g, 0, none⟩) 0 0]).run Tryz.prog w.drew = .ok (.pointer (some ⟨w.drew.heap.size, 0, none⟩)) (w.drew.alloc (.view ⟨g, 0, none⟩ 5)) :=
    Lib.run_unsafeSliceData_zero w.drew _ _ 5 (by kernel_rfl) ⟨g, 0, none⟩ 0 (5, cur.size) (by have hg' : w.drew.heap[g]? = some (.cells cur 5 fz) := hg; simp [World.shape?, hg'])
  have c2 : (w.drew.alloc (.view ⟨g, 0, none⟩ 5)).cell? ⟨b, 1, none⟩ = some (.slice (some ⟨g, 0, none⟩) 0 0) := by
    have : (w.drew.alloc (.view ⟨g, 0, none⟩ 5)).heap[b]? = _ := (Lib.alloc_old w.drew _ b hlt).trans hbk
    rw [Lib.cell_of_heap this]; rfl
  have c3 : (w.alloc (.view ⟨g, 0, none⟩ 5)).drew.cell? ⟨b, 1, none⟩ = some (.slice (some ⟨g, 0, none⟩) 0 0) := c2
  have c0 : w.cell? ⟨b, 1, none⟩ = some (.slice (some ⟨g, 0, none⟩) 0 0) := c1
  have mx : Tryz.prog.follows .mixedOrders = true := mixed
  go_enter Tryz.func107, Tryz.ntmps107
  go_wp2
  go_region_o
  all_goals (go_wp2; go_ret; exact ⟨rfl, (Fr.refl _ w).drew.trans (Fr.alloc w.drew _ _)⟩)
def Bytes (l : List Int) : Prop := ∀ n ∈ l, 0 ≤ n ∧ n < 256
def u8s (l : List Int) : List UInt8 := l.map fun n => UInt8.ofNat n.toNat
theorem u8s_cells {l : List Int} (h : Bytes l) : Lib.byteCells (u8s l) = l.map (Value.int .u8) := by
  unfold Lib.byteCells u8s
  rw [List.map_map]
  refine List.map_congr_left fun n hn => ?_
  have := h n hn
  simp only [Function.comp_apply]
  rw [ofNat_toNat this.1 this.2]
theorem ints_flat (k : IntKind) (l : List Int) : Ls.flat (.ints k l) = l.map (Value.int k) := by
  unfold Ls.flat
  simp only [Ls.rows]
  induction l with
  | nil => rfl
  | cons n l ih => simp only [List.map_cons, List.flatten_cons, ih]; rfl
def sp_bstr : ASpec := ⟨fun
  | [.one (.ptr 0 0)], [(0, some (.cells 149 [.mp 0 b, .slc 1])), (1, some (.row 5 (.ints .u8 l)))] => some ([Bytes l], .one (.str (u8s l)), [(0, some (.cells 149 [.mp 0 b, .slc 1])), (1, some (.row 5 (.ints .u8 l)))])
  | _, _ => none⟩
theorem ok_bstr : FnA 107 sp_bstr := by
  refine ⟨body_of Tryz.f107 (by kernel_rfl) (by kernel_rfl) (by kernel_rfl), ?_⟩
  intro args mem ps r post hs hp C ρ w vs hP hw hg hgf hms hdom hargs
  unfold sp_bstr at hs
  simp only at hs
  split at hs
  · rename_i bb l
    cases hs
    have hp : Bytes l := hp
    obtain ⟨u0, e0, b, vs0, q1, q2, q3, q4⟩ := hms.mem 0 _ rfl
    obtain ⟨v1, e1, hown, q5⟩ := hms.mem 1 _ rfl
    have hap := hms.apart 0 1 _ _ u0 v1 (by decide) rfl rfl rfl e0 e1
    have hv : vs = [.pointer (some ⟨b, 0, none⟩)] := by
      cases hargs with
      | cons h1 h2 =>
        cases h2
        simp only [denV, den, denPtr, e0, Option.bind_some, q1, Option.map_some, Option.some.injEq] at h1
        rw [h1]
    subst hv
    obtain ⟨p, us, h1, h2, rfl⟩ := denL_cons_some.1 q2
    obtain ⟨x, us', h3, h4, rfl⟩ := denL_cons_some.1 h2
    cases h4
    have h3 : ρ 1 = some x := h3
    rw [e1] at h3; cases h3
    have hsat := sat_of_ms hms hw 16
    have done : ∀ (w' : World), Fr (fun _ => False) w w' → MS C ρ [(0, some (.cells 149 [.mp 0 bb, .slc 1])), (1, some (.row 5 (.ints .u8 l)))] w' := fun w' hw' =>
      ms_of_sat (hsat.world hw') fun k b hk => by unfold AS.blk; rw [hk]; rfl
    have hdom2 : DomLt ρ 32 := hdom.mono (by decide)
    have zero : ∀ (w' : World), l = [] → Fr (fun _ => False) w w' → ∃ v ρ', Ending.returned (.string ⟨#[]⟩) = .returned v ∧ Fr C.F w w' ∧ MS C ρ' [(0, some (.cells 149 [.mp 0 bb, .slc 1])), (1, some (.row 5 (.ints .u8 l)))] w' ∧ DomLt ρ' 32 ∧ denV ρ' (.one (.str (u8s l))) = some v := by
      rintro w' rfl hw'
      exact ⟨_, ρ, rfl, hw'.mono fun _ _ h => h.elim, done w' hw', hdom2, rfl⟩
    rcases hown.2 with ⟨rfl, hz⟩ | ⟨g, cap, cur, fz, rfl, hbg, hg', hfz, hnc, hcm, hcs, htake⟩
    · have hl : l = [] := List.eq_nil_of_length_eq_zero hz
      refine (bstr_nil w b p q3).mono ?_
      rintro e w' ⟨rfl, rfl⟩
      exact zero _ hl (Fr.refl _ w).drew
    · by_cases hl : l = []
      · have hll : Ls.len (.ints .u8 l) = 0 := by rw [hl]; rfl
        rw [hll] at q3
        by_cases hc : cap = 0
        · subst hc
          refine (bstr_full w b g p cur fz q3 hg').mono ?_
          rintro e w' ⟨rfl, hw'⟩
          exact zero _ hl hw'
        · refine (bstr_room w b g cap p hc q3).mono ?_
          rintro e w' ⟨rfl, rfl⟩
          exact zero _ hl (Fr.refl _ w).drew
      · have hlen : (u8s l).length = l.length := by simp [u8s]
        have hne : u8s l ≠ [] := by intro h0; rw [h0] at hlen; exact hl (List.eq_nil_of_length_eq_zero hlen.symm)
        have hlb : l.length ≤ cap := hnc
        have hfz : fz.2 ≤ l.length := by have h7 := hfz; rw [show (Ls.ints .u8 l).len * (Ls.ints .u8 l).sz = l.length from Nat.mul_one _] at h7; exact h7
        have hlz : Ls.sz (.ints .u8 l) = 1 := rfl
        have hcs1 : cur.size = cap := by rw [hcs, hlz, Nat.mul_one]
        have htk : cur.toList.take l.length = (Ls.ints .u8 l).flat := by
          have h5 : (Ls.ints .u8 l).len * (Ls.ints .u8 l).sz = l.length := by rw [hlz, Nat.mul_one]; rfl
          rw [← htake, h5]
        refine (bstr_row w b g cap p cur fz (u8s l) hne (by rw [hlen]; exact q3) hg' (by rw [hlen]; exact hlb) hcm hcs1 (by
          rw [hlen, u8s_cells hp, ← ints_flat]; exact htk)).mono ?_
        rintro e w' ⟨rfl, rfl⟩
        have hglt : g < w.heap.size := (Array.getElem?_eq_some_iff.1 hg').1
        have hfr : Fr (fun i => i = g) w (w.drew.freeze ⟨g, 0, none⟩ (u8s l).length) := by
          unfold World.freeze
          split
          · exact (Fr.refl _ w).drew
          · refine ⟨rfl, rfl, rfl, by show w.heap.size ≤ (Array.modify _ _ _).size; rw [Array.size_modify]; exact Nat.le_refl _, fun i _ hi => ?_⟩
            simp only [Array.getElem?_modify]
            rw [if_neg (fun h => hi h.symm)]
            rfl
        have hown2 : C.own g := q5 g rfl
        refine ⟨_, ρ, rfl, hfr.mono ?_, ?_, hdom2, rfl⟩
        · intro i hi hig
          subst hig
          rcases hown2 with h6 | h6
          · rw [hw] at h6; omega
          · exact h6
        · have hrow : SBok C.bare ρ (w.drew.freeze ⟨g, 0, none⟩ (u8s l).length) (.slice (some ⟨g, 0, none⟩) (Ls.len (.ints .u8 l)) cap) (.row 5 (.ints .u8 l)) := by
            refine ⟨⟨hown.1, ?_⟩, q5⟩
            have hn0 : (u8s l).length ≠ 0 := by simpa using hne
            unfold World.freeze
            rw [if_neg hn0]
            have hgd : w.drew.heap[g]? = some (.cells cur 5 fz) := hg'
            obtain ⟨lo, hi⟩ := fz
            refine .inr ⟨g, _, cur, (if lo == hi then (0, 0 + (u8s l).length) else (min lo 0, max hi (0 + (u8s l).length))), rfl, hbg, ?_, ?_, hnc, hcm, hcs, htake⟩
            · simp [Array.getElem?_modify, hgd]
            · rw [show (Ls.ints .u8 l).len * (Ls.ints .u8 l).sz = l.length from Nat.mul_one _]
              simp only at hfz
              split <;> simp <;> omega
          have hst := hsat.step (ρ' := ρ) (w' := w.drew.freeze ⟨g, 0, none⟩ (u8s l).length) (G := fun i => i = g) none ⟨.one .und, [(1, some (.row 5 (.ints .u8 l)))]⟩ undef (Env.le_refl ρ) hsat.one (fun _ _ => rfl) hfr
            (fun i hi => by rw [hi]; exact hown2) (fun hne => absurd rfl hne) (fun d hd => by cases hd)
            (by
              intro k x u h6 h7 h8 i h9 h10
              have hk1 : k ≠ 1 := by rintro rfl; cases h6
              by_cases hk0 : k = 0
              · subst hk0
                cases h7
                rw [e0] at h8; cases h8
                subst h10
                exact hap i h9 rfl
              · exfalso
                rw [AS.blk, look_cons, if_neg (fun h => hk0 h.symm), look_cons, if_neg (fun h => hk1 h.symm)] at h7
                cases h7)
            (by
              intro k x h6
              by_cases hk1 : k = 1
              · subst hk1; cases h6
                exact ⟨_, e1, hrow⟩
              · rw [look_cons, if_neg (fun h => hk1 h.symm)] at h6
                cases h6)
            (by
              intro k x u k' x' u' h6 h7 hkk h8 h9 hm
              have hk1 : k = 1 := by
                by_cases hk1 : k = 1
                · exact hk1
                · rw [look_cons, if_neg (fun h => hk1 h.symm)] at h6
                  cases h6
              subst hk1
              cases h6
              rw [e1] at h7; cases h7
              rcases h8 with h8 | ⟨_, h8⟩
              · exfalso
                rw [look_cons, if_neg (fun h => hkk h.symm)] at h8
                cases h8
              · by_cases hk0 : k' = 0
                · subst hk0
                  cases h8
                  rw [e0] at h9; cases h9
                  exact hap.symm
                · exfalso
                  rw [AS.blk, look_cons, if_neg (fun h => hk0 h.symm), look_cons, if_neg (fun h => hkk h.symm)] at h8
                  cases h8)
          refine ms_of_sat hst fun k x hk => ?_
          show (look k ((1, some (.row 5 (.ints .u8 l))) :: [(0, some (.cells 149 [.mp 0 bb, .slc 1])), (1, some (.row 5 (.ints .u8 l)))])).join = some x
          by_cases hk1 : 1 = k
          · subst hk1
            cases hk
            rfl
          · rw [look_cons, if_neg hk1, hk]; rfl
  · cases hs
end Go.Proofs.YtglfkihckkjniaaGreatDoor.Vx
namespace Go.Proofs.YtglfkihckkjniaaGreatDoor.Vx
open Go Go.RowKit
def scanStep : List Int → Int → Int → List Int × Int × Int × List Iv
  | [], a, o => ([], a, o, [])
  | r :: l, a, o =>
    if r = 39 then
      match l with
      | x :: m => if x = 39 then (m, a + 1 + 1, o, [.quoted 39 a]) else if o < 0 then (l, a + 1, a, []) else (l, a + 1, -1, [])
      | [] => if o < 0 then (l, a + 1, a, []) else (l, a + 1, -1, [])
    else if o < 0 then (l, a + (enc r).length, o, [.plain r a]) else (l, a + (enc r).length, o, [.quoted r a])
def Upto {α : Type} (l : List α) : Type := {i : Nat // i ≤ l.length}
def bys (l : List Int) : List Int := l.flatMap Lib.encodeRuneZ
def sp_utext : FSpec := ⟨[.one (.rd (.ints .i32 []))], fun | [.one (.rd (.ints .i32 l))] => some ([Scalars l, l.length ≤ 1000000000], .tup [(false, [.str (encs l)]), (false, [.bool true])]) | _ => none⟩
theorem vc_utext (l : List Int) : vcP [(102, sp_uscalar)] [(104, sp_writeRune), (107, sp_bstr)] misc Tryz.f111 (.loop 3 (Upto l) (fun i => ⟨[(4, .one (.ptr 17 0)), (7, .one (.slc 0)), (8, .one (.int .i64 l.length)), (9, .one (.int .i64 i.1))], [(0, some (.read (.ints .i32 l))), (17, some (.cells 149 [.mp 17 (decide (0 < i.1)), .slc 18])), (18, some (.row 5 (.ints .u8 (bys (l.take i.1)))))], 19⟩) (fun i => l.length - i.1) (fun _ => .nil) .nil) [.one (.rd (.ints .i32 l))] (.tup [(false, [.str (encs l)]), (false, [.bool true])]) = ((∃ (x : Upto l), (↑(List.length l) : Int) = (↑(List.length l) : Int) ∧ (0 : Int) = (↑(Subtype.val x) : Int) ∧ l = l ∧ false = decide ((0 : Nat) < Subtype.val x) ∧ [] = bys (List.take (Subtype.val x) l)) ∧ ∀ (x : Upto l), br (decide ((↑(Subtype.val x) : Int) < (↑(List.length l) : Int))) (((0 : Int) ≤ (↑(Subtype.val x) : Int) ∧ (↑(Subtype.val x) : Int) < (↑(List.length l) : Int)) ∧ Int.toNat (↑(Subtype.val x) : Int) < List.length l ∧ br (!scalar (List.getD l (Int.toNat (↑(Subtype.val x) : Int)) (0 : Int))) (([] : List UInt8) = encs l ∧ false = true) (scalar (List.getD l (Int.toNat (↑(Subtype.val x) : Int)) (0 : Int)) = true ∧ List.length (bys (List.take (Subtype.val x) l)) ≤ (1000000000000 : Nat) ∧ inR IntKind.i64 ((↑(Subtype.val x) : Int) + (1 : Int)) ∧ ∃ (x' : Upto l), ((↑(List.length l) : Int) = (↑(List.length l) : Int) ∧ (↑(Subtype.val x) : Int) + (1 : Int) = (↑(Subtype.val x') : Int) ∧ l = l ∧ true = decide ((0 : Nat) < Subtype.val x') ∧ bys (List.take (Subtype.val x) l) ++ Lib.encodeRuneZ (List.getD l (Int.toNat (↑(Subtype.val x) : Int)) (0 : Int)) = bys (List.take (Subtype.val x') l)) ∧ List.length l - Subtype.val x' < List.length l - Subtype.val x)) ((∀ (n : Int), n ∈ bys (List.take (Subtype.val x) l) → (0 : Int) ≤ n ∧ n < (256 : Int)) ∧ u8s (bys (List.take (Subtype.val x) l)) = encs l ∧ true = true)) := by kernel_rfl
set_option maxHeartbeats 4000000 in
theorem of_utext (h : ∀ (l : List Int), (Scalars l) → (l.length ≤ 1000000000) → vcP [(102, sp_uscalar)] [(104, sp_writeRune), (107, sp_bstr)] misc Tryz.f111 (.loop 3 (Upto l) (fun i => ⟨[(4, .one (.ptr 17 0)), (7, .one (.slc 0)), (8, .one (.int .i64 l.length)), (9, .one (.int .i64 i.1))], [(0, some (.read (.ints .i32 l))), (17, some (.cells 149 [.mp 17 (decide (0 < i.1)), .slc 18])), (18, some (.row 5 (.ints .u8 (bys (l.take i.1)))))], 19⟩) (fun i => l.length - i.1) (fun _ => .nil) .nil) [.one (.rd (.ints .i32 l))] (.tup [(false, [.str (encs l)]), (false, [.bool true])])) : FnP 111 sp_utext := by
  refine fnP_ok (cs := [(102, sp_uscalar)]) (cas := [(104, sp_writeRune), (107, sp_bstr)]) (ms := misc) (.cons ok_uscalar .nil) (.cons ok_writeRune (.cons ok_bstr .nil)) misc_ok 111 Tryz.f111 (by kernel_rfl) (by kernel_rfl) (by kernel_rfl) (fun | [.one (.rd (.ints .i32 l))] => .loop 3 (Upto l) (fun i => ⟨[(4, .one (.ptr 17 0)), (7, .one (.slc 0)), (8, .one (.int .i64 l.length)), (9, .one (.int .i64 i.1))], [(0, some (.read (.ints .i32 l))), (17, some (.cells 149 [.mp 17 (decide (0 < i.1)), .slc 18])), (18, some (.row 5 (.ints .u8 (bys (l.take i.1)))))], 19⟩) (fun i => l.length - i.1) (fun _ => .nil) .nil | _ => .nil) ?_
  intro pvs p r hs hp
  unfold sp_utext at hs
  simp only at hs
  split at hs
  · rename_i l
    cases hs
    refine h l ?_ ?_
    · exact hp.1
    · exact hp.2
  · cases hs
theorem take_next {α : Type} (l : List α) (d : α) {i : Nat} (h : i < l.length) : l.take (i + 1) = l.take i ++ [l.getD i d] := by
  rw [List.take_add_one, List.getElem?_eq_getElem h, List.getD_eq_getElem?_getD, List.getElem?_eq_getElem h]
  rfl
theorem getD_mem' {α : Type} {l : List α} {d : α} {i : Nat} (h : i < l.length) : l.getD i d ∈ l := by
  rw [List.getD_eq_getElem?_getD, List.getElem?_eq_getElem h]
  exact List.getElem_mem h
theorem bys_append (l m : List Int) : bys (l ++ m) = bys l ++ bys m := by simp [bys]
theorem bys_one (r : Int) : bys [r] = Lib.encodeRuneZ r := by simp [bys]
theorem bys_bytes (l : List Int) : Bytes (bys l) := by
  intro n hn
  obtain ⟨r, _, h⟩ := List.mem_flatMap.1 hn
  exact Lib.encodeRuneZ_byte r n h
theorem u8s_bys (l : List Int) : u8s (bys l) = encs l := by
  unfold u8s bys encs
  rw [List.map_flatMap]
  rfl
theorem bys_len (l : List Int) : (bys l).length ≤ 4 * l.length := by
  have h := (encs_len l).2
  rw [← u8s_bys] at h
  simpa [u8s] using h
theorem ok_utext : FnP 111 sp_utext := of_utext (by
  intro l hl hn
  rw [vc_utext]
  refine ⟨⟨⟨0, Nat.zero_le _⟩, rfl, rfl, rfl, rfl, rfl⟩, fun i => br_of (fun h => ?_) fun h => ?_⟩
  · have h : i.1 < l.length := by simpa using h
    have hs : scalar (l.getD i.1 0) = true := hl _ (getD_mem' h)
    have := bys_len (l.take i.1)
    have h2 : (l.take i.1).length ≤ l.length := by simp; omega
    rw [Int.toNat_natCast]
    refine ⟨⟨by omega, by omega⟩, h, br_of (fun h1 => ?_) fun h1 => ⟨hs, by omega, by simp only [inR]; omega, ⟨i.1 + 1, by omega⟩, ⟨rfl, rfl, rfl, by simp, ?_⟩, by show l.length - (i.1 + 1) < l.length - i.1; omega⟩⟩
    · rw [hs] at h1; cases h1
    · show _ = bys (l.take (i.1 + 1))
      rw [take_next l 0 h, bys_append, bys_one]
  · have h : ¬ i.1 < l.length := by simpa using h
    rw [List.take_of_length_le (by omega)]
    exact ⟨bys_bytes l, u8s_bys l, rfl⟩)
def sp_tsize : FSpec := ⟨[], fun | [.one (.int .i32 r)] => some ([scalar r = true], .one (.int .i64 (enc r).length)) | _ => none⟩
theorem vc_tsize (r : Int) : vcP [(111, sp_utext)] [] misc Tryz.f83 (.nil) [.one (.int .i32 r)] (.one (.int .i64 (enc r).length)) = ((∀ (r_1 : Int), r_1 ∈ [] ++ [r] → scalar r_1 = true) ∧ List.length ([] ++ [r]) ≤ (1000000000 : Nat) ∧ (↑(List.length (encs ([] ++ [r]))) : Int) = (↑(List.length (enc r)) : Int)) := by kernel_rfl
set_option maxHeartbeats 4000000 in
theorem of_tsize (h : ∀ (r : Int), (scalar r = true) → vcP [(111, sp_utext)] [] misc Tryz.f83 (.nil) [.one (.int .i32 r)] (.one (.int .i64 (enc r).length))) : FnP 83 sp_tsize := by
  refine fnP_ok (cs := [(111, sp_utext)]) (cas := []) (ms := misc) (.cons ok_utext .nil) .nil misc_ok 83 Tryz.f83 (by kernel_rfl) (by kernel_rfl) (by kernel_rfl) (fun _ => .nil) ?_
  intro pvs p r hs hp
  unfold sp_tsize at hs
  simp only at hs
  split at hs
  · rename_i r
    cases hs
    refine h r ?_
    · exact hp
  · cases hs
theorem encs_one (r : Int) : encs [r] = enc r := by simp [encs]
theorem ok_tsize : FnP 83 sp_tsize := of_tsize (by
  intro r hr
  rw [vc_tsize]
  refine ⟨fun x hx => ?_, by simp, by rw [List.nil_append, encs_one]⟩
  rw [List.nil_append, List.mem_singleton] at hx
  rw [hx]; exact hr)
def sp_snext : ASpec := ⟨fun | [.one (.ptr 0 0)], [(0, some (.cells 101 [.slc 1, .int .i64 at_, .int .i64 op, .slc 2])), (1, some (.read (.ints .i32 l))), (2, some (.row 103 (.ivs ps)))] => some ([Scalars l, l ≠ [], 0 ≤ at_ ∧ at_ + 4 * l.length ≤ 4000000000, ps.length ≤ 1000000000], .tup [], (let x := scanStep l at_ op; [(0, some (.cells 101 [.slc 16, .int .i64 x.2.1, .int .i64 x.2.2.1, .slc 17])), (16, some (.read (.ints .i32 x.1))), (17, some (.row 103 (.ivs (ps ++ x.2.2.2))))])) | _, _ => none⟩
theorem vc_snext (l : List Int) (at_ op : Int) (ps : List Iv) : vcA [(83, sp_tsize)] [] misc Tryz.f58 (.turns 14 3 (fun _ => .nil) .nil) [.one (.ptr 0 0)] [(0, some (.cells 101 [.slc 1, .int .i64 at_, .int .i64 op, .slc 2])), (1, some (.read (.ints .i32 l))), (2, some (.row 103 (.ivs ps)))] (.tup []) (let x := scanStep l at_ op; [(0, some (.cells 101 [.slc 16, .int .i64 x.2.1, .int .i64 x.2.2.1, .slc 17])), (16, some (.read (.ints .i32 x.1))), (17, some (.row 103 (.ivs (ps ++ x.2.2.2))))]) = (letI v0 := (br (List.getD l (Int.toNat (0 : Int)) (0 : Int) == (39 : Int)) (scalar (List.getD l (Int.toNat (0 : Int)) (0 : Int)) = true ∧ inR IntKind.i64 (at_ + (↑(List.length (enc (List.getD l (Int.toNat (0 : Int)) (0 : Int)))) : Int)) ∧ inR IntKind.i64 ((0 : Int) + (1 : Int)) ∧ ((0 : Int) ≤ (1 : Int) ∧ (1 : Int) ≤ (↑(List.length l) : Int)) ∧ at_ + (↑(List.length (enc (List.getD l (Int.toNat (0 : Int)) (0 : Int)))) : Int) = (scanStep l at_ op).2.1 ∧ (-1 : Int) = (scanStep l at_ op).2.2.1 ∧ List.drop (Int.toNat (1 : Int)) (List.take (List.length l) l) = (scanStep l at_ op).1 ∧ ps = ps ++ (scanStep l at_ op).2.2.2) (br (decide (op < (0 : Int))) ((List.length ps + (1 : Nat)) * (16 : Nat) ≤ (140737488355328 : Nat) ∧ scalar (List.getD l (Int.toNat (0 : Int)) (0 : Int)) = true ∧ inR IntKind.i64 (at_ + (↑(List.length (enc (List.getD l (Int.toNat (0 : Int)) (0 : Int)))) : Int)) ∧ inR IntKind.i64 ((0 : Int) + (1 : Int)) ∧ ((0 : Int) ≤ (1 : Int) ∧ (1 : Int) ≤ (↑(List.length l) : Int)) ∧ at_ + (↑(List.length (enc (List.getD l (Int.toNat (0 : Int)) (0 : Int)))) : Int) = (scanStep l at_ op).2.1 ∧ op = (scanStep l at_ op).2.2.1 ∧ List.drop (Int.toNat (1 : Int)) (List.take (List.length l) l) = (scanStep l at_ op).1 ∧ ps ++ [Iv.plain (List.getD l (Int.toNat (0 : Int)) (0 : Int)) at_] = ps ++ (scanStep l at_ op).2.2.2) ((List.length ps + (1 : Nat)) * (16 : Nat) ≤ (140737488355328 : Nat) ∧ scalar (List.getD l (Int.toNat (0 : Int)) (0 : Int)) = true ∧ inR IntKind.i64 (at_ + (↑(List.length (enc (List.getD l (Int.toNat (0 : Int)) (0 : Int)))) : Int)) ∧ inR IntKind.i64 ((0 : Int) + (1 : Int)) ∧ ((0 : Int) ≤ (1 : Int) ∧ (1 : Int) ≤ (↑(List.length l) : Int)) ∧ at_ + (↑(List.length (enc (List.getD l (Int.toNat (0 : Int)) (0 : Int)))) : Int) = (scanStep l at_ op).2.1 ∧ op = (scanStep l at_ op).2.2.1 ∧ List.drop (Int.toNat (1 : Int)) (List.take (List.length l) l) = (scanStep l at_ op).1 ∧ ps ++ [Iv.quoted (List.getD l (Int.toNat (0 : Int)) (0 : Int)) at_] = ps ++ (scanStep l at_ op).2.2.2))); letI v1 := (br (List.getD l (Int.toNat (0 : Int)) (0 : Int) == (39 : Int)) (br (decide (op < (0 : Int))) (scalar (List.getD l (Int.toNat (0 : Int)) (0 : Int)) = true ∧ inR IntKind.i64 (at_ + (↑(List.length (enc (List.getD l (Int.toNat (0 : Int)) (0 : Int)))) : Int)) ∧ inR IntKind.i64 ((0 : Int) + (1 : Int)) ∧ ((0 : Int) ≤ (1 : Int) ∧ (1 : Int) ≤ (↑(List.length l) : Int)) ∧ at_ + (↑(List.length (enc (List.getD l (Int.toNat (0 : Int)) (0 : Int)))) : Int) = (scanStep l at_ op).2.1 ∧ at_ = (scanStep l at_ op).2.2.1 ∧ List.drop (Int.toNat (1 : Int)) (List.take (List.length l) l) = (scanStep l at_ op).1 ∧ ps = ps ++ (scanStep l at_ op).2.2.2) v0) v0); letI v2 := (↑(List.length (enc (List.getD l (Int.toNat (0 : Int)) (0 : Int)))) : Int); (((0 : Int) ≤ (0 : Int) ∧ (0 : Int) < (↑(List.length l) : Int)) ∧ Int.toNat (0 : Int) < List.length l ∧ br (List.getD l (Int.toNat (0 : Int)) (0 : Int) == (39 : Int)) (br (decide ((↑(List.length l) : Int) > (1 : Int))) (((0 : Int) ≤ (1 : Int) ∧ (1 : Int) < (↑(List.length l) : Int)) ∧ Int.toNat (1 : Int) < List.length l ∧ br (List.getD l (Int.toNat (1 : Int)) (0 : Int) == (39 : Int)) ((List.length ps + (1 : Nat)) * (16 : Nat) ≤ (140737488355328 : Nat) ∧ scalar (List.getD l (Int.toNat (0 : Int)) (0 : Int)) = true ∧ inR IntKind.i64 (at_ + v2) ∧ inR IntKind.i64 ((0 : Int) + (1 : Int)) ∧ scalar (List.getD l (Int.toNat (0 : Int)) (0 : Int)) = true ∧ inR IntKind.i64 (at_ + v2 + v2) ∧ inR IntKind.i64 ((0 : Int) + (1 : Int) + (1 : Int)) ∧ ((0 : Int) ≤ (2 : Int) ∧ (2 : Int) ≤ (↑(List.length l) : Int)) ∧ at_ + v2 + v2 = (scanStep l at_ op).2.1 ∧ op = (scanStep l at_ op).2.2.1 ∧ List.drop (Int.toNat (2 : Int)) (List.take (List.length l) l) = (scanStep l at_ op).1 ∧ ps ++ [Iv.quoted (39 : Int) at_] = ps ++ (scanStep l at_ op).2.2.2) v1) v1) v1)) := by kernel_rfl
set_option maxHeartbeats 4000000 in
theorem of_snext (h : ∀ (l : List Int) (at_ op : Int) (ps : List Iv), (Scalars l) → (l ≠ []) → (0 ≤ at_ ∧ at_ + 4 * l.length ≤ 4000000000) → (ps.length ≤ 1000000000) → vcA [(83, sp_tsize)] [] misc Tryz.f58 (.turns 14 3 (fun _ => .nil) .nil) [.one (.ptr 0 0)] [(0, some (.cells 101 [.slc 1, .int .i64 at_, .int .i64 op, .slc 2])), (1, some (.read (.ints .i32 l))), (2, some (.row 103 (.ivs ps)))] (.tup []) (let x := scanStep l at_ op; [(0, some (.cells 101 [.slc 16, .int .i64 x.2.1, .int .i64 x.2.2.1, .slc 17])), (16, some (.read (.ints .i32 x.1))), (17, some (.row 103 (.ivs (ps ++ x.2.2.2))))])) : FnA 58 sp_snext := by
  refine fnA_ok (cs := [(83, sp_tsize)]) (cas := []) (ms := misc) (.cons ok_tsize .nil) .nil misc_ok 58 Tryz.f58 (by kernel_rfl) (by kernel_rfl) (by kernel_rfl) (fun | [.one (.ptr 0 0)], [(0, some (.cells 101 [.slc 1, .int .i64 at_, .int .i64 op, .slc 2])), (1, some (.read (.ints .i32 l))), (2, some (.row 103 (.ivs ps)))] => .turns 14 3 (fun _ => .nil) .nil | _, _ => .nil) ?_
  intro args mem p r post hs hp
  unfold sp_snext at hs
  simp only at hs
  split at hs
  · rename_i at_ op l ps
    cases hs
    refine h l at_ op ps ?_ ?_ ?_ ?_
    · exact hp.1
    · exact hp.2.1
    · exact hp.2.2.1
    · exact hp.2.2.2
  · cases hs
theorem enc39 : (enc 39).length = 1 := by decide
set_option maxHeartbeats 2000000 in
theorem ok_snext : FnA 58 sp_snext := of_snext (by
  intro l at_ op ps hl hne hat hps
  rw [vc_snext]
  obtain ⟨r, m, rfl⟩ := List.exists_cons_of_ne_nil hne
  have hr : scalar r = true := hl r (by simp)
  have he := enc_len r
  have hlen : (r :: m).length = m.length + 1 := rfl
  have g0 : (r :: m).getD (Int.toNat 0) 0 = r := rfl
  have t0 : Int.toNat 0 = 0 := rfl
  have t1 : Int.toNat 1 = 1 := rfl
  have t2 : Int.toNat 2 = 2 := rfl
  rw [g0]
  have e8 := enc39
  have take_all : (r :: m).take (r :: m).length = r :: m := List.take_length
  refine ⟨⟨by omega, by omega⟩, by rw [t0]; omega, ?_⟩
  by_cases h39 : r = 39
  · subst h39
    have e1 : ((39 : Int) == 39) = true := rfl
    cases m with
    | nil =>
      have e2 : decide (((([39] : List Int).length : Nat) : Int) > 1) = false := by decide
      by_cases ho : op < 0
      · simp only [e1, e2, br, decide_eq_true ho, take_all]
        refine ⟨hr, by simp only [inR]; omega, by simp only [inR]; omega, ⟨by omega, by simp⟩, ?_, ?_, ?_, ?_⟩ <;> simp [scanStep, ho, e8, t1]
      · simp only [e1, e2, br, decide_eq_false ho, take_all]
        refine ⟨hr, by simp only [inR]; omega, by simp only [inR]; omega, ⟨by omega, by simp⟩, ?_, ?_, ?_, ?_⟩ <;> simp [scanStep, ho, e8, t1]
    | cons x m =>
      have e2 : decide ((((39 :: x :: m : List Int).length : Nat) : Int) > 1) = true := by simp; omega
      have e3 : (39 :: x :: m : List Int).getD (Int.toNat 1) 0 = x := rfl
      by_cases hx : x = 39
      · subst hx
        simp only [e1, e2, e3, br, take_all]
        refine ⟨⟨by omega, by simp; omega⟩, by simp [t1], by omega, hr, by simp only [inR]; omega, by simp only [inR]; omega, hr, by simp only [inR]; omega, by simp only [inR]; omega, ⟨by omega, by simp; omega⟩, ?_, ?_, ?_, ?_⟩ <;> simp [scanStep, e8, t2]
      · have e4 : (x == 39) = false := by simpa using hx
        by_cases ho : op < 0
        · simp only [e1, e2, e3, e4, br, decide_eq_true ho, take_all]
          refine ⟨⟨by omega, by simp; omega⟩, by simp [t1], hr, by simp only [inR]; omega, by simp only [inR]; omega, ⟨by omega, by simp; omega⟩, ?_, ?_, ?_, ?_⟩ <;> simp [scanStep, ho, e8, t1, hx]
        · simp only [e1, e2, e3, e4, br, decide_eq_false ho, take_all]
          refine ⟨⟨by omega, by simp; omega⟩, by simp [t1], hr, by simp only [inR]; omega, by simp only [inR]; omega, ⟨by omega, by simp; omega⟩, ?_, ?_, ?_, ?_⟩ <;> simp [scanStep, ho, e8, t1, hx]
  · have e1 : (r == 39) = false := by simpa using h39
    by_cases ho : op < 0
    · simp only [e1, br, decide_eq_true ho, take_all]
      refine ⟨by omega, hr, by simp only [inR]; omega, by simp only [inR]; omega, ⟨by omega, by simp; omega⟩, ?_, ?_, ?_, ?_⟩ <;> simp [scanStep, ho, h39, t1]
    · simp only [e1, br, decide_eq_false ho, take_all]
      refine ⟨by omega, hr, by simp only [inR]; omega, by simp only [inR]; omega, ⟨by omega, by simp; omega⟩, ?_, ?_, ?_, ?_⟩ <;> simp [scanStep, ho, h39, t1])
def Iv.tok : Iv → Tok
  | .single r q p => ⟨r, q, p⟩
  | .padding r p => ⟨r, false, p⟩
  | .plain r p => ⟨r, false, p⟩
  | .quoted r p => ⟨r, true, p⟩
def sp_tokenP : FSpec := ⟨[], fun | [.one (.iv (.plain r p))] => some ([], .agg [.int .i32 r, .bool false, .int .i64 p]) | _ => none⟩
theorem vc_tokenP (r p : Int) : vcP [] [] misc Tryz.f59 (.nil) [.one (.iv (.plain r p))] (.agg [.int .i32 r, .bool false, .int .i64 p]) = (Iv.isT (Iv.plain r p) = true ∧ Iv.lR (Iv.plain r p) = r ∧ false = false ∧ Iv.at_ (Iv.plain r p) = p) := by kernel_rfl
set_option maxHeartbeats 4000000 in
theorem of_tokenP (h : ∀ (r p : Int), vcP [] [] misc Tryz.f59 (.nil) [.one (.iv (.plain r p))] (.agg [.int .i32 r, .bool false, .int .i64 p])) : FnP 59 sp_tokenP := by
  refine fnP_ok (cs := []) (cas := []) (ms := misc) .nil .nil misc_ok 59 Tryz.f59 (by kernel_rfl) (by kernel_rfl) (by kernel_rfl) (fun _ => .nil) ?_
  intro pvs p r hs hp
  unfold sp_tokenP at hs
  simp only at hs
  split at hs
  · rename_i r p
    cases hs
    refine h r p
  · cases hs
def sp_tokenQ : FSpec := ⟨[], fun | [.one (.iv (.quoted r p))] => some ([], .agg [.int .i32 r, .bool true, .int .i64 p]) | _ => none⟩
theorem vc_tokenQ (r p : Int) : vcP [] [] misc Tryz.f59 (.nil) [.one (.iv (.quoted r p))] (.agg [.int .i32 r, .bool true, .int .i64 p]) = (Iv.isT (Iv.quoted r p) = true ∧ Iv.qR (Iv.quoted r p) = r ∧ true = true ∧ Iv.at_ (Iv.quoted r p) = p) := by kernel_rfl
set_option maxHeartbeats 4000000 in
theorem of_tokenQ (h : ∀ (r p : Int), vcP [] [] misc Tryz.f59 (.nil) [.one (.iv (.quoted r p))] (.agg [.int .i32 r, .bool true, .int .i64 p])) : FnP 59 sp_tokenQ := by
  refine fnP_ok (cs := []) (cas := []) (ms := misc) .nil .nil misc_ok 59 Tryz.f59 (by kernel_rfl) (by kernel_rfl) (by kernel_rfl) (fun _ => .nil) ?_
  intro pvs p r hs hp
  unfold sp_tokenQ at hs
  simp only at hs
  split at hs
  · rename_i r p
    cases hs
    refine h r p
  · cases hs
def sp_token : FSpec := ⟨[], fun | [.one (.iv y)] => some ([y.isT = true], .agg [.int .i32 y.tok.r, .bool y.tok.q, .int .i64 y.tok.p]) | _ => none⟩
theorem ok_tokenP : FnP 59 sp_tokenP := of_tokenP (by intro r p; rw [vc_tokenP]; exact ⟨rfl, rfl, rfl, rfl⟩)
theorem ok_tokenQ : FnP 59 sp_tokenQ := of_tokenQ (by intro r p; rw [vc_tokenQ]; exact ⟨rfl, rfl, rfl, rfl⟩)
theorem ok_token : FnP 59 sp_token := by
  refine ⟨ok_tokenP.body, ?_⟩
  intro pvs p r hs hp
  unfold sp_token at hs
  simp only at hs
  split at hs
  · rename_i y
    cases hs
    cases y with
    | plain r p => exact ok_tokenP.calls _ [] _ rfl trivial
    | quoted r p => exact ok_tokenQ.calls _ [] _ rfl trivial
    | single r q p => exact absurd hp Bool.false_ne_true
    | padding r p => exact absurd hp Bool.false_ne_true
  · cases hs
def scanN : Nat → List Int → Int → Int → Int × List Iv
  | 0, _, _, o => (o, [])
  | _ + 1, [], _, o => (o, [])
  | n + 1, r :: m, a, o =>
    let x := scanStep (r :: m) a o
    let y := scanN n x.1 x.2.1 x.2.2.1
    (y.1, x.2.2.2 ++ y.2)
def scanF (s : List UInt8) : Int × List Iv := scanN (decomp s).1.length (decomp s).1 0 (-1)
def scanT (s : List UInt8) : List Tok × Int × Int :=
  if 0 ≤ badAt s then ([], 2, badAt s)
  else if 0 ≤ (scanF s).1 then ([], 3, (scanF s).1)
  else if 400 < (scanF s).2.length then ([], 8, 0)
  else ((scanF s).2.map Iv.tok, 0, 0)
structure SS (l : List Int) (F : Int × List Iv) where
  n : Nat
  rest : List Int
  at_ : Int
  op : Int
  ps : List Iv
  sc : Scalars rest
  fuel : rest.length ≤ n
  at0 : 0 ≤ at_
  big : at_ + 4 * rest.length ≤ 4 * l.length
  few : ps.length + rest.length ≤ l.length
  isT : ∀ y ∈ ps, Iv.isT y = true
  fin1 : (scanN n rest at_ op).1 = F.1
  fin2 : ps ++ (scanN n rest at_ op).2 = F.2
def sp_tscan : FSpec := ⟨[], fun | [.one (.str s)] => some ([s.length ≤ 1000000], .tup [(false, [.rd (.toks (scanT s).1)]), (true, [.int .i64 (scanT s).2.1, .int .i64 (scanT s).2.2])]) | _ => none⟩
theorem vc_tscan (s : List UInt8) : vcP [(56, sp_bad), (57, sp_urunes), (59, sp_token)] [(58, sp_snext)] misc Tryz.f30 (.loop 6 (SS (decomp s).1 (scanF s)) (fun x => ⟨[(3, .one (.ptr 16 0)), (7, .one (.ptr 17 0))], [(16, some (.cells 28 [.int .i64 0, .int .i64 0])), (17, some (.cells 101 [.slc 18, .int .i64 x.at_, .int .i64 x.op, .slc 19])), (18, some (.read (.ints .i32 x.rest))), (19, some (.row 103 (.ivs x.ps)))], 20⟩) (fun x => x.rest.length) (fun _ => .nil) (.loop 14 (Upto (scanF s).2) (fun i => ⟨[(3, .one (.ptr 16 0)), (8, .one (.slc 20)), (47, .one (.slc 19)), (48, .one (.int .i64 (scanF s).2.length)), (49, .one (.int .i64 i.1))], [(16, some (.cells 28 [.int .i64 0, .int .i64 0])), (19, some (.row 103 (.ivs (scanF s).2))), (20, some (.row 71 (.toks (((scanF s).2.take i.1).map Iv.tok))))], 21⟩) (fun i => (scanF s).2.length - i.1) (fun _ => .nil) .nil)) [.one (.str s)] (.tup [(false, [.rd (.toks (scanT s).1)]), (true, [.int .i64 (scanT s).2.1, .int .i64 (scanT s).2.2])]) = (letI v0 := (↑(List.length (scanF s).2) : Int); (List.length s ≤ (1000000000 : Nat) ∧ br (decide (badAt s ≥ (0 : Int))) ([] = (scanT s).1 ∧ (2 : Int) = (scanT s).2.1 ∧ badAt s = (scanT s).2.2) (List.length s ≤ (1000000000 : Nat) ∧ (∃ (x : SS (Prod.fst (decomp s)) (scanF s)), (0 : Int) = (0 : Int) ∧ (0 : Int) = (0 : Int) ∧ (0 : Int) = SS.at_ x ∧ (-1 : Int) = SS.op x ∧ (if badAt s < (0 : Int) then (decomp s).1 else []) = SS.rest x ∧ SS.ps x = []) ∧ ∀ (x : SS (Prod.fst (decomp s)) (scanF s)), br (decide ((↑(List.length (SS.rest x)) : Int) > (0 : Int))) ((∀ (r : Int), r ∈ SS.rest x → scalar r = true) ∧ SS.rest x ≠ [] ∧ ((0 : Int) ≤ SS.at_ x ∧ SS.at_ x + (4 : Int) * (↑(List.length (SS.rest x)) : Int) ≤ (4000000000 : Int)) ∧ List.length (SS.ps x) ≤ (1000000000 : Nat) ∧ ∃ (x' : SS (Prod.fst (decomp s)) (scanF s)), ((0 : Int) = (0 : Int) ∧ (0 : Int) = (0 : Int) ∧ (scanStep (SS.rest x) (SS.at_ x) (SS.op x)).2.1 = SS.at_ x' ∧ (scanStep (SS.rest x) (SS.at_ x) (SS.op x)).2.2.1 = SS.op x' ∧ (scanStep (SS.rest x) (SS.at_ x) (SS.op x)).1 = SS.rest x' ∧ SS.ps x ++ (scanStep (SS.rest x) (SS.at_ x) (SS.op x)).2.2.2 = SS.ps x') ∧ List.length (SS.rest x') < List.length (SS.rest x)) (br (decide (SS.op x ≥ (0 : Int))) ([] = (scanT s).1 ∧ (3 : Int) = (scanT s).2.1 ∧ SS.op x = (scanT s).2.2) (br (decide ((↑(List.length (SS.ps x)) : Int) > (400 : Int))) ([] = (scanT s).1 ∧ (8 : Int) = (scanT s).2.1 ∧ (0 : Int) = (scanT s).2.2) ((0 : Int) = (0 : Int) ∧ ((0 : Int) ≤ (↑(List.length (SS.ps x)) : Int) ∧ (↑(List.length (SS.ps x)) : Int) ≤ (140737488355327 : Int) ∧ (16 : Nat) * Int.toNat (↑(List.length (SS.ps x)) : Int) ≤ (281474976710656 : Nat)) ∧ (∃ (x_1 : Upto (Prod.snd (scanF s))), (↑(List.length (SS.ps x)) : Int) = v0 ∧ (0 : Int) = (↑(Subtype.val x_1) : Int) ∧ (0 : Int) = (0 : Int) ∧ (0 : Int) = (0 : Int) ∧ SS.ps x = (scanF s).2 ∧ [] = List.map Iv.tok (List.take (Subtype.val x_1) (scanF s).2)) ∧ ∀ (x : Upto (Prod.snd (scanF s))), br (decide ((↑(Subtype.val x) : Int) < v0)) (((0 : Int) ≤ (↑(Subtype.val x) : Int) ∧ (↑(Subtype.val x) : Int) < v0) ∧ Int.toNat (↑(Subtype.val x) : Int) < List.length (scanF s).2 ∧ Iv.isT (List.getD (scanF s).2 (Int.toNat (↑(Subtype.val x) : Int)) default) = true ∧ (List.length (List.map Iv.tok (List.take (Subtype.val x) (scanF s).2)) + (1 : Nat)) * (16 : Nat) ≤ (140737488355328 : Nat) ∧ inR IntKind.i64 ((↑(Subtype.val x) : Int) + (1 : Int)) ∧ ∃ (x' : Upto (Prod.snd (scanF s))), (v0 = v0 ∧ (↑(Subtype.val x) : Int) + (1 : Int) = (↑(Subtype.val x') : Int) ∧ (0 : Int) = (0 : Int) ∧ (0 : Int) = (0 : Int) ∧ (scanF s).2 = (scanF s).2 ∧ List.map Iv.tok (List.take (Subtype.val x) (scanF s).2) ++ [{ r := Tok.r (Iv.tok (List.getD (scanF s).2 (Int.toNat (↑(Subtype.val x) : Int)) default)), q := Tok.q (Iv.tok (List.getD (scanF s).2 (Int.toNat (↑(Subtype.val x) : Int)) default)), p := Tok.p (Iv.tok (List.getD (scanF s).2 (Int.toNat (↑(Subtype.val x) : Int)) default)) }] = List.map Iv.tok (List.take (Subtype.val x') (scanF s).2)) ∧ List.length (scanF s).2 - Subtype.val x' < List.length (scanF s).2 - Subtype.val x) (List.map Iv.tok (List.take (Subtype.val x) (scanF s).2) = (scanT s).1 ∧ (0 : Int) = (scanT s).2.1 ∧ (0 : Int) = (scanT s).2.2))))))) := by kernel_rfl
set_option maxHeartbeats 4000000 in
theorem of_tscan (h : ∀ (s : List UInt8), (s.length ≤ 1000000) → vcP [(56, sp_bad), (57, sp_urunes), (59, sp_token)] [(58, sp_snext)] misc Tryz.f30 (.loop 6 (SS (decomp s).1 (scanF s)) (fun x => ⟨[(3, .one (.ptr 16 0)), (7, .one (.ptr 17 0))], [(16, some (.cells 28 [.int .i64 0, .int .i64 0])), (17, some (.cells 101 [.slc 18, .int .i64 x.at_, .int .i64 x.op, .slc 19])), (18, some (.read (.ints .i32 x.rest))), (19, some (.row 103 (.ivs x.ps)))], 20⟩) (fun x => x.rest.length) (fun _ => .nil) (.loop 14 (Upto (scanF s).2) (fun i => ⟨[(3, .one (.ptr 16 0)), (8, .one (.slc 20)), (47, .one (.slc 19)), (48, .one (.int .i64 (scanF s).2.length)), (49, .one (.int .i64 i.1))], [(16, some (.cells 28 [.int .i64 0, .int .i64 0])), (19, some (.row 103 (.ivs (scanF s).2))), (20, some (.row 71 (.toks (((scanF s).2.take i.1).map Iv.tok))))], 21⟩) (fun i => (scanF s).2.length - i.1) (fun _ => .nil) .nil)) [.one (.str s)] (.tup [(false, [.rd (.toks (scanT s).1)]), (true, [.int .i64 (scanT s).2.1, .int .i64 (scanT s).2.2])])) : FnP 30 sp_tscan := by
  refine fnP_ok (cs := [(56, sp_bad), (57, sp_urunes), (59, sp_token)]) (cas := [(58, sp_snext)]) (ms := misc) (.cons ok_bad (.cons ok_urunes (.cons ok_token .nil))) (.cons ok_snext .nil) misc_ok 30 Tryz.f30 (by kernel_rfl) (by kernel_rfl) (by kernel_rfl) (fun | [.one (.str s)] => .loop 6 (SS (decomp s).1 (scanF s)) (fun x => ⟨[(3, .one (.ptr 16 0)), (7, .one (.ptr 17 0))], [(16, some (.cells 28 [.int .i64 0, .int .i64 0])), (17, some (.cells 101 [.slc 18, .int .i64 x.at_, .int .i64 x.op, .slc 19])), (18, some (.read (.ints .i32 x.rest))), (19, some (.row 103 (.ivs x.ps)))], 20⟩) (fun x => x.rest.length) (fun _ => .nil) (.loop 14 (Upto (scanF s).2) (fun i => ⟨[(3, .one (.ptr 16 0)), (8, .one (.slc 20)), (47, .one (.slc 19)), (48, .one (.int .i64 (scanF s).2.length)), (49, .one (.int .i64 i.1))], [(16, some (.cells 28 [.int .i64 0, .int .i64 0])), (19, some (.row 103 (.ivs (scanF s).2))), (20, some (.row 71 (.toks (((scanF s).2.take i.1).map Iv.tok))))], 21⟩) (fun i => (scanF s).2.length - i.1) (fun _ => .nil) .nil) | _ => .nil) ?_
  intro pvs p r hs hp
  unfold sp_tscan at hs
  simp only at hs
  split at hs
  · rename_i s
    cases hs
    refine h s ?_
    · exact hp
  · cases hs
theorem Scalars.tail {r : Int} {l : List Int} (h : Scalars (r :: l)) : Scalars l := fun x hx => h x (List.mem_cons_of_mem _ hx)
theorem scanStep_facts {l : List Int} (hl : Scalars l) (hne : l ≠ []) (a o : Int) :
    Scalars (scanStep l a o).1 ∧ (scanStep l a o).1.length < l.length ∧ a < (scanStep l a o).2.1 ∧ (scanStep l a o).2.1 + 4 * (scanStep l a o).1.length ≤ a + 4 * l.length ∧
    (scanStep l a o).2.2.2.length + (scanStep l a o).1.length ≤ l.length ∧ (∀ y ∈ (scanStep l a o).2.2.2, Iv.isT y = true) := by
  obtain ⟨r, m, rfl⟩ := List.exists_cons_of_ne_nil hne
  have he := enc_len r
  have hm := hl.tail
  by_cases h39 : r = 39
  · subst h39
    cases m with
    | nil => by_cases ho : o < 0 <;> simp [scanStep, ho, hm] <;> omega
    | cons x m =>
      by_cases hx : x = 39
      · subst hx
        simp [scanStep, hm.tail, Iv.isT]; omega
      · by_cases ho : o < 0 <;> simp [scanStep, ho, hx, hm] <;> omega
  · by_cases ho : o < 0 <;> simp [scanStep, ho, h39, hm, Iv.isT] <;> omega
theorem scanN_isT : ∀ (n : Nat) (l : List Int) (a o : Int), Scalars l → (∀ y ∈ (scanN n l a o).2, Iv.isT y = true) ∧ (scanN n l a o).2.length ≤ l.length := by
  intro n
  induction n with
  | zero => intro l a o _; exact ⟨fun y hy => (by cases hy), Nat.zero_le _⟩
  | succ n ih =>
    intro l a o hl
    cases l with
    | nil => exact ⟨fun y hy => (by cases hy), Nat.zero_le _⟩
    | cons r m =>
      obtain ⟨h1, h2, h3, h4, h5, h6⟩ := scanStep_facts hl (by simp) a o
      obtain ⟨g1, g2⟩ := ih (scanStep (r :: m) a o).1 (scanStep (r :: m) a o).2.1 (scanStep (r :: m) a o).2.2.1 h1
      refine ⟨fun y hy => ?_, ?_⟩
      · rcases List.mem_append.1 hy with hy | hy
        · exact h6 y hy
        · exact g1 y hy
      · show (_ ++ _ : List Iv).length ≤ _
        rw [List.length_append]; omega
theorem scanF_isT (s : List UInt8) : (∀ y ∈ (scanF s).2, Iv.isT y = true) ∧ (scanF s).2.length ≤ (decomp s).1.length := scanN_isT _ _ _ _ (decomp_ok s).2.1
theorem decomp_len (s : List UInt8) : (decomp s).1.length ≤ s.length := by
  have h := congrArg List.length (decomp_ok s).1
  have := (encs_len (decomp s).1).1
  rw [List.length_append] at h
  omega
theorem SS.unroll {l : List Int} {F : Int × List Iv} (x : SS l F) (h : x.rest ≠ []) : scanN x.n x.rest x.at_ x.op = ((scanN (x.n - 1) (scanStep x.rest x.at_ x.op).1 (scanStep x.rest x.at_ x.op).2.1 (scanStep x.rest x.at_ x.op).2.2.1).1, (scanStep x.rest x.at_ x.op).2.2.2 ++ (scanN (x.n - 1) (scanStep x.rest x.at_ x.op).1 (scanStep x.rest x.at_ x.op).2.1 (scanStep x.rest x.at_ x.op).2.2.1).2) := by
  have hn : x.n ≠ 0 := by
    intro h0
    have := x.fuel
    rw [h0] at this
    exact h (List.eq_nil_of_length_eq_zero (by omega))
  obtain ⟨k, hk⟩ := Nat.exists_eq_succ_of_ne_zero hn
  obtain ⟨r, m, hr⟩ := List.exists_cons_of_ne_nil h
  rw [hk, hr]; rfl
def SS.next {l : List Int} {F : Int × List Iv} (x : SS l F) (h : x.rest ≠ []) : SS l F where
  n := x.n - 1
  rest := (scanStep x.rest x.at_ x.op).1
  at_ := (scanStep x.rest x.at_ x.op).2.1
  op := (scanStep x.rest x.at_ x.op).2.2.1
  ps := x.ps ++ (scanStep x.rest x.at_ x.op).2.2.2
  sc := (scanStep_facts x.sc h x.at_ x.op).1
  fuel := by
    have := x.fuel
    have := (scanStep_facts x.sc h x.at_ x.op).2.1
    omega
  at0 := by
    have := x.at0
    have := (scanStep_facts x.sc h x.at_ x.op).2.2.1
    omega
  big := by
    have := x.big
    have := (scanStep_facts x.sc h x.at_ x.op).2.2.2.1
    omega
  few := by
    have := x.few
    have := (scanStep_facts x.sc h x.at_ x.op).2.2.2.2.1
    rw [List.length_append]; omega
  isT := fun y hy => by
    rcases List.mem_append.1 hy with hy | hy
    · exact x.isT y hy
    · exact (scanStep_facts x.sc h x.at_ x.op).2.2.2.2.2 y hy
  fin1 := by
    have h1 := x.fin1
    rw [x.unroll h] at h1; exact h1
  fin2 := by
    have h1 := x.fin2
    rw [x.unroll h] at h1
    rw [List.append_assoc]; exact h1
theorem SS.done {l : List Int} {F : Int × List Iv} (x : SS l F) (h : x.rest = []) : x.op = F.1 ∧ x.ps = F.2 := by
  have h1 := x.fin1
  have h2 := x.fin2
  rw [h] at h1 h2
  cases hn : x.n with
  | zero => rw [hn] at h1 h2; exact ⟨h1, by rw [← h2]; exact (List.append_nil _).symm⟩
  | succ n => rw [hn] at h1 h2; exact ⟨h1, by rw [← h2]; exact (List.append_nil _).symm⟩
def SS.zero (s : List UInt8) : SS (decomp s).1 (scanF s) where
  n := (decomp s).1.length
  rest := (decomp s).1
  at_ := 0
  op := -1
  ps := []
  sc := (decomp_ok s).2.1
  fuel := Nat.le_refl _
  at0 := Int.le_refl _
  big := by omega
  few := by simp
  isT := fun y hy => by cases hy
  fin1 := rfl
  fin2 := rfl
theorem ok_tscan : FnP 30 sp_tscan := of_tscan (by
  intro s hs
  rw [vc_tscan]
  have hdl := decomp_len s
  refine ⟨by omega, br_of (fun h => ?_) fun h => ⟨by omega, ⟨.zero s, rfl, rfl, rfl, rfl, ?_, rfl⟩, fun x => br_of (fun h1 => ?_) fun h1 => ?_⟩⟩
  · have h : badAt s ≥ 0 := by simpa using h
    unfold scanT
    rw [if_pos h]; exact ⟨rfl, rfl, rfl⟩
  · have h : badAt s < 0 := by simpa using h
    rw [if_pos h]; rfl
  · have h1 : x.rest.length > 0 := by simpa using h1
    have hne : x.rest ≠ [] := by intro h0; rw [h0] at h1; exact absurd h1 (by decide)
    have a0 := x.at0
    have a1 := x.big
    have a2 := x.few
    exact ⟨x.sc, hne, ⟨a0, by omega⟩, by omega, x.next hne, ⟨rfl, rfl, rfl, rfl, rfl, rfl⟩, (scanStep_facts x.sc hne _ _).2.1⟩
  · have h : ¬ 0 ≤ badAt s := by simpa using h
    have h1 : ¬ x.rest.length > 0 := by simpa using h1
    obtain ⟨e1, e2⟩ := x.done (List.eq_nil_of_length_eq_zero (by omega))
    have hfl := (scanF_isT s).2
    unfold scanT
    rw [if_neg h, e1, e2]
    refine br_of (fun h2 => ?_) fun h2 => br_of (fun h3 => ?_) fun h3 => ⟨rfl, by omega, ⟨⟨0, Nat.zero_le _⟩, rfl, rfl, rfl, rfl, rfl, rfl⟩, fun i => br_of (fun h4 => ?_) fun h4 => ?_⟩
    · have h2 : 0 ≤ (scanF s).1 := by simpa using h2
      rw [if_pos h2]; exact ⟨rfl, rfl, rfl⟩
    · have h2 : ¬ 0 ≤ (scanF s).1 := by simpa using h2
      have h3 : 400 < (scanF s).2.length := by have := of_decide_eq_true h3; omega
      rw [if_neg h2, if_pos h3]; exact ⟨rfl, rfl, rfl⟩
    · have h4 : i.1 < (scanF s).2.length := by simpa using h4
      rw [Int.toNat_natCast]
      refine ⟨⟨by omega, by omega⟩, h4, (scanF_isT s).1 _ (getD_mem' h4), ?_, by simp only [inR]; omega, ⟨i.1 + 1, h4⟩, ⟨rfl, rfl, rfl, rfl, rfl, ?_⟩, ?_⟩
      · rw [List.length_map, List.length_take]; omega
      · show _ = List.map Iv.tok ((scanF s).2.take (i.1 + 1))
        rw [take_next _ default h4, List.map_append]; rfl
      · show (scanF s).2.length - (i.1 + 1) < _; omega
    · have h2 : ¬ 0 ≤ (scanF s).1 := by simpa using h2
      have h3 : ¬ 400 < (scanF s).2.length := by have := of_decide_eq_false h3; omega
      have h4 : ¬ i.1 < (scanF s).2.length := by simpa using h4
      rw [if_neg h2, if_neg h3, List.take_of_length_le (by omega)]
      exact ⟨rfl, rfl, rfl⟩)
def SR (s : List UInt8) : Type := {x : SS (decomp s).1 (scanF s) // badAt s < 0 → s.drop x.at_.toNat = encs x.rest ∧ x.at_.toNat ≤ s.length}
theorem enc39' : enc 39 = [39] := by decide
theorem scanStep_drop {l : List Int} (hne : l ≠ []) (a o : Int) : ∃ k : Nat, (scanStep l a o).2.1 = a + k ∧ (encs l).drop k = encs (scanStep l a o).1 ∧ k ≤ (encs l).length := by
  obtain ⟨r, m, rfl⟩ := List.exists_cons_of_ne_nil hne
  have hd : (encs (r :: m)).drop (enc r).length = encs m := by rw [encs_cons, List.drop_left]
  have hle : (enc r).length ≤ (encs (r :: m)).length := by rw [encs_cons, List.length_append]; omega
  by_cases h39 : r = 39
  · subst h39
    have h1 := enc39
    cases m with
    | nil => by_cases ho : o < 0 <;> exact ⟨1, by simp [scanStep, ho], by rw [enc39] at hd; simpa [scanStep, ho] using hd, by rw [← h1]; exact hle⟩
    | cons x m =>
      by_cases hx : x = 39
      · subst hx
        refine ⟨2, by simp [scanStep]; omega, ?_, ?_⟩
        · rw [encs_cons, encs_cons, enc39']; simp [scanStep]
        · rw [encs_cons, encs_cons, enc39']; simp
      · by_cases ho : o < 0 <;> exact ⟨1, by simp [scanStep, ho, hx], by rw [enc39] at hd; simpa [scanStep, ho, hx] using hd, by rw [← h1]; exact hle⟩
  · by_cases ho : o < 0 <;> exact ⟨(enc r).length, by simp [scanStep, ho, h39], by simpa [scanStep, ho, h39] using hd, hle⟩
def SR.next {s : List UInt8} (x : SR s) (h : x.1.rest ≠ []) : SR s := ⟨x.1.next h, fun hb => by
  obtain ⟨h1, h2⟩ := x.2 hb
  obtain ⟨k, g1, g2, g3⟩ := scanStep_drop h x.1.at_ x.1.op
  have h0 := x.1.at0
  have e : (x.1.next h).at_.toNat = x.1.at_.toNat + k := by
    show (scanStep x.1.rest x.1.at_ x.1.op).2.1.toNat = _
    rw [g1]; omega
  refine ⟨?_, ?_⟩
  · rw [e, ← List.drop_drop, h1, g2]; rfl
  · have := congrArg List.length h1
    rw [List.length_drop] at this
    omega⟩
end Go.Proofs.YtglfkihckkjniaaGreatDoor.Vx
namespace Go.Proofs.YtglfkihckkjniaaGreatDoor.Vx
open Go Go.RowKit
def Asc (s : List UInt8) : Prop := ∀ c ∈ s, c.toNat < 128
def hasR (s : List UInt8) (r : Int) : Bool := s.any fun c => (c.toNat : Int) == r
def HR (s : List UInt8) (r : Int) : Type := {i : Nat // i ≤ s.length ∧ hasR (s.take i) r = false}
def sp_hasRune : FSpec := ⟨[], fun | [.one (.str s), .one (.int .i32 r)] => some ([Asc s], .one (.bool (hasR s r))) | _ => none⟩
theorem vc_hasRune (s : List UInt8) (r : Int) : vcP [] [] misc Tryz.f85 (.loop 2 (HR s r) (fun i => ⟨[(0, .one (.str s)), (1, .one (.int .i32 r)), (8, .one (.slc 17))], [(17, some (.iter s i.1))], 18⟩) (fun i => s.length - i.1) (fun _ => .nil) .nil) [.one (.str s), .one (.int .i32 r)] (.one (.bool (hasR s r))) = ((∃ (x : HR s r), s = s ∧ r = r ∧ (0 : Nat) = Subtype.val x ∧ s = s) ∧ ∀ (x : HR s r), br (decide (Subtype.val x < List.length s)) (br (dec s (Subtype.val x) == r) (true = hasR s r) (∃ (x' : HR s r), (s = s ∧ r = r ∧ Subtype.val x + wid s (Subtype.val x) = Subtype.val x' ∧ s = s) ∧ List.length s - Subtype.val x' < List.length s - Subtype.val x)) (false = hasR s r)) := by kernel_rfl
set_option maxHeartbeats 4000000 in
theorem of_hasRune (h : ∀ (s : List UInt8) (r : Int), (Asc s) → vcP [] [] misc Tryz.f85 (.loop 2 (HR s r) (fun i => ⟨[(0, .one (.str s)), (1, .one (.int .i32 r)), (8, .one (.slc 17))], [(17, some (.iter s i.1))], 18⟩) (fun i => s.length - i.1) (fun _ => .nil) .nil) [.one (.str s), .one (.int .i32 r)] (.one (.bool (hasR s r)))) : FnP 85 sp_hasRune := by
  refine fnP_ok (cs := []) (cas := []) (ms := misc) .nil .nil misc_ok 85 Tryz.f85 (by kernel_rfl) (by kernel_rfl) (by kernel_rfl) (fun | [.one (.str s), .one (.int .i32 r)] => .loop 2 (HR s r) (fun i => ⟨[(0, .one (.str s)), (1, .one (.int .i32 r)), (8, .one (.slc 17))], [(17, some (.iter s i.1))], 18⟩) (fun i => s.length - i.1) (fun _ => .nil) .nil | _ => .nil) ?_
  intro pvs p r hs hp
  unfold sp_hasRune at hs
  simp only at hs
  split at hs
  · rename_i s r
    cases hs
    refine h s r ?_
    · exact hp
  · cases hs
theorem dec_asc {s : List UInt8} (h : Asc s) {i : Nat} (hi : i < s.length) : dec s i = ((s.getD i 0).toNat : Int) ∧ wid s i = 1 := by
  obtain ⟨q1, q2⟩ := dec_decL s i
  have hm : s.getD i 0 ∈ s := getD_mem' hi
  have hlt := h _ hm
  have hd : decL (s.drop i) = ((s.getD i 0).toNat, 1) := by
    have hne : s.drop i ≠ [] := by simp; omega
    have hb : bt (s.drop i) 0 = (s.getD i 0).toNat := by rw [bt_drop]; rfl
    have hc : Cls (s.drop i) ((s.getD i 0).toNat : Int) 1 := by
      have h1 : (s.getD i 0) = UInt8.ofNat ((s.getD i 0).toNat : Int).toNat := by simp
      have h2 : Starts (s.drop i) ((s.getD i 0).toNat : Int) := by
        refine ⟨scalar_iff.2 (by omega), ?_⟩
        rw [enc1 (by omega) (by omega), ← h1]
        exact ⟨s.drop (i + 1), by rw [List.singleton_append]; exact (List.drop_eq_getElem_cons hi ▸ by rw [List.getD_eq_getElem?_getD, List.getElem?_eq_getElem hi]; rfl)⟩
      refine cls_iff.2 ⟨h2, ?_⟩
      rw [enc1 (by omega) (by omega)]; rfl
    exact ((decL_iff hne).2 hc).1
  rw [q1, q2, hd]
  exact ⟨rfl, rfl⟩
theorem hasR_next {s : List UInt8} {r : Int} {i : Nat} (h : i < s.length) : hasR (s.take (i + 1)) r = (hasR (s.take i) r || (((s.getD i 0).toNat : Int) == r)) := by
  unfold hasR
  rw [take_next s 0 h, List.any_append]; simp
theorem hasR_mem {s : List UInt8} {r : Int} {i : Nat} (h : i < s.length) (hr : ((s.getD i 0).toNat : Int) = r) : hasR s r = true := by
  unfold hasR
  exact List.any_eq_true.2 ⟨s.getD i 0, getD_mem' h, by simpa using hr⟩
theorem ok_hasRune : FnP 85 sp_hasRune := of_hasRune (by
  intro s r hs
  rw [vc_hasRune]
  refine ⟨⟨⟨0, Nat.zero_le _, rfl⟩, rfl, rfl, rfl, rfl⟩, fun i => br_of (fun h => ?_) fun h => ?_⟩
  · have h : i.1 < s.length := of_decide_eq_true h
    obtain ⟨q1, q2⟩ := dec_asc hs h
    rw [q1, q2]
    refine br_of (fun h1 => ?_) fun h1 => ⟨⟨i.1 + 1, h, by rw [hasR_next h, i.2.2, h1]; rfl⟩, ⟨rfl, rfl, rfl, rfl⟩, by show s.length - (i.1 + 1) < _; omega⟩
    rw [hasR_mem h (by simpa using h1)]
  · have h : ¬ i.1 < s.length := of_decide_eq_false h
    have := i.2.2
    rw [List.take_of_length_le (by omega)] at this
    rw [this])
def isIn (c : List UInt8) (y : Iv) : Bool := y.isS && (!y.sQ && hasR c y.sR)
def sp_is : FSpec := ⟨[], fun | [.one (.iv y), .one (.str c)] => some ([Asc c], .one (.bool (isIn c y))) | _ => none⟩
theorem vc_is (y : Iv) (c : List UInt8) : vcP [(85, sp_hasRune)] [] misc Tryz.f62 (.nil) [.one (.iv y), .one (.str c)] (.one (.bool (isIn c y))) = (br (Iv.isS y) (br (!Iv.sQ y) ((∀ (c_1 : UInt8), c_1 ∈ c → UInt8.toNat c_1 < (128 : Nat)) ∧ hasR c (Iv.sR y) = isIn c y) (false = isIn c y)) (false = isIn c y)) := by kernel_rfl
set_option maxHeartbeats 4000000 in
theorem of_is (h : ∀ (y : Iv) (c : List UInt8), (Asc c) → vcP [(85, sp_hasRune)] [] misc Tryz.f62 (.nil) [.one (.iv y), .one (.str c)] (.one (.bool (isIn c y)))) : FnP 62 sp_is := by
  refine fnP_ok (cs := [(85, sp_hasRune)]) (cas := []) (ms := misc) (.cons ok_hasRune .nil) .nil misc_ok 62 Tryz.f62 (by kernel_rfl) (by kernel_rfl) (by kernel_rfl) (fun _ => .nil) ?_
  intro pvs p r hs hp
  unfold sp_is at hs
  simp only at hs
  split at hs
  · rename_i y c
    cases hs
    refine h y c ?_
    · exact hp
  · cases hs
theorem ok_is : FnP 62 sp_is := of_is (by
  intro y c hc
  rw [vc_is]
  unfold isIn
  refine br_of (fun h => br_of (fun h1 => ⟨hc, by rw [h, h1]; rfl⟩) fun h1 => by rw [h1, Bool.false_and, Bool.and_false]) fun h => by rw [h]; rfl)
def bodyC : List UInt8 := [35, 48, 49, 50, 51, 52, 53, 54, 55, 56, 57, 64, 44, 46]
theorem asc_iff {c : List UInt8} : Asc c ↔ (c.all fun x => decide (x.toNat < 128)) = true := by simp [Asc]
theorem bodyC_asc : Asc bodyC := asc_iff.2 rfl
theorem semi_asc : Asc [59] := asc_iff.2 rfl
def sp_run1 : FSpec := ⟨[], fun | [.one (.iv y), .one (.ref 9 (.str c))] => some ([Asc c], .one (.bool (!isIn c y))) | _ => none⟩
theorem vc_run1 (y : Iv) (c : List UInt8) : vcP [(62, sp_is)] [] misc Tryz.f112 (.nil) [.one (.iv y), .one (.ref 9 (.str c))] (.one (.bool (!isIn c y))) = ((∀ (c_1 : UInt8), c_1 ∈ c → UInt8.toNat c_1 < (128 : Nat)) ∧ (!isIn c y) = !isIn c y) := by kernel_rfl
set_option maxHeartbeats 4000000 in
theorem of_run1 (h : ∀ (y : Iv) (c : List UInt8), (Asc c) → vcP [(62, sp_is)] [] misc Tryz.f112 (.nil) [.one (.iv y), .one (.ref 9 (.str c))] (.one (.bool (!isIn c y)))) : FnP 112 sp_run1 := by
  refine fnP_ok (cs := [(62, sp_is)]) (cas := []) (ms := misc) (.cons ok_is .nil) .nil misc_ok 112 Tryz.f112 (by kernel_rfl) (by kernel_rfl) (by kernel_rfl) (fun _ => .nil) ?_
  intro pvs p r hs hp
  unfold sp_run1 at hs
  simp only at hs
  split at hs
  · rename_i y c
    cases hs
    refine h y c ?_
    · exact hp
  · cases hs
theorem ok_run1 : FnP 112 sp_run1 := of_run1 (by
  intro y c hc
  rw [vc_run1]
  exact ⟨hc, rfl⟩)
def sp_ahead1 : FSpec := ⟨[], fun | [.one (.iv y)] => some ([], .one (.bool (isIn [59] y))) | _ => none⟩
theorem vc_ahead1 (y : Iv) : vcP [(62, sp_is)] [] misc Tryz.f61 (.nil) [.one (.iv y)] (.one (.bool (isIn [59] y))) = ((∀ (c : UInt8), c ∈ ([(59 : UInt8)] : List UInt8) → UInt8.toNat c < (128 : Nat)) ∧ isIn (([(59 : UInt8)] : List UInt8)) y = isIn [(59 : UInt8)] y) := by kernel_rfl
set_option maxHeartbeats 4000000 in
theorem of_ahead1 (h : ∀ (y : Iv), vcP [(62, sp_is)] [] misc Tryz.f61 (.nil) [.one (.iv y)] (.one (.bool (isIn [59] y)))) : FnP 61 sp_ahead1 := by
  refine fnP_ok (cs := [(62, sp_is)]) (cas := []) (ms := misc) (.cons ok_is .nil) .nil misc_ok 61 Tryz.f61 (by kernel_rfl) (by kernel_rfl) (by kernel_rfl) (fun _ => .nil) ?_
  intro pvs p r hs hp
  unfold sp_ahead1 at hs
  simp only at hs
  split at hs
  · rename_i y
    cases hs
    refine h y
  · cases hs
theorem ok_ahead1 : FnP 61 sp_ahead1 := of_ahead1 (by
  intro y
  rw [vc_ahead1]
  exact ⟨semi_asc, rfl⟩)
def sp_cut1 : FSpec := ⟨[], fun | [.one (.iv y)] => some ([], .one (.bool (isIn bodyC y))) | _ => none⟩
theorem vc_cut1 (y : Iv) : vcP [(62, sp_is)] [] misc Tryz.f86 (.nil) [.one (.iv y)] (.one (.bool (isIn bodyC y))) = (letI v0 := ([(35 : UInt8), (48 : UInt8), (49 : UInt8), (50 : UInt8), (51 : UInt8), (52 : UInt8), (53 : UInt8), (54 : UInt8), (55 : UInt8), (56 : UInt8), (57 : UInt8), (64 : UInt8), (44 : UInt8), (46 : UInt8)] : List UInt8); ((∀ (c : UInt8), c ∈ v0 → UInt8.toNat c < (128 : Nat)) ∧ isIn (v0) y = isIn bodyC y)) := by kernel_rfl
set_option maxHeartbeats 4000000 in
theorem of_cut1 (h : ∀ (y : Iv), vcP [(62, sp_is)] [] misc Tryz.f86 (.nil) [.one (.iv y)] (.one (.bool (isIn bodyC y)))) : FnP 86 sp_cut1 := by
  refine fnP_ok (cs := [(62, sp_is)]) (cas := []) (ms := misc) (.cons ok_is .nil) .nil misc_ok 86 Tryz.f86 (by kernel_rfl) (by kernel_rfl) (by kernel_rfl) (fun _ => .nil) ?_
  intro pvs p r hs hp
  unfold sp_cut1 at hs
  simp only at hs
  split at hs
  · rename_i y
    cases hs
    refine h y
  · cases hs
theorem ok_cut1 : FnP 86 sp_cut1 := of_cut1 (by
  intro y
  rw [vc_cut1]
  exact ⟨bodyC_asc, rfl⟩)
def idxZ {α : Type} (P : α → Bool) (l : List α) : Int := if l.findIdx P < l.length then (l.findIdx P : Int) else -1
def None {α : Type} (P : α → Bool) (l : List α) : Type := {i : Nat // i ≤ l.length ∧ ∀ y ∈ l.take i, P y = false}
def sp_idxR : FSpec := ⟨[], fun | [.one (.rd (.ivs l)), .one (.fnv 112 [(9, .str c)])] => some ([Asc c, l.length ≤ 1000000000], .one (.int .i64 (idxZ (fun y => !isIn c y) l))) | _ => none⟩
theorem vc_idxR (l : List Iv) (c : List UInt8) : vcP [(112, sp_run1)] [] misc Tryz.f84 (.loop 2 (None (fun y => !isIn c y) l) (fun i => ⟨[(0, .one (.slc 0)), (1, .one (.fn 112 [(1, 0)])), (7, .one (.int .i64 l.length)), (8, .one (.int .i64 i.1))], [(0, some (.read (.ivs l))), (1, some (.ro 9 [.str c]))], 18⟩) (fun i => l.length - i.1) (fun _ => .nil) .nil) [.one (.rd (.ivs l)), .one (.fnv 112 [(9, .str c)])] (.one (.int .i64 (idxZ (fun y => !isIn c y) l))) = ((∃ (x : None (fun (y : Iv) => !isIn c y) l), (↑(List.length l) : Int) = (↑(List.length l) : Int) ∧ (0 : Int) = (↑(Subtype.val x) : Int) ∧ l = l ∧ c = c) ∧ ∀ (x : None (fun (y : Iv) => !isIn c y) l), br (decide ((↑(Subtype.val x) : Int) < (↑(List.length l) : Int))) (((0 : Int) ≤ (↑(Subtype.val x) : Int) ∧ (↑(Subtype.val x) : Int) < (↑(List.length l) : Int)) ∧ Int.toNat (↑(Subtype.val x) : Int) < List.length l ∧ (∀ (c_1 : UInt8), c_1 ∈ c → UInt8.toNat c_1 < (128 : Nat)) ∧ br (!isIn c (List.getD l (Int.toNat (↑(Subtype.val x) : Int)) default)) ((↑(Subtype.val x) : Int) = idxZ (fun (y : Iv) => !isIn c y) l) (inR IntKind.i64 ((↑(Subtype.val x) : Int) + (1 : Int)) ∧ ∃ (x' : None (fun (y : Iv) => !isIn c y) l), ((↑(List.length l) : Int) = (↑(List.length l) : Int) ∧ (↑(Subtype.val x) : Int) + (1 : Int) = (↑(Subtype.val x') : Int) ∧ l = l ∧ c = c) ∧ List.length l - Subtype.val x' < List.length l - Subtype.val x)) ((-1 : Int) = idxZ (fun (y : Iv) => !isIn c y) l)) := by kernel_rfl
set_option maxHeartbeats 4000000 in
theorem of_idxR (h : ∀ (l : List Iv) (c : List UInt8), (Asc c) → (l.length ≤ 1000000000) → vcP [(112, sp_run1)] [] misc Tryz.f84 (.loop 2 (None (fun y => !isIn c y) l) (fun i => ⟨[(0, .one (.slc 0)), (1, .one (.fn 112 [(1, 0)])), (7, .one (.int .i64 l.length)), (8, .one (.int .i64 i.1))], [(0, some (.read (.ivs l))), (1, some (.ro 9 [.str c]))], 18⟩) (fun i => l.length - i.1) (fun _ => .nil) .nil) [.one (.rd (.ivs l)), .one (.fnv 112 [(9, .str c)])] (.one (.int .i64 (idxZ (fun y => !isIn c y) l)))) : FnP 84 sp_idxR := by
  refine fnP_ok (cs := [(112, sp_run1)]) (cas := []) (ms := misc) (.cons ok_run1 .nil) .nil misc_ok 84 Tryz.f84 (by kernel_rfl) (by kernel_rfl) (by kernel_rfl) (fun | [.one (.rd (.ivs l)), .one (.fnv 112 [(9, .str c)])] => .loop 2 (None (fun y => !isIn c y) l) (fun i => ⟨[(0, .one (.slc 0)), (1, .one (.fn 112 [(1, 0)])), (7, .one (.int .i64 l.length)), (8, .one (.int .i64 i.1))], [(0, some (.read (.ivs l))), (1, some (.ro 9 [.str c]))], 18⟩) (fun i => l.length - i.1) (fun _ => .nil) .nil | _ => .nil) ?_
  intro pvs p r hs hp
  unfold sp_idxR at hs
  simp only at hs
  split at hs
  · rename_i l c
    cases hs
    refine h l c ?_ ?_
    · exact hp.1
    · exact hp.2
  · cases hs
def sp_idxA : FSpec := ⟨[], fun | [.one (.rd (.ivs l)), .one (.fnv 61 [])] => some ([l.length ≤ 1000000000], .one (.int .i64 (idxZ (isIn [59]) l))) | _ => none⟩
theorem vc_idxA (l : List Iv) : vcP [(61, sp_ahead1)] [] misc Tryz.f84 (.loop 2 (None (isIn [59]) l) (fun i => ⟨[(0, .one (.slc 0)), (1, .one (.fn 61 [])), (7, .one (.int .i64 l.length)), (8, .one (.int .i64 i.1))], [(0, some (.read (.ivs l)))], 18⟩) (fun i => l.length - i.1) (fun _ => .nil) .nil) [.one (.rd (.ivs l)), .one (.fnv 61 [])] (.one (.int .i64 (idxZ (isIn [59]) l))) = ((∃ (x : None (isIn [(59 : UInt8)]) l), (↑(List.length l) : Int) = (↑(List.length l) : Int) ∧ (0 : Int) = (↑(Subtype.val x) : Int) ∧ l = l) ∧ ∀ (x : None (isIn [(59 : UInt8)]) l), br (decide ((↑(Subtype.val x) : Int) < (↑(List.length l) : Int))) (((0 : Int) ≤ (↑(Subtype.val x) : Int) ∧ (↑(Subtype.val x) : Int) < (↑(List.length l) : Int)) ∧ Int.toNat (↑(Subtype.val x) : Int) < List.length l ∧ br (isIn [(59 : UInt8)] (List.getD l (Int.toNat (↑(Subtype.val x) : Int)) default)) ((↑(Subtype.val x) : Int) = idxZ (isIn [(59 : UInt8)]) l) (inR IntKind.i64 ((↑(Subtype.val x) : Int) + (1 : Int)) ∧ ∃ (x' : None (isIn [(59 : UInt8)]) l), ((↑(List.length l) : Int) = (↑(List.length l) : Int) ∧ (↑(Subtype.val x) : Int) + (1 : Int) = (↑(Subtype.val x') : Int) ∧ l = l) ∧ List.length l - Subtype.val x' < List.length l - Subtype.val x)) ((-1 : Int) = idxZ (isIn [(59 : UInt8)]) l)) := by kernel_rfl
set_option maxHeartbeats 4000000 in
theorem of_idxA (h : ∀ (l : List Iv), (l.length ≤ 1000000000) → vcP [(61, sp_ahead1)] [] misc Tryz.f84 (.loop 2 (None (isIn [59]) l) (fun i => ⟨[(0, .one (.slc 0)), (1, .one (.fn 61 [])), (7, .one (.int .i64 l.length)), (8, .one (.int .i64 i.1))], [(0, some (.read (.ivs l)))], 18⟩) (fun i => l.length - i.1) (fun _ => .nil) .nil) [.one (.rd (.ivs l)), .one (.fnv 61 [])] (.one (.int .i64 (idxZ (isIn [59]) l)))) : FnP 84 sp_idxA := by
  refine fnP_ok (cs := [(61, sp_ahead1)]) (cas := []) (ms := misc) (.cons ok_ahead1 .nil) .nil misc_ok 84 Tryz.f84 (by kernel_rfl) (by kernel_rfl) (by kernel_rfl) (fun | [.one (.rd (.ivs l)), .one (.fnv 61 [])] => .loop 2 (None (isIn [59]) l) (fun i => ⟨[(0, .one (.slc 0)), (1, .one (.fn 61 [])), (7, .one (.int .i64 l.length)), (8, .one (.int .i64 i.1))], [(0, some (.read (.ivs l)))], 18⟩) (fun i => l.length - i.1) (fun _ => .nil) .nil | _ => .nil) ?_
  intro pvs p r hs hp
  unfold sp_idxA at hs
  simp only at hs
  split at hs
  · rename_i l
    cases hs
    refine h l ?_
    · exact hp
  · cases hs
def sp_idxC : FSpec := ⟨[], fun | [.one (.rd (.ivs l)), .one (.fnv 86 [])] => some ([l.length ≤ 1000000000], .one (.int .i64 (idxZ (isIn bodyC) l))) | _ => none⟩
theorem vc_idxC (l : List Iv) : vcP [(86, sp_cut1)] [] misc Tryz.f84 (.loop 2 (None (isIn bodyC) l) (fun i => ⟨[(0, .one (.slc 0)), (1, .one (.fn 86 [])), (7, .one (.int .i64 l.length)), (8, .one (.int .i64 i.1))], [(0, some (.read (.ivs l)))], 18⟩) (fun i => l.length - i.1) (fun _ => .nil) .nil) [.one (.rd (.ivs l)), .one (.fnv 86 [])] (.one (.int .i64 (idxZ (isIn bodyC) l))) = ((∃ (x : None (isIn bodyC) l), (↑(List.length l) : Int) = (↑(List.length l) : Int) ∧ (0 : Int) = (↑(Subtype.val x) : Int) ∧ l = l) ∧ ∀ (x : None (isIn bodyC) l), br (decide ((↑(Subtype.val x) : Int) < (↑(List.length l) : Int))) (((0 : Int) ≤ (↑(Subtype.val x) : Int) ∧ (↑(Subtype.val x) : Int) < (↑(List.length l) : Int)) ∧ Int.toNat (↑(Subtype.val x) : Int) < List.length l ∧ br (isIn bodyC (List.getD l (Int.toNat (↑(Subtype.val x) : Int)) default)) ((↑(Subtype.val x) : Int) = idxZ (isIn bodyC) l) (inR IntKind.i64 ((↑(Subtype.val x) : Int) + (1 : Int)) ∧ ∃ (x' : None (isIn bodyC) l), ((↑(List.length l) : Int) = (↑(List.length l) : Int) ∧ (↑(Subtype.val x) : Int) + (1 : Int) = (↑(Subtype.val x') : Int) ∧ l = l) ∧ List.length l - Subtype.val x' < List.length l - Subtype.val x)) ((-1 : Int) = idxZ (isIn bodyC) l)) := by kernel_rfl
set_option maxHeartbeats 4000000 in
theorem of_idxC (h : ∀ (l : List Iv), (l.length ≤ 1000000000) → vcP [(86, sp_cut1)] [] misc Tryz.f84 (.loop 2 (None (isIn bodyC) l) (fun i => ⟨[(0, .one (.slc 0)), (1, .one (.fn 86 [])), (7, .one (.int .i64 l.length)), (8, .one (.int .i64 i.1))], [(0, some (.read (.ivs l)))], 18⟩) (fun i => l.length - i.1) (fun _ => .nil) .nil) [.one (.rd (.ivs l)), .one (.fnv 86 [])] (.one (.int .i64 (idxZ (isIn bodyC) l)))) : FnP 84 sp_idxC := by
  refine fnP_ok (cs := [(86, sp_cut1)]) (cas := []) (ms := misc) (.cons ok_cut1 .nil) .nil misc_ok 84 Tryz.f84 (by kernel_rfl) (by kernel_rfl) (by kernel_rfl) (fun | [.one (.rd (.ivs l)), .one (.fnv 86 [])] => .loop 2 (None (isIn bodyC) l) (fun i => ⟨[(0, .one (.slc 0)), (1, .one (.fn 86 [])), (7, .one (.int .i64 l.length)), (8, .one (.int .i64 i.1))], [(0, some (.read (.ivs l)))], 18⟩) (fun i => l.length - i.1) (fun _ => .nil) .nil | _ => .nil) ?_
  intro pvs p r hs hp
  unfold sp_idxC at hs
  simp only at hs
  split at hs
  · rename_i l
    cases hs
    refine h l ?_
    · exact hp
  · cases hs
theorem None.hit {α : Type} {P : α → Bool} {l : List α} (x : None P l) {d : α} (h : x.1 < l.length) (hp : P (l.getD x.1 d) = true) : l.findIdx P = x.1 := by
  have hg : l.getD x.1 d = l[x.1] := by rw [List.getD_eq_getElem?_getD, List.getElem?_eq_getElem h]; rfl
  rw [hg] at hp
  refine (List.findIdx_eq h).2 ⟨hp, fun j hj => x.2.2 _ ?_⟩
  rw [List.mem_take_iff_getElem]
  exact ⟨j, by omega, rfl⟩
theorem None.over {α : Type} {P : α → Bool} {l : List α} (x : None P l) (h : ¬ x.1 < l.length) : l.findIdx P = l.length := by
  have h1 := x.2.2
  rw [List.take_of_length_le (by omega)] at h1
  exact List.findIdx_eq_length.2 h1
def None.zero {α : Type} (P : α → Bool) (l : List α) : None P l := ⟨0, Nat.zero_le _, fun y hy => by cases hy⟩
def None.next {α : Type} {P : α → Bool} {l : List α} (x : None P l) (d : α) (h : x.1 < l.length) (hp : P (l.getD x.1 d) = false) : None P l := ⟨x.1 + 1, h, fun y hy => by
  rw [take_next l d h] at hy
  rcases List.mem_append.1 hy with hy | hy
  · exact x.2.2 y hy
  · rw [List.mem_singleton] at hy; rw [hy]; exact hp⟩
theorem None.hitZ {α : Type} {P : α → Bool} {l : List α} (x : None P l) {d : α} (h : x.1 < l.length) (hp : P (l.getD x.1 d) = true) : idxZ P l = x.1 := by
  unfold idxZ; rw [x.hit h hp, if_pos h]
theorem None.overZ {α : Type} {P : α → Bool} {l : List α} (x : None P l) (h : ¬ x.1 < l.length) : idxZ P l = -1 := by
  unfold idxZ; rw [x.over h, if_neg (Nat.lt_irrefl _)]
theorem ok_idxR : FnP 84 sp_idxR := of_idxR (by
  intro l c hc hl
  rw [vc_idxR]
  refine ⟨⟨.zero _ l, rfl, rfl, rfl, rfl⟩, fun x => br_of (fun h => ?_) fun h => ?_⟩
  · have h : x.1 < l.length := by simpa using h
    rw [Int.toNat_natCast]
    exact ⟨⟨by omega, by omega⟩, h, hc, br_of (fun h1 => (x.hitZ h h1).symm) fun h1 => ⟨by simp only [inR]; omega, x.next default h h1, ⟨rfl, rfl, rfl, rfl⟩, by show l.length - (x.1 + 1) < _; omega⟩⟩
  · exact (x.overZ (by simpa using h)).symm)
theorem ok_idxA : FnP 84 sp_idxA := of_idxA (by
  intro l hl
  rw [vc_idxA]
  refine ⟨⟨.zero _ l, rfl, rfl, rfl⟩, fun x => br_of (fun h => ?_) fun h => ?_⟩
  · have h : x.1 < l.length := by simpa using h
    rw [Int.toNat_natCast]
    exact ⟨⟨by omega, by omega⟩, h, br_of (fun h1 => (x.hitZ h h1).symm) fun h1 => ⟨by simp only [inR]; omega, x.next default h h1, ⟨rfl, rfl, rfl⟩, by show l.length - (x.1 + 1) < _; omega⟩⟩
  · exact (x.overZ (by simpa using h)).symm)
theorem ok_idxC : FnP 84 sp_idxC := of_idxC (by
  intro l hl
  rw [vc_idxC]
  refine ⟨⟨.zero _ l, rfl, rfl, rfl⟩, fun x => br_of (fun h => ?_) fun h => ?_⟩
  · have h : x.1 < l.length := by simpa using h
    rw [Int.toNat_natCast]
    exact ⟨⟨by omega, by omega⟩, h, br_of (fun h1 => (x.hitZ h h1).symm) fun h1 => ⟨by simp only [inR]; omega, x.next default h h1, ⟨rfl, rfl, rfl⟩, by show l.length - (x.1 + 1) < _; omega⟩⟩
  · exact (x.overZ (by simpa using h)).symm)
def sp_untilR : FSpec := ⟨[], fun | [.one (.rd (.ivs l)), .one (.fnv 112 [(9, .str c)])] => some ([Asc c, l.length ≤ 1000000000], .one (.int .i64 (l.findIdx fun y => !isIn c y))) | _ => none⟩
theorem vc_untilR (l : List Iv) (c : List UInt8) : vcP [(84, sp_idxR)] [] misc Tryz.f60 (.nil) [.one (.rd (.ivs l)), .one (.fnv 112 [(9, .str c)])] (.one (.int .i64 (l.findIdx fun y => !isIn c y))) = ((∀ (c_1 : UInt8), c_1 ∈ c → UInt8.toNat c_1 < (128 : Nat)) ∧ List.length l ≤ (1000000000 : Nat) ∧ br (decide (idxZ (fun (y : Iv) => !isIn c y) l ≥ (0 : Int))) (idxZ (fun (y : Iv) => !isIn c y) l = (↑(List.findIdx (fun (y : Iv) => !isIn c y) l) : Int)) ((↑(List.length l) : Int) = (↑(List.findIdx (fun (y : Iv) => !isIn c y) l) : Int))) := by kernel_rfl
set_option maxHeartbeats 4000000 in
theorem of_untilR (h : ∀ (l : List Iv) (c : List UInt8), (Asc c) → (l.length ≤ 1000000000) → vcP [(84, sp_idxR)] [] misc Tryz.f60 (.nil) [.one (.rd (.ivs l)), .one (.fnv 112 [(9, .str c)])] (.one (.int .i64 (l.findIdx fun y => !isIn c y)))) : FnP 60 sp_untilR := by
  refine fnP_ok (cs := [(84, sp_idxR)]) (cas := []) (ms := misc) (.cons ok_idxR .nil) .nil misc_ok 60 Tryz.f60 (by kernel_rfl) (by kernel_rfl) (by kernel_rfl) (fun _ => .nil) ?_
  intro pvs p r hs hp
  unfold sp_untilR at hs
  simp only at hs
  split at hs
  · rename_i l c
    cases hs
    refine h l c ?_ ?_
    · exact hp.1
    · exact hp.2
  · cases hs
def sp_untilA : FSpec := ⟨[], fun | [.one (.rd (.ivs l)), .one (.fnv 61 [])] => some ([l.length ≤ 1000000000], .one (.int .i64 (l.findIdx (isIn [59])))) | _ => none⟩
theorem vc_untilA (l : List Iv) : vcP [(84, sp_idxA)] [] misc Tryz.f60 (.nil) [.one (.rd (.ivs l)), .one (.fnv 61 [])] (.one (.int .i64 (l.findIdx (isIn [59])))) = (List.length l ≤ (1000000000 : Nat) ∧ br (decide (idxZ (isIn [(59 : UInt8)]) l ≥ (0 : Int))) (idxZ (isIn [(59 : UInt8)]) l = (↑(List.findIdx (isIn [(59 : UInt8)]) l) : Int)) ((↑(List.length l) : Int) = (↑(List.findIdx (isIn [(59 : UInt8)]) l) : Int))) := by kernel_rfl
set_option maxHeartbeats 4000000 in
theorem of_untilA (h : ∀ (l : List Iv), (l.length ≤ 1000000000) → vcP [(84, sp_idxA)] [] misc Tryz.f60 (.nil) [.one (.rd (.ivs l)), .one (.fnv 61 [])] (.one (.int .i64 (l.findIdx (isIn [59]))))) : FnP 60 sp_untilA := by
  refine fnP_ok (cs := [(84, sp_idxA)]) (cas := []) (ms := misc) (.cons ok_idxA .nil) .nil misc_ok 60 Tryz.f60 (by kernel_rfl) (by kernel_rfl) (by kernel_rfl) (fun _ => .nil) ?_
  intro pvs p r hs hp
  unfold sp_untilA at hs
  simp only at hs
  split at hs
  · rename_i l
    cases hs
    refine h l ?_
    · exact hp
  · cases hs
theorem until_of {P : Iv → Bool} {l : List Iv} : br (decide (idxZ P l ≥ 0)) (idxZ P l = (l.findIdx P : Int)) ((l.length : Int) = (l.findIdx P : Int)) := by
  unfold idxZ
  have := List.findIdx_le_length (p := P) (xs := l)
  split
  · exact br_of (fun _ => rfl) fun h => by simp at h
  · exact br_of (fun h => by simp at h) fun h => by omega
theorem ok_untilR : FnP 60 sp_untilR := of_untilR (by
  intro l c hc hl
  rw [vc_untilR]
  exact ⟨hc, hl, until_of⟩)
theorem ok_untilA : FnP 60 sp_untilA := of_untilA (by
  intro l hl
  rw [vc_untilA]
  exact ⟨hl, until_of⟩)
def runN (l : List Iv) (c : List UInt8) : Nat := l.findIdx fun y => !isIn c y
def sp_run : FSpec := ⟨[], fun | [.one (.rd (.ivs l)), .one (.str c)] => some ([Asc c, l.length ≤ 1000000000], .one (.int .i64 (runN l c))) | _ => none⟩
theorem vc_run (l : List Iv) (c : List UInt8) : vcP [(60, sp_untilR)] [] misc Tryz.f87 (.nil) [.one (.rd (.ivs l)), .one (.str c)] (.one (.int .i64 (runN l c))) = ((∀ (c_1 : UInt8), c_1 ∈ c → UInt8.toNat c_1 < (128 : Nat)) ∧ List.length l ≤ (1000000000 : Nat) ∧ (↑(List.findIdx (fun (y : Iv) => !isIn c y) l) : Int) = (↑(runN l c) : Int)) := by kernel_rfl
set_option maxHeartbeats 4000000 in
theorem of_run (h : ∀ (l : List Iv) (c : List UInt8), (Asc c) → (l.length ≤ 1000000000) → vcP [(60, sp_untilR)] [] misc Tryz.f87 (.nil) [.one (.rd (.ivs l)), .one (.str c)] (.one (.int .i64 (runN l c)))) : FnP 87 sp_run := by
  refine fnP_ok (cs := [(60, sp_untilR)]) (cas := []) (ms := misc) (.cons ok_untilR .nil) .nil misc_ok 87 Tryz.f87 (by kernel_rfl) (by kernel_rfl) (by kernel_rfl) (fun _ => .nil) ?_
  intro pvs p r hs hp
  unfold sp_run at hs
  simp only at hs
  split at hs
  · rename_i l c
    cases hs
    refine h l c ?_ ?_
    · exact hp.1
    · exact hp.2
  · cases hs
def sp_ahead : FSpec := ⟨[], fun | [.one (.rd (.ivs l))] => some ([l.length ≤ 1000000000], .one (.int .i64 (l.findIdx (isIn [59])))) | _ => none⟩
theorem vc_ahead (l : List Iv) : vcP [(60, sp_untilA)] [] misc Tryz.f32 (.nil) [.one (.rd (.ivs l))] (.one (.int .i64 (l.findIdx (isIn [59])))) = (List.length l ≤ (1000000000 : Nat) ∧ (↑(List.findIdx (isIn [(59 : UInt8)]) l) : Int) = (↑(List.findIdx (isIn [(59 : UInt8)]) l) : Int)) := by kernel_rfl
set_option maxHeartbeats 4000000 in
theorem of_ahead (h : ∀ (l : List Iv), (l.length ≤ 1000000000) → vcP [(60, sp_untilA)] [] misc Tryz.f32 (.nil) [.one (.rd (.ivs l))] (.one (.int .i64 (l.findIdx (isIn [59]))))) : FnP 32 sp_ahead := by
  refine fnP_ok (cs := [(60, sp_untilA)]) (cas := []) (ms := misc) (.cons ok_untilA .nil) .nil misc_ok 32 Tryz.f32 (by kernel_rfl) (by kernel_rfl) (by kernel_rfl) (fun _ => .nil) ?_
  intro pvs p r hs hp
  unfold sp_ahead at hs
  simp only at hs
  split at hs
  · rename_i l
    cases hs
    refine h l ?_
    · exact hp
  · cases hs
theorem ok_run : FnP 87 sp_run := of_run (by
  intro l c hc hl
  rw [vc_run]
  exact ⟨hc, hl, rfl⟩)
theorem ok_ahead : FnP 32 sp_ahead := of_ahead (by
  intro l hl
  rw [vc_ahead]
  exact ⟨hl, rfl⟩)
def sp_text : FSpec := ⟨[], fun | [.one (.rd (.ivs l))] => some ([(∀ y ∈ l, y.isS = true ∧ scalar y.sR = true), l.length ≤ 1000000000], .one (.str (encs (l.map Iv.sR)))) | _ => none⟩
theorem vc_text (l : List Iv) : vcP [] [(104, sp_writeRune), (107, sp_bstr)] misc Tryz.f88 (.loop 3 (Upto l) (fun i => ⟨[(3, .one (.ptr 17 0)), (6, .one (.slc 0)), (7, .one (.int .i64 l.length)), (8, .one (.int .i64 i.1))], [(0, some (.read (.ivs l))), (17, some (.cells 149 [.mp 17 (decide (0 < i.1)), .slc 18])), (18, some (.row 5 (.ints .u8 (bys ((l.take i.1).map Iv.sR)))))], 19⟩) (fun i => l.length - i.1) (fun _ => .nil) .nil) [.one (.rd (.ivs l))] (.one (.str (encs (l.map Iv.sR)))) = ((∃ (x : Upto l), (↑(List.length l) : Int) = (↑(List.length l) : Int) ∧ (0 : Int) = (↑(Subtype.val x) : Int) ∧ l = l ∧ false = decide ((0 : Nat) < Subtype.val x) ∧ [] = bys (List.map Iv.sR (List.take (Subtype.val x) l))) ∧ ∀ (x : Upto l), br (decide ((↑(Subtype.val x) : Int) < (↑(List.length l) : Int))) (((0 : Int) ≤ (↑(Subtype.val x) : Int) ∧ (↑(Subtype.val x) : Int) < (↑(List.length l) : Int)) ∧ Int.toNat (↑(Subtype.val x) : Int) < List.length l ∧ Iv.isS (List.getD l (Int.toNat (↑(Subtype.val x) : Int)) default) = true ∧ scalar (Iv.sR (List.getD l (Int.toNat (↑(Subtype.val x) : Int)) default)) = true ∧ List.length (bys (List.map Iv.sR (List.take (Subtype.val x) l))) ≤ (1000000000000 : Nat) ∧ inR IntKind.i64 ((↑(Subtype.val x) : Int) + (1 : Int)) ∧ ∃ (x' : Upto l), ((↑(List.length l) : Int) = (↑(List.length l) : Int) ∧ (↑(Subtype.val x) : Int) + (1 : Int) = (↑(Subtype.val x') : Int) ∧ l = l ∧ true = decide ((0 : Nat) < Subtype.val x') ∧ bys (List.map Iv.sR (List.take (Subtype.val x) l)) ++ Lib.encodeRuneZ (Iv.sR (List.getD l (Int.toNat (↑(Subtype.val x) : Int)) default)) = bys (List.map Iv.sR (List.take (Subtype.val x') l))) ∧ List.length l - Subtype.val x' < List.length l - Subtype.val x) ((∀ (n : Int), n ∈ bys (List.map Iv.sR (List.take (Subtype.val x) l)) → (0 : Int) ≤ n ∧ n < (256 : Int)) ∧ u8s (bys (List.map Iv.sR (List.take (Subtype.val x) l))) = encs (List.map Iv.sR l))) := by kernel_rfl
set_option maxHeartbeats 4000000 in
theorem of_text (h : ∀ (l : List Iv), ((∀ y ∈ l, y.isS = true ∧ scalar y.sR = true)) → (l.length ≤ 1000000000) → vcP [] [(104, sp_writeRune), (107, sp_bstr)] misc Tryz.f88 (.loop 3 (Upto l) (fun i => ⟨[(3, .one (.ptr 17 0)), (6, .one (.slc 0)), (7, .one (.int .i64 l.length)), (8, .one (.int .i64 i.1))], [(0, some (.read (.ivs l))), (17, some (.cells 149 [.mp 17 (decide (0 < i.1)), .slc 18])), (18, some (.row 5 (.ints .u8 (bys ((l.take i.1).map Iv.sR)))))], 19⟩) (fun i => l.length - i.1) (fun _ => .nil) .nil) [.one (.rd (.ivs l))] (.one (.str (encs (l.map Iv.sR))))) : FnP 88 sp_text := by
  refine fnP_ok (cs := []) (cas := [(104, sp_writeRune), (107, sp_bstr)]) (ms := misc) .nil (.cons ok_writeRune (.cons ok_bstr .nil)) misc_ok 88 Tryz.f88 (by kernel_rfl) (by kernel_rfl) (by kernel_rfl) (fun | [.one (.rd (.ivs l))] => .loop 3 (Upto l) (fun i => ⟨[(3, .one (.ptr 17 0)), (6, .one (.slc 0)), (7, .one (.int .i64 l.length)), (8, .one (.int .i64 i.1))], [(0, some (.read (.ivs l))), (17, some (.cells 149 [.mp 17 (decide (0 < i.1)), .slc 18])), (18, some (.row 5 (.ints .u8 (bys ((l.take i.1).map Iv.sR)))))], 19⟩) (fun i => l.length - i.1) (fun _ => .nil) .nil | _ => .nil) ?_
  intro pvs p r hs hp
  unfold sp_text at hs
  simp only at hs
  split at hs
  · rename_i l
    cases hs
    refine h l ?_ ?_
    · exact hp.1
    · exact hp.2
  · cases hs
def plainT (l : List Iv) : List Tok := (l.filter Iv.isS).map Iv.tok
def sp_plain : FSpec := ⟨[], fun | [.one (.rd (.ivs l))] => some ([l.length ≤ 1000000000], .one (.rd (.toks (plainT l)))) | _ => none⟩
theorem vc_plain (l : List Iv) : vcP [] [] misc Tryz.f66 (.loop 3 (Upto l) (fun i => ⟨[(3, .one (.slc 17)), (8, .one (.slc 0)), (9, .one (.int .i64 l.length)), (10, .one (.int .i64 i.1))], [(0, some (.read (.ivs l))), (17, some (.row 71 (.toks (plainT (l.take i.1)))))], 18⟩) (fun i => l.length - i.1) (fun _ => .nil) .nil) [.one (.rd (.ivs l))] (.one (.rd (.toks (plainT l)))) = ((∃ (x : Upto l), (↑(List.length l) : Int) = (↑(List.length l) : Int) ∧ (0 : Int) = (↑(Subtype.val x) : Int) ∧ l = l ∧ plainT (List.take (Subtype.val x) l) = []) ∧ ∀ (x : Upto l), br (decide ((↑(Subtype.val x) : Int) < (↑(List.length l) : Int))) (((0 : Int) ≤ (↑(Subtype.val x) : Int) ∧ (↑(Subtype.val x) : Int) < (↑(List.length l) : Int)) ∧ Int.toNat (↑(Subtype.val x) : Int) < List.length l ∧ br (Iv.isS (List.getD l (Int.toNat (↑(Subtype.val x) : Int)) default)) ((List.length (plainT (List.take (Subtype.val x) l)) + (1 : Nat)) * (16 : Nat) ≤ (140737488355328 : Nat) ∧ inR IntKind.i64 ((↑(Subtype.val x) : Int) + (1 : Int)) ∧ ∃ (x' : Upto l), ((↑(List.length l) : Int) = (↑(List.length l) : Int) ∧ (↑(Subtype.val x) : Int) + (1 : Int) = (↑(Subtype.val x') : Int) ∧ l = l ∧ plainT (List.take (Subtype.val x) l) ++ [{ r := Iv.sR (List.getD l (Int.toNat (↑(Subtype.val x) : Int)) default), q := Iv.sQ (List.getD l (Int.toNat (↑(Subtype.val x) : Int)) default), p := Iv.sP (List.getD l (Int.toNat (↑(Subtype.val x) : Int)) default) }] = plainT (List.take (Subtype.val x') l)) ∧ List.length l - Subtype.val x' < List.length l - Subtype.val x) (inR IntKind.i64 ((↑(Subtype.val x) : Int) + (1 : Int)) ∧ ∃ (x' : Upto l), ((↑(List.length l) : Int) = (↑(List.length l) : Int) ∧ (↑(Subtype.val x) : Int) + (1 : Int) = (↑(Subtype.val x') : Int) ∧ l = l ∧ plainT (List.take (Subtype.val x) l) = plainT (List.take (Subtype.val x') l)) ∧ List.length l - Subtype.val x' < List.length l - Subtype.val x)) (plainT (List.take (Subtype.val x) l) = plainT l)) := by kernel_rfl
set_option maxHeartbeats 4000000 in
theorem of_plain (h : ∀ (l : List Iv), (l.length ≤ 1000000000) → vcP [] [] misc Tryz.f66 (.loop 3 (Upto l) (fun i => ⟨[(3, .one (.slc 17)), (8, .one (.slc 0)), (9, .one (.int .i64 l.length)), (10, .one (.int .i64 i.1))], [(0, some (.read (.ivs l))), (17, some (.row 71 (.toks (plainT (l.take i.1)))))], 18⟩) (fun i => l.length - i.1) (fun _ => .nil) .nil) [.one (.rd (.ivs l))] (.one (.rd (.toks (plainT l))))) : FnP 66 sp_plain := by
  refine fnP_ok (cs := []) (cas := []) (ms := misc) .nil .nil misc_ok 66 Tryz.f66 (by kernel_rfl) (by kernel_rfl) (by kernel_rfl) (fun | [.one (.rd (.ivs l))] => .loop 3 (Upto l) (fun i => ⟨[(3, .one (.slc 17)), (8, .one (.slc 0)), (9, .one (.int .i64 l.length)), (10, .one (.int .i64 i.1))], [(0, some (.read (.ivs l))), (17, some (.row 71 (.toks (plainT (l.take i.1)))))], 18⟩) (fun i => l.length - i.1) (fun _ => .nil) .nil | _ => .nil) ?_
  intro pvs p r hs hp
  unfold sp_plain at hs
  simp only at hs
  split at hs
  · rename_i l
    cases hs
    refine h l ?_
    · exact hp
  · cases hs
def isStar (t : Tok) : Bool := !t.q && t.r == 42
def Tok.sg (t : Tok) : Iv := .single t.r t.q t.p
def elemsL : List Tok → List Iv × Option Int
  | [] => ([], none)
  | [t] => if isStar t then ([], some t.p) else ([t.sg], none)
  | t :: x :: m =>
    if isStar t then (.padding x.r t.p :: (elemsL m).1, (elemsL m).2)
    else (t.sg :: (elemsL (x :: m)).1, (elemsL (x :: m)).2)
def elemsR (l : List Tok) : List Iv × Int × Int :=
  match (elemsL l).2 with
  | none => ((elemsL l).1, 0, 0)
  | some p => ([], 7, p)
structure ES (l : List Tok) where
  n : Nat
  ps : List Iv
  le : n ≤ l.length
  few : ps.length ≤ n
  fin1 : ps ++ (elemsL (l.drop n)).1 = (elemsL l).1
  fin2 : (elemsL (l.drop n)).2 = (elemsL l).2
def sp_elements : FSpec := ⟨[], fun | [.one (.rd (.toks l))] => some ([l.length ≤ 1000000000], .tup [(false, [.rd (.ivs (elemsR l).1)]), (true, [.int .i64 (elemsR l).2.1, .int .i64 (elemsR l).2.2])]) | _ => none⟩
theorem vc_elements (l : List Tok) : vcP [] [] misc Tryz.f31 (.loop 3 (ES l) (fun x => ⟨[(0, .one (.slc 0)), (3, .one (.ptr 16 0)), (4, .one (.slc 17)), (5, .one (.int .i64 x.n))], [(0, some (.read (.toks l))), (16, some (.cells 28 [.int .i64 0, .int .i64 0])), (17, some (.row 57 (.ivs x.ps)))], 18⟩) (fun x => l.length - x.n) (fun _ => .nil) .nil) [.one (.rd (.toks l))] (.tup [(false, [.rd (.ivs (elemsR l).1)]), (true, [.int .i64 (elemsR l).2.1, .int .i64 (elemsR l).2.2])]) = ((∃ (x : ES l), (0 : Int) = (↑(ES.n x) : Int) ∧ l = l ∧ (0 : Int) = (0 : Int) ∧ (0 : Int) = (0 : Int) ∧ ES.ps x = []) ∧ ∀ (x : ES l), br (decide ((↑(ES.n x) : Int) < (↑(List.length l) : Int))) (((0 : Int) ≤ (↑(ES.n x) : Int) ∧ (↑(ES.n x) : Int) < (↑(List.length l) : Int)) ∧ Int.toNat (↑(ES.n x) : Int) < List.length l ∧ br (Tok.q (List.getD l (Int.toNat (↑(ES.n x) : Int)) default)) ((List.length (ES.ps x) + (1 : Nat)) * (16 : Nat) ≤ (140737488355328 : Nat) ∧ inR IntKind.i64 ((↑(ES.n x) : Int) + (1 : Int)) ∧ ∃ (x' : ES l), ((↑(ES.n x) : Int) + (1 : Int) = (↑(ES.n x') : Int) ∧ l = l ∧ (0 : Int) = (0 : Int) ∧ (0 : Int) = (0 : Int) ∧ ES.ps x ++ [Iv.single (Tok.r (List.getD l (Int.toNat (↑(ES.n x) : Int)) default)) (Tok.q (List.getD l (Int.toNat (↑(ES.n x) : Int)) default)) (Tok.p (List.getD l (Int.toNat (↑(ES.n x) : Int)) default))] = ES.ps x') ∧ List.length l - ES.n x' < List.length l - ES.n x) (br (Tok.r (List.getD l (Int.toNat (↑(ES.n x) : Int)) default) != (42 : Int)) ((List.length (ES.ps x) + (1 : Nat)) * (16 : Nat) ≤ (140737488355328 : Nat) ∧ inR IntKind.i64 ((↑(ES.n x) : Int) + (1 : Int)) ∧ ∃ (x' : ES l), ((↑(ES.n x) : Int) + (1 : Int) = (↑(ES.n x') : Int) ∧ l = l ∧ (0 : Int) = (0 : Int) ∧ (0 : Int) = (0 : Int) ∧ ES.ps x ++ [Iv.single (Tok.r (List.getD l (Int.toNat (↑(ES.n x) : Int)) default)) (Tok.q (List.getD l (Int.toNat (↑(ES.n x) : Int)) default)) (Tok.p (List.getD l (Int.toNat (↑(ES.n x) : Int)) default))] = ES.ps x') ∧ List.length l - ES.n x' < List.length l - ES.n x) (inR IntKind.i64 ((↑(ES.n x) : Int) + (1 : Int)) ∧ br ((↑(ES.n x) : Int) + (1 : Int) == (↑(List.length l) : Int)) ([] = (elemsR l).1 ∧ (7 : Int) = (elemsR l).2.1 ∧ Tok.p (List.getD l (Int.toNat (↑(ES.n x) : Int)) default) = (elemsR l).2.2) (inR IntKind.i64 ((↑(ES.n x) : Int) + (1 : Int)) ∧ ((0 : Int) ≤ (↑(ES.n x) : Int) + (1 : Int) ∧ (↑(ES.n x) : Int) + (1 : Int) < (↑(List.length l) : Int)) ∧ Int.toNat ((↑(ES.n x) : Int) + (1 : Int)) < List.length l ∧ (List.length (ES.ps x) + (1 : Nat)) * (16 : Nat) ≤ (140737488355328 : Nat) ∧ inR IntKind.i64 ((↑(ES.n x) : Int) + (1 : Int) + (1 : Int)) ∧ ∃ (x' : ES l), ((↑(ES.n x) : Int) + (1 : Int) + (1 : Int) = (↑(ES.n x') : Int) ∧ l = l ∧ (0 : Int) = (0 : Int) ∧ (0 : Int) = (0 : Int) ∧ ES.ps x ++ [Iv.padding (Tok.r (List.getD l (Int.toNat ((↑(ES.n x) : Int) + (1 : Int))) default)) (Tok.p (List.getD l (Int.toNat (↑(ES.n x) : Int)) default))] = ES.ps x') ∧ List.length l - ES.n x' < List.length l - ES.n x)))) (ES.ps x = (elemsR l).1 ∧ (0 : Int) = (elemsR l).2.1 ∧ (0 : Int) = (elemsR l).2.2)) := by kernel_rfl
set_option maxHeartbeats 4000000 in
theorem of_elements (h : ∀ (l : List Tok), (l.length ≤ 1000000000) → vcP [] [] misc Tryz.f31 (.loop 3 (ES l) (fun x => ⟨[(0, .one (.slc 0)), (3, .one (.ptr 16 0)), (4, .one (.slc 17)), (5, .one (.int .i64 x.n))], [(0, some (.read (.toks l))), (16, some (.cells 28 [.int .i64 0, .int .i64 0])), (17, some (.row 57 (.ivs x.ps)))], 18⟩) (fun x => l.length - x.n) (fun _ => .nil) .nil) [.one (.rd (.toks l))] (.tup [(false, [.rd (.ivs (elemsR l).1)]), (true, [.int .i64 (elemsR l).2.1, .int .i64 (elemsR l).2.2])])) : FnP 31 sp_elements := by
  refine fnP_ok (cs := []) (cas := []) (ms := misc) .nil .nil misc_ok 31 Tryz.f31 (by kernel_rfl) (by kernel_rfl) (by kernel_rfl) (fun | [.one (.rd (.toks l))] => .loop 3 (ES l) (fun x => ⟨[(0, .one (.slc 0)), (3, .one (.ptr 16 0)), (4, .one (.slc 17)), (5, .one (.int .i64 x.n))], [(0, some (.read (.toks l))), (16, some (.cells 28 [.int .i64 0, .int .i64 0])), (17, some (.row 57 (.ivs x.ps)))], 18⟩) (fun x => l.length - x.n) (fun _ => .nil) .nil | _ => .nil) ?_
  intro pvs p r hs hp
  unfold sp_elements at hs
  simp only at hs
  split at hs
  · rename_i l
    cases hs
    refine h l ?_
    · exact hp
  · cases hs
theorem ok_text : FnP 88 sp_text := of_text (by
  intro l hl hn
  rw [vc_text]
  refine ⟨⟨⟨0, Nat.zero_le _⟩, rfl, rfl, rfl, rfl, rfl⟩, fun i => br_of (fun h => ?_) fun h => ?_⟩
  · have h : i.1 < l.length := by simpa using h
    obtain ⟨h1, h2⟩ := hl _ (getD_mem' (d := default) h)
    have := bys_len ((l.take i.1).map Iv.sR)
    have h3 : ((l.take i.1).map Iv.sR).length ≤ l.length := by simp; omega
    rw [Int.toNat_natCast]
    refine ⟨⟨by omega, by omega⟩, h, h1, h2, by omega, by simp only [inR]; omega, ⟨i.1 + 1, by omega⟩, ⟨rfl, rfl, rfl, by simp, ?_⟩, by show l.length - (i.1 + 1) < l.length - i.1; omega⟩
    show _ = bys ((l.take (i.1 + 1)).map Iv.sR)
    rw [take_next l default h, List.map_append, bys_append]
    show _ = _ ++ bys [_]
    rw [bys_one]
  · have h : ¬ i.1 < l.length := by simpa using h
    rw [List.take_of_length_le (by omega)]
    exact ⟨bys_bytes _, u8s_bys _⟩)
theorem plainT_next {l : List Iv} {i : Nat} (h : i < l.length) : plainT (l.take (i + 1)) = plainT (l.take i) ++ if (l.getD i default).isS then [(l.getD i default).tok] else [] := by
  unfold plainT
  rw [take_next l default h, List.filter_append, List.map_append]
  congr 1
  by_cases hb : (l.getD i default).isS = true
  · rw [if_pos hb, List.filter_cons_of_pos hb]; rfl
  · rw [if_neg hb, List.filter_cons_of_neg hb]; rfl
theorem plainT_len (l : List Iv) : (plainT l).length ≤ l.length := by
  unfold plainT
  rw [List.length_map]
  exact List.length_filter_le _ _
theorem tok_single {y : Iv} (h : y.isS = true) : (⟨y.sR, y.sQ, y.sP⟩ : Tok) = y.tok := by
  cases y <;> first | rfl | cases h
theorem ok_plain : FnP 66 sp_plain := of_plain (by
  intro l hn
  rw [vc_plain]
  refine ⟨⟨⟨0, Nat.zero_le _⟩, rfl, rfl, rfl, rfl⟩, fun i => br_of (fun h => ?_) fun h => ?_⟩
  · have h : i.1 < l.length := by simpa using h
    have h1 := plainT_len (l.take i.1)
    have h2 : (l.take i.1).length ≤ l.length := by simp; omega
    have h3 := plainT_next h
    rw [Int.toNat_natCast]
    refine ⟨⟨by omega, by omega⟩, h, br_of (fun hb => ?_) fun hb => ?_⟩
    · refine ⟨by omega, by simp only [inR]; omega, ⟨i.1 + 1, h⟩, ⟨rfl, rfl, rfl, ?_⟩, by show l.length - (i.1 + 1) < l.length - i.1; omega⟩
      show _ = plainT (l.take (i.1 + 1))
      rw [h3, if_pos hb, tok_single hb]
    · refine ⟨by simp only [inR]; omega, ⟨i.1 + 1, h⟩, ⟨rfl, rfl, rfl, ?_⟩, by show l.length - (i.1 + 1) < l.length - i.1; omega⟩
      show _ = plainT (l.take (i.1 + 1))
      rw [h3, if_neg (by rw [hb]; decide), List.append_nil]
  · have h : ¬ i.1 < l.length := by simpa using h
    rw [List.take_of_length_le (by omega)])
theorem elemsL_other {t : Tok} {m : List Tok} (h : isStar t = false) : elemsL (t :: m) = (t.sg :: (elemsL m).1, (elemsL m).2) := by
  cases m with
  | nil => unfold elemsL; rw [if_neg (by rw [h]; decide)]
  | cons x m => rw [elemsL, if_neg (by rw [h]; decide)]
theorem elemsL_end {t : Tok} (h : isStar t = true) : elemsL [t] = ([], some t.p) := by unfold elemsL; rw [if_pos h]
theorem elemsL_star {t x : Tok} {m : List Tok} (h : isStar t = true) : elemsL (t :: x :: m) = (.padding x.r t.p :: (elemsL m).1, (elemsL m).2) := by rw [elemsL, if_pos h]
theorem drop_next {α : Type} (l : List α) (d : α) {i : Nat} (h : i < l.length) : l.drop i = l.getD i d :: l.drop (i + 1) := by
  rw [List.drop_eq_getElem_cons h, List.getD_eq_getElem?_getD, List.getElem?_eq_getElem h]; rfl
def ES.one {l : List Tok} (x : ES l) (h : x.n < l.length) (hs : isStar (l.getD x.n default) = false) : ES l where
  n := x.n + 1
  ps := x.ps ++ [(l.getD x.n default).sg]
  le := h
  few := by have := x.few; simp; omega
  fin1 := by
    have h1 := x.fin1
    rw [drop_next l default h, elemsL_other hs] at h1
    rw [List.append_assoc]; exact h1
  fin2 := by
    have h1 := x.fin2
    rw [drop_next l default h, elemsL_other hs] at h1
    exact h1
def ES.two {l : List Tok} (x : ES l) (h : x.n + 1 < l.length) (hs : isStar (l.getD x.n default) = true) : ES l where
  n := x.n + 1 + 1
  ps := x.ps ++ [.padding (l.getD (x.n + 1) default).r (l.getD x.n default).p]
  le := h
  few := by have := x.few; simp; omega
  fin1 := by
    have h1 := x.fin1
    rw [drop_next l default (by omega), drop_next l default h, elemsL_star hs] at h1
    rw [List.append_assoc]; exact h1
  fin2 := by
    have h1 := x.fin2
    rw [drop_next l default (by omega), drop_next l default h, elemsL_star hs] at h1
    exact h1
theorem ok_elements : FnP 31 sp_elements := of_elements (by
  intro l hn
  rw [vc_elements]
  refine ⟨⟨⟨0, [], Nat.zero_le _, Nat.le_refl _, rfl, rfl⟩, rfl, rfl, rfl, rfl, rfl⟩, fun x => br_of (fun h => ?_) fun h => ?_⟩
  · have h : x.n < l.length := by simpa using h
    have hf := x.few
    rw [Int.toNat_natCast]
    have hone : ∀ hs : isStar (l.getD x.n default) = false, (x.ps.length + 1) * 16 ≤ 140737488355328 ∧ inR .i64 ((x.n : Int) + 1) ∧ ∃ (x' : ES l), ((x.n : Int) + 1 = (x'.n : Int) ∧ l = l ∧ (0 : Int) = 0 ∧ (0 : Int) = 0 ∧ x.ps ++ [Iv.single (l.getD x.n default).r (l.getD x.n default).q (l.getD x.n default).p] = x'.ps) ∧ l.length - x'.n < l.length - x.n := fun hs =>
      ⟨by omega, by simp only [inR]; omega, x.one h hs, ⟨rfl, rfl, rfl, rfl, rfl⟩, by show l.length - (x.n + 1) < _; omega⟩
    refine ⟨⟨by omega, by omega⟩, h, br_of (fun h1 => hone (by unfold isStar; rw [h1]; rfl)) fun h1 => br_of (fun h2 => hone (by unfold isStar; rw [h1]; simpa using h2)) fun h2 => ⟨by simp only [inR]; omega, br_of (fun h3 => ?_) fun h3 => ?_⟩⟩
    · have hs : isStar (l.getD x.n default) = true := by unfold isStar; rw [h1]; simpa using h2
      have h3 : x.n + 1 = l.length := by have := eq_of_beq h3; omega
      have h4 := x.fin2
      rw [drop_next l default h, List.drop_of_length_le (by omega), elemsL_end hs] at h4
      unfold elemsR
      rw [← h4]
      exact ⟨rfl, rfl, rfl⟩
    · have hs : isStar (l.getD x.n default) = true := by unfold isStar; rw [h1]; simpa using h2
      have h3 : x.n + 1 < l.length := by
        have : ¬ ((x.n : Int) + 1 = (l.length : Int)) := by simpa using h3
        omega
      rw [show ((x.n : Int) + 1).toNat = x.n + 1 by omega]
      exact ⟨by simp only [inR]; omega, ⟨by omega, by omega⟩, h3, by omega, by simp only [inR]; omega, x.two h3 hs, ⟨rfl, rfl, rfl, rfl, rfl⟩, by show l.length - (x.n + 1 + 1) < _; omega⟩
  · have h : ¬ x.n < l.length := by simpa using h
    have h1 := x.fin1
    have h2 := x.fin2
    rw [List.drop_of_length_le (by omega)] at h1 h2
    have h1 : x.ps ++ [] = (elemsL l).1 := h1
    have h2 : none = (elemsL l).2 := h2
    unfold elemsR
    rw [← h2, ← h1, List.append_nil]
    exact ⟨rfl, rfl, rfl⟩)
def spotsN (N : Nat) (a b : Int) : Nat → List Iv → List Spot
  | _, [] => []
  | n, y :: l => (if y.isP then [⟨y.pR, y.pP, if n = 0 then a else if n + 1 = N then b else 0⟩] else []) ++ spotsN N a b (n + 1) l
structure PS (l : List Iv) (a b : Int) where
  n : Nat
  ds : List Spot
  le : n ≤ l.length
  few : ds.length ≤ n
  fin : ds ++ spotsN l.length a b n (l.drop n) = spotsN l.length a b 0 l
def sp_spots1 : ASpec := ⟨fun | [.one (.slc 0), .one (.int .i64 a), .one (.int .i64 b), .one (.ptr 1 0)], [(0, some (.read (.ivs l))), (1, some (.cells 135 [.slc 2])), (2, some (.row 62 (.spots ps)))] => some ([l.length ≤ 1000000000, ps.length ≤ 1000000000], .tup [], [(0, some (.read (.ivs l))), (1, some (.cells 135 [.slc 16])), (16, some (.row 62 (.spots (ps ++ spotsN l.length a b 0 l))))]) | _, _ => none⟩
theorem vc_spots1 (l : List Iv) (a b : Int) (ps : List Spot) : vcA [] [] misc Tryz.f113 (.loop 1 (PS l a b) (fun x => ⟨[(0, .one (.slc 0)), (1, .one (.int .i64 a)), (2, .one (.int .i64 b)), (3, .one (.ptr 1 0)), (11, .one (.slc 0)), (12, .one (.int .i64 l.length)), (13, .one (.int .i64 x.n))], [(0, some (.read (.ivs l))), (1, some (.cells 135 [.slc 17])), (17, some (.row 62 (.spots (ps ++ x.ds))))], 18⟩) (fun x => l.length - x.n) (fun _ => .nil) .nil) [.one (.slc 0), .one (.int .i64 a), .one (.int .i64 b), .one (.ptr 1 0)] [(0, some (.read (.ivs l))), (1, some (.cells 135 [.slc 2])), (2, some (.row 62 (.spots ps)))] (.tup []) [(0, some (.read (.ivs l))), (1, some (.cells 135 [.slc 16])), (16, some (.row 62 (.spots (ps ++ spotsN l.length a b 0 l))))] = ((∃ (x : PS l a b), a = a ∧ b = b ∧ (↑(List.length l) : Int) = (↑(List.length l) : Int) ∧ (0 : Int) = (↑(PS.n x) : Int) ∧ l = l ∧ ps = ps ++ PS.ds x) ∧ ∀ (x : PS l a b), br (decide ((↑(PS.n x) : Int) < (↑(List.length l) : Int))) (((0 : Int) ≤ (↑(PS.n x) : Int) ∧ (↑(PS.n x) : Int) < (↑(List.length l) : Int)) ∧ Int.toNat (↑(PS.n x) : Int) < List.length l ∧ br (!Iv.isP (List.getD l (Int.toNat (↑(PS.n x) : Int)) default)) (inR IntKind.i64 ((↑(PS.n x) : Int) + (1 : Int)) ∧ ∃ (x' : PS l a b), (a = a ∧ b = b ∧ (↑(List.length l) : Int) = (↑(List.length l) : Int) ∧ (↑(PS.n x) : Int) + (1 : Int) = (↑(PS.n x') : Int) ∧ l = l ∧ ps ++ PS.ds x = ps ++ PS.ds x') ∧ List.length l - PS.n x' < List.length l - PS.n x) (br ((↑(PS.n x) : Int) == (0 : Int)) ((List.length (ps ++ PS.ds x) + (1 : Nat)) * (24 : Nat) ≤ (140737488355328 : Nat) ∧ inR IntKind.i64 ((↑(PS.n x) : Int) + (1 : Int)) ∧ ∃ (x' : PS l a b), (a = a ∧ b = b ∧ (↑(List.length l) : Int) = (↑(List.length l) : Int) ∧ (↑(PS.n x) : Int) + (1 : Int) = (↑(PS.n x') : Int) ∧ l = l ∧ ps ++ PS.ds x ++ [{ r := Iv.pR (List.getD l (Int.toNat (↑(PS.n x) : Int)) default), p := Iv.pP (List.getD l (Int.toNat (↑(PS.n x) : Int)) default), w := a }] = ps ++ PS.ds x') ∧ List.length l - PS.n x' < List.length l - PS.n x) (inR IntKind.i64 ((↑(List.length l) : Int) - (1 : Int)) ∧ br ((↑(PS.n x) : Int) == (↑(List.length l) : Int) - (1 : Int)) ((List.length (ps ++ PS.ds x) + (1 : Nat)) * (24 : Nat) ≤ (140737488355328 : Nat) ∧ inR IntKind.i64 ((↑(PS.n x) : Int) + (1 : Int)) ∧ ∃ (x' : PS l a b), (a = a ∧ b = b ∧ (↑(List.length l) : Int) = (↑(List.length l) : Int) ∧ (↑(PS.n x) : Int) + (1 : Int) = (↑(PS.n x') : Int) ∧ l = l ∧ ps ++ PS.ds x ++ [{ r := Iv.pR (List.getD l (Int.toNat (↑(PS.n x) : Int)) default), p := Iv.pP (List.getD l (Int.toNat (↑(PS.n x) : Int)) default), w := b }] = ps ++ PS.ds x') ∧ List.length l - PS.n x' < List.length l - PS.n x) ((List.length (ps ++ PS.ds x) + (1 : Nat)) * (24 : Nat) ≤ (140737488355328 : Nat) ∧ inR IntKind.i64 ((↑(PS.n x) : Int) + (1 : Int)) ∧ ∃ (x' : PS l a b), (a = a ∧ b = b ∧ (↑(List.length l) : Int) = (↑(List.length l) : Int) ∧ (↑(PS.n x) : Int) + (1 : Int) = (↑(PS.n x') : Int) ∧ l = l ∧ ps ++ PS.ds x ++ [{ r := Iv.pR (List.getD l (Int.toNat (↑(PS.n x) : Int)) default), p := Iv.pP (List.getD l (Int.toNat (↑(PS.n x) : Int)) default), w := (0 : Int) }] = ps ++ PS.ds x') ∧ List.length l - PS.n x' < List.length l - PS.n x)))) (l = l ∧ ps ++ PS.ds x = ps ++ spotsN (List.length l) a b (0 : Nat) l)) := by kernel_rfl
set_option maxHeartbeats 4000000 in
theorem of_spots1 (h : ∀ (l : List Iv) (a b : Int) (ps : List Spot), (l.length ≤ 1000000000) → (ps.length ≤ 1000000000) → vcA [] [] misc Tryz.f113 (.loop 1 (PS l a b) (fun x => ⟨[(0, .one (.slc 0)), (1, .one (.int .i64 a)), (2, .one (.int .i64 b)), (3, .one (.ptr 1 0)), (11, .one (.slc 0)), (12, .one (.int .i64 l.length)), (13, .one (.int .i64 x.n))], [(0, some (.read (.ivs l))), (1, some (.cells 135 [.slc 17])), (17, some (.row 62 (.spots (ps ++ x.ds))))], 18⟩) (fun x => l.length - x.n) (fun _ => .nil) .nil) [.one (.slc 0), .one (.int .i64 a), .one (.int .i64 b), .one (.ptr 1 0)] [(0, some (.read (.ivs l))), (1, some (.cells 135 [.slc 2])), (2, some (.row 62 (.spots ps)))] (.tup []) [(0, some (.read (.ivs l))), (1, some (.cells 135 [.slc 16])), (16, some (.row 62 (.spots (ps ++ spotsN l.length a b 0 l))))]) : FnA 113 sp_spots1 := by
  refine fnA_ok (cs := []) (cas := []) (ms := misc) .nil .nil misc_ok 113 Tryz.f113 (by kernel_rfl) (by kernel_rfl) (by kernel_rfl) (fun | [.one (.slc 0), .one (.int .i64 a), .one (.int .i64 b), .one (.ptr 1 0)], [(0, some (.read (.ivs l))), (1, some (.cells 135 [.slc 2])), (2, some (.row 62 (.spots ps)))] => .loop 1 (PS l a b) (fun x => ⟨[(0, .one (.slc 0)), (1, .one (.int .i64 a)), (2, .one (.int .i64 b)), (3, .one (.ptr 1 0)), (11, .one (.slc 0)), (12, .one (.int .i64 l.length)), (13, .one (.int .i64 x.n))], [(0, some (.read (.ivs l))), (1, some (.cells 135 [.slc 17])), (17, some (.row 62 (.spots (ps ++ x.ds))))], 18⟩) (fun x => l.length - x.n) (fun _ => .nil) .nil | _, _ => .nil) ?_
  intro args mem p r post hs hp
  unfold sp_spots1 at hs
  simp only at hs
  split at hs
  · rename_i a b l ps
    cases hs
    refine h l a b ps ?_ ?_
    · exact hp.1
    · exact hp.2
  · cases hs
def spotW (N : Nat) (a b : Int) (n : Nat) : Int := if n = 0 then a else if n + 1 = N then b else 0
def PS.next {l : List Iv} {a b : Int} (x : PS l a b) (h : x.n < l.length) : PS l a b where
  n := x.n + 1
  ds := x.ds ++ if (l.getD x.n default).isP then [⟨(l.getD x.n default).pR, (l.getD x.n default).pP, spotW l.length a b x.n⟩] else []
  le := h
  few := by have := x.few; rw [List.length_append]; split <;> simp <;> omega
  fin := by
    have h1 := x.fin
    rw [drop_next l default h, spotsN] at h1
    rw [List.append_assoc]; exact h1
theorem spotsN_len (N : Nat) (a b : Int) : ∀ (l : List Iv) (n : Nat), (spotsN N a b n l).length ≤ l.length := by
  intro l
  induction l with
  | nil => intro n; exact Nat.le_refl _
  | cons y l ih =>
    intro n
    rw [spotsN, List.length_append]
    have := ih (n + 1)
    split <;> simp <;> omega
theorem ok_spots1 : FnA 113 sp_spots1 := of_spots1 (by
  intro l a b ps hl hps
  rw [vc_spots1]
  refine ⟨⟨⟨0, [], Nat.zero_le _, Nat.le_refl _, rfl⟩, rfl, rfl, rfl, rfl, rfl, (List.append_nil _).symm⟩, fun x => br_of (fun h => ?_) fun h => ?_⟩
  · have h : x.n < l.length := by simpa using h
    have hf := x.few
    have hcap : ((ps ++ x.ds).length + 1) * 24 ≤ 140737488355328 := by rw [List.length_append]; omega
    have hin : inR .i64 ((x.n : Int) + 1) := by simp only [inR]; omega
    have hμ : l.length - (x.next h).n < l.length - x.n := by show l.length - (x.n + 1) < _; omega
    rw [Int.toNat_natCast]
    have hgo : ∀ (w : Int), (l.getD x.n default).isP = true → spotW l.length a b x.n = w → ps ++ x.ds ++ [⟨(l.getD x.n default).pR, (l.getD x.n default).pP, w⟩] = ps ++ (x.next h).ds := by
      intro w hp hw
      show _ = ps ++ (x.ds ++ _)
      rw [if_pos hp, hw, List.append_assoc]
    refine ⟨⟨by omega, by omega⟩, h, br_of (fun h1 => ⟨hin, x.next h, ⟨rfl, rfl, rfl, rfl, rfl, ?_⟩, hμ⟩) fun h1 => ?_⟩
    · have h1 : (l.getD x.n default).isP = false := by simpa using h1
      show _ = ps ++ (x.ds ++ _)
      rw [if_neg (by rw [h1]; decide), List.append_nil]
    · have h1 : (l.getD x.n default).isP = true := by simpa using h1
      refine br_of (fun h2 => ?_) fun h2 => ⟨by simp only [inR]; omega, br_of (fun h3 => ?_) fun h3 => ?_⟩
      · have h2 : x.n = 0 := by have := eq_of_beq h2; omega
        exact ⟨hcap, hin, x.next h, ⟨rfl, rfl, rfl, rfl, rfl, hgo a h1 (by unfold spotW; rw [if_pos h2])⟩, hμ⟩
      · have h2 : ¬ x.n = 0 := by
          have : ¬ ((x.n : Int) = 0) := by simpa using h2
          omega
        have h3 : x.n + 1 = l.length := by have := eq_of_beq h3; omega
        exact ⟨hcap, hin, x.next h, ⟨rfl, rfl, rfl, rfl, rfl, hgo b h1 (by unfold spotW; rw [if_neg h2, if_pos h3])⟩, hμ⟩
      · have h2 : ¬ x.n = 0 := by
          have : ¬ ((x.n : Int) = 0) := by simpa using h2
          omega
        have h3 : ¬ x.n + 1 = l.length := by
          have : ¬ ((x.n : Int) = (l.length : Int) - 1) := by simpa using h3
          omega
        exact ⟨hcap, hin, x.next h, ⟨rfl, rfl, rfl, rfl, rfl, hgo 0 h1 (by unfold spotW; rw [if_neg h2, if_neg h3])⟩, hμ⟩
  · have h : ¬ x.n < l.length := by simpa using h
    have h1 := x.fin
    rw [List.drop_of_length_le (by omega)] at h1
    refine ⟨rfl, ?_⟩
    rw [← h1]
    show _ = ps ++ (x.ds ++ [])
    rw [List.append_nil])
def spotsT (p s : List Iv) : List Spot := spotsN p.length 1 2 0 p ++ spotsN s.length 3 4 0 s
def sp_spots : FSpec := ⟨[], fun | [.agg [.int .i64 b, .rd (.ivs p), .rd (.ivs s), .str t, .int .i64 a]] => some ([p.length ≤ 1000000000, s.length ≤ 1000000000], .one (.rd (.spots (spotsT p s)))) | _ => none⟩
theorem vc_spots (b : Int) (p s : List Iv) (t : List UInt8) (a : Int) : vcP [] [(113, sp_spots1)] misc Tryz.f89 (.nil) [.agg [.int .i64 b, .rd (.ivs p), .rd (.ivs s), .str t, .int .i64 a]] (.one (.rd (.spots (spotsT p s)))) = (List.length p ≤ (1000000000 : Nat) ∧ (0 : Nat) ≤ (1000000000 : Nat) ∧ List.length s ≤ (1000000000 : Nat) ∧ List.length ([] ++ spotsN (List.length p) (1 : Int) (2 : Int) (0 : Nat) p) ≤ (1000000000 : Nat) ∧ [] ++ spotsN (List.length p) (1 : Int) (2 : Int) (0 : Nat) p ++ spotsN (List.length s) (3 : Int) (4 : Int) (0 : Nat) s = spotsT p s) := by kernel_rfl
set_option maxHeartbeats 4000000 in
theorem of_spots (h : ∀ (b : Int) (p s : List Iv) (t : List UInt8) (a : Int), (p.length ≤ 1000000000) → (s.length ≤ 1000000000) → vcP [] [(113, sp_spots1)] misc Tryz.f89 (.nil) [.agg [.int .i64 b, .rd (.ivs p), .rd (.ivs s), .str t, .int .i64 a]] (.one (.rd (.spots (spotsT p s))))) : FnP 89 sp_spots := by
  refine fnP_ok (cs := []) (cas := [(113, sp_spots1)]) (ms := misc) .nil (.cons ok_spots1 .nil) misc_ok 89 Tryz.f89 (by kernel_rfl) (by kernel_rfl) (by kernel_rfl) (fun _ => .nil) ?_
  intro pvs p r hs hp
  unfold sp_spots at hs
  simp only at hs
  split at hs
  · rename_i b p s t a
    cases hs
    refine h b p s t a ?_ ?_
    · exact hp.1
    · exact hp.2
  · cases hs
theorem ok_spots : FnP 89 sp_spots := of_spots (by
  intro b p s t a hp hs
  rw [vc_spots]
  have := spotsN_len p.length 1 2 p 0
  exact ⟨hp, by decide, hs, by rw [List.nil_append]; omega, rfl⟩)
def paddedT (l : List Spot) (first : Bool) : Spot × Int × Int :=
  match l with
  | [] => (⟨0, 0, 0⟩, 0, 0)
  | x :: m => if x.w = 0 ∨ first = false then (⟨0, 0, 0⟩, 7, x.p) else match m with | [] => (x, 0, 0) | y :: _ => (⟨0, 0, 0⟩, 7, y.p)
def PX (l : List Spot) (first : Bool) : Type := {b : Bool // b = true → ∃ x m, l = x :: m ∧ x.w ≠ 0 ∧ first = true}
def pxN (b : Bool) : Nat := if b then 1 else 0
def pxS (l : List Spot) (b : Bool) : Spot := if b then l.getD 0 ⟨0, 0, 0⟩ else ⟨0, 0, 0⟩
def sp_padded : FSpec := ⟨[], fun | [.agg [.int .i64 b, .rd (.ivs p), .rd (.ivs s), .str t, .int .i64 a], .one (.bool first)] => some ([p.length ≤ 1000000000, s.length ≤ 1000000000], .tup [(true, [.int .i32 (paddedT (spotsT p s) first).1.r, .int .i64 (paddedT (spotsT p s) first).1.p, .int .i64 (paddedT (spotsT p s) first).1.w]), (true, [.int .i64 (paddedT (spotsT p s) first).2.1, .int .i64 (paddedT (spotsT p s) first).2.2])]) | _ => none⟩
theorem vc_padded (b : Int) (p s : List Iv) (t : List UInt8) (a : Int) (first : Bool) : vcP [(89, sp_spots)] [] misc Tryz.f64 (.loop 3 (PX (spotsT p s) first) (fun x => ⟨[(1, .one (.bool first)), (4, .one (.ptr 16 0)), (5, .one (.ptr 17 0)), (6, .one (.ptr 18 0)), (10, .one (.slc 19)), (11, .one (.int .i64 (spotsT p s).length)), (12, .one (.int .i64 (pxN x.1)))], [(16, some (.cells 62 [.int .i32 0, .int .i64 0, .int .i64 0])), (17, some (.cells 28 [.int .i64 0, .int .i64 0])), (18, some (.cells 62 [.int .i32 (pxS (spotsT p s) x.1).r, .int .i64 (pxS (spotsT p s) x.1).p, .int .i64 (pxS (spotsT p s) x.1).w])), (19, some (.read (.spots (spotsT p s))))], 20⟩) (fun x => 2 - pxN x.1) (fun _ => .nil) .nil) [.agg [.int .i64 b, .rd (.ivs p), .rd (.ivs s), .str t, .int .i64 a], .one (.bool first)] (.tup [(true, [.int .i32 (paddedT (spotsT p s) first).1.r, .int .i64 (paddedT (spotsT p s) first).1.p, .int .i64 (paddedT (spotsT p s) first).1.w]), (true, [.int .i64 (paddedT (spotsT p s) first).2.1, .int .i64 (paddedT (spotsT p s) first).2.2])]) = (letI v0 := (paddedT (spotsT p s) first); letI v1 := (↑(List.length (spotsT p s)) : Int); letI v2 := ((0 : Int) = Spot.r v0.1 ∧ (0 : Int) = Spot.p v0.1 ∧ (0 : Int) = Spot.w v0.1); (List.length p ≤ (1000000000 : Nat) ∧ List.length s ≤ (1000000000 : Nat) ∧ (∃ (x : PX (spotsT p s) first), first = first ∧ v1 = v1 ∧ (0 : Int) = (↑(pxN (Subtype.val x)) : Int) ∧ (0 : Int) = (0 : Int) ∧ (0 : Int) = (0 : Int) ∧ (0 : Int) = (0 : Int) ∧ (0 : Int) = (0 : Int) ∧ (0 : Int) = (0 : Int) ∧ (0 : Int) = Spot.r (pxS (spotsT p s) (Subtype.val x)) ∧ (0 : Int) = Spot.p (pxS (spotsT p s) (Subtype.val x)) ∧ (0 : Int) = Spot.w (pxS (spotsT p s) (Subtype.val x)) ∧ spotsT p s = spotsT p s) ∧ ∀ (x : PX (spotsT p s) first), br (decide ((↑(pxN (Subtype.val x)) : Int) < v1)) (((0 : Int) ≤ (↑(pxN (Subtype.val x)) : Int) ∧ (↑(pxN (Subtype.val x)) : Int) < v1) ∧ Int.toNat (↑(pxN (Subtype.val x)) : Int) < List.length (spotsT p s) ∧ br (Spot.w (List.getD (spotsT p s) (Int.toNat (↑(pxN (Subtype.val x)) : Int)) default) == (0 : Int)) (v2 ∧ (7 : Int) = v0.2.1 ∧ Spot.p (List.getD (spotsT p s) (Int.toNat (↑(pxN (Subtype.val x)) : Int)) default) = v0.2.2) (br (decide ((↑(pxN (Subtype.val x)) : Int) > (0 : Int))) (v2 ∧ (7 : Int) = v0.2.1 ∧ Spot.p (List.getD (spotsT p s) (Int.toNat (↑(pxN (Subtype.val x)) : Int)) default) = v0.2.2) (br (!first) (v2 ∧ (7 : Int) = v0.2.1 ∧ Spot.p (List.getD (spotsT p s) (Int.toNat (↑(pxN (Subtype.val x)) : Int)) default) = v0.2.2) (inR IntKind.i64 ((↑(pxN (Subtype.val x)) : Int) + (1 : Int)) ∧ ∃ (x' : PX (spotsT p s) first), (first = first ∧ v1 = v1 ∧ (↑(pxN (Subtype.val x)) : Int) + (1 : Int) = (↑(pxN (Subtype.val x')) : Int) ∧ (0 : Int) = (0 : Int) ∧ (0 : Int) = (0 : Int) ∧ (0 : Int) = (0 : Int) ∧ (0 : Int) = (0 : Int) ∧ (0 : Int) = (0 : Int) ∧ Spot.r (List.getD (spotsT p s) (Int.toNat (↑(pxN (Subtype.val x)) : Int)) default) = Spot.r (pxS (spotsT p s) (Subtype.val x')) ∧ Spot.p (List.getD (spotsT p s) (Int.toNat (↑(pxN (Subtype.val x)) : Int)) default) = Spot.p (pxS (spotsT p s) (Subtype.val x')) ∧ Spot.w (List.getD (spotsT p s) (Int.toNat (↑(pxN (Subtype.val x)) : Int)) default) = Spot.w (pxS (spotsT p s) (Subtype.val x')) ∧ spotsT p s = spotsT p s) ∧ (2 : Nat) - pxN (Subtype.val x') < (2 : Nat) - pxN (Subtype.val x))))) ((Spot.r (pxS (spotsT p s) (Subtype.val x)) = Spot.r v0.1 ∧ Spot.p (pxS (spotsT p s) (Subtype.val x)) = Spot.p v0.1 ∧ Spot.w (pxS (spotsT p s) (Subtype.val x)) = Spot.w v0.1) ∧ (0 : Int) = v0.2.1 ∧ (0 : Int) = v0.2.2))) := by kernel_rfl
set_option maxHeartbeats 4000000 in
theorem of_padded (h : ∀ (b : Int) (p s : List Iv) (t : List UInt8) (a : Int) (first : Bool), (p.length ≤ 1000000000) → (s.length ≤ 1000000000) → vcP [(89, sp_spots)] [] misc Tryz.f64 (.loop 3 (PX (spotsT p s) first) (fun x => ⟨[(1, .one (.bool first)), (4, .one (.ptr 16 0)), (5, .one (.ptr 17 0)), (6, .one (.ptr 18 0)), (10, .one (.slc 19)), (11, .one (.int .i64 (spotsT p s).length)), (12, .one (.int .i64 (pxN x.1)))], [(16, some (.cells 62 [.int .i32 0, .int .i64 0, .int .i64 0])), (17, some (.cells 28 [.int .i64 0, .int .i64 0])), (18, some (.cells 62 [.int .i32 (pxS (spotsT p s) x.1).r, .int .i64 (pxS (spotsT p s) x.1).p, .int .i64 (pxS (spotsT p s) x.1).w])), (19, some (.read (.spots (spotsT p s))))], 20⟩) (fun x => 2 - pxN x.1) (fun _ => .nil) .nil) [.agg [.int .i64 b, .rd (.ivs p), .rd (.ivs s), .str t, .int .i64 a], .one (.bool first)] (.tup [(true, [.int .i32 (paddedT (spotsT p s) first).1.r, .int .i64 (paddedT (spotsT p s) first).1.p, .int .i64 (paddedT (spotsT p s) first).1.w]), (true, [.int .i64 (paddedT (spotsT p s) first).2.1, .int .i64 (paddedT (spotsT p s) first).2.2])])) : FnP 64 sp_padded := by
  refine fnP_ok (cs := [(89, sp_spots)]) (cas := []) (ms := misc) (.cons ok_spots .nil) .nil misc_ok 64 Tryz.f64 (by kernel_rfl) (by kernel_rfl) (by kernel_rfl) (fun | [.agg [.int .i64 b, .rd (.ivs p), .rd (.ivs s), .str t, .int .i64 a], .one (.bool first)] => .loop 3 (PX (spotsT p s) first) (fun x => ⟨[(1, .one (.bool first)), (4, .one (.ptr 16 0)), (5, .one (.ptr 17 0)), (6, .one (.ptr 18 0)), (10, .one (.slc 19)), (11, .one (.int .i64 (spotsT p s).length)), (12, .one (.int .i64 (pxN x.1)))], [(16, some (.cells 62 [.int .i32 0, .int .i64 0, .int .i64 0])), (17, some (.cells 28 [.int .i64 0, .int .i64 0])), (18, some (.cells 62 [.int .i32 (pxS (spotsT p s) x.1).r, .int .i64 (pxS (spotsT p s) x.1).p, .int .i64 (pxS (spotsT p s) x.1).w])), (19, some (.read (.spots (spotsT p s))))], 20⟩) (fun x => 2 - pxN x.1) (fun _ => .nil) .nil | _ => .nil) ?_
  intro pvs p r hs hp
  unfold sp_padded at hs
  simp only at hs
  split at hs
  · rename_i b p s t a first
    cases hs
    refine h b p s t a first ?_ ?_
    · exact hp.1
    · exact hp.2
  · cases hs
theorem ok_padded : FnP 64 sp_padded := of_padded (by
  intro b p s t a first hp hs
  rw [vc_padded]
  generalize spotsT p s = l
  refine ⟨hp, hs, ⟨⟨false, fun h => by cases h⟩, rfl, rfl, rfl, rfl, rfl, rfl, rfl, rfl, rfl, rfl, rfl, rfl⟩, fun x => br_of (fun h => ?_) fun h => ?_⟩
  · have h : pxN x.1 < l.length := by simpa using h
    rw [Int.toNat_natCast]
    have h0 : pxN x.1 ≤ 1 := by unfold pxN; split <;> omega
    refine ⟨⟨by omega, by omega⟩, h, ?_⟩
    have hne : l ≠ [] := by rintro rfl; exact absurd h (by simp)
    obtain ⟨y, m, hl⟩ := List.exists_cons_of_ne_nil hne
    by_cases hb : x.1 = true
    · obtain ⟨y', m', e1, e2, e3⟩ := x.2 hb
      have hx1 : pxN x.1 = 1 := by unfold pxN; rw [if_pos hb]
      rw [hx1] at h ⊢
      subst e1
      obtain ⟨z, m2, hm⟩ : ∃ z m2, m' = z :: m2 := by
        cases m' with
        | nil => exact absurd h (by simp)
        | cons z m2 => exact ⟨z, m2, rfl⟩
      subst hm
      have hpT : paddedT (y' :: z :: m2) first = (⟨0, 0, 0⟩, 7, z.p) := by
        simp [paddedT, e2, e3]
      rw [hpT]
      refine br_of (fun _ => ⟨⟨rfl, rfl, rfl⟩, rfl, rfl⟩) fun _ => br_of (fun _ => ⟨⟨rfl, rfl, rfl⟩, rfl, rfl⟩) fun h2 => by simp at h2
    · have hx0 : pxN x.1 = 0 := by unfold pxN; rw [if_neg hb]
      rw [hx0] at h ⊢
      subst hl
      have bad : (y.w = 0 ∨ first = false) → (((0 : Int) = (paddedT (y :: m) first).1.r ∧ 0 = (paddedT (y :: m) first).1.p ∧ 0 = (paddedT (y :: m) first).1.w) ∧ 7 = (paddedT (y :: m) first).2.1 ∧ y.p = (paddedT (y :: m) first).2.2) := by
        intro hw
        have : paddedT (y :: m) first = (⟨0, 0, 0⟩, 7, y.p) := by unfold paddedT; simp only; rw [if_pos hw]
        rw [this]
        exact ⟨⟨rfl, rfl, rfl⟩, rfl, rfl⟩
      refine br_of (fun h1 => bad (.inl (eq_of_beq h1))) fun h1 => br_of (fun h2 => by simp at h2) fun _ => br_of (fun h2 => bad (.inr (by simpa using h2))) fun h2 => ?_
      have h1 : y.w ≠ 0 := by simpa using h1
      have h2 : first = true := by simpa using h2
      exact ⟨by simp only [inR]; omega, ⟨true, fun _ => ⟨y, m, rfl, h1, h2⟩⟩, ⟨rfl, rfl, rfl, rfl, rfl, rfl, rfl, rfl, rfl, rfl, rfl, rfl⟩, by show 2 - 1 < 2 - 0; decide⟩
  · have h : ¬ pxN x.1 < l.length := by simpa using h
    by_cases hb : x.1 = true
    · obtain ⟨y', m', e1, e2, e3⟩ := x.2 hb
      have hx1 : pxN x.1 = 1 := by unfold pxN; rw [if_pos hb]
      subst e1
      have : m' = [] := by
        rw [hx1] at h
        cases m' with
        | nil => rfl
        | cons z m2 => exact absurd h (by simp)
      subst this
      have hpT : paddedT [y'] first = (y', 0, 0) := by
        simp [paddedT, e2, e3]
      rw [hpT, hb]
      exact ⟨⟨rfl, rfl, rfl⟩, rfl, rfl⟩
    · have hx0 : pxN x.1 = 0 := by unfold pxN; rw [if_neg hb]
      have hb : x.1 = false := by simpa using hb
      have : l = [] := List.eq_nil_of_length_eq_zero (by omega)
      subst this
      rw [hb]
      exact ⟨⟨rfl, rfl, rfl⟩, rfl, rfl⟩)
def EOK (l : List Iv) : Prop := ∀ y ∈ l, y.isE = true ∧ (y.isS = true → scalar y.sR = true)
def cutN (l : List Iv) : Nat := l.findIdx (isIn bodyC)
def cutA (l : List Iv) (n : Nat) : Nat := n + runN (l.drop n) bodyC
def cutB (l : List Iv) (e : Nat) : Nat := e + 1 + min (runN (l.drop (e + 1)) [43]) 1
def cutE (l : List Iv) : Nat :=
  if 0 < runN (l.drop (cutA l (cutN l))) [69] then cutB l (cutA l (cutN l)) + runN (l.drop (cutB l (cutA l (cutN l)))) bodyC
  else cutA l (cutN l)
structure HalfT where
  b : Int
  p : List Iv
  s : List Iv
  t : List UInt8
  a : Int
def cutT (l : List Iv) (b : Int) : HalfT × Bool :=
  if cutN l < l.length then (⟨b, l.take (cutN l), l.drop (cutE l), encs (((l.take (cutE l)).drop (cutN l)).map Iv.sR), (l.getD (cutN l) default).at_⟩, true)
  else (⟨0, [], [], [], 0⟩, false)
def CN (l : List Iv) : Type := {n : Nat // n = cutN l ∧ n < l.length}
def CA (l : List Iv) : Type := {p : Nat × Nat // p.1 = cutN l ∧ p.1 < l.length ∧ p.2 = cutA l p.1}
def CM (l : List Iv) : Type := {p : Nat × Nat // p.1 = cutN l ∧ p.1 < l.length ∧ 0 < runN (l.drop (cutA l p.1)) [69] ∧ p.2 = cutA l p.1 + 1}
def CB (l : List Iv) : Type := {p : Nat × Nat // p.1 = cutN l ∧ p.1 < l.length ∧ 0 < runN (l.drop (cutA l p.1)) [69] ∧ p.2 = cutB l (cutA l p.1)}
def CE (l : List Iv) : Type := {p : Nat × Nat // p.1 = cutN l ∧ p.1 < l.length ∧ p.2 = cutE l}
def sp_pcut : FSpec := ⟨[], fun | [.one (.rd (.ivs l)), .one (.int .i64 b)] => some ([EOK l, l.length ≤ 1000000000], .tup [(true, [.int .i64 (cutT l b).1.b, .rd (.ivs (cutT l b).1.p), .rd (.ivs (cutT l b).1.s), .str (cutT l b).1.t, .int .i64 (cutT l b).1.a]), (false, [.bool (cutT l b).2])]) | _ => none⟩
theorem vc_pcut (l : List Iv) (b : Int) : vcP [(84, sp_idxC), (87, sp_run), (88, sp_text)] [] misc Tryz.f63 (.cut 4 (CN l) (fun x => ⟨[(0, .one (.slc 0)), (1, .one (.int .i64 b)), (4, .one (.ptr 16 0)), (6, .one (.int .i64 x.1))], [(0, some (.read (.ivs l))), (16, some (.cells 111 [.int .i64 0, .nils, .nils, .str [], .int .i64 0]))], 18⟩) (fun x => .cut 5 (CA l) (fun y => ⟨[(0, .one (.slc 0)), (1, .one (.int .i64 b)), (4, .one (.ptr 16 0)), (6, .one (.int .i64 y.1.1)), (7, .one (.int .i64 y.1.2))], [(0, some (.read (.ivs l))), (16, some (.cells 111 [.int .i64 0, .nils, .nils, .str [], .int .i64 0]))], 18⟩) (fun y => .cut 9 (CE l) (fun z => ⟨[(0, .one (.slc 0)), (1, .one (.int .i64 b)), (4, .one (.ptr 16 0)), (6, .one (.int .i64 z.1.1)), (7, .one (.int .i64 z.1.2))], [(0, some (.read (.ivs l))), (16, some (.cells 111 [.int .i64 0, .nils, .nils, .str [], .int .i64 0]))], 18⟩) (fun z => .nil) (.cut 7 (CM l) (fun z => ⟨[(0, .one (.slc 0)), (1, .one (.int .i64 b)), (4, .one (.ptr 16 0)), (6, .one (.int .i64 z.1.1)), (7, .one (.int .i64 z.1.2))], [(0, some (.read (.ivs l))), (16, some (.cells 111 [.int .i64 0, .nils, .nils, .str [], .int .i64 0]))], 18⟩) (fun z => .cut 8 (CB l) (fun z => ⟨[(0, .one (.slc 0)), (1, .one (.int .i64 b)), (4, .one (.ptr 16 0)), (6, .one (.int .i64 z.1.1)), (7, .one (.int .i64 z.1.2))], [(0, some (.read (.ivs l))), (16, some (.cells 111 [.int .i64 0, .nils, .nils, .str [], .int .i64 0]))], 18⟩) (fun z => .nil) .nil) .nil)) .nil) .nil) [.one (.rd (.ivs l)), .one (.int .i64 b)] (.tup [(true, [.int .i64 (cutT l b).1.b, .rd (.ivs (cutT l b).1.p), .rd (.ivs (cutT l b).1.s), .str (cutT l b).1.t, .int .i64 (cutT l b).1.a]), (false, [.bool (cutT l b).2])]) = (letI v0 := ([(35 : UInt8), (48 : UInt8), (49 : UInt8), (50 : UInt8), (51 : UInt8), (52 : UInt8), (53 : UInt8), (54 : UInt8), (55 : UInt8), (56 : UInt8), (57 : UInt8), (64 : UInt8), (44 : UInt8), (46 : UInt8)] : List UInt8); letI v1 := (List.take (List.length l) l); (List.length l ≤ (1000000000 : Nat) ∧ br (decide (idxZ (isIn bodyC) l < (0 : Int))) (((0 : Int) = HalfT.b (cutT l b).1 ∧ [] = HalfT.p (cutT l b).1 ∧ [] = HalfT.s (cutT l b).1 ∧ [] = HalfT.t (cutT l b).1 ∧ (0 : Int) = HalfT.a (cutT l b).1) ∧ false = (cutT l b).2) (∃ (j : CN l), b = b ∧ idxZ (isIn bodyC) l = (↑(Subtype.val j) : Int) ∧ l = l ∧ (0 : Int) = (0 : Int) ∧ ([] : List UInt8) = [] ∧ (0 : Int) = (0 : Int)) ∧ ∀ (j : CN l), (((0 : Int) ≤ (↑(Subtype.val j) : Int) ∧ (↑(Subtype.val j) : Int) ≤ (↑(List.length l) : Int)) ∧ (∀ (c : UInt8), c ∈ v0 → UInt8.toNat c < (128 : Nat)) ∧ List.length (List.drop (Int.toNat (↑(Subtype.val j) : Int)) v1) ≤ (1000000000 : Nat) ∧ inR IntKind.i64 ((↑(Subtype.val j) : Int) + (↑(runN (List.drop (Int.toNat (↑(Subtype.val j) : Int)) v1) (v0)) : Int)) ∧ ∃ (j_1 : CA l), b = b ∧ (↑(Subtype.val j) : Int) = (↑(Subtype.val j_1).1 : Int) ∧ (↑(Subtype.val j) : Int) + (↑(runN (List.drop (Int.toNat (↑(Subtype.val j) : Int)) v1) (v0)) : Int) = (↑(Subtype.val j_1).2 : Int) ∧ l = l ∧ (0 : Int) = (0 : Int) ∧ ([] : List UInt8) = [] ∧ (0 : Int) = (0 : Int)) ∧ ∀ (j : CA l), (((0 : Int) ≤ (↑(Subtype.val j).2 : Int) ∧ (↑(Subtype.val j).2 : Int) ≤ (↑(List.length l) : Int)) ∧ (∀ (c : UInt8), c ∈ ([(69 : UInt8)] : List UInt8) → UInt8.toNat c < (128 : Nat)) ∧ List.length (List.drop (Int.toNat (↑(Subtype.val j).2 : Int)) v1) ≤ (1000000000 : Nat) ∧ br (decide ((↑(runN (List.drop (Int.toNat (↑(Subtype.val j).2 : Int)) v1) (([(69 : UInt8)] : List UInt8))) : Int) > (0 : Int))) ((inR IntKind.i64 ((↑(Subtype.val j).2 : Int) + (1 : Int)) ∧ ∃ (j_1 : CM l), b = b ∧ (↑(Subtype.val j).1 : Int) = (↑(Subtype.val j_1).1 : Int) ∧ (↑(Subtype.val j).2 : Int) + (1 : Int) = (↑(Subtype.val j_1).2 : Int) ∧ l = l ∧ (0 : Int) = (0 : Int) ∧ ([] : List UInt8) = [] ∧ (0 : Int) = (0 : Int)) ∧ ∀ (j : CM l), (((0 : Int) ≤ (↑(Subtype.val j).2 : Int) ∧ (↑(Subtype.val j).2 : Int) ≤ (↑(List.length l) : Int)) ∧ (∀ (c : UInt8), c ∈ ([(43 : UInt8)] : List UInt8) → UInt8.toNat c < (128 : Nat)) ∧ List.length (List.drop (Int.toNat (↑(Subtype.val j).2 : Int)) v1) ≤ (1000000000 : Nat) ∧ inR IntKind.i64 ((↑(Subtype.val j).2 : Int) + List.foldl (mnx false) (↑(runN (List.drop (Int.toNat (↑(Subtype.val j).2 : Int)) v1) (([(43 : UInt8)] : List UInt8))) : Int) [(1 : Int)]) ∧ ∃ (j_1 : CB l), b = b ∧ (↑(Subtype.val j).1 : Int) = (↑(Subtype.val j_1).1 : Int) ∧ (↑(Subtype.val j).2 : Int) + List.foldl (mnx false) (↑(runN (List.drop (Int.toNat (↑(Subtype.val j).2 : Int)) v1) (([(43 : UInt8)] : List UInt8))) : Int) [(1 : Int)] = (↑(Subtype.val j_1).2 : Int) ∧ l = l ∧ (0 : Int) = (0 : Int) ∧ ([] : List UInt8) = [] ∧ (0 : Int) = (0 : Int)) ∧ ∀ (j : CB l), ((0 : Int) ≤ (↑(Subtype.val j).2 : Int) ∧ (↑(Subtype.val j).2 : Int) ≤ (↑(List.length l) : Int)) ∧ (∀ (c : UInt8), c ∈ v0 → UInt8.toNat c < (128 : Nat)) ∧ List.length (List.drop (Int.toNat (↑(Subtype.val j).2 : Int)) v1) ≤ (1000000000 : Nat) ∧ inR IntKind.i64 ((↑(Subtype.val j).2 : Int) + (↑(runN (List.drop (Int.toNat (↑(Subtype.val j).2 : Int)) v1) (v0)) : Int)) ∧ ∃ (j_1 : CE l), b = b ∧ (↑(Subtype.val j).1 : Int) = (↑(Subtype.val j_1).1 : Int) ∧ (↑(Subtype.val j).2 : Int) + (↑(runN (List.drop (Int.toNat (↑(Subtype.val j).2 : Int)) v1) (v0)) : Int) = (↑(Subtype.val j_1).2 : Int) ∧ l = l ∧ (0 : Int) = (0 : Int) ∧ ([] : List UInt8) = [] ∧ (0 : Int) = (0 : Int)) (∃ (j_1 : CE l), b = b ∧ (↑(Subtype.val j).1 : Int) = (↑(Subtype.val j_1).1 : Int) ∧ (↑(Subtype.val j).2 : Int) = (↑(Subtype.val j_1).2 : Int) ∧ l = l ∧ (0 : Int) = (0 : Int) ∧ ([] : List UInt8) = [] ∧ (0 : Int) = (0 : Int))) ∧ ∀ (j : CE l), ((0 : Int) ≤ (↑(Subtype.val j).1 : Int) ∧ (↑(Subtype.val j).1 : Int) ≤ (↑(List.length l) : Int)) ∧ ((0 : Int) ≤ (↑(Subtype.val j).2 : Int) ∧ (↑(Subtype.val j).2 : Int) ≤ (↑(List.length l) : Int)) ∧ ((0 : Int) ≤ (↑(Subtype.val j).1 : Int) ∧ (↑(Subtype.val j).1 : Int) ≤ (↑(Subtype.val j).2 : Int) ∧ (↑(Subtype.val j).2 : Int) ≤ (↑(List.length l) : Int)) ∧ (∀ (y : Iv), y ∈ List.drop (Int.toNat (↑(Subtype.val j).1 : Int)) (List.take (Int.toNat (↑(Subtype.val j).2 : Int)) l) → Iv.isS y = true ∧ scalar (Iv.sR y) = true) ∧ List.length (List.drop (Int.toNat (↑(Subtype.val j).1 : Int)) (List.take (Int.toNat (↑(Subtype.val j).2 : Int)) l)) ≤ (1000000000 : Nat) ∧ ((0 : Int) ≤ (↑(Subtype.val j).1 : Int) ∧ (↑(Subtype.val j).1 : Int) < (↑(List.length l) : Int)) ∧ Int.toNat (↑(Subtype.val j).1 : Int) < List.length l ∧ Iv.isE (List.getD l (Int.toNat (↑(Subtype.val j).1 : Int)) default) = true ∧ (b = HalfT.b (cutT l b).1 ∧ List.drop (0 : Nat) (List.take (Int.toNat (↑(Subtype.val j).1 : Int)) l) = HalfT.p (cutT l b).1 ∧ List.drop (Int.toNat (↑(Subtype.val j).2 : Int)) v1 = HalfT.s (cutT l b).1 ∧ encs (List.map Iv.sR (List.drop (Int.toNat (↑(Subtype.val j).1 : Int)) (List.take (Int.toNat (↑(Subtype.val j).2 : Int)) l))) = HalfT.t (cutT l b).1 ∧ Iv.at_ (List.getD l (Int.toNat (↑(Subtype.val j).1 : Int)) default) = HalfT.a (cutT l b).1) ∧ true = (cutT l b).2)) := by kernel_rfl
set_option maxHeartbeats 4000000 in
theorem of_pcut (h : ∀ (l : List Iv) (b : Int), (EOK l) → (l.length ≤ 1000000000) → vcP [(84, sp_idxC), (87, sp_run), (88, sp_text)] [] misc Tryz.f63 (.cut 4 (CN l) (fun x => ⟨[(0, .one (.slc 0)), (1, .one (.int .i64 b)), (4, .one (.ptr 16 0)), (6, .one (.int .i64 x.1))], [(0, some (.read (.ivs l))), (16, some (.cells 111 [.int .i64 0, .nils, .nils, .str [], .int .i64 0]))], 18⟩) (fun x => .cut 5 (CA l) (fun y => ⟨[(0, .one (.slc 0)), (1, .one (.int .i64 b)), (4, .one (.ptr 16 0)), (6, .one (.int .i64 y.1.1)), (7, .one (.int .i64 y.1.2))], [(0, some (.read (.ivs l))), (16, some (.cells 111 [.int .i64 0, .nils, .nils, .str [], .int .i64 0]))], 18⟩) (fun y => .cut 9 (CE l) (fun z => ⟨[(0, .one (.slc 0)), (1, .one (.int .i64 b)), (4, .one (.ptr 16 0)), (6, .one (.int .i64 z.1.1)), (7, .one (.int .i64 z.1.2))], [(0, some (.read (.ivs l))), (16, some (.cells 111 [.int .i64 0, .nils, .nils, .str [], .int .i64 0]))], 18⟩) (fun z => .nil) (.cut 7 (CM l) (fun z => ⟨[(0, .one (.slc 0)), (1, .one (.int .i64 b)), (4, .one (.ptr 16 0)), (6, .one (.int .i64 z.1.1)), (7, .one (.int .i64 z.1.2))], [(0, some (.read (.ivs l))), (16, some (.cells 111 [.int .i64 0, .nils, .nils, .str [], .int .i64 0]))], 18⟩) (fun z => .cut 8 (CB l) (fun z => ⟨[(0, .one (.slc 0)), (1, .one (.int .i64 b)), (4, .one (.ptr 16 0)), (6, .one (.int .i64 z.1.1)), (7, .one (.int .i64 z.1.2))], [(0, some (.read (.ivs l))), (16, some (.cells 111 [.int .i64 0, .nils, .nils, .str [], .int .i64 0]))], 18⟩) (fun z => .nil) .nil) .nil)) .nil) .nil) [.one (.rd (.ivs l)), .one (.int .i64 b)] (.tup [(true, [.int .i64 (cutT l b).1.b, .rd (.ivs (cutT l b).1.p), .rd (.ivs (cutT l b).1.s), .str (cutT l b).1.t, .int .i64 (cutT l b).1.a]), (false, [.bool (cutT l b).2])])) : FnP 63 sp_pcut := by
  refine fnP_ok (cs := [(84, sp_idxC), (87, sp_run), (88, sp_text)]) (cas := []) (ms := misc) (.cons ok_idxC (.cons ok_run (.cons ok_text .nil))) .nil misc_ok 63 Tryz.f63 (by kernel_rfl) (by kernel_rfl) (by kernel_rfl) (fun | [.one (.rd (.ivs l)), .one (.int .i64 b)] => .cut 4 (CN l) (fun x => ⟨[(0, .one (.slc 0)), (1, .one (.int .i64 b)), (4, .one (.ptr 16 0)), (6, .one (.int .i64 x.1))], [(0, some (.read (.ivs l))), (16, some (.cells 111 [.int .i64 0, .nils, .nils, .str [], .int .i64 0]))], 18⟩) (fun x => .cut 5 (CA l) (fun y => ⟨[(0, .one (.slc 0)), (1, .one (.int .i64 b)), (4, .one (.ptr 16 0)), (6, .one (.int .i64 y.1.1)), (7, .one (.int .i64 y.1.2))], [(0, some (.read (.ivs l))), (16, some (.cells 111 [.int .i64 0, .nils, .nils, .str [], .int .i64 0]))], 18⟩) (fun y => .cut 9 (CE l) (fun z => ⟨[(0, .one (.slc 0)), (1, .one (.int .i64 b)), (4, .one (.ptr 16 0)), (6, .one (.int .i64 z.1.1)), (7, .one (.int .i64 z.1.2))], [(0, some (.read (.ivs l))), (16, some (.cells 111 [.int .i64 0, .nils, .nils, .str [], .int .i64 0]))], 18⟩) (fun z => .nil) (.cut 7 (CM l) (fun z => ⟨[(0, .one (.slc 0)), (1, .one (.int .i64 b)), (4, .one (.ptr 16 0)), (6, .one (.int .i64 z.1.1)), (7, .one (.int .i64 z.1.2))], [(0, some (.read (.ivs l))), (16, some (.cells 111 [.int .i64 0, .nils, .nils, .str [], .int .i64 0]))], 18⟩) (fun z => .cut 8 (CB l) (fun z => ⟨[(0, .one (.slc 0)), (1, .one (.int .i64 b)), (4, .one (.ptr 16 0)), (6, .one (.int .i64 z.1.1)), (7, .one (.int .i64 z.1.2))], [(0, some (.read (.ivs l))), (16, some (.cells 111 [.int .i64 0, .nils, .nils, .str [], .int .i64 0]))], 18⟩) (fun z => .nil) .nil) .nil)) .nil) .nil | _ => .nil) ?_
  intro pvs p r hs hp
  unfold sp_pcut at hs
  simp only at hs
  split at hs
  · rename_i l b
    cases hs
    refine h l b ?_ ?_
    · exact hp.1
    · exact hp.2
  · cases hs
theorem runN_le (l : List Iv) (c : List UInt8) : runN l c ≤ l.length := List.findIdx_le_length
theorem runN_all {l : List Iv} {c : List UInt8} {i : Nat} (h : i < runN l c) : isIn c (l.getD i default) = true := by
  have h1 := runN_le l c
  have h2 := List.not_of_lt_findIdx (p := fun y => !isIn c y) h
  rw [List.getD_eq_getElem?_getD, List.getElem?_eq_getElem (by omega)]
  simpa using h2
theorem isIn_S {c : List UInt8} {y : Iv} (h : isIn c y = true) : y.isS = true := by
  unfold isIn at h
  rw [Bool.and_eq_true] at h
  exact h.1
theorem getD_dropA {α : Type} (l : List α) (p i : Nat) (d : α) : (l.drop p).getD i d = l.getD (p + i) d := by
  simp [List.getD_eq_getElem?_getD, List.getElem?_drop]
theorem run_drop {l : List Iv} {c : List UInt8} {p i : Nat} (h1 : p ≤ i) (h2 : i < p + runN (l.drop p) c) : isIn c (l.getD i default) = true := by
  have h3 := runN_all (l := l.drop p) (c := c) (i := i - p) (by omega)
  rw [getD_dropA, show p + (i - p) = i by omega] at h3
  exact h3
theorem run_drop_le {l : List Iv} {c : List UInt8} {p : Nat} (h : p ≤ l.length) : p + runN (l.drop p) c ≤ l.length := by
  have := runN_le (l.drop p) c
  rw [List.length_drop] at this
  omega
theorem cutA_le {l : List Iv} {n : Nat} (h : n < l.length) : n ≤ cutA l n ∧ cutA l n ≤ l.length := by
  unfold cutA
  exact ⟨by omega, run_drop_le (by omega)⟩
theorem run_pos {l : List Iv} {c : List UInt8} {p : Nat} (h : 0 < runN (l.drop p) c) : p < l.length := by
  have := runN_le (l.drop p) c
  rw [List.length_drop] at this
  omega
theorem cutB_le {l : List Iv} {e : Nat} (h : 0 < runN (l.drop e) [69]) : e < cutB l e ∧ cutB l e ≤ l.length := by
  have h1 := run_pos h
  have h2 := run_drop_le (l := l) (c := [43]) (p := e + 1) (by omega)
  unfold cutB
  omega
theorem cutE_le {l : List Iv} (h : cutN l < l.length) : cutN l ≤ cutE l ∧ cutE l ≤ l.length := by
  have h1 := cutA_le h
  unfold cutE
  split
  · rename_i h2
    have h3 := cutB_le h2
    have h4 := run_drop_le (l := l) (c := bodyC) (p := cutB l (cutA l (cutN l))) h3.2
    omega
  · exact h1
theorem cut_all {l : List Iv} (h : cutN l < l.length) {i : Nat} (h1 : cutN l ≤ i) (h2 : i < cutE l) : (l.getD i default).isS = true := by
  by_cases ha : i < cutA l (cutN l)
  · exact isIn_S (run_drop h1 ha)
  · unfold cutE at h2
    split at h2
    · rename_i h3
      by_cases hb : i < cutB l (cutA l (cutN l))
      · by_cases hc : i = cutA l (cutN l)
        · subst hc
          exact isIn_S (run_drop (c := [69]) (Nat.le_refl _) (by omega))
        · refine isIn_S (run_drop (c := [43]) (p := cutA l (cutN l) + 1) (by omega) ?_)
          unfold cutB at hb
          omega
      · exact isIn_S (run_drop (by omega) h2)
    · exact absurd h2 ha
theorem mem_mid {α : Type} {l : List α} {a b : Nat} {y : α} (d : α) (h : y ∈ (l.take b).drop a) : ∃ i, a ≤ i ∧ i < b ∧ i < l.length ∧ l.getD i d = y := by
  obtain ⟨j, hj, rfl⟩ := List.mem_iff_getElem.1 h
  rw [List.length_drop, List.length_take] at hj
  refine ⟨a + j, by omega, by omega, by omega, ?_⟩
  rw [List.getElem_drop, List.getElem_take, List.getD_eq_getElem?_getD, List.getElem?_eq_getElem (by omega)]
  rfl
theorem mnx_min (n : Nat) : List.foldl (mnx false) (n : Int) [1] = ((min n 1 : Nat) : Int) := by
  simp only [List.foldl]
  unfold mnx
  simp
  split <;> omega
theorem cut_idx (l : List Iv) : idxZ (isIn bodyC) l = if cutN l < l.length then (cutN l : Int) else -1 := rfl
set_option maxHeartbeats 1000000 in
theorem ok_pcut : FnP 63 sp_pcut := of_pcut (by
  intro l b hl hn
  rw [vc_pcut]
  have htl : l.take l.length = l := List.take_length
  rw [htl]
  have hd : ∀ n, (l.drop n).length ≤ 1000000000 := fun n => by rw [List.length_drop]; omega
  have hb : Asc [35, 48, 49, 50, 51, 52, 53, 54, 55, 56, 57, 64, 44, 46] := bodyC_asc
  have h69 : Asc [69] := asc_iff.2 rfl
  have h43 : Asc [43] := asc_iff.2 rfl
  refine ⟨hn, br_of (fun h => ?_) fun h => ?_, fun x => ⟨⟨?_, hb, hd _, ?_, ?_⟩, fun y => ⟨⟨?_, h69, hd _, br_of (fun h => ⟨?_, fun z => ⟨⟨?_, h43, hd _, ?_, ?_⟩, fun z => ⟨?_, hb, hd _, ?_, ?_⟩⟩⟩) fun h => ?_⟩, fun z => ?_⟩⟩⟩
  · have h1 : ¬ cutN l < l.length := by
      intro h1
      have h := of_decide_eq_true h
      rw [cut_idx, if_pos h1] at h
      omega
    unfold cutT
    rw [if_neg h1]
    exact ⟨⟨rfl, rfl, rfl, rfl, rfl⟩, rfl⟩
  · have h1 : cutN l < l.length := by
      by_cases h1 : cutN l < l.length
      · exact h1
      · exfalso
        have h := of_decide_eq_false h
        rw [cut_idx, if_neg h1] at h
        omega
    exact ⟨⟨cutN l, rfl, h1⟩, rfl, by rw [cut_idx, if_pos h1], rfl, rfl, rfl, rfl⟩
  · have := x.2.2; exact ⟨by omega, by omega⟩
  · have h1 := cutA_le x.2.2
    unfold cutA at h1
    rw [Int.toNat_natCast]
    have h1 : x.1 + runN (l.drop x.1) [35, 48, 49, 50, 51, 52, 53, 54, 55, 56, 57, 64, 44, 46] ≤ l.length := h1.2
    simp only [inR]; omega
  · rw [Int.toNat_natCast]
    exact ⟨⟨(x.1, cutA l x.1), x.2.1, x.2.2, rfl⟩, rfl, rfl, rfl, rfl, rfl, rfl, rfl⟩
  · have h1 := cutA_le y.2.2.1
    rw [y.2.2.2]; omega
  · have h1 := cutA_le y.2.2.1
    have h2 := y.2.2.2
    refine ⟨by simp only [inR]; omega, ⟨(y.1.1, y.1.2 + 1), y.2.1, y.2.2.1, ?_, by show y.1.2 + 1 = _; rw [h2]⟩, rfl, rfl, rfl, rfl, rfl, rfl, rfl⟩
    rw [Int.toNat_natCast, h2] at h
    have h := of_decide_eq_true h
    show 0 < runN (l.drop (cutA l y.1.1)) [69]
    omega
  · have h1 := run_pos z.2.2.2.1
    have h2 := z.2.2.2.2
    omega
  · have h1 := run_pos z.2.2.2.1
    have h2 := z.2.2.2.2
    rw [mnx_min]
    simp only [inR]; omega
  · rw [mnx_min, Int.toNat_natCast]
    refine ⟨⟨(z.1.1, cutB l (cutA l z.1.1)), z.2.1, z.2.2.1, z.2.2.2.1, rfl⟩, rfl, rfl, ?_, rfl, rfl, rfl, rfl⟩
    show _ = ((cutB l (cutA l z.1.1) : Nat) : Int)
    unfold cutB
    rw [z.2.2.2.2]
    omega
  · have h1 := cutB_le z.2.2.2.1
    have h2 := z.2.2.2.2
    omega
  · have h1 := cutB_le z.2.2.2.1
    have h2 := z.2.2.2.2
    rw [Int.toNat_natCast]
    have h3 := run_drop_le (l := l) (c := [35, 48, 49, 50, 51, 52, 53, 54, 55, 56, 57, 64, 44, 46]) (p := z.1.2) (by omega)
    simp only [inR]; omega
  · rw [Int.toNat_natCast]
    refine ⟨⟨(z.1.1, cutE l), z.2.1, z.2.2.1, rfl⟩, rfl, rfl, ?_, rfl, rfl, rfl, rfl⟩
    have h1 := z.2.2.2.1
    have h2 := z.2.2.2.2
    rw [z.2.1] at h1 h2
    show _ = ((cutE l : Nat) : Int)
    unfold cutE
    rw [if_pos h1, h2]
    rfl
  · refine ⟨⟨(y.1.1, cutE l), y.2.1, y.2.2.1, rfl⟩, rfl, rfl, ?_, rfl, rfl, rfl, rfl⟩
    have h2 := y.2.2.2
    rw [y.2.1] at h2
    rw [Int.toNat_natCast, h2] at h
    have h := of_decide_eq_false h
    show _ = ((cutE l : Nat) : Int)
    unfold cutE
    rw [if_neg (by intro h0; apply h; show ((runN (l.drop (cutA l (cutN l))) [69] : Nat) : Int) > 0; omega), h2]
  · have z1 := z.2.1
    have z2 := z.2.2.1
    have z3 := z.2.2.2
    rw [z1] at z2
    rw [z1, z3]
    have hle := cutE_le z2
    simp only [Int.toNat_natCast]
    have hT : cutT l b = (⟨b, l.take (cutN l), l.drop (cutE l), encs (((l.take (cutE l)).drop (cutN l)).map Iv.sR), (l.getD (cutN l) default).at_⟩, true) := by
      unfold cutT; rw [if_pos z2]
    rw [hT]
    refine ⟨⟨by omega, by omega⟩, ⟨by omega, by omega⟩, ⟨by omega, by omega, by omega⟩, ?_, ?_, ⟨by omega, by omega⟩, z2, (hl _ (getD_mem' z2)).1, ⟨rfl, rfl, rfl, rfl, rfl⟩, rfl⟩
    · intro y hy
      obtain ⟨i, i1, i2, i3, rfl⟩ := mem_mid default hy
      have h1 := cut_all z2 i1 i2
      exact ⟨h1, (hl _ (getD_mem' i3)).2 h1⟩
    · rw [List.length_drop, List.length_take]; omega)
end Go.Proofs.YtglfkihckkjniaaGreatDoor.Vx
namespace Go.Proofs.YtglfkihckkjniaaGreatDoor.Vx
open Go Go.RowKit
def arrHook (tbl : Tbl) : Hook := fun fr o ev m =>
  match o.op with
  | .index T x i =>
    match ev x, ev i, arrOf tbl T with
    | some (.agg cs), some (.one (.int _ n)), some (c, e) =>
      match look e tbl with
      | some t => bif Nat.beq cs.length (c * t.size) then (svOf t.agg ((cs.drop (n.toNat * t.size)).take t.size)).map fun v => ([0 ≤ n ∧ n < c], ⟨v, []⟩) else none
      | none => none
    | _, _, _ => none
  | _ => none
theorem arrHook_ok {tbl : Tbl} {G : Ctx → Prop} : HookOK tbl G (arrHook tbl) := by
  intro C ρ S a w fr o ev m H hG ps e hk hp
  unfold arrHook at hk
  split at hk
  · rename_i T x i ho
    split at hk
    · rename_i cs kd n c ee hx hi ha
      split at hk
      · rename_i t ht
        cases hb : Nat.beq cs.length (c * t.size) with
        | false => rw [hb] at hk; cases hk
        | true =>
          rw [hb, cond_true, Option.map_eq_some_iff] at hk
          obtain ⟨sv, hs, hk⟩ := hk
          cases hk
          have hp : 0 ≤ n ∧ n < (c : Int) := hp
          have hlen := Nat.eq_of_beq_eq_true hb
          obtain ⟨inf, d, z, tt⟩ := tbl_get H.tbl ht
          obtain ⟨u, h1, h2⟩ := H.val hx
          obtain ⟨u', h3, h4⟩ := H.val hi
          simp only [denV, den, Option.some.injEq] at h3
          subst h3
          simp only [denV, Option.map_eq_some_iff] at h1
          obtain ⟨vs, h5, rfl⟩ := h1
          have hu := arrOf_get H.tbl ha
          have hle : n.toNat * t.size + t.size ≤ cs.length := by
            rw [hlen]
            have h6 : n.toNat + 1 ≤ c := by omega
            have := Nat.mul_le_mul_right t.size h6
            rw [Nat.add_mul] at this
            omega
          rw [← tt.agg, ← tt.size] at hs
          obtain ⟨v, h8, h9⟩ := run_part w tt.info tt.under hs h5 (by rw [tt.size]; exact hle)
          rw [tt.size] at h8
          refine H.pure (v := v) ?_ h9
          unfold execOp
          simp only [ho, Instr.index, h2, h4, Sem.run_bind, asIntOf, Sem.run_pure, run_underlying hu, Result.andThen_ok, if_pos hp, sizeIs H.tbl ht, h8]
      · cases hk
    · cases hk
  · cases hk
def miscA : Hook := orHook (arrHook T) misc
theorem miscA_ok : HookOK T (GC Tryz.prog Gl) miscA := orHook_ok arrHook_ok misc_ok
def sp_asign : FSpec := ⟨[], fun | [.one (.int .i32 r)] => some ([], .one (.int .i64 (signK r))) | _ => none⟩
theorem vc_asign (r : Int) : vcP [] [] miscA Tryz.f90 (.turns 2 6 (fun _ => .nil) .nil) [.one (.int .i32 r)] (.one (.int .i64 (signK r))) = (((0 : Int) ≤ (0 : Int) ∧ (0 : Int) < (↑(5 : Nat) : Int)) ∧ br ((45 : Int) == r) ((2 : Int) = signK r) (inR IntKind.i64 ((0 : Int) + (1 : Int)) ∧ ((0 : Int) ≤ (0 : Int) + (1 : Int) ∧ (0 : Int) + (1 : Int) < (↑(5 : Nat) : Int)) ∧ br ((43 : Int) == r) ((3 : Int) = signK r) (inR IntKind.i64 ((0 : Int) + (1 : Int) + (1 : Int)) ∧ ((0 : Int) ≤ (0 : Int) + (1 : Int) + (1 : Int) ∧ (0 : Int) + (1 : Int) + (1 : Int) < (↑(5 : Nat) : Int)) ∧ br ((37 : Int) == r) ((4 : Int) = signK r) (inR IntKind.i64 ((0 : Int) + (1 : Int) + (1 : Int) + (1 : Int)) ∧ ((0 : Int) ≤ (0 : Int) + (1 : Int) + (1 : Int) + (1 : Int) ∧ (0 : Int) + (1 : Int) + (1 : Int) + (1 : Int) < (↑(5 : Nat) : Int)) ∧ br ((8240 : Int) == r) ((5 : Int) = signK r) (inR IntKind.i64 ((0 : Int) + (1 : Int) + (1 : Int) + (1 : Int) + (1 : Int)) ∧ ((0 : Int) ≤ (0 : Int) + (1 : Int) + (1 : Int) + (1 : Int) + (1 : Int) ∧ (0 : Int) + (1 : Int) + (1 : Int) + (1 : Int) + (1 : Int) < (↑(5 : Nat) : Int)) ∧ br ((164 : Int) == r) ((6 : Int) = signK r) (inR IntKind.i64 ((0 : Int) + (1 : Int) + (1 : Int) + (1 : Int) + (1 : Int) + (1 : Int)) ∧ (0 : Int) = signK r)))))) := by kernel_rfl
set_option maxHeartbeats 4000000 in
theorem of_asign (h : ∀ (r : Int), vcP [] [] miscA Tryz.f90 (.turns 2 6 (fun _ => .nil) .nil) [.one (.int .i32 r)] (.one (.int .i64 (signK r)))) : FnP 90 sp_asign := by
  refine fnP_ok (cs := []) (cas := []) (ms := miscA) .nil .nil miscA_ok 90 Tryz.f90 (by kernel_rfl) (by kernel_rfl) (by kernel_rfl) (fun | [.one (.int .i32 r)] => .turns 2 6 (fun _ => .nil) .nil | _ => .nil) ?_
  intro pvs p r hs hp
  unfold sp_asign at hs
  simp only at hs
  split at hs
  · rename_i r
    cases hs
    refine h r
  · cases hs
theorem ok_asign : FnP 90 sp_asign := of_asign (by
  intro r
  rw [vc_asign]
  have sw : ∀ {n : Int}, ((n == r) = true) → r = n := fun h => (eq_of_beq h).symm
  have sn : ∀ {n : Int}, ((n == r) = false) → ¬ r = n := fun h h1 => by rw [h1, beq_self_eq_true] at h; cases h
  refine ⟨by decide, br_of (fun h => ?_) fun h1 => ⟨by simp only [inR]; omega, by decide, br_of (fun h => ?_) fun h2 => ⟨by simp only [inR]; omega, by decide, br_of (fun h => ?_) fun h3 => ⟨by simp only [inR]; omega, by decide, br_of (fun h => ?_) fun h4 => ⟨by simp only [inR]; omega, by decide, br_of (fun h => ?_) fun h5 => ⟨by simp only [inR]; omega, ?_⟩⟩⟩⟩⟩⟩
  · rw [sw h]; rfl
  · rw [sw h]; rfl
  · rw [sw h]; rfl
  · rw [sw h]; rfl
  · rw [sw h]; rfl
  · unfold signK
    rw [if_neg (sn h1), if_neg (sn h2), if_neg (sn h3), if_neg (sn h4), if_neg (sn h5)])
def marksC : List UInt8 := [35, 48, 49, 50, 51, 52, 53, 54, 55, 56, 57, 64, 44, 46, 59, 42]
def sp_amark : FSpec := ⟨[], fun | [.one (.int .i32 r)] => some ([], .one (.bool (isMark r))) | _ => none⟩
theorem vc_amark (r : Int) : vcP [] [] misc Tryz.f91 (.loop 2 (HR marksC r) (fun i => ⟨[(0, .one (.int .i32 r)), (5, .one (.slc 17))], [(17, some (.iter marksC i.1))], 18⟩) (fun i => 16 - i.1) (fun _ => .nil) .nil) [.one (.int .i32 r)] (.one (.bool (isMark r))) = ((∃ (x : HR marksC r), r = r ∧ (0 : Nat) = Subtype.val x ∧ ([(35 : UInt8), (48 : UInt8), (49 : UInt8), (50 : UInt8), (51 : UInt8), (52 : UInt8), (53 : UInt8), (54 : UInt8), (55 : UInt8), (56 : UInt8), (57 : UInt8), (64 : UInt8), (44 : UInt8), (46 : UInt8), (59 : UInt8), (42 : UInt8)] : List UInt8) = marksC) ∧ ∀ (x : HR marksC r), br (decide (Subtype.val x < List.length marksC)) (br (dec marksC (Subtype.val x) == r) (true = isMark r) (∃ (x' : HR marksC r), (r = r ∧ Subtype.val x + wid marksC (Subtype.val x) = Subtype.val x' ∧ marksC = marksC) ∧ (16 : Nat) - Subtype.val x' < (16 : Nat) - Subtype.val x)) (false = isMark r)) := by kernel_rfl
set_option maxHeartbeats 4000000 in
theorem of_amark (h : ∀ (r : Int), vcP [] [] misc Tryz.f91 (.loop 2 (HR marksC r) (fun i => ⟨[(0, .one (.int .i32 r)), (5, .one (.slc 17))], [(17, some (.iter marksC i.1))], 18⟩) (fun i => 16 - i.1) (fun _ => .nil) .nil) [.one (.int .i32 r)] (.one (.bool (isMark r)))) : FnP 91 sp_amark := by
  refine fnP_ok (cs := []) (cas := []) (ms := misc) .nil .nil misc_ok 91 Tryz.f91 (by kernel_rfl) (by kernel_rfl) (by kernel_rfl) (fun | [.one (.int .i32 r)] => .loop 2 (HR marksC r) (fun i => ⟨[(0, .one (.int .i32 r)), (5, .one (.slc 17))], [(17, some (.iter marksC i.1))], 18⟩) (fun i => 16 - i.1) (fun _ => .nil) .nil | _ => .nil) ?_
  intro pvs p r hs hp
  unfold sp_amark at hs
  simp only at hs
  split at hs
  · rename_i r
    cases hs
    refine h r
  · cases hs
theorem marksC_asc : Asc marksC := asc_iff.2 rfl
theorem marks_is (r : Int) : hasR marksC r = isMark r := by
  rw [Bool.eq_iff_iff]
  simp [hasR, marksC, isMark]
  omega
theorem ok_amark : FnP 91 sp_amark := of_amark (by
  intro r
  rw [vc_amark, ← marks_is]
  refine ⟨⟨⟨0, Nat.zero_le _, rfl⟩, rfl, rfl, rfl⟩, fun i => br_of (fun h => ?_) fun h => ?_⟩
  · have h : i.1 < marksC.length := of_decide_eq_true h
    obtain ⟨q1, q2⟩ := dec_asc marksC_asc h
    rw [q1, q2]
    have hl : marksC.length = 16 := rfl
    refine br_of (fun h1 => ?_) fun h1 => ⟨⟨i.1 + 1, h, by rw [hasR_next h, i.2.2, h1]; rfl⟩, ⟨rfl, rfl, rfl⟩, by show 16 - (i.1 + 1) < _; omega⟩
    rw [hasR_mem h (by simpa using h1)]
  · have h : ¬ i.1 < marksC.length := of_decide_eq_false h
    have := i.2.2
    rw [List.take_of_length_le (by omega)] at this
    rw [this])
def Itm.of (t : Tok) : Itm := if t.q = false ∧ signK t.r ≠ 0 then ⟨signK t.r, 0⟩ else ⟨1, t.r⟩
def Tok.bad (t : Tok) : Bool := !t.q && isMark t.r
def itemsL : List Tok → List Itm × Option Int
  | [] => ([], none)
  | t :: m => if t.bad then ([], some t.p) else (Itm.of t :: (itemsL m).1, (itemsL m).2)
def itemsR (l : List Tok) : List Itm × Int × Int :=
  match (itemsL l).2 with
  | some p => ([], 4, p)
  | none => if 40 < (itemsL l).1.length then ([], 8, 0) else ((itemsL l).1, 0, 0)
structure IS (l : List Tok) where
  n : Nat
  ds : List Itm
  le : n ≤ l.length
  few : ds.length ≤ n
  fin1 : ds ++ (itemsL (l.drop n)).1 = (itemsL l).1
  fin2 : (itemsL (l.drop n)).2 = (itemsL l).2
theorem Itm.lit {t : Tok} (ht : t.q = true ∨ signK t.r = 0) : Itm.of t = ⟨1, t.r⟩ := by
  unfold Itm.of
  rw [if_neg]
  rintro ⟨h1, h2⟩
  rcases ht with ht | ht
  · rw [ht] at h1; cases h1
  · exact h2 ht
theorem itemsL_ok {t : Tok} {m : List Tok} (h : t.bad = false) : itemsL (t :: m) = (Itm.of t :: (itemsL m).1, (itemsL m).2) := by
  rw [itemsL, if_neg (by rw [h]; decide)]
theorem itemsL_bad {t : Tok} {m : List Tok} (h : t.bad = true) : itemsL (t :: m) = ([], some t.p) := by
  rw [itemsL, if_pos h]
def IS.next {l : List Tok} (x : IS l) (h : x.n < l.length) (hs : (l.getD x.n default).bad = false) : IS l where
  n := x.n + 1
  ds := x.ds ++ [Itm.of (l.getD x.n default)]
  le := h
  few := by have := x.few; simp; omega
  fin1 := by
    have h1 := x.fin1
    rw [drop_next l default h, itemsL_ok hs] at h1
    rw [List.append_assoc]; exact h1
  fin2 := by
    have h1 := x.fin2
    rw [drop_next l default h, itemsL_ok hs] at h1
    exact h1
theorem IS.stop {l : List Tok} (x : IS l) (h : x.n < l.length) (hs : (l.getD x.n default).bad = true) : itemsR l = ([], 4, (l.getD x.n default).p) := by
  have h1 := x.fin2
  rw [drop_next l default h, itemsL_bad hs] at h1
  unfold itemsR
  rw [← h1]
theorem IS.done {l : List Tok} (x : IS l) (h : ¬ x.n < l.length) : itemsR l = if 40 < x.ds.length then ([], 8, 0) else (x.ds, 0, 0) := by
  have h1 := x.fin1
  have h2 := x.fin2
  rw [List.drop_of_length_le (by omega)] at h1 h2
  have h1 : x.ds ++ [] = (itemsL l).1 := h1
  have h2 : none = (itemsL l).2 := h2
  unfold itemsR
  rw [← h2, ← h1, List.append_nil]
theorem IS.fin {l : List Tok} (x : IS l) (h : ¬ x.n < l.length) : br (decide ((x.ds.length : Int) > 40)) ([] = (itemsR l).1 ∧ 8 = (itemsR l).2.1 ∧ 0 = (itemsR l).2.2) (x.ds = (itemsR l).1 ∧ 0 = (itemsR l).2.1 ∧ 0 = (itemsR l).2.2) := by
  rw [x.done h]
  refine br_of (fun h1 => ?_) fun h1 => ?_
  · have := of_decide_eq_true h1
    rw [if_pos (by omega)]; exact ⟨rfl, rfl, rfl⟩
  · have := of_decide_eq_false h1
    rw [if_neg (by omega)]; exact ⟨rfl, rfl, rfl⟩
def IS.zero (l : List Tok) : IS l := ⟨0, [], Nat.zero_le _, Nat.le_refl _, rfl, rfl⟩
def sp_aitems : FSpec := ⟨[], fun | [.one (.rd (.toks l))] => some ([l.length ≤ 1000000000], .tup [(false, [.rd (.items (itemsR l).1)]), (true, [.int .i64 (itemsR l).2.1, .int .i64 (itemsR l).2.2])]) | _ => none⟩
theorem vc_aitems (l : List Tok) : vcP [(90, sp_asign), (91, sp_amark)] [] misc Tryz.f65 (.loop 3 (IS l) (fun x => ⟨[(3, .one (.ptr 16 0)), (4, .one (.slc 17)), (8, .one (.slc 0)), (9, .one (.int .i64 l.length)), (10, .one (.int .i64 x.n))], [(0, some (.read (.toks l))), (16, some (.cells 28 [.int .i64 0, .int .i64 0])), (17, some (.row 79 (.items x.ds)))], 18⟩) (fun x => l.length - x.n) (fun _ => .nil) .nil) [.one (.rd (.toks l))] (.tup [(false, [.rd (.items (itemsR l).1)]), (true, [.int .i64 (itemsR l).2.1, .int .i64 (itemsR l).2.2])]) = ((∃ (x : IS l), (↑(List.length l) : Int) = (↑(List.length l) : Int) ∧ (0 : Int) = (↑(IS.n x) : Int) ∧ l = l ∧ (0 : Int) = (0 : Int) ∧ (0 : Int) = (0 : Int) ∧ IS.ds x = []) ∧ ∀ (x : IS l), br (decide ((↑(IS.n x) : Int) < (↑(List.length l) : Int))) (((0 : Int) ≤ (↑(IS.n x) : Int) ∧ (↑(IS.n x) : Int) < (↑(List.length l) : Int)) ∧ Int.toNat (↑(IS.n x) : Int) < List.length l ∧ br (!Tok.q (List.getD l (Int.toNat (↑(IS.n x) : Int)) default)) (br (isMark (Tok.r (List.getD l (Int.toNat (↑(IS.n x) : Int)) default))) ([] = (itemsR l).1 ∧ (4 : Int) = (itemsR l).2.1 ∧ Tok.p (List.getD l (Int.toNat (↑(IS.n x) : Int)) default) = (itemsR l).2.2) (br (!Tok.q (List.getD l (Int.toNat (↑(IS.n x) : Int)) default)) (br (signK (Tok.r (List.getD l (Int.toNat (↑(IS.n x) : Int)) default)) != (0 : Int)) ((List.length (IS.ds x) + (1 : Nat)) * (16 : Nat) ≤ (140737488355328 : Nat) ∧ inR IntKind.i64 ((↑(IS.n x) : Int) + (1 : Int)) ∧ ∃ (x' : IS l), ((↑(List.length l) : Int) = (↑(List.length l) : Int) ∧ (↑(IS.n x) : Int) + (1 : Int) = (↑(IS.n x') : Int) ∧ l = l ∧ (0 : Int) = (0 : Int) ∧ (0 : Int) = (0 : Int) ∧ IS.ds x ++ [{ k := signK (Tok.r (List.getD l (Int.toNat (↑(IS.n x) : Int)) default)), r := (0 : Int) }] = IS.ds x') ∧ List.length l - IS.n x' < List.length l - IS.n x) ((List.length (IS.ds x) + (1 : Nat)) * (16 : Nat) ≤ (140737488355328 : Nat) ∧ inR IntKind.i64 ((↑(IS.n x) : Int) + (1 : Int)) ∧ ∃ (x' : IS l), ((↑(List.length l) : Int) = (↑(List.length l) : Int) ∧ (↑(IS.n x) : Int) + (1 : Int) = (↑(IS.n x') : Int) ∧ l = l ∧ (0 : Int) = (0 : Int) ∧ (0 : Int) = (0 : Int) ∧ IS.ds x ++ [{ k := (1 : Int), r := Tok.r (List.getD l (Int.toNat (↑(IS.n x) : Int)) default) }] = IS.ds x') ∧ List.length l - IS.n x' < List.length l - IS.n x)) ((List.length (IS.ds x) + (1 : Nat)) * (16 : Nat) ≤ (140737488355328 : Nat) ∧ inR IntKind.i64 ((↑(IS.n x) : Int) + (1 : Int)) ∧ ∃ (x' : IS l), ((↑(List.length l) : Int) = (↑(List.length l) : Int) ∧ (↑(IS.n x) : Int) + (1 : Int) = (↑(IS.n x') : Int) ∧ l = l ∧ (0 : Int) = (0 : Int) ∧ (0 : Int) = (0 : Int) ∧ IS.ds x ++ [{ k := (1 : Int), r := Tok.r (List.getD l (Int.toNat (↑(IS.n x) : Int)) default) }] = IS.ds x') ∧ List.length l - IS.n x' < List.length l - IS.n x))) (br (!Tok.q (List.getD l (Int.toNat (↑(IS.n x) : Int)) default)) (br (signK (Tok.r (List.getD l (Int.toNat (↑(IS.n x) : Int)) default)) != (0 : Int)) ((List.length (IS.ds x) + (1 : Nat)) * (16 : Nat) ≤ (140737488355328 : Nat) ∧ inR IntKind.i64 ((↑(IS.n x) : Int) + (1 : Int)) ∧ ∃ (x' : IS l), ((↑(List.length l) : Int) = (↑(List.length l) : Int) ∧ (↑(IS.n x) : Int) + (1 : Int) = (↑(IS.n x') : Int) ∧ l = l ∧ (0 : Int) = (0 : Int) ∧ (0 : Int) = (0 : Int) ∧ IS.ds x ++ [{ k := signK (Tok.r (List.getD l (Int.toNat (↑(IS.n x) : Int)) default)), r := (0 : Int) }] = IS.ds x') ∧ List.length l - IS.n x' < List.length l - IS.n x) ((List.length (IS.ds x) + (1 : Nat)) * (16 : Nat) ≤ (140737488355328 : Nat) ∧ inR IntKind.i64 ((↑(IS.n x) : Int) + (1 : Int)) ∧ ∃ (x' : IS l), ((↑(List.length l) : Int) = (↑(List.length l) : Int) ∧ (↑(IS.n x) : Int) + (1 : Int) = (↑(IS.n x') : Int) ∧ l = l ∧ (0 : Int) = (0 : Int) ∧ (0 : Int) = (0 : Int) ∧ IS.ds x ++ [{ k := (1 : Int), r := Tok.r (List.getD l (Int.toNat (↑(IS.n x) : Int)) default) }] = IS.ds x') ∧ List.length l - IS.n x' < List.length l - IS.n x)) ((List.length (IS.ds x) + (1 : Nat)) * (16 : Nat) ≤ (140737488355328 : Nat) ∧ inR IntKind.i64 ((↑(IS.n x) : Int) + (1 : Int)) ∧ ∃ (x' : IS l), ((↑(List.length l) : Int) = (↑(List.length l) : Int) ∧ (↑(IS.n x) : Int) + (1 : Int) = (↑(IS.n x') : Int) ∧ l = l ∧ (0 : Int) = (0 : Int) ∧ (0 : Int) = (0 : Int) ∧ IS.ds x ++ [{ k := (1 : Int), r := Tok.r (List.getD l (Int.toNat (↑(IS.n x) : Int)) default) }] = IS.ds x') ∧ List.length l - IS.n x' < List.length l - IS.n x))) (br (decide ((↑(List.length (IS.ds x)) : Int) > (40 : Int))) ([] = (itemsR l).1 ∧ (8 : Int) = (itemsR l).2.1 ∧ (0 : Int) = (itemsR l).2.2) (IS.ds x = (itemsR l).1 ∧ (0 : Int) = (itemsR l).2.1 ∧ (0 : Int) = (itemsR l).2.2))) := by kernel_rfl
set_option maxHeartbeats 4000000 in
theorem of_aitems (h : ∀ (l : List Tok), (l.length ≤ 1000000000) → vcP [(90, sp_asign), (91, sp_amark)] [] misc Tryz.f65 (.loop 3 (IS l) (fun x => ⟨[(3, .one (.ptr 16 0)), (4, .one (.slc 17)), (8, .one (.slc 0)), (9, .one (.int .i64 l.length)), (10, .one (.int .i64 x.n))], [(0, some (.read (.toks l))), (16, some (.cells 28 [.int .i64 0, .int .i64 0])), (17, some (.row 79 (.items x.ds)))], 18⟩) (fun x => l.length - x.n) (fun _ => .nil) .nil) [.one (.rd (.toks l))] (.tup [(false, [.rd (.items (itemsR l).1)]), (true, [.int .i64 (itemsR l).2.1, .int .i64 (itemsR l).2.2])])) : FnP 65 sp_aitems := by
  refine fnP_ok (cs := [(90, sp_asign), (91, sp_amark)]) (cas := []) (ms := misc) (.cons ok_asign (.cons ok_amark .nil)) .nil misc_ok 65 Tryz.f65 (by kernel_rfl) (by kernel_rfl) (by kernel_rfl) (fun | [.one (.rd (.toks l))] => .loop 3 (IS l) (fun x => ⟨[(3, .one (.ptr 16 0)), (4, .one (.slc 17)), (8, .one (.slc 0)), (9, .one (.int .i64 l.length)), (10, .one (.int .i64 x.n))], [(0, some (.read (.toks l))), (16, some (.cells 28 [.int .i64 0, .int .i64 0])), (17, some (.row 79 (.items x.ds)))], 18⟩) (fun x => l.length - x.n) (fun _ => .nil) .nil | _ => .nil) ?_
  intro pvs p r hs hp
  unfold sp_aitems at hs
  simp only at hs
  split at hs
  · rename_i l
    cases hs
    refine h l ?_
    · exact hp
  · cases hs
theorem ok_aitems : FnP 65 sp_aitems := of_aitems (by
  intro l hl
  rw [vc_aitems]
  refine ⟨⟨.zero l, rfl, rfl, rfl, rfl, rfl, rfl⟩, fun x => br_of (fun h => ?_) fun h => x.fin (by simpa using h)⟩
  have h : x.n < l.length := by simpa using h
  have hf := x.few
  rw [Int.toNat_natCast]
  have go : ∀ (hs : (l.getD x.n default).bad = false) (y : Itm), Itm.of (l.getD x.n default) = y → (x.ds.length + 1) * 16 ≤ 140737488355328 ∧ inR .i64 ((x.n : Int) + 1) ∧ ∃ (x' : IS l), ((l.length : Int) = (l.length : Int) ∧ (x.n : Int) + 1 = (x'.n : Int) ∧ l = l ∧ (0 : Int) = 0 ∧ (0 : Int) = 0 ∧ x.ds ++ [y] = x'.ds) ∧ l.length - x'.n < l.length - x.n := fun hs y hy =>
    ⟨by omega, by simp only [inR]; omega, x.next h hs, ⟨rfl, rfl, rfl, rfl, rfl, by rw [← hy]; rfl⟩, by show l.length - (x.n + 1) < _; omega⟩
  refine ⟨⟨by omega, by omega⟩, h, br_of (fun h1 => ?_) fun h1 => ?_⟩
  · have h1 : (l.getD x.n default).q = false := by simpa using h1
    refine br_of (fun h2 => ?_) fun h2 => br_of (fun _ => br_of (fun h3 => ?_) fun h3 => ?_) fun h3 => ?_
    · have hs : (l.getD x.n default).bad = true := by unfold Tok.bad; rw [h1, h2]; rfl
      rw [x.stop h hs]; exact ⟨rfl, rfl, rfl⟩
    · refine go (by unfold Tok.bad; rw [h2, Bool.and_false]) _ ?_
      unfold Itm.of
      rw [if_pos ⟨h1, by simpa using h3⟩]
    · exact go (by unfold Tok.bad; rw [h2, Bool.and_false]) _ (Itm.lit (.inr (by simpa using h3)))
    · rw [h1] at h3; cases h3
  · have h1 : (l.getD x.n default).q = true := by simpa using h1
    refine br_of (fun h2 => by rw [h1] at h2; cases h2) fun _ => go (by unfold Tok.bad; rw [h1]; rfl) _ (Itm.lit (.inl h1)))
end Go.Proofs.YtglfkihckkjniaaGreatDoor.Vx
namespace Go.Proofs.YtglfkihckkjniaaGreatDoor.Vx
open Go Go.RowKit
def sp_scut : FSpec := ⟨[], fun | [.one (.str s), .one (.str p)] => some ([s.length ≤ 1000000000], .tup [(false, [.str (Lib.cut s p).1]), (false, [.str (Lib.cut s p).2.1]), (false, [.bool (Lib.cut s p).2.2])]) | _ => none⟩
theorem bsize (s : List UInt8) : (⟨s.toArray⟩ : ByteArray).size = s.length := by simp [ByteArray.size]
theorem ok_scut : FnP 92 sp_scut := by
  refine ⟨body_of Tryz.f92 (by kernel_rfl) (by kernel_rfl) (by kernel_rfl), ?_⟩
  intro pvs p r hs hp w B args hg ha
  unfold sp_scut at hs
  simp only at hs
  split at hs
  · rename_i s q
    cases hs
    have hp : s.length ≤ 1000000000 := hp
    obtain ⟨v, u, rfl, hv, hu⟩ := args2 ha
    have hv : v = .string ⟨s.toArray⟩ := hv
    have hu : u = .string ⟨q.toArray⟩ := hu
    subst hv; subst hu
    obtain ⟨m, hm⟩ := glob_max hg
    refine (Tryz.strings_Cut ⟨s.toArray⟩ ⟨q.toArray⟩ m w (by rw [bsize]; omega) hm).mono ?_
    rintro e w' ⟨rfl, n, rfl⟩
    exact ⟨_, rfl, ⟨rfl, rfl, rfl, Nat.le_refl _, fun _ _ _ => rfl⟩, ⟨[_, _, _], rfl, .cons rfl (.cons rfl (.cons rfl .nil))⟩⟩
  · cases hs
def sp_scutp : FSpec := ⟨[], fun | [.one (.str s), .one (.str p)] => some ([], .tup [(false, [.str (Lib.trimPrefix s p)]), (false, [.bool (Lib.hasPrefix s p)])]) | _ => none⟩
theorem ok_scutp : FnP 115 sp_scutp := by
  refine ⟨body_of Tryz.f115 (by kernel_rfl) (by kernel_rfl) (by kernel_rfl), ?_⟩
  intro pvs p r hs hp w B args hg ha
  unfold sp_scutp at hs
  simp only at hs
  split at hs
  · rename_i s q
    cases hs
    obtain ⟨v, u, rfl, hv, hu⟩ := args2 ha
    have hv : v = .string ⟨s.toArray⟩ := hv
    have hu : u = .string ⟨q.toArray⟩ := hu
    subst hv; subst hu
    refine (Tryz.strings_CutPrefix ⟨s.toArray⟩ ⟨q.toArray⟩ w).mono ?_
    rintro e w' ⟨rfl, rfl⟩
    exact ⟨_, rfl, Fr.refl _ _, ⟨[_, _], rfl, .cons rfl (.cons rfl .nil)⟩⟩
  · cases hs
def sp_scount : FSpec := ⟨[], fun | [.one (.str s), .one (.str [c])] => some ([], .one (.int .i64 (Lib.countByte s c))) | _ => none⟩
theorem ok_scount : FnP 122 sp_scount := by
  refine ⟨body_of Tryz.f122 (by kernel_rfl) (by kernel_rfl) (by kernel_rfl), ?_⟩
  intro pvs p r hs hp w B args hg ha
  unfold sp_scount at hs
  simp only at hs
  split at hs
  · rename_i s q
    cases hs
    obtain ⟨v, u, rfl, hv, hu⟩ := args2 ha
    have hv : v = .string ⟨s.toArray⟩ := hv
    have hu : u = .string ⟨#[q]⟩ := hu
    subst hv; subst hu
    refine (Tryz.strings_Count_one ⟨s.toArray⟩ q w).mono ?_
    rintro e w' ⟨rfl, rfl⟩
    exact ⟨_, rfl, Fr.refl _ _, rfl⟩
  · cases hs
def sp_scont : FSpec := ⟨[], fun | [.one (.str s), .one (.str [c])] => some ([], .one (.bool (decide (0 ≤ Lib.indexByte s c)))) | _ => none⟩
theorem ok_scont : FnP 124 sp_scont := by
  refine ⟨body_of Tryz.f124 (by kernel_rfl) (by kernel_rfl) (by kernel_rfl), ?_⟩
  intro pvs p r hs hp w B args hg ha
  unfold sp_scont at hs
  simp only at hs
  split at hs
  · rename_i s q
    cases hs
    obtain ⟨v, u, rfl, hv, hu⟩ := args2 ha
    have hv : v = .string ⟨s.toArray⟩ := hv
    have hu : u = .string ⟨#[q]⟩ := hu
    subst hv; subst hu
    refine (Tryz.strings_Contains_one ⟨s.toArray⟩ q w).mono ?_
    rintro e w' ⟨rfl, rfl⟩
    exact ⟨_, rfl, Fr.refl _ _, rfl⟩
  · cases hs
theorem indexByte_has (s : List UInt8) (c : UInt8) : (0 ≤ Lib.indexByte s c) ↔ c ∈ s := by
  induction s with
  | nil => simp [Lib.indexByte]
  | cons b l ih =>
    have hge := Lib.indexByte_ge l c
    unfold Lib.indexByte
    by_cases h : b = c
    · subst h; simp
    · rw [if_neg (by simpa using h)]
      by_cases h1 : Lib.indexByte l c = -1
      · rw [if_pos (by simpa using h1)]
        rw [h1] at ih
        have : c ∉ l := fun hc => by have := ih.2 hc; omega
        simp [this]
        exact fun h2 => h h2.symm
      · rw [if_neg (by simpa using h1)]
        have : c ∈ l := ih.1 (by omega)
        simp [this]
        omega
def sp_srune : FSpec := ⟨[], fun | [.one (.str s), .one (.int .i32 r)] => some ([0 ≤ r ∧ r < 128], .one (.bool (hasR s r))) | _ => none⟩
theorem ok_srune : FnP 120 sp_srune := by
  refine ⟨body_of Tryz.f120 (by kernel_rfl) (by kernel_rfl) (by kernel_rfl), ?_⟩
  intro pvs p r hs hp w B args hg ha
  unfold sp_srune at hs
  simp only at hs
  split at hs
  · rename_i s q
    cases hs
    have hp : 0 ≤ q ∧ q < 128 := hp
    obtain ⟨v, u, rfl, hv, hu⟩ := args2 ha
    have hv : v = .string ⟨s.toArray⟩ := hv
    have hu : u = .int .i32 q := hu
    subst hv; subst hu
    refine (Tryz.strings_ContainsRune_ascii ⟨s.toArray⟩ q w hp.1 hp.2).mono ?_
    rintro e w' ⟨rfl, rfl⟩
    refine ⟨_, rfl, Fr.refl _ _, ?_⟩
    show Value.bool _ = Value.bool _
    congr 1
    rw [Bool.eq_iff_iff, decide_eq_true_iff, indexByte_has]
    unfold hasR
    rw [List.any_eq_true]
    have h1 := ofNat_toNat hp.1 (by omega : q < 256)
    constructor
    · intro h; exact ⟨_, h, by simpa using h1⟩
    · rintro ⟨c, hc, h2⟩
      have h2 : (c.toNat : Int) = q := by simpa using h2
      have : c = q.toNat.toUInt8 := by
        apply UInt8.toNat_inj.1
        have h1 : ((q.toNat.toUInt8).toNat : Int) = q := h1
        omega
      rw [← this]; exact hc
  · cases hs
def sp_strim : FSpec := ⟨[], fun | [.one (.str s), .one (.str [c])] => some ([c.toNat < 128], .one (.str (Lib.trimLeftB s c))) | _ => none⟩
theorem ok_strim : FnP 127 sp_strim := by
  refine ⟨body_of Tryz.f127 (by kernel_rfl) (by kernel_rfl) (by kernel_rfl), ?_⟩
  intro pvs p r hs hp w B args hg ha
  unfold sp_strim at hs
  simp only at hs
  split at hs
  · rename_i s q
    cases hs
    have hp : q.toNat < 128 := hp
    obtain ⟨v, u, rfl, hv, hu⟩ := args2 ha
    have hv : v = .string ⟨s.toArray⟩ := hv
    have hu : u = .string ⟨#[q]⟩ := hu
    subst hv; subst hu
    refine (Tryz.strings_TrimLeft_one ⟨s.toArray⟩ q hp w).mono ?_
    rintro e w' ⟨rfl, rfl⟩
    exact ⟨_, rfl, Fr.refl _ _, rfl⟩
  · cases hs
def isDig (r : Int) : Bool := decide (r ≥ 48) && decide (r ≤ 57)
def isOdd (r : Int) : Bool := !isDig r && !hasR [35, 64, 44, 46] r
def sp_digit : FSpec := ⟨[], fun | [.one (.int .i32 r)] => some ([], .one (.bool (isDig r))) | _ => none⟩
theorem vc_digit (r : Int) : vcP [] [] misc Tryz.f119 (.nil) [.one (.int .i32 r)] (.one (.bool (isDig r))) = (br (decide (r ≥ (48 : Int))) (decide (r ≤ (57 : Int)) = isDig r) (false = isDig r)) := by kernel_rfl
set_option maxHeartbeats 4000000 in
theorem of_digit (h : ∀ (r : Int), vcP [] [] misc Tryz.f119 (.nil) [.one (.int .i32 r)] (.one (.bool (isDig r)))) : FnP 119 sp_digit := by
  refine fnP_ok (cs := []) (cas := []) (ms := misc) .nil .nil misc_ok 119 Tryz.f119 (by kernel_rfl) (by kernel_rfl) (by kernel_rfl) (fun _ => .nil) ?_
  intro pvs p r hs hp
  unfold sp_digit at hs
  simp only at hs
  split at hs
  · rename_i r
    cases hs
    refine h r
  · cases hs
theorem ok_digit : FnP 119 sp_digit := of_digit (by
  intro r
  rw [vc_digit]
  unfold isDig
  exact br_of (fun h => by rw [h]; rfl) fun h => by rw [h]; rfl)
def sp_one1 : FSpec := ⟨[], fun | [.one (.int .i32 r), .one (.ref 21 (.int .i32 c))] => some ([], .one (.bool (r == c))) | _ => none⟩
theorem vc_one1 (r c : Int) : vcP [] [] misc Tryz.f140 (.nil) [.one (.int .i32 r), .one (.ref 21 (.int .i32 c))] (.one (.bool (r == c))) = ((r == c) = (r == c)) := by kernel_rfl
set_option maxHeartbeats 4000000 in
theorem of_one1 (h : ∀ (r c : Int), vcP [] [] misc Tryz.f140 (.nil) [.one (.int .i32 r), .one (.ref 21 (.int .i32 c))] (.one (.bool (r == c)))) : FnP 140 sp_one1 := by
  refine fnP_ok (cs := []) (cas := []) (ms := misc) .nil .nil misc_ok 140 Tryz.f140 (by kernel_rfl) (by kernel_rfl) (by kernel_rfl) (fun _ => .nil) ?_
  intro pvs p r hs hp
  unfold sp_one1 at hs
  simp only at hs
  split at hs
  · rename_i r c
    cases hs
    refine h r c
  · cases hs
theorem ok_one1 : FnP 140 sp_one1 := of_one1 (by
  intro r c
  rw [vc_one1])
def sp_parts1 : FSpec := ⟨[], fun | [.one (.int .i32 r)] => some ([0 ≤ r ∧ r < 128], .one (.bool (isOdd r))) | _ => none⟩
theorem vc_parts1 (r : Int) : vcP [(119, sp_digit), (120, sp_srune)] [] misc Tryz.f118 (.nil) [.one (.int .i32 r)] (.one (.bool (isOdd r))) = (br (!isDig r) (((0 : Int) ≤ r ∧ r < (128 : Int)) ∧ (!hasR (([(35 : UInt8), (64 : UInt8), (44 : UInt8), (46 : UInt8)] : List UInt8)) r) = isOdd r) (false = isOdd r)) := by kernel_rfl
set_option maxHeartbeats 4000000 in
theorem of_parts1 (h : ∀ (r : Int), (0 ≤ r ∧ r < 128) → vcP [(119, sp_digit), (120, sp_srune)] [] misc Tryz.f118 (.nil) [.one (.int .i32 r)] (.one (.bool (isOdd r)))) : FnP 118 sp_parts1 := by
  refine fnP_ok (cs := [(119, sp_digit), (120, sp_srune)]) (cas := []) (ms := misc) (.cons ok_digit (.cons ok_srune .nil)) .nil misc_ok 118 Tryz.f118 (by kernel_rfl) (by kernel_rfl) (by kernel_rfl) (fun _ => .nil) ?_
  intro pvs p r hs hp
  unfold sp_parts1 at hs
  simp only at hs
  split at hs
  · rename_i r
    cases hs
    refine h r ?_
    · exact hp
  · cases hs
theorem ok_parts1 : FnP 118 sp_parts1 := of_parts1 (by
  intro r h
  rw [vc_parts1]
  unfold isOdd
  exact br_of (fun h1 => ⟨h, by rw [h1]; rfl⟩) fun h1 => by rw [h1]; rfl)
def sp_one : FSpec := ⟨[], fun | [.one (.int .i32 c)] => some ([], .one (.fnv 140 [(21, .int .i32 c)])) | _ => none⟩
theorem vc_one (c : Int) : vcP [] [] misc Tryz.f117 (.nil) [.one (.int .i32 c)] (.one (.fnv 140 [(21, .int .i32 c)])) = ([((21 : Nat), Pb.int IntKind.i32 c)] = [((21 : TypeId), Pb.int IntKind.i32 c)]) := by kernel_rfl
set_option maxHeartbeats 4000000 in
theorem of_one (h : ∀ (c : Int), vcP [] [] misc Tryz.f117 (.nil) [.one (.int .i32 c)] (.one (.fnv 140 [(21, .int .i32 c)]))) : FnP 117 sp_one := by
  refine fnP_ok (cs := []) (cas := []) (ms := misc) .nil .nil misc_ok 117 Tryz.f117 (by kernel_rfl) (by kernel_rfl) (by kernel_rfl) (fun _ => .nil) ?_
  intro pvs p r hs hp
  unfold sp_one at hs
  simp only at hs
  split at hs
  · rename_i c
    cases hs
    refine h c
  · cases hs
theorem ok_one : FnP 117 sp_one := of_one (by
  intro c
  rw [vc_one])
def bP (P : Int → Bool) (t : Bool) (c : UInt8) : Bool := P (c.toNat : Int) == t
def sp_sidx1 : FSpec := ⟨[], fun | [.one (.str s), .one (.fnv 140 [(21, .int .i32 c)]), .one (.bool t)] => some ([Asc s, s.length ≤ 1000000000], .one (.int .i64 (idxZ (bP (· == c) t) s))) | _ => none⟩
theorem vc_sidx1 (s : List UInt8) (c : Int) (t : Bool) : vcP [(140, sp_one1)] [] misc Tryz.f161 (.loop 2 (None (bP (· == c) t) s) (fun i => ⟨[(1, .one (.fn 140 [(0, 0)])), (2, .one (.bool t)), (10, .one (.slc 17))], [(0, some (.ro 21 [.int .i32 c])), (17, some (.iter s i.1))], 18⟩) (fun i => s.length - i.1) (fun _ => .nil) .nil) [.one (.str s), .one (.fnv 140 [(21, .int .i32 c)]), .one (.bool t)] (.one (.int .i64 (idxZ (bP (· == c) t) s))) = ((∃ (x : None (bP (fun (x : Int) => x == c) t) s), t = t ∧ c = c ∧ (0 : Nat) = Subtype.val x ∧ s = s) ∧ ∀ (x : None (bP (fun (x : Int) => x == c) t) s), br (decide (Subtype.val x < List.length s)) (br ((dec s (Subtype.val x) == c) == t) ((↑(Subtype.val x) : Int) = idxZ (bP (fun (x : Int) => x == c) t) s) (∃ (x' : None (bP (fun (x : Int) => x == c) t) s), (t = t ∧ c = c ∧ Subtype.val x + wid s (Subtype.val x) = Subtype.val x' ∧ s = s) ∧ List.length s - Subtype.val x' < List.length s - Subtype.val x)) ((-1 : Int) = idxZ (bP (fun (x : Int) => x == c) t) s)) := by kernel_rfl
set_option maxHeartbeats 4000000 in
theorem of_sidx1 (h : ∀ (s : List UInt8) (c : Int) (t : Bool), (Asc s) → (s.length ≤ 1000000000) → vcP [(140, sp_one1)] [] misc Tryz.f161 (.loop 2 (None (bP (· == c) t) s) (fun i => ⟨[(1, .one (.fn 140 [(0, 0)])), (2, .one (.bool t)), (10, .one (.slc 17))], [(0, some (.ro 21 [.int .i32 c])), (17, some (.iter s i.1))], 18⟩) (fun i => s.length - i.1) (fun _ => .nil) .nil) [.one (.str s), .one (.fnv 140 [(21, .int .i32 c)]), .one (.bool t)] (.one (.int .i64 (idxZ (bP (· == c) t) s)))) : FnP 161 sp_sidx1 := by
  refine fnP_ok (cs := [(140, sp_one1)]) (cas := []) (ms := misc) (.cons ok_one1 .nil) .nil misc_ok 161 Tryz.f161 (by kernel_rfl) (by kernel_rfl) (by kernel_rfl) (fun | [.one (.str s), .one (.fnv 140 [(21, .int .i32 c)]), .one (.bool t)] => .loop 2 (None (bP (· == c) t) s) (fun i => ⟨[(1, .one (.fn 140 [(0, 0)])), (2, .one (.bool t)), (10, .one (.slc 17))], [(0, some (.ro 21 [.int .i32 c])), (17, some (.iter s i.1))], 18⟩) (fun i => s.length - i.1) (fun _ => .nil) .nil | _ => .nil) ?_
  intro pvs p r hs hp
  unfold sp_sidx1 at hs
  simp only at hs
  split at hs
  · rename_i s c t
    cases hs
    refine h s c t ?_ ?_
    · exact hp.1
    · exact hp.2
  · cases hs
def sp_sidxD : FSpec := ⟨[], fun | [.one (.str s), .one (.fnv 119 []), .one (.bool t)] => some ([Asc s, s.length ≤ 1000000000], .one (.int .i64 (idxZ (bP isDig t) s))) | _ => none⟩
theorem vc_sidxD (s : List UInt8) (t : Bool) : vcP [(119, sp_digit)] [] misc Tryz.f161 (.loop 2 (None (bP isDig t) s) (fun i => ⟨[(1, .one (.fn 119 [])), (2, .one (.bool t)), (10, .one (.slc 17))], [(17, some (.iter s i.1))], 18⟩) (fun i => s.length - i.1) (fun _ => .nil) .nil) [.one (.str s), .one (.fnv 119 []), .one (.bool t)] (.one (.int .i64 (idxZ (bP isDig t) s))) = ((∃ (x : None (bP isDig t) s), t = t ∧ (0 : Nat) = Subtype.val x ∧ s = s) ∧ ∀ (x : None (bP isDig t) s), br (decide (Subtype.val x < List.length s)) (br (isDig (dec s (Subtype.val x)) == t) ((↑(Subtype.val x) : Int) = idxZ (bP isDig t) s) (∃ (x' : None (bP isDig t) s), (t = t ∧ Subtype.val x + wid s (Subtype.val x) = Subtype.val x' ∧ s = s) ∧ List.length s - Subtype.val x' < List.length s - Subtype.val x)) ((-1 : Int) = idxZ (bP isDig t) s)) := by kernel_rfl
set_option maxHeartbeats 4000000 in
theorem of_sidxD (h : ∀ (s : List UInt8) (t : Bool), (Asc s) → (s.length ≤ 1000000000) → vcP [(119, sp_digit)] [] misc Tryz.f161 (.loop 2 (None (bP isDig t) s) (fun i => ⟨[(1, .one (.fn 119 [])), (2, .one (.bool t)), (10, .one (.slc 17))], [(17, some (.iter s i.1))], 18⟩) (fun i => s.length - i.1) (fun _ => .nil) .nil) [.one (.str s), .one (.fnv 119 []), .one (.bool t)] (.one (.int .i64 (idxZ (bP isDig t) s)))) : FnP 161 sp_sidxD := by
  refine fnP_ok (cs := [(119, sp_digit)]) (cas := []) (ms := misc) (.cons ok_digit .nil) .nil misc_ok 161 Tryz.f161 (by kernel_rfl) (by kernel_rfl) (by kernel_rfl) (fun | [.one (.str s), .one (.fnv 119 []), .one (.bool t)] => .loop 2 (None (bP isDig t) s) (fun i => ⟨[(1, .one (.fn 119 [])), (2, .one (.bool t)), (10, .one (.slc 17))], [(17, some (.iter s i.1))], 18⟩) (fun i => s.length - i.1) (fun _ => .nil) .nil | _ => .nil) ?_
  intro pvs p r hs hp
  unfold sp_sidxD at hs
  simp only at hs
  split at hs
  · rename_i s t
    cases hs
    refine h s t ?_ ?_
    · exact hp.1
    · exact hp.2
  · cases hs
def sp_sidxO : FSpec := ⟨[], fun | [.one (.str s), .one (.fnv 118 []), .one (.bool t)] => some ([Asc s, s.length ≤ 1000000000], .one (.int .i64 (idxZ (bP isOdd t) s))) | _ => none⟩
theorem vc_sidxO (s : List UInt8) (t : Bool) : vcP [(118, sp_parts1)] [] misc Tryz.f161 (.loop 2 (None (bP isOdd t) s) (fun i => ⟨[(1, .one (.fn 118 [])), (2, .one (.bool t)), (10, .one (.slc 17))], [(17, some (.iter s i.1))], 18⟩) (fun i => s.length - i.1) (fun _ => .nil) .nil) [.one (.str s), .one (.fnv 118 []), .one (.bool t)] (.one (.int .i64 (idxZ (bP isOdd t) s))) = ((∃ (x : None (bP isOdd t) s), t = t ∧ (0 : Nat) = Subtype.val x ∧ s = s) ∧ ∀ (x : None (bP isOdd t) s), br (decide (Subtype.val x < List.length s)) (((0 : Int) ≤ dec s (Subtype.val x) ∧ dec s (Subtype.val x) < (128 : Int)) ∧ br (isOdd (dec s (Subtype.val x)) == t) ((↑(Subtype.val x) : Int) = idxZ (bP isOdd t) s) (∃ (x' : None (bP isOdd t) s), (t = t ∧ Subtype.val x + wid s (Subtype.val x) = Subtype.val x' ∧ s = s) ∧ List.length s - Subtype.val x' < List.length s - Subtype.val x)) ((-1 : Int) = idxZ (bP isOdd t) s)) := by kernel_rfl
set_option maxHeartbeats 4000000 in
theorem of_sidxO (h : ∀ (s : List UInt8) (t : Bool), (Asc s) → (s.length ≤ 1000000000) → vcP [(118, sp_parts1)] [] misc Tryz.f161 (.loop 2 (None (bP isOdd t) s) (fun i => ⟨[(1, .one (.fn 118 [])), (2, .one (.bool t)), (10, .one (.slc 17))], [(17, some (.iter s i.1))], 18⟩) (fun i => s.length - i.1) (fun _ => .nil) .nil) [.one (.str s), .one (.fnv 118 []), .one (.bool t)] (.one (.int .i64 (idxZ (bP isOdd t) s)))) : FnP 161 sp_sidxO := by
  refine fnP_ok (cs := [(118, sp_parts1)]) (cas := []) (ms := misc) (.cons ok_parts1 .nil) .nil misc_ok 161 Tryz.f161 (by kernel_rfl) (by kernel_rfl) (by kernel_rfl) (fun | [.one (.str s), .one (.fnv 118 []), .one (.bool t)] => .loop 2 (None (bP isOdd t) s) (fun i => ⟨[(1, .one (.fn 118 [])), (2, .one (.bool t)), (10, .one (.slc 17))], [(17, some (.iter s i.1))], 18⟩) (fun i => s.length - i.1) (fun _ => .nil) .nil | _ => .nil) ?_
  intro pvs p r hs hp
  unfold sp_sidxO at hs
  simp only at hs
  split at hs
  · rename_i s t
    cases hs
    refine h s t ?_ ?_
    · exact hp.1
    · exact hp.2
  · cases hs
theorem None.step {P : Int → Bool} {t : Bool} {s : List UInt8} (hs : Asc s) (x : None (bP P t) s) (h : x.1 < s.length) :
    dec s x.1 = ((s.getD x.1 0).toNat : Int) ∧ wid s x.1 = 1 ∧ (0 ≤ dec s x.1 ∧ dec s x.1 < 128) := by
  obtain ⟨q1, q2⟩ := dec_asc hs h
  have := hs _ (getD_mem' (d := 0) h)
  exact ⟨q1, q2, by omega, by omega⟩
theorem ok_sidx1 : FnP 161 sp_sidx1 := of_sidx1 (by
  intro s c t hs hn
  rw [vc_sidx1]
  refine ⟨⟨.zero _ s, rfl, rfl, rfl, rfl⟩, fun x => br_of (fun h => ?_) fun h => ?_⟩
  · have h : x.1 < s.length := of_decide_eq_true h
    obtain ⟨q1, q2, q3⟩ := x.step hs h
    rw [q1, q2]
    exact br_of (fun h1 => (x.hitZ (d := 0) h h1).symm) fun h1 => ⟨x.next 0 h h1, ⟨rfl, rfl, rfl, rfl⟩, by show s.length - (x.1 + 1) < _; omega⟩
  · exact (x.overZ (of_decide_eq_false h)).symm)
theorem ok_sidxD : FnP 161 sp_sidxD := of_sidxD (by
  intro s t hs hn
  rw [vc_sidxD]
  refine ⟨⟨.zero _ s, rfl, rfl, rfl⟩, fun x => br_of (fun h => ?_) fun h => ?_⟩
  · have h : x.1 < s.length := of_decide_eq_true h
    obtain ⟨q1, q2, q3⟩ := x.step hs h
    rw [q1, q2]
    exact br_of (fun h1 => (x.hitZ (d := 0) h h1).symm) fun h1 => ⟨x.next 0 h h1, ⟨rfl, rfl, rfl⟩, by show s.length - (x.1 + 1) < _; omega⟩
  · exact (x.overZ (of_decide_eq_false h)).symm)
theorem ok_sidxO : FnP 161 sp_sidxO := of_sidxO (by
  intro s t hs hn
  rw [vc_sidxO]
  refine ⟨⟨.zero _ s, rfl, rfl, rfl⟩, fun x => br_of (fun h => ?_) fun h => ?_⟩
  · have h : x.1 < s.length := of_decide_eq_true h
    obtain ⟨q1, q2, q3⟩ := x.step hs h
    refine ⟨q3, ?_⟩
    rw [q1, q2]
    exact br_of (fun h1 => (x.hitZ (d := 0) h h1).symm) fun h1 => ⟨x.next 0 h h1, ⟨rfl, rfl, rfl⟩, by show s.length - (x.1 + 1) < _; omega⟩
  · exact (x.overZ (of_decide_eq_false h)).symm)
def dropP (P : Int → Bool) (s : List UInt8) : List UInt8 := s.dropWhile fun c => P (c.toNat : Int)
def sp_strim1 : FSpec := ⟨[], fun | [.one (.str s), .one (.fnv 140 [(21, .int .i32 c)])] => some ([Asc s, s.length ≤ 1000000000], .one (.str (dropP (· == c) s))) | _ => none⟩
theorem vc_strim1 (s : List UInt8) (c : Int) : vcP [(161, sp_sidx1)] [] misc Tryz.f139 (.nil) [.one (.str s), .one (.fnv 140 [(21, .int .i32 c)])] (.one (.str (dropP (· == c) s))) = ((∀ (c : UInt8), c ∈ s → UInt8.toNat c < (128 : Nat)) ∧ List.length s ≤ (1000000000 : Nat) ∧ br (idxZ (bP (fun (x : Int) => x == c) false) s == (-1 : Int)) (([] : List UInt8) = dropP (fun (x : Int) => x == c) s) (((0 : Int) ≤ idxZ (bP (fun (x : Int) => x == c) false) s ∧ idxZ (bP (fun (x : Int) => x == c) false) s ≤ (↑(List.length s) : Int)) ∧ List.drop (Int.toNat (idxZ (bP (fun (x : Int) => x == c) false) s)) s = dropP (fun (x : Int) => x == c) s)) := by kernel_rfl
set_option maxHeartbeats 4000000 in
theorem of_strim1 (h : ∀ (s : List UInt8) (c : Int), (Asc s) → (s.length ≤ 1000000000) → vcP [(161, sp_sidx1)] [] misc Tryz.f139 (.nil) [.one (.str s), .one (.fnv 140 [(21, .int .i32 c)])] (.one (.str (dropP (· == c) s)))) : FnP 139 sp_strim1 := by
  refine fnP_ok (cs := [(161, sp_sidx1)]) (cas := []) (ms := misc) (.cons ok_sidx1 .nil) .nil misc_ok 139 Tryz.f139 (by kernel_rfl) (by kernel_rfl) (by kernel_rfl) (fun _ => .nil) ?_
  intro pvs p r hs hp
  unfold sp_strim1 at hs
  simp only at hs
  split at hs
  · rename_i s c
    cases hs
    refine h s c ?_ ?_
    · exact hp.1
    · exact hp.2
  · cases hs
def sp_strimD : FSpec := ⟨[], fun | [.one (.str s), .one (.fnv 119 [])] => some ([Asc s, s.length ≤ 1000000000], .one (.str (dropP isDig s))) | _ => none⟩
theorem vc_strimD (s : List UInt8) : vcP [(161, sp_sidxD)] [] misc Tryz.f139 (.nil) [.one (.str s), .one (.fnv 119 [])] (.one (.str (dropP isDig s))) = ((∀ (c : UInt8), c ∈ s → UInt8.toNat c < (128 : Nat)) ∧ List.length s ≤ (1000000000 : Nat) ∧ br (idxZ (bP isDig false) s == (-1 : Int)) (([] : List UInt8) = dropP isDig s) (((0 : Int) ≤ idxZ (bP isDig false) s ∧ idxZ (bP isDig false) s ≤ (↑(List.length s) : Int)) ∧ List.drop (Int.toNat (idxZ (bP isDig false) s)) s = dropP isDig s)) := by kernel_rfl
set_option maxHeartbeats 4000000 in
theorem of_strimD (h : ∀ (s : List UInt8), (Asc s) → (s.length ≤ 1000000000) → vcP [(161, sp_sidxD)] [] misc Tryz.f139 (.nil) [.one (.str s), .one (.fnv 119 [])] (.one (.str (dropP isDig s)))) : FnP 139 sp_strimD := by
  refine fnP_ok (cs := [(161, sp_sidxD)]) (cas := []) (ms := misc) (.cons ok_sidxD .nil) .nil misc_ok 139 Tryz.f139 (by kernel_rfl) (by kernel_rfl) (by kernel_rfl) (fun _ => .nil) ?_
  intro pvs p r hs hp
  unfold sp_strimD at hs
  simp only at hs
  split at hs
  · rename_i s
    cases hs
    refine h s ?_ ?_
    · exact hp.1
    · exact hp.2
  · cases hs
def sp_sifD : FSpec := ⟨[], fun | [.one (.str s), .one (.fnv 119 [])] => some ([Asc s, s.length ≤ 1000000000], .one (.int .i64 (idxZ (bP isDig true) s))) | _ => none⟩
theorem vc_sifD (s : List UInt8) : vcP [(161, sp_sidxD)] [] misc Tryz.f142 (.nil) [.one (.str s), .one (.fnv 119 [])] (.one (.int .i64 (idxZ (bP isDig true) s))) = ((∀ (c : UInt8), c ∈ s → UInt8.toNat c < (128 : Nat)) ∧ List.length s ≤ (1000000000 : Nat) ∧ idxZ (bP isDig true) s = idxZ (bP isDig true) s) := by kernel_rfl
set_option maxHeartbeats 4000000 in
theorem of_sifD (h : ∀ (s : List UInt8), (Asc s) → (s.length ≤ 1000000000) → vcP [(161, sp_sidxD)] [] misc Tryz.f142 (.nil) [.one (.str s), .one (.fnv 119 [])] (.one (.int .i64 (idxZ (bP isDig true) s)))) : FnP 142 sp_sifD := by
  refine fnP_ok (cs := [(161, sp_sidxD)]) (cas := []) (ms := misc) (.cons ok_sidxD .nil) .nil misc_ok 142 Tryz.f142 (by kernel_rfl) (by kernel_rfl) (by kernel_rfl) (fun _ => .nil) ?_
  intro pvs p r hs hp
  unfold sp_sifD at hs
  simp only at hs
  split at hs
  · rename_i s
    cases hs
    refine h s ?_ ?_
    · exact hp.1
    · exact hp.2
  · cases hs
def sp_sifO : FSpec := ⟨[], fun | [.one (.str s), .one (.fnv 118 [])] => some ([Asc s, s.length ≤ 1000000000], .one (.int .i64 (idxZ (bP isOdd true) s))) | _ => none⟩
theorem vc_sifO (s : List UInt8) : vcP [(161, sp_sidxO)] [] misc Tryz.f142 (.nil) [.one (.str s), .one (.fnv 118 [])] (.one (.int .i64 (idxZ (bP isOdd true) s))) = ((∀ (c : UInt8), c ∈ s → UInt8.toNat c < (128 : Nat)) ∧ List.length s ≤ (1000000000 : Nat) ∧ idxZ (bP isOdd true) s = idxZ (bP isOdd true) s) := by kernel_rfl
set_option maxHeartbeats 4000000 in
theorem of_sifO (h : ∀ (s : List UInt8), (Asc s) → (s.length ≤ 1000000000) → vcP [(161, sp_sidxO)] [] misc Tryz.f142 (.nil) [.one (.str s), .one (.fnv 118 [])] (.one (.int .i64 (idxZ (bP isOdd true) s)))) : FnP 142 sp_sifO := by
  refine fnP_ok (cs := [(161, sp_sidxO)]) (cas := []) (ms := misc) (.cons ok_sidxO .nil) .nil misc_ok 142 Tryz.f142 (by kernel_rfl) (by kernel_rfl) (by kernel_rfl) (fun _ => .nil) ?_
  intro pvs p r hs hp
  unfold sp_sifO at hs
  simp only at hs
  split at hs
  · rename_i s
    cases hs
    refine h s ?_ ?_
    · exact hp.1
    · exact hp.2
  · cases hs
def anyP (P : Int → Bool) (s : List UInt8) : Bool := s.any fun c => P (c.toNat : Int)
theorem ok_sifD : FnP 142 sp_sifD := of_sifD (by
  intro s hs hn
  rw [vc_sifD]
  exact ⟨hs, hn, rfl⟩)
theorem ok_sifO : FnP 142 sp_sifO := of_sifO (by
  intro s hs hn
  rw [vc_sifO]
  exact ⟨hs, hn, rfl⟩)
def sp_scfD : FSpec := ⟨[], fun | [.one (.str s), .one (.fnv 119 [])] => some ([Asc s, s.length ≤ 1000000000], .one (.bool (anyP isDig s))) | _ => none⟩
theorem vc_scfD (s : List UInt8) : vcP [(142, sp_sifD)] [] misc Tryz.f121 (.nil) [.one (.str s), .one (.fnv 119 [])] (.one (.bool (anyP isDig s))) = ((∀ (c : UInt8), c ∈ s → UInt8.toNat c < (128 : Nat)) ∧ List.length s ≤ (1000000000 : Nat) ∧ decide (idxZ (bP isDig true) s ≥ (0 : Int)) = anyP isDig s) := by kernel_rfl
set_option maxHeartbeats 4000000 in
theorem of_scfD (h : ∀ (s : List UInt8), (Asc s) → (s.length ≤ 1000000000) → vcP [(142, sp_sifD)] [] misc Tryz.f121 (.nil) [.one (.str s), .one (.fnv 119 [])] (.one (.bool (anyP isDig s)))) : FnP 121 sp_scfD := by
  refine fnP_ok (cs := [(142, sp_sifD)]) (cas := []) (ms := misc) (.cons ok_sifD .nil) .nil misc_ok 121 Tryz.f121 (by kernel_rfl) (by kernel_rfl) (by kernel_rfl) (fun _ => .nil) ?_
  intro pvs p r hs hp
  unfold sp_scfD at hs
  simp only at hs
  split at hs
  · rename_i s
    cases hs
    refine h s ?_ ?_
    · exact hp.1
    · exact hp.2
  · cases hs
def sp_scfO : FSpec := ⟨[], fun | [.one (.str s), .one (.fnv 118 [])] => some ([Asc s, s.length ≤ 1000000000], .one (.bool (anyP isOdd s))) | _ => none⟩
theorem vc_scfO (s : List UInt8) : vcP [(142, sp_sifO)] [] misc Tryz.f121 (.nil) [.one (.str s), .one (.fnv 118 [])] (.one (.bool (anyP isOdd s))) = ((∀ (c : UInt8), c ∈ s → UInt8.toNat c < (128 : Nat)) ∧ List.length s ≤ (1000000000 : Nat) ∧ decide (idxZ (bP isOdd true) s ≥ (0 : Int)) = anyP isOdd s) := by kernel_rfl
set_option maxHeartbeats 4000000 in
theorem of_scfO (h : ∀ (s : List UInt8), (Asc s) → (s.length ≤ 1000000000) → vcP [(142, sp_sifO)] [] misc Tryz.f121 (.nil) [.one (.str s), .one (.fnv 118 [])] (.one (.bool (anyP isOdd s)))) : FnP 121 sp_scfO := by
  refine fnP_ok (cs := [(142, sp_sifO)]) (cas := []) (ms := misc) (.cons ok_sifO .nil) .nil misc_ok 121 Tryz.f121 (by kernel_rfl) (by kernel_rfl) (by kernel_rfl) (fun _ => .nil) ?_
  intro pvs p r hs hp
  unfold sp_scfO at hs
  simp only at hs
  split at hs
  · rename_i s
    cases hs
    refine h s ?_ ?_
    · exact hp.1
    · exact hp.2
  · cases hs
theorem any_idx (P : Int → Bool) (s : List UInt8) : decide (idxZ (bP P true) s ≥ 0) = anyP P s := by
  unfold idxZ anyP
  rw [Bool.eq_iff_iff, decide_eq_true_iff, List.any_eq_true]
  by_cases h : s.findIdx (bP P true) < s.length
  · rw [if_pos h]
    have h1 := List.findIdx_getElem (w := h)
    refine ⟨fun _ => ⟨_, List.getElem_mem h, by simpa [bP] using h1⟩, fun _ => by omega⟩
  · rw [if_neg h]
    have h0 : s.findIdx (bP P true) = s.length := by have := List.findIdx_le_length (p := bP P true) (xs := s); omega
    rw [List.findIdx_eq_length] at h0
    refine ⟨fun h => absurd h (by decide), ?_⟩
    rintro ⟨c, hc, h1⟩
    have := h0 c hc
    unfold bP at this
    rw [h1] at this
    exact absurd this (by decide)
theorem ok_scfD : FnP 121 sp_scfD := of_scfD (by
  intro s hs hn
  rw [vc_scfD]
  exact ⟨hs, hn, any_idx isDig s⟩)
theorem ok_scfO : FnP 121 sp_scfO := of_scfO (by
  intro s hs hn
  rw [vc_scfO]
  exact ⟨hs, hn, any_idx isOdd s⟩)
theorem drop_idx (P : Int → Bool) (s : List UInt8) : s.drop (s.findIdx (bP P false)) = dropP P s := by
  unfold dropP
  induction s with
  | nil => rfl
  | cons c l ih =>
    rw [List.findIdx_cons]
    cases h : P (c.toNat : Int) with
    | true =>
      have : bP P false c = false := by unfold bP; rw [h]; rfl
      rw [this, List.dropWhile_cons_of_pos (by simpa using h)]
      simpa using ih
    | false =>
      have : bP P false c = true := by unfold bP; rw [h]; rfl
      rw [this, List.dropWhile_cons_of_neg (by simp [h])]
      rfl
theorem trim_of (P : Int → Bool) (s : List UInt8) : br (idxZ (bP P false) s == -1) ([] = dropP P s) ((0 ≤ idxZ (bP P false) s ∧ idxZ (bP P false) s ≤ s.length) ∧ s.drop (idxZ (bP P false) s).toNat = dropP P s) := by
  have h1 := drop_idx P s
  have h2 := List.findIdx_le_length (p := bP P false) (xs := s)
  unfold idxZ
  split
  · refine br_of (fun h => ?_) fun h => ⟨⟨by omega, by omega⟩, by rw [Int.toNat_natCast]; exact h1⟩
    have := eq_of_beq h; omega
  · refine br_of (fun h => ?_) fun h => absurd h (by decide)
    rw [← h1, List.drop_of_length_le (by omega)]
theorem ok_strim1 : FnP 139 sp_strim1 := of_strim1 (by
  intro s c hs hn
  rw [vc_strim1]
  exact ⟨hs, hn, trim_of (· == c) s⟩)
theorem ok_strimD : FnP 139 sp_strimD := of_strimD (by
  intro s hs hn
  rw [vc_strimD]
  exact ⟨hs, hn, trim_of isDig s⟩)
theorem dropP_suffix (P : Int → Bool) (s : List UInt8) : dropP P s <:+ s := List.dropWhile_suffix _
theorem dropP_len (P : Int → Bool) (s : List UInt8) : (dropP P s).length ≤ s.length := (dropP_suffix P s).length_le
theorem dropP_asc {P : Int → Bool} {s : List UInt8} (h : Asc s) : Asc (dropP P s) := fun c hc => h c ((dropP_suffix P s).subset hc)
def span1 (P : Int → Bool) (s : List UInt8) : Int := (s.length : Int) - ((dropP P s).length : Int)
def sp_spans1 : ASpec := ⟨fun | [.one (.str s), .one (.slc 0)], [(0, some (.lit 40 1 [.fn 140 [(1, 0)]])), (1, some (.ro 21 [.int .i32 c]))] => some ([Asc s, s.length ≤ 1000000000], .tup [(false, [.slc 16]), (false, [.bool (decide (dropP (· == c) s = []))])], [(16, some (.row 3 (.ints .i64 [span1 (· == c) s])))]) | _, _ => none⟩
theorem vc_spans1 (s : List UInt8) (c : Int) : vcA [(139, sp_strim1)] [] misc Tryz.f116 (.turns 3 2 (fun _ => .nil) .nil) [.one (.str s), .one (.slc 0)] [(0, some (.lit 40 1 [.fn 140 [(1, 0)]])), (1, some (.ro 21 [.int .i32 c]))] (.tup [(false, [.slc 16]), (false, [.bool (decide (dropP (· == c) s = []))])]) [(16, some (.row 3 (.ints .i64 [span1 (· == c) s])))] = (((0 : Int) ≤ (0 : Int) ∧ (0 : Int) < (↑(1 : Nat) : Int)) ∧ (∀ (c : UInt8), c ∈ s → UInt8.toNat c < (128 : Nat)) ∧ List.length s ≤ (1000000000 : Nat) ∧ inR IntKind.i64 ((↑(List.length s) : Int) - (↑(List.length (dropP (fun (x : Int) => x == c) s)) : Int)) ∧ ((0 : Nat) + (1 : Nat)) * (8 : Nat) ≤ (140737488355328 : Nat) ∧ inR IntKind.i64 ((0 : Int) + (1 : Int)) ∧ decide (dropP (fun (x : Int) => x == c) s = ([] : List UInt8)) = decide (dropP (fun (x : Int) => x == c) s = []) ∧ [] ++ [(↑(List.length s) : Int) - (↑(List.length (dropP (fun (x : Int) => x == c) s)) : Int)] = [span1 (fun (x : Int) => x == c) s]) := by kernel_rfl
set_option maxHeartbeats 4000000 in
theorem of_spans1 (h : ∀ (s : List UInt8) (c : Int), (Asc s) → (s.length ≤ 1000000000) → vcA [(139, sp_strim1)] [] misc Tryz.f116 (.turns 3 2 (fun _ => .nil) .nil) [.one (.str s), .one (.slc 0)] [(0, some (.lit 40 1 [.fn 140 [(1, 0)]])), (1, some (.ro 21 [.int .i32 c]))] (.tup [(false, [.slc 16]), (false, [.bool (decide (dropP (· == c) s = []))])]) [(16, some (.row 3 (.ints .i64 [span1 (· == c) s])))]) : FnA 116 sp_spans1 := by
  refine fnA_ok (cs := [(139, sp_strim1)]) (cas := []) (ms := misc) (.cons ok_strim1 .nil) .nil misc_ok 116 Tryz.f116 (by kernel_rfl) (by kernel_rfl) (by kernel_rfl) (fun | [.one (.str s), .one (.slc 0)], [(0, some (.lit 40 1 [.fn 140 [(1, 0)]])), (1, some (.ro 21 [.int .i32 c]))] => .turns 3 2 (fun _ => .nil) .nil | _, _ => .nil) ?_
  intro args mem p r post hs hp
  unfold sp_spans1 at hs
  simp only at hs
  split at hs
  · rename_i s c
    cases hs
    refine h s c ?_ ?_
    · exact hp.1
    · exact hp.2
  · cases hs
def FSpec.either (s t : FSpec) : FSpec := ⟨s.tmpl, fun pvs => match s.spec pvs with | some x => some x | none => t.spec pvs⟩
theorem either_ok {f : Nat} {s t : FSpec} (h : FnP f s) (k : FnP f t) : FnP f (s.either t) := by
  refine ⟨h.body, ?_⟩
  intro pvs p r hs
  unfold FSpec.either at hs
  simp only at hs
  split at hs
  · rename_i x hx
    cases hs
    exact h.calls _ _ _ hx
  · exact k.calls _ _ _ hs
def sp_strimX : FSpec := sp_strim1.either sp_strimD
theorem ok_strimX : FnP 139 sp_strimX := either_ok ok_strim1 ok_strimD
def sp_spansA : ASpec := ⟨fun | [.one (.str s), .one (.slc 0)], [(0, some (.lit 40 2 [.fn 140 [(1, 0)], .fn 119 []])), (1, some (.ro 21 [.int .i32 c]))] => some ([Asc s, s.length ≤ 1000000000], .tup [(false, [.slc 16]), (false, [.bool (decide (dropP isDig (dropP (· == c) s) = []))])], [(16, some (.row 3 (.ints .i64 [span1 (· == c) s, span1 isDig (dropP (· == c) s)])))]) | _, _ => none⟩
theorem vc_spansA (s : List UInt8) (c : Int) : vcA [(139, sp_strimX)] [] misc Tryz.f116 (.turns 3 3 (fun _ => .nil) .nil) [.one (.str s), .one (.slc 0)] [(0, some (.lit 40 2 [.fn 140 [(1, 0)], .fn 119 []])), (1, some (.ro 21 [.int .i32 c]))] (.tup [(false, [.slc 16]), (false, [.bool (decide (dropP isDig (dropP (· == c) s) = []))])]) [(16, some (.row 3 (.ints .i64 [span1 (· == c) s, span1 isDig (dropP (· == c) s)])))] = (((0 : Int) ≤ (0 : Int) ∧ (0 : Int) < (↑(2 : Nat) : Int)) ∧ (∀ (c : UInt8), c ∈ s → UInt8.toNat c < (128 : Nat)) ∧ List.length s ≤ (1000000000 : Nat) ∧ inR IntKind.i64 ((↑(List.length s) : Int) - (↑(List.length (dropP (fun (x : Int) => x == c) s)) : Int)) ∧ ((0 : Nat) + (1 : Nat)) * (8 : Nat) ≤ (140737488355328 : Nat) ∧ inR IntKind.i64 ((0 : Int) + (1 : Int)) ∧ ((0 : Int) ≤ (0 : Int) + (1 : Int) ∧ (0 : Int) + (1 : Int) < (↑(2 : Nat) : Int)) ∧ (∀ (c_1 : UInt8), c_1 ∈ dropP (fun (x : Int) => x == c) s → UInt8.toNat c_1 < (128 : Nat)) ∧ List.length (dropP (fun (x : Int) => x == c) s) ≤ (1000000000 : Nat) ∧ inR IntKind.i64 ((↑(List.length (dropP (fun (x : Int) => x == c) s)) : Int) - (↑(List.length (dropP isDig (dropP (fun (x : Int) => x == c) s))) : Int)) ∧ ((1 : Nat) + (1 : Nat)) * (8 : Nat) ≤ (140737488355328 : Nat) ∧ inR IntKind.i64 ((0 : Int) + (1 : Int) + (1 : Int)) ∧ decide (dropP isDig (dropP (fun (x : Int) => x == c) s) = ([] : List UInt8)) = decide (dropP isDig (dropP (fun (x : Int) => x == c) s) = []) ∧ [] ++ [(↑(List.length s) : Int) - (↑(List.length (dropP (fun (x : Int) => x == c) s)) : Int)] ++ [(↑(List.length (dropP (fun (x : Int) => x == c) s)) : Int) - (↑(List.length (dropP isDig (dropP (fun (x : Int) => x == c) s))) : Int)] = [span1 (fun (x : Int) => x == c) s, span1 isDig (dropP (fun (x : Int) => x == c) s)]) := by kernel_rfl
set_option maxHeartbeats 4000000 in
theorem of_spansA (h : ∀ (s : List UInt8) (c : Int), (Asc s) → (s.length ≤ 1000000000) → vcA [(139, sp_strimX)] [] misc Tryz.f116 (.turns 3 3 (fun _ => .nil) .nil) [.one (.str s), .one (.slc 0)] [(0, some (.lit 40 2 [.fn 140 [(1, 0)], .fn 119 []])), (1, some (.ro 21 [.int .i32 c]))] (.tup [(false, [.slc 16]), (false, [.bool (decide (dropP isDig (dropP (· == c) s) = []))])]) [(16, some (.row 3 (.ints .i64 [span1 (· == c) s, span1 isDig (dropP (· == c) s)])))]) : FnA 116 sp_spansA := by
  refine fnA_ok (cs := [(139, sp_strimX)]) (cas := []) (ms := misc) (.cons ok_strimX .nil) .nil misc_ok 116 Tryz.f116 (by kernel_rfl) (by kernel_rfl) (by kernel_rfl) (fun | [.one (.str s), .one (.slc 0)], [(0, some (.lit 40 2 [.fn 140 [(1, 0)], .fn 119 []])), (1, some (.ro 21 [.int .i32 c]))] => .turns 3 3 (fun _ => .nil) .nil | _, _ => .nil) ?_
  intro args mem p r post hs hp
  unfold sp_spansA at hs
  simp only at hs
  split at hs
  · rename_i s c
    cases hs
    refine h s c ?_ ?_
    · exact hp.1
    · exact hp.2
  · cases hs
def sp_spansB : ASpec := ⟨fun | [.one (.str s), .one (.slc 0)], [(0, some (.lit 40 2 [.fn 119 [], .fn 140 [(1, 0)]])), (1, some (.ro 21 [.int .i32 c]))] => some ([Asc s, s.length ≤ 1000000000], .tup [(false, [.slc 16]), (false, [.bool (decide (dropP (· == c) (dropP isDig s) = []))])], [(16, some (.row 3 (.ints .i64 [span1 isDig s, span1 (· == c) (dropP isDig s)])))]) | _, _ => none⟩
theorem vc_spansB (s : List UInt8) (c : Int) : vcA [(139, sp_strimX)] [] misc Tryz.f116 (.turns 3 3 (fun _ => .nil) .nil) [.one (.str s), .one (.slc 0)] [(0, some (.lit 40 2 [.fn 119 [], .fn 140 [(1, 0)]])), (1, some (.ro 21 [.int .i32 c]))] (.tup [(false, [.slc 16]), (false, [.bool (decide (dropP (· == c) (dropP isDig s) = []))])]) [(16, some (.row 3 (.ints .i64 [span1 isDig s, span1 (· == c) (dropP isDig s)])))] = (letI v0 := (↑(List.length (dropP isDig s)) : Int); (((0 : Int) ≤ (0 : Int) ∧ (0 : Int) < (↑(2 : Nat) : Int)) ∧ (∀ (c : UInt8), c ∈ s → UInt8.toNat c < (128 : Nat)) ∧ List.length s ≤ (1000000000 : Nat) ∧ inR IntKind.i64 ((↑(List.length s) : Int) - v0) ∧ ((0 : Nat) + (1 : Nat)) * (8 : Nat) ≤ (140737488355328 : Nat) ∧ inR IntKind.i64 ((0 : Int) + (1 : Int)) ∧ ((0 : Int) ≤ (0 : Int) + (1 : Int) ∧ (0 : Int) + (1 : Int) < (↑(2 : Nat) : Int)) ∧ (∀ (c : UInt8), c ∈ dropP isDig s → UInt8.toNat c < (128 : Nat)) ∧ List.length (dropP isDig s) ≤ (1000000000 : Nat) ∧ inR IntKind.i64 (v0 - (↑(List.length (dropP (fun (x : Int) => x == c) (dropP isDig s))) : Int)) ∧ ((1 : Nat) + (1 : Nat)) * (8 : Nat) ≤ (140737488355328 : Nat) ∧ inR IntKind.i64 ((0 : Int) + (1 : Int) + (1 : Int)) ∧ decide (dropP (fun (x : Int) => x == c) (dropP isDig s) = ([] : List UInt8)) = decide (dropP (fun (x : Int) => x == c) (dropP isDig s) = []) ∧ [] ++ [(↑(List.length s) : Int) - v0] ++ [v0 - (↑(List.length (dropP (fun (x : Int) => x == c) (dropP isDig s))) : Int)] = [span1 isDig s, span1 (fun (x : Int) => x == c) (dropP isDig s)])) := by kernel_rfl
set_option maxHeartbeats 4000000 in
theorem of_spansB (h : ∀ (s : List UInt8) (c : Int), (Asc s) → (s.length ≤ 1000000000) → vcA [(139, sp_strimX)] [] misc Tryz.f116 (.turns 3 3 (fun _ => .nil) .nil) [.one (.str s), .one (.slc 0)] [(0, some (.lit 40 2 [.fn 119 [], .fn 140 [(1, 0)]])), (1, some (.ro 21 [.int .i32 c]))] (.tup [(false, [.slc 16]), (false, [.bool (decide (dropP (· == c) (dropP isDig s) = []))])]) [(16, some (.row 3 (.ints .i64 [span1 isDig s, span1 (· == c) (dropP isDig s)])))]) : FnA 116 sp_spansB := by
  refine fnA_ok (cs := [(139, sp_strimX)]) (cas := []) (ms := misc) (.cons ok_strimX .nil) .nil misc_ok 116 Tryz.f116 (by kernel_rfl) (by kernel_rfl) (by kernel_rfl) (fun | [.one (.str s), .one (.slc 0)], [(0, some (.lit 40 2 [.fn 119 [], .fn 140 [(1, 0)]])), (1, some (.ro 21 [.int .i32 c]))] => .turns 3 3 (fun _ => .nil) .nil | _, _ => .nil) ?_
  intro args mem p r post hs hp
  unfold sp_spansB at hs
  simp only at hs
  split at hs
  · rename_i s c
    cases hs
    refine h s c ?_ ?_
    · exact hp.1
    · exact hp.2
  · cases hs
def sp_spansC : ASpec := ⟨fun | [.one (.str s), .one (.slc 0)], [(0, some (.lit 40 3 [.fn 140 [(1, 0)], .fn 140 [(2, 0)], .fn 140 [(3, 0)]])), (1, some (.ro 21 [.int .i32 c])), (2, some (.ro 21 [.int .i32 d])), (3, some (.ro 21 [.int .i32 e]))] => some ([Asc s, s.length ≤ 1000000000], .tup [(false, [.slc 16]), (false, [.bool (decide (dropP (· == e) (dropP (· == d) (dropP (· == c) s)) = []))])], [(16, some (.row 3 (.ints .i64 [span1 (· == c) s, span1 (· == d) (dropP (· == c) s), span1 (· == e) (dropP (· == d) (dropP (· == c) s))])))]) | _, _ => none⟩
theorem vc_spansC (s : List UInt8) (c d e : Int) : vcA [(139, sp_strimX)] [] misc Tryz.f116 (.turns 3 4 (fun _ => .nil) .nil) [.one (.str s), .one (.slc 0)] [(0, some (.lit 40 3 [.fn 140 [(1, 0)], .fn 140 [(2, 0)], .fn 140 [(3, 0)]])), (1, some (.ro 21 [.int .i32 c])), (2, some (.ro 21 [.int .i32 d])), (3, some (.ro 21 [.int .i32 e]))] (.tup [(false, [.slc 16]), (false, [.bool (decide (dropP (· == e) (dropP (· == d) (dropP (· == c) s)) = []))])]) [(16, some (.row 3 (.ints .i64 [span1 (· == c) s, span1 (· == d) (dropP (· == c) s), span1 (· == e) (dropP (· == d) (dropP (· == c) s))])))] = (((0 : Int) ≤ (0 : Int) ∧ (0 : Int) < (↑(3 : Nat) : Int)) ∧ (∀ (c : UInt8), c ∈ s → UInt8.toNat c < (128 : Nat)) ∧ List.length s ≤ (1000000000 : Nat) ∧ inR IntKind.i64 ((↑(List.length s) : Int) - (↑(List.length (dropP (fun (x : Int) => x == c) s)) : Int)) ∧ ((0 : Nat) + (1 : Nat)) * (8 : Nat) ≤ (140737488355328 : Nat) ∧ inR IntKind.i64 ((0 : Int) + (1 : Int)) ∧ ((0 : Int) ≤ (0 : Int) + (1 : Int) ∧ (0 : Int) + (1 : Int) < (↑(3 : Nat) : Int)) ∧ (∀ (c_1 : UInt8), c_1 ∈ dropP (fun (x : Int) => x == c) s → UInt8.toNat c_1 < (128 : Nat)) ∧ List.length (dropP (fun (x : Int) => x == c) s) ≤ (1000000000 : Nat) ∧ inR IntKind.i64 ((↑(List.length (dropP (fun (x : Int) => x == c) s)) : Int) - (↑(List.length (dropP (fun (x : Int) => x == d) (dropP (fun (x : Int) => x == c) s))) : Int)) ∧ ((1 : Nat) + (1 : Nat)) * (8 : Nat) ≤ (140737488355328 : Nat) ∧ inR IntKind.i64 ((0 : Int) + (1 : Int) + (1 : Int)) ∧ ((0 : Int) ≤ (0 : Int) + (1 : Int) + (1 : Int) ∧ (0 : Int) + (1 : Int) + (1 : Int) < (↑(3 : Nat) : Int)) ∧ (∀ (c_1 : UInt8), c_1 ∈ dropP (fun (x : Int) => x == d) (dropP (fun (x : Int) => x == c) s) → UInt8.toNat c_1 < (128 : Nat)) ∧ List.length (dropP (fun (x : Int) => x == d) (dropP (fun (x : Int) => x == c) s)) ≤ (1000000000 : Nat) ∧ inR IntKind.i64 ((↑(List.length (dropP (fun (x : Int) => x == d) (dropP (fun (x : Int) => x == c) s))) : Int) - (↑(List.length (dropP (fun (x : Int) => x == e) (dropP (fun (x : Int) => x == d) (dropP (fun (x : Int) => x == c) s)))) : Int)) ∧ (Nat.succ (Nat.add (List.length (List.append [] [(↑(List.length (dropP (fun (x : Int) => x == c) s)) : Int) - (↑(List.length (dropP (fun (x : Int) => x == d) (dropP (fun (x : Int) => x == c) s))) : Int)])) (0 : Nat)) + (1 : Nat)) * (8 : Nat) ≤ (140737488355328 : Nat) ∧ inR IntKind.i64 ((0 : Int) + (1 : Int) + (1 : Int) + (1 : Int)) ∧ decide (dropP (fun (x : Int) => x == e) (dropP (fun (x : Int) => x == d) (dropP (fun (x : Int) => x == c) s)) = ([] : List UInt8)) = decide (dropP (fun (x : Int) => x == e) (dropP (fun (x : Int) => x == d) (dropP (fun (x : Int) => x == c) s)) = []) ∧ [] ++ [(↑(List.length s) : Int) - (↑(List.length (dropP (fun (x : Int) => x == c) s)) : Int)] ++ [(↑(List.length (dropP (fun (x : Int) => x == c) s)) : Int) - (↑(List.length (dropP (fun (x : Int) => x == d) (dropP (fun (x : Int) => x == c) s))) : Int)] ++ [(↑(List.length (dropP (fun (x : Int) => x == d) (dropP (fun (x : Int) => x == c) s))) : Int) - (↑(List.length (dropP (fun (x : Int) => x == e) (dropP (fun (x : Int) => x == d) (dropP (fun (x : Int) => x == c) s)))) : Int)] = [span1 (fun (x : Int) => x == c) s, span1 (fun (x : Int) => x == d) (dropP (fun (x : Int) => x == c) s), span1 (fun (x : Int) => x == e) (dropP (fun (x : Int) => x == d) (dropP (fun (x : Int) => x == c) s))]) := by kernel_rfl
set_option maxHeartbeats 4000000 in
theorem of_spansC (h : ∀ (s : List UInt8) (c d e : Int), (Asc s) → (s.length ≤ 1000000000) → vcA [(139, sp_strimX)] [] misc Tryz.f116 (.turns 3 4 (fun _ => .nil) .nil) [.one (.str s), .one (.slc 0)] [(0, some (.lit 40 3 [.fn 140 [(1, 0)], .fn 140 [(2, 0)], .fn 140 [(3, 0)]])), (1, some (.ro 21 [.int .i32 c])), (2, some (.ro 21 [.int .i32 d])), (3, some (.ro 21 [.int .i32 e]))] (.tup [(false, [.slc 16]), (false, [.bool (decide (dropP (· == e) (dropP (· == d) (dropP (· == c) s)) = []))])]) [(16, some (.row 3 (.ints .i64 [span1 (· == c) s, span1 (· == d) (dropP (· == c) s), span1 (· == e) (dropP (· == d) (dropP (· == c) s))])))]) : FnA 116 sp_spansC := by
  refine fnA_ok (cs := [(139, sp_strimX)]) (cas := []) (ms := misc) (.cons ok_strimX .nil) .nil misc_ok 116 Tryz.f116 (by kernel_rfl) (by kernel_rfl) (by kernel_rfl) (fun | [.one (.str s), .one (.slc 0)], [(0, some (.lit 40 3 [.fn 140 [(1, 0)], .fn 140 [(2, 0)], .fn 140 [(3, 0)]])), (1, some (.ro 21 [.int .i32 c])), (2, some (.ro 21 [.int .i32 d])), (3, some (.ro 21 [.int .i32 e]))] => .turns 3 4 (fun _ => .nil) .nil | _, _ => .nil) ?_
  intro args mem p r post hs hp
  unfold sp_spansC at hs
  simp only at hs
  split at hs
  · rename_i s c d e
    cases hs
    refine h s c d e ?_ ?_
    · exact hp.1
    · exact hp.2
  · cases hs
theorem ok_spans1 : FnA 116 sp_spans1 := of_spans1 (by
  intro s c hs hn
  rw [vc_spans1]
  have h1 := dropP_len (· == c) s
  exact ⟨by decide, hs, hn, by simp only [inR]; omega, by decide, by simp only [inR]; omega, rfl, rfl⟩)
theorem ok_spansA : FnA 116 sp_spansA := of_spansA (by
  intro s c hs hn
  rw [vc_spansA]
  have h1 := dropP_len (· == c) s
  have h2 := dropP_len isDig (dropP (· == c) s)
  exact ⟨by decide, hs, hn, by simp only [inR]; omega, by decide, by simp only [inR]; omega, by decide, dropP_asc hs, by omega, by simp only [inR]; omega, by decide, by simp only [inR]; omega, rfl, rfl⟩)
theorem ok_spansB : FnA 116 sp_spansB := of_spansB (by
  intro s c hs hn
  rw [vc_spansB]
  have h1 := dropP_len isDig s
  have h2 := dropP_len (· == c) (dropP isDig s)
  exact ⟨by decide, hs, hn, by simp only [inR]; omega, by decide, by simp only [inR]; omega, by decide, dropP_asc hs, by omega, by simp only [inR]; omega, by decide, by simp only [inR]; omega, rfl, rfl⟩)
theorem ok_spansC : FnA 116 sp_spansC := of_spansC (by
  intro s c d e hs hn
  rw [vc_spansC]
  have h1 := dropP_len (· == c) s
  have h2 := dropP_len (· == d) (dropP (· == c) s)
  have h3 := dropP_len (· == e) (dropP (· == d) (dropP (· == c) s))
  exact ⟨by decide, hs, hn, by simp only [inR]; omega, by decide, by simp only [inR]; omega, by decide, dropP_asc hs, by omega, by simp only [inR]; omega, by decide, by simp only [inR]; omega, by decide, dropP_asc (dropP_asc hs), by omega, by simp only [inR]; omega, (show (2 + 1) * 8 ≤ 140737488355328 from by decide), by simp only [inR]; omega, rfl, rfl⟩)
def ASpec.either (s t : ASpec) : ASpec := ⟨fun xs m => match s.spec xs m with | some x => some x | none => t.spec xs m⟩
theorem eitherA_ok {f : Nat} {s t : ASpec} (h : FnA f s) (k : FnA f t) : FnA f (s.either t) := by
  refine ⟨h.body, ?_⟩
  intro args mem p r post hs
  unfold ASpec.either at hs
  simp only at hs
  split at hs
  · rename_i x hx
    cases hs
    exact h.calls _ _ _ _ _ hx
  · exact k.calls _ _ _ _ _ hs
def sp_spansAB : ASpec := sp_spansA.either sp_spansB
theorem ok_spansAB : FnA 116 sp_spansAB := eitherA_ok ok_spansA ok_spansB
end Go.Proofs.YtglfkihckkjniaaGreatDoor.Vx
namespace Go.Proofs.YtglfkihckkjniaaGreatDoor.Vx
open Go Go.RowKit
def splitC (c : UInt8) : List UInt8 → List (List UInt8)
  | [] => [[]]
  | x :: l => if x = c then [] :: splitC c l else (x :: (splitC c l).headD []) :: (splitC c l).tail
theorem index_eq (c : UInt8) (l : List UInt8) : Lib.index (c :: l) [c] = 0 := by rw [Lib.index]; simp [List.isPrefixOf]
theorem index_ne {b c : UInt8} (h : b ≠ c) (l : List UInt8) : Lib.index (b :: l) [c] = if Lib.index l [c] == -1 then -1 else Lib.index l [c] + 1 := by
  have hp : ([c] : List UInt8).isPrefixOf (b :: l) = false := by simp [List.isPrefixOf, Ne.symm h]
  rw [Lib.index, hp]; simp
theorem splitK_eq (c : UInt8) (k : Nat) (l : List UInt8) : Lib.splitK [c] 0 (k + 1) (c :: l) = [] :: Lib.splitK [c] 0 k l := by
  rw [Lib.splitK, index_eq]
  simp
theorem splitK_ne {b c : UInt8} (h : b ≠ c) (k : Nat) (l : List UInt8) : Lib.splitK [c] 0 k (b :: l) = (b :: (Lib.splitK [c] 0 k l).headD []) :: (Lib.splitK [c] 0 k l).tail := by
  cases k with
  | zero => rfl
  | succ k =>
    have hge := Lib.index_ge l [c]
    rw [Lib.splitK, Lib.splitK, index_ne h]
    by_cases hm : Lib.index l [c] = -1
    · rw [hm]; simp
    · have e1 : (Lib.index l [c] == -1) = false := by simpa using hm
      have e2 : (Lib.index l [c] + 1 == -1) = false := by
        have : Lib.index l [c] + 1 ≠ -1 := by omega
        simpa using this
      rw [e1]
      simp only [Bool.false_eq_true, if_false, e2]
      obtain ⟨j, hj⟩ : ∃ j : Nat, Lib.index l [c] = j := ⟨(Lib.index l [c]).toNat, by omega⟩
      rw [hj, show ((j : Int) + 1).toNat = j + 1 by omega, show (j : Int).toNat = j by omega]
      simp
theorem splitK_C (c : UInt8) : ∀ l : List UInt8, Lib.splitK [c] 0 (l.count c) l = splitC c l := by
  intro l
  induction l with
  | nil => rfl
  | cons b l ih =>
    by_cases h : b = c
    · subst h
      rw [List.count_cons_self, splitK_eq, ih, splitC, if_pos rfl]
    · rw [List.count_cons_of_ne h, splitK_ne h, ih, splitC, if_neg h]
theorem splitC_ne (c : UInt8) (l : List UInt8) : splitC c l ≠ [] := by
  cases l with
  | nil => simp [splitC]
  | cons x l => unfold splitC; split <;> simp
theorem splitC_len (c : UInt8) (l : List UInt8) : (splitC c l).length = l.count c + 1 := by
  induction l with
  | nil => rfl
  | cons x l ih =>
    unfold splitC
    by_cases h : x = c
    · subst h; rw [if_pos rfl, List.length_cons, ih, List.count_cons_self]
    · rw [if_neg h, List.length_cons, List.length_tail, ih, List.count_cons_of_ne h]; omega
def cutC (c : UInt8) : List UInt8 → List UInt8 × List UInt8 × Bool
  | [] => ([], [], false)
  | x :: l => if x = c then ([], l, true) else (x :: (cutC c l).1, (cutC c l).2.1, (cutC c l).2.2)
theorem cut_C (c : UInt8) (l : List UInt8) : Lib.cut l [c] = cutC c l := by
  induction l with
  | nil => rfl
  | cons b l ih =>
    unfold Lib.cut cutC
    by_cases h : b = c
    · subst h; rw [index_eq, if_pos rfl]; simp
    · rw [index_ne h, if_neg h]
      have hge := Lib.index_ge l [c]
      unfold Lib.cut at ih
      by_cases hm : Lib.index l [c] = -1
      · rw [hm] at ih ⊢
        rw [← ih]; simp
      · have e1 : (Lib.index l [c] == -1) = false := by simpa using hm
        rw [if_pos (by omega)] at ih
        rw [← ih, e1]
        simp only [Bool.false_eq_true, if_false]
        obtain ⟨j, hj⟩ : ∃ j : Nat, Lib.index l [c] = j := ⟨(Lib.index l [c]).toNat, by omega⟩
        rw [hj, if_pos (by omega), show ((j : Int) + 1).toNat = j + 1 by omega, show (j : Int).toNat = j by omega]
        rfl
def sp_ssplit : FSpec := ⟨[], fun | [.one (.str s), .one (.str [c])] => some ([s.length ≤ 1000000000], .one (.rd (.strs (splitC c s)))) | _ => none⟩
theorem ok_ssplit : FnP 123 sp_ssplit := by
  refine ⟨body_of Tryz.f123 (by kernel_rfl) (by kernel_rfl) (by kernel_rfl), ?_⟩
  intro pvs p r hs hp w B args hg ha
  unfold sp_ssplit at hs
  simp only at hs
  split at hs
  · rename_i s q
    cases hs
    have hp : s.length ≤ 1000000000 := hp
    obtain ⟨v, u, rfl, hv, hu⟩ := args2 ha
    have hv : v = .string ⟨s.toArray⟩ := hv
    have hu : u = .string ⟨#[q]⟩ := hu
    subst hv; subst hu
    obtain ⟨m, hm⟩ := glob_max hg
    refine (Tryz.strings_Split ⟨s.toArray⟩ ⟨#[q]⟩ m w (by rw [bsize]; omega) hm (Nat.le_refl 1)).mono ?_
    rintro e w' ⟨rfl, rfl⟩
    have hc : Lib.countB ⟨s.toArray⟩ ⟨#[q]⟩ = s.count q := Lib.count_one q s
    have hd := Lib.splitB_data ⟨#[q]⟩ 0 (s.count q) ⟨s.toArray⟩
    have hd : (Lib.splitB ⟨#[q]⟩ 0 (s.count q) ⟨s.toArray⟩).map (·.data.toList) = splitC q s := by rw [hd]; exact splitK_C q s
    rw [hc]
    have hmap : (Lib.splitB ⟨#[q]⟩ 0 (s.count q) ⟨s.toArray⟩).map Value.string = (splitC q s).map fun t => Value.string ⟨t.toArray⟩ := by
      rw [← hd, List.map_map]
      rfl
    rw [hmap]
    have hlen := splitC_len q s
    have hcl := List.count_le_length (a := q) (l := s)
    refine ⟨_, rfl, Fr.alloc w _ _, ?_⟩
    have hfl : Ls.flat (.strs (splitC q s)) = (splitC q s).map fun t => Value.string ⟨t.toArray⟩ := by
      unfold Ls.flat
      simp only [Ls.rows]
      induction splitC q s with
      | nil => rfl
      | cons x l ih => rw [List.map_cons, List.flatten_cons, ih]; rfl
    refine ⟨some ⟨w.heap.size, 0, none⟩, s.count q + 1, by show Value.slice _ _ _ = Value.slice _ (splitC q s).length _; rw [hlen], by show (splitC q s).length ≤ _; omega, by show (splitC q s).length ≤ _; simp only [maxLen]; omega, fun _ => ⟨w.heap.size, 0, rfl, fun j hj => ?_, .inl (Nat.le_refl _)⟩⟩
    rw [hfl]
    have : (w.alloc (.cells ((splitC q s).map fun t => Value.string ⟨t.toArray⟩).toArray 9)).heap[w.heap.size]? = some (.cells ((splitC q s).map fun t => Value.string ⟨t.toArray⟩).toArray 9 (0, 0)) := by
      show (w.heap.push _)[w.heap.size]? = _
      rw [Array.getElem?_push_size]
    simp only [World.cell?, this, Nat.zero_add]
    simp
  · cases hs
theorem strs_flat (l : List (List UInt8)) : Ls.flat (.strs l) = l.map fun t => Value.string ⟨t.toArray⟩ := by
  unfold Ls.flat
  simp only [Ls.rows]
  induction l with
  | nil => rfl
  | cons x l ih => rw [List.map_cons, List.flatten_cons, ih]; rfl
theorem join_nilsep (l : List (List UInt8)) : Lib.join l [] = l.flatten := by
  induction l with
  | nil => rfl
  | cons x l ih =>
    rw [Lib.join_cons, List.flatten_cons]
    congr 1
    clear ih
    unfold Lib.joinTail
    congr 1
    induction l with
    | nil => rfl
    | cons y l ih => rw [List.map_cons, ih]; rfl
theorem cell_lt {w : World} {b o : Nat} {v : Value} (h : w.cell? ⟨b, o, none⟩ = some v) : b < w.heap.size := by
  rcases Nat.lt_or_ge b w.heap.size with h1 | h1
  · exact h1
  · have : w.heap[b]? = none := Array.getElem?_eq_none h1
    simp [World.cell?, this] at h
def sp_sjoin : FSpec := ⟨[], fun | [.one (.rd (.strs l)), .one (.str [])] => some ([l.length ≤ 1000000000 ∧ l.flatten.length ≤ 1000000000], .one (.str l.flatten)) | _ => none⟩
theorem ok_sjoin : FnP 125 sp_sjoin := by
  refine ⟨body_of Tryz.f125 (by kernel_rfl) (by kernel_rfl) (by kernel_rfl), ?_⟩
  intro pvs p r hs hp w B args hg ha
  unfold sp_sjoin at hs
  simp only at hs
  split at hs
  · rename_i l
    cases hs
    have hp : l.length ≤ 1000000000 ∧ l.flatten.length ≤ 1000000000 := hp
    obtain ⟨v, u, rfl, hv, hu⟩ := args2 ha
    have hu : u = .string ⟨#[]⟩ := hu
    subst hu
    obtain ⟨A, c, rfl, h1, h2, h3⟩ := hv
    have h1 : l.length ≤ c := h1
    by_cases h0 : l = []
    · subst h0
      refine (Tryz.strings_Join_none A c ⟨#[]⟩ w).mono ?_
      rintro e w' ⟨rfl, rfl⟩
      exact ⟨_, rfl, Fr.refl _ _, rfl⟩
    · have hpos : 0 < l.length := List.length_pos_iff.2 h0
      obtain ⟨b, o, rfl, h4, h5⟩ := h3 hpos
      rw [strs_flat] at h4
      have hm : (l.map fun t => (⟨t.toArray⟩ : ByteArray)).map (·.data.toList) = l := by rw [List.map_map]; exact List.map_id' l
      have hsz : (Ls.strs l).len * (Ls.strs l).sz = l.length := Nat.mul_one _
      have h4 : ∀ j, j < l.length → w.cell? ⟨b, o + j, none⟩ = (l.map fun t => Value.string ⟨t.toArray⟩)[j]? := fun j hj => h4 j (by rw [hsz]; exact hj)
      have hj : Lib.join ((l.map fun t => (⟨t.toArray⟩ : ByteArray)).map (·.data.toList)) (⟨#[]⟩ : ByteArray).data.toList = l.flatten := by rw [hm]; exact join_nilsep l
      have hc0 := h4 0 hpos
      rw [List.getElem?_map, List.getElem?_eq_getElem hpos] at hc0
      have hcall := Tryz.strings_Join b o c (l.map fun t => (⟨t.toArray⟩ : ByteArray)) ⟨#[]⟩ w (fun j x hx => by
        rw [List.getElem?_map, Option.map_eq_some_iff] at hx
        obtain ⟨y, hy, rfl⟩ := hx
        rw [h4 j (List.getElem?_eq_some_iff.1 hy).1, List.getElem?_map, hy]; rfl) (cell_lt hc0) (by rw [List.length_map]; omega) (by rw [List.length_map]; exact h1) (by rw [hj]; omega)
      rw [hj, List.length_map] at hcall
      refine hcall.mono ?_
      rintro e w' ⟨rfl, hb⟩
      exact ⟨_, rfl, Fr.below hb _, rfl⟩
  · cases hs
structure Num where
  mi : Int
  xi : Int
  mf : Int
  xf : Int
  ms : Int
  xs : Int
  pr : Int
  sc : Int
  inc : List UInt8
  ps : Bool
  me : Int
  px : Bool
def Num.sc' (p : Num) : List SC := [.nils, .nils, .ff, .nils, .nils, .int .i64 p.mi, .int .i64 p.xi, .int .i64 p.mf, .int .i64 p.xf, .int .i64 p.ms, .int .i64 p.xs, .int .i64 p.pr, .int .i64 p.sc, .str p.inc, .bool p.ps, .int .i64 p.me, .bool p.px, .int .i64 0, .int .i32 0, .int .i64 0]
def rdC (w f e : List UInt8) (pt sci : Bool) (p : Num) : List SC := .str w :: .str f :: .str e :: .bool pt :: .bool sci :: p.sc'
def expT (e : List UInt8) (sci : Bool) (p : Num) : Int × Num :=
  if sci = true then
    if dropP (· == 48) (Lib.trimPrefix e [43]) ≠ [] ∨ span1 (· == 48) (Lib.trimPrefix e [43]) = 0 then (4, p)
    else if 9 < span1 (· == 48) (Lib.trimPrefix e [43]) then (8, p)
    else (0, { p with ps := true, px := Lib.hasPrefix e [43], me := span1 (· == 48) (Lib.trimPrefix e [43]) })
  else (0, p)
def sp_rexp : ASpec := ⟨fun | [.one (.ptr 0 0)], [(0, some (.cells 139 [.str w, .str f, .str e, .bool pt, .bool sci, .nils, .nils, .ff, .nils, .nils, .int .i64 mi, .int .i64 xi, .int .i64 mf, .int .i64 xf, .int .i64 ms, .int .i64 xs, .int .i64 pr, .int .i64 sc, .str inc, .bool ps, .int .i64 me, .bool px, .int .i64 0, .int .i32 0, .int .i64 0]))] => some ([Asc e, e.length ≤ 1000000000], .one (.int .i64 (expT e sci (⟨mi, xi, mf, xf, ms, xs, pr, sc, inc, ps, me, px⟩ : Num)).1), [(0, some (.cells 139 (rdC w f e pt sci (expT e sci (⟨mi, xi, mf, xf, ms, xs, pr, sc, inc, ps, me, px⟩ : Num)).2)))]) | _, _ => none⟩
theorem vc_rexp (w f e : List UInt8) (pt sci : Bool) (mi xi mf xf ms xs pr sc : Int) (inc : List UInt8) (ps : Bool) (me : Int) (px : Bool) : vcA [(115, sp_scutp), (117, sp_one)] [(116, sp_spans1)] misc Tryz.f93 (.nil) [.one (.ptr 0 0)] [(0, some (.cells 139 [.str w, .str f, .str e, .bool pt, .bool sci, .nils, .nils, .ff, .nils, .nils, .int .i64 mi, .int .i64 xi, .int .i64 mf, .int .i64 xf, .int .i64 ms, .int .i64 xs, .int .i64 pr, .int .i64 sc, .str inc, .bool ps, .int .i64 me, .bool px, .int .i64 0, .int .i32 0, .int .i64 0]))] (.one (.int .i64 (expT e sci (⟨mi, xi, mf, xf, ms, xs, pr, sc, inc, ps, me, px⟩ : Num)).1)) [(0, some (.cells 139 (rdC w f e pt sci (expT e sci (⟨mi, xi, mf, xf, ms, xs, pr, sc, inc, ps, me, px⟩ : Num)).2)))] = (letI v0 := (expT e sci { mi := mi, xi := xi, mf := mf, xf := xf, ms := ms, xs := xs, pr := pr, sc := sc, inc := inc, ps := ps, me := me, px := px }); letI v1 := ((4 : Int) = v0.1 ∧ w = w ∧ f = f ∧ e = e ∧ pt = pt ∧ sci = sci ∧ mi = Num.mi v0.2 ∧ xi = Num.xi v0.2 ∧ mf = Num.mf v0.2 ∧ xf = Num.xf v0.2 ∧ ms = Num.ms v0.2 ∧ xs = Num.xs v0.2 ∧ pr = Num.pr v0.2 ∧ sc = Num.sc v0.2 ∧ inc = Num.inc v0.2 ∧ ps = Num.ps v0.2 ∧ me = Num.me v0.2 ∧ px = Num.px v0.2 ∧ (0 : Int) = (0 : Int) ∧ (0 : Int) = (0 : Int) ∧ (0 : Int) = (0 : Int)); letI v2 := (Lib.trimPrefix e (([(43 : UInt8)] : List UInt8))); letI v3 := ((0 : Int) ≤ (0 : Int) ∧ (0 : Int) < (↑(1 : Nat) : Int)); (br (!sci) ((0 : Int) = v0.1 ∧ w = w ∧ f = f ∧ e = e ∧ pt = pt ∧ sci = sci ∧ mi = Num.mi v0.2 ∧ xi = Num.xi v0.2 ∧ mf = Num.mf v0.2 ∧ xf = Num.xf v0.2 ∧ ms = Num.ms v0.2 ∧ xs = Num.xs v0.2 ∧ pr = Num.pr v0.2 ∧ sc = Num.sc v0.2 ∧ inc = Num.inc v0.2 ∧ ps = Num.ps v0.2 ∧ me = Num.me v0.2 ∧ px = Num.px v0.2 ∧ (0 : Int) = (0 : Int) ∧ (0 : Int) = (0 : Int) ∧ (0 : Int) = (0 : Int)) ((∀ (c : UInt8), c ∈ Lib.trimPrefix e (([(43 : UInt8)] : List UInt8)) → UInt8.toNat c < (128 : Nat)) ∧ List.length v2 ≤ (1000000000 : Nat) ∧ br (!decide (dropP (fun (x : Int) => x == (48 : Int)) v2 = [])) v1 (v3 ∧ Int.toNat (0 : Int) < (1 : Nat) ∧ br ((span1 (fun (x : Int) => x == (48 : Int)) v2) == (0 : Int)) v1 (v3 ∧ Int.toNat (0 : Int) < (1 : Nat) ∧ br (decide ((span1 (fun (x : Int) => x == (48 : Int)) v2) > (9 : Int))) ((8 : Int) = v0.1 ∧ w = w ∧ f = f ∧ e = e ∧ pt = pt ∧ sci = sci ∧ mi = Num.mi v0.2 ∧ xi = Num.xi v0.2 ∧ mf = Num.mf v0.2 ∧ xf = Num.xf v0.2 ∧ ms = Num.ms v0.2 ∧ xs = Num.xs v0.2 ∧ pr = Num.pr v0.2 ∧ sc = Num.sc v0.2 ∧ inc = Num.inc v0.2 ∧ ps = Num.ps v0.2 ∧ me = Num.me v0.2 ∧ px = Num.px v0.2 ∧ (0 : Int) = (0 : Int) ∧ (0 : Int) = (0 : Int) ∧ (0 : Int) = (0 : Int)) (v3 ∧ Int.toNat (0 : Int) < (1 : Nat) ∧ (0 : Int) = v0.1 ∧ w = w ∧ f = f ∧ e = e ∧ pt = pt ∧ sci = sci ∧ mi = Num.mi v0.2 ∧ xi = Num.xi v0.2 ∧ mf = Num.mf v0.2 ∧ xf = Num.xf v0.2 ∧ ms = Num.ms v0.2 ∧ xs = Num.xs v0.2 ∧ pr = Num.pr v0.2 ∧ sc = Num.sc v0.2 ∧ inc = Num.inc v0.2 ∧ true = Num.ps v0.2 ∧ (span1 (fun (x : Int) => x == (48 : Int)) v2) = Num.me v0.2 ∧ Lib.hasPrefix e (([(43 : UInt8)] : List UInt8)) = Num.px v0.2 ∧ (0 : Int) = (0 : Int) ∧ (0 : Int) = (0 : Int) ∧ (0 : Int) = (0 : Int))))))) := by kernel_rfl
set_option maxHeartbeats 4000000 in
theorem of_rexp (h : ∀ (w f e : List UInt8) (pt sci : Bool) (mi xi mf xf ms xs pr sc : Int) (inc : List UInt8) (ps : Bool) (me : Int) (px : Bool), (Asc e) → (e.length ≤ 1000000000) → vcA [(115, sp_scutp), (117, sp_one)] [(116, sp_spans1)] misc Tryz.f93 (.nil) [.one (.ptr 0 0)] [(0, some (.cells 139 [.str w, .str f, .str e, .bool pt, .bool sci, .nils, .nils, .ff, .nils, .nils, .int .i64 mi, .int .i64 xi, .int .i64 mf, .int .i64 xf, .int .i64 ms, .int .i64 xs, .int .i64 pr, .int .i64 sc, .str inc, .bool ps, .int .i64 me, .bool px, .int .i64 0, .int .i32 0, .int .i64 0]))] (.one (.int .i64 (expT e sci (⟨mi, xi, mf, xf, ms, xs, pr, sc, inc, ps, me, px⟩ : Num)).1)) [(0, some (.cells 139 (rdC w f e pt sci (expT e sci (⟨mi, xi, mf, xf, ms, xs, pr, sc, inc, ps, me, px⟩ : Num)).2)))]) : FnA 93 sp_rexp := by
  refine fnA_ok (cs := [(115, sp_scutp), (117, sp_one)]) (cas := [(116, sp_spans1)]) (ms := misc) (.cons ok_scutp (.cons ok_one .nil)) (.cons ok_spans1 .nil) misc_ok 93 Tryz.f93 (by kernel_rfl) (by kernel_rfl) (by kernel_rfl) (fun _ _ => .nil) ?_
  intro args mem p r post hs hp
  unfold sp_rexp at hs
  simp only at hs
  split at hs
  · rename_i w f e pt sci mi xi mf xf ms xs pr sc inc ps me px
    cases hs
    refine h w f e pt sci mi xi mf xf ms xs pr sc inc ps me px ?_ ?_
    · exact hp.1
    · exact hp.2
  · cases hs
theorem trimPrefix_asc {e p : List UInt8} (h : Asc e) : Asc (Lib.trimPrefix e p) := by
  unfold Lib.trimPrefix
  split
  · exact fun c hc => h c (List.mem_of_mem_drop hc)
  · exact h
theorem trimPrefix_len (e p : List UInt8) : (Lib.trimPrefix e p).length ≤ e.length := by
  unfold Lib.trimPrefix
  split
  · rw [List.length_drop]; omega
  · exact Nat.le_refl _
theorem ok_rexp : FnA 93 sp_rexp := of_rexp (by
  intro w f e pt sci mi xi mf xf ms xs pr sc inc ps me px he hn
  rw [vc_rexp]
  have hl := trimPrefix_len e [43]
  refine br_of (fun h => ?_) fun h => ⟨trimPrefix_asc he, by omega, br_of (fun h1 => ?_) fun h1 => ⟨by decide, by decide, br_of (fun h2 => ?_) fun h2 => ⟨by decide, by decide, br_of (fun h3 => ?_) fun h3 => ⟨by decide, by decide, ?_⟩⟩⟩⟩
  · have h : sci = false := by simpa using h
    have hE : expT e sci (⟨mi, xi, mf, xf, ms, xs, pr, sc, inc, ps, me, px⟩ : Num) = (0, (⟨mi, xi, mf, xf, ms, xs, pr, sc, inc, ps, me, px⟩ : Num)) := by unfold expT; rw [if_neg (by rw [h]; decide)]
    rw [hE]; and_intros <;> rfl
  · have h : sci = true := by simpa using h
    have h1 : dropP (· == 48) (Lib.trimPrefix e [43]) ≠ [] := by simpa using h1
    have hE : expT e sci (⟨mi, xi, mf, xf, ms, xs, pr, sc, inc, ps, me, px⟩ : Num) = (4, (⟨mi, xi, mf, xf, ms, xs, pr, sc, inc, ps, me, px⟩ : Num)) := by unfold expT; rw [if_pos h, if_pos (.inl h1)]
    rw [hE]; and_intros <;> rfl
  · have h : sci = true := by simpa using h
    have h2 : span1 (· == 48) (Lib.trimPrefix e [43]) = 0 := by simpa using h2
    have hE : expT e sci (⟨mi, xi, mf, xf, ms, xs, pr, sc, inc, ps, me, px⟩ : Num) = (4, (⟨mi, xi, mf, xf, ms, xs, pr, sc, inc, ps, me, px⟩ : Num)) := by unfold expT; rw [if_pos h, if_pos (.inr h2)]
    rw [hE]; and_intros <;> rfl
  · have h : sci = true := by simpa using h
    have h1 : dropP (· == 48) (Lib.trimPrefix e [43]) = [] := by simpa using h1
    have h2 : ¬ span1 (· == 48) (Lib.trimPrefix e [43]) = 0 := by simpa using h2
    have h3 : span1 (· == 48) (Lib.trimPrefix e [43]) > 9 := by simpa using h3
    have hE : expT e sci (⟨mi, xi, mf, xf, ms, xs, pr, sc, inc, ps, me, px⟩ : Num) = (8, (⟨mi, xi, mf, xf, ms, xs, pr, sc, inc, ps, me, px⟩ : Num)) := by unfold expT; rw [if_pos h, if_neg (fun h4 => h4.elim (fun h5 => h5 h1) h2), if_pos h3]
    rw [hE]; and_intros <;> rfl
  · have h : sci = true := by simpa using h
    have h1 : dropP (· == 48) (Lib.trimPrefix e [43]) = [] := by simpa using h1
    have h2 : ¬ span1 (· == 48) (Lib.trimPrefix e [43]) = 0 := by simpa using h2
    have h3 : ¬ 9 < span1 (· == 48) (Lib.trimPrefix e [43]) := by simpa using h3
    have hE : expT e sci (⟨mi, xi, mf, xf, ms, xs, pr, sc, inc, ps, me, px⟩ : Num) = (0, { (⟨mi, xi, mf, xf, ms, xs, pr, sc, inc, ps, me, px⟩ : Num) with ps := true, px := Lib.hasPrefix e [43], me := span1 (· == 48) (Lib.trimPrefix e [43]) }) := by unfold expT; rw [if_pos h, if_neg (fun h4 => h4.elim (fun h5 => h5 h1) h2), if_neg h3]
    rw [hE]; and_intros <;> rfl)
def partsT (s w f : List UInt8) (pt : Bool) : Int × List UInt8 × List UInt8 × Bool :=
  if anyP isOdd s = true ∨ 1 < Lib.countByte s 46 then (4, w, f, pt)
  else if (Lib.cut s [46]).2.2 = true ∧ (Lib.cut s [46]).2.1 = [] then (4, Lib.cut s [46]) else (0, Lib.cut s [46])
def sp_rparts : ASpec := ⟨fun | [.one (.ptr 0 0), .one (.str s)], [(0, some (.cells 139 [.str w, .str f, .str e, .bool pt, .bool sci, .nils, .nils, .ff, .nils, .nils, .int .i64 mi, .int .i64 xi, .int .i64 mf, .int .i64 xf, .int .i64 ms, .int .i64 xs, .int .i64 pr, .int .i64 sc, .str inc, .bool ps, .int .i64 me, .bool px, .int .i64 0, .int .i32 0, .int .i64 0]))] => some ([Asc s, s.length ≤ 1000000000], .one (.int .i64 (partsT s w f pt).1), [(0, some (.cells 139 (rdC (partsT s w f pt).2.1 (partsT s w f pt).2.2.1 e (partsT s w f pt).2.2.2 sci (⟨mi, xi, mf, xf, ms, xs, pr, sc, inc, ps, me, px⟩ : Num))))]) | _, _ => none⟩
theorem vc_rparts (w f e : List UInt8) (pt sci : Bool) (mi xi mf xf ms xs pr sc : Int) (inc : List UInt8) (ps : Bool) (me : Int) (px : Bool) (s : List UInt8) : vcA [(121, sp_scfO), (122, sp_scount), (92, sp_scut)] [] misc Tryz.f94 (.nil) [.one (.ptr 0 0), .one (.str s)] [(0, some (.cells 139 [.str w, .str f, .str e, .bool pt, .bool sci, .nils, .nils, .ff, .nils, .nils, .int .i64 mi, .int .i64 xi, .int .i64 mf, .int .i64 xf, .int .i64 ms, .int .i64 xs, .int .i64 pr, .int .i64 sc, .str inc, .bool ps, .int .i64 me, .bool px, .int .i64 0, .int .i32 0, .int .i64 0]))] (.one (.int .i64 (partsT s w f pt).1)) [(0, some (.cells 139 (rdC (partsT s w f pt).2.1 (partsT s w f pt).2.2.1 e (partsT s w f pt).2.2.2 sci (⟨mi, xi, mf, xf, ms, xs, pr, sc, inc, ps, me, px⟩ : Num))))] = (letI v0 := ((0 : Int) = (partsT s w f pt).1 ∧ (Lib.cut s (([(46 : UInt8)] : List UInt8))).1 = (partsT s w f pt).2.1 ∧ (Lib.cut s (([(46 : UInt8)] : List UInt8))).2.1 = (partsT s w f pt).2.2.1 ∧ e = e ∧ (Lib.cut s (([(46 : UInt8)] : List UInt8))).2.2 = (partsT s w f pt).2.2.2 ∧ sci = sci ∧ mi = Num.mi { mi := mi, xi := xi, mf := mf, xf := xf, ms := ms, xs := xs, pr := pr, sc := sc, inc := inc, ps := ps, me := me, px := px } ∧ xi = Num.xi { mi := mi, xi := xi, mf := mf, xf := xf, ms := ms, xs := xs, pr := pr, sc := sc, inc := inc, ps := ps, me := me, px := px } ∧ mf = Num.mf { mi := mi, xi := xi, mf := mf, xf := xf, ms := ms, xs := xs, pr := pr, sc := sc, inc := inc, ps := ps, me := me, px := px } ∧ xf = Num.xf { mi := mi, xi := xi, mf := mf, xf := xf, ms := ms, xs := xs, pr := pr, sc := sc, inc := inc, ps := ps, me := me, px := px } ∧ ms = Num.ms { mi := mi, xi := xi, mf := mf, xf := xf, ms := ms, xs := xs, pr := pr, sc := sc, inc := inc, ps := ps, me := me, px := px } ∧ xs = Num.xs { mi := mi, xi := xi, mf := mf, xf := xf, ms := ms, xs := xs, pr := pr, sc := sc, inc := inc, ps := ps, me := me, px := px } ∧ pr = Num.pr { mi := mi, xi := xi, mf := mf, xf := xf, ms := ms, xs := xs, pr := pr, sc := sc, inc := inc, ps := ps, me := me, px := px } ∧ sc = Num.sc { mi := mi, xi := xi, mf := mf, xf := xf, ms := ms, xs := xs, pr := pr, sc := sc, inc := inc, ps := ps, me := me, px := px } ∧ inc = Num.inc { mi := mi, xi := xi, mf := mf, xf := xf, ms := ms, xs := xs, pr := pr, sc := sc, inc := inc, ps := ps, me := me, px := px } ∧ ps = Num.ps { mi := mi, xi := xi, mf := mf, xf := xf, ms := ms, xs := xs, pr := pr, sc := sc, inc := inc, ps := ps, me := me, px := px } ∧ me = Num.me { mi := mi, xi := xi, mf := mf, xf := xf, ms := ms, xs := xs, pr := pr, sc := sc, inc := inc, ps := ps, me := me, px := px } ∧ px = Num.px { mi := mi, xi := xi, mf := mf, xf := xf, ms := ms, xs := xs, pr := pr, sc := sc, inc := inc, ps := ps, me := me, px := px } ∧ (0 : Int) = (0 : Int) ∧ (0 : Int) = (0 : Int) ∧ (0 : Int) = (0 : Int)); letI v1 := ((4 : Int) = (partsT s w f pt).1 ∧ w = (partsT s w f pt).2.1 ∧ f = (partsT s w f pt).2.2.1 ∧ e = e ∧ pt = (partsT s w f pt).2.2.2 ∧ sci = sci ∧ mi = Num.mi { mi := mi, xi := xi, mf := mf, xf := xf, ms := ms, xs := xs, pr := pr, sc := sc, inc := inc, ps := ps, me := me, px := px } ∧ xi = Num.xi { mi := mi, xi := xi, mf := mf, xf := xf, ms := ms, xs := xs, pr := pr, sc := sc, inc := inc, ps := ps, me := me, px := px } ∧ mf = Num.mf { mi := mi, xi := xi, mf := mf, xf := xf, ms := ms, xs := xs, pr := pr, sc := sc, inc := inc, ps := ps, me := me, px := px } ∧ xf = Num.xf { mi := mi, xi := xi, mf := mf, xf := xf, ms := ms, xs := xs, pr := pr, sc := sc, inc := inc, ps := ps, me := me, px := px } ∧ ms = Num.ms { mi := mi, xi := xi, mf := mf, xf := xf, ms := ms, xs := xs, pr := pr, sc := sc, inc := inc, ps := ps, me := me, px := px } ∧ xs = Num.xs { mi := mi, xi := xi, mf := mf, xf := xf, ms := ms, xs := xs, pr := pr, sc := sc, inc := inc, ps := ps, me := me, px := px } ∧ pr = Num.pr { mi := mi, xi := xi, mf := mf, xf := xf, ms := ms, xs := xs, pr := pr, sc := sc, inc := inc, ps := ps, me := me, px := px } ∧ sc = Num.sc { mi := mi, xi := xi, mf := mf, xf := xf, ms := ms, xs := xs, pr := pr, sc := sc, inc := inc, ps := ps, me := me, px := px } ∧ inc = Num.inc { mi := mi, xi := xi, mf := mf, xf := xf, ms := ms, xs := xs, pr := pr, sc := sc, inc := inc, ps := ps, me := me, px := px } ∧ ps = Num.ps { mi := mi, xi := xi, mf := mf, xf := xf, ms := ms, xs := xs, pr := pr, sc := sc, inc := inc, ps := ps, me := me, px := px } ∧ me = Num.me { mi := mi, xi := xi, mf := mf, xf := xf, ms := ms, xs := xs, pr := pr, sc := sc, inc := inc, ps := ps, me := me, px := px } ∧ px = Num.px { mi := mi, xi := xi, mf := mf, xf := xf, ms := ms, xs := xs, pr := pr, sc := sc, inc := inc, ps := ps, me := me, px := px } ∧ (0 : Int) = (0 : Int) ∧ (0 : Int) = (0 : Int) ∧ (0 : Int) = (0 : Int)); letI v2 := (Lib.cut s (([(46 : UInt8)] : List UInt8))); ((∀ (c : UInt8), c ∈ s → UInt8.toNat c < (128 : Nat)) ∧ List.length s ≤ (1000000000 : Nat) ∧ br (anyP isOdd s) v1 (br (decide ((↑(Lib.countByte s (46 : UInt8)) : Int) > (1 : Int))) v1 (List.length s ≤ (1000000000 : Nat) ∧ br v2.2.2 (br (decide (v2.2.1 = ([] : List UInt8))) ((4 : Int) = (partsT s w f pt).1 ∧ v2.1 = (partsT s w f pt).2.1 ∧ v2.2.1 = (partsT s w f pt).2.2.1 ∧ e = e ∧ v2.2.2 = (partsT s w f pt).2.2.2 ∧ sci = sci ∧ mi = Num.mi { mi := mi, xi := xi, mf := mf, xf := xf, ms := ms, xs := xs, pr := pr, sc := sc, inc := inc, ps := ps, me := me, px := px } ∧ xi = Num.xi { mi := mi, xi := xi, mf := mf, xf := xf, ms := ms, xs := xs, pr := pr, sc := sc, inc := inc, ps := ps, me := me, px := px } ∧ mf = Num.mf { mi := mi, xi := xi, mf := mf, xf := xf, ms := ms, xs := xs, pr := pr, sc := sc, inc := inc, ps := ps, me := me, px := px } ∧ xf = Num.xf { mi := mi, xi := xi, mf := mf, xf := xf, ms := ms, xs := xs, pr := pr, sc := sc, inc := inc, ps := ps, me := me, px := px } ∧ ms = Num.ms { mi := mi, xi := xi, mf := mf, xf := xf, ms := ms, xs := xs, pr := pr, sc := sc, inc := inc, ps := ps, me := me, px := px } ∧ xs = Num.xs { mi := mi, xi := xi, mf := mf, xf := xf, ms := ms, xs := xs, pr := pr, sc := sc, inc := inc, ps := ps, me := me, px := px } ∧ pr = Num.pr { mi := mi, xi := xi, mf := mf, xf := xf, ms := ms, xs := xs, pr := pr, sc := sc, inc := inc, ps := ps, me := me, px := px } ∧ sc = Num.sc { mi := mi, xi := xi, mf := mf, xf := xf, ms := ms, xs := xs, pr := pr, sc := sc, inc := inc, ps := ps, me := me, px := px } ∧ inc = Num.inc { mi := mi, xi := xi, mf := mf, xf := xf, ms := ms, xs := xs, pr := pr, sc := sc, inc := inc, ps := ps, me := me, px := px } ∧ ps = Num.ps { mi := mi, xi := xi, mf := mf, xf := xf, ms := ms, xs := xs, pr := pr, sc := sc, inc := inc, ps := ps, me := me, px := px } ∧ me = Num.me { mi := mi, xi := xi, mf := mf, xf := xf, ms := ms, xs := xs, pr := pr, sc := sc, inc := inc, ps := ps, me := me, px := px } ∧ px = Num.px { mi := mi, xi := xi, mf := mf, xf := xf, ms := ms, xs := xs, pr := pr, sc := sc, inc := inc, ps := ps, me := me, px := px } ∧ (0 : Int) = (0 : Int) ∧ (0 : Int) = (0 : Int) ∧ (0 : Int) = (0 : Int)) v0) v0)))) := by kernel_rfl
set_option maxHeartbeats 4000000 in
theorem of_rparts (h : ∀ (w f e : List UInt8) (pt sci : Bool) (mi xi mf xf ms xs pr sc : Int) (inc : List UInt8) (ps : Bool) (me : Int) (px : Bool) (s : List UInt8), (Asc s) → (s.length ≤ 1000000000) → vcA [(121, sp_scfO), (122, sp_scount), (92, sp_scut)] [] misc Tryz.f94 (.nil) [.one (.ptr 0 0), .one (.str s)] [(0, some (.cells 139 [.str w, .str f, .str e, .bool pt, .bool sci, .nils, .nils, .ff, .nils, .nils, .int .i64 mi, .int .i64 xi, .int .i64 mf, .int .i64 xf, .int .i64 ms, .int .i64 xs, .int .i64 pr, .int .i64 sc, .str inc, .bool ps, .int .i64 me, .bool px, .int .i64 0, .int .i32 0, .int .i64 0]))] (.one (.int .i64 (partsT s w f pt).1)) [(0, some (.cells 139 (rdC (partsT s w f pt).2.1 (partsT s w f pt).2.2.1 e (partsT s w f pt).2.2.2 sci (⟨mi, xi, mf, xf, ms, xs, pr, sc, inc, ps, me, px⟩ : Num))))]) : FnA 94 sp_rparts := by
  refine fnA_ok (cs := [(121, sp_scfO), (122, sp_scount), (92, sp_scut)]) (cas := []) (ms := misc) (.cons ok_scfO (.cons ok_scount (.cons ok_scut .nil))) .nil misc_ok 94 Tryz.f94 (by kernel_rfl) (by kernel_rfl) (by kernel_rfl) (fun _ _ => .nil) ?_
  intro args mem p r post hs hp
  unfold sp_rparts at hs
  simp only at hs
  split at hs
  · rename_i s w f e pt sci mi xi mf xf ms xs pr sc inc ps me px
    cases hs
    refine h w f e pt sci mi xi mf xf ms xs pr sc inc ps me px s ?_ ?_
    · exact hp.1
    · exact hp.2
  · cases hs
theorem ok_rparts : FnA 94 sp_rparts := of_rparts (by
  intro w f e pt sci mi xi mf xf ms xs pr sc inc ps me px s hs hn
  rw [vc_rparts]
  refine ⟨hs, hn, br_of (fun h => ?_) fun h => br_of (fun h1 => ?_) fun h1 => ⟨hn, br_of (fun h2 => br_of (fun h3 => ?_) fun h3 => ?_) fun h2 => ?_⟩⟩
  · have hE : partsT s w f pt = (4, w, f, pt) := by unfold partsT; rw [if_pos (.inl h)]
    rw [hE]; and_intros <;> rfl
  · have h1 : 1 < Lib.countByte s 46 := by have := of_decide_eq_true h1; omega
    have hE : partsT s w f pt = (4, w, f, pt) := by unfold partsT; rw [if_pos (.inr h1)]
    rw [hE]; and_intros <;> rfl
  · have h1 : ¬ 1 < Lib.countByte s 46 := by have := of_decide_eq_false h1; omega
    have hE : partsT s w f pt = (4, Lib.cut s [46]) := by unfold partsT; rw [if_neg (fun h4 => h4.elim (fun h5 => by rw [h] at h5; cases h5) h1), if_pos ⟨h2, of_decide_eq_true h3⟩]
    rw [hE]; and_intros <;> rfl
  · have h1 : ¬ 1 < Lib.countByte s 46 := by have := of_decide_eq_false h1; omega
    have hE : partsT s w f pt = (0, Lib.cut s [46]) := by unfold partsT; rw [if_neg (fun h4 => h4.elim (fun h5 => by rw [h] at h5; cases h5) h1), if_neg (fun h4 => of_decide_eq_false h3 h4.2)]
    rw [hE]; and_intros <;> rfl
  · have h1 : ¬ 1 < Lib.countByte s 46 := by have := of_decide_eq_false h1; omega
    have hE : partsT s w f pt = (0, Lib.cut s [46]) := by unfold partsT; rw [if_neg (fun h4 => h4.elim (fun h5 => by rw [h] at h5; cases h5) h1), if_neg (fun h4 => by have := h4.1; rw [h2] at this; cases this)]
    rw [hE]; and_intros <;> rfl)
def emptyIn (l : List (List UInt8)) : Bool := decide (1 < l.length) && l.any fun t => decide (t = [])
def groupsT (w f : List UInt8) (p : Num) : Int × List UInt8 × Num :=
  if emptyIn (splitC 44 w) = true then (5, w, p)
  else if 0 ≤ Lib.indexByte f 44 then (5, w, p)
  else (0, (splitC 44 w).flatten, if 1 < (splitC 44 w).length then { p with pr := ((splitC 44 w).getD ((splitC 44 w).length - 1) []).length, sc := if 2 < (splitC 44 w).length then ((splitC 44 w).getD ((splitC 44 w).length - 2) []).length else ((splitC 44 w).getD ((splitC 44 w).length - 1) []).length } else p)
def GE (w : List UInt8) : Type := {i : Nat // i ≤ (splitC 44 w).length ∧ (1 < (splitC 44 w).length → ∀ t ∈ (splitC 44 w).take i, t ≠ [])}
def GE.next {w : List UInt8} (x : GE w) (h : x.1 < (splitC 44 w).length) (hx : 1 < (splitC 44 w).length → (splitC 44 w).getD x.1 [] ≠ []) : GE w := ⟨x.1 + 1, h, fun h1 t ht => by
  rw [take_next _ [] h] at ht
  rcases List.mem_append.1 ht with ht | ht
  · exact x.2.2 h1 t ht
  · rw [List.mem_singleton] at ht; rw [ht]; exact hx h1⟩
def sp_rgroups : ASpec := ⟨fun | [.one (.ptr 0 0)], [(0, some (.cells 139 [.str w, .str f, .str e, .bool pt, .bool sci, .nils, .nils, .ff, .nils, .nils, .int .i64 mi, .int .i64 xi, .int .i64 mf, .int .i64 xf, .int .i64 ms, .int .i64 xs, .int .i64 pr, .int .i64 sc, .str inc, .bool ps, .int .i64 me, .bool px, .int .i64 0, .int .i32 0, .int .i64 0]))] => some ([w.length ≤ 100000000], .one (.int .i64 (groupsT w f (⟨mi, xi, mf, xf, ms, xs, pr, sc, inc, ps, me, px⟩ : Num)).1), [(0, some (.cells 139 (rdC (groupsT w f (⟨mi, xi, mf, xf, ms, xs, pr, sc, inc, ps, me, px⟩ : Num)).2.1 f e pt sci (groupsT w f (⟨mi, xi, mf, xf, ms, xs, pr, sc, inc, ps, me, px⟩ : Num)).2.2)))]) | _, _ => none⟩
theorem vc_rgroups (w f e : List UInt8) (pt sci : Bool) (mi xi mf xf ms xs pr sc : Int) (inc : List UInt8) (ps : Bool) (me : Int) (px : Bool) : vcA [(123, sp_ssplit), (124, sp_scont), (125, sp_sjoin)] [] misc Tryz.f95 (.loop 3 (GE w) (fun x => ⟨[(0, .one (.ptr 0 0)), (3, .one (.slc 17)), (12, .one (.slc 17)), (13, .one (.int .i64 (splitC 44 w).length)), (14, .one (.int .i64 x.1))], [(0, some (.cells 139 [.str w, .str f, .str e, .bool pt, .bool sci, .nils, .nils, .ff, .nils, .nils, .int .i64 mi, .int .i64 xi, .int .i64 mf, .int .i64 xf, .int .i64 ms, .int .i64 xs, .int .i64 pr, .int .i64 sc, .str inc, .bool ps, .int .i64 me, .bool px, .int .i64 0, .int .i32 0, .int .i64 0])), (17, some (.read (.strs (splitC 44 w))))], 18⟩) (fun x => (splitC 44 w).length - x.1) (fun _ => .nil) .nil) [.one (.ptr 0 0)] [(0, some (.cells 139 [.str w, .str f, .str e, .bool pt, .bool sci, .nils, .nils, .ff, .nils, .nils, .int .i64 mi, .int .i64 xi, .int .i64 mf, .int .i64 xf, .int .i64 ms, .int .i64 xs, .int .i64 pr, .int .i64 sc, .str inc, .bool ps, .int .i64 me, .bool px, .int .i64 0, .int .i32 0, .int .i64 0]))] (.one (.int .i64 (groupsT w f (⟨mi, xi, mf, xf, ms, xs, pr, sc, inc, ps, me, px⟩ : Num)).1)) [(0, some (.cells 139 (rdC (groupsT w f (⟨mi, xi, mf, xf, ms, xs, pr, sc, inc, ps, me, px⟩ : Num)).2.1 f e pt sci (groupsT w f (⟨mi, xi, mf, xf, ms, xs, pr, sc, inc, ps, me, px⟩ : Num)).2.2)))] = (letI v0 := (groupsT w f { mi := mi, xi := xi, mf := mf, xf := xf, ms := ms, xs := xs, pr := pr, sc := sc, inc := inc, ps := ps, me := me, px := px }); letI v1 := (↑(List.length (splitC (44 : UInt8) w)) : Int); letI v2 := (w = w ∧ f = f ∧ e = e ∧ pt = pt ∧ sci = sci ∧ mi = mi ∧ xi = xi ∧ mf = mf ∧ xf = xf ∧ ms = ms ∧ xs = xs ∧ pr = pr ∧ sc = sc ∧ inc = inc ∧ ps = ps ∧ me = me ∧ px = px ∧ (0 : Int) = (0 : Int) ∧ (0 : Int) = (0 : Int) ∧ (0 : Int) = (0 : Int)); letI v3 := ((5 : Int) = v0.1 ∧ w = v0.2.1 ∧ f = f ∧ e = e ∧ pt = pt ∧ sci = sci ∧ mi = Num.mi v0.2.2 ∧ xi = Num.xi v0.2.2 ∧ mf = Num.mf v0.2.2 ∧ xf = Num.xf v0.2.2 ∧ ms = Num.ms v0.2.2 ∧ xs = Num.xs v0.2.2 ∧ pr = Num.pr v0.2.2 ∧ sc = Num.sc v0.2.2 ∧ inc = Num.inc v0.2.2 ∧ ps = Num.ps v0.2.2 ∧ me = Num.me v0.2.2 ∧ px = Num.px v0.2.2 ∧ (0 : Int) = (0 : Int) ∧ (0 : Int) = (0 : Int) ∧ (0 : Int) = (0 : Int)); letI v4 := (List.length (splitC (44 : UInt8) w) ≤ (1000000000 : Nat) ∧ List.length (List.flatten (splitC (44 : UInt8) w)) ≤ (1000000000 : Nat)); letI v5 := (↑(List.length (List.getD (splitC (44 : UInt8) w) (Int.toNat (v1 - (1 : Int))) [])) : Int); (List.length w ≤ (1000000000 : Nat) ∧ (∃ (x : GE w), v1 = v1 ∧ (0 : Int) = (↑(Subtype.val x) : Int) ∧ v2 ∧ splitC (44 : UInt8) w = splitC (44 : UInt8) w) ∧ ∀ (x : GE w), br (decide ((↑(Subtype.val x) : Int) < v1)) (((0 : Int) ≤ (↑(Subtype.val x) : Int) ∧ (↑(Subtype.val x) : Int) < v1) ∧ Int.toNat (↑(Subtype.val x) : Int) < List.length (splitC (44 : UInt8) w) ∧ br (decide (List.getD (splitC (44 : UInt8) w) (Int.toNat (↑(Subtype.val x) : Int)) [] = ([] : List UInt8))) (br (decide (v1 > (1 : Int))) v3 (inR IntKind.i64 ((↑(Subtype.val x) : Int) + (1 : Int)) ∧ ∃ (x' : GE w), (v1 = v1 ∧ (↑(Subtype.val x) : Int) + (1 : Int) = (↑(Subtype.val x') : Int) ∧ v2 ∧ splitC (44 : UInt8) w = splitC (44 : UInt8) w) ∧ List.length (splitC (44 : UInt8) w) - Subtype.val x' < List.length (splitC (44 : UInt8) w) - Subtype.val x)) (inR IntKind.i64 ((↑(Subtype.val x) : Int) + (1 : Int)) ∧ ∃ (x' : GE w), (v1 = v1 ∧ (↑(Subtype.val x) : Int) + (1 : Int) = (↑(Subtype.val x') : Int) ∧ v2 ∧ splitC (44 : UInt8) w = splitC (44 : UInt8) w) ∧ List.length (splitC (44 : UInt8) w) - Subtype.val x' < List.length (splitC (44 : UInt8) w) - Subtype.val x)) (br (decide ((0 : Int) ≤ Lib.indexByte f (44 : UInt8))) v3 (br (decide (v1 > (1 : Int))) (inR IntKind.i64 (v1 - (1 : Int)) ∧ ((0 : Int) ≤ v1 - (1 : Int) ∧ v1 - (1 : Int) < v1) ∧ Int.toNat (v1 - (1 : Int)) < List.length (splitC (44 : UInt8) w) ∧ br (decide (v1 > (2 : Int))) (inR IntKind.i64 (v1 - (2 : Int)) ∧ ((0 : Int) ≤ v1 - (2 : Int) ∧ v1 - (2 : Int) < v1) ∧ Int.toNat (v1 - (2 : Int)) < List.length (splitC (44 : UInt8) w) ∧ v4 ∧ (0 : Int) = v0.1 ∧ List.flatten (splitC (44 : UInt8) w) = v0.2.1 ∧ f = f ∧ e = e ∧ pt = pt ∧ sci = sci ∧ mi = Num.mi v0.2.2 ∧ xi = Num.xi v0.2.2 ∧ mf = Num.mf v0.2.2 ∧ xf = Num.xf v0.2.2 ∧ ms = Num.ms v0.2.2 ∧ xs = Num.xs v0.2.2 ∧ v5 = Num.pr v0.2.2 ∧ (↑(List.length (List.getD (splitC (44 : UInt8) w) (Int.toNat (v1 - (2 : Int))) [])) : Int) = Num.sc v0.2.2 ∧ inc = Num.inc v0.2.2 ∧ ps = Num.ps v0.2.2 ∧ me = Num.me v0.2.2 ∧ px = Num.px v0.2.2 ∧ (0 : Int) = (0 : Int) ∧ (0 : Int) = (0 : Int) ∧ (0 : Int) = (0 : Int)) (v4 ∧ (0 : Int) = v0.1 ∧ List.flatten (splitC (44 : UInt8) w) = v0.2.1 ∧ f = f ∧ e = e ∧ pt = pt ∧ sci = sci ∧ mi = Num.mi v0.2.2 ∧ xi = Num.xi v0.2.2 ∧ mf = Num.mf v0.2.2 ∧ xf = Num.xf v0.2.2 ∧ ms = Num.ms v0.2.2 ∧ xs = Num.xs v0.2.2 ∧ v5 = Num.pr v0.2.2 ∧ v5 = Num.sc v0.2.2 ∧ inc = Num.inc v0.2.2 ∧ ps = Num.ps v0.2.2 ∧ me = Num.me v0.2.2 ∧ px = Num.px v0.2.2 ∧ (0 : Int) = (0 : Int) ∧ (0 : Int) = (0 : Int) ∧ (0 : Int) = (0 : Int))) (v4 ∧ (0 : Int) = v0.1 ∧ List.flatten (splitC (44 : UInt8) w) = v0.2.1 ∧ f = f ∧ e = e ∧ pt = pt ∧ sci = sci ∧ mi = Num.mi v0.2.2 ∧ xi = Num.xi v0.2.2 ∧ mf = Num.mf v0.2.2 ∧ xf = Num.xf v0.2.2 ∧ ms = Num.ms v0.2.2 ∧ xs = Num.xs v0.2.2 ∧ pr = Num.pr v0.2.2 ∧ sc = Num.sc v0.2.2 ∧ inc = Num.inc v0.2.2 ∧ ps = Num.ps v0.2.2 ∧ me = Num.me v0.2.2 ∧ px = Num.px v0.2.2 ∧ (0 : Int) = (0 : Int) ∧ (0 : Int) = (0 : Int) ∧ (0 : Int) = (0 : Int)))))) := by kernel_rfl
set_option maxHeartbeats 4000000 in
theorem of_rgroups (h : ∀ (w f e : List UInt8) (pt sci : Bool) (mi xi mf xf ms xs pr sc : Int) (inc : List UInt8) (ps : Bool) (me : Int) (px : Bool), (w.length ≤ 100000000) → vcA [(123, sp_ssplit), (124, sp_scont), (125, sp_sjoin)] [] misc Tryz.f95 (.loop 3 (GE w) (fun x => ⟨[(0, .one (.ptr 0 0)), (3, .one (.slc 17)), (12, .one (.slc 17)), (13, .one (.int .i64 (splitC 44 w).length)), (14, .one (.int .i64 x.1))], [(0, some (.cells 139 [.str w, .str f, .str e, .bool pt, .bool sci, .nils, .nils, .ff, .nils, .nils, .int .i64 mi, .int .i64 xi, .int .i64 mf, .int .i64 xf, .int .i64 ms, .int .i64 xs, .int .i64 pr, .int .i64 sc, .str inc, .bool ps, .int .i64 me, .bool px, .int .i64 0, .int .i32 0, .int .i64 0])), (17, some (.read (.strs (splitC 44 w))))], 18⟩) (fun x => (splitC 44 w).length - x.1) (fun _ => .nil) .nil) [.one (.ptr 0 0)] [(0, some (.cells 139 [.str w, .str f, .str e, .bool pt, .bool sci, .nils, .nils, .ff, .nils, .nils, .int .i64 mi, .int .i64 xi, .int .i64 mf, .int .i64 xf, .int .i64 ms, .int .i64 xs, .int .i64 pr, .int .i64 sc, .str inc, .bool ps, .int .i64 me, .bool px, .int .i64 0, .int .i32 0, .int .i64 0]))] (.one (.int .i64 (groupsT w f (⟨mi, xi, mf, xf, ms, xs, pr, sc, inc, ps, me, px⟩ : Num)).1)) [(0, some (.cells 139 (rdC (groupsT w f (⟨mi, xi, mf, xf, ms, xs, pr, sc, inc, ps, me, px⟩ : Num)).2.1 f e pt sci (groupsT w f (⟨mi, xi, mf, xf, ms, xs, pr, sc, inc, ps, me, px⟩ : Num)).2.2)))]) : FnA 95 sp_rgroups := by
  refine fnA_ok (cs := [(123, sp_ssplit), (124, sp_scont), (125, sp_sjoin)]) (cas := []) (ms := misc) (.cons ok_ssplit (.cons ok_scont (.cons ok_sjoin .nil))) .nil misc_ok 95 Tryz.f95 (by kernel_rfl) (by kernel_rfl) (by kernel_rfl) (fun | [.one (.ptr 0 0)], [(0, some (.cells 139 [.str w, .str f, .str e, .bool pt, .bool sci, .nils, .nils, .ff, .nils, .nils, .int .i64 mi, .int .i64 xi, .int .i64 mf, .int .i64 xf, .int .i64 ms, .int .i64 xs, .int .i64 pr, .int .i64 sc, .str inc, .bool ps, .int .i64 me, .bool px, .int .i64 0, .int .i32 0, .int .i64 0]))] => .loop 3 (GE w) (fun x => ⟨[(0, .one (.ptr 0 0)), (3, .one (.slc 17)), (12, .one (.slc 17)), (13, .one (.int .i64 (splitC 44 w).length)), (14, .one (.int .i64 x.1))], [(0, some (.cells 139 [.str w, .str f, .str e, .bool pt, .bool sci, .nils, .nils, .ff, .nils, .nils, .int .i64 mi, .int .i64 xi, .int .i64 mf, .int .i64 xf, .int .i64 ms, .int .i64 xs, .int .i64 pr, .int .i64 sc, .str inc, .bool ps, .int .i64 me, .bool px, .int .i64 0, .int .i32 0, .int .i64 0])), (17, some (.read (.strs (splitC 44 w))))], 18⟩) (fun x => (splitC 44 w).length - x.1) (fun _ => .nil) .nil | _, _ => .nil) ?_
  intro args mem p r post hs hp
  unfold sp_rgroups at hs
  simp only at hs
  split at hs
  · rename_i w f e pt sci mi xi mf xf ms xs pr sc inc ps me px
    cases hs
    refine h w f e pt sci mi xi mf xf ms xs pr sc inc ps me px ?_
    · exact hp
  · cases hs
theorem splitC_flat (c : UInt8) (l : List UInt8) : (splitC c l).flatten.length ≤ l.length := by
  induction l with
  | nil => simp [splitC]
  | cons x l ih =>
    unfold splitC
    split
    · simp; simp at ih; omega
    · have hne := splitC_ne c l
      cases hs : splitC c l with
      | nil => exact absurd hs hne
      | cons h t => rw [hs] at ih; simp at ih ⊢; omega
theorem ok_rgroups : FnA 95 sp_rgroups := of_rgroups (by
  intro w f e pt sci mi xi mf xf ms xs pr sc inc ps me px hw
  rw [vc_rgroups]
  have hl := splitC_len 44 w
  have hc := List.count_le_length (a := 44) (l := w)
  have hfl := splitC_flat 44 w
  refine ⟨by omega, ⟨⟨0, Nat.zero_le _, fun _ t ht => (by cases ht)⟩, by and_intros <;> rfl⟩, fun x => br_of (fun h => ?_) fun h => ?_⟩
  · have h : x.1 < (splitC 44 w).length := by simpa using h
    rw [Int.toNat_natCast]
    have hin : inR .i64 ((x.1 : Int) + 1) := by simp only [inR]; omega
    have hμ : ∀ hx, (splitC 44 w).length - (x.next h hx).1 < (splitC 44 w).length - x.1 := fun hx => by show (splitC 44 w).length - (x.1 + 1) < _; omega
    refine ⟨⟨by omega, by omega⟩, h, br_of (fun h1 => br_of (fun h2 => ?_) fun h2 => ?_) fun h1 => ⟨hin, x.next h (fun _ => of_decide_eq_false h1), by and_intros <;> rfl, hμ _⟩⟩
    · have h2 : 1 < (splitC 44 w).length := by have := of_decide_eq_true h2; omega
      have hem : emptyIn (splitC 44 w) = true := by
        unfold emptyIn
        rw [decide_eq_true h2, Bool.true_and, List.any_eq_true]
        exact ⟨_, getD_mem' (d := []) h, h1⟩
      have hE : groupsT w f (⟨mi, xi, mf, xf, ms, xs, pr, sc, inc, ps, me, px⟩ : Num) = (5, w, (⟨mi, xi, mf, xf, ms, xs, pr, sc, inc, ps, me, px⟩ : Num)) := by unfold groupsT; rw [if_pos hem]
      rw [hE]; and_intros <;> rfl
    · exact ⟨hin, x.next h (fun h3 => absurd h3 (by have := of_decide_eq_false h2; omega)), by and_intros <;> rfl, hμ _⟩
  · have h : ¬ x.1 < (splitC 44 w).length := by simpa using h
    have hem : ¬ emptyIn (splitC 44 w) = true := by
      unfold emptyIn
      intro hh
      rw [Bool.and_eq_true, List.any_eq_true] at hh
      obtain ⟨h1, t, ht, h2⟩ := hh
      have h3 := x.2.2 (of_decide_eq_true h1) t
      rw [List.take_of_length_le (by omega)] at h3
      exact h3 ht (of_decide_eq_true h2)
    refine br_of (fun h1 => ?_) fun h1 => br_of (fun h2 => ?_) fun h2 => ?_
    · have hE : groupsT w f (⟨mi, xi, mf, xf, ms, xs, pr, sc, inc, ps, me, px⟩ : Num) = (5, w, (⟨mi, xi, mf, xf, ms, xs, pr, sc, inc, ps, me, px⟩ : Num)) := by unfold groupsT; rw [if_neg hem, if_pos (of_decide_eq_true h1)]
      rw [hE]; and_intros <;> rfl
    · have h2 : 1 < (splitC 44 w).length := by have := of_decide_eq_true h2; omega
      have e1 : (((splitC 44 w).length : Int) - 1).toNat = (splitC 44 w).length - 1 := by omega
      have e2 : (((splitC 44 w).length : Int) - 2).toNat = (splitC 44 w).length - 2 := by omega
      rw [e1, e2]
      refine ⟨by simp only [inR]; omega, ⟨by omega, by omega⟩, by omega, br_of (fun h3 => ⟨by simp only [inR]; omega, ⟨by have := of_decide_eq_true h3; omega, by omega⟩, by omega, ⟨by omega, by omega⟩, ?_⟩) fun h3 => ⟨⟨by omega, by omega⟩, ?_⟩⟩
      · have h3 : 2 < (splitC 44 w).length := by have := of_decide_eq_true h3; omega
        have hE : groupsT w f (⟨mi, xi, mf, xf, ms, xs, pr, sc, inc, ps, me, px⟩ : Num) = (0, (splitC 44 w).flatten, { (⟨mi, xi, mf, xf, ms, xs, pr, sc, inc, ps, me, px⟩ : Num) with pr := ((splitC 44 w).getD ((splitC 44 w).length - 1) []).length, sc := ((splitC 44 w).getD ((splitC 44 w).length - 2) []).length }) := by
          unfold groupsT; rw [if_neg hem, if_neg (of_decide_eq_false h1), if_pos h2, if_pos h3]
        rw [hE]; and_intros <;> rfl
      · have h3 : ¬ 2 < (splitC 44 w).length := by have := of_decide_eq_false h3; omega
        have hE : groupsT w f (⟨mi, xi, mf, xf, ms, xs, pr, sc, inc, ps, me, px⟩ : Num) = (0, (splitC 44 w).flatten, { (⟨mi, xi, mf, xf, ms, xs, pr, sc, inc, ps, me, px⟩ : Num) with pr := ((splitC 44 w).getD ((splitC 44 w).length - 1) []).length, sc := ((splitC 44 w).getD ((splitC 44 w).length - 1) []).length }) := by
          unfold groupsT; rw [if_neg hem, if_neg (of_decide_eq_false h1), if_pos h2, if_neg h3]
        rw [hE]; and_intros <;> rfl
    · have h2 : ¬ 1 < (splitC 44 w).length := by have := of_decide_eq_false h2; omega
      have hE : groupsT w f (⟨mi, xi, mf, xf, ms, xs, pr, sc, inc, ps, me, px⟩ : Num) = (0, (splitC 44 w).flatten, (⟨mi, xi, mf, xf, ms, xs, pr, sc, inc, ps, me, px⟩ : Num)) := by
        unfold groupsT; rw [if_neg hem, if_neg (of_decide_eq_false h1), if_neg h2]
      rw [hE]
      refine ⟨⟨by omega, by omega⟩, ?_⟩
      and_intros <;> rfl)
end Go.Proofs.YtglfkihckkjniaaGreatDoor.Vx
