/-
VX, functions 3: strings.Builder. No statement of the seat is proved here.
-/
import Derived.Test.YtglfkihckkjniaaGreatDoorVxF02
set_option maxRecDepth 100000
set_option linter.unusedVariables false
set_option linter.unusedSimpArgs false
namespace Go.Proofs.YtglfkihckkjniaaGreatDoor.Vx
open Go Go.RowKit

/-! ### unicode/utf8.AppendRune -/
def encR (r : Int) : List Int := Lib.encodeRuneZ r
def miscW : Hook := orHook (wrapHook T) misc
theorem miscW_ok : HookOK T (GC Tryz.prog Gl) miscW := orHook_ok wrapHook_ok misc_ok
def sp_appendN : ASpec := ⟨fun | [.one (.slc 0), .one (.int .i32 r)], [(0, some (.row 5 (.ints .u8 l)))] => some ([scalar r = true, 128 ≤ r, l.length ≤ 1000000000000], .one (.slc 16), [(16, some (.row 5 (.ints .u8 (l ++ Lib.encodeRuneZ r))))]) | _, _ => none⟩
theorem vc_appendN (r : Int) (l : List Int) : vcA [] [] miscW Tryz.f152 (.nil) [.one (.slc 0), .one (.int .i32 r)] [(0, some (.row 5 (.ints .u8 l)))] (.one (.slc 16)) [(16, some (.row 5 (.ints .u8 (l ++ Lib.encodeRuneZ r))))] = (letI v0 := (br (decide (IntKind.wrap IntKind.u32 r > (65535 : Int))) (br (decide (IntKind.wrap IntKind.u32 r ≤ (1114111 : Int))) ((0 : Int) ≤ (18 : Int) ∧ (0 : Int) ≤ (12 : Int) ∧ (0 : Int) ≤ (6 : Int) ∧ (List.length l + (4 : Nat)) * (1 : Nat) ≤ (140737488355328 : Nat) ∧ l ++ [bitsOf BinOp.or IntKind.u8 (240 : Int) (IntKind.wrap IntKind.u8 (Int.fdiv r ((2 : Int) ^ min (Int.toNat (18 : Int)) (IntKind.bits IntKind.i32))))] ++ [bitsOf BinOp.or IntKind.u8 (128 : Int) (bitsOf BinOp.and IntKind.u8 (IntKind.wrap IntKind.u8 (Int.fdiv r ((2 : Int) ^ min (Int.toNat (12 : Int)) (IntKind.bits IntKind.i32)))) (63 : Int))] ++ [bitsOf BinOp.or IntKind.u8 (128 : Int) (bitsOf BinOp.and IntKind.u8 (IntKind.wrap IntKind.u8 (Int.fdiv r ((2 : Int) ^ min (Int.toNat (6 : Int)) (IntKind.bits IntKind.i32)))) (63 : Int))] ++ [bitsOf BinOp.or IntKind.u8 (128 : Int) (bitsOf BinOp.and IntKind.u8 (IntKind.wrap IntKind.u8 r) (63 : Int))] = l ++ Lib.encodeRuneZ r) ((List.length l + (3 : Nat)) * (1 : Nat) ≤ (140737488355328 : Nat) ∧ l ++ [(239 : Int)] ++ [(191 : Int)] ++ [(189 : Int)] = l ++ Lib.encodeRuneZ r)) ((List.length l + (3 : Nat)) * (1 : Nat) ≤ (140737488355328 : Nat) ∧ l ++ [(239 : Int)] ++ [(191 : Int)] ++ [(189 : Int)] = l ++ Lib.encodeRuneZ r)); letI v1 := ((0 : Int) ≤ (12 : Int) ∧ (0 : Int) ≤ (6 : Int) ∧ (List.length l + (3 : Nat)) * (1 : Nat) ≤ (140737488355328 : Nat) ∧ l ++ [bitsOf BinOp.or IntKind.u8 (224 : Int) (IntKind.wrap IntKind.u8 (Int.fdiv r ((2 : Int) ^ min (Int.toNat (12 : Int)) (IntKind.bits IntKind.i32))))] ++ [bitsOf BinOp.or IntKind.u8 (128 : Int) (bitsOf BinOp.and IntKind.u8 (IntKind.wrap IntKind.u8 (Int.fdiv r ((2 : Int) ^ min (Int.toNat (6 : Int)) (IntKind.bits IntKind.i32)))) (63 : Int))] ++ [bitsOf BinOp.or IntKind.u8 (128 : Int) (bitsOf BinOp.and IntKind.u8 (IntKind.wrap IntKind.u8 r) (63 : Int))] = l ++ Lib.encodeRuneZ r); (br (decide (IntKind.wrap IntKind.u32 r ≤ (2047 : Int))) ((0 : Int) ≤ (6 : Int) ∧ (List.length l + (2 : Nat)) * (1 : Nat) ≤ (140737488355328 : Nat) ∧ l ++ [bitsOf BinOp.or IntKind.u8 (192 : Int) (IntKind.wrap IntKind.u8 (Int.fdiv r ((2 : Int) ^ min (Int.toNat (6 : Int)) (IntKind.bits IntKind.i32))))] ++ [bitsOf BinOp.or IntKind.u8 (128 : Int) (bitsOf BinOp.and IntKind.u8 (IntKind.wrap IntKind.u8 r) (63 : Int))] = l ++ Lib.encodeRuneZ r) (br (decide (IntKind.wrap IntKind.u32 r < (55296 : Int))) (br (decide (IntKind.wrap IntKind.u32 r < (55296 : Int))) v1 v0) (br (decide ((57343 : Int) < IntKind.wrap IntKind.u32 r)) (br (decide (IntKind.wrap IntKind.u32 r ≤ (65535 : Int))) v1 v0) v0)))) := by kernel_rfl
set_option maxHeartbeats 4000000 in
theorem of_appendN (h : ∀ (r : Int) (l : List Int), (scalar r = true) → (128 ≤ r) → (l.length ≤ 1000000000000) → vcA [] [] miscW Tryz.f152 (.nil) [.one (.slc 0), .one (.int .i32 r)] [(0, some (.row 5 (.ints .u8 l)))] (.one (.slc 16)) [(16, some (.row 5 (.ints .u8 (l ++ Lib.encodeRuneZ r))))]) : FnA 152 sp_appendN := by
  refine fnA_ok (cs := []) (cas := []) (ms := miscW) .nil .nil miscW_ok 152 Tryz.f152 (by kernel_rfl) (by kernel_rfl) (by kernel_rfl) (fun _ _ => .nil) ?_
  intro args mem p r post hs hp
  unfold sp_appendN at hs
  simp only at hs
  split at hs
  · rename_i r l
    cases hs
    refine h r l ?_ ?_ ?_
    · exact hp.1
    · exact hp.2.1
    · exact hp.2.2
  · cases hs
theorem wrap_u8 (z : Int) : IntKind.wrap .u8 z = z % 256 := by simp [IntKind.wrap, IntKind.bits, IntKind.signed]
theorem wrap_u32 {z : Int} (h : 0 ≤ z) (h1 : z ≤ 4294967295) : IntKind.wrap .u32 z = z := wrap_in (k := .u32) ⟨h, h1⟩
theorem and63 : ∀ x : Fin 256, bitsOf .and .u8 (x.1 : Int) 63 = (x.1 : Int) % 64 := by decide
theorem or128 : ∀ x : Fin 64, bitsOf .or .u8 128 (x.1 : Int) = 128 + (x.1 : Int) := by decide
theorem or192 : ∀ x : Fin 32, bitsOf .or .u8 192 (x.1 : Int) = 192 + (x.1 : Int) := by decide
theorem or224 : ∀ x : Fin 16, bitsOf .or .u8 224 (x.1 : Int) = 224 + (x.1 : Int) := by decide
theorem or240 : ∀ x : Fin 8, bitsOf .or .u8 240 (x.1 : Int) = 240 + (x.1 : Int) := by decide
theorem fin_of {n : Nat} {z : Int} (h0 : 0 ≤ z) (h1 : z < n) : ∃ x : Fin n, (x.1 : Int) = z := ⟨⟨z.toNat, by omega⟩, by simp; omega⟩
theorem low6 {z : Int} (h : 0 ≤ z) : bitsOf .or .u8 128 (bitsOf .and .u8 (IntKind.wrap .u8 z) 63) = 128 + z % 64 := by
  rw [wrap_u8]
  obtain ⟨x, hx⟩ := fin_of (n := 256) (z := z % 256) (by omega) (by omega)
  rw [← hx, and63 x]
  obtain ⟨y, hy⟩ := fin_of (n := 64) (z := (x.1 : Int) % 64) (by omega) (by omega)
  rw [← hy, or128 y]
  omega
theorem top192 {z : Int} (h : 0 ≤ z) (h1 : z < 32) : bitsOf .or .u8 192 (IntKind.wrap .u8 z) = 192 + z := by
  obtain ⟨x, hx⟩ := fin_of (n := 32) h h1
  rw [wrap_u8, show z % 256 = z by omega, ← hx, or192 x]
theorem top224 {z : Int} (h : 0 ≤ z) (h1 : z < 16) : bitsOf .or .u8 224 (IntKind.wrap .u8 z) = 224 + z := by
  obtain ⟨x, hx⟩ := fin_of (n := 16) h h1
  rw [wrap_u8, show z % 256 = z by omega, ← hx, or224 x]
theorem top240 {z : Int} (h : 0 ≤ z) (h1 : z < 8) : bitsOf .or .u8 240 (IntKind.wrap .u8 z) = 240 + z := by
  obtain ⟨x, hx⟩ := fin_of (n := 8) h h1
  rw [wrap_u8, show z % 256 = z by omega, ← hx, or240 x]
theorem ok_appendN : FnA 152 sp_appendN := of_appendN (by
  intro r l hr h128 hl
  rw [vc_appendN]
  rw [scalar_iff] at hr
  have f6 : Int.fdiv r (2 ^ min (Int.toNat 6) (IntKind.bits .i32)) = r / 64 := by
    show Int.fdiv r 64 = _
    exact Int.fdiv_eq_ediv_of_nonneg _ (by omega)
  have f12 : Int.fdiv r (2 ^ min (Int.toNat 12) (IntKind.bits .i32)) = r / 4096 := by
    show Int.fdiv r 4096 = _
    exact Int.fdiv_eq_ediv_of_nonneg _ (by omega)
  have f18 : Int.fdiv r (2 ^ min (Int.toNat 18) (IntKind.bits .i32)) = r / 262144 := by
    show Int.fdiv r 262144 = _
    exact Int.fdiv_eq_ediv_of_nonneg _ (by omega)
  rw [f6, f12, f18, wrap_u32 (by omega) (by omega)]
  rw [low6 (by omega), low6 (by omega), low6 (by omega)]
  have two : r ≤ 2047 → l ++ [bitsOf .or .u8 192 (IntKind.wrap .u8 (r / 64))] ++ [128 + r % 64] = l ++ Lib.encodeRuneZ r := fun h => by
    rw [top192 (by omega) (by omega), Lib.encodeRuneZ_two (by omega) h]; simp
  have three : 2047 < r → r ≤ 65535 → l ++ [bitsOf .or .u8 224 (IntKind.wrap .u8 (r / 4096))] ++ [128 + r / 64 % 64] ++ [128 + r % 64] = l ++ Lib.encodeRuneZ r := fun h h' => by
    rw [top224 (by omega) (by omega), Lib.encodeRuneZ_three (by omega)]; simp
  have four : 65535 < r → l ++ [bitsOf .or .u8 240 (IntKind.wrap .u8 (r / 262144))] ++ [128 + r / 4096 % 64] ++ [128 + r / 64 % 64] ++ [128 + r % 64] = l ++ Lib.encodeRuneZ r := fun h => by
    rw [top240 (by omega) (by omega), Lib.encodeRuneZ_four (by omega) (by omega)]; simp
  repeat' (first | apply And.intro | apply br_of | intro _)
  all_goals (try simp only [decide_eq_true_eq, decide_eq_false_iff_not] at *)
  all_goals first
    | omega
    | exact two (by omega)
    | exact three (by omega) (by omega)
    | exact four (by omega)
    | (exfalso; omega))
def sp_appendR : ASpec := ⟨fun | [.one (.slc 0), .one (.int .i32 r)], [(0, some (.row 5 (.ints .u8 l)))] => some ([scalar r = true, l.length ≤ 1000000000000], .one (.slc 16), [(16, some (.row 5 (.ints .u8 (l ++ Lib.encodeRuneZ r))))]) | _, _ => none⟩
theorem vc_appendR (r : Int) (l : List Int) : vcA [] [(152, sp_appendN)] miscW Tryz.f132 (.nil) [.one (.slc 0), .one (.int .i32 r)] [(0, some (.row 5 (.ints .u8 l)))] (.one (.slc 16)) [(16, some (.row 5 (.ints .u8 (l ++ Lib.encodeRuneZ r))))] = (br (decide (IntKind.wrap IntKind.u32 r ≤ (127 : Int))) ((List.length l + (1 : Nat)) * (1 : Nat) ≤ (140737488355328 : Nat) ∧ l ++ [IntKind.wrap IntKind.u8 r] = l ++ Lib.encodeRuneZ r) (scalar r = true ∧ (128 : Int) ≤ r ∧ List.length l ≤ (1000000000000 : Nat) ∧ l ++ Lib.encodeRuneZ r = l ++ Lib.encodeRuneZ r)) := by kernel_rfl
set_option maxHeartbeats 4000000 in
theorem of_appendR (h : ∀ (r : Int) (l : List Int), (scalar r = true) → (l.length ≤ 1000000000000) → vcA [] [(152, sp_appendN)] miscW Tryz.f132 (.nil) [.one (.slc 0), .one (.int .i32 r)] [(0, some (.row 5 (.ints .u8 l)))] (.one (.slc 16)) [(16, some (.row 5 (.ints .u8 (l ++ Lib.encodeRuneZ r))))]) : FnA 132 sp_appendR := by
  refine fnA_ok (cs := []) (cas := [(152, sp_appendN)]) (ms := miscW) .nil (.cons ok_appendN .nil) miscW_ok 132 Tryz.f132 (by kernel_rfl) (by kernel_rfl) (by kernel_rfl) (fun _ _ => .nil) ?_
  intro args mem p r post hs hp
  unfold sp_appendR at hs
  simp only at hs
  split at hs
  · rename_i r l
    cases hs
    refine h r l ?_ ?_
    · exact hp.1
    · exact hp.2
  · cases hs
theorem ok_appendR : FnA 132 sp_appendR := of_appendR (by
  intro r l hr hl
  rw [vc_appendR]
  have hr' := hr
  rw [scalar_iff] at hr
  rw [wrap_u32 (by omega) (by omega)]
  refine br_of (fun h => ⟨by omega, ?_⟩) fun h => ⟨hr', ?_, hl, rfl⟩
  · have h : r ≤ 127 := by simpa using h
    rw [wrap_u8, Lib.encodeRuneZ_one hr.1 h, show r % 256 = r by omega]
  · have h : ¬ r ≤ 127 := by simpa using h
    omega)
/-! ### (*strings.Builder).copyCheck -/
def bHook : Hook := fun fr o ev m =>
  match o.op with
  | .binOp op T x y _ =>
    bif Nat.beq T 147 then
      match op, ev x, ev y with
      | .eql, some (.one (.mp k b)), some (.one (.raw (.pointer none))) => some ([], ⟨.one (.bool (!b)), []⟩)
      | .neq, some (.one (.mp k b)), some (.one (.ptr k' 0)) => bif Nat.beq k k' then some ([b = true], ⟨.one .ff, []⟩) else none
      | _, _, _ => none
    else none
  | .convert T U x =>
    bif (Nat.beq T 147 && Nat.beq U 198) || (Nat.beq T 198 && Nat.beq U 147) then
      match ev x with
      | some (.one (.ptr k 0)) => match m k with
        | some (.cells ty cs) => bif Nat.beq ty 149 && Nat.beq cs.length 2 then some ([], ⟨.one (.ptr k 0), []⟩) else none
        | _ => none
      | _ => none
    else none
  | .call ⟨.value x, args, _⟩ =>
    match calleeOf ev x, args.toList with
    | some (f, []), [y] => bif Nat.beq f 151 then (match ev y with | some (.one (.ptr k 0)) => some ([], ⟨.one (.ptr k 0), []⟩) | _ => none) else none
    | _, _ => none
  | _ => none
theorem bldr_ptr : Tryz.prog.underlying 147 = some (.pointer 149) := by kernel_rfl
theorem unsafe_ptr : Tryz.prog.underlying 198 = some .unsafePointer := by kernel_rfl
theorem bldr_size : (Tryz.prog.info? 149).map (·.size) = some 2 := by kernel_rfl
theorem bldr_lies : liesAt Tryz.prog Tryz.prog.depth 149 (2 / Tryz.prog.cellsOf 149) 0 149 1 = true := by kernel_rfl
theorem noEscape_run (x : Value) (w : World) : (callFunc 151 #[x]).run Tryz.prog w = .ok (.value x) w := by
  rw [run_callFunc_extern Tryz.func151 (by kernel_rfl) (by kernel_rfl) (by kernel_rfl) (e := Extern.AbiNoEscape.same) (by kernel_rfl)]
  rfl
theorem bHook_ok : HookOK T (GC Tryz.prog Gl) bHook := by
  intro C ρ S a w fr o ev m H hG ps e hk hp
  obtain ⟨j, hj, hjs⟩ := Option.map_eq_some_iff.1 bldr_size
  unfold bHook at hk
  split at hk
  · rename_i op T' x y z ho
    cases hb : Nat.beq T' 147 with
    | false => rw [hb] at hk; cases hk
    | true =>
      have := Nat.eq_of_beq_eq_true hb
      subst this
      rw [hb, cond_true] at hk
      split at hk
      · rename_i k b hx hy
        cases hk
        obtain ⟨u, h1, h2⟩ := H.val hx
        obtain ⟨u', h3, h4⟩ := H.val hy
        simp only [denV, den, Value.oneCell', if_true, Option.some.injEq] at h3
        subst h3
        have hp : ∃ p, u = .pointer p ∧ p.isNone = !b := by
          cases b with
          | false => simp only [denV, den] at h1; cases h1; exact ⟨_, rfl, rfl⟩
          | true =>
            simp only [denV, den, denPtr, if_true, Option.map_eq_some_iff] at h1
            obtain ⟨g, _, rfl⟩ := h1
            exact ⟨_, rfl, rfl⟩
        obtain ⟨p, rfl, hpn⟩ := hp
        refine H.pure (v := .bool (!b)) ?_ rfl
        have he := run_equal_pointer_nil (P := C.P) w 147 p (by rw [hG.prog]; kernel_rfl)
        unfold execOp
        simp [ho, h2, h4, eqGuard, binOp, he, hpn]
      · rename_i k b k' hx hy
        cases hkk : Nat.beq k k' with
        | false => rw [hkk] at hk; cases hk
        | true =>
          have := Nat.eq_of_beq_eq_true hkk
          subst this
          rw [hkk, cond_true] at hk
          cases hk
          have hp : b = true := hp
          subst hp
          obtain ⟨u, h1, h2⟩ := H.val hx
          obtain ⟨u', h3, h4⟩ := H.val hy
          simp only [denV, den, if_true] at h1 h3
          rw [h1] at h3; cases h3
          simp only [denPtr, Option.map_eq_some_iff] at h1
          obtain ⟨g, _, rfl⟩ := h1
          refine H.pure (v := .bool false) ?_ rfl
          have he := Lib.run_neq_ptr_same (P := C.P) w (tp := 147) ⟨g, 0, none⟩ (by rw [hG.prog]; exact bldr_ptr) (by rw [hG.prog]; exact hj)
          unfold execOp
          simp [ho, h2, h4, eqGuard, he]
      · cases hk
  · rename_i T' U x ho
    cases hb : (Nat.beq T' 147 && Nat.beq U 198) || (Nat.beq T' 198 && Nat.beq U 147) with
    | false => rw [hb] at hk; cases hk
    | true =>
      rw [hb, cond_true] at hk
      split at hk
      · rename_i k hx
        split at hk
        · rename_i ty cs hm
          cases hc : Nat.beq ty 149 && Nat.beq cs.length 2 with
          | false => rw [hc] at hk; cases hk
          | true =>
            rw [hc, cond_true] at hk
            cases hk
            simp only [Bool.and_eq_true] at hc
            have c1 := Nat.eq_of_beq_eq_true hc.1
            have c2 := Nat.eq_of_beq_eq_true hc.2
            subst c1
            obtain ⟨u, h1, h2⟩ := H.val hx
            obtain ⟨y, e1, g, vs, q1, q2, q3, q4⟩ := H.sat.mem k _ (H.mem k _ hm)
            have hd : denV ρ (.one (.ptr k 0)) = some (.pointer (some ⟨g, 0, none⟩)) := by simp [denV, den, denPtr, e1, q1]
            have hu : u = .pointer (some ⟨g, 0, none⟩) := Option.some.inj (h1.symm.trans hd)
            subst hu
            have hsh : w.shape? (⟨g, 0, none⟩ : Addr).block = some (149, 2) := by
              simp [World.shape?, q3, denL_length q2, c2]
            refine H.pure (v := .pointer (some ⟨g, 0, none⟩)) ?_ hd
            simp only [Bool.or_eq_true, Bool.and_eq_true] at hb
            rcases hb with ⟨b1, b2⟩ | ⟨b1, b2⟩
            · have b1 := Nat.eq_of_beq_eq_true b1
              have b2 := Nat.eq_of_beq_eq_true b2
              subst b1; subst b2
              have hr := Lib.run_to_unsafe (P := C.P) w ⟨g, 0, none⟩ (by rw [hG.prog]; exact bldr_ptr) (by rw [hG.prog]; exact unsafe_ptr) (by rw [hG.prog]; exact hj) (by rw [hjs]; decide) hsh (Nat.zero_lt_succ 1)
              unfold execOp
              simp only [ho, h2, Sem.run_bind, hr, Result.andThen_ok, Sem.run_pure]
            · have b1 := Nat.eq_of_beq_eq_true b1
              have b2 := Nat.eq_of_beq_eq_true b2
              subst b1; subst b2
              have hr := Lib.run_from_unsafe (P := C.P) w ⟨g, 0, none⟩ (by rw [hG.prog]; exact unsafe_ptr) (by rw [hG.prog]; exact bldr_ptr) (by rw [hG.prog]; exact hj) hsh (by rw [hG.prog]; exact bldr_lies)
              unfold execOp
              simp only [ho, h2, Sem.run_bind, hr, Result.andThen_ok, Sem.run_pure]
        · cases hk
      · cases hk
  · rename_i x args ts ho
    split at hk
    · rename_i f y hc ha
      cases hb : Nat.beq f 151 with
      | false => rw [hb] at hk; cases hk
      | true =>
        have := Nat.eq_of_beq_eq_true hb
        subst this
        rw [hb, cond_true] at hk
        split at hk
        · rename_i k hy
          cases hk
          obtain ⟨u, h1, h2⟩ := H.val hy
          obtain ⟨cvs, g1, g2⟩ := callee_run H ho hc
          cases g1
          refine H.pure (v := u) ?_ h1
          rw [g2, hG.prog, ha]
          simp only [List.map_cons, List.map_nil, List.append_nil, h2]
          exact noEscape_run u w
        · cases hk
    · cases hk
  · cases hk
def miscB : Hook := orHook bHook misc
theorem miscB_ok : HookOK T (GC Tryz.prog Gl) miscB := orHook_ok bHook_ok misc_ok
def sp_copyCheck : ASpec := ⟨fun | [.one (.ptr 0 0)], [(0, some (.cells 149 [.mp 0 b, .slc 1])), (1, some (.row 5 (.ints .u8 l)))] => some ([], .tup [], [(0, some (.cells 149 [.mp 0 true, .slc 1])), (1, some (.row 5 (.ints .u8 l)))]) | _, _ => none⟩
theorem vc_copyCheck (b : Bool) (l : List Int) : vcA [] [] miscB Tryz.f131 (.nil) [.one (.ptr 0 0)] [(0, some (.cells 149 [.mp 0 b, .slc 1])), (1, some (.row 5 (.ints .u8 l)))] (.tup []) [(0, some (.cells 149 [.mp 0 true, .slc 1])), (1, some (.row 5 (.ints .u8 l)))] = (br (!b) (true = true ∧ l = l) (b = true ∧ b = true ∧ l = l)) := by kernel_rfl
set_option maxHeartbeats 4000000 in
theorem of_copyCheck (h : ∀ (b : Bool) (l : List Int), vcA [] [] miscB Tryz.f131 (.nil) [.one (.ptr 0 0)] [(0, some (.cells 149 [.mp 0 b, .slc 1])), (1, some (.row 5 (.ints .u8 l)))] (.tup []) [(0, some (.cells 149 [.mp 0 true, .slc 1])), (1, some (.row 5 (.ints .u8 l)))]) : FnA 131 sp_copyCheck := by
  refine fnA_ok (cs := []) (cas := []) (ms := miscB) .nil .nil miscB_ok 131 Tryz.f131 (by kernel_rfl) (by kernel_rfl) (by kernel_rfl) (fun _ _ => .nil) ?_
  intro args mem p r post hs hp
  unfold sp_copyCheck at hs
  simp only at hs
  split at hs
  · rename_i b l
    cases hs
    refine h b l
  · cases hs
theorem ok_copyCheck : FnA 131 sp_copyCheck := of_copyCheck (by
  intro b l
  rw [vc_copyCheck]
  refine br_of (fun _ => ⟨rfl, rfl⟩) fun h => ?_
  have : b = true := by simpa using h
  exact ⟨this, this, rfl⟩)
/-! ### WriteRune, WriteString, Len -/
def sp_writeRune : ASpec := ⟨fun | [.one (.ptr 0 0), .one (.int .i32 r)], [(0, some (.cells 149 [.mp 0 b, .slc 1])), (1, some (.row 5 (.ints .u8 l)))] => some ([scalar r = true, l.length ≤ 1000000000000], .tup [(false, [.int .i64 (Lib.encodeRuneZ r).length]), (false, [.raw .nilIface])], [(0, some (.cells 149 [.mp 0 true, .slc 16])), (16, some (.row 5 (.ints .u8 (l ++ Lib.encodeRuneZ r))))]) | _, _ => none⟩
theorem vc_writeRune (b : Bool) (l : List Int) (r : Int) : vcA [] [(131, sp_copyCheck), (132, sp_appendR)] misc Tryz.f104 (.nil) [.one (.ptr 0 0), .one (.int .i32 r)] [(0, some (.cells 149 [.mp 0 b, .slc 1])), (1, some (.row 5 (.ints .u8 l)))] (.tup [(false, [.int .i64 (Lib.encodeRuneZ r).length]), (false, [.raw .nilIface])]) [(0, some (.cells 149 [.mp 0 true, .slc 16])), (16, some (.row 5 (.ints .u8 (l ++ Lib.encodeRuneZ r))))] = (scalar r = true ∧ List.length l ≤ (1000000000000 : Nat) ∧ inR IntKind.i64 ((↑(List.length (l ++ Lib.encodeRuneZ r)) : Int) - (↑(List.length l) : Int)) ∧ (↑(List.length (l ++ Lib.encodeRuneZ r)) : Int) - (↑(List.length l) : Int) = (↑(List.length (Lib.encodeRuneZ r)) : Int) ∧ Value.nilIface = Value.nilIface ∧ true = true ∧ l ++ Lib.encodeRuneZ r = l ++ Lib.encodeRuneZ r) := by kernel_rfl
set_option maxHeartbeats 4000000 in
theorem of_writeRune (h : ∀ (b : Bool) (l : List Int) (r : Int), (scalar r = true) → (l.length ≤ 1000000000000) → vcA [] [(131, sp_copyCheck), (132, sp_appendR)] misc Tryz.f104 (.nil) [.one (.ptr 0 0), .one (.int .i32 r)] [(0, some (.cells 149 [.mp 0 b, .slc 1])), (1, some (.row 5 (.ints .u8 l)))] (.tup [(false, [.int .i64 (Lib.encodeRuneZ r).length]), (false, [.raw .nilIface])]) [(0, some (.cells 149 [.mp 0 true, .slc 16])), (16, some (.row 5 (.ints .u8 (l ++ Lib.encodeRuneZ r))))]) : FnA 104 sp_writeRune := by
  refine fnA_ok (cs := []) (cas := [(131, sp_copyCheck), (132, sp_appendR)]) (ms := misc) .nil (.cons ok_copyCheck (.cons ok_appendR .nil)) misc_ok 104 Tryz.f104 (by kernel_rfl) (by kernel_rfl) (by kernel_rfl) (fun _ _ => .nil) ?_
  intro args mem p r post hs hp
  unfold sp_writeRune at hs
  simp only at hs
  split at hs
  · rename_i r b l
    cases hs
    refine h b l r ?_ ?_
    · exact hp.1
    · exact hp.2
  · cases hs
def sp_writeStr : ASpec := ⟨fun | [.one (.ptr 0 0), .one (.str s)], [(0, some (.cells 149 [.mp 0 b, .slc 1])), (1, some (.row 5 (.ints .u8 l)))] => some ([l.length + s.length ≤ 1000000000000], .tup [(false, [.int .i64 s.length]), (false, [.raw .nilIface])], [(0, some (.cells 149 [.mp 0 true, .slc 16])), (16, some (.row 5 (.ints .u8 (l ++ s.map fun c => (c.toNat : Int)))))]) | _, _ => none⟩
theorem vc_writeStr (b : Bool) (l : List Int) (s : List UInt8) : vcA [] [(131, sp_copyCheck)] misc Tryz.f105 (.nil) [.one (.ptr 0 0), .one (.str s)] [(0, some (.cells 149 [.mp 0 b, .slc 1])), (1, some (.row 5 (.ints .u8 l)))] (.tup [(false, [.int .i64 s.length]), (false, [.raw .nilIface])]) [(0, some (.cells 149 [.mp 0 true, .slc 16])), (16, some (.row 5 (.ints .u8 (l ++ s.map fun c => (c.toNat : Int)))))] = ((List.length l + List.length s) * (1 : Nat) ≤ (140737488355328 : Nat) ∧ (↑(List.length s) : Int) = (↑(List.length s) : Int) ∧ Value.nilIface = Value.nilIface ∧ true = true ∧ l ++ List.map (fun (b : UInt8) => (↑(UInt8.toNat b) : Int)) s = l ++ List.map (fun (c : UInt8) => (↑(UInt8.toNat c) : Int)) s) := by kernel_rfl
set_option maxHeartbeats 4000000 in
theorem of_writeStr (h : ∀ (b : Bool) (l : List Int) (s : List UInt8), (l.length + s.length ≤ 1000000000000) → vcA [] [(131, sp_copyCheck)] misc Tryz.f105 (.nil) [.one (.ptr 0 0), .one (.str s)] [(0, some (.cells 149 [.mp 0 b, .slc 1])), (1, some (.row 5 (.ints .u8 l)))] (.tup [(false, [.int .i64 s.length]), (false, [.raw .nilIface])]) [(0, some (.cells 149 [.mp 0 true, .slc 16])), (16, some (.row 5 (.ints .u8 (l ++ s.map fun c => (c.toNat : Int)))))]) : FnA 105 sp_writeStr := by
  refine fnA_ok (cs := []) (cas := [(131, sp_copyCheck)]) (ms := misc) .nil (.cons ok_copyCheck .nil) misc_ok 105 Tryz.f105 (by kernel_rfl) (by kernel_rfl) (by kernel_rfl) (fun _ _ => .nil) ?_
  intro args mem p r post hs hp
  unfold sp_writeStr at hs
  simp only at hs
  split at hs
  · rename_i s b l
    cases hs
    refine h b l s ?_
    · exact hp
  · cases hs
theorem ok_writeRune : FnA 104 sp_writeRune := of_writeRune (by
  intro b l r hr hl
  rw [vc_writeRune]
  have := Lib.encodeRuneZ_length r
  rw [List.length_append]
  exact ⟨hr, hl, by simp only [inR]; omega, by omega, rfl, rfl, rfl⟩)
theorem ok_writeStr : FnA 105 sp_writeStr := of_writeStr (by
  intro b l s hl
  rw [vc_writeStr]
  exact ⟨by omega, rfl, rfl, rfl, rfl⟩)
/-! ### String -/
set_option maxHeartbeats 2000000 in
theorem bstr_row (w : World) (b g cap : Nat) (p : Value) (cur : Array Value) (fz : Nat × Nat) (l : List UInt8) (h0 : l ≠ []) (hbk : w.heap[b]? = some (.cells #[p, .slice (some ⟨g, 0, none⟩) l.length cap] 149 (0, 0)))
    (hg : w.heap[g]? = some (.cells cur 5 fz)) (hnc : l.length ≤ cap) (hcm : cap ≤ maxLen) (hcs : cur.size = cap) (htake : cur.toList.take l.length = Lib.byteCells l) :
    Calls Tryz.prog 107 #[.pointer (some ⟨b, 0, none⟩)] w fun e w' => e = .returned (.string ⟨l.toArray⟩) ∧ w' = w.drew.freeze ⟨g, 0, none⟩ l.length := by
  have hl0 : l.length ≠ 0 := by simpa using h0
  have c1 : w.drew.cell? ⟨b, 1, none⟩ = some (.slice (some ⟨g, 0, none⟩) l.length cap) := by
    have : w.drew.heap[b]? = some (.cells #[p, .slice (some ⟨g, 0, none⟩) l.length cap] 149 (0, 0)) := hbk
    rw [Lib.cell_of_heap this]; rfl
  have hSD : (Builtin.unsafeSliceData_ #[41] 177 #[.slice (some ⟨g, 0, none⟩) l.length cap]).run Tryz.prog w.drew = .ok (.pointer (some ⟨g, 0, none⟩)) w.drew :=
    Lib.run_unsafeSliceData_row _ _ _ _ _ _ (by omega)
  have hUS : (Builtin.unsafeString_ #[177, 3] 9 #[.pointer (some ⟨g, 0, none⟩), .int .i64 l.length]).run Tryz.prog w.drew = .ok (.string ⟨l.toArray⟩) (w.drew.freeze ⟨g, 0, none⟩ l.length) := by
    refine Lib.run_unsafeString_row w.drew 177 3 9 5 (by kernel_rfl) (by kernel_rfl) g cur.size (by have hg' : w.drew.heap[g]? = some (.cells cur 5 fz) := hg; simp [World.shape?, hg']) l h0 (by omega) (by unfold maxLen at hcm; omega) ?_
    intro j x hx
    have hj : j < l.length := (List.getElem?_eq_some_iff.1 hx).1
    have hg' : w.drew.heap[g]? = some (.cells cur 5 fz) := hg
    rw [Addr.add_lit]
    simp only [World.cell?, hg', Nat.zero_add]
    have : (cur.toList.take l.length)[j]? = some (.int .u8 x.toNat) := by rw [htake]; simp [Lib.byteCells, hx]
    rw [List.getElem?_take, if_pos hj] at this
    simpa using this
  have mx : Tryz.prog.follows .mixedOrders = true := mixed
  go_enter Tryz.func107, Tryz.ntmps107
  go_wp2
  go_region_o
  all_goals (go_wp2; go_ret; exact ⟨rfl, rfl⟩)
set_option maxHeartbeats 2000000 in
theorem bstr_nil (w : World) (b : Nat) (p : Value) (hbk : w.heap[b]? = some (.cells #[p, .slice none 0 0] 149 (0, 0))) :
    Calls Tryz.prog 107 #[.pointer (some ⟨b, 0, none⟩)] w fun e w' => e = .returned (.string ⟨#[]⟩) ∧ w' = w.drew := by
  have hUS := fun (W : World) (q : Option Addr) => Lib.run_unsafeString_none (P := Tryz.prog) W 177 3 9 q
  have c1 : w.drew.cell? ⟨b, 1, none⟩ = some (.slice none 0 0) := by
    have : w.drew.heap[b]? = some (.cells #[p, .slice none 0 0] 149 (0, 0)) := hbk
    rw [Lib.cell_of_heap this]; rfl
  have hSD : (Builtin.unsafeSliceData_ #[41] 177 #[.slice none 0 0]).run Tryz.prog w.drew = .ok (.pointer none) w.drew := rfl
  have mx : Tryz.prog.follows .mixedOrders = true := mixed
  go_enter Tryz.func107, Tryz.ntmps107
  go_wp2
  go_region_o
  all_goals (go_wp2; go_ret; exact ⟨rfl, rfl⟩)
set_option maxHeartbeats 2000000 in
theorem bstr_room (w : World) (b g cap : Nat) (p : Value) (hc : cap ≠ 0) (hbk : w.heap[b]? = some (.cells #[p, .slice (some ⟨g, 0, none⟩) 0 cap] 149 (0, 0))) :
    Calls Tryz.prog 107 #[.pointer (some ⟨b, 0, none⟩)] w fun e w' => e = .returned (.string ⟨#[]⟩) ∧ w' = w.drew := by
  have hUS := fun (W : World) (q : Option Addr) => Lib.run_unsafeString_none (P := Tryz.prog) W 177 3 9 q
  have c1 : w.drew.cell? ⟨b, 1, none⟩ = some (.slice (some ⟨g, 0, none⟩) 0 cap) := by
    have : w.drew.heap[b]? = some (.cells #[p, .slice (some ⟨g, 0, none⟩) 0 cap] 149 (0, 0)) := hbk
    rw [Lib.cell_of_heap this]; rfl
  have hSD : (Builtin.unsafeSliceData_ #[41] 177 #[.slice (some ⟨g, 0, none⟩) 0 cap]).run Tryz.prog w.drew = .ok (.pointer (some ⟨g, 0, none⟩)) w.drew := Lib.run_unsafeSliceData_row _ _ _ _ _ _ hc
  have mx : Tryz.prog.follows .mixedOrders = true := mixed
  go_enter Tryz.func107, Tryz.ntmps107
  go_wp2
  go_region_o
  all_goals (go_wp2; go_ret; exact ⟨rfl, rfl⟩)
theorem Sat.world {C : Ctx} {ρ : Env} {S : AS} {a : Act} {w w' : World} (h : Sat C ρ S a w) (hw : Fr (fun _ => False) w w') : Sat C ρ S a w' :=
  h.step (G := fun _ => False) none ⟨.one .und, []⟩ undef (Env.le_refl ρ) h.one (fun _ _ => rfl) hw (fun _ hg => hg.elim) (fun hne => absurd rfl hne) (fun d hd => by cases hd) (fun _ _ _ _ _ _ _ _ hg => hg)
    (fun _ _ hl => by cases hl) (fun _ _ _ _ _ _ hl => by cases hl)
set_option maxHeartbeats 2000000 in
theorem bstr_full (w : World) (b g : Nat) (p : Value) (cur : Array Value) (fz : Nat × Nat) (hbk : w.heap[b]? = some (.cells #[p, .slice (some ⟨g, 0, none⟩) 0 0] 149 (0, 0))) (hg : w.heap[g]? = some (.cells cur 5 fz)) :
    Calls Tryz.prog 107 #[.pointer (some ⟨b, 0, none⟩)] w fun e w' => e = .returned (.string ⟨#[]⟩) ∧ Fr (fun _ => False) w w' := by
  have hUS := fun (W : World) (q : Option Addr) => Lib.run_unsafeString_none (P := Tryz.prog) W 177 3 9 q
  have hlt : b < w.heap.size := (Array.getElem?_eq_some_iff.1 hbk).1
  have c1 : w.drew.cell? ⟨b, 1, none⟩ = some (.slice (some ⟨g, 0, none⟩) 0 0) := by
    have : w.drew.heap[b]? = some (.cells #[p, .slice (some ⟨g, 0, none⟩) 0 0] 149 (0, 0)) := hbk
    rw [Lib.cell_of_heap this]; rfl
  have hSD : (Builtin.unsafeSliceData_ #[41] 177 #[.slice (some ⟨g, 0, none⟩) 0 0]).run Tryz.prog w.drew = .ok (.pointer (some ⟨w.drew.heap.size, 0, none⟩)) (w.drew.alloc (.view ⟨g, 0, none⟩ 5)) :=
    Lib.run_unsafeSliceData_zero w.drew _ _ 5 (by kernel_rfl) ⟨g, 0, none⟩ 0 (5, cur.size) (by have hg' : w.drew.heap[g]? = some (.cells cur 5 fz) := hg; simp [World.shape?, hg'])
  have c2 : (w.drew.alloc (.view ⟨g, 0, none⟩ 5)).cell? ⟨b, 1, none⟩ = some (.slice (some ⟨g, 0, none⟩) 0 0) := by
    have : (w.drew.alloc (.view ⟨g, 0, none⟩ 5)).heap[b]? = _ := (Lib.alloc_old w.drew _ b hlt).trans hbk
    rw [Lib.cell_of_heap this]; rfl
  have c3 : (w.alloc (.view ⟨g, 0, none⟩ 5)).drew.cell? ⟨b, 1, none⟩ = some (.slice (some ⟨g, 0, none⟩) 0 0) := c2
  have c0 : w.cell? ⟨b, 1, none⟩ = some (.slice (some ⟨g, 0, none⟩) 0 0) := c1
  have mx : Tryz.prog.follows .mixedOrders = true := mixed
  go_enter Tryz.func107, Tryz.ntmps107
  go_wp2
  go_region_o
  all_goals (go_wp2; go_ret; exact ⟨rfl, (Fr.refl _ w).drew.trans (Fr.alloc w.drew _ _)⟩)
def Bytes (l : List Int) : Prop := ∀ n ∈ l, 0 ≤ n ∧ n < 256
def u8s (l : List Int) : List UInt8 := l.map fun n => UInt8.ofNat n.toNat
theorem u8s_cells {l : List Int} (h : Bytes l) : Lib.byteCells (u8s l) = l.map (Value.int .u8) := by
  unfold Lib.byteCells u8s
  rw [List.map_map]
  refine List.map_congr_left fun n hn => ?_
  have := h n hn
  simp only [Function.comp_apply]
  rw [ofNat_toNat this.1 this.2]
theorem ints_flat (k : IntKind) (l : List Int) : Ls.flat (.ints k l) = l.map (Value.int k) := by
  unfold Ls.flat
  simp only [Ls.rows]
  induction l with
  | nil => rfl
  | cons n l ih => simp only [List.map_cons, List.flatten_cons, ih]; rfl
def bmem (b : Bool) (l : List Int) : List (Nat × Option SB) := [(0, some (.cells 149 [.mp 0 b, .slc 1])), (1, some (.row 5 (.ints .u8 l)))]
def sp_bstr : ASpec := ⟨fun
  | [.one (.ptr 0 0)], [(0, some (.cells 149 [.mp 0 b, .slc 1])), (1, some (.row 5 (.ints .u8 l)))] => some ([Bytes l], .one (.str (u8s l)), [(0, some (.cells 149 [.mp 0 b, .slc 1])), (1, some (.row 5 (.ints .u8 l)))])
  | _, _ => none⟩
theorem ok_bstr : FnA 107 sp_bstr := by
  refine ⟨body_of Tryz.f107 (by kernel_rfl) (by kernel_rfl) (by kernel_rfl), ?_⟩
  intro args mem ps r post hs hp C ρ w vs hP hw hg hgf hms hdom hargs
  unfold sp_bstr at hs
  simp only at hs
  split at hs
  · rename_i bb l
    cases hs
    have hp : Bytes l := hp
    obtain ⟨u0, e0, b, vs0, q1, q2, q3, q4⟩ := hms.mem 0 _ rfl
    obtain ⟨v1, e1, hown, q5⟩ := hms.mem 1 _ rfl
    have hap := hms.apart 0 1 _ _ u0 v1 (by decide) rfl rfl rfl e0 e1
    have hv : vs = [.pointer (some ⟨b, 0, none⟩)] := by
      cases hargs with
      | cons h1 h2 =>
        cases h2
        simp only [denV, den, denPtr, e0, Option.bind_some, q1, Option.map_some, Option.some.injEq] at h1
        rw [h1]
    subst hv
    obtain ⟨p, us, h1, h2, rfl⟩ := denL_cons_some.1 q2
    obtain ⟨x, us', h3, h4, rfl⟩ := denL_cons_some.1 h2
    cases h4
    have h3 : ρ 1 = some x := h3
    rw [e1] at h3; cases h3
    have hsat := sat_of_ms hms hw 16
    have done : ∀ (w' : World), Fr (fun _ => False) w w' → MS C ρ [(0, some (.cells 149 [.mp 0 bb, .slc 1])), (1, some (.row 5 (.ints .u8 l)))] w' := fun w' hw' =>
      ms_of_sat (hsat.world hw') fun k b hk => by unfold AS.blk; rw [hk]; rfl
    have hdom2 : DomLt ρ 32 := hdom.mono (by decide)
    have zero : ∀ (w' : World), l = [] → Fr (fun _ => False) w w' → ∃ v ρ', Ending.returned (.string ⟨#[]⟩) = .returned v ∧ Fr C.F w w' ∧ MS C ρ' [(0, some (.cells 149 [.mp 0 bb, .slc 1])), (1, some (.row 5 (.ints .u8 l)))] w' ∧ DomLt ρ' 32 ∧ denV ρ' (.one (.str (u8s l))) = some v := by
      rintro w' rfl hw'
      exact ⟨_, ρ, rfl, hw'.mono fun _ _ h => h.elim, done w' hw', hdom2, rfl⟩
    rcases hown.2 with ⟨rfl, hz⟩ | ⟨g, cap, cur, fz, rfl, hbg, hg', hfz, hnc, hcm, hcs, htake⟩
    · have hl : l = [] := List.eq_nil_of_length_eq_zero hz
      refine (bstr_nil w b p q3).mono ?_
      rintro e w' ⟨rfl, rfl⟩
      exact zero _ hl (Fr.refl _ w).drew
    · by_cases hl : l = []
      · have hll : Ls.len (.ints .u8 l) = 0 := by rw [hl]; rfl
        rw [hll] at q3
        by_cases hc : cap = 0
        · subst hc
          refine (bstr_full w b g p cur fz q3 hg').mono ?_
          rintro e w' ⟨rfl, hw'⟩
          exact zero _ hl hw'
        · refine (bstr_room w b g cap p hc q3).mono ?_
          rintro e w' ⟨rfl, rfl⟩
          exact zero _ hl (Fr.refl _ w).drew
      · have hlen : (u8s l).length = l.length := by simp [u8s]
        have hne : u8s l ≠ [] := by intro h0; rw [h0] at hlen; exact hl (List.eq_nil_of_length_eq_zero hlen.symm)
        have hlb : l.length ≤ cap := hnc
        have hfz : fz.2 ≤ l.length := by have h7 := hfz; rw [show (Ls.ints .u8 l).len * (Ls.ints .u8 l).sz = l.length from Nat.mul_one _] at h7; exact h7
        have hlz : Ls.sz (.ints .u8 l) = 1 := rfl
        have hcs1 : cur.size = cap := by rw [hcs, hlz, Nat.mul_one]
        have htk : cur.toList.take l.length = (Ls.ints .u8 l).flat := by
          have h5 : (Ls.ints .u8 l).len * (Ls.ints .u8 l).sz = l.length := by rw [hlz, Nat.mul_one]; rfl
          rw [← htake, h5]
        refine (bstr_row w b g cap p cur fz (u8s l) hne (by rw [hlen]; exact q3) hg' (by rw [hlen]; exact hlb) hcm hcs1 (by
          rw [hlen, u8s_cells hp, ← ints_flat]; exact htk)).mono ?_
        rintro e w' ⟨rfl, rfl⟩
        have hglt : g < w.heap.size := (Array.getElem?_eq_some_iff.1 hg').1
        have hfr : Fr (fun i => i = g) w (w.drew.freeze ⟨g, 0, none⟩ (u8s l).length) := by
          unfold World.freeze
          split
          · exact (Fr.refl _ w).drew
          · refine ⟨rfl, rfl, rfl, by show w.heap.size ≤ (Array.modify _ _ _).size; rw [Array.size_modify]; exact Nat.le_refl _, fun i _ hi => ?_⟩
            simp only [Array.getElem?_modify]
            rw [if_neg (fun h => hi h.symm)]
            rfl
        have hown2 : C.own g := q5 g rfl
        refine ⟨_, ρ, rfl, hfr.mono ?_, ?_, hdom2, rfl⟩
        · intro i hi hig
          subst hig
          rcases hown2 with h6 | h6
          · rw [hw] at h6; omega
          · exact h6
        · have hrow : SBok C.bare ρ (w.drew.freeze ⟨g, 0, none⟩ (u8s l).length) (.slice (some ⟨g, 0, none⟩) (Ls.len (.ints .u8 l)) cap) (.row 5 (.ints .u8 l)) := by
            refine ⟨⟨hown.1, ?_⟩, q5⟩
            have hn0 : (u8s l).length ≠ 0 := by simpa using hne
            unfold World.freeze
            rw [if_neg hn0]
            have hgd : w.drew.heap[g]? = some (.cells cur 5 fz) := hg'
            obtain ⟨lo, hi⟩ := fz
            refine .inr ⟨g, _, cur, (if lo == hi then (0, 0 + (u8s l).length) else (min lo 0, max hi (0 + (u8s l).length))), rfl, hbg, ?_, ?_, hnc, hcm, hcs, htake⟩
            · simp [Array.getElem?_modify, hgd]
            · rw [show (Ls.ints .u8 l).len * (Ls.ints .u8 l).sz = l.length from Nat.mul_one _]
              simp only at hfz
              split <;> simp <;> omega
          have hst := hsat.step (ρ' := ρ) (w' := w.drew.freeze ⟨g, 0, none⟩ (u8s l).length) (G := fun i => i = g) none ⟨.one .und, [(1, some (.row 5 (.ints .u8 l)))]⟩ undef (Env.le_refl ρ) hsat.one (fun _ _ => rfl) hfr
            (fun i hi => by rw [hi]; exact hown2) (fun hne => absurd rfl hne) (fun d hd => by cases hd)
            (by
              intro k x u h6 h7 h8 i h9 h10
              have hk1 : k ≠ 1 := by rintro rfl; cases h6
              by_cases hk0 : k = 0
              · subst hk0
                cases h7
                rw [e0] at h8; cases h8
                subst h10
                exact hap i h9 rfl
              · exfalso
                rw [AS.blk, look_cons, if_neg (fun h => hk0 h.symm), look_cons, if_neg (fun h => hk1 h.symm)] at h7
                cases h7)
            (by
              intro k x h6
              by_cases hk1 : k = 1
              · subst hk1; cases h6
                exact ⟨_, e1, hrow⟩
              · rw [look_cons, if_neg (fun h => hk1 h.symm)] at h6
                cases h6)
            (by
              intro k x u k' x' u' h6 h7 hkk h8 h9 hm
              have hk1 : k = 1 := by
                by_cases hk1 : k = 1
                · exact hk1
                · rw [look_cons, if_neg (fun h => hk1 h.symm)] at h6
                  cases h6
              subst hk1
              cases h6
              rw [e1] at h7; cases h7
              rcases h8 with h8 | ⟨_, h8⟩
              · exfalso
                rw [look_cons, if_neg (fun h => hkk h.symm)] at h8
                cases h8
              · by_cases hk0 : k' = 0
                · subst hk0
                  cases h8
                  rw [e0] at h9; cases h9
                  exact hap.symm
                · exfalso
                  rw [AS.blk, look_cons, if_neg (fun h => hk0 h.symm), look_cons, if_neg (fun h => hkk h.symm)] at h8
                  cases h8)
          refine ms_of_sat hst fun k x hk => ?_
          show (look k ((1, some (.row 5 (.ints .u8 l))) :: [(0, some (.cells 149 [.mp 0 bb, .slc 1])), (1, some (.row 5 (.ints .u8 l)))])).join = some x
          by_cases hk1 : 1 = k
          · subst hk1
            cases hk
            rfl
          · rw [look_cons, if_neg hk1, hk]; rfl
  · cases hs
end Go.Proofs.YtglfkihckkjniaaGreatDoor.Vx
