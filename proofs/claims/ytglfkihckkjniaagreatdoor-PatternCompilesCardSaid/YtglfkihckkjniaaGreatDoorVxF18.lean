/-
VX, functions 18: the reference's Number. No statement of the seat is proved here.
-/
import Derived.Test.YtglfkihckkjniaaGreatDoorVxM3
set_option maxRecDepth 100000
set_option linter.unusedVariables false
set_option linter.unusedSimpArgs false
namespace Go.Proofs.YtglfkihckkjniaaGreatDoor.Vx
open Go Go.RowKit
/-- No strange character so far. -/
def OB (s : List UInt8) : Type := {i : Nat // (rs1 s).c = 0 ∧ i ≤ (numB s).length ∧ anyP isOdd ((numB s).take i) = false}
structure E27 (s : List UInt8) where
  i : Nat
  ps : List Int
  pl : List UInt8
  n : Int
  le : i ≤ (rs2 s).w.length + 1
  few : ps.length ≤ i
  n0 : 0 ≤ n ∧ n ≤ (rs2 s).w.length
  nn : n ≤ i
  sz : i ≤ (rs2 s).w.length → ps ++ sizesN n ((rs2 s).w.drop i) = szZ (rs2 s).w
  sz1 : ¬ i ≤ (rs2 s).w.length → ps = szZ (rs2 s).w
  fl : pl ++ ((rs2 s).w.drop i).filter (fun x => decide (x ≠ 44)) = (splitC 44 (rs2 s).w).flatten
  pn : pl.length ≤ i
structure N23 (s : List UInt8) : Prop where
  c2 : (rs2 s).c = 0
  g : ¬ 0 < cntC 44 (rs2 s).f
def I35 (s : List UInt8) : Type := {i : Nat // i ≤ (szZ (rs2 s).w).length ∧ (1 < (szZ (rs2 s).w).length → ∀ j, j < i → (szZ (rs2 s).w).getD j 0 ≠ 0)}
structure N43 (s : List UInt8) : Prop where
  c3 : (rs3 s).c = 0
  ne : emptyIn (splitC 44 (rs2 s).w) = false
structure N51 (s : List UInt8) : Prop extends N43 s where
  h1 : ¬ (rs3 s).w ++ (rs3 s).f = []
  h2 : 0 < cntC 64 ((rs3 s).w ++ (rs3 s).f)
  h3 : ¬ ((rs3 s).pt = true ∨ 0 < cntC 48 (rs3 s).w)
  h4 : rowsF 35 64 35 0 (rs3 s).w = []
  h5 : 0 < cntC 64 (rs3 s).w
def J53 (s : List UInt8) : Type := {j : Nat // N51 s ∧ j ≤ (rs3 s).w.length ∧ dropP (· == 35) ((rs3 s).w.drop j) = dropP (· == 35) (rs3 s).w}
structure N57 (s : List UInt8) : Prop extends N43 s where
  h1 : ¬ (rs3 s).w ++ (rs3 s).f = []
  h2 : ¬ 0 < cntC 64 ((rs3 s).w ++ (rs3 s).f)
  h3 : rowsF 35 48 48 0 (rs3 s).w = []
  h4 : rowsF 48 35 35 0 (rs3 s).f = []
def wf (s : List UInt8) : List UInt8 := (rs3 s).w ++ (rs3 s).f
def flt (l : List UInt8) : List UInt8 := l.filter fun x => decide ((x.toNat : Int) ≠ 35)
def dg1 (s : List UInt8) : Num := { (rs3 s).p with mi := cntC 48 (rs3 s).w, mf := cntC 48 (rs3 s).f, xf := (rs3 s).f.length }
structure N69 (s : List UInt8) : Prop extends N43 s where
  c4 : (rs4 s).c = 0
  w4 : (rs4 s).w = (rs3 s).w
  pr4 : (rs4 s).p.pr = (rs3 s).p.pr
def zpc : List Pc := p0.pcs
def zsc : List SC := z0.sc'
def xt (s : List UInt8) : List UInt8 := Lib.trimPrefix (numX s) [43]
def xp (s : List UInt8) : Num := { z0 with px := Lib.hasPrefix (numX s) [43] }
def b7 (s : List UInt8) : Bool := decide (xt s = []) || decide (dropP (· == 48) (xt s) ≠ [])
def bw (s : List UInt8) : List UInt8 := (Lib.cut (numB s) [46]).1
def bf (s : List UInt8) : List UInt8 := (Lib.cut (numB s) [46]).2.1
def bp (s : List UInt8) : Bool := (Lib.cut (numB s) [46]).2.2
def b19 (s : List UInt8) : Bool := decide (0 < cntC 46 (bf s)) || (bp s && decide (bf s = []))
def b29 (s : List UInt8) (i : Nat) : Bool := decide (i < (rs2 s).w.length) && decide ((rs2 s).w.getD i 0 ≠ 44)
def b37 (s : List UInt8) (i : Nat) : Bool := decide (1 < (szZ (rs2 s).w).length) && decide ((szZ (rs2 s).w).getD i 0 = 0)
def g1 (s : List UInt8) : Num := if 1 < (szZ (rs2 s).w).length then { (rs2 s).p with pr := (szZ (rs2 s).w).getD ((szZ (rs2 s).w).length - 1) 0, sc := (szZ (rs2 s).w).getD ((szZ (rs2 s).w).length - 1) 0 } else (rs2 s).p
def b47 (s : List UInt8) : Bool := (rs3 s).pt || decide (0 < cntC 48 (rs3 s).w)
def b55 (s : List UInt8) : Bool := decide (rowsF 35 48 48 0 (rs3 s).w ≠ []) || decide (rowsF 48 35 35 0 (rs3 s).f ≠ [])
def dg2 (s : List UInt8) : Num := { dg1 s with inc := dropP (· == 48) (flt (wf s)) }
def b65 (s : List UInt8) : Bool := decide ((dg2 s).inc ≠ []) && (decide ((cntC 48 (rs3 s).f : Int) < (rs3 s).f.length) || numS s)
def b69 (s : List UInt8) : Bool := numS s && (decide (1 < (szZ (rs2 s).w).length) || (decide (0 < (rs4 s).p.ms) && (bAt (rs3 s).w 0 == 35)))
def annA (s : List UInt8) (rest : Ann) : Ann :=
  .cut 7 (PLift (numS s = true)) (fun _ => ⟨[(2, .one (.ptr 16 0)), (4, .one (.ptr 17 0)), (7, .one (.bool (numS s))), (5, .one (.str (numB s))), (6, .one (.str (xt s)))], [(16, some (.cells 25 zsc)), (17, some (.cells 25 (xp s).sc'))], 18⟩)
    (fun _ => .cut 8 Unit (fun _ => ⟨[(2, .one (.ptr 16 0)), (4, .one (.ptr 17 0)), (7, .one (.bool (numS s))), (5, .one (.str (numB s))), (6, .one (.str (xt s))), (48, .one (.bool (b7 s)))], [(16, some (.cells 25 zsc)), (17, some (.cells 25 (xp s).sc'))], 18⟩) (fun _ => .nil) .nil) rest
def annB (s : List UInt8) : Ann :=
  .loop 13 (OB s) (fun i => ⟨[(2, .one (.ptr 16 0)), (4, .one (.ptr 17 0)), (7, .one (.bool (numS s))), (5, .one (.str (numB s))), (8, .one (.int .i64 i.1))], [(16, some (.cells 25 zsc)), (17, some (.cells 25 (rs1 s).p.sc'))], 18⟩) (fun i => (numB s).length - i.1)
    (fun i => .cut 17 Unit (fun _ => ⟨[(2, .one (.ptr 16 0)), (4, .one (.ptr 17 0)), (7, .one (.bool (numS s))), (5, .one (.str (numB s))), (8, .one (.int .i64 i.1)), (88, .one (.bool (isOdd (bAt (numB s) i.1))))], [(16, some (.cells 25 zsc)), (17, some (.cells 25 (rs1 s).p.sc'))], 18⟩) (fun _ => .nil) .nil) .nil
def annC (s : List UInt8) : Ann :=
  .loop 27 (E27 s) (fun x => ⟨[(2, .one (.ptr 16 0)), (4, .one (.ptr 17 0)), (7, .one (.bool (numS s))), (10, .one (.str (rs2 s).w)), (11, .one (.str (rs2 s).f)), (12, .one (.bool (rs2 s).pt)), (13, .one (.slc 18)), (14, .one (.str x.pl)), (15, .one (.int .i64 x.n)), (16, .one (.int .i64 x.i))], [(16, some (.cells 25 zsc)), (17, some (.cells 25 (rs2 s).p.sc')), (18, some (.row 3 (.ints .i64 x.ps)))], 19⟩) (fun x => (rs2 s).w.length + 1 - x.i)
    (fun x => .cut 30 Unit (fun _ => ⟨[(2, .one (.ptr 16 0)), (4, .one (.ptr 17 0)), (7, .one (.bool (numS s))), (10, .one (.str (rs2 s).w)), (11, .one (.str (rs2 s).f)), (12, .one (.bool (rs2 s).pt)), (13, .one (.slc 18)), (14, .one (.str x.pl)), (15, .one (.int .i64 x.n)), (16, .one (.int .i64 x.i)), (126, .one (.bool (b29 s x.i)))], [(16, some (.cells 25 zsc)), (17, some (.cells 25 (rs2 s).p.sc')), (18, some (.row 3 (.ints .i64 x.ps)))], 19⟩) (fun _ => .nil) .nil) .nil
def annD (s : List UInt8) : Ann :=
  .loop 35 (I35 s) (fun i => ⟨[(2, .one (.ptr 16 0)), (4, .one (.ptr 17 0)), (7, .one (.bool (numS s))), (10, .one (.str (rs2 s).w)), (11, .one (.str (rs2 s).f)), (12, .one (.bool (rs2 s).pt)), (13, .one (.slc 18)), (14, .one (.str (splitC 44 (rs2 s).w).flatten)), (17, .one (.int .i64 i.1))], [(16, some (.cells 25 zsc)), (17, some (.cells 25 (rs2 s).p.sc')), (18, some (.row 3 (.ints .i64 (szZ (rs2 s).w))))], 19⟩) (fun i => (szZ (rs2 s).w).length - i.1)
    (fun i => .cut 38 Unit (fun _ => ⟨[(2, .one (.ptr 16 0)), (4, .one (.ptr 17 0)), (7, .one (.bool (numS s))), (10, .one (.str (rs2 s).w)), (11, .one (.str (rs2 s).f)), (12, .one (.bool (rs2 s).pt)), (13, .one (.slc 18)), (14, .one (.str (splitC 44 (rs2 s).w).flatten)), (17, .one (.int .i64 i.1)), (155, .one (.bool (b37 s i.1)))], [(16, some (.cells 25 zsc)), (17, some (.cells 25 (rs2 s).p.sc')), (18, some (.row 3 (.ints .i64 (szZ (rs2 s).w))))], 19⟩) (fun _ => .nil) .nil) .nil
def annE (s : List UInt8) (rest : Ann) : Ann :=
  .cut 48 Unit (fun _ => ⟨[(2, .one (.ptr 16 0)), (4, .one (.ptr 17 0)), (7, .one (.bool (numS s))), (14, .one (.str (rs3 s).w)), (11, .one (.str (rs3 s).f)), (12, .one (.bool (rs3 s).pt)), (13, .one (.slc 18)), (198, .one (.bool (b47 s)))], [(16, some (.cells 25 zsc)), (17, some (.cells 25 (rs3 s).p.sc')), (18, some (.row 3 (.ints .i64 (szZ (rs2 s).w))))], 19⟩) (fun _ => .nil)
  (.cut 51 (PLift (N51 s)) (fun _ => ⟨[(2, .one (.ptr 16 0)), (4, .one (.ptr 17 0)), (7, .one (.bool (numS s))), (14, .one (.str (rs3 s).w)), (11, .one (.str (rs3 s).f)), (12, .one (.bool (rs3 s).pt)), (13, .one (.slc 18))], [(16, some (.cells 25 zsc)), (17, some (.cells 25 (rs3 s).p.sc')), (18, some (.row 3 (.ints .i64 (szZ (rs2 s).w))))], 19⟩)
    (fun _ => .loop 53 (J53 s) (fun j => ⟨[(2, .one (.ptr 16 0)), (4, .one (.ptr 17 0)), (7, .one (.bool (numS s))), (14, .one (.str (rs3 s).w)), (11, .one (.str (rs3 s).f)), (12, .one (.bool (rs3 s).pt)), (13, .one (.slc 18))], [(16, some (.cells 25 zsc)), (17, some (.cells 25 ({ (rs3 s).p with ms := (cntC 64 (rs3 s).w : Int), xs := ((rs3 s).w.length : Int) - (j.1 : Int) } : Num).sc')), (18, some (.row 3 (.ints .i64 (szZ (rs2 s).w))))], 19⟩) (fun j => (rs3 s).w.length - j.1) (fun _ => .nil) .nil)
  (.cut 56 Unit (fun _ => ⟨[(2, .one (.ptr 16 0)), (4, .one (.ptr 17 0)), (7, .one (.bool (numS s))), (14, .one (.str (rs3 s).w)), (11, .one (.str (rs3 s).f)), (12, .one (.bool (rs3 s).pt)), (13, .one (.slc 18)), (18, .one (.str (wf s))), (229, .one (.bool (b55 s)))], [(16, some (.cells 25 zsc)), (17, some (.cells 25 (rs3 s).p.sc')), (18, some (.row 3 (.ints .i64 (szZ (rs2 s).w))))], 19⟩) (fun _ => .nil)
  (.cut 57 (PLift (N57 s)) (fun _ => ⟨[(2, .one (.ptr 16 0)), (4, .one (.ptr 17 0)), (7, .one (.bool (numS s))), (14, .one (.str (rs3 s).w)), (11, .one (.str (rs3 s).f)), (12, .one (.bool (rs3 s).pt)), (13, .one (.slc 18)), (18, .one (.str (wf s)))], [(16, some (.cells 25 zsc)), (17, some (.cells 25 (rs3 s).p.sc')), (18, some (.row 3 (.ints .i64 (szZ (rs2 s).w))))], 19⟩)
    (fun _ => .loop 60 (Upto (wf s)) (fun i => ⟨[(2, .one (.ptr 16 0)), (4, .one (.ptr 17 0)), (7, .one (.bool (numS s))), (14, .one (.str (rs3 s).w)), (11, .one (.str (rs3 s).f)), (12, .one (.bool (rs3 s).pt)), (13, .one (.slc 18)), (18, .one (.str (wf s))), (19, .one (.str (flt ((wf s).take i.1)))), (20, .one (.int .i64 i.1))], [(16, some (.cells 25 zsc)), (17, some (.cells 25 (dg1 s).sc')), (18, some (.row 3 (.ints .i64 (szZ (rs2 s).w))))], 19⟩) (fun i => (wf s).length - i.1) (fun _ => .nil)
      (.cut 64 (PLift (N57 s)) (fun _ => ⟨[(2, .one (.ptr 16 0)), (4, .one (.ptr 17 0)), (7, .one (.bool (numS s))), (14, .one (.str (rs3 s).w)), (11, .one (.str (rs3 s).f)), (12, .one (.bool (rs3 s).pt)), (13, .one (.slc 18)), (19, .one (.str (flt (wf s))))], [(16, some (.cells 25 zsc)), (17, some (.cells 25 (dg1 s).sc')), (18, some (.row 3 (.ints .i64 (szZ (rs2 s).w))))], 19⟩)
        (fun _ => .cut 66 Unit (fun _ => ⟨[(2, .one (.ptr 16 0)), (4, .one (.ptr 17 0)), (7, .one (.bool (numS s))), (14, .one (.str (rs3 s).w)), (11, .one (.str (rs3 s).f)), (12, .one (.bool (rs3 s).pt)), (13, .one (.slc 18)), (272, .one (.bool (b65 s)))], [(16, some (.cells 25 zsc)), (17, some (.cells 25 (dg2 s).sc')), (18, some (.row 3 (.ints .i64 (szZ (rs2 s).w))))], 19⟩) (fun _ => .nil) .nil) .nil)) rest)))
def annF (s : List UInt8) : Ann :=
  .cut 70 Unit (fun _ => ⟨[(2, .one (.ptr 16 0)), (4, .one (.ptr 17 0)), (7, .one (.bool (numS s))), (14, .one (.str (rs3 s).w)), (11, .one (.str (rs3 s).f)), (12, .one (.bool (rs3 s).pt)), (13, .one (.slc 18)), (293, .one (.bool (b69 s)))], [(16, some (.cells 25 zsc)), (17, some (.cells 25 (rs4 s).p.sc')), (18, some (.row 3 (.ints .i64 (szZ (rs2 s).w))))], 19⟩) (fun _ => .nil)
  (.cut 71 (PLift (N69 s ∧ b69 s = false)) (fun _ => ⟨[(2, .one (.ptr 16 0)), (4, .one (.ptr 17 0)), (7, .one (.bool (numS s))), (14, .one (.str (rs3 s).w)), (11, .one (.str (rs3 s).f)), (12, .one (.bool (rs3 s).pt)), (13, .one (.slc 18))], [(16, some (.cells 25 zsc)), (17, some (.cells 25 (rs4 s).p.sc')), (18, some (.row 3 (.ints .i64 (szZ (rs2 s).w))))], 19⟩) (fun _ => .turns 72 8 (fun _ => .nil) .nil) .nil)
def annN (s : List UInt8) : Ann :=
  annA s (.cut 12 (PLift ((rs1 s).c = 0)) (fun _ => ⟨[(2, .one (.ptr 16 0)), (4, .one (.ptr 17 0)), (7, .one (.bool (numS s))), (5, .one (.str (numB s)))], [(16, some (.cells 25 zsc)), (17, some (.cells 25 (rs1 s).p.sc'))], 18⟩)
  (fun _ => .cut 18 (PLift ((rs1 s).c = 0 ∧ anyP isOdd (numB s) = false)) (fun _ => ⟨[(2, .one (.ptr 16 0)), (4, .one (.ptr 17 0)), (7, .one (.bool (numS s))), (5, .one (.str (numB s)))], [(16, some (.cells 25 zsc)), (17, some (.cells 25 (rs1 s).p.sc'))], 18⟩)
  (fun _ => .cut 20 Unit (fun _ => ⟨[(2, .one (.ptr 16 0)), (4, .one (.ptr 17 0)), (7, .one (.bool (numS s))), (10, .one (.str (bw s))), (11, .one (.str (bf s))), (12, .one (.bool (bp s))), (105, .one (.bool (b19 s)))], [(16, some (.cells 25 zsc)), (17, some (.cells 25 (rs1 s).p.sc'))], 18⟩) (fun _ => .nil)
  (.cut 23 (PLift (N23 s)) (fun _ => ⟨[(2, .one (.ptr 16 0)), (4, .one (.ptr 17 0)), (7, .one (.bool (numS s))), (10, .one (.str (rs2 s).w)), (11, .one (.str (rs2 s).f)), (12, .one (.bool (rs2 s).pt))], [(16, some (.cells 25 zsc)), (17, some (.cells 25 (rs2 s).p.sc'))], 18⟩)
  (fun _ => .cut 34 (PLift (N23 s)) (fun _ => ⟨[(2, .one (.ptr 16 0)), (4, .one (.ptr 17 0)), (7, .one (.bool (numS s))), (10, .one (.str (rs2 s).w)), (11, .one (.str (rs2 s).f)), (12, .one (.bool (rs2 s).pt)), (13, .one (.slc 18)), (14, .one (.str (splitC 44 (rs2 s).w).flatten))], [(16, some (.cells 25 zsc)), (17, some (.cells 25 (rs2 s).p.sc')), (18, some (.row 3 (.ints .i64 (szZ (rs2 s).w))))], 19⟩)
  (fun _ => .cut 39 (PLift (emptyIn (splitC 44 (rs2 s).w) = false)) (fun _ => ⟨[(2, .one (.ptr 16 0)), (4, .one (.ptr 17 0)), (7, .one (.bool (numS s))), (10, .one (.str (rs2 s).w)), (11, .one (.str (rs2 s).f)), (12, .one (.bool (rs2 s).pt)), (13, .one (.slc 18)), (14, .one (.str (splitC 44 (rs2 s).w).flatten))], [(16, some (.cells 25 zsc)), (17, some (.cells 25 (rs2 s).p.sc')), (18, some (.row 3 (.ints .i64 (szZ (rs2 s).w))))], 19⟩)
  (fun _ => .cut 41 (PLift (emptyIn (splitC 44 (rs2 s).w) = false)) (fun _ => ⟨[(2, .one (.ptr 16 0)), (4, .one (.ptr 17 0)), (7, .one (.bool (numS s))), (10, .one (.str (rs2 s).w)), (11, .one (.str (rs2 s).f)), (12, .one (.bool (rs2 s).pt)), (13, .one (.slc 18)), (14, .one (.str (splitC 44 (rs2 s).w).flatten))], [(16, some (.cells 25 zsc)), (17, some (.cells 25 (g1 s).sc')), (18, some (.row 3 (.ints .i64 (szZ (rs2 s).w))))], 19⟩)
  (fun _ => .cut 43 (PLift (N43 s)) (fun _ => ⟨[(2, .one (.ptr 16 0)), (4, .one (.ptr 17 0)), (7, .one (.bool (numS s))), (14, .one (.str (rs3 s).w)), (11, .one (.str (rs3 s).f)), (12, .one (.bool (rs3 s).pt)), (13, .one (.slc 18))], [(16, some (.cells 25 zsc)), (17, some (.cells 25 (rs3 s).p.sc')), (18, some (.row 3 (.ints .i64 (szZ (rs2 s).w))))], 19⟩)
  (fun _ => .cut 69 (PLift (N69 s)) (fun _ => ⟨[(2, .one (.ptr 16 0)), (4, .one (.ptr 17 0)), (7, .one (.bool (numS s))), (14, .one (.str (rs3 s).w)), (11, .one (.str (rs3 s).f)), (12, .one (.bool (rs3 s).pt)), (13, .one (.slc 18))], [(16, some (.cells 25 zsc)), (17, some (.cells 25 (rs4 s).p.sc')), (18, some (.row 3 (.ints .i64 (szZ (rs2 s).w))))], 19⟩) (fun _ => annF s) (annE s .nil)) .nil) .nil) (annD s)) (annC s)) .nil)) (annB s)) .nil)
theorem AllR_of : ∀ (l : List Prop) (q : Prop), (∀ p ∈ l, p) → q → AllR l q := by
  intro l
  induction l with
  | nil => intro q _ h; exact h
  | cons p l ih => intro q h hq; exact ih _ (fun r hr => h r (List.mem_cons_of_mem _ hr)) ⟨h p (List.mem_cons_self ..), hq⟩
theorem ofRev_of {l : List Prop} (h : ∀ p ∈ l, p) : ofRev l := by
  cases l with
  | nil => trivial
  | cons p l => exact AllR_of l p (fun r hr => h r (List.mem_cons_of_mem _ hr)) (h p (List.mem_cons_self ..))
theorem EqN {p : Num} {a b c d e f g h k : Int} {i : List UInt8} {j l : SC} {pb lb : Bool} (hj : boolOf j = some pb) (hl : boolOf l = some lb) (hp : p = ⟨a, b, c, d, e, f, g, h, i, pb, k, lb⟩) :
    EqL p.sc' [.nils, .nils, .ff, .nils, .nils, .int .i64 a, .int .i64 b, .int .i64 c, .int .i64 d, .int .i64 e, .int .i64 f, .int .i64 g, .int .i64 h, .str i, j, .int .i64 k, l, .int .i64 0, .int .i32 0, .int .i64 0] := by
  subst hp
  unfold EqL
  apply ofRev_of
  simp [psL, psSC, Num.sc', hj, hl]
def sp_r3num : FSpec := ⟨[], fun | [.one (.str s)] => some ([s.length ≤ 1000000000], .tup [(true, (numT s).1.pcs), (false, [.int .i64 (numT s).2])]) | _ => none⟩
theorem vc_r3num (s : List UInt8) : vcP [(40, sp_r3cut), (42, sp_r3count), (41, sp_r3strip), (43, sp_r3rows)] [] misc Tryz.f18 (annN s) [.one (.str s)] (.tup [(true, (numT s).1.pcs), (false, [.int .i64 (numT s).2])]) = (letI v0 := (([] : List Itm) = [] ∧ ([] : List Itm) = [] ∧ false = false ∧ ([] : List Itm) = [] ∧ ([] : List Itm) = [] ∧ (0 : Int) = Num.mi (numT s).1 ∧ (0 : Int) = Num.xi (numT s).1 ∧ (0 : Int) = Num.mf (numT s).1 ∧ (0 : Int) = Num.xf (numT s).1 ∧ (0 : Int) = Num.ms (numT s).1 ∧ (0 : Int) = Num.xs (numT s).1 ∧ (0 : Int) = Num.pr (numT s).1 ∧ (0 : Int) = Num.sc (numT s).1 ∧ [] = Num.inc (numT s).1 ∧ false = Num.ps (numT s).1 ∧ (0 : Int) = Num.me (numT s).1 ∧ false = Num.px (numT s).1 ∧ (0 : Int) = (0 : Int) ∧ (0 : Int) = (0 : Int) ∧ (0 : Int) = (0 : Int)); letI v1 := (↑(List.length (szZ (RS.w (rs2 s)))) : Int); letI v2 := (splitC (44 : UInt8) (RS.w (rs2 s))); letI v3 := (↑(List.length (RS.w (rs3 s))) : Int); letI v4 := (↑(List.length (Num.inc (RS.p (rs4 s)))) : Int); letI v5 := (v0 ∧ (8 : Int) = (numT s).2); letI v6 := ((0 : Int) + (1 : Int) + (1 : Int) + (1 : Int) + (1 : Int) + (1 : Int) + (1 : Int)); letI v7 := (↑(cntC (64 : Int) (RS.w (rs3 s))) : Int); letI v8 := ((0 : Int) + (1 : Int) + (1 : Int) + (1 : Int) + (1 : Int) + (1 : Int)); letI v9 := (v0 ∧ (4 : Int) = (numT s).2); letI v10 := ((0 : Int) + (1 : Int) + (1 : Int) + (1 : Int) + (1 : Int)); letI v11 := (↑(List.length (RS.w (rs2 s))) : Int); letI v12 := ((0 : Int) ≤ (35 : Int) ∧ (35 : Int) < (256 : Int)); letI v13 := ((0 : Int) + (1 : Int) + (1 : Int) + (1 : Int)); letI v14 := (↑(List.length (cutI (69 : Int) s).2.1) : Int); letI v15 := (List.getD (szZ (RS.w (rs2 s))) (Int.toNat (v1 - (1 : Int))) (0 : Int)); (List.length s ≤ (1000000000000 : Nat) ∧ br (cutI (69 : Int) s).2.2 (br (decide (v14 > (0 : Int))) (((0 : Int) ≤ (0 : Int) ∧ (0 : Int) < v14) ∧ br (bAt (cutI (69 : Int) s).2.1 (0 : Int) == (43 : Int)) (((0 : Int) ≤ (1 : Int) ∧ (1 : Int) ≤ v14) ∧ ∃ (j : PLift (numS s = true)), (cutI (69 : Int) s).2.2 = numS s ∧ (cutI (69 : Int) s).1 = numB s ∧ List.drop (Int.toNat (1 : Int)) (cutI (69 : Int) s).2.1 = xt s ∧ EqL zsc [SC.nils, SC.nils, SC.ff, SC.nils, SC.nils, SC.int IntKind.i64 (0 : Int), SC.int IntKind.i64 (0 : Int), SC.int IntKind.i64 (0 : Int), SC.int IntKind.i64 (0 : Int), SC.int IntKind.i64 (0 : Int), SC.int IntKind.i64 (0 : Int), SC.int IntKind.i64 (0 : Int), SC.int IntKind.i64 (0 : Int), SC.str [], SC.ff, SC.int IntKind.i64 (0 : Int), SC.ff, SC.int IntKind.i64 (0 : Int), SC.int IntKind.i32 (0 : Int), SC.int IntKind.i64 (0 : Int)] ∧ EqL (Num.sc' (xp s)) [SC.nils, SC.nils, SC.ff, SC.nils, SC.nils, SC.int IntKind.i64 (0 : Int), SC.int IntKind.i64 (0 : Int), SC.int IntKind.i64 (0 : Int), SC.int IntKind.i64 (0 : Int), SC.int IntKind.i64 (0 : Int), SC.int IntKind.i64 (0 : Int), SC.int IntKind.i64 (0 : Int), SC.int IntKind.i64 (0 : Int), SC.str [], SC.ff, SC.int IntKind.i64 (0 : Int), SC.tt, SC.int IntKind.i64 (0 : Int), SC.int IntKind.i32 (0 : Int), SC.int IntKind.i64 (0 : Int)]) (∃ (j : PLift (numS s = true)), (cutI (69 : Int) s).2.2 = numS s ∧ (cutI (69 : Int) s).1 = numB s ∧ (cutI (69 : Int) s).2.1 = xt s ∧ EqL zsc [SC.nils, SC.nils, SC.ff, SC.nils, SC.nils, SC.int IntKind.i64 (0 : Int), SC.int IntKind.i64 (0 : Int), SC.int IntKind.i64 (0 : Int), SC.int IntKind.i64 (0 : Int), SC.int IntKind.i64 (0 : Int), SC.int IntKind.i64 (0 : Int), SC.int IntKind.i64 (0 : Int), SC.int IntKind.i64 (0 : Int), SC.str [], SC.ff, SC.int IntKind.i64 (0 : Int), SC.ff, SC.int IntKind.i64 (0 : Int), SC.int IntKind.i32 (0 : Int), SC.int IntKind.i64 (0 : Int)] ∧ EqL (Num.sc' (xp s)) [SC.nils, SC.nils, SC.ff, SC.nils, SC.nils, SC.int IntKind.i64 (0 : Int), SC.int IntKind.i64 (0 : Int), SC.int IntKind.i64 (0 : Int), SC.int IntKind.i64 (0 : Int), SC.int IntKind.i64 (0 : Int), SC.int IntKind.i64 (0 : Int), SC.int IntKind.i64 (0 : Int), SC.int IntKind.i64 (0 : Int), SC.str [], SC.ff, SC.int IntKind.i64 (0 : Int), SC.ff, SC.int IntKind.i64 (0 : Int), SC.int IntKind.i32 (0 : Int), SC.int IntKind.i64 (0 : Int)])) (∃ (j : PLift (numS s = true)), (cutI (69 : Int) s).2.2 = numS s ∧ (cutI (69 : Int) s).1 = numB s ∧ (cutI (69 : Int) s).2.1 = xt s ∧ EqL zsc [SC.nils, SC.nils, SC.ff, SC.nils, SC.nils, SC.int IntKind.i64 (0 : Int), SC.int IntKind.i64 (0 : Int), SC.int IntKind.i64 (0 : Int), SC.int IntKind.i64 (0 : Int), SC.int IntKind.i64 (0 : Int), SC.int IntKind.i64 (0 : Int), SC.int IntKind.i64 (0 : Int), SC.int IntKind.i64 (0 : Int), SC.str [], SC.ff, SC.int IntKind.i64 (0 : Int), SC.ff, SC.int IntKind.i64 (0 : Int), SC.int IntKind.i32 (0 : Int), SC.int IntKind.i64 (0 : Int)] ∧ EqL (Num.sc' (xp s)) [SC.nils, SC.nils, SC.ff, SC.nils, SC.nils, SC.int IntKind.i64 (0 : Int), SC.int IntKind.i64 (0 : Int), SC.int IntKind.i64 (0 : Int), SC.int IntKind.i64 (0 : Int), SC.int IntKind.i64 (0 : Int), SC.int IntKind.i64 (0 : Int), SC.int IntKind.i64 (0 : Int), SC.int IntKind.i64 (0 : Int), SC.str [], SC.ff, SC.int IntKind.i64 (0 : Int), SC.ff, SC.int IntKind.i64 (0 : Int), SC.int IntKind.i32 (0 : Int), SC.int IntKind.i64 (0 : Int)]) ∧ ∀ (j : PLift (numS s = true)), br (decide (xt s = Array.toList #[])) (∃ (j : Unit), numS s = numS s ∧ numB s = numB s ∧ xt s = xt s ∧ true = b7 s ∧ EqL zsc zsc ∧ EqL (Num.sc' (xp s)) (Num.sc' (xp s))) (List.length (xt s) ≤ (1000000000000 : Nat) ∧ ∃ (j : Unit), numS s = numS s ∧ numB s = numB s ∧ xt s = xt s ∧ (!decide (dropP (fun (x : Int) => x == (48 : Int)) (xt s) = Array.toList #[])) = b7 s ∧ EqL zsc zsc ∧ EqL (Num.sc' (xp s)) (Num.sc' (xp s))) ∧ ∀ (j : Unit), br (b7 s) v9 (br (decide ((↑(List.length (xt s)) : Int) > (9 : Int))) v5 (∃ (j : PLift (RS.c (rs1 s) = (0 : Int))), numS s = numS s ∧ numB s = numB s ∧ EqL zsc zsc ∧ EqL (Num.sc' (RS.p (rs1 s))) [SC.nils, SC.nils, SC.ff, SC.nils, SC.nils, SC.int IntKind.i64 (Num.mi (xp s)), SC.int IntKind.i64 (Num.xi (xp s)), SC.int IntKind.i64 (Num.mf (xp s)), SC.int IntKind.i64 (Num.xf (xp s)), SC.int IntKind.i64 (Num.ms (xp s)), SC.int IntKind.i64 (Num.xs (xp s)), SC.int IntKind.i64 (Num.pr (xp s)), SC.int IntKind.i64 (Num.sc (xp s)), SC.str (Num.inc (xp s)), SC.tt, SC.int IntKind.i64 (↑(List.length (xt s)) : Int), SC.bool (Num.px (xp s)), SC.int IntKind.i64 (0 : Int), SC.int IntKind.i32 (0 : Int), SC.int IntKind.i64 (0 : Int)]))) (∃ (j : PLift (RS.c (rs1 s) = (0 : Int))), (cutI (69 : Int) s).2.2 = numS s ∧ (cutI (69 : Int) s).1 = numB s ∧ EqL zsc [SC.nils, SC.nils, SC.ff, SC.nils, SC.nils, SC.int IntKind.i64 (0 : Int), SC.int IntKind.i64 (0 : Int), SC.int IntKind.i64 (0 : Int), SC.int IntKind.i64 (0 : Int), SC.int IntKind.i64 (0 : Int), SC.int IntKind.i64 (0 : Int), SC.int IntKind.i64 (0 : Int), SC.int IntKind.i64 (0 : Int), SC.str [], SC.ff, SC.int IntKind.i64 (0 : Int), SC.ff, SC.int IntKind.i64 (0 : Int), SC.int IntKind.i32 (0 : Int), SC.int IntKind.i64 (0 : Int)] ∧ EqL (Num.sc' (RS.p (rs1 s))) [SC.nils, SC.nils, SC.ff, SC.nils, SC.nils, SC.int IntKind.i64 (0 : Int), SC.int IntKind.i64 (0 : Int), SC.int IntKind.i64 (0 : Int), SC.int IntKind.i64 (0 : Int), SC.int IntKind.i64 (0 : Int), SC.int IntKind.i64 (0 : Int), SC.int IntKind.i64 (0 : Int), SC.int IntKind.i64 (0 : Int), SC.str [], SC.ff, SC.int IntKind.i64 (0 : Int), SC.ff, SC.int IntKind.i64 (0 : Int), SC.int IntKind.i32 (0 : Int), SC.int IntKind.i64 (0 : Int)]) ∧ ∀ (j : PLift (RS.c (rs1 s) = (0 : Int))), ((∃ (x : OB s), numS s = numS s ∧ numB s = numB s ∧ (0 : Int) = (↑(Subtype.val x) : Int) ∧ EqL zsc zsc ∧ EqL (Num.sc' (RS.p (rs1 s))) (Num.sc' (RS.p (rs1 s)))) ∧ ∀ (x : OB s), br (decide ((↑(Subtype.val x) : Int) < (↑(List.length (numB s)) : Int))) (((0 : Int) ≤ (↑(Subtype.val x) : Int) ∧ (↑(Subtype.val x) : Int) < (↑(List.length (numB s)) : Int)) ∧ br (bAt (numB s) (↑(Subtype.val x) : Int) != (35 : Int)) (br (bAt (numB s) (↑(Subtype.val x) : Int) != (64 : Int)) (br (bAt (numB s) (↑(Subtype.val x) : Int) != (44 : Int)) (br (bAt (numB s) (↑(Subtype.val x) : Int) != (46 : Int)) (br (decide (bAt (numB s) (↑(Subtype.val x) : Int) < (48 : Int))) (∃ (j : Unit), numS s = numS s ∧ numB s = numB s ∧ (↑(Subtype.val x) : Int) = (↑(Subtype.val x) : Int) ∧ true = isOdd (bAt (numB s) (↑(Subtype.val x) : Int)) ∧ EqL zsc zsc ∧ EqL (Num.sc' (RS.p (rs1 s))) (Num.sc' (RS.p (rs1 s)))) (∃ (j : Unit), numS s = numS s ∧ numB s = numB s ∧ (↑(Subtype.val x) : Int) = (↑(Subtype.val x) : Int) ∧ decide (bAt (numB s) (↑(Subtype.val x) : Int) > (57 : Int)) = isOdd (bAt (numB s) (↑(Subtype.val x) : Int)) ∧ EqL zsc zsc ∧ EqL (Num.sc' (RS.p (rs1 s))) (Num.sc' (RS.p (rs1 s))))) (∃ (j : Unit), numS s = numS s ∧ numB s = numB s ∧ (↑(Subtype.val x) : Int) = (↑(Subtype.val x) : Int) ∧ false = isOdd (bAt (numB s) (↑(Subtype.val x) : Int)) ∧ EqL zsc zsc ∧ EqL (Num.sc' (RS.p (rs1 s))) (Num.sc' (RS.p (rs1 s))))) (∃ (j : Unit), numS s = numS s ∧ numB s = numB s ∧ (↑(Subtype.val x) : Int) = (↑(Subtype.val x) : Int) ∧ false = isOdd (bAt (numB s) (↑(Subtype.val x) : Int)) ∧ EqL zsc zsc ∧ EqL (Num.sc' (RS.p (rs1 s))) (Num.sc' (RS.p (rs1 s))))) (∃ (j : Unit), numS s = numS s ∧ numB s = numB s ∧ (↑(Subtype.val x) : Int) = (↑(Subtype.val x) : Int) ∧ false = isOdd (bAt (numB s) (↑(Subtype.val x) : Int)) ∧ EqL zsc zsc ∧ EqL (Num.sc' (RS.p (rs1 s))) (Num.sc' (RS.p (rs1 s))))) (∃ (j : Unit), numS s = numS s ∧ numB s = numB s ∧ (↑(Subtype.val x) : Int) = (↑(Subtype.val x) : Int) ∧ false = isOdd (bAt (numB s) (↑(Subtype.val x) : Int)) ∧ EqL zsc zsc ∧ EqL (Num.sc' (RS.p (rs1 s))) (Num.sc' (RS.p (rs1 s)))) ∧ ∀ (j : Unit), br (isOdd (bAt (numB s) (↑(Subtype.val x) : Int))) v9 (inR IntKind.i64 ((↑(Subtype.val x) : Int) + (1 : Int)) ∧ ∃ (x' : OB s), (numS s = numS s ∧ numB s = numB s ∧ (↑(Subtype.val x) : Int) + (1 : Int) = (↑(Subtype.val x') : Int) ∧ EqL zsc zsc ∧ EqL (Num.sc' (RS.p (rs1 s))) (Num.sc' (RS.p (rs1 s)))) ∧ List.length (numB s) - Subtype.val x' < List.length (numB s) - Subtype.val x)) (∃ (j : PLift (RS.c (rs1 s) = (0 : Int) ∧ anyP isOdd (numB s) = false)), numS s = numS s ∧ numB s = numB s ∧ EqL zsc zsc ∧ EqL (Num.sc' (RS.p (rs1 s))) (Num.sc' (RS.p (rs1 s))))) ∧ ∀ (j : PLift (RS.c (rs1 s) = (0 : Int) ∧ anyP isOdd (numB s) = false)), List.length (numB s) ≤ (1000000000000 : Nat) ∧ (List.length (cutI (46 : Int) (numB s)).2.1 ≤ (1000000000000 : Nat) ∧ br (decide ((↑(cntC (46 : Int) (cutI (46 : Int) (numB s)).2.1) : Int) > (0 : Int))) (∃ (j : Unit), numS s = numS s ∧ (cutI (46 : Int) (numB s)).1 = bw s ∧ (cutI (46 : Int) (numB s)).2.1 = bf s ∧ (cutI (46 : Int) (numB s)).2.2 = bp s ∧ true = b19 s ∧ EqL zsc zsc ∧ EqL (Num.sc' (RS.p (rs1 s))) (Num.sc' (RS.p (rs1 s)))) (br (cutI (46 : Int) (numB s)).2.2 (∃ (j : Unit), numS s = numS s ∧ (cutI (46 : Int) (numB s)).1 = bw s ∧ (cutI (46 : Int) (numB s)).2.1 = bf s ∧ (cutI (46 : Int) (numB s)).2.2 = bp s ∧ decide ((cutI (46 : Int) (numB s)).2.1 = Array.toList #[]) = b19 s ∧ EqL zsc zsc ∧ EqL (Num.sc' (RS.p (rs1 s))) (Num.sc' (RS.p (rs1 s)))) (∃ (j : Unit), numS s = numS s ∧ (cutI (46 : Int) (numB s)).1 = bw s ∧ (cutI (46 : Int) (numB s)).2.1 = bf s ∧ (cutI (46 : Int) (numB s)).2.2 = bp s ∧ false = b19 s ∧ EqL zsc zsc ∧ EqL (Num.sc' (RS.p (rs1 s))) (Num.sc' (RS.p (rs1 s)))))) ∧ ∀ (j : Unit), br (b19 s) v9 ((List.length (bf s) ≤ (1000000000000 : Nat) ∧ br (decide ((↑(cntC (44 : Int) (bf s)) : Int) > (0 : Int))) (v0 ∧ (5 : Int) = (numT s).2) (∃ (j : PLift (N23 s)), numS s = numS s ∧ bw s = RS.w (rs2 s) ∧ bf s = RS.f (rs2 s) ∧ bp s = RS.pt (rs2 s) ∧ EqL zsc zsc ∧ EqL (Num.sc' (RS.p (rs2 s))) (Num.sc' (RS.p (rs1 s))))) ∧ ∀ (j : PLift (N23 s)), ((∃ (x : E27 s), numS s = numS s ∧ RS.w (rs2 s) = RS.w (rs2 s) ∧ RS.f (rs2 s) = RS.f (rs2 s) ∧ RS.pt (rs2 s) = RS.pt (rs2 s) ∧ Array.toList #[] = E27.pl x ∧ (0 : Int) = E27.n x ∧ (0 : Int) = (↑(E27.i x) : Int) ∧ EqL zsc zsc ∧ EqL (Num.sc' (RS.p (rs2 s))) (Num.sc' (RS.p (rs2 s))) ∧ E27.ps x = []) ∧ ∀ (x : E27 s), br (decide ((↑(E27.i x) : Int) ≤ v11)) (br (decide ((↑(E27.i x) : Int) < v11)) (((0 : Int) ≤ (↑(E27.i x) : Int) ∧ (↑(E27.i x) : Int) < v11) ∧ ∃ (j : Unit), numS s = numS s ∧ RS.w (rs2 s) = RS.w (rs2 s) ∧ RS.f (rs2 s) = RS.f (rs2 s) ∧ RS.pt (rs2 s) = RS.pt (rs2 s) ∧ E27.pl x = E27.pl x ∧ E27.n x = E27.n x ∧ (↑(E27.i x) : Int) = (↑(E27.i x) : Int) ∧ (bAt (RS.w (rs2 s)) (↑(E27.i x) : Int) != (44 : Int)) = b29 s (E27.i x) ∧ EqL zsc zsc ∧ EqL (Num.sc' (RS.p (rs2 s))) (Num.sc' (RS.p (rs2 s))) ∧ E27.ps x = E27.ps x) (∃ (j : Unit), numS s = numS s ∧ RS.w (rs2 s) = RS.w (rs2 s) ∧ RS.f (rs2 s) = RS.f (rs2 s) ∧ RS.pt (rs2 s) = RS.pt (rs2 s) ∧ E27.pl x = E27.pl x ∧ E27.n x = E27.n x ∧ (↑(E27.i x) : Int) = (↑(E27.i x) : Int) ∧ false = b29 s (E27.i x) ∧ EqL zsc zsc ∧ EqL (Num.sc' (RS.p (rs2 s))) (Num.sc' (RS.p (rs2 s))) ∧ E27.ps x = E27.ps x) ∧ ∀ (j : Unit), br (b29 s (E27.i x)) (inR IntKind.i64 ((↑(E27.i x) : Int) + (1 : Int)) ∧ ((0 : Int) ≤ (↑(E27.i x) : Int) ∧ (↑(E27.i x) : Int) ≤ (↑(E27.i x) : Int) + (1 : Int) ∧ (↑(E27.i x) : Int) + (1 : Int) ≤ v11) ∧ List.length (E27.pl x) + List.length (List.drop (Int.toNat (↑(E27.i x) : Int)) (List.take (Int.toNat ((↑(E27.i x) : Int) + (1 : Int))) (RS.w (rs2 s)))) ≤ (9223372036854775807 : Nat) ∧ inR IntKind.i64 (E27.n x + (1 : Int)) ∧ inR IntKind.i64 ((↑(E27.i x) : Int) + (1 : Int)) ∧ ∃ (x' : E27 s), (numS s = numS s ∧ RS.w (rs2 s) = RS.w (rs2 s) ∧ RS.f (rs2 s) = RS.f (rs2 s) ∧ RS.pt (rs2 s) = RS.pt (rs2 s) ∧ E27.pl x ++ List.drop (Int.toNat (↑(E27.i x) : Int)) (List.take (Int.toNat ((↑(E27.i x) : Int) + (1 : Int))) (RS.w (rs2 s))) = E27.pl x' ∧ E27.n x + (1 : Int) = E27.n x' ∧ (↑(E27.i x) : Int) + (1 : Int) = (↑(E27.i x') : Int) ∧ EqL zsc zsc ∧ EqL (Num.sc' (RS.p (rs2 s))) (Num.sc' (RS.p (rs2 s))) ∧ E27.ps x = E27.ps x') ∧ List.length (RS.w (rs2 s)) + (1 : Nat) - E27.i x' < List.length (RS.w (rs2 s)) + (1 : Nat) - E27.i x) ((List.length (E27.ps x) + (1 : Nat)) * (8 : Nat) ≤ (140737488355328 : Nat) ∧ inR IntKind.i64 ((↑(E27.i x) : Int) + (1 : Int)) ∧ ∃ (x' : E27 s), (numS s = numS s ∧ RS.w (rs2 s) = RS.w (rs2 s) ∧ RS.f (rs2 s) = RS.f (rs2 s) ∧ RS.pt (rs2 s) = RS.pt (rs2 s) ∧ E27.pl x = E27.pl x' ∧ (0 : Int) = E27.n x' ∧ (↑(E27.i x) : Int) + (1 : Int) = (↑(E27.i x') : Int) ∧ EqL zsc zsc ∧ EqL (Num.sc' (RS.p (rs2 s))) (Num.sc' (RS.p (rs2 s))) ∧ E27.ps x ++ [E27.n x] = E27.ps x') ∧ List.length (RS.w (rs2 s)) + (1 : Nat) - E27.i x' < List.length (RS.w (rs2 s)) + (1 : Nat) - E27.i x)) (∃ (j : PLift (N23 s)), numS s = numS s ∧ RS.w (rs2 s) = RS.w (rs2 s) ∧ RS.f (rs2 s) = RS.f (rs2 s) ∧ RS.pt (rs2 s) = RS.pt (rs2 s) ∧ E27.pl x = List.flatten v2 ∧ EqL zsc zsc ∧ EqL (Num.sc' (RS.p (rs2 s))) (Num.sc' (RS.p (rs2 s))) ∧ E27.ps x = szZ (RS.w (rs2 s)))) ∧ ∀ (j : PLift (N23 s)), ((∃ (x : I35 s), numS s = numS s ∧ RS.w (rs2 s) = RS.w (rs2 s) ∧ RS.f (rs2 s) = RS.f (rs2 s) ∧ RS.pt (rs2 s) = RS.pt (rs2 s) ∧ List.flatten v2 = List.flatten v2 ∧ (0 : Int) = (↑(Subtype.val x) : Int) ∧ EqL zsc zsc ∧ EqL (Num.sc' (RS.p (rs2 s))) (Num.sc' (RS.p (rs2 s))) ∧ szZ (RS.w (rs2 s)) = szZ (RS.w (rs2 s))) ∧ ∀ (x : I35 s), br (decide ((↑(Subtype.val x) : Int) < v1)) (br (decide (v1 > (1 : Int))) (((0 : Int) ≤ (↑(Subtype.val x) : Int) ∧ (↑(Subtype.val x) : Int) < v1) ∧ Int.toNat (↑(Subtype.val x) : Int) < List.length (szZ (RS.w (rs2 s))) ∧ ∃ (j : Unit), numS s = numS s ∧ RS.w (rs2 s) = RS.w (rs2 s) ∧ RS.f (rs2 s) = RS.f (rs2 s) ∧ RS.pt (rs2 s) = RS.pt (rs2 s) ∧ List.flatten v2 = List.flatten v2 ∧ (↑(Subtype.val x) : Int) = (↑(Subtype.val x) : Int) ∧ (List.getD (szZ (RS.w (rs2 s))) (Int.toNat (↑(Subtype.val x) : Int)) (0 : Int) == (0 : Int)) = b37 s (Subtype.val x) ∧ EqL zsc zsc ∧ EqL (Num.sc' (RS.p (rs2 s))) (Num.sc' (RS.p (rs2 s))) ∧ szZ (RS.w (rs2 s)) = szZ (RS.w (rs2 s))) (∃ (j : Unit), numS s = numS s ∧ RS.w (rs2 s) = RS.w (rs2 s) ∧ RS.f (rs2 s) = RS.f (rs2 s) ∧ RS.pt (rs2 s) = RS.pt (rs2 s) ∧ List.flatten v2 = List.flatten v2 ∧ (↑(Subtype.val x) : Int) = (↑(Subtype.val x) : Int) ∧ false = b37 s (Subtype.val x) ∧ EqL zsc zsc ∧ EqL (Num.sc' (RS.p (rs2 s))) (Num.sc' (RS.p (rs2 s))) ∧ szZ (RS.w (rs2 s)) = szZ (RS.w (rs2 s))) ∧ ∀ (j : Unit), br (b37 s (Subtype.val x)) (v0 ∧ (5 : Int) = (numT s).2) (inR IntKind.i64 ((↑(Subtype.val x) : Int) + (1 : Int)) ∧ ∃ (x' : I35 s), (numS s = numS s ∧ RS.w (rs2 s) = RS.w (rs2 s) ∧ RS.f (rs2 s) = RS.f (rs2 s) ∧ RS.pt (rs2 s) = RS.pt (rs2 s) ∧ List.flatten v2 = List.flatten v2 ∧ (↑(Subtype.val x) : Int) + (1 : Int) = (↑(Subtype.val x') : Int) ∧ EqL zsc zsc ∧ EqL (Num.sc' (RS.p (rs2 s))) (Num.sc' (RS.p (rs2 s))) ∧ szZ (RS.w (rs2 s)) = szZ (RS.w (rs2 s))) ∧ List.length (szZ (RS.w (rs2 s))) - Subtype.val x' < List.length (szZ (RS.w (rs2 s))) - Subtype.val x)) (∃ (j : PLift (emptyIn v2 = false)), numS s = numS s ∧ RS.w (rs2 s) = RS.w (rs2 s) ∧ RS.f (rs2 s) = RS.f (rs2 s) ∧ RS.pt (rs2 s) = RS.pt (rs2 s) ∧ List.flatten v2 = List.flatten v2 ∧ EqL zsc zsc ∧ EqL (Num.sc' (RS.p (rs2 s))) (Num.sc' (RS.p (rs2 s))) ∧ szZ (RS.w (rs2 s)) = szZ (RS.w (rs2 s)))) ∧ ∀ (j : PLift (emptyIn v2 = false)), br (decide (v1 > (1 : Int))) (inR IntKind.i64 (v1 - (1 : Int)) ∧ ((0 : Int) ≤ v1 - (1 : Int) ∧ v1 - (1 : Int) < v1) ∧ Int.toNat (v1 - (1 : Int)) < List.length (szZ (RS.w (rs2 s))) ∧ inR IntKind.i64 (v1 - (1 : Int)) ∧ ((0 : Int) ≤ v1 - (1 : Int) ∧ v1 - (1 : Int) < v1) ∧ Int.toNat (v1 - (1 : Int)) < List.length (szZ (RS.w (rs2 s))) ∧ ∃ (j : PLift (emptyIn v2 = false)), numS s = numS s ∧ RS.w (rs2 s) = RS.w (rs2 s) ∧ RS.f (rs2 s) = RS.f (rs2 s) ∧ RS.pt (rs2 s) = RS.pt (rs2 s) ∧ List.flatten v2 = List.flatten v2 ∧ EqL zsc zsc ∧ EqL (Num.sc' (g1 s)) [SC.nils, SC.nils, SC.ff, SC.nils, SC.nils, SC.int IntKind.i64 (Num.mi (RS.p (rs2 s))), SC.int IntKind.i64 (Num.xi (RS.p (rs2 s))), SC.int IntKind.i64 (Num.mf (RS.p (rs2 s))), SC.int IntKind.i64 (Num.xf (RS.p (rs2 s))), SC.int IntKind.i64 (Num.ms (RS.p (rs2 s))), SC.int IntKind.i64 (Num.xs (RS.p (rs2 s))), SC.int IntKind.i64 v15, SC.int IntKind.i64 v15, SC.str (Num.inc (RS.p (rs2 s))), SC.bool (Num.ps (RS.p (rs2 s))), SC.int IntKind.i64 (Num.me (RS.p (rs2 s))), SC.bool (Num.px (RS.p (rs2 s))), SC.int IntKind.i64 (0 : Int), SC.int IntKind.i32 (0 : Int), SC.int IntKind.i64 (0 : Int)] ∧ szZ (RS.w (rs2 s)) = szZ (RS.w (rs2 s))) (∃ (j : PLift (emptyIn v2 = false)), numS s = numS s ∧ RS.w (rs2 s) = RS.w (rs2 s) ∧ RS.f (rs2 s) = RS.f (rs2 s) ∧ RS.pt (rs2 s) = RS.pt (rs2 s) ∧ List.flatten v2 = List.flatten v2 ∧ EqL zsc zsc ∧ EqL (Num.sc' (g1 s)) (Num.sc' (RS.p (rs2 s))) ∧ szZ (RS.w (rs2 s)) = szZ (RS.w (rs2 s))) ∧ ∀ (j : PLift (emptyIn v2 = false)), br (decide (v1 > (2 : Int))) (inR IntKind.i64 (v1 - (2 : Int)) ∧ ((0 : Int) ≤ v1 - (2 : Int) ∧ v1 - (2 : Int) < v1) ∧ Int.toNat (v1 - (2 : Int)) < List.length (szZ (RS.w (rs2 s))) ∧ ∃ (j : PLift (N43 s)), numS s = numS s ∧ List.flatten v2 = RS.w (rs3 s) ∧ RS.f (rs2 s) = RS.f (rs3 s) ∧ RS.pt (rs2 s) = RS.pt (rs3 s) ∧ EqL zsc zsc ∧ EqL (Num.sc' (RS.p (rs3 s))) [SC.nils, SC.nils, SC.ff, SC.nils, SC.nils, SC.int IntKind.i64 (Num.mi (g1 s)), SC.int IntKind.i64 (Num.xi (g1 s)), SC.int IntKind.i64 (Num.mf (g1 s)), SC.int IntKind.i64 (Num.xf (g1 s)), SC.int IntKind.i64 (Num.ms (g1 s)), SC.int IntKind.i64 (Num.xs (g1 s)), SC.int IntKind.i64 (Num.pr (g1 s)), SC.int IntKind.i64 (List.getD (szZ (RS.w (rs2 s))) (Int.toNat (v1 - (2 : Int))) (0 : Int)), SC.str (Num.inc (g1 s)), SC.bool (Num.ps (g1 s)), SC.int IntKind.i64 (Num.me (g1 s)), SC.bool (Num.px (g1 s)), SC.int IntKind.i64 (0 : Int), SC.int IntKind.i32 (0 : Int), SC.int IntKind.i64 (0 : Int)] ∧ szZ (RS.w (rs2 s)) = szZ (RS.w (rs2 s))) (∃ (j : PLift (N43 s)), numS s = numS s ∧ List.flatten v2 = RS.w (rs3 s) ∧ RS.f (rs2 s) = RS.f (rs3 s) ∧ RS.pt (rs2 s) = RS.pt (rs3 s) ∧ EqL zsc zsc ∧ EqL (Num.sc' (RS.p (rs3 s))) (Num.sc' (g1 s)) ∧ szZ (RS.w (rs2 s)) = szZ (RS.w (rs2 s))) ∧ ∀ (j : PLift (N43 s)), List.length (RS.w (rs3 s)) + List.length (RS.f (rs3 s)) ≤ (9223372036854775807 : Nat) ∧ br (decide (RS.w (rs3 s) ++ RS.f (rs3 s) = Array.toList #[])) v9 ((List.length (RS.w (rs3 s) ++ RS.f (rs3 s)) ≤ (1000000000000 : Nat) ∧ br (decide ((↑(cntC (64 : Int) (RS.w (rs3 s) ++ RS.f (rs3 s))) : Int) > (0 : Int))) (br (RS.pt (rs3 s)) (∃ (j : Unit), numS s = numS s ∧ RS.w (rs3 s) = RS.w (rs3 s) ∧ RS.f (rs3 s) = RS.f (rs3 s) ∧ RS.pt (rs3 s) = RS.pt (rs3 s) ∧ true = b47 s ∧ EqL zsc zsc ∧ EqL (Num.sc' (RS.p (rs3 s))) (Num.sc' (RS.p (rs3 s))) ∧ szZ (RS.w (rs2 s)) = szZ (RS.w (rs2 s))) (List.length (RS.w (rs3 s)) ≤ (1000000000000 : Nat) ∧ ∃ (j : Unit), numS s = numS s ∧ RS.w (rs3 s) = RS.w (rs3 s) ∧ RS.f (rs3 s) = RS.f (rs3 s) ∧ RS.pt (rs3 s) = RS.pt (rs3 s) ∧ decide ((↑(cntC (48 : Int) (RS.w (rs3 s))) : Int) > (0 : Int)) = b47 s ∧ EqL zsc zsc ∧ EqL (Num.sc' (RS.p (rs3 s))) (Num.sc' (RS.p (rs3 s))) ∧ szZ (RS.w (rs2 s)) = szZ (RS.w (rs2 s))) ∧ ∀ (j : Unit), br (b47 s) (v0 ∧ (6 : Int) = (numT s).2) ((List.length (RS.w (rs3 s)) ≤ (1000000000000 : Nat) ∧ (v12 ∧ ((0 : Int) ≤ (64 : Int) ∧ (64 : Int) < (256 : Int)) ∧ (0 : Int) ≤ (35 : Int) ∧ (35 : Int) < (256 : Int)) ∧ br (!decide (rowsF (35 : Int) (64 : Int) (35 : Int) (0 : Nat) (RS.w (rs3 s)) = [])) v9 (∃ (j : PLift (N51 s)), numS s = numS s ∧ RS.w (rs3 s) = RS.w (rs3 s) ∧ RS.f (rs3 s) = RS.f (rs3 s) ∧ RS.pt (rs3 s) = RS.pt (rs3 s) ∧ EqL zsc zsc ∧ EqL (Num.sc' (RS.p (rs3 s))) (Num.sc' (RS.p (rs3 s))) ∧ szZ (RS.w (rs2 s)) = szZ (RS.w (rs2 s)))) ∧ ∀ (j : PLift (N51 s)), List.length (RS.w (rs3 s)) ≤ (1000000000000 : Nat) ∧ (∃ (x : J53 s), numS s = numS s ∧ RS.w (rs3 s) = RS.w (rs3 s) ∧ RS.f (rs3 s) = RS.f (rs3 s) ∧ RS.pt (rs3 s) = RS.pt (rs3 s) ∧ EqL zsc zsc ∧ EqL (Num.sc' { mi := Num.mi (RS.p (rs3 s)), xi := Num.xi (RS.p (rs3 s)), mf := Num.mf (RS.p (rs3 s)), xf := Num.xf (RS.p (rs3 s)), ms := v7, xs := v3 - (↑(Subtype.val x) : Int), pr := Num.pr (RS.p (rs3 s)), sc := Num.sc (RS.p (rs3 s)), inc := Num.inc (RS.p (rs3 s)), ps := Num.ps (RS.p (rs3 s)), me := Num.me (RS.p (rs3 s)), px := Num.px (RS.p (rs3 s)) }) [SC.nils, SC.nils, SC.ff, SC.nils, SC.nils, SC.int IntKind.i64 (Num.mi (RS.p (rs3 s))), SC.int IntKind.i64 (Num.xi (RS.p (rs3 s))), SC.int IntKind.i64 (Num.mf (RS.p (rs3 s))), SC.int IntKind.i64 (Num.xf (RS.p (rs3 s))), SC.int IntKind.i64 v7, SC.int IntKind.i64 v3, SC.int IntKind.i64 (Num.pr (RS.p (rs3 s))), SC.int IntKind.i64 (Num.sc (RS.p (rs3 s))), SC.str (Num.inc (RS.p (rs3 s))), SC.bool (Num.ps (RS.p (rs3 s))), SC.int IntKind.i64 (Num.me (RS.p (rs3 s))), SC.bool (Num.px (RS.p (rs3 s))), SC.int IntKind.i64 (0 : Int), SC.int IntKind.i32 (0 : Int), SC.int IntKind.i64 (0 : Int)] ∧ szZ (RS.w (rs2 s)) = szZ (RS.w (rs2 s))) ∧ ∀ (x : J53 s), inR IntKind.i64 (v3 - (v3 - (↑(Subtype.val x) : Int))) ∧ ((0 : Int) ≤ v3 - (v3 - (↑(Subtype.val x) : Int)) ∧ v3 - (v3 - (↑(Subtype.val x) : Int)) < v3) ∧ br (bAt (RS.w (rs3 s)) (v3 - (v3 - (↑(Subtype.val x) : Int))) == (35 : Int)) (inR IntKind.i64 (v3 - (↑(Subtype.val x) : Int) - (1 : Int)) ∧ ∃ (x' : J53 s), (numS s = numS s ∧ RS.w (rs3 s) = RS.w (rs3 s) ∧ RS.f (rs3 s) = RS.f (rs3 s) ∧ RS.pt (rs3 s) = RS.pt (rs3 s) ∧ EqL zsc zsc ∧ EqL (Num.sc' { mi := Num.mi (RS.p (rs3 s)), xi := Num.xi (RS.p (rs3 s)), mf := Num.mf (RS.p (rs3 s)), xf := Num.xf (RS.p (rs3 s)), ms := v7, xs := v3 - (↑(Subtype.val x') : Int), pr := Num.pr (RS.p (rs3 s)), sc := Num.sc (RS.p (rs3 s)), inc := Num.inc (RS.p (rs3 s)), ps := Num.ps (RS.p (rs3 s)), me := Num.me (RS.p (rs3 s)), px := Num.px (RS.p (rs3 s)) }) [SC.nils, SC.nils, SC.ff, SC.nils, SC.nils, SC.int IntKind.i64 (Num.mi (RS.p (rs3 s))), SC.int IntKind.i64 (Num.xi (RS.p (rs3 s))), SC.int IntKind.i64 (Num.mf (RS.p (rs3 s))), SC.int IntKind.i64 (Num.xf (RS.p (rs3 s))), SC.int IntKind.i64 v7, SC.int IntKind.i64 (v3 - (↑(Subtype.val x) : Int) - (1 : Int)), SC.int IntKind.i64 (Num.pr (RS.p (rs3 s))), SC.int IntKind.i64 (Num.sc (RS.p (rs3 s))), SC.str (Num.inc (RS.p (rs3 s))), SC.bool (Num.ps (RS.p (rs3 s))), SC.int IntKind.i64 (Num.me (RS.p (rs3 s))), SC.bool (Num.px (RS.p (rs3 s))), SC.int IntKind.i64 (0 : Int), SC.int IntKind.i32 (0 : Int), SC.int IntKind.i64 (0 : Int)] ∧ szZ (RS.w (rs2 s)) = szZ (RS.w (rs2 s))) ∧ List.length (RS.w (rs3 s)) - Subtype.val x' < List.length (RS.w (rs3 s)) - Subtype.val x) (∃ (j : PLift (N69 s)), numS s = numS s ∧ RS.w (rs3 s) = RS.w (rs3 s) ∧ RS.f (rs3 s) = RS.f (rs3 s) ∧ RS.pt (rs3 s) = RS.pt (rs3 s) ∧ EqL zsc zsc ∧ EqL (Num.sc' (RS.p (rs4 s))) (Num.sc' { mi := Num.mi (RS.p (rs3 s)), xi := Num.xi (RS.p (rs3 s)), mf := Num.mf (RS.p (rs3 s)), xf := Num.xf (RS.p (rs3 s)), ms := v7, xs := v3 - (↑(Subtype.val x) : Int), pr := Num.pr (RS.p (rs3 s)), sc := Num.sc (RS.p (rs3 s)), inc := Num.inc (RS.p (rs3 s)), ps := Num.ps (RS.p (rs3 s)), me := Num.me (RS.p (rs3 s)), px := Num.px (RS.p (rs3 s)) }) ∧ szZ (RS.w (rs2 s)) = szZ (RS.w (rs2 s))))) (((List.length (RS.w (rs3 s)) ≤ (1000000000000 : Nat) ∧ (v12 ∧ ((0 : Int) ≤ (48 : Int) ∧ (48 : Int) < (256 : Int)) ∧ (0 : Int) ≤ (48 : Int) ∧ (48 : Int) < (256 : Int)) ∧ br (!decide (rowsF (35 : Int) (48 : Int) (48 : Int) (0 : Nat) (RS.w (rs3 s)) = [])) (∃ (j : Unit), numS s = numS s ∧ RS.w (rs3 s) = RS.w (rs3 s) ∧ RS.f (rs3 s) = RS.f (rs3 s) ∧ RS.pt (rs3 s) = RS.pt (rs3 s) ∧ RS.w (rs3 s) ++ RS.f (rs3 s) = wf s ∧ true = b55 s ∧ EqL zsc zsc ∧ EqL (Num.sc' (RS.p (rs3 s))) (Num.sc' (RS.p (rs3 s))) ∧ szZ (RS.w (rs2 s)) = szZ (RS.w (rs2 s))) (List.length (RS.f (rs3 s)) ≤ (1000000000000 : Nat) ∧ (((0 : Int) ≤ (48 : Int) ∧ (48 : Int) < (256 : Int)) ∧ v12 ∧ (0 : Int) ≤ (35 : Int) ∧ (35 : Int) < (256 : Int)) ∧ ∃ (j : Unit), numS s = numS s ∧ RS.w (rs3 s) = RS.w (rs3 s) ∧ RS.f (rs3 s) = RS.f (rs3 s) ∧ RS.pt (rs3 s) = RS.pt (rs3 s) ∧ RS.w (rs3 s) ++ RS.f (rs3 s) = wf s ∧ (!decide (rowsF (48 : Int) (35 : Int) (35 : Int) (0 : Nat) (RS.f (rs3 s)) = [])) = b55 s ∧ EqL zsc zsc ∧ EqL (Num.sc' (RS.p (rs3 s))) (Num.sc' (RS.p (rs3 s))) ∧ szZ (RS.w (rs2 s)) = szZ (RS.w (rs2 s)))) ∧ ∀ (j : Unit), br (b55 s) v9 (∃ (j : PLift (N57 s)), numS s = numS s ∧ RS.w (rs3 s) = RS.w (rs3 s) ∧ RS.f (rs3 s) = RS.f (rs3 s) ∧ RS.pt (rs3 s) = RS.pt (rs3 s) ∧ wf s = wf s ∧ EqL zsc zsc ∧ EqL (Num.sc' (RS.p (rs3 s))) (Num.sc' (RS.p (rs3 s))) ∧ szZ (RS.w (rs2 s)) = szZ (RS.w (rs2 s)))) ∧ ∀ (j : PLift (N57 s)), List.length (RS.w (rs3 s)) ≤ (1000000000000 : Nat) ∧ List.length (RS.f (rs3 s)) ≤ (1000000000000 : Nat) ∧ ((∃ (x : Upto (wf s)), numS s = numS s ∧ RS.w (rs3 s) = RS.w (rs3 s) ∧ RS.f (rs3 s) = RS.f (rs3 s) ∧ RS.pt (rs3 s) = RS.pt (rs3 s) ∧ wf s = wf s ∧ Array.toList #[] = flt (List.take (Subtype.val x) (wf s)) ∧ (0 : Int) = (↑(Subtype.val x) : Int) ∧ EqL zsc zsc ∧ EqL (Num.sc' (dg1 s)) [SC.nils, SC.nils, SC.ff, SC.nils, SC.nils, SC.int IntKind.i64 (↑(cntC (48 : Int) (RS.w (rs3 s))) : Int), SC.int IntKind.i64 (Num.xi (RS.p (rs3 s))), SC.int IntKind.i64 (↑(cntC (48 : Int) (RS.f (rs3 s))) : Int), SC.int IntKind.i64 (↑(List.length (RS.f (rs3 s))) : Int), SC.int IntKind.i64 (Num.ms (RS.p (rs3 s))), SC.int IntKind.i64 (Num.xs (RS.p (rs3 s))), SC.int IntKind.i64 (Num.pr (RS.p (rs3 s))), SC.int IntKind.i64 (Num.sc (RS.p (rs3 s))), SC.str (Num.inc (RS.p (rs3 s))), SC.bool (Num.ps (RS.p (rs3 s))), SC.int IntKind.i64 (Num.me (RS.p (rs3 s))), SC.bool (Num.px (RS.p (rs3 s))), SC.int IntKind.i64 (0 : Int), SC.int IntKind.i32 (0 : Int), SC.int IntKind.i64 (0 : Int)] ∧ szZ (RS.w (rs2 s)) = szZ (RS.w (rs2 s))) ∧ ∀ (x : Upto (wf s)), br (decide ((↑(Subtype.val x) : Int) < (↑(List.length (wf s)) : Int))) (((0 : Int) ≤ (↑(Subtype.val x) : Int) ∧ (↑(Subtype.val x) : Int) < (↑(List.length (wf s)) : Int)) ∧ br (bAt (wf s) (↑(Subtype.val x) : Int) != (35 : Int)) (inR IntKind.i64 ((↑(Subtype.val x) : Int) + (1 : Int)) ∧ ((0 : Int) ≤ (↑(Subtype.val x) : Int) ∧ (↑(Subtype.val x) : Int) ≤ (↑(Subtype.val x) : Int) + (1 : Int) ∧ (↑(Subtype.val x) : Int) + (1 : Int) ≤ (↑(List.length (wf s)) : Int)) ∧ List.length (flt (List.take (Subtype.val x) (wf s))) + List.length (List.drop (Int.toNat (↑(Subtype.val x) : Int)) (List.take (Int.toNat ((↑(Subtype.val x) : Int) + (1 : Int))) (wf s))) ≤ (9223372036854775807 : Nat) ∧ inR IntKind.i64 ((↑(Subtype.val x) : Int) + (1 : Int)) ∧ ∃ (x' : Upto (wf s)), (numS s = numS s ∧ RS.w (rs3 s) = RS.w (rs3 s) ∧ RS.f (rs3 s) = RS.f (rs3 s) ∧ RS.pt (rs3 s) = RS.pt (rs3 s) ∧ wf s = wf s ∧ flt (List.take (Subtype.val x) (wf s)) ++ List.drop (Int.toNat (↑(Subtype.val x) : Int)) (List.take (Int.toNat ((↑(Subtype.val x) : Int) + (1 : Int))) (wf s)) = flt (List.take (Subtype.val x') (wf s)) ∧ (↑(Subtype.val x) : Int) + (1 : Int) = (↑(Subtype.val x') : Int) ∧ EqL zsc zsc ∧ EqL (Num.sc' (dg1 s)) (Num.sc' (dg1 s)) ∧ szZ (RS.w (rs2 s)) = szZ (RS.w (rs2 s))) ∧ List.length (wf s) - Subtype.val x' < List.length (wf s) - Subtype.val x) (inR IntKind.i64 ((↑(Subtype.val x) : Int) + (1 : Int)) ∧ ∃ (x' : Upto (wf s)), (numS s = numS s ∧ RS.w (rs3 s) = RS.w (rs3 s) ∧ RS.f (rs3 s) = RS.f (rs3 s) ∧ RS.pt (rs3 s) = RS.pt (rs3 s) ∧ wf s = wf s ∧ flt (List.take (Subtype.val x) (wf s)) = flt (List.take (Subtype.val x') (wf s)) ∧ (↑(Subtype.val x) : Int) + (1 : Int) = (↑(Subtype.val x') : Int) ∧ EqL zsc zsc ∧ EqL (Num.sc' (dg1 s)) (Num.sc' (dg1 s)) ∧ szZ (RS.w (rs2 s)) = szZ (RS.w (rs2 s))) ∧ List.length (wf s) - Subtype.val x' < List.length (wf s) - Subtype.val x)) (∃ (j : PLift (N57 s)), numS s = numS s ∧ RS.w (rs3 s) = RS.w (rs3 s) ∧ RS.f (rs3 s) = RS.f (rs3 s) ∧ RS.pt (rs3 s) = RS.pt (rs3 s) ∧ flt (List.take (Subtype.val x) (wf s)) = flt (wf s) ∧ EqL zsc zsc ∧ EqL (Num.sc' (dg1 s)) (Num.sc' (dg1 s)) ∧ szZ (RS.w (rs2 s)) = szZ (RS.w (rs2 s)))) ∧ ∀ (j : PLift (N57 s)), List.length (flt (wf s)) ≤ (1000000000000 : Nat) ∧ br (!decide (dropP (fun (x : Int) => x == (48 : Int)) (flt (wf s)) = Array.toList #[])) (br (decide (Num.mf (dg1 s) < Num.xf (dg1 s))) (∃ (j : Unit), numS s = numS s ∧ RS.w (rs3 s) = RS.w (rs3 s) ∧ RS.f (rs3 s) = RS.f (rs3 s) ∧ RS.pt (rs3 s) = RS.pt (rs3 s) ∧ true = b65 s ∧ EqL zsc zsc ∧ EqL (Num.sc' (dg2 s)) [SC.nils, SC.nils, SC.ff, SC.nils, SC.nils, SC.int IntKind.i64 (Num.mi (dg1 s)), SC.int IntKind.i64 (Num.xi (dg1 s)), SC.int IntKind.i64 (Num.mf (dg1 s)), SC.int IntKind.i64 (Num.xf (dg1 s)), SC.int IntKind.i64 (Num.ms (dg1 s)), SC.int IntKind.i64 (Num.xs (dg1 s)), SC.int IntKind.i64 (Num.pr (dg1 s)), SC.int IntKind.i64 (Num.sc (dg1 s)), SC.str (dropP (fun (x : Int) => x == (48 : Int)) (flt (wf s))), SC.bool (Num.ps (dg1 s)), SC.int IntKind.i64 (Num.me (dg1 s)), SC.bool (Num.px (dg1 s)), SC.int IntKind.i64 (0 : Int), SC.int IntKind.i32 (0 : Int), SC.int IntKind.i64 (0 : Int)] ∧ szZ (RS.w (rs2 s)) = szZ (RS.w (rs2 s))) (∃ (j : Unit), numS s = numS s ∧ RS.w (rs3 s) = RS.w (rs3 s) ∧ RS.f (rs3 s) = RS.f (rs3 s) ∧ RS.pt (rs3 s) = RS.pt (rs3 s) ∧ numS s = b65 s ∧ EqL zsc zsc ∧ EqL (Num.sc' (dg2 s)) [SC.nils, SC.nils, SC.ff, SC.nils, SC.nils, SC.int IntKind.i64 (Num.mi (dg1 s)), SC.int IntKind.i64 (Num.xi (dg1 s)), SC.int IntKind.i64 (Num.mf (dg1 s)), SC.int IntKind.i64 (Num.xf (dg1 s)), SC.int IntKind.i64 (Num.ms (dg1 s)), SC.int IntKind.i64 (Num.xs (dg1 s)), SC.int IntKind.i64 (Num.pr (dg1 s)), SC.int IntKind.i64 (Num.sc (dg1 s)), SC.str (dropP (fun (x : Int) => x == (48 : Int)) (flt (wf s))), SC.bool (Num.ps (dg1 s)), SC.int IntKind.i64 (Num.me (dg1 s)), SC.bool (Num.px (dg1 s)), SC.int IntKind.i64 (0 : Int), SC.int IntKind.i32 (0 : Int), SC.int IntKind.i64 (0 : Int)] ∧ szZ (RS.w (rs2 s)) = szZ (RS.w (rs2 s)))) (∃ (j : Unit), numS s = numS s ∧ RS.w (rs3 s) = RS.w (rs3 s) ∧ RS.f (rs3 s) = RS.f (rs3 s) ∧ RS.pt (rs3 s) = RS.pt (rs3 s) ∧ false = b65 s ∧ EqL zsc zsc ∧ EqL (Num.sc' (dg2 s)) [SC.nils, SC.nils, SC.ff, SC.nils, SC.nils, SC.int IntKind.i64 (Num.mi (dg1 s)), SC.int IntKind.i64 (Num.xi (dg1 s)), SC.int IntKind.i64 (Num.mf (dg1 s)), SC.int IntKind.i64 (Num.xf (dg1 s)), SC.int IntKind.i64 (Num.ms (dg1 s)), SC.int IntKind.i64 (Num.xs (dg1 s)), SC.int IntKind.i64 (Num.pr (dg1 s)), SC.int IntKind.i64 (Num.sc (dg1 s)), SC.str (dropP (fun (x : Int) => x == (48 : Int)) (flt (wf s))), SC.bool (Num.ps (dg1 s)), SC.int IntKind.i64 (Num.me (dg1 s)), SC.bool (Num.px (dg1 s)), SC.int IntKind.i64 (0 : Int), SC.int IntKind.i32 (0 : Int), SC.int IntKind.i64 (0 : Int)] ∧ szZ (RS.w (rs2 s)) = szZ (RS.w (rs2 s))) ∧ ∀ (j : Unit), br (b65 s) (v0 ∧ (6 : Int) = (numT s).2) (br (numS s) (∃ (j : PLift (N69 s)), numS s = numS s ∧ RS.w (rs3 s) = RS.w (rs3 s) ∧ RS.f (rs3 s) = RS.f (rs3 s) ∧ RS.pt (rs3 s) = RS.pt (rs3 s) ∧ EqL zsc zsc ∧ EqL (Num.sc' (RS.p (rs4 s))) [SC.nils, SC.nils, SC.ff, SC.nils, SC.nils, SC.int IntKind.i64 (Num.mi (dg2 s)), SC.int IntKind.i64 v3, SC.int IntKind.i64 (Num.mf (dg2 s)), SC.int IntKind.i64 (Num.xf (dg2 s)), SC.int IntKind.i64 (Num.ms (dg2 s)), SC.int IntKind.i64 (Num.xs (dg2 s)), SC.int IntKind.i64 (Num.pr (dg2 s)), SC.int IntKind.i64 (Num.sc (dg2 s)), SC.str (Num.inc (dg2 s)), SC.bool (Num.ps (dg2 s)), SC.int IntKind.i64 (Num.me (dg2 s)), SC.bool (Num.px (dg2 s)), SC.int IntKind.i64 (0 : Int), SC.int IntKind.i32 (0 : Int), SC.int IntKind.i64 (0 : Int)] ∧ szZ (RS.w (rs2 s)) = szZ (RS.w (rs2 s))) (∃ (j : PLift (N69 s)), numS s = numS s ∧ RS.w (rs3 s) = RS.w (rs3 s) ∧ RS.f (rs3 s) = RS.f (rs3 s) ∧ RS.pt (rs3 s) = RS.pt (rs3 s) ∧ EqL zsc zsc ∧ EqL (Num.sc' (RS.p (rs4 s))) (Num.sc' (dg2 s)) ∧ szZ (RS.w (rs2 s)) = szZ (RS.w (rs2 s)))))) ∧ ∀ (j : PLift (N69 s)), (br (numS s) (br (decide (v1 > (1 : Int))) (∃ (j : Unit), numS s = numS s ∧ RS.w (rs3 s) = RS.w (rs3 s) ∧ RS.f (rs3 s) = RS.f (rs3 s) ∧ RS.pt (rs3 s) = RS.pt (rs3 s) ∧ true = b69 s ∧ EqL zsc zsc ∧ EqL (Num.sc' (RS.p (rs4 s))) (Num.sc' (RS.p (rs4 s))) ∧ szZ (RS.w (rs2 s)) = szZ (RS.w (rs2 s))) (br (decide (Num.ms (RS.p (rs4 s)) > (0 : Int))) (((0 : Int) ≤ (0 : Int) ∧ (0 : Int) < v3) ∧ ∃ (j : Unit), numS s = numS s ∧ RS.w (rs3 s) = RS.w (rs3 s) ∧ RS.f (rs3 s) = RS.f (rs3 s) ∧ RS.pt (rs3 s) = RS.pt (rs3 s) ∧ (bAt (RS.w (rs3 s)) (0 : Int) == (35 : Int)) = b69 s ∧ EqL zsc zsc ∧ EqL (Num.sc' (RS.p (rs4 s))) (Num.sc' (RS.p (rs4 s))) ∧ szZ (RS.w (rs2 s)) = szZ (RS.w (rs2 s))) (∃ (j : Unit), numS s = numS s ∧ RS.w (rs3 s) = RS.w (rs3 s) ∧ RS.f (rs3 s) = RS.f (rs3 s) ∧ RS.pt (rs3 s) = RS.pt (rs3 s) ∧ false = b69 s ∧ EqL zsc zsc ∧ EqL (Num.sc' (RS.p (rs4 s))) (Num.sc' (RS.p (rs4 s))) ∧ szZ (RS.w (rs2 s)) = szZ (RS.w (rs2 s))))) (∃ (j : Unit), numS s = numS s ∧ RS.w (rs3 s) = RS.w (rs3 s) ∧ RS.f (rs3 s) = RS.f (rs3 s) ∧ RS.pt (rs3 s) = RS.pt (rs3 s) ∧ false = b69 s ∧ EqL zsc zsc ∧ EqL (Num.sc' (RS.p (rs4 s))) (Num.sc' (RS.p (rs4 s))) ∧ szZ (RS.w (rs2 s)) = szZ (RS.w (rs2 s))) ∧ ∀ (j : Unit), br (b69 s) (v0 ∧ (6 : Int) = (numT s).2) (∃ (j : PLift (N69 s ∧ b69 s = false)), numS s = numS s ∧ RS.w (rs3 s) = RS.w (rs3 s) ∧ RS.f (rs3 s) = RS.f (rs3 s) ∧ RS.pt (rs3 s) = RS.pt (rs3 s) ∧ EqL zsc zsc ∧ EqL (Num.sc' (RS.p (rs4 s))) (Num.sc' (RS.p (rs4 s))) ∧ szZ (RS.w (rs2 s)) = szZ (RS.w (rs2 s)))) ∧ ∀ (j : PLift (N69 s ∧ b69 s = false)), ((0 : Int) ≤ (0 : Int) ∧ (0 : Int) < (↑(7 : Nat) : Int)) ∧ Int.toNat (0 : Int) < (7 : Nat) ∧ br (decide ((Num.mi (RS.p (rs4 s))) > (40 : Int))) v5 (inR IntKind.i64 ((0 : Int) + (1 : Int)) ∧ ((0 : Int) ≤ (0 : Int) + (1 : Int) ∧ (0 : Int) + (1 : Int) < (↑(7 : Nat) : Int)) ∧ Int.toNat ((0 : Int) + (1 : Int)) < (7 : Nat) ∧ br (decide (List.getD [Num.mi (RS.p (rs4 s)), Num.xi (RS.p (rs4 s)), Num.xf (RS.p (rs4 s)), Num.xs (RS.p (rs4 s)), Num.pr (RS.p (rs4 s)), Num.sc (RS.p (rs4 s)), v4] (Int.toNat ((0 : Int) + (1 : Int))) (0 : Int) > (40 : Int))) v5 (inR IntKind.i64 ((0 : Int) + (1 : Int) + (1 : Int)) ∧ ((0 : Int) ≤ (0 : Int) + (1 : Int) + (1 : Int) ∧ (0 : Int) + (1 : Int) + (1 : Int) < (↑(7 : Nat) : Int)) ∧ Int.toNat ((0 : Int) + (1 : Int) + (1 : Int)) < (7 : Nat) ∧ br (decide (List.getD [Num.mi (RS.p (rs4 s)), Num.xi (RS.p (rs4 s)), Num.xf (RS.p (rs4 s)), Num.xs (RS.p (rs4 s)), Num.pr (RS.p (rs4 s)), Num.sc (RS.p (rs4 s)), v4] (Int.toNat ((0 : Int) + (1 : Int) + (1 : Int))) (0 : Int) > (40 : Int))) v5 (inR IntKind.i64 v13 ∧ ((0 : Int) ≤ (0 : Int) + (1 : Int) + (1 : Int) + (1 : Int) ∧ (0 : Int) + (1 : Int) + (1 : Int) + (1 : Int) < (↑(7 : Nat) : Int)) ∧ Int.toNat v13 < (7 : Nat) ∧ br (decide (List.getD [Num.mi (RS.p (rs4 s)), Num.xi (RS.p (rs4 s)), Num.xf (RS.p (rs4 s)), Num.xs (RS.p (rs4 s)), Num.pr (RS.p (rs4 s)), Num.sc (RS.p (rs4 s)), v4] (Int.toNat v13) (0 : Int) > (40 : Int))) v5 (inR IntKind.i64 v10 ∧ ((0 : Int) ≤ (0 : Int) + (1 : Int) + (1 : Int) + (1 : Int) + (1 : Int) ∧ (0 : Int) + (1 : Int) + (1 : Int) + (1 : Int) + (1 : Int) < (↑(7 : Nat) : Int)) ∧ Int.toNat v10 < (7 : Nat) ∧ br (decide (List.getD [Num.mi (RS.p (rs4 s)), Num.xi (RS.p (rs4 s)), Num.xf (RS.p (rs4 s)), Num.xs (RS.p (rs4 s)), Num.pr (RS.p (rs4 s)), Num.sc (RS.p (rs4 s)), v4] (Int.toNat v10) (0 : Int) > (40 : Int))) v5 (inR IntKind.i64 v8 ∧ ((0 : Int) ≤ (0 : Int) + (1 : Int) + (1 : Int) + (1 : Int) + (1 : Int) + (1 : Int) ∧ (0 : Int) + (1 : Int) + (1 : Int) + (1 : Int) + (1 : Int) + (1 : Int) < (↑(7 : Nat) : Int)) ∧ Int.toNat v8 < (7 : Nat) ∧ br (decide (List.getD [Num.mi (RS.p (rs4 s)), Num.xi (RS.p (rs4 s)), Num.xf (RS.p (rs4 s)), Num.xs (RS.p (rs4 s)), Num.pr (RS.p (rs4 s)), Num.sc (RS.p (rs4 s)), v4] (Int.toNat v8) (0 : Int) > (40 : Int))) v5 (inR IntKind.i64 v6 ∧ ((0 : Int) ≤ (0 : Int) + (1 : Int) + (1 : Int) + (1 : Int) + (1 : Int) + (1 : Int) + (1 : Int) ∧ (0 : Int) + (1 : Int) + (1 : Int) + (1 : Int) + (1 : Int) + (1 : Int) + (1 : Int) < (↑(7 : Nat) : Int)) ∧ Int.toNat v6 < (7 : Nat) ∧ br (decide (List.getD [Num.mi (RS.p (rs4 s)), Num.xi (RS.p (rs4 s)), Num.xf (RS.p (rs4 s)), Num.xs (RS.p (rs4 s)), Num.pr (RS.p (rs4 s)), Num.sc (RS.p (rs4 s)), v4] (Int.toNat v6) (0 : Int) > (40 : Int))) v5 (inR IntKind.i64 ((0 : Int) + (1 : Int) + (1 : Int) + (1 : Int) + (1 : Int) + (1 : Int) + (1 : Int) + (1 : Int)) ∧ (([] : List Itm) = [] ∧ ([] : List Itm) = [] ∧ false = false ∧ ([] : List Itm) = [] ∧ ([] : List Itm) = [] ∧ Num.mi (RS.p (rs4 s)) = Num.mi (numT s).1 ∧ Num.xi (RS.p (rs4 s)) = Num.xi (numT s).1 ∧ Num.mf (RS.p (rs4 s)) = Num.mf (numT s).1 ∧ Num.xf (RS.p (rs4 s)) = Num.xf (numT s).1 ∧ Num.ms (RS.p (rs4 s)) = Num.ms (numT s).1 ∧ Num.xs (RS.p (rs4 s)) = Num.xs (numT s).1 ∧ Num.pr (RS.p (rs4 s)) = Num.pr (numT s).1 ∧ Num.sc (RS.p (rs4 s)) = Num.sc (numT s).1 ∧ Num.inc (RS.p (rs4 s)) = Num.inc (numT s).1 ∧ Num.ps (RS.p (rs4 s)) = Num.ps (numT s).1 ∧ Num.me (RS.p (rs4 s)) = Num.me (numT s).1 ∧ Num.px (RS.p (rs4 s)) = Num.px (numT s).1 ∧ (0 : Int) = (0 : Int) ∧ (0 : Int) = (0 : Int) ∧ (0 : Int) = (0 : Int)) ∧ (0 : Int) = (numT s).2))))))))))) := by kernel_rfl
set_option maxHeartbeats 4000000 in
theorem of_r3num (h : ∀ (s : List UInt8), (s.length ≤ 1000000000) → vcP [(40, sp_r3cut), (42, sp_r3count), (41, sp_r3strip), (43, sp_r3rows)] [] misc Tryz.f18 (annN s) [.one (.str s)] (.tup [(true, (numT s).1.pcs), (false, [.int .i64 (numT s).2])])) : FnP 18 sp_r3num := by
  refine fnP_ok (cs := [(40, sp_r3cut), (42, sp_r3count), (41, sp_r3strip), (43, sp_r3rows)]) (cas := []) (ms := misc) (.cons ok_r3cut (.cons ok_r3count (.cons ok_r3strip (.cons ok_r3rows .nil)))) .nil misc_ok 18 Tryz.f18 (by kernel_rfl) (by kernel_rfl) (by kernel_rfl) (fun | [.one (.str s)] => annN s | _ => .nil) ?_
  intro pvs p r hs hp
  unfold sp_r3num at hs
  simp only at hs
  split at hs
  · rename_i s
    cases hs
    refine h s ?_
    · exact hp
  · cases hs

theorem anyP_next (P : Int → Bool) (s : List UInt8) {i : Nat} (h : i < s.length) : anyP P (s.take (i + 1)) = (anyP P (s.take i) || P ((s.getD i 0).toNat : Int)) := by
  unfold anyP
  rw [take_next s 0 h, List.any_append]
  simp
theorem isOdd_eq (r : Int) : isOdd r = if (r != 35) = true then (if (r != 64) = true then (if (r != 44) = true then (if (r != 46) = true then (if r < 48 then true else decide (r > 57)) else false) else false) else false) else false := by
  unfold isOdd isDig hasR
  rw [Bool.eq_iff_iff]
  by_cases h1 : r = 35 <;> by_cases h2 : r = 64 <;> by_cases h3 : r = 44 <;> by_cases h4 : r = 46 <;> by_cases h5 : r < 48 <;> simp [h1, h2, h3, h4, h5] <;> omega
theorem rs1_eq (s : List UInt8) : (rs1 s).c = (expT (numX s) (numS s) z0).1 ∧ (rs1 s).p = (expT (numX s) (numS s) z0).2 := ⟨rfl, rfl⟩
theorem flt_next (l : List UInt8) {i : Nat} (h : i < l.length) : flt (l.take (i + 1)) = flt (l.take i) ++ if ((l.getD i 0).toNat : Int) = 35 then [] else [l.getD i 0] := by
  unfold flt
  rw [take_next l 0 h, List.filter_append]
  congr 1
  by_cases hx : ((l.getD i 0).toNat : Int) = 35
  · rw [if_pos hx, List.filter_cons_of_neg (by simpa using hx)]; rfl
  · rw [if_neg hx, List.filter_cons_of_pos (by simpa using hx)]; rfl
theorem take_drop1 (l : List UInt8) {i : Nat} (h : i < l.length) : List.drop i (List.take (i + 1) l) = [l.getD i 0] := by
  rw [List.drop_take, drop_next l 0 h, show i + 1 - i = 1 by omega]; rfl
def E27.zero (s : List UInt8) : E27 s where
  i := 0
  ps := []
  pl := []
  n := 0
  le := Nat.zero_le _
  few := Nat.le_refl _
  n0 := ⟨Int.le_refl _, by omega⟩
  nn := Int.le_refl _
  sz := fun _ => by rw [List.drop_zero, List.nil_append]; exact szZ_eq _
  sz1 := fun h => absurd (Nat.zero_le _) h
  fl := by rw [List.drop_zero, List.nil_append]; exact (flat_filter _).symm
  pn := Nat.le_refl _
def E27.on {s : List UInt8} (x : E27 s) (h : x.i < (rs2 s).w.length) (hx : (rs2 s).w.getD x.i 0 ≠ 44) : E27 s where
  i := x.i + 1
  ps := x.ps
  pl := x.pl ++ [(rs2 s).w.getD x.i 0]
  n := x.n + 1
  le := by omega
  few := by have := x.few; omega
  n0 := by have := x.n0; have := x.nn; omega
  nn := by have := x.nn; omega
  sz := fun _ => by
    have e := x.sz (by omega)
    rw [drop_next (rs2 s).w 0 h] at e
    rw [← e]
    show _ = x.ps ++ (if (rs2 s).w.getD x.i 0 = 44 then _ else _)
    rw [if_neg hx]
  sz1 := fun h' => absurd (by omega : x.i + 1 ≤ (rs2 s).w.length) h'
  fl := by
    have e := x.fl
    rw [drop_next (rs2 s).w 0 h, List.filter_cons_of_pos (by simpa using hx)] at e
    rw [← e]; simp
  pn := by have := x.pn; simp; omega
def E27.off {s : List UInt8} (x : E27 s) (hi : x.i ≤ (rs2 s).w.length) (hx : x.i < (rs2 s).w.length → (rs2 s).w.getD x.i 0 = 44) : E27 s where
  i := x.i + 1
  ps := x.ps ++ [x.n]
  pl := x.pl
  n := 0
  le := by omega
  few := by have := x.few; simp; omega
  n0 := ⟨Int.le_refl _, by omega⟩
  nn := by omega
  sz := fun h' => by
    have e := x.sz hi
    have h : x.i < (rs2 s).w.length := by omega
    rw [drop_next (rs2 s).w 0 h] at e
    rw [← e, List.append_assoc]
    show _ = x.ps ++ (if (rs2 s).w.getD x.i 0 = 44 then _ else _)
    rw [if_pos (hx h)]; rfl
  sz1 := fun h' => by
    have e := x.sz hi
    rw [List.drop_of_length_le (by omega)] at e
    exact e
  fl := by
    have e := x.fl
    by_cases h : x.i < (rs2 s).w.length
    · rw [drop_next (rs2 s).w 0 h, List.filter_cons_of_neg (by rw [hx h]; decide)] at e
      exact e
    · rw [List.drop_of_length_le (by omega)] at e
      rw [List.drop_of_length_le (by omega)]
      exact e
  pn := by have := x.pn; omega
theorem rs1_pr (s : List UInt8) : (rs1 s).p.pr = 0 := by
  show (expT _ _ _).2.pr = 0
  unfold expT
  repeat' split
  all_goals rfl
theorem grp_pr {w : List UInt8} {p : Num} (hp : p.pr = 0) (hne : emptyIn (splitC 44 w) = false) : 0 < (grpP w p).pr ↔ 1 < (szZ w).length := by
  unfold grpP
  split
  · rename_i h
    refine ⟨fun _ => h, fun _ => ?_⟩
    show 0 < (szZ w).getD ((szZ w).length - 1) 0
    have hl : (szZ w).length - 1 < (splitC 44 w).length := by rw [szZ_len] at h ⊢; omega
    rw [szZ_get w hl]
    have h0 : ¬ (szZ w).getD ((szZ w).length - 1) 0 = 0 := fun h0 => by
      have := empty_of h (by omega) h0
      rw [hne] at this; cases this
    rw [szZ_get w hl] at h0
    omega
  · rename_i h
    rw [hp]
    exact ⟨fun h' => absurd h' (by decide), fun h' => absurd h' h⟩
theorem b69_iff {s : List UInt8} (h : 0 < (rs4 s).p.pr ↔ 1 < (szZ (rs2 s).w).length) : b69 s = true ↔ (numS s = true ∧ (0 < (rs4 s).p.pr ∨ 0 < (rs4 s).p.ms ∧ bAt (rs3 s).w 0 = 35)) := by
  unfold b69
  rw [h]
  simp
/-- A zero pattern beside a fault. -/
theorem nil_arr : Array.toList (#[] : Array UInt8) = [] := rfl
set_option maxHeartbeats 8000000 in
theorem ok_r3num : FnP 18 sp_r3num := of_r3num (by
  intro s hs
  rw [vc_r3num]
  have cB : (cutI 69 s).1 = numB s ∧ (cutI 69 s).2.1 = numX s ∧ (cutI 69 s).2.2 = numS s := by
    have := cutI_cut 69 s
    rw [show ((69 : UInt8).toNat : Int) = 69 from rfl] at this
    rw [this]; exact ⟨rfl, rfl, rfl⟩
  obtain ⟨cB1, cB2, cB3⟩ := cB
  have lB := (cut_sub 69 s).1.2
  have lX := (cut_sub 69 s).2.2
  have lB : (numB s).length ≤ s.length := lB
  have lX : (numX s).length ≤ s.length := lX
  rw [cB1, cB2, cB3]
  have cF : cutI 46 (numB s) = Lib.cut (numB s) [46] := cutI_cut 46 (numB s)
  rw [cF]
  have lF : (bf s).length ≤ (numB s).length := (cut_sub 46 (numB s)).2.2
  have hxt : (xt s).length ≤ (numX s).length := by
    unfold xt; rw [trim_plus]; split
    · rw [List.length_drop]; omega
    · omega
  have r12 := fun {e : Int} (h : numT s = (z0, e)) => h
  refine ⟨by omega, br_of (fun hS => ⟨?_, fun jS => ⟨?_, fun _ => ?_⟩⟩) fun hS => ?_, fun j12 => ⟨⟨?_, fun x => ?_⟩, fun j18 => ⟨by omega, ?_, fun _ => br_of (fun h => ?_) fun h => ?_⟩⟩⟩
  · -- the plus
    have hp := has_plus (numX s)
    refine br_of (fun h => ⟨⟨by omega, by have : (numX s).length > 0 := by (have := of_decide_eq_true h); omega
                                          omega⟩, br_of (fun h1 => ⟨⟨by omega, by have := of_decide_eq_true h; omega⟩, ⟨⟨hS⟩, ?_⟩⟩) fun h1 => ⟨⟨hS⟩, ?_⟩⟩) fun h => ⟨⟨hS⟩, ?_⟩
    · have hl := of_decide_eq_true h
      have hb : ((numX s).getD 0 0).toNat = 43 := by have : bAt (numX s) 0 = 43 := by simpa using h1
                                                     have e := bAt_nat (numX s) 0
                                                     rw [show ((0 : Nat) : Int) = 0 from rfl, this] at e; omega
      have hh : Lib.hasPrefix (numX s) [43] = true := by rw [hp]; exact decide_eq_true ⟨by omega, by omega⟩
      have e1 : List.drop (Int.toNat 1) (numX s) = xt s := by unfold xt; rw [trim_plus, if_pos hh]; rfl
      and_intros
      all_goals first | rfl | exact e1 | skip
      exact hh.symm
    · have hb : ((numX s).getD 0 0).toNat ≠ 43 := by intro he
                                                     have : bAt (numX s) 0 ≠ 43 := by simpa using h1
                                                     have e := bAt_nat (numX s) 0
                                                     rw [show ((0 : Nat) : Int) = 0 from rfl] at e; omega
      have hh : Lib.hasPrefix (numX s) [43] = false := by rw [hp]; exact decide_eq_false (by omega)
      have e1 : numX s = xt s := by unfold xt; rw [trim_plus, if_neg (by rw [hh]; decide)]
      and_intros
      all_goals first | rfl | exact e1 | skip
      exact hh.symm
    · have hl : ¬ ((numX s).length : Int) > 0 := of_decide_eq_false h
      have hh : Lib.hasPrefix (numX s) [43] = false := by rw [hp]; exact decide_eq_false (by omega)
      have e1 : numX s = xt s := by unfold xt; rw [trim_plus, if_neg (by rw [hh]; decide)]
      and_intros
      all_goals first | rfl | exact e1 | skip
      exact hh.symm
  · refine br_of (fun h => ⟨(), ?_⟩) fun h => ⟨by omega, (), ?_⟩
    · have h : xt s = [] := of_decide_eq_true h
      have e : true = b7 s := by unfold b7; rw [decide_eq_true h]; rfl
      and_intros
      all_goals first | rfl | exact e
    · have h : ¬ xt s = [] := of_decide_eq_false h
      have e : (!decide (dropP (fun x => x == 48) (xt s) = Array.toList #[])) = b7 s := by
        unfold b7; rw [decide_eq_false h]; show (!decide (dropP (fun x => x == 48) (xt s) = [])) = _; simp
      and_intros
      all_goals first | rfl | exact e
  · have e1 := rs1_eq s
    rw [hS] at e1
    refine br_of (fun h => ?_) fun h => br_of (fun h1 => ?_) fun h1 => ⟨⟨?_⟩, ?_⟩
    · have h : xt s = [] ∨ dropP (· == 48) (xt s) ≠ [] := by unfold b7 at h; simpa using h
      have hE : numT s = (z0, 4) := num_fail1 (by rw [e1.1, exp_bad h]) (by decide)
      rw [hE]; and_intros <;> rfl
    all_goals have h : xt s ≠ [] ∧ dropP (· == 48) (xt s) = [] := by unfold b7 at h; simpa using h
    · have h1 := of_decide_eq_true h1
      have hE : numT s = (z0, 8) := num_fail1 (by rw [e1.1, exp_long h.1 h.2 (by unfold xt at h1; omega)]) (by decide)
      rw [hE]; and_intros <;> rfl
    all_goals have h1 : ¬ ((xt s).length : Int) > 9 := of_decide_eq_false h1
    all_goals have e2 := exp_ok (p := z0) h.1 h.2 (by unfold xt at h1; omega)
    · rw [e1.1, e2]
    · and_intros
      all_goals first | rfl | skip
      all_goals first | (rw [e1.2, e2]; rfl) | rw [e1.2, e2]
  · have e1 := rs1_eq s
    rw [hS] at e1
    refine ⟨⟨e1.1⟩, ?_⟩
    and_intros
    all_goals first | rfl | (rw [e1.2]; rfl) | rw [e1.2]
  · refine ⟨⟨0, j12.down, Nat.zero_le _, rfl⟩, ?_⟩
    and_intros
    all_goals first | rfl
  · obtain ⟨i, hc, hi, hq⟩ := x
    dsimp only
    refine br_of (fun h => ⟨⟨by omega, by have : i < (numB s).length := by simpa using h
                                          omega⟩, ?_, fun _ => br_of (fun h1 => ?_) fun h1 => ?_⟩) fun h => ⟨⟨⟨hc, ?_⟩⟩, ?_⟩
    · have h : i < (numB s).length := by simpa using h
      have ho := isOdd_eq (bAt (numB s) i)
      refine br_of (fun h1 => br_of (fun h2 => br_of (fun h3 => br_of (fun h4 => br_of (fun h5 => ⟨(), ?_⟩) fun h5 => ⟨(), ?_⟩) fun h4 => ⟨(), ?_⟩) fun h3 => ⟨(), ?_⟩) fun h2 => ⟨(), ?_⟩) fun h1 => ⟨(), ?_⟩
      all_goals simp only [h1, if_true] at ho
      all_goals try simp only [h2, if_true] at ho
      all_goals try simp only [h3, if_true] at ho
      all_goals try simp only [h4, if_true] at ho
      all_goals try simp only [of_decide_eq_true h5, if_true] at ho
      all_goals try simp only [of_decide_eq_false h5, if_false] at ho
      all_goals and_intros
      all_goals first | rfl | exact ho.symm | (rw [ho]; rfl) | (rw [ho]; simp)
    all_goals first | have h : i < (numB s).length := by simpa using h
                    | have h : i = (numB s).length := by (have : ¬ i < (numB s).length := by simpa using h); omega
    all_goals try have hn := anyP_next isOdd (numB s) h
    all_goals try rw [bAt_nat] at h1
    · have : anyP isOdd (numB s) = true := by
        unfold anyP
        rw [List.any_eq_true]
        exact ⟨_, getD_mem' h, h1⟩
      rw [parts_odd hc this]; and_intros <;> rfl
    · refine ⟨by simp only [inR]; omega, ⟨i + 1, hc, h, by rw [hn, hq, h1]; rfl⟩, ?_, by show (numB s).length - (i + 1) < _; omega⟩
      and_intros
      all_goals first | rfl
    · rw [h, List.take_length] at hq; exact hq
    · and_intros
      all_goals first | rfl
  · refine ⟨by show (bf s).length ≤ _; omega, br_of (fun h => ⟨(), ?_⟩) fun h => br_of (fun h1 => ⟨(), ?_⟩) fun h1 => ⟨(), ?_⟩⟩
    · have h0 : 0 < cntC 46 (bf s) := by
        have := of_decide_eq_true h
        exact Int.ofNat_lt.1 this
      have e : true = b19 s := by unfold b19; rw [decide_eq_true h0]; rfl
      and_intros
      all_goals first | rfl | exact e
    all_goals have h0 : ¬ 0 < cntC 46 (bf s) := fun h' => of_decide_eq_false h (Int.ofNat_lt.2 h')
    · have e : decide ((Lib.cut (numB s) [46]).2.1 = Array.toList #[]) = b19 s := by
        unfold b19; rw [decide_eq_false h0, show bp s = true from h1]; rfl
      and_intros
      all_goals first | rfl | exact e
    · have e : false = b19 s := by unfold b19; rw [decide_eq_false h0, show bp s = false from h1]; rfl
      and_intros
      all_goals first | rfl | exact e
  · have h : 0 < cntC 46 (bf s) ∨ (bp s = true ∧ bf s = []) := by unfold b19 at h; simpa using h
    rw [parts_bad j18.down.1 h]; and_intros <;> rfl
  · have h : ¬ 0 < cntC 46 (bf s) ∧ ¬ (bp s = true ∧ bf s = []) := by
      unfold b19 at h
      rw [Bool.or_eq_false_iff] at h
      refine ⟨of_decide_eq_false h.1, fun h' => ?_⟩
      rw [h'.1, decide_eq_true h'.2] at h
      cases h.2
    have e2 := parts_ok j18.down.1 j18.down.2 h.1 h.2
    have c2 : (rs2 s).c = 0 := by rw [e2]
    have lw2 : (rs2 s).w.length ≤ s.length := (rs2_sub s).1.2
    have lf2 : (rs2 s).f.length ≤ s.length := (rs2_sub s).2.2
    have hszn : (szZ (rs2 s).w).length ≤ (rs2 s).w.length + 1 := by
      rw [szZ_len, splitC_len]; have := List.count_le_length (a := (44 : UInt8)) (l := (rs2 s).w); omega
    refine ⟨⟨by omega, br_of (fun h => ?_) fun h => ⟨⟨⟨c2, ?_⟩⟩, ?_⟩⟩, fun j23 => ⟨⟨?_, fun x => br_of (fun h => ⟨?_, fun _ => br_of (fun h1 => ?_) fun h1 => ?_⟩) fun h => ?_⟩, fun _ => ⟨⟨?_, fun x => ?_⟩, fun jE => ⟨?_, fun _ => ⟨?_, fun j43 => ?_⟩⟩⟩⟩⟩
    · have h0 : 0 < cntC 44 (rs2 s).f := by
        have := of_decide_eq_true h
        rw [e2]; exact Int.ofNat_lt.1 this
      rw [groups_bad c2 (.inr h0)]; and_intros <;> rfl
    · have := of_decide_eq_false h
      intro h'
      rw [e2] at h'
      exact this (Int.ofNat_lt.2 h')
    · and_intros
      all_goals first | rfl | (rw [e2]; rfl) | rw [e2]
    · refine ⟨E27.zero s, ?_⟩
      and_intros <;> rfl
    · have h : x.i ≤ (rs2 s).w.length := by have := of_decide_eq_true h; omega
      refine br_of (fun h1 => ⟨⟨by omega, by have := of_decide_eq_true h1; omega⟩, (), ?_⟩) fun h1 => ⟨(), ?_⟩
      · have h1 : x.i < (rs2 s).w.length := by have := of_decide_eq_true h1; omega
        have e : (bAt (rs2 s).w x.i != 44) = b29 s x.i := by
          unfold b29
          rw [decide_eq_true h1, bAt_nat]
          have := u8_toNat (x := (rs2 s).w.getD x.i 0) (k := 44)
          rw [Bool.eq_iff_iff]
          simp only [Bool.true_and, bne_iff_ne, ne_eq, decide_eq_true_eq]
          rw [show ((44 : UInt8).toNat : Int) = 44 from rfl] at this
          rw [this]
        and_intros
        all_goals first | rfl | exact e
      · have h1 : ¬ x.i < (rs2 s).w.length := by have := of_decide_eq_false h1; omega
        have e : false = b29 s x.i := by unfold b29; rw [decide_eq_false h1]; rfl
        and_intros
        all_goals first | rfl | exact e
    · unfold b29 at h1
      rw [Bool.and_eq_true, decide_eq_true_iff, decide_eq_true_iff] at h1
      have hp := x.pn
      have hn := x.n0
      have hi := h1.1
      have et := take_drop1 (rs2 s).w h1.1
      rw [Int.toNat_natCast, show ((x.i : Int) + 1).toNat = x.i + 1 by omega, et]
      refine ⟨by simp only [inR]; omega, ⟨by omega, by omega, by omega⟩, by simp; omega, by simp only [inR]; omega, by simp only [inR]; omega, x.on h1.1 h1.2, ?_, by show (rs2 s).w.length + 1 - (x.i + 1) < _; omega⟩
      and_intros <;> rfl
    · have h : x.i ≤ (rs2 s).w.length := by have := of_decide_eq_true h; omega
      have hf := x.few
      refine ⟨by omega, by simp only [inR]; omega, x.off h (fun hl => ?_), ?_, by show (rs2 s).w.length + 1 - (x.i + 1) < _; omega⟩
      · unfold b29 at h1
        rw [decide_eq_true hl, Bool.true_and] at h1
        exact Decidable.not_not.1 (of_decide_eq_false h1)
      · and_intros <;> rfl
    · have h : ¬ x.i ≤ (rs2 s).w.length := by have := of_decide_eq_false h; omega
      have e1 := x.sz1 h
      have e3 := x.fl
      rw [List.drop_of_length_le (by omega)] at e3
      have e3 : x.pl = (splitC 44 (rs2 s).w).flatten := by rw [← e3]; exact (List.append_nil _).symm
      refine ⟨j23, ?_⟩
      and_intros
      all_goals first | rfl | exact e1 | exact e3
    · refine ⟨⟨0, Nat.zero_le _, fun _ j hj => absurd hj (Nat.not_lt_zero _)⟩, ?_⟩
      and_intros <;> rfl
    · obtain ⟨i, hi, hq⟩ := x
      dsimp only
      rw [Int.toNat_natCast]
      refine br_of (fun h => ⟨br_of (fun h1 => ⟨⟨by omega, by have := of_decide_eq_true h; omega⟩, by have := of_decide_eq_true h; omega, (), ?_⟩) fun h1 => ⟨(), ?_⟩, fun _ => br_of (fun h1 => ?_) fun h1 => ?_⟩) fun h => ⟨⟨?_⟩, ?_⟩
      · have h1 : 1 < (szZ (rs2 s).w).length := by have := of_decide_eq_true h1; omega
        have e : ((szZ (rs2 s).w).getD i 0 == 0) = b37 s i := by unfold b37; rw [decide_eq_true h1, Bool.true_and]; exact Bool.beq_eq_decide_eq _ _
        and_intros
        all_goals first | rfl | exact e
      · have h1 : ¬ 1 < (szZ (rs2 s).w).length := by have := of_decide_eq_false h1; omega
        have e : false = b37 s i := by unfold b37; rw [decide_eq_false h1]; rfl
        and_intros
        all_goals first | rfl | exact e
      · unfold b37 at h1
        rw [Bool.and_eq_true, decide_eq_true_iff, decide_eq_true_iff] at h1
        have h : i < (szZ (rs2 s).w).length := by have := of_decide_eq_true h; omega
        rw [groups_bad c2 (.inl (empty_of h1.1 h h1.2))]; and_intros <;> rfl
      · have h : i < (szZ (rs2 s).w).length := by have := of_decide_eq_true h; omega
        refine ⟨by simp only [inR]; omega, ⟨i + 1, h, fun h2 j hj => ?_⟩, ?_, by show (szZ (rs2 s).w).length - (i + 1) < _; omega⟩
        · by_cases hji : j < i
          · exact hq h2 j hji
          · have : j = i := by omega
            subst this
            unfold b37 at h1
            rw [decide_eq_true h2, Bool.true_and] at h1
            exact of_decide_eq_false h1
        · and_intros <;> rfl
      · have h : ¬ i < (szZ (rs2 s).w).length := by have := of_decide_eq_false h; omega
        exact not_empty fun h2 j hj => hq h2 j (by omega)
      · and_intros <;> rfl
    · refine br_of (fun h => ?_) fun h => ⟨jE, ?_⟩
      · have h : 1 < (szZ (rs2 s).w).length := by have := of_decide_eq_true h; omega
        have eg : g1 s = { (rs2 s).p with pr := (szZ (rs2 s).w).getD ((szZ (rs2 s).w).length - 1) 0, sc := (szZ (rs2 s).w).getD ((szZ (rs2 s).w).length - 1) 0 } := by unfold g1; rw [if_pos h]
        rw [show (((szZ (rs2 s).w).length : Int) - 1).toNat = (szZ (rs2 s).w).length - 1 by omega]
        refine ⟨by simp only [inR]; omega, ⟨by omega, by omega⟩, by omega, by simp only [inR]; omega, ⟨by omega, by omega⟩, by omega, jE, ?_⟩
        rw [eg]
        and_intros <;> rfl
      · have h : ¬ 1 < (szZ (rs2 s).w).length := by have := of_decide_eq_false h; omega
        have eg : g1 s = (rs2 s).p := by unfold g1; rw [if_neg h]
        rw [eg]
        and_intros <;> rfl
    · have e3 := groups_ok c2 jE.down j23.down.g
      have c3 : (rs3 s).c = 0 := by rw [e3]
      have ep : (rs3 s).p = grpP (rs2 s).w (rs2 s).p := by rw [e3]
      have ew : (splitC 44 (rs2 s).w).flatten = (rs3 s).w := by rw [e3]
      have ef : (rs2 s).f = (rs3 s).f := by rw [e3]
      have et : (rs2 s).pt = (rs3 s).pt := by rw [e3]
      refine br_of (fun h => ?_) fun h => ⟨⟨⟨c3, jE.down⟩⟩, ?_⟩
      · have h : 2 < (szZ (rs2 s).w).length := by have := of_decide_eq_true h; omega
        have eg : g1 s = { (rs2 s).p with pr := (szZ (rs2 s).w).getD ((szZ (rs2 s).w).length - 1) 0, sc := (szZ (rs2 s).w).getD ((szZ (rs2 s).w).length - 1) 0 } := by unfold g1; rw [if_pos (by omega)]
        have e4 : grpP (rs2 s).w (rs2 s).p = { (rs2 s).p with pr := (szZ (rs2 s).w).getD ((szZ (rs2 s).w).length - 1) 0, sc := (szZ (rs2 s).w).getD ((szZ (rs2 s).w).length - 2) 0 } := by unfold grpP; rw [if_pos (by omega), if_pos h]
        rw [show (((szZ (rs2 s).w).length : Int) - 2).toNat = (szZ (rs2 s).w).length - 2 by omega]
        refine ⟨by simp only [inR]; omega, ⟨by omega, by omega⟩, by omega, ⟨⟨c3, jE.down⟩⟩, ?_⟩
        rw [ep, e4, eg]
        and_intros
        all_goals first | rfl | exact ew | exact ef | exact et
      · have h : ¬ 2 < (szZ (rs2 s).w).length := by have := of_decide_eq_false h; omega
        have e4 : grpP (rs2 s).w (rs2 s).p = g1 s := by
          unfold grpP g1
          split
          · first | rfl | rw [if_neg h]
          · rfl
        rw [ep, e4]
        and_intros
        all_goals first | rfl | exact ew | exact ef | exact et
    · have g43 := j43.down
      have c3 := g43.c3
      have lw3 : (rs3 s).w.length ≤ s.length := (rs3_sub s).1.2
      have lf3 : (rs3 s).f.length ≤ s.length := (rs3_sub s).2.2
      have e3 := groups_ok c2 g43.ne j23.down.g
      have hf0 : (rs3 s).pt = false → (rs3 s).f = [] := by
        rw [e3, e2]
        intro h
        have h1 := not_found_frac 46 (numB s)
        rw [← cut_C] at h1
        exact h1 h
      have lwf : (wf s).length = (rs3 s).w.length + (rs3 s).f.length := by unfold wf; simp
      have lflt : (flt (wf s)).length ≤ (wf s).length := List.length_filter_le _ _
      refine ⟨by omega, br_of (fun h => ?_) fun hne => ⟨⟨by rw [List.length_append]; omega, br_of (fun h64 => ⟨?_, fun _ => br_of (fun h => ?_) fun h47 => ⟨⟨by omega, by omega, br_of (fun h => ?_) fun h => ⟨⟨?_⟩, ?_⟩⟩, fun j51 => ⟨by omega, ?_, fun x => ?_⟩⟩⟩) fun h64 => ⟨⟨?_, fun _ => br_of (fun h => ?_) fun h => ⟨⟨?_⟩, ?_⟩⟩, fun j57 => ⟨by omega, by omega, ⟨?_, fun x => ?_⟩, fun _ => ⟨by omega, ?_, fun _ => br_of (fun h => ?_) fun h => ?_⟩⟩⟩⟩, fun j69 => ⟨⟨?_, fun _ => br_of (fun h => ?_) fun h => ⟨⟨j69.down, h⟩, ?_⟩⟩, fun j71 => ?_⟩⟩⟩
      · have h : (rs3 s).w ++ (rs3 s).f = [] := of_decide_eq_true h
        rw [counts_fail c3 (counts_none h) (by decide)]; and_intros <;> rfl
      all_goals have hne : ¬ (rs3 s).w ++ (rs3 s).f = [] := of_decide_eq_false hne
      · refine br_of (fun h => ⟨(), ?_⟩) fun h => ⟨by omega, (), ?_⟩
        · have e : true = b47 s := by unfold b47; rw [h]; rfl
          and_intros
          all_goals first | rfl | exact e
        · have e : decide ((cntC 48 (rs3 s).w : Int) > 0) = b47 s := by
            unfold b47; rw [h, Bool.false_or, Bool.eq_iff_iff, decide_eq_true_iff, decide_eq_true_iff]; omega
          and_intros
          all_goals first | rfl | exact e
      · have h0 : 0 < cntC 64 ((rs3 s).w ++ (rs3 s).f) := Int.ofNat_lt.1 (of_decide_eq_true h64)
        have h : (rs3 s).pt = true ∨ 0 < cntC 48 (rs3 s).w := by unfold b47 at h; simpa using h
        rw [counts_fail (e := 6) c3 (by rw [counts_sig hne h0]; exact sig_mix h) (by decide)]; and_intros <;> rfl
      all_goals try have h0 : 0 < cntC 64 ((rs3 s).w ++ (rs3 s).f) := Int.ofNat_lt.1 (of_decide_eq_true h64)
      all_goals try have h47 : ¬ ((rs3 s).pt = true ∨ 0 < cntC 48 (rs3 s).w) := by (unfold b47 at h47; simpa using h47)
      · have h : rowsF 35 64 35 0 (rs3 s).w ≠ [] := by simpa using h
        rw [counts_fail (e := 4) c3 (by rw [counts_sig hne h0]; exact sig_rows h47 h) (by decide)]; and_intros <;> rfl
      · have h : rowsF 35 64 35 0 (rs3 s).w = [] := by simpa using h
        refine ⟨g43, hne, h0, h47, h, ?_⟩
        have hpt : (rs3 s).pt = false := by
          cases hp : (rs3 s).pt with
          | false => rfl
          | true => exact absurd (.inl hp) h47
        rw [hf0 hpt, List.append_nil] at h0
        exact h0
      · and_intros <;> rfl
      · refine ⟨⟨0, j51.down, Nat.zero_le _, rfl⟩, ?_⟩
        and_intros
        all_goals first | rfl | (show _ = ((rs3 s).w.length : Int) - ((0 : Nat) : Int); omega)
      · obtain ⟨j, g51, hj, hq⟩ := x
        dsimp only
        have eix : ((rs3 s).w.length : Int) - (((rs3 s).w.length : Int) - (j : Int)) = (j : Int) := by omega
        rw [eix]
        have hlt : j < (rs3 s).w.length := by
          by_cases hlt : j < (rs3 s).w.length
          · exact hlt
          · exfalso
            rw [List.drop_of_length_le (by omega)] at hq
            have h5 := g51.h5
            have hall := all_of_nil (P := (· == 35)) hq.symm
            unfold cntC at h5
            rw [List.countP_pos_iff] at h5
            obtain ⟨y, hy, h64⟩ := h5
            have h35 : (y.toNat : Int) = 35 := by simpa using hall y hy
            rw [show isC 64 y = (y == 64) from isC_ne (k := 64) (by decide) y, beq_iff_eq] at h64
            rw [h64] at h35
            exact absurd h35 (by decide)
        rw [drop_next _ 0 hlt] at hq
        rw [bAt_nat]
        refine ⟨by simp only [inR]; omega, ⟨by omega, by omega⟩, br_of (fun h => ⟨by simp only [inR]; omega, ⟨j + 1, g51, hlt, ?_⟩, ?_, by show (rs3 s).w.length - (j + 1) < _; omega⟩) fun h => ?_⟩
        · have : dropP (· == 35) ((rs3 s).w.getD j 0 :: (rs3 s).w.drop (j + 1)) = dropP (· == 35) ((rs3 s).w.drop (j + 1)) := by
            unfold dropP; rw [List.dropWhile_cons, if_pos h]
          rw [← this]; exact hq
        · and_intros
          all_goals first | rfl | (show _ = ((rs3 s).w.length : Int) - ((j + 1 : Nat) : Int); omega)
        · have hx : ((dropP (· == 35) (rs3 s).w).length : Int) = ((rs3 s).w.length : Int) - (j : Int) := by
            have : dropP (· == 35) ((rs3 s).w.getD j 0 :: (rs3 s).w.drop (j + 1)) = (rs3 s).w.getD j 0 :: (rs3 s).w.drop (j + 1) := by
              unfold dropP; rw [List.dropWhile_cons, if_neg (by show ¬ ((((rs3 s).w.getD j 0).toNat : Int) == 35) = true; rw [h]; decide)]
            rw [← hq, this, ← drop_next _ 0 hlt, List.length_drop]; omega
          have e4 := counts_done c3 ((counts_sig hne h0).trans (sig_ok (p := (rs3 s).p) h47 g51.h4 g51.h5))
          refine ⟨⟨g43, by rw [e4], by rw [e4], by rw [e4]⟩, ?_⟩
          rw [e4]
          and_intros
          all_goals first | rfl | exact hx.symm
      all_goals try have h0 : ¬ 0 < cntC 64 ((rs3 s).w ++ (rs3 s).f) := fun h' => of_decide_eq_false h64 (Int.ofNat_lt.2 h')
      · refine ⟨by omega, by omega, br_of (fun h => ⟨(), ?_⟩) fun h => ⟨by omega, by omega, (), ?_⟩⟩
        · have h : rowsF 35 48 48 0 (rs3 s).w ≠ [] := by simpa using h
          have e : true = b55 s := by unfold b55; rw [decide_eq_true h]; rfl
          and_intros
          all_goals first | rfl | exact e
        · have h : rowsF 35 48 48 0 (rs3 s).w = [] := by simpa using h
          have e : (!decide (rowsF 48 35 35 0 (rs3 s).f = [])) = b55 s := by unfold b55; rw [decide_eq_false (p := rowsF 35 48 48 0 (rs3 s).w ≠ []) (fun h' => h' h)]; simp
          and_intros
          all_goals first | rfl | exact e
      · have h : rowsF 35 48 48 0 (rs3 s).w ≠ [] ∨ rowsF 48 35 35 0 (rs3 s).f ≠ [] := by unfold b55 at h; rw [Bool.or_eq_true, decide_eq_true_iff, decide_eq_true_iff] at h; exact h
        rw [counts_fail (e := 4) c3 (counts_dig hne h0 h) (by decide)]; and_intros <;> rfl
      · have h : rowsF 35 48 48 0 (rs3 s).w = [] ∧ rowsF 48 35 35 0 (rs3 s).f = [] := by unfold b55 at h; simpa using h
        exact ⟨g43, hne, h0, h.1, h.2⟩
      · and_intros <;> rfl
      · refine ⟨⟨0, Nat.zero_le _⟩, ?_⟩
        and_intros <;> rfl
      · have hx := x.2
        refine br_of (fun h => ?_) fun h => ⟨j57, ?_⟩
        · have h : x.1 < (wf s).length := by have := of_decide_eq_true h; omega
          have hn := flt_next (wf s) h
          have hl : (flt ((wf s).take x.1)).length ≤ (wf s).length := by
            have h1 : (flt ((wf s).take x.1)).length ≤ ((wf s).take x.1).length := List.length_filter_le _ _
            rw [List.length_take] at h1; omega
          rw [bAt_nat, Int.toNat_natCast, show ((x.1 : Int) + 1).toNat = x.1 + 1 by omega, take_drop1 (wf s) h]
          refine ⟨⟨by omega, by omega⟩, br_of (fun h1 => ⟨by simp only [inR]; omega, ⟨by omega, by omega, by omega⟩, by show _ + 1 ≤ _; omega, by simp only [inR]; omega, ⟨x.1 + 1, h⟩, ?_, by show (wf s).length - (x.1 + 1) < _; omega⟩) fun h1 => ⟨by simp only [inR]; omega, ⟨x.1 + 1, h⟩, ?_, by show (wf s).length - (x.1 + 1) < _; omega⟩⟩
          · rw [if_neg (by simpa using h1)] at hn
            and_intros
            all_goals first | rfl | exact hn.symm
          · rw [if_pos (by simpa using h1), List.append_nil] at hn
            and_intros
            all_goals first | rfl | exact hn.symm
        · have h : ¬ x.1 < (wf s).length := by have := of_decide_eq_false h; omega
          rw [List.take_of_length_le (by omega)]
          and_intros <;> rfl
      all_goals try have g57 := j57.down
      · refine br_of (fun h => br_of (fun h1 => ⟨(), ?_⟩) fun h1 => ⟨(), ?_⟩) fun h => ⟨(), ?_⟩
        · have h : ¬ dropP (fun x => x == 48) (flt (wf s)) = [] := by simpa using h
          have h : (dg2 s).inc ≠ [] := h
          have h1 : (cntC 48 (rs3 s).f : Int) < (rs3 s).f.length := of_decide_eq_true h1
          have e : true = b65 s := by unfold b65; rw [decide_eq_true h, decide_eq_true h1]; rfl
          and_intros
          all_goals first | rfl | exact e
        · have h : ¬ dropP (fun x => x == 48) (flt (wf s)) = [] := by simpa using h
          have h : (dg2 s).inc ≠ [] := h
          have h1 : ¬ (cntC 48 (rs3 s).f : Int) < (rs3 s).f.length := of_decide_eq_false h1
          have e : numS s = b65 s := by unfold b65; rw [decide_eq_true h, decide_eq_false h1]; rfl
          and_intros
          all_goals first | rfl | exact e
        · have h : dropP (fun x => x == 48) (flt (wf s)) = [] := by simpa using h
          have h : ¬ (dg2 s).inc ≠ [] := fun h' => h' h
          have e : false = b65 s := by unfold b65; rw [decide_eq_false h]; rfl
          and_intros
          all_goals first | rfl | exact e
      all_goals try have ed : digP (rs3 s).w (rs3 s).f (numS s) (rs3 s).p = { dg2 s with xi := if numS s = true then ((rs3 s).w.length : Int) else (rs3 s).p.xi } := rfl
      · have h : (digP (rs3 s).w (rs3 s).f (numS s) (rs3 s).p).inc ≠ [] ∧ ((cntC 48 (rs3 s).f : Int) < (rs3 s).f.length ∨ numS s = true) := by
          unfold b65 at h
          rw [Bool.and_eq_true, Bool.or_eq_true, decide_eq_true_iff, decide_eq_true_iff] at h
          exact h
        rw [counts_fail (e := 6) c3 (counts_mix g57.h1 g57.h2 g57.h3 g57.h4 h) (by decide)]; and_intros <;> rfl
      · have h : ¬ ((digP (rs3 s).w (rs3 s).f (numS s) (rs3 s).p).inc ≠ [] ∧ ((cntC 48 (rs3 s).f : Int) < (rs3 s).f.length ∨ numS s = true)) := by
          intro h'
          unfold b65 at h
          have : (decide ((dg2 s).inc ≠ []) && (decide ((cntC 48 (rs3 s).f : Int) < (rs3 s).f.length) || numS s)) = true := by
            rw [Bool.and_eq_true, Bool.or_eq_true, decide_eq_true_iff, decide_eq_true_iff]; exact h'
          rw [h] at this; cases this
        have e4 := counts_done c3 (counts_fine (pt := (rs3 s).pt) (p := (rs3 s).p) g57.h1 g57.h2 g57.h3 g57.h4 h)
        rw [ed] at e4
        refine br_of (fun hS => ⟨⟨⟨g43, by rw [e4], by rw [e4], by rw [e4]; rfl⟩⟩, ?_⟩) fun hS => ⟨⟨⟨g43, by rw [e4], by rw [e4], by rw [e4]; rfl⟩⟩, ?_⟩
        · rw [e4, if_pos hS]
          and_intros
          all_goals first | rfl | exact hS | exact hS.symm
        · rw [e4, if_neg (by rw [hS]; decide)]
          and_intros
          all_goals first | rfl | exact hS | exact hS.symm
      all_goals have g69 : N69 s := by first | exact j69.down | exact j71.down.1
      all_goals have hw4 : 0 < (rs4 s).p.ms → (rs3 s).w ≠ [] := by (have := rs4_ms s; rw [g69.w4] at this; exact this)
      all_goals have hpr : 0 < (rs4 s).p.pr ↔ 1 < (szZ (rs2 s).w).length := by (rw [g69.pr4, e3]; exact grp_pr (by rw [e2]; exact rs1_pr s) g43.ne)
      · refine br_of (fun hS => br_of (fun h1 => ⟨(), ?_⟩) fun h1 => br_of (fun h2 => ⟨⟨by omega, ?_⟩, (), ?_⟩) fun h2 => ⟨(), ?_⟩) fun hS => ⟨(), ?_⟩
        · have h1 : 1 < (szZ (rs2 s).w).length := by have := of_decide_eq_true h1; omega
          have e : true = b69 s := by unfold b69; rw [hS, decide_eq_true h1]; rfl
          and_intros
          all_goals first | rfl | exact hS | exact hS.symm | exact e
        · have := List.length_pos_iff.2 (hw4 (of_decide_eq_true h2)); omega
        · have h1 : ¬ 1 < (szZ (rs2 s).w).length := by have := of_decide_eq_false h1; omega
          have h2 : 0 < (rs4 s).p.ms := of_decide_eq_true h2
          have e : (bAt (rs3 s).w 0 == 35) = b69 s := by unfold b69; rw [hS, decide_eq_false h1, decide_eq_true h2]; rfl
          and_intros
          all_goals first | rfl | exact hS | exact hS.symm | exact e
        · have h1 : ¬ 1 < (szZ (rs2 s).w).length := by have := of_decide_eq_false h1; omega
          have h2 : ¬ 0 < (rs4 s).p.ms := of_decide_eq_false h2
          have e : false = b69 s := by unfold b69; rw [hS, decide_eq_false h1, decide_eq_false h2]; rfl
          and_intros
          all_goals first | rfl | exact hS | exact hS.symm | exact e
        · have e : false = b69 s := by unfold b69; rw [hS]; rfl
          and_intros
          all_goals first | rfl | exact hS | exact hS.symm | exact e
      · have h6 : (rs5 s).c = 6 := by
          unfold rs5; rw [if_pos g69.c4]
          show mixedT _ _ _ = 6
          unfold mixedT
          rw [g69.w4, if_pos ((b69_iff hpr).1 h)]
        rw [num_fail5 h6 (by decide)]; and_intros <;> rfl
      · and_intros <;> rfl
      · have hmix : ¬ (numS s = true ∧ (0 < (rs4 s).p.pr ∨ 0 < (rs4 s).p.ms ∧ bAt (rs4 s).w 0 = 35)) := by
          rw [g69.w4]
          intro h'
          have := (b69_iff hpr).2 h'
          rw [j71.down.2] at this; cases this
        have long : 40 < max (rs4 s).p.mi (max (rs4 s).p.xi (max (rs4 s).p.xf (max (rs4 s).p.xs (max (rs4 s).p.pr (max (rs4 s).p.sc ((rs4 s).p.inc.length : Int)))))) → numT s = (z0, 8) := fun h => by
          refine num_fail5 ?_ (by decide)
          unfold rs5; rw [if_pos g69.c4]
          show mixedT _ _ _ = 8
          unfold mixedT
          rw [if_neg hmix, if_pos h]
        refine ⟨by omega, by decide, br_of (fun h => ?_) fun h1 => ⟨by simp only [inR]; omega, by omega, by decide, br_of (fun h => ?_) fun h2 => ⟨by simp only [inR]; omega, by omega, by decide, br_of (fun h => ?_) fun h3 => ⟨by simp only [inR]; omega, by omega, by decide, br_of (fun h => ?_) fun h4 => ⟨by simp only [inR]; omega, by omega, by decide, br_of (fun h => ?_) fun h5 => ⟨by simp only [inR]; omega, by omega, by decide, br_of (fun h => ?_) fun h6 => ⟨by simp only [inR]; omega, by omega, by decide, br_of (fun h => ?_) fun h7 => ⟨by simp only [inR]; omega, ?_⟩⟩⟩⟩⟩⟩⟩⟩
        · have h : (rs4 s).p.mi > 40 := of_decide_eq_true h
          rw [long (by omega)]; and_intros <;> rfl
        · have h : (rs4 s).p.xi > 40 := of_decide_eq_true h
          rw [long (by omega)]; and_intros <;> rfl
        · have h : (rs4 s).p.xf > 40 := of_decide_eq_true h
          rw [long (by omega)]; and_intros <;> rfl
        · have h : (rs4 s).p.xs > 40 := of_decide_eq_true h
          rw [long (by omega)]; and_intros <;> rfl
        · have h : (rs4 s).p.pr > 40 := of_decide_eq_true h
          rw [long (by omega)]; and_intros <;> rfl
        · have h : (rs4 s).p.sc > 40 := of_decide_eq_true h
          rw [long (by omega)]; and_intros <;> rfl
        · have h : ((rs4 s).p.inc.length : Int) > 40 := of_decide_eq_true h
          rw [long (by omega)]; and_intros <;> rfl
        · have h1 : ¬ (rs4 s).p.mi > 40 := of_decide_eq_false h1
          have h2 : ¬ (rs4 s).p.xi > 40 := of_decide_eq_false h2
          have h3 : ¬ (rs4 s).p.xf > 40 := of_decide_eq_false h3
          have h4 : ¬ (rs4 s).p.xs > 40 := of_decide_eq_false h4
          have h5 : ¬ (rs4 s).p.pr > 40 := of_decide_eq_false h5
          have h6 : ¬ (rs4 s).p.sc > 40 := of_decide_eq_false h6
          have h7 : ¬ ((rs4 s).p.inc.length : Int) > 40 := of_decide_eq_false h7
          have hE : numT s = ((rs4 s).p, 0) := by
            have h5 : rs5 s = ⟨0, (rs4 s).w, (rs4 s).f, (rs4 s).pt, (rs4 s).p⟩ := by
              unfold rs5; rw [if_pos g69.c4]
              have : mixedT (rs4 s).w (numS s) (rs4 s).p = 0 := by unfold mixedT; rw [if_neg hmix, if_neg (by omega)]
              rw [this]
            unfold numT; rw [h5]; rfl
          rw [hE]
          and_intros <;> rfl)
end Go.Proofs.YtglfkihckkjniaaGreatDoor.Vx
