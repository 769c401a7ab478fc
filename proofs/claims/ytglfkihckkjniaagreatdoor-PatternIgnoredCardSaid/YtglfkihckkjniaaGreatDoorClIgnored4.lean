/-
PatternIgnored, for all arguments. What is said of it here: the law returns true, and its arguments stay as they were. Condition: the listed package-level variables (affix.signs, utf8.first, utf8.acceptRanges) hold what the program's text lays; the card ties them.
-/
import Derived.Test.YtglfkihckkjniaaGreatDoorTie
import Derived.HandedShaped
import Derived.ProofKit
import Derived.Shelf.Vars
import Derived.PinnedBridge
import Derived.Lay
import Derived.Lib.LaidU8
import Derived.LaidMore
import Derived.OpenShut
import Derived.Deep.SlicePairs
import Derived.Carry
import Derived.SizedLaws
import Derived.Test.YtglfkihckkjniaaGreatDoorCards
import Derived.Test.YtglfkihckkjniaaGreatDoorClIgnored3
set_option maxRecDepth 100000
set_option linter.unusedVariables false
set_option linter.unusedSimpArgs false
namespace Go.Proofs.YtglfkihckkjniaaGreatDoor.Vx
open Go Go.RowKit
def Elm.iv (e:Elm):Iv:=if e.pad=true then .padding e.r e.p else .single e.r e.q e.p
def sp_ebody:FSpec:=⟨[],fun | [.agg [.int .i32 r,.bool q,.int .i64 p,.bool d]]=>some ([],.one (.bool (isIn bodyC (Elm.iv ⟨r,q,p,d⟩)))) | _=>none⟩
theorem vc_ebody (r:Int) (q:Bool) (p:Int) (d:Bool):vcP [(100,sp_rmark)] [] misc Tryz.f70 (.nil) [.agg [.int .i32 r,.bool q,.int .i64 p,.bool d]] (.one (.bool (isIn bodyC (Elm.iv ⟨r,q,p,d⟩))))=(letI v0:=(false=isIn bodyC (Elm.iv { r:=r,q:=q,p:=p,pad:=d })); (br (!d) (br (!q) (br (isMark r) (br (r != (59:Int)) ((r != (42:Int))=isIn bodyC (Elm.iv { r:=r,q:=q,p:=p,pad:=d })) v0) v0) v0) v0)):=by kernel_rfl
set_option maxHeartbeats 4000000 in
theorem of_ebody (h:∀ (r:Int) (q:Bool) (p:Int) (d:Bool),vcP [(100,sp_rmark)] [] misc Tryz.f70 (.nil) [.agg [.int .i32 r,.bool q,.int .i64 p,.bool d]] (.one (.bool (isIn bodyC (Elm.iv ⟨r,q,p,d⟩))))):FnP 70 sp_ebody:=by
 refine fnP_ok (cs:=[(100,sp_rmark)]) (cas:=[]) (ms:=misc) (.cons ok_rmark .nil) .nil misc_ok 70 Tryz.f70 (by kernel_rfl) (by kernel_rfl) (by kernel_rfl) (fun _=>.nil) ?_
 intro pvs p r hs hp
 unfold sp_ebody at hs
 simp only at hs
 split at hs
 ·rename_i r q p d
  cases hs
  refine h r q p d
 ·cases hs
def sp_eplain:FSpec:=⟨[],fun | [.agg [.int .i32 r,.bool q,.int .i64 p,.bool d],.one (.int .i32 c)]=>some ([],.one (.bool (!d && (!q && (r==c))))) | _=>none⟩
theorem vc_eplain (r:Int) (q:Bool) (p:Int) (d:Bool) (c:Int):vcP [] [] misc Tryz.f36 (.nil) [.agg [.int .i32 r,.bool q,.int .i64 p,.bool d],.one (.int .i32 c)] (.one (.bool (!d && (!q && (r==c)))))=((br (!d) (br (!q) ((r==c)=(!d && (!q && r==c))) (false=(!d && (!q && r==c)))) (false=(!d && (!q && r==c))))):=by kernel_rfl
set_option maxHeartbeats 4000000 in
theorem of_eplain (h:∀ (r:Int) (q:Bool) (p:Int) (d:Bool) (c:Int),vcP [] [] misc Tryz.f36 (.nil) [.agg [.int .i32 r,.bool q,.int .i64 p,.bool d],.one (.int .i32 c)] (.one (.bool (!d && (!q && (r==c)))))):FnP 36 sp_eplain:=by
 refine fnP_ok (cs:=[]) (cas:=[]) (ms:=misc) .nil .nil misc_ok 36 Tryz.f36 (by kernel_rfl) (by kernel_rfl) (by kernel_rfl) (fun _=>.nil) ?_
 intro pvs p r hs hp
 unfold sp_eplain at hs
 simp only at hs
 split at hs
 ·rename_i r q p d c
  cases hs
  refine h r q p d c
 ·cases hs
theorem body_iv (r:Int) (q:Bool) (p:Int) (d:Bool):isIn bodyC (Elm.iv ⟨r,q,p,d⟩)=(!d && (!q && (isMark r && (r != 59 && r != 42)))):=by
 cases d with
 | true=>rfl
 | false =>
  show (true && (!q && hasR bodyC r))=_
  cases q with
  | true=>rfl
  | false =>
   unfold hasR bodyC isMark
   rw [Bool.eq_iff_iff]
   simp
   omega
theorem plain_iv (e:Elm) (c:UInt8):isIn [c] e.iv=(!e.pad && (!e.q && (e.r==(c.toNat:Int)))):=by
 unfold Elm.iv
 cases hd:e.pad with
 | true=>rfl
 | false =>
  show (true && (!e.q && hasR [c] e.r))=_
  unfold hasR
  have:((c.toNat:Int)==e.r)=(e.r==(c.toNat:Int)):=by rw [Bool.eq_iff_iff,beq_iff_eq,beq_iff_eq]; exact eq_comm
  simp [this]
theorem ok_ebody:FnP 70 sp_ebody:=of_ebody (by
 intro r q p d
 rw [vc_ebody,body_iv]
 refine br_of (fun h=>br_of (fun h=>br_of (fun h=>br_of (fun h=>?_) fun h=>?_) fun h=>?_) fun h=>?_) fun h=>?_
 all_goals simp_all)
theorem ok_eplain:FnP 36 sp_eplain:=of_eplain (by
 intro r q p d c
 rw [vc_eplain]
 cases d<;>cases q<;>simp [br])
structure HF where
 px:List Itm
 sx:List Itm
 n:Num
 w:Int
 r:Int
 k:Int
def hf0:HF:=⟨[],[],z0,0,0,0⟩
def nP (n:Num):Pat:=⟨[],[],false,[],[],n,0,0,0⟩
def HF.pcs (h:HF):List Pc:=.rd (.items h.px) :: .rd (.items h.sx) :: ((nP h.n).pcs++[.int .i64 h.w,.int .i32 h.r,.int .i64 h.k])
def eL (l:List Elm):List Iv:=l.map Elm.iv
def hN (l:List Elm):Nat:=cutN (eL l)
def hE (l:List Elm):Nat:=cutE (eL l)
def hA (l:List Elm):Nat:=cutA (eL l) (hN l)
def hB (l:List Elm):Nat:=cutB (eL l) (hA l)
def hT (l:List Elm):List UInt8:=encs ((((eL l).take (hE l)).drop (hN l)).map Iv.sR)
def halfH (l:List Elm) (b:Int) (first:Bool):HF :=
 if (readT (eL l) b first).2.1=0 then ⟨(readT (eL l) b first).1.px,(readT (eL l) b first).1.sx,(readT (eL l) b first).1.n,(readT (eL l) b first).1.sp.w,(readT (eL l) b first).1.sp.r,(hT l).length⟩ else hf0
def posAt (N E n i:Nat):Int:=if i=0 then 1 else if (i:Int)=(N:Int)-1 then 2 else if i=E then 3 else if (i:Int)=(n:Int)-1 then 4 else 0
def spotsE (N E n:Nat):Nat→List Iv→List Spot
 | _,[]=>[]
 | i,y :: m=>(if y.isP=true then [⟨y.pR,y.pP,posAt N E n i⟩] else [])++spotsE N E n (i+1) m
def hSp (l:List Elm) (first:Bool):Spot×Int×Int:=paddedT (spotsE (hN l) (hE l) l.length 0 (eL l)) first
structure P18 (l:List Elm) (first:Bool) where
 i:Nat
 seen:Option Spot
 le:i≤l.length
 ok:∀ x,seen=some x→x.w≠0∧first=true
 eq:paddedT (seen.toList++spotsE (hN l) (hE l) l.length i ((eL l).drop i)) first=hSp l first
def P18.w {l:List Elm} {first:Bool} (x:P18 l first):Int:=match x.seen with | some s=>s.w | none=>0
def P18.r {l:List Elm} {first:Bool} (x:P18 l first):Int:=match x.seen with | some s=>s.r | none=>0
def P18.k {l:List Elm} {first:Bool} (x:P18 l first):Int:=match x.seen with | some _=>1 | none=>0
def hfC (px sx:SC) (w r k:Int):List SC:=px :: sx :: (z0.sc'++[.int .i64 w,.int .i32 r,.int .i64 k])
def zhc:List SC:=hfC .nils .nils 0 0 0
def HNn (l:List Elm):Type:={n:Nat // n≤hN l}
structure HA1 (l:List Elm) where
 e:Nat
 lo:hN l≤e
 hi:e≤hA l
structure HB1 (l:List Elm) where
 e:Nat
 lo:hB l≤e
 hi:e≤hB l+runN ((eL l).drop (hB l)) bodyC
def eC (l:List Elm):Bool:=decide (0<runN ((eL l).drop (hA l)) [69])
def plC (l:List Elm):Bool:=decide (0<runN ((eL l).drop (hA l+1)) [43])
def pA (l:List Elm):List Tok:=plainT ((eL l).take (hN l))
def pB (l:List Elm):List Tok:=plainT ((eL l).drop (hE l))
def annH (l:List Elm) (b:Int) (first:Bool):Ann :=
 .loop 2 (HNn l) (fun n=>⟨[(6,.one (.ptr 16 0)),(7,.one (.ptr 17 0)),(0,.one (.slc 0)),(1,.one (.int .i64 b)),(2,.one (.bool first)),(8,.one (.int .i64 n.1))],[(0,some (.read (.elms l))),(16,some (.cells 75 zhc)),(17,some (.cells 28 [.int .i64 0,.int .i64 0]))],18⟩) (fun n=>l.length-n.1) (fun _=>.nil)
 (.cut 4 Unit (fun _=>⟨[(6,.one (.ptr 16 0)),(7,.one (.ptr 17 0)),(0,.one (.slc 0)),(1,.one (.int .i64 b)),(2,.one (.bool first)),(8,.one (.int .i64 (hN l)))],[(0,some (.read (.elms l))),(16,some (.cells 75 zhc)),(17,some (.cells 28 [.int .i64 0,.int .i64 0]))],18⟩)
 (fun _=>.cut 6 (PLift (hN l<l.length)) (fun _=>⟨[(6,.one (.ptr 16 0)),(7,.one (.ptr 17 0)),(0,.one (.slc 0)),(1,.one (.int .i64 b)),(2,.one (.bool first)),(8,.one (.int .i64 (hN l)))],[(0,some (.read (.elms l))),(16,some (.cells 75 zhc)),(17,some (.cells 28 [.int .i64 0,.int .i64 0]))],18⟩)
 (fun _=>.loop 7 (HA1 l) (fun x=>⟨[(6,.one (.ptr 16 0)),(7,.one (.ptr 17 0)),(0,.one (.slc 0)),(1,.one (.int .i64 b)),(2,.one (.bool first)),(8,.one (.int .i64 (hN l))),(9,.one (.int .i64 x.e))],[(0,some (.read (.elms l))),(16,some (.cells 75 zhc)),(17,some (.cells 28 [.int .i64 0,.int .i64 0]))],18⟩) (fun x=>l.length-x.e) (fun _=>.nil)
 (.cut 9 Unit (fun _=>⟨[(6,.one (.ptr 16 0)),(7,.one (.ptr 17 0)),(0,.one (.slc 0)),(1,.one (.int .i64 b)),(2,.one (.bool first)),(8,.one (.int .i64 (hN l))),(9,.one (.int .i64 (hA l)))],[(0,some (.read (.elms l))),(16,some (.cells 75 zhc)),(17,some (.cells 28 [.int .i64 0,.int .i64 0]))],18⟩)
 (fun _=>.cut 15 Unit (fun _=>⟨[(6,.one (.ptr 16 0)),(7,.one (.ptr 17 0)),(0,.one (.slc 0)),(1,.one (.int .i64 b)),(2,.one (.bool first)),(8,.one (.int .i64 (hN l))),(9,.one (.int .i64 (hE l)))],[(0,some (.read (.elms l))),(16,some (.cells 75 zhc)),(17,some (.cells 28 [.int .i64 0,.int .i64 0]))],18⟩)
  (fun _=>.loop 18 (P18 l first) (fun x=>⟨[(6,.one (.ptr 16 0)),(7,.one (.ptr 17 0)),(0,.one (.slc 0)),(1,.one (.int .i64 b)),(2,.one (.bool first)),(8,.one (.int .i64 (hN l))),(9,.one (.int .i64 (hE l))),(10,.one (.ptr 18 0)),(11,.one (.int .i64 x.k)),(12,.one (.int .i64 x.i))],[(0,some (.read (.elms l))),(16,some (.cells 75 zhc)),(17,some (.cells 28 [.int .i64 0,.int .i64 0])),(18,some (.cells 75 (hfC .nils .nils x.w x.r 0)))],19⟩) (fun x=>l.length-x.i)
   (fun x=>.cut 21 (PLift ((l.getD x.i default).pad=true∧x.i<l.length)) (fun _=>⟨[(6,.one (.ptr 16 0)),(7,.one (.ptr 17 0)),(0,.one (.slc 0)),(1,.one (.int .i64 b)),(2,.one (.bool first)),(8,.one (.int .i64 (hN l))),(9,.one (.int .i64 (hE l))),(10,.one (.ptr 18 0)),(11,.one (.int .i64 x.k)),(12,.one (.int .i64 x.i))],[(0,some (.read (.elms l))),(16,some (.cells 75 zhc)),(17,some (.cells 28 [.int .i64 0,.int .i64 0])),(18,some (.cells 75 (hfC .nils .nils x.w x.r 0)))],19⟩)
    (fun _=>.cut 30 Unit (fun _=>⟨[(6,.one (.ptr 16 0)),(7,.one (.ptr 17 0)),(0,.one (.slc 0)),(1,.one (.int .i64 b)),(2,.one (.bool first)),(8,.one (.int .i64 (hN l))),(9,.one (.int .i64 (hE l))),(10,.one (.ptr 18 0)),(11,.one (.int .i64 x.k)),(12,.one (.int .i64 x.i)),(13,.one (.int .i64 (posAt (hN l) (hE l) l.length x.i)))],[(0,some (.read (.elms l))),(16,some (.cells 75 zhc)),(17,some (.cells 28 [.int .i64 0,.int .i64 0])),(18,some (.cells 75 (hfC .nils .nils x.w x.r 0)))],19⟩)
     (fun _=>.nil) .nil) .nil)
  (.cut 34 (PLift ((hSp l first).2.1=0)) (fun _=>⟨[(6,.one (.ptr 16 0)),(7,.one (.ptr 17 0)),(0,.one (.slc 0)),(1,.one (.int .i64 b)),(2,.one (.bool first)),(8,.one (.int .i64 (hN l))),(9,.one (.int .i64 (hE l))),(10,.one (.ptr 18 0))],[(0,some (.read (.elms l))),(16,some (.cells 75 zhc)),(17,some (.cells 28 [.int .i64 0,.int .i64 0])),(18,some (.cells 75 (hfC .nils .nils (hSp l first).1.w (hSp l first).1.r 0)))],19⟩)
  (fun _=>.loop 37 (Upto l) (fun i=>⟨[(6,.one (.ptr 16 0)),(7,.one (.ptr 17 0)),(0,.one (.slc 0)),(1,.one (.int .i64 b)),(2,.one (.bool first)),(8,.one (.int .i64 (hN l))),(9,.one (.int .i64 (hE l))),(10,.one (.ptr 18 0)),(14,.one (.slc 19)),(15,.one (.slc 20)),(16,.one (.str (encs ((((eL l).take (min i.1 (hE l))).drop (hN l)).map Iv.sR)))),(17,.one (.int .i64 i.1))],[(0,some (.read (.elms l))),(16,some (.cells 75 zhc)),(17,some (.cells 28 [.int .i64 0,.int .i64 0])),(18,some (.cells 75 (hfC .nils .nils (hSp l first).1.w (hSp l first).1.r 0))),(19,some (.row 71 (.toks (plainT ((eL l).take (min i.1 (hN l))))))),(20,some (.row 71 (.toks (plainT (((eL l).take i.1).drop (hE l))))))],21⟩) (fun i=>l.length-i.1)
   (fun i=>.nil)
  (.cut 45 Unit (fun _=>⟨[(6,.one (.ptr 16 0)),(7,.one (.ptr 17 0)),(0,.one (.slc 0)),(8,.one (.int .i64 (hN l))),(10,.one (.ptr 18 0)),(14,.one (.slc 19)),(15,.one (.slc 20)),(16,.one (.str (hT l)))],[(0,some (.read (.elms l))),(16,some (.cells 75 zhc)),(17,some (.cells 28 [.int .i64 0,.int .i64 0])),(18,some (.cells 75 (hfC .nils .nils (hSp l first).1.w (hSp l first).1.r 0))),(19,some (.row 71 (.toks (pA l)))),(20,some (.row 71 (.toks (pB l))))],21⟩)
  (fun _=>.cut 48 (PLift ((itemsR (pA l)).2.1=0)) (fun _=>⟨[(6,.one (.ptr 16 0)),(7,.one (.ptr 17 0)),(0,.one (.slc 0)),(8,.one (.int .i64 (hN l))),(10,.one (.ptr 18 0)),(15,.one (.slc 20)),(16,.one (.str (hT l))),(18,.one (.slc 21)),(19,.one (.ptr 22 0))],[(0,some (.read (.elms l))),(16,some (.cells 75 zhc)),(17,some (.cells 28 [.int .i64 0,.int .i64 0])),(18,some (.cells 75 (hfC .nils .nils (hSp l first).1.w (hSp l first).1.r 0))),(20,some (.row 71 (.toks (pB l)))),(21,some (.read (.items (itemsR (pA l)).1))),(22,some (.cells 28 [.int .i64 (itemsR (pA l)).2.1,.int .i64 (itemsR (pA l)).2.2]))],23⟩)
  (fun _=>.cut 51 (PLift ((numT (hT l)).2=0)) (fun _=>⟨[(6,.one (.ptr 16 0)),(7,.one (.ptr 17 0)),(0,.one (.slc 0)),(10,.one (.ptr 18 0)),(15,.one (.slc 20)),(16,.one (.str (hT l))),(18,.one (.slc 21)),(19,.one (.ptr 22 0)),(20,.one (.ptr 23 0))],[(0,some (.read (.elms l))),(16,some (.cells 75 zhc)),(17,some (.cells 28 [.int .i64 0,.int .i64 0])),(18,some (.cells 75 (hfC .nils .nils (hSp l first).1.w (hSp l first).1.r 0))),(20,some (.row 71 (.toks (pB l)))),(21,some (.read (.items (itemsR (pA l)).1))),(22,some (.cells 28 [.int .i64 (itemsR (pA l)).2.1,.int .i64 (itemsR (pA l)).2.2])),(23,some (.cells 25 ((nP (numT (hT l)).1).sc 24 25 26 27))),(24,some (.read (.items []))),(25,some (.read (.items []))),(26,some (.read (.items []))),(27,some (.read (.items [])))],28⟩)
  (fun _=>.cut 54 (PLift ((itemsR (pB l)).2.1=0)) (fun _=>⟨[(6,.one (.ptr 16 0)),(7,.one (.ptr 17 0)),(0,.one (.slc 0)),(10,.one (.ptr 18 0)),(16,.one (.str (hT l))),(18,.one (.slc 21)),(20,.one (.ptr 23 0)),(22,.one (.slc 20))],[(0,some (.read (.elms l))),(16,some (.cells 75 zhc)),(17,some (.cells 28 [.int .i64 0,.int .i64 0])),(18,some (.cells 75 (hfC .nils .nils (hSp l first).1.w (hSp l first).1.r 0))),(20,some (.read (.items (itemsR (pB l)).1))),(21,some (.read (.items (itemsR (pA l)).1))),(23,some (.cells 25 ((nP (numT (hT l)).1).sc 24 25 26 27))),(24,some (.read (.items []))),(25,some (.read (.items []))),(26,some (.read (.items []))),(27,some (.read (.items [])))],28⟩) (fun _=>.nil) .nil) .nil) .nil) .nil)) .nil))
  (.cut 10 Unit (fun _=>⟨[(6,.one (.ptr 16 0)),(7,.one (.ptr 17 0)),(0,.one (.slc 0)),(1,.one (.int .i64 b)),(2,.one (.bool first)),(8,.one (.int .i64 (hN l))),(9,.one (.int .i64 (hA l))),(68,.one (.bool (eC l)))],[(0,some (.read (.elms l))),(16,some (.cells 75 zhc)),(17,some (.cells 28 [.int .i64 0,.int .i64 0]))],18⟩) (fun _ =>
   .cut 12 (PLift (eC l=true)) (fun _=>⟨[(6,.one (.ptr 16 0)),(7,.one (.ptr 17 0)),(0,.one (.slc 0)),(1,.one (.int .i64 b)),(2,.one (.bool first)),(8,.one (.int .i64 (hN l))),(9,.one (.int .i64 ((hA l:Int)+1))),(81,.one (.bool (plC l)))],[(0,some (.read (.elms l))),(16,some (.cells 75 zhc)),(17,some (.cells 28 [.int .i64 0,.int .i64 0]))],18⟩) (fun _=>.nil)
    (.cut 13 (PLift (eC l=true)) (fun _=>⟨[(6,.one (.ptr 16 0)),(7,.one (.ptr 17 0)),(0,.one (.slc 0)),(1,.one (.int .i64 b)),(2,.one (.bool first)),(8,.one (.int .i64 (hN l))),(9,.one (.int .i64 (hB l)))],[(0,some (.read (.elms l))),(16,some (.cells 75 zhc)),(17,some (.cells 28 [.int .i64 0,.int .i64 0]))],18⟩) (fun _=>.loop 13 (HB1 l) (fun x=>⟨[(6,.one (.ptr 16 0)),(7,.one (.ptr 17 0)),(0,.one (.slc 0)),(1,.one (.int .i64 b)),(2,.one (.bool first)),(8,.one (.int .i64 (hN l))),(9,.one (.int .i64 x.e))],[(0,some (.read (.elms l))),(16,some (.cells 75 zhc)),(17,some (.cells 28 [.int .i64 0,.int .i64 0]))],18⟩) (fun x=>l.length-x.e) (fun _=>.nil) .nil) .nil)) .nil)) .nil)) .nil) .nil)
def sp_r3half:FSpec:=⟨[],fun | [.one (.rd (.elms l)),.one (.int .i64 b),.one (.bool first)]=>some ([EOK (eL l),l.length≤1000000],.tup [(true,(halfH l b first).pcs),(true,[.int .i64 (readT (eL l) b first).2.1,.int .i64 (readT (eL l) b first).2.2])]) | _=>none⟩
theorem vc_r3half (l:List Elm) (b:Int) (first:Bool):vcP [(70,sp_ebody),(36,sp_eplain),(71,sp_ritems),(18,sp_r3num),(22,sp_bytes)] [] misc Tryz.f37 (annH l b first) [.one (.rd (.elms l)),.one (.int .i64 b),.one (.bool first)] (.tup [(true,(halfH l b first).pcs),(true,[.int .i64 (readT (eL l) b first).2.1,.int .i64 (readT (eL l) b first).2.2])])=(letI v0:=([]=HF.px (halfH l b first)∧[]=HF.sx (halfH l b first)∧[]=Pat.pre (nP (HF.n (halfH l b first)))∧[]=Pat.suf (nP (HF.n (halfH l b first)))∧false=Pat.hn (nP (HF.n (halfH l b first)))∧[]=Pat.npre (nP (HF.n (halfH l b first)))∧[]=Pat.nsuf (nP (HF.n (halfH l b first)))∧(0:Int)=Num.mi (Pat.n (nP (HF.n (halfH l b first))))∧(0:Int)=Num.xi (Pat.n (nP (HF.n (halfH l b first))))∧(0:Int)=Num.mf (Pat.n (nP (HF.n (halfH l b first))))∧(0:Int)=Num.xf (Pat.n (nP (HF.n (halfH l b first))))∧(0:Int)=Num.ms (Pat.n (nP (HF.n (halfH l b first))))∧(0:Int)=Num.xs (Pat.n (nP (HF.n (halfH l b first))))∧(0:Int)=Num.pr (Pat.n (nP (HF.n (halfH l b first))))∧(0:Int)=Num.sc (Pat.n (nP (HF.n (halfH l b first))))∧[]=Num.inc (Pat.n (nP (HF.n (halfH l b first))))∧false=Num.ps (Pat.n (nP (HF.n (halfH l b first))))∧(0:Int)=Num.me (Pat.n (nP (HF.n (halfH l b first))))∧false=Num.px (Pat.n (nP (HF.n (halfH l b first))))∧(0:Int)=Pat.pa (nP (HF.n (halfH l b first)))∧(0:Int)=Pat.pd (nP (HF.n (halfH l b first)))∧(0:Int)=Pat.pw (nP (HF.n (halfH l b first)))∧(0:Int)=HF.w (halfH l b first)∧(0:Int)=HF.r (halfH l b first)∧(0:Int)=HF.k (halfH l b first)); letI v1:=(hfC SC.nils SC.nils (Spot.w (hSp l first).1) (Spot.r (hSp l first).1) (0:Int)); letI v2:=(nP (HF.n (halfH l b first))); letI v3:=((23:Nat)+(16:Nat),some (SB.read (Ls.items []))); letI v4:=(Pat.n (nP (numT (hT l)).1)); letI v5:=((23:Nat)+(16:Nat)+List.length [v3],some (SB.read (Ls.items []))); letI v6:=(Pat.sc (24:Nat) (25:Nat) (26:Nat) (27:Nat) (nP (numT (hT l)).1)); letI v7:=(List.getD l (Int.toNat ((↑(hA l):Int)+(1:Int))) default); letI v8:=(List.getD l (Int.toNat (↑(hA l):Int)) default); (((∃ (x:HNn l),b=b∧first=first∧(0:Int)=(↑(Subtype.val x):Int)∧l=l∧EqL zhc [SC.nils,SC.nils,SC.nils,SC.nils,SC.ff,SC.nils,SC.nils,SC.int IntKind.i64 (0:Int),SC.int IntKind.i64 (0:Int),SC.int IntKind.i64 (0:Int),SC.int IntKind.i64 (0:Int),SC.int IntKind.i64 (0:Int),SC.int IntKind.i64 (0:Int),SC.int IntKind.i64 (0:Int),SC.int IntKind.i64 (0:Int),SC.str [],SC.ff,SC.int IntKind.i64 (0:Int),SC.ff,SC.int IntKind.i64 (0:Int),SC.int IntKind.i32 (0:Int),SC.int IntKind.i64 (0:Int),SC.int IntKind.i64 (0:Int),SC.int IntKind.i32 (0:Int),SC.int IntKind.i64 (0:Int)]∧(0:Int)=(0:Int)∧(0:Int)=(0:Int))∧∀ (x:HNn l),(letI v9:=(↑(Subtype.val x):Int); br (decide (v9<(↑(List.length l):Int))) (((0:Int)≤v9∧v9<(↑(List.length l):Int))∧Int.toNat v9<List.length l∧br (!isIn bodyC (Elm.iv (List.getD l (Int.toNat v9) default))) (inR IntKind.i64 (v9+(1:Int))∧∃ (x':HNn l),(b=b∧first=first∧v9+(1:Int)=(↑(Subtype.val x'):Int)∧l=l∧EqL zhc zhc∧(0:Int)=(0:Int)∧(0:Int)=(0:Int))∧List.length l-Subtype.val x'<List.length l-Subtype.val x) (∃ (j:Unit),b=b∧first=first∧v9=(↑(hN l):Int)∧l=l∧EqL zhc zhc∧(0:Int)=(0:Int)∧(0:Int)=(0:Int))) (∃ (j:Unit),b=b∧first=first∧v9=(↑(hN l):Int)∧l=l∧EqL zhc zhc∧(0:Int)=(0:Int)∧(0:Int)=(0:Int))))∧∀ (j:Unit),(letI v10:=(↑(List.length l):Int); letI v11:=(readT (eL l) b first); br ((↑(hN l):Int)==v10) (v0∧(4:Int)=v11.2.1∧b=v11.2.2) (∃ (j:PLift (hN l<List.length l)),b=b∧first=first∧(↑(hN l):Int)=(↑(hN l):Int)∧l=l∧EqL zhc zhc∧(0:Int)=(0:Int)∧(0:Int)=(0:Int))∧∀ (j:PLift (hN l<List.length l)),((∃ (x:HA1 l),b=b∧first=first∧(↑(hN l):Int)=(↑(hN l):Int)∧(↑(hN l):Int)=(↑(HA1.e x):Int)∧l=l∧EqL zhc zhc∧(0:Int)=(0:Int)∧(0:Int)=(0:Int))∧∀ (x:HA1 l),br (decide ((↑(HA1.e x):Int)<v10)) (((0:Int)≤(↑(HA1.e x):Int)∧(↑(HA1.e x):Int)<v10)∧Int.toNat (↑(HA1.e x):Int)<List.length l∧br (isIn bodyC (Elm.iv (List.getD l (Int.toNat (↑(HA1.e x):Int)) default))) (inR IntKind.i64 ((↑(HA1.e x):Int)+(1:Int))∧∃ (x':HA1 l),(b=b∧first=first∧(↑(hN l):Int)=(↑(hN l):Int)∧(↑(HA1.e x):Int)+(1:Int)=(↑(HA1.e x'):Int)∧l=l∧EqL zhc zhc∧(0:Int)=(0:Int)∧(0:Int)=(0:Int))∧List.length l-HA1.e x'<List.length l-HA1.e x) (∃ (j:Unit),b=b∧first=first∧(↑(hN l):Int)=(↑(hN l):Int)∧(↑(HA1.e x):Int)=(↑(hA l):Int)∧l=l∧EqL zhc zhc∧(0:Int)=(0:Int)∧(0:Int)=(0:Int))) (∃ (j:Unit),b=b∧first=first∧(↑(hN l):Int)=(↑(hN l):Int)∧(↑(HA1.e x):Int)=(↑(hA l):Int)∧l=l∧EqL zhc zhc∧(0:Int)=(0:Int)∧(0:Int)=(0:Int)))∧∀ (j:Unit),(br (decide ((↑(hA l):Int)<v10)) (((0:Int)≤(↑(hA l):Int)∧(↑(hA l):Int)<v10)∧Int.toNat (↑(hA l):Int)<List.length l∧∃ (j:Unit),b=b∧first=first∧(↑(hN l):Int)=(↑(hN l):Int)∧(↑(hA l):Int)=(↑(hA l):Int)∧(!Elm.pad v8 && (!Elm.q v8 && Elm.r v8==(69:Int)))=eC l∧l=l∧EqL zhc zhc∧(0:Int)=(0:Int)∧(0:Int)=(0:Int)) (∃ (j:Unit),b=b∧first=first∧(↑(hN l):Int)=(↑(hN l):Int)∧(↑(hA l):Int)=(↑(hA l):Int)∧false=eC l∧l=l∧EqL zhc zhc∧(0:Int)=(0:Int)∧(0:Int)=(0:Int))∧∀ (j:Unit),br (eC l) (inR IntKind.i64 ((↑(hA l):Int)+(1:Int))∧(br (decide ((↑(hA l):Int)+(1:Int)<v10)) (((0:Int)≤(↑(hA l):Int)+(1:Int)∧(↑(hA l):Int)+(1:Int)<v10)∧Int.toNat ((↑(hA l):Int)+(1:Int))<List.length l∧∃ (j:PLift (eC l=true)),b=b∧first=first∧(↑(hN l):Int)=(↑(hN l):Int)∧(↑(hA l):Int)+(1:Int)=(↑(hA l):Int)+(1:Int)∧(!Elm.pad v7 && (!Elm.q v7 && Elm.r v7==(43:Int)))=plC l∧l=l∧EqL zhc zhc∧(0:Int)=(0:Int)∧(0:Int)=(0:Int)) (∃ (j:PLift (eC l=true)),b=b∧first=first∧(↑(hN l):Int)=(↑(hN l):Int)∧(↑(hA l):Int)+(1:Int)=(↑(hA l):Int)+(1:Int)∧false=plC l∧l=l∧EqL zhc zhc∧(0:Int)=(0:Int)∧(0:Int)=(0:Int))∧∀ (j:PLift (eC l=true)),br (plC l) (inR IntKind.i64 ((↑(hA l):Int)+(1:Int)+(1:Int))∧∃ (j:PLift (eC l=true)),b=b∧first=first∧(↑(hN l):Int)=(↑(hN l):Int)∧(↑(hA l):Int)+(1:Int)+(1:Int)=(↑(hB l):Int)∧l=l∧EqL zhc zhc∧(0:Int)=(0:Int)∧(0:Int)=(0:Int)) (∃ (j:PLift (eC l=true)),b=b∧first=first∧(↑(hN l):Int)=(↑(hN l):Int)∧(↑(hA l):Int)+(1:Int)=(↑(hB l):Int)∧l=l∧EqL zhc zhc∧(0:Int)=(0:Int)∧(0:Int)=(0:Int)))∧∀ (j:PLift (eC l=true)),(∃ (x:HB1 l),b=b∧first=first∧(↑(hN l):Int)=(↑(hN l):Int)∧(↑(hB l):Int)=(↑(HB1.e x):Int)∧l=l∧EqL zhc zhc∧(0:Int)=(0:Int)∧(0:Int)=(0:Int))∧∀ (x:HB1 l),br (decide ((↑(HB1.e x):Int)<v10)) (((0:Int)≤(↑(HB1.e x):Int)∧(↑(HB1.e x):Int)<v10)∧Int.toNat (↑(HB1.e x):Int)<List.length l∧br (isIn bodyC (Elm.iv (List.getD l (Int.toNat (↑(HB1.e x):Int)) default))) (inR IntKind.i64 ((↑(HB1.e x):Int)+(1:Int))∧∃ (x':HB1 l),(b=b∧first=first∧(↑(hN l):Int)=(↑(hN l):Int)∧(↑(HB1.e x):Int)+(1:Int)=(↑(HB1.e x'):Int)∧l=l∧EqL zhc zhc∧(0:Int)=(0:Int)∧(0:Int)=(0:Int))∧List.length l-HB1.e x'<List.length l-HB1.e x) (∃ (j:Unit),b=b∧first=first∧(↑(hN l):Int)=(↑(hN l):Int)∧(↑(HB1.e x):Int)=(↑(hE l):Int)∧l=l∧EqL zhc zhc∧(0:Int)=(0:Int)∧(0:Int)=(0:Int))) (∃ (j:Unit),b=b∧first=first∧(↑(hN l):Int)=(↑(hN l):Int)∧(↑(HB1.e x):Int)=(↑(hE l):Int)∧l=l∧EqL zhc zhc∧(0:Int)=(0:Int)∧(0:Int)=(0:Int))) (∃ (j:Unit),b=b∧first=first∧(↑(hN l):Int)=(↑(hN l):Int)∧(↑(hA l):Int)=(↑(hE l):Int)∧l=l∧EqL zhc zhc∧(0:Int)=(0:Int)∧(0:Int)=(0:Int)))∧∀ (j:Unit),((∃ (x:P18 l first),b=b∧first=first∧(↑(hN l):Int)=(↑(hN l):Int)∧(↑(hE l):Int)=(↑(hE l):Int)∧(0:Int)=P18.k x∧(0:Int)=(↑(P18.i x):Int)∧l=l∧EqL zhc zhc∧(0:Int)=(0:Int)∧(0:Int)=(0:Int)∧EqL (hfC SC.nils SC.nils (P18.w x) (P18.r x) (0:Int)) [SC.nils,SC.nils,SC.nils,SC.nils,SC.ff,SC.nils,SC.nils,SC.int IntKind.i64 (0:Int),SC.int IntKind.i64 (0:Int),SC.int IntKind.i64 (0:Int),SC.int IntKind.i64 (0:Int),SC.int IntKind.i64 (0:Int),SC.int IntKind.i64 (0:Int),SC.int IntKind.i64 (0:Int),SC.int IntKind.i64 (0:Int),SC.str [],SC.ff,SC.int IntKind.i64 (0:Int),SC.ff,SC.int IntKind.i64 (0:Int),SC.int IntKind.i32 (0:Int),SC.int IntKind.i64 (0:Int),SC.int IntKind.i64 (0:Int),SC.int IntKind.i32 (0:Int),SC.int IntKind.i64 (0:Int)])∧∀ (x:P18 l first),(letI v12:=(hfC SC.nils SC.nils (P18.w x) (P18.r x) (0:Int)); letI v13:=(((0:Int)≤(↑(P18.i x):Int)∧(↑(P18.i x):Int)<v10)∧Int.toNat (↑(P18.i x):Int)<List.length l∧v0∧(7:Int)=v11.2.1∧Elm.p (List.getD l (Int.toNat (↑(P18.i x):Int)) default)=v11.2.2); letI v14:=(Elm.pad (List.getD l (P18.i x) default)=true∧P18.i x<List.length l); letI v15:=((0:Int)≤(↑(P18.i x):Int)∧(↑(P18.i x):Int)<v10); letI v16:=(List.getD l (Int.toNat (↑(P18.i x):Int)) default); br (decide ((↑(P18.i x):Int)<v10)) ((v15∧Int.toNat (↑(P18.i x):Int)<List.length l∧br (!Elm.pad v16) (inR IntKind.i64 ((↑(P18.i x):Int)+(1:Int))∧∃ (x':P18 l first),(b=b∧first=first∧(↑(hN l):Int)=(↑(hN l):Int)∧(↑(hE l):Int)=(↑(hE l):Int)∧P18.k x=P18.k x'∧(↑(P18.i x):Int)+(1:Int)=(↑(P18.i x'):Int)∧l=l∧EqL zhc zhc∧(0:Int)=(0:Int)∧(0:Int)=(0:Int)∧EqL (hfC SC.nils SC.nils (P18.w x') (P18.r x') (0:Int)) v12)∧List.length l-P18.i x'<List.length l-P18.i x) (∃ (j:PLift v14),b=b∧first=first∧(↑(hN l):Int)=(↑(hN l):Int)∧(↑(hE l):Int)=(↑(hE l):Int)∧P18.k x=P18.k x∧(↑(P18.i x):Int)=(↑(P18.i x):Int)∧l=l∧EqL zhc zhc∧(0:Int)=(0:Int)∧(0:Int)=(0:Int)∧EqL v12 v12))∧∀ (j:PLift v14),br ((↑(P18.i x):Int)==(0:Int)) (∃ (j:Unit),b=b∧first=first∧(↑(hN l):Int)=(↑(hN l):Int)∧(↑(hE l):Int)=(↑(hE l):Int)∧P18.k x=P18.k x∧(↑(P18.i x):Int)=(↑(P18.i x):Int)∧(1:Int)=posAt (hN l) (hE l) (List.length l) (P18.i x)∧l=l∧EqL zhc zhc∧(0:Int)=(0:Int)∧(0:Int)=(0:Int)∧EqL v12 v12) (inR IntKind.i64 ((↑(hN l):Int)-(1:Int))∧br ((↑(P18.i x):Int)==(↑(hN l):Int)-(1:Int)) (∃ (j:Unit),b=b∧first=first∧(↑(hN l):Int)=(↑(hN l):Int)∧(↑(hE l):Int)=(↑(hE l):Int)∧P18.k x=P18.k x∧(↑(P18.i x):Int)=(↑(P18.i x):Int)∧(2:Int)=posAt (hN l) (hE l) (List.length l) (P18.i x)∧l=l∧EqL zhc zhc∧(0:Int)=(0:Int)∧(0:Int)=(0:Int)∧EqL v12 v12) (br ((↑(P18.i x):Int)==(↑(hE l):Int)) (∃ (j:Unit),b=b∧first=first∧(↑(hN l):Int)=(↑(hN l):Int)∧(↑(hE l):Int)=(↑(hE l):Int)∧P18.k x=P18.k x∧(↑(P18.i x):Int)=(↑(P18.i x):Int)∧(3:Int)=posAt (hN l) (hE l) (List.length l) (P18.i x)∧l=l∧EqL zhc zhc∧(0:Int)=(0:Int)∧(0:Int)=(0:Int)∧EqL v12 v12) (inR IntKind.i64 (v10-(1:Int))∧br ((↑(P18.i x):Int)==v10-(1:Int)) (∃ (j:Unit),b=b∧first=first∧(↑(hN l):Int)=(↑(hN l):Int)∧(↑(hE l):Int)=(↑(hE l):Int)∧P18.k x=P18.k x∧(↑(P18.i x):Int)=(↑(P18.i x):Int)∧(4:Int)=posAt (hN l) (hE l) (List.length l) (P18.i x)∧l=l∧EqL zhc zhc∧(0:Int)=(0:Int)∧(0:Int)=(0:Int)∧EqL v12 v12) (∃ (j:Unit),b=b∧first=first∧(↑(hN l):Int)=(↑(hN l):Int)∧(↑(hE l):Int)=(↑(hE l):Int)∧P18.k x=P18.k x∧(↑(P18.i x):Int)=(↑(P18.i x):Int)∧(0:Int)=posAt (hN l) (hE l) (List.length l) (P18.i x)∧l=l∧EqL zhc zhc∧(0:Int)=(0:Int)∧(0:Int)=(0:Int)∧EqL v12 v12))))∧∀ (j:Unit),inR IntKind.i64 (P18.k x+(1:Int))∧br (posAt (hN l) (hE l) (List.length l) (P18.i x)==(0:Int)) v13 (br (decide (P18.k x+(1:Int)>(1:Int))) v13 (br (!first) v13 (v15∧Int.toNat (↑(P18.i x):Int)<List.length l∧inR IntKind.i64 ((↑(P18.i x):Int)+(1:Int))∧∃ (x':P18 l first),(b=b∧first=first∧(↑(hN l):Int)=(↑(hN l):Int)∧(↑(hE l):Int)=(↑(hE l):Int)∧P18.k x+(1:Int)=P18.k x'∧(↑(P18.i x):Int)+(1:Int)=(↑(P18.i x'):Int)∧l=l∧EqL zhc zhc∧(0:Int)=(0:Int)∧(0:Int)=(0:Int)∧EqL (hfC SC.nils SC.nils (P18.w x') (P18.r x') (0:Int)) [SC.nils,SC.nils,SC.nils,SC.nils,SC.ff,SC.nils,SC.nils,SC.int IntKind.i64 (Num.mi z0),SC.int IntKind.i64 (Num.xi z0),SC.int IntKind.i64 (Num.mf z0),SC.int IntKind.i64 (Num.xf z0),SC.int IntKind.i64 (Num.ms z0),SC.int IntKind.i64 (Num.xs z0),SC.int IntKind.i64 (Num.pr z0),SC.int IntKind.i64 (Num.sc z0),SC.str (Num.inc z0),SC.bool (Num.ps z0),SC.int IntKind.i64 (Num.me z0),SC.bool (Num.px z0),SC.int IntKind.i64 (0:Int),SC.int IntKind.i32 (0:Int),SC.int IntKind.i64 (0:Int),SC.int IntKind.i64 (posAt (hN l) (hE l) (List.length l) (P18.i x)),SC.int IntKind.i32 (Elm.r v16),SC.int IntKind.i64 (0:Int)])∧List.length l-P18.i x'<List.length l-P18.i x)))) (∃ (j:PLift (Prod.fst (Prod.snd (hSp l first))=(0:Int))),b=b∧first=first∧(↑(hN l):Int)=(↑(hN l):Int)∧(↑(hE l):Int)=(↑(hE l):Int)∧l=l∧EqL zhc zhc∧(0:Int)=(0:Int)∧(0:Int)=(0:Int)∧EqL v1 v12)))∧∀ (j:PLift (Prod.fst (Prod.snd (hSp l first))=(0:Int))),((∃ (x:Upto l),b=b∧first=first∧(↑(hN l):Int)=(↑(hN l):Int)∧(↑(hE l):Int)=(↑(hE l):Int)∧Array.toList #[]=encs (List.map Iv.sR (List.drop (hN l) (List.take (min (Subtype.val x) (hE l)) (eL l))))∧(0:Int)=(↑(Subtype.val x):Int)∧l=l∧EqL zhc zhc∧(0:Int)=(0:Int)∧(0:Int)=(0:Int)∧EqL v1 v1∧plainT (List.take (min (Subtype.val x) (hN l)) (eL l))=[]∧plainT (List.drop (hE l) (List.take (Subtype.val x) (eL l)))=[])∧∀ (x:Upto l),(letI v17:=(↑(Subtype.val x):Int); letI v18:=(List.map Iv.sR (List.drop (hN l) (List.take (min (Subtype.val x) (hE l)) (eL l)))); letI v19:=(List.getD l (Int.toNat v17) default); letI v20:=(List.drop (hE l) (List.take (Subtype.val x) (eL l))); letI v21:=(List.take (min (Subtype.val x) (hN l)) (eL l)); letI v22:=((0:Int)≤v17∧v17<v10); br (decide (v17<v10)) (v22∧Int.toNat v17<List.length l∧br (Elm.pad v19) (inR IntKind.i64 (v17+(1:Int))∧∃ (x':Upto l),(b=b∧first=first∧(↑(hN l):Int)=(↑(hN l):Int)∧(↑(hE l):Int)=(↑(hE l):Int)∧encs v18=encs (List.map Iv.sR (List.drop (hN l) (List.take (min (Subtype.val x') (hE l)) (eL l))))∧v17+(1:Int)=(↑(Subtype.val x'):Int)∧l=l∧EqL zhc zhc∧(0:Int)=(0:Int)∧(0:Int)=(0:Int)∧EqL v1 v1∧plainT v21=plainT (List.take (min (Subtype.val x') (hN l)) (eL l))∧plainT v20=plainT (List.drop (hE l) (List.take (Subtype.val x') (eL l))))∧List.length l-Subtype.val x'<List.length l-Subtype.val x) (br (decide (v17<(↑(hN l):Int))) (v22∧Int.toNat v17<List.length l∧(List.length (plainT v21)+(1:Nat))*(16:Nat)≤(140737488355328:Nat)∧inR IntKind.i64 (v17+(1:Int))∧∃ (x':Upto l),(b=b∧first=first∧(↑(hN l):Int)=(↑(hN l):Int)∧(↑(hE l):Int)=(↑(hE l):Int)∧encs v18=encs (List.map Iv.sR (List.drop (hN l) (List.take (min (Subtype.val x') (hE l)) (eL l))))∧v17+(1:Int)=(↑(Subtype.val x'):Int)∧l=l∧EqL zhc zhc∧(0:Int)=(0:Int)∧(0:Int)=(0:Int)∧EqL v1 v1∧plainT v21++[{ r:=Elm.r v19,q:=Elm.q v19,p:=Elm.p v19 }]=plainT (List.take (min (Subtype.val x') (hN l)) (eL l))∧plainT v20=plainT (List.drop (hE l) (List.take (Subtype.val x') (eL l))))∧List.length l-Subtype.val x'<List.length l-Subtype.val x) (br (decide (v17<(↑(hE l):Int))) (v22∧Int.toNat v17<List.length l∧scalar (Elm.r v19)=true∧List.length (encs v18)+List.length (List.map (fun (n:Int)=>UInt8.ofNat (Int.toNat n)) (Lib.encodeRuneZ (Elm.r v19)))≤(9223372036854775807:Nat)∧inR IntKind.i64 (v17+(1:Int))∧∃ (x':Upto l),(b=b∧first=first∧(↑(hN l):Int)=(↑(hN l):Int)∧(↑(hE l):Int)=(↑(hE l):Int)∧encs v18++List.map (fun (n:Int)=>UInt8.ofNat (Int.toNat n)) (Lib.encodeRuneZ (Elm.r v19))=encs (List.map Iv.sR (List.drop (hN l) (List.take (min (Subtype.val x') (hE l)) (eL l))))∧v17+(1:Int)=(↑(Subtype.val x'):Int)∧l=l∧EqL zhc zhc∧(0:Int)=(0:Int)∧(0:Int)=(0:Int)∧EqL v1 v1∧plainT v21=plainT (List.take (min (Subtype.val x') (hN l)) (eL l))∧plainT v20=plainT (List.drop (hE l) (List.take (Subtype.val x') (eL l))))∧List.length l-Subtype.val x'<List.length l-Subtype.val x) (v22∧Int.toNat v17<List.length l∧(List.length (plainT v20)+(1:Nat))*(16:Nat)≤(140737488355328:Nat)∧inR IntKind.i64 (v17+(1:Int))∧∃ (x':Upto l),(b=b∧first=first∧(↑(hN l):Int)=(↑(hN l):Int)∧(↑(hE l):Int)=(↑(hE l):Int)∧encs v18=encs (List.map Iv.sR (List.drop (hN l) (List.take (min (Subtype.val x') (hE l)) (eL l))))∧v17+(1:Int)=(↑(Subtype.val x'):Int)∧l=l∧EqL zhc zhc∧(0:Int)=(0:Int)∧(0:Int)=(0:Int)∧EqL v1 v1∧plainT v21=plainT (List.take (min (Subtype.val x') (hN l)) (eL l))∧plainT v20++[{ r:=Elm.r v19,q:=Elm.q v19,p:=Elm.p v19 }]=plainT (List.drop (hE l) (List.take (Subtype.val x') (eL l))))∧List.length l-Subtype.val x'<List.length l-Subtype.val x)))) (∃ (j:Unit),(↑(hN l):Int)=(↑(hN l):Int)∧encs v18=hT l∧l=l∧EqL zhc zhc∧(0:Int)=(0:Int)∧(0:Int)=(0:Int)∧EqL v1 v1∧plainT v21=pA l∧plainT v20=pB l)))∧∀ (j:Unit),List.length (pA l)≤(1000000000:Nat)∧br ((itemsR (pA l)).2.1 != (0:Int)) (v0∧(itemsR (pA l)).2.1=v11.2.1∧(itemsR (pA l)).2.2=v11.2.2) (∃ (j:PLift (Prod.fst (Prod.snd (itemsR (pA l)))=(0:Int))),(↑(hN l):Int)=(↑(hN l):Int)∧hT l=hT l∧l=l∧EqL zhc zhc∧(0:Int)=(0:Int)∧(0:Int)=(0:Int)∧EqL v1 v1∧pB l=pB l∧(itemsR (pA l)).1=(itemsR (pA l)).1∧(itemsR (pA l)).2.1=(itemsR (pA l)).2.1∧(itemsR (pA l)).2.2=(itemsR (pA l)).2.2)∧∀ (j:PLift (Prod.fst (Prod.snd (itemsR (pA l)))=(0:Int))),List.length (hT l)≤(1000000000:Nat)∧br ((numT (hT l)).2 != (0:Int)) (((0:Int)≤(↑(hN l):Int)∧(↑(hN l):Int)<v10)∧Int.toNat (↑(hN l):Int)<List.length l∧v0∧(numT (hT l)).2=v11.2.1∧Elm.p (List.getD l (Int.toNat (↑(hN l):Int)) default)=v11.2.2) (∃ (j:PLift (Prod.snd (numT (hT l))=(0:Int))),hT l=hT l∧l=l∧EqL zhc zhc∧(0:Int)=(0:Int)∧(0:Int)=(0:Int)∧EqL v1 v1∧pB l=pB l∧(itemsR (pA l)).1=(itemsR (pA l)).1∧(itemsR (pA l)).2.1=(itemsR (pA l)).2.1∧(itemsR (pA l)).2.2=(itemsR (pA l)).2.2∧EqL v6 [SC.slc ((23:Nat)+(16:Nat)),SC.slc ((23:Nat)+(16:Nat)+List.length [v3]),SC.bool false,SC.slc ((23:Nat)+(16:Nat)+List.length [v3]+List.length [v5]+(0:Nat)),SC.slc ((23:Nat)+(16:Nat)+List.length [v3]+List.length [v5]+(0:Nat)+List.length [((23:Nat)+(16:Nat)+List.length [v3]+List.length [v5]+(0:Nat),some (SB.read (Ls.items [])))]),SC.int IntKind.i64 (Num.mi (numT (hT l)).1),SC.int IntKind.i64 (Num.xi (numT (hT l)).1),SC.int IntKind.i64 (Num.mf (numT (hT l)).1),SC.int IntKind.i64 (Num.xf (numT (hT l)).1),SC.int IntKind.i64 (Num.ms (numT (hT l)).1),SC.int IntKind.i64 (Num.xs (numT (hT l)).1),SC.int IntKind.i64 (Num.pr (numT (hT l)).1),SC.int IntKind.i64 (Num.sc (numT (hT l)).1),SC.str (Num.inc (numT (hT l)).1),SC.bool (Num.ps (numT (hT l)).1),SC.int IntKind.i64 (Num.me (numT (hT l)).1),SC.bool (Num.px (numT (hT l)).1),SC.int IntKind.i64 (0:Int),SC.int IntKind.i32 (0:Int),SC.int IntKind.i64 (0:Int)]∧([]:List Itm)=[]∧([]:List Itm)=[]∧([]:List Itm)=[]∧([]:List Itm)=[])∧∀ (j:PLift (Prod.snd (numT (hT l))=(0:Int))),List.length (pB l)≤(1000000000:Nat)∧br ((itemsR (pB l)).2.1 != (0:Int)) (v0∧(itemsR (pB l)).2.1=v11.2.1∧(itemsR (pB l)).2.2=v11.2.2) (∃ (j:PLift (Prod.fst (Prod.snd (itemsR (pB l)))=(0:Int))),hT l=hT l∧l=l∧EqL zhc zhc∧(0:Int)=(0:Int)∧(0:Int)=(0:Int)∧EqL v1 v1∧(itemsR (pB l)).1=(itemsR (pB l)).1∧(itemsR (pA l)).1=(itemsR (pA l)).1∧EqL v6 v6∧([]:List Itm)=[]∧([]:List Itm)=[]∧([]:List Itm)=[]∧([]:List Itm)=[])∧∀ (j:PLift (Prod.fst (Prod.snd (itemsR (pB l)))=(0:Int))),((itemsR (pA l)).1=HF.px (halfH l b first)∧(itemsR (pB l)).1=HF.sx (halfH l b first)∧[]=Pat.pre v2∧[]=Pat.suf v2∧Pat.hn (nP (numT (hT l)).1)=Pat.hn v2∧[]=Pat.npre v2∧[]=Pat.nsuf v2∧Num.mi v4=Num.mi (Pat.n v2)∧Num.xi v4=Num.xi (Pat.n v2)∧Num.mf v4=Num.mf (Pat.n v2)∧Num.xf v4=Num.xf (Pat.n v2)∧Num.ms v4=Num.ms (Pat.n v2)∧Num.xs v4=Num.xs (Pat.n v2)∧Num.pr v4=Num.pr (Pat.n v2)∧Num.sc v4=Num.sc (Pat.n v2)∧Num.inc v4=Num.inc (Pat.n v2)∧Num.ps v4=Num.ps (Pat.n v2)∧Num.me v4=Num.me (Pat.n v2)∧Num.px v4=Num.px (Pat.n v2)∧Pat.pa (nP (numT (hT l)).1)=Pat.pa v2∧Pat.pd (nP (numT (hT l)).1)=Pat.pd v2∧Pat.pw (nP (numT (hT l)).1)=Pat.pw v2∧Spot.w (hSp l first).1=HF.w (halfH l b first)∧Spot.r (hSp l first).1=HF.r (halfH l b first)∧(↑(List.length (hT l)):Int)=HF.k (halfH l b first))∧(0:Int)=v11.2.1∧(0:Int)=v11.2.2))):=by kernel_rfl
set_option maxHeartbeats 4000000 in
theorem of_r3half (h:∀ (l:List Elm) (b:Int) (first:Bool),(EOK (eL l))→(l.length≤1000000)→vcP [(70,sp_ebody),(36,sp_eplain),(71,sp_ritems),(18,sp_r3num),(22,sp_bytes)] [] misc Tryz.f37 (annH l b first) [.one (.rd (.elms l)),.one (.int .i64 b),.one (.bool first)] (.tup [(true,(halfH l b first).pcs),(true,[.int .i64 (readT (eL l) b first).2.1,.int .i64 (readT (eL l) b first).2.2])])):FnP 37 sp_r3half:=by
 refine fnP_ok (cs:=[(70,sp_ebody),(36,sp_eplain),(71,sp_ritems),(18,sp_r3num),(22,sp_bytes)]) (cas:=[]) (ms:=misc) (.cons ok_ebody (.cons ok_eplain (.cons ok_ritems (.cons ok_r3num (.cons ok_bytes .nil))))) .nil misc_ok 37 Tryz.f37 (by kernel_rfl) (by kernel_rfl) (by kernel_rfl) (fun | [.one (.rd (.elms l)),.one (.int .i64 b),.one (.bool first)]=>annH l b first | _=>.nil) ?_
 intro pvs p r hs hp
 unfold sp_r3half at hs
 simp only at hs
 split at hs
 ·rename_i l b first
  cases hs
  refine h l b first ?_ ?_
  ·exact hp.1
  ·exact hp.2
 ·cases hs
theorem eL_len (l:List Elm):(eL l).length=l.length:=List.length_map _
theorem eL_get {l:List Elm} {i:Nat} (h:i<l.length):(eL l).getD i default=(l.getD i default).iv:=by
 unfold eL
 rw [List.getD_eq_getElem?_getD,List.getD_eq_getElem?_getD,List.getElem?_map,List.getElem?_eq_getElem h]; rfl
theorem fi_next {α:Type} {P:α→Bool} {L:List α} {n:Nat} (d:α) (h:n≤L.findIdx P) (hn:n<L.length) (hp:P (L.getD n d)=false):n+1≤L.findIdx P:=by
 rw [List.getD_eq_getElem?_getD,List.getElem?_eq_getElem hn] at hp
 rcases Nat.lt_or_eq_of_le h with h | h
 ·exact h
 ·subst h
  have:=List.findIdx_getElem (p:=P) (w:=hn)
  simp only [Option.getD_some] at hp
  rw [this] at hp; cases hp
theorem fi_here {α:Type} {P:α→Bool} {L:List α} {n:Nat} (d:α) (h:n≤L.findIdx P) (hn:n<L.length) (hp:P (L.getD n d)=true):n=L.findIdx P:=by
 rw [List.getD_eq_getElem?_getD,List.getElem?_eq_getElem hn] at hp
 rcases Nat.lt_or_eq_of_le h with h | h
 ·have:=List.not_of_lt_findIdx (p:=P) h
  simp only [Option.getD_some] at hp
  rw [hp] at this; exact absurd this (by decide)
 ·exact h
theorem run_next {L:List Iv} {c:List UInt8} {p e:Nat} (lo:p≤e) (hi:e≤p+runN (L.drop p) c) (hn:e<L.length) (hp:isIn c (L.getD e default)=true):e+1≤p+runN (L.drop p) c:=by
 have:=fi_next (P:=fun y=>!isIn c y) (L:=L.drop p) (n:=e-p) default (by show e-p≤runN (L.drop p) c; omega) (by rw [List.length_drop]; omega) (by rw [getD_dropA,show p+(e-p)=e by omega,hp]; rfl)
 have:e-p+1≤runN (L.drop p) c:=this
 omega
theorem run_here {L:List Iv} {c:List UInt8} {p e:Nat} (lo:p≤e) (hi:e≤p+runN (L.drop p) c) (hn:e<L.length) (hp:isIn c (L.getD e default)=false):e=p+runN (L.drop p) c:=by
 have:=fi_here (P:=fun y=>!isIn c y) (L:=L.drop p) (n:=e-p) default (by show e-p≤runN (L.drop p) c; omega) (by rw [List.length_drop]; omega) (by rw [getD_dropA,show p+(e-p)=e by omega,hp]; rfl)
 have:e-p=runN (L.drop p) c:=this
 omega
theorem run_pos_iff {L:List Iv} {c:List UInt8} {p:Nat}:0<runN (L.drop p) c↔p<L.length∧isIn c (L.getD p default)=true:=by
 constructor
 ·intro h
  have h1:=run_pos h
  exact ⟨h1,run_drop (Nat.le_refl _) (by omega)⟩
 ·rintro ⟨h1,h2⟩
  have:=run_next (L:=L) (c:=c) (p:=p) (Nat.le_refl _) (by omega) h1 h2
  omega
theorem hA_le {l:List Elm} (h:hN l<l.length):hN l≤hA l∧hA l≤l.length:=by
 have:=cutA_le (l:=eL l) (n:=hN l) (by rw [eL_len]; exact h)
 rw [eL_len] at this; exact this
theorem hN_lt {l:List Elm} (h:hN l<l.length):hN l<hA l:=by
 have h0:cutN (eL l)<(eL l).length:=by rw [eL_len]; exact h
 have hp:isIn bodyC ((eL l).getD (hN l) default)=true:=by
  have:=List.findIdx_getElem (p:=isIn bodyC) (xs:=eL l) (w:=h0)
  show isIn bodyC ((eL l).getD (cutN (eL l)) default)=true
  rw [List.getD_eq_getElem?_getD,List.getElem?_eq_getElem h0]; exact this
 have:=run_next (L:=eL l) (c:=bodyC) (p:=hN l) (Nat.le_refl _) (by omega) h0 hp
 unfold hA cutA; omega
theorem hE_eq (l:List Elm):hE l=if eC l=true then hB l+runN ((eL l).drop (hB l)) bodyC else hA l:=by
 unfold hE cutE eC
 show (if 0<runN ((eL l).drop (hA l)) [69] then _ else _)=_
 by_cases h:0<runN ((eL l).drop (hA l)) [69]
 ·rw [if_pos h,if_pos (decide_eq_true h)]; rfl
 ·rw [if_neg h,if_neg (by rw [decide_eq_false h]; decide)]; rfl
theorem hB_eq (l:List Elm):hB l=hA l+1+if plC l=true then 1 else 0:=by
 unfold hB cutB plC
 by_cases h:0<runN ((eL l).drop (hA l+1)) [43]
 ·rw [if_pos (decide_eq_true h)]; omega
 ·rw [if_neg (by rw [decide_eq_false h]; decide)]; omega
theorem eC_iff (l:List Elm):eC l=true↔hA l<l.length∧isIn [69] ((eL l).getD (hA l) default)=true:=by
 unfold eC; rw [decide_eq_true_iff,run_pos_iff,eL_len]
theorem plC_iff (l:List Elm):plC l=true↔hA l+1<l.length∧isIn [43] ((eL l).getD (hA l+1) default)=true:=by
 unfold plC; rw [decide_eq_true_iff,run_pos_iff,eL_len]
theorem hE_le {l:List Elm} (h:hN l<l.length):hN l<hE l∧hE l≤l.length∧(eC l=true→hB l≤l.length):=by
 have h0:cutN (eL l)<(eL l).length:=by rw [eL_len]; exact h
 have h1:=cutE_le h0
 have h2:=hN_lt h
 have h3:hE l≤l.length:=by have:=h1.2; rw [eL_len] at this; exact this
 have hb:eC l=true→hB l≤l.length:=fun hc=>by
  have:=(eC_iff l).1 hc
  rw [hB_eq]
  split
  ·rename_i hp; have:=((plC_iff l).1 hp).1; omega
  ·omega
 refine ⟨?_,h3,hb⟩
 rw [hE_eq]
 split
 ·rw [hB_eq]; omega
 ·exact h2
theorem spotsE_append (N E n:Nat):∀ (a b:List Iv) (i:Nat),spotsE N E n i (a++b)=spotsE N E n i a++spotsE N E n (i+a.length) b:=by
 intro a
 induction a with
 | nil=>intro b i; rfl
 | cons y a ih =>
  intro b i
  rw [List.cons_append,spotsE,spotsE,ih,List.append_assoc,List.length_cons]
  congr 3; omega
theorem spotsE_none (N E n:Nat):∀ (a:List Iv) (i:Nat),(∀ y∈a,y.isP=false)→spotsE N E n i a=[]:=by
 intro a
 induction a with
 | nil=>intro i _; rfl
 | cons y a ih =>
  intro i h
  rw [spotsE,if_neg (by rw [h y (by simp)]; decide),ih _ fun z hz=>h z (by simp [hz])]; rfl
theorem spotsE_spots {N E n:Nat} {M:Nat} {a b:Int} (o:Nat):∀ (s:List Iv) (i:Nat),(∀ j,i≤j→j<i+s.length→posAt N E n (o+j)=if j=0 then a else if j+1=M then b else 0)→spotsE N E n (o+i) s=spotsN M a b i s:=by
 intro s
 induction s with
 | nil=>intro i _; rfl
 | cons y s ih =>
  intro i h
  rw [spotsE,spotsN,h i (Nat.le_refl _) (by simp),show o+i+1=o+(i+1) by omega,ih (i+1) fun j h1 h2=>h j (by omega) (by simp; omega)]
theorem isP_not {y:Iv} (h:y.isS=true):y.isP=false:=by cases y<;>simp_all [Iv.isS,Iv.isP]
theorem spots_all {l:List Elm} (h:hN l<l.length):spotsE (hN l) (hE l) l.length 0 (eL l)=spotsT ((eL l).take (hN l)) ((eL l).drop (hE l)):=by
 obtain ⟨h1,h2,_⟩:=hE_le h
 have h0:cutN (eL l)<(eL l).length:=by rw [eL_len]; exact h
 have e:eL l=(eL l).take (hN l)++(((eL l).take (hE l)).drop (hN l)++(eL l).drop (hE l)):=by
  rw [← List.append_assoc]
  conv=>lhs; rw [← List.take_append_drop (hE l) (eL l)]
  congr 1
  conv=>lhs; rw [← List.take_append_drop (hN l) ((eL l).take (hE l))]
  rw [List.take_take,Nat.min_eq_left (by omega)]
 conv=>lhs; rw [e]
 have l1:((eL l).take (hN l)).length=hN l:=by rw [List.length_take,eL_len]; omega
 have l2:(((eL l).take (hE l)).drop (hN l)).length=hE l-hN l:=by rw [List.length_drop,List.length_take,eL_len]; omega
 have l3:((eL l).drop (hE l)).length=l.length-hE l:=by rw [List.length_drop,eL_len]
 rw [spotsE_append,spotsE_append,l1,l2,spotsE_none _ _ _ (((eL l).take (hE l)).drop (hN l)) _ ?_,List.nil_append]
 ·unfold spotsT
  congr 1
  ·rw [l1]
   refine spotsE_spots 0 _ 0 fun j h3 h4=>?_
   rw [l1] at h4
   unfold posAt
   rw [Nat.zero_add]
   split
   ·rfl
   ·split
    ·rw [if_pos (by omega)]
    ·rw [if_neg (by omega),if_neg (by omega),if_neg (by omega)]
  ·rw [l3,show 0+hN l+(hE l-hN l)=hE l+0 by omega]
   refine spotsE_spots (hE l) _ 0 fun j h3 h4=>?_
   rw [l3] at h4
   unfold posAt
   rw [if_neg (by omega),if_neg (by omega)]
   by_cases hj:j=0
   ·rw [if_pos (by omega),if_pos hj]
   ·rw [if_neg (by omega),if_neg hj]
    by_cases hk:j+1=l.length-hE l
    ·rw [if_pos (by omega),if_pos hk]
    ·rw [if_neg (by omega),if_neg hk]
 ·intro y hy
  obtain ⟨i,i1,i2,i3,rfl⟩:=mem_mid default hy
  exact isP_not (cut_all h0 i1 i2)
theorem iv_isP (e:Elm):e.iv.isP=e.pad:=by unfold Elm.iv; cases e.pad<;>rfl
theorem iv_spot {e:Elm} (h:e.pad=true):e.iv.pR=e.r∧e.iv.pP=e.p:=by unfold Elm.iv; rw [if_pos h]; exact ⟨rfl,rfl⟩
theorem iv_at (e:Elm):e.iv.at_=e.p:=by unfold Elm.iv; split<;>rfl
theorem eL_drop {l:List Elm} {i:Nat} (h:i<l.length):(eL l).drop i=(l.getD i default).iv :: (eL l).drop (i+1):=by
 rw [drop_next (eL l) default (by rw [eL_len]; exact h),eL_get h]
def P18.zero (l:List Elm) (first:Bool):P18 l first:=⟨0,none,Nat.zero_le _,fun x hx=>(by cases hx),rfl⟩
def P18.on {l:List Elm} {first:Bool} (x:P18 l first) (h:x.i<l.length) (hp:(l.getD x.i default).pad=false):P18 l first where
 i:=x.i+1
 seen:=x.seen
 le:=h
 ok:=x.ok
 eq:=by
  have e:=x.eq
  rw [eL_drop h,spotsE,if_neg (by rw [iv_isP,hp]; decide),List.nil_append] at e
  exact e
def P18.add {l:List Elm} {first:Bool} (x:P18 l first) (h:x.i<l.length) (hp:(l.getD x.i default).pad=true) (hs:x.seen=none) (ha:posAt (hN l) (hE l) l.length x.i≠0) (hf:first=true):P18 l first where
 i:=x.i+1
 seen:=some ⟨(l.getD x.i default).r,(l.getD x.i default).p,posAt (hN l) (hE l) l.length x.i⟩
 le:=h
 ok:=fun y hy=>by cases hy; exact ⟨ha,hf⟩
 eq:=by
  have e:=x.eq
  rw [eL_drop h,spotsE,if_pos (by rw [iv_isP,hp]),hs,(iv_spot hp).1,(iv_spot hp).2] at e
  exact e
theorem P18.bad {l:List Elm} {first:Bool} (x:P18 l first) (h:x.i<l.length) (hp:(l.getD x.i default).pad=true) (hb:posAt (hN l) (hE l) l.length x.i=0∨x.seen≠none∨first=false):hSp l first=(⟨0,0,0⟩,7,(l.getD x.i default).p):=by
 have e:=x.eq
 rw [eL_drop h,spotsE,if_pos (by rw [iv_isP,hp]),(iv_spot hp).1,(iv_spot hp).2] at e
 rw [← e]
 cases hs:x.seen with
 | none =>
  show paddedT (_ :: _) first=_
  unfold paddedT
  simp only
  rw [if_pos]
  rcases hb with hb | hb | hb
  ·exact .inl hb
  ·exact absurd hs hb
  ·exact .inr hb
 | some y =>
  obtain ⟨h1,h2⟩:=x.ok y hs
  show paddedT (y :: _ :: _) first=_
  unfold paddedT
  simp only
  rw [if_neg (by rintro (h' | h'); exact h1 h'; rw [h2] at h'; cases h')]
theorem P18.done {l:List Elm} {first:Bool} (x:P18 l first) (h:¬ x.i<l.length):(hSp l first).2.1=0∧x.w=(hSp l first).1.w∧x.r=(hSp l first).1.r:=by
 have e:=x.eq
 rw [List.drop_of_length_le (by rw [eL_len]; omega)] at e
 unfold P18.w P18.r
 cases hs:x.seen with
 | none=>rw [hs] at e; rw [← e]; exact ⟨rfl,rfl,rfl⟩
 | some y =>
  obtain ⟨h1,h2⟩:=x.ok y hs
  rw [hs] at e
  rw [← e]
  show (paddedT [y] first).2.1=0∧y.w=(paddedT [y] first).1.w∧y.r=(paddedT [y] first).1.r
  unfold paddedT
  simp only
  rw [if_neg (by rintro (h' | h'); exact h1 h'; rw [h2] at h'; cases h')]
  exact ⟨rfl,rfl,rfl⟩
theorem half_err {l:List Elm} {b:Int} {first:Bool} {e a:Int} (h:readT (eL l) b first=(pt0,e,a)) (he:e≠0):halfH l b first=hf0:=by
 unfold halfH; rw [h,if_neg he]
theorem rt_none {l:List Elm} (b:Int) (first:Bool) (h:¬ hN l<l.length):readT (eL l) b first=(pt0,4,b):=by
 unfold readT cutT
 rw [if_neg (show ¬ cutN (eL l)<(eL l).length by rw [eL_len]; exact h),if_pos rfl]
theorem cutT_some {l:List Elm} (b:Int) (h:hN l<l.length):cutT (eL l) b=(⟨b,(eL l).take (hN l),(eL l).drop (hE l),hT l,((eL l).getD (hN l) default).at_⟩,true):=by
 unfold cutT
 rw [if_pos (show cutN (eL l)<(eL l).length by rw [eL_len]; exact h)]; rfl
theorem rt_some {l:List Elm} (b:Int) (first:Bool) (h:hN l<l.length):readT (eL l) b first =
  if (hSp l first).2.1≠0 then (pt0,(hSp l first).2)
  else if (itemsR (pA l)).2.1≠0 then (pt0,(itemsR (pA l)).2)
  else if (numT (hT l)).2≠0 then (pt0,(numT (hT l)).2,(l.getD (hN l) default).p)
  else if (itemsR (pB l)).2.1≠0 then (pt0,(itemsR (pB l)).2)
  else (⟨(itemsR (pA l)).1,(itemsR (pB l)).1,(numT (hT l)).1,if (hSp l first).1.w≠0 then ((itemsR (pA l)).1.length:Int)+((itemsR (pB l)).1.length:Int)+((hT l).length:Int) else 0,(hSp l first).1⟩,0,0):=by
 have hs:hSp l first=paddedT (spotsT ((eL l).take (hN l)) ((eL l).drop (hE l))) first:=by unfold hSp; rw [spots_all h]
 unfold readT
 rw [cutT_some b h,hs,if_neg (fun h'=>Bool.noConfusion h'),eL_get h,iv_at]
 rfl
theorem pl_snoc (a:List Iv) (y:Iv):plainT (a++[y])=plainT a++if y.isS=true then [y.tok] else []:=by
 unfold plainT
 rw [List.filter_append,List.map_append]
 congr 1
 by_cases h:y.isS=true
 ·rw [if_pos h,List.filter_cons_of_pos h]; rfl
 ·rw [if_neg h,List.filter_cons_of_neg h]; rfl
theorem tk_lt {L:List Iv} {i n:Nat} (h:i<n) (hi:i<L.length):L.take (min (i+1) n)=L.take (min i n)++[L.getD i default]:=by
 rw [Nat.min_eq_left (by omega),Nat.min_eq_left (by omega),take_next L default hi]
theorem tk_ge (L:List Iv) {i n:Nat} (h:n≤i):L.take (min (i+1) n)=L.take (min i n):=by
 rw [Nat.min_eq_right (by omega),Nat.min_eq_right (by omega)]
theorem dr_lt {L:List Iv} {i E:Nat} (h:i<E):(L.take (i+1)).drop E=(L.take i).drop E:=by
 rw [List.drop_of_length_le (by rw [List.length_take]; omega),List.drop_of_length_le (by rw [List.length_take]; omega)]
theorem dr_ge {L:List Iv} {i E:Nat} (h:E≤i) (hi:i<L.length):(L.take (i+1)).drop E=(L.take i).drop E++[L.getD i default]:=by
 rw [take_next L default hi,List.drop_append_of_le_length (by rw [List.length_take]; omega)]
theorem md_lt {L:List Iv} {i N E:Nat} (h:i<N):(L.take (min (i+1) E)).drop N=(L.take (min i E)).drop N:=by
 rw [List.drop_of_length_le (by rw [List.length_take]; omega),List.drop_of_length_le (by rw [List.length_take]; omega)]
theorem md_in {L:List Iv} {i N E:Nat} (h:N≤i) (h1:i<E) (hi:i<L.length):(L.take (min (i+1) E)).drop N=(L.take (min i E)).drop N++[L.getD i default]:=by
 rw [tk_lt h1 hi,List.drop_append_of_le_length (by rw [List.length_take]; omega)]
theorem iv_isS (e:Elm):e.iv.isS = !e.pad:=by unfold Elm.iv; cases e.pad<;>rfl
theorem iv_tok {e:Elm} (h:e.pad=false):e.iv.tok=⟨e.r,e.q,e.p⟩∧e.iv.sR=e.r:=by unfold Elm.iv; rw [h]; exact ⟨rfl,rfl⟩
theorem P18.k_none {l:List Elm} {first:Bool} (x:P18 l first):x.k=0↔x.seen=none:=by
 unfold P18.k; cases x.seen<;>simp
theorem P18.k_le {l:List Elm} {first:Bool} (x:P18 l first):x.k=0∨x.k=1:=by
 unfold P18.k; cases x.seen<;>simp
theorem posAt_one {N E n i:Nat} (h:i=0):(1:Int)=posAt N E n i:=by unfold posAt; rw [if_pos h]
theorem posAt_two {N E n i:Nat} (h:¬ i=0) (h1:(i:Int)=(N:Int)-1):(2:Int)=posAt N E n i:=by unfold posAt; rw [if_neg h,if_pos h1]
theorem posAt_three {N E n i:Nat} (h:¬ i=0) (h1:¬ (i:Int)=(N:Int)-1) (h2:i=E):(3:Int)=posAt N E n i:=by unfold posAt; rw [if_neg h,if_neg h1,if_pos h2]
theorem posAt_four {N E n i:Nat} (h:¬ i=0) (h1:¬ (i:Int)=(N:Int)-1) (h2:¬ i=E) (h3:(i:Int)=(n:Int)-1):(4:Int)=posAt N E n i:=by unfold posAt; rw [if_neg h,if_neg h1,if_neg h2,if_pos h3]
theorem posAt_none {N E n i:Nat} (h:¬ i=0) (h1:¬ (i:Int)=(N:Int)-1) (h2:¬ i=E) (h3:¬ (i:Int)=(n:Int)-1):(0:Int)=posAt N E n i:=by unfold posAt; rw [if_neg h,if_neg h1,if_neg h2,if_neg h3]
set_option maxHeartbeats 8000000 in
theorem ok_r3half:FnP 37 sp_r3half:=of_r3half (by
 intro l b first hl hn
 rw [vc_r3half]
 have hNl:hN l≤l.length:=by have:=List.findIdx_le_length (p:=isIn bodyC) (xs:=eL l); rw [eL_len] at this; exact this
 refine ⟨⟨⟨⟨0,Nat.zero_le _⟩,?_⟩,fun x=>?_⟩,fun _=>⟨br_of (fun h=>?_) fun h=>⟨⟨?_⟩,?_⟩,fun jN=>⟨⟨⟨⟨hN l,Nat.le_refl _,(hA_le jN.down).1⟩,?_⟩,fun x=>?_⟩,fun _=>⟨⟨?_,fun _=>br_of (fun h=>?_) fun h=>?_⟩,fun _=>⟨⟨⟨P18.zero l first,?_⟩,fun x=>?_⟩,fun j34=>⟨⟨⟨⟨0,Nat.zero_le _⟩,?_⟩,fun x=>?_⟩,fun _=>⟨?_,br_of (fun h=>?_) fun h=>⟨⟨?_⟩,?_⟩,fun j48=>⟨?_,br_of (fun h=>?_) fun h=>⟨⟨?_⟩,?_⟩,fun j51=>⟨?_,br_of (fun h=>?_) fun h=>⟨⟨?_⟩,?_⟩,fun j54=>?_⟩⟩⟩⟩⟩⟩⟩⟩⟩
 ·and_intros<;>rfl
 ·obtain ⟨n,hx⟩:=x
  dsimp only
  rw [Int.toNat_natCast]
  refine br_of (fun h=>⟨⟨by omega,of_decide_eq_true h⟩,Int.ofNat_lt.1 (of_decide_eq_true h),br_of (fun h1=>?_) fun h1=>⟨(),?_⟩⟩) fun h=>⟨(),?_⟩
  ·have h:n<l.length:=Int.ofNat_lt.1 (of_decide_eq_true h)
   have h1:isIn bodyC ((eL l).getD n default)=false:=by rw [eL_get h]; simpa using h1
   have h2:n+1≤hN l:=fi_next default hx (by rw [eL_len]; exact h) h1
   refine ⟨by simp only [inR]; omega,⟨n+1,h2⟩,?_,by show l.length-(n+1)<l.length-n; omega⟩
   and_intros<;>rfl
  ·have h:n<l.length:=Int.ofNat_lt.1 (of_decide_eq_true h)
   have h1:isIn bodyC ((eL l).getD n default)=true:=by rw [eL_get h]; simpa using h1
   have h2:n=hN l:=fi_here default hx (by rw [eL_len]; exact h) h1
   subst h2
   and_intros<;>rfl
  ·have h:¬ n<l.length:=fun h'=>of_decide_eq_false h (Int.ofNat_lt.2 h')
   have h2:n=hN l:=by omega
   subst h2
   and_intros<;>rfl
 ·have h:hN l=l.length:=Int.ofNat_inj.1 (eq_of_beq h)
  have hr:=rt_none (l:=l) b first (by omega)
  rw [half_err hr (by decide),hr]; and_intros<;>rfl
 ·have h:¬ (hN l:Int)=(l.length:Int):=by simpa using h
  omega
 ·and_intros<;>rfl
 all_goals have hlt:hN l<l.length:=jN.down
 all_goals obtain ⟨e1,e2,e3⟩:=hE_le hlt
 all_goals have ha:=hA_le hlt
 ·and_intros<;>rfl
 ·have hlo:=x.lo
  have hhi:x.e≤hN l+runN ((eL l).drop (hN l)) bodyC:=x.hi
  rw [Int.toNat_natCast]
  refine br_of (fun h=>⟨⟨by omega,of_decide_eq_true h⟩,Int.ofNat_lt.1 (of_decide_eq_true h),br_of (fun h1=>?_) fun h1=>⟨(),?_⟩⟩) fun h=>⟨(),?_⟩
  ·have h:x.e<l.length:=Int.ofNat_lt.1 (of_decide_eq_true h)
   rw [← eL_get h] at h1
   have h2:x.e+1≤hA l:=run_next hlo hhi (by rw [eL_len]; exact h) h1
   refine ⟨by simp only [inR]; omega,⟨x.e+1,by omega,h2⟩,?_,by show l.length-(x.e+1)<l.length-x.e; omega⟩
   and_intros<;>rfl
  ·have h:x.e<l.length:=Int.ofNat_lt.1 (of_decide_eq_true h)
   rw [← eL_get h] at h1
   have h2:x.e=hA l:=run_here hlo hhi (by rw [eL_len]; exact h) h1
   rw [h2]
   and_intros<;>rfl
  ·have h:¬ x.e<l.length:=fun h'=>of_decide_eq_false h (Int.ofNat_lt.2 h')
   have h2:x.e=hA l:=by have:=x.hi; omega
   rw [h2]
   and_intros<;>rfl
 ·rw [Int.toNat_natCast]
  refine br_of (fun h=>⟨⟨by omega,of_decide_eq_true h⟩,Int.ofNat_lt.1 (of_decide_eq_true h),(),?_⟩) fun h=>⟨(),?_⟩
  ·have h:hA l<l.length:=Int.ofNat_lt.1 (of_decide_eq_true h)
   have e:(!(l.getD (hA l) default).pad && (!(l.getD (hA l) default).q && (l.getD (hA l) default).r==69))=eC l:=by
    have h1:=plain_iv (l.getD (hA l) default) 69
    rw [show ((69:UInt8).toNat:Int)=69 from rfl] at h1
    rw [← h1,← eL_get h,Bool.eq_iff_iff,eC_iff]
    exact ⟨fun h'=>⟨h,h'⟩,fun h'=>h'.2⟩
   and_intros
   all_goals first | rfl | exact e
  ·have e:false=eC l:=by
    cases he:eC l with
    | false=>rfl
    | true=>exact absurd (Int.ofNat_lt.2 ((eC_iff l).1 he).1) (of_decide_eq_false h)
   and_intros
   all_goals first | rfl | exact e
 ·have hAl:=((eC_iff l).1 h).1
  have hb:=e3 h
  have hEq:=hE_eq l
  rw [if_pos h] at hEq
  have hBq:=hB_eq l
  rw [show ((hA l:Int)+1).toNat=hA l+1 by omega]
  refine ⟨by simp only [inR]; omega,⟨br_of (fun h1=>⟨⟨by omega,of_decide_eq_true h1⟩,by have:=of_decide_eq_true h1; omega,⟨h⟩,?_⟩) fun h1=>⟨⟨h⟩,?_⟩,fun _=>br_of (fun h1=>⟨by simp only [inR]; omega,⟨h⟩,?_⟩) fun h1=>⟨⟨h⟩,?_⟩⟩,fun _=>⟨⟨⟨hB l,Nat.le_refl _,Nat.le_add_right _ _⟩,?_⟩,fun x=>?_⟩⟩
  ·have h1:hA l+1<l.length:=by have:=of_decide_eq_true h1; omega
   have e:(!(l.getD (hA l+1) default).pad && (!(l.getD (hA l+1) default).q && (l.getD (hA l+1) default).r==43))=plC l:=by
    have h2:=plain_iv (l.getD (hA l+1) default) 43
    rw [show ((43:UInt8).toNat:Int)=43 from rfl] at h2
    rw [← h2,← eL_get h1,Bool.eq_iff_iff,plC_iff]
    exact ⟨fun h'=>⟨h1,h'⟩,fun h'=>h'.2⟩
   and_intros
   all_goals first | rfl | exact e
  ·have e:false=plC l:=by
    cases he:plC l with
    | false=>rfl
    | true=>exact absurd (by have:=((plC_iff l).1 he).1; omega) (of_decide_eq_false h1)
   and_intros
   all_goals first | rfl | exact e
  ·rw [if_pos h1] at hBq
   rw [hBq]
   and_intros<;>rfl
  ·rw [if_neg (by rw [h1]; decide)] at hBq
   rw [hBq]
   and_intros<;>rfl
  ·and_intros<;>rfl
  ·have hlo:=x.lo
   have hhi:=x.hi
   rw [Int.toNat_natCast]
   refine br_of (fun h=>⟨⟨by omega,of_decide_eq_true h⟩,Int.ofNat_lt.1 (of_decide_eq_true h),br_of (fun h1=>?_) fun h1=>⟨(),?_⟩⟩) fun h=>⟨(),?_⟩
   ·have h:x.e<l.length:=Int.ofNat_lt.1 (of_decide_eq_true h)
    rw [← eL_get h] at h1
    have h2:=run_next hlo hhi (by rw [eL_len]; exact h) h1
    refine ⟨by simp only [inR]; omega,⟨x.e+1,by omega,h2⟩,?_,by show l.length-(x.e+1)<l.length-x.e; omega⟩
    and_intros<;>rfl
   ·have h:x.e<l.length:=Int.ofNat_lt.1 (of_decide_eq_true h)
    rw [← eL_get h] at h1
    have h2:=run_here hlo hhi (by rw [eL_len]; exact h) h1
    rw [h2,← hEq]
    and_intros<;>rfl
   ·have h:¬ x.e<l.length:=fun h'=>of_decide_eq_false h (Int.ofNat_lt.2 h')
    have h2:x.e=hE l:=by omega
    rw [h2]
    and_intros<;>rfl
 ·have hEq:=hE_eq l
  rw [if_neg (by rw [h]; decide)] at hEq
  rw [hEq]
  exact ⟨(),by and_intros<;>rfl⟩
 ·and_intros<;>rfl
 ·have hk:=x.k_le
  refine br_of (fun h=>⟨⟨⟨by omega,of_decide_eq_true h⟩,by have:=of_decide_eq_true h; omega,br_of (fun h1=>?_) fun h1=>⟨⟨?_,?_⟩,?_⟩⟩,fun jp=>?_⟩) fun h=>?_
  all_goals first
   | have h:x.i<l.length:=Int.ofNat_lt.1 (of_decide_eq_true h)
   | have h:¬ x.i<l.length:=fun h'=>of_decide_eq_false h (Int.ofNat_lt.2 h')
  ·rw [Int.toNat_natCast] at h1
   have h1:(l.getD x.i default).pad=false:=by simpa using h1
   refine ⟨by simp only [inR]; omega,x.on h h1,?_,by show l.length-(x.i+1)<l.length-x.i; omega⟩
   and_intros<;>rfl
  ·rw [Int.toNat_natCast] at h1
   simpa using h1
  ·exact h
  ·and_intros<;>rfl
  ·have hp:=jp.down.1
   have hr:=rt_some b first hlt
   have bad:posAt (hN l) (hE l) l.length x.i=0∨x.seen≠none∨first=false→readT (eL l) b first=(pt0,7,(l.getD x.i default).p):=fun hb=>by
    rw [hr,x.bad h hp hb,if_pos (show (7:Int)≠0 by decide)]
   rw [Int.toNat_natCast]
   refine ⟨br_of (fun h1=>⟨(),?_⟩) fun h1=>⟨by simp only [inR]; omega,br_of (fun h2=>⟨(),?_⟩) fun h2=>br_of (fun h3=>⟨(),?_⟩) fun h3=>⟨by simp only [inR]; omega,br_of (fun h4=>⟨(),?_⟩) fun h4=>⟨(),?_⟩⟩⟩,fun _=>⟨by simp only [inR]; omega,br_of (fun h1=>⟨⟨by omega,by omega⟩,h,?_⟩) fun h1=>br_of (fun h2=>⟨⟨by omega,by omega⟩,h,?_⟩) fun h2=>br_of (fun h3=>⟨⟨by omega,by omega⟩,h,?_⟩) fun h3=>⟨⟨by omega,by omega⟩,h,by simp only [inR]; omega,?_⟩⟩⟩
   ·have e:=posAt_one (N:=hN l) (E:=hE l) (n:=l.length) (i:=x.i) (by have:=eq_of_beq h1; omega)
    and_intros
    all_goals first | rfl | exact e
   ·have g1:¬ (x.i:Int)=0:=by simpa using h1
    have e:=posAt_two (N:=hN l) (E:=hE l) (n:=l.length) (i:=x.i) (by omega) (eq_of_beq h2)
    and_intros
    all_goals first | rfl | exact e
   ·have g1:¬ (x.i:Int)=0:=by simpa using h1
    have g2:¬ (x.i:Int)=(hN l:Int)-1:=by simpa using h2
    have e:=posAt_three (N:=hN l) (E:=hE l) (n:=l.length) (i:=x.i) (by omega) g2 (by have:=eq_of_beq h3; omega)
    and_intros
    all_goals first | rfl | exact e
   ·have g1:¬ (x.i:Int)=0:=by simpa using h1
    have g2:¬ (x.i:Int)=(hN l:Int)-1:=by simpa using h2
    have g3:¬ (x.i:Int)=(hE l:Int):=by intro h'; rw [h'] at h3; simp at h3
    have e:=posAt_four (N:=hN l) (E:=hE l) (n:=l.length) (i:=x.i) (by omega) g2 (by omega) (eq_of_beq h4)
    and_intros
    all_goals first | rfl | exact e
   ·have g1:¬ (x.i:Int)=0:=by simpa using h1
    have g2:¬ (x.i:Int)=(hN l:Int)-1:=by simpa using h2
    have g3:¬ (x.i:Int)=(hE l:Int):=by intro h'; rw [h'] at h3; simp at h3
    have g4:¬ (x.i:Int)=(l.length:Int)-1:=by simpa using h4
    have e:=posAt_none (N:=hN l) (E:=hE l) (n:=l.length) (i:=x.i) (by omega) g2 (by omega) g4
    and_intros
    all_goals first | rfl | exact e
   ·have hE:=bad (.inl (eq_of_beq h1))
    rw [half_err hE (by decide),hE]; and_intros<;>rfl
   ·have hE:=bad (.inr (.inl fun hs=>by have:=x.k_none.2 hs; have:=of_decide_eq_true h2; omega))
    rw [half_err hE (by decide),hE]; and_intros<;>rfl
   ·have hE:=bad (.inr (.inr (by simpa using h3)))
    rw [half_err hE (by decide),hE]; and_intros<;>rfl
   ·have g1:posAt (hN l) (hE l) l.length x.i≠0:=by simpa using h1
    have g2:x.seen=none:=x.k_none.1 (by have:=of_decide_eq_false h2; omega)
    have g3:first=true:=by simpa using h3
    have ek:x.k=0:=x.k_none.2 g2
    refine ⟨x.add h hp g2 g1 g3,?_,by show l.length-(x.i+1)<l.length-x.i; omega⟩
    rw [ek]
    and_intros<;>rfl
  ·obtain ⟨d1,d2,d3⟩:=x.done h
   refine ⟨⟨d1⟩,?_⟩
   rw [d2,d3]
   and_intros<;>rfl
 all_goals have c34:=j34.down
 ·have z1:plainT (List.take (min 0 (hN l)) (eL l))=[]:=by rw [Nat.zero_min]; rfl
  have z2:plainT (List.drop (hE l) (List.take 0 (eL l)))=[]:=by rw [List.take_zero,List.drop_nil]; rfl
  have z3:Array.toList (#[]:Array UInt8)=encs (List.map Iv.sR (List.drop (hN l) (List.take (min 0 (hE l)) (eL l)))):=by rw [Nat.zero_min,List.take_zero,List.drop_nil]; rfl
  and_intros
  all_goals first | rfl | exact z1 | exact z2 | exact z3
 ·have hx:=x.2
  have p1:=plainT_len (List.take (min x.1 (hN l)) (eL l))
  have p2:=plainT_len (List.drop (hE l) (List.take x.1 (eL l)))
  have p3:=(encs_len (List.map Iv.sR (List.drop (hN l) (List.take (min x.1 (hE l)) (eL l))))).2
  rw [List.length_map,List.length_drop,List.length_take,eL_len] at p3
  rw [List.length_take,eL_len] at p1
  rw [List.length_drop,List.length_take,eL_len] at p2
  refine br_of (fun h=>?_) fun h=>⟨(),?_⟩
  ·have h:x.1<l.length:=Int.ofNat_lt.1 (of_decide_eq_true h)
   have hL:x.1<(eL l).length:=by rw [eL_len]; exact h
   have hg:=eL_get h
   rw [Int.toNat_natCast]
   refine ⟨⟨by omega,by omega⟩,h,br_of (fun h1=>⟨by simp only [inR]; omega,⟨x.1+1,h⟩,?_,by show l.length-(x.1+1)<l.length-x.1; omega⟩) fun h1=>br_of (fun h2=>⟨⟨by omega,by omega⟩,h,by omega,by simp only [inR]; omega,⟨x.1+1,h⟩,?_,by show l.length-(x.1+1)<l.length-x.1; omega⟩) fun h2=>br_of (fun h3=>⟨⟨by omega,by omega⟩,h,?_,?_,by simp only [inR]; omega,⟨x.1+1,h⟩,?_,by show l.length-(x.1+1)<l.length-x.1; omega⟩) fun h3=>⟨⟨by omega,by omega⟩,h,by omega,by simp only [inR]; omega,⟨x.1+1,h⟩,?_,by show l.length-(x.1+1)<l.length-x.1; omega⟩⟩
   all_goals try have h2:x.1<hN l:=Int.ofNat_lt.1 (of_decide_eq_true h2)
   all_goals try have h2:¬ x.1<hN l:=fun h'=>of_decide_eq_false h2 (Int.ofNat_lt.2 h')
   all_goals try have h3:x.1<hE l:=Int.ofNat_lt.1 (of_decide_eq_true h3)
   all_goals try have h3:¬ x.1<hE l:=fun h'=>of_decide_eq_false h3 (Int.ofNat_lt.2 h')
   ·have hs:(l.getD x.1 default).iv.isS=false:=by rw [iv_isS,h1]; rfl
    have out:x.1<hN l∨hE l≤x.1:=by
     by_cases ho:x.1<hN l∨hE l≤x.1
     ·exact ho
     ·exfalso
      have:=cut_all (l:=eL l) (show cutN (eL l)<(eL l).length by rw [eL_len]; exact hlt) (i:=x.1) (show hN l≤x.1 by omega) (show x.1<hE l by omega)
      rw [hg,hs] at this; cases this
    have q1:plainT (List.take (min x.1 (hN l)) (eL l))=plainT (List.take (min (x.1+1) (hN l)) (eL l)):=by
     by_cases ho:x.1<hN l
     ·rw [tk_lt ho hL,pl_snoc,hg,if_neg (by rw [hs]; decide),List.append_nil]
     ·rw [tk_ge (eL l) (by omega)]
    have q2:plainT (List.drop (hE l) (List.take x.1 (eL l)))=plainT (List.drop (hE l) (List.take (x.1+1) (eL l))):=by
     by_cases ho:x.1<hE l
     ·rw [dr_lt ho]
     ·rw [dr_ge (by omega) hL,pl_snoc,hg,if_neg (by rw [hs]; decide),List.append_nil]
    have q3:encs (List.map Iv.sR (List.drop (hN l) (List.take (min x.1 (hE l)) (eL l))))=encs (List.map Iv.sR (List.drop (hN l) (List.take (min (x.1+1) (hE l)) (eL l)))):=by
     rcases out with ho | ho
     ·rw [md_lt ho]
     ·rw [tk_ge (eL l) ho]
    and_intros
    all_goals first | rfl | exact q1 | exact q2 | exact q3
   all_goals have hs:(l.getD x.1 default).iv.isS=true:=by rw [iv_isS,h1]; rfl
   all_goals obtain ⟨t1,t2⟩:=iv_tok h1
   ·have q1:plainT (List.take (min x.1 (hN l)) (eL l))++[⟨(l.getD x.1 default).r,(l.getD x.1 default).q,(l.getD x.1 default).p⟩]=plainT (List.take (min (x.1+1) (hN l)) (eL l)):=by
     rw [tk_lt h2 hL,pl_snoc,hg,if_pos hs,t1]
    have q2:plainT (List.drop (hE l) (List.take x.1 (eL l)))=plainT (List.drop (hE l) (List.take (x.1+1) (eL l))):=by rw [dr_lt (by omega)]
    have q3:encs (List.map Iv.sR (List.drop (hN l) (List.take (min x.1 (hE l)) (eL l))))=encs (List.map Iv.sR (List.drop (hN l) (List.take (min (x.1+1) (hE l)) (eL l)))):=by rw [md_lt h2]
    and_intros
    all_goals first | rfl | exact q1 | exact q2 | exact q3
   ·have:=(hl _ (show (eL l).getD x.1 default∈eL l from getD_mem' hL)).2 (by rw [hg]; exact hs)
    rw [hg,t2] at this; exact this
   ·have:=(enc_len (l.getD x.1 default).r).2
    show _+(enc (l.getD x.1 default).r).length≤_
    omega
   ·have q1:plainT (List.take (min x.1 (hN l)) (eL l))=plainT (List.take (min (x.1+1) (hN l)) (eL l)):=by rw [tk_ge (eL l) (by omega)]
    have q2:plainT (List.drop (hE l) (List.take x.1 (eL l)))=plainT (List.drop (hE l) (List.take (x.1+1) (eL l))):=by rw [dr_lt h3]
    have q3:encs (List.map Iv.sR (List.drop (hN l) (List.take (min x.1 (hE l)) (eL l))))++enc (l.getD x.1 default).r=encs (List.map Iv.sR (List.drop (hN l) (List.take (min (x.1+1) (hE l)) (eL l)))):=by
     rw [md_in (by omega) h3 hL,List.map_append,encs_append,hg]
     show _=_++encs [(l.getD x.1 default).iv.sR]
     rw [encs_one,t2]
    and_intros
    all_goals first | rfl | exact q1 | exact q2 | exact q3
   ·have q1:plainT (List.take (min x.1 (hN l)) (eL l))=plainT (List.take (min (x.1+1) (hN l)) (eL l)):=by rw [tk_ge (eL l) (by omega)]
    have q2:plainT (List.drop (hE l) (List.take x.1 (eL l)))++[⟨(l.getD x.1 default).r,(l.getD x.1 default).q,(l.getD x.1 default).p⟩]=plainT (List.drop (hE l) (List.take (x.1+1) (eL l))):=by
     rw [dr_ge (by omega) hL,pl_snoc,hg,if_pos hs,t1]
    have q3:encs (List.map Iv.sR (List.drop (hN l) (List.take (min x.1 (hE l)) (eL l))))=encs (List.map Iv.sR (List.drop (hN l) (List.take (min (x.1+1) (hE l)) (eL l)))):=by rw [tk_ge (eL l) (by omega)]
    and_intros
    all_goals first | rfl | exact q1 | exact q2 | exact q3
  ·have h:¬ x.1<l.length:=fun h'=>of_decide_eq_false h (Int.ofNat_lt.2 h')
   have q1:plainT (List.take (min x.1 (hN l)) (eL l))=pA l:=by rw [Nat.min_eq_right (by omega)]; rfl
   have q2:plainT (List.drop (hE l) (List.take x.1 (eL l)))=pB l:=by rw [List.take_of_length_le (by rw [eL_len]; omega)]; rfl
   have q3:encs (List.map Iv.sR (List.drop (hN l) (List.take (min x.1 (hE l)) (eL l))))=hT l:=by rw [Nat.min_eq_right (by omega)]; rfl
   and_intros
   all_goals first | rfl | exact q1 | exact q2 | exact q3
 all_goals have hr:=rt_some b first hlt
 all_goals rw [if_neg (fun h'=>h' c34)] at hr
 ·have:=plainT_len ((eL l).take (hN l))
  rw [List.length_take,eL_len] at this
  show (plainT _).length≤_; omega
 ·have h:(itemsR (pA l)).2.1≠0:=by simpa using h
  rw [if_pos h] at hr
  rw [half_err (e:=(itemsR (pA l)).2.1) (a:=(itemsR (pA l)).2.2) hr h,hr]; and_intros<;>rfl
 ·simpa using h
 ·and_intros<;>rfl
 all_goals have c48:=j48.down
 all_goals rw [if_neg (fun h'=>h' c48)] at hr
 ·have:=(encs_len (List.map Iv.sR (((eL l).take (hE l)).drop (hN l)))).2
  rw [List.length_map,List.length_drop,List.length_take,eL_len] at this
  show (encs _).length≤_; omega
 ·have h:(numT (hT l)).2≠0:=by simpa using h
  rw [if_pos h] at hr
  rw [half_err hr h,hr,Int.toNat_natCast]
  exact ⟨⟨by omega,by omega⟩,hlt,by and_intros<;>rfl⟩
 ·simpa using h
 ·and_intros<;>rfl
 all_goals have c51:=j51.down
 all_goals rw [if_neg (fun h'=>h' c51)] at hr
 ·have:=plainT_len ((eL l).drop (hE l))
  rw [List.length_drop,eL_len] at this
  show (plainT _).length≤_; omega
 ·have h:(itemsR (pB l)).2.1≠0:=by simpa using h
  rw [if_pos h] at hr
  rw [half_err (e:=(itemsR (pB l)).2.1) (a:=(itemsR (pB l)).2.2) hr h,hr]; and_intros<;>rfl
 ·simpa using h
 ·and_intros<;>rfl
 ·have c54:=j54.down
  rw [if_neg (fun h'=>h' c54)] at hr
  have hh:halfH l b first=⟨(itemsR (pA l)).1,(itemsR (pB l)).1,(numT (hT l)).1,(hSp l first).1.w,(hSp l first).1.r,(hT l).length⟩:=by
   unfold halfH; rw [hr]; rfl
  rw [hh,hr]
  and_intros<;>rfl)
end Go.Proofs.YtglfkihckkjniaaGreatDoor.Vx
namespace Go.Proofs.YtglfkihckkjniaaGreatDoor.Vx
open Go Go.RowKit
structure PK where
 p:Pat
 k:Int
def PK.pvs (t:PK):List PV:=[.agg t.p.pcs,.one (.int .i64 t.k)]
def pkOf:List PV→Option PK
 | [.agg x,.one y]=>(patOf x).bind fun a=>(i64Pc y).bind fun b=>some ⟨a,b⟩
 | _=>none
theorem pkOf_eq {l:List PV} {p:PK} (h:pkOf l=some p):l=p.pvs:=by
 unfold pkOf at h
 split at h
 ·rename_i x y
  simp only [Option.bind_eq_some_iff] at h
  obtain ⟨a,ha,b,hb,h2⟩:=h
  cases h2
  rw [patOf_eq ha,i64Pc_eq hb]
  rfl
 ·cases h
def cntK (k:Int) (l:List Itm):Nat:=l.countP fun x=>x.k==k
def lstI (p:Pat):Nat→List Itm
 | 0=>p.pre
 | 1=>p.suf
 | 2=>p.npre
 | _=>p.nsuf
def upI (t:PK):Nat→Nat
 | 0=>0
 | 1=>cntK t.k t.p.pre
 | 2=>cntK t.k t.p.pre+cntK t.k t.p.suf
 | _=>cntK t.k t.p.pre+cntK t.k t.p.suf+cntK t.k t.p.npre
def sp_r3signs:FSpec:=⟨[.agg p0.pcs,.one (.int .i64 0)],fun pvs=>(pkOf pvs).bind fun t=>some ([t.p.small 1000000],.one (.int .i64 (cntK t.k (t.p.pre++t.p.suf++t.p.npre++t.p.nsuf))))⟩
theorem vc_r3signs (t:PK):vcP [] [] misc Tryz.f38 (.turns 3 5 (fun i=>.loop 6 (Upto (lstI t.p i)) (fun j=>⟨[(1,.one (.int .i64 t.k)),(5,.one (.int .i64 ((upI t i+cntK t.k ((lstI t.p i).take j.1):Nat):Int))),(7,.one (.slc i)),(8,.one (.int .i64 j.1)),(17,.one (.slc 16)),(18,.one (.int .i64 4)),(19,.one (.int .i64 i))],[(16,some (.lit 23 4 [.slc 0,.slc 1,.slc 2,.slc 3])),(0,some (.read (.items t.p.pre))),(1,some (.read (.items t.p.suf))),(2,some (.read (.items t.p.npre))),(3,some (.read (.items t.p.nsuf)))],17⟩) (fun j=>(lstI t.p i).length-j.1) (fun _=>.nil) .nil) .nil) t.pvs (.one (.int .i64 (cntK t.k (t.p.pre++t.p.suf++t.p.npre++t.p.nsuf))))=(letI v0:=((0:Nat)+(1:Nat)+(1:Nat)+(1:Nat)); letI v1:=((0:Nat)+(1:Nat)+(1:Nat)); letI v2:=(lstI (PK.p t) ((0:Nat)+(1:Nat))); letI v3:=(↑((0:Nat)+(1:Nat)):Int); (((0:Int)≤(0:Int)∧(0:Int)<(↑(4:Nat):Int))∧(∃ (x:Upto (lstI (PK.p t) (0:Nat))),PK.k t=PK.k t∧(0:Int)=(↑(upI t (0:Nat)+cntK (PK.k t) (List.take (Subtype.val x) (lstI (PK.p t) (0:Nat)))):Int)∧(0:Int)=(↑(Subtype.val x):Int)∧(↑(4:Nat):Int)=(4:Int)∧(0:Int)=(↑(0:Nat):Int)∧Pat.pre (PK.p t)=Pat.pre (PK.p t)∧Pat.suf (PK.p t)=Pat.suf (PK.p t)∧Pat.npre (PK.p t)=Pat.npre (PK.p t)∧Pat.nsuf (PK.p t)=Pat.nsuf (PK.p t))∧∀ (x:Upto (lstI (PK.p t) (0:Nat))),(letI v4:=(lstI (PK.p t) (0:Nat)); letI v5:=((0:Nat)+(1:Nat)); br (decide ((↑(Subtype.val x):Int)<(↑(List.length (Pat.pre (PK.p t))):Int))) (((0:Int)≤(↑(Subtype.val x):Int)∧(↑(Subtype.val x):Int)<(↑(List.length (Pat.pre (PK.p t))):Int))∧Int.toNat (↑(Subtype.val x):Int)<List.length (Pat.pre (PK.p t))∧br (Itm.k (List.getD (Pat.pre (PK.p t)) (Int.toNat (↑(Subtype.val x):Int)) default)==PK.k t) (inR IntKind.i64 ((↑(upI t (0:Nat)+cntK (PK.k t) (List.take (Subtype.val x) v4)):Int)+(1:Int))∧inR IntKind.i64 ((↑(Subtype.val x):Int)+(1:Int))∧∃ (x':Upto v4),(PK.k t=PK.k t∧(↑(upI t (0:Nat)+cntK (PK.k t) (List.take (Subtype.val x) v4)):Int)+(1:Int)=(↑(upI t (0:Nat)+cntK (PK.k t) (List.take (Subtype.val x') v4)):Int)∧(↑(Subtype.val x):Int)+(1:Int)=(↑(Subtype.val x'):Int)∧(4:Int)=(4:Int)∧(↑(0:Nat):Int)=(↑(0:Nat):Int)∧Pat.pre (PK.p t)=Pat.pre (PK.p t)∧Pat.suf (PK.p t)=Pat.suf (PK.p t)∧Pat.npre (PK.p t)=Pat.npre (PK.p t)∧Pat.nsuf (PK.p t)=Pat.nsuf (PK.p t))∧List.length v4-Subtype.val x'<List.length v4-Subtype.val x) (inR IntKind.i64 ((↑(Subtype.val x):Int)+(1:Int))∧∃ (x':Upto v4),(PK.k t=PK.k t∧(↑(upI t (0:Nat)+cntK (PK.k t) (List.take (Subtype.val x) v4)):Int)=(↑(upI t (0:Nat)+cntK (PK.k t) (List.take (Subtype.val x') v4)):Int)∧(↑(Subtype.val x):Int)+(1:Int)=(↑(Subtype.val x'):Int)∧(4:Int)=(4:Int)∧(↑(0:Nat):Int)=(↑(0:Nat):Int)∧Pat.pre (PK.p t)=Pat.pre (PK.p t)∧Pat.suf (PK.p t)=Pat.suf (PK.p t)∧Pat.npre (PK.p t)=Pat.npre (PK.p t)∧Pat.nsuf (PK.p t)=Pat.nsuf (PK.p t))∧List.length v4-Subtype.val x'<List.length v4-Subtype.val x)) (inR IntKind.i64 ((↑(0:Nat):Int)+(1:Int))∧((0:Int)≤(↑(0:Nat):Int)+(1:Int)∧(↑(0:Nat):Int)+(1:Int)<(↑(4:Nat):Int))∧(∃ (x_1:Upto v2),PK.k t=PK.k t∧(↑(upI t (0:Nat)+cntK (PK.k t) (List.take (Subtype.val x) v4)):Int)=(↑(upI t v5+cntK (PK.k t) (List.take (Subtype.val x_1) v2)):Int)∧(0:Int)=(↑(Subtype.val x_1):Int)∧(4:Int)=(4:Int)∧(↑(0:Nat):Int)+(1:Int)=v3∧Pat.pre (PK.p t)=Pat.pre (PK.p t)∧Pat.suf (PK.p t)=Pat.suf (PK.p t)∧Pat.npre (PK.p t)=Pat.npre (PK.p t)∧Pat.nsuf (PK.p t)=Pat.nsuf (PK.p t))∧∀ (x:Upto v2),br (decide ((↑(Subtype.val x):Int)<(↑(List.length (Pat.suf (PK.p t))):Int))) (((0:Int)≤(↑(Subtype.val x):Int)∧(↑(Subtype.val x):Int)<(↑(List.length (Pat.suf (PK.p t))):Int))∧Int.toNat (↑(Subtype.val x):Int)<List.length (Pat.suf (PK.p t))∧br (Itm.k (List.getD (Pat.suf (PK.p t)) (Int.toNat (↑(Subtype.val x):Int)) default)==PK.k t) (inR IntKind.i64 ((↑(upI t v5+cntK (PK.k t) (List.take (Subtype.val x) v2)):Int)+(1:Int))∧inR IntKind.i64 ((↑(Subtype.val x):Int)+(1:Int))∧∃ (x':Upto v2),(PK.k t=PK.k t∧(↑(upI t v5+cntK (PK.k t) (List.take (Subtype.val x) v2)):Int)+(1:Int)=(↑(upI t v5+cntK (PK.k t) (List.take (Subtype.val x') v2)):Int)∧(↑(Subtype.val x):Int)+(1:Int)=(↑(Subtype.val x'):Int)∧(4:Int)=(4:Int)∧v3=v3∧Pat.pre (PK.p t)=Pat.pre (PK.p t)∧Pat.suf (PK.p t)=Pat.suf (PK.p t)∧Pat.npre (PK.p t)=Pat.npre (PK.p t)∧Pat.nsuf (PK.p t)=Pat.nsuf (PK.p t))∧List.length v2-Subtype.val x'<List.length v2-Subtype.val x) (inR IntKind.i64 ((↑(Subtype.val x):Int)+(1:Int))∧∃ (x':Upto v2),(PK.k t=PK.k t∧(↑(upI t v5+cntK (PK.k t) (List.take (Subtype.val x) v2)):Int)=(↑(upI t v5+cntK (PK.k t) (List.take (Subtype.val x') v2)):Int)∧(↑(Subtype.val x):Int)+(1:Int)=(↑(Subtype.val x'):Int)∧(4:Int)=(4:Int)∧v3=v3∧Pat.pre (PK.p t)=Pat.pre (PK.p t)∧Pat.suf (PK.p t)=Pat.suf (PK.p t)∧Pat.npre (PK.p t)=Pat.npre (PK.p t)∧Pat.nsuf (PK.p t)=Pat.nsuf (PK.p t))∧List.length v2-Subtype.val x'<List.length v2-Subtype.val x)) (inR IntKind.i64 (v3+(1:Int))∧((0:Int)≤v3+(1:Int)∧v3+(1:Int)<(↑(4:Nat):Int))∧(∃ (x_1:Upto (lstI (PK.p t) v1)),PK.k t=PK.k t∧(↑(upI t v5+cntK (PK.k t) (List.take (Subtype.val x) v2)):Int)=(↑(upI t v1+cntK (PK.k t) (List.take (Subtype.val x_1) (lstI (PK.p t) v1))):Int)∧(0:Int)=(↑(Subtype.val x_1):Int)∧(4:Int)=(4:Int)∧v3+(1:Int)=(↑v1:Int)∧Pat.pre (PK.p t)=Pat.pre (PK.p t)∧Pat.suf (PK.p t)=Pat.suf (PK.p t)∧Pat.npre (PK.p t)=Pat.npre (PK.p t)∧Pat.nsuf (PK.p t)=Pat.nsuf (PK.p t))∧∀ (x:Upto (lstI (PK.p t) v1)),br (decide ((↑(Subtype.val x):Int)<(↑(List.length (Pat.npre (PK.p t))):Int))) (((0:Int)≤(↑(Subtype.val x):Int)∧(↑(Subtype.val x):Int)<(↑(List.length (Pat.npre (PK.p t))):Int))∧Int.toNat (↑(Subtype.val x):Int)<List.length (Pat.npre (PK.p t))∧br (Itm.k (List.getD (Pat.npre (PK.p t)) (Int.toNat (↑(Subtype.val x):Int)) default)==PK.k t) (inR IntKind.i64 ((↑(upI t v1+cntK (PK.k t) (List.take (Subtype.val x) (lstI (PK.p t) v1))):Int)+(1:Int))∧inR IntKind.i64 ((↑(Subtype.val x):Int)+(1:Int))∧∃ (x':Upto (lstI (PK.p t) v1)),(PK.k t=PK.k t∧(↑(upI t v1+cntK (PK.k t) (List.take (Subtype.val x) (lstI (PK.p t) v1))):Int)+(1:Int)=(↑(upI t v1+cntK (PK.k t) (List.take (Subtype.val x') (lstI (PK.p t) v1))):Int)∧(↑(Subtype.val x):Int)+(1:Int)=(↑(Subtype.val x'):Int)∧(4:Int)=(4:Int)∧(↑v1:Int)=(↑v1:Int)∧Pat.pre (PK.p t)=Pat.pre (PK.p t)∧Pat.suf (PK.p t)=Pat.suf (PK.p t)∧Pat.npre (PK.p t)=Pat.npre (PK.p t)∧Pat.nsuf (PK.p t)=Pat.nsuf (PK.p t))∧List.length (lstI (PK.p t) v1)-Subtype.val x'<List.length (lstI (PK.p t) v1)-Subtype.val x) (inR IntKind.i64 ((↑(Subtype.val x):Int)+(1:Int))∧∃ (x':Upto (lstI (PK.p t) v1)),(PK.k t=PK.k t∧(↑(upI t v1+cntK (PK.k t) (List.take (Subtype.val x) (lstI (PK.p t) v1))):Int)=(↑(upI t v1+cntK (PK.k t) (List.take (Subtype.val x') (lstI (PK.p t) v1))):Int)∧(↑(Subtype.val x):Int)+(1:Int)=(↑(Subtype.val x'):Int)∧(4:Int)=(4:Int)∧(↑v1:Int)=(↑v1:Int)∧Pat.pre (PK.p t)=Pat.pre (PK.p t)∧Pat.suf (PK.p t)=Pat.suf (PK.p t)∧Pat.npre (PK.p t)=Pat.npre (PK.p t)∧Pat.nsuf (PK.p t)=Pat.nsuf (PK.p t))∧List.length (lstI (PK.p t) v1)-Subtype.val x'<List.length (lstI (PK.p t) v1)-Subtype.val x)) (inR IntKind.i64 ((↑v1:Int)+(1:Int))∧((0:Int)≤(↑v1:Int)+(1:Int)∧(↑v1:Int)+(1:Int)<(↑(4:Nat):Int))∧(∃ (x_1:Upto (lstI (PK.p t) v0)),PK.k t=PK.k t∧(↑(upI t v1+cntK (PK.k t) (List.take (Subtype.val x) (lstI (PK.p t) v1))):Int)=(↑(upI t v0+cntK (PK.k t) (List.take (Subtype.val x_1) (lstI (PK.p t) v0))):Int)∧(0:Int)=(↑(Subtype.val x_1):Int)∧(4:Int)=(4:Int)∧(↑v1:Int)+(1:Int)=(↑v0:Int)∧Pat.pre (PK.p t)=Pat.pre (PK.p t)∧Pat.suf (PK.p t)=Pat.suf (PK.p t)∧Pat.npre (PK.p t)=Pat.npre (PK.p t)∧Pat.nsuf (PK.p t)=Pat.nsuf (PK.p t))∧∀ (x:Upto (lstI (PK.p t) v0)),(letI v6:=(↑(upI t v0+cntK (PK.k t) (List.take (Subtype.val x) (lstI (PK.p t) v0))):Int); letI v7:=(↑(Subtype.val x):Int); br (decide (v7<(↑(List.length (Pat.nsuf (PK.p t))):Int))) (((0:Int)≤v7∧v7<(↑(List.length (Pat.nsuf (PK.p t))):Int))∧Int.toNat v7<List.length (Pat.nsuf (PK.p t))∧br (Itm.k (List.getD (Pat.nsuf (PK.p t)) (Int.toNat v7) default)==PK.k t) (inR IntKind.i64 (v6+(1:Int))∧inR IntKind.i64 (v7+(1:Int))∧∃ (x':Upto (lstI (PK.p t) v0)),(PK.k t=PK.k t∧v6+(1:Int)=(↑(upI t v0+cntK (PK.k t) (List.take (Subtype.val x') (lstI (PK.p t) v0))):Int)∧v7+(1:Int)=(↑(Subtype.val x'):Int)∧(4:Int)=(4:Int)∧(↑v0:Int)=(↑v0:Int)∧Pat.pre (PK.p t)=Pat.pre (PK.p t)∧Pat.suf (PK.p t)=Pat.suf (PK.p t)∧Pat.npre (PK.p t)=Pat.npre (PK.p t)∧Pat.nsuf (PK.p t)=Pat.nsuf (PK.p t))∧List.length (lstI (PK.p t) v0)-Subtype.val x'<List.length (lstI (PK.p t) v0)-Subtype.val x) (inR IntKind.i64 (v7+(1:Int))∧∃ (x':Upto (lstI (PK.p t) v0)),(PK.k t=PK.k t∧v6=(↑(upI t v0+cntK (PK.k t) (List.take (Subtype.val x') (lstI (PK.p t) v0))):Int)∧v7+(1:Int)=(↑(Subtype.val x'):Int)∧(4:Int)=(4:Int)∧(↑v0:Int)=(↑v0:Int)∧Pat.pre (PK.p t)=Pat.pre (PK.p t)∧Pat.suf (PK.p t)=Pat.suf (PK.p t)∧Pat.npre (PK.p t)=Pat.npre (PK.p t)∧Pat.nsuf (PK.p t)=Pat.nsuf (PK.p t))∧List.length (lstI (PK.p t) v0)-Subtype.val x'<List.length (lstI (PK.p t) v0)-Subtype.val x)) (inR IntKind.i64 ((↑v0:Int)+(1:Int))∧v6=(↑(cntK (PK.k t) (Pat.pre (PK.p t)++Pat.suf (PK.p t)++Pat.npre (PK.p t)++Pat.nsuf (PK.p t))):Int))))))))):=by kernel_rfl
set_option maxHeartbeats 4000000 in
theorem of_r3signs (h:∀ (t:PK),(t.p.small 1000000)→vcP [] [] misc Tryz.f38 (.turns 3 5 (fun i=>.loop 6 (Upto (lstI t.p i)) (fun j=>⟨[(1,.one (.int .i64 t.k)),(5,.one (.int .i64 ((upI t i+cntK t.k ((lstI t.p i).take j.1):Nat):Int))),(7,.one (.slc i)),(8,.one (.int .i64 j.1)),(17,.one (.slc 16)),(18,.one (.int .i64 4)),(19,.one (.int .i64 i))],[(16,some (.lit 23 4 [.slc 0,.slc 1,.slc 2,.slc 3])),(0,some (.read (.items t.p.pre))),(1,some (.read (.items t.p.suf))),(2,some (.read (.items t.p.npre))),(3,some (.read (.items t.p.nsuf)))],17⟩) (fun j=>(lstI t.p i).length-j.1) (fun _=>.nil) .nil) .nil) t.pvs (.one (.int .i64 (cntK t.k (t.p.pre++t.p.suf++t.p.npre++t.p.nsuf))))):FnP 38 sp_r3signs:=by
 refine fnP_ok (cs:=[]) (cas:=[]) (ms:=misc) .nil .nil misc_ok 38 Tryz.f38 (by kernel_rfl) (by kernel_rfl) (by kernel_rfl) (fun pvs=>match pkOf pvs with | some t=>.turns 3 5 (fun i=>.loop 6 (Upto (lstI t.p i)) (fun j=>⟨[(1,.one (.int .i64 t.k)),(5,.one (.int .i64 ((upI t i+cntK t.k ((lstI t.p i).take j.1):Nat):Int))),(7,.one (.slc i)),(8,.one (.int .i64 j.1)),(17,.one (.slc 16)),(18,.one (.int .i64 4)),(19,.one (.int .i64 i))],[(16,some (.lit 23 4 [.slc 0,.slc 1,.slc 2,.slc 3])),(0,some (.read (.items t.p.pre))),(1,some (.read (.items t.p.suf))),(2,some (.read (.items t.p.npre))),(3,some (.read (.items t.p.nsuf)))],17⟩) (fun j=>(lstI t.p i).length-j.1) (fun _=>.nil) .nil) .nil | none=>.nil) ?_
 intro pvs p r hs hp
 obtain ⟨t,hx,h2⟩:=Option.bind_eq_some_iff.1 hs
 cases h2
 have:=h t (hp)
 rw [← pkOf_eq hx] at this
 simp only [hx]
 exact this
theorem cntK_next (k:Int) (l:List Itm) {i:Nat} (h:i<l.length):cntK k (l.take (i+1))=cntK k (l.take i)+if ((l.getD i default).k==k)=true then 1 else 0:=by
 unfold cntK
 rw [take_next l default h,List.countP_append,List.countP_singleton]
theorem cntK_le (k:Int) (l:List Itm):cntK k l≤l.length:=List.countP_le_length
theorem cntK_app (k:Int) (a b:List Itm):cntK k (a++b)=cntK k a+cntK k b:=by unfold cntK; rw [List.countP_append]
theorem cntK_full (k:Int) (l:List Itm) {i:Nat} (h:¬ i<l.length):cntK k (l.take i)=cntK k l:=by rw [List.take_of_length_le (by omega)]
def SE (t:PK) (i:Nat) (a b:Int) (x:Upto (lstI t.p i)):Prop:=t.k=t.k∧a=((upI t i+cntK t.k ((lstI t.p i).take x.1):Nat):Int)∧b=(x.1:Int)∧(4:Int)=4∧(i:Int)=(i:Int)∧t.p.pre=t.p.pre∧t.p.suf=t.p.suf∧t.p.npre=t.p.npre∧t.p.nsuf=t.p.nsuf
theorem SE.mk {t:PK} {i:Nat} {a b:Int} {x:Upto (lstI t.p i)} (h1:a=((upI t i+cntK t.k ((lstI t.p i).take x.1):Nat):Int)) (h2:b=(x.1:Int)):SE t i a b x:=⟨rfl,h1,h2,rfl,rfl,rfl,rfl,rfl,rfl⟩
theorem sig_step {t:PK} {i:Nat} (hn:(lstI t.p i).length≤1000000) (hu:upI t i≤4000000) (x:Upto (lstI t.p i)) {P:Prop} (hP:¬ x.1<(lstI t.p i).length→P) :
  br (decide ((x.1:Int)<((lstI t.p i).length:Int))) ((0≤(x.1:Int)∧(x.1:Int)<((lstI t.p i).length:Int))∧Int.toNat (x.1:Int)<(lstI t.p i).length ∧
   br (((lstI t.p i).getD (Int.toNat (x.1:Int)) default).k==t.k) (inR .i64 (((upI t i+cntK t.k ((lstI t.p i).take x.1):Nat):Int)+1)∧inR .i64 ((x.1:Int)+1)∧∃ x':Upto (lstI t.p i),SE t i (((upI t i+cntK t.k ((lstI t.p i).take x.1):Nat):Int)+1) ((x.1:Int)+1) x'∧(lstI t.p i).length-x'.1<(lstI t.p i).length-x.1)
    (inR .i64 ((x.1:Int)+1)∧∃ x':Upto (lstI t.p i),SE t i ((upI t i+cntK t.k ((lstI t.p i).take x.1):Nat):Int) ((x.1:Int)+1) x'∧(lstI t.p i).length-x'.1<(lstI t.p i).length-x.1)) P:=by
 have hx:=x.2
 have hc:=cntK_le t.k ((lstI t.p i).take x.1)
 rw [List.length_take] at hc
 refine br_of (fun h=>?_) fun h=>hP (fun h'=>of_decide_eq_false h (Int.ofNat_lt.2 h'))
 have h:x.1<(lstI t.p i).length:=Int.ofNat_lt.1 (of_decide_eq_true h)
 have hn1:=cntK_next t.k (lstI t.p i) (i:=x.1) h
 rw [Int.toNat_natCast]
 refine ⟨⟨by omega,by omega⟩,h,br_of (fun h1=>⟨by simp only [inR]; omega,by simp only [inR]; omega,⟨x.1+1,h⟩,SE.mk ?_ ?_,by show _-(x.1+1)<_; omega⟩) fun h1=>⟨by simp only [inR]; omega,⟨x.1+1,h⟩,SE.mk ?_ ?_,by show _-(x.1+1)<_; omega⟩⟩
 ·rw [if_pos h1] at hn1
  show _=((upI t i+cntK t.k ((lstI t.p i).take (x.1+1)):Nat):Int)
  omega
 ·show _=((x.1+1:Nat):Int)
  omega
 ·rw [if_neg (by rw [h1]; decide)] at hn1
  show _=((upI t i+cntK t.k ((lstI t.p i).take (x.1+1)):Nat):Int)
  omega
 ·show _=((x.1+1:Nat):Int)
  omega
theorem ok_r3signs:FnP 38 sp_r3signs:=of_r3signs (by
 intro t ht
 rw [vc_r3signs]
 obtain ⟨s1,s2,s3,s4⟩:=ht
 have c1:=cntK_le t.k t.p.pre
 have c2:=cntK_le t.k t.p.suf
 have c3:=cntK_le t.k t.p.npre
 have c4:=cntK_le t.k t.p.nsuf
 refine ⟨⟨by omega,by decide⟩,⟨⟨0,Nat.zero_le _⟩,SE.mk (i:=0) rfl rfl⟩,fun x0=>sig_step (i:=0) s1 (Nat.zero_le _) x0 fun h0=>⟨by simp only [inR]; omega,⟨by omega,by decide⟩,⟨⟨0,Nat.zero_le _⟩,?_⟩,fun x1=>sig_step (i:=1) s2 (by show cntK t.k t.p.pre≤_; omega) x1 fun h1=>⟨by simp only [inR]; omega,⟨by omega,by decide⟩,⟨⟨0,Nat.zero_le _⟩,?_⟩,fun x2=>sig_step (i:=2) s3 (by show cntK t.k t.p.pre+cntK t.k t.p.suf≤_; omega) x2 fun h2=>⟨by simp only [inR]; omega,⟨by omega,by decide⟩,⟨⟨0,Nat.zero_le _⟩,?_⟩,fun x3=>sig_step (i:=3) s4 (by show cntK t.k t.p.pre+cntK t.k t.p.suf+cntK t.k t.p.npre≤_; omega) x3 fun h3=>⟨by simp only [inR]; omega,?_⟩⟩⟩⟩⟩
 ·have e:=cntK_full t.k (lstI t.p 0) h0
  refine SE.mk (i:=1) ?_ rfl
  rw [e]
  show ((0+cntK t.k t.p.pre:Nat):Int)=((cntK t.k t.p.pre+0:Nat):Int)
  omega
 ·have e:=cntK_full t.k (lstI t.p 1) h1
  refine SE.mk (i:=2) ?_ rfl
  rw [e]; rfl
 ·have e:=cntK_full t.k (lstI t.p 2) h2
  refine SE.mk (i:=3) ?_ rfl
  rw [e]; rfl
 ·have e:=cntK_full t.k (lstI t.p 3) h3
  rw [e,cntK_app,cntK_app,cntK_app]
  rfl)
def elE:List Tok→List Elm×Option Int
 | []=>([],none)
 | [t]=>if isStar t then ([],some t.p) else ([⟨t.r,t.q,t.p,false⟩],none)
 | t :: x :: m =>
  if isStar t then (⟨x.r,t.q,t.p,true⟩ :: (elE m).1,(elE m).2)
  else (⟨t.r,t.q,t.p,false⟩ :: (elE (x :: m)).1,(elE (x :: m)).2)
structure EE (l:List Tok) where
 n:Nat
 ps:List Elm
 le:n≤l.length
 few:ps.length≤n
 fin1:ps++(elE (l.drop n)).1=(elE l).1
 fin2:(elE (l.drop n)).2=(elE l).2
def els (s:List UInt8):List Elm:=(elE (scanT s).1).1
def semA (s:List UInt8):Nat:=aheadN (eL (els s))
structure S18 (s:List UInt8) where
 i:Nat
 ok:C7 s
 le:i≤(els s).length
 one:∀ j,semA s<j→j<i→isIn [59] ((eL (els s)).getD j default)=false
def S18.sem {s:List UInt8} (x:S18 s):Int:=if x.i≤semA s then -1 else (semA s:Int)
def semZ (s:List UInt8):Int:=if semA s<(els s).length then (semA s:Int) else -1
def h1 (s:List UInt8):HF:=halfH ((els s).take (semA s)) 0 true
def h2 (s:List UInt8):HF:=halfH ((els s).drop (semA s+1)) (((els s).getD (semA s) default).p+1) false
def HF.sc (a b c d e f:Nat) (h:HF):List SC:=.slc a :: .slc b :: ((nP h.n).sc c d e f++[.int .i64 h.w,.int .i32 h.r,.int .i64 h.k])
def annR (s:List UInt8) (d:Ann→Ann) (two:Ann) (t11:Nat) (m11:List (Nat×Option SB)):Ann :=
 .loop 6 (EE (scanT s).1) (fun x=>⟨[(2,.one (.ptr 16 0)),(3,.one (.ptr 17 0)),(4,.one (.slc 19)),(5,.one (.ptr 18 0)),(6,.one (.slc 20)),(7,.one (.int .i64 x.n))],[(16,some (.cells 25 zsc)),(17,some (.cells 28 [.int .i64 0,.int .i64 0])),(18,some (.cells 28 [.int .i64 (scanT s).2.1,.int .i64 (scanT s).2.2])),(19,some (.read (.toks (scanT s).1))),(20,some (.row 73 (.elms x.ps)))],21⟩) (fun x=>(scanT s).1.length-x.n)
  (fun x=>.cut 15 (PLift (x.n<(scanT s).1.length∧(isStar ((scanT s).1.getD x.n default)=true→x.n+1<(scanT s).1.length))) (fun _=>⟨[(2,.one (.ptr 16 0)),(3,.one (.ptr 17 0)),(4,.one (.slc 19)),(5,.one (.ptr 18 0)),(6,.one (.slc 20)),(7,.one (.int .i64 (if isStar ((scanT s).1.getD x.n default)=true then (x.n:Int)+1 else x.n))),(8,.one (.ptr 21 0))],[(16,some (.cells 25 zsc)),(17,some (.cells 28 [.int .i64 0,.int .i64 0])),(18,some (.cells 28 [.int .i64 (scanT s).2.1,.int .i64 (scanT s).2.2])),(19,some (.read (.toks (scanT s).1))),(20,some (.row 73 (.elms x.ps))),(21,some (.cells 73 [.int .i32 (if isStar ((scanT s).1.getD x.n default)=true then ((scanT s).1.getD (x.n+1) default).r else ((scanT s).1.getD x.n default).r),.bool ((scanT s).1.getD x.n default).q,.int .i64 ((scanT s).1.getD x.n default).p,.bool (isStar ((scanT s).1.getD x.n default))]))],22⟩) (fun _=>.nil) .nil)
 (.cut 16 (PLift (C7 s)) (fun _=>⟨[(2,.one (.ptr 16 0)),(3,.one (.ptr 17 0)),(5,.one (.ptr 18 0)),(6,.one (.slc 19))],[(16,some (.cells 25 zsc)),(17,some (.cells 28 [.int .i64 0,.int .i64 0])),(18,some (.cells 28 [.int .i64 (scanT s).2.1,.int .i64 (scanT s).2.2])),(19,some (.read (.elms (els s))))],20⟩)
 (fun _=>.loop 18 (S18 s) (fun x=>⟨[(2,.one (.ptr 16 0)),(3,.one (.ptr 17 0)),(5,.one (.ptr 18 0)),(6,.one (.slc 19)),(9,.one (.int .i64 x.sem)),(10,.one (.int .i64 x.i))],[(16,some (.cells 25 zsc)),(17,some (.cells 28 [.int .i64 0,.int .i64 0])),(18,some (.cells 28 [.int .i64 (scanT s).2.1,.int .i64 (scanT s).2.2])),(19,some (.read (.elms (els s))))],20⟩) (fun x=>(els s).length-x.i) (fun _=>.nil)
 (.cut 24 (PLift (C12 s)) (fun _=>⟨[(2,.one (.ptr 16 0)),(3,.one (.ptr 17 0)),(5,.one (.ptr 18 0)),(6,.one (.slc 19)),(9,.one (.int .i64 (semZ s)))],[(16,some (.cells 25 zsc)),(17,some (.cells 28 [.int .i64 0,.int .i64 0])),(18,some (.cells 28 [.int .i64 (scanT s).2.1,.int .i64 (scanT s).2.2])),(19,some (.read (.elms (els s))))],20⟩)
 (fun _=>d (.cut 27 (PLift (C12 s)) (fun _=>⟨[(2,.one (.ptr 16 0)),(3,.one (.ptr 17 0)),(5,.one (.ptr 18 0)),(6,.one (.slc 19)),(9,.one (.int .i64 (semZ s))),(11,.one (.slc t11))],[(16,some (.cells 25 zsc)),(17,some (.cells 28 [.int .i64 0,.int .i64 0])),(18,some (.cells 28 [.int .i64 (scanT s).2.1,.int .i64 (scanT s).2.2])),(19,some (.read (.elms (els s))))]++m11,21⟩)
 (fun _=>.cut 28 (PLift (C12 s)) (fun _=>⟨[(2,.one (.ptr 16 0)),(3,.one (.ptr 17 0)),(5,.one (.ptr 18 0)),(6,.one (.slc 19)),(9,.one (.int .i64 (semZ s))),(12,.one (.ptr 20 0))],[(16,some (.cells 25 zsc)),(17,some (.cells 28 [.int .i64 0,.int .i64 0])),(18,some (.cells 28 [.int .i64 (rd1 s).2.1,.int .i64 (rd1 s).2.2])),(19,some (.read (.elms (els s)))),(20,some (.cells 75 ((h1 s).sc 21 22 23 24 25 26))),(21,some (.read (.items (h1 s).px))),(22,some (.read (.items (h1 s).sx))),(23,some (.read (.items []))),(24,some (.read (.items []))),(25,some (.read (.items []))),(26,some (.read (.items [])))],27⟩)
 (fun _=>.cut 36 (PLift (C16 s)) (fun _=>⟨[(2,.one (.ptr 16 0)),(3,.one (.ptr 17 0)),(6,.one (.slc 19)),(9,.one (.int .i64 (semZ s))),(13,.one (.ptr 20 0))],[(16,some (.cells 25 zsc)),(17,some (.cells 28 [.int .i64 0,.int .i64 0])),(19,some (.read (.elms (els s)))),(20,some (.cells 25 ((cmP s).sc 21 22 23 22))),(21,some (.read (.items (cmP s).pre))),(22,some (.read (.items (cmP s).suf))),(23,some (.read (.items (cmP s).npre)))],24⟩)
 (fun _=>d two) .nil) .nil) .nil)) .nil)) .nil)
def annT (s:List UInt8):Ann :=
 .cut 38 (PLift (C18 s)) (fun _=>⟨[(2,.one (.ptr 16 0)),(3,.one (.ptr 17 0)),(13,.one (.ptr 20 0)),(14,.one (.ptr 24 0)),(15,.one (.ptr 31 0))],[(16,some (.cells 25 zsc)),(17,some (.cells 28 [.int .i64 0,.int .i64 0])),(20,some (.cells 25 ((cmP s).sc 21 22 23 22))),(21,some (.read (.items (cmP s).pre))),(22,some (.read (.items (cmP s).suf))),(23,some (.read (.items (cmP s).npre))),(31,some (.cells 28 [.int .i64 (rd2 s).2.1,.int .i64 (rd2 s).2.2])),(24,some (.cells 75 ((h2 s).sc 25 26 27 28 29 30))),(25,some (.read (.items (h2 s).px))),(26,some (.read (.items (h2 s).sx))),(27,some (.read (.items []))),(28,some (.read (.items []))),(29,some (.read (.items []))),(30,some (.read (.items [])))],32⟩) (fun _=>.nil) .nil
def sp_r3compA:FSpec:=⟨[],fun | [.one (.str s)]=>some ([s.length≤1000000,semA s<(els s).length],.tup [(true,(compileT s).1.pcs),(true,[.int .i64 (compileT s).2.1,.int .i64 (compileT s).2.2])]) | _=>none⟩
theorem vc_r3compA (s:List UInt8):vcP [(28,sp_rscan),(36,sp_eplain),(37,sp_r3half),(38,sp_r3signs)] [] miscL Tryz.f15 (annR s (fun a=>.dec 88 true (.dec 140 true a)) (annT s) 20 [(20,some (.read (.elms ((els s).take (semA s)))))]) [.one (.str s)] (.tup [(true,(compileT s).1.pcs),(true,[.int .i64 (compileT s).2.1,.int .i64 (compileT s).2.2])])=(letI v0:=(halfH (List.drop (Int.toNat (semZ s+(1:Int))) (List.take (List.length (els s)) (els s))) (Elm.p (List.getD (els s) (Int.toNat (semZ s)) default)+(1:Int)) false); letI v1:=((List.length (Pat.pre { pre:=Pat.pre (cmP s),suf:=Pat.suf (cmP s),hn:=true,npre:=HF.px (h2 s),nsuf:=HF.sx (h2 s),n:=Pat.n (cmP s),pa:=Pat.pa (cmP s),pd:=Pat.pd (cmP s),pw:=Pat.pw (cmP s) })≤(1000000:Nat)∧List.length (Pat.suf { pre:=Pat.pre (cmP s),suf:=Pat.suf (cmP s),hn:=true,npre:=HF.px (h2 s),nsuf:=HF.sx (h2 s),n:=Pat.n (cmP s),pa:=Pat.pa (cmP s),pd:=Pat.pd (cmP s),pw:=Pat.pw (cmP s) })≤(1000000:Nat)∧List.length (Pat.npre { pre:=Pat.pre (cmP s),suf:=Pat.suf (cmP s),hn:=true,npre:=HF.px (h2 s),nsuf:=HF.sx (h2 s),n:=Pat.n (cmP s),pa:=Pat.pa (cmP s),pd:=Pat.pd (cmP s),pw:=Pat.pw (cmP s) })≤(1000000:Nat)∧List.length (Pat.nsuf { pre:=Pat.pre (cmP s),suf:=Pat.suf (cmP s),hn:=true,npre:=HF.px (h2 s),nsuf:=HF.sx (h2 s),n:=Pat.n (cmP s),pa:=Pat.pa (cmP s),pd:=Pat.pd (cmP s),pw:=Pat.pw (cmP s) })≤(1000000:Nat))∧br (decide ((↑(cntK (4:Int) (Pat.pre { pre:=Pat.pre (cmP s),suf:=Pat.suf (cmP s),hn:=true,npre:=HF.px (h2 s),nsuf:=HF.sx (h2 s),n:=Pat.n (cmP s),pa:=Pat.pa (cmP s),pd:=Pat.pd (cmP s),pw:=Pat.pw (cmP s) }++Pat.suf { pre:=Pat.pre (cmP s),suf:=Pat.suf (cmP s),hn:=true,npre:=HF.px (h2 s),nsuf:=HF.sx (h2 s),n:=Pat.n (cmP s),pa:=Pat.pa (cmP s),pd:=Pat.pd (cmP s),pw:=Pat.pw (cmP s) }++Pat.npre { pre:=Pat.pre (cmP s),suf:=Pat.suf (cmP s),hn:=true,npre:=HF.px (h2 s),nsuf:=HF.sx (h2 s),n:=Pat.n (cmP s),pa:=Pat.pa (cmP s),pd:=Pat.pd (cmP s),pw:=Pat.pw (cmP s) }++Pat.nsuf { pre:=Pat.pre (cmP s),suf:=Pat.suf (cmP s),hn:=true,npre:=HF.px (h2 s),nsuf:=HF.sx (h2 s),n:=Pat.n (cmP s),pa:=Pat.pa (cmP s),pd:=Pat.pd (cmP s),pw:=Pat.pw (cmP s) })):Int)>(0:Int))) ((List.length (Pat.pre { pre:=Pat.pre (cmP s),suf:=Pat.suf (cmP s),hn:=true,npre:=HF.px (h2 s),nsuf:=HF.sx (h2 s),n:=Pat.n (cmP s),pa:=Pat.pa (cmP s),pd:=Pat.pd (cmP s),pw:=Pat.pw (cmP s) })≤(1000000:Nat)∧List.length (Pat.suf { pre:=Pat.pre (cmP s),suf:=Pat.suf (cmP s),hn:=true,npre:=HF.px (h2 s),nsuf:=HF.sx (h2 s),n:=Pat.n (cmP s),pa:=Pat.pa (cmP s),pd:=Pat.pd (cmP s),pw:=Pat.pw (cmP s) })≤(1000000:Nat)∧List.length (Pat.npre { pre:=Pat.pre (cmP s),suf:=Pat.suf (cmP s),hn:=true,npre:=HF.px (h2 s),nsuf:=HF.sx (h2 s),n:=Pat.n (cmP s),pa:=Pat.pa (cmP s),pd:=Pat.pd (cmP s),pw:=Pat.pw (cmP s) })≤(1000000:Nat)∧List.length (Pat.nsuf { pre:=Pat.pre (cmP s),suf:=Pat.suf (cmP s),hn:=true,npre:=HF.px (h2 s),nsuf:=HF.sx (h2 s),n:=Pat.n (cmP s),pa:=Pat.pa (cmP s),pd:=Pat.pd (cmP s),pw:=Pat.pw (cmP s) })≤(1000000:Nat))∧br (decide ((↑(cntK (5:Int) (Pat.pre { pre:=Pat.pre (cmP s),suf:=Pat.suf (cmP s),hn:=true,npre:=HF.px (h2 s),nsuf:=HF.sx (h2 s),n:=Pat.n (cmP s),pa:=Pat.pa (cmP s),pd:=Pat.pd (cmP s),pw:=Pat.pw (cmP s) }++Pat.suf { pre:=Pat.pre (cmP s),suf:=Pat.suf (cmP s),hn:=true,npre:=HF.px (h2 s),nsuf:=HF.sx (h2 s),n:=Pat.n (cmP s),pa:=Pat.pa (cmP s),pd:=Pat.pd (cmP s),pw:=Pat.pw (cmP s) }++Pat.npre { pre:=Pat.pre (cmP s),suf:=Pat.suf (cmP s),hn:=true,npre:=HF.px (h2 s),nsuf:=HF.sx (h2 s),n:=Pat.n (cmP s),pa:=Pat.pa (cmP s),pd:=Pat.pd (cmP s),pw:=Pat.pw (cmP s) }++Pat.nsuf { pre:=Pat.pre (cmP s),suf:=Pat.suf (cmP s),hn:=true,npre:=HF.px (h2 s),nsuf:=HF.sx (h2 s),n:=Pat.n (cmP s),pa:=Pat.pa (cmP s),pd:=Pat.pd (cmP s),pw:=Pat.pw (cmP s) })):Int)>(0:Int))) (([]=Pat.pre (compileT s).1∧[]=Pat.suf (compileT s).1∧false=Pat.hn (compileT s).1∧[]=Pat.npre (compileT s).1∧[]=Pat.nsuf (compileT s).1∧(0:Int)=Num.mi (Pat.n (compileT s).1)∧(0:Int)=Num.xi (Pat.n (compileT s).1)∧(0:Int)=Num.mf (Pat.n (compileT s).1)∧(0:Int)=Num.xf (Pat.n (compileT s).1)∧(0:Int)=Num.ms (Pat.n (compileT s).1)∧(0:Int)=Num.xs (Pat.n (compileT s).1)∧(0:Int)=Num.pr (Pat.n (compileT s).1)∧(0:Int)=Num.sc (Pat.n (compileT s).1)∧[]=Num.inc (Pat.n (compileT s).1)∧false=Num.ps (Pat.n (compileT s).1)∧(0:Int)=Num.me (Pat.n (compileT s).1)∧false=Num.px (Pat.n (compileT s).1)∧(0:Int)=Pat.pa (compileT s).1∧(0:Int)=Pat.pd (compileT s).1∧(0:Int)=Pat.pw (compileT s).1)∧(6:Int)=(compileT s).2.1∧(0:Int)=(compileT s).2.2) ((Pat.pre (cmP s)=Pat.pre (compileT s).1∧Pat.suf (cmP s)=Pat.suf (compileT s).1∧true=Pat.hn (compileT s).1∧HF.px (h2 s)=Pat.npre (compileT s).1∧HF.sx (h2 s)=Pat.nsuf (compileT s).1∧Num.mi (Pat.n (cmP s))=Num.mi (Pat.n (compileT s).1)∧Num.xi (Pat.n (cmP s))=Num.xi (Pat.n (compileT s).1)∧Num.mf (Pat.n (cmP s))=Num.mf (Pat.n (compileT s).1)∧Num.xf (Pat.n (cmP s))=Num.xf (Pat.n (compileT s).1)∧Num.ms (Pat.n (cmP s))=Num.ms (Pat.n (compileT s).1)∧Num.xs (Pat.n (cmP s))=Num.xs (Pat.n (compileT s).1)∧Num.pr (Pat.n (cmP s))=Num.pr (Pat.n (compileT s).1)∧Num.sc (Pat.n (cmP s))=Num.sc (Pat.n (compileT s).1)∧Num.inc (Pat.n (cmP s))=Num.inc (Pat.n (compileT s).1)∧Num.ps (Pat.n (cmP s))=Num.ps (Pat.n (compileT s).1)∧Num.me (Pat.n (cmP s))=Num.me (Pat.n (compileT s).1)∧Num.px (Pat.n (cmP s))=Num.px (Pat.n (compileT s).1)∧Pat.pa (cmP s)=Pat.pa (compileT s).1∧Pat.pd (cmP s)=Pat.pd (compileT s).1∧Pat.pw (cmP s)=Pat.pw (compileT s).1)∧(0:Int)=(compileT s).2.1∧(0:Int)=(compileT s).2.2)) ((Pat.pre (cmP s)=Pat.pre (compileT s).1∧Pat.suf (cmP s)=Pat.suf (compileT s).1∧true=Pat.hn (compileT s).1∧HF.px (h2 s)=Pat.npre (compileT s).1∧HF.sx (h2 s)=Pat.nsuf (compileT s).1∧Num.mi (Pat.n (cmP s))=Num.mi (Pat.n (compileT s).1)∧Num.xi (Pat.n (cmP s))=Num.xi (Pat.n (compileT s).1)∧Num.mf (Pat.n (cmP s))=Num.mf (Pat.n (compileT s).1)∧Num.xf (Pat.n (cmP s))=Num.xf (Pat.n (compileT s).1)∧Num.ms (Pat.n (cmP s))=Num.ms (Pat.n (compileT s).1)∧Num.xs (Pat.n (cmP s))=Num.xs (Pat.n (compileT s).1)∧Num.pr (Pat.n (cmP s))=Num.pr (Pat.n (compileT s).1)∧Num.sc (Pat.n (cmP s))=Num.sc (Pat.n (compileT s).1)∧Num.inc (Pat.n (cmP s))=Num.inc (Pat.n (compileT s).1)∧Num.ps (Pat.n (cmP s))=Num.ps (Pat.n (compileT s).1)∧Num.me (Pat.n (cmP s))=Num.me (Pat.n (compileT s).1)∧Num.px (Pat.n (cmP s))=Num.px (Pat.n (compileT s).1)∧Pat.pa (cmP s)=Pat.pa (compileT s).1∧Pat.pd (cmP s)=Pat.pd (compileT s).1∧Pat.pw (cmP s)=Pat.pw (compileT s).1)∧(0:Int)=(compileT s).2.1∧(0:Int)=(compileT s).2.2)); letI v2:=([]=Pat.pre (compileT s).1∧[]=Pat.suf (compileT s).1∧false=Pat.hn (compileT s).1∧[]=Pat.npre (compileT s).1∧[]=Pat.nsuf (compileT s).1∧(0:Int)=Num.mi (Pat.n (compileT s).1)∧(0:Int)=Num.xi (Pat.n (compileT s).1)∧(0:Int)=Num.mf (Pat.n (compileT s).1)∧(0:Int)=Num.xf (Pat.n (compileT s).1)∧(0:Int)=Num.ms (Pat.n (compileT s).1)∧(0:Int)=Num.xs (Pat.n (compileT s).1)∧(0:Int)=Num.pr (Pat.n (compileT s).1)∧(0:Int)=Num.sc (Pat.n (compileT s).1)∧[]=Num.inc (Pat.n (compileT s).1)∧false=Num.ps (Pat.n (compileT s).1)∧(0:Int)=Num.me (Pat.n (compileT s).1)∧false=Num.px (Pat.n (compileT s).1)∧(0:Int)=Pat.pa (compileT s).1∧(0:Int)=Pat.pd (compileT s).1∧(0:Int)=Pat.pw (compileT s).1); letI v3:=(halfH (List.take (semA s) (els s)) (0:Int) true); letI v4:=(List.drop (Int.toNat (semZ s+(1:Int))) (List.take (List.length (els s)) (els s))); letI v5:=(Elm.p (List.getD (els s) (Int.toNat (semZ s)) default)+(1:Int)); letI v6:=(Pat.sc (21:Nat) (22:Nat) (23:Nat) (22:Nat) (cmP s)); letI v7:=(↑(List.length (els s)):Int); letI v8:=((↑(List.length (HF.px (h1 s))):Int)+(↑(List.length (HF.sx (h1 s))):Int)+HF.k (h1 s)); letI v9:=(↑(List.length (scanT s).1):Int); letI v10:=(HF.sc (25:Nat) (26:Nat) (27:Nat) (28:Nat) (29:Nat) (30:Nat) (h2 s)); letI v11:=(List.take (semA s) (els s)); letI v12:=(v2∧(rd2 s).2.1=(compileT s).2.1∧(rd2 s).2.2=(compileT s).2.2); (List.length s≤(1000000:Nat)∧br ((scanT s).2.1 != (0:Int)) (v2∧(scanT s).2.1=(compileT s).2.1∧(scanT s).2.2=(compileT s).2.2) (((∃ (x:EE (Prod.fst (scanT s))),(0:Int)=(↑(EE.n x):Int)∧EqL zsc [SC.nils,SC.nils,SC.ff,SC.nils,SC.nils,SC.int IntKind.i64 (0:Int),SC.int IntKind.i64 (0:Int),SC.int IntKind.i64 (0:Int),SC.int IntKind.i64 (0:Int),SC.int IntKind.i64 (0:Int),SC.int IntKind.i64 (0:Int),SC.int IntKind.i64 (0:Int),SC.int IntKind.i64 (0:Int),SC.str [],SC.ff,SC.int IntKind.i64 (0:Int),SC.ff,SC.int IntKind.i64 (0:Int),SC.int IntKind.i32 (0:Int),SC.int IntKind.i64 (0:Int)]∧(0:Int)=(0:Int)∧(0:Int)=(0:Int)∧(scanT s).2.1=(scanT s).2.1∧(scanT s).2.2=(scanT s).2.2∧(scanT s).1=(scanT s).1∧EE.ps x=[])∧∀ (x:EE (Prod.fst (scanT s))),br (decide ((↑(EE.n x):Int)<v9)) (((0:Int)≤(↑(EE.n x):Int)∧(↑(EE.n x):Int)<v9)∧Int.toNat (↑(EE.n x):Int)<List.length (scanT s).1∧br (!false && (!Tok.q (List.getD (scanT s).1 (Int.toNat (↑(EE.n x):Int)) default) && Tok.r (List.getD (scanT s).1 (Int.toNat (↑(EE.n x):Int)) default)==(42:Int))) (inR IntKind.i64 ((↑(EE.n x):Int)+(1:Int))∧br ((↑(EE.n x):Int)+(1:Int)==v9) (v2∧(7:Int)=(compileT s).2.1∧Tok.p (List.getD (scanT s).1 (Int.toNat (↑(EE.n x):Int)) default)=(compileT s).2.2) (inR IntKind.i64 ((↑(EE.n x):Int)+(1:Int))∧((0:Int)≤(↑(EE.n x):Int)+(1:Int)∧(↑(EE.n x):Int)+(1:Int)<v9)∧Int.toNat ((↑(EE.n x):Int)+(1:Int))<List.length (scanT s).1∧inR IntKind.i64 ((↑(EE.n x):Int)+(1:Int))∧∃ (j:PLift (EE.n x<List.length (Prod.fst (scanT s))∧(isStar (List.getD (Prod.fst (scanT s)) (EE.n x) default)=true→EE.n x+(1:Nat)<List.length (Prod.fst (scanT s))))),((↑(EE.n x):Int)+(1:Int)=if isStar (List.getD (scanT s).1 (EE.n x) default)=true then (↑(EE.n x):Int)+(1:Int) else (↑(EE.n x):Int))∧EqL zsc zsc∧(0:Int)=(0:Int)∧(0:Int)=(0:Int)∧(scanT s).2.1=(scanT s).2.1∧(scanT s).2.2=(scanT s).2.2∧(scanT s).1=(scanT s).1∧EE.ps x=EE.ps x∧EqL [SC.int IntKind.i32 (if isStar (List.getD (scanT s).1 (EE.n x) default)=true then Tok.r (List.getD (scanT s).1 (EE.n x+(1:Nat)) default) else Tok.r (List.getD (scanT s).1 (EE.n x) default)),SC.bool (Tok.q (List.getD (scanT s).1 (EE.n x) default)),SC.int IntKind.i64 (Tok.p (List.getD (scanT s).1 (EE.n x) default)),SC.bool (isStar (List.getD (scanT s).1 (EE.n x) default))] [SC.int IntKind.i32 (Tok.r (List.getD (scanT s).1 (Int.toNat ((↑(EE.n x):Int)+(1:Int))) default)),SC.bool (Tok.q (List.getD (scanT s).1 (Int.toNat (↑(EE.n x):Int)) default)),SC.int IntKind.i64 (Tok.p (List.getD (scanT s).1 (Int.toNat (↑(EE.n x):Int)) default)),SC.tt])) (∃ (j:PLift (EE.n x<List.length (Prod.fst (scanT s))∧(isStar (List.getD (Prod.fst (scanT s)) (EE.n x) default)=true→EE.n x+(1:Nat)<List.length (Prod.fst (scanT s))))),((↑(EE.n x):Int)=if isStar (List.getD (scanT s).1 (EE.n x) default)=true then (↑(EE.n x):Int)+(1:Int) else (↑(EE.n x):Int))∧EqL zsc zsc∧(0:Int)=(0:Int)∧(0:Int)=(0:Int)∧(scanT s).2.1=(scanT s).2.1∧(scanT s).2.2=(scanT s).2.2∧(scanT s).1=(scanT s).1∧EE.ps x=EE.ps x∧EqL [SC.int IntKind.i32 (if isStar (List.getD (scanT s).1 (EE.n x) default)=true then Tok.r (List.getD (scanT s).1 (EE.n x+(1:Nat)) default) else Tok.r (List.getD (scanT s).1 (EE.n x) default)),SC.bool (Tok.q (List.getD (scanT s).1 (EE.n x) default)),SC.int IntKind.i64 (Tok.p (List.getD (scanT s).1 (EE.n x) default)),SC.bool (isStar (List.getD (scanT s).1 (EE.n x) default))] [SC.int IntKind.i32 (Tok.r (List.getD (scanT s).1 (Int.toNat (↑(EE.n x):Int)) default)),SC.bool (Tok.q (List.getD (scanT s).1 (Int.toNat (↑(EE.n x):Int)) default)),SC.int IntKind.i64 (Tok.p (List.getD (scanT s).1 (Int.toNat (↑(EE.n x):Int)) default)),SC.ff])∧∀ (j:PLift (EE.n x<List.length (Prod.fst (scanT s))∧(isStar (List.getD (Prod.fst (scanT s)) (EE.n x) default)=true→EE.n x+(1:Nat)<List.length (Prod.fst (scanT s))))),(List.length (EE.ps x)+(1:Nat))*(24:Nat)≤(140737488355328:Nat)∧inR IntKind.i64 ((if isStar (List.getD (scanT s).1 (EE.n x) default)=true then (↑(EE.n x):Int)+(1:Int) else (↑(EE.n x):Int))+(1:Int))∧∃ (x':EE (Prod.fst (scanT s))),((if isStar (List.getD (scanT s).1 (EE.n x) default)=true then (↑(EE.n x):Int)+(1:Int) else (↑(EE.n x):Int))+(1:Int)=(↑(EE.n x'):Int)∧EqL zsc zsc∧(0:Int)=(0:Int)∧(0:Int)=(0:Int)∧(scanT s).2.1=(scanT s).2.1∧(scanT s).2.2=(scanT s).2.2∧(scanT s).1=(scanT s).1∧EE.ps x++([]++[{ r:=if isStar (List.getD (scanT s).1 (EE.n x) default)=true then Tok.r (List.getD (scanT s).1 (EE.n x+(1:Nat)) default) else Tok.r (List.getD (scanT s).1 (EE.n x) default),q:=Tok.q (List.getD (scanT s).1 (EE.n x) default),p:=Tok.p (List.getD (scanT s).1 (EE.n x) default),pad:=isStar (List.getD (scanT s).1 (EE.n x) default) }])=EE.ps x')∧List.length (scanT s).1-EE.n x'<List.length (scanT s).1-EE.n x) (∃ (j:PLift (C7 s)),EqL zsc zsc∧(0:Int)=(0:Int)∧(0:Int)=(0:Int)∧(scanT s).2.1=(scanT s).2.1∧(scanT s).2.2=(scanT s).2.2∧EE.ps x=els s))∧∀ (j:PLift (C7 s)),((∃ (x:S18 s),(-1:Int)=S18.sem x∧(0:Int)=(↑(S18.i x):Int)∧EqL zsc zsc∧(0:Int)=(0:Int)∧(0:Int)=(0:Int)∧(scanT s).2.1=(scanT s).2.1∧(scanT s).2.2=(scanT s).2.2∧els s=els s)∧∀ (x:S18 s),br (decide ((↑(S18.i x):Int)<v7)) (((0:Int)≤(↑(S18.i x):Int)∧(↑(S18.i x):Int)<v7)∧Int.toNat (↑(S18.i x):Int)<List.length (els s)∧br (!Elm.pad (List.getD (els s) (Int.toNat (↑(S18.i x):Int)) default) && (!Elm.q (List.getD (els s) (Int.toNat (↑(S18.i x):Int)) default) && Elm.r (List.getD (els s) (Int.toNat (↑(S18.i x):Int)) default)==(59:Int))) (br (decide (S18.sem x≥(0:Int))) (((0:Int)≤(↑(S18.i x):Int)∧(↑(S18.i x):Int)<v7)∧Int.toNat (↑(S18.i x):Int)<List.length (els s)∧v2∧(4:Int)=(compileT s).2.1∧Elm.p (List.getD (els s) (Int.toNat (↑(S18.i x):Int)) default)=(compileT s).2.2) (inR IntKind.i64 ((↑(S18.i x):Int)+(1:Int))∧∃ (x':S18 s),((↑(S18.i x):Int)=S18.sem x'∧(↑(S18.i x):Int)+(1:Int)=(↑(S18.i x'):Int)∧EqL zsc zsc∧(0:Int)=(0:Int)∧(0:Int)=(0:Int)∧(scanT s).2.1=(scanT s).2.1∧(scanT s).2.2=(scanT s).2.2∧els s=els s)∧List.length (els s)-S18.i x'<List.length (els s)-S18.i x)) (inR IntKind.i64 ((↑(S18.i x):Int)+(1:Int))∧∃ (x':S18 s),(S18.sem x=S18.sem x'∧(↑(S18.i x):Int)+(1:Int)=(↑(S18.i x'):Int)∧EqL zsc zsc∧(0:Int)=(0:Int)∧(0:Int)=(0:Int)∧(scanT s).2.1=(scanT s).2.1∧(scanT s).2.2=(scanT s).2.2∧els s=els s)∧List.length (els s)-S18.i x'<List.length (els s)-S18.i x)) (∃ (j:PLift (C12 s)),S18.sem x=semZ s∧EqL zsc zsc∧(0:Int)=(0:Int)∧(0:Int)=(0:Int)∧(scanT s).2.1=(scanT s).2.1∧(scanT s).2.2=(scanT s).2.2∧els s=els s))∧∀ (j:PLift (C12 s)),(decide (semZ s≥(0:Int))=true∧((0:Int)≤semZ s∧semZ s≤v7)∧∃ (j:PLift (C12 s)),semZ s=semZ s∧EqL zsc zsc∧(0:Int)=(0:Int)∧(0:Int)=(0:Int)∧(scanT s).2.1=(scanT s).2.1∧(scanT s).2.2=(scanT s).2.2∧els s=els s∧List.drop (0:Nat) (List.take (Int.toNat (semZ s)) (els s))=List.take (semA s) (els s))∧∀ (j:PLift (C12 s)),((∀ (y:Iv),y∈eL v11→Iv.isE y=true∧(Iv.isS y=true→scalar (Iv.sR y)=true))∧List.length v11≤(1000000:Nat)∧∃ (j:PLift (C12 s)),semZ s=semZ s∧EqL zsc zsc∧(0:Int)=(0:Int)∧(0:Int)=(0:Int)∧(readT (eL v11) (0:Int) true).2.1=(rd1 s).2.1∧(readT (eL v11) (0:Int) true).2.2=(rd1 s).2.2∧els s=els s∧EqL (HF.sc (21:Nat) (22:Nat) (23:Nat) (24:Nat) (25:Nat) (26:Nat) (h1 s)) [SC.slc (37:Nat),SC.slc (38:Nat),SC.slc (39:Nat),SC.slc (40:Nat),SC.bool (Pat.hn (nP (HF.n v3))),SC.slc (41:Nat),SC.slc (42:Nat),SC.int IntKind.i64 (Num.mi (Pat.n (nP (HF.n v3)))),SC.int IntKind.i64 (Num.xi (Pat.n (nP (HF.n v3)))),SC.int IntKind.i64 (Num.mf (Pat.n (nP (HF.n v3)))),SC.int IntKind.i64 (Num.xf (Pat.n (nP (HF.n v3)))),SC.int IntKind.i64 (Num.ms (Pat.n (nP (HF.n v3)))),SC.int IntKind.i64 (Num.xs (Pat.n (nP (HF.n v3)))),SC.int IntKind.i64 (Num.pr (Pat.n (nP (HF.n v3)))),SC.int IntKind.i64 (Num.sc (Pat.n (nP (HF.n v3)))),SC.str (Num.inc (Pat.n (nP (HF.n v3)))),SC.bool (Num.ps (Pat.n (nP (HF.n v3)))),SC.int IntKind.i64 (Num.me (Pat.n (nP (HF.n v3)))),SC.bool (Num.px (Pat.n (nP (HF.n v3)))),SC.int IntKind.i64 (Pat.pa (nP (HF.n v3))),SC.int IntKind.i32 (Pat.pd (nP (HF.n v3))),SC.int IntKind.i64 (Pat.pw (nP (HF.n v3))),SC.int IntKind.i64 (HF.w v3),SC.int IntKind.i32 (HF.r v3),SC.int IntKind.i64 (HF.k v3)]∧HF.px v3=HF.px (h1 s)∧HF.sx v3=HF.sx (h1 s)∧Pat.pre (nP (HF.n v3))=[]∧Pat.suf (nP (HF.n v3))=[]∧Pat.npre (nP (HF.n v3))=[]∧Pat.nsuf (nP (HF.n v3))=[])∧∀ (j:PLift (C12 s)),br ((rd1 s).2.1 != (0:Int)) (v2∧(rd1 s).2.1=(compileT s).2.1∧(rd1 s).2.2=(compileT s).2.2) (br (decide (HF.w (h1 s)>(0:Int))) (inR IntKind.i64 ((↑(List.length (HF.px (h1 s))):Int)+(↑(List.length (HF.sx (h1 s))):Int))∧inR IntKind.i64 v8∧((1:Nat)+List.length (HF.px (h1 s)))*(16:Nat)≤(140737488355328:Nat)∧(∃ (j:PLift (C16 s)),semZ s=semZ s∧EqL zsc zsc∧(0:Int)=(0:Int)∧(0:Int)=(0:Int)∧els s=els s∧EqL v6 [SC.slc (21:Nat),SC.slc (22:Nat),SC.bool (Pat.hn (nP (HF.n (h1 s)))),SC.slc (699:Nat),SC.slc (22:Nat),SC.int IntKind.i64 (Num.mi (Pat.n (nP (HF.n (h1 s))))),SC.int IntKind.i64 (Num.xi (Pat.n (nP (HF.n (h1 s))))),SC.int IntKind.i64 (Num.mf (Pat.n (nP (HF.n (h1 s))))),SC.int IntKind.i64 (Num.xf (Pat.n (nP (HF.n (h1 s))))),SC.int IntKind.i64 (Num.ms (Pat.n (nP (HF.n (h1 s))))),SC.int IntKind.i64 (Num.xs (Pat.n (nP (HF.n (h1 s))))),SC.int IntKind.i64 (Num.pr (Pat.n (nP (HF.n (h1 s))))),SC.int IntKind.i64 (Num.sc (Pat.n (nP (HF.n (h1 s))))),SC.str (Num.inc (Pat.n (nP (HF.n (h1 s))))),SC.bool (Num.ps (Pat.n (nP (HF.n (h1 s))))),SC.int IntKind.i64 (Num.me (Pat.n (nP (HF.n (h1 s))))),SC.bool (Num.px (Pat.n (nP (HF.n (h1 s))))),SC.int IntKind.i64 (HF.w (h1 s)),SC.int IntKind.i32 (HF.r (h1 s)),SC.int IntKind.i64 v8]∧HF.px (h1 s)=Pat.pre (cmP s)∧HF.sx (h1 s)=Pat.suf (cmP s)∧[]++[{ k:=(2:Int),r:=(0:Int) }]++HF.px (h1 s)=Pat.npre (cmP s))∧∀ (j:PLift (C16 s)),decide (semZ s≥(0:Int))=true∧(inR IntKind.i64 (semZ s+(1:Int))∧((0:Int)≤semZ s+(1:Int)∧semZ s+(1:Int)≤v7)∧((0:Int)≤semZ s∧semZ s<v7)∧Int.toNat (semZ s)<List.length (els s)∧inR IntKind.i64 v5∧(∀ (y:Iv),y∈eL v4→Iv.isE y=true∧(Iv.isS y=true→scalar (Iv.sR y)=true))∧List.length v4≤(1000000:Nat)∧∃ (j:PLift (C18 s)),EqL zsc zsc∧(0:Int)=(0:Int)∧(0:Int)=(0:Int)∧EqL v6 v6∧Pat.pre (cmP s)=Pat.pre (cmP s)∧Pat.suf (cmP s)=Pat.suf (cmP s)∧Pat.npre (cmP s)=Pat.npre (cmP s)∧(readT (eL v4) v5 false).2.1=(rd2 s).2.1∧(readT (eL v4) v5 false).2.2=(rd2 s).2.2∧EqL v10 [SC.slc (232:Nat),SC.slc (233:Nat),SC.slc (234:Nat),SC.slc (235:Nat),SC.bool (Pat.hn (nP (HF.n v0))),SC.slc (236:Nat),SC.slc (237:Nat),SC.int IntKind.i64 (Num.mi (Pat.n (nP (HF.n v0)))),SC.int IntKind.i64 (Num.xi (Pat.n (nP (HF.n v0)))),SC.int IntKind.i64 (Num.mf (Pat.n (nP (HF.n v0)))),SC.int IntKind.i64 (Num.xf (Pat.n (nP (HF.n v0)))),SC.int IntKind.i64 (Num.ms (Pat.n (nP (HF.n v0)))),SC.int IntKind.i64 (Num.xs (Pat.n (nP (HF.n v0)))),SC.int IntKind.i64 (Num.pr (Pat.n (nP (HF.n v0)))),SC.int IntKind.i64 (Num.sc (Pat.n (nP (HF.n v0)))),SC.str (Num.inc (Pat.n (nP (HF.n v0)))),SC.bool (Num.ps (Pat.n (nP (HF.n v0)))),SC.int IntKind.i64 (Num.me (Pat.n (nP (HF.n v0)))),SC.bool (Num.px (Pat.n (nP (HF.n v0)))),SC.int IntKind.i64 (Pat.pa (nP (HF.n v0))),SC.int IntKind.i32 (Pat.pd (nP (HF.n v0))),SC.int IntKind.i64 (Pat.pw (nP (HF.n v0))),SC.int IntKind.i64 (HF.w v0),SC.int IntKind.i32 (HF.r v0),SC.int IntKind.i64 (HF.k v0)]∧HF.px v0=HF.px (h2 s)∧HF.sx v0=HF.sx (h2 s)∧Pat.pre (nP (HF.n v0))=[]∧Pat.suf (nP (HF.n v0))=[]∧Pat.npre (nP (HF.n v0))=[]∧Pat.nsuf (nP (HF.n v0))=[])∧∀ (j:PLift (C18 s)),br ((rd2 s).2.1 != (0:Int)) v12 v1) (((1:Nat)+List.length (HF.px (h1 s)))*(16:Nat)≤(140737488355328:Nat)∧(∃ (j:PLift (C16 s)),semZ s=semZ s∧EqL zsc zsc∧(0:Int)=(0:Int)∧(0:Int)=(0:Int)∧els s=els s∧EqL v6 [SC.slc (21:Nat),SC.slc (22:Nat),SC.bool (Pat.hn (nP (HF.n (h1 s)))),SC.slc (507:Nat),SC.slc (22:Nat),SC.int IntKind.i64 (Num.mi (Pat.n (nP (HF.n (h1 s))))),SC.int IntKind.i64 (Num.xi (Pat.n (nP (HF.n (h1 s))))),SC.int IntKind.i64 (Num.mf (Pat.n (nP (HF.n (h1 s))))),SC.int IntKind.i64 (Num.xf (Pat.n (nP (HF.n (h1 s))))),SC.int IntKind.i64 (Num.ms (Pat.n (nP (HF.n (h1 s))))),SC.int IntKind.i64 (Num.xs (Pat.n (nP (HF.n (h1 s))))),SC.int IntKind.i64 (Num.pr (Pat.n (nP (HF.n (h1 s))))),SC.int IntKind.i64 (Num.sc (Pat.n (nP (HF.n (h1 s))))),SC.str (Num.inc (Pat.n (nP (HF.n (h1 s))))),SC.bool (Num.ps (Pat.n (nP (HF.n (h1 s))))),SC.int IntKind.i64 (Num.me (Pat.n (nP (HF.n (h1 s))))),SC.bool (Num.px (Pat.n (nP (HF.n (h1 s))))),SC.int IntKind.i64 (HF.w (h1 s)),SC.int IntKind.i32 (HF.r (h1 s)),SC.int IntKind.i64 (Pat.pw (nP (HF.n (h1 s))))]∧HF.px (h1 s)=Pat.pre (cmP s)∧HF.sx (h1 s)=Pat.suf (cmP s)∧[]++[{ k:=(2:Int),r:=(0:Int) }]++HF.px (h1 s)=Pat.npre (cmP s))∧∀ (j:PLift (C16 s)),decide (semZ s≥(0:Int))=true∧(inR IntKind.i64 (semZ s+(1:Int))∧((0:Int)≤semZ s+(1:Int)∧semZ s+(1:Int)≤v7)∧((0:Int)≤semZ s∧semZ s<v7)∧Int.toNat (semZ s)<List.length (els s)∧inR IntKind.i64 v5∧(∀ (y:Iv),y∈eL v4→Iv.isE y=true∧(Iv.isS y=true→scalar (Iv.sR y)=true))∧List.length v4≤(1000000:Nat)∧∃ (j:PLift (C18 s)),EqL zsc zsc∧(0:Int)=(0:Int)∧(0:Int)=(0:Int)∧EqL v6 v6∧Pat.pre (cmP s)=Pat.pre (cmP s)∧Pat.suf (cmP s)=Pat.suf (cmP s)∧Pat.npre (cmP s)=Pat.npre (cmP s)∧(readT (eL v4) v5 false).2.1=(rd2 s).2.1∧(readT (eL v4) v5 false).2.2=(rd2 s).2.2∧EqL v10 [SC.slc (232:Nat),SC.slc (233:Nat),SC.slc (234:Nat),SC.slc (235:Nat),SC.bool (Pat.hn (nP (HF.n v0))),SC.slc (236:Nat),SC.slc (237:Nat),SC.int IntKind.i64 (Num.mi (Pat.n (nP (HF.n v0)))),SC.int IntKind.i64 (Num.xi (Pat.n (nP (HF.n v0)))),SC.int IntKind.i64 (Num.mf (Pat.n (nP (HF.n v0)))),SC.int IntKind.i64 (Num.xf (Pat.n (nP (HF.n v0)))),SC.int IntKind.i64 (Num.ms (Pat.n (nP (HF.n v0)))),SC.int IntKind.i64 (Num.xs (Pat.n (nP (HF.n v0)))),SC.int IntKind.i64 (Num.pr (Pat.n (nP (HF.n v0)))),SC.int IntKind.i64 (Num.sc (Pat.n (nP (HF.n v0)))),SC.str (Num.inc (Pat.n (nP (HF.n v0)))),SC.bool (Num.ps (Pat.n (nP (HF.n v0)))),SC.int IntKind.i64 (Num.me (Pat.n (nP (HF.n v0)))),SC.bool (Num.px (Pat.n (nP (HF.n v0)))),SC.int IntKind.i64 (Pat.pa (nP (HF.n v0))),SC.int IntKind.i32 (Pat.pd (nP (HF.n v0))),SC.int IntKind.i64 (Pat.pw (nP (HF.n v0))),SC.int IntKind.i64 (HF.w v0),SC.int IntKind.i32 (HF.r v0),SC.int IntKind.i64 (HF.k v0)]∧HF.px v0=HF.px (h2 s)∧HF.sx v0=HF.sx (h2 s)∧Pat.pre (nP (HF.n v0))=[]∧Pat.suf (nP (HF.n v0))=[]∧Pat.npre (nP (HF.n v0))=[]∧Pat.nsuf (nP (HF.n v0))=[])∧∀ (j:PLift (C18 s)),br ((rd2 s).2.1 != (0:Int)) v12 v1))))):=by kernel_rfl
set_option maxHeartbeats 4000000 in
theorem of_r3compA (h:∀ (s:List UInt8),(s.length≤1000000)→(semA s<(els s).length)→vcP [(28,sp_rscan),(36,sp_eplain),(37,sp_r3half),(38,sp_r3signs)] [] miscL Tryz.f15 (annR s (fun a=>.dec 88 true (.dec 140 true a)) (annT s) 20 [(20,some (.read (.elms ((els s).take (semA s)))))]) [.one (.str s)] (.tup [(true,(compileT s).1.pcs),(true,[.int .i64 (compileT s).2.1,.int .i64 (compileT s).2.2])])):FnP 15 sp_r3compA:=by
 refine fnP_ok (cs:=[(28,sp_rscan),(36,sp_eplain),(37,sp_r3half),(38,sp_r3signs)]) (cas:=[]) (ms:=miscL) (.cons ok_rscan (.cons ok_eplain (.cons ok_r3half (.cons ok_r3signs .nil)))) .nil miscL_ok 15 Tryz.f15 (by kernel_rfl) (by kernel_rfl) (by kernel_rfl) (fun | [.one (.str s)]=>annR s (fun a=>.dec 88 true (.dec 140 true a)) (annT s) 20 [(20,some (.read (.elms ((els s).take (semA s)))))] | _=>.nil) ?_
 intro pvs p r hs hp
 unfold sp_r3compA at hs
 simp only at hs
 split at hs
 ·rename_i s
  cases hs
  refine h s ?_ ?_
  ·exact hp.1
  ·exact hp.2
 ·cases hs
def sp_r3compB:FSpec:=⟨[],fun | [.one (.str s)]=>some ([s.length≤1000000,¬ semA s<(els s).length],.tup [(true,(compileT s).1.pcs),(true,[.int .i64 (compileT s).2.1,.int .i64 (compileT s).2.2])]) | _=>none⟩
theorem vc_r3compB (s:List UInt8):vcP [(28,sp_rscan),(36,sp_eplain),(37,sp_r3half),(38,sp_r3signs)] [] miscL Tryz.f15 (annR s (fun a=>.dec 88 false (.dec 140 false a)) .nil 19 []) [.one (.str s)] (.tup [(true,(compileT s).1.pcs),(true,[.int .i64 (compileT s).2.1,.int .i64 (compileT s).2.2])])=(letI v0:Pat:={ pre:=Pat.pre (cmP s),suf:=Pat.suf (cmP s),hn:=Pat.hn (cmP s),npre:=Pat.npre (cmP s),nsuf:=Pat.suf (cmP s),n:=Pat.n (cmP s),pa:=Pat.pa (cmP s),pd:=Pat.pd (cmP s),pw:=Pat.pw (cmP s) }; letI v1:=([]=Pat.pre (compileT s).1∧[]=Pat.suf (compileT s).1∧false=Pat.hn (compileT s).1∧[]=Pat.npre (compileT s).1∧[]=Pat.nsuf (compileT s).1∧(0:Int)=Num.mi (Pat.n (compileT s).1)∧(0:Int)=Num.xi (Pat.n (compileT s).1)∧(0:Int)=Num.mf (Pat.n (compileT s).1)∧(0:Int)=Num.xf (Pat.n (compileT s).1)∧(0:Int)=Num.ms (Pat.n (compileT s).1)∧(0:Int)=Num.xs (Pat.n (compileT s).1)∧(0:Int)=Num.pr (Pat.n (compileT s).1)∧(0:Int)=Num.sc (Pat.n (compileT s).1)∧[]=Num.inc (Pat.n (compileT s).1)∧false=Num.ps (Pat.n (compileT s).1)∧(0:Int)=Num.me (Pat.n (compileT s).1)∧false=Num.px (Pat.n (compileT s).1)∧(0:Int)=Pat.pa (compileT s).1∧(0:Int)=Pat.pd (compileT s).1∧(0:Int)=Pat.pw (compileT s).1); letI v2:=((Pat.pre (cmP s)=Pat.pre (compileT s).1∧Pat.suf (cmP s)=Pat.suf (compileT s).1∧Pat.hn (cmP s)=Pat.hn (compileT s).1∧Pat.npre (cmP s)=Pat.npre (compileT s).1∧Pat.suf (cmP s)=Pat.nsuf (compileT s).1∧Num.mi (Pat.n (cmP s))=Num.mi (Pat.n (compileT s).1)∧Num.xi (Pat.n (cmP s))=Num.xi (Pat.n (compileT s).1)∧Num.mf (Pat.n (cmP s))=Num.mf (Pat.n (compileT s).1)∧Num.xf (Pat.n (cmP s))=Num.xf (Pat.n (compileT s).1)∧Num.ms (Pat.n (cmP s))=Num.ms (Pat.n (compileT s).1)∧Num.xs (Pat.n (cmP s))=Num.xs (Pat.n (compileT s).1)∧Num.pr (Pat.n (cmP s))=Num.pr (Pat.n (compileT s).1)∧Num.sc (Pat.n (cmP s))=Num.sc (Pat.n (compileT s).1)∧Num.inc (Pat.n (cmP s))=Num.inc (Pat.n (compileT s).1)∧Num.ps (Pat.n (cmP s))=Num.ps (Pat.n (compileT s).1)∧Num.me (Pat.n (cmP s))=Num.me (Pat.n (compileT s).1)∧Num.px (Pat.n (cmP s))=Num.px (Pat.n (compileT s).1)∧Pat.pa (cmP s)=Pat.pa (compileT s).1∧Pat.pd (cmP s)=Pat.pd (compileT s).1∧Pat.pw (cmP s)=Pat.pw (compileT s).1)∧(0:Int)=(compileT s).2.1∧(0:Int)=(compileT s).2.2); letI v3:=(nP (HF.n (halfH (els s) (0:Int) true))); letI v4:=(List.length (Pat.pre v0)≤(1000000:Nat)∧List.length (Pat.suf v0)≤(1000000:Nat)∧List.length (Pat.npre v0)≤(1000000:Nat)∧List.length (Pat.nsuf v0)≤(1000000:Nat)); letI v5:=(v4∧br (decide ((↑(cntK (5:Int) (Pat.pre v0++Pat.suf v0++Pat.npre v0++Pat.nsuf v0)):Int)>(0:Int))) (v1∧(6:Int)=(compileT s).2.1∧(0:Int)=(compileT s).2.2) v2); letI v6:=(halfH (els s) (0:Int) true); letI v7:=(decide ((↑(cntK (4:Int) (Pat.pre v0++Pat.suf v0++Pat.npre v0++Pat.nsuf v0)):Int)>(0:Int))); letI v8:=((↑(List.length (HF.px (h1 s))):Int)+(↑(List.length (HF.sx (h1 s))):Int)+HF.k (h1 s)); letI v9:=(↑(List.length (scanT s).1):Int); (List.length s≤(1000000:Nat)∧br ((scanT s).2.1 != (0:Int)) (v1∧(scanT s).2.1=(compileT s).2.1∧(scanT s).2.2=(compileT s).2.2) (((∃ (x:EE (Prod.fst (scanT s))),(0:Int)=(↑(EE.n x):Int)∧EqL zsc [SC.nils,SC.nils,SC.ff,SC.nils,SC.nils,SC.int IntKind.i64 (0:Int),SC.int IntKind.i64 (0:Int),SC.int IntKind.i64 (0:Int),SC.int IntKind.i64 (0:Int),SC.int IntKind.i64 (0:Int),SC.int IntKind.i64 (0:Int),SC.int IntKind.i64 (0:Int),SC.int IntKind.i64 (0:Int),SC.str [],SC.ff,SC.int IntKind.i64 (0:Int),SC.ff,SC.int IntKind.i64 (0:Int),SC.int IntKind.i32 (0:Int),SC.int IntKind.i64 (0:Int)]∧(0:Int)=(0:Int)∧(0:Int)=(0:Int)∧(scanT s).2.1=(scanT s).2.1∧(scanT s).2.2=(scanT s).2.2∧(scanT s).1=(scanT s).1∧EE.ps x=[])∧∀ (x:EE (Prod.fst (scanT s))),br (decide ((↑(EE.n x):Int)<v9)) (((0:Int)≤(↑(EE.n x):Int)∧(↑(EE.n x):Int)<v9)∧Int.toNat (↑(EE.n x):Int)<List.length (scanT s).1∧br (!false && (!Tok.q (List.getD (scanT s).1 (Int.toNat (↑(EE.n x):Int)) default) && Tok.r (List.getD (scanT s).1 (Int.toNat (↑(EE.n x):Int)) default)==(42:Int))) (inR IntKind.i64 ((↑(EE.n x):Int)+(1:Int))∧br ((↑(EE.n x):Int)+(1:Int)==v9) (v1∧(7:Int)=(compileT s).2.1∧Tok.p (List.getD (scanT s).1 (Int.toNat (↑(EE.n x):Int)) default)=(compileT s).2.2) (inR IntKind.i64 ((↑(EE.n x):Int)+(1:Int))∧((0:Int)≤(↑(EE.n x):Int)+(1:Int)∧(↑(EE.n x):Int)+(1:Int)<v9)∧Int.toNat ((↑(EE.n x):Int)+(1:Int))<List.length (scanT s).1∧inR IntKind.i64 ((↑(EE.n x):Int)+(1:Int))∧∃ (j:PLift (EE.n x<List.length (Prod.fst (scanT s))∧(isStar (List.getD (Prod.fst (scanT s)) (EE.n x) default)=true→EE.n x+(1:Nat)<List.length (Prod.fst (scanT s))))),((↑(EE.n x):Int)+(1:Int)=if isStar (List.getD (scanT s).1 (EE.n x) default)=true then (↑(EE.n x):Int)+(1:Int) else (↑(EE.n x):Int))∧EqL zsc zsc∧(0:Int)=(0:Int)∧(0:Int)=(0:Int)∧(scanT s).2.1=(scanT s).2.1∧(scanT s).2.2=(scanT s).2.2∧(scanT s).1=(scanT s).1∧EE.ps x=EE.ps x∧EqL [SC.int IntKind.i32 (if isStar (List.getD (scanT s).1 (EE.n x) default)=true then Tok.r (List.getD (scanT s).1 (EE.n x+(1:Nat)) default) else Tok.r (List.getD (scanT s).1 (EE.n x) default)),SC.bool (Tok.q (List.getD (scanT s).1 (EE.n x) default)),SC.int IntKind.i64 (Tok.p (List.getD (scanT s).1 (EE.n x) default)),SC.bool (isStar (List.getD (scanT s).1 (EE.n x) default))] [SC.int IntKind.i32 (Tok.r (List.getD (scanT s).1 (Int.toNat ((↑(EE.n x):Int)+(1:Int))) default)),SC.bool (Tok.q (List.getD (scanT s).1 (Int.toNat (↑(EE.n x):Int)) default)),SC.int IntKind.i64 (Tok.p (List.getD (scanT s).1 (Int.toNat (↑(EE.n x):Int)) default)),SC.tt])) (∃ (j:PLift (EE.n x<List.length (Prod.fst (scanT s))∧(isStar (List.getD (Prod.fst (scanT s)) (EE.n x) default)=true→EE.n x+(1:Nat)<List.length (Prod.fst (scanT s))))),((↑(EE.n x):Int)=if isStar (List.getD (scanT s).1 (EE.n x) default)=true then (↑(EE.n x):Int)+(1:Int) else (↑(EE.n x):Int))∧EqL zsc zsc∧(0:Int)=(0:Int)∧(0:Int)=(0:Int)∧(scanT s).2.1=(scanT s).2.1∧(scanT s).2.2=(scanT s).2.2∧(scanT s).1=(scanT s).1∧EE.ps x=EE.ps x∧EqL [SC.int IntKind.i32 (if isStar (List.getD (scanT s).1 (EE.n x) default)=true then Tok.r (List.getD (scanT s).1 (EE.n x+(1:Nat)) default) else Tok.r (List.getD (scanT s).1 (EE.n x) default)),SC.bool (Tok.q (List.getD (scanT s).1 (EE.n x) default)),SC.int IntKind.i64 (Tok.p (List.getD (scanT s).1 (EE.n x) default)),SC.bool (isStar (List.getD (scanT s).1 (EE.n x) default))] [SC.int IntKind.i32 (Tok.r (List.getD (scanT s).1 (Int.toNat (↑(EE.n x):Int)) default)),SC.bool (Tok.q (List.getD (scanT s).1 (Int.toNat (↑(EE.n x):Int)) default)),SC.int IntKind.i64 (Tok.p (List.getD (scanT s).1 (Int.toNat (↑(EE.n x):Int)) default)),SC.ff])∧∀ (j:PLift (EE.n x<List.length (Prod.fst (scanT s))∧(isStar (List.getD (Prod.fst (scanT s)) (EE.n x) default)=true→EE.n x+(1:Nat)<List.length (Prod.fst (scanT s))))),(List.length (EE.ps x)+(1:Nat))*(24:Nat)≤(140737488355328:Nat)∧inR IntKind.i64 ((if isStar (List.getD (scanT s).1 (EE.n x) default)=true then (↑(EE.n x):Int)+(1:Int) else (↑(EE.n x):Int))+(1:Int))∧∃ (x':EE (Prod.fst (scanT s))),((if isStar (List.getD (scanT s).1 (EE.n x) default)=true then (↑(EE.n x):Int)+(1:Int) else (↑(EE.n x):Int))+(1:Int)=(↑(EE.n x'):Int)∧EqL zsc zsc∧(0:Int)=(0:Int)∧(0:Int)=(0:Int)∧(scanT s).2.1=(scanT s).2.1∧(scanT s).2.2=(scanT s).2.2∧(scanT s).1=(scanT s).1∧EE.ps x++([]++[{ r:=if isStar (List.getD (scanT s).1 (EE.n x) default)=true then Tok.r (List.getD (scanT s).1 (EE.n x+(1:Nat)) default) else Tok.r (List.getD (scanT s).1 (EE.n x) default),q:=Tok.q (List.getD (scanT s).1 (EE.n x) default),p:=Tok.p (List.getD (scanT s).1 (EE.n x) default),pad:=isStar (List.getD (scanT s).1 (EE.n x) default) }])=EE.ps x')∧List.length (scanT s).1-EE.n x'<List.length (scanT s).1-EE.n x) (∃ (j:PLift (C7 s)),EqL zsc zsc∧(0:Int)=(0:Int)∧(0:Int)=(0:Int)∧(scanT s).2.1=(scanT s).2.1∧(scanT s).2.2=(scanT s).2.2∧EE.ps x=els s))∧∀ (j:PLift (C7 s)),((∃ (x:S18 s),(-1:Int)=S18.sem x∧(0:Int)=(↑(S18.i x):Int)∧EqL zsc zsc∧(0:Int)=(0:Int)∧(0:Int)=(0:Int)∧(scanT s).2.1=(scanT s).2.1∧(scanT s).2.2=(scanT s).2.2∧els s=els s)∧∀ (x:S18 s),br (decide ((↑(S18.i x):Int)<(↑(List.length (els s)):Int))) (((0:Int)≤(↑(S18.i x):Int)∧(↑(S18.i x):Int)<(↑(List.length (els s)):Int))∧Int.toNat (↑(S18.i x):Int)<List.length (els s)∧br (!Elm.pad (List.getD (els s) (Int.toNat (↑(S18.i x):Int)) default) && (!Elm.q (List.getD (els s) (Int.toNat (↑(S18.i x):Int)) default) && Elm.r (List.getD (els s) (Int.toNat (↑(S18.i x):Int)) default)==(59:Int))) (br (decide (S18.sem x≥(0:Int))) (((0:Int)≤(↑(S18.i x):Int)∧(↑(S18.i x):Int)<(↑(List.length (els s)):Int))∧Int.toNat (↑(S18.i x):Int)<List.length (els s)∧v1∧(4:Int)=(compileT s).2.1∧Elm.p (List.getD (els s) (Int.toNat (↑(S18.i x):Int)) default)=(compileT s).2.2) (inR IntKind.i64 ((↑(S18.i x):Int)+(1:Int))∧∃ (x':S18 s),((↑(S18.i x):Int)=S18.sem x'∧(↑(S18.i x):Int)+(1:Int)=(↑(S18.i x'):Int)∧EqL zsc zsc∧(0:Int)=(0:Int)∧(0:Int)=(0:Int)∧(scanT s).2.1=(scanT s).2.1∧(scanT s).2.2=(scanT s).2.2∧els s=els s)∧List.length (els s)-S18.i x'<List.length (els s)-S18.i x)) (inR IntKind.i64 ((↑(S18.i x):Int)+(1:Int))∧∃ (x':S18 s),(S18.sem x=S18.sem x'∧(↑(S18.i x):Int)+(1:Int)=(↑(S18.i x'):Int)∧EqL zsc zsc∧(0:Int)=(0:Int)∧(0:Int)=(0:Int)∧(scanT s).2.1=(scanT s).2.1∧(scanT s).2.2=(scanT s).2.2∧els s=els s)∧List.length (els s)-S18.i x'<List.length (els s)-S18.i x)) (∃ (j:PLift (C12 s)),S18.sem x=semZ s∧EqL zsc zsc∧(0:Int)=(0:Int)∧(0:Int)=(0:Int)∧(scanT s).2.1=(scanT s).2.1∧(scanT s).2.2=(scanT s).2.2∧els s=els s))∧∀ (j:PLift (C12 s)),(decide (semZ s≥(0:Int))=false∧∃ (j:PLift (C12 s)),semZ s=semZ s∧EqL zsc zsc∧(0:Int)=(0:Int)∧(0:Int)=(0:Int)∧(scanT s).2.1=(scanT s).2.1∧(scanT s).2.2=(scanT s).2.2∧els s=els s)∧∀ (j:PLift (C12 s)),((∀ (y:Iv),y∈eL (els s)→Iv.isE y=true∧(Iv.isS y=true→scalar (Iv.sR y)=true))∧List.length (els s)≤(1000000:Nat)∧∃ (j:PLift (C12 s)),semZ s=semZ s∧EqL zsc zsc∧(0:Int)=(0:Int)∧(0:Int)=(0:Int)∧(readT (eL (els s)) (0:Int) true).2.1=(rd1 s).2.1∧(readT (eL (els s)) (0:Int) true).2.2=(rd1 s).2.2∧els s=els s∧EqL (HF.sc (21:Nat) (22:Nat) (23:Nat) (24:Nat) (25:Nat) (26:Nat) (h1 s)) [SC.slc (37:Nat),SC.slc (38:Nat),SC.slc (39:Nat),SC.slc (40:Nat),SC.bool (Pat.hn v3),SC.slc (41:Nat),SC.slc (42:Nat),SC.int IntKind.i64 (Num.mi (Pat.n v3)),SC.int IntKind.i64 (Num.xi (Pat.n v3)),SC.int IntKind.i64 (Num.mf (Pat.n v3)),SC.int IntKind.i64 (Num.xf (Pat.n v3)),SC.int IntKind.i64 (Num.ms (Pat.n v3)),SC.int IntKind.i64 (Num.xs (Pat.n v3)),SC.int IntKind.i64 (Num.pr (Pat.n v3)),SC.int IntKind.i64 (Num.sc (Pat.n v3)),SC.str (Num.inc (Pat.n v3)),SC.bool (Num.ps (Pat.n v3)),SC.int IntKind.i64 (Num.me (Pat.n v3)),SC.bool (Num.px (Pat.n v3)),SC.int IntKind.i64 (Pat.pa v3),SC.int IntKind.i32 (Pat.pd v3),SC.int IntKind.i64 (Pat.pw v3),SC.int IntKind.i64 (HF.w v6),SC.int IntKind.i32 (HF.r v6),SC.int IntKind.i64 (HF.k v6)]∧HF.px v6=HF.px (h1 s)∧HF.sx v6=HF.sx (h1 s)∧Pat.pre v3=[]∧Pat.suf v3=[]∧Pat.npre v3=[]∧Pat.nsuf v3=[])∧∀ (j:PLift (C12 s)),br ((rd1 s).2.1 != (0:Int)) (v1∧(rd1 s).2.1=(compileT s).2.1∧(rd1 s).2.2=(compileT s).2.2) (br (decide (HF.w (h1 s)>(0:Int))) (inR IntKind.i64 ((↑(List.length (HF.px (h1 s))):Int)+(↑(List.length (HF.sx (h1 s))):Int))∧inR IntKind.i64 v8∧((1:Nat)+List.length (HF.px (h1 s)))*(16:Nat)≤(140737488355328:Nat)∧(∃ (j:PLift (C16 s)),semZ s=semZ s∧EqL zsc zsc∧(0:Int)=(0:Int)∧(0:Int)=(0:Int)∧els s=els s∧EqL (Pat.sc (21:Nat) (22:Nat) (23:Nat) (22:Nat) (cmP s)) [SC.slc (21:Nat),SC.slc (22:Nat),SC.bool (Pat.hn (nP (HF.n (h1 s)))),SC.slc (699:Nat),SC.slc (22:Nat),SC.int IntKind.i64 (Num.mi (Pat.n (nP (HF.n (h1 s))))),SC.int IntKind.i64 (Num.xi (Pat.n (nP (HF.n (h1 s))))),SC.int IntKind.i64 (Num.mf (Pat.n (nP (HF.n (h1 s))))),SC.int IntKind.i64 (Num.xf (Pat.n (nP (HF.n (h1 s))))),SC.int IntKind.i64 (Num.ms (Pat.n (nP (HF.n (h1 s))))),SC.int IntKind.i64 (Num.xs (Pat.n (nP (HF.n (h1 s))))),SC.int IntKind.i64 (Num.pr (Pat.n (nP (HF.n (h1 s))))),SC.int IntKind.i64 (Num.sc (Pat.n (nP (HF.n (h1 s))))),SC.str (Num.inc (Pat.n (nP (HF.n (h1 s))))),SC.bool (Num.ps (Pat.n (nP (HF.n (h1 s))))),SC.int IntKind.i64 (Num.me (Pat.n (nP (HF.n (h1 s))))),SC.bool (Num.px (Pat.n (nP (HF.n (h1 s))))),SC.int IntKind.i64 (HF.w (h1 s)),SC.int IntKind.i32 (HF.r (h1 s)),SC.int IntKind.i64 v8]∧HF.px (h1 s)=Pat.pre (cmP s)∧HF.sx (h1 s)=Pat.suf (cmP s)∧[]++[{ k:=(2:Int),r:=(0:Int) }]++HF.px (h1 s)=Pat.npre (cmP s))∧∀ (j:PLift (C16 s)),decide (semZ s≥(0:Int))=false∧v4∧br v7 v5 v2) (((1:Nat)+List.length (HF.px (h1 s)))*(16:Nat)≤(140737488355328:Nat)∧(∃ (j:PLift (C16 s)),semZ s=semZ s∧EqL zsc zsc∧(0:Int)=(0:Int)∧(0:Int)=(0:Int)∧els s=els s∧EqL (Pat.sc (21:Nat) (22:Nat) (23:Nat) (22:Nat) (cmP s)) [SC.slc (21:Nat),SC.slc (22:Nat),SC.bool (Pat.hn (nP (HF.n (h1 s)))),SC.slc (507:Nat),SC.slc (22:Nat),SC.int IntKind.i64 (Num.mi (Pat.n (nP (HF.n (h1 s))))),SC.int IntKind.i64 (Num.xi (Pat.n (nP (HF.n (h1 s))))),SC.int IntKind.i64 (Num.mf (Pat.n (nP (HF.n (h1 s))))),SC.int IntKind.i64 (Num.xf (Pat.n (nP (HF.n (h1 s))))),SC.int IntKind.i64 (Num.ms (Pat.n (nP (HF.n (h1 s))))),SC.int IntKind.i64 (Num.xs (Pat.n (nP (HF.n (h1 s))))),SC.int IntKind.i64 (Num.pr (Pat.n (nP (HF.n (h1 s))))),SC.int IntKind.i64 (Num.sc (Pat.n (nP (HF.n (h1 s))))),SC.str (Num.inc (Pat.n (nP (HF.n (h1 s))))),SC.bool (Num.ps (Pat.n (nP (HF.n (h1 s))))),SC.int IntKind.i64 (Num.me (Pat.n (nP (HF.n (h1 s))))),SC.bool (Num.px (Pat.n (nP (HF.n (h1 s))))),SC.int IntKind.i64 (HF.w (h1 s)),SC.int IntKind.i32 (HF.r (h1 s)),SC.int IntKind.i64 (Pat.pw (nP (HF.n (h1 s))))]∧HF.px (h1 s)=Pat.pre (cmP s)∧HF.sx (h1 s)=Pat.suf (cmP s)∧[]++[{ k:=(2:Int),r:=(0:Int) }]++HF.px (h1 s)=Pat.npre (cmP s))∧∀ (j:PLift (C16 s)),decide (semZ s≥(0:Int))=false∧v4∧br v7 v5 v2))))):=by kernel_rfl
set_option maxHeartbeats 4000000 in
theorem of_r3compB (h:∀ (s:List UInt8),(s.length≤1000000)→(¬ semA s<(els s).length)→vcP [(28,sp_rscan),(36,sp_eplain),(37,sp_r3half),(38,sp_r3signs)] [] miscL Tryz.f15 (annR s (fun a=>.dec 88 false (.dec 140 false a)) .nil 19 []) [.one (.str s)] (.tup [(true,(compileT s).1.pcs),(true,[.int .i64 (compileT s).2.1,.int .i64 (compileT s).2.2])])):FnP 15 sp_r3compB:=by
 refine fnP_ok (cs:=[(28,sp_rscan),(36,sp_eplain),(37,sp_r3half),(38,sp_r3signs)]) (cas:=[]) (ms:=miscL) (.cons ok_rscan (.cons ok_eplain (.cons ok_r3half (.cons ok_r3signs .nil)))) .nil miscL_ok 15 Tryz.f15 (by kernel_rfl) (by kernel_rfl) (by kernel_rfl) (fun | [.one (.str s)]=>annR s (fun a=>.dec 88 false (.dec 140 false a)) .nil 19 [] | _=>.nil) ?_
 intro pvs p r hs hp
 unfold sp_r3compB at hs
 simp only at hs
 split at hs
 ·rename_i s
  cases hs
  refine h s ?_ ?_
  ·exact hp.1
  ·exact hp.2
 ·cases hs
theorem elE_iv:∀ (n:Nat) (l:List Tok),l.length≤n→(elE l).1.map Elm.iv=(elemsL l).1∧(elE l).2=(elemsL l).2∧(elE l).1.length≤l.length:=by
 intro n
 induction n with
 | zero =>
  intro l hn
  have:l=[]:=List.eq_nil_of_length_eq_zero (by omega)
  subst this
  exact ⟨rfl,rfl,Nat.le_refl _⟩
 | succ n ih =>
  intro l hn
  match l,hn with
  | [],_=>exact ⟨rfl,rfl,Nat.le_refl _⟩
  | [t],hn =>
   unfold elE elemsL
   split
   ·exact ⟨rfl,rfl,Nat.zero_le _⟩
   ·exact ⟨rfl,rfl,Nat.le_refl _⟩
  | t :: x :: m,hn =>
   unfold elE elemsL
   split
   ·obtain ⟨h1,h2,h3⟩:=ih m (by simp at hn; omega)
    exact ⟨by rw [List.map_cons,h1]; rfl,h2,by simp; omega⟩
   ·obtain ⟨h1,h2,h3⟩:=ih (x :: m) (by simp at hn ⊢; omega)
    exact ⟨by rw [List.map_cons,h1]; rfl,h2,by simp at h3 ⊢; omega⟩
theorem elR_none {l:List Tok} (h:(elE l).2=none):(elemsR l).2.1=0∧(elemsR l).1=eL (elE l).1:=by
 obtain ⟨h1,h2,_⟩:=elE_iv l.length l (Nat.le_refl _)
 rw [h2] at h
 unfold elemsR eL
 rw [h,h1]; exact ⟨rfl,rfl⟩
theorem elR_some {l:List Tok} {p:Int} (h:(elE l).2=some p):(elemsR l).2=(7,p):=by
 obtain ⟨_,h2,_⟩:=elE_iv l.length l (Nat.le_refl _)
 rw [h2] at h
 unfold elemsR
 rw [h]
def EE.zero (l:List Tok):EE l:=⟨0,[],Nat.zero_le _,Nat.le_refl _,rfl,rfl⟩
theorem EE.last {l:List Tok} (x:EE l) (h:x.n<l.length) (hs:isStar (l.getD x.n default)=true) (he:x.n+1=l.length):(elE l).2=some (l.getD x.n default).p:=by
 have e:=x.fin2
 rw [drop_next l default h,List.drop_of_length_le (by omega)] at e
 rw [← e]
 unfold elE; rw [if_pos hs]
def EE.two {l:List Tok} (x:EE l) (h:x.n+1<l.length) (hs:isStar (l.getD x.n default)=true):EE l where
 n:=x.n+2
 ps:=x.ps++[⟨(l.getD (x.n+1) default).r,(l.getD x.n default).q,(l.getD x.n default).p,true⟩]
 le:=by omega
 few:=by have:=x.few; simp; omega
 fin1:=by
  have e:=x.fin1
  rw [drop_next l default (by omega:x.n<l.length),drop_next l default h] at e
  rw [← e,List.append_assoc]
  congr 1
  conv=>rhs; unfold elE
  rw [if_pos hs]; rfl
 fin2:=by
  have e:=x.fin2
  rw [drop_next l default (by omega:x.n<l.length),drop_next l default h] at e
  rw [← e]
  conv=>rhs; unfold elE
  rw [if_pos hs]
def EE.one {l:List Tok} (x:EE l) (h:x.n<l.length) (hs:isStar (l.getD x.n default)=false):EE l where
 n:=x.n+1
 ps:=x.ps++[⟨(l.getD x.n default).r,(l.getD x.n default).q,(l.getD x.n default).p,false⟩]
 le:=h
 few:=by have:=x.few; simp; omega
 fin1:=by
  have e:=x.fin1
  rw [drop_next l default h] at e
  rw [← e,List.append_assoc]
  congr 1
  cases hd:l.drop (x.n+1) with
  | nil =>
   conv=>rhs; unfold elE
   rw [if_neg (by rw [hs]; decide)]; rfl
  | cons y m =>
   conv=>rhs; unfold elE
   rw [if_neg (by rw [hs]; decide)]; rfl
 fin2:=by
  have e:=x.fin2
  rw [drop_next l default h] at e
  rw [← e]
  cases hd:l.drop (x.n+1) with
  | nil =>
   conv=>rhs; unfold elE
   rw [if_neg (by rw [hs]; decide)]; rfl
  | cons y m =>
   conv=>rhs; unfold elE
   rw [if_neg (by rw [hs]; decide)]
def SignOK (l:List Itm):Prop:=∀ x∈l,x.k=1∨x.r=0
theorem SignOK.app {a b:List Itm} (h:SignOK a) (k:SignOK b):SignOK (a++b):=fun x hx=>by
 rcases List.mem_append.1 hx with hx | hx
 ·exact h x hx
 ·exact k x hx
theorem hasItm_cnt {k:Int} (hk:k≠1) {l:List Itm} (h:SignOK l):hasItm k l=decide (0<cntK k l):=by
 unfold hasItm cntK
 rw [Bool.eq_iff_iff,List.any_eq_true,decide_eq_true_iff,List.countP_pos_iff]
 constructor
 ·rintro ⟨x,hx,h1⟩
  unfold isItm at h1
  rw [Bool.and_eq_true,decide_eq_true_iff,decide_eq_true_iff] at h1
  exact ⟨x,hx,by rw [h1.1]; exact beq_self_eq_true _⟩
 ·rintro ⟨x,hx,h1⟩
  have h1:x.k=k:=by simpa using h1
  refine ⟨x,hx,?_⟩
  unfold isItm
  rw [Bool.and_eq_true,decide_eq_true_iff,decide_eq_true_iff]
  refine ⟨h1.symm,?_⟩
  rcases h x hx with h2 | h2
  ·exact absurd (h1.symm.trans h2) hk
  ·exact h2.symm
end Go.Proofs.YtglfkihckkjniaaGreatDoor.Vx
namespace Go.Proofs.YtglfkihckkjniaaGreatDoor.Vx
open Go Go.RowKit
theorem SignOK.itemsL:∀ (l:List Tok),SignOK (itemsL l).1
 | []=>fun x hx=>(by cases hx)
 | t :: m=>by
  unfold Vx.itemsL
  split
  ·exact fun x hx=>(by cases hx)
  ·intro x hx
   rcases List.mem_cons.1 hx with hx | hx
   ·subst hx
    unfold Itm.of
    split
    ·exact .inr rfl
    ·exact .inl rfl
   ·exact SignOK.itemsL m x hx
theorem SignOK.items (l:List Tok):SignOK (itemsR l).1:=by
 unfold itemsR
 split
 ·exact fun x hx=>(by cases hx)
 ·split
  ·exact fun x hx=>(by cases hx)
  ·exact SignOK.itemsL l
theorem SignOK.nil:SignOK []:=fun x hx=>(by cases hx)
theorem readT_sign (l:List Iv) (b:Int) (first:Bool):SignOK (readT l b first).1.px∧SignOK (readT l b first).1.sx:=by
 have i1:=SignOK.items (plainT (cutT l b).1.p)
 have i2:=SignOK.items (plainT (cutT l b).1.s)
 unfold readT
 split
 ·exact ⟨SignOK.nil,SignOK.nil⟩
 ·split
  ·exact ⟨SignOK.nil,SignOK.nil⟩
  ·split
   ·exact ⟨SignOK.nil,SignOK.nil⟩
   ·split
    ·exact ⟨SignOK.nil,SignOK.nil⟩
    ·split
     ·exact ⟨SignOK.nil,SignOK.nil⟩
     ·exact ⟨i1,i2⟩
def allI (p:Pat):List Itm:=p.pre++p.suf++p.npre++p.nsuf
theorem bothH_cnt {p:Pat} (h:SignOK (allI p)):bothH p=(decide (0<cntK 4 (allI p)) && decide (0<cntK 5 (allI p))):=by
 unfold bothH
 rw [← hasItm_cnt (by decide) h,← hasItm_cnt (by decide) h]; rfl
theorem cmP_sign (s:List UInt8):SignOK (allI (cmP s)):=by
 have h:SignOK (rd1 s).1.px∧SignOK (rd1 s).1.sx:=readT_sign _ _ _
 exact ((h.1.app h.2).app (fun x hx=>by
  rcases List.mem_cons.1 hx with hx | hx
  ·subst hx; exact .inr rfl
  ·exact h.1 x hx)).app h.2
theorem cmQ_sign (s:List UInt8):SignOK (allI (cmQ s)):=by
 have h:SignOK (rd1 s).1.px∧SignOK (rd1 s).1.sx:=readT_sign _ _ _
 have k:SignOK (rd2 s).1.px∧SignOK (rd2 s).1.sx:=readT_sign _ _ _
 exact ((h.1.app h.2).app k.1).app k.2
theorem C7.none {s:List UInt8} (h:C7 s):(elE (scanT s).1).2=none:=by
 cases hp:(elE (scanT s).1).2 with
 | none=>rfl
 | some p =>
  have:=h.h2
  rw [elR_some hp] at this
  exact absurd this (show ¬ (7:Int)=0 by decide)
theorem C7.cm {s:List UInt8} (h:C7 s):cmL s=eL (els s):=(elR_none h.none).2
theorem C7.sem {s:List UInt8} (h:C7 s):aheadN (cmL s)=semA s:=by rw [h.cm]; rfl
theorem C7.of {s:List UInt8} (h1:(scanT s).2.1=0) (h2:(elE (scanT s).1).2=Option.none):C7 s:=⟨h1,(elR_none h2).1⟩
theorem els_len (s:List UInt8):(els s).length≤400:=by
 obtain ⟨h1,h2,h3,h4,h5⟩:=scanT_in s
 exact Nat.le_trans (elE_iv (scanT s).1.length (scanT s).1 (Nat.le_refl _)).2.2 h4
theorem els_in {s:List UInt8} (h:C7 s):EP (fun x=>0≤x∧x<(s.length:Int)) (eL (els s)):=by
 rw [← h.cm]; exact (elems_in s).1
theorem semA_le (s:List UInt8):semA s≤(els s).length:=by
 have h:semA s≤(eL (els s)).length:=List.findIdx_le_length
 rwa [eL_len] at h
theorem semA_at {s:List UInt8} (h:semA s<(els s).length):isIn [59] ((eL (els s)).getD (semA s) default)=true:=by
 have h':(eL (els s)).findIdx (isIn [59])<(eL (els s)).length:=by rw [eL_len]; exact h
 have:=List.findIdx_getElem (w:=h')
 rw [List.getD_eq_getElem?_getD,List.getElem?_eq_getElem (show semA s<(eL (els s)).length from h')]
 exact this
theorem semA_before {s:List UInt8} {j:Nat} (h:j<semA s):isIn [59] ((eL (els s)).getD j default)=false:=by
 have hl:j<(eL (els s)).length:=by rw [eL_len]; exact Nat.lt_of_lt_of_le h (semA_le s)
 have h':j<(eL (els s)).findIdx (isIn [59]):=h
 have:=List.not_of_lt_findIdx h'
 rw [List.getD_eq_getElem?_getD,List.getElem?_eq_getElem hl]
 simpa using this
def S18.zero {s:List UInt8} (c:C7 s):S18 s:=⟨0,c,Nat.zero_le _,fun j _ h2=>absurd h2 (Nat.not_lt_zero _)⟩
theorem S18.zero_sem {s:List UInt8} (c:C7 s) : -1=(S18.zero c).sem:=by
 unfold S18.sem; exact (if_pos (Nat.zero_le _)).symm
def S18.on {s:List UInt8} (x:S18 s) (h:x.i<(els s).length) (hf:isIn [59] ((eL (els s)).getD x.i default)=false):S18 s :=
 ⟨x.i+1,x.ok,h,fun j h1 h2=>by
  rcases Nat.lt_succ_iff_lt_or_eq.1 h2 with h3 | h3
  ·exact x.one j h1 h3
  ·rw [h3]; exact hf⟩
theorem S18.on_sem {s:List UInt8} (x:S18 s) (h:x.i<(els s).length) (hf:isIn [59] ((eL (els s)).getD x.i default)=false):x.sem=(x.on h hf).sem:=by
 have hne:x.i≠semA s:=fun he=>by
  rw [he] at hf h
  rw [semA_at h] at hf; cases hf
 unfold S18.sem
 show _=if x.i+1≤semA s then _ else _
 split<;>split<;>omega
theorem S18.first {s:List UInt8} (x:S18 s) (h:x.i<(els s).length) (hf:isIn [59] ((eL (els s)).getD x.i default)=true) (hs:¬ x.sem≥0):x.i=semA s:=by
 rcases Nat.lt_trichotomy x.i (semA s) with h1 | h1 | h1
 ·rw [semA_before h1] at hf; cases hf
 ·exact h1
 ·exact absurd (by unfold S18.sem; rw [if_neg (by omega)]; omega) hs
def S18.fst {s:List UInt8} (x:S18 s) (h:x.i<(els s).length) (he:x.i=semA s):S18 s :=
 ⟨x.i+1,x.ok,h,fun j h1 h2=>by omega⟩
theorem S18.fst_sem {s:List UInt8} (x:S18 s) (h:x.i<(els s).length) (he:x.i=semA s):(x.i:Int)=(x.fst h he).sem:=by
 unfold S18.sem
 show _=if x.i+1≤semA s then _ else _
 rw [if_neg (by omega)]; omega
theorem behind_eq {s:List UInt8} (h:C7 s):behindL (cmL s)=(eL (els s)).drop (semA s+1):=by
 unfold behindL
 rw [h.sem,h.cm,eL_len]
 by_cases hh:semA s+1≤(els s).length
 ·rw [Nat.min_eq_left hh]
 ·rw [List.drop_of_length_le (by rw [eL_len]; omega),List.drop_of_length_le (by rw [eL_len]; omega)]
theorem S18.twice {s:List UInt8} (x:S18 s) (h:x.i<(els s).length) (hf:isIn [59] ((eL (els s)).getD x.i default)=true) (hs:x.sem≥0):compileT s=(p0,4,((els s).getD x.i default).p):=by
 have h1:semA s<x.i:=by
  unfold S18.sem at hs
  split at hs
  ·exact absurd hs (by decide)
  ·omega
 have hb:=behind_eq x.ok
 have hl:(behindL (cmL s)).length=(els s).length-(semA s+1):=by rw [hb,List.length_drop,eL_len]
 have ha:aheadN (behindL (cmL s))=x.i-(semA s+1):=by
  have g:∀ j,(behindL (cmL s)).getD j default=(eL (els s)).getD (semA s+1+j) default:=fun j=>by
   rw [hb,List.getD_eq_getElem?_getD,List.getD_eq_getElem?_getD,List.getElem?_drop]
  have hlt:x.i-(semA s+1)<(behindL (cmL s)).length:=by rw [hl]; omega
  have e1:isIn [59] ((behindL (cmL s))[x.i-(semA s+1)])=true:=by
   have:=g (x.i-(semA s+1))
   rw [show semA s+1+(x.i-(semA s+1))=x.i by omega] at this
   rw [List.getD_eq_getElem?_getD,List.getElem?_eq_getElem hlt] at this
   rw [← hf,← this]; rfl
  refine Nat.le_antisymm (Nat.le_of_not_lt fun hx=>?_) (Nat.le_of_not_lt fun hx=>?_)
  ·have hx:x.i-(semA s+1)<(behindL (cmL s)).findIdx (isIn [59]):=hx
   have:=List.not_of_lt_findIdx hx
   rw [e1] at this; exact absurd this (by decide)
  have hlt2:aheadN (behindL (cmL s))<(behindL (cmL s)).length:=Nat.lt_trans hx hlt
  have e2:isIn [59] ((behindL (cmL s)).getD (aheadN (behindL (cmL s))) default)=true:=by
   have:=List.findIdx_getElem (w:=hlt2)
   rw [List.getD_eq_getElem?_getD,List.getElem?_eq_getElem hlt2]
   exact this
  rw [g,x.one _ (by omega) (by omega)] at e2
  cases e2
 have hlt:aheadN (behindL (cmL s))<(behindL (cmL s)).length:=by rw [ha,hl]; omega
 rw [compile_semi x.ok hlt]
 have:((behindL (cmL s)).getD (aheadN (behindL (cmL s))) default).at_=((els s).getD x.i default).p:=by
  rw [ha,hb,List.getD_eq_getElem?_getD,List.getElem?_drop,← List.getD_eq_getElem?_getD,show semA s+1+(x.i-(semA s+1))=x.i by omega,eL_get h,iv_at]
 rw [this]
theorem S18.done {s:List UInt8} (x:S18 s) (h:¬ x.i<(els s).length):C12 s∧x.sem=semZ s:=by
 have hi:x.i=(els s).length:=Nat.le_antisymm x.le (Nat.le_of_not_lt h)
 refine ⟨⟨x.ok,fun hlt=>?_⟩,?_⟩
 ·have hb:=behind_eq x.ok
  have e2:isIn [59] ((behindL (cmL s)).getD (aheadN (behindL (cmL s))) default)=true:=by
   have:=List.findIdx_getElem (w:=hlt)
   rw [List.getD_eq_getElem?_getD,List.getElem?_eq_getElem hlt]
   exact this
  have hl:(behindL (cmL s)).length=(els s).length-(semA s+1):=by rw [hb,List.length_drop,eL_len]
  rw [show (behindL (cmL s)).getD (aheadN (behindL (cmL s))) default=(eL (els s)).getD (semA s+1+aheadN (behindL (cmL s))) default by
   conv=>lhs; arg 1; rw [hb]
   rw [List.getD_eq_getElem?_getD,List.getD_eq_getElem?_getD,List.getElem?_drop],x.one _ (by omega) (by omega)] at e2
  cases e2
 ·have:=semA_le s
  unfold S18.sem semZ
  rw [hi]
  split<;>split<;>omega
theorem h1_eq {s:List UInt8} (h:C7 s):readT (eL ((els s).take (semA s))) 0 true=rd1 s:=by
 unfold rd1
 rw [h.sem,h.cm]; unfold eL; rw [List.map_take]
theorem h2_eq {s:List UInt8} (h:C7 s) (hs:semA s<(els s).length):readT (eL ((els s).drop (semA s+1))) (((els s).getD (semA s) default).p+1) false=rd2 s:=by
 unfold rd2
 rw [behind_eq h,h.sem]
 conv=>rhs; rw [h.cm,eL_get hs,iv_at]
 unfold eL; rw [List.map_drop]
def SpOK (x:Spot):Prop:=0≤x.w∧(x.w=0→x.r=0)
theorem spotsE_w (N E n:Nat):∀ (l:List Iv) (i:Nat),∀ x∈spotsE N E n i l,0≤x.w:=by
 intro l
 induction l with
 | nil=>intro i x hx; cases hx
 | cons y l ih =>
  intro i x hx
  unfold spotsE at hx
  rcases List.mem_append.1 hx with hx | hx
  ·split at hx
   ·rw [List.mem_singleton] at hx
    subst hx
    show 0≤posAt N E n i
    unfold posAt
    repeat' split
    all_goals omega
   ·cases hx
  ·exact ih (i+1) x hx
theorem hSp_ok (l:List Elm) (first:Bool):SpOK (hSp l first).1:=by
 have h:=spotsE_w (hN l) (hE l) l.length (eL l) 0
 unfold hSp
 generalize spotsE (hN l) (hE l) l.length 0 (eL l)=L at h
 unfold paddedT SpOK
 split
 ·exact ⟨Int.le_refl _,fun _=>rfl⟩
 ·rename_i x m
  split
  ·exact ⟨Int.le_refl _,fun _=>rfl⟩
  ·rename_i hx
   cases m with
   | nil=>exact ⟨h x (by simp),fun h0=>absurd (.inl h0) hx⟩
   | cons y m=>exact ⟨Int.le_refl _,fun _=>rfl⟩
structure HOK (h:HF) (t:PT):Prop where
 px:h.px=t.px
 sx:h.sx=t.sx
 n:h.n=t.n
 w:h.w=t.sp.w
 r:h.r=t.sp.r
 tw:t.w=if t.sp.w≠0 then (t.px.length:Int)+(t.sx.length:Int)+h.k else 0
 ok:SpOK t.sp
 k0:0≤h.k
 k1:h.k≤4*1000
theorem half_ok {l:List Elm} {b:Int} {first:Bool} (hl:l.length≤1000) (h:(readT (eL l) b first).2.1=0):HOK (halfH l b first) (readT (eL l) b first).1:=by
 have hk:((hT l).length:Int)≤4*1000:=by
  have:=(encs_len (List.map Iv.sR (((eL l).take (hE l)).drop (hN l)))).2
  rw [List.length_map,List.length_drop,List.length_take,eL_len] at this
  have:(hT l).length≤_:=this
  omega
 have e:halfH l b first=⟨(readT (eL l) b first).1.px,(readT (eL l) b first).1.sx,(readT (eL l) b first).1.n,(readT (eL l) b first).1.sp.w,(readT (eL l) b first).1.sp.r,(hT l).length⟩:=by
  unfold halfH; rw [if_pos h]
 by_cases hlt:hN l<l.length
 ·have ok:=hSp_ok l first
  have hr:=rt_some b first hlt
  have:(readT (eL l) b first).1.w=(if (readT (eL l) b first).1.sp.w≠0 then ((readT (eL l) b first).1.px.length:Int)+((readT (eL l) b first).1.sx.length:Int)+((hT l).length:Int) else 0)∧SpOK (readT (eL l) b first).1.sp:=by
   revert h
   rw [hr]
   split
   ·exact fun h0=>absurd h0 (by assumption)
   ·split
    ·exact fun h0=>absurd h0 (by assumption)
    ·split
     ·exact fun h0=>absurd h0 (by assumption)
     ·split
      ·exact fun h0=>absurd h0 (by assumption)
      ·exact fun _=>⟨rfl,ok⟩
  rw [e]
  exact ⟨rfl,rfl,rfl,rfl,rfl,this.1,this.2,by show (0:Int)≤((hT l).length:Int); omega,hk⟩
 ·rw [rt_none b first hlt] at h
  exact absurd h (show ¬ (4:Int)=0 by decide)
theorem h1_ok {s:List UInt8} (h:C16 s):HOK (h1 s) (rd1 s).1:=by
 have e:=h1_eq h.toC7
 rw [← e]
 refine half_ok ?_ (by rw [e]; exact h.h4)
 have:=els_len s
 rw [List.length_take]; omega
theorem cmP_of {s:List UInt8} (h:C16 s):cmP s=⟨(h1 s).px,(h1 s).sx,false,⟨2,0⟩ :: (h1 s).px,(h1 s).sx,(h1 s).n,(h1 s).w,(h1 s).r,if 0<(h1 s).w then ((h1 s).px.length:Int)+((h1 s).sx.length:Int)+(h1 s).k else 0⟩:=by
 obtain ⟨q1,q2,q3,q4,q5,q6,q7,_,_⟩:=h1_ok h
 have e:(if 0<(h1 s).w then ((h1 s).px.length:Int)+((h1 s).sx.length:Int)+(h1 s).k else 0)=(rd1 s).1.w:=by
  rw [q6,q4,q1,q2]
  have:=q7.1
  by_cases h0:(rd1 s).1.sp.w=0
  ·rw [if_neg (by omega),if_neg (by omega)]
  ·rw [if_pos (by omega),if_pos h0]
 rw [e,q1,q2,q3,q4,q5]; rfl
theorem tailP {s:List UInt8} {p:Pat} (hs:SignOK (allI p)) (e:compileT s=if bothH p=true then (p0,6,0) else (p,0,0)) {A B C D:Prop}
  (hA:A) (hB:compileT s=(p0,6,0)→B) (hC:compileT s=(p,0,0)→C) (hD:compileT s=(p,0,0)→D) :
  br (decide (((cntK 4 (allI p):Nat):Int)>0)) (A∧br (decide (((cntK 5 (allI p):Nat):Int)>0)) B C) D:=by
 have b:=bothH_cnt hs
 refine br_of (fun h4=>⟨hA,br_of (fun h5=>hB ?_) fun h5=>hC ?_⟩) fun h4=>hD ?_
 ·have h4:=of_decide_eq_true h4
  have h5:=of_decide_eq_true h5
  rw [e,if_pos]
  rw [b,decide_eq_true (by omega),decide_eq_true (by omega)]; rfl
 ·have h5:=of_decide_eq_false h5
  rw [e,if_neg]
  rw [b,decide_eq_false (p:=0<cntK 5 (allI p)) (by omega)]; simp
 ·have h4:=of_decide_eq_false h4
  rw [e,if_neg]
  rw [b,decide_eq_false (p:=0<cntK 4 (allI p)) (by omega)]; simp
set_option maxHeartbeats 8000000 in
theorem ok_r3compB:FnP 15 sp_r3compB:=of_r3compB (by
 intro s hs hsem
 rw [vc_r3compB]
 obtain ⟨k1,k2,k3,k4,k5⟩:=scanT_in s
 have hel:=els_len s
 have hZ:semZ s = -1:=if_neg hsem
 have htk:(els s).take (semA s)=els s:=List.take_of_length_le (by omega)
 have eh:halfH (els s) 0 true=h1 s:=by unfold h1; rw [htk]
 refine ⟨by omega,br_of (fun h=>?_) fun h=>⟨⟨⟨EE.zero _,?_⟩,fun x=>br_of (fun hn=>?_) fun hn=>⟨⟨?_⟩,?_⟩⟩,fun j7=>⟨⟨⟨S18.zero j7.down,S18.zero_sem _,?_⟩,fun x=>br_of (fun hn=>?_) fun hn=>⟨⟨(x.done ?_).1⟩,(x.done ?_).2,?_⟩⟩,fun j12=>⟨⟨by rw [hZ]; rfl,j12,?_⟩,fun _=>⟨⟨(els_in j12.down.toC7).eok,by omega,j12,?_⟩,fun _=>br_of (fun h=>?_) fun h=>?_⟩⟩⟩⟩⟩
 ·have h:(scanT s).2.1≠0:=by simpa using h
  rw [compile_scan h]; and_intros<;>rfl
 ·and_intros<;>rfl
 ·have g1:(scanT s).2.1=0:=by simpa using h
  have hn:x.n<(scanT s).1.length:=Int.ofNat_lt.1 (of_decide_eq_true hn)
  have hf:=x.few
  rw [Int.toNat_natCast]
  refine ⟨⟨by omega,by omega⟩,hn,br_of (fun hst=>⟨by simp only [inR]; omega,br_of (fun he=>?_) fun he=>?_⟩) fun hst=>⟨⟨hn,fun h'=>?_⟩,?_⟩,fun j=>?_⟩
  ·have he:x.n+1=(scanT s).1.length:=by have:=eq_of_beq he; omega
   have:=elR_some (x.last hn hst he)
   rw [compile_elems g1 (by rw [this]; exact (show ¬ (7:Int)=0 by decide)),this]
   and_intros<;>rfl
  ·have he:x.n+1<(scanT s).1.length:=by
    have:¬ ((x.n:Int)+1=(scanT s).1.length):=fun h'=>by rw [beq_iff_eq.2 h'] at he; cases he
    omega
   have hst:isStar ((scanT s).1.getD x.n default)=true:=hst
   have e1:Int.toNat ((x.n:Int)+1)=x.n+1:=by omega
   rw [e1]
   refine ⟨by simp only [inR]; omega,⟨by omega,by omega⟩,he,by simp only [inR]; omega,⟨⟨hn,fun _=>he⟩⟩,?_⟩
   rw [hst]
   and_intros<;>rfl
  ·have hst:isStar ((scanT s).1.getD x.n default)=false:=hst
   rw [hst] at h'; cases h'
  ·have hst:isStar ((scanT s).1.getD x.n default)=false:=hst
   rw [hst]
   and_intros<;>rfl
  ·cases hst:isStar ((scanT s).1.getD x.n default) with
   | true =>
    have h2:=j.down.2 hst
    refine ⟨by omega,?_,x.two h2 hst,?_,?_⟩
    ·rw [if_pos rfl]; simp only [inR]; omega
    ·and_intros
     all_goals first | rfl | (show (x.n:Int)+1+1=((x.n+2:Nat):Int); omega)
    ·show _-(x.n+2)<_; omega
   | false =>
    refine ⟨by omega,?_,x.one hn hst,?_,?_⟩
    ·rw [if_neg (by decide)]; simp only [inR]; omega
    ·and_intros
     all_goals first | rfl | (show (x.n:Int)+1=((x.n+1:Nat):Int); omega)
    ·show _-(x.n+1)<_; omega
 ·have g1:(scanT s).2.1=0:=by simpa using h
  have hn:¬ x.n<(scanT s).1.length:=fun h'=>of_decide_eq_false hn (Int.ofNat_lt.2 h')
  have e:=x.fin2
  rw [List.drop_of_length_le (by omega)] at e
  exact C7.of g1 e.symm
 ·have hn:¬ x.n<(scanT s).1.length:=fun h'=>of_decide_eq_false hn (Int.ofNat_lt.2 h')
  have e:=x.fin1
  rw [List.drop_of_length_le (by omega)] at e
  have e:x.ps=els s:=by rw [← List.append_nil x.ps]; exact e
  rw [e]
  and_intros<;>rfl
 ·and_intros<;>rfl
 ·have hn:x.i<(els s).length:=Int.ofNat_lt.1 (of_decide_eq_true hn)
  rw [Int.toNat_natCast]
  refine ⟨⟨by omega,by omega⟩,hn,br_of (fun hst=>br_of (fun hp=>⟨⟨by omega,by omega⟩,hn,?_⟩) fun hp=>⟨by simp only [inR]; omega,x.fst hn ?_,⟨x.fst_sem hn ?_,?_⟩,?_⟩) fun hst=>⟨by simp only [inR]; omega,x.on hn ?_,⟨x.on_sem hn ?_,?_⟩,?_⟩⟩
  all_goals have hi:=plain_iv ((els s).getD x.i default) 59
  all_goals rw [← eL_get hn] at hi
  ·rw [x.twice hn (hi.trans hst) (of_decide_eq_true hp)]
   and_intros<;>rfl
  ·exact x.first hn (hi.trans hst) (of_decide_eq_false hp)
  ·exact x.first hn (hi.trans hst) (of_decide_eq_false hp)
  ·and_intros<;>rfl
  ·show _-(x.i+1)<_; omega
  ·exact hi.trans hst
  ·exact hi.trans hst
  ·and_intros<;>rfl
  ·show _-(x.i+1)<_; omega
 ·exact fun h'=>of_decide_eq_false hn (Int.ofNat_lt.2 h')
 ·exact fun h'=>of_decide_eq_false hn (Int.ofNat_lt.2 h')
 ·and_intros<;>rfl
 ·and_intros<;>rfl
 ·have e:=h1_eq j12.down.toC7
  rw [htk] at e
  rw [eh,e]
  and_intros<;>rfl
 ·have h:(rd1 s).2.1≠0:=by simpa using h
  rw [compile_r1 j12.down h]; and_intros<;>rfl
 ·have g4:(rd1 s).2.1=0:=by simpa using h
  have g16:C16 s:=⟨j12.down,g4⟩
  have h5:¬ aheadN (cmL s)<(cmL s).length:=by rw [g16.sem,g16.cm,eL_len]; exact hsem
  have hc:=compile_one g16 h5
  have hP:=cmP_of g16
  obtain ⟨q1,q2,q3,q4,q5,q6,q7,q8,q9⟩:=h1_ok g16
  have l1:(rd1 s).1.px.length≤40∧(rd1 s).1.sx.length≤40:=readT_len _ _ _
  rw [← q1,← q2] at l1
  have small:(cmP s).pre.length≤1000000∧(cmP s).suf.length≤1000000∧(cmP s).npre.length≤1000000∧(cmP s).suf.length≤1000000:=by
   rw [hP]
   refine ⟨?_,?_,?_,?_⟩
   ·show (h1 s).px.length≤_; omega
   ·show (h1 s).sx.length≤_; omega
   ·show (h1 s).px.length+1≤_; omega
   ·show (h1 s).sx.length≤_; omega
  have tail:=fun {A B C D:Prop}=>@tailP s (cmP s) (cmP_sign s) hc A B C D
  refine br_of (fun hw=>⟨by simp only [inR]; omega,by simp only [inR]; omega,by omega,⟨⟨g16⟩,?_⟩,fun j16=>⟨by rw [hZ]; rfl,small,tail small ?_ ?_ ?_⟩⟩) fun hw=>⟨by omega,⟨⟨g16⟩,?_⟩,fun j16=>⟨by rw [hZ]; rfl,small,tail small ?_ ?_ ?_⟩⟩
  ·have hw:=of_decide_eq_true hw
   rw [if_pos hw] at hP
   rw [hP]
   and_intros<;>rfl
  ·intro e; rw [e]; and_intros<;>rfl
  ·intro e; rw [e]; and_intros<;>rfl
  ·intro e; rw [e]; and_intros<;>rfl
  ·have hw:=of_decide_eq_false hw
   have w0:(h1 s).w=0:=by have:=q7.1; omega
   have r0:(h1 s).r=0:=by rw [q5]; exact q7.2 (by omega)
   rw [if_neg (by omega),w0,r0] at hP
   rw [hP]
   try rw [w0]
   try rw [r0]
   and_intros<;>rfl
  ·intro e; rw [e]; and_intros<;>rfl
  ·intro e; rw [e]; and_intros<;>rfl
  ·intro e; rw [e]; and_intros<;>rfl)
theorem EP.take' {P:Int→Prop} {l:List Elm} (h:EP P (eL l)) (n:Nat):EP P (eL (l.take n)):=by
 unfold eL; rw [List.map_take]; exact h.take n
theorem EP.drop' {P:Int→Prop} {l:List Elm} (h:EP P (eL l)) (n:Nat):EP P (eL (l.drop n)):=by
 unfold eL; rw [List.map_drop]; exact h.drop n
theorem h2_ok {s:List UInt8} (h:C18 s) (r2:(rd2 s).2.1=0):(h2 s).px=(rd2 s).1.px∧(h2 s).sx=(rd2 s).1.sx:=by
 have hs:semA s<(els s).length:=by
  have:=h.h5
  rw [h.sem,h.cm,eL_len] at this; exact this
 have e:=h2_eq h.toC7 hs
 rw [← e] at r2 ⊢
 have hel:=els_len s
 have k:=half_ok (by rw [List.length_drop]; omega) r2
 exact ⟨k.px,k.sx⟩
set_option maxHeartbeats 8000000 in
theorem ok_r3compA:FnP 15 sp_r3compA:=of_r3compA (by
 intro s hs hsem
 rw [vc_r3compA]
 obtain ⟨k1,k2,k3,k4,k5⟩:=scanT_in s
 have hel:=els_len s
 have hZ:semZ s=(semA s:Int):=if_pos hsem
 have t2:Int.toNat (semZ s)=semA s:=by rw [hZ]; omega
 have t3:Int.toNat (semZ s+1)=semA s+1:=by rw [hZ]; omega
 have dz:decide (semZ s≥0)=true:=decide_eq_true (by omega)
 refine ⟨by omega,br_of (fun h=>?_) fun h=>⟨⟨⟨EE.zero _,?_⟩,fun x=>br_of (fun hn=>?_) fun hn=>⟨⟨?_⟩,?_⟩⟩,fun j7=>⟨⟨⟨S18.zero j7.down,S18.zero_sem _,?_⟩,fun x=>br_of (fun hn=>?_) fun hn=>⟨⟨(x.done ?_).1⟩,(x.done ?_).2,?_⟩⟩,fun j12=>⟨⟨dz,⟨by omega,by omega⟩,j12,?_⟩,fun _=>⟨⟨((els_in j12.down.toC7).take' _).eok,by rw [List.length_take]; omega,j12,?_⟩,fun _=>br_of (fun h=>?_) fun h=>?_⟩⟩⟩⟩⟩
 ·have h:(scanT s).2.1≠0:=by simpa using h
  rw [compile_scan h]; and_intros<;>rfl
 ·and_intros<;>rfl
 ·have g1:(scanT s).2.1=0:=by simpa using h
  have hn:x.n<(scanT s).1.length:=Int.ofNat_lt.1 (of_decide_eq_true hn)
  have hf:=x.few
  rw [Int.toNat_natCast]
  refine ⟨⟨by omega,by omega⟩,hn,br_of (fun hst=>⟨by simp only [inR]; omega,br_of (fun he=>?_) fun he=>?_⟩) fun hst=>⟨⟨hn,fun h'=>?_⟩,?_⟩,fun j=>?_⟩
  ·have he:x.n+1=(scanT s).1.length:=by have:=eq_of_beq he; omega
   have:=elR_some (x.last hn hst he)
   rw [compile_elems g1 (by rw [this]; exact (show ¬ (7:Int)=0 by decide)),this]
   and_intros<;>rfl
  ·have he:x.n+1<(scanT s).1.length:=by
    have:¬ ((x.n:Int)+1=(scanT s).1.length):=fun h'=>by rw [beq_iff_eq.2 h'] at he; cases he
    omega
   have hst:isStar ((scanT s).1.getD x.n default)=true:=hst
   have e1:Int.toNat ((x.n:Int)+1)=x.n+1:=by omega
   rw [e1]
   refine ⟨by simp only [inR]; omega,⟨by omega,by omega⟩,he,by simp only [inR]; omega,⟨⟨hn,fun _=>he⟩⟩,?_⟩
   rw [hst]
   and_intros<;>rfl
  ·have hst:isStar ((scanT s).1.getD x.n default)=false:=hst
   rw [hst] at h'; cases h'
  ·have hst:isStar ((scanT s).1.getD x.n default)=false:=hst
   rw [hst]
   and_intros<;>rfl
  ·cases hst:isStar ((scanT s).1.getD x.n default) with
   | true =>
    have h2:=j.down.2 hst
    refine ⟨by omega,?_,x.two h2 hst,?_,?_⟩
    ·rw [if_pos rfl]; simp only [inR]; omega
    ·and_intros
     all_goals first | rfl | (show (x.n:Int)+1+1=((x.n+2:Nat):Int); omega)
    ·show _-(x.n+2)<_; omega
   | false =>
    refine ⟨by omega,?_,x.one hn hst,?_,?_⟩
    ·rw [if_neg (by decide)]; simp only [inR]; omega
    ·and_intros
     all_goals first | rfl | (show (x.n:Int)+1=((x.n+1:Nat):Int); omega)
    ·show _-(x.n+1)<_; omega
 ·have g1:(scanT s).2.1=0:=by simpa using h
  have hn:¬ x.n<(scanT s).1.length:=fun h'=>of_decide_eq_false hn (Int.ofNat_lt.2 h')
  have e:=x.fin2
  rw [List.drop_of_length_le (by omega)] at e
  exact C7.of g1 e.symm
 ·have hn:¬ x.n<(scanT s).1.length:=fun h'=>of_decide_eq_false hn (Int.ofNat_lt.2 h')
  have e:=x.fin1
  rw [List.drop_of_length_le (by omega)] at e
  have e:x.ps=els s:=by rw [← List.append_nil x.ps]; exact e
  rw [e]
  and_intros<;>rfl
 ·and_intros<;>rfl
 ·have hn:x.i<(els s).length:=Int.ofNat_lt.1 (of_decide_eq_true hn)
  rw [Int.toNat_natCast]
  refine ⟨⟨by omega,by omega⟩,hn,br_of (fun hst=>br_of (fun hp=>⟨⟨by omega,by omega⟩,hn,?_⟩) fun hp=>⟨by simp only [inR]; omega,x.fst hn ?_,⟨x.fst_sem hn ?_,?_⟩,?_⟩) fun hst=>⟨by simp only [inR]; omega,x.on hn ?_,⟨x.on_sem hn ?_,?_⟩,?_⟩⟩
  all_goals have hi:=plain_iv ((els s).getD x.i default) 59
  all_goals rw [← eL_get hn] at hi
  ·rw [x.twice hn (hi.trans hst) (of_decide_eq_true hp)]
   and_intros<;>rfl
  ·exact x.first hn (hi.trans hst) (of_decide_eq_false hp)
  ·exact x.first hn (hi.trans hst) (of_decide_eq_false hp)
  ·and_intros<;>rfl
  ·show _-(x.i+1)<_; omega
  ·exact hi.trans hst
  ·exact hi.trans hst
  ·and_intros<;>rfl
  ·show _-(x.i+1)<_; omega
 ·exact fun h'=>of_decide_eq_false hn (Int.ofNat_lt.2 h')
 ·exact fun h'=>of_decide_eq_false hn (Int.ofNat_lt.2 h')
 ·and_intros<;>rfl
 ·rw [t2]
  and_intros<;>rfl
 ·rw [h1_eq j12.down.toC7]
  and_intros<;>rfl
 ·have h:(rd1 s).2.1≠0:=by simpa using h
  rw [compile_r1 j12.down h]; and_intros<;>rfl
 ·have g4:(rd1 s).2.1=0:=by simpa using h
  have g16:C16 s:=⟨j12.down,g4⟩
  have h5:aheadN (cmL s)<(cmL s).length:=by rw [g16.sem,g16.cm,eL_len]; exact hsem
  have g18:C18 s:=⟨g16,h5⟩
  have hP:=cmP_of g16
  obtain ⟨q1,q2,q3,q4,q5,q6,q7,q8,q9⟩:=h1_ok g16
  have l1:(rd1 s).1.px.length≤40∧(rd1 s).1.sx.length≤40:=readT_len _ _ _
  have l2:(rd2 s).1.px.length≤40∧(rd2 s).1.sx.length≤40:=readT_len _ _ _
  rw [← q1,← q2] at l1
  have small:(cmP s).pre.length≤1000000∧(cmP s).suf.length≤1000000∧(rd2 s).1.px.length≤1000000∧(rd2 s).1.sx.length≤1000000:=by
   refine ⟨?_,?_,by omega,by omega⟩
   ·rw [hP]; show (h1 s).px.length≤_; omega
   ·rw [hP]; show (h1 s).sx.length≤_; omega
  refine br_of (fun hw=>⟨by simp only [inR]; omega,by simp only [inR]; omega,by omega,⟨⟨g16⟩,?_⟩,fun j16=>?_⟩) fun hw=>⟨by omega,⟨⟨g16⟩,?_⟩,fun j16=>?_⟩
  ·have hw:=of_decide_eq_true hw
   rw [if_pos hw] at hP
   rw [hP]
   and_intros<;>rfl
  ·rw [t2,t3,List.take_length]
   refine ⟨dz,⟨by simp only [inR]; omega,⟨by omega,by omega⟩,⟨by omega,by omega⟩,hsem,?_,?_,by rw [List.length_drop]; omega,⟨g18⟩,?_⟩,fun _=>br_of (fun h=>?_) fun h=>?_⟩
   ·have:=((els_in g16.toC7).get (n:=semA s) (by rw [eL_len]; exact hsem))
    rw [eL_get hsem,iv_at] at this
    simp only [inR]; omega
   ·exact ((els_in g16.toC7).drop' _).eok
   ·rw [h2_eq g16.toC7 hsem]
    and_intros<;>rfl
   ·have h:(rd2 s).2.1≠0:=by simpa using h
    rw [compile_r2 g18 h]; and_intros<;>rfl
   ·have r2:(rd2 s).2.1=0:=by simpa using h
    obtain ⟨u1,u2⟩:=h2_ok g18 r2
    rw [u1,u2]
    refine ⟨small,tailP (cmQ_sign s) (compile_two g18 r2) small ?_ ?_ ?_⟩
    ·intro e; rw [e]; and_intros<;>rfl
    ·intro e; rw [e]; and_intros<;>rfl
    ·intro e; rw [e]; and_intros<;>rfl
  ·have hw:=of_decide_eq_false hw
   have w0:(h1 s).w=0:=by have:=q7.1; omega
   have r0:(h1 s).r=0:=by rw [q5]; exact q7.2 (by omega)
   rw [if_neg (by omega),w0,r0] at hP
   rw [hP]
   try rw [w0]
   try rw [r0]
   and_intros<;>rfl
  ·rw [t2,t3,List.take_length]
   refine ⟨dz,⟨by simp only [inR]; omega,⟨by omega,by omega⟩,⟨by omega,by omega⟩,hsem,?_,?_,by rw [List.length_drop]; omega,⟨g18⟩,?_⟩,fun _=>br_of (fun h=>?_) fun h=>?_⟩
   ·have:=((els_in g16.toC7).get (n:=semA s) (by rw [eL_len]; exact hsem))
    rw [eL_get hsem,iv_at] at this
    simp only [inR]; omega
   ·exact ((els_in g16.toC7).drop' _).eok
   ·rw [h2_eq g16.toC7 hsem]
    and_intros<;>rfl
   ·have h:(rd2 s).2.1≠0:=by simpa using h
    rw [compile_r2 g18 h]; and_intros<;>rfl
   ·have r2:(rd2 s).2.1=0:=by simpa using h
    obtain ⟨u1,u2⟩:=h2_ok g18 r2
    rw [u1,u2]
    refine ⟨small,tailP (cmQ_sign s) (compile_two g18 r2) small ?_ ?_ ?_⟩
    ·intro e; rw [e]; and_intros<;>rfl
    ·intro e; rw [e]; and_intros<;>rfl
    ·intro e; rw [e]; and_intros<;>rfl)
end Go.Proofs.YtglfkihckkjniaaGreatDoor.Vx
namespace Go.Proofs.YtglfkihckkjniaaGreatDoor.Vx
open Go Go.RowKit
def sp_r3comp:FSpec:=⟨[],fun | [.one (.str s)]=>some ([s.length≤1000000],.tup [(true,(compileT s).1.pcs),(true,[.int .i64 (compileT s).2.1,.int .i64 (compileT s).2.2])]) | _=>none⟩
theorem ok_r3comp:FnP 15 sp_r3comp:=by
 refine ⟨ok_r3compA.body,?_⟩
 intro pvs p r hs hp
 unfold sp_r3comp at hs
 simp only at hs
 split at hs
 ·rename_i s
  cases hs
  by_cases h:semA s<(els s).length
  ·exact ok_r3compA.calls [.one (.str s)] [s.length≤1000000,semA s<(els s).length] _ rfl ⟨hp,h⟩
  ·exact ok_r3compB.calls [.one (.str s)] [s.length≤1000000,¬ semA s<(els s).length] _ rfl ⟨hp,h⟩
 ·cases hs
theorem samePt_refl (p:Pat):samePt p p=true:=by
 unfold samePt sameN
 simp
end Go.Proofs.YtglfkihckkjniaaGreatDoor.Vx
namespace Go.Proofs.YtglfkihckkjniaaGreatDoor.Vx
open Go Go.RowKit
def sp_r3row:FSpec:=⟨[.one (.rd (.ints .i32 []))],fun | [.one (.rd (.ints .i32 l))]=>some ([Scalars l,l.length≤1000000],.one (.str (encs (rowC l)))) | _=>none⟩
theorem vc_r3row (l:List Int):vcP [(22,sp_bytes)] [] misc Tryz.f72 (.loop 3 (Upto l) (fun i=>⟨[(0,.one (.slc 0)),(3,.one (.str (encs (dbl (l.take i.1))))),(4,.one (.bool ((l.take i.1).all fun r=>r==39))),(5,.one (.int .i64 i.1))],[(0,some (.read (.ints .i32 l)))],17⟩) (fun i=>l.length-i.1) (fun _=>.nil) .nil) [.one (.rd (.ints .i32 l))] (.one (.str (encs (rowC l))))=(((∃ (x:Upto l),Array.toList #[]=encs (dbl (List.take (Subtype.val x) l))∧(true=List.all (List.take (Subtype.val x) l) fun (r:Int)=>r==(39:Int))∧(0:Int)=(↑(Subtype.val x):Int)∧l=l)∧∀ (x:Upto l),(letI v0:=(↑(Subtype.val x):Int); letI v1:=(List.take (Subtype.val x) l); letI v2:=(Lib.encodeRuneZ (List.getD l (Int.toNat v0) (0:Int))); letI v3:=(Array.toList #[(39:UInt8)]); br (decide (v0<(↑(List.length l):Int))) (((0:Int)≤v0∧v0<(↑(List.length l):Int))∧Int.toNat v0<List.length l∧scalar (List.getD l (Int.toNat v0) (0:Int))=true∧List.length (encs (dbl v1))+List.length (List.map (fun (n:Int)=>UInt8.ofNat (Int.toNat n)) v2)≤(9223372036854775807:Nat)∧((0:Int)≤v0∧v0<(↑(List.length l):Int))∧Int.toNat v0<List.length l∧br (List.getD l (Int.toNat v0) (0:Int)==(39:Int)) (List.length (encs (dbl v1)++List.map (fun (n:Int)=>UInt8.ofNat (Int.toNat n)) v2)+List.length v3≤(9223372036854775807:Nat)∧inR IntKind.i64 (v0+(1:Int))∧∃ (x':Upto l),(encs (dbl v1)++List.map (fun (n:Int)=>UInt8.ofNat (Int.toNat n)) v2++Array.toList #[(39:UInt8)]=encs (dbl (List.take (Subtype.val x') l))∧((List.all v1 fun (r:Int)=>r==(39:Int))=List.all (List.take (Subtype.val x') l) fun (r:Int)=>r==(39:Int))∧v0+(1:Int)=(↑(Subtype.val x'):Int)∧l=l)∧List.length l-Subtype.val x'<List.length l-Subtype.val x) (inR IntKind.i64 (v0+(1:Int))∧∃ (x':Upto l),(encs (dbl v1)++List.map (fun (n:Int)=>UInt8.ofNat (Int.toNat n)) v2=encs (dbl (List.take (Subtype.val x') l))∧(false=List.all (List.take (Subtype.val x') l) fun (r:Int)=>r==(39:Int))∧v0+(1:Int)=(↑(Subtype.val x'):Int)∧l=l)∧List.length l-Subtype.val x'<List.length l-Subtype.val x)) (br (List.all v1 fun (r:Int)=>r==(39:Int)) (encs (dbl v1)=encs (rowC l)) (List.length v3+List.length (encs (dbl v1))≤(9223372036854775807:Nat)∧List.length (Array.toList #[(39:UInt8)]++encs (dbl v1))+List.length v3≤(9223372036854775807:Nat)∧Array.toList #[(39:UInt8)]++encs (dbl v1)++Array.toList #[(39:UInt8)]=encs (rowC l)))))):=by kernel_rfl
set_option maxHeartbeats 4000000 in
theorem of_r3row (h:∀ (l:List Int),(Scalars l)→(l.length≤1000000)→vcP [(22,sp_bytes)] [] misc Tryz.f72 (.loop 3 (Upto l) (fun i=>⟨[(0,.one (.slc 0)),(3,.one (.str (encs (dbl (l.take i.1))))),(4,.one (.bool ((l.take i.1).all fun r=>r==39))),(5,.one (.int .i64 i.1))],[(0,some (.read (.ints .i32 l)))],17⟩) (fun i=>l.length-i.1) (fun _=>.nil) .nil) [.one (.rd (.ints .i32 l))] (.one (.str (encs (rowC l))))):FnP 72 sp_r3row:=by
 refine fnP_ok (cs:=[(22,sp_bytes)]) (cas:=[]) (ms:=misc) (.cons ok_bytes .nil) .nil misc_ok 72 Tryz.f72 (by kernel_rfl) (by kernel_rfl) (by kernel_rfl) (fun | [.one (.rd (.ints .i32 l))]=>.loop 3 (Upto l) (fun i=>⟨[(0,.one (.slc 0)),(3,.one (.str (encs (dbl (l.take i.1))))),(4,.one (.bool ((l.take i.1).all fun r=>r==39))),(5,.one (.int .i64 i.1))],[(0,some (.read (.ints .i32 l)))],17⟩) (fun i=>l.length-i.1) (fun _=>.nil) .nil | _=>.nil) ?_
 intro pvs p r hs hp
 unfold sp_r3row at hs
 simp only at hs
 split at hs
 ·rename_i l
  cases hs
  refine h l ?_ ?_
  ·exact hp.1
  ·exact hp.2
 ·cases hs
theorem dbl_app (a b:List Int):dbl (a++b)=dbl a++dbl b:=by unfold dbl; rw [List.flatMap_append]
theorem dbl_len (w:List Int):(dbl w).length≤2*w.length:=by
 induction w with
 | nil=>exact Nat.le_refl _
 | cons r w ih=>rw [dbl_cons,List.length_append,List.length_cons]; split<;>simp<;>omega
theorem encs_dbl_len (l:List Int) (n:Nat):(encs (dbl (l.take n))).length≤8*l.length:=by
 have h1:=(encs_len (dbl (l.take n))).2
 have h2:=dbl_len (l.take n)
 rw [List.length_take] at h2
 omega
theorem ok_r3row:FnP 72 sp_r3row:=of_r3row (by
 intro l hl hn
 rw [vc_r3row]
 refine ⟨⟨⟨0,Nat.zero_le _⟩,rfl,rfl,rfl,rfl⟩,fun x=>?_⟩
 have hb:=encs_dbl_len l x.1
 refine br_of (fun h=>?_) fun h=>?_
 ·have h:x.1<l.length:=by simpa using h
  rw [Int.toNat_natCast]
  have ht:=take_next l 0 h
  have hs:scalar (l.getD x.1 0)=true:=hl _ (getD_mem' h)
  have he:(Lib.encodeRuneZ (l.getD x.1 0)).map (fun n=>UInt8.ofNat n.toNat)=enc (l.getD x.1 0):=rfl
  rw [he]
  have hel:=(enc_len (l.getD x.1 0)).2
  refine ⟨⟨by omega,by omega⟩,h,hs,by omega,⟨by omega,by omega⟩,h,br_of (fun h1=>⟨by rw [List.length_append]; show _+1≤_; omega,by simp only [inR]; omega,⟨x.1+1,h⟩,⟨?_,?_,rfl,rfl⟩,by show l.length-(x.1+1)<_; omega⟩) fun h1=>⟨by simp only [inR]; omega,⟨x.1+1,h⟩,⟨?_,?_,rfl,rfl⟩,by show l.length-(x.1+1)<_; omega⟩⟩
  ·have h1:l.getD x.1 0=39:=eq_of_beq h1
   show _=encs (dbl (l.take (x.1+1)))
   rw [ht,dbl_app,encs_append,h1,List.append_assoc]; rfl
  ·have h1:l.getD x.1 0=39:=eq_of_beq h1
   show _=(l.take (x.1+1)).all _
   rw [ht,List.all_append,h1]; simp
  ·have h1:l.getD x.1 0≠39:=by simpa using h1
   show _=encs (dbl (l.take (x.1+1)))
   rw [ht,dbl_app,encs_append,dbl_cons,if_neg h1]
   show _=_++encs [_]
   rw [encs_one]
  ·show _=(l.take (x.1+1)).all _
   rw [ht,List.all_append,List.all_cons,h1]; simp
 ·have h:¬ x.1<l.length:=by simpa using h
  have hk:l.take x.1=l:=List.take_of_length_le (by omega)
  rw [hk]
  rw [hk] at hb
  refine br_of (fun h1=>?_) fun h1=>⟨by show 1+_≤_; omega,by rw [List.length_append]; show 1+_+1≤_; omega,?_⟩
  ·unfold rowC; rw [if_pos h1]
  ·unfold rowC; rw [if_neg (by rw [h1]; exact Bool.false_ne_true),encs_cons,encs_append]; rfl)
instance (x:Itm):Decidable (ItmOK x):=by unfold ItmOK; infer_instance
instance (l:List Itm):Decidable (ItmsOK l):=by unfold ItmsOK; infer_instance
def itmToks (l:List Itm):List Tok:=l.map fun x=>⟨(tokI x).1,(tokI x).2,0⟩
def MayN (l:List Itm):Type:={i:Nat // i≤l.length∧ItmsOK (l.take i)}
def sp_r3may:FSpec:=⟨[],fun | [.one (.rd (.items l))]=>some ([l.length≤10000000000000],.one (.bool (decide (ItmsOK l)))) | _=>none⟩
theorem vc_r3may (l:List Itm):vcP [(21,sp_scalar)] [] misc Tryz.f17 (.loop 2 (MayN l) (fun i=>⟨[(0,.one (.slc 0)),(3,.one (.int .i64 i.1))],[(0,some (.read (.items l)))],17⟩) (fun i=>l.length-i.1) (fun _=>.nil) .nil) [.one (.rd (.items l))] (.one (.bool (decide (ItmsOK l))))=(letI v0:=(↑(List.length l):Int); letI v1:=(false=decide (ItmsOK l)); ((∃ (x:MayN l),(0:Int)=(↑(Subtype.val x):Int)∧l=l)∧∀ (x:MayN l),(letI v2:=(↑(Subtype.val x):Int); letI v3:=(List.getD l (Int.toNat v2) default); letI v4:=((0:Int)≤v2∧v2<v0); br (decide (v2<v0)) (v4∧Int.toNat v2<List.length l∧br (decide (Itm.k v3<(1:Int))) v1 (v4∧Int.toNat v2<List.length l∧br (decide (Itm.k v3>(6:Int))) v1 (v4∧Int.toNat v2<List.length l∧br (decide (Itm.k v3>(1:Int))) (v4∧Int.toNat v2<List.length l∧br (Itm.r v3 != (0:Int)) v1 (v4∧Int.toNat v2<List.length l∧br (Itm.k v3==(1:Int)) (v4∧Int.toNat v2<List.length l∧br (!scalar (Itm.r v3)) v1 (inR IntKind.i64 (v2+(1:Int))∧∃ (x':MayN l),(v2+(1:Int)=(↑(Subtype.val x'):Int)∧l=l)∧List.length l-Subtype.val x'<List.length l-Subtype.val x)) (inR IntKind.i64 (v2+(1:Int))∧∃ (x':MayN l),(v2+(1:Int)=(↑(Subtype.val x'):Int)∧l=l)∧List.length l-Subtype.val x'<List.length l-Subtype.val x))) (v4∧Int.toNat v2<List.length l∧br (Itm.k v3==(1:Int)) (v4∧Int.toNat v2<List.length l∧br (!scalar (Itm.r v3)) v1 (inR IntKind.i64 (v2+(1:Int))∧∃ (x':MayN l),(v2+(1:Int)=(↑(Subtype.val x'):Int)∧l=l)∧List.length l-Subtype.val x'<List.length l-Subtype.val x)) (inR IntKind.i64 (v2+(1:Int))∧∃ (x':MayN l),(v2+(1:Int)=(↑(Subtype.val x'):Int)∧l=l)∧List.length l-Subtype.val x'<List.length l-Subtype.val x))))) (true=decide (ItmsOK l))))):=by kernel_rfl
set_option maxHeartbeats 4000000 in
theorem of_r3may (h:∀ (l:List Itm),(l.length≤10000000000000)→vcP [(21,sp_scalar)] [] misc Tryz.f17 (.loop 2 (MayN l) (fun i=>⟨[(0,.one (.slc 0)),(3,.one (.int .i64 i.1))],[(0,some (.read (.items l)))],17⟩) (fun i=>l.length-i.1) (fun _=>.nil) .nil) [.one (.rd (.items l))] (.one (.bool (decide (ItmsOK l))))):FnP 17 sp_r3may:=by
 refine fnP_ok (cs:=[(21,sp_scalar)]) (cas:=[]) (ms:=misc) (.cons ok_scalar .nil) .nil misc_ok 17 Tryz.f17 (by kernel_rfl) (by kernel_rfl) (by kernel_rfl) (fun | [.one (.rd (.items l))]=>.loop 2 (MayN l) (fun i=>⟨[(0,.one (.slc 0)),(3,.one (.int .i64 i.1))],[(0,some (.read (.items l)))],17⟩) (fun i=>l.length-i.1) (fun _=>.nil) .nil | _=>.nil) ?_
 intro pvs p r hs hp
 unfold sp_r3may at hs
 simp only at hs
 split at hs
 ·rename_i l
  cases hs
  refine h l ?_
  ·exact hp
 ·cases hs
theorem MayN.next {l:List Itm} (x:MayN l) (h:x.1<l.length) (hk:ItmOK (l.getD x.1 default)):ItmsOK (l.take (x.1+1)):=by
 rw [take_next l default h]
 intro y hy
 rcases List.mem_append.1 hy with hy | hy
 ·exact x.2.2 y hy
 ·rw [List.mem_singleton.1 hy]; exact hk
theorem may_bad {l:List Itm} {i:Nat} (h:i<l.length) (hk:¬ ItmOK (l.getD i default)):false=decide (ItmsOK l):=by
 symm; rw [decide_eq_false_iff_not]; exact fun hl=>hk (hl _ (getD_mem' h))
theorem ok_r3may:FnP 17 sp_r3may:=of_r3may (by
 intro l hn
 rw [vc_r3may]
 refine ⟨⟨⟨0,Nat.zero_le _,fun y hy=>by cases hy⟩,rfl,rfl⟩,fun x=>?_⟩
 have hx:=x.2.1
 refine br_of (fun h=>?_) fun h=>?_
 ·have h:x.1<l.length:=by simpa using h
  have go:ItmOK (l.getD x.1 default)→∃ x':MayN l,((x.1:Int)+1=(x'.1:Int)∧l=l)∧l.length-x'.1<l.length-x.1:=fun hk=>⟨⟨x.1+1,h,x.next h hk⟩,⟨by simp,rfl⟩,by show l.length-(x.1+1)<_; omega⟩
  have r1:(0≤(x.1:Int)∧(x.1:Int)<(l.length:Int)):=⟨by omega,by omega⟩
  have r2:Int.toNat (x.1:Int)<l.length:=by rw [Int.toNat_natCast]; exact h
  have r3:inR .i64 ((x.1:Int)+1):=by simp only [inR]; omega
  have ok:ItmOK (l.getD x.1 default)↔((l.getD x.1 default).k=1∧scalar (l.getD x.1 default).r=true)∨(2≤(l.getD x.1 default).k∧(l.getD x.1 default).k≤6∧(l.getD x.1 default).r=0):=Iff.rfl
  rw [Int.toNat_natCast] at r2 ⊢
  refine ⟨r1,r2,br_of (fun h1=>may_bad h ?_) fun h1=>⟨r1,r2,br_of (fun h2=>may_bad h ?_) fun h2=>⟨r1,r2,br_of (fun h3=>⟨r1,r2,br_of (fun h4=>may_bad h ?_) fun h4=>⟨r1,r2,br_of (fun h5=>⟨r1,r2,br_of (fun h6=>may_bad h ?_) fun h6=>⟨r3,go ?_⟩⟩) fun h5=>⟨r3,go ?_⟩⟩⟩) fun h3=>⟨r1,r2,br_of (fun h5=>⟨r1,r2,br_of (fun h6=>may_bad h ?_) fun h6=>⟨r3,go ?_⟩⟩) fun h5=>⟨r3,go ?_⟩⟩⟩⟩⟩
  all_goals (rw [ok]; simp at *; simp_all<;>omega)
 ·have h:¬ x.1<l.length:=by simpa using h
  symm; rw [decide_eq_true_iff]
  have:=x.2.2
  rwa [List.take_of_length_le (by omega)] at this)
def sp_r3toks:FSpec:=⟨[],fun | [.one (.rd (.items l))]=>some ([ItmsOK l,l.length≤1000000],.one (.rd (.toks (itmToks l)))) | _=>none⟩
theorem vc_r3toks (l:List Itm):vcP [(73,sp_rneeds)] [] misc Tryz.f45 (.loop 3 (Upto l) (fun i=>⟨[(0,.one (.slc 0)),(3,.one (.slc 17)),(4,.one (.int .i64 i.1))],[(0,some (.read (.items l))),(17,some (.row 71 (.toks (itmToks (l.take i.1)))))],18⟩) (fun i=>l.length-i.1) (fun _=>.nil) .nil) [.one (.rd (.items l))] (.one (.rd (.toks (itmToks l))))=(letI v0:=(↑(List.length l):Int); ((∃ (x:Upto l),(0:Int)=(↑(Subtype.val x):Int)∧l=l∧itmToks (List.take (Subtype.val x) l)=[])∧∀ (x:Upto l),(letI v1:=(↑(Subtype.val x):Int); letI v2:=(List.getD l (Int.toNat v1) default); letI v3:=(List.take (Subtype.val x) l); letI v4:=((0:Int)≤v1∧v1<v0); br (decide (v1<v0)) (v4∧Int.toNat v1<List.length l∧v4∧Int.toNat v1<List.length l∧v4∧Int.toNat v1<List.length l∧br (decide (Itm.k v2>(1:Int))) (v4∧Int.toNat v1<List.length l∧inR IntKind.i64 (Itm.k v2-(2:Int))∧((0:Int)≤Itm.k v2-(2:Int)∧Itm.k v2-(2:Int)<(↑(5:Nat):Int))∧Int.toNat (Itm.k v2-(2:Int))<(5:Nat)∧(List.length (itmToks v3)+(1:Nat))*(16:Nat)≤(140737488355328:Nat)∧inR IntKind.i64 (v1+(1:Int))∧∃ (x':Upto l),(v1+(1:Int)=(↑(Subtype.val x'):Int)∧l=l∧itmToks v3++[{ r:=List.getD [(45:Int),(43:Int),(37:Int),(8240:Int),(164:Int)] (Int.toNat (Itm.k v2-(2:Int))) (0:Int),q:=false,p:=(0:Int) }]=itmToks (List.take (Subtype.val x') l))∧List.length l-Subtype.val x'<List.length l-Subtype.val x) ((List.length (itmToks v3)+(1:Nat))*(16:Nat)≤(140737488355328:Nat)∧inR IntKind.i64 (v1+(1:Int))∧∃ (x':Upto l),(v1+(1:Int)=(↑(Subtype.val x'):Int)∧l=l∧itmToks v3++[{ r:=Itm.r v2,q:=needsQ (Itm.r v2),p:=(0:Int) }]=itmToks (List.take (Subtype.val x') l))∧List.length l-Subtype.val x'<List.length l-Subtype.val x)) (itmToks v3=itmToks l)))):=by kernel_rfl
set_option maxHeartbeats 4000000 in
theorem of_r3toks (h:∀ (l:List Itm),(ItmsOK l)→(l.length≤1000000)→vcP [(73,sp_rneeds)] [] misc Tryz.f45 (.loop 3 (Upto l) (fun i=>⟨[(0,.one (.slc 0)),(3,.one (.slc 17)),(4,.one (.int .i64 i.1))],[(0,some (.read (.items l))),(17,some (.row 71 (.toks (itmToks (l.take i.1)))))],18⟩) (fun i=>l.length-i.1) (fun _=>.nil) .nil) [.one (.rd (.items l))] (.one (.rd (.toks (itmToks l))))):FnP 45 sp_r3toks:=by
 refine fnP_ok (cs:=[(73,sp_rneeds)]) (cas:=[]) (ms:=misc) (.cons ok_rneeds .nil) .nil misc_ok 45 Tryz.f45 (by kernel_rfl) (by kernel_rfl) (by kernel_rfl) (fun | [.one (.rd (.items l))]=>.loop 3 (Upto l) (fun i=>⟨[(0,.one (.slc 0)),(3,.one (.slc 17)),(4,.one (.int .i64 i.1))],[(0,some (.read (.items l))),(17,some (.row 71 (.toks (itmToks (l.take i.1)))))],18⟩) (fun i=>l.length-i.1) (fun _=>.nil) .nil | _=>.nil) ?_
 intro pvs p r hs hp
 unfold sp_r3toks at hs
 simp only at hs
 split at hs
 ·rename_i l
  cases hs
  refine h l ?_ ?_
  ·exact hp.1
  ·exact hp.2
 ·cases hs
theorem needsQ_eq (r:Int):needsQ r=needs r:=by unfold needsQ needs; rw [signK_pos]
theorem itmToks_next {l:List Itm} {i:Nat} (h:i<l.length):itmToks (l.take (i+1))=itmToks (l.take i)++[⟨(tokI (l.getD i default)).1,(tokI (l.getD i default)).2,0⟩]:=by
 unfold itmToks; rw [take_next l default h,List.map_append]; rfl
theorem ok_r3toks:FnP 45 sp_r3toks:=of_r3toks (by
 intro l hl hn
 rw [vc_r3toks]
 refine ⟨⟨⟨0,Nat.zero_le _⟩,rfl,rfl,rfl⟩,fun x=>?_⟩
 have hx:=x.2
 have hlen:(itmToks (l.take x.1)).length≤l.length:=by unfold itmToks; rw [List.length_map,List.length_take]; omega
 refine br_of (fun h=>?_) fun h=>?_
 ·have h:x.1<l.length:=by simpa using h
  have r1:(0≤(x.1:Int)∧(x.1:Int)<(l.length:Int)):=⟨by omega,by omega⟩
  have hk:ItmOK (l.getD x.1 default):=hl _ (getD_mem' h)
  have hnx:=itmToks_next h
  rw [Int.toNat_natCast]
  refine ⟨r1,h,r1,h,r1,h,br_of (fun h1=>?_) fun h1=>⟨by omega,by simp only [inR]; omega,⟨x.1+1,h⟩,⟨rfl,rfl,?_⟩,by show l.length-(x.1+1)<_; omega⟩⟩
  ·have h1:(l.getD x.1 default).k>1:=by simpa using h1
   obtain ⟨k1,k2⟩:2≤(l.getD x.1 default).k∧(l.getD x.1 default).k≤6:=by
    rcases hk with hk | hk
    ·omega
    ·exact ⟨hk.1,hk.2.1⟩
   refine ⟨r1,h,by simp only [inR]; omega,⟨by omega,by show _<(5:Int); omega⟩,by omega,by omega,by simp only [inR]; omega,⟨x.1+1,h⟩,⟨rfl,rfl,?_⟩,by show l.length-(x.1+1)<_; omega⟩
   rw [hnx]
   congr 2
   unfold tokI
   rw [if_neg (by omega)]
   congr 1
   generalize (l.getD x.1 default).k=k at k1 k2
   have:k=2∨k=3∨k=4∨k=5∨k=6:=by omega
   rcases this with e | e | e | e | e<;>(subst e; decide)
  ·have h1:¬ (l.getD x.1 default).k>1:=by simpa using h1
   have h2:(l.getD x.1 default).k=1:=by
    rcases hk with hk | hk
    ·exact hk.1
    ·omega
   rw [hnx,needsQ_eq]
   congr 2
   unfold tokI
   rw [if_pos h2]
 ·have h:¬ x.1<l.length:=by simpa using h
  rw [List.take_of_length_le (by omega)])
def prS (l:List (Int×Bool)):List Int×List Int→List Int×List Int:=fun p=>l.foldl (fun p t=>if t.2=true then (p.1,p.2++[t.1]) else (p.1++(rowC p.2++[t.1]),[])) p
theorem prS_snoc (l:List (Int×Bool)) (t:Int×Bool) (p:List Int×List Int):prS (l++[t]) p=if t.2=true then ((prS l p).1,(prS l p).2++[t.1]) else ((prS l p).1++(rowC (prS l p).2++[t.1]),[]):=by
 unfold prS; rw [List.foldl_append]; rfl
theorem prS_prT:∀ (l:List (Int×Bool)) (a w:List Int),(prS l (a,w)).1++rowC (prS l (a,w)).2=a++prT l w:=by
 intro l
 induction l with
 | nil=>intro a w; rfl
 | cons t l ih =>
  intro a w
  obtain ⟨r,q⟩:=t
  cases q with
  | true=>exact ih a (w++[r])
  | false =>
   have:=ih (a++(rowC w++[r])) []
   rw [List.append_assoc,List.append_assoc] at this
   exact this
theorem prS_wait:∀ (l:List (Int×Bool)) (p:List Int×List Int),(∀ r∈(prS l p).2,r∈p.2∨∃ t∈l,t.1=r)∧(prS l p).2.length≤p.2.length+l.length:=by
 intro l
 induction l with
 | nil=>intro p; exact ⟨fun r hr=>.inl hr,Nat.le_refl _⟩
 | cons t l ih =>
  intro p
  obtain ⟨h1,h2⟩:=ih (if t.2=true then (p.1,p.2++[t.1]) else (p.1++(rowC p.2++[t.1]),[]))
  refine ⟨fun r hr=>?_,?_⟩
  ·rcases h1 r hr with h | ⟨x,hx,e⟩
   ·split at h
    ·rcases List.mem_append.1 h with h | h
     ·exact .inl h
     ·exact .inr ⟨t,List.mem_cons_self,(List.mem_singleton.1 h).symm⟩
    ·cases h
   ·exact .inr ⟨x,List.mem_cons_of_mem _ hx,e⟩
  ·refine Nat.le_trans h2 ?_
   rw [List.length_cons]
   split
   ·simp; omega
   ·simp; omega
theorem rowC_len (w:List Int):(rowC w).length≤2*w.length+2:=by
 have:=dbl_len w
 unfold rowC
 split
 ·omega
 ·simp; omega
theorem prT_len:∀ (l:List (Int×Bool)) (w:List Int),(prT l w).length≤2*w.length+4*l.length+2:=by
 intro l
 induction l with
 | nil=>intro w; have:=rowC_len w; simpa [prT] using this
 | cons t l ih =>
  intro w
  obtain ⟨r,q⟩:=t
  cases q with
  | true=>have:=ih (w++[r]); simp at this; show (prT l (w++[r])).length≤_; simp; omega
  | false=>have:=ih []; have:=rowC_len w; show (rowC w++r :: prT l []).length≤_; simp at *; omega
def sp_r3print:FSpec:=⟨[],fun | [.one (.rd (.toks l))]=>some ([(∀ t∈l,scalar t.r=true),l.length≤100000],.one (.str (encs (prT (l.map Tok.rq) [])))) | _=>none⟩
theorem vc_r3print (l:List Tok):vcP [(72,sp_r3row),(22,sp_bytes)] [] misc Tryz.f44 (.loop 4 (Upto l) (fun i=>⟨[(0,.one (.slc 0)),(3,.one (.str (encs (prS ((l.take i.1).map Tok.rq) ([],[])).1))),(4,.one (.slc 17)),(5,.one (.int .i64 i.1))],[(0,some (.read (.toks l))),(17,some (.row 21 (.ints .i32 (prS ((l.take i.1).map Tok.rq) ([],[])).2)))],18⟩) (fun i=>l.length-i.1) (fun _=>.nil) .nil) [.one (.rd (.toks l))] (.one (.str (encs (prT (l.map Tok.rq) []))))=(letI v0:=(↑(List.length l):Int); ((∃ (x:Upto l),(letI v1:=(prS (List.map Tok.rq (List.take (Subtype.val x) l)) ([],[])); Array.toList #[]=encs v1.1∧(0:Int)=(↑(Subtype.val x):Int)∧l=l∧v1.2=[]))∧∀ (x:Upto l),(letI v2:=(prS (List.map Tok.rq (List.take (Subtype.val x) l)) ([],[])); letI v3:=(↑(Subtype.val x):Int); letI v4:=(List.getD l (Int.toNat v3) default); br (decide (v3<v0)) (((0:Int)≤v3∧v3<v0)∧Int.toNat v3<List.length l∧br (Tok.q v4) (((0:Int)≤v3∧v3<v0)∧Int.toNat v3<List.length l∧(List.length v2.2+(1:Nat))*(4:Nat)≤(140737488355328:Nat)∧inR IntKind.i64 (v3+(1:Int))∧∃ (x':Upto l),(letI v5:=(prS (List.map Tok.rq (List.take (Subtype.val x') l)) ([],[])); (encs v2.1=encs v5.1∧v3+(1:Int)=(↑(Subtype.val x'):Int)∧l=l∧v2.2++[Tok.r v4]=v5.2)∧List.length l-Subtype.val x'<List.length l-Subtype.val x)) ((∀ (r:Int),r∈v2.2→scalar r=true)∧List.length v2.2≤(1000000:Nat)∧List.length (encs v2.1)+List.length (encs (rowC v2.2))≤(9223372036854775807:Nat)∧((0:Int)≤v3∧v3<v0)∧Int.toNat v3<List.length l∧scalar (Tok.r v4)=true∧List.length (encs v2.1++encs (rowC v2.2))+List.length (List.map (fun (n:Int)=>UInt8.ofNat (Int.toNat n)) (Lib.encodeRuneZ (Tok.r v4)))≤(9223372036854775807:Nat)∧inR IntKind.i64 (v3+(1:Int))∧∃ (x':Upto l),(letI v6:=(prS (List.map Tok.rq (List.take (Subtype.val x') l)) ([],[])); (encs v2.1++encs (rowC v2.2)++List.map (fun (n:Int)=>UInt8.ofNat (Int.toNat n)) (Lib.encodeRuneZ (Tok.r v4))=encs v6.1∧v3+(1:Int)=(↑(Subtype.val x'):Int)∧l=l∧v6.2=[])∧List.length l-Subtype.val x'<List.length l-Subtype.val x))) ((∀ (r:Int),r∈v2.2→scalar r=true)∧List.length v2.2≤(1000000:Nat)∧List.length (encs v2.1)+List.length (encs (rowC v2.2))≤(9223372036854775807:Nat)∧encs v2.1++encs (rowC v2.2)=encs (prT (List.map Tok.rq l) []))))):=by kernel_rfl
set_option maxHeartbeats 4000000 in
theorem of_r3print (h:∀ (l:List Tok),((∀ t∈l,scalar t.r=true))→(l.length≤100000)→vcP [(72,sp_r3row),(22,sp_bytes)] [] misc Tryz.f44 (.loop 4 (Upto l) (fun i=>⟨[(0,.one (.slc 0)),(3,.one (.str (encs (prS ((l.take i.1).map Tok.rq) ([],[])).1))),(4,.one (.slc 17)),(5,.one (.int .i64 i.1))],[(0,some (.read (.toks l))),(17,some (.row 21 (.ints .i32 (prS ((l.take i.1).map Tok.rq) ([],[])).2)))],18⟩) (fun i=>l.length-i.1) (fun _=>.nil) .nil) [.one (.rd (.toks l))] (.one (.str (encs (prT (l.map Tok.rq) []))))):FnP 44 sp_r3print:=by
 refine fnP_ok (cs:=[(72,sp_r3row),(22,sp_bytes)]) (cas:=[]) (ms:=misc) (.cons ok_r3row (.cons ok_bytes .nil)) .nil misc_ok 44 Tryz.f44 (by kernel_rfl) (by kernel_rfl) (by kernel_rfl) (fun | [.one (.rd (.toks l))]=>.loop 4 (Upto l) (fun i=>⟨[(0,.one (.slc 0)),(3,.one (.str (encs (prS ((l.take i.1).map Tok.rq) ([],[])).1))),(4,.one (.slc 17)),(5,.one (.int .i64 i.1))],[(0,some (.read (.toks l))),(17,some (.row 21 (.ints .i32 (prS ((l.take i.1).map Tok.rq) ([],[])).2)))],18⟩) (fun i=>l.length-i.1) (fun _=>.nil) .nil | _=>.nil) ?_
 intro pvs p r hs hp
 unfold sp_r3print at hs
 simp only at hs
 split at hs
 ·rename_i l
  cases hs
  refine h l ?_ ?_
  ·exact hp.1
  ·exact hp.2
 ·cases hs
theorem toks_next {l:List Tok} {i:Nat} (h:i<l.length):(l.take (i+1)).map Tok.rq=(l.take i).map Tok.rq++[(l.getD i default).rq]:=by rw [take_next l default h,List.map_append]; rfl
theorem ok_r3print:FnP 44 sp_r3print:=of_r3print (by
 intro l hl hn
 rw [vc_r3print]
 refine ⟨⟨⟨0,Nat.zero_le _⟩,rfl,rfl,rfl,rfl⟩,fun x=>?_⟩
 have hx:=x.2
 obtain ⟨w1,w2⟩:=prS_wait ((l.take x.1).map Tok.rq) ([],[])
 have hp:=prS_prT ((l.take x.1).map Tok.rq) [] []
 have hpl:=prT_len ((l.take x.1).map Tok.rq) []
 have hsc:Scalars (prS ((l.take x.1).map Tok.rq) ([],[])).2:=by
  intro r hr
  rcases w1 r hr with h | ⟨t,ht,e⟩
  ·cases h
  ·obtain ⟨k,hk,e2⟩:=List.mem_map.1 ht
   have:=hl k (List.mem_of_mem_take hk)
   rw [← e,← e2]; exact this
 have hw:(prS ((l.take x.1).map Tok.rq) ([],[])).2.length≤l.length:=by
  rw [List.length_map,List.length_take] at w2
  have:(([],[]):List Int×List Int).2.length=0:=rfl
  omega
 have hb:(encs (prS ((l.take x.1).map Tok.rq) ([],[])).1).length+(encs (rowC (prS ((l.take x.1).map Tok.rq) ([],[])).2)).length≤16*l.length+8:=by
  rw [← List.length_append,← encs_append,hp,List.nil_append]
  have:=(encs_len (prT ((l.take x.1).map Tok.rq) [])).2
  rw [List.length_map,List.length_take] at hpl
  have:([]:List Int).length=0:=rfl
  omega
 refine br_of (fun h=>?_) fun h=>?_
 ·have h:x.1<l.length:=by simpa using h
  have r1:(0≤(x.1:Int)∧(x.1:Int)<(l.length:Int)):=⟨by omega,by omega⟩
  have hnx:=toks_next h
  have hs:=prS_snoc ((l.take x.1).map Tok.rq) (l.getD x.1 default).rq ([],[])
  rw [← hnx] at hs
  rw [Int.toNat_natCast]
  have he:(Lib.encodeRuneZ (l.getD x.1 default).r).map (fun n=>UInt8.ofNat n.toNat)=enc (l.getD x.1 default).r:=rfl
  have hel:=(enc_len (l.getD x.1 default).r).2
  rw [he]
  refine ⟨r1,h,br_of (fun h1=>⟨r1,h,by omega,by simp only [inR]; omega,⟨x.1+1,h⟩,⟨?_,rfl,rfl,?_⟩,by show l.length-(x.1+1)<_; omega⟩) fun h1=>⟨hsc,by omega,by omega,r1,h,hl _ (getD_mem' h),by rw [List.length_append]; omega,by simp only [inR]; omega,⟨x.1+1,h⟩,⟨?_,rfl,rfl,?_⟩,by show l.length-(x.1+1)<_; omega⟩⟩
  ·rw [hs,if_pos (show (l.getD x.1 default).rq.2=true from h1)]
  ·rw [hs,if_pos (show (l.getD x.1 default).rq.2=true from h1)]; rfl
  ·rw [hs,if_neg (show ¬ (l.getD x.1 default).rq.2=true by rw [show (l.getD x.1 default).rq.2=false from h1]; exact Bool.false_ne_true)]
   rw [encs_append,encs_append,encs_one,List.append_assoc]; rfl
  ·rw [hs,if_neg (show ¬ (l.getD x.1 default).rq.2=true by rw [show (l.getD x.1 default).rq.2=false from h1]; exact Bool.false_ne_true)]
 ·have h:¬ x.1<l.length:=by simpa using h
  refine ⟨hsc,by omega,by omega,?_⟩
  rw [← encs_append,hp,List.take_of_length_le (by omega)]; rfl)
theorem itmToks_rq (l:List Itm):(itmToks l).map Tok.rq=l.map tokI:=by unfold itmToks; rw [List.map_map]; rfl
def sp_r3items:FSpec:=⟨[],fun | [.one (.rd (.items l))]=>some ([ItmsOK l,l.length≤100000],.one (.str (encs (itemsC l)))) | _=>none⟩
theorem vc_r3items (l:List Itm):vcP [(45,sp_r3toks),(44,sp_r3print)] [] misc Tryz.f19 (.nil) [.one (.rd (.items l))] (.one (.str (encs (itemsC l))))=(((∀ (x:Itm),x∈l→Itm.k x=(1:Int)∧scalar (Itm.r x)=true∨(2:Int)≤Itm.k x∧Itm.k x≤(6:Int)∧Itm.r x=(0:Int))∧List.length l≤(1000000:Nat)∧(∀ (t:Tok),t∈itmToks l→scalar (Tok.r t)=true)∧List.length (itmToks l)≤(100000:Nat)∧encs (prT (List.map Tok.rq (itmToks l)) [])=encs (itemsC l))):=by kernel_rfl
set_option maxHeartbeats 4000000 in
theorem of_r3items (h:∀ (l:List Itm),(ItmsOK l)→(l.length≤100000)→vcP [(45,sp_r3toks),(44,sp_r3print)] [] misc Tryz.f19 (.nil) [.one (.rd (.items l))] (.one (.str (encs (itemsC l))))):FnP 19 sp_r3items:=by
 refine fnP_ok (cs:=[(45,sp_r3toks),(44,sp_r3print)]) (cas:=[]) (ms:=misc) (.cons ok_r3toks (.cons ok_r3print .nil)) .nil misc_ok 19 Tryz.f19 (by kernel_rfl) (by kernel_rfl) (by kernel_rfl) (fun _=>.nil) ?_
 intro pvs p r hs hp
 unfold sp_r3items at hs
 simp only at hs
 split at hs
 ·rename_i l
  cases hs
  refine h l ?_ ?_
  ·exact hp.1
  ·exact hp.2
 ·cases hs
theorem ok_r3items:FnP 19 sp_r3items:=of_r3items (by
 intro l hl hn
 rw [vc_r3items]
 refine ⟨hl,by omega,fun t ht=>?_,by unfold itmToks; rw [List.length_map]; exact hn,?_⟩
 ·obtain ⟨x,hx,e⟩:=List.mem_map.1 ht
  rw [← e]; exact (tokI_ok (hl x hx)).1.1
 ·rw [itmToks_rq]; rfl)
end Go.Proofs.YtglfkihckkjniaaGreatDoor.Vx
namespace Go.Proofs.YtglfkihckkjniaaGreatDoor.Vx
open Go Go.RowKit
theorem itemsC_len (l:List Itm):(encs (itemsC l)).length≤16*l.length+8:=by
 have h1:=(encs_len (itemsC l)).2
 have h2:=prT_len (l.map tokI) []
 rw [List.length_map] at h2
 have:([]:List Int).length=0:=rfl
 show (encs (prT (l.map tokI) [])).length≤_
 have h1:(encs (prT (l.map tokI) [])).length≤4*(prT (l.map tokI) []).length:=h1
 omega
theorem encs_cods {t:List UInt8} (ht:(numT t).2=0):encs (cods t)=t:=encs_bytes (num_asc ht)
end Go.Proofs.YtglfkihckkjniaaGreatDoor.Vx
namespace Go.Proofs.YtglfkihckkjniaaGreatDoor.Vx
open Go Go.RowKit
theorem scanStep_cat {l m:List Int} (hne:l≠[]) (hm:m.head?≠some 39) (a o:Int):scanStep (l++m) a o=((scanStep l a o).1++m,(scanStep l a o).2):=by
 match l with
 | r :: t =>
  show scanStep (r :: (t++m)) a o=_
  unfold scanStep
  dsimp only
  by_cases hr:r=39
  ·rw [if_pos hr,if_pos hr]
   match t with
   | x :: u =>
    show (if x=39 then _ else _)=_
    dsimp only
    by_cases hx:x=39
    ·rw [if_pos hx,if_pos hx]; rfl
    ·rw [if_neg hx,if_neg hx]; split<;>rfl
   | [] =>
    show (match m with | x :: m'=>if x=39 then (m',a+1+1,o,[Iv.quoted 39 a]) else if o<0 then (m,a+1,a,[]) else (m,a+1,-1,[]) | []=>if o<0 then (m,a+1,a,[]) else (m,a+1,-1,[]))=_
    match m,hm with
    | [],_=>dsimp only; split<;>rfl
    | x :: m',hm =>
     have hx:x≠39:=fun e=>hm (by rw [e]; rfl)
     dsimp only
     rw [if_neg hx]
     split<;>rfl
  ·rw [if_neg hr,if_neg hr]; split<;>rfl
theorem scanStep_open {l:List Int} (hne:l≠[]) {a o:Int} (ha:0≤a) (ho:o = -1∨0≤o):((scanStep l a o).2.2.1 = -1∨0≤(scanStep l a o).2.2.1)∧0≤(scanStep l a o).2.1:=by
 match l with
 | r :: t =>
  unfold scanStep
  dsimp only
  repeat' split
  all_goals (dsimp only; omega)
theorem scanL_cat {m:List Int} (hm:Scalars m) (hh:m.head?≠some 39):∀ (n:Nat) (l:List Int) (a o:Int),l.length≤n→Scalars l→0≤a→(o = -1∨0≤o) →
  ((scanL l a o).1 = -1∨0≤(scanL l a o).1)∧scanL (l++m) a o=((scanL m (a+(encs l).length) (scanL l a o).1).1,(scanL l a o).2++(scanL m (a+(encs l).length) (scanL l a o).1).2):=by
 intro n
 induction n with
 | zero =>
  intro l a o hl _ _ ho
  have:l=[]:=List.length_eq_zero_iff.1 (by omega)
  subst this
  exact ⟨ho,by rw [scanL_nil,encs_nil]; simp⟩
 | succ n ih =>
  intro l a o hl hs ha ho
  by_cases hne:l=[]
  ·subst hne
   exact ⟨ho,by rw [scanL_nil,encs_nil]; simp⟩
  ·have hf:=scanStep_facts hs hne a o
   have hin:=(scanStep_in hs hne a o).1
   obtain ⟨q1,q2⟩:=scanStep_open hne ha ho
   obtain ⟨i1,i2⟩:=ih (scanStep l a o).1 (scanStep l a o).2.1 (scanStep l a o).2.2.1 (by omega) hf.1 q2 q1
   have hc:=scanStep_cat hne hh a o
   match l,hne with
   | r :: t,_ =>
    rw [scanL_cons hs a o]
    refine ⟨i1,?_⟩
    show scanL (r :: (t++m)) a o=_
    have hs2:Scalars (r :: (t++m)):=scalars_append (l:=r :: t).2 ⟨hs,hm⟩
    rw [scanL_cons hs2 a o,show scanStep (r :: (t++m)) a o=_ from hc]
    dsimp only
    rw [i2,hin]
    dsimp only
    rw [List.append_assoc]
theorem scanT_good {s:List UInt8} (h:(scanT s).2.1=0):s=encs (decomp s).1∧(decomp s).2=[]∧(scanL (decomp s).1 0 (-1)).1 = -1∧(scanT s).1=(scanL (decomp s).1 0 (-1)).2.map Iv.tok:=by
 have hd:=decomp_ok s
 unfold scanT at h ⊢
 split at h
 ·exact absurd h (show ¬ (2:Int)=0 by decide)
 ·rename_i hb
  rw [if_neg hb]
  have hb2:(decomp s).2=[]:=bad_neg.1 (by omega)
  split at h
  ·exact absurd h (show ¬ (3:Int)=0 by decide)
  ·rename_i ho
   rw [if_neg ho]
   split at h
   ·exact absurd h (show ¬ (8:Int)=0 by decide)
   ·rename_i hl
    rw [if_neg hl]
    have h1:=hd.1
    rw [hb2,List.append_nil] at h1
    have hx:=(scanL_cat scalars_nil (by decide) _ (decomp s).1 0 (-1) (Nat.le_refl _) hd.2.1 (by decide) (.inl rfl)).1
    have ho:¬ 0≤(scanL (decomp s).1 0 (-1)).1:=ho
    refine ⟨h1,hb2,?_,rfl⟩
    rcases hx with hx | hx
    ·exact hx
    ·exact absurd hx ho
theorem comp_good {s:List UInt8} (h:(compileT s).2.1=0):(scanT s).2.1=0∧(elemsL (scanT s).1).2=none∧compileT s=compE (elemsL (scanT s).1).1:=by
 unfold compileT at h ⊢
 split at h
 ·rename_i h1; exact absurd h h1
 ·rename_i h1
  have h1:(scanT s).2.1=0:=by simpa using h1
  rw [if_neg (by rw [h1]; exact fun e=>e rfl)]
  split at h
  ·rename_i h2; exact absurd h h2
  ·rename_i h2
   have h2:(elemsR (scanT s).1).2.1=0:=by simpa using h2
   rw [if_neg (by rw [h2]; exact fun e=>e rfl)]
   unfold elemsR at h2 ⊢
   cases he:(elemsL (scanT s).1).2 with
   | none=>exact ⟨h1,rfl,rfl⟩
   | some p=>rw [he] at h2; exact absurd h2 (show ¬ (7:Int)=0 by decide)
theorem compE_good {l:List Iv} (h:(compE l).2.1=0):¬ aheadN (behindL l)<(behindL l).length∧(readT (l.take (aheadN l)) 0 true).2.1=0:=by
 unfold compE at h
 split at h
 ·exact absurd h (show ¬ (4:Int)=0 by decide)
 ·rename_i h1
  refine ⟨h1,?_⟩
  split at h
  ·rename_i h2; exact absurd h h2
  ·rename_i h2; simpa using h2
theorem findIdx_lt {α:Type} {P:α→Bool} {u v:List α} (h:u.findIdx P<u.length):(u++v).findIdx P=u.findIdx P:=by
 induction u with
 | nil=>simp at h
 | cons y u ih =>
  show (y :: (u++v)).findIdx P=_
  rw [List.findIdx_cons,List.findIdx_cons]
  cases hy:P y with
  | true=>rfl
  | false =>
   rw [List.findIdx_cons,hy,cond_false,List.length_cons] at h
   rw [cond_false,cond_false,ih (by omega)]
theorem findIdx_none {α:Type} {P:α→Bool} {u:List α} (h:¬ u.findIdx P<u.length):∀ y∈u,P y=false:=by
 intro y hy
 cases hp:P y with
 | false=>rfl
 | true=>exact absurd (List.findIdx_lt_length_of_exists ⟨y,hy,hp⟩) h
theorem comp_behind {E:List Iv} (h:(compE E).2.1=0) {y:Iv} (hy:isIn [59] y=true) {I3 I4:List Itm}:∃ X,∀ {T3 T4:List Tok} {nums:List Iv} {u:List UInt8},HalfOK T3 nums T4 0 I3 I4 u false→compE (E++y :: halfE T3 nums T4 0 0 0)=X:=by
 obtain ⟨g1,g2⟩:=compE_good h
 by_cases hE:aheadN E<E.length
 ·refine ⟨(p0,4,y.at_),fun {T3 T4 nums u} k=>?_⟩
  have ha:aheadN (E++y :: halfE T3 nums T4 0 0 0)=aheadN E:=findIdx_lt hE
  have hb0:behindL E=E.drop (aheadN E+1):=by unfold behindL; rw [Nat.min_eq_left (by omega)]
  have hb:behindL (E++y :: halfE T3 nums T4 0 0 0)=behindL E++y :: halfE T3 nums T4 0 0 0:=by
   rw [hb0]; unfold behindL
   rw [ha,Nat.min_eq_left (by simp; omega),List.drop_append_of_le_length (by omega)]
  have hn:∀ z∈behindL E,isIn [59] z=false:=findIdx_none g1
  have hbn:aheadN (behindL E++y :: halfE T3 nums T4 0 0 0)=(behindL E).length:=by
   unfold aheadN; rw [findIdx_app _ hn,List.findIdx_cons,hy]; rfl
  unfold compE
  rw [hb,hbn,if_pos (by simp)]
  congr 2
  rw [List.getD_eq_getElem?_getD,List.getElem?_append_right (Nat.le_refl _)]; simp
 ·have hn:∀ z∈E,isIn [59] z=false:=findIdx_none hE
  have hE2:aheadN E=E.length:=by
   have:=findIdx_app (P:=isIn [59]) [] hn
   rw [List.append_nil] at this
   exact this
  rw [hE2,List.take_length] at g2
  refine ⟨if bothH { madeT (readT E 0 true).1.pa with hn:=true,npre:=I3,nsuf:=I4 }=true then (p0,6,0) else ({ madeT (readT E 0 true).1.pa with hn:=true,npre:=I3,nsuf:=I4 },0,0),fun {T3 T4 nums u} k=>?_⟩
  have ks:=half_semi (r:=0) (p:=0) k
  have ha:aheadN (E++y :: halfE T3 nums T4 0 0 0)=E.length:=by
   unfold aheadN; rw [findIdx_app _ hn,List.findIdx_cons,hy]; rfl
  have hb:behindL (E++y :: halfE T3 nums T4 0 0 0)=halfE T3 nums T4 0 0 0:=by
   unfold behindL
   rw [ha,show E++y :: halfE T3 nums T4 0 0 0=(E++[y])++halfE T3 nums T4 0 0 0 by simp]
   exact drop_len _ _ (by simp)
  have hk:aheadN (halfE T3 nums T4 0 0 0)=(halfE T3 nums T4 0 0 0).length:=by
   have:=findIdx_app (P:=isIn [59]) [] ks
   rw [List.append_nil] at this
   exact this
  unfold compE
  rw [hb,hk,ha,List.take_left,read_build k,if_neg (Nat.lt_irrefl _),if_neg (by rw [g2]; exact fun e=>e rfl),if_pos (by simp),if_neg (show ¬ (0:Int)≠0 from fun e=>e rfl)]
theorem ignored_plain {s:List UInt8} (hs:(compileT s).2.1=0) (hsl:s.length≤200) {I3 I4:List Itm} (o3:ItmsOK I3) (o4:ItmsOK I4) (hl:I3.length+I4.length≤39) :
  ∃ X,∀ {t:List UInt8},(numT t).2=0→s.length+t.length≤200→compileT (s++[59]++encs (itemsC I3)++t++encs (itemsC I4))=X:=by
 obtain ⟨c1,c2,c3⟩:=comp_good hs
 obtain ⟨s1,s2,s3,s4⟩:=scanT_good c1
 rw [c3] at hs
 obtain ⟨X,hX⟩:=comp_behind hs (y:=.single 59 false (s.length:Int)) (show (!false && hasR [59] 59)=true by decide) (I3:=I3) (I4:=I4)
 refine ⟨X,fun {t} ht hn=>?_⟩
 have k:ScQ (itemsC I3++(cods t++itemsC I4)) (I3.map tokI++(codQ t++I4.map tokI)):=ScQ.thenQ (items_sc o3) (Sc.thenQ (num_sc ht) (items_sc o4)) (cods_head ht _)
 obtain ⟨ys,y1,y2⟩:=k.2 [] ((s.length:Int)+1) scalars_nil (by omega) (by decide)
 rw [List.append_nil,scanL_nil,List.append_nil] at y2
 have hm:Scalars (59 :: (itemsC I3++(cods t++itemsC I4))):=scalars_cons.2 ⟨by decide,k.1⟩
 have hcat:=(scanL_cat hm (fun e=>absurd (Option.some.inj e) (by decide)) _ (decomp s).1 0 (-1) (Nat.le_refl _) (decomp_ok s).2.1 (by decide) (.inl rfl)).2
 have hlen:(0:Int)+((encs (decomp s).1).length:Int)=s.length:=by rw [← s1]; omega
 rw [s3,hlen] at hcat
 have h59:scanL (59 :: (itemsC I3++(cods t++itemsC I4))) (s.length:Int) (-1)=(-1,.plain 59 (s.length:Int) :: ys):=by
  have e:scanStep (59 :: (itemsC I3++(cods t++itemsC I4))) (s.length:Int) (-1)=(itemsC I3++(cods t++itemsC I4),(s.length:Int)+1,-1,[.plain 59 (s.length:Int)]):=by
   unfold scanStep; dsimp only; rw [if_neg (by decide),if_pos (by decide),show enc 59=[59] by decide]; rfl
  rw [scanL_cons hm,e]
  dsimp only
  rw [y2]; rfl
 rw [h59] at hcat
 have htxt:s++[59]++encs (itemsC I3)++t++encs (itemsC I4)=encs ((decomp s).1++59 :: (itemsC I3++(cods t++itemsC I4))):=by
  rw [encs_append,encs_cons,encs_append,encs_append,encs_cods ht,show enc 59=[59] by decide,← s1]; simp
 have hsc:Scalars ((decomp s).1++59 :: (itemsC I3++(cods t++itemsC I4))):=scalars_append.2 ⟨(decomp_ok s).2.1,hm⟩
 have hd:=decomp_encs hsc
 have hb:badAt (encs ((decomp s).1++59 :: (itemsC I3++(cods t++itemsC I4)))) = -1:=by unfold badAt; rw [hd,if_pos rfl]
 have hF:scanF (encs ((decomp s).1++59 :: (itemsC I3++(cods t++itemsC I4))))=(-1,(scanL (decomp s).1 0 (-1)).2++.plain 59 (s.length:Int) :: ys):=by
  unfold scanF
  rw [hd]
  exact hcat
 have l1:(scanL (decomp s).1 0 (-1)).2.length≤200:=by
  have h1:=(scanF_isT s).2
  have h2:=decomp_len s
  have h3:(scanF s).2=(scanL (decomp s).1 0 (-1)).2:=rfl
  rw [h3] at h1; omega
 have l2:ys.length=I3.length+t.length+I4.length:=by
  have:=congrArg List.length y1
  unfold codQ at this
  simp at this; omega
 have l1':(scanL (decomp s).1 0 (-1)).2.length≤s.length:=by
  have h1:=(scanF_isT s).2
  have h2:=decomp_len s
  have h3:(scanF s).2=(scanL (decomp s).1 0 (-1)).2:=rfl
  rw [h3] at h1; omega
 have hT:scanT (encs ((decomp s).1++59 :: (itemsC I3++(cods t++itemsC I4))))=((scanT s).1++(⟨59,false,(s.length:Int)⟩ :: ys.map Iv.tok),0,0):=by
  rw [s4]
  unfold scanT
  rw [hb,hF,if_neg (by decide),if_neg (show ¬ (0:Int)≤-1 by decide),if_neg (by simp; omega),List.map_append]; rfl
 have hmap:(ys.map Iv.tok).map Tok.rq=I3.map tokI++(codQ t++I4.map tokI):=by rw [← y1,List.map_map]; rfl
 obtain ⟨T3,B,hT3,m3,hB⟩:=List.map_eq_append_iff.1 hmap
 obtain ⟨Tm,T4,hB2,mm,m4⟩:=List.map_eq_append_iff.1 hB
 have kk:HalfOK T3 (Tm.map Tok.sg) T4 0 I3 I4 t false:=⟨m3,m4,o3,o4,by omega,by omega,plains_of mm,ht,by decide,fun e=>absurd e (by decide),fun e=>absurd e (by decide),fun e=>absurd rfl e⟩
 have he:elemsL ((scanT s).1++(⟨59,false,(s.length:Int)⟩ :: ys.map Iv.tok))=((elemsL (scanT s).1).1++.single 59 false (s.length:Int) :: halfE T3 (Tm.map Tok.sg) T4 0 0 0,none):=by
  rw [elemsL_cat _ _ (Nat.le_refl _) c2,elemsL_other (t:=⟨59,false,(s.length:Int)⟩) rfl,hT3,hB2,elemsL_app _ (star_aside m3 o3),elemsL_app _ (cod_star mm ht)]
  have h4:=elemsL_app [] (star_aside m4 o4)
  rw [List.append_nil] at h4
  rw [h4]
  unfold halfE padAt
  simp [elemsL,Tok.sg]
 rw [htxt]
 have hc:compileT (encs ((decomp s).1++59 :: (itemsC I3++(cods t++itemsC I4))))=compE ((elemsL (scanT s).1).1++.single 59 false (s.length:Int) :: halfE T3 (Tm.map Tok.sg) T4 0 0 0):=by
  unfold compileT
  rw [hT]
  dsimp only
  rw [if_neg (fun e=>e rfl)]
  unfold elemsR
  rw [he]
  dsimp only
  rw [if_neg (fun e=>e rfl)]
 rw [hc]
 exact hX kk
end Go.Proofs.YtglfkihckkjniaaGreatDoor.Vx
namespace Go.Proofs.YtglfkihckkjniaaGreatDoor.Vx
open Go Go.RowKit
def sp_lIgnored:FSpec:=⟨[],fun | [.one (.str u),.one (.str t),.one (.rd (.items p)),.one (.rd (.items s))]=>some ([u.length≤140737488355328,t.length≤140737488355328,p.length≤10000000000000,s.length≤10000000000000],.one (.bool true)) | _=>none⟩
theorem vc_lIgnored (u t:List UInt8) (p s:List Itm):vcP [(17,sp_r3may),(13,sp_ans16),(18,sp_r3num),(19,sp_r3items),(15,sp_r3comp),(14,sp_pcompile),(16,sp_spat)] [] misc Tryz.f6 (.nil) [.one (.str u),.one (.str t),.one (.rd (.items p)),.one (.rd (.items s))] (.one (.bool true))=(letI v0:=(u++Array.toList #[(59:UInt8)]++encs (itemsC p)++Array.toList #[(35:UInt8)]++encs (itemsC s)); letI v1:=(u++Array.toList #[(59:UInt8)]++encs (itemsC p)++t++encs (itemsC s)); (List.length p≤(10000000000000:Nat)∧br (!decide (ItmsOK p)) (true=true) (List.length s≤(10000000000000:Nat)∧br (!decide (ItmsOK s)) (true=true) (inR IntKind.i64 ((↑(List.length p):Int)+(↑(List.length s):Int))∧br (decide ((↑(List.length p):Int)+(↑(List.length s):Int)>(39:Int))) (true=true) (inR IntKind.i64 ((↑(List.length u):Int)+(↑(List.length t):Int))∧br (decide ((↑(List.length u):Int)+(↑(List.length t):Int)>(200:Int))) (true=true) (List.length t≤(1000000000:Nat)∧br ((numT t).2 != (0:Int)) (true=true) ((∀ (x:Itm),x∈p→Itm.k x=(1:Int)∧scalar (Itm.r x)=true∨(2:Int)≤Itm.k x∧Itm.k x≤(6:Int)∧Itm.r x=(0:Int))∧List.length p≤(100000:Nat)∧(∀ (x:Itm),x∈s→Itm.k x=(1:Int)∧scalar (Itm.r x)=true∨(2:Int)≤Itm.k x∧Itm.k x≤(6:Int)∧Itm.r x=(0:Int))∧List.length s≤(100000:Nat)∧List.length u≤(1000000:Nat)∧br ((compileT u).2.1 != (0:Int)) (true=true) (List.length u+List.length (Array.toList #[(59:UInt8)])≤(9223372036854775807:Nat)∧List.length (u++Array.toList #[(59:UInt8)])+List.length (encs (itemsC p))≤(9223372036854775807:Nat)∧List.length (u++Array.toList #[(59:UInt8)]++encs (itemsC p))+List.length t≤(9223372036854775807:Nat)∧List.length (u++Array.toList #[(59:UInt8)]++encs (itemsC p)++t)+List.length (encs (itemsC s))≤(9223372036854775807:Nat)∧List.length v1≤(1000000:Nat)∧List.length u+List.length (Array.toList #[(59:UInt8)])≤(9223372036854775807:Nat)∧List.length (u++Array.toList #[(59:UInt8)])+List.length (encs (itemsC p))≤(9223372036854775807:Nat)∧List.length (u++Array.toList #[(59:UInt8)]++encs (itemsC p))+List.length (Array.toList #[(35:UInt8)])≤(9223372036854775807:Nat)∧List.length (u++Array.toList #[(59:UInt8)]++encs (itemsC p)++Array.toList #[(35:UInt8)])+List.length (encs (itemsC s))≤(9223372036854775807:Nat)∧List.length v0≤(1000000:Nat)∧br (decide ((compileT v1).2.1=(compileT v0).2.1) && decide ((compileT v1).2.2=(compileT v0).2.2)) ((List.length (Pat.pre (compileT v1).1)≤(1000000000000:Nat)∧List.length (Pat.suf (compileT v1).1)≤(1000000000000:Nat)∧List.length (Pat.npre (compileT v1).1)≤(1000000000000:Nat)∧List.length (Pat.nsuf (compileT v1).1)≤(1000000000000:Nat))∧(List.length (Pat.pre (compileT v0).1)≤(1000000000000:Nat)∧List.length (Pat.suf (compileT v0).1)≤(1000000000000:Nat)∧List.length (Pat.npre (compileT v0).1)≤(1000000000000:Nat)∧List.length (Pat.nsuf (compileT v0).1)≤(1000000000000:Nat))∧samePt (compileT v1).1 (compileT v0).1=true) (false=true))))))))):=by kernel_rfl
set_option maxHeartbeats 4000000 in
theorem of_lIgnored (h:∀ (u t:List UInt8) (p s:List Itm),(u.length≤140737488355328)→(t.length≤140737488355328)→(p.length≤10000000000000)→(s.length≤10000000000000)→vcP [(17,sp_r3may),(13,sp_ans16),(18,sp_r3num),(19,sp_r3items),(15,sp_r3comp),(14,sp_pcompile),(16,sp_spat)] [] misc Tryz.f6 (.nil) [.one (.str u),.one (.str t),.one (.rd (.items p)),.one (.rd (.items s))] (.one (.bool true))):FnP 6 sp_lIgnored:=by
 refine fnP_ok (cs:=[(17,sp_r3may),(13,sp_ans16),(18,sp_r3num),(19,sp_r3items),(15,sp_r3comp),(14,sp_pcompile),(16,sp_spat)]) (cas:=[]) (ms:=misc) (.cons ok_r3may (.cons ok_ans16 (.cons ok_r3num (.cons ok_r3items (.cons ok_r3comp (.cons ok_pcompile (.cons ok_spat .nil))))))) .nil misc_ok 6 Tryz.f6 (by kernel_rfl) (by kernel_rfl) (by kernel_rfl) (fun _=>.nil) ?_
 intro pvs p r hs hp
 unfold sp_lIgnored at hs
 simp only at hs
 split at hs
 ·rename_i u t p s
  cases hs
  refine h u t p s ?_ ?_ ?_ ?_
  ·exact hp.1
  ·exact hp.2.1
  ·exact hp.2.2.1
  ·exact hp.2.2.2
 ·cases hs
theorem num35:(numT [35]).2=0:=by kernel_rfl
theorem ok_lIgnored:FnP 6 sp_lIgnored:=of_lIgnored (by
 intro u t p s hu ht hp hs
 rw [vc_lIgnored]
 refine ⟨by omega,br_of (fun h=>rfl) fun h=>⟨by omega,br_of (fun _=>rfl) fun h2=>⟨by simp only [inR]; omega,br_of (fun _=>rfl) fun h3=>⟨by simp only [inR]; omega,br_of (fun _=>rfl) fun h4=>⟨by simp at h4; omega,br_of (fun _=>rfl) fun h5=>?_⟩⟩⟩⟩⟩
 have okp:ItmsOK p:=by simpa using h
 have oks:ItmsOK s:=by simpa using h2
 have hl:p.length+s.length≤39:=by simp at h3; omega
 have hn:u.length+t.length≤200:=by simp at h4; omega
 have h5:(numT t).2=0:=by simpa using h5
 have ht1:0<t.length:=List.length_pos_iff.2 (num_nil h5)
 refine ⟨okp,by omega,oks,by omega,by omega,br_of (fun _=>rfl) fun h6=>?_⟩
 have h6:(compileT u).2.1=0:=by simpa using h6
 obtain ⟨X,hX⟩:=ignored_plain h6 (by omega) okp oks hl
 have e1:compileT (u++Array.toList #[59]++encs (itemsC p)++t++encs (itemsC s))=X:=hX h5 hn
 have e2:compileT (u++Array.toList #[59]++encs (itemsC p)++Array.toList #[35]++encs (itemsC s))=X:=hX num35 (by show u.length+1≤_; omega)
 have la:=itemsC_len p
 have lb:=itemsC_len s
 have l1:(Array.toList #[(59:UInt8)]).length=1:=rfl
 have l2:(Array.toList #[(35:UInt8)]).length=1:=rfl
 refine ⟨?_,?_,?_,?_,?_,?_,?_,?_,?_,?_,?_⟩
 iterate 10 (simp only [List.length_append,l1,l2]; omega)
 have sm:=(compileT_small (u++Array.toList #[59]++encs (itemsC p)++t++encs (itemsC s))).mono (show 41≤1000000000000 by decide)
 rw [e1] at sm
 rw [e1,e2]
 refine br_of (fun _=>⟨sm,sm,samePt_refl _⟩) fun h=>absurd h (by simp))
end Go.Proofs.YtglfkihckkjniaaGreatDoor.Vx
namespace Go.Proofs.YtglfkihckkjniaaGreatDoor.Vx
open Go Go.RowKit Go.ChangeShapes Go.WideShapes Go.ChangeAt Go.WideMaps Go.WideElems
open Go.ChangeMaps (open_string shut_string)
open Go.Lib (array_elem)
theorem returnsInHanded_of_change_both {H:Type} {enc:TypeId×Value→H} {a:Assume} {C:Checked} {os:Os} {f:FuncId} {fn:Func} {s:ChangeSpec} {conds:List PathCond} {apart fresh handsOn again:Bool} {X:World→Array Value→Prop}
  (hX:∀ (w w':World) (args:Array Value),w.heap=w'.heap→X w args→X w' args)
  (own:ownKnob C.prog.godebug=none) (started:os.Started) (noInit:C.prog.inits.idxOf? f=none) (hfn:C.prog.funcs[f]? = some fn)
  (witness:∃ (w:World) (tape:Tape) (i:Input),w.os=os∧(w.forCall tape i).Shaped C.prog∧i.vars=[]∧Input.okWide C.prog (w.forCall tape i) .any w.heap.size f i ∧
   ((s.pre enc C.prog fn conds apart (w.forCall tape i).memory i.args∧X (w.forCall tape i).memory i.args)∧sizedMet enc C.prog fn (OpenSpec.ofChange s) apart (w.forCall tape i).memory i.args)∧a.holds C.prog (lone (Frame.enter C.prog f i.args .normal) [] (w.forCall tape i)))
  (contract:∀ (W:World) (base:Nat) (args:Array Value) (ds gs:List (DataW H)) (before:List MemPlace),
   (∀ (j:Nat) t v,fn.params[j]? = some t→args[j]? = some v→Value.okWide C.prog W .any base t v) →
   DataW.Whole enc C.prog fn.params.toList s.vars apart W args.toList ds gs before →
   (DataW.weightsEach C.prog (fn.params.toList++s.plain.varTypes C.prog) (ds++gs)).all (·≤reachBytes)=true→X W args→W.ShapedOpen C.prog →
   Calls C.prog f args W fun e W'=>∃ v,e=.returned v∧s.post enc C.prog fn apart fresh handsOn again W args v W') :
  ReturnsInHanded a C os f .any (fun w args=>(s.pre enc C.prog fn conds apart w args∧X w args)∧sizedMet enc C.prog fn (OpenSpec.ofChange s) apart w args) (s.post enc C.prog fn apart fresh handsOn again):=by
 refine returnsInHanded_of_calls own started noInit witness ?_
 intro w tape i _ hsh _ hok hpre hholds
 obtain ⟨_,_,_,fn',hfn',_,_,_,_,hval⟩:=hok
 have e:fn'=fn:=Option.some.inj (hfn'.symm.trans hfn)
 subst e
 obtain ⟨⟨⟨ds,gs,before,hw,hc⟩,hx⟩,hz⟩:=hpre
 have hw':=DataW.Whole.of_heap (w':=w.forCall tape i) (by rfl) hw
 refine (contract (w.forCall tape i) w.heap.size i.args ds gs before hval hw' (hz.weights hw) (hX _ _ _ (by rfl) hx) hsh).mono fun e W' ⟨v,he,hp⟩=>?_
 subst he
 exact ChangeSpec.post_blind hp
def laidL:List (String×DataW Unit):=[("unicode/utf8.acceptRanges",Rows.laid_unicode_utf8_acceptRanges),("figurehead/affix.signs",Rows.laid_figurehead_affix_signs),("unicode/utf8.first",Rows.laid_unicode_utf8_first)]
theorem own:ownKnob Tryz.prog.godebug=none:=by kernel_rfl
theorem laidOut:laidOutB Tryz.prog=true:=by kernel_rfl
section
variable {P:Program} {w:World} {base:Nat} {sp:Nat→Bool} {held:Bool}
theorem cells_of_pairs {fuel:Nat} {t e:TypeId} {n:Nat} {f0 f1:Field} {k0 k1:IntKind} {cs:List Value} {zs:List (Int×Int)} {p:List MemPlace}
  (ht:P.underlying t=some (.array n e)) (he:P.underlying e=some (.struct #[f0,f1])) (h0:P.underlying f0.type=some (.int k0)) (h1:P.underlying f1.type=some (.int k1))
  (o0:f0.offset=0) (o1:f1.offset=1) (c0:P.cellsOf f0.type=1) (c1:P.cellsOf f1.type=1) (ce:P.cellsOf e=2) (ct:P.cellsOf t=n*2)
  (h:DataW.trod (fun _=>()) P w base sp held fuel t cs=some (.agg (zs.map fun z=>.agg [.lit (.int k0 z.1),.lit (.int k1 z.2)]),p)):cs=zs.flatMap fun z=>[.int k0 z.1,.int k1 z.2]:=by
 have hzl:zs.length=n∧cs.length=n*2:=by
  cases fuel with
  | zero=>simp [DataW.trod] at h
  | succ fuel =>
   simp only [DataW.trod,ht,ce,ct] at h
   split at h
   ·rename_i hl
    obtain ⟨xs,hm,hx⟩:=Option.map_eq_some_iff.1 h
    have hxl:xs.length=n:=by simpa using Lib.mapM_length hm
    have h2:=congrArg List.length (show xs.map (·.1)=zs.map fun z=>(DataW.agg [.lit (.int k0 z.1),.lit (.int k1 z.2)]:DataW Unit) by simpa using congrArg Prod.fst hx)
    simp at h2
    exact ⟨by omega,by simpa using hl⟩
   ·cases h
 have key:∀ i,i<n→(cs.drop (i*2)).take 2=[Value.int k0 (zs.getD i (0,0)).1,.int k1 (zs.getD i (0,0)).2]:=by
  intro i hi
  obtain ⟨fuel',d,q,hd,hr⟩:=array_elem ht h i hi
  rw [ce] at hr
  rw [List.getElem?_map,List.getElem?_eq_getElem (by omega),Option.map_some,Option.some.injEq] at hd
  subst hd
  rw [List.getD_eq_getElem?_getD,List.getElem?_eq_getElem (by omega),Option.getD_some]
  obtain ⟨xs,m,rfl,hx,hl,hxl,hall⟩:=DataW.trod_struct he hr
  have hx:=congrArg Prod.fst hx
  have e0:=hall 0 f0 rfl
  have e1:=hall 1 f1 rfl
  match xs,hxl with
  | [x0,x1],_ =>
   rw [o0,c0] at e0
   rw [o1,c1] at e1
   simp only [List.map_cons,List.map_nil,DataW.agg.injEq,List.cons.injEq,and_true] at hx
   obtain ⟨a0,g1,g2,_⟩:=DataW.trod_int h0 (show DataW.trod _ P w base sp held m f0.type _=some x0 from e0)
   obtain ⟨a1,g3,g4,_⟩:=DataW.trod_int h1 (show DataW.trod _ P w base sp held m f1.type _=some x1 from e1)
   have q0:a0=(zs[i]'(by omega)).1:=by rw [g2] at hx; simpa using hx.1.symm
   have q1:a1=(zs[i]'(by omega)).2:=by rw [g4] at hx; simpa using hx.2.symm
   rw [← q0,← q1]
   generalize hL:(cs.drop (i*2)).take 2=L at g1 g3 hl
   rw [ce] at hl
   match L,hl with
   | [u,v],_ =>
    simp at g1 g3
    rw [g1,g3]
 apply List.ext_getElem?
 intro j
 have hfl:∀ (zs:List (Int×Int)) (j:Nat),(zs.flatMap fun z=>[Value.int k0 z.1,.int k1 z.2])[j]? = if j<zs.length*2 then some (if j % 2=0 then Value.int k0 (zs.getD (j / 2) (0,0)).1 else .int k1 (zs.getD (j / 2) (0,0)).2) else none:=by
  intro zs
  induction zs with
  | nil=>intro j; simp
  | cons z zs ih =>
   intro j
   match j with
   | 0=>simp
   | 1=>simp; omega
   | j+2 =>
    have e:((z :: zs).flatMap fun z=>[Value.int k0 z.1,.int k1 z.2])[j+2]? = (zs.flatMap fun z=>[Value.int k0 z.1,.int k1 z.2])[j]?:=by simp
    rw [e,ih j]
    have e1:(j+2) % 2=j % 2:=by omega
    have e2:(j+2) / 2=j / 2+1:=by omega
    have e3:(j+2<(z :: zs).length*2)↔(j<zs.length*2):=by simp; omega
    rw [e1,e2]
    simp only [e3,List.getD_cons_succ]
 rw [hfl]
 split
 ·rename_i hj
  have hk:=key (j / 2) (by omega)
  split
  ·rename_i h2
   have:=congrArg (·[0]?) hk
   simp only [List.getElem?_take,List.getElem?_drop] at this
   have e:j / 2*2+0=j:=by omega
   rw [e] at this
   simpa using this
  ·rename_i h2
   have:=congrArg (·[1]?) hk
   simp only [List.getElem?_take,List.getElem?_drop] at this
   have e:j / 2*2+1=j:=by omega
   rw [e] at this
   simpa using this
 ·rw [List.getElem?_eq_none (by omega)]
end
theorem block_of_var {P:Program} {w:World} {n:String} {g:Nat} {cs:Array Value} (hg:P.globalNamed n=some g) (h:w.var? P n=some cs):∃ ty fz,w.heap[g]? = some (.cells cs ty fz):=by
 simp only [World.var?,hg,Option.bind_some] at h
 split at h
 ·rename_i cs' ty fz e
  cases h
  exact ⟨ty,fz,e⟩
 ·cases h
theorem signVals_eq:signVals=([(2,45),(3,43),(4,37),(5,8240),(6,164)]:List (Int×Int)).flatMap fun z=>[Value.int .i64 z.1,.int .i32 z.2]:=rfl
def rangeZ:List (Int×Int):=(List.range 16).map fun i=>(((Lib.accLo i:Nat):Int),((Lib.accHi i:Nat):Int))
theorem rangeVals_eq:rangeVals=rangeZ.flatMap fun z=>[Value.int .u8 z.1,.int .u8 z.2]:=by kernel_rfl
theorem laid_range:(Rows.laid_unicode_utf8_acceptRanges:DataW Unit)=.agg (rangeZ.map fun z=>.agg [.lit (.int .u8 z.1),.lit (.int .u8 z.2)]):=by kernel_rfl
theorem laid_signs:(Rows.laid_figurehead_affix_signs:DataW Unit)=.agg (([(2,45),(3,43),(4,37),(5,8240),(6,164)]:List (Int×Int)).map fun z=>.agg [.lit (.int .i64 z.1),.lit (.int .i32 z.2)]):=rfl
theorem laid_first:Rows.laid_unicode_utf8_first=Lib.firstData:=Pinned.utf8First_eq
theorem firstVals_eq:firstVals=Lib.firstTab.map fun z=>Value.int .u8 z:=by kernel_rfl
theorem zglob_signs {W:World} (h:Lib.VarReads Tryz.prog W "figurehead/affix.signs" (.agg (([(2,45),(3,43),(4,37),(5,8240),(6,164)]:List (Int×Int)).map fun z=>.agg [.lit (.int .i64 z.1),.lit (.int .i32 z.2)]))) :
  ∃ (cs:List Value) (ty:TypeId) (fz:Nat×Nat),W.heap[(0:Nat)]? = some (.cells cs.toArray ty fz)∧cs=signVals:=by
 obtain ⟨g,t,cs,fuel,p,hg,hty,hvar,hd⟩:=h
 obtain rfl:=Option.some.inj ((show Tryz.prog.globalNamed "figurehead/affix.signs" = some 0 by kernel_rfl).symm.trans hg)
 obtain rfl:=Option.some.inj ((show (Tryz.prog.globals[(0:Nat)]?).map (·.type)=some 159 by kernel_rfl).symm.trans hty)
 obtain ⟨ty,fz,hb⟩:=block_of_var hg hvar
 refine ⟨cs.toList,ty,fz,hb,?_⟩
 rw [signVals_eq]
 exact cells_of_pairs (n:=5) (e:=79) (f0:={ name := "Kind",type:=3,offset:=0,embedded:=false,tag := "",pkgPath := "",byteOffset:=0 }) (f1:={ name := "R",type:=21,offset:=1,embedded:=false,tag := "",pkgPath := "",byteOffset:=8 }) (by kernel_rfl) (by kernel_rfl) (by kernel_rfl) (by kernel_rfl) rfl rfl (by kernel_rfl) (by kernel_rfl) (by kernel_rfl) (by kernel_rfl) hd
theorem zglob_range {W:World} (h:Lib.VarReads Tryz.prog W "unicode/utf8.acceptRanges" (.agg (rangeZ.map fun z=>.agg [.lit (.int .u8 z.1),.lit (.int .u8 z.2)]))) :
  ∃ (cs:List Value) (ty:TypeId) (fz:Nat×Nat),W.heap[(2:Nat)]? = some (.cells cs.toArray ty fz)∧cs=rangeVals:=by
 obtain ⟨g,t,cs,fuel,p,hg,hty,hvar,hd⟩:=h
 obtain rfl:=Option.some.inj ((show Tryz.prog.globalNamed "unicode/utf8.acceptRanges" = some 2 by kernel_rfl).symm.trans hg)
 obtain rfl:=Option.some.inj ((show (Tryz.prog.globals[(2:Nat)]?).map (·.type)=some 185 by kernel_rfl).symm.trans hty)
 obtain ⟨ty,fz,hb⟩:=block_of_var hg hvar
 refine ⟨cs.toList,ty,fz,hb,?_⟩
 rw [rangeVals_eq]
 exact cells_of_pairs (n:=16) (e:=184) (f0:={ name := "lo",type:=5,offset:=0,embedded:=false,tag := "",pkgPath := "unicode/utf8",byteOffset:=0 }) (f1:={ name := "hi",type:=5,offset:=1,embedded:=false,tag := "",pkgPath := "unicode/utf8",byteOffset:=1 }) (by kernel_rfl) (by kernel_rfl) (by kernel_rfl) (by kernel_rfl) rfl rfl (by kernel_rfl) (by kernel_rfl) (by kernel_rfl) (by kernel_rfl) hd
theorem zglob_first {W:World} (h:Lib.VarReads Tryz.prog W "unicode/utf8.first" Lib.firstData) :
  ∃ (cs:List Value) (ty:TypeId) (fz:Nat×Nat),W.heap[(1:Nat)]? = some (.cells cs.toArray ty fz)∧cs=firstVals:=by
 obtain ⟨g,t,cs,fuel,p,hg,hty,hvar,hd⟩:=h
 obtain rfl:=Option.some.inj ((show Tryz.prog.globalNamed "unicode/utf8.first" = some 1 by kernel_rfl).symm.trans hg)
 obtain rfl:=Option.some.inj ((show (Tryz.prog.globals[(1:Nat)]?).map (·.type)=some 182 by kernel_rfl).symm.trans hty)
 obtain ⟨ty,fz,hb⟩:=block_of_var hg hvar
 refine ⟨cs.toList,ty,fz,hb,?_⟩
 rw [firstVals_eq]
 exact Lib.cells_of_tab (n:=256) (e:=5) (by kernel_rfl) (by kernel_rfl) (by kernel_rfl) (by kernel_rfl) hd
theorem zglob_max {W:World} (hsh:W.ShapedOpen Tryz.prog):∃ (cs:List Value) (ty:TypeId) (fz:Nat×Nat),W.heap[(3:Nat)]? = some (.cells cs.toArray ty fz)∧∃ m,cs=[.int .i64 m]:=by
 obtain ⟨m,hm⟩:=cell_of_shapedOpen_int (g:=3) (t:=3) (zero:=#[.int .i64 0]) (k:=.i64) hsh (Nat.le_of_ble_eq_true (by kernel_rfl)) (by kernel_rfl) rfl (by kernel_rfl) (by kernel_rfl) (by kernel_rfl)
 obtain ⟨cs,hh,hs,_⟩:=hsh.1 3 #[.int .i64 0] 3 (Nat.le_of_ble_eq_true (by kernel_rfl)) (by kernel_rfl)
 refine ⟨cs.toList,_,_,hh,m,?_⟩
 simp only [World.cell?,hh] at hm
 have h1:cs.size=1:=hs
 obtain ⟨l⟩:=cs
 match l,h1,hm with
 | [x],_,hm=>simp at hm; rw [hm]
theorem zglob_of {W:World} (hL:laidMet Tryz.prog laidL W) (hsh:W.ShapedOpen Tryz.prog):Glob Gl W:=by
 have h1:=Lib.laidMet.reads hL (n := "unicode/utf8.acceptRanges") (d:=Rows.laid_unicode_utf8_acceptRanges) (by simp [laidL])
 have h2:=Lib.laidMet.reads hL (n := "figurehead/affix.signs") (d:=Rows.laid_figurehead_affix_signs) (by simp [laidL])
 have h3:=Lib.laidMet.reads hL (n := "unicode/utf8.first") (d:=Rows.laid_unicode_utf8_first) (by simp [laidL])
 rw [laid_range] at h1
 rw [laid_signs] at h2
 rw [laid_first] at h3
 intro p hp
 simp only [Gl,List.mem_cons,List.not_mem_nil,or_false] at hp
 rcases hp with rfl | rfl | rfl | rfl
 ·exact zglob_signs h2
 ·exact zglob_first h3
 ·exact zglob_range h1
 ·exact zglob_max hsh
end Go.Proofs.YtglfkihckkjniaaGreatDoor.Vx
namespace Go.Proofs.YtglfkihckkjniaaGreatDoor.Vx
open Go Go.RowKit Go.ChangeShapes Go.WideShapes Go.ChangeAt Go.WideMaps Go.WideElems Go.Deep
section
variable {H:Type} {enc:TypeId×Value→H}
theorem shut_same {W W':World} {t:TypeId} {v:Value} {d:DataW H} {ps:List MemPlace} (hr:Tryz.prog.readableRec t=true) (hrow:t<Tryz.prog.types.size) (h:DataW.Trod enc Tryz.prog W 0 (fun _=>true) true t v d ps) (hb:Below W.heap.size W W') :
  DataW.Trod enc Tryz.prog W' 0 (fun b=>decide (b<W.heap.size)) true t v d ps:=by
 refine Below.trod laidOut hr hrow h hb ?_
 obtain ⟨n,hn⟩:=h
 exact DataW.trod_lt n _ _ _ hn
theorem reach_le {n:Nat} (h:n≤reachBytes):n≤140737488355328:=by unfold reachBytes at h; omega
theorem choose_list {α:Type} [Inhabited α] {n:Nat} {Q:Nat→α→Prop} (h:∀ i,i<n→∃ x,Q i x):∃ l:List α,l.length=n∧∀ i,i<n→Q i (l.getD i default):=by
 induction n with
 | zero=>exact ⟨[],rfl,fun i hi=>by omega⟩
 | succ n ih =>
  obtain ⟨l,h1,h2⟩:=ih fun i hi=>h i (by omega)
  obtain ⟨x,hx⟩:=h n (by omega)
  refine ⟨l++[x],by simp [h1],fun i hi=>?_⟩
  by_cases e:i<n
  ·rw [List.getD_eq_getElem?_getD,List.getElem?_append_left (by omega),← List.getD_eq_getElem?_getD]; exact h2 i e
  ·have:i=n:=by omega
   subst this
   rw [List.getD_eq_getElem?_getD,List.getElem?_append_right (by omega),h1]; simpa using hx
theorem items_flat_get (l:List Itm) {i:Nat} (h:i<l.length):(Ls.flat (.items l))[i*2]? = some (.int .i64 (l.getD i default).k)∧(Ls.flat (.items l))[i*2+1]? = some (.int .i32 (l.getD i default).r):=by
 have h0:=Ls.flat_get (.items l) i 0 (show 0<2 by decide)
 have h1:=Ls.flat_get (.items l) i 1 (show 1<2 by decide)
 have hr:(Ls.rows (.items l))[i]? = some [.int .i64 (l.getD i default).k,.int .i32 (l.getD i default).r]:=by
  show (l.map Itm.enc)[i]? = _
  rw [List.getElem?_map,getD_map l default h]; rfl
 rw [hr] at h0 h1
 exact ⟨h0,h1⟩
theorem open_itms {W:World} {v:Value} {d:DataW H} {ps:List MemPlace} {base:Nat} (hval:Value.okWide Tryz.prog W .any base 23 v) (h:DataW.Trod enc Tryz.prog W 0 (fun _=>true) true 23 v d ps) :
  ∃ l:List Itm,Reading W (fun _=>True) v (.items l)∧∀ (ts:List TypeId) (ds:List (DataW H)) (j:Nat),ts[j]? = some 23→ds[j]? = some d→(DataW.weightsEach Tryz.prog ts ds).all (·≤reachBytes)=true→l.length≤140737488355328 / 16:=by
 obtain ⟨a0,len,cap,rfl⟩:=okWide_slice Tryz.underlying23 hval
 obtain ⟨fuel,hf⟩:=h
 have hI:Tryz.prog.underlying 79=some (.struct #[{ name := "Kind",type:=3,offset:=0,embedded:=false,tag := "",pkgPath := "",byteOffset:=0 },{ name := "R",type:=21,offset:=1,embedded:=false,tag := "",pkgPath := "",byteOffset:=8 }]):=by kernel_rfl
 rcases open_slice_pairs (e:=79) Tryz.underlying23 hI (by kernel_rfl) rfl rfl (by kernel_rfl) (by kernel_rfl) hf with ⟨h1,h2⟩ | ⟨a,len',cap',m,n,V0,V1,D0,D1,P0,P1,h1,h2,h3,h4,h5,h6,h7⟩
 ·have h1:([.slice a0 len cap]:List Value)=[.slice none 0 0]:=h1
  injection h1 with h1 _
  injection h1 with e1 e2 e3
  subst e1; subst e2; subst e3
  exact ⟨[],⟨none,0,rfl,Nat.le_refl _,Nat.zero_le _,fun h=>absurd h (by decide)⟩,fun _ _ _ _ _ _=>Nat.zero_le _⟩
 ·have h1:([.slice a0 len cap]:List Value)=[.slice (some a) len' cap']:=h1
  injection h1 with h1 _
  injection h1 with e1 e2 e3
  subst e1; subst e2; subst e3
  have hm:m=cap:=h5
  have each:∀ i,i<len→∃ x:Itm,V0 i=.int .i64 x.k∧V1 i=.int .i32 x.r:=by
   intro i hi
   obtain ⟨c0,c1,t0,t1⟩:=h7 i (by omega)
   obtain ⟨k,q1,_⟩:=DataW.trod_int Tryz.underlying3 t0
   obtain ⟨r,q2,_⟩:=DataW.trod_int Tryz.underlying21 t1
   injection q1 with q1 _
   injection q2 with q2 _
   exact ⟨⟨k,r⟩,q1,q2⟩
  obtain ⟨l,hl,hv⟩:=choose_list each
  refine ⟨l,⟨some a,cap,by rw [show Ls.len (.items l)=l.length from rfl,hl],by rw [show Ls.len (.items l)=l.length from rfl,hl]; exact h3,by rw [show Ls.len (.items l)=l.length from rfl,hl]; omega,fun hpos=>?_⟩,fun ts ds j ht hd hw=>?_⟩
  ·have hpos:0<l.length:=hpos
   obtain ⟨b,o,sp⟩:=a
   have hsp:sp=none:=by
    have:=(h7 0 (by omega)).1
    rw [Nat.zero_mul] at this
    unfold World.cell? at this
    split at this
    ·split at this
     ·cases this
     ·rename_i hs
      cases sp with
      | none=>rfl
      | some x=>exact absurd rfl hs
    ·cases this
   subst hsp
   refine ⟨b,o,rfl,fun j hj=>?_,trivial⟩
   have hj:j<l.length*2:=hj
   have hc:∀ i,W.cell? ((⟨b,o,none⟩:Addr).add i)=W.cell? ⟨b,o+i,none⟩:=fun i=>by
    unfold Addr.add
    split
    ·rename_i e; rw [e]; rfl
    ·rfl
   have hi:j / 2<l.length:=by omega
   obtain ⟨c0,c1,_,_⟩:=h7 (j / 2) (by omega)
   obtain ⟨v0,v1⟩:=hv (j / 2) (by omega)
   obtain ⟨g0,g1⟩:=items_flat_get l hi
   rw [hc] at c0 c1
   have:j=j / 2*2∨j=j / 2*2+1:=by omega
   rcases this with e | e
   ·rw [e,c0,v0,g0]
   ·rw [e,c1,v1]
    have e2:(j / 2*2+1) / 2=j / 2:=by omega
    rw [g1]
  ·have hx:d=.slice ((List.range len).map fun i=>.agg [D0 i,D1 i]) ((List.range (m-len)).map fun j=>.agg [D0 (len+j),D1 (len+j)]):=by injection h6
   subst hx
   have:=sized_slice hw ht hd Tryz.underlying23
   have hb:Tryz.prog.bytesOf 79=16:=by kernel_rfl
   rw [hb] at this
   simp only [List.length_map,List.length_range] at this
   unfold reachBytes at this
   omega
end
end Go.Proofs.YtglfkihckkjniaaGreatDoor.Vx
namespace Go.Proofs.YtglfkihckkjniaaGreatDoor
open Go Go.RowKit Go.ChangeShapes Go.WideShapes Go.ChangeAt Go.WideMaps Go.WideElems
open Go.ChangeMaps (open_string shut_string)
theorem patternIgnored_lifted (os:Os) (started:os.Started) (H:Type) (enc:TypeId×Value→H) :
  ReturnsInHanded {} Tryz.checked os 6 .any (fun w args=>(Rows.patternIgnoredSpec.pre enc Tryz.prog Tryz.f6 [] false w args∧laidMetH Tryz.prog Vx.laidL w)∧sizedMet enc Tryz.prog Tryz.f6 (OpenSpec.ofChange Rows.patternIgnoredSpec) false w args)
   (Rows.patternIgnoredSpec.post enc Tryz.prog Tryz.f6 false true false false):=by
 refine Vx.returnsInHanded_of_change_both (C:=Tryz.checked) (X:=fun w _=>laidMetH Tryz.prog Vx.laidL w) (fun _ _ _ hh h=>h.of_heap hh) Vx.own started (by kernel_rfl) Tryz.func6
  (ChangeSpec.witness_shaped (enc:=enc) (C:=Tryz.checked) (os:=os) (X:=fun w _=>laidMetH Tryz.prog Vx.laidL w) false (World.laidAll Tryz.prog os Vx.laidL) #[.string ⟨#[]⟩,.string ⟨#[]⟩,.slice none 0 0,.slice none 0 0] 8 (World.laidAll_os _ _ _)
   (World.shaped_of_ZipB (by kernel_rfl) (by kernel_rfl)) (by kernel_rfl) (by kernel_rfl) (by kernel_rfl)
   (by rw [MakeChecks.laidMetH_plain _ _ _ (by kernel_rfl)]; exact laidMet_laidAll _ (by kernel_rfl) (by kernel_rfl))) ?_
 intro W base args ds gs before hval0 hW hwt hL hsh
 have hval:∀ (j:Nat) t v,(Tryz.f6).params[j]? = some t→args[j]? = some v→Value.okWide Tryz.prog W .any base t v:=hval0
 have hW':=hW
 obtain ⟨p,q,hA0,hV,rfl,_,_⟩:=hW
 have hA:DataW.TrodAll enc Tryz.prog W 0 (fun _=>true) true (Tryz.f6).params.toList args.toList ds p:=hA0
 rw [Tryz.params6] at hA hval hwt
 obtain ⟨v0,vs0,d0,ds0,p0,q0,ea0,ed0,ep0,h0,hr0⟩:=trodAll_cons hA
 obtain ⟨v1,vs1,d1,ds1,p1,q1,ea1,ed1,ep1,h1,hr1⟩:=trodAll_cons hr0
 obtain ⟨v2,vs2,d2,ds2,p2,q2,ea2,ed2,ep2,h2,hr2⟩:=trodAll_cons hr1
 obtain ⟨v3,vs3,d3,ds3,p3,q3,ea3,ed3,ep3,h3,hr3⟩:=trodAll_cons hr2
 obtain ⟨ea4,ed4,ep4⟩:=trodAll_nil hr3
 subst ea4; subst ed4; subst ep4
 subst ea3; subst ed3; subst ep3
 subst ea2; subst ed2; subst ep2
 subst ea1; subst ed1; subst ep1
 obtain rfl:args = #[v0,v1,v2,v3]:=by cases args; simp_all
 subst ed0; subst ep0
 obtain ⟨rfl,rfl⟩:=trodVars_none hV
 have g0:=h0
 obtain ⟨s0,rfl,rfl,rfl,ws0⟩:=open_string Tryz.underlying9 (hval 0 9 v0 rfl rfl) h0
 have g1:=h1
 obtain ⟨s1,rfl,rfl,rfl,ws1⟩:=open_string Tryz.underlying9 (hval 1 9 v1 rfl rfl) h1
 have g2:=h2
 obtain ⟨l2,rd2,wl2⟩:=Vx.open_itms (hval 2 _ v2 rfl rfl) h2
 have wl2:=wl2 _ _ 2 rfl rfl hwt
 have g3:=h3
 obtain ⟨l3,rd3,wl3⟩:=Vx.open_itms (hval 3 _ v3 rfl rfl) h3
 have wl3:=wl3 _ _ 3 rfl rfl hwt
 rw [MakeChecks.laidMetH_plain _ _ _ (by kernel_rfl)] at hL
 have hG:=Vx.zglob_of hL hsh
 refine (Vx.ok_lIgnored.calls [.one (.str s0.data.toList),.one (.str s1.data.toList),.one (.rd (.items l2)),.one (.rd (.items l3))] _ _ rfl ?_ W (fun _=>True) [.string s0,.string s1,v2,v3] hG (.cons rfl (.cons rfl (.cons rd2 (.cons rd3 .nil))))).mono fun e W' ⟨v,he,hf,hr⟩=>?_
 ·exact ⟨Vx.reach_le (sized_string (j:=0) hwt rfl rfl),Vx.reach_le (sized_string (j:=1) hwt rfl rfl),(by omega:l2.length≤10000000000000),(by omega:l3.length≤10000000000000)⟩
 ·subst he
  have hv:v=.bool true:=hr
  subst hv
  have hb:=hf.toBelow
  exact ⟨_,rfl,_,_,_,[],_,[],hW',trodAll_mk1 (shut_bool Tryz.underlying4 _),(trodAll_cons_mk (Vx.shut_same (by kernel_rfl) (of_decide_eq_true (by kernel_rfl)) g0 hb) (trodAll_cons_mk (Vx.shut_same (by kernel_rfl) (of_decide_eq_true (by kernel_rfl)) g1 hb) (trodAll_cons_mk (Vx.shut_same (by kernel_rfl) (of_decide_eq_true (by kernel_rfl)) g2 hb) (trodAll_cons_mk (Vx.shut_same (by kernel_rfl) (of_decide_eq_true (by kernel_rfl)) g3 hb) trodAll_mk0)))),rfl,hb.frame _,fun h=>by cases h⟩
theorem patternIgnored_row:Rows.PatternIgnoredSaid :=
 OpenClaim.holds_of_wide 6 Tryz.f6 rfl rfl rfl rfl rfl rfl rfl ⟨rfl,rfl,rfl,rfl,rfl⟩ rfl rfl rfl rfl rfl (by kernel_rfl) Tryz.func6 (by kernel_rfl)
  (of_decide_eq_true (by kernel_rfl)) (by unfold Func.isWrapper; first | (rw [if_pos (by decide +kernel)]; kernel_rfl) | (rw [if_neg (by decide +kernel)]; exact ⟨rfl,rfl⟩))
  (fun os started H enc _=>patternIgnored_lifted os started H enc)
theorem patternIgnored_holds:Rows.PatternIgnoredCardSaid :=
 Claim7.holds_tied_plain_at .later [] [.data,.data,.pinned] true (true, "efc9b9724901080112084f73a697328dd09578dd28719bb0ac9c248973d7dd84") true
  patternIgnored_row (fun _ h=>by cases h) (by kernel_rfl) (fun _ h=>by cases h) patternIgnored_row_tie rfl ⟨rfl,rfl⟩ (by kernel_rfl) rfl
  (fun f fn hf hfn=>by
   obtain rfl:f=6:=Option.some.inj ((show Tryz.prog.funcNamed "figurehead/figureheadlaw16.PatternIgnored" = some 6 by kernel_rfl).symm.trans hf) |>.symm
   obtain rfl:fn=Tryz.f6:=(Option.some.inj (Tryz.func6.symm.trans hfn)).symm
   exact ⟨by kernel_rfl,fun j t ht=>by
    rw [Tryz.params6] at ht
    have hm:t∈[9,9,23,23]:=by simpa using Array.mem_of_getElem? ht
    have hall:([9,9,23,23].all fun u=>!(Tryz.prog).wantsStandIn u)=true:=by kernel_rfl
    exact (show (Tryz.prog).wantsStandIn t=false by simpa using List.all_eq_true.1 hall t hm)⟩)
  (by kernel_rfl)
#print axioms patternIgnored_holds
end Go.Proofs.YtglfkihckkjniaaGreatDoor
