/-
A part of the proof of Ignored: lemmas and contracts. No statement of the seat is proved here.
-/
import Derived.Lib.SplitLaws
import Derived.Shelf.Spec.SlicesGrow
import Derived.Test.YtglfkihckkjniaaGreatDoorClIgnored1
set_option maxRecDepth 100000
set_option linter.unusedVariables false
set_option linter.unusedSimpArgs false
namespace Go.Proofs.YtglfkihckkjniaaGreatDoor.Vx
open Go Go.RowKit
def Asc (s:List UInt8):Prop:=∀ c∈s,c.toNat<128
def hasR (s:List UInt8) (r:Int):Bool:=s.any fun c=>(c.toNat:Int)==r
def HR (s:List UInt8) (r:Int):Type:={i:Nat // i≤s.length∧hasR (s.take i) r=false}
def sp_hasRune:FSpec:=⟨[],fun | [.one (.str s),.one (.int .i32 r)]=>some ([Asc s],.one (.bool (hasR s r))) | _=>none⟩
theorem vc_hasRune (s:List UInt8) (r:Int):vcP [] [] misc Tryz.f85 (.loop 2 (HR s r) (fun i=>⟨[(0,.one (.str s)),(1,.one (.int .i32 r)),(8,.one (.slc 17))],[(17,some (.iter s i.1))],18⟩) (fun i=>s.length-i.1) (fun _=>.nil) .nil) [.one (.str s),.one (.int .i32 r)] (.one (.bool (hasR s r)))=(((∃ (x:HR s r),s=s∧r=r∧(0:Nat)=Subtype.val x∧s=s)∧∀ (x:HR s r),br (decide (Subtype.val x<List.length s)) (br (dec s (Subtype.val x)==r) (true=hasR s r) (∃ (x':HR s r),(s=s∧r=r∧Subtype.val x+wid s (Subtype.val x)=Subtype.val x'∧s=s)∧List.length s-Subtype.val x'<List.length s-Subtype.val x)) (false=hasR s r))):=by kernel_rfl
set_option maxHeartbeats 4000000 in
theorem of_hasRune (h:∀ (s:List UInt8) (r:Int),(Asc s)→vcP [] [] misc Tryz.f85 (.loop 2 (HR s r) (fun i=>⟨[(0,.one (.str s)),(1,.one (.int .i32 r)),(8,.one (.slc 17))],[(17,some (.iter s i.1))],18⟩) (fun i=>s.length-i.1) (fun _=>.nil) .nil) [.one (.str s),.one (.int .i32 r)] (.one (.bool (hasR s r)))):FnP 85 sp_hasRune:=by
 refine fnP_ok (cs:=[]) (cas:=[]) (ms:=misc) .nil .nil misc_ok 85 Tryz.f85 (by kernel_rfl) (by kernel_rfl) (by kernel_rfl) (fun | [.one (.str s),.one (.int .i32 r)]=>.loop 2 (HR s r) (fun i=>⟨[(0,.one (.str s)),(1,.one (.int .i32 r)),(8,.one (.slc 17))],[(17,some (.iter s i.1))],18⟩) (fun i=>s.length-i.1) (fun _=>.nil) .nil | _=>.nil) ?_
 intro pvs p r hs hp
 unfold sp_hasRune at hs
 simp only at hs
 split at hs
 ·rename_i s r
  cases hs
  refine h s r ?_
  ·exact hp
 ·cases hs
theorem dec_asc {s:List UInt8} (h:Asc s) {i:Nat} (hi:i<s.length):dec s i=((s.getD i 0).toNat:Int)∧wid s i=1:=by
 obtain ⟨q1,q2⟩:=dec_decL s i
 have hm:s.getD i 0∈s:=getD_mem' hi
 have hlt:=h _ hm
 have hd:decL (s.drop i)=((s.getD i 0).toNat,1):=by
  have hne:s.drop i≠[]:=by simp; omega
  have hb:bt (s.drop i) 0=(s.getD i 0).toNat:=by rw [bt_drop]; rfl
  have hc:Cls (s.drop i) ((s.getD i 0).toNat:Int) 1:=by
   have h1:(s.getD i 0)=UInt8.ofNat ((s.getD i 0).toNat:Int).toNat:=by simp
   have h2:Starts (s.drop i) ((s.getD i 0).toNat:Int):=by
    refine ⟨scalar_iff.2 (by omega),?_⟩
    rw [enc1 (by omega) (by omega),← h1]
    exact ⟨s.drop (i+1),by rw [List.singleton_append]; exact (List.drop_eq_getElem_cons hi ▸ by rw [List.getD_eq_getElem?_getD,List.getElem?_eq_getElem hi]; rfl)⟩
   refine cls_iff.2 ⟨h2,?_⟩
   rw [enc1 (by omega) (by omega)]; rfl
  exact ((decL_iff hne).2 hc).1
 rw [q1,q2,hd]
 exact ⟨rfl,rfl⟩
theorem hasR_next {s:List UInt8} {r:Int} {i:Nat} (h:i<s.length):hasR (s.take (i+1)) r=(hasR (s.take i) r || (((s.getD i 0).toNat:Int)==r)):=by
 unfold hasR
 rw [take_next s 0 h,List.any_append]; simp
theorem hasR_mem {s:List UInt8} {r:Int} {i:Nat} (h:i<s.length) (hr:((s.getD i 0).toNat:Int)=r):hasR s r=true:=by
 unfold hasR
 exact List.any_eq_true.2 ⟨s.getD i 0,getD_mem' h,by simpa using hr⟩
theorem ok_hasRune:FnP 85 sp_hasRune:=of_hasRune (by
 intro s r hs
 rw [vc_hasRune]
 refine ⟨⟨⟨0,Nat.zero_le _,rfl⟩,rfl,rfl,rfl,rfl⟩,fun i=>br_of (fun h=>?_) fun h=>?_⟩
 ·have h:i.1<s.length:=of_decide_eq_true h
  obtain ⟨q1,q2⟩:=dec_asc hs h
  rw [q1,q2]
  refine br_of (fun h1=>?_) fun h1=>⟨⟨i.1+1,h,by rw [hasR_next h,i.2.2,h1]; rfl⟩,⟨rfl,rfl,rfl,rfl⟩,by show s.length-(i.1+1)<_; omega⟩
  rw [hasR_mem h (by simpa using h1)]
 ·have h:¬ i.1<s.length:=of_decide_eq_false h
  have:=i.2.2
  rw [List.take_of_length_le (by omega)] at this
  rw [this])
def isIn (c:List UInt8) (y:Iv):Bool:=y.isS && (!y.sQ && hasR c y.sR)
def sp_is:FSpec:=⟨[],fun | [.one (.iv y),.one (.str c)]=>some ([Asc c],.one (.bool (isIn c y))) | _=>none⟩
theorem vc_is (y:Iv) (c:List UInt8):vcP [(85,sp_hasRune)] [] misc Tryz.f62 (.nil) [.one (.iv y),.one (.str c)] (.one (.bool (isIn c y)))=((br (Iv.isS y) (br (!Iv.sQ y) ((∀ (c_1:UInt8),c_1∈c→UInt8.toNat c_1<(128:Nat))∧hasR c (Iv.sR y)=isIn c y) (false=isIn c y)) (false=isIn c y))):=by kernel_rfl
set_option maxHeartbeats 4000000 in
theorem of_is (h:∀ (y:Iv) (c:List UInt8),(Asc c)→vcP [(85,sp_hasRune)] [] misc Tryz.f62 (.nil) [.one (.iv y),.one (.str c)] (.one (.bool (isIn c y)))):FnP 62 sp_is:=by
 refine fnP_ok (cs:=[(85,sp_hasRune)]) (cas:=[]) (ms:=misc) (.cons ok_hasRune .nil) .nil misc_ok 62 Tryz.f62 (by kernel_rfl) (by kernel_rfl) (by kernel_rfl) (fun _=>.nil) ?_
 intro pvs p r hs hp
 unfold sp_is at hs
 simp only at hs
 split at hs
 ·rename_i y c
  cases hs
  refine h y c ?_
  ·exact hp
 ·cases hs
theorem ok_is:FnP 62 sp_is:=of_is (by
 intro y c hc
 rw [vc_is]
 unfold isIn
 refine br_of (fun h=>br_of (fun h1=>⟨hc,by rw [h,h1]; rfl⟩) fun h1=>by rw [h1,Bool.false_and,Bool.and_false]) fun h=>by rw [h]; rfl)
def bodyC:List UInt8:=[35,48,49,50,51,52,53,54,55,56,57,64,44,46]
theorem asc_iff {c:List UInt8}:Asc c↔(c.all fun x=>decide (x.toNat<128))=true:=by simp [Asc]
theorem bodyC_asc:Asc bodyC:=asc_iff.2 rfl
theorem semi_asc:Asc [59]:=asc_iff.2 rfl
def sp_run1:FSpec:=⟨[],fun | [.one (.iv y),.one (.ref 9 (.str c))]=>some ([Asc c],.one (.bool (!isIn c y))) | _=>none⟩
theorem vc_run1 (y:Iv) (c:List UInt8):vcP [(62,sp_is)] [] misc Tryz.f112 (.nil) [.one (.iv y),.one (.ref 9 (.str c))] (.one (.bool (!isIn c y)))=(((∀ (c_1:UInt8),c_1∈c→UInt8.toNat c_1<(128:Nat))∧(!isIn c y) = !isIn c y)):=by kernel_rfl
set_option maxHeartbeats 4000000 in
theorem of_run1 (h:∀ (y:Iv) (c:List UInt8),(Asc c)→vcP [(62,sp_is)] [] misc Tryz.f112 (.nil) [.one (.iv y),.one (.ref 9 (.str c))] (.one (.bool (!isIn c y)))):FnP 112 sp_run1:=by
 refine fnP_ok (cs:=[(62,sp_is)]) (cas:=[]) (ms:=misc) (.cons ok_is .nil) .nil misc_ok 112 Tryz.f112 (by kernel_rfl) (by kernel_rfl) (by kernel_rfl) (fun _=>.nil) ?_
 intro pvs p r hs hp
 unfold sp_run1 at hs
 simp only at hs
 split at hs
 ·rename_i y c
  cases hs
  refine h y c ?_
  ·exact hp
 ·cases hs
theorem ok_run1:FnP 112 sp_run1:=of_run1 (by
 intro y c hc
 rw [vc_run1]
 exact ⟨hc,rfl⟩)
def sp_ahead1:FSpec:=⟨[],fun | [.one (.iv y)]=>some ([],.one (.bool (isIn [59] y))) | _=>none⟩
theorem vc_ahead1 (y:Iv):vcP [(62,sp_is)] [] misc Tryz.f61 (.nil) [.one (.iv y)] (.one (.bool (isIn [59] y)))=(((∀ (c:UInt8),c∈([(59:UInt8)]:List UInt8)→UInt8.toNat c<(128:Nat))∧isIn (([(59:UInt8)]:List UInt8)) y=isIn [(59:UInt8)] y)):=by kernel_rfl
set_option maxHeartbeats 4000000 in
theorem of_ahead1 (h:∀ (y:Iv),vcP [(62,sp_is)] [] misc Tryz.f61 (.nil) [.one (.iv y)] (.one (.bool (isIn [59] y)))):FnP 61 sp_ahead1:=by
 refine fnP_ok (cs:=[(62,sp_is)]) (cas:=[]) (ms:=misc) (.cons ok_is .nil) .nil misc_ok 61 Tryz.f61 (by kernel_rfl) (by kernel_rfl) (by kernel_rfl) (fun _=>.nil) ?_
 intro pvs p r hs hp
 unfold sp_ahead1 at hs
 simp only at hs
 split at hs
 ·rename_i y
  cases hs
  refine h y
 ·cases hs
theorem ok_ahead1:FnP 61 sp_ahead1:=of_ahead1 (by
 intro y
 rw [vc_ahead1]
 exact ⟨semi_asc,rfl⟩)
def sp_cut1:FSpec:=⟨[],fun | [.one (.iv y)]=>some ([],.one (.bool (isIn bodyC y))) | _=>none⟩
theorem vc_cut1 (y:Iv):vcP [(62,sp_is)] [] misc Tryz.f86 (.nil) [.one (.iv y)] (.one (.bool (isIn bodyC y)))=(letI v0:=([(35:UInt8),(48:UInt8),(49:UInt8),(50:UInt8),(51:UInt8),(52:UInt8),(53:UInt8),(54:UInt8),(55:UInt8),(56:UInt8),(57:UInt8),(64:UInt8),(44:UInt8),(46:UInt8)]:List UInt8); ((∀ (c:UInt8),c∈v0→UInt8.toNat c<(128:Nat))∧isIn (v0) y=isIn bodyC y)):=by kernel_rfl
set_option maxHeartbeats 4000000 in
theorem of_cut1 (h:∀ (y:Iv),vcP [(62,sp_is)] [] misc Tryz.f86 (.nil) [.one (.iv y)] (.one (.bool (isIn bodyC y)))):FnP 86 sp_cut1:=by
 refine fnP_ok (cs:=[(62,sp_is)]) (cas:=[]) (ms:=misc) (.cons ok_is .nil) .nil misc_ok 86 Tryz.f86 (by kernel_rfl) (by kernel_rfl) (by kernel_rfl) (fun _=>.nil) ?_
 intro pvs p r hs hp
 unfold sp_cut1 at hs
 simp only at hs
 split at hs
 ·rename_i y
  cases hs
  refine h y
 ·cases hs
theorem ok_cut1:FnP 86 sp_cut1:=of_cut1 (by
 intro y
 rw [vc_cut1]
 exact ⟨bodyC_asc,rfl⟩)
def idxZ {α:Type} (P:α→Bool) (l:List α):Int:=if l.findIdx P<l.length then (l.findIdx P:Int) else -1
def None {α:Type} (P:α→Bool) (l:List α):Type:={i:Nat // i≤l.length∧∀ y∈l.take i,P y=false}
def sp_idxR:FSpec:=⟨[],fun | [.one (.rd (.ivs l)),.one (.fnv 112 [(9,.str c)])]=>some ([Asc c,l.length≤1000000000],.one (.int .i64 (idxZ (fun y=>!isIn c y) l))) | _=>none⟩
theorem vc_idxR (l:List Iv) (c:List UInt8):vcP [(112,sp_run1)] [] misc Tryz.f84 (.loop 2 (None (fun y=>!isIn c y) l) (fun i=>⟨[(0,.one (.slc 0)),(1,.one (.fn 112 [(1,0)])),(7,.one (.int .i64 l.length)),(8,.one (.int .i64 i.1))],[(0,some (.read (.ivs l))),(1,some (.ro 9 [.str c]))],18⟩) (fun i=>l.length-i.1) (fun _=>.nil) .nil) [.one (.rd (.ivs l)),.one (.fnv 112 [(9,.str c)])] (.one (.int .i64 (idxZ (fun y=>!isIn c y) l)))=(letI v0:=(↑(List.length l):Int); ((∃ (x:None (fun (y:Iv)=>!isIn c y) l),v0=v0∧(0:Int)=(↑(Subtype.val x):Int)∧l=l∧c=c)∧∀ (x:None (fun (y:Iv)=>!isIn c y) l),(letI v1:=(↑(Subtype.val x):Int); br (decide (v1<v0)) (((0:Int)≤v1∧v1<v0)∧Int.toNat v1<List.length l∧(∀ (c_1:UInt8),c_1∈c→UInt8.toNat c_1<(128:Nat))∧br (!isIn c (List.getD l (Int.toNat v1) default)) (v1=idxZ (fun (y:Iv)=>!isIn c y) l) (inR IntKind.i64 (v1+(1:Int))∧∃ (x':None (fun (y:Iv)=>!isIn c y) l),(v0=v0∧v1+(1:Int)=(↑(Subtype.val x'):Int)∧l=l∧c=c)∧List.length l-Subtype.val x'<List.length l-Subtype.val x)) ((-1:Int)=idxZ (fun (y:Iv)=>!isIn c y) l)))):=by kernel_rfl
set_option maxHeartbeats 4000000 in
theorem of_idxR (h:∀ (l:List Iv) (c:List UInt8),(Asc c)→(l.length≤1000000000)→vcP [(112,sp_run1)] [] misc Tryz.f84 (.loop 2 (None (fun y=>!isIn c y) l) (fun i=>⟨[(0,.one (.slc 0)),(1,.one (.fn 112 [(1,0)])),(7,.one (.int .i64 l.length)),(8,.one (.int .i64 i.1))],[(0,some (.read (.ivs l))),(1,some (.ro 9 [.str c]))],18⟩) (fun i=>l.length-i.1) (fun _=>.nil) .nil) [.one (.rd (.ivs l)),.one (.fnv 112 [(9,.str c)])] (.one (.int .i64 (idxZ (fun y=>!isIn c y) l)))):FnP 84 sp_idxR:=by
 refine fnP_ok (cs:=[(112,sp_run1)]) (cas:=[]) (ms:=misc) (.cons ok_run1 .nil) .nil misc_ok 84 Tryz.f84 (by kernel_rfl) (by kernel_rfl) (by kernel_rfl) (fun | [.one (.rd (.ivs l)),.one (.fnv 112 [(9,.str c)])]=>.loop 2 (None (fun y=>!isIn c y) l) (fun i=>⟨[(0,.one (.slc 0)),(1,.one (.fn 112 [(1,0)])),(7,.one (.int .i64 l.length)),(8,.one (.int .i64 i.1))],[(0,some (.read (.ivs l))),(1,some (.ro 9 [.str c]))],18⟩) (fun i=>l.length-i.1) (fun _=>.nil) .nil | _=>.nil) ?_
 intro pvs p r hs hp
 unfold sp_idxR at hs
 simp only at hs
 split at hs
 ·rename_i l c
  cases hs
  refine h l c ?_ ?_
  ·exact hp.1
  ·exact hp.2
 ·cases hs
def sp_idxA:FSpec:=⟨[],fun | [.one (.rd (.ivs l)),.one (.fnv 61 [])]=>some ([l.length≤1000000000],.one (.int .i64 (idxZ (isIn [59]) l))) | _=>none⟩
theorem vc_idxA (l:List Iv):vcP [(61,sp_ahead1)] [] misc Tryz.f84 (.loop 2 (None (isIn [59]) l) (fun i=>⟨[(0,.one (.slc 0)),(1,.one (.fn 61 [])),(7,.one (.int .i64 l.length)),(8,.one (.int .i64 i.1))],[(0,some (.read (.ivs l)))],18⟩) (fun i=>l.length-i.1) (fun _=>.nil) .nil) [.one (.rd (.ivs l)),.one (.fnv 61 [])] (.one (.int .i64 (idxZ (isIn [59]) l)))=(letI v0:=(↑(List.length l):Int); ((∃ (x:None (isIn [(59:UInt8)]) l),v0=v0∧(0:Int)=(↑(Subtype.val x):Int)∧l=l)∧∀ (x:None (isIn [(59:UInt8)]) l),(letI v1:=(↑(Subtype.val x):Int); br (decide (v1<v0)) (((0:Int)≤v1∧v1<v0)∧Int.toNat v1<List.length l∧br (isIn [(59:UInt8)] (List.getD l (Int.toNat v1) default)) (v1=idxZ (isIn [(59:UInt8)]) l) (inR IntKind.i64 (v1+(1:Int))∧∃ (x':None (isIn [(59:UInt8)]) l),(v0=v0∧v1+(1:Int)=(↑(Subtype.val x'):Int)∧l=l)∧List.length l-Subtype.val x'<List.length l-Subtype.val x)) ((-1:Int)=idxZ (isIn [(59:UInt8)]) l)))):=by kernel_rfl
set_option maxHeartbeats 4000000 in
theorem of_idxA (h:∀ (l:List Iv),(l.length≤1000000000)→vcP [(61,sp_ahead1)] [] misc Tryz.f84 (.loop 2 (None (isIn [59]) l) (fun i=>⟨[(0,.one (.slc 0)),(1,.one (.fn 61 [])),(7,.one (.int .i64 l.length)),(8,.one (.int .i64 i.1))],[(0,some (.read (.ivs l)))],18⟩) (fun i=>l.length-i.1) (fun _=>.nil) .nil) [.one (.rd (.ivs l)),.one (.fnv 61 [])] (.one (.int .i64 (idxZ (isIn [59]) l)))):FnP 84 sp_idxA:=by
 refine fnP_ok (cs:=[(61,sp_ahead1)]) (cas:=[]) (ms:=misc) (.cons ok_ahead1 .nil) .nil misc_ok 84 Tryz.f84 (by kernel_rfl) (by kernel_rfl) (by kernel_rfl) (fun | [.one (.rd (.ivs l)),.one (.fnv 61 [])]=>.loop 2 (None (isIn [59]) l) (fun i=>⟨[(0,.one (.slc 0)),(1,.one (.fn 61 [])),(7,.one (.int .i64 l.length)),(8,.one (.int .i64 i.1))],[(0,some (.read (.ivs l)))],18⟩) (fun i=>l.length-i.1) (fun _=>.nil) .nil | _=>.nil) ?_
 intro pvs p r hs hp
 unfold sp_idxA at hs
 simp only at hs
 split at hs
 ·rename_i l
  cases hs
  refine h l ?_
  ·exact hp
 ·cases hs
def sp_idxC:FSpec:=⟨[],fun | [.one (.rd (.ivs l)),.one (.fnv 86 [])]=>some ([l.length≤1000000000],.one (.int .i64 (idxZ (isIn bodyC) l))) | _=>none⟩
theorem vc_idxC (l:List Iv):vcP [(86,sp_cut1)] [] misc Tryz.f84 (.loop 2 (None (isIn bodyC) l) (fun i=>⟨[(0,.one (.slc 0)),(1,.one (.fn 86 [])),(7,.one (.int .i64 l.length)),(8,.one (.int .i64 i.1))],[(0,some (.read (.ivs l)))],18⟩) (fun i=>l.length-i.1) (fun _=>.nil) .nil) [.one (.rd (.ivs l)),.one (.fnv 86 [])] (.one (.int .i64 (idxZ (isIn bodyC) l)))=(letI v0:=(↑(List.length l):Int); ((∃ (x:None (isIn bodyC) l),v0=v0∧(0:Int)=(↑(Subtype.val x):Int)∧l=l)∧∀ (x:None (isIn bodyC) l),(letI v1:=(↑(Subtype.val x):Int); br (decide (v1<v0)) (((0:Int)≤v1∧v1<v0)∧Int.toNat v1<List.length l∧br (isIn bodyC (List.getD l (Int.toNat v1) default)) (v1=idxZ (isIn bodyC) l) (inR IntKind.i64 (v1+(1:Int))∧∃ (x':None (isIn bodyC) l),(v0=v0∧v1+(1:Int)=(↑(Subtype.val x'):Int)∧l=l)∧List.length l-Subtype.val x'<List.length l-Subtype.val x)) ((-1:Int)=idxZ (isIn bodyC) l)))):=by kernel_rfl
set_option maxHeartbeats 4000000 in
theorem of_idxC (h:∀ (l:List Iv),(l.length≤1000000000)→vcP [(86,sp_cut1)] [] misc Tryz.f84 (.loop 2 (None (isIn bodyC) l) (fun i=>⟨[(0,.one (.slc 0)),(1,.one (.fn 86 [])),(7,.one (.int .i64 l.length)),(8,.one (.int .i64 i.1))],[(0,some (.read (.ivs l)))],18⟩) (fun i=>l.length-i.1) (fun _=>.nil) .nil) [.one (.rd (.ivs l)),.one (.fnv 86 [])] (.one (.int .i64 (idxZ (isIn bodyC) l)))):FnP 84 sp_idxC:=by
 refine fnP_ok (cs:=[(86,sp_cut1)]) (cas:=[]) (ms:=misc) (.cons ok_cut1 .nil) .nil misc_ok 84 Tryz.f84 (by kernel_rfl) (by kernel_rfl) (by kernel_rfl) (fun | [.one (.rd (.ivs l)),.one (.fnv 86 [])]=>.loop 2 (None (isIn bodyC) l) (fun i=>⟨[(0,.one (.slc 0)),(1,.one (.fn 86 [])),(7,.one (.int .i64 l.length)),(8,.one (.int .i64 i.1))],[(0,some (.read (.ivs l)))],18⟩) (fun i=>l.length-i.1) (fun _=>.nil) .nil | _=>.nil) ?_
 intro pvs p r hs hp
 unfold sp_idxC at hs
 simp only at hs
 split at hs
 ·rename_i l
  cases hs
  refine h l ?_
  ·exact hp
 ·cases hs
theorem None.hit {α:Type} {P:α→Bool} {l:List α} (x:None P l) {d:α} (h:x.1<l.length) (hp:P (l.getD x.1 d)=true):l.findIdx P=x.1:=by
 have hg:l.getD x.1 d=l[x.1]:=by rw [List.getD_eq_getElem?_getD,List.getElem?_eq_getElem h]; rfl
 rw [hg] at hp
 refine (List.findIdx_eq h).2 ⟨hp,fun j hj=>x.2.2 _ ?_⟩
 rw [List.mem_take_iff_getElem]
 exact ⟨j,by omega,rfl⟩
theorem None.over {α:Type} {P:α→Bool} {l:List α} (x:None P l) (h:¬ x.1<l.length):l.findIdx P=l.length:=by
 have h1:=x.2.2
 rw [List.take_of_length_le (by omega)] at h1
 exact List.findIdx_eq_length.2 h1
def None.zero {α:Type} (P:α→Bool) (l:List α):None P l:=⟨0,Nat.zero_le _,fun y hy=>by cases hy⟩
def None.next {α:Type} {P:α→Bool} {l:List α} (x:None P l) (d:α) (h:x.1<l.length) (hp:P (l.getD x.1 d)=false):None P l:=⟨x.1+1,h,fun y hy=>by
 rw [take_next l d h] at hy
 rcases List.mem_append.1 hy with hy | hy
 ·exact x.2.2 y hy
 ·rw [List.mem_singleton] at hy; rw [hy]; exact hp⟩
theorem None.hitZ {α:Type} {P:α→Bool} {l:List α} (x:None P l) {d:α} (h:x.1<l.length) (hp:P (l.getD x.1 d)=true):idxZ P l=x.1:=by
 unfold idxZ; rw [x.hit h hp,if_pos h]
theorem None.overZ {α:Type} {P:α→Bool} {l:List α} (x:None P l) (h:¬ x.1<l.length):idxZ P l = -1:=by
 unfold idxZ; rw [x.over h,if_neg (Nat.lt_irrefl _)]
theorem ok_idxR:FnP 84 sp_idxR:=of_idxR (by
 intro l c hc hl
 rw [vc_idxR]
 refine ⟨⟨.zero _ l,rfl,rfl,rfl,rfl⟩,fun x=>br_of (fun h=>?_) fun h=>?_⟩
 ·have h:x.1<l.length:=by simpa using h
  rw [Int.toNat_natCast]
  exact ⟨⟨by omega,by omega⟩,h,hc,br_of (fun h1=>(x.hitZ h h1).symm) fun h1=>⟨by simp only [inR]; omega,x.next default h h1,⟨rfl,rfl,rfl,rfl⟩,by show l.length-(x.1+1)<_; omega⟩⟩
 ·exact (x.overZ (by simpa using h)).symm)
theorem ok_idxA:FnP 84 sp_idxA:=of_idxA (by
 intro l hl
 rw [vc_idxA]
 refine ⟨⟨.zero _ l,rfl,rfl,rfl⟩,fun x=>br_of (fun h=>?_) fun h=>?_⟩
 ·have h:x.1<l.length:=by simpa using h
  rw [Int.toNat_natCast]
  exact ⟨⟨by omega,by omega⟩,h,br_of (fun h1=>(x.hitZ h h1).symm) fun h1=>⟨by simp only [inR]; omega,x.next default h h1,⟨rfl,rfl,rfl⟩,by show l.length-(x.1+1)<_; omega⟩⟩
 ·exact (x.overZ (by simpa using h)).symm)
theorem ok_idxC:FnP 84 sp_idxC:=of_idxC (by
 intro l hl
 rw [vc_idxC]
 refine ⟨⟨.zero _ l,rfl,rfl,rfl⟩,fun x=>br_of (fun h=>?_) fun h=>?_⟩
 ·have h:x.1<l.length:=by simpa using h
  rw [Int.toNat_natCast]
  exact ⟨⟨by omega,by omega⟩,h,br_of (fun h1=>(x.hitZ h h1).symm) fun h1=>⟨by simp only [inR]; omega,x.next default h h1,⟨rfl,rfl,rfl⟩,by show l.length-(x.1+1)<_; omega⟩⟩
 ·exact (x.overZ (by simpa using h)).symm)
def sp_untilR:FSpec:=⟨[],fun | [.one (.rd (.ivs l)),.one (.fnv 112 [(9,.str c)])]=>some ([Asc c,l.length≤1000000000],.one (.int .i64 (l.findIdx fun y=>!isIn c y))) | _=>none⟩
theorem vc_untilR (l:List Iv) (c:List UInt8):vcP [(84,sp_idxR)] [] misc Tryz.f60 (.nil) [.one (.rd (.ivs l)),.one (.fnv 112 [(9,.str c)])] (.one (.int .i64 (l.findIdx fun y=>!isIn c y)))=(((∀ (c_1:UInt8),c_1∈c→UInt8.toNat c_1<(128:Nat))∧List.length l≤(1000000000:Nat)∧br (decide (idxZ (fun (y:Iv)=>!isIn c y) l≥(0:Int))) (idxZ (fun (y:Iv)=>!isIn c y) l=(↑(List.findIdx (fun (y:Iv)=>!isIn c y) l):Int)) ((↑(List.length l):Int)=(↑(List.findIdx (fun (y:Iv)=>!isIn c y) l):Int)))):=by kernel_rfl
set_option maxHeartbeats 4000000 in
theorem of_untilR (h:∀ (l:List Iv) (c:List UInt8),(Asc c)→(l.length≤1000000000)→vcP [(84,sp_idxR)] [] misc Tryz.f60 (.nil) [.one (.rd (.ivs l)),.one (.fnv 112 [(9,.str c)])] (.one (.int .i64 (l.findIdx fun y=>!isIn c y)))):FnP 60 sp_untilR:=by
 refine fnP_ok (cs:=[(84,sp_idxR)]) (cas:=[]) (ms:=misc) (.cons ok_idxR .nil) .nil misc_ok 60 Tryz.f60 (by kernel_rfl) (by kernel_rfl) (by kernel_rfl) (fun _=>.nil) ?_
 intro pvs p r hs hp
 unfold sp_untilR at hs
 simp only at hs
 split at hs
 ·rename_i l c
  cases hs
  refine h l c ?_ ?_
  ·exact hp.1
  ·exact hp.2
 ·cases hs
def sp_untilA:FSpec:=⟨[],fun | [.one (.rd (.ivs l)),.one (.fnv 61 [])]=>some ([l.length≤1000000000],.one (.int .i64 (l.findIdx (isIn [59])))) | _=>none⟩
theorem vc_untilA (l:List Iv):vcP [(84,sp_idxA)] [] misc Tryz.f60 (.nil) [.one (.rd (.ivs l)),.one (.fnv 61 [])] (.one (.int .i64 (l.findIdx (isIn [59]))))=((List.length l≤(1000000000:Nat)∧br (decide (idxZ (isIn [(59:UInt8)]) l≥(0:Int))) (idxZ (isIn [(59:UInt8)]) l=(↑(List.findIdx (isIn [(59:UInt8)]) l):Int)) ((↑(List.length l):Int)=(↑(List.findIdx (isIn [(59:UInt8)]) l):Int)))):=by kernel_rfl
set_option maxHeartbeats 4000000 in
theorem of_untilA (h:∀ (l:List Iv),(l.length≤1000000000)→vcP [(84,sp_idxA)] [] misc Tryz.f60 (.nil) [.one (.rd (.ivs l)),.one (.fnv 61 [])] (.one (.int .i64 (l.findIdx (isIn [59]))))):FnP 60 sp_untilA:=by
 refine fnP_ok (cs:=[(84,sp_idxA)]) (cas:=[]) (ms:=misc) (.cons ok_idxA .nil) .nil misc_ok 60 Tryz.f60 (by kernel_rfl) (by kernel_rfl) (by kernel_rfl) (fun _=>.nil) ?_
 intro pvs p r hs hp
 unfold sp_untilA at hs
 simp only at hs
 split at hs
 ·rename_i l
  cases hs
  refine h l ?_
  ·exact hp
 ·cases hs
theorem until_of {P:Iv→Bool} {l:List Iv}:br (decide (idxZ P l≥0)) (idxZ P l=(l.findIdx P:Int)) ((l.length:Int)=(l.findIdx P:Int)):=by
 unfold idxZ
 have:=List.findIdx_le_length (p:=P) (xs:=l)
 split
 ·exact br_of (fun _=>rfl) fun h=>by simp at h
 ·exact br_of (fun h=>by simp at h) fun h=>by omega
theorem ok_untilR:FnP 60 sp_untilR:=of_untilR (by
 intro l c hc hl
 rw [vc_untilR]
 exact ⟨hc,hl,until_of⟩)
theorem ok_untilA:FnP 60 sp_untilA:=of_untilA (by
 intro l hl
 rw [vc_untilA]
 exact ⟨hl,until_of⟩)
def runN (l:List Iv) (c:List UInt8):Nat:=l.findIdx fun y=>!isIn c y
def sp_run:FSpec:=⟨[],fun | [.one (.rd (.ivs l)),.one (.str c)]=>some ([Asc c,l.length≤1000000000],.one (.int .i64 (runN l c))) | _=>none⟩
theorem vc_run (l:List Iv) (c:List UInt8):vcP [(60,sp_untilR)] [] misc Tryz.f87 (.nil) [.one (.rd (.ivs l)),.one (.str c)] (.one (.int .i64 (runN l c)))=(((∀ (c_1:UInt8),c_1∈c→UInt8.toNat c_1<(128:Nat))∧List.length l≤(1000000000:Nat)∧(↑(List.findIdx (fun (y:Iv)=>!isIn c y) l):Int)=(↑(runN l c):Int))):=by kernel_rfl
set_option maxHeartbeats 4000000 in
theorem of_run (h:∀ (l:List Iv) (c:List UInt8),(Asc c)→(l.length≤1000000000)→vcP [(60,sp_untilR)] [] misc Tryz.f87 (.nil) [.one (.rd (.ivs l)),.one (.str c)] (.one (.int .i64 (runN l c)))):FnP 87 sp_run:=by
 refine fnP_ok (cs:=[(60,sp_untilR)]) (cas:=[]) (ms:=misc) (.cons ok_untilR .nil) .nil misc_ok 87 Tryz.f87 (by kernel_rfl) (by kernel_rfl) (by kernel_rfl) (fun _=>.nil) ?_
 intro pvs p r hs hp
 unfold sp_run at hs
 simp only at hs
 split at hs
 ·rename_i l c
  cases hs
  refine h l c ?_ ?_
  ·exact hp.1
  ·exact hp.2
 ·cases hs
def sp_ahead:FSpec:=⟨[],fun | [.one (.rd (.ivs l))]=>some ([l.length≤1000000000],.one (.int .i64 (l.findIdx (isIn [59])))) | _=>none⟩
theorem vc_ahead (l:List Iv):vcP [(60,sp_untilA)] [] misc Tryz.f32 (.nil) [.one (.rd (.ivs l))] (.one (.int .i64 (l.findIdx (isIn [59]))))=((List.length l≤(1000000000:Nat)∧(↑(List.findIdx (isIn [(59:UInt8)]) l):Int)=(↑(List.findIdx (isIn [(59:UInt8)]) l):Int))):=by kernel_rfl
set_option maxHeartbeats 4000000 in
theorem of_ahead (h:∀ (l:List Iv),(l.length≤1000000000)→vcP [(60,sp_untilA)] [] misc Tryz.f32 (.nil) [.one (.rd (.ivs l))] (.one (.int .i64 (l.findIdx (isIn [59]))))):FnP 32 sp_ahead:=by
 refine fnP_ok (cs:=[(60,sp_untilA)]) (cas:=[]) (ms:=misc) (.cons ok_untilA .nil) .nil misc_ok 32 Tryz.f32 (by kernel_rfl) (by kernel_rfl) (by kernel_rfl) (fun _=>.nil) ?_
 intro pvs p r hs hp
 unfold sp_ahead at hs
 simp only at hs
 split at hs
 ·rename_i l
  cases hs
  refine h l ?_
  ·exact hp
 ·cases hs
theorem ok_run:FnP 87 sp_run:=of_run (by
 intro l c hc hl
 rw [vc_run]
 exact ⟨hc,hl,rfl⟩)
theorem ok_ahead:FnP 32 sp_ahead:=of_ahead (by
 intro l hl
 rw [vc_ahead]
 exact ⟨hl,rfl⟩)
def sp_text:FSpec:=⟨[],fun | [.one (.rd (.ivs l))]=>some ([(∀ y∈l,y.isS=true∧scalar y.sR=true),l.length≤1000000000],.one (.str (encs (l.map Iv.sR)))) | _=>none⟩
theorem vc_text (l:List Iv):vcP [] [(104,sp_writeRune),(107,sp_bstr)] misc Tryz.f88 (.loop 3 (Upto l) (fun i=>⟨[(3,.one (.ptr 17 0)),(6,.one (.slc 0)),(7,.one (.int .i64 l.length)),(8,.one (.int .i64 i.1))],[(0,some (.read (.ivs l))),(17,some (.cells 149 [.mp 17 (decide (0<i.1)),.slc 18])),(18,some (.row 5 (.ints .u8 (bys ((l.take i.1).map Iv.sR)))))],19⟩) (fun i=>l.length-i.1) (fun _=>.nil) .nil) [.one (.rd (.ivs l))] (.one (.str (encs (l.map Iv.sR))))=(letI v0:=(↑(List.length l):Int); ((∃ (x:Upto l),v0=v0∧(0:Int)=(↑(Subtype.val x):Int)∧l=l∧false=decide ((0:Nat)<Subtype.val x)∧[]=bys (List.map Iv.sR (List.take (Subtype.val x) l)))∧∀ (x:Upto l),(letI v1:=(↑(Subtype.val x):Int); letI v2:=(List.map Iv.sR (List.take (Subtype.val x) l)); letI v3:=(List.getD l (Int.toNat v1) default); br (decide (v1<v0)) (((0:Int)≤v1∧v1<v0)∧Int.toNat v1<List.length l∧Iv.isS v3=true∧scalar (Iv.sR v3)=true∧List.length (bys v2)≤(1000000000000:Nat)∧inR IntKind.i64 (v1+(1:Int))∧∃ (x':Upto l),(v0=v0∧v1+(1:Int)=(↑(Subtype.val x'):Int)∧l=l∧true=decide ((0:Nat)<Subtype.val x')∧bys v2++Lib.encodeRuneZ (Iv.sR v3)=bys (List.map Iv.sR (List.take (Subtype.val x') l)))∧List.length l-Subtype.val x'<List.length l-Subtype.val x) ((∀ (n:Int),n∈bys v2→(0:Int)≤n∧n<(256:Int))∧u8s (bys v2)=encs (List.map Iv.sR l))))):=by kernel_rfl
set_option maxHeartbeats 4000000 in
theorem of_text (h:∀ (l:List Iv),((∀ y∈l,y.isS=true∧scalar y.sR=true))→(l.length≤1000000000)→vcP [] [(104,sp_writeRune),(107,sp_bstr)] misc Tryz.f88 (.loop 3 (Upto l) (fun i=>⟨[(3,.one (.ptr 17 0)),(6,.one (.slc 0)),(7,.one (.int .i64 l.length)),(8,.one (.int .i64 i.1))],[(0,some (.read (.ivs l))),(17,some (.cells 149 [.mp 17 (decide (0<i.1)),.slc 18])),(18,some (.row 5 (.ints .u8 (bys ((l.take i.1).map Iv.sR)))))],19⟩) (fun i=>l.length-i.1) (fun _=>.nil) .nil) [.one (.rd (.ivs l))] (.one (.str (encs (l.map Iv.sR))))):FnP 88 sp_text:=by
 refine fnP_ok (cs:=[]) (cas:=[(104,sp_writeRune),(107,sp_bstr)]) (ms:=misc) .nil (.cons ok_writeRune (.cons ok_bstr .nil)) misc_ok 88 Tryz.f88 (by kernel_rfl) (by kernel_rfl) (by kernel_rfl) (fun | [.one (.rd (.ivs l))]=>.loop 3 (Upto l) (fun i=>⟨[(3,.one (.ptr 17 0)),(6,.one (.slc 0)),(7,.one (.int .i64 l.length)),(8,.one (.int .i64 i.1))],[(0,some (.read (.ivs l))),(17,some (.cells 149 [.mp 17 (decide (0<i.1)),.slc 18])),(18,some (.row 5 (.ints .u8 (bys ((l.take i.1).map Iv.sR)))))],19⟩) (fun i=>l.length-i.1) (fun _=>.nil) .nil | _=>.nil) ?_
 intro pvs p r hs hp
 unfold sp_text at hs
 simp only at hs
 split at hs
 ·rename_i l
  cases hs
  refine h l ?_ ?_
  ·exact hp.1
  ·exact hp.2
 ·cases hs
def plainT (l:List Iv):List Tok:=(l.filter Iv.isS).map Iv.tok
def sp_plain:FSpec:=⟨[],fun | [.one (.rd (.ivs l))]=>some ([l.length≤1000000000],.one (.rd (.toks (plainT l)))) | _=>none⟩
theorem vc_plain (l:List Iv):vcP [] [] misc Tryz.f66 (.loop 3 (Upto l) (fun i=>⟨[(3,.one (.slc 17)),(8,.one (.slc 0)),(9,.one (.int .i64 l.length)),(10,.one (.int .i64 i.1))],[(0,some (.read (.ivs l))),(17,some (.row 71 (.toks (plainT (l.take i.1)))))],18⟩) (fun i=>l.length-i.1) (fun _=>.nil) .nil) [.one (.rd (.ivs l))] (.one (.rd (.toks (plainT l))))=(letI v0:=(↑(List.length l):Int); ((∃ (x:Upto l),v0=v0∧(0:Int)=(↑(Subtype.val x):Int)∧l=l∧plainT (List.take (Subtype.val x) l)=[])∧∀ (x:Upto l),(letI v1:=(↑(Subtype.val x):Int); letI v2:=(List.getD l (Int.toNat v1) default); letI v3:=(List.take (Subtype.val x) l); br (decide (v1<v0)) (((0:Int)≤v1∧v1<v0)∧Int.toNat v1<List.length l∧br (Iv.isS v2) ((List.length (plainT v3)+(1:Nat))*(16:Nat)≤(140737488355328:Nat)∧inR IntKind.i64 (v1+(1:Int))∧∃ (x':Upto l),(v0=v0∧v1+(1:Int)=(↑(Subtype.val x'):Int)∧l=l∧plainT v3++[{ r:=Iv.sR v2,q:=Iv.sQ v2,p:=Iv.sP v2 }]=plainT (List.take (Subtype.val x') l))∧List.length l-Subtype.val x'<List.length l-Subtype.val x) (inR IntKind.i64 (v1+(1:Int))∧∃ (x':Upto l),(v0=v0∧v1+(1:Int)=(↑(Subtype.val x'):Int)∧l=l∧plainT v3=plainT (List.take (Subtype.val x') l))∧List.length l-Subtype.val x'<List.length l-Subtype.val x)) (plainT v3=plainT l)))):=by kernel_rfl
set_option maxHeartbeats 4000000 in
theorem of_plain (h:∀ (l:List Iv),(l.length≤1000000000)→vcP [] [] misc Tryz.f66 (.loop 3 (Upto l) (fun i=>⟨[(3,.one (.slc 17)),(8,.one (.slc 0)),(9,.one (.int .i64 l.length)),(10,.one (.int .i64 i.1))],[(0,some (.read (.ivs l))),(17,some (.row 71 (.toks (plainT (l.take i.1)))))],18⟩) (fun i=>l.length-i.1) (fun _=>.nil) .nil) [.one (.rd (.ivs l))] (.one (.rd (.toks (plainT l))))):FnP 66 sp_plain:=by
 refine fnP_ok (cs:=[]) (cas:=[]) (ms:=misc) .nil .nil misc_ok 66 Tryz.f66 (by kernel_rfl) (by kernel_rfl) (by kernel_rfl) (fun | [.one (.rd (.ivs l))]=>.loop 3 (Upto l) (fun i=>⟨[(3,.one (.slc 17)),(8,.one (.slc 0)),(9,.one (.int .i64 l.length)),(10,.one (.int .i64 i.1))],[(0,some (.read (.ivs l))),(17,some (.row 71 (.toks (plainT (l.take i.1)))))],18⟩) (fun i=>l.length-i.1) (fun _=>.nil) .nil | _=>.nil) ?_
 intro pvs p r hs hp
 unfold sp_plain at hs
 simp only at hs
 split at hs
 ·rename_i l
  cases hs
  refine h l ?_
  ·exact hp
 ·cases hs
def isStar (t:Tok):Bool:=!t.q && t.r==42
def Tok.sg (t:Tok):Iv:=.single t.r t.q t.p
def elemsL:List Tok→List Iv×Option Int
 | []=>([],none)
 | [t]=>if isStar t then ([],some t.p) else ([t.sg],none)
 | t :: x :: m =>
  if isStar t then (.padding x.r t.p :: (elemsL m).1,(elemsL m).2)
  else (t.sg :: (elemsL (x :: m)).1,(elemsL (x :: m)).2)
def elemsR (l:List Tok):List Iv×Int×Int :=
 match (elemsL l).2 with
 | none=>((elemsL l).1,0,0)
 | some p=>([],7,p)
structure ES (l:List Tok) where
 n:Nat
 ps:List Iv
 le:n≤l.length
 few:ps.length≤n
 fin1:ps++(elemsL (l.drop n)).1=(elemsL l).1
 fin2:(elemsL (l.drop n)).2=(elemsL l).2
def sp_elements:FSpec:=⟨[],fun | [.one (.rd (.toks l))]=>some ([l.length≤1000000000],.tup [(false,[.rd (.ivs (elemsR l).1)]),(true,[.int .i64 (elemsR l).2.1,.int .i64 (elemsR l).2.2])]) | _=>none⟩
theorem vc_elements (l:List Tok):vcP [] [] misc Tryz.f31 (.loop 3 (ES l) (fun x=>⟨[(0,.one (.slc 0)),(3,.one (.ptr 16 0)),(4,.one (.slc 17)),(5,.one (.int .i64 x.n))],[(0,some (.read (.toks l))),(16,some (.cells 28 [.int .i64 0,.int .i64 0])),(17,some (.row 57 (.ivs x.ps)))],18⟩) (fun x=>l.length-x.n) (fun _=>.nil) .nil) [.one (.rd (.toks l))] (.tup [(false,[.rd (.ivs (elemsR l).1)]),(true,[.int .i64 (elemsR l).2.1,.int .i64 (elemsR l).2.2])])=(letI v0:=(↑(List.length l):Int); ((∃ (x:ES l),(0:Int)=(↑(ES.n x):Int)∧l=l∧(0:Int)=(0:Int)∧(0:Int)=(0:Int)∧ES.ps x=[])∧∀ (x:ES l),(letI v1:=(List.getD l (Int.toNat (↑(ES.n x):Int)) default); letI v2:=((↑(ES.n x):Int)+(1:Int)); letI v3:=(List.length (ES.ps x)+(1:Nat)); br (decide ((↑(ES.n x):Int)<v0)) (((0:Int)≤(↑(ES.n x):Int)∧(↑(ES.n x):Int)<v0)∧Int.toNat (↑(ES.n x):Int)<List.length l∧br (Tok.q v1) (v3*(16:Nat)≤(140737488355328:Nat)∧inR IntKind.i64 v2∧∃ (x':ES l),((↑(ES.n x):Int)+(1:Int)=(↑(ES.n x'):Int)∧l=l∧(0:Int)=(0:Int)∧(0:Int)=(0:Int)∧ES.ps x++[Iv.single (Tok.r v1) (Tok.q v1) (Tok.p v1)]=ES.ps x')∧List.length l-ES.n x'<List.length l-ES.n x) (br (Tok.r v1 != (42:Int)) (v3*(16:Nat)≤(140737488355328:Nat)∧inR IntKind.i64 v2∧∃ (x':ES l),((↑(ES.n x):Int)+(1:Int)=(↑(ES.n x'):Int)∧l=l∧(0:Int)=(0:Int)∧(0:Int)=(0:Int)∧ES.ps x++[Iv.single (Tok.r v1) (Tok.q v1) (Tok.p v1)]=ES.ps x')∧List.length l-ES.n x'<List.length l-ES.n x) (inR IntKind.i64 v2∧br ((↑(ES.n x):Int)+(1:Int)==v0) ([]=(elemsR l).1∧(7:Int)=(elemsR l).2.1∧Tok.p v1=(elemsR l).2.2) (inR IntKind.i64 v2∧((0:Int)≤(↑(ES.n x):Int)+(1:Int)∧(↑(ES.n x):Int)+(1:Int)<v0)∧Int.toNat v2<List.length l∧v3*(16:Nat)≤(140737488355328:Nat)∧inR IntKind.i64 ((↑(ES.n x):Int)+(1:Int)+(1:Int))∧∃ (x':ES l),((↑(ES.n x):Int)+(1:Int)+(1:Int)=(↑(ES.n x'):Int)∧l=l∧(0:Int)=(0:Int)∧(0:Int)=(0:Int)∧ES.ps x++[Iv.padding (Tok.r (List.getD l (Int.toNat v2) default)) (Tok.p v1)]=ES.ps x')∧List.length l-ES.n x'<List.length l-ES.n x)))) (ES.ps x=(elemsR l).1∧(0:Int)=(elemsR l).2.1∧(0:Int)=(elemsR l).2.2)))):=by kernel_rfl
set_option maxHeartbeats 4000000 in
theorem of_elements (h:∀ (l:List Tok),(l.length≤1000000000)→vcP [] [] misc Tryz.f31 (.loop 3 (ES l) (fun x=>⟨[(0,.one (.slc 0)),(3,.one (.ptr 16 0)),(4,.one (.slc 17)),(5,.one (.int .i64 x.n))],[(0,some (.read (.toks l))),(16,some (.cells 28 [.int .i64 0,.int .i64 0])),(17,some (.row 57 (.ivs x.ps)))],18⟩) (fun x=>l.length-x.n) (fun _=>.nil) .nil) [.one (.rd (.toks l))] (.tup [(false,[.rd (.ivs (elemsR l).1)]),(true,[.int .i64 (elemsR l).2.1,.int .i64 (elemsR l).2.2])])):FnP 31 sp_elements:=by
 refine fnP_ok (cs:=[]) (cas:=[]) (ms:=misc) .nil .nil misc_ok 31 Tryz.f31 (by kernel_rfl) (by kernel_rfl) (by kernel_rfl) (fun | [.one (.rd (.toks l))]=>.loop 3 (ES l) (fun x=>⟨[(0,.one (.slc 0)),(3,.one (.ptr 16 0)),(4,.one (.slc 17)),(5,.one (.int .i64 x.n))],[(0,some (.read (.toks l))),(16,some (.cells 28 [.int .i64 0,.int .i64 0])),(17,some (.row 57 (.ivs x.ps)))],18⟩) (fun x=>l.length-x.n) (fun _=>.nil) .nil | _=>.nil) ?_
 intro pvs p r hs hp
 unfold sp_elements at hs
 simp only at hs
 split at hs
 ·rename_i l
  cases hs
  refine h l ?_
  ·exact hp
 ·cases hs
theorem ok_text:FnP 88 sp_text:=of_text (by
 intro l hl hn
 rw [vc_text]
 refine ⟨⟨⟨0,Nat.zero_le _⟩,rfl,rfl,rfl,rfl,rfl⟩,fun i=>br_of (fun h=>?_) fun h=>?_⟩
 ·have h:i.1<l.length:=by simpa using h
  obtain ⟨h1,h2⟩:=hl _ (getD_mem' (d:=default) h)
  have:=bys_len ((l.take i.1).map Iv.sR)
  have h3:((l.take i.1).map Iv.sR).length≤l.length:=by simp; omega
  rw [Int.toNat_natCast]
  refine ⟨⟨by omega,by omega⟩,h,h1,h2,by omega,by simp only [inR]; omega,⟨i.1+1,by omega⟩,⟨rfl,rfl,rfl,by simp,?_⟩,by show l.length-(i.1+1)<l.length-i.1; omega⟩
  show _=bys ((l.take (i.1+1)).map Iv.sR)
  rw [take_next l default h,List.map_append,bys_append]
  show _=_++bys [_]
  rw [bys_one]
 ·have h:¬ i.1<l.length:=by simpa using h
  rw [List.take_of_length_le (by omega)]
  exact ⟨bys_bytes _,u8s_bys _⟩)
theorem plainT_next {l:List Iv} {i:Nat} (h:i<l.length):plainT (l.take (i+1))=plainT (l.take i)++if (l.getD i default).isS then [(l.getD i default).tok] else []:=by
 unfold plainT
 rw [take_next l default h,List.filter_append,List.map_append]
 congr 1
 by_cases hb:(l.getD i default).isS=true
 ·rw [if_pos hb,List.filter_cons_of_pos hb]; rfl
 ·rw [if_neg hb,List.filter_cons_of_neg hb]; rfl
theorem plainT_len (l:List Iv):(plainT l).length≤l.length:=by
 unfold plainT
 rw [List.length_map]
 exact List.length_filter_le _ _
theorem tok_single {y:Iv} (h:y.isS=true):(⟨y.sR,y.sQ,y.sP⟩:Tok)=y.tok:=by
 cases y<;>first | rfl | cases h
theorem ok_plain:FnP 66 sp_plain:=of_plain (by
 intro l hn
 rw [vc_plain]
 refine ⟨⟨⟨0,Nat.zero_le _⟩,rfl,rfl,rfl,rfl⟩,fun i=>br_of (fun h=>?_) fun h=>?_⟩
 ·have h:i.1<l.length:=by simpa using h
  have h1:=plainT_len (l.take i.1)
  have h2:(l.take i.1).length≤l.length:=by simp; omega
  have h3:=plainT_next h
  rw [Int.toNat_natCast]
  refine ⟨⟨by omega,by omega⟩,h,br_of (fun hb=>?_) fun hb=>?_⟩
  ·refine ⟨by omega,by simp only [inR]; omega,⟨i.1+1,h⟩,⟨rfl,rfl,rfl,?_⟩,by show l.length-(i.1+1)<l.length-i.1; omega⟩
   show _=plainT (l.take (i.1+1))
   rw [h3,if_pos hb,tok_single hb]
  ·refine ⟨by simp only [inR]; omega,⟨i.1+1,h⟩,⟨rfl,rfl,rfl,?_⟩,by show l.length-(i.1+1)<l.length-i.1; omega⟩
   show _=plainT (l.take (i.1+1))
   rw [h3,if_neg (by rw [hb]; decide),List.append_nil]
 ·have h:¬ i.1<l.length:=by simpa using h
  rw [List.take_of_length_le (by omega)])
theorem elemsL_other {t:Tok} {m:List Tok} (h:isStar t=false):elemsL (t :: m)=(t.sg :: (elemsL m).1,(elemsL m).2):=by
 cases m with
 | nil=>unfold elemsL; rw [if_neg (by rw [h]; decide)]
 | cons x m=>rw [elemsL,if_neg (by rw [h]; decide)]
theorem elemsL_end {t:Tok} (h:isStar t=true):elemsL [t]=([],some t.p):=by unfold elemsL; rw [if_pos h]
theorem elemsL_star {t x:Tok} {m:List Tok} (h:isStar t=true):elemsL (t :: x :: m)=(.padding x.r t.p :: (elemsL m).1,(elemsL m).2):=by rw [elemsL,if_pos h]
theorem drop_next {α:Type} (l:List α) (d:α) {i:Nat} (h:i<l.length):l.drop i=l.getD i d :: l.drop (i+1):=by
 rw [List.drop_eq_getElem_cons h,List.getD_eq_getElem?_getD,List.getElem?_eq_getElem h]; rfl
def ES.one {l:List Tok} (x:ES l) (h:x.n<l.length) (hs:isStar (l.getD x.n default)=false):ES l where
 n:=x.n+1
 ps:=x.ps++[(l.getD x.n default).sg]
 le:=h
 few:=by have:=x.few; simp; omega
 fin1:=by
  have h1:=x.fin1
  rw [drop_next l default h,elemsL_other hs] at h1
  rw [List.append_assoc]; exact h1
 fin2:=by
  have h1:=x.fin2
  rw [drop_next l default h,elemsL_other hs] at h1
  exact h1
def ES.two {l:List Tok} (x:ES l) (h:x.n+1<l.length) (hs:isStar (l.getD x.n default)=true):ES l where
 n:=x.n+1+1
 ps:=x.ps++[.padding (l.getD (x.n+1) default).r (l.getD x.n default).p]
 le:=h
 few:=by have:=x.few; simp; omega
 fin1:=by
  have h1:=x.fin1
  rw [drop_next l default (by omega),drop_next l default h,elemsL_star hs] at h1
  rw [List.append_assoc]; exact h1
 fin2:=by
  have h1:=x.fin2
  rw [drop_next l default (by omega),drop_next l default h,elemsL_star hs] at h1
  exact h1
theorem ok_elements:FnP 31 sp_elements:=of_elements (by
 intro l hn
 rw [vc_elements]
 refine ⟨⟨⟨0,[],Nat.zero_le _,Nat.le_refl _,rfl,rfl⟩,rfl,rfl,rfl,rfl,rfl⟩,fun x=>br_of (fun h=>?_) fun h=>?_⟩
 ·have h:x.n<l.length:=by simpa using h
  have hf:=x.few
  rw [Int.toNat_natCast]
  have hone:∀ hs:isStar (l.getD x.n default)=false,(x.ps.length+1)*16≤140737488355328∧inR .i64 ((x.n:Int)+1)∧∃ (x':ES l),((x.n:Int)+1=(x'.n:Int)∧l=l∧(0:Int)=0∧(0:Int)=0∧x.ps++[Iv.single (l.getD x.n default).r (l.getD x.n default).q (l.getD x.n default).p]=x'.ps)∧l.length-x'.n<l.length-x.n:=fun hs =>
   ⟨by omega,by simp only [inR]; omega,x.one h hs,⟨rfl,rfl,rfl,rfl,rfl⟩,by show l.length-(x.n+1)<_; omega⟩
  refine ⟨⟨by omega,by omega⟩,h,br_of (fun h1=>hone (by unfold isStar; rw [h1]; rfl)) fun h1=>br_of (fun h2=>hone (by unfold isStar; rw [h1]; simpa using h2)) fun h2=>⟨by simp only [inR]; omega,br_of (fun h3=>?_) fun h3=>?_⟩⟩
  ·have hs:isStar (l.getD x.n default)=true:=by unfold isStar; rw [h1]; simpa using h2
   have h3:x.n+1=l.length:=by have:=eq_of_beq h3; omega
   have h4:=x.fin2
   rw [drop_next l default h,List.drop_of_length_le (by omega),elemsL_end hs] at h4
   unfold elemsR
   rw [← h4]
   exact ⟨rfl,rfl,rfl⟩
  ·have hs:isStar (l.getD x.n default)=true:=by unfold isStar; rw [h1]; simpa using h2
   have h3:x.n+1<l.length:=by
    have:¬ ((x.n:Int)+1=(l.length:Int)):=by simpa using h3
    omega
   rw [show ((x.n:Int)+1).toNat=x.n+1 by omega]
   exact ⟨by simp only [inR]; omega,⟨by omega,by omega⟩,h3,by omega,by simp only [inR]; omega,x.two h3 hs,⟨rfl,rfl,rfl,rfl,rfl⟩,by show l.length-(x.n+1+1)<_; omega⟩
 ·have h:¬ x.n<l.length:=by simpa using h
  have h1:=x.fin1
  have h2:=x.fin2
  rw [List.drop_of_length_le (by omega)] at h1 h2
  have h1:x.ps++[]=(elemsL l).1:=h1
  have h2:none=(elemsL l).2:=h2
  unfold elemsR
  rw [← h2,← h1,List.append_nil]
  exact ⟨rfl,rfl,rfl⟩)
def spotsN (N:Nat) (a b:Int):Nat→List Iv→List Spot
 | _,[]=>[]
 | n,y :: l=>(if y.isP then [⟨y.pR,y.pP,if n=0 then a else if n+1=N then b else 0⟩] else [])++spotsN N a b (n+1) l
structure PS (l:List Iv) (a b:Int) where
 n:Nat
 ds:List Spot
 le:n≤l.length
 few:ds.length≤n
 fin:ds++spotsN l.length a b n (l.drop n)=spotsN l.length a b 0 l
def sp_spots1:ASpec:=⟨fun | [.one (.slc 0),.one (.int .i64 a),.one (.int .i64 b),.one (.ptr 1 0)],[(0,some (.read (.ivs l))),(1,some (.cells 135 [.slc 2])),(2,some (.row 62 (.spots ps)))]=>some ([l.length≤1000000000,ps.length≤1000000000],.tup [],[(0,some (.read (.ivs l))),(1,some (.cells 135 [.slc 16])),(16,some (.row 62 (.spots (ps++spotsN l.length a b 0 l))))]) | _,_=>none⟩
theorem vc_spots1 (l:List Iv) (a b:Int) (ps:List Spot):vcA [] [] misc Tryz.f113 (.loop 1 (PS l a b) (fun x=>⟨[(0,.one (.slc 0)),(1,.one (.int .i64 a)),(2,.one (.int .i64 b)),(3,.one (.ptr 1 0)),(11,.one (.slc 0)),(12,.one (.int .i64 l.length)),(13,.one (.int .i64 x.n))],[(0,some (.read (.ivs l))),(1,some (.cells 135 [.slc 17])),(17,some (.row 62 (.spots (ps++x.ds))))],18⟩) (fun x=>l.length-x.n) (fun _=>.nil) .nil) [.one (.slc 0),.one (.int .i64 a),.one (.int .i64 b),.one (.ptr 1 0)] [(0,some (.read (.ivs l))),(1,some (.cells 135 [.slc 2])),(2,some (.row 62 (.spots ps)))] (.tup []) [(0,some (.read (.ivs l))),(1,some (.cells 135 [.slc 16])),(16,some (.row 62 (.spots (ps++spotsN l.length a b 0 l))))]=(letI v0:=(↑(List.length l):Int); ((∃ (x:PS l a b),a=a∧b=b∧v0=v0∧(0:Int)=(↑(PS.n x):Int)∧l=l∧ps=ps++PS.ds x)∧∀ (x:PS l a b),(letI v1:=(List.getD l (Int.toNat (↑(PS.n x):Int)) default); letI v2:=((↑(PS.n x):Int)+(1:Int)); letI v3:=(List.length (ps++PS.ds x)+(1:Nat)); br (decide ((↑(PS.n x):Int)<v0)) (((0:Int)≤(↑(PS.n x):Int)∧(↑(PS.n x):Int)<v0)∧Int.toNat (↑(PS.n x):Int)<List.length l∧br (!Iv.isP v1) (inR IntKind.i64 v2∧∃ (x':PS l a b),(a=a∧b=b∧v0=v0∧(↑(PS.n x):Int)+(1:Int)=(↑(PS.n x'):Int)∧l=l∧ps++PS.ds x=ps++PS.ds x')∧List.length l-PS.n x'<List.length l-PS.n x) (br ((↑(PS.n x):Int)==(0:Int)) (v3*(24:Nat)≤(140737488355328:Nat)∧inR IntKind.i64 v2∧∃ (x':PS l a b),(a=a∧b=b∧v0=v0∧(↑(PS.n x):Int)+(1:Int)=(↑(PS.n x'):Int)∧l=l∧ps++PS.ds x++[{ r:=Iv.pR v1,p:=Iv.pP v1,w:=a }]=ps++PS.ds x')∧List.length l-PS.n x'<List.length l-PS.n x) (inR IntKind.i64 (v0-(1:Int))∧br ((↑(PS.n x):Int)==v0-(1:Int)) (v3*(24:Nat)≤(140737488355328:Nat)∧inR IntKind.i64 v2∧∃ (x':PS l a b),(a=a∧b=b∧v0=v0∧(↑(PS.n x):Int)+(1:Int)=(↑(PS.n x'):Int)∧l=l∧ps++PS.ds x++[{ r:=Iv.pR v1,p:=Iv.pP v1,w:=b }]=ps++PS.ds x')∧List.length l-PS.n x'<List.length l-PS.n x) (v3*(24:Nat)≤(140737488355328:Nat)∧inR IntKind.i64 v2∧∃ (x':PS l a b),(a=a∧b=b∧v0=v0∧(↑(PS.n x):Int)+(1:Int)=(↑(PS.n x'):Int)∧l=l∧ps++PS.ds x++[{ r:=Iv.pR v1,p:=Iv.pP v1,w:=(0:Int) }]=ps++PS.ds x')∧List.length l-PS.n x'<List.length l-PS.n x)))) (l=l∧ps++PS.ds x=ps++spotsN (List.length l) a b (0:Nat) l)))):=by kernel_rfl
set_option maxHeartbeats 4000000 in
theorem of_spots1 (h:∀ (l:List Iv) (a b:Int) (ps:List Spot),(l.length≤1000000000)→(ps.length≤1000000000)→vcA [] [] misc Tryz.f113 (.loop 1 (PS l a b) (fun x=>⟨[(0,.one (.slc 0)),(1,.one (.int .i64 a)),(2,.one (.int .i64 b)),(3,.one (.ptr 1 0)),(11,.one (.slc 0)),(12,.one (.int .i64 l.length)),(13,.one (.int .i64 x.n))],[(0,some (.read (.ivs l))),(1,some (.cells 135 [.slc 17])),(17,some (.row 62 (.spots (ps++x.ds))))],18⟩) (fun x=>l.length-x.n) (fun _=>.nil) .nil) [.one (.slc 0),.one (.int .i64 a),.one (.int .i64 b),.one (.ptr 1 0)] [(0,some (.read (.ivs l))),(1,some (.cells 135 [.slc 2])),(2,some (.row 62 (.spots ps)))] (.tup []) [(0,some (.read (.ivs l))),(1,some (.cells 135 [.slc 16])),(16,some (.row 62 (.spots (ps++spotsN l.length a b 0 l))))]):FnA 113 sp_spots1:=by
 refine fnA_ok (cs:=[]) (cas:=[]) (ms:=misc) .nil .nil misc_ok 113 Tryz.f113 (by kernel_rfl) (by kernel_rfl) (by kernel_rfl) (fun | [.one (.slc 0),.one (.int .i64 a),.one (.int .i64 b),.one (.ptr 1 0)],[(0,some (.read (.ivs l))),(1,some (.cells 135 [.slc 2])),(2,some (.row 62 (.spots ps)))]=>.loop 1 (PS l a b) (fun x=>⟨[(0,.one (.slc 0)),(1,.one (.int .i64 a)),(2,.one (.int .i64 b)),(3,.one (.ptr 1 0)),(11,.one (.slc 0)),(12,.one (.int .i64 l.length)),(13,.one (.int .i64 x.n))],[(0,some (.read (.ivs l))),(1,some (.cells 135 [.slc 17])),(17,some (.row 62 (.spots (ps++x.ds))))],18⟩) (fun x=>l.length-x.n) (fun _=>.nil) .nil | _,_=>.nil) ?_
 intro args mem p r post hs hp
 unfold sp_spots1 at hs
 simp only at hs
 split at hs
 ·rename_i a b l ps
  cases hs
  refine h l a b ps ?_ ?_
  ·exact hp.1
  ·exact hp.2
 ·cases hs
def spotW (N:Nat) (a b:Int) (n:Nat):Int:=if n=0 then a else if n+1=N then b else 0
def PS.next {l:List Iv} {a b:Int} (x:PS l a b) (h:x.n<l.length):PS l a b where
 n:=x.n+1
 ds:=x.ds++if (l.getD x.n default).isP then [⟨(l.getD x.n default).pR,(l.getD x.n default).pP,spotW l.length a b x.n⟩] else []
 le:=h
 few:=by have:=x.few; rw [List.length_append]; split<;>simp<;>omega
 fin:=by
  have h1:=x.fin
  rw [drop_next l default h,spotsN] at h1
  rw [List.append_assoc]; exact h1
theorem spotsN_len (N:Nat) (a b:Int):∀ (l:List Iv) (n:Nat),(spotsN N a b n l).length≤l.length:=by
 intro l
 induction l with
 | nil=>intro n; exact Nat.le_refl _
 | cons y l ih =>
  intro n
  rw [spotsN,List.length_append]
  have:=ih (n+1)
  split<;>simp<;>omega
theorem ok_spots1:FnA 113 sp_spots1:=of_spots1 (by
 intro l a b ps hl hps
 rw [vc_spots1]
 refine ⟨⟨⟨0,[],Nat.zero_le _,Nat.le_refl _,rfl⟩,rfl,rfl,rfl,rfl,rfl,(List.append_nil _).symm⟩,fun x=>br_of (fun h=>?_) fun h=>?_⟩
 ·have h:x.n<l.length:=by simpa using h
  have hf:=x.few
  have hcap:((ps++x.ds).length+1)*24≤140737488355328:=by rw [List.length_append]; omega
  have hin:inR .i64 ((x.n:Int)+1):=by simp only [inR]; omega
  have hμ:l.length-(x.next h).n<l.length-x.n:=by show l.length-(x.n+1)<_; omega
  rw [Int.toNat_natCast]
  have hgo:∀ (w:Int),(l.getD x.n default).isP=true→spotW l.length a b x.n=w→ps++x.ds++[⟨(l.getD x.n default).pR,(l.getD x.n default).pP,w⟩]=ps++(x.next h).ds:=by
   intro w hp hw
   show _=ps++(x.ds++_)
   rw [if_pos hp,hw,List.append_assoc]
  refine ⟨⟨by omega,by omega⟩,h,br_of (fun h1=>⟨hin,x.next h,⟨rfl,rfl,rfl,rfl,rfl,?_⟩,hμ⟩) fun h1=>?_⟩
  ·have h1:(l.getD x.n default).isP=false:=by simpa using h1
   show _=ps++(x.ds++_)
   rw [if_neg (by rw [h1]; decide),List.append_nil]
  ·have h1:(l.getD x.n default).isP=true:=by simpa using h1
   refine br_of (fun h2=>?_) fun h2=>⟨by simp only [inR]; omega,br_of (fun h3=>?_) fun h3=>?_⟩
   ·have h2:x.n=0:=by have:=eq_of_beq h2; omega
    exact ⟨hcap,hin,x.next h,⟨rfl,rfl,rfl,rfl,rfl,hgo a h1 (by unfold spotW; rw [if_pos h2])⟩,hμ⟩
   ·have h2:¬ x.n=0:=by
     have:¬ ((x.n:Int)=0):=by simpa using h2
     omega
    have h3:x.n+1=l.length:=by have:=eq_of_beq h3; omega
    exact ⟨hcap,hin,x.next h,⟨rfl,rfl,rfl,rfl,rfl,hgo b h1 (by unfold spotW; rw [if_neg h2,if_pos h3])⟩,hμ⟩
   ·have h2:¬ x.n=0:=by
     have:¬ ((x.n:Int)=0):=by simpa using h2
     omega
    have h3:¬ x.n+1=l.length:=by
     have:¬ ((x.n:Int)=(l.length:Int)-1):=by simpa using h3
     omega
    exact ⟨hcap,hin,x.next h,⟨rfl,rfl,rfl,rfl,rfl,hgo 0 h1 (by unfold spotW; rw [if_neg h2,if_neg h3])⟩,hμ⟩
 ·have h:¬ x.n<l.length:=by simpa using h
  have h1:=x.fin
  rw [List.drop_of_length_le (by omega)] at h1
  refine ⟨rfl,?_⟩
  rw [← h1]
  show _=ps++(x.ds++[])
  rw [List.append_nil])
def spotsT (p s:List Iv):List Spot:=spotsN p.length 1 2 0 p++spotsN s.length 3 4 0 s
def sp_spots:FSpec:=⟨[],fun | [.agg [.int .i64 b,.rd (.ivs p),.rd (.ivs s),.str t,.int .i64 a]]=>some ([p.length≤1000000000,s.length≤1000000000],.one (.rd (.spots (spotsT p s)))) | _=>none⟩
theorem vc_spots (b:Int) (p s:List Iv) (t:List UInt8) (a:Int):vcP [] [(113,sp_spots1)] misc Tryz.f89 (.nil) [.agg [.int .i64 b,.rd (.ivs p),.rd (.ivs s),.str t,.int .i64 a]] (.one (.rd (.spots (spotsT p s))))=((List.length p≤(1000000000:Nat)∧(0:Nat)≤(1000000000:Nat)∧List.length s≤(1000000000:Nat)∧List.length ([]++spotsN (List.length p) (1:Int) (2:Int) (0:Nat) p)≤(1000000000:Nat)∧[]++spotsN (List.length p) (1:Int) (2:Int) (0:Nat) p++spotsN (List.length s) (3:Int) (4:Int) (0:Nat) s=spotsT p s)):=by kernel_rfl
set_option maxHeartbeats 4000000 in
theorem of_spots (h:∀ (b:Int) (p s:List Iv) (t:List UInt8) (a:Int),(p.length≤1000000000)→(s.length≤1000000000)→vcP [] [(113,sp_spots1)] misc Tryz.f89 (.nil) [.agg [.int .i64 b,.rd (.ivs p),.rd (.ivs s),.str t,.int .i64 a]] (.one (.rd (.spots (spotsT p s))))):FnP 89 sp_spots:=by
 refine fnP_ok (cs:=[]) (cas:=[(113,sp_spots1)]) (ms:=misc) .nil (.cons ok_spots1 .nil) misc_ok 89 Tryz.f89 (by kernel_rfl) (by kernel_rfl) (by kernel_rfl) (fun _=>.nil) ?_
 intro pvs p r hs hp
 unfold sp_spots at hs
 simp only at hs
 split at hs
 ·rename_i b p s t a
  cases hs
  refine h b p s t a ?_ ?_
  ·exact hp.1
  ·exact hp.2
 ·cases hs
theorem ok_spots:FnP 89 sp_spots:=of_spots (by
 intro b p s t a hp hs
 rw [vc_spots]
 have:=spotsN_len p.length 1 2 p 0
 exact ⟨hp,by decide,hs,by rw [List.nil_append]; omega,rfl⟩)
def paddedT (l:List Spot) (first:Bool):Spot×Int×Int :=
 match l with
 | []=>(⟨0,0,0⟩,0,0)
 | x :: m=>if x.w=0∨first=false then (⟨0,0,0⟩,7,x.p) else match m with | []=>(x,0,0) | y :: _=>(⟨0,0,0⟩,7,y.p)
def PX (l:List Spot) (first:Bool):Type:={b:Bool // b=true→∃ x m,l=x :: m∧x.w≠0∧first=true}
def pxN (b:Bool):Nat:=if b then 1 else 0
def pxS (l:List Spot) (b:Bool):Spot:=if b then l.getD 0 ⟨0,0,0⟩ else ⟨0,0,0⟩
def sp_padded:FSpec:=⟨[],fun | [.agg [.int .i64 b,.rd (.ivs p),.rd (.ivs s),.str t,.int .i64 a],.one (.bool first)]=>some ([p.length≤1000000000,s.length≤1000000000],.tup [(true,[.int .i32 (paddedT (spotsT p s) first).1.r,.int .i64 (paddedT (spotsT p s) first).1.p,.int .i64 (paddedT (spotsT p s) first).1.w]),(true,[.int .i64 (paddedT (spotsT p s) first).2.1,.int .i64 (paddedT (spotsT p s) first).2.2])]) | _=>none⟩
theorem vc_padded (b:Int) (p s:List Iv) (t:List UInt8) (a:Int) (first:Bool):vcP [(89,sp_spots)] [] misc Tryz.f64 (.loop 3 (PX (spotsT p s) first) (fun x=>⟨[(1,.one (.bool first)),(4,.one (.ptr 16 0)),(5,.one (.ptr 17 0)),(6,.one (.ptr 18 0)),(10,.one (.slc 19)),(11,.one (.int .i64 (spotsT p s).length)),(12,.one (.int .i64 (pxN x.1)))],[(16,some (.cells 62 [.int .i32 0,.int .i64 0,.int .i64 0])),(17,some (.cells 28 [.int .i64 0,.int .i64 0])),(18,some (.cells 62 [.int .i32 (pxS (spotsT p s) x.1).r,.int .i64 (pxS (spotsT p s) x.1).p,.int .i64 (pxS (spotsT p s) x.1).w])),(19,some (.read (.spots (spotsT p s))))],20⟩) (fun x=>2-pxN x.1) (fun _=>.nil) .nil) [.agg [.int .i64 b,.rd (.ivs p),.rd (.ivs s),.str t,.int .i64 a],.one (.bool first)] (.tup [(true,[.int .i32 (paddedT (spotsT p s) first).1.r,.int .i64 (paddedT (spotsT p s) first).1.p,.int .i64 (paddedT (spotsT p s) first).1.w]),(true,[.int .i64 (paddedT (spotsT p s) first).2.1,.int .i64 (paddedT (spotsT p s) first).2.2])])=(letI v0:=(paddedT (spotsT p s) first); letI v1:=(↑(List.length (spotsT p s)):Int); letI v2:=((0:Int)=Spot.r v0.1∧(0:Int)=Spot.p v0.1∧(0:Int)=Spot.w v0.1); (List.length p≤(1000000000:Nat)∧List.length s≤(1000000000:Nat)∧(∃ (x:PX (spotsT p s) first),(letI v3:=(pxS (spotsT p s) (Subtype.val x)); first=first∧v1=v1∧(0:Int)=(↑(pxN (Subtype.val x)):Int)∧(0:Int)=(0:Int)∧(0:Int)=(0:Int)∧(0:Int)=(0:Int)∧(0:Int)=(0:Int)∧(0:Int)=(0:Int)∧(0:Int)=Spot.r v3∧(0:Int)=Spot.p v3∧(0:Int)=Spot.w v3∧spotsT p s=spotsT p s))∧∀ (x:PX (spotsT p s) first),(letI v4:=(List.getD (spotsT p s) (Int.toNat (↑(pxN (Subtype.val x)):Int)) default); letI v5:=(↑(pxN (Subtype.val x)):Int); letI v6:=(v2∧(7:Int)=v0.2.1∧Spot.p v4=v0.2.2); letI v7:=(pxS (spotsT p s) (Subtype.val x)); br (decide (v5<v1)) (((0:Int)≤v5∧v5<v1)∧Int.toNat v5<List.length (spotsT p s)∧br (Spot.w v4==(0:Int)) v6 (br (decide (v5>(0:Int))) v6 (br (!first) v6 (inR IntKind.i64 (v5+(1:Int))∧∃ (x':PX (spotsT p s) first),(letI v8:=(pxS (spotsT p s) (Subtype.val x')); (first=first∧v1=v1∧v5+(1:Int)=(↑(pxN (Subtype.val x')):Int)∧(0:Int)=(0:Int)∧(0:Int)=(0:Int)∧(0:Int)=(0:Int)∧(0:Int)=(0:Int)∧(0:Int)=(0:Int)∧Spot.r v4=Spot.r v8∧Spot.p v4=Spot.p v8∧Spot.w v4=Spot.w v8∧spotsT p s=spotsT p s)∧(2:Nat)-pxN (Subtype.val x')<(2:Nat)-pxN (Subtype.val x)))))) ((Spot.r v7=Spot.r v0.1∧Spot.p v7=Spot.p v0.1∧Spot.w v7=Spot.w v0.1)∧(0:Int)=v0.2.1∧(0:Int)=v0.2.2)))):=by kernel_rfl
set_option maxHeartbeats 4000000 in
theorem of_padded (h:∀ (b:Int) (p s:List Iv) (t:List UInt8) (a:Int) (first:Bool),(p.length≤1000000000)→(s.length≤1000000000)→vcP [(89,sp_spots)] [] misc Tryz.f64 (.loop 3 (PX (spotsT p s) first) (fun x=>⟨[(1,.one (.bool first)),(4,.one (.ptr 16 0)),(5,.one (.ptr 17 0)),(6,.one (.ptr 18 0)),(10,.one (.slc 19)),(11,.one (.int .i64 (spotsT p s).length)),(12,.one (.int .i64 (pxN x.1)))],[(16,some (.cells 62 [.int .i32 0,.int .i64 0,.int .i64 0])),(17,some (.cells 28 [.int .i64 0,.int .i64 0])),(18,some (.cells 62 [.int .i32 (pxS (spotsT p s) x.1).r,.int .i64 (pxS (spotsT p s) x.1).p,.int .i64 (pxS (spotsT p s) x.1).w])),(19,some (.read (.spots (spotsT p s))))],20⟩) (fun x=>2-pxN x.1) (fun _=>.nil) .nil) [.agg [.int .i64 b,.rd (.ivs p),.rd (.ivs s),.str t,.int .i64 a],.one (.bool first)] (.tup [(true,[.int .i32 (paddedT (spotsT p s) first).1.r,.int .i64 (paddedT (spotsT p s) first).1.p,.int .i64 (paddedT (spotsT p s) first).1.w]),(true,[.int .i64 (paddedT (spotsT p s) first).2.1,.int .i64 (paddedT (spotsT p s) first).2.2])])):FnP 64 sp_padded:=by
 refine fnP_ok (cs:=[(89,sp_spots)]) (cas:=[]) (ms:=misc) (.cons ok_spots .nil) .nil misc_ok 64 Tryz.f64 (by kernel_rfl) (by kernel_rfl) (by kernel_rfl) (fun | [.agg [.int .i64 b,.rd (.ivs p),.rd (.ivs s),.str t,.int .i64 a],.one (.bool first)]=>.loop 3 (PX (spotsT p s) first) (fun x=>⟨[(1,.one (.bool first)),(4,.one (.ptr 16 0)),(5,.one (.ptr 17 0)),(6,.one (.ptr 18 0)),(10,.one (.slc 19)),(11,.one (.int .i64 (spotsT p s).length)),(12,.one (.int .i64 (pxN x.1)))],[(16,some (.cells 62 [.int .i32 0,.int .i64 0,.int .i64 0])),(17,some (.cells 28 [.int .i64 0,.int .i64 0])),(18,some (.cells 62 [.int .i32 (pxS (spotsT p s) x.1).r,.int .i64 (pxS (spotsT p s) x.1).p,.int .i64 (pxS (spotsT p s) x.1).w])),(19,some (.read (.spots (spotsT p s))))],20⟩) (fun x=>2-pxN x.1) (fun _=>.nil) .nil | _=>.nil) ?_
 intro pvs p r hs hp
 unfold sp_padded at hs
 simp only at hs
 split at hs
 ·rename_i b p s t a first
  cases hs
  refine h b p s t a first ?_ ?_
  ·exact hp.1
  ·exact hp.2
 ·cases hs
theorem ok_padded:FnP 64 sp_padded:=of_padded (by
 intro b p s t a first hp hs
 rw [vc_padded]
 generalize spotsT p s=l
 refine ⟨hp,hs,⟨⟨false,fun h=>by cases h⟩,rfl,rfl,rfl,rfl,rfl,rfl,rfl,rfl,rfl,rfl,rfl,rfl⟩,fun x=>br_of (fun h=>?_) fun h=>?_⟩
 ·have h:pxN x.1<l.length:=by simpa using h
  rw [Int.toNat_natCast]
  have h0:pxN x.1≤1:=by unfold pxN; split<;>omega
  refine ⟨⟨by omega,by omega⟩,h,?_⟩
  have hne:l≠[]:=by rintro rfl; exact absurd h (by simp)
  obtain ⟨y,m,hl⟩:=List.exists_cons_of_ne_nil hne
  by_cases hb:x.1=true
  ·obtain ⟨y',m',e1,e2,e3⟩:=x.2 hb
   have hx1:pxN x.1=1:=by unfold pxN; rw [if_pos hb]
   rw [hx1] at h ⊢
   subst e1
   obtain ⟨z,m2,hm⟩:∃ z m2,m'=z :: m2:=by
    cases m' with
    | nil=>exact absurd h (by simp)
    | cons z m2=>exact ⟨z,m2,rfl⟩
   subst hm
   have hpT:paddedT (y' :: z :: m2) first=(⟨0,0,0⟩,7,z.p):=by
    simp [paddedT,e2,e3]
   rw [hpT]
   refine br_of (fun _=>⟨⟨rfl,rfl,rfl⟩,rfl,rfl⟩) fun _=>br_of (fun _=>⟨⟨rfl,rfl,rfl⟩,rfl,rfl⟩) fun h2=>by simp at h2
  ·have hx0:pxN x.1=0:=by unfold pxN; rw [if_neg hb]
   rw [hx0] at h ⊢
   subst hl
   have bad:(y.w=0∨first=false)→(((0:Int)=(paddedT (y :: m) first).1.r∧0=(paddedT (y :: m) first).1.p∧0=(paddedT (y :: m) first).1.w)∧7=(paddedT (y :: m) first).2.1∧y.p=(paddedT (y :: m) first).2.2):=by
    intro hw
    have:paddedT (y :: m) first=(⟨0,0,0⟩,7,y.p):=by unfold paddedT; simp only; rw [if_pos hw]
    rw [this]
    exact ⟨⟨rfl,rfl,rfl⟩,rfl,rfl⟩
   refine br_of (fun h1=>bad (.inl (eq_of_beq h1))) fun h1=>br_of (fun h2=>by simp at h2) fun _=>br_of (fun h2=>bad (.inr (by simpa using h2))) fun h2=>?_
   have h1:y.w≠0:=by simpa using h1
   have h2:first=true:=by simpa using h2
   exact ⟨by simp only [inR]; omega,⟨true,fun _=>⟨y,m,rfl,h1,h2⟩⟩,⟨rfl,rfl,rfl,rfl,rfl,rfl,rfl,rfl,rfl,rfl,rfl,rfl⟩,by show 2-1<2-0; decide⟩
 ·have h:¬ pxN x.1<l.length:=by simpa using h
  by_cases hb:x.1=true
  ·obtain ⟨y',m',e1,e2,e3⟩:=x.2 hb
   have hx1:pxN x.1=1:=by unfold pxN; rw [if_pos hb]
   subst e1
   have:m'=[]:=by
    rw [hx1] at h
    cases m' with
    | nil=>rfl
    | cons z m2=>exact absurd h (by simp)
   subst this
   have hpT:paddedT [y'] first=(y',0,0):=by
    simp [paddedT,e2,e3]
   rw [hpT,hb]
   exact ⟨⟨rfl,rfl,rfl⟩,rfl,rfl⟩
  ·have hx0:pxN x.1=0:=by unfold pxN; rw [if_neg hb]
   have hb:x.1=false:=by simpa using hb
   have:l=[]:=List.eq_nil_of_length_eq_zero (by omega)
   subst this
   rw [hb]
   exact ⟨⟨rfl,rfl,rfl⟩,rfl,rfl⟩)
def EOK (l:List Iv):Prop:=∀ y∈l,y.isE=true∧(y.isS=true→scalar y.sR=true)
def cutN (l:List Iv):Nat:=l.findIdx (isIn bodyC)
def cutA (l:List Iv) (n:Nat):Nat:=n+runN (l.drop n) bodyC
def cutB (l:List Iv) (e:Nat):Nat:=e+1+min (runN (l.drop (e+1)) [43]) 1
def cutE (l:List Iv):Nat :=
 if 0<runN (l.drop (cutA l (cutN l))) [69] then cutB l (cutA l (cutN l))+runN (l.drop (cutB l (cutA l (cutN l)))) bodyC
 else cutA l (cutN l)
structure HalfT where
 b:Int
 p:List Iv
 s:List Iv
 t:List UInt8
 a:Int
def cutT (l:List Iv) (b:Int):HalfT×Bool :=
 if cutN l<l.length then (⟨b,l.take (cutN l),l.drop (cutE l),encs (((l.take (cutE l)).drop (cutN l)).map Iv.sR),(l.getD (cutN l) default).at_⟩,true)
 else (⟨0,[],[],[],0⟩,false)
def CN (l:List Iv):Type:={n:Nat // n=cutN l∧n<l.length}
def CA (l:List Iv):Type:={p:Nat×Nat // p.1=cutN l∧p.1<l.length∧p.2=cutA l p.1}
def CM (l:List Iv):Type:={p:Nat×Nat // p.1=cutN l∧p.1<l.length∧0<runN (l.drop (cutA l p.1)) [69]∧p.2=cutA l p.1+1}
def CB (l:List Iv):Type:={p:Nat×Nat // p.1=cutN l∧p.1<l.length∧0<runN (l.drop (cutA l p.1)) [69]∧p.2=cutB l (cutA l p.1)}
def CE (l:List Iv):Type:={p:Nat×Nat // p.1=cutN l∧p.1<l.length∧p.2=cutE l}
def sp_pcut:FSpec:=⟨[],fun | [.one (.rd (.ivs l)),.one (.int .i64 b)]=>some ([EOK l,l.length≤1000000000],.tup [(true,[.int .i64 (cutT l b).1.b,.rd (.ivs (cutT l b).1.p),.rd (.ivs (cutT l b).1.s),.str (cutT l b).1.t,.int .i64 (cutT l b).1.a]),(false,[.bool (cutT l b).2])]) | _=>none⟩
theorem vc_pcut (l:List Iv) (b:Int):vcP [(84,sp_idxC),(87,sp_run),(88,sp_text)] [] misc Tryz.f63 (.cut 4 (CN l) (fun x=>⟨[(0,.one (.slc 0)),(1,.one (.int .i64 b)),(4,.one (.ptr 16 0)),(6,.one (.int .i64 x.1))],[(0,some (.read (.ivs l))),(16,some (.cells 111 [.int .i64 0,.nils,.nils,.str [],.int .i64 0]))],18⟩) (fun x=>.cut 5 (CA l) (fun y=>⟨[(0,.one (.slc 0)),(1,.one (.int .i64 b)),(4,.one (.ptr 16 0)),(6,.one (.int .i64 y.1.1)),(7,.one (.int .i64 y.1.2))],[(0,some (.read (.ivs l))),(16,some (.cells 111 [.int .i64 0,.nils,.nils,.str [],.int .i64 0]))],18⟩) (fun y=>.cut 9 (CE l) (fun z=>⟨[(0,.one (.slc 0)),(1,.one (.int .i64 b)),(4,.one (.ptr 16 0)),(6,.one (.int .i64 z.1.1)),(7,.one (.int .i64 z.1.2))],[(0,some (.read (.ivs l))),(16,some (.cells 111 [.int .i64 0,.nils,.nils,.str [],.int .i64 0]))],18⟩) (fun z=>.nil) (.cut 7 (CM l) (fun z=>⟨[(0,.one (.slc 0)),(1,.one (.int .i64 b)),(4,.one (.ptr 16 0)),(6,.one (.int .i64 z.1.1)),(7,.one (.int .i64 z.1.2))],[(0,some (.read (.ivs l))),(16,some (.cells 111 [.int .i64 0,.nils,.nils,.str [],.int .i64 0]))],18⟩) (fun z=>.cut 8 (CB l) (fun z=>⟨[(0,.one (.slc 0)),(1,.one (.int .i64 b)),(4,.one (.ptr 16 0)),(6,.one (.int .i64 z.1.1)),(7,.one (.int .i64 z.1.2))],[(0,some (.read (.ivs l))),(16,some (.cells 111 [.int .i64 0,.nils,.nils,.str [],.int .i64 0]))],18⟩) (fun z=>.nil) .nil) .nil)) .nil) .nil) [.one (.rd (.ivs l)),.one (.int .i64 b)] (.tup [(true,[.int .i64 (cutT l b).1.b,.rd (.ivs (cutT l b).1.p),.rd (.ivs (cutT l b).1.s),.str (cutT l b).1.t,.int .i64 (cutT l b).1.a]),(false,[.bool (cutT l b).2])])=(letI v0:=([(35:UInt8),(48:UInt8),(49:UInt8),(50:UInt8),(51:UInt8),(52:UInt8),(53:UInt8),(54:UInt8),(55:UInt8),(56:UInt8),(57:UInt8),(64:UInt8),(44:UInt8),(46:UInt8)]:List UInt8); letI v1:=(List.take (List.length l) l); (List.length l≤(1000000000:Nat)∧br (decide (idxZ (isIn bodyC) l<(0:Int))) (((0:Int)=HalfT.b (cutT l b).1∧[]=HalfT.p (cutT l b).1∧[]=HalfT.s (cutT l b).1∧[]=HalfT.t (cutT l b).1∧(0:Int)=HalfT.a (cutT l b).1)∧false=(cutT l b).2) (∃ (j:CN l),b=b∧idxZ (isIn bodyC) l=(↑(Subtype.val j):Int)∧l=l∧(0:Int)=(0:Int)∧([]:List UInt8)=[]∧(0:Int)=(0:Int))∧∀ (j:CN l),(letI v2:=(↑(List.length l):Int); letI v3:=([(43:UInt8)]:List UInt8); (((0:Int)≤(↑(Subtype.val j):Int)∧(↑(Subtype.val j):Int)≤v2)∧(∀ (c:UInt8),c∈v0→UInt8.toNat c<(128:Nat))∧List.length (List.drop (Int.toNat (↑(Subtype.val j):Int)) v1)≤(1000000000:Nat)∧inR IntKind.i64 ((↑(Subtype.val j):Int)+(↑(runN (List.drop (Int.toNat (↑(Subtype.val j):Int)) v1) (v0)):Int))∧∃ (j_1:CA l),b=b∧(↑(Subtype.val j):Int)=(↑(Subtype.val j_1).1:Int)∧(↑(Subtype.val j):Int)+(↑(runN (List.drop (Int.toNat (↑(Subtype.val j):Int)) v1) (v0)):Int)=(↑(Subtype.val j_1).2:Int)∧l=l∧(0:Int)=(0:Int)∧([]:List UInt8)=[]∧(0:Int)=(0:Int))∧∀ (j:CA l),(((0:Int)≤(↑(Subtype.val j).2:Int)∧(↑(Subtype.val j).2:Int)≤v2)∧(∀ (c:UInt8),c∈([(69:UInt8)]:List UInt8)→UInt8.toNat c<(128:Nat))∧List.length (List.drop (Int.toNat (↑(Subtype.val j).2:Int)) v1)≤(1000000000:Nat)∧br (decide ((↑(runN (List.drop (Int.toNat (↑(Subtype.val j).2:Int)) v1) (([(69:UInt8)]:List UInt8))):Int)>(0:Int))) ((inR IntKind.i64 ((↑(Subtype.val j).2:Int)+(1:Int))∧∃ (j_1:CM l),b=b∧(↑(Subtype.val j).1:Int)=(↑(Subtype.val j_1).1:Int)∧(↑(Subtype.val j).2:Int)+(1:Int)=(↑(Subtype.val j_1).2:Int)∧l=l∧(0:Int)=(0:Int)∧([]:List UInt8)=[]∧(0:Int)=(0:Int))∧∀ (j:CM l),(((0:Int)≤(↑(Subtype.val j).2:Int)∧(↑(Subtype.val j).2:Int)≤v2)∧(∀ (c:UInt8),c∈v3→UInt8.toNat c<(128:Nat))∧List.length (List.drop (Int.toNat (↑(Subtype.val j).2:Int)) v1)≤(1000000000:Nat)∧inR IntKind.i64 ((↑(Subtype.val j).2:Int)+List.foldl (mnx false) (↑(runN (List.drop (Int.toNat (↑(Subtype.val j).2:Int)) v1) (v3)):Int) [(1:Int)])∧∃ (j_1:CB l),b=b∧(↑(Subtype.val j).1:Int)=(↑(Subtype.val j_1).1:Int)∧(↑(Subtype.val j).2:Int)+List.foldl (mnx false) (↑(runN (List.drop (Int.toNat (↑(Subtype.val j).2:Int)) v1) (v3)):Int) [(1:Int)]=(↑(Subtype.val j_1).2:Int)∧l=l∧(0:Int)=(0:Int)∧([]:List UInt8)=[]∧(0:Int)=(0:Int))∧∀ (j:CB l),(letI v4:=(↑(Subtype.val j).2:Int); letI v5:=(List.drop (Int.toNat v4) v1); ((0:Int)≤v4∧v4≤v2)∧(∀ (c:UInt8),c∈v0→UInt8.toNat c<(128:Nat))∧List.length v5≤(1000000000:Nat)∧inR IntKind.i64 (v4+(↑(runN v5 (v0)):Int))∧∃ (j_1:CE l),b=b∧(↑(Subtype.val j).1:Int)=(↑(Subtype.val j_1).1:Int)∧v4+(↑(runN v5 (v0)):Int)=(↑(Subtype.val j_1).2:Int)∧l=l∧(0:Int)=(0:Int)∧([]:List UInt8)=[]∧(0:Int)=(0:Int))) (∃ (j_1:CE l),b=b∧(↑(Subtype.val j).1:Int)=(↑(Subtype.val j_1).1:Int)∧(↑(Subtype.val j).2:Int)=(↑(Subtype.val j_1).2:Int)∧l=l∧(0:Int)=(0:Int)∧([]:List UInt8)=[]∧(0:Int)=(0:Int)))∧∀ (j:CE l),(letI v6:=(↑(Subtype.val j).1:Int); letI v7:=(↑(Subtype.val j).2:Int); letI v8:=(List.drop (Int.toNat v6) (List.take (Int.toNat v7) l)); ((0:Int)≤v6∧v6≤v2)∧((0:Int)≤v7∧v7≤v2)∧((0:Int)≤v6∧v6≤v7∧v7≤v2)∧(∀ (y:Iv),y∈List.drop (Int.toNat v6) (List.take (Int.toNat v7) l)→Iv.isS y=true∧scalar (Iv.sR y)=true)∧List.length v8≤(1000000000:Nat)∧((0:Int)≤v6∧v6<v2)∧Int.toNat v6<List.length l∧Iv.isE (List.getD l (Int.toNat v6) default)=true∧(b=HalfT.b (cutT l b).1∧List.drop (0:Nat) (List.take (Int.toNat v6) l)=HalfT.p (cutT l b).1∧List.drop (Int.toNat v7) v1=HalfT.s (cutT l b).1∧encs (List.map Iv.sR v8)=HalfT.t (cutT l b).1∧Iv.at_ (List.getD l (Int.toNat v6) default)=HalfT.a (cutT l b).1)∧true=(cutT l b).2)))):=by kernel_rfl
set_option maxHeartbeats 4000000 in
theorem of_pcut (h:∀ (l:List Iv) (b:Int),(EOK l)→(l.length≤1000000000)→vcP [(84,sp_idxC),(87,sp_run),(88,sp_text)] [] misc Tryz.f63 (.cut 4 (CN l) (fun x=>⟨[(0,.one (.slc 0)),(1,.one (.int .i64 b)),(4,.one (.ptr 16 0)),(6,.one (.int .i64 x.1))],[(0,some (.read (.ivs l))),(16,some (.cells 111 [.int .i64 0,.nils,.nils,.str [],.int .i64 0]))],18⟩) (fun x=>.cut 5 (CA l) (fun y=>⟨[(0,.one (.slc 0)),(1,.one (.int .i64 b)),(4,.one (.ptr 16 0)),(6,.one (.int .i64 y.1.1)),(7,.one (.int .i64 y.1.2))],[(0,some (.read (.ivs l))),(16,some (.cells 111 [.int .i64 0,.nils,.nils,.str [],.int .i64 0]))],18⟩) (fun y=>.cut 9 (CE l) (fun z=>⟨[(0,.one (.slc 0)),(1,.one (.int .i64 b)),(4,.one (.ptr 16 0)),(6,.one (.int .i64 z.1.1)),(7,.one (.int .i64 z.1.2))],[(0,some (.read (.ivs l))),(16,some (.cells 111 [.int .i64 0,.nils,.nils,.str [],.int .i64 0]))],18⟩) (fun z=>.nil) (.cut 7 (CM l) (fun z=>⟨[(0,.one (.slc 0)),(1,.one (.int .i64 b)),(4,.one (.ptr 16 0)),(6,.one (.int .i64 z.1.1)),(7,.one (.int .i64 z.1.2))],[(0,some (.read (.ivs l))),(16,some (.cells 111 [.int .i64 0,.nils,.nils,.str [],.int .i64 0]))],18⟩) (fun z=>.cut 8 (CB l) (fun z=>⟨[(0,.one (.slc 0)),(1,.one (.int .i64 b)),(4,.one (.ptr 16 0)),(6,.one (.int .i64 z.1.1)),(7,.one (.int .i64 z.1.2))],[(0,some (.read (.ivs l))),(16,some (.cells 111 [.int .i64 0,.nils,.nils,.str [],.int .i64 0]))],18⟩) (fun z=>.nil) .nil) .nil)) .nil) .nil) [.one (.rd (.ivs l)),.one (.int .i64 b)] (.tup [(true,[.int .i64 (cutT l b).1.b,.rd (.ivs (cutT l b).1.p),.rd (.ivs (cutT l b).1.s),.str (cutT l b).1.t,.int .i64 (cutT l b).1.a]),(false,[.bool (cutT l b).2])])):FnP 63 sp_pcut:=by
 refine fnP_ok (cs:=[(84,sp_idxC),(87,sp_run),(88,sp_text)]) (cas:=[]) (ms:=misc) (.cons ok_idxC (.cons ok_run (.cons ok_text .nil))) .nil misc_ok 63 Tryz.f63 (by kernel_rfl) (by kernel_rfl) (by kernel_rfl) (fun | [.one (.rd (.ivs l)),.one (.int .i64 b)]=>.cut 4 (CN l) (fun x=>⟨[(0,.one (.slc 0)),(1,.one (.int .i64 b)),(4,.one (.ptr 16 0)),(6,.one (.int .i64 x.1))],[(0,some (.read (.ivs l))),(16,some (.cells 111 [.int .i64 0,.nils,.nils,.str [],.int .i64 0]))],18⟩) (fun x=>.cut 5 (CA l) (fun y=>⟨[(0,.one (.slc 0)),(1,.one (.int .i64 b)),(4,.one (.ptr 16 0)),(6,.one (.int .i64 y.1.1)),(7,.one (.int .i64 y.1.2))],[(0,some (.read (.ivs l))),(16,some (.cells 111 [.int .i64 0,.nils,.nils,.str [],.int .i64 0]))],18⟩) (fun y=>.cut 9 (CE l) (fun z=>⟨[(0,.one (.slc 0)),(1,.one (.int .i64 b)),(4,.one (.ptr 16 0)),(6,.one (.int .i64 z.1.1)),(7,.one (.int .i64 z.1.2))],[(0,some (.read (.ivs l))),(16,some (.cells 111 [.int .i64 0,.nils,.nils,.str [],.int .i64 0]))],18⟩) (fun z=>.nil) (.cut 7 (CM l) (fun z=>⟨[(0,.one (.slc 0)),(1,.one (.int .i64 b)),(4,.one (.ptr 16 0)),(6,.one (.int .i64 z.1.1)),(7,.one (.int .i64 z.1.2))],[(0,some (.read (.ivs l))),(16,some (.cells 111 [.int .i64 0,.nils,.nils,.str [],.int .i64 0]))],18⟩) (fun z=>.cut 8 (CB l) (fun z=>⟨[(0,.one (.slc 0)),(1,.one (.int .i64 b)),(4,.one (.ptr 16 0)),(6,.one (.int .i64 z.1.1)),(7,.one (.int .i64 z.1.2))],[(0,some (.read (.ivs l))),(16,some (.cells 111 [.int .i64 0,.nils,.nils,.str [],.int .i64 0]))],18⟩) (fun z=>.nil) .nil) .nil)) .nil) .nil | _=>.nil) ?_
 intro pvs p r hs hp
 unfold sp_pcut at hs
 simp only at hs
 split at hs
 ·rename_i l b
  cases hs
  refine h l b ?_ ?_
  ·exact hp.1
  ·exact hp.2
 ·cases hs
theorem runN_le (l:List Iv) (c:List UInt8):runN l c≤l.length:=List.findIdx_le_length
theorem runN_all {l:List Iv} {c:List UInt8} {i:Nat} (h:i<runN l c):isIn c (l.getD i default)=true:=by
 have h1:=runN_le l c
 have h2:=List.not_of_lt_findIdx (p:=fun y=>!isIn c y) h
 rw [List.getD_eq_getElem?_getD,List.getElem?_eq_getElem (by omega)]
 simpa using h2
theorem isIn_S {c:List UInt8} {y:Iv} (h:isIn c y=true):y.isS=true:=by
 unfold isIn at h
 rw [Bool.and_eq_true] at h
 exact h.1
theorem getD_dropA {α:Type} (l:List α) (p i:Nat) (d:α):(l.drop p).getD i d=l.getD (p+i) d:=by
 simp [List.getD_eq_getElem?_getD,List.getElem?_drop]
theorem run_drop {l:List Iv} {c:List UInt8} {p i:Nat} (h1:p≤i) (h2:i<p+runN (l.drop p) c):isIn c (l.getD i default)=true:=by
 have h3:=runN_all (l:=l.drop p) (c:=c) (i:=i-p) (by omega)
 rw [getD_dropA,show p+(i-p)=i by omega] at h3
 exact h3
theorem run_drop_le {l:List Iv} {c:List UInt8} {p:Nat} (h:p≤l.length):p+runN (l.drop p) c≤l.length:=by
 have:=runN_le (l.drop p) c
 rw [List.length_drop] at this
 omega
theorem cutA_le {l:List Iv} {n:Nat} (h:n<l.length):n≤cutA l n∧cutA l n≤l.length:=by
 unfold cutA
 exact ⟨by omega,run_drop_le (by omega)⟩
theorem run_pos {l:List Iv} {c:List UInt8} {p:Nat} (h:0<runN (l.drop p) c):p<l.length:=by
 have:=runN_le (l.drop p) c
 rw [List.length_drop] at this
 omega
theorem cutB_le {l:List Iv} {e:Nat} (h:0<runN (l.drop e) [69]):e<cutB l e∧cutB l e≤l.length:=by
 have h1:=run_pos h
 have h2:=run_drop_le (l:=l) (c:=[43]) (p:=e+1) (by omega)
 unfold cutB
 omega
theorem cutE_le {l:List Iv} (h:cutN l<l.length):cutN l≤cutE l∧cutE l≤l.length:=by
 have h1:=cutA_le h
 unfold cutE
 split
 ·rename_i h2
  have h3:=cutB_le h2
  have h4:=run_drop_le (l:=l) (c:=bodyC) (p:=cutB l (cutA l (cutN l))) h3.2
  omega
 ·exact h1
theorem cut_all {l:List Iv} (h:cutN l<l.length) {i:Nat} (h1:cutN l≤i) (h2:i<cutE l):(l.getD i default).isS=true:=by
 by_cases ha:i<cutA l (cutN l)
 ·exact isIn_S (run_drop h1 ha)
 ·unfold cutE at h2
  split at h2
  ·rename_i h3
   by_cases hb:i<cutB l (cutA l (cutN l))
   ·by_cases hc:i=cutA l (cutN l)
    ·subst hc
     exact isIn_S (run_drop (c:=[69]) (Nat.le_refl _) (by omega))
    ·refine isIn_S (run_drop (c:=[43]) (p:=cutA l (cutN l)+1) (by omega) ?_)
     unfold cutB at hb
     omega
   ·exact isIn_S (run_drop (by omega) h2)
  ·exact absurd h2 ha
theorem mem_mid {α:Type} {l:List α} {a b:Nat} {y:α} (d:α) (h:y∈(l.take b).drop a):∃ i,a≤i∧i<b∧i<l.length∧l.getD i d=y:=by
 obtain ⟨j,hj,rfl⟩:=List.mem_iff_getElem.1 h
 rw [List.length_drop,List.length_take] at hj
 refine ⟨a+j,by omega,by omega,by omega,?_⟩
 rw [List.getElem_drop,List.getElem_take,List.getD_eq_getElem?_getD,List.getElem?_eq_getElem (by omega)]
 rfl
theorem mnx_min (n:Nat):List.foldl (mnx false) (n:Int) [1]=((min n 1:Nat):Int):=by
 simp only [List.foldl]
 unfold mnx
 simp
 split<;>omega
theorem cut_idx (l:List Iv):idxZ (isIn bodyC) l=if cutN l<l.length then (cutN l:Int) else -1:=rfl
set_option maxHeartbeats 1000000 in
theorem ok_pcut:FnP 63 sp_pcut:=of_pcut (by
 intro l b hl hn
 rw [vc_pcut]
 have htl:l.take l.length=l:=List.take_length
 rw [htl]
 have hd:∀ n,(l.drop n).length≤1000000000:=fun n=>by rw [List.length_drop]; omega
 have hb:Asc [35,48,49,50,51,52,53,54,55,56,57,64,44,46]:=bodyC_asc
 have h69:Asc [69]:=asc_iff.2 rfl
 have h43:Asc [43]:=asc_iff.2 rfl
 refine ⟨hn,br_of (fun h=>?_) fun h=>?_,fun x=>⟨⟨?_,hb,hd _,?_,?_⟩,fun y=>⟨⟨?_,h69,hd _,br_of (fun h=>⟨?_,fun z=>⟨⟨?_,h43,hd _,?_,?_⟩,fun z=>⟨?_,hb,hd _,?_,?_⟩⟩⟩) fun h=>?_⟩,fun z=>?_⟩⟩⟩
 ·have h1:¬ cutN l<l.length:=by
   intro h1
   have h:=of_decide_eq_true h
   rw [cut_idx,if_pos h1] at h
   omega
  unfold cutT
  rw [if_neg h1]
  exact ⟨⟨rfl,rfl,rfl,rfl,rfl⟩,rfl⟩
 ·have h1:cutN l<l.length:=by
   by_cases h1:cutN l<l.length
   ·exact h1
   ·exfalso
    have h:=of_decide_eq_false h
    rw [cut_idx,if_neg h1] at h
    omega
  exact ⟨⟨cutN l,rfl,h1⟩,rfl,by rw [cut_idx,if_pos h1],rfl,rfl,rfl,rfl⟩
 ·have:=x.2.2; exact ⟨by omega,by omega⟩
 ·have h1:=cutA_le x.2.2
  unfold cutA at h1
  rw [Int.toNat_natCast]
  have h1:x.1+runN (l.drop x.1) [35,48,49,50,51,52,53,54,55,56,57,64,44,46]≤l.length:=h1.2
  simp only [inR]; omega
 ·rw [Int.toNat_natCast]
  exact ⟨⟨(x.1,cutA l x.1),x.2.1,x.2.2,rfl⟩,rfl,rfl,rfl,rfl,rfl,rfl,rfl⟩
 ·have h1:=cutA_le y.2.2.1
  rw [y.2.2.2]; omega
 ·have h1:=cutA_le y.2.2.1
  have h2:=y.2.2.2
  refine ⟨by simp only [inR]; omega,⟨(y.1.1,y.1.2+1),y.2.1,y.2.2.1,?_,by show y.1.2+1=_; rw [h2]⟩,rfl,rfl,rfl,rfl,rfl,rfl,rfl⟩
  rw [Int.toNat_natCast,h2] at h
  have h:=of_decide_eq_true h
  show 0<runN (l.drop (cutA l y.1.1)) [69]
  omega
 ·have h1:=run_pos z.2.2.2.1
  have h2:=z.2.2.2.2
  omega
 ·have h1:=run_pos z.2.2.2.1
  have h2:=z.2.2.2.2
  rw [mnx_min]
  simp only [inR]; omega
 ·rw [mnx_min,Int.toNat_natCast]
  refine ⟨⟨(z.1.1,cutB l (cutA l z.1.1)),z.2.1,z.2.2.1,z.2.2.2.1,rfl⟩,rfl,rfl,?_,rfl,rfl,rfl,rfl⟩
  show _=((cutB l (cutA l z.1.1):Nat):Int)
  unfold cutB
  rw [z.2.2.2.2]
  omega
 ·have h1:=cutB_le z.2.2.2.1
  have h2:=z.2.2.2.2
  omega
 ·have h1:=cutB_le z.2.2.2.1
  have h2:=z.2.2.2.2
  rw [Int.toNat_natCast]
  have h3:=run_drop_le (l:=l) (c:=[35,48,49,50,51,52,53,54,55,56,57,64,44,46]) (p:=z.1.2) (by omega)
  simp only [inR]; omega
 ·rw [Int.toNat_natCast]
  refine ⟨⟨(z.1.1,cutE l),z.2.1,z.2.2.1,rfl⟩,rfl,rfl,?_,rfl,rfl,rfl,rfl⟩
  have h1:=z.2.2.2.1
  have h2:=z.2.2.2.2
  rw [z.2.1] at h1 h2
  show _=((cutE l:Nat):Int)
  unfold cutE
  rw [if_pos h1,h2]
  rfl
 ·refine ⟨⟨(y.1.1,cutE l),y.2.1,y.2.2.1,rfl⟩,rfl,rfl,?_,rfl,rfl,rfl,rfl⟩
  have h2:=y.2.2.2
  rw [y.2.1] at h2
  rw [Int.toNat_natCast,h2] at h
  have h:=of_decide_eq_false h
  show _=((cutE l:Nat):Int)
  unfold cutE
  rw [if_neg (by intro h0; apply h; show ((runN (l.drop (cutA l (cutN l))) [69]:Nat):Int)>0; omega),h2]
 ·have z1:=z.2.1
  have z2:=z.2.2.1
  have z3:=z.2.2.2
  rw [z1] at z2
  rw [z1,z3]
  have hle:=cutE_le z2
  simp only [Int.toNat_natCast]
  have hT:cutT l b=(⟨b,l.take (cutN l),l.drop (cutE l),encs (((l.take (cutE l)).drop (cutN l)).map Iv.sR),(l.getD (cutN l) default).at_⟩,true):=by
   unfold cutT; rw [if_pos z2]
  rw [hT]
  refine ⟨⟨by omega,by omega⟩,⟨by omega,by omega⟩,⟨by omega,by omega,by omega⟩,?_,?_,⟨by omega,by omega⟩,z2,(hl _ (getD_mem' z2)).1,⟨rfl,rfl,rfl,rfl,rfl⟩,rfl⟩
  ·intro y hy
   obtain ⟨i,i1,i2,i3,rfl⟩:=mem_mid default hy
   have h1:=cut_all z2 i1 i2
   exact ⟨h1,(hl _ (getD_mem' i3)).2 h1⟩
  ·rw [List.length_drop,List.length_take]; omega)
end Go.Proofs.YtglfkihckkjniaaGreatDoor.Vx
namespace Go.Proofs.YtglfkihckkjniaaGreatDoor.Vx
open Go Go.RowKit
def arrHook (tbl:Tbl):Hook:=fun fr o ev m =>
 match o.op with
 | .index T x i =>
  match ev x,ev i,arrOf tbl T with
  | some (.agg cs),some (.one (.int _ n)),some (c,e) =>
   match look e tbl with
   | some t=>bif Nat.beq cs.length (c*t.size) then (svOf t.agg ((cs.drop (n.toNat*t.size)).take t.size)).map fun v=>([0≤n∧n<c],⟨v,[]⟩) else none
   | none=>none
  | _,_,_=>none
 | _=>none
theorem arrHook_ok {tbl:Tbl} {G:Ctx→Prop}:HookOK tbl G (arrHook tbl):=by
 intro C ρ S a w fr o ev m H hG ps e hk hp
 unfold arrHook at hk
 split at hk
 ·rename_i T x i ho
  split at hk
  ·rename_i cs kd n c ee hx hi ha
   split at hk
   ·rename_i t ht
    cases hb:Nat.beq cs.length (c*t.size) with
    | false=>rw [hb] at hk; cases hk
    | true =>
     rw [hb,cond_true,Option.map_eq_some_iff] at hk
     obtain ⟨sv,hs,hk⟩:=hk
     cases hk
     have hp:0≤n∧n<(c:Int):=hp
     have hlen:=Nat.eq_of_beq_eq_true hb
     obtain ⟨inf,d,z,tt⟩:=tbl_get H.tbl ht
     obtain ⟨u,h1,h2⟩:=H.val hx
     obtain ⟨u',h3,h4⟩:=H.val hi
     simp only [denV,den,Option.some.injEq] at h3
     subst h3
     simp only [denV,Option.map_eq_some_iff] at h1
     obtain ⟨vs,h5,rfl⟩:=h1
     have hu:=arrOf_get H.tbl ha
     have hle:n.toNat*t.size+t.size≤cs.length:=by
      rw [hlen]
      have h6:n.toNat+1≤c:=by omega
      have:=Nat.mul_le_mul_right t.size h6
      rw [Nat.add_mul] at this
      omega
     rw [← tt.agg,← tt.size] at hs
     obtain ⟨v,h8,h9⟩:=run_part w tt.info tt.under hs h5 (by rw [tt.size]; exact hle)
     rw [tt.size] at h8
     refine H.pure (v:=v) ?_ h9
     unfold execOp
     simp only [ho,Instr.index,h2,h4,Sem.run_bind,asIntOf,Sem.run_pure,run_underlying hu,Result.andThen_ok,if_pos hp,sizeIs H.tbl ht,h8]
   ·cases hk
  ·cases hk
 ·cases hk
def miscA:Hook:=orHook (arrHook T) misc
theorem miscA_ok:HookOK T (GC Tryz.prog Gl) miscA:=orHook_ok arrHook_ok misc_ok
def sp_asign:FSpec:=⟨[],fun | [.one (.int .i32 r)]=>some ([],.one (.int .i64 (signK r))) | _=>none⟩
theorem vc_asign (r:Int):vcP [] [] miscA Tryz.f90 (.turns 2 6 (fun _=>.nil) .nil) [.one (.int .i32 r)] (.one (.int .i64 (signK r)))=((((0:Int)≤(0:Int)∧(0:Int)<(↑(5:Nat):Int))∧br ((45:Int)==r) ((2:Int)=signK r) (inR IntKind.i64 ((0:Int)+(1:Int))∧((0:Int)≤(0:Int)+(1:Int)∧(0:Int)+(1:Int)<(↑(5:Nat):Int))∧br ((43:Int)==r) ((3:Int)=signK r) (inR IntKind.i64 ((0:Int)+(1:Int)+(1:Int))∧((0:Int)≤(0:Int)+(1:Int)+(1:Int)∧(0:Int)+(1:Int)+(1:Int)<(↑(5:Nat):Int))∧br ((37:Int)==r) ((4:Int)=signK r) (inR IntKind.i64 ((0:Int)+(1:Int)+(1:Int)+(1:Int))∧((0:Int)≤(0:Int)+(1:Int)+(1:Int)+(1:Int)∧(0:Int)+(1:Int)+(1:Int)+(1:Int)<(↑(5:Nat):Int))∧br ((8240:Int)==r) ((5:Int)=signK r) (inR IntKind.i64 ((0:Int)+(1:Int)+(1:Int)+(1:Int)+(1:Int))∧((0:Int)≤(0:Int)+(1:Int)+(1:Int)+(1:Int)+(1:Int)∧(0:Int)+(1:Int)+(1:Int)+(1:Int)+(1:Int)<(↑(5:Nat):Int))∧br ((164:Int)==r) ((6:Int)=signK r) (inR IntKind.i64 ((0:Int)+(1:Int)+(1:Int)+(1:Int)+(1:Int)+(1:Int))∧(0:Int)=signK r))))))):=by kernel_rfl
set_option maxHeartbeats 4000000 in
theorem of_asign (h:∀ (r:Int),vcP [] [] miscA Tryz.f90 (.turns 2 6 (fun _=>.nil) .nil) [.one (.int .i32 r)] (.one (.int .i64 (signK r)))):FnP 90 sp_asign:=by
 refine fnP_ok (cs:=[]) (cas:=[]) (ms:=miscA) .nil .nil miscA_ok 90 Tryz.f90 (by kernel_rfl) (by kernel_rfl) (by kernel_rfl) (fun | [.one (.int .i32 r)]=>.turns 2 6 (fun _=>.nil) .nil | _=>.nil) ?_
 intro pvs p r hs hp
 unfold sp_asign at hs
 simp only at hs
 split at hs
 ·rename_i r
  cases hs
  refine h r
 ·cases hs
theorem ok_asign:FnP 90 sp_asign:=of_asign (by
 intro r
 rw [vc_asign]
 have sw:∀ {n:Int},((n==r)=true)→r=n:=fun h=>(eq_of_beq h).symm
 have sn:∀ {n:Int},((n==r)=false)→¬ r=n:=fun h h1=>by rw [h1,beq_self_eq_true] at h; cases h
 refine ⟨by decide,br_of (fun h=>?_) fun h1=>⟨by simp only [inR]; omega,by decide,br_of (fun h=>?_) fun h2=>⟨by simp only [inR]; omega,by decide,br_of (fun h=>?_) fun h3=>⟨by simp only [inR]; omega,by decide,br_of (fun h=>?_) fun h4=>⟨by simp only [inR]; omega,by decide,br_of (fun h=>?_) fun h5=>⟨by simp only [inR]; omega,?_⟩⟩⟩⟩⟩⟩
 ·rw [sw h]; rfl
 ·rw [sw h]; rfl
 ·rw [sw h]; rfl
 ·rw [sw h]; rfl
 ·rw [sw h]; rfl
 ·unfold signK
  rw [if_neg (sn h1),if_neg (sn h2),if_neg (sn h3),if_neg (sn h4),if_neg (sn h5)])
def marksC:List UInt8:=[35,48,49,50,51,52,53,54,55,56,57,64,44,46,59,42]
def sp_amark:FSpec:=⟨[],fun | [.one (.int .i32 r)]=>some ([],.one (.bool (isMark r))) | _=>none⟩
theorem vc_amark (r:Int):vcP [] [] misc Tryz.f91 (.loop 2 (HR marksC r) (fun i=>⟨[(0,.one (.int .i32 r)),(5,.one (.slc 17))],[(17,some (.iter marksC i.1))],18⟩) (fun i=>16-i.1) (fun _=>.nil) .nil) [.one (.int .i32 r)] (.one (.bool (isMark r)))=(((∃ (x:HR marksC r),r=r∧(0:Nat)=Subtype.val x∧([(35:UInt8),(48:UInt8),(49:UInt8),(50:UInt8),(51:UInt8),(52:UInt8),(53:UInt8),(54:UInt8),(55:UInt8),(56:UInt8),(57:UInt8),(64:UInt8),(44:UInt8),(46:UInt8),(59:UInt8),(42:UInt8)]:List UInt8)=marksC)∧∀ (x:HR marksC r),br (decide (Subtype.val x<List.length marksC)) (br (dec marksC (Subtype.val x)==r) (true=isMark r) (∃ (x':HR marksC r),(r=r∧Subtype.val x+wid marksC (Subtype.val x)=Subtype.val x'∧marksC=marksC)∧(16:Nat)-Subtype.val x'<(16:Nat)-Subtype.val x)) (false=isMark r))):=by kernel_rfl
set_option maxHeartbeats 4000000 in
theorem of_amark (h:∀ (r:Int),vcP [] [] misc Tryz.f91 (.loop 2 (HR marksC r) (fun i=>⟨[(0,.one (.int .i32 r)),(5,.one (.slc 17))],[(17,some (.iter marksC i.1))],18⟩) (fun i=>16-i.1) (fun _=>.nil) .nil) [.one (.int .i32 r)] (.one (.bool (isMark r)))):FnP 91 sp_amark:=by
 refine fnP_ok (cs:=[]) (cas:=[]) (ms:=misc) .nil .nil misc_ok 91 Tryz.f91 (by kernel_rfl) (by kernel_rfl) (by kernel_rfl) (fun | [.one (.int .i32 r)]=>.loop 2 (HR marksC r) (fun i=>⟨[(0,.one (.int .i32 r)),(5,.one (.slc 17))],[(17,some (.iter marksC i.1))],18⟩) (fun i=>16-i.1) (fun _=>.nil) .nil | _=>.nil) ?_
 intro pvs p r hs hp
 unfold sp_amark at hs
 simp only at hs
 split at hs
 ·rename_i r
  cases hs
  refine h r
 ·cases hs
theorem marksC_asc:Asc marksC:=asc_iff.2 rfl
theorem marks_is (r:Int):hasR marksC r=isMark r:=by
 rw [Bool.eq_iff_iff]
 simp [hasR,marksC,isMark]
 omega
theorem ok_amark:FnP 91 sp_amark:=of_amark (by
 intro r
 rw [vc_amark,← marks_is]
 refine ⟨⟨⟨0,Nat.zero_le _,rfl⟩,rfl,rfl,rfl⟩,fun i=>br_of (fun h=>?_) fun h=>?_⟩
 ·have h:i.1<marksC.length:=of_decide_eq_true h
  obtain ⟨q1,q2⟩:=dec_asc marksC_asc h
  rw [q1,q2]
  have hl:marksC.length=16:=rfl
  refine br_of (fun h1=>?_) fun h1=>⟨⟨i.1+1,h,by rw [hasR_next h,i.2.2,h1]; rfl⟩,⟨rfl,rfl,rfl⟩,by show 16-(i.1+1)<_; omega⟩
  rw [hasR_mem h (by simpa using h1)]
 ·have h:¬ i.1<marksC.length:=of_decide_eq_false h
  have:=i.2.2
  rw [List.take_of_length_le (by omega)] at this
  rw [this])
def Itm.of (t:Tok):Itm:=if t.q=false∧signK t.r≠0 then ⟨signK t.r,0⟩ else ⟨1,t.r⟩
def Tok.bad (t:Tok):Bool:=!t.q && isMark t.r
def itemsL:List Tok→List Itm×Option Int
 | []=>([],none)
 | t :: m=>if t.bad then ([],some t.p) else (Itm.of t :: (itemsL m).1,(itemsL m).2)
def itemsR (l:List Tok):List Itm×Int×Int :=
 match (itemsL l).2 with
 | some p=>([],4,p)
 | none=>if 40<(itemsL l).1.length then ([],8,0) else ((itemsL l).1,0,0)
structure IS (l:List Tok) where
 n:Nat
 ds:List Itm
 le:n≤l.length
 few:ds.length≤n
 fin1:ds++(itemsL (l.drop n)).1=(itemsL l).1
 fin2:(itemsL (l.drop n)).2=(itemsL l).2
theorem Itm.lit {t:Tok} (ht:t.q=true∨signK t.r=0):Itm.of t=⟨1,t.r⟩:=by
 unfold Itm.of
 rw [if_neg]
 rintro ⟨h1,h2⟩
 rcases ht with ht | ht
 ·rw [ht] at h1; cases h1
 ·exact h2 ht
theorem itemsL_ok {t:Tok} {m:List Tok} (h:t.bad=false):itemsL (t :: m)=(Itm.of t :: (itemsL m).1,(itemsL m).2):=by
 rw [itemsL,if_neg (by rw [h]; decide)]
theorem itemsL_bad {t:Tok} {m:List Tok} (h:t.bad=true):itemsL (t :: m)=([],some t.p):=by
 rw [itemsL,if_pos h]
def IS.next {l:List Tok} (x:IS l) (h:x.n<l.length) (hs:(l.getD x.n default).bad=false):IS l where
 n:=x.n+1
 ds:=x.ds++[Itm.of (l.getD x.n default)]
 le:=h
 few:=by have:=x.few; simp; omega
 fin1:=by
  have h1:=x.fin1
  rw [drop_next l default h,itemsL_ok hs] at h1
  rw [List.append_assoc]; exact h1
 fin2:=by
  have h1:=x.fin2
  rw [drop_next l default h,itemsL_ok hs] at h1
  exact h1
theorem IS.stop {l:List Tok} (x:IS l) (h:x.n<l.length) (hs:(l.getD x.n default).bad=true):itemsR l=([],4,(l.getD x.n default).p):=by
 have h1:=x.fin2
 rw [drop_next l default h,itemsL_bad hs] at h1
 unfold itemsR
 rw [← h1]
theorem IS.done {l:List Tok} (x:IS l) (h:¬ x.n<l.length):itemsR l=if 40<x.ds.length then ([],8,0) else (x.ds,0,0):=by
 have h1:=x.fin1
 have h2:=x.fin2
 rw [List.drop_of_length_le (by omega)] at h1 h2
 have h1:x.ds++[]=(itemsL l).1:=h1
 have h2:none=(itemsL l).2:=h2
 unfold itemsR
 rw [← h2,← h1,List.append_nil]
theorem IS.fin {l:List Tok} (x:IS l) (h:¬ x.n<l.length):br (decide ((x.ds.length:Int)>40)) ([]=(itemsR l).1∧8=(itemsR l).2.1∧0=(itemsR l).2.2) (x.ds=(itemsR l).1∧0=(itemsR l).2.1∧0=(itemsR l).2.2):=by
 rw [x.done h]
 refine br_of (fun h1=>?_) fun h1=>?_
 ·have:=of_decide_eq_true h1
  rw [if_pos (by omega)]; exact ⟨rfl,rfl,rfl⟩
 ·have:=of_decide_eq_false h1
  rw [if_neg (by omega)]; exact ⟨rfl,rfl,rfl⟩
def IS.zero (l:List Tok):IS l:=⟨0,[],Nat.zero_le _,Nat.le_refl _,rfl,rfl⟩
def sp_aitems:FSpec:=⟨[],fun | [.one (.rd (.toks l))]=>some ([l.length≤1000000000],.tup [(false,[.rd (.items (itemsR l).1)]),(true,[.int .i64 (itemsR l).2.1,.int .i64 (itemsR l).2.2])]) | _=>none⟩
theorem vc_aitems (l:List Tok):vcP [(90,sp_asign),(91,sp_amark)] [] misc Tryz.f65 (.loop 3 (IS l) (fun x=>⟨[(3,.one (.ptr 16 0)),(4,.one (.slc 17)),(8,.one (.slc 0)),(9,.one (.int .i64 l.length)),(10,.one (.int .i64 x.n))],[(0,some (.read (.toks l))),(16,some (.cells 28 [.int .i64 0,.int .i64 0])),(17,some (.row 79 (.items x.ds)))],18⟩) (fun x=>l.length-x.n) (fun _=>.nil) .nil) [.one (.rd (.toks l))] (.tup [(false,[.rd (.items (itemsR l).1)]),(true,[.int .i64 (itemsR l).2.1,.int .i64 (itemsR l).2.2])])=(letI v0:=(↑(List.length l):Int); ((∃ (x:IS l),v0=v0∧(0:Int)=(↑(IS.n x):Int)∧l=l∧(0:Int)=(0:Int)∧(0:Int)=(0:Int)∧IS.ds x=[])∧∀ (x:IS l),(letI v1:=(List.getD l (Int.toNat (↑(IS.n x):Int)) default); letI v2:=(List.length (IS.ds x)+(1:Nat)); letI v3:=((↑(IS.n x):Int)+(1:Int)); br (decide ((↑(IS.n x):Int)<v0)) (((0:Int)≤(↑(IS.n x):Int)∧(↑(IS.n x):Int)<v0)∧Int.toNat (↑(IS.n x):Int)<List.length l∧br (!Tok.q v1) (br (isMark (Tok.r v1)) ([]=(itemsR l).1∧(4:Int)=(itemsR l).2.1∧Tok.p v1=(itemsR l).2.2) (br (!Tok.q v1) (br (signK (Tok.r v1) != (0:Int)) (v2*(16:Nat)≤(140737488355328:Nat)∧inR IntKind.i64 v3∧∃ (x':IS l),(v0=v0∧(↑(IS.n x):Int)+(1:Int)=(↑(IS.n x'):Int)∧l=l∧(0:Int)=(0:Int)∧(0:Int)=(0:Int)∧IS.ds x++[{ k:=signK (Tok.r v1),r:=(0:Int) }]=IS.ds x')∧List.length l-IS.n x'<List.length l-IS.n x) (v2*(16:Nat)≤(140737488355328:Nat)∧inR IntKind.i64 v3∧∃ (x':IS l),(v0=v0∧(↑(IS.n x):Int)+(1:Int)=(↑(IS.n x'):Int)∧l=l∧(0:Int)=(0:Int)∧(0:Int)=(0:Int)∧IS.ds x++[{ k:=(1:Int),r:=Tok.r v1 }]=IS.ds x')∧List.length l-IS.n x'<List.length l-IS.n x)) (v2*(16:Nat)≤(140737488355328:Nat)∧inR IntKind.i64 v3∧∃ (x':IS l),(v0=v0∧(↑(IS.n x):Int)+(1:Int)=(↑(IS.n x'):Int)∧l=l∧(0:Int)=(0:Int)∧(0:Int)=(0:Int)∧IS.ds x++[{ k:=(1:Int),r:=Tok.r v1 }]=IS.ds x')∧List.length l-IS.n x'<List.length l-IS.n x))) (br (!Tok.q v1) (br (signK (Tok.r v1) != (0:Int)) (v2*(16:Nat)≤(140737488355328:Nat)∧inR IntKind.i64 v3∧∃ (x':IS l),(v0=v0∧(↑(IS.n x):Int)+(1:Int)=(↑(IS.n x'):Int)∧l=l∧(0:Int)=(0:Int)∧(0:Int)=(0:Int)∧IS.ds x++[{ k:=signK (Tok.r v1),r:=(0:Int) }]=IS.ds x')∧List.length l-IS.n x'<List.length l-IS.n x) (v2*(16:Nat)≤(140737488355328:Nat)∧inR IntKind.i64 v3∧∃ (x':IS l),(v0=v0∧(↑(IS.n x):Int)+(1:Int)=(↑(IS.n x'):Int)∧l=l∧(0:Int)=(0:Int)∧(0:Int)=(0:Int)∧IS.ds x++[{ k:=(1:Int),r:=Tok.r v1 }]=IS.ds x')∧List.length l-IS.n x'<List.length l-IS.n x)) (v2*(16:Nat)≤(140737488355328:Nat)∧inR IntKind.i64 v3∧∃ (x':IS l),(v0=v0∧(↑(IS.n x):Int)+(1:Int)=(↑(IS.n x'):Int)∧l=l∧(0:Int)=(0:Int)∧(0:Int)=(0:Int)∧IS.ds x++[{ k:=(1:Int),r:=Tok.r v1 }]=IS.ds x')∧List.length l-IS.n x'<List.length l-IS.n x))) (br (decide ((↑(List.length (IS.ds x)):Int)>(40:Int))) ([]=(itemsR l).1∧(8:Int)=(itemsR l).2.1∧(0:Int)=(itemsR l).2.2) (IS.ds x=(itemsR l).1∧(0:Int)=(itemsR l).2.1∧(0:Int)=(itemsR l).2.2))))):=by kernel_rfl
set_option maxHeartbeats 4000000 in
theorem of_aitems (h:∀ (l:List Tok),(l.length≤1000000000)→vcP [(90,sp_asign),(91,sp_amark)] [] misc Tryz.f65 (.loop 3 (IS l) (fun x=>⟨[(3,.one (.ptr 16 0)),(4,.one (.slc 17)),(8,.one (.slc 0)),(9,.one (.int .i64 l.length)),(10,.one (.int .i64 x.n))],[(0,some (.read (.toks l))),(16,some (.cells 28 [.int .i64 0,.int .i64 0])),(17,some (.row 79 (.items x.ds)))],18⟩) (fun x=>l.length-x.n) (fun _=>.nil) .nil) [.one (.rd (.toks l))] (.tup [(false,[.rd (.items (itemsR l).1)]),(true,[.int .i64 (itemsR l).2.1,.int .i64 (itemsR l).2.2])])):FnP 65 sp_aitems:=by
 refine fnP_ok (cs:=[(90,sp_asign),(91,sp_amark)]) (cas:=[]) (ms:=misc) (.cons ok_asign (.cons ok_amark .nil)) .nil misc_ok 65 Tryz.f65 (by kernel_rfl) (by kernel_rfl) (by kernel_rfl) (fun | [.one (.rd (.toks l))]=>.loop 3 (IS l) (fun x=>⟨[(3,.one (.ptr 16 0)),(4,.one (.slc 17)),(8,.one (.slc 0)),(9,.one (.int .i64 l.length)),(10,.one (.int .i64 x.n))],[(0,some (.read (.toks l))),(16,some (.cells 28 [.int .i64 0,.int .i64 0])),(17,some (.row 79 (.items x.ds)))],18⟩) (fun x=>l.length-x.n) (fun _=>.nil) .nil | _=>.nil) ?_
 intro pvs p r hs hp
 unfold sp_aitems at hs
 simp only at hs
 split at hs
 ·rename_i l
  cases hs
  refine h l ?_
  ·exact hp
 ·cases hs
theorem ok_aitems:FnP 65 sp_aitems:=of_aitems (by
 intro l hl
 rw [vc_aitems]
 refine ⟨⟨.zero l,rfl,rfl,rfl,rfl,rfl,rfl⟩,fun x=>br_of (fun h=>?_) fun h=>x.fin (by simpa using h)⟩
 have h:x.n<l.length:=by simpa using h
 have hf:=x.few
 rw [Int.toNat_natCast]
 have go:∀ (hs:(l.getD x.n default).bad=false) (y:Itm),Itm.of (l.getD x.n default)=y→(x.ds.length+1)*16≤140737488355328∧inR .i64 ((x.n:Int)+1)∧∃ (x':IS l),((l.length:Int)=(l.length:Int)∧(x.n:Int)+1=(x'.n:Int)∧l=l∧(0:Int)=0∧(0:Int)=0∧x.ds++[y]=x'.ds)∧l.length-x'.n<l.length-x.n:=fun hs y hy =>
  ⟨by omega,by simp only [inR]; omega,x.next h hs,⟨rfl,rfl,rfl,rfl,rfl,by rw [← hy]; rfl⟩,by show l.length-(x.n+1)<_; omega⟩
 refine ⟨⟨by omega,by omega⟩,h,br_of (fun h1=>?_) fun h1=>?_⟩
 ·have h1:(l.getD x.n default).q=false:=by simpa using h1
  refine br_of (fun h2=>?_) fun h2=>br_of (fun _=>br_of (fun h3=>?_) fun h3=>?_) fun h3=>?_
  ·have hs:(l.getD x.n default).bad=true:=by unfold Tok.bad; rw [h1,h2]; rfl
   rw [x.stop h hs]; exact ⟨rfl,rfl,rfl⟩
  ·refine go (by unfold Tok.bad; rw [h2,Bool.and_false]) _ ?_
   unfold Itm.of
   rw [if_pos ⟨h1,by simpa using h3⟩]
  ·exact go (by unfold Tok.bad; rw [h2,Bool.and_false]) _ (Itm.lit (.inr (by simpa using h3)))
  ·rw [h1] at h3; cases h3
 ·have h1:(l.getD x.n default).q=true:=by simpa using h1
  refine br_of (fun h2=>by rw [h1] at h2; cases h2) fun _=>go (by unfold Tok.bad; rw [h1]; rfl) _ (Itm.lit (.inl h1)))
def sp_ritems:FSpec:=⟨[],fun | [.one (.rd (.toks l))]=>some ([l.length≤1000000000],.tup [(false,[.rd (.items (itemsR l).1)]),(true,[.int .i64 (itemsR l).2.1,.int .i64 (itemsR l).2.2])]) | _=>none⟩
theorem vc_ritems (l:List Tok):vcP [(101,sp_rsign),(100,sp_rmark)] [] misc Tryz.f71 (.loop 3 (IS l) (fun x=>⟨[(0,.one (.slc 0)),(3,.one (.ptr 16 0)),(4,.one (.slc 17)),(5,.one (.int .i64 x.n))],[(0,some (.read (.toks l))),(16,some (.cells 28 [.int .i64 0,.int .i64 0])),(17,some (.row 79 (.items x.ds)))],18⟩) (fun x=>l.length-x.n) (fun _=>.nil) .nil) [.one (.rd (.toks l))] (.tup [(false,[.rd (.items (itemsR l).1)]),(true,[.int .i64 (itemsR l).2.1,.int .i64 (itemsR l).2.2])])=(letI v0:=(↑(List.length l):Int); ((∃ (x:IS l),(0:Int)=(↑(IS.n x):Int)∧l=l∧(0:Int)=(0:Int)∧(0:Int)=(0:Int)∧IS.ds x=[])∧∀ (x:IS l),(letI v1:=(List.getD l (Int.toNat (↑(IS.n x):Int)) default); letI v2:=((0:Int)≤(↑(IS.n x):Int)∧(↑(IS.n x):Int)<v0); letI v3:=(List.length (IS.ds x)+(1:Nat)); letI v4:=((↑(IS.n x):Int)+(1:Int)); br (decide ((↑(IS.n x):Int)<v0)) (v2∧Int.toNat (↑(IS.n x):Int)<List.length l∧v2∧Int.toNat (↑(IS.n x):Int)<List.length l∧br (!Tok.q v1) (br (isMark (Tok.r v1)) (v2∧Int.toNat (↑(IS.n x):Int)<List.length l∧[]=(itemsR l).1∧(4:Int)=(itemsR l).2.1∧Tok.p v1=(itemsR l).2.2) (br (decide (signK (Tok.r v1)>(0:Int))) (v3*(16:Nat)≤(140737488355328:Nat)∧inR IntKind.i64 v4∧∃ (x':IS l),((↑(IS.n x):Int)+(1:Int)=(↑(IS.n x'):Int)∧l=l∧(0:Int)=(0:Int)∧(0:Int)=(0:Int)∧IS.ds x++[{ k:=signK (Tok.r v1),r:=(0:Int) }]=IS.ds x')∧List.length l-IS.n x'<List.length l-IS.n x) (v3*(16:Nat)≤(140737488355328:Nat)∧inR IntKind.i64 v4∧∃ (x':IS l),((↑(IS.n x):Int)+(1:Int)=(↑(IS.n x'):Int)∧l=l∧(0:Int)=(0:Int)∧(0:Int)=(0:Int)∧IS.ds x++[{ k:=(1:Int),r:=Tok.r v1 }]=IS.ds x')∧List.length l-IS.n x'<List.length l-IS.n x))) (v3*(16:Nat)≤(140737488355328:Nat)∧inR IntKind.i64 v4∧∃ (x':IS l),((↑(IS.n x):Int)+(1:Int)=(↑(IS.n x'):Int)∧l=l∧(0:Int)=(0:Int)∧(0:Int)=(0:Int)∧IS.ds x++[{ k:=(1:Int),r:=Tok.r v1 }]=IS.ds x')∧List.length l-IS.n x'<List.length l-IS.n x)) (br (decide ((↑(List.length (IS.ds x)):Int)>(40:Int))) ([]=(itemsR l).1∧(8:Int)=(itemsR l).2.1∧(0:Int)=(itemsR l).2.2) (IS.ds x=(itemsR l).1∧(0:Int)=(itemsR l).2.1∧(0:Int)=(itemsR l).2.2))))):=by kernel_rfl
set_option maxHeartbeats 4000000 in
theorem of_ritems (h:∀ (l:List Tok),(l.length≤1000000000)→vcP [(101,sp_rsign),(100,sp_rmark)] [] misc Tryz.f71 (.loop 3 (IS l) (fun x=>⟨[(0,.one (.slc 0)),(3,.one (.ptr 16 0)),(4,.one (.slc 17)),(5,.one (.int .i64 x.n))],[(0,some (.read (.toks l))),(16,some (.cells 28 [.int .i64 0,.int .i64 0])),(17,some (.row 79 (.items x.ds)))],18⟩) (fun x=>l.length-x.n) (fun _=>.nil) .nil) [.one (.rd (.toks l))] (.tup [(false,[.rd (.items (itemsR l).1)]),(true,[.int .i64 (itemsR l).2.1,.int .i64 (itemsR l).2.2])])):FnP 71 sp_ritems:=by
 refine fnP_ok (cs:=[(101,sp_rsign),(100,sp_rmark)]) (cas:=[]) (ms:=misc) (.cons ok_rsign (.cons ok_rmark .nil)) .nil misc_ok 71 Tryz.f71 (by kernel_rfl) (by kernel_rfl) (by kernel_rfl) (fun | [.one (.rd (.toks l))]=>.loop 3 (IS l) (fun x=>⟨[(0,.one (.slc 0)),(3,.one (.ptr 16 0)),(4,.one (.slc 17)),(5,.one (.int .i64 x.n))],[(0,some (.read (.toks l))),(16,some (.cells 28 [.int .i64 0,.int .i64 0])),(17,some (.row 79 (.items x.ds)))],18⟩) (fun x=>l.length-x.n) (fun _=>.nil) .nil | _=>.nil) ?_
 intro pvs p r hs hp
 unfold sp_ritems at hs
 simp only at hs
 split at hs
 ·rename_i l
  cases hs
  refine h l ?_
  ·exact hp
 ·cases hs
theorem signK_pos (r:Int):decide (signK r>0)=(signK r != 0):=by
 have:0≤signK r:=by unfold signK; repeat' split<;>omega
 rw [Bool.eq_iff_iff]
 simp
 omega
theorem ok_ritems:FnP 71 sp_ritems:=of_ritems (by
 intro l hl
 rw [vc_ritems]
 refine ⟨⟨.zero l,rfl,rfl,rfl,rfl,rfl⟩,fun x=>br_of (fun h=>?_) fun h=>x.fin (by simpa using h)⟩
 have h:x.n<l.length:=by simpa using h
 have hf:=x.few
 rw [Int.toNat_natCast]
 have go:∀ (hs:(l.getD x.n default).bad=false) (y:Itm),Itm.of (l.getD x.n default)=y→(x.ds.length+1)*16≤140737488355328∧inR .i64 ((x.n:Int)+1)∧∃ (x':IS l),((x.n:Int)+1=(x'.n:Int)∧l=l∧(0:Int)=0∧(0:Int)=0∧x.ds++[y]=x'.ds)∧l.length-x'.n<l.length-x.n:=fun hs y hy =>
  ⟨by omega,by simp only [inR]; omega,x.next h hs,⟨rfl,rfl,rfl,rfl,by rw [← hy]; rfl⟩,by show l.length-(x.n+1)<_; omega⟩
 have hb:(0:Int)≤x.n∧(x.n:Int)<l.length:=⟨by omega,by omega⟩
 refine ⟨hb,h,hb,h,br_of (fun h1=>?_) fun h1=>?_⟩
 ·have h1:(l.getD x.n default).q=false:=by simpa using h1
  rw [signK_pos]
  refine br_of (fun h2=>⟨hb,h,?_⟩) fun h2=>br_of (fun h3=>?_) fun h3=>?_
  ·have hs:(l.getD x.n default).bad=true:=by unfold Tok.bad; rw [h1,h2]; rfl
   rw [x.stop h hs]; exact ⟨rfl,rfl,rfl⟩
  ·refine go (by unfold Tok.bad; rw [h2,Bool.and_false]) _ ?_
   unfold Itm.of
   rw [if_pos ⟨h1,by simpa using h3⟩]
  ·exact go (by unfold Tok.bad; rw [h2,Bool.and_false]) _ (Itm.lit (.inr (by simpa using h3)))
 ·have h1:(l.getD x.n default).q=true:=by simpa using h1
  exact go (by unfold Tok.bad; rw [h1]; rfl) _ (Itm.lit (.inl h1)))
end Go.Proofs.YtglfkihckkjniaaGreatDoor.Vx
namespace Go.Proofs.YtglfkihckkjniaaGreatDoor.Vx
open Go Go.RowKit
def sp_scut:FSpec:=⟨[],fun | [.one (.str s),.one (.str p)]=>some ([s.length≤1000000000],.tup [(false,[.str (Lib.cut s p).1]),(false,[.str (Lib.cut s p).2.1]),(false,[.bool (Lib.cut s p).2.2])]) | _=>none⟩
theorem bsize (s:List UInt8):(⟨s.toArray⟩:ByteArray).size=s.length:=by simp [ByteArray.size]
theorem ok_scut:FnP 92 sp_scut:=by
 refine ⟨body_of Tryz.f92 (by kernel_rfl) (by kernel_rfl) (by kernel_rfl),?_⟩
 intro pvs p r hs hp w B args hg ha
 unfold sp_scut at hs
 simp only at hs
 split at hs
 ·rename_i s q
  cases hs
  have hp:s.length≤1000000000:=hp
  obtain ⟨v,u,rfl,hv,hu⟩:=args2 ha
  have hv:v=.string ⟨s.toArray⟩:=hv
  have hu:u=.string ⟨q.toArray⟩:=hu
  subst hv; subst hu
  obtain ⟨m,hm⟩:=glob_max hg
  refine (Tryz.strings_Cut ⟨s.toArray⟩ ⟨q.toArray⟩ m w (by rw [bsize]; omega) hm).mono ?_
  rintro e w' ⟨rfl,n,rfl⟩
  exact ⟨_,rfl,⟨rfl,rfl,rfl,Nat.le_refl _,fun _ _ _=>rfl⟩,⟨[_,_,_],rfl,.cons rfl (.cons rfl (.cons rfl .nil))⟩⟩
 ·cases hs
def sp_scutp:FSpec:=⟨[],fun | [.one (.str s),.one (.str p)]=>some ([],.tup [(false,[.str (Lib.trimPrefix s p)]),(false,[.bool (Lib.hasPrefix s p)])]) | _=>none⟩
theorem ok_scutp:FnP 115 sp_scutp:=by
 refine ⟨body_of Tryz.f115 (by kernel_rfl) (by kernel_rfl) (by kernel_rfl),?_⟩
 intro pvs p r hs hp w B args hg ha
 unfold sp_scutp at hs
 simp only at hs
 split at hs
 ·rename_i s q
  cases hs
  obtain ⟨v,u,rfl,hv,hu⟩:=args2 ha
  have hv:v=.string ⟨s.toArray⟩:=hv
  have hu:u=.string ⟨q.toArray⟩:=hu
  subst hv; subst hu
  refine (Tryz.strings_CutPrefix ⟨s.toArray⟩ ⟨q.toArray⟩ w).mono ?_
  rintro e w' ⟨rfl,rfl⟩
  exact ⟨_,rfl,Fr.refl _ _,⟨[_,_],rfl,.cons rfl (.cons rfl .nil)⟩⟩
 ·cases hs
def sp_scount:FSpec:=⟨[],fun | [.one (.str s),.one (.str [c])]=>some ([],.one (.int .i64 (Lib.countByte s c))) | _=>none⟩
theorem ok_scount:FnP 122 sp_scount:=by
 refine ⟨body_of Tryz.f122 (by kernel_rfl) (by kernel_rfl) (by kernel_rfl),?_⟩
 intro pvs p r hs hp w B args hg ha
 unfold sp_scount at hs
 simp only at hs
 split at hs
 ·rename_i s q
  cases hs
  obtain ⟨v,u,rfl,hv,hu⟩:=args2 ha
  have hv:v=.string ⟨s.toArray⟩:=hv
  have hu:u=.string ⟨#[q]⟩:=hu
  subst hv; subst hu
  refine (Tryz.strings_Count_one ⟨s.toArray⟩ q w).mono ?_
  rintro e w' ⟨rfl,rfl⟩
  exact ⟨_,rfl,Fr.refl _ _,rfl⟩
 ·cases hs
def sp_scont:FSpec:=⟨[],fun | [.one (.str s),.one (.str [c])]=>some ([],.one (.bool (decide (0≤Lib.indexByte s c)))) | _=>none⟩
theorem ok_scont:FnP 124 sp_scont:=by
 refine ⟨body_of Tryz.f124 (by kernel_rfl) (by kernel_rfl) (by kernel_rfl),?_⟩
 intro pvs p r hs hp w B args hg ha
 unfold sp_scont at hs
 simp only at hs
 split at hs
 ·rename_i s q
  cases hs
  obtain ⟨v,u,rfl,hv,hu⟩:=args2 ha
  have hv:v=.string ⟨s.toArray⟩:=hv
  have hu:u=.string ⟨#[q]⟩:=hu
  subst hv; subst hu
  refine (Tryz.strings_Contains_one ⟨s.toArray⟩ q w).mono ?_
  rintro e w' ⟨rfl,rfl⟩
  exact ⟨_,rfl,Fr.refl _ _,rfl⟩
 ·cases hs
theorem indexByte_has (s:List UInt8) (c:UInt8):(0≤Lib.indexByte s c)↔c∈s:=by
 induction s with
 | nil=>simp [Lib.indexByte]
 | cons b l ih =>
  have hge:=Lib.indexByte_ge l c
  unfold Lib.indexByte
  by_cases h:b=c
  ·subst h; simp
  ·rw [if_neg (by simpa using h)]
   by_cases h1:Lib.indexByte l c = -1
   ·rw [if_pos (by simpa using h1)]
    rw [h1] at ih
    have:c ∉ l:=fun hc=>by have:=ih.2 hc; omega
    simp [this]
    exact fun h2=>h h2.symm
   ·rw [if_neg (by simpa using h1)]
    have:c∈l:=ih.1 (by omega)
    simp [this]
    omega
def sp_srune:FSpec:=⟨[],fun | [.one (.str s),.one (.int .i32 r)]=>some ([0≤r∧r<128],.one (.bool (hasR s r))) | _=>none⟩
theorem ok_srune:FnP 120 sp_srune:=by
 refine ⟨body_of Tryz.f120 (by kernel_rfl) (by kernel_rfl) (by kernel_rfl),?_⟩
 intro pvs p r hs hp w B args hg ha
 unfold sp_srune at hs
 simp only at hs
 split at hs
 ·rename_i s q
  cases hs
  have hp:0≤q∧q<128:=hp
  obtain ⟨v,u,rfl,hv,hu⟩:=args2 ha
  have hv:v=.string ⟨s.toArray⟩:=hv
  have hu:u=.int .i32 q:=hu
  subst hv; subst hu
  refine (Tryz.strings_ContainsRune_ascii ⟨s.toArray⟩ q w hp.1 hp.2).mono ?_
  rintro e w' ⟨rfl,rfl⟩
  refine ⟨_,rfl,Fr.refl _ _,?_⟩
  show Value.bool _=Value.bool _
  congr 1
  rw [Bool.eq_iff_iff,decide_eq_true_iff,indexByte_has]
  unfold hasR
  rw [List.any_eq_true]
  have h1:=ofNat_toNat hp.1 (by omega:q<256)
  constructor
  ·intro h; exact ⟨_,h,by simpa using h1⟩
  ·rintro ⟨c,hc,h2⟩
   have h2:(c.toNat:Int)=q:=by simpa using h2
   have:c=q.toNat.toUInt8:=by
    apply UInt8.toNat_inj.1
    have h1:((q.toNat.toUInt8).toNat:Int)=q:=h1
    omega
   rw [← this]; exact hc
 ·cases hs
def sp_strim:FSpec:=⟨[],fun | [.one (.str s),.one (.str [c])]=>some ([c.toNat<128],.one (.str (Lib.trimLeftB s c))) | _=>none⟩
theorem ok_strim:FnP 127 sp_strim:=by
 refine ⟨body_of Tryz.f127 (by kernel_rfl) (by kernel_rfl) (by kernel_rfl),?_⟩
 intro pvs p r hs hp w B args hg ha
 unfold sp_strim at hs
 simp only at hs
 split at hs
 ·rename_i s q
  cases hs
  have hp:q.toNat<128:=hp
  obtain ⟨v,u,rfl,hv,hu⟩:=args2 ha
  have hv:v=.string ⟨s.toArray⟩:=hv
  have hu:u=.string ⟨#[q]⟩:=hu
  subst hv; subst hu
  refine (Tryz.strings_TrimLeft_one ⟨s.toArray⟩ q hp w).mono ?_
  rintro e w' ⟨rfl,rfl⟩
  exact ⟨_,rfl,Fr.refl _ _,rfl⟩
 ·cases hs
def isDig (r:Int):Bool:=decide (r≥48) && decide (r≤57)
def isOdd (r:Int):Bool:=!isDig r && !hasR [35,64,44,46] r
def sp_digit:FSpec:=⟨[],fun | [.one (.int .i32 r)]=>some ([],.one (.bool (isDig r))) | _=>none⟩
theorem vc_digit (r:Int):vcP [] [] misc Tryz.f119 (.nil) [.one (.int .i32 r)] (.one (.bool (isDig r)))=((br (decide (r≥(48:Int))) (decide (r≤(57:Int))=isDig r) (false=isDig r))):=by kernel_rfl
set_option maxHeartbeats 4000000 in
theorem of_digit (h:∀ (r:Int),vcP [] [] misc Tryz.f119 (.nil) [.one (.int .i32 r)] (.one (.bool (isDig r)))):FnP 119 sp_digit:=by
 refine fnP_ok (cs:=[]) (cas:=[]) (ms:=misc) .nil .nil misc_ok 119 Tryz.f119 (by kernel_rfl) (by kernel_rfl) (by kernel_rfl) (fun _=>.nil) ?_
 intro pvs p r hs hp
 unfold sp_digit at hs
 simp only at hs
 split at hs
 ·rename_i r
  cases hs
  refine h r
 ·cases hs
theorem ok_digit:FnP 119 sp_digit:=of_digit (by
 intro r
 rw [vc_digit]
 unfold isDig
 exact br_of (fun h=>by rw [h]; rfl) fun h=>by rw [h]; rfl)
def sp_one1:FSpec:=⟨[],fun | [.one (.int .i32 r),.one (.ref 21 (.int .i32 c))]=>some ([],.one (.bool (r==c))) | _=>none⟩
theorem vc_one1 (r c:Int):vcP [] [] misc Tryz.f140 (.nil) [.one (.int .i32 r),.one (.ref 21 (.int .i32 c))] (.one (.bool (r==c)))=(((r==c)=(r==c))):=by kernel_rfl
set_option maxHeartbeats 4000000 in
theorem of_one1 (h:∀ (r c:Int),vcP [] [] misc Tryz.f140 (.nil) [.one (.int .i32 r),.one (.ref 21 (.int .i32 c))] (.one (.bool (r==c)))):FnP 140 sp_one1:=by
 refine fnP_ok (cs:=[]) (cas:=[]) (ms:=misc) .nil .nil misc_ok 140 Tryz.f140 (by kernel_rfl) (by kernel_rfl) (by kernel_rfl) (fun _=>.nil) ?_
 intro pvs p r hs hp
 unfold sp_one1 at hs
 simp only at hs
 split at hs
 ·rename_i r c
  cases hs
  refine h r c
 ·cases hs
theorem ok_one1:FnP 140 sp_one1:=of_one1 (by
 intro r c
 rw [vc_one1])
def sp_parts1:FSpec:=⟨[],fun | [.one (.int .i32 r)]=>some ([0≤r∧r<128],.one (.bool (isOdd r))) | _=>none⟩
theorem vc_parts1 (r:Int):vcP [(119,sp_digit),(120,sp_srune)] [] misc Tryz.f118 (.nil) [.one (.int .i32 r)] (.one (.bool (isOdd r)))=((br (!isDig r) (((0:Int)≤r∧r<(128:Int))∧(!hasR (([(35:UInt8),(64:UInt8),(44:UInt8),(46:UInt8)]:List UInt8)) r)=isOdd r) (false=isOdd r))):=by kernel_rfl
set_option maxHeartbeats 4000000 in
theorem of_parts1 (h:∀ (r:Int),(0≤r∧r<128)→vcP [(119,sp_digit),(120,sp_srune)] [] misc Tryz.f118 (.nil) [.one (.int .i32 r)] (.one (.bool (isOdd r)))):FnP 118 sp_parts1:=by
 refine fnP_ok (cs:=[(119,sp_digit),(120,sp_srune)]) (cas:=[]) (ms:=misc) (.cons ok_digit (.cons ok_srune .nil)) .nil misc_ok 118 Tryz.f118 (by kernel_rfl) (by kernel_rfl) (by kernel_rfl) (fun _=>.nil) ?_
 intro pvs p r hs hp
 unfold sp_parts1 at hs
 simp only at hs
 split at hs
 ·rename_i r
  cases hs
  refine h r ?_
  ·exact hp
 ·cases hs
theorem ok_parts1:FnP 118 sp_parts1:=of_parts1 (by
 intro r h
 rw [vc_parts1]
 unfold isOdd
 exact br_of (fun h1=>⟨h,by rw [h1]; rfl⟩) fun h1=>by rw [h1]; rfl)
def sp_one:FSpec:=⟨[],fun | [.one (.int .i32 c)]=>some ([],.one (.fnv 140 [(21,.int .i32 c)])) | _=>none⟩
theorem vc_one (c:Int):vcP [] [] misc Tryz.f117 (.nil) [.one (.int .i32 c)] (.one (.fnv 140 [(21,.int .i32 c)]))=(([((21:Nat),Pb.int IntKind.i32 c)]=[((21:TypeId),Pb.int IntKind.i32 c)])):=by kernel_rfl
set_option maxHeartbeats 4000000 in
theorem of_one (h:∀ (c:Int),vcP [] [] misc Tryz.f117 (.nil) [.one (.int .i32 c)] (.one (.fnv 140 [(21,.int .i32 c)]))):FnP 117 sp_one:=by
 refine fnP_ok (cs:=[]) (cas:=[]) (ms:=misc) .nil .nil misc_ok 117 Tryz.f117 (by kernel_rfl) (by kernel_rfl) (by kernel_rfl) (fun _=>.nil) ?_
 intro pvs p r hs hp
 unfold sp_one at hs
 simp only at hs
 split at hs
 ·rename_i c
  cases hs
  refine h c
 ·cases hs
theorem ok_one:FnP 117 sp_one:=of_one (by
 intro c
 rw [vc_one])
def bP (P:Int→Bool) (t:Bool) (c:UInt8):Bool:=P (c.toNat:Int)==t
def sp_sidx1:FSpec:=⟨[],fun | [.one (.str s),.one (.fnv 140 [(21,.int .i32 c)]),.one (.bool t)]=>some ([Asc s,s.length≤1000000000],.one (.int .i64 (idxZ (bP (·==c) t) s))) | _=>none⟩
theorem vc_sidx1 (s:List UInt8) (c:Int) (t:Bool):vcP [(140,sp_one1)] [] misc Tryz.f161 (.loop 2 (None (bP (·==c) t) s) (fun i=>⟨[(1,.one (.fn 140 [(0,0)])),(2,.one (.bool t)),(10,.one (.slc 17))],[(0,some (.ro 21 [.int .i32 c])),(17,some (.iter s i.1))],18⟩) (fun i=>s.length-i.1) (fun _=>.nil) .nil) [.one (.str s),.one (.fnv 140 [(21,.int .i32 c)]),.one (.bool t)] (.one (.int .i64 (idxZ (bP (·==c) t) s)))=(((∃ (x:None (bP (fun (x:Int)=>x==c) t) s),t=t∧c=c∧(0:Nat)=Subtype.val x∧s=s)∧∀ (x:None (bP (fun (x:Int)=>x==c) t) s),br (decide (Subtype.val x<List.length s)) (br ((dec s (Subtype.val x)==c)==t) ((↑(Subtype.val x):Int)=idxZ (bP (fun (x:Int)=>x==c) t) s) (∃ (x':None (bP (fun (x:Int)=>x==c) t) s),(t=t∧c=c∧Subtype.val x+wid s (Subtype.val x)=Subtype.val x'∧s=s)∧List.length s-Subtype.val x'<List.length s-Subtype.val x)) ((-1:Int)=idxZ (bP (fun (x:Int)=>x==c) t) s))):=by kernel_rfl
set_option maxHeartbeats 4000000 in
theorem of_sidx1 (h:∀ (s:List UInt8) (c:Int) (t:Bool),(Asc s)→(s.length≤1000000000)→vcP [(140,sp_one1)] [] misc Tryz.f161 (.loop 2 (None (bP (·==c) t) s) (fun i=>⟨[(1,.one (.fn 140 [(0,0)])),(2,.one (.bool t)),(10,.one (.slc 17))],[(0,some (.ro 21 [.int .i32 c])),(17,some (.iter s i.1))],18⟩) (fun i=>s.length-i.1) (fun _=>.nil) .nil) [.one (.str s),.one (.fnv 140 [(21,.int .i32 c)]),.one (.bool t)] (.one (.int .i64 (idxZ (bP (·==c) t) s)))):FnP 161 sp_sidx1:=by
 refine fnP_ok (cs:=[(140,sp_one1)]) (cas:=[]) (ms:=misc) (.cons ok_one1 .nil) .nil misc_ok 161 Tryz.f161 (by kernel_rfl) (by kernel_rfl) (by kernel_rfl) (fun | [.one (.str s),.one (.fnv 140 [(21,.int .i32 c)]),.one (.bool t)]=>.loop 2 (None (bP (·==c) t) s) (fun i=>⟨[(1,.one (.fn 140 [(0,0)])),(2,.one (.bool t)),(10,.one (.slc 17))],[(0,some (.ro 21 [.int .i32 c])),(17,some (.iter s i.1))],18⟩) (fun i=>s.length-i.1) (fun _=>.nil) .nil | _=>.nil) ?_
 intro pvs p r hs hp
 unfold sp_sidx1 at hs
 simp only at hs
 split at hs
 ·rename_i s c t
  cases hs
  refine h s c t ?_ ?_
  ·exact hp.1
  ·exact hp.2
 ·cases hs
def sp_sidxD:FSpec:=⟨[],fun | [.one (.str s),.one (.fnv 119 []),.one (.bool t)]=>some ([Asc s,s.length≤1000000000],.one (.int .i64 (idxZ (bP isDig t) s))) | _=>none⟩
theorem vc_sidxD (s:List UInt8) (t:Bool):vcP [(119,sp_digit)] [] misc Tryz.f161 (.loop 2 (None (bP isDig t) s) (fun i=>⟨[(1,.one (.fn 119 [])),(2,.one (.bool t)),(10,.one (.slc 17))],[(17,some (.iter s i.1))],18⟩) (fun i=>s.length-i.1) (fun _=>.nil) .nil) [.one (.str s),.one (.fnv 119 []),.one (.bool t)] (.one (.int .i64 (idxZ (bP isDig t) s)))=(((∃ (x:None (bP isDig t) s),t=t∧(0:Nat)=Subtype.val x∧s=s)∧∀ (x:None (bP isDig t) s),br (decide (Subtype.val x<List.length s)) (br (isDig (dec s (Subtype.val x))==t) ((↑(Subtype.val x):Int)=idxZ (bP isDig t) s) (∃ (x':None (bP isDig t) s),(t=t∧Subtype.val x+wid s (Subtype.val x)=Subtype.val x'∧s=s)∧List.length s-Subtype.val x'<List.length s-Subtype.val x)) ((-1:Int)=idxZ (bP isDig t) s))):=by kernel_rfl
set_option maxHeartbeats 4000000 in
theorem of_sidxD (h:∀ (s:List UInt8) (t:Bool),(Asc s)→(s.length≤1000000000)→vcP [(119,sp_digit)] [] misc Tryz.f161 (.loop 2 (None (bP isDig t) s) (fun i=>⟨[(1,.one (.fn 119 [])),(2,.one (.bool t)),(10,.one (.slc 17))],[(17,some (.iter s i.1))],18⟩) (fun i=>s.length-i.1) (fun _=>.nil) .nil) [.one (.str s),.one (.fnv 119 []),.one (.bool t)] (.one (.int .i64 (idxZ (bP isDig t) s)))):FnP 161 sp_sidxD:=by
 refine fnP_ok (cs:=[(119,sp_digit)]) (cas:=[]) (ms:=misc) (.cons ok_digit .nil) .nil misc_ok 161 Tryz.f161 (by kernel_rfl) (by kernel_rfl) (by kernel_rfl) (fun | [.one (.str s),.one (.fnv 119 []),.one (.bool t)]=>.loop 2 (None (bP isDig t) s) (fun i=>⟨[(1,.one (.fn 119 [])),(2,.one (.bool t)),(10,.one (.slc 17))],[(17,some (.iter s i.1))],18⟩) (fun i=>s.length-i.1) (fun _=>.nil) .nil | _=>.nil) ?_
 intro pvs p r hs hp
 unfold sp_sidxD at hs
 simp only at hs
 split at hs
 ·rename_i s t
  cases hs
  refine h s t ?_ ?_
  ·exact hp.1
  ·exact hp.2
 ·cases hs
def sp_sidxO:FSpec:=⟨[],fun | [.one (.str s),.one (.fnv 118 []),.one (.bool t)]=>some ([Asc s,s.length≤1000000000],.one (.int .i64 (idxZ (bP isOdd t) s))) | _=>none⟩
theorem vc_sidxO (s:List UInt8) (t:Bool):vcP [(118,sp_parts1)] [] misc Tryz.f161 (.loop 2 (None (bP isOdd t) s) (fun i=>⟨[(1,.one (.fn 118 [])),(2,.one (.bool t)),(10,.one (.slc 17))],[(17,some (.iter s i.1))],18⟩) (fun i=>s.length-i.1) (fun _=>.nil) .nil) [.one (.str s),.one (.fnv 118 []),.one (.bool t)] (.one (.int .i64 (idxZ (bP isOdd t) s)))=(((∃ (x:None (bP isOdd t) s),t=t∧(0:Nat)=Subtype.val x∧s=s)∧∀ (x:None (bP isOdd t) s),br (decide (Subtype.val x<List.length s)) (((0:Int)≤dec s (Subtype.val x)∧dec s (Subtype.val x)<(128:Int))∧br (isOdd (dec s (Subtype.val x))==t) ((↑(Subtype.val x):Int)=idxZ (bP isOdd t) s) (∃ (x':None (bP isOdd t) s),(t=t∧Subtype.val x+wid s (Subtype.val x)=Subtype.val x'∧s=s)∧List.length s-Subtype.val x'<List.length s-Subtype.val x)) ((-1:Int)=idxZ (bP isOdd t) s))):=by kernel_rfl
set_option maxHeartbeats 4000000 in
theorem of_sidxO (h:∀ (s:List UInt8) (t:Bool),(Asc s)→(s.length≤1000000000)→vcP [(118,sp_parts1)] [] misc Tryz.f161 (.loop 2 (None (bP isOdd t) s) (fun i=>⟨[(1,.one (.fn 118 [])),(2,.one (.bool t)),(10,.one (.slc 17))],[(17,some (.iter s i.1))],18⟩) (fun i=>s.length-i.1) (fun _=>.nil) .nil) [.one (.str s),.one (.fnv 118 []),.one (.bool t)] (.one (.int .i64 (idxZ (bP isOdd t) s)))):FnP 161 sp_sidxO:=by
 refine fnP_ok (cs:=[(118,sp_parts1)]) (cas:=[]) (ms:=misc) (.cons ok_parts1 .nil) .nil misc_ok 161 Tryz.f161 (by kernel_rfl) (by kernel_rfl) (by kernel_rfl) (fun | [.one (.str s),.one (.fnv 118 []),.one (.bool t)]=>.loop 2 (None (bP isOdd t) s) (fun i=>⟨[(1,.one (.fn 118 [])),(2,.one (.bool t)),(10,.one (.slc 17))],[(17,some (.iter s i.1))],18⟩) (fun i=>s.length-i.1) (fun _=>.nil) .nil | _=>.nil) ?_
 intro pvs p r hs hp
 unfold sp_sidxO at hs
 simp only at hs
 split at hs
 ·rename_i s t
  cases hs
  refine h s t ?_ ?_
  ·exact hp.1
  ·exact hp.2
 ·cases hs
theorem None.step {P:Int→Bool} {t:Bool} {s:List UInt8} (hs:Asc s) (x:None (bP P t) s) (h:x.1<s.length) :
  dec s x.1=((s.getD x.1 0).toNat:Int)∧wid s x.1=1∧(0≤dec s x.1∧dec s x.1<128):=by
 obtain ⟨q1,q2⟩:=dec_asc hs h
 have:=hs _ (getD_mem' (d:=0) h)
 exact ⟨q1,q2,by omega,by omega⟩
theorem ok_sidx1:FnP 161 sp_sidx1:=of_sidx1 (by
 intro s c t hs hn
 rw [vc_sidx1]
 refine ⟨⟨.zero _ s,rfl,rfl,rfl,rfl⟩,fun x=>br_of (fun h=>?_) fun h=>?_⟩
 ·have h:x.1<s.length:=of_decide_eq_true h
  obtain ⟨q1,q2,q3⟩:=x.step hs h
  rw [q1,q2]
  exact br_of (fun h1=>(x.hitZ (d:=0) h h1).symm) fun h1=>⟨x.next 0 h h1,⟨rfl,rfl,rfl,rfl⟩,by show s.length-(x.1+1)<_; omega⟩
 ·exact (x.overZ (of_decide_eq_false h)).symm)
theorem ok_sidxD:FnP 161 sp_sidxD:=of_sidxD (by
 intro s t hs hn
 rw [vc_sidxD]
 refine ⟨⟨.zero _ s,rfl,rfl,rfl⟩,fun x=>br_of (fun h=>?_) fun h=>?_⟩
 ·have h:x.1<s.length:=of_decide_eq_true h
  obtain ⟨q1,q2,q3⟩:=x.step hs h
  rw [q1,q2]
  exact br_of (fun h1=>(x.hitZ (d:=0) h h1).symm) fun h1=>⟨x.next 0 h h1,⟨rfl,rfl,rfl⟩,by show s.length-(x.1+1)<_; omega⟩
 ·exact (x.overZ (of_decide_eq_false h)).symm)
theorem ok_sidxO:FnP 161 sp_sidxO:=of_sidxO (by
 intro s t hs hn
 rw [vc_sidxO]
 refine ⟨⟨.zero _ s,rfl,rfl,rfl⟩,fun x=>br_of (fun h=>?_) fun h=>?_⟩
 ·have h:x.1<s.length:=of_decide_eq_true h
  obtain ⟨q1,q2,q3⟩:=x.step hs h
  refine ⟨q3,?_⟩
  rw [q1,q2]
  exact br_of (fun h1=>(x.hitZ (d:=0) h h1).symm) fun h1=>⟨x.next 0 h h1,⟨rfl,rfl,rfl⟩,by show s.length-(x.1+1)<_; omega⟩
 ·exact (x.overZ (of_decide_eq_false h)).symm)
def dropP (P:Int→Bool) (s:List UInt8):List UInt8:=s.dropWhile fun c=>P (c.toNat:Int)
def sp_strim1:FSpec:=⟨[],fun | [.one (.str s),.one (.fnv 140 [(21,.int .i32 c)])]=>some ([Asc s,s.length≤1000000000],.one (.str (dropP (·==c) s))) | _=>none⟩
theorem vc_strim1 (s:List UInt8) (c:Int):vcP [(161,sp_sidx1)] [] misc Tryz.f139 (.nil) [.one (.str s),.one (.fnv 140 [(21,.int .i32 c)])] (.one (.str (dropP (·==c) s)))=(((∀ (c:UInt8),c∈s→UInt8.toNat c<(128:Nat))∧List.length s≤(1000000000:Nat)∧br (idxZ (bP (fun (x:Int)=>x==c) false) s==(-1:Int)) (([]:List UInt8)=dropP (fun (x:Int)=>x==c) s) (((0:Int)≤idxZ (bP (fun (x:Int)=>x==c) false) s∧idxZ (bP (fun (x:Int)=>x==c) false) s≤(↑(List.length s):Int))∧List.drop (Int.toNat (idxZ (bP (fun (x:Int)=>x==c) false) s)) s=dropP (fun (x:Int)=>x==c) s))):=by kernel_rfl
set_option maxHeartbeats 4000000 in
theorem of_strim1 (h:∀ (s:List UInt8) (c:Int),(Asc s)→(s.length≤1000000000)→vcP [(161,sp_sidx1)] [] misc Tryz.f139 (.nil) [.one (.str s),.one (.fnv 140 [(21,.int .i32 c)])] (.one (.str (dropP (·==c) s)))):FnP 139 sp_strim1:=by
 refine fnP_ok (cs:=[(161,sp_sidx1)]) (cas:=[]) (ms:=misc) (.cons ok_sidx1 .nil) .nil misc_ok 139 Tryz.f139 (by kernel_rfl) (by kernel_rfl) (by kernel_rfl) (fun _=>.nil) ?_
 intro pvs p r hs hp
 unfold sp_strim1 at hs
 simp only at hs
 split at hs
 ·rename_i s c
  cases hs
  refine h s c ?_ ?_
  ·exact hp.1
  ·exact hp.2
 ·cases hs
def sp_strimD:FSpec:=⟨[],fun | [.one (.str s),.one (.fnv 119 [])]=>some ([Asc s,s.length≤1000000000],.one (.str (dropP isDig s))) | _=>none⟩
theorem vc_strimD (s:List UInt8):vcP [(161,sp_sidxD)] [] misc Tryz.f139 (.nil) [.one (.str s),.one (.fnv 119 [])] (.one (.str (dropP isDig s)))=(((∀ (c:UInt8),c∈s→UInt8.toNat c<(128:Nat))∧List.length s≤(1000000000:Nat)∧br (idxZ (bP isDig false) s==(-1:Int)) (([]:List UInt8)=dropP isDig s) (((0:Int)≤idxZ (bP isDig false) s∧idxZ (bP isDig false) s≤(↑(List.length s):Int))∧List.drop (Int.toNat (idxZ (bP isDig false) s)) s=dropP isDig s))):=by kernel_rfl
set_option maxHeartbeats 4000000 in
theorem of_strimD (h:∀ (s:List UInt8),(Asc s)→(s.length≤1000000000)→vcP [(161,sp_sidxD)] [] misc Tryz.f139 (.nil) [.one (.str s),.one (.fnv 119 [])] (.one (.str (dropP isDig s)))):FnP 139 sp_strimD:=by
 refine fnP_ok (cs:=[(161,sp_sidxD)]) (cas:=[]) (ms:=misc) (.cons ok_sidxD .nil) .nil misc_ok 139 Tryz.f139 (by kernel_rfl) (by kernel_rfl) (by kernel_rfl) (fun _=>.nil) ?_
 intro pvs p r hs hp
 unfold sp_strimD at hs
 simp only at hs
 split at hs
 ·rename_i s
  cases hs
  refine h s ?_ ?_
  ·exact hp.1
  ·exact hp.2
 ·cases hs
def sp_sifD:FSpec:=⟨[],fun | [.one (.str s),.one (.fnv 119 [])]=>some ([Asc s,s.length≤1000000000],.one (.int .i64 (idxZ (bP isDig true) s))) | _=>none⟩
theorem vc_sifD (s:List UInt8):vcP [(161,sp_sidxD)] [] misc Tryz.f142 (.nil) [.one (.str s),.one (.fnv 119 [])] (.one (.int .i64 (idxZ (bP isDig true) s)))=(((∀ (c:UInt8),c∈s→UInt8.toNat c<(128:Nat))∧List.length s≤(1000000000:Nat)∧idxZ (bP isDig true) s=idxZ (bP isDig true) s)):=by kernel_rfl
set_option maxHeartbeats 4000000 in
theorem of_sifD (h:∀ (s:List UInt8),(Asc s)→(s.length≤1000000000)→vcP [(161,sp_sidxD)] [] misc Tryz.f142 (.nil) [.one (.str s),.one (.fnv 119 [])] (.one (.int .i64 (idxZ (bP isDig true) s)))):FnP 142 sp_sifD:=by
 refine fnP_ok (cs:=[(161,sp_sidxD)]) (cas:=[]) (ms:=misc) (.cons ok_sidxD .nil) .nil misc_ok 142 Tryz.f142 (by kernel_rfl) (by kernel_rfl) (by kernel_rfl) (fun _=>.nil) ?_
 intro pvs p r hs hp
 unfold sp_sifD at hs
 simp only at hs
 split at hs
 ·rename_i s
  cases hs
  refine h s ?_ ?_
  ·exact hp.1
  ·exact hp.2
 ·cases hs
def sp_sifO:FSpec:=⟨[],fun | [.one (.str s),.one (.fnv 118 [])]=>some ([Asc s,s.length≤1000000000],.one (.int .i64 (idxZ (bP isOdd true) s))) | _=>none⟩
theorem vc_sifO (s:List UInt8):vcP [(161,sp_sidxO)] [] misc Tryz.f142 (.nil) [.one (.str s),.one (.fnv 118 [])] (.one (.int .i64 (idxZ (bP isOdd true) s)))=(((∀ (c:UInt8),c∈s→UInt8.toNat c<(128:Nat))∧List.length s≤(1000000000:Nat)∧idxZ (bP isOdd true) s=idxZ (bP isOdd true) s)):=by kernel_rfl
set_option maxHeartbeats 4000000 in
theorem of_sifO (h:∀ (s:List UInt8),(Asc s)→(s.length≤1000000000)→vcP [(161,sp_sidxO)] [] misc Tryz.f142 (.nil) [.one (.str s),.one (.fnv 118 [])] (.one (.int .i64 (idxZ (bP isOdd true) s)))):FnP 142 sp_sifO:=by
 refine fnP_ok (cs:=[(161,sp_sidxO)]) (cas:=[]) (ms:=misc) (.cons ok_sidxO .nil) .nil misc_ok 142 Tryz.f142 (by kernel_rfl) (by kernel_rfl) (by kernel_rfl) (fun _=>.nil) ?_
 intro pvs p r hs hp
 unfold sp_sifO at hs
 simp only at hs
 split at hs
 ·rename_i s
  cases hs
  refine h s ?_ ?_
  ·exact hp.1
  ·exact hp.2
 ·cases hs
def anyP (P:Int→Bool) (s:List UInt8):Bool:=s.any fun c=>P (c.toNat:Int)
theorem ok_sifD:FnP 142 sp_sifD:=of_sifD (by
 intro s hs hn
 rw [vc_sifD]
 exact ⟨hs,hn,rfl⟩)
theorem ok_sifO:FnP 142 sp_sifO:=of_sifO (by
 intro s hs hn
 rw [vc_sifO]
 exact ⟨hs,hn,rfl⟩)
def sp_scfD:FSpec:=⟨[],fun | [.one (.str s),.one (.fnv 119 [])]=>some ([Asc s,s.length≤1000000000],.one (.bool (anyP isDig s))) | _=>none⟩
theorem vc_scfD (s:List UInt8):vcP [(142,sp_sifD)] [] misc Tryz.f121 (.nil) [.one (.str s),.one (.fnv 119 [])] (.one (.bool (anyP isDig s)))=(((∀ (c:UInt8),c∈s→UInt8.toNat c<(128:Nat))∧List.length s≤(1000000000:Nat)∧decide (idxZ (bP isDig true) s≥(0:Int))=anyP isDig s)):=by kernel_rfl
set_option maxHeartbeats 4000000 in
theorem of_scfD (h:∀ (s:List UInt8),(Asc s)→(s.length≤1000000000)→vcP [(142,sp_sifD)] [] misc Tryz.f121 (.nil) [.one (.str s),.one (.fnv 119 [])] (.one (.bool (anyP isDig s)))):FnP 121 sp_scfD:=by
 refine fnP_ok (cs:=[(142,sp_sifD)]) (cas:=[]) (ms:=misc) (.cons ok_sifD .nil) .nil misc_ok 121 Tryz.f121 (by kernel_rfl) (by kernel_rfl) (by kernel_rfl) (fun _=>.nil) ?_
 intro pvs p r hs hp
 unfold sp_scfD at hs
 simp only at hs
 split at hs
 ·rename_i s
  cases hs
  refine h s ?_ ?_
  ·exact hp.1
  ·exact hp.2
 ·cases hs
def sp_scfO:FSpec:=⟨[],fun | [.one (.str s),.one (.fnv 118 [])]=>some ([Asc s,s.length≤1000000000],.one (.bool (anyP isOdd s))) | _=>none⟩
theorem vc_scfO (s:List UInt8):vcP [(142,sp_sifO)] [] misc Tryz.f121 (.nil) [.one (.str s),.one (.fnv 118 [])] (.one (.bool (anyP isOdd s)))=(((∀ (c:UInt8),c∈s→UInt8.toNat c<(128:Nat))∧List.length s≤(1000000000:Nat)∧decide (idxZ (bP isOdd true) s≥(0:Int))=anyP isOdd s)):=by kernel_rfl
set_option maxHeartbeats 4000000 in
theorem of_scfO (h:∀ (s:List UInt8),(Asc s)→(s.length≤1000000000)→vcP [(142,sp_sifO)] [] misc Tryz.f121 (.nil) [.one (.str s),.one (.fnv 118 [])] (.one (.bool (anyP isOdd s)))):FnP 121 sp_scfO:=by
 refine fnP_ok (cs:=[(142,sp_sifO)]) (cas:=[]) (ms:=misc) (.cons ok_sifO .nil) .nil misc_ok 121 Tryz.f121 (by kernel_rfl) (by kernel_rfl) (by kernel_rfl) (fun _=>.nil) ?_
 intro pvs p r hs hp
 unfold sp_scfO at hs
 simp only at hs
 split at hs
 ·rename_i s
  cases hs
  refine h s ?_ ?_
  ·exact hp.1
  ·exact hp.2
 ·cases hs
theorem any_idx (P:Int→Bool) (s:List UInt8):decide (idxZ (bP P true) s≥0)=anyP P s:=by
 unfold idxZ anyP
 rw [Bool.eq_iff_iff,decide_eq_true_iff,List.any_eq_true]
 by_cases h:s.findIdx (bP P true)<s.length
 ·rw [if_pos h]
  have h1:=List.findIdx_getElem (w:=h)
  refine ⟨fun _=>⟨_,List.getElem_mem h,by simpa [bP] using h1⟩,fun _=>by omega⟩
 ·rw [if_neg h]
  have h0:s.findIdx (bP P true)=s.length:=by have:=List.findIdx_le_length (p:=bP P true) (xs:=s); omega
  rw [List.findIdx_eq_length] at h0
  refine ⟨fun h=>absurd h (by decide),?_⟩
  rintro ⟨c,hc,h1⟩
  have:=h0 c hc
  unfold bP at this
  rw [h1] at this
  exact absurd this (by decide)
theorem ok_scfD:FnP 121 sp_scfD:=of_scfD (by
 intro s hs hn
 rw [vc_scfD]
 exact ⟨hs,hn,any_idx isDig s⟩)
theorem ok_scfO:FnP 121 sp_scfO:=of_scfO (by
 intro s hs hn
 rw [vc_scfO]
 exact ⟨hs,hn,any_idx isOdd s⟩)
theorem drop_idx (P:Int→Bool) (s:List UInt8):s.drop (s.findIdx (bP P false))=dropP P s:=by
 unfold dropP
 induction s with
 | nil=>rfl
 | cons c l ih =>
  rw [List.findIdx_cons]
  cases h:P (c.toNat:Int) with
  | true =>
   have:bP P false c=false:=by unfold bP; rw [h]; rfl
   rw [this,List.dropWhile_cons_of_pos (by simpa using h)]
   simpa using ih
  | false =>
   have:bP P false c=true:=by unfold bP; rw [h]; rfl
   rw [this,List.dropWhile_cons_of_neg (by simp [h])]
   rfl
theorem trim_of (P:Int→Bool) (s:List UInt8):br (idxZ (bP P false) s == -1) ([]=dropP P s) ((0≤idxZ (bP P false) s∧idxZ (bP P false) s≤s.length)∧s.drop (idxZ (bP P false) s).toNat=dropP P s):=by
 have h1:=drop_idx P s
 have h2:=List.findIdx_le_length (p:=bP P false) (xs:=s)
 unfold idxZ
 split
 ·refine br_of (fun h=>?_) fun h=>⟨⟨by omega,by omega⟩,by rw [Int.toNat_natCast]; exact h1⟩
  have:=eq_of_beq h; omega
 ·refine br_of (fun h=>?_) fun h=>absurd h (by decide)
  rw [← h1,List.drop_of_length_le (by omega)]
theorem ok_strim1:FnP 139 sp_strim1:=of_strim1 (by
 intro s c hs hn
 rw [vc_strim1]
 exact ⟨hs,hn,trim_of (·==c) s⟩)
theorem ok_strimD:FnP 139 sp_strimD:=of_strimD (by
 intro s hs hn
 rw [vc_strimD]
 exact ⟨hs,hn,trim_of isDig s⟩)
theorem dropP_suffix (P:Int→Bool) (s:List UInt8):dropP P s <:+ s:=List.dropWhile_suffix _
theorem dropP_len (P:Int→Bool) (s:List UInt8):(dropP P s).length≤s.length:=(dropP_suffix P s).length_le
theorem dropP_asc {P:Int→Bool} {s:List UInt8} (h:Asc s):Asc (dropP P s):=fun c hc=>h c ((dropP_suffix P s).subset hc)
def span1 (P:Int→Bool) (s:List UInt8):Int:=(s.length:Int)-((dropP P s).length:Int)
def sp_spans1:ASpec:=⟨fun | [.one (.str s),.one (.slc 0)],[(0,some (.lit 40 1 [.fn 140 [(1,0)]])),(1,some (.ro 21 [.int .i32 c]))]=>some ([Asc s,s.length≤1000000000],.tup [(false,[.slc 16]),(false,[.bool (decide (dropP (·==c) s=[]))])],[(16,some (.row 3 (.ints .i64 [span1 (·==c) s])))]) | _,_=>none⟩
theorem vc_spans1 (s:List UInt8) (c:Int):vcA [(139,sp_strim1)] [] misc Tryz.f116 (.turns 3 2 (fun _=>.nil) .nil) [.one (.str s),.one (.slc 0)] [(0,some (.lit 40 1 [.fn 140 [(1,0)]])),(1,some (.ro 21 [.int .i32 c]))] (.tup [(false,[.slc 16]),(false,[.bool (decide (dropP (·==c) s=[]))])]) [(16,some (.row 3 (.ints .i64 [span1 (·==c) s])))]=((((0:Int)≤(0:Int)∧(0:Int)<(↑(1:Nat):Int))∧(∀ (c:UInt8),c∈s→UInt8.toNat c<(128:Nat))∧List.length s≤(1000000000:Nat)∧inR IntKind.i64 ((↑(List.length s):Int)-(↑(List.length (dropP (fun (x:Int)=>x==c) s)):Int))∧((0:Nat)+(1:Nat))*(8:Nat)≤(140737488355328:Nat)∧inR IntKind.i64 ((0:Int)+(1:Int))∧decide (dropP (fun (x:Int)=>x==c) s=([]:List UInt8))=decide (dropP (fun (x:Int)=>x==c) s=[])∧[]++[(↑(List.length s):Int)-(↑(List.length (dropP (fun (x:Int)=>x==c) s)):Int)]=[span1 (fun (x:Int)=>x==c) s])):=by kernel_rfl
set_option maxHeartbeats 4000000 in
theorem of_spans1 (h:∀ (s:List UInt8) (c:Int),(Asc s)→(s.length≤1000000000)→vcA [(139,sp_strim1)] [] misc Tryz.f116 (.turns 3 2 (fun _=>.nil) .nil) [.one (.str s),.one (.slc 0)] [(0,some (.lit 40 1 [.fn 140 [(1,0)]])),(1,some (.ro 21 [.int .i32 c]))] (.tup [(false,[.slc 16]),(false,[.bool (decide (dropP (·==c) s=[]))])]) [(16,some (.row 3 (.ints .i64 [span1 (·==c) s])))]):FnA 116 sp_spans1:=by
 refine fnA_ok (cs:=[(139,sp_strim1)]) (cas:=[]) (ms:=misc) (.cons ok_strim1 .nil) .nil misc_ok 116 Tryz.f116 (by kernel_rfl) (by kernel_rfl) (by kernel_rfl) (fun | [.one (.str s),.one (.slc 0)],[(0,some (.lit 40 1 [.fn 140 [(1,0)]])),(1,some (.ro 21 [.int .i32 c]))]=>.turns 3 2 (fun _=>.nil) .nil | _,_=>.nil) ?_
 intro args mem p r post hs hp
 unfold sp_spans1 at hs
 simp only at hs
 split at hs
 ·rename_i s c
  cases hs
  refine h s c ?_ ?_
  ·exact hp.1
  ·exact hp.2
 ·cases hs
def FSpec.either (s t:FSpec):FSpec:=⟨s.tmpl,fun pvs=>match s.spec pvs with | some x=>some x | none=>t.spec pvs⟩
theorem either_ok {f:Nat} {s t:FSpec} (h:FnP f s) (k:FnP f t):FnP f (s.either t):=by
 refine ⟨h.body,?_⟩
 intro pvs p r hs
 unfold FSpec.either at hs
 simp only at hs
 split at hs
 ·rename_i x hx
  cases hs
  exact h.calls _ _ _ hx
 ·exact k.calls _ _ _ hs
def sp_strimX:FSpec:=sp_strim1.either sp_strimD
theorem ok_strimX:FnP 139 sp_strimX:=either_ok ok_strim1 ok_strimD
def sp_spansA:ASpec:=⟨fun | [.one (.str s),.one (.slc 0)],[(0,some (.lit 40 2 [.fn 140 [(1,0)],.fn 119 []])),(1,some (.ro 21 [.int .i32 c]))]=>some ([Asc s,s.length≤1000000000],.tup [(false,[.slc 16]),(false,[.bool (decide (dropP isDig (dropP (·==c) s)=[]))])],[(16,some (.row 3 (.ints .i64 [span1 (·==c) s,span1 isDig (dropP (·==c) s)])))]) | _,_=>none⟩
theorem vc_spansA (s:List UInt8) (c:Int):vcA [(139,sp_strimX)] [] misc Tryz.f116 (.turns 3 3 (fun _=>.nil) .nil) [.one (.str s),.one (.slc 0)] [(0,some (.lit 40 2 [.fn 140 [(1,0)],.fn 119 []])),(1,some (.ro 21 [.int .i32 c]))] (.tup [(false,[.slc 16]),(false,[.bool (decide (dropP isDig (dropP (·==c) s)=[]))])]) [(16,some (.row 3 (.ints .i64 [span1 (·==c) s,span1 isDig (dropP (·==c) s)])))]=((((0:Int)≤(0:Int)∧(0:Int)<(↑(2:Nat):Int))∧(∀ (c:UInt8),c∈s→UInt8.toNat c<(128:Nat))∧List.length s≤(1000000000:Nat)∧inR IntKind.i64 ((↑(List.length s):Int)-(↑(List.length (dropP (fun (x:Int)=>x==c) s)):Int))∧((0:Nat)+(1:Nat))*(8:Nat)≤(140737488355328:Nat)∧inR IntKind.i64 ((0:Int)+(1:Int))∧((0:Int)≤(0:Int)+(1:Int)∧(0:Int)+(1:Int)<(↑(2:Nat):Int))∧(∀ (c_1:UInt8),c_1∈dropP (fun (x:Int)=>x==c) s→UInt8.toNat c_1<(128:Nat))∧List.length (dropP (fun (x:Int)=>x==c) s)≤(1000000000:Nat)∧inR IntKind.i64 ((↑(List.length (dropP (fun (x:Int)=>x==c) s)):Int)-(↑(List.length (dropP isDig (dropP (fun (x:Int)=>x==c) s))):Int))∧((1:Nat)+(1:Nat))*(8:Nat)≤(140737488355328:Nat)∧inR IntKind.i64 ((0:Int)+(1:Int)+(1:Int))∧decide (dropP isDig (dropP (fun (x:Int)=>x==c) s)=([]:List UInt8))=decide (dropP isDig (dropP (fun (x:Int)=>x==c) s)=[])∧[]++[(↑(List.length s):Int)-(↑(List.length (dropP (fun (x:Int)=>x==c) s)):Int)]++[(↑(List.length (dropP (fun (x:Int)=>x==c) s)):Int)-(↑(List.length (dropP isDig (dropP (fun (x:Int)=>x==c) s))):Int)]=[span1 (fun (x:Int)=>x==c) s,span1 isDig (dropP (fun (x:Int)=>x==c) s)])):=by kernel_rfl
set_option maxHeartbeats 4000000 in
theorem of_spansA (h:∀ (s:List UInt8) (c:Int),(Asc s)→(s.length≤1000000000)→vcA [(139,sp_strimX)] [] misc Tryz.f116 (.turns 3 3 (fun _=>.nil) .nil) [.one (.str s),.one (.slc 0)] [(0,some (.lit 40 2 [.fn 140 [(1,0)],.fn 119 []])),(1,some (.ro 21 [.int .i32 c]))] (.tup [(false,[.slc 16]),(false,[.bool (decide (dropP isDig (dropP (·==c) s)=[]))])]) [(16,some (.row 3 (.ints .i64 [span1 (·==c) s,span1 isDig (dropP (·==c) s)])))]):FnA 116 sp_spansA:=by
 refine fnA_ok (cs:=[(139,sp_strimX)]) (cas:=[]) (ms:=misc) (.cons ok_strimX .nil) .nil misc_ok 116 Tryz.f116 (by kernel_rfl) (by kernel_rfl) (by kernel_rfl) (fun | [.one (.str s),.one (.slc 0)],[(0,some (.lit 40 2 [.fn 140 [(1,0)],.fn 119 []])),(1,some (.ro 21 [.int .i32 c]))]=>.turns 3 3 (fun _=>.nil) .nil | _,_=>.nil) ?_
 intro args mem p r post hs hp
 unfold sp_spansA at hs
 simp only at hs
 split at hs
 ·rename_i s c
  cases hs
  refine h s c ?_ ?_
  ·exact hp.1
  ·exact hp.2
 ·cases hs
def sp_spansB:ASpec:=⟨fun | [.one (.str s),.one (.slc 0)],[(0,some (.lit 40 2 [.fn 119 [],.fn 140 [(1,0)]])),(1,some (.ro 21 [.int .i32 c]))]=>some ([Asc s,s.length≤1000000000],.tup [(false,[.slc 16]),(false,[.bool (decide (dropP (·==c) (dropP isDig s)=[]))])],[(16,some (.row 3 (.ints .i64 [span1 isDig s,span1 (·==c) (dropP isDig s)])))]) | _,_=>none⟩
theorem vc_spansB (s:List UInt8) (c:Int):vcA [(139,sp_strimX)] [] misc Tryz.f116 (.turns 3 3 (fun _=>.nil) .nil) [.one (.str s),.one (.slc 0)] [(0,some (.lit 40 2 [.fn 119 [],.fn 140 [(1,0)]])),(1,some (.ro 21 [.int .i32 c]))] (.tup [(false,[.slc 16]),(false,[.bool (decide (dropP (·==c) (dropP isDig s)=[]))])]) [(16,some (.row 3 (.ints .i64 [span1 isDig s,span1 (·==c) (dropP isDig s)])))]=(letI v0:=(↑(List.length (dropP isDig s)):Int); (((0:Int)≤(0:Int)∧(0:Int)<(↑(2:Nat):Int))∧(∀ (c:UInt8),c∈s→UInt8.toNat c<(128:Nat))∧List.length s≤(1000000000:Nat)∧inR IntKind.i64 ((↑(List.length s):Int)-v0)∧((0:Nat)+(1:Nat))*(8:Nat)≤(140737488355328:Nat)∧inR IntKind.i64 ((0:Int)+(1:Int))∧((0:Int)≤(0:Int)+(1:Int)∧(0:Int)+(1:Int)<(↑(2:Nat):Int))∧(∀ (c:UInt8),c∈dropP isDig s→UInt8.toNat c<(128:Nat))∧List.length (dropP isDig s)≤(1000000000:Nat)∧inR IntKind.i64 (v0-(↑(List.length (dropP (fun (x:Int)=>x==c) (dropP isDig s))):Int))∧((1:Nat)+(1:Nat))*(8:Nat)≤(140737488355328:Nat)∧inR IntKind.i64 ((0:Int)+(1:Int)+(1:Int))∧decide (dropP (fun (x:Int)=>x==c) (dropP isDig s)=([]:List UInt8))=decide (dropP (fun (x:Int)=>x==c) (dropP isDig s)=[])∧[]++[(↑(List.length s):Int)-v0]++[v0-(↑(List.length (dropP (fun (x:Int)=>x==c) (dropP isDig s))):Int)]=[span1 isDig s,span1 (fun (x:Int)=>x==c) (dropP isDig s)])):=by kernel_rfl
set_option maxHeartbeats 4000000 in
theorem of_spansB (h:∀ (s:List UInt8) (c:Int),(Asc s)→(s.length≤1000000000)→vcA [(139,sp_strimX)] [] misc Tryz.f116 (.turns 3 3 (fun _=>.nil) .nil) [.one (.str s),.one (.slc 0)] [(0,some (.lit 40 2 [.fn 119 [],.fn 140 [(1,0)]])),(1,some (.ro 21 [.int .i32 c]))] (.tup [(false,[.slc 16]),(false,[.bool (decide (dropP (·==c) (dropP isDig s)=[]))])]) [(16,some (.row 3 (.ints .i64 [span1 isDig s,span1 (·==c) (dropP isDig s)])))]):FnA 116 sp_spansB:=by
 refine fnA_ok (cs:=[(139,sp_strimX)]) (cas:=[]) (ms:=misc) (.cons ok_strimX .nil) .nil misc_ok 116 Tryz.f116 (by kernel_rfl) (by kernel_rfl) (by kernel_rfl) (fun | [.one (.str s),.one (.slc 0)],[(0,some (.lit 40 2 [.fn 119 [],.fn 140 [(1,0)]])),(1,some (.ro 21 [.int .i32 c]))]=>.turns 3 3 (fun _=>.nil) .nil | _,_=>.nil) ?_
 intro args mem p r post hs hp
 unfold sp_spansB at hs
 simp only at hs
 split at hs
 ·rename_i s c
  cases hs
  refine h s c ?_ ?_
  ·exact hp.1
  ·exact hp.2
 ·cases hs
def sp_spansC:ASpec:=⟨fun | [.one (.str s),.one (.slc 0)],[(0,some (.lit 40 3 [.fn 140 [(1,0)],.fn 140 [(2,0)],.fn 140 [(3,0)]])),(1,some (.ro 21 [.int .i32 c])),(2,some (.ro 21 [.int .i32 d])),(3,some (.ro 21 [.int .i32 e]))]=>some ([Asc s,s.length≤1000000000],.tup [(false,[.slc 16]),(false,[.bool (decide (dropP (·==e) (dropP (·==d) (dropP (·==c) s))=[]))])],[(16,some (.row 3 (.ints .i64 [span1 (·==c) s,span1 (·==d) (dropP (·==c) s),span1 (·==e) (dropP (·==d) (dropP (·==c) s))])))]) | _,_=>none⟩
theorem vc_spansC (s:List UInt8) (c d e:Int):vcA [(139,sp_strimX)] [] misc Tryz.f116 (.turns 3 4 (fun _=>.nil) .nil) [.one (.str s),.one (.slc 0)] [(0,some (.lit 40 3 [.fn 140 [(1,0)],.fn 140 [(2,0)],.fn 140 [(3,0)]])),(1,some (.ro 21 [.int .i32 c])),(2,some (.ro 21 [.int .i32 d])),(3,some (.ro 21 [.int .i32 e]))] (.tup [(false,[.slc 16]),(false,[.bool (decide (dropP (·==e) (dropP (·==d) (dropP (·==c) s))=[]))])]) [(16,some (.row 3 (.ints .i64 [span1 (·==c) s,span1 (·==d) (dropP (·==c) s),span1 (·==e) (dropP (·==d) (dropP (·==c) s))])))]=((((0:Int)≤(0:Int)∧(0:Int)<(↑(3:Nat):Int))∧(∀ (c:UInt8),c∈s→UInt8.toNat c<(128:Nat))∧List.length s≤(1000000000:Nat)∧inR IntKind.i64 ((↑(List.length s):Int)-(↑(List.length (dropP (fun (x:Int)=>x==c) s)):Int))∧((0:Nat)+(1:Nat))*(8:Nat)≤(140737488355328:Nat)∧inR IntKind.i64 ((0:Int)+(1:Int))∧((0:Int)≤(0:Int)+(1:Int)∧(0:Int)+(1:Int)<(↑(3:Nat):Int))∧(∀ (c_1:UInt8),c_1∈dropP (fun (x:Int)=>x==c) s→UInt8.toNat c_1<(128:Nat))∧List.length (dropP (fun (x:Int)=>x==c) s)≤(1000000000:Nat)∧inR IntKind.i64 ((↑(List.length (dropP (fun (x:Int)=>x==c) s)):Int)-(↑(List.length (dropP (fun (x:Int)=>x==d) (dropP (fun (x:Int)=>x==c) s))):Int))∧((1:Nat)+(1:Nat))*(8:Nat)≤(140737488355328:Nat)∧inR IntKind.i64 ((0:Int)+(1:Int)+(1:Int))∧((0:Int)≤(0:Int)+(1:Int)+(1:Int)∧(0:Int)+(1:Int)+(1:Int)<(↑(3:Nat):Int))∧(∀ (c_1:UInt8),c_1∈dropP (fun (x:Int)=>x==d) (dropP (fun (x:Int)=>x==c) s)→UInt8.toNat c_1<(128:Nat))∧List.length (dropP (fun (x:Int)=>x==d) (dropP (fun (x:Int)=>x==c) s))≤(1000000000:Nat)∧inR IntKind.i64 ((↑(List.length (dropP (fun (x:Int)=>x==d) (dropP (fun (x:Int)=>x==c) s))):Int)-(↑(List.length (dropP (fun (x:Int)=>x==e) (dropP (fun (x:Int)=>x==d) (dropP (fun (x:Int)=>x==c) s)))):Int))∧(Nat.succ (Nat.add (List.length (List.append [] [(↑(List.length (dropP (fun (x:Int)=>x==c) s)):Int)-(↑(List.length (dropP (fun (x:Int)=>x==d) (dropP (fun (x:Int)=>x==c) s))):Int)])) (0:Nat))+(1:Nat))*(8:Nat)≤(140737488355328:Nat)∧inR IntKind.i64 ((0:Int)+(1:Int)+(1:Int)+(1:Int))∧decide (dropP (fun (x:Int)=>x==e) (dropP (fun (x:Int)=>x==d) (dropP (fun (x:Int)=>x==c) s))=([]:List UInt8))=decide (dropP (fun (x:Int)=>x==e) (dropP (fun (x:Int)=>x==d) (dropP (fun (x:Int)=>x==c) s))=[])∧[]++[(↑(List.length s):Int)-(↑(List.length (dropP (fun (x:Int)=>x==c) s)):Int)]++[(↑(List.length (dropP (fun (x:Int)=>x==c) s)):Int)-(↑(List.length (dropP (fun (x:Int)=>x==d) (dropP (fun (x:Int)=>x==c) s))):Int)]++[(↑(List.length (dropP (fun (x:Int)=>x==d) (dropP (fun (x:Int)=>x==c) s))):Int)-(↑(List.length (dropP (fun (x:Int)=>x==e) (dropP (fun (x:Int)=>x==d) (dropP (fun (x:Int)=>x==c) s)))):Int)]=[span1 (fun (x:Int)=>x==c) s,span1 (fun (x:Int)=>x==d) (dropP (fun (x:Int)=>x==c) s),span1 (fun (x:Int)=>x==e) (dropP (fun (x:Int)=>x==d) (dropP (fun (x:Int)=>x==c) s))])):=by kernel_rfl
set_option maxHeartbeats 4000000 in
theorem of_spansC (h:∀ (s:List UInt8) (c d e:Int),(Asc s)→(s.length≤1000000000)→vcA [(139,sp_strimX)] [] misc Tryz.f116 (.turns 3 4 (fun _=>.nil) .nil) [.one (.str s),.one (.slc 0)] [(0,some (.lit 40 3 [.fn 140 [(1,0)],.fn 140 [(2,0)],.fn 140 [(3,0)]])),(1,some (.ro 21 [.int .i32 c])),(2,some (.ro 21 [.int .i32 d])),(3,some (.ro 21 [.int .i32 e]))] (.tup [(false,[.slc 16]),(false,[.bool (decide (dropP (·==e) (dropP (·==d) (dropP (·==c) s))=[]))])]) [(16,some (.row 3 (.ints .i64 [span1 (·==c) s,span1 (·==d) (dropP (·==c) s),span1 (·==e) (dropP (·==d) (dropP (·==c) s))])))]):FnA 116 sp_spansC:=by
 refine fnA_ok (cs:=[(139,sp_strimX)]) (cas:=[]) (ms:=misc) (.cons ok_strimX .nil) .nil misc_ok 116 Tryz.f116 (by kernel_rfl) (by kernel_rfl) (by kernel_rfl) (fun | [.one (.str s),.one (.slc 0)],[(0,some (.lit 40 3 [.fn 140 [(1,0)],.fn 140 [(2,0)],.fn 140 [(3,0)]])),(1,some (.ro 21 [.int .i32 c])),(2,some (.ro 21 [.int .i32 d])),(3,some (.ro 21 [.int .i32 e]))]=>.turns 3 4 (fun _=>.nil) .nil | _,_=>.nil) ?_
 intro args mem p r post hs hp
 unfold sp_spansC at hs
 simp only at hs
 split at hs
 ·rename_i s c d e
  cases hs
  refine h s c d e ?_ ?_
  ·exact hp.1
  ·exact hp.2
 ·cases hs
theorem ok_spans1:FnA 116 sp_spans1:=of_spans1 (by
 intro s c hs hn
 rw [vc_spans1]
 have h1:=dropP_len (·==c) s
 exact ⟨by decide,hs,hn,by simp only [inR]; omega,by decide,by simp only [inR]; omega,rfl,rfl⟩)
theorem ok_spansA:FnA 116 sp_spansA:=of_spansA (by
 intro s c hs hn
 rw [vc_spansA]
 have h1:=dropP_len (·==c) s
 have h2:=dropP_len isDig (dropP (·==c) s)
 exact ⟨by decide,hs,hn,by simp only [inR]; omega,by decide,by simp only [inR]; omega,by decide,dropP_asc hs,by omega,by simp only [inR]; omega,by decide,by simp only [inR]; omega,rfl,rfl⟩)
theorem ok_spansB:FnA 116 sp_spansB:=of_spansB (by
 intro s c hs hn
 rw [vc_spansB]
 have h1:=dropP_len isDig s
 have h2:=dropP_len (·==c) (dropP isDig s)
 exact ⟨by decide,hs,hn,by simp only [inR]; omega,by decide,by simp only [inR]; omega,by decide,dropP_asc hs,by omega,by simp only [inR]; omega,by decide,by simp only [inR]; omega,rfl,rfl⟩)
theorem ok_spansC:FnA 116 sp_spansC:=of_spansC (by
 intro s c d e hs hn
 rw [vc_spansC]
 have h1:=dropP_len (·==c) s
 have h2:=dropP_len (·==d) (dropP (·==c) s)
 have h3:=dropP_len (·==e) (dropP (·==d) (dropP (·==c) s))
 exact ⟨by decide,hs,hn,by simp only [inR]; omega,by decide,by simp only [inR]; omega,by decide,dropP_asc hs,by omega,by simp only [inR]; omega,by decide,by simp only [inR]; omega,by decide,dropP_asc (dropP_asc hs),by omega,by simp only [inR]; omega,(show (2+1)*8≤140737488355328 from by decide),by simp only [inR]; omega,rfl,rfl⟩)
def ASpec.either (s t:ASpec):ASpec:=⟨fun xs m=>match s.spec xs m with | some x=>some x | none=>t.spec xs m⟩
theorem eitherA_ok {f:Nat} {s t:ASpec} (h:FnA f s) (k:FnA f t):FnA f (s.either t):=by
 refine ⟨h.body,?_⟩
 intro args mem p r post hs
 unfold ASpec.either at hs
 simp only at hs
 split at hs
 ·rename_i x hx
  cases hs
  exact h.calls _ _ _ _ _ hx
 ·exact k.calls _ _ _ _ _ hs
def sp_spansAB:ASpec:=sp_spansA.either sp_spansB
theorem ok_spansAB:FnA 116 sp_spansAB:=eitherA_ok ok_spansA ok_spansB
end Go.Proofs.YtglfkihckkjniaaGreatDoor.Vx
namespace Go.Proofs.YtglfkihckkjniaaGreatDoor.Vx
open Go Go.RowKit
def splitC (c:UInt8):List UInt8→List (List UInt8)
 | []=>[[]]
 | x :: l=>if x=c then [] :: splitC c l else (x :: (splitC c l).headD []) :: (splitC c l).tail
theorem index_eq (c:UInt8) (l:List UInt8):Lib.index (c :: l) [c]=0:=by rw [Lib.index]; simp [List.isPrefixOf]
theorem index_ne {b c:UInt8} (h:b≠c) (l:List UInt8):Lib.index (b :: l) [c]=if Lib.index l [c] == -1 then -1 else Lib.index l [c]+1:=by
 have hp:([c]:List UInt8).isPrefixOf (b :: l)=false:=by simp [List.isPrefixOf,Ne.symm h]
 rw [Lib.index,hp]; simp
theorem splitK_eq (c:UInt8) (k:Nat) (l:List UInt8):Lib.splitK [c] 0 (k+1) (c :: l)=[] :: Lib.splitK [c] 0 k l:=by
 rw [Lib.splitK,index_eq]
 simp
theorem splitK_ne {b c:UInt8} (h:b≠c) (k:Nat) (l:List UInt8):Lib.splitK [c] 0 k (b :: l)=(b :: (Lib.splitK [c] 0 k l).headD []) :: (Lib.splitK [c] 0 k l).tail:=by
 cases k with
 | zero=>rfl
 | succ k =>
  have hge:=Lib.index_ge l [c]
  rw [Lib.splitK,Lib.splitK,index_ne h]
  by_cases hm:Lib.index l [c] = -1
  ·rw [hm]; simp
  ·have e1:(Lib.index l [c] == -1)=false:=by simpa using hm
   have e2:(Lib.index l [c]+1 == -1)=false:=by
    have:Lib.index l [c]+1≠-1:=by omega
    simpa using this
   rw [e1]
   simp only [Bool.false_eq_true,if_false,e2]
   obtain ⟨j,hj⟩:∃ j:Nat,Lib.index l [c]=j:=⟨(Lib.index l [c]).toNat,by omega⟩
   rw [hj,show ((j:Int)+1).toNat=j+1 by omega,show (j:Int).toNat=j by omega]
   simp
theorem splitK_C (c:UInt8):∀ l:List UInt8,Lib.splitK [c] 0 (l.count c) l=splitC c l:=by
 intro l
 induction l with
 | nil=>rfl
 | cons b l ih =>
  by_cases h:b=c
  ·subst h
   rw [List.count_cons_self,splitK_eq,ih,splitC,if_pos rfl]
  ·rw [List.count_cons_of_ne h,splitK_ne h,ih,splitC,if_neg h]
theorem splitC_ne (c:UInt8) (l:List UInt8):splitC c l≠[]:=by
 cases l with
 | nil=>simp [splitC]
 | cons x l=>unfold splitC; split<;>simp
theorem splitC_len (c:UInt8) (l:List UInt8):(splitC c l).length=l.count c+1:=by
 induction l with
 | nil=>rfl
 | cons x l ih =>
  unfold splitC
  by_cases h:x=c
  ·subst h; rw [if_pos rfl,List.length_cons,ih,List.count_cons_self]
  ·rw [if_neg h,List.length_cons,List.length_tail,ih,List.count_cons_of_ne h]; omega
def cutC (c:UInt8):List UInt8→List UInt8×List UInt8×Bool
 | []=>([],[],false)
 | x :: l=>if x=c then ([],l,true) else (x :: (cutC c l).1,(cutC c l).2.1,(cutC c l).2.2)
theorem cut_C (c:UInt8) (l:List UInt8):Lib.cut l [c]=cutC c l:=by
 induction l with
 | nil=>rfl
 | cons b l ih =>
  unfold Lib.cut cutC
  by_cases h:b=c
  ·subst h; rw [index_eq,if_pos rfl]; simp
  ·rw [index_ne h,if_neg h]
   have hge:=Lib.index_ge l [c]
   unfold Lib.cut at ih
   by_cases hm:Lib.index l [c] = -1
   ·rw [hm] at ih ⊢
    rw [← ih]; simp
   ·have e1:(Lib.index l [c] == -1)=false:=by simpa using hm
    rw [if_pos (by omega)] at ih
    rw [← ih,e1]
    simp only [Bool.false_eq_true,if_false]
    obtain ⟨j,hj⟩:∃ j:Nat,Lib.index l [c]=j:=⟨(Lib.index l [c]).toNat,by omega⟩
    rw [hj,if_pos (by omega),show ((j:Int)+1).toNat=j+1 by omega,show (j:Int).toNat=j by omega]
    rfl
def sp_ssplit:FSpec:=⟨[],fun | [.one (.str s),.one (.str [c])]=>some ([s.length≤1000000000],.one (.rd (.strs (splitC c s)))) | _=>none⟩
theorem ok_ssplit:FnP 123 sp_ssplit:=by
 refine ⟨body_of Tryz.f123 (by kernel_rfl) (by kernel_rfl) (by kernel_rfl),?_⟩
 intro pvs p r hs hp w B args hg ha
 unfold sp_ssplit at hs
 simp only at hs
 split at hs
 ·rename_i s q
  cases hs
  have hp:s.length≤1000000000:=hp
  obtain ⟨v,u,rfl,hv,hu⟩:=args2 ha
  have hv:v=.string ⟨s.toArray⟩:=hv
  have hu:u=.string ⟨#[q]⟩:=hu
  subst hv; subst hu
  obtain ⟨m,hm⟩:=glob_max hg
  refine (Tryz.strings_Split ⟨s.toArray⟩ ⟨#[q]⟩ m w (by rw [bsize]; omega) hm (Nat.le_refl 1)).mono ?_
  rintro e w' ⟨rfl,rfl⟩
  have hc:Lib.countB ⟨s.toArray⟩ ⟨#[q]⟩=s.count q:=Lib.count_one q s
  have hd:=Lib.splitB_data ⟨#[q]⟩ 0 (s.count q) ⟨s.toArray⟩
  have hd:(Lib.splitB ⟨#[q]⟩ 0 (s.count q) ⟨s.toArray⟩).map (·.data.toList)=splitC q s:=by rw [hd]; exact splitK_C q s
  rw [hc]
  have hmap:(Lib.splitB ⟨#[q]⟩ 0 (s.count q) ⟨s.toArray⟩).map Value.string=(splitC q s).map fun t=>Value.string ⟨t.toArray⟩:=by
   rw [← hd,List.map_map]
   rfl
  rw [hmap]
  have hlen:=splitC_len q s
  have hcl:=List.count_le_length (a:=q) (l:=s)
  refine ⟨_,rfl,Fr.alloc w _ _,?_⟩
  have hfl:Ls.flat (.strs (splitC q s))=(splitC q s).map fun t=>Value.string ⟨t.toArray⟩:=by
   unfold Ls.flat
   simp only [Ls.rows]
   induction splitC q s with
   | nil=>rfl
   | cons x l ih=>rw [List.map_cons,List.flatten_cons,ih]; rfl
  refine ⟨some ⟨w.heap.size,0,none⟩,s.count q+1,by show Value.slice _ _ _=Value.slice _ (splitC q s).length _; rw [hlen],by show (splitC q s).length≤_; omega,by show (splitC q s).length≤_; simp only [maxLen]; omega,fun _=>⟨w.heap.size,0,rfl,fun j hj=>?_,.inl (Nat.le_refl _)⟩⟩
  rw [hfl]
  have:(w.alloc (.cells ((splitC q s).map fun t=>Value.string ⟨t.toArray⟩).toArray 9)).heap[w.heap.size]? = some (.cells ((splitC q s).map fun t=>Value.string ⟨t.toArray⟩).toArray 9 (0,0)):=by
   show (w.heap.push _)[w.heap.size]? = _
   rw [Array.getElem?_push_size]
  simp only [World.cell?,this,Nat.zero_add]
  simp
 ·cases hs
theorem strs_flat (l:List (List UInt8)):Ls.flat (.strs l)=l.map fun t=>Value.string ⟨t.toArray⟩:=by
 unfold Ls.flat
 simp only [Ls.rows]
 induction l with
 | nil=>rfl
 | cons x l ih=>rw [List.map_cons,List.flatten_cons,ih]; rfl
theorem join_nilsep (l:List (List UInt8)):Lib.join l []=l.flatten:=by
 induction l with
 | nil=>rfl
 | cons x l ih =>
  rw [Lib.join_cons,List.flatten_cons]
  congr 1
  clear ih
  unfold Lib.joinTail
  congr 1
  induction l with
  | nil=>rfl
  | cons y l ih=>rw [List.map_cons,ih]; rfl
theorem cell_lt {w:World} {b o:Nat} {v:Value} (h:w.cell? ⟨b,o,none⟩=some v):b<w.heap.size:=by
 rcases Nat.lt_or_ge b w.heap.size with h1 | h1
 ·exact h1
 ·have:w.heap[b]? = none:=Array.getElem?_eq_none h1
  simp [World.cell?,this] at h
def sp_sjoin:FSpec:=⟨[],fun | [.one (.rd (.strs l)),.one (.str [])]=>some ([l.length≤1000000000∧l.flatten.length≤1000000000],.one (.str l.flatten)) | _=>none⟩
theorem ok_sjoin:FnP 125 sp_sjoin:=by
 refine ⟨body_of Tryz.f125 (by kernel_rfl) (by kernel_rfl) (by kernel_rfl),?_⟩
 intro pvs p r hs hp w B args hg ha
 unfold sp_sjoin at hs
 simp only at hs
 split at hs
 ·rename_i l
  cases hs
  have hp:l.length≤1000000000∧l.flatten.length≤1000000000:=hp
  obtain ⟨v,u,rfl,hv,hu⟩:=args2 ha
  have hu:u=.string ⟨#[]⟩:=hu
  subst hu
  obtain ⟨A,c,rfl,h1,h2,h3⟩:=hv
  have h1:l.length≤c:=h1
  by_cases h0:l=[]
  ·subst h0
   refine (Tryz.strings_Join_none A c ⟨#[]⟩ w).mono ?_
   rintro e w' ⟨rfl,rfl⟩
   exact ⟨_,rfl,Fr.refl _ _,rfl⟩
  ·have hpos:0<l.length:=List.length_pos_iff.2 h0
   obtain ⟨b,o,rfl,h4,h5⟩:=h3 hpos
   rw [strs_flat] at h4
   have hm:(l.map fun t=>(⟨t.toArray⟩:ByteArray)).map (·.data.toList)=l:=by rw [List.map_map]; exact List.map_id' l
   have hsz:(Ls.strs l).len*(Ls.strs l).sz=l.length:=Nat.mul_one _
   have h4:∀ j,j<l.length→w.cell? ⟨b,o+j,none⟩=(l.map fun t=>Value.string ⟨t.toArray⟩)[j]?:=fun j hj=>h4 j (by rw [hsz]; exact hj)
   have hj:Lib.join ((l.map fun t=>(⟨t.toArray⟩:ByteArray)).map (·.data.toList)) (⟨#[]⟩:ByteArray).data.toList=l.flatten:=by rw [hm]; exact join_nilsep l
   have hc0:=h4 0 hpos
   rw [List.getElem?_map,List.getElem?_eq_getElem hpos] at hc0
   have hcall:=Tryz.strings_Join b o c (l.map fun t=>(⟨t.toArray⟩:ByteArray)) ⟨#[]⟩ w (fun j x hx=>by
    rw [List.getElem?_map,Option.map_eq_some_iff] at hx
    obtain ⟨y,hy,rfl⟩:=hx
    rw [h4 j (List.getElem?_eq_some_iff.1 hy).1,List.getElem?_map,hy]; rfl) (cell_lt hc0) (by rw [List.length_map]; omega) (by rw [List.length_map]; exact h1) (by rw [hj]; omega)
   rw [hj,List.length_map] at hcall
   refine hcall.mono ?_
   rintro e w' ⟨rfl,hb⟩
   exact ⟨_,rfl,Fr.below hb _,rfl⟩
 ·cases hs
structure Num where
 mi:Int
 xi:Int
 mf:Int
 xf:Int
 ms:Int
 xs:Int
 pr:Int
 sc:Int
 inc:List UInt8
 ps:Bool
 me:Int
 px:Bool
def Num.sc' (p:Num):List SC:=[.nils,.nils,.ff,.nils,.nils,.int .i64 p.mi,.int .i64 p.xi,.int .i64 p.mf,.int .i64 p.xf,.int .i64 p.ms,.int .i64 p.xs,.int .i64 p.pr,.int .i64 p.sc,.str p.inc,.bool p.ps,.int .i64 p.me,.bool p.px,.int .i64 0,.int .i32 0,.int .i64 0]
def rdC (w f e:List UInt8) (pt sci:Bool) (p:Num):List SC:=.str w :: .str f :: .str e :: .bool pt :: .bool sci :: p.sc'
def expT (e:List UInt8) (sci:Bool) (p:Num):Int×Num :=
 if sci=true then
  if dropP (·==48) (Lib.trimPrefix e [43])≠[]∨span1 (·==48) (Lib.trimPrefix e [43])=0 then (4,p)
  else if 9<span1 (·==48) (Lib.trimPrefix e [43]) then (8,p)
  else (0,{ p with ps:=true,px:=Lib.hasPrefix e [43],me:=span1 (·==48) (Lib.trimPrefix e [43]) })
 else (0,p)
def sp_rexp:ASpec:=⟨fun | [.one (.ptr 0 0)],[(0,some (.cells 139 [.str w,.str f,.str e,.bool pt,.bool sci,.nils,.nils,.ff,.nils,.nils,.int .i64 mi,.int .i64 xi,.int .i64 mf,.int .i64 xf,.int .i64 ms,.int .i64 xs,.int .i64 pr,.int .i64 sc,.str inc,.bool ps,.int .i64 me,.bool px,.int .i64 0,.int .i32 0,.int .i64 0]))]=>some ([Asc e,e.length≤1000000000],.one (.int .i64 (expT e sci (⟨mi,xi,mf,xf,ms,xs,pr,sc,inc,ps,me,px⟩:Num)).1),[(0,some (.cells 139 (rdC w f e pt sci (expT e sci (⟨mi,xi,mf,xf,ms,xs,pr,sc,inc,ps,me,px⟩:Num)).2)))]) | _,_=>none⟩
theorem vc_rexp (w f e:List UInt8) (pt sci:Bool) (mi xi mf xf ms xs pr sc:Int) (inc:List UInt8) (ps:Bool) (me:Int) (px:Bool):vcA [(115,sp_scutp),(117,sp_one)] [(116,sp_spans1)] misc Tryz.f93 (.nil) [.one (.ptr 0 0)] [(0,some (.cells 139 [.str w,.str f,.str e,.bool pt,.bool sci,.nils,.nils,.ff,.nils,.nils,.int .i64 mi,.int .i64 xi,.int .i64 mf,.int .i64 xf,.int .i64 ms,.int .i64 xs,.int .i64 pr,.int .i64 sc,.str inc,.bool ps,.int .i64 me,.bool px,.int .i64 0,.int .i32 0,.int .i64 0]))] (.one (.int .i64 (expT e sci (⟨mi,xi,mf,xf,ms,xs,pr,sc,inc,ps,me,px⟩:Num)).1)) [(0,some (.cells 139 (rdC w f e pt sci (expT e sci (⟨mi,xi,mf,xf,ms,xs,pr,sc,inc,ps,me,px⟩:Num)).2)))]=(letI v0:=(expT e sci { mi:=mi,xi:=xi,mf:=mf,xf:=xf,ms:=ms,xs:=xs,pr:=pr,sc:=sc,inc:=inc,ps:=ps,me:=me,px:=px }); letI v1:=((4:Int)=v0.1∧w=w∧f=f∧e=e∧pt=pt∧sci=sci∧mi=Num.mi v0.2∧xi=Num.xi v0.2∧mf=Num.mf v0.2∧xf=Num.xf v0.2∧ms=Num.ms v0.2∧xs=Num.xs v0.2∧pr=Num.pr v0.2∧sc=Num.sc v0.2∧inc=Num.inc v0.2∧ps=Num.ps v0.2∧me=Num.me v0.2∧px=Num.px v0.2∧(0:Int)=(0:Int)∧(0:Int)=(0:Int)∧(0:Int)=(0:Int)); letI v2:=(Lib.trimPrefix e (([(43:UInt8)]:List UInt8))); letI v3:=((0:Int)≤(0:Int)∧(0:Int)<(↑(1:Nat):Int)); (br (!sci) ((0:Int)=v0.1∧w=w∧f=f∧e=e∧pt=pt∧sci=sci∧mi=Num.mi v0.2∧xi=Num.xi v0.2∧mf=Num.mf v0.2∧xf=Num.xf v0.2∧ms=Num.ms v0.2∧xs=Num.xs v0.2∧pr=Num.pr v0.2∧sc=Num.sc v0.2∧inc=Num.inc v0.2∧ps=Num.ps v0.2∧me=Num.me v0.2∧px=Num.px v0.2∧(0:Int)=(0:Int)∧(0:Int)=(0:Int)∧(0:Int)=(0:Int)) ((∀ (c:UInt8),c∈Lib.trimPrefix e (([(43:UInt8)]:List UInt8))→UInt8.toNat c<(128:Nat))∧List.length v2≤(1000000000:Nat)∧br (!decide (dropP (fun (x:Int)=>x==(48:Int)) v2=[])) v1 (v3∧Int.toNat (0:Int)<(1:Nat)∧br ((span1 (fun (x:Int)=>x==(48:Int)) v2)==(0:Int)) v1 (v3∧Int.toNat (0:Int)<(1:Nat)∧br (decide ((span1 (fun (x:Int)=>x==(48:Int)) v2)>(9:Int))) ((8:Int)=v0.1∧w=w∧f=f∧e=e∧pt=pt∧sci=sci∧mi=Num.mi v0.2∧xi=Num.xi v0.2∧mf=Num.mf v0.2∧xf=Num.xf v0.2∧ms=Num.ms v0.2∧xs=Num.xs v0.2∧pr=Num.pr v0.2∧sc=Num.sc v0.2∧inc=Num.inc v0.2∧ps=Num.ps v0.2∧me=Num.me v0.2∧px=Num.px v0.2∧(0:Int)=(0:Int)∧(0:Int)=(0:Int)∧(0:Int)=(0:Int)) (v3∧Int.toNat (0:Int)<(1:Nat)∧(0:Int)=v0.1∧w=w∧f=f∧e=e∧pt=pt∧sci=sci∧mi=Num.mi v0.2∧xi=Num.xi v0.2∧mf=Num.mf v0.2∧xf=Num.xf v0.2∧ms=Num.ms v0.2∧xs=Num.xs v0.2∧pr=Num.pr v0.2∧sc=Num.sc v0.2∧inc=Num.inc v0.2∧true=Num.ps v0.2∧(span1 (fun (x:Int)=>x==(48:Int)) v2)=Num.me v0.2∧Lib.hasPrefix e (([(43:UInt8)]:List UInt8))=Num.px v0.2∧(0:Int)=(0:Int)∧(0:Int)=(0:Int)∧(0:Int)=(0:Int))))))):=by kernel_rfl
set_option maxHeartbeats 4000000 in
theorem of_rexp (h:∀ (w f e:List UInt8) (pt sci:Bool) (mi xi mf xf ms xs pr sc:Int) (inc:List UInt8) (ps:Bool) (me:Int) (px:Bool),(Asc e)→(e.length≤1000000000)→vcA [(115,sp_scutp),(117,sp_one)] [(116,sp_spans1)] misc Tryz.f93 (.nil) [.one (.ptr 0 0)] [(0,some (.cells 139 [.str w,.str f,.str e,.bool pt,.bool sci,.nils,.nils,.ff,.nils,.nils,.int .i64 mi,.int .i64 xi,.int .i64 mf,.int .i64 xf,.int .i64 ms,.int .i64 xs,.int .i64 pr,.int .i64 sc,.str inc,.bool ps,.int .i64 me,.bool px,.int .i64 0,.int .i32 0,.int .i64 0]))] (.one (.int .i64 (expT e sci (⟨mi,xi,mf,xf,ms,xs,pr,sc,inc,ps,me,px⟩:Num)).1)) [(0,some (.cells 139 (rdC w f e pt sci (expT e sci (⟨mi,xi,mf,xf,ms,xs,pr,sc,inc,ps,me,px⟩:Num)).2)))]):FnA 93 sp_rexp:=by
 refine fnA_ok (cs:=[(115,sp_scutp),(117,sp_one)]) (cas:=[(116,sp_spans1)]) (ms:=misc) (.cons ok_scutp (.cons ok_one .nil)) (.cons ok_spans1 .nil) misc_ok 93 Tryz.f93 (by kernel_rfl) (by kernel_rfl) (by kernel_rfl) (fun _ _=>.nil) ?_
 intro args mem p r post hs hp
 unfold sp_rexp at hs
 simp only at hs
 split at hs
 ·rename_i w f e pt sci mi xi mf xf ms xs pr sc inc ps me px
  cases hs
  refine h w f e pt sci mi xi mf xf ms xs pr sc inc ps me px ?_ ?_
  ·exact hp.1
  ·exact hp.2
 ·cases hs
theorem trimPrefix_asc {e p:List UInt8} (h:Asc e):Asc (Lib.trimPrefix e p):=by
 unfold Lib.trimPrefix
 split
 ·exact fun c hc=>h c (List.mem_of_mem_drop hc)
 ·exact h
theorem trimPrefix_len (e p:List UInt8):(Lib.trimPrefix e p).length≤e.length:=by
 unfold Lib.trimPrefix
 split
 ·rw [List.length_drop]; omega
 ·exact Nat.le_refl _
theorem ok_rexp:FnA 93 sp_rexp:=of_rexp (by
 intro w f e pt sci mi xi mf xf ms xs pr sc inc ps me px he hn
 rw [vc_rexp]
 have hl:=trimPrefix_len e [43]
 refine br_of (fun h=>?_) fun h=>⟨trimPrefix_asc he,by omega,br_of (fun h1=>?_) fun h1=>⟨by decide,by decide,br_of (fun h2=>?_) fun h2=>⟨by decide,by decide,br_of (fun h3=>?_) fun h3=>⟨by decide,by decide,?_⟩⟩⟩⟩
 ·have h:sci=false:=by simpa using h
  have hE:expT e sci (⟨mi,xi,mf,xf,ms,xs,pr,sc,inc,ps,me,px⟩:Num)=(0,(⟨mi,xi,mf,xf,ms,xs,pr,sc,inc,ps,me,px⟩:Num)):=by unfold expT; rw [if_neg (by rw [h]; decide)]
  rw [hE]; and_intros<;>rfl
 ·have h:sci=true:=by simpa using h
  have h1:dropP (·==48) (Lib.trimPrefix e [43])≠[]:=by simpa using h1
  have hE:expT e sci (⟨mi,xi,mf,xf,ms,xs,pr,sc,inc,ps,me,px⟩:Num)=(4,(⟨mi,xi,mf,xf,ms,xs,pr,sc,inc,ps,me,px⟩:Num)):=by unfold expT; rw [if_pos h,if_pos (.inl h1)]
  rw [hE]; and_intros<;>rfl
 ·have h:sci=true:=by simpa using h
  have h2:span1 (·==48) (Lib.trimPrefix e [43])=0:=by simpa using h2
  have hE:expT e sci (⟨mi,xi,mf,xf,ms,xs,pr,sc,inc,ps,me,px⟩:Num)=(4,(⟨mi,xi,mf,xf,ms,xs,pr,sc,inc,ps,me,px⟩:Num)):=by unfold expT; rw [if_pos h,if_pos (.inr h2)]
  rw [hE]; and_intros<;>rfl
 ·have h:sci=true:=by simpa using h
  have h1:dropP (·==48) (Lib.trimPrefix e [43])=[]:=by simpa using h1
  have h2:¬ span1 (·==48) (Lib.trimPrefix e [43])=0:=by simpa using h2
  have h3:span1 (·==48) (Lib.trimPrefix e [43])>9:=by simpa using h3
  have hE:expT e sci (⟨mi,xi,mf,xf,ms,xs,pr,sc,inc,ps,me,px⟩:Num)=(8,(⟨mi,xi,mf,xf,ms,xs,pr,sc,inc,ps,me,px⟩:Num)):=by unfold expT; rw [if_pos h,if_neg (fun h4=>h4.elim (fun h5=>h5 h1) h2),if_pos h3]
  rw [hE]; and_intros<;>rfl
 ·have h:sci=true:=by simpa using h
  have h1:dropP (·==48) (Lib.trimPrefix e [43])=[]:=by simpa using h1
  have h2:¬ span1 (·==48) (Lib.trimPrefix e [43])=0:=by simpa using h2
  have h3:¬ 9<span1 (·==48) (Lib.trimPrefix e [43]):=by simpa using h3
  have hE:expT e sci (⟨mi,xi,mf,xf,ms,xs,pr,sc,inc,ps,me,px⟩:Num)=(0,{ (⟨mi,xi,mf,xf,ms,xs,pr,sc,inc,ps,me,px⟩:Num) with ps:=true,px:=Lib.hasPrefix e [43],me:=span1 (·==48) (Lib.trimPrefix e [43]) }):=by unfold expT; rw [if_pos h,if_neg (fun h4=>h4.elim (fun h5=>h5 h1) h2),if_neg h3]
  rw [hE]; and_intros<;>rfl)
def partsT (s w f:List UInt8) (pt:Bool):Int×List UInt8×List UInt8×Bool :=
 if anyP isOdd s=true∨1<Lib.countByte s 46 then (4,w,f,pt)
 else if (Lib.cut s [46]).2.2=true∧(Lib.cut s [46]).2.1=[] then (4,Lib.cut s [46]) else (0,Lib.cut s [46])
def sp_rparts:ASpec:=⟨fun | [.one (.ptr 0 0),.one (.str s)],[(0,some (.cells 139 [.str w,.str f,.str e,.bool pt,.bool sci,.nils,.nils,.ff,.nils,.nils,.int .i64 mi,.int .i64 xi,.int .i64 mf,.int .i64 xf,.int .i64 ms,.int .i64 xs,.int .i64 pr,.int .i64 sc,.str inc,.bool ps,.int .i64 me,.bool px,.int .i64 0,.int .i32 0,.int .i64 0]))]=>some ([Asc s,s.length≤1000000000],.one (.int .i64 (partsT s w f pt).1),[(0,some (.cells 139 (rdC (partsT s w f pt).2.1 (partsT s w f pt).2.2.1 e (partsT s w f pt).2.2.2 sci (⟨mi,xi,mf,xf,ms,xs,pr,sc,inc,ps,me,px⟩:Num))))]) | _,_=>none⟩
theorem vc_rparts (w f e:List UInt8) (pt sci:Bool) (mi xi mf xf ms xs pr sc:Int) (inc:List UInt8) (ps:Bool) (me:Int) (px:Bool) (s:List UInt8):vcA [(121,sp_scfO),(122,sp_scount),(92,sp_scut)] [] misc Tryz.f94 (.nil) [.one (.ptr 0 0),.one (.str s)] [(0,some (.cells 139 [.str w,.str f,.str e,.bool pt,.bool sci,.nils,.nils,.ff,.nils,.nils,.int .i64 mi,.int .i64 xi,.int .i64 mf,.int .i64 xf,.int .i64 ms,.int .i64 xs,.int .i64 pr,.int .i64 sc,.str inc,.bool ps,.int .i64 me,.bool px,.int .i64 0,.int .i32 0,.int .i64 0]))] (.one (.int .i64 (partsT s w f pt).1)) [(0,some (.cells 139 (rdC (partsT s w f pt).2.1 (partsT s w f pt).2.2.1 e (partsT s w f pt).2.2.2 sci (⟨mi,xi,mf,xf,ms,xs,pr,sc,inc,ps,me,px⟩:Num))))]=(letI v0:=((0:Int)=(partsT s w f pt).1∧(Lib.cut s (([(46:UInt8)]:List UInt8))).1=(partsT s w f pt).2.1∧(Lib.cut s (([(46:UInt8)]:List UInt8))).2.1=(partsT s w f pt).2.2.1∧e=e∧(Lib.cut s (([(46:UInt8)]:List UInt8))).2.2=(partsT s w f pt).2.2.2∧sci=sci∧mi=Num.mi { mi:=mi,xi:=xi,mf:=mf,xf:=xf,ms:=ms,xs:=xs,pr:=pr,sc:=sc,inc:=inc,ps:=ps,me:=me,px:=px }∧xi=Num.xi { mi:=mi,xi:=xi,mf:=mf,xf:=xf,ms:=ms,xs:=xs,pr:=pr,sc:=sc,inc:=inc,ps:=ps,me:=me,px:=px }∧mf=Num.mf { mi:=mi,xi:=xi,mf:=mf,xf:=xf,ms:=ms,xs:=xs,pr:=pr,sc:=sc,inc:=inc,ps:=ps,me:=me,px:=px }∧xf=Num.xf { mi:=mi,xi:=xi,mf:=mf,xf:=xf,ms:=ms,xs:=xs,pr:=pr,sc:=sc,inc:=inc,ps:=ps,me:=me,px:=px }∧ms=Num.ms { mi:=mi,xi:=xi,mf:=mf,xf:=xf,ms:=ms,xs:=xs,pr:=pr,sc:=sc,inc:=inc,ps:=ps,me:=me,px:=px }∧xs=Num.xs { mi:=mi,xi:=xi,mf:=mf,xf:=xf,ms:=ms,xs:=xs,pr:=pr,sc:=sc,inc:=inc,ps:=ps,me:=me,px:=px }∧pr=Num.pr { mi:=mi,xi:=xi,mf:=mf,xf:=xf,ms:=ms,xs:=xs,pr:=pr,sc:=sc,inc:=inc,ps:=ps,me:=me,px:=px }∧sc=Num.sc { mi:=mi,xi:=xi,mf:=mf,xf:=xf,ms:=ms,xs:=xs,pr:=pr,sc:=sc,inc:=inc,ps:=ps,me:=me,px:=px }∧inc=Num.inc { mi:=mi,xi:=xi,mf:=mf,xf:=xf,ms:=ms,xs:=xs,pr:=pr,sc:=sc,inc:=inc,ps:=ps,me:=me,px:=px }∧ps=Num.ps { mi:=mi,xi:=xi,mf:=mf,xf:=xf,ms:=ms,xs:=xs,pr:=pr,sc:=sc,inc:=inc,ps:=ps,me:=me,px:=px }∧me=Num.me { mi:=mi,xi:=xi,mf:=mf,xf:=xf,ms:=ms,xs:=xs,pr:=pr,sc:=sc,inc:=inc,ps:=ps,me:=me,px:=px }∧px=Num.px { mi:=mi,xi:=xi,mf:=mf,xf:=xf,ms:=ms,xs:=xs,pr:=pr,sc:=sc,inc:=inc,ps:=ps,me:=me,px:=px }∧(0:Int)=(0:Int)∧(0:Int)=(0:Int)∧(0:Int)=(0:Int)); letI v1:=((4:Int)=(partsT s w f pt).1∧w=(partsT s w f pt).2.1∧f=(partsT s w f pt).2.2.1∧e=e∧pt=(partsT s w f pt).2.2.2∧sci=sci∧mi=Num.mi { mi:=mi,xi:=xi,mf:=mf,xf:=xf,ms:=ms,xs:=xs,pr:=pr,sc:=sc,inc:=inc,ps:=ps,me:=me,px:=px }∧xi=Num.xi { mi:=mi,xi:=xi,mf:=mf,xf:=xf,ms:=ms,xs:=xs,pr:=pr,sc:=sc,inc:=inc,ps:=ps,me:=me,px:=px }∧mf=Num.mf { mi:=mi,xi:=xi,mf:=mf,xf:=xf,ms:=ms,xs:=xs,pr:=pr,sc:=sc,inc:=inc,ps:=ps,me:=me,px:=px }∧xf=Num.xf { mi:=mi,xi:=xi,mf:=mf,xf:=xf,ms:=ms,xs:=xs,pr:=pr,sc:=sc,inc:=inc,ps:=ps,me:=me,px:=px }∧ms=Num.ms { mi:=mi,xi:=xi,mf:=mf,xf:=xf,ms:=ms,xs:=xs,pr:=pr,sc:=sc,inc:=inc,ps:=ps,me:=me,px:=px }∧xs=Num.xs { mi:=mi,xi:=xi,mf:=mf,xf:=xf,ms:=ms,xs:=xs,pr:=pr,sc:=sc,inc:=inc,ps:=ps,me:=me,px:=px }∧pr=Num.pr { mi:=mi,xi:=xi,mf:=mf,xf:=xf,ms:=ms,xs:=xs,pr:=pr,sc:=sc,inc:=inc,ps:=ps,me:=me,px:=px }∧sc=Num.sc { mi:=mi,xi:=xi,mf:=mf,xf:=xf,ms:=ms,xs:=xs,pr:=pr,sc:=sc,inc:=inc,ps:=ps,me:=me,px:=px }∧inc=Num.inc { mi:=mi,xi:=xi,mf:=mf,xf:=xf,ms:=ms,xs:=xs,pr:=pr,sc:=sc,inc:=inc,ps:=ps,me:=me,px:=px }∧ps=Num.ps { mi:=mi,xi:=xi,mf:=mf,xf:=xf,ms:=ms,xs:=xs,pr:=pr,sc:=sc,inc:=inc,ps:=ps,me:=me,px:=px }∧me=Num.me { mi:=mi,xi:=xi,mf:=mf,xf:=xf,ms:=ms,xs:=xs,pr:=pr,sc:=sc,inc:=inc,ps:=ps,me:=me,px:=px }∧px=Num.px { mi:=mi,xi:=xi,mf:=mf,xf:=xf,ms:=ms,xs:=xs,pr:=pr,sc:=sc,inc:=inc,ps:=ps,me:=me,px:=px }∧(0:Int)=(0:Int)∧(0:Int)=(0:Int)∧(0:Int)=(0:Int)); letI v2:=(Lib.cut s (([(46:UInt8)]:List UInt8))); ((∀ (c:UInt8),c∈s→UInt8.toNat c<(128:Nat))∧List.length s≤(1000000000:Nat)∧br (anyP isOdd s) v1 (br (decide ((↑(Lib.countByte s (46:UInt8)):Int)>(1:Int))) v1 (List.length s≤(1000000000:Nat)∧br v2.2.2 (br (decide (v2.2.1=([]:List UInt8))) ((4:Int)=(partsT s w f pt).1∧v2.1=(partsT s w f pt).2.1∧v2.2.1=(partsT s w f pt).2.2.1∧e=e∧v2.2.2=(partsT s w f pt).2.2.2∧sci=sci∧mi=Num.mi { mi:=mi,xi:=xi,mf:=mf,xf:=xf,ms:=ms,xs:=xs,pr:=pr,sc:=sc,inc:=inc,ps:=ps,me:=me,px:=px }∧xi=Num.xi { mi:=mi,xi:=xi,mf:=mf,xf:=xf,ms:=ms,xs:=xs,pr:=pr,sc:=sc,inc:=inc,ps:=ps,me:=me,px:=px }∧mf=Num.mf { mi:=mi,xi:=xi,mf:=mf,xf:=xf,ms:=ms,xs:=xs,pr:=pr,sc:=sc,inc:=inc,ps:=ps,me:=me,px:=px }∧xf=Num.xf { mi:=mi,xi:=xi,mf:=mf,xf:=xf,ms:=ms,xs:=xs,pr:=pr,sc:=sc,inc:=inc,ps:=ps,me:=me,px:=px }∧ms=Num.ms { mi:=mi,xi:=xi,mf:=mf,xf:=xf,ms:=ms,xs:=xs,pr:=pr,sc:=sc,inc:=inc,ps:=ps,me:=me,px:=px }∧xs=Num.xs { mi:=mi,xi:=xi,mf:=mf,xf:=xf,ms:=ms,xs:=xs,pr:=pr,sc:=sc,inc:=inc,ps:=ps,me:=me,px:=px }∧pr=Num.pr { mi:=mi,xi:=xi,mf:=mf,xf:=xf,ms:=ms,xs:=xs,pr:=pr,sc:=sc,inc:=inc,ps:=ps,me:=me,px:=px }∧sc=Num.sc { mi:=mi,xi:=xi,mf:=mf,xf:=xf,ms:=ms,xs:=xs,pr:=pr,sc:=sc,inc:=inc,ps:=ps,me:=me,px:=px }∧inc=Num.inc { mi:=mi,xi:=xi,mf:=mf,xf:=xf,ms:=ms,xs:=xs,pr:=pr,sc:=sc,inc:=inc,ps:=ps,me:=me,px:=px }∧ps=Num.ps { mi:=mi,xi:=xi,mf:=mf,xf:=xf,ms:=ms,xs:=xs,pr:=pr,sc:=sc,inc:=inc,ps:=ps,me:=me,px:=px }∧me=Num.me { mi:=mi,xi:=xi,mf:=mf,xf:=xf,ms:=ms,xs:=xs,pr:=pr,sc:=sc,inc:=inc,ps:=ps,me:=me,px:=px }∧px=Num.px { mi:=mi,xi:=xi,mf:=mf,xf:=xf,ms:=ms,xs:=xs,pr:=pr,sc:=sc,inc:=inc,ps:=ps,me:=me,px:=px }∧(0:Int)=(0:Int)∧(0:Int)=(0:Int)∧(0:Int)=(0:Int)) v0) v0)))):=by kernel_rfl
set_option maxHeartbeats 4000000 in
theorem of_rparts (h:∀ (w f e:List UInt8) (pt sci:Bool) (mi xi mf xf ms xs pr sc:Int) (inc:List UInt8) (ps:Bool) (me:Int) (px:Bool) (s:List UInt8),(Asc s)→(s.length≤1000000000)→vcA [(121,sp_scfO),(122,sp_scount),(92,sp_scut)] [] misc Tryz.f94 (.nil) [.one (.ptr 0 0),.one (.str s)] [(0,some (.cells 139 [.str w,.str f,.str e,.bool pt,.bool sci,.nils,.nils,.ff,.nils,.nils,.int .i64 mi,.int .i64 xi,.int .i64 mf,.int .i64 xf,.int .i64 ms,.int .i64 xs,.int .i64 pr,.int .i64 sc,.str inc,.bool ps,.int .i64 me,.bool px,.int .i64 0,.int .i32 0,.int .i64 0]))] (.one (.int .i64 (partsT s w f pt).1)) [(0,some (.cells 139 (rdC (partsT s w f pt).2.1 (partsT s w f pt).2.2.1 e (partsT s w f pt).2.2.2 sci (⟨mi,xi,mf,xf,ms,xs,pr,sc,inc,ps,me,px⟩:Num))))]):FnA 94 sp_rparts:=by
 refine fnA_ok (cs:=[(121,sp_scfO),(122,sp_scount),(92,sp_scut)]) (cas:=[]) (ms:=misc) (.cons ok_scfO (.cons ok_scount (.cons ok_scut .nil))) .nil misc_ok 94 Tryz.f94 (by kernel_rfl) (by kernel_rfl) (by kernel_rfl) (fun _ _=>.nil) ?_
 intro args mem p r post hs hp
 unfold sp_rparts at hs
 simp only at hs
 split at hs
 ·rename_i s w f e pt sci mi xi mf xf ms xs pr sc inc ps me px
  cases hs
  refine h w f e pt sci mi xi mf xf ms xs pr sc inc ps me px s ?_ ?_
  ·exact hp.1
  ·exact hp.2
 ·cases hs
theorem ok_rparts:FnA 94 sp_rparts:=of_rparts (by
 intro w f e pt sci mi xi mf xf ms xs pr sc inc ps me px s hs hn
 rw [vc_rparts]
 refine ⟨hs,hn,br_of (fun h=>?_) fun h=>br_of (fun h1=>?_) fun h1=>⟨hn,br_of (fun h2=>br_of (fun h3=>?_) fun h3=>?_) fun h2=>?_⟩⟩
 ·have hE:partsT s w f pt=(4,w,f,pt):=by unfold partsT; rw [if_pos (.inl h)]
  rw [hE]; and_intros<;>rfl
 ·have h1:1<Lib.countByte s 46:=by have:=of_decide_eq_true h1; omega
  have hE:partsT s w f pt=(4,w,f,pt):=by unfold partsT; rw [if_pos (.inr h1)]
  rw [hE]; and_intros<;>rfl
 ·have h1:¬ 1<Lib.countByte s 46:=by have:=of_decide_eq_false h1; omega
  have hE:partsT s w f pt=(4,Lib.cut s [46]):=by unfold partsT; rw [if_neg (fun h4=>h4.elim (fun h5=>by rw [h] at h5; cases h5) h1),if_pos ⟨h2,of_decide_eq_true h3⟩]
  rw [hE]; and_intros<;>rfl
 ·have h1:¬ 1<Lib.countByte s 46:=by have:=of_decide_eq_false h1; omega
  have hE:partsT s w f pt=(0,Lib.cut s [46]):=by unfold partsT; rw [if_neg (fun h4=>h4.elim (fun h5=>by rw [h] at h5; cases h5) h1),if_neg (fun h4=>of_decide_eq_false h3 h4.2)]
  rw [hE]; and_intros<;>rfl
 ·have h1:¬ 1<Lib.countByte s 46:=by have:=of_decide_eq_false h1; omega
  have hE:partsT s w f pt=(0,Lib.cut s [46]):=by unfold partsT; rw [if_neg (fun h4=>h4.elim (fun h5=>by rw [h] at h5; cases h5) h1),if_neg (fun h4=>by have:=h4.1; rw [h2] at this; cases this)]
  rw [hE]; and_intros<;>rfl)
def emptyIn (l:List (List UInt8)):Bool:=decide (1<l.length) && l.any fun t=>decide (t=[])
def groupsT (w f:List UInt8) (p:Num):Int×List UInt8×Num :=
 if emptyIn (splitC 44 w)=true then (5,w,p)
 else if 0≤Lib.indexByte f 44 then (5,w,p)
 else (0,(splitC 44 w).flatten,if 1<(splitC 44 w).length then { p with pr:=((splitC 44 w).getD ((splitC 44 w).length-1) []).length,sc:=if 2<(splitC 44 w).length then ((splitC 44 w).getD ((splitC 44 w).length-2) []).length else ((splitC 44 w).getD ((splitC 44 w).length-1) []).length } else p)
def GE (w:List UInt8):Type:={i:Nat // i≤(splitC 44 w).length∧(1<(splitC 44 w).length→∀ t∈(splitC 44 w).take i,t≠[])}
def GE.next {w:List UInt8} (x:GE w) (h:x.1<(splitC 44 w).length) (hx:1<(splitC 44 w).length→(splitC 44 w).getD x.1 []≠[]):GE w:=⟨x.1+1,h,fun h1 t ht=>by
 rw [take_next _ [] h] at ht
 rcases List.mem_append.1 ht with ht | ht
 ·exact x.2.2 h1 t ht
 ·rw [List.mem_singleton] at ht; rw [ht]; exact hx h1⟩
def sp_rgroups:ASpec:=⟨fun | [.one (.ptr 0 0)],[(0,some (.cells 139 [.str w,.str f,.str e,.bool pt,.bool sci,.nils,.nils,.ff,.nils,.nils,.int .i64 mi,.int .i64 xi,.int .i64 mf,.int .i64 xf,.int .i64 ms,.int .i64 xs,.int .i64 pr,.int .i64 sc,.str inc,.bool ps,.int .i64 me,.bool px,.int .i64 0,.int .i32 0,.int .i64 0]))]=>some ([w.length≤100000000],.one (.int .i64 (groupsT w f (⟨mi,xi,mf,xf,ms,xs,pr,sc,inc,ps,me,px⟩:Num)).1),[(0,some (.cells 139 (rdC (groupsT w f (⟨mi,xi,mf,xf,ms,xs,pr,sc,inc,ps,me,px⟩:Num)).2.1 f e pt sci (groupsT w f (⟨mi,xi,mf,xf,ms,xs,pr,sc,inc,ps,me,px⟩:Num)).2.2)))]) | _,_=>none⟩
theorem vc_rgroups (w f e:List UInt8) (pt sci:Bool) (mi xi mf xf ms xs pr sc:Int) (inc:List UInt8) (ps:Bool) (me:Int) (px:Bool):vcA [(123,sp_ssplit),(124,sp_scont),(125,sp_sjoin)] [] misc Tryz.f95 (.loop 3 (GE w) (fun x=>⟨[(0,.one (.ptr 0 0)),(3,.one (.slc 17)),(12,.one (.slc 17)),(13,.one (.int .i64 (splitC 44 w).length)),(14,.one (.int .i64 x.1))],[(0,some (.cells 139 [.str w,.str f,.str e,.bool pt,.bool sci,.nils,.nils,.ff,.nils,.nils,.int .i64 mi,.int .i64 xi,.int .i64 mf,.int .i64 xf,.int .i64 ms,.int .i64 xs,.int .i64 pr,.int .i64 sc,.str inc,.bool ps,.int .i64 me,.bool px,.int .i64 0,.int .i32 0,.int .i64 0])),(17,some (.read (.strs (splitC 44 w))))],18⟩) (fun x=>(splitC 44 w).length-x.1) (fun _=>.nil) .nil) [.one (.ptr 0 0)] [(0,some (.cells 139 [.str w,.str f,.str e,.bool pt,.bool sci,.nils,.nils,.ff,.nils,.nils,.int .i64 mi,.int .i64 xi,.int .i64 mf,.int .i64 xf,.int .i64 ms,.int .i64 xs,.int .i64 pr,.int .i64 sc,.str inc,.bool ps,.int .i64 me,.bool px,.int .i64 0,.int .i32 0,.int .i64 0]))] (.one (.int .i64 (groupsT w f (⟨mi,xi,mf,xf,ms,xs,pr,sc,inc,ps,me,px⟩:Num)).1)) [(0,some (.cells 139 (rdC (groupsT w f (⟨mi,xi,mf,xf,ms,xs,pr,sc,inc,ps,me,px⟩:Num)).2.1 f e pt sci (groupsT w f (⟨mi,xi,mf,xf,ms,xs,pr,sc,inc,ps,me,px⟩:Num)).2.2)))]=(letI v0:=(groupsT w f { mi:=mi,xi:=xi,mf:=mf,xf:=xf,ms:=ms,xs:=xs,pr:=pr,sc:=sc,inc:=inc,ps:=ps,me:=me,px:=px }); letI v1:=(↑(List.length (splitC (44:UInt8) w)):Int); letI v2:=(w=w∧f=f∧e=e∧pt=pt∧sci=sci∧mi=mi∧xi=xi∧mf=mf∧xf=xf∧ms=ms∧xs=xs∧pr=pr∧sc=sc∧inc=inc∧ps=ps∧me=me∧px=px∧(0:Int)=(0:Int)∧(0:Int)=(0:Int)∧(0:Int)=(0:Int)); letI v3:=((5:Int)=v0.1∧w=v0.2.1∧f=f∧e=e∧pt=pt∧sci=sci∧mi=Num.mi v0.2.2∧xi=Num.xi v0.2.2∧mf=Num.mf v0.2.2∧xf=Num.xf v0.2.2∧ms=Num.ms v0.2.2∧xs=Num.xs v0.2.2∧pr=Num.pr v0.2.2∧sc=Num.sc v0.2.2∧inc=Num.inc v0.2.2∧ps=Num.ps v0.2.2∧me=Num.me v0.2.2∧px=Num.px v0.2.2∧(0:Int)=(0:Int)∧(0:Int)=(0:Int)∧(0:Int)=(0:Int)); letI v4:=(List.length (splitC (44:UInt8) w)≤(1000000000:Nat)∧List.length (List.flatten (splitC (44:UInt8) w))≤(1000000000:Nat)); letI v5:=(↑(List.length (List.getD (splitC (44:UInt8) w) (Int.toNat (v1-(1:Int))) [])):Int); (List.length w≤(1000000000:Nat)∧(∃ (x:GE w),v1=v1∧(0:Int)=(↑(Subtype.val x):Int)∧v2∧splitC (44:UInt8) w=splitC (44:UInt8) w)∧∀ (x:GE w),(letI v6:=(splitC (44:UInt8) w); letI v7:=(↑(Subtype.val x):Int); br (decide (v7<v1)) (((0:Int)≤v7∧v7<v1)∧Int.toNat v7<List.length v6∧br (decide (List.getD v6 (Int.toNat v7) []=([]:List UInt8))) (br (decide (v1>(1:Int))) v3 (inR IntKind.i64 (v7+(1:Int))∧∃ (x':GE w),(v1=v1∧v7+(1:Int)=(↑(Subtype.val x'):Int)∧v2∧splitC (44:UInt8) w=splitC (44:UInt8) w)∧List.length v6-Subtype.val x'<List.length v6-Subtype.val x)) (inR IntKind.i64 (v7+(1:Int))∧∃ (x':GE w),(v1=v1∧v7+(1:Int)=(↑(Subtype.val x'):Int)∧v2∧splitC (44:UInt8) w=splitC (44:UInt8) w)∧List.length v6-Subtype.val x'<List.length v6-Subtype.val x)) (br (decide ((0:Int)≤Lib.indexByte f (44:UInt8))) v3 (br (decide (v1>(1:Int))) (inR IntKind.i64 (v1-(1:Int))∧((0:Int)≤v1-(1:Int)∧v1-(1:Int)<v1)∧Int.toNat (v1-(1:Int))<List.length v6∧br (decide (v1>(2:Int))) (inR IntKind.i64 (v1-(2:Int))∧((0:Int)≤v1-(2:Int)∧v1-(2:Int)<v1)∧Int.toNat (v1-(2:Int))<List.length v6∧v4∧(0:Int)=v0.1∧List.flatten v6=v0.2.1∧f=f∧e=e∧pt=pt∧sci=sci∧mi=Num.mi v0.2.2∧xi=Num.xi v0.2.2∧mf=Num.mf v0.2.2∧xf=Num.xf v0.2.2∧ms=Num.ms v0.2.2∧xs=Num.xs v0.2.2∧v5=Num.pr v0.2.2∧(↑(List.length (List.getD v6 (Int.toNat (v1-(2:Int))) [])):Int)=Num.sc v0.2.2∧inc=Num.inc v0.2.2∧ps=Num.ps v0.2.2∧me=Num.me v0.2.2∧px=Num.px v0.2.2∧(0:Int)=(0:Int)∧(0:Int)=(0:Int)∧(0:Int)=(0:Int)) (v4∧(0:Int)=v0.1∧List.flatten v6=v0.2.1∧f=f∧e=e∧pt=pt∧sci=sci∧mi=Num.mi v0.2.2∧xi=Num.xi v0.2.2∧mf=Num.mf v0.2.2∧xf=Num.xf v0.2.2∧ms=Num.ms v0.2.2∧xs=Num.xs v0.2.2∧v5=Num.pr v0.2.2∧v5=Num.sc v0.2.2∧inc=Num.inc v0.2.2∧ps=Num.ps v0.2.2∧me=Num.me v0.2.2∧px=Num.px v0.2.2∧(0:Int)=(0:Int)∧(0:Int)=(0:Int)∧(0:Int)=(0:Int))) (v4∧(0:Int)=v0.1∧List.flatten v6=v0.2.1∧f=f∧e=e∧pt=pt∧sci=sci∧mi=Num.mi v0.2.2∧xi=Num.xi v0.2.2∧mf=Num.mf v0.2.2∧xf=Num.xf v0.2.2∧ms=Num.ms v0.2.2∧xs=Num.xs v0.2.2∧pr=Num.pr v0.2.2∧sc=Num.sc v0.2.2∧inc=Num.inc v0.2.2∧ps=Num.ps v0.2.2∧me=Num.me v0.2.2∧px=Num.px v0.2.2∧(0:Int)=(0:Int)∧(0:Int)=(0:Int)∧(0:Int)=(0:Int))))))):=by kernel_rfl
set_option maxHeartbeats 4000000 in
theorem of_rgroups (h:∀ (w f e:List UInt8) (pt sci:Bool) (mi xi mf xf ms xs pr sc:Int) (inc:List UInt8) (ps:Bool) (me:Int) (px:Bool),(w.length≤100000000)→vcA [(123,sp_ssplit),(124,sp_scont),(125,sp_sjoin)] [] misc Tryz.f95 (.loop 3 (GE w) (fun x=>⟨[(0,.one (.ptr 0 0)),(3,.one (.slc 17)),(12,.one (.slc 17)),(13,.one (.int .i64 (splitC 44 w).length)),(14,.one (.int .i64 x.1))],[(0,some (.cells 139 [.str w,.str f,.str e,.bool pt,.bool sci,.nils,.nils,.ff,.nils,.nils,.int .i64 mi,.int .i64 xi,.int .i64 mf,.int .i64 xf,.int .i64 ms,.int .i64 xs,.int .i64 pr,.int .i64 sc,.str inc,.bool ps,.int .i64 me,.bool px,.int .i64 0,.int .i32 0,.int .i64 0])),(17,some (.read (.strs (splitC 44 w))))],18⟩) (fun x=>(splitC 44 w).length-x.1) (fun _=>.nil) .nil) [.one (.ptr 0 0)] [(0,some (.cells 139 [.str w,.str f,.str e,.bool pt,.bool sci,.nils,.nils,.ff,.nils,.nils,.int .i64 mi,.int .i64 xi,.int .i64 mf,.int .i64 xf,.int .i64 ms,.int .i64 xs,.int .i64 pr,.int .i64 sc,.str inc,.bool ps,.int .i64 me,.bool px,.int .i64 0,.int .i32 0,.int .i64 0]))] (.one (.int .i64 (groupsT w f (⟨mi,xi,mf,xf,ms,xs,pr,sc,inc,ps,me,px⟩:Num)).1)) [(0,some (.cells 139 (rdC (groupsT w f (⟨mi,xi,mf,xf,ms,xs,pr,sc,inc,ps,me,px⟩:Num)).2.1 f e pt sci (groupsT w f (⟨mi,xi,mf,xf,ms,xs,pr,sc,inc,ps,me,px⟩:Num)).2.2)))]):FnA 95 sp_rgroups:=by
 refine fnA_ok (cs:=[(123,sp_ssplit),(124,sp_scont),(125,sp_sjoin)]) (cas:=[]) (ms:=misc) (.cons ok_ssplit (.cons ok_scont (.cons ok_sjoin .nil))) .nil misc_ok 95 Tryz.f95 (by kernel_rfl) (by kernel_rfl) (by kernel_rfl) (fun | [.one (.ptr 0 0)],[(0,some (.cells 139 [.str w,.str f,.str e,.bool pt,.bool sci,.nils,.nils,.ff,.nils,.nils,.int .i64 mi,.int .i64 xi,.int .i64 mf,.int .i64 xf,.int .i64 ms,.int .i64 xs,.int .i64 pr,.int .i64 sc,.str inc,.bool ps,.int .i64 me,.bool px,.int .i64 0,.int .i32 0,.int .i64 0]))]=>.loop 3 (GE w) (fun x=>⟨[(0,.one (.ptr 0 0)),(3,.one (.slc 17)),(12,.one (.slc 17)),(13,.one (.int .i64 (splitC 44 w).length)),(14,.one (.int .i64 x.1))],[(0,some (.cells 139 [.str w,.str f,.str e,.bool pt,.bool sci,.nils,.nils,.ff,.nils,.nils,.int .i64 mi,.int .i64 xi,.int .i64 mf,.int .i64 xf,.int .i64 ms,.int .i64 xs,.int .i64 pr,.int .i64 sc,.str inc,.bool ps,.int .i64 me,.bool px,.int .i64 0,.int .i32 0,.int .i64 0])),(17,some (.read (.strs (splitC 44 w))))],18⟩) (fun x=>(splitC 44 w).length-x.1) (fun _=>.nil) .nil | _,_=>.nil) ?_
 intro args mem p r post hs hp
 unfold sp_rgroups at hs
 simp only at hs
 split at hs
 ·rename_i w f e pt sci mi xi mf xf ms xs pr sc inc ps me px
  cases hs
  refine h w f e pt sci mi xi mf xf ms xs pr sc inc ps me px ?_
  ·exact hp
 ·cases hs
theorem splitC_flat (c:UInt8) (l:List UInt8):(splitC c l).flatten.length≤l.length:=by
 induction l with
 | nil=>simp [splitC]
 | cons x l ih =>
  unfold splitC
  split
  ·simp; simp at ih; omega
  ·have hne:=splitC_ne c l
   cases hs:splitC c l with
   | nil=>exact absurd hs hne
   | cons h t=>rw [hs] at ih; simp at ih ⊢; omega
theorem ok_rgroups:FnA 95 sp_rgroups:=of_rgroups (by
 intro w f e pt sci mi xi mf xf ms xs pr sc inc ps me px hw
 rw [vc_rgroups]
 have hl:=splitC_len 44 w
 have hc:=List.count_le_length (a:=44) (l:=w)
 have hfl:=splitC_flat 44 w
 refine ⟨by omega,⟨⟨0,Nat.zero_le _,fun _ t ht=>(by cases ht)⟩,by and_intros<;>rfl⟩,fun x=>br_of (fun h=>?_) fun h=>?_⟩
 ·have h:x.1<(splitC 44 w).length:=by simpa using h
  rw [Int.toNat_natCast]
  have hin:inR .i64 ((x.1:Int)+1):=by simp only [inR]; omega
  have hμ:∀ hx,(splitC 44 w).length-(x.next h hx).1<(splitC 44 w).length-x.1:=fun hx=>by show (splitC 44 w).length-(x.1+1)<_; omega
  refine ⟨⟨by omega,by omega⟩,h,br_of (fun h1=>br_of (fun h2=>?_) fun h2=>?_) fun h1=>⟨hin,x.next h (fun _=>of_decide_eq_false h1),by and_intros<;>rfl,hμ _⟩⟩
  ·have h2:1<(splitC 44 w).length:=by have:=of_decide_eq_true h2; omega
   have hem:emptyIn (splitC 44 w)=true:=by
    unfold emptyIn
    rw [decide_eq_true h2,Bool.true_and,List.any_eq_true]
    exact ⟨_,getD_mem' (d:=[]) h,h1⟩
   have hE:groupsT w f (⟨mi,xi,mf,xf,ms,xs,pr,sc,inc,ps,me,px⟩:Num)=(5,w,(⟨mi,xi,mf,xf,ms,xs,pr,sc,inc,ps,me,px⟩:Num)):=by unfold groupsT; rw [if_pos hem]
   rw [hE]; and_intros<;>rfl
  ·exact ⟨hin,x.next h (fun h3=>absurd h3 (by have:=of_decide_eq_false h2; omega)),by and_intros<;>rfl,hμ _⟩
 ·have h:¬ x.1<(splitC 44 w).length:=by simpa using h
  have hem:¬ emptyIn (splitC 44 w)=true:=by
   unfold emptyIn
   intro hh
   rw [Bool.and_eq_true,List.any_eq_true] at hh
   obtain ⟨h1,t,ht,h2⟩:=hh
   have h3:=x.2.2 (of_decide_eq_true h1) t
   rw [List.take_of_length_le (by omega)] at h3
   exact h3 ht (of_decide_eq_true h2)
  refine br_of (fun h1=>?_) fun h1=>br_of (fun h2=>?_) fun h2=>?_
  ·have hE:groupsT w f (⟨mi,xi,mf,xf,ms,xs,pr,sc,inc,ps,me,px⟩:Num)=(5,w,(⟨mi,xi,mf,xf,ms,xs,pr,sc,inc,ps,me,px⟩:Num)):=by unfold groupsT; rw [if_neg hem,if_pos (of_decide_eq_true h1)]
   rw [hE]; and_intros<;>rfl
  ·have h2:1<(splitC 44 w).length:=by have:=of_decide_eq_true h2; omega
   have e1:(((splitC 44 w).length:Int)-1).toNat=(splitC 44 w).length-1:=by omega
   have e2:(((splitC 44 w).length:Int)-2).toNat=(splitC 44 w).length-2:=by omega
   rw [e1,e2]
   refine ⟨by simp only [inR]; omega,⟨by omega,by omega⟩,by omega,br_of (fun h3=>⟨by simp only [inR]; omega,⟨by have:=of_decide_eq_true h3; omega,by omega⟩,by omega,⟨by omega,by omega⟩,?_⟩) fun h3=>⟨⟨by omega,by omega⟩,?_⟩⟩
   ·have h3:2<(splitC 44 w).length:=by have:=of_decide_eq_true h3; omega
    have hE:groupsT w f (⟨mi,xi,mf,xf,ms,xs,pr,sc,inc,ps,me,px⟩:Num)=(0,(splitC 44 w).flatten,{ (⟨mi,xi,mf,xf,ms,xs,pr,sc,inc,ps,me,px⟩:Num) with pr:=((splitC 44 w).getD ((splitC 44 w).length-1) []).length,sc:=((splitC 44 w).getD ((splitC 44 w).length-2) []).length }):=by
     unfold groupsT; rw [if_neg hem,if_neg (of_decide_eq_false h1),if_pos h2,if_pos h3]
    rw [hE]; and_intros<;>rfl
   ·have h3:¬ 2<(splitC 44 w).length:=by have:=of_decide_eq_false h3; omega
    have hE:groupsT w f (⟨mi,xi,mf,xf,ms,xs,pr,sc,inc,ps,me,px⟩:Num)=(0,(splitC 44 w).flatten,{ (⟨mi,xi,mf,xf,ms,xs,pr,sc,inc,ps,me,px⟩:Num) with pr:=((splitC 44 w).getD ((splitC 44 w).length-1) []).length,sc:=((splitC 44 w).getD ((splitC 44 w).length-1) []).length }):=by
     unfold groupsT; rw [if_neg hem,if_neg (of_decide_eq_false h1),if_pos h2,if_neg h3]
    rw [hE]; and_intros<;>rfl
  ·have h2:¬ 1<(splitC 44 w).length:=by have:=of_decide_eq_false h2; omega
   have hE:groupsT w f (⟨mi,xi,mf,xf,ms,xs,pr,sc,inc,ps,me,px⟩:Num)=(0,(splitC 44 w).flatten,(⟨mi,xi,mf,xf,ms,xs,pr,sc,inc,ps,me,px⟩:Num)):=by
    unfold groupsT; rw [if_neg hem,if_neg (of_decide_eq_false h1),if_neg h2]
   rw [hE]
   refine ⟨⟨by omega,by omega⟩,?_⟩
   and_intros<;>rfl)
end Go.Proofs.YtglfkihckkjniaaGreatDoor.Vx
namespace Go.Proofs.YtglfkihckkjniaaGreatDoor.Vx
open Go Go.RowKit
def signifT (w:List UInt8) (pt:Bool) (p:Num):Int×Num :=
 if pt=true∨anyP isDig w=true then (6,p)
 else if dropP (·==35) (dropP (·==64) (dropP (·==35) w))≠[]∨span1 (·==64) (dropP (·==35) w)=0 then (4,p)
 else (0,{ p with ms:=span1 (·==64) (dropP (·==35) w),xs:=span1 (·==64) (dropP (·==35) w)+span1 (·==35) (dropP (·==64) (dropP (·==35) w)) })
def sp_rsignif:ASpec:=⟨fun | [.one (.ptr 0 0)],[(0,some (.cells 139 [.str w,.str f,.str e,.bool pt,.bool sci,.nils,.nils,.ff,.nils,.nils,.int .i64 mi,.int .i64 xi,.int .i64 mf,.int .i64 xf,.int .i64 ms,.int .i64 xs,.int .i64 pr,.int .i64 sc,.str inc,.bool ps,.int .i64 me,.bool px,.int .i64 0,.int .i32 0,.int .i64 0]))]=>some ([Asc w,w.length≤100000000],.one (.int .i64 (signifT w pt (⟨mi,xi,mf,xf,ms,xs,pr,sc,inc,ps,me,px⟩:Num)).1),[(0,some (.cells 139 (rdC w f e pt sci (signifT w pt (⟨mi,xi,mf,xf,ms,xs,pr,sc,inc,ps,me,px⟩:Num)).2)))]) | _,_=>none⟩
theorem vc_rsignif (w f e:List UInt8) (pt sci:Bool) (mi xi mf xf ms xs pr sc:Int) (inc:List UInt8) (ps:Bool) (me:Int) (px:Bool):vcA [(121,sp_scfD),(117,sp_one)] [(116,sp_spansC)] misc Tryz.f126 (.nil) [.one (.ptr 0 0)] [(0,some (.cells 139 [.str w,.str f,.str e,.bool pt,.bool sci,.nils,.nils,.ff,.nils,.nils,.int .i64 mi,.int .i64 xi,.int .i64 mf,.int .i64 xf,.int .i64 ms,.int .i64 xs,.int .i64 pr,.int .i64 sc,.str inc,.bool ps,.int .i64 me,.bool px,.int .i64 0,.int .i32 0,.int .i64 0]))] (.one (.int .i64 (signifT w pt (⟨mi,xi,mf,xf,ms,xs,pr,sc,inc,ps,me,px⟩:Num)).1)) [(0,some (.cells 139 (rdC w f e pt sci (signifT w pt (⟨mi,xi,mf,xf,ms,xs,pr,sc,inc,ps,me,px⟩:Num)).2)))]=(letI v0:=(signifT w pt { mi:=mi,xi:=xi,mf:=mf,xf:=xf,ms:=ms,xs:=xs,pr:=pr,sc:=sc,inc:=inc,ps:=ps,me:=me,px:=px }); letI v1:=((6:Int)=v0.1∧w=w∧f=f∧e=e∧pt=pt∧sci=sci∧mi=Num.mi v0.2∧xi=Num.xi v0.2∧mf=Num.mf v0.2∧xf=Num.xf v0.2∧ms=Num.ms v0.2∧xs=Num.xs v0.2∧pr=Num.pr v0.2∧sc=Num.sc v0.2∧inc=Num.inc v0.2∧ps=Num.ps v0.2∧me=Num.me v0.2∧px=Num.px v0.2∧(0:Int)=(0:Int)∧(0:Int)=(0:Int)∧(0:Int)=(0:Int)); letI v2:=((4:Int)=v0.1∧w=w∧f=f∧e=e∧pt=pt∧sci=sci∧mi=Num.mi v0.2∧xi=Num.xi v0.2∧mf=Num.mf v0.2∧xf=Num.xf v0.2∧ms=Num.ms v0.2∧xs=Num.xs v0.2∧pr=Num.pr v0.2∧sc=Num.sc v0.2∧inc=Num.inc v0.2∧ps=Num.ps v0.2∧me=Num.me v0.2∧px=Num.px v0.2∧(0:Int)=(0:Int)∧(0:Int)=(0:Int)∧(0:Int)=(0:Int)); letI v3:=((0:Int)≤(1:Int)∧(1:Int)<(↑(3:Nat):Int)); (br pt v1 ((∀ (c:UInt8),c∈w→UInt8.toNat c<(128:Nat))∧List.length w≤(1000000000:Nat)∧br (anyP isDig w) v1 ((∀ (c:UInt8),c∈w→UInt8.toNat c<(128:Nat))∧List.length w≤(1000000000:Nat)∧br (!decide (dropP (fun (x:Int)=>x==(35:Int)) (dropP (fun (x:Int)=>x==(64:Int)) (dropP (fun (x:Int)=>x==(35:Int)) w))=[])) v2 (v3∧Int.toNat (1:Int)<(3:Nat)∧br ((span1 (fun (x:Int)=>x==(64:Int)) (dropP (fun (x:Int)=>x==(35:Int)) w))==(0:Int)) v2 (v3∧Int.toNat (1:Int)<(3:Nat)∧v3∧Int.toNat (1:Int)<(3:Nat)∧((0:Int)≤(2:Int)∧(2:Int)<(↑(3:Nat):Int))∧Int.toNat (2:Int)<(3:Nat)∧inR IntKind.i64 ((span1 (fun (x:Int)=>x==(64:Int)) (dropP (fun (x:Int)=>x==(35:Int)) w))+(span1 (fun (x:Int)=>x==(35:Int)) (dropP (fun (x:Int)=>x==(64:Int)) (dropP (fun (x:Int)=>x==(35:Int)) w))))∧(0:Int)=v0.1∧w=w∧f=f∧e=e∧pt=pt∧sci=sci∧mi=Num.mi v0.2∧xi=Num.xi v0.2∧mf=Num.mf v0.2∧xf=Num.xf v0.2∧(span1 (fun (x:Int)=>x==(64:Int)) (dropP (fun (x:Int)=>x==(35:Int)) w))=Num.ms v0.2∧(span1 (fun (x:Int)=>x==(64:Int)) (dropP (fun (x:Int)=>x==(35:Int)) w))+(span1 (fun (x:Int)=>x==(35:Int)) (dropP (fun (x:Int)=>x==(64:Int)) (dropP (fun (x:Int)=>x==(35:Int)) w)))=Num.xs v0.2∧pr=Num.pr v0.2∧sc=Num.sc v0.2∧inc=Num.inc v0.2∧ps=Num.ps v0.2∧me=Num.me v0.2∧px=Num.px v0.2∧(0:Int)=(0:Int)∧(0:Int)=(0:Int)∧(0:Int)=(0:Int))))))):=by kernel_rfl
set_option maxHeartbeats 4000000 in
theorem of_rsignif (h:∀ (w f e:List UInt8) (pt sci:Bool) (mi xi mf xf ms xs pr sc:Int) (inc:List UInt8) (ps:Bool) (me:Int) (px:Bool),(Asc w)→(w.length≤100000000)→vcA [(121,sp_scfD),(117,sp_one)] [(116,sp_spansC)] misc Tryz.f126 (.nil) [.one (.ptr 0 0)] [(0,some (.cells 139 [.str w,.str f,.str e,.bool pt,.bool sci,.nils,.nils,.ff,.nils,.nils,.int .i64 mi,.int .i64 xi,.int .i64 mf,.int .i64 xf,.int .i64 ms,.int .i64 xs,.int .i64 pr,.int .i64 sc,.str inc,.bool ps,.int .i64 me,.bool px,.int .i64 0,.int .i32 0,.int .i64 0]))] (.one (.int .i64 (signifT w pt (⟨mi,xi,mf,xf,ms,xs,pr,sc,inc,ps,me,px⟩:Num)).1)) [(0,some (.cells 139 (rdC w f e pt sci (signifT w pt (⟨mi,xi,mf,xf,ms,xs,pr,sc,inc,ps,me,px⟩:Num)).2)))]):FnA 126 sp_rsignif:=by
 refine fnA_ok (cs:=[(121,sp_scfD),(117,sp_one)]) (cas:=[(116,sp_spansC)]) (ms:=misc) (.cons ok_scfD (.cons ok_one .nil)) (.cons ok_spansC .nil) misc_ok 126 Tryz.f126 (by kernel_rfl) (by kernel_rfl) (by kernel_rfl) (fun _ _=>.nil) ?_
 intro args mem p r post hs hp
 unfold sp_rsignif at hs
 simp only at hs
 split at hs
 ·rename_i w f e pt sci mi xi mf xf ms xs pr sc inc ps me px
  cases hs
  refine h w f e pt sci mi xi mf xf ms xs pr sc inc ps me px ?_ ?_
  ·exact hp.1
  ·exact hp.2
 ·cases hs
theorem span1_range (P:Int→Bool) (s:List UInt8):0≤span1 P s∧span1 P s≤s.length:=by
 have:=dropP_len P s
 unfold span1
 omega
theorem ok_rsignif:FnA 126 sp_rsignif:=of_rsignif (by
 intro w f e pt sci mi xi mf xf ms xs pr sc inc ps me px hw hn
 rw [vc_rsignif]
 have r1:=span1_range (·==64) (dropP (·==35) w)
 have r2:=span1_range (·==35) (dropP (·==64) (dropP (·==35) w))
 have l1:=dropP_len (·==35) w
 have l2:=dropP_len (·==64) (dropP (·==35) w)
 refine br_of (fun h=>?_) fun h=>⟨hw,by omega,br_of (fun h1=>?_) fun h1=>⟨hw,by omega,br_of (fun h2=>?_) fun h2=>⟨by decide,by decide,br_of (fun h3=>?_) fun h3=>⟨by decide,by decide,by decide,by decide,by decide,by decide,by simp only [inR]; omega,?_⟩⟩⟩⟩
 ·have hE:signifT w pt (⟨mi,xi,mf,xf,ms,xs,pr,sc,inc,ps,me,px⟩:Num)=(6,(⟨mi,xi,mf,xf,ms,xs,pr,sc,inc,ps,me,px⟩:Num)):=by unfold signifT; rw [if_pos (.inl h)]
  rw [hE]; and_intros<;>rfl
 ·have hE:signifT w pt (⟨mi,xi,mf,xf,ms,xs,pr,sc,inc,ps,me,px⟩:Num)=(6,(⟨mi,xi,mf,xf,ms,xs,pr,sc,inc,ps,me,px⟩:Num)):=by unfold signifT; rw [if_pos (.inr h1)]
  rw [hE]; and_intros<;>rfl
 all_goals have hn1:¬ (pt=true∨anyP isDig w=true):=fun h4=>h4.elim (fun h5=>by rw [h] at h5; cases h5) (fun h5=>by rw [h1] at h5; cases h5)
 ·have h2:dropP (·==35) (dropP (·==64) (dropP (·==35) w))≠[]:=by simpa using h2
  have hE:signifT w pt (⟨mi,xi,mf,xf,ms,xs,pr,sc,inc,ps,me,px⟩:Num)=(4,(⟨mi,xi,mf,xf,ms,xs,pr,sc,inc,ps,me,px⟩:Num)):=by unfold signifT; rw [if_neg hn1,if_pos (.inl h2)]
  rw [hE]; and_intros<;>rfl
 ·have hE:signifT w pt (⟨mi,xi,mf,xf,ms,xs,pr,sc,inc,ps,me,px⟩:Num)=(4,(⟨mi,xi,mf,xf,ms,xs,pr,sc,inc,ps,me,px⟩:Num)):=by unfold signifT; rw [if_neg hn1,if_pos (.inr (eq_of_beq h3))]
  rw [hE]; and_intros<;>rfl
 ·have h2:dropP (·==35) (dropP (·==64) (dropP (·==35) w))=[]:=by simpa using h2
  have h3:¬ span1 (·==64) (dropP (·==35) w)=0:=by simpa using h3
  have hE:signifT w pt (⟨mi,xi,mf,xf,ms,xs,pr,sc,inc,ps,me,px⟩:Num)=(0,{ (⟨mi,xi,mf,xf,ms,xs,pr,sc,inc,ps,me,px⟩:Num) with ms:=span1 (·==64) (dropP (·==35) w),xs:=span1 (·==64) (dropP (·==35) w)+span1 (·==35) (dropP (·==64) (dropP (·==35) w)) }):=by
   unfold signifT; rw [if_neg hn1,if_neg (fun h4=>h4.elim (fun h5=>h5 h2) h3)]
  rw [hE]; and_intros<;>rfl)
def countsP (w f:List UInt8) (sci:Bool) (p:Num):Num :=
 { p with mi:=span1 isDig (dropP (·==35) w),mf:=span1 isDig f,xf:=f.length,xi:=if sci=true then (w.length:Int) else p.xi,inc:=Lib.trimLeftB (w.drop (span1 (·==35) w).toNat++f.take (span1 isDig f).toNat) 48 }
def countsT (w f:List UInt8) (pt sci:Bool) (p:Num):Int×Num :=
 if w++f=[] then (4,p)
 else if 0≤Lib.indexByte (w++f) 64 then signifT w pt p
 else if dropP isDig (dropP (·==35) w)≠[]∨dropP (·==35) (dropP isDig f)≠[] then (4,p)
 else if (countsP w f sci p).inc≠[]∧(0<span1 (·==35) (dropP isDig f)∨sci=true) then (6,countsP w f sci p)
 else (0,countsP w f sci p)
def sp_rcounts:ASpec:=⟨fun | [.one (.ptr 0 0)],[(0,some (.cells 139 [.str w,.str f,.str e,.bool pt,.bool sci,.nils,.nils,.ff,.nils,.nils,.int .i64 mi,.int .i64 xi,.int .i64 mf,.int .i64 xf,.int .i64 ms,.int .i64 xs,.int .i64 pr,.int .i64 sc,.str inc,.bool ps,.int .i64 me,.bool px,.int .i64 0,.int .i32 0,.int .i64 0]))]=>some ([Asc w∧Asc f,w.length≤100000000∧f.length≤100000000],.one (.int .i64 (countsT w f pt sci (⟨mi,xi,mf,xf,ms,xs,pr,sc,inc,ps,me,px⟩:Num)).1),[(0,some (.cells 139 (rdC w f e pt sci (countsT w f pt sci (⟨mi,xi,mf,xf,ms,xs,pr,sc,inc,ps,me,px⟩:Num)).2)))]) | _,_=>none⟩
theorem vc_rcounts (w f e:List UInt8) (pt sci:Bool) (mi xi mf xf ms xs pr sc:Int) (inc:List UInt8) (ps:Bool) (me:Int) (px:Bool):vcA [(124,sp_scont),(117,sp_one),(127,sp_strim)] [(126,sp_rsignif),(116,sp_spansAB)] misc Tryz.f96 (.nil) [.one (.ptr 0 0)] [(0,some (.cells 139 [.str w,.str f,.str e,.bool pt,.bool sci,.nils,.nils,.ff,.nils,.nils,.int .i64 mi,.int .i64 xi,.int .i64 mf,.int .i64 xf,.int .i64 ms,.int .i64 xs,.int .i64 pr,.int .i64 sc,.str inc,.bool ps,.int .i64 me,.bool px,.int .i64 0,.int .i32 0,.int .i64 0]))] (.one (.int .i64 (countsT w f pt sci (⟨mi,xi,mf,xf,ms,xs,pr,sc,inc,ps,me,px⟩:Num)).1)) [(0,some (.cells 139 (rdC w f e pt sci (countsT w f pt sci (⟨mi,xi,mf,xf,ms,xs,pr,sc,inc,ps,me,px⟩:Num)).2)))]=(letI v0:=(countsT w f pt sci { mi:=mi,xi:=xi,mf:=mf,xf:=xf,ms:=ms,xs:=xs,pr:=pr,sc:=sc,inc:=inc,ps:=ps,me:=me,px:=px }); letI v1:=(signifT w pt { mi:=mi,xi:=xi,mf:=mf,xf:=xf,ms:=ms,xs:=xs,pr:=pr,sc:=sc,inc:=inc,ps:=ps,me:=me,px:=px }); letI v2:=((4:Int)=v0.1∧w=w∧f=f∧e=e∧pt=pt∧sci=sci∧mi=Num.mi v0.2∧xi=Num.xi v0.2∧mf=Num.mf v0.2∧xf=Num.xf v0.2∧ms=Num.ms v0.2∧xs=Num.xs v0.2∧pr=Num.pr v0.2∧sc=Num.sc v0.2∧inc=Num.inc v0.2∧ps=Num.ps v0.2∧me=Num.me v0.2∧px=Num.px v0.2∧(0:Int)=(0:Int)∧(0:Int)=(0:Int)∧(0:Int)=(0:Int)); letI v3:=(Int.toNat ((span1 isDig f))); letI v4:=((0:Int)≤(0:Int)∧(0:Int)<(↑(2:Nat):Int)); letI v5:=((0:Int)≤(1:Int)∧(1:Int)<(↑(2:Nat):Int)); letI v6:=((0:Int)≤(span1 isDig f)∧(span1 isDig f)≤(↑(List.length f):Int)); (List.length w+List.length f≤(9223372036854775807:Nat)∧br (decide (w++f=([]:List UInt8))) v2 (List.length w+List.length f≤(9223372036854775807:Nat)∧br (decide ((0:Int)≤Lib.indexByte (w++f) (64:UInt8))) ((∀ (c:UInt8),c∈w→UInt8.toNat c<(128:Nat))∧List.length w≤(100000000:Nat)∧v1.1=v0.1∧w=w∧f=f∧e=e∧pt=pt∧sci=sci∧Num.mi v1.2=Num.mi v0.2∧Num.xi v1.2=Num.xi v0.2∧Num.mf v1.2=Num.mf v0.2∧Num.xf v1.2=Num.xf v0.2∧Num.ms v1.2=Num.ms v0.2∧Num.xs v1.2=Num.xs v0.2∧Num.pr v1.2=Num.pr v0.2∧Num.sc v1.2=Num.sc v0.2∧Num.inc v1.2=Num.inc v0.2∧Num.ps v1.2=Num.ps v0.2∧Num.me v1.2=Num.me v0.2∧Num.px v1.2=Num.px v0.2∧(0:Int)=(0:Int)∧(0:Int)=(0:Int)∧(0:Int)=(0:Int)) ((∀ (c:UInt8),c∈w→UInt8.toNat c<(128:Nat))∧List.length w≤(1000000000:Nat)∧(∀ (c:UInt8),c∈f→UInt8.toNat c<(128:Nat))∧List.length f≤(1000000000:Nat)∧br (!decide (dropP isDig (dropP (fun (x:Int)=>x==(35:Int)) w)=[])) v2 (br (!decide (dropP (fun (x:Int)=>x==(35:Int)) (dropP isDig f)=[])) v2 (v5∧Int.toNat (1:Int)<(2:Nat)∧v4∧Int.toNat (0:Int)<(2:Nat)∧br sci (v4∧Int.toNat (0:Int)<(2:Nat)∧((0:Int)≤(span1 (fun (x:Int)=>x==(35:Int)) w)∧(span1 (fun (x:Int)=>x==(35:Int)) w)≤(↑(List.length w):Int))∧v4∧Int.toNat (0:Int)<(2:Nat)∧v6∧List.length (List.drop (Int.toNat ((span1 (fun (x:Int)=>x==(35:Int)) w))) w)+List.length (List.take v3 f)≤(9223372036854775807:Nat)∧UInt8.toNat (48:UInt8)<(128:Nat)∧br (!decide (Lib.trimLeftB (List.drop (Int.toNat ((span1 (fun (x:Int)=>x==(35:Int)) w))) w++List.take v3 f) (48:UInt8)=([]:List UInt8))) (v5∧Int.toNat (1:Int)<(2:Nat)∧br (decide ((span1 (fun (x:Int)=>x==(35:Int)) (dropP isDig f))>(0:Int))) ((6:Int)=v0.1∧w=w∧f=f∧e=e∧pt=pt∧sci=sci∧(span1 isDig (dropP (fun (x:Int)=>x==(35:Int)) w))=Num.mi v0.2∧(↑(List.length w):Int)=Num.xi v0.2∧(span1 isDig f)=Num.mf v0.2∧(↑(List.length f):Int)=Num.xf v0.2∧ms=Num.ms v0.2∧xs=Num.xs v0.2∧pr=Num.pr v0.2∧sc=Num.sc v0.2∧Lib.trimLeftB (List.drop (Int.toNat ((span1 (fun (x:Int)=>x==(35:Int)) w))) w++List.take v3 f) (48:UInt8)=Num.inc v0.2∧ps=Num.ps v0.2∧me=Num.me v0.2∧px=Num.px v0.2∧(0:Int)=(0:Int)∧(0:Int)=(0:Int)∧(0:Int)=(0:Int)) (br sci ((6:Int)=v0.1∧w=w∧f=f∧e=e∧pt=pt∧sci=sci∧(span1 isDig (dropP (fun (x:Int)=>x==(35:Int)) w))=Num.mi v0.2∧(↑(List.length w):Int)=Num.xi v0.2∧(span1 isDig f)=Num.mf v0.2∧(↑(List.length f):Int)=Num.xf v0.2∧ms=Num.ms v0.2∧xs=Num.xs v0.2∧pr=Num.pr v0.2∧sc=Num.sc v0.2∧Lib.trimLeftB (List.drop (Int.toNat ((span1 (fun (x:Int)=>x==(35:Int)) w))) w++List.take v3 f) (48:UInt8)=Num.inc v0.2∧ps=Num.ps v0.2∧me=Num.me v0.2∧px=Num.px v0.2∧(0:Int)=(0:Int)∧(0:Int)=(0:Int)∧(0:Int)=(0:Int)) ((0:Int)=v0.1∧w=w∧f=f∧e=e∧pt=pt∧sci=sci∧(span1 isDig (dropP (fun (x:Int)=>x==(35:Int)) w))=Num.mi v0.2∧(↑(List.length w):Int)=Num.xi v0.2∧(span1 isDig f)=Num.mf v0.2∧(↑(List.length f):Int)=Num.xf v0.2∧ms=Num.ms v0.2∧xs=Num.xs v0.2∧pr=Num.pr v0.2∧sc=Num.sc v0.2∧Lib.trimLeftB (List.drop (Int.toNat ((span1 (fun (x:Int)=>x==(35:Int)) w))) w++List.take v3 f) (48:UInt8)=Num.inc v0.2∧ps=Num.ps v0.2∧me=Num.me v0.2∧px=Num.px v0.2∧(0:Int)=(0:Int)∧(0:Int)=(0:Int)∧(0:Int)=(0:Int)))) ((0:Int)=v0.1∧w=w∧f=f∧e=e∧pt=pt∧sci=sci∧(span1 isDig (dropP (fun (x:Int)=>x==(35:Int)) w))=Num.mi v0.2∧(↑(List.length w):Int)=Num.xi v0.2∧(span1 isDig f)=Num.mf v0.2∧(↑(List.length f):Int)=Num.xf v0.2∧ms=Num.ms v0.2∧xs=Num.xs v0.2∧pr=Num.pr v0.2∧sc=Num.sc v0.2∧Lib.trimLeftB (List.drop (Int.toNat ((span1 (fun (x:Int)=>x==(35:Int)) w))) w++List.take v3 f) (48:UInt8)=Num.inc v0.2∧ps=Num.ps v0.2∧me=Num.me v0.2∧px=Num.px v0.2∧(0:Int)=(0:Int)∧(0:Int)=(0:Int)∧(0:Int)=(0:Int))) (v4∧Int.toNat (0:Int)<(2:Nat)∧((0:Int)≤(span1 (fun (x:Int)=>x==(35:Int)) w)∧(span1 (fun (x:Int)=>x==(35:Int)) w)≤(↑(List.length w):Int))∧v4∧Int.toNat (0:Int)<(2:Nat)∧v6∧List.length (List.drop (Int.toNat ((span1 (fun (x:Int)=>x==(35:Int)) w))) w)+List.length (List.take v3 f)≤(9223372036854775807:Nat)∧UInt8.toNat (48:UInt8)<(128:Nat)∧br (!decide (Lib.trimLeftB (List.drop (Int.toNat ((span1 (fun (x:Int)=>x==(35:Int)) w))) w++List.take v3 f) (48:UInt8)=([]:List UInt8))) (v5∧Int.toNat (1:Int)<(2:Nat)∧br (decide ((span1 (fun (x:Int)=>x==(35:Int)) (dropP isDig f))>(0:Int))) ((6:Int)=v0.1∧w=w∧f=f∧e=e∧pt=pt∧sci=sci∧(span1 isDig (dropP (fun (x:Int)=>x==(35:Int)) w))=Num.mi v0.2∧xi=Num.xi v0.2∧(span1 isDig f)=Num.mf v0.2∧(↑(List.length f):Int)=Num.xf v0.2∧ms=Num.ms v0.2∧xs=Num.xs v0.2∧pr=Num.pr v0.2∧sc=Num.sc v0.2∧Lib.trimLeftB (List.drop (Int.toNat ((span1 (fun (x:Int)=>x==(35:Int)) w))) w++List.take v3 f) (48:UInt8)=Num.inc v0.2∧ps=Num.ps v0.2∧me=Num.me v0.2∧px=Num.px v0.2∧(0:Int)=(0:Int)∧(0:Int)=(0:Int)∧(0:Int)=(0:Int)) (br sci ((6:Int)=v0.1∧w=w∧f=f∧e=e∧pt=pt∧sci=sci∧(span1 isDig (dropP (fun (x:Int)=>x==(35:Int)) w))=Num.mi v0.2∧xi=Num.xi v0.2∧(span1 isDig f)=Num.mf v0.2∧(↑(List.length f):Int)=Num.xf v0.2∧ms=Num.ms v0.2∧xs=Num.xs v0.2∧pr=Num.pr v0.2∧sc=Num.sc v0.2∧Lib.trimLeftB (List.drop (Int.toNat ((span1 (fun (x:Int)=>x==(35:Int)) w))) w++List.take v3 f) (48:UInt8)=Num.inc v0.2∧ps=Num.ps v0.2∧me=Num.me v0.2∧px=Num.px v0.2∧(0:Int)=(0:Int)∧(0:Int)=(0:Int)∧(0:Int)=(0:Int)) ((0:Int)=v0.1∧w=w∧f=f∧e=e∧pt=pt∧sci=sci∧(span1 isDig (dropP (fun (x:Int)=>x==(35:Int)) w))=Num.mi v0.2∧xi=Num.xi v0.2∧(span1 isDig f)=Num.mf v0.2∧(↑(List.length f):Int)=Num.xf v0.2∧ms=Num.ms v0.2∧xs=Num.xs v0.2∧pr=Num.pr v0.2∧sc=Num.sc v0.2∧Lib.trimLeftB (List.drop (Int.toNat ((span1 (fun (x:Int)=>x==(35:Int)) w))) w++List.take v3 f) (48:UInt8)=Num.inc v0.2∧ps=Num.ps v0.2∧me=Num.me v0.2∧px=Num.px v0.2∧(0:Int)=(0:Int)∧(0:Int)=(0:Int)∧(0:Int)=(0:Int)))) ((0:Int)=v0.1∧w=w∧f=f∧e=e∧pt=pt∧sci=sci∧(span1 isDig (dropP (fun (x:Int)=>x==(35:Int)) w))=Num.mi v0.2∧xi=Num.xi v0.2∧(span1 isDig f)=Num.mf v0.2∧(↑(List.length f):Int)=Num.xf v0.2∧ms=Num.ms v0.2∧xs=Num.xs v0.2∧pr=Num.pr v0.2∧sc=Num.sc v0.2∧Lib.trimLeftB (List.drop (Int.toNat ((span1 (fun (x:Int)=>x==(35:Int)) w))) w++List.take v3 f) (48:UInt8)=Num.inc v0.2∧ps=Num.ps v0.2∧me=Num.me v0.2∧px=Num.px v0.2∧(0:Int)=(0:Int)∧(0:Int)=(0:Int)∧(0:Int)=(0:Int))))))))):=by kernel_rfl
set_option maxHeartbeats 4000000 in
theorem of_rcounts (h:∀ (w f e:List UInt8) (pt sci:Bool) (mi xi mf xf ms xs pr sc:Int) (inc:List UInt8) (ps:Bool) (me:Int) (px:Bool),(Asc w∧Asc f)→(w.length≤100000000∧f.length≤100000000)→vcA [(124,sp_scont),(117,sp_one),(127,sp_strim)] [(126,sp_rsignif),(116,sp_spansAB)] misc Tryz.f96 (.nil) [.one (.ptr 0 0)] [(0,some (.cells 139 [.str w,.str f,.str e,.bool pt,.bool sci,.nils,.nils,.ff,.nils,.nils,.int .i64 mi,.int .i64 xi,.int .i64 mf,.int .i64 xf,.int .i64 ms,.int .i64 xs,.int .i64 pr,.int .i64 sc,.str inc,.bool ps,.int .i64 me,.bool px,.int .i64 0,.int .i32 0,.int .i64 0]))] (.one (.int .i64 (countsT w f pt sci (⟨mi,xi,mf,xf,ms,xs,pr,sc,inc,ps,me,px⟩:Num)).1)) [(0,some (.cells 139 (rdC w f e pt sci (countsT w f pt sci (⟨mi,xi,mf,xf,ms,xs,pr,sc,inc,ps,me,px⟩:Num)).2)))]):FnA 96 sp_rcounts:=by
 refine fnA_ok (cs:=[(124,sp_scont),(117,sp_one),(127,sp_strim)]) (cas:=[(126,sp_rsignif),(116,sp_spansAB)]) (ms:=misc) (.cons ok_scont (.cons ok_one (.cons ok_strim .nil))) (.cons ok_rsignif (.cons ok_spansAB .nil)) misc_ok 96 Tryz.f96 (by kernel_rfl) (by kernel_rfl) (by kernel_rfl) (fun _ _=>.nil) ?_
 intro args mem p r post hs hp
 unfold sp_rcounts at hs
 simp only at hs
 split at hs
 ·rename_i w f e pt sci mi xi mf xf ms xs pr sc inc ps me px
  cases hs
  refine h w f e pt sci mi xi mf xf ms xs pr sc inc ps me px ?_ ?_
  ·exact hp.1
  ·exact hp.2
 ·cases hs
set_option maxHeartbeats 1000000 in
theorem ok_rcounts:FnA 96 sp_rcounts:=of_rcounts (by
 intro w f e pt sci mi xi mf xf ms xs pr sc inc ps me px hA hN
 rw [vc_rcounts]
 have r1:=span1_range (·==35) w
 have r2:=span1_range isDig f
 have hl:(w.drop (span1 (·==35) w).toNat).length+(f.take (span1 isDig f).toNat).length≤9223372036854775807:=by
  rw [List.length_drop,List.length_take]; omega
 refine ⟨by omega,br_of (fun h=>?_) fun h=>⟨by omega,br_of (fun h1=>?_) fun h1=>⟨hA.1,by omega,hA.2,by omega,br_of (fun h2=>?_) fun h2=>br_of (fun h3=>?_) fun h3=>⟨by decide,by decide,by decide,by decide,?_⟩⟩⟩⟩
 ·have hE:countsT w f pt sci (⟨mi,xi,mf,xf,ms,xs,pr,sc,inc,ps,me,px⟩:Num)=(4,(⟨mi,xi,mf,xf,ms,xs,pr,sc,inc,ps,me,px⟩:Num)):=by unfold countsT; rw [if_pos (of_decide_eq_true h)]
  rw [hE]; and_intros<;>rfl
 all_goals have h:=of_decide_eq_false h
 ·have hE:countsT w f pt sci (⟨mi,xi,mf,xf,ms,xs,pr,sc,inc,ps,me,px⟩:Num)=signifT w pt (⟨mi,xi,mf,xf,ms,xs,pr,sc,inc,ps,me,px⟩:Num):=by unfold countsT; rw [if_neg h,if_pos (of_decide_eq_true h1)]
  rw [hE]
  refine ⟨hA.1,hN.1,?_⟩
  and_intros<;>rfl
 all_goals have h1:=of_decide_eq_false h1
 ·have h2:dropP isDig (dropP (·==35) w)≠[]:=by simpa using h2
  have hE:countsT w f pt sci (⟨mi,xi,mf,xf,ms,xs,pr,sc,inc,ps,me,px⟩:Num)=(4,(⟨mi,xi,mf,xf,ms,xs,pr,sc,inc,ps,me,px⟩:Num)):=by unfold countsT; rw [if_neg h,if_neg h1,if_pos (.inl h2)]
  rw [hE]; and_intros<;>rfl
 all_goals have h2:dropP isDig (dropP (·==35) w)=[]:=by simpa using h2
 ·have h3:dropP (·==35) (dropP isDig f)≠[]:=by simpa using h3
  have hE:countsT w f pt sci (⟨mi,xi,mf,xf,ms,xs,pr,sc,inc,ps,me,px⟩:Num)=(4,(⟨mi,xi,mf,xf,ms,xs,pr,sc,inc,ps,me,px⟩:Num)):=by unfold countsT; rw [if_neg h,if_neg h1,if_pos (.inr h3)]
  rw [hE]; and_intros<;>rfl
 have h3:dropP (·==35) (dropP isDig f)=[]:=by simpa using h3
 have hT:countsT w f pt sci (⟨mi,xi,mf,xf,ms,xs,pr,sc,inc,ps,me,px⟩:Num)=if (countsP w f sci (⟨mi,xi,mf,xf,ms,xs,pr,sc,inc,ps,me,px⟩:Num)).inc≠[]∧(0<span1 (·==35) (dropP isDig f)∨sci=true) then (6,countsP w f sci (⟨mi,xi,mf,xf,ms,xs,pr,sc,inc,ps,me,px⟩:Num)) else (0,countsP w f sci (⟨mi,xi,mf,xf,ms,xs,pr,sc,inc,ps,me,px⟩:Num)):=by
  unfold countsT; rw [if_neg h,if_neg h1,if_neg (fun h4=>h4.elim (fun h5=>h5 h2) (fun h5=>h5 h3))]
 have hI:(countsP w f sci (⟨mi,xi,mf,xf,ms,xs,pr,sc,inc,ps,me,px⟩:Num)).inc=Lib.trimLeftB (w.drop (span1 (·==35) w).toNat++f.take (span1 isDig f).toNat) 48:=rfl
 have six:(Lib.trimLeftB (w.drop (span1 (·==35) w).toNat++f.take (span1 isDig f).toNat) 48≠[]∧(0<span1 (·==35) (dropP isDig f)∨sci=true))→countsT w f pt sci (⟨mi,xi,mf,xf,ms,xs,pr,sc,inc,ps,me,px⟩:Num)=(6,countsP w f sci (⟨mi,xi,mf,xf,ms,xs,pr,sc,inc,ps,me,px⟩:Num)):=fun hc=>by rw [hT]; exact if_pos hc
 have nought:¬ (Lib.trimLeftB (w.drop (span1 (·==35) w).toNat++f.take (span1 isDig f).toNat) 48≠[]∧(0<span1 (·==35) (dropP isDig f)∨sci=true))→countsT w f pt sci (⟨mi,xi,mf,xf,ms,xs,pr,sc,inc,ps,me,px⟩:Num)=(0,countsP w f sci (⟨mi,xi,mf,xf,ms,xs,pr,sc,inc,ps,me,px⟩:Num)):=fun hc=>by rw [hT]; exact if_neg hc
 cases hs:sci with
 | true =>
  rw [hs] at six nought
  refine ⟨by decide,by decide,r1,by decide,by decide,r2,hl,by decide,br_of (fun h4=>⟨by decide,by decide,br_of (fun h5=>?_) fun h5=>?_⟩) fun h4=>?_⟩
  ·rw [six ⟨by simpa using h4,.inl (of_decide_eq_true h5)⟩]; and_intros<;>rfl
  ·refine br_of (fun _=>?_) fun h6=>by cases h6
   rw [six ⟨by simpa using h4,.inr rfl⟩]; and_intros<;>rfl
  ·rw [nought (fun h5=>h5.1 (by simpa using h4))]; and_intros<;>rfl
 | false =>
  rw [hs] at six nought
  refine ⟨by decide,by decide,r1,by decide,by decide,r2,hl,by decide,br_of (fun h4=>⟨by decide,by decide,br_of (fun h5=>?_) fun h5=>?_⟩) fun h4=>?_⟩
  ·rw [six ⟨by simpa using h4,.inl (of_decide_eq_true h5)⟩]; and_intros<;>rfl
  ·refine br_of (fun h6=>by cases h6) fun _=>?_
   rw [nought (fun h6=>h6.2.elim (of_decide_eq_false h5) (fun h7=>by cases h7))]; and_intros<;>rfl
  ·rw [nought (fun h5=>h5.1 (by simpa using h4))]; and_intros<;>rfl)
def mixedT (w:List UInt8) (sci:Bool) (p:Num):Int :=
 if sci=true∧(0<p.pr∨0<p.ms∧bAt w 0=35) then 6
 else if 40<max p.mi (max p.xi (max p.xf (max p.xs (max p.pr (max p.sc p.inc.length))))) then 8
 else 0
def sp_rmixed:ASpec:=⟨fun | [.one (.ptr 0 0)],[(0,some (.cells 139 [.str w,.str f,.str e,.bool pt,.bool sci,.nils,.nils,.ff,.nils,.nils,.int .i64 mi,.int .i64 xi,.int .i64 mf,.int .i64 xf,.int .i64 ms,.int .i64 xs,.int .i64 pr,.int .i64 sc,.str inc,.bool ps,.int .i64 me,.bool px,.int .i64 0,.int .i32 0,.int .i64 0]))]=>some ([0<ms→w≠[]],.one (.int .i64 (mixedT w sci (⟨mi,xi,mf,xf,ms,xs,pr,sc,inc,ps,me,px⟩:Num))),[(0,some (.cells 139 (rdC w f e pt sci (⟨mi,xi,mf,xf,ms,xs,pr,sc,inc,ps,me,px⟩:Num))))]) | _,_=>none⟩
theorem vc_rmixed (w f e:List UInt8) (pt sci:Bool) (mi xi mf xf ms xs pr sc:Int) (inc:List UInt8) (ps:Bool) (me:Int) (px:Bool):vcA [] [] misc Tryz.f97 (.nil) [.one (.ptr 0 0)] [(0,some (.cells 139 [.str w,.str f,.str e,.bool pt,.bool sci,.nils,.nils,.ff,.nils,.nils,.int .i64 mi,.int .i64 xi,.int .i64 mf,.int .i64 xf,.int .i64 ms,.int .i64 xs,.int .i64 pr,.int .i64 sc,.str inc,.bool ps,.int .i64 me,.bool px,.int .i64 0,.int .i32 0,.int .i64 0]))] (.one (.int .i64 (mixedT w sci (⟨mi,xi,mf,xf,ms,xs,pr,sc,inc,ps,me,px⟩:Num)))) [(0,some (.cells 139 (rdC w f e pt sci (⟨mi,xi,mf,xf,ms,xs,pr,sc,inc,ps,me,px⟩:Num))))]=(letI v0:=(br (decide (List.foldl (mnx true) mi [xi,xf,xs,pr,sc,(↑(List.length inc):Int)]>(40:Int))) ((8:Int)=mixedT w sci { mi:=mi,xi:=xi,mf:=mf,xf:=xf,ms:=ms,xs:=xs,pr:=pr,sc:=sc,inc:=inc,ps:=ps,me:=me,px:=px }∧w=w∧f=f∧e=e∧pt=pt∧sci=sci∧mi=Num.mi { mi:=mi,xi:=xi,mf:=mf,xf:=xf,ms:=ms,xs:=xs,pr:=pr,sc:=sc,inc:=inc,ps:=ps,me:=me,px:=px }∧xi=Num.xi { mi:=mi,xi:=xi,mf:=mf,xf:=xf,ms:=ms,xs:=xs,pr:=pr,sc:=sc,inc:=inc,ps:=ps,me:=me,px:=px }∧mf=Num.mf { mi:=mi,xi:=xi,mf:=mf,xf:=xf,ms:=ms,xs:=xs,pr:=pr,sc:=sc,inc:=inc,ps:=ps,me:=me,px:=px }∧xf=Num.xf { mi:=mi,xi:=xi,mf:=mf,xf:=xf,ms:=ms,xs:=xs,pr:=pr,sc:=sc,inc:=inc,ps:=ps,me:=me,px:=px }∧ms=Num.ms { mi:=mi,xi:=xi,mf:=mf,xf:=xf,ms:=ms,xs:=xs,pr:=pr,sc:=sc,inc:=inc,ps:=ps,me:=me,px:=px }∧xs=Num.xs { mi:=mi,xi:=xi,mf:=mf,xf:=xf,ms:=ms,xs:=xs,pr:=pr,sc:=sc,inc:=inc,ps:=ps,me:=me,px:=px }∧pr=Num.pr { mi:=mi,xi:=xi,mf:=mf,xf:=xf,ms:=ms,xs:=xs,pr:=pr,sc:=sc,inc:=inc,ps:=ps,me:=me,px:=px }∧sc=Num.sc { mi:=mi,xi:=xi,mf:=mf,xf:=xf,ms:=ms,xs:=xs,pr:=pr,sc:=sc,inc:=inc,ps:=ps,me:=me,px:=px }∧inc=Num.inc { mi:=mi,xi:=xi,mf:=mf,xf:=xf,ms:=ms,xs:=xs,pr:=pr,sc:=sc,inc:=inc,ps:=ps,me:=me,px:=px }∧ps=Num.ps { mi:=mi,xi:=xi,mf:=mf,xf:=xf,ms:=ms,xs:=xs,pr:=pr,sc:=sc,inc:=inc,ps:=ps,me:=me,px:=px }∧me=Num.me { mi:=mi,xi:=xi,mf:=mf,xf:=xf,ms:=ms,xs:=xs,pr:=pr,sc:=sc,inc:=inc,ps:=ps,me:=me,px:=px }∧px=Num.px { mi:=mi,xi:=xi,mf:=mf,xf:=xf,ms:=ms,xs:=xs,pr:=pr,sc:=sc,inc:=inc,ps:=ps,me:=me,px:=px }∧(0:Int)=(0:Int)∧(0:Int)=(0:Int)∧(0:Int)=(0:Int)) ((0:Int)=mixedT w sci { mi:=mi,xi:=xi,mf:=mf,xf:=xf,ms:=ms,xs:=xs,pr:=pr,sc:=sc,inc:=inc,ps:=ps,me:=me,px:=px }∧w=w∧f=f∧e=e∧pt=pt∧sci=sci∧mi=Num.mi { mi:=mi,xi:=xi,mf:=mf,xf:=xf,ms:=ms,xs:=xs,pr:=pr,sc:=sc,inc:=inc,ps:=ps,me:=me,px:=px }∧xi=Num.xi { mi:=mi,xi:=xi,mf:=mf,xf:=xf,ms:=ms,xs:=xs,pr:=pr,sc:=sc,inc:=inc,ps:=ps,me:=me,px:=px }∧mf=Num.mf { mi:=mi,xi:=xi,mf:=mf,xf:=xf,ms:=ms,xs:=xs,pr:=pr,sc:=sc,inc:=inc,ps:=ps,me:=me,px:=px }∧xf=Num.xf { mi:=mi,xi:=xi,mf:=mf,xf:=xf,ms:=ms,xs:=xs,pr:=pr,sc:=sc,inc:=inc,ps:=ps,me:=me,px:=px }∧ms=Num.ms { mi:=mi,xi:=xi,mf:=mf,xf:=xf,ms:=ms,xs:=xs,pr:=pr,sc:=sc,inc:=inc,ps:=ps,me:=me,px:=px }∧xs=Num.xs { mi:=mi,xi:=xi,mf:=mf,xf:=xf,ms:=ms,xs:=xs,pr:=pr,sc:=sc,inc:=inc,ps:=ps,me:=me,px:=px }∧pr=Num.pr { mi:=mi,xi:=xi,mf:=mf,xf:=xf,ms:=ms,xs:=xs,pr:=pr,sc:=sc,inc:=inc,ps:=ps,me:=me,px:=px }∧sc=Num.sc { mi:=mi,xi:=xi,mf:=mf,xf:=xf,ms:=ms,xs:=xs,pr:=pr,sc:=sc,inc:=inc,ps:=ps,me:=me,px:=px }∧inc=Num.inc { mi:=mi,xi:=xi,mf:=mf,xf:=xf,ms:=ms,xs:=xs,pr:=pr,sc:=sc,inc:=inc,ps:=ps,me:=me,px:=px }∧ps=Num.ps { mi:=mi,xi:=xi,mf:=mf,xf:=xf,ms:=ms,xs:=xs,pr:=pr,sc:=sc,inc:=inc,ps:=ps,me:=me,px:=px }∧me=Num.me { mi:=mi,xi:=xi,mf:=mf,xf:=xf,ms:=ms,xs:=xs,pr:=pr,sc:=sc,inc:=inc,ps:=ps,me:=me,px:=px }∧px=Num.px { mi:=mi,xi:=xi,mf:=mf,xf:=xf,ms:=ms,xs:=xs,pr:=pr,sc:=sc,inc:=inc,ps:=ps,me:=me,px:=px }∧(0:Int)=(0:Int)∧(0:Int)=(0:Int)∧(0:Int)=(0:Int))); letI v1:=((6:Int)=mixedT w sci { mi:=mi,xi:=xi,mf:=mf,xf:=xf,ms:=ms,xs:=xs,pr:=pr,sc:=sc,inc:=inc,ps:=ps,me:=me,px:=px }∧w=w∧f=f∧e=e∧pt=pt∧sci=sci∧mi=Num.mi { mi:=mi,xi:=xi,mf:=mf,xf:=xf,ms:=ms,xs:=xs,pr:=pr,sc:=sc,inc:=inc,ps:=ps,me:=me,px:=px }∧xi=Num.xi { mi:=mi,xi:=xi,mf:=mf,xf:=xf,ms:=ms,xs:=xs,pr:=pr,sc:=sc,inc:=inc,ps:=ps,me:=me,px:=px }∧mf=Num.mf { mi:=mi,xi:=xi,mf:=mf,xf:=xf,ms:=ms,xs:=xs,pr:=pr,sc:=sc,inc:=inc,ps:=ps,me:=me,px:=px }∧xf=Num.xf { mi:=mi,xi:=xi,mf:=mf,xf:=xf,ms:=ms,xs:=xs,pr:=pr,sc:=sc,inc:=inc,ps:=ps,me:=me,px:=px }∧ms=Num.ms { mi:=mi,xi:=xi,mf:=mf,xf:=xf,ms:=ms,xs:=xs,pr:=pr,sc:=sc,inc:=inc,ps:=ps,me:=me,px:=px }∧xs=Num.xs { mi:=mi,xi:=xi,mf:=mf,xf:=xf,ms:=ms,xs:=xs,pr:=pr,sc:=sc,inc:=inc,ps:=ps,me:=me,px:=px }∧pr=Num.pr { mi:=mi,xi:=xi,mf:=mf,xf:=xf,ms:=ms,xs:=xs,pr:=pr,sc:=sc,inc:=inc,ps:=ps,me:=me,px:=px }∧sc=Num.sc { mi:=mi,xi:=xi,mf:=mf,xf:=xf,ms:=ms,xs:=xs,pr:=pr,sc:=sc,inc:=inc,ps:=ps,me:=me,px:=px }∧inc=Num.inc { mi:=mi,xi:=xi,mf:=mf,xf:=xf,ms:=ms,xs:=xs,pr:=pr,sc:=sc,inc:=inc,ps:=ps,me:=me,px:=px }∧ps=Num.ps { mi:=mi,xi:=xi,mf:=mf,xf:=xf,ms:=ms,xs:=xs,pr:=pr,sc:=sc,inc:=inc,ps:=ps,me:=me,px:=px }∧me=Num.me { mi:=mi,xi:=xi,mf:=mf,xf:=xf,ms:=ms,xs:=xs,pr:=pr,sc:=sc,inc:=inc,ps:=ps,me:=me,px:=px }∧px=Num.px { mi:=mi,xi:=xi,mf:=mf,xf:=xf,ms:=ms,xs:=xs,pr:=pr,sc:=sc,inc:=inc,ps:=ps,me:=me,px:=px }∧(0:Int)=(0:Int)∧(0:Int)=(0:Int)∧(0:Int)=(0:Int)); (br sci (br (decide (pr>(0:Int))) v1 (br (decide (ms>(0:Int))) (((0:Int)≤(0:Int)∧(0:Int)<(↑(List.length w):Int))∧br (bAt w (0:Int)==(35:Int)) v1 v0) v0)) v0)):=by kernel_rfl
set_option maxHeartbeats 4000000 in
theorem of_rmixed (h:∀ (w f e:List UInt8) (pt sci:Bool) (mi xi mf xf ms xs pr sc:Int) (inc:List UInt8) (ps:Bool) (me:Int) (px:Bool),(0<ms→w≠[])→vcA [] [] misc Tryz.f97 (.nil) [.one (.ptr 0 0)] [(0,some (.cells 139 [.str w,.str f,.str e,.bool pt,.bool sci,.nils,.nils,.ff,.nils,.nils,.int .i64 mi,.int .i64 xi,.int .i64 mf,.int .i64 xf,.int .i64 ms,.int .i64 xs,.int .i64 pr,.int .i64 sc,.str inc,.bool ps,.int .i64 me,.bool px,.int .i64 0,.int .i32 0,.int .i64 0]))] (.one (.int .i64 (mixedT w sci (⟨mi,xi,mf,xf,ms,xs,pr,sc,inc,ps,me,px⟩:Num)))) [(0,some (.cells 139 (rdC w f e pt sci (⟨mi,xi,mf,xf,ms,xs,pr,sc,inc,ps,me,px⟩:Num))))]):FnA 97 sp_rmixed:=by
 refine fnA_ok (cs:=[]) (cas:=[]) (ms:=misc) .nil .nil misc_ok 97 Tryz.f97 (by kernel_rfl) (by kernel_rfl) (by kernel_rfl) (fun _ _=>.nil) ?_
 intro args mem p r post hs hp
 unfold sp_rmixed at hs
 simp only at hs
 split at hs
 ·rename_i w f e pt sci mi xi mf xf ms xs pr sc inc ps me px
  cases hs
  refine h w f e pt sci mi xi mf xf ms xs pr sc inc ps me px ?_
  ·exact hp
 ·cases hs
theorem max7 (a b c d e f g:Int):List.foldl (mnx true) a [b,c,d,e,f,g]=max a (max b (max c (max d (max e (max f g))))):=by
 simp only [List.foldl,mnx]
 simp
 omega
theorem ok_rmixed:FnA 97 sp_rmixed:=of_rmixed (by
 intro w f e pt sci mi xi mf xf ms xs pr sc inc ps me px hw
 rw [vc_rmixed,max7]
 have six:(sci=true∧(0<pr∨0<ms∧bAt w 0=35))→mixedT w sci (⟨mi,xi,mf,xf,ms,xs,pr,sc,inc,ps,me,px⟩:Num)=6:=fun h=>by unfold mixedT; rw [if_pos h]
 have eight:¬ (sci=true∧(0<pr∨0<ms∧bAt w 0=35))→decide (max mi (max xi (max xf (max xs (max pr (max sc (inc.length:Int))))))>40)=true→mixedT w sci (⟨mi,xi,mf,xf,ms,xs,pr,sc,inc,ps,me,px⟩:Num)=8:=fun h h1=>by unfold mixedT; rw [if_neg h,if_pos (of_decide_eq_true h1)]
 have nought:¬ (sci=true∧(0<pr∨0<ms∧bAt w 0=35))→decide (max mi (max xi (max xf (max xs (max pr (max sc (inc.length:Int))))))>40)=false→mixedT w sci (⟨mi,xi,mf,xf,ms,xs,pr,sc,inc,ps,me,px⟩:Num)=0:=fun h h1=>by unfold mixedT; rw [if_neg h,if_neg (of_decide_eq_false h1)]
 refine br_of (fun h=>br_of (fun h1=>?_) fun h1=>br_of (fun h2=>⟨?_,br_of (fun h3=>?_) fun h3=>br_of (fun h4=>?_) fun h4=>?_⟩) fun h2=>br_of (fun h4=>?_) fun h4=>?_) fun h=>br_of (fun h4=>?_) fun h4=>?_
 ·rw [six ⟨h,.inl (of_decide_eq_true h1)⟩]; and_intros<;>rfl
 ·have:=List.length_pos_iff.2 (hw (of_decide_eq_true h2))
  exact ⟨by decide,by omega⟩
 ·rw [six ⟨h,.inr ⟨of_decide_eq_true h2,eq_of_beq h3⟩⟩]; and_intros<;>rfl
 ·rw [eight (fun h5=>h5.2.elim (of_decide_eq_false h1) (fun h6=>by rw [h6.2] at h3; cases h3)) h4]; and_intros<;>rfl
 ·rw [nought (fun h5=>h5.2.elim (of_decide_eq_false h1) (fun h6=>by rw [h6.2] at h3; cases h3)) h4]; and_intros<;>rfl
 ·rw [eight (fun h5=>h5.2.elim (of_decide_eq_false h1) (fun h6=>of_decide_eq_false h2 h6.1)) h4]; and_intros<;>rfl
 ·rw [nought (fun h5=>h5.2.elim (of_decide_eq_false h1) (fun h6=>of_decide_eq_false h2 h6.1)) h4]; and_intros<;>rfl
 ·rw [eight (fun h5=>by rw [h] at h5; cases h5.1) h4]; and_intros<;>rfl
 ·rw [nought (fun h5=>by rw [h] at h5; cases h5.1) h4]; and_intros<;>rfl)
end Go.Proofs.YtglfkihckkjniaaGreatDoor.Vx
namespace Go.Proofs.YtglfkihckkjniaaGreatDoor.Vx
open Go Go.RowKit
def z0:Num:=⟨0,0,0,0,0,0,0,0,[],false,0,false⟩
structure RS where
 c:Int
 w:List UInt8
 f:List UInt8
 pt:Bool
 p:Num
def numB (s:List UInt8):List UInt8:=(Lib.cut s [69]).1
def numX (s:List UInt8):List UInt8:=(Lib.cut s [69]).2.1
def numS (s:List UInt8):Bool:=(Lib.cut s [69]).2.2
def rs1 (s:List UInt8):RS:=⟨(expT (numX s) (numS s) z0).1,[],[],false,(expT (numX s) (numS s) z0).2⟩
def rs2 (s:List UInt8):RS:=if (rs1 s).c=0 then ⟨(partsT (numB s) [] [] false).1,(partsT (numB s) [] [] false).2.1,(partsT (numB s) [] [] false).2.2.1,(partsT (numB s) [] [] false).2.2.2,(rs1 s).p⟩ else rs1 s
def rs3 (s:List UInt8):RS:=if (rs2 s).c=0 then ⟨(groupsT (rs2 s).w (rs2 s).f (rs2 s).p).1,(groupsT (rs2 s).w (rs2 s).f (rs2 s).p).2.1,(rs2 s).f,(rs2 s).pt,(groupsT (rs2 s).w (rs2 s).f (rs2 s).p).2.2⟩ else rs2 s
def rs4 (s:List UInt8):RS:=if (rs3 s).c=0 then ⟨(countsT (rs3 s).w (rs3 s).f (rs3 s).pt (numS s) (rs3 s).p).1,(rs3 s).w,(rs3 s).f,(rs3 s).pt,(countsT (rs3 s).w (rs3 s).f (rs3 s).pt (numS s) (rs3 s).p).2⟩ else rs3 s
def rs5 (s:List UInt8):RS:=if (rs4 s).c=0 then ⟨mixedT (rs4 s).w (numS s) (rs4 s).p,(rs4 s).w,(rs4 s).f,(rs4 s).pt,(rs4 s).p⟩ else rs4 s
def rsN (s:List UInt8):Nat→RS
 | 0=>rs2 s
 | 1=>rs3 s
 | 2=>rs4 s
 | _=>rs5 s
def numT (s:List UInt8):Num×Int:=if (rs5 s).c=0 then ((rs5 s).p,0) else (z0,(rs5 s).c)
def Num.pcs (p:Num):List Pc:=[.rd (.items []),.rd (.items []),.bool false,.rd (.items []),.rd (.items []),.int .i64 p.mi,.int .i64 p.xi,.int .i64 p.mf,.int .i64 p.xf,.int .i64 p.ms,.int .i64 p.xs,.int .i64 p.pr,.int .i64 p.sc,.str p.inc,.bool p.ps,.int .i64 p.me,.bool p.px,.int .i64 0,.int .i32 0,.int .i64 0]
def RS.mem (r:RS) (s:List UInt8):List (Nat×Option SB):=[(16,some (.cells 139 (rdC r.w r.f (numX s) r.pt (numS s) r.p))),(17,some (.cells 25 z0.sc'))]
def ann10 (s:List UInt8):Ann :=
 .cut 3 Unit (fun _=>⟨[(0,.one (.str (numB s))),(2,.one (.ptr 17 0)),(4,.one (.ptr 16 0))],(⟨0,[],[],false,z0⟩:RS).mem s,18⟩)
  (fun _=>.cut 4 Unit (fun _=>⟨[(0,.one (.str (numB s))),(2,.one (.ptr 17 0)),(4,.one (.ptr 16 0)),(5,.one (.int .i64 (rs1 s).c))],(rs1 s).mem s,18⟩)
   (fun _=>.cut 6 Unit (fun _=>⟨[(2,.one (.ptr 17 0)),(4,.one (.ptr 16 0)),(5,.one (.int .i64 (rs2 s).c))],(rs2 s).mem s,18⟩)
    (fun _=>.turns 7 4 (fun i=>.cut 11 Unit (fun _=>⟨[(2,.one (.ptr 17 0)),(4,.one (.ptr 16 0)),(5,.one (.int .i64 (rsN s (i+1)).c)),(29,.one (.slc 18)),(30,.one (.int .i64 3)),(31,.one (.int .i64 i))],(rsN s (i+1)).mem s++[(18,some (.lit 143 3 [.fn 95 [],.fn 96 [],.fn 97 []]))],19⟩) (fun _=>.nil) .nil)
     .nil) .nil) .nil) .nil
def sp_nparse:FSpec:=⟨[],fun | [.one (.str s)]=>some ([Asc s,s.length≤100000000],.tup [(true,(numT s).1.pcs),(false,[.int .i64 (numT s).2])]) | _=>none⟩
theorem vc_nparse (s:List UInt8):vcP [(92,sp_scut)] [(93,sp_rexp),(94,sp_rparts),(95,sp_rgroups),(96,sp_rcounts),(97,sp_rmixed)] misc Tryz.f67 (ann10 s) [.one (.str s)] (.tup [(true,(numT s).1.pcs),(false,[.int .i64 (numT s).2])])=(letI v0:=(countsT (RS.w (rsN s ((0:Nat)+(1:Nat)))) (RS.f (rsN s ((0:Nat)+(1:Nat)))) (RS.pt (rsN s ((0:Nat)+(1:Nat)))) (numS s) { mi:=Num.mi (RS.p (rsN s ((0:Nat)+(1:Nat)))),xi:=Num.xi (RS.p (rsN s ((0:Nat)+(1:Nat)))),mf:=Num.mf (RS.p (rsN s ((0:Nat)+(1:Nat)))),xf:=Num.xf (RS.p (rsN s ((0:Nat)+(1:Nat)))),ms:=Num.ms (RS.p (rsN s ((0:Nat)+(1:Nat)))),xs:=Num.xs (RS.p (rsN s ((0:Nat)+(1:Nat)))),pr:=Num.pr (RS.p (rsN s ((0:Nat)+(1:Nat)))),sc:=Num.sc (RS.p (rsN s ((0:Nat)+(1:Nat)))),inc:=Num.inc (RS.p (rsN s ((0:Nat)+(1:Nat)))),ps:=Num.ps (RS.p (rsN s ((0:Nat)+(1:Nat)))),me:=Num.me (RS.p (rsN s ((0:Nat)+(1:Nat)))),px:=Num.px (RS.p (rsN s ((0:Nat)+(1:Nat)))) }); letI v1:=(RS.p (rsN s ((0:Nat)+(1:Nat)+(1:Nat)))); letI v2:=(groupsT (RS.w (rs2 s)) (RS.f (rs2 s)) { mi:=Num.mi (RS.p (rs2 s)),xi:=Num.xi (RS.p (rs2 s)),mf:=Num.mf (RS.p (rs2 s)),xf:=Num.xf (RS.p (rs2 s)),ms:=Num.ms (RS.p (rs2 s)),xs:=Num.xs (RS.p (rs2 s)),pr:=Num.pr (RS.p (rs2 s)),sc:=Num.sc (RS.p (rs2 s)),inc:=Num.inc (RS.p (rs2 s)),ps:=Num.ps (RS.p (rs2 s)),me:=Num.me (RS.p (rs2 s)),px:=Num.px (RS.p (rs2 s)) }); letI v3:=(rsN s ((0:Nat)+(1:Nat)+(1:Nat)+(1:Nat))); letI v4:=(rsN s ((0:Nat)+(1:Nat))); letI v5:=(rsN s ((0:Nat)+(1:Nat)+(1:Nat))); letI v6:=(partsT (numB s) (RS.w (rs1 s)) (RS.f (rs1 s)) (RS.pt (rs1 s))); letI v7:=(↑((0:Nat)+(1:Nat)):Int); letI v8:=(↑((0:Nat)+(1:Nat)+(1:Nat)):Int); letI v9:=(Lib.cut s (([(69:UInt8)]:List UInt8))); ((List.length s≤(1000000000:Nat)∧∃ (j:Unit),(letI v10:=(RS.p { c:=(0:Int),w:=[],f:=[],pt:=false,p:=z0 }); v9.1=numB s∧([]=RS.w { c:=(0:Int),w:=[],f:=[],pt:=false,p:=z0 }∧[]=RS.f { c:=(0:Int),w:=[],f:=[],pt:=false,p:=z0 }∧v9.2.1=numX s∧false=RS.pt { c:=(0:Int),w:=[],f:=[],pt:=false,p:=z0 }∧v9.2.2=numS s∧(0:Int)=Num.mi v10∧(0:Int)=Num.xi v10∧(0:Int)=Num.mf v10∧(0:Int)=Num.xf v10∧(0:Int)=Num.ms v10∧(0:Int)=Num.xs v10∧(0:Int)=Num.pr v10∧(0:Int)=Num.sc v10∧[]=Num.inc v10∧false=Num.ps v10∧(0:Int)=Num.me v10∧false=Num.px v10∧(0:Int)=(0:Int)∧(0:Int)=(0:Int)∧(0:Int)=(0:Int))∧(0:Int)=Num.mi z0∧(0:Int)=Num.xi z0∧(0:Int)=Num.mf z0∧(0:Int)=Num.xf z0∧(0:Int)=Num.ms z0∧(0:Int)=Num.xs z0∧(0:Int)=Num.pr z0∧(0:Int)=Num.sc z0∧[]=Num.inc z0∧false=Num.ps z0∧(0:Int)=Num.me z0∧false=Num.px z0∧(0:Int)=(0:Int)∧(0:Int)=(0:Int)∧(0:Int)=(0:Int)))∧∀ (j:Unit),((∀ (c:UInt8),c∈numX s→UInt8.toNat c<(128:Nat))∧List.length (numX s)≤(1000000000:Nat)∧∃ (j:Unit),(letI v11:=(expT (numX s) (numS s) { mi:=Num.mi (RS.p { c:=(0:Int),w:=[],f:=[],pt:=false,p:=z0 }),xi:=Num.xi (RS.p { c:=(0:Int),w:=[],f:=[],pt:=false,p:=z0 }),mf:=Num.mf (RS.p { c:=(0:Int),w:=[],f:=[],pt:=false,p:=z0 }),xf:=Num.xf (RS.p { c:=(0:Int),w:=[],f:=[],pt:=false,p:=z0 }),ms:=Num.ms (RS.p { c:=(0:Int),w:=[],f:=[],pt:=false,p:=z0 }),xs:=Num.xs (RS.p { c:=(0:Int),w:=[],f:=[],pt:=false,p:=z0 }),pr:=Num.pr (RS.p { c:=(0:Int),w:=[],f:=[],pt:=false,p:=z0 }),sc:=Num.sc (RS.p { c:=(0:Int),w:=[],f:=[],pt:=false,p:=z0 }),inc:=Num.inc (RS.p { c:=(0:Int),w:=[],f:=[],pt:=false,p:=z0 }),ps:=Num.ps (RS.p { c:=(0:Int),w:=[],f:=[],pt:=false,p:=z0 }),me:=Num.me (RS.p { c:=(0:Int),w:=[],f:=[],pt:=false,p:=z0 }),px:=Num.px (RS.p { c:=(0:Int),w:=[],f:=[],pt:=false,p:=z0 }) }); numB s=numB s∧v11.1=RS.c (rs1 s)∧(RS.w { c:=(0:Int),w:=[],f:=[],pt:=false,p:=z0 }=RS.w (rs1 s)∧RS.f { c:=(0:Int),w:=[],f:=[],pt:=false,p:=z0 }=RS.f (rs1 s)∧numX s=numX s∧RS.pt { c:=(0:Int),w:=[],f:=[],pt:=false,p:=z0 }=RS.pt (rs1 s)∧numS s=numS s∧Num.mi v11.2=Num.mi (RS.p (rs1 s))∧Num.xi v11.2=Num.xi (RS.p (rs1 s))∧Num.mf v11.2=Num.mf (RS.p (rs1 s))∧Num.xf v11.2=Num.xf (RS.p (rs1 s))∧Num.ms v11.2=Num.ms (RS.p (rs1 s))∧Num.xs v11.2=Num.xs (RS.p (rs1 s))∧Num.pr v11.2=Num.pr (RS.p (rs1 s))∧Num.sc v11.2=Num.sc (RS.p (rs1 s))∧Num.inc v11.2=Num.inc (RS.p (rs1 s))∧Num.ps v11.2=Num.ps (RS.p (rs1 s))∧Num.me v11.2=Num.me (RS.p (rs1 s))∧Num.px v11.2=Num.px (RS.p (rs1 s))∧(0:Int)=(0:Int)∧(0:Int)=(0:Int)∧(0:Int)=(0:Int))∧Num.mi z0=Num.mi z0∧Num.xi z0=Num.xi z0∧Num.mf z0=Num.mf z0∧Num.xf z0=Num.xf z0∧Num.ms z0=Num.ms z0∧Num.xs z0=Num.xs z0∧Num.pr z0=Num.pr z0∧Num.sc z0=Num.sc z0∧Num.inc z0=Num.inc z0∧Num.ps z0=Num.ps z0∧Num.me z0=Num.me z0∧Num.px z0=Num.px z0∧(0:Int)=(0:Int)∧(0:Int)=(0:Int)∧(0:Int)=(0:Int)))∧∀ (j:Unit),br (RS.c (rs1 s)==(0:Int)) ((∀ (c:UInt8),c∈numB s→UInt8.toNat c<(128:Nat))∧List.length (numB s)≤(1000000000:Nat)∧∃ (j:Unit),v6.1=RS.c (rs2 s)∧(v6.2.1=RS.w (rs2 s)∧v6.2.2.1=RS.f (rs2 s)∧numX s=numX s∧v6.2.2.2=RS.pt (rs2 s)∧numS s=numS s∧Num.mi { mi:=Num.mi (RS.p (rs1 s)),xi:=Num.xi (RS.p (rs1 s)),mf:=Num.mf (RS.p (rs1 s)),xf:=Num.xf (RS.p (rs1 s)),ms:=Num.ms (RS.p (rs1 s)),xs:=Num.xs (RS.p (rs1 s)),pr:=Num.pr (RS.p (rs1 s)),sc:=Num.sc (RS.p (rs1 s)),inc:=Num.inc (RS.p (rs1 s)),ps:=Num.ps (RS.p (rs1 s)),me:=Num.me (RS.p (rs1 s)),px:=Num.px (RS.p (rs1 s)) }=Num.mi (RS.p (rs2 s))∧Num.xi { mi:=Num.mi (RS.p (rs1 s)),xi:=Num.xi (RS.p (rs1 s)),mf:=Num.mf (RS.p (rs1 s)),xf:=Num.xf (RS.p (rs1 s)),ms:=Num.ms (RS.p (rs1 s)),xs:=Num.xs (RS.p (rs1 s)),pr:=Num.pr (RS.p (rs1 s)),sc:=Num.sc (RS.p (rs1 s)),inc:=Num.inc (RS.p (rs1 s)),ps:=Num.ps (RS.p (rs1 s)),me:=Num.me (RS.p (rs1 s)),px:=Num.px (RS.p (rs1 s)) }=Num.xi (RS.p (rs2 s))∧Num.mf { mi:=Num.mi (RS.p (rs1 s)),xi:=Num.xi (RS.p (rs1 s)),mf:=Num.mf (RS.p (rs1 s)),xf:=Num.xf (RS.p (rs1 s)),ms:=Num.ms (RS.p (rs1 s)),xs:=Num.xs (RS.p (rs1 s)),pr:=Num.pr (RS.p (rs1 s)),sc:=Num.sc (RS.p (rs1 s)),inc:=Num.inc (RS.p (rs1 s)),ps:=Num.ps (RS.p (rs1 s)),me:=Num.me (RS.p (rs1 s)),px:=Num.px (RS.p (rs1 s)) }=Num.mf (RS.p (rs2 s))∧Num.xf { mi:=Num.mi (RS.p (rs1 s)),xi:=Num.xi (RS.p (rs1 s)),mf:=Num.mf (RS.p (rs1 s)),xf:=Num.xf (RS.p (rs1 s)),ms:=Num.ms (RS.p (rs1 s)),xs:=Num.xs (RS.p (rs1 s)),pr:=Num.pr (RS.p (rs1 s)),sc:=Num.sc (RS.p (rs1 s)),inc:=Num.inc (RS.p (rs1 s)),ps:=Num.ps (RS.p (rs1 s)),me:=Num.me (RS.p (rs1 s)),px:=Num.px (RS.p (rs1 s)) }=Num.xf (RS.p (rs2 s))∧Num.ms { mi:=Num.mi (RS.p (rs1 s)),xi:=Num.xi (RS.p (rs1 s)),mf:=Num.mf (RS.p (rs1 s)),xf:=Num.xf (RS.p (rs1 s)),ms:=Num.ms (RS.p (rs1 s)),xs:=Num.xs (RS.p (rs1 s)),pr:=Num.pr (RS.p (rs1 s)),sc:=Num.sc (RS.p (rs1 s)),inc:=Num.inc (RS.p (rs1 s)),ps:=Num.ps (RS.p (rs1 s)),me:=Num.me (RS.p (rs1 s)),px:=Num.px (RS.p (rs1 s)) }=Num.ms (RS.p (rs2 s))∧Num.xs { mi:=Num.mi (RS.p (rs1 s)),xi:=Num.xi (RS.p (rs1 s)),mf:=Num.mf (RS.p (rs1 s)),xf:=Num.xf (RS.p (rs1 s)),ms:=Num.ms (RS.p (rs1 s)),xs:=Num.xs (RS.p (rs1 s)),pr:=Num.pr (RS.p (rs1 s)),sc:=Num.sc (RS.p (rs1 s)),inc:=Num.inc (RS.p (rs1 s)),ps:=Num.ps (RS.p (rs1 s)),me:=Num.me (RS.p (rs1 s)),px:=Num.px (RS.p (rs1 s)) }=Num.xs (RS.p (rs2 s))∧Num.pr { mi:=Num.mi (RS.p (rs1 s)),xi:=Num.xi (RS.p (rs1 s)),mf:=Num.mf (RS.p (rs1 s)),xf:=Num.xf (RS.p (rs1 s)),ms:=Num.ms (RS.p (rs1 s)),xs:=Num.xs (RS.p (rs1 s)),pr:=Num.pr (RS.p (rs1 s)),sc:=Num.sc (RS.p (rs1 s)),inc:=Num.inc (RS.p (rs1 s)),ps:=Num.ps (RS.p (rs1 s)),me:=Num.me (RS.p (rs1 s)),px:=Num.px (RS.p (rs1 s)) }=Num.pr (RS.p (rs2 s))∧Num.sc { mi:=Num.mi (RS.p (rs1 s)),xi:=Num.xi (RS.p (rs1 s)),mf:=Num.mf (RS.p (rs1 s)),xf:=Num.xf (RS.p (rs1 s)),ms:=Num.ms (RS.p (rs1 s)),xs:=Num.xs (RS.p (rs1 s)),pr:=Num.pr (RS.p (rs1 s)),sc:=Num.sc (RS.p (rs1 s)),inc:=Num.inc (RS.p (rs1 s)),ps:=Num.ps (RS.p (rs1 s)),me:=Num.me (RS.p (rs1 s)),px:=Num.px (RS.p (rs1 s)) }=Num.sc (RS.p (rs2 s))∧Num.inc { mi:=Num.mi (RS.p (rs1 s)),xi:=Num.xi (RS.p (rs1 s)),mf:=Num.mf (RS.p (rs1 s)),xf:=Num.xf (RS.p (rs1 s)),ms:=Num.ms (RS.p (rs1 s)),xs:=Num.xs (RS.p (rs1 s)),pr:=Num.pr (RS.p (rs1 s)),sc:=Num.sc (RS.p (rs1 s)),inc:=Num.inc (RS.p (rs1 s)),ps:=Num.ps (RS.p (rs1 s)),me:=Num.me (RS.p (rs1 s)),px:=Num.px (RS.p (rs1 s)) }=Num.inc (RS.p (rs2 s))∧Num.ps { mi:=Num.mi (RS.p (rs1 s)),xi:=Num.xi (RS.p (rs1 s)),mf:=Num.mf (RS.p (rs1 s)),xf:=Num.xf (RS.p (rs1 s)),ms:=Num.ms (RS.p (rs1 s)),xs:=Num.xs (RS.p (rs1 s)),pr:=Num.pr (RS.p (rs1 s)),sc:=Num.sc (RS.p (rs1 s)),inc:=Num.inc (RS.p (rs1 s)),ps:=Num.ps (RS.p (rs1 s)),me:=Num.me (RS.p (rs1 s)),px:=Num.px (RS.p (rs1 s)) }=Num.ps (RS.p (rs2 s))∧Num.me { mi:=Num.mi (RS.p (rs1 s)),xi:=Num.xi (RS.p (rs1 s)),mf:=Num.mf (RS.p (rs1 s)),xf:=Num.xf (RS.p (rs1 s)),ms:=Num.ms (RS.p (rs1 s)),xs:=Num.xs (RS.p (rs1 s)),pr:=Num.pr (RS.p (rs1 s)),sc:=Num.sc (RS.p (rs1 s)),inc:=Num.inc (RS.p (rs1 s)),ps:=Num.ps (RS.p (rs1 s)),me:=Num.me (RS.p (rs1 s)),px:=Num.px (RS.p (rs1 s)) }=Num.me (RS.p (rs2 s))∧Num.px { mi:=Num.mi (RS.p (rs1 s)),xi:=Num.xi (RS.p (rs1 s)),mf:=Num.mf (RS.p (rs1 s)),xf:=Num.xf (RS.p (rs1 s)),ms:=Num.ms (RS.p (rs1 s)),xs:=Num.xs (RS.p (rs1 s)),pr:=Num.pr (RS.p (rs1 s)),sc:=Num.sc (RS.p (rs1 s)),inc:=Num.inc (RS.p (rs1 s)),ps:=Num.ps (RS.p (rs1 s)),me:=Num.me (RS.p (rs1 s)),px:=Num.px (RS.p (rs1 s)) }=Num.px (RS.p (rs2 s))∧(0:Int)=(0:Int)∧(0:Int)=(0:Int)∧(0:Int)=(0:Int))∧Num.mi z0=Num.mi z0∧Num.xi z0=Num.xi z0∧Num.mf z0=Num.mf z0∧Num.xf z0=Num.xf z0∧Num.ms z0=Num.ms z0∧Num.xs z0=Num.xs z0∧Num.pr z0=Num.pr z0∧Num.sc z0=Num.sc z0∧Num.inc z0=Num.inc z0∧Num.ps z0=Num.ps z0∧Num.me z0=Num.me z0∧Num.px z0=Num.px z0∧(0:Int)=(0:Int)∧(0:Int)=(0:Int)∧(0:Int)=(0:Int)) (∃ (j:Unit),RS.c (rs1 s)=RS.c (rs2 s)∧(RS.w (rs1 s)=RS.w (rs2 s)∧RS.f (rs1 s)=RS.f (rs2 s)∧numX s=numX s∧RS.pt (rs1 s)=RS.pt (rs2 s)∧numS s=numS s∧Num.mi (RS.p (rs1 s))=Num.mi (RS.p (rs2 s))∧Num.xi (RS.p (rs1 s))=Num.xi (RS.p (rs2 s))∧Num.mf (RS.p (rs1 s))=Num.mf (RS.p (rs2 s))∧Num.xf (RS.p (rs1 s))=Num.xf (RS.p (rs2 s))∧Num.ms (RS.p (rs1 s))=Num.ms (RS.p (rs2 s))∧Num.xs (RS.p (rs1 s))=Num.xs (RS.p (rs2 s))∧Num.pr (RS.p (rs1 s))=Num.pr (RS.p (rs2 s))∧Num.sc (RS.p (rs1 s))=Num.sc (RS.p (rs2 s))∧Num.inc (RS.p (rs1 s))=Num.inc (RS.p (rs2 s))∧Num.ps (RS.p (rs1 s))=Num.ps (RS.p (rs2 s))∧Num.me (RS.p (rs1 s))=Num.me (RS.p (rs2 s))∧Num.px (RS.p (rs1 s))=Num.px (RS.p (rs2 s))∧(0:Int)=(0:Int)∧(0:Int)=(0:Int)∧(0:Int)=(0:Int))∧Num.mi z0=Num.mi z0∧Num.xi z0=Num.xi z0∧Num.mf z0=Num.mf z0∧Num.xf z0=Num.xf z0∧Num.ms z0=Num.ms z0∧Num.xs z0=Num.xs z0∧Num.pr z0=Num.pr z0∧Num.sc z0=Num.sc z0∧Num.inc z0=Num.inc z0∧Num.ps z0=Num.ps z0∧Num.me z0=Num.me z0∧Num.px z0=Num.px z0∧(0:Int)=(0:Int)∧(0:Int)=(0:Int)∧(0:Int)=(0:Int))∧∀ (j:Unit),(((0:Int)≤(0:Int)∧(0:Int)<(↑(3:Nat):Int))∧br (RS.c (rs2 s)==(0:Int)) (List.length (RS.w (rs2 s))≤(100000000:Nat)∧∃ (j:Unit),v2.1=RS.c v4∧(↑(3:Nat):Int)=(3:Int)∧(0:Int)=(↑(0:Nat):Int)∧(v2.2.1=RS.w v4∧RS.f (rs2 s)=RS.f v4∧numX s=numX s∧RS.pt (rs2 s)=RS.pt v4∧numS s=numS s∧Num.mi v2.2.2=Num.mi (RS.p v4)∧Num.xi v2.2.2=Num.xi (RS.p v4)∧Num.mf v2.2.2=Num.mf (RS.p v4)∧Num.xf v2.2.2=Num.xf (RS.p v4)∧Num.ms v2.2.2=Num.ms (RS.p v4)∧Num.xs v2.2.2=Num.xs (RS.p v4)∧Num.pr v2.2.2=Num.pr (RS.p v4)∧Num.sc v2.2.2=Num.sc (RS.p v4)∧Num.inc v2.2.2=Num.inc (RS.p v4)∧Num.ps v2.2.2=Num.ps (RS.p v4)∧Num.me v2.2.2=Num.me (RS.p v4)∧Num.px v2.2.2=Num.px (RS.p v4)∧(0:Int)=(0:Int)∧(0:Int)=(0:Int)∧(0:Int)=(0:Int))∧Num.mi z0=Num.mi z0∧Num.xi z0=Num.xi z0∧Num.mf z0=Num.mf z0∧Num.xf z0=Num.xf z0∧Num.ms z0=Num.ms z0∧Num.xs z0=Num.xs z0∧Num.pr z0=Num.pr z0∧Num.sc z0=Num.sc z0∧Num.inc z0=Num.inc z0∧Num.ps z0=Num.ps z0∧Num.me z0=Num.me z0∧Num.px z0=Num.px z0∧(0:Int)=(0:Int)∧(0:Int)=(0:Int)∧(0:Int)=(0:Int)) (∃ (j:Unit),RS.c (rs2 s)=RS.c v4∧(↑(3:Nat):Int)=(3:Int)∧(0:Int)=(↑(0:Nat):Int)∧(RS.w (rs2 s)=RS.w v4∧RS.f (rs2 s)=RS.f v4∧numX s=numX s∧RS.pt (rs2 s)=RS.pt v4∧numS s=numS s∧Num.mi (RS.p (rs2 s))=Num.mi (RS.p v4)∧Num.xi (RS.p (rs2 s))=Num.xi (RS.p v4)∧Num.mf (RS.p (rs2 s))=Num.mf (RS.p v4)∧Num.xf (RS.p (rs2 s))=Num.xf (RS.p v4)∧Num.ms (RS.p (rs2 s))=Num.ms (RS.p v4)∧Num.xs (RS.p (rs2 s))=Num.xs (RS.p v4)∧Num.pr (RS.p (rs2 s))=Num.pr (RS.p v4)∧Num.sc (RS.p (rs2 s))=Num.sc (RS.p v4)∧Num.inc (RS.p (rs2 s))=Num.inc (RS.p v4)∧Num.ps (RS.p (rs2 s))=Num.ps (RS.p v4)∧Num.me (RS.p (rs2 s))=Num.me (RS.p v4)∧Num.px (RS.p (rs2 s))=Num.px (RS.p v4)∧(0:Int)=(0:Int)∧(0:Int)=(0:Int)∧(0:Int)=(0:Int))∧Num.mi z0=Num.mi z0∧Num.xi z0=Num.xi z0∧Num.mf z0=Num.mf z0∧Num.xf z0=Num.xf z0∧Num.ms z0=Num.ms z0∧Num.xs z0=Num.xs z0∧Num.pr z0=Num.pr z0∧Num.sc z0=Num.sc z0∧Num.inc z0=Num.inc z0∧Num.ps z0=Num.ps z0∧Num.me z0=Num.me z0∧Num.px z0=Num.px z0∧(0:Int)=(0:Int)∧(0:Int)=(0:Int)∧(0:Int)=(0:Int)))∧∀ (j:Unit),inR IntKind.i64 ((↑(0:Nat):Int)+(1:Int))∧(((0:Int)≤(↑(0:Nat):Int)+(1:Int)∧(↑(0:Nat):Int)+(1:Int)<(↑(3:Nat):Int))∧br (RS.c v4==(0:Int)) (((∀ (c:UInt8),c∈RS.w v4→UInt8.toNat c<(128:Nat))∧∀ (c:UInt8),c∈RS.f v4→UInt8.toNat c<(128:Nat))∧(List.length (RS.w v4)≤(100000000:Nat)∧List.length (RS.f v4)≤(100000000:Nat))∧∃ (j:Unit),v0.1=RS.c v5∧(3:Int)=(3:Int)∧(↑(0:Nat):Int)+(1:Int)=v7∧(RS.w v4=RS.w v5∧RS.f v4=RS.f v5∧numX s=numX s∧RS.pt v4=RS.pt v5∧numS s=numS s∧Num.mi v0.2=Num.mi v1∧Num.xi v0.2=Num.xi v1∧Num.mf v0.2=Num.mf v1∧Num.xf v0.2=Num.xf v1∧Num.ms v0.2=Num.ms v1∧Num.xs v0.2=Num.xs v1∧Num.pr v0.2=Num.pr v1∧Num.sc v0.2=Num.sc v1∧Num.inc v0.2=Num.inc v1∧Num.ps v0.2=Num.ps v1∧Num.me v0.2=Num.me v1∧Num.px v0.2=Num.px v1∧(0:Int)=(0:Int)∧(0:Int)=(0:Int)∧(0:Int)=(0:Int))∧Num.mi z0=Num.mi z0∧Num.xi z0=Num.xi z0∧Num.mf z0=Num.mf z0∧Num.xf z0=Num.xf z0∧Num.ms z0=Num.ms z0∧Num.xs z0=Num.xs z0∧Num.pr z0=Num.pr z0∧Num.sc z0=Num.sc z0∧Num.inc z0=Num.inc z0∧Num.ps z0=Num.ps z0∧Num.me z0=Num.me z0∧Num.px z0=Num.px z0∧(0:Int)=(0:Int)∧(0:Int)=(0:Int)∧(0:Int)=(0:Int)) (∃ (j:Unit),RS.c v4=RS.c v5∧(3:Int)=(3:Int)∧(↑(0:Nat):Int)+(1:Int)=v7∧(RS.w v4=RS.w v5∧RS.f v4=RS.f v5∧numX s=numX s∧RS.pt v4=RS.pt v5∧numS s=numS s∧Num.mi (RS.p v4)=Num.mi v1∧Num.xi (RS.p v4)=Num.xi v1∧Num.mf (RS.p v4)=Num.mf v1∧Num.xf (RS.p v4)=Num.xf v1∧Num.ms (RS.p v4)=Num.ms v1∧Num.xs (RS.p v4)=Num.xs v1∧Num.pr (RS.p v4)=Num.pr v1∧Num.sc (RS.p v4)=Num.sc v1∧Num.inc (RS.p v4)=Num.inc v1∧Num.ps (RS.p v4)=Num.ps v1∧Num.me (RS.p v4)=Num.me v1∧Num.px (RS.p v4)=Num.px v1∧(0:Int)=(0:Int)∧(0:Int)=(0:Int)∧(0:Int)=(0:Int))∧Num.mi z0=Num.mi z0∧Num.xi z0=Num.xi z0∧Num.mf z0=Num.mf z0∧Num.xf z0=Num.xf z0∧Num.ms z0=Num.ms z0∧Num.xs z0=Num.xs z0∧Num.pr z0=Num.pr z0∧Num.sc z0=Num.sc z0∧Num.inc z0=Num.inc z0∧Num.ps z0=Num.ps z0∧Num.me z0=Num.me z0∧Num.px z0=Num.px z0∧(0:Int)=(0:Int)∧(0:Int)=(0:Int)∧(0:Int)=(0:Int)))∧∀ (j:Unit),inR IntKind.i64 (v7+(1:Int))∧(((0:Int)≤v7+(1:Int)∧v7+(1:Int)<(↑(3:Nat):Int))∧br (RS.c v5==(0:Int)) (((0:Int)<Num.ms v1→RS.w v5≠[])∧∃ (j:Unit),mixedT (RS.w v5) (numS s) { mi:=Num.mi v1,xi:=Num.xi v1,mf:=Num.mf v1,xf:=Num.xf v1,ms:=Num.ms v1,xs:=Num.xs v1,pr:=Num.pr v1,sc:=Num.sc v1,inc:=Num.inc v1,ps:=Num.ps v1,me:=Num.me v1,px:=Num.px v1 }=RS.c v3∧(3:Int)=(3:Int)∧v7+(1:Int)=v8∧(RS.w v5=RS.w v3∧RS.f v5=RS.f v3∧numX s=numX s∧RS.pt v5=RS.pt v3∧numS s=numS s∧Num.mi { mi:=Num.mi v1,xi:=Num.xi v1,mf:=Num.mf v1,xf:=Num.xf v1,ms:=Num.ms v1,xs:=Num.xs v1,pr:=Num.pr v1,sc:=Num.sc v1,inc:=Num.inc v1,ps:=Num.ps v1,me:=Num.me v1,px:=Num.px v1 }=Num.mi (RS.p v3)∧Num.xi { mi:=Num.mi v1,xi:=Num.xi v1,mf:=Num.mf v1,xf:=Num.xf v1,ms:=Num.ms v1,xs:=Num.xs v1,pr:=Num.pr v1,sc:=Num.sc v1,inc:=Num.inc v1,ps:=Num.ps v1,me:=Num.me v1,px:=Num.px v1 }=Num.xi (RS.p v3)∧Num.mf { mi:=Num.mi v1,xi:=Num.xi v1,mf:=Num.mf v1,xf:=Num.xf v1,ms:=Num.ms v1,xs:=Num.xs v1,pr:=Num.pr v1,sc:=Num.sc v1,inc:=Num.inc v1,ps:=Num.ps v1,me:=Num.me v1,px:=Num.px v1 }=Num.mf (RS.p v3)∧Num.xf { mi:=Num.mi v1,xi:=Num.xi v1,mf:=Num.mf v1,xf:=Num.xf v1,ms:=Num.ms v1,xs:=Num.xs v1,pr:=Num.pr v1,sc:=Num.sc v1,inc:=Num.inc v1,ps:=Num.ps v1,me:=Num.me v1,px:=Num.px v1 }=Num.xf (RS.p v3)∧Num.ms { mi:=Num.mi v1,xi:=Num.xi v1,mf:=Num.mf v1,xf:=Num.xf v1,ms:=Num.ms v1,xs:=Num.xs v1,pr:=Num.pr v1,sc:=Num.sc v1,inc:=Num.inc v1,ps:=Num.ps v1,me:=Num.me v1,px:=Num.px v1 }=Num.ms (RS.p v3)∧Num.xs { mi:=Num.mi v1,xi:=Num.xi v1,mf:=Num.mf v1,xf:=Num.xf v1,ms:=Num.ms v1,xs:=Num.xs v1,pr:=Num.pr v1,sc:=Num.sc v1,inc:=Num.inc v1,ps:=Num.ps v1,me:=Num.me v1,px:=Num.px v1 }=Num.xs (RS.p v3)∧Num.pr { mi:=Num.mi v1,xi:=Num.xi v1,mf:=Num.mf v1,xf:=Num.xf v1,ms:=Num.ms v1,xs:=Num.xs v1,pr:=Num.pr v1,sc:=Num.sc v1,inc:=Num.inc v1,ps:=Num.ps v1,me:=Num.me v1,px:=Num.px v1 }=Num.pr (RS.p v3)∧Num.sc { mi:=Num.mi v1,xi:=Num.xi v1,mf:=Num.mf v1,xf:=Num.xf v1,ms:=Num.ms v1,xs:=Num.xs v1,pr:=Num.pr v1,sc:=Num.sc v1,inc:=Num.inc v1,ps:=Num.ps v1,me:=Num.me v1,px:=Num.px v1 }=Num.sc (RS.p v3)∧Num.inc { mi:=Num.mi v1,xi:=Num.xi v1,mf:=Num.mf v1,xf:=Num.xf v1,ms:=Num.ms v1,xs:=Num.xs v1,pr:=Num.pr v1,sc:=Num.sc v1,inc:=Num.inc v1,ps:=Num.ps v1,me:=Num.me v1,px:=Num.px v1 }=Num.inc (RS.p v3)∧Num.ps { mi:=Num.mi v1,xi:=Num.xi v1,mf:=Num.mf v1,xf:=Num.xf v1,ms:=Num.ms v1,xs:=Num.xs v1,pr:=Num.pr v1,sc:=Num.sc v1,inc:=Num.inc v1,ps:=Num.ps v1,me:=Num.me v1,px:=Num.px v1 }=Num.ps (RS.p v3)∧Num.me { mi:=Num.mi v1,xi:=Num.xi v1,mf:=Num.mf v1,xf:=Num.xf v1,ms:=Num.ms v1,xs:=Num.xs v1,pr:=Num.pr v1,sc:=Num.sc v1,inc:=Num.inc v1,ps:=Num.ps v1,me:=Num.me v1,px:=Num.px v1 }=Num.me (RS.p v3)∧Num.px { mi:=Num.mi v1,xi:=Num.xi v1,mf:=Num.mf v1,xf:=Num.xf v1,ms:=Num.ms v1,xs:=Num.xs v1,pr:=Num.pr v1,sc:=Num.sc v1,inc:=Num.inc v1,ps:=Num.ps v1,me:=Num.me v1,px:=Num.px v1 }=Num.px (RS.p v3)∧(0:Int)=(0:Int)∧(0:Int)=(0:Int)∧(0:Int)=(0:Int))∧Num.mi z0=Num.mi z0∧Num.xi z0=Num.xi z0∧Num.mf z0=Num.mf z0∧Num.xf z0=Num.xf z0∧Num.ms z0=Num.ms z0∧Num.xs z0=Num.xs z0∧Num.pr z0=Num.pr z0∧Num.sc z0=Num.sc z0∧Num.inc z0=Num.inc z0∧Num.ps z0=Num.ps z0∧Num.me z0=Num.me z0∧Num.px z0=Num.px z0∧(0:Int)=(0:Int)∧(0:Int)=(0:Int)∧(0:Int)=(0:Int)) (∃ (j:Unit),RS.c v5=RS.c v3∧(3:Int)=(3:Int)∧v7+(1:Int)=v8∧(RS.w v5=RS.w v3∧RS.f v5=RS.f v3∧numX s=numX s∧RS.pt v5=RS.pt v3∧numS s=numS s∧Num.mi v1=Num.mi (RS.p v3)∧Num.xi v1=Num.xi (RS.p v3)∧Num.mf v1=Num.mf (RS.p v3)∧Num.xf v1=Num.xf (RS.p v3)∧Num.ms v1=Num.ms (RS.p v3)∧Num.xs v1=Num.xs (RS.p v3)∧Num.pr v1=Num.pr (RS.p v3)∧Num.sc v1=Num.sc (RS.p v3)∧Num.inc v1=Num.inc (RS.p v3)∧Num.ps v1=Num.ps (RS.p v3)∧Num.me v1=Num.me (RS.p v3)∧Num.px v1=Num.px (RS.p v3)∧(0:Int)=(0:Int)∧(0:Int)=(0:Int)∧(0:Int)=(0:Int))∧Num.mi z0=Num.mi z0∧Num.xi z0=Num.xi z0∧Num.mf z0=Num.mf z0∧Num.xf z0=Num.xf z0∧Num.ms z0=Num.ms z0∧Num.xs z0=Num.xs z0∧Num.pr z0=Num.pr z0∧Num.sc z0=Num.sc z0∧Num.inc z0=Num.inc z0∧Num.ps z0=Num.ps z0∧Num.me z0=Num.me z0∧Num.px z0=Num.px z0∧(0:Int)=(0:Int)∧(0:Int)=(0:Int)∧(0:Int)=(0:Int)))∧∀ (j:Unit),inR IntKind.i64 (v8+(1:Int))∧br (RS.c v3 != (0:Int)) ((([]:List Itm)=[]∧([]:List Itm)=[]∧false=false∧([]:List Itm)=[]∧([]:List Itm)=[]∧(0:Int)=Num.mi (numT s).1∧(0:Int)=Num.xi (numT s).1∧(0:Int)=Num.mf (numT s).1∧(0:Int)=Num.xf (numT s).1∧(0:Int)=Num.ms (numT s).1∧(0:Int)=Num.xs (numT s).1∧(0:Int)=Num.pr (numT s).1∧(0:Int)=Num.sc (numT s).1∧[]=Num.inc (numT s).1∧false=Num.ps (numT s).1∧(0:Int)=Num.me (numT s).1∧false=Num.px (numT s).1∧(0:Int)=(0:Int)∧(0:Int)=(0:Int)∧(0:Int)=(0:Int))∧RS.c v3=(numT s).2) ((([]:List Itm)=[]∧([]:List Itm)=[]∧false=false∧([]:List Itm)=[]∧([]:List Itm)=[]∧Num.mi (RS.p v3)=Num.mi (numT s).1∧Num.xi (RS.p v3)=Num.xi (numT s).1∧Num.mf (RS.p v3)=Num.mf (numT s).1∧Num.xf (RS.p v3)=Num.xf (numT s).1∧Num.ms (RS.p v3)=Num.ms (numT s).1∧Num.xs (RS.p v3)=Num.xs (numT s).1∧Num.pr (RS.p v3)=Num.pr (numT s).1∧Num.sc (RS.p v3)=Num.sc (numT s).1∧Num.inc (RS.p v3)=Num.inc (numT s).1∧Num.ps (RS.p v3)=Num.ps (numT s).1∧Num.me (RS.p v3)=Num.me (numT s).1∧Num.px (RS.p v3)=Num.px (numT s).1∧(0:Int)=(0:Int)∧(0:Int)=(0:Int)∧(0:Int)=(0:Int))∧(0:Int)=(numT s).2))):=by kernel_rfl
set_option maxHeartbeats 4000000 in
theorem of_nparse (h:∀ (s:List UInt8),(Asc s)→(s.length≤100000000)→vcP [(92,sp_scut)] [(93,sp_rexp),(94,sp_rparts),(95,sp_rgroups),(96,sp_rcounts),(97,sp_rmixed)] misc Tryz.f67 (ann10 s) [.one (.str s)] (.tup [(true,(numT s).1.pcs),(false,[.int .i64 (numT s).2])])):FnP 67 sp_nparse:=by
 refine fnP_ok (cs:=[(92,sp_scut)]) (cas:=[(93,sp_rexp),(94,sp_rparts),(95,sp_rgroups),(96,sp_rcounts),(97,sp_rmixed)]) (ms:=misc) (.cons ok_scut .nil) (.cons ok_rexp (.cons ok_rparts (.cons ok_rgroups (.cons ok_rcounts (.cons ok_rmixed .nil))))) misc_ok 67 Tryz.f67 (by kernel_rfl) (by kernel_rfl) (by kernel_rfl) (fun | [.one (.str s)]=>ann10 s | _=>.nil) ?_
 intro pvs p r hs hp
 unfold sp_nparse at hs
 simp only at hs
 split at hs
 ·rename_i s
  cases hs
  refine h s ?_ ?_
  ·exact hp.1
  ·exact hp.2
 ·cases hs
theorem cutC_sub (k:UInt8) (s:List UInt8):(∀ c∈(cutC k s).1,c∈s)∧(∀ c∈(cutC k s).2.1,c∈s)∧(cutC k s).1.length+(cutC k s).2.1.length≤s.length:=by
 induction s with
 | nil=>exact ⟨fun c h=>h,fun c h=>h,Nat.le_refl _⟩
 | cons x l ih =>
  obtain ⟨h1,h2,h3⟩:=ih
  unfold cutC
  split
  ·exact ⟨fun c h=>(by cases h),fun c h=>List.mem_cons_of_mem _ h,by simp⟩
  ·refine ⟨fun c h=>?_,fun c h=>List.mem_cons_of_mem _ (h2 c h),by simp; omega⟩
   rcases List.mem_cons.1 h with h | h
   ·rw [h]; exact List.mem_cons_self
   ·exact List.mem_cons_of_mem _ (h1 c h)
theorem splitC_sub (k:UInt8) (s:List UInt8):∀ c∈(splitC k s).flatten,c∈s:=by
 induction s with
 | nil=>intro c h; simp [splitC] at h
 | cons x l ih =>
  intro c h
  unfold splitC at h
  split at h
  ·rw [List.flatten_cons,List.nil_append] at h
   exact List.mem_cons_of_mem _ (ih c h)
  ·have hne:=splitC_ne k l
   cases hs:splitC k l with
   | nil=>exact absurd hs hne
   | cons a t =>
    rw [hs] at h ih
    rw [List.flatten_cons] at h ih
    rcases List.mem_append.1 h with h | h
    ·rcases List.mem_cons.1 h with h | h
     ·rw [h]; exact List.mem_cons_self
     ·exact List.mem_cons_of_mem _ (ih c (List.mem_append_left _ h))
    ·exact List.mem_cons_of_mem _ (ih c (List.mem_append_right _ h))
def Sub (t s:List UInt8):Prop:=(∀ c∈t,c∈s)∧t.length≤s.length
theorem Sub.nil (s:List UInt8):Sub [] s:=⟨fun c h=>(by cases h),Nat.zero_le _⟩
theorem Sub.trans {a b c:List UInt8} (h:Sub a b) (k:Sub b c):Sub a c:=⟨fun x hx=>k.1 x (h.1 x hx),Nat.le_trans h.2 k.2⟩
theorem cut_sub (k:UInt8) (s:List UInt8):Sub (Lib.cut s [k]).1 s∧Sub (Lib.cut s [k]).2.1 s:=by
 rw [cut_C]
 obtain ⟨h1,h2,h3⟩:=cutC_sub k s
 exact ⟨⟨h1,by omega⟩,⟨h2,by omega⟩⟩
theorem rs2_sub (s:List UInt8):Sub (rs2 s).w s∧Sub (rs2 s).f s:=by
 have hb:Sub (numB s) s:=(cut_sub 69 s).1
 have hc:=cut_sub 46 (numB s)
 unfold rs2
 split
 ·unfold partsT
  split
  ·exact ⟨Sub.nil s,Sub.nil s⟩
  ·split<;>exact ⟨hc.1.trans hb,hc.2.trans hb⟩
 ·exact ⟨Sub.nil s,Sub.nil s⟩
theorem rs3_sub (s:List UInt8):Sub (rs3 s).w s∧Sub (rs3 s).f s:=by
 obtain ⟨h1,h2⟩:=rs2_sub s
 have h3:Sub (splitC 44 (rs2 s).w).flatten (rs2 s).w:=⟨splitC_sub 44 _,splitC_flat 44 _⟩
 unfold rs3
 split
 ·refine ⟨?_,h2⟩
  show Sub (groupsT _ _ _).2.1 s
  unfold groupsT
  split
  ·exact h1
  ·split
   ·exact h1
   ·exact h3.trans h1
 ·exact ⟨h1,h2⟩
theorem rs1_ms (s:List UInt8):(rs1 s).p.ms=0:=by
 show (expT _ _ _).2.ms=0
 unfold expT
 repeat' split
 all_goals rfl
theorem rs3_ms (s:List UInt8):(rs3 s).p.ms=0:=by
 have h2:(rs2 s).p.ms=0:=by unfold rs2; split<;>exact rs1_ms s
 unfold rs3
 split
 ·show (groupsT _ _ _).2.2.ms=0
  unfold groupsT
  split
  ·exact h2
  ·split
   ·exact h2
   ·show (if _ then _ else _:Num).ms=0
    split<;>exact h2
 ·exact h2
theorem rs4_ms (s:List UInt8):0<(rs4 s).p.ms→(rs4 s).w≠[]:=by
 have h3:=rs3_ms s
 unfold rs4
 split
 ·show 0<(countsT _ _ _ _ _).2.ms→(rs3 s).w≠[]
  unfold countsT
  split
  ·intro h; rw [h3] at h; exact absurd h (by decide)
  ·split
   ·unfold signifT
    split
    ·intro h; rw [h3] at h; exact absurd h (by decide)
    ·split
     ·intro h; rw [h3] at h; exact absurd h (by decide)
     ·intro h h0
      have h:0<span1 (·==64) (dropP (·==35) (rs3 s).w):=h
      rw [h0] at h
      exact absurd h (by decide)
   ·split
    ·intro h; rw [h3] at h; exact absurd h (by decide)
    ·split<;>(intro h; have h:0<(rs3 s).p.ms:=h; rw [h3] at h; exact absurd h (by decide))
 ·intro h; rw [h3] at h; exact absurd h (by decide)
theorem ok_nparse:FnP 67 sp_nparse:=of_nparse (by
 intro s hs hn
 rw [vc_nparse]
 have hB:Sub (numB s) s:=(cut_sub 69 s).1
 have hX:Sub (numX s) s:=(cut_sub 69 s).2
 have asc:∀ {t},Sub t s→Asc t:=fun h c hc=>hs c (h.1 c hc)
 obtain ⟨w2,f2⟩:=rs2_sub s
 obtain ⟨w3,f3⟩:=rs3_sub s
 have lX:=hX.2
 have lB:=hB.2
 have lw2:=w2.2
 have lw3:=w3.2
 have lf3:=f3.2
 have ms4:=rs4_ms s
 refine ⟨⟨by omega,(),by and_intros<;>rfl⟩,fun _=>⟨⟨asc hX,by omega,(),by and_intros<;>rfl⟩,fun _=>⟨br_of (fun h=>⟨asc hB,by omega,(),?_⟩) fun h=>⟨(),?_⟩,fun _=>⟨⟨by decide,br_of (fun h=>⟨by omega,(),?_⟩) fun h=>⟨(),?_⟩⟩,fun _=>⟨by simp only [inR]; omega,⟨by decide,br_of (fun h=>⟨⟨asc w3,asc f3⟩,⟨by show (rs3 s).w.length≤_; omega,by show (rs3 s).f.length≤_; omega⟩,(),?_⟩) fun h=>⟨(),?_⟩⟩,fun _=>⟨by simp only [inR]; omega,⟨by decide,br_of (fun h=>⟨ms4,(),?_⟩) fun h=>⟨(),?_⟩⟩,fun _=>⟨by simp only [inR]; omega,br_of (fun h=>?_) fun h=>?_⟩⟩⟩⟩⟩⟩⟩
 ·have h2:rs2 s=⟨(partsT (numB s) [] [] false).1,(partsT (numB s) [] [] false).2.1,(partsT (numB s) [] [] false).2.2.1,(partsT (numB s) [] [] false).2.2.2,(rs1 s).p⟩:=by unfold rs2; rw [if_pos (eq_of_beq h)]
  rw [h2]; and_intros<;>rfl
 ·have h:¬ (rs1 s).c=0:=by simpa using h
  have h2:rs2 s=rs1 s:=by unfold rs2; rw [if_neg h]
  rw [h2]; and_intros<;>rfl
 ·have h2:rsN s (0+1)=⟨(groupsT (rs2 s).w (rs2 s).f (rs2 s).p).1,(groupsT (rs2 s).w (rs2 s).f (rs2 s).p).2.1,(rs2 s).f,(rs2 s).pt,(groupsT (rs2 s).w (rs2 s).f (rs2 s).p).2.2⟩:=by show rs3 s=_; unfold rs3; rw [if_pos (eq_of_beq h)]
  rw [h2]; and_intros<;>rfl
 ·have h:¬ (rs2 s).c=0:=by simpa using h
  have h2:rsN s (0+1)=rs2 s:=by show rs3 s=_; unfold rs3; rw [if_neg h]
  rw [h2]; and_intros<;>rfl
 ·have h:(rs3 s).c=0:=eq_of_beq h
  have h2:rsN s (0+1+1)=⟨(countsT (rs3 s).w (rs3 s).f (rs3 s).pt (numS s) (rs3 s).p).1,(rs3 s).w,(rs3 s).f,(rs3 s).pt,(countsT (rs3 s).w (rs3 s).f (rs3 s).pt (numS s) (rs3 s).p).2⟩:=by show rs4 s=_; unfold rs4; rw [if_pos h]
  rw [h2]; and_intros<;>rfl
 ·have h:¬ (rs3 s).c=0:=by
   have h:((rs3 s).c==0)=false:=h
   simpa using h
  have h2:rsN s (0+1+1)=rs3 s:=by show rs4 s=_; unfold rs4; rw [if_neg h]
  rw [h2]; and_intros<;>rfl
 ·have h:(rs4 s).c=0:=eq_of_beq h
  have h2:rsN s (0+1+1+1)=⟨mixedT (rs4 s).w (numS s) (rs4 s).p,(rs4 s).w,(rs4 s).f,(rs4 s).pt,(rs4 s).p⟩:=by show rs5 s=_; unfold rs5; rw [if_pos h]
  rw [h2]; and_intros<;>rfl
 ·have h:¬ (rs4 s).c=0:=by
   have h:((rs4 s).c==0)=false:=h
   simpa using h
  have h2:rsN s (0+1+1+1)=rs4 s:=by show rs5 s=_; unfold rs5; rw [if_neg h]
  rw [h2]; and_intros<;>rfl
 ·have h:¬ (rs5 s).c=0:=by
   have h:((rs5 s).c != 0)=true:=h
   simpa using h
  have h2:numT s=(z0,(rs5 s).c):=by unfold numT; rw [if_neg h]
  rw [h2]; and_intros<;>rfl
 ·have h:(rs5 s).c=0:=by
   have h:((rs5 s).c != 0)=false:=h
   simpa using h
  have h2:numT s=((rs5 s).p,0):=by unfold numT; rw [if_pos h]
  rw [h2]; and_intros<;>rfl)
end Go.Proofs.YtglfkihckkjniaaGreatDoor.Vx
namespace Go.Proofs.YtglfkihckkjniaaGreatDoor.Vx
open Go Go.RowKit
theorem num_codes {s:List UInt8} (h:(numT s).2=0):(rs1 s).c=0∧(rs2 s).c=0∧(rs3 s).c=0∧(rs4 s).c=0:=by
 have h5:(rs5 s).c=0:=by
  unfold numT at h
  split at h
  ·assumption
  ·exact h
 have h4:(rs4 s).c=0:=by
  unfold rs5 at h5
  split at h5
  ·assumption
  ·exact h5
 have h3:(rs3 s).c=0:=by
  have h4:=h4
  unfold rs4 at h4
  split at h4
  ·assumption
  ·exact h4
 have h2:(rs2 s).c=0:=by
  have h3:=h3
  unfold rs3 at h3
  split at h3
  ·assumption
  ·exact h3
 have h1:(rs1 s).c=0:=by
  have h2:=h2
  unfold rs2 at h2
  split at h2
  ·assumption
  ·exact h2
 exact ⟨h1,h2,h3,h4⟩
theorem num_split (s:List UInt8):s=numB s++if numS s=true then 69 :: numX s else []:=by
 unfold numB numS numX
 rw [cut_C]
 induction s with
 | nil=>rfl
 | cons x l ih =>
  unfold cutC
  split
  ·rename_i h; subst h; rfl
  ·show x :: l=x :: _
   congr 1
theorem num_exp {s:List UInt8} (h:(numT s).2=0) (hs:numS s=true):dropP (·==48) (Lib.trimPrefix (numX s) [43])=[]∧span1 (·==48) (Lib.trimPrefix (numX s) [43])≠0:=by
 have h1:=(num_codes h).1
 have h1:(expT (numX s) (numS s) z0).1=0:=h1
 unfold expT at h1
 rw [if_pos hs] at h1
 split at h1
 ·exact absurd h1 (show ¬ (4:Int)=0 by decide)
 ·rename_i hn
  exact ⟨Classical.byContradiction fun hx=>hn (.inl hx),fun hx=>hn (.inr hx)⟩
theorem num_odd {s:List UInt8} (h:(numT s).2=0):anyP isOdd (numB s)=false:=by
 obtain ⟨h1,h2,_,_⟩:=num_codes h
 unfold rs2 at h2
 rw [if_pos h1] at h2
 have h2:(partsT (numB s) [] [] false).1=0:=h2
 unfold partsT at h2
 split at h2
 ·exact absurd h2 (show ¬ (4:Int)=0 by decide)
 ·rename_i hn
  cases ho:anyP isOdd (numB s) with
  | false=>rfl
  | true=>exact absurd (.inl ho) hn
theorem num_ne {s:List UInt8} (h:(numT s).2=0):numB s≠[]:=by
 intro hB
 obtain ⟨h1,h2,h3,h4⟩:=num_codes h
 have e2:rs2 s=⟨0,[],[],false,(rs1 s).p⟩:=by
  unfold rs2; rw [if_pos h1,hB]; rfl
 have e3:rs3 s=⟨0,[],[],false,(rs1 s).p⟩:=by
  unfold rs3; rw [e2]; rfl
 unfold rs4 at h4
 rw [e3] at h4
 exact absurd h4 (show ¬ (4:Int)=0 by decide)
theorem num_body {s:List UInt8} (h:(numT s).2=0):∀ x∈numB s,hasR bodyC (x.toNat:Int)=true:=by
 have ho:=num_odd h
 intro x hx
 have hf:isOdd (x.toNat:Int)=false:=by
  unfold anyP at ho
  cases hq:isOdd (x.toNat:Int) with
  | false=>rfl
  | true=>rw [List.any_eq_true.2 ⟨x,hx,hq⟩] at ho; cases ho
 have key:∀ n:Fin 256,isOdd (n.1:Int)=false→hasR bodyC (n.1:Int)=true:=by decide +kernel
 exact key ⟨x.toNat,x.toNat_lt⟩ hf
end Go.Proofs.YtglfkihckkjniaaGreatDoor.Vx
namespace Go.Proofs.YtglfkihckkjniaaGreatDoor.Vx
open Go Go.RowKit
theorem scanN_fuel:∀ (n:Nat) (l:List Int) (a o:Int),Scalars l→l.length≤n→scanN n l a o=scanN l.length l a o:=by
 intro n
 induction n using Nat.strongRecOn with
 | _ n ih =>
  intro l a o hl hn
  cases l with
  | nil=>cases n<;>rfl
  | cons r m =>
   cases n with
   | zero=>simp at hn
   | succ n =>
    have hf:=scanStep_facts hl (by simp) a o
    have h1:(scanStep (r :: m) a o).1.length≤m.length:=by have:=hf.2.1; simp at this; omega
    have hm:m.length≤n:=by simpa using hn
    show _=scanN (m.length+1) (r :: m) a o
    unfold scanN
    dsimp only
    rw [ih n (by omega) _ _ _ hf.1 (by omega),ih m.length (by omega) _ _ _ hf.1 h1]
def scanL (l:List Int) (a o:Int):Int×List Iv:=scanN l.length l a o
theorem scanL_cons {r:Int} {m:List Int} (h:Scalars (r :: m)) (a o:Int):scanL (r :: m) a o=((scanL (scanStep (r :: m) a o).1 (scanStep (r :: m) a o).2.1 (scanStep (r :: m) a o).2.2.1).1,(scanStep (r :: m) a o).2.2.2++(scanL (scanStep (r :: m) a o).1 (scanStep (r :: m) a o).2.1 (scanStep (r :: m) a o).2.2.1).2):=by
 have hf:=scanStep_facts h (by simp) a o
 have h1:(scanStep (r :: m) a o).1.length≤m.length:=by have:=hf.2.1; simp at this; omega
 have hd:scanL (scanStep (r :: m) a o).1 (scanStep (r :: m) a o).2.1 (scanStep (r :: m) a o).2.2.1=scanN m.length (scanStep (r :: m) a o).1 (scanStep (r :: m) a o).2.1 (scanStep (r :: m) a o).2.2.1:=(scanN_fuel m.length _ _ _ hf.1 h1).symm
 rw [hd]
 rfl
theorem scanL_nil (a o:Int):scanL [] a o=(o,[]):=rfl
def Iv.rq (y:Iv):Int×Bool:=(y.tok.r,y.tok.q)
def Steps (u:List Int) (a o:Int) (ts:List (Int×Bool)) (o':Int) (m:List Int):Prop :=
 ∃ ys:List Iv,ys.map Iv.rq=ts∧scanL (u++m) a o=((scanL m (a+(encs u).length) o').1,ys++(scanL m (a+(encs u).length) o').2)
theorem Steps.trans {u v m:List Int} {a o o1 o2:Int} {t1 t2:List (Int×Bool)} (h:Steps u a o t1 o1 (v++m)) (k:Steps v (a+(encs u).length) o1 t2 o2 m):Steps (u++v) a o (t1++t2) o2 m:=by
 obtain ⟨ys,h1,h2⟩:=h
 obtain ⟨zs,k1,k2⟩:=k
 refine ⟨ys++zs,by rw [List.map_append,h1,k1],?_⟩
 have e:a+((encs u).length:Int)+((encs v).length:Int)=a+((encs (u++v)).length:Int):=by rw [encs_append,List.length_append]; omega
 rw [e] at k2
 rw [List.append_assoc,h2,k2,List.append_assoc]
theorem Steps.nil (a o:Int) (m:List Int):Steps [] a o [] o m:=⟨[],rfl,by simp [encs_nil]⟩
theorem scalars_append {l m:List Int}:Scalars (l++m)↔Scalars l∧Scalars m:=by
 unfold Scalars
 exact ⟨fun h=>⟨fun r hr=>h r (List.mem_append_left _ hr),fun r hr=>h r (List.mem_append_right _ hr)⟩,fun h r hr=>(List.mem_append.1 hr).elim (h.1 r) (h.2 r)⟩
theorem scalars_cons {r:Int} {m:List Int}:Scalars (r :: m)↔scalar r=true∧Scalars m:=by
 unfold Scalars
 exact ⟨fun h=>⟨h r List.mem_cons_self,fun x hx=>h x (List.mem_cons_of_mem _ hx)⟩,fun h x hx=>(List.mem_cons.1 hx).elim (fun e=>e ▸ h.1) (h.2 x)⟩
theorem scalars_nil:Scalars []:=fun r h=>by cases h
theorem scalar39:scalar 39=true:=by decide
theorem steps_plain {r:Int} {m:List Int} {a o:Int} (hr:scalar r=true) (hm:Scalars m) (h:r≠39) (ho:o<0):Steps [r] a o [(r,false)] o m:=by
 refine ⟨[.plain r a],rfl,?_⟩
 show scanL (r :: m) a o=_
 have e:scanStep (r :: m) a o=(m,a+(enc r).length,o,[.plain r a]):=by unfold scanStep; dsimp only; rw [if_neg h,if_pos ho]
 rw [scanL_cons (scalars_cons.2 ⟨hr,hm⟩),e,encs_one]
theorem steps_quoted {r:Int} {m:List Int} {a o:Int} (hr:scalar r=true) (hm:Scalars m) (h:r≠39) (ho:¬ o<0):Steps [r] a o [(r,true)] o m:=by
 refine ⟨[.quoted r a],rfl,?_⟩
 show scanL (r :: m) a o=_
 have e:scanStep (r :: m) a o=(m,a+(enc r).length,o,[.quoted r a]):=by unfold scanStep; dsimp only; rw [if_neg h,if_neg ho]
 rw [scanL_cons (scalars_cons.2 ⟨hr,hm⟩),e,encs_one]
theorem steps_twice {m:List Int} {a o:Int} (hm:Scalars m):Steps [39,39] a o [(39,true)] o m:=by
 refine ⟨[.quoted 39 a],rfl,?_⟩
 show scanL (39 :: 39 :: m) a o=_
 have e:scanStep (39 :: 39 :: m) a o=(m,a+1+1,o,[.quoted 39 a]):=by unfold scanStep; dsimp only; rw [if_pos rfl,if_pos rfl]
 have e2:((encs [39,39]).length:Int)=1+1:=by rw [encs_cons,encs_one,List.length_append,enc39]; rfl
 rw [scanL_cons (scalars_cons.2 ⟨scalar39,scalars_cons.2 ⟨scalar39,hm⟩⟩),e,e2,← Int.add_assoc]
theorem step_one {m:List Int} {a o:Int} (h:m.head?≠some 39):scanStep (39 :: m) a o=if o<0 then (m,a+1,a,[]) else (m,a+1,-1,[]):=by
 unfold scanStep
 dsimp only
 rw [if_pos rfl]
 cases m with
 | nil=>rfl
 | cons x t =>
  have hx:x≠39:=fun e=>h (by rw [e]; rfl)
  dsimp only
  rw [if_neg hx]
theorem steps_open {m:List Int} {a o:Int} (hm:Scalars m) (h:m.head?≠some 39) (ho:o<0):Steps [39] a o [] a m:=by
 refine ⟨[],rfl,?_⟩
 show scanL (39 :: m) a o=_
 have e:=step_one (a:=a) (o:=o) h
 rw [if_pos ho] at e
 have e2:((encs [39]).length:Int)=1:=by rw [encs_one,enc39]; rfl
 rw [scanL_cons (scalars_cons.2 ⟨scalar39,hm⟩),e,e2]
theorem steps_close {m:List Int} {a o:Int} (hm:Scalars m) (h:m.head?≠some 39) (ho:¬ o<0):Steps [39] a o [] (-1) m:=by
 refine ⟨[],rfl,?_⟩
 show scanL (39 :: m) a o=_
 have e:=step_one (a:=a) (o:=o) h
 rw [if_neg ho] at e
 have e2:((encs [39]).length:Int)=1:=by rw [encs_one,enc39]; rfl
 rw [scanL_cons (scalars_cons.2 ⟨scalar39,hm⟩),e,e2]
def dbl (w:List Int):List Int:=w.flatMap fun r=>if r=39 then [39,39] else [r]
def rowC (w:List Int):List Int:=if (w.all fun r=>r==39)=true then dbl w else 39 :: (dbl w++[39])
def quo (w:List Int):List (Int×Bool):=w.map fun r=>(r,true)
theorem dbl_cons (r:Int) (w:List Int):dbl (r :: w)=(if r=39 then [39,39] else [r])++dbl w:=rfl
theorem dbl_scalars {w:List Int} (h:Scalars w):Scalars (dbl w):=by
 induction w with
 | nil=>exact scalars_nil
 | cons r w ih =>
  obtain ⟨h1,h2⟩:=scalars_cons.1 h
  rw [dbl_cons,scalars_append]
  refine ⟨?_,ih h2⟩
  split
  ·exact scalars_cons.2 ⟨scalar39,scalars_cons.2 ⟨scalar39,scalars_nil⟩⟩
  ·exact scalars_cons.2 ⟨h1,scalars_nil⟩
theorem steps_in {m:List Int} (hm:Scalars m) {o:Int} (ho:¬ o<0):∀ (w:List Int) (a:Int),Scalars w→Steps (dbl w) a o (quo w) o m:=by
 intro w
 induction w with
 | nil=>intro a _; exact Steps.nil a o m
 | cons r w ih =>
  intro a h
  obtain ⟨h1,h2⟩:=scalars_cons.1 h
  rw [dbl_cons]
  show Steps _ a o ([(r,true)]++quo w) o m
  have hd:Scalars (dbl w++m):=scalars_append.2 ⟨dbl_scalars h2,hm⟩
  refine Steps.trans (o1:=o) ?_ (ih _ h2)
  split
  ·rename_i e; rw [e]; exact steps_twice hd
  ·rename_i e; exact steps_quoted h1 hd e ho
theorem steps_all {m:List Int} (hm:Scalars m) {o:Int}:∀ (w:List Int) (a:Int),(∀ r∈w,r=39)→Steps (dbl w) a o (quo w) o m:=by
 intro w
 induction w with
 | nil=>intro a _; exact Steps.nil a o m
 | cons r w ih =>
  intro a h
  have h1:r=39:=h r List.mem_cons_self
  have h2:∀ r∈w,r=39:=fun x hx=>h x (List.mem_cons_of_mem _ hx)
  have hw:Scalars w:=fun x hx=>by rw [h2 x hx]; exact scalar39
  rw [dbl_cons]
  show Steps _ a o ([(r,true)]++quo w) o m
  have hd:Scalars (dbl w++m):=scalars_append.2 ⟨dbl_scalars hw,hm⟩
  refine Steps.trans (o1:=o) ?_ (ih _ h2)
  rw [if_pos h1,h1]; exact steps_twice hd
theorem steps_opened {m:List Int} (hm:Scalars m):∀ (w:List Int) (a:Int),0≤a→Scalars w→¬ (∀ r∈w,r=39)→∃ o',¬ o'<0∧Steps (39 :: dbl w) a (-1) (quo w) o' m:=by
 intro w
 induction w with
 | nil=>intro a _ _ h; exact absurd (fun r hr=>by cases hr) h
 | cons r w ih =>
  intro a ha h hn
  obtain ⟨h1,h2⟩:=scalars_cons.1 h
  have hd:Scalars (dbl w++m):=scalars_append.2 ⟨dbl_scalars h2,hm⟩
  by_cases e:r=39
  ·have hn2:¬ ∀ r∈w,r=39:=fun k=>hn fun x hx=>(List.mem_cons.1 hx).elim (fun q=>q.trans e) (k x)
   obtain ⟨o',k1,k2⟩:=ih (a+((encs [39,39]).length:Nat)) (by omega) h2 hn2
   refine ⟨o',k1,?_⟩
   rw [dbl_cons,if_pos e,e]
   show Steps ([39,39]++(39 :: dbl w)) a (-1) ([(39,true)]++quo w) o' m
   exact Steps.trans (steps_twice (scalars_cons.2 ⟨scalar39,hd⟩)) k2
  ·refine ⟨a,by omega,?_⟩
   rw [dbl_cons,if_neg e]
   show Steps ([39]++([r]++dbl w)) a (-1) ([]++([(r,true)]++quo w)) a m
   refine Steps.trans (steps_open ?_ (fun k=>e ?_) (by decide)) (Steps.trans (steps_quoted h1 hd e (by omega)) (steps_in hm (by omega) _ _ h2))
   ·exact scalars_cons.2 ⟨h1,hd⟩
   ·exact Option.some.inj k
def Sc (u:List Int) (ts:List (Int×Bool)):Prop:=Scalars u∧∀ m a,Scalars m→0≤a→Steps u a (-1) ts (-1) m
def ScQ (u:List Int) (ts:List (Int×Bool)):Prop:=Scalars u∧∀ m a,Scalars m→0≤a→m.head?≠some 39→Steps u a (-1) ts (-1) m
theorem Sc.q {u:List Int} {ts:List (Int×Bool)} (h:Sc u ts):ScQ u ts:=⟨h.1,fun m a hm ha _=>h.2 m a hm ha⟩
theorem Sc.nil:Sc [] []:=⟨scalars_nil,fun m a _ _=>Steps.nil a (-1) m⟩
theorem Sc.one {r:Int} (h1:scalar r=true) (h:r≠39):Sc [r] [(r,false)]:=⟨scalars_cons.2 ⟨h1,scalars_nil⟩,fun m a hm _=>steps_plain h1 hm h (by decide)⟩
theorem Sc.two:Sc [39,39] [(39,true)]:=⟨scalars_cons.2 ⟨scalar39,scalars_cons.2 ⟨scalar39,scalars_nil⟩⟩,fun m a hm _=>steps_twice hm⟩
theorem Sc.then {u v:List Int} {t1 t2:List (Int×Bool)} (h:Sc u t1) (k:Sc v t2):Sc (u++v) (t1++t2) :=
 ⟨scalars_append.2 ⟨h.1,k.1⟩,fun m a hm ha=>Steps.trans (h.2 _ a (scalars_append.2 ⟨k.1,hm⟩) ha) (k.2 m _ hm (by omega))⟩
theorem Sc.thenQ {u v:List Int} {t1 t2:List (Int×Bool)} (h:Sc u t1) (k:ScQ v t2):ScQ (u++v) (t1++t2) :=
 ⟨scalars_append.2 ⟨h.1,k.1⟩,fun m a hm ha hh=>Steps.trans (h.2 _ a (scalars_append.2 ⟨k.1,hm⟩) ha) (k.2 m _ hm (by omega) hh)⟩
theorem head_append {v m:List Int} (h:v.head?≠some 39) (hv:v≠[]):(v++m).head?≠some 39:=by
 cases v with
 | nil=>exact absurd rfl hv
 | cons x t=>exact h
theorem head_append2 {v m:List Int} (h:v.head?≠some 39) (hm:m.head?≠some 39):(v++m).head?≠some 39:=by
 cases v with
 | nil=>exact hm
 | cons x t=>exact h
theorem ScQ.then {u v:List Int} {t1 t2:List (Int×Bool)} (h:ScQ u t1) (k:Sc v t2) (hv:v.head?≠some 39) (hn:v≠[]):Sc (u++v) (t1++t2) :=
 ⟨scalars_append.2 ⟨h.1,k.1⟩,fun m a hm ha=>Steps.trans (h.2 _ a (scalars_append.2 ⟨k.1,hm⟩) ha (head_append hv hn)) (k.2 m _ hm (by omega))⟩
theorem ScQ.thenQ {u v:List Int} {t1 t2:List (Int×Bool)} (h:ScQ u t1) (k:ScQ v t2) (hv:v.head?≠some 39):ScQ (u++v) (t1++t2) :=
 ⟨scalars_append.2 ⟨h.1,k.1⟩,fun m a hm ha hh=>Steps.trans (h.2 _ a (scalars_append.2 ⟨k.1,hm⟩) ha (head_append2 hv hh)) (k.2 m _ hm (by omega) hh)⟩
theorem row_sc {w:List Int} (h:Scalars w):ScQ (rowC w) (quo w):=by
 unfold rowC
 split
 ·rename_i ha
  have ha:∀ r∈w,r=39:=fun r hr=>eq_of_beq (List.all_eq_true.1 ha r hr)
  exact ⟨dbl_scalars h,fun m a hm _ _=>steps_all hm w a ha⟩
 ·rename_i ha
  have ha:¬ ∀ r∈w,r=39:=fun k=>ha (List.all_eq_true.2 fun r hr=>by rw [k r hr]; rfl)
  refine ⟨scalars_cons.2 ⟨scalar39,scalars_append.2 ⟨dbl_scalars h,scalars_cons.2 ⟨scalar39,scalars_nil⟩⟩⟩,fun m a hm h0 hh=>?_⟩
  obtain ⟨o',k1,k2⟩:=steps_opened (m:=[39]++m) (scalars_cons.2 ⟨scalar39,hm⟩) w a h0 h ha
  have:=Steps.trans k2 (steps_close hm hh k1)
  rw [List.append_nil] at this
  exact this
def prT:List (Int×Bool)→List Int→List Int
 | [],w=>rowC w
 | (r,true) :: l,w=>prT l (w++[r])
 | (r,false) :: l,w=>rowC w++r :: prT l []
def TokOK (l:List (Int×Bool)):Prop:=∀ t∈l,scalar t.1=true∧(t.2=false→t.1≠39)
theorem TokOK.cons {t:Int×Bool} {l:List (Int×Bool)} (h:TokOK (t :: l)):(scalar t.1=true∧(t.2=false→t.1≠39))∧TokOK l:=⟨h t List.mem_cons_self,fun x hx=>h x (List.mem_cons_of_mem _ hx)⟩
theorem prT_sc:∀ (l:List (Int×Bool)) (w:List Int),TokOK l→Scalars w→ScQ (prT l w) (quo w++l):=by
 intro l
 induction l with
 | nil=>intro w _ hw; rw [List.append_nil]; exact row_sc hw
 | cons t l ih =>
  intro w h hw
  obtain ⟨⟨h1,h2⟩,h3⟩:=h.cons
  obtain ⟨r,q⟩:=t
  cases q with
  | true =>
   have:=ih (w++[r]) h3 (hw.snoc h1)
   unfold quo at this ⊢
   rw [List.map_append,List.append_assoc] at this
   exact this
  | false =>
   have k:=Sc.thenQ (Sc.one h1 (h2 rfl)) (ih [] h3 scalars_nil)
   exact ScQ.thenQ (row_sc hw) k (fun e=>h2 rfl (Option.some.inj e))
end Go.Proofs.YtglfkihckkjniaaGreatDoor.Vx
namespace Go.Proofs.YtglfkihckkjniaaGreatDoor.Vx
open Go Go.RowKit
def rg:Go.Shelf.Ren:=⟨fun | 4=>129 | n=>n,fun | 0=>0 | 3=>3 | 4=>4 | 9=>9 | 20=>20 | 22=>23 | 25=>79 | n=>n,fun n=>n⟩
theorem lays_grow:Go.Proofs.Lays8.n4 Tryz.prog rg:={
 mixed:=by kernel_rfl
 f4:=⟨"slices.Grow[[]figurehead/api.Item,figurehead/api.Item]",by decide,Tryz.func129.trans (congrArg some (by kernel_rfl))⟩
 t0:=Tryz.underlying0
 a0:=Tryz.isAgg0
 z0:=Tryz.sizeOf0
 v0:=Tryz.zeroValue0
 t3:=Tryz.underlying3
 a3:=Tryz.isAgg3
 z3:=Tryz.sizeOf3
 v3:=Tryz.zeroValue3
 t4:=Tryz.underlying4
 a4:=Tryz.isAgg4
 z4:=Tryz.sizeOf4
 v4:=Tryz.zeroValue4
 t9:=Tryz.underlying9
 a9:=Tryz.isAgg9
 z9:=Tryz.sizeOf9
 v9:=Tryz.zeroValue9
 t20:=Tryz.underlying20
 a20:=Tryz.isAgg20
 z20:=Tryz.sizeOf20
 v20:=Tryz.zeroValue20
 t22:=Tryz.underlying23
 a22:=Tryz.isAgg23
 z22:=Tryz.sizeOf23
 v22:=Tryz.zeroValue23 }
def sp_sgrow:ASpec:=⟨fun
 | [.one .nils,.one (.int .i64 n)],[]=>some ([0≤n∧n≤1000000000],.one (.slc 16),[(16,some (.row 79 (.items [])))])
 | _,_=>none⟩
theorem ok_sgrow:FnA 129 sp_sgrow:=by
 refine ⟨body_of Tryz.f129 (by kernel_rfl) (by kernel_rfl) (by kernel_rfl),?_⟩
 intro args mem ps r post hs hp C ρ w vs hP hw hg hgf hms hdom hargs
 unfold sp_sgrow at hs
 simp only at hs
 split at hs
 ·rename_i n
  cases hs
  have hp:0≤n∧n≤1000000000:=hp
  have hv:vs=[.slice none 0 0,.int .i64 n]:=by
   cases hargs with
   | cons h1 h2 =>
    cases h2 with
    | cons h3 h4 =>
     cases h4
     simp only [denV,den,Option.some.injEq] at h1 h3
     rw [h1,h3]
  subst hv
  obtain ⟨k,hk⟩:∃ k:Nat,n=(k:Int):=⟨n.toNat,by omega⟩
  subst hk
  obtain ⟨i,hi⟩:=Option.isSome_iff_exists.1 (show (look 79 T).isSome=true by kernel_rfl)
  have hsz:i.size=2:=by
   have h1:(look 79 T).map (fun i=>i.size)=some 2:=by kernel_rfl
   rw [hi] at h1; simpa using h1
  have hby:i.bytes=16:=by
   have h1:(look 79 T).map (fun i=>i.bytes)=some 16:=by kernel_rfl
   rw [hi] at h1; simpa using h1
  obtain ⟨inf,d,z,tt⟩:=tbl_get T_ok hi
  have hz2:z.cells.size=2:=by
   have h1:=denL_length (tt.zden ρ)
   rw [tt.zlen,hsz] at h1
   have h2:z.cells.toList.length=z.cells.size:=Array.length_toList
   omega
  have fin:∀ (v:Value) (w':World),Fr (fun _=>False) w w'→v.oneCell'=true→SBok C (fun j=>if j=16 then some v else ρ j) w' v (.row 79 (.items [])) →
    ∃ v' ρ',Ending.returned v=.returned v'∧Fr C.F w w'∧MS C ρ' [(16,some (.row 79 (.items [])))] w'∧DomLt ρ' 32∧denV ρ' (.one (.slc 16))=some v':=by
   intro v w' hf hone hb
   refine ⟨v,fun j=>if j=16 then some v else ρ j,rfl,hf.mono fun _ _ h=>h.elim,⟨?_,?_,?_,?_⟩,?_,by simp [denV,den]⟩
   ·intro j u hu
    have hu:(if j=16 then some v else ρ j)=some u:=hu
    split at hu
    ·cases hu; exact hone
    ·exact hms.one j u hu
   ·intro j hj
    show (if j=16 then some v else ρ j)=_
    rw [if_neg (by omega)]
    exact hms.pin j hj
   ·intro j b hb2
    rw [look_cons] at hb2
    split at hb2
    ·rename_i h16
     cases hb2
     exact ⟨v,by simp [← h16],hb⟩
    ·cases hb2
   ·intro j j' b b' u u' hne h1 h2
    rw [look_cons] at h1 h2
    split at h1
    ·split at h2
     ·exfalso; apply hne; omega
     ·cases h2
    ·cases h1
   ·intro j u hu
    have hu:(if j=16 then some v else ρ j)=some u:=hu
    split at hu
    ·omega
    ·have:=hdom j u hu; omega
  by_cases h0:k=0
  ·subst h0
   refine (Go.Proofs.Any8.slices_Grow_room lays_grow none 0 0 0 w (Nat.le_refl _) (by decide) (by decide) (Nat.le_refl _)).mono ?_
   rintro e w' ⟨rfl,rfl⟩
   exact fin _ _ (Fr.refl _ _) rfl ⟨⟨rfl,.inl ⟨rfl,rfl⟩⟩,fun g hg=>by cases hg⟩
  ·have hL:=Go.Proofs.Any8.slices_Grow_grow lays_grow inf z tt.info tt.zero (by rw [tt.size,hsz]; decide) none 0 0 k [] w (Nat.le_refl _) (by omega) (by rw [tt.bytes,hby]; omega) (by omega) (by simp) (fun _=>rfl) (fun a ha=>by cases ha)
   refine hL.mono ?_
   rintro e w' ⟨rfl,rfl⟩
   have hge:=grownCap_ge w (0+k) 0 79
   have hcm:grownCap w (0+k) 0 79≤maxLen:=grownCap_le_maxLen w (0+k) 0 _ (by simp only [maxLen]; omega)
   refine fin _ _ ((Fr.refl _ w).drew.trans (Fr.alloc w.drew _ _)) rfl ⟨⟨rfl,.inr ⟨w.heap.size,_,_,(0,0),rfl,Nat.zero_le _,(by show (w.heap.push _)[w.heap.size]? = _; rw [Array.getElem?_push_size]; rfl),Nat.zero_le _,Nat.zero_le _,hcm,?_,rfl⟩⟩,fun g hg=>?_⟩
   ·have hzs:∀ m,(Builtin.zeroCells z.cells m).size=m*2:=fun m=>by rw [size_zeroCells,hz2]
    simp only [Array.size_append,hzs]
    show 0+(0+k-0)*2+(grownCap w (0+k) 0 79-(0+k))*2=grownCap w (0+k) 0 79*2
    omega
   ·have:w.heap.size=g:=by simpa [Value.ownBlock] using hg
    exact .inl (by rw [hw]; omega)
 ·cases hs
def isItm (k r:Int) (x:Itm):Bool:=decide (k=x.k) && decide (r=x.r)
def sp_sindex:FSpec:=⟨[],fun | [.one (.rd (.items l)),.agg [.int .i64 k,.int .i32 r]]=>some ([l.length≤1000000000],.one (.int .i64 (idxZ (isItm k r) l))) | _=>none⟩
theorem vc_sindex (l:List Itm) (k r:Int):vcP [] [] misc Tryz.f128 (.loop 2 (None (isItm k r) l) (fun i=>⟨[(0,.one (.slc 0)),(3,.one (.ptr 17 0)),(7,.one (.int .i64 l.length)),(8,.one (.int .i64 i.1))],[(0,some (.read (.items l))),(17,some (.cells 79 [.int .i64 k,.int .i32 r]))],18⟩) (fun i=>l.length-i.1) (fun _=>.nil) .nil) [.one (.rd (.items l)),.agg [.int .i64 k,.int .i32 r]] (.one (.int .i64 (idxZ (isItm k r) l)))=(letI v0:=(↑(List.length l):Int); ((∃ (x:None (isItm k r) l),v0=v0∧(0:Int)=(↑(Subtype.val x):Int)∧l=l∧k=k∧r=r)∧∀ (x:None (isItm k r) l),(letI v1:=(↑(Subtype.val x):Int); br (decide (v1<v0)) (((0:Int)≤v1∧v1<v0)∧Int.toNat v1<List.length l∧br (decide (k=Itm.k (List.getD l (Int.toNat v1) default)) && decide (r=Itm.r (List.getD l (Int.toNat v1) default))) (v1=idxZ (isItm k r) l) (inR IntKind.i64 (v1+(1:Int))∧∃ (x':None (isItm k r) l),(v0=v0∧v1+(1:Int)=(↑(Subtype.val x'):Int)∧l=l∧k=k∧r=r)∧List.length l-Subtype.val x'<List.length l-Subtype.val x)) ((-1:Int)=idxZ (isItm k r) l)))):=by kernel_rfl
set_option maxHeartbeats 4000000 in
theorem of_sindex (h:∀ (l:List Itm) (k r:Int),(l.length≤1000000000)→vcP [] [] misc Tryz.f128 (.loop 2 (None (isItm k r) l) (fun i=>⟨[(0,.one (.slc 0)),(3,.one (.ptr 17 0)),(7,.one (.int .i64 l.length)),(8,.one (.int .i64 i.1))],[(0,some (.read (.items l))),(17,some (.cells 79 [.int .i64 k,.int .i32 r]))],18⟩) (fun i=>l.length-i.1) (fun _=>.nil) .nil) [.one (.rd (.items l)),.agg [.int .i64 k,.int .i32 r]] (.one (.int .i64 (idxZ (isItm k r) l)))):FnP 128 sp_sindex:=by
 refine fnP_ok (cs:=[]) (cas:=[]) (ms:=misc) .nil .nil misc_ok 128 Tryz.f128 (by kernel_rfl) (by kernel_rfl) (by kernel_rfl) (fun | [.one (.rd (.items l)),.agg [.int .i64 k,.int .i32 r]]=>.loop 2 (None (isItm k r) l) (fun i=>⟨[(0,.one (.slc 0)),(3,.one (.ptr 17 0)),(7,.one (.int .i64 l.length)),(8,.one (.int .i64 i.1))],[(0,some (.read (.items l))),(17,some (.cells 79 [.int .i64 k,.int .i32 r]))],18⟩) (fun i=>l.length-i.1) (fun _=>.nil) .nil | _=>.nil) ?_
 intro pvs p r hs hp
 unfold sp_sindex at hs
 simp only at hs
 split at hs
 ·rename_i l k r
  cases hs
  refine h l k r ?_
  ·exact hp
 ·cases hs
def sp_sconcat:ASpec:=⟨fun | [.one (.slc 0)],[(0,some (.lit 23 4 [.slc 1,.slc 2,.slc 3,.slc 4])),(1,some (.read (.items a))),(2,some (.read (.items b))),(3,some (.read (.items c))),(4,some (.read (.items d)))]=>some ([a.length+b.length+c.length+d.length≤1000000000],.one (.slc 16),[(16,some (.row 79 (.items (a++b++c++d))))]) | _,_=>none⟩
theorem vc_sconcat (a b c d:List Itm):vcA [] [(129,sp_sgrow)] misc Tryz.f99 (.turns 3 5 (fun _=>.dec 20 false .nil) (.turns 11 5 (fun _=>.nil) .nil)) [.one (.slc 0)] [(0,some (.lit 23 4 [.slc 1,.slc 2,.slc 3,.slc 4])),(1,some (.read (.items a))),(2,some (.read (.items b))),(3,some (.read (.items c))),(4,some (.read (.items d)))] (.one (.slc 16)) [(16,some (.row 79 (.items (a++b++c++d))))]=(letI v0:=((0:Int)≤(0:Int)+(1:Int)+(1:Int)+(1:Int)∧(0:Int)+(1:Int)+(1:Int)+(1:Int)<(↑(4:Nat):Int)); letI v1:=((0:Int)≤(0:Int)+(1:Int)+(1:Int)∧(0:Int)+(1:Int)+(1:Int)<(↑(4:Nat):Int)); letI v2:=((0:Int)≤(0:Int)+(1:Int)∧(0:Int)+(1:Int)<(↑(4:Nat):Int)); (((0:Int)≤(0:Int)∧(0:Int)<(↑(4:Nat):Int))∧inR IntKind.i64 ((0:Int)+(↑(List.length a):Int))∧decide ((0:Int)+(↑(List.length a):Int)<(0:Int))=false∧inR IntKind.i64 ((0:Int)+(1:Int))∧v2∧inR IntKind.i64 ((0:Int)+(↑(List.length a):Int)+(↑(List.length b):Int))∧decide ((0:Int)+(↑(List.length a):Int)+(↑(List.length b):Int)<(0:Int))=false∧inR IntKind.i64 ((0:Int)+(1:Int)+(1:Int))∧v1∧inR IntKind.i64 ((0:Int)+(↑(List.length a):Int)+(↑(List.length b):Int)+(↑(List.length c):Int))∧decide ((0:Int)+(↑(List.length a):Int)+(↑(List.length b):Int)+(↑(List.length c):Int)<(0:Int))=false∧inR IntKind.i64 ((0:Int)+(1:Int)+(1:Int)+(1:Int))∧v0∧inR IntKind.i64 ((0:Int)+(↑(List.length a):Int)+(↑(List.length b):Int)+(↑(List.length c):Int)+(↑(List.length d):Int))∧decide ((0:Int)+(↑(List.length a):Int)+(↑(List.length b):Int)+(↑(List.length c):Int)+(↑(List.length d):Int)<(0:Int))=false∧inR IntKind.i64 ((0:Int)+(1:Int)+(1:Int)+(1:Int)+(1:Int))∧((0:Int)≤(0:Int)+(↑(List.length a):Int)+(↑(List.length b):Int)+(↑(List.length c):Int)+(↑(List.length d):Int)∧(0:Int)+(↑(List.length a):Int)+(↑(List.length b):Int)+(↑(List.length c):Int)+(↑(List.length d):Int)≤(1000000000:Int))∧((0:Int)≤(0:Int)∧(0:Int)<(↑(4:Nat):Int))∧((0:Nat)+List.length a)*(16:Nat)≤(140737488355328:Nat)∧inR IntKind.i64 ((0:Int)+(1:Int))∧v2∧(List.length ([]++a)+List.length b)*(16:Nat)≤(140737488355328:Nat)∧inR IntKind.i64 ((0:Int)+(1:Int)+(1:Int))∧v1∧(List.length ([]++a++b)+List.length c)*(16:Nat)≤(140737488355328:Nat)∧inR IntKind.i64 ((0:Int)+(1:Int)+(1:Int)+(1:Int))∧v0∧(List.length ([]++a++b++c)+List.length d)*(16:Nat)≤(140737488355328:Nat)∧inR IntKind.i64 ((0:Int)+(1:Int)+(1:Int)+(1:Int)+(1:Int))∧[]++a++b++c++d=a++b++c++d)):=by kernel_rfl
set_option maxHeartbeats 4000000 in
theorem of_sconcat (h:∀ (a b c d:List Itm),(a.length+b.length+c.length+d.length≤1000000000)→vcA [] [(129,sp_sgrow)] misc Tryz.f99 (.turns 3 5 (fun _=>.dec 20 false .nil) (.turns 11 5 (fun _=>.nil) .nil)) [.one (.slc 0)] [(0,some (.lit 23 4 [.slc 1,.slc 2,.slc 3,.slc 4])),(1,some (.read (.items a))),(2,some (.read (.items b))),(3,some (.read (.items c))),(4,some (.read (.items d)))] (.one (.slc 16)) [(16,some (.row 79 (.items (a++b++c++d))))]):FnA 99 sp_sconcat:=by
 refine fnA_ok (cs:=[]) (cas:=[(129,sp_sgrow)]) (ms:=misc) .nil (.cons ok_sgrow .nil) misc_ok 99 Tryz.f99 (by kernel_rfl) (by kernel_rfl) (by kernel_rfl) (fun | [.one (.slc 0)],[(0,some (.lit 23 4 [.slc 1,.slc 2,.slc 3,.slc 4])),(1,some (.read (.items a))),(2,some (.read (.items b))),(3,some (.read (.items c))),(4,some (.read (.items d)))]=>.turns 3 5 (fun _=>.dec 20 false .nil) (.turns 11 5 (fun _=>.nil) .nil) | _,_=>.nil) ?_
 intro args mem p r post hs hp
 unfold sp_sconcat at hs
 simp only at hs
 split at hs
 ·rename_i a b c d
  cases hs
  refine h a b c d ?_
  ·exact hp
 ·cases hs
theorem ok_sindex:FnP 128 sp_sindex:=of_sindex (by
 intro l k r hl
 rw [vc_sindex]
 refine ⟨⟨.zero _ l,by and_intros<;>rfl⟩,fun x=>br_of (fun h=>?_) fun h=>?_⟩
 ·have h:x.1<l.length:=by simpa using h
  rw [Int.toNat_natCast]
  exact ⟨⟨by omega,by omega⟩,h,br_of (fun h1=>(x.hitZ h h1).symm) fun h1=>⟨by simp only [inR]; omega,x.next default h h1,by and_intros<;>rfl,by show l.length-(x.1+1)<_; omega⟩⟩
 ·exact (x.overZ (by simpa using h)).symm)
theorem ok_sconcat:FnA 99 sp_sconcat:=of_sconcat (by
 intro a b c d h
 rw [vc_sconcat]
 and_intros
 all_goals first | rfl | omega | (simp only [inR]; omega) | exact decide_eq_false (by omega) | (simp only [List.length_append,List.length_nil]; omega))
def hasItm (k:Int) (l:List Itm):Bool:=l.any (isItm k 0)
def sp_scontains:FSpec:=⟨[],fun | [.one (.rd (.items l)),.agg [.int .i64 k,.int .i32 r]]=>some ([l.length≤1000000000],.one (.bool (l.any (isItm k r)))) | _=>none⟩
theorem vc_scontains (l:List Itm) (k r:Int):vcP [(128,sp_sindex)] [] misc Tryz.f98 (.nil) [.one (.rd (.items l)),.agg [.int .i64 k,.int .i32 r]] (.one (.bool (l.any (isItm k r))))=((List.length l≤(1000000000:Nat)∧decide (idxZ (isItm k r) l≥(0:Int))=List.any l (isItm k r))):=by kernel_rfl
set_option maxHeartbeats 4000000 in
theorem of_scontains (h:∀ (l:List Itm) (k r:Int),(l.length≤1000000000)→vcP [(128,sp_sindex)] [] misc Tryz.f98 (.nil) [.one (.rd (.items l)),.agg [.int .i64 k,.int .i32 r]] (.one (.bool (l.any (isItm k r))))):FnP 98 sp_scontains:=by
 refine fnP_ok (cs:=[(128,sp_sindex)]) (cas:=[]) (ms:=misc) (.cons ok_sindex .nil) .nil misc_ok 98 Tryz.f98 (by kernel_rfl) (by kernel_rfl) (by kernel_rfl) (fun _=>.nil) ?_
 intro pvs p r hs hp
 unfold sp_scontains at hs
 simp only at hs
 split at hs
 ·rename_i l k r
  cases hs
  refine h l k r ?_
  ·exact hp
 ·cases hs
theorem any_idxI {α:Type} (P:α→Bool) (l:List α):decide (idxZ P l≥0)=l.any P:=by
 unfold idxZ
 rw [Bool.eq_iff_iff,decide_eq_true_iff,List.any_eq_true]
 by_cases h:l.findIdx P<l.length
 ·rw [if_pos h]
  exact ⟨fun _=>⟨_,List.getElem_mem h,List.findIdx_getElem (w:=h)⟩,fun _=>by omega⟩
 ·rw [if_neg h]
  have h0:l.findIdx P=l.length:=by have:=List.findIdx_le_length (p:=P) (xs:=l); omega
  rw [List.findIdx_eq_length] at h0
  refine ⟨fun h=>absurd h (by decide),?_⟩
  rintro ⟨c,hc,h1⟩
  rw [h0 c hc] at h1; cases h1
theorem ok_scontains:FnP 98 sp_scontains:=of_scontains (by
 intro l k r hl
 rw [vc_scontains]
 exact ⟨hl,any_idxI _ l⟩)
def sp_phas:ASpec:=⟨fun | [.one (.int .i64 k),.one (.slc 0)],[(0,some (.lit 23 4 [.slc 1,.slc 2,.slc 3,.slc 4])),(1,some (.read (.items a))),(2,some (.read (.items b))),(3,some (.read (.items c))),(4,some (.read (.items d)))]=>some ([a.length+b.length+c.length+d.length≤1000000000],.one (.bool (hasItm k (a++b++c++d))),[]) | _,_=>none⟩
theorem vc_phas (k:Int) (a b c d:List Itm):vcA [(98,sp_scontains)] [(99,sp_sconcat)] misc Tryz.f69 (.nil) [.one (.int .i64 k),.one (.slc 0)] [(0,some (.lit 23 4 [.slc 1,.slc 2,.slc 3,.slc 4])),(1,some (.read (.items a))),(2,some (.read (.items b))),(3,some (.read (.items c))),(4,some (.read (.items d)))] (.one (.bool (hasItm k (a++b++c++d)))) []=((List.length a+List.length b+List.length c+List.length d≤(1000000000:Nat)∧List.length (a++b++c++d)≤(1000000000:Nat)∧List.any (a++b++c++d) (isItm k (0:Int))=hasItm k (a++b++c++d))):=by kernel_rfl
set_option maxHeartbeats 4000000 in
theorem of_phas (h:∀ (k:Int) (a b c d:List Itm),(a.length+b.length+c.length+d.length≤1000000000)→vcA [(98,sp_scontains)] [(99,sp_sconcat)] misc Tryz.f69 (.nil) [.one (.int .i64 k),.one (.slc 0)] [(0,some (.lit 23 4 [.slc 1,.slc 2,.slc 3,.slc 4])),(1,some (.read (.items a))),(2,some (.read (.items b))),(3,some (.read (.items c))),(4,some (.read (.items d)))] (.one (.bool (hasItm k (a++b++c++d)))) []):FnA 69 sp_phas:=by
 refine fnA_ok (cs:=[(98,sp_scontains)]) (cas:=[(99,sp_sconcat)]) (ms:=misc) (.cons ok_scontains .nil) (.cons ok_sconcat .nil) misc_ok 69 Tryz.f69 (by kernel_rfl) (by kernel_rfl) (by kernel_rfl) (fun _ _=>.nil) ?_
 intro args mem p r post hs hp
 unfold sp_phas at hs
 simp only at hs
 split at hs
 ·rename_i k a b c d
  cases hs
  refine h k a b c d ?_
  ·exact hp
 ·cases hs
theorem ok_phas:FnA 69 sp_phas:=of_phas (by
 intro k a b c d h
 rw [vc_phas]
 refine ⟨h,?_,?_⟩
 ·simp only [List.length_append]; omega
 ·rfl)
def sp_pall:FSpec:=⟨[],fun | [.agg [.rd (.items pre),.rd (.items suf),.bool hn,.rd (.items npre),.rd (.items nsuf),.int .i64 mi,.int .i64 xi,.int .i64 mf,.int .i64 xf,.int .i64 ms,.int .i64 xs,.int .i64 pr,.int .i64 sc,.str inc,.bool ps,.int .i64 me,.bool px,.int .i64 pa,.int .i32 pd,.int .i64 pw],.one (.int .i64 k)]=>some ([pre.length+suf.length+npre.length+nsuf.length≤1000000000],.one (.bool (hasItm k (pre++suf++npre++nsuf)))) | _=>none⟩
theorem vc_pall (pre suf:List Itm) (hn:Bool) (npre nsuf:List Itm) (mi xi mf xf ms xs pr sc:Int) (inc:List UInt8) (ps:Bool) (me:Int) (px:Bool) (pa pd pw:Int) (k:Int):vcP [] [(69,sp_phas)] misc Tryz.f35 (.nil) [.agg [.rd (.items pre),.rd (.items suf),.bool hn,.rd (.items npre),.rd (.items nsuf),.int .i64 mi,.int .i64 xi,.int .i64 mf,.int .i64 xf,.int .i64 ms,.int .i64 xs,.int .i64 pr,.int .i64 sc,.str inc,.bool ps,.int .i64 me,.bool px,.int .i64 pa,.int .i32 pd,.int .i64 pw],.one (.int .i64 k)] (.one (.bool (hasItm k (pre++suf++npre++nsuf))))=((List.length pre+List.length suf+List.length npre+List.length nsuf≤(1000000000:Nat)∧hasItm k (pre++suf++npre++nsuf)=hasItm k (pre++suf++npre++nsuf))):=by kernel_rfl
set_option maxHeartbeats 4000000 in
theorem of_pall (h:∀ (pre suf:List Itm) (hn:Bool) (npre nsuf:List Itm) (mi xi mf xf ms xs pr sc:Int) (inc:List UInt8) (ps:Bool) (me:Int) (px:Bool) (pa pd pw:Int) (k:Int),(pre.length+suf.length+npre.length+nsuf.length≤1000000000)→vcP [] [(69,sp_phas)] misc Tryz.f35 (.nil) [.agg [.rd (.items pre),.rd (.items suf),.bool hn,.rd (.items npre),.rd (.items nsuf),.int .i64 mi,.int .i64 xi,.int .i64 mf,.int .i64 xf,.int .i64 ms,.int .i64 xs,.int .i64 pr,.int .i64 sc,.str inc,.bool ps,.int .i64 me,.bool px,.int .i64 pa,.int .i32 pd,.int .i64 pw],.one (.int .i64 k)] (.one (.bool (hasItm k (pre++suf++npre++nsuf))))):FnP 35 sp_pall:=by
 refine fnP_ok (cs:=[]) (cas:=[(69,sp_phas)]) (ms:=misc) .nil (.cons ok_phas .nil) misc_ok 35 Tryz.f35 (by kernel_rfl) (by kernel_rfl) (by kernel_rfl) (fun _=>.nil) ?_
 intro pvs p r hs hp
 unfold sp_pall at hs
 simp only at hs
 split at hs
 ·rename_i pre suf hn npre nsuf mi xi mf xf ms xs pr sc inc ps me px pa pd pw k
  cases hs
  refine h pre suf hn npre nsuf mi xi mf xf ms xs pr sc inc ps me px pa pd pw k ?_
  ·exact hp
 ·cases hs
theorem ok_pall:FnP 35 sp_pall:=of_pall (by
 intro pre suf hn npre nsuf mi xi mf xf ms xs pr sc inc ps me px pa pd pw k h
 rw [vc_pall]
 exact ⟨h,rfl⟩)
def multT (l:List Itm):Int:=if hasItm 4 l=true then 2 else if hasItm 5 l=true then 3 else 0
def sp_pmult:FSpec:=⟨[],fun | [.agg [.rd (.items pre),.rd (.items suf),.bool hn,.rd (.items npre),.rd (.items nsuf),.int .i64 mi,.int .i64 xi,.int .i64 mf,.int .i64 xf,.int .i64 ms,.int .i64 xs,.int .i64 pr,.int .i64 sc,.str inc,.bool ps,.int .i64 me,.bool px,.int .i64 pa,.int .i32 pd,.int .i64 pw]]=>some ([pre.length+suf.length+npre.length+nsuf.length≤1000000000],.one (.int .i64 (multT (pre++suf++npre++nsuf)))) | _=>none⟩
theorem vc_pmult (pre suf:List Itm) (hn:Bool) (npre nsuf:List Itm) (mi xi mf xf ms xs pr sc:Int) (inc:List UInt8) (ps:Bool) (me:Int) (px:Bool) (pa pd pw:Int):vcP [(35,sp_pall)] [] misc Tryz.f29 (.nil) [.agg [.rd (.items pre),.rd (.items suf),.bool hn,.rd (.items npre),.rd (.items nsuf),.int .i64 mi,.int .i64 xi,.int .i64 mf,.int .i64 xf,.int .i64 ms,.int .i64 xs,.int .i64 pr,.int .i64 sc,.str inc,.bool ps,.int .i64 me,.bool px,.int .i64 pa,.int .i32 pd,.int .i64 pw]] (.one (.int .i64 (multT (pre++suf++npre++nsuf))))=(letI v0:=(pre++suf++npre++nsuf); (List.length pre+List.length suf+List.length npre+List.length nsuf≤(1000000000:Nat)∧br (hasItm (4:Int) v0) ((2:Int)=multT v0) (List.length pre+List.length suf+List.length npre+List.length nsuf≤(1000000000:Nat)∧br (hasItm (5:Int) v0) ((3:Int)=multT v0) ((0:Int)=multT v0)))):=by kernel_rfl
set_option maxHeartbeats 4000000 in
theorem of_pmult (h:∀ (pre suf:List Itm) (hn:Bool) (npre nsuf:List Itm) (mi xi mf xf ms xs pr sc:Int) (inc:List UInt8) (ps:Bool) (me:Int) (px:Bool) (pa pd pw:Int),(pre.length+suf.length+npre.length+nsuf.length≤1000000000)→vcP [(35,sp_pall)] [] misc Tryz.f29 (.nil) [.agg [.rd (.items pre),.rd (.items suf),.bool hn,.rd (.items npre),.rd (.items nsuf),.int .i64 mi,.int .i64 xi,.int .i64 mf,.int .i64 xf,.int .i64 ms,.int .i64 xs,.int .i64 pr,.int .i64 sc,.str inc,.bool ps,.int .i64 me,.bool px,.int .i64 pa,.int .i32 pd,.int .i64 pw]] (.one (.int .i64 (multT (pre++suf++npre++nsuf))))):FnP 29 sp_pmult:=by
 refine fnP_ok (cs:=[(35,sp_pall)]) (cas:=[]) (ms:=misc) (.cons ok_pall .nil) .nil misc_ok 29 Tryz.f29 (by kernel_rfl) (by kernel_rfl) (by kernel_rfl) (fun _=>.nil) ?_
 intro pvs p r hs hp
 unfold sp_pmult at hs
 simp only at hs
 split at hs
 ·rename_i pre suf hn npre nsuf mi xi mf xf ms xs pr sc inc ps me px pa pd pw
  cases hs
  refine h pre suf hn npre nsuf mi xi mf xf ms xs pr sc inc ps me px pa pd pw ?_
  ·exact hp
 ·cases hs
theorem ok_pmult:FnP 29 sp_pmult:=of_pmult (by
 intro pre suf hn npre nsuf mi xi mf xf ms xs pr sc inc ps me px pa pd pw h
 rw [vc_pmult]
 unfold multT
 exact ⟨h,br_of (fun h1=>by rw [if_pos h1]) fun h1=>⟨h,br_of (fun h2=>by rw [if_neg (by rw [h1]; decide),if_pos h2]) fun h2=>by rw [if_neg (by rw [h1]; decide),if_neg (by rw [h2]; decide)]⟩⟩)
end Go.Proofs.YtglfkihckkjniaaGreatDoor.Vx
