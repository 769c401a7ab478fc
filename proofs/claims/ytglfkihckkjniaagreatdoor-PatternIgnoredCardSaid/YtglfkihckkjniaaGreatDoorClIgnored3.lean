/-
A part of the proof of Ignored: lemmas and contracts. No statement of the seat is proved here.
-/
import Derived.Lib.SliceRun
import Derived.Test.YtglfkihckkjniaaGreatDoorClIgnored2
set_option maxRecDepth 100000
set_option linter.unusedVariables false
set_option linter.unusedSimpArgs false
namespace Go.Proofs.YtglfkihckkjniaaGreatDoor.Vx
open Go Go.RowKit
structure Pat where
 pre:List Itm
 suf:List Itm
 hn:Bool
 npre:List Itm
 nsuf:List Itm
 n:Num
 pa:Int
 pd:Int
 pw:Int
def Pat.pcs (p:Pat):List Pc:=[.rd (.items p.pre),.rd (.items p.suf),.bool p.hn,.rd (.items p.npre),.rd (.items p.nsuf),.int .i64 p.n.mi,.int .i64 p.n.xi,.int .i64 p.n.mf,.int .i64 p.n.xf,.int .i64 p.n.ms,.int .i64 p.n.xs,.int .i64 p.n.pr,.int .i64 p.n.sc,.str p.n.inc,.bool p.n.ps,.int .i64 p.n.me,.bool p.n.px,.int .i64 p.pa,.int .i32 p.pd,.int .i64 p.pw]
def itmsOf:Pc→Option (List Itm) | .rd (.items l)=>some l | _=>none
def boolPc:Pc→Option Bool | .bool b=>some b | _=>none
def i64Pc:Pc→Option Int | .int .i64 n=>some n | _=>none
def i32Pc:Pc→Option Int | .int .i32 n=>some n | _=>none
def strPc:Pc→Option (List UInt8) | .str s=>some s | _=>none
theorem itmsOf_eq {x:Pc} {l:List Itm} (h:itmsOf x=some l):x=.rd (.items l):=by unfold itmsOf at h; split at h<;>cases h; rfl
theorem boolPc_eq {x:Pc} {l:Bool} (h:boolPc x=some l):x=.bool l:=by unfold boolPc at h; split at h<;>cases h; rfl
theorem i64Pc_eq {x:Pc} {l:Int} (h:i64Pc x=some l):x=.int .i64 l:=by unfold i64Pc at h; split at h<;>cases h; rfl
theorem i32Pc_eq {x:Pc} {l:Int} (h:i32Pc x=some l):x=.int .i32 l:=by unfold i32Pc at h; split at h<;>cases h; rfl
theorem strPc_eq {x:Pc} {l:List UInt8} (h:strPc x=some l):x=.str l:=by unfold strPc at h; split at h<;>cases h; rfl
def patOf:List Pc→Option Pat
 | [a,b,c,d,e,f,g,h,i,j,k,l,m,n,o,p,q,r,s,t] =>
  (itmsOf a).bind fun a=>(itmsOf b).bind fun b=>(boolPc c).bind fun c=>(itmsOf d).bind fun d=>(itmsOf e).bind fun e =>
  (i64Pc f).bind fun f=>(i64Pc g).bind fun g=>(i64Pc h).bind fun h=>(i64Pc i).bind fun i=>(i64Pc j).bind fun j=>(i64Pc k).bind fun k=>(i64Pc l).bind fun l=>(i64Pc m).bind fun m =>
  (strPc n).bind fun n=>(boolPc o).bind fun o=>(i64Pc p).bind fun p=>(boolPc q).bind fun q=>(i64Pc r).bind fun r=>(i32Pc s).bind fun s=>(i64Pc t).bind fun t =>
  some ⟨a,b,c,d,e,⟨f,g,h,i,j,k,l,m,n,o,p,q⟩,r,s,t⟩
 | _=>none
theorem patOf_eq {l:List Pc} {p:Pat} (h:patOf l=some p):l=p.pcs:=by
 unfold patOf at h
 split at h
 ·simp only [Option.bind_eq_some_iff] at h
  obtain ⟨a,ha,b,hb,c,hc,d,hd,e,he,f,hf,g,hg,hh,h1,i,hi,j,hj,k,hk,l,hl,m,hm,n,hn,o,ho,p',hp,q,hq,r,hr,s,hs,t,ht,h2⟩:=h
  cases h2
  rw [itmsOf_eq ha,itmsOf_eq hb,boolPc_eq hc,itmsOf_eq hd,itmsOf_eq he,i64Pc_eq hf,i64Pc_eq hg,i64Pc_eq h1,i64Pc_eq hi,i64Pc_eq hj,i64Pc_eq hk,i64Pc_eq hl,i64Pc_eq hm,strPc_eq hn,boolPc_eq ho,i64Pc_eq hp,boolPc_eq hq,i64Pc_eq hr,i32Pc_eq hs,i64Pc_eq ht]
  rfl
 ·cases h
structure PT where
 px:List Itm
 sx:List Itm
 n:Num
 w:Int
 sp:Spot
def PT.pcs (t:PT):List Pc:=.rd (.items t.px) :: .rd (.items t.sx) :: ((⟨[],[],false,[],[],t.n,0,0,t.w⟩:Pat).pcs++[.int .i32 t.sp.r,.int .i64 t.sp.p,.int .i64 t.sp.w])
def pt0:PT:=⟨[],[],z0,0,⟨0,0,0⟩⟩
def readT (l:List Iv) (b:Int) (first:Bool):PT×Int×Int :=
 if (cutT l b).2=false then (pt0,4,b)
 else if (paddedT (spotsT (cutT l b).1.p (cutT l b).1.s) first).2.1≠0 then (pt0,(paddedT (spotsT (cutT l b).1.p (cutT l b).1.s) first).2)
 else if (itemsR (plainT (cutT l b).1.p)).2.1≠0 then (pt0,(itemsR (plainT (cutT l b).1.p)).2)
 else if (numT (cutT l b).1.t).2≠0 then (pt0,(numT (cutT l b).1.t).2,(cutT l b).1.a)
 else if (itemsR (plainT (cutT l b).1.s)).2.1≠0 then (pt0,(itemsR (plainT (cutT l b).1.s)).2)
 else (⟨(itemsR (plainT (cutT l b).1.p)).1,(itemsR (plainT (cutT l b).1.s)).1,(numT (cutT l b).1.t).1,
  if (paddedT (spotsT (cutT l b).1.p (cutT l b).1.s) first).1.w≠0 then ((itemsR (plainT (cutT l b).1.p)).1.length:Int)+((itemsR (plainT (cutT l b).1.s)).1.length:Int)+((cutT l b).1.t.length:Int) else 0,
  (paddedT (spotsT (cutT l b).1.p (cutT l b).1.s) first).1⟩,0,0)
def sp_pread:FSpec:=⟨[],fun | [.one (.rd (.ivs l)),.one (.int .i64 b),.one (.bool first)]=>some ([EOK l,l.length≤1000000],.tup [(true,(readT l b first).1.pcs),(true,[.int .i64 (readT l b first).2.1,.int .i64 (readT l b first).2.2])]) | _=>none⟩
theorem vc_pread (l:List Iv) (b:Int) (first:Bool):vcP [(63,sp_pcut),(64,sp_padded),(66,sp_plain),(65,sp_aitems),(67,sp_nparse)] [] misc Tryz.f33 (.nil) [.one (.rd (.ivs l)),.one (.int .i64 b),.one (.bool first)] (.tup [(true,(readT l b first).1.pcs),(true,[.int .i64 (readT l b first).2.1,.int .i64 (readT l b first).2.2])])=(letI v0:Pat:={ pre:=[],suf:=[],hn:=false,npre:=[],nsuf:=[],n:=PT.n (readT l b first).1,pa:=(0:Int),pd:=(0:Int),pw:=PT.w (readT l b first).1 }; letI v1:=([]=PT.px (readT l b first).1∧[]=PT.sx (readT l b first).1∧[]=Pat.pre v0∧[]=Pat.suf v0∧false=Pat.hn v0∧[]=Pat.npre v0∧[]=Pat.nsuf v0∧(0:Int)=Num.mi (Pat.n v0)∧(0:Int)=Num.xi (Pat.n v0)∧(0:Int)=Num.mf (Pat.n v0)∧(0:Int)=Num.xf (Pat.n v0)∧(0:Int)=Num.ms (Pat.n v0)∧(0:Int)=Num.xs (Pat.n v0)∧(0:Int)=Num.pr (Pat.n v0)∧(0:Int)=Num.sc (Pat.n v0)∧[]=Num.inc (Pat.n v0)∧false=Num.ps (Pat.n v0)∧(0:Int)=Num.me (Pat.n v0)∧false=Num.px (Pat.n v0)∧(0:Int)=Pat.pa v0∧(0:Int)=Pat.pd v0∧(0:Int)=Pat.pw v0∧(0:Int)=Spot.r (PT.sp (readT l b first).1)∧(0:Int)=Spot.p (PT.sp (readT l b first).1)∧(0:Int)=Spot.w (PT.sp (readT l b first).1)); letI v2:=(numT (HalfT.t (cutT l b).1)); letI v3:=(paddedT (spotsT (HalfT.p (cutT l b).1) (HalfT.s (cutT l b).1)) first); letI v4:=(itemsR (plainT (HalfT.p (cutT l b).1))); letI v5:=(itemsR (plainT (HalfT.s (cutT l b).1))); ((∀ (y:Iv),y∈l→Iv.isE y=true∧(Iv.isS y=true→scalar (Iv.sR y)=true))∧List.length l≤(1000000000:Nat)∧br (!(cutT l b).2) (v1∧(4:Int)=(readT l b first).2.1∧b=(readT l b first).2.2) (List.length (HalfT.p (cutT l b).1)≤(1000000000:Nat)∧List.length (HalfT.s (cutT l b).1)≤(1000000000:Nat)∧br (v3.2.1 != (0:Int)) (v1∧v3.2.1=(readT l b first).2.1∧v3.2.2=(readT l b first).2.2) (List.length (HalfT.p (cutT l b).1)≤(1000000000:Nat)∧List.length (plainT (HalfT.p (cutT l b).1))≤(1000000000:Nat)∧br (v4.2.1 != (0:Int)) (v1∧v4.2.1=(readT l b first).2.1∧v4.2.2=(readT l b first).2.2) ((∀ (c:UInt8),c∈HalfT.t (cutT l b).1→UInt8.toNat c<(128:Nat))∧List.length (HalfT.t (cutT l b).1)≤(100000000:Nat)∧br (v2.2 != (0:Int)) (v1∧v2.2=(readT l b first).2.1∧HalfT.a (cutT l b).1=(readT l b first).2.2) (List.length (HalfT.s (cutT l b).1)≤(1000000000:Nat)∧List.length (plainT (HalfT.s (cutT l b).1))≤(1000000000:Nat)∧br (v5.2.1 != (0:Int)) (v1∧v5.2.1=(readT l b first).2.1∧v5.2.2=(readT l b first).2.2) (br (Spot.w v3.1 != (0:Int)) (inR IntKind.i64 ((↑(List.length v4.1):Int)+(↑(List.length v5.1):Int))∧inR IntKind.i64 ((↑(List.length v4.1):Int)+(↑(List.length v5.1):Int)+(↑(List.length (HalfT.t (cutT l b).1)):Int))∧(v4.1=PT.px (readT l b first).1∧v5.1=PT.sx (readT l b first).1∧[]=Pat.pre v0∧[]=Pat.suf v0∧false=Pat.hn v0∧[]=Pat.npre v0∧[]=Pat.nsuf v0∧Num.mi v2.1=Num.mi (Pat.n v0)∧Num.xi v2.1=Num.xi (Pat.n v0)∧Num.mf v2.1=Num.mf (Pat.n v0)∧Num.xf v2.1=Num.xf (Pat.n v0)∧Num.ms v2.1=Num.ms (Pat.n v0)∧Num.xs v2.1=Num.xs (Pat.n v0)∧Num.pr v2.1=Num.pr (Pat.n v0)∧Num.sc v2.1=Num.sc (Pat.n v0)∧Num.inc v2.1=Num.inc (Pat.n v0)∧Num.ps v2.1=Num.ps (Pat.n v0)∧Num.me v2.1=Num.me (Pat.n v0)∧Num.px v2.1=Num.px (Pat.n v0)∧(0:Int)=Pat.pa v0∧(0:Int)=Pat.pd v0∧(↑(List.length v4.1):Int)+(↑(List.length v5.1):Int)+(↑(List.length (HalfT.t (cutT l b).1)):Int)=Pat.pw v0∧Spot.r v3.1=Spot.r (PT.sp (readT l b first).1)∧Spot.p v3.1=Spot.p (PT.sp (readT l b first).1)∧Spot.w v3.1=Spot.w (PT.sp (readT l b first).1))∧(0:Int)=(readT l b first).2.1∧(0:Int)=(readT l b first).2.2) ((v4.1=PT.px (readT l b first).1∧v5.1=PT.sx (readT l b first).1∧[]=Pat.pre v0∧[]=Pat.suf v0∧false=Pat.hn v0∧[]=Pat.npre v0∧[]=Pat.nsuf v0∧Num.mi v2.1=Num.mi (Pat.n v0)∧Num.xi v2.1=Num.xi (Pat.n v0)∧Num.mf v2.1=Num.mf (Pat.n v0)∧Num.xf v2.1=Num.xf (Pat.n v0)∧Num.ms v2.1=Num.ms (Pat.n v0)∧Num.xs v2.1=Num.xs (Pat.n v0)∧Num.pr v2.1=Num.pr (Pat.n v0)∧Num.sc v2.1=Num.sc (Pat.n v0)∧Num.inc v2.1=Num.inc (Pat.n v0)∧Num.ps v2.1=Num.ps (Pat.n v0)∧Num.me v2.1=Num.me (Pat.n v0)∧Num.px v2.1=Num.px (Pat.n v0)∧(0:Int)=Pat.pa v0∧(0:Int)=Pat.pd v0∧(0:Int)=Pat.pw v0∧Spot.r v3.1=Spot.r (PT.sp (readT l b first).1)∧Spot.p v3.1=Spot.p (PT.sp (readT l b first).1)∧Spot.w v3.1=Spot.w (PT.sp (readT l b first).1))∧(0:Int)=(readT l b first).2.1∧(0:Int)=(readT l b first).2.2)))))))):=by kernel_rfl
set_option maxHeartbeats 4000000 in
theorem of_pread (h:∀ (l:List Iv) (b:Int) (first:Bool),(EOK l)→(l.length≤1000000)→vcP [(63,sp_pcut),(64,sp_padded),(66,sp_plain),(65,sp_aitems),(67,sp_nparse)] [] misc Tryz.f33 (.nil) [.one (.rd (.ivs l)),.one (.int .i64 b),.one (.bool first)] (.tup [(true,(readT l b first).1.pcs),(true,[.int .i64 (readT l b first).2.1,.int .i64 (readT l b first).2.2])])):FnP 33 sp_pread:=by
 refine fnP_ok (cs:=[(63,sp_pcut),(64,sp_padded),(66,sp_plain),(65,sp_aitems),(67,sp_nparse)]) (cas:=[]) (ms:=misc) (.cons ok_pcut (.cons ok_padded (.cons ok_plain (.cons ok_aitems (.cons ok_nparse .nil))))) .nil misc_ok 33 Tryz.f33 (by kernel_rfl) (by kernel_rfl) (by kernel_rfl) (fun _=>.nil) ?_
 intro pvs p r hs hp
 unfold sp_pread at hs
 simp only at hs
 split at hs
 ·rename_i l b first
  cases hs
  refine h l b first ?_ ?_
  ·exact hp.1
  ·exact hp.2
 ·cases hs
theorem itemsR_len (l:List Tok):(itemsR l).1.length≤40:=by
 unfold itemsR
 split
 ·exact Nat.zero_le _
 ·split
  ·exact Nat.zero_le _
  ·show (itemsL l).1.length≤40; omega
theorem isIn_asc {c:List UInt8} (hc:Asc c) {y:Iv} (h:isIn c y=true):0≤y.sR∧y.sR<128:=by
 unfold isIn hasR at h
 rw [Bool.and_eq_true,Bool.and_eq_true,List.any_eq_true] at h
 obtain ⟨_,_,x,hx,h2⟩:=h
 have h2:(x.toNat:Int)=y.sR:=by simpa using h2
 have:=hc x hx
 omega
theorem cut_asc {l:List Iv} (h:cutN l<l.length) {i:Nat} (h1:cutN l≤i) (h2:i<cutE l):0≤(l.getD i default).sR∧(l.getD i default).sR<128:=by
 have h69:Asc [69]:=asc_iff.2 rfl
 have h43:Asc [43]:=asc_iff.2 rfl
 by_cases ha:i<cutA l (cutN l)
 ·exact isIn_asc bodyC_asc (run_drop h1 ha)
 ·unfold cutE at h2
  split at h2
  ·rename_i h3
   by_cases hb:i<cutB l (cutA l (cutN l))
   ·by_cases hc:i=cutA l (cutN l)
    ·subst hc
     exact isIn_asc h69 (run_drop (c:=[69]) (Nat.le_refl _) (by omega))
    ·refine isIn_asc h43 (run_drop (c:=[43]) (p:=cutA l (cutN l)+1) (by omega) ?_)
     unfold cutB at hb
     omega
   ·exact isIn_asc bodyC_asc (run_drop (by omega) h2)
  ·exact absurd h2 ha
theorem encs_asc:∀ {l:List Int},(∀ r∈l,0≤r∧r<128)→Asc (encs l)∧(encs l).length=l.length:=by
 intro l
 induction l with
 | nil=>intro _; exact ⟨fun c hc=>(by cases hc),rfl⟩
 | cons r l ih =>
  intro h
  obtain ⟨h1,h2⟩:=ih fun x hx=>h x (List.mem_cons_of_mem _ hx)
  have h3:=h r List.mem_cons_self
  rw [encs_cons,enc1 h3.1 h3.2]
  refine ⟨fun c hc=>?_,by simp [h2]⟩
  rcases List.mem_cons.1 hc with hc | hc
  ·rw [hc]
   have:=ofNat_toNat h3.1 (by omega:r<256)
   omega
  ·exact h1 c hc
theorem cutT_txt (l:List Iv) (b:Int):Asc (cutT l b).1.t∧(cutT l b).1.t.length≤l.length∧(cutT l b).1.p.length≤l.length∧(cutT l b).1.s.length≤l.length:=by
 unfold cutT
 split
 ·rename_i h
  have hh:=encs_asc (l:=((l.take (cutE l)).drop (cutN l)).map Iv.sR) (by
   intro r hr
   obtain ⟨y,hy,rfl⟩:=List.mem_map.1 hr
   obtain ⟨i,i1,i2,i3,rfl⟩:=mem_mid default hy
   exact cut_asc h i1 i2)
  refine ⟨hh.1,?_,?_,?_⟩
  ·show (encs _).length≤_
   rw [hh.2,List.length_map,List.length_drop,List.length_take]; omega
  ·show (l.take _).length≤_
   rw [List.length_take]; omega
  ·show (l.drop _).length≤_
   rw [List.length_drop]; omega
 ·exact ⟨fun c hc=>(by cases hc),Nat.zero_le _,Nat.zero_le _,Nat.zero_le _⟩
set_option maxHeartbeats 4000000 in
theorem ok_pread:FnP 33 sp_pread:=of_pread (by
 intro l b first hl hn
 rw [vc_pread]
 obtain ⟨t1,t2,t3,t4⟩:=cutT_txt l b
 have p1:=plainT_len (cutT l b).1.p
 have p2:=plainT_len (cutT l b).1.s
 have i1:=itemsR_len (plainT (cutT l b).1.p)
 have i2:=itemsR_len (plainT (cutT l b).1.s)
 refine ⟨hl,by omega,br_of (fun h=>?_) fun h=>⟨by omega,by omega,br_of (fun h1=>?_) fun h1=>⟨by omega,by omega,br_of (fun h2=>?_) fun h2=>⟨t1,by omega,br_of (fun h3=>?_) fun h3=>⟨by omega,by omega,br_of (fun h4=>?_) fun h4=>br_of (fun h5=>⟨by simp only [inR]; omega,by simp only [inR]; omega,?_⟩) fun h5=>?_⟩⟩⟩⟩⟩
 ·have h:(cutT l b).2=false:=by simpa using h
  have hE:readT l b first=(pt0,4,b):=by unfold readT; rw [if_pos h]
  rw [hE]; and_intros<;>rfl
 all_goals have h:¬ (cutT l b).2=false:=by simpa using h
 ·have h1:(paddedT (spotsT (cutT l b).1.p (cutT l b).1.s) first).2.1≠0:=by simpa using h1
  have hE:readT l b first=(pt0,(paddedT (spotsT (cutT l b).1.p (cutT l b).1.s) first).2):=by unfold readT; rw [if_neg h,if_pos h1]
  rw [hE]; and_intros<;>rfl
 all_goals have h1:¬ (paddedT (spotsT (cutT l b).1.p (cutT l b).1.s) first).2.1≠0:=by simpa using h1
 ·have h2:(itemsR (plainT (cutT l b).1.p)).2.1≠0:=by simpa using h2
  have hE:readT l b first=(pt0,(itemsR (plainT (cutT l b).1.p)).2):=by unfold readT; rw [if_neg h,if_neg h1,if_pos h2]
  rw [hE]; and_intros<;>rfl
 all_goals have h2:¬ (itemsR (plainT (cutT l b).1.p)).2.1≠0:=by simpa using h2
 ·have h3:(numT (cutT l b).1.t).2≠0:=by simpa using h3
  have hE:readT l b first=(pt0,(numT (cutT l b).1.t).2,(cutT l b).1.a):=by unfold readT; rw [if_neg h,if_neg h1,if_neg h2,if_pos h3]
  rw [hE]; and_intros<;>rfl
 all_goals have h3:¬ (numT (cutT l b).1.t).2≠0:=by simpa using h3
 ·have h4:(itemsR (plainT (cutT l b).1.s)).2.1≠0:=by simpa using h4
  have hE:readT l b first=(pt0,(itemsR (plainT (cutT l b).1.s)).2):=by unfold readT; rw [if_neg h,if_neg h1,if_neg h2,if_neg h3,if_pos h4]
  rw [hE]; and_intros<;>rfl
 all_goals have h4:¬ (itemsR (plainT (cutT l b).1.s)).2.1≠0:=by simpa using h4
 ·have h5:(paddedT (spotsT (cutT l b).1.p (cutT l b).1.s) first).1.w≠0:=by simpa using h5
  have hE:readT l b first=(⟨(itemsR (plainT (cutT l b).1.p)).1,(itemsR (plainT (cutT l b).1.s)).1,(numT (cutT l b).1.t).1,((itemsR (plainT (cutT l b).1.p)).1.length:Int)+((itemsR (plainT (cutT l b).1.s)).1.length:Int)+((cutT l b).1.t.length:Int),(paddedT (spotsT (cutT l b).1.p (cutT l b).1.s) first).1⟩,0,0):=by
   unfold readT; rw [if_neg h,if_neg h1,if_neg h2,if_neg h3,if_neg h4,if_pos h5]
  rw [hE]; and_intros<;>rfl
 ·have h5:¬ (paddedT (spotsT (cutT l b).1.p (cutT l b).1.s) first).1.w≠0:=by simpa using h5
  have hE:readT l b first=(⟨(itemsR (plainT (cutT l b).1.p)).1,(itemsR (plainT (cutT l b).1.s)).1,(numT (cutT l b).1.t).1,0,(paddedT (spotsT (cutT l b).1.p (cutT l b).1.s) first).1⟩,0,0):=by
   unfold readT; rw [if_neg h,if_neg h1,if_neg h2,if_neg h3,if_neg h4,if_neg h5]
  rw [hE]; and_intros<;>rfl)
end Go.Proofs.YtglfkihckkjniaaGreatDoor.Vx
namespace Go.Proofs.YtglfkihckkjniaaGreatDoor.Vx
open Go Go.RowKit
theorem item_info:∃ inf z,Tryz.prog.info? 79=some inf∧inf.zero=some z∧inf.size=2∧inf.bytes=16∧z.cells.size=2:=by
 obtain ⟨i,hi⟩:=Option.isSome_iff_exists.1 (show (look 79 T).isSome=true by kernel_rfl)
 have hsz:i.size=2:=by
  have h1:(look 79 T).map (fun i=>i.size)=some 2:=by kernel_rfl
  rw [hi] at h1; simpa using h1
 have hby:i.bytes=16:=by
  have h1:(look 79 T).map (fun i=>i.bytes)=some 16:=by kernel_rfl
  rw [hi] at h1; simpa using h1
 obtain ⟨inf,d,z,tt⟩:=tbl_get T_ok hi
 refine ⟨inf,z,tt.info,tt.zero,by rw [tt.size,hsz],by rw [tt.bytes,hby],?_⟩
 have h1:=denL_length (tt.zden fun _=>none)
 rw [tt.zlen,hsz] at h1
 have h2:z.cells.toList.length=z.cells.size:=Array.length_toList
 omega
set_option maxHeartbeats 2000000 in
theorem clone_some (w:World) (a:Addr) (n c:Nat) (news:List Value) (hl:news.length=n*2) (hnews:∀ j u,news[j]? = some u→w.cell? (a.add j)=some u) (h1:∀ u∈news,u.oneCell'=true) (hn:n≤1000000000) :
  Calls Tryz.prog 68 #[.slice (some a) n c] w fun e w'=>∃ v',e=.returned v'∧w'.ownsRow w.heap.size 79 2 v' n news∧Below w.heap.size w w':=by
 obtain ⟨inf,z,hi,hz,hs,hb,hz2⟩:=item_info
 have q22:=fun (w:World) (a:Option Addr) (n c n' c':Nat)=>Lib.run_eql_slice_nil (P:=Tryz.prog) w 23 79 a n c n' c' Tryz.underlying23
 have mx:Tryz.prog.follows .mixedOrders=true:=mixed
 go_enter Tryz.func68,Tryz.ntmps68
 go_wp2_with (at_builtin; refine wpList_append_own _ rfl _ _ 23 rfl w.heap.size 79 inf z 2 16 Tryz.underlying23 hi hz hs hb hz2 (by decide) _ _ _ rfl (World.ownsRow_made w #[] 0 (Nat.le_refl _) (Nat.zero_le _) rfl) a n c news rfl hl ?qc2 h1 ?qc4 ?qc5 ?qc6 ?_)
 case qc2 =>
  intro j u hj
  exact Lib.cell?_alloc_some _ (hnews j u hj)
 case qc4=>unfold maxLen; omega
 case qc5=>omega
 case qc6=>simp
 intro v' w1 hown hgrow hnil
 go_wp2
 go_ret
 refine ⟨v',rfl,by simpa using hown,?_⟩
 exact ((Below.refl _ w).alloc (Nat.le_refl _) _).grown hgrow (by simp) (by intro k hk; simp [Value.ownBlock] at hk; omega)
set_option maxHeartbeats 2000000 in
theorem clone_none (w:World) (n c:Nat) :
  Calls Tryz.prog 68 #[.slice none n c] w fun e w'=>e=.returned (.slice none 0 0)∧w'=w:=by
 have q22:=fun (w:World) (a:Option Addr) (n c n' c':Nat)=>Lib.run_eql_slice_nil (P:=Tryz.prog) w 23 79 a n c n' c' Tryz.underlying23
 have mx:Tryz.prog.follows .mixedOrders=true:=mixed
 go_enter Tryz.func68,Tryz.ntmps68
 go_wp2
 go_ret
 exact ⟨rfl,rfl⟩
theorem items_flat_len (l:List Itm):(Ls.flat (.items l)).length=l.length*2:=by
 unfold Ls.flat
 simp only [Ls.rows]
 induction l with
 | nil=>rfl
 | cons x l ih=>rw [List.map_cons,List.flatten_cons,List.length_append,ih]; show 2+_=(l.length+1)*2; omega
theorem items_flat_one (l:List Itm):∀ u∈Ls.flat (.items l),u.oneCell'=true:=by
 intro u hu
 unfold Ls.flat at hu
 simp only [Ls.rows] at hu
 obtain ⟨r,hr,hu⟩:=List.mem_flatten.1 hu
 obtain ⟨x,_,rfl⟩:=List.mem_map.1 hr
 simp only [Itm.enc,List.mem_cons,List.not_mem_nil,or_false] at hu
 rcases hu with rfl | rfl<;>rfl
def sp_sclone:FSpec:=⟨[],fun | [.one (.rd (.items l))]=>some ([l.length≤1000000000],.one (.rd (.items l))) | _=>none⟩
theorem ok_sclone:FnP 68 sp_sclone:=by
 refine ⟨body_of Tryz.f68 (by kernel_rfl) (by kernel_rfl) (by kernel_rfl),?_⟩
 intro pvs p r hs hp w B args hg ha
 unfold sp_sclone at hs
 simp only at hs
 split at hs
 ·rename_i l
  cases hs
  have hp:l.length≤1000000000:=hp
  obtain ⟨v,rfl,hv⟩:=args1 ha
  obtain ⟨A,c,rfl,h1,h2,h3⟩:=hv
  cases A with
  | none =>
   have h0:l=[]:=by
    cases l with
    | nil=>rfl
    | cons x l =>
     obtain ⟨b,o,e,_⟩:=h3 (Nat.succ_pos _)
     cases e
   subst h0
   refine (clone_none w 0 c).mono ?_
   rintro e w' ⟨rfl,rfl⟩
   exact ⟨_,rfl,Fr.refl _ _,⟨none,0,rfl,Nat.le_refl _,Nat.zero_le _,fun h=>absurd h (Nat.lt_irrefl _)⟩⟩
  | some a =>
   have hfl:=items_flat_len l
   refine (clone_some w a l.length c (Ls.flat (.items l)) hfl ?_ (items_flat_one l) hp).mono ?_
   ·intro j u hj
    have hjl:=(List.getElem?_eq_some_iff.1 hj).1
    have hpos:0<l.length:=by omega
    obtain ⟨b,o,e,h4,_⟩:=h3 hpos
    cases e
    rw [Addr.add_lit]
    have hsz:(Ls.items l).len*(Ls.items l).sz=l.length*2:=rfl
    rw [h4 j (by rw [hsz]; omega),hj]
   ·rintro e w' ⟨v',rfl,hown,hb⟩
    refine ⟨v',rfl,Fr.below hb _,?_⟩
    rcases hown.2 with ⟨rfl,hz⟩ | ⟨g,cap,cur,rfl,hbg,hg',hnc,hcm,hcs,htake⟩
    ·have h0:l=[]:=List.eq_nil_of_length_eq_zero hz
     subst h0
     exact ⟨none,0,rfl,Nat.le_refl _,Nat.zero_le _,fun h=>absurd h (Nat.lt_irrefl _)⟩
    ·refine ⟨some ⟨g,0,none⟩,cap,rfl,hnc,Nat.le_trans hnc hcm,fun _=>⟨g,0,rfl,fun j hj=>?_,.inl hbg⟩⟩
     have hsz:(Ls.items l).len*(Ls.items l).sz=l.length*2:=rfl
     rw [hsz] at hj
     rw [← htake,List.getElem?_take,if_pos hj]
     simp only [World.cell?,hg',Nat.zero_add]
     simp
 ·cases hs
end Go.Proofs.YtglfkihckkjniaaGreatDoor.Vx
namespace Go.Proofs.YtglfkihckkjniaaGreatDoor.Vx
open Go Go.RowKit
theorem relit {C:Ctx} {ρ:Env} {S:AS} {a:Act} {w:World} {dst:Option Nat} {fr n:Nat} {e:TypeId} {cs:List SC} {l0 l:Ls}
  (h:Sat C ρ (S.upd dst ⟨.one (.slc fr),[(fr,some (.lit e n cs))]⟩) a w) (h0:initLs e=some l0) (hr:snocs l0.sz n cs l0=some l) (hc:cs.length=n*l0.sz) (hn:n≤1000000) :
  Sat C ρ (S.upd dst ⟨.one (.slc fr),[(fr,some (.row e l))]⟩) a w:=by
 obtain ⟨z1,z2⟩:=initLs_len h0
 have hL:∀ k,(S.upd dst ⟨.one (.slc fr),[(fr,some (.row e l))]⟩).blk k=if fr=k then some (.row e l) else (S.upd dst ⟨.one (.slc fr),[(fr,some (.lit e n cs))]⟩).blk k:=by
  intro k
  show (look k ((fr,some (SB.row e l)) :: _)).join=if fr=k then _ else (look k ((fr,some (SB.lit e n cs)) :: _)).join
  rw [look_cons,look_cons]
  split<;>rfl
 have hF:(S.upd dst ⟨.one (.slc fr),[(fr,some (.lit e n cs))]⟩).blk fr=some (.lit e n cs):=by
  show (look fr ((fr,some (SB.lit e n cs)) :: _)).join=_
  rw [look_cons,if_pos rfl]; rfl
 refine ⟨h.frame,h.tsize,h.defers,h.one,h.pin,h.slots,?_,?_⟩
 ·intro k b hk
  rw [hL] at hk
  split at hk
  ·rename_i hfk
   subst hfk
   cases hk
   obtain ⟨v,h1,b,vs,rfl,h2,h3,h4⟩:=h.mem _ _ hF
   obtain ⟨us,g1,g2,g3,g4⟩:=snocs_ok ρ n cs l0 l hr (by omega)
   rw [← hc,List.take_length] at g1
   rw [g1] at h2
   cases h2
   have hlen:=denL_length g1
   refine ⟨_,h1,⟨by rw [Ls.flat_length],.inr ⟨b,n,_,(0,0),by rw [g3,z1,Nat.zero_add],Nat.zero_le _,h3,Nat.zero_le _,by rw [g3,z1]; omega,by simp only [maxLen]; omega,by rw [g4]; simp; omega,?_⟩⟩,fun g hg=>?_⟩
   ·rw [g2,z2,List.nil_append,g3,z1,g4]
    have:vs.length=n*l0.sz:=by omega
    show vs.take _=vs
    rw [Nat.zero_add,← this,List.take_length]
   ·have:b=g:=by simpa [Value.ownBlock] using hg
    rw [← this]; exact h4
  ·exact h.mem k b hk
 ·intro k k' b b' v v' hne hk hk' hm hv hv'
  rw [hL] at hk hk'
  split at hk
  ·rename_i hfk
   subst hfk
   cases hk
   rw [if_neg hne] at hk'
   have h9:=h.apart fr k' (.lit e n cs) b' v v' hne hF hk' rfl hv hv'
   exact h9
  ·split at hk'
   ·rename_i hfk
    subst hfk
    cases hk'
    have h9:=h.apart k fr b (.lit e n cs) v v' hne hk hF hm hv hv'
    exact h9
   ·exact h.apart k k' b b' v v' hne hk hk' hm hv hv'
def rowHook (tbl:Tbl):Hook:=fun fr o ev m =>
 match o.op with
 | .buildSlice T n ps =>
  match xBuildSlice tbl fr ev T n ps.toList with
  | some (.eff _ ⟨.one (.slc f),[(f',some (.lit e len cs))]⟩) =>
   match initLs e with
   | some l0=>bif Nat.beq f fr && Nat.beq f' fr && Nat.beq cs.length (len*l0.sz) && Nat.ble len 1000000 then (snocs l0.sz len cs l0).map fun l=>([],⟨.one (.slc fr),[(fr,some (.row e l))]⟩) else none
   | none=>none
  | _=>none
 | _=>none
theorem rowHook_ok {tbl:Tbl} {G:Ctx→Prop}:HookOK tbl G (rowHook tbl):=by
 intro C ρ S a w fr o ev m H hG ps e hk hp
 unfold rowHook at hk
 split at hk
 ·rename_i T n parts ho
  split at hk
  ·rename_i p f f' ee len cs hx
   split at hk
   ·rename_i l0 h0
    cases hb:Nat.beq f fr && Nat.beq f' fr && Nat.beq cs.length (len*l0.sz) && Nat.ble len 1000000 with
    | false=>rw [hb] at hk; cases hk
    | true =>
     rw [hb,cond_true,Option.map_eq_some_iff] at hk
     obtain ⟨l,hl,hk⟩:=hk
     cases hk
     simp only [Bool.and_eq_true] at hb
     obtain ⟨⟨⟨b1,b2⟩,b3⟩,b4⟩:=hb
     have b1:=Nat.eq_of_beq_eq_true b1
     have b2:=Nat.eq_of_beq_eq_true b2
     subst b1; subst b2
     have hd:=does_buildSlice H ho hx
     intro K Q hK
     exact hd K Q fun ρ' a' w' h1 h2 h3=>hK ρ' a' w' h1 h2 (relit h3 h0 hl (Nat.eq_of_beq_eq_true b3) (Nat.le_of_ble_eq_true b4))
   ·cases hk
  ·cases hk
 ·cases hk
def miscL:Hook:=orHook (rowHook T) misc
theorem miscL_ok:HookOK T (GC Tryz.prog Gl) miscL:=orHook_ok rowHook_ok misc_ok
structure PA where
 px:List Itm
 sx:List Itm
 f:Pat
 sp:Spot
def PA.pcs (t:PA):List Pc:=.rd (.items t.px) :: .rd (.items t.sx) :: (t.f.pcs++[.int .i32 t.sp.r,.int .i64 t.sp.p,.int .i64 t.sp.w])
def PA.pvs (t:PA):List PV:=[.agg t.pcs]
def tailOf:List Pc→Option Spot
 | [r,p,w]=>(i32Pc r).bind fun r=>(i64Pc p).bind fun p=>(i64Pc w).bind fun w=>some ⟨r,p,w⟩
 | _=>none
theorem tailOf_eq {l:List Pc} {s:Spot} (h:tailOf l=some s):l=[.int .i32 s.r,.int .i64 s.p,.int .i64 s.w]:=by
 unfold tailOf at h
 split at h
 ·simp only [Option.bind_eq_some_iff] at h
  obtain ⟨r,hr,p,hp,w,hw,h2⟩:=h
  cases h2
  rw [i32Pc_eq hr,i64Pc_eq hp,i64Pc_eq hw]
 ·cases h
def paOf:List PV→Option PA
 | [.agg (a :: b :: l)]=>(itmsOf a).bind fun a=>(itmsOf b).bind fun b=>(patOf (l.take 20)).bind fun f=>(tailOf (l.drop 20)).bind fun s=>some ⟨a,b,f,s⟩
 | _=>none
theorem paOf_eq {l:List PV} {p:PA} (h:paOf l=some p):l=p.pvs:=by
 unfold paOf at h
 split at h
 ·rename_i a b l
  simp only [Option.bind_eq_some_iff] at h
  obtain ⟨x,hx,y,hy,f,hf,s,hs,h2⟩:=h
  cases h2
  show [PV.agg (a :: b :: l)]=[PV.agg _]
  rw [← List.take_append_drop 20 l,patOf_eq hf,tailOf_eq hs,itmsOf_eq hx,itmsOf_eq hy]
  rfl
 ·cases h
def madeT (t:PA):Pat:=⟨t.px,t.sx,t.f.hn,⟨2,0⟩ :: t.px,t.sx,t.f.n,t.sp.w,t.sp.r,t.f.pw⟩
def sp_pmade:FSpec:=⟨[],fun pvs=>(paOf pvs).bind fun t=>some ([t.px.length≤1000000∧t.sx.length≤1000000],.agg (madeT t).pcs)⟩
theorem vc_pmade (t:PA):vcP [(68,sp_sclone)] [] miscL Tryz.f34 (.nil) t.pvs (.agg (madeT t).pcs)=((((1:Nat)+List.length (PA.px t))*(16:Nat)≤(140737488355328:Nat)∧List.length (PA.sx t)≤(1000000000:Nat)∧PA.px t=Pat.pre (madeT t)∧PA.sx t=Pat.suf (madeT t)∧Pat.hn (PA.f t)=Pat.hn (madeT t)∧[]++[{ k:=(2:Int),r:=(0:Int) }]++PA.px t=Pat.npre (madeT t)∧PA.sx t=Pat.nsuf (madeT t)∧Num.mi (Pat.n (PA.f t))=Num.mi (Pat.n (madeT t))∧Num.xi (Pat.n (PA.f t))=Num.xi (Pat.n (madeT t))∧Num.mf (Pat.n (PA.f t))=Num.mf (Pat.n (madeT t))∧Num.xf (Pat.n (PA.f t))=Num.xf (Pat.n (madeT t))∧Num.ms (Pat.n (PA.f t))=Num.ms (Pat.n (madeT t))∧Num.xs (Pat.n (PA.f t))=Num.xs (Pat.n (madeT t))∧Num.pr (Pat.n (PA.f t))=Num.pr (Pat.n (madeT t))∧Num.sc (Pat.n (PA.f t))=Num.sc (Pat.n (madeT t))∧Num.inc (Pat.n (PA.f t))=Num.inc (Pat.n (madeT t))∧Num.ps (Pat.n (PA.f t))=Num.ps (Pat.n (madeT t))∧Num.me (Pat.n (PA.f t))=Num.me (Pat.n (madeT t))∧Num.px (Pat.n (PA.f t))=Num.px (Pat.n (madeT t))∧Spot.w (PA.sp t)=Pat.pa (madeT t)∧Spot.r (PA.sp t)=Pat.pd (madeT t)∧Pat.pw (PA.f t)=Pat.pw (madeT t))):=by kernel_rfl
set_option maxHeartbeats 4000000 in
theorem of_pmade (h:∀ (t:PA),(t.px.length≤1000000∧t.sx.length≤1000000)→vcP [(68,sp_sclone)] [] miscL Tryz.f34 (.nil) t.pvs (.agg (madeT t).pcs)):FnP 34 sp_pmade:=by
 refine fnP_ok (cs:=[(68,sp_sclone)]) (cas:=[]) (ms:=miscL) (.cons ok_sclone .nil) .nil miscL_ok 34 Tryz.f34 (by kernel_rfl) (by kernel_rfl) (by kernel_rfl) (fun _=>.nil) ?_
 intro pvs p r hs hp
 obtain ⟨t,hx,h2⟩:=Option.bind_eq_some_iff.1 hs
 cases h2
 have:=h t (hp)
 rw [← paOf_eq hx] at this
 exact this
theorem ok_pmade:FnP 34 sp_pmade:=of_pmade (by
 intro t ht
 rw [vc_pmade]
 refine ⟨by omega,by omega,?_⟩
 and_intros<;>rfl)
end Go.Proofs.YtglfkihckkjniaaGreatDoor.Vx
namespace Go.Proofs.YtglfkihckkjniaaGreatDoor.Vx
open Go Go.RowKit
theorem scanStep_in {l:List Int} (hl:Scalars l) (hne:l≠[]) (a o:Int) :
  (scanStep l a o).2.1+(encs (scanStep l a o).1).length=a+(encs l).length∧((scanStep l a o).2.2.1=o∨(scanStep l a o).2.2.1=a∨(scanStep l a o).2.2.1 = -1) ∧
  (∀ y∈(scanStep l a o).2.2.2,y.tok.p=a∧scalar y.tok.r=true):=by
 obtain ⟨r,m,rfl⟩:=List.exists_cons_of_ne_nil hne
 have e8:=enc39
 have hr:scalar r=true:=hl r (by simp)
 by_cases h39:r=39
 ·subst h39
  cases m with
  | nil=>by_cases ho:o<0<;>simp [scanStep,ho,encs_cons,e8]<;>omega
  | cons x m =>
   by_cases hx:x=39
   ·subst hx
    simp [scanStep,encs_cons,e8,Iv.tok,hr]; omega
   ·by_cases ho:o<0<;>simp [scanStep,ho,hx,encs_cons,e8]<;>omega
 ·by_cases ho:o<0<;>simp [scanStep,ho,h39,encs_cons,Iv.tok,hr]<;>omega
theorem scanN_in:∀ (n:Nat) (l:List Int) (a o N:Int),Scalars l→l.length≤n→0≤a→o<a→N=a+(encs l).length →
  (∀ y∈(scanN n l a o).2,0≤y.tok.p∧y.tok.p<N∧scalar y.tok.r=true)∧(scanN n l a o).1<N:=by
 intro n
 induction n with
 | zero =>
  intro l a o N hl hn ha ho hN
  have:l=[]:=List.eq_nil_of_length_eq_zero (by omega)
  subst this
  exact ⟨fun y hy=>(by cases hy),by show o<N; rw [hN]; simp [encs]; omega⟩
 | succ n ih =>
  intro l a o N hl hn ha ho hN
  cases l with
  | nil=>exact ⟨fun y hy=>(by cases hy),by show o<N; rw [hN]; simp [encs]; omega⟩
  | cons r m =>
   obtain ⟨h1,h2,h3,_,_,_⟩:=scanStep_facts hl (by simp) a o
   obtain ⟨k1,k2,k3⟩:=scanStep_in hl (by simp) a o
   obtain ⟨g1,g2⟩:=ih (scanStep (r :: m) a o).1 (scanStep (r :: m) a o).2.1 (scanStep (r :: m) a o).2.2.1 N h1 (by simp at hn h2 ⊢; omega) (by omega) (by rcases k2 with k | k | k<;>omega) (by omega)
   refine ⟨fun y hy=>?_,g2⟩
   rcases List.mem_append.1 hy with hy | hy
   ·obtain ⟨e1,e2⟩:=k3 y hy
    have:1≤(encs (r :: m)).length:=by have:=(encs_len (r :: m)).1; simp at this; omega
    exact ⟨by omega,by omega,e2⟩
   ·exact g1 y hy
theorem scanT_in (s:List UInt8):(∀ t∈(scanT s).1,0≤t.p∧t.p<s.length∧scalar t.r=true)∧0≤(scanT s).2.2∧(scanT s).2.2≤s.length∧(scanT s).1.length≤400∧((scanT s).2.1=0→(scanT s).2.2=0):=by
 have hd:=decomp_ok s
 have hlen:(encs (decomp s).1).length≤s.length:=by
  have:=congrArg List.length hd.1
  rw [List.length_append] at this; omega
 obtain ⟨g1,g2⟩:=scanN_in (decomp s).1.length (decomp s).1 0 (-1) _ hd.2.1 (Nat.le_refl _) (by omega) (by omega) rfl
 unfold scanT
 split
 ·refine ⟨fun t ht=>(by cases ht),by assumption,?_,Nat.zero_le _,fun h=>absurd h (show ¬ (2:Int)=0 by decide)⟩
  show badAt s≤_
  unfold badAt; split<;>omega
 ·split
  ·refine ⟨fun t ht=>(by cases ht),by assumption,?_,Nat.zero_le _,fun h=>absurd h (show ¬ (3:Int)=0 by decide)⟩
   have g2:(scanF s).1<_:=g2
   show (scanF s).1≤_
   omega
  ·split
   ·exact ⟨fun t ht=>(by cases ht),Int.le_refl _,by show (0:Int)≤_; omega,Nat.zero_le _,fun h=>rfl⟩
   ·refine ⟨fun t ht=>?_,Int.le_refl _,by show (0:Int)≤_; omega,by show ((scanF s).2.map Iv.tok).length≤400; rw [List.length_map]; omega,fun h=>rfl⟩
    obtain ⟨y,hy,rfl⟩:=List.mem_map.1 ht
    obtain ⟨a,b,c⟩:=g1 y hy
    exact ⟨a,by omega,c⟩
def EP (P:Int→Prop) (l:List Iv):Prop:=∀ y∈l,(y.isE=true∧(y.isS=true→scalar y.sR=true))∧P y.at_
theorem EP.eok {P:Int→Prop} {l:List Iv} (h:EP P l):EOK l:=fun y hy=>(h y hy).1
theorem EP.take {P:Int→Prop} {l:List Iv} (h:EP P l) (n:Nat):EP P (l.take n):=fun y hy=>h y (List.mem_of_mem_take hy)
theorem EP.drop {P:Int→Prop} {l:List Iv} (h:EP P l) (n:Nat):EP P (l.drop n):=fun y hy=>h y (List.mem_of_mem_drop hy)
theorem EP.get {P:Int→Prop} {l:List Iv} (h:EP P l) {n:Nat} (hn:n<l.length):P (l.getD n default).at_:=by
 rw [List.getD_eq_getElem?_getD,List.getElem?_eq_getElem hn]
 exact (h _ (List.getElem_mem hn)).2
theorem elemsL_in (P:Int→Prop):∀ (n:Nat) (l:List Tok),l.length≤n→(∀ t∈l,P t.p∧scalar t.r=true)→EP P (elemsL l).1∧(∀ p,(elemsL l).2=some p→P p)∧(elemsL l).1.length≤l.length:=by
 intro n
 induction n with
 | zero =>
  intro l hn _
  have:l=[]:=List.eq_nil_of_length_eq_zero (by omega)
  subst this
  exact ⟨fun y hy=>(by cases hy),fun p hp=>(by cases hp),Nat.le_refl _⟩
 | succ n ih =>
  intro l hn h
  match l,hn,h with
  | [],_,_=>exact ⟨fun y hy=>(by cases hy),fun p hp=>(by cases hp),Nat.le_refl _⟩
  | [t],hn,h =>
   unfold elemsL
   split
   ·exact ⟨fun y hy=>(by cases hy),fun p hp=>(by cases hp; exact (h t (by simp)).1),Nat.zero_le _⟩
   ·refine ⟨fun y hy=>?_,fun p hp=>(by cases hp),Nat.le_refl _⟩
    rw [List.mem_singleton] at hy
    subst hy
    exact ⟨⟨rfl,fun _=>(h t (by simp)).2⟩,(h t (by simp)).1⟩
  | t :: x :: m,hn,h =>
   have ht:=h t (by simp)
   unfold elemsL
   split
   ·obtain ⟨h1,h2,h3⟩:=ih m (by simp at hn; omega) fun t ht=>h t (by simp [ht])
    refine ⟨fun y hy=>?_,h2,by simp; omega⟩
    rcases List.mem_cons.1 hy with hy | hy
    ·subst hy; exact ⟨⟨rfl,fun h=>(by cases h)⟩,ht.1⟩
    ·exact h1 y hy
   ·obtain ⟨h1,h2,h3⟩:=ih (x :: m) (by simp at hn ⊢; omega) fun t ht=>h t (by simp at ht ⊢; right; exact ht)
    refine ⟨fun y hy=>?_,h2,by simp at h3 ⊢; omega⟩
    rcases List.mem_cons.1 hy with hy | hy
    ·subst hy; exact ⟨⟨rfl,fun _=>ht.2⟩,ht.1⟩
    ·exact h1 y hy
theorem elemsR_in (P:Int→Prop) (l:List Tok) (h:∀ t∈l,P t.p∧scalar t.r=true):EP P (elemsR l).1∧((elemsR l).2.1≠0→P (elemsR l).2.2)∧(elemsR l).1.length≤l.length:=by
 obtain ⟨h1,h2,h3⟩:=elemsL_in P l.length l (Nat.le_refl _) h
 unfold elemsR
 split
 ·exact ⟨h1,fun h=>absurd rfl h,h3⟩
 ·rename_i p hp
  exact ⟨fun y hy=>(by cases hy),fun _=>h2 p hp,Nat.zero_le _⟩
def p0:Pat:=⟨[],[],false,[],[],z0,0,0,0⟩
def aheadN (l:List Iv):Nat:=l.findIdx (isIn [59])
def behindL (l:List Iv):List Iv:=l.drop (min (aheadN l+1) l.length)
def PT.pa (t:PT):PA:=⟨t.px,t.sx,⟨[],[],false,[],[],t.n,0,0,t.w⟩,t.sp⟩
def bothH (p:Pat):Bool:=hasItm 4 (p.pre++p.suf++p.npre++p.nsuf) && hasItm 5 (p.pre++p.suf++p.npre++p.nsuf)
def compE (l:List Iv):Pat×Int×Int :=
 if aheadN (behindL l)<(behindL l).length then (p0,4,((behindL l).getD (aheadN (behindL l)) default).at_)
 else if (readT (l.take (aheadN l)) 0 true).2.1≠0 then (p0,(readT (l.take (aheadN l)) 0 true).2)
 else if aheadN l<l.length then
  if (readT (behindL l) ((l.getD (aheadN l) default).at_+1) false).2.1≠0 then (p0,(readT (behindL l) ((l.getD (aheadN l) default).at_+1) false).2)
  else if bothH { madeT (readT (l.take (aheadN l)) 0 true).1.pa with hn:=true,npre:=(readT (behindL l) ((l.getD (aheadN l) default).at_+1) false).1.px,nsuf:=(readT (behindL l) ((l.getD (aheadN l) default).at_+1) false).1.sx }=true then (p0,6,0)
  else ({ madeT (readT (l.take (aheadN l)) 0 true).1.pa with hn:=true,npre:=(readT (behindL l) ((l.getD (aheadN l) default).at_+1) false).1.px,nsuf:=(readT (behindL l) ((l.getD (aheadN l) default).at_+1) false).1.sx },0,0)
 else if bothH (madeT (readT (l.take (aheadN l)) 0 true).1.pa)=true then (p0,6,0)
 else (madeT (readT (l.take (aheadN l)) 0 true).1.pa,0,0)
def compileT (s:List UInt8):Pat×Int×Int :=
 if (scanT s).2.1≠0 then (p0,(scanT s).2)
 else if (elemsR (scanT s).1).2.1≠0 then (p0,(elemsR (scanT s).1).2)
 else compE (elemsR (scanT s).1).1
theorem elems_in (s:List UInt8):EP (fun x=>0≤x∧x<(s.length:Int)) (elemsR (scanT s).1).1∧((elemsR (scanT s).1).2.1≠0→0≤(elemsR (scanT s).1).2.2∧(elemsR (scanT s).1).2.2<(s.length:Int))∧(elemsR (scanT s).1).1.length≤400:=by
 obtain ⟨h1,h2,h3,h4,h5⟩:=scanT_in s
 obtain ⟨k1,k2,k3⟩:=elemsR_in (fun x=>0≤x∧x<(s.length:Int)) (scanT s).1 fun t ht=>⟨⟨(h1 t ht).1,(h1 t ht).2.1⟩,(h1 t ht).2.2⟩
 exact ⟨k1,k2,by omega⟩
end Go.Proofs.YtglfkihckkjniaaGreatDoor.Vx
namespace Go.Proofs.YtglfkihckkjniaaGreatDoor.Vx
open Go Go.RowKit
def Pat.sc (a b c d:Nat) (p:Pat):List SC:=[.slc a,.slc b,.bool p.hn,.slc c,.slc d,.int .i64 p.n.mi,.int .i64 p.n.xi,.int .i64 p.n.mf,.int .i64 p.n.xf,.int .i64 p.n.ms,.int .i64 p.n.xs,.int .i64 p.n.pr,.int .i64 p.n.sc,.str p.n.inc,.bool p.n.ps,.int .i64 p.n.me,.bool p.n.px,.int .i64 p.pa,.int .i32 p.pd,.int .i64 p.pw]
def PT.sc (a b c d e f:Nat) (t:PT):List SC:=.slc a :: .slc b :: ((⟨[],[],false,[],[],t.n,0,0,t.w⟩:Pat).sc c d e f++[.int .i32 t.sp.r,.int .i64 t.sp.p,.int .i64 t.sp.w])
def cmL (s:List UInt8):List Iv:=(elemsR (scanT s).1).1
def rd1 (s:List UInt8):PT×Int×Int:=readT ((cmL s).take (aheadN (cmL s))) 0 true
def rd2 (s:List UInt8):PT×Int×Int:=readT (behindL (cmL s)) (((cmL s).getD (aheadN (cmL s)) default).at_+1) false
def cmP (s:List UInt8):Pat:=madeT (rd1 s).1.pa
def cmQ (s:List UInt8):Pat:={ cmP s with hn:=true,npre:=(rd2 s).1.px,nsuf:=(rd2 s).1.sx }
structure CO (s:List UInt8) where
 p:Pat
 few:p.pre.length+p.suf.length+p.npre.length+p.nsuf.length≤1000000000
 eq:compileT s=if bothH p=true then (p0,6,0) else (p,0,0)
structure C7 (s:List UInt8):Prop where
 h1:(scanT s).2.1=0
 h2:(elemsR (scanT s).1).2.1=0
structure C12 (s:List UInt8):Prop extends C7 s where
 h3:¬ aheadN (behindL (cmL s))<(behindL (cmL s)).length
structure C16 (s:List UInt8):Prop extends C12 s where
 h4:(rd1 s).2.1=0
structure C18 (s:List UInt8):Prop extends C16 s where
 h5:aheadN (cmL s)<(cmL s).length
def ann15 (s:List UInt8):Ann :=
 .cut 7 (PLift (C7 s)) (fun _=>⟨[(2,.one (.ptr 16 0)),(3,.one (.ptr 17 0)),(5,.one (.ptr 18 0)),(6,.one (.slc 19))],[(16,some (.cells 25 z0.sc')),(17,some (.cells 28 [.int .i64 0,.int .i64 0])),(18,some (.cells 28 [.int .i64 (elemsR (scanT s).1).2.1,.int .i64 (elemsR (scanT s).1).2.2])),(19,some (.read (.ivs (cmL s))))],20⟩)
 (fun _=>.cut 9 (PLift (C7 s)) (fun _=>⟨[(2,.one (.ptr 16 0)),(3,.one (.ptr 17 0)),(5,.one (.ptr 18 0)),(6,.one (.slc 19)),(7,.one (.int .i64 (aheadN (cmL s)))),(8,.one (.slc 20))],[(16,some (.cells 25 z0.sc')),(17,some (.cells 28 [.int .i64 0,.int .i64 0])),(18,some (.cells 28 [.int .i64 (elemsR (scanT s).1).2.1,.int .i64 (elemsR (scanT s).1).2.2])),(19,some (.read (.ivs (cmL s)))),(20,some (.read (.ivs (behindL (cmL s)))))],21⟩)
 (fun _=>.cut 12 (PLift (C12 s)) (fun _=>⟨[(2,.one (.ptr 16 0)),(3,.one (.ptr 17 0)),(5,.one (.ptr 18 0)),(6,.one (.slc 19)),(7,.one (.int .i64 (aheadN (cmL s)))),(8,.one (.slc 20))],[(16,some (.cells 25 z0.sc')),(17,some (.cells 28 [.int .i64 0,.int .i64 0])),(18,some (.cells 28 [.int .i64 (elemsR (scanT s).1).2.1,.int .i64 (elemsR (scanT s).1).2.2])),(19,some (.read (.ivs (cmL s)))),(20,some (.read (.ivs (behindL (cmL s)))))],21⟩)
 (fun _=>.cut 13 (PLift (C12 s)) (fun _=>⟨[(2,.one (.ptr 16 0)),(3,.one (.ptr 17 0)),(5,.one (.ptr 18 0)),(6,.one (.slc 19)),(7,.one (.int .i64 (aheadN (cmL s)))),(8,.one (.slc 20)),(10,.one (.ptr 21 0))],[(16,some (.cells 25 z0.sc')),(17,some (.cells 28 [.int .i64 0,.int .i64 0])),(18,some (.cells 28 [.int .i64 (rd1 s).2.1,.int .i64 (rd1 s).2.2])),(19,some (.read (.ivs (cmL s)))),(20,some (.read (.ivs (behindL (cmL s))))),(21,some (.cells 64 ((rd1 s).1.sc 22 23 24 25 26 27))),(22,some (.read (.items (rd1 s).1.px))),(23,some (.read (.items (rd1 s).1.sx))),(24,some (.read (.items []))),(25,some (.read (.items []))),(26,some (.read (.items []))),(27,some (.read (.items [])))],28⟩)
 (fun _=>.cut 16 (PLift (C16 s)) (fun _=>⟨[(2,.one (.ptr 16 0)),(3,.one (.ptr 17 0)),(6,.one (.slc 19)),(7,.one (.int .i64 (aheadN (cmL s)))),(8,.one (.slc 20)),(11,.one (.ptr 21 0))],[(21,some (.cells 25 ((cmP s).sc 22 23 24 25))),(22,some (.read (.items (cmP s).pre))),(23,some (.read (.items (cmP s).suf))),(24,some (.read (.items (cmP s).npre))),(25,some (.read (.items (cmP s).nsuf))),(16,some (.cells 25 z0.sc')),(17,some (.cells 28 [.int .i64 0,.int .i64 0])),(19,some (.read (.ivs (cmL s)))),(20,some (.read (.ivs (behindL (cmL s)))))],26⟩)
 (fun _=>.cut 18 (PLift (C18 s)) (fun _=>⟨[(2,.one (.ptr 16 0)),(3,.one (.ptr 17 0)),(11,.one (.ptr 21 0)),(12,.one (.ptr 26 0)),(13,.one (.ptr 33 0))],[(21,some (.cells 25 ((cmP s).sc 22 23 24 25))),(22,some (.read (.items (cmP s).pre))),(23,some (.read (.items (cmP s).suf))),(24,some (.read (.items (cmP s).npre))),(25,some (.read (.items (cmP s).nsuf))),(16,some (.cells 25 z0.sc')),(17,some (.cells 28 [.int .i64 0,.int .i64 0])),(33,some (.cells 28 [.int .i64 (rd2 s).2.1,.int .i64 (rd2 s).2.2])),(26,some (.cells 64 ((rd2 s).1.sc 27 28 29 30 31 32))),(27,some (.read (.items (rd2 s).1.px))),(28,some (.read (.items (rd2 s).1.sx))),(29,some (.read (.items []))),(30,some (.read (.items []))),(31,some (.read (.items []))),(32,some (.read (.items [])))],34⟩) (fun _=>.nil)
 (.cut 21 (CO s) (fun x=>⟨[(2,.one (.ptr 16 0)),(3,.one (.ptr 17 0)),(11,.one (.ptr 18 0))],[(16,some (.cells 25 z0.sc')),(17,some (.cells 28 [.int .i64 0,.int .i64 0])),(18,some (.cells 25 (x.p.sc 19 20 21 22))),(19,some (.read (.items x.p.pre))),(20,some (.read (.items x.p.suf))),(21,some (.read (.items x.p.npre))),(22,some (.read (.items x.p.nsuf)))],23⟩) (fun _=>.nil) .nil)) .nil) .nil) .nil) .nil) .nil
def sp_pcompile:FSpec:=⟨[],fun | [.one (.str s)]=>some ([s.length≤1000000],.tup [(true,(compileT s).1.pcs),(true,[.int .i64 (compileT s).2.1,.int .i64 (compileT s).2.2])]) | _=>none⟩
theorem vc_pcompile (s:List UInt8):vcP [(30,sp_tscan),(31,sp_elements),(32,sp_ahead),(33,sp_pread),(34,sp_pmade),(35,sp_pall)] [] misc Tryz.f14 (ann15 s) [.one (.str s)] (.tup [(true,(compileT s).1.pcs),(true,[.int .i64 (compileT s).2.1,.int .i64 (compileT s).2.2])])=(letI v0:=(madeT { px:=PT.px (rd1 s).1,sx:=PT.sx (rd1 s).1,f:={ pre:=[],suf:=[],hn:=false,npre:=[],nsuf:=[],n:=PT.n (rd1 s).1,pa:=(0:Int),pd:=(0:Int),pw:=PT.w (rd1 s).1 },sp:=PT.sp (rd1 s).1 }); letI v1:=([]=Pat.pre (compileT s).1∧[]=Pat.suf (compileT s).1∧false=Pat.hn (compileT s).1∧[]=Pat.npre (compileT s).1∧[]=Pat.nsuf (compileT s).1∧(0:Int)=Num.mi (Pat.n (compileT s).1)∧(0:Int)=Num.xi (Pat.n (compileT s).1)∧(0:Int)=Num.mf (Pat.n (compileT s).1)∧(0:Int)=Num.xf (Pat.n (compileT s).1)∧(0:Int)=Num.ms (Pat.n (compileT s).1)∧(0:Int)=Num.xs (Pat.n (compileT s).1)∧(0:Int)=Num.pr (Pat.n (compileT s).1)∧(0:Int)=Num.sc (Pat.n (compileT s).1)∧[]=Num.inc (Pat.n (compileT s).1)∧false=Num.ps (Pat.n (compileT s).1)∧(0:Int)=Num.me (Pat.n (compileT s).1)∧false=Num.px (Pat.n (compileT s).1)∧(0:Int)=Pat.pa (compileT s).1∧(0:Int)=Pat.pd (compileT s).1∧(0:Int)=Pat.pw (compileT s).1); letI v2:=(readT (behindL (cmL s)) (Iv.at_ (List.getD (cmL s) (Int.toNat (↑(aheadN (cmL s)):Int)) default)+(1:Int)) false); letI v3:=(Num.mi z0=Num.mi z0∧Num.xi z0=Num.xi z0∧Num.mf z0=Num.mf z0∧Num.xf z0=Num.xf z0∧Num.ms z0=Num.ms z0∧Num.xs z0=Num.xs z0∧Num.pr z0=Num.pr z0∧Num.sc z0=Num.sc z0∧Num.inc z0=Num.inc z0∧Num.ps z0=Num.ps z0∧Num.me z0=Num.me z0∧Num.px z0=Num.px z0∧(0:Int)=(0:Int)∧(0:Int)=(0:Int)∧(0:Int)=(0:Int)); letI v4:=(readT (List.drop (0:Nat) (List.take (Int.toNat (↑(aheadN (cmL s)):Int)) (cmL s))) (0:Int) true); letI v5:=(↑(List.findIdx (isIn [(59:UInt8)]) (behindL (cmL s))):Int); letI v6:=(↑(List.findIdx (isIn [(59:UInt8)]) (cmL s)):Int); letI v7:=(↑(List.length (cmL s)):Int); letI v8:=(Int.toNat (↑(aheadN (cmL s)):Int)); (List.length s≤(1000000:Nat)∧br ((scanT s).2.1 != (0:Int)) (v1∧(scanT s).2.1=(compileT s).2.1∧(scanT s).2.2=(compileT s).2.2) (List.length (scanT s).1≤(1000000000:Nat)∧br ((elemsR (scanT s).1).2.1 != (0:Int)) (v1∧(elemsR (scanT s).1).2.1=(compileT s).2.1∧(elemsR (scanT s).1).2.2=(compileT s).2.2) (∃ (j:PLift (C7 s)),((0:Int)=Num.mi z0∧(0:Int)=Num.xi z0∧(0:Int)=Num.mf z0∧(0:Int)=Num.xf z0∧(0:Int)=Num.ms z0∧(0:Int)=Num.xs z0∧(0:Int)=Num.pr z0∧(0:Int)=Num.sc z0∧[]=Num.inc z0∧false=Num.ps z0∧(0:Int)=Num.me z0∧false=Num.px z0∧(0:Int)=(0:Int)∧(0:Int)=(0:Int)∧(0:Int)=(0:Int))∧(0:Int)=(0:Int)∧(0:Int)=(0:Int)∧(elemsR (scanT s).1).2.1=(elemsR (scanT s).1).2.1∧(elemsR (scanT s).1).2.2=(elemsR (scanT s).1).2.2∧(elemsR (scanT s).1).1=cmL s)∧∀ (j:PLift (C7 s)),(letI v9:=(Pat.n (compileT s).1); letI v10:=(↑(aheadN (cmL s)):Int); letI v11:=(List.getD (behindL (cmL s)) (Int.toNat v5) default); List.length (cmL s)≤(1000000000:Nat)∧(inR IntKind.i64 (v6+(1:Int))∧((0:Int)≤List.foldl (mnx false) (v6+(1:Int)) [v7]∧List.foldl (mnx false) (v6+(1:Int)) [v7]≤v7)∧∃ (j:PLift (C7 s)),v6=v10∧v3∧(0:Int)=(0:Int)∧(0:Int)=(0:Int)∧(elemsR (scanT s).1).2.1=(elemsR (scanT s).1).2.1∧(elemsR (scanT s).1).2.2=(elemsR (scanT s).1).2.2∧cmL s=cmL s∧List.drop (Int.toNat (List.foldl (mnx false) (v6+(1:Int)) [v7])) (List.take (List.length (cmL s)) (cmL s))=behindL (cmL s))∧∀ (j:PLift (C7 s)),(List.length (behindL (cmL s))≤(1000000000:Nat)∧br (decide (v5<(↑(List.length (behindL (cmL s))):Int))) (((0:Int)≤v5∧v5<(↑(List.length (behindL (cmL s))):Int))∧Int.toNat v5<List.length (behindL (cmL s))∧Iv.isE v11=true∧v1∧(4:Int)=(compileT s).2.1∧Iv.at_ v11=(compileT s).2.2) (∃ (j:PLift (C12 s)),v10=v10∧v3∧(0:Int)=(0:Int)∧(0:Int)=(0:Int)∧(elemsR (scanT s).1).2.1=(elemsR (scanT s).1).2.1∧(elemsR (scanT s).1).2.2=(elemsR (scanT s).1).2.2∧cmL s=cmL s∧behindL (cmL s)=behindL (cmL s)))∧∀ (j:PLift (C12 s)),(((0:Int)≤v10∧v10≤v7)∧(∀ (y:Iv),y∈List.drop (0:Nat) (List.take v8 (cmL s))→Iv.isE y=true∧(Iv.isS y=true→scalar (Iv.sR y)=true))∧List.length (List.drop (0:Nat) (List.take v8 (cmL s)))≤(1000000:Nat)∧∃ (j:PLift (C12 s)),v10=v10∧v3∧(0:Int)=(0:Int)∧(0:Int)=(0:Int)∧v4.2.1=(rd1 s).2.1∧v4.2.2=(rd1 s).2.2∧cmL s=cmL s∧behindL (cmL s)=behindL (cmL s)∧(false=false∧Num.mi (PT.n v4.1)=Num.mi (PT.n (rd1 s).1)∧Num.xi (PT.n v4.1)=Num.xi (PT.n (rd1 s).1)∧Num.mf (PT.n v4.1)=Num.mf (PT.n (rd1 s).1)∧Num.xf (PT.n v4.1)=Num.xf (PT.n (rd1 s).1)∧Num.ms (PT.n v4.1)=Num.ms (PT.n (rd1 s).1)∧Num.xs (PT.n v4.1)=Num.xs (PT.n (rd1 s).1)∧Num.pr (PT.n v4.1)=Num.pr (PT.n (rd1 s).1)∧Num.sc (PT.n v4.1)=Num.sc (PT.n (rd1 s).1)∧Num.inc (PT.n v4.1)=Num.inc (PT.n (rd1 s).1)∧Num.ps (PT.n v4.1)=Num.ps (PT.n (rd1 s).1)∧Num.me (PT.n v4.1)=Num.me (PT.n (rd1 s).1)∧Num.px (PT.n v4.1)=Num.px (PT.n (rd1 s).1)∧(0:Int)=(0:Int)∧(0:Int)=(0:Int)∧PT.w v4.1=PT.w (rd1 s).1∧Spot.r (PT.sp v4.1)=Spot.r (PT.sp (rd1 s).1)∧Spot.p (PT.sp v4.1)=Spot.p (PT.sp (rd1 s).1)∧Spot.w (PT.sp v4.1)=Spot.w (PT.sp (rd1 s).1))∧PT.px v4.1=PT.px (rd1 s).1∧PT.sx v4.1=PT.sx (rd1 s).1∧([]:List Itm)=[]∧([]:List Itm)=[]∧([]:List Itm)=[]∧([]:List Itm)=[])∧∀ (j:PLift (C12 s)),br ((rd1 s).2.1 != (0:Int)) (v1∧(rd1 s).2.1=(compileT s).2.1∧(rd1 s).2.2=(compileT s).2.2) (((List.length (PT.px (rd1 s).1)≤(1000000:Nat)∧List.length (PT.sx (rd1 s).1)≤(1000000:Nat))∧∃ (j:PLift (C16 s)),v10=v10∧(Pat.hn v0=Pat.hn (cmP s)∧Num.mi (Pat.n v0)=Num.mi (Pat.n (cmP s))∧Num.xi (Pat.n v0)=Num.xi (Pat.n (cmP s))∧Num.mf (Pat.n v0)=Num.mf (Pat.n (cmP s))∧Num.xf (Pat.n v0)=Num.xf (Pat.n (cmP s))∧Num.ms (Pat.n v0)=Num.ms (Pat.n (cmP s))∧Num.xs (Pat.n v0)=Num.xs (Pat.n (cmP s))∧Num.pr (Pat.n v0)=Num.pr (Pat.n (cmP s))∧Num.sc (Pat.n v0)=Num.sc (Pat.n (cmP s))∧Num.inc (Pat.n v0)=Num.inc (Pat.n (cmP s))∧Num.ps (Pat.n v0)=Num.ps (Pat.n (cmP s))∧Num.me (Pat.n v0)=Num.me (Pat.n (cmP s))∧Num.px (Pat.n v0)=Num.px (Pat.n (cmP s))∧Pat.pa v0=Pat.pa (cmP s)∧Pat.pd v0=Pat.pd (cmP s)∧Pat.pw v0=Pat.pw (cmP s))∧Pat.pre v0=Pat.pre (cmP s)∧Pat.suf v0=Pat.suf (cmP s)∧Pat.npre v0=Pat.npre (cmP s)∧Pat.nsuf v0=Pat.nsuf (cmP s)∧v3∧(0:Int)=(0:Int)∧(0:Int)=(0:Int)∧cmL s=cmL s∧behindL (cmL s)=behindL (cmL s))∧∀ (j:PLift (C16 s)),br (decide (v10<v7)) ((((0:Int)≤v10∧v10<v7)∧Int.toNat v10<List.length (cmL s)∧Iv.isE (List.getD (cmL s) v8 default)=true∧inR IntKind.i64 (Iv.at_ (List.getD (cmL s) v8 default)+(1:Int))∧(∀ (y:Iv),y∈behindL (cmL s)→Iv.isE y=true∧(Iv.isS y=true→scalar (Iv.sR y)=true))∧List.length (behindL (cmL s))≤(1000000:Nat)∧∃ (j:PLift (C18 s)),(Pat.hn (cmP s)=Pat.hn (cmP s)∧Num.mi (Pat.n (cmP s))=Num.mi (Pat.n (cmP s))∧Num.xi (Pat.n (cmP s))=Num.xi (Pat.n (cmP s))∧Num.mf (Pat.n (cmP s))=Num.mf (Pat.n (cmP s))∧Num.xf (Pat.n (cmP s))=Num.xf (Pat.n (cmP s))∧Num.ms (Pat.n (cmP s))=Num.ms (Pat.n (cmP s))∧Num.xs (Pat.n (cmP s))=Num.xs (Pat.n (cmP s))∧Num.pr (Pat.n (cmP s))=Num.pr (Pat.n (cmP s))∧Num.sc (Pat.n (cmP s))=Num.sc (Pat.n (cmP s))∧Num.inc (Pat.n (cmP s))=Num.inc (Pat.n (cmP s))∧Num.ps (Pat.n (cmP s))=Num.ps (Pat.n (cmP s))∧Num.me (Pat.n (cmP s))=Num.me (Pat.n (cmP s))∧Num.px (Pat.n (cmP s))=Num.px (Pat.n (cmP s))∧Pat.pa (cmP s)=Pat.pa (cmP s)∧Pat.pd (cmP s)=Pat.pd (cmP s)∧Pat.pw (cmP s)=Pat.pw (cmP s))∧Pat.pre (cmP s)=Pat.pre (cmP s)∧Pat.suf (cmP s)=Pat.suf (cmP s)∧Pat.npre (cmP s)=Pat.npre (cmP s)∧Pat.nsuf (cmP s)=Pat.nsuf (cmP s)∧v3∧(0:Int)=(0:Int)∧(0:Int)=(0:Int)∧v2.2.1=(rd2 s).2.1∧v2.2.2=(rd2 s).2.2∧(false=false∧Num.mi (PT.n v2.1)=Num.mi (PT.n (rd2 s).1)∧Num.xi (PT.n v2.1)=Num.xi (PT.n (rd2 s).1)∧Num.mf (PT.n v2.1)=Num.mf (PT.n (rd2 s).1)∧Num.xf (PT.n v2.1)=Num.xf (PT.n (rd2 s).1)∧Num.ms (PT.n v2.1)=Num.ms (PT.n (rd2 s).1)∧Num.xs (PT.n v2.1)=Num.xs (PT.n (rd2 s).1)∧Num.pr (PT.n v2.1)=Num.pr (PT.n (rd2 s).1)∧Num.sc (PT.n v2.1)=Num.sc (PT.n (rd2 s).1)∧Num.inc (PT.n v2.1)=Num.inc (PT.n (rd2 s).1)∧Num.ps (PT.n v2.1)=Num.ps (PT.n (rd2 s).1)∧Num.me (PT.n v2.1)=Num.me (PT.n (rd2 s).1)∧Num.px (PT.n v2.1)=Num.px (PT.n (rd2 s).1)∧(0:Int)=(0:Int)∧(0:Int)=(0:Int)∧PT.w v2.1=PT.w (rd2 s).1∧Spot.r (PT.sp v2.1)=Spot.r (PT.sp (rd2 s).1)∧Spot.p (PT.sp v2.1)=Spot.p (PT.sp (rd2 s).1)∧Spot.w (PT.sp v2.1)=Spot.w (PT.sp (rd2 s).1))∧PT.px v2.1=PT.px (rd2 s).1∧PT.sx v2.1=PT.sx (rd2 s).1∧([]:List Itm)=[]∧([]:List Itm)=[]∧([]:List Itm)=[]∧([]:List Itm)=[])∧∀ (j:PLift (C18 s)),br ((rd2 s).2.1 != (0:Int)) (v1∧(rd2 s).2.1=(compileT s).2.1∧(rd2 s).2.2=(compileT s).2.2) (∃ (j:CO s),v3∧(0:Int)=(0:Int)∧(0:Int)=(0:Int)∧(true=Pat.hn (CO.p j)∧Num.mi (Pat.n (cmP s))=Num.mi (Pat.n (CO.p j))∧Num.xi (Pat.n (cmP s))=Num.xi (Pat.n (CO.p j))∧Num.mf (Pat.n (cmP s))=Num.mf (Pat.n (CO.p j))∧Num.xf (Pat.n (cmP s))=Num.xf (Pat.n (CO.p j))∧Num.ms (Pat.n (cmP s))=Num.ms (Pat.n (CO.p j))∧Num.xs (Pat.n (cmP s))=Num.xs (Pat.n (CO.p j))∧Num.pr (Pat.n (cmP s))=Num.pr (Pat.n (CO.p j))∧Num.sc (Pat.n (cmP s))=Num.sc (Pat.n (CO.p j))∧Num.inc (Pat.n (cmP s))=Num.inc (Pat.n (CO.p j))∧Num.ps (Pat.n (cmP s))=Num.ps (Pat.n (CO.p j))∧Num.me (Pat.n (cmP s))=Num.me (Pat.n (CO.p j))∧Num.px (Pat.n (cmP s))=Num.px (Pat.n (CO.p j))∧Pat.pa (cmP s)=Pat.pa (CO.p j)∧Pat.pd (cmP s)=Pat.pd (CO.p j)∧Pat.pw (cmP s)=Pat.pw (CO.p j))∧Pat.pre (cmP s)=Pat.pre (CO.p j)∧Pat.suf (cmP s)=Pat.suf (CO.p j)∧PT.px (rd2 s).1=Pat.npre (CO.p j)∧PT.sx (rd2 s).1=Pat.nsuf (CO.p j))) (∃ (j:CO s),v3∧(0:Int)=(0:Int)∧(0:Int)=(0:Int)∧(Pat.hn (cmP s)=Pat.hn (CO.p j)∧Num.mi (Pat.n (cmP s))=Num.mi (Pat.n (CO.p j))∧Num.xi (Pat.n (cmP s))=Num.xi (Pat.n (CO.p j))∧Num.mf (Pat.n (cmP s))=Num.mf (Pat.n (CO.p j))∧Num.xf (Pat.n (cmP s))=Num.xf (Pat.n (CO.p j))∧Num.ms (Pat.n (cmP s))=Num.ms (Pat.n (CO.p j))∧Num.xs (Pat.n (cmP s))=Num.xs (Pat.n (CO.p j))∧Num.pr (Pat.n (cmP s))=Num.pr (Pat.n (CO.p j))∧Num.sc (Pat.n (cmP s))=Num.sc (Pat.n (CO.p j))∧Num.inc (Pat.n (cmP s))=Num.inc (Pat.n (CO.p j))∧Num.ps (Pat.n (cmP s))=Num.ps (Pat.n (CO.p j))∧Num.me (Pat.n (cmP s))=Num.me (Pat.n (CO.p j))∧Num.px (Pat.n (cmP s))=Num.px (Pat.n (CO.p j))∧Pat.pa (cmP s)=Pat.pa (CO.p j)∧Pat.pd (cmP s)=Pat.pd (CO.p j)∧Pat.pw (cmP s)=Pat.pw (CO.p j))∧Pat.pre (cmP s)=Pat.pre (CO.p j)∧Pat.suf (cmP s)=Pat.suf (CO.p j)∧Pat.npre (cmP s)=Pat.npre (CO.p j)∧Pat.nsuf (cmP s)=Pat.nsuf (CO.p j))∧∀ (j:CO s),(letI v12:=((Pat.pre (CO.p j)=Pat.pre (compileT s).1∧Pat.suf (CO.p j)=Pat.suf (compileT s).1∧Pat.hn (CO.p j)=Pat.hn (compileT s).1∧Pat.npre (CO.p j)=Pat.npre (compileT s).1∧Pat.nsuf (CO.p j)=Pat.nsuf (compileT s).1∧Num.mi (Pat.n (CO.p j))=Num.mi v9∧Num.xi (Pat.n (CO.p j))=Num.xi v9∧Num.mf (Pat.n (CO.p j))=Num.mf v9∧Num.xf (Pat.n (CO.p j))=Num.xf v9∧Num.ms (Pat.n (CO.p j))=Num.ms v9∧Num.xs (Pat.n (CO.p j))=Num.xs v9∧Num.pr (Pat.n (CO.p j))=Num.pr v9∧Num.sc (Pat.n (CO.p j))=Num.sc v9∧Num.inc (Pat.n (CO.p j))=Num.inc v9∧Num.ps (Pat.n (CO.p j))=Num.ps v9∧Num.me (Pat.n (CO.p j))=Num.me v9∧Num.px (Pat.n (CO.p j))=Num.px v9∧Pat.pa (CO.p j)=Pat.pa (compileT s).1∧Pat.pd (CO.p j)=Pat.pd (compileT s).1∧Pat.pw (CO.p j)=Pat.pw (compileT s).1)∧(0:Int)=(compileT s).2.1∧(0:Int)=(compileT s).2.2); letI v13:=(Pat.pre (CO.p j)++Pat.suf (CO.p j)++Pat.npre (CO.p j)++Pat.nsuf (CO.p j)); List.length (Pat.pre (CO.p j))+List.length (Pat.suf (CO.p j))+List.length (Pat.npre (CO.p j))+List.length (Pat.nsuf (CO.p j))≤(1000000000:Nat)∧br (hasItm (4:Int) v13) (List.length (Pat.pre (CO.p j))+List.length (Pat.suf (CO.p j))+List.length (Pat.npre (CO.p j))+List.length (Pat.nsuf (CO.p j))≤(1000000000:Nat)∧br (hasItm (5:Int) v13) (v1∧(6:Int)=(compileT s).2.1∧(0:Int)=(compileT s).2.2) v12) v12)))))):=by kernel_rfl
set_option maxHeartbeats 4000000 in
theorem of_pcompile (h:∀ (s:List UInt8),(s.length≤1000000)→vcP [(30,sp_tscan),(31,sp_elements),(32,sp_ahead),(33,sp_pread),(34,sp_pmade),(35,sp_pall)] [] misc Tryz.f14 (ann15 s) [.one (.str s)] (.tup [(true,(compileT s).1.pcs),(true,[.int .i64 (compileT s).2.1,.int .i64 (compileT s).2.2])])):FnP 14 sp_pcompile:=by
 refine fnP_ok (cs:=[(30,sp_tscan),(31,sp_elements),(32,sp_ahead),(33,sp_pread),(34,sp_pmade),(35,sp_pall)]) (cas:=[]) (ms:=misc) (.cons ok_tscan (.cons ok_elements (.cons ok_ahead (.cons ok_pread (.cons ok_pmade (.cons ok_pall .nil)))))) .nil misc_ok 14 Tryz.f14 (by kernel_rfl) (by kernel_rfl) (by kernel_rfl) (fun | [.one (.str s)]=>ann15 s | _=>.nil) ?_
 intro pvs p r hs hp
 unfold sp_pcompile at hs
 simp only at hs
 split at hs
 ·rename_i s
  cases hs
  refine h s ?_
  ·exact hp
 ·cases hs
theorem readT_len (l:List Iv) (b:Int) (first:Bool):(readT l b first).1.px.length≤40∧(readT l b first).1.sx.length≤40:=by
 have i1:=itemsR_len (plainT (cutT l b).1.p)
 have i2:=itemsR_len (plainT (cutT l b).1.s)
 unfold readT
 split
 ·exact ⟨Nat.zero_le _,Nat.zero_le _⟩
 ·split
  ·exact ⟨Nat.zero_le _,Nat.zero_le _⟩
  ·split
   ·exact ⟨Nat.zero_le _,Nat.zero_le _⟩
   ·split
    ·exact ⟨Nat.zero_le _,Nat.zero_le _⟩
    ·split
     ·exact ⟨Nat.zero_le _,Nat.zero_le _⟩
     ·exact ⟨i1,i2⟩
theorem fold_min (x y:Int):List.foldl (mnx false) x [y]=min x y:=by
 show (if y<x then y else x)=_
 split<;>omega
theorem compile_scan {s:List UInt8} (h:(scanT s).2.1≠0):compileT s=(p0,(scanT s).2):=by unfold compileT; rw [if_pos h]
theorem compile_elems {s:List UInt8} (h1:(scanT s).2.1=0) (h:(elemsR (scanT s).1).2.1≠0):compileT s=(p0,(elemsR (scanT s).1).2):=by unfold compileT; rw [if_neg (by simp [h1]),if_pos h]
theorem compile_E {s:List UInt8} (h:C7 s):compileT s=compE (cmL s):=by unfold compileT; rw [if_neg (by simp [h.h1]),if_neg (by simp [h.h2])]; rfl
theorem compile_semi {s:List UInt8} (h:C7 s) (h3:aheadN (behindL (cmL s))<(behindL (cmL s)).length):compileT s=(p0,4,((behindL (cmL s)).getD (aheadN (behindL (cmL s))) default).at_):=by
 rw [compile_E h]; unfold compE; rw [if_pos h3]
theorem compile_r1 {s:List UInt8} (h:C12 s) (h4:(rd1 s).2.1≠0):compileT s=(p0,(rd1 s).2):=by
 rw [compile_E h.toC7]; unfold compE; rw [if_neg h.h3]
 exact if_pos h4
theorem compile_r2 {s:List UInt8} (h:C18 s) (h4:(rd2 s).2.1≠0):compileT s=(p0,(rd2 s).2):=by
 rw [compile_E h.toC7]; unfold compE; rw [if_neg h.h3]
 exact (if_neg fun h0=>h0 h.h4).trans ((if_pos h.h5).trans (if_pos h4))
theorem compile_two {s:List UInt8} (h:C18 s) (h4:(rd2 s).2.1=0):compileT s=if bothH (cmQ s)=true then (p0,6,0) else (cmQ s,0,0):=by
 rw [compile_E h.toC7]; unfold compE; rw [if_neg h.h3]
 exact (if_neg fun h0=>h0 h.h4).trans ((if_pos h.h5).trans (if_neg fun h0=>h0 h4))
theorem compile_one {s:List UInt8} (h:C16 s) (h5:¬ aheadN (cmL s)<(cmL s).length):compileT s=if bothH (cmP s)=true then (p0,6,0) else (cmP s,0,0):=by
 rw [compile_E h.toC7]; unfold compE; rw [if_neg h.h3]
 exact (if_neg fun h0=>h0 h.h4).trans (if_neg h5)
set_option maxHeartbeats 4000000 in
theorem ok_pcompile:FnP 14 sp_pcompile:=of_pcompile (by
 intro s hs
 rw [vc_pcompile]
 obtain ⟨h1,h2,h3,h4,h5⟩:=scanT_in s
 obtain ⟨k1,k2,k3⟩:=elems_in s
 have hL:cmL s=(elemsR (scanT s).1).1:=rfl
 rw [← hL] at k1 k3
 have l1:(rd1 s).1.px.length≤40∧(rd1 s).1.sx.length≤40:=readT_len ((cmL s).take (aheadN (cmL s))) 0 true
 have l2:(rd2 s).1.px.length≤40∧(rd2 s).1.sx.length≤40:=readT_len (behindL (cmL s)) (((cmL s).getD (aheadN (cmL s)) default).at_+1) false
 have hb:(behindL (cmL s)).length≤400:=by unfold behindL; rw [List.length_drop]; omega
 have hb1:EP (fun x=>0≤x∧x<(s.length:Int)) (behindL (cmL s)):=k1.drop _
 have ha:(cmL s).findIdx (isIn [59])=aheadN (cmL s):=rfl
 have hal:aheadN (cmL s)≤(cmL s).length:=List.findIdx_le_length
 have hab:(behindL (cmL s)).findIdx (isIn [59])=aheadN (behindL (cmL s)):=rfl
 have hbe:List.drop (Int.toNat (List.foldl (mnx false) ((aheadN (cmL s):Int)+1) [((cmL s).length:Int)])) (List.take (cmL s).length (cmL s))=behindL (cmL s):=by
  rw [fold_min,List.take_length]; unfold behindL; congr 1; omega
 have htk:List.drop 0 (List.take (Int.toNat (aheadN (cmL s):Int)) (cmL s))=(cmL s).take (aheadN (cmL s)):=by rw [Int.toNat_natCast]; rfl
 have htl:((cmL s).take (aheadN (cmL s))).length≤400:=by rw [List.length_take]; omega
 rw [ha,hab,htk]
 rw [show readT (List.take (aheadN (cmL s)) (cmL s)) 0 true=rd1 s from rfl]
 have fP:(cmP s).pre.length+(cmP s).suf.length+(cmP s).npre.length+(cmP s).nsuf.length≤1000000000:=by
  show (rd1 s).1.px.length+(rd1 s).1.sx.length+((rd1 s).1.px.length+1)+(rd1 s).1.sx.length≤_
  omega
 have fQ:(cmQ s).pre.length+(cmQ s).suf.length+(cmQ s).npre.length+(cmQ s).nsuf.length≤1000000000:=by
  show (rd1 s).1.px.length+(rd1 s).1.sx.length+(rd2 s).1.px.length+(rd2 s).1.sx.length≤_
  omega
 refine ⟨by omega,br_of (fun h=>?_) fun h=>⟨by omega,br_of (fun h'=>?_) fun h'=>⟨⟨⟨?_,?_⟩⟩,?_⟩,fun j7=>⟨by omega,⟨by simp only [inR]; omega,by rw [fold_min]; omega,j7,?_⟩,fun _=>⟨⟨by omega,br_of (fun h=>?_) fun h=>⟨⟨j7.down,?_⟩,?_⟩⟩,fun j12=>⟨⟨by omega,fun y hy=>(k1.take _ y hy).1,by omega,j12,?_⟩,fun _=>br_of (fun h=>?_) fun h=>⟨⟨by omega,⟨⟨j12.down,?_⟩⟩,?_⟩,fun j16=>⟨br_of (fun h=>?_) fun h=>?_,fun x=>?_⟩⟩⟩⟩⟩⟩⟩
 ·have h:(scanT s).2.1≠0:=by simpa using h
  rw [compile_scan h]; and_intros<;>rfl
 all_goals have g1:(scanT s).2.1=0:=by first | exact j7.down.h1 | simpa using h
 ·have h':(elemsR (scanT s).1).2.1≠0:=by simpa using h'
  rw [compile_elems g1 h']; and_intros<;>rfl
 ·exact g1
 ·simpa using h'
 ·and_intros<;>rfl
 ·and_intros
  all_goals first | rfl | exact hbe
 all_goals have g7:C7 s:=j7.down
 ·have h:aheadN (behindL (cmL s))<(behindL (cmL s)).length:=by simpa using h
  rw [compile_semi g7 h,Int.toNat_natCast]
  refine ⟨by omega,h,?_⟩
  have:=(hb1 _ (show (behindL (cmL s)).getD (aheadN (behindL (cmL s))) default∈behindL (cmL s) by rw [List.getD_eq_getElem?_getD,List.getElem?_eq_getElem h]; exact List.getElem_mem h)).1.1
  refine ⟨this,?_⟩
  and_intros<;>rfl
 ·simpa using h
 ·and_intros<;>rfl
 all_goals have g12:C12 s:=j12.down
 ·and_intros
  all_goals first | rfl
 ·have h:(rd1 s).2.1≠0:=by simpa using h
  rw [compile_r1 g12 h]; and_intros<;>rfl
 ·simpa using h
 ·and_intros<;>rfl
 all_goals have g16:C16 s:=j16.down
 ·have h:aheadN (cmL s)<(cmL s).length:=by simpa using h
  have hm:=k1 _ (show (cmL s).getD (aheadN (cmL s)) default∈cmL s by rw [List.getD_eq_getElem?_getD,List.getElem?_eq_getElem h]; exact List.getElem_mem h)
  rw [Int.toNat_natCast]
  refine ⟨⟨by omega,h,hm.1.1,by have:=hm.2; simp only [inR]; omega,fun y hy=>(hb1 y hy).1,by omega,⟨⟨g16,h⟩⟩,?_⟩,fun j18=>br_of (fun h=>?_) fun h=>⟨⟨cmQ s,fQ,compile_two j18.down (by simpa using h)⟩,?_⟩⟩
  ·and_intros<;>rfl
  ·have h:(rd2 s).2.1≠0:=by simpa using h
   rw [compile_r2 j18.down h]; and_intros<;>rfl
  ·and_intros<;>rfl
 ·have h:¬ aheadN (cmL s)<(cmL s).length:=by simpa using h
  refine ⟨⟨cmP s,fP,compile_one g16 h⟩,?_⟩
  and_intros<;>rfl
 ·have hx:=x.eq
  refine ⟨x.few,br_of (fun h=>⟨x.few,br_of (fun h'=>?_) fun h'=>?_⟩) fun h=>?_⟩
  ·rw [if_pos (by unfold bothH; rw [h,h']; rfl)] at hx
   rw [hx]; and_intros<;>rfl
  ·rw [if_neg (by unfold bothH; rw [h,h']; decide)] at hx
   rw [hx]; and_intros<;>rfl
  ·rw [if_neg (by unfold bothH; rw [h]; simp)] at hx
   rw [hx]; and_intros<;>rfl)
end Go.Proofs.YtglfkihckkjniaaGreatDoor.Vx
namespace Go.Proofs.YtglfkihckkjniaaGreatDoor.Vx
open Go Go.RowKit
structure SI (a b:List Itm) where
 n:Nat
 le:n≤a.length
 len:a.length=b.length
 eq:a.take n=b.take n
def sp_sitems:FSpec:=⟨[],fun | [.one (.rd (.items a)),.one (.rd (.items b))]=>some ([a.length≤1000000000000,b.length≤1000000000000],.one (.bool (decide (a=b)))) | _=>none⟩
theorem vc_sitems (a b:List Itm):vcP [] [] misc Tryz.f20 (.loop 4 (SI a b) (fun i=>⟨[(0,.one (.slc 0)),(1,.one (.slc 1)),(5,.one (.int .i64 i.n))],[(0,some (.read (.items a))),(1,some (.read (.items b)))],16⟩) (fun i=>a.length-i.n) (fun _=>.nil) .nil) [.one (.rd (.items a)),.one (.rd (.items b))] (.one (.bool (decide (a=b))))=(letI v0:=(↑(List.length a):Int); (br (v0 != (↑(List.length b):Int)) (false=decide (a=b)) ((∃ (x:SI a b),(0:Int)=(↑(SI.n x):Int)∧a=a∧b=b)∧∀ (x:SI a b),(letI v1:=(Int.toNat (↑(SI.n x):Int)); letI v2:=((0:Int)≤(↑(SI.n x):Int)∧(↑(SI.n x):Int)<(↑(List.length b):Int)); letI v3:=((0:Int)≤(↑(SI.n x):Int)∧(↑(SI.n x):Int)<v0); br (decide ((↑(SI.n x):Int)<v0)) (v3∧Int.toNat (↑(SI.n x):Int)<List.length a∧v2∧Int.toNat (↑(SI.n x):Int)<List.length b∧br (Itm.k (List.getD a v1 default) != Itm.k (List.getD b v1 default)) (false=decide (a=b)) (v3∧Int.toNat (↑(SI.n x):Int)<List.length a∧v2∧Int.toNat (↑(SI.n x):Int)<List.length b∧br (Itm.r (List.getD a v1 default) != Itm.r (List.getD b v1 default)) (false=decide (a=b)) (inR IntKind.i64 ((↑(SI.n x):Int)+(1:Int))∧∃ (x':SI a b),((↑(SI.n x):Int)+(1:Int)=(↑(SI.n x'):Int)∧a=a∧b=b)∧List.length a-SI.n x'<List.length a-SI.n x))) (true=decide (a=b)))))):=by kernel_rfl
set_option maxHeartbeats 4000000 in
theorem of_sitems (h:∀ (a b:List Itm),(a.length≤1000000000000)→(b.length≤1000000000000)→vcP [] [] misc Tryz.f20 (.loop 4 (SI a b) (fun i=>⟨[(0,.one (.slc 0)),(1,.one (.slc 1)),(5,.one (.int .i64 i.n))],[(0,some (.read (.items a))),(1,some (.read (.items b)))],16⟩) (fun i=>a.length-i.n) (fun _=>.nil) .nil) [.one (.rd (.items a)),.one (.rd (.items b))] (.one (.bool (decide (a=b))))):FnP 20 sp_sitems:=by
 refine fnP_ok (cs:=[]) (cas:=[]) (ms:=misc) .nil .nil misc_ok 20 Tryz.f20 (by kernel_rfl) (by kernel_rfl) (by kernel_rfl) (fun | [.one (.rd (.items a)),.one (.rd (.items b))]=>.loop 4 (SI a b) (fun i=>⟨[(0,.one (.slc 0)),(1,.one (.slc 1)),(5,.one (.int .i64 i.n))],[(0,some (.read (.items a))),(1,some (.read (.items b)))],16⟩) (fun i=>a.length-i.n) (fun _=>.nil) .nil | _=>.nil) ?_
 intro pvs p r hs hp
 unfold sp_sitems at hs
 simp only at hs
 split at hs
 ·rename_i a b
  cases hs
  refine h a b ?_ ?_
  ·exact hp.1
  ·exact hp.2
 ·cases hs
theorem SI.next {a b:List Itm} (x:SI a b) (h:x.n<a.length) (hk:(a.getD x.n default).k=(b.getD x.n default).k) (hr:(a.getD x.n default).r=(b.getD x.n default).r):a.take (x.n+1)=b.take (x.n+1):=by
 have hl:=x.len
 rw [List.take_add_one,List.take_add_one,x.eq,List.getElem?_eq_getElem h,List.getElem?_eq_getElem (by omega)]
 rw [List.getD_eq_getElem?_getD,List.getD_eq_getElem?_getD,List.getElem?_eq_getElem h,List.getElem?_eq_getElem (by omega)] at hk hr
 have:a[x.n]=b[x.n]:=by
  cases ha:a[x.n]; cases hb:b[x.n]
  rw [ha,hb] at hk hr
  simp at hk hr; rw [hk,hr]
 rw [this]
theorem ok_sitems:FnP 20 sp_sitems:=of_sitems (by
 intro a b ha hb
 rw [vc_sitems]
 refine br_of (fun h=>?_) fun h=>?_
 ·have h:(a.length:Int)≠b.length:=by simpa using h
  symm; rw [decide_eq_false_iff_not]; intro e; exact h (by rw [e])
 have h0:(a.length:Int)=b.length:=by simpa using h
 have h0:a.length=b.length:=by omega
 refine ⟨⟨⟨0,Nat.zero_le _,h0,rfl⟩,by and_intros<;>rfl⟩,fun x=>?_⟩
 rw [Int.toNat_natCast]
 refine br_of (fun h=>?_) fun h=>?_
 ·have h:x.n<a.length:=by simpa using h
  refine ⟨⟨by omega,by omega⟩,h,⟨by omega,by omega⟩,by omega,br_of (fun h1=>?_) fun h1=>⟨⟨by omega,by omega⟩,h,⟨by omega,by omega⟩,by omega,br_of (fun h2=>?_) fun h2=>⟨by simp only [inR]; omega,⟨x.n+1,h,h0,x.next h (by simpa using h1) (by simpa using h2)⟩,by and_intros<;>rfl,by show a.length-(x.n+1)<_; omega⟩⟩⟩
  ·have h1:(a.getD x.n default).k≠(b.getD x.n default).k:=by simpa using h1
   symm; rw [decide_eq_false_iff_not]; intro e; exact h1 (congrArg (fun l=>(List.getD l x.n default).k) e)
  ·have h1:(a.getD x.n default).r≠(b.getD x.n default).r:=by simpa using h2
   symm; rw [decide_eq_false_iff_not]; intro e; exact h1 (congrArg (fun l=>(List.getD l x.n default).r) e)
 ·have h:¬ x.n<a.length:=by simpa using h
  symm; rw [decide_eq_true_iff]
  have:=x.eq
  rwa [List.take_of_length_le (by omega),List.take_of_length_le (by omega)] at this)
structure P2 where
 a:Pat
 b:Pat
def P2.pvs (t:P2):List PV:=[.agg t.a.pcs,.agg t.b.pcs]
def p2Of:List PV→Option P2
 | [.agg x,.agg y]=>(patOf x).bind fun a=>(patOf y).bind fun b=>some ⟨a,b⟩
 | _=>none
theorem p2Of_eq {l:List PV} {p:P2} (h:p2Of l=some p):l=p.pvs:=by
 unfold p2Of at h
 split at h
 ·rename_i x y
  simp only [Option.bind_eq_some_iff] at h
  obtain ⟨a,ha,b,hb,h2⟩:=h
  cases h2
  rw [patOf_eq ha,patOf_eq hb]
  rfl
 ·cases h
def sameN (a b:Num):Bool:=decide (a.mi=b.mi∧a.xi=b.xi∧a.mf=b.mf∧a.xf=b.xf∧a.ms=b.ms∧a.xs=b.xs∧a.pr=b.pr∧a.sc=b.sc∧a.inc=b.inc∧a.ps=b.ps∧a.me=b.me∧a.px=b.px)
def samePt (a b:Pat):Bool:=sameN a.n b.n && decide (a.pre=b.pre∧a.suf=b.suf∧a.hn=b.hn∧a.npre=b.npre∧a.nsuf=b.nsuf∧a.pa=b.pa∧a.pd=b.pd∧a.pw=b.pw)
def sp_sfields:FSpec:=⟨[.agg p0.pcs,.agg p0.pcs],fun pvs=>(p2Of pvs).bind fun t=>some ([],.one (.bool (sameN t.a.n t.b.n)))⟩
theorem vc_sfields (t:P2):vcP [] [] misc Tryz.f39 (.nil) t.pvs (.one (.bool (sameN t.a.n t.b.n)))=(letI v0:=(false=sameN (Pat.n (P2.a t)) (Pat.n (P2.b t))); (br (Num.mi (Pat.n (P2.a t))==Num.mi (Pat.n (P2.b t))) (br (Num.xi (Pat.n (P2.a t))==Num.xi (Pat.n (P2.b t))) (br (Num.mf (Pat.n (P2.a t))==Num.mf (Pat.n (P2.b t))) (br (Num.xf (Pat.n (P2.a t))==Num.xf (Pat.n (P2.b t))) (br (Num.ms (Pat.n (P2.a t))==Num.ms (Pat.n (P2.b t))) (br (Num.xs (Pat.n (P2.a t))==Num.xs (Pat.n (P2.b t))) (br (Num.pr (Pat.n (P2.a t))==Num.pr (Pat.n (P2.b t))) (br (Num.sc (Pat.n (P2.a t))==Num.sc (Pat.n (P2.b t))) (br (decide (Num.inc (Pat.n (P2.a t))=Num.inc (Pat.n (P2.b t)))) (br (Num.ps (Pat.n (P2.a t))==Num.ps (Pat.n (P2.b t))) (br (Num.me (Pat.n (P2.a t))==Num.me (Pat.n (P2.b t))) ((Num.px (Pat.n (P2.a t))==Num.px (Pat.n (P2.b t)))=sameN (Pat.n (P2.a t)) (Pat.n (P2.b t))) v0) v0) v0) v0) v0) v0) v0) v0) v0) v0) v0)):=by kernel_rfl
set_option maxHeartbeats 4000000 in
theorem of_sfields (h:∀ (t:P2),vcP [] [] misc Tryz.f39 (.nil) t.pvs (.one (.bool (sameN t.a.n t.b.n)))):FnP 39 sp_sfields:=by
 refine fnP_ok (cs:=[]) (cas:=[]) (ms:=misc) .nil .nil misc_ok 39 Tryz.f39 (by kernel_rfl) (by kernel_rfl) (by kernel_rfl) (fun _=>.nil) ?_
 intro pvs p r hs hp
 obtain ⟨t,hx,h2⟩:=Option.bind_eq_some_iff.1 hs
 cases h2
 have:=h t
 rw [← p2Of_eq hx] at this
 exact this
theorem ok_sfields:FnP 39 sp_sfields:=of_sfields (by
 intro t
 rw [vc_sfields]
 unfold sameN
 repeat' (first | (refine br_of (fun h=>?_) fun h=>?_))
 all_goals simp_all
 all_goals first | rfl | exact Bool.beq_eq_decide_eq _ _)
def Pat.small (p:Pat) (n:Nat):Prop:=p.pre.length≤n∧p.suf.length≤n∧p.npre.length≤n∧p.nsuf.length≤n
def sp_spat:FSpec:=⟨[.agg p0.pcs,.agg p0.pcs],fun pvs=>(p2Of pvs).bind fun t=>some ([t.a.small 1000000000000,t.b.small 1000000000000],.one (.bool (samePt t.a t.b)))⟩
theorem vc_spat (t:P2):vcP [(39,sp_sfields),(20,sp_sitems)] [] misc Tryz.f16 (.nil) t.pvs (.one (.bool (samePt t.a t.b)))=(letI v0:=(false=samePt (P2.a t) (P2.b t)); (br (sameN (Pat.n (P2.a t)) (Pat.n (P2.b t))) (List.length (Pat.pre (P2.a t))≤(1000000000000:Nat)∧List.length (Pat.pre (P2.b t))≤(1000000000000:Nat)∧br (decide (Pat.pre (P2.a t)=Pat.pre (P2.b t))) (List.length (Pat.suf (P2.a t))≤(1000000000000:Nat)∧List.length (Pat.suf (P2.b t))≤(1000000000000:Nat)∧br (decide (Pat.suf (P2.a t)=Pat.suf (P2.b t))) (br (Pat.hn (P2.a t)==Pat.hn (P2.b t)) (List.length (Pat.npre (P2.a t))≤(1000000000000:Nat)∧List.length (Pat.npre (P2.b t))≤(1000000000000:Nat)∧br (decide (Pat.npre (P2.a t)=Pat.npre (P2.b t))) (List.length (Pat.nsuf (P2.a t))≤(1000000000000:Nat)∧List.length (Pat.nsuf (P2.b t))≤(1000000000000:Nat)∧br (decide (Pat.nsuf (P2.a t)=Pat.nsuf (P2.b t))) (br (Pat.pa (P2.a t)==Pat.pa (P2.b t)) (br (Pat.pd (P2.a t)==Pat.pd (P2.b t)) ((Pat.pw (P2.a t)==Pat.pw (P2.b t))=samePt (P2.a t) (P2.b t)) v0) v0) v0) v0) v0) v0) v0) v0)):=by kernel_rfl
set_option maxHeartbeats 4000000 in
theorem of_spat (h:∀ (t:P2),(t.a.small 1000000000000)→(t.b.small 1000000000000)→vcP [(39,sp_sfields),(20,sp_sitems)] [] misc Tryz.f16 (.nil) t.pvs (.one (.bool (samePt t.a t.b)))):FnP 16 sp_spat:=by
 refine fnP_ok (cs:=[(39,sp_sfields),(20,sp_sitems)]) (cas:=[]) (ms:=misc) (.cons ok_sfields (.cons ok_sitems .nil)) .nil misc_ok 16 Tryz.f16 (by kernel_rfl) (by kernel_rfl) (by kernel_rfl) (fun _=>.nil) ?_
 intro pvs p r hs hp
 obtain ⟨t,hx,h2⟩:=Option.bind_eq_some_iff.1 hs
 cases h2
 have:=h t (hp.1) (hp.2)
 rw [← p2Of_eq hx] at this
 exact this
theorem ok_spat:FnP 16 sp_spat:=of_spat (by
 intro t ha hb
 obtain ⟨a1,a2,a3,a4⟩:=ha
 obtain ⟨b1,b2,b3,b4⟩:=hb
 rw [vc_spat]
 unfold samePt
 refine br_of (fun h=>⟨a1,b1,br_of (fun h=>⟨a2,b2,br_of (fun h=>br_of (fun h=>⟨a3,b3,br_of (fun h=>⟨a4,b4,br_of (fun h=>br_of (fun h=>br_of (fun h=>?_) fun h=>?_) fun h=>?_) fun h=>?_⟩) fun h=>?_⟩) fun h=>?_) fun h=>?_⟩) fun h=>?_⟩) fun h=>?_
 all_goals simp_all
 all_goals first | rfl | exact Bool.beq_eq_decide_eq _ _)
def litA:List UInt8:=[42,120,35,44,35,35,48,46,48,48,37,59,40,35,41]
def patA:Pat:=⟨[],[⟨4,0⟩],true,[⟨1,40⟩],[⟨1,41⟩],⟨1,0,2,2,0,0,3,3,[],false,0,false⟩,1,120,9⟩
theorem compA:compileT litA=(patA,0,0):=by kernel_rfl
theorem compB:compileT [97]=(p0,4,0):=by kernel_rfl
def sp_pcAB:FSpec:=⟨[],fun
 | [.one (.str s)]=>bif s==litA then some ([],.tup [(true,patA.pcs),(true,[.int .i64 0,.int .i64 0])]) else bif s==[97] then some ([],.tup [(true,p0.pcs),(true,[.int .i64 4,.int .i64 0])]) else none
 | _=>none⟩
theorem ok_pcAB:FnP 14 sp_pcAB:=by
 refine ⟨ok_pcompile.body,?_⟩
 intro pvs p r hs hp
 unfold sp_pcAB at hs
 simp only at hs
 split at hs
 ·rename_i s
  cases h1:s==litA with
  | true =>
   rw [h1,cond_true] at hs
   cases hs
   have:=eq_of_beq h1
   subst this
   refine ok_pcompile.calls [.one (.str litA)] [litA.length≤1000000] _ ?_ (show litA.length≤1000000 by decide)
   show some (_,_)=some (_,_)
   rw [compA]
  | false =>
   rw [h1,cond_false] at hs
   cases h2:s==[97] with
   | true =>
    rw [h2,cond_true] at hs
    cases hs
    have:=eq_of_beq h2
    subst this
    refine ok_pcompile.calls [.one (.str [97])] [([97]:List UInt8).length≤1000000] _ ?_ (show ([97]:List UInt8).length≤1000000 by decide)
    show some (_,_)=some (_,_)
    rw [compB]
   | false=>rw [h2,cond_false] at hs; cases hs
 ·cases hs
def sp_ans16:FSpec:=⟨[],fun | []=>some ([],.one (.bool true)) | _=>none⟩
theorem vc_ans16  : vcP [(14,sp_pcAB),(29,sp_pmult)] [] misc Tryz.f13 (.nil) [] (.one (.bool true))=((List.length (Pat.pre patA)+List.length (Pat.suf patA)+List.length (Pat.npre patA)+List.length (Pat.nsuf patA)≤(1000000000:Nat)∧((4:Int)==(4:Int))=true)):=by kernel_rfl
set_option maxHeartbeats 4000000 in
theorem of_ans16 (h:vcP [(14,sp_pcAB),(29,sp_pmult)] [] misc Tryz.f13 (.nil) [] (.one (.bool true))):FnP 13 sp_ans16:=by
 refine fnP_ok (cs:=[(14,sp_pcAB),(29,sp_pmult)]) (cas:=[]) (ms:=misc) (.cons ok_pcAB (.cons ok_pmult .nil)) .nil misc_ok 13 Tryz.f13 (by kernel_rfl) (by kernel_rfl) (by kernel_rfl) (fun _=>.nil) ?_
 intro pvs p r hs hp
 unfold sp_ans16 at hs
 simp only at hs
 split at hs
 ·cases hs
  refine h 
 ·cases hs
theorem ok_ans16:FnP 13 sp_ans16:=of_ans16 (by
 rw [vc_ans16]
 exact ⟨by decide,rfl⟩)
theorem compE_small (l:List Iv):(compE l).1.small 41:=by
 have l1:=readT_len (l.take (aheadN l)) 0 true
 have l2:=readT_len (behindL l) ((l.getD (aheadN l) default).at_+1) false
 have h0:p0.small 41:=⟨Nat.zero_le _,Nat.zero_le _,Nat.zero_le _,Nat.zero_le _⟩
 have hm:(madeT (readT (l.take (aheadN l)) 0 true).1.pa).small 41:=by
  refine ⟨?_,?_,?_,?_⟩
  ·show (readT (l.take (aheadN l)) 0 true).1.px.length≤_; omega
  ·show (readT (l.take (aheadN l)) 0 true).1.sx.length≤_; omega
  ·show (readT (l.take (aheadN l)) 0 true).1.px.length+1≤_; omega
  ·show (readT (l.take (aheadN l)) 0 true).1.sx.length≤_; omega
 unfold compE
 repeat' split
 all_goals first | exact h0 | exact hm | exact ⟨hm.1,hm.2.1,by show List.length _≤_; dsimp only; omega,by show List.length _≤_; dsimp only; omega⟩
theorem compileT_small (s:List UInt8):(compileT s).1.small 41:=by
 have h0:p0.small 41:=⟨Nat.zero_le _,Nat.zero_le _,Nat.zero_le _,Nat.zero_le _⟩
 unfold compileT
 repeat' split
 all_goals first | exact h0 | exact compE_small _
theorem Pat.small.mono {p:Pat} {n m:Nat} (h:p.small n) (hm:n≤m):p.small m:=⟨Nat.le_trans h.1 hm,Nat.le_trans h.2.1 hm,Nat.le_trans h.2.2.1 hm,Nat.le_trans h.2.2.2 hm⟩
end Go.Proofs.YtglfkihckkjniaaGreatDoor.Vx
namespace Go.Proofs.YtglfkihckkjniaaGreatDoor.Vx
open Go Go.RowKit
def cutI (c:Int):List UInt8→List UInt8×List UInt8×Bool
 | []=>([],[],false)
 | x :: l=>if (x.toNat:Int)=c then ([],l,true) else (x :: (cutI c l).1,(cutI c l).2.1,(cutI c l).2.2)
def CI (c:Int) (s:List UInt8):Type:={i:Nat // i≤s.length∧cutI c s=(s.take i++(cutI c (s.drop i)).1,(cutI c (s.drop i)).2.1,(cutI c (s.drop i)).2.2)}
def sp_r3cut:FSpec:=⟨[],fun | [.one (.str s),.one (.int .u8 c)]=>some ([s.length≤1000000000000],.tup [(false,[.str (cutI c s).1]),(false,[.str (cutI c s).2.1]),(false,[.bool (cutI c s).2.2])]) | _=>none⟩
theorem vc_r3cut (s:List UInt8) (c:Int):vcP [] [] misc Tryz.f40 (.loop 2 (CI c s) (fun i=>⟨[(0,.one (.str s)),(1,.one (.int .u8 c)),(7,.one (.int .i64 i.1))],[],16⟩) (fun i=>s.length-i.1) (fun _=>.nil) .nil) [.one (.str s),.one (.int .u8 c)] (.tup [(false,[.str (cutI c s).1]),(false,[.str (cutI c s).2.1]),(false,[.bool (cutI c s).2.2])])=(letI v0:=(↑(List.length s):Int); ((∃ (x:CI c s),s=s∧c=c∧(0:Int)=(↑(Subtype.val x):Int))∧∀ (x:CI c s),(letI v1:=(↑(Subtype.val x):Int); br (decide (v1<v0)) (((0:Int)≤v1∧v1<v0)∧br (bAt s v1==c) (((0:Int)≤v1∧v1≤v0)∧inR IntKind.i64 (v1+(1:Int))∧((0:Int)≤v1+(1:Int)∧v1+(1:Int)≤v0)∧List.take (Int.toNat v1) s=(cutI c s).1∧List.drop (Int.toNat (v1+(1:Int))) s=(cutI c s).2.1∧true=(cutI c s).2.2) (inR IntKind.i64 (v1+(1:Int))∧∃ (x':CI c s),(s=s∧c=c∧v1+(1:Int)=(↑(Subtype.val x'):Int))∧List.length s-Subtype.val x'<List.length s-Subtype.val x)) (s=(cutI c s).1∧Array.toList #[]=(cutI c s).2.1∧false=(cutI c s).2.2)))):=by kernel_rfl
set_option maxHeartbeats 4000000 in
theorem of_r3cut (h:∀ (s:List UInt8) (c:Int),(s.length≤1000000000000)→vcP [] [] misc Tryz.f40 (.loop 2 (CI c s) (fun i=>⟨[(0,.one (.str s)),(1,.one (.int .u8 c)),(7,.one (.int .i64 i.1))],[],16⟩) (fun i=>s.length-i.1) (fun _=>.nil) .nil) [.one (.str s),.one (.int .u8 c)] (.tup [(false,[.str (cutI c s).1]),(false,[.str (cutI c s).2.1]),(false,[.bool (cutI c s).2.2])])):FnP 40 sp_r3cut:=by
 refine fnP_ok (cs:=[]) (cas:=[]) (ms:=misc) .nil .nil misc_ok 40 Tryz.f40 (by kernel_rfl) (by kernel_rfl) (by kernel_rfl) (fun | [.one (.str s),.one (.int .u8 c)]=>.loop 2 (CI c s) (fun i=>⟨[(0,.one (.str s)),(1,.one (.int .u8 c)),(7,.one (.int .i64 i.1))],[],16⟩) (fun i=>s.length-i.1) (fun _=>.nil) .nil | _=>.nil) ?_
 intro pvs p r hs hp
 unfold sp_r3cut at hs
 simp only at hs
 split at hs
 ·rename_i s c
  cases hs
  refine h s c ?_
  ·exact hp
 ·cases hs
def isC (k:Int) (x:UInt8):Bool:=((x.toNat:Int)==k) || ((k==48) && decide ((x.toNat:Int)≥48) && decide ((x.toNat:Int)≤57))
def cntC (k:Int) (s:List UInt8):Nat:=s.countP (isC k)
def sp_r3count:FSpec:=⟨[],fun | [.one (.str s),.one (.int .u8 c)]=>some ([s.length≤1000000000000],.one (.int .i64 (cntC c s))) | _=>none⟩
theorem vc_r3count (s:List UInt8) (c:Int):vcP [] [] misc Tryz.f42 (.loop 3 (Upto s) (fun i=>⟨[(0,.one (.str s)),(1,.one (.int .u8 c)),(5,.one (.int .i64 (cntC c (s.take i.1)))),(6,.one (.int .i64 i.1))],[],16⟩) (fun i=>s.length-i.1) (fun _=>.nil) .nil) [.one (.str s),.one (.int .u8 c)] (.one (.int .i64 (cntC c s)))=(letI v0:=(↑(List.length s):Int); ((∃ (x:Upto s),s=s∧c=c∧(0:Int)=(↑(cntC c (List.take (Subtype.val x) s)):Int)∧(0:Int)=(↑(Subtype.val x):Int))∧∀ (x:Upto s),(letI v1:=(↑(Subtype.val x):Int); letI v2:=(↑(cntC c (List.take (Subtype.val x) s)):Int); br (decide (v1<v0)) (((0:Int)≤v1∧v1<v0)∧br (bAt s v1==c) (inR IntKind.i64 (v2+(1:Int))∧inR IntKind.i64 (v1+(1:Int))∧∃ (x':Upto s),(s=s∧c=c∧v2+(1:Int)=(↑(cntC c (List.take (Subtype.val x') s)):Int)∧v1+(1:Int)=(↑(Subtype.val x'):Int))∧List.length s-Subtype.val x'<List.length s-Subtype.val x) (br (c==(48:Int)) (((0:Int)≤v1∧v1<v0)∧br (decide (bAt s v1≥(48:Int))) (((0:Int)≤v1∧v1<v0)∧br (decide (bAt s v1≤(57:Int))) (inR IntKind.i64 (v2+(1:Int))∧inR IntKind.i64 (v1+(1:Int))∧∃ (x':Upto s),(s=s∧c=c∧v2+(1:Int)=(↑(cntC c (List.take (Subtype.val x') s)):Int)∧v1+(1:Int)=(↑(Subtype.val x'):Int))∧List.length s-Subtype.val x'<List.length s-Subtype.val x) (inR IntKind.i64 (v1+(1:Int))∧∃ (x':Upto s),(s=s∧c=c∧v2=(↑(cntC c (List.take (Subtype.val x') s)):Int)∧v1+(1:Int)=(↑(Subtype.val x'):Int))∧List.length s-Subtype.val x'<List.length s-Subtype.val x)) (inR IntKind.i64 (v1+(1:Int))∧∃ (x':Upto s),(s=s∧c=c∧v2=(↑(cntC c (List.take (Subtype.val x') s)):Int)∧v1+(1:Int)=(↑(Subtype.val x'):Int))∧List.length s-Subtype.val x'<List.length s-Subtype.val x)) (inR IntKind.i64 (v1+(1:Int))∧∃ (x':Upto s),(s=s∧c=c∧v2=(↑(cntC c (List.take (Subtype.val x') s)):Int)∧v1+(1:Int)=(↑(Subtype.val x'):Int))∧List.length s-Subtype.val x'<List.length s-Subtype.val x))) (v2=(↑(cntC c s):Int))))):=by kernel_rfl
set_option maxHeartbeats 4000000 in
theorem of_r3count (h:∀ (s:List UInt8) (c:Int),(s.length≤1000000000000)→vcP [] [] misc Tryz.f42 (.loop 3 (Upto s) (fun i=>⟨[(0,.one (.str s)),(1,.one (.int .u8 c)),(5,.one (.int .i64 (cntC c (s.take i.1)))),(6,.one (.int .i64 i.1))],[],16⟩) (fun i=>s.length-i.1) (fun _=>.nil) .nil) [.one (.str s),.one (.int .u8 c)] (.one (.int .i64 (cntC c s)))):FnP 42 sp_r3count:=by
 refine fnP_ok (cs:=[]) (cas:=[]) (ms:=misc) .nil .nil misc_ok 42 Tryz.f42 (by kernel_rfl) (by kernel_rfl) (by kernel_rfl) (fun | [.one (.str s),.one (.int .u8 c)]=>.loop 3 (Upto s) (fun i=>⟨[(0,.one (.str s)),(1,.one (.int .u8 c)),(5,.one (.int .i64 (cntC c (s.take i.1)))),(6,.one (.int .i64 i.1))],[],16⟩) (fun i=>s.length-i.1) (fun _=>.nil) .nil | _=>.nil) ?_
 intro pvs p r hs hp
 unfold sp_r3count at hs
 simp only at hs
 split at hs
 ·rename_i s c
  cases hs
  refine h s c ?_
  ·exact hp
 ·cases hs
theorem bAt_nat (s:List UInt8) (i:Nat):bAt s (i:Int)=((s.getD i 0).toNat:Int):=by
 unfold bAt; rw [Int.toNat_natCast]
theorem cntC_next (c:Int) (s:List UInt8) {i:Nat} (h:i<s.length):cntC c (s.take (i+1))=cntC c (s.take i)+if isC c (s.getD i 0)=true then 1 else 0:=by
 unfold cntC
 rw [take_next s 0 h,List.countP_append,List.countP_singleton]
theorem cntC_le (c:Int) (s:List UInt8):cntC c s≤s.length:=List.countP_le_length
theorem ok_r3count:FnP 42 sp_r3count:=of_r3count (by
 intro s c hs
 rw [vc_r3count]
 refine ⟨⟨⟨0,Nat.zero_le _⟩,by and_intros<;>rfl⟩,fun x=>?_⟩
 have hx:=x.2
 have hl:=cntC_le c (s.take x.1)
 have hl2:(s.take x.1).length≤s.length:=by rw [List.length_take]; omega
 refine br_of (fun h=>?_) fun h=>?_
 ·have h:x.1<s.length:=by simpa using h
  have hn:=cntC_next c s h
  rw [bAt_nat]
  have yes:isC c (s.getD x.1 0)=true→∃ x':Upto s,(s=s∧c=c∧((cntC c (s.take x.1):Nat):Int)+1=(cntC c (s.take x'.1):Nat)∧(x.1:Int)+1=(x'.1:Nat))∧s.length-x'.1<s.length-x.1:=fun hy=>by
   rw [if_pos hy] at hn
   exact ⟨⟨x.1+1,h⟩,⟨rfl,rfl,by show _=((cntC c (s.take (x.1+1)):Nat):Int); omega,rfl⟩,by show s.length-(x.1+1)<_; omega⟩
  have no:isC c (s.getD x.1 0)=false→∃ x':Upto s,(s=s∧c=c∧((cntC c (s.take x.1):Nat):Int)=(cntC c (s.take x'.1):Nat)∧(x.1:Int)+1=(x'.1:Nat))∧s.length-x'.1<s.length-x.1:=fun hy=>by
   rw [if_neg (by rw [hy]; decide)] at hn
   exact ⟨⟨x.1+1,h⟩,⟨rfl,rfl,by show _=((cntC c (s.take (x.1+1)):Nat):Int); omega,rfl⟩,by show s.length-(x.1+1)<_; omega⟩
  have i1:inR .i64 ((x.1:Int)+1):=by simp only [inR]; omega
  have i2:inR .i64 (((cntC c (s.take x.1):Nat):Int)+1):=by simp only [inR]; omega
  refine ⟨⟨by omega,by omega⟩,br_of (fun h1=>⟨i2,i1,yes (by unfold isC; rw [h1]; rfl)⟩) fun h1=>br_of (fun h2=>⟨⟨by omega,by omega⟩,br_of (fun h3=>⟨⟨by omega,by omega⟩,br_of (fun h4=>⟨i2,i1,yes (by unfold isC; rw [h1,h2,h3,h4]; rfl)⟩) fun h4=>⟨i1,no (by unfold isC; rw [h1,h2,h3,h4]; rfl)⟩⟩) fun h3=>⟨i1,no (by unfold isC; rw [h1,h2,h3]; rfl)⟩⟩) fun h2=>⟨i1,no (by unfold isC; rw [h1,h2]; rfl)⟩⟩
 ·have h:¬ x.1<s.length:=by simpa using h
  rw [List.take_of_length_le (by omega)])
def ST (s:List UInt8):Type:={t:List UInt8 // t.length≤s.length∧dropP (·==48) t=dropP (·==48) s}
def sp_r3strip:FSpec:=⟨[],fun | [.one (.str s)]=>some ([s.length≤1000000000000],.one (.str (dropP (·==48) s))) | _=>none⟩
theorem vc_r3strip (s:List UInt8):vcP [] [] misc Tryz.f41 (.loop 1 (ST s) (fun t=>⟨[(0,.one (.str t.1))],[],16⟩) (fun t=>t.1.length) (fun _=>.nil) .nil) [.one (.str s)] (.one (.str (dropP (·==48) s)))=(((∃ (x:ST s),s=Subtype.val x)∧∀ (x:ST s),br (decide ((↑(List.length (Subtype.val x)):Int)>(0:Int))) (((0:Int)≤(0:Int)∧(0:Int)<(↑(List.length (Subtype.val x)):Int))∧br (bAt (Subtype.val x) (0:Int)==(48:Int)) (((0:Int)≤(1:Int)∧(1:Int)≤(↑(List.length (Subtype.val x)):Int))∧∃ (x':ST s),List.drop (Int.toNat (1:Int)) (Subtype.val x)=Subtype.val x'∧List.length (Subtype.val x')<List.length (Subtype.val x)) (Subtype.val x=dropP (fun (x:Int)=>x==(48:Int)) s)) (Subtype.val x=dropP (fun (x:Int)=>x==(48:Int)) s))):=by kernel_rfl
set_option maxHeartbeats 4000000 in
theorem of_r3strip (h:∀ (s:List UInt8),(s.length≤1000000000000)→vcP [] [] misc Tryz.f41 (.loop 1 (ST s) (fun t=>⟨[(0,.one (.str t.1))],[],16⟩) (fun t=>t.1.length) (fun _=>.nil) .nil) [.one (.str s)] (.one (.str (dropP (·==48) s)))):FnP 41 sp_r3strip:=by
 refine fnP_ok (cs:=[]) (cas:=[]) (ms:=misc) .nil .nil misc_ok 41 Tryz.f41 (by kernel_rfl) (by kernel_rfl) (by kernel_rfl) (fun | [.one (.str s)]=>.loop 1 (ST s) (fun t=>⟨[(0,.one (.str t.1))],[],16⟩) (fun t=>t.1.length) (fun _=>.nil) .nil | _=>.nil) ?_
 intro pvs p r hs hp
 unfold sp_r3strip at hs
 simp only at hs
 split at hs
 ·rename_i s
  cases hs
  refine h s ?_
  ·exact hp
 ·cases hs
def dropC (k:Int) (s:List UInt8):List UInt8:=s.dropWhile (isC k)
def rowsF (a b c:Int) (k:Nat) (s:List UInt8):List UInt8 :=
 match k with
 | 0=>dropC c (dropC b (dropC a s))
 | 1=>dropC c (dropC b s)
 | 2=>dropC c s
 | _=>s
def RW (a b c:Int) (s:List UInt8):Type:={p:Nat×Nat // p.1≤s.length∧p.2≤2∧rowsF a b c p.2 (s.drop p.1)=rowsF a b c 0 s}
def RI (a b c:Int) (s:List UInt8) (i:Nat):Type:={k:Nat // i<s.length∧k≤3∧rowsF a b c k (s.drop i)=rowsF a b c 0 s}
def sp_r3rows:FSpec:=⟨[],fun | [.one (.str s),.one (.int .u8 a),.one (.int .u8 b),.one (.int .u8 c)]=>some ([s.length≤1000000000000,(0≤a∧a<256)∧(0≤b∧b<256)∧(0≤c∧c<256)],.one (.bool (decide (rowsF a b c 0 s=[])))) | _=>none⟩
theorem vc_r3rows (s:List UInt8) (a b c:Int):vcP [(42,sp_r3count)] [] miscL Tryz.f43 (.loop 4 (RW a b c s) (fun p=>⟨[(0,.one (.str s)),(9,.one (.slc 16)),(10,.one (.int .i64 p.1.2)),(11,.one (.int .i64 p.1.1))],[(16,some (.row 5 (.ints .u8 [a,b,c])))],17⟩) (fun p=>s.length-p.1.1) (fun p=>.loop 6 (RI a b c s p.1.1) (fun k=>⟨[(0,.one (.str s)),(9,.one (.slc 16)),(10,.one (.int .i64 k.1)),(11,.one (.int .i64 p.1.1))],[(16,some (.row 5 (.ints .u8 [a,b,c])))],17⟩) (fun k=>3-k.1) (fun _=>.nil) .nil) .nil) [.one (.str s),.one (.int .u8 a),.one (.int .u8 b),.one (.int .u8 c)] (.one (.bool (decide (rowsF a b c 0 s=[]))))=(((∃ (x:RW a b c s),s=s∧(0:Int)=(↑(Subtype.val x).2:Int)∧(0:Int)=(↑(Subtype.val x).1:Int)∧[]++[a]++[b]++[c]=[a,b,c])∧∀ (x:RW a b c s),(letI v0:=(↑(Subtype.val x).1:Int); letI v1:=(List.drop (Int.toNat v0) (List.take (Int.toNat (v0+(1:Int))) s)); letI v2:=(rowsF a b c (0:Nat) s=[]); br (decide (v0<(↑(List.length s):Int))) ((∃ (x_1:RI a b c s (Prod.fst (Subtype.val x))),s=s∧(↑(Subtype.val x).2:Int)=(↑(Subtype.val x_1):Int)∧v0=v0∧[a,b,c]=[a,b,c])∧∀ (x_1:RI a b c s (Prod.fst (Subtype.val x))),(letI v3:=(↑(Subtype.val x_1):Int); br (decide (v3<(3:Int))) (inR IntKind.i64 (v0+(1:Int))∧((0:Int)≤v0∧v0≤v0+(1:Int)∧v0+(1:Int)≤(↑(List.length s):Int))∧((0:Int)≤v3∧v3<(↑(3:Nat):Int))∧Int.toNat v3<(3:Nat)∧List.length v1≤(1000000000000:Nat)∧br ((↑(cntC (List.getD [a,b,c] (Int.toNat v3) (0:Int)) v1):Int)==(0:Int)) (inR IntKind.i64 (v3+(1:Int))∧∃ (x':RI a b c s (Prod.fst (Subtype.val x))),(s=s∧v3+(1:Int)=(↑(Subtype.val x'):Int)∧v0=v0∧[a,b,c]=[a,b,c])∧(3:Nat)-Subtype.val x'<(3:Nat)-Subtype.val x_1) (br (v3==(3:Int)) (false=decide v2) (inR IntKind.i64 (v0+(1:Int))∧∃ (x':RW a b c s),(s=s∧v3=(↑(Subtype.val x').2:Int)∧v0+(1:Int)=(↑(Subtype.val x').1:Int)∧[a,b,c]=[a,b,c])∧List.length s-(Subtype.val x').1<List.length s-(Subtype.val x).1))) (br (v3==(3:Int)) (false=decide v2) (inR IntKind.i64 (v0+(1:Int))∧∃ (x':RW a b c s),(s=s∧v3=(↑(Subtype.val x').2:Int)∧v0+(1:Int)=(↑(Subtype.val x').1:Int)∧[a,b,c]=[a,b,c])∧List.length s-(Subtype.val x').1<List.length s-(Subtype.val x).1)))) (true=decide v2)))):=by kernel_rfl
set_option maxHeartbeats 4000000 in
theorem of_r3rows (h:∀ (s:List UInt8) (a b c:Int),(s.length≤1000000000000)→((0≤a∧a<256)∧(0≤b∧b<256)∧(0≤c∧c<256))→vcP [(42,sp_r3count)] [] miscL Tryz.f43 (.loop 4 (RW a b c s) (fun p=>⟨[(0,.one (.str s)),(9,.one (.slc 16)),(10,.one (.int .i64 p.1.2)),(11,.one (.int .i64 p.1.1))],[(16,some (.row 5 (.ints .u8 [a,b,c])))],17⟩) (fun p=>s.length-p.1.1) (fun p=>.loop 6 (RI a b c s p.1.1) (fun k=>⟨[(0,.one (.str s)),(9,.one (.slc 16)),(10,.one (.int .i64 k.1)),(11,.one (.int .i64 p.1.1))],[(16,some (.row 5 (.ints .u8 [a,b,c])))],17⟩) (fun k=>3-k.1) (fun _=>.nil) .nil) .nil) [.one (.str s),.one (.int .u8 a),.one (.int .u8 b),.one (.int .u8 c)] (.one (.bool (decide (rowsF a b c 0 s=[]))))):FnP 43 sp_r3rows:=by
 refine fnP_ok (cs:=[(42,sp_r3count)]) (cas:=[]) (ms:=miscL) (.cons ok_r3count .nil) .nil miscL_ok 43 Tryz.f43 (by kernel_rfl) (by kernel_rfl) (by kernel_rfl) (fun | [.one (.str s),.one (.int .u8 a),.one (.int .u8 b),.one (.int .u8 c)]=>.loop 4 (RW a b c s) (fun p=>⟨[(0,.one (.str s)),(9,.one (.slc 16)),(10,.one (.int .i64 p.1.2)),(11,.one (.int .i64 p.1.1))],[(16,some (.row 5 (.ints .u8 [a,b,c])))],17⟩) (fun p=>s.length-p.1.1) (fun p=>.loop 6 (RI a b c s p.1.1) (fun k=>⟨[(0,.one (.str s)),(9,.one (.slc 16)),(10,.one (.int .i64 k.1)),(11,.one (.int .i64 p.1.1))],[(16,some (.row 5 (.ints .u8 [a,b,c])))],17⟩) (fun k=>3-k.1) (fun _=>.nil) .nil) .nil | _=>.nil) ?_
 intro pvs p r hs hp
 unfold sp_r3rows at hs
 simp only at hs
 split at hs
 ·rename_i s a b c
  cases hs
  refine h s a b c ?_ ?_
  ·exact hp.1
  ·exact hp.2
 ·cases hs
theorem cutI_here {c:Int} {s:List UInt8} {i:Nat} (h:i<s.length) (hc:((s.getD i 0).toNat:Int)=c):cutI c (s.drop i)=([],s.drop (i+1),true):=by
 rw [drop_next s 0 h]; unfold cutI; rw [if_pos hc]
theorem cutI_on {c:Int} {s:List UInt8} {i:Nat} (h:i<s.length) (hc:((s.getD i 0).toNat:Int)≠c):cutI c (s.drop i)=(s.getD i 0 :: (cutI c (s.drop (i+1))).1,(cutI c (s.drop (i+1))).2.1,(cutI c (s.drop (i+1))).2.2):=by
 rw [drop_next s 0 h,cutI,if_neg hc]
theorem ok_r3cut:FnP 40 sp_r3cut:=of_r3cut (by
 intro s c hs
 rw [vc_r3cut]
 refine ⟨⟨⟨0,Nat.zero_le _,rfl⟩,by and_intros<;>rfl⟩,fun x=>?_⟩
 obtain ⟨i,hx,hq⟩:=x
 dsimp only
 refine br_of (fun h=>?_) fun h=>?_
 ·have h:i<s.length:=by simpa using h
  rw [bAt_nat]
  refine ⟨⟨by omega,by omega⟩,br_of (fun h1=>⟨⟨by omega,by omega⟩,by simp only [inR]; omega,⟨by omega,by omega⟩,?_⟩) fun h1=>⟨by simp only [inR]; omega,⟨i+1,h,?_⟩,by and_intros<;>rfl,by show s.length-(i+1)<_; omega⟩⟩
  ·rw [cutI_here h (by simpa using h1)] at hq
   rw [hq,Int.toNat_natCast,show ((i:Int)+1).toNat=i+1 by omega]
   exact ⟨(List.append_nil _).symm,rfl,rfl⟩
  ·rw [hq,cutI_on h (by simpa using h1),take_next s 0 h]
   simp
 ·have h:i=s.length:=by
   have:¬ i<s.length:=by simpa using h
   omega
  rw [h,List.drop_length,List.take_length] at hq
  rw [hq]
  exact ⟨(List.append_nil _).symm,rfl,rfl⟩)
theorem ok_r3strip:FnP 41 sp_r3strip:=of_r3strip (by
 intro s hs
 rw [vc_r3strip]
 refine ⟨⟨⟨s,Nat.le_refl _,rfl⟩,rfl⟩,fun x=>?_⟩
 obtain ⟨t,ht,hq⟩:=x
 refine br_of (fun h=>?_) fun h=>?_
 ·have h:0<t.length:=by simpa using h
  obtain ⟨y,m,rfl⟩:=List.exists_cons_of_length_pos h
  have hb:bAt (y :: m) 0=(y.toNat:Int):=rfl
  rw [hb]
  have hd:dropP (·==48) (y :: m)=if ((y.toNat:Int)==48)=true then dropP (·==48) m else y :: m:=by
   unfold dropP; rw [List.dropWhile_cons]
  refine ⟨⟨by omega,by simp⟩,br_of (fun h1=>⟨⟨by omega,by simp only [List.length_cons]; omega⟩,⟨m,by simp at ht; omega,?_⟩,rfl,by simp⟩) fun h1=>?_⟩
  ·rw [if_pos h1] at hd; rw [← hq,hd]
  ·rw [if_neg (by simp [h1])] at hd; exact hd.symm.trans hq
 ·have h:t=[]:=by
   have:¬ 0<t.length:=by simpa using h
   exact List.eq_nil_of_length_eq_zero (by omega)
  subst h
  exact hq)
theorem dropC_cons (k:Int) (x:UInt8) (s:List UInt8):dropC k (x :: s)=if isC k x=true then dropC k s else x :: s:=by
 unfold dropC; rw [List.dropWhile_cons]
theorem rowsF_nil (a b c:Int) (k:Nat):rowsF a b c k []=[]:=by
 unfold rowsF; split<;>rfl
theorem rowsF_up {a b c:Int} {k:Nat} {x:UInt8} {s:List UInt8} (hk:k<3) (h:isC ([a,b,c].getD k 0) x=false):rowsF a b c k (x :: s)=rowsF a b c (k+1) (x :: s):=by
 match k,hk,h with
 | 0,_,h=>unfold rowsF; simp only; rw [dropC_cons a,if_neg (by have h:isC a x=false:=h; simp [h])]
 | 1,_,h=>unfold rowsF; simp only; rw [dropC_cons b,if_neg (by have h:isC b x=false:=h; simp [h])]
 | 2,_,h=>unfold rowsF; simp only; rw [dropC_cons c,if_neg (by have h:isC c x=false:=h; simp [h])]
theorem rowsF_on {a b c:Int} {k:Nat} {x:UInt8} {s:List UInt8} (hk:k<3) (h:isC ([a,b,c].getD k 0) x=true):rowsF a b c k (x :: s)=rowsF a b c k s:=by
 match k,hk,h with
 | 0,_,h=>unfold rowsF; simp only; rw [dropC_cons a,if_pos (show isC a x=true from h)]
 | 1,_,h=>unfold rowsF; simp only; rw [dropC_cons b,if_pos (show isC b x=true from h)]
 | 2,_,h=>unfold rowsF; simp only; rw [dropC_cons c,if_pos (show isC c x=true from h)]
theorem ok_r3rows:FnP 43 sp_r3rows:=of_r3rows (by
 intro s a b c hs hb
 rw [vc_r3rows]
 refine ⟨⟨⟨(0,0),Nat.zero_le _,by decide,rfl⟩,by and_intros<;>rfl⟩,fun x=>?_⟩
 obtain ⟨⟨i,k0⟩,hi,hk0,hq⟩:=x
 dsimp only at hi hk0 hq ⊢
 refine br_of (fun h=>?_) fun h=>?_
 ·have h:i<s.length:=by simpa using h
  refine ⟨⟨⟨k0,h,by omega,hq⟩,by and_intros<;>rfl⟩,fun y=>?_⟩
  obtain ⟨k,_,hk,hr⟩:=y
  dsimp only at hr ⊢
  rw [drop_next s 0 h] at hr
  have e1:((i:Int)+1).toNat=i+1:=by omega
  have e2:List.drop i (List.take (i+1) s)=[s.getD i 0]:=by
   rw [List.drop_take,drop_next s 0 h,show i+1-i=1 by omega]; rfl
  have i1:inR .i64 ((i:Int)+1):=by simp only [inR]; omega
  rw [Int.toNat_natCast,Int.toNat_natCast,e1,e2]
  have hc:cntC ([a,b,c].getD k 0) [s.getD i 0]=if isC ([a,b,c].getD k 0) (s.getD i 0)=true then 1 else 0:=by
   unfold cntC; rw [List.countP_singleton]
  rw [hc]
  have k3:decide ((k:Int)<3)=true→k<3:=fun h1=>by
   have:(k:Int)<3:=by simpa using h1
   omega
  have ck3:decide ((k:Int)<3)=true→(k:Int)<((3:Nat):Int):=fun h1=>by
   have:=k3 h1
   omega
  refine br_of (fun h1=>⟨i1,⟨by omega,by omega,by omega⟩,⟨by omega,ck3 h1⟩,k3 h1,by simp,br_of (fun h2=>?_) fun h2=>br_of (fun h3=>?_) fun h3=>?_⟩) fun h1=>br_of (fun h3=>?_) fun h3=>?_
  all_goals first
   | have h1:k<3:=by (have:(k:Int)<3:=by simpa using h1); omega
   | have h1:¬ k<3:=by (have:¬ (k:Int)<3:=by simpa using h1); omega
  ·have h2:isC ([a,b,c].getD k 0) (s.getD i 0)=false:=by
    cases hx:isC ([a,b,c].getD k 0) (s.getD i 0) with
    | false=>rfl
    | true=>rw [hx] at h2; simp at h2
   rw [rowsF_up h1 h2] at hr
   exact ⟨by simp only [inR]; omega,⟨k+1,h,by omega,by rw [drop_next s 0 h]; exact hr⟩,by and_intros<;>rfl,by show 3-(k+1)<3-k; omega⟩
  ·exfalso; simp at h3; omega
  ·have h2:isC ([a,b,c].getD k 0) (s.getD i 0)=true:=by
    cases hx:isC ([a,b,c].getD k 0) (s.getD i 0) with
    | true=>rfl
    | false=>rw [hx] at h2; simp at h2
   rw [rowsF_on h1 h2] at hr
   exact ⟨i1,⟨(i+1,k),h,by show k≤2; omega,hr⟩,by and_intros<;>rfl,by show s.length-(i+1)<s.length-i; omega⟩
  ·have h3:k=3:=by omega
   subst h3
   have hr:s.getD i 0 :: s.drop (i+1)=rowsF a b c 0 s:=hr
   rw [← hr]; symm; exact decide_eq_false (by simp)
  ·exfalso
   have h3:¬ (k:Int)=3:=by simpa using h3
   omega
 ·have h:¬ i<s.length:=by simpa using h
  rw [List.drop_of_length_le (by omega),rowsF_nil] at hq
  rw [← hq]; exact (decide_eq_true rfl).symm)
end Go.Proofs.YtglfkihckkjniaaGreatDoor.Vx
namespace Go.Proofs.YtglfkihckkjniaaGreatDoor.Vx
open Go Go.RowKit
theorem u8_toNat {x k:UInt8}:(x.toNat:Int)=(k.toNat:Int)↔x=k:=by
 constructor
 ·intro h; exact UInt8.toNat_inj.1 (by omega)
 ·rintro rfl; rfl
theorem cutI_cut (k:UInt8) (s:List UInt8):cutI (k.toNat:Int) s=Lib.cut s [k]:=by
 rw [cut_C]
 induction s with
 | nil=>rfl
 | cons x l ih=>unfold cutI cutC; rw [ih]; simp only [u8_toNat]
theorem isC_ne {k:UInt8} (hk:k≠48) (x:UInt8):isC (k.toNat:Int) x=(x==k):=by
 unfold isC
 have h1:((k.toNat:Int)==48)=false:=by
  rw [beq_eq_false_iff_ne]; intro h; exact hk ((u8_toNat (k:=48)).1 h)
 rw [h1]
 simp only [Bool.false_and,Bool.or_false]
 rw [Bool.eq_iff_iff,beq_iff_eq,beq_iff_eq,u8_toNat]
theorem isC_dig (x:UInt8):isC 48 x=isDig (x.toNat:Int):=by
 unfold isC isDig
 rw [Bool.eq_iff_iff]
 simp
 omega
theorem cntC_count {k:UInt8} (hk:k≠48) (s:List UInt8):cntC (k.toNat:Int) s=s.count k:=by
 unfold cntC List.count
 congr 1
 funext x
 exact isC_ne hk x
theorem dropC_ne {k:UInt8} (hk:k≠48) (s:List UInt8):dropC (k.toNat:Int) s=dropP (·==(k.toNat:Int)) s:=by
 unfold dropC dropP
 congr 1
 funext x
 rw [isC_ne hk,Bool.eq_iff_iff,beq_iff_eq,beq_iff_eq,u8_toNat]
theorem dropC_dig (s:List UInt8):dropC 48 s=dropP isDig s:=by
 unfold dropC dropP
 congr 1
 funext x
 exact isC_dig x
theorem count_cutC (k:UInt8) (s:List UInt8):s.count k=if (cutC k s).2.2=true then 1+(cutC k s).2.1.count k else 0:=by
 induction s with
 | nil=>rfl
 | cons x l ih =>
  unfold cutC
  by_cases h:x=k
  ·subst h; rw [if_pos rfl,List.count_cons_self]; simp only [if_true]; omega
  ·rw [if_neg h,List.count_cons_of_ne h]; exact ih
theorem not_found_frac (k:UInt8) (s:List UInt8) (h:(cutC k s).2.2=false):(cutC k s).2.1=[]:=by
 induction s with
 | nil=>rfl
 | cons x l ih =>
  unfold cutC at h ⊢
  split
  ·rename_i hx; rw [if_pos hx] at h; cases h
  ·rename_i hx; rw [if_neg hx] at h; exact ih h
theorem num_stop2 {s:List UInt8} (h:(rs2 s).c≠0):rs5 s=rs2 s:=by
 have h3:rs3 s=rs2 s:=by unfold rs3; rw [if_neg h]
 have h4:rs4 s=rs2 s:=by unfold rs4; rw [h3,if_neg h]
 unfold rs5; rw [h4,if_neg h]
theorem num_stop3 {s:List UInt8} (h:(rs3 s).c≠0):rs5 s=rs3 s:=by
 have h4:rs4 s=rs3 s:=by unfold rs4; rw [if_neg h]
 unfold rs5; rw [h4,if_neg h]
theorem num_stop4 {s:List UInt8} (h:(rs4 s).c≠0):rs5 s=rs4 s:=by unfold rs5; rw [if_neg h]
theorem num_fail1 {s:List UInt8} {e:Int} (h:(rs1 s).c=e) (he:e≠0):numT s=(z0,e):=by
 have h2:rs2 s=rs1 s:=by unfold rs2; rw [if_neg (by rw [h]; exact he)]
 have h5:=num_stop2 (s:=s) (by rw [h2,h]; exact he)
 unfold numT; rw [h5,h2,h,if_neg he]
theorem num_fail2 {s:List UInt8} {e:Int} (h:(rs2 s).c=e) (he:e≠0):numT s=(z0,e):=by
 have h5:=num_stop2 (s:=s) (by rw [h]; exact he)
 unfold numT; rw [h5,h,if_neg he]
theorem num_fail3 {s:List UInt8} {e:Int} (h:(rs3 s).c=e) (he:e≠0):numT s=(z0,e):=by
 have h5:=num_stop3 (s:=s) (by rw [h]; exact he)
 unfold numT; rw [h5,h,if_neg he]
theorem num_fail4 {s:List UInt8} {e:Int} (h:(rs4 s).c=e) (he:e≠0):numT s=(z0,e):=by
 have h5:=num_stop4 (s:=s) (by rw [h]; exact he)
 unfold numT; rw [h5,h,if_neg he]
theorem num_fail5 {s:List UInt8} {e:Int} (h:(rs5 s).c=e) (he:e≠0):numT s=(z0,e):=by
 unfold numT; rw [h,if_neg he]
theorem span1_nil {P:Int→Bool} {s:List UInt8} (h:dropP P s=[]):span1 P s=s.length:=by unfold span1; rw [h]; simp
theorem trim_plus (e:List UInt8):Lib.trimPrefix e [43]=if Lib.hasPrefix e [43]=true then e.drop 1 else e:=rfl
theorem has_plus (e:List UInt8):Lib.hasPrefix e [43]=decide (0<e.length∧((e.getD 0 0).toNat:Int)=43):=by
 unfold Lib.hasPrefix
 cases e with
 | nil=>rfl
 | cons x l =>
  rw [Bool.eq_iff_iff]
  simp [List.isPrefixOf]
  have:=u8_toNat (x:=x) (k:=43)
  constructor
  ·rintro rfl; rfl
  ·intro h; exact (this.1 (by simpa using h)).symm
theorem exp_bad {e:List UInt8} {p:Num} (h:Lib.trimPrefix e [43]=[]∨dropP (·==48) (Lib.trimPrefix e [43])≠[]):expT e true p=(4,p):=by
 unfold expT
 rw [if_pos rfl,if_pos]
 rcases h with h | h
 ·right; rw [h]; rfl
 ·left; exact h
theorem exp_long {e:List UInt8} {p:Num} (h1:Lib.trimPrefix e [43]≠[]) (h2:dropP (·==48) (Lib.trimPrefix e [43])=[]) (h3:9<(Lib.trimPrefix e [43]).length):expT e true p=(8,p):=by
 unfold expT
 have:=span1_nil h2
 have:0<(Lib.trimPrefix e [43]).length:=List.length_pos_iff.2 h1
 rw [if_pos rfl,if_neg (by rintro (h | h); exact h h2; omega),if_pos (by omega)]
theorem exp_ok {e:List UInt8} {p:Num} (h1:Lib.trimPrefix e [43]≠[]) (h2:dropP (·==48) (Lib.trimPrefix e [43])=[]) (h3:¬ 9<(Lib.trimPrefix e [43]).length):expT e true p=(0,{ p with ps:=true,px:=Lib.hasPrefix e [43],me:=(Lib.trimPrefix e [43]).length }):=by
 unfold expT
 have h4:=span1_nil h2
 have:0<(Lib.trimPrefix e [43]).length:=List.length_pos_iff.2 h1
 rw [if_pos rfl,if_neg (by rintro (h | h); exact h h2; omega),if_neg (by omega),h4]
theorem parts_odd {s:List UInt8} (h1:(rs1 s).c=0) (h:anyP isOdd (numB s)=true):numT s=(z0,4):=by
 refine num_fail2 ?_ (by decide)
 unfold rs2; rw [if_pos h1]
 show (partsT _ _ _ _).1=4
 unfold partsT; rw [if_pos (.inl h)]
theorem cnt46 (s:List UInt8):(1<Lib.countByte s 46)↔0<cntC 46 (Lib.cut s [46]).2.1:=by
 have h:=count_cutC 46 s
 have h2:=cntC_count (k:=46) (by decide) (Lib.cut s [46]).2.1
 have e:((46:UInt8).toNat:Int)=46:=rfl
 rw [e] at h2
 rw [h2,cut_C]
 unfold Lib.countByte
 rw [h]
 split
 ·omega
 ·rename_i hf
  rw [not_found_frac 46 s (by simpa using hf)]
  simp
theorem parts_bad {s:List UInt8} (h1:(rs1 s).c=0) (h:0<cntC 46 (Lib.cut (numB s) [46]).2.1∨((Lib.cut (numB s) [46]).2.2=true∧(Lib.cut (numB s) [46]).2.1=[])):numT s=(z0,4):=by
 refine num_fail2 ?_ (by decide)
 unfold rs2; rw [if_pos h1]
 show (partsT _ _ _ _).1=4
 unfold partsT
 rcases h with h | h
 ·rw [if_pos (.inr ((cnt46 _).2 h))]
 ·split
  ·rfl
  ·first | rfl | rw [if_pos h]
theorem parts_ok {s:List UInt8} (h1:(rs1 s).c=0) (h2:anyP isOdd (numB s)=false) (h3:¬ 0<cntC 46 (Lib.cut (numB s) [46]).2.1) (h4:¬ ((Lib.cut (numB s) [46]).2.2=true∧(Lib.cut (numB s) [46]).2.1=[])) :
  rs2 s=⟨0,(Lib.cut (numB s) [46]).1,(Lib.cut (numB s) [46]).2.1,(Lib.cut (numB s) [46]).2.2,(rs1 s).p⟩:=by
 unfold rs2; rw [if_pos h1]
 have:partsT (numB s) [] [] false=(0,Lib.cut (numB s) [46]):=by
  unfold partsT
  rw [if_neg (by rintro (h | h); rw [h2] at h; cases h; exact h3 ((cnt46 _).1 h)),if_neg h4]
 rw [this]
def szZ (w:List UInt8):List Int:=(splitC 44 w).map fun t=>(t.length:Int)
def sizesN (n:Int):List UInt8→List Int
 | []=>[n]
 | x :: t=>if x=44 then n :: sizesN 0 t else sizesN (n+1) t
theorem sizesN_split (w:List UInt8):∀ n:Int,sizesN n w=(((splitC 44 w).headD []).length+n:Int) :: (splitC 44 w).tail.map fun t=>(t.length:Int):=by
 induction w with
 | nil=>intro n; simp [sizesN,splitC]
 | cons x t ih =>
  intro n
  unfold sizesN splitC
  split
  ·have hne:=splitC_ne 44 t
   rw [ih 0]
   cases hs:splitC 44 t with
   | nil=>exact absurd hs hne
   | cons a l=>simp
  ·rw [ih (n+1)]; simp; omega
theorem szZ_eq (w:List UInt8):sizesN 0 w=szZ w:=by
 rw [sizesN_split]
 unfold szZ
 have hne:=splitC_ne 44 w
 cases hs:splitC 44 w with
 | nil=>exact absurd hs hne
 | cons a l=>simp
theorem flat_filter (w:List UInt8):(splitC 44 w).flatten=w.filter fun x=>decide (x≠44):=by
 induction w with
 | nil=>rfl
 | cons x t ih =>
  unfold splitC
  by_cases h:x=44
  ·subst h; rw [if_pos rfl]; simpa using ih
  ·rw [if_neg h]
   have hne:=splitC_ne 44 t
   rw [List.filter_cons_of_pos (by simpa using h),← ih]
   cases hs:splitC 44 t with
   | nil=>exact absurd hs hne
   | cons a l=>simp
theorem szZ_len (w:List UInt8):(szZ w).length=(splitC 44 w).length:=by unfold szZ; simp
theorem szZ_get (w:List UInt8) {i:Nat} (h:i<(splitC 44 w).length):(szZ w).getD i 0=((splitC 44 w).getD i []).length:=by
 unfold szZ
 rw [List.getD_eq_getElem?_getD,List.getD_eq_getElem?_getD,List.getElem?_map,List.getElem?_eq_getElem h]; rfl
theorem empty_of {w:List UInt8} {i:Nat} (h1:1<(szZ w).length) (hi:i<(szZ w).length) (h:(szZ w).getD i 0=0):emptyIn (splitC 44 w)=true:=by
 rw [szZ_len] at h1 hi
 rw [szZ_get w hi] at h
 unfold emptyIn
 rw [Bool.and_eq_true,decide_eq_true_iff,List.any_eq_true]
 refine ⟨h1,(splitC 44 w).getD i [],getD_mem' hi,?_⟩
 rw [decide_eq_true_iff]
 exact List.eq_nil_of_length_eq_zero (by omega)
theorem not_empty {w:List UInt8} (h:1<(szZ w).length→∀ i,i<(szZ w).length→(szZ w).getD i 0≠0):emptyIn (splitC 44 w)=false:=by
 cases he:emptyIn (splitC 44 w) with
 | false=>rfl
 | true =>
  unfold emptyIn at he
  rw [Bool.and_eq_true,decide_eq_true_iff,List.any_eq_true] at he
  obtain ⟨h1,t,ht,h2⟩:=he
  rw [decide_eq_true_iff] at h2
  subst h2
  obtain ⟨i,hi,hget⟩:=List.mem_iff_getElem.1 ht
  exfalso
  refine h (by rw [szZ_len]; exact h1) i (by rw [szZ_len]; exact hi) ?_
  rw [szZ_get w hi,List.getD_eq_getElem?_getD,List.getElem?_eq_getElem hi,hget]; rfl
theorem cnt44 (f:List UInt8):0<cntC 44 f↔0≤Lib.indexByte f 44:=by
 have h2:=cntC_count (k:=44) (by decide) f
 have e:((44:UInt8).toNat:Int)=44:=rfl
 rw [e] at h2
 rw [h2,indexByte_has,List.count_pos_iff]
theorem groups_bad {s:List UInt8} (h2:(rs2 s).c=0) (h:emptyIn (splitC 44 (rs2 s).w)=true∨0<cntC 44 (rs2 s).f):numT s=(z0,5):=by
 refine num_fail3 ?_ (by decide)
 unfold rs3; rw [if_pos h2]
 show (groupsT _ _ _).1=5
 unfold groupsT
 rcases h with h | h
 ·rw [if_pos h]
 ·split
  ·rfl
  ·rw [if_pos ((cnt44 _).1 h)]
def grpP (w:List UInt8) (p:Num):Num:=if 1<(szZ w).length then { p with pr:=(szZ w).getD ((szZ w).length-1) 0,sc:=if 2<(szZ w).length then (szZ w).getD ((szZ w).length-2) 0 else (szZ w).getD ((szZ w).length-1) 0 } else p
theorem groups_ok {s:List UInt8} (h2:(rs2 s).c=0) (h3:emptyIn (splitC 44 (rs2 s).w)=false) (h4:¬ 0<cntC 44 (rs2 s).f):rs3 s=⟨0,(splitC 44 (rs2 s).w).flatten,(rs2 s).f,(rs2 s).pt,grpP (rs2 s).w (rs2 s).p⟩:=by
 unfold rs3; rw [if_pos h2]
 have:groupsT (rs2 s).w (rs2 s).f (rs2 s).p=(0,(splitC 44 (rs2 s).w).flatten,grpP (rs2 s).w (rs2 s).p):=by
  unfold groupsT
  rw [if_neg (by rw [h3]; decide),if_neg (fun h=>h4 ((cnt44 _).2 h))]
  unfold grpP
  rw [szZ_len]
  split
  ·rw [szZ_get _ (by omega),szZ_get _ (by omega)]
  ·rfl
 rw [this]
theorem dropC35 (s:List UInt8):dropC 35 s=dropP (·==35) s:=dropC_ne (k:=35) (by decide) s
theorem dropC64 (s:List UInt8):dropC 64 s=dropP (·==64) s:=dropC_ne (k:=64) (by decide) s
theorem cnt64 (s:List UInt8):0<cntC 64 s↔0≤Lib.indexByte s 64:=by
 have h2:=cntC_count (k:=64) (by decide) s
 have e:((64:UInt8).toNat:Int)=64:=rfl
 rw [e] at h2
 rw [h2,indexByte_has,List.count_pos_iff]
theorem cnt48 (s:List UInt8):0<cntC 48 s↔anyP isDig s=true:=by
 unfold cntC anyP
 rw [List.countP_pos_iff,List.any_eq_true]
 simp only [isC_dig]
theorem span1_take (P:Int→Bool) (s:List UInt8):span1 P s=((s.takeWhile fun c=>P (c.toNat:Int)).length:Int):=by
 unfold span1 dropP
 have:=congrArg List.length (List.takeWhile_append_dropWhile (p:=fun c:UInt8=>P (c.toNat:Int)) (l:=s))
 rw [List.length_append] at this
 omega
theorem dropP_eq (P:Int→Bool) (s:List UInt8):dropP P s=s.drop (s.takeWhile fun c=>P (c.toNat:Int)).length:=by
 have:=List.takeWhile_append_dropWhile (p:=fun c:UInt8=>P (c.toNat:Int)) (l:=s)
 unfold dropP
 have h2:=congrArg (List.drop (s.takeWhile fun c:UInt8=>P (c.toNat:Int)).length) this
 rw [List.drop_left] at h2
 exact h2
theorem takeP_eq (P:Int→Bool) (s:List UInt8):(s.takeWhile fun c=>P (c.toNat:Int))=s.take (s.takeWhile fun c=>P (c.toNat:Int)).length:=by
 have:=List.takeWhile_append_dropWhile (p:=fun c:UInt8=>P (c.toNat:Int)) (l:=s)
 have h2:=congrArg (List.take (s.takeWhile fun c:UInt8=>P (c.toNat:Int)).length) this
 rw [List.take_left] at h2
 exact h2
theorem all_of_nil {P:Int→Bool} {s:List UInt8} (h:dropP P s=[]):∀ x∈s,P (x.toNat:Int)=true:=by
 have h1:=List.takeWhile_append_dropWhile (p:=fun c:UInt8=>P (c.toNat:Int)) (l:=s)
 unfold dropP at h
 rw [h,List.append_nil] at h1
 intro x hx
 rw [← h1] at hx
 exact List.all_eq_true.1 (List.all_takeWhile (p:=fun c:UInt8=>P (c.toNat:Int)) (l:=s)) x hx
theorem all_take (P:Int→Bool) (s:List UInt8):∀ x∈(s.takeWhile fun c=>P (c.toNat:Int)),P (x.toNat:Int)=true:=fun x hx=>List.all_eq_true.1 (List.all_takeWhile (p:=fun c:UInt8=>P (c.toNat:Int)) (l:=s)) x hx
theorem dropP_none (s:List UInt8):dropP (fun _=>false) s=s:=by cases s<;>rfl
theorem countP_split (P Q:Int→Bool) (s:List UInt8):s.countP (fun c=>Q (c.toNat:Int))=(s.takeWhile fun c=>P (c.toNat:Int)).countP (fun c=>Q (c.toNat:Int))+(dropP P s).countP (fun c=>Q (c.toNat:Int)):=by
 conv=>lhs; rw [← List.takeWhile_append_dropWhile (p:=fun c:UInt8=>P (c.toNat:Int)) (l:=s)]
 rw [List.countP_append]; rfl
theorem countP_own {P:Int→Bool} (s:List UInt8):(s.takeWhile fun c=>P (c.toNat:Int)).countP (fun c=>P (c.toNat:Int))=(s.takeWhile fun c=>P (c.toNat:Int)).length:=by
 rw [List.countP_eq_length]
 intro a ha
 exact List.all_eq_true.1 (List.all_takeWhile (p:=fun c:UInt8=>P (c.toNat:Int)) (l:=s)) a ha
theorem countP_other {P Q:Int→Bool} (hPQ:∀ x,P x=true→Q x=false) (s:List UInt8):(s.takeWhile fun c=>P (c.toNat:Int)).countP (fun c=>Q (c.toNat:Int))=0:=by
 rw [List.countP_eq_zero]
 intro a ha
 have:=List.all_eq_true.1 (List.all_takeWhile (p:=fun c:UInt8=>P (c.toNat:Int)) (l:=s)) a ha
 rw [hPQ _ this]; decide
theorem cnt_mid {P Q R:Int→Bool} (hP:∀ x,P x=true→Q x=false) (hR:∀ x,R x=true→Q x=false) {s:List UInt8} (h:dropP R (dropP Q (dropP P s))=[]):(s.countP (fun c=>Q (c.toNat:Int)):Int)=span1 Q (dropP P s):=by
 rw [countP_split P Q s,countP_other hP,countP_split Q Q (dropP P s),countP_own,countP_split R Q (dropP Q (dropP P s)),countP_other hR,h,span1_take]
 simp
theorem cnt64_mid {w:List UInt8} (h:rowsF 35 64 35 0 w=[]):(cntC 64 w:Int)=span1 (·==64) (dropP (·==35) w):=by
 have h:dropC 35 (dropC 64 (dropC 35 w))=[]:=h
 rw [dropC35,dropC64,dropC35] at h
 rw [← cnt_mid (Q:=(·==64)) (by intro x hx; simp at hx ⊢; omega) (by intro x hx; simp at hx ⊢; omega) h]
 unfold cntC
 have:(fun c:UInt8=>((c.toNat:Int)==64))=isC 64:=by
  funext x
  rw [show isC 64 x=(x==64) from isC_ne (k:=64) (by decide) x,Bool.eq_iff_iff,beq_iff_eq,beq_iff_eq,← u8_toNat (k:=64)]; rfl
 rw [this]
theorem dropP_idem (P:Int→Bool) (s:List UInt8):dropP P (dropP P s)=dropP P s:=by
 unfold dropP
 induction s with
 | nil=>rfl
 | cons x l ih =>
  rw [List.dropWhile_cons]
  split
  ·exact ih
  ·rename_i h; rw [List.dropWhile_cons,if_neg h]
theorem rows_w (w:List UInt8):rowsF 35 48 48 0 w=dropP isDig (dropP (·==35) w):=by
 show dropC 48 (dropC 48 (dropC 35 w))=_
 rw [dropC35,dropC_dig,dropC_dig,dropP_idem]
theorem rows_f (f:List UInt8):rowsF 48 35 35 0 f=dropP (·==35) (dropP isDig f):=by
 show dropC 35 (dropC 35 (dropC 48 f))=_
 rw [dropC_dig,dropC35,dropC35,dropP_idem]
theorem rows_at (w:List UInt8):rowsF 35 64 35 0 w=dropP (·==35) (dropP (·==64) (dropP (·==35) w)):=by
 show dropC 35 (dropC 64 (dropC 35 w))=_
 rw [dropC35,dropC64,dropC35]
theorem cntC48 (s:List UInt8):cntC 48 s=s.countP fun c=>isDig (c.toNat:Int):=by
 unfold cntC; congr 1; funext x; exact isC_dig x
theorem dig35:∀ x,(x==35)=true→isDig x=false:=by
 intro x hx; have hx:x=35:=by simpa using hx
 subst hx; rfl
theorem cnt48_w {w:List UInt8} (h:dropP isDig (dropP (·==35) w)=[]):(cntC 48 w:Int)=span1 isDig (dropP (·==35) w):=by
 rw [cntC48]
 exact cnt_mid (Q:=isDig) (P:=(·==35)) (R:=fun _=>false) dig35 (fun x hx=>absurd hx (by decide)) (by rw [dropP_none]; exact h)
theorem cnt48_f {f:List UInt8} (h:dropP (·==35) (dropP isDig f)=[]):(cntC 48 f:Int)=span1 isDig f:=by
 rw [cntC48]
 rw [countP_split isDig isDig f,countP_own,countP_split (·==35) isDig (dropP isDig f),countP_other dig35,h,span1_take]
 simp
theorem n35 (x:UInt8):decide ((x.toNat:Int)≠35) = !((x.toNat:Int)==35):=by
 by_cases h:(x.toNat:Int)=35<;>simp [h]
theorem filter_w {w:List UInt8} (h:dropP isDig (dropP (·==35) w)=[]):(w.filter fun x=>decide ((x.toNat:Int)≠35))=w.drop (span1 (·==35) w).toNat:=by
 have h1:=all_of_nil h
 have h2:=all_take (·==35) w
 rw [span1_take,Int.toNat_natCast]
 refine Eq.trans ?_ (dropP_eq (·==35) w)
 conv=>lhs; rw [← List.takeWhile_append_dropWhile (p:=fun c:UInt8=>((c.toNat:Int)==35)) (l:=w)]
 rw [List.filter_append,List.filter_eq_nil_iff.2 (fun x hx=>by rw [n35,h2 x hx]; decide),List.nil_append]
 exact List.filter_eq_self.2 fun x hx=>by
  rw [n35]
  cases hb:((x.toNat:Int)==35) with
  | false=>rfl
  | true=>have:=dig35 _ hb; rw [h1 x hx] at this; cases this
theorem filter_f {f:List UInt8} (h:dropP (·==35) (dropP isDig f)=[]):(f.filter fun x=>decide ((x.toNat:Int)≠35))=f.take (span1 isDig f).toNat:=by
 have h1:=all_of_nil h
 have h2:=all_take isDig f
 rw [span1_take,Int.toNat_natCast,← takeP_eq]
 conv=>lhs; rw [← List.takeWhile_append_dropWhile (p:=fun c:UInt8=>isDig (c.toNat:Int)) (l:=f)]
 rw [List.filter_append]
 have e1:((f.takeWhile fun c:UInt8=>isDig (c.toNat:Int)).filter fun x=>decide ((x.toNat:Int)≠35))=f.takeWhile fun c:UInt8=>isDig (c.toNat:Int):=List.filter_eq_self.2 fun x hx=>by
  rw [n35]
  cases hb:((x.toNat:Int)==35) with
  | false=>rfl
  | true=>have:=dig35 _ hb; rw [h2 x hx] at this; cases this
 have e2:((f.dropWhile fun c:UInt8=>isDig (c.toNat:Int)).filter fun x=>decide ((x.toNat:Int)≠35))=[]:=List.filter_eq_nil_iff.2 fun x hx=>by rw [n35,h1 x hx]; decide
 rw [e1,e2,List.append_nil]
theorem trimL (s:List UInt8):Lib.trimLeftB s 48=dropP (·==48) s:=by
 unfold Lib.trimLeftB dropP
 congr 1
 funext x
 rw [Bool.eq_iff_iff,beq_iff_eq,beq_iff_eq,← u8_toNat (k:=48)]; rfl
theorem counts_fail {s:List UInt8} {e:Int} (h3:(rs3 s).c=0) (h:(countsT (rs3 s).w (rs3 s).f (rs3 s).pt (numS s) (rs3 s).p).1=e) (he:e≠0):numT s=(z0,e):=by
 refine num_fail4 ?_ he
 unfold rs4; rw [if_pos h3]; exact h
theorem counts_done {s:List UInt8} {p:Num} (h3:(rs3 s).c=0) (h:countsT (rs3 s).w (rs3 s).f (rs3 s).pt (numS s) (rs3 s).p=(0,p)):rs4 s=⟨0,(rs3 s).w,(rs3 s).f,(rs3 s).pt,p⟩:=by
 unfold rs4; rw [if_pos h3,h]
theorem counts_none {w f:List UInt8} {pt sci:Bool} {p:Num} (h:w++f=[]):(countsT w f pt sci p).1=4:=by unfold countsT; rw [if_pos h]
theorem counts_sig {w f:List UInt8} {pt sci:Bool} {p:Num} (h:¬ w++f=[]) (h1:0<cntC 64 (w++f)):countsT w f pt sci p=signifT w pt p:=by unfold countsT; rw [if_neg h,if_pos ((cnt64 _).1 h1)]
theorem sig_mix {w:List UInt8} {pt:Bool} {p:Num} (h:pt=true∨0<cntC 48 w):(signifT w pt p).1=6:=by
 unfold signifT; rw [if_pos (h.imp id (cnt48 w).1)]
theorem sig_rows {w:List UInt8} {pt:Bool} {p:Num} (h:¬ (pt=true∨0<cntC 48 w)) (h1:rowsF 35 64 35 0 w≠[]):(signifT w pt p).1=4:=by
 unfold signifT; rw [if_neg (fun h'=>h (h'.imp id (cnt48 w).2)),if_pos (.inl (by rw [← rows_at]; exact h1))]
theorem sig_ok {w:List UInt8} {pt:Bool} {p:Num} (h:¬ (pt=true∨0<cntC 48 w)) (h1:rowsF 35 64 35 0 w=[]) (h2:0<cntC 64 w):signifT w pt p=(0,{ p with ms:=(cntC 64 w:Int),xs:=((dropP (·==35) w).length:Int) }):=by
 have e:=cnt64_mid h1
 rw [rows_at] at h1
 unfold signifT; rw [if_neg (fun h'=>h (h'.imp id (cnt48 w).2)),if_neg (by rintro (h' | h'); exact h' h1; omega),← e]
 have:(cntC 64 w:Int)+span1 (·==35) (dropP (·==64) (dropP (·==35) w))=((dropP (·==35) w).length:Int):=by
  rw [e]; unfold span1; rw [h1]; simp
 rw [this]
theorem counts_dig {w f:List UInt8} {pt sci:Bool} {p:Num} (h:¬ w++f=[]) (h1:¬ 0<cntC 64 (w++f)) (h2:rowsF 35 48 48 0 w≠[]∨rowsF 48 35 35 0 f≠[]):(countsT w f pt sci p).1=4:=by
 unfold countsT; rw [if_neg h,if_neg (fun h'=>h1 ((cnt64 _).2 h')),if_pos (by rw [rows_w,rows_f] at h2; exact h2)]
def digP (w f:List UInt8) (sci:Bool) (p:Num):Num:={ p with mi:=cntC 48 w,mf:=cntC 48 f,xf:=f.length,xi:=if sci=true then (w.length:Int) else p.xi,inc:=dropP (·==48) ((w++f).filter fun x=>decide ((x.toNat:Int)≠35)) }
theorem digP_eq {w f:List UInt8} {sci:Bool} {p:Num} (h1:rowsF 35 48 48 0 w=[]) (h2:rowsF 48 35 35 0 f=[]):countsP w f sci p=digP w f sci p:=by
 rw [rows_w] at h1
 rw [rows_f] at h2
 unfold countsP digP
 rw [cnt48_w h1,cnt48_f h2,List.filter_append,filter_w h1,filter_f h2,trimL]
theorem few_f {f:List UInt8} (h2:rowsF 48 35 35 0 f=[]):(0<span1 (·==35) (dropP isDig f))↔(cntC 48 f:Int)<f.length:=by
 rw [rows_f] at h2
 rw [cnt48_f h2]
 unfold span1; rw [h2]; simp
 have:=dropP_len isDig f
 omega
theorem counts_mix {w f:List UInt8} {pt sci:Bool} {p:Num} (h:¬ w++f=[]) (h1:¬ 0<cntC 64 (w++f)) (h2:rowsF 35 48 48 0 w=[]) (h3:rowsF 48 35 35 0 f=[]) (h4:(digP w f sci p).inc≠[]∧((cntC 48 f:Int)<f.length∨sci=true)):(countsT w f pt sci p).1=6:=by
 have e:=digP_eq (sci:=sci) (p:=p) h2 h3
 have g:=few_f h3
 unfold countsT; rw [if_neg h,if_neg (fun h'=>h1 ((cnt64 _).2 h')),if_neg (by rw [rows_w] at h2; rw [rows_f] at h3; rintro (h' | h'); exact h' h2; exact h' h3),e,if_pos (by rw [g]; exact h4)]
theorem counts_fine {w f:List UInt8} {pt sci:Bool} {p:Num} (h:¬ w++f=[]) (h1:¬ 0<cntC 64 (w++f)) (h2:rowsF 35 48 48 0 w=[]) (h3:rowsF 48 35 35 0 f=[]) (h4:¬ ((digP w f sci p).inc≠[]∧((cntC 48 f:Int)<f.length∨sci=true))):countsT w f pt sci p=(0,digP w f sci p):=by
 have e:=digP_eq (sci:=sci) (p:=p) h2 h3
 have g:=few_f h3
 unfold countsT; rw [if_neg h,if_neg (fun h'=>h1 ((cnt64 _).2 h')),if_neg (by rw [rows_w] at h2; rw [rows_f] at h3; rintro (h' | h'); exact h' h2; exact h' h3),e,if_neg (by rw [g]; exact h4)]
end Go.Proofs.YtglfkihckkjniaaGreatDoor.Vx
namespace Go.Proofs.YtglfkihckkjniaaGreatDoor.Vx
open Go Go.RowKit
def joinC (c:UInt8):List (List UInt8)→List UInt8
 | []=>[]
 | [x]=>x
 | x :: y :: l=>x++c :: joinC c (y :: l)
theorem eq_rep {c:UInt8} {u:List UInt8} (h:∀ x∈u,((x.toNat:Int)==(c.toNat:Int))=true):u=List.replicate u.length c:=by
 rw [List.eq_replicate_iff]
 exact ⟨rfl,fun x hx=>u8_toNat.1 (eq_of_beq (h x hx))⟩
structure ND where
 g:List (List UInt8)
 a:Nat
 sig:Bool
 b:Nat
 c:Nat
 D:List UInt8
 E:List UInt8
 e:Nat
 ps:Bool
 px:Bool
 me:Nat
def ND.core (d:ND):List UInt8:=if d.sig=true then List.replicate d.b 64++List.replicate d.c 35 else d.D
def ND.frac (d:ND):List UInt8:=if d.sig=true then [] else d.E++List.replicate d.e 35
def ND.ptT (d:ND):List UInt8:=if d.frac=[] then [] else 46 :: d.frac
def ND.expT (d:ND):List UInt8:=if d.ps=true then 69 :: ((if d.px=true then [43] else [])++List.replicate d.me 48) else []
def ND.body (d:ND):List UInt8:=joinC 44 d.g++d.ptT
def ND.inc (d:ND):List UInt8:=dropP (·==48) (d.D++d.E)
def lastL (g:List (List UInt8)) (k:Nat):Int:=((g.getD (g.length-k) []).length:Int)
def ND.pr (d:ND):Int:=if 1<d.g.length then lastL d.g 1 else 0
def ND.sc (d:ND):Int:=if 1<d.g.length then (if 2<d.g.length then lastL d.g 2 else lastL d.g 1) else 0
def ND.base (d:ND):Num:={ z0 with ps:=d.ps,px:=d.px,me:=d.me,pr:=d.pr,sc:=d.sc }
theorem exp_split {X:List UInt8} (h1:dropP (·==48) (Lib.trimPrefix X [43])=[]):X=(if Lib.hasPrefix X [43]=true then [43] else [])++List.replicate (Lib.trimPrefix X [43]).length 48:=by
 have hr:=eq_rep (c:=48) (all_of_nil h1)
 rw [← hr,trim_plus]
 cases hp:Lib.hasPrefix X [43] with
 | false=>rfl
 | true =>
  rw [has_plus] at hp
  obtain ⟨e1,e2⟩:=of_decide_eq_true hp
  cases X with
  | nil=>simp at e1
  | cons x X =>
   have:x=43:=u8_toNat.1 (by simpa using e2)
   rw [this]; rfl
end Go.Proofs.YtglfkihckkjniaaGreatDoor.Vx
namespace Go.Proofs.YtglfkihckkjniaaGreatDoor.Vx
open Go Go.RowKit
def needs (r:Int):Bool:=signK r != 0 || isMark r || r==69 || r==39
def signC (k:Int):Int:=if k=2 then 45 else if k=3 then 43 else if k=4 then 37 else if k=5 then 8240 else 164
def ItmOK (x:Itm):Prop:=(x.k=1∧scalar x.r=true)∨(2≤x.k∧x.k≤6∧x.r=0)
def ItmsOK (l:List Itm):Prop:=∀ x∈l,ItmOK x
def tokI (x:Itm):Int×Bool:=if x.k=1 then (x.r,needs x.r) else (signC x.k,false)
def itemsC (l:List Itm):List Int:=prT (l.map tokI) []
def Aside (t:Int×Bool):Prop:=t.2=true∨(isMark t.1=false∧t.1≠69)
theorem signC_all {k:Int} (h1:2≤k) (h2:k≤6):signK (signC k)=k∧scalar (signC k)=true∧isMark (signC k)=false∧signC k≠39∧signC k≠69:=by
 have:k=2∨k=3∨k=4∨k=5∨k=6:=by omega
 rcases this with e | e | e | e | e<;>(subst e; decide)
theorem tokI_ok {x:Itm} (h:ItmOK x):(scalar (tokI x).1=true∧((tokI x).2=false→(tokI x).1≠39))∧Aside (tokI x)∧∀ p,Itm.of ⟨(tokI x).1,(tokI x).2,p⟩=x:=by
 obtain ⟨k,r⟩:=x
 rcases h with ⟨h1,h2⟩ | ⟨h1,h2,h3⟩
 ·have h1:k=1:=h1
  subst h1
  have e:tokI ⟨1,r⟩=(r,needs r):=rfl
  rw [e]
  cases hn:needs r with
  | true=>exact ⟨⟨h2,fun h=>by cases h⟩,.inl rfl,fun p=>Itm.lit (.inl rfl)⟩
  | false =>
   have hn2:=hn
   unfold needs at hn2
   simp only [Bool.or_eq_false_iff,bne_eq_false_iff_eq,beq_eq_false_iff_ne,ne_eq] at hn2
   obtain ⟨⟨⟨a,b⟩,c⟩,d⟩:=hn2
   exact ⟨⟨h2,fun _=>d⟩,.inr ⟨b,c⟩,fun p=>Itm.lit (.inr a)⟩
 ·have h1:2≤k:=h1
  have h2:k≤6:=h2
  have h3:r=0:=h3
  subst h3
  have hk:¬ k=1:=by omega
  have e:tokI ⟨k,0⟩=(signC k,false):=by unfold tokI; rw [if_neg hk]
  obtain ⟨s1,s2,s3,s4,s5⟩:=signC_all h1 h2
  rw [e]
  refine ⟨⟨s2,fun _=>s4⟩,.inr ⟨s3,s5⟩,fun p=>?_⟩
  unfold Itm.of
  dsimp only
  rw [if_pos ⟨rfl,by rw [s1]; omega⟩,s1]
theorem items_tok {l:List Itm} (h:ItmsOK l):TokOK (l.map tokI):=by
 intro t ht
 obtain ⟨x,hx,e⟩:=List.mem_map.1 ht
 rw [← e]; exact (tokI_ok (h x hx)).1
theorem items_aside {l:List Itm} (h:ItmsOK l):∀ t∈l.map tokI,Aside t:=by
 intro t ht
 obtain ⟨x,hx,e⟩:=List.mem_map.1 ht
 rw [← e]; exact (tokI_ok (h x hx)).2.1
theorem items_sc {l:List Itm} (h:ItmsOK l):ScQ (itemsC l) (l.map tokI):=prT_sc _ _ (items_tok h) scalars_nil
def Tok.rq (t:Tok):Int×Bool:=(t.r,t.q)
theorem aside_bad {t:Tok} (h:Aside t.rq):t.bad=false:=by
 unfold Tok.bad
 rcases h with h | h
 ·have h:t.q=true:=h
  rw [h]; rfl
 ·have h:isMark t.r=false:=h.1
  rw [h]; simp
theorem items_back:∀ {T:List Tok} {l:List Itm},T.map Tok.rq=l.map tokI→ItmsOK l→itemsL T=(l,none):=by
 intro T
 induction T with
 | nil=>intro l h _; cases l with
  | nil=>rfl
  | cons x l=>cases h
 | cons t T ih =>
  intro l h hl
  cases l with
  | nil=>cases h
  | cons x l =>
   rw [List.map_cons,List.map_cons] at h
   injection h with h1 h2
   have hx:=tokI_ok (hl x List.mem_cons_self)
   have e:Itm.of t=x:=by
    have:=hx.2.2 t.p
    rw [← h1] at this; exact this
   rw [itemsL_ok (aside_bad (by rw [h1]; exact hx.2.1)),ih h2 fun y hy=>hl y (List.mem_cons_of_mem _ hy),e]
theorem itemsR_back {T:List Tok} {l:List Itm} (h:T.map Tok.rq=l.map tokI) (hl:ItmsOK l) (h40:l.length≤40):itemsR T=(l,0,0):=by
 unfold itemsR
 rw [items_back h hl]
 dsimp only
 rw [if_neg (by omega)]
theorem aside_in {t:Tok} (h:Aside t.rq) {c:List UInt8} (hc:∀ r,hasR c r=true→isMark r=true∨r=69):isIn c t.sg=false:=by
 show (!t.q && hasR c t.r)=false
 rcases h with h | h
 ·have h:t.q=true:=h
  rw [h]; rfl
 ·cases hr:hasR c t.r with
  | false=>simp
  | true =>
   have h1:isMark t.r=false:=h.1
   rcases hc _ hr with e | e
   ·rw [h1] at e; cases e
   ·exact absurd e h.2
theorem hasR_one (c:UInt8) (r:Int):hasR [c] r=((c.toNat:Int)==r):=by unfold hasR; simp
theorem in_body {r:Int} (h:hasR bodyC r=true):isMark r=true∧r≠59∧r≠42∧0≤r∧r<128:=by
 unfold hasR bodyC at h
 simp only [List.any_cons,List.any_nil,Bool.or_false,Bool.or_eq_true,beq_iff_eq] at h
 have:r=35∨r=48∨r=49∨r=50∨r=51∨r=52∨r=53∨r=54∨r=55∨r=56∨r=57∨r=64∨r=44∨r=46:=by
  rcases h with e | e | e | e | e | e | e | e | e | e | e | e | e | e<;>(subst e; decide)
 rcases this with e | e | e | e | e | e | e | e | e | e | e | e | e | e<;>(subst e; decide)
theorem aside_body {t:Tok} (h:Aside t.rq):isIn bodyC t.sg=false:=aside_in h fun r hr=>.inl (in_body hr).1
theorem aside_semi {t:Tok} (h:Aside t.rq):isIn [59] t.sg=false:=aside_in h fun r hr=>by rw [hasR_one] at hr; have:=eq_of_beq hr; exact .inl (by rw [← this]; decide)
theorem aside_E {t:Tok} (h:Aside t.rq):isIn [69] t.sg=false:=aside_in h fun r hr=>by rw [hasR_one] at hr; have:=eq_of_beq hr; exact .inr this.symm
theorem aside_star {t:Tok} (h:Aside t.rq):isStar t=false:=by
 unfold isStar
 rcases h with h | h
 ·have h:t.q=true:=h
  rw [h]; rfl
 ·cases hr:t.r==42 with
  | false=>simp
  | true =>
   have e:t.r=42:=eq_of_beq hr
   have h1:isMark t.r=false:=h.1
   rw [e] at h1; exact absurd h1 (by decide)
theorem elemsL_app:∀ {T:List Tok} (m:List Tok),(∀ t∈T,isStar t=false)→elemsL (T++m)=(T.map Tok.sg++(elemsL m).1,(elemsL m).2):=by
 intro T
 induction T with
 | nil=>intro m _; rfl
 | cons t T ih =>
  intro m h
  show elemsL (t :: (T++m))=_
  rw [elemsL_other (h t List.mem_cons_self),ih m fun x hx=>h x (List.mem_cons_of_mem _ hx)]
  rfl
theorem findIdx_app {α:Type} {P:α→Bool} {u:List α} (v:List α) (h:∀ y∈u,P y=false):(u++v).findIdx P=u.length+v.findIdx P:=by
 induction u with
 | nil=>simp
 | cons y u ih =>
  show (y :: (u++v)).findIdx P=_
  rw [List.findIdx_cons,h y List.mem_cons_self,cond_false,ih fun z hz=>h z (List.mem_cons_of_mem _ hz),List.length_cons]; omega
theorem runN_app {c:List UInt8} {u v:List Iv} (h:∀ y∈u,isIn c y=true) (hv:∀ y,v.head? = some y→isIn c y=false):runN (u++v) c=u.length:=by
 unfold runN
 rw [findIdx_app v fun y hy=>by rw [h y hy]; rfl]
 cases v with
 | nil=>simp
 | cons y v=>rw [List.findIdx_cons,hv y rfl]; simp
theorem runN_none {c:List UInt8} {v:List Iv} (hv:∀ y,v.head? = some y→isIn c y=false):runN v c=0:=by
 have:=runN_app (u:=[]) (c:=c) (fun y hy=>by cases hy) hv
 exact this
def Plains (l:List Iv) (t:List UInt8):Prop:=∃ T:List Tok,l=T.map Tok.sg∧T.map Tok.rq=t.map fun c=>((c.toNat:Int),false)
theorem Plains.app {l:List Iv} {u v:List UInt8} (h:Plains l (u++v)):∃ a b,l=a++b∧Plains a u∧Plains b v:=by
 obtain ⟨T,h1,h2⟩:=h
 rw [List.map_append] at h2
 obtain ⟨A,B,e,ha,hb⟩:=List.map_eq_append_iff.1 h2
 exact ⟨A.map Tok.sg,B.map Tok.sg,by rw [h1,e,List.map_append],⟨A,rfl,ha⟩,B,rfl,hb⟩
theorem Plains.len {l:List Iv} {t:List UInt8} (h:Plains l t):l.length=t.length:=by
 obtain ⟨T,h1,h2⟩:=h
 have:=congrArg List.length h2
 rw [h1]; simpa using this
theorem Plains.is {l:List Iv} {t:List UInt8} (h:Plains l t) {c:List UInt8} {b:Bool} (ht:∀ x∈t,hasR c (x.toNat:Int)=b):∀ y∈l,isIn c y=b:=by
 obtain ⟨T,h1,h2⟩:=h
 intro y hy
 rw [h1] at hy
 obtain ⟨k,hk,e⟩:=List.mem_map.1 hy
 have:k.rq∈T.map Tok.rq:=List.mem_map.2 ⟨k,hk,rfl⟩
 rw [h2] at this
 obtain ⟨x,hx,e2⟩:=List.mem_map.1 this
 rw [← e]
 show (!k.q && hasR c k.r)=b
 have q1:(x.toNat:Int)=k.r:=congrArg Prod.fst e2
 have q2:false=k.q:=congrArg Prod.snd e2
 rw [← q1,← q2,ht x hx]; rfl
theorem Plains.sR {l:List Iv} {t:List UInt8} (h:Plains l t):l.map Iv.sR=t.map fun c=>(c.toNat:Int):=by
 obtain ⟨T,h1,h2⟩:=h
 have:=congrArg (List.map Prod.fst) h2
 rw [List.map_map,List.map_map] at this
 rw [h1,List.map_map]; exact this
theorem Plains.head {l:List Iv} {t:List UInt8} (h:Plains l t) {c:List UInt8} {b:Bool} (ht:∀ x,t.head? = some x→hasR c (x.toNat:Int)=b):∀ y,l.head? = some y→isIn c y=b:=by
 cases t with
 | nil =>
  have:=h.len
  intro y hy
  rw [List.length_eq_zero_iff.1 this] at hy; cases hy
 | cons x t =>
  obtain ⟨a,b',e,ha,hb⟩:=Plains.app (u:=[x]) (v:=t) h
  intro y hy
  have hl:=ha.len
  match a,hl with
  | [z],_ =>
   rw [e] at hy
   have hy:z=y:=Option.some.inj hy
   subst hy
   exact ha.is (fun w hw=>by rw [List.mem_singleton.1 hw]; exact ht x rfl) z List.mem_cons_self
theorem body_plus:hasR bodyC 43=false∧hasR bodyC 69=false:=by decide
theorem runN_pos {c:List UInt8} {y:Iv} {l:List Iv} (h:isIn c y=true):0<runN (y :: l) c:=by
 unfold runN
 rw [List.findIdx_cons,h]
 show 0<cond false _ _
 rw [cond_false]; omega
theorem drop_len {α:Type} (u v:List α) {n:Nat} (h:n=u.length):(u++v).drop n=v:=by rw [h]; exact List.drop_left
theorem Plains.cons {l:List Iv} {c:UInt8} {t:List UInt8} (h:Plains l (c :: t)):∃ y m,l=y :: m∧Plains [y] [c]∧Plains m t:=by
 obtain ⟨a,b,e,ha,hb⟩:=Plains.app (u:=[c]) (v:=t) h
 have hl:=ha.len
 match a,hl with
 | [z],_=>exact ⟨z,b,e,ha,hb⟩
theorem Plains.one {y:Iv} {c:UInt8} (h:Plains [y] [c]) (k:List UInt8) {b:Bool} (hk:hasR k (c.toNat:Int)=b):isIn k y=b :=
 h.is (fun x hx=>by rw [List.mem_singleton.1 hx]; exact hk) y List.mem_cons_self
theorem cut_where {pre nums suf:List Iv} {t:List UInt8} (hp:∀ y∈pre,isIn bodyC y=false) (hn:Plains nums t) (ht:(numT t).2=0)
  (hs:∀ y,suf.head? = some y→isIn bodyC y=false∧isIn [69] y=false):cutN (pre++(nums++suf))=pre.length∧cutE (pre++(nums++suf))=pre.length+nums.length:=by
 have hsp:=num_split t
 have hB:=num_body ht
 have hne:=num_ne ht
 rw [hsp] at hn
 obtain ⟨nb,nx,e,hb,hx⟩:=hn.app
 have inB:=hb.is hB
 have hb0:nb≠[]:=fun h0=>by
  have:=hb.len; rw [h0] at this
  exact hne (List.length_eq_zero_iff.1 this.symm)
 have hN:cutN (pre++(nums++suf))=pre.length:=by
  unfold cutN
  rw [findIdx_app _ hp,e]
  cases hnb:nb with
  | nil=>exact absurd hnb hb0
  | cons y nb' =>
   show pre.length+(y :: (nb'++nx++suf)).findIdx _=_
   rw [List.findIdx_cons,inB y (by rw [hnb]; exact List.mem_cons_self)]; rfl
 refine ⟨hN,?_⟩
 have hxh:∀ y,(nx++suf).head? = some y→isIn bodyC y=false:=by
  intro y hy
  cases hnx:nx with
  | nil=>rw [hnx] at hy; exact (hs y hy).1
  | cons z nx' =>
   rw [hnx] at hy
   have hy:z=y:=Option.some.inj hy
   subst hy
   refine hx.head (c:=bodyC) (b:=false) (fun x hx'=>?_) z (by rw [hnx]; rfl)
   cases hS:numS t with
   | false=>rw [hS] at hx'; cases hx'
   | true =>
    rw [hS] at hx'
    have:69=x:=Option.some.inj hx'
    rw [← this]; exact body_plus.2
 have hA:cutA (pre++(nums++suf)) pre.length=pre.length+nb.length:=by
  unfold cutA
  rw [drop_len _ _ rfl,e,List.append_assoc,runN_app inB hxh]
 have dA:(pre++(nums++suf)).drop (pre.length+nb.length)=nx++suf:=by
  rw [e,show pre++(nb++nx++suf)=(pre++nb)++(nx++suf) by simp]
  exact drop_len _ _ (by simp)
 unfold cutE
 rw [hN,hA,dA]
 cases hS:numS t with
 | false =>
  rw [hS] at hx
  have hnx:nx=[]:=List.length_eq_zero_iff.1 hx.len
  subst hnx
  rw [if_neg,e]
  ·simp
  ·rw [List.nil_append,runN_none fun y hy=>(hs y hy).2]; omega
 | true =>
  rw [hS,if_pos rfl] at hx
  obtain ⟨y,m,e1,hy,hm⟩:=hx.cons
  subst e1
  have y69:isIn [69] y=true:=hy.one [69] (by decide)
  rw [if_pos (show 0<runN (y :: m++suf) [69] from runN_pos y69)]
  obtain ⟨x1,x2⟩:=num_exp ht hS
  have hl:=span1_nil x1
  have hz0:(Lib.trimPrefix (numX t) [43]).length≠0:=fun h0=>x2 (by rw [hl,h0]; rfl)
  rw [exp_split x1] at hm
  generalize (Lib.trimPrefix (numX t) [43]).length=k at hm hz0
  have zs:∀ x∈List.replicate k (48:UInt8),hasR bodyC (x.toNat:Int)=true:=fun x hx=>by rw [(List.mem_replicate.1 hx).2]; decide
  have dB:(pre++(nums++suf)).drop (pre.length+nb.length+1)=m++suf:=by
   rw [e,show pre++(nb++y :: m++suf)=(pre++nb++[y])++(m++suf) by simp]
   exact drop_len _ _ (by simp; omega)
  cases hP:Lib.hasPrefix (numX t) [43] with
  | true =>
   rw [hP,if_pos rfl] at hm
   obtain ⟨z,w,e2,hz,hw⟩:=hm.cons (c:=43) (t:=List.replicate k 48)
   subst e2
   have z43:isIn [43] z=true:=hz.one [43] (by decide)
   have hcB:cutB (pre++(nums++suf)) (pre.length+nb.length)=pre.length+nb.length+1+1:=by
    unfold cutB
    rw [dB]
    have:0<runN (z :: (w++suf)) [43]:=runN_pos z43
    show _+min (runN (z :: (w++suf)) [43]) 1=_
    omega
   have dC:(pre++(nums++suf)).drop (pre.length+nb.length+1+1)=w++suf:=by
    rw [e,show pre++(nb++y :: z :: w++suf)=(pre++nb++[y,z])++(w++suf) by simp]
    exact drop_len _ _ (by simp; omega)
   rw [hcB,dC,runN_app (hw.is zs) fun y hy=>(hs y hy).1,e]
   simp; omega
  | false =>
   rw [hP] at hm
   have hm:Plains m (List.replicate k 48):=hm
   have hcB:cutB (pre++(nums++suf)) (pre.length+nb.length)=pre.length+nb.length+1:=by
    unfold cutB
    rw [dB]
    have:runN (m++suf) [43]=0:=by
     obtain ⟨j,hj⟩:∃ j,k=j+1:=⟨k-1,by omega⟩
     rw [hj,List.replicate_succ] at hm
     obtain ⟨z,w,e2,hz,_⟩:=hm.cons
     subst e2
     refine runN_none fun y hy=>?_
     have hy:z=y:=Option.some.inj hy
     rw [← hy]; exact hz.one [43] (by decide)
    rw [this]; rfl
   rw [hcB,dB,runN_app (hm.is zs) fun y hy=>(hs y hy).1,e]
   simp; omega
theorem encs_bytes {t:List UInt8} (h:Asc t):encs (t.map fun c=>(c.toNat:Int))=t:=by
 induction t with
 | nil=>rfl
 | cons c t ih =>
  have hc:=h c List.mem_cons_self
  rw [List.map_cons,encs_cons,ih fun x hx=>h x (List.mem_cons_of_mem _ hx),enc1 (by omega) (by omega)]
  simp
theorem num_chars {t:List UInt8} (ht:(numT t).2=0):∀ c∈t,hasR bodyC (c.toNat:Int)=true∨c=69∨c=43:=by
 intro c hc
 have hsp:=num_split t
 rw [hsp] at hc
 rcases List.mem_append.1 hc with hc | hc
 ·exact .inl (num_body ht c hc)
 ·cases hS:numS t with
  | false=>rw [hS] at hc; cases hc
  | true =>
   rw [hS,if_pos rfl] at hc
   rcases List.mem_cons.1 hc with e | hc
   ·exact .inr (.inl e)
   ·rw [exp_split (num_exp ht hS).1] at hc
    rcases List.mem_append.1 hc with e | hc
    ·split at e
     ·exact .inr (.inr (List.mem_singleton.1 e))
     ·cases e
    ·rw [(List.mem_replicate.1 hc).2]; exact .inl (by decide)
theorem num_asc {t:List UInt8} (ht:(numT t).2=0):Asc t:=by
 intro c hc
 rcases num_chars ht c hc with e | e | e
 ·have:=(in_body e).2.2.2.2; omega
 ·rw [e]; decide
 ·rw [e]; decide
theorem cut_build {pre nums suf:List Iv} {t:List UInt8} (b:Int) (hp:∀ y∈pre,isIn bodyC y=false) (hn:Plains nums t) (ht:(numT t).2=0)
  (hs:∀ y,suf.head? = some y→isIn bodyC y=false∧isIn [69] y=false):∃ a,cutT (pre++(nums++suf)) b=(⟨b,pre,suf,t,a⟩,true):=by
 obtain ⟨h1,h2⟩:=cut_where hp hn ht hs
 have hl:0<nums.length:=by
  rw [hn.len]
  have h0:numB t≠[]:=num_ne ht
  have h1:=num_split t
  cases hB:numB t with
  | nil=>exact absurd hB h0
  | cons x l=>rw [h1,hB]; simp
 refine ⟨((pre++(nums++suf)).getD (cutN (pre++(nums++suf))) default).at_,?_⟩
 unfold cutT
 rw [if_pos (by rw [h1]; simp; omega),h1,h2]
 congr 1
 congr 1
 ·exact List.take_left
 ·rw [← List.append_assoc]; exact drop_len _ _ (by simp)
 ·rw [← List.append_assoc,List.take_append_of_le_length (by simp),List.take_of_length_le (by simp),drop_len _ _ rfl,hn.sR,encs_bytes (num_asc ht)]
end Go.Proofs.YtglfkihckkjniaaGreatDoor.Vx
namespace Go.Proofs.YtglfkihckkjniaaGreatDoor.Vx
open Go Go.RowKit
def padAt (k pa:Int) (y:Iv):List Iv:=if pa=k then [y] else []
theorem spotsN_sg (N:Nat) (a b:Int) (l:List Iv):∀ (T:List Tok) (n:Nat),spotsN N a b n (T.map Tok.sg++l)=spotsN N a b (n+T.length) l:=by
 intro T
 induction T with
 | nil=>intro n; rfl
 | cons t T ih =>
  intro n
  show (if Iv.isP t.sg=true then _ else [])++spotsN N a b (n+1) (T.map Tok.sg++l)=_
  rw [if_neg (show ¬ Iv.isP t.sg=true from Bool.false_ne_true),List.nil_append,ih,List.length_cons]
  congr 1; omega
theorem spots_side (a b:Int) {k1 k2 pa r p:Int} {T:List Tok} (hk:k1≠k2) (h2:pa=k2→T≠[]) :
  spotsN (padAt k1 pa (.padding r p)++T.map Tok.sg++padAt k2 pa (.padding r p)).length a b 0 (padAt k1 pa (.padding r p)++T.map Tok.sg++padAt k2 pa (.padding r p))=(if pa=k1 then [⟨r,p,a⟩] else [])++(if pa=k2 then [⟨r,p,b⟩] else []):=by
 unfold padAt
 by_cases e1:pa=k1
 ·have e2:¬ pa=k2:=fun e=>hk (e1.symm.trans e)
  rw [if_pos e1,if_neg e2,if_pos e1,if_neg e2,List.append_nil]
  show (if Iv.isP (.padding r p)=true then _ else [])++spotsN _ a b 1 (T.map Tok.sg)=_
  have:=spotsN_sg ([Iv.padding r p]++T.map Tok.sg).length a b [] T 1
  rw [List.append_nil] at this
  rw [this]; rfl
 ·rw [if_neg e1,if_neg e1,List.nil_append,List.nil_append]
  by_cases e2:pa=k2
  ·rw [if_pos e2,if_pos e2,spotsN_sg]
   have hT:=h2 e2
   have hl:T.length≠0:=fun e=>hT (List.length_eq_zero_iff.1 e)
   show [_]++_=_
   have:(T.map Tok.sg++[Iv.padding r p]).length=T.length+1:=by simp
   rw [this,if_neg (by omega),if_pos (by omega)]; rfl
  ·rw [if_neg e2,if_neg e2]
   have:=spotsN_sg (T.map Tok.sg++[]).length a b [] T 0
   rw [this]; rfl
theorem plainT_app (l m:List Iv):plainT (l++m)=plainT l++plainT m:=by unfold plainT; rw [List.filter_append,List.map_append]
theorem plainT_sg (T:List Tok):plainT (T.map Tok.sg)=T:=by
 induction T with
 | nil=>rfl
 | cons t T ih=>show t :: plainT (T.map Tok.sg)=_; rw [ih]
theorem plainT_pad (k pa r p:Int):plainT (padAt k pa (.padding r p))=[]:=by unfold padAt; split<;>rfl
theorem plain_side (k1 k2 pa r p:Int) (T:List Tok):plainT (padAt k1 pa (.padding r p)++T.map Tok.sg++padAt k2 pa (.padding r p))=T:=by
 rw [plainT_app,plainT_app,plainT_sg,plainT_pad,plainT_pad,List.append_nil]; rfl
theorem side_is {k1 k2 pa r p:Int} {T:List Tok} {c:List UInt8} (h:∀ t∈T,isIn c t.sg=false):∀ y∈padAt k1 pa (.padding r p)++T.map Tok.sg++padAt k2 pa (.padding r p),isIn c y=false:=by
 intro y hy
 have hpad:∀ k,y∈padAt k pa (.padding r p)→isIn c y=false:=by
  intro k hk
  unfold padAt at hk
  split at hk
  ·rw [List.mem_singleton.1 hk]; rfl
  ·cases hk
 rcases List.mem_append.1 hy with hy | hy
 ·rcases List.mem_append.1 hy with hy | hy
  ·exact hpad _ hy
  ·obtain ⟨t,ht,e⟩:=List.mem_map.1 hy
   rw [← e]; exact h t ht
 ·exact hpad _ hy
def halfE (T1:List Tok) (nums:List Iv) (T2:List Tok) (pa r p:Int):List Iv :=
 (padAt 1 pa (.padding r p)++T1.map Tok.sg++padAt 2 pa (.padding r p))++(nums++(padAt 3 pa (.padding r p)++T2.map Tok.sg++padAt 4 pa (.padding r p)))
def spotOf (pa r p:Int):Spot:=if pa=0 then ⟨0,0,0⟩ else ⟨r,p,pa⟩
def widthOf (pa:Int) (I1 I2:List Itm) (t:List UInt8):Int:=if pa≠0 then (I1.length:Int)+(I2.length:Int)+(t.length:Int) else 0
structure HalfOK (T1:List Tok) (nums:List Iv) (T2:List Tok) (pa:Int) (I1 I2:List Itm) (t:List UInt8) (first:Bool):Prop where
 m1:T1.map Tok.rq=I1.map tokI
 m2:T2.map Tok.rq=I2.map tokI
 o1:ItmsOK I1
 o2:ItmsOK I2
 l1:I1.length≤40
 l2:I2.length≤40
 hn:Plains nums t
 ht:(numT t).2=0
 pa0:0≤pa∧pa≤4
 pa2:pa=2→I1≠[]
 pa4:pa=4→I2≠[]
 pf:pa≠0→first=true
theorem toks_ne {T:List Tok} {I:List Itm} (h:T.map Tok.rq=I.map tokI) (hI:I≠[]):T≠[]:=by
 intro e; subst e
 cases I with
 | nil=>exact hI rfl
 | cons x I=>cases h
theorem toks_aside {T:List Tok} {I:List Itm} (h:T.map Tok.rq=I.map tokI) (hI:ItmsOK I):∀ t∈T,Aside t.rq:=by
 intro t ht
 have:t.rq∈T.map Tok.rq:=List.mem_map.2 ⟨t,ht,rfl⟩
 rw [h] at this
 exact items_aside hI _ this
theorem read_build {T1 T2:List Tok} {nums:List Iv} {pa r p:Int} {I1 I2:List Itm} {t:List UInt8} {first:Bool} (h:HalfOK T1 nums T2 pa I1 I2 t first) (b:Int) :
  readT (halfE T1 nums T2 pa r p) b first=(⟨I1,I2,(numT t).1,widthOf pa I1 I2 t,spotOf pa r p⟩,0,0):=by
 have a1:=toks_aside h.m1 h.o1
 have a2:=toks_aside h.m2 h.o2
 obtain ⟨a,hc⟩:=cut_build (pre:=padAt 1 pa (.padding r p)++T1.map Tok.sg++padAt 2 pa (.padding r p)) (suf:=padAt 3 pa (.padding r p)++T2.map Tok.sg++padAt 4 pa (.padding r p)) b
  (side_is fun t ht=>aside_body (a1 t ht)) h.hn h.ht (fun y hy=>⟨side_is (fun t ht=>aside_body (a2 t ht)) y (List.mem_of_head? hy),side_is (fun t ht=>aside_E (a2 t ht)) y (List.mem_of_head? hy)⟩)
 have hs:paddedT (spotsT (padAt 1 pa (.padding r p)++T1.map Tok.sg++padAt 2 pa (.padding r p)) (padAt 3 pa (.padding r p)++T2.map Tok.sg++padAt 4 pa (.padding r p))) first=(spotOf pa r p,0,0):=by
  unfold spotsT spotOf
  rw [spots_side 1 2 (by decide) (fun e=>toks_ne h.m1 (h.pa2 e)),spots_side 3 4 (by decide) (fun e=>toks_ne h.m2 (h.pa4 e))]
  have hpa:=h.pa0
  by_cases e0:pa=0
  ·rw [if_pos e0,if_neg (by omega),if_neg (by omega),if_neg (by omega),if_neg (by omega)]; rfl
  ·have hf:=h.pf e0
   rw [if_neg e0]
   have key:∀ w:Int,w≠0→paddedT [⟨r,p,w⟩] first=(⟨r,p,w⟩,0,0):=fun w hw=>by
    unfold paddedT
    dsimp only
    rw [if_neg]
    rintro (e | e)
    ·exact hw e
    ·rw [hf] at e; cases e
   have:pa=1∨pa=2∨pa=3∨pa=4:=by omega
   rcases this with e | e | e | e<;>subst e<;>exact key _ (by decide)
 unfold readT halfE
 rw [hc]
 dsimp only
 rw [if_neg (by decide),hs,plain_side,plain_side,itemsR_back h.m1 h.o1 h.l1,itemsR_back h.m2 h.o2 h.l2,h.ht]
 dsimp only
 rw [if_neg (show ¬ (0:Int)≠0 from fun e=>e rfl),if_neg (show ¬ (0:Int)≠0 from fun e=>e rfl),if_neg (show ¬ (0:Int)≠0 from fun e=>e rfl),if_neg (show ¬ (0:Int)≠0 from fun e=>e rfl)]
 congr 1
 congr 1
 unfold widthOf spotOf
 by_cases e0:pa=0
 ·rw [if_pos e0,if_neg (fun e=>e rfl),if_neg (fun e=>e e0)]
 ·rw [if_neg e0,if_pos e0]
theorem half_semi {T1 T2:List Tok} {nums:List Iv} {pa r p:Int} {I1 I2:List Itm} {t:List UInt8} {first:Bool} (h:HalfOK T1 nums T2 pa I1 I2 t first):∀ y∈halfE T1 nums T2 pa r p,isIn [59] y=false:=by
 have a1:=toks_aside h.m1 h.o1
 have a2:=toks_aside h.m2 h.o2
 intro y hy
 rcases List.mem_append.1 hy with hy | hy
 ·exact side_is (fun t ht=>aside_semi (a1 t ht)) y hy
 ·rcases List.mem_append.1 hy with hy | hy
  ·refine h.hn.is (c:=[59]) (b:=false) (fun x hx=>?_) y hy
   rcases num_chars h.ht x hx with e | e | e
   ·rw [hasR_one]
    have:=(in_body e).2.1
    simpa using fun e=>this (by rw [← e])
   ·rw [e]; decide
   ·rw [e]; decide
  ·exact side_is (fun t ht=>aside_semi (a2 t ht)) y hy
structure PD where
 I1:List Itm
 I2:List Itm
 t:List UInt8
 pa:Int
 pd:Int
 hn:Bool
 I3:List Itm
 I4:List Itm
 u:List UInt8
end Go.Proofs.YtglfkihckkjniaaGreatDoor.Vx
namespace Go.Proofs.YtglfkihckkjniaaGreatDoor.Vx
open Go Go.RowKit
def cods (t:List UInt8):List Int:=t.map fun c=>(c.toNat:Int)
def codQ (t:List UInt8):List (Int×Bool):=t.map fun c=>((c.toNat:Int),false)
theorem cods_sc:∀ {t:List UInt8},(∀ c∈t,scalar (c.toNat:Int)=true∧(c.toNat:Int)≠39)→Sc (cods t) (codQ t):=by
 intro t
 induction t with
 | nil=>intro _; exact Sc.nil
 | cons c t ih =>
  intro h
  have h1:=h c List.mem_cons_self
  exact Sc.then (Sc.one h1.1 h1.2) (ih fun x hx=>h x (List.mem_cons_of_mem _ hx))
theorem asc_scalar (n:Nat) (h:n<128):scalar (n:Int)=true:=by rw [scalar_iff]; omega
theorem num_scal {t:List UInt8} (ht:(numT t).2=0):∀ c∈t,scalar (c.toNat:Int)=true∧(c.toNat:Int)≠39:=by
 intro c hc
 refine ⟨asc_scalar _ (num_asc ht c hc),fun e=>?_⟩
 rcases num_chars ht c hc with h | h | h
 ·rw [e] at h; exact absurd h (by decide)
 ·rw [h] at e; exact absurd e (by decide)
 ·rw [h] at e; exact absurd e (by decide)
theorem num_sc {t:List UInt8} (ht:(numT t).2=0):Sc (cods t) (codQ t):=cods_sc (num_scal ht)
theorem num_nil {t:List UInt8} (ht:(numT t).2=0):t≠[]:=by
 intro e; subst e; exact num_ne ht rfl
theorem cods_head {t:List UInt8} (ht:(numT t).2=0) (m:List Int):(cods t++m).head?≠some 39:=by
 cases t with
 | nil=>exact absurd rfl (num_nil ht)
 | cons c t=>exact fun e=>(num_scal ht c List.mem_cons_self).2 (Option.some.inj e)
def padC (k pa pd:Int):List Int:=if pa=k then 42 :: (if pd=39 then [39,39] else [pd]) else []
def padQ (k pa pd:Int):List (Int×Bool):=if pa=k then [(42,false),(pd,decide (pd=39))] else []
theorem padC_sc (k:Int) {pa pd:Int} (h:pa≠0→scalar pd=true) (hk:k≠0):Sc (padC k pa pd) (padQ k pa pd):=by
 unfold padC padQ
 by_cases e:pa=k
 ·rw [if_pos e,if_pos e]
  have hs:=h (by omega)
  have k:Sc (if pd=39 then [39,39] else [pd]) [(pd,decide (pd=39))]:=by
   by_cases e2:pd=39
   ·rw [if_pos e2,e2]; exact Sc.two
   ·rw [if_neg e2,decide_eq_false e2]; exact Sc.one hs e2
  exact Sc.then (u:=[42]) (t1:=[(42,false)]) (Sc.one (by decide) (by decide)) k
 ·rw [if_neg e,if_neg e]; exact Sc.nil
theorem padC_head {k pa pd:Int} {m:List Int} (h:m.head?≠some 39):(padC k pa pd++m).head?≠some 39:=by
 unfold padC
 split
 ·exact fun e=>absurd (Option.some.inj e) (by decide)
 ·exact h
def PD.tailC (d:PD):List Int:=if d.hn=true then 59 :: (itemsC d.I3++(cods d.u++itemsC d.I4)) else []
def PD.tailQ (d:PD):List (Int×Bool):=if d.hn=true then (59,false) :: (d.I3.map tokI++(codQ d.u++d.I4.map tokI)) else []
def PD.codes (d:PD):List Int:=padC 1 d.pa d.pd++(itemsC d.I1++(padC 2 d.pa d.pd++(cods d.t++(padC 3 d.pa d.pd++(itemsC d.I2++(padC 4 d.pa d.pd++d.tailC))))))
def PD.toks (d:PD):List (Int×Bool):=padQ 1 d.pa d.pd++(d.I1.map tokI++(padQ 2 d.pa d.pd++(codQ d.t++(padQ 3 d.pa d.pd++(d.I2.map tokI++(padQ 4 d.pa d.pd++d.tailQ))))))
structure PDok (d:PD):Prop where
 o1:ItmsOK d.I1
 o2:ItmsOK d.I2
 l1:d.I1.length≤40
 l2:d.I2.length≤40
 ht:(numT d.t).2=0
 pa0:0≤d.pa∧d.pa≤4
 pa2:d.pa=2→d.I1≠[]
 pa4:d.pa=4→d.I2≠[]
 pds:d.pa≠0→scalar d.pd=true
 h3:d.hn=true→ItmsOK d.I3∧ItmsOK d.I4∧d.I3.length≤40∧d.I4.length≤40∧(numT d.u).2=0
theorem PDok.sc {d:PD} (h:PDok d):ScQ d.codes d.toks:=by
 have tl:ScQ d.tailC d.tailQ∧d.tailC.head?≠some 39:=by
  unfold PD.tailC PD.tailQ
  cases hn:d.hn with
  | false=>exact ⟨Sc.nil.q,fun e=>by cases e⟩
  | true =>
   obtain ⟨o3,o4,_,_,hu⟩:=h.h3 hn
   rw [if_pos rfl,if_pos rfl]
   refine ⟨Sc.thenQ (u:=[59]) (t1:=[(59,false)]) (Sc.one (by decide) (by decide)) (ScQ.thenQ (items_sc o3) (Sc.thenQ (num_sc hu) (items_sc o4)) (cods_head hu _)),fun e=>absurd (Option.some.inj e) (by decide)⟩
 unfold PD.codes PD.toks
 refine Sc.thenQ (padC_sc 1 h.pds (by decide)) (ScQ.thenQ (items_sc h.o1) (Sc.thenQ (padC_sc 2 h.pds (by decide)) (Sc.thenQ (num_sc h.ht) (Sc.thenQ (padC_sc 3 h.pds (by decide)) (ScQ.thenQ (items_sc h.o2) (Sc.thenQ (padC_sc 4 h.pds (by decide)) tl.1) (padC_head tl.2))))) (padC_head (cods_head h.ht _)))
theorem plains_of {T:List Tok} {t:List UInt8} (h:T.map Tok.rq=codQ t):Plains (T.map Tok.sg) t:=⟨T,rfl,h⟩
theorem cod_star {T:List Tok} {t:List UInt8} (h:T.map Tok.rq=codQ t) (ht:(numT t).2=0):∀ x∈T,isStar x=false:=by
 intro x hx
 have:x.rq∈T.map Tok.rq:=List.mem_map.2 ⟨x,hx,rfl⟩
 rw [h] at this
 obtain ⟨c,hc,e⟩:=List.mem_map.1 this
 have e1:(c.toNat:Int)=x.r:=congrArg Prod.fst e
 unfold isStar
 have:x.r≠42:=by
  rw [← e1]
  rcases num_chars ht c hc with h | h | h
  ·exact (in_body h).2.2.1
  ·rw [h]; decide
  ·rw [h]; decide
 simp [this]
theorem star_aside {T:List Tok} {I:List Itm} (h:T.map Tok.rq=I.map tokI) (hI:ItmsOK I):∀ t∈T,isStar t=false:=fun t ht=>aside_star (toks_aside h hI t ht)
end Go.Proofs.YtglfkihckkjniaaGreatDoor.Vx
namespace Go.Proofs.YtglfkihckkjniaaGreatDoor.Vx
open Go Go.RowKit
theorem elemsL_cat:∀ (n:Nat) (T:List Tok),T.length≤n→(elemsL T).2=none→∀ m,elemsL (T++m)=((elemsL T).1++(elemsL m).1,(elemsL m).2):=by
 intro n
 induction n using Nat.strongRecOn with
 | _ n ih =>
  intro T hn hT m
  match T with
  | []=>rfl
  | t :: T =>
   cases hs:isStar t with
   | false =>
    rw [elemsL_other hs] at hT
    show elemsL (t :: (T++m))=_
    rw [elemsL_other hs,elemsL_other hs,ih T.length (by simp at hn; omega) T (Nat.le_refl _) hT m]
    rfl
   | true =>
    match T with
    | []=>rw [elemsL_end hs] at hT; cases hT
    | x :: T =>
     rw [elemsL_star hs] at hT
     show elemsL (t :: x :: (T++m))=_
     rw [elemsL_star hs,elemsL_star hs,ih T.length (by simp at hn; omega) T (Nat.le_refl _) hT m]
     rfl
end Go.Proofs.YtglfkihckkjniaaGreatDoor.Vx
namespace Go.Proofs.YtglfkihckkjniaaGreatDoor.Vx
open Go Go.RowKit
def OB (s:List UInt8):Type:={i:Nat // (rs1 s).c=0∧i≤(numB s).length∧anyP isOdd ((numB s).take i)=false}
structure E27 (s:List UInt8) where
 i:Nat
 ps:List Int
 pl:List UInt8
 n:Int
 le:i≤(rs2 s).w.length+1
 few:ps.length≤i
 n0:0≤n∧n≤(rs2 s).w.length
 nn:n≤i
 sz:i≤(rs2 s).w.length→ps++sizesN n ((rs2 s).w.drop i)=szZ (rs2 s).w
 sz1:¬ i≤(rs2 s).w.length→ps=szZ (rs2 s).w
 fl:pl++((rs2 s).w.drop i).filter (fun x=>decide (x≠44))=(splitC 44 (rs2 s).w).flatten
 pn:pl.length≤i
structure N23 (s:List UInt8):Prop where
 c2:(rs2 s).c=0
 g:¬ 0<cntC 44 (rs2 s).f
def I35 (s:List UInt8):Type:={i:Nat // i≤(szZ (rs2 s).w).length∧(1<(szZ (rs2 s).w).length→∀ j,j<i→(szZ (rs2 s).w).getD j 0≠0)}
structure N43 (s:List UInt8):Prop where
 c3:(rs3 s).c=0
 ne:emptyIn (splitC 44 (rs2 s).w)=false
structure N51 (s:List UInt8):Prop extends N43 s where
 h1:¬ (rs3 s).w++(rs3 s).f=[]
 h2:0<cntC 64 ((rs3 s).w++(rs3 s).f)
 h3:¬ ((rs3 s).pt=true∨0<cntC 48 (rs3 s).w)
 h4:rowsF 35 64 35 0 (rs3 s).w=[]
 h5:0<cntC 64 (rs3 s).w
def J53 (s:List UInt8):Type:={j:Nat // N51 s∧j≤(rs3 s).w.length∧dropP (·==35) ((rs3 s).w.drop j)=dropP (·==35) (rs3 s).w}
structure N57 (s:List UInt8):Prop extends N43 s where
 h1:¬ (rs3 s).w++(rs3 s).f=[]
 h2:¬ 0<cntC 64 ((rs3 s).w++(rs3 s).f)
 h3:rowsF 35 48 48 0 (rs3 s).w=[]
 h4:rowsF 48 35 35 0 (rs3 s).f=[]
def wf (s:List UInt8):List UInt8:=(rs3 s).w++(rs3 s).f
def flt (l:List UInt8):List UInt8:=l.filter fun x=>decide ((x.toNat:Int)≠35)
def dg1 (s:List UInt8):Num:={ (rs3 s).p with mi:=cntC 48 (rs3 s).w,mf:=cntC 48 (rs3 s).f,xf:=(rs3 s).f.length }
structure N69 (s:List UInt8):Prop extends N43 s where
 c4:(rs4 s).c=0
 w4:(rs4 s).w=(rs3 s).w
 pr4:(rs4 s).p.pr=(rs3 s).p.pr
def zsc:List SC:=z0.sc'
def xt (s:List UInt8):List UInt8:=Lib.trimPrefix (numX s) [43]
def xp (s:List UInt8):Num:={ z0 with px:=Lib.hasPrefix (numX s) [43] }
def b7 (s:List UInt8):Bool:=decide (xt s=[]) || decide (dropP (·==48) (xt s)≠[])
def bw (s:List UInt8):List UInt8:=(Lib.cut (numB s) [46]).1
def bf (s:List UInt8):List UInt8:=(Lib.cut (numB s) [46]).2.1
def bp (s:List UInt8):Bool:=(Lib.cut (numB s) [46]).2.2
def b19 (s:List UInt8):Bool:=decide (0<cntC 46 (bf s)) || (bp s && decide (bf s=[]))
def b29 (s:List UInt8) (i:Nat):Bool:=decide (i<(rs2 s).w.length) && decide ((rs2 s).w.getD i 0≠44)
def b37 (s:List UInt8) (i:Nat):Bool:=decide (1<(szZ (rs2 s).w).length) && decide ((szZ (rs2 s).w).getD i 0=0)
def g1 (s:List UInt8):Num:=if 1<(szZ (rs2 s).w).length then { (rs2 s).p with pr:=(szZ (rs2 s).w).getD ((szZ (rs2 s).w).length-1) 0,sc:=(szZ (rs2 s).w).getD ((szZ (rs2 s).w).length-1) 0 } else (rs2 s).p
def b47 (s:List UInt8):Bool:=(rs3 s).pt || decide (0<cntC 48 (rs3 s).w)
def b55 (s:List UInt8):Bool:=decide (rowsF 35 48 48 0 (rs3 s).w≠[]) || decide (rowsF 48 35 35 0 (rs3 s).f≠[])
def dg2 (s:List UInt8):Num:={ dg1 s with inc:=dropP (·==48) (flt (wf s)) }
def b65 (s:List UInt8):Bool:=decide ((dg2 s).inc≠[]) && (decide ((cntC 48 (rs3 s).f:Int)<(rs3 s).f.length) || numS s)
def b69 (s:List UInt8):Bool:=numS s && (decide (1<(szZ (rs2 s).w).length) || (decide (0<(rs4 s).p.ms) && (bAt (rs3 s).w 0==35)))
def annA (s:List UInt8) (rest:Ann):Ann :=
 .cut 7 (PLift (numS s=true)) (fun _=>⟨[(2,.one (.ptr 16 0)),(4,.one (.ptr 17 0)),(7,.one (.bool (numS s))),(5,.one (.str (numB s))),(6,.one (.str (xt s)))],[(16,some (.cells 25 zsc)),(17,some (.cells 25 (xp s).sc'))],18⟩)
  (fun _=>.cut 8 Unit (fun _=>⟨[(2,.one (.ptr 16 0)),(4,.one (.ptr 17 0)),(7,.one (.bool (numS s))),(5,.one (.str (numB s))),(6,.one (.str (xt s))),(48,.one (.bool (b7 s)))],[(16,some (.cells 25 zsc)),(17,some (.cells 25 (xp s).sc'))],18⟩) (fun _=>.nil) .nil) rest
def annB (s:List UInt8):Ann :=
 .loop 13 (OB s) (fun i=>⟨[(2,.one (.ptr 16 0)),(4,.one (.ptr 17 0)),(7,.one (.bool (numS s))),(5,.one (.str (numB s))),(8,.one (.int .i64 i.1))],[(16,some (.cells 25 zsc)),(17,some (.cells 25 (rs1 s).p.sc'))],18⟩) (fun i=>(numB s).length-i.1)
  (fun i=>.cut 17 Unit (fun _=>⟨[(2,.one (.ptr 16 0)),(4,.one (.ptr 17 0)),(7,.one (.bool (numS s))),(5,.one (.str (numB s))),(8,.one (.int .i64 i.1)),(88,.one (.bool (isOdd (bAt (numB s) i.1))))],[(16,some (.cells 25 zsc)),(17,some (.cells 25 (rs1 s).p.sc'))],18⟩) (fun _=>.nil) .nil) .nil
def annC (s:List UInt8):Ann :=
 .loop 27 (E27 s) (fun x=>⟨[(2,.one (.ptr 16 0)),(4,.one (.ptr 17 0)),(7,.one (.bool (numS s))),(10,.one (.str (rs2 s).w)),(11,.one (.str (rs2 s).f)),(12,.one (.bool (rs2 s).pt)),(13,.one (.slc 18)),(14,.one (.str x.pl)),(15,.one (.int .i64 x.n)),(16,.one (.int .i64 x.i))],[(16,some (.cells 25 zsc)),(17,some (.cells 25 (rs2 s).p.sc')),(18,some (.row 3 (.ints .i64 x.ps)))],19⟩) (fun x=>(rs2 s).w.length+1-x.i)
  (fun x=>.cut 30 Unit (fun _=>⟨[(2,.one (.ptr 16 0)),(4,.one (.ptr 17 0)),(7,.one (.bool (numS s))),(10,.one (.str (rs2 s).w)),(11,.one (.str (rs2 s).f)),(12,.one (.bool (rs2 s).pt)),(13,.one (.slc 18)),(14,.one (.str x.pl)),(15,.one (.int .i64 x.n)),(16,.one (.int .i64 x.i)),(126,.one (.bool (b29 s x.i)))],[(16,some (.cells 25 zsc)),(17,some (.cells 25 (rs2 s).p.sc')),(18,some (.row 3 (.ints .i64 x.ps)))],19⟩) (fun _=>.nil) .nil) .nil
def annD (s:List UInt8):Ann :=
 .loop 35 (I35 s) (fun i=>⟨[(2,.one (.ptr 16 0)),(4,.one (.ptr 17 0)),(7,.one (.bool (numS s))),(10,.one (.str (rs2 s).w)),(11,.one (.str (rs2 s).f)),(12,.one (.bool (rs2 s).pt)),(13,.one (.slc 18)),(14,.one (.str (splitC 44 (rs2 s).w).flatten)),(17,.one (.int .i64 i.1))],[(16,some (.cells 25 zsc)),(17,some (.cells 25 (rs2 s).p.sc')),(18,some (.row 3 (.ints .i64 (szZ (rs2 s).w))))],19⟩) (fun i=>(szZ (rs2 s).w).length-i.1)
  (fun i=>.cut 38 Unit (fun _=>⟨[(2,.one (.ptr 16 0)),(4,.one (.ptr 17 0)),(7,.one (.bool (numS s))),(10,.one (.str (rs2 s).w)),(11,.one (.str (rs2 s).f)),(12,.one (.bool (rs2 s).pt)),(13,.one (.slc 18)),(14,.one (.str (splitC 44 (rs2 s).w).flatten)),(17,.one (.int .i64 i.1)),(155,.one (.bool (b37 s i.1)))],[(16,some (.cells 25 zsc)),(17,some (.cells 25 (rs2 s).p.sc')),(18,some (.row 3 (.ints .i64 (szZ (rs2 s).w))))],19⟩) (fun _=>.nil) .nil) .nil
def annE (s:List UInt8) (rest:Ann):Ann :=
 .cut 48 Unit (fun _=>⟨[(2,.one (.ptr 16 0)),(4,.one (.ptr 17 0)),(7,.one (.bool (numS s))),(14,.one (.str (rs3 s).w)),(11,.one (.str (rs3 s).f)),(12,.one (.bool (rs3 s).pt)),(13,.one (.slc 18)),(198,.one (.bool (b47 s)))],[(16,some (.cells 25 zsc)),(17,some (.cells 25 (rs3 s).p.sc')),(18,some (.row 3 (.ints .i64 (szZ (rs2 s).w))))],19⟩) (fun _=>.nil)
 (.cut 51 (PLift (N51 s)) (fun _=>⟨[(2,.one (.ptr 16 0)),(4,.one (.ptr 17 0)),(7,.one (.bool (numS s))),(14,.one (.str (rs3 s).w)),(11,.one (.str (rs3 s).f)),(12,.one (.bool (rs3 s).pt)),(13,.one (.slc 18))],[(16,some (.cells 25 zsc)),(17,some (.cells 25 (rs3 s).p.sc')),(18,some (.row 3 (.ints .i64 (szZ (rs2 s).w))))],19⟩)
  (fun _=>.loop 53 (J53 s) (fun j=>⟨[(2,.one (.ptr 16 0)),(4,.one (.ptr 17 0)),(7,.one (.bool (numS s))),(14,.one (.str (rs3 s).w)),(11,.one (.str (rs3 s).f)),(12,.one (.bool (rs3 s).pt)),(13,.one (.slc 18))],[(16,some (.cells 25 zsc)),(17,some (.cells 25 ({ (rs3 s).p with ms:=(cntC 64 (rs3 s).w:Int),xs:=((rs3 s).w.length:Int)-(j.1:Int) }:Num).sc')),(18,some (.row 3 (.ints .i64 (szZ (rs2 s).w))))],19⟩) (fun j=>(rs3 s).w.length-j.1) (fun _=>.nil) .nil)
 (.cut 56 Unit (fun _=>⟨[(2,.one (.ptr 16 0)),(4,.one (.ptr 17 0)),(7,.one (.bool (numS s))),(14,.one (.str (rs3 s).w)),(11,.one (.str (rs3 s).f)),(12,.one (.bool (rs3 s).pt)),(13,.one (.slc 18)),(18,.one (.str (wf s))),(229,.one (.bool (b55 s)))],[(16,some (.cells 25 zsc)),(17,some (.cells 25 (rs3 s).p.sc')),(18,some (.row 3 (.ints .i64 (szZ (rs2 s).w))))],19⟩) (fun _=>.nil)
 (.cut 57 (PLift (N57 s)) (fun _=>⟨[(2,.one (.ptr 16 0)),(4,.one (.ptr 17 0)),(7,.one (.bool (numS s))),(14,.one (.str (rs3 s).w)),(11,.one (.str (rs3 s).f)),(12,.one (.bool (rs3 s).pt)),(13,.one (.slc 18)),(18,.one (.str (wf s)))],[(16,some (.cells 25 zsc)),(17,some (.cells 25 (rs3 s).p.sc')),(18,some (.row 3 (.ints .i64 (szZ (rs2 s).w))))],19⟩)
  (fun _=>.loop 60 (Upto (wf s)) (fun i=>⟨[(2,.one (.ptr 16 0)),(4,.one (.ptr 17 0)),(7,.one (.bool (numS s))),(14,.one (.str (rs3 s).w)),(11,.one (.str (rs3 s).f)),(12,.one (.bool (rs3 s).pt)),(13,.one (.slc 18)),(18,.one (.str (wf s))),(19,.one (.str (flt ((wf s).take i.1)))),(20,.one (.int .i64 i.1))],[(16,some (.cells 25 zsc)),(17,some (.cells 25 (dg1 s).sc')),(18,some (.row 3 (.ints .i64 (szZ (rs2 s).w))))],19⟩) (fun i=>(wf s).length-i.1) (fun _=>.nil)
   (.cut 64 (PLift (N57 s)) (fun _=>⟨[(2,.one (.ptr 16 0)),(4,.one (.ptr 17 0)),(7,.one (.bool (numS s))),(14,.one (.str (rs3 s).w)),(11,.one (.str (rs3 s).f)),(12,.one (.bool (rs3 s).pt)),(13,.one (.slc 18)),(19,.one (.str (flt (wf s))))],[(16,some (.cells 25 zsc)),(17,some (.cells 25 (dg1 s).sc')),(18,some (.row 3 (.ints .i64 (szZ (rs2 s).w))))],19⟩)
    (fun _=>.cut 66 Unit (fun _=>⟨[(2,.one (.ptr 16 0)),(4,.one (.ptr 17 0)),(7,.one (.bool (numS s))),(14,.one (.str (rs3 s).w)),(11,.one (.str (rs3 s).f)),(12,.one (.bool (rs3 s).pt)),(13,.one (.slc 18)),(272,.one (.bool (b65 s)))],[(16,some (.cells 25 zsc)),(17,some (.cells 25 (dg2 s).sc')),(18,some (.row 3 (.ints .i64 (szZ (rs2 s).w))))],19⟩) (fun _=>.nil) .nil) .nil)) rest)))
def annF (s:List UInt8):Ann :=
 .cut 70 Unit (fun _=>⟨[(2,.one (.ptr 16 0)),(4,.one (.ptr 17 0)),(7,.one (.bool (numS s))),(14,.one (.str (rs3 s).w)),(11,.one (.str (rs3 s).f)),(12,.one (.bool (rs3 s).pt)),(13,.one (.slc 18)),(293,.one (.bool (b69 s)))],[(16,some (.cells 25 zsc)),(17,some (.cells 25 (rs4 s).p.sc')),(18,some (.row 3 (.ints .i64 (szZ (rs2 s).w))))],19⟩) (fun _=>.nil)
 (.cut 71 (PLift (N69 s∧b69 s=false)) (fun _=>⟨[(2,.one (.ptr 16 0)),(4,.one (.ptr 17 0)),(7,.one (.bool (numS s))),(14,.one (.str (rs3 s).w)),(11,.one (.str (rs3 s).f)),(12,.one (.bool (rs3 s).pt)),(13,.one (.slc 18))],[(16,some (.cells 25 zsc)),(17,some (.cells 25 (rs4 s).p.sc')),(18,some (.row 3 (.ints .i64 (szZ (rs2 s).w))))],19⟩) (fun _=>.turns 72 8 (fun _=>.nil) .nil) .nil)
def annN (s:List UInt8):Ann :=
 annA s (.cut 12 (PLift ((rs1 s).c=0)) (fun _=>⟨[(2,.one (.ptr 16 0)),(4,.one (.ptr 17 0)),(7,.one (.bool (numS s))),(5,.one (.str (numB s)))],[(16,some (.cells 25 zsc)),(17,some (.cells 25 (rs1 s).p.sc'))],18⟩)
 (fun _=>.cut 18 (PLift ((rs1 s).c=0∧anyP isOdd (numB s)=false)) (fun _=>⟨[(2,.one (.ptr 16 0)),(4,.one (.ptr 17 0)),(7,.one (.bool (numS s))),(5,.one (.str (numB s)))],[(16,some (.cells 25 zsc)),(17,some (.cells 25 (rs1 s).p.sc'))],18⟩)
 (fun _=>.cut 20 Unit (fun _=>⟨[(2,.one (.ptr 16 0)),(4,.one (.ptr 17 0)),(7,.one (.bool (numS s))),(10,.one (.str (bw s))),(11,.one (.str (bf s))),(12,.one (.bool (bp s))),(105,.one (.bool (b19 s)))],[(16,some (.cells 25 zsc)),(17,some (.cells 25 (rs1 s).p.sc'))],18⟩) (fun _=>.nil)
 (.cut 23 (PLift (N23 s)) (fun _=>⟨[(2,.one (.ptr 16 0)),(4,.one (.ptr 17 0)),(7,.one (.bool (numS s))),(10,.one (.str (rs2 s).w)),(11,.one (.str (rs2 s).f)),(12,.one (.bool (rs2 s).pt))],[(16,some (.cells 25 zsc)),(17,some (.cells 25 (rs2 s).p.sc'))],18⟩)
 (fun _=>.cut 34 (PLift (N23 s)) (fun _=>⟨[(2,.one (.ptr 16 0)),(4,.one (.ptr 17 0)),(7,.one (.bool (numS s))),(10,.one (.str (rs2 s).w)),(11,.one (.str (rs2 s).f)),(12,.one (.bool (rs2 s).pt)),(13,.one (.slc 18)),(14,.one (.str (splitC 44 (rs2 s).w).flatten))],[(16,some (.cells 25 zsc)),(17,some (.cells 25 (rs2 s).p.sc')),(18,some (.row 3 (.ints .i64 (szZ (rs2 s).w))))],19⟩)
 (fun _=>.cut 39 (PLift (emptyIn (splitC 44 (rs2 s).w)=false)) (fun _=>⟨[(2,.one (.ptr 16 0)),(4,.one (.ptr 17 0)),(7,.one (.bool (numS s))),(10,.one (.str (rs2 s).w)),(11,.one (.str (rs2 s).f)),(12,.one (.bool (rs2 s).pt)),(13,.one (.slc 18)),(14,.one (.str (splitC 44 (rs2 s).w).flatten))],[(16,some (.cells 25 zsc)),(17,some (.cells 25 (rs2 s).p.sc')),(18,some (.row 3 (.ints .i64 (szZ (rs2 s).w))))],19⟩)
 (fun _=>.cut 41 (PLift (emptyIn (splitC 44 (rs2 s).w)=false)) (fun _=>⟨[(2,.one (.ptr 16 0)),(4,.one (.ptr 17 0)),(7,.one (.bool (numS s))),(10,.one (.str (rs2 s).w)),(11,.one (.str (rs2 s).f)),(12,.one (.bool (rs2 s).pt)),(13,.one (.slc 18)),(14,.one (.str (splitC 44 (rs2 s).w).flatten))],[(16,some (.cells 25 zsc)),(17,some (.cells 25 (g1 s).sc')),(18,some (.row 3 (.ints .i64 (szZ (rs2 s).w))))],19⟩)
 (fun _=>.cut 43 (PLift (N43 s)) (fun _=>⟨[(2,.one (.ptr 16 0)),(4,.one (.ptr 17 0)),(7,.one (.bool (numS s))),(14,.one (.str (rs3 s).w)),(11,.one (.str (rs3 s).f)),(12,.one (.bool (rs3 s).pt)),(13,.one (.slc 18))],[(16,some (.cells 25 zsc)),(17,some (.cells 25 (rs3 s).p.sc')),(18,some (.row 3 (.ints .i64 (szZ (rs2 s).w))))],19⟩)
 (fun _=>.cut 69 (PLift (N69 s)) (fun _=>⟨[(2,.one (.ptr 16 0)),(4,.one (.ptr 17 0)),(7,.one (.bool (numS s))),(14,.one (.str (rs3 s).w)),(11,.one (.str (rs3 s).f)),(12,.one (.bool (rs3 s).pt)),(13,.one (.slc 18))],[(16,some (.cells 25 zsc)),(17,some (.cells 25 (rs4 s).p.sc')),(18,some (.row 3 (.ints .i64 (szZ (rs2 s).w))))],19⟩) (fun _=>annF s) (annE s .nil)) .nil) .nil) (annD s)) (annC s)) .nil)) (annB s)) .nil)
def sp_r3num:FSpec:=⟨[],fun | [.one (.str s)]=>some ([s.length≤1000000000],.tup [(true,(numT s).1.pcs),(false,[.int .i64 (numT s).2])]) | _=>none⟩
theorem vc_r3num (s:List UInt8):vcP [(40,sp_r3cut),(42,sp_r3count),(41,sp_r3strip),(43,sp_r3rows)] [] misc Tryz.f18 (annN s) [.one (.str s)] (.tup [(true,(numT s).1.pcs),(false,[.int .i64 (numT s).2])])=(letI v0:=(([]:List Itm)=[]∧([]:List Itm)=[]∧false=false∧([]:List Itm)=[]∧([]:List Itm)=[]∧(0:Int)=Num.mi (numT s).1∧(0:Int)=Num.xi (numT s).1∧(0:Int)=Num.mf (numT s).1∧(0:Int)=Num.xf (numT s).1∧(0:Int)=Num.ms (numT s).1∧(0:Int)=Num.xs (numT s).1∧(0:Int)=Num.pr (numT s).1∧(0:Int)=Num.sc (numT s).1∧[]=Num.inc (numT s).1∧false=Num.ps (numT s).1∧(0:Int)=Num.me (numT s).1∧false=Num.px (numT s).1∧(0:Int)=(0:Int)∧(0:Int)=(0:Int)∧(0:Int)=(0:Int)); letI v1:=(↑(List.length (szZ (RS.w (rs2 s)))):Int); letI v2:=(splitC (44:UInt8) (RS.w (rs2 s))); letI v3:=(↑(List.length (RS.w (rs3 s))):Int); letI v4:=(↑(List.length (Num.inc (RS.p (rs4 s)))):Int); letI v5:=(v0∧(8:Int)=(numT s).2); letI v6:=((0:Int)+(1:Int)+(1:Int)+(1:Int)+(1:Int)+(1:Int)+(1:Int)); letI v7:=(↑(cntC (64:Int) (RS.w (rs3 s))):Int); letI v8:=((0:Int)+(1:Int)+(1:Int)+(1:Int)+(1:Int)+(1:Int)); letI v9:=(v0∧(4:Int)=(numT s).2); letI v10:=((0:Int)+(1:Int)+(1:Int)+(1:Int)+(1:Int)); letI v11:=(↑(List.length (RS.w (rs2 s))):Int); letI v12:=((0:Int)≤(35:Int)∧(35:Int)<(256:Int)); letI v13:=((0:Int)+(1:Int)+(1:Int)+(1:Int)); letI v14:=(↑(List.length (cutI (69:Int) s).2.1):Int); letI v15:=(List.getD (szZ (RS.w (rs2 s))) (Int.toNat (v1-(1:Int))) (0:Int)); (List.length s≤(1000000000000:Nat)∧br (cutI (69:Int) s).2.2 (br (decide (v14>(0:Int))) (((0:Int)≤(0:Int)∧(0:Int)<v14)∧br (bAt (cutI (69:Int) s).2.1 (0:Int)==(43:Int)) (((0:Int)≤(1:Int)∧(1:Int)≤v14)∧∃ (j:PLift (numS s=true)),(cutI (69:Int) s).2.2=numS s∧(cutI (69:Int) s).1=numB s∧List.drop (Int.toNat (1:Int)) (cutI (69:Int) s).2.1=xt s∧EqL zsc [SC.nils,SC.nils,SC.ff,SC.nils,SC.nils,SC.int IntKind.i64 (0:Int),SC.int IntKind.i64 (0:Int),SC.int IntKind.i64 (0:Int),SC.int IntKind.i64 (0:Int),SC.int IntKind.i64 (0:Int),SC.int IntKind.i64 (0:Int),SC.int IntKind.i64 (0:Int),SC.int IntKind.i64 (0:Int),SC.str [],SC.ff,SC.int IntKind.i64 (0:Int),SC.ff,SC.int IntKind.i64 (0:Int),SC.int IntKind.i32 (0:Int),SC.int IntKind.i64 (0:Int)]∧EqL (Num.sc' (xp s)) [SC.nils,SC.nils,SC.ff,SC.nils,SC.nils,SC.int IntKind.i64 (0:Int),SC.int IntKind.i64 (0:Int),SC.int IntKind.i64 (0:Int),SC.int IntKind.i64 (0:Int),SC.int IntKind.i64 (0:Int),SC.int IntKind.i64 (0:Int),SC.int IntKind.i64 (0:Int),SC.int IntKind.i64 (0:Int),SC.str [],SC.ff,SC.int IntKind.i64 (0:Int),SC.tt,SC.int IntKind.i64 (0:Int),SC.int IntKind.i32 (0:Int),SC.int IntKind.i64 (0:Int)]) (∃ (j:PLift (numS s=true)),(cutI (69:Int) s).2.2=numS s∧(cutI (69:Int) s).1=numB s∧(cutI (69:Int) s).2.1=xt s∧EqL zsc [SC.nils,SC.nils,SC.ff,SC.nils,SC.nils,SC.int IntKind.i64 (0:Int),SC.int IntKind.i64 (0:Int),SC.int IntKind.i64 (0:Int),SC.int IntKind.i64 (0:Int),SC.int IntKind.i64 (0:Int),SC.int IntKind.i64 (0:Int),SC.int IntKind.i64 (0:Int),SC.int IntKind.i64 (0:Int),SC.str [],SC.ff,SC.int IntKind.i64 (0:Int),SC.ff,SC.int IntKind.i64 (0:Int),SC.int IntKind.i32 (0:Int),SC.int IntKind.i64 (0:Int)]∧EqL (Num.sc' (xp s)) [SC.nils,SC.nils,SC.ff,SC.nils,SC.nils,SC.int IntKind.i64 (0:Int),SC.int IntKind.i64 (0:Int),SC.int IntKind.i64 (0:Int),SC.int IntKind.i64 (0:Int),SC.int IntKind.i64 (0:Int),SC.int IntKind.i64 (0:Int),SC.int IntKind.i64 (0:Int),SC.int IntKind.i64 (0:Int),SC.str [],SC.ff,SC.int IntKind.i64 (0:Int),SC.ff,SC.int IntKind.i64 (0:Int),SC.int IntKind.i32 (0:Int),SC.int IntKind.i64 (0:Int)])) (∃ (j:PLift (numS s=true)),(cutI (69:Int) s).2.2=numS s∧(cutI (69:Int) s).1=numB s∧(cutI (69:Int) s).2.1=xt s∧EqL zsc [SC.nils,SC.nils,SC.ff,SC.nils,SC.nils,SC.int IntKind.i64 (0:Int),SC.int IntKind.i64 (0:Int),SC.int IntKind.i64 (0:Int),SC.int IntKind.i64 (0:Int),SC.int IntKind.i64 (0:Int),SC.int IntKind.i64 (0:Int),SC.int IntKind.i64 (0:Int),SC.int IntKind.i64 (0:Int),SC.str [],SC.ff,SC.int IntKind.i64 (0:Int),SC.ff,SC.int IntKind.i64 (0:Int),SC.int IntKind.i32 (0:Int),SC.int IntKind.i64 (0:Int)]∧EqL (Num.sc' (xp s)) [SC.nils,SC.nils,SC.ff,SC.nils,SC.nils,SC.int IntKind.i64 (0:Int),SC.int IntKind.i64 (0:Int),SC.int IntKind.i64 (0:Int),SC.int IntKind.i64 (0:Int),SC.int IntKind.i64 (0:Int),SC.int IntKind.i64 (0:Int),SC.int IntKind.i64 (0:Int),SC.int IntKind.i64 (0:Int),SC.str [],SC.ff,SC.int IntKind.i64 (0:Int),SC.ff,SC.int IntKind.i64 (0:Int),SC.int IntKind.i32 (0:Int),SC.int IntKind.i64 (0:Int)])∧∀ (j:PLift (numS s=true)),br (decide (xt s=Array.toList #[])) (∃ (j:Unit),numS s=numS s∧numB s=numB s∧xt s=xt s∧true=b7 s∧EqL zsc zsc∧EqL (Num.sc' (xp s)) (Num.sc' (xp s))) (List.length (xt s)≤(1000000000000:Nat)∧∃ (j:Unit),numS s=numS s∧numB s=numB s∧xt s=xt s∧(!decide (dropP (fun (x:Int)=>x==(48:Int)) (xt s)=Array.toList #[]))=b7 s∧EqL zsc zsc∧EqL (Num.sc' (xp s)) (Num.sc' (xp s)))∧∀ (j:Unit),br (b7 s) v9 (br (decide ((↑(List.length (xt s)):Int)>(9:Int))) v5 (∃ (j:PLift (RS.c (rs1 s)=(0:Int))),numS s=numS s∧numB s=numB s∧EqL zsc zsc∧EqL (Num.sc' (RS.p (rs1 s))) [SC.nils,SC.nils,SC.ff,SC.nils,SC.nils,SC.int IntKind.i64 (Num.mi (xp s)),SC.int IntKind.i64 (Num.xi (xp s)),SC.int IntKind.i64 (Num.mf (xp s)),SC.int IntKind.i64 (Num.xf (xp s)),SC.int IntKind.i64 (Num.ms (xp s)),SC.int IntKind.i64 (Num.xs (xp s)),SC.int IntKind.i64 (Num.pr (xp s)),SC.int IntKind.i64 (Num.sc (xp s)),SC.str (Num.inc (xp s)),SC.tt,SC.int IntKind.i64 (↑(List.length (xt s)):Int),SC.bool (Num.px (xp s)),SC.int IntKind.i64 (0:Int),SC.int IntKind.i32 (0:Int),SC.int IntKind.i64 (0:Int)]))) (∃ (j:PLift (RS.c (rs1 s)=(0:Int))),(cutI (69:Int) s).2.2=numS s∧(cutI (69:Int) s).1=numB s∧EqL zsc [SC.nils,SC.nils,SC.ff,SC.nils,SC.nils,SC.int IntKind.i64 (0:Int),SC.int IntKind.i64 (0:Int),SC.int IntKind.i64 (0:Int),SC.int IntKind.i64 (0:Int),SC.int IntKind.i64 (0:Int),SC.int IntKind.i64 (0:Int),SC.int IntKind.i64 (0:Int),SC.int IntKind.i64 (0:Int),SC.str [],SC.ff,SC.int IntKind.i64 (0:Int),SC.ff,SC.int IntKind.i64 (0:Int),SC.int IntKind.i32 (0:Int),SC.int IntKind.i64 (0:Int)]∧EqL (Num.sc' (RS.p (rs1 s))) [SC.nils,SC.nils,SC.ff,SC.nils,SC.nils,SC.int IntKind.i64 (0:Int),SC.int IntKind.i64 (0:Int),SC.int IntKind.i64 (0:Int),SC.int IntKind.i64 (0:Int),SC.int IntKind.i64 (0:Int),SC.int IntKind.i64 (0:Int),SC.int IntKind.i64 (0:Int),SC.int IntKind.i64 (0:Int),SC.str [],SC.ff,SC.int IntKind.i64 (0:Int),SC.ff,SC.int IntKind.i64 (0:Int),SC.int IntKind.i32 (0:Int),SC.int IntKind.i64 (0:Int)])∧∀ (j:PLift (RS.c (rs1 s)=(0:Int))),(letI v16:=(Num.sc' (RS.p (rs1 s))); letI v17:=(Num.sc' (RS.p (rs2 s))); letI v18:=(cutI (46:Int) (numB s)); letI v19:=(Num.sc' (RS.p (rs3 s))); letI v20:=(Num.sc' (RS.p (rs4 s))); letI v21:=((0:Int)+(1:Int)+(1:Int)); letI v22:=(RS.c (rs1 s)=(0:Int)∧anyP isOdd (numB s)=false); letI v23:=(v0∧(6:Int)=(numT s).2); letI v24:=(↑(List.length (wf s)):Int); letI v25:=((0:Int)≤(48:Int)∧(48:Int)<(256:Int)); ((∃ (x:OB s),numS s=numS s∧numB s=numB s∧(0:Int)=(↑(Subtype.val x):Int)∧EqL zsc zsc∧EqL v16 v16)∧∀ (x:OB s),(letI v26:=(↑(Subtype.val x):Int); br (decide (v26<(↑(List.length (numB s)):Int))) (((0:Int)≤v26∧v26<(↑(List.length (numB s)):Int))∧br (bAt (numB s) v26 != (35:Int)) (br (bAt (numB s) v26 != (64:Int)) (br (bAt (numB s) v26 != (44:Int)) (br (bAt (numB s) v26 != (46:Int)) (br (decide (bAt (numB s) v26<(48:Int))) (∃ (j:Unit),numS s=numS s∧numB s=numB s∧v26=v26∧true=isOdd (bAt (numB s) v26)∧EqL zsc zsc∧EqL v16 v16) (∃ (j:Unit),numS s=numS s∧numB s=numB s∧v26=v26∧decide (bAt (numB s) v26>(57:Int))=isOdd (bAt (numB s) v26)∧EqL zsc zsc∧EqL v16 v16)) (∃ (j:Unit),numS s=numS s∧numB s=numB s∧v26=v26∧false=isOdd (bAt (numB s) v26)∧EqL zsc zsc∧EqL v16 v16)) (∃ (j:Unit),numS s=numS s∧numB s=numB s∧v26=v26∧false=isOdd (bAt (numB s) v26)∧EqL zsc zsc∧EqL v16 v16)) (∃ (j:Unit),numS s=numS s∧numB s=numB s∧v26=v26∧false=isOdd (bAt (numB s) v26)∧EqL zsc zsc∧EqL v16 v16)) (∃ (j:Unit),numS s=numS s∧numB s=numB s∧v26=v26∧false=isOdd (bAt (numB s) v26)∧EqL zsc zsc∧EqL v16 v16)∧∀ (j:Unit),br (isOdd (bAt (numB s) v26)) v9 (inR IntKind.i64 (v26+(1:Int))∧∃ (x':OB s),(numS s=numS s∧numB s=numB s∧v26+(1:Int)=(↑(Subtype.val x'):Int)∧EqL zsc zsc∧EqL v16 v16)∧List.length (numB s)-Subtype.val x'<List.length (numB s)-Subtype.val x)) (∃ (j:PLift v22),numS s=numS s∧numB s=numB s∧EqL zsc zsc∧EqL v16 v16)))∧∀ (j:PLift v22),List.length (numB s)≤(1000000000000:Nat)∧(List.length v18.2.1≤(1000000000000:Nat)∧br (decide ((↑(cntC (46:Int) v18.2.1):Int)>(0:Int))) (∃ (j:Unit),numS s=numS s∧v18.1=bw s∧v18.2.1=bf s∧v18.2.2=bp s∧true=b19 s∧EqL zsc zsc∧EqL v16 v16) (br v18.2.2 (∃ (j:Unit),numS s=numS s∧v18.1=bw s∧v18.2.1=bf s∧v18.2.2=bp s∧decide (v18.2.1=Array.toList #[])=b19 s∧EqL zsc zsc∧EqL v16 v16) (∃ (j:Unit),numS s=numS s∧v18.1=bw s∧v18.2.1=bf s∧v18.2.2=bp s∧false=b19 s∧EqL zsc zsc∧EqL v16 v16)))∧∀ (j:Unit),br (b19 s) v9 ((List.length (bf s)≤(1000000000000:Nat)∧br (decide ((↑(cntC (44:Int) (bf s)):Int)>(0:Int))) (v0∧(5:Int)=(numT s).2) (∃ (j:PLift (N23 s)),numS s=numS s∧bw s=RS.w (rs2 s)∧bf s=RS.f (rs2 s)∧bp s=RS.pt (rs2 s)∧EqL zsc zsc∧EqL v17 v16))∧∀ (j:PLift (N23 s)),((∃ (x:E27 s),numS s=numS s∧RS.w (rs2 s)=RS.w (rs2 s)∧RS.f (rs2 s)=RS.f (rs2 s)∧RS.pt (rs2 s)=RS.pt (rs2 s)∧Array.toList #[]=E27.pl x∧(0:Int)=E27.n x∧(0:Int)=(↑(E27.i x):Int)∧EqL zsc zsc∧EqL v17 v17∧E27.ps x=[])∧∀ (x:E27 s),(letI v27:=((↑(E27.i x):Int)+(1:Int)); br (decide ((↑(E27.i x):Int)≤v11)) (br (decide ((↑(E27.i x):Int)<v11)) (((0:Int)≤(↑(E27.i x):Int)∧(↑(E27.i x):Int)<v11)∧∃ (j:Unit),numS s=numS s∧RS.w (rs2 s)=RS.w (rs2 s)∧RS.f (rs2 s)=RS.f (rs2 s)∧RS.pt (rs2 s)=RS.pt (rs2 s)∧E27.pl x=E27.pl x∧E27.n x=E27.n x∧(↑(E27.i x):Int)=(↑(E27.i x):Int)∧(bAt (RS.w (rs2 s)) (↑(E27.i x):Int) != (44:Int))=b29 s (E27.i x)∧EqL zsc zsc∧EqL v17 v17∧E27.ps x=E27.ps x) (∃ (j:Unit),numS s=numS s∧RS.w (rs2 s)=RS.w (rs2 s)∧RS.f (rs2 s)=RS.f (rs2 s)∧RS.pt (rs2 s)=RS.pt (rs2 s)∧E27.pl x=E27.pl x∧E27.n x=E27.n x∧(↑(E27.i x):Int)=(↑(E27.i x):Int)∧false=b29 s (E27.i x)∧EqL zsc zsc∧EqL v17 v17∧E27.ps x=E27.ps x)∧∀ (j:Unit),br (b29 s (E27.i x)) (inR IntKind.i64 v27∧((0:Int)≤(↑(E27.i x):Int)∧(↑(E27.i x):Int)≤(↑(E27.i x):Int)+(1:Int)∧(↑(E27.i x):Int)+(1:Int)≤v11)∧List.length (E27.pl x)+List.length (List.drop (Int.toNat (↑(E27.i x):Int)) (List.take (Int.toNat v27) (RS.w (rs2 s))))≤(9223372036854775807:Nat)∧inR IntKind.i64 (E27.n x+(1:Int))∧inR IntKind.i64 v27∧∃ (x':E27 s),(numS s=numS s∧RS.w (rs2 s)=RS.w (rs2 s)∧RS.f (rs2 s)=RS.f (rs2 s)∧RS.pt (rs2 s)=RS.pt (rs2 s)∧E27.pl x++List.drop (Int.toNat (↑(E27.i x):Int)) (List.take (Int.toNat v27) (RS.w (rs2 s)))=E27.pl x'∧E27.n x+(1:Int)=E27.n x'∧(↑(E27.i x):Int)+(1:Int)=(↑(E27.i x'):Int)∧EqL zsc zsc∧EqL v17 v17∧E27.ps x=E27.ps x')∧List.length (RS.w (rs2 s))+(1:Nat)-E27.i x'<List.length (RS.w (rs2 s))+(1:Nat)-E27.i x) ((List.length (E27.ps x)+(1:Nat))*(8:Nat)≤(140737488355328:Nat)∧inR IntKind.i64 v27∧∃ (x':E27 s),(numS s=numS s∧RS.w (rs2 s)=RS.w (rs2 s)∧RS.f (rs2 s)=RS.f (rs2 s)∧RS.pt (rs2 s)=RS.pt (rs2 s)∧E27.pl x=E27.pl x'∧(0:Int)=E27.n x'∧(↑(E27.i x):Int)+(1:Int)=(↑(E27.i x'):Int)∧EqL zsc zsc∧EqL v17 v17∧E27.ps x++[E27.n x]=E27.ps x')∧List.length (RS.w (rs2 s))+(1:Nat)-E27.i x'<List.length (RS.w (rs2 s))+(1:Nat)-E27.i x)) (∃ (j:PLift (N23 s)),numS s=numS s∧RS.w (rs2 s)=RS.w (rs2 s)∧RS.f (rs2 s)=RS.f (rs2 s)∧RS.pt (rs2 s)=RS.pt (rs2 s)∧E27.pl x=List.flatten v2∧EqL zsc zsc∧EqL v17 v17∧E27.ps x=szZ (RS.w (rs2 s)))))∧∀ (j:PLift (N23 s)),((∃ (x:I35 s),numS s=numS s∧RS.w (rs2 s)=RS.w (rs2 s)∧RS.f (rs2 s)=RS.f (rs2 s)∧RS.pt (rs2 s)=RS.pt (rs2 s)∧List.flatten v2=List.flatten v2∧(0:Int)=(↑(Subtype.val x):Int)∧EqL zsc zsc∧EqL v17 v17∧szZ (RS.w (rs2 s))=szZ (RS.w (rs2 s)))∧∀ (x:I35 s),(letI v28:=(↑(Subtype.val x):Int); br (decide (v28<v1)) (br (decide (v1>(1:Int))) (((0:Int)≤v28∧v28<v1)∧Int.toNat v28<List.length (szZ (RS.w (rs2 s)))∧∃ (j:Unit),numS s=numS s∧RS.w (rs2 s)=RS.w (rs2 s)∧RS.f (rs2 s)=RS.f (rs2 s)∧RS.pt (rs2 s)=RS.pt (rs2 s)∧List.flatten v2=List.flatten v2∧v28=v28∧(List.getD (szZ (RS.w (rs2 s))) (Int.toNat v28) (0:Int)==(0:Int))=b37 s (Subtype.val x)∧EqL zsc zsc∧EqL v17 v17∧szZ (RS.w (rs2 s))=szZ (RS.w (rs2 s))) (∃ (j:Unit),numS s=numS s∧RS.w (rs2 s)=RS.w (rs2 s)∧RS.f (rs2 s)=RS.f (rs2 s)∧RS.pt (rs2 s)=RS.pt (rs2 s)∧List.flatten v2=List.flatten v2∧v28=v28∧false=b37 s (Subtype.val x)∧EqL zsc zsc∧EqL v17 v17∧szZ (RS.w (rs2 s))=szZ (RS.w (rs2 s)))∧∀ (j:Unit),br (b37 s (Subtype.val x)) (v0∧(5:Int)=(numT s).2) (inR IntKind.i64 (v28+(1:Int))∧∃ (x':I35 s),(numS s=numS s∧RS.w (rs2 s)=RS.w (rs2 s)∧RS.f (rs2 s)=RS.f (rs2 s)∧RS.pt (rs2 s)=RS.pt (rs2 s)∧List.flatten v2=List.flatten v2∧v28+(1:Int)=(↑(Subtype.val x'):Int)∧EqL zsc zsc∧EqL v17 v17∧szZ (RS.w (rs2 s))=szZ (RS.w (rs2 s)))∧List.length (szZ (RS.w (rs2 s)))-Subtype.val x'<List.length (szZ (RS.w (rs2 s)))-Subtype.val x)) (∃ (j:PLift (emptyIn v2=false)),numS s=numS s∧RS.w (rs2 s)=RS.w (rs2 s)∧RS.f (rs2 s)=RS.f (rs2 s)∧RS.pt (rs2 s)=RS.pt (rs2 s)∧List.flatten v2=List.flatten v2∧EqL zsc zsc∧EqL v17 v17∧szZ (RS.w (rs2 s))=szZ (RS.w (rs2 s)))))∧∀ (j:PLift (emptyIn v2=false)),br (decide (v1>(1:Int))) (inR IntKind.i64 (v1-(1:Int))∧((0:Int)≤v1-(1:Int)∧v1-(1:Int)<v1)∧Int.toNat (v1-(1:Int))<List.length (szZ (RS.w (rs2 s)))∧inR IntKind.i64 (v1-(1:Int))∧((0:Int)≤v1-(1:Int)∧v1-(1:Int)<v1)∧Int.toNat (v1-(1:Int))<List.length (szZ (RS.w (rs2 s)))∧∃ (j:PLift (emptyIn v2=false)),numS s=numS s∧RS.w (rs2 s)=RS.w (rs2 s)∧RS.f (rs2 s)=RS.f (rs2 s)∧RS.pt (rs2 s)=RS.pt (rs2 s)∧List.flatten v2=List.flatten v2∧EqL zsc zsc∧EqL (Num.sc' (g1 s)) [SC.nils,SC.nils,SC.ff,SC.nils,SC.nils,SC.int IntKind.i64 (Num.mi (RS.p (rs2 s))),SC.int IntKind.i64 (Num.xi (RS.p (rs2 s))),SC.int IntKind.i64 (Num.mf (RS.p (rs2 s))),SC.int IntKind.i64 (Num.xf (RS.p (rs2 s))),SC.int IntKind.i64 (Num.ms (RS.p (rs2 s))),SC.int IntKind.i64 (Num.xs (RS.p (rs2 s))),SC.int IntKind.i64 v15,SC.int IntKind.i64 v15,SC.str (Num.inc (RS.p (rs2 s))),SC.bool (Num.ps (RS.p (rs2 s))),SC.int IntKind.i64 (Num.me (RS.p (rs2 s))),SC.bool (Num.px (RS.p (rs2 s))),SC.int IntKind.i64 (0:Int),SC.int IntKind.i32 (0:Int),SC.int IntKind.i64 (0:Int)]∧szZ (RS.w (rs2 s))=szZ (RS.w (rs2 s))) (∃ (j:PLift (emptyIn v2=false)),numS s=numS s∧RS.w (rs2 s)=RS.w (rs2 s)∧RS.f (rs2 s)=RS.f (rs2 s)∧RS.pt (rs2 s)=RS.pt (rs2 s)∧List.flatten v2=List.flatten v2∧EqL zsc zsc∧EqL (Num.sc' (g1 s)) v17∧szZ (RS.w (rs2 s))=szZ (RS.w (rs2 s)))∧∀ (j:PLift (emptyIn v2=false)),br (decide (v1>(2:Int))) (inR IntKind.i64 (v1-(2:Int))∧((0:Int)≤v1-(2:Int)∧v1-(2:Int)<v1)∧Int.toNat (v1-(2:Int))<List.length (szZ (RS.w (rs2 s)))∧∃ (j:PLift (N43 s)),numS s=numS s∧List.flatten v2=RS.w (rs3 s)∧RS.f (rs2 s)=RS.f (rs3 s)∧RS.pt (rs2 s)=RS.pt (rs3 s)∧EqL zsc zsc∧EqL v19 [SC.nils,SC.nils,SC.ff,SC.nils,SC.nils,SC.int IntKind.i64 (Num.mi (g1 s)),SC.int IntKind.i64 (Num.xi (g1 s)),SC.int IntKind.i64 (Num.mf (g1 s)),SC.int IntKind.i64 (Num.xf (g1 s)),SC.int IntKind.i64 (Num.ms (g1 s)),SC.int IntKind.i64 (Num.xs (g1 s)),SC.int IntKind.i64 (Num.pr (g1 s)),SC.int IntKind.i64 (List.getD (szZ (RS.w (rs2 s))) (Int.toNat (v1-(2:Int))) (0:Int)),SC.str (Num.inc (g1 s)),SC.bool (Num.ps (g1 s)),SC.int IntKind.i64 (Num.me (g1 s)),SC.bool (Num.px (g1 s)),SC.int IntKind.i64 (0:Int),SC.int IntKind.i32 (0:Int),SC.int IntKind.i64 (0:Int)]∧szZ (RS.w (rs2 s))=szZ (RS.w (rs2 s))) (∃ (j:PLift (N43 s)),numS s=numS s∧List.flatten v2=RS.w (rs3 s)∧RS.f (rs2 s)=RS.f (rs3 s)∧RS.pt (rs2 s)=RS.pt (rs3 s)∧EqL zsc zsc∧EqL v19 (Num.sc' (g1 s))∧szZ (RS.w (rs2 s))=szZ (RS.w (rs2 s)))∧∀ (j:PLift (N43 s)),List.length (RS.w (rs3 s))+List.length (RS.f (rs3 s))≤(9223372036854775807:Nat)∧br (decide (RS.w (rs3 s)++RS.f (rs3 s)=Array.toList #[])) v9 ((List.length (RS.w (rs3 s)++RS.f (rs3 s))≤(1000000000000:Nat)∧br (decide ((↑(cntC (64:Int) (RS.w (rs3 s)++RS.f (rs3 s))):Int)>(0:Int))) (br (RS.pt (rs3 s)) (∃ (j:Unit),numS s=numS s∧RS.w (rs3 s)=RS.w (rs3 s)∧RS.f (rs3 s)=RS.f (rs3 s)∧RS.pt (rs3 s)=RS.pt (rs3 s)∧true=b47 s∧EqL zsc zsc∧EqL v19 v19∧szZ (RS.w (rs2 s))=szZ (RS.w (rs2 s))) (List.length (RS.w (rs3 s))≤(1000000000000:Nat)∧∃ (j:Unit),numS s=numS s∧RS.w (rs3 s)=RS.w (rs3 s)∧RS.f (rs3 s)=RS.f (rs3 s)∧RS.pt (rs3 s)=RS.pt (rs3 s)∧decide ((↑(cntC (48:Int) (RS.w (rs3 s))):Int)>(0:Int))=b47 s∧EqL zsc zsc∧EqL v19 v19∧szZ (RS.w (rs2 s))=szZ (RS.w (rs2 s)))∧∀ (j:Unit),br (b47 s) v23 ((List.length (RS.w (rs3 s))≤(1000000000000:Nat)∧(v12∧((0:Int)≤(64:Int)∧(64:Int)<(256:Int))∧(0:Int)≤(35:Int)∧(35:Int)<(256:Int))∧br (!decide (rowsF (35:Int) (64:Int) (35:Int) (0:Nat) (RS.w (rs3 s))=[])) v9 (∃ (j:PLift (N51 s)),numS s=numS s∧RS.w (rs3 s)=RS.w (rs3 s)∧RS.f (rs3 s)=RS.f (rs3 s)∧RS.pt (rs3 s)=RS.pt (rs3 s)∧EqL zsc zsc∧EqL v19 v19∧szZ (RS.w (rs2 s))=szZ (RS.w (rs2 s))))∧∀ (j:PLift (N51 s)),List.length (RS.w (rs3 s))≤(1000000000000:Nat)∧(∃ (x:J53 s),numS s=numS s∧RS.w (rs3 s)=RS.w (rs3 s)∧RS.f (rs3 s)=RS.f (rs3 s)∧RS.pt (rs3 s)=RS.pt (rs3 s)∧EqL zsc zsc∧EqL (Num.sc' { mi:=Num.mi (RS.p (rs3 s)),xi:=Num.xi (RS.p (rs3 s)),mf:=Num.mf (RS.p (rs3 s)),xf:=Num.xf (RS.p (rs3 s)),ms:=v7,xs:=v3-(↑(Subtype.val x):Int),pr:=Num.pr (RS.p (rs3 s)),sc:=Num.sc (RS.p (rs3 s)),inc:=Num.inc (RS.p (rs3 s)),ps:=Num.ps (RS.p (rs3 s)),me:=Num.me (RS.p (rs3 s)),px:=Num.px (RS.p (rs3 s)) }) [SC.nils,SC.nils,SC.ff,SC.nils,SC.nils,SC.int IntKind.i64 (Num.mi (RS.p (rs3 s))),SC.int IntKind.i64 (Num.xi (RS.p (rs3 s))),SC.int IntKind.i64 (Num.mf (RS.p (rs3 s))),SC.int IntKind.i64 (Num.xf (RS.p (rs3 s))),SC.int IntKind.i64 v7,SC.int IntKind.i64 v3,SC.int IntKind.i64 (Num.pr (RS.p (rs3 s))),SC.int IntKind.i64 (Num.sc (RS.p (rs3 s))),SC.str (Num.inc (RS.p (rs3 s))),SC.bool (Num.ps (RS.p (rs3 s))),SC.int IntKind.i64 (Num.me (RS.p (rs3 s))),SC.bool (Num.px (RS.p (rs3 s))),SC.int IntKind.i64 (0:Int),SC.int IntKind.i32 (0:Int),SC.int IntKind.i64 (0:Int)]∧szZ (RS.w (rs2 s))=szZ (RS.w (rs2 s)))∧∀ (x:J53 s),(letI v29:=(↑(Subtype.val x):Int); inR IntKind.i64 (v3-(v3-v29))∧((0:Int)≤v3-(v3-v29)∧v3-(v3-v29)<v3)∧br (bAt (RS.w (rs3 s)) (v3-(v3-v29))==(35:Int)) (inR IntKind.i64 (v3-v29-(1:Int))∧∃ (x':J53 s),(numS s=numS s∧RS.w (rs3 s)=RS.w (rs3 s)∧RS.f (rs3 s)=RS.f (rs3 s)∧RS.pt (rs3 s)=RS.pt (rs3 s)∧EqL zsc zsc∧EqL (Num.sc' { mi:=Num.mi (RS.p (rs3 s)),xi:=Num.xi (RS.p (rs3 s)),mf:=Num.mf (RS.p (rs3 s)),xf:=Num.xf (RS.p (rs3 s)),ms:=v7,xs:=v3-(↑(Subtype.val x'):Int),pr:=Num.pr (RS.p (rs3 s)),sc:=Num.sc (RS.p (rs3 s)),inc:=Num.inc (RS.p (rs3 s)),ps:=Num.ps (RS.p (rs3 s)),me:=Num.me (RS.p (rs3 s)),px:=Num.px (RS.p (rs3 s)) }) [SC.nils,SC.nils,SC.ff,SC.nils,SC.nils,SC.int IntKind.i64 (Num.mi (RS.p (rs3 s))),SC.int IntKind.i64 (Num.xi (RS.p (rs3 s))),SC.int IntKind.i64 (Num.mf (RS.p (rs3 s))),SC.int IntKind.i64 (Num.xf (RS.p (rs3 s))),SC.int IntKind.i64 v7,SC.int IntKind.i64 (v3-v29-(1:Int)),SC.int IntKind.i64 (Num.pr (RS.p (rs3 s))),SC.int IntKind.i64 (Num.sc (RS.p (rs3 s))),SC.str (Num.inc (RS.p (rs3 s))),SC.bool (Num.ps (RS.p (rs3 s))),SC.int IntKind.i64 (Num.me (RS.p (rs3 s))),SC.bool (Num.px (RS.p (rs3 s))),SC.int IntKind.i64 (0:Int),SC.int IntKind.i32 (0:Int),SC.int IntKind.i64 (0:Int)]∧szZ (RS.w (rs2 s))=szZ (RS.w (rs2 s)))∧List.length (RS.w (rs3 s))-Subtype.val x'<List.length (RS.w (rs3 s))-Subtype.val x) (∃ (j:PLift (N69 s)),numS s=numS s∧RS.w (rs3 s)=RS.w (rs3 s)∧RS.f (rs3 s)=RS.f (rs3 s)∧RS.pt (rs3 s)=RS.pt (rs3 s)∧EqL zsc zsc∧EqL v20 (Num.sc' { mi:=Num.mi (RS.p (rs3 s)),xi:=Num.xi (RS.p (rs3 s)),mf:=Num.mf (RS.p (rs3 s)),xf:=Num.xf (RS.p (rs3 s)),ms:=v7,xs:=v3-v29,pr:=Num.pr (RS.p (rs3 s)),sc:=Num.sc (RS.p (rs3 s)),inc:=Num.inc (RS.p (rs3 s)),ps:=Num.ps (RS.p (rs3 s)),me:=Num.me (RS.p (rs3 s)),px:=Num.px (RS.p (rs3 s)) })∧szZ (RS.w (rs2 s))=szZ (RS.w (rs2 s)))))) (((List.length (RS.w (rs3 s))≤(1000000000000:Nat)∧(v12∧v25∧(0:Int)≤(48:Int)∧(48:Int)<(256:Int))∧br (!decide (rowsF (35:Int) (48:Int) (48:Int) (0:Nat) (RS.w (rs3 s))=[])) (∃ (j:Unit),numS s=numS s∧RS.w (rs3 s)=RS.w (rs3 s)∧RS.f (rs3 s)=RS.f (rs3 s)∧RS.pt (rs3 s)=RS.pt (rs3 s)∧RS.w (rs3 s)++RS.f (rs3 s)=wf s∧true=b55 s∧EqL zsc zsc∧EqL v19 v19∧szZ (RS.w (rs2 s))=szZ (RS.w (rs2 s))) (List.length (RS.f (rs3 s))≤(1000000000000:Nat)∧(v25∧v12∧(0:Int)≤(35:Int)∧(35:Int)<(256:Int))∧∃ (j:Unit),numS s=numS s∧RS.w (rs3 s)=RS.w (rs3 s)∧RS.f (rs3 s)=RS.f (rs3 s)∧RS.pt (rs3 s)=RS.pt (rs3 s)∧RS.w (rs3 s)++RS.f (rs3 s)=wf s∧(!decide (rowsF (48:Int) (35:Int) (35:Int) (0:Nat) (RS.f (rs3 s))=[]))=b55 s∧EqL zsc zsc∧EqL v19 v19∧szZ (RS.w (rs2 s))=szZ (RS.w (rs2 s))))∧∀ (j:Unit),br (b55 s) v9 (∃ (j:PLift (N57 s)),numS s=numS s∧RS.w (rs3 s)=RS.w (rs3 s)∧RS.f (rs3 s)=RS.f (rs3 s)∧RS.pt (rs3 s)=RS.pt (rs3 s)∧wf s=wf s∧EqL zsc zsc∧EqL v19 v19∧szZ (RS.w (rs2 s))=szZ (RS.w (rs2 s))))∧∀ (j:PLift (N57 s)),List.length (RS.w (rs3 s))≤(1000000000000:Nat)∧List.length (RS.f (rs3 s))≤(1000000000000:Nat)∧((∃ (x:Upto (wf s)),numS s=numS s∧RS.w (rs3 s)=RS.w (rs3 s)∧RS.f (rs3 s)=RS.f (rs3 s)∧RS.pt (rs3 s)=RS.pt (rs3 s)∧wf s=wf s∧Array.toList #[]=flt (List.take (Subtype.val x) (wf s))∧(0:Int)=(↑(Subtype.val x):Int)∧EqL zsc zsc∧EqL (Num.sc' (dg1 s)) [SC.nils,SC.nils,SC.ff,SC.nils,SC.nils,SC.int IntKind.i64 (↑(cntC (48:Int) (RS.w (rs3 s))):Int),SC.int IntKind.i64 (Num.xi (RS.p (rs3 s))),SC.int IntKind.i64 (↑(cntC (48:Int) (RS.f (rs3 s))):Int),SC.int IntKind.i64 (↑(List.length (RS.f (rs3 s))):Int),SC.int IntKind.i64 (Num.ms (RS.p (rs3 s))),SC.int IntKind.i64 (Num.xs (RS.p (rs3 s))),SC.int IntKind.i64 (Num.pr (RS.p (rs3 s))),SC.int IntKind.i64 (Num.sc (RS.p (rs3 s))),SC.str (Num.inc (RS.p (rs3 s))),SC.bool (Num.ps (RS.p (rs3 s))),SC.int IntKind.i64 (Num.me (RS.p (rs3 s))),SC.bool (Num.px (RS.p (rs3 s))),SC.int IntKind.i64 (0:Int),SC.int IntKind.i32 (0:Int),SC.int IntKind.i64 (0:Int)]∧szZ (RS.w (rs2 s))=szZ (RS.w (rs2 s)))∧∀ (x:Upto (wf s)),(letI v30:=(↑(Subtype.val x):Int); letI v31:=(List.take (Subtype.val x) (wf s)); br (decide (v30<v24)) (((0:Int)≤v30∧v30<v24)∧br (bAt (wf s) v30 != (35:Int)) (inR IntKind.i64 (v30+(1:Int))∧((0:Int)≤v30∧v30≤v30+(1:Int)∧v30+(1:Int)≤v24)∧List.length (flt v31)+List.length (List.drop (Int.toNat v30) (List.take (Int.toNat (v30+(1:Int))) (wf s)))≤(9223372036854775807:Nat)∧inR IntKind.i64 (v30+(1:Int))∧∃ (x':Upto (wf s)),(numS s=numS s∧RS.w (rs3 s)=RS.w (rs3 s)∧RS.f (rs3 s)=RS.f (rs3 s)∧RS.pt (rs3 s)=RS.pt (rs3 s)∧wf s=wf s∧flt v31++List.drop (Int.toNat v30) (List.take (Int.toNat (v30+(1:Int))) (wf s))=flt (List.take (Subtype.val x') (wf s))∧v30+(1:Int)=(↑(Subtype.val x'):Int)∧EqL zsc zsc∧EqL (Num.sc' (dg1 s)) (Num.sc' (dg1 s))∧szZ (RS.w (rs2 s))=szZ (RS.w (rs2 s)))∧List.length (wf s)-Subtype.val x'<List.length (wf s)-Subtype.val x) (inR IntKind.i64 (v30+(1:Int))∧∃ (x':Upto (wf s)),(numS s=numS s∧RS.w (rs3 s)=RS.w (rs3 s)∧RS.f (rs3 s)=RS.f (rs3 s)∧RS.pt (rs3 s)=RS.pt (rs3 s)∧wf s=wf s∧flt v31=flt (List.take (Subtype.val x') (wf s))∧v30+(1:Int)=(↑(Subtype.val x'):Int)∧EqL zsc zsc∧EqL (Num.sc' (dg1 s)) (Num.sc' (dg1 s))∧szZ (RS.w (rs2 s))=szZ (RS.w (rs2 s)))∧List.length (wf s)-Subtype.val x'<List.length (wf s)-Subtype.val x)) (∃ (j:PLift (N57 s)),numS s=numS s∧RS.w (rs3 s)=RS.w (rs3 s)∧RS.f (rs3 s)=RS.f (rs3 s)∧RS.pt (rs3 s)=RS.pt (rs3 s)∧flt v31=flt (wf s)∧EqL zsc zsc∧EqL (Num.sc' (dg1 s)) (Num.sc' (dg1 s))∧szZ (RS.w (rs2 s))=szZ (RS.w (rs2 s)))))∧∀ (j:PLift (N57 s)),List.length (flt (wf s))≤(1000000000000:Nat)∧br (!decide (dropP (fun (x:Int)=>x==(48:Int)) (flt (wf s))=Array.toList #[])) (br (decide (Num.mf (dg1 s)<Num.xf (dg1 s))) (∃ (j:Unit),numS s=numS s∧RS.w (rs3 s)=RS.w (rs3 s)∧RS.f (rs3 s)=RS.f (rs3 s)∧RS.pt (rs3 s)=RS.pt (rs3 s)∧true=b65 s∧EqL zsc zsc∧EqL (Num.sc' (dg2 s)) [SC.nils,SC.nils,SC.ff,SC.nils,SC.nils,SC.int IntKind.i64 (Num.mi (dg1 s)),SC.int IntKind.i64 (Num.xi (dg1 s)),SC.int IntKind.i64 (Num.mf (dg1 s)),SC.int IntKind.i64 (Num.xf (dg1 s)),SC.int IntKind.i64 (Num.ms (dg1 s)),SC.int IntKind.i64 (Num.xs (dg1 s)),SC.int IntKind.i64 (Num.pr (dg1 s)),SC.int IntKind.i64 (Num.sc (dg1 s)),SC.str (dropP (fun (x:Int)=>x==(48:Int)) (flt (wf s))),SC.bool (Num.ps (dg1 s)),SC.int IntKind.i64 (Num.me (dg1 s)),SC.bool (Num.px (dg1 s)),SC.int IntKind.i64 (0:Int),SC.int IntKind.i32 (0:Int),SC.int IntKind.i64 (0:Int)]∧szZ (RS.w (rs2 s))=szZ (RS.w (rs2 s))) (∃ (j:Unit),numS s=numS s∧RS.w (rs3 s)=RS.w (rs3 s)∧RS.f (rs3 s)=RS.f (rs3 s)∧RS.pt (rs3 s)=RS.pt (rs3 s)∧numS s=b65 s∧EqL zsc zsc∧EqL (Num.sc' (dg2 s)) [SC.nils,SC.nils,SC.ff,SC.nils,SC.nils,SC.int IntKind.i64 (Num.mi (dg1 s)),SC.int IntKind.i64 (Num.xi (dg1 s)),SC.int IntKind.i64 (Num.mf (dg1 s)),SC.int IntKind.i64 (Num.xf (dg1 s)),SC.int IntKind.i64 (Num.ms (dg1 s)),SC.int IntKind.i64 (Num.xs (dg1 s)),SC.int IntKind.i64 (Num.pr (dg1 s)),SC.int IntKind.i64 (Num.sc (dg1 s)),SC.str (dropP (fun (x:Int)=>x==(48:Int)) (flt (wf s))),SC.bool (Num.ps (dg1 s)),SC.int IntKind.i64 (Num.me (dg1 s)),SC.bool (Num.px (dg1 s)),SC.int IntKind.i64 (0:Int),SC.int IntKind.i32 (0:Int),SC.int IntKind.i64 (0:Int)]∧szZ (RS.w (rs2 s))=szZ (RS.w (rs2 s)))) (∃ (j:Unit),numS s=numS s∧RS.w (rs3 s)=RS.w (rs3 s)∧RS.f (rs3 s)=RS.f (rs3 s)∧RS.pt (rs3 s)=RS.pt (rs3 s)∧false=b65 s∧EqL zsc zsc∧EqL (Num.sc' (dg2 s)) [SC.nils,SC.nils,SC.ff,SC.nils,SC.nils,SC.int IntKind.i64 (Num.mi (dg1 s)),SC.int IntKind.i64 (Num.xi (dg1 s)),SC.int IntKind.i64 (Num.mf (dg1 s)),SC.int IntKind.i64 (Num.xf (dg1 s)),SC.int IntKind.i64 (Num.ms (dg1 s)),SC.int IntKind.i64 (Num.xs (dg1 s)),SC.int IntKind.i64 (Num.pr (dg1 s)),SC.int IntKind.i64 (Num.sc (dg1 s)),SC.str (dropP (fun (x:Int)=>x==(48:Int)) (flt (wf s))),SC.bool (Num.ps (dg1 s)),SC.int IntKind.i64 (Num.me (dg1 s)),SC.bool (Num.px (dg1 s)),SC.int IntKind.i64 (0:Int),SC.int IntKind.i32 (0:Int),SC.int IntKind.i64 (0:Int)]∧szZ (RS.w (rs2 s))=szZ (RS.w (rs2 s)))∧∀ (j:Unit),br (b65 s) v23 (br (numS s) (∃ (j:PLift (N69 s)),numS s=numS s∧RS.w (rs3 s)=RS.w (rs3 s)∧RS.f (rs3 s)=RS.f (rs3 s)∧RS.pt (rs3 s)=RS.pt (rs3 s)∧EqL zsc zsc∧EqL v20 [SC.nils,SC.nils,SC.ff,SC.nils,SC.nils,SC.int IntKind.i64 (Num.mi (dg2 s)),SC.int IntKind.i64 v3,SC.int IntKind.i64 (Num.mf (dg2 s)),SC.int IntKind.i64 (Num.xf (dg2 s)),SC.int IntKind.i64 (Num.ms (dg2 s)),SC.int IntKind.i64 (Num.xs (dg2 s)),SC.int IntKind.i64 (Num.pr (dg2 s)),SC.int IntKind.i64 (Num.sc (dg2 s)),SC.str (Num.inc (dg2 s)),SC.bool (Num.ps (dg2 s)),SC.int IntKind.i64 (Num.me (dg2 s)),SC.bool (Num.px (dg2 s)),SC.int IntKind.i64 (0:Int),SC.int IntKind.i32 (0:Int),SC.int IntKind.i64 (0:Int)]∧szZ (RS.w (rs2 s))=szZ (RS.w (rs2 s))) (∃ (j:PLift (N69 s)),numS s=numS s∧RS.w (rs3 s)=RS.w (rs3 s)∧RS.f (rs3 s)=RS.f (rs3 s)∧RS.pt (rs3 s)=RS.pt (rs3 s)∧EqL zsc zsc∧EqL v20 (Num.sc' (dg2 s))∧szZ (RS.w (rs2 s))=szZ (RS.w (rs2 s))))))∧∀ (j:PLift (N69 s)),(br (numS s) (br (decide (v1>(1:Int))) (∃ (j:Unit),numS s=numS s∧RS.w (rs3 s)=RS.w (rs3 s)∧RS.f (rs3 s)=RS.f (rs3 s)∧RS.pt (rs3 s)=RS.pt (rs3 s)∧true=b69 s∧EqL zsc zsc∧EqL v20 v20∧szZ (RS.w (rs2 s))=szZ (RS.w (rs2 s))) (br (decide (Num.ms (RS.p (rs4 s))>(0:Int))) (((0:Int)≤(0:Int)∧(0:Int)<v3)∧∃ (j:Unit),numS s=numS s∧RS.w (rs3 s)=RS.w (rs3 s)∧RS.f (rs3 s)=RS.f (rs3 s)∧RS.pt (rs3 s)=RS.pt (rs3 s)∧(bAt (RS.w (rs3 s)) (0:Int)==(35:Int))=b69 s∧EqL zsc zsc∧EqL v20 v20∧szZ (RS.w (rs2 s))=szZ (RS.w (rs2 s))) (∃ (j:Unit),numS s=numS s∧RS.w (rs3 s)=RS.w (rs3 s)∧RS.f (rs3 s)=RS.f (rs3 s)∧RS.pt (rs3 s)=RS.pt (rs3 s)∧false=b69 s∧EqL zsc zsc∧EqL v20 v20∧szZ (RS.w (rs2 s))=szZ (RS.w (rs2 s))))) (∃ (j:Unit),numS s=numS s∧RS.w (rs3 s)=RS.w (rs3 s)∧RS.f (rs3 s)=RS.f (rs3 s)∧RS.pt (rs3 s)=RS.pt (rs3 s)∧false=b69 s∧EqL zsc zsc∧EqL v20 v20∧szZ (RS.w (rs2 s))=szZ (RS.w (rs2 s)))∧∀ (j:Unit),br (b69 s) v23 (∃ (j:PLift (N69 s∧b69 s=false)),numS s=numS s∧RS.w (rs3 s)=RS.w (rs3 s)∧RS.f (rs3 s)=RS.f (rs3 s)∧RS.pt (rs3 s)=RS.pt (rs3 s)∧EqL zsc zsc∧EqL v20 v20∧szZ (RS.w (rs2 s))=szZ (RS.w (rs2 s))))∧∀ (j:PLift (N69 s∧b69 s=false)),((0:Int)≤(0:Int)∧(0:Int)<(↑(7:Nat):Int))∧Int.toNat (0:Int)<(7:Nat)∧br (decide ((Num.mi (RS.p (rs4 s)))>(40:Int))) v5 (inR IntKind.i64 ((0:Int)+(1:Int))∧((0:Int)≤(0:Int)+(1:Int)∧(0:Int)+(1:Int)<(↑(7:Nat):Int))∧Int.toNat ((0:Int)+(1:Int))<(7:Nat)∧br (decide (List.getD [Num.mi (RS.p (rs4 s)),Num.xi (RS.p (rs4 s)),Num.xf (RS.p (rs4 s)),Num.xs (RS.p (rs4 s)),Num.pr (RS.p (rs4 s)),Num.sc (RS.p (rs4 s)),v4] (Int.toNat ((0:Int)+(1:Int))) (0:Int)>(40:Int))) v5 (inR IntKind.i64 v21∧((0:Int)≤(0:Int)+(1:Int)+(1:Int)∧(0:Int)+(1:Int)+(1:Int)<(↑(7:Nat):Int))∧Int.toNat v21<(7:Nat)∧br (decide (List.getD [Num.mi (RS.p (rs4 s)),Num.xi (RS.p (rs4 s)),Num.xf (RS.p (rs4 s)),Num.xs (RS.p (rs4 s)),Num.pr (RS.p (rs4 s)),Num.sc (RS.p (rs4 s)),v4] (Int.toNat v21) (0:Int)>(40:Int))) v5 (inR IntKind.i64 v13∧((0:Int)≤(0:Int)+(1:Int)+(1:Int)+(1:Int)∧(0:Int)+(1:Int)+(1:Int)+(1:Int)<(↑(7:Nat):Int))∧Int.toNat v13<(7:Nat)∧br (decide (List.getD [Num.mi (RS.p (rs4 s)),Num.xi (RS.p (rs4 s)),Num.xf (RS.p (rs4 s)),Num.xs (RS.p (rs4 s)),Num.pr (RS.p (rs4 s)),Num.sc (RS.p (rs4 s)),v4] (Int.toNat v13) (0:Int)>(40:Int))) v5 (inR IntKind.i64 v10∧((0:Int)≤(0:Int)+(1:Int)+(1:Int)+(1:Int)+(1:Int)∧(0:Int)+(1:Int)+(1:Int)+(1:Int)+(1:Int)<(↑(7:Nat):Int))∧Int.toNat v10<(7:Nat)∧br (decide (List.getD [Num.mi (RS.p (rs4 s)),Num.xi (RS.p (rs4 s)),Num.xf (RS.p (rs4 s)),Num.xs (RS.p (rs4 s)),Num.pr (RS.p (rs4 s)),Num.sc (RS.p (rs4 s)),v4] (Int.toNat v10) (0:Int)>(40:Int))) v5 (inR IntKind.i64 v8∧((0:Int)≤(0:Int)+(1:Int)+(1:Int)+(1:Int)+(1:Int)+(1:Int)∧(0:Int)+(1:Int)+(1:Int)+(1:Int)+(1:Int)+(1:Int)<(↑(7:Nat):Int))∧Int.toNat v8<(7:Nat)∧br (decide (List.getD [Num.mi (RS.p (rs4 s)),Num.xi (RS.p (rs4 s)),Num.xf (RS.p (rs4 s)),Num.xs (RS.p (rs4 s)),Num.pr (RS.p (rs4 s)),Num.sc (RS.p (rs4 s)),v4] (Int.toNat v8) (0:Int)>(40:Int))) v5 (inR IntKind.i64 v6∧((0:Int)≤(0:Int)+(1:Int)+(1:Int)+(1:Int)+(1:Int)+(1:Int)+(1:Int)∧(0:Int)+(1:Int)+(1:Int)+(1:Int)+(1:Int)+(1:Int)+(1:Int)<(↑(7:Nat):Int))∧Int.toNat v6<(7:Nat)∧br (decide (List.getD [Num.mi (RS.p (rs4 s)),Num.xi (RS.p (rs4 s)),Num.xf (RS.p (rs4 s)),Num.xs (RS.p (rs4 s)),Num.pr (RS.p (rs4 s)),Num.sc (RS.p (rs4 s)),v4] (Int.toNat v6) (0:Int)>(40:Int))) v5 (inR IntKind.i64 ((0:Int)+(1:Int)+(1:Int)+(1:Int)+(1:Int)+(1:Int)+(1:Int)+(1:Int))∧(([]:List Itm)=[]∧([]:List Itm)=[]∧false=false∧([]:List Itm)=[]∧([]:List Itm)=[]∧Num.mi (RS.p (rs4 s))=Num.mi (numT s).1∧Num.xi (RS.p (rs4 s))=Num.xi (numT s).1∧Num.mf (RS.p (rs4 s))=Num.mf (numT s).1∧Num.xf (RS.p (rs4 s))=Num.xf (numT s).1∧Num.ms (RS.p (rs4 s))=Num.ms (numT s).1∧Num.xs (RS.p (rs4 s))=Num.xs (numT s).1∧Num.pr (RS.p (rs4 s))=Num.pr (numT s).1∧Num.sc (RS.p (rs4 s))=Num.sc (numT s).1∧Num.inc (RS.p (rs4 s))=Num.inc (numT s).1∧Num.ps (RS.p (rs4 s))=Num.ps (numT s).1∧Num.me (RS.p (rs4 s))=Num.me (numT s).1∧Num.px (RS.p (rs4 s))=Num.px (numT s).1∧(0:Int)=(0:Int)∧(0:Int)=(0:Int)∧(0:Int)=(0:Int))∧(0:Int)=(numT s).2)))))))))))):=by kernel_rfl
set_option maxHeartbeats 4000000 in
theorem of_r3num (h:∀ (s:List UInt8),(s.length≤1000000000)→vcP [(40,sp_r3cut),(42,sp_r3count),(41,sp_r3strip),(43,sp_r3rows)] [] misc Tryz.f18 (annN s) [.one (.str s)] (.tup [(true,(numT s).1.pcs),(false,[.int .i64 (numT s).2])])):FnP 18 sp_r3num:=by
 refine fnP_ok (cs:=[(40,sp_r3cut),(42,sp_r3count),(41,sp_r3strip),(43,sp_r3rows)]) (cas:=[]) (ms:=misc) (.cons ok_r3cut (.cons ok_r3count (.cons ok_r3strip (.cons ok_r3rows .nil)))) .nil misc_ok 18 Tryz.f18 (by kernel_rfl) (by kernel_rfl) (by kernel_rfl) (fun | [.one (.str s)]=>annN s | _=>.nil) ?_
 intro pvs p r hs hp
 unfold sp_r3num at hs
 simp only at hs
 split at hs
 ·rename_i s
  cases hs
  refine h s ?_
  ·exact hp
 ·cases hs
theorem anyP_next (P:Int→Bool) (s:List UInt8) {i:Nat} (h:i<s.length):anyP P (s.take (i+1))=(anyP P (s.take i) || P ((s.getD i 0).toNat:Int)):=by
 unfold anyP
 rw [take_next s 0 h,List.any_append]
 simp
theorem isOdd_eq (r:Int):isOdd r=if (r != 35)=true then (if (r != 64)=true then (if (r != 44)=true then (if (r != 46)=true then (if r<48 then true else decide (r>57)) else false) else false) else false) else false:=by
 unfold isOdd isDig hasR
 rw [Bool.eq_iff_iff]
 by_cases h1:r=35<;>by_cases h2:r=64<;>by_cases h3:r=44<;>by_cases h4:r=46<;>by_cases h5:r<48<;>simp [h1,h2,h3,h4,h5]<;>omega
theorem rs1_eq (s:List UInt8):(rs1 s).c=(expT (numX s) (numS s) z0).1∧(rs1 s).p=(expT (numX s) (numS s) z0).2:=⟨rfl,rfl⟩
theorem flt_next (l:List UInt8) {i:Nat} (h:i<l.length):flt (l.take (i+1))=flt (l.take i)++if ((l.getD i 0).toNat:Int)=35 then [] else [l.getD i 0]:=by
 unfold flt
 rw [take_next l 0 h,List.filter_append]
 congr 1
 by_cases hx:((l.getD i 0).toNat:Int)=35
 ·rw [if_pos hx,List.filter_cons_of_neg (by simpa using hx)]; rfl
 ·rw [if_neg hx,List.filter_cons_of_pos (by simpa using hx)]; rfl
theorem take_drop1 (l:List UInt8) {i:Nat} (h:i<l.length):List.drop i (List.take (i+1) l)=[l.getD i 0]:=by
 rw [List.drop_take,drop_next l 0 h,show i+1-i=1 by omega]; rfl
def E27.zero (s:List UInt8):E27 s where
 i:=0
 ps:=[]
 pl:=[]
 n:=0
 le:=Nat.zero_le _
 few:=Nat.le_refl _
 n0:=⟨Int.le_refl _,by omega⟩
 nn:=Int.le_refl _
 sz:=fun _=>by rw [List.drop_zero,List.nil_append]; exact szZ_eq _
 sz1:=fun h=>absurd (Nat.zero_le _) h
 fl:=by rw [List.drop_zero,List.nil_append]; exact (flat_filter _).symm
 pn:=Nat.le_refl _
def E27.on {s:List UInt8} (x:E27 s) (h:x.i<(rs2 s).w.length) (hx:(rs2 s).w.getD x.i 0≠44):E27 s where
 i:=x.i+1
 ps:=x.ps
 pl:=x.pl++[(rs2 s).w.getD x.i 0]
 n:=x.n+1
 le:=by omega
 few:=by have:=x.few; omega
 n0:=by have:=x.n0; have:=x.nn; omega
 nn:=by have:=x.nn; omega
 sz:=fun _=>by
  have e:=x.sz (by omega)
  rw [drop_next (rs2 s).w 0 h] at e
  rw [← e]
  show _=x.ps++(if (rs2 s).w.getD x.i 0=44 then _ else _)
  rw [if_neg hx]
 sz1:=fun h'=>absurd (by omega:x.i+1≤(rs2 s).w.length) h'
 fl:=by
  have e:=x.fl
  rw [drop_next (rs2 s).w 0 h,List.filter_cons_of_pos (by simpa using hx)] at e
  rw [← e]; simp
 pn:=by have:=x.pn; simp; omega
def E27.off {s:List UInt8} (x:E27 s) (hi:x.i≤(rs2 s).w.length) (hx:x.i<(rs2 s).w.length→(rs2 s).w.getD x.i 0=44):E27 s where
 i:=x.i+1
 ps:=x.ps++[x.n]
 pl:=x.pl
 n:=0
 le:=by omega
 few:=by have:=x.few; simp; omega
 n0:=⟨Int.le_refl _,by omega⟩
 nn:=by omega
 sz:=fun h'=>by
  have e:=x.sz hi
  have h:x.i<(rs2 s).w.length:=by omega
  rw [drop_next (rs2 s).w 0 h] at e
  rw [← e,List.append_assoc]
  show _=x.ps++(if (rs2 s).w.getD x.i 0=44 then _ else _)
  rw [if_pos (hx h)]; rfl
 sz1:=fun h'=>by
  have e:=x.sz hi
  rw [List.drop_of_length_le (by omega)] at e
  exact e
 fl:=by
  have e:=x.fl
  by_cases h:x.i<(rs2 s).w.length
  ·rw [drop_next (rs2 s).w 0 h,List.filter_cons_of_neg (by rw [hx h]; decide)] at e
   exact e
  ·rw [List.drop_of_length_le (by omega)] at e
   rw [List.drop_of_length_le (by omega)]
   exact e
 pn:=by have:=x.pn; omega
theorem rs1_pr (s:List UInt8):(rs1 s).p.pr=0:=by
 show (expT _ _ _).2.pr=0
 unfold expT
 repeat' split
 all_goals rfl
theorem grp_pr {w:List UInt8} {p:Num} (hp:p.pr=0) (hne:emptyIn (splitC 44 w)=false):0<(grpP w p).pr↔1<(szZ w).length:=by
 unfold grpP
 split
 ·rename_i h
  refine ⟨fun _=>h,fun _=>?_⟩
  show 0<(szZ w).getD ((szZ w).length-1) 0
  have hl:(szZ w).length-1<(splitC 44 w).length:=by rw [szZ_len] at h ⊢; omega
  rw [szZ_get w hl]
  have h0:¬ (szZ w).getD ((szZ w).length-1) 0=0:=fun h0=>by
   have:=empty_of h (by omega) h0
   rw [hne] at this; cases this
  rw [szZ_get w hl] at h0
  omega
 ·rename_i h
  rw [hp]
  exact ⟨fun h'=>absurd h' (by decide),fun h'=>absurd h' h⟩
theorem b69_iff {s:List UInt8} (h:0<(rs4 s).p.pr↔1<(szZ (rs2 s).w).length):b69 s=true↔(numS s=true∧(0<(rs4 s).p.pr∨0<(rs4 s).p.ms∧bAt (rs3 s).w 0=35)):=by
 unfold b69
 rw [h]
 simp
set_option maxHeartbeats 8000000 in
theorem ok_r3num:FnP 18 sp_r3num:=of_r3num (by
 intro s hs
 rw [vc_r3num]
 have cB:(cutI 69 s).1=numB s∧(cutI 69 s).2.1=numX s∧(cutI 69 s).2.2=numS s:=by
  have:=cutI_cut 69 s
  rw [show ((69:UInt8).toNat:Int)=69 from rfl] at this
  rw [this]; exact ⟨rfl,rfl,rfl⟩
 obtain ⟨cB1,cB2,cB3⟩:=cB
 have lB:=(cut_sub 69 s).1.2
 have lX:=(cut_sub 69 s).2.2
 have lB:(numB s).length≤s.length:=lB
 have lX:(numX s).length≤s.length:=lX
 rw [cB1,cB2,cB3]
 have cF:cutI 46 (numB s)=Lib.cut (numB s) [46]:=cutI_cut 46 (numB s)
 rw [cF]
 have lF:(bf s).length≤(numB s).length:=(cut_sub 46 (numB s)).2.2
 have hxt:(xt s).length≤(numX s).length:=by
  unfold xt; rw [trim_plus]; split
  ·rw [List.length_drop]; omega
  ·omega
 have r12:=fun {e:Int} (h:numT s=(z0,e))=>h
 refine ⟨by omega,br_of (fun hS=>⟨?_,fun jS=>⟨?_,fun _=>?_⟩⟩) fun hS=>?_,fun j12=>⟨⟨?_,fun x=>?_⟩,fun j18=>⟨by omega,?_,fun _=>br_of (fun h=>?_) fun h=>?_⟩⟩⟩
 ·
  have hp:=has_plus (numX s)
  refine br_of (fun h=>⟨⟨by omega,by (have:(numX s).length>0:=by (have:=of_decide_eq_true h); omega); omega⟩,br_of (fun h1=>⟨⟨by omega,by have:=of_decide_eq_true h; omega⟩,⟨⟨hS⟩,?_⟩⟩) fun h1=>⟨⟨hS⟩,?_⟩⟩) fun h=>⟨⟨hS⟩,?_⟩
  ·have hl:=of_decide_eq_true h
   have hb:((numX s).getD 0 0).toNat=43:=by
    have:bAt (numX s) 0=43:=by simpa using h1
    have e:=bAt_nat (numX s) 0
    rw [show ((0:Nat):Int)=0 from rfl,this] at e; omega
   have hh:Lib.hasPrefix (numX s) [43]=true:=by rw [hp]; exact decide_eq_true ⟨by omega,by omega⟩
   have e1:List.drop (Int.toNat 1) (numX s)=xt s:=by unfold xt; rw [trim_plus,if_pos hh]; rfl
   and_intros
   all_goals first | rfl | exact e1 | skip
   exact hh.symm
  ·have hb:((numX s).getD 0 0).toNat≠43:=by
    intro he
    have:bAt (numX s) 0≠43:=by simpa using h1
    have e:=bAt_nat (numX s) 0
    rw [show ((0:Nat):Int)=0 from rfl] at e; omega
   have hh:Lib.hasPrefix (numX s) [43]=false:=by rw [hp]; exact decide_eq_false (by omega)
   have e1:numX s=xt s:=by unfold xt; rw [trim_plus,if_neg (by rw [hh]; decide)]
   and_intros
   all_goals first | rfl | exact e1 | skip
   exact hh.symm
  ·have hl:¬ ((numX s).length:Int)>0:=of_decide_eq_false h
   have hh:Lib.hasPrefix (numX s) [43]=false:=by rw [hp]; exact decide_eq_false (by omega)
   have e1:numX s=xt s:=by unfold xt; rw [trim_plus,if_neg (by rw [hh]; decide)]
   and_intros
   all_goals first | rfl | exact e1 | skip
   exact hh.symm
 ·refine br_of (fun h=>⟨(),?_⟩) fun h=>⟨by omega,(),?_⟩
  ·have h:xt s=[]:=of_decide_eq_true h
   have e:true=b7 s:=by unfold b7; rw [decide_eq_true h]; rfl
   and_intros
   all_goals first | rfl | exact e
  ·have h:¬ xt s=[]:=of_decide_eq_false h
   have e:(!decide (dropP (fun x=>x==48) (xt s)=Array.toList #[]))=b7 s:=by
    unfold b7; rw [decide_eq_false h]; show (!decide (dropP (fun x=>x==48) (xt s)=[]))=_; simp
   and_intros
   all_goals first | rfl | exact e
 ·have e1:=rs1_eq s
  rw [hS] at e1
  refine br_of (fun h=>?_) fun h=>br_of (fun h1=>?_) fun h1=>⟨⟨?_⟩,?_⟩
  ·have h:xt s=[]∨dropP (·==48) (xt s)≠[]:=by unfold b7 at h; simpa using h
   have hE:numT s=(z0,4):=num_fail1 (by rw [e1.1,exp_bad h]) (by decide)
   rw [hE]; and_intros<;>rfl
  all_goals have h:xt s≠[]∧dropP (·==48) (xt s)=[]:=by unfold b7 at h; simpa using h
  ·have h1:=of_decide_eq_true h1
   have hE:numT s=(z0,8):=num_fail1 (by rw [e1.1,exp_long h.1 h.2 (by unfold xt at h1; omega)]) (by decide)
   rw [hE]; and_intros<;>rfl
  all_goals have h1:¬ ((xt s).length:Int)>9:=of_decide_eq_false h1
  all_goals have e2:=exp_ok (p:=z0) h.1 h.2 (by unfold xt at h1; omega)
  ·rw [e1.1,e2]
  ·and_intros
   all_goals first | rfl | skip
   all_goals first | (rw [e1.2,e2]; rfl) | rw [e1.2,e2]
 ·have e1:=rs1_eq s
  rw [hS] at e1
  refine ⟨⟨e1.1⟩,?_⟩
  and_intros
  all_goals first | rfl | (rw [e1.2]; rfl) | rw [e1.2]
 ·refine ⟨⟨0,j12.down,Nat.zero_le _,rfl⟩,?_⟩
  and_intros
  all_goals first | rfl
 ·obtain ⟨i,hc,hi,hq⟩:=x
  dsimp only
  refine br_of (fun h=>⟨⟨by omega,by
   have:i<(numB s).length:=by simpa using h
   omega⟩,?_,fun _=>br_of (fun h1=>?_) fun h1=>?_⟩) fun h=>⟨⟨⟨hc,?_⟩⟩,?_⟩
  ·have h:i<(numB s).length:=by simpa using h
   have ho:=isOdd_eq (bAt (numB s) i)
   refine br_of (fun h1=>br_of (fun h2=>br_of (fun h3=>br_of (fun h4=>br_of (fun h5=>⟨(),?_⟩) fun h5=>⟨(),?_⟩) fun h4=>⟨(),?_⟩) fun h3=>⟨(),?_⟩) fun h2=>⟨(),?_⟩) fun h1=>⟨(),?_⟩
   all_goals simp only [h1,if_true] at ho
   all_goals try simp only [h2,if_true] at ho
   all_goals try simp only [h3,if_true] at ho
   all_goals try simp only [h4,if_true] at ho
   all_goals try simp only [of_decide_eq_true h5,if_true] at ho
   all_goals try simp only [of_decide_eq_false h5,if_false] at ho
   all_goals and_intros
   all_goals first | rfl | exact ho.symm | (rw [ho]; rfl) | (rw [ho]; simp)
  all_goals first
   | have h:i<(numB s).length:=by simpa using h
   | have h:i=(numB s).length:=by (have:¬ i<(numB s).length:=by simpa using h); omega
  all_goals try have hn:=anyP_next isOdd (numB s) h
  all_goals try rw [bAt_nat] at h1
  ·have:anyP isOdd (numB s)=true:=by
    unfold anyP
    rw [List.any_eq_true]
    exact ⟨_,getD_mem' h,h1⟩
   rw [parts_odd hc this]; and_intros<;>rfl
  ·refine ⟨by simp only [inR]; omega,⟨i+1,hc,h,by rw [hn,hq,h1]; rfl⟩,?_,by show (numB s).length-(i+1)<_; omega⟩
   and_intros
   all_goals first | rfl
  ·rw [h,List.take_length] at hq; exact hq
  ·and_intros
   all_goals first | rfl
 ·refine ⟨by show (bf s).length≤_; omega,br_of (fun h=>⟨(),?_⟩) fun h=>br_of (fun h1=>⟨(),?_⟩) fun h1=>⟨(),?_⟩⟩
  ·have h0:0<cntC 46 (bf s):=by
    have:=of_decide_eq_true h
    exact Int.ofNat_lt.1 this
   have e:true=b19 s:=by unfold b19; rw [decide_eq_true h0]; rfl
   and_intros
   all_goals first | rfl | exact e
  all_goals have h0:¬ 0<cntC 46 (bf s):=fun h'=>of_decide_eq_false h (Int.ofNat_lt.2 h')
  ·have e:decide ((Lib.cut (numB s) [46]).2.1=Array.toList #[])=b19 s:=by
    unfold b19; rw [decide_eq_false h0,show bp s=true from h1]; rfl
   and_intros
   all_goals first | rfl | exact e
  ·have e:false=b19 s:=by unfold b19; rw [decide_eq_false h0,show bp s=false from h1]; rfl
   and_intros
   all_goals first | rfl | exact e
 ·have h:0<cntC 46 (bf s)∨(bp s=true∧bf s=[]):=by unfold b19 at h; simpa using h
  rw [parts_bad j18.down.1 h]; and_intros<;>rfl
 ·have h:¬ 0<cntC 46 (bf s)∧¬ (bp s=true∧bf s=[]):=by
   unfold b19 at h
   rw [Bool.or_eq_false_iff] at h
   refine ⟨of_decide_eq_false h.1,fun h'=>?_⟩
   rw [h'.1,decide_eq_true h'.2] at h
   cases h.2
  have e2:=parts_ok j18.down.1 j18.down.2 h.1 h.2
  have c2:(rs2 s).c=0:=by rw [e2]
  have lw2:(rs2 s).w.length≤s.length:=(rs2_sub s).1.2
  have lf2:(rs2 s).f.length≤s.length:=(rs2_sub s).2.2
  have hszn:(szZ (rs2 s).w).length≤(rs2 s).w.length+1:=by
   rw [szZ_len,splitC_len]; have:=List.count_le_length (a:=(44:UInt8)) (l:=(rs2 s).w); omega
  refine ⟨⟨by omega,br_of (fun h=>?_) fun h=>⟨⟨⟨c2,?_⟩⟩,?_⟩⟩,fun j23=>⟨⟨?_,fun x=>br_of (fun h=>⟨?_,fun _=>br_of (fun h1=>?_) fun h1=>?_⟩) fun h=>?_⟩,fun _=>⟨⟨?_,fun x=>?_⟩,fun jE=>⟨?_,fun _=>⟨?_,fun j43=>?_⟩⟩⟩⟩⟩
  ·have h0:0<cntC 44 (rs2 s).f:=by
    have:=of_decide_eq_true h
    rw [e2]; exact Int.ofNat_lt.1 this
   rw [groups_bad c2 (.inr h0)]; and_intros<;>rfl
  ·have:=of_decide_eq_false h
   intro h'
   rw [e2] at h'
   exact this (Int.ofNat_lt.2 h')
  ·and_intros
   all_goals first | rfl | (rw [e2]; rfl) | rw [e2]
  ·refine ⟨E27.zero s,?_⟩
   and_intros<;>rfl
  ·have h:x.i≤(rs2 s).w.length:=by have:=of_decide_eq_true h; omega
   refine br_of (fun h1=>⟨⟨by omega,by have:=of_decide_eq_true h1; omega⟩,(),?_⟩) fun h1=>⟨(),?_⟩
   ·have h1:x.i<(rs2 s).w.length:=by have:=of_decide_eq_true h1; omega
    have e:(bAt (rs2 s).w x.i != 44)=b29 s x.i:=by
     unfold b29
     rw [decide_eq_true h1,bAt_nat]
     have:=u8_toNat (x:=(rs2 s).w.getD x.i 0) (k:=44)
     rw [Bool.eq_iff_iff]
     simp only [Bool.true_and,bne_iff_ne,ne_eq,decide_eq_true_eq]
     rw [show ((44:UInt8).toNat:Int)=44 from rfl] at this
     rw [this]
    and_intros
    all_goals first | rfl | exact e
   ·have h1:¬ x.i<(rs2 s).w.length:=by have:=of_decide_eq_false h1; omega
    have e:false=b29 s x.i:=by unfold b29; rw [decide_eq_false h1]; rfl
    and_intros
    all_goals first | rfl | exact e
  ·unfold b29 at h1
   rw [Bool.and_eq_true,decide_eq_true_iff,decide_eq_true_iff] at h1
   have hp:=x.pn
   have hn:=x.n0
   have hi:=h1.1
   have et:=take_drop1 (rs2 s).w h1.1
   rw [Int.toNat_natCast,show ((x.i:Int)+1).toNat=x.i+1 by omega,et]
   refine ⟨by simp only [inR]; omega,⟨by omega,by omega,by omega⟩,by simp; omega,by simp only [inR]; omega,by simp only [inR]; omega,x.on h1.1 h1.2,?_,by show (rs2 s).w.length+1-(x.i+1)<_; omega⟩
   and_intros<;>rfl
  ·have h:x.i≤(rs2 s).w.length:=by have:=of_decide_eq_true h; omega
   have hf:=x.few
   refine ⟨by omega,by simp only [inR]; omega,x.off h (fun hl=>?_),?_,by show (rs2 s).w.length+1-(x.i+1)<_; omega⟩
   ·unfold b29 at h1
    rw [decide_eq_true hl,Bool.true_and] at h1
    exact Decidable.not_not.1 (of_decide_eq_false h1)
   ·and_intros<;>rfl
  ·have h:¬ x.i≤(rs2 s).w.length:=by have:=of_decide_eq_false h; omega
   have e1:=x.sz1 h
   have e3:=x.fl
   rw [List.drop_of_length_le (by omega)] at e3
   have e3:x.pl=(splitC 44 (rs2 s).w).flatten:=by rw [← e3]; exact (List.append_nil _).symm
   refine ⟨j23,?_⟩
   and_intros
   all_goals first | rfl | exact e1 | exact e3
  ·refine ⟨⟨0,Nat.zero_le _,fun _ j hj=>absurd hj (Nat.not_lt_zero _)⟩,?_⟩
   and_intros<;>rfl
  ·obtain ⟨i,hi,hq⟩:=x
   dsimp only
   rw [Int.toNat_natCast]
   refine br_of (fun h=>⟨br_of (fun h1=>⟨⟨by omega,by have:=of_decide_eq_true h; omega⟩,by have:=of_decide_eq_true h; omega,(),?_⟩) fun h1=>⟨(),?_⟩,fun _=>br_of (fun h1=>?_) fun h1=>?_⟩) fun h=>⟨⟨?_⟩,?_⟩
   ·have h1:1<(szZ (rs2 s).w).length:=by have:=of_decide_eq_true h1; omega
    have e:((szZ (rs2 s).w).getD i 0==0)=b37 s i:=by unfold b37; rw [decide_eq_true h1,Bool.true_and]; exact Bool.beq_eq_decide_eq _ _
    and_intros
    all_goals first | rfl | exact e
   ·have h1:¬ 1<(szZ (rs2 s).w).length:=by have:=of_decide_eq_false h1; omega
    have e:false=b37 s i:=by unfold b37; rw [decide_eq_false h1]; rfl
    and_intros
    all_goals first | rfl | exact e
   ·unfold b37 at h1
    rw [Bool.and_eq_true,decide_eq_true_iff,decide_eq_true_iff] at h1
    have h:i<(szZ (rs2 s).w).length:=by have:=of_decide_eq_true h; omega
    rw [groups_bad c2 (.inl (empty_of h1.1 h h1.2))]; and_intros<;>rfl
   ·have h:i<(szZ (rs2 s).w).length:=by have:=of_decide_eq_true h; omega
    refine ⟨by simp only [inR]; omega,⟨i+1,h,fun h2 j hj=>?_⟩,?_,by show (szZ (rs2 s).w).length-(i+1)<_; omega⟩
    ·by_cases hji:j<i
     ·exact hq h2 j hji
     ·have:j=i:=by omega
      subst this
      unfold b37 at h1
      rw [decide_eq_true h2,Bool.true_and] at h1
      exact of_decide_eq_false h1
    ·and_intros<;>rfl
   ·have h:¬ i<(szZ (rs2 s).w).length:=by have:=of_decide_eq_false h; omega
    exact not_empty fun h2 j hj=>hq h2 j (by omega)
   ·and_intros<;>rfl
  ·refine br_of (fun h=>?_) fun h=>⟨jE,?_⟩
   ·have h:1<(szZ (rs2 s).w).length:=by have:=of_decide_eq_true h; omega
    have eg:g1 s={ (rs2 s).p with pr:=(szZ (rs2 s).w).getD ((szZ (rs2 s).w).length-1) 0,sc:=(szZ (rs2 s).w).getD ((szZ (rs2 s).w).length-1) 0 }:=by unfold g1; rw [if_pos h]
    rw [show (((szZ (rs2 s).w).length:Int)-1).toNat=(szZ (rs2 s).w).length-1 by omega]
    refine ⟨by simp only [inR]; omega,⟨by omega,by omega⟩,by omega,by simp only [inR]; omega,⟨by omega,by omega⟩,by omega,jE,?_⟩
    rw [eg]
    and_intros<;>rfl
   ·have h:¬ 1<(szZ (rs2 s).w).length:=by have:=of_decide_eq_false h; omega
    have eg:g1 s=(rs2 s).p:=by unfold g1; rw [if_neg h]
    rw [eg]
    and_intros<;>rfl
  ·have e3:=groups_ok c2 jE.down j23.down.g
   have c3:(rs3 s).c=0:=by rw [e3]
   have ep:(rs3 s).p=grpP (rs2 s).w (rs2 s).p:=by rw [e3]
   have ew:(splitC 44 (rs2 s).w).flatten=(rs3 s).w:=by rw [e3]
   have ef:(rs2 s).f=(rs3 s).f:=by rw [e3]
   have et:(rs2 s).pt=(rs3 s).pt:=by rw [e3]
   refine br_of (fun h=>?_) fun h=>⟨⟨⟨c3,jE.down⟩⟩,?_⟩
   ·have h:2<(szZ (rs2 s).w).length:=by have:=of_decide_eq_true h; omega
    have eg:g1 s={ (rs2 s).p with pr:=(szZ (rs2 s).w).getD ((szZ (rs2 s).w).length-1) 0,sc:=(szZ (rs2 s).w).getD ((szZ (rs2 s).w).length-1) 0 }:=by unfold g1; rw [if_pos (by omega)]
    have e4:grpP (rs2 s).w (rs2 s).p={ (rs2 s).p with pr:=(szZ (rs2 s).w).getD ((szZ (rs2 s).w).length-1) 0,sc:=(szZ (rs2 s).w).getD ((szZ (rs2 s).w).length-2) 0 }:=by unfold grpP; rw [if_pos (by omega),if_pos h]
    rw [show (((szZ (rs2 s).w).length:Int)-2).toNat=(szZ (rs2 s).w).length-2 by omega]
    refine ⟨by simp only [inR]; omega,⟨by omega,by omega⟩,by omega,⟨⟨c3,jE.down⟩⟩,?_⟩
    rw [ep,e4,eg]
    and_intros
    all_goals first | rfl | exact ew | exact ef | exact et
   ·have h:¬ 2<(szZ (rs2 s).w).length:=by have:=of_decide_eq_false h; omega
    have e4:grpP (rs2 s).w (rs2 s).p=g1 s:=by
     unfold grpP g1
     split
     ·first | rfl | rw [if_neg h]
     ·rfl
    rw [ep,e4]
    and_intros
    all_goals first | rfl | exact ew | exact ef | exact et
  ·have g43:=j43.down
   have c3:=g43.c3
   have lw3:(rs3 s).w.length≤s.length:=(rs3_sub s).1.2
   have lf3:(rs3 s).f.length≤s.length:=(rs3_sub s).2.2
   have e3:=groups_ok c2 g43.ne j23.down.g
   have hf0:(rs3 s).pt=false→(rs3 s).f=[]:=by
    rw [e3,e2]
    intro h
    have h1:=not_found_frac 46 (numB s)
    rw [← cut_C] at h1
    exact h1 h
   have lwf:(wf s).length=(rs3 s).w.length+(rs3 s).f.length:=by unfold wf; simp
   have lflt:(flt (wf s)).length≤(wf s).length:=List.length_filter_le _ _
   refine ⟨by omega,br_of (fun h=>?_) fun hne=>⟨⟨by rw [List.length_append]; omega,br_of (fun h64=>⟨?_,fun _=>br_of (fun h=>?_) fun h47=>⟨⟨by omega,by omega,br_of (fun h=>?_) fun h=>⟨⟨?_⟩,?_⟩⟩,fun j51=>⟨by omega,?_,fun x=>?_⟩⟩⟩) fun h64=>⟨⟨?_,fun _=>br_of (fun h=>?_) fun h=>⟨⟨?_⟩,?_⟩⟩,fun j57=>⟨by omega,by omega,⟨?_,fun x=>?_⟩,fun _=>⟨by omega,?_,fun _=>br_of (fun h=>?_) fun h=>?_⟩⟩⟩⟩,fun j69=>⟨⟨?_,fun _=>br_of (fun h=>?_) fun h=>⟨⟨j69.down,h⟩,?_⟩⟩,fun j71=>?_⟩⟩⟩
   ·have h:(rs3 s).w++(rs3 s).f=[]:=of_decide_eq_true h
    rw [counts_fail c3 (counts_none h) (by decide)]; and_intros<;>rfl
   all_goals have hne:¬ (rs3 s).w++(rs3 s).f=[]:=of_decide_eq_false hne
   ·refine br_of (fun h=>⟨(),?_⟩) fun h=>⟨by omega,(),?_⟩
    ·have e:true=b47 s:=by unfold b47; rw [h]; rfl
     and_intros
     all_goals first | rfl | exact e
    ·have e:decide ((cntC 48 (rs3 s).w:Int)>0)=b47 s:=by
      unfold b47; rw [h,Bool.false_or,Bool.eq_iff_iff,decide_eq_true_iff,decide_eq_true_iff]; omega
     and_intros
     all_goals first | rfl | exact e
   ·have h0:0<cntC 64 ((rs3 s).w++(rs3 s).f):=Int.ofNat_lt.1 (of_decide_eq_true h64)
    have h:(rs3 s).pt=true∨0<cntC 48 (rs3 s).w:=by unfold b47 at h; simpa using h
    rw [counts_fail (e:=6) c3 (by rw [counts_sig hne h0]; exact sig_mix h) (by decide)]; and_intros<;>rfl
   all_goals try have h0:0<cntC 64 ((rs3 s).w++(rs3 s).f):=Int.ofNat_lt.1 (of_decide_eq_true h64)
   all_goals try have h47:¬ ((rs3 s).pt=true∨0<cntC 48 (rs3 s).w):=by (unfold b47 at h47; simpa using h47)
   ·have h:rowsF 35 64 35 0 (rs3 s).w≠[]:=by simpa using h
    rw [counts_fail (e:=4) c3 (by rw [counts_sig hne h0]; exact sig_rows h47 h) (by decide)]; and_intros<;>rfl
   ·have h:rowsF 35 64 35 0 (rs3 s).w=[]:=by simpa using h
    refine ⟨g43,hne,h0,h47,h,?_⟩
    have hpt:(rs3 s).pt=false:=by
     cases hp:(rs3 s).pt with
     | false=>rfl
     | true=>exact absurd (.inl hp) h47
    rw [hf0 hpt,List.append_nil] at h0
    exact h0
   ·and_intros<;>rfl
   ·refine ⟨⟨0,j51.down,Nat.zero_le _,rfl⟩,?_⟩
    and_intros
    all_goals first | rfl | (show _=((rs3 s).w.length:Int)-((0:Nat):Int); omega)
   ·obtain ⟨j,g51,hj,hq⟩:=x
    dsimp only
    have eix:((rs3 s).w.length:Int)-(((rs3 s).w.length:Int)-(j:Int))=(j:Int):=by omega
    rw [eix]
    have hlt:j<(rs3 s).w.length:=by
     by_cases hlt:j<(rs3 s).w.length
     ·exact hlt
     ·exfalso
      rw [List.drop_of_length_le (by omega)] at hq
      have h5:=g51.h5
      have hall:=all_of_nil (P:=(·==35)) hq.symm
      unfold cntC at h5
      rw [List.countP_pos_iff] at h5
      obtain ⟨y,hy,h64⟩:=h5
      have h35:(y.toNat:Int)=35:=by simpa using hall y hy
      rw [show isC 64 y=(y==64) from isC_ne (k:=64) (by decide) y,beq_iff_eq] at h64
      rw [h64] at h35
      exact absurd h35 (by decide)
    rw [drop_next _ 0 hlt] at hq
    rw [bAt_nat]
    refine ⟨by simp only [inR]; omega,⟨by omega,by omega⟩,br_of (fun h=>⟨by simp only [inR]; omega,⟨j+1,g51,hlt,?_⟩,?_,by show (rs3 s).w.length-(j+1)<_; omega⟩) fun h=>?_⟩
    ·have:dropP (·==35) ((rs3 s).w.getD j 0 :: (rs3 s).w.drop (j+1))=dropP (·==35) ((rs3 s).w.drop (j+1)):=by
      unfold dropP; rw [List.dropWhile_cons,if_pos h]
     rw [← this]; exact hq
    ·and_intros
     all_goals first | rfl | (show _=((rs3 s).w.length:Int)-((j+1:Nat):Int); omega)
    ·have hx:((dropP (·==35) (rs3 s).w).length:Int)=((rs3 s).w.length:Int)-(j:Int):=by
      have:dropP (·==35) ((rs3 s).w.getD j 0 :: (rs3 s).w.drop (j+1))=(rs3 s).w.getD j 0 :: (rs3 s).w.drop (j+1):=by
       unfold dropP; rw [List.dropWhile_cons,if_neg (by show ¬ ((((rs3 s).w.getD j 0).toNat:Int)==35)=true; rw [h]; decide)]
      rw [← hq,this,← drop_next _ 0 hlt,List.length_drop]; omega
     have e4:=counts_done c3 ((counts_sig hne h0).trans (sig_ok (p:=(rs3 s).p) h47 g51.h4 g51.h5))
     refine ⟨⟨g43,by rw [e4],by rw [e4],by rw [e4]⟩,?_⟩
     rw [e4]
     and_intros
     all_goals first | rfl | exact hx.symm
   all_goals try have h0:¬ 0<cntC 64 ((rs3 s).w++(rs3 s).f):=fun h'=>of_decide_eq_false h64 (Int.ofNat_lt.2 h')
   ·refine ⟨by omega,by omega,br_of (fun h=>⟨(),?_⟩) fun h=>⟨by omega,by omega,(),?_⟩⟩
    ·have h:rowsF 35 48 48 0 (rs3 s).w≠[]:=by simpa using h
     have e:true=b55 s:=by unfold b55; rw [decide_eq_true h]; rfl
     and_intros
     all_goals first | rfl | exact e
    ·have h:rowsF 35 48 48 0 (rs3 s).w=[]:=by simpa using h
     have e:(!decide (rowsF 48 35 35 0 (rs3 s).f=[]))=b55 s:=by unfold b55; rw [decide_eq_false (p:=rowsF 35 48 48 0 (rs3 s).w≠[]) (fun h'=>h' h)]; simp
     and_intros
     all_goals first | rfl | exact e
   ·have h:rowsF 35 48 48 0 (rs3 s).w≠[]∨rowsF 48 35 35 0 (rs3 s).f≠[]:=by unfold b55 at h; rw [Bool.or_eq_true,decide_eq_true_iff,decide_eq_true_iff] at h; exact h
    rw [counts_fail (e:=4) c3 (counts_dig hne h0 h) (by decide)]; and_intros<;>rfl
   ·have h:rowsF 35 48 48 0 (rs3 s).w=[]∧rowsF 48 35 35 0 (rs3 s).f=[]:=by unfold b55 at h; simpa using h
    exact ⟨g43,hne,h0,h.1,h.2⟩
   ·and_intros<;>rfl
   ·refine ⟨⟨0,Nat.zero_le _⟩,?_⟩
    and_intros<;>rfl
   ·have hx:=x.2
    refine br_of (fun h=>?_) fun h=>⟨j57,?_⟩
    ·have h:x.1<(wf s).length:=by have:=of_decide_eq_true h; omega
     have hn:=flt_next (wf s) h
     have hl:(flt ((wf s).take x.1)).length≤(wf s).length:=by
      have h1:(flt ((wf s).take x.1)).length≤((wf s).take x.1).length:=List.length_filter_le _ _
      rw [List.length_take] at h1; omega
     rw [bAt_nat,Int.toNat_natCast,show ((x.1:Int)+1).toNat=x.1+1 by omega,take_drop1 (wf s) h]
     refine ⟨⟨by omega,by omega⟩,br_of (fun h1=>⟨by simp only [inR]; omega,⟨by omega,by omega,by omega⟩,by show _+1≤_; omega,by simp only [inR]; omega,⟨x.1+1,h⟩,?_,by show (wf s).length-(x.1+1)<_; omega⟩) fun h1=>⟨by simp only [inR]; omega,⟨x.1+1,h⟩,?_,by show (wf s).length-(x.1+1)<_; omega⟩⟩
     ·rw [if_neg (by simpa using h1)] at hn
      and_intros
      all_goals first | rfl | exact hn.symm
     ·rw [if_pos (by simpa using h1),List.append_nil] at hn
      and_intros
      all_goals first | rfl | exact hn.symm
    ·have h:¬ x.1<(wf s).length:=by have:=of_decide_eq_false h; omega
     rw [List.take_of_length_le (by omega)]
     and_intros<;>rfl
   all_goals try have g57:=j57.down
   ·refine br_of (fun h=>br_of (fun h1=>⟨(),?_⟩) fun h1=>⟨(),?_⟩) fun h=>⟨(),?_⟩
    ·have h:¬ dropP (fun x=>x==48) (flt (wf s))=[]:=by simpa using h
     have h:(dg2 s).inc≠[]:=h
     have h1:(cntC 48 (rs3 s).f:Int)<(rs3 s).f.length:=of_decide_eq_true h1
     have e:true=b65 s:=by unfold b65; rw [decide_eq_true h,decide_eq_true h1]; rfl
     and_intros
     all_goals first | rfl | exact e
    ·have h:¬ dropP (fun x=>x==48) (flt (wf s))=[]:=by simpa using h
     have h:(dg2 s).inc≠[]:=h
     have h1:¬ (cntC 48 (rs3 s).f:Int)<(rs3 s).f.length:=of_decide_eq_false h1
     have e:numS s=b65 s:=by unfold b65; rw [decide_eq_true h,decide_eq_false h1]; rfl
     and_intros
     all_goals first | rfl | exact e
    ·have h:dropP (fun x=>x==48) (flt (wf s))=[]:=by simpa using h
     have h:¬ (dg2 s).inc≠[]:=fun h'=>h' h
     have e:false=b65 s:=by unfold b65; rw [decide_eq_false h]; rfl
     and_intros
     all_goals first | rfl | exact e
   all_goals try have ed:digP (rs3 s).w (rs3 s).f (numS s) (rs3 s).p={ dg2 s with xi:=if numS s=true then ((rs3 s).w.length:Int) else (rs3 s).p.xi }:=rfl
   ·have h:(digP (rs3 s).w (rs3 s).f (numS s) (rs3 s).p).inc≠[]∧((cntC 48 (rs3 s).f:Int)<(rs3 s).f.length∨numS s=true):=by
     unfold b65 at h
     rw [Bool.and_eq_true,Bool.or_eq_true,decide_eq_true_iff,decide_eq_true_iff] at h
     exact h
    rw [counts_fail (e:=6) c3 (counts_mix g57.h1 g57.h2 g57.h3 g57.h4 h) (by decide)]; and_intros<;>rfl
   ·have h:¬ ((digP (rs3 s).w (rs3 s).f (numS s) (rs3 s).p).inc≠[]∧((cntC 48 (rs3 s).f:Int)<(rs3 s).f.length∨numS s=true)):=by
     intro h'
     unfold b65 at h
     have:(decide ((dg2 s).inc≠[]) && (decide ((cntC 48 (rs3 s).f:Int)<(rs3 s).f.length) || numS s))=true:=by
      rw [Bool.and_eq_true,Bool.or_eq_true,decide_eq_true_iff,decide_eq_true_iff]; exact h'
     rw [h] at this; cases this
    have e4:=counts_done c3 (counts_fine (pt:=(rs3 s).pt) (p:=(rs3 s).p) g57.h1 g57.h2 g57.h3 g57.h4 h)
    rw [ed] at e4
    refine br_of (fun hS=>⟨⟨⟨g43,by rw [e4],by rw [e4],by rw [e4]; rfl⟩⟩,?_⟩) fun hS=>⟨⟨⟨g43,by rw [e4],by rw [e4],by rw [e4]; rfl⟩⟩,?_⟩
    ·rw [e4,if_pos hS]
     and_intros
     all_goals first | rfl | exact hS | exact hS.symm
    ·rw [e4,if_neg (by rw [hS]; decide)]
     and_intros
     all_goals first | rfl | exact hS | exact hS.symm
   all_goals have g69:N69 s:=by first | exact j69.down | exact j71.down.1
   all_goals have hw4:0<(rs4 s).p.ms→(rs3 s).w≠[]:=by (have:=rs4_ms s; rw [g69.w4] at this; exact this)
   all_goals have hpr:0<(rs4 s).p.pr↔1<(szZ (rs2 s).w).length:=by (rw [g69.pr4,e3]; exact grp_pr (by rw [e2]; exact rs1_pr s) g43.ne)
   ·refine br_of (fun hS=>br_of (fun h1=>⟨(),?_⟩) fun h1=>br_of (fun h2=>⟨⟨by omega,?_⟩,(),?_⟩) fun h2=>⟨(),?_⟩) fun hS=>⟨(),?_⟩
    ·have h1:1<(szZ (rs2 s).w).length:=by have:=of_decide_eq_true h1; omega
     have e:true=b69 s:=by unfold b69; rw [hS,decide_eq_true h1]; rfl
     and_intros
     all_goals first | rfl | exact hS | exact hS.symm | exact e
    ·have:=List.length_pos_iff.2 (hw4 (of_decide_eq_true h2)); omega
    ·have h1:¬ 1<(szZ (rs2 s).w).length:=by have:=of_decide_eq_false h1; omega
     have h2:0<(rs4 s).p.ms:=of_decide_eq_true h2
     have e:(bAt (rs3 s).w 0==35)=b69 s:=by unfold b69; rw [hS,decide_eq_false h1,decide_eq_true h2]; rfl
     and_intros
     all_goals first | rfl | exact hS | exact hS.symm | exact e
    ·have h1:¬ 1<(szZ (rs2 s).w).length:=by have:=of_decide_eq_false h1; omega
     have h2:¬ 0<(rs4 s).p.ms:=of_decide_eq_false h2
     have e:false=b69 s:=by unfold b69; rw [hS,decide_eq_false h1,decide_eq_false h2]; rfl
     and_intros
     all_goals first | rfl | exact hS | exact hS.symm | exact e
    ·have e:false=b69 s:=by unfold b69; rw [hS]; rfl
     and_intros
     all_goals first | rfl | exact hS | exact hS.symm | exact e
   ·have h6:(rs5 s).c=6:=by
     unfold rs5; rw [if_pos g69.c4]
     show mixedT _ _ _=6
     unfold mixedT
     rw [g69.w4,if_pos ((b69_iff hpr).1 h)]
    rw [num_fail5 h6 (by decide)]; and_intros<;>rfl
   ·and_intros<;>rfl
   ·have hmix:¬ (numS s=true∧(0<(rs4 s).p.pr∨0<(rs4 s).p.ms∧bAt (rs4 s).w 0=35)):=by
     rw [g69.w4]
     intro h'
     have:=(b69_iff hpr).2 h'
     rw [j71.down.2] at this; cases this
    have long:40<max (rs4 s).p.mi (max (rs4 s).p.xi (max (rs4 s).p.xf (max (rs4 s).p.xs (max (rs4 s).p.pr (max (rs4 s).p.sc ((rs4 s).p.inc.length:Int))))))→numT s=(z0,8):=fun h=>by
     refine num_fail5 ?_ (by decide)
     unfold rs5; rw [if_pos g69.c4]
     show mixedT _ _ _=8
     unfold mixedT
     rw [if_neg hmix,if_pos h]
    refine ⟨by omega,by decide,br_of (fun h=>?_) fun h1=>⟨by simp only [inR]; omega,by omega,by decide,br_of (fun h=>?_) fun h2=>⟨by simp only [inR]; omega,by omega,by decide,br_of (fun h=>?_) fun h3=>⟨by simp only [inR]; omega,by omega,by decide,br_of (fun h=>?_) fun h4=>⟨by simp only [inR]; omega,by omega,by decide,br_of (fun h=>?_) fun h5=>⟨by simp only [inR]; omega,by omega,by decide,br_of (fun h=>?_) fun h6=>⟨by simp only [inR]; omega,by omega,by decide,br_of (fun h=>?_) fun h7=>⟨by simp only [inR]; omega,?_⟩⟩⟩⟩⟩⟩⟩⟩
    ·have h:(rs4 s).p.mi>40:=of_decide_eq_true h
     rw [long (by omega)]; and_intros<;>rfl
    ·have h:(rs4 s).p.xi>40:=of_decide_eq_true h
     rw [long (by omega)]; and_intros<;>rfl
    ·have h:(rs4 s).p.xf>40:=of_decide_eq_true h
     rw [long (by omega)]; and_intros<;>rfl
    ·have h:(rs4 s).p.xs>40:=of_decide_eq_true h
     rw [long (by omega)]; and_intros<;>rfl
    ·have h:(rs4 s).p.pr>40:=of_decide_eq_true h
     rw [long (by omega)]; and_intros<;>rfl
    ·have h:(rs4 s).p.sc>40:=of_decide_eq_true h
     rw [long (by omega)]; and_intros<;>rfl
    ·have h:((rs4 s).p.inc.length:Int)>40:=of_decide_eq_true h
     rw [long (by omega)]; and_intros<;>rfl
    ·have h1:¬ (rs4 s).p.mi>40:=of_decide_eq_false h1
     have h2:¬ (rs4 s).p.xi>40:=of_decide_eq_false h2
     have h3:¬ (rs4 s).p.xf>40:=of_decide_eq_false h3
     have h4:¬ (rs4 s).p.xs>40:=of_decide_eq_false h4
     have h5:¬ (rs4 s).p.pr>40:=of_decide_eq_false h5
     have h6:¬ (rs4 s).p.sc>40:=of_decide_eq_false h6
     have h7:¬ ((rs4 s).p.inc.length:Int)>40:=of_decide_eq_false h7
     have hE:numT s=((rs4 s).p,0):=by
      have h5:rs5 s=⟨0,(rs4 s).w,(rs4 s).f,(rs4 s).pt,(rs4 s).p⟩:=by
       unfold rs5; rw [if_pos g69.c4]
       have:mixedT (rs4 s).w (numS s) (rs4 s).p=0:=by unfold mixedT; rw [if_neg hmix,if_neg (by omega)]
       rw [this]
      unfold numT; rw [h5]; rfl
     rw [hE]
     and_intros<;>rfl)
end Go.Proofs.YtglfkihckkjniaaGreatDoor.Vx
