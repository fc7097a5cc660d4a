/- A key is read, by the reference. -/
import Derived.Test.YtlflbkpmfhhikaaGreatDoorKKB
import Derived.Test.YtlflbkpmfhhikaaGreatDoorKKC
import Derived.Test.YtlflbkpmfhhikaaGreatDoorKLP
import Derived.Test.YtlflbkpmfhhikaaGreatDoorKShelf2
import Derived.Test.YtlflbkpmfhhikaaGreatDoorKTS
import Derived.Lib.SmallJoins
import Derived.Lib.AtoiAllCases
import Derived.Test.YtlflbkpmfhhikaaGreatDoorRows
import Derived.Stop.LaidErr
import Derived.LaidMore
import Derived.LaidHandle
import Derived.MakeChecks
set_option maxHeartbeats 16000000
set_option maxRecDepth 100000
set_option linter.unusedVariables false
set_option linter.unusedSimpArgs false
namespace Go.Proofs.YtlflbkpmfhhikaaGreatDoor
open Go Go.Sx Go.Proofs
instance :TIf Tryz.prog 311:=⟨_,Tryz.underlying311⟩
def cutB (c:UInt8):List UInt8→List UInt8×List UInt8×Bool
  | []=>([],[],false)
  | b::r=>if b=c then ([],r,true) else (b::(cutB c r).1,(cutB c r).2.1,(cutB c r).2.2)
theorem qbs_ {c:UInt8} {v:List UInt8}:∀{u:List UInt8},c∉u→cutB c (u++c::v)=(u,v,true)
 | [],_=>by simp [cutB]
 | b::u,h=>by
  have h1:¬b=c:=fun e=>h (List.mem_cons.2 (.inl e.symm));have ih:=qbs_ (v:=v) (u:=u) (fun e=>h (List.mem_cons.2 (.inr e)));simp only [List.cons_append,cutB,ih,if_neg h1]
theorem zbY_ {c:UInt8}:∀{l:List UInt8},(cutB c l).2.2=true→l=(cutB c l).1++c::(cutB c l).2.1
 | [],h=>by cases h
 | b::r,h=>by
  unfold cutB at h⊢;split
  ·next e=>subst e;rfl
  ·next e=>rw [if_neg e] at h;simp only [List.cons_append];rw [←zbY_ (l:=r) h]
theorem zbs_ {c:UInt8}:∀{l:List UInt8},(cutB c l).1.length≤l.length∧(cutB c l).2.1.length≤l.length
 | []=>by simp [cutB]
 | b::r=>by
  have:=zbs_ (c:=c) (l:=r);unfold cutB;split
  ·simp
  ·simp only [List.length_cons];omega
theorem zcn_ {c:UInt8}:∀{l:List UInt8},(Lib.indexByte l c= -1∧cutB c l=(l,[],false))∨∃j:Nat,j<l.length∧Lib.indexByte l c=j∧cutB c l=(l.take j,l.drop (j+1),true)
 | []=> .inl ⟨rfl,rfl⟩
 | b::r=>by
  by_cases e:b=c
  ·subst e;exact .inr ⟨0,by simp,by simp [Lib.indexByte],by simp [cutB]⟩
  ·have hb:(b==c)=false:=by simpa using e
   rcases zcn_ (c:=c) (l:=r) with ⟨h1,h2⟩ | ⟨j,h0,h1,h2⟩
   ·exact .inl ⟨by simp [Lib.indexByte,hb,h1],by simp [cutB,e,h2]⟩
   ·refine .inr ⟨j+1,by simp;omega,?_,by simp [cutB,e,h2]⟩;have h3:¬((j:Int)= -1):=by omega
    simp [Lib.indexByte,hb,h1,h3]
def preB (c:UInt8):List UInt8→List UInt8×Bool
  | []=>([],false)
  | b::r=>if b=c then (r,true) else (b::r,false)
theorem Qcn_ {c:UInt8} {l:List UInt8}:Lib.trimPrefix l [c]=(preB c l).1∧Lib.hasPrefix l [c]=(preB c l).2:=by
 cases l with
 | nil=>simp [Lib.trimPrefix,Lib.hasPrefix,preB]
 | cons b r=>
  unfold preB Lib.trimPrefix Lib.hasPrefix;by_cases e:b=c
  ·subst e;simp [List.isPrefixOf]
  ·have h1:(c==b)=false:=by simpa using fun h:c=b=>e h.symm
   have h2:[c].isPrefixOf (b::r)=false:=by simp [List.isPrefixOf,h1]
   simp [e,h2]
theorem Zcn_ {c:UInt8} {l:List UInt8}:(preB c l).1.length≤l.length:=by
 cases l with
 | nil=>simp [preB]
 | cons b r=>by_cases e:b=c<;>simp [preB,e]
theorem zcX_ {c:UInt8} {l:List UInt8} (h:(preB c l).2=true):l=c::(preB c l).1:=by
 cases l with
 | nil=>cases h
 | cons b r=>
  by_cases e:b=c
  ·subst e;simp [preB]
  ·simp [preB,e] at h
theorem QcX_ {W0:World} {H:Heap} {l:List UInt8} {c:UInt8}:
  Ct Tryz.prog 198 #[.string (sb l),.string (sb [c])] W0 H [] (fun r H' B=>r=I (Lib.indexByte l c)∧B=[]∧H'=H):=
 qbV_ fun w _=>(Tryz.stringslite_Index_one (sb l) c w).mono fun e w' ⟨h1,h2⟩=>⟨by rw [h1,zU_],h2▸.refl _ _⟩
instance :TFn Tryz.prog 184:=⟨Tryz.call184⟩
instance :TBody Tryz.prog 184 Tryz.f184 (Tryz.f184.body.getD .skip) 23:=⟨Tryz.func184,rfl,Tryz.ntmps184⟩
instance :TFn Tryz.prog 198:=⟨Tryz.call198⟩
def cutV (c:UInt8) (l:List UInt8):Value:= .tuple #[.string (sb (cutB c l).1),.string (sb (cutB c l).2.1),.bool (cutB c l).2.2]
theorem ZcX_ {W0:World} {H:Heap} {l:List UInt8} {c:UInt8} (hl:l.length≤zb_):
  Ct Tryz.prog 184 #[.string (sb l),.string (sb [c])] W0 H [] (fun r H' B=>r=cutV c l∧B=[]∧H'=H):=by
 refine Ct.go fun R=>?_;simp only [zb_] at hl;refine walk ?_;refine Qg_ rfl rfl QcX_ ?_;rcases zcn_ (c:=c) (l:=l) with ⟨h1,h2⟩ | ⟨j,h0,h1,h2⟩
 ·rw [h1];refine walk ?_;refine fin0 ?_;exact ⟨by unfold cutV;rw [h2],rfl,rfl⟩
 ·rw [h1];refine walk ?_;rw [show ((sb [c]).size:Int)=1 from rfl];refine walk ?_;refine fin0 ?_;exact ⟨by unfold cutV;rw [h2],rfl,rfl⟩
theorem qbG_ {W0:World} {H:Heap} {l:List UInt8} {c:UInt8} (hl:l.length≤zb_):
  Ct Tryz.prog 157 #[.string (sb l),.string (sb [c])] W0 H [] (fun r H' B=>r=cutV c l∧B=[]∧H'=H):=by
 refine Ct.go fun R=>?_;refine walk ?_;refine Qg_ rfl rfl (ZcX_ hl) ?_;unfold cutV;exact v63_
theorem zbG_ {W0:World} {H:Heap} {l:List UInt8} {c:UInt8}:
  Ct Tryz.prog 159 #[.string (sb l),.string (sb [c])] W0 H [] (fun r H' B=>r= .tuple #[.string (sb (preB c l).1),.bool (preB c l).2]∧B=[]∧H'=H):=
 qbV_ fun w _=>(Tryz.strings_CutPrefix (sb l) (sb [c]) w).mono fun e w' ⟨h1,h2⟩=>⟨by rw [h1,zU_,zU_,Qcn_.1,Qcn_.2],h2▸.refl _ _⟩
structure PkH (H:Heap):Prop where
  tab:TabH Tryz.prog H
  syn : ∃ tp p, VarH Tryz.prog H "strconv.ErrSyntax" [.iface tp p]
  ran : ∃ tp p, VarH Tryz.prog H "strconv.ErrRange" [.iface tp p]
theorem PkH.mono {H H':Heap} (h:PkH H) (hl:H.le H'):PkH H':=⟨h.tab.mono hl,let ⟨a,b,c⟩:=h.syn;⟨a,b,c.mono hl⟩,let ⟨a,b,c⟩:=h.ran;⟨a,b,c.mono hl⟩⟩
def zei_ (l:List UInt8) (r:Value):Prop:=(∃v,Lib.atoiAll l= .ok v∧r= .tuple #[I v,.nilIface])∨((∀v,Lib.atoiAll l≠.ok v)∧∃n t u,r= .tuple #[I n,.iface t u])
theorem qcY_ {W0:World} {H:Heap} {l:List UInt8} (hP:PkH H) (hl:l.length≤zb_):
  Ct Tryz.prog 185 #[.string (sb l)] W0 H [] (fun r H' B=>zei_ l r∧B=[]∧H'=H):=by
 have hs:(sb l).size≤281474976710656:=by rw [zat_];simp only [zb_] at hl;omega
 refine qdp_ fun w hw=>?_
 cases h:Lib.atoiAll l
 ·next v=>
  refine (Tryz.strconv_Atoi_ok (sb l) (by omega) v (by rw [zU_];exact h) w).mono fun e w' ⟨h1,h2⟩=>⟨_,h1,.inl ⟨v,h,rfl⟩,?_⟩;rcases h2 with rfl | ⟨t,rfl⟩
  ·exact .refl _ _
  ·exact Joins.below_bytesWorld _ w _ _ (Nat.le_refl _)
 ·obtain ⟨tp,p,hv⟩:=hP.syn;refine (Any.strconv_Atoi_syntax_var Tryz.laysC172 (sb l) hs (by rw [zU_];exact h) tp p w (hv.var hw)).mono fun e w' ⟨N,h1,_,_,h2⟩=>⟨_,h1,.inr ⟨fun v e=>(by rw [h] at e;cases e),_,_,_,rfl⟩,h2⟩
 ·obtain ⟨tp,p,hv⟩:=hP.ran;refine (Any.strconv_Atoi_range_var Tryz.laysC172 (sb l) hs (by rw [zU_];exact h) tp p w (hv.var hw)).mono fun e w' ⟨N,h1,_,_,h2⟩=>⟨_,h1,.inr ⟨fun v e=>(by rw [h] at e;cases e),_,_,_,rfl⟩,h2⟩
theorem QbG_ {v:List UInt8}:∀{u:List UInt8} {a b:Nat},Lib.parseUint10 a u= .ok b→Lib.parseUint10 a (u++v)=Lib.parseUint10 b v
 | [],a,b,h=>by simp only [Lib.parseUint10] at h;cases h;rfl
 | c::u,a,b,h=>by
  simp only [Lib.parseUint10,List.cons_append] at h⊢;split at h
  ·next h1=>
   rw [if_pos h1];split at h
   ·cases h
   ·next h2=>
    rw [if_neg h2];split at h
    ·cases h
    ·next h3=>rw [if_neg h3];exact QbG_ h
  ·cases h
theorem Qdu_:∀{n:Nat},n<10000000000000000000→Lib.parseUint10 0 (nd n)= .ok n:=fun {n}=>by
 induction n using Nat.strongRecOn with
 | ind n ih=>
  intro hn;by_cases h0:n=0
  ·subst h0;simp [nd,Lib.parseUint10]
  ·have hd:=Zbs_ (k:=n);rw [qag_ h0,QbG_ (ih (n/10) (by omega) (by omega))];simp only [Lib.parseUint10];rw [hd,if_pos (by omega),if_neg (by omega),if_neg (by omega)];congr 1;omega
theorem Qbs_ {v:Int} (h0:0≤v) (h1:v≤1073741824):Lib.atoiAll (dgs v)= .ok v:=by
 have hp:Lib.parseUint10 0 (dgs v)= .ok v.toNat:=by
  unfold dgs;split
  ·next h=>subst h;simp [Lib.parseUint10]
  ·rw [if_neg (by omega),show v.natAbs=v.toNat by omega];exact Qdu_ (by omega)
 have hd:=zag_ h0
 cases hl:dgs v with
 | nil=>
  exfalso;unfold dgs at hl;split at hl
  ·cases hl
  ·rw [if_neg (by omega),qag_ (by omega)] at hl;simp at hl
 | cons c r=>
  rw [hl] at hp hd;have hc:=hd c (by simp);unfold isDig at hc;have hm:Lib.parseMag (c::r)= .ok v.toNat:=by unfold Lib.parseMag;rw [if_neg (by simp)];exact hp
  unfold Lib.atoiAll;simp only;rw [if_neg (by omega),hm];simp only;rw [if_neg (by omega),if_neg (by omega),if_neg (by omega)];congr 1;omega
open Classical in
noncomputable def numL (l:List UInt8):Option Int:=if h:∃v,(0≤v∧v≤1073741824)∧dgs v=l then some h.choose else none
theorem qM_ {l:List UInt8} {v:Int}:numL l=some v↔(0≤v∧v≤1073741824)∧dgs v=l:=by
 unfold numL;constructor
 ·intro h;split at h
  ·next hh=>cases h;exact hh.choose_spec
  ·cases h
 ·intro h;have hh:∃v,(0≤v∧v≤1073741824)∧dgs v=l:=⟨v,h⟩;rw [dif_pos hh];have h2:=hh.choose_spec;rw [ZaF_ h2.1.1 h.1.1 (h2.2.trans h.2.symm)]
def NumP (l:List UInt8) (r:Value):Prop:=∃n,r= .tuple #[I n,.bool (numL l).isSome]∧∀v,numL l=some v→n=v
theorem zab_ {W0:World} {H:Heap} {l:List UInt8} (hP:PkH H) (hl:l.length≤zb_):
  Ct Tryz.prog 158 #[.string (sb l)] W0 H [] (fun r H' B=>NumP l r∧B=[]∧H'=H):=by
 refine Ct.go fun R=>?_;refine walk ?_;refine Za_ rfl rfl (qcY_ hP hl) fun r1 H1 B hl1 ⟨hr,eB,eH⟩=>?_;subst eB eH;rcases hr with ⟨v,h,rfl⟩ | ⟨hno,n,t,u,rfl⟩
 ·have hb:=Lib.atoiAll_bounds h;have hf:fits v:=by unfold fits;omega
  refine ZI_ ?_;refine qaf_ rfl rfl (fun hg=>ZcZ_ hP.tab hf) ?_;refine ZI_ ?_;refine fin0 ?_;refine ⟨⟨v,?_,fun v' h'=>?_⟩,rfl,rfl⟩
  ·by_cases h2:(0≤v∧v≤1073741824)∧dgs v=l
   ·rw [qM_.2 h2,decide_eq_true (p:=_∧_) ⟨h2.1,by rw [h2.2]⟩];rfl
   ·have hnone:numL l=none:=by
     cases h3:numL l with
     | none=>rfl
     | some v'=>
      obtain ⟨h4,h5⟩:=qM_.1 h3;have h6:=Qbs_ h4.1 h4.2;rw [h5,h] at h6
      cases h6
      exact absurd ⟨h4,h5⟩ h2
    rw [hnone,decide_eq_false (p:=_∧_) (fun h3=>h2 ⟨h3.1,zck_ h3.2⟩)];rfl
  ·obtain ⟨h1,h2⟩:=qM_.1 h';have h3:=Qbs_ h1.1 h1.2;rw [h2,h] at h3
   cases h3;rfl
 ·have hnone:numL l=none:=by
   cases h:numL l with
   | none=>rfl
   | some v=>
    obtain ⟨h1,h2⟩:=qM_.1 h;exact absurd (by rw [←h2];exact Qbs_ h1.1 h1.2) (hno v)
  refine ZI_ ?_;refine fin0 ?_;exact ⟨⟨n,by rw [hnone];rfl,fun v h=>(by rw [hnone] at h;cases h)⟩,rfl,rfl⟩
def isKey (l:List UInt8) (k:Int×Int×Int):Prop:=(k.2.1= -1∧zy_ k.1∧zy_ k.2.2∧l=Qac_ k.1 k.2.2)∨(zy_ k.1∧zy_ k.2.1∧k.1<k.2.1∧zy_ k.2.2∧l=QR_ k.1 k.2.1 k.2.2)
theorem isKey.uniq {l:List UInt8} {k k':Int×Int×Int} (h:isKey l k) (h':isKey l k'):k=k':=by
 obtain ⟨a,b,t⟩:=k;obtain ⟨a',b',t'⟩:=k';simp only [isKey,zy_] at h h';rcases h with ⟨h1,h2,h3,h4⟩ | ⟨h1,h2,h3,h4,h5⟩
 ·rcases h' with ⟨g1,g2,g3,g4⟩ | ⟨g1,g2,g3,g4,g5⟩
  ·obtain ⟨e1,e2⟩:=zdv_ h2.1 g2.1 h3.1 g3.1 (h4.symm.trans g4);rw [e1,e2,h1,g1]
  ·exact absurd (h4.symm.trans g5) qbH_
 ·rcases h' with ⟨g1,g2,g3,g4⟩ | ⟨g1,g2,g3,g4,g5⟩
  ·exact absurd (g4.symm.trans h5) qbH_
  ·obtain ⟨⟨e1,e2⟩,e3⟩:=Qdv_ h1.1 h2.1 g1.1 g2.1 h4.1 g4.1 (h5.symm.trans g5);rw [show a=a' by omega,show b=b' by omega,e3]
def ReadP (l:List UInt8) (r:Value):Prop:=(∃k,isKey l k∧r= .tuple #[.agg #[I k.1,I k.2.1,I k.2.2],.bool true])∨((∀k,¬isKey l k)∧r= .tuple #[.agg #[I 0,I 0,I 0],.bool false])
theorem qco_ {c:UInt8} (hc:¬isDig c) {n:Int} (h:0≤n):c∉dgs n:=fun e=>hc (zag_ h c e)
theorem nd64:¬isDig 64:=by unfold isDig;decide
theorem nd45:¬isDig 45:=by unfold isDig;decide
theorem Zaz_ {n:Int} (h:zy_ n):numL (dgs n)=some n:=qM_.2 ⟨h,rfl⟩
theorem Zdu_ {c t:Int} (h:zy_ c):cutB 64 (Qac_ c t)=(99::dgs c,dgs t,true):=by
 have:Qac_ c t=(99::dgs c)++64::dgs t:=by simp [Qac_]
 rw [this,qbs_];intro e;rcases List.mem_cons.1 e with e | e
 ·cases e
 ·exact qco_ nd64 h.1 e
theorem qdv_ {a b t:Int} (ha:zy_ a) (hb:zy_ b) (hab:a<b):cutB 64 (QR_ a b t)=(112::(dgs a++45::dgs b),dgs t,true)∧cutB 45 (dgs a++45::dgs b)=(dgs a,dgs b,true):=by
 have:QR_ a b t=(112::(dgs a++45::dgs b))++64::dgs t:=by
  unfold QR_;rw [show min a b=a by omega,show max a b=b by omega];simp
 refine ⟨?_,qbs_ (qco_ nd45 ha.1)⟩;rw [this,qbs_];intro e;rcases List.mem_cons.1 e with e | e
 ·cases e
 ·rcases List.mem_append.1 e with e | e
  ·exact qco_ nd64 ha.1 e
  ·rcases List.mem_cons.1 e with e | e
   ·cases e
   ·exact qco_ nd64 hb.1 e
theorem zcY_ {l:List UInt8} {k:Int×Int×Int} (h:isKey l k):(cutB 64 l).2.2=true∧numL (cutB 64 l).2.1=some k.2.2∧
  ((k.2.1= -1∧preB 99 (cutB 64 l).1=(dgs k.1,true)∧numL (dgs k.1)=some k.1)∨((preB 99 (cutB 64 l).1).2=false∧(preB 112 (cutB 64 l).1).2=true∧(cutB 45 (preB 112 (cutB 64 l).1).1).2.2=true∧numL (cutB 45 (preB 112 (cutB 64 l).1).1).1=some k.1∧numL (cutB 45 (preB 112 (cutB 64 l).1).1).2.1=some k.2.1∧k.1<k.2.1)):=by
 rcases h with ⟨h1,h2,h3,rfl⟩ | ⟨h1,h2,h3,h4,rfl⟩
 ·rw [Zdu_ h2];exact ⟨rfl,Zaz_ h3,.inl ⟨h1,by simp [preB],Zaz_ h2⟩⟩
 ·obtain ⟨e1,e2⟩:=qdv_ (t:=k.2.2) h1 h2 h3;rw [e1];refine ⟨rfl,Zaz_ h4,.inr ⟨by simp [preB],by simp [preB],?_,?_,?_,h3⟩⟩<;>simp only [preB,if_pos]<;>rw [e2]
  ·exact Zaz_ h1
  ·exact Zaz_ h2
theorem Zaf_ {a b:Nat} (h:a≤b) (hb:b≤zb_):a≤zb_:=Nat.le_trans h hb
theorem v46_ {P:Prop} (h:P:=by
 refine walk ?_;refine fin0 ?_;exact ⟨.inr ⟨hno,rfl⟩,rfl,rfl⟩):P:=h
theorem QcY_ {W0:World} {H:Heap} {l:List UInt8} (hP:PkH H) (hl:l.length≤zb_):
  Ct Tryz.prog 135 #[.string (sb l)] W0 H [] (fun r H' B=>ReadP l r∧B=[]∧H'=H):=by
 refine Ct.go fun R=>?_;have lc:=zbs_ (c:=64) (l:=l);have hk:=fun k=>zcY_ (l:=l) (k:=k);have hok:=zbY_ (c:=64) (l:=l);refine walk ?_;refine Qb_ rfl fun p2 _=>?_;refine walk ?_;refine Qg_ rfl rfl (qbG_ (c:=64) hl) ?_;unfold cutV;obtain ⟨pl,tl,ok,hcc⟩:∃pl tl ok,cutB 64 l=(pl,tl,ok):=⟨_,_,_,rfl⟩;simp only [hcc] at lc hk hok⊢;refine walk ?_;refine Za_ rfl rfl (zab_ hP (Zaf_ lc.2 hl)) fun r1 H1 B hl1 ⟨⟨tick,er,htick⟩,eB,eH⟩=>?_;subst er eB eH;refine ZI_ ?_;refine Qe_ rfl (fun hq=>?_) (fun hq=>?_)
 ·have hno:∀k,¬isKey l k:=fun k h=>by
   have h1:=hk k h;rcases hq with h2 | h2
   ·rw [h1.1] at h2;cases h2
   ·rw [h1.2.1] at h2;cases h2
  exact v46_
 have hok1:ok=true:=by cases ok with | true=>rfl | false=>exact absurd (.inl rfl) hq
 subst hok1
 obtain ⟨t,ht⟩:∃t,numL tl=some t:=by
  cases h:numL tl with
  | some t=>exact ⟨t,rfl⟩
  | none=>exact absurd (.inr (by rw [h];rfl)) hq
 obtain rfl:=htick t ht;obtain ⟨tt,et⟩:=qM_.1 ht;have hll:=hok rfl;refine walk ?_;refine Qg_ rfl rfl (zbG_ (c:=99) (l:=pl)) ?_;have lp:=Zcn_ (c:=99) (l:=pl);have hp:=zcX_ (c:=99) (l:=pl);obtain ⟨cell,pre,hpre⟩:∃cell pre,preB 99 pl=(cell,pre):=⟨_,_,rfl⟩;simp only [hpre] at lp hp hk⊢
 cases pre with
 | true=>
  refine walk ?_;refine Za_ rfl rfl (zab_ hP (Zaf_ lp (Zaf_ lc.1 hl))) fun r2 H2 B hl2 ⟨⟨n,er,hn⟩,eB,eH⟩=>?_;subst er eB eH
  cases hc:numL cell with
  | none=>
   have hno:∀k,¬isKey l k:=fun k h=>by
    rcases (hk k h).2.2 with ⟨_,e,f⟩ | ⟨e,_⟩
    ·have e:=congrArg Prod.fst e;simp only at e;rw [e] at hc;rw [hc] at f;cases f
    ·cases e
   rw [show Option.isSome (none:Option Int)=false from rfl];exact v46_
  | some c=>
   obtain rfl:=hn c hc;obtain ⟨tc,ec⟩:=qM_.1 hc;rw [show Option.isSome (some n)=true from rfl];refine walk ?_;refine fin0 ?_;refine ⟨.inl ⟨(n, -1,tick),.inl ⟨rfl,tc,tt,?_⟩,rfl⟩,rfl,rfl⟩;rw [hll,hp rfl,←ec,←et];simp [Qac_]
 | false=>
  refine walk ?_;refine Qg_ rfl rfl (zbG_ (c:=112) (l:=pl)) ?_;have lp2:=Zcn_ (c:=112) (l:=pl);have hp2:=zcX_ (c:=112) (l:=pl);obtain ⟨two,pass,hpass⟩:∃two pass,preB 112 pl=(two,pass):=⟨_,_,rfl⟩;simp only [hpass] at lp2 hp2 hk⊢;refine walk ?_;refine Qg_ rfl rfl (qbG_ (c:=45) (l:=two) (Zaf_ lp2 (Zaf_ lc.1 hl))) ?_;unfold cutV;have lc2:=zbs_ (c:=45) (l:=two);have hok2:=zbY_ (c:=45) (l:=two);obtain ⟨one,other,ok2,hcc2⟩:∃one other ok2,cutB 45 two=(one,other,ok2):=⟨_,_,_,rfl⟩;simp only [hcc2] at lc2 hok2 hk⊢;refine walk ?_;refine Za_ rfl rfl (zab_ hP (Zaf_ lc2.1 (Zaf_ lp2 (Zaf_ lc.1 hl)))) fun r3 H3 B hl3 ⟨⟨a,er,ha⟩,eB,eH⟩=>?_;subst er eB eH;refine walk ?_;refine Za_ rfl rfl (zab_ hP (Zaf_ lc2.2 (Zaf_ lp2 (Zaf_ lc.1 hl)))) fun r4 H4 B hl4 ⟨⟨b,er,hb⟩,eB,eH⟩=>?_;subst er eB eH;refine ZI_ ?_;refine Qe_ rfl (fun hq2=>?_) (fun hq2=>?_)
  ·have hno:∀k,¬isKey l k:=fun k h=>by
    rcases (hk k h).2.2 with ⟨_,e,_⟩ | ⟨_,e1,e2,e3,e4,e5⟩
    ·cases e
    ·have:=ha _ e3;have:=hb _ e4;rw [e1,e2,e3,e4] at hq2;rcases hq2 with (((h | h) | h) | h) | h
     ·cases h
     ·cases h
     ·cases h
     ·cases h
     ·omega
   exact v46_
  ·have hpa:pass=true:=by cases pass with | true=>rfl | false=>exact absurd (.inl (.inl (.inl (.inl rfl)))) hq2
   have hoa:ok2=true:=by cases ok2 with | true=>rfl | false=>exact absurd (.inl (.inl (.inl (.inr rfl)))) hq2
   subst hpa hoa
   obtain ⟨a',ha'⟩:∃a',numL one=some a':=by
    cases h:numL one with
    | some t=>exact ⟨t,rfl⟩
    | none=>exact absurd (.inl (.inl (.inr (by rw [h];rfl)))) hq2
   obtain ⟨b',hb'⟩:∃b',numL other=some b':=by
    cases h:numL other with
    | some t=>exact ⟨t,rfl⟩
    | none=>exact absurd (.inl (.inr (by rw [h];rfl))) hq2
   obtain rfl:=ha a' ha';obtain rfl:=hb b' hb';obtain ⟨ta,ea⟩:=qM_.1 ha';obtain ⟨tb,eb⟩:=qM_.1 hb'
   have hab:a<b:=by
    by_cases h:b≤a
    ·exact absurd (.inr h) hq2
    ·omega
   refine walk ?_;refine fin0 ?_;refine ⟨.inl ⟨(a,b,tick),.inr ⟨ta,tb,hab,tt,?_⟩,rfl⟩,rfl,rfl⟩;rw [hll,hp2 rfl,hok2 rfl,←ea,←eb,←et];unfold QR_;rw [show min a b=a by omega,show max a b=b by omega];simp
end Go.Proofs.YtlflbkpmfhhikaaGreatDoor
namespace Go.Proofs.YtlflbkpmfhhikaaGreatDoor
open Go Go.Sx Go.Proofs Go.ChangeShapes Go.WideShapes Go.ChangeAt Go.RowKit
theorem own0:ownKnob Tryz.prog.godebug=none:=by kernel_rfl
theorem Zek_:laidOutB Tryz.prog=true:=by kernel_rfl
theorem qcg_ {W:World} {name:String} {cs:List Value} (h:W.var? Tryz.prog name=some cs.toArray):VarH Tryz.prog (hp W) name cs:=by
 unfold World.var? at h
 cases hg:Tryz.prog.globalNamed name with
 | none=>rw [hg] at h;cases h
 | some g=>
  rw [hg] at h;simp only [Option.bind_some] at h;split at h
  ·next cs' T f hc=>cases h;exact ⟨g,T,f,hg,hc⟩
  ·cases h
theorem Zef_ {W : World} {r : List (String × DataW Unit)} (h : laidMet Tryz.prog (("internal/strconv.uint64pow10", Rows.laid_internal_strconv_uint64pow10) :: r) W) : TabH Tryz.prog (hp W) := by
  exact qcg_ (Lib.tabIs_of_head (g:=3) (k:= .u64) (zs:=Lib.pow10Tab) (rest:=r) (t:=355) (e:=299) (n:=20) (by kernel_rfl) (by kernel_rfl) Tryz.underlying355 Tryz.underlying299 (by kernel_rfl) (by kernel_rfl) h)
def zef_ : List (String × DataW Unit) := [("math/bits.deBruijn32tab", Rows.laid_math_bits_deBruijn32tab), ("math/bits.deBruijn64tab", Rows.laid_math_bits_deBruijn64tab), ("internal/strconv.uint64pow10", Rows.laid_internal_strconv_uint64pow10), ("strconv.ErrRange", Rows.laid_strconv_ErrRange), ("strconv.ErrSyntax", Rows.laid_strconv_ErrSyntax)]
theorem Qef_ : "*" ++ "errors.errorString" = "*errors.errorString" := by decide
theorem qdC_ (u : TypeId) (h : Tryz.prog.typeName? 3 u = some "*errors.errorString") : u = 351 :=
  typeName_ptr_named (nm := "errors.errorString") (by rw [Qef_]; kernel_rfl) (by kernel_rfl) (by decide) u (by rw [Qef_]; exact h)
theorem tab5 {W:World} (h:laidMetH Tryz.prog zef_ W):PkH (hp W):=by
 rw [MakeChecks.laidMetH_plain _ _ _ (by kernel_rfl)] at h;have h2:=laidMet.tail (laidMet.tail h);have h3:=laidMet.tail h2;have h4:=laidMet.tail h3;obtain ⟨a0,s0,hv0, -, -, -⟩:=laid_sentinel (g:=2) h3 (by kernel_rfl) (by kernel_rfl) Tryz.underlying311 qdC_ Tryz.underlying351 Tryz.underlying353 rfl rfl Tryz.underlying9 (by kernel_rfl) (by kernel_rfl);obtain ⟨a1,s1,hv1, -, -, -⟩:=laid_sentinel (g:=1) h4 (by kernel_rfl) (by kernel_rfl) Tryz.underlying311 qdC_ Tryz.underlying351 Tryz.underlying353 rfl rfl Tryz.underlying9 (by kernel_rfl) (by kernel_rfl);exact ⟨Zef_ h2,⟨_,_,qcg_ hv1⟩,⟨_,_,qcg_ hv0⟩⟩
theorem Qek_ (os:Os) (args:Array Value):laidMetH Tryz.prog zef_ ((World.doorLaid Tryz.prog 62 os).forCall (fun _ _=>0) ⟨#[],args,[]⟩).memory:=
 laidMetH_of_parts3 (fuel:=8) (laidMet_of_run' 8 (by kernel_rfl) (by kernel_rfl)) (by kernel_rfl) (by kernel_rfl)
end Go.Proofs.YtlflbkpmfhhikaaGreatDoor
namespace Go.Proofs.YtlflbkpmfhhikaaGreatDoor
open Go Go.Sx Go.Proofs
def digC (n:Nat):List UInt8→Nat×Nat
  | []=>(n,0)
  | c::r=>if (48≤c.toNat∧c.toNat≤57)∧n<1000000000000 then ((digC (10*n+(c.toNat - 48)) r).1,(digC (10*n+(c.toNat - 48)) r).2+1) else (n,0)
theorem Qbr_:∀{l:List UInt8} {n:Nat},(digC n l).2≤l.length
 | [],n=>by simp [digC]
 | c::r,n=>by
  have:=Qbr_ (l:=r) (n:=10*n+(c.toNat - 48));unfold digC;split
  ·simp only [List.length_cons];omega
  ·simp
theorem QaX_:∀{l:List UInt8} {n:Nat},n<10000000000009→(digC n l).1<10000000000009
 | [],n,h=>h
 | c::r,n,h=>by
  unfold digC;split
  ·next h1=>exact QaX_ (by omega)
  ·exact h
theorem Zbr_ {v:List UInt8}:∀{u:List UInt8} {a b:Nat},digC a u=(b,u.length)→digC a (u++v)=((digC b v).1,u.length+(digC b v).2)
 | [],a,b,h=>by simp only [digC,List.length_nil,Prod.mk.injEq,and_true] at h;subst h;simp
 | c::u,a,b,h=>by
  by_cases h1:(48≤c.toNat∧c.toNat≤57)∧a<1000000000000
  ·simp only [digC,if_pos h1,List.cons_append,List.length_cons,Prod.mk.injEq] at h⊢;have ih:=Zbr_ (v:=v) (u:=u) (a:=10*a+(c.toNat - 48)) (b:=b) (Prod.ext h.1 (by have:=h.2;simp only;omega));rw [ih];exact ⟨rfl,by simp only;omega⟩
  ·simp [digC,h1] at h
theorem zdM_ {n:Nat}:n<10000000000000→digC 0 (nd n)=(n,(nd n).length):=by
 induction n using Nat.strongRecOn with
 | ind n ih=>
  intro hn;by_cases h0:n=0
  ·subst h0;simp [nd,digC]
  ·have hd:=Zbs_ (k:=n)
   have hs:digC (n/10) [UInt8.ofNat (48+n % 10)]=(n,1):=by
    simp only [digC,hd];rw [if_pos (by omega)];simp only [Prod.mk.injEq,and_true];omega
   rw [qag_ h0,Zbr_ (ih (n/10) (by omega) (by omega)),hs];simp
theorem ZcW_ {n:Nat} {x:UInt8} {r:List UInt8} (hx:¬isDig x):digC n (x::r)=(n,0):=by
 unfold digC;rw [if_neg];rintro ⟨h,_⟩;exact hx h
theorem qaO_ {t:Int} (h:zy_ t) {r:List UInt8} (hr:r=[]∨∃x q,r=x::q∧¬isDig x):digC 0 (dgs t++r)=(t.toNat,(dgs t).length):=by
 have hd:digC 0 (dgs t)=(t.toNat,(dgs t).length):=by
  unfold dgs;split
  ·next h=>subst h;rfl
  ·rw [if_neg (by simp only [zy_] at h;omega),show t.natAbs=t.toNat by omega];exact zdM_ (by simp only [zy_] at h;omega)
 rw [Zbr_ hd];rcases hr with rfl | ⟨x,q,rfl,hx⟩
 ·simp [digC]
 ·rw [ZcW_ hx];simp
theorem zT_ {W0:World} {H:Heap} {l:List UInt8} {at0:Nat} (hl:l.length≤zb_) (ha:at0≤zb_+2):
  Ct Tryz.prog 180 #[.string (sb l),I at0] W0 H [] (fun r H' B=>r= .tuple #[I (digC 0 (l.drop at0)).1,I (at0+(digC 0 (l.drop at0)).2:Nat)]∧B=[]∧H'=H):=by
 refine Ct.go fun R=>?_;simp only [zb_] at hl ha;have hsz:(sb l).size=l.length:=zat_ l;refine walk ?_;refine Qc_ (σ:=Nat×Nat) (fun s=>s.1<10000000000009∧(at0≤s.2∧(s.2≤l.length∨s.2=at0))∧(digC 0 (l.drop at0)).1=(digC s.1 (l.drop s.2)).1∧at0+(digC 0 (l.drop at0)).2=s.2+(digC s.1 (l.drop s.2)).2) (fun s=>[(0,.string (sb l)),(1,I s.2),(6,I s.1)]) (fun _=>H) (fun _=>R) (fun s=>l.length - s.2) (0,at0) ⟨by simp,⟨by simp,.inr rfl⟩,rfl,rfl⟩ fun ⟨n,p⟩ ⟨hn,hp,h1,h2⟩ K hL=>?_;simp only at hn hp h1 h2;dsimp only;refine ZI_ ?_;refine Qe_ rfl (fun hc=>?_) (fun hc=>?_)
 ·obtain ⟨⟨⟨c1,c2⟩,c3⟩,c4⟩:=hc;have hpl:p<l.length:=by omega
  have hdrop:l.drop p=l.getD p 0::l.drop (p+1):=by rw [List.drop_eq_getElem_cons hpl];simp [List.getD,hpl]
  rw [hdrop] at h1 h2;have hpi:p<l.length:=hpl
  have hw:∀x:UInt8,(48:Int)≤x.toNat→IntKind.u8.wrap ((x.toNat:Int) - 48)=((x.toNat - 48:Nat):Int):=fun x hx=>by
   have:=x.toNat_lt;simp [IntKind.wrap,IntKind.bits,IntKind.signed];omega
  have hf1:fits (10*(n:Int)):=by unfold fits;omega
  refine walk ?_;rw [hw _ c2];have hf2:fits (((l.getD p 0).toNat - 48:Nat):Int):=by unfold fits;omega
  refine walk ?_
  have hstep:digC n (l.getD p 0::l.drop (p+1))=((digC (10*n+((l.getD p 0).toNat - 48)) (l.drop (p+1))).1,(digC (10*n+((l.getD p 0).toNat - 48)) (l.drop (p+1))).2+1):=by
   rw [digC,if_pos ⟨⟨by omega,by omega⟩,by omega⟩]
  rw [hstep] at h1 h2;refine Zb_ hL (10*n+((l.getD p 0).toNat - 48),p+1) ⟨by simp only;omega,by simp only;omega,h1,by simp only at h2⊢;omega⟩
 ·clear hL
  have hend:digC n (l.drop p)=(n,0):=by
   by_cases hpl:p<l.length
   ·rw [List.drop_eq_getElem_cons hpl,digC,if_neg];rintro ⟨e1,e2⟩;have hg:l.getD p 0=l[p]:=by simp [List.getD,hpl]
    exact hc ⟨⟨⟨by omega,by rw [hg];omega⟩,by rw [hg];omega⟩,by omega⟩
   ·rw [List.drop_eq_nil_of_le (by omega)];rfl
  rw [hend] at h1 h2;refine walk ?_;refine fin0 ?_;exact ⟨by rw [h1,h2];simp,rfl,rfl⟩
theorem qcX_ {t:Int} (h:zy_ t):digC 0 (dgs t)=(t.toNat,(dgs t).length):=by
 have:=qaO_ h (r:=[]) (.inl rfl);rwa [List.append_nil] at this
theorem Qbh_ {c t:Int} (hc:zy_ c) (ht:zy_ t):digC 0 ((Qac_ c t).drop 1)=(c.toNat,(dgs c).length)∧(Qac_ c t).getD (1+(dgs c).length) 0=64∧digC 0 ((Qac_ c t).drop (1+(dgs c).length+1))=(t.toNat,(dgs t).length):=by
 have e:Qac_ c t=99::(dgs c++64::dgs t):=by simp [Qac_]
 rw [e];refine ⟨qaO_ hc (.inr ⟨64,_,rfl,nd64⟩),?_,?_⟩
 ·rw [Nat.add_comm];simp [List.getD]
 ·rw [show 1+(dgs c).length+1=((dgs c).length+1)+1 by omega,List.drop_succ_cons,List.drop_append,List.drop_of_length_le (by omega)];simp only [List.nil_append,show (dgs c).length+1 - (dgs c).length=1 by omega,List.drop_succ_cons,List.drop_zero];exact qcX_ ht
theorem Zbh_ {a b t:Int} (ha:zy_ a) (hb:zy_ b) (hab:a<b) (ht:zy_ t):digC 0 ((QR_ a b t).drop 1)=(a.toNat,(dgs a).length)∧(1+(dgs a).length<(QR_ a b t).length∧(QR_ a b t).getD (1+(dgs a).length) 0=45)∧
  digC 0 ((QR_ a b t).drop (1+(dgs a).length+1))=(b.toNat,(dgs b).length)∧digC 0 ((QR_ a b t).drop (1+(dgs a).length+1+(dgs b).length+1))=(t.toNat,(dgs t).length):=by
 have e:QR_ a b t=112::(dgs a++45::(dgs b++64::dgs t)):=by
  unfold QR_;rw [show min a b=a by omega,show max a b=b by omega];simp
 rw [e]
 have h1:(112::(dgs a++45::(dgs b++64::dgs t))).drop (1+(dgs a).length+1)=dgs b++64::dgs t:=by
  rw [show 1+(dgs a).length+1=((dgs a).length+1)+1 by omega,List.drop_succ_cons,List.drop_append,List.drop_of_length_le (by omega)];simp only [List.nil_append,show (dgs a).length+1 - (dgs a).length=1 by omega,List.drop_succ_cons,List.drop_zero]
 refine ⟨qaO_ ha (.inr ⟨45,_,rfl,nd45⟩),⟨by simp;omega,by rw [Nat.add_comm];simp [List.getD]⟩,by rw [h1];exact qaO_ hb (.inr ⟨64,_,rfl,nd64⟩),?_⟩;rw [show 1+(dgs a).length+1+(dgs b).length+1=(1+(dgs a).length+1)+((dgs b).length+1) by omega,←List.drop_drop,h1,List.drop_append,List.drop_of_length_le (by omega)];simp only [List.nil_append,show (dgs b).length+1 - (dgs b).length=1 by omega,List.drop_succ_cons,List.drop_zero];exact qcX_ ht
theorem QX_ {c:Int} (h:zy_ c):((c.toNat:Nat):Int)=c:=by simp only [zy_] at h;omega
theorem Zeh_ {l:List UInt8} {k:Int×Int×Int} {a na b nb t nt:Nat} (h:isKey l k) (ha:digC 0 (l.drop 1)=(a,na)) (hd:((l.getD (1+na) 0).toNat:Int)=45) (hb:digC 0 (l.drop (1+na+1))=(b,nb)) (ht:digC 0 (l.drop (1+na+1+nb+1))=(t,nt)):
  k=((a:Int),(b:Int),(t:Int))∧zy_ k.1∧zy_ k.2.1∧k.1<k.2.1∧zy_ k.2.2∧l=QR_ k.1 k.2.1 k.2.2:=by
 obtain ⟨x,y,z⟩:=k;rcases h with ⟨h1,h2,h3,h4⟩ | ⟨h1,h2,h3,h4,h5⟩
 ·exfalso;obtain ⟨p1,p2,p3⟩:=Qbh_ h2 h3;rw [←h4] at p1 p2 p3;rw [ha] at p1;have e:=congrArg Prod.snd p1;simp only at e;rw [e,p2] at hd;exact absurd hd (by decide)
 ·obtain ⟨p1,p2,p3,p4⟩:=Zbh_ h1 h2 h3 h4;rw [←h5] at p1 p2 p3 p4;rw [ha] at p1;have e1:=congrArg Prod.fst p1;have e2:=congrArg Prod.snd p1;simp only at e1 e2;rw [←e2] at p3 p4;rw [hb] at p3;have e3:=congrArg Prod.fst p3;have e4:=congrArg Prod.snd p3;simp only at e3 e4;rw [←e4,ht] at p4;have e5:=congrArg Prod.fst p4;simp only at e5;refine ⟨?_,h1,h2,h3,h4,h5⟩;rw [e1,e3,e5,QX_ h1,QX_ h2,QX_ h4]
theorem qei_ {l:List UInt8} {k:Int×Int×Int} {a na t nt:Nat} (h:isKey l k) (ha:digC 0 (l.drop 1)=(a,na)) (hd:¬(1+na<l.length∧((l.getD (1+na) 0).toNat:Int)=45)) (ht:digC 0 (l.drop (1+na+1))=(t,nt)):
  k=((a:Int), -1,(t:Int))∧zy_ k.1∧zy_ k.2.2∧l=Qac_ k.1 k.2.2:=by
 obtain ⟨x,y,z⟩:=k;rcases h with ⟨h1,h2,h3,h4⟩ | ⟨h1,h2,h3,h4,h5⟩
 ·obtain ⟨p1,p2,p3⟩:=Qbh_ h2 h3;rw [←h4] at p1 p2 p3;rw [ha] at p1;have e1:=congrArg Prod.fst p1;have e2:=congrArg Prod.snd p1;simp only at e1 e2 h1;rw [←e2,ht] at p3;have e5:=congrArg Prod.fst p3;simp only at e5;refine ⟨?_,h2,h3,h4⟩;rw [e1,e5,QX_ h2,QX_ h3,h1]
 ·exfalso;obtain ⟨p1,p2,p3,p4⟩:=Zbh_ h1 h2 h3 h4;rw [←h5] at p1 p2 p3 p4;rw [ha] at p1;have e2:=congrArg Prod.snd p1;simp only at e2;rw [←e2] at p2;exact hd ⟨p2.1,by rw [p2.2];decide⟩
theorem zcy_ {W0:World} {H:Heap} {l:List UInt8} (hl:l.length≤zb_):
  Ct Tryz.prog 153 #[.string (sb l)] W0 H [] (fun r H' B=>ReadP l r∧B=[]∧H'=H):=by
 refine Ct.go fun R=>?_;have hsz:(sb l).size=l.length:=zat_ l;have hl':=hl;simp only [zb_] at hl';refine walk ?_;refine Qb_ rfl fun p2 _=>?_;refine walk ?_;refine Qb_ rfl fun p4 _=>?_;refine walk ?_;refine Qg_ rfl rfl (zT_ (at0:=1) hl (by simp only [zb_];omega)) ?_;have n1:=Qbr_ (l:=l.drop 1) (n:=0);have v1:=QaX_ (l:=l.drop 1) (n:=0) (by omega);obtain ⟨a,na,ha⟩:∃a na,digC 0 (l.drop 1)=(a,na):=⟨_,_,rfl⟩;rw [ha] at n1 v1⊢;simp only [List.length_drop] at n1 v1⊢;have hna:1+na≤l.length∨na=0:=by omega
 clear n1;refine ZI_ ?_;refine Qe_ rfl (fun hd=>?_) (fun hd=>?_)
 ·have hlt:1+na<l.length:=by omega
  refine walk ?_;rw [show ((1+na:Nat):Int)+1=((1+na+1:Nat):Int) by omega];refine Qg_ rfl rfl (zT_ (at0:=1+na+1) hl (by simp only [zb_];omega)) ?_;have n2:=Qbr_ (l:=l.drop (1+na+1)) (n:=0);have v2:=QaX_ (l:=l.drop (1+na+1)) (n:=0) (by omega);obtain ⟨b,nb,hb⟩:∃b nb,digC 0 (l.drop (1+na+1))=(b,nb):=⟨_,_,rfl⟩;rw [hb] at n2 v2⊢;simp only [List.length_drop] at n2 v2⊢;have hnb:1+na+1+nb≤l.length:=by omega
  clear n2;refine walk ?_;rw [show ((1+na+1+nb:Nat):Int)+1=((1+na+1+nb+1:Nat):Int) by omega];refine Qg_ rfl rfl (zT_ (at0:=1+na+1+nb+1) hl (by simp only [zb_];omega)) ?_;have v3:=QaX_ (l:=l.drop (1+na+1+nb+1)) (n:=0) (by omega);obtain ⟨t,nt,ht⟩:∃t nt,digC 0 (l.drop (1+na+1+nb+1))=(t,nt):=⟨_,_,rfl⟩;rw [ht] at v3⊢;simp only at v3⊢;have fa:fits (a:Int):=by unfold fits;omega
  have fb:fits (b:Int):=by unfold fits;omega
  have ft:fits (t:Int):=by unfold fits;omega
  refine walk ?_;refine Qg_ rfl rfl (ZbG_ fa ft) ?_;refine walk ?_;have hkA:=fun k h=>Zeh_ (k:=k) h ha hd.2 hb ht;refine Qe_ rfl (fun hab=>?_) (fun hab=>?_)
  ·have hno:∀k,¬isKey l k:=fun k h=>by
    obtain ⟨e,_,_,h3,_⟩:=hkA k h;subst e;simp only at h3;omega
   exact v46_
  ·refine walk ?_;refine Qg_ rfl rfl (qcZ_ fa fb ft) ?_;refine ZI_ ?_;refine qaf_ rfl rfl (fun hg=>qaA_) ?_;refine ZI_ ?_;refine qaf_ rfl rfl (fun hg=>qaA_) ?_;refine ZI_ ?_;refine Qe_ rfl (fun hq=>?_) (fun hq=>?_)
   ·have hno:∀k,¬isKey l k:=fun k h=>by
     obtain ⟨e,h1,h2,h3,h4,h5⟩:=hkA k h;subst e;simp only at h1 h2 h3 h4 h5;rcases hq with ((hq | hq) | hq) | hq
     ·exact hq (by rw [←h5])
     ·exact hq h1
     ·exact hq h4
     ·simp only [zy_] at h2;omega
    exact v46_
   ·have h1:sb (QR_ a b t)=sb l:=Classical.not_not.1 fun e=>hq (.inl (.inl (.inl e)));have h2:zy_ a:=Classical.not_not.1 fun e=>hq (.inl (.inl (.inr e)));have h3:zy_ t:=Classical.not_not.1 fun e=>hq (.inl (.inr e));have h4:¬(1073741824<(b:Int)):=fun e=>hq (.inr e);refine walk ?_;refine fin0 ?_;exact ⟨.inl ⟨((a:Int),(b:Int),(t:Int)),.inr ⟨h2,by unfold zy_;simp only;omega,by simp only;omega,h3,(zck_ h1).symm⟩,rfl⟩,rfl,rfl⟩
 ·refine walk ?_;rw [show ((1+na:Nat):Int)+1=((1+na+1:Nat):Int) by omega];refine Qg_ rfl rfl (zT_ (at0:=1+na+1) hl (by simp only [zb_];omega)) ?_;have v3:=QaX_ (l:=l.drop (1+na+1)) (n:=0) (by omega);obtain ⟨t,nt,ht⟩:∃t nt,digC 0 (l.drop (1+na+1))=(t,nt):=⟨_,_,rfl⟩;rw [ht] at v3⊢;simp only at v3⊢;have fa:fits (a:Int):=by unfold fits;omega
  have ft:fits (t:Int):=by unfold fits;omega
  have hkB:=fun k h=>qei_ (k:=k) h ha (fun e=>hd ⟨by omega,e.2⟩) ht;refine walk ?_;refine Qg_ rfl rfl (ZbG_ fa ft) ?_;refine ZI_ ?_;refine qaf_ rfl rfl (fun hg=>qaA_) ?_;refine ZI_ ?_;refine qaf_ rfl rfl (fun hg=>qaA_) ?_;refine ZI_ ?_;refine Qe_ rfl (fun hq=>?_) (fun hq=>?_)
  ·have hno:∀k,¬isKey l k:=fun k h=>by
    obtain ⟨e,h1,h4,h5⟩:=hkB k h;subst e;simp only at h1 h4 h5;rcases hq with ((hq | hq) | hq) | hq
    ·exact hq (by rw [←h5])
    ·exact hq h1
    ·exact hq h4
    ·omega
   exact v46_
  ·have h1:sb (Qac_ a t)=sb l:=Classical.not_not.1 fun e=>hq (.inl (.inl (.inl e)));have h2:zy_ a:=Classical.not_not.1 fun e=>hq (.inl (.inl (.inr e)));have h3:zy_ t:=Classical.not_not.1 fun e=>hq (.inl (.inr e));refine walk ?_;refine fin0 ?_;exact ⟨.inl ⟨((a:Int), -1,(t:Int)),.inl ⟨rfl,h2,h3,(zck_ h1).symm⟩,rfl⟩,rfl,rfl⟩
theorem ReadP.form {l:List UInt8} {r:Value} (h:ReadP l r):∃a b t ok,r= .tuple #[.agg #[I a,I b,I t],.bool ok]∧((ok=true∧isKey l (a,b,t))∨(ok=false∧(∀k,¬isKey l k)∧a=0∧b=0∧t=0)):=by
 rcases h with ⟨⟨a,b,t⟩,hk,rfl⟩ | ⟨hno,rfl⟩
 ·exact ⟨a,b,t,true,rfl,.inl ⟨rfl,hk⟩⟩
 ·exact ⟨0,0,0,false,rfl,.inr ⟨rfl,hno,rfl,rfl,rfl⟩⟩
end Go.Proofs.YtlflbkpmfhhikaaGreatDoor
