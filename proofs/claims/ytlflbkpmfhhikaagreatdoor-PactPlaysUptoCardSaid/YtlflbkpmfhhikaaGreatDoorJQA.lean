/- A participant: what it holds, what it answers, what it keeps to. No program in sight. -/
import Derived.Test.YtlflbkpmfhhikaaGreatDoorJLO
import Derived.Test.YtlflbkpmfhhikaaGreatDoorJLY
set_option maxHeartbeats 16000000
set_option maxRecDepth 100000
set_option linter.unusedVariables false
set_option linter.unusedSimpArgs false
namespace Go.Proofs.YtlflbkpmfhhikaaGreatDoor
open Go Go.Sx Go.Proofs
def digC (n:Nat):List UInt8→Nat×Nat
  | []=>(n,0)
  | c::r=>if (48≤c.toNat∧c.toNat≤57)∧n<1000000000000 then ((digC (10*n+(c.toNat - 48)) r).1,(digC (10*n+(c.toNat - 48)) r).2+1) else (n,0)
theorem qbC_:∀{l:List UInt8} {n:Nat},(digC n l).2≤l.length
 | [],n=>by simp [digC]
 | c::r,n=>by
  have:=qbC_ (l:=r) (n:=10*n+(c.toNat - 48));unfold digC;split
  ·simp only [List.length_cons];omega
  ·simp
theorem qbf_:∀{l:List UInt8} {n:Nat},n<10000000000009→(digC n l).1<10000000000009
 | [],n,h=>h
 | c::r,n,h=>by
  unfold digC;split
  ·next h1=>exact qbf_ (by omega)
  ·exact h
theorem zbC_ {v:List UInt8}:∀{u:List UInt8} {a b:Nat},digC a u=(b,u.length)→digC a (u++v)=((digC b v).1,u.length+(digC b v).2)
 | [],a,b,h=>by simp only [digC,List.length_nil,Prod.mk.injEq,and_true] at h;subst h;simp
 | c::u,a,b,h=>by
  by_cases h1:(48≤c.toNat∧c.toNat≤57)∧a<1000000000000
  ·simp only [digC,if_pos h1,List.cons_append,List.length_cons,Prod.mk.injEq] at h⊢;have ih:=zbC_ (v:=v) (u:=u) (a:=10*a+(c.toNat - 48)) (b:=b) (Prod.ext h.1 (by have:=h.2;simp only;omega));rw [ih];exact ⟨rfl,by simp only;omega⟩
  ·simp [digC,h1] at h
theorem qed_ {n:Nat}:n<10000000000000→digC 0 (nd n)=(n,(nd n).length):=by
 induction n using Nat.strongRecOn with
 | ind n ih=>
  intro hn;by_cases h0:n=0
  ·subst h0;simp [nd,digC]
  ·have hd:=zbD_ (k:=n)
   have hs:digC (n/10) [UInt8.ofNat (48+n % 10)]=(n,1):=by
    simp only [digC,hd];rw [if_pos (by omega)];simp only [Prod.mk.injEq,and_true];omega
   rw [qak_ h0,zbC_ (ih (n/10) (by omega) (by omega)),hs];simp
theorem Zdk_ {n:Nat} {x:UInt8} {r:List UInt8} (hx:¬isDig x):digC n (x::r)=(n,0):=by
 unfold digC;rw [if_neg];rintro ⟨h,_⟩;exact hx h
theorem ZaT_ {t:Int} (h:zz_ t) {r:List UInt8} (hr:r=[]∨∃x q,r=x::q∧¬isDig x):digC 0 (dgs t++r)=(t.toNat,(dgs t).length):=by
 have hd:digC 0 (dgs t)=(t.toNat,(dgs t).length):=by
  unfold dgs;split
  ·next h=>subst h;rfl
  ·rw [if_neg (by simp only [zz_] at h;omega),show t.natAbs=t.toNat by omega];exact qed_ (by simp only [zz_] at h;omega)
 rw [zbC_ hd];rcases hr with rfl | ⟨x,q,rfl,hx⟩
 ·simp [digC]
 ·rw [Zdk_ hx];simp
theorem QV_ {W0:World} {H:Heap} {l:List UInt8} {at0:Nat} (hl:l.length≤Qb_) (ha:at0≤Qb_+2):
  Ct Tryz.prog 180 #[.string (sb l),I at0] W0 H [] (fun r H' B=>r= .tuple #[I (digC 0 (l.drop at0)).1,I (at0+(digC 0 (l.drop at0)).2:Nat)]∧B=[]∧H'=H):=by
 refine Ct.go fun R=>?_;simp only [Qb_] at hl ha;have hsz:(sb l).size=l.length:=Qaw_ l;refine walk ?_;refine Qc_ (σ:=Nat×Nat) (fun s=>s.1<10000000000009∧(at0≤s.2∧(s.2≤l.length∨s.2=at0))∧(digC 0 (l.drop at0)).1=(digC s.1 (l.drop s.2)).1∧at0+(digC 0 (l.drop at0)).2=s.2+(digC s.1 (l.drop s.2)).2) (fun s=>[(0,.string (sb l)),(1,I s.2),(6,I s.1)]) (fun _=>H) (fun _=>R) (fun s=>l.length - s.2) (0,at0) ⟨by simp,⟨by simp,.inr rfl⟩,rfl,rfl⟩ fun ⟨n,p⟩ ⟨hn,hp,h1,h2⟩ K hL=>?_;simp only at hn hp h1 h2;dsimp only;refine QB_ ?_;refine ze_ rfl (fun hc=>?_) (fun hc=>?_)
 ·obtain ⟨⟨⟨c1,c2⟩,c3⟩,c4⟩:=hc;have hpl:p<l.length:=by omega
  have hdrop:l.drop p=l.getD p 0::l.drop (p+1):=by rw [List.drop_eq_getElem_cons hpl];simp [List.getD,hpl]
  rw [hdrop] at h1 h2;have hpi:p<l.length:=hpl
  have hw:∀x:UInt8,(48:Int)≤x.toNat→IntKind.u8.wrap ((x.toNat:Int) - 48)=((x.toNat - 48:Nat):Int):=fun x hx=>by
   have:=x.toNat_lt;simp [IntKind.wrap,IntKind.bits,IntKind.signed];omega
  have hf1:fits (10*(n:Int)):=by unfold fits;omega
  refine walk ?_;rw [hw _ c2];have hf2:fits (((l.getD p 0).toNat - 48:Nat):Int):=by unfold fits;omega
  refine walk ?_
  have hstep:digC n (l.getD p 0::l.drop (p+1))=((digC (10*n+((l.getD p 0).toNat - 48)) (l.drop (p+1))).1,(digC (10*n+((l.getD p 0).toNat - 48)) (l.drop (p+1))).2+1):=by
   rw [digC,if_pos ⟨⟨by omega,by omega⟩,by omega⟩]
  rw [hstep] at h1 h2;refine Zb_ hL (10*n+((l.getD p 0).toNat - 48),p+1) ⟨by simp only;omega,by simp only;omega,h1,by simp only at h2⊢;omega⟩
 ·clear hL
  have hend:digC n (l.drop p)=(n,0):=by
   by_cases hpl:p<l.length
   ·rw [List.drop_eq_getElem_cons hpl,digC,if_neg];rintro ⟨e1,e2⟩;have hg:l.getD p 0=l[p]:=by simp [List.getD,hpl]
    exact hc ⟨⟨⟨by omega,by rw [hg];omega⟩,by rw [hg];omega⟩,by omega⟩
   ·rw [List.drop_eq_nil_of_le (by omega)];rfl
  rw [hend] at h1 h2;refine walk ?_;refine fin0 ?_;exact ⟨by rw [h1,h2];simp,rfl,rfl⟩
theorem qdl_ {t:Int} (h:zz_ t):digC 0 (dgs t)=(t.toNat,(dgs t).length):=by
 have:=ZaT_ h (r:=[]) (.inl rfl);rwa [List.append_nil] at this
theorem Zbs_ {c t:Int} (hc:zz_ c) (ht:zz_ t):digC 0 ((qaf_ c t).drop 1)=(c.toNat,(dgs c).length)∧(qaf_ c t).getD (1+(dgs c).length) 0=64∧digC 0 ((qaf_ c t).drop (1+(dgs c).length+1))=(t.toNat,(dgs t).length):=by
 have e:qaf_ c t=99::(dgs c++64::dgs t):=by simp [qaf_]
 rw [e];refine ⟨ZaT_ hc (.inr ⟨64,_,rfl,nd64⟩),?_,?_⟩
 ·rw [Nat.add_comm];simp [List.getD]
 ·rw [show 1+(dgs c).length+1=((dgs c).length+1)+1 by omega,List.drop_succ_cons,List.drop_append,List.drop_of_length_le (by omega)];simp only [List.nil_append,show (dgs c).length+1 - (dgs c).length=1 by omega,List.drop_succ_cons,List.drop_zero];exact qdl_ ht
theorem qbt_ {a b t:Int} (ha:zz_ a) (hb:zz_ b) (hab:a<b) (ht:zz_ t):digC 0 ((ZS_ a b t).drop 1)=(a.toNat,(dgs a).length)∧(1+(dgs a).length<(ZS_ a b t).length∧(ZS_ a b t).getD (1+(dgs a).length) 0=45)∧
  digC 0 ((ZS_ a b t).drop (1+(dgs a).length+1))=(b.toNat,(dgs b).length)∧digC 0 ((ZS_ a b t).drop (1+(dgs a).length+1+(dgs b).length+1))=(t.toNat,(dgs t).length):=by
 have e:ZS_ a b t=112::(dgs a++45::(dgs b++64::dgs t)):=by
  unfold ZS_;rw [show min a b=a by omega,show max a b=b by omega];simp
 rw [e]
 have h1:(112::(dgs a++45::(dgs b++64::dgs t))).drop (1+(dgs a).length+1)=dgs b++64::dgs t:=by
  rw [show 1+(dgs a).length+1=((dgs a).length+1)+1 by omega,List.drop_succ_cons,List.drop_append,List.drop_of_length_le (by omega)];simp only [List.nil_append,show (dgs a).length+1 - (dgs a).length=1 by omega,List.drop_succ_cons,List.drop_zero]
 refine ⟨ZaT_ ha (.inr ⟨45,_,rfl,nd45⟩),⟨by simp;omega,by rw [Nat.add_comm];simp [List.getD]⟩,by rw [h1];exact ZaT_ hb (.inr ⟨64,_,rfl,nd64⟩),?_⟩;rw [show 1+(dgs a).length+1+(dgs b).length+1=(1+(dgs a).length+1)+((dgs b).length+1) by omega,←List.drop_drop,h1,List.drop_append,List.drop_of_length_le (by omega)];simp only [List.nil_append,show (dgs b).length+1 - (dgs b).length=1 by omega,List.drop_succ_cons,List.drop_zero];exact qdl_ ht
theorem ZZ_ {c:Int} (h:zz_ c):((c.toNat:Nat):Int)=c:=by simp only [zz_] at h;omega
theorem qey_ {l:List UInt8} {k:Int×Int×Int} {a na b nb t nt:Nat} (h:isKey l k) (ha:digC 0 (l.drop 1)=(a,na)) (hd:((l.getD (1+na) 0).toNat:Int)=45) (hb:digC 0 (l.drop (1+na+1))=(b,nb)) (ht:digC 0 (l.drop (1+na+1+nb+1))=(t,nt)):
  k=((a:Int),(b:Int),(t:Int))∧zz_ k.1∧zz_ k.2.1∧k.1<k.2.1∧zz_ k.2.2∧l=ZS_ k.1 k.2.1 k.2.2:=by
 obtain ⟨x,y,z⟩:=k;rcases h with ⟨h1,h2,h3,h4⟩ | ⟨h1,h2,h3,h4,h5⟩
 ·exfalso;obtain ⟨p1,p2,p3⟩:=Zbs_ h2 h3;rw [←h4] at p1 p2 p3;rw [ha] at p1;have e:=congrArg Prod.snd p1;simp only at e;rw [e,p2] at hd;exact absurd hd (by decide)
 ·obtain ⟨p1,p2,p3,p4⟩:=qbt_ h1 h2 h3 h4;rw [←h5] at p1 p2 p3 p4;rw [ha] at p1;have e1:=congrArg Prod.fst p1;have e2:=congrArg Prod.snd p1;simp only at e1 e2;rw [←e2] at p3 p4;rw [hb] at p3;have e3:=congrArg Prod.fst p3;have e4:=congrArg Prod.snd p3;simp only at e3 e4;rw [←e4,ht] at p4;have e5:=congrArg Prod.fst p4;simp only at e5;refine ⟨?_,h1,h2,h3,h4,h5⟩;rw [e1,e3,e5,ZZ_ h1,ZZ_ h2,ZZ_ h4]
theorem zey_ {l:List UInt8} {k:Int×Int×Int} {a na t nt:Nat} (h:isKey l k) (ha:digC 0 (l.drop 1)=(a,na)) (hd:¬(1+na<l.length∧((l.getD (1+na) 0).toNat:Int)=45)) (ht:digC 0 (l.drop (1+na+1))=(t,nt)):
  k=((a:Int), -1,(t:Int))∧zz_ k.1∧zz_ k.2.2∧l=qaf_ k.1 k.2.2:=by
 obtain ⟨x,y,z⟩:=k;rcases h with ⟨h1,h2,h3,h4⟩ | ⟨h1,h2,h3,h4,h5⟩
 ·obtain ⟨p1,p2,p3⟩:=Zbs_ h2 h3;rw [←h4] at p1 p2 p3;rw [ha] at p1;have e1:=congrArg Prod.fst p1;have e2:=congrArg Prod.snd p1;simp only at e1 e2 h1;rw [←e2,ht] at p3;have e5:=congrArg Prod.fst p3;simp only at e5;refine ⟨?_,h2,h3,h4⟩;rw [e1,e5,ZZ_ h2,ZZ_ h3,h1]
 ·exfalso;obtain ⟨p1,p2,p3,p4⟩:=qbt_ h1 h2 h3 h4;rw [←h5] at p1 p2 p3 p4;rw [ha] at p1;have e2:=congrArg Prod.snd p1;simp only at e2;rw [←e2] at p2;exact hd ⟨p2.1,by rw [p2.2];decide⟩
theorem zcO_ {W0:World} {H:Heap} {l:List UInt8} (hl:l.length≤Qb_):
  Ct Tryz.prog 153 #[.string (sb l)] W0 H [] (fun r H' B=>ReadP l r∧B=[]∧H'=H):=by
 refine Ct.go fun R=>?_;have hsz:(sb l).size=l.length:=Qaw_ l;have hl':=hl;simp only [Qb_] at hl';refine walk ?_;refine zb_ rfl fun p2 _=>?_;refine walk ?_;refine zb_ rfl fun p4 _=>?_;refine walk ?_;refine Zf_ rfl rfl (QV_ (at0:=1) hl (by simp only [Qb_];omega)) ?_;have n1:=qbC_ (l:=l.drop 1) (n:=0);have v1:=qbf_ (l:=l.drop 1) (n:=0) (by omega);obtain ⟨a,na,ha⟩:∃a na,digC 0 (l.drop 1)=(a,na):=⟨_,_,rfl⟩;rw [ha] at n1 v1⊢;simp only [List.length_drop] at n1 v1⊢;have hna:1+na≤l.length∨na=0:=by omega
 clear n1;refine QB_ ?_;refine ze_ rfl (fun hd=>?_) (fun hd=>?_)
 ·have hlt:1+na<l.length:=by omega
  refine walk ?_;rw [show ((1+na:Nat):Int)+1=((1+na+1:Nat):Int) by omega];refine Zf_ rfl rfl (QV_ (at0:=1+na+1) hl (by simp only [Qb_];omega)) ?_;have n2:=qbC_ (l:=l.drop (1+na+1)) (n:=0);have v2:=qbf_ (l:=l.drop (1+na+1)) (n:=0) (by omega);obtain ⟨b,nb,hb⟩:∃b nb,digC 0 (l.drop (1+na+1))=(b,nb):=⟨_,_,rfl⟩;rw [hb] at n2 v2⊢;simp only [List.length_drop] at n2 v2⊢;have hnb:1+na+1+nb≤l.length:=by omega
  clear n2;refine walk ?_;rw [show ((1+na+1+nb:Nat):Int)+1=((1+na+1+nb+1:Nat):Int) by omega];refine Zf_ rfl rfl (QV_ (at0:=1+na+1+nb+1) hl (by simp only [Qb_];omega)) ?_;have v3:=qbf_ (l:=l.drop (1+na+1+nb+1)) (n:=0) (by omega);obtain ⟨t,nt,ht⟩:∃t nt,digC 0 (l.drop (1+na+1+nb+1))=(t,nt):=⟨_,_,rfl⟩;rw [ht] at v3⊢;simp only at v3⊢;have fa:fits (a:Int):=by unfold fits;omega
  have fb:fits (b:Int):=by unfold fits;omega
  have ft:fits (t:Int):=by unfold fits;omega
  refine walk ?_;refine Zf_ rfl rfl (zbR_ fa ft) ?_;refine walk ?_;have hkA:=fun k h=>qey_ (k:=k) h ha hd.2 hb ht;refine ze_ rfl (fun hab=>?_) (fun hab=>?_)
  ·have hno:∀k,¬isKey l k:=fun k h=>by
    obtain ⟨e,_,_,h3,_⟩:=hkA k h;subst e;simp only at h3;omega
   exact v58_
  ·refine walk ?_;refine Zf_ rfl rfl (qdn_ fa fb ft) ?_;refine QB_ ?_;refine qah_ rfl rfl (fun hg=>zaF_) ?_;refine QB_ ?_;refine qah_ rfl rfl (fun hg=>zaF_) ?_;refine QB_ ?_;refine ze_ rfl (fun hq=>?_) (fun hq=>?_)
   ·have hno:∀k,¬isKey l k:=fun k h=>by
     obtain ⟨e,h1,h2,h3,h4,h5⟩:=hkA k h;subst e;simp only at h1 h2 h3 h4 h5;rcases hq with ((hq | hq) | hq) | hq
     ·exact hq (by rw [←h5])
     ·exact hq h1
     ·exact hq h4
     ·simp only [zz_] at h2;omega
    exact v58_
   ·have h1:sb (ZS_ a b t)=sb l:=Classical.not_not.1 fun e=>hq (.inl (.inl (.inl e)));have h2:zz_ a:=Classical.not_not.1 fun e=>hq (.inl (.inl (.inr e)));have h3:zz_ t:=Classical.not_not.1 fun e=>hq (.inl (.inr e));have h4:¬(1073741824<(b:Int)):=fun e=>hq (.inr e);refine walk ?_;refine fin0 ?_;exact ⟨.inl ⟨((a:Int),(b:Int),(t:Int)),.inr ⟨h2,by unfold zz_;simp only;omega,by simp only;omega,h3,(QcC_ h1).symm⟩,rfl⟩,rfl,rfl⟩
 ·refine walk ?_;rw [show ((1+na:Nat):Int)+1=((1+na+1:Nat):Int) by omega];refine Zf_ rfl rfl (QV_ (at0:=1+na+1) hl (by simp only [Qb_];omega)) ?_;have v3:=qbf_ (l:=l.drop (1+na+1)) (n:=0) (by omega);obtain ⟨t,nt,ht⟩:∃t nt,digC 0 (l.drop (1+na+1))=(t,nt):=⟨_,_,rfl⟩;rw [ht] at v3⊢;simp only at v3⊢;have fa:fits (a:Int):=by unfold fits;omega
  have ft:fits (t:Int):=by unfold fits;omega
  have hkB:=fun k h=>zey_ (k:=k) h ha (fun e=>hd ⟨by omega,e.2⟩) ht;refine walk ?_;refine Zf_ rfl rfl (zbR_ fa ft) ?_;refine QB_ ?_;refine qah_ rfl rfl (fun hg=>zaF_) ?_;refine QB_ ?_;refine qah_ rfl rfl (fun hg=>zaF_) ?_;refine QB_ ?_;refine ze_ rfl (fun hq=>?_) (fun hq=>?_)
  ·have hno:∀k,¬isKey l k:=fun k h=>by
    obtain ⟨e,h1,h4,h5⟩:=hkB k h;subst e;simp only at h1 h4 h5;rcases hq with ((hq | hq) | hq) | hq
    ·exact hq (by rw [←h5])
    ·exact hq h1
    ·exact hq h4
    ·omega
   exact v58_
  ·have h1:sb (qaf_ a t)=sb l:=Classical.not_not.1 fun e=>hq (.inl (.inl (.inl e)));have h2:zz_ a:=Classical.not_not.1 fun e=>hq (.inl (.inl (.inr e)));have h3:zz_ t:=Classical.not_not.1 fun e=>hq (.inl (.inr e));refine walk ?_;refine fin0 ?_;exact ⟨.inl ⟨((a:Int), -1,(t:Int)),.inl ⟨rfl,h2,h3,(QcC_ h1).symm⟩,rfl⟩,rfl,rfl⟩
theorem ReadP.form {l:List UInt8} {r:Value} (h:ReadP l r):∃a b t ok,r= .tuple #[.agg #[I a,I b,I t],.bool ok]∧((ok=true∧isKey l (a,b,t))∨(ok=false∧(∀k,¬isKey l k)∧a=0∧b=0∧t=0)):=by
 rcases h with ⟨⟨a,b,t⟩,hk,rfl⟩ | ⟨hno,rfl⟩
 ·exact ⟨a,b,t,true,rfl,.inl ⟨rfl,hk⟩⟩
 ·exact ⟨0,0,0,false,rfl,.inr ⟨rfl,hno,rfl,rfl,rfl⟩⟩
theorem zdg_ (k:ByteArray):sb k.data.toList=k:=(Zex_ k).symm
structure OkW (w:Work):Prop where
  take:w.Take.length≤40
  drop:w.Drop.length≤40
  rob:fits w.Robot
  size:∀k∈w.ks,k.size≤Qb_
def okX (x:K3):Prop:=fits x.1∧fits x.2.1∧fits x.2.2
structure Inv (n:Nat) (s:TS):Prop where
  hd:(s.held.map (·.1)).Nodup
  ld:(s.locked.map (·.1)).Nodup
  wd:(s.works.map (·.1)).Nodup
  hk:∀k r,mget k s.held=some r→k.size≤Qb_∧fits r
  hn:s.held.length≤40*n
  wn:s.works.length≤n
  ww:∀x w,gW s x=some w→(OkW w∧w.ks.Nodup)∧okX x
  lk:∀k x,mget k s.locked=some x↔∃w,gW s x.k=some w∧k∈w.ks
  tk:∀x w,gW s x=some w→∀k∈w.Take,mget k s.held=none
theorem Inv.more {n n':Nat} {s:TS} (h:Inv n s) (hn:n≤n'):Inv n' s:={h with hn:=by have:=h.hn;omega,wn:=by have:=h.wn;omega}
theorem Inv.ok {n:Nat} {s:TS} (h:Inv n s) (hn:n≤1000):TsOk s:=by
 refine ⟨fun q hq=>(h.hk q.1 q.2 (zi_ h.hd hq)).1,fun q hq=>(h.hk q.1 q.2 (zi_ h.hd hq)).2,by have:=h.hn;omega,fun q hq=>?_,by have:=h.wn;omega⟩;exact (h.ww q.1 q.2.2 (by unfold gW;rw [zi_ h.wd (k:=q.1) (v:=q.2) hq];rfl)).2
theorem inv0:Inv 0 ⟨[],[],[]⟩:=⟨by simp,by simp,by simp,fun k r h=>(by cases h),by simp,by simp,fun x w h=>(by cases h),fun k x=>⟨fun h=>(by cases h),fun ⟨w,h,_⟩=>(by cases h)⟩,fun x w h=>(by cases h)⟩
theorem v93_ {P:Prop} (h:P:=by
 by_cases e:k∈ks
 ·simp [e]
 ·by_cases e2:k=a<;>simp [e,e2]):P:=h
theorem Zaw_ {x:Txn} {k:ByteArray}:∀{ks:List ByteArray} {l:List (ByteArray×Txn)},(l.map (·.1)).Nodup→mget k (QG_ x ks l)=(if k∈ks then some x else mget k l)∧((QG_ x ks l).map (·.1)).Nodup
 | [],l,hn=>⟨by simp [QG_],hn⟩
 | a::ks,l,hn=>by
  unfold QG_;rw [List.foldl_cons];obtain ⟨h1,h2⟩:=Zaw_ (x:=x) (k:=k) (ks:=ks) (l:=mset a x l) (qj_ hn);unfold QG_ at h1 h2;refine ⟨?_,h2⟩;rw [h1,Qe_];exact v93_
theorem QaF_ {k:ByteArray}:∀{ks:List ByteArray} {l:List (ByteArray×Txn)},(l.map (·.1)).Nodup→mget k (zr_ ks l)=(if k∈ks then none else mget k l)∧((zr_ ks l).map (·.1)).Nodup
 | [],l,hn=>⟨by simp [zr_],hn⟩
 | a::ks,l,hn=>by
  unfold zr_;rw [List.foldl_cons];obtain ⟨h1,h2⟩:=QaF_ (k:=k) (ks:=ks) (l:=mdel a l) (QP_ hn);unfold zr_ at h1 h2;refine ⟨?_,h2⟩;rw [h1,qG_ a k hn];exact v93_
theorem qax_ {r:Int} {k:ByteArray}:∀{ks:List ByteArray} {l:List (ByteArray×Int)},(l.map (·.1)).Nodup→mget k (Qv_ r ks l)=(if k∈ks then some r else mget k l)∧((Qv_ r ks l).map (·.1)).Nodup∧(Qv_ r ks l).length≤l.length+ks.length
 | [],l,hn=>⟨by simp [Qv_],hn,by simp [Qv_]⟩
 | a::ks,l,hn=>by
  unfold Qv_;rw [List.foldl_cons];obtain ⟨h1,h2,h3⟩:=qax_ (r:=r) (k:=k) (ks:=ks) (l:=mset a r l) (qj_ hn);unfold Qv_ at h1 h2 h3;refine ⟨?_,h2,?_⟩
  ·rw [h1,Qe_];exact v93_
  ·have h4:(mset a r l).length≤l.length+1:=by rw [ZF_];split<;>omega
   simp only [List.length_cons];omega
theorem QbD_ {κ ν:Type} [DecidableEq κ] {m:List (κ×ν)} {k:κ}:(mdel k m).length≤m.length:=(qaD_ k m).length_le
theorem qT_ {r:Int} {k:ByteArray}:∀{ks:List ByteArray} {l:List (ByteArray×Int)},(l.map (·.1)).Nodup→mget k (Zm_ r ks l)=(if k∈ks∧mget k l=some r then none else mget k l)∧((Zm_ r ks l).map (·.1)).Nodup∧(Zm_ r ks l).length≤l.length
 | [],l,hn=>⟨by simp [Zm_],hn,by simp [Zm_]⟩
 | a::ks,l,hn=>by
  unfold Zm_;rw [List.foldl_cons]
  have hc:((mget a l).isSome=true∧(mget a l).getD 0=r)↔mget a l=some r:=by
   cases mget a l<;>simp
  by_cases hq:mget a l=some r
  ·rw [if_pos (hc.2 hq)];obtain ⟨h1,h2,h3⟩:=qT_ (r:=r) (k:=k) (ks:=ks) (l:=mdel a l) (QP_ hn);unfold Zm_ at h1 h2 h3;refine ⟨?_,h2,by have:=QbD_ (m:=l) (k:=a);omega⟩;rw [h1,qG_ a k hn];by_cases e2:k=a
   ·subst e2;simp [hq]
   ·simp [e2]
  ·rw [if_neg fun h=>hq (hc.1 h)];obtain ⟨h1,h2,h3⟩:=qT_ (r:=r) (k:=k) (ks:=ks) (l:=l) hn;unfold Zm_ at h1 h2 h3;refine ⟨?_,h2,h3⟩;rw [h1];by_cases e2:k=a
   ·subst e2;simp [hq]
   ·simp [e2]
theorem qaU_ {s:TS} {w:Work}:∀{l:List ByteArray} {i:Nat},wayT s w i l=true↔∀j (hj:j<l.length),mget l[j] s.locked=none∧(w.Take.length≤i+j∨mget l[j] s.held=none)
 | [],i=>by simp [wayT]
 | k::l,i=>by
  have ih:=qaU_ (s:=s) (w:=w) (l:=l) (i:=i+1);simp only [wayT,Bool.and_eq_true,ih,Bool.not_eq_true',Option.isSome_eq_false_iff,Option.isNone_iff_eq_none,Bool.or_eq_true,decide_eq_true_eq];constructor
  ·rintro ⟨⟨h1,h2⟩,h3⟩ j hj
   cases j with
   | zero=>exact ⟨h1,by simpa using h2⟩
   | succ j=>
    have:=h3 j (by simpa using hj);rw [show i+1+j=i+(j+1) by omega] at this;simpa using this
  ·intro h;refine ⟨?_,fun j hj=>?_⟩
   ·have:=h 0 (by simp);simpa using this
   ·have:=h (j+1) (by simpa using hj);rw [show i+1+j=i+(j+1) by omega];simpa using this
theorem zed_ {s:TS} {w:Work} (h:wayT s w 0 w.ks=true):(∀k∈w.ks,mget k s.locked=none)∧∀k∈w.Take,mget k s.held=none:=by
 rw [qaU_] at h;refine ⟨fun k hk=>?_,fun k hk=>?_⟩
 ·obtain ⟨j,hj,rfl⟩:=List.getElem_of_mem hk;exact (h j hj).1
 ·obtain ⟨j,hj,rfl⟩:=List.getElem_of_mem hk;have hj2:j<w.ks.length:=by simp only [Work.ks,List.length_append];omega
  have e:w.ks[j]=w.Take[j]:=by simp only [Work.ks];rw [List.getElem_append_left hj]
  have:=(h j hj2).2;rw [e] at this;rcases this with h1 | h1
  ·omega
  ·exact h1
theorem QcO_ {s:TS} {x:Txn} {w:Work} (h:QE_ s x w=0):gW s x.k=none∧w.ks.Nodup∧wayT s w 0 w.ks=true:=by
 unfold QE_ at h;split at h
 ·cases h
 ·next h1=>
  split at h
  ·cases h
  ·next h2=>
   split at h
   ·next h3=>
    refine ⟨?_,?_,h3⟩
    ·unfold gW
     cases hm:mget x.k s.works with
     | none=>rfl
     | some v=>rw [hm] at h1;exact absurd rfl h1
    ·rw [Qac_] at h2;exact Classical.byContradiction h2
   ·cases h
theorem zax_ {s:TS} {x:Txn} {w:Work} {cs:List Value} (k:K3):gW (zU_ s x w cs) k=if k=x.k then some w else gW s k:=by
 unfold gW zU_;rw [Qe_];split<;>rfl
theorem Inv.prep {n:Nat} {s:TS} {x:Txn} {w:Work} {cs:List Value} (h:Inv n s) (hw:OkW w) (hx:okX x.k) (he:QE_ s x w=0):Inv (n+1) (zU_ s x w cs):=by
 obtain ⟨h1,h2,h3⟩:=QcO_ he;obtain ⟨h4,h5⟩:=zed_ h3;have hl:=fun k=>Zaw_ (x:=x) (k:=k) (ks:=w.ks) h.ld;have hg:=fun k=>zax_ (s:=s) (x:=x) (w:=w) (cs:=cs) k;refine ⟨h.hd,(hl ⟨#[]⟩).2,qj_ h.wd,h.hk,by have:=h.hn;show s.held.length≤_;omega,?_,fun y w' hy=>?_,fun k y=>?_,fun y w' hy=>?_⟩
 ·show (mset x.k (cs,w) s.works).length≤_;rw [ZF_];have:=h.wn;split<;>omega
 ·rw [hg] at hy;split at hy
  ·next e=>cases hy;subst e;exact ⟨⟨hw,h2⟩,hx⟩
  ·exact h.ww y w' hy
 ·show mget k (QG_ x w.ks s.locked)=some y↔_;rw [(hl k).1,hg];by_cases hk:k∈w.ks
  ·rw [if_pos hk];constructor
   ·intro e
    cases e
    exact ⟨w,by rw [if_pos rfl],hk⟩
   ·rintro ⟨w',e1,e2⟩;split at e1
    ·next e=>rw [qbc_ e]
    ·have:=(h.lk k y).2 ⟨w',e1,e2⟩;rw [h4 k hk] at this;cases this
  ·rw [if_neg hk,h.lk k y];constructor
   ·rintro ⟨w',e1,e2⟩;refine ⟨w',?_,e2⟩;rw [if_neg,e1];intro e;rw [e,h1] at e1;cases e1
   ·rintro ⟨w',e1,e2⟩;split at e1
    ·cases e1;exact absurd e2 hk
    ·exact ⟨w',e1,e2⟩
 ·rw [hg] at hy;split at hy
  ·cases hy;exact h5
  ·exact h.tk y w' hy
theorem zaU_ {s:TS} (hn:(s.works.map (·.1)).Nodup) {x:Txn} {w:Work} {yes:Bool} (k:K3):gW (zM_ s x yes w) k=if k=x.k then none else gW s k:=by
 unfold gW zM_;rw [qG_ x.k k hn];split<;>rfl
theorem Inv.apply {n:Nat} {s:TS} {x:Txn} {w:Work} {yes:Bool} (h:Inv n s) (hg0:gW s x.k=some w):Inv (n+1) (zM_ s x yes w):=by
 obtain ⟨⟨hw,hnd⟩,hx⟩:=h.ww x.k w hg0;have hg:=fun k=>zaU_ (s:=s) h.wd (x:=x) (w:=w) (yes:=yes) k;have hl:=fun k=>QaF_ (k:=k) (ks:=w.ks) h.ld;have hdr:=fun k=>qT_ (r:=w.Robot) (k:=k) (ks:=w.Drop) h.hd;have htk:=fun k=>qax_ (r:=w.Robot) (k:=k) (ks:=w.Take) (l:=Zm_ w.Robot w.Drop s.held) (hdr k).2.1
 have hheld:∀k,mget k (zM_ s x yes w).held=some w.Robot∧k∈w.Take∨mget k (zM_ s x yes w).held=none∨mget k (zM_ s x yes w).held=mget k s.held:=fun k=>by
  cases yes with
  | false=>exact .inr (.inr rfl)
  | true=>
   show mget k (Qv_ w.Robot w.Take (Zm_ w.Robot w.Drop s.held))=some w.Robot∧_∨mget k (Qv_ w.Robot w.Take (Zm_ w.Robot w.Drop s.held))=none∨mget k (Qv_ w.Robot w.Take (Zm_ w.Robot w.Drop s.held))=_;rw [(htk k).1,(hdr k).1];by_cases h1:k∈w.Take
   ·exact .inl ⟨by rw [if_pos h1],h1⟩
   ·rw [if_neg h1];by_cases h2:k∈w.Drop∧mget k s.held=some w.Robot
    ·exact .inr (.inl (by rw [if_pos h2]))
    ·exact .inr (.inr (by rw [if_neg h2]))
 refine ⟨?_,(hl ⟨#[]⟩).2,QP_ h.wd,fun k r hk=>?_,?_,?_,fun y w' hy=>?_,fun k y=>?_,fun y w' hy k hk=>?_⟩
 ·cases yes with
  | false=>exact h.hd
  | true=>exact (htk ⟨#[]⟩).2.1
 ·rcases hheld k with ⟨h1,h2⟩ | h1 | h1
  ·rw [h1] at hk;cases hk;exact ⟨hw.size k (by simp [Work.ks,h2]),hw.rob⟩
  ·rw [h1] at hk;cases hk
  ·rw [h1] at hk;exact h.hk k r hk
 ·have h1:=h.hn
  cases yes with
  | false=>show s.held.length≤_;omega
  | true=>
   show (Qv_ w.Robot w.Take (Zm_ w.Robot w.Drop s.held)).length≤_;have h2:=(htk ⟨#[]⟩).2.2;have h3:=(hdr ⟨#[]⟩).2.2;have h4:=hw.take;omega
 ·show (mdel x.k s.works).length≤_;have:=QbD_ (m:=s.works) (k:=x.k);have:=h.wn;omega
 ·rw [hg] at hy;split at hy
  ·cases hy
  ·exact h.ww y w' hy
 ·show mget k (zr_ w.ks s.locked)=some y↔_;rw [(hl k).1,hg];by_cases hk:k∈w.ks
  ·rw [if_pos hk];constructor
   ·intro e;cases e
   ·rintro ⟨w',e1,e2⟩;split at e1
    ·cases e1
    ·next e=>
     have a1:=(h.lk k y).2 ⟨w',e1,e2⟩;have a2:=(h.lk k x).2 ⟨w,hg0,hk⟩;rw [a1] at a2
     cases a2
     exact absurd rfl e
  ·rw [if_neg hk,h.lk k y];constructor
   ·rintro ⟨w',e1,e2⟩;refine ⟨w',?_,e2⟩;rw [if_neg,e1];intro e;rw [e,hg0] at e1;cases e1;exact hk e2
   ·rintro ⟨w',e1,e2⟩;split at e1
    ·cases e1
    ·exact ⟨w',e1,e2⟩
 ·rw [hg] at hy;split at hy
  ·cases hy
  ·next e=>
   rcases hheld k with ⟨h1,h2⟩ | h1 | h1
   ·have a1:=(h.lk k (toTx y)).2 ⟨w',by rw [QD_];exact hy,by simp [Work.ks,hk]⟩;have a2:=(h.lk k x).2 ⟨w,hg0,by simp [Work.ks,h2]⟩;rw [a1] at a2
    cases a2
    exact absurd (QD_ y).symm e
   ·exact h1
   ·rw [h1];exact h.tk y w' hy k hk
theorem v117_ {P:Prop} (h:P:=by
 rw [List.take_length] at hj;refine walk ?_;refine fin0 ?_;exact ⟨.inl ⟨rfl,hj⟩,rfl,rfl⟩):P:=h
theorem v158_ {P:Prop} (h:P:=by
 simp only [List.take_zero,List.length_nil];exact v34_):P:=h
open Classical in
noncomputable def Qbz_ (k:ByteArray):Option Int:=if h:∃q,isKey k.data.toList q then some (Classical.choose h).2.2 else none
theorem QbM_ {k:ByteArray} {a b t:Int} (h:isKey k.data.toList (a,b,t)):Qbz_ k=some t:=by
 unfold Qbz_;have hex:∃q,isKey k.data.toList q:=⟨_,h⟩;rw [dif_pos hex];have:=(Classical.choose_spec hex).uniq h;rw [this]
theorem Zbz_ {k:ByteArray} (h:∀q,¬isKey k.data.toList q):Qbz_ k=none:=by
 unfold Qbz_;exact dif_neg fun ⟨q,hq⟩=>h q hq
abbrev Zcg_:Int:=1073741824
noncomputable def zD_:Int→List ByteArray→Int
  | a,[]=>a
  | a,k::ks=>if (Qbz_ k).isSome=true then zD_ (max a ((Qbz_ k).getD 0)) ks else Zcg_
theorem Qbr_ {k:ByteArray}:fits ((Qbz_ k).getD 0):=by
 by_cases h:∃q,isKey k.data.toList q
 ·obtain ⟨⟨a,b,t⟩,hq⟩:=h;rw [QbM_ hq];have:=hq;simp only [isKey,zz_] at this;unfold fits;simp only [Option.getD_some];omega
 ·rw [Zbz_ fun q hq=>h ⟨q,hq⟩];exact qh_
theorem qav_:∀{ks:List ByteArray} {a:Int},fits a→fits (zD_ a ks)
 | [],a,h=>h
 | k::ks,a,h=>by
  unfold zD_;split
  ·refine qav_ ?_;have:=Qbr_ (k:=k);unfold fits at*;omega
  ·unfold fits Zcg_;omega
structure PS where
  sh:Int
  t:TS
  done:List (K3×Int)
def forMe (s:PS) (m:Message):Prop:=m.To=s.sh∧m.From=m.Txn.Node
instance {s:PS} {m:Message}:Decidable (forMe s m):=by unfold forMe;infer_instance
def isP (s:PS) (x:Txn):Prop:=(mget x.k s.t.works).isSome=true
instance {s:PS} {x:Txn}:Decidable (isP s x):=by unfold isP;infer_instance
def isD (s:PS) (x:Txn):Prop:=(mget x.k s.done).isSome=true
instance {s:PS} {x:Txn}:Decidable (isD s x):=by unfold isD;infer_instance
theorem Zah_ {s:PS} {x:Txn}:isP s x↔∃w,gW s.t x.k=some w:=by
 unfold isP gW
 cases mget x.k s.t.works<;>simp
noncomputable def Zy_ (s:PS) (x:Txn):Int:=if isP s x then zD_ 0 ((mget x.k s.t.works).getD zCW).2.ks else 0
theorem qbb_ {s:PS} {x:Txn}:fits (Zy_ s x):=by
 unfold Zy_;split
 ·exact qav_ qh_
 ·exact qh_
def qai_ (s:PS) (m:Message) (y:Bool):Message:={Zk_ with From:=s.sh,To:=m.From,Kind:=2,Txn:=m.Txn,Yes:=y}
def ackM (s:PS) (m:Message):Message:={Zk_ with From:=s.sh,To:=m.From,Kind:=4,Txn:=m.Txn}
def askM (s:PS) (x:Txn):Message:={Zk_ with From:=s.sh,To:=x.Node,Kind:=5,Txn:=x}
def recP (m:Message):Rec:=⟨2,m.Txn,m.Work,false,[]⟩
def recA (m:Message):Rec:=⟨3,m.Txn,Qae_,m.Yes,[]⟩
def Qk_ (s:PS) (m:Message):List Message:=
  if ¬forMe s m then [] else
  if m.Kind=1 then (if isD s m.Txn then [] else [qai_ s m (decide (isP s m.Txn∨QE_ s.t m.Txn m.Work=0))])
  else if m.Kind=3 then [ackM s m] else []
def Qh_ (s:PS) (m:Message):List Rec:=
  if ¬forMe s m then [] else
  if m.Kind=1 then (if isD s m.Txn then [] else if isP s m.Txn then [] else if QE_ s.t m.Txn m.Work=0 then [recP m] else [])
  else if m.Kind=3 then (if isP s m.Txn then [recA m] else []) else []
noncomputable def Qm_ (s:PS) (m:Message) (cs:List Value):PS:=
  if ¬forMe s m then s else
  if m.Kind=1 then (if isD s m.Txn then s else if isP s m.Txn then s else if QE_ s.t m.Txn m.Work=0 then ⟨s.sh,zU_ s.t m.Txn m.Work cs,s.done⟩ else s)
  else if m.Kind=3 then (if isP s m.Txn then ⟨s.sh,Qx_ s.t m.Txn m.Yes,if m.Yes=true then mset m.Txn.k (Zy_ s m.Txn) s.done else s.done⟩ else s) else s
structure OkM (m:Message):Prop where
  w:OkW m.Work
  x:okX m.Txn.k
structure PInv (n:Nat) (s:PS):Prop where
  t:Inv n s.t
  dd:(s.done.map (·.1)).Nodup
  dn:s.done.length≤n
  dv:∀x v,mget x s.done=some v→okX x∧fits v
  ap:∀x v,mget x s.done=some v→gW s.t x=none
  sh:fits s.sh
theorem PInv.more {n n':Nat} {s:PS} (h:PInv n s) (hn:n≤n'):PInv n' s:={h with t:=h.t.more hn,dn:=Nat.le_trans h.dn hn}
theorem zex_ {sh:Int} (h:fits sh):PInv 0 ⟨sh,⟨[],[],[]⟩,[]⟩:=⟨inv0,by simp,by simp,fun x v h=>(by cases h),fun x v h=>(by cases h),h⟩
theorem PInv.hear {n:Nat} {s:PS} {m:Message} {cs:List Value} (h:PInv n s) (hm:OkM m):PInv (n+1) (Qm_ s m cs):=by
 have h0:=h.more (Nat.le_succ n);unfold Qm_;split
 ·exact h0
 split
 ·split
  ·exact h0
  next hd=>
  split
  ·exact h0
  next hp=>
  split
  ·next he=>
   refine ⟨h.t.prep hm.w hm.x he,h.dd,h0.dn,h.dv,fun x v hx=>?_,h.sh⟩;show gW (zU_ s.t m.Txn m.Work cs) x=none;rw [zax_,if_neg]
   ·exact h.ap x v hx
   ·rintro rfl;apply hd;unfold isD;have hx':mget m.Txn.k s.done=some v:=hx;rw [hx'];rfl
  ·exact h0
 split
 ·split
  ·next hp=>
   obtain ⟨w,hw⟩:=Zah_.1 hp;have ht:=h.t.apply (yes:=m.Yes) hw;have hge:=fun k=>zaU_ (s:=s.t) h.t.wd (x:=m.Txn) (w:=w) (yes:=m.Yes) k
   have e:Qx_ s.t m.Txn m.Yes=zM_ s.t m.Txn m.Yes w:=by
    unfold Qx_;unfold gW at hw;have hp2:(mget m.Txn.k s.t.works).isSome=true:=hp;rw [if_pos hp2]
    cases hq:mget m.Txn.k s.t.works with
    | none=>rw [hq] at hw;cases hw
    | some q=>rw [hq] at hw;cases hw;rfl
   rw [e]
   have hap:∀x v,mget x s.done=some v→gW (zM_ s.t m.Txn m.Yes w) x=none:=fun x v hx=>by
    rw [hge];split
    ·rfl
    ·exact h.ap x v hx
   cases hy:m.Yes with
   | false=>
    rw [hy] at ht hap;exact ⟨ht,h.dd,h0.dn,h.dv,hap,h.sh⟩
   | true=>
    rw [hy] at ht hap hge;refine ⟨ht,qj_ h.dd,?_,fun x v hx=>?_,fun x v hx=>?_,h.sh⟩
    ·show (mset m.Txn.k (Zy_ s m.Txn) s.done).length≤_;rw [ZF_];have:=h.dn;split<;>omega
    ·have hx':mget x (mset m.Txn.k (Zy_ s m.Txn) s.done)=some v:=hx;rw [Qe_] at hx';split at hx'
     ·next e=>subst e;cases hx';exact ⟨hm.x,qbb_⟩
     ·exact h.dv x v hx'
    ·have hx':mget x (mset m.Txn.k (Zy_ s m.Txn) s.done)=some v:=hx;rw [Qe_] at hx';show gW (zM_ s.t m.Txn true w) x=none;rw [hge];split at hx'
     ·next e=>rw [if_pos e]
     ·next e=>rw [if_neg e];exact h.ap x v hx'
  ·exact h0
 ·exact h0
def ZR_ (s:PS) (k:K3):PartDone:=⟨toTx k,(mget k s.done).getD 0⟩
def qaR_ (s:PS):List PartDone:=(sort3 (s.done.map (·.1))).map (ZR_ s)
end Go.Proofs.YtlflbkpmfhhikaaGreatDoor
