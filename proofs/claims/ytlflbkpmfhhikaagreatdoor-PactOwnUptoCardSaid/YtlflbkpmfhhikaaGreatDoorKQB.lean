/- A participant and the reference's go together. No program in sight. -/
import Derived.Test.YtlflbkpmfhhikaaGreatDoorKMD
import Derived.Test.YtlflbkpmfhhikaaGreatDoorKQF
set_option maxHeartbeats 16000000
set_option maxRecDepth 100000
set_option linter.unusedVariables false
set_option linter.unusedSimpArgs false
namespace Go.Proofs.YtlflbkpmfhhikaaGreatDoor
open Go Go.Sx Go.Proofs
inductive RApply (m:Table) (x:Txn) (yes:Bool):Table→Int→Prop
  | none (h:∀q∈m.Prep,q.Txn≠x):RApply m x yes m 4
  | ok (j:Nat) (hj:j<m.Prep.length) (hx:m.Prep[j].Txn=x):RApply m x yes ⟨if yes=true then zbc_ m.Prep[j].Work.Robot m.Prep[j].Work.Take (qbc_ m.Prep[j].Work.Robot m.Prep[j].Work.Drop m.Held) else m.Held,m.Prep.take j++m.Prep.drop (j+1)⟩ 0
theorem qba_ {k:ByteArray} {r:Int}:∀{l:List Hold} {put:Bool},(qK_ k r put l).length≤l.length+(if put=true then 0 else 1)
 | [],put=>by cases put<;>simp [qK_]
 | h::t,put=>by
  have ih:=qba_ (k:=k) (r:=r) (l:=t) (put:=put || decide (SLt k h.Key));simp only [qK_,List.length_append,List.length_cons];have h1:(if h.Key=k then ([]:List Hold) else [h]).length≤1:=by split<;>simp
  cases put with
  | true=>
   simp only [Bool.true_or,if_true,Bool.true_eq_false,false_and,if_false,List.length_nil] at ih⊢;omega
  | false=>
   by_cases hs:SLt k h.Key
   ·simp only [hs,decide_true,Bool.false_or,if_true,and_self,List.length_cons,List.length_nil] at ih⊢;simp only [Bool.false_eq_true,if_false];omega
   ·simp only [hs,decide_false,Bool.false_or,and_false,if_false,List.length_nil] at ih⊢;simp only [Bool.false_eq_true,if_false] at ih⊢;omega
def zbw_ (r:Int) (l:List Hold) (k:ByteArray):List Hold:=if (QF_ l k).isSome=true∧(match QF_ l k with | some h=>h.Robot | none=>0)=r then qK_ k 0 true l else l
def zba_ (l:List Hold) (k:ByteArray):Int:=((QF_ l k).map (·.Robot)).getD 0
theorem qcc_ {l:List Hold} {k:ByteArray}:Zaj_ l k= .tuple #[I (zba_ l k),.bool (decide ((QF_ l k).isSome=true))]:=by
 unfold Zaj_ zba_
 cases QF_ l k<;>rfl
theorem zcc_ {r:Int} {l:List Hold} {k:ByteArray}:zbw_ r l k=if (QF_ l k).isSome=true∧zba_ l k=r then qK_ k 0 true l else l:=by
 unfold zbw_ zba_
 cases QF_ l k<;>rfl
theorem QcD_ {r:Int} {k:ByteArray} {ks:List ByteArray} {l:List Hold}:qbc_ r (k::ks) l=qbc_ r ks (zbw_ r l k):=rfl
theorem ZcD_ {r:Int} {k:ByteArray} {ks:List ByteArray} {l:List Hold}:zbc_ r (k::ks) l=zbc_ r ks (qK_ k r false l):=rfl
theorem Qdh_ {α:Type} {R:Rd α} {sz:Nat} [RdOk R sz] {H:Heap} {b0:Option Addr} {c0 n j:Nat} {l:List α} (h:SlR R sz H (.slice b0 n c0) l) (hj:j≤l.length):SlR R sz H (.slice b0 j c0) (l.take j):=by
 have h:=h.slc (l:=0) (h:=j) (Nat.zero_le _) hj;have e0:Sx.slc b0 c0 0 j sz= .slice b0 j c0:=by unfold Sx.slc;cases b0<;>simp [Addr.add]
 rw [e0] at h;simpa using h
theorem Qcc_ {W0:World} {H:Heap} {c:List Value} {m:Table} {x:Txn} {yes:Bool} (h0:QJ_ H c m) (hn:∀q∈m.Prep,q.Work.ks.length≤80) (hpl:m.Prep.length≤1000) (hhl:m.Held.length≤90000):
  Ct Tryz.prog 129 #[.agg c.toArray,.agg x.cv.toArray,.bool yes] W0 H [] (fun r H' B=>∃cs m' e,r= .tuple #[.agg cs.toArray,I e]∧QJ_ H' cs m'∧RApply m x yes m' e∧B=[]):=by
 refine Ct.go (vs:=[.agg c.toArray,.agg x.cv.toArray,.bool yes]) fun R=>?_;have h00:=h0;obtain ⟨s1,s2,rfl,hs1,hs2⟩:=h0;obtain ⟨b1,c1,rfl,hc1,hd1⟩:=hs1.1.shape;obtain ⟨b2,c2,rfl,hc2,hd2⟩:=hs2.1.shape;obtain ⟨x1,x2,x3⟩:=x;have hcl:∀n,n≤2000→n*120≤zb_:=fun n h=>Nat.le_trans (Nat.mul_le_mul_right 120 h) (by decide);refine walk ?_;refine qc_ rfl rfl fun p3 _=>?_;refine qc_ rfl rfl fun p4 _=>?_;refine Qb_ rfl fun p6 _=>?_;refine walk ?_;refine Za_ rfl rfl (zaO_ (x:=⟨x1,x2,x3⟩) h00) fun r1 H1 B hl1 ⟨hat,eB,eH⟩=>?_;subst eB eH;rcases hat with ⟨rfl,hno⟩ | ⟨j0,hj0,rfl,hj⟩
 ·refine walk ?_;refine fin0 ?_;exact ⟨_,m,4,rfl,h00,.none hno,rfl⟩
 have hge:¬(j0:Int)<0:=by omega
 have hnq:=hn _ (List.getElem_mem hj0);refine walk ?_;refine qe_ rfl rfl hs2.1 hj0 fun b o cc hr hc=>?_;obtain ⟨t1,t2,t3,rfl,g1,g2,g3,g4,g5,g6,g7,g8⟩:=hc;have hrw:=zaA_ hr;have hap:∀m':Table,m'=⟨if yes=true then zbc_ m.Prep[j0].Work.Robot m.Prep[j0].Work.Take (qbc_ m.Prep[j0].Work.Robot m.Prep[j0].Work.Drop m.Held) else m.Held,m.Prep.take j0++m.Prep.drop (j0+1)⟩→RApply m ⟨x1,x2,x3⟩ yes m' 0:=fun m' e=>by subst e;exact .ok j0 hj0 hj
 generalize m.Prep[j0].Work=w at hrw g5 g6 g7 hnq hap;obtain ⟨wr,wt,wd⟩:=w;dsimp only at hrw g5 g6 g7 hnq hap;obtain ⟨sb1,sc1,rfl,hsc1,hsd1⟩:=g6.1.shape;obtain ⟨sb2,sc2,rfl,hsc2,hsd2⟩:=g7.1.shape;refine walk ?_;refine zg_ rfl rfl hrw rfl ?_;refine Qb_ rfl fun p9 _=>?_;refine walk ?_;refine QU_ (w:=120) rRec rfl fun ba=>?_;refine walk ?_;have htk:=Qdh_ (j:=j0) hs2.1 (by omega);have hlt:(m.Prep.take j0).length=j0:=by rw [List.length_take];omega
 refine Qq_ rfl rfl (show SlR rRec 9 H1 (.slice b2 j0 c2) (m.Prep.take j0) from htk) (hcl _ (by rw [List.length_nil,hlt];omega)) fun d1 e1=>?_;rw [List.nil_append,List.length_nil,Nat.zero_add];have hi1:((j0:Int)+1)=((j0+1:Nat):Int):=by omega
 refine walk ?_;refine Zh_ rfl rfl (zH_ (l:=(j0:Int)+1) (h:=(m.Prep.length:Int)) rfl rfl rfl (by omega) (by omega) (by omega)) ?_;have hsd:=hs2.1.slc (l:=j0+1) (h:=m.Prep.length) (by omega) (Nat.le_refl _);rw [List.take_of_length_le (by rw [List.length_drop];omega)] at hsd;rw [hi1,Int.toNat_natCast,Int.toNat_natCast];have hld:(m.Prep.drop (j0+1)).length=m.Prep.length - (j0+1):=List.length_drop;refine Qq_ rfl rfl hsd (hcl _ (by rw [hlt,hld];omega)) fun d2 e2=>?_;rw [←List.length_append];refine Zd_ (.slice d2 (m.Prep.take j0++m.Prep.drop (j0+1)).length e2) fun H2 hl2 hsp=>?_;generalize m.Prep.take j0++m.Prep.drop (j0+1)=pr at hsp hap⊢;refine walk ?_
 cases yes with
 | false=>
  have hap':=hap ⟨m.Held,pr⟩ (by simp)
  refine Qc_ (σ:=Unit) (fun _=>True) (fun _=>[(2,.bool false),(3,.pointer (some ⟨p3,0,none⟩)),(6,.pointer (some ⟨p6,0,none⟩)),(9,.pointer (some ⟨p9,0,none⟩)),(11,I 0)]) (fun _=>H2)
   (fun _=>row p3 126 [.slice b1 m.Held.length c1,.slice d2 pr.length e2]::row p9 50 [I wr,.slice sb1 wt.length sc1,.slice sb2 wd.length sc2]::row p6 126 [nilS,nilS]::R) (fun _=>0) () trivial fun _ _ K hL=>?_
  refine ZI_ ?_;rw [decide_eq_false (p:=(0:Int)<(wd.length:Int)∧false=true) (fun h=>Bool.noConfusion h.2)];refine walk ?_
  refine Qc_ (σ:=Unit) (fun _=>True) (fun _=>[(2,.bool false),(3,.pointer (some ⟨p3,0,none⟩)),(6,.pointer (some ⟨p6,0,none⟩)),(9,.pointer (some ⟨p9,0,none⟩)),(14,I 0)]) (fun _=>H2)
   (fun _=>row p3 126 [.slice b1 m.Held.length c1,.slice d2 pr.length e2]::row p9 50 [I wr,.slice sb1 wt.length sc1,.slice sb2 wd.length sc2]::row p6 126 [nilS,nilS]::R) (fun _=>0) () trivial fun _ _ K2 hL2=>?_
  refine ZI_ ?_;rw [decide_eq_false (p:=(0:Int)<(wt.length:Int)∧false=true) (fun h=>Bool.noConfusion h.2)];refine walk ?_;refine fin0 ?_;exact ⟨_,⟨m.Held,pr⟩,0,rfl,⟨_,_,rfl,hs1.mono hl2,hsp⟩,hap',rfl⟩
 | true=>
  have hap':=fun m' (e:m'=⟨zbc_ wr wt (qbc_ wr wd m.Held),pr⟩)=>hap m' (e.trans (by rw [if_pos rfl]))
  refine Qc_ (σ:=Nat×List Hold×(Option Addr×Nat)×(Option Addr×Nat)×Heap) (fun u=>u.1≤wd.length∧H2.le u.2.2.2.2∧qbc_ wr (wd.drop u.1) u.2.1=qbc_ wr wd m.Held∧u.2.1.length≤m.Held.length∧SlB qao_ 2 24 u.2.2.2.2 (.slice u.2.2.1.1 u.2.1.length u.2.2.1.2) u.2.1∧SlB rRec 9 120 u.2.2.2.2 (.slice u.2.2.2.1.1 pr.length u.2.2.2.1.2) pr)
   (fun u=>[(2,.bool true),(3,.pointer (some ⟨p3,0,none⟩)),(6,.pointer (some ⟨p6,0,none⟩)),(9,.pointer (some ⟨p9,0,none⟩)),(11,I u.1)]) (fun u=>u.2.2.2.2)
   (fun u=>row p3 126 [.slice u.2.2.1.1 u.2.1.length u.2.2.1.2,.slice u.2.2.2.1.1 pr.length u.2.2.2.1.2]::row p9 50 [I wr,.slice sb1 wt.length sc1,.slice sb2 wd.length sc2]::row p6 126 [nilS,nilS]::R) (fun u=>wd.length - u.1)
   (0,m.Held,(b1,c1),(d2,e2),H2) ⟨Nat.zero_le _,.refl _,rfl,Nat.le_refl _,hs1.mono hl2,hsp⟩ fun ⟨i,hl,⟨f1,f2⟩,⟨f3,f4⟩,HK⟩ ⟨hi0,hlK,hF,hhl',hr1,hr2⟩ K hL=>?_
  simp only at hi0 hlK hF hhl' hr1 hr2;dsimp only;refine ZI_ ?_;refine Qe_ rfl (fun hi=>?_) (fun hi=>?_)
  ·have hi1:i<wd.length:=by have:=hi.1;omega
   have hdr:=List.drop_eq_getElem_cons hi1;rw [hdr,QcD_] at hF;have hT:QJ_ HK [.slice f1 hl.length f2,.slice f3 pr.length f4] ⟨hl,pr⟩:=⟨_,_,rfl,hr1,hr2⟩;have hg7:=g7.mono (hl2.trans hlK);refine walk ?_;refine zc_ 11 [row p3 126 [.slice f1 hl.length f2,.slice f3 pr.length f4],row p9 50 [I wr,.slice sb1 wt.length sc1,.slice sb2 wd.length sc2]] ?_;refine qa_ 0 ?_;refine qa_ 1 ?_;refine qa_ 2 ?_;refine qa_ 3 ?_;refine Qf_ 4 rfl rfl rfl hg7.1 hi1 fun b7 o7 cc7 hr7 hc7=>?_;obtain ⟨rfl,hsz⟩:=hc7;refine zl_ 5 0 rfl rfl hr7 rfl rfl ?_;refine zq_ 6 rfl rfl rfl (ZaI_ hT) ?_;rw [qcc_];dsimp only;refine qa_ 7 ?_;refine Qd_ 8 rfl rfl rfl rfl ?_;refine Qd_ 9 rfl rfl rfl rfl ?_;refine qa_ 10 ?_;refine qb_ rfl ?_;have hst:=zcc_ (r:=wr) (l:=hl) (k:=wd[i]);generalize zba_ hl wd[i]=rv at hst⊢;refine ZI_ ?_;refine Qe_ rfl (fun hq=>?_) (fun hq=>?_)
   ·rw [if_pos hq] at hst;rw [hst] at hF;have hlen:=qba_ (k:=wd[i]) (r:=0) (l:=hl) (put:=true);rw [if_pos rfl,Nat.add_zero] at hlen;refine zc_ 7 [row p3 126 [.slice f1 hl.length f2,.slice f3 pr.length f4],row p9 50 [I wr,.slice sb1 wt.length sc1,.slice sb2 wd.length sc2]] ?_;refine qa_ 0 ?_;refine qa_ 1 ?_;refine qa_ 2 ?_;refine qa_ 3 ?_;refine Qf_ 4 rfl rfl rfl hg7.1 hi1 fun b8 o8 cc8 hr8 hc8=>?_;obtain ⟨rfl,hsz8⟩:=hc8;refine zl_ 5 0 rfl rfl hr8 rfl rfl ?_;refine ze_ 6 rfl rfl rfl (zbi_ (k:=wd[i]) (r:=0) (yes:=false) hT hsz Zg_ (by simp only;omega)) fun r9 H9 B hl9 ⟨cs,er,hcs,eB⟩=>?_;subst er eB;refine ⟨subA,?_⟩;obtain ⟨q1,q2,rfl,hq1,hq2⟩:=hcs;obtain ⟨qb1,qc1,rfl,_,_⟩:=hq1.1.shape;obtain ⟨qb2,qc2,rfl,_,_⟩:=hq2.1.shape;refine qb_ rfl ?_;refine walk ?_;exact Zb_ hL (i+1,qK_ wd[i] 0 true hl,(qb1,qc1),(qb2,qc2),H9) ⟨by simp only;omega,hlK.trans hl9,hF,by simp only;omega,hq1,hq2⟩
   ·rw [if_neg hq] at hst;rw [hst] at hF;refine walk ?_;exact Zb_ hL (i+1,hl,(f1,f2),(f3,f4),HK) ⟨by simp only;omega,hlK,hF,hhl',hr1,hr2⟩
  clear hL
  have hie:i=wd.length:=by
   refine Classical.byContradiction fun h=>hi ⟨by omega,rfl⟩
  subst hie;rw [List.drop_length] at hF;change hl=qbc_ wr wd m.Held at hF;rw [←hF] at hap';have hbd:hl.length≤90000:=Nat.le_trans hhl' hhl
  have hwt:wt.length≤80:=by
   have:=hnq;simp only [Work.ks,List.length_append] at this;omega
  clear hF hi;refine walk ?_
  refine Qc_ (σ:=Nat×List Hold×(Option Addr×Nat)×(Option Addr×Nat)×Heap) (fun u=>u.1≤wt.length∧HK.le u.2.2.2.2∧zbc_ wr (wt.drop u.1) u.2.1=zbc_ wr wt hl∧u.2.1.length≤90000+u.1∧SlB qao_ 2 24 u.2.2.2.2 (.slice u.2.2.1.1 u.2.1.length u.2.2.1.2) u.2.1∧SlB rRec 9 120 u.2.2.2.2 (.slice u.2.2.2.1.1 pr.length u.2.2.2.1.2) pr)
   (fun u=>[(2,.bool true),(3,.pointer (some ⟨p3,0,none⟩)),(6,.pointer (some ⟨p6,0,none⟩)),(9,.pointer (some ⟨p9,0,none⟩)),(14,I u.1)]) (fun u=>u.2.2.2.2)
   (fun u=>row p3 126 [.slice u.2.2.1.1 u.2.1.length u.2.2.1.2,.slice u.2.2.2.1.1 pr.length u.2.2.2.1.2]::row p9 50 [I wr,.slice sb1 wt.length sc1,.slice sb2 wd.length sc2]::row p6 126 [nilS,nilS]::R) (fun u=>wt.length - u.1)
   (0,hl,(f1,f2),(f3,f4),HK) ⟨Nat.zero_le _,.refl _,rfl,hbd,hr1,hr2⟩ fun ⟨i,hm,⟨k1,k2⟩,⟨k3,k4⟩,HJ⟩ ⟨hi0,hlJ,hF,hml,hn1,hn2⟩ K hL=>?_
  simp only at hi0 hlJ hF hml hn1 hn2;dsimp only;refine ZI_ ?_;refine Qe_ rfl (fun hi=>?_) (fun hi=>?_)
  ·have hi1:i<wt.length:=by have:=hi.1;omega
   have hdr:=List.drop_eq_getElem_cons hi1;rw [hdr,ZcD_] at hF;have hT:QJ_ HJ [.slice k1 hm.length k2,.slice k3 pr.length k4] ⟨hm,pr⟩:=⟨_,_,rfl,hn1,hn2⟩;have hg6:=g6.mono (hl2.trans (hlK.trans hlJ));have hlen:=qba_ (k:=wt[i]) (r:=wr) (l:=hm) (put:=false);rw [if_neg Bool.noConfusion] at hlen;refine walk ?_;refine zc_ 9 [row p3 126 [.slice k1 hm.length k2,.slice k3 pr.length k4],row p9 50 [I wr,.slice sb1 wt.length sc1,.slice sb2 wd.length sc2]] ?_;refine qa_ 0 ?_;refine qa_ 1 ?_;refine qa_ 2 ?_;refine qa_ 3 ?_;refine Qf_ 4 rfl rfl rfl hg6.1 hi1 fun b8 o8 cc8 hr8 hc8=>?_;obtain ⟨rfl,hsz8⟩:=hc8;refine zl_ 5 0 rfl rfl hr8 rfl rfl ?_;refine qa_ 6 ?_;refine qa_ 7 ?_;refine ze_ 8 rfl rfl rfl (zbi_ (k:=wt[i]) (r:=wr) (yes:=true) hT hsz8 g5 (by simp only;omega)) fun r9 H9 B hl9 ⟨cs,er,hcs,eB⟩=>?_;subst er eB;refine ⟨subA,?_⟩;obtain ⟨q1,q2,rfl,hq1,hq2⟩:=hcs;obtain ⟨qb1,qc1,rfl,_,_⟩:=hq1.1.shape;obtain ⟨qb2,qc2,rfl,_,_⟩:=hq2.1.shape;refine qb_ rfl ?_;refine walk ?_;exact Zb_ hL (i+1,qK_ wt[i] wr false hm,(qb1,qc1),(qb2,qc2),H9) ⟨by simp only;omega,hlJ.trans hl9,hF,by simp only;omega,hq1,hq2⟩
  clear hL
  have hie:i=wt.length:=by
   refine Classical.byContradiction fun h=>hi ⟨by omega,rfl⟩
  subst hie;rw [List.drop_length] at hF;change hm=zbc_ wr wt hl at hF;refine walk ?_;refine fin0 ?_;exact ⟨_,⟨hm,pr⟩,0,rfl,⟨_,_,rfl,hn1,hn2⟩,hap' _ (by rw [hF]),rfl⟩
structure Rel (s:TS) (m:Table):Prop where
  h:HSpec m.Held (fun k=>mget k s.held)
  p:PSpec m.Prep (gW s)
theorem Rel.held {n:Nat} {s:TS} {m:Table} (I:Inv n s) (r:Rel s m):Qad_ s=m.Held:=(ZbR_ I.hd).uniq r.h
theorem Rel.prep {n:Nat} {s:TS} {m:Table} (I:Inv n s) (r:Rel s m):prepL s=m.Prep:=(Qaj_ I.wd).uniq r.p
theorem rel0:Rel ⟨[],[],[]⟩ ⟨[],[]⟩:=⟨⟨by simp,fun h=>by simp [mget]⟩,⟨by simp,fun q=>by simp [gW,mget]⟩⟩
theorem Rel.recs {s:TS} {m:Table} (r:Rel s m) {q:Rec} (hq:q∈m.Prep):gW s q.Txn.k=some q.Work:=by
 obtain ⟨w,h1,h2⟩:=(r.p.mem q).1 hq;have:w=q.Work:=by rw [h2];rfl
 rw [←this];exact h1
theorem Rel.lock {n:Nat} {s:TS} {m:Table} (I:Inv n s) (r:Rel s m) (k:ByteArray):(Qag_ m.Prep k).map (·.Txn)=mget k s.locked:=by
 cases hf:Qag_ m.Prep k with
 | some q=>
  have h1:=List.find?_some hf;have h2:=List.mem_of_find?_eq_some hf;simp only [decide_eq_true_eq] at h1;exact ((I.lk k q.Txn).2 ⟨_,r.recs h2,h1⟩).symm
 | none=>
  cases hm:mget k s.locked with
  | none=>rfl
  | some x=>
   obtain ⟨w,hg,hk⟩:=(I.lk k x).1 hm;unfold Qag_ at hf;rw [List.find?_eq_none] at hf;exact absurd (decide_eq_true (p:=k∈(recW x w).Work.ks) hk) (hf (recW x w) ((r.p.mem _).2 ⟨w,hg,rfl⟩))
theorem Rel.lockN {n:Nat} {s:TS} {m:Table} (I:Inv n s) (r:Rel s m) (k:ByteArray):Qag_ m.Prep k=none↔mget k s.locked=none:=by
 rw [←r.lock I k];simp
theorem Rel.heldN {s:TS} {m:Table} (r:Rel s m) (k:ByteArray):QF_ m.Held k=none↔mget k s.held=none:=by
 rw [r.h.find k];simp
theorem Rel.way {n:Nat} {s:TS} {m:Table} (I:Inv n s) (r:Rel s m) (w:Work):WayR m w↔wayT s w 0 w.ks=true:=by
 rw [Zbl_];unfold WayR;constructor
 ·intro h j hj;obtain ⟨h1,h2⟩:=h j hj;refine ⟨(r.lockN I _).1 h1,?_⟩;rcases h2 with h2 | h2
  ·exact .inl (by omega)
  ·exact .inr ((r.heldN _).1 h2)
 ·intro h j hj;obtain ⟨h1,h2⟩:=h j hj;refine ⟨(r.lockN I _).2 h1,?_⟩;rcases h2 with h2 | h2
  ·exact .inl (by omega)
  ·exact .inr ((r.heldN _).2 h2)
theorem zdh_ {s:TS} {k:K3}:(mget k s.works).isSome=true↔gW s k≠none:=by
 unfold gW;cases mget k s.works<;>simp
theorem Rel.atN {s:TS} {m:Table} (r:Rel s m) {x:Txn} (h:∀q∈m.Prep,q.Txn≠x):¬(mget x.k s.works).isSome=true:=by
 rw [zdh_,r.p.none h];simp
theorem Rel.atS {s:TS} {m:Table} (r:Rel s m) {q:Rec} (h:q∈m.Prep):(mget q.Txn.k s.works).isSome=true:=by
 rw [zdh_,r.recs h];simp
theorem v84_ {P:Prop} (h:P:=by
 rw [hE];exact ⟨rfl,fun cs=>by rw [if_neg (by decide)];exact r⟩):P:=h
theorem Rel.prepare {n:Nat} {s:TS} {m m':Table} {x:Txn} {w:Work} {e:Int} (I:Inv n s) (r:Rel s m) (h:RPrep m x w m' e):
  e=zK_ s x w∧∀cs,Rel (if zK_ s x w=0 then QV_ s x w cs else s) m':=by
 cases h with
 | twice h=>
  obtain ⟨q,hq,rfl⟩:=h;have hE:zK_ s q.Txn w=2:=if_pos (r.atS hq);exact v84_
 | range h0 h=>
  have hE:zK_ s x w=1:=(if_neg (r.atN h0)).trans (if_pos (qaj_.2 h));exact v84_
 | way h0 h1 h2=>
  have hE:zK_ s x w=140:=(if_neg (r.atN h0)).trans ((if_neg fun h=>qaj_.1 h h1).trans (if_neg fun h=>h2 ((r.way I w).2 h)));exact v84_
 | ok h0 h1 h2 i hi h3 h4=>
  have hE:zK_ s x w=0:=(if_neg (r.atN h0)).trans ((if_neg fun h=>qaj_.1 h h1).trans (if_pos ((r.way I w).1 h2)));rw [hE];refine ⟨rfl,fun cs=>?_⟩;rw [if_pos rfl];exact ⟨r.h,(r.p.ins (r.p.none h0) hi h3 h4).congr fun k=>(qbm_ k).symm⟩
theorem Rel.apply {n:Nat} {s:TS} {m m':Table} {x:Txn} {yes:Bool} {e:Int} (I:Inv n s) (r:Rel s m) (h:RApply m x yes m' e):e=Qaw_ s x∧Rel (Zw_ s x yes) m':=by
 rw [ZbH_]
 cases h with
 | none h=>
  refine ⟨?_,?_⟩
  ·unfold Qaw_;rw [if_neg (r.atN h)]
  ·rw [r.p.none h];exact r
 | ok j hj hx=>
  have hg:=r.recs (List.getElem_mem hj);have hs:=r.atS (List.getElem_mem hj);have hera:=r.p.era hj hx;rw [hx] at hg hs;refine ⟨by unfold Qaw_;rw [if_pos hs],?_⟩;rw [hg];dsimp only;generalize m.Prep[j].Work=w at hg⊢;refine ⟨?_,hera.congr fun k=>(qaM_ I.wd k).symm⟩
  cases yes with
  | false=>exact r.h
  | true=>
   obtain ⟨d1,d2⟩:=QaD_ (r:=w.Robot) (ks:=w.Drop) r.h I.hd;exact (Qbg_ (r:=w.Robot) (ks:=w.Take) d1 d2).1
abbrev RD:=Convoyref15Done
structure DSpec (l:List RD) (f:K3→Option Int):Prop where
  rise:l.Pairwise fun a b=>ltK a.Txn.k b.Txn.k
  mem:∀d,d∈l↔f d.Txn.k=some d.Until
theorem DSpec.uniq {l l':List RD} {f:K3→Option Int} (h:DSpec l f) (h':DSpec l' f):l=l':=
 QaR_ (lt:=fun a b:RD=>ltK a.Txn.k b.Txn.k) (fun _=>ZO_) (fun _ _=>qbS_) h.rise h'.rise fun a=>by rw [h.mem,h'.mem]
theorem DSpec.congr {l:List RD} {f g:K3→Option Int} (h:DSpec l f) (e:∀k,f k=g k):DSpec l g:=by
 obtain rfl:f=g:=funext e;exact h
def toR (d:PartDone):RD:=⟨d.Txn,d.Until⟩
theorem zcD_ {s:PS} (hn:(s.done.map (·.1)).Nodup):DSpec ((Qde_ s).map toR) (fun k=>mget k s.done):=by
 unfold Qde_;rw [List.map_map];refine ⟨?_,fun d=>?_⟩
 ·rw [List.pairwise_map];exact (zaj_ hn).imp fun h=>h
 ·rw [List.mem_map];constructor
  ·rintro ⟨k,hk,rfl⟩;obtain ⟨v,hv⟩:=QD_.1 (qP_.1 hk);show mget (toTx k).k s.done=some ((mget k s.done).getD 0);rw [ZV_,hv];rfl
  ·intro hg;refine ⟨d.Txn.k,qP_.2 (QD_.2 ⟨_,hg⟩),?_⟩;show toR (zde_ s d.Txn.k)=d;simp only [zde_,toR,hg,Option.getD_some,qbB_]
theorem DSpec.none {l:List RD} {f:K3→Option Int} (h:DSpec l f) {x:Txn} (hx:∀d∈l,d.Txn≠x):f x.k=none:=by
 cases hf:f x.k with
 | none=>rfl
 | some v=>exact absurd rfl (hx ⟨x,v⟩ ((h.mem _).2 hf))
theorem DSpec.some {l:List RD} {f:K3→Option Int} (h:DSpec l f) {d:RD} (hd:d∈l):f d.Txn.k=some d.Until:=(h.mem d).1 hd
def putL (d:RD):List RD→List RD
  | []=>[d]
  | a::l=>if ltK a.Txn.k d.Txn.k then a::putL d l else d::a::l
theorem qbw_ {d e:RD}:∀{l:List RD},e∈putL d l↔e=d∨e∈l
 | []=>by simp [putL]
 | a::l=>by
  unfold putL;split
  ·rw [List.mem_cons,qbw_,List.mem_cons];constructor
   ·rintro (h | h | h)
    ·exact .inr (.inl h)
    ·exact .inl h
    ·exact .inr (.inr h)
   ·rintro (h | h | h)
    ·exact .inr (.inl h)
    ·exact .inl h
    ·exact .inr (.inr h)
  ·simp
theorem qbM_ {d:RD}:∀{l:List RD},l.Pairwise (fun a b=>ltK a.Txn.k b.Txn.k)→(∀a∈l,a.Txn.k≠d.Txn.k)→(putL d l).Pairwise fun a b=>ltK a.Txn.k b.Txn.k
 | [],_,_=>by simp [putL]
 | a::l,hr,hn=>by
  rw [List.pairwise_cons] at hr;unfold putL;split
  ·next h=>
   rw [List.pairwise_cons];refine ⟨fun b hb=>?_,qbM_ hr.2 fun b hb=>hn b (List.mem_cons_of_mem _ hb)⟩;rcases qbw_.1 hb with rfl | hb
   ·exact h
   ·exact hr.1 b hb
  ·next h=>
   have h0:ltK d.Txn.k a.Txn.k:=Classical.byContradiction fun hc=>hn a (List.mem_cons_self ..) (Qas_ h hc);rw [List.pairwise_cons,List.pairwise_cons];refine ⟨fun b hb=>?_,hr⟩;rcases List.mem_cons.1 hb with rfl | hb
   ·exact h0
   ·exact ZaR_ h0 (hr.1 b hb)
theorem DSpec.put {l:List RD} {f:K3→Option Int} (h:DSpec l f) {d:RD} (hd:f d.Txn.k=Option.none):DSpec (putL d l) (fun k=>if k=d.Txn.k then Option.some d.Until else f k):=by
 have hne:∀a∈l,a.Txn.k≠d.Txn.k:=fun a ha e=>by
  have:=h.some ha;rw [e,hd] at this;cases this
 refine ⟨qbM_ h.rise hne,fun e=>?_⟩;rw [qbw_,h.mem];by_cases he:e.Txn.k=d.Txn.k
 ·simp only [he,if_true,Option.some.injEq];constructor
  ·rintro (rfl | hf)
   ·rfl
   ·rw [hd] at hf;cases hf
  ·intro hu;left;obtain ⟨et,eu⟩:=e;obtain ⟨dt,du⟩:=d;have:=qaS_ he;simp only at this hu;rw [this,hu]
 ·simp only [he,if_false];constructor
  ·rintro (rfl | hf)
   ·exact absurd rfl he
   ·exact hf
  ·exact .inr
theorem DSpec.filter {l:List RD} {f:K3→Option Int} (h:DSpec l f) (now:Int):DSpec (l.filter fun d=>decide (now≤d.Until)) (fun k=>if (f k).any (fun v=> !decide (v<now))=true then f k else Option.none):=by
 refine ⟨h.rise.sublist List.filter_sublist,fun d=>?_⟩;rw [List.mem_filter,h.mem]
 cases hf:f d.Txn.k with
 | none=>simp
 | some v=>
  simp only [Option.any_some,Option.some.injEq,decide_eq_true_eq,Bool.not_eq_true',decide_eq_false_iff_not];by_cases hv:v<now
  ·simp only [hv,not_true,if_false];constructor
   ·rintro ⟨rfl,h2⟩;omega
   ·intro h;cases h
  ·simp only [hv,not_false_iff,if_true,Option.some.injEq];constructor
   ·exact fun h=>h.1
   ·rintro rfl;exact ⟨rfl,by omega⟩
structure PRel (s:PS) (m:Part):Prop where
  sh:m.Shard=s.sh
  r:Rel s.t m.T
  d:DSpec m.Done (fun k=>mget k s.done)
theorem Qej_ {sh:Int}:PRel ⟨sh,⟨[],[],[]⟩,[]⟩ ⟨sh,⟨[],[]⟩,[]⟩:=⟨rfl,rel0,⟨by simp,fun d=>by simp [mget]⟩⟩
theorem PRel.dones {n:Nat} {s:PS} {m:Part} (I:PInv n s) (r:PRel s m):(Qde_ s).map toR=m.Done:=(zcD_ I.dd).uniq r.d
def forR (m:Part) (g:Message):Prop:=g.To=m.Shard∧g.From=g.Txn.Node
def qaB_ (m:Part) (g:Message) (y:Bool):Message:={Qk_ with From:=m.Shard,To:=g.From,Kind:=2,Txn:=g.Txn,Yes:=y}
def ackR (m:Part) (g:Message):Message:={Qk_ with From:=m.Shard,To:=g.From,Kind:=4,Txn:=g.Txn}
def zbM_ (m:Part) (x:Txn):Prop:=∃q∈m.T.Prep,q.Txn=x
def Zbe_ (m:Part) (x:Txn):Prop:=∃d∈m.Done,d.Txn=x
inductive RHear (m:Part) (g:Message):Part→List Message→List Rec→Prop
  | off (h:¬forR m g):RHear m g m [] []
  | done (h:forR m g) (k:g.Kind=1) (hd:Zbe_ m g.Txn):RHear m g m [] []
  | again (h:forR m g) (k:g.Kind=1) (hd:¬Zbe_ m g.Txn) (hp:zbM_ m g.Txn):RHear m g m [qaB_ m g true] []
  | no (h:forR m g) (k:g.Kind=1) (hd:¬Zbe_ m g.Txn) (hp:¬zbM_ m g.Txn) (t':Table) (e:Int) (hr:RPrep m.T g.Txn g.Work t' e) (he:e≠0):RHear m g ⟨m.Shard,t',m.Done⟩ [qaB_ m g false] []
  | yes (h:forR m g) (k:g.Kind=1) (hd:¬Zbe_ m g.Txn) (hp:¬zbM_ m g.Txn) (t':Table) (hr:RPrep m.T g.Txn g.Work t' 0):RHear m g ⟨m.Shard,t',m.Done⟩ [qaB_ m g true] [recP g]
  | ack (h:forR m g) (k:g.Kind=3) (t':Table) (e:Int) (D:List RD) (hr:RApply m.T g.Txn g.Yes t' e)
      (hD:(∃q∈m.T.Prep,q.Txn=g.Txn∧g.Yes=true∧D=putL ⟨g.Txn,ZB_ 0 q.Work.ks⟩ m.Done)∨((zbM_ m g.Txn→g.Yes=false)∧D=m.Done)):RHear m g ⟨m.Shard,t',D⟩ [ackR m g] (if e=0 then [recA g] else [])
  | other (h:forR m g) (k1:g.Kind≠1) (k3:g.Kind≠3):RHear m g m [] []
theorem PRel.forMe {s:PS} {m:Part} (r:PRel s m) {g:Message}:forMe s g↔forR m g:=by unfold forR Go.Proofs.YtlflbkpmfhhikaaGreatDoor.forMe;rw [r.sh]
theorem PRel.vote {s:PS} {m:Part} (r:PRel s m) {g:Message} {y:Bool}:qaB_ m g y=zah_ s g y:=by unfold qaB_ zah_;rw [r.sh]
theorem PRel.ackE {s:PS} {m:Part} (r:PRel s m) {g:Message}:ackR m g=ackM s g:=by unfold ackR ackM;rw [r.sh]
theorem PRel.isD {s:PS} {m:Part} (r:PRel s m) {x:Txn}:isD s x↔Zbe_ m x:=by
 unfold Go.Proofs.YtlflbkpmfhhikaaGreatDoor.isD Zbe_;constructor
 ·intro h
  cases hg:mget x.k s.done with
  | none=>rw [hg] at h;cases h
  | some v=>exact ⟨⟨x,v⟩,(r.d.mem _).2 hg,rfl⟩
 ·rintro ⟨d,hd,rfl⟩;rw [r.d.some hd];rfl
theorem PRel.isP {s:PS} {m:Part} (r:PRel s m) {x:Txn}:isP s x↔zbM_ m x:=by
 unfold zbM_;constructor
 ·intro h;refine Classical.byContradiction fun hc=>?_;have hn:∀q∈m.T.Prep,q.Txn≠x:=fun q hq e=>hc ⟨q,hq,e⟩;exact r.r.atN hn h
 ·rintro ⟨q,hq,rfl⟩;exact r.r.atS hq
theorem PRel.hear {n:Nat} {s:PS} {m m':Part} {g:Message} {out:List Message} {rec:List Rec} (I:PInv n s) (r:PRel s m) (h:RHear m g m' out rec):
  out=zk_ s g∧rec=qh_ s g∧∀cs,PRel (Zm_ s g cs) m':=by
 unfold zk_ qh_ Zm_
 cases h with
 | off h=>
  have hf:¬Go.Proofs.YtlflbkpmfhhikaaGreatDoor.forMe s g:=fun hh=>h (r.forMe.1 hh);refine ⟨by rw [if_pos hf],by rw [if_pos hf],fun cs=>by rw [if_pos hf];exact r⟩
 | done h k hd=>
  have hf:¬¬Go.Proofs.YtlflbkpmfhhikaaGreatDoor.forMe s g:=fun hh=>hh (r.forMe.2 h);have h1:=r.isD.2 hd;refine ⟨by rw [if_neg hf,if_pos k,if_pos h1],by rw [if_neg hf,if_pos k,if_pos h1],fun cs=>by rw [if_neg hf,if_pos k,if_pos h1];exact r⟩
 | again h k hd hp=>
  have hf:¬¬Go.Proofs.YtlflbkpmfhhikaaGreatDoor.forMe s g:=fun hh=>hh (r.forMe.2 h);have h1:¬Go.Proofs.YtlflbkpmfhhikaaGreatDoor.isD s g.Txn:=fun hh=>hd (r.isD.1 hh);have h2:=r.isP.2 hp;refine ⟨by rw [if_neg hf,if_pos k,if_neg h1,decide_eq_true (p:=_∨_) (.inl h2),r.vote],by rw [if_neg hf,if_pos k,if_neg h1,if_pos h2],fun cs=>by rw [if_neg hf,if_pos k,if_neg h1,if_pos h2];exact r⟩
 | no h k hd hp t' e hr he=>
  have hf:¬¬Go.Proofs.YtlflbkpmfhhikaaGreatDoor.forMe s g:=fun hh=>hh (r.forMe.2 h);have h1:¬Go.Proofs.YtlflbkpmfhhikaaGreatDoor.isD s g.Txn:=fun hh=>hd (r.isD.1 hh);have h2:¬Go.Proofs.YtlflbkpmfhhikaaGreatDoor.isP s g.Txn:=fun hh=>hp (r.isP.1 hh);obtain ⟨e1,hrel⟩:=r.r.prepare I.t hr;subst e1;have hrel:=hrel [];rw [if_neg he] at hrel;refine ⟨by rw [if_neg hf,if_pos k,if_neg h1,decide_eq_false (p:=_∨_) (fun hh=>hh.elim h2 he),r.vote],by rw [if_neg hf,if_pos k,if_neg h1,if_neg h2,if_neg he],fun cs=>by rw [if_neg hf,if_pos k,if_neg h1,if_neg h2,if_neg he];exact ⟨r.sh,hrel,r.d⟩⟩
 | yes h k hd hp t' hr=>
  have hf:¬¬Go.Proofs.YtlflbkpmfhhikaaGreatDoor.forMe s g:=fun hh=>hh (r.forMe.2 h);have h1:¬Go.Proofs.YtlflbkpmfhhikaaGreatDoor.isD s g.Txn:=fun hh=>hd (r.isD.1 hh);have h2:¬Go.Proofs.YtlflbkpmfhhikaaGreatDoor.isP s g.Txn:=fun hh=>hp (r.isP.1 hh);obtain ⟨e1,hrel⟩:=r.r.prepare I.t hr;have he:=e1.symm;refine ⟨by rw [if_neg hf,if_pos k,if_neg h1,decide_eq_true (p:=_∨_) (.inr he),r.vote],by rw [if_neg hf,if_pos k,if_neg h1,if_neg h2,if_pos he],fun cs=>?_⟩;rw [if_neg hf,if_pos k,if_neg h1,if_neg h2,if_pos he];have:=hrel cs;rw [if_pos he] at this;exact ⟨r.sh,this,r.d⟩
 | ack h k t' e D hr hD=>
  have hf:¬¬Go.Proofs.YtlflbkpmfhhikaaGreatDoor.forMe s g:=fun hh=>hh (r.forMe.2 h);have k1:¬g.Kind=1:=by omega
  obtain ⟨e1,hrel⟩:=r.r.apply I.t hr;have hap:Qaw_ s.t g.Txn=if Go.Proofs.YtlflbkpmfhhikaaGreatDoor.isP s g.Txn then 0 else 4:=rfl
  rw [hap] at e1;by_cases h2:Go.Proofs.YtlflbkpmfhhikaaGreatDoor.isP s g.Txn
  ·rw [if_pos h2] at e1;subst e1;refine ⟨by rw [if_neg hf,if_neg k1,if_pos k,r.ackE],by rw [if_neg hf,if_neg k1,if_pos k,if_pos h2,if_pos rfl],fun cs=>?_⟩;rw [if_neg hf,if_neg k1,if_pos k,if_pos h2];refine ⟨r.sh,hrel,?_⟩;rcases hD with ⟨q,hq,hqx,hy,rfl⟩ | ⟨hy,rfl⟩
   ·obtain ⟨w,hw⟩:=qah_.1 h2;have hg:=r.r.recs hq;rw [hqx,hw] at hg
    cases hg
    have hno:mget g.Txn.k s.done=none:=by
     cases hd:mget g.Txn.k s.done with
     | none=>rfl
     | some v=>have:=I.ap _ _ hd;rw [hw] at this;cases this
    have hu:Zy_ s g.Txn=ZB_ 0 q.Work.ks:=by
     unfold Zy_;rw [if_pos h2];unfold gW at hw
     cases hm:mget g.Txn.k s.t.works with
     | none=>rw [hm] at hw;cases hw
     | some v=>rw [hm] at hw;have hv:v.2=q.Work:=(by simpa using hw);show ZB_ 0 v.2.ks=_;rw [hv]
    rw [if_pos hy];refine (r.d.put (d:=⟨g.Txn,ZB_ 0 q.Work.ks⟩) hno).congr fun k=>?_;rw [Zf_,hu]
   ·have hy':=hy (r.isP.1 h2);rw [if_neg (by rw [hy'];decide)];exact r.d
  ·rw [if_neg h2] at e1;subst e1;refine ⟨by rw [if_neg hf,if_neg k1,if_pos k,r.ackE],by rw [if_neg hf,if_neg k1,if_pos k,if_neg h2];rfl,fun cs=>?_⟩;rw [if_neg hf,if_neg k1,if_pos k,if_neg h2];have hat:Zw_ s.t g.Txn g.Yes=s.t:=if_neg h2;rw [hat] at hrel;refine ⟨r.sh,hrel,?_⟩;rcases hD with ⟨q,hq,hqx,hy,rfl⟩ | ⟨hy,rfl⟩
   ·exact absurd (r.isP.2 ⟨q,hq,hqx⟩) h2
   ·exact r.d
 | other h k1 k3=>
  have hf:¬¬Go.Proofs.YtlflbkpmfhhikaaGreatDoor.forMe s g:=fun hh=>hh (r.forMe.2 h);refine ⟨by rw [if_neg hf,if_neg k1,if_neg k3],by rw [if_neg hf,if_neg k1,if_neg k3],fun cs=>by rw [if_neg hf,if_neg k1,if_neg k3];exact r⟩
theorem PRel.asks {n:Nat} {s:PS} {m:Part} (I:PInv n s) (r:PRel s m):(prepL s.t).map (fun q=>askM s q.Txn)=m.T.Prep.map fun q=>{Qk_ with From:=m.Shard,To:=q.Txn.Node,Kind:=5,Txn:=q.Txn}:=by
 rw [r.r.prep I.t,r.sh];rfl
end Go.Proofs.YtlflbkpmfhhikaaGreatDoor
