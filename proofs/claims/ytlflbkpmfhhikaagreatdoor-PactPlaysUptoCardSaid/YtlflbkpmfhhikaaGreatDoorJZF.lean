/- The world beside the document's world: what goes with what. No program in sight. -/
import Derived.Test.YtlflbkpmfhhikaaGreatDoorJMC
import Derived.Test.YtlflbkpmfhhikaaGreatDoorJMR
import Derived.Test.YtlflbkpmfhhikaaGreatDoorJTH
import Derived.Test.YtlflbkpmfhhikaaGreatDoorJTM
import Derived.Test.YtlflbkpmfhhikaaGreatDoorJTP
import Derived.Test.YtlflbkpmfhhikaaGreatDoorJTR
import Derived.Test.YtlflbkpmfhhikaaGreatDoorJTX
import Derived.Test.YtlflbkpmfhhikaaGreatDoorJUH
import Derived.Test.YtlflbkpmfhhikaaGreatDoorJYG
set_option linter.unusedVariables false
set_option linter.unusedSimpArgs false
namespace Go.Proofs.YtlflbkpmfhhikaaGreatDoor
open Go Go.Sx Go.Proofs
theorem qaI_:∀{l:List Work} {i:Int} {q:Int×Work},q∈works0 i l→q.2∈l
 | [],i,q,h=>by cases h
 | w::l,i,q,h=>by
  unfold works0 at h;split at h
  ·rcases List.mem_cons.1 h with rfl | h
   ·exact List.mem_cons_self ..
   ·exact List.mem_cons_of_mem _ (qaI_ h)
  ·exact List.mem_cons_of_mem _ (qaI_ h)
theorem set_self {w:PW} {i:Nat} (h:i<w.ns.length):setN w i ⟨w.ns[i].ps,w.ns[i].cs⟩=w:=by
 unfold setN;rw [show (⟨w.ns[i].ps,w.ns[i].cs⟩:PN)=w.ns[i] from rfl,List.set_getElem_self]
theorem WInv.begin {n K:Nat} {B:List BT} {w:PW} (I:WInv n K B w) (hK:K<300) {i:Nat} (h:i<w.ns.length) {works:List Work} (hwl:works.length≤w.ns.length) (hok:∀x∈works,OkW x) {ws:List (Int×CW)} (hw:pq ws=works0 0 works) {nt:List Message} (hn:∀g∈nt,g∈w.net∨g∈saidB w.ns[i].cs w.now ws) (hl:nt.length≤64):
  ∃B',WInv n (K+1) B' {setN w i ⟨w.ns[i].ps,Qg_ w.ns[i].cs w.now ws⟩ with net:=nt}∧(B'=B∨(ws≠[]∧B'=⟨newX w.ns[i].cs,works0 0 works⟩::B)):=by
 by_cases hne:ws=[]
 ·refine ⟨B,?_,.inl rfl⟩;subst hne;have e1:Qg_ w.ns[i].cs w.now []=w.ns[i].cs:=if_pos rfl;have e2:saidB w.ns[i].cs w.now []=[]:=if_pos rfl;rw [e2] at hn;rw [e1,set_self h];exact (I.less (fun g hg=>(hn g hg).resolve_right fun h=>by cases h) hl).more (Nat.le_succ K) hK
 ·have hlen:=I.len;have hn4:=I.n4;have hnow:=I.now;have hK3:=I.k3;have hfn:=I.life i h;have IC:=I.N.C i h;have hfst:ws.map (·.1)=(works0 0 works).map (·.1):=by rw [←hw,qcF_]
  have hnd:(ws.map (·.1)).Nodup:=by
   rw [hfst,List.nodup_iff_pairwise_ne];exact works0_rise.imp fun h e=>by omega
  have hf:¬knB B (newX w.ns[i].cs):=by
   rintro ⟨b,hb,hx⟩;obtain ⟨j,hj,h1,h2,h3,h4⟩:=I.bx b hb
   have hji:j=i:=by
    rw [hx] at h1;have:(newX w.ns[i].cs).Node=w.ns[i].cs.node:=rfl;rw [this,(I.N.sh i h).2] at h1;omega
   subst hji;have h5:=h4 (by rw [hx];rfl);rw [hx] at h5;have h6:(newX w.ns[j].cs).Count=w.ns[j].cs.count+1:=rfl;omega
  have T:=ZcI_ (now:=w.now) I.N I.S h hne hnd hf;rw [hw] at T;have hC:CInv (K+1) (Qg_ w.ns[i].cs w.now ws):=IC.begin hw (by omega) (by unfold fits;omega) (by omega);have hbl:(Qg_ w.ns[i].cs w.now ws).life=w.ns[i].cs.life∧(Qg_ w.ns[i].cs w.now ws).node=w.ns[i].cs.node∧(Qg_ w.ns[i].cs w.now ws).count=w.ns[i].cs.count+1:=by unfold Qg_;rw [if_neg hne];exact ⟨rfl,rfl,rfl⟩
  have hN:NOk (K+1) (setN w i ⟨w.ns[i].ps,Qg_ w.ns[i].cs w.now ws⟩):=I.N.set (Nat.le_succ K) h rfl (I.N.sh i h).1 (hbl.2.1.trans (I.N.sh i h).2) ((I.N.P i h).more (Nat.le_succ K)) hC
  have hlc:∀{j} (hj:j<(w.ns.set i ⟨w.ns[i].ps,Qg_ w.ns[i].cs w.now ws⟩).length),(w.ns.set i ⟨w.ns[i].ps,Qg_ w.ns[i].cs w.now ws⟩)[j].cs.life=(w.ns[j]'(by rw [List.length_set] at hj;exact hj)).cs.life∧(w.ns[j]'(by rw [List.length_set] at hj;exact hj)).cs.count≤(w.ns.set i ⟨w.ns[i].ps,Qg_ w.ns[i].cs w.now ws⟩)[j].cs.count:=fun {j} hj=>by
   rw [zN_];split
   ·next e=>subst e;exact ⟨hbl.1,by show w.ns[i].cs.count≤(Qg_ w.ns[i].cs w.now ws).count;rw [hbl.2.2];omega⟩
   ·exact ⟨rfl,Int.le_refl _⟩
  have hts:∀{j} (hj:j<(w.ns.set i ⟨w.ns[i].ps,Qg_ w.ns[i].cs w.now ws⟩).length) {k' t'},mget k' (w.ns.set i ⟨w.ns[i].ps,Qg_ w.ns[i].cs w.now ws⟩)[j].cs.ts=some t'→(k'=(newX w.ns[i].cs).k∧t'=Zp_ w.now ws)∨mget k' (w.ns[j]'(by rw [List.length_set] at hj;exact hj)).cs.ts=some t':=fun {j} hj {k' t'} hg=>by
   rw [zN_] at hg;split at hg
   ·next e=>
    subst e;have hg':mget k' (Qg_ w.ns[i].cs w.now ws).ts=some t':=hg;unfold Qg_ at hg';rw [if_neg hne] at hg';have hg2:mget k' (mset (newX w.ns[i].cs).k (Zp_ w.now ws) w.ns[i].cs.ts)=some t':=hg';rw [Qe_] at hg2;split at hg2
    ·next e=>cases hg2;exact .inl ⟨e,rfl⟩
    ·exact .inr hg2
   ·exact .inr hg
  have hH:HdOk (⟨newX w.ns[i].cs,works0 0 works⟩::B) (setN w i ⟨w.ns[i].ps,Qg_ w.ns[i].cs w.now ws⟩):=I.hd.more h rfl T.2.1 fun key r hr=> .inl hr;refine ⟨⟨newX w.ns[i].cs,works0 0 works⟩::B,⟨(List.length_set ..).trans I.len,I.n4,⟨hN.sh,hN.P,hN.C⟩,fun j hj=>?_,by have:=I.bl;simp only [List.length_cons];omega,by omega,fun b hb=>?_,fun b hb=>?_,T.1,fun j hj k' t hg ho=>?_,fun j hj k' t hg ho=>?_,hH,fun g hg=>?_,hl,I.now⟩,.inr ⟨hne,rfl⟩⟩
  ·show 1≤(w.ns.set i ⟨w.ns[i].ps,Qg_ w.ns[i].cs w.now ws⟩)[j].cs.life∧(w.ns.set i ⟨w.ns[i].ps,Qg_ w.ns[i].cs w.now ws⟩)[j].cs.life≤((K+1:Nat):Int)+1;rw [(hlc hj).1];have:=I.life j (by rw [show (setN w i ⟨w.ns[i].ps,Qg_ w.ns[i].cs w.now ws⟩).ns=w.ns.set i ⟨w.ns[i].ps,Qg_ w.ns[i].cs w.now ws⟩ from rfl,List.length_set] at hj;exact hj);omega
  ·rcases List.mem_cons.1 hb with rfl | hb
   ·have hj':i<(w.ns.set i ⟨w.ns[i].ps,Qg_ w.ns[i].cs w.now ws⟩).length:=by rw [List.length_set];exact h
    refine ⟨i,hj',(I.N.sh i h).2,⟨IC.fn,IC.fl,?_⟩,?_⟩
    ·show fits (w.ns[i].cs.count+1);have:=IC.c0;unfold fits;omega
    ·show (newX w.ns[i].cs).Life≤(w.ns.set i ⟨w.ns[i].ps,Qg_ w.ns[i].cs w.now ws⟩)[i].cs.life∧((newX w.ns[i].cs).Life=(w.ns.set i ⟨w.ns[i].ps,Qg_ w.ns[i].cs w.now ws⟩)[i].cs.life→(newX w.ns[i].cs).Count≤(w.ns.set i ⟨w.ns[i].ps,Qg_ w.ns[i].cs w.now ws⟩)[i].cs.count);rw [List.getElem_set_self];show w.ns[i].cs.life≤(Qg_ w.ns[i].cs w.now ws).life∧(w.ns[i].cs.life=(Qg_ w.ns[i].cs w.now ws).life→w.ns[i].cs.count+1≤(Qg_ w.ns[i].cs w.now ws).count);rw [hbl.1,hbl.2.2];exact ⟨Int.le_refl _,fun _=>Int.le_refl _⟩
   ·obtain ⟨j,hj,h1,h2,h3,h4⟩:=I.bx b hb;have hj':j<(w.ns.set i ⟨w.ns[i].ps,Qg_ w.ns[i].cs w.now ws⟩).length:=by rw [List.length_set];exact hj
    refine ⟨j,hj',h1,h2,?_⟩;show b.x.Life≤(w.ns.set i ⟨w.ns[i].ps,Qg_ w.ns[i].cs w.now ws⟩)[j].cs.life∧(b.x.Life=(w.ns.set i ⟨w.ns[i].ps,Qg_ w.ns[i].cs w.now ws⟩)[j].cs.life→b.x.Count≤(w.ns.set i ⟨w.ns[i].ps,Qg_ w.ns[i].cs w.now ws⟩)[j].cs.count);rw [(hlc hj').1];exact ⟨h3,fun e=>Int.le_trans (h4 e) (hlc hj').2⟩
  ·rcases List.mem_cons.1 hb with rfl | hb
   ·refine ⟨works0_rise,fun q hq=>?_⟩;have:=qaa_ (i:=0) (Int.le_refl _) q hq;exact ⟨this.1,by omega,hok _ (qaI_ hq)⟩
   ·exact I.bw b hb
  ·rcases hts hj hg with ⟨rfl,rfl⟩ | hg
   ·exact ⟨_,List.mem_cons_self ..,(qbO_ _).symm,hw⟩
   ·obtain ⟨b,hb,e1,e2⟩:=I.W j _ k' t hg ho;exact ⟨b,List.mem_cons_of_mem _ hb,e1,e2⟩
  ·rcases hts hj hg with ⟨rfl,rfl⟩ | hg
   ·exact Int.le_refl _
   ·exact I.bg j _ k' t hg ho
  ·exact v74_
theorem WInv.quiet {n K m:Nat} {B:List BT} {w w':PW} {k a e:Int} {works:List Work} (I:WInv n K B w) (hk:k≠1∧k≠7∧k≠8) (h:PPlay m w k a works w' e):WInv n K B w':=by
 cases h with
 | bad=>exact I
 | begin h1=>exact absurd h1 hk.1
 | none=>exact I
 | deliver h1 j ha hj w1 out hh=>
  have I1:WInv n K B {w with net:=delM w.net j}:=I.less (fun g hg=>zam_ hg) (Nat.le_trans Qam_ I.nl);have hnet:w1.net=delM w.net j:=by cases hh<;>rfl
  exact I1.hear (I.J _ (List.getElem_mem hj)) hh (fun g hg=>by rw [hnet] at hg;exact Qaz_ hg) (Zaz_ (by rw [hnet];exact I1.nl))
 | fail h1=>exact absurd h1 hk.2.2
 | drop h1 j ha hj=>exact I.less (fun g hg=>zam_ hg) (Nat.le_trans Qam_ I.nl)
 | copy h1 j ha hj hf=>exact I.less (fun g hg=>by rcases List.mem_append.1 hg with hg | hg;exact hg;rw [List.mem_singleton.1 hg];exact List.getElem_mem hj) (by rw [List.length_append];simp only [List.length_singleton];omega)
 | full=>exact I
 | step h1 i ha hi=>exact I.step hi (fun g hg=>by rcases Qaz_ hg with hg | hg;exact (Qaz_ hg).imp id (List.mem_append_left _);exact .inr (List.mem_append_right _ hg)) (Zaz_ (Zaz_ I.nl))
 | tick h1 h0 h2=>exact I.tick h0 h2
 | crash h1=>exact absurd h1 hk.2.1
theorem WInv.play {n K m:Nat} {B:List BT} {w w':PW} {k a e:Int} {works:List Work} (I:WInv n K B w) (hK:K<300) (hok:∀x∈works,OkW x) (h:PPlay m w k a works w' e):∃B',WInv n (K+1) B' w'∧(B'=B∨((k=1∧e=0)∧∃b,B'=b::B∧b.ws=works0 0 works)):=by
 by_cases hk:k≠1∧k≠7∧k≠8
 ·exact ⟨B,(I.quiet hk h).more (Nat.le_succ K) hK,.inl rfl⟩
 cases h with
 | bad=>exact ⟨B,I.more (Nat.le_succ K) hK,.inl rfl⟩
 | begin h1 i ha hi hn ws hw=>
  obtain ⟨B',h2,h3⟩:=I.begin hK hi hn hok hw (fun g hg=>Qaz_ hg) (Zaz_ I.nl);refine ⟨B',h2,h3.imp id fun ⟨hne,hb⟩=>⟨⟨h1,if_neg hne⟩,_,hb,rfl⟩⟩
 | none=>exact ⟨B,I.more (Nat.le_succ K) hK,.inl rfl⟩
 | deliver h1=>omega
 | fail h1 j ha hj w1 w2 out hh i hi hc=>
  have I1:WInv n K B {w with net:=delM w.net j}:=I.less (fun g hg=>zam_ hg) (Nat.le_trans Qam_ I.nl);have hnet:w1.net=delM w.net j:=by cases hh<;>rfl
  have I2:WInv n K B {w1 with net:=w1.net}:=I1.hear (nt:=w1.net) (I.J _ (List.getElem_mem hj)) hh (fun g hg=>by rw [hnet] at hg;exact .inl hg) (by rw [hnet];exact I1.nl);exact ⟨B,WInv.crash (w:=w1) I2 hK hc,.inl rfl⟩
 | drop h1=>omega
 | copy h1=>omega
 | full h1=>omega
 | step h1=>omega
 | tick h1=>omega
 | crash h1 i ha hi _ hc=>exact ⟨B,I.crash hK hc,.inl rfl⟩
def newN (i:Nat):PN:=⟨⟨i,⟨[],[],[]⟩,[]⟩,⟨i,1,0,[]⟩⟩
def newW (n:Nat):PW:=⟨(List.range n).map newN,[],0,[]⟩
theorem qeh_ {n:Nat} (h:1≤n∧n≤4):WInv n 0 [] (newW n):=by
 have hg:∀i (hi:i<(newW n).ns.length),(newW n).ns[i]=newN i:=fun i hi=>by
  simp [newW]
 have hl:(newW n).ns.length=n:=by show ((List.range n).map newN).length=n;rw [List.length_map,List.length_range]
 have hfi:∀i (hi:i<(newW n).ns.length),fits (i:Int):=fun i hi=>by rw [hl] at hi;unfold fits;omega
 have ha:absW (newW n)=⟨fun _=>none,fun _ _=>none,fun _ _=>False,[]⟩:=by
  refine AS.eq (fun x=>?_) (fun p x=>?_) (fun p x=>?_) rfl
  ·show (nAt (newW n) x.Node).bind _=none
   cases hn:nAt (newW n) x.Node with
   | none=>rfl
   | some q=>
    obtain ⟨i,_,hi,rfl⟩:=qaT_.1 hn;rw [hg i hi];rfl
  ·show (nAt (newW n) p).bind _=none
   cases hn:nAt (newW n) p with
   | none=>rfl
   | some q=>
    obtain ⟨i,_,hi,rfl⟩:=qaT_.1 hn;rw [hg i hi];rfl
  ·constructor
   ·rintro ⟨q,hn,hd⟩;obtain ⟨i,_,hi,rfl⟩:=qaT_.1 hn;rw [hg i hi] at hd;cases hd
   ·exact fun h=>h.elim
 refine ⟨hl,h,⟨fun i hi=>?_,fun i hi=>?_,fun i hi=>?_⟩,fun i hi=>?_,by simp,by omega,fun b hb=>(by cases hb),fun b hb=>(by cases hb),by rw [ha];exact si0,fun i hi k t hg'=>?_,fun i hi k t hg'=>?_,fun i hi k r hg'=>?_,fun m hm=>(by cases hm),by simp [newW],⟨Int.le_refl 0,by show (0:Int)≤_;omega⟩⟩
 ·rw [hg i hi];exact ⟨rfl,rfl⟩
 ·rw [hg i hi];exact zex_ (hfi i hi)
 ·rw [hg i hi];exact Zey_ (hfi i hi) (by unfold fits;omega)
 ·rw [hg i hi];show (1:Int)≤1∧(1:Int)≤((0:Nat):Int)+1;omega
 ·rw [hg i hi] at hg';cases hg'
 ·rw [hg i hi] at hg';cases hg'
 ·rw [hg i hi] at hg';cases hg'
theorem PPlay.log {m:Nat} {w w':PW} {k a e:Int} {works:List Work} (h:PPlay m w k a works w' e):w'.log.length≤w.log.length+1:=by
 cases h with
 | deliver h1 j ha hj w1 out hh=>exact hh.len
 | fail h1 j ha hj w1 w2 out hh i hi hc=>
  have h2:=hh.len
  cases hc
  exact h2
 | crash h1 i ha hi _ hc=>cases hc;exact Nat.le_succ _
 | _=>exact Nat.le_succ _
end Go.Proofs.YtlflbkpmfhhikaaGreatDoor
namespace Go.Proofs.YtlflbkpmfhhikaaGreatDoor
open Go Go.Sx Go.Proofs
end Go.Proofs.YtlflbkpmfhhikaaGreatDoor
namespace Go.Proofs.YtlflbkpmfhhikaaGreatDoor
open Go Go.Sx Go.Proofs
theorem qeg_ {α:Type} {p:α→Bool} {l:List α} {k:Nat} (hk:k<l.length) (hp:p l[k]=true):∃h:((l.take k).filter p).length<(l.filter p).length,(l.filter p)[((l.take k).filter p).length]=l[k]:=by
 have h1:l=l.take k++l[k]::l.drop (k+1):=by rw [List.getElem_cons_drop,List.take_append_drop]
 have h2:l.filter p=(l.take k).filter p++l[k]::(l.drop (k+1)).filter p:=by
  conv=>lhs;rw [h1]
  rw [List.filter_append,List.filter_cons_of_pos hp]
 have h3:((l.take k).filter p).length<(l.filter p).length:=by rw [h2];simp
 refine ⟨h3,?_⟩;have:(l.filter p)[((l.take k).filter p).length]?=some l[k]:=by rw [h2];simp
 exact (List.getElem?_eq_some_iff.1 this).2
abbrev sl (x:Option Addr×Nat) {α:Type} (l:List α):Value:= .slice x.1 l.length x.2
abbrev ownM (H:Heap) (s1 s2 s3 s4:Option Addr×Nat) (m:Message):List za_:=
  [ownS rStr 1 16 9 H (sl s1 m.Work.Take) m.Work.Take,ownS rStr 1 16 9 H (sl s2 m.Work.Drop) m.Work.Drop,ownS rInt 1 8 3 H (sl s3 m.Call.Route.Cells) m.Call.Route.Cells,ownS rInt 1 8 3 H (sl s4 m.Reply.Route.Cells) m.Reply.Route.Cells]
abbrev cvM (s1 s2 s3 s4:Option Addr×Nat) (m:Message):List Value:=m.cv (sl s1 m.Work.Take) (sl s2 m.Work.Drop) (sl s3 m.Call.Route.Cells) (sl s4 m.Reply.Route.Cells)
def okM (m:Message):Prop:=fits m.From∧fits m.To∧fits m.Kind∧(fits m.Txn.Node∧fits m.Txn.Life∧fits m.Txn.Count)∧fits m.Work.Robot∧fits m.ID∧fits m.Call.Verb∧fits m.Call.Epoch∧fits m.Call.Route.Start∧fits m.Reply.Code∧fits m.Reply.Epoch∧fits m.Reply.Route.Start
end Go.Proofs.YtlflbkpmfhhikaaGreatDoor
namespace Go.Proofs.YtlflbkpmfhhikaaGreatDoor
open Go Go.Sx Go.Proofs
open Go Go.Sx Go.Proofs
open Go Go.Sx Go.Proofs
open Go Go.Sx Go.Proofs
end Go.Proofs.YtlflbkpmfhhikaaGreatDoor
namespace Go.Proofs.YtlflbkpmfhhikaaGreatDoor
open Go Go.Sx Go.Proofs
structure PI (k:Nat) (s:CS) (m:Coord):Prop where
  I:CInv k s
  r:CRel s m
  pl:∀key t,mget key s.ts=some t→t.parts.length≤8
  lf:0≤s.life∧s.life≤(k:Int)+1
theorem PI.more {k k':Nat} {s:CS} {m:Coord} (h:PI k s m) (hk:k≤k'):PI k' s m:=⟨h.I.more hk,h.r,h.pl,h.lf.1,by have:=h.lf.2;omega⟩
theorem PI.len {k:Nat} {s:CS} {m:Coord} (h:PI k s m):m.Txns.length≤k:=by
 have h1:=congrArg List.length (h.r.all h.I);rw [List.length_map,qaV_] at h1;have:=h.I.ln;omega
theorem PI.txs {k:Nat} {s:CS} {m:Coord} (h:PI k s m):qdP_ m.Txns:=fun t ht=>by
 obtain ⟨x,hx,g⟩:=h.r.mem t ht;refine ⟨?_,fun ho=>?_,?_⟩
 ·rw [g.hd,g.ps,List.length_map]
 ·rw [g.wk (by rw [←g.op];exact ho),g.ps,List.length_map]
 ·rw [g.ps];have:=h.pl _ _ hx;omega
theorem PI.ct {k:Nat} {s:CS} {m:Coord} (h:PI k s m):0≤m.Count∧m.Count≤k:=by rw [h.r.count];exact h.I.c0
def BegA (s:CS) (now:Int) (l:List Work) (x:Txn) (out:List Message) (e:Int) (s':CS):Prop:=
  ∃ws,pq ws=works0 0 l∧((ws=[]∧x=⟨0,0,0⟩∧out=[]∧e=4∧s'=s)∨(ws≠[]∧x=newX s∧out=Zi_ s.node (newX s) (Zp_ now ws)∧e=0∧s'=Qg_ s now ws))
def zef_ (m:Coord) (now:Int) (l:List Work) (x:Txn) (out:List Message) (e:Int) (m':Coord):Prop:=
  (works0 0 l=[]∧x=⟨0,0,0⟩∧out=[]∧e=4∧m'=m)∨(works0 0 l≠[]∧x=⟨m.Node,m.Life,m.Count+1⟩∧out=againR m.Node (ZH_ m now (works0 0 l)) (works0 0 l).length∧e=0∧m'=⟨m.Node,m.Life,m.Count+1,putR (ZH_ m now (works0 0 l)) m.Txns⟩)
theorem qet_ {ws:List (Int×CW)}:pq ws=[]↔ws=[]:=by unfold pq;simp
theorem zet_ {ws:List (Int×CW)}:(pq ws).length=ws.length:=by unfold pq;simp
theorem Qcr_ {s:CS} {now:Int} {ws:List (Int×CW)} (hn:(ws.map (·.1)).Nodup):Zi_ s.node (newX s) (Zp_ now ws)=zaV_ s (pq ws):=by
 unfold Zi_ zaV_ pq;exact v52_
theorem PI.begin {k:Nat} {s s':CS} {m m':Coord} {now:Int} {l:List Work} {x y:Txn} {out out2:List Message} {e e2:Int} (h:PI k s m) (hk:k≤1000) (hl:l.length≤8) (hnow:fits now) (a:BegA s now l x out e s') (b:zef_ m now l y out2 e2 m'):
  x=y∧out=out2∧e=e2∧PI (k+1) s' m':=by
 obtain ⟨ws,hws,a⟩:=a;have hwf:ws.map (·.1)=(works0 0 l).map (·.1):=qaL_ hws
 have hnd:(ws.map (·.1)).Nodup:=by
  rw [hwf,List.nodup_iff_pairwise_ne];exact works0_rise.imp fun h e=>by omega
 have hI:=CInv.begin h.I (ws:=ws) (now:=now) hws (by omega) hnow (by omega);rcases a with ⟨hw,rfl,rfl,rfl,rfl⟩ | ⟨hw,rfl,rfl,rfl,rfl⟩<;>rcases b with ⟨hw2,rfl,rfl,rfl,rfl⟩ | ⟨hw2,rfl,rfl,rfl,rfl⟩
 ·exact ⟨rfl,rfl,rfl,h.more (Nat.le_succ _)⟩
 ·exact absurd (by rw [←hws,hw];rfl) hw2
 ·exact absurd (qet_.1 (hws.trans hw2)) hw
 ·have hr:=h.r.begin (now:=now) hnd hw;have ho:=Qdp_ (now:=now) h.r hnd;rw [show ws.map (fun q=>(q.1,q.2.2))=works0 0 l from hws] at hr ho;refine ⟨?_,?_,rfl,⟨hI,hr,fun key t hg=>?_,?_⟩⟩
  ·unfold newX;rw [h.r.node,h.r.life,h.r.count]
  ·rw [Qcr_ hnd,hws,←ho,←hws,zet_]
  ·unfold Qg_ at hg;rw [if_neg hw] at hg;have hg':mget key (mset (newX s).k (Zp_ now ws) s.ts)=some t:=hg;rw [Qe_] at hg';split at hg'
   ·cases hg'
    show (ws.map (·.1)).length≤8;rw [hwf,List.length_map];exact Nat.le_trans zaq_ hl
   ·exact h.pl _ _ hg'
  ·have:=h.lf;unfold Qg_;rw [if_neg hw];exact ⟨this.1,by have:=this.2;show s.life≤((k+1:Nat):Int)+1;omega⟩
theorem PI.step {k:Nat} {s:CS} {m:Coord} {now:Int} (h:PI k s m):
  m.Txns.flatMap (qy_ m.Node now)=Qz_ s now∧ocsR now m.Txns=(QbT_ s now).map toOc∧PI (k+1) (Qq_ s now) {m with Txns:=Qar_ now m.Txns m.Txns}:=by
 obtain ⟨h1,h2,h3⟩:=h.r.step (now:=now) h.I;refine ⟨h1,h2,⟨(h.I.step).more (Nat.le_succ _),?_,fun key t hg=>?_,?_⟩⟩
 ·rw [zcU_ h.r.rise];exact h3
 ·exact h.pl _ _ ((zT_ h.I).1 hg).1
 ·have:=h.lf;exact ⟨this.1,by have:=this.2;show s.life≤((k+1:Nat):Int)+1;omega⟩
theorem QbX_ {l:List RTx}:openRL l=(l.filter fun t=>t.Open).map fun t=>recC t.X t.Parts:=rfl
theorem PI.load {k:Nat} {s:CS} {m:Coord} (h:PI k s m) (hk:k≤1000):
  openRL m.Txns=openL s∧(∀q∈openL s,OkR s.node (s.life+1) q)∧((openL s).map (·.Txn.k)).Nodup∧PI (k+1) ⟨s.node,s.life+1,0,loadTs (openL s) []⟩ ⟨s.node,s.life+1,0,loadRs (openL s)⟩:=by
 have hlf:=h.lf;have hfl:fits (s.life+1):=by unfold fits;omega
 refine ⟨?_,fun q hq=>(ZaU_ h.I hq).1,Zbg_ h.I,⟨(CInv.load (n:=k) h.I.fn hfl (Nat.le_trans qbh_ h.I.ln) fun r hr=>ZaU_ h.I hr).more (Nat.le_succ _),qbT_,?_,?_⟩⟩
 ·rw [QbX_,←h.r.open h.I]
 ·refine qaq_ (P:=fun _ t=>t.parts.length≤8) (fun k t h=>by cases h) fun r hr=>?_;obtain ⟨key,t,hg,_,rfl⟩:=Qbg_ hr;exact h.pl _ t hg
 ·exact ⟨by show 0≤s.life+1;omega,by show s.life+1≤((k+1:Nat):Int)+1;omega⟩
theorem ZbX_ {W0:World} {H:Heap} {c:List Value} {m:Coord} {v:Value} {l:List Work} {now:Int} (h0:Qu_ H c m) (hw:SlB zj_ 3 56 H v l) (hl:l.length≤1000) (hnow:fits now) (hct:fits (m.Count+1)) (hn:m.Txns.length≤100000):
  Ct Tryz.prog 50 #[.agg c.toArray,v,I now] W0 H [] (fun r H' B=>∃c' x v1 e out m',r= .tuple #[.agg c'.toArray,.agg (Txn.cv x).toArray,v1,I e]∧zef_ m now l x out e m'∧Qu_ H' c' m'∧B=[ownS Qa_ 19 216 106 H' v1 out]):=by
 refine (zbY_ h0 hw hl hnow hct hn).fold fun r H' B R hle hq=>?_;rcases hq with ⟨h1,rfl,rfl⟩ | ⟨h1,c',v1,rfl,hc',rfl⟩
 ·exact ⟨[ownS Qa_ 19 216 106 H' nilS []],⟨c,⟨0,0,0⟩,nilS,4,[],m,rfl,.inl ⟨h1,rfl,rfl,rfl,rfl⟩,RdOk.mono (R:=Qu_) hle h0,rfl⟩,ownS_nil⟩
 ·exact ⟨_,⟨c',⟨m.Node,m.Life,m.Count+1⟩,v1,0,_,_,rfl,.inr ⟨h1,rfl,rfl,rfl,rfl⟩,hc',rfl⟩,Sub.refl _⟩
abbrev RW:=Convoyref17World
def toN (e:PactNote):Convoyref17Note:=⟨e.Node,e.Rec⟩
structure WRel (w:PW) (x:RW):Prop where
  pl:x.Parts.length=w.ns.length
  cl:x.Coords.length=w.ns.length
  p:∀i (h:i<w.ns.length) (h':i<x.Parts.length),PRel w.ns[i].ps x.Parts[i]
  c:∀i (h:i<w.ns.length) (h':i<x.Coords.length),CRel w.ns[i].cs x.Coords[i]
  net:x.Net=w.net
  now:x.Now=w.now
  log:x.Log=w.log.map toN
theorem PSame.rel {s s':PS} {m:Part} (h:PSame s s') (r:PRel s m):PRel s' m:=by
 obtain ⟨r1,r2,r3⟩:=r;have e1:(fun k=>mget k s'.t.held)=fun k=>mget k s.t.held:=funext h.h;have e2:gW s'.t=gW s.t:=funext h.w;have e3:(fun k=>mget k s'.done)=fun k=>mget k s.done:=funext h.d;refine ⟨by rw [r1,h.sh],⟨?_,?_⟩,?_⟩
 ·rw [e1];exact r2.h
 ·rw [e2];exact r2.p
 ·rw [e3];exact r3
theorem WRel.setP {w:PW} {x:RW} (R:WRel w x) {i:Nat} (h:i<w.ns.length) {s':PS} {p':Part} (hp:PRel s' p'):WRel (setN w i ⟨s',w.ns[i].cs⟩) {x with Parts:=x.Parts.set i p'}:=by
 refine ⟨by simp [setN,R.pl],by simp [setN,R.cl],fun j hj hj'=>?_,fun j hj hj'=>?_,R.net,R.now,R.log⟩
 ·simp only [setN,List.getElem_set];split
  ·exact hp
  ·exact R.p j (by simpa [setN] using hj) (by simpa using hj')
 ·simp only [setN,List.getElem_set];split
  ·next e=>subst e;exact R.c i h hj'
  ·exact R.c j (by simpa [setN] using hj) hj'
theorem WRel.setC {w:PW} {x:RW} (R:WRel w x) {i:Nat} (h:i<w.ns.length) {s':CS} {c':Coord} (hc:CRel s' c'):WRel (setN w i ⟨w.ns[i].ps,s'⟩) {x with Coords:=x.Coords.set i c'}:=by
 refine ⟨by simp [setN,R.pl],by simp [setN,R.cl],fun j hj hj'=>?_,fun j hj hj'=>?_,R.net,R.now,R.log⟩
 ·simp only [setN,List.getElem_set];split
  ·next e=>subst e;exact R.p i h hj'
  ·exact R.p j (by simpa [setN] using hj) hj'
 ·simp only [setN,List.getElem_set];split
  ·exact hc
  ·exact R.c j (by simpa [setN] using hj) (by simpa using hj')
theorem WRel.withNet {w:PW} {x:RW} (R:WRel w x) (l:List Message):WRel {w with net:=l} {x with Net:=l}:=⟨R.pl,R.cl,R.p,R.c,rfl,R.now,R.log⟩
theorem WRel.withLog {w:PW} {x:RW} (R:WRel w x) (l:List PactNote):WRel {w with log:=w.log++l} {x with Log:=x.Log++l.map toN}:=⟨R.pl,R.cl,R.p,R.c,R.net,R.now,by simp only [List.map_append,R.log]⟩
theorem WRel.withNow {w:PW} {x:RW} (R:WRel w x) (n:Int):WRel {w with now:=n} {x with Now:=n}:=⟨R.pl,R.cl,R.p,R.c,R.net,rfl,R.log⟩
def QaW_ (x:RW) (m:Message) (y:RW) (out:List Message):Prop:=
  (ZN_ m∧∃(i:Nat) (h:i<x.Parts.length) (p':Part) (rec:List Rec),m.To=i∧RHear x.Parts[i] m p' out rec∧y={x with Parts:=x.Parts.set i p',Log:=x.Log++rec.map fun r=>⟨m.To,r⟩})∨
  (¬ZN_ m∧∃(i:Nat) (h:i<x.Coords.length) (c':Coord) (rec:List Rec) (oc:List ROc),m.To=i∧RCHear x.Coords[i] m c' out rec oc∧y={x with Coords:=x.Coords.set i c',Log:=x.Log++rec.map fun r=>⟨m.To,r⟩})
theorem qcv_ {p:Int} {l:List Rec}:(zm_ p l).map toN=l.map fun r=>(⟨p,r⟩:Convoyref17Note):=by unfold zm_;rw [List.map_map];rfl
theorem WRel.hear {n K:Nat} {B:List BT} {w w':PW} {x y:RW} {m:Message} {out out':List Message} (I:WInv n K B w) (R:WRel w x) (h:QaW_ x m y out') (g:PHear w m w' out):out=out'∧WRel w' y:=by
 cases g with
 | part k i hm hi cs=>
  rcases h with ⟨_,j,hj,p',rec,hm',hr,rfl⟩ | ⟨k',_⟩
  ·obtain rfl:i=j:=by omega
   obtain ⟨e1,e2,e3⟩:=(R.p i hi hj).hear (I.N.P i hi) hr;refine ⟨e1.symm,?_⟩;have:=(R.setP hi (e3 cs)).withLog (zm_ m.To (Qh_ w.ns[i].ps m));rw [qcv_] at this;subst e2;exact this
  ·exact absurd k k'
 | coord k i hm hi=>
  rcases h with ⟨k',_⟩ | ⟨_,j,hj,c',rec,oc,hm',hr,rfl⟩
  ·exact absurd k' k
  ·obtain rfl:i=j:=by omega
   obtain ⟨e1,e2,_,e3⟩:=(R.c i hi hj).hear (I.N.C i hi) hr;refine ⟨e1.symm,?_⟩;have:=(R.setC hi e3).withLog (zm_ m.To (Zh_ w.ns[i].cs m).rc);rw [qcv_] at this;subst e2;exact this
def zcv_ (x:RW) (i:Nat) (y:RW):Prop:=∃h:i<x.Coords.length,y={x with Coords:=x.Coords.set i ⟨x.Coords[i].Node,x.Coords[i].Life+1,0,loadRs (openRL x.Coords[i].Txns)⟩,Net:=Net.clr i x.Net}
theorem WRel.pi {n K:Nat} {B:List BT} {w:PW} {x:RW} (I:WInv n K B w) (hl:w.log.length≤900000000) (R:WRel w x) {i:Nat} (h:i<w.ns.length) (h':i<x.Coords.length):PI K w.ns[i].cs x.Coords[i]:=by
 refine ⟨I.N.C i h,R.c i h h',fun k t hg=>?_,?_⟩
 ·exact v41_
 ·have:=I.life i h;omega
theorem WRel.crash {n K m:Nat} {B:List BT} {w w':PW} {x y:RW} {i:Nat} (I:WInv n K B w) (hl:w.log.length≤900000000) (R:WRel w x) (h:zcv_ x i y) (g:PCrash m w i w'):WRel w' y:=by
 obtain ⟨hx,rfl⟩:=h
 cases g with
 | mk hi s' hs hI=>
  have hp:=R.pi I hl hi hx;obtain ⟨e1,_,_,hp2⟩:=hp.load (by have:=I.k3;omega);have hpl:i<x.Parts.length:=by rw [R.pl];exact hi
  have h1:=(R.setP hi (hs.rel (R.p i hi hpl))).setC (i:=i) (by simpa [setN] using hi) (s':=qr_ w.ns[i].cs) (c':=⟨x.Coords[i].Node,x.Coords[i].Life+1,0,loadRs (openRL x.Coords[i].Txns)⟩) (by
   rw [e1,hp.r.node,hp.r.life];exact hp2.r)
  have h2:=h1.withNet (Net.clr i w.net);have e5:x.Parts.set i x.Parts[i]=x.Parts:=List.set_getElem_self _
  have e6:setN (setN w i ⟨s',w.ns[i].cs⟩) i ⟨((setN w i ⟨s',w.ns[i].cs⟩).ns[i]'(by simpa [setN] using hi)).ps,qr_ w.ns[i].cs⟩=setN w i ⟨s',qr_ w.ns[i].cs⟩:=by
   unfold setN;simp
  rw [e5,e6] at h2;rw [R.net];exact h2
end Go.Proofs.YtlflbkpmfhhikaaGreatDoor
