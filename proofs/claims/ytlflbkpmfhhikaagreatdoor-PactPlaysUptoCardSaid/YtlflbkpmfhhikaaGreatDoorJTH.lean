/- A coordinator's small functions. -/
import Derived.Test.YtlflbkpmfhhikaaGreatDoorJTC
import Derived.Test.YtlflbkpmfhhikaaGreatDoorJTS
set_option linter.unusedVariables false
set_option linter.unusedSimpArgs false
namespace Go.Proofs.YtlflbkpmfhhikaaGreatDoor
open Go Go.Sx Go.Proofs
def zaR_ (c:Coord) (m:Message):Prop:=m.To=c.Node∧m.Txn.Node=c.Node
def zad_ (t:RTx) (p:Int):Prop:=∀j (h:j<t.Parts.length),t.Parts[j]≠p→t.Heard[j]?.getD false=true
def ocR (x:Txn) (y d:Bool):ROc:=⟨x,y,d⟩
def toOc (o:CoordOutcome):ROc:=⟨o.Txn,o.Yes,o.Done⟩
def ZbE_ (t:RTx) (i:Nat):RTx:={t with Heard:=t.Heard.set i true}
def QH_ (t:RTx):RTx:={t with Open:=true,Heard:=List.replicate t.Parts.length false}
inductive RCHear (c:Coord) (m:Message):Coord→List Message→List Rec→List ROc→Prop
  | off (h:¬zaR_ c m):RCHear c m c [] [] []
  | askNo (h:zaR_ c m) (k:m.Kind=5) (t:RTx) (ht:t∈c.Txns) (hx:t.X=m.Txn) (ho:t.Open=false):RCHear c m c [] [] []
  | ask (h:zaR_ c m) (k:m.Kind=5) (ho:∀t∈c.Txns,t.X=m.Txn→t.Open=true) (y:Bool) (hy:y=true↔∃t∈c.Txns,t.X=m.Txn):RCHear c m c [decM c.Node m.Txn m.From y] [] []
  | none (h:zaR_ c m) (k:m.Kind≠5) (hn:∀t∈c.Txns,t.X≠m.Txn):RCHear c m c [] [] []
  | nopart (h:zaR_ c m) (k:m.Kind≠5) (t:RTx) (ht:t∈c.Txns) (hx:t.X=m.Txn) (hp:m.From∉t.Parts∨(t.Open=true∧m.Kind≠4)∨(t.Open=false∧m.Kind≠2)):RCHear c m c [] [] []
  | against (h:zaR_ c m) (t:RTx) (ht:t∈c.Txns) (hx:t.X=m.Txn) (k:m.Kind=2) (hp:m.From∈t.Parts) (ho:t.Open=false) (hy:m.Yes=false):RCHear c m {c with Txns:=cutR m.Txn c.Txns} (noR c.Node t) [] [ocR m.Txn false false]
  | some (h:zaR_ c m) (t:RTx) (ht:t∈c.Txns) (hx:t.X=m.Txn) (k:(t.Open=true∧m.Kind=4)∨(t.Open=false∧m.Kind=2∧m.Yes=true)) (i:Nat) (hi:i<t.Parts.length) (hp:t.Parts[i]=m.From) (ha:¬zad_ t m.From):RCHear c m {c with Txns:=putR (ZbE_ t i) c.Txns} [] [] []
  | over (h:zaR_ c m) (t:RTx) (ht:t∈c.Txns) (hx:t.X=m.Txn) (ho:t.Open=true) (k:m.Kind=4) (hp:m.From∈t.Parts) (ha:zad_ t m.From):RCHear c m {c with Txns:=cutR m.Txn c.Txns} [] [recE m.Txn] [ocR m.Txn true true]
  | opens (h:zaR_ c m) (t:RTx) (ht:t∈c.Txns) (hx:t.X=m.Txn) (ho:t.Open=false) (k:m.Kind=2) (hy:m.Yes=true) (hp:m.From∈t.Parts) (ha:zad_ t m.From):RCHear c m {c with Txns:=putR (QH_ t) c.Txns} (againR c.Node (QH_ t) t.Parts.length) [recC m.Txn t.Parts] [ocR m.Txn true false]
theorem CRel.forC {s:CS} {c:Coord} (r:CRel s c) {m:Message}:forC s m↔zaR_ c m:=by unfold zaR_ Go.Proofs.YtlflbkpmfhhikaaGreatDoor.forC;rw [r.node]
theorem TRel.mark {t:RTx} {x:TX} (h:TRel t x) (hx:TInv x) {i:Nat} (hi:i<t.Parts.length) {p:Int} (hp:t.Parts[i]=p):TRel (ZbE_ t i) (zy_ x p):=by
 refine ⟨h.op,h.bg,h.ps,?_,h.wk⟩;show t.Heard.set i true=x.parts.map (zy_ x p).hd;have hps:=h.ps;obtain ⟨X,op,bg,ps,wk,hd⟩:=t;dsimp only at*;subst hps;have hh:=h.hd;dsimp only at hh;subst hh;refine List.ext_getElem (by simp) fun j h1 h2=>?_;have hj:j<x.parts.length:=by simpa using h1
 rw [List.getElem_set,List.getElem_map,List.getElem_map];show _=(mget x.parts[j] (mset p 1 x.heard)).isSome;rw [Qe_];by_cases e:i=j
 ·subst e;rw [if_pos rfl,if_pos hp];rfl
 ·have hlt:=List.pairwise_iff_getElem.1 hx.rise
  have:x.parts[j]≠p:=fun e2=>by
   rcases Nat.lt_or_gt_of_ne e with h3 | h3
   ·have:=hlt i j hi hj h3;rw [hp,e2] at this;omega
   ·have:=hlt j i hj hi h3;rw [hp,e2] at this;omega
  rw [if_neg e,if_neg this];rfl
theorem v104_ {P:Prop} (h:P:=by
 refine (List.eq_replicate_iff.2 ⟨by simp,fun b hb=>?_⟩).symm;obtain ⟨p,_,rfl⟩:=List.mem_map.1 hb;rfl):P:=h
theorem TRel.open {t:RTx} {x:TX} (h:TRel t x):TRel (QH_ t) (ZaG_ x):=by
 refine ⟨rfl,h.bg,h.ps,?_,fun e=>by cases e⟩;show List.replicate t.Parts.length false=x.parts.map (ZaG_ x).hd;rw [h.ps];exact v104_
theorem TRel.others {t:RTx} {x:TX} (h:TRel t x) (hx:TInv x) {p:Int} (hp:p∈x.parts):zad_ t p↔zq_ (zy_ x p):=by
 unfold zq_
 have hk:=Qbh_ (t:=x) (ps:=x.parts) (hs:=mset p 1 x.heard) hx.parts_nodup (qj_ hx.hn) fun q hq=>by
  have h1:=zi_ (qj_ hx.hn) hq;rw [Qe_] at h1;split at h1
  ·next e=>rw [e];exact hp
  ·exact (hx.hp q (qu_ h1)).1
 rw [show (zy_ x p).parts=x.parts from rfl,show (zy_ x p).heard=mset p 1 x.heard from rfl,hk];unfold zad_;constructor
 ·intro ho a ha;obtain ⟨j,hj,rfl⟩:=List.getElem_of_mem ha;rw [Qe_];split
  ·rfl
  ·next hne=>
   have h1:=ho j (by rw [h.ps];exact hj) (by simp only [h.ps];exact hne);rw [h.hd,List.getElem?_map,List.getElem?_eq_getElem hj] at h1;exact h1
 ·intro ha j hj hne;have hj':j<x.parts.length:=by rw [←h.ps];exact hj
  have h1:=ha x.parts[j] (List.getElem_mem hj');rw [Qe_,if_neg (by simpa only [h.ps] using hne)] at h1;rw [h.hd,List.getElem?_map,List.getElem?_eq_getElem hj'];exact h1
theorem v112_ {P:Prop} (h:P:=by
 rcases hp with hp | ⟨hp,_⟩ | ⟨_,hp⟩
 ·exact hp hm
 ·rw [ho] at hp;cases hp
 ·exact hp k4):P:=h
theorem CRel.hear {n:Nat} {s:CS} {c c':Coord} {m:Message} {out:List Message} {rec:List Rec} {oc:List ROc} (I:CInv n s) (r:CRel s c) (h:RCHear c m c' out rec oc):
  out=(Zh_ s m).out∧rec=(Zh_ s m).rc∧oc=(Zh_ s m).oc.map toOc∧CRel (Zh_ s m).s c':=by
 have hat:∀t∈c.Txns,t.X=m.Txn→s.isT m.Txn∧TRel t (s.tx m.Txn)∧TInv (s.tx m.Txn):=fun t ht e=>by
  have:=r.get ht;rw [e] at this;exact ⟨this.1,this.2,I.tinv this.1⟩
 unfold Zh_
 cases h with
 | off h=>rw [if_pos fun hh=>h (r.forC.1 hh)];exact ⟨rfl,rfl,rfl,r⟩
 | askNo h k t ht hx ho=>
  obtain ⟨h1,h2,_⟩:=hat t ht hx;have ho':(s.tx m.Txn).op=false:=by rw [←h2.op];exact ho
  rw [if_neg (fun hh=>hh (r.forC.2 h)),if_neg (fun hh=>hh.2.elim (fun a=>a h1) fun a=>by rw [ho'] at a;cases a),if_neg (fun hh=>by have:=hh.1;omega),if_neg (fun hh=>by have:=hh.1;omega),if_neg (fun hh=>by have:=hh.1;omega)];exact ⟨rfl,rfl,rfl,r⟩
 | ask h k ho y hy=>
  have hcase:m.Kind=5∧(¬s.isT m.Txn∨(s.tx m.Txn).op=true):=by
   refine ⟨k,?_⟩;by_cases hi:s.isT m.Txn
   ·right;obtain ⟨t,ht,e⟩:=r.isT.1 hi;rw [←(hat t ht e).2.1.op];exact ho t ht e
   ·exact .inl hi
  rw [if_neg (fun hh=>hh (r.forC.2 h)),if_pos hcase];refine ⟨?_,rfl,rfl,r⟩
  have hyd:y=decide (s.isT m.Txn):=by
   rw [←r.isT] at hy;by_cases hi:s.isT m.Txn
   ·rw [decide_eq_true hi];exact hy.2 hi
   ·rw [decide_eq_false hi]
    cases y with
    | false=>rfl
    | true=>exact absurd (hy.1 rfl) hi
  rw [r.node,hyd]
 | none h k hn=>
  have hi:¬s.isT m.Txn:=fun hh=>by obtain ⟨t,ht,e⟩:=r.isT.1 hh;exact hn t ht e
  rw [if_neg (fun hh=>hh (r.forC.2 h)),if_neg (fun hh=>k hh.1),if_neg (fun hh=>hi hh.2.1.1),if_neg (fun hh=>hi hh.2.1.1),if_neg (fun hh=>hi hh.2.1.1)];exact ⟨rfl,rfl,rfl,r⟩
 | nopart h k t ht hx hp=>
  obtain ⟨h1,h2,_⟩:=hat t ht hx;have e1:=h2.op;have e2:=h2.ps;rw [e1,e2] at hp;rw [if_neg (fun hh=>hh (r.forC.2 h)),if_neg (fun hh=>k hh.1),if_neg ?_,if_neg ?_,if_neg ?_]
  ·exact ⟨rfl,rfl,rfl,r⟩
  ·rintro ⟨k4,⟨_,hm⟩,ho⟩;rcases hp with hp | ⟨_,hp⟩ | ⟨hp,_⟩
   ·exact hp hm
   ·exact hp k4
   ·rw [ho] at hp;cases hp
  ·rintro ⟨k4,⟨_,hm⟩,ho⟩;exact v112_
  ·rintro ⟨k4,⟨_,hm⟩,ho,_⟩;exact v112_
 | against h t ht hx k hp ho hy=>
  obtain ⟨h1,h2,_⟩:=hat t ht hx;have ho':(s.tx m.Txn).op=false:=by rw [←h2.op];exact ho
  rw [if_neg (fun hh=>hh (r.forC.2 h)),if_neg (fun hh=>by have:=hh.1;omega),if_pos ⟨k,⟨h1,by rw [←h2.ps];exact hp⟩,ho',hy⟩];refine ⟨?_,rfl,rfl,r.cut I⟩;show noR c.Node t=noL s.node m.Txn (s.tx m.Txn);rw [h2.no,r.node,hx]
 | some h t ht hx k i hi hp ha=>
  obtain ⟨h1,h2,h3⟩:=hat t ht hx;have hm:m.From∈(s.tx m.Txn).parts:=by rw [←h2.ps,←hp];exact List.getElem_mem hi
  have ha':¬zq_ (zy_ (s.tx m.Txn) m.From):=fun hh=>ha ((h2.others h3 hm).2 hh);have hr:=r.put (h2.mark h3 hi hp);rw [show (ZbE_ t i).X=m.Txn from hx] at hr;have e1:=h2.op;rcases k with ⟨ho,k⟩ | ⟨ho,k,hy⟩
  ·rw [e1] at ho;rw [if_neg (fun hh=>hh (r.forC.2 h)),if_neg (fun hh=>by have:=hh.1;omega),if_neg (fun hh=>by have:=hh.1;omega),if_neg (fun hh=>by have:=hh.1;omega),if_pos ⟨k,⟨h1,hm⟩,ho⟩,if_pos ha'];exact ⟨rfl,rfl,rfl,hr⟩
  ·rw [e1] at ho;rw [if_neg (fun hh=>hh (r.forC.2 h)),if_neg (fun hh=>by have:=hh.1;omega),if_neg (fun hh=>by rw [hy] at hh;cases hh.2.2.2),if_pos ⟨k,⟨h1,hm⟩,ho⟩,if_pos ha'];exact ⟨rfl,rfl,rfl,hr⟩
 | over h t ht hx ho k hp ha=>
  obtain ⟨h1,h2,h3⟩:=hat t ht hx;have hm:m.From∈(s.tx m.Txn).parts:=by rw [←h2.ps];exact hp
  have ha':=(h2.others h3 hm).1 ha;have ho':(s.tx m.Txn).op=true:=by rw [←h2.op];exact ho
  rw [if_neg (fun hh=>hh (r.forC.2 h)),if_neg (fun hh=>by have:=hh.1;omega),if_neg (fun hh=>by have:=hh.1;omega),if_neg (fun hh=>by have:=hh.1;omega),if_pos ⟨k,⟨h1,hm⟩,ho'⟩,if_neg (fun hh=>hh ha')];exact ⟨rfl,rfl,rfl,r.cut I⟩
 | opens h t ht hx ho k hy hp ha=>
  obtain ⟨h1,h2,h3⟩:=hat t ht hx;have hm:m.From∈(s.tx m.Txn).parts:=by rw [←h2.ps];exact hp
  have ha':=(h2.others h3 hm).1 ha;have ho':(s.tx m.Txn).op=false:=by rw [←h2.op];exact ho
  have hr:=r.put h2.open;rw [show (QH_ t).X=m.Txn from hx] at hr;rw [if_neg (fun hh=>hh (r.forC.2 h)),if_neg (fun hh=>by have:=hh.1;omega),if_neg (fun hh=>by rw [hy] at hh;cases hh.2.2.2),if_pos ⟨k,⟨h1,hm⟩,ho'⟩,if_neg (fun hh=>hh ha')];refine ⟨?_,?_,rfl,hr⟩
  ·show againR c.Node (QH_ t) (QH_ t).Parts.length=_;rw [h2.open.again,r.node];show Zi_ s.node t.X _=_;rw [hx]
  ·show [recC m.Txn t.Parts]=[recC m.Txn (s.tx m.Txn).parts];rw [h2.ps]
def QX_ (t:RTx) (now:Int):Prop:=t.Open=false∧zbh_ t.Began now
instance {t:RTx} {now:Int}:Decidable (QX_ t now):=by unfold QX_;infer_instance
def qy_ (n:Int) (now:Int) (t:RTx):List Message:=if QX_ t now then noR n t else againR n t t.Parts.length
theorem TRel.gone {t:RTx} {x:TX} (h:TRel t x) {now:Int}:QX_ t now↔qv_ x now:=by unfold QX_ qv_;rw [h.op,h.bg]
theorem zat_ {α β:Type} {f g:α→List β}:∀{l:List α},(∀a∈l,f a=g a)→l.flatMap f=l.flatMap g
 | [],_=>rfl
 | a::l,h=>by rw [List.flatMap_cons,List.flatMap_cons,h a (List.mem_cons_self ..),zat_ fun b hb=>h b (List.mem_cons_of_mem _ hb)]
theorem CRel.step {n:Nat} {s:CS} {c:Coord} {now:Int} (I:CInv n s) (r:CRel s c):
  c.Txns.flatMap (qy_ c.Node now)=Qz_ s now∧((c.Txns.filter fun t=>decide (QX_ t now)).map fun t=>ocR t.X false false)=(QbT_ s now).map toOc∧CRel (Qq_ s now) {c with Txns:=c.Txns.filter fun t=> !decide (QX_ t now)}:=by
 refine ⟨?_,?_,r.node,r.life,r.count,r.rise.sublist List.filter_sublist,fun t ht=>?_,fun k hk=>?_⟩
 ·unfold Qz_;rw [r.all I,List.flatMap_map];refine zat_ fun t ht=>?_;obtain ⟨x,hx,h⟩:=r.mem t ht;unfold qy_ ZJ_;rw [hx,Option.getD_some,h.again,h.no,r.node];by_cases hg:qv_ x now
  ·rw [if_pos (h.gone.2 hg),if_pos hg];rfl
  ·rw [if_neg (fun e=>hg (h.gone.1 e)),if_neg hg];rfl
 ·unfold QbT_;rw [r.all I,List.filter_map,List.map_map,List.map_map]
  have:(c.Txns.filter fun t=>decide (QX_ t now))=c.Txns.filter ((fun k=>decide (qv_ ((mget k s.ts).getD zTX) now))∘fun t=>t.X.k):=by
   refine List.filter_congr fun t ht=>?_;obtain ⟨x,hx,h⟩:=r.mem t ht;show decide _=decide _;rw [hx,Option.getD_some,decide_eq_decide];exact h.gone
  rw [this];rfl
 ·have h1:=List.mem_filter.1 ht;obtain ⟨x,hx,h⟩:=r.mem t h1.1;refine ⟨x,(zT_ I).2 ⟨hx,fun hg=>?_⟩,h⟩;have:=h1.2;rw [decide_eq_true (h.gone.2 hg)] at this;cases this
 ·cases hg:mget k (Qq_ s now).ts with
  | none=>rw [hg] at hk;cases hk
  | some x=>
   obtain ⟨h1,h2⟩:=(zT_ I).1 hg;obtain ⟨t,ht,rfl⟩:=r.cov k (by rw [h1];rfl);obtain ⟨x',hx',h⟩:=r.mem t ht;rw [h1] at hx';cases hx';refine ⟨t,List.mem_filter.2 ⟨ht,?_⟩,rfl⟩;rw [decide_eq_false fun e=>h2 (h.gone.1 e)];rfl
theorem CRel.voting {n:Nat} {s:CS} {c:Coord} (I:CInv n s) (r:CRel s c):qal_ s=(c.Txns.filter fun t=> !t.Open).map (·.X):=by
 unfold qal_;rw [r.all I,List.filter_map,List.map_map]
 have:c.Txns.filter ((fun k=> !((mget k s.ts).getD zTX).op)∘fun t=>t.X.k)=c.Txns.filter fun t=> !t.Open:=by
  refine List.filter_congr fun t ht=>?_;obtain ⟨x,hx,h⟩:=r.mem t ht;show (!((mget t.X.k s.ts).getD zTX).op)=_;rw [hx,Option.getD_some,h.op]
 rw [this];rfl
theorem CRel.open {n:Nat} {s:CS} {c:Coord} (I:CInv n s) (r:CRel s c):openL s=(c.Txns.filter fun t=>t.Open).map fun t=>recC t.X t.Parts:=by
 unfold openL;rw [r.all I,List.filter_map,List.map_map]
 have:c.Txns.filter ((fun k=>((mget k s.ts).getD zTX).op)∘fun t=>t.X.k)=c.Txns.filter fun t=>t.Open:=by
  refine List.filter_congr fun t ht=>?_;obtain ⟨x,hx,h⟩:=r.mem t ht;show ((mget t.X.k s.ts).getD zTX).op=_;rw [hx,Option.getD_some,h.op]
 rw [this];refine List.map_congr_left fun t ht=>?_;obtain ⟨x,hx,h⟩:=r.mem t (List.mem_filter.1 ht).1;show recC _ ((mget t.X.k s.ts).getD zTX).parts=_;rw [hx,Option.getD_some,h.ps];rfl
def ZH_ (c:Coord) (now:Int) (ws:List (Int×Work)):RTx:=⟨⟨c.Node,c.Life,c.Count+1⟩,false,now,ws.map (·.1),ws.map (·.2),List.replicate ws.length false⟩
theorem TRel.began {x:Txn} {now:Int} {ws:List (Int×CW)} (hn:(ws.map (·.1)).Nodup):TRel ⟨x,false,now,ws.map (·.1),ws.map (·.2.2),List.replicate ws.length false⟩ (Zp_ now ws):=by
 refine ⟨rfl,rfl,rfl,?_,fun _=>?_⟩
 ·show _=(ws.map (·.1)).map (Zp_ now ws).hd;exact v104_
 ·show _=(ws.map (·.1)).map (Zp_ now ws).wk;rw [List.map_map];refine List.map_congr_left fun q hq=>?_;show q.2.2=((mget q.1 ws).getD zCW).2;rw [zi_ hn hq];rfl
theorem v121_ {P:Prop} (h:P:=by
 unfold ZH_ newX;rw [r.node,r.life,r.count,List.map_map,List.map_map,List.length_map];rfl):P:=h
theorem CRel.begin {s:CS} {c:Coord} {now:Int} {ws:List (Int×CW)} (r:CRel s c) (hn:(ws.map (·.1)).Nodup) (hne:ws≠[]):
  CRel (Qg_ s now ws) ⟨c.Node,c.Life,c.Count+1,putR (ZH_ c now (ws.map fun q=>(q.1,q.2.2))) c.Txns⟩:=by
 have h:=r.put (TRel.began (x:=newX s) (now:=now) hn);unfold Qg_;rw [if_neg hne]
 have e:ZH_ c now (ws.map fun q=>(q.1,q.2.2))=⟨newX s,false,now,ws.map (·.1),ws.map (·.2.2),List.replicate ws.length false⟩:=by
  exact v121_
 rw [e];exact ⟨r.node,r.life,by show c.Count+1=s.count+1;rw [r.count],h.rise,h.mem,h.cov⟩
theorem v52_ {P:Prop} (h:P:=by
 rw [List.map_map]
 have h1:((Zp_ now ws).parts.filter fun p=> !(Zp_ now ws).hd p)=ws.map (·.1):=by
  rw [List.filter_eq_self.2]
  ·rfl
  ·intro a ha;rfl
 rw [h1,List.map_map];refine List.map_congr_left fun q hq=>?_;show ZB_ s.node (newX s) q.1 ((mget q.1 ws).getD zCW).2=ZB_ s.node (newX s) q.1 q.2.2;rw [zi_ hn hq];rfl):P:=h
theorem Qdp_ {s:CS} {c:Coord} {now:Int} {ws:List (Int×CW)} (r:CRel s c) (hn:(ws.map (·.1)).Nodup):
  againR c.Node (ZH_ c now (ws.map fun q=>(q.1,q.2.2))) ws.length=zaV_ s (ws.map fun q=>(q.1,q.2.2)):=by
 have e:ZH_ c now (ws.map fun q=>(q.1,q.2.2))=⟨newX s,false,now,ws.map (·.1),ws.map (·.2.2),List.replicate ws.length false⟩:=by
  exact v121_
 rw [e];have h:=(TRel.began (x:=newX s) (now:=now) hn).again (n:=c.Node);rw [show (⟨newX s,false,now,ws.map (·.1),ws.map (·.2.2),List.replicate ws.length false⟩:RTx).Parts.length=ws.length from by simp] at h;rw [h,r.node];unfold Zi_ zaV_;exact v52_
structure OkR (node life:Int) (r:Rec):Prop where
  node:r.Txn.Node=node
  life:r.Txn.Life<life
  ne:r.Parts≠[]
  nn:∀p∈r.Parts,0≤p
  rise:r.Parts.Pairwise (· < ·)
def zC_ (r:Rec):TX:=⟨true,0,r.Parts,[],[]⟩
def loadTs (l:List Rec) (m:List (K3×TX)):List (K3×TX):=l.foldl (fun m r=>mset r.Txn.k (zC_ r) m) m
theorem Qcm_ {l:List Rec} {r:Rec} {m:List (K3×TX)}:loadTs (l++[r]) m=mset r.Txn.k (zC_ r) (loadTs l m):=by unfold loadTs;rw [List.foldl_append];rfl
def qat_ (r:Rec):RTx:=⟨r.Txn,true,0,r.Parts,[],List.replicate r.Parts.length false⟩
def loadRs (l:List Rec):List RTx:=l.foldl (fun a r=>putR (qat_ r) a) []
theorem Zcm_ {l:List Rec} {r:Rec}:loadRs (l++[r])=putR (qat_ r) (loadRs l):=by unfold loadRs;rw [List.foldl_append];rfl
theorem zbg_ {l:List Rec}:∀{m:List (K3×TX)} {k:K3},(mget k (loadTs l m)).isSome=true↔(mget k m).isSome=true∨∃r∈l,r.Txn.k=k:=by
 induction l with
 | nil=>intro m k;simp [loadTs]
 | cons r l ih=>
  intro m k;rw [show loadTs (r::l) m=loadTs l (mset r.Txn.k (zC_ r) m) from rfl,ih,Qe_];by_cases h:k=r.Txn.k
  ·subst h;simp
  ·rw [if_neg h];simp only [List.mem_cons,exists_eq_or_imp];constructor
   ·rintro (h1 | h1)
    ·exact .inl h1
    ·exact .inr (.inr h1)
   ·rintro (h1 | h1 | h1)
    ·exact .inl h1
    ·exact absurd h1.symm h
    ·exact .inr h1
theorem ZbS_ {l:List Rec}:∀{m:List (K3×TX)},(m.map (·.1)).Nodup→((loadTs l m).map (·.1)).Nodup∧(loadTs l m).length≤m.length+l.length:=by
 induction l with
 | nil=>intro m h;exact ⟨h,by simp [loadTs]⟩
 | cons r l ih=>
  intro m h;obtain ⟨h1,h2⟩:=ih (m:=mset r.Txn.k (zC_ r) m) (qj_ h);refine ⟨h1,?_⟩;rw [show loadTs (r::l) m=loadTs l (mset r.Txn.k (zC_ r) m) from rfl];rw [ZF_] at h2;simp only [List.length_cons];split at h2<;>omega
theorem qaq_ {P:K3→TX→Prop} {l:List Rec}:∀{m:List (K3×TX)},(∀k t,mget k m=some t→P k t)→(∀r∈l,P r.Txn.k (zC_ r))→∀k t,mget k (loadTs l m)=some t→P k t:=by
 induction l with
 | nil=>intro m h _ k t hk;exact h k t hk
 | cons r l ih=>
  intro m h hr k t hk;refine ih (m:=mset r.Txn.k (zC_ r) m) (fun k t hk=>?_) (fun r hm=>hr r (List.mem_cons_of_mem _ hm)) k t hk;rw [Qe_] at hk;split at hk
  ·next e=>subst e;cases hk;exact hr r (List.mem_cons_self ..)
  ·exact h k t hk
theorem CRel.loads {l:List Rec}:∀{s:CS} {c:Coord},CRel s c→CRel ⟨s.node,s.life,s.count,loadTs l s.ts⟩ {c with Txns:=l.foldl (fun a r=>putR (qat_ r) a) c.Txns}:=by
 induction l with
 | nil=>intro s c r;exact r
 | cons q l ih=>
  intro s c r;have h:=r.put (t:=qat_ q) (x:=zC_ q) ⟨rfl,rfl,rfl,(List.eq_replicate_iff.2 ⟨by simp [zC_],fun b hb=>by obtain ⟨p,_,rfl⟩:=List.mem_map.1 hb;rfl⟩).symm,fun e=>by cases e⟩;exact ih h
theorem qbT_ {node life:Int} {l:List Rec}:CRel ⟨node,life,0,loadTs l []⟩ ⟨node,life,0,loadRs l⟩:=crel0.loads (l:=l)
theorem TInv.load {node life:Int} {r:Rec} (h:OkR node life r) (hf:∀p∈r.Parts,fits p):TInv (zC_ r):=
 ⟨h.ne,h.rise,fun p hp=>⟨h.nn p hp,hf p hp⟩,by simp [zC_],fun q hq=>(by cases hq),by have:=List.length_pos_iff.2 h.ne;simpa [zC_] using this,fun e=>(by cases e),qh_⟩
theorem CInv.load {node life:Int} {l:List Rec} {n:Nat} (h1:fits node) (h2:fits life) (hn:l.length≤n) (h:∀r∈l,OkR node life r∧(∀p∈r.Parts,fits p)∧fits r.Txn.Life∧fits r.Txn.Count):CInv n ⟨node,life,0,loadTs l []⟩:=by
 obtain ⟨a,b⟩:=ZbS_ (l:=l) (m:=[]) (by simp);refine ⟨a,by have:(loadTs l []).length≤0+l.length:=b;show (loadTs l []).length≤n;omega,qaq_ (fun k t h=>by cases h) fun r hr=>TInv.load (h r hr).1 (h r hr).2.1,qaq_ (fun k t h=>by cases h) fun r hr=>?_,by simp,h1,h2⟩;obtain ⟨g1,g2,g3,g4⟩:=h r hr;refine ⟨g1.node,g3,g4,?_,fun e=>?_⟩
 ·have:=g1.life;show r.Txn.Life≤life;omega
 ·have:=g1.life;have e':r.Txn.Life=life:=e;omega
theorem Qbg_ {s:CS} {r:Rec} (h:r∈openL s):∃k t,mget k s.ts=some t∧t.op=true∧r=recC (toTx k) t.parts:=by
 unfold openL at h;obtain ⟨k,hk,rfl⟩:=List.mem_map.1 h;obtain ⟨h1,h2⟩:=List.mem_filter.1 hk;rw [Qad_] at h1
 cases hg:mget k s.ts with
 | none=>rw [hg] at h1;cases h1
 | some t=>
  refine ⟨k,t,hg,?_,?_⟩
  ·rw [hg] at h2;exact h2
  ·rfl
theorem ZaU_ {n:Nat} {s:CS} (I:CInv n s) {r:Rec} (h:r∈openL s):OkR s.node (s.life+1) r∧(∀p∈r.Parts,fits p)∧fits r.Txn.Life∧fits r.Txn.Count:=by
 obtain ⟨k,t,hk,ho,rfl⟩:=Qbg_ h;have ti:=I.ti k t hk;obtain ⟨a,b,c,d,e⟩:=I.kn k t hk;exact ⟨⟨a,by show k.2.1<s.life+1;omega,ti.ne,fun p hp=>(ti.nn p hp).1,ti.rise⟩,fun p hp=>(ti.nn p hp).2,b,c⟩
theorem Zbg_ {n:Nat} {s:CS} (I:CInv n s):((openL s).map (·.Txn.k)).Nodup:=by
 unfold openL;rw [List.map_map];have:((fun r:Rec=>r.Txn.k)∘fun k=>recC (toTx k) ((mget k s.ts).getD zTX).parts)=id:=funext fun k=>rfl;rw [this,List.map_id];refine List.Nodup.sublist List.filter_sublist ?_;rw [List.nodup_iff_pairwise_ne];exact (qZ_ I.nd).imp fun h e=>by rw [e] at h;exact QC_ h
theorem qaV_ {s:CS}:(allC s).length=s.ts.length:=by unfold allC;rw [qC_,List.length_map]
theorem qbh_ {s:CS}:(openL s).length≤s.ts.length:=by
 unfold openL;rw [List.length_map,←qaV_];exact List.length_filter_le _ _
abbrev ptrC (p:Nat):Value:= .pointer (some ⟨p,0,none⟩)
abbrev iK:Int→Value:=fun x=> .int .i64 x
structure CE where
  k:K3
  p:Nat
  v:Value
  x:TX
abbrev xRow (e:CE) (wv:Value) (hb:Nat):za_:=row e.p 165 [.bool e.x.op,I e.x.began,e.v,wv,.map (some hb)]
abbrev qB_ (H:Heap) (e:CE) (hb:Nat):za_:=mapO iK rInt false H hb e.x.heard
def qt_ (H:Heap) (e:CE) (wv:Value):za_:=fun h=>(e.x.op=true∧e.x.works=[]∧wv= .map none∧h=Heap.empty)∨(e.x.op=false∧∃wb,wv= .map (some wb)∧mapO iK rCW true H wb e.x.works h)
def xA (H:Heap) (e:CE):za_:=fun h=>SlB rInt 1 8 H e.v e.x.parts∧∃wv hb,big [xRow e wv hb,qt_ H e wv,qB_ H e hb] h
abbrev cRow (p mb:Nat) (s:CS):za_:=row p 160 [I s.node,I s.life,I s.count,.map (some mb)]
def kvC {ν:Type} (f:CE→ν) (zs:List CE):List (K3×ν):=zs.map fun e=>(e.k,f e)
abbrev msC (zs:List CE):List (K3×Value):=kvC (fun e=>ptrC e.p) zs
abbrev tsC (zs:List CE):List (K3×TX):=kvC CE.x zs
abbrev cMap (mb:Nat) (zs:List CE):za_:=mapO ek3 rVal false Heap.empty mb (msC zs)
def zh_ (H:Heap) (p:Nat) (s:CS):za_:=fun h=>∃mb zs,big [cRow p mb s,cMap mb zs,bigL (xA H) zs] h∧s.ts=tsC zs
theorem qay_ {ν:Type} {f:CE→ν} {zs:List CE}:(kvC f zs).map (·.1)=zs.map CE.k:=by simp only [kvC,List.map_map];rfl
theorem QbF_ {ν:Type} {f:CE→ν} {zs:List CE} {e:CE} (hn:(zs.map CE.k).Nodup) (he:e∈zs):mget e.k (kvC f zs)=some (f e):=
 zi_ (by rw [qay_];exact hn) (List.mem_map.2 ⟨e,he,rfl⟩)
theorem zbi_ {ν:Type} {f:CE→ν} {zs:List CE} {k:K3} (hn:∀e∈zs,e.k≠k):mget k (kvC f zs)=none:=by
 rw [QL_,qay_];intro h;obtain ⟨e,he,rfl⟩:=List.mem_map.1 h;exact hn e he rfl
theorem QaL_ (zs:List CE) (k:K3):(∃l1 e l2,zs=l1++e::l2∧e.k=k)∨∀e∈zs,e.k≠k:=by
 by_cases h:∃e∈zs,e.k=k
 ·obtain ⟨e,he,hn⟩:=h;obtain ⟨l1,l2,rfl⟩:=List.append_of_mem he;exact .inl ⟨l1,e,l2,rfl,hn⟩
 ·exact .inr fun e he hn=>h ⟨e,he,hn⟩
theorem ZcF_ {ν:Type} {f:CE→ν} {l1 l2:List CE} {e:CE} (h:((l1++e::l2).map CE.k).Nodup):mdel e.k (kvC f (l1++e::l2))=kvC f (l1++l2):=by
 induction l1 with
 | nil=>simp [kvC,mdel]
 | cons x l1 ih=>
  rw [List.cons_append,List.map_cons,List.nodup_cons] at h;have hx:¬e.k=x.k:=fun e1=>h.1 (by rw [←e1];simp)
  have:mdel e.k (kvC f (x::l1++e::l2))=(x.k,f x)::mdel e.k (kvC f (l1++e::l2)):=by
   simp only [List.cons_append,kvC,List.map_cons,mdel];rw [if_neg hx]
  rw [this,ih h.2];rfl
theorem qcG_ {ν:Type} {f:CE→ν} {zs:List CE} {e:CE} (hn:∀x∈zs,x.k≠e.k):mset e.k (f e) (kvC f zs)=kvC f (zs++[e]):=by
 induction zs with
 | nil=>simp [kvC,mset]
 | cons x zs ih=>
  have hx:¬e.k=x.k:=fun e1=>hn x (by simp) e1.symm
  have:mset e.k (f e) (kvC f (x::zs))=(x.k,f x)::mset e.k (f e) (kvC f zs):=by
   simp only [kvC,List.map_cons,mset];rw [if_neg hx]
  rw [this,ih fun y hy=>hn y (by simp [hy])];rfl
theorem zdr_ {ν:Type} {f:CE→ν} {l1 l2:List CE} {e e':CE} (h:((l1++e::l2).map CE.k).Nodup) (hn:e'.k=e.k):mset e'.k (f e') (kvC f (l1++e::l2))=kvC f (l1++e'::l2):=by
 induction l1 with
 | nil=>simp [kvC,mset,hn]
 | cons x l1 ih=>
  rw [List.cons_append,List.map_cons,List.nodup_cons] at h;have hx:¬e'.k=x.k:=fun e1=>h.1 (by rw [←e1,hn];simp)
  have:mset e'.k (f e') (kvC f (x::l1++e::l2))=(x.k,f x)::mset e'.k (f e') (kvC f (l1++e::l2)):=by
   simp only [List.cons_append,kvC,List.map_cons,mset];rw [if_neg hx]
  rw [this,ih h.2];rfl
theorem Qee_ {ν:Type} {f:CE→ν} {l1 l2:List CE} {e e':CE} (hk:e'.k=e.k) (hf:f e'=f e):kvC f (l1++e'::l2)=kvC f (l1++e::l2):=by
 simp [kvC,hk,hf]
theorem Qbi_ {κ ν:Type} [DecidableEq κ] {ek:κ→Value} {R:Go.Sx.Rd ν} {ag:Bool} {H H':Heap} {b n:Nat} {m:List (κ×ν)} {h:Heap} [RdOk R n] (hl:H.le H') (hm:mapO ek R ag H b m h):mapO ek R ag H' b m h:=by
 obtain ⟨es,c,a,e⟩:=hm;exact ⟨es,c,a.mono hl,e⟩
theorem Zbi_ {H H':Heap} {e:CE} {wv:Value} {h:Heap} (hl:H.le H') (hw:qt_ H e wv h):qt_ H' e wv h:=by
 rcases hw with hw | ⟨ho,wb,hwb,hm⟩
 ·exact .inl hw
 ·exact .inr ⟨ho,wb,hwb,Qbi_ hl hm⟩
theorem Qco_ {H H':Heap} {e:CE} {h:Heap} (hl:H.le H') (hx:xA H e h):xA H' e h:=by
 obtain ⟨hs,wv,hb,h1,h2,a1,⟨b1,b2,b3,⟨c1,c2,c3,c4⟩,b5⟩,a3⟩:=hx;exact ⟨hs.mono hl,wv,hb,h1,h2,a1,⟨b1,b2,Zbi_ hl b3,⟨c1,c2,Qbi_ hl c3,c4⟩,b5⟩,a3⟩
theorem big_mono {ι:Type} {A B:ι→za_} (hab:∀e h,A e h→B e h):∀{l:List ι} {h:Heap},big (l.map A) h→big (l.map B) h
 | [],h,hb=>hb
 | e::l,h,⟨h1,h2,ha,hb,r⟩=>⟨h1,h2,hab e h1 ha,big_mono hab hb,r⟩
theorem ZaL_ {H H':Heap} {p:Nat} {s:CS} {h:Heap} (hl:H.le H') (hc:zh_ H p s h):zh_ H' p s h:=by
 obtain ⟨mb,zs,⟨h1,h2,a1,⟨b1,b2,b3,⟨c1,c2,c3,c4⟩,b5⟩,a3⟩,e⟩:=hc;exact ⟨mb,zs,⟨h1,h2,a1,⟨b1,b2,b3,⟨c1,c2,big_mono (fun _ _ h=>Qco_ hl h) c3,c4⟩,b5⟩,a3⟩,e⟩
theorem zcG_ {H H':Heap} {p:Nat} {s:CS} {L:List za_} (hl:H.le H'):Sub (zh_ H p s::L) (zh_ H' p s::L):=fun h ⟨h1,h2,hc,r⟩=>⟨h1,h2,ZaL_ hl hc,r⟩
theorem zez_ {H H':Heap} {e:CE} {L:List za_} (hl:H.le H'):Sub (xA H e::L) (xA H' e::L):=fun h ⟨h1,h2,hc,r⟩=>⟨h1,h2,Qco_ hl hc,r⟩
theorem zcQ_ {H H':Heap} {zs:List CE} {L:List za_} (hl:H.le H'):Sub (bigL (xA H) zs::L) (bigL (xA H') zs::L):=fun h ⟨h1,h2,hc,r⟩=>⟨h1,h2,big_mono (fun _ _ h=>Qco_ hl h) hc,r⟩
theorem qE_ {H:Heap} {p mb:Nat} {s:CS} {zs:List CE} {L:List za_} (hs:s.ts=tsC zs):Sub (cRow p mb s::cMap mb zs::bigL (xA H) zs::L) (zh_ H p s::L):=
 Zab_ (B:=[cRow p mb s,cMap mb zs,bigL (xA H) zs]) (Sub.refl _) fun h hb=>⟨mb,zs,hb,hs⟩
theorem Zaq_ {H H':Heap} {p mb:Nat} {s:CS} {zs:List CE} {L:List za_} (hs:s.ts=tsC zs) (hl:H.le H'):Sub (cRow p mb s::cMap mb zs::bigL (xA H) zs::L) (zh_ H' p s::L):=
 (qE_ hs).trans (zcG_ hl)
theorem QN_ {H H':Heap} {e:CE} {wv:Value} {hb:Nat} {L:List za_} (hs:SlB rInt 1 8 H' e.v e.x.parts) (hl:H.le H'):Sub (xRow e wv hb::qt_ H e wv::qB_ H e hb::L) (xA H' e::L):=
 (Zab_ (B:=[xRow e wv hb,qt_ H e wv,qB_ H e hb]) (A:=fun h=>∃wv hb,big [xRow e wv hb,qt_ H e wv,qB_ H e hb] h) (Sub.refl _) fun h hb'=>⟨wv,hb,hb'⟩).trans fun h ⟨h1,h2,⟨wv',hb',a1,a2,r1,⟨b1,b2,b3,⟨c1,c2,c3,c4⟩,b5⟩,a3⟩,r⟩=>⟨h1,h2,⟨hs,wv',hb',a1,a2,r1,⟨b1,b2,Zbi_ hl b3,⟨c1,c2,Qbi_ hl c3,c4⟩,b5⟩,a3⟩,r⟩
theorem Zv_ {W0:World} {H:Heap} {v:Value} {xs:List Int} (h0:SlB rInt 1 8 H v xs):
  Ct Tryz.prog 31 #[v] W0 H [] (fun r H' B=>B=[ownS rInt 1 8 3 H r xs]∧H'=H):=by
 exact v33_
theorem qco_ {W0:World} {H:Heap} {v:Value} {xs:List Int} {x:Int} (h0:SlR rInt 1 H v xs):
  Ct Tryz.prog 136 #[v,I x] W0 H [] (fun r H' B=>((r=I (-1)∧x∉xs)∨∃j:Nat,∃h:j<xs.length,r=I j∧xs[j]=x)∧B=[]∧H'=H):=by
 refine Ct.go (vs:=[v,I x]) fun R=>?_;obtain ⟨b0,c0,rfl,hc0,hd0⟩:=h0.shape;refine walk ?_;refine Qc_ (σ:=Nat) (fun k=>k≤xs.length∧x∉xs.take k) (fun k=>[(0,.slice b0 xs.length c0),(1,I x),(7,I xs.length),(8,I k)]) (fun _=>H) (fun _=>R) (fun k=>xs.length - k) 0 ⟨Nat.zero_le _,by simp⟩ fun k ⟨hk0,hno⟩ K hL=>?_;refine walk ?_;refine ze_ rfl (fun hk=>?_) (fun hk=>?_)
 ·have hk1:k<xs.length:=by omega
  have ht:=List.take_succ_eq_append_getElem hk1;refine walk ?_;refine ze_ rfl (fun hq=>?_) (fun hq=>?_)
  ·refine walk ?_;refine fin0 ?_;exact ⟨.inr ⟨k,hk1,rfl,hq.symm⟩,rfl,rfl⟩
  ·refine walk ?_;refine Zb_ hL (k+1) ⟨by omega,?_⟩;rw [ht,List.mem_append,List.mem_singleton];rintro (h | h)
   ·exact hno h
   ·exact hq h
 ·clear hL;obtain rfl:k=xs.length:=by omega
  rw [List.take_length] at hno;refine walk ?_;refine fin0 ?_;exact ⟨.inl ⟨rfl,hno⟩,rfl,rfl⟩
theorem qK_ {W0:World} {H:Heap} {v:Value} {xs:List Int} {x:Int} (h0:SlR rInt 1 H v xs):
  Ct Tryz.prog 105 #[v,I x] W0 H [] (fun r H' B=>r= .bool (decide (x∈xs))∧B=[]∧H'=H):=by
 refine Ct.go (vs:=[v,I x]) fun R=>?_;refine walk ?_;refine Za_ rfl rfl (qco_ h0) fun r1 H1 B hl1 ⟨hr,eB,eH⟩=>?_;subst eB eH;rcases hr with ⟨rfl,hno⟩ | ⟨j,hj,rfl,hx⟩
 ·refine walk ?_;refine fin0 ?_;exact ⟨by rw [decide_eq_false hno],rfl,rfl⟩
 ·have hge:(0:Int)≤(j:Int):=by omega
  refine walk ?_;refine fin0 ?_;exact ⟨by rw [decide_eq_true (hx▸List.getElem_mem hj)],rfl,rfl⟩
theorem zco_ {W0:World} {H:Heap} {v:Value} {xs:List Int} (h0:SlR rInt 1 H v xs):
  Ct Tryz.prog 109 #[v] W0 H [] (fun r H' B=>(∃q,r= .bool q∧(q=true↔xs.Pairwise (· < ·)))∧B=[]∧H'=H):=by
 refine Ct.go (vs:=[v]) fun R=>?_;obtain ⟨b0,c0,rfl,hc0,hd0⟩:=h0.shape;refine walk ?_;refine Qc_ (σ:=Nat) (fun k=>1≤k∧(k≤xs.length∨k=1)∧(xs.take k).Pairwise (· < ·)) (fun k=>[(0,.slice b0 xs.length c0),(3,I k)]) (fun _=>H) (fun _=>R) (fun k=>xs.length - k) 1 ⟨Nat.le_refl _,.inr rfl,?_⟩ fun k ⟨hk0,hk2,hp⟩ K hL=>?_
 ·cases xs<;>simp
 refine walk ?_;refine ze_ rfl (fun hk=>?_) (fun hk=>?_)
 ·have hk1:k<xs.length:=by omega
  have hkp:k - 1<xs.length:=by omega
  have ht:=List.take_succ_eq_append_getElem hk1;have hci:((k:Int) - 1)=((k - 1:Nat):Int):=by omega
  refine walk ?_;rw [hci];refine walk ?_
  have hst:(xs.take (k+1)).Pairwise (· < ·)↔xs[k - 1]<xs[k]:=by
   rw [ht,List.pairwise_append];constructor
   ·rintro ⟨_,_,h⟩;refine h _ ?_ _ (by simp);rw [List.mem_take_iff_getElem];exact ⟨k - 1,by omega,rfl⟩
   ·intro h;refine ⟨hp,by simp,fun a ha b hb=>?_⟩;rw [List.mem_singleton] at hb;subst hb;obtain ⟨j,hj,rfl⟩:=List.mem_take_iff_getElem.1 ha;have hj':j<k∧j<xs.length:=by omega
    by_cases e:j=k - 1
    ·subst e;exact h
    ·have h3:=(List.pairwise_iff_getElem.1 hp) j (k - 1) (by simp;omega) (by simp;omega) (by omega);simp only [List.getElem_take] at h3;omega
  refine ze_ rfl (fun hq=>?_) (fun hq=>?_)
  ·refine walk ?_;refine fin0 ?_;refine ⟨⟨false,rfl,⟨fun h=>(by cases h),fun h=>?_⟩⟩,rfl,rfl⟩;have:=hst.1 (h.sublist (List.take_sublist _ _));omega
  ·refine walk ?_;exact Zb_ hL (k+1) ⟨by omega,.inl (by omega),hst.2 (by omega)⟩
 ·clear hL;refine walk ?_;refine fin0 ?_;refine ⟨⟨true,rfl,⟨fun _=>?_,fun _=>rfl⟩⟩,rfl,rfl⟩;rwa [List.take_of_length_le (by omega)] at hp
theorem zal_ {W0:World} {H:Heap} {c:List Value} {m:Work} (h0:zj_ H c m):
  Ct Tryz.prog 65 #[.agg c.toArray] W0 H [] (fun r H' B=>∃cs,r= .agg cs.toArray∧zj_ H' cs m∧B=[]):=by
 exact v16_
theorem qdr_ {W0:World} {H:Heap} {b n:Int} (hb:fits b) (hn:fits n):
  Ct Tryz.prog 77 #[I b,I n] W0 H [] (fun r H' B=>r= .bool (decide (zbh_ b n))∧B=[]∧H'=H):=by
 refine Ct.go (vs:=[I b,I n]) fun R=>?_;by_cases h:b≤n
 ·refine walk ?_;refine fin0 ?_
  have hw:IntKind.u64.wrap (IntKind.u64.wrap n - IntKind.u64.wrap b)=n - b:=by
   unfold fits at hb hn;have hk:∀z:Int,IntKind.u64.wrap z=z % 18446744073709551616:=fun z=>by simp [IntKind.wrap,IntKind.signed,IntKind.bits]
   rw [hk,hk,hk];omega
  rw [hw];exact ⟨bdec ⟨fun h2=>⟨h,h2⟩,fun h2=>h2.2⟩,rfl,rfl⟩
 ·refine walk ?_;refine fin0 ?_;exact ⟨by rw [decide_eq_false (fun h2:zbh_ b n=>h h2.1)],rfl,rfl⟩
end Go.Proofs.YtlflbkpmfhhikaaGreatDoor
