/- A fresh coordinator's Begin, all that it makes handed back owned. -/
import Derived.Test.YtlflbkpmfhhikaaGreatDoorKE44
import Derived.Test.YtlflbkpmfhhikaaGreatDoorKKD
import Derived.Test.YtlflbkpmfhhikaaGreatDoorKMD
import Derived.Test.YtlflbkpmfhhikaaGreatDoorKQB
import Derived.Test.YtlflbkpmfhhikaaGreatDoorKTH
import Derived.Test.YtlflbkpmfhhikaaGreatDoorKTP
import Derived.Test.YtlflbkpmfhhikaaGreatDoorKTR
import Derived.Test.YtlflbkpmfhhikaaGreatDoorKTX
import Derived.Test.YtlflbkpmfhhikaaGreatDoorKUH
import Derived.Test.YtlflbkpmfhhikaaGreatDoorKYI
set_option linter.unusedVariables false
set_option linter.unusedSimpArgs false
namespace Go.Proofs.YtlflbkpmfhhikaaGreatDoor
open Go Go.Sx Go.Proofs
end Go.Proofs.YtlflbkpmfhhikaaGreatDoor
namespace Go.Proofs.YtlflbkpmfhhikaaGreatDoor
open Go Go.Sx Go.Proofs
theorem qdO_ {α:Type} {p:α→Bool} {l:List α} {k:Nat} (hk:k<l.length) (hp:p l[k]=true):∃h:((l.take k).filter p).length<(l.filter p).length,(l.filter p)[((l.take k).filter p).length]=l[k]:=by
 have h1:l=l.take k++l[k]::l.drop (k+1):=by rw [List.getElem_cons_drop,List.take_append_drop]
 have h2:l.filter p=(l.take k).filter p++l[k]::(l.drop (k+1)).filter p:=by
  conv=>lhs;rw [h1]
  rw [List.filter_append,List.filter_cons_of_pos hp]
 have h3:((l.take k).filter p).length<(l.filter p).length:=by rw [h2];simp
 refine ⟨h3,?_⟩;have:(l.filter p)[((l.take k).filter p).length]?=some l[k]:=by rw [h2];simp
 exact (List.getElem?_eq_some_iff.1 this).2
abbrev sl (x:Option Addr×Nat) {α:Type} (l:List α):Value:= .slice x.1 l.length x.2
abbrev ownM (H:Heap) (s1 s2 s3 s4:Option Addr×Nat) (m:Message):List za_:=
  [ownS rStr 1 16 9 H (sl s1 m.Work.Take) m.Work.Take,ownS rStr 1 16 9 H (sl s2 m.Work.Drop) m.Work.Drop,ownS rInt 1 8 3 H (sl s3 m.Call.Route.Cells) m.Call.Route.Cells,ownS rInt 1 8 3 H (sl s4 m.Reply.Route.Cells) m.Reply.Route.Cells]
abbrev cvM (s1 s2 s3 s4:Option Addr×Nat) (m:Message):List Value:=m.cv (sl s1 m.Work.Take) (sl s2 m.Work.Drop) (sl s3 m.Call.Route.Cells) (sl s4 m.Reply.Route.Cells)
def okM (m:Message):Prop:=fits m.From∧fits m.To∧fits m.Kind∧(fits m.Txn.Node∧fits m.Txn.Life∧fits m.Txn.Count)∧fits m.Work.Robot∧fits m.ID∧fits m.Call.Verb∧fits m.Call.Epoch∧fits m.Call.Route.Start∧fits m.Reply.Code∧fits m.Reply.Epoch∧fits m.Reply.Route.Start
end Go.Proofs.YtlflbkpmfhhikaaGreatDoor
namespace Go.Proofs.YtlflbkpmfhhikaaGreatDoor
open Go Go.Sx Go.Proofs
open Go Go.Sx Go.Proofs
open Go Go.Sx Go.Proofs
open Go Go.Sx Go.Proofs
end Go.Proofs.YtlflbkpmfhhikaaGreatDoor
namespace Go.Proofs.YtlflbkpmfhhikaaGreatDoor
open Go Go.Sx Go.Proofs
structure PI (k:Nat) (s:CS) (m:Coord):Prop where
  I:CInv k s
  r:CRel s m
  pl:∀key t,mget key s.ts=some t→t.parts.length≤8
  lf:0≤s.life∧s.life≤(k:Int)+1
theorem PI.more {k k':Nat} {s:CS} {m:Coord} (h:PI k s m) (hk:k≤k'):PI k' s m:=⟨h.I.more hk,h.r,h.pl,h.lf.1,by have:=h.lf.2;omega⟩
theorem PI.len {k:Nat} {s:CS} {m:Coord} (h:PI k s m):m.Txns.length≤k:=by
 have h1:=congrArg List.length (h.r.all h.I);rw [List.length_map,Zbk_] at h1;have:=h.I.ln;omega
theorem PI.txs {k:Nat} {s:CS} {m:Coord} (h:PI k s m):Qdw_ m.Txns:=fun t ht=>by
 obtain ⟨x,hx,g⟩:=h.r.mem t ht;refine ⟨?_,fun ho=>?_,?_⟩
 ·rw [g.hd,g.ps,List.length_map]
 ·rw [g.wk (by rw [←g.op];exact ho),g.ps,List.length_map]
 ·rw [g.ps];have:=h.pl _ _ hx;omega
theorem PI.ct {k:Nat} {s:CS} {m:Coord} (h:PI k s m):0≤m.Count∧m.Count≤k:=by rw [h.r.count];exact h.I.c0
def BegA (s:CS) (now:Int) (l:List Work) (x:Txn) (out:List Message) (e:Int) (s':CS):Prop:=
  ∃ws,pq ws=works0 0 l∧((ws=[]∧x=⟨0,0,0⟩∧out=[]∧e=4∧s'=s)∨(ws≠[]∧x=newX s∧out=qi_ s.node (newX s) (zf_ now ws)∧e=0∧s'=qd_ s now ws))
def QdC_ (m:Coord) (now:Int) (l:List Work) (x:Txn) (out:List Message) (e:Int) (m':Coord):Prop:=
  (works0 0 l=[]∧x=⟨0,0,0⟩∧out=[]∧e=4∧m'=m)∨(works0 0 l≠[]∧x=⟨m.Node,m.Life,m.Count+1⟩∧out=againR m.Node (zF_ m now (works0 0 l)) (works0 0 l).length∧e=0∧m'=⟨m.Node,m.Life,m.Count+1,putR (zF_ m now (works0 0 l)) m.Txns⟩)
theorem ZdQ_ {ws:List (Int×CW)}:pq ws=[]↔ws=[]:=by unfold pq;simp
theorem qdR_ {ws:List (Int×CW)}:(pq ws).length=ws.length:=by unfold pq;simp
theorem qbQ_ {s:CS} {now:Int} {ws:List (Int×CW)} (hn:(ws.map (·.1)).Nodup):qi_ s.node (newX s) (zf_ now ws)=ZaL_ s (pq ws):=by
 unfold qi_ ZaL_ pq;exact v40_
theorem PI.begin {k:Nat} {s s':CS} {m m':Coord} {now:Int} {l:List Work} {x y:Txn} {out out2:List Message} {e e2:Int} (h:PI k s m) (hk:k≤1000) (hl:l.length≤8) (hnow:fits now) (a:BegA s now l x out e s') (b:QdC_ m now l y out2 e2 m'):
  x=y∧out=out2∧e=e2∧PI (k+1) s' m':=by
 obtain ⟨ws,hws,a⟩:=a;have hwf:ws.map (·.1)=(works0 0 l).map (·.1):=zaD_ hws
 have hnd:(ws.map (·.1)).Nodup:=by
  rw [hwf,List.nodup_iff_pairwise_ne];exact works0_rise.imp fun h e=>by omega
 have hI:=CInv.begin h.I (ws:=ws) (now:=now) hws (by omega) hnow (by omega);rcases a with ⟨hw,rfl,rfl,rfl,rfl⟩ | ⟨hw,rfl,rfl,rfl,rfl⟩<;>rcases b with ⟨hw2,rfl,rfl,rfl,rfl⟩ | ⟨hw2,rfl,rfl,rfl,rfl⟩
 ·exact ⟨rfl,rfl,rfl,h.more (Nat.le_succ _)⟩
 ·exact absurd (by rw [←hws,hw];rfl) hw2
 ·exact absurd (ZdQ_.1 (hws.trans hw2)) hw
 ·have hr:=h.r.begin (now:=now) hnd hw;have ho:=ZcJ_ (now:=now) h.r hnd;rw [show ws.map (fun q=>(q.1,q.2.2))=works0 0 l from hws] at hr ho;refine ⟨?_,?_,rfl,⟨hI,hr,fun key t hg=>?_,?_⟩⟩
  ·unfold newX;rw [h.r.node,h.r.life,h.r.count]
  ·rw [qbQ_ hnd,hws,←ho,←hws,qdR_]
  ·unfold qd_ at hg;rw [if_neg hw] at hg;have hg':mget key (mset (newX s).k (zf_ now ws) s.ts)=some t:=hg;rw [Zf_] at hg';split at hg'
   ·cases hg'
    show (ws.map (·.1)).length≤8;rw [hwf,List.length_map];exact Nat.le_trans zM_ hl
   ·exact h.pl _ _ hg'
  ·have:=h.lf;unfold qd_;rw [if_neg hw];exact ⟨this.1,by have:=this.2;show s.life≤((k+1:Nat):Int)+1;omega⟩
theorem PI.step {k:Nat} {s:CS} {m:Coord} {now:Int} (h:PI k s m):
  m.Txns.flatMap (Qw_ m.Node now)=Qar_ s now∧ocsR now m.Txns=(qcK_ s now).map toOc∧PI (k+1) (zD_ s now) {m with Txns:=zao_ now m.Txns m.Txns}:=by
 obtain ⟨h1,h2,h3⟩:=h.r.step (now:=now) h.I;refine ⟨h1,h2,⟨(h.I.step).more (Nat.le_succ _),?_,fun key t hg=>?_,?_⟩⟩
 ·rw [zcz_ h.r.rise];exact h3
 ·exact h.pl _ _ ((qO_ h.I).1 hg).1
 ·have:=h.lf;exact ⟨this.1,by have:=this.2;show s.life≤((k+1:Nat):Int)+1;omega⟩
theorem qby_ {l:List RTx}:openRL l=(l.filter fun t=>t.Open).map fun t=>recC t.X t.Parts:=rfl
theorem PI.load {k:Nat} {s:CS} {m:Coord} (h:PI k s m) (hk:k≤1000):
  openRL m.Txns=openL s∧(∀q∈openL s,OkR s.node (s.life+1) q)∧((openL s).map (·.Txn.k)).Nodup∧PI (k+1) ⟨s.node,s.life+1,0,zV_ (openL s) []⟩ ⟨s.node,s.life+1,0,zdA_ (openL s)⟩:=by
 have hlf:=h.lf;have hfl:fits (s.life+1):=by unfold fits;omega
 refine ⟨?_,fun q hq=>(qch_ h.I hq).1,zbR_ h.I,⟨(CInv.load (n:=k) h.I.fn hfl (Nat.le_trans QcJ_ h.I.ln) fun r hr=>qch_ h.I hr).more (Nat.le_succ _),zcJ_,?_,?_⟩⟩
 ·rw [qby_,←h.r.open h.I]
 ·refine qaD_ (P:=fun _ t=>t.parts.length≤8) (fun k t h=>by cases h) fun r hr=>?_;obtain ⟨key,t,hg,_,rfl⟩:=Qby_ hr;exact h.pl _ t hg
 ·exact ⟨by show 0≤s.life+1;omega,by show s.life+1≤((k+1:Nat):Int)+1;omega⟩
theorem zby_ {W0:World} {H:Heap} {c:List Value} {m:Coord} {v:Value} {l:List Work} {now:Int} (h0:qu_ H c m) (hw:SlB Qi_ 3 56 H v l) (hl:l.length≤1000) (hnow:fits now) (hct:fits (m.Count+1)) (hn:m.Txns.length≤100000):
  Ct Tryz.prog 50 #[.agg c.toArray,v,I now] W0 H [] (fun r H' B=>∃c' x v1 e out m',r= .tuple #[.agg c'.toArray,.agg (Txn.cv x).toArray,v1,I e]∧QdC_ m now l x out e m'∧qu_ H' c' m'∧B=[ownS Qa_ 19 216 106 H' v1 out]):=by
 refine (zbI_ h0 hw hl hnow hct hn).fold fun r H' B R hle hq=>?_;rcases hq with ⟨h1,rfl,rfl⟩ | ⟨h1,c',v1,rfl,hc',rfl⟩
 ·exact ⟨[ownS Qa_ 19 216 106 H' nilS []],⟨c,⟨0,0,0⟩,nilS,4,[],m,rfl,.inl ⟨h1,rfl,rfl,rfl,rfl⟩,RdOk.mono (R:=qu_) hle h0,rfl⟩,ownS_nil⟩
 ·exact ⟨_,⟨c',⟨m.Node,m.Life,m.Count+1⟩,v1,0,_,_,rfl,.inr ⟨h1,rfl,rfl,rfl,rfl⟩,hc',rfl⟩,Sub.refl _⟩
abbrev RW:=Convoyref17World
def toN (e:PactNote):Convoyref17Note:=⟨e.Node,e.Rec⟩
structure WRel (w:PW) (x:RW):Prop where
  pl:x.Parts.length=w.ns.length
  cl:x.Coords.length=w.ns.length
  p:∀i (h:i<w.ns.length) (h':i<x.Parts.length),PRel w.ns[i].ps x.Parts[i]
  c:∀i (h:i<w.ns.length) (h':i<x.Coords.length),CRel w.ns[i].cs x.Coords[i]
  net:x.Net=w.net
  now:x.Now=w.now
  log:x.Log=w.log.map toN
theorem WRel.setP {w:PW} {x:RW} (R:WRel w x) {i:Nat} (h:i<w.ns.length) {s':PS} {p':Part} (hp:PRel s' p'):WRel (setN w i ⟨s',w.ns[i].cs⟩) {x with Parts:=x.Parts.set i p'}:=by
 refine ⟨by simp [setN,R.pl],by simp [setN,R.cl],fun j hj hj'=>?_,fun j hj hj'=>?_,R.net,R.now,R.log⟩
 ·simp only [setN,List.getElem_set];split
  ·exact hp
  ·exact R.p j (by simpa [setN] using hj) (by simpa using hj')
 ·simp only [setN,List.getElem_set];split
  ·next e=>subst e;exact R.c i h hj'
  ·exact R.c j (by simpa [setN] using hj) hj'
theorem WRel.setC {w:PW} {x:RW} (R:WRel w x) {i:Nat} (h:i<w.ns.length) {s':CS} {c':Coord} (hc:CRel s' c'):WRel (setN w i ⟨w.ns[i].ps,s'⟩) {x with Coords:=x.Coords.set i c'}:=by
 refine ⟨by simp [setN,R.pl],by simp [setN,R.cl],fun j hj hj'=>?_,fun j hj hj'=>?_,R.net,R.now,R.log⟩
 ·simp only [setN,List.getElem_set];split
  ·next e=>subst e;exact R.p i h hj'
  ·exact R.p j (by simpa [setN] using hj) hj'
 ·simp only [setN,List.getElem_set];split
  ·exact hc
  ·exact R.c j (by simpa [setN] using hj) (by simpa using hj')
theorem WRel.withNet {w:PW} {x:RW} (R:WRel w x) (l:List Message):WRel {w with net:=l} {x with Net:=l}:=⟨R.pl,R.cl,R.p,R.c,rfl,R.now,R.log⟩
theorem WRel.withLog {w:PW} {x:RW} (R:WRel w x) (l:List PactNote):WRel {w with log:=w.log++l} {x with Log:=x.Log++l.map toN}:=⟨R.pl,R.cl,R.p,R.c,R.net,R.now,by simp only [List.map_append,R.log]⟩
def Zbw_ (x:RW) (m:Message) (y:RW) (out:List Message):Prop:=
  (ZR_ m∧∃(i:Nat) (h:i<x.Parts.length) (p':Part) (rec:List Rec),m.To=i∧RHear x.Parts[i] m p' out rec∧y={x with Parts:=x.Parts.set i p',Log:=x.Log++rec.map fun r=>⟨m.To,r⟩})∨
  (¬ZR_ m∧∃(i:Nat) (h:i<x.Coords.length) (c':Coord) (rec:List Rec) (oc:List ROc),m.To=i∧RCHear x.Coords[i] m c' out rec oc∧y={x with Coords:=x.Coords.set i c',Log:=x.Log++rec.map fun r=>⟨m.To,r⟩})
theorem Qcr_ {p:Int} {l:List Rec}:(qn_ p l).map toN=l.map fun r=>(⟨p,r⟩:Convoyref17Note):=by unfold qn_;rw [List.map_map];rfl
theorem WRel.hear {n K:Nat} {B:List BT} {w w':PW} {x y:RW} {m:Message} {out out':List Message} (I:WInv n K B w) (R:WRel w x) (h:Zbw_ x m y out') (g:PHear w m w' out):out=out'∧WRel w' y:=by
 cases g with
 | part k i hm hi cs=>
  rcases h with ⟨_,j,hj,p',rec,hm',hr,rfl⟩ | ⟨k',_⟩
  ·obtain rfl:i=j:=by omega
   obtain ⟨e1,e2,e3⟩:=(R.p i hi hj).hear (I.N.P i hi) hr;refine ⟨e1.symm,?_⟩;have:=(R.setP hi (e3 cs)).withLog (qn_ m.To (qh_ w.ns[i].ps m));rw [Qcr_] at this;subst e2;exact this
  ·exact absurd k k'
 | coord k i hm hi=>
  rcases h with ⟨k',_⟩ | ⟨_,j,hj,c',rec,oc,hm',hr,rfl⟩
  ·exact absurd k' k
  ·obtain rfl:i=j:=by omega
   obtain ⟨e1,e2,_,e3⟩:=(R.c i hi hj).hear (I.N.C i hi) hr;refine ⟨e1.symm,?_⟩;have:=(R.setC hi e3).withLog (qn_ m.To (zh_ w.ns[i].cs m).rc);rw [Qcr_] at this;subst e2;exact this
theorem WRel.pi {n K:Nat} {B:List BT} {w:PW} {x:RW} (I:WInv n K B w) (hl:w.log.length≤900000000) (R:WRel w x) {i:Nat} (h:i<w.ns.length) (h':i<x.Coords.length):PI K w.ns[i].cs x.Coords[i]:=by
 refine ⟨I.N.C i h,R.c i h h',fun k t hg=>?_,?_⟩
 ·exact v37_
 ·have:=I.life i h;omega
theorem EL.weaken {κ ν:Type} {ek:κ→Value} {RV RV':Go.Sx.Rd ν} {ag:Bool} {H H':Heap}:∀{es:List MapEntry} {m:List (κ×ν)},(∀q∈m,∀cs,RV H cs q.2→RV' H' cs q.2)→EL ek RV ag H es m→EL ek RV' ag H' es m
 | [],[],_,_=>trivial
 | e::es,(k,v)::m,h,⟨a,⟨cs,b,c⟩,d⟩=>⟨a,⟨cs,b,h (k,v) (by simp) cs c⟩,EL.weaken (fun q hq=>h q (by simp [hq])) d⟩
 | [],_::_,_,h=>h.elim
 | _::_,[],_,h=>h.elim
theorem ZY_ {κ ν:Type} [DecidableEq κ] {ek:κ→Value} {RV RV':Go.Sx.Rd ν} {ag:Bool} {H H':Heap} {b:Nat} {m:List (κ×ν)} (h:∀q∈m,∀cs,RV H cs q.2→RV' H' cs q.2):∀x,mapO ek RV ag H b m x→mapO ek RV' ag H' b m x:=
 fun x ⟨es,c,a,e⟩=>⟨es,c,{el:=EL.weaken h a.el,nodup:=a.nodup,rise:=a.rise,lt:=a.lt},e⟩
def rC:Rd CW:=fun H cs v=>cs=v.1∧cs.length=3∧cs.all (·.oneCell')=true
theorem qS_ {A B:za_} {L:List za_} (f:∀x,A x→B x):Sub (A::L) (B::L):=fun h ⟨h1,h2,a,r⟩=>⟨h1,h2,f _ a,r⟩
theorem RL.weak {α:Type} {R R':Sx.Rd α} {H H':Heap}:∀{xs:List α} {cs:List Value},(∀x∈xs,∀c,R H c x→R' H' c x)→RL R H cs xs→RL R' H' cs xs
 | [],_,_,h=>h
 | x::xs,cs,hw,⟨a,b,e,h1,h2⟩=>⟨a,b,e,hw x (List.mem_cons_self ..) a h1,RL.weak (fun y hy=>hw y (List.mem_cons_of_mem _ hy)) h2⟩
theorem tsA {L L':List za_} (h:Sub L L':=by exact subA):Sub L L':=h
theorem RL.map {α β:Type} {R:Sx.Rd α} {R':Sx.Rd β} {f:α→β} {H H':Heap}:∀{xs:List α} {cs:List Value},(∀x∈xs,∀c,R H c x→R' H' c (f x))→RL R H cs xs→RL R' H' cs (xs.map f)
 | [],_,_,h=>h
 | x::xs,cs,hw,⟨a,b,e,h1,h2⟩=>⟨a,b,e,hw x (List.mem_cons_self ..) a h1,RL.map (fun y hy=>hw y (List.mem_cons_of_mem _ hy)) h2⟩
theorem zcH_ {α β:Type} {R:Sx.Rd α} {R':Sx.Rd β} {f:α→β} {sz:Nat} {H:Heap} {v:Value} {xs:List α} (hw:∀x∈xs,∀c,R H c x→R' H c (f x)) (h:SlR R sz H v xs):SlR R' sz H v (xs.map f):=by
 obtain ⟨cs,a,b⟩:=h;exact ⟨cs,by rw [List.length_map];exact a,RL.map hw b⟩
structure WV where
  w:Work
  a:Option Addr×Nat
  b:Option Addr×Nat
abbrev WV.cv (v:WV):List Value:=v.w.cv (.slice v.a.1 v.w.Take.length v.a.2) (.slice v.b.1 v.w.Drop.length v.b.2)
def rWV:Rd WV:=fun _ cs v=>cs=v.cv
instance :RdOk rWV 3:=⟨fun h=>by subst h;rfl,fun h=>by subst h;rfl,fun hl h=>h⟩
def ownW (v:WV):za_:=big [ownS rStr 1 16 9 Heap.empty (.slice v.a.1 v.w.Take.length v.a.2) v.w.Take,ownS rStr 1 16 9 Heap.empty (.slice v.b.1 v.w.Drop.length v.b.2) v.w.Drop]
theorem QcH_ {v:WV} {L:List za_}:Sub (ownW v::L) (ownS rStr 1 16 9 Heap.empty (.slice v.a.1 v.w.Take.length v.a.2) v.w.Take::ownS rStr 1 16 9 Heap.empty (.slice v.b.1 v.w.Drop.length v.b.2) v.w.Drop::L):=
 Sub.trans (qaz_ (B:=[_,_]) fun _ h=>h) (Sub.refl _)
theorem Zbx_ {H1 H2:Heap} {v:WV} {L:List za_}:Sub (ownS rStr 1 16 9 H1 (.slice v.a.1 v.w.Take.length v.a.2) v.w.Take::ownS rStr 1 16 9 H2 (.slice v.b.1 v.w.Drop.length v.b.2) v.w.Drop::L) (ownW v::L):=
 Sub.trans (qr_ H1 Heap.empty) (Sub.trans (Sub.cons (qr_ H2 Heap.empty)) (qB_ (B:=[ownS rStr 1 16 9 Heap.empty (.slice v.a.1 v.w.Take.length v.a.2) v.w.Take,ownS rStr 1 16 9 Heap.empty (.slice v.b.1 v.w.Drop.length v.b.2) v.w.Drop]) (Sub.refl _) fun h hb=>hb))
theorem Zbf_ {v:WV} {D H:Heap} (h:ownW v D) (hl:D.le H):SlB rStr 1 16 H (.slice v.a.1 v.w.Take.length v.a.2) v.w.Take∧SlB rStr 1 16 H (.slice v.b.1 v.w.Drop.length v.b.2) v.w.Drop:=by
 obtain ⟨c1,c2,o1,⟨d1,d2,o2,_,_,ld1,_⟩,_,lc1,lc2⟩:=h;exact ⟨zG_ o1 (zS_ _) (lc1.trans hl),zG_ o2 (zS_ _) (ld1.trans (lc2.trans hl))⟩
theorem qZ_ {H:Heap}:∀{ys:List WV} {D:Heap},bigL ownW ys D→D.le H→∀y∈ys,SlB rStr 1 16 H (.slice y.a.1 y.w.Take.length y.a.2) y.w.Take∧SlB rStr 1 16 H (.slice y.b.1 y.w.Drop.length y.b.2) y.w.Drop
 | [],_,_,_,y,hy=>by cases hy
 | x::ys,D,⟨a1,a2,x1,y1,_,le1,le2⟩,hl,y,hy=>by
  rcases List.mem_cons.1 hy with rfl | hy
  ·exact Zbf_ x1 (le1.trans hl)
  ·exact qZ_ (ys:=ys) y1 (le2.trans hl) y hy
theorem qV_ {ι:Type} {A:ι→za_} {l:List ι} {x:ι} {L:List za_}:Sub (A x::bigL A l::L) (bigL A (l++[x])::L):=by
 have h:=bigL_in (A:=A) (l1:=l) (x:=x) (l2:=[]) (L:=L);rwa [List.append_nil] at h
theorem QaC_ {W0:World} {H:Heap} {c:List Value} {m:Work} (h0:Qi_ H c m):
  Ct Tryz.prog 65 #[.agg c.toArray] W0 H [] (fun r H' B=>∃v:WV,v.w=m∧r= .agg v.cv.toArray∧B=[ownW v]∧H'=H):=by
 refine Ct.go fun R=>?_;obtain ⟨s1,s2,rfl,f1,h1,h2⟩:=h0;refine walk ?_;refine qc_ rfl rfl fun p1 _=>?_;refine Qb_ rfl fun p2 _=>?_;refine walk ?_;refine zc_ 7 [row p1 50 (m.cv s1 s2)] ?_;refine qa_ 0 ?_;refine qa_ 1 ?_;refine qa_ 3 ?_;refine qa_ 4 ?_;refine zo_ 2 rfl rfl (Zr_ h1) fun r1 H1 B hl1 ⟨eB,eH⟩=>?_;subst eB eH;refine ⟨subA,?_⟩;refine qa_ 6 ?_;refine zo_ 5 rfl rfl (Zr_ h2) fun r2 H2 B hl2 ⟨eB,eH⟩=>?_;subst eB eH;refine ⟨subA,?_⟩;refine qb_ rfl ?_;refine qq_ r1 fun d1 e1 e _ _ _=>?_;subst e;refine qq_ r2 fun d2 e2 e _ _ _=>?_;subst e;refine walk ?_;refine finB [ownW ⟨m,(d1,e1),(d2,e2)⟩] ?_ (hs:=?_)
 ·exact ⟨⟨m,(d1,e1),(d2,e2)⟩,rfl,rfl,rfl,rfl⟩
 ·refine Sub.trans ?_ (Zbx_ (H1:=H2) (H2:=H2) (v:=⟨m,(d1,e1),(d2,e2)⟩));exact subA
end Go.Proofs.YtlflbkpmfhhikaaGreatDoor
set_option maxHeartbeats 16000000
set_option maxRecDepth 100000
namespace Go.Proofs.YtlflbkpmfhhikaaGreatDoor
open Go Go.Sx Go.Proofs
structure MV where
  m:Message
  a:Option Addr×Nat
  b:Option Addr×Nat
abbrev MV.cv (v:MV):List Value:=v.m.cv (.slice v.a.1 v.m.Work.Take.length v.a.2) (.slice v.b.1 v.m.Work.Drop.length v.b.2) nilS nilS
def rMV:Rd MV:=fun _ cs v=>cs=v.cv
instance :RdOk rMV 19:=⟨fun h=>by subst h;rfl,fun h=>by subst h;rfl,fun hl h=>h⟩
instance :RdFlat rMV:=⟨fun h=>h⟩
def MV.wv (v:MV):WV:=⟨v.m.Work,v.a,v.b⟩
abbrev Zau_ (v:MV):za_:=ownW v.wv
def OkMV (v:MV):Prop:=∀H,SlB rStr 1 16 H (.slice v.a.1 v.m.Work.Take.length v.a.2) v.m.Work.Take→SlB rStr 1 16 H (.slice v.b.1 v.m.Work.Drop.length v.b.2) v.m.Work.Drop→Qa_ H v.cv v.m
theorem QdQ_ {n p:Int} {x:Txn} {w:Work} {a b:Option Addr×Nat} (hn:fits n) (hp:fits p) (hx:fits x.Node∧fits x.Life∧fits x.Count) (hr:fits w.Robot):OkMV ⟨zt_ n x p w,a,b⟩:=fun H h1 h2=>
 ⟨_,_,nilS,nilS,rfl,hn,hp,by unfold fits;simp [zt_],hx.1,hx.2.1,hx.2.2,hr,h1,h2,Zg_,Zg_,Zg_,Zg_,SlB.nil,Zg_,Zg_,Zg_,SlB.nil⟩
theorem v23_ {P:Prop} (h:P:=by
 refine qb_ rfl ?_;refine walk ?_;have hsy:=zaP_ (n:=s.node) (x:=⟨x1,x2,x3⟩) (t:=⟨false,began,parts,works,heard⟩) hj1 hh;have hsm:Zbb_ s.node ⟨x1,x2,x3⟩ ⟨false,began,parts,works,heard⟩ parts[j]=zt_ s.node ⟨x1,x2,x3⟩ parts[j] ((mget parts[j] works).getD zCW).2:=rfl;rw [hsm,←hww] at hsy;refine zj_ (y:=(⟨zt_ s.node ⟨x1,x2,x3⟩ parts[j] wv1.w,wv1.a,wv1.b⟩:MV)) rfl rfl rfl rfl hcp fun d3 e3=>?_;rw [show ys.length+1=(ys++[(⟨zt_ s.node ⟨x1,x2,x3⟩ parts[j] wv1.w,wv1.a,wv1.b⟩:MV)]).length by rw [List.length_append];rfl];refine walk ?_;refine Zb_ hL (j+1,ys++[⟨zt_ s.node ⟨x1,x2,x3⟩ parts[j] wv1.w,wv1.a,wv1.b⟩],d3,e3) ⟨by simp only;omega,?_,?_⟩ (hs:=?_)
 ·simp only;rw [List.map_append,hys,hsy];rfl
 ·intro y hy;rcases List.mem_append.1 hy with hy | hy
  ·exact hok y hy
  ·rw [List.mem_singleton.1 hy];exact QdQ_ hn hfp hx (by rw [hww];exact hrob)
 ·dsimp only;refine Sub.trans ?_ (Sub.cons (qV_ (x:=(⟨zt_ s.node ⟨x1,x2,x3⟩ parts[j] wv1.w,wv1.a,wv1.b⟩:MV))));exact subA):P:=h
theorem Qbx_ {W0:World} {H H1:Heap} {p mb:Nat} {s:CS} {x:Txn} {e:CE} (hop:e.x.op=false) (hl1:H1.le H) (hn:fits s.node) (hx:fits x.Node∧fits x.Life∧fits x.Count) (hv:∀q∈e.x.heard,q.2=1) (hp:∀q∈e.x.parts,fits q) (hpl:e.x.parts.length≤1000000):
  Ct Tryz.prog 66 #[.pointer (some ⟨p,0,none⟩),.agg x.cv.toArray,.pointer (some ⟨e.p,0,none⟩)] W0 H [cRow p mb s,xA H1 e] (fun r H' B=>∃ys:List MV,ys.map (·.m)=qi_ s.node x e.x∧(∀y∈ys,OkMV y)∧B=[ownS rMV 19 216 106 H r ys,bigL Zau_ ys,cRow p mb s,xA H1 e]∧H'=H):=by
 refine Ct.go (vs:=[.pointer (some ⟨p,0,none⟩),.agg x.cv.toArray,.pointer (some ⟨e.p,0,none⟩)]) fun R=>?_;obtain ⟨x1,x2,x3⟩:=x;obtain ⟨k,ep,v,⟨op,began,parts,works,heard⟩⟩:=e;dsimp only at hv hp hpl hop;subst hop;have hcap:(1000001:Nat)*216≤zb_:=by decide
 refine walk ?_;refine qc_ rfl rfl fun p4 _=>?_;refine qo_ (A:=xA H1 ⟨k,ep,v,⟨false,began,parts,works,heard⟩⟩) (σ:=Value×Nat) (B:=fun a=>[xRow ⟨k,ep,v,⟨false,began,parts,works,heard⟩⟩ a.1 a.2,zs_ H1 ⟨k,ep,v,⟨false,began,parts,works,heard⟩⟩ a.1,QA_ H1 ⟨k,ep,v,⟨false,began,parts,works,heard⟩⟩ a.2]) (p:=fun a=>SlB rInt 1 8 H1 (CE.v ⟨k,ep,v,⟨false,began,parts,works,heard⟩⟩) (CE.x ⟨k,ep,v,⟨false,began,parts,works,heard⟩⟩).parts) (by repeat (first | exact Has.here | apply Has.there)) (fun h ⟨hs,wv,hb,hbig⟩=>⟨(wv,hb),hs,hbig⟩) fun ⟨wv,hb⟩ hsl2=>?_;dsimp only at hsl2⊢;obtain ⟨b0,c0,rfl,hc0,hd0⟩:=hsl2.1.shape;refine qo_ (A:=zs_ H1 ⟨k,ep,.slice b0 parts.length c0,⟨false,began,parts,works,heard⟩⟩ wv) (σ:=Nat) (B:=fun wb=>[mapO iK rCW true H1 wb works]) (p:=fun wb=>wv= .map (some wb)) (by repeat (first | exact Has.here | apply Has.there)) (fun h hw=>hw.elim (fun h=>by cases h.1) fun ⟨_,wb,e,hm⟩=>⟨wb,e,Qbn_ hm⟩) fun wb hwv=>?_;subst hwv;refine zal_ (A:=mapO iK rCW true H1 wb works) (p:=∀q∈works,∃cs,rCW H1 cs q.2) (by repeat (first | exact Has.here | apply Has.there)) (fun h hm=>(QW_ hm).1) fun hwl=>?_;refine walk ?_;refine ex_L (L':=QC_ ep false began (.slice b0 parts.length c0) (.map (some wb)) hb::mapO iK rCW true H1 wb works::mapO iK rInt false H1 hb heard::row p4 47 [I x1,I x2,I x3]::cRow p mb s::R) subA ?_;have hdd:=TX.hd0 (t:=⟨false,began,parts,works,heard⟩) hv
 refine Qc_ (σ:=Nat×List MV×Option Addr×Nat) (fun u=>u.1≤parts.length∧u.2.1.map (·.m)=zx_ s.node ⟨x1,x2,x3⟩ ⟨false,began,parts,works,heard⟩ u.1∧∀y∈u.2.1,OkMV y) (fun u=>[(0,.pointer (some ⟨p,0,none⟩)),(2,.pointer (some ⟨ep,0,none⟩)),(4,.pointer (some ⟨p4,0,none⟩)),(7,.slice u.2.2.1 u.2.1.length u.2.2.2),(14,.slice b0 parts.length c0),(15,I parts.length),(16,I u.1)]) (fun _=>H)
  (fun u=>ownS rMV 19 216 106 H (.slice u.2.2.1 u.2.1.length u.2.2.2) u.2.1::bigL Zau_ u.2.1::QC_ ep false began (.slice b0 parts.length c0) (.map (some wb)) hb::mapO iK rCW true H1 wb works::mapO iK rInt false H1 hb heard::row p4 47 [I x1,I x2,I x3]::cRow p mb s::R) (fun u=>parts.length - u.1) (0,[],none,0) ⟨Nat.zero_le _,by simp [zx_],fun y h=>(by cases h)⟩ (hs0:=?_) fun ⟨j,ys,d,e⟩ ⟨hj0,hys,hok⟩ K hL=>?_
 rotate_left
 ·show Sub _ (ownS rMV 19 216 106 H (.slice none 0 0) []::_);refine Sub.trans ?_ (ownS_nil.trans (Sub.cons qE_));exact subA
 simp only at hj0 hys hok;dsimp only;refine walk ?_
 have hyl:ys.length≤parts.length:=by
  have h1:=congrArg List.length hys;have h2:=QaP_ (n:=s.node) (x:=⟨x1,x2,x3⟩) (t:=⟨false,began,parts,works,heard⟩) (j:=j);rw [List.length_map] at h1;rw [h1];exact h2
 have hcp:(ys.length+1)*216≤zb_:=Nat.le_trans (Nat.mul_le_mul_right _ (by omega)) hcap;refine Qe_ rfl (fun hj=>?_) (fun hj=>?_)
 ·have hj1:j<parts.length:=by omega
  have hfp:=hp _ (List.getElem_mem hj1);have hslK:SlR rInt 1 H (.slice b0 parts.length c0) parts:=(hsl2.mono hl1).1;refine walk ?_;refine zbo_ (RV:=rInt) (ag:=false) (z:=0) rfl rfl (by repeat (first | exact Has.here | apply Has.there)) ?_;refine walk ?_;refine Qe_ rfl (fun hq=>?_) (fun hq=>?_)
  ·have hh:(⟨false,began,parts,works,heard⟩:TX).hd parts[j]=true:=by
    exact v82_
   refine walk ?_;exact Zb_ hL (j+1,ys,d,e) ⟨by simp only;omega,by simp only;rw [Qbk_ (n:=s.node) (x:=⟨x1,x2,x3⟩) (t:=⟨false,began,parts,works,heard⟩) hj1 hh];exact hys,hok⟩
  have hh:(⟨false,began,parts,works,heard⟩:TX).hd parts[j]=false:=(hdd _).1 (Classical.not_not.1 hq);refine walk ?_;refine zc_ 15 [row p4 47 [I x1,I x2,I x3],QC_ ep false began (.slice b0 parts.length c0) (.map (some wb)) hb,cRow p mb s,mapO iK rCW true H1 wb works] ?_;refine qa_ 0 ?_;refine qa_ 1 ?_;refine qa_ 2 ?_;refine qa_ 3 ?_;refine qa_ 4 ?_;refine qa_ 5 ?_;refine qa_ 6 ?_;refine qa_ 7 ?_;refine qa_ 8 ?_;refine qa_ 9 ?_;refine qa_ 10 ?_;refine Qbo_ (RV:=rCW) (ag:=true) (z:=zCW) 11 rfl rfl rfl (by repeat (first | exact Has.here | apply Has.there)) ?_;have hwr:=qcI_ (H:=H1) (H':=H) hl1 hwl parts[j];have hrob:fits ((mget parts[j] works).getD zCW).2.Robot:=by obtain ⟨_,_,_,h,_⟩:=hwr;exact h
  refine QaJ_ 12 14 rfl rfl rfl (QaC_ (W0:=W0) (H:=H) (m:=((mget parts[j] works).getD zCW).2) (c:=((mget parts[j] works).getD zCW).1) hwr) (fun r5 H5 B hl5 ⟨wv1,hww,er,eB,eH⟩=>?g1) (fun p10 _=>?g2)
  case g1=>
   subst er eB eH;refine ⟨subA,?_⟩;refine qa_ 13 ?_;refine Zn_ 14 rfl rfl fun p10 _=>?_;exact v23_
  case g2=>
   refine zo_ 12 rfl rfl (QaC_ (W0:=W0) (H:=H) (m:=((mget parts[j] works).getD zCW).2) (c:=((mget parts[j] works).getD zCW).1) hwr) fun r5 H5 B hl5 ⟨wv1,hww,er,eB,eH⟩=>?_;subst er eB eH;refine ⟨subA,?_⟩;refine qa_ 13 ?_;exact v23_
 ·clear hL;obtain rfl:j=parts.length:=by omega
  refine walk ?_;have hfin:zx_ s.node ⟨x1,x2,x3⟩ ⟨false,began,parts,works,heard⟩ parts.length=qi_ s.node ⟨x1,x2,x3⟩ ⟨false,began,parts,works,heard⟩:=by simp [zx_,qi_]
  rw [hfin] at hys;refine finB [ownS rMV 19 216 106 H (.slice d ys.length e) ys,bigL Zau_ ys,cRow p mb s,xA H1 ⟨k,ep,.slice b0 parts.length c0,⟨false,began,parts,works,heard⟩⟩] ?_ (hs:=?_)
  ·exact ⟨ys,hys,hok,rfl,rfl⟩
  ·refine Sub.trans (B:=xRow ⟨k,ep,.slice b0 parts.length c0,⟨false,began,parts,works,heard⟩⟩ (.map (some wb)) hb::zs_ H1 ⟨k,ep,.slice b0 parts.length c0,⟨false,began,parts,works,heard⟩⟩ (.map (some wb))::QA_ H1 ⟨k,ep,.slice b0 parts.length c0,⟨false,began,parts,works,heard⟩⟩ hb::ownS rMV 19 216 106 H (.slice d ys.length e) ys::bigL Zau_ ys::cRow p mb s::R) ?_ ?_
   ·refine Sub.trans (B:=mapO iK rCW true H1 wb works::xRow ⟨k,ep,.slice b0 parts.length c0,⟨false,began,parts,works,heard⟩⟩ (.map (some wb)) hb::QA_ H1 ⟨k,ep,.slice b0 parts.length c0,⟨false,began,parts,works,heard⟩⟩ hb::ownS rMV 19 216 106 H (.slice d ys.length e) ys::bigL Zau_ ys::cRow p mb s::R) subA ?_;exact v53_
   refine (ZN_ (H:=H1) hsl2 (.refl _)).trans ?_;exact subA
def rawX (e:CE):za_:=fun h=>∃wb hb,big [xRow e (.map (some wb)) hb,mapO iK rC true Heap.empty wb e.x.works,mapO iK rInt false Heap.empty hb e.x.heard] h
theorem zdC_ {H H':Heap} {wb:Nat} {l:List (Int×CW)}:∀x,mapO iK rC true H wb l x→mapO iK rC true H' wb l x:=ZY_ (RV:=rC) (RV':=rC) fun q _ cs h=>h
theorem zbP_ {H H':Heap} {wb:Nat} {l:List (Int×Int)}:∀x,mapO iK rInt false H wb l x→mapO iK rInt false H' wb l x:=ZY_ (RV:=rInt) (RV':=rInt) fun q _ cs h=>h
theorem qeg_ {H H':Heap} {wb:Nat} {l:List (Int×CW)}:∀x,mapO iK rCW true H wb l x→mapO iK rC true H' wb l x:=ZY_ (RV:=rCW) (RV':=rC) fun q _ cs h=>by
 obtain ⟨e,h⟩:=(h:cs=q.2.1∧Qi_ H cs q.2.2);exact ⟨e,RdOk.len (R:=Qi_) h,RdOk.one (R:=Qi_) h⟩
theorem zeg_ {H H':Heap} {wb:Nat} {l:List (Int×CW)} (hw:∀q∈l,Qi_ H' q.2.1 q.2.2):∀x,mapO iK rC true H wb l x→mapO iK rCW true H' wb l x:=ZY_ (RV:=rC) (RV':=rCW) fun q hq cs h=>by
 obtain ⟨e,_⟩:=(h:cs=q.2.1∧_);subst e;exact ⟨rfl,hw q hq⟩
theorem zdQ_ {H:Heap} {e:CE} (hop:e.x.op=false):∀h,xA H e h→rawX e h:=fun h ⟨hs,wv,hb,a1,a2,x1,⟨b1,b2,x2,⟨c1,c2,x3,y3⟩,y2⟩,y1⟩=>by
 rcases x2 with ⟨ho,_⟩ | ⟨_,wb,rfl,hm⟩
 ·rw [hop] at ho;cases ho
 ·exact ⟨wb,hb,a1,a2,x1,⟨b1,b2,qeg_ _ hm,⟨c1,c2,zbP_ _ x3,y3⟩,y2⟩,y1⟩
theorem Qdz_ {H:Heap} {e:CE} (hop:e.x.op=false) (hs:SlB rInt 1 8 H e.v e.x.parts) (hw:∀q∈e.x.works,Qi_ H q.2.1 q.2.2):∀h,rawX e h→xA H e h:=fun h ⟨wb,hb,a1,a2,x1,⟨b1,b2,x2,⟨c1,c2,x3,y3⟩,y2⟩,y1⟩=>
 ⟨hs,.map (some wb),hb,a1,a2,x1,⟨b1,b2,.inr ⟨hop,wb,rfl,zeg_ hw _ x2⟩,⟨c1,c2,zbP_ _ x3,y3⟩,y2⟩,y1⟩
def wsV (vs:List (Int×WV)):List (Int×CW):=vs.map fun q=>(q.1,(q.2.cv,q.2.w))
def pqV (vs:List (Int×WV)):List (Int×Work):=vs.map fun q=>(q.1,q.2.w)
theorem pq_wsV {vs:List (Int×WV)}:pq (wsV vs)=pqV vs:=by unfold pq wsV pqV;rw [List.map_map];rfl
theorem QbP_ {vs:List (Int×WV)}:(wsV vs).map (·.1)=vs.map (·.1):=by unfold wsV;rw [List.map_map];rfl
abbrev s0C (node:Int):CS:=⟨node,1,0,[]⟩
theorem qcH_ {v:WV} {H:Heap} (hr:fits v.w.Robot) (h:SlB rStr 1 16 H (.slice v.a.1 v.w.Take.length v.a.2) v.w.Take∧SlB rStr 1 16 H (.slice v.b.1 v.w.Drop.length v.b.2) v.w.Drop):Qi_ H v.cv v.w:=⟨_,_,rfl,hr,h.1,h.2⟩
theorem ZbP_ {W0:World} {H:Heap} {p mb:Nat} {node now:Int} {v:Value} {l:List Work} (hfn:fits node) (hnow:fits now) (hw:SlB Qi_ 3 56 H v l) (hl:l.length≤1000):
  Ct Tryz.prog 36 #[.pointer (some ⟨p,0,none⟩),v,I now] W0 H [row p 160 [I node,I 1,I 0,.map (some mb)],cMap mb []]
   (fun r H' B=>H'=H∧∃vs:List (Int×WV),pqV vs=works0 0 l∧(∀q∈vs,fits q.2.w.Robot)∧((vs=[]∧r= .tuple #[.agg #[I 0,I 0,I 0],nilS,I 4]∧B=[row p 160 [I node,I 1,I 0,.map (some mb)],cMap mb []])∨
    (vs≠[]∧∃(v1:Value) (ys:List MV) (ep:Nat) (pv:Value),r= .tuple #[.agg (newX (s0C node)).cv.toArray,v1,I 0]∧ys.map (·.m)=qi_ node (newX (s0C node)) (zf_ now (wsV vs))∧(∀y∈ys,OkMV y)∧
     B=[ownS rMV 19 216 106 H v1 ys,bigL Zau_ ys,cRow p mb (qd_ (s0C node) now (wsV vs)),cMap mb [⟨(newX (s0C node)).k,ep,pv,zf_ now (wsV vs)⟩],rawX ⟨(newX (s0C node)).k,ep,pv,zf_ now (wsV vs)⟩,bigL ownW (vs.map (·.2)),ownS rInt 1 8 3 H pv (vs.map (·.1))]))):=by
 refine Ct.go (vs:=[.pointer (some ⟨p,0,none⟩),v,I now]) fun R=>?_;obtain ⟨b0,c0,rfl,hc0,hd0⟩:=hw.1.shape;have hcap:(1001:Nat)*8≤zb_:=by decide
 refine walk ?_;refine Qb_ rfl fun p6 _=>?_;refine walk ?_;refine qs_ iK rC true rfl fun wb _=>?_;refine walk ?_;refine qs_ iK rInt false rfl fun hb _=>?_;refine walk ?_;refine qc_ rfl rfl fun ep _=>?_;refine walk ?_
 refine Qc_ (σ:=Nat×(Option Addr×Nat)×List (Int×WV)) (fun u=>u.1≤l.length∧pqV u.2.2=works0 0 (l.take u.1)∧∀q∈u.2.2,fits q.2.w.Robot) (fun u=>[(0,.pointer (some ⟨p,0,none⟩)),(6,.pointer (some ⟨p6,0,none⟩)),(7,nilS),(8,I 0),(9,.pointer (some ⟨ep,0,none⟩)),(18,.slice b0 l.length c0),(19,I l.length),(20,I u.1)]) (fun _=>H)
  (fun u=>ownS rInt 1 8 3 H (.slice u.2.1.1 (u.2.2.map (·.1)).length u.2.1.2) (u.2.2.map (·.1))::bigL ownW (u.2.2.map (·.2))::QC_ ep false now (.slice u.2.1.1 (u.2.2.map (·.1)).length u.2.1.2) (.map (some wb)) hb::mapO iK rC true H wb (wsV u.2.2)::mapO iK rInt false H hb []::row p6 47 [I 0,I 0,I 0]::row p 160 [I node,I 1,I 0,.map (some mb)]::cMap mb []::R) (fun u=>l.length - u.1) (0,(none,0),[]) ⟨Nat.zero_le _,rfl,fun q h=>(by cases h)⟩ (hs0:=?_) fun ⟨j,⟨d,e⟩,vs⟩ ⟨hj0,hws,hrb⟩ K hL=>?_
 rotate_left
 ·show Sub _ (ownS rInt 1 8 3 H (.slice none 0 0) []::_);refine Sub.trans ?_ (ownS_nil.trans (Sub.cons qE_));show Sub _ (QC_ ep false now (.slice none 0 0) (.map (some wb)) hb::mapO iK rC true H wb []::_);exact subA
 simp only at hj0 hws hrb;dsimp only
 have hwl:(vs.map (·.1)).length≤j:=by
  have h1:=zM_ (i:=0) (l:=l.take j);rw [←hws,List.length_take] at h1;unfold pqV at h1;simp only [List.length_map] at h1⊢;omega
 refine walk ?_;refine Qe_ rfl (fun hk=>?_) (fun hk=>?_)
 ·have hk1:j<l.length:=by omega
  have ht:=List.take_succ_eq_append_getElem hk1;have hsn:=Zab_ (w:=l[j]) (l:=l.take j) (i:=0);rw [←ht,←hws,List.length_take,Nat.min_eq_left hj0,Int.zero_add] at hsn;refine walk ?_;refine qe_ rfl rfl hw.1 hk1 fun b o cc hr hc=>?_;generalize l[j]=w at hr hc hsn;have hcc:=hc;obtain ⟨wr,wt,wd⟩:=w;obtain ⟨u1,u2,rfl,g1,g2,g3⟩:=hc;obtain ⟨b1,c1,rfl,hc1,hd1⟩:=g2.1.shape;obtain ⟨b2,c2,rfl,hc2,hd2⟩:=g3.1.shape;dsimp only at g1 g2 g3 hsn hc1 hc2;change HRow H b o [I wr,.slice b1 wt.length c1,.slice b2 wd.length c2] at hr;refine walk ?_;refine zg_ rfl rfl hr rfl ?_;refine Qb_ rfl fun p11 _=>?_;have hgs1:=g2.2;have hgs2:=g3.2;simp only [zb_] at hgs1 hgs2;refine walk ?_;refine Qe_ rfl (fun hq=>?_) (fun hq=>?_)
  ·have hq1:0<wt.length+wd.length:=by omega
   rw [if_pos hq1] at hsn;have hfj:fits (j:Int):=by unfold fits;omega
   refine walk ?_;refine zj_ (y:=(j:Int)) rfl rfl rfl ⟨rfl,hfj⟩ (by simp only [zb_] at hcap⊢;omega) fun d3 e3=>?_;refine walk ?_;refine zc_ 7 [row p11 50 [I wr,.slice b1 wt.length c1,.slice b2 wd.length c2],QC_ ep false now (.slice d3 ((vs.map (·.1)).length+1) e3) (.map (some wb)) hb] ?_;refine qa_ 0 ?_;refine qa_ 1 ?_;refine qa_ 2 ?_;refine qa_ 3 ?_;refine qa_ 4 ?_;refine qa_ 5 ?_;refine ze_ 6 rfl rfl rfl (QaC_ (W0:=W0) (H:=H) (m:=⟨wr,wt,wd⟩) (c:=[I wr,.slice b1 wt.length c1,.slice b2 wd.length c2]) hcc) fun r5 H5 B hl5 ⟨w5,hw5,er,eB,eH⟩=>?_;subst er eB eH;refine ⟨subA,?_⟩;refine qb_ rfl ?_;refine zw_ (RV:=rC) (ag:=true) (cs:=w5.cv) (u:=((w5.cv,w5.w):CW)) rfl rfl ⟨rfl,rfl,rfl⟩ (by repeat (first | exact Has.here | apply Has.there)) ?_
   have hfr:mget (j:Int) (wsV vs)=none:=by
    rw [zE_];intro hm;rw [←QbI_,pq_wsV,hws] at hm;obtain ⟨q,hq3,hq4⟩:=List.mem_map.1 hm;have:=zO_ (i:=0) (Int.le_refl _) q hq3;rw [List.length_take] at this;omega
   rw [ZaG_ hfr];have e1:vs.map (·.1)++[(j:Int)]=(vs++[((j:Int),w5)]).map (·.1):=by rw [List.map_append];rfl
   rw [show (vs.map (·.1)).length+1=((vs++[((j:Int),w5)]).map (·.1)).length by simp,e1];rw [show wsV vs++[((j:Int),((w5.cv,w5.w):CW))]=wsV (vs++[((j:Int),w5)]) by unfold wsV;rw [List.map_append];rfl];refine walk ?_;refine Zb_ hL (j+1,(d3,e3),vs++[((j:Int),w5)]) ⟨by simp only;omega,?_,?_⟩ (hs:=?_)
   ·simp only;rw [hsn];unfold pqV;rw [List.map_append];simp only [List.map_cons,List.map_nil];rw [hw5]
   ·intro q hq;rcases List.mem_append.1 hq with hq | hq
    ·exact hrb q hq
    ·rw [List.mem_singleton.1 hq];show fits w5.w.Robot;rw [hw5];exact g1
   ·dsimp only;rw [show (vs++[((j:Int),w5)]).map (·.2)=vs.map (·.2)++[w5] by rw [List.map_append];rfl];refine Sub.trans ?_ (Sub.cons qV_);exact subA
  ·have hq1:¬0<wt.length+wd.length:=by omega
   rw [if_neg hq1,List.append_nil] at hsn;refine walk ?_;exact Zb_ hL (j+1,(d,e),vs) ⟨by simp only;omega,hsn.symm,hrb⟩
 ·clear hL;obtain rfl:j=l.length:=by omega
  rw [List.take_length] at hws;refine walk ?_;refine Qe_ rfl (fun hq=>?_) (fun hq=>?_)
  ·have hws0:vs=[]:=by
    cases vs with
    | nil=>rfl
    | cons a r=>simp at hq;omega
   refine walk ?_;refine finB [row p 160 [I node,I 1,I 0,.map (some mb)],cMap mb []] ?_;exact ⟨rfl,vs,hws,hrb,.inl ⟨hws0,rfl,rfl⟩⟩
  have hne:vs≠[]:=fun h=>hq (by rw [h];rfl);have hnw:wsV vs≠[]:=fun h=>hne (by unfold wsV at h;exact List.map_eq_nil_iff.1 h);refine walk ?_;refine zc_ 14 [row p 160 [I node,I 1,I 1,.map (some mb)]] ?_;refine qa_ 0 ?_;refine qa_ 1 ?_;refine qa_ 2 ?_;refine qa_ 3 ?_;refine qa_ 4 ?_;refine qa_ 5 ?_;refine qa_ 6 ?_;refine qa_ 7 ?_;refine qa_ 8 ?_;refine qa_ 9 ?_;refine qa_ 10 ?_;refine qa_ 11 ?_;refine qa_ 12 ?_;refine Zn_ 13 rfl rfl fun p12 _=>?_;refine qb_ rfl ?_;refine walk ?_;refine zc_ 6 [row p 160 [I node,I 1,I 1,.map (some mb)],row p12 47 [I node,I 1,I 1]] ?_;refine qa_ 0 ?_;refine qa_ 1 ?_;refine qa_ 2 ?_;refine qa_ 3 ?_;refine qa_ 4 ?_;refine qa_ 5 ?_;refine qb_ rfl ?_;refine zw_ (RV:=rVal) (ag:=false) (cs:=[ptrC ep]) (u:=ptrC ep) rfl rfl (show rVal Heap.empty [ptrC ep] (ptrC ep) from ⟨rfl,rfl⟩) (by repeat (first | exact Has.here | apply Has.there)) ?_;obtain ⟨ee,hee⟩:∃ee:CE,ee=⟨(newX (s0C node)).k,ep,.slice d (vs.map (·.1)).length e,zf_ now (wsV vs)⟩:=⟨_,rfl⟩;have hmp:mset (node,1,1) (ptrC ep) (msC [])=msC [ee]:=by subst hee;rfl
  rw [hmp];refine walk ?_;have hbn:(qd_ (s0C node) now (wsV vs)).node=node∧(qd_ (s0C node) now (wsV vs)).life=1∧(qd_ (s0C node) now (wsV vs)).count=1:=by unfold qd_;rw [if_neg hnw];exact ⟨rfl,rfl,rfl⟩
  have hTI:=TInv.began (now:=now) (l:=l) (ws:=wsV vs) (pq_wsV.trans hws) (by omega) hnw hnow;refine Zbn_ (.slice d (vs.map (·.1)).length e) fun D1 hD1 hdj1 hle1 hsp=>?_;refine QbT_ (A:=bigL ownW (vs.map (·.2))) (by repeat (first | exact Has.here | apply Has.there)) fun D2 hD2 hdj2 hle2 hD2l=>?_
  have hrd:∀q∈wsV vs,Qi_ (qk_ (qk_ H D1) D2) q.2.1 q.2.2:=fun q hq=>by
   obtain ⟨q0,hq0,rfl⟩:=List.mem_map.1 hq;exact qcH_ (hrb q0 hq0) (qZ_ hD2 hD2l q0.2 (List.mem_map.2 ⟨q0,hq0,rfl⟩))
  have hspX:=hsp.mono hle2;have hop:ee.x.op=false:=by subst hee;rfl
  refine ex_L (L':=xA (qk_ (qk_ H D1) D2) ee::cRow p mb (qd_ (s0C node) now (wsV vs))::cMap mb [ee]::row p12 47 [I node,I 1,I 1]::row p6 47 [I 0,I 0,I 0]::R) ?_ ?_
  ·refine Sub.trans ?_ (qS_ (A:=rawX ee) (Qdz_ hop (by subst hee;rw [show (zf_ now (wsV vs)).parts=vs.map (·.1) from QbP_];exact hspX) (by subst hee;exact hrd)));refine Sub.trans ?_ (qB_ (B:=[xRow ee (.map (some wb)) hb,mapO iK rC true Heap.empty wb ee.x.works,mapO iK rInt false Heap.empty hb ee.x.heard]) (Sub.refl _) fun h hb'=>⟨wb,hb,hb'⟩);subst hee;unfold cRow;rw [hbn.1,hbn.2.1,hbn.2.2];refine Sub.trans (B:=mapO iK rC true H wb (wsV vs)::mapO iK rInt false H hb []::QC_ ep false now (.slice d (vs.map (·.1)).length e) (.map (some wb)) hb::row p 160 [I node,I 1,I 1,.map (some mb)]::cMap mb [⟨(newX (s0C node)).k,ep,.slice d (vs.map (·.1)).length e,zf_ now (wsV vs)⟩]::row p12 47 [I node,I 1,I 1]::row p6 47 [I 0,I 0,I 0]::R) subA ?_;refine Sub.trans (qS_ (B:=mapO iK rC true Heap.empty wb (wsV vs)) zdC_) ?_;refine Sub.trans (Sub.cons (qS_ (B:=mapO iK rInt false Heap.empty hb []) zbP_)) ?_;exact subA
  refine zc_ 5 [row p12 47 [I node,I 1,I 1]] ?_;refine qa_ 0 ?_;refine qa_ 1 ?_;refine qa_ 2 ?_;refine qa_ 3 ?_;have hnk:fits (newX (s0C node)).Node∧fits (newX (s0C node)).Life∧fits (newX (s0C node)).Count:=⟨hfn,by show fits (1:Int);exact zdx_,by show fits ((0:Int)+1);exact zdx_⟩;have hag:=Qbx_ (W0:=W0) (H:=qk_ (qk_ H D1) D2) (H1:=qk_ (qk_ H D1) D2) (p:=p) (mb:=mb) (s:=qd_ (s0C node) now (wsV vs)) (x:=newX (s0C node)) (e:=ee) hop (.refl _) (by rw [hbn.1];exact hfn) hnk (by subst hee;exact fun q hq=>(hTI.hp q hq).2) (by subst hee;exact fun q hq=>(hTI.nn q hq).2) (by subst hee;show ((wsV vs).map (·.1)).length≤1000000;rw [QbP_];omega);rw [hbn.1] at hag;have hep:ee.p=ep:=by subst hee;rfl
  have hex:ee.x=zf_ now (wsV vs):=by subst hee;rfl
  rw [hep,hex] at hag;refine ze_ 4 rfl rfl rfl hag fun r5 H5 B hl5 ⟨ys,hys,hok,eB,eH⟩=>?_;subst eB eH;refine ⟨subA,?_⟩;refine qb_ rfl ?_;refine qak_ hD2 hdj2 (.refl _) ?_;refine qak_ hD1 hdj1 (.refl _) ?_;refine walk ?_;refine finB [ownS rMV 19 216 106 H r5 ys,bigL Zau_ ys,cRow p mb (qd_ (s0C node) now (wsV vs)),cMap mb [ee],rawX ee,bigL ownW (vs.map (·.2)),ownS rInt 1 8 3 H (.slice d (vs.map (·.1)).length e) (vs.map (·.1))] ?_ (hs:=?_)
  ·subst hee;exact ⟨rfl,vs,hws,hrb,.inr ⟨hne,r5,ys,ep,_,rfl,hys,hok,rfl⟩⟩
  ·refine Sub.trans (B:=ownS rMV 19 216 106 (qk_ (qk_ H D1) D2) r5 ys::xA (qk_ (qk_ H D1) D2) ee::bigL Zau_ ys::cRow p mb (qd_ (s0C node) now (wsV vs))::cMap mb [ee]::bigL ownW (vs.map (·.2))::ownS rInt 1 8 3 H (.slice d (vs.map (·.1)).length e) (vs.map (·.1))::R) subA ?_;refine Sub.trans (qr_ (qk_ (qk_ H D1) D2) H) ?_;refine Sub.trans (Sub.cons (qS_ (zdQ_ hop))) ?_;exact subA
end Go.Proofs.YtlflbkpmfhhikaaGreatDoor
