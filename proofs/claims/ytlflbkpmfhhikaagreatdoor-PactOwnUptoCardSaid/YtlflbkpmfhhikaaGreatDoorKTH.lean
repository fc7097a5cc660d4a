/- A coordinator's small functions. -/
import Derived.Test.YtlflbkpmfhhikaaGreatDoorKLZ
import Derived.Test.YtlflbkpmfhhikaaGreatDoorKTS
set_option linter.unusedVariables false
set_option linter.unusedSimpArgs false
namespace Go.Proofs.YtlflbkpmfhhikaaGreatDoor
open Go Go.Sx Go.Proofs
theorem CS.get_tx {s:CS} {x:Txn} (h:s.isT x):mget x.k s.ts=some (s.tx x):=by
 unfold CS.isT at h;unfold CS.tx
 cases hg:mget x.k s.ts with
 | none=>rw [hg] at h;cases h
 | some t=>rfl
theorem CInv.tinv {n:Nat} {s:CS} (I:CInv n s) {x:Txn} (h:s.isT x):TInv (s.tx x):=I.ti _ _ (CS.get_tx h)
theorem QbR_ {κ ν:Type} [DecidableEq κ] {k:κ} {v:ν} {m:List (κ×ν)} (h:(mget k m).isSome=true):(mset k v m).length=m.length:=by
 rw [QS_,if_pos];refine Classical.byContradiction fun hc=>?_;rw [zE_.2 hc] at h;cases h
theorem CInv.put {n:Nat} {s:CS} (I:CInv n s) {x:Txn} {t:TX} (h:s.isT x) (ht:TInv t):CInv n (s.put x.k t):=by
 have hl:(mset x.k t s.ts).length=s.ts.length:=QbR_ h;refine ⟨Zk_ I.nd,?_,fun k t' hk=>?_,fun k t' hk=>?_,I.c0,I.fn,I.fl⟩
 ·show (mset x.k t s.ts).length≤n;rw [hl];exact I.ln
 ·have hk':mget k (mset x.k t s.ts)=some t':=hk;rw [Zf_] at hk';split at hk'
  ·cases hk';exact ht
  ·exact I.ti k t' hk'
 ·have hk':mget k (mset x.k t s.ts)=some t':=hk;rw [Zf_] at hk';split at hk'
  ·next e=>subst e;exact I.kn _ _ (CS.get_tx h)
  ·exact I.kn k t' hk'
theorem qH_ {κ ν:Type} [DecidableEq κ] {m:List (κ×ν)} (hn:(m.map (·.1)).Nodup) {k k':κ} {v:ν} (h:mget k' (mdel k m)=some v):mget k' m=some v:=by
 have h1:=(zaM_ (QM_ hn)).1 h;exact (zaM_ hn).2 ((zay_ k m).subset h1)
theorem CInv.cut {n:Nat} {s:CS} (I:CInv n s) {k:K3}:CInv n (s.cut k):=
 ⟨QM_ I.nd,Nat.le_trans Qbl_ I.ln,fun k' t h=>I.ti k' t (qH_ I.nd h),fun k' t h=>I.kn k' t (qH_ I.nd h),I.c0,I.fn,I.fl⟩
theorem TInv.hear {t:TX} (h:TInv t) {p:Int} (hp:p∈t.parts) (hall:¬Qp_ (qx_ t p)):TInv (qx_ t p):=by
 refine ⟨h.ne,h.rise,h.nn,Zk_ h.hn,fun q hq=>?_,by unfold Qp_ at hall;omega,h.wk,h.bg⟩;have h1:=Zj_ (Zk_ h.hn) (show q∈mset p 1 t.heard from hq);rw [Zf_] at h1;split at h1
 ·next e=>rw [e];exact ⟨hp,by simpa using h1.symm⟩
 ·exact h.hp q (Zu_ h1)
theorem TInv.open {t:TX} (h:TInv t):TInv (Zav_ t):=
 ⟨h.ne,h.rise,h.nn,by simp [Zav_],fun q hq=>(by cases hq),by have:=List.length_pos_iff.2 h.ne;simpa [Zav_] using this,fun e=>(by cases e),h.bg⟩
theorem CInv.hear {n:Nat} {s:CS} (I:CInv n s) {m:Message}:CInv n (zh_ s m).s:=by
 unfold zh_;split
 ·exact I
 split
 ·exact I
 split
 ·exact I.cut
 split
 ·next h=>
  split
  ·next h2=>exact I.put h.2.1.1 ((I.tinv h.2.1.1).hear h.2.1.2 h2)
  ·exact I.put h.2.1.1 (I.tinv h.2.1.1).open
 split
 ·next h=>
  split
  ·next h2=>exact I.put h.2.1.1 ((I.tinv h.2.1.1).hear h.2.1.2 h2)
  ·exact I.cut
 ·exact I
theorem qad_ {s:CS} {p:K3×TX→Bool} (hn:(s.ts.map (·.1)).Nodup) {k:K3} {t:TX}:mget k (s.ts.filter p)=some t↔mget k s.ts=some t∧p (k,t)=true:=by
 have h2:((s.ts.filter p).map (·.1)).Nodup:=hn.sublist ((List.filter_sublist).map _);rw [zaM_ h2,zaM_ hn,List.mem_filter]
theorem CInv.step {n:Nat} {s:CS} (I:CInv n s) {now:Int}:CInv n (zD_ s now):=by
 have h2:((s.ts.filter fun q=> !decide (ZK_ q.2 now)).map (·.1)).Nodup:=I.nd.sublist ((List.filter_sublist).map _);exact ⟨h2,Nat.le_trans (List.length_filter_le _ _) I.ln,fun k t h=>I.ti k t ((qad_ I.nd).1 h).1,fun k t h=>I.kn k t ((qad_ I.nd).1 h).1,I.c0,I.fn,I.fl⟩
theorem zaD_ {l:List Work} {ws:List (Int×CW)} (hw:ws.map (fun q=>(q.1,q.2.2))=works0 0 l):ws.map (·.1)=(works0 0 l).map (·.1):=by rw [←hw,List.map_map];rfl
theorem TInv.began {l:List Work} {ws:List (Int×CW)} {now:Int} (hw:ws.map (fun q=>(q.1,q.2.2))=works0 0 l) (hl:l.length≤100000) (hne:ws≠[]) (hb:fits now):TInv (zf_ now ws):=by
 refine ⟨fun h=>hne (List.map_eq_nil_iff.1 h),?_,fun p hp=>?_,by simp [zf_],fun q hq=>(by cases hq),?_,fun _=>rfl,hb⟩
 ·show (ws.map (·.1)).Pairwise (· < ·);rw [zaD_ hw];exact works0_rise
 ·have hp':p∈ws.map (·.1):=hp;rw [zaD_ hw] at hp';obtain ⟨q,hq,rfl⟩:=List.mem_map.1 hp';have:=zO_ (i:=0) (Int.le_refl _) q hq;unfold fits;omega
 ·show 0<(ws.map (·.1)).length;rw [List.length_map];exact List.length_pos_iff.2 hne
theorem CInv.fresh {n:Nat} {s:CS} (I:CInv n s):mget (newX s).k s.ts=none:=by
 cases hg:mget (newX s).k s.ts with
 | none=>rfl
 | some t=>
  have:=(I.kn _ _ hg).2.2.2.2 rfl;have h2:(newX s).k.2.2=s.count+1:=rfl;omega
theorem CInv.begin {n:Nat} {s:CS} (I:CInv n s) {l:List Work} {ws:List (Int×CW)} {now:Int} (hw:ws.map (fun q=>(q.1,q.2.2))=works0 0 l) (hl:l.length≤100000) (hb:fits now) (hn:n≤100000):CInv (n+1) (qd_ s now ws):=by
 unfold qd_;split
 ·exact I.more (Nat.le_succ _)
 next hne=>
 have hc:=I.c0;refine ⟨Zk_ I.nd,?_,fun k t hk=>?_,fun k t hk=>?_,?_,I.fn,I.fl⟩
 ·show (mset _ _ s.ts).length≤n+1;rw [QS_];have:=I.ln;split<;>omega
 ·have hk':mget k (mset (newX s).k (zf_ now ws) s.ts)=some t:=hk;rw [Zf_] at hk';split at hk'
  ·cases hk';exact TInv.began hw hl hne hb
  ·exact I.ti k t hk'
 ·have hk':mget k (mset (newX s).k (zf_ now ws) s.ts)=some t:=hk;rw [Zf_] at hk';show k.1=s.node∧fits k.2.1∧fits k.2.2∧k.2.1≤s.life∧(k.2.1=s.life→1≤k.2.2∧k.2.2≤s.count+1);split at hk'
  ·next e=>
   subst e;refine ⟨rfl,I.fl,?_,Int.le_refl _,fun _=>?_⟩
   ·show fits (s.count+1);unfold fits;omega
   ·show 1≤s.count+1∧s.count+1≤s.count+1;omega
  ·obtain ⟨a,b,c,d,e⟩:=I.kn k t hk';exact ⟨a,b,c,d,fun h=>by have:=e h;omega⟩
 ·show 0≤s.count+1∧s.count+1≤((n+1:Nat):Int);omega
theorem zM_:∀{l:List Work} {i:Int},(works0 i l).length≤l.length
 | [],i=>Nat.le_refl _
 | w::l,i=>by
  unfold works0;have:=zM_ (l:=l) (i:=i+1);split<;>simp only [List.length_cons]<;>omega
theorem qO_ {n:Nat} {s:CS} (I:CInv n s) {now:Int} {k:K3} {t:TX}:mget k (zD_ s now).ts=some t↔mget k s.ts=some t∧¬ZK_ t now:=by
 unfold zD_;rw [show (⟨s.node,s.life,s.count,s.ts.filter fun q=> !decide (ZK_ q.2 now)⟩:CS).ts=s.ts.filter fun q=> !decide (ZK_ q.2 now) from rfl,qad_ I.nd];simp
theorem Qav_ {s:CS} {k:K3}:k∈allC s↔(mget k s.ts).isSome=true:=by
 unfold allC;rw [qP_,QD_];constructor
 ·rintro ⟨v,hv⟩;rw [hv];rfl
 ·intro h
  cases hg:mget k s.ts with
  | none=>rw [hg] at h;cases h
  | some v=>exact ⟨v,rfl⟩
abbrev RTx:=Convoyref16Txn
abbrev ROc:=Convoyref16Outcome
structure TRel (t:RTx) (x:TX):Prop where
  op:t.Open=x.op
  bg:t.Began=x.began
  ps:t.Parts=x.parts
  hd:t.Heard=x.parts.map x.hd
  wk:x.op=false→t.Works=x.parts.map x.wk
structure CRel (s:CS) (m:Coord):Prop where
  node:m.Node=s.node
  life:m.Life=s.life
  count:m.Count=s.count
  rise:m.Txns.Pairwise fun a b=>ltK a.X.k b.X.k
  mem:∀t∈m.Txns,∃x,mget t.X.k s.ts=some x∧TRel t x
  cov:∀k,(mget k s.ts).isSome=true→∃t∈m.Txns,t.X.k=k
theorem crel0 {node life:Int}:CRel ⟨node,life,0,[]⟩ ⟨node,life,0,[]⟩:=⟨rfl,rfl,rfl,by simp,fun t h=>(by cases h),fun k h=>(by cases h)⟩
theorem CRel.all {n:Nat} {s:CS} {m:Coord} (I:CInv n s) (r:CRel s m):allC s=m.Txns.map fun t=>t.X.k:=by
 refine QaR_ (lt:=ltK) (fun _=>ZO_) (fun _ _=>qbS_) (zaj_ I.nd) ?_ fun k=>?_
 ·rw [List.pairwise_map];exact r.rise
 ·rw [Qav_,List.mem_map];constructor
  ·exact fun h=>r.cov k h
  ·rintro ⟨t,ht,rfl⟩;obtain ⟨x,hx,_⟩:=r.mem t ht;rw [hx];rfl
theorem CRel.get {s:CS} {m:Coord} (r:CRel s m) {t:RTx} (ht:t∈m.Txns):s.isT t.X∧TRel t (s.tx t.X):=by
 obtain ⟨x,hx,h⟩:=r.mem t ht;unfold CS.isT CS.tx;rw [hx];exact ⟨rfl,h⟩
theorem CRel.isT {s:CS} {m:Coord} (r:CRel s m) {x:Txn}:s.isT x↔∃t∈m.Txns,t.X=x:=by
 constructor
 ·intro h;obtain ⟨t,ht,hk⟩:=r.cov _ h;exact ⟨t,ht,qaS_ hk⟩
 ·rintro ⟨t,ht,rfl⟩;exact (r.get ht).1
def qav_ (n:Int) (t:RTx) (i:Nat):Message:=if t.Open=true then decM n t.X (t.Parts[i]?.getD 0) true else zt_ n t.X (t.Parts[i]?.getD 0) (t.Works[i]?.getD zac_)
def againR (n:Int) (t:RTx) (k:Nat):List Message:=((List.range k).filter fun i=> !(t.Heard[i]?.getD false)).map (qav_ n t)
theorem zar_ {n:Int} {t:RTx} {k:Nat}:againR n t (k+1)=againR n t k++if t.Heard[k]?.getD false=true then [] else [qav_ n t k]:=by
 unfold againR;rw [List.range_succ,List.filter_append,List.map_append]
 cases h:t.Heard[k]?.getD false<;>simp [h]
theorem TRel.again {t:RTx} {x:TX} (h:TRel t x) {n:Int}:againR n t t.Parts.length=qi_ n t.X x:=by
 suffices hk:∀k,k≤x.parts.length→againR n t k=((x.parts.take k).filter fun p=> !x.hd p).map (Zbb_ n t.X x) by
  have:=hk x.parts.length (Nat.le_refl _);rw [List.take_length] at this;rw [h.ps];exact this
 intro k
 induction k with
 | zero=>intro _;simp [againR]
 | succ k ih=>
  intro hk;have hk1:k<x.parts.length:=hk;rw [zar_,ih (Nat.le_of_lt hk1),List.take_succ_eq_append_getElem hk1,List.filter_append,List.map_append];have e1:t.Heard[k]?.getD false=x.hd x.parts[k]:=by rw [h.hd,List.getElem?_map,List.getElem?_eq_getElem hk1];rfl
  have e2:qav_ n t k=Zbb_ n t.X x x.parts[k]:=by
   unfold qav_ Zbb_;rw [h.op,h.ps,List.getElem?_eq_getElem hk1];by_cases ho:x.op=true
   ·rw [if_pos ho,if_pos ho];rfl
   ·rw [if_neg ho,if_neg ho,h.wk (by simpa using ho),List.getElem?_map,List.getElem?_eq_getElem hk1];rfl
  rw [e1,e2]
  cases hh:x.hd x.parts[k]<;>simp [hh]
def noR (n:Int) (t:RTx):List Message:=t.Parts.map fun p=>decM n t.X p false
theorem TRel.no {t:RTx} {x:TX} (h:TRel t x) {n:Int}:noR n t=noL n t.X x:=by unfold noR noL;rw [h.ps]
def putR (t:RTx):List RTx→List RTx
  | []=>[t]
  | a::l=>if ltK a.X.k t.X.k then a::putR t l else if a.X=t.X then t::l else t::a::l
theorem zav_ {t e:RTx}:∀{l:List RTx},l.Pairwise (fun a b=>ltK a.X.k b.X.k)→(e∈putR t l↔e=t∨(e∈l∧e.X≠t.X))
 | [],_=>by simp [putR]
 | a::l,hr=>by
  rw [List.pairwise_cons] at hr;unfold putR;split
  ·next h=>
   have ha:a.X≠t.X:=fun e=>by rw [e] at h;exact ZO_ h
   rw [List.mem_cons,zav_ hr.2,List.mem_cons];constructor
   ·rintro (rfl | rfl | ⟨h1,h2⟩)
    ·exact .inr ⟨.inl rfl,ha⟩
    ·exact .inl rfl
    ·exact .inr ⟨.inr h1,h2⟩
   ·rintro (rfl | ⟨rfl | h1,h2⟩)
    ·exact .inr (.inl rfl)
    ·exact .inl rfl
    ·exact .inr (.inr ⟨h1,h2⟩)
  ·next h=>
   have hgt:∀b∈l,b.X≠t.X:=fun b hb e=>by
    have h1:=hr.1 b hb;rw [e] at h1;exact h h1
   split
   ·next he=>
    rw [List.mem_cons,List.mem_cons];constructor
    ·rintro (rfl | h1)
     ·exact .inl rfl
     ·exact .inr ⟨.inr h1,hgt e h1⟩
    ·rintro (rfl | ⟨rfl | h1,h2⟩)
     ·exact .inl rfl
     ·exact absurd he h2
     ·exact .inr h1
   ·next he=>
    rw [List.mem_cons,List.mem_cons];constructor
    ·rintro (rfl | rfl | h1)
     ·exact .inl rfl
     ·exact .inr ⟨.inl rfl,he⟩
     ·exact .inr ⟨.inr h1,hgt e h1⟩
    ·rintro (rfl | ⟨h1,h2⟩)
     ·exact .inl rfl
     ·exact .inr h1
theorem Zby_ {t:RTx}:∀{l:List RTx},l.Pairwise (fun a b=>ltK a.X.k b.X.k)→(putR t l).Pairwise fun a b=>ltK a.X.k b.X.k
 | [],_=>by simp [putR]
 | a::l,hr=>by
  have hr0:=hr;rw [List.pairwise_cons] at hr;unfold putR;split
  ·next h=>
   rw [List.pairwise_cons];refine ⟨fun b hb=>?_,Zby_ hr.2⟩;rcases (zav_ hr.2).1 hb with rfl | ⟨hb,_⟩
   ·exact h
   ·exact hr.1 b hb
  ·next h=>
   split
   ·next he=>
    rw [List.pairwise_cons];refine ⟨fun b hb=>?_,hr.2⟩;have:=hr.1 b hb;rw [he] at this;exact this
   ·next he=>
    have h0:ltK t.X.k a.X.k:=Classical.byContradiction fun hc=>he (qaS_ (Qas_ h hc));rw [List.pairwise_cons];refine ⟨fun b hb=>?_,hr0⟩;rcases List.mem_cons.1 hb with rfl | hb
    ·exact h0
    ·exact ZaR_ h0 (hr.1 b hb)
theorem CRel.put {s:CS} {m:Coord} (r:CRel s m) {t:RTx} {x:TX} (h:TRel t x):CRel (s.put t.X.k x) {m with Txns:=putR t m.Txns}:=by
 refine ⟨r.node,r.life,r.count,Zby_ r.rise,fun e he=>?_,fun k hk=>?_⟩
 ·show∃y,mget e.X.k (mset t.X.k x s.ts)=some y∧TRel e y;rw [Zf_];rcases (zav_ r.rise).1 he with rfl | ⟨h1,h2⟩
  ·rw [if_pos rfl];exact ⟨x,rfl,h⟩
  ·rw [if_neg fun e=>h2 (qaS_ e)];exact r.mem e h1
 ·have hk':(mget k (mset t.X.k x s.ts)).isSome=true:=hk;rw [Zf_] at hk';split at hk'
  ·next e=>exact ⟨t,(zav_ r.rise).2 (.inl rfl),e.symm⟩
  ·next e=>
   obtain ⟨a,ha,rfl⟩:=r.cov k hk';exact ⟨a,(zav_ r.rise).2 (.inr ⟨ha,fun h=>e (by rw [h])⟩),rfl⟩
def cutR (x:Txn) (l:List RTx):List RTx:=l.filter fun t=>decide (t.X≠x)
theorem qD_ {κ ν:Type} [DecidableEq κ] {m:List (κ×ν)} (hn:(m.map (·.1)).Nodup) {k k':κ}:mget k' (mdel k m)=if k'=k then none else mget k' m:=by
 induction m with
 | nil=>simp [mdel,mget]
 | cons q m ih=>
  obtain ⟨a,v⟩:=q;simp only [List.map_cons,List.nodup_cons] at hn;unfold mdel;by_cases h:k=a
  ·subst h;simp only [if_true];by_cases h2:k'=k
   ·subst h2;simp [zE_.2 hn.1]
   ·simp [mget,h2]
  ·simp only [h,if_false];by_cases h2:k'=a
   ·subst h2;simp [mget,Ne.symm h]
   ·simp only [mget,h2,if_false];exact ih hn.2
theorem CRel.cut {n:Nat} {s:CS} {m:Coord} (I:CInv n s) (r:CRel s m) {x:Txn}:CRel (s.cut x.k) {m with Txns:=cutR x m.Txns}:=by
 refine ⟨r.node,r.life,r.count,r.rise.sublist List.filter_sublist,fun e he=>?_,fun k hk=>?_⟩
 ·show∃y,mget e.X.k (mdel x.k s.ts)=some y∧TRel e y;rw [qD_ I.nd];have h1:=List.mem_filter.1 he;rw [if_neg fun e1=>(of_decide_eq_true h1.2) (qaS_ e1)];exact r.mem e h1.1
 ·have hk':(mget k (mdel x.k s.ts)).isSome=true:=hk;rw [qD_ I.nd] at hk';split at hk'
  ·cases hk'
  ·next e=>
   obtain ⟨a,ha,rfl⟩:=r.cov k hk';exact ⟨a,List.mem_filter.2 ⟨ha,decide_eq_true fun h=>e (by rw [h])⟩,rfl⟩
def zaL_ (c:Coord) (m:Message):Prop:=m.To=c.Node∧m.Txn.Node=c.Node
def zZ_ (t:RTx) (p:Int):Prop:=∀j (h:j<t.Parts.length),t.Parts[j]≠p→t.Heard[j]?.getD false=true
def ocR (x:Txn) (y d:Bool):ROc:=⟨x,y,d⟩
def toOc (o:CoordOutcome):ROc:=⟨o.Txn,o.Yes,o.Done⟩
def qbl_ (t:RTx) (i:Nat):RTx:={t with Heard:=t.Heard.set i true}
def qF_ (t:RTx):RTx:={t with Open:=true,Heard:=List.replicate t.Parts.length false}
inductive RCHear (c:Coord) (m:Message):Coord→List Message→List Rec→List ROc→Prop
  | off (h:¬zaL_ c m):RCHear c m c [] [] []
  | askNo (h:zaL_ c m) (k:m.Kind=5) (t:RTx) (ht:t∈c.Txns) (hx:t.X=m.Txn) (ho:t.Open=false):RCHear c m c [] [] []
  | ask (h:zaL_ c m) (k:m.Kind=5) (ho:∀t∈c.Txns,t.X=m.Txn→t.Open=true) (y:Bool) (hy:y=true↔∃t∈c.Txns,t.X=m.Txn):RCHear c m c [decM c.Node m.Txn m.From y] [] []
  | none (h:zaL_ c m) (k:m.Kind≠5) (hn:∀t∈c.Txns,t.X≠m.Txn):RCHear c m c [] [] []
  | nopart (h:zaL_ c m) (k:m.Kind≠5) (t:RTx) (ht:t∈c.Txns) (hx:t.X=m.Txn) (hp:m.From∉t.Parts∨(t.Open=true∧m.Kind≠4)∨(t.Open=false∧m.Kind≠2)):RCHear c m c [] [] []
  | against (h:zaL_ c m) (t:RTx) (ht:t∈c.Txns) (hx:t.X=m.Txn) (k:m.Kind=2) (hp:m.From∈t.Parts) (ho:t.Open=false) (hy:m.Yes=false):RCHear c m {c with Txns:=cutR m.Txn c.Txns} (noR c.Node t) [] [ocR m.Txn false false]
  | some (h:zaL_ c m) (t:RTx) (ht:t∈c.Txns) (hx:t.X=m.Txn) (k:(t.Open=true∧m.Kind=4)∨(t.Open=false∧m.Kind=2∧m.Yes=true)) (i:Nat) (hi:i<t.Parts.length) (hp:t.Parts[i]=m.From) (ha:¬zZ_ t m.From):RCHear c m {c with Txns:=putR (qbl_ t i) c.Txns} [] [] []
  | over (h:zaL_ c m) (t:RTx) (ht:t∈c.Txns) (hx:t.X=m.Txn) (ho:t.Open=true) (k:m.Kind=4) (hp:m.From∈t.Parts) (ha:zZ_ t m.From):RCHear c m {c with Txns:=cutR m.Txn c.Txns} [] [recE m.Txn] [ocR m.Txn true true]
  | opens (h:zaL_ c m) (t:RTx) (ht:t∈c.Txns) (hx:t.X=m.Txn) (ho:t.Open=false) (k:m.Kind=2) (hy:m.Yes=true) (hp:m.From∈t.Parts) (ha:zZ_ t m.From):RCHear c m {c with Txns:=putR (qF_ t) c.Txns} (againR c.Node (qF_ t) t.Parts.length) [recC m.Txn t.Parts] [ocR m.Txn true false]
theorem CRel.forC {s:CS} {c:Coord} (r:CRel s c) {m:Message}:forC s m↔zaL_ c m:=by unfold zaL_ Go.Proofs.YtlflbkpmfhhikaaGreatDoor.forC;rw [r.node]
theorem TRel.mark {t:RTx} {x:TX} (h:TRel t x) (hx:TInv x) {i:Nat} (hi:i<t.Parts.length) {p:Int} (hp:t.Parts[i]=p):TRel (qbl_ t i) (qx_ x p):=by
 refine ⟨h.op,h.bg,h.ps,?_,h.wk⟩;show t.Heard.set i true=x.parts.map (qx_ x p).hd;have hps:=h.ps;obtain ⟨X,op,bg,ps,wk,hd⟩:=t;dsimp only at*;subst hps;have hh:=h.hd;dsimp only at hh;subst hh;refine List.ext_getElem (by simp) fun j h1 h2=>?_;have hj:j<x.parts.length:=by simpa using h1
 rw [List.getElem_set,List.getElem_map,List.getElem_map];show _=(mget x.parts[j] (mset p 1 x.heard)).isSome;rw [Zf_];by_cases e:i=j
 ·subst e;rw [if_pos rfl,if_pos hp];rfl
 ·have hlt:=List.pairwise_iff_getElem.1 hx.rise
  have:x.parts[j]≠p:=fun e2=>by
   rcases Nat.lt_or_gt_of_ne e with h3 | h3
   ·have:=hlt i j hi hj h3;rw [hp,e2] at this;omega
   ·have:=hlt j i hj hi h3;rw [hp,e2] at this;omega
  rw [if_neg e,if_neg this];rfl
theorem v89_ {P:Prop} (h:P:=by
 refine (List.eq_replicate_iff.2 ⟨by simp,fun b hb=>?_⟩).symm;obtain ⟨p,_,rfl⟩:=List.mem_map.1 hb;rfl):P:=h
theorem TRel.open {t:RTx} {x:TX} (h:TRel t x):TRel (qF_ t) (Zav_ x):=by
 refine ⟨rfl,h.bg,h.ps,?_,fun e=>by cases e⟩;show List.replicate t.Parts.length false=x.parts.map (Zav_ x).hd;rw [h.ps];exact v89_
theorem TRel.others {t:RTx} {x:TX} (h:TRel t x) (hx:TInv x) {p:Int} (hp:p∈x.parts):zZ_ t p↔Qp_ (qx_ x p):=by
 unfold Qp_
 have hk:=ZaQ_ (t:=x) (ps:=x.parts) (hs:=mset p 1 x.heard) hx.parts_nodup (Zk_ hx.hn) fun q hq=>by
  have h1:=Zj_ (Zk_ hx.hn) hq;rw [Zf_] at h1;split at h1
  ·next e=>rw [e];exact hp
  ·exact (hx.hp q (Zu_ h1)).1
 rw [show (qx_ x p).parts=x.parts from rfl,show (qx_ x p).heard=mset p 1 x.heard from rfl,hk];unfold zZ_;constructor
 ·intro ho a ha;obtain ⟨j,hj,rfl⟩:=List.getElem_of_mem ha;rw [Zf_];split
  ·rfl
  ·next hne=>
   have h1:=ho j (by rw [h.ps];exact hj) (by simp only [h.ps];exact hne);rw [h.hd,List.getElem?_map,List.getElem?_eq_getElem hj] at h1;exact h1
 ·intro ha j hj hne;have hj':j<x.parts.length:=by rw [←h.ps];exact hj
  have h1:=ha x.parts[j] (List.getElem_mem hj');rw [Zf_,if_neg (by simpa only [h.ps] using hne)] at h1;rw [h.hd,List.getElem?_map,List.getElem?_eq_getElem hj'];exact h1
theorem v94_ {P:Prop} (h:P:=by
 rcases hp with hp | ⟨hp,_⟩ | ⟨_,hp⟩
 ·exact hp hm
 ·rw [ho] at hp;cases hp
 ·exact hp k4):P:=h
theorem CRel.hear {n:Nat} {s:CS} {c c':Coord} {m:Message} {out:List Message} {rec:List Rec} {oc:List ROc} (I:CInv n s) (r:CRel s c) (h:RCHear c m c' out rec oc):
  out=(zh_ s m).out∧rec=(zh_ s m).rc∧oc=(zh_ s m).oc.map toOc∧CRel (zh_ s m).s c':=by
 have hat:∀t∈c.Txns,t.X=m.Txn→s.isT m.Txn∧TRel t (s.tx m.Txn)∧TInv (s.tx m.Txn):=fun t ht e=>by
  have:=r.get ht;rw [e] at this;exact ⟨this.1,this.2,I.tinv this.1⟩
 unfold zh_
 cases h with
 | off h=>rw [if_pos fun hh=>h (r.forC.1 hh)];exact ⟨rfl,rfl,rfl,r⟩
 | askNo h k t ht hx ho=>
  obtain ⟨h1,h2,_⟩:=hat t ht hx;have ho':(s.tx m.Txn).op=false:=by rw [←h2.op];exact ho
  rw [if_neg (fun hh=>hh (r.forC.2 h)),if_neg (fun hh=>hh.2.elim (fun a=>a h1) fun a=>by rw [ho'] at a;cases a),if_neg (fun hh=>by have:=hh.1;omega),if_neg (fun hh=>by have:=hh.1;omega),if_neg (fun hh=>by have:=hh.1;omega)];exact ⟨rfl,rfl,rfl,r⟩
 | ask h k ho y hy=>
  have hcase:m.Kind=5∧(¬s.isT m.Txn∨(s.tx m.Txn).op=true):=by
   refine ⟨k,?_⟩;by_cases hi:s.isT m.Txn
   ·right;obtain ⟨t,ht,e⟩:=r.isT.1 hi;rw [←(hat t ht e).2.1.op];exact ho t ht e
   ·exact .inl hi
  rw [if_neg (fun hh=>hh (r.forC.2 h)),if_pos hcase];refine ⟨?_,rfl,rfl,r⟩
  have hyd:y=decide (s.isT m.Txn):=by
   rw [←r.isT] at hy;by_cases hi:s.isT m.Txn
   ·rw [decide_eq_true hi];exact hy.2 hi
   ·rw [decide_eq_false hi]
    cases y with
    | false=>rfl
    | true=>exact absurd (hy.1 rfl) hi
  rw [r.node,hyd]
 | none h k hn=>
  have hi:¬s.isT m.Txn:=fun hh=>by obtain ⟨t,ht,e⟩:=r.isT.1 hh;exact hn t ht e
  rw [if_neg (fun hh=>hh (r.forC.2 h)),if_neg (fun hh=>k hh.1),if_neg (fun hh=>hi hh.2.1.1),if_neg (fun hh=>hi hh.2.1.1),if_neg (fun hh=>hi hh.2.1.1)];exact ⟨rfl,rfl,rfl,r⟩
 | nopart h k t ht hx hp=>
  obtain ⟨h1,h2,_⟩:=hat t ht hx;have e1:=h2.op;have e2:=h2.ps;rw [e1,e2] at hp;rw [if_neg (fun hh=>hh (r.forC.2 h)),if_neg (fun hh=>k hh.1),if_neg ?_,if_neg ?_,if_neg ?_]
  ·exact ⟨rfl,rfl,rfl,r⟩
  ·rintro ⟨k4,⟨_,hm⟩,ho⟩;rcases hp with hp | ⟨_,hp⟩ | ⟨hp,_⟩
   ·exact hp hm
   ·exact hp k4
   ·rw [ho] at hp;cases hp
  ·rintro ⟨k4,⟨_,hm⟩,ho⟩;exact v94_
  ·rintro ⟨k4,⟨_,hm⟩,ho,_⟩;exact v94_
 | against h t ht hx k hp ho hy=>
  obtain ⟨h1,h2,_⟩:=hat t ht hx;have ho':(s.tx m.Txn).op=false:=by rw [←h2.op];exact ho
  rw [if_neg (fun hh=>hh (r.forC.2 h)),if_neg (fun hh=>by have:=hh.1;omega),if_pos ⟨k,⟨h1,by rw [←h2.ps];exact hp⟩,ho',hy⟩];refine ⟨?_,rfl,rfl,r.cut I⟩;show noR c.Node t=noL s.node m.Txn (s.tx m.Txn);rw [h2.no,r.node,hx]
 | some h t ht hx k i hi hp ha=>
  obtain ⟨h1,h2,h3⟩:=hat t ht hx;have hm:m.From∈(s.tx m.Txn).parts:=by rw [←h2.ps,←hp];exact List.getElem_mem hi
  have ha':¬Qp_ (qx_ (s.tx m.Txn) m.From):=fun hh=>ha ((h2.others h3 hm).2 hh);have hr:=r.put (h2.mark h3 hi hp);rw [show (qbl_ t i).X=m.Txn from hx] at hr;have e1:=h2.op;rcases k with ⟨ho,k⟩ | ⟨ho,k,hy⟩
  ·rw [e1] at ho;rw [if_neg (fun hh=>hh (r.forC.2 h)),if_neg (fun hh=>by have:=hh.1;omega),if_neg (fun hh=>by have:=hh.1;omega),if_neg (fun hh=>by have:=hh.1;omega),if_pos ⟨k,⟨h1,hm⟩,ho⟩,if_pos ha'];exact ⟨rfl,rfl,rfl,hr⟩
  ·rw [e1] at ho;rw [if_neg (fun hh=>hh (r.forC.2 h)),if_neg (fun hh=>by have:=hh.1;omega),if_neg (fun hh=>by rw [hy] at hh;cases hh.2.2.2),if_pos ⟨k,⟨h1,hm⟩,ho⟩,if_pos ha'];exact ⟨rfl,rfl,rfl,hr⟩
 | over h t ht hx ho k hp ha=>
  obtain ⟨h1,h2,h3⟩:=hat t ht hx;have hm:m.From∈(s.tx m.Txn).parts:=by rw [←h2.ps];exact hp
  have ha':=(h2.others h3 hm).1 ha;have ho':(s.tx m.Txn).op=true:=by rw [←h2.op];exact ho
  rw [if_neg (fun hh=>hh (r.forC.2 h)),if_neg (fun hh=>by have:=hh.1;omega),if_neg (fun hh=>by have:=hh.1;omega),if_neg (fun hh=>by have:=hh.1;omega),if_pos ⟨k,⟨h1,hm⟩,ho'⟩,if_neg (fun hh=>hh ha')];exact ⟨rfl,rfl,rfl,r.cut I⟩
 | opens h t ht hx ho k hy hp ha=>
  obtain ⟨h1,h2,h3⟩:=hat t ht hx;have hm:m.From∈(s.tx m.Txn).parts:=by rw [←h2.ps];exact hp
  have ha':=(h2.others h3 hm).1 ha;have ho':(s.tx m.Txn).op=false:=by rw [←h2.op];exact ho
  have hr:=r.put h2.open;rw [show (qF_ t).X=m.Txn from hx] at hr;rw [if_neg (fun hh=>hh (r.forC.2 h)),if_neg (fun hh=>by have:=hh.1;omega),if_neg (fun hh=>by rw [hy] at hh;cases hh.2.2.2),if_pos ⟨k,⟨h1,hm⟩,ho'⟩,if_neg (fun hh=>hh ha')];refine ⟨?_,?_,rfl,hr⟩
  ·show againR c.Node (qF_ t) (qF_ t).Parts.length=_;rw [h2.open.again,r.node];show qi_ s.node t.X _=_;rw [hx]
  ·show [recC m.Txn t.Parts]=[recC m.Txn (s.tx m.Txn).parts];rw [h2.ps]
def qU_ (t:RTx) (now:Int):Prop:=t.Open=false∧qbz_ t.Began now
instance {t:RTx} {now:Int}:Decidable (qU_ t now):=by unfold qU_;infer_instance
def Qw_ (n:Int) (now:Int) (t:RTx):List Message:=if qU_ t now then noR n t else againR n t t.Parts.length
theorem TRel.gone {t:RTx} {x:TX} (h:TRel t x) {now:Int}:qU_ t now↔ZK_ x now:=by unfold qU_ ZK_;rw [h.op,h.bg]
theorem Zao_ {α β:Type} {f g:α→List β}:∀{l:List α},(∀a∈l,f a=g a)→l.flatMap f=l.flatMap g
 | [],_=>rfl
 | a::l,h=>by rw [List.flatMap_cons,List.flatMap_cons,h a (List.mem_cons_self ..),Zao_ fun b hb=>h b (List.mem_cons_of_mem _ hb)]
theorem CRel.step {n:Nat} {s:CS} {c:Coord} {now:Int} (I:CInv n s) (r:CRel s c):
  c.Txns.flatMap (Qw_ c.Node now)=Qar_ s now∧((c.Txns.filter fun t=>decide (qU_ t now)).map fun t=>ocR t.X false false)=(qcK_ s now).map toOc∧CRel (zD_ s now) {c with Txns:=c.Txns.filter fun t=> !decide (qU_ t now)}:=by
 refine ⟨?_,?_,r.node,r.life,r.count,r.rise.sublist List.filter_sublist,fun t ht=>?_,fun k hk=>?_⟩
 ·unfold Qar_;rw [r.all I,List.flatMap_map];refine Zao_ fun t ht=>?_;obtain ⟨x,hx,h⟩:=r.mem t ht;unfold Qw_ zbl_;rw [hx,Option.getD_some,h.again,h.no,r.node];by_cases hg:ZK_ x now
  ·rw [if_pos (h.gone.2 hg),if_pos hg];rfl
  ·rw [if_neg (fun e=>hg (h.gone.1 e)),if_neg hg];rfl
 ·unfold qcK_;rw [r.all I,List.filter_map,List.map_map,List.map_map]
  have:(c.Txns.filter fun t=>decide (qU_ t now))=c.Txns.filter ((fun k=>decide (ZK_ ((mget k s.ts).getD zTX) now))∘fun t=>t.X.k):=by
   refine List.filter_congr fun t ht=>?_;obtain ⟨x,hx,h⟩:=r.mem t ht;show decide _=decide _;rw [hx,Option.getD_some,decide_eq_decide];exact h.gone
  rw [this];rfl
 ·have h1:=List.mem_filter.1 ht;obtain ⟨x,hx,h⟩:=r.mem t h1.1;refine ⟨x,(qO_ I).2 ⟨hx,fun hg=>?_⟩,h⟩;have:=h1.2;rw [decide_eq_true (h.gone.2 hg)] at this;cases this
 ·cases hg:mget k (zD_ s now).ts with
  | none=>rw [hg] at hk;cases hk
  | some x=>
   obtain ⟨h1,h2⟩:=(qO_ I).1 hg;obtain ⟨t,ht,rfl⟩:=r.cov k (by rw [h1];rfl);obtain ⟨x',hx',h⟩:=r.mem t ht;rw [h1] at hx';cases hx';refine ⟨t,List.mem_filter.2 ⟨ht,?_⟩,rfl⟩;rw [decide_eq_false fun e=>h2 (h.gone.1 e)];rfl
theorem CRel.voting {n:Nat} {s:CS} {c:Coord} (I:CInv n s) (r:CRel s c):zad_ s=(c.Txns.filter fun t=> !t.Open).map (·.X):=by
 unfold zad_;rw [r.all I,List.filter_map,List.map_map]
 have:c.Txns.filter ((fun k=> !((mget k s.ts).getD zTX).op)∘fun t=>t.X.k)=c.Txns.filter fun t=> !t.Open:=by
  refine List.filter_congr fun t ht=>?_;obtain ⟨x,hx,h⟩:=r.mem t ht;show (!((mget t.X.k s.ts).getD zTX).op)=_;rw [hx,Option.getD_some,h.op]
 rw [this];rfl
theorem CRel.open {n:Nat} {s:CS} {c:Coord} (I:CInv n s) (r:CRel s c):openL s=(c.Txns.filter fun t=>t.Open).map fun t=>recC t.X t.Parts:=by
 unfold openL;rw [r.all I,List.filter_map,List.map_map]
 have:c.Txns.filter ((fun k=>((mget k s.ts).getD zTX).op)∘fun t=>t.X.k)=c.Txns.filter fun t=>t.Open:=by
  refine List.filter_congr fun t ht=>?_;obtain ⟨x,hx,h⟩:=r.mem t ht;show ((mget t.X.k s.ts).getD zTX).op=_;rw [hx,Option.getD_some,h.op]
 rw [this];refine List.map_congr_left fun t ht=>?_;obtain ⟨x,hx,h⟩:=r.mem t (List.mem_filter.1 ht).1;show recC _ ((mget t.X.k s.ts).getD zTX).parts=_;rw [hx,Option.getD_some,h.ps];rfl
def zF_ (c:Coord) (now:Int) (ws:List (Int×Work)):RTx:=⟨⟨c.Node,c.Life,c.Count+1⟩,false,now,ws.map (·.1),ws.map (·.2),List.replicate ws.length false⟩
theorem TRel.began {x:Txn} {now:Int} {ws:List (Int×CW)} (hn:(ws.map (·.1)).Nodup):TRel ⟨x,false,now,ws.map (·.1),ws.map (·.2.2),List.replicate ws.length false⟩ (zf_ now ws):=by
 refine ⟨rfl,rfl,rfl,?_,fun _=>?_⟩
 ·show _=(ws.map (·.1)).map (zf_ now ws).hd;exact v89_
 ·show _=(ws.map (·.1)).map (zf_ now ws).wk;rw [List.map_map];refine List.map_congr_left fun q hq=>?_;show q.2.2=((mget q.1 ws).getD zCW).2;rw [Zj_ hn hq];rfl
theorem v101_ {P:Prop} (h:P:=by
 unfold zF_ newX;rw [r.node,r.life,r.count,List.map_map,List.map_map,List.length_map];rfl):P:=h
theorem CRel.begin {s:CS} {c:Coord} {now:Int} {ws:List (Int×CW)} (r:CRel s c) (hn:(ws.map (·.1)).Nodup) (hne:ws≠[]):
  CRel (qd_ s now ws) ⟨c.Node,c.Life,c.Count+1,putR (zF_ c now (ws.map fun q=>(q.1,q.2.2))) c.Txns⟩:=by
 have h:=r.put (TRel.began (x:=newX s) (now:=now) hn);unfold qd_;rw [if_neg hne]
 have e:zF_ c now (ws.map fun q=>(q.1,q.2.2))=⟨newX s,false,now,ws.map (·.1),ws.map (·.2.2),List.replicate ws.length false⟩:=by
  exact v101_
 rw [e];exact ⟨r.node,r.life,by show c.Count+1=s.count+1;rw [r.count],h.rise,h.mem,h.cov⟩
theorem v40_ {P:Prop} (h:P:=by
 rw [List.map_map]
 have h1:((zf_ now ws).parts.filter fun p=> !(zf_ now ws).hd p)=ws.map (·.1):=by
  rw [List.filter_eq_self.2]
  ·rfl
  ·intro a ha;rfl
 rw [h1,List.map_map];refine List.map_congr_left fun q hq=>?_;show zt_ s.node (newX s) q.1 ((mget q.1 ws).getD zCW).2=zt_ s.node (newX s) q.1 q.2.2;rw [Zj_ hn hq];rfl):P:=h
theorem ZcJ_ {s:CS} {c:Coord} {now:Int} {ws:List (Int×CW)} (r:CRel s c) (hn:(ws.map (·.1)).Nodup):
  againR c.Node (zF_ c now (ws.map fun q=>(q.1,q.2.2))) ws.length=ZaL_ s (ws.map fun q=>(q.1,q.2.2)):=by
 have e:zF_ c now (ws.map fun q=>(q.1,q.2.2))=⟨newX s,false,now,ws.map (·.1),ws.map (·.2.2),List.replicate ws.length false⟩:=by
  exact v101_
 rw [e];have h:=(TRel.began (x:=newX s) (now:=now) hn).again (n:=c.Node);rw [show (⟨newX s,false,now,ws.map (·.1),ws.map (·.2.2),List.replicate ws.length false⟩:RTx).Parts.length=ws.length from by simp] at h;rw [h,r.node];unfold qi_ ZaL_;exact v40_
structure OkR (node life:Int) (r:Rec):Prop where
  node:r.Txn.Node=node
  life:r.Txn.Life<life
  ne:r.Parts≠[]
  nn:∀p∈r.Parts,0≤p
  rise:r.Parts.Pairwise (· < ·)
def Qao_ (r:Rec):TX:=⟨true,0,r.Parts,[],[]⟩
def zV_ (l:List Rec) (m:List (K3×TX)):List (K3×TX):=l.foldl (fun m r=>mset r.Txn.k (Qao_ r) m) m
def ZcI_ (r:Rec):RTx:=⟨r.Txn,true,0,r.Parts,[],List.replicate r.Parts.length false⟩
def zdA_ (l:List Rec):List RTx:=l.foldl (fun a r=>putR (ZcI_ r) a) []
theorem qcJ_ {l:List Rec}:∀{m:List (K3×TX)},(m.map (·.1)).Nodup→((zV_ l m).map (·.1)).Nodup∧(zV_ l m).length≤m.length+l.length:=by
 induction l with
 | nil=>intro m h;exact ⟨h,by simp [zV_]⟩
 | cons r l ih=>
  intro m h;obtain ⟨h1,h2⟩:=ih (m:=mset r.Txn.k (Qao_ r) m) (Zk_ h);refine ⟨h1,?_⟩;rw [show zV_ (r::l) m=zV_ l (mset r.Txn.k (Qao_ r) m) from rfl];rw [QS_] at h2;simp only [List.length_cons];split at h2<;>omega
theorem qaD_ {P:K3→TX→Prop} {l:List Rec}:∀{m:List (K3×TX)},(∀k t,mget k m=some t→P k t)→(∀r∈l,P r.Txn.k (Qao_ r))→∀k t,mget k (zV_ l m)=some t→P k t:=by
 induction l with
 | nil=>intro m h _ k t hk;exact h k t hk
 | cons r l ih=>
  intro m h hr k t hk;refine ih (m:=mset r.Txn.k (Qao_ r) m) (fun k t hk=>?_) (fun r hm=>hr r (List.mem_cons_of_mem _ hm)) k t hk;rw [Zf_] at hk;split at hk
  ·next e=>subst e;cases hk;exact hr r (List.mem_cons_self ..)
  ·exact h k t hk
theorem CRel.loads {l:List Rec}:∀{s:CS} {c:Coord},CRel s c→CRel ⟨s.node,s.life,s.count,zV_ l s.ts⟩ {c with Txns:=l.foldl (fun a r=>putR (ZcI_ r) a) c.Txns}:=by
 induction l with
 | nil=>intro s c r;exact r
 | cons q l ih=>
  intro s c r;have h:=r.put (t:=ZcI_ q) (x:=Qao_ q) ⟨rfl,rfl,rfl,(List.eq_replicate_iff.2 ⟨by simp [Qao_],fun b hb=>by obtain ⟨p,_,rfl⟩:=List.mem_map.1 hb;rfl⟩).symm,fun e=>by cases e⟩;exact ih h
theorem zcJ_ {node life:Int} {l:List Rec}:CRel ⟨node,life,0,zV_ l []⟩ ⟨node,life,0,zdA_ l⟩:=crel0.loads (l:=l)
theorem TInv.load {node life:Int} {r:Rec} (h:OkR node life r) (hf:∀p∈r.Parts,fits p):TInv (Qao_ r):=
 ⟨h.ne,h.rise,fun p hp=>⟨h.nn p hp,hf p hp⟩,by simp [Qao_],fun q hq=>(by cases hq),by have:=List.length_pos_iff.2 h.ne;simpa [Qao_] using this,fun e=>(by cases e),Zg_⟩
theorem CInv.load {node life:Int} {l:List Rec} {n:Nat} (h1:fits node) (h2:fits life) (hn:l.length≤n) (h:∀r∈l,OkR node life r∧(∀p∈r.Parts,fits p)∧fits r.Txn.Life∧fits r.Txn.Count):CInv n ⟨node,life,0,zV_ l []⟩:=by
 obtain ⟨a,b⟩:=qcJ_ (l:=l) (m:=[]) (by simp);refine ⟨a,by have:(zV_ l []).length≤0+l.length:=b;show (zV_ l []).length≤n;omega,qaD_ (fun k t h=>by cases h) fun r hr=>TInv.load (h r hr).1 (h r hr).2.1,qaD_ (fun k t h=>by cases h) fun r hr=>?_,by simp,h1,h2⟩;obtain ⟨g1,g2,g3,g4⟩:=h r hr;refine ⟨g1.node,g3,g4,?_,fun e=>?_⟩
 ·have:=g1.life;show r.Txn.Life≤life;omega
 ·have:=g1.life;have e':r.Txn.Life=life:=e;omega
theorem Qby_ {s:CS} {r:Rec} (h:r∈openL s):∃k t,mget k s.ts=some t∧t.op=true∧r=recC (toTx k) t.parts:=by
 unfold openL at h;obtain ⟨k,hk,rfl⟩:=List.mem_map.1 h;obtain ⟨h1,h2⟩:=List.mem_filter.1 hk;rw [Qav_] at h1
 cases hg:mget k s.ts with
 | none=>rw [hg] at h1;cases h1
 | some t=>
  refine ⟨k,t,hg,?_,?_⟩
  ·rw [hg] at h2;exact h2
  ·rfl
theorem qch_ {n:Nat} {s:CS} (I:CInv n s) {r:Rec} (h:r∈openL s):OkR s.node (s.life+1) r∧(∀p∈r.Parts,fits p)∧fits r.Txn.Life∧fits r.Txn.Count:=by
 obtain ⟨k,t,hk,ho,rfl⟩:=Qby_ h;have ti:=I.ti k t hk;obtain ⟨a,b,c,d,e⟩:=I.kn k t hk;exact ⟨⟨a,by show k.2.1<s.life+1;omega,ti.ne,fun p hp=>(ti.nn p hp).1,ti.rise⟩,fun p hp=>(ti.nn p hp).2,b,c⟩
theorem zbR_ {n:Nat} {s:CS} (I:CInv n s):((openL s).map (·.Txn.k)).Nodup:=by
 unfold openL;rw [List.map_map];have:((fun r:Rec=>r.Txn.k)∘fun k=>recC (toTx k) ((mget k s.ts).getD zTX).parts)=id:=funext fun k=>rfl;rw [this,List.map_id];refine List.Nodup.sublist List.filter_sublist ?_;rw [List.nodup_iff_pairwise_ne];exact (zaj_ I.nd).imp fun h e=>by rw [e] at h;exact ZO_ h
theorem Zbk_ {s:CS}:(allC s).length=s.ts.length:=by unfold allC;rw [ZP_,List.length_map]
theorem QcJ_ {s:CS}:(openL s).length≤s.ts.length:=by
 unfold openL;rw [List.length_map,←Zbk_];exact List.length_filter_le _ _
abbrev ptrC (p:Nat):Value:= .pointer (some ⟨p,0,none⟩)
abbrev iK:Int→Value:=fun x=> .int .i64 x
structure CE where
  k:K3
  p:Nat
  v:Value
  x:TX
abbrev xRow (e:CE) (wv:Value) (hb:Nat):za_:=row e.p 165 [.bool e.x.op,I e.x.began,e.v,wv,.map (some hb)]
abbrev QA_ (H:Heap) (e:CE) (hb:Nat):za_:=mapO iK rInt false H hb e.x.heard
def zs_ (H:Heap) (e:CE) (wv:Value):za_:=fun h=>(e.x.op=true∧e.x.works=[]∧wv= .map none∧h=Heap.empty)∨(e.x.op=false∧∃wb,wv= .map (some wb)∧mapO iK rCW true H wb e.x.works h)
def xA (H:Heap) (e:CE):za_:=fun h=>SlB rInt 1 8 H e.v e.x.parts∧∃wv hb,big [xRow e wv hb,zs_ H e wv,QA_ H e hb] h
abbrev cRow (p mb:Nat) (s:CS):za_:=row p 160 [I s.node,I s.life,I s.count,.map (some mb)]
def kvC {ν:Type} (f:CE→ν) (zs:List CE):List (K3×ν):=zs.map fun e=>(e.k,f e)
abbrev msC (zs:List CE):List (K3×Value):=kvC (fun e=>ptrC e.p) zs
abbrev tsC (zs:List CE):List (K3×TX):=kvC CE.x zs
abbrev cMap (mb:Nat) (zs:List CE):za_:=mapO ek3 rVal false Heap.empty mb (msC zs)
def qj_ (H:Heap) (p:Nat) (s:CS):za_:=fun h=>∃mb zs,big [cRow p mb s,cMap mb zs,bigL (xA H) zs] h∧s.ts=tsC zs
theorem qaQ_ {ν:Type} {f:CE→ν} {zs:List CE}:(kvC f zs).map (·.1)=zs.map CE.k:=by simp only [kvC,List.map_map];rfl
theorem zcI_ {ν:Type} {f:CE→ν} {zs:List CE} {e:CE} (hn:(zs.map CE.k).Nodup) (he:e∈zs):mget e.k (kvC f zs)=some (f e):=
 Zj_ (by rw [qaQ_];exact hn) (List.mem_map.2 ⟨e,he,rfl⟩)
theorem Qcg_ {ν:Type} {f:CE→ν} {zs:List CE} {k:K3} (hn:∀e∈zs,e.k≠k):mget k (kvC f zs)=none:=by
 rw [zE_,qaQ_];intro h;obtain ⟨e,he,rfl⟩:=List.mem_map.1 h;exact hn e he rfl
theorem qbR_ (zs:List CE) (k:K3):(∃l1 e l2,zs=l1++e::l2∧e.k=k)∨∀e∈zs,e.k≠k:=by
 by_cases h:∃e∈zs,e.k=k
 ·obtain ⟨e,he,hn⟩:=h;obtain ⟨l1,l2,rfl⟩:=List.append_of_mem he;exact .inl ⟨l1,e,l2,rfl,hn⟩
 ·exact .inr fun e he hn=>h ⟨e,he,hn⟩
theorem Zdz_ {ν:Type} {f:CE→ν} {l1 l2:List CE} {e:CE} (h:((l1++e::l2).map CE.k).Nodup):mdel e.k (kvC f (l1++e::l2))=kvC f (l1++l2):=by
 induction l1 with
 | nil=>simp [kvC,mdel]
 | cons x l1 ih=>
  rw [List.cons_append,List.map_cons,List.nodup_cons] at h;have hx:¬e.k=x.k:=fun e1=>h.1 (by rw [←e1];simp)
  have:mdel e.k (kvC f (x::l1++e::l2))=(x.k,f x)::mdel e.k (kvC f (l1++e::l2)):=by
   simp only [List.cons_append,kvC,List.map_cons,mdel];rw [if_neg hx]
  rw [this,ih h.2];rfl
theorem qdA_ {ν:Type} {f:CE→ν} {zs:List CE} {e:CE} (hn:∀x∈zs,x.k≠e.k):mset e.k (f e) (kvC f zs)=kvC f (zs++[e]):=by
 induction zs with
 | nil=>simp [kvC,mset]
 | cons x zs ih=>
  have hx:¬e.k=x.k:=fun e1=>hn x (by simp) e1.symm
  have:mset e.k (f e) (kvC f (x::zs))=(x.k,f x)::mset e.k (f e) (kvC f zs):=by
   simp only [kvC,List.map_cons,mset];rw [if_neg hx]
  rw [this,ih fun y hy=>hn y (by simp [hy])];rfl
theorem zdR_ {ν:Type} {f:CE→ν} {l1 l2:List CE} {e e':CE} (h:((l1++e::l2).map CE.k).Nodup) (hn:e'.k=e.k):mset e'.k (f e') (kvC f (l1++e::l2))=kvC f (l1++e'::l2):=by
 induction l1 with
 | nil=>simp [kvC,mset,hn]
 | cons x l1 ih=>
  rw [List.cons_append,List.map_cons,List.nodup_cons] at h;have hx:¬e'.k=x.k:=fun e1=>h.1 (by rw [←e1,hn];simp)
  have:mset e'.k (f e') (kvC f (x::l1++e::l2))=(x.k,f x)::mset e'.k (f e') (kvC f (l1++e::l2)):=by
   simp only [List.cons_append,kvC,List.map_cons,mset];rw [if_neg hx]
  rw [this,ih h.2];rfl
theorem ZdC_ {ν:Type} {f:CE→ν} {l1 l2:List CE} {e e':CE} (hk:e'.k=e.k) (hf:f e'=f e):kvC f (l1++e'::l2)=kvC f (l1++e::l2):=by
 simp [kvC,hk,hf]
theorem zaQ_ {κ ν:Type} [DecidableEq κ] {ek:κ→Value} {R:Go.Sx.Rd ν} {ag:Bool} {H H':Heap} {b n:Nat} {m:List (κ×ν)} {h:Heap} [RdOk R n] (hl:H.le H') (hm:mapO ek R ag H b m h):mapO ek R ag H' b m h:=by
 obtain ⟨es,c,a,e⟩:=hm;exact ⟨es,c,a.mono hl,e⟩
theorem QaQ_ {H H':Heap} {e:CE} {wv:Value} {h:Heap} (hl:H.le H') (hw:zs_ H e wv h):zs_ H' e wv h:=by
 rcases hw with hw | ⟨ho,wb,hwb,hm⟩
 ·exact .inl hw
 ·exact .inr ⟨ho,wb,hwb,zaQ_ hl hm⟩
theorem QcI_ {H H':Heap} {e:CE} {h:Heap} (hl:H.le H') (hx:xA H e h):xA H' e h:=by
 obtain ⟨hs,wv,hb,h1,h2,a1,⟨b1,b2,b3,⟨c1,c2,c3,c4⟩,b5⟩,a3⟩:=hx;exact ⟨hs.mono hl,wv,hb,h1,h2,a1,⟨b1,b2,QaQ_ hl b3,⟨c1,c2,zaQ_ hl c3,c4⟩,b5⟩,a3⟩
theorem big_mono {ι:Type} {A B:ι→za_} (hab:∀e h,A e h→B e h):∀{l:List ι} {h:Heap},big (l.map A) h→big (l.map B) h
 | [],h,hb=>hb
 | e::l,h,⟨h1,h2,ha,hb,r⟩=>⟨h1,h2,hab e h1 ha,big_mono hab hb,r⟩
theorem qbg_ {H H':Heap} {p:Nat} {s:CS} {h:Heap} (hl:H.le H') (hc:qj_ H p s h):qj_ H' p s h:=by
 obtain ⟨mb,zs,⟨h1,h2,a1,⟨b1,b2,b3,⟨c1,c2,c3,c4⟩,b5⟩,a3⟩,e⟩:=hc;exact ⟨mb,zs,⟨h1,h2,a1,⟨b1,b2,b3,⟨c1,c2,big_mono (fun _ _ h=>QcI_ hl h) c3,c4⟩,b5⟩,a3⟩,e⟩
theorem Zcg_ {H H':Heap} {p:Nat} {s:CS} {L:List za_} (hl:H.le H'):Sub (qj_ H p s::L) (qj_ H' p s::L):=fun h ⟨h1,h2,hc,r⟩=>⟨h1,h2,qbg_ hl hc,r⟩
theorem QdR_ {H H':Heap} {zs:List CE} {L:List za_} (hl:H.le H'):Sub (bigL (xA H) zs::L) (bigL (xA H') zs::L):=fun h ⟨h1,h2,hc,r⟩=>⟨h1,h2,big_mono (fun _ _ h=>QcI_ hl h) hc,r⟩
theorem qz_ {H:Heap} {p mb:Nat} {s:CS} {zs:List CE} {L:List za_} (hs:s.ts=tsC zs):Sub (cRow p mb s::cMap mb zs::bigL (xA H) zs::L) (qj_ H p s::L):=
 qB_ (B:=[cRow p mb s,cMap mb zs,bigL (xA H) zs]) (Sub.refl _) fun h hb=>⟨mb,zs,hb,hs⟩
theorem ZaC_ {H H':Heap} {p mb:Nat} {s:CS} {zs:List CE} {L:List za_} (hs:s.ts=tsC zs) (hl:H.le H'):Sub (cRow p mb s::cMap mb zs::bigL (xA H) zs::L) (qj_ H' p s::L):=
 (qz_ hs).trans (Zcg_ hl)
theorem ZN_ {H H':Heap} {e:CE} {wv:Value} {hb:Nat} {L:List za_} (hs:SlB rInt 1 8 H' e.v e.x.parts) (hl:H.le H'):Sub (xRow e wv hb::zs_ H e wv::QA_ H e hb::L) (xA H' e::L):=
 (qB_ (B:=[xRow e wv hb,zs_ H e wv,QA_ H e hb]) (A:=fun h=>∃wv hb,big [xRow e wv hb,zs_ H e wv,QA_ H e hb] h) (Sub.refl _) fun h hb'=>⟨wv,hb,hb'⟩).trans fun h ⟨h1,h2,⟨wv',hb',a1,a2,r1,⟨b1,b2,b3,⟨c1,c2,c3,c4⟩,b5⟩,a3⟩,r⟩=>⟨h1,h2,⟨hs,wv',hb',a1,a2,r1,⟨b1,b2,QaQ_ hl b3,⟨c1,c2,zaQ_ hl c3,c4⟩,b5⟩,a3⟩,r⟩
theorem Qx_ {W0:World} {H:Heap} {v:Value} {xs:List Int} (h0:SlB rInt 1 8 H v xs):
  Ct Tryz.prog 31 #[v] W0 H [] (fun r H' B=>B=[ownS rInt 1 8 3 H r xs]∧H'=H):=by
 exact v29_
theorem ZbQ_ {W0:World} {H:Heap} {v:Value} {xs:List Int} {x:Int} (h0:SlR rInt 1 H v xs):
  Ct Tryz.prog 136 #[v,I x] W0 H [] (fun r H' B=>((r=I (-1)∧x∉xs)∨∃j:Nat,∃h:j<xs.length,r=I j∧xs[j]=x)∧B=[]∧H'=H):=by
 refine Ct.go (vs:=[v,I x]) fun R=>?_;obtain ⟨b0,c0,rfl,hc0,hd0⟩:=h0.shape;refine walk ?_;refine Qc_ (σ:=Nat) (fun k=>k≤xs.length∧x∉xs.take k) (fun k=>[(0,.slice b0 xs.length c0),(1,I x),(7,I xs.length),(8,I k)]) (fun _=>H) (fun _=>R) (fun k=>xs.length - k) 0 ⟨Nat.zero_le _,by simp⟩ fun k ⟨hk0,hno⟩ K hL=>?_;refine walk ?_;refine Qe_ rfl (fun hk=>?_) (fun hk=>?_)
 ·have hk1:k<xs.length:=by omega
  have ht:=List.take_succ_eq_append_getElem hk1;refine walk ?_;refine Qe_ rfl (fun hq=>?_) (fun hq=>?_)
  ·refine walk ?_;refine fin0 ?_;exact ⟨.inr ⟨k,hk1,rfl,hq.symm⟩,rfl,rfl⟩
  ·refine walk ?_;refine Zb_ hL (k+1) ⟨by omega,?_⟩;rw [ht,List.mem_append,List.mem_singleton];rintro (h | h)
   ·exact hno h
   ·exact hq h
 ·clear hL;obtain rfl:k=xs.length:=by omega
  rw [List.take_length] at hno;refine walk ?_;refine fin0 ?_;exact ⟨.inl ⟨rfl,hno⟩,rfl,rfl⟩
theorem ZG_ {W0:World} {H:Heap} {v:Value} {xs:List Int} {x:Int} (h0:SlR rInt 1 H v xs):
  Ct Tryz.prog 105 #[v,I x] W0 H [] (fun r H' B=>r= .bool (decide (x∈xs))∧B=[]∧H'=H):=by
 refine Ct.go (vs:=[v,I x]) fun R=>?_;refine walk ?_;refine Za_ rfl rfl (ZbQ_ h0) fun r1 H1 B hl1 ⟨hr,eB,eH⟩=>?_;subst eB eH;rcases hr with ⟨rfl,hno⟩ | ⟨j,hj,rfl,hx⟩
 ·refine walk ?_;refine fin0 ?_;exact ⟨by rw [decide_eq_false hno],rfl,rfl⟩
 ·have hge:(0:Int)≤(j:Int):=by omega
  refine walk ?_;refine fin0 ?_;exact ⟨by rw [decide_eq_true (hx▸List.getElem_mem hj)],rfl,rfl⟩
theorem Zac_ {W0:World} {H:Heap} {c:List Value} {m:Work} (h0:Qi_ H c m):
  Ct Tryz.prog 65 #[.agg c.toArray] W0 H [] (fun r H' B=>∃cs,r= .agg cs.toArray∧Qi_ H' cs m∧B=[]):=by
 exact v12_
end Go.Proofs.YtlflbkpmfhhikaaGreatDoor
