/- Loading: the table and the reference. No program in sight. -/
import Derived.Test.YtlflbkpmfhhikaaGreatDoorJMC
import Derived.Test.YtlflbkpmfhhikaaGreatDoorJQA
set_option linter.unusedVariables false
set_option linter.unusedSimpArgs false
namespace Go.Proofs.YtlflbkpmfhhikaaGreatDoor
open Go Go.Sx Go.Proofs
structure Rel (s:TS) (m:Table):Prop where
  h:HSpec m.Held (fun k=>mget k s.held)
  p:PSpec m.Prep (gW s)
theorem Rel.held {n:Nat} {s:TS} {m:Table} (I:Inv n s) (r:Rel s m):qx_ s=m.Held:=(zav_ I.hd).uniq r.h
theorem Rel.prep {n:Nat} {s:TS} {m:Table} (I:Inv n s) (r:Rel s m):prepL s=m.Prep:=(ZP_ I.wd).uniq r.p
theorem rel0:Rel ⟨[],[],[]⟩ ⟨[],[]⟩:=⟨⟨by simp,fun h=>by simp [mget]⟩,⟨by simp,fun q=>by simp [gW,mget]⟩⟩
theorem Rel.recs {s:TS} {m:Table} (r:Rel s m) {q:Rec} (hq:q∈m.Prep):gW s q.Txn.k=some q.Work:=by
 obtain ⟨w,h1,h2⟩:=(r.p.mem q).1 hq;have:w=q.Work:=by rw [h2];rfl
 rw [←this];exact h1
theorem Rel.lock {n:Nat} {s:TS} {m:Table} (I:Inv n s) (r:Rel s m) (k:ByteArray):(Qak_ m.Prep k).map (·.Txn)=mget k s.locked:=by
 cases hf:Qak_ m.Prep k with
 | some q=>
  have h1:=List.find?_some hf;have h2:=List.mem_of_find?_eq_some hf;simp only [decide_eq_true_eq] at h1;exact ((I.lk k q.Txn).2 ⟨_,r.recs h2,h1⟩).symm
 | none=>
  cases hm:mget k s.locked with
  | none=>rfl
  | some x=>
   obtain ⟨w,hg,hk⟩:=(I.lk k x).1 hm;unfold Qak_ at hf;rw [List.find?_eq_none] at hf;exact absurd (decide_eq_true (p:=k∈(recW x w).Work.ks) hk) (hf (recW x w) ((r.p.mem _).2 ⟨w,hg,rfl⟩))
theorem Rel.lockN {n:Nat} {s:TS} {m:Table} (I:Inv n s) (r:Rel s m) (k:ByteArray):Qak_ m.Prep k=none↔mget k s.locked=none:=by
 rw [←r.lock I k];simp
theorem Rel.heldN {s:TS} {m:Table} (r:Rel s m) (k:ByteArray):QI_ m.Held k=none↔mget k s.held=none:=by
 rw [r.h.find k];simp
theorem Rel.way {n:Nat} {s:TS} {m:Table} (I:Inv n s) (r:Rel s m) (w:Work):WayR m w↔wayT s w 0 w.ks=true:=by
 rw [qaU_];unfold WayR;constructor
 ·intro h j hj;obtain ⟨h1,h2⟩:=h j hj;refine ⟨(r.lockN I _).1 h1,?_⟩;rcases h2 with h2 | h2
  ·exact .inl (by omega)
  ·exact .inr ((r.heldN _).1 h2)
 ·intro h j hj;obtain ⟨h1,h2⟩:=h j hj;refine ⟨(r.lockN I _).2 h1,?_⟩;rcases h2 with h2 | h2
  ·exact .inl (by omega)
  ·exact .inr ((r.heldN _).2 h2)
theorem ZbD_ {s:TS} {k:K3}:(mget k s.works).isSome=true↔gW s k≠none:=by
 unfold gW;cases mget k s.works<;>simp
theorem Rel.atN {s:TS} {m:Table} (r:Rel s m) {x:Txn} (h:∀q∈m.Prep,q.Txn≠x):¬(mget x.k s.works).isSome=true:=by
 rw [ZbD_,r.p.none h];simp
theorem Rel.atS {s:TS} {m:Table} (r:Rel s m) {q:Rec} (h:q∈m.Prep):(mget q.Txn.k s.works).isSome=true:=by
 rw [ZbD_,r.recs h];simp
theorem v97_ {P:Prop} (h:P:=by
 rw [hE];exact ⟨rfl,fun cs=>by rw [if_neg (by decide)];exact r⟩):P:=h
theorem Rel.prepare {n:Nat} {s:TS} {m m':Table} {x:Txn} {w:Work} {e:Int} (I:Inv n s) (r:Rel s m) (h:RPrep m x w m' e):
  e=QE_ s x w∧∀cs,Rel (if QE_ s x w=0 then zU_ s x w cs else s) m':=by
 cases h with
 | twice h=>
  obtain ⟨q,hq,rfl⟩:=h;have hE:QE_ s q.Txn w=2:=if_pos (r.atS hq);exact v97_
 | range h0 h=>
  have hE:QE_ s x w=1:=(if_neg (r.atN h0)).trans (if_pos (Qac_.2 h));exact v97_
 | way h0 h1 h2=>
  have hE:QE_ s x w=140:=(if_neg (r.atN h0)).trans ((if_neg fun h=>Qac_.1 h h1).trans (if_neg fun h=>h2 ((r.way I w).2 h)));exact v97_
 | ok h0 h1 h2 i hi h3 h4=>
  have hE:QE_ s x w=0:=(if_neg (r.atN h0)).trans ((if_neg fun h=>Qac_.1 h h1).trans (if_pos ((r.way I w).1 h2)));rw [hE];refine ⟨rfl,fun cs=>?_⟩;rw [if_pos rfl];exact ⟨r.h,(r.p.ins (r.p.none h0) hi h3 h4).congr fun k=>(zax_ k).symm⟩
theorem Rel.apply {n:Nat} {s:TS} {m m':Table} {x:Txn} {yes:Bool} {e:Int} (I:Inv n s) (r:Rel s m) (h:RApply m x yes m' e):e=zaE_ s x∧Rel (Qx_ s x yes) m':=by
 rw [ZbR_]
 cases h with
 | none h=>
  refine ⟨?_,?_⟩
  ·unfold zaE_;rw [if_neg (r.atN h)]
  ·rw [r.p.none h];exact r
 | ok j hj hx=>
  have hg:=r.recs (List.getElem_mem hj);have hs:=r.atS (List.getElem_mem hj);have hera:=r.p.era hj hx;rw [hx] at hg hs;refine ⟨by unfold zaE_;rw [if_pos hs],?_⟩;rw [hg];dsimp only;generalize m.Prep[j].Work=w at hg⊢;refine ⟨?_,hera.congr fun k=>(zaU_ I.wd k).symm⟩
  cases yes with
  | false=>exact r.h
  | true=>
   obtain ⟨d1,d2⟩:=qaK_ (r:=w.Robot) (ks:=w.Drop) r.h I.hd;exact (qbs_ (r:=w.Robot) (ks:=w.Take) d1 d2).1
abbrev RD:=Convoyref15Done
structure DSpec (l:List RD) (f:K3→Option Int):Prop where
  rise:l.Pairwise fun a b=>ltK a.Txn.k b.Txn.k
  mem:∀d,d∈l↔f d.Txn.k=some d.Until
theorem DSpec.uniq {l l':List RD} {f:K3→Option Int} (h:DSpec l f) (h':DSpec l' f):l=l':=
 Qbb_ (lt:=fun a b:RD=>ltK a.Txn.k b.Txn.k) (fun _=>QC_) (fun _ _=>qch_) h.rise h'.rise fun a=>by rw [h.mem,h'.mem]
theorem DSpec.congr {l:List RD} {f g:K3→Option Int} (h:DSpec l f) (e:∀k,f k=g k):DSpec l g:=by
 obtain rfl:f=g:=funext e;exact h
def toR (d:PartDone):RD:=⟨d.Txn,d.Until⟩
theorem qap_ {s:PS} (hn:(s.done.map (·.1)).Nodup):DSpec ((qaR_ s).map toR) (fun k=>mget k s.done):=by
 unfold qaR_;rw [List.map_map];refine ⟨?_,fun d=>?_⟩
 ·rw [List.pairwise_map];exact (qZ_ hn).imp fun h=>h
 ·rw [List.mem_map];constructor
  ·rintro ⟨k,hk,rfl⟩;obtain ⟨v,hv⟩:=zG_.1 (QM_.1 hk);show mget (toTx k).k s.done=some ((mget k s.done).getD 0);rw [QD_,hv];rfl
  ·intro hg;refine ⟨d.Txn.k,QM_.2 (zG_.2 ⟨_,hg⟩),?_⟩;show toR (ZR_ s d.Txn.k)=d;simp only [ZR_,toR,hg,Option.getD_some,qbO_]
theorem DSpec.some {l:List RD} {f:K3→Option Int} (h:DSpec l f) {d:RD} (hd:d∈l):f d.Txn.k=some d.Until:=(h.mem d).1 hd
def putL (d:RD):List RD→List RD
  | []=>[d]
  | a::l=>if ltK a.Txn.k d.Txn.k then a::putL d l else d::a::l
theorem zbz_ {d e:RD}:∀{l:List RD},e∈putL d l↔e=d∨e∈l
 | []=>by simp [putL]
 | a::l=>by
  unfold putL;split
  ·rw [List.mem_cons,zbz_,List.mem_cons];constructor
   ·rintro (h | h | h)
    ·exact .inr (.inl h)
    ·exact .inl h
    ·exact .inr (.inr h)
   ·rintro (h | h | h)
    ·exact .inr (.inl h)
    ·exact .inl h
    ·exact .inr (.inr h)
  ·simp
theorem qbM_ {d:RD}:∀{l:List RD},l.Pairwise (fun a b=>ltK a.Txn.k b.Txn.k)→(∀a∈l,a.Txn.k≠d.Txn.k)→(putL d l).Pairwise fun a b=>ltK a.Txn.k b.Txn.k
 | [],_,_=>by simp [putL]
 | a::l,hr,hn=>by
  rw [List.pairwise_cons] at hr;unfold putL;split
  ·next h=>
   rw [List.pairwise_cons];refine ⟨fun b hb=>?_,qbM_ hr.2 fun b hb=>hn b (List.mem_cons_of_mem _ hb)⟩;rcases zbz_.1 hb with rfl | hb
   ·exact h
   ·exact hr.1 b hb
  ·next h=>
   have h0:ltK d.Txn.k a.Txn.k:=Classical.byContradiction fun hc=>hn a (List.mem_cons_self ..) (Qai_ h hc);rw [List.pairwise_cons,List.pairwise_cons];refine ⟨fun b hb=>?_,hr⟩;rcases List.mem_cons.1 hb with rfl | hb
   ·exact h0
   ·exact Zbb_ h0 (hr.1 b hb)
theorem DSpec.put {l:List RD} {f:K3→Option Int} (h:DSpec l f) {d:RD} (hd:f d.Txn.k=Option.none):DSpec (putL d l) (fun k=>if k=d.Txn.k then Option.some d.Until else f k):=by
 have hne:∀a∈l,a.Txn.k≠d.Txn.k:=fun a ha e=>by
  have:=h.some ha;rw [e,hd] at this;cases this
 refine ⟨qbM_ h.rise hne,fun e=>?_⟩;rw [zbz_,h.mem];by_cases he:e.Txn.k=d.Txn.k
 ·simp only [he,if_true,Option.some.injEq];constructor
  ·rintro (rfl | hf)
   ·rfl
   ·rw [hd] at hf;cases hf
  ·intro hu;left;obtain ⟨et,eu⟩:=e;obtain ⟨dt,du⟩:=d;have:=qbc_ he;simp only at this hu;rw [this,hu]
 ·simp only [he,if_false];constructor
  ·rintro (rfl | hf)
   ·exact absurd rfl he
   ·exact hf
  ·exact .inr
structure PRel (s:PS) (m:Part):Prop where
  sh:m.Shard=s.sh
  r:Rel s.t m.T
  d:DSpec m.Done (fun k=>mget k s.done)
theorem qex_ {sh:Int}:PRel ⟨sh,⟨[],[],[]⟩,[]⟩ ⟨sh,⟨[],[]⟩,[]⟩:=⟨rfl,rel0,⟨by simp,fun d=>by simp [mget]⟩⟩
theorem PRel.dones {n:Nat} {s:PS} {m:Part} (I:PInv n s) (r:PRel s m):(qaR_ s).map toR=m.Done:=(qap_ I.dd).uniq r.d
def forR (m:Part) (g:Message):Prop:=g.To=m.Shard∧g.From=g.Txn.Node
def ZaD_ (m:Part) (g:Message) (y:Bool):Message:={Zk_ with From:=m.Shard,To:=g.From,Kind:=2,Txn:=g.Txn,Yes:=y}
def ackR (m:Part) (g:Message):Message:={Zk_ with From:=m.Shard,To:=g.From,Kind:=4,Txn:=g.Txn}
def zbM_ (m:Part) (x:Txn):Prop:=∃q∈m.T.Prep,q.Txn=x
def Zbm_ (m:Part) (x:Txn):Prop:=∃d∈m.Done,d.Txn=x
inductive RHear (m:Part) (g:Message):Part→List Message→List Rec→Prop
  | off (h:¬forR m g):RHear m g m [] []
  | done (h:forR m g) (k:g.Kind=1) (hd:Zbm_ m g.Txn):RHear m g m [] []
  | again (h:forR m g) (k:g.Kind=1) (hd:¬Zbm_ m g.Txn) (hp:zbM_ m g.Txn):RHear m g m [ZaD_ m g true] []
  | no (h:forR m g) (k:g.Kind=1) (hd:¬Zbm_ m g.Txn) (hp:¬zbM_ m g.Txn) (t':Table) (e:Int) (hr:RPrep m.T g.Txn g.Work t' e) (he:e≠0):RHear m g ⟨m.Shard,t',m.Done⟩ [ZaD_ m g false] []
  | yes (h:forR m g) (k:g.Kind=1) (hd:¬Zbm_ m g.Txn) (hp:¬zbM_ m g.Txn) (t':Table) (hr:RPrep m.T g.Txn g.Work t' 0):RHear m g ⟨m.Shard,t',m.Done⟩ [ZaD_ m g true] [recP g]
  | ack (h:forR m g) (k:g.Kind=3) (t':Table) (e:Int) (D:List RD) (hr:RApply m.T g.Txn g.Yes t' e)
      (hD:(∃q∈m.T.Prep,q.Txn=g.Txn∧g.Yes=true∧D=putL ⟨g.Txn,zD_ 0 q.Work.ks⟩ m.Done)∨((zbM_ m g.Txn→g.Yes=false)∧D=m.Done)):RHear m g ⟨m.Shard,t',D⟩ [ackR m g] (if e=0 then [recA g] else [])
  | other (h:forR m g) (k1:g.Kind≠1) (k3:g.Kind≠3):RHear m g m [] []
theorem PRel.forMe {s:PS} {m:Part} (r:PRel s m) {g:Message}:forMe s g↔forR m g:=by unfold forR Go.Proofs.YtlflbkpmfhhikaaGreatDoor.forMe;rw [r.sh]
theorem PRel.vote {s:PS} {m:Part} (r:PRel s m) {g:Message} {y:Bool}:ZaD_ m g y=qai_ s g y:=by unfold ZaD_ qai_;rw [r.sh]
theorem PRel.ackE {s:PS} {m:Part} (r:PRel s m) {g:Message}:ackR m g=ackM s g:=by unfold ackR ackM;rw [r.sh]
theorem PRel.isD {s:PS} {m:Part} (r:PRel s m) {x:Txn}:isD s x↔Zbm_ m x:=by
 unfold Go.Proofs.YtlflbkpmfhhikaaGreatDoor.isD Zbm_;constructor
 ·intro h
  cases hg:mget x.k s.done with
  | none=>rw [hg] at h;cases h
  | some v=>exact ⟨⟨x,v⟩,(r.d.mem _).2 hg,rfl⟩
 ·rintro ⟨d,hd,rfl⟩;rw [r.d.some hd];rfl
theorem PRel.isP {s:PS} {m:Part} (r:PRel s m) {x:Txn}:isP s x↔zbM_ m x:=by
 unfold zbM_;constructor
 ·intro h;refine Classical.byContradiction fun hc=>?_;have hn:∀q∈m.T.Prep,q.Txn≠x:=fun q hq e=>hc ⟨q,hq,e⟩;exact r.r.atN hn h
 ·rintro ⟨q,hq,rfl⟩;exact r.r.atS hq
theorem PRel.hear {n:Nat} {s:PS} {m m':Part} {g:Message} {out:List Message} {rec:List Rec} (I:PInv n s) (r:PRel s m) (h:RHear m g m' out rec):
  out=Qk_ s g∧rec=Qh_ s g∧∀cs,PRel (Qm_ s g cs) m':=by
 unfold Qk_ Qh_ Qm_
 cases h with
 | off h=>
  have hf:¬Go.Proofs.YtlflbkpmfhhikaaGreatDoor.forMe s g:=fun hh=>h (r.forMe.1 hh);refine ⟨by rw [if_pos hf],by rw [if_pos hf],fun cs=>by rw [if_pos hf];exact r⟩
 | done h k hd=>
  have hf:¬¬Go.Proofs.YtlflbkpmfhhikaaGreatDoor.forMe s g:=fun hh=>hh (r.forMe.2 h);have h1:=r.isD.2 hd;refine ⟨by rw [if_neg hf,if_pos k,if_pos h1],by rw [if_neg hf,if_pos k,if_pos h1],fun cs=>by rw [if_neg hf,if_pos k,if_pos h1];exact r⟩
 | again h k hd hp=>
  have hf:¬¬Go.Proofs.YtlflbkpmfhhikaaGreatDoor.forMe s g:=fun hh=>hh (r.forMe.2 h);have h1:¬Go.Proofs.YtlflbkpmfhhikaaGreatDoor.isD s g.Txn:=fun hh=>hd (r.isD.1 hh);have h2:=r.isP.2 hp;refine ⟨by rw [if_neg hf,if_pos k,if_neg h1,decide_eq_true (p:=_∨_) (.inl h2),r.vote],by rw [if_neg hf,if_pos k,if_neg h1,if_pos h2],fun cs=>by rw [if_neg hf,if_pos k,if_neg h1,if_pos h2];exact r⟩
 | no h k hd hp t' e hr he=>
  have hf:¬¬Go.Proofs.YtlflbkpmfhhikaaGreatDoor.forMe s g:=fun hh=>hh (r.forMe.2 h);have h1:¬Go.Proofs.YtlflbkpmfhhikaaGreatDoor.isD s g.Txn:=fun hh=>hd (r.isD.1 hh);have h2:¬Go.Proofs.YtlflbkpmfhhikaaGreatDoor.isP s g.Txn:=fun hh=>hp (r.isP.1 hh);obtain ⟨e1,hrel⟩:=r.r.prepare I.t hr;subst e1;have hrel:=hrel [];rw [if_neg he] at hrel;refine ⟨by rw [if_neg hf,if_pos k,if_neg h1,decide_eq_false (p:=_∨_) (fun hh=>hh.elim h2 he),r.vote],by rw [if_neg hf,if_pos k,if_neg h1,if_neg h2,if_neg he],fun cs=>by rw [if_neg hf,if_pos k,if_neg h1,if_neg h2,if_neg he];exact ⟨r.sh,hrel,r.d⟩⟩
 | yes h k hd hp t' hr=>
  have hf:¬¬Go.Proofs.YtlflbkpmfhhikaaGreatDoor.forMe s g:=fun hh=>hh (r.forMe.2 h);have h1:¬Go.Proofs.YtlflbkpmfhhikaaGreatDoor.isD s g.Txn:=fun hh=>hd (r.isD.1 hh);have h2:¬Go.Proofs.YtlflbkpmfhhikaaGreatDoor.isP s g.Txn:=fun hh=>hp (r.isP.1 hh);obtain ⟨e1,hrel⟩:=r.r.prepare I.t hr;have he:=e1.symm;refine ⟨by rw [if_neg hf,if_pos k,if_neg h1,decide_eq_true (p:=_∨_) (.inr he),r.vote],by rw [if_neg hf,if_pos k,if_neg h1,if_neg h2,if_pos he],fun cs=>?_⟩;rw [if_neg hf,if_pos k,if_neg h1,if_neg h2,if_pos he];have:=hrel cs;rw [if_pos he] at this;exact ⟨r.sh,this,r.d⟩
 | ack h k t' e D hr hD=>
  have hf:¬¬Go.Proofs.YtlflbkpmfhhikaaGreatDoor.forMe s g:=fun hh=>hh (r.forMe.2 h);have k1:¬g.Kind=1:=by omega
  obtain ⟨e1,hrel⟩:=r.r.apply I.t hr;have hap:zaE_ s.t g.Txn=if Go.Proofs.YtlflbkpmfhhikaaGreatDoor.isP s g.Txn then 0 else 4:=rfl
  rw [hap] at e1;by_cases h2:Go.Proofs.YtlflbkpmfhhikaaGreatDoor.isP s g.Txn
  ·rw [if_pos h2] at e1;subst e1;refine ⟨by rw [if_neg hf,if_neg k1,if_pos k,r.ackE],by rw [if_neg hf,if_neg k1,if_pos k,if_pos h2,if_pos rfl],fun cs=>?_⟩;rw [if_neg hf,if_neg k1,if_pos k,if_pos h2];refine ⟨r.sh,hrel,?_⟩;rcases hD with ⟨q,hq,hqx,hy,rfl⟩ | ⟨hy,rfl⟩
   ·obtain ⟨w,hw⟩:=Zah_.1 h2;have hg:=r.r.recs hq;rw [hqx,hw] at hg
    cases hg
    have hno:mget g.Txn.k s.done=none:=by
     cases hd:mget g.Txn.k s.done with
     | none=>rfl
     | some v=>have:=I.ap _ _ hd;rw [hw] at this;cases this
    have hu:Zy_ s g.Txn=zD_ 0 q.Work.ks:=by
     unfold Zy_;rw [if_pos h2];unfold gW at hw
     cases hm:mget g.Txn.k s.t.works with
     | none=>rw [hm] at hw;cases hw
     | some v=>rw [hm] at hw;have hv:v.2=q.Work:=(by simpa using hw);show zD_ 0 v.2.ks=_;rw [hv]
    rw [if_pos hy];refine (r.d.put (d:=⟨g.Txn,zD_ 0 q.Work.ks⟩) hno).congr fun k=>?_;rw [Qe_,hu]
   ·have hy':=hy (r.isP.1 h2);rw [if_neg (by rw [hy'];decide)];exact r.d
  ·rw [if_neg h2] at e1;subst e1;refine ⟨by rw [if_neg hf,if_neg k1,if_pos k,r.ackE],by rw [if_neg hf,if_neg k1,if_pos k,if_neg h2];rfl,fun cs=>?_⟩;rw [if_neg hf,if_neg k1,if_pos k,if_neg h2];have hat:Qx_ s.t g.Txn g.Yes=s.t:=if_neg h2;rw [hat] at hrel;refine ⟨r.sh,hrel,?_⟩;rcases hD with ⟨q,hq,hqx,hy,rfl⟩ | ⟨hy,rfl⟩
   ·exact absurd (r.isP.2 ⟨q,hq,hqx⟩) h2
   ·exact r.d
 | other h k1 k3=>
  have hf:¬¬Go.Proofs.YtlflbkpmfhhikaaGreatDoor.forMe s g:=fun hh=>hh (r.forMe.2 h);refine ⟨by rw [if_neg hf,if_neg k1,if_neg k3],by rw [if_neg hf,if_neg k1,if_neg k3],fun cs=>by rw [if_neg hf,if_neg k1,if_neg k3];exact r⟩
theorem PRel.asks {n:Nat} {s:PS} {m:Part} (I:PInv n s) (r:PRel s m):(prepL s.t).map (fun q=>askM s q.Txn)=m.T.Prep.map fun q=>{Zk_ with From:=m.Shard,To:=q.Txn.Node,Kind:=5,Txn:=q.Txn}:=by
 rw [r.r.prep I.t,r.sh];rfl
theorem v94_ {P:Prop} (h:P:=by
 refine fin0 ?_;exact ⟨rfl,rfl⟩):P:=h
end Go.Proofs.YtlflbkpmfhhikaaGreatDoor
namespace Go.Proofs.YtlflbkpmfhhikaaGreatDoor
open Go Go.Sx Go.Proofs
end Go.Proofs.YtlflbkpmfhhikaaGreatDoor
namespace Go.Proofs.YtlflbkpmfhhikaaGreatDoor
open Go Go.Sx Go.Proofs
theorem ZdM_ {e:Int}:QbE_ e≤3:=by
 unfold QbE_;by_cases h1:e=2
 ·rw [if_pos h1];omega
 ·rw [if_neg h1];by_cases h2:e=1
  ·rw [if_pos h2];omega
  ·rw [if_neg h2];by_cases h3:e=140
   ·rw [if_pos h3];omega
   ·rw [if_neg h3];omega
theorem Zed_ {e:Int}:QbE_ e=3↔e=2:=by
 unfold QbE_;by_cases h1:e=2
 ·rw [if_pos h1];exact ⟨fun _=>h1,fun _=>rfl⟩
 ·rw [if_neg h1];refine ⟨fun h=>?_,fun h=>absurd h h1⟩;by_cases h2:e=1
  ·rw [if_pos h2] at h;omega
  ·rw [if_neg h2] at h;by_cases h3:e=140
   ·rw [if_pos h3] at h;omega
   ·rw [if_neg h3] at h;omega
theorem qee_ {a:Int}:Qbo_ a 2=2:=by
 unfold Qbo_;split
 ·rfl
 ·next h=>
  have h1:QbE_ 2=3:=rfl;have:=ZdM_ (e:=a);exact Zed_.1 (by omega)
theorem zbS_:∀{l:List Hold} {m:List (ByteArray×Int)} {a:Int},(ZM_ m a l).2=if (l.map (·.Key)).Nodup∧∀k∈l.map (·.Key),mget k m=none then a else 2
 | [],m,a=>by simp [ZM_]
 | h::l,m,a=>by
  rw [ZM_,zbS_];rw [qee_];have hm:∀k,mget k (mset h.Key h.Robot m)=if k=h.Key then some h.Robot else mget k m:=fun k=>Qe_ h.Key k h.Robot m
  by_cases hin:(mget h.Key m).isSome=true
  ·have hne:mget h.Key m≠none:=by intro e;rw [e] at hin;cases hin
   have hno:¬((((h::l).map (·.Key)).Nodup)∧∀k∈(h::l).map (·.Key),mget k m=none):=fun hh=>hne (hh.2 h.Key (by simp));rw [if_neg hno,if_pos hin];split<;>rfl
  ·have hnone:mget h.Key m=none:=by cases hg:mget h.Key m with | none=>rfl | some v=>rw [hg] at hin;exact absurd rfl hin
   rw [if_neg hin]
   have hiff:((l.map (·.Key)).Nodup∧∀k∈l.map (·.Key),mget k (mset h.Key h.Robot m)=none)↔(((h::l).map (·.Key)).Nodup∧∀k∈(h::l).map (·.Key),mget k m=none):=by
    simp only [List.map_cons,List.nodup_cons,List.mem_cons];constructor
    ·rintro ⟨h1,h2⟩;refine ⟨⟨fun hk=>?_,h1⟩,?_⟩
     ·have:=h2 _ hk;rw [hm,if_pos rfl] at this;cases this
     ·rintro k (rfl | hk)
      ·exact hnone
      ·have:=h2 k hk;rw [hm] at this;split at this
       ·cases this
       ·exact this
    ·rintro ⟨⟨h1,h2⟩,h3⟩;refine ⟨h2,fun k hk=>?_⟩;rw [hm,if_neg (fun e=>h1 (by rw [←e];exact hk))];exact h3 k (.inr hk)
   by_cases hq:(l.map (·.Key)).Nodup∧∀k∈l.map (·.Key),mget k (mset h.Key h.Robot m)=none
   ·rw [if_pos hq,if_pos (hiff.1 hq)]
   ·rw [if_neg hq,if_neg fun h=>hq (hiff.2 h)]
theorem Qbt_:∀{l acc:List Hold} {m:List (ByteArray×Int)} {a:Int},HSpec acc (fun k=>mget k m)→(m.map (·.1)).Nodup→HSpec (l.foldl (fun acc h=>zI_ h.Key h.Robot false acc) acc) (fun k=>mget k (ZM_ m a l).1)∧((ZM_ m a l).1.map (·.1)).Nodup∧(ZM_ m a l).1.length≤m.length+l.length
 | [],acc,m,a,h,hn=>⟨h,hn,by simp [ZM_]⟩
 | x::l,acc,m,a,h,hn=>by
  rw [List.foldl_cons,ZM_];obtain ⟨h1,h2,h3⟩:=Qbt_ (l:=l) (acc:=zI_ x.Key x.Robot false acc) (m:=mset x.Key x.Robot m) (a:=if (mget x.Key m).isSome=true then Qbo_ a 2 else a) ((h.hold x.Key x.Robot false).congr fun k'=>by rw [Qe_ x.Key k'];by_cases e:k'=x.Key<;>simp [e]) (qj_ hn);refine ⟨h1,h2,?_⟩;have h4:(mset x.Key x.Robot m).length≤m.length+1:=by rw [ZF_];split<;>omega
  simp only [List.length_cons];omega
theorem QbS_:∀{l:List Hold} {m:List (ByteArray×Int)} {a:Int} {k:ByteArray} {r:Int},(l.map (·.Key)).Nodup→(mget k (ZM_ m a l).1=some r↔(⟨k,r⟩:Hold)∈l∨(k∉l.map (·.Key)∧mget k m=some r))
 | [],m,a,k,r,_=>by simp [ZM_]
 | x::l,m,a,k,r,hn=>by
  rw [List.map_cons,List.nodup_cons] at hn;rw [ZM_,QbS_ hn.2,Qe_ x.Key k];obtain ⟨xk,xr⟩:=x;simp only [List.map_cons,List.mem_cons,Hold.mk.injEq];by_cases e:k=xk
  ·subst e;have hk:=hn.1;simp only at hk;have hx:(⟨k,r⟩:Hold)∉l:=fun hh=>hk (List.mem_map.2 ⟨_,hh,rfl⟩);simp [hk,hx,eq_comm]
  ·simp [e]
def okP (q:Rec):Prop:=OkW q.Work∧okX q.Txn.k
theorem Zdo_ {holds:List Hold} {n:Nat} (hk:∀h∈holds,h.Key.size≤Qb_∧fits h.Robot) (hl:holds.length≤40*n):Inv n (zaf_ holds):=by
 obtain ⟨h1,h2,h3⟩:=Qbt_ (l:=holds) (acc:=[]) (m:=[]) (a:=0) ⟨by simp,fun h=>by simp [mget]⟩ (by simp);refine ⟨h2,by simp [zaf_],by simp [zaf_],fun k r hm=>?_,?_,by simp [zaf_],fun x w h=>?_,fun k x=>⟨fun h=>?_,fun ⟨w,h,_⟩=>?_⟩,fun x w h=>?_⟩
 ·have:∀{l:List Hold} {m:List (ByteArray×Int)} {a:Int},(∀h∈l,h.Key.size≤Qb_∧fits h.Robot)→(∀k r,mget k m=some r→k.size≤Qb_∧fits r)→∀k r,mget k (ZM_ m a l).1=some r→k.size≤Qb_∧fits r:=by
   intro l
   induction l with
   | nil=>intro m a _ h k r hk;exact h k r hk
   | cons x l ih=>
    intro m a hx hm k r hk;rw [ZM_] at hk;refine ih (fun h hh=>hx h (by simp [hh])) (fun k' r' h'=>?_) k r hk;rw [Qe_ x.Key k'] at h';split at h'
    ·next e=>cases h';subst e;exact hx x (by simp)
    ·exact hm k' r' h'
  exact this hk (fun k r h=>by cases h) k r hm
 ·show (ZM_ [] 0 holds).1.length≤_;simp only [List.length_nil] at h3;omega
 ·simp [gW,zaf_,mget] at h
 ·simp [zaf_,mget] at h
 ·simp [gW,zaf_,mget] at h
 ·simp [gW,zaf_,mget] at h
theorem zcP_ {s:TS} {x:Txn} {w:Work} (h:gW s x.k=none):QE_ s x w=if dupT w.ks then 1 else if wayT s w 0 w.ks=true then 0 else 140:=by
 have:¬(mget x.k s.works).isSome=true:=by rw [ZbD_,h];simp
 exact if_neg this
theorem qdp_ {s:TS} {q:Rec} {l:List Rec} {cs:List Value} (hnd:((q::l).map (·.Txn.k)).Nodup) (h:∀r∈q::l,gW s r.Txn.k=none):∀r∈l,gW (if QE_ s q.Txn q.Work=0 then zU_ s q.Txn q.Work cs else s) r.Txn.k=none:=fun r hr=>by
 rw [List.map_cons,List.nodup_cons] at hnd;split
 ·rw [zax_,if_neg fun e=>hnd.1 (List.mem_map.2 ⟨r,hr,e⟩)];exact h r (by simp [hr])
 ·exact h r (by simp [hr])
theorem zdp_ {s s':TS} {l:List Rec} {a a':Int} (h:LoadP s a l s' a'):∀{n:Nat},a=0→Inv n s→(l.map (·.Txn.k)).Nodup→(∀q∈l,gW s q.Txn.k=none)→(∀q∈l,okP q∧q.Work.ks.Nodup)→(∀q∈l,∀k∈q.Work.ks,mget k s.locked=none)→(∀q∈l,∀k∈q.Work.Take,mget k s.held=none)→(l.Pairwise fun q r=>∀k∈q.Work.ks,k∉r.Work.ks)→
  a'=0∧Inv (n+l.length) s'∧s'.held=s.held∧(∀q∈l,gW s' q.Txn.k=some q.Work)∧∀k,(∀q∈l,q.Txn.k≠k)→gW s' k=gW s k:=by
 induction h with
 | nil=>intro n ha I _ _ _ _ _ _;exact ⟨ha,I,rfl,fun q hq=>(by cases hq),fun k _=>rfl⟩
 | @cons s s' a a' r l cs h ih=>
  intro n ha I hnd hno hok hlk htk hdj;subst ha;have hst:=qdp_ (cs:=cs) hnd hno;have hE:=zcP_ (w:=r.Work) (hno r (by simp));have hnd':=hnd;rw [List.map_cons,List.nodup_cons] at hnd';rw [List.pairwise_cons] at hdj
  have hway:wayT s r.Work 0 r.Work.ks=true:=by
   rw [qaU_];intro j hj;refine ⟨hlk r (by simp) _ (List.getElem_mem hj),?_⟩;by_cases hh:r.Work.Take.length≤0+j
   ·exact .inl hh
   ·right;have e:r.Work.ks[j]=r.Work.Take[j]'(by omega):=by simp only [Work.ks];rw [List.getElem_append_left (by omega)]
    rw [e];exact htk r (by simp) _ (List.getElem_mem _)
  rw [if_neg fun h=>Qac_.1 h (hok r (by simp)).2,if_pos hway] at hE;rw [hE,if_pos rfl] at h ih hst;have hl:=fun k=>Zaw_ (x:=r.Txn) (k:=k) (ks:=r.Work.ks) I.ld
  obtain ⟨g1,g2,g3,g4,g5⟩:=ih (n:=n+1) (by decide) (I.prep (hok r (by simp)).1.1 (hok r (by simp)).1.2 hE) hnd'.2 hst (fun q hq=>hok q (by simp [hq])) (fun q hq k hk=>by
   show mget k (QG_ r.Txn r.Work.ks s.locked)=none;rw [(hl k).1,if_neg fun hk'=>hdj.1 q hq k hk' hk];exact hlk q (by simp [hq]) k hk) (fun q hq k hk=>htk q (by simp [hq]) k hk) hdj.2
  refine ⟨g1,by rw [List.length_cons,show n+(l.length+1)=n+1+l.length by omega];exact g2,g3,fun q hq=>?_,fun k hk=>?_⟩
  ·rcases List.mem_cons.1 hq with rfl | hq
   ·rw [g5 q.Txn.k fun r hr e=>hnd'.1 (List.mem_map.2 ⟨r,hr,e⟩),zax_,if_pos rfl]
   ·exact g4 q hq
  ·rw [g5 k fun q hq=>hk q (by simp [hq]),zax_,if_neg fun e=>hk r (by simp) e.symm]
theorem ZcE_ {n:Nat} {s s':TS} {m:Table} {a':Int} (I:Inv n s) (r:Rel s m) (hP:LoadP (zaf_ (qx_ s)) (ZM_ [] 0 (qx_ s)).2 (prepL s) s' a'):qcm_ a' (prepL s)=0∧Inv n s'∧Rel s' m:=by
 have hs:=zav_ I.hd;have hp:=ZP_ I.wd
 have hkn:((qx_ s).map (·.Key)).Nodup:=by
  rw [List.nodup_iff_pairwise_ne,List.pairwise_map];exact hs.rise.imp fun h=>Qeo_ h
 have hxn:((prepL s).map (·.Txn.k)).Nodup:=by
  rw [List.nodup_iff_pairwise_ne,List.pairwise_map];exact hp.rise.imp fun h e=>by rw [e] at h;exact QC_ h
 have herr:=zbS_ (l:=qx_ s) (m:=[]) (a:=0);rw [if_pos ⟨hkn,fun k _=>rfl⟩] at herr;rw [herr] at hP
 have hget:∀k,mget k (zaf_ (qx_ s)).held=mget k s.held:=fun k=>by
  have h1:=fun r=>QbS_ (l:=qx_ s) (m:=[]) (a:=0) (k:=k) (r:=r) hkn;have h2:=fun r=>hs.mem ⟨k,r⟩;show mget k (ZM_ [] 0 (qx_ s)).1=_
  cases hg:mget k (ZM_ [] 0 (qx_ s)).1 with
  | some v=>
   rcases (h1 v).1 hg with h3 | ⟨_,h3⟩
   ·exact ((h2 v).1 h3).symm
   ·cases h3
  | none=>
   cases hh:mget k s.held with
   | none=>rfl
   | some v=>have:=(h1 v).2 (.inl ((h2 v).2 hh));rw [hg] at this;cases this
 have hlen:(qx_ s).length=s.held.length:=by simp [qx_,QaE_]
 have hI0:Inv n (zaf_ (qx_ s)):=Zdo_ (fun h hh=>I.hk _ _ ((hs.mem h).1 hh)) (by rw [hlen];exact I.hn)
 obtain ⟨g1,g2,g3,g4,g5⟩:=zdp_ hP rfl hI0 hxn (fun q _=>by simp [gW,zaf_,mget]) (fun q hq=>by
   obtain ⟨⟨k1,k2⟩,k3⟩:=I.ww _ _ (I.recs hq);exact ⟨⟨k1,k3⟩,k2⟩) (fun q hq k hk=>rfl) (fun q hq k hk=>by rw [hget];exact I.tk _ _ (I.recs hq) k hk) (by
   refine List.Pairwise.imp_of_mem (fun {a b} ha hb hab k hk1 hk2=>?_) hp.rise;have e1:=(I.lk k a.Txn).2 ⟨_,I.recs ha,hk1⟩;have e2:=(I.lk k b.Txn).2 ⟨_,I.recs hb,hk2⟩;have e3:a.Txn=b.Txn:=Option.some.inj (e1.symm.trans e2);rw [e3] at hab;exact QC_ hab)
 have hgW:∀k,gW s' k=gW s k:=fun k=>by
  by_cases hk:∃q∈prepL s,q.Txn.k=k
  ·obtain ⟨q,hq,rfl⟩:=hk;rw [g4 q hq,I.recs hq]
  ·have hk':∀q∈prepL s,q.Txn.k≠k:=fun q hq e=>hk ⟨q,hq,e⟩;rw [g5 k hk']
   have hnone:gW s k=none:=by
    cases hg:gW s k with
    | none=>rfl
    | some w=>exact absurd (QD_ k) (hk' (recW (toTx k) w) ((hp.mem _).2 ⟨w,by show gW s (toTx k).k=_;rw [QD_];exact hg,rfl⟩))
   rw [hnone];simp [gW,zaf_,mget]
 have hR:Rel s' m:=⟨r.h.congr fun k=>by rw [g3,hget],r.p.congr fun k=>(hgW k).symm⟩;refine ⟨?_,?_,hR⟩
 ·unfold qcm_;rw [if_neg (show ¬dupX (prepL s) from fun h=>h hxn)];exact g1
 ·have e1:=hR.held g2;have e2:=r.held I;have e3:=hR.prep g2;have e4:=r.prep I
  have l1:s'.held.length=s.held.length:=by
   have:=congrArg List.length (e1.trans e2.symm);simpa [qx_,QaE_] using this
  have l2:s'.works.length=s.works.length:=by
   have:=congrArg List.length (e3.trans e4.symm);simpa [prepL,qC_] using this
  exact {g2 with hn:=by rw [l1];exact I.hn,wn:=by rw [l2];exact I.wn}
end Go.Proofs.YtlflbkpmfhhikaaGreatDoor
