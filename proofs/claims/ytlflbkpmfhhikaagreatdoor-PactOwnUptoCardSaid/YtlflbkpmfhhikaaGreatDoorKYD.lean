/- A world keeps to the protocol: what a coordinator does when it hears. No program in sight. -/
import Derived.Test.YtlflbkpmfhhikaaGreatDoorKQN
import Derived.Test.YtlflbkpmfhhikaaGreatDoorKYA
set_option linter.unusedVariables false
set_option linter.unusedSimpArgs false
namespace Go.Proofs.YtlflbkpmfhhikaaGreatDoor
open Go Go.Sx Go.Proofs
def viewT (t:TX):TV:=⟨t.op,t.parts,t.hd⟩
def absW (w:PW):AS:=⟨fun x=>(nAt w x.Node).bind fun q=>(mget x.k q.cs.ts).map viewT,fun p x=>(nAt w p).bind fun q=>gW q.ps.t x.k,fun p x=>∃q,nAt w p=some q∧(mget x.k q.ps.done).isSome=true,w.log⟩
theorem AS.eq {a b:AS} (h1:∀x,a.st x=b.st x) (h2:∀p x,a.wk p x=b.wk p x) (h3:∀p x,a.dn p x↔b.dn p x) (h4:a.log=b.log):a=b:=by
 obtain ⟨s,k,d,l⟩:=a;obtain ⟨s',k',d',l'⟩:=b;obtain rfl:s=s':=funext h1;obtain rfl:k=k':=funext fun p=>funext fun x=>h2 p x;obtain rfl:d=d':=funext fun p=>funext fun x=>propext (h3 p x);obtain rfl:l=l':=h4;rfl
structure NOk (K:Nat) (w:PW):Prop where
  sh:∀i (h:i<w.ns.length),w.ns[i].ps.sh=i∧w.ns[i].cs.node=i
  P:∀i (h:i<w.ns.length),PInv K w.ns[i].ps
  C:∀i (h:i<w.ns.length),CInv K w.ns[i].cs
theorem Zba_ {w:PW} {i:Nat} (h:i<w.ns.length) {x:Txn} (hx:x.Node=i):(absW w).st x=(mget x.k w.ns[i].cs.ts).map viewT:=by
 show (nAt w x.Node).bind _=_;rw [hx,zbv_ h];rfl
theorem ZcE_ {w:PW} {i:Nat} (h:i<w.ns.length) {x:Txn}:(absW w).wk i x=gW w.ns[i].ps.t x.k:=by
 show (nAt w i).bind _=_;rw [zbv_ h];rfl
theorem qdj_ {w:PW} {i:Nat} (h:i<w.ns.length) {x:Txn}:(absW w).dn i x↔isD w.ns[i].ps x:=by
 show (∃q,nAt w i=some q∧_)↔_;rw [zbv_ h];constructor
 ·rintro ⟨q,e,hd⟩;cases e;exact hd
 ·exact fun h=>⟨_,rfl,h⟩
theorem QbN_ {w:PW} {i:Nat} {q:PN} {l:List PactNote} {nt:List Message} (h:i<w.ns.length) (x:Txn):(absW {setN w i q with log:=l,net:=nt}).st x=if x.Node=i then (mget x.k q.cs.ts).map viewT else (absW w).st x:=by
 show (nAt (setN w i q) x.Node).bind _=_;rw [Zcb_ h];split<;>rfl
theorem ZbN_ {w:PW} {i:Nat} {q:PN} {l:List PactNote} {nt:List Message} (h:i<w.ns.length) (p:Int) (x:Txn):(absW {setN w i q with log:=l,net:=nt}).wk p x=if p=i then gW q.ps.t x.k else (absW w).wk p x:=by
 show (nAt (setN w i q) p).bind _=_;rw [Zcb_ h];split<;>rfl
theorem zbk_ {w:PW} {i:Nat} {q:PN} {l:List PactNote} {nt:List Message} (h:i<w.ns.length) (p:Int) (x:Txn):(absW {setN w i q with log:=l,net:=nt}).dn p x↔if p=i then isD q.ps x else (absW w).dn p x:=by
 show (∃q',nAt (setN w i q) p=some q'∧_)↔_;rw [Zcb_ h];split
 ·constructor
  ·rintro ⟨q',e,hd⟩;cases e;exact hd
  ·exact fun h=>⟨_,rfl,h⟩
 ·rfl
theorem v100_ {P:Prop} (h:P:=by
 split
 ·next e=>rw [e];exact (ZcE_ h).symm
 ·rfl):P:=h
theorem v99_ {P:Prop} (h:P:=by
 split
 ·next e=>rw [e];exact (qdj_ h).symm
 ·rfl):P:=h
theorem QaB_ {w:PW} {i:Nat} {q:PN} {nt:List Message} (h:i<w.ns.length) (hq:q=w.ns[i]):absW {setN w i q with log:=w.log,net:=nt}=absW w:=by
 subst hq;refine AS.eq (fun x=>?_) (fun p x=>?_) (fun p x=>?_) rfl
 ·rw [QbN_ h];split
  ·next e=>exact (Zba_ h e).symm
  ·rfl
 ·rw [ZbN_ h];exact v100_
 ·rw [zbk_ h];exact v99_
theorem JM.of {B:List BT} {a:AS} {m:Message} (h:m.Kind=2) (hx:ptB B m.Txn m.From) (ht:m.To=m.Txn.Node) (hy:m.Yes=true→∀t,a.st m.Txn=some t→t.op=false→a.wk m.From m.Txn≠none):JM B a m:=
 ⟨hx.kn,.inr (.inl h),fun k=>by omega,fun k=>by omega,fun _=>⟨ht,hx⟩,fun _=>hy,fun k=>by omega⟩
theorem JM.ack {B:List BT} {a:AS} {m:Message} (h:m.Kind=4) (hx:ptB B m.Txn m.From) (ht:m.To=m.Txn.Node) (hs:∀t,a.st m.Txn=some t→t.op=true) (hd:com a.log m.Txn→a.dn m.From m.Txn):JM B a m:=
 ⟨hx.kn,.inr (.inr (.inr (.inl h))),fun k=>by omega,fun k=>by omega,fun _=>⟨ht,hx⟩,fun k=>by omega,fun _=>⟨hs,hd⟩⟩
theorem JM.dec {B:List BT} {a:AS} {m:Message} (h:m.Kind=3) (hx:ptB B m.Txn m.To) (hf:m.From=m.Txn.Node) (hy:m.Yes=true→com a.log m.Txn) (hn:m.Yes=false→a.st m.Txn=none):JM B a m:=
 ⟨hx.kn,.inr (.inr (.inl h)),fun k=>by omega,fun _=>⟨hf,hx,hy,hn⟩,fun k=>by omega,fun k=>by omega,fun k=>by omega⟩
theorem JM.prep {B:List BT} {a:AS} {m:Message} (h:m.Kind=1) (hx:inB B m.Txn m.To m.Work) (hf:m.From=m.Txn.Node):JM B a m:=
 ⟨hx.pt.kn,.inl h,fun _=>⟨hf,hx⟩,fun k=>by omega,fun k=>by omega,fun k=>by omega,fun k=>by omega⟩
theorem JM.ask {B:List BT} {a:AS} {m:Message} (h:m.Kind=5) (hx:ptB B m.Txn m.From) (ht:m.To=m.Txn.Node):JM B a m:=
 ⟨hx.kn,.inr (.inr (.inr (.inr h))),fun k=>by omega,fun k=>by omega,fun _=>⟨ht,hx⟩,fun k=>by omega,fun k=>by omega⟩
def Qai_ (m:Message):Prop:=m.Kind≠1→m.Work=zac_
abbrev Turn (B:List BT) (w w':PW) (out:List Message):Prop:=SI B (absW w')∧Nxt B B (absW w) (absW w')∧∀g∈out,JM B (absW w') g∧Qai_ g
theorem v73_ {P:Prop} (h:P:=by
 by_cases e2:x=m.Txn
 ·rw [if_pos (by rw [e2]),if_pos ⟨e1,e2⟩]
 ·rw [if_neg (fun e=>e2 (qaS_ e)),if_neg (fun e=>e2 e.2),e1,ZcE_ h]):P:=h
theorem zdj_ {K:Nat} {B:List BT} {w:PW} {m:Message} {i:Nat} (N:NOk K w) (S:SI B (absW w)) (J:JM B (absW w) m) (k:ZR_ m) (hm:m.To=i) (h:i<w.ns.length) (cs:List Value):
  Turn B w {setN w i ⟨Zm_ w.ns[i].ps m cs,w.ns[i].cs⟩ with log:=w.log++qn_ m.To (qh_ w.ns[i].ps m)} (zk_ w.ns[i].ps m):=by
 obtain ⟨hsh,_⟩:=N.sh i h;have IP:=N.P i h
 have hto:m.From=m.Txn.Node∧ptB B m.Txn m.To:=by
  rcases k with k | k
  ·exact ⟨(J.k1 k).1,(J.k1 k).2.pt⟩
  ·exact ⟨(J.k3 k).1,(J.k3 k).2.1⟩
 have hvote:∀{a:AS} {y:Bool},(y=true→∀t,a.st m.Txn=some t→t.op=false→a.wk i m.Txn≠none)→JM B a (zah_ w.ns[i].ps m y)∧Qai_ (zah_ w.ns[i].ps m y):=fun {a y} hy=>
  ⟨JM.of rfl (by show ptB B m.Txn w.ns[i].ps.sh;rw [hsh,←hm];exact hto.2) hto.1 (by intro hy';show∀t,a.st m.Txn=some t→t.op=false→a.wk w.ns[i].ps.sh m.Txn≠none;rw [hsh];exact hy hy'),fun _=>rfl⟩
 have hack:∀{a:AS},(∀t,a.st m.Txn=some t→t.op=true)→(com a.log m.Txn→a.dn i m.Txn)→JM B a (ackM w.ns[i].ps m)∧Qai_ (ackM w.ns[i].ps m):=fun {a} h1 h2=>
  ⟨JM.ack rfl (by show ptB B m.Txn w.ns[i].ps.sh;rw [hsh,←hm];exact hto.2) hto.1 h1 (by show _→a.dn w.ns[i].ps.sh m.Txn;rw [hsh];exact h2),fun _=>rfl⟩
 have hisP:isP w.ns[i].ps m.Txn↔(absW w).wk i m.Txn≠none:=by rw [ZcE_ h,qah_];cases gW w.ns[i].ps.t m.Txn.k<;>simp
 rcases qbk_ w.ns[i].ps m with ⟨h1,h2,h3⟩ | ⟨hf,k1,hd,hp,h1,h2,h3⟩ | ⟨hf,k1,hd,hp,he,h1,h2,h3⟩ | ⟨hf,k1,hd,hp,he,h1,h2,h3⟩ | ⟨hf,k3,hp,h1,h2,h3⟩ | ⟨hf,k3,hp,h1,h2,h3⟩
 ·rw [h1,h2,h3];have e:=QaB_ (w:=w) (i:=i) (q:=⟨w.ns[i].ps,w.ns[i].cs⟩) (nt:=w.net) h rfl;simp only [qn_,List.map_nil,List.append_nil];exact ⟨e▸S,e▸Nxt.refl B _,fun g hg=>by cases hg⟩
 ·rw [h1,h2,h3];have e:=QaB_ (w:=w) (i:=i) (q:=⟨w.ns[i].ps,w.ns[i].cs⟩) (nt:=w.net) h rfl;simp only [qn_,List.map_nil,List.append_nil];refine ⟨e▸S,e▸Nxt.refl B _,fun g hg=>?_⟩;rw [List.mem_singleton.1 hg];refine hvote fun _ t ht ho=>?_;have e':absW {setN w i ⟨w.ns[i].ps,w.ns[i].cs⟩ with log:=w.log}=absW w:=e;rw [e'];exact hisP.1 hp
 ·rw [h1,h2,h3]
  have e:absW {setN w i ⟨⟨w.ns[i].ps.sh,QV_ w.ns[i].ps.t m.Txn m.Work cs,w.ns[i].ps.done⟩,w.ns[i].cs⟩ with log:=w.log++qn_ m.To [recP m]}=setW (absW w) i m.Txn (some m.Work) [⟨m.To,recP m⟩]:=by
   refine AS.eq (fun x=>?_) (fun p x=>?_) (fun p x=>?_) rfl
   ·rw [show (absW {setN w i ⟨⟨w.ns[i].ps.sh,QV_ w.ns[i].ps.t m.Txn m.Work cs,w.ns[i].ps.done⟩,w.ns[i].cs⟩ with log:=w.log++qn_ m.To [recP m]}).st x=_ from QbN_ h x];split
    ·next e=>exact (Zba_ h e).symm
    ·rfl
   ·rw [show (absW {setN w i ⟨⟨w.ns[i].ps.sh,QV_ w.ns[i].ps.t m.Txn m.Work cs,w.ns[i].ps.done⟩,w.ns[i].cs⟩ with log:=w.log++qn_ m.To [recP m]}).wk p x=_ from ZbN_ h p x];show _=if p=i∧x=m.Txn then some m.Work else (absW w).wk p x
    by_cases e1:p=i
    ·rw [if_pos e1];show gW (QV_ w.ns[i].ps.t m.Txn m.Work cs) x.k=_;rw [qbm_];exact v73_
    ·rw [if_neg e1,if_neg (fun e=>e1 e.1)]
   ·rw [show (absW {setN w i ⟨⟨w.ns[i].ps.sh,QV_ w.ns[i].ps.t m.Txn m.Work cs,w.ns[i].ps.done⟩,w.ns[i].cs⟩ with log:=w.log++qn_ m.To [recP m]}).dn p x↔_ from zbk_ h p x];show _↔(absW w).dn p x;split
    ·next e1=>rw [e1,qdj_ h];rfl
    ·rfl
  have hS:=S.prep (p:=i) (x:=m.Txn) (w:=m.Work) (e:=⟨m.To,recP m⟩) (fun hh=>hd ((qdj_ h).1 hh)) (by rw [←hm];exact (J.k1 k1).2) rfl;unfold Turn;rw [e];refine ⟨hS.1,hS.2,fun g hg=>?_⟩;rw [List.mem_singleton.1 hg];refine hvote fun _ t ht ho=>?_;show (if (i:Int)=i∧m.Txn=m.Txn then some m.Work else _)≠none;rw [if_pos ⟨rfl,rfl⟩];simp
 ·rw [h1,h2,h3];have e:=QaB_ (w:=w) (i:=i) (q:=⟨w.ns[i].ps,w.ns[i].cs⟩) (nt:=w.net) h rfl;simp only [qn_,List.map_nil,List.append_nil];refine ⟨e▸S,e▸Nxt.refl B _,fun g hg=>?_⟩;rw [List.mem_singleton.1 hg];exact hvote fun h=>by cases h
 ·rw [h1,h2,h3]
  have e:absW {setN w i ⟨⟨w.ns[i].ps.sh,Zw_ w.ns[i].ps.t m.Txn m.Yes,if m.Yes=true then mset m.Txn.k (Zy_ w.ns[i].ps m.Txn) w.ns[i].ps.done else w.ns[i].ps.done⟩,w.ns[i].cs⟩ with log:=w.log++qn_ m.To [recA m]}=setA (absW w) i m.Txn m.Yes ⟨m.To,recA m⟩:=by
   refine AS.eq (fun x=>?_) (fun p x=>?_) (fun p x=>?_) rfl
   ·rw [show (absW {setN w i ⟨⟨w.ns[i].ps.sh,Zw_ w.ns[i].ps.t m.Txn m.Yes,if m.Yes=true then mset m.Txn.k (Zy_ w.ns[i].ps m.Txn) w.ns[i].ps.done else w.ns[i].ps.done⟩,w.ns[i].cs⟩ with log:=w.log++qn_ m.To [recA m]}).st x=_ from QbN_ h x];split
    ·next e=>exact (Zba_ h e).symm
    ·rfl
   ·rw [show (absW {setN w i ⟨⟨w.ns[i].ps.sh,Zw_ w.ns[i].ps.t m.Txn m.Yes,if m.Yes=true then mset m.Txn.k (Zy_ w.ns[i].ps m.Txn) w.ns[i].ps.done else w.ns[i].ps.done⟩,w.ns[i].cs⟩ with log:=w.log++qn_ m.To [recA m]}).wk p x=_ from ZbN_ h p x];show _=if p=i∧x=m.Txn then none else (absW w).wk p x
    by_cases e1:p=i
    ·rw [if_pos e1];show gW (Zw_ w.ns[i].ps.t m.Txn m.Yes) x.k=_;rw [zdy_ IP];exact v73_
    ·rw [if_neg e1,if_neg (fun e=>e1 e.1)]
   ·rw [show (absW {setN w i ⟨⟨w.ns[i].ps.sh,Zw_ w.ns[i].ps.t m.Txn m.Yes,if m.Yes=true then mset m.Txn.k (Zy_ w.ns[i].ps m.Txn) w.ns[i].ps.done else w.ns[i].ps.done⟩,w.ns[i].cs⟩ with log:=w.log++qn_ m.To [recA m]}).dn p x↔_ from zbk_ h p x];show _↔(absW w).dn p x∨(p=i∧x=m.Txn∧m.Yes=true);by_cases e1:p=i
    ·rw [if_pos e1,e1,qdj_ h];unfold isD;show (mget x.k (if m.Yes=true then mset m.Txn.k (Zy_ w.ns[i].ps m.Txn) w.ns[i].ps.done else w.ns[i].ps.done)).isSome=true↔_;by_cases hy:m.Yes=true
     ·rw [if_pos hy,Zf_];by_cases e2:x=m.Txn
      ·rw [if_pos (by rw [e2])];exact ⟨fun _=> .inr ⟨rfl,e2,hy⟩,fun _=>rfl⟩
      ·rw [if_neg (fun e=>e2 (qaS_ e))];exact ⟨.inl,fun hh=>hh.elim id fun hh=>absurd hh.2.1 e2⟩
     ·rw [if_neg hy];exact ⟨.inl,fun hh=>hh.elim id fun hh=>absurd hh.2.2 hy⟩
    ·rw [if_neg e1];exact ⟨.inl,fun hh=>hh.elim id fun hh=>absurd hh.1 e1⟩
  have hj:=J.k3 k3;have hS:=S.apply (p:=i) (x:=m.Txn) (y:=m.Yes) (e:=⟨m.To,recA m⟩) (hisP.1 hp) hj.2.2.1 hj.2.2.2 ⟨hm,rfl,rfl,rfl⟩;unfold Turn;rw [e];refine ⟨hS.1,hS.2,fun g hg=>?_⟩;rw [List.mem_singleton.1 hg];refine hack (fun t ht=>?_) fun hcm=>?_
  ·cases hy:m.Yes with
   | true=>
    cases ho:t.op with
    | true=>rfl
    | false=>exact absurd (hj.2.2.1 hy) (S.vo _ t ht ho)
   | false=>
    have ht':(absW w).st m.Txn=some t:=ht;rw [hj.2.2.2 hy] at ht';cases ht'
  ·show (absW w).dn i m.Txn∨_
   cases hy:m.Yes with
   | true=>exact .inr ⟨rfl,rfl,rfl⟩
   | false=>
    exfalso;have hcm':com (w.log++[(⟨m.To,recA m⟩:PactNote)]) m.Txn:=hcm;have hc0:com (absW w).log m.Txn:=(QT_.1 hcm').elim id fun hh=>by have:(3:Int)=4:=hh.1;omega
    by_cases hov:over (absW w).log m.Txn
    ·exact S.wd i m.Txn (hisP.1 hp) (S.ov _ _ hov (by rw [←hm];exact hto.2))
    ·obtain ⟨t,ht,_⟩:=S.cm _ hc0 hov;rw [hj.2.2.2 hy] at ht;cases ht
 ·rw [h1,h2,h3];have e:=QaB_ (w:=w) (i:=i) (q:=⟨w.ns[i].ps,w.ns[i].cs⟩) (nt:=w.net) h rfl;simp only [qn_,List.map_nil,List.append_nil];have e':absW {setN w i ⟨w.ns[i].ps,w.ns[i].cs⟩ with log:=w.log}=absW w:=e;have hj:=J.k3 k3;refine ⟨e▸S,e▸Nxt.refl B _,fun g hg=>?_⟩;rw [List.mem_singleton.1 hg,e'];have hpt:ptB B m.Txn i:=by rw [←hm];exact hto.2
  refine hack (fun t ht=>?_) fun hcm=>?_
  ·cases hy:m.Yes with
   | true=>
    cases ho:t.op with
    | true=>rfl
    | false=>exact absurd (hj.2.2.1 hy) (S.vo _ t ht ho)
   | false=>rw [hj.2.2.2 hy] at ht;cases ht
  ·exact (S.ap _ _ hcm hpt).resolve_left fun hh=>hp (hisP.2 hh)
theorem qbN_ {t:TX} {p:Int}:viewT (qx_ t p)=(viewT t).hear p:=by
 unfold viewT TV.hear qx_;simp only [TV.mk.injEq,true_and];funext q;show (mget q (mset p 1 t.heard)).isSome=(decide (q=p) || (mget q t.heard).isSome);rw [Zf_];by_cases h:q=p<;>simp [h]
theorem zbN_ {w:PW} {i:Nat} (h:i<w.ns.length) {x:Txn} (hx:x.Node=i) (ht:w.ns[i].cs.isT x):(absW w).st x=some (viewT (w.ns[i].cs.tx x)):=by
 rw [Zba_ h hx,CS.get_tx ht];rfl
theorem zed_ {w:PW} {i:Nat} (h:i<w.ns.length) {x:Txn} (hx:x.Node=i) (ht:¬w.ns[i].cs.isT x):(absW w).st x=none:=by
 rw [Zba_ h hx]
 cases hg:mget x.k w.ns[i].cs.ts with
 | none=>rfl
 | some t=>exact absurd (by unfold CS.isT;rw [hg];rfl) ht
def Qed_ (a:AS) (x:Txn) (v:Option TV) (l:List PactNote):AS:=⟨fun y=>if y=x then v else a.st y,a.wk,a.dn,l⟩
theorem zcE_ {w:PW} {i:Nat} (h:i<w.ns.length) {c:CS} {x:Txn} (hx:x.Node=i) {v:Option TV} {l:List PactNote} (hv:∀y:Txn,y.Node=i→(mget y.k c.ts).map viewT=if y=x then v else (mget y.k w.ns[i].cs.ts).map viewT):
  absW {setN w i ⟨w.ns[i].ps,c⟩ with log:=l}=Qed_ (absW w) x v l:=by
 refine AS.eq (fun y=>?_) (fun p y=>?_) (fun p y=>?_) rfl
 ·refine (QbN_ (l:=l) (nt:=w.net) h y).trans ?_;show _=if y=x then v else (absW w).st y
  by_cases e:y.Node=i
  ·rw [if_pos e,hv y e,Zba_ h e]
  ·rw [if_neg e,if_neg];intro e1;exact e (by rw [e1];exact hx)
 ·refine (ZbN_ (l:=l) (nt:=w.net) h p y).trans ?_;exact v100_
 ·refine (zbk_ (l:=l) (nt:=w.net) h p y).trans ?_;exact v99_
theorem v91_ {P:Prop} (h:P:=by
 by_cases e:y=x
 ·rw [if_pos e,if_pos (by rw [e])];rfl
 ·rw [if_neg e,if_neg fun e1=>e (qaS_ e1)]):P:=h
theorem ZdO_ {c:CS} {x y:Txn} {t:TX}:(mget y.k (c.put x.k t).ts).map viewT=if y=x then some (viewT t) else (mget y.k c.ts).map viewT:=by
 show (mget y.k (mset x.k t c.ts)).map viewT=_;rw [Zf_];exact v91_
theorem Zed_ {K:Nat} {c:CS} (I:CInv K c) {x y:Txn}:(mget y.k (c.cut x.k).ts).map viewT=if y=x then none else (mget y.k c.ts).map viewT:=by
 show (mget y.k (mdel x.k c.ts)).map viewT=_;rw [qD_ I.nd];exact v91_
theorem AS.log0 {a:AS} {x:Txn} {v:Option TV} {p:Int}:Qed_ a x v (a.log++qn_ p [])=setS a x v:=by
 show (⟨_,_,_,a.log++[]⟩:AS)=⟨_,_,_,a.log⟩;rw [List.append_nil]
theorem v78_ {P:Prop} (h:P:=by
 unfold Turn;simp only;rw [e];exact ⟨hS.1,hS.2,fun g hg=>by cases hg⟩):P:=h
theorem QcE_ {K:Nat} {B:List BT} {w:PW} {m:Message} {i:Nat} (N:NOk K w) (S:SI B (absW w)) (J:JM B (absW w) m) (k:¬ZR_ m) (hm:m.To=i) (h:i<w.ns.length):
  Turn B w {setN w i ⟨w.ns[i].ps,(zh_ w.ns[i].cs m).s⟩ with log:=w.log++qn_ m.To (zh_ w.ns[i].cs m).rc} (zh_ w.ns[i].cs m).out:=by
 obtain ⟨_,hnode⟩:=N.sh i h;have IC:=N.C i h
 have hkp:m.Kind=2∨m.Kind=4∨m.Kind=5:=by
  rcases J.kd with g | g | g | g | g
  ·exact absurd (.inl g) k
  ·exact .inl g
  ·exact absurd (.inr g) k
  ·exact .inr (.inl g)
  ·exact .inr (.inr g)
 obtain ⟨hto,hpt⟩:=J.kp hkp;have hx:m.Txn.Node=i:=hto.symm.trans hm
 have hsame:∀out,(∀g∈out,JM B (absW w) g∧Qai_ g)→Turn B w {setN w i ⟨w.ns[i].ps,w.ns[i].cs⟩ with log:=w.log++qn_ m.To []} out:=fun out ho=>by
  have e:=QaB_ (w:=w) (i:=i) (q:=⟨w.ns[i].ps,w.ns[i].cs⟩) (nt:=w.net) h rfl;have e':absW {setN w i ⟨w.ns[i].ps,w.ns[i].cs⟩ with log:=w.log}=absW w:=e;unfold Turn qn_;simp only [List.map_nil,List.append_nil];rw [e'];exact ⟨S,Nxt.refl B _,ho⟩
 have hpart:∀{p:Int},w.ns[i].cs.isT m.Txn→(p∈(w.ns[i].cs.tx m.Txn).parts↔ptB B m.Txn p):=fun {p} ht=>(S.part (zbN_ h hx ht)).symm
 have hdec:∀{a:AS} {p:Int} {y:Bool},ptB B m.Txn p→(y=true→com a.log m.Txn)→(y=false→a.st m.Txn=none)→JM B a (decM w.ns[i].cs.node m.Txn p y)∧Qai_ (decM w.ns[i].cs.node m.Txn p y):=fun {a p y} hp h1 h2=>
  ⟨JM.dec rfl hp (by show w.ns[i].cs.node=m.Txn.Node;rw [hnode,hx]) h1 h2,fun _=>rfl⟩
 unfold zh_;by_cases hf:forC w.ns[i].cs m
 case neg=>rw [if_pos hf];exact hsame [] fun g hg=>by cases hg
 rw [if_neg fun g=>g hf];by_cases h5:m.Kind=5∧(¬w.ns[i].cs.isT m.Txn∨(w.ns[i].cs.tx m.Txn).op=true)
 ·rw [if_pos h5];refine hsame _ fun g hg=>?_;rw [List.mem_singleton.1 hg];refine hdec hpt (fun hy=>?_) fun hy=>?_
  ·have ht:=of_decide_eq_true hy;exact (S.op _ _ (zbN_ h hx ht) (h5.2.resolve_left fun g=>g ht)).1
  ·exact zed_ h hx (of_decide_eq_false hy)
 rw [if_neg h5];by_cases h2n:m.Kind=2∧w.ns[i].cs.isPart m∧(w.ns[i].cs.tx m.Txn).op=false∧m.Yes=false
 ·rw [if_pos h2n];have ht:=h2n.2.1.1
  have e:absW {setN w i ⟨w.ns[i].ps,w.ns[i].cs.cut m.Txn.k⟩ with log:=w.log++qn_ m.To []}=setS (absW w) m.Txn none:=by
   exact (zcE_ h hx fun y _=>Zed_ IC).trans AS.log0
  have hS:=S.weak (st':=(setS (absW w) m.Txn none).st) fun y=>by
   rw [ZE_];by_cases ey:y=m.Txn
   ·rw [if_pos ey];refine .inr (.inl ⟨rfl,fun t hty=>?_⟩);rw [ey,zbN_ h hx ht] at hty;cases hty;exact h2n.2.2.1
   ·rw [if_neg ey];exact .inl rfl
  unfold Turn;simp only;rw [e];refine ⟨hS.1,hS.2,fun g hg=>?_⟩;unfold noL at hg;obtain ⟨p,hp,rfl⟩:=List.mem_map.1 hg;exact hdec ((hpart ht).1 hp) (fun hy=>by cases hy) fun _=>by rw [ZE_,if_pos rfl]
 rw [if_neg h2n];by_cases h2:m.Kind=2∧w.ns[i].cs.isPart m∧(w.ns[i].cs.tx m.Txn).op=false
 ·rw [if_pos h2];have ht:=h2.2.1.1
  have hy:m.Yes=true:=by
   cases hy:m.Yes with
   | true=>rfl
   | false=>exact absurd ⟨h2.1,h2.2.1,h2.2.2,hy⟩ h2n
  have hst:=zbN_ h hx ht;have hwk:=J.k2 h2.1 hy _ hst h2.2.2;have T:=IC.tinv ht;by_cases hall:¬Qp_ (qx_ (w.ns[i].cs.tx m.Txn) m.From)
  ·rw [if_pos hall]
   have e:absW {setN w i ⟨w.ns[i].ps,w.ns[i].cs.put m.Txn.k (qx_ (w.ns[i].cs.tx m.Txn) m.From)⟩ with log:=w.log++qn_ m.To []}=setS (absW w) m.Txn (some ((viewT (w.ns[i].cs.tx m.Txn)).hear m.From)):=by
    rw [←qbN_];exact (zcE_ h hx fun y _=>ZdO_).trans AS.log0
   have hS:=S.heard (p:=m.From) hst (fun _=>hwk) fun ho=>by rw [show (viewT (w.ns[i].cs.tx m.Txn)).op=_ from h2.2.2] at ho;cases ho
   exact v78_
  ·rw [if_neg hall];have hall':=Classical.not_not.1 hall
   have hap:∀p∈(viewT (w.ns[i].cs.tx m.Txn)).ps,(absW w).wk p m.Txn≠none:=fun p hp=>by
    have h1:=(ZaQ_ (t:=w.ns[i].cs.tx m.Txn) (ps:=(w.ns[i].cs.tx m.Txn).parts) (hs:=mset m.From 1 (w.ns[i].cs.tx m.Txn).heard) T.parts_nodup (Zk_ T.hn) fun q hq=>by
     have h1:=Zj_ (Zk_ T.hn) hq;rw [Zf_] at h1;split at h1
     ·next e=>rw [e];exact h2.2.1.2
     ·exact (T.hp q (Zu_ h1)).1).1 hall' p hp
    rw [Zf_] at h1;split at h1
    ·next e=>rw [e];exact hwk
    ·exact S.hv _ _ p hst h2.2.2 h1
   have e:absW {setN w i ⟨w.ns[i].ps,w.ns[i].cs.put m.Txn.k (Zav_ (w.ns[i].cs.tx m.Txn))⟩ with log:=w.log++qn_ m.To [recC m.Txn (w.ns[i].cs.tx m.Txn).parts]}=setL (absW w) m.Txn (some ⟨true,(viewT (w.ns[i].cs.tx m.Txn)).ps,fun _=>false⟩) ⟨m.To,recC m.Txn (w.ns[i].cs.tx m.Txn).parts⟩:=zcE_ h hx fun y _=>ZdO_;have hS:=S.commit (e:=⟨m.To,recC m.Txn (w.ns[i].cs.tx m.Txn).parts⟩) hst h2.2.2 hap ⟨rfl,rfl⟩;unfold Turn;simp only;rw [e];refine ⟨hS.1,hS.2,fun g hg=>?_⟩;unfold qi_ at hg;obtain ⟨p,hp,rfl⟩:=List.mem_map.1 hg;unfold Zbb_;rw [if_pos (show (Zav_ (w.ns[i].cs.tx m.Txn)).op=true from rfl)];exact hdec ((hpart ht).1 (List.mem_filter.1 hp).1) (fun _=>QT_.2 (.inr ⟨rfl,rfl⟩)) fun hy=>by cases hy
 rw [if_neg h2];by_cases h4:m.Kind=4∧w.ns[i].cs.isPart m∧(w.ns[i].cs.tx m.Txn).op=true
 ·rw [if_pos h4];have ht:=h4.2.1.1;have hst:=zbN_ h hx ht;have T:=IC.tinv ht;have hdn:=(J.k4 h4.1).2 (S.op _ _ hst h4.2.2).1;by_cases hall:¬Qp_ (qx_ (w.ns[i].cs.tx m.Txn) m.From)
  ·rw [if_pos hall]
   have e:absW {setN w i ⟨w.ns[i].ps,w.ns[i].cs.put m.Txn.k (qx_ (w.ns[i].cs.tx m.Txn) m.From)⟩ with log:=w.log++qn_ m.To []}=setS (absW w) m.Txn (some ((viewT (w.ns[i].cs.tx m.Txn)).hear m.From)):=by
    rw [←qbN_];exact (zcE_ h hx fun y _=>ZdO_).trans AS.log0
   have hS:=S.heard (p:=m.From) hst (fun ho=>by rw [show (viewT (w.ns[i].cs.tx m.Txn)).op=_ from h4.2.2] at ho;cases ho) fun _=>hdn;exact v78_
  ·rw [if_neg hall];have hall':=Classical.not_not.1 hall
   have hap:∀p∈(viewT (w.ns[i].cs.tx m.Txn)).ps,(absW w).dn p m.Txn:=fun p hp=>by
    have h1:=(ZaQ_ (t:=w.ns[i].cs.tx m.Txn) (ps:=(w.ns[i].cs.tx m.Txn).parts) (hs:=mset m.From 1 (w.ns[i].cs.tx m.Txn).heard) T.parts_nodup (Zk_ T.hn) fun q hq=>by
     have h1:=Zj_ (Zk_ T.hn) hq;rw [Zf_] at h1;split at h1
     ·next e=>rw [e];exact h4.2.1.2
     ·exact (T.hp q (Zu_ h1)).1).1 hall' p hp
    rw [Zf_] at h1;split at h1
    ·next e=>rw [e];exact hdn
    ·exact S.ho _ _ p hst h4.2.2 h1
   have e:absW {setN w i ⟨w.ns[i].ps,w.ns[i].cs.cut m.Txn.k⟩ with log:=w.log++qn_ m.To [recE m.Txn]}=setL (absW w) m.Txn none ⟨m.To,recE m.Txn⟩:=zcE_ h hx fun y _=>Zed_ IC;have hS:=S.end (e:=⟨m.To,recE m.Txn⟩) hst h4.2.2 hap ⟨rfl,rfl⟩;exact v78_
 rw [if_neg h4];exact hsame [] fun g hg=>by cases hg
theorem Zdi_ {K:Nat} {B:List BT} {w w':PW} {m:Message} {out:List Message} (N:NOk K w) (S:SI B (absW w)) (J:JM B (absW w) m) (h:PHear w m w' out):Turn B w w' out:=by
 cases h with
 | part k i hm h cs=>exact zdj_ N S J k hm h cs
 | coord k i hm h=>exact QcE_ N S J k hm h
end Go.Proofs.YtlflbkpmfhhikaaGreatDoor
