/- The document's example, move by move. No program in sight. -/
import Derived.Test.YtlflbkpmfhhikaaGreatDoorKLO
import Derived.Test.YtlflbkpmfhhikaaGreatDoorKYF
set_option linter.unusedVariables false
set_option linter.unusedSimpArgs false
namespace Go.Proofs.YtlflbkpmfhhikaaGreatDoor
open Go Go.Sx Go.Proofs
theorem QbM_ {l ms:List Message} {g:Message} (h:g∈Qv_ l ms):g∈l∨g∈ms:=by
 rw [Zbv_] at h;rcases List.mem_append.1 h with h | h
 ·exact .inl h
 ·exact .inr (List.mem_of_mem_take h)
theorem ZbM_ {l ms:List Message} (h:l.length≤64):(Qv_ l ms).length≤64:=by
 rw [Zbv_,List.length_append,List.length_take];omega
theorem Zcq_ {l:List Message} {j:Nat} {g:Message} (h:g∈delM l j):g∈l:=by
 unfold delM at h;rcases List.mem_append.1 h with h | h
 ·exact List.mem_of_mem_take h
 ·exact List.mem_of_mem_drop h
theorem qcr_ {l:List Message} {j:Nat}:(delM l j).length≤l.length:=by
 unfold delM;rw [List.length_append,List.length_take,List.length_drop];omega
theorem Zdy_ {n:Nat} {s:CS} (I:CInv n s) {m:Message} {k:K3} {t':TX} (h:mget k (zh_ s m).s.ts=some t') (ho:t'.op=false):∃t,mget k s.ts=some t∧t.op=false∧t'.works=t.works∧t'.began=t.began:=by
 have hcut:∀{x:K3},mget k (s.cut x).ts=some t'→∃t,mget k s.ts=some t∧t.op=false∧t'.works=t.works∧t'.began=t.began:=fun {x} h=>⟨t',qH_ I.nd h,ho,rfl,rfl⟩
 have hput:∀{x:Txn} {t:TX},s.isT x→(t.op=false→t.op=(s.tx x).op∧t.works=(s.tx x).works∧t.began=(s.tx x).began)→mget k (s.put x.k t).ts=some t'→∃t,mget k s.ts=some t∧t.op=false∧t'.works=t.works∧t'.began=t.began:=fun {x t} hx hp h=>by
  have h':mget k (mset x.k t s.ts)=some t':=h;rw [Zf_] at h';split at h'
  ·next e=>
   cases h'
   obtain ⟨g1,g2,g3⟩:=hp ho;exact ⟨s.tx x,e▸CS.get_tx hx,g1▸ho,g2,g3⟩
  ·exact ⟨t',h',ho,rfl,rfl⟩
 unfold zh_ at h;split at h
 ·exact ⟨t',h,ho,rfl,rfl⟩
 split at h
 ·exact ⟨t',h,ho,rfl,rfl⟩
 split at h
 ·exact hcut h
 split at h
 ·next hh=>
  split at h
  ·exact hput (t:=qx_ (s.tx m.Txn) m.From) hh.2.1.1 (fun _=>⟨rfl,rfl,rfl⟩) h
  ·exact hput (t:=Zav_ (s.tx m.Txn)) hh.2.1.1 (fun h=>by cases h) h
 split at h
 ·next hh=>
  split at h
  ·exact hput (t:=qx_ (s.tx m.Txn) m.From) hh.2.1.1 (fun _=>⟨rfl,rfl,rfl⟩) h
  ·exact hcut h
 ·exact ⟨t',h,ho,rfl,rfl⟩
theorem qcd_ {s:CS} {m:Message}:(zh_ s m).s.count=s.count:=by
 unfold zh_
 repeat' split
 all_goals rfl
theorem zdi_ {K:Nat} {s:PS} {m:Message} {cs:List Value} (I:PInv K s) {key:ByteArray} {r:Int} (h:mget key (Zm_ s m cs).t.held=some r):
  mget key s.t.held=some r∨(∃u,gW s.t m.Txn.k=some u∧key∈u.Take∧r=u.Robot∧isD (Zm_ s m cs) m.Txn):=by
 rcases qbk_ s m with ⟨_,_,h3⟩ | ⟨_,_,_,_,_,_,h3⟩ | ⟨_,_,_,_,_,_,_,h3⟩ | ⟨_,_,_,_,_,_,_,h3⟩ | ⟨_,_,hp,_,_,h3⟩ | ⟨_,_,_,_,_,h3⟩
 ·rw [h3] at h;exact .inl h
 ·rw [h3] at h;exact .inl h
 ·rw [h3] at h;exact .inl h
 ·rw [h3] at h;exact .inl h
 ·rw [h3] at h⊢;obtain ⟨u,hu⟩:=qah_.1 hp;have h':mget key (Zw_ s.t m.Txn m.Yes).held=some r:=h;rw [ZbH_,hu] at h';simp only at h';unfold ZH_ at h';simp only at h';split at h'
  ·next hy=>
   have g1:=(Zar_ (r:=u.Robot) (k:=key) (ks:=u.Take) (QO_ (r:=u.Robot) (k:=key) (ks:=u.Drop) I.t.hd).2.1).1;rw [g1] at h';split at h'
   ·next hk=>
    cases h'
    refine .inr ⟨u,hu,hk,rfl,?_⟩;unfold isD;show (mget m.Txn.k (if m.Yes=true then mset m.Txn.k (Zy_ s m.Txn) s.done else s.done)).isSome=true;rw [if_pos hy,Zf_,if_pos rfl];rfl
   ·rw [(QO_ (r:=u.Robot) (k:=key) (ks:=u.Drop) I.t.hd).1] at h';split at h'
    ·cases h'
    ·exact .inl h'
  ·exact .inl h'
 ·rw [h3] at h;exact .inl h
theorem zai_ {w:PW} {i j:Nat} {q:PN} (hj:j<(w.ns.set i q).length):(w.ns.set i q)[j]=if i=j then q else w.ns[j]'(by rw [List.length_set] at hj;exact hj):=List.getElem_set ..
theorem HdOk.more {B B':List BT} {w w':PW} {i:Nat} {q:PN} (H:HdOk B w) (hi:i<w.ns.length) (hw:w'.ns=w.ns.set i q) (Nx:Nxt B B' (absW w) (absW w'))
  (hq:∀key r,mget key q.ps.t.held=some r→mget key w.ns[i].ps.t.held=some r∨∃b∈B',∃u:Work,((i:Int),u)∈b.ws∧key∈u.Take∧r=u.Robot∧(absW w').dn i b.x):HdOk B' w':=by
 intro j hj key r hr;have hj':j<w.ns.length:=by rw [hw,List.length_set] at hj;exact hj
 simp only [hw] at hr;rw [zai_] at hr
 have old:∀{j} (hj':j<w.ns.length),mget key w.ns[j].ps.t.held=some r→∃b∈B',∃u:Work,((j:Int),u)∈b.ws∧key∈u.Take∧r=u.Robot∧(absW w').dn j b.x:=fun {j} hj' hr=>by
  obtain ⟨b,hb,u,h1,h2,h3,h4⟩:=H j hj' key r hr;exact ⟨b,Nx.b b hb,u,h1,h2,h3,Nx.d _ _ h4⟩
 by_cases e:i=j
 ·subst e;rw [if_pos rfl] at hr;rcases hq key r hr with hr | hr
  ·exact old hj' hr
  ·exact hr
 ·rw [if_neg e] at hr;exact old hj' hr
theorem v61_ {P:Prop} (h:P:=by
 rcases hn g hg with hg | hg
 ·exact ⟨(I.J g hg).1.next T.2.1,(I.J g hg).2⟩
 ·exact T.2.2 g hg):P:=h
theorem WInv.hear {n K:Nat} {B:List BT} {w w':PW} {m:Message} {out nt:List Message} (I:WInv n K B w) (hj:JM B (absW w) m∧Qai_ m) (h:PHear w m w' out) (hn:∀g∈nt,g∈w.net∨g∈out) (hl:nt.length≤64):WInv n K B {w' with net:=nt}:=by
 obtain ⟨hok,_⟩:=I.msg hj;have T:=Zdi_ I.N I.S hj.1 h
 have J':∀g∈nt,JM B (absW w') g∧Qai_ g:=fun g hg=>by
  exact v61_
 cases h with
 | part k i hm h cs=>
  have hN:NOk (K+1) {setN w i ⟨Zm_ w.ns[i].ps m cs,w.ns[i].cs⟩ with log:=w.log++qn_ m.To (qh_ w.ns[i].ps m)}:=I.N.set (Nat.le_succ K) h rfl (hearS_sh.trans (I.N.sh i h).1) (I.N.sh i h).2 ((I.N.P i h).hear hok) ((I.N.C i h).more (Nat.le_succ K))
  have hget:∀{j} (hj:j<(w.ns.set i ⟨Zm_ w.ns[i].ps m cs,w.ns[i].cs⟩).length),(w.ns.set i ⟨Zm_ w.ns[i].ps m cs,w.ns[i].cs⟩)[j].cs=(w.ns[j]'(by rw [List.length_set] at hj;exact hj)).cs:=fun {j} hj=>by
   rw [zai_];split
   ·next e=>subst e;rfl
   ·rfl
  have hH:HdOk B {setN w i ⟨Zm_ w.ns[i].ps m cs,w.ns[i].cs⟩ with log:=w.log++qn_ m.To (qh_ w.ns[i].ps m)}:=I.hd.more h rfl T.2.1 fun key r hr=>by
   rcases zdi_ (I.N.P i h) hr with hr | ⟨u,hu,h1,h2,h3⟩
   ·exact .inl hr
   ·right;obtain ⟨b,hb,hx,hq⟩:=I.S.wb i m.Txn u (by rw [ZcE_ h];exact hu);refine ⟨b,hb,u,hq,h1,h2,?_⟩;rw [hx];have:=(zbk_ (q:=⟨Zm_ w.ns[i].ps m cs,w.ns[i].cs⟩) (l:=w.log++qn_ m.To (qh_ w.ns[i].ps m)) (nt:=w.net) h i m.Txn).2;rw [if_pos rfl] at this;exact this h3
  refine ⟨(List.length_set ..).trans I.len,I.n4,⟨hN.sh,fun j hj=>?_,fun j hj=>?_⟩,fun j hj=>?_,I.bl,I.k3,fun b hb=>?_,I.bw,T.1,fun j hj k' t hg ho=>?_,fun j hj k' t hg ho=>?_,hH,J',hl,I.now⟩
  ·exact PInv.fit (w:={setN w i ⟨Zm_ w.ns[i].ps m cs,w.ns[i].cs⟩ with log:=w.log++qn_ m.To (qh_ w.ns[i].ps m)}) hj T.1 hH (fun b hb=>⟨(I.bw b hb).1,fun q hq=>((I.bw b hb).2 q hq).2.2⟩) (hN.P j hj) I.bl
  ·show CInv K (w.ns.set i ⟨Zm_ w.ns[i].ps m cs,w.ns[i].cs⟩)[j].cs;rw [hget hj];exact I.N.C j _
  ·show 1≤(w.ns.set i ⟨Zm_ w.ns[i].ps m cs,w.ns[i].cs⟩)[j].cs.life∧(w.ns.set i ⟨Zm_ w.ns[i].ps m cs,w.ns[i].cs⟩)[j].cs.life≤K+1;rw [hget hj];exact I.life j _
  ·obtain ⟨j,hj,h1,h2,h3⟩:=I.bx b hb;have hj':j<(w.ns.set i ⟨Zm_ w.ns[i].ps m cs,w.ns[i].cs⟩).length:=by rw [List.length_set];exact hj
   refine ⟨j,hj',h1,h2,?_⟩;show b.x.Life≤(w.ns.set i ⟨Zm_ w.ns[i].ps m cs,w.ns[i].cs⟩)[j].cs.life∧(b.x.Life=(w.ns.set i ⟨Zm_ w.ns[i].ps m cs,w.ns[i].cs⟩)[j].cs.life→b.x.Count≤(w.ns.set i ⟨Zm_ w.ns[i].ps m cs,w.ns[i].cs⟩)[j].cs.count);rw [hget hj'];exact h3
  ·have hg':mget k' (w.ns.set i ⟨Zm_ w.ns[i].ps m cs,w.ns[i].cs⟩)[j].cs.ts=some t:=hg;rw [hget hj] at hg';exact I.W j _ k' t hg' ho
  ·have hg':mget k' (w.ns.set i ⟨Zm_ w.ns[i].ps m cs,w.ns[i].cs⟩)[j].cs.ts=some t:=hg;rw [hget hj] at hg';exact I.bg j _ k' t hg' ho
 | coord k i hm h=>
  have hN:NOk K {setN w i ⟨w.ns[i].ps,(zh_ w.ns[i].cs m).s⟩ with log:=w.log++qn_ m.To (zh_ w.ns[i].cs m).rc}:=I.N.set (Nat.le_refl K) h rfl (I.N.sh i h).1 (cHear_node.trans (I.N.sh i h).2) (I.N.P i h) (I.N.C i h).hear;have hH:HdOk B {setN w i ⟨w.ns[i].ps,(zh_ w.ns[i].cs m).s⟩ with log:=w.log++qn_ m.To (zh_ w.ns[i].cs m).rc}:=I.hd.more h rfl T.2.1 fun key r hr=> .inl hr
  have hlc:∀{j} (hj:j<(w.ns.set i ⟨w.ns[i].ps,(zh_ w.ns[i].cs m).s⟩).length),(w.ns.set i ⟨w.ns[i].ps,(zh_ w.ns[i].cs m).s⟩)[j].cs.life=(w.ns[j]'(by rw [List.length_set] at hj;exact hj)).cs.life∧(w.ns.set i ⟨w.ns[i].ps,(zh_ w.ns[i].cs m).s⟩)[j].cs.count=(w.ns[j]'(by rw [List.length_set] at hj;exact hj)).cs.count:=fun {j} hj=>by
   rw [zai_];split
   ·next e=>subst e;exact ⟨Qan_,qcd_⟩
   ·exact ⟨rfl,rfl⟩
  have hts:∀{j} (hj:j<(w.ns.set i ⟨w.ns[i].ps,(zh_ w.ns[i].cs m).s⟩).length) {k' t'},mget k' (w.ns.set i ⟨w.ns[i].ps,(zh_ w.ns[i].cs m).s⟩)[j].cs.ts=some t'→t'.op=false→∃t,mget k' (w.ns[j]'(by rw [List.length_set] at hj;exact hj)).cs.ts=some t∧t.op=false∧t'.works=t.works∧t'.began=t.began:=fun {j} hj {k' t'} hg ho=>by
   rw [zai_] at hg;split at hg
   ·next e=>subst e;exact Zdy_ (I.N.C i h) hg ho
   ·exact ⟨t',hg,ho,rfl,rfl⟩
  refine ⟨(List.length_set ..).trans I.len,I.n4,⟨hN.sh,hN.P,hN.C⟩,fun j hj=>?_,I.bl,I.k3,fun b hb=>?_,I.bw,T.1,fun j hj k' t hg ho=>?_,fun j hj k' t hg ho=>?_,hH,J',hl,I.now⟩
  ·show 1≤(w.ns.set i ⟨w.ns[i].ps,(zh_ w.ns[i].cs m).s⟩)[j].cs.life∧(w.ns.set i ⟨w.ns[i].ps,(zh_ w.ns[i].cs m).s⟩)[j].cs.life≤K+1;rw [(hlc hj).1];exact I.life j _
  ·obtain ⟨j,hj,h1,h2,h3⟩:=I.bx b hb;have hj':j<(w.ns.set i ⟨w.ns[i].ps,(zh_ w.ns[i].cs m).s⟩).length:=by rw [List.length_set];exact hj
   refine ⟨j,hj',h1,h2,?_⟩;show b.x.Life≤(w.ns.set i ⟨w.ns[i].ps,(zh_ w.ns[i].cs m).s⟩)[j].cs.life∧(b.x.Life=(w.ns.set i ⟨w.ns[i].ps,(zh_ w.ns[i].cs m).s⟩)[j].cs.life→b.x.Count≤(w.ns.set i ⟨w.ns[i].ps,(zh_ w.ns[i].cs m).s⟩)[j].cs.count);rw [(hlc hj').1,(hlc hj').2];exact h3
  ·obtain ⟨t0,g1,g2,g3,g4⟩:=hts hj hg ho;obtain ⟨b,hb,e1,e2⟩:=I.W j _ k' t0 g1 g2;exact ⟨b,hb,e1,by rw [g3];exact e2⟩
  ·obtain ⟨t0,g1,g2,g3,g4⟩:=hts hj hg ho;show t.began≤w.now;rw [g4];exact I.bg j _ k' t0 g1 g2
theorem WInv.more {n K K':Nat} {B:List BT} {w:PW} (I:WInv n K B w) (h:K≤K') (h3:K'≤300):WInv n K' B w:=
 {I with N:=⟨I.N.sh,fun i hi=>(I.N.P i hi).more h,fun i hi=>(I.N.C i hi).more h⟩,life:=fun i hi=>by have:=I.life i hi;omega,bl:=Nat.le_trans I.bl h,k3:=h3}
theorem WInv.less {n K:Nat} {B:List BT} {w:PW} (I:WInv n K B w) {nt:List Message} (hn:∀g∈nt,g∈w.net) (hl:nt.length≤64):WInv n K B {w with net:=nt}:=
 {I with J:=fun g hg=>I.J g (hn g hg),nl:=hl,N:=⟨I.N.sh,I.N.P,I.N.C⟩}
theorem WInv.step {n K:Nat} {B:List BT} {w:PW} (I:WInv n K B w) {i:Nat} (h:i<w.ns.length) {nt:List Message} (hn:∀g∈nt,g∈w.net∨g∈Qar_ w.ns[i].cs w.now++askL w.ns[i].ps) (hl:nt.length≤64):WInv n K B {setN w i ⟨w.ns[i].ps,zD_ w.ns[i].cs w.now⟩ with net:=nt}:=by
 have T:=Qdi_ (now:=w.now) I.N I.S I.W h;have hN:NOk K (setN w i ⟨w.ns[i].ps,zD_ w.ns[i].cs w.now⟩):=I.N.set (Nat.le_refl K) h rfl (I.N.sh i h).1 (I.N.sh i h).2 (I.N.P i h) (I.N.C i h).step
 have hlc:∀{j} (hj:j<(w.ns.set i ⟨w.ns[i].ps,zD_ w.ns[i].cs w.now⟩).length),(w.ns.set i ⟨w.ns[i].ps,zD_ w.ns[i].cs w.now⟩)[j].cs.life=(w.ns[j]'(by rw [List.length_set] at hj;exact hj)).cs.life∧(w.ns.set i ⟨w.ns[i].ps,zD_ w.ns[i].cs w.now⟩)[j].cs.count=(w.ns[j]'(by rw [List.length_set] at hj;exact hj)).cs.count:=fun {j} hj=>by
  rw [zai_];split
  ·next e=>subst e;exact ⟨rfl,rfl⟩
  ·exact ⟨rfl,rfl⟩
 have hts:∀{j} (hj:j<(w.ns.set i ⟨w.ns[i].ps,zD_ w.ns[i].cs w.now⟩).length) {k' t'},mget k' (w.ns.set i ⟨w.ns[i].ps,zD_ w.ns[i].cs w.now⟩)[j].cs.ts=some t'→mget k' (w.ns[j]'(by rw [List.length_set] at hj;exact hj)).cs.ts=some t':=fun {j} hj {k' t'} hg=>by
  rw [zai_] at hg;split at hg
  ·next e=>subst e;exact ((qO_ (I.N.C i h)).1 hg).1
  ·exact hg
 have hH:HdOk B (setN w i ⟨w.ns[i].ps,zD_ w.ns[i].cs w.now⟩):=I.hd.more h rfl T.2.1 fun key r hr=> .inl hr;refine ⟨(List.length_set ..).trans I.len,I.n4,⟨hN.sh,hN.P,hN.C⟩,fun j hj=>?_,I.bl,I.k3,fun b hb=>?_,I.bw,T.1,fun j hj k' t hg ho=>I.W j _ k' t (hts hj hg) ho,fun j hj k' t hg ho=>I.bg j _ k' t (hts hj hg) ho,hH,fun g hg=>?_,hl,I.now⟩
 ·show 1≤(w.ns.set i ⟨w.ns[i].ps,zD_ w.ns[i].cs w.now⟩)[j].cs.life∧(w.ns.set i ⟨w.ns[i].ps,zD_ w.ns[i].cs w.now⟩)[j].cs.life≤K+1;rw [(hlc hj).1];exact I.life j _
 ·obtain ⟨j,hj,h1,h2,h3⟩:=I.bx b hb;have hj':j<(w.ns.set i ⟨w.ns[i].ps,zD_ w.ns[i].cs w.now⟩).length:=by rw [List.length_set];exact hj
  refine ⟨j,hj',h1,h2,?_⟩;show b.x.Life≤(w.ns.set i ⟨w.ns[i].ps,zD_ w.ns[i].cs w.now⟩)[j].cs.life∧(b.x.Life=(w.ns.set i ⟨w.ns[i].ps,zD_ w.ns[i].cs w.now⟩)[j].cs.life→b.x.Count≤(w.ns.set i ⟨w.ns[i].ps,zD_ w.ns[i].cs w.now⟩)[j].cs.count);rw [(hlc hj').1,(hlc hj').2];exact h3
 ·exact v61_
theorem ZaH_:∀{l:List Work} {i:Int} {q:Int×Work},q∈works0 i l→q.2∈l
 | [],i,q,h=>by cases h
 | w::l,i,q,h=>by
  unfold works0 at h;split at h
  ·rcases List.mem_cons.1 h with rfl | h
   ·exact List.mem_cons_self ..
   ·exact List.mem_cons_of_mem _ (ZaH_ h)
  ·exact List.mem_cons_of_mem _ (ZaH_ h)
theorem Qdy_ {w:PW} {i:Nat} (h:i<w.ns.length):setN w i ⟨w.ns[i].ps,w.ns[i].cs⟩=w:=by
 unfold setN;rw [show (⟨w.ns[i].ps,w.ns[i].cs⟩:PN)=w.ns[i] from rfl,List.set_getElem_self]
theorem WInv.begin {n K:Nat} {B:List BT} {w:PW} (I:WInv n K B w) (hK:K<300) {i:Nat} (h:i<w.ns.length) {works:List Work} (hwl:works.length≤w.ns.length) (hok:∀x∈works,OkW x) {ws:List (Int×CW)} (hw:pq ws=works0 0 works) {nt:List Message} (hn:∀g∈nt,g∈w.net∨g∈saidB w.ns[i].cs w.now ws) (hl:nt.length≤64):
  ∃B',WInv n (K+1) B' {setN w i ⟨w.ns[i].ps,qd_ w.ns[i].cs w.now ws⟩ with net:=nt}∧(B'=B∨(ws≠[]∧B'=⟨newX w.ns[i].cs,works0 0 works⟩::B)):=by
 by_cases hne:ws=[]
 ·refine ⟨B,?_,.inl rfl⟩;subst hne;have e1:qd_ w.ns[i].cs w.now []=w.ns[i].cs:=if_pos rfl;have e2:saidB w.ns[i].cs w.now []=[]:=if_pos rfl;rw [e2] at hn;rw [e1,Qdy_ h];exact (I.less (fun g hg=>(hn g hg).resolve_right fun h=>by cases h) hl).more (Nat.le_succ K) hK
 ·have hlen:=I.len;have hn4:=I.n4;have hnow:=I.now;have hK3:=I.k3;have hfn:=I.life i h;have IC:=I.N.C i h;have hfst:ws.map (·.1)=(works0 0 works).map (·.1):=by rw [←hw,QbI_]
  have hnd:(ws.map (·.1)).Nodup:=by
   rw [hfst,List.nodup_iff_pairwise_ne];exact works0_rise.imp fun h e=>by omega
  have hf:¬knB B (newX w.ns[i].cs):=by
   rintro ⟨b,hb,hx⟩;obtain ⟨j,hj,h1,h2,h3,h4⟩:=I.bx b hb
   have hji:j=i:=by
    rw [hx] at h1;have:(newX w.ns[i].cs).Node=w.ns[i].cs.node:=rfl;rw [this,(I.N.sh i h).2] at h1;omega
   subst hji;have h5:=h4 (by rw [hx];rfl);rw [hx] at h5;have h6:(newX w.ns[j].cs).Count=w.ns[j].cs.count+1:=rfl;omega
  have T:=qcE_ (now:=w.now) I.N I.S h hne hnd hf;rw [hw] at T;have hC:CInv (K+1) (qd_ w.ns[i].cs w.now ws):=IC.begin hw (by omega) (by unfold fits;omega) (by omega);have hbl:(qd_ w.ns[i].cs w.now ws).life=w.ns[i].cs.life∧(qd_ w.ns[i].cs w.now ws).node=w.ns[i].cs.node∧(qd_ w.ns[i].cs w.now ws).count=w.ns[i].cs.count+1:=by unfold qd_;rw [if_neg hne];exact ⟨rfl,rfl,rfl⟩
  have hN:NOk (K+1) (setN w i ⟨w.ns[i].ps,qd_ w.ns[i].cs w.now ws⟩):=I.N.set (Nat.le_succ K) h rfl (I.N.sh i h).1 (hbl.2.1.trans (I.N.sh i h).2) ((I.N.P i h).more (Nat.le_succ K)) hC
  have hlc:∀{j} (hj:j<(w.ns.set i ⟨w.ns[i].ps,qd_ w.ns[i].cs w.now ws⟩).length),(w.ns.set i ⟨w.ns[i].ps,qd_ w.ns[i].cs w.now ws⟩)[j].cs.life=(w.ns[j]'(by rw [List.length_set] at hj;exact hj)).cs.life∧(w.ns[j]'(by rw [List.length_set] at hj;exact hj)).cs.count≤(w.ns.set i ⟨w.ns[i].ps,qd_ w.ns[i].cs w.now ws⟩)[j].cs.count:=fun {j} hj=>by
   rw [zai_];split
   ·next e=>subst e;exact ⟨hbl.1,by show w.ns[i].cs.count≤(qd_ w.ns[i].cs w.now ws).count;rw [hbl.2.2];omega⟩
   ·exact ⟨rfl,Int.le_refl _⟩
  have hts:∀{j} (hj:j<(w.ns.set i ⟨w.ns[i].ps,qd_ w.ns[i].cs w.now ws⟩).length) {k' t'},mget k' (w.ns.set i ⟨w.ns[i].ps,qd_ w.ns[i].cs w.now ws⟩)[j].cs.ts=some t'→(k'=(newX w.ns[i].cs).k∧t'=zf_ w.now ws)∨mget k' (w.ns[j]'(by rw [List.length_set] at hj;exact hj)).cs.ts=some t':=fun {j} hj {k' t'} hg=>by
   rw [zai_] at hg;split at hg
   ·next e=>
    subst e;have hg':mget k' (qd_ w.ns[i].cs w.now ws).ts=some t':=hg;unfold qd_ at hg';rw [if_neg hne] at hg';have hg2:mget k' (mset (newX w.ns[i].cs).k (zf_ w.now ws) w.ns[i].cs.ts)=some t':=hg';rw [Zf_] at hg2;split at hg2
    ·next e=>cases hg2;exact .inl ⟨e,rfl⟩
    ·exact .inr hg2
   ·exact .inr hg
  have hH:HdOk (⟨newX w.ns[i].cs,works0 0 works⟩::B) (setN w i ⟨w.ns[i].ps,qd_ w.ns[i].cs w.now ws⟩):=I.hd.more h rfl T.2.1 fun key r hr=> .inl hr;refine ⟨⟨newX w.ns[i].cs,works0 0 works⟩::B,⟨(List.length_set ..).trans I.len,I.n4,⟨hN.sh,hN.P,hN.C⟩,fun j hj=>?_,by have:=I.bl;simp only [List.length_cons];omega,by omega,fun b hb=>?_,fun b hb=>?_,T.1,fun j hj k' t hg ho=>?_,fun j hj k' t hg ho=>?_,hH,fun g hg=>?_,hl,I.now⟩,.inr ⟨hne,rfl⟩⟩
  ·show 1≤(w.ns.set i ⟨w.ns[i].ps,qd_ w.ns[i].cs w.now ws⟩)[j].cs.life∧(w.ns.set i ⟨w.ns[i].ps,qd_ w.ns[i].cs w.now ws⟩)[j].cs.life≤((K+1:Nat):Int)+1;rw [(hlc hj).1];have:=I.life j (by rw [show (setN w i ⟨w.ns[i].ps,qd_ w.ns[i].cs w.now ws⟩).ns=w.ns.set i ⟨w.ns[i].ps,qd_ w.ns[i].cs w.now ws⟩ from rfl,List.length_set] at hj;exact hj);omega
  ·rcases List.mem_cons.1 hb with rfl | hb
   ·have hj':i<(w.ns.set i ⟨w.ns[i].ps,qd_ w.ns[i].cs w.now ws⟩).length:=by rw [List.length_set];exact h
    refine ⟨i,hj',(I.N.sh i h).2,⟨IC.fn,IC.fl,?_⟩,?_⟩
    ·show fits (w.ns[i].cs.count+1);have:=IC.c0;unfold fits;omega
    ·show (newX w.ns[i].cs).Life≤(w.ns.set i ⟨w.ns[i].ps,qd_ w.ns[i].cs w.now ws⟩)[i].cs.life∧((newX w.ns[i].cs).Life=(w.ns.set i ⟨w.ns[i].ps,qd_ w.ns[i].cs w.now ws⟩)[i].cs.life→(newX w.ns[i].cs).Count≤(w.ns.set i ⟨w.ns[i].ps,qd_ w.ns[i].cs w.now ws⟩)[i].cs.count);rw [List.getElem_set_self];show w.ns[i].cs.life≤(qd_ w.ns[i].cs w.now ws).life∧(w.ns[i].cs.life=(qd_ w.ns[i].cs w.now ws).life→w.ns[i].cs.count+1≤(qd_ w.ns[i].cs w.now ws).count);rw [hbl.1,hbl.2.2];exact ⟨Int.le_refl _,fun _=>Int.le_refl _⟩
   ·obtain ⟨j,hj,h1,h2,h3,h4⟩:=I.bx b hb;have hj':j<(w.ns.set i ⟨w.ns[i].ps,qd_ w.ns[i].cs w.now ws⟩).length:=by rw [List.length_set];exact hj
    refine ⟨j,hj',h1,h2,?_⟩;show b.x.Life≤(w.ns.set i ⟨w.ns[i].ps,qd_ w.ns[i].cs w.now ws⟩)[j].cs.life∧(b.x.Life=(w.ns.set i ⟨w.ns[i].ps,qd_ w.ns[i].cs w.now ws⟩)[j].cs.life→b.x.Count≤(w.ns.set i ⟨w.ns[i].ps,qd_ w.ns[i].cs w.now ws⟩)[j].cs.count);rw [(hlc hj').1];exact ⟨h3,fun e=>Int.le_trans (h4 e) (hlc hj').2⟩
  ·rcases List.mem_cons.1 hb with rfl | hb
   ·refine ⟨works0_rise,fun q hq=>?_⟩;have:=zO_ (i:=0) (Int.le_refl _) q hq;exact ⟨this.1,by omega,hok _ (ZaH_ hq)⟩
   ·exact I.bw b hb
  ·rcases hts hj hg with ⟨rfl,rfl⟩ | hg
   ·exact ⟨_,List.mem_cons_self ..,(qbB_ _).symm,hw⟩
   ·obtain ⟨b,hb,e1,e2⟩:=I.W j _ k' t hg ho;exact ⟨b,List.mem_cons_of_mem _ hb,e1,e2⟩
  ·rcases hts hj hg with ⟨rfl,rfl⟩ | hg
   ·exact Int.le_refl _
   ·exact I.bg j _ k' t hg ho
  ·exact v61_
def newN (i:Nat):PN:=⟨⟨i,⟨[],[],[]⟩,[]⟩,⟨i,1,0,[]⟩⟩
def newW (n:Nat):PW:=⟨(List.range n).map newN,[],0,[]⟩
theorem QdO_ {n:Nat} (h:1≤n∧n≤4):WInv n 0 [] (newW n):=by
 have hg:∀i (hi:i<(newW n).ns.length),(newW n).ns[i]=newN i:=fun i hi=>by
  simp [newW]
 have hl:(newW n).ns.length=n:=by show ((List.range n).map newN).length=n;rw [List.length_map,List.length_range]
 have hfi:∀i (hi:i<(newW n).ns.length),fits (i:Int):=fun i hi=>by rw [hl] at hi;unfold fits;omega
 have ha:absW (newW n)=⟨fun _=>none,fun _ _=>none,fun _ _=>False,[]⟩:=by
  refine AS.eq (fun x=>?_) (fun p x=>?_) (fun p x=>?_) rfl
  ·show (nAt (newW n) x.Node).bind _=none
   cases hn:nAt (newW n) x.Node with
   | none=>rfl
   | some q=>
    obtain ⟨i,_,hi,rfl⟩:=ZaO_.1 hn;rw [hg i hi];rfl
  ·show (nAt (newW n) p).bind _=none
   cases hn:nAt (newW n) p with
   | none=>rfl
   | some q=>
    obtain ⟨i,_,hi,rfl⟩:=ZaO_.1 hn;rw [hg i hi];rfl
  ·constructor
   ·rintro ⟨q,hn,hd⟩;obtain ⟨i,_,hi,rfl⟩:=ZaO_.1 hn;rw [hg i hi] at hd;cases hd
   ·exact fun h=>h.elim
 refine ⟨hl,h,⟨fun i hi=>?_,fun i hi=>?_,fun i hi=>?_⟩,fun i hi=>?_,by simp,by omega,fun b hb=>(by cases hb),fun b hb=>(by cases hb),by rw [ha];exact si0,fun i hi k t hg'=>?_,fun i hi k t hg'=>?_,fun i hi k r hg'=>?_,fun m hm=>(by cases hm),by simp [newW],⟨Int.le_refl 0,by show (0:Int)≤_;omega⟩⟩
 ·rw [hg i hi];exact ⟨rfl,rfl⟩
 ·rw [hg i hi];exact qej_ (hfi i hi)
 ·rw [hg i hi];exact Qeg_ (hfi i hi) (by unfold fits;omega)
 ·rw [hg i hi];show (1:Int)≤1∧(1:Int)≤((0:Nat):Int)+1;omega
 ·rw [hg i hi] at hg';cases hg'
 ·rw [hg i hi] at hg';cases hg'
 ·rw [hg i hi] at hg';cases hg'
theorem PPlay.log {m:Nat} {w w':PW} {k a e:Int} {works:List Work} (h:PPlay m w k a works w' e):w'.log.length≤w.log.length+1:=by
 cases h with
 | deliver h1 j ha hj w1 out hh=>exact hh.len
 | fail h1 j ha hj w1 w2 out hh i hi hc=>
  have h2:=hh.len
  cases hc
  exact h2
 | crash h1 i ha hi _ hc=>cases hc;exact Nat.le_succ _
 | _=>exact Nat.le_succ _
def kaW:ByteArray:=⟨#[97]⟩
def kbW:ByteArray:=⟨#[98]⟩
def aW:Work:=⟨1,[kaW],[]⟩
def bW:Work:=⟨1,[kbW],[]⟩
def xW:Txn:=⟨0,1,1⟩
def nd0 (i:Int):PS:=⟨i,⟨[],[],[]⟩,[]⟩
def nd1 (i:Int) (w:Work) (d:List Value):PS:=⟨i,QV_ ⟨[],[],[]⟩ xW w d,[]⟩
def tW (c1 c2:List Value):TX:=zf_ 0 [((0:Int),(c1,aW)),(1,(c2,bW))]
def cW (t:TX):CS:=⟨0,1,1,[((0,1,1),t)]⟩
def cN (i:Int):CS:=⟨i,1,0,[]⟩
def qcF_ (i:Int):Message:={Qk_ with From:=i,To:=0,Kind:=2,Txn:=xW,Yes:=true}
def recV (w:Work):Rec:=⟨2,xW,w,false,[]⟩
theorem prW {w:Work} (hw:w=aW∨w=bW):zK_ ⟨[],[],[]⟩ xW w=0:=by
 unfold zK_;rcases hw with rfl | rfl
 ·rw [if_neg (by decide),if_neg (by rw [qaj_];decide),if_pos (by decide)]
 ·rw [if_neg (by decide),if_neg (by rw [qaj_];decide),if_pos (by decide)]
theorem qee_ {i:Int} {w:Work} {d:List Value} (hw:w=aW∨w=bW):zk_ (nd0 i) (zt_ 0 xW i w)=[qcF_ i]∧qh_ (nd0 i) (zt_ 0 xW i w)=[recV w]∧Zm_ (nd0 i) (zt_ 0 xW i w) d=nd1 i w d:=by
 have hf:¬¬forMe (nd0 i) (zt_ 0 xW i w):=fun h=>h ⟨rfl,rfl⟩;have h1:(zt_ 0 xW i w).Kind=1:=rfl;have hd:¬isD (nd0 i) (zt_ 0 xW i w).Txn:=by unfold isD;simp [nd0,mget]
 have hp:¬isP (nd0 i) (zt_ 0 xW i w).Txn:=by unfold isP;simp [nd0,mget]
 have h0:zK_ (nd0 i).t (zt_ 0 xW i w).Txn (zt_ 0 xW i w).Work=0:=prW hw;refine ⟨?_,?_,?_⟩
 ·unfold zk_;rw [if_neg hf,if_pos h1,if_neg hd,decide_eq_true (p:=_∨_) (.inr h0)];rfl
 ·unfold qh_;rw [if_neg hf,if_pos h1,if_neg hd,if_neg hp,if_pos h0];rfl
 ·unfold Zm_;rw [if_neg hf,if_pos h1,if_neg hd,if_neg hp,if_pos h0];rfl
theorem dl0 {n:Nat} {w w':PW} {m:Message} {l:List Message} {e:Int} {works:List Work} (hn:w.net=m::l) (h:PPlay n w 2 0 works w' e):e=0∧∃w1 out,PHear {w with net:=l} m w1 out∧w'={w1 with net:=Qv_ w1.net out}:=by
 have hin:inN w.net 0:=by unfold inN;rw [hn,List.length_cons];omega
 cases h with
 | bad h=>exact absurd (.inr (.inr (.inr (.inl rfl)))) h
 | begin hk=>omega
 | none hk h=>exact absurd hin h
 | deliver hk j ha h w1 out hh=>
  obtain rfl:j=0:=by omega
  have e1:delM w.net 0=l:=by rw [hn];rfl
  have e2:w.net[0]=m:=by simp only [hn];rfl
  rw [e1,e2] at hh;exact ⟨rfl,w1,out,hh,rfl⟩
 | fail hk=>omega
 | drop hk=>omega
 | copy hk=>omega
 | full hk=>omega
 | step hk=>omega
 | tick hk=>omega
 | crash hk=>omega
theorem bg0 {n:Nat} {w':PW} {e:Int} (h:PPlay n (newW 2) 1 0 [aW,bW] w' e):e=0∧∃c1 c2,w'=⟨[⟨nd0 0,cW (tW c1 c2)⟩,⟨nd0 1,cN 1⟩],[zt_ 0 xW 0 aW,zt_ 0 xW 1 bW],0,[]⟩:=by
 have hl:(newW 2).ns.length=2:=rfl
 cases h with
 | bad h=>exact absurd (.inl ⟨rfl,⟨Int.le_refl _,by rw [hl];decide⟩,by rw [hl];decide⟩) h
 | begin hk i ha h hn ws hw=>
  obtain rfl:i=0:=by omega
  have hw2:pq ws=[((0:Int),aW),(1,bW)]:=hw
  match ws,hw2 with
  | [(a,(c1,w1)),(b,(c2,w2))],h=>
   simp only [pq,List.map_cons,List.map_nil,List.cons.injEq,Prod.mk.injEq,and_true] at h;obtain ⟨⟨rfl,rfl⟩,rfl,rfl⟩:=h;exact ⟨rfl,c1,c2,rfl⟩
  | [],h=>simp [pq] at h
  | [_],h=>simp [pq] at h
  | _::_::_::_,h=>simp [pq] at h
 | none hk=>omega
 | deliver hk=>omega
 | fail hk=>omega
 | drop hk=>omega
 | copy hk=>omega
 | full hk=>omega
 | step hk=>omega
 | tick hk=>omega
 | crash hk=>omega
theorem hp0 {w w':PW} {m:Message} {out:List Message} (k:ZR_ m) {i:Nat} (hm:m.To=i) (hi:i<w.ns.length) (h:PHear w m w' out):∃cs,w'={setN w i ⟨Zm_ w.ns[i].ps m cs,w.ns[i].cs⟩ with log:=w.log++qn_ m.To (qh_ w.ns[i].ps m)}∧out=zk_ w.ns[i].ps m:=by
 cases h with
 | part k' j hj h cs=>
  obtain rfl:j=i:=by omega
  exact ⟨cs,rfl,rfl⟩
 | coord k'=>exact absurd k k'
theorem hc0 {w w':PW} {m:Message} {out:List Message} (k:¬ZR_ m) {i:Nat} (hm:m.To=i) (hi:i<w.ns.length) (h:PHear w m w' out):w'={setN w i ⟨w.ns[i].ps,(zh_ w.ns[i].cs m).s⟩ with log:=w.log++qn_ m.To (zh_ w.ns[i].cs m).rc}∧out=(zh_ w.ns[i].cs m).out:=by
 cases h with
 | part k'=>exact absurd k' k
 | coord k' j hj h=>
  obtain rfl:j=i:=by omega
  exact ⟨rfl,rfl⟩
def W1 (t:TX):PW:=⟨[⟨nd0 0,cW t⟩,⟨nd0 1,cN 1⟩],[zt_ 0 xW 0 aW,zt_ 0 xW 1 bW],0,[]⟩
def W2 (t:TX) (d:List Value):PW:=⟨[⟨nd1 0 aW d,cW t⟩,⟨nd0 1,cN 1⟩],[zt_ 0 xW 1 bW,qcF_ 0],0,[⟨0,recV aW⟩]⟩
def W3 (t:TX) (d d':List Value):PW:=⟨[⟨nd1 0 aW d,cW t⟩,⟨nd1 1 bW d',cN 1⟩],[qcF_ 0,qcF_ 1],0,[⟨0,recV aW⟩,⟨1,recV bW⟩]⟩
def W4 (t:TX) (d d':List Value):PW:=⟨[⟨nd1 0 aW d,cW (qx_ t 0)⟩,⟨nd1 1 bW d',cN 1⟩],[qcF_ 1],0,[⟨0,recV aW⟩,⟨1,recV bW⟩]⟩
def W5 (t:TX) (d d':List Value):PW:=⟨[⟨nd1 0 aW d,cW (Zav_ t)⟩,⟨nd1 1 bW d',cN 1⟩],[decM 0 xW 0 true,decM 0 xW 1 true],0,[⟨0,recV aW⟩,⟨1,recV bW⟩,⟨0,recC xW [0,1]⟩]⟩
theorem dl1 {n:Nat} {t:TX} {w':PW} {e:Int} {works:List Work} (h:PPlay n (W1 t) 2 0 works w' e):e=0∧∃d,w'=W2 t d:=by
 obtain ⟨he,w1,out,hh,rfl⟩:=dl0 (w:=W1 t) rfl h;obtain ⟨d,rfl,rfl⟩:=hp0 (.inl rfl) (i:=0) rfl (show _<2 by decide) hh;obtain ⟨h1,h2,h3⟩:=qee_ (i:=0) (d:=d) (.inl rfl);refine ⟨he,d,?_⟩;show PW.mk [⟨Zm_ (nd0 0) (zt_ 0 xW 0 aW) d,cW t⟩,⟨nd0 1,cN 1⟩] (Qv_ [zt_ 0 xW 1 bW] (zk_ (nd0 0) (zt_ 0 xW 0 aW))) 0 ([]++qn_ 0 (qh_ (nd0 0) (zt_ 0 xW 0 aW)))=_;rw [h1,h2,h3];rfl
theorem dl2 {n:Nat} {t:TX} {d:List Value} {w':PW} {e:Int} {works:List Work} (h:PPlay n (W2 t d) 2 0 works w' e):e=0∧∃d',w'=W3 t d d':=by
 obtain ⟨he,w1,out,hh,rfl⟩:=dl0 (w:=W2 t d) rfl h;obtain ⟨d',rfl,rfl⟩:=hp0 (.inl rfl) (i:=1) rfl (show _<2 by decide) hh;obtain ⟨h1,h2,h3⟩:=qee_ (i:=1) (d:=d') (.inr rfl);refine ⟨he,d',?_⟩;show PW.mk [⟨nd1 0 aW d,cW t⟩,⟨Zm_ (nd0 1) (zt_ 0 xW 1 bW) d',cN 1⟩] (Qv_ [qcF_ 0] (zk_ (nd0 1) (zt_ 0 xW 1 bW))) 0 ([⟨0,recV aW⟩]++qn_ 1 (qh_ (nd0 1) (zt_ 0 xW 1 bW)))=_;rw [h1,h2,h3];rfl
theorem v97_ {P:Prop} (h:P:=by
 obtain ⟨rfl,rfl⟩:=hc0 (by decide) (i:=0) rfl (show _<2 by decide) hh;exact ⟨he,rfl⟩):P:=h
theorem dl3 {n:Nat} {c1 c2 d d':List Value} {w':PW} {e:Int} {works:List Work} (h:PPlay n (W3 (tW c1 c2) d d') 2 0 works w' e):e=0∧w'=W4 (tW c1 c2) d d':=by
 obtain ⟨he,w1,out,hh,rfl⟩:=dl0 (w:=W3 (tW c1 c2) d d') rfl h;exact v97_
theorem dl4 {n:Nat} {c1 c2 d d':List Value} {w':PW} {e:Int} {works:List Work} (h:PPlay n (W4 (tW c1 c2) d d') 2 0 works w' e):e=0∧w'=W5 (tW c1 c2) d d':=by
 obtain ⟨he,w1,out,hh,rfl⟩:=dl0 (w:=W4 (tW c1 c2) d d') rfl h;exact v97_
def mvA:List Move:=[⟨1,0,[aW,bW]⟩,⟨2,0,[]⟩,⟨2,0,[]⟩,⟨2,0,[]⟩,⟨2,0,[]⟩]
def AtA:Nat→PW→Prop
  | 0,w=>w=newW 2
  | 1,w=>∃c1 c2,w=W1 (tW c1 c2)
  | 2,w=>∃c1 c2 d,w=W2 (tW c1 c2) d
  | 3,w=>∃c1 c2 d d',w=W3 (tW c1 c2) d d'
  | 4,w=>∃c1 c2 d d',w=W4 (tW c1 c2) d d'
  | _,w=>∃c1 c2 d d',w=W5 (tW c1 c2) d d'
theorem AtA.next {n j:Nat} {w w':PW} {e:Int} (h:AtA j w) (hj:j<mvA.length) (hp:PPlay n w mvA[j].Kind mvA[j].A mvA[j].Works w' e):e=0∧AtA (j+1) w':=by
 match j,h,hj,hp with
 | 0,h,_,hp=>
  cases h
  obtain ⟨he,c1,c2,rfl⟩:=bg0 hp;exact ⟨he,c1,c2,rfl⟩
 | 1,h,_,hp=>
  obtain ⟨c1,c2,rfl⟩:=h;obtain ⟨he,d,rfl⟩:=dl1 hp;exact ⟨he,c1,c2,d,rfl⟩
 | 2,h,_,hp=>
  obtain ⟨c1,c2,d,rfl⟩:=h;obtain ⟨he,d',rfl⟩:=dl2 hp;exact ⟨he,c1,c2,d,d',rfl⟩
 | 3,h,_,hp=>
  obtain ⟨c1,c2,d,d',rfl⟩:=h;obtain ⟨he,rfl⟩:=dl3 hp;exact ⟨he,c1,c2,d,d',rfl⟩
 | 4,h,_,hp=>
  obtain ⟨c1,c2,d,d',rfl⟩:=h;obtain ⟨he,rfl⟩:=dl4 hp;exact ⟨he,c1,c2,d,d',rfl⟩
 | j+5,_,hj,_=>exact absurd hj (by simp [mvA])
theorem zee_:OkW aW∧OkW bW:=by
 have h1:fits (1:Int):=by unfold fits;omega
 exact ⟨⟨by decide,by decide,h1,by decide⟩,⟨by decide,by decide,h1,by decide⟩⟩
theorem Qee_ {j:Nat} (hj:j<mvA.length):∀x∈mvA[j].Works,OkW x:=by
 have h:∀m∈mvA,∀x∈m.Works,OkW x:=fun m hm x hx=>by
  simp only [mvA,List.mem_cons,List.not_mem_nil,or_false] at hm;rcases hm with rfl | rfl | rfl | rfl | rfl
  ·simp only [List.mem_cons,List.not_mem_nil,or_false] at hx;rcases hx with rfl | rfl
   ·exact zee_.1
   ·exact zee_.2
  all_goals cases hx
 exact h _ (List.getElem_mem hj)
end Go.Proofs.YtlflbkpmfhhikaaGreatDoor
