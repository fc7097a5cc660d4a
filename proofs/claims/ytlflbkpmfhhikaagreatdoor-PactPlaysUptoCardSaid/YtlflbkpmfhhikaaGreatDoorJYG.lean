/- Whatever is played, a world keeps to its own. No program in sight. -/
import Derived.Test.YtlflbkpmfhhikaaGreatDoorJXI
import Derived.Test.YtlflbkpmfhhikaaGreatDoorJYD
set_option linter.unusedVariables false
set_option linter.unusedSimpArgs false
namespace Go.Proofs.YtlflbkpmfhhikaaGreatDoor
open Go Go.Sx Go.Proofs
theorem Qcv_ {K:Nat} {s:CS} (I:CInv K s) (k:K3):mget k (qr_ s).ts=(mget k s.ts).bind fun t=>if t.op=true then some ⟨true,0,t.parts,[],[]⟩ else none:=by
 have hall:∀k t,mget k (loadTs (openL s) [])=some t→∃t0,mget k s.ts=some t0∧t0.op=true∧t=⟨true,0,t0.parts,[],[]⟩:=by
  refine qaq_ (fun k t h=>(by cases h)) fun r hr=>?_;obtain ⟨k0,t0,h1,h2,rfl⟩:=Qbg_ hr;refine ⟨t0,?_,h2,rfl⟩;show mget (toTx k0).k s.ts=_;rw [QD_];exact h1
 show mget k (loadTs (openL s) [])=_
 cases hg:mget k (loadTs (openL s) []) with
 | some t=>
  obtain ⟨t0,h1,h2,rfl⟩:=hall k t hg;rw [h1];simp [h2]
 | none=>
  cases hs:mget k s.ts with
  | none=>rfl
  | some t=>
   by_cases ho:t.op=true
   ·exfalso
    have:(mget k (loadTs (openL s) [])).isSome=true:=by
     rw [zbg_];right;refine ⟨recC (toTx k) t.parts,?_,QD_ k⟩;unfold openL;refine List.mem_map.2 ⟨k,List.mem_filter.2 ⟨Qad_.2 (by rw [hs];rfl),?_⟩,?_⟩
     ·rw [hs];exact ho
     ·rw [hs];rfl
    rw [hg] at this;cases this
   ·simp [ho]
theorem QcI_ {K n:Nat} {B:List BT} {w w':PW} {i:Nat} (N:NOk K w) (S:SI B (absW w)) (h:PCrash n w i w'):SI B (absW w')∧Nxt B B (absW w) (absW w'):=by
 cases h with
 | mk h s' hs hI=>
  have IC:=N.C i h
  have e:absW {setN w i ⟨s',qr_ w.ns[i].cs⟩ with net:=Net.clr i w.net}={absW w with st:=fun x=>if x.Node=i then (mget x.k (qr_ w.ns[i].cs).ts).map viewT else (absW w).st x}:=by
   refine AS.eq (fun x=>?_) (fun p x=>?_) (fun p x=>?_) rfl
   ·exact zbq_ (l:=w.log) (nt:=Net.clr i w.net) h x
   ·refine (Qbq_ (l:=w.log) (nt:=Net.clr i w.net) h p x).trans ?_;split
    ·next e=>rw [e];exact (hs.w x.k).trans (Zcc_ h).symm
    ·rfl
   ·refine (qaX_ (l:=w.log) (nt:=Net.clr i w.net) h p x).trans ?_;split
    ·next e=>
     rw [e];refine Iff.trans ?_ (QcJ_ h).symm;unfold isD;rw [hs.d]
    ·rfl
  rw [e];refine S.weak fun x=>?_;by_cases hx:x.Node=i
  ·rw [if_pos hx,ZaW_ h hx,Qcv_ IC]
   cases hg:mget x.k w.ns[i].cs.ts with
   | none=>exact .inl rfl
   | some t=>
    cases ho:t.op with
    | false=>exact .inr (.inl ⟨by simp [ho],fun t' ht'=>by cases ht';exact ho⟩)
    | true=>exact .inr (.inr ⟨viewT t,viewT ⟨true,0,t.parts,[],[]⟩,rfl,ho,by simp [ho],rfl,rfl,fun p hp=>by cases hp⟩)
  ·rw [if_neg hx];exact .inl rfl
def WkOk (B:List BT) (w:PW):Prop:=∀i (h:i<w.ns.length) k t,mget k w.ns[i].cs.ts=some t→t.op=false→∃b∈B,b.x=toTx k∧pq t.works=b.ws
theorem zeh_ {t:TX} {p:Int} (hk:t.works.map (·.1)=t.parts) (hp:p∈t.parts):(p,t.wk p)∈pq t.works:=by
 rw [←hk] at hp;obtain ⟨v,hv⟩:=zG_.1 hp;unfold TX.wk pq;rw [hv];exact List.mem_map.2 ⟨(p,v),qu_ hv,rfl⟩
theorem QdA_ {K:Nat} {B:List BT} {w:PW} {i:Nat} (N:NOk K w) (S:SI B (absW w)) (W:WkOk B w) (h:i<w.ns.length) {k:K3} {t:TX} (hg:mget k w.ns[i].cs.ts=some t) {m:Message} (hm:m∈Zi_ w.ns[i].cs.node (toTx k) t):JM B (absW w) m∧zae_ m:=by
 obtain ⟨_,hnode⟩:=N.sh i h;have IC:=N.C i h;have hx:(toTx k).Node=i:=by rw [←hnode];exact (IC.kn k t hg).1
 have hst:(absW w).st (toTx k)=some (viewT t):=by rw [ZaW_ h hx,QD_,hg];rfl
 unfold Zi_ at hm;obtain ⟨p,hp,rfl⟩:=List.mem_map.1 hm;have hpp:=(List.mem_filter.1 hp).1;have hpt:ptB B (toTx k) p:=(S.part hst).2 hpp;unfold qbF_;by_cases ho:t.op=true
 ·rw [if_pos ho];exact ⟨JM.dec rfl hpt (by show w.ns[i].cs.node=_;rw [hnode,←hx];rfl) (fun _=>(S.op _ _ hst ho).1) (fun hy=>by cases hy),fun _=>rfl⟩
 ·rw [if_neg ho];have ho':t.op=false:=by simpa using ho
  obtain ⟨b,hb,hbx,hbw⟩:=W i h k t hg ho';refine ⟨JM.prep rfl ⟨b,hb,hbx,?_⟩ (by show w.ns[i].cs.node=_;rw [hnode,←hx];rfl),fun hk=>absurd rfl hk⟩;rw [←hbw];exact zeh_ ((IC.ti k t hg).wk ho') hpp
theorem qcY_ {K:Nat} {B:List BT} {w:PW} {i:Nat} {now:Int} (N:NOk K w) (S:SI B (absW w)) (W:WkOk B w) (h:i<w.ns.length):Turn B w (setN w i ⟨w.ns[i].ps,Qq_ w.ns[i].cs now⟩) (Qz_ w.ns[i].cs now++askL w.ns[i].ps):=by
 obtain ⟨hsh,hnode⟩:=N.sh i h;have IC:=N.C i h
 have e:absW (setN w i ⟨w.ns[i].ps,Qq_ w.ns[i].cs now⟩)={absW w with st:=fun x=>if x.Node=i then (mget x.k (Qq_ w.ns[i].cs now).ts).map viewT else (absW w).st x}:=by
  refine AS.eq (fun x=>?_) (fun p x=>?_) (fun p x=>?_) rfl
  ·exact zbq_ (l:=w.log) (nt:=w.net) h x
  ·refine (Qbq_ (l:=w.log) (nt:=w.net) h p x).trans ?_;exact v119_
  ·refine (qaX_ (l:=w.log) (nt:=w.net) h p x).trans ?_;exact v118_
 have hget:∀k,mget k (Qq_ w.ns[i].cs now).ts=(mget k w.ns[i].cs.ts).bind fun t=>if qv_ t now then none else some t:=fun k=>by
  cases hg:mget k w.ns[i].cs.ts with
  | none=>
   cases hs:mget k (Qq_ w.ns[i].cs now).ts with
   | none=>rfl
   | some t=>have:=((zT_ IC).1 hs).1;rw [hg] at this;cases this
  | some t=>
   by_cases hu:qv_ t now
   ·cases hs:mget k (Qq_ w.ns[i].cs now).ts with
    | none=>simp [hu]
    | some t'=>have:=(zT_ IC).1 hs;rw [hg] at this;obtain ⟨h1,h2⟩:=this;cases h1;exact absurd hu h2
   ·rw [(zT_ IC).2 ⟨hg,hu⟩];simp [hu]
 have hw:=S.weak (st':=fun x=>if x.Node=i then (mget x.k (Qq_ w.ns[i].cs now).ts).map viewT else (absW w).st x) fun x=>by
  by_cases hx:x.Node=i
  ·rw [if_pos hx,ZaW_ h hx,hget]
   cases hg:mget x.k w.ns[i].cs.ts with
   | none=>exact .inl rfl
   | some t=>
    by_cases hu:qv_ t now
    ·exact .inr (.inl ⟨by simp [hu],fun t' ht'=>by cases ht';exact hu.1⟩)
    ·exact .inl (by simp [hu])
  ·rw [if_neg hx];exact .inl rfl
 unfold Turn;rw [e];refine ⟨hw.1,hw.2,fun g hg=>?_⟩;rcases List.mem_append.1 hg with hg | hg
 ·unfold Qz_ at hg;obtain ⟨k,hk,hg⟩:=List.mem_flatMap.1 hg;have hk':=Qad_.1 hk
  cases hs:mget k w.ns[i].cs.ts with
  | none=>rw [hs] at hk';cases hk'
  | some t=>
   unfold ZJ_ at hg;rw [hs,Option.getD_some] at hg;have hx:(toTx k).Node=i:=by rw [←hnode];exact (IC.kn k t hs).1
   have hst:(absW w).st (toTx k)=some (viewT t):=by rw [ZaW_ h hx,QD_,hs];rfl
   split at hg
   ·next hu=>
    unfold noL at hg;obtain ⟨p,hp,rfl⟩:=List.mem_map.1 hg;refine ⟨JM.dec rfl ((S.part hst).2 hp) (by show w.ns[i].cs.node=_;rw [hnode,←hx];rfl) (fun hy=>by cases hy) fun _=>?_,fun _=>rfl⟩;show (if (toTx k).Node=i then (mget (toTx k).k (Qq_ w.ns[i].cs now).ts).map viewT else _)=none;rw [if_pos hx,QD_,hget,hs];simp [hu]
   ·obtain ⟨h1,h2⟩:=QdA_ N S W h hs hg;exact ⟨h1.next hw.2,h2⟩
 ·unfold askL at hg;obtain ⟨q,hq,rfl⟩:=List.mem_map.1 hg;have hwk:(absW w).wk i q.Txn=some q.Work:=by rw [Zcc_ h];exact (N.P i h).t.recs hq
  refine ⟨JM.ask rfl ?_ rfl,fun _=>rfl⟩;show ptB B q.Txn w.ns[i].ps.sh;rw [hsh];exact (S.wb _ _ _ hwk).pt
theorem ZcI_ {K:Nat} {B:List BT} {w:PW} {i:Nat} {now:Int} {ws:List (Int×CW)} (N:NOk K w) (S:SI B (absW w)) (h:i<w.ns.length) (hne:ws≠[]) (hnd:(ws.map (·.1)).Nodup) (hf:¬knB B (newX w.ns[i].cs)):
  SI (⟨newX w.ns[i].cs,pq ws⟩::B) (absW (setN w i ⟨w.ns[i].ps,Qg_ w.ns[i].cs now ws⟩))∧Nxt B (⟨newX w.ns[i].cs,pq ws⟩::B) (absW w) (absW (setN w i ⟨w.ns[i].ps,Qg_ w.ns[i].cs now ws⟩))∧
   ∀g∈saidB w.ns[i].cs now ws,JM (⟨newX w.ns[i].cs,pq ws⟩::B) (absW (setN w i ⟨w.ns[i].ps,Qg_ w.ns[i].cs now ws⟩)) g∧zae_ g:=by
 obtain ⟨hsh,hnode⟩:=N.sh i h;have hx:(newX w.ns[i].cs).Node=i:=hnode;have hps:(⟨newX w.ns[i].cs,pq ws⟩:BT).ps=ws.map (·.1):=qcF_;have hv:viewT (Zp_ now ws)=⟨false,(⟨newX w.ns[i].cs,pq ws⟩:BT).ps,fun _=>false⟩:=by rw [hps];rfl
 have e:absW (setN w i ⟨w.ns[i].ps,Qg_ w.ns[i].cs now ws⟩)=setS (absW w) (newX w.ns[i].cs) (some ⟨false,(⟨newX w.ns[i].cs,pq ws⟩:BT).ps,fun _=>false⟩):=by
  refine (qcJ_ (l:=w.log) h hx (v:=some (viewT (Zp_ now ws))) fun y _=>?_).trans (by rw [hv];rfl);unfold Qg_;rw [if_neg hne];show (mget y.k (mset (newX w.ns[i].cs).k (Zp_ now ws) w.ns[i].cs.ts)).map viewT=_;rw [Qe_];by_cases ey:y=newX w.ns[i].cs
  ·rw [if_pos ey,if_pos (by rw [ey])];rfl
  ·rw [if_neg ey,if_neg fun e1=>ey (qbc_ e1)]
 have hS:=S.begin (b:=⟨newX w.ns[i].cs,pq ws⟩) hf fun q hq q' hq' e1=>by
  have hn2:((pq ws).map (·.1)).Nodup:=by rw [qcF_];exact hnd
  have h1:=zi_ hn2 hq;have h2:=zi_ hn2 hq';rw [e1,h2] at h1;exact Prod.ext e1 (by simpa using h1.symm)
 rw [e];refine ⟨hS.1,hS.2,fun g hg=>?_⟩;unfold saidB at hg;rw [if_neg hne] at hg;unfold Zi_ at hg;obtain ⟨p,hp,rfl⟩:=List.mem_map.1 hg;have hpp:p∈ws.map (·.1):=(List.mem_filter.1 hp).1;refine ⟨JM.prep rfl ⟨⟨newX w.ns[i].cs,pq ws⟩,List.mem_cons_self ..,rfl,?_⟩ rfl,fun hk=>absurd rfl hk⟩;exact zeh_ (t:=Zp_ now ws) rfl hpp
def HdOk (B:List BT) (w:PW):Prop:=∀i (h:i<w.ns.length) key r,mget key w.ns[i].ps.t.held=some r→∃b∈B,∃u:Work,((i:Int),u)∈b.ws∧key∈u.Take∧r=u.Robot∧(absW w).dn i b.x
structure WInv (n K:Nat) (B:List BT) (w:PW):Prop where
  len:w.ns.length=n
  n4:1≤n∧n≤4
  N:NOk K w
  life:∀i (h:i<w.ns.length),1≤w.ns[i].cs.life∧w.ns[i].cs.life≤K+1
  bl:B.length≤K
  k3:K≤300
  bx:∀b∈B,∃(i:Nat) (h:i<w.ns.length),b.x.Node=i∧okX b.x.k∧b.x.Life≤w.ns[i].cs.life∧(b.x.Life=w.ns[i].cs.life→b.x.Count≤w.ns[i].cs.count)
  bw:∀b∈B,(b.ws.map (·.1)).Pairwise (· < ·)∧∀q∈b.ws,0≤q.1∧q.1<n∧OkW q.2
  S:SI B (absW w)
  W:WkOk B w
  bg:∀i (h:i<w.ns.length) k t,mget k w.ns[i].cs.ts=some t→t.op=false→t.began≤w.now
  hd:HdOk B w
  J:∀m∈w.net,JM B (absW w) m∧zae_ m
  nl:w.net.length≤64
  now:0≤w.now∧w.now≤1073741824
theorem okz0:OkW Qae_:=⟨by simp [Qae_],by simp [Qae_],qh_,fun k hk=>by cases hk⟩
theorem WInv.part {n K:Nat} {B:List BT} {w:PW} (I:WInv n K B w) {x:Txn} {p:Int} (h:ptB B x p):0≤p∧p<n:=by
 obtain ⟨b,hb,_,hp⟩:=h;obtain ⟨q,hq,rfl⟩:=List.mem_map.1 hp;have:=(I.bw b hb).2 q hq;exact ⟨this.1,this.2.1⟩
theorem WInv.kn {n K:Nat} {B:List BT} {w:PW} (I:WInv n K B w) {x:Txn} (h:knB B x):okX x.k∧zn_ w x.Node:=by
 obtain ⟨b,hb,rfl⟩:=h;obtain ⟨i,hi,h1,h2,_⟩:=I.bx b hb;exact ⟨h2,by unfold zn_;omega⟩
theorem WInv.msg {n K:Nat} {B:List BT} {w:PW} (I:WInv n K B w) {m:Message} (h:JM B (absW w) m∧zae_ m):OkM m∧zn_ w m.To:=by
 obtain ⟨J,hw⟩:=h;refine ⟨⟨?_,(I.kn J.kn).1⟩,?_⟩
 ·by_cases k:m.Kind=1
  ·obtain ⟨_,b,hb,_,hq⟩:=J.k1 k;exact ((I.bw b hb).2 _ hq).2.2
  ·rw [hw k];exact okz0
 ·have hl:=I.len;rcases J.kd with k | k | k | k | k
  ·have:=I.part (J.k1 k).2.pt;unfold zn_;omega
  ·rw [(J.kp (.inl k)).1];exact (I.kn J.kn).2
  ·have:=I.part (J.k3 k).2.1;unfold zn_;omega
  ·rw [(J.kp (.inr (.inl k))).1];exact (I.kn J.kn).2
  ·rw [(J.kp (.inr (.inr k))).1];exact (I.kn J.kn).2
theorem PInv.fit {K n' i:Nat} {B:List BT} {w:PW} (h:i<w.ns.length) (S:SI B (absW w)) (H:HdOk B w) (hbw:∀b∈B,(b.ws.map (·.1)).Pairwise (· < ·)∧∀q∈b.ws,OkW q.2) (hP:PInv n' w.ns[i].ps) (hB:B.length≤K):PInv K w.ns[i].ps:=by
 have hkey:∀{l:List K3},l.Nodup→(∀k∈l,knB B (toTx k))→l.length≤K:=fun {l} hn hl=>by
  have hs:∀k∈l,k∈B.map fun b=>b.x.k:=fun k hk=>by
   obtain ⟨b,hb,e⟩:=hl k hk;exact List.mem_map.2 ⟨b,hb,by show b.x.k=k;rw [e,QD_]⟩
  have:=ZA_ hn hs;rw [List.length_map] at this;omega
 have hwk:w.ns[i].ps.t.works.length≤K:=by
  have:=hkey (l:=w.ns[i].ps.t.works.map (·.1)) hP.t.wd fun k hk=>by
   obtain ⟨v,hv⟩:=zG_.1 hk;have:(absW w).wk i (toTx k)=some v.2:=by rw [Zcc_ h,QD_];unfold gW;rw [hv];rfl
   exact (S.wb _ _ _ this).pt.kn
  rwa [List.length_map] at this
 have hdn:w.ns[i].ps.done.length≤K:=by
  have:=hkey (l:=w.ns[i].ps.done.map (·.1)) hP.dd fun k hk=>by
   obtain ⟨v,hv⟩:=zG_.1 hk;have:(absW w).dn i (toTx k):=by rw [QcJ_ h];unfold isD;rw [QD_,hv];rfl
   exact (S.db _ _ this).2.kn
  rwa [List.length_map] at this
 have hhd:w.ns[i].ps.t.held.length≤40*K:=by
  have hlen:∀(C:List BT),(∀b∈C,(b.ws.map (·.1)).Pairwise (· < ·)∧∀q∈b.ws,OkW q.2)→(C.flatMap fun b=>((mget (i:Int) b.ws).getD Qae_).Take).length≤40*C.length:=by
   intro C
   induction C with
   | nil=>intro _;simp
   | cons b C ih=>
    intro hC;rw [List.flatMap_cons,List.length_append,List.length_cons];have h1:=ih fun c hc=>hC c (List.mem_cons_of_mem _ hc)
    have h2:((mget (i:Int) b.ws).getD Qae_).Take.length≤40:=by
     cases hg:mget (i:Int) b.ws with
     | none=>simp [Qae_]
     | some u=>exact ((hC b (List.mem_cons_self ..)).2 _ (qu_ hg)).take
    omega
  have hs:∀k∈w.ns[i].ps.t.held.map (·.1),k∈B.flatMap fun b=>((mget (i:Int) b.ws).getD Qae_).Take:=fun k hk=>by
   obtain ⟨v,hv⟩:=zG_.1 hk;obtain ⟨b,hb,u,h1,h2,_⟩:=H i h k v hv;refine List.mem_flatMap.2 ⟨b,hb,?_⟩;have hnd:(b.ws.map (·.1)).Nodup:=by rw [List.nodup_iff_pairwise_ne];exact (hbw b hb).1.imp fun h e=>by omega
   rw [zi_ hnd h1];exact h2
  have:=ZA_ hP.t.hd hs;rw [List.length_map] at this;have:=hlen B hbw;omega
 exact {hP with t:={hP.t with hn:=hhd,wn:=hwk},dn:=hdn}
theorem v41_ {P:Prop} (h:P:=by
 have T:=(I.N.C i h).ti k t hg;have hx:(toTx k).Node=i:=by rw [←(I.N.sh i h).2];exact ((I.N.C i h).kn k t hg).1
 have hst:(absW w).st (toTx k)=some (viewT t):=by rw [ZaW_ h hx,QD_,hg];rfl
 have hs:∀p∈t.parts,p∈(List.range n).map fun (j:Nat)=>(j:Int):=fun p hp=>by
  have:=I.part ((I.S.part hst).2 hp);exact List.mem_map.2 ⟨p.toNat,List.mem_range.2 (by omega),by omega⟩
 have:=ZA_ T.parts_nodup hs;rw [List.length_map,List.length_range] at this;have:=I.n4;omega):P:=h
theorem WInv.ok {n K:Nat} {B:List BT} {w:PW} (I:WInv n K B w) (hl:w.log.length≤900000000):WOk K w:=by
 have hm:∀q∈w.ns,∃(i:Nat) (h:i<w.ns.length),w.ns[i]=q:=fun q hq=>List.getElem_of_mem hq;refine ⟨fun q hq=>?_,fun q hq=>?_,fun q hq k t hg=>?_,by have:=I.k3;omega,hl,fun q hq=>?_,I.N.sh⟩
 ·obtain ⟨i,h,rfl⟩:=hm q hq;exact I.N.P i h
 ·obtain ⟨i,h,rfl⟩:=hm q hq;exact I.N.C i h
 ·obtain ⟨i,h,rfl⟩:=hm q hq;exact v41_
 ·obtain ⟨i,h,rfl⟩:=hm q hq;have:=I.life i h;have:=I.k3;unfold fits;omega
theorem NOk.set {K K' i:Nat} {w w':PW} {q:PN} (N:NOk K w) (hK:K≤K') (h:i<w.ns.length) (hw:w'.ns=w.ns.set i q) (h1:q.ps.sh=i) (h2:q.cs.node=i) (hP:PInv K' q.ps) (hC:CInv K' q.cs):NOk K' w':=by
 have hl:∀j,j<w'.ns.length→j<w.ns.length:=fun j hj=>by rw [hw,List.length_set] at hj;exact hj
 refine ⟨fun j hj=>?_,fun j hj=>?_,fun j hj=>?_⟩
 ·simp only [hw,List.getElem_set];split
  ·next e=>subst e;exact ⟨h1,h2⟩
  ·exact N.sh j (hl j hj)
 ·simp only [hw,List.getElem_set];split
  ·exact hP
  ·exact (N.P j (hl j hj)).more hK
 ·simp only [hw,List.getElem_set];split
  ·exact hC
  ·exact (N.C j (hl j hj)).more hK
theorem Qaz_ {l ms:List Message} {g:Message} (h:g∈Zq_ l ms):g∈l∨g∈ms:=by
 rw [qcz_] at h;rcases List.mem_append.1 h with h | h
 ·exact .inl h
 ·exact .inr (List.mem_of_mem_take h)
theorem Zaz_ {l ms:List Message} (h:l.length≤64):(Zq_ l ms).length≤64:=by
 rw [qcz_,List.length_append,List.length_take];omega
theorem zam_ {l:List Message} {j:Nat} {g:Message} (h:g∈delM l j):g∈l:=by
 unfold delM at h;rcases List.mem_append.1 h with h | h
 ·exact List.mem_of_mem_take h
 ·exact List.mem_of_mem_drop h
theorem Qam_ {l:List Message} {j:Nat}:(delM l j).length≤l.length:=by
 unfold delM;rw [List.length_append,List.length_take,List.length_drop];omega
theorem zdA_ {n:Nat} {s:CS} (I:CInv n s) {m:Message} {k:K3} {t':TX} (h:mget k (Zh_ s m).s.ts=some t') (ho:t'.op=false):∃t,mget k s.ts=some t∧t.op=false∧t'.works=t.works∧t'.began=t.began:=by
 have hcut:∀{x:K3},mget k (s.cut x).ts=some t'→∃t,mget k s.ts=some t∧t.op=false∧t'.works=t.works∧t'.began=t.began:=fun {x} h=>⟨t',QJ_ I.nd h,ho,rfl,rfl⟩
 have hput:∀{x:Txn} {t:TX},s.isT x→(t.op=false→t.op=(s.tx x).op∧t.works=(s.tx x).works∧t.began=(s.tx x).began)→mget k (s.put x.k t).ts=some t'→∃t,mget k s.ts=some t∧t.op=false∧t'.works=t.works∧t'.began=t.began:=fun {x t} hx hp h=>by
  have h':mget k (mset x.k t s.ts)=some t':=h;rw [Qe_] at h';split at h'
  ·next e=>
   cases h'
   obtain ⟨g1,g2,g3⟩:=hp ho;exact ⟨s.tx x,e▸CS.get_tx hx,g1▸ho,g2,g3⟩
  ·exact ⟨t',h',ho,rfl,rfl⟩
 unfold Zh_ at h;split at h
 ·exact ⟨t',h,ho,rfl,rfl⟩
 split at h
 ·exact ⟨t',h,ho,rfl,rfl⟩
 split at h
 ·exact hcut h
 split at h
 ·next hh=>
  split at h
  ·exact hput (t:=zy_ (s.tx m.Txn) m.From) hh.2.1.1 (fun _=>⟨rfl,rfl,rfl⟩) h
  ·exact hput (t:=ZaG_ (s.tx m.Txn)) hh.2.1.1 (fun h=>by cases h) h
 split at h
 ·next hh=>
  split at h
  ·exact hput (t:=zy_ (s.tx m.Txn) m.From) hh.2.1.1 (fun _=>⟨rfl,rfl,rfl⟩) h
  ·exact hcut h
 ·exact ⟨t',h,ho,rfl,rfl⟩
theorem Qcc_ {s:CS} {m:Message}:(Zh_ s m).s.count=s.count:=by
 unfold Zh_
 repeat' split
 all_goals rfl
theorem ZcX_ {K:Nat} {s:PS} {m:Message} {cs:List Value} (I:PInv K s) {key:ByteArray} {r:Int} (h:mget key (Qm_ s m cs).t.held=some r):
  mget key s.t.held=some r∨(∃u,gW s.t m.Txn.k=some u∧key∈u.Take∧r=u.Robot∧isD (Qm_ s m cs) m.Txn):=by
 rcases zbr_ s m with ⟨_,_,h3⟩ | ⟨_,_,_,_,_,_,h3⟩ | ⟨_,_,_,_,_,_,_,h3⟩ | ⟨_,_,_,_,_,_,_,h3⟩ | ⟨_,_,hp,_,_,h3⟩ | ⟨_,_,_,_,_,h3⟩
 ·rw [h3] at h;exact .inl h
 ·rw [h3] at h;exact .inl h
 ·rw [h3] at h;exact .inl h
 ·rw [h3] at h;exact .inl h
 ·rw [h3] at h⊢;obtain ⟨u,hu⟩:=Zah_.1 hp;have h':mget key (Qx_ s.t m.Txn m.Yes).held=some r:=h;rw [ZbR_,hu] at h';simp only at h';unfold zM_ at h';simp only at h';split at h'
  ·next hy=>
   have g1:=(qax_ (r:=u.Robot) (k:=key) (ks:=u.Take) (qT_ (r:=u.Robot) (k:=key) (ks:=u.Drop) I.t.hd).2.1).1;rw [g1] at h';split at h'
   ·next hk=>
    cases h'
    refine .inr ⟨u,hu,hk,rfl,?_⟩;unfold isD;show (mget m.Txn.k (if m.Yes=true then mset m.Txn.k (Zy_ s m.Txn) s.done else s.done)).isSome=true;rw [if_pos hy,Qe_,if_pos rfl];rfl
   ·rw [(qT_ (r:=u.Robot) (k:=key) (ks:=u.Drop) I.t.hd).1] at h';split at h'
    ·cases h'
    ·exact .inl h'
  ·exact .inl h'
 ·rw [h3] at h;exact .inl h
theorem zN_ {w:PW} {i j:Nat} {q:PN} (hj:j<(w.ns.set i q).length):(w.ns.set i q)[j]=if i=j then q else w.ns[j]'(by rw [List.length_set] at hj;exact hj):=List.getElem_set ..
theorem HdOk.more {B B':List BT} {w w':PW} {i:Nat} {q:PN} (H:HdOk B w) (hi:i<w.ns.length) (hw:w'.ns=w.ns.set i q) (Nx:Nxt B B' (absW w) (absW w'))
  (hq:∀key r,mget key q.ps.t.held=some r→mget key w.ns[i].ps.t.held=some r∨∃b∈B',∃u:Work,((i:Int),u)∈b.ws∧key∈u.Take∧r=u.Robot∧(absW w').dn i b.x):HdOk B' w':=by
 intro j hj key r hr;have hj':j<w.ns.length:=by rw [hw,List.length_set] at hj;exact hj
 simp only [hw] at hr;rw [zN_] at hr
 have old:∀{j} (hj':j<w.ns.length),mget key w.ns[j].ps.t.held=some r→∃b∈B',∃u:Work,((j:Int),u)∈b.ws∧key∈u.Take∧r=u.Robot∧(absW w').dn j b.x:=fun {j} hj' hr=>by
  obtain ⟨b,hb,u,h1,h2,h3,h4⟩:=H j hj' key r hr;exact ⟨b,Nx.b b hb,u,h1,h2,h3,Nx.d _ _ h4⟩
 by_cases e:i=j
 ·subst e;rw [if_pos rfl] at hr;rcases hq key r hr with hr | hr
  ·exact old hj' hr
  ·exact hr
 ·rw [if_neg e] at hr;exact old hj' hr
theorem v74_ {P:Prop} (h:P:=by
 rcases hn g hg with hg | hg
 ·exact ⟨(I.J g hg).1.next T.2.1,(I.J g hg).2⟩
 ·exact T.2.2 g hg):P:=h
theorem WInv.hear {n K:Nat} {B:List BT} {w w':PW} {m:Message} {out nt:List Message} (I:WInv n K B w) (hj:JM B (absW w) m∧zae_ m) (h:PHear w m w' out) (hn:∀g∈nt,g∈w.net∨g∈out) (hl:nt.length≤64):WInv n K B {w' with net:=nt}:=by
 obtain ⟨hok,_⟩:=I.msg hj;have T:=zcY_ I.N I.S hj.1 h
 have J':∀g∈nt,JM B (absW w') g∧zae_ g:=fun g hg=>by
  exact v74_
 cases h with
 | part k i hm h cs=>
  have hN:NOk (K+1) {setN w i ⟨Qm_ w.ns[i].ps m cs,w.ns[i].cs⟩ with log:=w.log++zm_ m.To (Qh_ w.ns[i].ps m)}:=I.N.set (Nat.le_succ K) h rfl (hearS_sh.trans (I.N.sh i h).1) (I.N.sh i h).2 ((I.N.P i h).hear hok) ((I.N.C i h).more (Nat.le_succ K))
  have hget:∀{j} (hj:j<(w.ns.set i ⟨Qm_ w.ns[i].ps m cs,w.ns[i].cs⟩).length),(w.ns.set i ⟨Qm_ w.ns[i].ps m cs,w.ns[i].cs⟩)[j].cs=(w.ns[j]'(by rw [List.length_set] at hj;exact hj)).cs:=fun {j} hj=>by
   rw [zN_];split
   ·next e=>subst e;rfl
   ·rfl
  have hH:HdOk B {setN w i ⟨Qm_ w.ns[i].ps m cs,w.ns[i].cs⟩ with log:=w.log++zm_ m.To (Qh_ w.ns[i].ps m)}:=I.hd.more h rfl T.2.1 fun key r hr=>by
   rcases ZcX_ (I.N.P i h) hr with hr | ⟨u,hu,h1,h2,h3⟩
   ·exact .inl hr
   ·right;obtain ⟨b,hb,hx,hq⟩:=I.S.wb i m.Txn u (by rw [Zcc_ h];exact hu);refine ⟨b,hb,u,hq,h1,h2,?_⟩;rw [hx];have:=(qaX_ (q:=⟨Qm_ w.ns[i].ps m cs,w.ns[i].cs⟩) (l:=w.log++zm_ m.To (Qh_ w.ns[i].ps m)) (nt:=w.net) h i m.Txn).2;rw [if_pos rfl] at this;exact this h3
  refine ⟨(List.length_set ..).trans I.len,I.n4,⟨hN.sh,fun j hj=>?_,fun j hj=>?_⟩,fun j hj=>?_,I.bl,I.k3,fun b hb=>?_,I.bw,T.1,fun j hj k' t hg ho=>?_,fun j hj k' t hg ho=>?_,hH,J',hl,I.now⟩
  ·exact PInv.fit (w:={setN w i ⟨Qm_ w.ns[i].ps m cs,w.ns[i].cs⟩ with log:=w.log++zm_ m.To (Qh_ w.ns[i].ps m)}) hj T.1 hH (fun b hb=>⟨(I.bw b hb).1,fun q hq=>((I.bw b hb).2 q hq).2.2⟩) (hN.P j hj) I.bl
  ·show CInv K (w.ns.set i ⟨Qm_ w.ns[i].ps m cs,w.ns[i].cs⟩)[j].cs;rw [hget hj];exact I.N.C j _
  ·show 1≤(w.ns.set i ⟨Qm_ w.ns[i].ps m cs,w.ns[i].cs⟩)[j].cs.life∧(w.ns.set i ⟨Qm_ w.ns[i].ps m cs,w.ns[i].cs⟩)[j].cs.life≤K+1;rw [hget hj];exact I.life j _
  ·obtain ⟨j,hj,h1,h2,h3⟩:=I.bx b hb;have hj':j<(w.ns.set i ⟨Qm_ w.ns[i].ps m cs,w.ns[i].cs⟩).length:=by rw [List.length_set];exact hj
   refine ⟨j,hj',h1,h2,?_⟩;show b.x.Life≤(w.ns.set i ⟨Qm_ w.ns[i].ps m cs,w.ns[i].cs⟩)[j].cs.life∧(b.x.Life=(w.ns.set i ⟨Qm_ w.ns[i].ps m cs,w.ns[i].cs⟩)[j].cs.life→b.x.Count≤(w.ns.set i ⟨Qm_ w.ns[i].ps m cs,w.ns[i].cs⟩)[j].cs.count);rw [hget hj'];exact h3
  ·have hg':mget k' (w.ns.set i ⟨Qm_ w.ns[i].ps m cs,w.ns[i].cs⟩)[j].cs.ts=some t:=hg;rw [hget hj] at hg';exact I.W j _ k' t hg' ho
  ·have hg':mget k' (w.ns.set i ⟨Qm_ w.ns[i].ps m cs,w.ns[i].cs⟩)[j].cs.ts=some t:=hg;rw [hget hj] at hg';exact I.bg j _ k' t hg' ho
 | coord k i hm h=>
  have hN:NOk K {setN w i ⟨w.ns[i].ps,(Zh_ w.ns[i].cs m).s⟩ with log:=w.log++zm_ m.To (Zh_ w.ns[i].cs m).rc}:=I.N.set (Nat.le_refl K) h rfl (I.N.sh i h).1 (cHear_node.trans (I.N.sh i h).2) (I.N.P i h) (I.N.C i h).hear;have hH:HdOk B {setN w i ⟨w.ns[i].ps,(Zh_ w.ns[i].cs m).s⟩ with log:=w.log++zm_ m.To (Zh_ w.ns[i].cs m).rc}:=I.hd.more h rfl T.2.1 fun key r hr=> .inl hr
  have hlc:∀{j} (hj:j<(w.ns.set i ⟨w.ns[i].ps,(Zh_ w.ns[i].cs m).s⟩).length),(w.ns.set i ⟨w.ns[i].ps,(Zh_ w.ns[i].cs m).s⟩)[j].cs.life=(w.ns[j]'(by rw [List.length_set] at hj;exact hj)).cs.life∧(w.ns.set i ⟨w.ns[i].ps,(Zh_ w.ns[i].cs m).s⟩)[j].cs.count=(w.ns[j]'(by rw [List.length_set] at hj;exact hj)).cs.count:=fun {j} hj=>by
   rw [zN_];split
   ·next e=>subst e;exact ⟨zaM_,Qcc_⟩
   ·exact ⟨rfl,rfl⟩
  have hts:∀{j} (hj:j<(w.ns.set i ⟨w.ns[i].ps,(Zh_ w.ns[i].cs m).s⟩).length) {k' t'},mget k' (w.ns.set i ⟨w.ns[i].ps,(Zh_ w.ns[i].cs m).s⟩)[j].cs.ts=some t'→t'.op=false→∃t,mget k' (w.ns[j]'(by rw [List.length_set] at hj;exact hj)).cs.ts=some t∧t.op=false∧t'.works=t.works∧t'.began=t.began:=fun {j} hj {k' t'} hg ho=>by
   rw [zN_] at hg;split at hg
   ·next e=>subst e;exact zdA_ (I.N.C i h) hg ho
   ·exact ⟨t',hg,ho,rfl,rfl⟩
  refine ⟨(List.length_set ..).trans I.len,I.n4,⟨hN.sh,hN.P,hN.C⟩,fun j hj=>?_,I.bl,I.k3,fun b hb=>?_,I.bw,T.1,fun j hj k' t hg ho=>?_,fun j hj k' t hg ho=>?_,hH,J',hl,I.now⟩
  ·show 1≤(w.ns.set i ⟨w.ns[i].ps,(Zh_ w.ns[i].cs m).s⟩)[j].cs.life∧(w.ns.set i ⟨w.ns[i].ps,(Zh_ w.ns[i].cs m).s⟩)[j].cs.life≤K+1;rw [(hlc hj).1];exact I.life j _
  ·obtain ⟨j,hj,h1,h2,h3⟩:=I.bx b hb;have hj':j<(w.ns.set i ⟨w.ns[i].ps,(Zh_ w.ns[i].cs m).s⟩).length:=by rw [List.length_set];exact hj
   refine ⟨j,hj',h1,h2,?_⟩;show b.x.Life≤(w.ns.set i ⟨w.ns[i].ps,(Zh_ w.ns[i].cs m).s⟩)[j].cs.life∧(b.x.Life=(w.ns.set i ⟨w.ns[i].ps,(Zh_ w.ns[i].cs m).s⟩)[j].cs.life→b.x.Count≤(w.ns.set i ⟨w.ns[i].ps,(Zh_ w.ns[i].cs m).s⟩)[j].cs.count);rw [(hlc hj').1,(hlc hj').2];exact h3
  ·obtain ⟨t0,g1,g2,g3,g4⟩:=hts hj hg ho;obtain ⟨b,hb,e1,e2⟩:=I.W j _ k' t0 g1 g2;exact ⟨b,hb,e1,by rw [g3];exact e2⟩
  ·obtain ⟨t0,g1,g2,g3,g4⟩:=hts hj hg ho;show t.began≤w.now;rw [g4];exact I.bg j _ k' t0 g1 g2
theorem WInv.more {n K K':Nat} {B:List BT} {w:PW} (I:WInv n K B w) (h:K≤K') (h3:K'≤300):WInv n K' B w:=
 {I with N:=⟨I.N.sh,fun i hi=>(I.N.P i hi).more h,fun i hi=>(I.N.C i hi).more h⟩,life:=fun i hi=>by have:=I.life i hi;omega,bl:=Nat.le_trans I.bl h,k3:=h3}
theorem WInv.less {n K:Nat} {B:List BT} {w:PW} (I:WInv n K B w) {nt:List Message} (hn:∀g∈nt,g∈w.net) (hl:nt.length≤64):WInv n K B {w with net:=nt}:=
 {I with J:=fun g hg=>I.J g (hn g hg),nl:=hl,N:=⟨I.N.sh,I.N.P,I.N.C⟩}
theorem WInv.tick {n K:Nat} {B:List BT} {w:PW} (I:WInv n K B w) {a:Int} (h0:0≤a) (h:a≤1073741824 - w.now):WInv n K B {w with now:=w.now+a}:=by
 have h1:=I.now;exact {I with now:=⟨by show 0≤w.now+a;omega,by show w.now+a≤_;omega⟩,bg:=fun i hi k t hg ho=>by have:=I.bg i hi k t hg ho;show t.began≤w.now+a;omega,N:=⟨I.N.sh,I.N.P,I.N.C⟩}
theorem WInv.step {n K:Nat} {B:List BT} {w:PW} (I:WInv n K B w) {i:Nat} (h:i<w.ns.length) {nt:List Message} (hn:∀g∈nt,g∈w.net∨g∈Qz_ w.ns[i].cs w.now++askL w.ns[i].ps) (hl:nt.length≤64):WInv n K B {setN w i ⟨w.ns[i].ps,Qq_ w.ns[i].cs w.now⟩ with net:=nt}:=by
 have T:=qcY_ (now:=w.now) I.N I.S I.W h;have hN:NOk K (setN w i ⟨w.ns[i].ps,Qq_ w.ns[i].cs w.now⟩):=I.N.set (Nat.le_refl K) h rfl (I.N.sh i h).1 (I.N.sh i h).2 (I.N.P i h) (I.N.C i h).step
 have hlc:∀{j} (hj:j<(w.ns.set i ⟨w.ns[i].ps,Qq_ w.ns[i].cs w.now⟩).length),(w.ns.set i ⟨w.ns[i].ps,Qq_ w.ns[i].cs w.now⟩)[j].cs.life=(w.ns[j]'(by rw [List.length_set] at hj;exact hj)).cs.life∧(w.ns.set i ⟨w.ns[i].ps,Qq_ w.ns[i].cs w.now⟩)[j].cs.count=(w.ns[j]'(by rw [List.length_set] at hj;exact hj)).cs.count:=fun {j} hj=>by
  rw [zN_];split
  ·next e=>subst e;exact ⟨rfl,rfl⟩
  ·exact ⟨rfl,rfl⟩
 have hts:∀{j} (hj:j<(w.ns.set i ⟨w.ns[i].ps,Qq_ w.ns[i].cs w.now⟩).length) {k' t'},mget k' (w.ns.set i ⟨w.ns[i].ps,Qq_ w.ns[i].cs w.now⟩)[j].cs.ts=some t'→mget k' (w.ns[j]'(by rw [List.length_set] at hj;exact hj)).cs.ts=some t':=fun {j} hj {k' t'} hg=>by
  rw [zN_] at hg;split at hg
  ·next e=>subst e;exact ((zT_ (I.N.C i h)).1 hg).1
  ·exact hg
 have hH:HdOk B (setN w i ⟨w.ns[i].ps,Qq_ w.ns[i].cs w.now⟩):=I.hd.more h rfl T.2.1 fun key r hr=> .inl hr;refine ⟨(List.length_set ..).trans I.len,I.n4,⟨hN.sh,hN.P,hN.C⟩,fun j hj=>?_,I.bl,I.k3,fun b hb=>?_,I.bw,T.1,fun j hj k' t hg ho=>I.W j _ k' t (hts hj hg) ho,fun j hj k' t hg ho=>I.bg j _ k' t (hts hj hg) ho,hH,fun g hg=>?_,hl,I.now⟩
 ·show 1≤(w.ns.set i ⟨w.ns[i].ps,Qq_ w.ns[i].cs w.now⟩)[j].cs.life∧(w.ns.set i ⟨w.ns[i].ps,Qq_ w.ns[i].cs w.now⟩)[j].cs.life≤K+1;rw [(hlc hj).1];exact I.life j _
 ·obtain ⟨j,hj,h1,h2,h3⟩:=I.bx b hb;have hj':j<(w.ns.set i ⟨w.ns[i].ps,Qq_ w.ns[i].cs w.now⟩).length:=by rw [List.length_set];exact hj
  refine ⟨j,hj',h1,h2,?_⟩;show b.x.Life≤(w.ns.set i ⟨w.ns[i].ps,Qq_ w.ns[i].cs w.now⟩)[j].cs.life∧(b.x.Life=(w.ns.set i ⟨w.ns[i].ps,Qq_ w.ns[i].cs w.now⟩)[j].cs.life→b.x.Count≤(w.ns.set i ⟨w.ns[i].ps,Qq_ w.ns[i].cs w.now⟩)[j].cs.count);rw [(hlc hj').1,(hlc hj').2];exact h3
 ·exact v74_
theorem WInv.crash {n K m:Nat} {B:List BT} {w w':PW} {i:Nat} (I:WInv n K B w) (hK:K<300) (h:PCrash m w i w'):WInv n (K+1) B w':=by
 have T:=QcI_ I.N I.S h
 cases h with
 | mk h s' hs hP=>
  have hfl:=I.life i h;have hK3:=I.k3;have hC:CInv (K+1) (qr_ w.ns[i].cs):=CInv.load (I.N.C i h).fn (by unfold fits;omega) (Nat.le_trans qbh_ (Nat.le_trans (I.N.C i h).ln (Nat.le_succ K))) fun r hr=>ZaU_ (I.N.C i h) hr;have hN:NOk (max m (K+1)) {setN w i ⟨s',qr_ w.ns[i].cs⟩ with net:=Net.clr i w.net}:=I.N.set (by omega) h rfl (hs.sh.trans (I.N.sh i h).1) (I.N.sh i h).2 (hP.more (by omega)) (hC.more (by omega));have hH:HdOk B {setN w i ⟨s',qr_ w.ns[i].cs⟩ with net:=Net.clr i w.net}:=I.hd.more h rfl T.2 fun key r hr=> .inl (by rw [←hs.h];exact hr)
  have hts:∀{j} (hj:j<(w.ns.set i ⟨s',qr_ w.ns[i].cs⟩).length) {k' t'},mget k' (w.ns.set i ⟨s',qr_ w.ns[i].cs⟩)[j].cs.ts=some t'→t'.op=false→mget k' (w.ns[j]'(by rw [List.length_set] at hj;exact hj)).cs.ts=some t':=fun {j} hj {k' t'} hg ho=>by
   rw [zN_] at hg;split at hg
   ·next e=>
    exfalso;have hg':mget k' (qr_ w.ns[i].cs).ts=some t':=hg;rw [Qcv_ (I.N.C i h)] at hg'
    cases hs2:mget k' w.ns[i].cs.ts with
    | none=>rw [hs2] at hg';cases hg'
    | some t=>
     rw [hs2] at hg';simp only [Option.bind_some] at hg';split at hg'
     ·cases hg';cases ho
     ·cases hg'
   ·exact hg
  refine ⟨(List.length_set ..).trans I.len,I.n4,⟨hN.sh,fun j hj=>?_,fun j hj=>?_⟩,fun j hj=>?_,Nat.le_succ_of_le I.bl,by omega,fun b hb=>?_,I.bw,T.1,fun j hj k' t hg ho=>I.W j _ k' t (hts hj hg ho) ho,fun j hj k' t hg ho=>I.bg j _ k' t (hts hj hg ho) ho,hH,fun g hg=>?_,?_,I.now⟩
  ·exact (PInv.fit (w:={setN w i ⟨s',qr_ w.ns[i].cs⟩ with net:=Net.clr i w.net}) hj T.1 hH (fun b hb=>⟨(I.bw b hb).1,fun q hq=>((I.bw b hb).2 q hq).2.2⟩) (hN.P j hj) I.bl).more (Nat.le_succ K)
  ·show CInv (K+1) (w.ns.set i ⟨s',qr_ w.ns[i].cs⟩)[j].cs;rw [zN_ (w:=w) (i:=i) (q:=⟨s',qr_ w.ns[i].cs⟩) hj];split
   ·exact hC
   ·exact (I.N.C j _).more (Nat.le_succ K)
  ·show 1≤(w.ns.set i ⟨s',qr_ w.ns[i].cs⟩)[j].cs.life∧(w.ns.set i ⟨s',qr_ w.ns[i].cs⟩)[j].cs.life≤((K+1:Nat):Int)+1;rw [zN_ (w:=w) (i:=i) (q:=⟨s',qr_ w.ns[i].cs⟩) hj];split
   ·show 1≤w.ns[i].cs.life+1∧w.ns[i].cs.life+1≤((K+1:Nat):Int)+1;omega
   ·have:=I.life j (by rw [show (setN w i ⟨s',qr_ w.ns[i].cs⟩).ns=w.ns.set i ⟨s',qr_ w.ns[i].cs⟩ from rfl,List.length_set] at hj;exact hj);omega
  ·obtain ⟨j,hj,h1,h2,h3,h4⟩:=I.bx b hb;have hj':j<(w.ns.set i ⟨s',qr_ w.ns[i].cs⟩).length:=by rw [List.length_set];exact hj
   refine ⟨j,hj',h1,h2,?_⟩;show b.x.Life≤(w.ns.set i ⟨s',qr_ w.ns[i].cs⟩)[j].cs.life∧(b.x.Life=(w.ns.set i ⟨s',qr_ w.ns[i].cs⟩)[j].cs.life→b.x.Count≤(w.ns.set i ⟨s',qr_ w.ns[i].cs⟩)[j].cs.count);rw [zN_];split
   ·next e=>
    subst e;show b.x.Life≤w.ns[i].cs.life+1∧(b.x.Life=w.ns[i].cs.life+1→b.x.Count≤0);exact ⟨by omega,fun e=>by omega⟩
   ·exact ⟨h3,h4⟩
  ·have hg':=(List.mem_filter.1 hg).1;exact ⟨(I.J g hg').1.next T.2,(I.J g hg').2⟩
  ·exact Nat.le_trans (List.length_filter_le _ _) I.nl
end Go.Proofs.YtlflbkpmfhhikaaGreatDoor
