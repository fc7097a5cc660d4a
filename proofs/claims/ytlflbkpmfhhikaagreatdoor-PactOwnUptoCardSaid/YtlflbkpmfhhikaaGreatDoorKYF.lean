/- What a world keeps to, whatever is played. No program in sight. -/
import Derived.Test.YtlflbkpmfhhikaaGreatDoorKXH
import Derived.Test.YtlflbkpmfhhikaaGreatDoorKYD
set_option maxHeartbeats 16000000
set_option maxRecDepth 100000
set_option linter.unusedVariables false
set_option linter.unusedSimpArgs false
namespace Go.Proofs.YtlflbkpmfhhikaaGreatDoor
open Go Go.Sx Go.Proofs
theorem Qdx_ {n:Nat} {s:CS} (I:CInv n s) {m:Message} {k:K3} {t':TX} (h:mget k (zh_ s m).s.ts=some t'):∃t,mget k s.ts=some t∧t'.parts=t.parts:=by
 have hcut:∀{x:K3},mget k (s.cut x).ts=some t'→∃t,mget k s.ts=some t∧t'.parts=t.parts:=fun {x} h=>⟨t',qH_ I.nd h,rfl⟩
 have hput:∀{x:Txn} {t:TX},s.isT x→t.parts=(s.tx x).parts→mget k (s.put x.k t).ts=some t'→∃t,mget k s.ts=some t∧t'.parts=t.parts:=fun {x t} hx hp h=>by
  have h':mget k (mset x.k t s.ts)=some t':=h;rw [Zf_] at h';split at h'
  ·next e=>cases h';exact ⟨s.tx x,e▸CS.get_tx hx,hp⟩
  ·exact ⟨t',h',rfl⟩
 unfold zh_ at h;split at h
 ·exact ⟨t',h,rfl⟩
 split at h
 ·exact ⟨t',h,rfl⟩
 split at h
 ·exact hcut h
 split at h
 ·next hh=>
  split at h
  ·exact hput (t:=qx_ (s.tx m.Txn) m.From) hh.2.1.1 rfl h
  ·exact hput (t:=Zav_ (s.tx m.Txn)) hh.2.1.1 rfl h
 split at h
 ·next hh=>
  split at h
  ·exact hput (t:=qx_ (s.tx m.Txn) m.From) hh.2.1.1 rfl h
  ·exact hcut h
 ·exact ⟨t',h,rfl⟩
theorem cHear_node {s:CS} {m:Message}:(zh_ s m).s.node=s.node:=by
 unfold zh_
 repeat' split
 all_goals rfl
theorem hearS_sh {s:PS} {m:Message} {cs:List Value}:(Zm_ s m cs).sh=s.sh:=by
 unfold Zm_
 repeat' split
 all_goals rfl
theorem WOk.set {n n' i:Nat} {w w':PW} {q:PN} (K:WOk n w) (hn:n≤n') (hn5:n'≤500) (hi:i<w.ns.length) (hw:w'.ns=w.ns.set i q) (hll:w'.log.length≤900000000) (hp:PInv n' q.ps) (hc:CInv n' q.cs) (hpl:∀k t,mget k q.cs.ts=some t→t.parts.length≤1000) (hf:fits (q.cs.life+1)) (h1:q.ps.sh=i) (h2:q.cs.node=i):WOk n' w':=by
 have hm:∀x∈w'.ns,x∈w.ns∨x=q:=fun x hx=>by rw [hw] at hx;exact List.mem_or_eq_of_mem_set hx
 refine ⟨fun x hx=>?_,fun x hx=>?_,fun x hx=>?_,hn5,hll,fun x hx=>?_,fun j hj=>?_⟩
 ·rcases hm x hx with hx | rfl
  ·exact (K.p x hx).more hn
  ·exact hp
 ·rcases hm x hx with hx | rfl
  ·exact (K.c x hx).more hn
  ·exact hc
 ·rcases hm x hx with hx | rfl
  ·exact K.pl x hx
  ·exact hpl
 ·rcases hm x hx with hx | rfl
  ·exact K.fn x hx
  ·exact hf
 ·have hj':j<w.ns.length:=by rw [hw,List.length_set] at hj;exact hj
  simp only [hw,List.getElem_set];split
  ·next e=>subst e;exact ⟨h1,h2⟩
  ·exact K.sh j hj'
theorem QbK_ {p:Int} {l:List Rec}:(qn_ p l).length=l.length:=List.length_map ..
theorem PHear.len {w w':PW} {m:Message} {out:List Message} (h:PHear w m w' out):w'.log.length≤w.log.length+1:=by
 cases h with
 | part k i hm h cs=>
  show (w.log++qn_ m.To _).length≤_;rw [List.length_append,QbK_];have:=HMid.rcl (q:=w.ns[i]) (m:=m) (.inl ⟨k,cs,rfl,rfl,rfl⟩);omega
 | coord k i hm h=>
  show (w.log++qn_ m.To _).length≤_;rw [List.length_append,QbK_];have:=HMid.rcl (q:=w.ns[i]) (m:=m) (.inr ⟨k,rfl,rfl,rfl⟩);omega
theorem WOk.hear {n:Nat} {w w':PW} {m:Message} {out:List Message} (K:WOk n w) (hn:n+1≤500) (hl:w.log.length+1≤900000000) (hm:OkM m) (h:PHear w m w' out):WOk (n+1) w':=by
 have hlen:=h.len
 cases h with
 | part k i hmi h cs=>
  have hq:w.ns[i]∈w.ns:=List.getElem_mem h;exact K.set (q:=⟨Zm_ w.ns[i].ps m cs,w.ns[i].cs⟩) (Nat.le_succ n) hn h rfl (by omega) ((K.p _ hq).hear hm) ((K.c _ hq).more (Nat.le_succ n)) (by exact K.pl w.ns[i] hq) (by exact K.fn w.ns[i] hq) (hearS_sh.trans (K.sh i h).1) (K.sh i h).2
 | coord k i hmi h=>
  have hq:w.ns[i]∈w.ns:=List.getElem_mem h;refine K.set (q:=⟨w.ns[i].ps,(zh_ w.ns[i].cs m).s⟩) (Nat.le_succ n) hn h rfl (by omega) ((K.p _ hq).more (Nat.le_succ n)) ((K.c _ hq).hear.more (Nat.le_succ n)) (fun kk t ht=>?_) ?_ (K.sh i h).1 (cHear_node.trans (K.sh i h).2)
  ·obtain ⟨t0,h0,h1⟩:=Qdx_ (K.c _ hq) ht;rw [h1];exact K.pl _ hq kk t0 h0
  ·show fits ((zh_ w.ns[i].cs m).s.life+1);rw [Qan_];exact K.fn _ hq
theorem okz:Net.okM Qk_:=by unfold Net.okM Qk_;simp [Zg_]
def DelQ (w:PW) (a:Int) (g:Message) (e:Int) (l:List Message):Prop:=(e=0∧∃(j:Nat) (h:j<w.net.length),a=j∧g=w.net[j]∧l=delM w.net j)∨(e=4∧¬inN w.net a∧g=Qk_∧l=w.net)
theorem v45_ {P:Prop} (h:P:=by
 refine Zi_ 11 rfl rfl rfl rfl (by simp) rfl ⟨subA,?_⟩;refine qa_ 12 ?_;refine qb_ rfl ?_;refine Net.ops_frzM t1 t2 t3 t4 (w.net[j]) hok fun H2 hl2 hcm=>?_;refine walk ?_;refine qL_ hK (w.net[j],(t1,t2,t3,t4),0,delM w.net j,p8,H2) ⟨.inl ⟨rfl,j,hjl,hj,rfl,rfl⟩,hcm,hl1.trans hl2⟩):P:=h
theorem v47_ {P:Prop} (h:P:=by
 refine Zi_ 11 rfl rfl rfl rfl (by simp) rfl ⟨subA,?_⟩;refine qa_ 12 ?_;refine qb_ rfl ?_;refine Net.ops_frzM t1 t2 t3 t4 (Qk_) hok fun H2 hl2 hcm=>?_;refine walk ?_;refine qL_ hK (Qk_,(t1,t2,t3,t4),4,w.net,p8,H2) ⟨.inr ⟨rfl,hin,rfl,rfl⟩,hcm,hl1.trans hl2⟩):P:=h
theorem ZbK_ {W0:World} {H:Heap} {p n:Nat} {s:Value} {w:PW} {m:Move} (hP:PkH H) (KW:WOk n w) (hn:n+1≤500) (hll:w.log.length+1≤900000000) (hmok:∀g∈w.net,OkM g∧qt_ w g.To) (hs:SlB Qi_ 3 56 H s m.Works) (hnow:0≤w.now∧w.now≤1073741824) (hk:fits m.Kind) (ha:fits m.A) (k2:m.Kind=2):
  Ct Tryz.prog 14 #[ptrC p,.agg (m.cv s).toArray] W0 H [Zc_ H p w] (fun r H' B=>zcC_ (n+1) H' p w m r B):=by
 have hb:okMv w m.Kind m.A m.Works.length:=by unfold okMv;omega
 obtain ⟨b0,c0,rfl,_,_⟩:=hs.1.shape;refine Ct.go (vs:=[ptrC p,.agg (m.cv (.slice b0 m.Works.length c0)).toArray]) fun R=>?_;refine Qj_ (A:=Zc_ H p w) (σ:=Value×Nat×Value×List NE) (B:=fun a=>[wRow p a.1 a.2.1 (PW.now w) a.2.2.1,wNs a.1 a.2.2.2,bigL (ndP H) a.2.2.2,bigL (ndC H) a.2.2.2,Net.netO H (ptrC a.2.1) (PW.net w),wLog H a.2.2.1 (PW.log w)]) (p:=fun a=>PW.ns w=a.2.2.2.map NE.q) (by repeat (first | exact Has.here | apply Has.there)) (fun h ⟨nv,nb,lv,es,hb,hk⟩=>⟨(nv,nb,lv,es),hk,hb⟩) fun ⟨nv,nb,lv,es⟩ hns=>?_;dsimp only at hns⊢;refine Qs_ nv fun base cap e q1 q2 q3=>?_;subst e;have hln:es.length=w.ns.length:=by rw [hns,List.length_map]
 refine walk ?_;refine qc_ rfl rfl fun p3 _=>?_;refine walk ?_;refine Qg_ rfl rfl (zaB_ (W0:=W0) (H:=H) (p:=p) (nb:=nb) (cap:=cap) (base:=base) (lv:=lv) (w:=w) (m:=m) hln hs hnow hk ha) ?_;rw [decide_eq_true hb];have hqn:=KW.n;refine zal_ (by repeat (first | exact Has.here | apply Has.there)) (p:=∀g∈w.net,Net.okM g) (A:=Net.netO H (ptrC nb) w.net) (fun h=>Net.netO_ok) fun hokn=>?_;refine walk ?_
 refine qaU_ (σ:=Message×((Option Addr×Nat)×(Option Addr×Nat)×(Option Addr×Nat)×(Option Addr×Nat))×Int×List Message×Nat×Heap) (fun u=>DelQ w m.A u.1 u.2.2.1 u.2.2.2.1∧Qa_ u.2.2.2.2.2 (Net.cvM u.2.1.1 u.2.1.2.1 u.2.1.2.2.1 u.2.1.2.2.2 u.1) u.1∧H.le u.2.2.2.2.2) (fun u=>[(0,ptrC p),(3,.pointer (some ⟨p3,0,none⟩)),(8,ptrC u.2.2.2.2.1),(9,I u.2.2.1)]) (fun u=>u.2.2.2.2.2)
  (fun u=>row u.2.2.2.2.1 106 (Net.cvM u.2.1.1 u.2.1.2.1 u.2.1.2.2.1 u.2.1.2.2.2 u.1)::row p3 37 (m.cv (.slice b0 m.Works.length c0))::wRow p (.slice base es.length cap) nb w.now lv::wNs (.slice base es.length cap) es::bigL (ndP H) es::bigL (ndC H) es::Net.netO H (ptrC nb) u.2.2.2.1::wLog H lv w.log::R) (fun K hK=>?_) fun ⟨g,⟨t1,t2,t3,t4⟩,ee,l,p8,H1⟩ ⟨hD,hcm,hl1⟩=>?_
 ·refine zc_ 13 [wRow p (.slice base es.length cap) nb w.now lv,row p3 37 (m.cv (.slice b0 m.Works.length c0))] ?_;refine qa_ 0 ?_;refine qa_ 1 ?_;refine qa_ 2 ?_;refine qa_ 3 ?_;refine qa_ 4 ?_;refine qa_ 5 ?_;by_cases hin:inN w.net m.A
  ·obtain ⟨j,hj⟩:∃j:Nat,m.A=j:=⟨m.A.toNat,by unfold inN at hin;omega⟩;have hjl:j<w.net.length:=by unfold inN at hin;omega
   have hok:=hokn _ (List.getElem_mem hjl);have hcall:=Net.deliver_yes (W0:=W0) (H:=H) (H0:=H) (p:=ptrC nb) (ms:=w.net) (.refl _) hjl;rw [←hj] at hcall;refine QaJ_ 6 10 rfl rfl rfl hcall (fun r1 H1 B hl1 ⟨⟨t1,t2,t3,t4,er,eB⟩,eH⟩=>?_) (fun p8 _=>?_)
   ·subst er eB eH;refine ⟨subA,?_⟩;refine qa_ 7 ?_;refine Qd_ 8 rfl rfl rfl rfl ?_;refine Qd_ 9 rfl rfl rfl rfl ?_;refine Zn_ 10 rfl rfl fun p8 _=>?_;exact v45_
   ·refine ze_ 6 rfl rfl rfl hcall fun r1 H1 B hl1 ⟨⟨t1,t2,t3,t4,er,eB⟩,eH⟩=>?_;subst er eB eH;refine ⟨subA,?_⟩;refine qa_ 7 ?_;refine Qd_ 8 rfl rfl rfl rfl ?_;refine Qd_ 9 rfl rfl rfl rfl ?_;exact v45_
  ·have hok:=okz;have hcall:=Net.deliver_no (W0:=W0) (H:=H) (H0:=H) (p:=ptrC nb) (ms:=w.net) (i:=m.A) (.refl _) hin;refine QaJ_ 6 10 rfl rfl rfl hcall (fun r1 H1 B hl1 ⟨⟨t1,t2,t3,t4,er,eB⟩,eH⟩=>?_) (fun p8 _=>?_)
   ·subst er eB eH;refine ⟨subA,?_⟩;refine qa_ 7 ?_;refine Qd_ 8 rfl rfl rfl rfl ?_;refine Qd_ 9 rfl rfl rfl rfl ?_;refine Zn_ 10 rfl rfl fun p8 _=>?_;exact v47_
   ·refine ze_ 6 rfl rfl rfl hcall fun r1 H1 B hl1 ⟨⟨t1,t2,t3,t4,er,eB⟩,eH⟩=>?_;subst er eB eH;refine ⟨subA,?_⟩;refine qa_ 7 ?_;refine Qd_ 8 rfl rfl rfl rfl ?_;refine Qd_ 9 rfl rfl rfl rfl ?_;exact v47_
 simp only at hD hcm hl1;dsimp only;rcases hD with ⟨he,j,hj,haj,hg,hl⟩ | ⟨he,hin,hg,hl⟩
 rotate_left
 ·subst he hl;refine walk ?_;refine finB [Zc_ H1 p w] ?_ (hs:=?_)
  ·exact ⟨w,4,.none (by omega) hin,rfl,rfl⟩
  ·refine Sub.trans ?_ (zC_ (H1:=H) (H2:=H) (H3:=H) (H4:=H) (nv:= .slice base es.length cap) (nb:=nb) (lv:=lv) hns hl1 hl1 hl1 hl1);exact subA
 subst he;have hgm:g∈w.net:=by rw [hg];exact List.getElem_mem hj
 obtain ⟨hgo,hgn⟩:=hmok g hgm;refine walk ?_;refine zr_ (L':=row p8 106 (Net.cvM t1 t2 t3 t4 g)::row p3 37 (m.cv (.slice b0 m.Works.length c0))::Net.netO H (ptrC nb) l::wRow p (.slice base es.length cap) nb w.now lv::wNs (.slice base es.length cap) es::bigL (ndP H1) es::bigL (ndC H1) es::wLog H1 lv w.log::R) ?_ ?_
 ·refine Sub.trans (B:=bigL (ndP H) es::bigL (ndC H) es::wLog H lv w.log::row p8 106 (Net.cvM t1 t2 t3 t4 g)::row p3 37 (m.cv (.slice b0 m.Works.length c0))::Net.netO H (ptrC nb) l::wRow p (.slice base es.length cap) nb w.now lv::wNs (.slice base es.length cap) es::R) subA ?_;refine Sub.trans (Sub.trans (QaK_ hl1) (Sub.cons (Sub.trans (ZaA_ hl1) (Sub.cons (zbL_ hl1))))) ?_;exact subA
 have KW1:WOk n {w with net:=l}:=⟨KW.p,KW.c,KW.pl,KW.n,KW.ll,KW.fn,KW.sh⟩;refine Za_ rfl rfl (ZcC_ (W0:=W0) (H:=H1) (p:=p) (nb:=nb) (n:=n) (nv:= .slice base es.length cap) (lv:=lv) (w:={w with net:=l}) (m:=g) (es:=es) (hP.mono hl1) hns KW1 hgo hcm hgn) fun r3 H3 B hl3 ⟨w',out,es',lv',hh,hns',eB⟩=>?_;subst eB;have hnet:w'.net=l:=by cases hh<;>rfl
 have hnow':w'.now=w.now:=by cases hh<;>rfl
 have KW2:WOk (n+1) w':=KW1.hear hn hll hgo hh;rw [hl,hg] at hh;refine Zd_ r3 fun H4 hl4 hso=>?_;refine walk ?_;refine Za_ rfl rfl (qbL_ (W0:=W0) (H:=H4) (H0:=H) (p:=p) (nb:=nb) (nv:= .slice base es.length cap) (lv:=lv') (v:=r3) (now:=w'.now) (l:=l) (ms:=out) (hl1.trans (hl3.trans hl4)) hso.1) fun r5 H5 B hl5 eB=>?_;subst eB;refine walk ?_;have hl35:=hl4.trans hl5;refine finB [Zc_ H5 p {w' with net:=Qv_ w'.net out}] ?_ (hs:=?_)
 ·exact ⟨_,0,.deliver k2 j haj hj w' out hh,rfl,rfl⟩
 ·refine Sub.trans ?_ (zC_ (H1:=H3) (H2:=H3) (H3:=H5) (H4:=H3) (w:={w' with net:=Qv_ w'.net out}) (nv:= .slice base es.length cap) (nb:=nb) (lv:=lv') hns' hl35 hl35 (.refl _) hl35);rw [hnet];exact subA
def WkOk (B:List BT) (w:PW):Prop:=∀i (h:i<w.ns.length) k t,mget k w.ns[i].cs.ts=some t→t.op=false→∃b∈B,b.x=toTx k∧pq t.works=b.ws
theorem qed_ {t:TX} {p:Int} (hk:t.works.map (·.1)=t.parts) (hp:p∈t.parts):(p,t.wk p)∈pq t.works:=by
 rw [←hk] at hp;obtain ⟨v,hv⟩:=QD_.1 hp;unfold TX.wk pq;rw [hv];exact List.mem_map.2 ⟨(p,v),Zu_ hv,rfl⟩
theorem qdz_ {K:Nat} {B:List BT} {w:PW} {i:Nat} (N:NOk K w) (S:SI B (absW w)) (W:WkOk B w) (h:i<w.ns.length) {k:K3} {t:TX} (hg:mget k w.ns[i].cs.ts=some t) {m:Message} (hm:m∈qi_ w.ns[i].cs.node (toTx k) t):JM B (absW w) m∧Qai_ m:=by
 obtain ⟨_,hnode⟩:=N.sh i h;have IC:=N.C i h;have hx:(toTx k).Node=i:=by rw [←hnode];exact (IC.kn k t hg).1
 have hst:(absW w).st (toTx k)=some (viewT t):=by rw [Zba_ h hx,ZV_,hg];rfl
 unfold qi_ at hm;obtain ⟨p,hp,rfl⟩:=List.mem_map.1 hm;have hpp:=(List.mem_filter.1 hp).1;have hpt:ptB B (toTx k) p:=(S.part hst).2 hpp;unfold Zbb_;by_cases ho:t.op=true
 ·rw [if_pos ho];exact ⟨JM.dec rfl hpt (by show w.ns[i].cs.node=_;rw [hnode,←hx];rfl) (fun _=>(S.op _ _ hst ho).1) (fun hy=>by cases hy),fun _=>rfl⟩
 ·rw [if_neg ho];have ho':t.op=false:=by simpa using ho
  obtain ⟨b,hb,hbx,hbw⟩:=W i h k t hg ho';refine ⟨JM.prep rfl ⟨b,hb,hbx,?_⟩ (by show w.ns[i].cs.node=_;rw [hnode,←hx];rfl),fun hk=>absurd rfl hk⟩;rw [←hbw];exact qed_ ((IC.ti k t hg).wk ho') hpp
theorem Qdi_ {K:Nat} {B:List BT} {w:PW} {i:Nat} {now:Int} (N:NOk K w) (S:SI B (absW w)) (W:WkOk B w) (h:i<w.ns.length):Turn B w (setN w i ⟨w.ns[i].ps,zD_ w.ns[i].cs now⟩) (Qar_ w.ns[i].cs now++askL w.ns[i].ps):=by
 obtain ⟨hsh,hnode⟩:=N.sh i h;have IC:=N.C i h
 have e:absW (setN w i ⟨w.ns[i].ps,zD_ w.ns[i].cs now⟩)={absW w with st:=fun x=>if x.Node=i then (mget x.k (zD_ w.ns[i].cs now).ts).map viewT else (absW w).st x}:=by
  refine AS.eq (fun x=>?_) (fun p x=>?_) (fun p x=>?_) rfl
  ·exact QbN_ (l:=w.log) (nt:=w.net) h x
  ·refine (ZbN_ (l:=w.log) (nt:=w.net) h p x).trans ?_;exact v100_
  ·refine (zbk_ (l:=w.log) (nt:=w.net) h p x).trans ?_;exact v99_
 have hget:∀k,mget k (zD_ w.ns[i].cs now).ts=(mget k w.ns[i].cs.ts).bind fun t=>if ZK_ t now then none else some t:=fun k=>by
  cases hg:mget k w.ns[i].cs.ts with
  | none=>
   cases hs:mget k (zD_ w.ns[i].cs now).ts with
   | none=>rfl
   | some t=>have:=((qO_ IC).1 hs).1;rw [hg] at this;cases this
  | some t=>
   by_cases hu:ZK_ t now
   ·cases hs:mget k (zD_ w.ns[i].cs now).ts with
    | none=>simp [hu]
    | some t'=>have:=(qO_ IC).1 hs;rw [hg] at this;obtain ⟨h1,h2⟩:=this;cases h1;exact absurd hu h2
   ·rw [(qO_ IC).2 ⟨hg,hu⟩];simp [hu]
 have hw:=S.weak (st':=fun x=>if x.Node=i then (mget x.k (zD_ w.ns[i].cs now).ts).map viewT else (absW w).st x) fun x=>by
  by_cases hx:x.Node=i
  ·rw [if_pos hx,Zba_ h hx,hget]
   cases hg:mget x.k w.ns[i].cs.ts with
   | none=>exact .inl rfl
   | some t=>
    by_cases hu:ZK_ t now
    ·exact .inr (.inl ⟨by simp [hu],fun t' ht'=>by cases ht';exact hu.1⟩)
    ·exact .inl (by simp [hu])
  ·rw [if_neg hx];exact .inl rfl
 unfold Turn;rw [e];refine ⟨hw.1,hw.2,fun g hg=>?_⟩;rcases List.mem_append.1 hg with hg | hg
 ·unfold Qar_ at hg;obtain ⟨k,hk,hg⟩:=List.mem_flatMap.1 hg;have hk':=Qav_.1 hk
  cases hs:mget k w.ns[i].cs.ts with
  | none=>rw [hs] at hk';cases hk'
  | some t=>
   unfold zbl_ at hg;rw [hs,Option.getD_some] at hg;have hx:(toTx k).Node=i:=by rw [←hnode];exact (IC.kn k t hs).1
   have hst:(absW w).st (toTx k)=some (viewT t):=by rw [Zba_ h hx,ZV_,hs];rfl
   split at hg
   ·next hu=>
    unfold noL at hg;obtain ⟨p,hp,rfl⟩:=List.mem_map.1 hg;refine ⟨JM.dec rfl ((S.part hst).2 hp) (by show w.ns[i].cs.node=_;rw [hnode,←hx];rfl) (fun hy=>by cases hy) fun _=>?_,fun _=>rfl⟩;show (if (toTx k).Node=i then (mget (toTx k).k (zD_ w.ns[i].cs now).ts).map viewT else _)=none;rw [if_pos hx,ZV_,hget,hs];simp [hu]
   ·obtain ⟨h1,h2⟩:=qdz_ N S W h hs hg;exact ⟨h1.next hw.2,h2⟩
 ·unfold askL at hg;obtain ⟨q,hq,rfl⟩:=List.mem_map.1 hg;have hwk:(absW w).wk i q.Txn=some q.Work:=by rw [ZcE_ h];exact (N.P i h).t.recs hq
  refine ⟨JM.ask rfl ?_ rfl,fun _=>rfl⟩;show ptB B q.Txn w.ns[i].ps.sh;rw [hsh];exact (S.wb _ _ _ hwk).pt
theorem qcE_ {K:Nat} {B:List BT} {w:PW} {i:Nat} {now:Int} {ws:List (Int×CW)} (N:NOk K w) (S:SI B (absW w)) (h:i<w.ns.length) (hne:ws≠[]) (hnd:(ws.map (·.1)).Nodup) (hf:¬knB B (newX w.ns[i].cs)):
  SI (⟨newX w.ns[i].cs,pq ws⟩::B) (absW (setN w i ⟨w.ns[i].ps,qd_ w.ns[i].cs now ws⟩))∧Nxt B (⟨newX w.ns[i].cs,pq ws⟩::B) (absW w) (absW (setN w i ⟨w.ns[i].ps,qd_ w.ns[i].cs now ws⟩))∧
   ∀g∈saidB w.ns[i].cs now ws,JM (⟨newX w.ns[i].cs,pq ws⟩::B) (absW (setN w i ⟨w.ns[i].ps,qd_ w.ns[i].cs now ws⟩)) g∧Qai_ g:=by
 obtain ⟨hsh,hnode⟩:=N.sh i h;have hx:(newX w.ns[i].cs).Node=i:=hnode;have hps:(⟨newX w.ns[i].cs,pq ws⟩:BT).ps=ws.map (·.1):=QbI_;have hv:viewT (zf_ now ws)=⟨false,(⟨newX w.ns[i].cs,pq ws⟩:BT).ps,fun _=>false⟩:=by rw [hps];rfl
 have e:absW (setN w i ⟨w.ns[i].ps,qd_ w.ns[i].cs now ws⟩)=setS (absW w) (newX w.ns[i].cs) (some ⟨false,(⟨newX w.ns[i].cs,pq ws⟩:BT).ps,fun _=>false⟩):=by
  refine (zcE_ (l:=w.log) h hx (v:=some (viewT (zf_ now ws))) fun y _=>?_).trans (by rw [hv];rfl);unfold qd_;rw [if_neg hne];show (mget y.k (mset (newX w.ns[i].cs).k (zf_ now ws) w.ns[i].cs.ts)).map viewT=_;rw [Zf_];by_cases ey:y=newX w.ns[i].cs
  ·rw [if_pos ey,if_pos (by rw [ey])];rfl
  ·rw [if_neg ey,if_neg fun e1=>ey (qaS_ e1)]
 have hS:=S.begin (b:=⟨newX w.ns[i].cs,pq ws⟩) hf fun q hq q' hq' e1=>by
  have hn2:((pq ws).map (·.1)).Nodup:=by rw [QbI_];exact hnd
  have h1:=Zj_ hn2 hq;have h2:=Zj_ hn2 hq';rw [e1,h2] at h1;exact Prod.ext e1 (by simpa using h1.symm)
 rw [e];refine ⟨hS.1,hS.2,fun g hg=>?_⟩;unfold saidB at hg;rw [if_neg hne] at hg;unfold qi_ at hg;obtain ⟨p,hp,rfl⟩:=List.mem_map.1 hg;have hpp:p∈ws.map (·.1):=(List.mem_filter.1 hp).1;refine ⟨JM.prep rfl ⟨⟨newX w.ns[i].cs,pq ws⟩,List.mem_cons_self ..,rfl,?_⟩ rfl,fun hk=>absurd rfl hk⟩;exact qed_ (t:=zf_ now ws) rfl hpp
def HdOk (B:List BT) (w:PW):Prop:=∀i (h:i<w.ns.length) key r,mget key w.ns[i].ps.t.held=some r→∃b∈B,∃u:Work,((i:Int),u)∈b.ws∧key∈u.Take∧r=u.Robot∧(absW w).dn i b.x
structure WInv (n K:Nat) (B:List BT) (w:PW):Prop where
  len:w.ns.length=n
  n4:1≤n∧n≤4
  N:NOk K w
  life:∀i (h:i<w.ns.length),1≤w.ns[i].cs.life∧w.ns[i].cs.life≤K+1
  bl:B.length≤K
  k3:K≤300
  bx:∀b∈B,∃(i:Nat) (h:i<w.ns.length),b.x.Node=i∧okX b.x.k∧b.x.Life≤w.ns[i].cs.life∧(b.x.Life=w.ns[i].cs.life→b.x.Count≤w.ns[i].cs.count)
  bw:∀b∈B,(b.ws.map (·.1)).Pairwise (· < ·)∧∀q∈b.ws,0≤q.1∧q.1<n∧OkW q.2
  S:SI B (absW w)
  W:WkOk B w
  bg:∀i (h:i<w.ns.length) k t,mget k w.ns[i].cs.ts=some t→t.op=false→t.began≤w.now
  hd:HdOk B w
  J:∀m∈w.net,JM B (absW w) m∧Qai_ m
  nl:w.net.length≤64
  now:0≤w.now∧w.now≤1073741824
theorem okz0:OkW zac_:=⟨by simp [zac_],by simp [zac_],Zg_,fun k hk=>by cases hk⟩
theorem WInv.part {n K:Nat} {B:List BT} {w:PW} (I:WInv n K B w) {x:Txn} {p:Int} (h:ptB B x p):0≤p∧p<n:=by
 obtain ⟨b,hb,_,hp⟩:=h;obtain ⟨q,hq,rfl⟩:=List.mem_map.1 hp;have:=(I.bw b hb).2 q hq;exact ⟨this.1,this.2.1⟩
theorem WInv.kn {n K:Nat} {B:List BT} {w:PW} (I:WInv n K B w) {x:Txn} (h:knB B x):okX x.k∧qt_ w x.Node:=by
 obtain ⟨b,hb,rfl⟩:=h;obtain ⟨i,hi,h1,h2,_⟩:=I.bx b hb;exact ⟨h2,by unfold qt_;omega⟩
theorem WInv.msg {n K:Nat} {B:List BT} {w:PW} (I:WInv n K B w) {m:Message} (h:JM B (absW w) m∧Qai_ m):OkM m∧qt_ w m.To:=by
 obtain ⟨J,hw⟩:=h;refine ⟨⟨?_,(I.kn J.kn).1⟩,?_⟩
 ·by_cases k:m.Kind=1
  ·obtain ⟨_,b,hb,_,hq⟩:=J.k1 k;exact ((I.bw b hb).2 _ hq).2.2
  ·rw [hw k];exact okz0
 ·have hl:=I.len;rcases J.kd with k | k | k | k | k
  ·have:=I.part (J.k1 k).2.pt;unfold qt_;omega
  ·rw [(J.kp (.inl k)).1];exact (I.kn J.kn).2
  ·have:=I.part (J.k3 k).2.1;unfold qt_;omega
  ·rw [(J.kp (.inr (.inl k))).1];exact (I.kn J.kn).2
  ·rw [(J.kp (.inr (.inr k))).1];exact (I.kn J.kn).2
theorem PInv.fit {K n' i:Nat} {B:List BT} {w:PW} (h:i<w.ns.length) (S:SI B (absW w)) (H:HdOk B w) (hbw:∀b∈B,(b.ws.map (·.1)).Pairwise (· < ·)∧∀q∈b.ws,OkW q.2) (hP:PInv n' w.ns[i].ps) (hB:B.length≤K):PInv K w.ns[i].ps:=by
 have hkey:∀{l:List K3},l.Nodup→(∀k∈l,knB B (toTx k))→l.length≤K:=fun {l} hn hl=>by
  have hs:∀k∈l,k∈B.map fun b=>b.x.k:=fun k hk=>by
   obtain ⟨b,hb,e⟩:=hl k hk;exact List.mem_map.2 ⟨b,hb,by show b.x.k=k;rw [e,ZV_]⟩
  have:=zz_ hn hs;rw [List.length_map] at this;omega
 have hwk:w.ns[i].ps.t.works.length≤K:=by
  have:=hkey (l:=w.ns[i].ps.t.works.map (·.1)) hP.t.wd fun k hk=>by
   obtain ⟨v,hv⟩:=QD_.1 hk;have:(absW w).wk i (toTx k)=some v.2:=by rw [ZcE_ h,ZV_];unfold gW;rw [hv];rfl
   exact (S.wb _ _ _ this).pt.kn
  rwa [List.length_map] at this
 have hdn:w.ns[i].ps.done.length≤K:=by
  have:=hkey (l:=w.ns[i].ps.done.map (·.1)) hP.dd fun k hk=>by
   obtain ⟨v,hv⟩:=QD_.1 hk;have:(absW w).dn i (toTx k):=by rw [qdj_ h];unfold isD;rw [ZV_,hv];rfl
   exact (S.db _ _ this).2.kn
  rwa [List.length_map] at this
 have hhd:w.ns[i].ps.t.held.length≤40*K:=by
  have hlen:∀(C:List BT),(∀b∈C,(b.ws.map (·.1)).Pairwise (· < ·)∧∀q∈b.ws,OkW q.2)→(C.flatMap fun b=>((mget (i:Int) b.ws).getD zac_).Take).length≤40*C.length:=by
   intro C
   induction C with
   | nil=>intro _;simp
   | cons b C ih=>
    intro hC;rw [List.flatMap_cons,List.length_append,List.length_cons];have h1:=ih fun c hc=>hC c (List.mem_cons_of_mem _ hc)
    have h2:((mget (i:Int) b.ws).getD zac_).Take.length≤40:=by
     cases hg:mget (i:Int) b.ws with
     | none=>simp [zac_]
     | some u=>exact ((hC b (List.mem_cons_self ..)).2 _ (Zu_ hg)).take
    omega
  have hs:∀k∈w.ns[i].ps.t.held.map (·.1),k∈B.flatMap fun b=>((mget (i:Int) b.ws).getD zac_).Take:=fun k hk=>by
   obtain ⟨v,hv⟩:=QD_.1 hk;obtain ⟨b,hb,u,h1,h2,_⟩:=H i h k v hv;refine List.mem_flatMap.2 ⟨b,hb,?_⟩;have hnd:(b.ws.map (·.1)).Nodup:=by rw [List.nodup_iff_pairwise_ne];exact (hbw b hb).1.imp fun h e=>by omega
   rw [Zj_ hnd h1];exact h2
  have:=zz_ hP.t.hd hs;rw [List.length_map] at this;have:=hlen B hbw;omega
 exact {hP with t:={hP.t with hn:=hhd,wn:=hwk},dn:=hdn}
theorem v37_ {P:Prop} (h:P:=by
 have T:=(I.N.C i h).ti k t hg;have hx:(toTx k).Node=i:=by rw [←(I.N.sh i h).2];exact ((I.N.C i h).kn k t hg).1
 have hst:(absW w).st (toTx k)=some (viewT t):=by rw [Zba_ h hx,ZV_,hg];rfl
 have hs:∀p∈t.parts,p∈(List.range n).map fun (j:Nat)=>(j:Int):=fun p hp=>by
  have:=I.part ((I.S.part hst).2 hp);exact List.mem_map.2 ⟨p.toNat,List.mem_range.2 (by omega),by omega⟩
 have:=zz_ T.parts_nodup hs;rw [List.length_map,List.length_range] at this;have:=I.n4;omega):P:=h
theorem WInv.ok {n K:Nat} {B:List BT} {w:PW} (I:WInv n K B w) (hl:w.log.length≤900000000):WOk K w:=by
 have hm:∀q∈w.ns,∃(i:Nat) (h:i<w.ns.length),w.ns[i]=q:=fun q hq=>List.getElem_of_mem hq;refine ⟨fun q hq=>?_,fun q hq=>?_,fun q hq k t hg=>?_,by have:=I.k3;omega,hl,fun q hq=>?_,I.N.sh⟩
 ·obtain ⟨i,h,rfl⟩:=hm q hq;exact I.N.P i h
 ·obtain ⟨i,h,rfl⟩:=hm q hq;exact I.N.C i h
 ·obtain ⟨i,h,rfl⟩:=hm q hq;exact v37_
 ·obtain ⟨i,h,rfl⟩:=hm q hq;have:=I.life i h;have:=I.k3;unfold fits;omega
theorem NOk.set {K K' i:Nat} {w w':PW} {q:PN} (N:NOk K w) (hK:K≤K') (h:i<w.ns.length) (hw:w'.ns=w.ns.set i q) (h1:q.ps.sh=i) (h2:q.cs.node=i) (hP:PInv K' q.ps) (hC:CInv K' q.cs):NOk K' w':=by
 have hl:∀j,j<w'.ns.length→j<w.ns.length:=fun j hj=>by rw [hw,List.length_set] at hj;exact hj
 refine ⟨fun j hj=>?_,fun j hj=>?_,fun j hj=>?_⟩
 ·simp only [hw,List.getElem_set];split
  ·next e=>subst e;exact ⟨h1,h2⟩
  ·exact N.sh j (hl j hj)
 ·simp only [hw,List.getElem_set];split
  ·exact hP
  ·exact (N.P j (hl j hj)).more hK
 ·simp only [hw,List.getElem_set];split
  ·exact hC
  ·exact (N.C j (hl j hj)).more hK
end Go.Proofs.YtlflbkpmfhhikaaGreatDoor
