/- A move is played: a message comes, and the node may lose its power. -/
import Derived.Test.YtlflbkpmfhhikaaGreatDoorJXG
set_option maxHeartbeats 16000000
set_option maxRecDepth 100000
set_option linter.unusedVariables false
set_option linter.unusedSimpArgs false
namespace Go.Proofs.YtlflbkpmfhhikaaGreatDoor
open Go Go.Sx Go.Proofs
theorem v143_ {P:Prop} (h:P:=by
 refine zk_ 21 rfl rfl rfl rfl (by simp) rfl ⟨subA,?_⟩;refine qa_ 22 ?_;refine qa_ 23 ?_;refine qb_ rfl ?_;refine walk ?_;refine qY_ hK ([],es[i].q.cs,4,nilS,H1) ⟨⟨[],hws,rfl,rfl,rfl⟩,hl1⟩ (hs:=?_);exact v34_):P:=h
theorem v55_ {P:Prop} (h:P:=by
 refine zk_ 21 rfl rfl rfl rfl (by simp) rfl ⟨subA,?_⟩;refine qa_ 22 ?_;refine qa_ 23 ?_;refine qb_ rfl ?_;refine walk ?_;refine qY_ hK (Zi_ es[i].q.cs.node (newX es[i].q.cs) (Zp_ w.now ws),Qg_ es[i].q.cs w.now ws,0,v1,H1) ⟨⟨ws,hws,by unfold saidB;rw [if_neg hne],rfl,by rw [if_neg hne]⟩,hl1⟩):P:=h
theorem v62_ {P:Prop} (h:P:=by
 refine Sub.trans (B:=bigL (ndC H) es::row b2 92 (neC es++sp)::row p3 37 (m.cv (.slice b0 m.Works.length c0))::wRow p (.slice (some ⟨b2,0,none⟩) es.length cap) nb w.now lv::bigL (ndP H) es::Net.netO H (ptrC nb) w.net::wLog H lv w.log::R) subA (zV_ hil)):P:=h
theorem qcR_ {W0:World} {H:Heap} {p n i:Nat} {s:Value} {w:PW} {m:Move} (KW:WOk n w) (hs:SlB zj_ 3 56 H s m.Works) (hnow:0≤w.now∧w.now≤1073741824) (hk:fits m.Kind) (ha:fits m.A) (k1:m.Kind=1) (hai:m.A=i) (hi:i<w.ns.length) (hwl:m.Works.length≤w.ns.length) (hwn:w.ns.length≤1000):
  Ct Tryz.prog 14 #[ptrC p,.agg (m.cv s).toArray] W0 H [qd_ H p w] (fun r H' B=>QaR_ n H' p w m r B):=by
 have hb:okMv w m.Kind m.A m.Works.length:=by unfold okMv zn_;omega
 obtain ⟨b0,c0,rfl,_,_⟩:=hs.1.shape;refine Ct.go (vs:=[ptrC p,.agg (m.cv (.slice b0 m.Works.length c0)).toArray]) fun R=>?_;refine Zg_ (A:=qd_ H p w) (σ:=Value×Nat×Value×List NE) (B:=fun a=>[wRow p a.1 a.2.1 (PW.now w) a.2.2.1,wNs a.1 a.2.2.2,bigL (ndP H) a.2.2.2,bigL (ndC H) a.2.2.2,Net.netO H (ptrC a.2.1) (PW.net w),wLog H a.2.2.1 (PW.log w)]) (p:=fun a=>PW.ns w=a.2.2.2.map NE.q) (by repeat (first | exact Has.here | apply Has.there)) (fun h ⟨nv,nb,lv,es,hb,hk⟩=>⟨(nv,nb,lv,es),hk,hb⟩) fun ⟨nv,nb,lv,es⟩ hns=>?_;dsimp only at hns⊢;refine qs_ nv fun base cap e q1 q2 q3=>?_;subst e;have hln:es.length=w.ns.length:=by rw [hns,List.length_map]
 refine walk ?_;refine qc_ rfl rfl fun p3 _=>?_;refine walk ?_;refine Zf_ rfl rfl (zH_ (W0:=W0) (H:=H) (p:=p) (nb:=nb) (cap:=cap) (base:=base) (lv:=lv) (w:=w) (m:=m) hln hs hnow hk ha) ?_;rw [decide_eq_true hb];have hil:i<es.length:=by omega
 have hwi:w.ns[i]=es[i].q:=by simp only [hns,List.getElem_map]
 have hmem:=ZaH_ hns hil;have IC:=KW.c _ hmem;haveI hin:NatOf m.A i:=⟨hai⟩;refine walk ?_;refine QcZ_ (.slice base es.length cap) (by omega) fun b2 cap2 cs sp e q1 q2 q3 q4 q5 q6=>?_
 cases e
 obtain rfl:=QcR_.1 q5;have hcp:(neC es++sp)[0+(i:Int).toNat*3+1]?=some (ptrC es[i].cp):=by rw [Nat.zero_add,Int.toNat_natCast];exact Zal_ (k:=1) hil rfl
 refine ex_L (L':=ndC H es[i]::bigL (ndC H) (es.take i++es.drop (i+1))::row b2 92 (neC es++sp)::row p3 37 (m.cv (.slice b0 m.Works.length c0))::wRow p (.slice (some ⟨b2,0,none⟩) es.length cap) nb w.now lv::bigL (ndP H) es::Net.netO H (ptrC nb) w.net::wLog H lv w.log::R) ?_ ?_
 ·exact v62_
 have hnf:fits w.now:=by unfold fits;omega
 have hqn:=KW.n
 refine Zbe_ (σ:=List Message×CS×Int×Value×Heap) (fun u=>(∃ws,pq ws=works0 0 m.Works∧u.1=saidB es[i].q.cs w.now ws∧u.2.1=Qg_ es[i].q.cs w.now ws∧u.2.2.1=if ws=[] then 4 else 0)∧H.le u.2.2.2.2) (fun u=>[(0,ptrC p),(6,u.2.2.2.1),(7,I u.2.2.1)]) (fun u=>u.2.2.2.2)
  (fun u=>ownS Qa_ 19 216 106 u.2.2.2.2 u.2.2.2.1 u.1::zh_ u.2.2.2.2 es[i].cp u.2.1::bigL (ndC H) (es.take i++es.drop (i+1))::row b2 92 (neC es++sp)::wRow p (.slice (some ⟨b2,0,none⟩) es.length cap) nb w.now lv::bigL (ndP H) es::Net.netO H (ptrC nb) w.net::wLog H lv w.log::R) (fun K hK=>?_) fun ⟨out,cs',ee,v1,H1⟩ ⟨⟨ws,hws,ho,hc',he⟩,hl1⟩=>?_
 ·refine zc_ 24 [row b2 92 (neC es++sp),row p3 37 (m.cv (.slice b0 m.Works.length c0)),wRow p (.slice (some ⟨b2,0,none⟩) es.length cap) nb w.now lv] ?_;refine qa_ 0 ?_;refine qa_ 1 ?_;refine qa_ 2 ?_;refine qa_ 3 ?_;refine qa_ 4 ?_;refine qa_ 5 ?_;refine qcr_ 6 rfl rfl rfl (j:=i) hil ?_;refine qa_ 7 ?_;refine Zag_ 8 rfl rfl rfl hcp ?_;refine qa_ 9 ?_;refine qa_ 10 ?_;refine qa_ 11 ?_;refine qa_ 12 ?_;refine qa_ 13 ?_;refine qa_ 14 ?_;have hcall:∀p5:Nat,p5=p5→_:=fun _ _=>(QcP_ (W0:=W0) (H:=H) (p:=es[i].cp) (n:=n) (s:=es[i].q.cs) (l:=m.Works) (now:=w.now) IC (by omega) hnf hs (by omega));refine zaP_ (A:=[ndC H es[i]]) 15 20 rfl rfl rfl (hcall 0 rfl) (fun r1 H1 B hl1 ⟨ws,hws,hcase⟩=>?_) (fun p5 _=>?_)
  ·rcases hcase with ⟨hw0,er,eB⟩ | ⟨hne,v1,er,eB⟩
   ·subst er eB hw0;refine ⟨subA,?_⟩;refine qa_ 16 ?_;refine zd_ 17 rfl rfl rfl rfl ?_;refine zd_ 18 rfl rfl rfl rfl ?_;refine zd_ 19 rfl rfl rfl rfl ?_;refine Zs_ 20 rfl rfl fun p5 _=>?_;exact v143_
   ·subst er eB;refine ⟨subA,?_⟩;refine qa_ 16 ?_;refine zd_ 17 rfl rfl rfl rfl ?_;refine zd_ 18 rfl rfl rfl rfl ?_;refine zd_ 19 rfl rfl rfl rfl ?_;refine Zs_ 20 rfl rfl fun p5 _=>?_;exact v55_
  ·refine qe_ (A:=[ndC H es[i]]) 15 rfl rfl rfl (hcall 0 rfl) fun r1 H1 B hl1 ⟨ws,hws,hcase⟩=>?_;rcases hcase with ⟨hw0,er,eB⟩ | ⟨hne,v1,er,eB⟩
   ·subst er eB hw0;refine ⟨subA,?_⟩;refine qa_ 16 ?_;refine zd_ 17 rfl rfl rfl rfl ?_;refine zd_ 18 rfl rfl rfl rfl ?_;refine zd_ 19 rfl rfl rfl rfl ?_;exact v143_
   ·subst er eB;refine ⟨subA,?_⟩;refine qa_ 16 ?_;refine zd_ 17 rfl rfl rfl rfl ?_;refine zd_ 18 rfl rfl rfl rfl ?_;refine zd_ 19 rfl rfl rfl rfl ?_;exact v55_
 simp only at ho hc' he hl1;dsimp only;refine ZaX_ v1 fun H2 hl2 hso=>?_;refine walk ?_;refine Za_ rfl rfl (qaH_ (W0:=W0) (H:=H2) (H0:=H) (p:=p) (nb:=nb) (nv:= .slice (some ⟨b2,0,none⟩) es.length cap) (lv:=lv) (v:=v1) (now:=w.now) (l:=w.net) (ms:=out) (hl1.trans hl2) hso.1) fun r3 H3 B hl3 eB=>?_;subst eB;refine walk ?_;have hlz:=hl1.trans (hl2.trans hl3)
 have hns3:(setN w i ⟨es[i].q.ps,cs'⟩).ns=(es.set i (es[i].to ⟨es[i].q.ps,cs'⟩)).map NE.q:=by
  show w.ns.set i _=_;rw [hns,List.map_set];rfl
 have hlife:cs'.life=es[i].q.cs.life:=by rw [hc'];unfold Qg_;split<;>rfl
 refine finB [qd_ H3 p {setN w i ⟨es[i].q.ps,cs'⟩ with net:=Zq_ w.net out}] ?_ (hs:=?_)
 ·have hpp:=PPlay.begin (n:=n) (w:=w) (k:=m.Kind) (a:=m.A) (works:=m.Works) k1 i hai hi hwl ws hws;rw [hwi,←hc',←ho,←he] at hpp;exact ⟨_,ee,hpp,rfl,rfl⟩
 ·refine Sub.trans (B:=ndC H1 (es[i].to ⟨es[i].q.ps,cs'⟩)::bigL (ndC H) (es.take i++es.drop (i+1))::bigL (ndP H) es::row b2 92 (neC es++sp)::wRow p (.slice (some ⟨b2,0,none⟩) es.length cap) nb w.now lv::Net.netO H3 (ptrC nb) (Zq_ w.net out)::wLog H lv w.log::R) (by rw [show ndC H1 (es[i].to ⟨es[i].q.ps,cs'⟩)=zh_ H1 es[i].cp cs' from rfl];exact subA) ?_;refine Sub.trans (Sub.cons (Qat_ hl1)) ?_;refine Sub.trans (zay_ (A:=ndC H1) hil) ?_;refine Sub.trans (Sub.cons (zcq_ (A:=ndP H) hil (e:=es[i].to ⟨es[i].q.ps,cs'⟩) fun _ h=>h)) ?_;refine Sub.trans (Sub.cons (Sub.cons (zdu_ q1 q2 (by rw [List.length_append,ZT_];rw [List.length_append,ZT_] at q4;exact q4) q6))) ?_;refine Sub.trans (Sub.cons (Sub.cons (ZcG_ hil (q:=⟨es[i].q.ps,cs'⟩) hlife))) ?_;refine Sub.trans (B:=wRow p (.slice (some ⟨b2,0,none⟩) es.length cap) nb w.now lv::wNs (.slice (some ⟨b2,0,none⟩) es.length cap) (es.set i (es[i].to ⟨es[i].q.ps,cs'⟩))::bigL (ndP H) (es.set i (es[i].to ⟨es[i].q.ps,cs'⟩))::bigL (ndC H1) (es.set i (es[i].to ⟨es[i].q.ps,cs'⟩))::Net.netO H3 (ptrC nb) (Zq_ w.net out)::wLog H lv w.log::R) subA ?_;exact Zr_ (w:={setN w i ⟨es[i].q.ps,cs'⟩ with net:=Zq_ w.net out}) hns3 hlz (hl2.trans hl3) (.refl _) hlz
theorem zdt_ {W0:World} {H:Heap} {p n i:Nat} {s:Value} {w:PW} {m:Move} (KW:WOk n w) (hs:SlB zj_ 3 56 H s m.Works) (hnow:0≤w.now∧w.now≤1073741824) (hk:fits m.Kind) (ha:fits m.A) (k5:m.Kind=5) (hai:m.A=i) (hi:i<w.ns.length):
  Ct Tryz.prog 14 #[ptrC p,.agg (m.cv s).toArray] W0 H [qd_ H p w] (fun r H' B=>QaR_ n H' p w m r B):=by
 have hb:okMv w m.Kind m.A m.Works.length:=by unfold okMv zn_;omega
 obtain ⟨b0,c0,rfl,_,_⟩:=hs.1.shape;refine Ct.go (vs:=[ptrC p,.agg (m.cv (.slice b0 m.Works.length c0)).toArray]) fun R=>?_;refine Zg_ (A:=qd_ H p w) (σ:=Value×Nat×Value×List NE) (B:=fun a=>[wRow p a.1 a.2.1 (PW.now w) a.2.2.1,wNs a.1 a.2.2.2,bigL (ndP H) a.2.2.2,bigL (ndC H) a.2.2.2,Net.netO H (ptrC a.2.1) (PW.net w),wLog H a.2.2.1 (PW.log w)]) (p:=fun a=>PW.ns w=a.2.2.2.map NE.q) (by repeat (first | exact Has.here | apply Has.there)) (fun h ⟨nv,nb,lv,es,hb,hk⟩=>⟨(nv,nb,lv,es),hk,hb⟩) fun ⟨nv,nb,lv,es⟩ hns=>?_;dsimp only at hns⊢;refine qs_ nv fun base cap e q1 q2 q3=>?_;subst e;have hln:es.length=w.ns.length:=by rw [hns,List.length_map]
 refine walk ?_;refine qc_ rfl rfl fun p3 _=>?_;refine walk ?_;refine Zf_ rfl rfl (zH_ (W0:=W0) (H:=H) (p:=p) (nb:=nb) (cap:=cap) (base:=base) (lv:=lv) (w:=w) (m:=m) hln hs hnow hk ha) ?_;rw [decide_eq_true hb];have hil:i<es.length:=by omega
 have hwi:w.ns[i]=es[i].q:=by simp only [hns,List.getElem_map]
 have hmem:=ZaH_ hns hil;have IC:=KW.c _ hmem;have IP:=KW.p _ hmem;have hpl:=KW.pl _ hmem;haveI hin:NatOf m.A i:=⟨hai⟩;have hnf:fits w.now:=by unfold fits;omega
 have hqn:=KW.n;refine walk ?_;refine QcZ_ (.slice base es.length cap) (by omega) fun b2 cap2 cs sp e q1 q2 q3 q4 q5 q6=>?_
 cases e
 obtain rfl:=QcR_.1 q5;have hcp:(neC es++sp)[0+(i:Int).toNat*3+1]?=some (ptrC es[i].cp):=by rw [Nat.zero_add,Int.toNat_natCast];exact Zal_ (k:=1) hil rfl
 have hpp:(neC es++sp)[0+(i:Int).toNat*3]?=some (ptrC es[i].pp):=by rw [Nat.zero_add,Int.toNat_natCast];exact Zal_ (k:=0) hil rfl
 refine ex_L (L':=ndC H es[i]::bigL (ndC H) (es.take i++es.drop (i+1))::row b2 92 (neC es++sp)::row p3 37 (m.cv (.slice b0 m.Works.length c0))::wRow p (.slice (some ⟨b2,0,none⟩) es.length cap) nb w.now lv::bigL (ndP H) es::Net.netO H (ptrC nb) w.net::wLog H lv w.log::R) ?_ ?_
 ·exact v62_
 refine zc_ 19 [row b2 92 (neC es++sp),row p3 37 (m.cv (.slice b0 m.Works.length c0)),wRow p (.slice (some ⟨b2,0,none⟩) es.length cap) nb w.now lv] ?_;refine qa_ 0 ?_;refine qa_ 1 ?_;refine qa_ 2 ?_;refine qa_ 3 ?_;refine qa_ 4 ?_;refine qa_ 5 ?_;refine qcr_ 6 rfl rfl rfl (j:=i) hil ?_;refine qa_ 7 ?_;refine Zag_ 8 rfl rfl rfl hcp ?_;refine qa_ 9 ?_;refine qa_ 10 ?_;refine qa_ 11 ?_;refine qa_ 12 ?_;refine qe_ (A:=[ndC H es[i]]) 13 rfl rfl rfl (Zdq_ (W0:=W0) (H:=H) (p:=es[i].cp) (n:=n) (s:=es[i].q.cs) (now:=w.now) IC (by omega) hnf (fun k t h=>Nat.le_trans (hpl k t h) (by omega))) fun r1 H1 B hl1 ⟨v1,v2,er,eB⟩=>?_;subst er eB;refine ⟨subA,?_⟩;refine qa_ 14 ?_;refine zd_ 15 rfl rfl rfl rfl ?_;refine zd_ 16 rfl rfl rfl rfl ?_;refine qa_ 17 ?_;refine qa_ 18 ?_;refine qb_ rfl ?_;refine Zc_ v1 fun H2 hl2 hso=>?_;refine walk ?_;refine Za_ rfl rfl (qaH_ (W0:=W0) (H:=H2) (H0:=H) (p:=p) (nb:=nb) (nv:= .slice (some ⟨b2,0,none⟩) es.length cap) (lv:=lv) (v:=v1) (now:=w.now) (l:=w.net) (ms:=Qz_ es[i].q.cs w.now) (hl1.trans hl2) hso.1) fun r3 H3 B hl3 eB=>?_;subst eB;refine walk ?_;have hl03:=hl1.trans (hl2.trans hl3);have hok1:TsOk es[i].q.ps.t:=IP.t.ok (by omega);have hox:∀q∈prepL es[i].q.ps.t,okX q.Txn.k:=fun q hq=>(IP.t.ww _ _ (IP.t.recs hq)).2;refine ex_L (L':=ndP H es[i]::bigL (ndP H) (es.take i++es.drop (i+1))::row b2 92 (neC es++sp)::row p3 37 (m.cv (.slice b0 m.Works.length c0))::wRow p (.slice (some ⟨b2,0,none⟩) es.length cap) nb w.now lv::Net.netO H3 (ptrC nb) (Zq_ w.net (Qz_ es[i].q.cs w.now))::zh_ H1 es[i].cp (Qq_ es[i].q.cs w.now)::bigL (ndC H) (es.take i++es.drop (i+1))::wLog H lv w.log::R) ?_ ?_
 ·refine Sub.trans (B:=bigL (ndP H) es::row b2 92 (neC es++sp)::row p3 37 (m.cv (.slice b0 m.Works.length c0))::wRow p (.slice (some ⟨b2,0,none⟩) es.length cap) nb w.now lv::Net.netO H3 (ptrC nb) (Zq_ w.net (Qz_ es[i].q.cs w.now))::zh_ H1 es[i].cp (Qq_ es[i].q.cs w.now)::bigL (ndC H) (es.take i++es.drop (i+1))::wLog H lv w.log::R) subA (zV_ hil)
 refine zc_ 11 [row b2 92 (neC es++sp),row p3 37 (m.cv (.slice b0 m.Works.length c0)),wRow p (.slice (some ⟨b2,0,none⟩) es.length cap) nb w.now lv] ?_;refine qa_ 0 ?_;refine qa_ 1 ?_;refine qa_ 2 ?_;refine qa_ 3 ?_;refine qa_ 4 ?_;refine qa_ 5 ?_;refine qa_ 6 ?_;refine qcr_ 7 rfl rfl rfl (j:=i) hil ?_;refine qa_ 8 ?_;refine Zag_ 9 rfl rfl rfl hpp ?_;refine qe_ (A:=[ndP H es[i]]) 10 rfl rfl rfl (ZdR_ (ZdO_ (W0:=W0) (H:=H3) (p:=es[i].pp) (s:=es[i].q.ps) hok1 IP.sh hox) fun _ h=>qbW_ hl03 h) fun r4 H4 B hl4 eB=>?_;subst eB;refine ⟨subA,?_⟩;refine qf_ r4 fun H5 hl5 hsa=>?_;refine qb_ rfl ?_;refine Za_ rfl rfl (qaH_ (W0:=W0) (H:=H5) (H0:=H3) (p:=p) (nb:=nb) (nv:= .slice (some ⟨b2,0,none⟩) es.length cap) (lv:=lv) (v:=r4) (now:=w.now) (l:=Zq_ w.net (Qz_ es[i].q.cs w.now)) (ms:=askL es[i].q.ps) (hl4.trans hl5) hsa.1) fun r6 H6 B hl6 eB=>?_;subst eB;refine walk ?_;have hl46:=hl4.trans (hl5.trans hl6);have hl06:=hl03.trans hl46
 have hns3:(setN w i ⟨es[i].q.ps,Qq_ es[i].q.cs w.now⟩).ns=(es.set i (es[i].to ⟨es[i].q.ps,Qq_ es[i].q.cs w.now⟩)).map NE.q:=by
  show w.ns.set i _=_;rw [hns,List.map_set];rfl
 refine finB [qd_ H6 p {setN w i ⟨es[i].q.ps,Qq_ es[i].q.cs w.now⟩ with net:=Zq_ (Zq_ w.net (Qz_ es[i].q.cs w.now)) (askL es[i].q.ps)}] ?_ (hs:=?_)
 ·have hpp:=PPlay.step (n:=n) (w:=w) (k:=m.Kind) (a:=m.A) (works:=m.Works) k5 i hai hi;rw [hwi] at hpp;exact ⟨_,0,hpp,rfl,rfl⟩
 ·refine Sub.trans (B:=ndC H1 (es[i].to ⟨es[i].q.ps,Qq_ es[i].q.cs w.now⟩)::bigL (ndC H) (es.take i++es.drop (i+1))::ndP H4 (es[i].to ⟨es[i].q.ps,Qq_ es[i].q.cs w.now⟩)::bigL (ndP H) (es.take i++es.drop (i+1))::row b2 92 (neC es++sp)::wRow p (.slice (some ⟨b2,0,none⟩) es.length cap) nb w.now lv::Net.netO H6 (ptrC nb) (Zq_ (Zq_ w.net (Qz_ es[i].q.cs w.now)) (askL es[i].q.ps))::wLog H lv w.log::R) (by rw [show ndC H1 (es[i].to ⟨es[i].q.ps,Qq_ es[i].q.cs w.now⟩)=zh_ H1 es[i].cp (Qq_ es[i].q.cs w.now) from rfl,show ndP H4 (es[i].to ⟨es[i].q.ps,Qq_ es[i].q.cs w.now⟩)=Zn_ H4 es[i].pp es[i].q.ps from rfl];exact subA) ?_;refine Sub.trans (Sub.cons (Qat_ hl1)) ?_;refine Sub.trans (zay_ (A:=ndC H1) hil) ?_;refine Sub.trans (Sub.cons (Sub.cons (zaH_ (hl03.trans hl4)))) ?_;refine Sub.trans (Sub.cons (zay_ (A:=ndP H4) hil)) ?_;refine Sub.trans (Sub.cons (Sub.cons (zdu_ q1 q2 (by rw [List.length_append,ZT_];rw [List.length_append,ZT_] at q4;exact q4) q6))) ?_;refine Sub.trans (Sub.cons (Sub.cons (ZcG_ hil (q:=⟨es[i].q.ps,Qq_ es[i].q.cs w.now⟩) rfl))) ?_;refine Sub.trans (B:=wRow p (.slice (some ⟨b2,0,none⟩) es.length cap) nb w.now lv::wNs (.slice (some ⟨b2,0,none⟩) es.length cap) (es.set i (es[i].to ⟨es[i].q.ps,Qq_ es[i].q.cs w.now⟩))::bigL (ndP H4) (es.set i (es[i].to ⟨es[i].q.ps,Qq_ es[i].q.cs w.now⟩))::bigL (ndC H1) (es.set i (es[i].to ⟨es[i].q.ps,Qq_ es[i].q.cs w.now⟩))::Net.netO H6 (ptrC nb) (Zq_ (Zq_ w.net (Qz_ es[i].q.cs w.now)) (askL es[i].q.ps))::wLog H lv w.log::R) subA ?_;exact Zr_ (w:={setN w i ⟨es[i].q.ps,Qq_ es[i].q.cs w.now⟩ with net:=Zq_ (Zq_ w.net (Qz_ es[i].q.cs w.now)) (askL es[i].q.ps)}) hns3 (hl5.trans hl6) (hl2.trans (hl3.trans hl46)) (.refl _) hl06
theorem qdO_ {n:Nat} {s:CS} (I:CInv n s) {m:Message} {k:K3} {t':TX} (h:mget k (Zh_ s m).s.ts=some t'):∃t,mget k s.ts=some t∧t'.parts=t.parts:=by
 have hcut:∀{x:K3},mget k (s.cut x).ts=some t'→∃t,mget k s.ts=some t∧t'.parts=t.parts:=fun {x} h=>⟨t',QJ_ I.nd h,rfl⟩
 have hput:∀{x:Txn} {t:TX},s.isT x→t.parts=(s.tx x).parts→mget k (s.put x.k t).ts=some t'→∃t,mget k s.ts=some t∧t'.parts=t.parts:=fun {x t} hx hp h=>by
  have h':mget k (mset x.k t s.ts)=some t':=h;rw [Qe_] at h';split at h'
  ·next e=>cases h';exact ⟨s.tx x,e▸CS.get_tx hx,hp⟩
  ·exact ⟨t',h',rfl⟩
 unfold Zh_ at h;split at h
 ·exact ⟨t',h,rfl⟩
 split at h
 ·exact ⟨t',h,rfl⟩
 split at h
 ·exact hcut h
 split at h
 ·next hh=>
  split at h
  ·exact hput (t:=zy_ (s.tx m.Txn) m.From) hh.2.1.1 rfl h
  ·exact hput (t:=ZaG_ (s.tx m.Txn)) hh.2.1.1 rfl h
 split at h
 ·next hh=>
  split at h
  ·exact hput (t:=zy_ (s.tx m.Txn) m.From) hh.2.1.1 rfl h
  ·exact hcut h
 ·exact ⟨t',h,rfl⟩
theorem cHear_node {s:CS} {m:Message}:(Zh_ s m).s.node=s.node:=by
 unfold Zh_
 repeat' split
 all_goals rfl
theorem hearS_sh {s:PS} {m:Message} {cs:List Value}:(Qm_ s m cs).sh=s.sh:=by
 unfold Qm_
 repeat' split
 all_goals rfl
theorem WOk.set {n n' i:Nat} {w w':PW} {q:PN} (K:WOk n w) (hn:n≤n') (hn5:n'≤500) (hi:i<w.ns.length) (hw:w'.ns=w.ns.set i q) (hll:w'.log.length≤900000000) (hp:PInv n' q.ps) (hc:CInv n' q.cs) (hpl:∀k t,mget k q.cs.ts=some t→t.parts.length≤1000) (hf:fits (q.cs.life+1)) (h1:q.ps.sh=i) (h2:q.cs.node=i):WOk n' w':=by
 have hm:∀x∈w'.ns,x∈w.ns∨x=q:=fun x hx=>by rw [hw] at hx;exact List.mem_or_eq_of_mem_set hx
 refine ⟨fun x hx=>?_,fun x hx=>?_,fun x hx=>?_,hn5,hll,fun x hx=>?_,fun j hj=>?_⟩
 ·rcases hm x hx with hx | rfl
  ·exact (K.p x hx).more hn
  ·exact hp
 ·rcases hm x hx with hx | rfl
  ·exact (K.c x hx).more hn
  ·exact hc
 ·rcases hm x hx with hx | rfl
  ·exact K.pl x hx
  ·exact hpl
 ·rcases hm x hx with hx | rfl
  ·exact K.fn x hx
  ·exact hf
 ·have hj':j<w.ns.length:=by rw [hw,List.length_set] at hj;exact hj
  simp only [hw,List.getElem_set];split
  ·next e=>subst e;exact ⟨h1,h2⟩
  ·exact K.sh j hj'
theorem QbV_ {p:Int} {l:List Rec}:(zm_ p l).length=l.length:=List.length_map ..
theorem PHear.len {w w':PW} {m:Message} {out:List Message} (h:PHear w m w' out):w'.log.length≤w.log.length+1:=by
 cases h with
 | part k i hm h cs=>
  show (w.log++zm_ m.To _).length≤_;rw [List.length_append,QbV_];have:=HMid.rcl (q:=w.ns[i]) (m:=m) (.inl ⟨k,cs,rfl,rfl,rfl⟩);omega
 | coord k i hm h=>
  show (w.log++zm_ m.To _).length≤_;rw [List.length_append,QbV_];have:=HMid.rcl (q:=w.ns[i]) (m:=m) (.inr ⟨k,rfl,rfl,rfl⟩);omega
theorem WOk.hear {n:Nat} {w w':PW} {m:Message} {out:List Message} (K:WOk n w) (hn:n+1≤500) (hl:w.log.length+1≤900000000) (hm:OkM m) (h:PHear w m w' out):WOk (n+1) w':=by
 have hlen:=h.len
 cases h with
 | part k i hmi h cs=>
  have hq:w.ns[i]∈w.ns:=List.getElem_mem h;exact K.set (q:=⟨Qm_ w.ns[i].ps m cs,w.ns[i].cs⟩) (Nat.le_succ n) hn h rfl (by omega) ((K.p _ hq).hear hm) ((K.c _ hq).more (Nat.le_succ n)) (by exact K.pl w.ns[i] hq) (by exact K.fn w.ns[i] hq) (hearS_sh.trans (K.sh i h).1) (K.sh i h).2
 | coord k i hmi h=>
  have hq:w.ns[i]∈w.ns:=List.getElem_mem h;refine K.set (q:=⟨w.ns[i].ps,(Zh_ w.ns[i].cs m).s⟩) (Nat.le_succ n) hn h rfl (by omega) ((K.p _ hq).more (Nat.le_succ n)) ((K.c _ hq).hear.more (Nat.le_succ n)) (fun kk t ht=>?_) ?_ (K.sh i h).1 (cHear_node.trans (K.sh i h).2)
  ·obtain ⟨t0,h0,h1⟩:=qdO_ (K.c _ hq) ht;rw [h1];exact K.pl _ hq kk t0 h0
  ·show fits ((Zh_ w.ns[i].cs m).s.life+1);rw [zaM_];exact K.fn _ hq
theorem okz:Net.okM Zk_:=by unfold Net.okM Zk_;simp [qh_]
def DelQ (w:PW) (a:Int) (g:Message) (e:Int) (l:List Message):Prop:=(e=0∧∃(j:Nat) (h:j<w.net.length),a=j∧g=w.net[j]∧l=delM w.net j)∨(e=4∧¬inN w.net a∧g=Zk_∧l=w.net)
theorem v10_ {P:Prop} (h:P:=by
 refine zc_ 13 [wRow p (.slice base es.length cap) nb w.now lv,row p3 37 (m.cv (.slice b0 m.Works.length c0))] ?_;refine qa_ 0 ?_;refine qa_ 1 ?_;refine qa_ 2 ?_;refine qa_ 3 ?_;refine qa_ 4 ?_;refine qa_ 5 ?_;by_cases hin:inN w.net m.A
 ·obtain ⟨j,hj⟩:∃j:Nat,m.A=j:=⟨m.A.toNat,by unfold inN at hin;omega⟩;have hjl:j<w.net.length:=by unfold inN at hin;omega
  have hok:=hokn _ (List.getElem_mem hjl);have hcall:=Net.deliver_yes (W0:=W0) (H:=H) (H0:=H) (p:=ptrC nb) (ms:=w.net) (.refl _) hjl;rw [←hj] at hcall;refine zaP_ 6 10 rfl rfl rfl hcall (fun r1 H1 B hl1 ⟨⟨t1,t2,t3,t4,er,eB⟩,eH⟩=>?_) (fun p8 _=>?_)
  ·subst er eB eH;refine ⟨subA,?_⟩;refine qa_ 7 ?_;refine zd_ 8 rfl rfl rfl rfl ?_;refine zd_ 9 rfl rfl rfl rfl ?_;refine Zs_ 10 rfl rfl fun p8 _=>?_;exact v136_
  ·refine qe_ 6 rfl rfl rfl hcall fun r1 H1 B hl1 ⟨⟨t1,t2,t3,t4,er,eB⟩,eH⟩=>?_;subst er eB eH;refine ⟨subA,?_⟩;refine qa_ 7 ?_;refine zd_ 8 rfl rfl rfl rfl ?_;refine zd_ 9 rfl rfl rfl rfl ?_;exact v136_
 ·have hok:=okz;have hcall:=Net.deliver_no (W0:=W0) (H:=H) (H0:=H) (p:=ptrC nb) (ms:=w.net) (i:=m.A) (.refl _) hin;refine zaP_ 6 10 rfl rfl rfl hcall (fun r1 H1 B hl1 ⟨⟨t1,t2,t3,t4,er,eB⟩,eH⟩=>?_) (fun p8 _=>?_)
  ·subst er eB eH;refine ⟨subA,?_⟩;refine qa_ 7 ?_;refine zd_ 8 rfl rfl rfl rfl ?_;refine zd_ 9 rfl rfl rfl rfl ?_;refine Zs_ 10 rfl rfl fun p8 _=>?_;exact v137_
  ·refine qe_ 6 rfl rfl rfl hcall fun r1 H1 B hl1 ⟨⟨t1,t2,t3,t4,er,eB⟩,eH⟩=>?_;subst er eB eH;refine ⟨subA,?_⟩;refine qa_ 7 ?_;refine zd_ 8 rfl rfl rfl rfl ?_;refine zd_ 9 rfl rfl rfl rfl ?_;exact v137_):P:=h
theorem v136_ {P:Prop} (h:P:=by
 refine zk_ 11 rfl rfl rfl rfl (by simp) rfl ⟨subA,?_⟩;refine qa_ 12 ?_;refine qb_ rfl ?_;refine Net.ops_frzM t1 t2 t3 t4 (w.net[j]) hok fun H2 hl2 hcm=>?_;refine walk ?_;refine qY_ hK (w.net[j],(t1,t2,t3,t4),0,delM w.net j,p8,H2) ⟨.inl ⟨rfl,j,hjl,hj,rfl,rfl⟩,hcm,hl1.trans hl2⟩):P:=h
theorem v137_ {P:Prop} (h:P:=by
 refine zk_ 11 rfl rfl rfl rfl (by simp) rfl ⟨subA,?_⟩;refine qa_ 12 ?_;refine qb_ rfl ?_;refine Net.ops_frzM t1 t2 t3 t4 (Zk_) hok fun H2 hl2 hcm=>?_;refine walk ?_;refine qY_ hK (Zk_,(t1,t2,t3,t4),4,w.net,p8,H2) ⟨.inr ⟨rfl,hin,rfl,rfl⟩,hcm,hl1.trans hl2⟩):P:=h
theorem v47_ {P:Prop} (h:P:=by
 refine Sub.trans (B:=bigL (ndP H) es::bigL (ndC H) es::wLog H lv w.log::row p8 106 (Net.cvM t1 t2 t3 t4 g)::row p3 37 (m.cv (.slice b0 m.Works.length c0))::Net.netO H (ptrC nb) l::wRow p (.slice base es.length cap) nb w.now lv::wNs (.slice base es.length cap) es::R) subA ?_;refine Sub.trans (Sub.trans (zaH_ hl1) (Sub.cons (Sub.trans (Qat_ hl1) (Sub.cons (zbW_ hl1))))) ?_;exact subA):P:=h
theorem v61_ {P:Prop} (h:P:=by
 subst he hl;refine walk ?_;refine finB [qd_ H1 p w] ?_ (hs:=?_)
 ·exact ⟨w,4,.none (by omega) hin,rfl,rfl⟩
 ·refine Sub.trans ?_ (Zr_ (H1:=H) (H2:=H) (H3:=H) (H4:=H) (nv:= .slice base es.length cap) (nb:=nb) (lv:=lv) hns hl1 hl1 hl1 hl1);exact subA):P:=h
theorem ZbV_ {W0:World} {H:Heap} {p n:Nat} {s:Value} {w:PW} {m:Move} (hP:PkH H) (KW:WOk n w) (hn:n+1≤500) (hll:w.log.length+1≤900000000) (hmok:∀g∈w.net,OkM g∧zn_ w g.To) (hs:SlB zj_ 3 56 H s m.Works) (hnow:0≤w.now∧w.now≤1073741824) (hk:fits m.Kind) (ha:fits m.A) (k2:m.Kind=2):
  Ct Tryz.prog 14 #[ptrC p,.agg (m.cv s).toArray] W0 H [qd_ H p w] (fun r H' B=>QaR_ (n+1) H' p w m r B):=by
 have hb:okMv w m.Kind m.A m.Works.length:=by unfold okMv;omega
 obtain ⟨b0,c0,rfl,_,_⟩:=hs.1.shape;refine Ct.go (vs:=[ptrC p,.agg (m.cv (.slice b0 m.Works.length c0)).toArray]) fun R=>?_;refine Zg_ (A:=qd_ H p w) (σ:=Value×Nat×Value×List NE) (B:=fun a=>[wRow p a.1 a.2.1 (PW.now w) a.2.2.1,wNs a.1 a.2.2.2,bigL (ndP H) a.2.2.2,bigL (ndC H) a.2.2.2,Net.netO H (ptrC a.2.1) (PW.net w),wLog H a.2.2.1 (PW.log w)]) (p:=fun a=>PW.ns w=a.2.2.2.map NE.q) (by repeat (first | exact Has.here | apply Has.there)) (fun h ⟨nv,nb,lv,es,hb,hk⟩=>⟨(nv,nb,lv,es),hk,hb⟩) fun ⟨nv,nb,lv,es⟩ hns=>?_;dsimp only at hns⊢;refine qs_ nv fun base cap e q1 q2 q3=>?_;subst e;have hln:es.length=w.ns.length:=by rw [hns,List.length_map]
 refine walk ?_;refine qc_ rfl rfl fun p3 _=>?_;refine walk ?_;refine Zf_ rfl rfl (zH_ (W0:=W0) (H:=H) (p:=p) (nb:=nb) (cap:=cap) (base:=base) (lv:=lv) (w:=w) (m:=m) hln hs hnow hk ha) ?_;rw [decide_eq_true hb];have hqn:=KW.n;refine Qan_ (by repeat (first | exact Has.here | apply Has.there)) (p:=∀g∈w.net,Net.okM g) (A:=Net.netO H (ptrC nb) w.net) (fun h=>Net.netO_ok) fun hokn=>?_;refine walk ?_
 refine Zbe_ (σ:=Message×((Option Addr×Nat)×(Option Addr×Nat)×(Option Addr×Nat)×(Option Addr×Nat))×Int×List Message×Nat×Heap) (fun u=>DelQ w m.A u.1 u.2.2.1 u.2.2.2.1∧Qa_ u.2.2.2.2.2 (Net.cvM u.2.1.1 u.2.1.2.1 u.2.1.2.2.1 u.2.1.2.2.2 u.1) u.1∧H.le u.2.2.2.2.2) (fun u=>[(0,ptrC p),(3,.pointer (some ⟨p3,0,none⟩)),(8,ptrC u.2.2.2.2.1),(9,I u.2.2.1)]) (fun u=>u.2.2.2.2.2)
  (fun u=>row u.2.2.2.2.1 106 (Net.cvM u.2.1.1 u.2.1.2.1 u.2.1.2.2.1 u.2.1.2.2.2 u.1)::row p3 37 (m.cv (.slice b0 m.Works.length c0))::wRow p (.slice base es.length cap) nb w.now lv::wNs (.slice base es.length cap) es::bigL (ndP H) es::bigL (ndC H) es::Net.netO H (ptrC nb) u.2.2.2.1::wLog H lv w.log::R) (fun K hK=>?_) fun ⟨g,⟨t1,t2,t3,t4⟩,ee,l,p8,H1⟩ ⟨hD,hcm,hl1⟩=>?_
 ·exact v10_
 simp only at hD hcm hl1;dsimp only;rcases hD with ⟨he,j,hj,haj,hg,hl⟩ | ⟨he,hin,hg,hl⟩
 rotate_left
 ·exact v61_
 subst he;have hgm:g∈w.net:=by rw [hg];exact List.getElem_mem hj
 obtain ⟨hgo,hgn⟩:=hmok g hgm;refine walk ?_;refine Zw_ (L':=row p8 106 (Net.cvM t1 t2 t3 t4 g)::row p3 37 (m.cv (.slice b0 m.Works.length c0))::Net.netO H (ptrC nb) l::wRow p (.slice base es.length cap) nb w.now lv::wNs (.slice base es.length cap) es::bigL (ndP H1) es::bigL (ndC H1) es::wLog H1 lv w.log::R) ?_ ?_
 ·exact v47_
 have KW1:WOk n {w with net:=l}:=⟨KW.p,KW.c,KW.pl,KW.n,KW.ll,KW.fn,KW.sh⟩;refine Za_ rfl rfl (zbu_ (W0:=W0) (H:=H1) (p:=p) (nb:=nb) (n:=n) (nv:= .slice base es.length cap) (lv:=lv) (w:={w with net:=l}) (m:=g) (es:=es) (hP.mono hl1) hns KW1 hgo hcm hgn) fun r3 H3 B hl3 ⟨w',out,es',lv',hh,hns',eB⟩=>?_;subst eB;have hnet:w'.net=l:=by cases hh<;>rfl
 have hnow':w'.now=w.now:=by cases hh<;>rfl
 have KW2:WOk (n+1) w':=KW1.hear hn hll hgo hh;rw [hl,hg] at hh;refine Zc_ r3 fun H4 hl4 hso=>?_;refine walk ?_;refine Za_ rfl rfl (qaH_ (W0:=W0) (H:=H4) (H0:=H) (p:=p) (nb:=nb) (nv:= .slice base es.length cap) (lv:=lv') (v:=r3) (now:=w'.now) (l:=l) (ms:=out) (hl1.trans (hl3.trans hl4)) hso.1) fun r5 H5 B hl5 eB=>?_;subst eB;refine walk ?_;have hl35:=hl4.trans hl5;refine finB [qd_ H5 p {w' with net:=Zq_ w'.net out}] ?_ (hs:=?_)
 ·exact ⟨_,0,.deliver k2 j haj hj w' out hh,rfl,rfl⟩
 ·refine Sub.trans ?_ (Zr_ (H1:=H3) (H2:=H3) (H3:=H5) (H4:=H3) (w:={w' with net:=Zq_ w'.net out}) (nv:= .slice base es.length cap) (nb:=nb) (lv:=lv') hns' hl35 hl35 (.refl _) hl35);rw [hnet];exact subA
theorem qdt_ {W0:World} {H:Heap} {p n:Nat} {s:Value} {w:PW} {m:Move} (hP:PkH H) (KW:WOk n w) (hn:n+1≤500) (hll:w.log.length+1≤900000000) (hmok:∀g∈w.net,OkM g∧zn_ w g.To) (hs:SlB zj_ 3 56 H s m.Works) (hnow:0≤w.now∧w.now≤1073741824) (hk:fits m.Kind) (ha:fits m.A) (k8:m.Kind=8):
  Ct Tryz.prog 14 #[ptrC p,.agg (m.cv s).toArray] W0 H [qd_ H p w] (fun r H' B=>QaR_ (n+1) H' p w m r B):=by
 have hb:okMv w m.Kind m.A m.Works.length:=by unfold okMv;omega
 obtain ⟨b0,c0,rfl,_,_⟩:=hs.1.shape;refine Ct.go (vs:=[ptrC p,.agg (m.cv (.slice b0 m.Works.length c0)).toArray]) fun R=>?_;refine Zg_ (A:=qd_ H p w) (σ:=Value×Nat×Value×List NE) (B:=fun a=>[wRow p a.1 a.2.1 (PW.now w) a.2.2.1,wNs a.1 a.2.2.2,bigL (ndP H) a.2.2.2,bigL (ndC H) a.2.2.2,Net.netO H (ptrC a.2.1) (PW.net w),wLog H a.2.2.1 (PW.log w)]) (p:=fun a=>PW.ns w=a.2.2.2.map NE.q) (by repeat (first | exact Has.here | apply Has.there)) (fun h ⟨nv,nb,lv,es,hb,hk⟩=>⟨(nv,nb,lv,es),hk,hb⟩) fun ⟨nv,nb,lv,es⟩ hns=>?_;dsimp only at hns⊢;refine qs_ nv fun base cap e q1 q2 q3=>?_;subst e;have hln:es.length=w.ns.length:=by rw [hns,List.length_map]
 refine walk ?_;refine qc_ rfl rfl fun p3 _=>?_;refine walk ?_;refine Zf_ rfl rfl (zH_ (W0:=W0) (H:=H) (p:=p) (nb:=nb) (cap:=cap) (base:=base) (lv:=lv) (w:=w) (m:=m) hln hs hnow hk ha) ?_;rw [decide_eq_true hb];have hqn:=KW.n;refine Qan_ (by repeat (first | exact Has.here | apply Has.there)) (p:=∀g∈w.net,Net.okM g) (A:=Net.netO H (ptrC nb) w.net) (fun h=>Net.netO_ok) fun hokn=>?_;refine walk ?_
 refine Zbe_ (σ:=Message×((Option Addr×Nat)×(Option Addr×Nat)×(Option Addr×Nat)×(Option Addr×Nat))×Int×List Message×Nat×Heap) (fun u=>DelQ w m.A u.1 u.2.2.1 u.2.2.2.1∧Qa_ u.2.2.2.2.2 (Net.cvM u.2.1.1 u.2.1.2.1 u.2.1.2.2.1 u.2.1.2.2.2 u.1) u.1∧H.le u.2.2.2.2.2) (fun u=>[(0,ptrC p),(3,.pointer (some ⟨p3,0,none⟩)),(8,ptrC u.2.2.2.2.1),(9,I u.2.2.1)]) (fun u=>u.2.2.2.2.2)
  (fun u=>row u.2.2.2.2.1 106 (Net.cvM u.2.1.1 u.2.1.2.1 u.2.1.2.2.1 u.2.1.2.2.2 u.1)::row p3 37 (m.cv (.slice b0 m.Works.length c0))::wRow p (.slice base es.length cap) nb w.now lv::wNs (.slice base es.length cap) es::bigL (ndP H) es::bigL (ndC H) es::Net.netO H (ptrC nb) u.2.2.2.1::wLog H lv w.log::R) (fun K hK=>?_) fun ⟨g,⟨t1,t2,t3,t4⟩,ee,l,p8,H1⟩ ⟨hD,hcm,hl1⟩=>?_
 ·exact v10_
 simp only at hD hcm hl1;dsimp only;rcases hD with ⟨he,j,hj,haj,hg,hl⟩ | ⟨he,hin,hg,hl⟩
 rotate_left
 ·exact v61_
 subst he;have hgm:g∈w.net:=by rw [hg];exact List.getElem_mem hj
 obtain ⟨hgo,hgn⟩:=hmok g hgm;refine walk ?_;refine Zw_ (L':=row p8 106 (Net.cvM t1 t2 t3 t4 g)::row p3 37 (m.cv (.slice b0 m.Works.length c0))::Net.netO H (ptrC nb) l::wRow p (.slice base es.length cap) nb w.now lv::wNs (.slice base es.length cap) es::bigL (ndP H1) es::bigL (ndC H1) es::wLog H1 lv w.log::R) ?_ ?_
 ·exact v47_
 have KW1:WOk n {w with net:=l}:=⟨KW.p,KW.c,KW.pl,KW.n,KW.ll,KW.fn,KW.sh⟩;refine Za_ rfl rfl (zbu_ (W0:=W0) (H:=H1) (p:=p) (nb:=nb) (n:=n) (nv:= .slice base es.length cap) (lv:=lv) (w:={w with net:=l}) (m:=g) (es:=es) (hP.mono hl1) hns KW1 hgo hcm hgn) fun r3 H3 B hl3 ⟨w',out,es',lv',hh,hns',eB⟩=>?_;subst eB;have hnet:w'.net=l:=by cases hh<;>rfl
 have hnow':w'.now=w.now:=by cases hh<;>rfl
 have KW2:WOk (n+1) w':=KW1.hear hn hll hgo hh;rw [hl,hg] at hh
 have hgt:∃i:Nat,g.To=i∧i<es'.length:=by
  refine ⟨g.To.toNat,by unfold zn_ at hgn;omega,?_⟩;have h1:w'.ns.length=w.ns.length:=by cases hh<;>exact List.length_set ..
  have h2:w'.ns.length=es'.length:=by rw [hns',List.length_map]
  unfold zn_ at hgn;omega
 obtain ⟨i,hgi,hil⟩:=hgt;have hcall:=qbu_ (W0:=W0) (H:=H3) (p:=p) (nb:=nb) (n:=n+1) (i:=i) (nv:= .slice base es.length cap) (lv:=lv') (w:=w') (es:=es') hns' KW2 hil;rw [←hgi,hnet] at hcall;refine Zw_ (L':=wRow p (.slice base es.length cap) nb w'.now lv'::wNs (.slice base es.length cap) es'::bigL (ndP H3) es'::bigL (ndC H3) es'::Net.netO H3 (ptrC nb) l::wLog H3 lv' w'.log::row p8 106 (Net.cvM t1 t2 t3 t4 g)::row p3 37 (m.cv (.slice b0 m.Works.length c0))::R) ?_ ?_
 ·refine Sub.trans (B:=Net.netO H (ptrC nb) l::wRow p (.slice base es.length cap) nb w'.now lv'::wNs (.slice base es.length cap) es'::bigL (ndP H3) es'::bigL (ndC H3) es'::wLog H3 lv' w'.log::row p8 106 (Net.cvM t1 t2 t3 t4 g)::row p3 37 (m.cv (.slice b0 m.Works.length c0))::R) subA ?_;refine Sub.trans (Net.netO_up (hl1.trans hl3)) ?_;exact subA
 refine walk ?_;refine Za_ rfl rfl hcall fun r5 H5 B hl5 ⟨w'',es'',hpc,hns'',eB⟩=>?_;subst eB;have hlog:w''.log=w'.log:=by cases hpc;rfl
 refine walk ?_;refine finB [qd_ H5 p w''] ?_ (hs:=?_)
 ·exact ⟨w'',0,.fail k8 j haj hj w' w'' out hh i (by rw [←hg];exact hgi) hpc,rfl,rfl⟩
 ·refine Sub.trans ?_ (Zr_ (H1:=H5) (H2:=H5) (H3:=H5) (H4:=H3) (w:=w'') (nv:= .slice base es.length cap) (nb:=nb) (lv:=lv') hns'' (.refl _) (.refl _) (.refl _) hl5);rw [hlog];exact subA
end Go.Proofs.YtlflbkpmfhhikaaGreatDoor
