/- Log and Prepared with lists that stay owned. -/
import Derived.Test.YtlflbkpmfhhikaaGreatDoorKXL
import Derived.Test.YtlflbkpmfhhikaaGreatDoorKZS
set_option maxHeartbeats 16000000
set_option maxRecDepth 100000
set_option linter.unusedVariables false
set_option linter.unusedSimpArgs false
namespace Go.Proofs.YtlflbkpmfhhikaaGreatDoor
open Go Go.Sx Go.Proofs
theorem Zdj_ {W0:World} {H:Heap} {c:List Value} {m:Work} (h0:Qi_ H c m):
  Ct Tryz.prog 84 #[.agg c.toArray] W0 H [] (fun r H' B=>∃d1 e1 d2 e2,r= .agg (m.cv (.slice d1 m.Take.length e1) (.slice d2 m.Drop.length e2)).toArray∧B=[ownS rStr 1 16 9 H' (.slice d1 m.Take.length e1) m.Take,ownS rStr 1 16 9 H' (.slice d2 m.Drop.length e2) m.Drop]∧H'=H):=by
 refine Ct.go fun R=>?_;obtain ⟨s1,s2,rfl,f1,h1,h2⟩:=h0;refine walk ?_;refine qc_ rfl rfl fun p1 _=>?_;refine Qb_ rfl fun p2 _=>?_;refine walk ?_;refine zc_ 7 [row p1 50 (m.cv s1 s2)] ?_;refine qa_ 0 ?_;refine qa_ 1 ?_;refine qa_ 3 ?_;refine qa_ 4 ?_;refine zo_ 2 rfl rfl (Zr_ h1) fun r1 H1 B hl1 ⟨eB,eH⟩=>?_;subst eB eH;refine ⟨subA,?_⟩;refine qa_ 6 ?_;refine zo_ 5 rfl rfl (Zr_ h2) fun r2 H2 B hl2 ⟨eB,eH⟩=>?_;subst eB eH;refine ⟨subA,?_⟩;refine qb_ rfl ?_;refine qq_ r1 fun d1 e1 e _ _ _=>?_;subst e;refine qq_ r2 fun d2 e2 e _ _ _=>?_;subst e;refine walk ?_;refine finB [ownS rStr 1 16 9 H2 (.slice d1 m.Take.length e1) m.Take,ownS rStr 1 16 9 H2 (.slice d2 m.Drop.length e2) m.Drop] ?_;exact ⟨d1,e1,d2,e2,rfl,rfl,rfl⟩
structure RecV where
  q:Rec
  d1:Option Addr
  e1:Nat
  d2:Option Addr
  e2:Nat
def RecV.cv (v:RecV):List Value:=[I v.q.Kind,I v.q.Txn.Node,I v.q.Txn.Life,I v.q.Txn.Count,I v.q.Work.Robot,.slice v.d1 v.q.Work.Take.length v.e1,.slice v.d2 v.q.Work.Drop.length v.e2,.bool v.q.Yes,nilS]
def qbf_:Rd RecV:=fun H cs v=>cs=v.cv
instance :RdOk qbf_ 9:=⟨fun h=>by subst h;rfl,fun h=>by subst h;rfl,fun hl h=>h⟩
def ownV (H:Heap) (v:RecV):za_:=big [ownS rStr 1 16 9 H (.slice v.d1 v.q.Work.Take.length v.e1) v.q.Work.Take,ownS rStr 1 16 9 H (.slice v.d2 v.q.Work.Drop.length v.e2) v.q.Work.Drop]
theorem qdk_ {H:Heap} {v:RecV} {L:List za_}:Sub (ownS rStr 1 16 9 H (.slice v.d1 v.q.Work.Take.length v.e1) v.q.Work.Take::ownS rStr 1 16 9 H (.slice v.d2 v.q.Work.Drop.length v.e2) v.q.Work.Drop::L) (ownV H v::L):=
 qB_ (B:=[_,_]) (Sub.refl _) fun h hb=>hb
theorem zbf_ {W0:World} {H:Heap} {p:Nat} {s:TS} (hs:TsOk s):
  Ct Tryz.prog 47 #[.pointer (some ⟨p,0,none⟩)] W0 H [tabO H p s] (fun r H' B=>∃xs:List RecV,B=[ownS qbf_ 9 120 53 H' r xs,bigL (ownV H') xs,tabO H' p s]):=by
 refine Ct.go (vs:=[.pointer (some ⟨p,0,none⟩)]) fun R=>?_;have hn:=hs.wn;have hcap:(1000000:Nat)*120≤zb_:=by decide
 refine Qj_ (A:=tabO H p s) (σ:=Nat×Nat×Nat) (B:=fun a=>[tRow p a.1 a.2.1 a.2.2,hMap H a.1 s,lMap H a.2.1 s,wMap H a.2.2 s]) (p:=fun _=>True) (by repeat (first | exact Has.here | apply Has.there)) (fun h ⟨hb,lb,wb,hbig⟩=>⟨(hb,lb,wb),trivial,hbig⟩) fun ⟨hb,lb,wb⟩ _=>?_;dsimp only;refine qaV_ (A:=wMap H wb s) (by repeat (first | exact Has.here | apply Has.there)) (fun h ho=>QW_ ho) fun hkw=>?_;refine walk ?_;refine Za_ rfl rfl Zch_ fun r1 H1 B hl1 ⟨pk,er,eB,eH⟩=>?_;subst er eB eH;have hc:=ZaD_ (W0:=W0) (H:=H1) (H0:=H1) (RV:=rCW) (ag:=true) (p:=pk) (b:=wb) (ms:=s.works) hs.wf (by simp only [zb_];omega);refine Za_ rfl rfl hc fun r2 H2 B hl2 ⟨eB,eH⟩=>?_;subst eB eH;have hlen:(sort3 (s.works.map (·.1))).length=s.works.length:=by rw [ZP_,List.length_map]
 have hmem:∀k∈sort3 (s.works.map (·.1)),fits k.1∧fits k.2.1∧fits k.2.2:=fun k hk=>by
  obtain ⟨q,hq,rfl⟩:=List.mem_map.1 (qP_.1 hk);exact hs.wf q hq
 have hread:∀k,rCW H2 ((mget k s.works).getD zCW).1 ((mget k s.works).getD zCW):=fun k=>by
  exact v71_
 generalize sort3 (s.works.map (·.1))=ks at*;refine Zd_ r2 fun H3 hl3 hsl=>?_;obtain ⟨b0,c0,rfl,hc0,hd0⟩:=hsl.1.shape;have hlx:(ks.map toTx).length=ks.length:=by simp
 refine walk ?_
 refine Qc_ (σ:=Nat×Option Addr×Nat×List RecV) (fun u=>u.1≤ks.length∧u.2.2.2.length=u.1) (fun u=>[(0,.pointer (some ⟨p,0,none⟩)),(11,.slice b0 (ks.map toTx).length c0),(12,I (ks.map toTx).length),(13,I u.1),(3,.slice u.2.1 u.2.2.2.length u.2.2.1)]) (fun _=>H3)
  (fun u=>ownS qbf_ 9 120 53 H3 (.slice u.2.1 u.2.2.2.length u.2.2.1) u.2.2.2::bigL (ownV H3) u.2.2.2::wMap H2 wb s::tRow p hb lb wb::hMap H2 hb s::lMap H2 lb s::R) (fun u=>ks.length - u.1) (0,none,0,[]) ⟨Nat.zero_le _,rfl⟩ (hs0:=?_) fun ⟨k,d,e,xs⟩ ⟨hk0,hxl⟩ K hL=>?_
 rotate_left
 ·simp only [List.length_nil];refine Sub.trans ?_ (Sub.trans (qE_ (A:=ownV H3)) (ownS_nil (R:=qbf_) (sz:=9) (w:=120) (T:=53) (H:=H3)));exact subA
 simp only at hk0 hxl;dsimp only;refine walk ?_;refine Qe_ rfl (fun hk=>?_) (fun hk=>?_)
 ·have hk1:k<ks.length:=by omega
  have ht:=List.take_succ_eq_append_getElem hk1;refine walk ?_;refine qe_ rfl rfl (hsl).1 (show k<(ks.map toTx).length by simpa using hk1) fun b o c hr hc=>?_;have hx:(ks.map toTx)[k]'(by simpa using hk1)=toTx ks[k]:=by simp
  rw [hx] at hc;have hkm:=hmem ks[k] (List.getElem_mem hk1);have hrd:=hread ks[k];obtain ⟨rfl,_⟩:=hc;generalize ks[k]=kk at*;obtain ⟨ka,kb,kc⟩:=kk;dsimp only at hkm;change HRow H3 b o [I ka,I kb,I kc] at hr;refine walk ?_;refine zg_ rfl rfl hr rfl ?_;refine Qb_ rfl fun p5 _=>?_;refine walk ?_;refine zc_ 12 [wMap H2 wb s,tRow p hb lb wb,row p5 47 [I ka,I kb,I kc]] ?_;refine qa_ 0 ?_;refine qa_ 1 ?_;refine qa_ 2 ?_;refine qa_ 3 ?_;refine qa_ 4 ?_;refine qa_ 5 ?_;refine qa_ 6 ?_;refine Qbo_ (RV:=rCW) (ag:=true) (z:=zCW) 7 rfl rfl rfl (by repeat (first | exact Has.here | apply Has.there)) ?_;obtain ⟨wk,hwk⟩:∃wk,((mget (ka,kb,kc) s.works).getD zCW).2=wk:=⟨_,rfl⟩;refine ze_ 8 rfl rfl rfl (Zdj_ (RdOk.mono (R:=Qi_) hl3 hrd.2)) fun r4 H4 B hl4 ⟨d1,e1,d2,e2,er,eB,eH⟩=>?_;subst er eB eH;refine ⟨subA,?_⟩;rw [hwk];refine qa_ 9 ?_;refine Qu_ (y:=(⟨⟨2,⟨ka,kb,kc⟩,wk,false,[]⟩,d1,e1,d2,e2⟩:RecV)) 10 11 rfl rfl rfl rfl (by rw [hxl];simp only [zb_];omega) fun d3 e3=>⟨subA,?_⟩;have hsl2:xs.length+1=(xs++[(⟨⟨2,⟨ka,kb,kc⟩,wk,false,[]⟩,d1,e1,d2,e2⟩:RecV)]).length:=by simp
  rw [hsl2];refine qb_ rfl ?_;refine zr_ (L':=ownS qbf_ 9 120 53 H4 (.slice d3 (xs++[(⟨⟨2,⟨ka,kb,kc⟩,wk,false,[]⟩,d1,e1,d2,e2⟩:RecV)]).length e3) (xs++[(⟨⟨2,⟨ka,kb,kc⟩,wk,false,[]⟩,d1,e1,d2,e2⟩:RecV)])::bigL (ownV H4) (xs++[(⟨⟨2,⟨ka,kb,kc⟩,wk,false,[]⟩,d1,e1,d2,e2⟩:RecV)])::wMap H2 wb s::tRow p hb lb wb::hMap H2 hb s::lMap H2 lb s::R) ?_ ?_
  ·refine Sub.trans ?_ (Sub.cons (Sub.trans (Sub.trans (qdk_ (v:=(⟨⟨2,⟨ka,kb,kc⟩,wk,false,[]⟩,d1,e1,d2,e2⟩:RecV))) (Sub.cons (show Sub (bigL (ownV H4) xs::_) (bigL (ownV H4) (xs++[])::_) by rw [List.append_nil];exact Sub.refl _))) (bigL_in (l2:=[]))));exact subA
  refine walk ?_;exact Zb_ hL (k+1,d3,e3,xs++[(⟨⟨2,⟨ka,kb,kc⟩,wk,false,[]⟩,d1,e1,d2,e2⟩:RecV)]) ⟨by simp only;omega,by simp only [List.length_append,List.length_cons,List.length_nil];omega⟩
 ·clear hL;obtain rfl:k=ks.length:=by omega
  refine walk ?_;refine finB [ownS qbf_ 9 120 53 H3 (.slice d xs.length e) xs,bigL (ownV H3) xs,tabO H3 p s] ?_ (hs:=?_)
  ·exact ⟨xs,rfl⟩
  ·refine Sub.trans ?_ (Sub.cons (Sub.cons (Sub.trans (ZD_ (H:=H2) (hb:=hb) (lb:=lb) (wb:=wb)) (qap_ hl3))));exact subA
theorem zdk_ {H:Heap} {v:RecV} {L:List za_}:Sub (ownV H v::L) (ownS rStr 1 16 9 H (.slice v.d1 v.q.Work.Take.length v.e1) v.q.Work.Take::ownS rStr 1 16 9 H (.slice v.d2 v.q.Work.Drop.length v.e2) v.q.Work.Drop::L):=
 Sub.trans (qaz_ (B:=[_,_]) fun _ h=>h) (Sub.refl _)
theorem zcd_ {W0:World} {H:Heap} {p i:Nat} {w:PW} (hok:∀q∈w.ns,TsOk q.ps.t) (hiw:i<w.ns.length):
  Ct Tryz.prog 17 #[ptrC p,I i] W0 H [Zc_ H p w] (fun r H' B=>∃xs:List RecV,B=[ownS qbf_ 9 120 53 H' r xs,bigL (ownV H') xs,Zc_ H' p w]):=by
 refine Ct.go (vs:=[ptrC p,I i]) fun R=>?_;refine Qj_ (A:=Zc_ H p w) (σ:=Value×Nat×Value×List NE) (B:=fun a=>[wRow p a.1 a.2.1 (PW.now w) a.2.2.1,wNs a.1 a.2.2.2,bigL (ndP H) a.2.2.2,bigL (ndC H) a.2.2.2,Net.netO H (ptrC a.2.1) (PW.net w),wLog H a.2.2.1 (PW.log w)]) (p:=fun a=>PW.ns w=a.2.2.2.map NE.q) (by repeat (first | exact Has.here | apply Has.there)) (fun h ⟨nv,nb,lv,es,hb,hk⟩=>⟨(nv,nb,lv,es),hk,hb⟩) fun ⟨nv,nb,lv,es⟩ hns=>?_;dsimp only at hns⊢;have hi:i<es.length:=by rw [hns,List.length_map] at hiw;exact hiw
 refine walk ?_;refine Qg_ rfl rfl (QaZ_ (W0:=W0) (H:=H) (p:=p) (nb:=nb) (nv:=nv) (lv:=lv) (now:=w.now) (a:=i) (es:=es)) ?_;rw [Qdg_ hi];have hok1:=hok _ (qaL_ hns hi);refine walk ?_;refine Qb_ rfl fun p5 _=>?_;refine walk ?_;refine zr_ (L':=ndP H es[i]::bigL (ndP H) (es.take i++es.drop (i+1))::row p5 92 es[i].cv::wRow p nv nb w.now lv::wNs nv es::bigL (ndC H) es::Net.netO H (ptrC nb) w.net::wLog H lv w.log::R) ?_ ?_
 ·exact v75_
 refine qo_ (A:=zv_ H es[i].pp (NE.q es[i]).ps) (σ:=Nat×Nat) (B:=fun a=>[pRow es[i].pp a.1 (PS.sh (NE.q es[i]).ps) a.2,tabO H a.1 (PS.t (NE.q es[i]).ps),dMap H a.2 (NE.q es[i]).ps]) (p:=fun _=>True) (by repeat (first | exact Has.here | apply Has.there)) (fun h ⟨tp,db,hbig⟩=>⟨(tp,db),trivial,hbig⟩) fun ⟨tp,db⟩ _=>?_;dsimp only;refine walk ?_;refine Za_ rfl rfl (zbf_ (W0:=W0) (H:=H) (p:=tp) (s:=es[i].q.ps.t) hok1) fun r1 H1 B hl1 ⟨xs,eB⟩=>?_;subst eB;refine walk ?_;refine finB [ownS qbf_ 9 120 53 H1 r1 xs,bigL (ownV H1) xs,Zc_ H1 p w] ?_ (hs:=?_)
 ·exact ⟨xs,rfl⟩
 ·refine Sub.trans (B:=pRow es[i].pp tp es[i].q.ps.sh db::tabO H1 tp es[i].q.ps.t::dMap H db es[i].q.ps::bigL (ndP H) (es.take i++es.drop (i+1))::wRow p nv nb w.now lv::wNs nv es::bigL (ndC H) es::Net.netO H (ptrC nb) w.net::wLog H lv w.log::ownS qbf_ 9 120 53 H1 r1 xs::bigL (ownV H1) xs::R) subA ?_;refine Sub.trans (Zs_ (.refl _) hl1) ?_;refine Sub.trans (Sub.cons (QaK_ hl1)) ?_;refine Sub.trans (Zan_ (A:=ndP H1) hi) ?_;refine Sub.trans (B:=wRow p nv nb w.now lv::wNs nv es::bigL (ndP H1) es::bigL (ndC H) es::Net.netO H (ptrC nb) w.net::wLog H lv w.log::ownS qbf_ 9 120 53 H1 r1 xs::bigL (ownV H1) xs::R) subA ?_;exact v54_
structure LV where
  q:PactNote
  t1:Option Addr×Nat
  t2:Option Addr×Nat
  t3:Option Addr×Nat
abbrev LV.cv (v:LV):List Value:=v.q.cv (.slice v.t1.1 v.q.Rec.Work.Take.length v.t1.2) (.slice v.t2.1 v.q.Rec.Work.Drop.length v.t2.2) (.slice v.t3.1 v.q.Rec.Parts.length v.t3.2)
def rLV:Rd LV:=fun _ cs v=>cs=v.cv
instance :RdOk rLV 10:=⟨fun h=>by subst h;rfl,fun h=>by subst h;rfl,fun hl h=>h⟩
def Qbf_ (v:LV):za_:=big [ownS rStr 1 16 9 Heap.empty (.slice v.t1.1 v.q.Rec.Work.Take.length v.t1.2) v.q.Rec.Work.Take,ownS rStr 1 16 9 Heap.empty (.slice v.t2.1 v.q.Rec.Work.Drop.length v.t2.2) v.q.Rec.Work.Drop,ownS rInt 1 8 3 Heap.empty (.slice v.t3.1 v.q.Rec.Parts.length v.t3.2) v.q.Rec.Parts]
theorem zcF_ {H:Heap} {v:LV} {L:List za_}:Sub (ownS rStr 1 16 9 H (.slice v.t1.1 v.q.Rec.Work.Take.length v.t1.2) v.q.Rec.Work.Take::ownS rStr 1 16 9 H (.slice v.t2.1 v.q.Rec.Work.Drop.length v.t2.2) v.q.Rec.Work.Drop::ownS rInt 1 8 3 H (.slice v.t3.1 v.q.Rec.Parts.length v.t3.2) v.q.Rec.Parts::L) (Qbf_ v::L):=by
 refine Sub.trans (Sub.trans (qr_ H Heap.empty) (Sub.cons (Sub.trans (qr_ H Heap.empty) (Sub.cons (qr_ H Heap.empty))))) ?_;exact qB_ (B:=[_,_,_]) (Sub.refl _) fun h hb=>hb
theorem QcF_ {v:LV} {L:List za_}:Sub (Qbf_ v::L) (ownS rStr 1 16 9 Heap.empty (.slice v.t1.1 v.q.Rec.Work.Take.length v.t1.2) v.q.Rec.Work.Take::ownS rStr 1 16 9 Heap.empty (.slice v.t2.1 v.q.Rec.Work.Drop.length v.t2.2) v.q.Rec.Work.Drop::ownS rInt 1 8 3 Heap.empty (.slice v.t3.1 v.q.Rec.Parts.length v.t3.2) v.q.Rec.Parts::L):=
 Sub.trans (qaz_ (B:=[_,_,_]) fun _ h=>h) (Sub.refl _)
theorem zcr_ {H:Heap}:∀{l:List PactNote} {cs:List Value},RL ZJ_ H cs l→∃ys:List LV,ys.map (·.q)=l∧(∀y∈ys,ZJ_ H y.cv y.q)∧RL rLV H cs ys
 | [],cs,h=>⟨[],rfl,fun y hy=>(by cases hy),h⟩
 | x::l,cs,⟨a,b,e,h1,h2⟩=>by
  obtain ⟨ys,hy,ho,hr⟩:=zcr_ h2;have h1':=h1;obtain ⟨s1,s2,s3,rfl,f0,f1,f2,f3,f4,f5,g1,g2,g3⟩:=h1;obtain ⟨x1,y1,rfl,_,_⟩:=g1.1.shape;obtain ⟨x2,y2,rfl,_,_⟩:=g2.1.shape;obtain ⟨x3,y3,rfl,_,_⟩:=g3.1.shape;refine ⟨⟨x,(x1,y1),(x2,y2),(x3,y3)⟩::ys,by rw [List.map_cons,hy],?_,⟨_,b,e,rfl,hr⟩⟩;intro y hm;rcases List.mem_cons.1 hm with rfl | hm
  ·exact h1'
  ·exact ho y hm
theorem Zee_ {H:Heap} {v:Value} {l:List PactNote} {h:Heap} (ho:wLog H v l h):∃ys:List LV,(ys.map (·.q)=l∧∀y∈ys,ZJ_ H y.cv y.q)∧big [ownS rLV 10 128 71 H v ys] h:=by
 obtain ⟨cs,⟨u,v'⟩,w⟩:=ho;obtain ⟨ys,hy,hr,hl⟩:=zcr_ u;have e:l.length=ys.length:=by rw [←hy,List.length_map]
 exact ⟨ys,⟨hy,hr⟩,Qbn_ ⟨cs,⟨hl,by rw [←e];exact v'⟩,by rw [←e];exact w⟩⟩
theorem ZcF_ {W0:World} {H:Heap} {p:Nat} {w:PW} (hb:w.log.length*128≤zb_):
  Ct Tryz.prog 12 #[ptrC p] W0 H [Zc_ H p w] (fun r H' B=>H'=H∧∃ys:List LV,ys.map (·.q)=w.log∧B=[ownS rLV 10 128 71 H r ys,bigL Qbf_ ys,Zc_ H p w]):=by
 refine Ct.go (vs:=[ptrC p]) fun R=>?_;refine Qj_ (A:=Zc_ H p w) (σ:=Value×Nat×Value×List NE) (B:=fun a=>[wRow p a.1 a.2.1 (PW.now w) a.2.2.1,wNs a.1 a.2.2.2,bigL (ndP H) a.2.2.2,bigL (ndC H) a.2.2.2,Net.netO H (ptrC a.2.1) (PW.net w),wLog H a.2.2.1 (PW.log w)]) (p:=fun a=>PW.ns w=a.2.2.2.map NE.q) (by repeat (first | exact Has.here | apply Has.there)) (fun h ⟨nv,nb,lv,es,hb,hk⟩=>⟨(nv,nb,lv,es),hk,hb⟩) fun ⟨nv,nb,lv,es⟩ hns=>?_;dsimp only at hns⊢;refine Qs_ lv fun lb lc e _ _ _=>?_;subst e;obtain ⟨l,hll⟩:∃l,w.log=l:=⟨_,rfl⟩
 have hwf:Sub (wRow p nv nb w.now (.slice lb l.length lc)::wNs nv es::bigL (ndP H) es::bigL (ndC H) es::Net.netO H (ptrC nb) w.net::wLog H (.slice lb l.length lc) l::R) (Zc_ H p w::R):=by
  rw [←hll];exact qC_ hns
 rw [hll] at hb⊢;refine walk ?_;refine Za_ rfl rfl (qaZ_ (W0:=W0) (H:=H) (b0:=lb) (c0:=lc) hb) fun r1 H1 B hl1 ⟨eB,eH⟩=>?_;subst eB eH;refine qq_ r1 fun b1 c1 e k1 k2 k3=>?_;subst e;refine qo_ (A:=wLog H1 (.slice b1 l.length c1) l) (σ:=List LV) (B:=fun ys=>[ownS rLV 10 128 71 H1 (.slice b1 l.length c1) ys]) (p:=fun ys=>ys.map (·.q)=l∧∀y∈ys,ZJ_ H1 y.cv y.q) (by repeat (first | exact Has.here | apply Has.there)) (fun h ho=>Zee_ ho) fun ys0 ⟨hy0,hr0⟩=>?_;have hyl0:ys0.length=l.length:=by rw [←hy0,List.length_map]
 refine walk ?_
 refine Qc_ (σ:=Nat×List LV) (fun u=>u.1≤l.length∧u.2.map (·.q)=l∧u.2.drop u.1=ys0.drop u.1) (fun u=>[(3,.slice b1 l.length c1),(12,I l.length),(13,I u.1)]) (fun _=>H1)
  (fun u=>ownS rLV 10 128 71 H1 (.slice b1 l.length c1) u.2::bigL Qbf_ (u.2.take u.1)::wRow p nv nb w.now (.slice lb l.length lc)::wNs nv es::bigL (ndP H1) es::bigL (ndC H1) es::Net.netO H1 (ptrC nb) w.net::wLog H1 (.slice lb l.length lc) l::R) (fun u=>l.length - u.1) (0,ys0) ⟨Nat.zero_le _,hy0,rfl⟩ (hs0:=?_) fun ⟨j,ys⟩ ⟨hj0,hym,hyd⟩ K hL=>?_
 rotate_left
 ·show Sub _ (ownS rLV 10 128 71 H1 (.slice b1 l.length c1) ys0::bigL Qbf_ []::_);refine Sub.trans ?_ (Sub.cons qE_);exact subA
 simp only at hj0 hym hyd;dsimp only;have hyl:ys.length=l.length:=by rw [←hym,List.length_map]
 by_cases hj1:j<l.length
 ·have hj2:(j:Int)<(l.length:Int):=by omega
  have hjy:j<ys.length:=by omega
  have hjx:ys[j]∈ys0:=by
   have h1:ys[j]∈ys.drop j:=by rw [List.drop_eq_getElem_cons hjy];exact List.mem_cons_self ..
   rw [hyd] at h1;exact List.mem_of_mem_drop h1
  have hdj:ys.drop (j+1)=ys0.drop (j+1):=by rw [←List.drop_drop,hyd,List.drop_drop]
  have hrx:=hr0 _ hjx;obtain ⟨x,hx⟩:∃x,ys[j]=x:=⟨_,rfl⟩;rw [hx] at hrx;refine walk ?_;refine Qal_ (.slice b1 l.length c1) (Nat.lt_of_le_of_lt (Nat.zero_le j) hjy) fun b2 cap2 cs sp e q1 q2 q3 q4 q5 q6=>?_;injection e with e1 e2 e3
  subst e1 e3;obtain ⟨c,rr,hcr,hcc⟩:=q5.get hjy;rw [hx] at hcc;obtain rfl:c=x.cv:=hcc;obtain ⟨x,⟨x1,y1⟩,⟨x2,y2⟩,⟨x3,y3⟩⟩:=x;dsimp only at hrx hcr;have hcl:(PactNote.cv x (.slice x1 x.Rec.Work.Take.length y1) (.slice x2 x.Rec.Work.Drop.length y2) (.slice x3 x.Rec.Parts.length y3)).length=10:=rfl;obtain ⟨pp,rfl,hpl⟩:=qdf_ hcr (by rw [hcl];decide);rw [List.append_assoc (pp++_)];obtain ⟨qq,hqq⟩:∃qq,rr++sp=qq:=⟨_,rfl⟩;rw [hqq];obtain ⟨s1,s2,s3,hee,f0,f1,f2,f3,f4,f5,g1,g2,g3⟩:=hrx;simp only [PactNote.cv,List.cons.injEq,and_true,true_and] at hee;obtain ⟨rfl,rfl,rfl⟩:=hee;refine walk ?_;refine ex_z 31 ?_;refine Qcq_ 1 rfl rfl ?_;refine Qcq_ 2 rfl rfl ?_;refine Zec_ 20 [row b2 71 (pp++PactNote.cv x (.slice x1 x.Rec.Work.Take.length y1) (.slice x2 x.Rec.Work.Drop.length y2) (.slice x3 x.Rec.Parts.length y3)++qq)] ?_;refine qa_ 0 ?_;refine qa_ 3 ?_;refine qa_ 4 ?_;refine qa_ 5 ?_;refine qa_ 6 ?_;refine qa_ 9 ?_;refine qa_ 10 ?_;refine qa_ 11 ?_;refine qa_ 12 ?_;refine qa_ 15 ?_;refine qa_ 16 ?_;refine qa_ 17 ?_;refine ZaJ_ 7 rfl rfl rfl (by rw [Nat.zero_add];exact zaH_ (k:=6) hpl rfl) ?_;refine ZaJ_ 13 rfl rfl rfl (by rw [Nat.zero_add];exact zaH_ (k:=7) hpl rfl) ?_;refine ZaJ_ 18 rfl rfl rfl (by rw [Nat.zero_add];exact zaH_ (k:=9) hpl rfl) ?_;refine ze_ 8 rfl rfl rfl (Zr_ (W0:=W0) (H:=H1) g1) fun r8 H8 B hl8 ⟨eB,eH⟩=>?_;subst eB eH;refine ⟨subA,?_⟩;refine ze_ 14 rfl rfl rfl (Zr_ (W0:=W0) (H:=H8) g2) fun r14 H9 B hl9 ⟨eB,eH⟩=>?_;subst eB eH;refine ⟨subA,?_⟩;refine ze_ 19 rfl rfl rfl (Qx_ (W0:=W0) (H:=H9) g3) fun r19 H10 B hl10 ⟨eB,eH⟩=>?_;subst eB eH;refine ⟨subA,?_⟩;refine Zaw_ 31 [] ?_;refine Qax_ r8 fun u1 v1 e _ _ _=>?_;subst e;refine Qax_ r14 fun u2 v2 e _ _ _=>?_;subst e;refine Qax_ r19 fun u3 v3 e _ _ _=>?_;subst e;have hcw:∀v1 v2 v3,(PactNote.cv x v1 v2 v3).length=10:=fun _ _ _=>rfl;refine qa_ 20 ?_;refine qa_ 21 ?_;refine qa_ 22 ?_;refine Zi_ 23 (cs':=pp++PactNote.cv x (.slice u1 x.Rec.Work.Take.length v1) (.slice x2 x.Rec.Work.Drop.length y2) (.slice x3 x.Rec.Parts.length y3)++qq) rfl rfl rfl rfl (by simp only [Nat.zero_add,List.length_append,hcw,hpl,List.length_singleton];omega) (by rw [Nat.zero_add,QaH_ (by simp only [List.length_append,hcw,hpl];omega)];exact qaH_ (k:=6) hpl (by rw [hcw];decide)) ⟨subA,?_⟩;refine qa_ 24 ?_;refine qa_ 25 ?_;refine qa_ 26 ?_;refine Zi_ 27 (cs':=pp++PactNote.cv x (.slice u1 x.Rec.Work.Take.length v1) (.slice u2 x.Rec.Work.Drop.length v2) (.slice x3 x.Rec.Parts.length y3)++qq) rfl rfl rfl rfl (by simp only [Nat.zero_add,List.length_append,hcw,hpl,List.length_singleton];omega) (by rw [Nat.zero_add,QaH_ (by simp only [List.length_append,hcw,hpl];omega)];exact qaH_ (k:=7) hpl (by rw [hcw];decide)) ⟨subA,?_⟩;refine qa_ 28 ?_;refine qa_ 29 ?_;refine Zi_ 30 (cs':=pp++PactNote.cv x (.slice u1 x.Rec.Work.Take.length v1) (.slice u2 x.Rec.Work.Drop.length v2) (.slice u3 x.Rec.Parts.length v3)++qq) rfl rfl rfl rfl (by simp only [Nat.zero_add,List.length_append,hcw,hpl,List.length_singleton];omega) (by rw [Nat.zero_add,QaH_ (by simp only [List.length_append,hcw,hpl];omega)];exact qaH_ (k:=9) hpl (by rw [hcw];decide)) ⟨subA,?_⟩;refine qb_ rfl ?_;refine walk ?_;have hs5:=RL.set q5 (us:=PactNote.cv x (.slice u1 x.Rec.Work.Take.length v1) (.slice u2 x.Rec.Work.Drop.length v2) (.slice u3 x.Rec.Parts.length v3)) (y:=(⟨x,(u1,v1),(u2,v2),(u3,v3)⟩:LV)) rfl hjy;rw [hcw,List.append_assoc pp,List.take_left' hpl,←List.append_assoc pp,List.drop_left' (by rw [List.length_append,hpl];rfl)] at hs5;have e3:pp++PactNote.cv x (.slice u1 x.Rec.Work.Take.length v1) (.slice u2 x.Rec.Work.Drop.length v2) (.slice u3 x.Rec.Parts.length v3)++qq=pp++PactNote.cv x (.slice u1 x.Rec.Work.Take.length v1) (.slice u2 x.Rec.Work.Drop.length v2) (.slice u3 x.Rec.Parts.length v3)++rr++sp:=by rw [←hqq,List.append_assoc (pp++_)]
  rw [e3]
  have hst:(ys.set j (⟨x,(u1,v1),(u2,v2),(u3,v3)⟩:LV)).take (j+1)=ys.take j++[⟨x,(u1,v1),(u2,v2),(u3,v3)⟩]:=by
   rw [List.take_succ_eq_append_getElem (by simpa using hjy),List.take_set_of_le (Nat.le_refl _),List.getElem_set_self]
  refine Zb_ hL (j+1,ys.set j ⟨x,(u1,v1),(u2,v2),(u3,v3)⟩) ⟨by simp only;omega,?_,?_⟩ (hs:=?_)
  ·simp only;rw [List.map_set,hym];show l.set j x=l;have:l[j]=x:=by have:=congrArg LV.q hx;simpa [←hym] using this
   rw [←this,List.set_getElem_self]
  ·simp only;rw [List.drop_set_of_lt (by omega),hdj]
  ·dsimp only;rw [hst];refine Sub.trans (B:=row b2 71 (pp++PactNote.cv x (.slice u1 x.Rec.Work.Take.length v1) (.slice u2 x.Rec.Work.Drop.length v2) (.slice u3 x.Rec.Parts.length v3)++rr++sp)::ownS rStr 1 16 9 H10 (.slice u1 x.Rec.Work.Take.length v1) x.Rec.Work.Take::ownS rStr 1 16 9 H10 (.slice u2 x.Rec.Work.Drop.length v2) x.Rec.Work.Drop::ownS rInt 1 8 3 H10 (.slice u3 x.Rec.Parts.length v3) x.Rec.Parts::bigL Qbf_ (ys.take j)::wRow p nv nb w.now (.slice lb l.length lc)::wNs nv es::bigL (ndP H10) es::bigL (ndC H10) es::Net.netO H10 (ptrC nb) w.net::wLog H10 (.slice lb l.length lc) l::R) subA ?_;refine Sub.trans (Sub.cons (Sub.trans (zcF_ (H:=H10) (v:=⟨x,(u1,v1),(u2,v2),(u3,v3)⟩)) qV_)) ?_;refine (QE_ (sz:=10) ?_ q1 q2 ?_).trans ?_
   ·rw [←q3];simp only [List.length_append,hcw]
   ·rw [←q4];simp only [List.length_append,hcw]
   ·have e9:(ys.set j (⟨x,(u1,v1),(u2,v2),(u3,v3)⟩:LV)).length=l.length:=by rw [List.length_set,hyl]
    rw [hyl,←e9];exact QK_ hs5 (by rw [List.length_set];exact q6)
 ·obtain rfl:j=l.length:=by omega
  clear hL;rw [←hyl,List.take_length,hyl];refine walk ?_;refine finB [ownS rLV 10 128 71 H1 (.slice b1 l.length c1) ys,bigL Qbf_ ys,Zc_ H1 p w] ?_ (hs:=Sub.cons (Sub.cons hwf));exact ⟨rfl,ys,hym,rfl⟩
end Go.Proofs.YtlflbkpmfhhikaaGreatDoor
