/- PactPlays, walked. -/
import Derived.Test.YtlflbkpmfhhikaaGreatDoorJMC
import Derived.Test.YtlflbkpmfhhikaaGreatDoorJTR
import Derived.Test.YtlflbkpmfhhikaaGreatDoorJTX
import Derived.Test.YtlflbkpmfhhikaaGreatDoorJXL
import Derived.Test.YtlflbkpmfhhikaaGreatDoorJXT
import Derived.Test.YtlflbkpmfhhikaaGreatDoorJZF
set_option maxHeartbeats 16000000
set_option maxRecDepth 100000
set_option linter.unusedVariables false
set_option linter.unusedSimpArgs false
namespace Go.Proofs.YtlflbkpmfhhikaaGreatDoor
open Go Go.Sx Go.Proofs
theorem WRel.telV {n K:Nat} {B:List BT} {w:PW} {x:RW} (I:WInv n K B w) (R:WRel w x) {i:Nat} (hi:i<w.ns.length) (hc:i<x.Coords.length) (hp:i<x.Parts.length):
  Zad_ w i=(x.Coords[i].Txns.filter fun t=> !t.Open).map (·.X)∧zbp_ w i=openRL x.Coords[i].Txns∧QaH_ w i=x.Parts[i].T.Held∧QbG_ w i=x.Parts[i].T.Prep:=by
 have hn:=Zby_ hi;have r:=R.c i hi hc;have q:=R.p i hi hp;have IC:=I.N.C i hi;have IP:=I.N.P i hi;unfold Zad_ zbp_ QaH_ QbG_;rw [hn];exact ⟨r.voting IC,(r.open IC).trans (QbX_).symm,q.r.held IP.t,q.r.prep IP.t⟩
theorem ZbZ_ {W0:World} {H:Heap} {p n K:Nat} {B0:List BT} {w:PW} {x:RW} {c:List Value} (IW:WInv n K B0 w) (hl:w.log.length≤800000000) (Rl:WRel w x) (h0:rW17 H c x):
  Ct Tryz.prog 24 #[ptrC p,.agg c.toArray] W0 H [qd_ H p w] (fun r H' B=>r= .bool true∧B=[qd_ H' p w]):=by
 refine Ct.go (vs:=[ptrC p,.agg c.toArray]) fun R=>?_;have h00:=h0;obtain ⟨⟨b1,c1⟩,⟨b2,c2⟩,⟨b3,c3⟩,⟨b4,c4⟩,rfl,h1,h2,h3,h4,h5⟩:=Qi_ h0;have hok:=Rl.ok IW (by omega);have hpl:=Rl.pl;have hcl:=Rl.cl;have hts:=IW.ts;have hcs:=(IW.ok (by omega)).c;have hpl7:=IW.pl7 (by omega);have hK3:=IW.k3;have hlen:=IW.len;have hn4:=IW.n4;refine walk ?_;refine qc_ rfl rfl fun p3 _=>?_;refine walk ?_;refine zc_ 13 [row p3 65 (RWc (b1,c1) (b2,c2) (b3,c3) (b4,c4) x)] ?_;refine qa_ 0 ?_;refine qa_ 2 ?_;refine qa_ 3 ?_;refine qe_ 1 rfl rfl rfl (Qdu_ (H:=H) (p:=p) (w:=w)) fun r1 H1 B hl1 ⟨er,eB,eH⟩=>?_;subst er eB eH;refine ⟨subA,?_⟩;refine qa_ 4 ?_;refine qa_ 5 ?_;rw [decide_eq_false (p:=¬w.now=x.Now) (fun h=>h Rl.now.symm)];refine qa_ 6 ?_;refine qa_ 8 ?_;refine qa_ 9 ?_;refine qa_ 10 ?_;refine qe_ 7 rfl rfl rfl (qaQ_ (H:=H1) (p:=p) (w:=w)) fun r7 H7 B hl7 ⟨er,eB,eH⟩=>?_;subst er eB eH;refine ⟨subA,?_⟩;refine qa_ 11 ?_;rw [decide_eq_false (p:=¬(w.net.length:Int)=(x.Net.length:Int)) (fun h=>h (by rw [Rl.net]))];refine qa_ 12 ?_;refine qb_ rfl ?_;refine walk ?_
 refine Qc_ (σ:=Nat×Heap) (fun u=>u.1≤x.Parts.length∧H7.le u.2) (fun u=>[(0,ptrC p),(3,.pointer (some ⟨p3,0,none⟩)),(5,I u.1)]) (fun u=>u.2)
  (fun u=>qd_ u.2 p w::row p3 65 (RWc (b1,c1) (b2,c2) (b3,c3) (b4,c4) x)::R) (fun u=>x.Parts.length - u.1) (0,H7) ⟨Nat.zero_le _,.refl _⟩ fun ⟨i,HK⟩ ⟨hi0,hlK⟩ K1 hL=>?_
 simp only at hi0 hlK;dsimp only;by_cases hi1:i<x.Parts.length
 ·have hi2:(i:Int)<(x.Parts.length:Int):=by omega
  have hiw:i<w.ns.length:=by omega
  have hic:i<x.Coords.length:=by omega
  obtain ⟨tv,to,th,tp⟩:=Rl.telV IW hiw hic hi1;have hcok:=hok.c _ (List.getElem_mem hic);have hpok:=hok.p _ (List.getElem_mem hi1);obtain ⟨q,hq⟩:∃q,x.Coords[i]=q:=⟨_,rfl⟩;obtain ⟨pq,hpq⟩:∃pq,x.Parts[i]=pq:=⟨_,rfl⟩;rw [hq] at tv to hcok;rw [hpq] at th tp hpok;refine walk ?_;refine Za_ rfl rfl (zaQ_ (H:=HK) (p:=p) (n:=_) (w:=w) (a:=i) hcs (by omega)) fun r5 H5 B hl5 eB=>?_;subst eB;rw [tv];refine Zc_ r5 fun H6 hl6 hsv=>?_;obtain ⟨bv,cv,rfl,hcv,hdv⟩:=hsv.1.shape;refine Zw_ (L':=qd_ H6 p w::row p3 65 (RWc (b1,c1) (b2,c2) (b3,c3) (b4,c4) x)::R) ?_ ?_
  ·refine Sub.trans (B:=qd_ H5 p w::row p3 65 (RWc (b1,c1) (b2,c2) (b3,c3) (b4,c4) x)::R) subA ?_;exact zK_ hl6
  have hl36:H7.le H6:=hlK.trans (hl5.trans hl6);refine walk ?_;refine Zd_ rfl rfl (h2.mono hl36).1 hic fun ba oa ca hra hca=>?_;rw [hq] at hca;obtain ⟨s1,rfl,e1,e2,e3,e4⟩:=hca;obtain ⟨bt,ct,rfl,hct,hdt⟩:=e4.1.shape;change HRow H6 ba oa [I q.Node,I q.Life,I q.Count,.slice bt q.Txns.length ct] at hra;refine walk ?_;obtain ⟨l,hl0⟩:∃l,q.Txns=l:=⟨_,rfl⟩;rw [hl0] at hsv hcv hct tv;have hs2:=e4.1;rw [hl0] at hs2;rw [hl0];have hfl:∀k,((l.take k).filter fun t=> !t.Open).length≤k:=fun k=>Nat.le_trans (List.length_filter_le _ _) (by rw [List.length_take];exact Nat.min_le_left _ _);have hln:l.length≤300:=by rw [←hl0];exact hcok.2.2.1
  refine Qc_ (σ:=Nat) (fun k=>k≤l.length) (fun k=>[(0,ptrC p),(3,.pointer (some ⟨p3,0,none⟩)),(5,I i),(6,.slice bv ((l.filter fun t=> !t.Open).map (·.X)).length cv),(7,I ((l.take k).filter fun t=> !t.Open).length),(38,.slice bt l.length ct),(39,I l.length),(40,I k)]) (fun _=>H6) (fun _=>qd_ H6 p w::row p3 65 (RWc (b1,c1) (b2,c2) (b3,c3) (b4,c4) x)::R) (fun k=>l.length - k) 0 (Nat.zero_le _) fun k hk0 K2 hL2=>?_;have hfk:=hfl k;by_cases hk1:k<l.length
  ·have hk2:(k:Int)<(l.length:Int):=by omega
   have ht:=List.take_succ_eq_append_getElem hk1;refine walk ?_;refine Zd_ rfl rfl hs2 hk1 fun b o cc hr hc=>?_;obtain ⟨y,hle⟩:∃y,l[k]=y:=⟨_,rfl⟩;rw [hle] at hc;obtain ⟨⟨x1,x2,x3⟩,op,bg,ps,wk,hd⟩:=y;obtain ⟨u1,u2,u3,rfl,g1,g2,g3,g4,g5,g6,g7⟩:=hc;obtain ⟨m1,n1,rfl,_,_⟩:=g5.1.shape;obtain ⟨m2,n2,rfl,_,_⟩:=g6.1.shape;obtain ⟨m3,n3,rfl,_,_⟩:=g7.1.shape;dsimp only at g1 g2 g3;refine zf_ rfl rfl hr rfl ?_;refine zb_ rfl fun p9 _=>?_;refine walk ?_;refine zF_ rfl Iff.rfl (fun hq=>?_) (fun hq=>?_)
   rotate_left
   ·have hqt:op=true:=by simpa using hq
    have he:((l.take (k+1)).filter fun t=> !t.Open)=(l.take k).filter fun t=> !t.Open:=by
     rw [ht,hle,List.filter_append];simp [hqt]
    rw [←he];refine walk ?_;exact Zb_ hL2 (k+1) (by omega)
   have hqf:op=false:=by simpa using hq
   have he:((l.take (k+1)).filter fun t=> !t.Open)=((l.take k).filter fun t=> !t.Open)++[l[k]]:=by
    rw [ht,List.filter_append];simp [hle,hqf]
   obtain ⟨hg1,hg2⟩:=qeg_ (p:=fun t:RTx=> !t.Open) hk1 (by rw [hle,hqf];rfl);have hg3:((l.take k).filter fun t=> !t.Open).length<((l.filter fun t=> !t.Open).map (·.X)).length:=by rw [List.length_map];exact hg1
   have hg4:((l.filter fun t=> !t.Open).map (·.X))[((l.take k).filter fun t=> !t.Open).length]=⟨x1,x2,x3⟩:=by rw [List.getElem_map,hg2,hle]
   have hg5:¬(((l.filter fun t=> !t.Open).map (·.X)).length:Int)≤(((l.take k).filter fun t=> !t.Open).length:Int):=by omega
   generalize hnn:((l.take k).filter fun t=> !t.Open).length=nn at hfk he hg3 hg4 hg5⊢;clear hg1 hg2;refine walk ?_;refine Zd_ rfl rfl hsv.1 hg3 fun b2 o2 cc2 hr2 hc2=>?_;rw [hg4] at hc2;obtain ⟨rfl,_⟩:=hc2;change HRow H6 b2 o2 [I x1,I x2,I x3] at hr2;refine walk ?_;refine zf_ rfl rfl hr2 rfl ?_;refine walk ?_;refine ze_ rfl (fun h=>(h ⟨rfl,rfl,rfl⟩).elim) (fun _=>?_);refine walk ?_;rw [show (nn:Int)+1=((((l.take (k+1)).filter fun t=> !t.Open).length:Nat):Int) by rw [he,List.length_append,hnn];rfl];exact Zb_ hL2 (k+1) (by omega)
  ·obtain rfl:k=l.length:=by omega
   clear hL2;rw [List.take_length];have heq:(((l.filter fun t=> !t.Open).length:Nat):Int)=((((l.filter fun t=> !t.Open).map (·.X)).length:Nat):Int):=by rw [List.length_map]
   refine walk ?_;refine zc_ 45 [row p3 65 (RWc (b1,c1) (b2,c2) (b3,c3) (b4,c4) x)] ?_;refine qa_ 0 ?_;refine qa_ 1 ?_;refine qa_ 2 ?_;refine qa_ 3 ?_;refine qa_ 4 ?_;refine qa_ 5 ?_;refine qa_ 6 ?_;refine qa_ 8 ?_;refine qa_ 9 ?_;refine qa_ 10 ?_;refine zg_ 11 rfl rfl rfl (h1.mono hl36).1 hi1 fun ba oa ca hra hca=>?_;rw [hpq] at hca;obtain ⟨z1,z2,z3,rfl,w1,w2,w3,w4⟩:=hca;obtain ⟨m1,n1,rfl,_,_⟩:=w2.1.shape;refine qa_ 12 ?_;refine qa_ 13 ?_;refine qn_ 14 1 rfl rfl hra rfl rfl ?_;refine qe_ 7 rfl rfl rfl (Zbj_ (H:=H6) (p:=p) (w:=w) (a:=i) hts) fun r7 H8 B hl8 eB=>?_;subst eB;refine ⟨subA,?_⟩;rw [th];refine qf_ r7 fun H9 hl9 hsh=>?_;obtain ⟨bh,ch,rfl,_,_⟩:=hsh.1.shape;refine zbJ_ (L':=qd_ H9 p w::row p3 65 (RWc (b1,c1) (b2,c2) (b3,c3) (b4,c4) x)::R) ?_ ?_
   ·refine Sub.trans (B:=qd_ H8 p w::row p3 65 (RWc (b1,c1) (b2,c2) (b3,c3) (b4,c4) x)::R) subA ?_;exact zK_ hl9
   refine qo_ 15 rfl rfl rfl (qbq_ hsh.1 (w2.mono (hl8.trans hl9)).1) ?_;refine qa_ 16 ?_;refine qa_ 17 ?_;refine qa_ 18 ?_;refine qa_ 19 ?_;refine qa_ 20 ?_;refine qa_ 22 ?_;refine qa_ 23 ?_;refine qa_ 24 ?_;refine zg_ 25 rfl rfl rfl (h1.mono hl36).1 hi1 fun bb ob cb hrb hcb=>?_;rw [hpq] at hcb;obtain ⟨z4,z5,z6,rfl,w5,w6,w7,w8⟩:=hcb;obtain ⟨m2,n2,rfl,_,_⟩:=w7.1.shape;refine qa_ 26 ?_;refine qa_ 27 ?_;refine qn_ 28 2 rfl rfl hrb rfl rfl ?_;refine qe_ 21 rfl rfl rfl (Qbu_ (H:=H9) (p:=p) (w:=w) (a:=i) hts) fun r21 H10 B hl10 eB=>?_;subst eB;refine ⟨subA,?_⟩;rw [tp];refine qf_ r21 fun H11 hl11 hsp=>?_;obtain ⟨bp,cp,rfl,_,_⟩:=hsp.1.shape;refine zbJ_ (L':=qd_ H11 p w::row p3 65 (RWc (b1,c1) (b2,c2) (b3,c3) (b4,c4) x)::R) ?_ ?_
   ·refine Sub.trans (B:=qd_ H10 p w::row p3 65 (RWc (b1,c1) (b2,c2) (b3,c3) (b4,c4) x)::R) subA ?_;exact zK_ hl11
   refine qo_ 29 rfl rfl rfl (qae_ hsp.1 (w7.mono (hl8.trans (hl9.trans (hl10.trans hl11)))).1) ?_;refine qa_ 30 ?_;refine qa_ 31 ?_;refine qa_ 32 ?_;refine qa_ 33 ?_;refine qa_ 34 ?_;refine qa_ 36 ?_;refine qa_ 37 ?_;refine qa_ 38 ?_;refine zg_ 39 rfl rfl rfl (h2.mono hl36).1 hic fun bc oc cc hrc hcc=>?_;rw [hq] at hcc;have hcc0:=hcc;obtain ⟨z7,rfl,y1,y2,y3,y4⟩:=hcc;obtain ⟨m3,n3,rfl,_,_⟩:=y4.1.shape;refine Ql_ 40 rfl rfl rfl hrc rfl ?_;refine qe_ 35 rfl rfl rfl (QaM_ (H:=H11) (p:=p) (n:=_) (w:=w) (a:=i) hcs (by omega) hpl7) fun r35 H12 B hl12 eB=>?_;subst eB;refine ⟨subA,?_⟩;rw [to];refine qf_ r35 fun H13 hl13 hso=>?_;obtain ⟨bo,co,rfl,_,_⟩:=hso.1.shape;refine zbJ_ (L':=qd_ H13 p w::row p3 65 (RWc (b1,c1) (b2,c2) (b3,c3) (b4,c4) x)::R) ?_ ?_
   ·refine Sub.trans (B:=qd_ H12 p w::row p3 65 (RWc (b1,c1) (b2,c2) (b3,c3) (b4,c4) x)::R) subA ?_;exact zK_ hl13
   refine qe_ 41 rfl rfl rfl (zbl_ (H:=H13) (RdOk.mono (R:=Qu_) (hl8.trans (hl9.trans (hl10.trans (hl11.trans (hl12.trans hl13))))) hcc0) (by omega)) fun r41 H14 B hl14 ⟨eB,eH⟩=>?_;subst eB eH;refine ⟨subA,?_⟩;refine qf_ r41 fun H15 hl15 hsq=>?_;obtain ⟨bq,cq,rfl,_,_⟩:=hsq.1.shape;refine zbJ_ (L':=qd_ H15 p w::row p3 65 (RWc (b1,c1) (b2,c2) (b3,c3) (b4,c4) x)::R) ?_ ?_
   ·refine Sub.trans (B:=qd_ H14 p w::row p3 65 (RWc (b1,c1) (b2,c2) (b3,c3) (b4,c4) x)::R) subA ?_;exact zK_ hl15
   refine qo_ 42 rfl rfl rfl (qae_ (hso.mono hl15).1 hsq.1) ?_;refine qa_ 43 ?_;refine qa_ 44 ?_;refine qb_ rfl ?_;refine walk ?_;exact Zb_ hL (i+1,H15) ⟨by simp only;omega,hl36.trans (hl8.trans (hl9.trans (hl10.trans (hl11.trans (hl12.trans (hl13.trans hl15))))))⟩
 ·obtain rfl:i=x.Parts.length:=by omega
  clear hL;refine walk ?_;refine finB [qd_ HK p w] ?_;exact ⟨rfl,rfl⟩
theorem outW {w:PW} {a:Int} (h:¬(0≤a∧a<w.ns.length)):QaH_ w a=[]∧QbG_ w a=[]∧zbp_ w a=[]∧Zad_ w a=[]:=by
 have:=Zcy_.2 h;unfold QaH_ QbG_ zbp_ Zad_;rw [this];exact ⟨rfl,rfl,rfl,rfl⟩
theorem v123_ {P:Prop} (h:P:=by
 clear hL;refine walk ?_;exact qY_ hK9 (w,x,(b1,c1),(b2,c2),(b3,c3),(b4,c4),HK) hfin):P:=h
theorem v12_ {P:Prop} (h:P:=by
 refine zk_ 13 rfl rfl rfl rfl (by simp) rfl ⟨subA,?_⟩;refine qa_ 14 ?_;refine qb_ rfl ?_;obtain ⟨hee,Rl'⟩:=hPR _ _ _ hp;subst hee;have hlE:=hlK8.trans (hl7a.trans (hl7b.trans hl8a));refine Zw_ (L':=qd_ H10 p w'::row p11 65 (RWc (f1,g1) (f2,g2) (f3,g3) (f4,g4) y)::row p9 37 [I m.Kind,I m.A,.slice xa m.Works.length ya]::row p7 65 (RWc (b1,c1) (b2,c2) (b3,c3) (b4,c4) x)::R) ?_ ?_
 ·refine Sub.trans (B:=qd_ H8 p w'::row p11 65 (RWc (f1,g1) (f2,g2) (f3,g3) (f4,g4) y)::row p9 37 [I m.Kind,I m.A,.slice xa m.Works.length ya]::row p7 65 (RWc (b1,c1) (b2,c2) (b3,c3) (b4,c4) x)::R) subA ?_;exact zK_ (hl7a.trans (hl7b.trans hl8a))
 refine walk ?_;refine Za_ rfl rfl (ZbZ_ (H:=H10) (p:=p) (w:=w') (x:=y) (c:=RWc (f1,g1) (f2,g2) (f3,g3) (f4,g4) y) I1 (by omega) Rl' hy2) fun r20 H20 B hl20 ⟨er,eB⟩=>?_;subst er eB;refine walk ?_;exact Zb_ hL (j+1,w',y,(f1,g1),(f2,g2),(f3,g3),(f4,g4),H20) ⟨⟨⟨by simp only;omega,by simp only;omega⟩,⟨B',I1⟩,by simp only;omega,Rl',RdOk.mono (R:=rW17) hl20 hy2⟩,hlK.trans (hlE.trans hl20)⟩):P:=h
theorem v133_ {P:Prop} (h:P:=by
 refine Zbp_ 8 (Zt_ 8 rfl rfl hs8 (fun r8 H10 B hl8a ⟨cy,y,e2,er,hy,hPR,eB⟩=>?_));subst er eB;refine ⟨subA,?_⟩;have hy2:=hy;obtain ⟨⟨f1,g1⟩,⟨f2,g2⟩,⟨f3,g3⟩,⟨f4,g4⟩,rfl,_⟩:=Qi_ hy;refine qa_ 9 ?_;refine zd_ 10 rfl rfl rfl rfl ?_;refine zd_ 11 rfl rfl rfl rfl ?_;exact v12_):P:=h
theorem v67_ {P:Prop} (h:P:=by
 refine qo_ 26 rfl rfl rfl (qae_ h18 h25) ?_;refine qa_ 27 ?_;refine qa_ 28 ?_;refine qb_ rfl ?_;refine walk ?_;exact Zb_ hL2 (k+1,HC) ⟨by simp only;omega,hlJ.trans (hlA.trans hlC)⟩):P:=h
theorem qbm_ {W0:World} {H:Heap} {v:Value} {nodes:Int} {script:List Move} (hP:PkH H) (hfn:fits nodes) (h0:SlB qcd_ 3 40 H v script):
  Ct Tryz.prog 7 #[I nodes,v] W0 H [] (fun r H' B=>r= .bool true∧B=[]):=by
 refine Ct.go (vs:=[I nodes,v]) fun R=>?_;obtain ⟨b0,c0,rfl,hc0,hd0⟩:=h0.1.shape;refine walk ?_;refine Za_ (vs:=[]) rfl rfl (Qct_ (H:=H) hP) fun r1 H1 B hl1 ⟨er,eB⟩=>?_;subst er eB;refine walk ?_;refine Za_ rfl rfl (ZbY_ (H:=H1) (nodes:=nodes)) fun r2 H2 B hl2 hq=>?_;obtain ⟨hbad,er,eB⟩|⟨n,p,hn,hn4,er,eB⟩:=hq
 ·subst er eB;by_cases h1:nodes<1
  ·skip
   refine walk ?_;exact v94_
  ·have h2:4<nodes:=by omega
   refine walk ?_;exact v94_
 subst hn er eB;have h1:¬(n:Int)<1:=by omega
 have h2:¬(4:Int)<(n:Int):=by omega
 refine walk ?_;refine Za_ rfl rfl (qca_ (H:=H2) (n:=n) (by omega)) fun r3 H3 B hl3 ⟨cx,er,hx0,eB⟩=>?_;subst er eB;have hx0':=hx0;obtain ⟨⟨q1,q2⟩,⟨q3,q4⟩,⟨q5,q6⟩,⟨q7,q8⟩,rfl,_⟩:=Qi_ hx0;refine walk ?_;refine zb_ rfl fun p7 _=>?_;refine walk ?_
 refine Zea_ (σ:=PW×RW×(Option Addr×Nat)×(Option Addr×Nat)×(Option Addr×Nat)×(Option Addr×Nat)×Heap) (fun u=>((∃K B,K≤150∧WInv n K B u.1)∧u.1.log.length≤150∧WRel u.1 u.2.1∧rW17 u.2.2.2.2.2.2 (RWc u.2.2.1 u.2.2.2.1 u.2.2.2.2.1 u.2.2.2.2.2.1 u.2.1) u.2.1)∧H3.le u.2.2.2.2.2.2) (fun u=>[(0,I n),(5,ptrC p),(7,.pointer (some ⟨p7,0,none⟩))]) (fun u=>u.2.2.2.2.2.2)
  (fun u=>qd_ u.2.2.2.2.2.2 p u.1::row p7 65 (RWc u.2.2.1 u.2.2.2.1 u.2.2.2.2.1 u.2.2.2.2.2.1 u.2.1)::R) (fun K9 hK9=>?_) fun ⟨w,x,⟨b1,c1⟩,⟨b2,c2⟩,⟨b3,c3⟩,⟨b4,c4⟩,HB⟩ ⟨⟨⟨KB,B0,hKB,IW⟩,hlg,Rl,hx⟩,hlB⟩=>?_
 rotate_left
 ·simp only at IW hlg Rl hx hlB;dsimp only;have hxl:(w.log.length:Int)=(x.Log.length:Int):=by rw [Rl.log,List.length_map]
  have hts:=IW.ts;have hcs:=(IW.ok (by omega)).c;have hpl7:=IW.pl7 (by omega);have hK3:=IW.k3;have hlen:=IW.len;obtain ⟨_,_,_,_,hee,z1,z2,z3,z4,z5⟩:=hx;simp only [List.cons.injEq,and_true,true_and] at hee;obtain ⟨rfl,rfl,rfl,rfl⟩:=hee;refine walk ?_;refine Za_ rfl rfl (qbZ_ (H:=HB) (p:=p) (w:=w) (by unfold Qb_;omega)) fun r30 H30 B hl30 eB=>?_;subst eB;refine Zc_ r30 fun H31 hl31 hs31=>?_;obtain ⟨bl,cl,rfl,_,_⟩:=hs31.1.shape;refine Zw_ (L':=qd_ H31 p w::row p7 65 (RWc (b1,c1) (b2,c2) (b3,c3) (b4,c4) x)::R) ?_ ?_
  ·refine Sub.trans (B:=qd_ H30 p w::row p7 65 (RWc (b1,c1) (b2,c2) (b3,c3) (b4,c4) x)::R) subA ?_;exact zK_ hl31
  refine walk ?_;obtain ⟨o1,_,_,_⟩:=outW (w:=w) (a:=(n:Int)) (by omega);obtain ⟨_,o2,_,_⟩:=outW (w:=w) (a:= -1) (by omega);obtain ⟨_,_,o3,_⟩:=outW (w:=w) (a:=9) (by omega);obtain ⟨_,_,_,o4⟩:=outW (w:=w) (a:= -4611686018427387904) (by omega);refine Za_ rfl rfl (Zbj_ (H:=H31) (p:=p) (w:=w) (a:=n) hts) fun r5 H5 B hl5 eB=>?_;subst eB;refine Qp_ r5 fun d5 e5 e _ _ _=>?_;rw [o1,List.length_nil] at e;subst e;refine walk ?_;refine Za_ rfl rfl (Qbu_ (H:=H5) (p:=p) (w:=w) (a:= -1) hts) fun r6 H6 B hl6 eB=>?_;subst eB;refine Qp_ r6 fun d6 e6 e _ _ _=>?_;rw [o2,List.length_nil] at e;subst e;refine walk ?_;refine Za_ rfl rfl (QaM_ (H:=H6) (p:=p) (n:=_) (w:=w) (a:=9) hcs (by omega) hpl7) fun r7 H7 B hl7 eB=>?_;subst eB;refine Qp_ r7 fun d7 e7 e _ _ _=>?_;rw [o3,List.length_nil] at e;subst e;refine walk ?_;refine Za_ rfl rfl (zaQ_ (H:=H7) (p:=p) (n:=_) (w:=w) (a:= -4611686018427387904) hcs (by omega)) fun r8 H8 B hl8 eB=>?_;subst eB;refine Qp_ r8 fun d8 e8 e _ _ _=>?_;rw [o4,List.length_nil] at e;subst e;refine walk ?_;have hl18:H31.le H8:=hl5.trans (hl6.trans (hl7.trans hl8));have hs8:=hs31.mono hl18;have hz8:=z5.mono (hl30.trans (hl31.trans hl18));obtain ⟨l,hll⟩:∃l,w.log=l:=⟨_,rfl⟩;have hln:l.length≤150:=by rw [←hll];exact hlg
  rw [hll] at hs8 hxl⊢;have hxlog:x.Log=l.map toN:=by rw [Rl.log,hll]
  refine Qc_ (σ:=Nat×Heap) (fun u=>u.1≤l.length∧H8.le u.2) (fun u=>[(7,.pointer (some ⟨p7,0,none⟩)),(13,.slice bl l.length cl),(116,I l.length),(117,I u.1)]) (fun u=>u.2) (fun _=>row p7 65 (RWc (b1,c1) (b2,c2) (b3,c3) (b4,c4) x)::R) (fun u=>l.length - u.1) (0,H8) ⟨Nat.zero_le _,.refl _⟩ fun ⟨k,HJ⟩ ⟨hk0,hlJ⟩ K2 hL2=>?_;simp only at hk0 hlJ;dsimp only;by_cases hk1:k<l.length
  ·have hk2:(k:Int)<(l.length:Int):=by omega
   have hkx:k<x.Log.length:=by omega
   obtain ⟨g,hg⟩:∃g,l[k]=g:=⟨_,rfl⟩;have hgx:x.Log[k]=⟨g.Node,g.Rec⟩:=by simp only [hxlog,List.getElem_map,hg];rfl
   have hs9:=hs8.mono hlJ;have hz9:=hz8.mono hlJ;refine walk ?_;refine zc_ 29 [row p7 65 (RWc (b1,c1) (b2,c2) (b3,c3) (b4,c4) x)] ?_;refine qa_ 0 ?_;refine qa_ 1 ?_;refine zg_ 2 rfl rfl rfl hs9.1 hk1 fun ba oa ca hra hca=>?_;rw [hg] at hca;obtain ⟨s1,s2,s3,rfl,_⟩:=hca;refine qa_ 3 ?_;refine qn_ 4 0 rfl rfl hra rfl rfl ?_;refine qa_ 5 ?_;refine qa_ 6 ?_;refine qa_ 7 ?_;refine zg_ 8 rfl rfl rfl hz9.1 hkx fun bb ob cb hrb hcb=>?_;rw [hgx] at hcb;obtain ⟨t1,t2,t3,rfl,_⟩:=hcb;refine qa_ 9 ?_;refine qn_ 10 0 rfl rfl hrb rfl rfl ?_;refine qa_ 11 ?_;rw [decide_eq_false (p:=¬g.Node=g.Node) (fun h=>h rfl)];refine qa_ 12 ?_;refine qa_ 13 ?_;refine qa_ 14 ?_;refine qa_ 19 ?_;refine qa_ 20 ?_;refine qa_ 21 ?_;refine zg_ 15 rfl rfl rfl hs9.1 hk1 fun bc oc cc hrc hcc=>?_;rw [hg] at hcc;obtain ⟨u1,u2,u3,rfl,v0,v1,v2,v3,v4,v5,v6,v7,v8⟩:=hcc;obtain ⟨w1,w2,rfl,_,_⟩:=v6.1.shape;obtain ⟨w3,w4,rfl,_,_⟩:=v7.1.shape;obtain ⟨w5,w6,rfl,_,_⟩:=v8.1.shape;have hr1:HRow HJ bc (oc+1) (g.Rec.cv (.slice w1 g.Rec.Work.Take.length w2) (.slice w3 g.Rec.Work.Drop.length w4) (.slice w5 g.Rec.Parts.length w6)):=zcI_ (k:=1) hrc fun i v hi=>by rw [Nat.add_comm 1 i];exact hi
   refine qa_ 16 ?_;refine Ql_ 17 rfl rfl rfl hr1 rfl ?_;refine zg_ 22 rfl rfl rfl hz9.1 hkx fun bd od cd hrd hcd=>?_;rw [hgx] at hcd;obtain ⟨a1,a2,a3,rfl,i0,i1,i2,i3,i4,i5,i6,i7,i8⟩:=hcd;obtain ⟨j1,j2,rfl,_,_⟩:=i6.1.shape;obtain ⟨j3,j4,rfl,_,_⟩:=i7.1.shape;obtain ⟨j5,j6,rfl,_,_⟩:=i8.1.shape;have hr2:HRow HJ bd (od+1) (g.Rec.cv (.slice j1 g.Rec.Work.Take.length j2) (.slice j3 g.Rec.Work.Drop.length j4) (.slice j5 g.Rec.Parts.length j6)):=zcI_ (k:=1) hrd fun i v hi=>by rw [Nat.add_comm 1 i];exact hi
   refine qa_ 23 ?_;refine Ql_ 24 rfl rfl rfl hr2 rfl ?_;refine ZE_ 18 25 (qbI_ 18 rfl rfl rfl rfl (fun b18=>⟨subA,?_⟩) (.refl _)) (qbI_ 25 rfl rfl rfl rfl (fun b25=>⟨subA,?_⟩) (.refl _))
   ·refine Zbp_ 25 (qbI_ 25 rfl rfl rfl rfl (fun b25=>⟨subA,?_⟩) (.refl _));refine QaT_ .here fun HA hlA hrA=>?_;refine QaT_ .here fun HC hlC hrC=>?_;have h25:SlR rRec 9 HC (.slice (some ⟨b25,0,none⟩) 1 1) [g.Rec]:=Qn_ (R:=rRec) (xs:=[g.Rec]) (hrA.mono hlC) ⟨_,[],rfl,⟨_,_,_,rfl,i1,i2,i3,i4,i5,i6.mono (hlA.trans hlC),i7.mono (hlA.trans hlC),i8.mono (hlA.trans hlC)⟩,rfl⟩ (by simp) (by omega);have h18:SlR rRec 9 HC (.slice (some ⟨b18,0,none⟩) 1 1) [g.Rec]:=Qn_ (R:=rRec) (xs:=[g.Rec]) hrC ⟨_,[],rfl,⟨_,_,_,rfl,v1,v2,v3,v4,v5,v6.mono (hlA.trans hlC),v7.mono (hlA.trans hlC),v8.mono (hlA.trans hlC)⟩,rfl⟩ (by simp) (by omega);exact v67_
   ·refine Zbp_ 18 (qbI_ 18 rfl rfl rfl rfl (fun b18=>⟨subA,?_⟩) (.refl _));refine QaT_ .here fun HA hlA hrA=>?_;refine QaT_ .here fun HC hlC hrC=>?_;have h18:SlR rRec 9 HC (.slice (some ⟨b18,0,none⟩) 1 1) [g.Rec]:=Qn_ (R:=rRec) (xs:=[g.Rec]) (hrA.mono hlC) ⟨_,[],rfl,⟨_,_,_,rfl,v1,v2,v3,v4,v5,v6.mono (hlA.trans hlC),v7.mono (hlA.trans hlC),v8.mono (hlA.trans hlC)⟩,rfl⟩ (by simp) (by omega);have h25:SlR rRec 9 HC (.slice (some ⟨b25,0,none⟩) 1 1) [g.Rec]:=Qn_ (R:=rRec) (xs:=[g.Rec]) hrC ⟨_,[],rfl,⟨_,_,_,rfl,i1,i2,i3,i4,i5,i6.mono (hlA.trans hlC),i7.mono (hlA.trans hlC),i8.mono (hlA.trans hlC)⟩,rfl⟩ (by simp) (by omega);exact v67_
  ·obtain rfl:k=l.length:=by omega
   clear hL2;refine walk ?_;exact v94_
 refine Qc_ (σ:=Nat×PW×RW×(Option Addr×Nat)×(Option Addr×Nat)×(Option Addr×Nat)×(Option Addr×Nat)×Heap) (fun u=>((u.1≤script.length∧u.1≤150)∧(∃B,WInv n u.1 B u.2.1)∧u.2.1.log.length≤u.1∧WRel u.2.1 u.2.2.1∧rW17 u.2.2.2.2.2.2.2 (RWc u.2.2.2.1 u.2.2.2.2.1 u.2.2.2.2.2.1 u.2.2.2.2.2.2.1 u.2.2.1) u.2.2.1)∧H3.le u.2.2.2.2.2.2.2)
  (fun u=>[(0,I n),(1,.slice b0 script.length c0),(5,ptrC p),(7,.pointer (some ⟨p7,0,none⟩)),(8,I u.1)]) (fun u=>u.2.2.2.2.2.2.2)
  (fun u=>qd_ u.2.2.2.2.2.2.2 p u.2.1::row p7 65 (RWc u.2.2.2.1 u.2.2.2.2.1 u.2.2.2.2.2.1 u.2.2.2.2.2.2.1 u.2.2.1)::R) (fun u=>script.length - u.1) (0,newW n,zbI_ n,(q1,q2),(q3,q4),(q5,q6),(q7,q8),H3) ⟨⟨⟨Nat.zero_le _,by omega⟩,⟨[],qeh_ (by omega)⟩,Nat.le_refl _,Qew_,hx0'⟩,.refl _⟩ (hs0:=?_) fun ⟨j,w,x,⟨b1,c1⟩,⟨b2,c2⟩,⟨b3,c3⟩,⟨b4,c4⟩,HK⟩ ⟨⟨⟨hj0,hj150⟩,⟨B0,I0⟩,hlg,Rl,hx⟩,hlK⟩ K hL=>?_
 rotate_left
 ·refine Sub.trans (B:=qd_ H2 p (newW n)::row p7 65 (RWc (q1,q2) (q3,q4) (q5,q6) (q7,q8) (zbI_ n))::R) subA ?_;exact zK_ hl3
 simp only at hj0 hj150 I0 hlg Rl hx hlK;dsimp only;have hlHK:H.le HK:=hl1.trans (hl2.trans (hl3.trans hlK));have hfin:((∃K B,K≤150∧WInv n K B w)∧w.log.length≤150∧WRel w x∧rW17 HK (RWc (b1,c1) (b2,c2) (b3,c3) (b4,c4) x) x)∧H3.le HK:=⟨⟨⟨_,_,hj150,I0⟩,by omega,Rl,hx⟩,hlK⟩;by_cases hj1:j<script.length
 ·by_cases hj2:j<150
  ·have hj3:(j:Int)<(script.length:Int):=by omega
   have hj4:(j:Int)<150:=by omega
   have hsl:=h0.1.mono hlHK;obtain ⟨m,hm⟩:∃m,script[j]=m:=⟨_,rfl⟩;refine walk ?_;refine Zd_ rfl rfl hsl hj1 fun ba oa ca hra hca=>?_;rw [hm] at hca;obtain ⟨sa,rfl,ka,kb,ga⟩:=hca;obtain ⟨xa,ya,rfl,_,_⟩:=ga.1.shape;change HRow HK ba oa [I m.Kind,I m.A,.slice xa m.Works.length ya] at hra;refine walk ?_;refine zf_ rfl rfl hra rfl ?_;refine walk ?_;refine zb_ rfl fun p9 _=>?_;refine walk ?_;refine zc_ 10 [row p9 37 [I m.Kind,I m.A,.slice xa m.Works.length ya]] ?_;refine qa_ 0 ?_;refine qa_ 1 ?_;refine qa_ 2 ?_;refine qa_ 3 ?_;refine qa_ 4 ?_;refine qa_ 5 ?_;refine qa_ 6 ?_;refine qe_ 7 rfl rfl rfl (QbZ_ (H:=HK) ga) fun r16 H6 B hl6 eB=>?_;subst eB;refine ⟨subA,?_⟩;refine qf_ r16 fun H7 hl7 hs=>?_;obtain ⟨xd,yd,rfl,_,_⟩:=hs.1.shape;refine zbJ_ (L':=qd_ H7 p w::row p9 37 [I m.Kind,I m.A,.slice xa m.Works.length ya]::row p7 65 (RWc (b1,c1) (b2,c2) (b3,c3) (b4,c4) x)::R) ?_ ?_
   ·refine Sub.trans (B:=qd_ HK p w::row p9 37 [I m.Kind,I m.A,.slice xa m.Works.length ya]::row p7 65 (RWc (b1,c1) (b2,c2) (b3,c3) (b4,c4) x)::R) subA ?_;exact zK_ (hl6.trans hl7)
   refine qa_ 8 ?_;refine qe_ 9 rfl rfl rfl (zbw_ (H:=H7) (p:=p) (m:=⟨m.Kind,m.A,ownP m.Works⟩) (hP.mono (hlHK.trans (hl6.trans hl7))) I0 (by omega) hs ka kb) fun r18 H8 B hl8 ⟨w',e,hp,er,eB⟩=>?_;subst er eB;refine ⟨subA,?_⟩;refine qb_ rfl ?_;obtain ⟨B',I1,_⟩:=I0.play (by omega) (Qeg_ ga.1) hp;have hlg':=hp.log;have hlK8:HK.le H8:=hl6.trans (hl7.trans hl8);refine walk ?_;refine zc_ 15 [row p9 37 [I m.Kind,I m.A,.slice xa m.Works.length ya],row p7 65 (RWc (b1,c1) (b2,c2) (b3,c3) (b4,c4) x)] ?_;refine qa_ 0 ?_;refine qa_ 1 ?_;refine qa_ 2 ?_;refine qa_ 3 ?_;refine qa_ 4 ?_;refine qa_ 5 ?_;refine qa_ 6 ?_;have hs7:=QbZ_ (W0:=W0) (H:=H8) (ga.mono hlK8);refine ZE_ 7 12 (Zt_ 7 rfl rfl hs7 (fun r7 H9a B hl7a eB=>?_)) (at_w 12 rfl (zu_ fun p11 _=>⟨(by first|exact .refl _|exact hl7a|exact hl7a.trans hl7b|exact hl7a.trans (hl7b.trans hl8a)),subA,?_⟩))
   ·skip
    subst eB;refine ⟨subA,?_⟩;refine qf_ r7 fun H9 hl7b hsw=>?_;obtain ⟨xe,ye,rfl,_,_⟩:=hsw.1.shape;have hs8:=ZaN_ (W0:=W0) (H:=H9) (k:=m.Kind) I0 (by omega) Rl (RdOk.mono (R:=rW17) (hlK8.trans (hl7a.trans hl7b)) hx) kb hsw;refine ZE_ 8 12 (Zt_ 8 rfl rfl hs8 (fun r8 H10 B hl8a ⟨cy,y,e2,er,hy,hPR,eB⟩=>?_)) (at_w 12 rfl (zu_ fun p11 _=>⟨(by first|exact .refl _|exact hl7a|exact hl7a.trans hl7b|exact hl7a.trans (hl7b.trans hl8a)),subA,?_⟩))
    ·skip
     subst er eB;refine ⟨subA,?_⟩;have hy2:=hy;obtain ⟨⟨f1,g1⟩,⟨f2,g2⟩,⟨f3,g3⟩,⟨f4,g4⟩,rfl,_⟩:=Qi_ hy;refine qa_ 9 ?_;refine zd_ 10 rfl rfl rfl rfl ?_;refine zd_ 11 rfl rfl rfl rfl ?_;refine Zbp_ 12 (at_w 12 rfl (zu_ fun p11 _=>⟨(by first|exact .refl _|exact hl7a|exact hl7a.trans hl7b|exact hl7a.trans (hl7b.trans hl8a)),subA,?_⟩));exact v12_
    ·skip
     exact v133_
   ·skip
    refine Zbp_ 7 (Zt_ 7 rfl rfl hs7 (fun r7 H9a B hl7a eB=>?_));subst eB;refine ⟨subA,?_⟩;refine qf_ r7 fun H9 hl7b hsw=>?_;obtain ⟨xe,ye,rfl,_,_⟩:=hsw.1.shape;have hs8:=ZaN_ (W0:=W0) (H:=H9) (k:=m.Kind) I0 (by omega) Rl (RdOk.mono (R:=rW17) (hlK8.trans (hl7a.trans hl7b)) hx) kb hsw;exact v133_
  ·obtain rfl:j=150:=by omega
   have hj3:(150:Int)<(script.length:Int):=by omega
   exact v123_
 ·obtain rfl:j=script.length:=by omega
  exact v123_
end Go.Proofs.YtlflbkpmfhhikaaGreatDoor
