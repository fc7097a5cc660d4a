/- The document's world, walked: a move. -/
import Derived.Test.YtlflbkpmfhhikaaGreatDoorJTX
import Derived.Test.YtlflbkpmfhhikaaGreatDoorJZH
set_option linter.unusedVariables false
set_option linter.unusedSimpArgs false
namespace Go.Proofs.YtlflbkpmfhhikaaGreatDoor
open Go Go.Sx Go.Proofs
def ZaR_ (w:PW) (k a:Int) (works:List Work) (y:RW) (e:Int):Prop:=∀m w' e',PPlay m w k a works w' e'→e'=e∧WRel w' y
theorem Zbl_ {w:PW} {x:RW} {k a:Int} {works:List Work} (R:WRel w x) (h:¬okMv w k a works.length):ZaR_ w k a works x 1:=fun m w' e' g=>by
 cases g with
 | bad=>exact ⟨rfl,R⟩
 | begin hk i ha hi hn=>exact absurd (.inl ⟨hk,by unfold zn_;omega,hn⟩) h
 | none hk=>exact absurd (by unfold okMv;omega) h
 | deliver hk=>exact absurd (by unfold okMv;omega) h
 | fail hk=>exact absurd (by unfold okMv;omega) h
 | drop hk=>exact absurd (by unfold okMv;omega) h
 | copy hk=>exact absurd (by unfold okMv;omega) h
 | full hk=>exact absurd (by unfold okMv;omega) h
 | step hk i ha hi=>exact absurd (.inr (.inl ⟨.inl hk,by unfold zn_;omega⟩)) h
 | tick hk h0 h1=>exact absurd (.inr (.inr (.inl ⟨hk,h0,h1⟩))) h
 | crash hk i ha hi=>exact absurd (.inr (.inl ⟨.inr hk,by unfold zn_;omega⟩)) h
theorem ZcV_ {w:PW} {x:RW} {k a:Int} {works:List Work} (R:WRel w x) (hk:k=2∨k=3∨k=4∨k=8) (h:¬inN w.net a):ZaR_ w k a works x 4:=fun m w' e' g=>by
 have hin:∀j:Nat,a=j→j<w.net.length→False:=fun j e hj=>h (by unfold inN;omega)
 cases g with
 | bad h=>exact absurd (by unfold okMv;omega) h
 | none=>exact ⟨rfl,R⟩
 | begin h=>omega
 | deliver _ j ha hj=>exact (hin j ha hj).elim
 | fail _ j ha hj=>exact (hin j ha hj).elim
 | drop _ j ha hj=>exact (hin j ha hj).elim
 | copy _ j ha hj=>exact (hin j ha hj).elim
 | full _ j ha hj=>exact (hin j ha hj).elim
 | step h=>omega
 | tick h=>omega
 | crash h=>omega
theorem qcW_ {w:PW} {x:RW} {j:Nat} {works:List Work} (R:WRel w x) (hj:j<w.net.length):ZaR_ w 3 j works {x with Net:=delM w.net j} 0:=fun m w' e' g=>by
 cases g with
 | bad h=>exact absurd (by unfold okMv;omega) h
 | none _ h=>exact absurd (by unfold inN;omega) h
 | drop _ i ha hi=>
  obtain rfl:j=i:=by omega
  exact ⟨rfl,R.withNet _⟩
 | begin h=>omega
 | deliver h=>omega
 | fail h=>omega
 | copy h=>omega
 | full h=>omega
 | step h=>omega
 | tick h=>omega
 | crash h=>omega
theorem zcW_ {w:PW} {x:RW} {j:Nat} {works:List Work} (R:WRel w x) (hj:j<w.net.length) (hf:w.net.length<64):ZaR_ w 4 j works {x with Net:=w.net++[w.net[j]]} 0:=fun m w' e' g=>by
 cases g with
 | bad h=>exact absurd (by unfold okMv;omega) h
 | none _ h=>exact absurd (by unfold inN;omega) h
 | copy _ i ha hi=>
  obtain rfl:j=i:=by omega
  exact ⟨rfl,R.withNet _⟩
 | full _ _ _ _ h=>exact absurd hf h
 | drop h=>omega
 | begin h=>omega
 | deliver h=>omega
 | fail h=>omega
 | step h=>omega
 | tick h=>omega
 | crash h=>omega
theorem QcW_ {w:PW} {x:RW} {j:Nat} {works:List Work} (R:WRel w x) (hj:j<w.net.length) (hf:¬w.net.length<64):ZaR_ w 4 j works x 5:=fun m w' e' g=>by
 cases g with
 | bad h=>exact absurd (by unfold okMv;omega) h
 | none _ h=>exact absurd (by unfold inN;omega) h
 | copy _ _ _ _ h=>exact absurd h hf
 | full=>exact ⟨rfl,R⟩
 | drop h=>omega
 | begin h=>omega
 | deliver h=>omega
 | fail h=>omega
 | step h=>omega
 | tick h=>omega
 | crash h=>omega
theorem ZcW_ {w:PW} {x:RW} {a:Int} {works:List Work} (R:WRel w x) (h0:0≤a) (h1:a≤1073741824 - w.now):ZaR_ w 6 a works {x with Now:=x.Now+a} 0:=fun m w' e' g=>by
 cases g with
 | bad h=>exact absurd (.inr (.inr (.inl ⟨rfl,h0,h1⟩))) h
 | none h=>omega
 | copy h=>omega
 | full h=>omega
 | drop h=>omega
 | begin h=>omega
 | deliver h=>omega
 | fail h=>omega
 | step h=>omega
 | tick=>exact ⟨rfl,by rw [R.now];exact R.withNow _⟩
 | crash h=>omega
theorem qct_ {n K:Nat} {B:List BT} {w:PW} {x y:RW} {i:Nat} {works:List Work} (I:WInv n K B w) (hl:w.log.length≤900000000) (R:WRel w x) (hi:i<w.ns.length) (h:zcv_ x i y):ZaR_ w 7 i works y 0:=fun m w' e' g=>by
 cases g with
 | bad h=>exact absurd (.inr (.inl ⟨.inr rfl,by unfold zn_;omega⟩)) h
 | none h=>omega
 | copy h=>omega
 | full h=>omega
 | drop h=>omega
 | begin h=>omega
 | deliver h=>omega
 | fail h=>omega
 | step h=>omega
 | tick h=>omega
 | crash _ j ha hj _ hc=>
  obtain rfl:i=j:=by omega
  exact ⟨rfl,R.crash I hl h hc⟩
theorem ZbH_ {n K:Nat} {B:List BT} {w:PW} {x y:RW} {j:Nat} {works:List Work} {out:List Message} (I:WInv n K B w) (R:WRel w x) (hj:j<w.net.length) (h:QaW_ {x with Net:=delM w.net j} w.net[j] y out):ZaR_ w 2 j works {y with Net:=Zq_ y.Net out} 0:=fun m w' e' g=>by
 cases g with
 | bad h=>exact absurd (by unfold okMv;omega) h
 | none _ h=>exact absurd (by unfold inN;omega) h
 | deliver _ i ha hi w1 out' hh=>
  obtain rfl:j=i:=by omega
  have I1:WInv n K B {w with net:=delM w.net j}:=I.less (fun g hg=>zam_ hg) (Nat.le_trans Qam_ I.nl);obtain ⟨e1,R1⟩:=(R.withNet (delM w.net j)).hear I1 h hh;subst e1;refine ⟨rfl,?_⟩;rw [R1.net];exact R1.withNet _
 | drop h=>omega
 | begin h=>omega
 | fail h=>omega
 | copy h=>omega
 | full h=>omega
 | step h=>omega
 | tick h=>omega
 | crash h=>omega
theorem qcX_ {n K:Nat} {B:List BT} {w:PW} {x y z:RW} {j i:Nat} {works:List Work} {out:List Message} (I:WInv n K B w) (hl:w.log.length≤800000000) (R:WRel w x) (hj:j<w.net.length) (h:QaW_ {x with Net:=delM w.net j} w.net[j] y out) (hto:w.net[j].To=i) (hz:zcv_ y i z):ZaR_ w 8 j works z 0:=fun m w' e' g=>by
 cases g with
 | bad h=>exact absurd (by unfold okMv;omega) h
 | none _ h=>exact absurd (by unfold inN;omega) h
 | fail _ i' ha hi w1 _ out' hh i2 hi2 hc=>
  obtain rfl:j=i':=by omega
  obtain rfl:i=i2:=by omega
  have I1:WInv n K B {w with net:=delM w.net j}:=I.less (fun g hg=>zam_ hg) (Nat.le_trans Qam_ I.nl);obtain ⟨e1,R1⟩:=(R.withNet (delM w.net j)).hear I1 h hh;have I2:=I1.hear (nt:=w1.net) (I.J _ (List.getElem_mem hj)) hh (fun g hg=> .inl (by cases hh<;>exact hg)) (by cases hh<;>exact I1.nl);have I3:WInv n K B w1:=I2;have hll:=hh.len;exact ⟨rfl,R1.crash I3 (by simp only at hll;omega) hz hc⟩
 | deliver h=>omega
 | drop h=>omega
 | begin h=>omega
 | copy h=>omega
 | full h=>omega
 | step h=>omega
 | tick h=>omega
 | crash h=>omega
theorem zct_ {n K:Nat} {B:List BT} {w:PW} {x:RW} {i:Nat} {works:List Work} {t:Txn} {out:List Message} {e:Int} {c':Coord} (I:WInv n K B w) (hl:w.log.length≤900000000) (R:WRel w x) (hi:i<w.ns.length) (hic:i<x.Coords.length) (hn:works.length≤w.ns.length) (h:zef_ x.Coords[i] w.now works t out e c'):ZaR_ w 1 i works {x with Coords:=x.Coords.set i c',Net:=Zq_ w.net out} e:=fun m w' e' g=>by
 cases g with
 | bad h=>exact absurd (.inl ⟨rfl,by unfold zn_;omega,hn⟩) h
 | begin _ j ha hj hn ws hw=>
  obtain rfl:i=j:=by omega
  have p:=R.pi I hl hi hic;have hlen:=I.len;have hn4:=I.n4;have hnow:=I.now;have hk:=I.k3
  have hb:∃x' out' e1,BegA w.ns[i].cs w.now works x' out' e1 (Qg_ w.ns[i].cs w.now ws)∧out'=saidB w.ns[i].cs w.now ws∧e1=if ws=[] then 4 else 0:=by
   by_cases hws:ws=[]
   ·exact ⟨⟨0,0,0⟩,[],4,⟨ws,hw,.inl ⟨hws,rfl,rfl,rfl,by unfold Qg_;rw [if_pos hws]⟩⟩,by unfold saidB;rw [if_pos hws],by rw [if_pos hws]⟩
   ·exact ⟨newX w.ns[i].cs,_,0,⟨ws,hw,.inr ⟨hws,rfl,rfl,rfl,rfl⟩⟩,by unfold saidB;rw [if_neg hws],by rw [if_neg hws]⟩
  obtain ⟨x',out',e1,hb1,hb2,hb3⟩:=hb;obtain ⟨_,e2,e3,p'⟩:=p.begin (by omega) (by omega) (by unfold fits;omega) hb1 h;rw [←hb3,←hb2];refine ⟨e3,?_⟩;rw [e2];exact (R.setC hi p'.r).withNet _
 | none h=>omega
 | deliver h=>omega
 | fail h=>omega
 | drop h=>omega
 | copy h=>omega
 | full h=>omega
 | step h=>omega
 | tick h=>omega
 | crash h=>omega
theorem zcX_ {n K:Nat} {B:List BT} {w:PW} {x:RW} {i:Nat} {works:List Work} (I:WInv n K B w) (hl:w.log.length≤900000000) (R:WRel w x) (hi:i<w.ns.length) (hic:i<x.Coords.length) (hip:i<x.Parts.length):
  ZaR_ w 5 i works {x with Coords:=x.Coords.set i {x.Coords[i] with Txns:=Qar_ w.now x.Coords[i].Txns x.Coords[i].Txns},Net:=Zq_ (Zq_ w.net (x.Coords[i].Txns.flatMap (qy_ x.Coords[i].Node w.now))) (x.Parts[i].T.Prep.map (askR x.Parts[i]))} 0:=fun m w' e' g=>by
 cases g with
 | bad h=>exact absurd (.inr (.inl ⟨.inl rfl,by unfold zn_;omega⟩)) h
 | begin h=>omega
 | none h=>omega
 | deliver h=>omega
 | fail h=>omega
 | drop h=>omega
 | copy h=>omega
 | full h=>omega
 | step _ j ha hj=>
  obtain rfl:i=j:=by omega
  have p:=R.pi I hl hi hic;obtain ⟨e1,_,p'⟩:=p.step (now:=w.now);have e2:=(R.p i hi hip).asks (I.N.P i hi);refine ⟨rfl,?_⟩;have e3:askL w.ns[i].ps=x.Parts[i].T.Prep.map (askR x.Parts[i]):=e2;rw [e1,←e3];exact (R.setC hi p'.r).withNet _
 | tick h=>omega
 | crash h=>omega
theorem Zdz_ {n K:Nat} {B:List BT} {w:PW} (I:WInv n K B w) {m:Message} (h:JM B (absW w) m∧zae_ m):∃w' out,PHear w m w' out:=by
 obtain ⟨_,hn⟩:=I.msg h;unfold zn_ at hn;obtain ⟨i,hi⟩:∃i:Nat,m.To=i:=⟨m.To.toNat,by omega⟩;by_cases k:ZN_ m
 ·exact ⟨_,_,.part k i hi (by omega) []⟩
 ·exact ⟨_,_,.coord k i hi (by omega)⟩
end Go.Proofs.YtlflbkpmfhhikaaGreatDoor
set_option maxHeartbeats 16000000
set_option maxRecDepth 100000
namespace Go.Proofs.YtlflbkpmfhhikaaGreatDoor
open Go Go.Sx Go.Proofs
theorem v130_ {P:Prop} (h:P:=by
 refine zs_ 6 rfl rfl hs fun r6 H7 B hl7 hQ=>?_;rcases hQ with ⟨eB,⟨⟨z,hz,hz2⟩,_⟩ | ⟨_,hz,_⟩ | ⟨_,_,c',er,hc'⟩⟩
 ·exact absurd (hok z hz) hz2
 ·exact absurd hnd hz
 subst er eB;have hcc':=hc';obtain ⟨s9,rfl,w1,w2,w3,w4⟩:=hc';obtain ⟨u9,o9,rfl,_,_⟩:=w4.1.shape;refine ⟨subA,?_⟩;refine qa_ 7 ?_;refine zd_ 8 rfl rfl rfl rfl ?_;refine zd_ 9 rfl rfl rfl rfl ?_;exact v17_):P:=h
theorem v17_ {P:Prop} (h:P:=by
 refine zk_ 11 rfl rfl rfl rfl (by simp) rfl ⟨subA,?_⟩;refine qa_ 12 ?_;refine qb_ rfl ?_;refine walk ?_;refine Za_ rfl rfl (qW_ (W0:=W0) (H:=H7) (i:=i) (RdOk.mono (R:=rW17) (hl5.trans (hl6.trans hl7)) h00) hcc' hi) fun r2 H8 B hl8 ⟨c2',er,hc2',eB⟩=>?_;subst er eB;obtain ⟨⟨a1,a2⟩,⟨b1',b2'⟩,⟨d1,d2⟩,⟨e1,e2⟩,rfl,y1,y2,y3,y4,y5⟩:=Qi_ hc2';refine walk ?_;refine Za_ rfl rfl (Net.refClear_spec (W0:=W0) (H:=H8) (to:=(i:Int)) y3) fun r3 H9 B hl9 ⟨v9,er,hv9,eB⟩=>?_;subst er eB;obtain ⟨z1,z2,rfl,_,_⟩:=hv9.1.shape;refine walk ?_;refine fin0 ?_;exact ⟨_,{x with Coords:=x.Coords.set i ⟨(i:Int),q.Life+1,0,loadRs (openRL q.Txns)⟩,Net:=Net.clr i x.Net},rfl,⟨_,_,_,_,rfl,y1.mono hl9,y2.mono hl9,hv9,y4,y5.mono hl9⟩,⟨hi,by rw [hq,hnode]⟩,rfl⟩):P:=h
theorem zaz_ {W0:World} {H:Heap} {c:List Value} {x:RW} (h0:rW17 H c x) (hx:ROk x) (i:Nat) (hi:i<x.Coords.length) (hfi:fits (i:Int)):
  Ct Tryz.prog 55 #[.agg c.toArray,I i] W0 H [] (fun r H' B=>∃c' y,r= .agg c'.toArray∧rW17 H' c' y∧zcv_ x i y∧B=[]):=by
 refine Ct.go (vs:=[.agg c.toArray,I i]) fun R=>?_;have h00:=h0;obtain ⟨⟨b1,c1⟩,⟨b2,c2⟩,⟨b3,c3⟩,⟨b4,c4⟩,rfl,h1,h2,h3,h4,h5⟩:=Qi_ h0;have hqok:=hx.c x.Coords[i] (List.getElem_mem hi);obtain ⟨hnode,hok,hnd⟩:=hx.l i hi;obtain ⟨q,hq⟩:∃q,x.Coords[i]=q:=⟨_,rfl⟩;rw [hq] at hqok hnode hok hnd;rw [hnode] at hok;have hfl:fits (q.Life+1):=by unfold fits;omega
 have hfb: -9223372036854775808≤q.Life+1∧q.Life+1≤9223372036854775807:=by omega
 refine walk ?_;refine qc_ rfl rfl fun p2 _=>?_;refine zb_ rfl fun p4 _=>?_;refine walk ?_;refine Zd_ rfl rfl h2.1 hi fun ba oa ca hra hca=>?_;rw [hq] at hca;have hcc:=hca;obtain ⟨s1,rfl,e1,e2,e3,e4⟩:=hca;obtain ⟨x1,y1,rfl,_,_⟩:=e4.1.shape;refine zf_ rfl rfl hra rfl ?_;refine zb_ rfl fun p5 _=>?_;refine walk ?_;refine zc_ 13 [row p5 132 (q.cv (.slice x1 q.Txns.length y1))] ?_;refine qa_ 0 ?_;refine qa_ 1 ?_;refine qa_ 2 ?_;refine qa_ 3 ?_;refine qa_ 4 ?_;have hs5:=zbl_ (W0:=W0) (H:=H) hcc (by omega);refine zaP_ 5 10 rfl rfl rfl hs5 (fun r5 H5 B hl5 ⟨eB,eH⟩=>?g1) (fun p6 _=>?g2)
 case g1=>
  subst eB eH;refine ⟨subA,?_⟩;refine qf_ r5 fun H6 hl6 hso=>?_;obtain ⟨bo,co,rfl,_,_⟩:=hso.1.shape;have hs:=qbl_ (W0:=W0) (H:=H6) (node:=(i:Int)) (life:=q.Life+1) hfi hfl hso (Nat.le_trans zaN_ (by omega));refine zaP_ 6 10 rfl rfl rfl hs (fun r6 H7 B hl7 hQ=>?g3) (fun p6 _=>?g4)
  case g3=>
   rcases hQ with ⟨eB,⟨⟨z,hz,hz2⟩,_⟩ | ⟨_,hz,_⟩ | ⟨_,_,c',er,hc'⟩⟩
   ·exact absurd (hok z hz) hz2
   ·exact absurd hnd hz
   subst er eB;have hcc':=hc';obtain ⟨s9,rfl,w1,w2,w3,w4⟩:=hc';obtain ⟨u9,o9,rfl,_,_⟩:=w4.1.shape;refine ⟨subA,?_⟩;refine qa_ 7 ?_;refine zd_ 8 rfl rfl rfl rfl ?_;refine zd_ 9 rfl rfl rfl rfl ?_;refine Zs_ 10 rfl rfl fun p6 _=>?_;exact v17_
  case g4=>
   exact v130_
 case g2=>
  refine zs_ 5 rfl rfl hs5 fun r5 H5 B hl5 ⟨eB,eH⟩=>?_;subst eB eH;refine ⟨subA,?_⟩;refine qf_ r5 fun H6 hl6 hso=>?_;obtain ⟨bo,co,rfl,_,_⟩:=hso.1.shape;have hs:=qbl_ (W0:=W0) (H:=H6) (node:=(i:Int)) (life:=q.Life+1) hfi hfl hso (Nat.le_trans zaN_ (by omega));exact v130_
def zW_ (w:PW) (k a:Int) (works:List Work) (r:Value) (H':Heap) (B:List za_):Prop:=∃c' y e,r= .tuple #[.agg c'.toArray,I e]∧rW17 H' c' y∧ZaR_ w k a works y e∧B=[]
theorem Qcb_ {W0:World} {H:Heap} {c:List Value} {n K:Nat} {B0:List BT} {w:PW} {x:RW} {a:Int} {v:Value} {works:List Work} (IW:WInv n K B0 w) (hl:w.log.length≤800000000) (R:WRel w x) (h0:rW17 H c x) (ha:fits a) (hs:SlB zj_ 3 56 H v works):
  Ct Tryz.prog 23 #[.agg c.toArray,I 6,I a,v] W0 H [] (fun r H' B=>zW_ w 6 a works r H' B):=by
 have hnb:0≤x.Now∧x.Now≤1073741824:=by rw [R.now];exact IW.now
 have hok:=R.ok IW (by omega);have hab: -9223372036854775808≤a∧a≤9223372036854775807:=by unfold fits at ha;omega
 have hpl:=R.pl;have hcl:=R.cl;have hlen:=IW.len;have hn4:=IW.n4;refine Ct.go (vs:=[.agg c.toArray,I 6,I a,v]) fun Rr=>?_;have h00:=h0;obtain ⟨⟨b1,c1⟩,⟨b2,c2⟩,⟨b3,c3⟩,⟨b4,c4⟩,rfl,h1,h2,h3,h4,h5⟩:=Qi_ h0;obtain ⟨bv,cv,rfl,_,_⟩:=hs.1.shape;refine walk ?_;refine qc_ rfl rfl fun p4 _=>?_;refine zb_ rfl fun p8 _=>?_;refine QB_ ?_;by_cases hq:0≤a∧a≤1073741824 - x.Now
 ·rw [decide_eq_false (p:=a<0∨1073741824 - x.Now<a) (by omega)];refine walk ?_;refine fin0 ?_;exact ⟨_,{x with Now:=x.Now+a},0,rfl,⟨_,_,_,_,rfl,h1,h2,h3,by unfold fits;simp only;omega,h5⟩,ZcW_ R hq.1 (by rw [←R.now];exact hq.2),rfl⟩
 ·rw [decide_eq_true (p:=a<0∨1073741824 - x.Now<a) (by omega)];refine walk ?_;refine fin0 ?_;exact ⟨_,x,1,rfl,⟨_,_,_,_,rfl,h1,h2,h3,h4,h5⟩,Zbl_ R (by rw [R.now] at hq;unfold okMv;omega),rfl⟩
theorem v59_ {P:Prop} (h:P:=by
 refine walk ?_;refine fin0 ?_;exact ⟨_,x,1,rfl,⟨_,_,_,_,rfl,h1,h2,h3,h4,h5⟩,Zbl_ R (by rw [hpl] at hq;unfold okMv zn_;omega),rfl⟩):P:=h
theorem Zcb_ {W0:World} {H:Heap} {c:List Value} {n K:Nat} {B0:List BT} {w:PW} {x:RW} {a:Int} {v:Value} {works:List Work} (IW:WInv n K B0 w) (hl:w.log.length≤800000000) (R:WRel w x) (h0:rW17 H c x) (ha:fits a) (hs:SlB zj_ 3 56 H v works):
  Ct Tryz.prog 23 #[.agg c.toArray,I 7,I a,v] W0 H [] (fun r H' B=>zW_ w 7 a works r H' B):=by
 have hnb:0≤x.Now∧x.Now≤1073741824:=by rw [R.now];exact IW.now
 have hok:=R.ok IW (by omega);have hab: -9223372036854775808≤a∧a≤9223372036854775807:=by unfold fits at ha;omega
 have hpl:=R.pl;have hcl:=R.cl;have hlen:=IW.len;have hn4:=IW.n4;refine Ct.go (vs:=[.agg c.toArray,I 7,I a,v]) fun Rr=>?_;have h00:=h0;obtain ⟨⟨b1,c1⟩,⟨b2,c2⟩,⟨b3,c3⟩,⟨b4,c4⟩,rfl,h1,h2,h3,h4,h5⟩:=Qi_ h0;obtain ⟨bv,cv,rfl,_,_⟩:=hs.1.shape;refine walk ?_;refine qc_ rfl rfl fun p4 _=>?_;refine zb_ rfl fun p8 _=>?_;refine QB_ ?_;by_cases hq:0≤a∧a<x.Parts.length
 ·skip
  rw [decide_eq_false (p:=¬(0≤a∧a<(x.Parts.length:Int))) (fun h=>h hq)];obtain ⟨i,rfl⟩:∃i:Nat,a=i:=⟨a.toNat,by omega⟩;have hip:i<x.Parts.length:=by omega
  have hic:i<x.Coords.length:=by omega
  have hiw:i<w.ns.length:=by omega
  refine walk ?_;refine Za_ rfl rfl (zaz_ (W0:=W0) (H:=H) h00 hok i hic ha) fun r1 H1 B hl1 ⟨c',y,er,hy,hcr,eB⟩=>?_;subst er eB;have hyy:=hy;obtain ⟨⟨d1,e1⟩,⟨d2,e2⟩,⟨d3,e3⟩,⟨d4,e4⟩,rfl,_⟩:=Qi_ hy;refine walk ?_;refine fin0 ?_;exact ⟨_,y,0,rfl,hyy,qct_ IW (by omega) R hiw hcr,rfl⟩
 ·skip
  rw [decide_eq_true (p:=¬(0≤a∧a<(x.Parts.length:Int))) hq];exact v59_
theorem v138_ {P:Prop} (h:P:=by
 refine walk ?_;refine fin0 ?_;exact ⟨_,x,4,rfl,⟨_,_,_,_,rfl,h1,h2,h3,h4,h5⟩,ZcV_ R (by decide) (by rw [←R.net];exact hq),rfl⟩):P:=h
theorem qcc_ {W0:World} {H:Heap} {c:List Value} {n K:Nat} {B0:List BT} {w:PW} {x:RW} {a:Int} {v:Value} {works:List Work} (IW:WInv n K B0 w) (hl:w.log.length≤800000000) (R:WRel w x) (h0:rW17 H c x) (ha:fits a) (hs:SlB zj_ 3 56 H v works):
  Ct Tryz.prog 23 #[.agg c.toArray,I 3,I a,v] W0 H [] (fun r H' B=>zW_ w 3 a works r H' B):=by
 have hnb:0≤x.Now∧x.Now≤1073741824:=by rw [R.now];exact IW.now
 have hok:=R.ok IW (by omega);have hab: -9223372036854775808≤a∧a≤9223372036854775807:=by unfold fits at ha;omega
 have hpl:=R.pl;have hcl:=R.cl;have hlen:=IW.len;have hn4:=IW.n4;refine Ct.go (vs:=[.agg c.toArray,I 3,I a,v]) fun Rr=>?_;have h00:=h0;obtain ⟨⟨b1,c1⟩,⟨b2,c2⟩,⟨b3,c3⟩,⟨b4,c4⟩,rfl,h1,h2,h3,h4,h5⟩:=Qi_ h0;obtain ⟨bv,cv,rfl,_,_⟩:=hs.1.shape;refine walk ?_;refine qc_ rfl rfl fun p4 _=>?_;refine zb_ rfl fun p8 _=>?_;refine QB_ ?_;by_cases hq:inN x.Net a
 ·obtain ⟨j,rfl⟩:∃j:Nat,a=j:=⟨a.toNat,by unfold inN at hq;omega⟩;have hj:j<x.Net.length:=by unfold inN at hq;omega
  refine Za_ rfl rfl (Net.refDrop_yes (W0:=W0) (H:=H) h3 hj) fun r1 H1 B hl1 ⟨v1,cm,er,hm,hv,eB⟩=>?_;subst er eB;obtain ⟨z1,z2,rfl,_,_⟩:=hv.1.shape;obtain ⟨t1,t2,t3,t4,rfl,_⟩:=hm;refine walk ?_;refine fin0 ?_;have hj':j<w.net.length:=by rw [←R.net];exact hj
  exact ⟨_,{x with Net:=Net.del x.Net j},0,rfl,⟨_,_,_,_,rfl,h1.mono hl1,h2.mono hl1,hv,h4,h5.mono hl1⟩,by rw [R.net];exact qcW_ R hj',rfl⟩
 ·refine Za_ rfl rfl (Net.refDrop_no (W0:=W0) (H:=H) (i:=a) h3 hq) fun r1 H1 B hl1 ⟨cm,er,hm,eB,eH⟩=>?_;subst er eB eH;obtain ⟨t1,t2,t3,t4,rfl,_⟩:=hm;exact v138_
theorem zcc_ {W0:World} {H:Heap} {c:List Value} {n K:Nat} {B0:List BT} {w:PW} {x:RW} {a:Int} {v:Value} {works:List Work} (IW:WInv n K B0 w) (hl:w.log.length≤800000000) (R:WRel w x) (h0:rW17 H c x) (ha:fits a) (hs:SlB zj_ 3 56 H v works):
  Ct Tryz.prog 23 #[.agg c.toArray,I 4,I a,v] W0 H [] (fun r H' B=>zW_ w 4 a works r H' B):=by
 have hnb:0≤x.Now∧x.Now≤1073741824:=by rw [R.now];exact IW.now
 have hok:=R.ok IW (by omega);have hab: -9223372036854775808≤a∧a≤9223372036854775807:=by unfold fits at ha;omega
 have hpl:=R.pl;have hcl:=R.cl;have hlen:=IW.len;have hn4:=IW.n4;refine Ct.go (vs:=[.agg c.toArray,I 4,I a,v]) fun Rr=>?_;have h00:=h0;obtain ⟨⟨b1,c1⟩,⟨b2,c2⟩,⟨b3,c3⟩,⟨b4,c4⟩,rfl,h1,h2,h3,h4,h5⟩:=Qi_ h0;obtain ⟨bv,cv,rfl,_,_⟩:=hs.1.shape;refine walk ?_;refine qc_ rfl rfl fun p4 _=>?_;refine zb_ rfl fun p8 _=>?_;refine QB_ ?_;by_cases hq:inN x.Net a
 ·obtain ⟨j,rfl⟩:∃j:Nat,a=j:=⟨a.toNat,by unfold inN at hq;omega⟩;have hj:j<x.Net.length:=by unfold inN at hq;omega
  have hj':j<w.net.length:=by rw [←R.net];exact hj
  by_cases hf:x.Net.length<64
  ·refine Za_ rfl rfl (Net.refCopy_yes (W0:=W0) (H:=H) h3 hj hf) fun r1 H1 B hl1 ⟨v1,er,hv,eB⟩=>?_;subst er eB;obtain ⟨z1,z2,rfl,_,_⟩:=hv.1.shape;refine walk ?_;refine fin0 ?_;exact ⟨_,{x with Net:=x.Net++[x.Net[j]]},0,rfl,⟨_,_,_,_,rfl,h1.mono hl1,h2.mono hl1,hv,h4,h5.mono hl1⟩,by simp only [R.net];exact zcW_ R hj' (by rw [←R.net];exact hf),rfl⟩
  ·refine Za_ rfl rfl (Net.refCopy_full (W0:=W0) (H:=H) h3 hj hf) fun r1 H1 B hl1 ⟨er,eB,eH⟩=>?_;subst er eB eH;refine walk ?_;refine fin0 ?_;exact ⟨_,x,5,rfl,⟨_,_,_,_,rfl,h1,h2,h3,h4,h5⟩,QcW_ R hj' (by rw [←R.net];exact hf),rfl⟩
 ·refine Za_ rfl rfl (Net.refCopy_no (W0:=W0) (H:=H) (i:=a) h3 hq) fun r1 H1 B hl1 ⟨er,eB,eH⟩=>?_;subst er eB eH;exact v138_
end Go.Proofs.YtlflbkpmfhhikaaGreatDoor
