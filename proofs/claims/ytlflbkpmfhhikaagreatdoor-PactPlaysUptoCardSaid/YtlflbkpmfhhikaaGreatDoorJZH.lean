/- The document's world, walked: hear. -/
import Derived.Test.YtlflbkpmfhhikaaGreatDoorJKD
import Derived.Test.YtlflbkpmfhhikaaGreatDoorJMC
import Derived.Test.YtlflbkpmfhhikaaGreatDoorJQG
import Derived.Test.YtlflbkpmfhhikaaGreatDoorJQN
import Derived.Test.YtlflbkpmfhhikaaGreatDoorJUH
import Derived.Test.YtlflbkpmfhhikaaGreatDoorJZF
import Derived.Test.YtlflbkpmfhhikaaGreatDoorJZG
set_option maxHeartbeats 16000000
set_option maxRecDepth 100000
set_option linter.unusedVariables false
set_option linter.unusedSimpArgs false
namespace Go.Proofs.YtlflbkpmfhhikaaGreatDoor
open Go Go.Sx Go.Proofs
def Zat_ (m:Part) (g:Message) (k:Int) (y:Bool):List Value:=[I m.Shard,I g.From,I k,I g.Txn.Node,I g.Txn.Life,I g.Txn.Count,I 0,nilS,nilS,.bool y,I 0,I 0,I 0,I 0,nilS,I 0,I 0,I 0,nilS]
theorem Qbl_ {H:Heap} {m:Part} {g:Message} {k:Int} {y:Bool} (hs:fits m.Shard) (hf:fits g.From) (hk:fits k) (hx:fits g.Txn.Node∧fits g.Txn.Life∧fits g.Txn.Count):Qa_ H (Zat_ m g k y) {Zk_ with From:=m.Shard,To:=g.From,Kind:=k,Txn:=g.Txn,Yes:=y}:=
 ⟨nilS,nilS,nilS,nilS,rfl,hs,hf,hk,hx.1,hx.2.1,hx.2.2,qh_,SlB.nil,SlB.nil,qh_,qh_,qh_,qh_,SlB.nil,qh_,qh_,qh_,SlB.nil⟩
theorem v109_ {P:Prop} (h:P:=by
 refine walk ?_;refine fin0 ?_;exact ⟨_,m,nilS,nilS,[],[],rfl,h00,SlB.nil,SlB.nil,.off hf,rfl⟩):P:=h
theorem v155_ {P:Prop} (h:P:=by
 refine qa_ 10 ?_;refine zt_ 8 rfl (Ze_ rfl rfl rfl fun b10=>⟨.refl _,subA,?_⟩);exact v3_):P:=h
theorem v157_ {P:Prop} (h:P:=by
 refine zt_ 2 rfl (Ze_ rfl rfl rfl fun b9=>⟨.refl _,subA,?_⟩);refine qa_ 10 ?_;exact v3_):P:=h
theorem v21_ {P:Prop} (h:P:=by
 refine qb_ rfl ?_;refine walk ?_;refine ZaQ_ (L':=ownS Qa_ 19 216 106 H3 (.slice (some ⟨b9,0,none⟩) 1 1) [ackR m g]::ownS rRec 9 120 53 H3 (.slice (some ⟨b10,0,none⟩) 1 1) [recA g]::row p5 129 [I m.Shard,.slice qb1 t'.Held.length qc1,.slice qb2 t'.Prep.length qc2,.slice d1 D.length e1']::R) (Sub.trans (B:=row b9 106 (Zat_ m g 4 false)::row b10 53 [I 3,I g.Txn.Node,I g.Txn.Life,I g.Txn.Count,I 0,nilS,nilS,.bool g.Yes,nilS]::row p5 129 [I m.Shard,.slice qb1 t'.Held.length qc1,.slice qb2 t'.Prep.length qc2,.slice d1 D.length e1']::R) subA ((own1 (x:=ackR m g) (Qbl_ hsh f1 fk4 hxm) c216).trans (Sub.cons (own1 (x:=recA g) ⟨nilS,nilS,nilS,rfl,fk3,hxm.1,hxm.2.1,hxm.2.2,qh_,SlB.nil,SlB.nil,SlB.nil⟩ (by decide))))) ?_;refine qg_ (.slice (some ⟨b9,0,none⟩) 1 1) fun H9 hl9 hsl=>?_;refine qg_ (.slice (some ⟨b10,0,none⟩) 1 1) fun H10 hl10 hsr=>?_;refine fin0 ?_;exact ⟨[I m.Shard,.slice qb1 t'.Held.length qc1,.slice qb2 t'.Prep.length qc2,.slice d1 D.length e1'],⟨m.Shard,t',D⟩,.slice (some ⟨b9,0,none⟩) 1 1,.slice (some ⟨b10,0,none⟩) 1 1,[ackR m g],[recA g],rfl,⟨_,_,_,rfl,hsh,hq1.mono (hl9.trans hl10),hq2.mono (hl9.trans hl10),hsD.mono (hl3.trans (hl9.trans hl10))⟩,hsl.mono hl10,hsr,hra',rfl⟩):P:=h
theorem v30_ {P:Prop} (h:P:=by
 refine qb_ rfl ?_;refine walk ?_;refine ZaQ_ (L':=ownS Qa_ 19 216 106 H3 (.slice (some ⟨b9,0,none⟩) 1 1) [ZaD_ m g false]::row p5 129 [I m.Shard,.slice qb1 t'.Held.length qc1,.slice qb2 t'.Prep.length qc2,.slice b3 m.Done.length c3]::R) (Sub.trans (B:=row b9 106 (Zat_ m g 2 false)::row p5 129 [I m.Shard,.slice qb1 t'.Held.length qc1,.slice qb2 t'.Prep.length qc2,.slice b3 m.Done.length c3]::R) subA (own1 (x:=ZaD_ m g false) (Qbl_ hsh f1 fk2 hxm) c216)) ?_;refine qg_ (.slice (some ⟨b9,0,none⟩) 1 1) fun H9 hl9 hsl=>?_;refine fin0 ?_;exact ⟨[I m.Shard,.slice qb1 t'.Held.length qc1,.slice qb2 t'.Prep.length qc2,.slice b3 m.Done.length c3],⟨m.Shard,t',m.Done⟩,.slice (some ⟨b9,0,none⟩) 1 1,nilS,[ZaD_ m g false],[],rfl,⟨_,_,_,rfl,hsh,hq1.mono hl9,hq2.mono hl9,hs3.mono (hl3.trans hl9)⟩,hsl,SlB.nil,.no hf k1 hd hnp t' e hrp he,rfl⟩):P:=h
theorem v31_ {P:Prop} (h:P:=by
 refine qb_ rfl ?_;refine walk ?_;refine ZaQ_ (L':=ownS Qa_ 19 216 106 H2 (.slice (some ⟨b9,0,none⟩) 1 1) [ZaD_ m g true]::row p5 129 (m.cv (.slice b1 m.T.Held.length c1) (.slice b2 m.T.Prep.length c2) (.slice b3 m.Done.length c3))::R) (Sub.trans (B:=row b9 106 (Zat_ m g 2 true)::row p5 129 (m.cv (.slice b1 m.T.Held.length c1) (.slice b2 m.T.Prep.length c2) (.slice b3 m.Done.length c3))::R) subA (own1 (x:=ZaD_ m g true) (Qbl_ hsh f1 fk2 hxm) c216)) ?_;refine qg_ (.slice (some ⟨b9,0,none⟩) 1 1) fun H9 hl9 hsl=>?_;refine fin0 ?_;exact ⟨m.cv (.slice b1 m.T.Held.length c1) (.slice b2 m.T.Prep.length c2) (.slice b3 m.Done.length c3),m,.slice (some ⟨b9,0,none⟩) 1 1,nilS,[ZaD_ m g true],[],rfl,RdOk.mono (R:=ZaA_) hl9 h00,hsl,SlB.nil,.again hf k1 hd ⟨_,List.getElem_mem hj0,hj⟩,rfl⟩):P:=h
theorem v3_ {P:Prop} (h:P:=by
 refine qb_ rfl ?_;refine walk ?_;refine ZaQ_ (L':=ownS Qa_ 19 216 106 H3 (.slice (some ⟨b9,0,none⟩) 1 1) [ZaD_ m g true]::ownS rRec 9 120 53 H3 (.slice (some ⟨b10,0,none⟩) 1 1) [recP g]::row p5 129 [I m.Shard,.slice qb1 t'.Held.length qc1,.slice qb2 t'.Prep.length qc2,.slice b3 m.Done.length c3]::R) (Sub.trans (B:=row b9 106 (Zat_ m g 2 true)::row b10 53 [I 2,I g.Txn.Node,I g.Txn.Life,I g.Txn.Count,I g.Work.Robot,.slice b5 g.Work.Take.length c5,.slice b6 g.Work.Drop.length c6,.bool false,nilS]::row p5 129 [I m.Shard,.slice qb1 t'.Held.length qc1,.slice qb2 t'.Prep.length qc2,.slice b3 m.Done.length c3]::R) subA ((own1 (x:=ZaD_ m g true) (Qbl_ hsh f1 fk2 hxm) c216).trans (Sub.cons (own1 (x:=recP g) ⟨_,_,_,rfl,fk2,hxm.1,hxm.2.1,hxm.2.2,f7,h1.mono hl3,h2.mono hl3,SlB.nil⟩ (by decide))))) ?_;refine qg_ (.slice (some ⟨b9,0,none⟩) 1 1) fun H9 hl9 hsl=>?_;refine qg_ (.slice (some ⟨b10,0,none⟩) 1 1) fun H10 hl10 hsr=>?_;refine fin0 ?_;exact ⟨[I m.Shard,.slice qb1 t'.Held.length qc1,.slice qb2 t'.Prep.length qc2,.slice b3 m.Done.length c3],⟨m.Shard,t',m.Done⟩,.slice (some ⟨b9,0,none⟩) 1 1,.slice (some ⟨b10,0,none⟩) 1 1,[ZaD_ m g true],[recP g],rfl,⟨_,_,_,rfl,hsh,hq1.mono (hl9.trans hl10),hq2.mono (hl9.trans hl10),hs3.mono (hl3.trans (hl9.trans hl10))⟩,hsl.mono hl10,hsr,.yes hf k1 hd hnp t' hrp,rfl⟩):P:=h
theorem QcV_ {W0:World} {H:Heap} {c cm:List Value} {m:Part} {g:Message} {n:Nat} (h0:ZaA_ H c m) (hm:Qa_ H cm g) (hg:OkM g) (hn:n≤500)
  (hhl:m.T.Held.length≤40*n) (hpl:m.T.Prep.length≤n) (h80:∀q∈m.T.Prep,q.Work.ks.length≤80) (hdl:m.Done.length≤n):
  Ct Tryz.prog 90 #[.agg c.toArray,.agg cm.toArray] W0 H [] (fun r H' B=>∃cs m' v1 v2 out rec,r= .tuple #[.agg cs.toArray,v1,v2]∧ZaA_ H' cs m'∧SlB Qa_ 19 216 H' v1 out∧SlB rRec 9 120 H' v2 rec∧RHear m g m' out rec∧B=[]):=by
 refine Ct.go (vs:=[.agg c.toArray,.agg cm.toArray]) fun R=>?_;have h00:=h0;obtain ⟨s1,s2,s3,rfl,hsh,hs1,hs2,hs3⟩:=h0;obtain ⟨b1,c1,rfl,hc1,hd1⟩:=hs1.1.shape;obtain ⟨b2,c2,rfl,hc2,hd2⟩:=hs2.1.shape;obtain ⟨b3,c3,rfl,hc3,hd3⟩:=hs3.1.shape;have hm0:=hm;obtain ⟨t1,t2,t3,t4,rfl,f1,f2,f3,f4,f5,f6,f7,h1,h2,f8,f9,f10,f11,h3,f12,f13,f14,h4⟩:=hm;obtain ⟨b5,c5,rfl,_,_⟩:=h1.1.shape;obtain ⟨b6,c6,rfl,_,_⟩:=h2.1.shape;obtain ⟨b7,c7,rfl,_,_⟩:=h3.1.shape;obtain ⟨b8,c8,rfl,_,_⟩:=h4.1.shape;refine walk ?_;refine qc_ rfl rfl fun p3 _=>?_;refine qc_ rfl rfl fun p4 _=>?_;refine walk ?_;refine zb_ rfl fun p5 _=>?_;by_cases hf:forR m g
 case neg=>
  by_cases e1:g.To=m.Shard
  ·have e2:¬g.From=g.Txn.Node:=fun e=>hf ⟨e1,e⟩;exact v109_
  ·exact v109_
 obtain ⟨e1,e2⟩:=id hf;have hxm:fits g.Txn.Node∧fits g.Txn.Life∧fits g.Txn.Count:=⟨f4,f5,f6⟩;have hw0:zj_ H [I g.Work.Robot,.slice b5 g.Work.Take.length c5,.slice b6 g.Work.Drop.length c6] g.Work:=⟨_,_,rfl,f7,h1,h2⟩;have hT0:QK_ H [.slice b1 m.T.Held.length c1,.slice b2 m.T.Prep.length c2] m.T:=⟨_,_,rfl,hs1,hs2⟩;by_cases k1:g.Kind=1
 ·refine walk ?_;refine Za_ rfl rfl (ZdP_ (x:=g.Txn) h00) fun r1 H1 B hl1 ⟨er,eB,eH⟩=>?_;subst er eB eH;refine walk ?_;refine ze_ rfl (fun hd=>?_) (fun hd=>?_)
  ·refine walk ?_;refine fin0 ?_;exact ⟨_,m,nilS,nilS,[],[],rfl,h00,SlB.nil,SlB.nil,.done hf k1 hd,rfl⟩
  refine walk ?_;refine zb_ rfl fun p8 _=>?_;refine walk ?_;refine Za_ rfl rfl (QaU_ (x:=g.Txn) hT0) fun r2 H2 B hl2 ⟨hat,eB,eH⟩=>?_;subst eB eH;rcases hat with ⟨rfl,hno⟩ | ⟨j0,hj0,rfl,hj⟩
  rotate_left
  ·have hge:(0:Int)≤(j0:Int):=by omega
   refine walk ?_;refine zc_ 4 [row p3 129 (m.cv (.slice b1 m.T.Held.length c1) (.slice b2 m.T.Prep.length c2) (.slice b3 m.Done.length c3)),row p8 106 (Zat_ m g 2 true)] ?_;refine qa_ 0 ?_;refine qa_ 1 ?_;refine ZbP_ 2 3 rfl rfl (Ze_ rfl rfl rfl fun b9=>⟨.refl _,subA,?_⟩) rfl rfl rfl (by simp) rfl ⟨subA,?_⟩
   ·refine zk_ 3 rfl rfl rfl rfl (by simp) rfl ⟨subA,?_⟩;exact v31_
   ·refine zt_ 2 rfl (Ze_ rfl rfl rfl fun b9=>⟨.refl _,subA,?_⟩);exact v31_
  have hps:=fun q hq=>hno q hq;have hnp:¬zbM_ m g.Txn:=fun ⟨q,hq,hx⟩=>hno q hq hx;refine walk ?_;refine Za_ rfl rfl (zbE_ (x:=g.Txn) (w:=g.Work) hT0 hxm hw0 hg.w.ks_len h80 (by omega)) fun r3 H3 B hl3 ⟨cs3,t',e,er,hcs3,hrp,eB⟩=>?_;subst er eB;obtain ⟨q1,q2,rfl,hq1,hq2⟩:=hcs3;obtain ⟨qb1,qc1,rfl,_,_⟩:=hq1.1.shape;obtain ⟨qb2,qc2,rfl,_,_⟩:=hq2.1.shape;refine walk ?_;refine ze_ rfl (fun he=>?_) (fun he=>?_)
  ·refine walk ?_;refine zc_ 4 [row p3 129 [I m.Shard,.slice qb1 t'.Held.length qc1,.slice qb2 t'.Prep.length qc2,.slice b3 m.Done.length c3],row p8 106 (Zat_ m g 2 false)] ?_;refine qa_ 0 ?_;refine qa_ 1 ?_;refine ZbP_ 2 3 rfl rfl (Ze_ rfl rfl rfl fun b9=>⟨.refl _,subA,?_⟩) rfl rfl rfl (by simp) rfl ⟨subA,?_⟩
   ·refine zk_ 3 rfl rfl rfl rfl (by simp) rfl ⟨subA,?_⟩;exact v30_
   ·refine zt_ 2 rfl (Ze_ rfl rfl rfl fun b9=>⟨.refl _,subA,?_⟩);exact v30_
  ·obtain rfl:e=0:=by omega
   refine walk ?_;refine zc_ 11 [row p3 129 [I m.Shard,.slice qb1 t'.Held.length qc1,.slice qb2 t'.Prep.length qc2,.slice b3 m.Done.length c3],row p8 106 (Zat_ m g 2 true),row p4 106 (g.cv (.slice b5 g.Work.Take.length c5) (.slice b6 g.Work.Drop.length c6) (.slice b7 g.Call.Route.Cells.length c7) (.slice b8 g.Reply.Route.Cells.length c8))] ?_;refine qa_ 0 ?_;refine qa_ 1 ?_;refine qa_ 3 ?_;refine qa_ 4 ?_;refine qa_ 5 ?_;refine qa_ 6 ?_;refine qa_ 7 ?_;refine qcN_ 2 8 9 ?_ ?_ ?_
   ·refine at_w 2 rfl (Ze_ rfl rfl rfl fun b9=>⟨.refl _,subA,?_⟩);refine ZE_ 8 9 ?_ ?_
    ·refine at_w 8 rfl (Ze_ rfl rfl rfl fun b10=>⟨.refl _,subA,?_⟩);refine zk_ 9 rfl rfl rfl rfl (by simp) rfl ⟨subA,?_⟩;refine qa_ 10 ?_;exact v3_
    ·refine at_s 9 rfl rfl rfl rfl (by simp) rfl ⟨subA,?_⟩;exact v155_
   ·refine at_w 8 rfl (Ze_ rfl rfl rfl fun b10=>⟨.refl _,subA,?_⟩);refine ZE_ 2 9 ?_ ?_
    ·refine at_w 2 rfl (Ze_ rfl rfl rfl fun b9=>⟨.refl _,subA,?_⟩);refine zk_ 9 rfl rfl rfl rfl (by simp) rfl ⟨subA,?_⟩;refine qa_ 10 ?_;exact v3_
    ·refine at_s 9 rfl rfl rfl rfl (by simp) rfl ⟨subA,?_⟩;exact v157_
   ·refine at_s 9 rfl rfl rfl rfl (by simp) rfl ⟨subA,?_⟩;refine ZE_ 2 8 ?_ ?_
    ·refine at_w 2 rfl (Ze_ rfl rfl rfl fun b9=>⟨.refl _,subA,?_⟩);exact v155_
    ·refine at_w 8 rfl (Ze_ rfl rfl rfl fun b10=>⟨.refl _,subA,?_⟩);exact v157_
 by_cases k3:g.Kind=3
 case neg=>
  refine walk ?_;refine fin0 ?_;exact ⟨_,m,nilS,nilS,[],[],rfl,h00,SlB.nil,SlB.nil,.other hf k1 k3,rfl⟩
 have fk4:fits (4:Int):=by unfold fits;omega
 refine walk ?_;refine ZK_ rfl rfl (Ze_ rfl rfl rfl fun b9=>?_);refine walk ?_
 refine zcB_ (σ:=(Option Addr×Nat)×List RD×Heap) (fun u=>H.le u.2.2∧SlB qp_ 4 32 u.2.2 (.slice u.1.1 u.2.1.length u.1.2) u.2.1∧((∃q∈m.T.Prep,q.Txn=g.Txn∧g.Yes=true∧u.2.1=putL ⟨g.Txn,zD_ 0 q.Work.ks⟩ m.Done)∨((zbM_ m g.Txn→g.Yes=false)∧u.2.1=m.Done)))
  (fun _=>[(2,.pointer (some ⟨p3,0,none⟩)),(3,.pointer (some ⟨p4,0,none⟩)),(4,.pointer (some ⟨p5,0,none⟩)),(9,.slice (some ⟨b9,0,none⟩) 1 1)]) (fun u=>u.2.2)
  (fun u=>row b9 106 (Zat_ m g 4 false)::row p5 129 [I 0,nilS,nilS,nilS]::row p4 106 (g.cv (.slice b5 g.Work.Take.length c5) (.slice b6 g.Work.Drop.length c6) (.slice b7 g.Call.Route.Cells.length c7) (.slice b8 g.Reply.Route.Cells.length c8))::row p3 129 [I m.Shard,.slice b1 m.T.Held.length c1,.slice b2 m.T.Prep.length c2,.slice u.1.1 u.2.1.length u.1.2]::R) (fun K hK=>?_) (fun ⟨⟨d1,e1'⟩,D,HK⟩ ⟨hlK,hsD,hD⟩=>?_)
 ·refine Za_ rfl rfl (QaU_ (x:=g.Txn) hT0) fun r2 H2 B hl2 ⟨hat,eB,eH⟩=>?_;subst eB eH;rcases hat with ⟨rfl,hno⟩ | ⟨j0,hj0,rfl,hj⟩
  ·refine walk ?_;refine qY_ hK ((b3,c3),m.Done,H2) ⟨.refl _,hs3,.inr ⟨fun ⟨q,hq,hx⟩=>absurd hx (hno q hq),rfl⟩⟩
  ·have hge:(0:Int)≤(j0:Int):=by omega
   refine walk ?_;refine zF_ rfl Iff.rfl (fun hy=>?_) (fun hy=>?_)
   rotate_left
   ·refine walk ?_;refine qY_ hK ((b3,c3),m.Done,H2) ⟨.refl _,hs3,.inr ⟨fun _=>by simpa using hy,rfl⟩⟩
   refine zc_ 14 [row p3 129 (m.cv (.slice b1 m.T.Held.length c1) (.slice b2 m.T.Prep.length c2) (.slice b3 m.Done.length c3)),row p4 106 (g.cv (.slice b5 g.Work.Take.length c5) (.slice b6 g.Work.Drop.length c6) (.slice b7 g.Call.Route.Cells.length c7) (.slice b8 g.Reply.Route.Cells.length c8))] ?_;refine qa_ 0 ?_;refine qa_ 1 ?_;refine qa_ 2 ?_;refine qa_ 3 ?_;refine qa_ 4 ?_;refine qa_ 5 ?_;refine qa_ 6 ?_;refine qa_ 7 ?_;refine zg_ 8 rfl rfl rfl hs2.1 hj0 fun b o cc hr hc=>?_;obtain ⟨u1,u2,u3,rfl,g1,g2,g3,g4,g5,g6,g7,g8⟩:=hc;have hrt:=ZaF_ hr;obtain ⟨wr,wt,wd,hy2⟩:∃a b c,m.T.Prep[j0].Work=⟨a,b,c⟩:=⟨_,_,_,rfl⟩;have h80j:=h80 _ (List.getElem_mem hj0);rw [hy2] at hrt g5 g6 g7 h80j;obtain ⟨v1,e1'',rfl,_,_⟩:=g6.1.shape;obtain ⟨v2,e2'',rfl,_,_⟩:=g7.1.shape;change HRow H2 b (o+4) [I wr,.slice v1 wt.length e1'',.slice v2 wd.length e2''] at hrt;refine qa_ 9 ?_;refine Ql_ 10 rfl rfl rfl hrt rfl ?_;refine qe_ 11 rfl rfl rfl (Zcs_ (w:=⟨wr,wt,wd⟩) (cw:=[I wr,.slice v1 wt.length e1'',.slice v2 wd.length e2'']) ⟨_,_,rfl,g5,g6,g7⟩ (by simp only [Qb_];omega)) fun r3 H3 B hl3 ⟨er,eB⟩=>?_;subst er eB;refine ⟨subA,?_⟩;refine qa_ 12 ?_;have hfu:fits (zD_ 0 (⟨wr,wt,wd⟩:Work).ks):=qav_ qh_;refine qe_ 13 rfl rfl rfl (Qdz_ (d:=⟨g.Txn,zD_ 0 (⟨wr,wt,wd⟩:Work).ks⟩) (hs3.mono hl3) ⟨hxm.1,hxm.2.1,hxm.2.2,hfu⟩ (by omega)) fun r4 H4 B hl4 ⟨eB,eH⟩=>?_;subst eB eH;refine ⟨subA,?_⟩;refine qb_ rfl ?_;refine Zc_ r4 fun H5 hl5 hsp=>?_;obtain ⟨pb,pc,rfl,_,_⟩:=hsp.1.shape;refine walk ?_;refine qY_ hK ((pb,pc),putL ⟨g.Txn,zD_ 0 (⟨wr,wt,wd⟩:Work).ks⟩ m.Done,H5) ⟨hl3.trans hl5,hsp,.inl ⟨_,List.getElem_mem hj0,hj,hy,by rw [hy2]⟩⟩
 simp only at hlK hsD hD;dsimp only;refine walk ?_;refine Za_ rfl rfl (Zcl_ (x:=g.Txn) (yes:=g.Yes) (RdOk.mono (R:=QK_) hlK hT0) h80 (by omega) (by omega)) fun r3 H3 B hl3 ⟨cs3,t',e,er,hcs3,hra,eB⟩=>?_;subst er eB;obtain ⟨q1,q2,rfl,hq1,hq2⟩:=hcs3;obtain ⟨qb1,qc1,rfl,_,_⟩:=hq1.1.shape;obtain ⟨qb2,qc2,rfl,_,_⟩:=hq2.1.shape;have hl03:=hlK.trans hl3;refine walk ?_;refine ze_ rfl (fun he=>?_) (fun he=>?_)
 ·refine walk ?_;refine ZaQ_ (L':=ownS Qa_ 19 216 106 H3 (.slice (some ⟨b9,0,none⟩) 1 1) [ackR m g]::row p5 129 [I m.Shard,.slice qb1 t'.Held.length qc1,.slice qb2 t'.Prep.length qc2,.slice d1 D.length e1']::R) (Sub.trans (B:=row b9 106 (Zat_ m g 4 false)::row p5 129 [I m.Shard,.slice qb1 t'.Held.length qc1,.slice qb2 t'.Prep.length qc2,.slice d1 D.length e1']::R) subA (own1 (x:=ackR m g) (Qbl_ hsh f1 fk4 hxm) c216)) ?_;refine qg_ (.slice (some ⟨b9,0,none⟩) 1 1) fun H9 hl9 hsl=>?_;refine fin0 ?_;refine ⟨[I m.Shard,.slice qb1 t'.Held.length qc1,.slice qb2 t'.Prep.length qc2,.slice d1 D.length e1'],⟨m.Shard,t',D⟩,.slice (some ⟨b9,0,none⟩) 1 1,nilS,[ackR m g],[],rfl,⟨_,_,_,rfl,hsh,hq1.mono hl9,hq2.mono hl9,hsD.mono (hl3.trans hl9)⟩,hsl,SlB.nil,?_,rfl⟩;have h:=RHear.ack (m:=m) hf k3 t' e D hra hD;rw [if_neg he] at h;exact h
 ·obtain rfl:e=0:=by omega
  have hra':=RHear.ack (m:=m) hf k3 t' 0 D hra hD;rw [if_pos rfl] at hra';refine walk ?_;refine zc_ 10 [row p3 129 [I m.Shard,.slice qb1 t'.Held.length qc1,.slice qb2 t'.Prep.length qc2,.slice d1 D.length e1'],row p4 106 (g.cv (.slice b5 g.Work.Take.length c5) (.slice b6 g.Work.Drop.length c6) (.slice b7 g.Call.Route.Cells.length c7) (.slice b8 g.Reply.Route.Cells.length c8))] ?_;refine qa_ 0 ?_;refine qa_ 1 ?_;refine qa_ 2 ?_;refine qa_ 3 ?_;refine qa_ 4 ?_;refine qa_ 5 ?_;refine qa_ 6 ?_;refine ZbP_ 7 8 rfl rfl (Ze_ rfl rfl rfl fun b10=>⟨.refl _,subA,?_⟩) rfl rfl rfl (by simp) rfl ⟨subA,?_⟩
  ·refine zk_ 8 rfl rfl rfl rfl (by simp) rfl ⟨subA,?_⟩;refine qa_ 9 ?_;exact v21_
  ·refine qa_ 9 ?_;refine zt_ 7 rfl (Ze_ rfl rfl rfl fun b10=>⟨.refl _,subA,?_⟩);exact v21_
def hearX (x:RW) (m:Message) (y:RW) (out:List Message) (rec:List Rec):Prop:=
  (ZN_ m∧∃(i:Nat) (h:i<x.Parts.length) (p':Part),m.To=i∧RHear x.Parts[i] m p' out rec∧y={x with Parts:=x.Parts.set i p'})∨
  (¬ZN_ m∧∃(i:Nat) (h:i<x.Coords.length) (c':Coord) (oc:List ROc),m.To=i∧RCHear x.Coords[i] m c' out rec oc∧y={x with Coords:=x.Coords.set i c'})
theorem hearX.all {x y:RW} {m:Message} {out:List Message} {rec:List Rec} (h:hearX x m y out rec):QaW_ x m {y with Log:=y.Log++rec.map fun r=>⟨m.To,r⟩} out∧y.Log=x.Log:=by
 rcases h with ⟨k,i,h,p',hm,hr,rfl⟩ | ⟨k,i,h,c',oc,hm,hr,rfl⟩
 ·exact ⟨.inl ⟨k,i,h,p',rec,hm,hr,rfl⟩,rfl⟩
 ·exact ⟨.inr ⟨k,i,h,c',rec,oc,hm,hr,rfl⟩,rfl⟩
theorem hearX.len {x y:RW} {m:Message} {out:List Message} {rec:List Rec} (h:hearX x m y out rec):rec.length≤1:=by
 rcases h with ⟨_,_,_,_,_,hr,_⟩ | ⟨_,_,_,_,_,_,hr,_⟩
 ·cases hr with
  | ack=>split<;>simp
  | _=>simp
 ·cases hr<;>simp
structure ROk (x:RW):Prop where
  p:∀q∈x.Parts,q.T.Held.length≤40*300∧q.T.Prep.length≤300∧(∀r∈q.T.Prep,r.Work.ks.length≤80)∧q.Done.length≤300
  c:∀q∈x.Coords,qdP_ q.Txns∧q.Txns.Pairwise (fun a b=>ltK a.X.k b.X.k)∧q.Txns.length≤300∧0≤q.Count∧q.Count≤300∧0≤q.Life∧q.Life≤301
  l:∀i (h:i<x.Coords.length),x.Coords[i].Node=i∧(∀q∈openRL x.Coords[i].Txns,OkR x.Coords[i].Node (x.Coords[i].Life+1) q)∧((openRL x.Coords[i].Txns).map (·.Txn.k)).Nodup
theorem WRel.ok {n K:Nat} {B:List BT} {w:PW} {x:RW} (I:WInv n K B w) (hl:w.log.length≤900000000) (R:WRel w x):ROk x:=by
 have hk:=I.k3;refine ⟨fun q hq=>?_,fun q hq=>?_,fun i h=>?_⟩
 rotate_left 2
 ·have hi:i<w.ns.length:=by rw [←R.cl];exact h
  have p:=R.pi I hl hi h;obtain ⟨e1,e2,e3,_⟩:=p.load (by omega);rw [e1,p.r.node,p.r.life];exact ⟨(I.N.sh i hi).2,e2,e3⟩
 ·obtain ⟨i,h,rfl⟩:=List.getElem_of_mem hq;have hi:i<w.ns.length:=by rw [←R.pl];exact h
  have P:=(I.N.P i hi);have r:=R.p i hi h;have e1:=r.r.held P.t;have e2:=r.r.prep P.t;have e3:=r.dones P;refine ⟨?_,?_,fun q hq=>?_,?_⟩
  ·rw [←e1];have:=P.t.hn;unfold qx_;rw [List.length_map];simp only [QaE_,List.length_map];omega
  ·rw [←e2,zdo_];have:=P.t.wn;omega
  ·rw [←e2] at hq;exact (P.t.ww _ _ (P.t.recs hq)).1.1.ks_len
  ·rw [←e3,List.length_map,ZbL_];have:=P.dn;omega
 ·obtain ⟨i,h,rfl⟩:=List.getElem_of_mem hq;have hi:i<w.ns.length:=by rw [←R.cl];exact h
  have p:=R.pi I hl hi h;have h1:=p.len;have h2:=p.ct;have h3:=p.lf;exact ⟨p.txs,p.r.rise,by omega,by omega,by omega,by rw [p.r.life];omega,by rw [p.r.life];omega⟩
structure HMS where
  H:Heap
  y:RW
  a:Option Addr×Nat
  b:Option Addr×Nat
  c:Option Addr×Nat
  d:Option Addr×Nat
  v:Option Addr×Nat
  w:Option Addr×Nat
  out:List Message
  rec_:List Rec
theorem qaO_ {W0:World} {H:Heap} {c cm:List Value} {x:RW} {m:Message} (h0:rW17 H c x) (hm:Qa_ H cm m) (hx:ROk x) (hg:OkM m) (i:Nat) (hto:m.To=i) (hi:i<x.Parts.length) (hic:i<x.Coords.length) (hll:x.Log.length≤900000000):
  Ct Tryz.prog 54 #[.agg c.toArray,.agg cm.toArray] W0 H [] (fun r H' B=>∃c' y v1 out,r= .tuple #[.agg c'.toArray,v1]∧rW17 H' c' y∧SlB Qa_ 19 216 H' v1 out∧QaW_ x m y out∧B=[]):=by
 refine Ct.go (vs:=[.agg c.toArray,.agg cm.toArray]) fun R=>?_;have h00:=h0;have hm0:=hm;obtain ⟨⟨b1,c1⟩,⟨b2,c2⟩,⟨b3,c3⟩,⟨b4,c4⟩,rfl,h1,h2,h3,h4,h5⟩:=Qi_ h0;obtain ⟨t1,t2,t3,t4,rfl,k1,k2,k3,k4,k5',k6,k7,j1,j2,k8,k9,k10,k11,j3,k12,k13,k14,j4⟩:=hm;obtain ⟨mb1,mc1,rfl,_,_⟩:=j1.1.shape;obtain ⟨mb2,mc2,rfl,_,_⟩:=j2.1.shape;obtain ⟨mb3,mc3,rfl,_,_⟩:=j3.1.shape;obtain ⟨mb4,mc4,rfl,_,_⟩:=j4.1.shape;refine walk ?_;refine qc_ rfl rfl fun p2 _=>?_;refine qc_ rfl rfl fun p3 _=>?_;refine zb_ rfl fun p4 _=>?_;refine QB_ ?_
 refine Zbe_ (σ:=HMS) (fun u=>H.le u.H∧rW17 u.H (RWc u.a u.b u.c u.d u.y) u.y∧SlB Qa_ 19 216 u.H (.slice u.v.1 u.out.length u.v.2) u.out∧SlB rRec 9 120 u.H (.slice u.w.1 u.rec_.length u.w.2) u.rec_∧hearX x m u.y u.out u.rec_)
  (fun u=>[(2,.pointer (some ⟨p2,0,none⟩)),(3,.pointer (some ⟨p3,0,none⟩)),(4,.pointer (some ⟨p4,0,none⟩)),(6,.slice u.v.1 u.out.length u.v.2),(7,.slice u.w.1 u.rec_.length u.w.2)]) (fun u=>u.H)
  (fun u=>row p2 65 (RWc u.a u.b u.c u.d u.y)::row p3 106 (m.cv (.slice mb1 m.Work.Take.length mc1) (.slice mb2 m.Work.Drop.length mc2) (.slice mb3 m.Call.Route.Cells.length mc3) (.slice mb4 m.Reply.Route.Cells.length mc4))::row p4 65 [nilS,nilS,nilS,I 0,nilS]::R) (fun K hK=>?_) fun ⟨H',y,a,b,c,d,v,w,out,rec_⟩ ⟨hl',hy,hv,hw,hX⟩=>?_
 ·refine ze_ rfl (fun hk=>?_) (fun hk=>?_)
  ·obtain ⟨q,hq⟩:∃q,x.Parts[i]=q:=⟨_,rfl⟩;have hqok:=hx.p x.Parts[i] (List.getElem_mem hi);refine walk ?_;rw [hto];refine Zd_ rfl rfl h1.1 hi fun ba oa ca hra hca=>?_;rw [hq] at hca hqok;have hcc:=hca;obtain ⟨s1,s2,s3,rfl,e1,e2,e3,e4⟩:=hca;obtain ⟨x1,y1,rfl,_,_⟩:=e2.1.shape;obtain ⟨x2,y2,rfl,_,_⟩:=e3.1.shape;obtain ⟨x3,y3,rfl,_,_⟩:=e4.1.shape;refine zf_ rfl rfl hra rfl ?_;refine zb_ rfl fun p8 _=>?_;refine walk ?_;have hs:=QcV_ (W0:=W0) (H:=H) (n:=300) hcc hm0 hg (by omega) hqok.1 hqok.2.1 hqok.2.2.1 hqok.2.2.2;refine Za_ rfl rfl hs fun r1 H1 B hl1 ⟨cs,q',v1,v2,out,rec_,er,hq',hv1,hv2,hr,eB⟩=>?_;subst er eB;obtain ⟨d1,g1,rfl,_,_⟩:=hv1.1.shape;obtain ⟨d2,g2,rfl,_,_⟩:=hv2.1.shape;have hqq:=hq';obtain ⟨z1,z2,z3,rfl,w1,w2,w3,w4⟩:=hq';obtain ⟨u1,o1,rfl,_,_⟩:=w2.1.shape;obtain ⟨u2,o2,rfl,_,_⟩:=w3.1.shape;obtain ⟨u3,o3,rfl,_,_⟩:=w4.1.shape;refine walk ?_;rw [hto];refine Za_ rfl rfl (Qcs_ (W0:=W0) (H:=H1) (i:=i) (RdOk.mono (R:=rW17) hl1 h00) hqq hi) fun r2 H2 B hl2 ⟨c2',er,hc2',eB⟩=>?_;subst er eB;obtain ⟨a,b,c,d,rfl,_⟩:=Qi_ hc2';refine walk ?_;exact qY_ hK ⟨H2,{x with Parts:=x.Parts.set i q'},a,b,c,d,(d1,g1),(d2,g2),out,rec_⟩ ⟨hl1.trans hl2,hc2',hv1.mono hl2,hv2.mono hl2,.inl ⟨hk,i,hi,q',hto,by rw [hq];exact hr,rfl⟩⟩
  ·obtain ⟨q,hq⟩:∃q,x.Coords[i]=q:=⟨_,rfl⟩;have hqok:=hx.c x.Coords[i] (List.getElem_mem hic);refine walk ?_;rw [hto];refine Zd_ rfl rfl h2.1 hic fun ba oa ca hra hca=>?_;rw [hq] at hca hqok;have hcc:=hca;obtain ⟨s1,rfl,e1,e2,e3,e4⟩:=hca;obtain ⟨x1,y1,rfl,_,_⟩:=e4.1.shape;refine zf_ rfl rfl hra rfl ?_;refine zb_ rfl fun p9 _=>?_;refine walk ?_;have hs:=Zcr_ (W0:=W0) (H:=H) hcc hm0 hqok.1 hqok.2.1 (by omega);refine Za_ rfl rfl hs fun r1 H1 B hl1 ⟨cs,q',v1,v2,v3,out,rec_,oc,er,hq',hv1,hv2,_,hr,eB⟩=>?_;subst er eB;obtain ⟨d1,g1,rfl,_,_⟩:=hv1.1.shape;obtain ⟨d2,g2,rfl,_,_⟩:=hv2.1.shape;have hqq:=hq';obtain ⟨z1,rfl,w1,w2,w3,w4⟩:=hq';obtain ⟨u1,o1,rfl,_,_⟩:=w4.1.shape;refine walk ?_;rw [hto];refine Za_ rfl rfl (qW_ (W0:=W0) (H:=H1) (i:=i) (RdOk.mono (R:=rW17) hl1 h00) hqq hic) fun r2 H2 B hl2 ⟨c2',er,hc2',eB⟩=>?_;subst er eB;obtain ⟨a,b,c,d,rfl,_⟩:=Qi_ hc2';refine walk ?_;exact qY_ hK ⟨H2,{x with Coords:=x.Coords.set i q'},a,b,c,d,(d1,g1),(d2,g2),out,rec_⟩ ⟨hl1.trans hl2,hc2',hv1.mono hl2,hv2.mono hl2,.inr ⟨hk,i,hic,q',oc,hto,by rw [hq];exact hr,rfl⟩⟩
 ·simp only at hl' hy hv hw hX;dsimp only;obtain ⟨hall,hlog⟩:=hX.all;have hrl:=hX.len;obtain ⟨a1,a2⟩:=a;obtain ⟨e1,e2⟩:=b;obtain ⟨f1,f2⟩:=c;obtain ⟨g1,g2⟩:=d;obtain ⟨v1,v2⟩:=v;obtain ⟨w1,w2⟩:=w;obtain ⟨_,_,_,_,hee,y1,y2,y3,y4,y5⟩:=hy;simp only [List.cons.injEq,and_true,true_and] at hee;obtain ⟨rfl,rfl,rfl,rfl⟩:=hee;dsimp only at hv hw y1 y2 y3 y5⊢;have hcap:([].length (α:=Convoyref17Note)+y.Log.length)*128≤Qb_:=by simpa using y5.2
  have hbig:(y.Log.length+rec_.length)*128≤Qb_:=by rw [hlog];unfold Qb_;omega
  refine walk ?_;refine QW_ (w:=128) zw_ rfl fun bn=>?_;refine walk ?_;refine zo_ rfl rfl y5.1 hcap fun bm cm=>?_;rw [List.nil_append,List.length_nil,Nat.zero_add];refine walk ?_
  let nt (j:Nat):List Convoyref17Note:=(rec_.take j).map fun r=>⟨m.To,r⟩
  have hlen:∀j,j≤rec_.length→(y.Log++nt j).length=y.Log.length+j:=fun j hj=>by rw [List.length_append,List.length_map,List.length_take];omega
  have hnt:∀j (h:j<rec_.length),nt (j+1)=nt j++[⟨m.To,rec_[j]⟩]:=fun j h=>by
   show (rec_.take (j+1)).map _=_;rw [List.take_succ_eq_append_getElem h,List.map_append];rfl
  have hn0:y.Log++nt 0=y.Log:=by show y.Log++[]=_;rw [List.append_nil]
  have hnl:nt rec_.length=rec_.map fun r=>(⟨m.To,r⟩:Convoyref17Note):=by show (rec_.take _).map _=_;rw [List.take_length]
  generalize nt=nt at hlen hnt hn0 hnl
  refine Qc_ (σ:=Nat×(Option Addr×Nat)) (fun u=>u.1≤rec_.length) (fun u=>[(2,.pointer (some ⟨p2,0,none⟩)),(3,.pointer (some ⟨p3,0,none⟩)),(4,.pointer (some ⟨p4,0,none⟩)),(6,.slice v1 out.length v2),(7,.slice w1 rec_.length w2),(10,.slice u.2.1 (y.Log.length+u.1) u.2.2),(11,I u.1)]) (fun _=>H')
   (fun u=>ownS zw_ 10 128 72 H' (.slice u.2.1 (y.Log.length+u.1) u.2.2) (y.Log++nt u.1)::row p2 65 (RWc (a1,a2) (e1,e2) (f1,f2) (g1,g2) y)::row p3 106 (m.cv (.slice mb1 m.Work.Take.length mc1) (.slice mb2 m.Work.Drop.length mc2) (.slice mb3 m.Call.Route.Cells.length mc3) (.slice mb4 m.Reply.Route.Cells.length mc4))::row p4 65 [nilS,nilS,nilS,I 0,nilS]::R) (fun u=>rec_.length - u.1) (0,(bm,cm)) (Nat.zero_le _) (hs0:=?_) fun ⟨j,⟨bj,cj⟩⟩ hj0 K hL=>?_
  rotate_left
  ·dsimp only;rw [hn0];exact subA
  simp only at hj0;dsimp only;by_cases hj1:j<rec_.length
  ·have hj2:(j:Int)<(rec_.length:Int):=by omega
   obtain ⟨q,hq⟩:∃q,rec_[j]=q:=⟨_,rfl⟩;have hnj:=hnt j hj1;rw [hq] at hnj;refine walk ?_;refine zc_ 10 [row p3 106 (m.cv (.slice mb1 m.Work.Take.length mc1) (.slice mb2 m.Work.Drop.length mc2) (.slice mb3 m.Call.Route.Cells.length mc3) (.slice mb4 m.Reply.Route.Cells.length mc4))] ?_;refine qa_ 0 ?_;refine qa_ 1 ?_;refine qa_ 2 ?_;refine qa_ 3 ?_;refine qa_ 4 ?_;refine zg_ 5 rfl rfl rfl hw.1 hj1 fun bq oq cq hrq hcq=>?_;rw [hq] at hcq;have hcc:=hcq;obtain ⟨z1,z2,z3,rfl,q1,q2,q3,q4,q5,q6,q7,q8,q9⟩:=hcq;refine Ql_ 6 rfl rfl rfl hrq rfl ?_;refine qa_ 7 ?_;refine zx_ (y:=(⟨m.To,q⟩:Convoyref17Note)) 8 9 rfl rfl rfl ⟨_,_,_,rfl,k2,q1,q2,q3,q4,q5,q6,q7,q8,q9⟩ (by rw [hlen j hj0];simp only [Qb_] at hbig⊢;omega) fun d3 e3=>⟨subA,?_⟩;rw [hlen j hj0];refine qb_ rfl ?_;refine walk ?_;refine Zb_ hL (j+1,(d3,e3)) (by simp only;omega) (hs:=?_);simp only;rw [hnj,←List.append_assoc];exact subA
  ·obtain rfl:j=rec_.length:=by omega
   clear hL;rw [hnl];refine walk ?_;refine qg_ (.slice bj (y.Log.length+rec_.length) cj) fun H9 hl9 hs9=>?_;refine fin0 ?_;have hl9':(y.Log++rec_.map fun r=>(⟨m.To,r⟩:Convoyref17Note)).length=y.Log.length+rec_.length:=by simp
   exact ⟨_,{y with Log:=y.Log++rec_.map fun r=>⟨m.To,r⟩},_,_,rfl,⟨_,_,_,_,rfl,y1.mono hl9,y2.mono hl9,y3.mono hl9,y4,hs9⟩,hv.mono hl9,hall,rfl⟩
end Go.Proofs.YtlflbkpmfhhikaaGreatDoor
