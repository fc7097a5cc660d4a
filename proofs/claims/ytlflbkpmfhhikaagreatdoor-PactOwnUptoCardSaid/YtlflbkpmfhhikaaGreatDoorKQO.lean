/- The reference's participant: Hear. -/
import Derived.Test.YtlflbkpmfhhikaaGreatDoorKKD
import Derived.Test.YtlflbkpmfhhikaaGreatDoorKMD
import Derived.Test.YtlflbkpmfhhikaaGreatDoorKQB
import Derived.Test.YtlflbkpmfhhikaaGreatDoorKQG
import Derived.Test.YtlflbkpmfhhikaaGreatDoorKQN
set_option maxHeartbeats 16000000
set_option maxRecDepth 100000
set_option linter.unusedVariables false
set_option linter.unusedSimpArgs false
namespace Go.Proofs.YtlflbkpmfhhikaaGreatDoor
open Go Go.Sx Go.Proofs
def Qaq_ (m:Part) (g:Message) (k:Int) (y:Bool):List Value:=[I m.Shard,I g.From,I k,I g.Txn.Node,I g.Txn.Life,I g.Txn.Count,I 0,nilS,nilS,.bool y,I 0,I 0,I 0,I 0,nilS,I 0,I 0,I 0,nilS]
theorem zbb_ {H:Heap} {m:Part} {g:Message} {k:Int} {y:Bool} (hs:fits m.Shard) (hf:fits g.From) (hk:fits k) (hx:fits g.Txn.Node∧fits g.Txn.Life∧fits g.Txn.Count):Qa_ H (Qaq_ m g k y) {Qk_ with From:=m.Shard,To:=g.From,Kind:=k,Txn:=g.Txn,Yes:=y}:=
 ⟨nilS,nilS,nilS,nilS,rfl,hs,hf,hk,hx.1,hx.2.1,hx.2.2,Zg_,SlB.nil,SlB.nil,Zg_,Zg_,Zg_,Zg_,SlB.nil,Zg_,Zg_,Zg_,SlB.nil⟩
theorem v124_ {P:Prop} (h:P:=by
 refine qa_ 10 ?_;refine Zt_ 8 rfl (Ze_ rfl rfl rfl fun b10=>⟨.refl _,subA,?_⟩);exact v2_):P:=h
theorem v125_ {P:Prop} (h:P:=by
 refine Zt_ 2 rfl (Ze_ rfl rfl rfl fun b9=>⟨.refl _,subA,?_⟩);refine qa_ 10 ?_;exact v2_):P:=h
theorem v16_ {P:Prop} (h:P:=by
 refine qb_ rfl ?_;refine walk ?_;refine QaL_ (L':=ownS Qa_ 19 216 106 H3 (.slice (some ⟨b9,0,none⟩) 1 1) [ackR m g]::ownS rRec 9 120 53 H3 (.slice (some ⟨b10,0,none⟩) 1 1) [recA g]::row p5 129 [I m.Shard,.slice qb1 t'.Held.length qc1,.slice qb2 t'.Prep.length qc2,.slice d1 D.length e1']::R) (Sub.trans (B:=row b9 106 (Qaq_ m g 4 false)::row b10 53 [I 3,I g.Txn.Node,I g.Txn.Life,I g.Txn.Count,I 0,nilS,nilS,.bool g.Yes,nilS]::row p5 129 [I m.Shard,.slice qb1 t'.Held.length qc1,.slice qb2 t'.Prep.length qc2,.slice d1 D.length e1']::R) subA ((own1 (x:=ackR m g) (zbb_ hsh f1 fk4 hxm) c216).trans (Sub.cons (own1 (x:=recA g) ⟨nilS,nilS,nilS,rfl,fk3,hxm.1,hxm.2.1,hxm.2.2,Zg_,SlB.nil,SlB.nil,SlB.nil⟩ (by decide))))) ?_;refine qg_ (.slice (some ⟨b9,0,none⟩) 1 1) fun H9 hl9 hsl=>?_;refine qg_ (.slice (some ⟨b10,0,none⟩) 1 1) fun H10 hl10 hsr=>?_;refine fin0 ?_;exact ⟨[I m.Shard,.slice qb1 t'.Held.length qc1,.slice qb2 t'.Prep.length qc2,.slice d1 D.length e1'],⟨m.Shard,t',D⟩,.slice (some ⟨b9,0,none⟩) 1 1,.slice (some ⟨b10,0,none⟩) 1 1,[ackR m g],[recA g],rfl,⟨_,_,_,rfl,hsh,hq1.mono (hl9.trans hl10),hq2.mono (hl9.trans hl10),hsD.mono (hl3.trans (hl9.trans hl10))⟩,hsl.mono hl10,hsr,hra',rfl⟩):P:=h
theorem v25_ {P:Prop} (h:P:=by
 refine qb_ rfl ?_;refine walk ?_;refine QaL_ (L':=ownS Qa_ 19 216 106 H3 (.slice (some ⟨b9,0,none⟩) 1 1) [qaB_ m g false]::row p5 129 [I m.Shard,.slice qb1 t'.Held.length qc1,.slice qb2 t'.Prep.length qc2,.slice b3 m.Done.length c3]::R) (Sub.trans (B:=row b9 106 (Qaq_ m g 2 false)::row p5 129 [I m.Shard,.slice qb1 t'.Held.length qc1,.slice qb2 t'.Prep.length qc2,.slice b3 m.Done.length c3]::R) subA (own1 (x:=qaB_ m g false) (zbb_ hsh f1 fk2 hxm) c216)) ?_;refine qg_ (.slice (some ⟨b9,0,none⟩) 1 1) fun H9 hl9 hsl=>?_;refine fin0 ?_;exact ⟨[I m.Shard,.slice qb1 t'.Held.length qc1,.slice qb2 t'.Prep.length qc2,.slice b3 m.Done.length c3],⟨m.Shard,t',m.Done⟩,.slice (some ⟨b9,0,none⟩) 1 1,nilS,[qaB_ m g false],[],rfl,⟨_,_,_,rfl,hsh,hq1.mono hl9,hq2.mono hl9,hs3.mono (hl3.trans hl9)⟩,hsl,SlB.nil,.no hf k1 hd hnp t' e hrp he,rfl⟩):P:=h
theorem v26_ {P:Prop} (h:P:=by
 refine qb_ rfl ?_;refine walk ?_;refine QaL_ (L':=ownS Qa_ 19 216 106 H2 (.slice (some ⟨b9,0,none⟩) 1 1) [qaB_ m g true]::row p5 129 (m.cv (.slice b1 m.T.Held.length c1) (.slice b2 m.T.Prep.length c2) (.slice b3 m.Done.length c3))::R) (Sub.trans (B:=row b9 106 (Qaq_ m g 2 true)::row p5 129 (m.cv (.slice b1 m.T.Held.length c1) (.slice b2 m.T.Prep.length c2) (.slice b3 m.Done.length c3))::R) subA (own1 (x:=qaB_ m g true) (zbb_ hsh f1 fk2 hxm) c216)) ?_;refine qg_ (.slice (some ⟨b9,0,none⟩) 1 1) fun H9 hl9 hsl=>?_;refine fin0 ?_;exact ⟨m.cv (.slice b1 m.T.Held.length c1) (.slice b2 m.T.Prep.length c2) (.slice b3 m.Done.length c3),m,.slice (some ⟨b9,0,none⟩) 1 1,nilS,[qaB_ m g true],[],rfl,RdOk.mono (R:=zaz_) hl9 h00,hsl,SlB.nil,.again hf k1 hd ⟨_,List.getElem_mem hj0,hj⟩,rfl⟩):P:=h
theorem v2_ {P:Prop} (h:P:=by
 refine qb_ rfl ?_;refine walk ?_;refine QaL_ (L':=ownS Qa_ 19 216 106 H3 (.slice (some ⟨b9,0,none⟩) 1 1) [qaB_ m g true]::ownS rRec 9 120 53 H3 (.slice (some ⟨b10,0,none⟩) 1 1) [recP g]::row p5 129 [I m.Shard,.slice qb1 t'.Held.length qc1,.slice qb2 t'.Prep.length qc2,.slice b3 m.Done.length c3]::R) (Sub.trans (B:=row b9 106 (Qaq_ m g 2 true)::row b10 53 [I 2,I g.Txn.Node,I g.Txn.Life,I g.Txn.Count,I g.Work.Robot,.slice b5 g.Work.Take.length c5,.slice b6 g.Work.Drop.length c6,.bool false,nilS]::row p5 129 [I m.Shard,.slice qb1 t'.Held.length qc1,.slice qb2 t'.Prep.length qc2,.slice b3 m.Done.length c3]::R) subA ((own1 (x:=qaB_ m g true) (zbb_ hsh f1 fk2 hxm) c216).trans (Sub.cons (own1 (x:=recP g) ⟨_,_,_,rfl,fk2,hxm.1,hxm.2.1,hxm.2.2,f7,h1.mono hl3,h2.mono hl3,SlB.nil⟩ (by decide))))) ?_;refine qg_ (.slice (some ⟨b9,0,none⟩) 1 1) fun H9 hl9 hsl=>?_;refine qg_ (.slice (some ⟨b10,0,none⟩) 1 1) fun H10 hl10 hsr=>?_;refine fin0 ?_;exact ⟨[I m.Shard,.slice qb1 t'.Held.length qc1,.slice qb2 t'.Prep.length qc2,.slice b3 m.Done.length c3],⟨m.Shard,t',m.Done⟩,.slice (some ⟨b9,0,none⟩) 1 1,.slice (some ⟨b10,0,none⟩) 1 1,[qaB_ m g true],[recP g],rfl,⟨_,_,_,rfl,hsh,hq1.mono (hl9.trans hl10),hq2.mono (hl9.trans hl10),hs3.mono (hl3.trans (hl9.trans hl10))⟩,hsl.mono hl10,hsr,.yes hf k1 hd hnp t' hrp,rfl⟩):P:=h
theorem v92_ {P:Prop} (h:P:=by
 refine walk ?_;refine fin0 ?_;exact ⟨_,m,nilS,nilS,[],[],rfl,h00,SlB.nil,SlB.nil,.off hf,rfl⟩):P:=h
theorem zcG_ {W0:World} {H:Heap} {c cm:List Value} {m:Part} {g:Message} {n:Nat} (h0:zaz_ H c m) (hm:Qa_ H cm g) (hg:OkM g) (hn:n≤500)
  (hhl:m.T.Held.length≤40*n) (hpl:m.T.Prep.length≤n) (h80:∀q∈m.T.Prep,q.Work.ks.length≤80) (hdl:m.Done.length≤n):
  Ct Tryz.prog 90 #[.agg c.toArray,.agg cm.toArray] W0 H [] (fun r H' B=>∃cs m' v1 v2 out rec,r= .tuple #[.agg cs.toArray,v1,v2]∧zaz_ H' cs m'∧SlB Qa_ 19 216 H' v1 out∧SlB rRec 9 120 H' v2 rec∧RHear m g m' out rec∧B=[]):=by
 refine Ct.go (vs:=[.agg c.toArray,.agg cm.toArray]) fun R=>?_;have h00:=h0;obtain ⟨s1,s2,s3,rfl,hsh,hs1,hs2,hs3⟩:=h0;obtain ⟨b1,c1,rfl,hc1,hd1⟩:=hs1.1.shape;obtain ⟨b2,c2,rfl,hc2,hd2⟩:=hs2.1.shape;obtain ⟨b3,c3,rfl,hc3,hd3⟩:=hs3.1.shape;have hm0:=hm;obtain ⟨t1,t2,t3,t4,rfl,f1,f2,f3,f4,f5,f6,f7,h1,h2,f8,f9,f10,f11,h3,f12,f13,f14,h4⟩:=hm;obtain ⟨b5,c5,rfl,_,_⟩:=h1.1.shape;obtain ⟨b6,c6,rfl,_,_⟩:=h2.1.shape;obtain ⟨b7,c7,rfl,_,_⟩:=h3.1.shape;obtain ⟨b8,c8,rfl,_,_⟩:=h4.1.shape;refine walk ?_;refine qc_ rfl rfl fun p3 _=>?_;refine qc_ rfl rfl fun p4 _=>?_;refine walk ?_;refine Qb_ rfl fun p5 _=>?_;by_cases hf:forR m g
 case neg=>
  by_cases e1:g.To=m.Shard
  ·have e2:¬g.From=g.Txn.Node:=fun e=>hf ⟨e1,e⟩;exact v92_
  ·exact v92_
 obtain ⟨e1,e2⟩:=id hf;have hxm:fits g.Txn.Node∧fits g.Txn.Life∧fits g.Txn.Count:=⟨f4,f5,f6⟩;have hw0:Qi_ H [I g.Work.Robot,.slice b5 g.Work.Take.length c5,.slice b6 g.Work.Drop.length c6] g.Work:=⟨_,_,rfl,f7,h1,h2⟩;have hT0:QJ_ H [.slice b1 m.T.Held.length c1,.slice b2 m.T.Prep.length c2] m.T:=⟨_,_,rfl,hs1,hs2⟩;by_cases k1:g.Kind=1
 ·refine walk ?_;refine Za_ rfl rfl (zdz_ (x:=g.Txn) h00) fun r1 H1 B hl1 ⟨er,eB,eH⟩=>?_;subst er eB eH;refine walk ?_;refine Qe_ rfl (fun hd=>?_) (fun hd=>?_)
  ·refine walk ?_;refine fin0 ?_;exact ⟨_,m,nilS,nilS,[],[],rfl,h00,SlB.nil,SlB.nil,.done hf k1 hd,rfl⟩
  refine walk ?_;refine Qb_ rfl fun p8 _=>?_;refine walk ?_;refine Za_ rfl rfl (zaO_ (x:=g.Txn) hT0) fun r2 H2 B hl2 ⟨hat,eB,eH⟩=>?_;subst eB eH;rcases hat with ⟨rfl,hno⟩ | ⟨j0,hj0,rfl,hj⟩
  rotate_left
  ·have hge:(0:Int)≤(j0:Int):=by omega
   refine walk ?_;refine zc_ 4 [row p3 129 (m.cv (.slice b1 m.T.Held.length c1) (.slice b2 m.T.Prep.length c2) (.slice b3 m.Done.length c3)),row p8 106 (Qaq_ m g 2 true)] ?_;refine qa_ 0 ?_;refine qa_ 1 ?_;refine ZbC_ 2 3 rfl rfl (Ze_ rfl rfl rfl fun b9=>⟨.refl _,subA,?_⟩) rfl rfl rfl (by simp) rfl ⟨subA,?_⟩
   ·refine Zi_ 3 rfl rfl rfl rfl (by simp) rfl ⟨subA,?_⟩;exact v26_
   ·refine Zt_ 2 rfl (Ze_ rfl rfl rfl fun b9=>⟨.refl _,subA,?_⟩);exact v26_
  have hps:=fun q hq=>hno q hq;have hnp:¬zbM_ m g.Txn:=fun ⟨q,hq,hx⟩=>hno q hq hx;refine walk ?_;refine Za_ rfl rfl (zbt_ (x:=g.Txn) (w:=g.Work) hT0 hxm hw0 hg.w.ks_len h80 (by omega)) fun r3 H3 B hl3 ⟨cs3,t',e,er,hcs3,hrp,eB⟩=>?_;subst er eB;obtain ⟨q1,q2,rfl,hq1,hq2⟩:=hcs3;obtain ⟨qb1,qc1,rfl,_,_⟩:=hq1.1.shape;obtain ⟨qb2,qc2,rfl,_,_⟩:=hq2.1.shape;refine walk ?_;refine Qe_ rfl (fun he=>?_) (fun he=>?_)
  ·refine walk ?_;refine zc_ 4 [row p3 129 [I m.Shard,.slice qb1 t'.Held.length qc1,.slice qb2 t'.Prep.length qc2,.slice b3 m.Done.length c3],row p8 106 (Qaq_ m g 2 false)] ?_;refine qa_ 0 ?_;refine qa_ 1 ?_;refine ZbC_ 2 3 rfl rfl (Ze_ rfl rfl rfl fun b9=>⟨.refl _,subA,?_⟩) rfl rfl rfl (by simp) rfl ⟨subA,?_⟩
   ·refine Zi_ 3 rfl rfl rfl rfl (by simp) rfl ⟨subA,?_⟩;exact v25_
   ·refine Zt_ 2 rfl (Ze_ rfl rfl rfl fun b9=>⟨.refl _,subA,?_⟩);exact v25_
  ·obtain rfl:e=0:=by omega
   refine walk ?_;refine zc_ 11 [row p3 129 [I m.Shard,.slice qb1 t'.Held.length qc1,.slice qb2 t'.Prep.length qc2,.slice b3 m.Done.length c3],row p8 106 (Qaq_ m g 2 true),row p4 106 (g.cv (.slice b5 g.Work.Take.length c5) (.slice b6 g.Work.Drop.length c6) (.slice b7 g.Call.Route.Cells.length c7) (.slice b8 g.Reply.Route.Cells.length c8))] ?_;refine qa_ 0 ?_;refine qa_ 1 ?_;refine qa_ 3 ?_;refine qa_ 4 ?_;refine qa_ 5 ?_;refine qa_ 6 ?_;refine qa_ 7 ?_;refine qcv_ 2 8 9 ?_ ?_ ?_
   ·refine at_w 2 rfl (Ze_ rfl rfl rfl fun b9=>⟨.refl _,subA,?_⟩);refine qG_ 8 9 ?_ ?_
    ·refine at_w 8 rfl (Ze_ rfl rfl rfl fun b10=>⟨.refl _,subA,?_⟩);refine Zi_ 9 rfl rfl rfl rfl (by simp) rfl ⟨subA,?_⟩;refine qa_ 10 ?_;exact v2_
    ·refine at_s 9 rfl rfl rfl rfl (by simp) rfl ⟨subA,?_⟩;exact v124_
   ·refine at_w 8 rfl (Ze_ rfl rfl rfl fun b10=>⟨.refl _,subA,?_⟩);refine qG_ 2 9 ?_ ?_
    ·refine at_w 2 rfl (Ze_ rfl rfl rfl fun b9=>⟨.refl _,subA,?_⟩);refine Zi_ 9 rfl rfl rfl rfl (by simp) rfl ⟨subA,?_⟩;refine qa_ 10 ?_;exact v2_
    ·refine at_s 9 rfl rfl rfl rfl (by simp) rfl ⟨subA,?_⟩;exact v125_
   ·refine at_s 9 rfl rfl rfl rfl (by simp) rfl ⟨subA,?_⟩;refine qG_ 2 8 ?_ ?_
    ·refine at_w 2 rfl (Ze_ rfl rfl rfl fun b9=>⟨.refl _,subA,?_⟩);exact v124_
    ·refine at_w 8 rfl (Ze_ rfl rfl rfl fun b10=>⟨.refl _,subA,?_⟩);exact v125_
 by_cases k3:g.Kind=3
 case neg=>
  refine walk ?_;refine fin0 ?_;exact ⟨_,m,nilS,nilS,[],[],rfl,h00,SlB.nil,SlB.nil,.other hf k1 k3,rfl⟩
 have fk4:fits (4:Int):=by unfold fits;omega
 refine walk ?_;refine qI_ rfl rfl (Ze_ rfl rfl rfl fun b9=>?_);refine walk ?_
 refine qcj_ (σ:=(Option Addr×Nat)×List RD×Heap) (fun u=>H.le u.2.2∧SlB zp_ 4 32 u.2.2 (.slice u.1.1 u.2.1.length u.1.2) u.2.1∧((∃q∈m.T.Prep,q.Txn=g.Txn∧g.Yes=true∧u.2.1=putL ⟨g.Txn,ZB_ 0 q.Work.ks⟩ m.Done)∨((zbM_ m g.Txn→g.Yes=false)∧u.2.1=m.Done)))
  (fun _=>[(2,.pointer (some ⟨p3,0,none⟩)),(3,.pointer (some ⟨p4,0,none⟩)),(4,.pointer (some ⟨p5,0,none⟩)),(9,.slice (some ⟨b9,0,none⟩) 1 1)]) (fun u=>u.2.2)
  (fun u=>row b9 106 (Qaq_ m g 4 false)::row p5 129 [I 0,nilS,nilS,nilS]::row p4 106 (g.cv (.slice b5 g.Work.Take.length c5) (.slice b6 g.Work.Drop.length c6) (.slice b7 g.Call.Route.Cells.length c7) (.slice b8 g.Reply.Route.Cells.length c8))::row p3 129 [I m.Shard,.slice b1 m.T.Held.length c1,.slice b2 m.T.Prep.length c2,.slice u.1.1 u.2.1.length u.1.2]::R) (fun K hK=>?_) (fun ⟨⟨d1,e1'⟩,D,HK⟩ ⟨hlK,hsD,hD⟩=>?_)
 ·refine Za_ rfl rfl (zaO_ (x:=g.Txn) hT0) fun r2 H2 B hl2 ⟨hat,eB,eH⟩=>?_;subst eB eH;rcases hat with ⟨rfl,hno⟩ | ⟨j0,hj0,rfl,hj⟩
  ·refine walk ?_;refine qL_ hK ((b3,c3),m.Done,H2) ⟨.refl _,hs3,.inr ⟨fun ⟨q,hq,hx⟩=>absurd hx (hno q hq),rfl⟩⟩
  ·have hge:(0:Int)≤(j0:Int):=by omega
   refine walk ?_;refine QI_ rfl Iff.rfl (fun hy=>?_) (fun hy=>?_)
   rotate_left
   ·refine walk ?_;refine qL_ hK ((b3,c3),m.Done,H2) ⟨.refl _,hs3,.inr ⟨fun _=>by simpa using hy,rfl⟩⟩
   refine zc_ 14 [row p3 129 (m.cv (.slice b1 m.T.Held.length c1) (.slice b2 m.T.Prep.length c2) (.slice b3 m.Done.length c3)),row p4 106 (g.cv (.slice b5 g.Work.Take.length c5) (.slice b6 g.Work.Drop.length c6) (.slice b7 g.Call.Route.Cells.length c7) (.slice b8 g.Reply.Route.Cells.length c8))] ?_;refine qa_ 0 ?_;refine qa_ 1 ?_;refine qa_ 2 ?_;refine qa_ 3 ?_;refine qa_ 4 ?_;refine qa_ 5 ?_;refine qa_ 6 ?_;refine qa_ 7 ?_;refine Qf_ 8 rfl rfl rfl hs2.1 hj0 fun b o cc hr hc=>?_;obtain ⟨u1,u2,u3,rfl,g1,g2,g3,g4,g5,g6,g7,g8⟩:=hc;have hrt:=zaA_ hr;obtain ⟨wr,wt,wd,hy2⟩:∃a b c,m.T.Prep[j0].Work=⟨a,b,c⟩:=⟨_,_,_,rfl⟩;have h80j:=h80 _ (List.getElem_mem hj0);rw [hy2] at hrt g5 g6 g7 h80j;obtain ⟨v1,e1'',rfl,_,_⟩:=g6.1.shape;obtain ⟨v2,e2'',rfl,_,_⟩:=g7.1.shape;change HRow H2 b (o+4) [I wr,.slice v1 wt.length e1'',.slice v2 wd.length e2''] at hrt;refine qa_ 9 ?_;refine Zl_ 10 rfl rfl rfl hrt rfl ?_;refine ze_ 11 rfl rfl rfl (zcf_ (w:=⟨wr,wt,wd⟩) (cw:=[I wr,.slice v1 wt.length e1'',.slice v2 wd.length e2'']) ⟨_,_,rfl,g5,g6,g7⟩ (by simp only [zb_];omega)) fun r3 H3 B hl3 ⟨er,eB⟩=>?_;subst er eB;refine ⟨subA,?_⟩;refine qa_ 12 ?_;have hfu:fits (ZB_ 0 (⟨wr,wt,wd⟩:Work).ks):=zau_ Zg_;refine ze_ 13 rfl rfl rfl (Zdk_ (d:=⟨g.Txn,ZB_ 0 (⟨wr,wt,wd⟩:Work).ks⟩) (hs3.mono hl3) ⟨hxm.1,hxm.2.1,hxm.2.2,hfu⟩ (by omega)) fun r4 H4 B hl4 ⟨eB,eH⟩=>?_;subst eB eH;refine ⟨subA,?_⟩;refine qb_ rfl ?_;refine Zd_ r4 fun H5 hl5 hsp=>?_;obtain ⟨pb,pc,rfl,_,_⟩:=hsp.1.shape;refine walk ?_;refine qL_ hK ((pb,pc),putL ⟨g.Txn,ZB_ 0 (⟨wr,wt,wd⟩:Work).ks⟩ m.Done,H5) ⟨hl3.trans hl5,hsp,.inl ⟨_,List.getElem_mem hj0,hj,hy,by rw [hy2]⟩⟩
 simp only at hlK hsD hD;dsimp only;refine walk ?_;refine Za_ rfl rfl (Qcc_ (x:=g.Txn) (yes:=g.Yes) (RdOk.mono (R:=QJ_) hlK hT0) h80 (by omega) (by omega)) fun r3 H3 B hl3 ⟨cs3,t',e,er,hcs3,hra,eB⟩=>?_;subst er eB;obtain ⟨q1,q2,rfl,hq1,hq2⟩:=hcs3;obtain ⟨qb1,qc1,rfl,_,_⟩:=hq1.1.shape;obtain ⟨qb2,qc2,rfl,_,_⟩:=hq2.1.shape;have hl03:=hlK.trans hl3;refine walk ?_;refine Qe_ rfl (fun he=>?_) (fun he=>?_)
 ·refine walk ?_;refine QaL_ (L':=ownS Qa_ 19 216 106 H3 (.slice (some ⟨b9,0,none⟩) 1 1) [ackR m g]::row p5 129 [I m.Shard,.slice qb1 t'.Held.length qc1,.slice qb2 t'.Prep.length qc2,.slice d1 D.length e1']::R) (Sub.trans (B:=row b9 106 (Qaq_ m g 4 false)::row p5 129 [I m.Shard,.slice qb1 t'.Held.length qc1,.slice qb2 t'.Prep.length qc2,.slice d1 D.length e1']::R) subA (own1 (x:=ackR m g) (zbb_ hsh f1 fk4 hxm) c216)) ?_;refine qg_ (.slice (some ⟨b9,0,none⟩) 1 1) fun H9 hl9 hsl=>?_;refine fin0 ?_;refine ⟨[I m.Shard,.slice qb1 t'.Held.length qc1,.slice qb2 t'.Prep.length qc2,.slice d1 D.length e1'],⟨m.Shard,t',D⟩,.slice (some ⟨b9,0,none⟩) 1 1,nilS,[ackR m g],[],rfl,⟨_,_,_,rfl,hsh,hq1.mono hl9,hq2.mono hl9,hsD.mono (hl3.trans hl9)⟩,hsl,SlB.nil,?_,rfl⟩;have h:=RHear.ack (m:=m) hf k3 t' e D hra hD;rw [if_neg he] at h;exact h
 ·obtain rfl:e=0:=by omega
  have hra':=RHear.ack (m:=m) hf k3 t' 0 D hra hD;rw [if_pos rfl] at hra';refine walk ?_;refine zc_ 10 [row p3 129 [I m.Shard,.slice qb1 t'.Held.length qc1,.slice qb2 t'.Prep.length qc2,.slice d1 D.length e1'],row p4 106 (g.cv (.slice b5 g.Work.Take.length c5) (.slice b6 g.Work.Drop.length c6) (.slice b7 g.Call.Route.Cells.length c7) (.slice b8 g.Reply.Route.Cells.length c8))] ?_;refine qa_ 0 ?_;refine qa_ 1 ?_;refine qa_ 2 ?_;refine qa_ 3 ?_;refine qa_ 4 ?_;refine qa_ 5 ?_;refine qa_ 6 ?_;refine ZbC_ 7 8 rfl rfl (Ze_ rfl rfl rfl fun b10=>⟨.refl _,subA,?_⟩) rfl rfl rfl (by simp) rfl ⟨subA,?_⟩
  ·refine Zi_ 8 rfl rfl rfl rfl (by simp) rfl ⟨subA,?_⟩;refine qa_ 9 ?_;exact v16_
  ·refine qa_ 9 ?_;refine Zt_ 7 rfl (Ze_ rfl rfl rfl fun b10=>⟨.refl _,subA,?_⟩);exact v16_
end Go.Proofs.YtlflbkpmfhhikaaGreatDoor
