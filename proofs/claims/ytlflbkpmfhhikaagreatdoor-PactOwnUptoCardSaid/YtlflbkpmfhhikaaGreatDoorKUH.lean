/- The reference's coordinator: Hear. -/
import Derived.Test.YtlflbkpmfhhikaaGreatDoorKTP
import Derived.Test.YtlflbkpmfhhikaaGreatDoorKTX
import Derived.Test.YtlflbkpmfhhikaaGreatDoorKUG
set_option maxHeartbeats 16000000
set_option maxRecDepth 100000
set_option linter.unusedVariables false
set_option linter.unusedSimpArgs false
namespace Go.Proofs.YtlflbkpmfhhikaaGreatDoor
open Go Go.Sx Go.Proofs
def ZdM_ (m:Coord) (g:Message) (r:Value) (H':Heap) (B:List za_):Prop:=
  ∃c' m' v1 v2 v3 out rec oc,r= .tuple #[.agg c'.toArray,v1,v2,v3]∧qu_ H' c' m'∧SlB Qa_ 19 216 H' v1 out∧SlB rRec 9 120 H' v2 rec∧SlB rO16 5 32 H' v3 oc∧RCHear m g m' out rec oc∧B=[]
theorem Qdb_ {l:List RTx} (hr:l.Pairwise fun a b=>ltK a.X.k b.X.k) {u t:RTx} (hu:u∈l) (ht:t∈l) (he:u.X=t.X):u=t:=by
 exact v41_
def HU (ps:List Int) (hd:List Bool) (p:Int) (k:Nat) (part:Int) (all:Bool):Prop:=
  ((part= -1∧∀i (h:i<ps.length),i<k→ps[i]≠p)∨∃i,∃h:i<ps.length,i<k∧part=(i:Int)∧ps[i]=p)∧(all=true↔∀i (h:i<ps.length),i<k→ps[i]≠p→hd[i]?.getD false=true)
theorem HU.start {ps:List Int} {hd:List Bool} {p:Int}:HU ps hd p 0 (-1) true:=⟨.inl ⟨rfl,fun i _ h=>by omega⟩,⟨fun _ i _ h=>by omega,fun _=>rfl⟩⟩
theorem HU.yes {ps:List Int} {hd:List Bool} {p:Int} {k:Nat} {part:Int} {all:Bool} (h:HU ps hd p k part all) (hk:k<ps.length) (hp:ps[k]=p):HU ps hd p (k+1) (k:Int) all:=by
 refine ⟨.inr ⟨k,hk,by omega,rfl,hp⟩,?_⟩;rw [h.2];constructor
 ·intro h1 i hi hik hne;by_cases e:i=k
  ·subst e;exact absurd hp hne
  ·exact h1 i hi (by omega) hne
 ·intro h1 i hi hik hne;exact h1 i hi (by omega) hne
theorem HU.no {ps:List Int} {hd:List Bool} {p:Int} {k:Nat} {part:Int} {all all':Bool} (h:HU ps hd p k part all) (hk:k<ps.length) (hp:¬ps[k]=p) (ha:all'=true↔all=true∧hd[k]?.getD false=true):HU ps hd p (k+1) part all':=by
 refine ⟨?_,?_⟩
 ·rcases h.1 with ⟨e,h1⟩ | ⟨i,hi,hik,e,h1⟩
  ·refine .inl ⟨e,fun i hi hik=>?_⟩;by_cases e2:i=k
   ·subst e2;exact hp
   ·exact h1 i hi (by omega)
  ·exact .inr ⟨i,hi,by omega,e,h1⟩
 ·rw [ha,h.2];constructor
  ·rintro ⟨h1,h2⟩ i hi hik hne;by_cases e:i=k
   ·subst e;exact h2
   ·exact h1 i hi (by omega) hne
  ·intro h1;exact ⟨fun i hi hik hne=>h1 i hi (by omega) hne,h1 k hk (by omega) hp⟩
theorem v0_ {P:Prop} (h:P:=by
 refine qb_ rfl ?_;refine walk ?_;refine QaL_ (L':=ownS rO16 5 32 216 H3 (.slice (some ⟨b13,0,none⟩) 1 1) [ocR ⟨x1,x2,x3⟩ true false]::row b9 53 [I 4,I x1,I x2,I x3,I 0,nilS,nilS,.bool false,.slice e1 ps.length d1]::ownS Qa_ 19 216 106 H3 r3 (againR m.Node (qF_ ⟨⟨x1,x2,x3⟩,false,bg,ps,wk,hd⟩) ps.length)::row p4 132 [I m.Node,I m.Life,I m.Count,.slice bq (putR (qF_ ⟨⟨x1,x2,x3⟩,false,bg,ps,wk,hd⟩) m.Txns).length cq]::R) ?_ ?_
 ·refine Sub.trans ?_ (own1 (x:=ocR ⟨x1,x2,x3⟩ true false) ⟨rfl,q1,q2,q3⟩ c32);exact subA
 refine qg_ (.slice (some ⟨b13,0,none⟩) 1 1) fun H7 hl7 hso=>?_;refine qg_ r3 fun H8 hl8 hsm=>?_;refine QaL_ (L':=ownS rRec 9 120 53 H8 (.slice (some ⟨b9,0,none⟩) 1 1) [recC ⟨x1,x2,x3⟩ ps]::row p4 132 [I m.Node,I m.Life,I m.Count,.slice bq (putR (qF_ ⟨⟨x1,x2,x3⟩,false,bg,ps,wk,hd⟩) m.Txns).length cq]::R) ?_ ?_
 ·refine Sub.trans ?_ (own1 (x:=recC ⟨x1,x2,x3⟩ ps) (zan_ ⟨q1,q2,q3⟩ (q5.mono (hl3.trans (hl7.trans hl8)))) c120);exact subA
 refine qg_ (.slice (some ⟨b9,0,none⟩) 1 1) fun H9 hl9 hsr=>?_;refine fin0 ?_;exact ⟨_,{m with Txns:=putR (qF_ ⟨⟨x1,x2,x3⟩,false,bg,ps,wk,hd⟩) m.Txns},_,_,_,_,_,_,rfl,⟨_,rfl,f1,f2,f3,hsp.mono (hl7.trans (hl8.trans hl9))⟩,hsm.mono hl9,hsr,hso.mono (hl8.trans hl9),hct,rfl⟩):P:=h
theorem v104_ {P:Prop} (h:P:=by
 skip
 refine zo_ 3 rfl rfl (Qy_ (W0:=W0) (H:=H3) (m:=⟨m.Node,m.Life,m.Count,putR (qF_ ⟨⟨x1,x2,x3⟩,false,bg,ps,wk,hd⟩) m.Txns⟩) (t:=qF_ ⟨⟨x1,x2,x3⟩,false,bg,ps,wk,hd⟩) ⟨_,rfl,f1,f2,f3,hsp⟩ hcO (by unfold qF_;simp) (fun h=>by cases h) okn) fun r3 H6 B hl6 ⟨eB,eH⟩=>?_;subst eB;obtain rfl:H3=H6:=eH.symm;clear hl6 eH;refine ⟨subA,?_⟩;exact v131_):P:=h
theorem v105_ {P:Prop} (h:P:=by
 refine Zi_ 12 rfl rfl rfl rfl (by simp) rfl ⟨subA,?_⟩;refine qa_ 13 ?_;refine qa_ 14 ?_;exact v1_):P:=h
theorem v106_ {P:Prop} (h:P:=by
 refine zo_ 6 rfl rfl (Qbt_ (W0:=W0) (H:=H3) (m:=m) (t:=⟨⟨x1,x2,x3⟩,false,bg,ps,wk,hd⟩) (c:=m.cv (.slice b1 m.Txns.length c1)) ⟨_,rfl,f1,f2,f3,hs1.mono hl3⟩ (hcT hl3) okn) fun r6 H6 B hl6 ⟨eB,eH⟩=>?_;subst eB;obtain rfl:H3=H6:=eH.symm;clear hl6 eH;refine ⟨subA,?_⟩;exact v130_):P:=h
theorem v109_ {P:Prop} (h:P:=by
 skip
 exact v131_):P:=h
theorem v10_ {P:Prop} (h:P:=by
 refine qb_ rfl ?_;refine walk ?_;refine QaL_ (L':=ownS rO16 5 32 216 H3 (.slice (some ⟨b10,0,none⟩) 1 1) [ocR ⟨x1,x2,x3⟩ false false]::ownS Qa_ 19 216 106 H3 r6 (noR m.Node ⟨⟨x1,x2,x3⟩,false,bg,ps,wk,hd⟩)::row p4 132 [I m.Node,I m.Life,I m.Count,.slice bq (cutR ⟨x1,x2,x3⟩ m.Txns).length cq]::R) ?_ ?_
 ·refine Sub.trans ?_ (own1 (x:=ocR ⟨x1,x2,x3⟩ false false) ⟨rfl,q1,q2,q3⟩ c32);exact subA
 refine qg_ (.slice (some ⟨b10,0,none⟩) 1 1) fun H7 hl7 hso=>?_;refine qg_ r6 fun H8 hl8 hsm=>?_;refine fin0 ?_;exact ⟨_,{m with Txns:=cutR ⟨x1,x2,x3⟩ m.Txns},_,_,_,_,[],_,rfl,⟨_,rfl,f1,f2,f3,hs'.mono (hl7.trans hl8)⟩,hsm,SlB.nil,hso.mono hl8,hct,rfl⟩):P:=h
theorem v110_ {P:Prop} (h:P:=by
 refine qa_ 14 ?_;refine Zt_ 11 rfl (Ze_ rfl rfl rfl fun b11=>⟨(by first | exact Go.Sx.Heap.le.refl _ | exact hl3),subA,?_⟩);exact v1_):P:=h
theorem v111_ {P:Prop} (h:P:=by
 refine qa_ 16 ?_;refine Zt_ 13 rfl (Ze_ rfl rfl rfl fun b13=>⟨(by first | exact Go.Sx.Heap.le.refl _ | exact hl3),subA,?_⟩);exact v0_):P:=h
theorem v112_ {P:Prop} (h:P:=by
 refine Zt_ 7 rfl (Ze_ rfl rfl rfl fun b7=>⟨(by first | exact Go.Sx.Heap.le.refl _ | exact hl3),subA,?_⟩);refine qa_ 14 ?_;exact v1_):P:=h
theorem v113_ {P:Prop} (h:P:=by
 refine Zt_ 9 rfl (Ze_ rfl rfl rfl fun b9=>⟨(by first | exact Go.Sx.Heap.le.refl _ | exact hl3),subA,?_⟩);refine qa_ 16 ?_;exact v0_):P:=h
theorem v128_ {P:Prop} (h:P:=by
 skip
 refine zo_ 3 rfl rfl (qv_ (W0:=W0) (H:=H) (m:=m) (x:=⟨x1,x2,x3⟩) (c:=m.cv (.slice b1 m.Txns.length c1)) ⟨_,rfl,f1,f2,f3,hs1⟩ (by omega)) fun r3 H3 B hl3 ⟨c',er,hc',eB⟩=>?_;subst er eB;obtain ⟨s',rfl,_,_,_,hs'⟩:=hc';obtain ⟨bq,cq,rfl,_,_⟩:=hs'.1.shape;refine ⟨subA,?_⟩;exact v105_):P:=h
theorem v130_ {P:Prop} (h:P:=by
 refine Zi_ 11 rfl rfl rfl rfl (by simp) rfl ⟨subA,?_⟩;refine qa_ 12 ?_;refine qa_ 13 ?_;exact v10_):P:=h
theorem v131_ {P:Prop} (h:P:=by
 refine Zi_ 14 rfl rfl rfl rfl (by simp) rfl ⟨subA,?_⟩;refine qa_ 15 ?_;refine qa_ 16 ?_;exact v0_):P:=h
theorem v1_ {P:Prop} (h:P:=by
 refine qb_ rfl ?_;refine walk ?_;refine QaL_ (L':=ownS rO16 5 32 216 H3 (.slice (some ⟨b11,0,none⟩) 1 1) [ocR ⟨x1,x2,x3⟩ true true]::row b7 53 [I 5,I x1,I x2,I x3,I 0,nilS,nilS,.bool false,nilS]::row p4 132 [I m.Node,I m.Life,I m.Count,.slice bq (cutR ⟨x1,x2,x3⟩ m.Txns).length cq]::R) ?_ ?_
 ·refine Sub.trans ?_ (own1 (x:=ocR ⟨x1,x2,x3⟩ true true) ⟨rfl,q1,q2,q3⟩ c32);exact subA
 refine qg_ (.slice (some ⟨b11,0,none⟩) 1 1) fun H7 hl7 hso=>?_;refine QaL_ (L':=ownS rRec 9 120 53 H7 (.slice (some ⟨b7,0,none⟩) 1 1) [recE ⟨x1,x2,x3⟩]::row p4 132 [I m.Node,I m.Life,I m.Count,.slice bq (cutR ⟨x1,x2,x3⟩ m.Txns).length cq]::R) ?_ ?_
 ·refine Sub.trans ?_ (own1 (x:=recE ⟨x1,x2,x3⟩) (qbj_ ⟨q1,q2,q3⟩) c120);exact subA
 refine qg_ (.slice (some ⟨b7,0,none⟩) 1 1) fun H8 hl8 hsr=>?_;refine fin0 ?_;exact ⟨_,{m with Txns:=cutR ⟨x1,x2,x3⟩ m.Txns},_,_,_,[],_,_,rfl,⟨_,rfl,f1,f2,f3,hs'.mono (hl7.trans hl8)⟩,SlB.nil,hsr,hso.mono hl8,hct,rfl⟩):P:=h
theorem v30_ {P:Prop} (h:P:=by
 refine qb_ rfl ?_;refine walk ?_;refine QaL_ (L':=ownS Qa_ 19 216 106 H (.slice (some ⟨b9,0,none⟩) 1 1) [decM m.Node g.Txn g.From false]::row p4 132 (m.cv (.slice b1 m.Txns.length c1))::R) ?_ ?_
 ·refine Sub.trans ?_ (own1 (x:=decM m.Node g.Txn g.From false) (QB_ f1 k1 hxg) c216);exact subA
 refine qg_ (.slice (some ⟨b9,0,none⟩) 1 1) fun H9 hl9 hsm=>?_;refine fin0 ?_;exact ⟨_,_,_,_,_,_,[],[],rfl,⟨_,rfl,f1,f2,f3,hs1.mono hl9⟩,hsm,SlB.nil,SlB.nil,(.ask hf k5 (fun t ht hx=>absurd hx (hno t ht)) false ⟨fun h=>(by cases h),fun ⟨t,ht,hx⟩=>absurd hx (hno t ht)⟩),rfl⟩):P:=h
theorem v31_ {P:Prop} (h:P:=by
 refine qb_ rfl ?_;refine walk ?_;refine QaL_ (L':=ownS Qa_ 19 216 106 H (.slice (some ⟨b9,0,none⟩) 1 1) [decM m.Node g.Txn g.From true]::row p4 132 (m.cv (.slice b1 m.Txns.length c1))::R) ?_ ?_
 ·refine Sub.trans ?_ (own1 (x:=decM m.Node g.Txn g.From true) (QB_ f1 k1 hxg) c216);exact subA
 refine qg_ (.slice (some ⟨b9,0,none⟩) 1 1) fun H9 hl9 hsm=>?_;refine fin0 ?_;exact ⟨_,_,_,_,_,_,[],[],rfl,⟨_,rfl,f1,f2,f3,hs1.mono hl9⟩,hsm,SlB.nil,SlB.nil,(.ask hf k5 (fun t ht he=>by rw [huq t ht he]) true ⟨fun _=>⟨_,hjm,hx⟩,fun _=>rfl⟩),rfl⟩):P:=h
theorem v76_ {P:Prop} (h:P:=by
 refine walk ?_;refine fin0 ?_;exact ⟨_,_,_,_,_,[],[],[],rfl,⟨_,rfl,f1,f2,f3,hs1⟩,SlB.nil,SlB.nil,SlB.nil,(.off hf),rfl⟩):P:=h
theorem ZbY_ {W0:World} {H:Heap} {c cm:List Value} {m:Coord} {g:Message} (h0:qu_ H c m) (hm:Qa_ H cm g) (hok:Qdw_ m.Txns) (hri:m.Txns.Pairwise fun a b=>ltK a.X.k b.X.k) (hn:m.Txns.length≤1000):
  Ct Tryz.prog 92 #[.agg c.toArray,.agg cm.toArray] W0 H [] (fun r H' B=>ZdM_ m g r H' B):=by
 refine Ct.go (vs:=[.agg c.toArray,.agg cm.toArray]) fun R=>?_;obtain ⟨s1,rfl,f1,f2,f3,hs1⟩:=h0;obtain ⟨b1,c1,rfl,hc1,hd1⟩:=hs1.1.shape;obtain ⟨t1,t2,t3,t4,rfl,k1,k2,k3,k4,k5',k6,k7,j1,j2,k8,k9,k10,k11,j3,k12,k13,k14,j4⟩:=hm;obtain ⟨mb1,mc1,rfl,_,_⟩:=j1.1.shape;obtain ⟨mb2,mc2,rfl,_,_⟩:=j2.1.shape;obtain ⟨mb3,mc3,rfl,_,_⟩:=j3.1.shape;obtain ⟨mb4,mc4,rfl,_,_⟩:=j4.1.shape;have hxg:fits g.Txn.Node∧fits g.Txn.Life∧fits g.Txn.Count:=⟨k4,k5',k6⟩;refine walk ?_;refine qc_ rfl rfl fun p2 _=>?_;refine qc_ rfl rfl fun p3 _=>?_;refine Qb_ rfl fun p4 _=>?_;by_cases hf:zaL_ m g
 case neg=>
  by_cases e1:g.To=m.Node
  ·have e2:¬g.Txn.Node=m.Node:=fun e=>hf ⟨e1,e⟩;exact v76_
  ·skip
   exact v76_
 obtain ⟨e1,e2⟩:=id hf;refine walk ?_;refine Za_ rfl rfl (zdc_ (x:=g.Txn) (m:=m) (c:=m.cv (.slice b1 m.Txns.length c1)) ⟨_,rfl,f1,f2,f3,hs1⟩) fun r7 H7 B hl7 ⟨hr7,eB,eH⟩=>?_;subst eB;obtain rfl:H=H7:=eH.symm;clear hl7 eH;rcases hr7 with ⟨rfl,hno⟩ | ⟨j,hj,rfl,hx⟩
 ·by_cases k5:g.Kind=5
  ·skip
   refine walk ?_;refine zc_ 12 [row p2 132 (m.cv (.slice b1 m.Txns.length c1)),row p3 106 (g.cv (.slice mb1 g.Work.Take.length mc1) (.slice mb2 g.Work.Drop.length mc2) (.slice mb3 g.Call.Route.Cells.length mc3) (.slice mb4 g.Reply.Route.Cells.length mc4))] ?_;refine qa_ 0 ?_;refine qa_ 1 ?_;refine qa_ 2 ?_;refine qa_ 3 ?_;refine qa_ 4 ?_;refine qa_ 5 ?_;refine qa_ 6 ?_;refine qa_ 7 ?_;refine qa_ 8 ?_;refine qa_ 9 ?_;refine ZbC_ 10 11 rfl rfl (Ze_ rfl rfl rfl fun b9=>⟨.refl _,subA,?_⟩) rfl rfl rfl (by simp) rfl ⟨subA,?_⟩
   ·refine Zi_ 11 rfl rfl rfl rfl (by simp) rfl ⟨subA,?_⟩;exact v30_
   ·refine Zt_ 10 rfl (Ze_ rfl rfl rfl fun b9=>⟨.refl _,subA,?_⟩);exact v30_
  ·skip
   refine walk ?_;refine fin0 ?_;exact ⟨_,_,_,_,_,[],[],[],rfl,⟨_,rfl,f1,f2,f3,hs1⟩,SlB.nil,SlB.nil,SlB.nil,(.none hf k5 hno),rfl⟩
 have hj0:(0:Int)≤(j:Int):=by omega
 have hjn:¬(j:Int)<0:=by omega
 have hjm:m.Txns[j]∈m.Txns:=List.getElem_mem hj;obtain ⟨okh,okw,okn⟩:=hok m.Txns[j] hjm;have huq:∀t∈m.Txns,t.X=g.Txn→t=m.Txns[j]:=fun t ht he=>Qdb_ hri ht hjm (by rw [he,hx]);obtain ⟨t,htj⟩:∃t,m.Txns[j]=t:=⟨_,rfl⟩;rw [htj] at hjm okh okw okn huq hx;obtain ⟨⟨x1,x2,x3⟩,op,bg,ps,wk,hd⟩:=t;by_cases k5:g.Kind=5
 ·refine walk ?_;refine qe_ rfl rfl hs1.1 hj fun b o cc hr hc=>?_;rw [htj] at hc;obtain ⟨u1,u2,u3,rfl,_⟩:=hc;change HRow H b o [I x1,I x2,I x3,.bool op,I bg,u1,u2,u3] at hr
  cases op with
  | false=>
   refine walk ?_;refine walk ?_;refine fin0 ?_;exact ⟨_,_,_,_,_,[],[],[],rfl,⟨_,rfl,f1,f2,f3,hs1⟩,SlB.nil,SlB.nil,SlB.nil,(.askNo hf k5 _ hjm hx rfl),rfl⟩
  | true=>
   refine walk ?_;refine walk ?_;refine zc_ 12 [row p2 132 (m.cv (.slice b1 m.Txns.length c1)),row p3 106 (g.cv (.slice mb1 g.Work.Take.length mc1) (.slice mb2 g.Work.Drop.length mc2) (.slice mb3 g.Call.Route.Cells.length mc3) (.slice mb4 g.Reply.Route.Cells.length mc4))] ?_;refine qa_ 0 ?_;refine qa_ 1 ?_;refine qa_ 2 ?_;refine qa_ 3 ?_;refine qa_ 4 ?_;refine qa_ 5 ?_;refine qa_ 6 ?_;refine qa_ 7 ?_;refine qa_ 8 ?_;refine qa_ 9 ?_;refine ZbC_ 10 11 rfl rfl (Ze_ rfl rfl rfl fun b9=>⟨.refl _,subA,?_⟩) rfl rfl rfl (by simp) rfl ⟨subA,?_⟩
   ·refine Zi_ 11 rfl rfl rfl rfl (by simp) rfl ⟨subA,?_⟩;exact v31_
   ·refine Zt_ 10 rfl (Ze_ rfl rfl rfl fun b9=>⟨.refl _,subA,?_⟩);exact v31_
 refine walk ?_;refine qe_ rfl rfl hs1.1 hj fun b o cc hr hc=>?_;rw [htj] at hc;obtain ⟨u1,u2,u3,rfl,q1,q2,q3,q4,q5,q6,q7⟩:=hc;obtain ⟨e1,d1,rfl,he1,hd1'⟩:=q5.1.shape;obtain ⟨e2,d2,rfl,he2,hd2⟩:=q6.1.shape;obtain ⟨e3,d3,rfl,he3,hd3⟩:=q7.1.shape;change HRow H b o [I x1,I x2,I x3,.bool op,I bg,.slice e1 ps.length d1,.slice e2 wk.length d2,.slice e3 hd.length d3] at hr;have okh':hd.length=ps.length:=okh;have okn':ps.length≤1000000:=okn;have hx':(⟨x1,x2,x3⟩:Txn)=g.Txn:=hx;have hsl:SlR rInt 1 H (.slice e1 ps.length d1) ps:=q5.1;have hsh:SlR Zbd_ 1 H (.slice e3 hd.length d3) hd:=q7.1;refine walk ?_;refine zg_ rfl rfl hr rfl ?_;refine walk ?_;refine Qb_ rfl fun p9 _=>?_;refine walk ?_
 refine Qc_ (σ:=Nat×Int×Bool) (fun u=>u.1≤ps.length∧HU ps hd g.From u.1 u.2.1 u.2.2) (fun u=>[(2,.pointer (some ⟨p2,0,none⟩)),(3,.pointer (some ⟨p3,0,none⟩)),(4,.pointer (some ⟨p4,0,none⟩)),(5,nilS),(6,nilS),(7,nilS),(9,.pointer (some ⟨p9,0,none⟩)),(10,I u.2.1),(11,.bool u.2.2),(12,I u.1)]) (fun _=>H)
  (fun u=>row p9 150 [I x1,I x2,I x3,.bool op,I bg,.slice e1 ps.length d1,.slice e2 wk.length d2,.slice e3 hd.length d3]::row p4 132 [I 0,I 0,I 0,nilS]::row p3 106 (g.cv (.slice mb1 g.Work.Take.length mc1) (.slice mb2 g.Work.Drop.length mc2) (.slice mb3 g.Call.Route.Cells.length mc3) (.slice mb4 g.Reply.Route.Cells.length mc4))::row p2 132 (m.cv (.slice b1 m.Txns.length c1))::R) (fun u=>ps.length - u.1) (0, -1,true) ⟨Nat.zero_le _,HU.start⟩ fun ⟨k,part,all⟩ ⟨hk0,hu⟩ K hL=>?_
 simp only at hk0 hu;dsimp only;refine walk ?_;refine Qe_ rfl (fun hk=>?_) (fun hk=>?_)
 ·have hk1:k<ps.length:=by omega
  have hk2:k<hd.length:=by omega
  have hge:hd[k]?.getD false=hd[k]:=by rw [List.getElem?_eq_getElem hk2];rfl
  refine walk ?_;refine Qe_ rfl (fun he=>?_) (fun he=>?_)
  ·have hnu:=hu.yes hk1 he;refine walk ?_;exact Zb_ hL (k+1,(k:Int),all) ⟨by simp only;omega,hnu⟩
  ·cases all with
   | false=>
    have hnu:=hu.no (all':=false) hk1 he (by simp);refine walk ?_;exact Zb_ hL (k+1,part,false) ⟨by simp only;omega,hnu⟩
   | true=>
    have hnu:=hu.no (all':=hd[k]) hk1 he (by simp [hge]);refine walk ?_;exact Zb_ hL (k+1,part,hd[k]) ⟨by simp only;omega,hnu⟩
 clear hL;obtain rfl:k=ps.length:=by omega
 have hcT:∀{H':Heap},H.le H'→rC16 H' [I x1,I x2,I x3,.bool op,I bg,.slice e1 ps.length d1,.slice e2 wk.length d2,.slice e3 hd.length d3] ⟨⟨x1,x2,x3⟩,op,bg,ps,wk,hd⟩:=fun h=>⟨_,_,_,rfl,q1,q2,q3,q4,q5.mono h,q6.mono h,q7.mono h⟩;rcases hu.1 with ⟨rfl,hno⟩ | ⟨i,hi,_,rfl,hpi⟩
 ·have hpn:g.From∉ps:=fun h=>by
   obtain ⟨i,hi,e⟩:=List.getElem_of_mem h;exact hno i hi hi e
  refine walk ?_;refine walk ?_;refine fin0 ?_;exact ⟨_,_,_,_,_,[],[],[],rfl,⟨_,rfl,f1,f2,f3,hs1⟩,SlB.nil,SlB.nil,SlB.nil,(.nopart hf k5 _ hjm hx (.inl hpn)),rfl⟩
 have hin:¬(i:Int)<0:=by omega
 have hin0:(0:Int)≤(i:Int):=by omega
 have hpm:g.From∈ps:=by rw [←hpi];exact List.getElem_mem hi
 cases op with
 | true=>
  by_cases k4:g.Kind=4
  ·refine walk ?_;refine QU_ (w:=1) Zbd_ rfl fun b5=>?_;refine walk ?_;refine Qq_ rfl rfl hsh (by simp only [zb_,List.length_nil];omega) fun d5 c5=>?_;rw [List.nil_append,List.length_nil,Nat.zero_add];refine walk ?_;refine Qat_ (y':=true) rfl rfl rfl rfl (show i<hd.length by omega) ?_;refine walk ?_
   cases all with
   | false=>
    have hna:¬zZ_ ⟨⟨x1,x2,x3⟩,true,bg,ps,wk,hd⟩ g.From:=fun h=>by
     have:=hu.2.2 fun i hi _ hne=>h i hi hne
     cases this
    refine QI_ rfl (show (!false)=true↔True by simp) (fun _=>?_) (fun h=>absurd trivial h);refine walk ?_;refine Zd_ (.slice d5 hd.length c5) fun H6 hl6 hsd=>?_;have hrt:rC16 H6 [I x1,I x2,I x3,.bool true,I bg,.slice e1 ps.length d1,.slice e2 wk.length d2,.slice d5 hd.length c5] (qbl_ ⟨⟨x1,x2,x3⟩,true,bg,ps,wk,hd⟩ i):=⟨_,_,_,rfl,q1,q2,q3,q4,q5.mono hl6,q6.mono hl6,hsd⟩;refine Za_ rfl rfl (qan_ (W0:=W0) (H:=H6) (t:=qbl_ ⟨⟨x1,x2,x3⟩,true,bg,ps,wk,hd⟩ i) (l:=m.Txns) (hs1.mono hl6) hrt (by omega)) fun r7 H7 B hl7 ⟨eB,eH⟩=>?_;subst eB eH;refine Zd_ r7 fun H8 hl8 hsp=>?_;obtain ⟨bp,cp,rfl,_,_⟩:=hsp.1.shape;refine walk ?_;refine fin0 ?_;exact ⟨_,{m with Txns:=putR (qbl_ ⟨⟨x1,x2,x3⟩,true,bg,ps,wk,hd⟩ i) m.Txns},_,_,_,[],[],[],rfl,⟨_,rfl,f1,f2,f3,hsp⟩,SlB.nil,SlB.nil,SlB.nil,.some hf _ hjm hx (.inl ⟨rfl,k4⟩) i hi hpi hna,rfl⟩
   | true=>
    have hall:zZ_ ⟨⟨x1,x2,x3⟩,true,bg,ps,wk,hd⟩ g.From:=fun i hi hne=>hu.2.1 rfl i hi hi hne;refine QI_ rfl (show (!true)=true↔False by simp) (fun h=>h.elim) (fun _=>?_);refine walk ?_;have hct:RCHear m g {m with Txns:=cutR g.Txn m.Txns} [] [recE g.Txn] [ocR g.Txn true true]:= .over hf _ hjm hx rfl k4 hpm hall;rw [←hx'] at hct;refine zc_ 15 [row p9 150 [I x1,I x2,I x3,.bool true,I bg,.slice e1 ps.length d1,.slice e2 wk.length d2,.slice d5 hd.length c5],row p2 132 (m.cv (.slice b1 m.Txns.length c1))] ?_;refine qa_ 0 ?_;refine qa_ 1 ?_;refine qa_ 2 ?_;refine qa_ 4 ?_;refine qa_ 5 ?_;refine qa_ 8 ?_;refine qa_ 9 ?_;refine zaa_ 6 rfl rfl rfl ?_;refine zaa_ 10 rfl rfl rfl ?_;refine qcv_ 3 7 11 (zA_ 3 rfl rfl (qv_ (W0:=W0) (H:=H) (m:=m) (x:=⟨x1,x2,x3⟩) (c:=m.cv (.slice b1 m.Txns.length c1)) ⟨_,rfl,f1,f2,f3,hs1⟩ (by omega)) fun r3 H3 B hl3 ⟨c',er,hc',eB⟩=>?c7) (at_w 7 rfl (Ze_ rfl rfl rfl fun b7=>⟨(by first | exact Go.Sx.Heap.le.refl _ | exact hl3),subA,?c8⟩)) (at_w 11 rfl (Ze_ rfl rfl rfl fun b11=>⟨(by first | exact Go.Sx.Heap.le.refl _ | exact hl3),subA,?c9⟩))
    case c7=>
     subst er eB;obtain ⟨s',rfl,_,_,_,hs'⟩:=hc';obtain ⟨bq,cq,rfl,_,_⟩:=hs'.1.shape;refine ⟨subA,?_⟩;refine qcv_ 7 11 12 (at_w 7 rfl (Ze_ rfl rfl rfl fun b7=>⟨(by first | exact Go.Sx.Heap.le.refl _ | exact hl3),subA,?c10⟩)) (at_w 11 rfl (Ze_ rfl rfl rfl fun b11=>⟨(by first | exact Go.Sx.Heap.le.refl _ | exact hl3),subA,?c11⟩)) (at_s 12 rfl rfl rfl rfl (by simp) rfl ⟨subA,?c12⟩)
     case c10=>
      skip
      refine qG_ 11 12 (at_w 11 rfl (Ze_ rfl rfl rfl fun b11=>⟨(by first | exact Go.Sx.Heap.le.refl _ | exact hl3),subA,?c13⟩)) (at_s 12 rfl rfl rfl rfl (by simp) rfl ⟨subA,?c14⟩)
      case c13=>
       skip
       exact v105_
      case c14=>
       skip
       refine qa_ 13 ?_;exact v110_
     case c11=>
      skip
      refine qG_ 7 12 (at_w 7 rfl (Ze_ rfl rfl rfl fun b7=>⟨(by first | exact Go.Sx.Heap.le.refl _ | exact hl3),subA,?c15⟩)) (at_s 12 rfl rfl rfl rfl (by simp) rfl ⟨subA,?c16⟩)
      case c15=>
       skip
       exact v105_
      case c16=>
       skip
       refine qa_ 13 ?_;exact v112_
     case c12=>
      skip
      refine qa_ 13 ?_;refine qG_ 7 11 (at_w 7 rfl (Ze_ rfl rfl rfl fun b7=>⟨(by first | exact Go.Sx.Heap.le.refl _ | exact hl3),subA,?c17⟩)) (at_w 11 rfl (Ze_ rfl rfl rfl fun b11=>⟨(by first | exact Go.Sx.Heap.le.refl _ | exact hl3),subA,?c18⟩))
      case c17=>
       skip
       exact v110_
      case c18=>
       skip
       exact v112_
    case c8=>
     skip
     refine qG_ 3 11 (zA_ 3 rfl rfl (qv_ (W0:=W0) (H:=H) (m:=m) (x:=⟨x1,x2,x3⟩) (c:=m.cv (.slice b1 m.Txns.length c1)) ⟨_,rfl,f1,f2,f3,hs1⟩ (by omega)) fun r3 H3 B hl3 ⟨c',er,hc',eB⟩=>?c19) (at_w 11 rfl (Ze_ rfl rfl rfl fun b11=>⟨(by first | exact Go.Sx.Heap.le.refl _ | exact hl3),subA,?c20⟩))
     case c19=>
      subst er eB;obtain ⟨s',rfl,_,_,_,hs'⟩:=hc';obtain ⟨bq,cq,rfl,_,_⟩:=hs'.1.shape;refine ⟨subA,?_⟩;refine qG_ 11 12 (at_w 11 rfl (Ze_ rfl rfl rfl fun b11=>⟨(by first | exact Go.Sx.Heap.le.refl _ | exact hl3),subA,?c21⟩)) (at_s 12 rfl rfl rfl rfl (by simp) rfl ⟨subA,?c22⟩)
      case c21=>
       skip
       exact v105_
      case c22=>
       skip
       refine qa_ 13 ?_;exact v110_
     case c20=>
      exact v128_
    case c9=>
     skip
     refine qG_ 3 7 (zA_ 3 rfl rfl (qv_ (W0:=W0) (H:=H) (m:=m) (x:=⟨x1,x2,x3⟩) (c:=m.cv (.slice b1 m.Txns.length c1)) ⟨_,rfl,f1,f2,f3,hs1⟩ (by omega)) fun r3 H3 B hl3 ⟨c',er,hc',eB⟩=>?c23) (at_w 7 rfl (Ze_ rfl rfl rfl fun b7=>⟨(by first | exact Go.Sx.Heap.le.refl _ | exact hl3),subA,?c24⟩))
     case c23=>
      subst er eB;obtain ⟨s',rfl,_,_,_,hs'⟩:=hc';obtain ⟨bq,cq,rfl,_,_⟩:=hs'.1.shape;refine ⟨subA,?_⟩;refine qG_ 7 12 (at_w 7 rfl (Ze_ rfl rfl rfl fun b7=>⟨(by first | exact Go.Sx.Heap.le.refl _ | exact hl3),subA,?c25⟩)) (at_s 12 rfl rfl rfl rfl (by simp) rfl ⟨subA,?c26⟩)
      case c25=>
       skip
       exact v105_
      case c26=>
       skip
       refine qa_ 13 ?_;exact v112_
     case c24=>
      exact v128_
  ·refine walk ?_;refine walk ?_;refine fin0 ?_;exact ⟨_,_,_,_,_,[],[],[],rfl,⟨_,rfl,f1,f2,f3,hs1⟩,SlB.nil,SlB.nil,SlB.nil,(.nopart hf k5 _ hjm hx (.inr (.inl ⟨rfl,k4⟩))),rfl⟩
 | false=>
  by_cases k2:g.Kind=2
  ·refine walk ?_;refine QI_ rfl (show (!g.Yes)=true↔g.Yes=false by simp) (fun hy=>?_) (fun hy=>?_)
   ·skip
    have hct:RCHear m g {m with Txns:=cutR g.Txn m.Txns} (noR m.Node ⟨⟨x1,x2,x3⟩,false,bg,ps,wk,hd⟩) [] [ocR g.Txn false false]:= .against hf _ hjm hx k2 hpm rfl hy;rw [←hx'] at hct;refine walk ?_;refine zc_ 14 [row p9 150 [I x1,I x2,I x3,.bool false,I bg,.slice e1 ps.length d1,.slice e2 wk.length d2,.slice e3 hd.length d3],row p3 106 (g.cv (.slice mb1 g.Work.Take.length mc1) (.slice mb2 g.Work.Drop.length mc2) (.slice mb3 g.Call.Route.Cells.length mc3) (.slice mb4 g.Reply.Route.Cells.length mc4)),row p2 132 (m.cv (.slice b1 m.Txns.length c1))] ?_;refine qa_ 0 ?_;refine qa_ 1 ?_;refine qa_ 2 ?_;refine qa_ 4 ?_;refine qa_ 5 ?_;refine qa_ 7 ?_;refine qa_ 8 ?_;refine zaa_ 9 rfl rfl rfl ?_;refine qG_ 3 10 (zA_ 3 rfl rfl (qv_ (W0:=W0) (H:=H) (m:=m) (x:=⟨x1,x2,x3⟩) (c:=m.cv (.slice b1 m.Txns.length c1)) ⟨_,rfl,f1,f2,f3,hs1⟩ (by omega)) fun r3 H3 B hl3 ⟨c',er,hc',eB⟩=>?c1) (at_w 10 rfl (Ze_ rfl rfl rfl fun b10=>⟨(by first | exact Go.Sx.Heap.le.refl _ | exact hl3),subA,?c2⟩))
    case c1=>
     subst er eB;obtain ⟨s',rfl,_,_,_,hs'⟩:=hc';obtain ⟨bq,cq,rfl,_,_⟩:=hs'.1.shape;refine ⟨subA,?_⟩;refine qG_ 6 10 (zA_ 6 rfl rfl (Qbt_ (W0:=W0) (H:=H3) (m:=m) (t:=⟨⟨x1,x2,x3⟩,false,bg,ps,wk,hd⟩) (c:=m.cv (.slice b1 m.Txns.length c1)) ⟨_,rfl,f1,f2,f3,hs1.mono hl3⟩ (hcT hl3) okn) fun r6 H6 B hl6 ⟨eB,eH⟩=>?c3) (at_w 10 rfl (Ze_ rfl rfl rfl fun b10=>⟨(by first | exact Go.Sx.Heap.le.refl _ | exact hl3),subA,?c4⟩))
     case c3=>
      subst eB;obtain rfl:H3=H6:=eH.symm;clear hl6 eH;refine ⟨subA,?_⟩;refine qG_ 10 11 (at_w 10 rfl (Ze_ rfl rfl rfl fun b10=>⟨(by first | exact Go.Sx.Heap.le.refl _ | exact hl3),subA,?c5⟩)) (at_s 11 rfl rfl rfl rfl (by simp) rfl ⟨subA,?c6⟩)
      case c5=>
       skip
       exact v130_
      case c6=>
       skip
       refine qa_ 12 ?_;refine qa_ 13 ?_;refine Zt_ 10 rfl (Ze_ rfl rfl rfl fun b10=>⟨(by first | exact Go.Sx.Heap.le.refl _ | exact hl3),subA,?_⟩);exact v10_
     case c4=>
      skip
      exact v106_
    case c2=>
     skip
     refine zo_ 3 rfl rfl (qv_ (W0:=W0) (H:=H) (m:=m) (x:=⟨x1,x2,x3⟩) (c:=m.cv (.slice b1 m.Txns.length c1)) ⟨_,rfl,f1,f2,f3,hs1⟩ (by omega)) fun r3 H3 B hl3 ⟨c',er,hc',eB⟩=>?_;subst er eB;obtain ⟨s',rfl,_,_,_,hs'⟩:=hc';obtain ⟨bq,cq,rfl,_,_⟩:=hs'.1.shape;refine ⟨subA,?_⟩;exact v106_
   ·have hy:g.Yes=true:=by simpa using hy
    refine walk ?_;refine QU_ (w:=1) Zbd_ rfl fun b5=>?_;refine walk ?_;refine Qq_ rfl rfl hsh (by simp only [zb_,List.length_nil];omega) fun d5 c5=>?_;rw [List.nil_append,List.length_nil,Nat.zero_add];refine walk ?_;refine Qat_ (y':=true) rfl rfl rfl rfl (show i<hd.length by omega) ?_;refine walk ?_
    cases all with
    | false=>
     have hna:¬zZ_ ⟨⟨x1,x2,x3⟩,false,bg,ps,wk,hd⟩ g.From:=fun h=>by
      have:=hu.2.2 fun i hi _ hne=>h i hi hne
      cases this
     refine QI_ rfl (show (!false)=true↔True by simp) (fun _=>?_) (fun h=>absurd trivial h);refine walk ?_;refine Zd_ (.slice d5 hd.length c5) fun H6 hl6 hsd=>?_;have hrt:rC16 H6 [I x1,I x2,I x3,.bool false,I bg,.slice e1 ps.length d1,.slice e2 wk.length d2,.slice d5 hd.length c5] (qbl_ ⟨⟨x1,x2,x3⟩,false,bg,ps,wk,hd⟩ i):=⟨_,_,_,rfl,q1,q2,q3,q4,q5.mono hl6,q6.mono hl6,hsd⟩;refine Za_ rfl rfl (qan_ (W0:=W0) (H:=H6) (t:=qbl_ ⟨⟨x1,x2,x3⟩,false,bg,ps,wk,hd⟩ i) (l:=m.Txns) (hs1.mono hl6) hrt (by omega)) fun r7 H7 B hl7 ⟨eB,eH⟩=>?_;subst eB eH;refine Zd_ r7 fun H8 hl8 hsp=>?_;obtain ⟨bp,cp,rfl,_,_⟩:=hsp.1.shape;refine walk ?_;refine fin0 ?_;exact ⟨_,{m with Txns:=putR (qbl_ ⟨⟨x1,x2,x3⟩,false,bg,ps,wk,hd⟩ i) m.Txns},_,_,_,[],[],[],rfl,⟨_,rfl,f1,f2,f3,hsp⟩,SlB.nil,SlB.nil,SlB.nil,.some hf _ hjm hx (.inr ⟨rfl,k2,hy⟩) i hi hpi hna,rfl⟩
    | true=>
     have hall:zZ_ ⟨⟨x1,x2,x3⟩,false,bg,ps,wk,hd⟩ g.From:=fun i hi hne=>hu.2.1 rfl i hi hi hne;have hct:RCHear m g {m with Txns:=putR (qF_ ⟨⟨x1,x2,x3⟩,false,bg,ps,wk,hd⟩) m.Txns} (againR m.Node (qF_ ⟨⟨x1,x2,x3⟩,false,bg,ps,wk,hd⟩) ps.length) [recC g.Txn ps] [ocR g.Txn true false]:= .opens hf _ hjm hx rfl k2 hy hpm hall;rw [←hx'] at hct;refine QI_ rfl (show (!true)=true↔False by simp) (fun h=>h.elim) (fun _=>?_);refine walk ?_;refine qI_ rfl rfl (Zea_ Zbd_ false ps.length rfl (by exact rfl) (by simp only [zb_];omega) (by simp only [zb_];omega) fun b31=>?_);refine walk ?_;refine Zd_ (.slice (some ⟨b31,0,none⟩) ps.length ps.length) fun H6 hl6 hsd=>?_;have hrt:rC16 H6 [I x1,I x2,I x3,.bool true,I bg,.slice e1 ps.length d1,.slice e2 wk.length d2,.slice (some ⟨b31,0,none⟩) ps.length ps.length] (qF_ ⟨⟨x1,x2,x3⟩,false,bg,ps,wk,hd⟩):=⟨_,_,_,rfl,q1,q2,q3,q4,q5.mono hl6,q6.mono hl6,hsd⟩;refine Za_ rfl rfl (qan_ (W0:=W0) (H:=H6) (t:=qF_ ⟨⟨x1,x2,x3⟩,false,bg,ps,wk,hd⟩) (l:=m.Txns) (hs1.mono hl6) hrt (by omega)) fun r7 H7 B hl7 ⟨eB,eH⟩=>?_;subst eB eH;refine Zd_ r7 fun H3 hl8 hsp=>?_;obtain ⟨bq,cq,rfl,_,_⟩:=hsp.1.shape;have hl3:H.le H3:=by first | exact hl6.trans hl8 | exact hl6.trans (hl7.trans hl8)
     have hcO:rC16 H3 [I x1,I x2,I x3,.bool true,I bg,.slice e1 ps.length d1,.slice e2 wk.length d2,.slice (some ⟨b31,0,none⟩) ps.length ps.length] (qF_ ⟨⟨x1,x2,x3⟩,false,bg,ps,wk,hd⟩):=⟨_,_,_,rfl,q1,q2,q3,q4,q5.mono hl3,q6.mono hl3,hsd.mono hl8⟩;refine walk ?_;refine zc_ 17 [row p9 150 [I x1,I x2,I x3,.bool true,I bg,.slice e1 ps.length d1,.slice e2 wk.length d2,.slice (some ⟨b31,0,none⟩) ps.length ps.length],row p2 132 [I m.Node,I m.Life,I m.Count,.slice bq (putR (qF_ ⟨⟨x1,x2,x3⟩,false,bg,ps,wk,hd⟩) m.Txns).length cq]] ?_;refine qa_ 0 ?_;refine qa_ 1 ?_;refine qa_ 2 ?_;refine qa_ 4 ?_;refine qa_ 5 ?_;refine qa_ 6 ?_;refine qa_ 7 ?_;refine qa_ 10 ?_;refine qa_ 11 ?_;refine zaa_ 8 rfl rfl rfl ?_;refine zaa_ 12 rfl rfl rfl ?_;refine qcv_ 3 9 13 (zA_ 3 rfl rfl (Qy_ (W0:=W0) (H:=H3) (m:=⟨m.Node,m.Life,m.Count,putR (qF_ ⟨⟨x1,x2,x3⟩,false,bg,ps,wk,hd⟩) m.Txns⟩) (t:=qF_ ⟨⟨x1,x2,x3⟩,false,bg,ps,wk,hd⟩) ⟨_,rfl,f1,f2,f3,hsp⟩ hcO (by unfold qF_;simp) (fun h=>by cases h) okn) fun r3 H6 B hl6 ⟨eB,eH⟩=>?c27) (at_w 9 rfl (Ze_ rfl rfl rfl fun b9=>⟨(by first | exact Go.Sx.Heap.le.refl _ | exact hl3),subA,?c28⟩)) (at_w 13 rfl (Ze_ rfl rfl rfl fun b13=>⟨(by first | exact Go.Sx.Heap.le.refl _ | exact hl3),subA,?c29⟩))
     case c27=>
      subst eB;obtain rfl:H3=H6:=eH.symm;clear hl6 eH;refine ⟨subA,?_⟩;refine qcv_ 9 13 14 (at_w 9 rfl (Ze_ rfl rfl rfl fun b9=>⟨(by first | exact Go.Sx.Heap.le.refl _ | exact hl3),subA,?c30⟩)) (at_w 13 rfl (Ze_ rfl rfl rfl fun b13=>⟨(by first | exact Go.Sx.Heap.le.refl _ | exact hl3),subA,?c31⟩)) (at_s 14 rfl rfl rfl rfl (by simp) rfl ⟨subA,?c32⟩)
      case c30=>
       skip
       refine qG_ 13 14 (at_w 13 rfl (Ze_ rfl rfl rfl fun b13=>⟨(by first | exact Go.Sx.Heap.le.refl _ | exact hl3),subA,?c33⟩)) (at_s 14 rfl rfl rfl rfl (by simp) rfl ⟨subA,?c34⟩)
       case c33=>
        exact v109_
       case c34=>
        skip
        refine qa_ 15 ?_;exact v111_
      case c31=>
       skip
       refine qG_ 9 14 (at_w 9 rfl (Ze_ rfl rfl rfl fun b9=>⟨(by first | exact Go.Sx.Heap.le.refl _ | exact hl3),subA,?c35⟩)) (at_s 14 rfl rfl rfl rfl (by simp) rfl ⟨subA,?c36⟩)
       case c35=>
        exact v109_
       case c36=>
        skip
        refine qa_ 15 ?_;exact v113_
      case c32=>
       skip
       refine qa_ 15 ?_;refine qG_ 9 13 (at_w 9 rfl (Ze_ rfl rfl rfl fun b9=>⟨(by first | exact Go.Sx.Heap.le.refl _ | exact hl3),subA,?c37⟩)) (at_w 13 rfl (Ze_ rfl rfl rfl fun b13=>⟨(by first | exact Go.Sx.Heap.le.refl _ | exact hl3),subA,?c38⟩))
       case c37=>
        skip
        exact v111_
       case c38=>
        skip
        exact v113_
     case c28=>
      skip
      refine qG_ 3 13 (zA_ 3 rfl rfl (Qy_ (W0:=W0) (H:=H3) (m:=⟨m.Node,m.Life,m.Count,putR (qF_ ⟨⟨x1,x2,x3⟩,false,bg,ps,wk,hd⟩) m.Txns⟩) (t:=qF_ ⟨⟨x1,x2,x3⟩,false,bg,ps,wk,hd⟩) ⟨_,rfl,f1,f2,f3,hsp⟩ hcO (by unfold qF_;simp) (fun h=>by cases h) okn) fun r3 H6 B hl6 ⟨eB,eH⟩=>?c39) (at_w 13 rfl (Ze_ rfl rfl rfl fun b13=>⟨(by first | exact Go.Sx.Heap.le.refl _ | exact hl3),subA,?c40⟩))
      case c39=>
       subst eB;obtain rfl:H3=H6:=eH.symm;clear hl6 eH;refine ⟨subA,?_⟩;refine qG_ 13 14 (at_w 13 rfl (Ze_ rfl rfl rfl fun b13=>⟨(by first | exact Go.Sx.Heap.le.refl _ | exact hl3),subA,?c41⟩)) (at_s 14 rfl rfl rfl rfl (by simp) rfl ⟨subA,?c42⟩)
       case c41=>
        exact v109_
       case c42=>
        skip
        refine qa_ 15 ?_;exact v111_
      case c40=>
       exact v104_
     case c29=>
      skip
      refine qG_ 3 9 (zA_ 3 rfl rfl (Qy_ (W0:=W0) (H:=H3) (m:=⟨m.Node,m.Life,m.Count,putR (qF_ ⟨⟨x1,x2,x3⟩,false,bg,ps,wk,hd⟩) m.Txns⟩) (t:=qF_ ⟨⟨x1,x2,x3⟩,false,bg,ps,wk,hd⟩) ⟨_,rfl,f1,f2,f3,hsp⟩ hcO (by unfold qF_;simp) (fun h=>by cases h) okn) fun r3 H6 B hl6 ⟨eB,eH⟩=>?c43) (at_w 9 rfl (Ze_ rfl rfl rfl fun b9=>⟨(by first | exact Go.Sx.Heap.le.refl _ | exact hl3),subA,?c44⟩))
      case c43=>
       subst eB;obtain rfl:H3=H6:=eH.symm;clear hl6 eH;refine ⟨subA,?_⟩;refine qG_ 9 14 (at_w 9 rfl (Ze_ rfl rfl rfl fun b9=>⟨(by first | exact Go.Sx.Heap.le.refl _ | exact hl3),subA,?c45⟩)) (at_s 14 rfl rfl rfl rfl (by simp) rfl ⟨subA,?c46⟩)
       case c45=>
        exact v109_
       case c46=>
        skip
        refine qa_ 15 ?_;exact v113_
      case c44=>
       exact v104_
  ·refine walk ?_;refine walk ?_;refine fin0 ?_;exact ⟨_,_,_,_,_,[],[],[],rfl,⟨_,rfl,f1,f2,f3,hs1⟩,SlB.nil,SlB.nil,SlB.nil,(.nopart hf k5 _ hjm hx (.inr (.inr ⟨rfl,k2⟩))),rfl⟩
end Go.Proofs.YtlflbkpmfhhikaaGreatDoor
