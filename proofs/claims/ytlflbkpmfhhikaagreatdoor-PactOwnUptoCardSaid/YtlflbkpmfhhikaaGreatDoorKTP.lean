/- A coordinator: Hear. -/
import Derived.Test.YtlflbkpmfhhikaaGreatDoorKQG
import Derived.Test.YtlflbkpmfhhikaaGreatDoorKTR
import Derived.Test.YtlflbkpmfhhikaaGreatDoorKTX
set_option maxHeartbeats 16000000
set_option maxRecDepth 100000
set_option linter.unusedVariables false
set_option linter.unusedSimpArgs false
namespace Go.Proofs.YtlflbkpmfhhikaaGreatDoor
open Go Go.Sx Go.Proofs
abbrev rOc:Rd CoordOutcome:=Qaz_
theorem c32:32≤zb_:=by decide
theorem qbj_ {H:Heap} {x:Txn} (hx:fits x.Node∧fits x.Life∧fits x.Count):rRec H [I 5,I x.Node,I x.Life,I x.Count,I 0,nilS,nilS,.bool false,nilS] (recE x):=
 ⟨nilS,nilS,nilS,rfl,by unfold fits;simp [recE],hx.1,hx.2.1,hx.2.2,Zg_,SlB.nil,SlB.nil,SlB.nil⟩
theorem Zbt_ {H:Heap} {x:Txn} {y d:Bool} (hx:fits x.Node∧fits x.Life∧fits x.Count):rOc H [I x.Node,I x.Life,I x.Count,.bool y,.bool d] (qac_ x y d):=⟨rfl,hx.1,hx.2.1,hx.2.2⟩
theorem zdx_:fits (1:Int):=by unfold fits;omega
def CHearQ (p:Nat) (s:CS) (m:Message) (r:Value) (H':Heap) (B:List za_):Prop:=
  ∃v1 v2 v3,r= .tuple #[v1,v2,v3]∧B=[ownS Qa_ 19 216 106 H' v1 (zh_ s m).out,ownS rRec 9 120 53 H' v2 (zh_ s m).rc,ownS rOc 5 32 186 H' v3 (zh_ s m).oc,qj_ H' p (zh_ s m).s]
theorem CHearQ.of {p:Nat} {s:CS} {m:Message} {H':Heap} {a:CAns} {v1 v2 v3:Value} (h:zh_ s m=a):CHearQ p s m (.tuple #[v1,v2,v3]) H' [ownS Qa_ 19 216 106 H' v1 a.out,ownS rRec 9 120 53 H' v2 a.rc,ownS rOc 5 32 186 H' v3 a.oc,qj_ H' p a.s]:=
 ⟨v1,v2,v3,rfl,by rw [h]⟩
theorem nil3 {H:Heap} {L:List za_}:Sub L (ownS Qa_ 19 216 106 H nilS []::ownS rRec 9 120 53 H nilS []::ownS rOc 5 32 186 H nilS []::L):=(ownS_nil.trans ownS_nil).trans ownS_nil
theorem Zag_ {s:CS} {m:Message} (h:forC s m) (h5:¬(m.Kind=5∧(¬s.isT m.Txn∨(s.tx m.Txn).op=true))) (h2:¬(m.Kind=2∧s.isPart m∧(s.tx m.Txn).op=false)) (h4:¬(m.Kind=4∧s.isPart m∧(s.tx m.Txn).op=true)):zh_ s m=⟨s,[],[],[]⟩:=by
 unfold zh_;rw [if_neg (fun hh=>hh h),if_neg h5,if_neg (fun hh=>h2 ⟨hh.1,hh.2.1,hh.2.2.1⟩),if_neg h2,if_neg h4]
theorem v103_ {P:Prop} (h:P:=by
 refine zo_ 11 rfl rfl (Qx_ (W0:=W0) (H:=H4) (xs:=parts) (v:= .slice bs parts.length cs) (hsl2.mono hl4)) fun r11 H11 B hl11 ⟨eB,eH⟩=>?_;subst eB eH;refine ⟨subA,?_⟩;refine zi_ r11 fun H12 hl12 hsc=>?_;obtain ⟨bc,cc,rfl,_,_⟩:=hsc.1.shape;refine zaa_ 12 rfl rfl rfl ?_;refine qa_ 18 ?_;exact v129_):P:=h
theorem v126_ {P:Prop} (h:P:=by
 by_cases k2:m.Kind=2
 ·skip
  exact v8_
 by_cases k4:m.Kind=4
 ·skip
  exact v8_
 exact v8_):P:=h
theorem v129_ {P:Prop} (h:P:=by
 refine Zt_ 13 rfl (Ze_ rfl rfl rfl fun b9=>⟨(by first | exact Go.Sx.Heap.le.refl _ | assumption | exact hl4.trans (hl11.trans hl12) | exact hl4.trans hl11),subA,?_⟩);refine qa_ 19 ?_;exact v6_):P:=h
theorem v22_ {P:Prop} (h:P:=by
 skip
 have hca:zh_ s m=⟨s,[decM s.node m.Txn m.From true],[],[]⟩:=by
  unfold zh_;rw [if_neg (fun hh=>hh hf),if_pos ⟨k5,.inr (by rw [htx])⟩,decide_eq_true hT]
 refine walk ?_;refine zc_ 12 [row p3 106 (m.cv (.slice b1 m.Work.Take.length c1) (.slice b2 m.Work.Drop.length c2) (.slice b3 m.Call.Route.Cells.length c3) (.slice b4 m.Reply.Route.Cells.length c4)),cRow p mb s] ?_;refine qa_ 0 ?_;refine qa_ 1 ?_;refine qa_ 2 ?_;refine qa_ 3 ?_;refine qa_ 4 ?_;refine qa_ 5 ?_;refine qa_ 6 ?_;refine qa_ 7 ?_;refine qa_ 8 ?_;refine qa_ 9 ?_;refine qa_ 10 ?_;refine Zt_ 11 rfl (Ze_ rfl rfl rfl fun b9=>⟨.refl _,subA,?_⟩);refine qb_ rfl ?_;refine walk ?_;refine finB [ownS Qa_ 19 216 106 H (.slice (some ⟨b9,0,none⟩) 1 1) [decM s.node m.Txn m.From true],ownS rRec 9 120 53 H nilS [],ownS rOc 5 32 186 H nilS [],qj_ H p s] ?_ (hs:=?_)
 ·exact CHearQ.of (a:=⟨s,[decM s.node m.Txn m.From true],[],[]⟩) hca
 ·refine Sub.trans ?_ ((own1 (x:=decM s.node m.Txn m.From true) (QB_ I0.fn f1 hxm) c216).trans (Sub.cons (hcl.trans (ownS_nil.trans ownS_nil))));exact subA):P:=h
theorem v24_ {P:Prop} (h:P:=by
 refine walk ?_;refine finB [ownS Qa_ 19 216 106 H nilS [],ownS rRec 9 120 53 H nilS [],ownS rOc 5 32 186 H nilS [],qj_ H p s] ?_ (hs:=?_)
 ·exact CHearQ.of (a:=⟨s,[],[],[]⟩) hnl
 ·refine Sub.trans ?_ (Sub.trans (qz_ (H:=H) (mb:=mb) hts) nil3);exact subA):P:=h
theorem v35_ {P:Prop} (h:P:=by
 refine qb_ rfl ?_;refine walk ?_;refine finB [ownS Qa_ 19 216 106 H nilS [],ownS rRec 9 120 53 H (.slice (some ⟨b9,0,none⟩) 1 1) [recE m.Txn],ownS rOc 5 32 186 H (.slice (some ⟨b10,0,none⟩) 1 1) [qac_ m.Txn true true],qj_ H p (s.cut m.Txn.k)] ?_ (hs:=?_)
 ·exact CHearQ.of (a:=⟨s.cut m.Txn.k,[],[recE m.Txn],[qac_ m.Txn true true]⟩) hca
 ·refine Sub.trans ?_ ((Sub.trans (own1 (x:=recE m.Txn) (qbj_ hxm) c120) (Sub.cons (Sub.trans (own1 (x:=qac_ m.Txn true true) (Zbt_ hxm) c32) (Sub.cons hclD)))).trans ownS_nil);exact subA):P:=h
theorem v52_ {P:Prop} (h:P:=by
 refine Sub.trans ?_ (Sub.trans (Sub.trans (ZN_ (H:=H) (wv:=wv) (hb:=hb) (e:=⟨ek,ep,.slice bs parts.length cs,qx_ (s.tx m.Txn) m.From⟩) (by rw [htx];exact hsl2) (.refl _)) (hclN (.refl _) _)) nil3);rw [htx];exact subA):P:=h
theorem v6_ {P:Prop} (h:P:=by
 refine qb_ rfl ?_;refine walk ?_;refine finB [ownS Qa_ 19 216 106 H12 r4 (qi_ s.node m.Txn ⟨true,began,parts,[],[]⟩),ownS rRec 9 120 53 H12 (.slice (some ⟨b9,0,none⟩) 1 1) [recC m.Txn parts],ownS rOc 5 32 186 H12 (.slice (some ⟨b10,0,none⟩) 1 1) [qac_ m.Txn true false],qj_ H12 p (s.put m.Txn.k ⟨true,began,parts,[],[]⟩)] ?_ (hs:=?_)
 ·exact CHearQ.of (a:=⟨s.put m.Txn.k ⟨true,began,parts,[],[]⟩,qi_ s.node m.Txn ⟨true,began,parts,[],[]⟩,[recC m.Txn parts],[qac_ m.Txn true false]⟩) hca
 ·refine Sub.trans (zcB_ (H:=H) (e:=⟨ek,ep,.slice bs parts.length cs,⟨true,began,parts,[],[]⟩⟩) rfl rfl) ?_;refine Sub.trans ?_ (Sub.trans (zaE_ (hl11.trans hl12)) (Sub.cons (Sub.trans (own1 (x:=recC m.Txn parts) (zan_ hxm hsc) c120) (Sub.cons (Sub.trans (own1 (x:=qac_ m.Txn true false) (Zbt_ hxm) c32) (Sub.cons (Sub.trans (ZN_ (H:=H) (wv:= .map none) (hb:=hb2) (e:=⟨ek,ep,.slice bs parts.length cs,⟨true,began,parts,[],[]⟩⟩) (hsl2.mono (hl4.trans (hl11.trans hl12))) (hl4.trans (hl11.trans hl12))) (hclN (hl4.trans (hl11.trans hl12)) _))))))));exact subA):P:=h
theorem v8_ {P:Prop} (h:P:=by
 refine walk ?_;refine finB [ownS Qa_ 19 216 106 H nilS [],ownS rRec 9 120 53 H nilS [],ownS rOc 5 32 186 H nilS [],qj_ H p s] ?_ (hs:=?_)
 ·exact CHearQ.of (a:=⟨s,[],[],[]⟩) hnl
 ·refine Sub.trans ?_ (Sub.trans hcl nil3);exact subA):P:=h
theorem QcB_ {W0:World} {H:Heap} {p n:Nat} {s:CS} {m:Message} {c:List Value} (I0:CInv n s) (hn:n≤1000) (hpl:∀k t,mget k s.ts=some t→t.parts.length≤1000000) (hc:Qa_ H c m):
  Ct Tryz.prog 71 #[.pointer (some ⟨p,0,none⟩),.agg c.toArray] W0 H [qj_ H p s] (fun r H' B=>CHearQ p s m r H' B):=by
 refine Ct.go (vs:=[.pointer (some ⟨p,0,none⟩),.agg c.toArray]) fun R=>?_;obtain ⟨s1,s2,s3,s4,rfl,f1,f2,f3,f4,f5,f6,f7,h1,h2,f8,f9,f10,f11,h3,f12,f13,f14,h4⟩:=hc;obtain ⟨b1,c1,rfl,_,_⟩:=h1.1.shape;obtain ⟨b2,c2,rfl,_,_⟩:=h2.1.shape;obtain ⟨b3,c3,rfl,_,_⟩:=h3.1.shape;obtain ⟨b4,c4,rfl,_,_⟩:=h4.1.shape;refine Qj_ (A:=qj_ H p s) (σ:=Nat×List CE) (B:=fun a=>[cRow p a.1 s,cMap a.1 a.2,bigL (xA H) a.2]) (p:=fun a=>CS.ts s=tsC a.2) (by repeat (first | exact Has.here | apply Has.there)) (fun h ⟨mb,zs,hb,hk⟩=>⟨(mb,zs),hk,hb⟩) fun ⟨mb,zs⟩ hts=>?_;dsimp only at hts⊢;refine walk ?_;refine qc_ rfl rfl fun p3 _=>?_;have hxm:fits m.Txn.Node∧fits m.Txn.Life∧fits m.Txn.Count:=⟨f4,f5,f6⟩;by_cases hf:forC s m
 case neg=>
  have hnl:zh_ s m=⟨s,[],[],[]⟩:=if_pos hf;by_cases e1:m.To=s.node
  ·have e2:¬m.Txn.Node=s.node:=fun e=>hf ⟨e1,e⟩;exact v24_
  ·exact v24_
 obtain ⟨e1,e2⟩:=id hf;obtain ⟨hnd,hent⟩:=I0.entry hts;refine walk ?_;refine qbW_ (RV:=rVal) (val:=fun x:Value=>x) (z:= .pointer none) rfl rfl ((by repeat (first | exact Has.here | apply Has.there))) ?_;rcases qbR_ zs m.Txn.k with ⟨l1,e,l2,hzz,hek⟩ | hno
 rotate_left
 ·have hno1:mget (m.Txn.Node,m.Txn.Life,m.Txn.Count) (msC zs)=none:=Qcg_ (f:=fun e=>ptrC e.p) hno;have hnt:¬s.isT m.Txn:=by unfold CS.isT;rw [hts,Qcg_ (f:=CE.x) hno];simp
  have hnp:¬s.isPart m:=fun h=>hnt h.1;rw [hno1,Option.getD_none];refine walk ?_;refine zc_ 12 [row p3 106 (m.cv (.slice b1 m.Work.Take.length c1) (.slice b2 m.Work.Drop.length c2) (.slice b3 m.Call.Route.Cells.length c3) (.slice b4 m.Reply.Route.Cells.length c4)),cRow p mb s] ?_;refine qa_ 0 ?_;refine qa_ 1 ?_;refine qa_ 2 ?_;refine qa_ 3 ?_;refine qa_ 4 ?_;refine qa_ 5 ?_;refine qa_ 6 ?_;refine qa_ 7 ?_;refine qa_ 8 ?_;refine qa_ 9 ?_;refine qa_ 10 ?_;refine qa_ 11 ?_;refine qb_ rfl ?_;by_cases k5:m.Kind=5
  ·have hca:zh_ s m=⟨s,[decM s.node m.Txn m.From false],[],[]⟩:=by
    unfold zh_;rw [if_neg (fun hh=>hh hf),if_pos ⟨k5,.inl hnt⟩,decide_eq_false hnt]
   refine walk ?_;refine zc_ 12 [row p3 106 (m.cv (.slice b1 m.Work.Take.length c1) (.slice b2 m.Work.Drop.length c2) (.slice b3 m.Call.Route.Cells.length c3) (.slice b4 m.Reply.Route.Cells.length c4)),cRow p mb s] ?_;refine qa_ 0 ?_;refine qa_ 1 ?_;refine qa_ 2 ?_;refine qa_ 3 ?_;refine qa_ 4 ?_;refine qa_ 5 ?_;refine qa_ 6 ?_;refine qa_ 7 ?_;refine qa_ 8 ?_;refine qa_ 9 ?_;refine qa_ 10 ?_;refine Zt_ 11 rfl (Ze_ rfl rfl rfl fun b9=>⟨.refl _,subA,?_⟩);refine qb_ rfl ?_;refine walk ?_;refine finB [ownS Qa_ 19 216 106 H (.slice (some ⟨b9,0,none⟩) 1 1) [decM s.node m.Txn m.From false],ownS rRec 9 120 53 H nilS [],ownS rOc 5 32 186 H nilS [],qj_ H p s] ?_ (hs:=?_)
   ·exact CHearQ.of (a:=⟨s,[decM s.node m.Txn m.From false],[],[]⟩) hca
   ·refine Sub.trans ?_ ((own1 (x:=decM s.node m.Txn m.From false) (QB_ I0.fn f1 hxm) c216).trans (Sub.cons ((qz_ (H:=H) (mb:=mb) (s:=s) hts).trans (ownS_nil.trans ownS_nil))));exact subA
  have hnl:zh_ s m=⟨s,[],[],[]⟩:=Zag_ hf (fun h=>k5 h.1) (fun h=>hnp h.2.1) (fun h=>hnp h.2.1);by_cases k2:m.Kind=2
  ·exact v24_
  by_cases k4:m.Kind=4
  ·exact v24_
  exact v24_
 subst hzz;obtain ⟨hg,ti⟩:=hent e (by simp);have hgt:mget m.Txn.k s.ts=some e.x:=by rw [←hek];exact hg
 have hgm:mget (m.Txn.Node,m.Txn.Life,m.Txn.Count) (msC (l1++e::l2))=some (ptrC e.p):=by
  rw [show ((m.Txn.Node,m.Txn.Life,m.Txn.Count):K3)=e.k from hek.symm];exact zcI_ (f:=fun e=>ptrC e.p) hnd (by simp)
 have hT:s.isT m.Txn:=by unfold CS.isT;rw [hgt];rfl
 have htx:s.tx m.Txn=e.x:=by unfold CS.tx;rw [hgt];rfl
 have hpl1:=hpl _ _ hgt;have hdm:mdel m.Txn.k (msC (l1++e::l2))=msC (l1++l2):=by rw [←hek];exact Zdz_ (f:=fun e=>ptrC e.p) hnd
 have hdt:mdel m.Txn.k s.ts=tsC (l1++l2):=by rw [hts,←hek];exact Zdz_ (f:=CE.x) hnd
 have hst:∀e':CE,e'.k=e.k→mset m.Txn.k e'.x s.ts=tsC (l1++e'::l2):=fun e' he=>by rw [hts,←hek,←he];exact zdR_ (f:=CE.x) hnd he
 have hsm:∀e':CE,e'.k=e.k→e'.p=e.p→msC (l1++e::l2)=msC (l1++e'::l2):=fun e' hk hp=>(ZdC_ (f:=fun e=>ptrC e.p) hk (by rw [hp])).symm;rw [hgm,Option.getD_some];refine walk ?_;refine ex_L (L':=xA H e::bigL (xA H) (l1++l2)::row p3 106 (m.cv (.slice b1 m.Work.Take.length c1) (.slice b2 m.Work.Drop.length c2) (.slice b3 m.Call.Route.Cells.length c3) (.slice b4 m.Reply.Route.Cells.length c4))::cRow p mb s::cMap mb (l1++e::l2)::R) (Sub.trans subA ZZ_) ?_;obtain ⟨ek,ep,ev,⟨op,began,parts,works,heard⟩⟩:=e;refine Qj_ (A:=xA H ⟨ek,ep,ev,⟨op,began,parts,works,heard⟩⟩) (σ:=Value×Nat) (B:=fun a=>[xRow ⟨ek,ep,ev,⟨op,began,parts,works,heard⟩⟩ a.1 a.2,zs_ H ⟨ek,ep,ev,⟨op,began,parts,works,heard⟩⟩ a.1,QA_ H ⟨ek,ep,ev,⟨op,began,parts,works,heard⟩⟩ a.2]) (p:=fun a=>SlB rInt 1 8 H (CE.v ⟨ek,ep,ev,⟨op,began,parts,works,heard⟩⟩) (CE.x ⟨ek,ep,ev,⟨op,began,parts,works,heard⟩⟩).parts) (by repeat (first | exact Has.here | apply Has.there)) (fun h ⟨hs,wv,hb,hbig⟩=>⟨(wv,hb),hs,hbig⟩) fun ⟨wv,hb⟩ hsl2=>?_;dsimp only at hsl2⊢;obtain ⟨bs,cs,rfl,hcs0,hds0⟩:=hsl2.1.shape
 have hcl:∀{H2:Heap} (hl2:H.le H2),Sub (xRow ⟨ek,ep,.slice bs parts.length cs,⟨op,began,parts,works,heard⟩⟩ wv hb::zs_ H ⟨ek,ep,.slice bs parts.length cs,⟨op,began,parts,works,heard⟩⟩ wv::QA_ H ⟨ek,ep,.slice bs parts.length cs,⟨op,began,parts,works,heard⟩⟩ hb::bigL (xA H) (l1++l2)::cRow p mb s::cMap mb (l1++⟨ek,ep,.slice bs parts.length cs,⟨op,began,parts,works,heard⟩⟩::l2)::R) (qj_ H2 p s::R):=fun {H2} hl2=>by
  refine (ZN_ hsl2 (.refl _)).trans ?_;refine bigL_in.trans ?_;refine Sub.trans ?_ (ZaC_ (mb:=mb) hts hl2);exact subA
 have hcl:=hcl (.refl _);dsimp only at ti htx hpl1 hgt hst hsm hdm;have hPt:s.isPart m↔m.From∈parts:=by unfold CS.isPart;rw [htx];exact ⟨fun h=>h.2,fun h=>⟨hT,h⟩⟩
 have hclN:∀{H2:Heap} (hl2:H.le H2) (x':TX),Sub (xA H2 ⟨ek,ep,.slice bs parts.length cs,x'⟩::bigL (xA H) (l1++l2)::cRow p mb s::cMap mb (l1++⟨ek,ep,.slice bs parts.length cs,⟨op,began,parts,works,heard⟩⟩::l2)::R) (qj_ H2 p (s.put m.Txn.k x')::R):=fun {H2} hl2 x'=>by
  rw [show cMap mb (l1++⟨ek,ep,.slice bs parts.length cs,⟨op,began,parts,works,heard⟩⟩::l2)=cMap mb (l1++⟨ek,ep,.slice bs parts.length cs,x'⟩::l2) from congrArg (mapO ek3 rVal false Heap.empty mb) (hsm ⟨ek,ep,.slice bs parts.length cs,x'⟩ rfl rfl)];refine (Sub.cons (QdR_ hl2)).trans ?_;refine bigL_in.trans ?_;refine Sub.trans ?_ (qz_ (mb:=mb) (s:=s.put m.Txn.k x') (hst ⟨ek,ep,.slice bs parts.length cs,x'⟩ rfl));exact subA
 have hclD:Sub (bigL (xA H) (l1++l2)::cRow p mb s::cMap mb (l1++l2)::R) (qj_ H p (s.cut m.Txn.k)::R):=by
  refine Sub.trans ?_ (qz_ (mb:=mb) (s:=s.cut m.Txn.k) hdt);exact subA
 cases op with
 | true=>
  by_cases hp:m.From∈parts
  ·have hcs:=ZG_ (W0:=W0) (H:=H) (x:=m.From) hsl2.1;rw [decide_eq_true hp] at hcs;refine zc_ 12 [row p3 106 (m.cv (.slice b1 m.Work.Take.length c1) (.slice b2 m.Work.Drop.length c2) (.slice b3 m.Call.Route.Cells.length c3) (.slice b4 m.Reply.Route.Cells.length c4)),QC_ ep true began (.slice bs parts.length cs) wv hb,cRow p mb s] ?_;refine qa_ 0 ?_;refine qa_ 1 ?_;refine qa_ 2 ?_;refine qa_ 3 ?_;refine qa_ 4 ?_;refine qa_ 5 ?_;refine qa_ 6 ?_;refine qa_ 7 ?_;refine qa_ 8 ?_;refine zq_ 9 rfl rfl rfl hcs ?_;refine qa_ 10 ?_;refine qa_ 11 ?_;refine qb_ rfl ?_;by_cases k5:m.Kind=5
   ·exact v22_
   by_cases k4:m.Kind=4
   ·refine walk ?_;refine zc_ 6 [row p3 106 (m.cv (.slice b1 m.Work.Take.length c1) (.slice b2 m.Work.Drop.length c2) (.slice b3 m.Call.Route.Cells.length c3) (.slice b4 m.Reply.Route.Cells.length c4)),QC_ ep true began (.slice bs parts.length cs) wv hb] ?_;refine qa_ 0 ?_;refine qa_ 1 ?_;refine qa_ 2 ?_;refine qa_ 3 ?_;refine qa_ 4 ?_;refine qa_ 5 ?_;refine qb_ rfl ?_;refine zw_ (RV:=rInt) (ag:=false) (cs:=[I 1]) (u:=(1:Int)) rfl rfl ⟨rfl,zdx_⟩ (by repeat (first | exact Has.here | apply Has.there)) ?_;refine walk ?_;refine Qcj_ (RV:=rInt) rfl rfl (by repeat (first | exact Has.here | apply Has.there)) ?_;have hlenh:(mset m.From 1 heard).length≤parts.length+1:=by rw [QS_];have:=ti.hl;simp only at this;split<;>omega
    refine walk ?_;refine Qe_ rfl (fun hq=>?_) (fun hq=>?_)
    ·skip
     have hq':((mset m.From 1 heard).length:Int)<(parts.length:Int):=hq;have hnall:¬Qp_ (qx_ (s.tx m.Txn) m.From):=by rw [htx];unfold Qp_ qx_;simp only;omega
     refine walk ?_;refine finB [ownS Qa_ 19 216 106 H nilS [],ownS rRec 9 120 53 H nilS [],ownS rOc 5 32 186 H nilS [],qj_ H p (s.put m.Txn.k (qx_ (s.tx m.Txn) m.From))] ?_ (hs:=?_)
     ·refine CHearQ.of (a:=⟨s.put m.Txn.k (qx_ (s.tx m.Txn) m.From),[],[],[]⟩) ?_;unfold zh_;rw [if_neg (fun hh=>hh hf),if_neg (fun hh=>k5 hh.1),if_neg (fun hh=>by have:=hh.1;omega),if_neg (fun hh=>by have:=hh.1;omega),if_pos ⟨k4,hPt.2 hp,by rw [htx]⟩,if_pos hnall]
     ·exact v52_
    have hq':¬((mset m.From 1 heard).length:Int)<(parts.length:Int):=hq;have hall:Qp_ (qx_ (s.tx m.Txn) m.From):=by rw [htx];unfold Qp_ qx_;simp only;omega
    have hca:zh_ s m=⟨s.cut m.Txn.k,[],[recE m.Txn],[qac_ m.Txn true true]⟩:=by
     unfold zh_;rw [if_neg (fun hh=>hh hf),if_neg (fun hh=>k5 hh.1),if_neg (fun hh=>by have:=hh.1;omega),if_neg (fun hh=>by have:=hh.1;omega),if_pos ⟨k4,hPt.2 hp,by rw [htx]⟩,if_neg (fun h=>h hall)]
    refine walk ?_;refine zc_ 6 [row p3 106 (m.cv (.slice b1 m.Work.Take.length c1) (.slice b2 m.Work.Drop.length c2) (.slice b3 m.Call.Route.Cells.length c3) (.slice b4 m.Reply.Route.Cells.length c4)),cRow p mb s] ?_;refine qa_ 0 ?_;refine qa_ 1 ?_;refine qa_ 2 ?_;refine qa_ 3 ?_;refine qa_ 4 ?_;refine qa_ 5 ?_;refine qb_ rfl ?_;refine zW_ (RV:=rVal) rfl ((by repeat (first | exact Has.here | apply Has.there))) ?_;rw [show mdel (m.Txn.Node,m.Txn.Life,m.Txn.Count) (msC (l1++⟨ek,ep,.slice bs parts.length cs,⟨true,began,parts,works,heard⟩⟩::l2))=msC (l1++l2) from hdm];refine walk ?_;refine zc_ 10 [row p3 106 (m.cv (.slice b1 m.Work.Take.length c1) (.slice b2 m.Work.Drop.length c2) (.slice b3 m.Call.Route.Cells.length c3) (.slice b4 m.Reply.Route.Cells.length c4))] ?_;refine qa_ 0 ?_;refine qa_ 1 ?_;refine qa_ 2 ?_;refine qa_ 4 ?_;refine qa_ 5 ?_;refine qa_ 6 ?_;refine qa_ 8 ?_;refine Zax_ 3 7 rfl rfl (Ze_ rfl rfl rfl fun b9=>⟨.refl _,subA,?_⟩) (Ze_ rfl rfl rfl fun b10=>⟨.refl _,subA,?_⟩)
    ·skip
     refine qa_ 9 ?_;refine Zt_ 7 rfl (Ze_ rfl rfl rfl fun b10=>⟨.refl _,subA,?_⟩);exact v35_
    ·refine Zt_ 3 rfl (Ze_ rfl rfl rfl fun b9=>⟨.refl _,subA,?_⟩);refine qa_ 9 ?_;exact v35_
   have hnl:zh_ s m=⟨s,[],[],[]⟩:=Zag_ hf (fun h=>k5 h.1) (fun h=>by have:=h.2.2;rw [htx] at this;cases this) (fun h=>k4 h.1);by_cases k2:m.Kind=2
   ·skip
    exact v8_
   exact v8_
  ·have hcs:=ZG_ (W0:=W0) (H:=H) (x:=m.From) hsl2.1;rw [decide_eq_false hp] at hcs;refine zc_ 12 [row p3 106 (m.cv (.slice b1 m.Work.Take.length c1) (.slice b2 m.Work.Drop.length c2) (.slice b3 m.Call.Route.Cells.length c3) (.slice b4 m.Reply.Route.Cells.length c4)),QC_ ep true began (.slice bs parts.length cs) wv hb,cRow p mb s] ?_;refine qa_ 0 ?_;refine qa_ 1 ?_;refine qa_ 2 ?_;refine qa_ 3 ?_;refine qa_ 4 ?_;refine qa_ 5 ?_;refine qa_ 6 ?_;refine qa_ 7 ?_;refine qa_ 8 ?_;refine zq_ 9 rfl rfl rfl hcs ?_;refine qa_ 10 ?_;refine qa_ 11 ?_;refine qb_ rfl ?_;by_cases k5:m.Kind=5
   ·exact v22_
   have hnl:zh_ s m=⟨s,[],[],[]⟩:=Zag_ hf (fun h=>k5 h.1) (fun h=>hp (hPt.1 h.2.1)) (fun h=>hp (hPt.1 h.2.1));exact v126_
 | false=>
  by_cases hp:m.From∈parts
  ·have hcs:=ZG_ (W0:=W0) (H:=H) (x:=m.From) hsl2.1;rw [decide_eq_true hp] at hcs;refine zc_ 12 [row p3 106 (m.cv (.slice b1 m.Work.Take.length c1) (.slice b2 m.Work.Drop.length c2) (.slice b3 m.Call.Route.Cells.length c3) (.slice b4 m.Reply.Route.Cells.length c4)),QC_ ep false began (.slice bs parts.length cs) wv hb,cRow p mb s] ?_;refine qa_ 0 ?_;refine qa_ 1 ?_;refine qa_ 2 ?_;refine qa_ 3 ?_;refine qa_ 4 ?_;refine qa_ 5 ?_;refine qa_ 6 ?_;refine qa_ 7 ?_;refine qa_ 8 ?_;refine zq_ 9 rfl rfl rfl hcs ?_;refine qa_ 10 ?_;refine qa_ 11 ?_;refine qb_ rfl ?_;by_cases k2:m.Kind=2
   ·refine walk ?_;refine QI_ rfl (show (!m.Yes)=true↔m.Yes=false by simp) (fun hy=>?_) (fun hy=>?_)
    ·have hca:zh_ s m=⟨s.cut m.Txn.k,noL s.node m.Txn ⟨false,began,parts,works,heard⟩,[],[qac_ m.Txn false false]⟩:=by
      unfold zh_;rw [if_neg (fun hh=>hh hf),if_neg (fun hh=>by have:=hh.1;omega),if_pos ⟨k2,hPt.2 hp,by rw [htx],hy⟩,htx]
     refine ex_L (L':=xA H ⟨ek,ep,.slice bs parts.length cs,⟨false,began,parts,works,heard⟩⟩::cRow p mb s::cMap mb (l1++⟨ek,ep,.slice bs parts.length cs,⟨false,began,parts,works,heard⟩⟩::l2)::bigL (xA H) (l1++l2)::row p3 106 (m.cv (.slice b1 m.Work.Take.length c1) (.slice b2 m.Work.Drop.length c2) (.slice b3 m.Call.Route.Cells.length c3) (.slice b4 m.Reply.Route.Cells.length c4))::R) ?_ ?_
     ·refine Sub.trans ?_ (ZN_ (H:=H) (wv:=wv) (hb:=hb) (e:=⟨ek,ep,.slice bs parts.length cs,⟨false,began,parts,works,heard⟩⟩) hsl2 (.refl _));exact subA
     refine walk ?_;refine Za_ rfl rfl (ZbI_ (W0:=W0) (H:=H) (H1:=H) (p:=p) (mb:=mb) (s:=s) (x:=m.Txn) (e:=⟨ek,ep,.slice bs parts.length cs,⟨false,began,parts,works,heard⟩⟩) (ms:=msC (l1++⟨ek,ep,.slice bs parts.length cs,⟨false,began,parts,works,heard⟩⟩::l2)) (.refl _) I0.fn hxm (fun q hq=>(ti.nn q hq).2) hpl1) fun r4 H4 B hl4 ⟨v4,er,eB,eH⟩=>?_;subst er eB eH;rw [hdm];refine qq_ v4 fun d4 e4 e _ _ _=>?_;subst e;refine walk ?_;refine Qb_ rfl fun p10 _=>?_;refine walk ?_;refine zc_ 5 [row p10 186 [I m.Txn.Node,I m.Txn.Life,I m.Txn.Count,.bool false,.bool false]] ?_;refine qa_ 0 ?_;refine qa_ 1 ?_;refine qa_ 3 ?_;refine qa_ 4 ?_;refine Zt_ 2 rfl (Ze_ rfl rfl rfl fun b9=>⟨.refl _,subA,?_⟩);refine qb_ rfl ?_;refine walk ?_;refine finB [ownS Qa_ 19 216 106 H4 (.slice d4 (noL s.node m.Txn ⟨false,began,parts,works,heard⟩).length e4) (noL s.node m.Txn ⟨false,began,parts,works,heard⟩),ownS rRec 9 120 53 H4 nilS [],ownS rOc 5 32 186 H4 (.slice (some ⟨b9,0,none⟩) 1 1) [qac_ m.Txn false false],qj_ H4 p (s.cut m.Txn.k)] ?_ (hs:=?_)
     ·exact CHearQ.of (a:=⟨s.cut m.Txn.k,noL s.node m.Txn ⟨false,began,parts,works,heard⟩,[],[qac_ m.Txn false false]⟩) hca
     ·refine Sub.trans ?_ (Sub.cons ((Sub.trans (own1 (x:=qac_ m.Txn false false) (Zbt_ hxm) c32) (Sub.cons hclD)).trans ownS_nil));exact subA
    have hyt:m.Yes=true:=by simpa using hy
    refine walk ?_;refine zc_ 6 [row p3 106 (m.cv (.slice b1 m.Work.Take.length c1) (.slice b2 m.Work.Drop.length c2) (.slice b3 m.Call.Route.Cells.length c3) (.slice b4 m.Reply.Route.Cells.length c4)),QC_ ep false began (.slice bs parts.length cs) wv hb] ?_;refine qa_ 0 ?_;refine qa_ 1 ?_;refine qa_ 2 ?_;refine qa_ 3 ?_;refine qa_ 4 ?_;refine qa_ 5 ?_;refine qb_ rfl ?_;refine zw_ (RV:=rInt) (ag:=false) (cs:=[I 1]) (u:=(1:Int)) rfl rfl ⟨rfl,zdx_⟩ (by repeat (first | exact Has.here | apply Has.there)) ?_;refine walk ?_;refine Qcj_ (RV:=rInt) rfl rfl (by repeat (first | exact Has.here | apply Has.there)) ?_;have hlenh:(mset m.From 1 heard).length≤parts.length+1:=by rw [QS_];have:=ti.hl;simp only at this;split<;>omega
    refine walk ?_;refine Qe_ rfl (fun hq=>?_) (fun hq=>?_)
    ·skip
     have hq':((mset m.From 1 heard).length:Int)<(parts.length:Int):=hq;have hnall:¬Qp_ (qx_ (s.tx m.Txn) m.From):=by rw [htx];unfold Qp_ qx_;simp only;omega
     refine walk ?_;refine finB [ownS Qa_ 19 216 106 H nilS [],ownS rRec 9 120 53 H nilS [],ownS rOc 5 32 186 H nilS [],qj_ H p (s.put m.Txn.k (qx_ (s.tx m.Txn) m.From))] ?_ (hs:=?_)
     ·refine CHearQ.of (a:=⟨s.put m.Txn.k (qx_ (s.tx m.Txn) m.From),[],[],[]⟩) ?_;unfold zh_;rw [if_neg (fun hh=>hh hf),if_neg (fun hh=>by have:=hh.1;omega),if_neg (fun hh=>by have:=hh.2.2.2;rw [hyt] at this;cases this),if_pos ⟨k2,hPt.2 hp,by rw [htx]⟩,if_pos hnall]
     ·exact v52_
    have hq':¬((mset m.From 1 heard).length:Int)<(parts.length:Int):=hq;have hall:Qp_ (qx_ (s.tx m.Txn) m.From):=by rw [htx];unfold Qp_ qx_;simp only;omega
    have hca:zh_ s m=⟨s.put m.Txn.k ⟨true,began,parts,[],[]⟩,qi_ s.node m.Txn ⟨true,began,parts,[],[]⟩,[recC m.Txn parts],[qac_ m.Txn true false]⟩:=by
     unfold zh_;rw [if_neg (fun hh=>hh hf),if_neg (fun hh=>by have:=hh.1;omega),if_neg (fun hh=>by have:=hh.2.2.2;rw [hyt] at this;cases this),if_pos ⟨k2,hPt.2 hp,by rw [htx]⟩,if_neg (fun h=>h hall),htx];rfl
    refine walk ?_;refine qs_ iK rInt false rfl fun hb2 _=>?_;refine walk ?_;have hag:=zca_ (W0:=W0) (H:=H) (H1:=H) (p:=p) (mb:=mb) (ep:=ep) (hb:=hb2) (s:=s) (x:=m.Txn) (began:=began) (parts:=parts) (works:=[]) (heard:=[]) (b0:=bs) (c0:=cs) (.refl _) I0.fn hxm (by simp) (fun q hq=>(ti.nn q hq).2) hpl1 hsl2;refine zc_ 20 [row p3 106 (m.cv (.slice b1 m.Work.Take.length c1) (.slice b2 m.Work.Drop.length c2) (.slice b3 m.Call.Route.Cells.length c3) (.slice b4 m.Reply.Route.Cells.length c4)),cRow p mb s,QC_ ep true began (.slice bs parts.length cs) (.map none) hb2] ?_;refine qa_ 0 ?_;refine qa_ 1 ?_;refine qa_ 2 ?_;refine qa_ 3 ?_;refine qa_ 5 ?_;refine qa_ 6 ?_;refine qa_ 7 ?_;refine qa_ 8 ?_;refine qa_ 9 ?_;refine qa_ 10 ?_;refine qa_ 14 ?_;refine qa_ 15 ?_;refine qa_ 16 ?_;refine qG_ 4 17 (zA_ 4 rfl rfl hag fun r4 H4 B hl4 eB=>?a4) (at_w 17 rfl (Ze_ rfl rfl rfl fun b10=>⟨.refl _,subA,?a17⟩))
    case a4=>
     subst eB;refine ⟨subA,?_⟩;refine qG_ 11 17 (zA_ 11 rfl rfl (Qx_ (W0:=W0) (H:=H4) (xs:=parts) (v:= .slice bs parts.length cs) (hsl2.mono hl4)) fun r11 H11 B hl11 ⟨eB,eH⟩=>?b11) (at_w 17 rfl (Ze_ rfl rfl rfl fun b10=>⟨(by first | exact Go.Sx.Heap.le.refl _ | assumption | exact hl4.trans (hl11.trans hl12) | exact hl4.trans hl11),subA,?b17⟩))
     case b11=>
      subst eB eH;refine ⟨subA,?_⟩;refine zi_ r11 fun H12 hl12 hsc=>?_;obtain ⟨bc,cc,rfl,_,_⟩:=hsc.1.shape;refine zaa_ 12 rfl rfl rfl ?_;refine qa_ 18 ?_;refine Zax_ 13 17 rfl rfl (Ze_ rfl rfl rfl fun b9=>⟨(by first | exact Go.Sx.Heap.le.refl _ | assumption | exact hl4.trans (hl11.trans hl12) | exact hl4.trans hl11),subA,?_⟩) (Ze_ rfl rfl rfl fun b10=>⟨(by first | exact Go.Sx.Heap.le.refl _ | assumption | exact hl4.trans (hl11.trans hl12) | exact hl4.trans hl11),subA,?_⟩)
      ·skip
       refine qa_ 19 ?_;refine Zt_ 17 rfl (Ze_ rfl rfl rfl fun b10=>⟨(by first | exact Go.Sx.Heap.le.refl _ | assumption | exact hl4.trans (hl11.trans hl12) | exact hl4.trans hl11),subA,?_⟩);exact v6_
      ·exact v129_
     case b17=>
      exact v103_
    case a17=>
     refine zo_ 4 rfl rfl hag fun r4 H4 B hl4 eB=>?_;subst eB;refine ⟨subA,?_⟩;exact v103_
   have hnl:zh_ s m=⟨s,[],[],[]⟩:=Zag_ hf (fun h=>h.2.elim (fun h=>h hT) (fun h=>by rw [htx] at h;cases h)) (fun h=>k2 h.1) (fun h=>by have:=h.2.2;rw [htx] at this;cases this);by_cases k5:m.Kind=5
   ·skip
    exact v8_
   by_cases k4:m.Kind=4
   ·skip
    exact v8_
   exact v8_
  ·have hcs:=ZG_ (W0:=W0) (H:=H) (x:=m.From) hsl2.1;rw [decide_eq_false hp] at hcs;refine zc_ 12 [row p3 106 (m.cv (.slice b1 m.Work.Take.length c1) (.slice b2 m.Work.Drop.length c2) (.slice b3 m.Call.Route.Cells.length c3) (.slice b4 m.Reply.Route.Cells.length c4)),QC_ ep false began (.slice bs parts.length cs) wv hb,cRow p mb s] ?_;refine qa_ 0 ?_;refine qa_ 1 ?_;refine qa_ 2 ?_;refine qa_ 3 ?_;refine qa_ 4 ?_;refine qa_ 5 ?_;refine qa_ 6 ?_;refine qa_ 7 ?_;refine qa_ 8 ?_;refine zq_ 9 rfl rfl rfl hcs ?_;refine qa_ 10 ?_;refine qa_ 11 ?_;refine qb_ rfl ?_;have hnl:zh_ s m=⟨s,[],[],[]⟩:=Zag_ hf (fun h=>h.2.elim (fun h=>h hT) (fun h=>by rw [htx] at h;cases h)) (fun h=>hp (hPt.1 h.2.1)) (fun h=>hp (hPt.1 h.2.1));by_cases k5:m.Kind=5
   ·skip
    exact v8_
   exact v126_
end Go.Proofs.YtlflbkpmfhhikaaGreatDoor
