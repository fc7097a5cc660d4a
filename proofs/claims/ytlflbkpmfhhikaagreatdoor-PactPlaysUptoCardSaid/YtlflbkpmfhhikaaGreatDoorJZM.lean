/- The document's world, walked: a beginning; a step. -/
import Derived.Test.YtlflbkpmfhhikaaGreatDoorJUG
import Derived.Test.YtlflbkpmfhhikaaGreatDoorJZF
import Derived.Test.YtlflbkpmfhhikaaGreatDoorJZK
set_option maxHeartbeats 16000000
set_option maxRecDepth 100000
set_option linter.unusedVariables false
set_option linter.unusedSimpArgs false
namespace Go.Proofs.YtlflbkpmfhhikaaGreatDoor
open Go Go.Sx Go.Proofs
theorem ROk.net {x:RW} (h:ROk x) {l:List Message}:ROk {x with Net:=l}:=⟨h.p,h.c,h.l⟩
theorem v36_ {P:Prop} (h:P:=by
 refine Za_ rfl rfl (Net.refDrop_no (H:=H) (i:=a) h3 hq) fun r1 H1 B hl1 ⟨cm,er,hm,eB,eH⟩=>?_;subst er eB eH;obtain ⟨t1,t2,t3,t4,rfl,_,_,_,_,_,_,_,j1,j2,_,_,_,_,j3,_,_,_,j4⟩:=hm;obtain ⟨mb1,mc1,rfl,_,_⟩:=j1.1.shape;obtain ⟨mb2,mc2,rfl,_,_⟩:=j2.1.shape;obtain ⟨mb3,mc3,rfl,_,_⟩:=j3.1.shape;obtain ⟨mb4,mc4,rfl,_,_⟩:=j4.1.shape;refine walk ?_;refine zb_ rfl fun p17 _=>?_;exact v138_):P:=h
variable {W0:World} {H:Heap} {c:List Value} {n K:Nat} {B0:List BT} {w:PW} {x:RW} {a:Int} {v:Value} {works:List Work}
theorem Zca_ (IW:WInv n K B0 w) (hl:w.log.length≤800000000) (R:WRel w x) (h0:rW17 H c x) (ha:fits a) (hs:SlB zj_ 3 56 H v works):
  Ct Tryz.prog 23 #[.agg c.toArray,I 2,I a,v] W0 H [] (fun r H' B=>zW_ w 2 a works r H' B):=by
 have hnb:0≤x.Now∧x.Now≤1073741824:=by rw [R.now];exact IW.now
 have hok:=R.ok IW (by omega);have hab: -9223372036854775808≤a∧a≤9223372036854775807:=by unfold fits at ha;omega
 have hpl:=R.pl;have hcl:=R.cl;have hlen:=IW.len;have hn4:=IW.n4;refine Ct.go (vs:=[.agg c.toArray,I 2,I a,v]) fun Rr=>?_;have h00:=h0;obtain ⟨⟨b1,c1⟩,⟨b2,c2⟩,⟨b3,c3⟩,⟨b4,c4⟩,rfl,h1,h2,h3,h4,h5⟩:=Qi_ h0;obtain ⟨bv,cv,rfl,_,_⟩:=hs.1.shape;refine walk ?_;refine qc_ rfl rfl fun p4 _=>?_;refine zb_ rfl fun p8 _=>?_;refine QB_ ?_;by_cases hq:inN x.Net a
 ·obtain ⟨j,rfl⟩:∃j:Nat,a=j:=⟨a.toNat,by unfold inN at hq;omega⟩;have hj:j<x.Net.length:=by unfold inN at hq;omega
  have hj':j<w.net.length:=by rw [←R.net];exact hj
  have hmem:w.net[j]∈w.net:=List.getElem_mem hj';have hJ:=IW.J _ hmem;obtain ⟨hM,hto⟩:=IW.msg hJ;have hgm:x.Net[j]=w.net[j]:=by simp only [R.net]
  obtain ⟨m,hme⟩:∃m,w.net[j]=m:=⟨_,rfl⟩;rw [hme] at hJ hM hto hgm;unfold zn_ at hto;obtain ⟨i,hi⟩:∃i:Nat,m.To=i:=⟨m.To.toNat,by omega⟩;have hll:x.Log.length≤900000000:=by rw [R.log,List.length_map];omega
  refine Za_ rfl rfl (Net.refDrop_yes (H:=H) h3 hj) fun r1 H1 B hl1 ⟨v1,cm,er,hm,hv,eB⟩=>?_;subst er eB;rw [hgm] at hm;obtain ⟨z1,z2,rfl,_,_⟩:=hv.1.shape;have hmm:=hm;obtain ⟨t1,t2,t3,t4,rfl,_,_,_,_,_,_,_,j1,j2,_,_,_,_,j3,_,_,_,j4⟩:=hm;obtain ⟨mb1,mc1,rfl,_,_⟩:=j1.1.shape;obtain ⟨mb2,mc2,rfl,_,_⟩:=j2.1.shape;obtain ⟨mb3,mc3,rfl,_,_⟩:=j3.1.shape;obtain ⟨mb4,mc4,rfl,_,_⟩:=j4.1.shape;refine walk ?_;refine zb_ rfl fun p17 _=>?_;refine walk ?_;have hw1:rW17 H1 (RWc (b1,c1) (b2,c2) (z1,z2) (b4,c4) {x with Net:=Net.del x.Net j}) {x with Net:=Net.del x.Net j}:=⟨_,_,_,_,rfl,h1.mono hl1,h2.mono hl1,hv,h4,h5.mono hl1⟩;refine Za_ rfl rfl (qaO_ (H:=H1) hw1 hmm hok.net hM i hi (by show i<x.Parts.length;omega) (by show i<x.Coords.length;omega) hll) fun r2 H2 B hl2 ⟨c2',y,v2,out,er,hy,hv2,hX,eB⟩=>?_;subst er eB;have hyy:=hy;obtain ⟨⟨d1,e1⟩,⟨d2,e2⟩,⟨d3,e3⟩,⟨d4,e4⟩,rfl,_⟩:=Qi_ hy;obtain ⟨o1,o2,rfl,_,_⟩:=hv2.1.shape;refine walk ?_;refine zb_ rfl fun p19 _=>?_;refine walk ?_;rw [R.net] at hX;refine Za_ rfl rfl (ZV_ (H:=H2) hyy hv2) fun r3 H3 B hl3 ⟨c3',er,hy3,eB⟩=>?_;subst er eB;have hyy3:=hy3;obtain ⟨⟨f1,g1⟩,⟨f2,g2⟩,⟨f3,g3⟩,⟨f4,g4⟩,rfl,_⟩:=Qi_ hy3;refine walk ?_;refine fin0 ?_;exact ⟨_,_,0,rfl,hyy3,ZbH_ IW R hj' (by rw [hme];exact hX),rfl⟩
 ·exact v36_
theorem qcb_ (IW:WInv n K B0 w) (hl:w.log.length≤800000000) (R:WRel w x) (h0:rW17 H c x) (ha:fits a) (hs:SlB zj_ 3 56 H v works):
  Ct Tryz.prog 23 #[.agg c.toArray,I 8,I a,v] W0 H [] (fun r H' B=>zW_ w 8 a works r H' B):=by
 have hnb:0≤x.Now∧x.Now≤1073741824:=by rw [R.now];exact IW.now
 have hok:=R.ok IW (by omega);have hab: -9223372036854775808≤a∧a≤9223372036854775807:=by unfold fits at ha;omega
 have hpl:=R.pl;have hcl:=R.cl;have hlen:=IW.len;have hn4:=IW.n4;refine Ct.go (vs:=[.agg c.toArray,I 8,I a,v]) fun Rr=>?_;have h00:=h0;obtain ⟨⟨b1,c1⟩,⟨b2,c2⟩,⟨b3,c3⟩,⟨b4,c4⟩,rfl,h1,h2,h3,h4,h5⟩:=Qi_ h0;obtain ⟨bv,cv,rfl,_,_⟩:=hs.1.shape;refine walk ?_;refine qc_ rfl rfl fun p4 _=>?_;refine zb_ rfl fun p8 _=>?_;refine QB_ ?_;by_cases hq:inN x.Net a
 ·obtain ⟨j,rfl⟩:∃j:Nat,a=j:=⟨a.toNat,by unfold inN at hq;omega⟩;have hj:j<x.Net.length:=by unfold inN at hq;omega
  have hj':j<w.net.length:=by rw [←R.net];exact hj
  have hmem:w.net[j]∈w.net:=List.getElem_mem hj';have hJ:=IW.J _ hmem;obtain ⟨hM,hto⟩:=IW.msg hJ;have hgm:x.Net[j]=w.net[j]:=by simp only [R.net]
  obtain ⟨m,hme⟩:∃m,w.net[j]=m:=⟨_,rfl⟩;rw [hme] at hJ hM hto hgm;unfold zn_ at hto;obtain ⟨i,hi⟩:∃i:Nat,m.To=i:=⟨m.To.toNat,by omega⟩;have hll:x.Log.length≤900000000:=by rw [R.log,List.length_map];omega
  refine Za_ rfl rfl (Net.refDrop_yes (H:=H) h3 hj) fun r1 H1 B hl1 ⟨v1,cm,er,hm,hv,eB⟩=>?_;subst er eB;rw [hgm] at hm;obtain ⟨z1,z2,rfl,_,_⟩:=hv.1.shape;have hmm:=hm;obtain ⟨t1,t2,t3,t4,rfl,_,_,_,_,_,_,_,j1,j2,_,_,_,_,j3,_,_,_,j4⟩:=hm;obtain ⟨mb1,mc1,rfl,_,_⟩:=j1.1.shape;obtain ⟨mb2,mc2,rfl,_,_⟩:=j2.1.shape;obtain ⟨mb3,mc3,rfl,_,_⟩:=j3.1.shape;obtain ⟨mb4,mc4,rfl,_,_⟩:=j4.1.shape;refine walk ?_;refine zb_ rfl fun p17 _=>?_;refine walk ?_;have hw1:rW17 H1 (RWc (b1,c1) (b2,c2) (z1,z2) (b4,c4) {x with Net:=Net.del x.Net j}) {x with Net:=Net.del x.Net j}:=⟨_,_,_,_,rfl,h1.mono hl1,h2.mono hl1,hv,h4,h5.mono hl1⟩;refine Za_ rfl rfl (qaO_ (H:=H1) hw1 hmm hok.net hM i hi (by show i<x.Parts.length;omega) (by show i<x.Coords.length;omega) hll) fun r2 H2 B hl2 ⟨c2',y,v2,out,er,hy,hv2,hX,eB⟩=>?_;subst er eB;have hyy:=hy;obtain ⟨⟨d1,e1⟩,⟨d2,e2⟩,⟨d3,e3⟩,⟨d4,e4⟩,rfl,_⟩:=Qi_ hy;obtain ⟨o1,o2,rfl,_,_⟩:=hv2.1.shape;refine walk ?_;refine zb_ rfl fun p19 _=>?_;refine walk ?_;rw [R.net] at hX;have I1:WInv n K B0 {w with net:=delM w.net j}:=IW.less (fun g hg=>zam_ hg) (Nat.le_trans Qam_ IW.nl);obtain ⟨w1,out',hh⟩:=Zdz_ I1 hJ;obtain ⟨_,R1⟩:=(R.withNet (delM w.net j)).hear I1 hX hh;have I3:WInv n K B0 w1:=I1.hear (nt:=w1.net) hJ hh (fun g hg=> .inl (by cases hh<;>exact hg)) (by cases hh<;>exact I1.nl);have hll1:=hh.len;have hyok:=R1.ok I3 (by simp only at hll1;omega);have hyc:=R1.cl;have hwl:=I3.len;have hfi:fits (i:Int):=by unfold fits;omega
  rw [hi];refine Za_ rfl rfl (zaz_ (H:=H2) hyy hyok i (by omega) hfi) fun r3 H3 B hl3 ⟨c3',z,er,hz,hcr,eB⟩=>?_;subst er eB;have hzz:=hz;obtain ⟨⟨f1,g1⟩,⟨f2,g2⟩,⟨f3,g3⟩,⟨f4,g4⟩,rfl,_⟩:=Qi_ hz;refine walk ?_;refine fin0 ?_;exact ⟨_,z,0,rfl,hzz,qcX_ IW hl R hj' (by rw [hme];exact hX) (by rw [hme];exact hi) hcr,rfl⟩
 ·exact v36_
theorem zcb_ {k:Int} (IW:WInv n K B0 w) (hl:w.log.length≤800000000) (R:WRel w x) (h0:rW17 H c x) (ha:fits a) (hs:SlB zj_ 3 56 H v works) (hk:¬(1≤k∧k≤8)):
  Ct Tryz.prog 23 #[.agg c.toArray,I k,I a,v] W0 H [] (fun r H' B=>zW_ w k a works r H' B):=by
 have k1:¬k=1:=by omega
 have k2:¬k=2:=by omega
 have k3:¬k=3:=by omega
 have k4:¬k=4:=by omega
 have k5:¬k=5:=by omega
 have k6:¬k=6:=by omega
 have k7:¬k=7:=by omega
 have k8:¬k=8:=by omega
 refine Ct.go (vs:=[.agg c.toArray,I k,I a,v]) fun Rr=>?_;have h00:=h0;obtain ⟨⟨b1,c1⟩,⟨b2,c2⟩,⟨b3,c3⟩,⟨b4,c4⟩,rfl,h1,h2,h3,h4,h5⟩:=Qi_ h0;obtain ⟨bv,cv,rfl,_,_⟩:=hs.1.shape;refine walk ?_;refine qc_ rfl rfl fun p4 _=>?_;refine zb_ rfl fun p8 _=>?_;refine QB_ ?_;refine fin0 ?_;exact ⟨_,x,1,rfl,⟨_,_,_,_,rfl,h1,h2,h3,h4,h5⟩,Zbl_ R (by unfold okMv;omega),rfl⟩
theorem v14_ {P:Prop} (h:P:=by
 refine zk_ 13 rfl rfl rfl rfl (by simp) rfl ⟨subA,?_⟩;refine qa_ 14 ?_;refine qa_ 15 ?_;refine qb_ rfl ?_;refine walk ?_;refine ZaX_ v1 fun H8 hl8 hsm=>?_;obtain ⟨m1,m2,rfl,_,_⟩:=hsm.1.shape;refine zc_ 15 [row p4 65 (RWc (b1,c1) (b2,c2) (b3,c3) (b4,c4) x),row p21 132 [I q.Node,I q.Life,I q.Count,.slice u9 (Qar_ x.Now q.Txns q.Txns).length o9]] ?_;refine qa_ 0 ?_;refine qa_ 1 ?_;refine qa_ 2 ?_;refine qa_ 4 ?_;refine qa_ 6 ?_;refine qa_ 7 ?_;refine qa_ 8 ?_;refine zg_ 9 rfl rfl rfl (h1.mono (hl7.trans hl8)).1 hip fun bb ob cb hrb hcb=>?_;rw [hpq] at hcb;have hcb0:=hcb;obtain ⟨y1,y2,y3,rfl,g1,g2,g3,g4⟩:=hcb;refine Ql_ 10 rfl rfl rfl hrb rfl ?_;refine qe_ 3 rfl rfl rfl (qW_ (H:=H8) (i:=i) (RdOk.mono (R:=rW17) (hl7.trans hl8) h00) (RdOk.mono (R:=Qu_) hl8 hcc2) hic) fun r3 H9 B hl9 ⟨c3',er,hw3,eB⟩=>?_;subst er eB;refine ⟨subA,?_⟩;have hw3':=hw3;obtain ⟨⟨f1,f2⟩,⟨f3,f4⟩,⟨f5,f6⟩,⟨f7,f8⟩,rfl,_⟩:=Qi_ hw3;refine qe_ 5 rfl rfl rfl (ZV_ (H:=H9) hw3' (hsm.mono hl9)) fun r5 H10 B hl10 ⟨c5',er,hw5,eB⟩=>?_;subst er eB;refine ⟨subA,?_⟩;have hw5':=hw5;obtain ⟨⟨k1,k2⟩,⟨k3,k4⟩,⟨k5,k6⟩,⟨k7,k8⟩,rfl,_⟩:=Qi_ hw5;refine qe_ 11 rfl rfl rfl (zdz_ (H:=H10) (RdOk.mono (R:=ZaA_) (hl9.trans hl10) hcb0) (by omega)) fun r11 H11 B hl11 ⟨eB,eH⟩=>?_;subst eB eH;refine ⟨subA,?_⟩;refine qf_ r11 fun H12 hl12 hsa=>?_;obtain ⟨z1,z2,rfl,_,_⟩:=hsa.1.shape;refine qe_ 12 rfl rfl rfl (ZV_ (H:=H12) (RdOk.mono (R:=rW17) hl12 hw5') hsa) fun r12 H13 B hl13 ⟨c12',er,hw12,eB⟩=>?_;subst er eB;refine ⟨subA,?_⟩;have hw12':=hw12;obtain ⟨⟨n1,n2⟩,⟨n3,n4⟩,⟨n5,n6⟩,⟨n7,n8⟩,rfl,_⟩:=Qi_ hw12;refine zk_ 13 rfl rfl rfl rfl (by simp) rfl ⟨subA,?_⟩;refine qa_ 14 ?_;refine qb_ rfl ?_;refine walk ?_;refine fin0 ?_;refine ⟨_,_,0,rfl,hw12',?_,rfl⟩;have hp:=zcX_ (works:=works) IW (by omega) R hiw hic hip;rw [hcq,hpq,←R.now,←R.net] at hp;exact hp):P:=h
theorem zca_ (IW:WInv n K B0 w) (hl:w.log.length≤800000000) (R:WRel w x) (h0:rW17 H c x) (ha:fits a) (hs:SlB zj_ 3 56 H v works):
  Ct Tryz.prog 23 #[.agg c.toArray,I 5,I a,v] W0 H [] (fun r H' B=>zW_ w 5 a works r H' B):=by
 have hnb:0≤x.Now∧x.Now≤1073741824:=by rw [R.now];exact IW.now
 have hok:=R.ok IW (by omega);have hab: -9223372036854775808≤a∧a≤9223372036854775807:=by unfold fits at ha;omega
 have hpl:=R.pl;have hcl:=R.cl;have hlen:=IW.len;have hn4:=IW.n4;refine Ct.go (vs:=[.agg c.toArray,I 5,I a,v]) fun Rr=>?_;have h00:=h0;obtain ⟨⟨b1,c1⟩,⟨b2,c2⟩,⟨b3,c3⟩,⟨b4,c4⟩,rfl,h1,h2,h3,h4,h5⟩:=Qi_ h0;obtain ⟨bv,cv,rfl,_,_⟩:=hs.1.shape;refine walk ?_;refine qc_ rfl rfl fun p4 _=>?_;refine zb_ rfl fun p8 _=>?_;refine QB_ ?_;by_cases hq:0≤a∧a<x.Parts.length
 ·skip
  rw [decide_eq_false (p:=¬(0≤a∧a<(x.Parts.length:Int))) (fun h=>h hq)];obtain ⟨i,rfl⟩:∃i:Nat,a=i:=⟨a.toNat,by omega⟩;have hip:i<x.Parts.length:=by omega
  have hic:i<x.Coords.length:=by omega
  have hiw:i<w.ns.length:=by omega
  refine walk ?_;have hqok:=hok.c x.Coords[i] (List.getElem_mem hic);have hpok:=hok.p x.Parts[i] (List.getElem_mem hip);obtain ⟨q,hcq⟩:∃q,x.Coords[i]=q:=⟨_,rfl⟩;obtain ⟨pq,hpq⟩:∃pq,x.Parts[i]=pq:=⟨_,rfl⟩;rw [hcq] at hqok;rw [hpq] at hpok;refine zc_ 16 [row p4 65 (RWc (b1,c1) (b2,c2) (b3,c3) (b4,c4) x)] ?_;refine qa_ 0 ?_;refine qa_ 1 ?_;refine qa_ 2 ?_;refine zg_ 3 rfl rfl rfl h2.1 hic fun ba oa ca hra hca=>?_;rw [hcq] at hca;have hcc:=hca;obtain ⟨s1,rfl,e1,e2,e3,e4⟩:=hca;obtain ⟨x1,y1,rfl,_,_⟩:=e4.1.shape;refine Ql_ 4 rfl rfl rfl hra rfl ?_;refine qa_ 5 ?_;refine qa_ 6 ?_;have hs:=qcs_ (W0:=W0) (H:=H) (now:=x.Now) hcc h4 hqok.1 (by omega);refine ZE_ 7 12 (Zt_ 7 rfl rfl hs (fun r7 H7 B hl7 ⟨cs,v1,v2,er,hc2,eB⟩=>?_)) (at_w 12 rfl (zu_ fun p21 _=>⟨(by first|exact .refl _|exact hl7),subA,?_⟩))
  ·skip
   subst er eB;refine ⟨subA,?_⟩;have hcc2:=hc2;obtain ⟨s9,rfl,w1,w2,w3,w4⟩:=hc2;obtain ⟨u9,o9,rfl,_,_⟩:=w4.1.shape;refine qa_ 8 ?_;refine zd_ 9 rfl rfl rfl rfl ?_;refine zd_ 10 rfl rfl rfl rfl ?_;refine zd_ 11 rfl rfl rfl rfl ?_;refine Zbp_ 12 (at_w 12 rfl (zu_ fun p21 _=>⟨(by first|exact .refl _|exact hl7),subA,?_⟩));exact v14_
  ·skip
   refine Zbp_ 7 (Zt_ 7 rfl rfl hs (fun r7 H7 B hl7 ⟨cs,v1,v2,er,hc2,eB⟩=>?_));subst er eB;refine ⟨subA,?_⟩;have hcc2:=hc2;obtain ⟨s9,rfl,w1,w2,w3,w4⟩:=hc2;obtain ⟨u9,o9,rfl,_,_⟩:=w4.1.shape;refine qa_ 8 ?_;refine zd_ 9 rfl rfl rfl rfl ?_;refine zd_ 10 rfl rfl rfl rfl ?_;refine zd_ 11 rfl rfl rfl rfl ?_;exact v14_
 ·skip
  rw [decide_eq_true (p:=¬(0≤a∧a<(x.Parts.length:Int))) hq];exact v59_
theorem v132_ {P:Prop} (h:P:=by
 skip
 refine Zbp_ 8 (Zt_ 8 rfl rfl hs8 (fun r7 H7 B hl7 ⟨cs,tx,v1,e,out,m',er,hRB,hc2,eB⟩=>?_));subst er eB;refine ⟨subA,?_⟩;have hcc2:=hc2;obtain ⟨s9,rfl,w1,w2,w3,w4⟩:=hc2;obtain ⟨u9,o9,rfl,_,_⟩:=w4.1.shape;refine qa_ 9 ?_;refine zd_ 10 rfl rfl rfl rfl ?_;refine zd_ 11 rfl rfl rfl rfl ?_;refine zd_ 12 rfl rfl rfl rfl ?_;refine zd_ 13 rfl rfl rfl rfl ?_;exact v6_):P:=h
theorem v152_ {P:Prop} (h:P:=by
 refine Zbp_ 14 (at_w 14 rfl (zu_ fun p12 _=>⟨(by first|exact .refl _|exact hl7),subA,?_⟩));exact v6_):P:=h
theorem v153_ {P:Prop} (h:P:=by
 refine Zbp_ 15 (at_w 15 rfl (zu_ fun p13 _=>⟨(by first|exact .refl _|exact hl7),subA,?_⟩));exact v6_):P:=h
theorem v6_ {P:Prop} (h:P:=by
 refine zk_ 16 rfl rfl rfl rfl (by simp) rfl ⟨subA,?_⟩;refine zk_ 17 rfl rfl rfl rfl (by simp) rfl ⟨subA,?_⟩;refine qa_ 18 ?_;refine qa_ 19 ?_;refine qb_ rfl ?_;refine walk ?_;refine Za_ rfl rfl (qW_ (H:=H7) (i:=i) (RdOk.mono (R:=rW17) hl7 h00) hcc2 hic) fun r3 H9 B hl9 ⟨c3',er,hw3,eB⟩=>?_;subst er eB;have hw3':=hw3;obtain ⟨⟨f1,f2⟩,⟨f3,f4⟩,⟨f5,f6⟩,⟨f7,f8⟩,rfl,_⟩:=Qi_ hw3;refine Zc_ v1 fun H8 hl8 hsm=>?_;obtain ⟨m1,m2,rfl,_,_⟩:=hsm.1.shape;refine walk ?_;refine Za_ rfl rfl (ZV_ (H:=H8) (RdOk.mono (R:=rW17) hl8 hw3') hsm) fun r5 H10 B hl10 ⟨c5',er,hw5,eB⟩=>?_;subst er eB;have hw5':=hw5;obtain ⟨⟨k1,k2⟩,⟨k3,k4⟩,⟨k5,k6⟩,⟨k7,k8⟩,rfl,_⟩:=Qi_ hw5;refine walk ?_;refine fin0 ?_;refine ⟨_,_,e,rfl,hw5',?_,rfl⟩;have hp:=zct_ (works:=works) (e:=e) (out:=out) (c':=m') (t:=tx) IW (by omega) R hiw hic (by omega) (by rw [hcq,←R.now];exact hRB);rw [←R.net] at hp;exact hp):P:=h
theorem Qca_ (IW:WInv n K B0 w) (hl:w.log.length≤800000000) (R:WRel w x) (h0:rW17 H c x) (ha:fits a) (hs:SlB zj_ 3 56 H v works):
  Ct Tryz.prog 23 #[.agg c.toArray,I 1,I a,v] W0 H [] (fun r H' B=>zW_ w 1 a works r H' B):=by
 have hnb:0≤x.Now∧x.Now≤1073741824:=by rw [R.now];exact IW.now
 have hok:=R.ok IW (by omega);have hab: -9223372036854775808≤a∧a≤9223372036854775807:=by unfold fits at ha;omega
 have hpl:=R.pl;have hcl:=R.cl;have hlen:=IW.len;have hn4:=IW.n4;refine Ct.go (vs:=[.agg c.toArray,I 1,I a,v]) fun Rr=>?_;have h00:=h0;obtain ⟨⟨b1,c1⟩,⟨b2,c2⟩,⟨b3,c3⟩,⟨b4,c4⟩,rfl,h1,h2,h3,h4,h5⟩:=Qi_ h0;obtain ⟨bv,cv,rfl,_,_⟩:=hs.1.shape;refine walk ?_;refine qc_ rfl rfl fun p4 _=>?_;refine zb_ rfl fun p8 _=>?_;refine QB_ ?_;by_cases hq:(0≤a∧a<x.Parts.length)∧works.length≤x.Parts.length
 ·obtain ⟨hq,hwl⟩:=hq;have hwl3:¬(x.Parts.length:Int)<(works.length:Int):=by omega
  rw [decide_eq_false (p:=¬(0≤a∧a<(x.Parts.length:Int))∨(x.Parts.length:Int)<(works.length:Int)) (by omega)];obtain ⟨i,rfl⟩:∃i:Nat,a=i:=⟨a.toNat,by omega⟩;have hip:i<x.Parts.length:=by omega
  have hic:i<x.Coords.length:=by omega
  have hiw:i<w.ns.length:=by omega
  refine walk ?_;have hqok:=hok.c x.Coords[i] (List.getElem_mem hic);obtain ⟨q,hcq⟩:∃q,x.Coords[i]=q:=⟨_,rfl⟩;rw [hcq] at hqok;refine zc_ 20 [row p4 65 (RWc (b1,c1) (b2,c2) (b3,c3) (b4,c4) x)] ?_;refine qa_ 0 ?_;refine qa_ 1 ?_;refine qa_ 2 ?_;refine zg_ 3 rfl rfl rfl h2.1 hic fun ba oa ca hra hca=>?_;rw [hcq] at hca;have hcc:=hca;obtain ⟨s1,rfl,e1,e2,e3,e4⟩:=hca;obtain ⟨x1,y1,rfl,_,_⟩:=e4.1.shape;refine Ql_ 4 rfl rfl rfl hra rfl ?_;refine qa_ 5 ?_;refine qa_ 6 ?_;refine qa_ 7 ?_;have hs8:=ZbX_ (W0:=W0) (H:=H) (now:=x.Now) hcc hs (by omega) h4 (by unfold fits;omega) (by omega);refine qcN_ 8 14 15 (Zt_ 8 rfl rfl hs8 (fun r7 H7 B hl7 ⟨cs,tx,v1,e,out,m',er,hRB,hc2,eB⟩=>?_)) (at_w 14 rfl (zu_ fun p12 _=>⟨(by first|exact .refl _|exact hl7),subA,?_⟩)) (at_w 15 rfl (zu_ fun p13 _=>⟨(by first|exact .refl _|exact hl7),subA,?_⟩))
  ·skip
   subst er eB;refine ⟨subA,?_⟩;have hcc2:=hc2;obtain ⟨s9,rfl,w1,w2,w3,w4⟩:=hc2;obtain ⟨u9,o9,rfl,_,_⟩:=w4.1.shape;refine qa_ 9 ?_;refine zd_ 10 rfl rfl rfl rfl ?_;refine zd_ 11 rfl rfl rfl rfl ?_;refine zd_ 12 rfl rfl rfl rfl ?_;refine zd_ 13 rfl rfl rfl rfl ?_;refine ZE_ 14 15 (at_w 14 rfl (zu_ fun p12 _=>⟨(by first|exact .refl _|exact hl7),subA,?_⟩)) (at_w 15 rfl (zu_ fun p13 _=>⟨(by first|exact .refl _|exact hl7),subA,?_⟩))
   ·skip
    exact v153_
   ·skip
    exact v152_
  ·skip
   refine ZE_ 8 15 (Zt_ 8 rfl rfl hs8 (fun r7 H7 B hl7 ⟨cs,tx,v1,e,out,m',er,hRB,hc2,eB⟩=>?_)) (at_w 15 rfl (zu_ fun p13 _=>⟨(by first|exact .refl _|exact hl7),subA,?_⟩))
   ·skip
    subst er eB;refine ⟨subA,?_⟩;have hcc2:=hc2;obtain ⟨s9,rfl,w1,w2,w3,w4⟩:=hc2;obtain ⟨u9,o9,rfl,_,_⟩:=w4.1.shape;refine qa_ 9 ?_;refine zd_ 10 rfl rfl rfl rfl ?_;refine zd_ 11 rfl rfl rfl rfl ?_;refine zd_ 12 rfl rfl rfl rfl ?_;refine zd_ 13 rfl rfl rfl rfl ?_;exact v153_
   ·exact v132_
  ·skip
   refine ZE_ 8 14 (Zt_ 8 rfl rfl hs8 (fun r7 H7 B hl7 ⟨cs,tx,v1,e,out,m',er,hRB,hc2,eB⟩=>?_)) (at_w 14 rfl (zu_ fun p12 _=>⟨(by first|exact .refl _|exact hl7),subA,?_⟩))
   ·skip
    subst er eB;refine ⟨subA,?_⟩;have hcc2:=hc2;obtain ⟨s9,rfl,w1,w2,w3,w4⟩:=hc2;obtain ⟨u9,o9,rfl,_,_⟩:=w4.1.shape;refine qa_ 9 ?_;refine zd_ 10 rfl rfl rfl rfl ?_;refine zd_ 11 rfl rfl rfl rfl ?_;refine zd_ 12 rfl rfl rfl rfl ?_;refine zd_ 13 rfl rfl rfl rfl ?_;exact v152_
   ·exact v132_
 ·rw [decide_eq_true (p:=¬(0≤a∧a<(x.Parts.length:Int))∨(x.Parts.length:Int)<(works.length:Int)) (by omega)];exact v59_
end Go.Proofs.YtlflbkpmfhhikaaGreatDoor
