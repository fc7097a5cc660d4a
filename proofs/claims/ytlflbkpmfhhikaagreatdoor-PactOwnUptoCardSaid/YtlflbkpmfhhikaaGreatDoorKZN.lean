/- The document's world, walked: any move; a new world. -/
import Derived.Test.YtlflbkpmfhhikaaGreatDoorKUG
import Derived.Test.YtlflbkpmfhhikaaGreatDoorKWC
import Derived.Test.YtlflbkpmfhhikaaGreatDoorKYF
import Derived.Test.YtlflbkpmfhhikaaGreatDoorKYI
import Derived.Test.YtlflbkpmfhhikaaGreatDoorKZL
set_option maxHeartbeats 16000000
set_option maxRecDepth 100000
set_option linter.unusedVariables false
set_option linter.unusedSimpArgs false
namespace Go.Proofs.YtlflbkpmfhhikaaGreatDoor
open Go Go.Sx Go.Proofs
theorem v11_ {P:Prop} (h:P:=by
 refine Zi_ 13 rfl rfl rfl rfl (by simp) rfl ⟨subA,?_⟩;refine qa_ 14 ?_;refine qa_ 15 ?_;refine qb_ rfl ?_;refine walk ?_;refine zaV_ v1 fun H8 hl8 hsm=>?_;obtain ⟨m1,m2,rfl,_,_⟩:=hsm.1.shape;refine zc_ 15 [row p4 65 (RWc (b1,c1) (b2,c2) (b3,c3) (b4,c4) x),row p21 132 [I q.Node,I q.Life,I q.Count,.slice u9 (zao_ x.Now q.Txns q.Txns).length o9]] ?_;refine qa_ 0 ?_;refine qa_ 1 ?_;refine qa_ 2 ?_;refine qa_ 4 ?_;refine qa_ 6 ?_;refine qa_ 7 ?_;refine qa_ 8 ?_;refine Qf_ 9 rfl rfl rfl (h1.mono (hl7.trans hl8)).1 hip fun bb ob cb hrb hcb=>?_;rw [hpq] at hcb;have hcb0:=hcb;obtain ⟨y1,y2,y3,rfl,g1,g2,g3,g4⟩:=hcb;refine Zl_ 10 rfl rfl rfl hrb rfl ?_;refine ze_ 3 rfl rfl rfl (Zai_ (W0:=W0) (H:=H8) (i:=i) (RdOk.mono (R:=rW17) (hl7.trans hl8) h00) (RdOk.mono (R:=qu_) hl8 hcc2) hic) fun r3 H9 B hl9 ⟨c3',er,hw3,eB⟩=>?_;subst er eB;refine ⟨subA,?_⟩;have hw3':=hw3;obtain ⟨⟨f1,f2⟩,⟨f3,f4⟩,⟨f5,f6⟩,⟨f7,f8⟩,rfl,_⟩:=Zo_ hw3;refine ze_ 5 rfl rfl rfl (ZT_ (W0:=W0) (H:=H9) hw3' (hsm.mono hl9)) fun r5 H10 B hl10 ⟨c5',er,hw5,eB⟩=>?_;subst er eB;refine ⟨subA,?_⟩;have hw5':=hw5;obtain ⟨⟨k1,k2⟩,⟨k3,k4⟩,⟨k5,k6⟩,⟨k7,k8⟩,rfl,_⟩:=Zo_ hw5;refine ze_ 11 rfl rfl rfl (Qdk_ (W0:=W0) (H:=H10) (RdOk.mono (R:=zaz_) (hl9.trans hl10) hcb0) (by omega)) fun r11 H11 B hl11 ⟨eB,eH⟩=>?_;subst eB eH;refine ⟨subA,?_⟩;refine zi_ r11 fun H12 hl12 hsa=>?_;obtain ⟨z1,z2,rfl,_,_⟩:=hsa.1.shape;refine ze_ 12 rfl rfl rfl (ZT_ (W0:=W0) (H:=H12) (RdOk.mono (R:=rW17) hl12 hw5') hsa) fun r12 H13 B hl13 ⟨c12',er,hw12,eB⟩=>?_;subst er eB;refine ⟨subA,?_⟩;have hw12':=hw12;obtain ⟨⟨n1,n2⟩,⟨n3,n4⟩,⟨n5,n6⟩,⟨n7,n8⟩,rfl,_⟩:=Zo_ hw12;refine Zi_ 13 rfl rfl rfl rfl (by simp) rfl ⟨subA,?_⟩;refine qa_ 14 ?_;refine qb_ rfl ?_;refine walk ?_;refine fin0 ?_;refine ⟨_,_,0,rfl,hw12',?_,rfl⟩;have hp:=ZcG_ (works:=works) IW (by omega) R hiw hic hip;rw [hcq,hpq,←R.now,←R.net] at hp;exact hp):P:=h
theorem v70_ {P:Prop} (h:P:=by
 refine walk ?_;refine fin0 ?_;exact ⟨_,x,1,rfl,⟨_,_,_,_,rfl,h1,h2,h3,h4,h5⟩,qdl_ R (by rw [hpl] at hq;unfold okMv qt_;omega),rfl⟩):P:=h
theorem v107_ {P:Prop} (h:P:=by
 skip
 refine qca_ 8 (zA_ 8 rfl rfl hs8 (fun r7 H7 B hl7 ⟨cs,tx,v1,e,out,m',er,hRB,hc2,eB⟩=>?_));subst er eB;refine ⟨subA,?_⟩;have hcc2:=hc2;obtain ⟨s9,rfl,w1,w2,w3,w4⟩:=hc2;obtain ⟨u9,o9,rfl,_,_⟩:=w4.1.shape;refine qa_ 9 ?_;refine Qd_ 10 rfl rfl rfl rfl ?_;refine Qd_ 11 rfl rfl rfl rfl ?_;refine Qd_ 12 rfl rfl rfl rfl ?_;refine Qd_ 13 rfl rfl rfl rfl ?_;exact v4_):P:=h
theorem v121_ {P:Prop} (h:P:=by
 refine qca_ 14 (at_w 14 rfl (qA_ fun p12 _=>⟨(by first | exact Go.Sx.Heap.le.refl _ | exact hl7),subA,?_⟩));exact v4_):P:=h
theorem v122_ {P:Prop} (h:P:=by
 refine qca_ 15 (at_w 15 rfl (qA_ fun p13 _=>⟨(by first | exact Go.Sx.Heap.le.refl _ | exact hl7),subA,?_⟩));exact v4_):P:=h
theorem v4_ {P:Prop} (h:P:=by
 refine Zi_ 16 rfl rfl rfl rfl (by simp) rfl ⟨subA,?_⟩;refine Zi_ 17 rfl rfl rfl rfl (by simp) rfl ⟨subA,?_⟩;refine qa_ 18 ?_;refine qa_ 19 ?_;refine qb_ rfl ?_;refine walk ?_;refine Za_ rfl rfl (Zai_ (W0:=W0) (H:=H7) (i:=i) (RdOk.mono (R:=rW17) hl7 h00) hcc2 hic) fun r3 H9 B hl9 ⟨c3',er,hw3,eB⟩=>?_;subst er eB;have hw3':=hw3;obtain ⟨⟨f1,f2⟩,⟨f3,f4⟩,⟨f5,f6⟩,⟨f7,f8⟩,rfl,_⟩:=Zo_ hw3;refine Zd_ v1 fun H8 hl8 hsm=>?_;obtain ⟨m1,m2,rfl,_,_⟩:=hsm.1.shape;refine walk ?_;refine Za_ rfl rfl (ZT_ (W0:=W0) (H:=H8) (RdOk.mono (R:=rW17) hl8 hw3') hsm) fun r5 H10 B hl10 ⟨c5',er,hw5,eB⟩=>?_;subst er eB;have hw5':=hw5;obtain ⟨⟨k1,k2⟩,⟨k3,k4⟩,⟨k5,k6⟩,⟨k7,k8⟩,rfl,_⟩:=Zo_ hw5;refine walk ?_;refine fin0 ?_;refine ⟨_,_,e,rfl,hw5',?_,rfl⟩;have hp:=Zcf_ (works:=works) (e:=e) (out:=out) (c':=m') (t:=tx) IW (by omega) R hiw hic (by omega) (by rw [hcq,←R.now];exact hRB);rw [←R.net] at hp;exact hp):P:=h
theorem zce_ {W0:World} {H:Heap} {c:List Value} {n K:Nat} {B0:List BT} {w:PW} {x:RW} {a:Int} {v:Value} {works:List Work} (IW:WInv n K B0 w) (hl:w.log.length≤800000000) (R:WRel w x) (h0:rW17 H c x) (ha:fits a) (hs:SlB Qi_ 3 56 H v works):
  Ct Tryz.prog 23 #[.agg c.toArray,I 1,I a,v] W0 H [] (fun r H' B=>Zce_ w 1 a works r H' B):=by
 have hnb:0≤x.Now∧x.Now≤1073741824:=by rw [R.now];exact IW.now
 have hok:=R.ok IW (by omega);have hab: -9223372036854775808≤a∧a≤9223372036854775807:=by unfold fits at ha;omega
 have hpl:=R.pl;have hcl:=R.cl;have hlen:=IW.len;have hn4:=IW.n4;refine Ct.go (vs:=[.agg c.toArray,I 1,I a,v]) fun Rr=>?_;have h00:=h0;obtain ⟨⟨b1,c1⟩,⟨b2,c2⟩,⟨b3,c3⟩,⟨b4,c4⟩,rfl,h1,h2,h3,h4,h5⟩:=Zo_ h0;obtain ⟨bv,cv,rfl,_,_⟩:=hs.1.shape;refine walk ?_;refine qc_ rfl rfl fun p4 _=>?_;refine Qb_ rfl fun p8 _=>?_;refine ZI_ ?_;by_cases hq:(0≤a∧a<x.Parts.length)∧works.length≤x.Parts.length
 ·obtain ⟨hq,hwl⟩:=hq;have hwl3:¬(x.Parts.length:Int)<(works.length:Int):=by omega
  rw [decide_eq_false (p:=¬(0≤a∧a<(x.Parts.length:Int))∨(x.Parts.length:Int)<(works.length:Int)) (by omega)];obtain ⟨i,rfl⟩:∃i:Nat,a=i:=⟨a.toNat,by omega⟩;have hip:i<x.Parts.length:=by omega
  have hic:i<x.Coords.length:=by omega
  have hiw:i<w.ns.length:=by omega
  refine walk ?_;have hqok:=hok.c x.Coords[i] (List.getElem_mem hic);obtain ⟨q,hcq⟩:∃q,x.Coords[i]=q:=⟨_,rfl⟩;rw [hcq] at hqok;refine zc_ 20 [row p4 65 (RWc (b1,c1) (b2,c2) (b3,c3) (b4,c4) x)] ?_;refine qa_ 0 ?_;refine qa_ 1 ?_;refine qa_ 2 ?_;refine Qf_ 3 rfl rfl rfl h2.1 hic fun ba oa ca hra hca=>?_;rw [hcq] at hca;have hcc:=hca;obtain ⟨s1,rfl,e1,e2,e3,e4⟩:=hca;obtain ⟨x1,y1,rfl,_,_⟩:=e4.1.shape;refine Zl_ 4 rfl rfl rfl hra rfl ?_;refine qa_ 5 ?_;refine qa_ 6 ?_;refine qa_ 7 ?_;have hs8:=zby_ (W0:=W0) (H:=H) (now:=x.Now) hcc hs (by omega) h4 (by unfold fits;omega) (by omega);refine qcv_ 8 14 15 (zA_ 8 rfl rfl hs8 (fun r7 H7 B hl7 ⟨cs,tx,v1,e,out,m',er,hRB,hc2,eB⟩=>?_)) (at_w 14 rfl (qA_ fun p12 _=>⟨(by first | exact Go.Sx.Heap.le.refl _ | exact hl7),subA,?_⟩)) (at_w 15 rfl (qA_ fun p13 _=>⟨(by first | exact Go.Sx.Heap.le.refl _ | exact hl7),subA,?_⟩))
  ·skip
   subst er eB;refine ⟨subA,?_⟩;have hcc2:=hc2;obtain ⟨s9,rfl,w1,w2,w3,w4⟩:=hc2;obtain ⟨u9,o9,rfl,_,_⟩:=w4.1.shape;refine qa_ 9 ?_;refine Qd_ 10 rfl rfl rfl rfl ?_;refine Qd_ 11 rfl rfl rfl rfl ?_;refine Qd_ 12 rfl rfl rfl rfl ?_;refine Qd_ 13 rfl rfl rfl rfl ?_;refine qG_ 14 15 (at_w 14 rfl (qA_ fun p12 _=>⟨(by first | exact Go.Sx.Heap.le.refl _ | exact hl7),subA,?_⟩)) (at_w 15 rfl (qA_ fun p13 _=>⟨(by first | exact Go.Sx.Heap.le.refl _ | exact hl7),subA,?_⟩))
   ·skip
    exact v122_
   ·skip
    exact v121_
  ·skip
   refine qG_ 8 15 (zA_ 8 rfl rfl hs8 (fun r7 H7 B hl7 ⟨cs,tx,v1,e,out,m',er,hRB,hc2,eB⟩=>?_)) (at_w 15 rfl (qA_ fun p13 _=>⟨(by first | exact Go.Sx.Heap.le.refl _ | exact hl7),subA,?_⟩))
   ·skip
    subst er eB;refine ⟨subA,?_⟩;have hcc2:=hc2;obtain ⟨s9,rfl,w1,w2,w3,w4⟩:=hc2;obtain ⟨u9,o9,rfl,_,_⟩:=w4.1.shape;refine qa_ 9 ?_;refine Qd_ 10 rfl rfl rfl rfl ?_;refine Qd_ 11 rfl rfl rfl rfl ?_;refine Qd_ 12 rfl rfl rfl rfl ?_;refine Qd_ 13 rfl rfl rfl rfl ?_;exact v122_
   ·exact v107_
  ·skip
   refine qG_ 8 14 (zA_ 8 rfl rfl hs8 (fun r7 H7 B hl7 ⟨cs,tx,v1,e,out,m',er,hRB,hc2,eB⟩=>?_)) (at_w 14 rfl (qA_ fun p12 _=>⟨(by first | exact Go.Sx.Heap.le.refl _ | exact hl7),subA,?_⟩))
   ·skip
    subst er eB;refine ⟨subA,?_⟩;have hcc2:=hc2;obtain ⟨s9,rfl,w1,w2,w3,w4⟩:=hc2;obtain ⟨u9,o9,rfl,_,_⟩:=w4.1.shape;refine qa_ 9 ?_;refine Qd_ 10 rfl rfl rfl rfl ?_;refine Qd_ 11 rfl rfl rfl rfl ?_;refine Qd_ 12 rfl rfl rfl rfl ?_;refine Qd_ 13 rfl rfl rfl rfl ?_;exact v121_
   ·exact v107_
 ·rw [decide_eq_true (p:=¬(0≤a∧a<(x.Parts.length:Int))∨(x.Parts.length:Int)<(works.length:Int)) (by omega)];exact v70_
theorem PPlay.more {m m':Nat} {w w':PW} {k a e:Int} {works:List Work} (h:PPlay m w k a works w' e) (hm:m≤m'):PPlay m' w k a works w' e:=by
 have hc:∀{w w':PW} {i:Nat},PCrash m w i w'→PCrash m' w i w':=fun h=>by
  cases h with
  | mk h s' hs hI=>exact .mk h s' hs (hI.more hm)
 cases h with
 | bad h=>exact .bad h
 | begin hk i ha h hn ws hw=>exact .begin hk i ha h hn ws hw
 | none hk h=>exact .none hk h
 | deliver hk j ha h w' out hh=>exact .deliver hk j ha h w' out hh
 | fail hk j ha h w' w'' out hh i hi h1=>exact .fail hk j ha h w' _ out hh i hi (hc h1)
 | drop hk j ha h=>exact .drop hk j ha h
 | copy hk j ha h hf=>exact .copy hk j ha h hf
 | full hk j ha h hf=>exact .full hk j ha h hf
 | step hk i ha h=>exact .step hk i ha h
 | tick hk h0 h=>exact .tick hk h0 h
 | crash hk i ha h w' h1=>exact .crash hk i ha h _ (hc h1)
theorem qcq_ {ι:Type} {A:ι→za_} {l:List ι} {x:ι} {L:List za_}:Sub (A x::bigL A l::L) (bigL A (l++[x])::L):=by
 have h:=bigL_in (A:=A) (l1:=l) (x:=x) (l2:=[]) (L:=L);rwa [List.append_nil] at h
def NewQ (nodes:Int) (r:Value) (H':Heap) (B:List za_):Prop:=
  (¬(1≤nodes∧nodes≤4)∧r= .tuple #[.pointer none,I 1]∧B=[])∨(∃(n:Nat) (p:Nat),nodes=n∧(1≤n∧n≤4)∧r= .tuple #[ptrC p,I 0]∧B=[Zc_ H' p (newW n)])
theorem zbK_ {W0:World} {H:Heap} {nodes:Int}:
  Ct Tryz.prog 13 #[I nodes] W0 H [] (fun r H' B=>NewQ nodes r H' B):=by
 refine Ct.go (vs:=[I nodes]) fun R=>?_;by_cases h1:nodes<1
 ·refine walk ?_;refine fin0 ?_;exact .inl ⟨by omega,rfl,rfl⟩
 by_cases h2:4<nodes
 ·refine walk ?_;refine fin0 ?_;exact .inl ⟨by omega,rfl,rfl⟩
 obtain ⟨n,rfl⟩:∃n:Nat,nodes=n:=⟨nodes.toNat,by omega⟩;refine walk ?_;refine Za_ (vs:=[]) rfl rfl (Net.new_spec (W0:=W0) (H:=H)) fun r1 H1 B hl1 ⟨eB,eH⟩=>?_;subst eB eH;refine zal_ .here (fun h=>Net.netO_ptr) fun ⟨nb,e⟩=>?_;subst e;refine walk ?_;refine qc_ rfl rfl fun p _=>?_;refine walk ?_;have hrs:∀k,(List.range (k+1)).map newN=(List.range k).map newN++[newN k]:=fun k=>by rw [List.range_succ,List.map_append];rfl
 refine Qc_ (σ:=Nat×List NE×(Option Addr×Nat)) (fun u=>u.1≤n∧u.2.1.map NE.q=(List.range u.1).map newN) (fun u=>[(4,ptrC p),(15,I n),(16,I u.1)]) (fun _=>H1)
  (fun u=>wRow p (.slice u.2.2.1 u.2.1.length u.2.2.2) nb 0 nilS::wNs (.slice u.2.2.1 u.2.1.length u.2.2.2) u.2.1::bigL (ndP H1) u.2.1::bigL (ndC H1) u.2.1::Net.netO H1 (ptrC nb) []::R) (fun u=>n - u.1) (0,[],none,0) ⟨Nat.zero_le _,rfl⟩ (hs0:=?hs0) fun ⟨k,es,d,e⟩ ⟨hk0,hes⟩ K hL=>?_
 case hs0=>
  refine Sub.trans (B:=wRow p nilS nb 0 nilS::Net.netO H1 (ptrC nb) []::R) subA ?_;refine Sub.trans (Sub.trans (Sub.trans qE_ (Sub.cons qE_)) (Sub.cons (Sub.cons ownS_nil))) (show Sub (bigL (ndC H1) []::bigL (ndP H1) []::wNs nilS []::wRow p nilS nb 0 nilS::Net.netO H1 (ptrC nb) []::R) _ from ?_);exact subA
 simp only at hk0 hes;dsimp only;have hel:es.length=k:=by have:=congrArg List.length hes;simpa using this
 refine walk ?_;refine Qe_ rfl (fun hk=>?_) (fun hk=>?_)
 ·have hk1:k<n:=by omega
  have hfk:fits (k:Int):=by unfold fits;omega
  refine walk ?_;refine zc_ 12 [wRow p (.slice d es.length e) nb 0 nilS] ?_;refine qa_ 0 ?_;refine qa_ 1 ?_;refine qa_ 2 ?_;refine qa_ 3 ?_;refine qa_ 4 ?_;refine qa_ 5 ?_;refine qa_ 7 ?_;refine ze_ 6 rfl rfl rfl (Zdd_ (W0:=W0) (H:=H1) (sh:=(k:Int)) hfk) fun r2 H2 B hl2 ⟨pp,er,eB,eH⟩=>?_;subst er eB eH;refine ⟨subA,?_⟩;refine ze_ 8 rfl rfl rfl (ZcH_ (W0:=W0) (H:=H2) (node:=(k:Int)) (life:=1)) fun r3 H3 B hl3 ⟨cp,er,eB,eH⟩=>?_;subst er eB eH;refine ⟨subA,?_⟩;refine qa_ 9 ?_;refine Qu_ (y:=(⟨pp,cp,newN k⟩:NE)) 10 11 rfl rfl rfl rfl (by rw [hel];simp only [zb_];omega) (hl:=zS_ _) fun d3 e3=>⟨subA,?_⟩;refine qb_ rfl ?_;refine walk ?_;have hl3:es.length+1=(es++[(⟨pp,cp,newN k⟩:NE)]).length:=by simp
  rw [hl3];refine Zb_ hL (k+1,es++[⟨pp,cp,newN k⟩],d3,e3) ⟨by simp only;omega,by simp only;rw [List.map_append,hes,hrs];rfl⟩ (hs:=?_);refine Sub.trans (B:=ownS rNE 3 24 92 H3 (.slice d3 (es++[(⟨pp,cp,newN k⟩:NE)]).length e3) (es++[⟨pp,cp,newN k⟩])::ndC H3 ⟨pp,cp,newN k⟩::bigL (ndC H3) es::ndP H3 ⟨pp,cp,newN k⟩::bigL (ndP H3) es::wRow p (.slice d3 (es++[(⟨pp,cp,newN k⟩:NE)]).length e3) nb 0 nilS::Net.netO H3 (ptrC nb) []::R) (by rw [show ndC H3 ⟨pp,cp,newN k⟩=qj_ H3 cp ⟨k,1,0,[]⟩ from rfl,show ndP H3 ⟨pp,cp,newN k⟩=zv_ H3 pp ⟨k,⟨[],[],[]⟩,[]⟩ from rfl];exact subA) ?_;refine Sub.trans (qr_ H3 Heap.empty) ?_;refine Sub.trans (Sub.cons (Sub.trans qcq_ (Sub.cons qcq_))) ?_;dsimp only;exact subA
 ·clear hL;obtain rfl:k=n:=by omega
  refine walk ?_;refine finB [Zc_ H1 p (newW k)] ?_ (hs:=?_)
  ·exact .inr ⟨k,p,rfl,by omega,rfl,rfl⟩
  ·refine Sub.trans (B:=wRow p (.slice d es.length e) nb 0 nilS::wNs (.slice d es.length e) es::bigL (ndP H1) es::bigL (ndC H1) es::Net.netO H1 (ptrC nb) []::R) subA ?_;refine Sub.trans (Sub.cons (Sub.cons (Sub.cons (Sub.cons (Sub.cons (ownS_nil (R:=ZJ_) (sz:=10) (w:=128) (T:=71) (H:=H1) (base:=none))))))) ?_;exact qC_ (w:=newW k) (nv:= .slice d es.length e) (nb:=nb) (lv:=nilS) hes.symm
def qbb_ (i:Nat):Part:=⟨i,⟨[],[]⟩,[]⟩
def zaC_ (i:Nat):Coord:=⟨i,1,0,[]⟩
def Zcd_ (n:Nat):RW:=⟨(List.range n).map qbb_,(List.range n).map zaC_,[],0,[]⟩
theorem zek_ {n:Nat}:WRel (newW n) (Zcd_ n):=by
 refine ⟨by simp [Zcd_,newW],by simp [Zcd_,newW],fun i h h'=>?_,fun i h h'=>?_,rfl,rfl,rfl⟩
 ·simp only [newW,Zcd_,List.getElem_map,List.getElem_range];exact Qej_
 ·simp only [newW,Zcd_,List.getElem_map,List.getElem_range];exact crel0
theorem zaq_ {α:Type} {f:Nat→α} {i:Nat}:(List.range (i+1)).map f=(List.range i).map f++[f i]:=by rw [List.range_succ,List.map_append];rfl
theorem qce_ {W0:World} {H:Heap} {n:Nat} (hn:n≤1000):
  Ct Tryz.prog 22 #[I n] W0 H [] (fun r H' B=>∃c',r= .agg c'.toArray∧rW17 H' c' (Zcd_ n)∧B=[]):=by
 refine Ct.go (vs:=[I n]) fun R=>?_;refine walk ?_;refine Qb_ rfl fun p2 _=>?_;refine walk ?_;refine Qb_ rfl fun p3 _=>?_;refine walk ?_
 refine Qc_ (σ:=Nat×(Option Addr×Nat)×(Option Addr×Nat)) (fun u=>u.1≤n) (fun u=>[(0,I n),(2,.pointer (some ⟨p2,0,none⟩)),(3,.pointer (some ⟨p3,0,none⟩)),(4,I u.1)]) (fun _=>H)
  (fun u=>ownS zaz_ 4 80 129 H (.slice u.2.1.1 u.1 u.2.1.2) ((List.range u.1).map qbb_)::ownS qu_ 4 48 132 H (.slice u.2.2.1 u.1 u.2.2.2) ((List.range u.1).map zaC_)::row p3 65 [.slice u.2.1.1 u.1 u.2.1.2,.slice u.2.2.1 u.1 u.2.2.2,nilS,I 0,nilS]::row p2 65 [nilS,nilS,nilS,I 0,nilS]::R) (fun u=>n - u.1) (0,(none,0),(none,0)) (Nat.zero_le _) (hs0:=?_) fun ⟨i,⟨b1,c1⟩,⟨b2,c2⟩⟩ hi0 K hL=>?_
 rotate_left
 ·show Sub _ (ownS zaz_ 4 80 129 H nilS []::ownS qu_ 4 48 132 H nilS []::row p3 65 [nilS,nilS,nilS,I 0,nilS]::row p2 65 [nilS,nilS,nilS,I 0,nilS]::R);refine Sub.trans (Sub.trans (B:=row p3 65 [nilS,nilS,nilS,I 0,nilS]::row p2 65 [nilS,nilS,nilS,I 0,nilS]::R) subA (ownS_nil (R:=qu_) (sz:=4) (w:=48) (T:=132) (H:=H))) (ownS_nil (R:=zaz_) (sz:=4) (w:=80) (T:=129) (H:=H))
 simp only at hi0;dsimp only;by_cases hi1:i<n
 ·have hi2:(i:Int)<(n:Int):=by omega
  have hfi:fits (i:Int):=by unfold fits;omega
  have hf1:fits (1:Int):=by unfold fits;omega
  have e1:((List.range i).map qbb_).length=i:=by simp
  have e2:((List.range i).map zaC_).length=i:=by simp
  refine walk ?_;refine zj_ (y:=qbb_ i) rfl rfl rfl ⟨_,_,_,rfl,hfi,SlB.nil,SlB.nil,SlB.nil⟩ (by rw [e1];unfold zb_;omega) fun d3 e3=>?_;rw [e1,←zaq_];refine walk ?_;refine zj_ (y:=zaC_ i) rfl rfl rfl ⟨_,rfl,hfi,hf1,Zg_,SlB.nil⟩ (by rw [e2];unfold zb_;omega) fun d4 e4=>?_;rw [e2,←zaq_];refine walk ?_;refine Zb_ hL (i+1,(d3,e3),(d4,e4)) (by simp only;omega)
 ·obtain rfl:i=n:=by omega
  clear hL;refine walk ?_;refine qg_ (.slice b1 i c1) fun H1 hl1 hs1=>?_;refine qg_ (.slice b2 i c2) fun H2 hl2 hs2=>?_;refine fin0 ?_;have e1:((List.range i).map qbb_).length=i:=by simp
  have e2:((List.range i).map zaC_).length=i:=by simp
  exact ⟨_,rfl,⟨_,_,_,_,rfl,hs1.mono hl2,hs2,SlB.nil,Zg_,SlB.nil⟩,rfl⟩
end Go.Proofs.YtlflbkpmfhhikaaGreatDoor
