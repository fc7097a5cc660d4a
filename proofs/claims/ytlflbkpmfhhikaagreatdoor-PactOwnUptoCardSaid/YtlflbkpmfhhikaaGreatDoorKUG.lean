/- The reference's coordinator: Step. -/
import Derived.Test.YtlflbkpmfhhikaaGreatDoorKTX
set_option maxHeartbeats 16000000
set_option maxRecDepth 100000
set_option linter.unusedVariables false
set_option linter.unusedSimpArgs false
namespace Go.Proofs.YtlflbkpmfhhikaaGreatDoor
open Go Go.Sx Go.Proofs
theorem Zdw_ {n:Int} {t:RTx} {j:Nat} (hj:j<t.Parts.length):(t.Parts.take (j+1)).map (fun p=>decM n t.X p false)=(t.Parts.take j).map (fun p=>decM n t.X p false)++[decM n t.X t.Parts[j] false]:=by
 rw [List.take_succ_eq_append_getElem hj,List.map_append];rfl
theorem Zbi_ {n:Int} {t:RTx} {k:Nat}:(againR n t k).length≤k:=by
 unfold againR;rw [List.length_map];exact Nat.le_trans (List.length_filter_le _ _) (by simp)
theorem v83_ {P:Prop} (h:P:=by
 refine walk ?_;exact Zb_ hL (j+1,d9,e9) (by simp only;omega)):P:=h
theorem Qbt_ {W0:World} {H:Heap} {c ct:List Value} {m:Coord} {t:RTx} (h0:qu_ H c m) (ht:rC16 H ct t) (hn:t.Parts.length≤1000000):
  Ct Tryz.prog 96 #[.agg c.toArray,.agg ct.toArray] W0 H [] (fun r H' B=>B=[ownS Qa_ 19 216 106 H' r (noR m.Node t)]∧H'=H):=by
 refine Ct.go (vs:=[.agg c.toArray,.agg ct.toArray]) fun R=>?_;obtain ⟨s1,rfl,f1,f2,f3,hs1⟩:=h0;obtain ⟨b1,c1,rfl,hc1,hd1⟩:=hs1.1.shape;obtain ⟨nd,lf,cn,l⟩:=m;obtain ⟨⟨x1,x2,x3⟩,op,bg,ps,wk,hd⟩:=t;obtain ⟨u1,u2,u3,rfl,g1,g2,g3,g4,g5,g6,g7⟩:=ht;obtain ⟨e1,d1,rfl,he1,hd1⟩:=g5.1.shape;obtain ⟨e2,d2,rfl,he2,hd2⟩:=g6.1.shape;obtain ⟨e3,d3,rfl,he3,hd3⟩:=g7.1.shape;have hcap:(1000001:Nat)*216≤zb_:=by decide
 dsimp only at f1 f2 f3 g1 g2 g3 g4 g5 g6 g7 hn he1;dsimp only;have hsl:SlR rInt 1 H (.slice e1 ps.length d1) ps:=g5.1
 have hpf:∀k (hk:k<ps.length),fits ps[k]:=fun k hk=>by
  obtain ⟨_,_,c,_,_,_,hc⟩:=hsl.get hk;exact hc.2
 have hsn:=fun {j:Nat}=>Zdw_ (n:=nd) (t:=⟨⟨x1,x2,x3⟩,op,bg,ps,wk,hd⟩) (j:=j);refine walk ?_;refine qc_ rfl rfl fun p2 _=>?_;refine qc_ rfl rfl fun p3 _=>?_;refine walk ?_;refine Qc_ (σ:=Nat×Option Addr×Nat) (fun u=>u.1≤ps.length) (fun u=>[(2,.pointer (some ⟨p2,0,none⟩)),(3,.pointer (some ⟨p3,0,none⟩)),(5,.slice u.2.1 ((ps.take u.1).map (fun p=>decM nd ⟨x1,x2,x3⟩ p false)).length u.2.2),(6,I u.1)]) (fun _=>H) (fun u=>ownS Qa_ 19 216 106 H (.slice u.2.1 ((ps.take u.1).map (fun p=>decM nd ⟨x1,x2,x3⟩ p false)).length u.2.2) ((ps.take u.1).map (fun p=>decM nd ⟨x1,x2,x3⟩ p false))::row p2 132 [I nd,I lf,I cn,.slice b1 l.length c1]::row p3 150 [I x1,I x2,I x3,.bool op,I bg,.slice e1 ps.length d1,.slice e2 wk.length d2,.slice e3 hd.length d3]::R) (fun u=>ps.length - u.1) (0,none,0) (Nat.zero_le _) (hs0:=?_) fun ⟨j,dd,e⟩ hj0 K hL=>?_
 rotate_left
 ·exact v108_
 simp only at hj0;dsimp only;refine walk ?_;refine Qe_ rfl (fun hk=>?_) (fun hk=>?_)
 ·have hk1:j<ps.length:=by omega
  have hfp:=hpf j hk1;have hs2:=hsn hk1;dsimp only at hs2;have hll:((ps.take j).map (fun p=>decM nd ⟨x1,x2,x3⟩ p false)).length=j:=by simp;omega
  refine walk ?_;refine zc_ 13 [row p2 132 [I nd,I lf,I cn,.slice b1 l.length c1],row p3 150 [I x1,I x2,I x3,.bool op,I bg,.slice e1 ps.length d1,.slice e2 wk.length d2,.slice e3 hd.length d3]] ?_;refine qa_ 0 ?_;refine qa_ 1 ?_;refine qa_ 2 ?_;refine qa_ 3 ?_;refine qa_ 4 ?_;refine qa_ 5 ?_;refine zcR_ 6 7 rfl rfl rfl rfl rfl hsl hk1 ?_;refine qa_ 8 ?_;refine qa_ 9 ?_;refine qa_ 10 ?_;refine Qu_ (y:=decM nd ⟨x1,x2,x3⟩ ps[j] false) 11 12 rfl rfl rfl (QB_ f1 hfp ⟨g1,g2,g3⟩) (by rw [hll];simp only [zb_] at hcap⊢;omega) fun d9 e9=>⟨subA,?_⟩;rw [←hs2,show ((ps.take j).map (fun p=>decM nd ⟨x1,x2,x3⟩ p false)).length+1=((ps.take (j+1)).map (fun p=>decM nd ⟨x1,x2,x3⟩ p false)).length by rw [hs2,List.length_append];rfl];refine qb_ rfl ?_;exact v83_
 ·clear hL;obtain rfl:j=ps.length:=by omega
  rw [List.take_length];refine walk ?_;refine finB [ownS Qa_ 19 216 106 H (.slice dd (ps.map (fun p=>decM nd ⟨x1,x2,x3⟩ p false)).length e) (ps.map (fun p=>decM nd ⟨x1,x2,x3⟩ p false))] ?_;exact ⟨rfl,rfl⟩
theorem half (n:Int):2*n.tdiv 2≤n+1∧n - 1≤2*n.tdiv 2:=by
 have h1:=Int.mul_tdiv_add_tmod n 2;have h2:=Int.tmod_lt_of_pos n (b:=2) (by omega);have h3:=Int.lt_tmod_of_pos n (b:=2) (by omega);omega
theorem zea_ (n:Int):(0≤n→2*n.tdiv 2≤n)∧(n≤0→n≤2*n.tdiv 2):=by
 have h1:=Int.mul_tdiv_add_tmod n 2;refine ⟨fun h=>?_,fun h=>?_⟩
 ·have:=Int.tmod_nonneg 2 h;omega
 ·have h2:=Int.tmod_nonneg 2 (show 0≤ -n by omega);rw [Int.neg_tmod] at h2;omega
theorem qdc_ {n:Int} {t:RTx} {j:Nat} (h:t.Heard[j]?.getD false=true):againR n t (j+1)=againR n t j:=by rw [zar_,if_pos h,List.append_nil]
theorem Qcz_ {n:Int} {t:RTx} {j:Nat} (h:t.Heard[j]?.getD false=false):againR n t (j+1)=againR n t j++[qav_ n t j]:=by rw [zar_,if_neg (by rw [h];decide)]
theorem Qy_ {W0:World} {H:Heap} {c ct:List Value} {m:Coord} {t:RTx} (h0:qu_ H c m) (ht:rC16 H ct t) (hh:t.Heard.length=t.Parts.length) (hw:t.Open=false→t.Works.length=t.Parts.length) (hn:t.Parts.length≤1000000):
  Ct Tryz.prog 88 #[.agg c.toArray,.agg ct.toArray] W0 H [] (fun r H' B=>B=[ownS Qa_ 19 216 106 H' r (againR m.Node t t.Parts.length)]∧H'=H):=by
 refine Ct.go (vs:=[.agg c.toArray,.agg ct.toArray]) fun R=>?_;obtain ⟨s1,rfl,f1,f2,f3,hs1⟩:=h0;obtain ⟨b1,c1,rfl,hc1,hd1⟩:=hs1.1.shape;obtain ⟨nd,lf,cn,l⟩:=m;obtain ⟨⟨x1,x2,x3⟩,op,bg,ps,wk,hd⟩:=t;obtain ⟨u1,u2,u3,rfl,g1,g2,g3,g4,g5,g6,g7⟩:=ht;obtain ⟨e1,d1,rfl,he1,hd1⟩:=g5.1.shape;obtain ⟨e2,d2,rfl,he2,hd2⟩:=g6.1.shape;obtain ⟨e3,d3,rfl,he3,hd3⟩:=g7.1.shape;have hcap:(1000001:Nat)*216≤zb_:=by decide
 dsimp only at f1 f2 f3 g1 g2 g3 g4 g5 g6 g7 hn he1 hh hw;dsimp only;have hsl:SlR rInt 1 H (.slice e1 ps.length d1) ps:=g5.1;have hsh:SlR Zbd_ 1 H (.slice e3 hd.length d3) hd:=g7.1
 have hpf:∀k (hk:k<ps.length),fits ps[k]:=fun k hk=>by
  obtain ⟨_,_,c,_,_,_,hc⟩:=hsl.get hk;exact hc.2
 refine walk ?_;refine qc_ rfl rfl fun p2 _=>?_;refine qc_ rfl rfl fun p3 _=>?_;refine walk ?_;refine Qc_ (σ:=Nat×Option Addr×Nat) (fun u=>u.1≤ps.length) (fun u=>[(2,.pointer (some ⟨p2,0,none⟩)),(3,.pointer (some ⟨p3,0,none⟩)),(5,.slice u.2.1 (againR nd ⟨⟨x1,x2,x3⟩,op,bg,ps,wk,hd⟩ u.1).length u.2.2),(6,I u.1)]) (fun _=>H) (fun u=>ownS Qa_ 19 216 106 H (.slice u.2.1 (againR nd ⟨⟨x1,x2,x3⟩,op,bg,ps,wk,hd⟩ u.1).length u.2.2) (againR nd ⟨⟨x1,x2,x3⟩,op,bg,ps,wk,hd⟩ u.1)::row p2 132 [I nd,I lf,I cn,.slice b1 l.length c1]::row p3 150 [I x1,I x2,I x3,.bool op,I bg,.slice e1 ps.length d1,.slice e2 wk.length d2,.slice e3 hd.length d3]::R) (fun u=>ps.length - u.1) (0,none,0) (Nat.zero_le _) (hs0:=?_) fun ⟨j,dd,e⟩ hj0 K hL=>?_
 rotate_left
 ·exact v108_
 simp only at hj0;dsimp only;have hal:=Zbi_ (n:=nd) (t:=⟨⟨x1,x2,x3⟩,op,bg,ps,wk,hd⟩) (k:=j);refine walk ?_;refine Qe_ rfl (fun hk=>?_) (fun hk=>?_)
 ·have hk1:j<ps.length:=by omega
  have hk2:j<hd.length:=by omega
  have hfp:=hpf j hk1;have hge:hd[j]?.getD false=hd[j]:=by rw [List.getElem?_eq_getElem hk2];rfl
  have hgp:ps[j]?.getD 0=ps[j]:=by rw [List.getElem?_eq_getElem hk1];rfl
  refine walk ?_;refine QI_ rfl Iff.rfl (fun hq=>?_) (fun hq=>?_)
  ·rw [←qdc_ (n:=nd) (t:=⟨⟨x1,x2,x3⟩,op,bg,ps,wk,hd⟩) (j:=j) (by dsimp only;rw [hge,hq])];exact v85_
  have hs2:=Qcz_ (n:=nd) (t:=⟨⟨x1,x2,x3⟩,op,bg,ps,wk,hd⟩) (j:=j) (by dsimp only;rw [hge];simpa using hq);refine walk ?_;refine zc_ 11 [row p2 132 [I nd,I lf,I cn,.slice b1 l.length c1],row p3 150 [I x1,I x2,I x3,.bool op,I bg,.slice e1 ps.length d1,.slice e2 wk.length d2,.slice e3 hd.length d3]] ?_;refine qa_ 0 ?_;refine qa_ 1 ?_;refine qa_ 2 ?_;refine qa_ 3 ?_;refine qa_ 4 ?_;refine zcR_ 5 6 rfl rfl rfl rfl rfl hsl hk1 ?_;refine qa_ 7 ?_;refine qa_ 8 ?_;refine qa_ 9 ?_;refine Zn_ 10 rfl rfl fun p7 _=>?_;refine qb_ rfl ?_
  cases op with
  | true=>
   have hI:qav_ nd ⟨⟨x1,x2,x3⟩,true,bg,ps,wk,hd⟩ j=decM nd ⟨x1,x2,x3⟩ ps[j] true:=by unfold qav_;rw [if_pos rfl,hgp]
   rw [hI] at hs2;refine walk ?_;refine zj_ (y:=decM nd ⟨x1,x2,x3⟩ ps[j] true) rfl rfl rfl (QB_ f1 hfp ⟨g1,g2,g3⟩) (by simp only [zb_] at hcap⊢;omega) fun d9 e9=>?_;rw [←hs2,show (againR nd ⟨⟨x1,x2,x3⟩,true,bg,ps,wk,hd⟩ j).length+1=(againR nd ⟨⟨x1,x2,x3⟩,true,bg,ps,wk,hd⟩ (j+1)).length by rw [hs2,List.length_append];rfl];exact v83_
  | false=>
   have hwl:=hw rfl;have hk3:j<wk.length:=by omega
   have hgw:wk[j]?.getD zac_=wk[j]:=by rw [List.getElem?_eq_getElem hk3];rfl
   have hI:qav_ nd ⟨⟨x1,x2,x3⟩,false,bg,ps,wk,hd⟩ j=zt_ nd ⟨x1,x2,x3⟩ ps[j] wk[j]:=by unfold qav_;rw [if_neg (by simp),hgp,hgw]
   rw [hI] at hs2;refine walk ?_;refine zc_ 15 [row p2 132 [I nd,I lf,I cn,.slice b1 l.length c1],row p3 150 [I x1,I x2,I x3,.bool false,I bg,.slice e1 ps.length d1,.slice e2 wk.length d2,.slice e3 hd.length d3]] ?_;refine qa_ 0 ?_;refine qa_ 1 ?_;refine qa_ 2 ?_;refine qa_ 3 ?_;refine qa_ 4 ?_;refine zcR_ 5 6 rfl rfl rfl rfl rfl hsl hk1 ?_;refine qa_ 7 ?_;refine qa_ 8 ?_;refine qa_ 9 ?_;refine qa_ 10 ?_;refine qa_ 11 ?_;refine Qf_ 12 rfl rfl rfl g6.1 hk3 fun b o cc hr hc=>?_;generalize wk[j]=w at hr hc hs2;obtain ⟨wr,wt,wd⟩:=w;obtain ⟨v1,v2,rfl,q1,q2,q3⟩:=hc;obtain ⟨a1,a2,rfl,_,_⟩:=q2.1.shape;obtain ⟨a3,a4,rfl,_,_⟩:=q3.1.shape;dsimp only at q1 q2 q3;change HRow H b o [I wr,.slice a1 wt.length a2,.slice a3 wd.length a4] at hr;refine Zl_ 13 rfl rfl rfl hr rfl ?_;refine qa_ 14 ?_;refine qb_ rfl ?_;refine walk ?_;refine zj_ (y:=zt_ nd ⟨x1,x2,x3⟩ ps[j] ⟨wr,wt,wd⟩) rfl rfl rfl (ZaP_ f1 hfp ⟨g1,g2,g3⟩ ⟨_,_,rfl,q1,q2,q3⟩) (by simp only [zb_] at hcap⊢;omega) fun d9 e9=>?_;rw [←hs2,show (againR nd ⟨⟨x1,x2,x3⟩,false,bg,ps,wk,hd⟩ j).length+1=(againR nd ⟨⟨x1,x2,x3⟩,false,bg,ps,wk,hd⟩ (j+1)).length by rw [hs2,List.length_append];rfl];exact v83_
 ·clear hL;obtain rfl:j=ps.length:=by omega
  refine walk ?_;refine finB [ownS Qa_ 19 216 106 H (.slice dd (againR nd ⟨⟨x1,x2,x3⟩,op,bg,ps,wk,hd⟩ ps.length).length e) (againR nd ⟨⟨x1,x2,x3⟩,op,bg,ps,wk,hd⟩ ps.length)] ?_;exact ⟨rfl,rfl⟩
def qdN_ (c:List Value) (m:Coord) (now:Int) (l:List Work) (r:Value) (H':Heap) (B:List za_):Prop:=
  (works0 0 l=[]∧r= .tuple #[.agg c.toArray,.agg #[I 0,I 0,I 0],nilS,I 4]∧B=[])∨
  (works0 0 l≠[]∧∃c' v,r= .tuple #[.agg c'.toArray,.agg #[I m.Node,I m.Life,I (m.Count+1)],v,I 0]∧qu_ H' c' ⟨m.Node,m.Life,m.Count+1,putR (zF_ m now (works0 0 l)) m.Txns⟩∧B=[ownS Qa_ 19 216 106 H' v (againR m.Node (zF_ m now (works0 0 l)) (works0 0 l).length)])
theorem v15_ {P:Prop} (h:P:=by
 refine walk ?_;refine zj_ (y:=(j:Int)) rfl rfl rfl ⟨rfl,hfj⟩ (by rw [List.length_map];simp only [zb_] at hcap⊢;omega) fun d4 e4=>?_;refine walk ?_;refine zc_ 8 [row p10 150 [I 0,I 0,I 0,.bool false,I now,(.slice d4 ((ws.map (fun q:Int×Work=>q.1)).length+1) e4),(.slice d2 (ws.map (fun q:Int×Work=>q.2)).length e2),(.slice d3 (List.replicate ws.length false).length e3)]] ?_;refine qa_ 0 ?_;refine qa_ 1 ?_;refine qa_ 2 ?_;refine qa_ 3 ?_;refine Qf_ 4 rfl rfl rfl hw.1 hk1 fun bx ox ccx hrx hcx=>?_;rw [hwj] at hcx;have hccx:=hcx;obtain ⟨y1,y2,rfl,z1,z2,z3⟩:=hcx;obtain ⟨k1,k2,rfl,_,_⟩:=z2.1.shape;obtain ⟨k3,k4,rfl,_,_⟩:=z3.1.shape;change HRow H bx ox [I wr,.slice k1 wt.length k2,.slice k3 wd.length k4] at hrx;refine Zl_ 5 rfl rfl rfl hrx rfl ?_;refine Qu_ (y:=(⟨wr,wt,wd⟩:Work)) 6 7 rfl rfl rfl hccx (by rw [List.length_map];simp only [zb_] at hcap⊢;omega) fun d5 e5=>⟨subA,?_⟩;refine qb_ rfl ?_;refine walk ?_;refine zj_ (y:=false) rfl rfl rfl rfl (by rw [List.length_replicate];simp only [zb_] at hcap⊢;omega) fun d6 e6=>?_;refine walk ?_;refine Zb_ hL (j+1,(d4,e4),(d5,e5),(d6,e6)) (by simp only;omega) (hs:=?_);dsimp only;rw [hsn,List.map_append,List.map_append];simp only [List.map_cons,List.map_nil,List.length_append,List.length_map,List.length_singleton,List.length_replicate,List.replicate_succ',List.length_cons,List.length_nil,Nat.zero_add];exact subA):P:=h
theorem zbI_ {W0:World} {H:Heap} {c:List Value} {m:Coord} {v:Value} {l:List Work} {now:Int} (h0:qu_ H c m) (hw:SlB Qi_ 3 56 H v l) (hl:l.length≤1000) (hnow:fits now) (hct:fits (m.Count+1)) (hn:m.Txns.length≤100000):
  Ct Tryz.prog 50 #[.agg c.toArray,v,I now] W0 H [] (fun r H' B=>qdN_ c m now l r H' B):=by
 refine Ct.go (vs:=[.agg c.toArray,v,I now]) fun R=>?_;obtain ⟨s1,rfl,f1,f2,f3,hs1⟩:=h0;obtain ⟨b1,c1,rfl,hc1,hd1⟩:=hs1.1.shape;obtain ⟨b0,c0,rfl,hc0,hd0⟩:=hw.1.shape;obtain ⟨nd,lf,cn,tl⟩:=m;dsimp only at f1 f2 f3 hs1 hct hn hc1;have hcap:(1001:Nat)*56≤zb_:=by decide
 have hct':=hct;unfold fits at hct';refine walk ?_;refine qc_ rfl rfl fun p3 _=>?_;refine Qb_ rfl fun p6 _=>?_;refine Qb_ rfl fun p7 _=>?_;refine walk ?_;refine Qb_ rfl fun p10 _=>?_;refine walk ?_
 refine Qc_ (σ:=Nat×(Option Addr×Nat)×(Option Addr×Nat)×(Option Addr×Nat)) (fun u=>u.1≤l.length) (fun u=>[(1,.slice b0 l.length c0),(3,.pointer (some ⟨p3,0,none⟩)),(6,.pointer (some ⟨p6,0,none⟩)),(7,.pointer (some ⟨p7,0,none⟩)),(8,nilS),(9,I 0),(10,.pointer (some ⟨p10,0,none⟩)),(11,I u.1)]) (fun _=>H)
  (fun u=>ownS rInt 1 8 3 H (.slice u.2.1.1 ((works0 0 (l.take u.1)).map (·.1)).length u.2.1.2) ((works0 0 (l.take u.1)).map (·.1))::ownS Qi_ 3 56 50 H (.slice u.2.2.1.1 ((works0 0 (l.take u.1)).map (·.2)).length u.2.2.1.2) ((works0 0 (l.take u.1)).map (·.2))::ownS Zbd_ 1 1 4 H (.slice u.2.2.2.1 (List.replicate (works0 0 (l.take u.1)).length false).length u.2.2.2.2) (List.replicate (works0 0 (l.take u.1)).length false)::row p10 150 [I 0,I 0,I 0,.bool false,I now,.slice u.2.1.1 ((works0 0 (l.take u.1)).map (·.1)).length u.2.1.2,.slice u.2.2.1.1 ((works0 0 (l.take u.1)).map (·.2)).length u.2.2.1.2,.slice u.2.2.2.1 (List.replicate (works0 0 (l.take u.1)).length false).length u.2.2.2.2]::row p3 132 [I nd,I lf,I cn,.slice b1 tl.length c1]::row p6 132 [I 0,I 0,I 0,nilS]::row p7 47 [I 0,I 0,I 0]::R) (fun u=>l.length - u.1) (0,(none,0),(none,0),(none,0)) (Nat.zero_le _) (hs0:=?_) fun ⟨j,⟨d1,e1⟩,⟨d2,e2⟩,⟨d3,e3⟩⟩ hj0 K hL=>?_
 rotate_left
 ·show Sub _ (ownS rInt 1 8 3 H (.slice none 0 0) []::ownS Qi_ 3 56 50 H (.slice none 0 0) []::ownS Zbd_ 1 1 4 H (.slice none 0 0) []::_);refine Sub.trans ?_ ((ownS_nil.trans ownS_nil).trans ownS_nil);exact subA
 simp only at hj0;dsimp only
 have hwl:(works0 0 (l.take j)).length≤j:=by
  have h1:=zM_ (i:=0) (l:=l.take j);rw [List.length_take] at h1;omega
 refine walk ?_;refine Qe_ rfl (fun hk=>?_) (fun hk=>?_)
 ·have hk1:j<l.length:=by omega
  have ht:=List.take_succ_eq_append_getElem hk1;have hsn:=Zab_ (w:=l[j]) (l:=l.take j) (i:=0);rw [←ht,List.length_take,Nat.min_eq_left hj0,Int.zero_add] at hsn;have hfj:fits (j:Int):=by unfold fits;omega
  refine walk ?_;refine qe_ rfl rfl hw.1 hk1 fun b o cc hr hc=>?_;obtain ⟨w,hwj⟩:∃w,l[j]=w:=⟨_,rfl⟩;rw [hwj] at hc hsn;have hcc:=hc;obtain ⟨wr,wt,wd⟩:=w;obtain ⟨u1,u2,rfl,g1,g2,g3⟩:=hc;obtain ⟨a1,a2,rfl,_,_⟩:=g2.1.shape;obtain ⟨a3,a4,rfl,_,_⟩:=g3.1.shape;dsimp only at g1 g2 g3 hsn;change HRow H b o [I wr,.slice a1 wt.length a2,.slice a3 wd.length a4] at hr;obtain ⟨ws,hws⟩:∃ws,works0 0 (l.take j)=ws:=⟨_,rfl⟩;rw [hws] at hsn hwl⊢;by_cases ha:(0:Int)<(wt.length:Int)
  ·rw [if_pos (by omega)] at hsn;exact v15_
  by_cases hb:(0:Int)<(wd.length:Int)
  ·rw [if_pos (by omega)] at hsn;refine walk ?_;refine qe_ rfl rfl hw.1 hk1 fun b' o' cc' hr' hc'=>?_;rw [hwj] at hc';obtain ⟨t1,t2,rfl,q1,q2,q3⟩:=hc';obtain ⟨t3,t4,rfl,_,_⟩:=q2.1.shape;obtain ⟨t5,t6,rfl,_,_⟩:=q3.1.shape;change HRow H b' o' [I wr,.slice t3 wt.length t4,.slice t5 wd.length t6] at hr';exact v15_
  ·rw [if_neg (by omega),List.append_nil] at hsn;refine walk ?_;refine qe_ rfl rfl hw.1 hk1 fun b' o' cc' hr' hc'=>?_;rw [hwj] at hc';obtain ⟨t1,t2,rfl,q1,q2,q3⟩:=hc';obtain ⟨t3,t4,rfl,_,_⟩:=q2.1.shape;obtain ⟨t5,t6,rfl,_,_⟩:=q3.1.shape;change HRow H b' o' [I wr,.slice t3 wt.length t4,.slice t5 wd.length t6] at hr';refine walk ?_;refine Zb_ hL (j+1,(d1,e1),(d2,e2),(d3,e3)) (by simp only;omega) (hs:=?_);dsimp only;rw [hsn];exact subA
 ·clear hL;obtain rfl:j=l.length:=by omega
  rw [List.take_length] at hwl⊢;obtain ⟨ws,hws⟩:∃ws,works0 0 l=ws:=⟨_,rfl⟩;rw [hws] at hwl⊢;refine walk ?_;refine Qe_ rfl (fun hq=>?_) (fun hq=>?_)
  ·have hws0:ws=[]:=by
    cases ws with
    | nil=>rfl
    | cons a r=>simp at hq;omega
   refine walk ?_;refine fin0 ?_;exact .inl ⟨hws.trans hws0,rfl,rfl⟩
  have hne:ws≠[]:=fun h=>hq (by rw [h];rfl);refine walk ?_;refine Zd_ (.slice d1 (ws.map (fun q:Int×Work=>q.1)).length e1) fun H1 hl1 z1=>?_;refine Zd_ (.slice d2 (ws.map (fun q:Int×Work=>q.2)).length e2) fun H2 hl2 z2=>?_;refine Zd_ (.slice d3 (List.replicate ws.length false).length e3) fun H3 hl3 z3=>?_;have hrt:rC16 H3 [I nd,I lf,I (cn+1),.bool false,I now,.slice d1 (ws.map (fun q:Int×Work=>q.1)).length e1,.slice d2 (ws.map (fun q:Int×Work=>q.2)).length e2,.slice d3 (List.replicate ws.length false).length e3] (zF_ ⟨nd,lf,cn,tl⟩ now ws):=⟨_,_,_,rfl,f1,f2,hct,hnow,z1.mono (hl2.trans hl3),z2.mono hl3,z3⟩;have hpl:(zF_ ⟨nd,lf,cn,tl⟩ now ws).Parts.length=ws.length:=List.length_map ..;have hag:=fun {H:Heap} {c ct:List Value} (h:qu_ H c ⟨nd,lf,cn+1,putR (zF_ ⟨nd,lf,cn,tl⟩ now ws) tl⟩) (ht:rC16 H ct (zF_ ⟨nd,lf,cn,tl⟩ now ws))=>Qy_ (W0:=W0) (t:=zF_ ⟨nd,lf,cn,tl⟩ now ws) h ht (by rw [hpl];exact List.length_replicate) (fun _=>by rw [hpl];exact List.length_map ..) (by rw [hpl];omega);refine Za_ rfl rfl (qan_ (W0:=W0) (H:=H3) (t:=zF_ ⟨nd,lf,cn,tl⟩ now ws) (l:=tl) (hs1.mono (hl1.trans (hl2.trans hl3))) hrt hn) fun r4 H4 B hl4 ⟨eB,eH⟩=>?_;subst eB eH;refine Zd_ r4 fun H5 hl5 hsp=>?_;obtain ⟨bp,cp,rfl,_,_⟩:=hsp.1.shape;refine walk ?_;refine zc_ 7 [row p3 132 [I nd,I lf,I (cn+1),.slice bp (putR (zF_ ⟨nd,lf,cn,tl⟩ now ws) tl).length cp],row p10 150 [I nd,I lf,I (cn+1),.bool false,I now,.slice d1 (ws.map (fun q:Int×Work=>q.1)).length e1,.slice d2 (ws.map (fun q:Int×Work=>q.2)).length e2,.slice d3 (List.replicate ws.length false).length e3]] ?_;refine qa_ 0 ?_;refine qa_ 1 ?_;refine qa_ 2 ?_;refine qa_ 3 ?_;refine qa_ 4 ?_;refine ze_ 5 rfl rfl rfl (hag (H:=H5) (c:=[I nd,I lf,I (cn+1),.slice bp (putR (zF_ ⟨nd,lf,cn,tl⟩ now ws) tl).length cp]) ⟨_,rfl,f1,f2,hct,hsp⟩ (RdOk.mono (R:=rC16) hl5 hrt)) fun r6 H6 B hl6 ⟨eB,eH⟩=>?_;subst eB eH;rw [hpl];refine ⟨subA,?_⟩;refine Zi_ 6 rfl rfl rfl rfl (by simp) rfl ⟨subA,?_⟩;refine qb_ rfl ?_;refine walk ?_;refine finB [ownS Qa_ 19 216 106 H6 r6 (againR nd (zF_ ⟨nd,lf,cn,tl⟩ now ws) ws.length)] ?_;refine .inr ⟨by rw [hws];exact hne,_,r6,rfl,?_,?_⟩
  ·rw [hws];exact ⟨_,rfl,f1,f2,hct,hsp⟩
  ·rw [hws]
abbrev rO16:Rd ROc:=qR_
def zao_ (now:Int):List RTx→List RTx→List RTx
  | [],cur=>cur
  | t::r,cur=>if qU_ t now then zao_ now r (cutR t.X cur) else zao_ now r cur
theorem qcz_ {now:Int} {t:RTx} {r cur:List RTx}:zao_ now (t::r) cur=if qU_ t now then zao_ now r (cutR t.X cur) else zao_ now r cur:=rfl
def ocsR (now:Int) (l:List RTx):List ROc:=(l.filter fun t=>decide (qU_ t now)).map fun t=>ocR t.X false false
theorem Zdb_ {now:Int} {t:RTx} {l:List RTx}:ocsR now (t::l)=if qU_ t now then ocR t.X false false::ocsR now l else ocsR now l:=by
 unfold ocsR;by_cases h:qU_ t now<;>simp [h]
theorem zaY_ {now:Int}:∀{r cur:List RTx},zao_ now r cur=cur.filter fun t=> !decide (∃u∈r,qU_ u now∧u.X=t.X)
 | [],cur=>by
  unfold zao_;exact (List.filter_eq_self.2 fun t _=>by simp).symm
 | u::r,cur=>by
  unfold zao_;split
  ·next h=>
   rw [zaY_];unfold cutR;rw [List.filter_filter];refine List.filter_congr fun t ht=>?_;by_cases h1:t.X=u.X
   ·have:∃x∈u::r,qU_ x now∧x.X=t.X:=⟨u,by simp,h,h1.symm⟩;simp [h1,h]
   ·have h2:¬u.X=t.X:=fun e=>h1 e.symm;simp [h1,h2]
  ·next h=>
   rw [zaY_];refine List.filter_congr fun t ht=>?_;simp [h]
theorem v41_ {P:Prop} (h:P:=by
 obtain ⟨i,hi,rfl⟩:=List.getElem_of_mem hu;obtain ⟨j,hj,rfl⟩:=List.getElem_of_mem ht;have hp:=List.pairwise_iff_getElem.1 hr;rcases Nat.lt_trichotomy i j with h | h | h
 ·have:=hp i j hi hj h;rw [he] at this;exact absurd this ZO_
 ·subst h;rfl
 ·have:=hp j i hj hi h;rw [he] at this;exact absurd this ZO_):P:=h
theorem zcz_ {now:Int} {l:List RTx} (hr:l.Pairwise fun a b=>ltK a.X.k b.X.k):zao_ now l l=l.filter fun t=> !decide (qU_ t now):=by
 rw [zaY_];refine List.filter_congr fun t ht=>?_
 have:(∃u∈l,qU_ u now∧u.X=t.X)↔qU_ t now:=by
  constructor
  ·rintro ⟨u,hu,hg,he⟩
   have:u=t:=by
    exact v41_
   rw [←this];exact hg
  ·exact fun h=>⟨t,ht,h,rfl⟩
 simp [this]
def Qdw_ (l:List RTx):Prop:=∀t∈l,t.Heard.length=t.Parts.length∧(t.Open=false→t.Works.length=t.Parts.length)∧t.Parts.length≤1000000
theorem qbI_ {n now:Int} {t:RTx} (h:t.Parts.length≤1000000):(Qw_ n now t).length≤1000000:=by
 unfold Qw_;split
 ·unfold noR;rw [List.length_map];exact h
 ·exact Nat.le_trans Zbi_ h
end Go.Proofs.YtlflbkpmfhhikaaGreatDoor
