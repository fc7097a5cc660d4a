/- The reference's coordinator: Load. -/
import Derived.Test.YtlflbkpmfhhikaaGreatDoorJLO
import Derived.Test.YtlflbkpmfhhikaaGreatDoorJTH
import Derived.Test.YtlflbkpmfhhikaaGreatDoorJTO
import Derived.Test.YtlflbkpmfhhikaaGreatDoorJTR
set_option maxHeartbeats 16000000
set_option maxRecDepth 100000
set_option linter.unusedVariables false
set_option linter.unusedSimpArgs false
namespace Go.Proofs.YtlflbkpmfhhikaaGreatDoor
open Go Go.Sx Go.Proofs
abbrev rC16:Rd RTx:=zQ_
theorem ZaM_ {a b:Txn}:a=b↔a.Node=b.Node∧a.Life=b.Life∧a.Count=b.Count:=by cases a;cases b;simp
theorem ZcU_ {H:Heap} {b o:Nat} {q:RTx} {s1 s2 s3:Value} (hr:HRow H b o (q.cv s1 s2 s3)):HRow H b o [I q.X.Node,I q.X.Life,I q.X.Count]:=HRow.take (k:=3) hr
theorem qaN_ {t:RTx}:∀{l:List RTx} {i:Nat},i≤l.length→(∀a∈l.take i,ltK a.X.k t.X.k)→(∀h:i<l.length,¬ltK l[i].X.k t.X.k)→putR t l=l.take i++t::(if∃h:i<l.length,l[i].X=t.X then l.drop (i+1) else l.drop i)
 | [],i,hi,_,_=>by
  obtain rfl:i=0:=by simpa using hi
  simp [putR]
 | a::l,0,_,_,hn=>by
  have:=hn (by simp);simp only [List.getElem_cons_zero] at this;unfold putR;rw [if_neg this];by_cases he:a.X=t.X
  ·simp [he]
  ·simp [he]
 | a::l,i+1,hi,hl,hn=>by
  have ih:=qaN_ (t:=t) (l:=l) (i:=i) (by simpa using hi) (fun b hb=>hl b (by simp [hb])) (fun h=>(by have:=hn (by simpa using h);simp only [List.getElem_cons_succ] at this;exact this));unfold putR;rw [if_pos (hl a (by simp)),ih];simp
theorem QcH_ {t:RTx}:∀{l:List RTx},(putR t l).length≤l.length+1
 | []=>by simp [putR]
 | a::l=>by
  unfold putR;split
  ·simpa using QcH_ (t:=t) (l:=l)
  ·split<;>simp
theorem v146_ {P:Prop} (h:P:=by
 rw [hfin];refine walk ?_;refine finB [ownS rC16 8 112 150 H (.slice d4 (putR ⟨⟨x1,x2,x3⟩,op,bg,ps,wk,hd⟩ l).length e4) (putR ⟨⟨x1,x2,x3⟩,op,bg,ps,wk,hd⟩ l)] ?_;exact ⟨rfl,rfl⟩):P:=h
theorem v27_ {P:Prop} (h:P:=by
 refine walk ?_;refine qi_ rfl rfl (ZI_ (l:=((k:Nat):Int)) (h:=(l.length:Int)) rfl rfl rfl (by omega) (by omega) (by omega)) ?_;have hsd:=h0.1.slc (l:=k) (h:=l.length) (by omega) (Nat.le_refl _);rw [List.take_of_length_le (by rw [List.length_drop];omega)] at hsd;rw [Int.toNat_natCast,Int.toNat_natCast];have hl4:(l.take k++[(⟨⟨x1,x2,x3⟩,op,bg,ps,wk,hd⟩:RTx)]).length=k+1:=by rw [List.length_append,hll];rfl
 have hl5:(l.drop (k)).length=l.length - (k):=List.length_drop;rw [show (l.take k).length+1=(l.take k++[(⟨⟨x1,x2,x3⟩,op,bg,ps,wk,hd⟩:RTx)]).length by rw [hl4,hll]];refine zo_ rfl rfl hsd (by rw [hl4,hl5];simp only [Qb_] at hcap⊢;omega) fun d4 e4=>?_;rw [←List.length_append];have hfin:l.take k++[(⟨⟨x1,x2,x3⟩,op,bg,ps,wk,hd⟩:RTx)]++l.drop (k)=putR ⟨⟨x1,x2,x3⟩,op,bg,ps,wk,hd⟩ l:=by rw [hsp,List.append_assoc];rfl
 exact v146_):P:=h
theorem qab_ {W0:World} {H:Heap} {v:Value} {l:List RTx} {t:RTx} {ct:List Value} (h0:SlB rC16 8 112 H v l) (ht:rC16 H ct t) (hn:l.length≤100000):
  Ct Tryz.prog 87 #[v,.agg ct.toArray] W0 H [] (fun r H' B=>B=[ownS rC16 8 112 150 H r (putR t l)]∧H'=H):=by
 refine Ct.go (vs:=[v,.agg ct.toArray]) fun R=>?_;obtain ⟨b0,c0,rfl,hc0,hd0⟩:=h0.1.shape;have hcap:(100000:Nat)*240≤Qb_:=by decide
 have ht0:=ht;obtain ⟨⟨x1,x2,x3⟩,op,bg,ps,wk,hd⟩:=t;obtain ⟨s1,s2,s3,rfl,_,_,_,_,hs1,hs2,hs3⟩:=ht;obtain ⟨b1,c1,rfl,_,_⟩:=hs1.1.shape;obtain ⟨b2,c2,rfl,_,_⟩:=hs2.1.shape;obtain ⟨b3,c3,rfl,_,_⟩:=hs3.1.shape;dsimp only at ht0;refine walk ?_;refine qc_ rfl rfl fun p3 _=>?_;refine walk ?_;refine Qc_ (σ:=Nat×Option Addr×Nat) (fun u=>u.1≤l.length∧∀q∈l.take u.1,ltK q.X.k (x1,x2,x3)) (fun u=>[(0,.slice b0 l.length c0),(3,.pointer (some ⟨p3,0,none⟩)),(5,.slice u.2.1 (l.take u.1).length u.2.2),(6,I u.1)]) (fun _=>H) (fun u=>ownS rC16 8 112 150 H (.slice u.2.1 (l.take u.1).length u.2.2) (l.take u.1)::row p3 150 [I x1,I x2,I x3,.bool op,I bg,.slice b1 ps.length c1,.slice b2 wk.length c2,.slice b3 hd.length c3]::R) (fun u=>l.length - u.1) (0,none,0) ⟨Nat.zero_le _,by simp⟩ (hs0:=?_) fun ⟨k,dd,e⟩ ⟨hk0,hlt⟩ K hL=>?_
 rotate_left
 ·exact v158_
 simp only at hk0 hlt;dsimp only;have hll:(l.take k).length=k:=by simp;omega
 by_cases hk1:k<l.length
 ·have hkk:((k:Int)<(l.length:Int)):=by omega
  have htk:=List.take_succ_eq_append_getElem hk1;refine walk ?_;refine zc_ 14 [row p3 150 [I x1,I x2,I x3,.bool op,I bg,.slice b1 ps.length c1,.slice b2 wk.length c2,.slice b3 hd.length c3]] ?_;refine qa_ 0 ?_;refine qa_ 1 ?_;refine qa_ 2 ?_;refine qa_ 3 ?_;refine qa_ 4 ?_;refine qa_ 5 ?_;refine qa_ 6 ?_;refine zg_ 7 rfl rfl rfl h0.1 hk1 fun b o cc hr hc=>?_;obtain ⟨u1,u2,u3,rfl,hc⟩:=hc;have hrt:=ZcU_ hr;obtain ⟨ya,yb,yc,hy⟩:∃ya yb yc,l[k].X=⟨ya,yb,yc⟩:=⟨_,_,_,rfl⟩;rw [hy] at hrt;refine qa_ 8 ?_;refine Ql_ 9 rfl rfl rfl hrt rfl ?_;refine qa_ 10 ?_;refine qa_ 11 ?_;refine qo_ 12 rfl rfl rfl (zbc_ (x:=(ya,yb,yc)) (y:=(x1,x2,x3))) ?_;refine qa_ 13 ?_;refine qb_ rfl ?_;have hyk:l[k].X.k=(ya,yb,yc):=by rw [hy];rfl
  refine walk ?_;refine ze_ rfl (fun hq=>?_) (fun hq=>?_)
  ·have hse:l.take k++[l[k]]=l.take (k+1):=htk.symm;have hsl2:(l.take k).length+1=(l.take (k+1)).length:=by rw [List.length_take,List.length_take];omega
   refine walk ?_;refine Zd_ rfl rfl h0.1 hk1 fun b' o' cc' hr' hc'=>?_;have hcc:=hc';obtain ⟨v1,v2,v3,rfl,_,_,_,_,hv1,hv2,hv3⟩:=hc';refine walk ?_;refine zf_ rfl rfl hr' rfl ?_;refine Zj_ (y:=l[k]) rfl rfl rfl hcc (by rw [hll];simp only [Qb_] at hcap⊢;omega) fun d3 e3=>?_;rw [hsl2,hse];refine walk ?_;refine Zb_ hL (k+1,d3,e3) ⟨by simp only;omega,fun q hm=>?_⟩;rw [htk,List.mem_append,List.mem_singleton] at hm;rcases hm with hm | rfl
   ·exact hlt q hm
   ·rw [hyk];exact hq
  ·have hsp:=qaN_ (t:=⟨⟨x1,x2,x3⟩,op,bg,ps,wk,hd⟩) hk0 hlt (fun h=>by rw [hyk];exact hq);clear hL;refine walk ?_;refine Zj_ (y:=(⟨⟨x1,x2,x3⟩,op,bg,ps,wk,hd⟩:RTx)) rfl rfl rfl ht0 (by rw [hll];simp only [Qb_] at hcap⊢;omega) fun d3 e3=>?_;refine walk ?_;refine Zd_ rfl rfl h0.1 hk1 fun b' o' cc' hr' hc'=>?_;obtain ⟨v1,v2,v3,rfl,_⟩:=hc';have hrt':=ZcU_ hr';rw [hy] at hrt';change HRow H b' o' [I ya,I yb,I yc] at hrt';refine walk ?_;refine zf_ rfl rfl hrt' rfl ?_;refine walk ?_;refine ze_ rfl (fun hq2=>?_) (fun hq2=>?_)
   ·have hx:l[k].X=⟨x1,x2,x3⟩:=hy.trans (by first | exact hq2 | exact ZaM_.2 hq2);rw [if_pos ⟨hk1,hx⟩] at hsp;refine walk ?_;have hkc:((k:Int)+1)=((k+1:Nat):Int):=by omega
    rw [hkc];refine walk ?_;refine qi_ rfl rfl (ZI_ (l:=((k+1:Nat):Int)) (h:=(l.length:Int)) rfl rfl rfl (by omega) (by omega) (by omega)) ?_;have hsd:=h0.1.slc (l:=k+1) (h:=l.length) (by omega) (Nat.le_refl _);rw [List.take_of_length_le (by rw [List.length_drop];omega)] at hsd;rw [Int.toNat_natCast,Int.toNat_natCast];have hl4:(l.take k++[(⟨⟨x1,x2,x3⟩,op,bg,ps,wk,hd⟩:RTx)]).length=k+1:=by rw [List.length_append,hll];rfl
    have hl5:(l.drop (k+1)).length=l.length - (k+1):=List.length_drop;rw [show (l.take k).length+1=(l.take k++[(⟨⟨x1,x2,x3⟩,op,bg,ps,wk,hd⟩:RTx)]).length by rw [hl4,hll]];refine zo_ rfl rfl hsd (by rw [hl4,hl5];simp only [Qb_] at hcap⊢;omega) fun d4 e4=>?_;rw [←List.length_append];have hfin:l.take k++[(⟨⟨x1,x2,x3⟩,op,bg,ps,wk,hd⟩:RTx)]++l.drop (k+1)=putR ⟨⟨x1,x2,x3⟩,op,bg,ps,wk,hd⟩ l:=by rw [hsp,List.append_assoc];rfl
    exact v146_
   ·have hx:¬∃h:k<l.length,l[k].X=⟨x1,x2,x3⟩:=fun ⟨_,h⟩=>hq2 (by first | exact hy.symm.trans h | exact ZaM_.1 (hy.symm.trans h));rw [if_neg hx] at hsp;exact v27_
 ·have hkk:¬((k:Int)<(l.length:Int)):=by omega
  have hsp:=qaN_ (t:=⟨⟨x1,x2,x3⟩,op,bg,ps,wk,hd⟩) hk0 hlt (fun h=>absurd h hk1);rw [if_neg (fun h=>hk1 h.1)] at hsp;clear hL;refine walk ?_;refine zc_ 14 [row p3 150 [I x1,I x2,I x3,.bool op,I bg,.slice b1 ps.length c1,.slice b2 wk.length c2,.slice b3 hd.length c3]] ?_;refine qa_ 0 ?_;refine qa_ 1 ?_;refine qa_ 2 ?_;refine qa_ 3 ?_;refine qa_ 4 ?_;refine Qs_ 5 rfl rfl ?_;refine Qs_ 6 rfl rfl ?_;refine Qs_ 7 rfl rfl ?_;refine Qs_ 8 rfl rfl ?_;refine Qs_ 9 rfl rfl ?_;refine Qs_ 10 rfl rfl ?_;refine Qs_ 11 rfl rfl ?_;refine Qs_ 12 rfl rfl ?_;refine qa_ 13 ?_;refine qb_ rfl ?_;refine walk ?_;refine Zj_ (y:=(⟨⟨x1,x2,x3⟩,op,bg,ps,wk,hd⟩:RTx)) rfl rfl rfl ht0 (by rw [hll];simp only [Qb_] at hcap⊢;omega) fun d3 e3=>?_;refine walk ?_;exact v27_
theorem QbY_ {W0:World} {H:Heap} {c:List Value} {m:Coord} {x:Txn} (h0:Qu_ H c m):
  Ct Tryz.prog 130 #[.agg c.toArray,.agg x.cv.toArray] W0 H [] (fun r H' B=>((r=I (-1)∧∀t∈m.Txns,t.X≠x)∨∃j:Nat,∃h:j<m.Txns.length,r=I j∧m.Txns[j].X=x)∧B=[]∧H'=H):=by
 refine Ct.go (vs:=[.agg c.toArray,.agg x.cv.toArray]) fun R=>?_;obtain ⟨s1,rfl,f1,f2,f3,hs1⟩:=h0;obtain ⟨b1,c1,rfl,hc1,hd1⟩:=hs1.1.shape;obtain ⟨nd,lf,ct,l⟩:=m;obtain ⟨x1,x2,x3⟩:=x;dsimp only at hs1 hc1;dsimp only;refine walk ?_;refine qc_ rfl rfl fun p2 _=>?_;refine qc_ rfl rfl fun p3 _=>?_;refine walk ?_;refine Qc_ (σ:=Nat) (fun j=>j≤l.length∧∀q∈l.take j,q.X≠⟨x1,x2,x3⟩) (fun j=>[(2,.pointer (some ⟨p2,0,none⟩)),(3,.pointer (some ⟨p3,0,none⟩)),(5,I j)]) (fun _=>H) (fun _=>row p2 132 [I nd,I lf,I ct,.slice b1 l.length c1]::row p3 47 [I x1,I x2,I x3]::R) (fun j=>l.length - j) 0 ⟨Nat.zero_le _,by simp⟩ fun j ⟨hj0,hj⟩ K hL=>?_;refine walk ?_;refine ze_ rfl (fun hk=>?_) (fun hk=>?_)
 ·have hk1:j<l.length:=by omega
  have ht:=List.take_succ_eq_append_getElem hk1;refine walk ?_;refine Zd_ rfl rfl hs1.1 hk1 fun b o cc hr hc=>?_;obtain ⟨u1,u2,u3,rfl,hc⟩:=hc;have hrt:=ZcU_ hr;obtain ⟨ya,yb,yc,hy⟩:∃ya yb yc,l[j].X=⟨ya,yb,yc⟩:=⟨_,_,_,rfl⟩;rw [hy] at hrt;change HRow H b o [I ya,I yb,I yc] at hrt;refine walk ?_;refine zf_ rfl rfl hrt rfl ?_;refine walk ?_;refine ze_ rfl (fun hq=>?_) (fun hq=>?_)
  ·refine walk ?_;refine fin0 ?_;exact ⟨.inr ⟨j,hk1,rfl,hy.trans (ZaM_.2 hq)⟩,rfl,rfl⟩
  ·refine walk ?_;refine Zb_ hL (j+1) ⟨by omega,fun q hm=>?_⟩;rw [ht,List.mem_append,List.mem_singleton] at hm;rcases hm with hm | rfl
   ·exact hj q hm
   ·rw [hy];exact fun h=>hq (ZaM_.1 h)
 ·clear hL;obtain rfl:j=l.length:=by omega
  exact v117_
theorem zdy_ {x:Txn} {l:List RTx} {t:RTx}:cutR x (l++[t])=if t.X=x then cutR x l else cutR x l++[t]:=by
 unfold cutR;rw [List.filter_append];by_cases h:t.X=x<;>simp [h]
theorem ZcH_ {x:Txn} {l:List RTx}:(cutR x l).length≤l.length:=List.length_filter_le _ _
theorem v98_ {P:Prop} (h:P:=by
 refine walk ?_;exact Zb_ hL (j+1,dd,e) (by simp only;omega)):P:=h
theorem qw_ {W0:World} {H:Heap} {c:List Value} {m:Coord} {x:Txn} (h0:Qu_ H c m) (hn:m.Txns.length≤100000):
  Ct Tryz.prog 97 #[.agg c.toArray,.agg x.cv.toArray] W0 H [] (fun r H' B=>∃c',r= .agg c'.toArray∧Qu_ H' c' {m with Txns:=cutR x m.Txns}∧B=[]):=by
 refine Ct.go (vs:=[.agg c.toArray,.agg x.cv.toArray]) fun R=>?_;obtain ⟨s1,rfl,f1,f2,f3,hs1⟩:=h0;obtain ⟨b1,c1,rfl,hc1,hd1⟩:=hs1.1.shape;obtain ⟨nd,lf,ct,l⟩:=m;obtain ⟨x1,x2,x3⟩:=x;have hcap:(100000:Nat)*240≤Qb_:=by decide
 dsimp only at hs1 hc1 hn f1 f2 f3;dsimp only;refine walk ?_;refine qc_ rfl rfl fun p2 _=>?_;refine qc_ rfl rfl fun p3 _=>?_;refine zb_ rfl fun p4 _=>?_;refine walk ?_;refine Qc_ (σ:=Nat×Option Addr×Nat) (fun u=>u.1≤l.length) (fun u=>[(2,.pointer (some ⟨p2,0,none⟩)),(3,.pointer (some ⟨p3,0,none⟩)),(4,.pointer (some ⟨p4,0,none⟩)),(5,.slice u.2.1 (cutR ⟨x1,x2,x3⟩ (l.take u.1)).length u.2.2),(6,I u.1)]) (fun _=>H) (fun u=>ownS rC16 8 112 150 H (.slice u.2.1 (cutR ⟨x1,x2,x3⟩ (l.take u.1)).length u.2.2) (cutR ⟨x1,x2,x3⟩ (l.take u.1))::row p2 132 [I nd,I lf,I ct,.slice b1 l.length c1]::row p3 47 [I x1,I x2,I x3]::row p4 132 [I 0,I 0,I 0,nilS]::R) (fun u=>l.length - u.1) (0,none,0) (Nat.zero_le _) (hs0:=?_) fun ⟨j,dd,e⟩ hj0 K hL=>?_
 rotate_left
 ·show Sub _ (ownS rC16 8 112 150 H (.slice none 0 0) []::_);exact v34_
 simp only at hj0;dsimp only;refine walk ?_;refine ze_ rfl (fun hk=>?_) (fun hk=>?_)
 ·have hk1:j<l.length:=by omega
  have ht:=List.take_succ_eq_append_getElem hk1;have hsn:=zdy_ (x:=⟨x1,x2,x3⟩) (l:=l.take j) (t:=l[j]);rw [←ht] at hsn;have hcl:=ZcH_ (x:=⟨x1,x2,x3⟩) (l:=l.take j);refine walk ?_;refine Zd_ rfl rfl hs1.1 hk1 fun b o cc hr hc=>?_;obtain ⟨u1,u2,u3,rfl,hc⟩:=hc;have hrt:=ZcU_ hr;obtain ⟨ya,yb,yc,hy⟩:∃ya yb yc,l[j].X=⟨ya,yb,yc⟩:=⟨_,_,_,rfl⟩;rw [hy] at hrt;change HRow H b o [I ya,I yb,I yc] at hrt;refine walk ?_;refine zf_ rfl rfl hrt rfl ?_;refine walk ?_;refine ze_ rfl (fun hq=>?_) (fun hq=>?_)
  ·have hx:¬l[j].X=⟨x1,x2,x3⟩:=fun h=>hq (ZaM_.1 (hy.symm.trans h));rw [if_neg hx] at hsn;refine walk ?_;refine Zd_ rfl rfl hs1.1 hk1 fun b' o' cc' hr' hc'=>?_;have hcc:=hc';obtain ⟨v1,v2,v3,rfl,_⟩:=hc';refine walk ?_;refine zf_ rfl rfl hr' rfl ?_;refine Zj_ (y:=l[j]) rfl rfl rfl hcc (by rw [List.length_take] at hcl;simp only [Qb_] at hcap⊢;omega) fun d3 e3=>?_;rw [←hsn,show (cutR ⟨x1,x2,x3⟩ (l.take j)).length+1=(cutR ⟨x1,x2,x3⟩ (l.take (j+1))).length by rw [hsn,List.length_append];rfl];exact v75_
  ·have hx:l[j].X=⟨x1,x2,x3⟩:=hy.trans (ZaM_.2 (Classical.not_not.1 hq));rw [if_pos hx] at hsn;rw [←hsn];exact v98_
 ·clear hL;obtain rfl:j=l.length:=by omega
  rw [List.take_length];refine walk ?_;refine qg_ (.slice dd (cutR ⟨x1,x2,x3⟩ l).length e) fun H2 hl2 hsl=>?_;refine fin0 ?_;exact ⟨_,rfl,⟨_,rfl,f1,f2,f3,hsl⟩,rfl⟩
def openRL (l:List RTx):List Rec:=(l.filter fun t=>t.Open).map fun t=>recC t.X t.Parts
theorem zcs_ {l:List RTx} {t:RTx}:openRL (l++[t])=if t.Open=true then openRL l++[recC t.X t.Parts] else openRL l:=by
 unfold openRL;rw [List.filter_append,List.map_append];by_cases h:t.Open=true<;>simp [h]
theorem zaN_ {l:List RTx}:(openRL l).length≤l.length:=by unfold openRL;rw [List.length_map];exact List.length_filter_le _ _
theorem zbl_ {W0:World} {H:Heap} {c:List Value} {m:Coord} (h0:Qu_ H c m) (hn:m.Txns.length≤100000):
  Ct Tryz.prog 60 #[.agg c.toArray] W0 H [] (fun r H' B=>B=[ownS rRec 9 120 53 H' r (openRL m.Txns)]∧H'=H):=by
 refine Ct.go (vs:=[.agg c.toArray]) fun R=>?_;obtain ⟨s1,rfl,f1,f2,f3,hs1⟩:=h0;obtain ⟨b1,c1,rfl,hc1,hd1⟩:=hs1.1.shape;obtain ⟨nd,lf,ct,l⟩:=m;have hcap:(100001:Nat)*120≤Qb_:=by decide
 dsimp only at hs1 hc1 hn;dsimp only;refine walk ?_;refine qc_ rfl rfl fun p1 _=>?_;refine walk ?_;refine Qc_ (σ:=Nat×Option Addr×Nat) (fun u=>u.1≤l.length) (fun u=>[(1,.pointer (some ⟨p1,0,none⟩)),(3,.slice u.2.1 (openRL (l.take u.1)).length u.2.2),(4,I u.1)]) (fun _=>H) (fun u=>ownS rRec 9 120 53 H (.slice u.2.1 (openRL (l.take u.1)).length u.2.2) (openRL (l.take u.1))::row p1 132 [I nd,I lf,I ct,.slice b1 l.length c1]::R) (fun u=>l.length - u.1) (0,none,0) (Nat.zero_le _) (hs0:=?_) fun ⟨j,dd,e⟩ hj0 K hL=>?_
 rotate_left
 ·show Sub _ (ownS rRec 9 120 53 H (.slice none 0 0) []::_);exact v34_
 simp only at hj0;dsimp only;refine walk ?_;refine ze_ rfl (fun hk=>?_) (fun hk=>?_)
 ·have hk1:j<l.length:=by omega
  have ht:=List.take_succ_eq_append_getElem hk1;have hsn:=zcs_ (l:=l.take j) (t:=l[j]);rw [←ht] at hsn;have hol:=zaN_ (l:=l.take j);rw [List.length_take] at hol;refine walk ?_;refine Zd_ rfl rfl hs1.1 hk1 fun b o cc hr hc=>?_;obtain ⟨y,hle⟩:∃y,l[j]=y:=⟨_,rfl⟩;rw [hle] at hc hsn;obtain ⟨⟨x1,x2,x3⟩,op,bg,ps,wk,hd⟩:=y;obtain ⟨u1,u2,u3,rfl,g1,g2,g3,g4,g5,g6,g7⟩:=hc;dsimp only at g1 g2 g3 g4 g5 hsn;change HRow H b o [I x1,I x2,I x3,.bool op,I bg,u1,u2,u3] at hr;refine walk ?_;refine zF_ rfl Iff.rfl (fun hq=>?_) (fun hq=>?_)
  ·rw [if_pos hq] at hsn;refine walk ?_;refine zc_ 16 [row p1 132 [I nd,I lf,I ct,.slice b1 l.length c1]] ?_;refine qa_ 0 ?_;refine qa_ 1 ?_;refine qa_ 2 ?_;refine qa_ 3 ?_;refine zg_ 4 rfl rfl rfl hs1.1 hk1 fun b' o' cc' hr' hc'=>?_;rw [hle] at hc';obtain ⟨v1,v2,v3,rfl,_⟩:=hc';change HRow H b' o' [I x1,I x2,I x3,.bool op,I bg,v1,v2,v3] at hr';refine qa_ 5 ?_;refine Ql_ 6 rfl rfl rfl (HRow.take (k:=3) hr') rfl ?_;refine qa_ 7 ?_;refine qa_ 8 ?_;refine qa_ 9 ?_;refine zg_ 10 rfl rfl rfl hs1.1 hk1 fun b2 o2 cc2 hr2 hc2=>?_;rw [hle] at hc2;obtain ⟨w1,w2,w3,rfl,_,_,_,_,hw1,_⟩:=hc2;obtain ⟨bw,cw,rfl,_,_⟩:=hw1.1.shape;change HRow H b2 o2 [I x1,I x2,I x3,.bool op,I bg,.slice bw ps.length cw,w2,w3] at hr2;refine qa_ 11 ?_;refine qn_ 12 5 rfl rfl hr2 rfl rfl ?_;refine qa_ 13 ?_;refine zx_ (y:=recC ⟨x1,x2,x3⟩ ps) 14 15 rfl rfl rfl (Qaq_ ⟨g1,g2,g3⟩ hw1) (by simp only [Qb_] at hcap⊢;omega) fun d3 e3=>⟨subA,?_⟩;rw [←hsn,show (openRL (l.take j)).length+1=(openRL (l.take (j+1))).length by rw [hsn,List.length_append];rfl];refine qb_ rfl ?_;exact v75_
  ·rw [if_neg (by simpa using hq)] at hsn;rw [←hsn];exact v98_
 ·clear hL;obtain rfl:j=l.length:=by omega
  rw [List.take_length];refine walk ?_;refine finB [ownS rRec 9 120 53 H (.slice dd (openRL l).length e) (openRL l)] ?_;exact ⟨rfl,rfl⟩
section
variable {P:Program} {n:Nat} {W0:World} {F:Qd_} {H:Heap} {L:List za_} {K:Value→Heap→List za_→Prop} {ty:TypeId} {pos:String} {aft:Array Edge} {dst:Option Tmp} {g:Option (Nat×Bool)} {x y:Operand} {t e:TypeId} {sz wd:Nat} {z:Value} {kl kc:IntKind}
theorem zdS_ {α:Type} (R:Sx.Rd α) (z0:α) (m:Nat) [hT:TSl P t e] [hI:TIn P e sz wd z] [hR:RdOk R sz] (hv:opvs F [x,y]=some [.int kl m,.int kc m]) (hz:R H z.cells.toList z0) (hb:m*wd≤Qb_) (hm:m≤Qb_)
  (h:∀b,K (.slice (some ⟨b,0,none⟩) m m) H (ownS R sz wd e H (.slice (some ⟨b,0,none⟩) m m) (List.replicate m z0)::L)):OpW P n W0 ⟨dst,.makeSlice t x y,ty,pos,aft,g⟩ F H L K:=by
 have hsz:z.cells.size=sz:=by
  have:=hR.len hz;simpa using this
 refine .sub (Zep_ (hT:=hT) (hI:=hI) (m:=m) (cs:=(List.replicate m z.cells.toList).flatten) (Qf_ hv).1 (Qf_ hv).2 (by rw [←hsz];exact qdK_) hb hm fun b _=>⟨_,?_,h b⟩);have hlen:(List.replicate m z.cells.toList).flatten.length=m*sz:=by simp [List.length_flatten,hsz]
 have hs:=zJ_ (T:=e) (sz:=sz) (m:=m) (b:=b) (cap:=m) (xs:=(List.replicate m z.cells.toList).flatten) (sp:=[]) (R:=L) hlen (Nat.le_refl _) (by simp only [Qb_] at hm;omega) (by simpa using hlen);rw [List.append_nil] at hs;refine hs.trans ?_;have hm2:=qR_ (sz:=sz) (T:=e) (w:=wd) (s:= .slice (some ⟨b,0,none⟩) m m) (L:=L) (RL.rep hz m) (by simpa using hb);rw [List.length_replicate] at hm2;exact hm2
end
def qeu_ (node life:Int) (l:List Rec) (r:Value) (H':Heap) (B:List za_):Prop:=
  B=[]∧((∃q∈l,¬OkR node life q)∧r= .tuple #[.agg #[I 0,I 0,I 0,nilS],I 1]∨
  ((∀q∈l,OkR node life q)∧¬(l.map (·.Txn.k)).Nodup∧r= .tuple #[.agg #[I 0,I 0,I 0,nilS],I 2])∨
  ((∀q∈l,OkR node life q)∧(l.map (·.Txn.k)).Nodup∧∃c,r= .tuple #[.agg c.toArray,I 0]∧Qu_ H' c ⟨node,life,0,loadRs l⟩))
def OkA (node life:Int) (q:Rec):Prop:=(q.Txn.Node=node∧q.Txn.Life<life)∧0<q.Parts.length
instance {node life:Int} {q:Rec}:Decidable (OkA node life q):=by unfold OkA;infer_instance
def OkB (ps:List Int):Prop:=(∀p∈ps,0≤p)∧ps.Pairwise (· < ·)
theorem Qdy_ {node life:Int} {q:Rec}:OkR node life q↔OkA node life q∧OkB q.Parts:=by
 constructor
 ·intro h;exact ⟨⟨⟨h.node,h.life⟩,List.length_pos_iff.2 h.ne⟩,h.nn,h.rise⟩
 ·rintro ⟨⟨⟨a,b⟩,c⟩,d,e⟩;exact ⟨a,b,List.length_pos_iff.1 c,d,e⟩
theorem QdP_ {ps:List Int} {i:Nat} (hi:i<ps.length):OkB (ps.take (i+1))↔OkB (ps.take i)∧0≤ps[i]∧(i=0∨∃h:0<i,ps[i - 1]'(by omega)<ps[i]):=by
 unfold OkB;rw [List.take_succ_eq_append_getElem hi,List.pairwise_append];constructor
 ·rintro ⟨h1,h2,_,h3⟩;refine ⟨⟨fun p hp=>h1 p (List.mem_append_left _ hp),h2⟩,h1 _ (List.mem_append_right _ (by simp)),?_⟩;by_cases h0:i=0
  ·exact .inl h0
  ·refine .inr ⟨by omega,h3 _ ?_ _ (by simp)⟩;rw [List.mem_take_iff_getElem];exact ⟨i - 1,by omega,rfl⟩
 ·rintro ⟨⟨h1,h2⟩,h3,h4⟩;refine ⟨fun p hp=>?_,h2,by simp,fun a ha b hb=>?_⟩
  ·rcases List.mem_append.1 hp with hp | hp
   ·exact h1 p hp
   ·rw [List.mem_singleton] at hp;subst hp;exact h3
  ·rw [List.mem_singleton] at hb;subst hb;obtain ⟨j,hj,rfl⟩:=List.mem_take_iff_getElem.1 ha;have hj':j<i∧j<ps.length:=by omega
   rcases h4 with h4 | ⟨h0,h4⟩
   ·omega
   ·by_cases e:j=i - 1
    ·subst e;exact h4
    ·have h5:=(List.pairwise_iff_getElem.1 h2) j (i - 1) (by simp;omega) (by simp;omega) (by omega);simp only [List.getElem_take] at h5;omega
theorem Zdy_ {node life:Int} {l:List Rec} {x:Txn}:(∃t∈loadRs l,t.X=x)↔(mget x.k (loadTs l [])).isSome=true:=
 ((qbT_ (node:=node) (life:=life) (l:=l)).isT (x:=x)).symm
theorem qcV_ {l:List Rec}:(loadRs l).length≤l.length:=by
 have key:∀(l:List Rec) (a:List RTx),(l.foldl (fun a r=>putR (qat_ r) a) a).length≤a.length+l.length:=by
  intro l
  induction l with
  | nil=>intro a;simp
  | cons r l ih=>
   intro a;rw [List.foldl_cons];have h1:=ih (putR (qat_ r) a);have h2:=QcH_ (t:=qat_ r) (l:=a);simp only [List.length_cons];omega
 simpa [loadRs] using key l []
theorem v15_ {P:Prop} (h:P:=by
 refine walk ?_;refine zc_ 12 [row p11 53 [I qk,I qa,I qb,I qc,I qr,.slice sb1 qt.length sc1,.slice sb2 qd.length sc2,.bool qy,.slice sb3 qp.length sc3],row p8 132 [I node,I life,I 0,.slice d (loadRs (l.take j)).length e]] ?_;refine qa_ 0 ?_;refine qa_ 1 ?_;refine qa_ 2 ?_;refine qa_ 3 ?_;refine qa_ 4 ?_;refine qa_ 5 ?_;refine qa_ 6 ?_;refine qa_ 7 ?_;refine qa_ 8 ?_;refine zt_ 9 rfl (zdS_ QaZ_ false qp.length rfl (by exact rfl) (by simp only [Qb_] at hgs⊢;omega) (by simp only [Qb_] at hgs⊢;omega) fun b9=>⟨.refl _,subA,?_⟩);refine qf_ (.slice (some ⟨b9,0,none⟩) qp.length qp.length) fun H9 hl9 hsh=>?_;refine ZW_ 10 rfl rfl rfl ?_;have hrt:rC16 H9 [I qa,I qb,I qc,.bool true,I 0,.slice sb3 qp.length sc3,nilS,.slice (some ⟨b9,0,none⟩) qp.length qp.length] (qat_ ⟨qk,⟨qa,qb,qc⟩,⟨qr,qt,qd⟩,qy,qp⟩):=⟨_,_,_,rfl,g2,g3,g4,qh_,g8.mono hl9,SlB.nil,by unfold qat_;simp only [List.length_replicate];exact hsh⟩;refine qe_ 11 rfl rfl rfl (qab_ (W0:=W0) (H:=H9) (t:=qat_ ⟨qk,⟨qa,qb,qc⟩,⟨qr,qt,qd⟩,qy,qp⟩) (l:=loadRs (l.take j)) (hts.mono hl9) hrt (by have:=qcV_ (l:=l.take j);rw [List.length_take] at this;omega)) fun r11 H11 B hl11 ⟨eB,eH⟩=>?_;subst eB eH;refine ⟨subA,?_⟩;rw [←hls];refine qf_ r11 fun H12 hl12 hsp=>?_;obtain ⟨bp,cp,rfl,_,_⟩:=hsp.1.shape;refine qb_ rfl ?_;refine walk ?_;refine Zb_ hL (j+1,(bp,cp),H12) ⟨by simp only;omega,hlK.trans (hl9.trans (hl11.trans hl12)),?_,hsp⟩ (hf:=?_)
 ·exact v151_
 ·dsimp only;rw [hsn]
  repeat (first | exact fsub_nil _ | refine fsub_cons rfl ?_)):P:=h
theorem qbl_ {W0:World} {H:Heap} {node life:Int} {v:Value} {l:List Rec} (hf1:fits node) (hf2:fits life) (h0:SlB rRec 9 120 H v l) (hl:l.length≤1000):
  Ct Tryz.prog 93 #[I node,I life,v] W0 H [] (fun r H' B=>qeu_ node life l r H' B):=by
 refine Ct.go (vs:=[I node,I life,v]) fun R=>?_;obtain ⟨b0,c0,rfl,hc0,hd0⟩:=h0.1.shape;refine walk ?_;refine zb_ rfl fun p6 _=>?_;refine walk ?_;refine zb_ rfl fun p8 _=>?_;refine walk ?_
 refine Qc_ (σ:=Nat×(Option Addr×Nat)×Heap) (fun u=>u.1≤l.length∧H.le u.2.2∧(∀q∈l.take u.1,OkR node life q)∧SlB rC16 8 112 u.2.2 (.slice u.2.1.1 (loadRs (l.take u.1)).length u.2.1.2) (loadRs (l.take u.1))) (fun u=>[(0,I node),(1,I life),(2,.slice b0 l.length c0),(6,.pointer (some ⟨p6,0,none⟩)),(7,I 0),(8,.pointer (some ⟨p8,0,none⟩)),(9,I (qU_ (l.take u.1))),(10,I u.1)]) (fun u=>u.2.2)
  (fun u=>row p8 132 [I node,I life,I 0,.slice u.2.1.1 (loadRs (l.take u.1)).length u.2.1.2]::row p6 132 [I 0,I 0,I 0,nilS]::R) (fun u=>l.length - u.1) (0,(none,0),H) ⟨Nat.zero_le _,.refl _,fun q hq=>(by simp at hq),SlB.nil⟩ (hf0:=?_) fun ⟨j,⟨d,e⟩,HK⟩ ⟨hj0,hlK,hok,hts⟩ K hL=>?_
 rotate_left
 ·exact v99_
 simp only at hj0 hlK hok hts;dsimp only;refine walk ?_;refine ze_ rfl (fun hk=>?_) (fun hk=>?_)
 ·have hk1:j<l.length:=by omega
  have ht:=List.take_succ_eq_append_getElem hk1;have hsl:=h0.1.mono hlK;have hsn:=Qbk_ (l:=l.take j) (q:=l[j]);have hls:=Zcm_ (l:=l.take j) (r:=l[j]);rw [←ht] at hsn hls;refine walk ?_;refine Zd_ rfl rfl hsl hk1 fun b o cc hr hc=>?_;have hm:=List.getElem_mem hk1;generalize l[j]=q at hr hc ht hm hsn hls;obtain ⟨qk,⟨qa,qb,qc⟩,⟨qr,qt,qd⟩,qy,qp⟩:=q;obtain ⟨w1,w2,w3,rfl,g1,g2,g3,g4,g5,g6,g7,g8⟩:=hc;dsimp only at g1 g2 g3 g4 g5 g6 g7 g8;obtain ⟨sb1,sc1,rfl,_,_⟩:=g6.1.shape;obtain ⟨sb2,sc2,rfl,_,_⟩:=g7.1.shape;obtain ⟨sb3,sc3,rfl,hs3,hs4⟩:=g8.1.shape;change HRow HK b o [I qk,I qa,I qb,I qc,I qr,.slice sb1 qt.length sc1,.slice sb2 qd.length sc2,.bool qy,.slice sb3 qp.length sc3] at hr;refine zf_ rfl rfl hr rfl ?_;refine zb_ rfl fun p11 _=>?_;refine QB_ ?_
  refine Qc_ (σ:=Nat×Bool) (fun u=>u.1≤qp.length∧(u.2=true↔((qa=node∧qb<life)∧(0:Int)<(qp.length:Int))∧OkB (qp.take u.1))) (fun u=>[(0,I node),(1,I life),(2,.slice b0 l.length c0),(6,.pointer (some ⟨p6,0,none⟩)),(7,I 0),(8,.pointer (some ⟨p8,0,none⟩)),(9,I (qU_ (l.take j))),(10,I j),(11,.pointer (some ⟨p11,0,none⟩)),(12,.bool u.2),(13,I u.1)]) (fun _=>HK)
   (fun _=>row p11 53 [I qk,I qa,I qb,I qc,I qr,.slice sb1 qt.length sc1,.slice sb2 qd.length sc2,.bool qy,.slice sb3 qp.length sc3]::row p8 132 [I node,I life,I 0,.slice d (loadRs (l.take j)).length e]::row p6 132 [I 0,I 0,I 0,nilS]::R) (fun u=>qp.length - u.1) (0,decide ((qa=node∧qb<life)∧(0:Int)<(qp.length:Int))) ⟨Nat.zero_le _,by simp [OkB]⟩ fun ⟨i,ok⟩ ⟨hi0,hio⟩ K2 hL2=>?_
  simp only at hi0 hio;dsimp only;refine walk ?_;refine ze_ rfl (fun hi=>?_) (fun hi=>?_)
  ·have hi1:i<qp.length:=by omega
   have hsb:=QdP_ hi1;have g8r:SlR rInt 1 HK (.slice sb3 qp.length sc3) qp:=g8.1
   cases ok with
   | false=>
    refine walk ?_;refine Zb_ hL2 (i+1,false) ⟨by simp only;omega,⟨fun h=>(by cases h),fun h=>?_⟩⟩;exact hio.2 ⟨h.1,(hsb.1 h.2).1⟩
   | true=>
    have hA:=hio.1 rfl;by_cases c1:0≤qp[i]
    rotate_left
    ·refine walk ?_;refine Zb_ hL2 (i+1,false) ⟨by simp only;omega,⟨fun h=>(by cases h),fun h=>?_⟩⟩;exact absurd (hsb.1 h.2).2.1 c1
    by_cases c2:i=0
    ·subst c2;refine walk ?_;exact Zb_ hL2 (0+1,true) ⟨by simp only;omega,⟨fun _=>⟨hA.1,hsb.2 ⟨hA.2,c1,.inl rfl⟩⟩,fun _=>rfl⟩⟩
    have hci:((i:Int) - 1)=((i - 1:Nat):Int):=by omega
    have hi2:i - 1<qp.length:=by omega
    have c2i:¬(i:Int)=0:=by omega
    by_cases c3:qp[i - 1]<qp[i]
    ·refine walk ?_;rw [hci];refine walk ?_;exact Zb_ hL2 (i+1,true) ⟨by simp only;omega,⟨fun _=>⟨hA.1,hsb.2 ⟨hA.2,c1,.inr ⟨by omega,c3⟩⟩⟩,fun _=>rfl⟩⟩
    ·refine walk ?_;rw [hci];refine walk ?_;refine Zb_ hL2 (i+1,false) ⟨by simp only;omega,⟨fun h=>(by cases h),fun h=>?_⟩⟩;rcases (hsb.1 h.2).2.2 with h | ⟨_,h⟩
     ·exact absurd h c2
     ·exact absurd h c3
  clear hL2;obtain rfl:i=qp.length:=by omega
  rw [List.take_length] at hio
  cases ok with
  | false=>
   have hbad:¬OkR node life ⟨qk,⟨qa,qb,qc⟩,⟨qr,qt,qd⟩,qy,qp⟩:=fun h=>(by
    have h2:=Qdy_.1 h;have:=hio.2 ⟨⟨h2.1.1,by have:=h2.1.2;simp only at this;omega⟩,h2.2⟩
    cases this)
   refine walk ?_;refine fin0 ?_;exact ⟨rfl,.inl ⟨⟨_,hm,hbad⟩,rfl⟩⟩
  | true=>
  have hA:=hio.1 rfl;have hgood:OkR node life ⟨qk,⟨qa,qb,qc⟩,⟨qr,qt,qd⟩,qy,qp⟩:=Qdy_.2 ⟨⟨hA.1.1,by have:=hA.1.2;simp only;omega⟩,hA.2⟩;refine walk ?_;refine Za_ rfl rfl (QbY_ (x:=⟨qa,qb,qc⟩) (m:=⟨node,life,0,loadRs (l.take j)⟩) (c:=[I node,I life,I 0,.slice d (loadRs (l.take j)).length e]) ⟨_,rfl,hf1,hf2,qh_,hts⟩) fun r7 H7 B hl7 ⟨hr7,eB,eH⟩=>?_;subst eB eH;have hin:=Zdy_ (node:=node) (life:=life) (l:=l.take j) (x:=⟨qa,qb,qc⟩);have hgs:=g8.2;change qU_ (l.take (j+1))=if (mget (⟨qa,qb,qc⟩:Txn).k (loadTs (l.take j) [])).isSome=true then 2 else qU_ (l.take j) at hsn
  rcases hr7 with ⟨rfl,hno⟩ | ⟨t,ht1,rfl,hx⟩
  ·rw [if_neg (fun h=>(let ⟨t,a,b⟩:=hin.2 h;hno t a b))] at hsn;exact v15_
  ·rw [if_pos (hin.1 ⟨_,List.getElem_mem ht1,hx⟩)] at hsn;exact v15_
 ·clear hL;obtain rfl:j=l.length:=by omega
  rw [List.take_length] at hok hts⊢;rcases QaQ_ l with ⟨hc,hn⟩ | ⟨hc,hn⟩
  ·rw [hc];refine walk ?_;refine fin0 ?_;exact ⟨rfl,.inr (.inr ⟨hok,hn,_,rfl,_,rfl,hf1,hf2,qh_,hts⟩)⟩
  ·rw [hc];refine walk ?_;refine fin0 ?_;exact ⟨rfl,.inr (.inl ⟨hok,hn,rfl⟩)⟩
end Go.Proofs.YtlflbkpmfhhikaaGreatDoor
