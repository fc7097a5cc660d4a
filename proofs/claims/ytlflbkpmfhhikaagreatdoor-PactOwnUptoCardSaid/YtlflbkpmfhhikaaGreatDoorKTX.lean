/- The reference's coordinator: Load. -/
import Derived.Test.YtlflbkpmfhhikaaGreatDoorKE44
import Derived.Test.YtlflbkpmfhhikaaGreatDoorKLO
import Derived.Test.YtlflbkpmfhhikaaGreatDoorKTH
import Derived.Test.YtlflbkpmfhhikaaGreatDoorKTL
import Derived.Test.YtlflbkpmfhhikaaGreatDoorKTR
set_option maxHeartbeats 16000000
set_option maxRecDepth 100000
set_option linter.unusedVariables false
set_option linter.unusedSimpArgs false
namespace Go.Proofs.YtlflbkpmfhhikaaGreatDoor
open Go Go.Sx Go.Proofs
abbrev rC16:Rd RTx:=ZQ_
theorem zaG_ {a b:Txn}:a=b↔a.Node=b.Node∧a.Life=b.Life∧a.Count=b.Count:=by cases a;cases b;simp
theorem Zcz_ {H:Heap} {b o:Nat} {q:RTx} {s1 s2 s3:Value} (hr:HRow H b o (q.cv s1 s2 s3)):HRow H b o [I q.X.Node,I q.X.Life,I q.X.Count]:=HRow.take (k:=3) hr
theorem QaG_ {t:RTx}:∀{l:List RTx} {i:Nat},i≤l.length→(∀a∈l.take i,ltK a.X.k t.X.k)→(∀h:i<l.length,¬ltK l[i].X.k t.X.k)→putR t l=l.take i++t::(if∃h:i<l.length,l[i].X=t.X then l.drop (i+1) else l.drop i)
 | [],i,hi,_,_=>by
  obtain rfl:i=0:=by simpa using hi
  simp [putR]
 | a::l,0,_,_,hn=>by
  have:=hn (by simp);simp only [List.getElem_cons_zero] at this;unfold putR;rw [if_neg this];by_cases he:a.X=t.X
  ·simp [he]
  ·simp [he]
 | a::l,i+1,hi,hl,hn=>by
  have ih:=QaG_ (t:=t) (l:=l) (i:=i) (by simpa using hi) (fun b hb=>hl b (by simp [hb])) (fun h=>(by have:=hn (by simpa using h);simp only [List.getElem_cons_succ] at this;exact this));unfold putR;rw [if_pos (hl a (by simp)),ih];simp
theorem v115_ {P:Prop} (h:P:=by
 rw [hfin];refine walk ?_;refine finB [ownS rC16 8 112 150 H (.slice d4 (putR ⟨⟨x1,x2,x3⟩,op,bg,ps,wk,hd⟩ l).length e4) (putR ⟨⟨x1,x2,x3⟩,op,bg,ps,wk,hd⟩ l)] ?_;exact ⟨rfl,rfl⟩):P:=h
theorem v21_ {P:Prop} (h:P:=by
 refine walk ?_;refine Zh_ rfl rfl (zH_ (l:=((k:Nat):Int)) (h:=(l.length:Int)) rfl rfl rfl (by omega) (by omega) (by omega)) ?_;have hsd:=h0.1.slc (l:=k) (h:=l.length) (by omega) (Nat.le_refl _);rw [List.take_of_length_le (by rw [List.length_drop];omega)] at hsd;rw [Int.toNat_natCast,Int.toNat_natCast];have hl4:(l.take k++[(⟨⟨x1,x2,x3⟩,op,bg,ps,wk,hd⟩:RTx)]).length=k+1:=by rw [List.length_append,hll];rfl
 have hl5:(l.drop (k)).length=l.length - (k):=List.length_drop;rw [show (l.take k).length+1=(l.take k++[(⟨⟨x1,x2,x3⟩,op,bg,ps,wk,hd⟩:RTx)]).length by rw [hl4,hll]];refine Qq_ rfl rfl hsd (by rw [hl4,hl5];simp only [zb_] at hcap⊢;omega) fun d4 e4=>?_;rw [←List.length_append];have hfin:l.take k++[(⟨⟨x1,x2,x3⟩,op,bg,ps,wk,hd⟩:RTx)]++l.drop (k)=putR ⟨⟨x1,x2,x3⟩,op,bg,ps,wk,hd⟩ l:=by rw [hsp,List.append_assoc];rfl
 exact v115_):P:=h
theorem qan_ {W0:World} {H:Heap} {v:Value} {l:List RTx} {t:RTx} {ct:List Value} (h0:SlB rC16 8 112 H v l) (ht:rC16 H ct t) (hn:l.length≤100000):
  Ct Tryz.prog 87 #[v,.agg ct.toArray] W0 H [] (fun r H' B=>B=[ownS rC16 8 112 150 H r (putR t l)]∧H'=H):=by
 refine Ct.go (vs:=[v,.agg ct.toArray]) fun R=>?_;obtain ⟨b0,c0,rfl,hc0,hd0⟩:=h0.1.shape;have hcap:(100000:Nat)*240≤zb_:=by decide
 have ht0:=ht;obtain ⟨⟨x1,x2,x3⟩,op,bg,ps,wk,hd⟩:=t;obtain ⟨s1,s2,s3,rfl,_,_,_,_,hs1,hs2,hs3⟩:=ht;obtain ⟨b1,c1,rfl,_,_⟩:=hs1.1.shape;obtain ⟨b2,c2,rfl,_,_⟩:=hs2.1.shape;obtain ⟨b3,c3,rfl,_,_⟩:=hs3.1.shape;dsimp only at ht0;refine walk ?_;refine qc_ rfl rfl fun p3 _=>?_;refine walk ?_;refine Qc_ (σ:=Nat×Option Addr×Nat) (fun u=>u.1≤l.length∧∀q∈l.take u.1,ltK q.X.k (x1,x2,x3)) (fun u=>[(0,.slice b0 l.length c0),(3,.pointer (some ⟨p3,0,none⟩)),(5,.slice u.2.1 (l.take u.1).length u.2.2),(6,I u.1)]) (fun _=>H) (fun u=>ownS rC16 8 112 150 H (.slice u.2.1 (l.take u.1).length u.2.2) (l.take u.1)::row p3 150 [I x1,I x2,I x3,.bool op,I bg,.slice b1 ps.length c1,.slice b2 wk.length c2,.slice b3 hd.length c3]::R) (fun u=>l.length - u.1) (0,none,0) ⟨Nat.zero_le _,by simp⟩ (hs0:=?_) fun ⟨k,dd,e⟩ ⟨hk0,hlt⟩ K hL=>?_
 rotate_left
 ·exact v127_
 simp only at hk0 hlt;dsimp only;have hll:(l.take k).length=k:=by simp;omega
 by_cases hk1:k<l.length
 ·have hkk:((k:Int)<(l.length:Int)):=by omega
  have htk:=List.take_succ_eq_append_getElem hk1;refine walk ?_;refine zc_ 14 [row p3 150 [I x1,I x2,I x3,.bool op,I bg,.slice b1 ps.length c1,.slice b2 wk.length c2,.slice b3 hd.length c3]] ?_;refine qa_ 0 ?_;refine qa_ 1 ?_;refine qa_ 2 ?_;refine qa_ 3 ?_;refine qa_ 4 ?_;refine qa_ 5 ?_;refine qa_ 6 ?_;refine Qf_ 7 rfl rfl rfl h0.1 hk1 fun b o cc hr hc=>?_;obtain ⟨u1,u2,u3,rfl,hc⟩:=hc;have hrt:=Zcz_ hr;obtain ⟨ya,yb,yc,hy⟩:∃ya yb yc,l[k].X=⟨ya,yb,yc⟩:=⟨_,_,_,rfl⟩;rw [hy] at hrt;refine qa_ 8 ?_;refine Zl_ 9 rfl rfl rfl hrt rfl ?_;refine qa_ 10 ?_;refine qa_ 11 ?_;refine zq_ 12 rfl rfl rfl (zaS_ (x:=(ya,yb,yc)) (y:=(x1,x2,x3))) ?_;refine qa_ 13 ?_;refine qb_ rfl ?_;have hyk:l[k].X.k=(ya,yb,yc):=by rw [hy];rfl
  refine walk ?_;refine Qe_ rfl (fun hq=>?_) (fun hq=>?_)
  ·have hse:l.take k++[l[k]]=l.take (k+1):=htk.symm;have hsl2:(l.take k).length+1=(l.take (k+1)).length:=by rw [List.length_take,List.length_take];omega
   refine walk ?_;refine qe_ rfl rfl h0.1 hk1 fun b' o' cc' hr' hc'=>?_;have hcc:=hc';obtain ⟨v1,v2,v3,rfl,_,_,_,_,hv1,hv2,hv3⟩:=hc';refine walk ?_;refine zg_ rfl rfl hr' rfl ?_;refine zj_ (y:=l[k]) rfl rfl rfl hcc (by rw [hll];simp only [zb_] at hcap⊢;omega) fun d3 e3=>?_;rw [hsl2,hse];refine walk ?_;refine Zb_ hL (k+1,d3,e3) ⟨by simp only;omega,fun q hm=>?_⟩;rw [htk,List.mem_append,List.mem_singleton] at hm;rcases hm with hm | rfl
   ·exact hlt q hm
   ·rw [hyk];exact hq
  ·have hsp:=QaG_ (t:=⟨⟨x1,x2,x3⟩,op,bg,ps,wk,hd⟩) hk0 hlt (fun h=>by rw [hyk];exact hq);clear hL;refine walk ?_;refine zj_ (y:=(⟨⟨x1,x2,x3⟩,op,bg,ps,wk,hd⟩:RTx)) rfl rfl rfl ht0 (by rw [hll];simp only [zb_] at hcap⊢;omega) fun d3 e3=>?_;refine walk ?_;refine qe_ rfl rfl h0.1 hk1 fun b' o' cc' hr' hc'=>?_;obtain ⟨v1,v2,v3,rfl,_⟩:=hc';have hrt':=Zcz_ hr';rw [hy] at hrt';change HRow H b' o' [I ya,I yb,I yc] at hrt';refine walk ?_;refine zg_ rfl rfl hrt' rfl ?_;refine walk ?_;refine Qe_ rfl (fun hq2=>?_) (fun hq2=>?_)
   ·have hx:l[k].X=⟨x1,x2,x3⟩:=hy.trans (by first | exact hq2 | exact zaG_.2 hq2);rw [if_pos ⟨hk1,hx⟩] at hsp;refine walk ?_;have hkc:((k:Int)+1)=((k+1:Nat):Int):=by omega
    rw [hkc];refine walk ?_;refine Zh_ rfl rfl (zH_ (l:=((k+1:Nat):Int)) (h:=(l.length:Int)) rfl rfl rfl (by omega) (by omega) (by omega)) ?_;have hsd:=h0.1.slc (l:=k+1) (h:=l.length) (by omega) (Nat.le_refl _);rw [List.take_of_length_le (by rw [List.length_drop];omega)] at hsd;rw [Int.toNat_natCast,Int.toNat_natCast];have hl4:(l.take k++[(⟨⟨x1,x2,x3⟩,op,bg,ps,wk,hd⟩:RTx)]).length=k+1:=by rw [List.length_append,hll];rfl
    have hl5:(l.drop (k+1)).length=l.length - (k+1):=List.length_drop;rw [show (l.take k).length+1=(l.take k++[(⟨⟨x1,x2,x3⟩,op,bg,ps,wk,hd⟩:RTx)]).length by rw [hl4,hll]];refine Qq_ rfl rfl hsd (by rw [hl4,hl5];simp only [zb_] at hcap⊢;omega) fun d4 e4=>?_;rw [←List.length_append];have hfin:l.take k++[(⟨⟨x1,x2,x3⟩,op,bg,ps,wk,hd⟩:RTx)]++l.drop (k+1)=putR ⟨⟨x1,x2,x3⟩,op,bg,ps,wk,hd⟩ l:=by rw [hsp,List.append_assoc];rfl
    exact v115_
   ·have hx:¬∃h:k<l.length,l[k].X=⟨x1,x2,x3⟩:=fun ⟨_,h⟩=>hq2 (by first | exact hy.symm.trans h | exact zaG_.1 (hy.symm.trans h));rw [if_neg hx] at hsp;exact v21_
 ·have hkk:¬((k:Int)<(l.length:Int)):=by omega
  have hsp:=QaG_ (t:=⟨⟨x1,x2,x3⟩,op,bg,ps,wk,hd⟩) hk0 hlt (fun h=>absurd h hk1);rw [if_neg (fun h=>hk1 h.1)] at hsp;clear hL;refine walk ?_;refine zc_ 14 [row p3 150 [I x1,I x2,I x3,.bool op,I bg,.slice b1 ps.length c1,.slice b2 wk.length c2,.slice b3 hd.length c3]] ?_;refine qa_ 0 ?_;refine qa_ 1 ?_;refine qa_ 2 ?_;refine qa_ 3 ?_;refine qa_ 4 ?_;refine Qr_ 5 rfl rfl ?_;refine Qr_ 6 rfl rfl ?_;refine Qr_ 7 rfl rfl ?_;refine Qr_ 8 rfl rfl ?_;refine Qr_ 9 rfl rfl ?_;refine Qr_ 10 rfl rfl ?_;refine Qr_ 11 rfl rfl ?_;refine Qr_ 12 rfl rfl ?_;refine qa_ 13 ?_;refine qb_ rfl ?_;refine walk ?_;refine zj_ (y:=(⟨⟨x1,x2,x3⟩,op,bg,ps,wk,hd⟩:RTx)) rfl rfl rfl ht0 (by rw [hll];simp only [zb_] at hcap⊢;omega) fun d3 e3=>?_;refine walk ?_;exact v21_
theorem zdc_ {W0:World} {H:Heap} {c:List Value} {m:Coord} {x:Txn} (h0:qu_ H c m):
  Ct Tryz.prog 130 #[.agg c.toArray,.agg x.cv.toArray] W0 H [] (fun r H' B=>((r=I (-1)∧∀t∈m.Txns,t.X≠x)∨∃j:Nat,∃h:j<m.Txns.length,r=I j∧m.Txns[j].X=x)∧B=[]∧H'=H):=by
 refine Ct.go (vs:=[.agg c.toArray,.agg x.cv.toArray]) fun R=>?_;obtain ⟨s1,rfl,f1,f2,f3,hs1⟩:=h0;obtain ⟨b1,c1,rfl,hc1,hd1⟩:=hs1.1.shape;obtain ⟨nd,lf,ct,l⟩:=m;obtain ⟨x1,x2,x3⟩:=x;dsimp only at hs1 hc1;dsimp only;refine walk ?_;refine qc_ rfl rfl fun p2 _=>?_;refine qc_ rfl rfl fun p3 _=>?_;refine walk ?_;refine Qc_ (σ:=Nat) (fun j=>j≤l.length∧∀q∈l.take j,q.X≠⟨x1,x2,x3⟩) (fun j=>[(2,.pointer (some ⟨p2,0,none⟩)),(3,.pointer (some ⟨p3,0,none⟩)),(5,I j)]) (fun _=>H) (fun _=>row p2 132 [I nd,I lf,I ct,.slice b1 l.length c1]::row p3 47 [I x1,I x2,I x3]::R) (fun j=>l.length - j) 0 ⟨Nat.zero_le _,by simp⟩ fun j ⟨hj0,hj⟩ K hL=>?_;refine walk ?_;refine Qe_ rfl (fun hk=>?_) (fun hk=>?_)
 ·have hk1:j<l.length:=by omega
  have ht:=List.take_succ_eq_append_getElem hk1;refine walk ?_;refine qe_ rfl rfl hs1.1 hk1 fun b o cc hr hc=>?_;obtain ⟨u1,u2,u3,rfl,hc⟩:=hc;have hrt:=Zcz_ hr;obtain ⟨ya,yb,yc,hy⟩:∃ya yb yc,l[j].X=⟨ya,yb,yc⟩:=⟨_,_,_,rfl⟩;rw [hy] at hrt;change HRow H b o [I ya,I yb,I yc] at hrt;refine walk ?_;refine zg_ rfl rfl hrt rfl ?_;refine walk ?_;refine Qe_ rfl (fun hq=>?_) (fun hq=>?_)
  ·refine walk ?_;refine fin0 ?_;exact ⟨.inr ⟨j,hk1,rfl,hy.trans (zaG_.2 hq)⟩,rfl,rfl⟩
  ·refine walk ?_;refine Zb_ hL (j+1) ⟨by omega,fun q hm=>?_⟩;rw [ht,List.mem_append,List.mem_singleton] at hm;rcases hm with hm | rfl
   ·exact hj q hm
   ·rw [hy];exact fun h=>hq (zaG_.1 h)
 ·clear hL;obtain rfl:j=l.length:=by omega
  exact v98_
theorem Qdc_ {x:Txn} {l:List RTx} {t:RTx}:cutR x (l++[t])=if t.X=x then cutR x l else cutR x l++[t]:=by
 unfold cutR;rw [List.filter_append];by_cases h:t.X=x<;>simp [h]
theorem qcp_ {x:Txn} {l:List RTx}:(cutR x l).length≤l.length:=List.length_filter_le _ _
theorem v85_ {P:Prop} (h:P:=by
 refine walk ?_;exact Zb_ hL (j+1,dd,e) (by simp only;omega)):P:=h
theorem qv_ {W0:World} {H:Heap} {c:List Value} {m:Coord} {x:Txn} (h0:qu_ H c m) (hn:m.Txns.length≤100000):
  Ct Tryz.prog 97 #[.agg c.toArray,.agg x.cv.toArray] W0 H [] (fun r H' B=>∃c',r= .agg c'.toArray∧qu_ H' c' {m with Txns:=cutR x m.Txns}∧B=[]):=by
 refine Ct.go (vs:=[.agg c.toArray,.agg x.cv.toArray]) fun R=>?_;obtain ⟨s1,rfl,f1,f2,f3,hs1⟩:=h0;obtain ⟨b1,c1,rfl,hc1,hd1⟩:=hs1.1.shape;obtain ⟨nd,lf,ct,l⟩:=m;obtain ⟨x1,x2,x3⟩:=x;have hcap:(100000:Nat)*240≤zb_:=by decide
 dsimp only at hs1 hc1 hn f1 f2 f3;dsimp only;refine walk ?_;refine qc_ rfl rfl fun p2 _=>?_;refine qc_ rfl rfl fun p3 _=>?_;refine Qb_ rfl fun p4 _=>?_;refine walk ?_;refine Qc_ (σ:=Nat×Option Addr×Nat) (fun u=>u.1≤l.length) (fun u=>[(2,.pointer (some ⟨p2,0,none⟩)),(3,.pointer (some ⟨p3,0,none⟩)),(4,.pointer (some ⟨p4,0,none⟩)),(5,.slice u.2.1 (cutR ⟨x1,x2,x3⟩ (l.take u.1)).length u.2.2),(6,I u.1)]) (fun _=>H) (fun u=>ownS rC16 8 112 150 H (.slice u.2.1 (cutR ⟨x1,x2,x3⟩ (l.take u.1)).length u.2.2) (cutR ⟨x1,x2,x3⟩ (l.take u.1))::row p2 132 [I nd,I lf,I ct,.slice b1 l.length c1]::row p3 47 [I x1,I x2,I x3]::row p4 132 [I 0,I 0,I 0,nilS]::R) (fun u=>l.length - u.1) (0,none,0) (Nat.zero_le _) (hs0:=?_) fun ⟨j,dd,e⟩ hj0 K hL=>?_
 rotate_left
 ·show Sub _ (ownS rC16 8 112 150 H (.slice none 0 0) []::_);exact v32_
 simp only at hj0;dsimp only;refine walk ?_;refine Qe_ rfl (fun hk=>?_) (fun hk=>?_)
 ·have hk1:j<l.length:=by omega
  have ht:=List.take_succ_eq_append_getElem hk1;have hsn:=Qdc_ (x:=⟨x1,x2,x3⟩) (l:=l.take j) (t:=l[j]);rw [←ht] at hsn;have hcl:=qcp_ (x:=⟨x1,x2,x3⟩) (l:=l.take j);refine walk ?_;refine qe_ rfl rfl hs1.1 hk1 fun b o cc hr hc=>?_;obtain ⟨u1,u2,u3,rfl,hc⟩:=hc;have hrt:=Zcz_ hr;obtain ⟨ya,yb,yc,hy⟩:∃ya yb yc,l[j].X=⟨ya,yb,yc⟩:=⟨_,_,_,rfl⟩;rw [hy] at hrt;change HRow H b o [I ya,I yb,I yc] at hrt;refine walk ?_;refine zg_ rfl rfl hrt rfl ?_;refine walk ?_;refine Qe_ rfl (fun hq=>?_) (fun hq=>?_)
  ·have hx:¬l[j].X=⟨x1,x2,x3⟩:=fun h=>hq (zaG_.1 (hy.symm.trans h));rw [if_neg hx] at hsn;refine walk ?_;refine qe_ rfl rfl hs1.1 hk1 fun b' o' cc' hr' hc'=>?_;have hcc:=hc';obtain ⟨v1,v2,v3,rfl,_⟩:=hc';refine walk ?_;refine zg_ rfl rfl hr' rfl ?_;refine zj_ (y:=l[j]) rfl rfl rfl hcc (by rw [List.length_take] at hcl;simp only [zb_] at hcap⊢;omega) fun d3 e3=>?_;rw [←hsn,show (cutR ⟨x1,x2,x3⟩ (l.take j)).length+1=(cutR ⟨x1,x2,x3⟩ (l.take (j+1))).length by rw [hsn,List.length_append];rfl];exact v62_
  ·have hx:l[j].X=⟨x1,x2,x3⟩:=hy.trans (zaG_.2 (Classical.not_not.1 hq));rw [if_pos hx] at hsn;rw [←hsn];exact v85_
 ·clear hL;obtain rfl:j=l.length:=by omega
  rw [List.take_length];refine walk ?_;refine qg_ (.slice dd (cutR ⟨x1,x2,x3⟩ l).length e) fun H2 hl2 hsl=>?_;refine fin0 ?_;exact ⟨_,rfl,⟨_,rfl,f1,f2,f3,hsl⟩,rfl⟩
end Go.Proofs.YtlflbkpmfhhikaaGreatDoor
namespace Go.Proofs.YtlflbkpmfhhikaaGreatDoor
open Go Go.Sx Go.Proofs
end Go.Proofs.YtlflbkpmfhhikaaGreatDoor
namespace Go.Proofs.YtlflbkpmfhhikaaGreatDoor
open Go Go.Sx Go.Proofs
theorem Zab_ {w:Work}:∀{l:List Work} {i:Int},works0 i (l++[w])=works0 i l++if 0<w.Take.length+w.Drop.length then [(i+l.length,w)] else []
 | [],i=>by simp [works0]
 | a::l,i=>by
  rw [List.cons_append];have ih:=Zab_ (w:=w) (l:=l) (i:=i+1);have e:i+((l.length+1:Nat):Int)=i+1+l.length:=by omega
  unfold works0;rw [List.length_cons,e];split
  ·rw [ih,List.cons_append]
  ·exact ih
theorem ZaG_ {κ ν:Type} [DecidableEq κ] {k:κ} {v:ν}:∀{m:List (κ×ν)},mget k m=none→mset k v m=m++[(k,v)]
 | [],_=>rfl
 | (k',v')::m,h=>by
  unfold mget at h;split at h
  ·cases h
  next hk=>unfold mset;rw [if_neg hk,ZaG_ h,List.cons_append]
def pq (ws:List (Int×CW)):List (Int×Work):=ws.map fun q=>(q.1,q.2.2)
theorem QbI_ {ws:List (Int×CW)}:(pq ws).map (·.1)=ws.map (·.1):=by unfold pq;rw [List.map_map];rfl
theorem qcA_ {W0:World} {H:Heap} {p n:Nat} {s:CS} {v:Value} {l:List Work} {now:Int} (I0:CInv n s) (hn:n≤1000) (hnow:fits now) (hw:SlB Qi_ 3 56 H v l) (hl:l.length≤1000):
  Ct Tryz.prog 36 #[.pointer (some ⟨p,0,none⟩),v,I now] W0 H [qj_ H p s]
   (fun r H' B=>∃ws,pq ws=works0 0 l∧((ws=[]∧r= .tuple #[.agg #[I 0,I 0,I 0],nilS,I 4]∧B=[qj_ H' p s])∨
    (ws≠[]∧∃v1,r= .tuple #[.agg (newX s).cv.toArray,v1,I 0]∧B=[ownS Qa_ 19 216 106 H' v1 (qi_ s.node (newX s) (zf_ now ws)),qj_ H' p (qd_ s now ws)]))):=by
 refine Ct.go (vs:=[.pointer (some ⟨p,0,none⟩),v,I now]) fun R=>?_;obtain ⟨b0,c0,rfl,hc0,hd0⟩:=hw.1.shape;have hcap:(1001:Nat)*8≤zb_:=by decide
 refine walk ?_;refine Qb_ rfl fun p6 _=>?_;refine walk ?_;refine qs_ iK rCW true rfl fun wb _=>?_;refine walk ?_;refine qs_ iK rInt false rfl fun hb _=>?_;refine walk ?_;refine qc_ rfl rfl fun ep _=>?_;refine walk ?_
 refine Qc_ (σ:=Nat×(Option Addr×Nat)×List (Int×CW)×Heap) (fun u=>u.1≤l.length∧H.le u.2.2.2∧pq u.2.2.1=works0 0 (l.take u.1)) (fun u=>[(0,.pointer (some ⟨p,0,none⟩)),(6,.pointer (some ⟨p6,0,none⟩)),(7,nilS),(8,I 0),(9,.pointer (some ⟨ep,0,none⟩)),(18,.slice b0 l.length c0),(19,I l.length),(20,I u.1)]) (fun u=>u.2.2.2)
  (fun u=>ownS rInt 1 8 3 H (.slice u.2.1.1 (u.2.2.1.map (·.1)).length u.2.1.2) (u.2.2.1.map (·.1))::QC_ ep false now (.slice u.2.1.1 (u.2.2.1.map (·.1)).length u.2.1.2) (.map (some wb)) hb::mapO iK rCW true u.2.2.2 wb u.2.2.1::mapO iK rInt false H hb []::row p6 47 [I 0,I 0,I 0]::qj_ H p s::R) (fun u=>l.length - u.1) (0,(none,0),[],H) ⟨Nat.zero_le _,.refl _,rfl⟩ (hs0:=?_) fun ⟨j,⟨d,e⟩,ws,HK⟩ ⟨hj0,hlK,hws⟩ K hL=>?_
 rotate_left
 ·show Sub _ (ownS rInt 1 8 3 H (.slice none 0 0) []::_);exact v32_
 simp only at hj0 hlK hws;dsimp only
 have hwl:(ws.map (·.1)).length≤j:=by
  have h1:=zM_ (i:=0) (l:=l.take j);rw [←hws,List.length_take] at h1;unfold pq at h1;simp only [List.length_map] at h1⊢;omega
 refine walk ?_;refine Qe_ rfl (fun hk=>?_) (fun hk=>?_)
 ·have hk1:j<l.length:=by omega
  have ht:=List.take_succ_eq_append_getElem hk1;have hsn:=Zab_ (w:=l[j]) (l:=l.take j) (i:=0);rw [←ht,←hws,List.length_take,Nat.min_eq_left hj0,Int.zero_add] at hsn;refine walk ?_;refine qe_ rfl rfl (hw.1.mono hlK) hk1 fun b o cc hr hc=>?_;generalize l[j]=w at hr hc hsn;have hcc:=hc;obtain ⟨wr,wt,wd⟩:=w;obtain ⟨u1,u2,rfl,g1,g2,g3⟩:=hc;obtain ⟨b1,c1,rfl,hc1,hd1⟩:=g2.1.shape;obtain ⟨b2,c2,rfl,hc2,hd2⟩:=g3.1.shape;dsimp only at g1 g2 g3 hsn hc1 hc2;change HRow HK b o [I wr,.slice b1 wt.length c1,.slice b2 wd.length c2] at hr;refine walk ?_;refine zg_ rfl rfl hr rfl ?_;refine Qb_ rfl fun p11 _=>?_;have hgs1:=g2.2;have hgs2:=g3.2;simp only [zb_] at hgs1 hgs2;refine walk ?_;refine Qe_ rfl (fun hq=>?_) (fun hq=>?_)
  ·have hq1:0<wt.length+wd.length:=by omega
   rw [if_pos hq1] at hsn;have hfj:fits (j:Int):=by unfold fits;omega
   refine walk ?_;refine zj_ (y:=(j:Int)) rfl rfl rfl ⟨rfl,hfj⟩ (by simp only [zb_] at hcap⊢;omega) fun d3 e3=>?_;refine walk ?_;refine zc_ 7 [row p11 50 [I wr,.slice b1 wt.length c1,.slice b2 wd.length c2],QC_ ep false now (.slice d3 ((ws.map (·.1)).length+1) e3) (.map (some wb)) hb] ?_;refine qa_ 0 ?_;refine qa_ 1 ?_;refine qa_ 2 ?_;refine qa_ 3 ?_;refine qa_ 4 ?_;refine qa_ 5 ?_;refine ze_ 6 rfl rfl rfl (Zac_ (W0:=W0) (H:=HK) (m:=⟨wr,wt,wd⟩) (c:=[I wr,.slice b1 wt.length c1,.slice b2 wd.length c2]) hcc) fun r5 H5 B hl5 ⟨cs5,er,hcs5,eB⟩=>?_;subst er eB;refine ⟨subA,?_⟩;refine qb_ rfl ?_;refine zr_ (L':=mapO iK rCW true H5 wb ws::ownS rInt 1 8 3 HK (.slice d3 ((ws.map (·.1)).length+1) e3) (ws.map (·.1)++[(j:Int)])::QC_ ep false now (.slice d3 ((ws.map (·.1)).length+1) e3) (.map (some wb)) hb::mapO iK rInt false H hb []::row p6 47 [I 0,I 0,I 0]::qj_ H p s::R) ?_ ?_
   ·refine Sub.trans ?_ (QaE_ hl5);exact subA
   refine zw_ (RV:=rCW) (ag:=true) (cs:=cs5) (u:=(cs5,(⟨wr,wt,wd⟩:Work))) rfl rfl ⟨rfl,hcs5⟩ (by repeat (first | exact Has.here | apply Has.there)) ?_
   have hfr:mget (j:Int) ws=none:=by
    rw [zE_];intro hm;have h2:(j:Int)∈(pq ws).map (·.1):=by rw [QbI_];exact hm
    rw [hws] at h2;obtain ⟨q,hq3,hq4⟩:=List.mem_map.1 h2;have:=zO_ (i:=0) (Int.le_refl _) q hq3;rw [List.length_take] at this;omega
   rw [ZaG_ hfr];have e1:ws.map (·.1)++[(j:Int)]=(ws++[((j:Int),(cs5,(⟨wr,wt,wd⟩:Work)))]).map (·.1):=by rw [List.map_append];rfl
   rw [show (ws.map (·.1)).length+1=((ws++[((j:Int),(cs5,(⟨wr,wt,wd⟩:Work)))]).map (·.1)).length by simp,e1];refine walk ?_;refine Zb_ hL (j+1,(d3,e3),ws++[((j:Int),(cs5,(⟨wr,wt,wd⟩:Work)))],H5) ⟨by simp only;omega,hlK.trans hl5,?_⟩ (hs:=?_)
   ·simp only;rw [hsn];unfold pq;rw [List.map_append];rfl
   ·refine Sub.trans ?_ (qr_ (R:=rInt) HK H);exact subA
  ·have hq1:¬0<wt.length+wd.length:=by omega
   rw [if_neg hq1,List.append_nil] at hsn;refine walk ?_;exact Zb_ hL (j+1,(d,e),ws,HK) ⟨by simp only;omega,hlK,hsn.symm⟩
 ·clear hL;obtain rfl:j=l.length:=by omega
  rw [List.take_length] at hws;refine walk ?_;refine Qe_ rfl (fun hq=>?_) (fun hq=>?_)
  ·have hws0:ws=[]:=by
    cases ws with
    | nil=>rfl
    | cons a r=>simp at hq;omega
   refine walk ?_;refine finB [qj_ HK p s] ?_ (hs:=?_)
   ·exact ⟨ws,hws,.inl ⟨hws0,rfl,rfl⟩⟩
   ·refine Sub.trans ?_ (Zcg_ hlK);exact subA
  have hne:ws≠[]:=fun h=>hq (by rw [h];rfl);have hcb:=I0.c0;have hfn:=I0.fn;have hfl:=I0.fl;refine Qj_ (A:=qj_ H p s) (σ:=Nat×List CE) (B:=fun a=>[cRow p a.1 s,cMap a.1 a.2,bigL (xA H) a.2]) (p:=fun a=>CS.ts s=tsC a.2) (by repeat (first | exact Has.here | apply Has.there)) (fun h ⟨mb,zs,hb,hk⟩=>⟨(mb,zs),hk,hb⟩) fun ⟨mb,zs⟩ hts=>?_;dsimp only at hts⊢;refine walk ?_;refine zc_ 14 [row p 160 [I s.node,I s.life,I (s.count+1),.map (some mb)]] ?_;refine qa_ 0 ?_;refine qa_ 1 ?_;refine qa_ 2 ?_;refine qa_ 3 ?_;refine qa_ 4 ?_;refine qa_ 5 ?_;refine qa_ 6 ?_;refine qa_ 7 ?_;refine qa_ 8 ?_;refine qa_ 9 ?_;refine qa_ 10 ?_;refine qa_ 11 ?_;refine qa_ 12 ?_;refine Zn_ 13 rfl rfl fun p12 _=>?_;refine qb_ rfl ?_;refine walk ?_;obtain ⟨hnd,hent⟩:=I0.entry hts
  have hfr:∀z∈zs,z.k≠(newX s).k:=fun z hz hk=>by
   have h2:=(hent z hz).1;rw [hk,I0.fresh] at h2;cases h2
  refine zc_ 6 [row p 160 [I s.node,I s.life,I (s.count+1),.map (some mb)],row p12 47 [I s.node,I s.life,I (s.count+1)]] ?_;refine qa_ 0 ?_;refine qa_ 1 ?_;refine qa_ 2 ?_;refine qa_ 3 ?_;refine qa_ 4 ?_;refine qa_ 5 ?_;refine qb_ rfl ?_;refine zw_ (RV:=rVal) (ag:=false) (cs:=[ptrC ep]) (u:=ptrC ep) rfl rfl (show rVal Heap.empty [ptrC ep] (ptrC ep) from ⟨rfl,rfl⟩) (by repeat (first | exact Has.here | apply Has.there)) ?_;obtain ⟨ee,hee⟩:∃ee:CE,ee=⟨(newX s).k,ep,.slice d (ws.map (fun q:Int×CW=>q.1)).length e,zf_ now ws⟩:=⟨_,rfl⟩;rw [show mset (s.node,s.life,s.count+1) (ptrC ep) (msC zs)=msC (zs++[ee]) by subst hee;exact qdA_ (f:=fun e=>ptrC e.p) (e:=⟨(newX s).k,ep,.slice d (ws.map (fun q:Int×CW=>q.1)).length e,zf_ now ws⟩) hfr];refine Zd_ (.slice d (ws.map (·.1)).length e) fun H2 hl2 hsp=>?_;refine walk ?_
  have hts2:(qd_ s now ws).ts=tsC (zs++[ee]):=by
   unfold qd_;rw [if_neg hne];show mset (newX s).k (zf_ now ws) s.ts=_;rw [hts];subst hee;exact qdA_ (f:=CE.x) (e:=⟨(newX s).k,ep,.slice d (ws.map (fun q:Int×CW=>q.1)).length e,zf_ now ws⟩) hfr
  have hbn:(qd_ s now ws).node=s.node∧(qd_ s now ws).life=s.life∧(qd_ s now ws).count=s.count+1:=by unfold qd_;rw [if_neg hne];exact ⟨rfl,rfl,rfl⟩
  have hTI:=TInv.began (now:=now) (l:=l) hws (by omega) hne hnow;refine ex_L (L':=xA H2 ee::cRow p mb (qd_ s now ws)::cMap mb (zs++[ee])::bigL (xA H) zs::row p12 47 [I s.node,I s.life,I (s.count+1)]::row p6 47 [I 0,I 0,I 0]::R) ?_ ?_
  ·refine Sub.trans (B:=xRow ee (.map (some wb)) hb::zs_ HK ee (.map (some wb))::QA_ HK ee hb::cRow p mb (qd_ s now ws)::cMap mb (zs++[ee])::bigL (xA H) zs::row p12 47 [I s.node,I s.life,I (s.count+1)]::row p6 47 [I 0,I 0,I 0]::R) ?_ (ZN_ (by subst hee;exact hsp) hl2);subst hee;unfold cRow;rw [hbn.1,hbn.2.1,hbn.2.2];refine Sub.trans (B:=QA_ H ⟨(newX s).k,ep,.slice d (ws.map (·.1)).length e,zf_ now ws⟩ hb::mapO iK rCW true HK wb ws::QC_ ep false now (.slice d (ws.map (·.1)).length e) (.map (some wb)) hb::row p 160 [I s.node,I s.life,I (s.count+1),.map (some mb)]::cMap mb (zs++[⟨(newX s).k,ep,.slice d (ws.map (·.1)).length e,zf_ now ws⟩])::bigL (xA H) zs::row p12 47 [I s.node,I s.life,I (s.count+1)]::row p6 47 [I 0,I 0,I 0]::R) subA ?_;refine Sub.trans (QaE_ hlK) ?_;refine Sub.trans (Sub.cons (show Sub _ (zs_ HK ⟨(newX s).k,ep,.slice d (ws.map (·.1)).length e,zf_ now ws⟩ (.map (some wb))::_) from fun h ⟨h1,h2,a,r⟩=>⟨h1,h2,.inr ⟨rfl,wb,rfl,a⟩,r⟩)) ?_;exact subA
  refine zc_ 5 [row p12 47 [I s.node,I s.life,I (s.count+1)]] ?_;refine qa_ 0 ?_;refine qa_ 1 ?_;refine qa_ 2 ?_;refine qa_ 3 ?_;have hnk:fits (newX s).Node∧fits (newX s).Life∧fits (newX s).Count:=⟨hfn,hfl,by show fits (s.count+1);unfold fits;omega⟩;have hag:=ZcA_ (W0:=W0) (H:=H2) (H1:=H2) (p:=p) (mb:=mb) (s:=qd_ s now ws) (x:=newX s) (e:=ee) (.refl _) (by rw [hbn.1];exact hfn) hnk (by subst hee;exact fun q hq=>(hTI.hp q hq).2) (by subst hee;exact fun q hq=>(hTI.nn q hq).2) (by subst hee;show (ws.map (·.1)).length≤1000000;omega);rw [hbn.1] at hag;have hep:ee.p=ep:=by subst hee;rfl
  have hex:ee.x=zf_ now ws:=by subst hee;rfl
  rw [hep,hex] at hag;refine ze_ 4 rfl rfl rfl hag fun r5 H5 B hl5 eB=>?_;subst eB;refine ⟨subA,?_⟩;refine qb_ rfl ?_;refine walk ?_;refine finB [ownS Qa_ 19 216 106 H5 r5 (qi_ s.node (newX s) (zf_ now ws)),qj_ H5 p (qd_ s now ws)] ?_ (hs:=?_)
  ·exact ⟨ws,hws,.inr ⟨hne,r5,rfl,rfl⟩⟩
  ·refine Sub.trans (B:=xA H5 ee::bigL (xA H) zs::ownS Qa_ 19 216 106 H5 r5 (qi_ s.node (newX s) (zf_ now ws))::cRow p mb (qd_ s now ws)::cMap mb (zs++[ee])::R) subA ?_;refine Sub.trans (Sub.cons (QdR_ (hlK.trans (hl2.trans hl5)))) ?_;refine Sub.trans (show Sub _ (xA H5 ee::bigL (xA H5) (zs++[])::_) by rw [List.append_nil];exact Sub.refl _) ?_;refine bigL_in.trans ?_;refine Sub.trans ?_ (Sub.cons (qz_ (H:=H5) (mb:=mb) (s:=qd_ s now ws) hts2));exact subA
theorem zcB_ {H:Heap} {e:CE} {L:List za_} (ho:e.x.op=true) (hw:e.x.works=[]):Sub L (zs_ H e (.map none)::L):=
 fun h hb=>⟨Heap.empty,h,.inl ⟨ho,hw,rfl,rfl⟩,hb,fun _=> .inl rfl,fun _ _ h=>(by simp [Heap.empty] at h),.refl _⟩
def openRL (l:List RTx):List Rec:=(l.filter fun t=>t.Open).map fun t=>recC t.X t.Parts
theorem QbZ_ {l:List RTx} {t:RTx}:openRL (l++[t])=if t.Open=true then openRL l++[recC t.X t.Parts] else openRL l:=by
 unfold openRL;rw [List.filter_append,List.map_append];by_cases h:t.Open=true<;>simp [h]
theorem qcB_ {l:List RTx}:(openRL l).length≤l.length:=by unfold openRL;rw [List.length_map];exact List.length_filter_le _ _
theorem ZbZ_ {W0:World} {H:Heap} {c:List Value} {m:Coord} (h0:qu_ H c m) (hn:m.Txns.length≤100000):
  Ct Tryz.prog 60 #[.agg c.toArray] W0 H [] (fun r H' B=>B=[ownS rRec 9 120 53 H' r (openRL m.Txns)]∧H'=H):=by
 refine Ct.go (vs:=[.agg c.toArray]) fun R=>?_;obtain ⟨s1,rfl,f1,f2,f3,hs1⟩:=h0;obtain ⟨b1,c1,rfl,hc1,hd1⟩:=hs1.1.shape;obtain ⟨nd,lf,ct,l⟩:=m;have hcap:(100001:Nat)*120≤zb_:=by decide
 dsimp only at hs1 hc1 hn;dsimp only;refine walk ?_;refine qc_ rfl rfl fun p1 _=>?_;refine walk ?_;refine Qc_ (σ:=Nat×Option Addr×Nat) (fun u=>u.1≤l.length) (fun u=>[(1,.pointer (some ⟨p1,0,none⟩)),(3,.slice u.2.1 (openRL (l.take u.1)).length u.2.2),(4,I u.1)]) (fun _=>H) (fun u=>ownS rRec 9 120 53 H (.slice u.2.1 (openRL (l.take u.1)).length u.2.2) (openRL (l.take u.1))::row p1 132 [I nd,I lf,I ct,.slice b1 l.length c1]::R) (fun u=>l.length - u.1) (0,none,0) (Nat.zero_le _) (hs0:=?_) fun ⟨j,dd,e⟩ hj0 K hL=>?_
 rotate_left
 ·show Sub _ (ownS rRec 9 120 53 H (.slice none 0 0) []::_);exact v32_
 simp only at hj0;dsimp only;refine walk ?_;refine Qe_ rfl (fun hk=>?_) (fun hk=>?_)
 ·have hk1:j<l.length:=by omega
  have ht:=List.take_succ_eq_append_getElem hk1;have hsn:=QbZ_ (l:=l.take j) (t:=l[j]);rw [←ht] at hsn;have hol:=qcB_ (l:=l.take j);rw [List.length_take] at hol;refine walk ?_;refine qe_ rfl rfl hs1.1 hk1 fun b o cc hr hc=>?_;obtain ⟨y,hle⟩:∃y,l[j]=y:=⟨_,rfl⟩;rw [hle] at hc hsn;obtain ⟨⟨x1,x2,x3⟩,op,bg,ps,wk,hd⟩:=y;obtain ⟨u1,u2,u3,rfl,g1,g2,g3,g4,g5,g6,g7⟩:=hc;dsimp only at g1 g2 g3 g4 g5 hsn;change HRow H b o [I x1,I x2,I x3,.bool op,I bg,u1,u2,u3] at hr;refine walk ?_;refine QI_ rfl Iff.rfl (fun hq=>?_) (fun hq=>?_)
  ·rw [if_pos hq] at hsn;refine walk ?_;refine zc_ 16 [row p1 132 [I nd,I lf,I ct,.slice b1 l.length c1]] ?_;refine qa_ 0 ?_;refine qa_ 1 ?_;refine qa_ 2 ?_;refine qa_ 3 ?_;refine Qf_ 4 rfl rfl rfl hs1.1 hk1 fun b' o' cc' hr' hc'=>?_;rw [hle] at hc';obtain ⟨v1,v2,v3,rfl,_⟩:=hc';change HRow H b' o' [I x1,I x2,I x3,.bool op,I bg,v1,v2,v3] at hr';refine qa_ 5 ?_;refine Zl_ 6 rfl rfl rfl (HRow.take (k:=3) hr') rfl ?_;refine qa_ 7 ?_;refine qa_ 8 ?_;refine qa_ 9 ?_;refine Qf_ 10 rfl rfl rfl hs1.1 hk1 fun b2 o2 cc2 hr2 hc2=>?_;rw [hle] at hc2;obtain ⟨w1,w2,w3,rfl,_,_,_,_,hw1,_⟩:=hc2;obtain ⟨bw,cw,rfl,_,_⟩:=hw1.1.shape;change HRow H b2 o2 [I x1,I x2,I x3,.bool op,I bg,.slice bw ps.length cw,w2,w3] at hr2;refine qa_ 11 ?_;refine zl_ 12 5 rfl rfl hr2 rfl rfl ?_;refine qa_ 13 ?_;refine Qu_ (y:=recC ⟨x1,x2,x3⟩ ps) 14 15 rfl rfl rfl (zan_ ⟨g1,g2,g3⟩ hw1) (by simp only [zb_] at hcap⊢;omega) fun d3 e3=>⟨subA,?_⟩;rw [←hsn,show (openRL (l.take j)).length+1=(openRL (l.take (j+1))).length by rw [hsn,List.length_append];rfl];refine qb_ rfl ?_;exact v62_
  ·rw [if_neg (by simpa using hq)] at hsn;rw [←hsn];exact v85_
 ·clear hL;obtain rfl:j=l.length:=by omega
  rw [List.take_length];refine walk ?_;refine finB [ownS rRec 9 120 53 H (.slice dd (openRL l).length e) (openRL l)] ?_;exact ⟨rfl,rfl⟩
section
variable {P:Program} {n:Nat} {W0:World} {F:zd_} {H:Heap} {L:List za_} {K:Value→Heap→List za_→Prop} {ty:TypeId} {pos:String} {aft:Array Edge} {dst:Option Tmp} {g:Option (Nat×Bool)} {x y:Operand} {t e:TypeId} {sz wd:Nat} {z:Value} {kl kc:IntKind}
theorem Zea_ {α:Type} (R:Sx.Rd α) (z0:α) (m:Nat) [hT:TSl P t e] [hI:TIn P e sz wd z] [hR:RdOk R sz] (hv:opvs F [x,y]=some [.int kl m,.int kc m]) (hz:R H z.cells.toList z0) (hb:m*wd≤zb_) (hm:m≤zb_)
  (h:∀b,K (.slice (some ⟨b,0,none⟩) m m) H (ownS R sz wd e H (.slice (some ⟨b,0,none⟩) m m) (List.replicate m z0)::L)):OpW P n W0 ⟨dst,.makeSlice t x y,ty,pos,aft,g⟩ F H L K:=by
 have hsz:z.cells.size=sz:=by
  have:=hR.len hz;simpa using this
 refine .sub (qdT_ (hT:=hT) (hI:=hI) (m:=m) (cs:=(List.replicate m z.cells.toList).flatten) (qf_ hv).1 (qf_ hv).2 (by rw [←hsz];exact zdo_) hb hm fun b _=>⟨_,?_,h b⟩);have hlen:(List.replicate m z.cells.toList).flatten.length=m*sz:=by simp [List.length_flatten,hsz]
 have hs:=QE_ (T:=e) (sz:=sz) (m:=m) (b:=b) (cap:=m) (xs:=(List.replicate m z.cells.toList).flatten) (sp:=[]) (R:=L) hlen (Nat.le_refl _) (by simp only [zb_] at hm;omega) (by simpa using hlen);rw [List.append_nil] at hs;refine hs.trans ?_;have hm2:=QK_ (sz:=sz) (T:=e) (w:=wd) (s:= .slice (some ⟨b,0,none⟩) m m) (L:=L) (RL.rep hz m) (by simpa using hb);rw [List.length_replicate] at hm2;exact hm2
end
def OkA (node life:Int) (q:Rec):Prop:=(q.Txn.Node=node∧q.Txn.Life<life)∧0<q.Parts.length
instance {node life:Int} {q:Rec}:Decidable (OkA node life q):=by unfold OkA;infer_instance
end Go.Proofs.YtlflbkpmfhhikaaGreatDoor
