/- Lists compared by the reference, where they are the same. -/
import Derived.Test.YtlflbkpmfhhikaaGreatDoorKLZ
set_option maxHeartbeats 16000000
set_option maxRecDepth 100000
set_option linter.unusedVariables false
set_option linter.unusedSimpArgs false
namespace Go.Proofs.YtlflbkpmfhhikaaGreatDoor
open Go Go.Sx Go.Proofs
def WayR (m:Table) (w:Work):Prop:=∀j (hj:j<w.ks.length),Qag_ m.Prep w.ks[j]=none∧(w.Take.length≤j∨QF_ m.Held w.ks[j]=none)
inductive RPrep (m:Table) (x:Txn) (w:Work):Table→Int→Prop
  | twice (h:∃q∈m.Prep,q.Txn=x):RPrep m x w m 2
  | range (h0:∀q∈m.Prep,q.Txn≠x) (h:¬w.ks.Nodup):RPrep m x w m 1
  | way (h0:∀q∈m.Prep,q.Txn≠x) (h1:w.ks.Nodup) (h2:¬WayR m w):RPrep m x w m 140
  | ok (h0:∀q∈m.Prep,q.Txn≠x) (h1:w.ks.Nodup) (h2:WayR m w) (i:Nat) (hi:i≤m.Prep.length) (h3:∀q∈m.Prep.take i,ltK q.Txn.k x.k) (h4:∀hl:i<m.Prep.length,¬ltK m.Prep[i].Txn.k x.k):RPrep m x w ⟨m.Held,m.Prep.take i++recW x w::m.Prep.drop i⟩ 0
theorem Zco_ {α:Type} {o:Option α}:Value.bool o.isSome=Value.bool (decide (o≠none)):=by cases o<;>simp
theorem v18_ {P:Prop} (h:P:=by
 refine walk ?_;have fk2:fits (2:Int):=by unfold fits;omega
 refine zj_ (y:=recW ⟨x1,x2,x3⟩ w) rfl rfl rfl ⟨_,_,nilS,rfl,fk2,hx.1,hx.2.1,hx.2.2,hrob,ht1.mono hl1K,ht2.mono hl1K,SlB.nil⟩ (by simp only [zb_];omega) fun d3 e3=>?_;have hll3:(m.Prep.take i).length+1=(m.Prep.take i++[recW ⟨x1,x2,x3⟩ w]).length:=by simp
 rw [hll3];refine walk ?_;refine Zh_ rfl rfl (zH_ (l:=(i:Int)) (h:=(m.Prep.length:Int)) rfl rfl rfl (by omega) (by omega) (by omega)) ?_;have hsd:=hs2K.1.slc (l:=i) (h:=m.Prep.length) hi0 (Nat.le_refl _);rw [List.take_of_length_le (by rw [List.length_drop];omega)] at hsd;rw [Int.toNat_natCast,Int.toNat_natCast];have hld:(m.Prep.drop i).length=m.Prep.length - i:=List.length_drop;refine Qq_ rfl rfl hsd (by rw [List.length_append,List.length_cons,List.length_nil];simp only [zb_];omega) fun d4 e4=>?_;rw [←List.length_append,List.append_assoc,List.singleton_append];refine walk ?_;refine qg_ (.slice d4 (m.Prep.take i++recW ⟨x1,x2,x3⟩ w::m.Prep.drop i).length e4) fun H9 hl9 hsl=>?_;refine fin0 ?_;exact ⟨_,⟨m.Held,m.Prep.take i++recW ⟨x1,x2,x3⟩ w::m.Prep.drop i⟩,0,rfl,⟨_,_,rfl,hs1K.mono hl9,hsl⟩,.ok hno hnd hwayR i hi0 hlt h4,rfl⟩):P:=h
theorem v86_ {P:Prop} (h:P:=by
 refine Zi_ 10 rfl rfl rfl rfl (by simp) rfl ⟨subA,?_⟩;refine qb_ rfl ?_;refine walk ?_;exact qL_ hK2 H5 hl5):P:=h
theorem zbt_ {W0:World} {H:Heap} {c cw:List Value} {m:Table} {x:Txn} {w:Work} (h0:QJ_ H c m) (hx:fits x.Node∧fits x.Life∧fits x.Count) (hw:Qi_ H cw w) (hwn:w.ks.length≤80) (hn:∀q∈m.Prep,q.Work.ks.length≤80) (hpl:m.Prep.length≤1000):
  Ct Tryz.prog 126 #[.agg c.toArray,.agg x.cv.toArray,.agg cw.toArray] W0 H [] (fun r H' B=>∃cs m' e,r= .tuple #[.agg cs.toArray,I e]∧QJ_ H' cs m'∧RPrep m x w m' e∧B=[]):=by
 refine Ct.go (vs:=[.agg c.toArray,.agg x.cv.toArray,.agg cw.toArray]) fun R=>?_;have h00:=h0;have hw0:=hw;obtain ⟨s1,s2,rfl,hs1,hs2⟩:=h0;obtain ⟨b1,c1,rfl,hc1,hd1⟩:=hs1.1.shape;obtain ⟨b2,c2,rfl,hc2,hd2⟩:=hs2.1.shape;obtain ⟨t1,t2,rfl,hrob,ht1,ht2⟩:=hw;obtain ⟨b3,c3,rfl,hc3,hd3⟩:=ht1.1.shape;obtain ⟨b4,c4,rfl,hc4,hd4⟩:=ht2.1.shape;obtain ⟨x1,x2,x3⟩:=x;dsimp only at hx;have hwn16:w.ks.length*16≤zb_:=by simp only [zb_];omega
 have hn16:∀q∈m.Prep,q.Work.ks.length*16≤zb_:=fun q hq=>by have:=hn q hq;simp only [zb_];omega
 have hcap:(2000:Nat)*120≤zb_:=by decide
 refine walk ?_;refine qc_ rfl rfl fun p3 _=>?_;refine qc_ rfl rfl fun p4 _=>?_;refine qc_ rfl rfl fun p5 _=>?_;refine Qb_ rfl fun p6 _=>?_;refine walk ?_;refine Za_ rfl rfl (zaO_ (x:=⟨x1,x2,x3⟩) h00) fun r1 H1 B hl1 ⟨hat,eB,eH⟩=>?_;subst eB eH;rcases hat with ⟨rfl,hno⟩ | ⟨j0,hj0,rfl,hj⟩
 rotate_left
 ·have hge:(0:Int)≤(j0:Int):=by omega
  refine walk ?_;refine fin0 ?_;exact ⟨_,m,2,rfl,h00,.twice ⟨_,List.getElem_mem hj0,hj⟩,rfl⟩
 refine walk ?_;refine Za_ rfl rfl (Zct_ hw0 hwn16) fun r2 H2 B hl2 ⟨q,er,hq,eB⟩=>?_;subst er eB;refine walk ?_
 cases q with
 | true=>
  refine walk ?_;refine fin0 ?_;exact ⟨_,m,1,rfl,RdOk.mono (R:=QJ_) hl2 h00,.range hno (fun hnd=>by have:=hq.2 hnd;cases this),rfl⟩
 | false=>
  have hnd:=hq.1 rfl;refine walk ?_;refine Za_ rfl rfl (zaw_ (RdOk.mono (R:=Qi_) hl2 hw0) hwn16) fun r3 H3 B hl3 ⟨eB,eH⟩=>?_;subst eB eH;refine Zd_ r3 fun H4 hl4 hsk=>?_;have hlen4:=hwn;generalize hks:w.ks=l at hsk hlen4;obtain ⟨b0,c0,rfl,hc0,hd0⟩:=hsk.1.shape;have hl14:H1.le H4:=hl2.trans hl4;refine walk ?_
  refine Qc_ (σ:=Nat×Heap) (fun u=>u.1≤l.length∧H4.le u.2∧∀j (hj:j<l.length),j<u.1→Qag_ m.Prep l[j]=none∧(w.Take.length≤j∨QF_ m.Held l[j]=none)) (fun u=>[(3,.pointer (some ⟨p3,0,none⟩)),(4,.pointer (some ⟨p4,0,none⟩)),(5,.pointer (some ⟨p5,0,none⟩)),(6,.pointer (some ⟨p6,0,none⟩)),(8,.slice b0 l.length c0),(9,I u.1)]) (fun u=>u.2)
   (fun u=>row p3 126 [.slice b1 m.Held.length c1,.slice b2 m.Prep.length c2]::row p4 47 [I x1,I x2,I x3]::row p5 50 [I w.Robot,.slice b3 w.Take.length c3,.slice b4 w.Drop.length c4]::row p6 126 [nilS,nilS]::R) (fun u=>l.length - u.1) (0,H4) ⟨Nat.zero_le _,.refl _,fun j _ h=>by omega⟩ fun ⟨j,HK⟩ ⟨hj0,hlK,hway⟩ K hL=>?_
  simp only at hj0 hlK hway;dsimp only;have hl1K:H1.le HK:=hl14.trans hlK;have hK0:=RdOk.mono (R:=QJ_) hl1K h00;refine walk ?_;refine Qe_ rfl (fun hj=>?_) (fun hj=>?_)
  ·have hj1:j<l.length:=by omega
   refine walk ?_;refine zc_ 10 [row p3 126 [.slice b1 m.Held.length c1,.slice b2 m.Prep.length c2]] ?_;refine qa_ 0 ?_;refine qa_ 1 ?_;refine qa_ 2 ?_;refine Qf_ 3 rfl rfl rfl (hsk.mono hlK).1 hj1 fun b o cc hr hc=>?_;obtain ⟨rfl,hsz⟩:=hc;refine zl_ 4 0 rfl rfl hr rfl rfl ?_;refine zq_ 5 rfl rfl rfl (ZaI_ hK0) ?_;unfold Zaj_;refine qa_ 6 ?_;refine Qd_ 7 rfl rfl rfl rfl ?_;refine Qd_ 8 rfl rfl rfl rfl ?_;refine qa_ 9 ?_;refine qb_ rfl ?_;refine walk ?_
   refine qaU_ (σ:=Heap) (fun u=>HK.le u) (fun u=>[(11,.bool (QF_ m.Held l[j]).isSome),(13,.bool (Qag_ m.Prep l[j]).isSome),(3,.pointer (some ⟨p3,0,none⟩)),(4,.pointer (some ⟨p4,0,none⟩)),(5,.pointer (some ⟨p5,0,none⟩)),(6,.pointer (some ⟨p6,0,none⟩)),(8,.slice b0 l.length c0),(9,I j)]) (fun u=>u)
    (fun u=>row p3 126 [.slice b1 m.Held.length c1,.slice b2 m.Prep.length c2]::row p4 47 [I x1,I x2,I x3]::row p5 50 [I w.Robot,.slice b3 w.Take.length c3,.slice b4 w.Drop.length c4]::row p6 126 [nilS,nilS]::R) (fun K2 hK2=>?_) fun HJ hlJ=>?_
   ·refine zc_ 11 [row p3 126 [.slice b1 m.Held.length c1,.slice b2 m.Prep.length c2]] ?_;refine qa_ 0 ?_;refine qa_ 1 ?_;refine qa_ 2 ?_;refine Qf_ 3 rfl rfl rfl (hsk.mono hlK).1 hj1 fun b o cc hr hc=>?_;obtain ⟨rfl,hsz⟩:=hc;refine zl_ 4 0 rfl rfl hr rfl rfl ?_;refine QaJ_ 5 9 rfl rfl rfl (zaK_ hK0 hn16) (fun r5 H5 B hl5 ⟨er,eB⟩=>?_) (fun p9 _=>?_)
    ·subst er eB;refine ⟨subA,?_⟩;unfold QaA_;obtain ⟨ya,yb,yc,hy⟩:∃ya yb yc,((Qag_ m.Prep l[j]).map (·.Txn)).getD zTxn=⟨ya,yb,yc⟩:=⟨_,_,_,rfl⟩;rw [hy];refine qa_ 6 ?_;refine Qd_ 7 rfl rfl rfl rfl ?_;refine Qd_ 8 rfl rfl rfl rfl ?_;refine Zn_ 9 rfl rfl fun p9 _=>?_;exact v86_
    ·refine zo_ 5 rfl rfl (zaK_ hK0 hn16) fun r5 H5 B hl5 ⟨er,eB⟩=>?_;subst er eB;refine ⟨subA,?_⟩;unfold QaA_;obtain ⟨ya,yb,yc,hy⟩:∃ya yb yc,((Qag_ m.Prep l[j]).map (·.Txn)).getD zTxn=⟨ya,yb,yc⟩:=⟨_,_,_,rfl⟩;rw [hy];refine qa_ 6 ?_;refine Qd_ 7 rfl rfl rfl rfl ?_;refine Qd_ 8 rfl rfl rfl rfl ?_;exact v86_
   rw [Zco_,Zco_];have hlt:(j:Int)<(w.Take.length:Int)↔¬w.Take.length≤j:=by omega
   refine ZI_ ?_;refine Qe_ rfl (fun hq=>?_) (fun hq=>?_)
   ·refine walk ?_;refine fin0 ?_;refine ⟨_,m,140,rfl,RdOk.mono (R:=QJ_) (hl1K.trans hlJ) h00,.way hno hnd fun hw=>?_,rfl⟩;subst hks;obtain ⟨w1,w2⟩:=hw j hj1;rcases hq with hq | ⟨hq1,hq2⟩
    ·exact hq w1
    ·rcases w2 with w2 | w2
     ·omega
     ·exact hq2 w2
   ·refine walk ?_;refine Zb_ hL (j+1,HJ) ⟨by simp only;omega,hlK.trans hlJ,fun i hi hij=>?_⟩;simp only at hij;rcases Nat.lt_or_ge i j with h | h
    ·exact hway i hi h
    ·obtain rfl:i=j:=by omega
     refine ⟨Classical.byContradiction fun h=>hq (.inl h),?_⟩;by_cases h2:w.Take.length≤i
     ·exact .inl h2
     ·exact .inr (Classical.byContradiction fun h=>hq (.inr ⟨by omega,h⟩))
  clear hL;obtain rfl:j=l.length:=by omega
  have hwayR:WayR m w:=fun i hi=>by subst hks;exact hway i hi hi
  clear hway hsk;have hs1K:=hs1.mono hl1K;have hs2K:=hs2.mono hl1K;have hwK:=RdOk.mono (R:=Qi_) hl1K hw0;refine walk ?_
  refine Qc_ (σ:=Nat×Option Addr×Nat) (fun u=>u.1≤m.Prep.length∧∀q∈m.Prep.take u.1,ltK q.Txn.k (x1,x2,x3)) (fun u=>[(3,.pointer (some ⟨p3,0,none⟩)),(4,.pointer (some ⟨p4,0,none⟩)),(5,.pointer (some ⟨p5,0,none⟩)),(6,.pointer (some ⟨p6,0,none⟩)),(14,.slice u.2.1 (m.Prep.take u.1).length u.2.2),(15,I u.1)]) (fun _=>HK)
   (fun u=>ownS rRec 9 120 53 HK (.slice u.2.1 (m.Prep.take u.1).length u.2.2) (m.Prep.take u.1)::row p3 126 [.slice b1 m.Held.length c1,.slice b2 m.Prep.length c2]::row p4 47 [I x1,I x2,I x3]::row p5 50 [I w.Robot,.slice b3 w.Take.length c3,.slice b4 w.Drop.length c4]::row p6 126 [nilS,nilS]::R) (fun u=>m.Prep.length - u.1) (0,none,0) ⟨Nat.zero_le _,by simp⟩ (hs0:=?_) fun ⟨i,d,e⟩ ⟨hi0,hlt⟩ K hL=>?_
  rotate_left
  ·exact v127_
  simp only at hi0 hlt;dsimp only;have hll:(m.Prep.take i).length=i:=by rw [List.length_take];omega
  by_cases hi:i<m.Prep.length
  ·have hii:(i:Int)<(m.Prep.length:Int):=by omega
   have ht:=List.take_succ_eq_append_getElem hi;refine walk ?_;refine zc_ 15 [row p3 126 [.slice b1 m.Held.length c1,.slice b2 m.Prep.length c2],row p4 47 [I x1,I x2,I x3]] ?_;refine qa_ 0 ?_;refine qa_ 1 ?_;refine qa_ 2 ?_;refine qa_ 3 ?_;refine qa_ 4 ?_;refine qa_ 5 ?_;refine qa_ 6 ?_;refine qa_ 7 ?_;refine qa_ 8 ?_;refine Qf_ 9 rfl rfl rfl hs2K.1 hi fun b o cc hr hc=>?_;obtain ⟨u1,u2,u3,rfl,g1,g2,g3,g4,g5,g6,g7,g8⟩:=hc;have hrt:=qaG_ hr;obtain ⟨ya,yb,yc,hy⟩:∃ya yb yc,m.Prep[i].Txn=⟨ya,yb,yc⟩:=⟨_,_,_,rfl⟩;rw [hy] at hrt;refine qa_ 10 ?_;refine Zl_ 11 rfl rfl rfl hrt rfl ?_;refine qa_ 12 ?_;refine zq_ 13 rfl rfl rfl (zaS_ (x:=(ya,yb,yc)) (y:=(x1,x2,x3))) ?_;refine qa_ 14 ?_;refine qb_ rfl ?_;refine walk ?_;refine Qe_ rfl (fun hq=>?_) (fun hq=>?_)
   ·refine walk ?_;refine qe_ rfl rfl hs2K.1 hi fun b8 o8 cc8 hr8 hc8=>?_;obtain ⟨z1,z2,z3,rfl,k1,k2,k3,k4,k5,k6,k7,k8⟩:=hc8;obtain ⟨zb1,zc1,rfl,_,_⟩:=k6.1.shape;obtain ⟨zb2,zc2,rfl,_,_⟩:=k7.1.shape;obtain ⟨zb3,zc3,rfl,_,_⟩:=k8.1.shape;refine zg_ rfl rfl hr8 rfl ?_;refine walk ?_;refine zj_ (y:=m.Prep[i]) rfl rfl rfl ⟨_,_,_,rfl,k1,k2,k3,k4,k5,k6,k7,k8⟩ (by simp only [zb_];omega) fun d3 e3=>?_;have hll2:(m.Prep.take i).length+1=(m.Prep.take (i+1)).length:=by rw [List.length_take,List.length_take];omega
    rw [hll2,←ht];refine walk ?_;refine Zb_ hL (i+1,d3,e3) ⟨by simp only;omega,fun q hm=>?_⟩;simp only at hm;rw [ht,List.mem_append,List.mem_singleton] at hm;rcases hm with hm | rfl
    ·exact hlt q hm
    ·rw [hy];exact hq
   ·have h4:∀hl:i<m.Prep.length,¬ltK m.Prep[i].Txn.k (x1,x2,x3):=fun _=>by rw [hy];exact hq
    exact v18_
  ·have hii:¬(i:Int)<(m.Prep.length:Int):=by omega
   have h4:∀hl:i<m.Prep.length,¬ltK m.Prep[i].Txn.k (x1,x2,x3):=fun h=>absurd h hi;refine walk ?_;refine zc_ 15 [row p3 126 [.slice b1 m.Held.length c1,.slice b2 m.Prep.length c2],row p4 47 [I x1,I x2,I x3]] ?_;refine qa_ 0 ?_;refine qa_ 1 ?_;refine qa_ 2 ?_;refine qa_ 3 ?_;refine qa_ 4 ?_;refine qa_ 5 ?_;refine qa_ 6 ?_;refine qa_ 7 ?_;refine qa_ 8 ?_;refine qa_ 9 ?_;refine qa_ 10 ?_;refine qa_ 11 ?_;refine qa_ 12 ?_;refine qa_ 13 ?_;refine qa_ 14 ?_;refine qb_ rfl ?_;exact v18_
theorem v67_ {P:Prop} (h:P:=by
 refine walk ?_;refine Zb_ hL (k+1) ⟨by omega,?_⟩;simp at hq;rw [List.take_succ_eq_append_getElem (by omega),List.take_succ_eq_append_getElem (by omega),ht,hq]):P:=h
theorem Zda_ {W0:World} {H:Heap} {v0 v1:Value} {xs ys:List Int} (h0:SlR rInt 1 H v0 xs) (h1:SlR rInt 1 H v1 ys):
  Ct Tryz.prog 62 #[v0,v1] W0 H [] (fun r H' B=>r= .bool (decide (xs=ys))∧B=[]∧H'=H):=by
 refine Ct.go fun R=>?_;obtain ⟨b0,c0,rfl,hc0,hd0⟩:=h0.shape;obtain ⟨b1,c1,rfl,hc1,hd1⟩:=h1.shape;refine walk ?_;refine Qe_ rfl (fun h=>?_) (fun h=>?_)
 ·refine walk ?_;refine fin0 ?_;exact ⟨by simp;rintro rfl;exact h rfl,rfl,rfl⟩
 refine walk ?_;refine Qc_ (fun k=>k≤xs.length∧xs.take k=ys.take k) (fun k=>[(0,.slice b0 xs.length c0),(1,.slice b1 ys.length c1),(12,I xs.length),(13,I k)]) (fun _=>H) (fun _=>R) (fun k=>xs.length - k) 0 ⟨Nat.zero_le _,rfl⟩ fun k ⟨hk0,ht⟩ K hL=>?_;refine walk ?_;refine Qe_ rfl (fun hk=>?_) (fun hk=>?_)
 ·refine walk ?_;refine Qe_ rfl (fun hq=>?_) (fun hq=>?_)
  ·refine walk ?_;refine fin0 ?_;exact ⟨by simp;rintro rfl;exact hq rfl,rfl,rfl⟩
  ·exact v67_
 ·refine walk ?_;refine fin0 ?_;obtain rfl:k=xs.length:=by omega
  exact ⟨by rw [List.take_length] at ht;simp;rw [ht];exact List.take_of_length_le (by omega),rfl,rfl⟩
theorem qbi_ {W0:World} {H:Heap} {v0 v1:Value} {xs ys:List ByteArray} (h0:SlR rStr 1 H v0 xs) (h1:SlR rStr 1 H v1 ys):
  Ct Tryz.prog 98 #[v0,v1] W0 H [] (fun r H' B=>r= .bool (decide (xs=ys))∧B=[]∧H'=H):=by
 refine Ct.go fun R=>?_;obtain ⟨b0,c0,rfl,hc0,hd0⟩:=h0.shape;obtain ⟨b1,c1,rfl,hc1,hd1⟩:=h1.shape;refine walk ?_;refine Qe_ rfl (fun h=>?_) (fun h=>?_)
 ·refine walk ?_;refine fin0 ?_;exact ⟨by rw [decide_eq_false (p:=xs=ys) (by rintro rfl;exact h rfl)],rfl,rfl⟩
 refine walk ?_;refine Qc_ (fun k=>k≤xs.length∧xs.take k=ys.take k) (fun k=>[(0,.slice b0 xs.length c0),(1,.slice b1 ys.length c1),(12,I xs.length),(13,I k)]) (fun _=>H) (fun _=>R) (fun k=>xs.length - k) 0 ⟨Nat.zero_le _,rfl⟩ fun k ⟨hk0,ht⟩ K hL=>?_;refine walk ?_;refine Qe_ rfl (fun hk=>?_) (fun hk=>?_)
 ·refine walk ?_;refine Qe_ rfl (fun hq=>?_) (fun hq=>?_)
  ·refine walk ?_;refine fin0 ?_;exact ⟨by rw [decide_eq_false (p:=xs=ys) (by rintro rfl;exact hq rfl)],rfl,rfl⟩
  ·exact v67_
 ·refine walk ?_;refine fin0 ?_;obtain rfl:k=xs.length:=by omega
  exact ⟨by rw [List.take_length] at ht;rw [decide_eq_true (p:=xs=ys) (by rw [ht];exact List.take_of_length_le (by omega))],rfl,rfl⟩
theorem qbt_ {W0:World} {H:Heap} {c d:List Value} {x y:Work} (h0:Qi_ H c x) (h1:Qi_ H d y):
  Ct Tryz.prog 61 #[.agg c.toArray,.agg d.toArray] W0 H [] (fun r H' B=>r= .bool (decide (x=y))∧B=[]∧H'=H):=by
 refine Ct.go fun R=>?_;obtain ⟨xr,xt,xd⟩:=x;obtain ⟨yr,yt,yd⟩:=y;obtain ⟨s1,s2,rfl,f1,h0,h0'⟩:=h0;obtain ⟨t1,t2,rfl,f2,h1,h1'⟩:=h1;dsimp only at*;refine walk ?_;refine qc_ rfl rfl fun p0 _=>?_;refine qc_ rfl rfl fun p1 _=>?_;by_cases e1:xr=yr
 ·refine walk ?_;refine Za_ rfl rfl (qbi_ h0.1 h1.1) fun r H' B hl ⟨e,eB,eH⟩=>?_;subst e eB eH;refine walk ?_;refine Qdp_ (fun e2=>?_) (fun e2=>?_)
  ·refine walk ?_;refine Za_ rfl rfl (qbi_ h0'.1 h1'.1) fun r H' B hl ⟨e,eB,eH⟩=>?_;subst e eB eH;refine walk ?_;refine fin0 ?_;exact ⟨by simp [e1,e2],rfl,rfl⟩
  ·refine walk ?_;refine fin0 ?_;exact ⟨by simp [e2],rfl,rfl⟩
 ·refine walk ?_;refine fin0 ?_;exact ⟨by simp [e1],rfl,rfl⟩
theorem qea_ (a c:ByteArray) (b d:Int) (w:World):(Op.equalIn 10000 42 (.agg #[.string a,.int .i64 b]) (.agg #[.string c,.int .i64 d])).run Tryz.prog w= .ok (decide (a=c∧b=d)) w:=by
 have u3:=Tryz.underlying3;have a3:=Tryz.isAgg3;have z3:=Tryz.sizeOf3;have u9:=Tryz.underlying9;have a9:=Tryz.isAgg9;have z9:=Tryz.sizeOf9;have hS:Tryz.prog.underlying 42=some (.struct (Tryz.prog.fieldsOf 42)):=by kernel_rfl
 have hp:Tryz.prog.stoodInHeld 42=false:=by kernel_rfl
 rw [show (10000:Nat)=9999+1 from rfl,run_equalIn_agg w 9999 42 _ _ hS hp];simp only [Program.fieldsOf,Tryz.underlying42];go_simp;have hb:(a.toList=c.toList)=(a=c):=propext ⟨fun h=>QaM_ (by simpa [zJ_] using h),fun h=>by rw [h]⟩;by_cases h1:a=c<;>by_cases h2:b=d<;>simp [h1,h2,hb]
theorem qdb_:Tryz.prog.eqGuardType Tryz.prog.depth 42=false:=by kernel_rfl
instance {x y:Operand} {T':TypeId} {a c:ByteArray} {b d:Int}:BOp Tryz.prog (.binOp .neq 42 x y T') [.agg #[.string a,.int .i64 b],.agg #[.string c,.int .i64 d]] (¬(a=c∧b=d)) inferInstance:=⟨fun h=>OpP.cast (OpP.mk fun _ w hF _=>by
    simp only [execOp,hF.opv (qf_ h).1,hF.opv (qf_ h).2]
    simp only [Sem.run_bind,run_eqGuard_agg _ _ _ _ _ _ _ qdb_,run_neq_struct,qea_,Result.andThen_ok]
    rfl) (by simp)⟩
theorem Qbe_ {W0:World} {H:Heap} {v0 v1:Value} {l:List Hold} (h0:SlR qao_ 2 H v0 l) (h1:SlR qao_ 2 H v1 l):
  Ct Tryz.prog 59 #[v0,v1] W0 H [] (fun r H' B=>r= .bool true∧B=[]∧H'=H):=by
 refine Ct.go (vs:=[v0,v1]) fun R=>?_;obtain ⟨b0,c0,rfl,hc0,hd0⟩:=h0.shape;obtain ⟨b1,c1,rfl,hc1,hd1⟩:=h1.shape;refine walk ?_;refine Qc_ (σ:=Nat) (fun k=>k≤l.length) (fun k=>[(0,.slice b0 l.length c0),(1,.slice b1 l.length c1),(12,I l.length),(13,I k)]) (fun _=>H) (fun _=>R) (fun k=>l.length - k) 0 (Nat.zero_le _) fun k hk0 K hL=>?_;refine walk ?_;refine Qe_ rfl (fun hk=>?_) (fun hk=>?_)
 ·have hk1:k<l.length:=by omega
  refine walk ?_;refine qe_ rfl rfl h0 hk1 fun b o cc hr hc=>?_;obtain ⟨rfl,hsz,hfr⟩:=hc;change HRow H b o [.string l[k].Key,I l[k].Robot] at hr;refine zg_ rfl rfl hr rfl ?_;refine walk ?_;refine qe_ rfl rfl h1 hk1 fun b' o' cc' hr' hc'=>?_;obtain ⟨rfl,hsz',hfr'⟩:=hc';change HRow H b' o' [.string l[k].Key,I l[k].Robot] at hr';refine zg_ rfl rfl hr' rfl ?_;refine walk ?_;rw [decide_eq_false (p:=¬(l[k].Key=l[k].Key∧l[k].Robot=l[k].Robot)) (fun h=>h ⟨rfl,rfl⟩)];refine walk ?_;exact v60_
 ·exact v63_
theorem Qab_ {W0:World} {H:Heap} {v0 v1:Value} {l:List Rec} (h0:SlR rRec 9 H v0 l) (h1:SlR rRec 9 H v1 l):
  Ct Tryz.prog 25 #[v0,v1] W0 H [] (fun r H' B=>r= .bool true∧B=[]∧H'=H):=by
 refine Ct.go (vs:=[v0,v1]) fun R=>?_;obtain ⟨b0,c0,rfl,hc0,hd0⟩:=h0.shape;obtain ⟨b1,c1,rfl,hc1,hd1⟩:=h1.shape;refine walk ?_;refine Qc_ (σ:=Nat) (fun k=>k≤l.length) (fun k=>[(0,.slice b0 l.length c0),(1,.slice b1 l.length c1),(12,I l.length),(13,I k)]) (fun _=>H) (fun _=>R) (fun k=>l.length - k) 0 (Nat.zero_le _) fun k hk0 K hL=>?_;refine walk ?_;refine Qe_ rfl (fun hk=>?_) (fun hk=>?_)
 ·have hk1:k<l.length:=by omega
  obtain ⟨q,hq⟩:∃q,l[k]=q:=⟨_,rfl⟩;refine walk ?_;refine zc_ 65 [] ?_;refine qa_ 0 ?_;refine qa_ 1 ?_;refine Qf_ 2 rfl rfl rfl h0 hk1 fun ba oa ca ra ea=>?_;obtain ⟨ua,va,wa',rfl,fa⟩:=ea;rw [hq] at ra fa;refine qa_ 3 ?_;refine zl_ 4 0 rfl rfl ra rfl rfl ?_;refine qa_ 5 ?_;refine qa_ 6 ?_;refine Qf_ 7 rfl rfl rfl h1 hk1 fun bb ob cb rb eb=>?_;obtain ⟨ub,vb,wb',rfl,fb⟩:=eb;rw [hq] at rb fb;refine qa_ 8 ?_;refine zl_ 9 0 rfl rfl rb rfl rfl ?_;refine qa_ 10 ?_;refine qa_ 11 ?_;refine qa_ 12 ?_;refine qa_ 13 ?_;refine Qf_ 14 rfl rfl rfl h0 hk1 fun ba2 oa2 ca2 ra2 ea2=>?_;obtain ⟨ua2,va2,wa2,rfl,fa2⟩:=ea2;rw [hq] at ra2 fa2;refine qa_ 15 ?_;refine Zl_ 16 rfl rfl rfl (qaG_ ra2) rfl ?_;refine qa_ 17 ?_;refine qa_ 18 ?_;refine Qf_ 19 rfl rfl rfl h1 hk1 fun bb2 ob2 cb2 rb2 eb2=>?_;obtain ⟨ub2,vb2,wb2,rfl,fb2⟩:=eb2;rw [hq] at rb2 fb2;refine qa_ 20 ?_;refine Zl_ 21 rfl rfl rfl (qaG_ rb2) rfl ?_;refine qa_ 22 ?_;refine qa_ 23 ?_;refine qa_ 24 ?_;refine qa_ 25 ?_;refine qa_ 26 ?_;refine Qf_ 27 rfl rfl rfl h0 hk1 fun ba3 oa3 ca3 ra3 ea3=>?_;obtain ⟨ua3,va3,wa3,rfl,fa3⟩:=ea3;rw [hq] at ra3 fa3;refine qa_ 28 ?_;refine zl_ 29 7 rfl rfl ra3 rfl rfl ?_;refine qa_ 30 ?_;refine qa_ 31 ?_;refine Qf_ 32 rfl rfl rfl h1 hk1 fun bb3 ob3 cb3 rb3 eb3=>?_;obtain ⟨ub3,vb3,wb3,rfl,fb3⟩:=eb3;rw [hq] at rb3 fb3;refine qa_ 33 ?_;refine zl_ 34 7 rfl rfl rb3 rfl rfl ?_;have hyy:¬¬q.Yes=q.Yes:=fun h=>h rfl;refine qa_ 35 ?_;refine qa_ 36 ?_;refine qa_ 37 ?_;refine qa_ 38 ?_;refine qa_ 39 ?_;refine Qf_ 40 rfl rfl rfl h0 hk1 fun ba4 oa4 ca4 ra4 ea4=>?_;obtain ⟨ua4,va4,wa4,rfl,_,_,_,_,fa4,fa5,fa6,_⟩:=ea4;rw [hq] at ra4 fa4 fa5 fa6;refine qa_ 41 ?_;refine Zl_ 42 rfl rfl rfl (zaA_ ra4) rfl ?_;refine qa_ 43 ?_;refine qa_ 44 ?_;refine Qf_ 45 rfl rfl rfl h1 hk1 fun bb4 ob4 cb4 rb4 eb4=>?_;obtain ⟨ub4,vb4,wb4,rfl,_,_,_,_,fb4,fb5,fb6,_⟩:=eb4;rw [hq] at rb4 fb4 fb5 fb6;refine qa_ 46 ?_;refine Zl_ 47 rfl rfl rfl (zaA_ rb4) rfl ?_;refine zq_ 48 rfl rfl rfl (qbt_ (x:=q.Work) (y:=q.Work) (c:=[I q.Work.Robot,ua4,va4]) (d:=[I q.Work.Robot,ub4,vb4]) ⟨_,_,rfl,fa4,fa5,fa6⟩ ⟨_,_,rfl,fb4,fb5,fb6⟩) ?_;rw [decide_eq_true (p:=q.Work=q.Work) rfl];refine qa_ 49 ?_;refine qa_ 50 ?_;refine qa_ 51 ?_;refine qa_ 52 ?_;refine qa_ 53 ?_;refine Qf_ 54 rfl rfl rfl h0 hk1 fun ba5 oa5 ca5 ra5 ea5=>?_;obtain ⟨ua5,va5,wa5,rfl,_,_,_,_,_,_,_,ga5⟩:=ea5;rw [hq] at ra5 ga5;refine qa_ 55 ?_;refine zl_ 56 8 rfl rfl ra5 rfl rfl ?_;refine qa_ 57 ?_;refine qa_ 58 ?_;refine Qf_ 59 rfl rfl rfl h1 hk1 fun bb5 ob5 cb5 rb5 eb5=>?_;obtain ⟨ub5,vb5,wb5,rfl,_,_,_,_,_,_,_,gb5⟩:=eb5;rw [hq] at rb5 gb5;refine qa_ 60 ?_;refine zl_ 61 8 rfl rfl rb5 rfl rfl ?_;refine zq_ 62 rfl rfl rfl (Zda_ ga5.1 gb5.1) ?_;rw [decide_eq_true (p:=q.Parts=q.Parts) rfl];refine qa_ 63 ?_;refine qa_ 64 ?_;refine qb_ rfl ?_;refine walk ?_;exact v60_
 ·exact v63_
end Go.Proofs.YtlflbkpmfhhikaaGreatDoor
