/- The reference's Apply, Expire. -/
import Derived.Test.YtlflbkpmfhhikaaGreatDoorJLZ
set_option maxHeartbeats 16000000
set_option maxRecDepth 100000
set_option linter.unusedVariables false
set_option linter.unusedSimpArgs false
namespace Go.Proofs.YtlflbkpmfhhikaaGreatDoor
open Go Go.Sx Go.Proofs
def WayR (m:Table) (w:Work):Prop:=∀j (hj:j<w.ks.length),Qak_ m.Prep w.ks[j]=none∧(w.Take.length≤j∨QI_ m.Held w.ks[j]=none)
inductive RPrep (m:Table) (x:Txn) (w:Work):Table→Int→Prop
  | twice (h:∃q∈m.Prep,q.Txn=x):RPrep m x w m 2
  | range (h0:∀q∈m.Prep,q.Txn≠x) (h:¬w.ks.Nodup):RPrep m x w m 1
  | way (h0:∀q∈m.Prep,q.Txn≠x) (h1:w.ks.Nodup) (h2:¬WayR m w):RPrep m x w m 140
  | ok (h0:∀q∈m.Prep,q.Txn≠x) (h1:w.ks.Nodup) (h2:WayR m w) (i:Nat) (hi:i≤m.Prep.length) (h3:∀q∈m.Prep.take i,ltK q.Txn.k x.k) (h4:∀hl:i<m.Prep.length,¬ltK m.Prep[i].Txn.k x.k):RPrep m x w ⟨m.Held,m.Prep.take i++recW x w::m.Prep.drop i⟩ 0
theorem QcE_ {α:Type} {o:Option α}:Value.bool o.isSome=Value.bool (decide (o≠none)):=by cases o<;>simp
theorem v100_ {P:Prop} (h:P:=by
 refine zk_ 10 rfl rfl rfl rfl (by simp) rfl ⟨subA,?_⟩;refine qb_ rfl ?_;refine walk ?_;exact qY_ hK2 H5 hl5):P:=h
theorem v23_ {P:Prop} (h:P:=by
 refine walk ?_;have fk2:fits (2:Int):=by unfold fits;omega
 refine Zj_ (y:=recW ⟨x1,x2,x3⟩ w) rfl rfl rfl ⟨_,_,nilS,rfl,fk2,hx.1,hx.2.1,hx.2.2,hrob,ht1.mono hl1K,ht2.mono hl1K,SlB.nil⟩ (by simp only [Qb_];omega) fun d3 e3=>?_;have hll3:(m.Prep.take i).length+1=(m.Prep.take i++[recW ⟨x1,x2,x3⟩ w]).length:=by simp
 rw [hll3];refine walk ?_;refine qi_ rfl rfl (ZI_ (l:=(i:Int)) (h:=(m.Prep.length:Int)) rfl rfl rfl (by omega) (by omega) (by omega)) ?_;have hsd:=hs2K.1.slc (l:=i) (h:=m.Prep.length) hi0 (Nat.le_refl _);rw [List.take_of_length_le (by rw [List.length_drop];omega)] at hsd;rw [Int.toNat_natCast,Int.toNat_natCast];have hld:(m.Prep.drop i).length=m.Prep.length - i:=List.length_drop;refine zo_ rfl rfl hsd (by rw [List.length_append,List.length_cons,List.length_nil];simp only [Qb_];omega) fun d4 e4=>?_;rw [←List.length_append,List.append_assoc,List.singleton_append];refine walk ?_;refine qg_ (.slice d4 (m.Prep.take i++recW ⟨x1,x2,x3⟩ w::m.Prep.drop i).length e4) fun H9 hl9 hsl=>?_;refine fin0 ?_;exact ⟨_,⟨m.Held,m.Prep.take i++recW ⟨x1,x2,x3⟩ w::m.Prep.drop i⟩,0,rfl,⟨_,_,rfl,hs1K.mono hl9,hsl⟩,.ok hno hnd hwayR i hi0 hlt h4,rfl⟩):P:=h
theorem zbE_ {W0:World} {H:Heap} {c cw:List Value} {m:Table} {x:Txn} {w:Work} (h0:QK_ H c m) (hx:fits x.Node∧fits x.Life∧fits x.Count) (hw:zj_ H cw w) (hwn:w.ks.length≤80) (hn:∀q∈m.Prep,q.Work.ks.length≤80) (hpl:m.Prep.length≤1000):
  Ct Tryz.prog 126 #[.agg c.toArray,.agg x.cv.toArray,.agg cw.toArray] W0 H [] (fun r H' B=>∃cs m' e,r= .tuple #[.agg cs.toArray,I e]∧QK_ H' cs m'∧RPrep m x w m' e∧B=[]):=by
 refine Ct.go (vs:=[.agg c.toArray,.agg x.cv.toArray,.agg cw.toArray]) fun R=>?_;have h00:=h0;have hw0:=hw;obtain ⟨s1,s2,rfl,hs1,hs2⟩:=h0;obtain ⟨b1,c1,rfl,hc1,hd1⟩:=hs1.1.shape;obtain ⟨b2,c2,rfl,hc2,hd2⟩:=hs2.1.shape;obtain ⟨t1,t2,rfl,hrob,ht1,ht2⟩:=hw;obtain ⟨b3,c3,rfl,hc3,hd3⟩:=ht1.1.shape;obtain ⟨b4,c4,rfl,hc4,hd4⟩:=ht2.1.shape;obtain ⟨x1,x2,x3⟩:=x;dsimp only at hx;have hwn16:w.ks.length*16≤Qb_:=by simp only [Qb_];omega
 have hn16:∀q∈m.Prep,q.Work.ks.length*16≤Qb_:=fun q hq=>by have:=hn q hq;simp only [Qb_];omega
 have hcap:(2000:Nat)*120≤Qb_:=by decide
 refine walk ?_;refine qc_ rfl rfl fun p3 _=>?_;refine qc_ rfl rfl fun p4 _=>?_;refine qc_ rfl rfl fun p5 _=>?_;refine zb_ rfl fun p6 _=>?_;refine walk ?_;refine Za_ rfl rfl (QaU_ (x:=⟨x1,x2,x3⟩) h00) fun r1 H1 B hl1 ⟨hat,eB,eH⟩=>?_;subst eB eH;rcases hat with ⟨rfl,hno⟩ | ⟨j0,hj0,rfl,hj⟩
 rotate_left
 ·have hge:(0:Int)≤(j0:Int):=by omega
  refine walk ?_;refine fin0 ?_;exact ⟨_,m,2,rfl,h00,.twice ⟨_,List.getElem_mem hj0,hj⟩,rfl⟩
 refine walk ?_;refine Za_ rfl rfl (ZcL_ hw0 hwn16) fun r2 H2 B hl2 ⟨q,er,hq,eB⟩=>?_;subst er eB;refine walk ?_
 cases q with
 | true=>
  refine walk ?_;refine fin0 ?_;exact ⟨_,m,1,rfl,RdOk.mono (R:=QK_) hl2 h00,.range hno (fun hnd=>by have:=hq.2 hnd;cases this),rfl⟩
 | false=>
  have hnd:=hq.1 rfl;refine walk ?_;refine Za_ rfl rfl (qaE_ (RdOk.mono (R:=zj_) hl2 hw0) hwn16) fun r3 H3 B hl3 ⟨eB,eH⟩=>?_;subst eB eH;refine Zc_ r3 fun H4 hl4 hsk=>?_;have hlen4:=hwn;generalize hks:w.ks=l at hsk hlen4;obtain ⟨b0,c0,rfl,hc0,hd0⟩:=hsk.1.shape;have hl14:H1.le H4:=hl2.trans hl4;refine walk ?_
  refine Qc_ (σ:=Nat×Heap) (fun u=>u.1≤l.length∧H4.le u.2∧∀j (hj:j<l.length),j<u.1→Qak_ m.Prep l[j]=none∧(w.Take.length≤j∨QI_ m.Held l[j]=none)) (fun u=>[(3,.pointer (some ⟨p3,0,none⟩)),(4,.pointer (some ⟨p4,0,none⟩)),(5,.pointer (some ⟨p5,0,none⟩)),(6,.pointer (some ⟨p6,0,none⟩)),(8,.slice b0 l.length c0),(9,I u.1)]) (fun u=>u.2)
   (fun u=>row p3 126 [.slice b1 m.Held.length c1,.slice b2 m.Prep.length c2]::row p4 47 [I x1,I x2,I x3]::row p5 50 [I w.Robot,.slice b3 w.Take.length c3,.slice b4 w.Drop.length c4]::row p6 126 [nilS,nilS]::R) (fun u=>l.length - u.1) (0,H4) ⟨Nat.zero_le _,.refl _,fun j _ h=>by omega⟩ fun ⟨j,HK⟩ ⟨hj0,hlK,hway⟩ K hL=>?_
  simp only at hj0 hlK hway;dsimp only;have hl1K:H1.le HK:=hl14.trans hlK;have hK0:=RdOk.mono (R:=QK_) hl1K h00;refine walk ?_;refine ze_ rfl (fun hj=>?_) (fun hj=>?_)
  ·have hj1:j<l.length:=by omega
   refine walk ?_;refine zc_ 10 [row p3 126 [.slice b1 m.Held.length c1,.slice b2 m.Prep.length c2]] ?_;refine qa_ 0 ?_;refine qa_ 1 ?_;refine qa_ 2 ?_;refine zg_ 3 rfl rfl rfl (hsk.mono hlK).1 hj1 fun b o cc hr hc=>?_;obtain ⟨rfl,hsz⟩:=hc;refine qn_ 4 0 rfl rfl hr rfl rfl ?_;refine qo_ 5 rfl rfl rfl (QaO_ hK0) ?_;unfold Qap_;refine qa_ 6 ?_;refine zd_ 7 rfl rfl rfl rfl ?_;refine zd_ 8 rfl rfl rfl rfl ?_;refine qa_ 9 ?_;refine qb_ rfl ?_;refine walk ?_
   refine Zbe_ (σ:=Heap) (fun u=>HK.le u) (fun u=>[(11,.bool (QI_ m.Held l[j]).isSome),(13,.bool (Qak_ m.Prep l[j]).isSome),(3,.pointer (some ⟨p3,0,none⟩)),(4,.pointer (some ⟨p4,0,none⟩)),(5,.pointer (some ⟨p5,0,none⟩)),(6,.pointer (some ⟨p6,0,none⟩)),(8,.slice b0 l.length c0),(9,I j)]) (fun u=>u)
    (fun u=>row p3 126 [.slice b1 m.Held.length c1,.slice b2 m.Prep.length c2]::row p4 47 [I x1,I x2,I x3]::row p5 50 [I w.Robot,.slice b3 w.Take.length c3,.slice b4 w.Drop.length c4]::row p6 126 [nilS,nilS]::R) (fun K2 hK2=>?_) fun HJ hlJ=>?_
   ·refine zc_ 11 [row p3 126 [.slice b1 m.Held.length c1,.slice b2 m.Prep.length c2]] ?_;refine qa_ 0 ?_;refine qa_ 1 ?_;refine qa_ 2 ?_;refine zg_ 3 rfl rfl rfl (hsk.mono hlK).1 hj1 fun b o cc hr hc=>?_;obtain ⟨rfl,hsz⟩:=hc;refine qn_ 4 0 rfl rfl hr rfl rfl ?_;refine zaP_ 5 9 rfl rfl rfl (QaP_ hK0 hn16) (fun r5 H5 B hl5 ⟨er,eB⟩=>?_) (fun p9 _=>?_)
    ·subst er eB;refine ⟨subA,?_⟩;unfold qaG_;obtain ⟨ya,yb,yc,hy⟩:∃ya yb yc,((Qak_ m.Prep l[j]).map (·.Txn)).getD zTxn=⟨ya,yb,yc⟩:=⟨_,_,_,rfl⟩;rw [hy];refine qa_ 6 ?_;refine zd_ 7 rfl rfl rfl rfl ?_;refine zd_ 8 rfl rfl rfl rfl ?_;refine Zs_ 9 rfl rfl fun p9 _=>?_;exact v100_
    ·refine zs_ 5 rfl rfl (QaP_ hK0 hn16) fun r5 H5 B hl5 ⟨er,eB⟩=>?_;subst er eB;refine ⟨subA,?_⟩;unfold qaG_;obtain ⟨ya,yb,yc,hy⟩:∃ya yb yc,((Qak_ m.Prep l[j]).map (·.Txn)).getD zTxn=⟨ya,yb,yc⟩:=⟨_,_,_,rfl⟩;rw [hy];refine qa_ 6 ?_;refine zd_ 7 rfl rfl rfl rfl ?_;refine zd_ 8 rfl rfl rfl rfl ?_;exact v100_
   rw [QcE_,QcE_];have hlt:(j:Int)<(w.Take.length:Int)↔¬w.Take.length≤j:=by omega
   refine QB_ ?_;refine ze_ rfl (fun hq=>?_) (fun hq=>?_)
   ·refine walk ?_;refine fin0 ?_;refine ⟨_,m,140,rfl,RdOk.mono (R:=QK_) (hl1K.trans hlJ) h00,.way hno hnd fun hw=>?_,rfl⟩;subst hks;obtain ⟨w1,w2⟩:=hw j hj1;rcases hq with hq | ⟨hq1,hq2⟩
    ·exact hq w1
    ·rcases w2 with w2 | w2
     ·omega
     ·exact hq2 w2
   ·refine walk ?_;refine Zb_ hL (j+1,HJ) ⟨by simp only;omega,hlK.trans hlJ,fun i hi hij=>?_⟩;simp only at hij;rcases Nat.lt_or_ge i j with h | h
    ·exact hway i hi h
    ·obtain rfl:i=j:=by omega
     refine ⟨Classical.byContradiction fun h=>hq (.inl h),?_⟩;by_cases h2:w.Take.length≤i
     ·exact .inl h2
     ·exact .inr (Classical.byContradiction fun h=>hq (.inr ⟨by omega,h⟩))
  clear hL;obtain rfl:j=l.length:=by omega
  have hwayR:WayR m w:=fun i hi=>by subst hks;exact hway i hi hi
  clear hway hsk;have hs1K:=hs1.mono hl1K;have hs2K:=hs2.mono hl1K;have hwK:=RdOk.mono (R:=zj_) hl1K hw0;refine walk ?_
  refine Qc_ (σ:=Nat×Option Addr×Nat) (fun u=>u.1≤m.Prep.length∧∀q∈m.Prep.take u.1,ltK q.Txn.k (x1,x2,x3)) (fun u=>[(3,.pointer (some ⟨p3,0,none⟩)),(4,.pointer (some ⟨p4,0,none⟩)),(5,.pointer (some ⟨p5,0,none⟩)),(6,.pointer (some ⟨p6,0,none⟩)),(14,.slice u.2.1 (m.Prep.take u.1).length u.2.2),(15,I u.1)]) (fun _=>HK)
   (fun u=>ownS rRec 9 120 53 HK (.slice u.2.1 (m.Prep.take u.1).length u.2.2) (m.Prep.take u.1)::row p3 126 [.slice b1 m.Held.length c1,.slice b2 m.Prep.length c2]::row p4 47 [I x1,I x2,I x3]::row p5 50 [I w.Robot,.slice b3 w.Take.length c3,.slice b4 w.Drop.length c4]::row p6 126 [nilS,nilS]::R) (fun u=>m.Prep.length - u.1) (0,none,0) ⟨Nat.zero_le _,by simp⟩ (hs0:=?_) fun ⟨i,d,e⟩ ⟨hi0,hlt⟩ K hL=>?_
  rotate_left
  ·exact v158_
  simp only at hi0 hlt;dsimp only;have hll:(m.Prep.take i).length=i:=by rw [List.length_take];omega
  by_cases hi:i<m.Prep.length
  ·have hii:(i:Int)<(m.Prep.length:Int):=by omega
   have ht:=List.take_succ_eq_append_getElem hi;refine walk ?_;refine zc_ 15 [row p3 126 [.slice b1 m.Held.length c1,.slice b2 m.Prep.length c2],row p4 47 [I x1,I x2,I x3]] ?_;refine qa_ 0 ?_;refine qa_ 1 ?_;refine qa_ 2 ?_;refine qa_ 3 ?_;refine qa_ 4 ?_;refine qa_ 5 ?_;refine qa_ 6 ?_;refine qa_ 7 ?_;refine qa_ 8 ?_;refine zg_ 9 rfl rfl rfl hs2K.1 hi fun b o cc hr hc=>?_;obtain ⟨u1,u2,u3,rfl,g1,g2,g3,g4,g5,g6,g7,g8⟩:=hc;have hrt:=ZaK_ hr;obtain ⟨ya,yb,yc,hy⟩:∃ya yb yc,m.Prep[i].Txn=⟨ya,yb,yc⟩:=⟨_,_,_,rfl⟩;rw [hy] at hrt;refine qa_ 10 ?_;refine Ql_ 11 rfl rfl rfl hrt rfl ?_;refine qa_ 12 ?_;refine qo_ 13 rfl rfl rfl (zbc_ (x:=(ya,yb,yc)) (y:=(x1,x2,x3))) ?_;refine qa_ 14 ?_;refine qb_ rfl ?_;refine walk ?_;refine ze_ rfl (fun hq=>?_) (fun hq=>?_)
   ·refine walk ?_;refine Zd_ rfl rfl hs2K.1 hi fun b8 o8 cc8 hr8 hc8=>?_;obtain ⟨z1,z2,z3,rfl,k1,k2,k3,k4,k5,k6,k7,k8⟩:=hc8;obtain ⟨zb1,zc1,rfl,_,_⟩:=k6.1.shape;obtain ⟨zb2,zc2,rfl,_,_⟩:=k7.1.shape;obtain ⟨zb3,zc3,rfl,_,_⟩:=k8.1.shape;refine zf_ rfl rfl hr8 rfl ?_;refine walk ?_;refine Zj_ (y:=m.Prep[i]) rfl rfl rfl ⟨_,_,_,rfl,k1,k2,k3,k4,k5,k6,k7,k8⟩ (by simp only [Qb_];omega) fun d3 e3=>?_;have hll2:(m.Prep.take i).length+1=(m.Prep.take (i+1)).length:=by rw [List.length_take,List.length_take];omega
    rw [hll2,←ht];refine walk ?_;refine Zb_ hL (i+1,d3,e3) ⟨by simp only;omega,fun q hm=>?_⟩;simp only at hm;rw [ht,List.mem_append,List.mem_singleton] at hm;rcases hm with hm | rfl
    ·exact hlt q hm
    ·rw [hy];exact hq
   ·have h4:∀hl:i<m.Prep.length,¬ltK m.Prep[i].Txn.k (x1,x2,x3):=fun _=>by rw [hy];exact hq
    exact v23_
  ·have hii:¬(i:Int)<(m.Prep.length:Int):=by omega
   have h4:∀hl:i<m.Prep.length,¬ltK m.Prep[i].Txn.k (x1,x2,x3):=fun h=>absurd h hi;refine walk ?_;refine zc_ 15 [row p3 126 [.slice b1 m.Held.length c1,.slice b2 m.Prep.length c2],row p4 47 [I x1,I x2,I x3]] ?_;refine qa_ 0 ?_;refine qa_ 1 ?_;refine qa_ 2 ?_;refine qa_ 3 ?_;refine qa_ 4 ?_;refine qa_ 5 ?_;refine qa_ 6 ?_;refine qa_ 7 ?_;refine qa_ 8 ?_;refine qa_ 9 ?_;refine qa_ 10 ?_;refine qa_ 11 ?_;refine qa_ 12 ?_;refine qa_ 13 ?_;refine qa_ 14 ?_;refine qb_ rfl ?_;exact v23_
theorem v77_ {P:Prop} (h:P:=by
 refine walk ?_;refine Zb_ hL (k+1) ⟨by omega,?_⟩;simp at hq;rw [List.take_succ_eq_append_getElem (by omega),List.take_succ_eq_append_getElem (by omega),ht,hq]):P:=h
theorem qdx_ {W0:World} {H:Heap} {v0 v1:Value} {xs ys:List Int} (h0:SlR rInt 1 H v0 xs) (h1:SlR rInt 1 H v1 ys):
  Ct Tryz.prog 62 #[v0,v1] W0 H [] (fun r H' B=>r= .bool (decide (xs=ys))∧B=[]∧H'=H):=by
 refine Ct.go fun R=>?_;obtain ⟨b0,c0,rfl,hc0,hd0⟩:=h0.shape;obtain ⟨b1,c1,rfl,hc1,hd1⟩:=h1.shape;refine walk ?_;refine ze_ rfl (fun h=>?_) (fun h=>?_)
 ·refine walk ?_;refine fin0 ?_;exact ⟨by simp;rintro rfl;exact h rfl,rfl,rfl⟩
 refine walk ?_;refine Qc_ (fun k=>k≤xs.length∧xs.take k=ys.take k) (fun k=>[(0,.slice b0 xs.length c0),(1,.slice b1 ys.length c1),(12,I xs.length),(13,I k)]) (fun _=>H) (fun _=>R) (fun k=>xs.length - k) 0 ⟨Nat.zero_le _,rfl⟩ fun k ⟨hk0,ht⟩ K hL=>?_;refine walk ?_;refine ze_ rfl (fun hk=>?_) (fun hk=>?_)
 ·refine walk ?_;refine ze_ rfl (fun hq=>?_) (fun hq=>?_)
  ·refine walk ?_;refine fin0 ?_;exact ⟨by simp;rintro rfl;exact hq rfl,rfl,rfl⟩
  ·exact v77_
 ·refine walk ?_;refine fin0 ?_;obtain rfl:k=xs.length:=by omega
  exact ⟨by rw [List.take_length] at ht;simp;rw [ht];exact List.take_of_length_le (by omega),rfl,rfl⟩
theorem Qbv_ {W0:World} {H:Heap} {v0 v1:Value} {xs ys:List ByteArray} (h0:SlR rStr 1 H v0 xs) (h1:SlR rStr 1 H v1 ys):
  Ct Tryz.prog 98 #[v0,v1] W0 H [] (fun r H' B=>r= .bool (decide (xs=ys))∧B=[]∧H'=H):=by
 refine Ct.go fun R=>?_;obtain ⟨b0,c0,rfl,hc0,hd0⟩:=h0.shape;obtain ⟨b1,c1,rfl,hc1,hd1⟩:=h1.shape;refine walk ?_;refine ze_ rfl (fun h=>?_) (fun h=>?_)
 ·refine walk ?_;refine fin0 ?_;exact ⟨by rw [decide_eq_false (p:=xs=ys) (by rintro rfl;exact h rfl)],rfl,rfl⟩
 refine walk ?_;refine Qc_ (fun k=>k≤xs.length∧xs.take k=ys.take k) (fun k=>[(0,.slice b0 xs.length c0),(1,.slice b1 ys.length c1),(12,I xs.length),(13,I k)]) (fun _=>H) (fun _=>R) (fun k=>xs.length - k) 0 ⟨Nat.zero_le _,rfl⟩ fun k ⟨hk0,ht⟩ K hL=>?_;refine walk ?_;refine ze_ rfl (fun hk=>?_) (fun hk=>?_)
 ·refine walk ?_;refine ze_ rfl (fun hq=>?_) (fun hq=>?_)
  ·refine walk ?_;refine fin0 ?_;exact ⟨by rw [decide_eq_false (p:=xs=ys) (by rintro rfl;exact hq rfl)],rfl,rfl⟩
  ·exact v77_
 ·refine walk ?_;refine fin0 ?_;obtain rfl:k=xs.length:=by omega
  exact ⟨by rw [List.take_length] at ht;rw [decide_eq_true (p:=xs=ys) (by rw [ht];exact List.take_of_length_le (by omega))],rfl,rfl⟩
theorem zbH_ {W0:World} {H:Heap} {c d:List Value} {x y:Work} (h0:zj_ H c x) (h1:zj_ H d y):
  Ct Tryz.prog 61 #[.agg c.toArray,.agg d.toArray] W0 H [] (fun r H' B=>r= .bool (decide (x=y))∧B=[]∧H'=H):=by
 refine Ct.go fun R=>?_;obtain ⟨xr,xt,xd⟩:=x;obtain ⟨yr,yt,yd⟩:=y;obtain ⟨s1,s2,rfl,f1,h0,h0'⟩:=h0;obtain ⟨t1,t2,rfl,f2,h1,h1'⟩:=h1;dsimp only at*;refine walk ?_;refine qc_ rfl rfl fun p0 _=>?_;refine qc_ rfl rfl fun p1 _=>?_;by_cases e1:xr=yr
 ·refine walk ?_;refine Za_ rfl rfl (Qbv_ h0.1 h1.1) fun r H' B hl ⟨e,eB,eH⟩=>?_;subst e eB eH;refine walk ?_;refine QdB_ (fun e2=>?_) (fun e2=>?_)
  ·refine walk ?_;refine Za_ rfl rfl (Qbv_ h0'.1 h1'.1) fun r H' B hl ⟨e,eB,eH⟩=>?_;subst e eB eH;refine walk ?_;refine fin0 ?_;exact ⟨by simp [e1,e2],rfl,rfl⟩
  ·refine walk ?_;refine fin0 ?_;exact ⟨by simp [e2],rfl,rfl⟩
 ·refine walk ?_;refine fin0 ?_;exact ⟨by simp [e1],rfl,rfl⟩
theorem Qet_ (a c:ByteArray) (b d:Int) (w:World):(Op.equalIn 10000 42 (.agg #[.string a,.int .i64 b]) (.agg #[.string c,.int .i64 d])).run Tryz.prog w= .ok (decide (a=c∧b=d)) w:=by
 have u3:=Tryz.underlying3;have a3:=Tryz.isAgg3;have z3:=Tryz.sizeOf3;have u9:=Tryz.underlying9;have a9:=Tryz.isAgg9;have z9:=Tryz.sizeOf9;have hS:Tryz.prog.underlying 42=some (.struct (Tryz.prog.fieldsOf 42)):=by kernel_rfl
 have hp:Tryz.prog.stoodInHeld 42=false:=by kernel_rfl
 rw [show (10000:Nat)=9999+1 from rfl,run_equalIn_agg w 9999 42 _ _ hS hp];simp only [Program.fieldsOf,Tryz.underlying42];go_simp;have hb:(a.toList=c.toList)=(a=c):=propext ⟨fun h=>zaT_ (by simpa [qM_] using h),fun h=>by rw [h]⟩;by_cases h1:a=c<;>by_cases h2:b=d<;>simp [h1,h2,hb]
theorem zdx_:Tryz.prog.eqGuardType Tryz.prog.depth 42=false:=by kernel_rfl
instance {x y:Operand} {T':TypeId} {a c:ByteArray} {b d:Int}:BOp Tryz.prog (.binOp .neq 42 x y T') [.agg #[.string a,.int .i64 b],.agg #[.string c,.int .i64 d]] (¬(a=c∧b=d)) inferInstance:=⟨fun h=>OpP.cast (OpP.mk fun _ w hF _=>by
    simp only [execOp,hF.opv (Qf_ h).1,hF.opv (Qf_ h).2]
    simp only [Sem.run_bind,run_eqGuard_agg _ _ _ _ _ _ _ zdx_,run_neq_struct,Qet_,Result.andThen_ok]
    rfl) (by simp)⟩
theorem qbq_ {W0:World} {H:Heap} {v0 v1:Value} {l:List Hold} (h0:SlR Zae_ 2 H v0 l) (h1:SlR Zae_ 2 H v1 l):
  Ct Tryz.prog 59 #[v0,v1] W0 H [] (fun r H' B=>r= .bool true∧B=[]∧H'=H):=by
 refine Ct.go (vs:=[v0,v1]) fun R=>?_;obtain ⟨b0,c0,rfl,hc0,hd0⟩:=h0.shape;obtain ⟨b1,c1,rfl,hc1,hd1⟩:=h1.shape;refine walk ?_;refine Qc_ (σ:=Nat) (fun k=>k≤l.length) (fun k=>[(0,.slice b0 l.length c0),(1,.slice b1 l.length c1),(12,I l.length),(13,I k)]) (fun _=>H) (fun _=>R) (fun k=>l.length - k) 0 (Nat.zero_le _) fun k hk0 K hL=>?_;refine walk ?_;refine ze_ rfl (fun hk=>?_) (fun hk=>?_)
 ·have hk1:k<l.length:=by omega
  refine walk ?_;refine Zd_ rfl rfl h0 hk1 fun b o cc hr hc=>?_;obtain ⟨rfl,hsz,hfr⟩:=hc;change HRow H b o [.string l[k].Key,I l[k].Robot] at hr;refine zf_ rfl rfl hr rfl ?_;refine walk ?_;refine Zd_ rfl rfl h1 hk1 fun b' o' cc' hr' hc'=>?_;obtain ⟨rfl,hsz',hfr'⟩:=hc';change HRow H b' o' [.string l[k].Key,I l[k].Robot] at hr';refine zf_ rfl rfl hr' rfl ?_;refine walk ?_;rw [decide_eq_false (p:=¬(l[k].Key=l[k].Key∧l[k].Robot=l[k].Robot)) (fun h=>h ⟨rfl,rfl⟩)];refine walk ?_;exact v72_
 ·exact v148_
theorem qae_ {W0:World} {H:Heap} {v0 v1:Value} {l:List Rec} (h0:SlR rRec 9 H v0 l) (h1:SlR rRec 9 H v1 l):
  Ct Tryz.prog 25 #[v0,v1] W0 H [] (fun r H' B=>r= .bool true∧B=[]∧H'=H):=by
 refine Ct.go (vs:=[v0,v1]) fun R=>?_;obtain ⟨b0,c0,rfl,hc0,hd0⟩:=h0.shape;obtain ⟨b1,c1,rfl,hc1,hd1⟩:=h1.shape;refine walk ?_;refine Qc_ (σ:=Nat) (fun k=>k≤l.length) (fun k=>[(0,.slice b0 l.length c0),(1,.slice b1 l.length c1),(12,I l.length),(13,I k)]) (fun _=>H) (fun _=>R) (fun k=>l.length - k) 0 (Nat.zero_le _) fun k hk0 K hL=>?_;refine walk ?_;refine ze_ rfl (fun hk=>?_) (fun hk=>?_)
 ·have hk1:k<l.length:=by omega
  obtain ⟨q,hq⟩:∃q,l[k]=q:=⟨_,rfl⟩;refine walk ?_;refine zc_ 65 [] ?_;refine qa_ 0 ?_;refine qa_ 1 ?_;refine zg_ 2 rfl rfl rfl h0 hk1 fun ba oa ca ra ea=>?_;obtain ⟨ua,va,wa',rfl,fa⟩:=ea;rw [hq] at ra fa;refine qa_ 3 ?_;refine qn_ 4 0 rfl rfl ra rfl rfl ?_;refine qa_ 5 ?_;refine qa_ 6 ?_;refine zg_ 7 rfl rfl rfl h1 hk1 fun bb ob cb rb eb=>?_;obtain ⟨ub,vb,wb',rfl,fb⟩:=eb;rw [hq] at rb fb;refine qa_ 8 ?_;refine qn_ 9 0 rfl rfl rb rfl rfl ?_;refine qa_ 10 ?_;refine qa_ 11 ?_;refine qa_ 12 ?_;refine qa_ 13 ?_;refine zg_ 14 rfl rfl rfl h0 hk1 fun ba2 oa2 ca2 ra2 ea2=>?_;obtain ⟨ua2,va2,wa2,rfl,fa2⟩:=ea2;rw [hq] at ra2 fa2;refine qa_ 15 ?_;refine Ql_ 16 rfl rfl rfl (ZaK_ ra2) rfl ?_;refine qa_ 17 ?_;refine qa_ 18 ?_;refine zg_ 19 rfl rfl rfl h1 hk1 fun bb2 ob2 cb2 rb2 eb2=>?_;obtain ⟨ub2,vb2,wb2,rfl,fb2⟩:=eb2;rw [hq] at rb2 fb2;refine qa_ 20 ?_;refine Ql_ 21 rfl rfl rfl (ZaK_ rb2) rfl ?_;refine qa_ 22 ?_;refine qa_ 23 ?_;refine qa_ 24 ?_;refine qa_ 25 ?_;refine qa_ 26 ?_;refine zg_ 27 rfl rfl rfl h0 hk1 fun ba3 oa3 ca3 ra3 ea3=>?_;obtain ⟨ua3,va3,wa3,rfl,fa3⟩:=ea3;rw [hq] at ra3 fa3;refine qa_ 28 ?_;refine qn_ 29 7 rfl rfl ra3 rfl rfl ?_;refine qa_ 30 ?_;refine qa_ 31 ?_;refine zg_ 32 rfl rfl rfl h1 hk1 fun bb3 ob3 cb3 rb3 eb3=>?_;obtain ⟨ub3,vb3,wb3,rfl,fb3⟩:=eb3;rw [hq] at rb3 fb3;refine qa_ 33 ?_;refine qn_ 34 7 rfl rfl rb3 rfl rfl ?_;have hyy:¬¬q.Yes=q.Yes:=fun h=>h rfl;refine qa_ 35 ?_;refine qa_ 36 ?_;refine qa_ 37 ?_;refine qa_ 38 ?_;refine qa_ 39 ?_;refine zg_ 40 rfl rfl rfl h0 hk1 fun ba4 oa4 ca4 ra4 ea4=>?_;obtain ⟨ua4,va4,wa4,rfl,_,_,_,_,fa4,fa5,fa6,_⟩:=ea4;rw [hq] at ra4 fa4 fa5 fa6;refine qa_ 41 ?_;refine Ql_ 42 rfl rfl rfl (ZaF_ ra4) rfl ?_;refine qa_ 43 ?_;refine qa_ 44 ?_;refine zg_ 45 rfl rfl rfl h1 hk1 fun bb4 ob4 cb4 rb4 eb4=>?_;obtain ⟨ub4,vb4,wb4,rfl,_,_,_,_,fb4,fb5,fb6,_⟩:=eb4;rw [hq] at rb4 fb4 fb5 fb6;refine qa_ 46 ?_;refine Ql_ 47 rfl rfl rfl (ZaF_ rb4) rfl ?_;refine qo_ 48 rfl rfl rfl (zbH_ (x:=q.Work) (y:=q.Work) (c:=[I q.Work.Robot,ua4,va4]) (d:=[I q.Work.Robot,ub4,vb4]) ⟨_,_,rfl,fa4,fa5,fa6⟩ ⟨_,_,rfl,fb4,fb5,fb6⟩) ?_;rw [decide_eq_true (p:=q.Work=q.Work) rfl];refine qa_ 49 ?_;refine qa_ 50 ?_;refine qa_ 51 ?_;refine qa_ 52 ?_;refine qa_ 53 ?_;refine zg_ 54 rfl rfl rfl h0 hk1 fun ba5 oa5 ca5 ra5 ea5=>?_;obtain ⟨ua5,va5,wa5,rfl,_,_,_,_,_,_,_,ga5⟩:=ea5;rw [hq] at ra5 ga5;refine qa_ 55 ?_;refine qn_ 56 8 rfl rfl ra5 rfl rfl ?_;refine qa_ 57 ?_;refine qa_ 58 ?_;refine zg_ 59 rfl rfl rfl h1 hk1 fun bb5 ob5 cb5 rb5 eb5=>?_;obtain ⟨ub5,vb5,wb5,rfl,_,_,_,_,_,_,_,gb5⟩:=eb5;rw [hq] at rb5 gb5;refine qa_ 60 ?_;refine qn_ 61 8 rfl rfl rb5 rfl rfl ?_;refine qo_ 62 rfl rfl rfl (qdx_ ga5.1 gb5.1) ?_;rw [decide_eq_true (p:=q.Parts=q.Parts) rfl];refine qa_ 63 ?_;refine qa_ 64 ?_;refine qb_ rfl ?_;refine walk ?_;exact v72_
 ·exact v148_
inductive RApply (m:Table) (x:Txn) (yes:Bool):Table→Int→Prop
  | none (h:∀q∈m.Prep,q.Txn≠x):RApply m x yes m 4
  | ok (j:Nat) (hj:j<m.Prep.length) (hx:m.Prep[j].Txn=x):RApply m x yes ⟨if yes=true then zbn_ m.Prep[j].Work.Robot m.Prep[j].Work.Take (qbn_ m.Prep[j].Work.Robot m.Prep[j].Work.Drop m.Held) else m.Held,m.Prep.take j++m.Prep.drop (j+1)⟩ 0
theorem Qbf_ {k:ByteArray} {r:Int}:∀{l:List Hold} {put:Bool},(zI_ k r put l).length≤l.length+(if put=true then 0 else 1)
 | [],put=>by cases put<;>simp [zI_]
 | h::t,put=>by
  have ih:=Qbf_ (k:=k) (r:=r) (l:=t) (put:=put || decide (SLt k h.Key));simp only [zI_,List.length_append,List.length_cons];have h1:(if h.Key=k then ([]:List Hold) else [h]).length≤1:=by split<;>simp
  cases put with
  | true=>
   simp only [Bool.true_or,if_true,Bool.true_eq_false,false_and,if_false,List.length_nil] at ih⊢;omega
  | false=>
   by_cases hs:SLt k h.Key
   ·simp only [hs,decide_true,Bool.false_or,if_true,and_self,List.length_cons,List.length_nil] at ih⊢;simp only [Bool.false_eq_true,if_false];omega
   ·simp only [hs,decide_false,Bool.false_or,and_false,if_false,List.length_nil] at ih⊢;simp only [Bool.false_eq_true,if_false] at ih⊢;omega
def qbE_ (r:Int) (l:List Hold) (k:ByteArray):List Hold:=if (QI_ l k).isSome=true∧(match QI_ l k with | some h=>h.Robot | none=>0)=r then zI_ k 0 true l else l
def Zbf_ (l:List Hold) (k:ByteArray):Int:=((QI_ l k).map (·.Robot)).getD 0
theorem zcl_ {l:List Hold} {k:ByteArray}:Qap_ l k= .tuple #[I (Zbf_ l k),.bool (decide ((QI_ l k).isSome=true))]:=by
 unfold Qap_ Zbf_
 cases QI_ l k<;>rfl
theorem Qcl_ {r:Int} {l:List Hold} {k:ByteArray}:qbE_ r l k=if (QI_ l k).isSome=true∧Zbf_ l k=r then zI_ k 0 true l else l:=by
 unfold qbE_ Zbf_
 cases QI_ l k<;>rfl
theorem ZcO_ {r:Int} {k:ByteArray} {ks:List ByteArray} {l:List Hold}:qbn_ r (k::ks) l=qbn_ r ks (qbE_ r l k):=rfl
theorem qcP_ {r:Int} {k:ByteArray} {ks:List ByteArray} {l:List Hold}:zbn_ r (k::ks) l=zbn_ r ks (zI_ k r false l):=rfl
theorem qdo_ {α:Type} {R:Rd α} {sz:Nat} [RdOk R sz] {H:Heap} {b0:Option Addr} {c0 n j:Nat} {l:List α} (h:SlR R sz H (.slice b0 n c0) l) (hj:j≤l.length):SlR R sz H (.slice b0 j c0) (l.take j):=by
 have h:=h.slc (l:=0) (h:=j) (Nat.zero_le _) hj;have e0:Sx.slc b0 c0 0 j sz= .slice b0 j c0:=by unfold Sx.slc;cases b0<;>simp [Addr.add]
 rw [e0] at h;simpa using h
theorem Zcl_ {W0:World} {H:Heap} {c:List Value} {m:Table} {x:Txn} {yes:Bool} (h0:QK_ H c m) (hn:∀q∈m.Prep,q.Work.ks.length≤80) (hpl:m.Prep.length≤1000) (hhl:m.Held.length≤90000):
  Ct Tryz.prog 129 #[.agg c.toArray,.agg x.cv.toArray,.bool yes] W0 H [] (fun r H' B=>∃cs m' e,r= .tuple #[.agg cs.toArray,I e]∧QK_ H' cs m'∧RApply m x yes m' e∧B=[]):=by
 refine Ct.go (vs:=[.agg c.toArray,.agg x.cv.toArray,.bool yes]) fun R=>?_;have h00:=h0;obtain ⟨s1,s2,rfl,hs1,hs2⟩:=h0;obtain ⟨b1,c1,rfl,hc1,hd1⟩:=hs1.1.shape;obtain ⟨b2,c2,rfl,hc2,hd2⟩:=hs2.1.shape;obtain ⟨x1,x2,x3⟩:=x;have hcl:∀n,n≤2000→n*120≤Qb_:=fun n h=>Nat.le_trans (Nat.mul_le_mul_right 120 h) (by decide);refine walk ?_;refine qc_ rfl rfl fun p3 _=>?_;refine qc_ rfl rfl fun p4 _=>?_;refine zb_ rfl fun p6 _=>?_;refine walk ?_;refine Za_ rfl rfl (QaU_ (x:=⟨x1,x2,x3⟩) h00) fun r1 H1 B hl1 ⟨hat,eB,eH⟩=>?_;subst eB eH;rcases hat with ⟨rfl,hno⟩ | ⟨j0,hj0,rfl,hj⟩
 ·refine walk ?_;refine fin0 ?_;exact ⟨_,m,4,rfl,h00,.none hno,rfl⟩
 have hge:¬(j0:Int)<0:=by omega
 have hnq:=hn _ (List.getElem_mem hj0);refine walk ?_;refine Zd_ rfl rfl hs2.1 hj0 fun b o cc hr hc=>?_;obtain ⟨t1,t2,t3,rfl,g1,g2,g3,g4,g5,g6,g7,g8⟩:=hc;have hrw:=ZaF_ hr;have hap:∀m':Table,m'=⟨if yes=true then zbn_ m.Prep[j0].Work.Robot m.Prep[j0].Work.Take (qbn_ m.Prep[j0].Work.Robot m.Prep[j0].Work.Drop m.Held) else m.Held,m.Prep.take j0++m.Prep.drop (j0+1)⟩→RApply m ⟨x1,x2,x3⟩ yes m' 0:=fun m' e=>by subst e;exact .ok j0 hj0 hj
 generalize m.Prep[j0].Work=w at hrw g5 g6 g7 hnq hap;obtain ⟨wr,wt,wd⟩:=w;dsimp only at hrw g5 g6 g7 hnq hap;obtain ⟨sb1,sc1,rfl,hsc1,hsd1⟩:=g6.1.shape;obtain ⟨sb2,sc2,rfl,hsc2,hsd2⟩:=g7.1.shape;refine walk ?_;refine zf_ rfl rfl hrw rfl ?_;refine zb_ rfl fun p9 _=>?_;refine walk ?_;refine QW_ (w:=120) rRec rfl fun ba=>?_;refine walk ?_;have htk:=qdo_ (j:=j0) hs2.1 (by omega);have hlt:(m.Prep.take j0).length=j0:=by rw [List.length_take];omega
 refine zo_ rfl rfl (show SlR rRec 9 H1 (.slice b2 j0 c2) (m.Prep.take j0) from htk) (hcl _ (by rw [List.length_nil,hlt];omega)) fun d1 e1=>?_;rw [List.nil_append,List.length_nil,Nat.zero_add];have hi1:((j0:Int)+1)=((j0+1:Nat):Int):=by omega
 refine walk ?_;refine qi_ rfl rfl (ZI_ (l:=(j0:Int)+1) (h:=(m.Prep.length:Int)) rfl rfl rfl (by omega) (by omega) (by omega)) ?_;have hsd:=hs2.1.slc (l:=j0+1) (h:=m.Prep.length) (by omega) (Nat.le_refl _);rw [List.take_of_length_le (by rw [List.length_drop];omega)] at hsd;rw [hi1,Int.toNat_natCast,Int.toNat_natCast];have hld:(m.Prep.drop (j0+1)).length=m.Prep.length - (j0+1):=List.length_drop;refine zo_ rfl rfl hsd (hcl _ (by rw [hlt,hld];omega)) fun d2 e2=>?_;rw [←List.length_append];refine Zc_ (.slice d2 (m.Prep.take j0++m.Prep.drop (j0+1)).length e2) fun H2 hl2 hsp=>?_;generalize m.Prep.take j0++m.Prep.drop (j0+1)=pr at hsp hap⊢;refine walk ?_
 cases yes with
 | false=>
  have hap':=hap ⟨m.Held,pr⟩ (by simp)
  refine Qc_ (σ:=Unit) (fun _=>True) (fun _=>[(2,.bool false),(3,.pointer (some ⟨p3,0,none⟩)),(6,.pointer (some ⟨p6,0,none⟩)),(9,.pointer (some ⟨p9,0,none⟩)),(11,I 0)]) (fun _=>H2)
   (fun _=>row p3 126 [.slice b1 m.Held.length c1,.slice d2 pr.length e2]::row p9 50 [I wr,.slice sb1 wt.length sc1,.slice sb2 wd.length sc2]::row p6 126 [nilS,nilS]::R) (fun _=>0) () trivial fun _ _ K hL=>?_
  refine QB_ ?_;rw [decide_eq_false (p:=(0:Int)<(wd.length:Int)∧false=true) (fun h=>Bool.noConfusion h.2)];refine walk ?_
  refine Qc_ (σ:=Unit) (fun _=>True) (fun _=>[(2,.bool false),(3,.pointer (some ⟨p3,0,none⟩)),(6,.pointer (some ⟨p6,0,none⟩)),(9,.pointer (some ⟨p9,0,none⟩)),(14,I 0)]) (fun _=>H2)
   (fun _=>row p3 126 [.slice b1 m.Held.length c1,.slice d2 pr.length e2]::row p9 50 [I wr,.slice sb1 wt.length sc1,.slice sb2 wd.length sc2]::row p6 126 [nilS,nilS]::R) (fun _=>0) () trivial fun _ _ K2 hL2=>?_
  refine QB_ ?_;rw [decide_eq_false (p:=(0:Int)<(wt.length:Int)∧false=true) (fun h=>Bool.noConfusion h.2)];refine walk ?_;refine fin0 ?_;exact ⟨_,⟨m.Held,pr⟩,0,rfl,⟨_,_,rfl,hs1.mono hl2,hsp⟩,hap',rfl⟩
 | true=>
  have hap':=fun m' (e:m'=⟨zbn_ wr wt (qbn_ wr wd m.Held),pr⟩)=>hap m' (e.trans (by rw [if_pos rfl]))
  refine Qc_ (σ:=Nat×List Hold×(Option Addr×Nat)×(Option Addr×Nat)×Heap) (fun u=>u.1≤wd.length∧H2.le u.2.2.2.2∧qbn_ wr (wd.drop u.1) u.2.1=qbn_ wr wd m.Held∧u.2.1.length≤m.Held.length∧SlB Zae_ 2 24 u.2.2.2.2 (.slice u.2.2.1.1 u.2.1.length u.2.2.1.2) u.2.1∧SlB rRec 9 120 u.2.2.2.2 (.slice u.2.2.2.1.1 pr.length u.2.2.2.1.2) pr)
   (fun u=>[(2,.bool true),(3,.pointer (some ⟨p3,0,none⟩)),(6,.pointer (some ⟨p6,0,none⟩)),(9,.pointer (some ⟨p9,0,none⟩)),(11,I u.1)]) (fun u=>u.2.2.2.2)
   (fun u=>row p3 126 [.slice u.2.2.1.1 u.2.1.length u.2.2.1.2,.slice u.2.2.2.1.1 pr.length u.2.2.2.1.2]::row p9 50 [I wr,.slice sb1 wt.length sc1,.slice sb2 wd.length sc2]::row p6 126 [nilS,nilS]::R) (fun u=>wd.length - u.1)
   (0,m.Held,(b1,c1),(d2,e2),H2) ⟨Nat.zero_le _,.refl _,rfl,Nat.le_refl _,hs1.mono hl2,hsp⟩ fun ⟨i,hl,⟨f1,f2⟩,⟨f3,f4⟩,HK⟩ ⟨hi0,hlK,hF,hhl',hr1,hr2⟩ K hL=>?_
  simp only at hi0 hlK hF hhl' hr1 hr2;dsimp only;refine QB_ ?_;refine ze_ rfl (fun hi=>?_) (fun hi=>?_)
  ·have hi1:i<wd.length:=by have:=hi.1;omega
   have hdr:=List.drop_eq_getElem_cons hi1;rw [hdr,ZcO_] at hF;have hT:QK_ HK [.slice f1 hl.length f2,.slice f3 pr.length f4] ⟨hl,pr⟩:=⟨_,_,rfl,hr1,hr2⟩;have hg7:=g7.mono (hl2.trans hlK);refine walk ?_;refine zc_ 11 [row p3 126 [.slice f1 hl.length f2,.slice f3 pr.length f4],row p9 50 [I wr,.slice sb1 wt.length sc1,.slice sb2 wd.length sc2]] ?_;refine qa_ 0 ?_;refine qa_ 1 ?_;refine qa_ 2 ?_;refine qa_ 3 ?_;refine zg_ 4 rfl rfl rfl hg7.1 hi1 fun b7 o7 cc7 hr7 hc7=>?_;obtain ⟨rfl,hsz⟩:=hc7;refine qn_ 5 0 rfl rfl hr7 rfl rfl ?_;refine qo_ 6 rfl rfl rfl (QaO_ hT) ?_;rw [zcl_];dsimp only;refine qa_ 7 ?_;refine zd_ 8 rfl rfl rfl rfl ?_;refine zd_ 9 rfl rfl rfl rfl ?_;refine qa_ 10 ?_;refine qb_ rfl ?_;have hst:=Qcl_ (r:=wr) (l:=hl) (k:=wd[i]);generalize Zbf_ hl wd[i]=rv at hst⊢;refine QB_ ?_;refine ze_ rfl (fun hq=>?_) (fun hq=>?_)
   ·rw [if_pos hq] at hst;rw [hst] at hF;have hlen:=Qbf_ (k:=wd[i]) (r:=0) (l:=hl) (put:=true);rw [if_pos rfl,Nat.add_zero] at hlen;refine zc_ 7 [row p3 126 [.slice f1 hl.length f2,.slice f3 pr.length f4],row p9 50 [I wr,.slice sb1 wt.length sc1,.slice sb2 wd.length sc2]] ?_;refine qa_ 0 ?_;refine qa_ 1 ?_;refine qa_ 2 ?_;refine qa_ 3 ?_;refine zg_ 4 rfl rfl rfl hg7.1 hi1 fun b8 o8 cc8 hr8 hc8=>?_;obtain ⟨rfl,hsz8⟩:=hc8;refine qn_ 5 0 rfl rfl hr8 rfl rfl ?_;refine qe_ 6 rfl rfl rfl (zbt_ (k:=wd[i]) (r:=0) (yes:=false) hT hsz qh_ (by simp only;omega)) fun r9 H9 B hl9 ⟨cs,er,hcs,eB⟩=>?_;subst er eB;refine ⟨subA,?_⟩;obtain ⟨q1,q2,rfl,hq1,hq2⟩:=hcs;obtain ⟨qb1,qc1,rfl,_,_⟩:=hq1.1.shape;obtain ⟨qb2,qc2,rfl,_,_⟩:=hq2.1.shape;refine qb_ rfl ?_;refine walk ?_;exact Zb_ hL (i+1,zI_ wd[i] 0 true hl,(qb1,qc1),(qb2,qc2),H9) ⟨by simp only;omega,hlK.trans hl9,hF,by simp only;omega,hq1,hq2⟩
   ·rw [if_neg hq] at hst;rw [hst] at hF;refine walk ?_;exact Zb_ hL (i+1,hl,(f1,f2),(f3,f4),HK) ⟨by simp only;omega,hlK,hF,hhl',hr1,hr2⟩
  clear hL
  have hie:i=wd.length:=by
   refine Classical.byContradiction fun h=>hi ⟨by omega,rfl⟩
  subst hie;rw [List.drop_length] at hF;change hl=qbn_ wr wd m.Held at hF;rw [←hF] at hap';have hbd:hl.length≤90000:=Nat.le_trans hhl' hhl
  have hwt:wt.length≤80:=by
   have:=hnq;simp only [Work.ks,List.length_append] at this;omega
  clear hF hi;refine walk ?_
  refine Qc_ (σ:=Nat×List Hold×(Option Addr×Nat)×(Option Addr×Nat)×Heap) (fun u=>u.1≤wt.length∧HK.le u.2.2.2.2∧zbn_ wr (wt.drop u.1) u.2.1=zbn_ wr wt hl∧u.2.1.length≤90000+u.1∧SlB Zae_ 2 24 u.2.2.2.2 (.slice u.2.2.1.1 u.2.1.length u.2.2.1.2) u.2.1∧SlB rRec 9 120 u.2.2.2.2 (.slice u.2.2.2.1.1 pr.length u.2.2.2.1.2) pr)
   (fun u=>[(2,.bool true),(3,.pointer (some ⟨p3,0,none⟩)),(6,.pointer (some ⟨p6,0,none⟩)),(9,.pointer (some ⟨p9,0,none⟩)),(14,I u.1)]) (fun u=>u.2.2.2.2)
   (fun u=>row p3 126 [.slice u.2.2.1.1 u.2.1.length u.2.2.1.2,.slice u.2.2.2.1.1 pr.length u.2.2.2.1.2]::row p9 50 [I wr,.slice sb1 wt.length sc1,.slice sb2 wd.length sc2]::row p6 126 [nilS,nilS]::R) (fun u=>wt.length - u.1)
   (0,hl,(f1,f2),(f3,f4),HK) ⟨Nat.zero_le _,.refl _,rfl,hbd,hr1,hr2⟩ fun ⟨i,hm,⟨k1,k2⟩,⟨k3,k4⟩,HJ⟩ ⟨hi0,hlJ,hF,hml,hn1,hn2⟩ K hL=>?_
  simp only at hi0 hlJ hF hml hn1 hn2;dsimp only;refine QB_ ?_;refine ze_ rfl (fun hi=>?_) (fun hi=>?_)
  ·have hi1:i<wt.length:=by have:=hi.1;omega
   have hdr:=List.drop_eq_getElem_cons hi1;rw [hdr,qcP_] at hF;have hT:QK_ HJ [.slice k1 hm.length k2,.slice k3 pr.length k4] ⟨hm,pr⟩:=⟨_,_,rfl,hn1,hn2⟩;have hg6:=g6.mono (hl2.trans (hlK.trans hlJ));have hlen:=Qbf_ (k:=wt[i]) (r:=wr) (l:=hm) (put:=false);rw [if_neg Bool.noConfusion] at hlen;refine walk ?_;refine zc_ 9 [row p3 126 [.slice k1 hm.length k2,.slice k3 pr.length k4],row p9 50 [I wr,.slice sb1 wt.length sc1,.slice sb2 wd.length sc2]] ?_;refine qa_ 0 ?_;refine qa_ 1 ?_;refine qa_ 2 ?_;refine qa_ 3 ?_;refine zg_ 4 rfl rfl rfl hg6.1 hi1 fun b8 o8 cc8 hr8 hc8=>?_;obtain ⟨rfl,hsz8⟩:=hc8;refine qn_ 5 0 rfl rfl hr8 rfl rfl ?_;refine qa_ 6 ?_;refine qa_ 7 ?_;refine qe_ 8 rfl rfl rfl (zbt_ (k:=wt[i]) (r:=wr) (yes:=true) hT hsz8 g5 (by simp only;omega)) fun r9 H9 B hl9 ⟨cs,er,hcs,eB⟩=>?_;subst er eB;refine ⟨subA,?_⟩;obtain ⟨q1,q2,rfl,hq1,hq2⟩:=hcs;obtain ⟨qb1,qc1,rfl,_,_⟩:=hq1.1.shape;obtain ⟨qb2,qc2,rfl,_,_⟩:=hq2.1.shape;refine qb_ rfl ?_;refine walk ?_;exact Zb_ hL (i+1,zI_ wt[i] wr false hm,(qb1,qc1),(qb2,qc2),H9) ⟨by simp only;omega,hlJ.trans hl9,hF,by simp only;omega,hq1,hq2⟩
  clear hL
  have hie:i=wt.length:=by
   refine Classical.byContradiction fun h=>hi ⟨by omega,rfl⟩
  subst hie;rw [List.drop_length] at hF;change hm=zbn_ wr wt hl at hF;refine walk ?_;refine fin0 ?_;exact ⟨_,⟨hm,pr⟩,0,rfl,⟨_,_,rfl,hn1,hn2⟩,hap' _ (by rw [hF]),rfl⟩
end Go.Proofs.YtlflbkpmfhhikaaGreatDoor
