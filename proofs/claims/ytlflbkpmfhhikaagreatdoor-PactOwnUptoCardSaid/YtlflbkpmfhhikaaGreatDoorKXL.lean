/- Log: the notes, their lists new. -/
import Derived.Test.YtlflbkpmfhhikaaGreatDoorKZN
set_option maxHeartbeats 16000000
set_option maxRecDepth 100000
set_option linter.unusedVariables false
set_option linter.unusedSimpArgs false
namespace Go.Proofs.YtlflbkpmfhhikaaGreatDoor
open Go Go.Sx Go.Proofs
theorem zaZ_ {α:Type} {R:Sx.Rd α} {sz:Nat} [RdOk R sz] {H:Heap} {v:Value} {xs:List α} (h:SlR R sz H v xs) {x:α} (hx:x∈xs):∃c,R H c x:=by
 obtain ⟨k,hk,rfl⟩:=List.getElem_of_mem hx;obtain ⟨b,c,e,_,_⟩:=h.shape;subst e;obtain ⟨_,_,c,_,_,_,hc⟩:=h.get hk;exact ⟨c,hc⟩
theorem Qah_ {α:Type} {R:Sx.Rd α} {sz:Nat} [RdOk R sz] {H:Heap} {base:Option Addr} {m cap k:Nat} {xs:List α} (hr:SlR R sz H (.slice base m cap) xs) (h:k≤xs.length):SlR R sz H (.slice base k cap) (xs.take k):=by
 obtain ⟨cs,⟨base',cap',e,hc,hl,h1c,he⟩,b⟩:=hr
 cases e
 have hk:(xs.take k).length=k:=by simp;omega
 have hmul:k*sz≤xs.length*sz:=Nat.mul_le_mul_right _ h;refine ⟨cs.take (k*sz),hk.symm▸⟨_,_,rfl,by omega,by rw [List.length_take,hl];omega,?_,?_⟩,b.take h⟩
 ·simp only [List.all_eq_true] at h1c⊢;exact fun u hu=>h1c u (List.mem_of_mem_take hu)
 ·rcases he with he | ⟨b,off,rfl,hrow⟩
  ·exact .inl (by omega)
  ·exact .inr ⟨b,off,rfl,hrow.take⟩
def QY_ (w:Work):Work:=⟨w.Robot,w.Take.take 20,w.Drop.take 20⟩
def ownP (l:List Work):List Work:=(l.take 8).map QY_
theorem qbK_ {l:List Work} {j:Nat} (hj:j<l.length):(l.take (j+1)).map QY_=(l.take j).map QY_++[QY_ l[j]]:=by
 rw [List.take_succ_eq_append_getElem hj,List.map_append];rfl
theorem v14_ {P:Prop} (h:P:=by
 refine Zt_ 35 rfl (Qz_ rfl ht2 hcap2 fun d35 e35=>⟨.refl _,subA,?_⟩);simp only [List.length_nil,Nat.zero_add,List.nil_append];refine zi_ (.slice d20 (wt.take 20).length e20) fun H2 hl2 g1=>?_;refine zi_ (.slice d35 (wd.take 20).length e35) fun H3 hl3 g2=>?_;refine zaa_ 36 rfl rfl rfl ?_;refine Qu_ (y:=QY_ ⟨wr,wt,wd⟩) 37 38 rfl rfl rfl ⟨_,_,rfl,raf,g1.mono hl3,g2⟩ (by rw [hll];simp only [zb_];omega) fun d9 e9=>⟨subA,?_⟩;rw [←hsn,show ((l.take j).map QY_).length+1=((l.take (j+1)).map QY_).length by rw [hsn,List.length_append];rfl];refine qb_ rfl ?_;refine walk ?_;refine Zb_ hL (j+1,d9,e9,H3) ⟨by simp only;omega,by simp only;omega,hlK.trans (hl2.trans hl3)⟩ (hs:=?_);dsimp only;exact subA):P:=h
theorem v49_ {P:Prop} (h:P:=by
 unfold ownP
 first | rfl | rw [List.take_of_length_le (Nat.le_refl _),List.take_of_length_le hj8]):P:=h
theorem zdf_ {W0:World} {H:Heap} {v:Value} {l:List Work} (h0:SlB Qi_ 3 56 H v l):
  Ct Tryz.prog 15 #[v] W0 H [] (fun r H' B=>B=[ownS Qi_ 3 56 50 H' r (ownP l)]):=by
 refine Ct.go (vs:=[v]) fun R=>?_;obtain ⟨b0,c0,rfl,hc0,hd0⟩:=h0.1.shape;refine walk ?_;refine Qc_ (σ:=Nat×Option Addr×Nat×Heap) (fun u=>u.1≤l.length∧u.1≤8∧H.le u.2.2.2) (fun u=>[(0,.slice b0 l.length c0),(3,.slice u.2.1 ((l.take u.1).map QY_).length u.2.2.1),(4,I u.1)]) (fun u=>u.2.2.2) (fun u=>ownS Qi_ 3 56 50 u.2.2.2 (.slice u.2.1 ((l.take u.1).map QY_).length u.2.2.1) ((l.take u.1).map QY_)::R) (fun u=>l.length - u.1) (0,none,0,H) ⟨Nat.zero_le _,Nat.zero_le _,.refl _⟩ (hs0:=?_) fun ⟨j,dd,e,HK⟩ ⟨hj0,hj8,hlK⟩ K hL=>?_
 rotate_left
 ·show Sub _ (ownS Qi_ 3 56 50 H (.slice none 0 0) []::_);exact v32_
 simp only at hj0 hj8 hlK;dsimp only;by_cases hk1:j<l.length
 ·by_cases hk8:j<8
  ·have hk1':(j:Int)<(l.length:Int):=by omega
   have hk8':(j:Int)<8:=by omega
   have hsn:=qbK_ hk1;have hll:((l.take j).map QY_).length=j:=by simp;omega
   have hsl:=(h0.mono hlK).1;obtain ⟨w,hwj⟩:∃w,l[j]=w:=⟨_,rfl⟩;rw [hwj] at hsn;obtain ⟨wr,wt,wd⟩:=w;have hk3:(min (wt.length:Int) 20).toNat=(wt.take 20).length:=by rw [List.length_take];omega
   have hk4:(min (wd.length:Int) 20).toNat=(wd.take 20).length:=by rw [List.length_take];omega
   have hq1:wt.take (wt.take 20).length=wt.take 20:=by rw [List.length_take,List.take_eq_take_min];simp [Nat.min_assoc,Nat.min_comm]
   have hq2:wd.take (wd.take 20).length=wd.take 20:=by rw [List.length_take,List.take_eq_take_min];simp [Nat.min_assoc,Nat.min_comm]
   have hlt:(wt.take 20).length≤20:=by rw [List.length_take];omega
   have hld:(wd.take 20).length≤20:=by rw [List.length_take];omega
   refine walk ?_;refine zc_ 39 [] ?_;refine qa_ 0 ?_;refine qa_ 1 ?_;refine qa_ 2 ?_;refine Qf_ 3 rfl rfl rfl hsl hk1 fun rab rao rac rahr rahc=>?_;rw [hwj] at rahc;obtain ⟨ra1,ra2,rfl,raf,rag1,rag2⟩:=rahc;obtain ⟨rax1,ray1,rfl,raz1,_⟩:=rag1.1.shape;obtain ⟨rax2,ray2,rfl,raz2,_⟩:=rag2.1.shape;dsimp only at raz1 raz2 rag1 rag2 raf;change HRow HK rab rao [I wr,.slice rax1 wt.length ray1,.slice rax2 wd.length ray2] at rahr;refine qa_ 4 ?_;refine zl_ 5 0 rfl rfl rahr rfl rfl ?_;refine qa_ 7 ?_;refine qa_ 8 ?_;refine Qf_ 9 rfl rfl rfl hsl hk1 fun rbb rbo rbc rbhr rbhc=>?_;rw [hwj] at rbhc;obtain ⟨rb1,rb2,rfl,rbf,rbg1,rbg2⟩:=rbhc;obtain ⟨rbx1,rby1,rfl,rbz1,_⟩:=rbg1.1.shape;obtain ⟨rbx2,rby2,rfl,rbz2,_⟩:=rbg2.1.shape;dsimp only at rbz1 rbz2 rbg1 rbg2 rbf;change HRow HK rbb rbo [I wr,.slice rbx1 wt.length rby1,.slice rbx2 wd.length rby2] at rbhr;refine qa_ 10 ?_;refine zl_ 11 1 rfl rfl rbhr rfl rfl ?_;refine qa_ 12 ?_;refine qa_ 13 ?_;refine Qf_ 14 rfl rfl rfl hsl hk1 fun rcb rco rcc rchr rchc=>?_;rw [hwj] at rchc;obtain ⟨rc1,rc2,rfl,rcf,rcg1,rcg2⟩:=rchc;obtain ⟨rcx1,rcy1,rfl,rcz1,_⟩:=rcg1.1.shape;obtain ⟨rcx2,rcy2,rfl,rcz2,_⟩:=rcg2.1.shape;dsimp only at rcz1 rcz2 rcg1 rcg2 rcf;change HRow HK rcb rco [I wr,.slice rcx1 wt.length rcy1,.slice rcx2 wd.length rcy2] at rchr;refine qa_ 15 ?_;refine zl_ 16 1 rfl rfl rchr rfl rfl ?_;refine qa_ 17 ?_;refine qa_ 18 ?_;refine qa_ 19 ?_;refine qa_ 22 ?_;refine qa_ 23 ?_;refine Qf_ 24 rfl rfl rfl hsl hk1 fun rdb rdo rdc rdhr rdhc=>?_;rw [hwj] at rdhc;obtain ⟨rd1,rd2,rfl,rdf,rdg1,rdg2⟩:=rdhc;obtain ⟨rdx1,rdy1,rfl,rdz1,_⟩:=rdg1.1.shape;obtain ⟨rdx2,rdy2,rfl,rdz2,_⟩:=rdg2.1.shape;dsimp only at rdz1 rdz2 rdg1 rdg2 rdf;change HRow HK rdb rdo [I wr,.slice rdx1 wt.length rdy1,.slice rdx2 wd.length rdy2] at rdhr;refine qa_ 25 ?_;refine zl_ 26 2 rfl rfl rdhr rfl rfl ?_;refine qa_ 27 ?_;refine qa_ 28 ?_;refine Qf_ 29 rfl rfl rfl hsl hk1 fun reb reo rec rehr rehc=>?_;rw [hwj] at rehc;obtain ⟨re1,re2,rfl,ref,reg1,reg2⟩:=rehc;obtain ⟨rex1,rey1,rfl,rez1,_⟩:=reg1.1.shape;obtain ⟨rex2,rey2,rfl,rez2,_⟩:=reg2.1.shape;dsimp only at rez1 rez2 reg1 reg2 ref;change HRow HK reb reo [I wr,.slice rex1 wt.length rey1,.slice rex2 wd.length rey2] at rehr;refine qa_ 30 ?_;refine zl_ 31 2 rfl rfl rehr rfl rfl ?_;refine qa_ 32 ?_;refine qa_ 33 ?_;refine qa_ 34 ?_;rw [hk3,hk4];have ht1:=Qah_ (k:=(wt.take 20).length) rbg1.1 (by rw [List.length_take];omega);have ht2:=Qah_ (k:=(wd.take 20).length) rdg2.1 (by rw [List.length_take];omega);rw [hq1] at ht1;have hcap1:(([]:List ByteArray).length+(wt.take 20).length)*16≤zb_:=by simp only [zb_,List.length_nil];omega
   have hcap2:(([]:List ByteArray).length+(wd.take 20).length)*16≤zb_:=by simp only [zb_,List.length_nil];omega
   rw [hq2] at ht2;refine Zax_ 6 21 rfl rfl (QG_ (wd:=16) rStr fun b6=>⟨.refl _,subA,?_⟩) (QG_ (wd:=16) rStr fun b21=>⟨.refl _,subA,?_⟩)
   ·refine Zax_ 20 21 rfl rfl (Qz_ rfl ht1 hcap1 fun d20 e20=>⟨.refl _,subA,?_⟩) (QG_ (wd:=16) rStr fun b21=>⟨.refl _,subA,?_⟩)
    ·refine Zt_ 21 rfl (QG_ (wd:=16) rStr fun b21=>⟨.refl _,subA,?_⟩);exact v14_
    ·refine Zt_ 20 rfl (Qz_ rfl ht1 hcap1 fun d20 e20=>⟨.refl _,subA,?_⟩);exact v14_
   ·refine Zt_ 6 rfl (QG_ (wd:=16) rStr fun b6=>⟨.refl _,subA,?_⟩);refine Zt_ 20 rfl (Qz_ rfl ht1 hcap1 fun d20 e20=>⟨.refl _,subA,?_⟩);exact v14_
  ·obtain rfl:j=8:=by omega
   have hk1':(8:Int)<(l.length:Int):=by omega
   clear hL;refine walk ?_;refine finB [ownS Qi_ 3 56 50 HK (.slice dd ((l.take (8)).map QY_).length e) ((l.take (8)).map QY_)] ?_;exact v49_
 ·obtain rfl:j=l.length:=by omega
  clear hL;refine walk ?_;refine finB [ownS Qi_ 3 56 50 HK (.slice dd ((l.take (l.length)).map QY_).length e) ((l.take (l.length)).map QY_)] ?_;exact v49_
theorem qaH_ {p c q:List Value} {o k:Nat} {v:Value} (hp:p.length=o) (hk:k<c.length):(p++c++q).set (o+k) v=p++c.set k v++q:=by
 rw [List.append_assoc,List.set_append_right _ _ (by omega),hp,Nat.add_sub_cancel_left,List.set_append_left _ _ hk,←List.append_assoc]
theorem zaH_ {p c q:List Value} {o k:Nat} {v:Value} (hp:p.length=o) (hk:c[k]?=some v):(p++c++q)[o+k]?=some v:=by
 have hl:k<c.length:=(List.getElem?_eq_some_iff.1 hk).1;rw [List.append_assoc,List.getElem?_append_right (by omega),hp,Nat.add_sub_cancel_left,List.getElem?_append_left hl,hk]
theorem qdf_ {cs c r:List Value} {o:Nat} (h:cs.drop o=c++r) (hc:0<c.length):∃p,cs=p++c++r∧p.length=o:=by
 refine ⟨cs.take o,by rw [List.append_assoc,←h,List.take_append_drop],?_⟩;have h2:(cs.drop o).length=(c++r).length:=by rw [h]
 rw [List.length_drop,List.length_append] at h2;rw [List.length_take];omega
theorem qaZ_ {W0:World} {H:Heap} {b0:Option Addr} {c0:Nat} {l:List PactNote} (hb:l.length*128≤zb_):
  Ct Tryz.prog 29 #[.slice b0 l.length c0] W0 H [wLog H (.slice b0 l.length c0) l] (fun r H' B=>B=[wLog H r l,wLog H (.slice b0 l.length c0) l]∧H'=H):=by
 refine Ct.go fun R=>?_;refine walk ?_;refine Qe_ rfl (fun h=>?_) (fun h=>?_)
 ·subst h;refine walk ?_;refine qdq_ .here (p:=l.length=0) (fun h ho=>?_) fun h0=>?_
  ·obtain ⟨cs,_,ho⟩:=ho;obtain ⟨_,ho⟩:=ho;rcases ho with ⟨h,_⟩ | ⟨b,cap,sp,h,_⟩
   ·exact h
   ·cases h
  obtain rfl:l=[]:=List.eq_nil_of_length_eq_zero h0;refine finB [wLog H (.slice none 0 0) [],wLog H (.slice none 0 c0) []] ?_ (hs:=ownS_nil);exact ⟨rfl,rfl⟩
 ·refine walk ?_;refine QU_ (w:=128) ZJ_ rfl fun b=>?_;refine walk ?_;refine qcQ_ rfl rfl (by simpa using hb) fun base cap=>?_;refine walk ?_;refine finB [wLog H (.slice base ([].length+l.length) cap) ([]++l),wLog H (.slice b0 l.length c0) l] ?_;exact ⟨rfl,rfl⟩
theorem ZbJ_ {W0:World} {H:Heap} {p:Nat} {w:PW} (hb:w.log.length*128≤zb_):
  Ct Tryz.prog 12 #[ptrC p] W0 H [Zc_ H p w] (fun r H' B=>B=[wLog H' r w.log,Zc_ H' p w]):=by
 refine Ct.go (vs:=[ptrC p]) fun R=>?_;refine Qj_ (A:=Zc_ H p w) (σ:=Value×Nat×Value×List NE) (B:=fun a=>[wRow p a.1 a.2.1 (PW.now w) a.2.2.1,wNs a.1 a.2.2.2,bigL (ndP H) a.2.2.2,bigL (ndC H) a.2.2.2,Net.netO H (ptrC a.2.1) (PW.net w),wLog H a.2.2.1 (PW.log w)]) (p:=fun a=>PW.ns w=a.2.2.2.map NE.q) (by repeat (first | exact Has.here | apply Has.there)) (fun h ⟨nv,nb,lv,es,hb,hk⟩=>⟨(nv,nb,lv,es),hk,hb⟩) fun ⟨nv,nb,lv,es⟩ hns=>?_;dsimp only at hns⊢;refine Qs_ lv fun lb lc e _ _ _=>?_;subst e;obtain ⟨l,hll⟩:∃l,w.log=l:=⟨_,rfl⟩
 have hwf:∀H':Heap,H.le H'→Sub (wRow p nv nb w.now (.slice lb l.length lc)::wNs nv es::bigL (ndP H) es::bigL (ndC H) es::Net.netO H (ptrC nb) w.net::wLog H (.slice lb l.length lc) l::R) (Zc_ H' p w::R):=fun H' hl=>by
  rw [←hll];exact zC_ hns hl hl hl hl
 rw [hll] at hb⊢;refine walk ?_;refine Za_ rfl rfl (qaZ_ (W0:=W0) (H:=H) (b0:=lb) (c0:=lc) hb) fun r1 H1 B hl1 ⟨eB,eH⟩=>?_;subst eB eH;refine qq_ r1 fun b1 c1 e k1 k2 k3=>?_;subst e;refine walk ?_
 refine Qc_ (σ:=Nat×Heap) (fun u=>u.1≤l.length∧H1.le u.2) (fun u=>[(3,.slice b1 l.length c1),(12,I l.length),(13,I u.1)]) (fun u=>u.2)
  (fun u=>wLog u.2 (.slice b1 l.length c1) l::wRow p nv nb w.now (.slice lb l.length lc)::wNs nv es::bigL (ndP H1) es::bigL (ndC H1) es::Net.netO H1 (ptrC nb) w.net::wLog H1 (.slice lb l.length lc) l::R) (fun u=>l.length - u.1) (0,H1) ⟨Nat.zero_le _,.refl _⟩ fun ⟨j,HK⟩ ⟨hj0,hlK⟩ K hL=>?_
 simp only at hj0 hlK;dsimp only;by_cases hj1:j<l.length
 ·have hj2:(j:Int)<(l.length:Int):=by omega
  refine walk ?_;refine Qal_ (.slice b1 l.length c1) (Nat.lt_of_le_of_lt (Nat.zero_le j) hj1) fun b2 cap2 cs sp e q1 q2 q3 q4 q5 q6=>?_
  cases e
  obtain ⟨c,rr,hcr,hcc⟩:=q5.get hj1;have hcl:c.length=10:=RdOk.len hcc;obtain ⟨pp,rfl,hpl⟩:=qdf_ hcr (by rw [hcl];decide);rw [List.append_assoc (pp++c)];obtain ⟨qq,hqq⟩:∃qq,rr++sp=qq:=⟨_,rfl⟩;rw [hqq];obtain ⟨s1,s2,s3,rfl,f0,f1,f2,f3,f4,f5,g1,g2,g3⟩:=hcc;obtain ⟨x1,y1,rfl,_,_⟩:=g1.1.shape;obtain ⟨x2,y2,rfl,_,_⟩:=g2.1.shape;obtain ⟨x3,y3,rfl,_,_⟩:=g3.1.shape;obtain ⟨x,hx⟩:∃x,l[j]=x:=⟨_,rfl⟩;rw [hx] at f0 f1 f2 f3 f4 f5 g1 g2 g3⊢;refine walk ?_;refine ex_z 31 ?_;refine Qcq_ 1 rfl rfl ?_;refine Qcq_ 2 rfl rfl ?_;refine Zec_ 20 [row b2 71 (pp++PactNote.cv x (.slice x1 x.Rec.Work.Take.length y1) (.slice x2 x.Rec.Work.Drop.length y2) (.slice x3 x.Rec.Parts.length y3)++qq)] ?_;refine qa_ 0 ?_;refine qa_ 3 ?_;refine qa_ 4 ?_;refine qa_ 5 ?_;refine qa_ 6 ?_;refine qa_ 9 ?_;refine qa_ 10 ?_;refine qa_ 11 ?_;refine qa_ 12 ?_;refine qa_ 15 ?_;refine qa_ 16 ?_;refine qa_ 17 ?_;refine ZaJ_ 7 rfl rfl rfl (by rw [Nat.zero_add];exact zaH_ (k:=6) hpl rfl) ?_;refine ZaJ_ 13 rfl rfl rfl (by rw [Nat.zero_add];exact zaH_ (k:=7) hpl rfl) ?_;refine ZaJ_ 18 rfl rfl rfl (by rw [Nat.zero_add];exact zaH_ (k:=9) hpl rfl) ?_;refine ze_ 8 rfl rfl rfl (Zr_ (W0:=W0) (H:=HK) g1) fun r8 H8 B hl8 ⟨eB,eH⟩=>?_;subst eB eH;refine ⟨subA,?_⟩;refine ze_ 14 rfl rfl rfl (Zr_ (W0:=W0) (H:=H8) g2) fun r14 H9 B hl9 ⟨eB,eH⟩=>?_;subst eB eH;refine ⟨subA,?_⟩;refine ze_ 19 rfl rfl rfl (Qx_ (W0:=W0) (H:=H9) g3) fun r19 H10 B hl10 ⟨eB,eH⟩=>?_;subst eB eH;refine ⟨subA,?_⟩;refine Zaw_ 31 [] ?_;refine zi_ r8 fun H2 hl2 h1=>?_;refine zi_ r14 fun H3 hl3 h2=>?_;refine zi_ r19 fun H4 hl4 h3=>?_;obtain ⟨u1,v1,rfl,_,_⟩:=h1.1.shape;obtain ⟨u2,v2,rfl,_,_⟩:=h2.1.shape;obtain ⟨u3,v3,rfl,_,_⟩:=h3.1.shape;have hcw:∀v1 v2 v3,(PactNote.cv x v1 v2 v3).length=10:=fun _ _ _=>rfl;refine qa_ 20 ?_;refine qa_ 21 ?_;refine qa_ 22 ?_;refine Zi_ 23 (cs':=pp++PactNote.cv x (.slice u1 x.Rec.Work.Take.length v1) (.slice x2 x.Rec.Work.Drop.length y2) (.slice x3 x.Rec.Parts.length y3)++qq) rfl rfl rfl rfl (by simp only [Nat.zero_add,List.length_append,hcw,hpl,List.length_singleton];omega) (by rw [Nat.zero_add,QaH_ (by simp only [List.length_append,hcw,hpl];omega)];exact qaH_ (k:=6) hpl (by rw [hcw];decide)) ⟨subA,?_⟩;refine qa_ 24 ?_;refine qa_ 25 ?_;refine qa_ 26 ?_;refine Zi_ 27 (cs':=pp++PactNote.cv x (.slice u1 x.Rec.Work.Take.length v1) (.slice u2 x.Rec.Work.Drop.length v2) (.slice x3 x.Rec.Parts.length y3)++qq) rfl rfl rfl rfl (by simp only [Nat.zero_add,List.length_append,hcw,hpl,List.length_singleton];omega) (by rw [Nat.zero_add,QaH_ (by simp only [List.length_append,hcw,hpl];omega)];exact qaH_ (k:=7) hpl (by rw [hcw];decide)) ⟨subA,?_⟩;refine qa_ 28 ?_;refine qa_ 29 ?_;refine Zi_ 30 (cs':=pp++PactNote.cv x (.slice u1 x.Rec.Work.Take.length v1) (.slice u2 x.Rec.Work.Drop.length v2) (.slice u3 x.Rec.Parts.length v3)++qq) rfl rfl rfl rfl (by simp only [Nat.zero_add,List.length_append,hcw,hpl,List.length_singleton];omega) (by rw [Nat.zero_add,QaH_ (by simp only [List.length_append,hcw,hpl];omega)];exact qaH_ (k:=9) hpl (by rw [hcw];decide)) ⟨subA,?_⟩;refine qb_ rfl ?_;refine walk ?_;have hs5:=RL.set (q5.mono (hl2.trans (hl3.trans hl4))) (us:=PactNote.cv x (.slice u1 x.Rec.Work.Take.length v1) (.slice u2 x.Rec.Work.Drop.length v2) (.slice u3 x.Rec.Parts.length v3)) (y:=x) ⟨_,_,_,rfl,f0,f1,f2,f3,f4,f5,h1.mono (hl3.trans hl4),h2.mono hl4,h3⟩ hj1;have hsx:l.set j x=l:=by rw [←hx,List.set_getElem_self]
  rw [hsx,hcw,List.append_assoc pp,List.take_left' hpl,←List.append_assoc pp,List.drop_left' (by rw [List.length_append,hpl];rfl)] at hs5;have e3:pp++PactNote.cv x (.slice u1 x.Rec.Work.Take.length v1) (.slice u2 x.Rec.Work.Drop.length v2) (.slice u3 x.Rec.Parts.length v3)++qq=pp++PactNote.cv x (.slice u1 x.Rec.Work.Take.length v1) (.slice u2 x.Rec.Work.Drop.length v2) (.slice u3 x.Rec.Parts.length v3)++rr++sp:=by rw [←hqq,List.append_assoc (pp++_)]
  rw [e3];refine Zb_ hL (j+1,H4) ⟨by simp only;omega,hlK.trans (hl2.trans (hl3.trans hl4))⟩ (hs:=?_);refine (QE_ ?_ q1 q2 ?_).trans (QK_ hs5 q6)
  ·rw [←q3];simp only [List.length_append,hcw];rfl
  ·rw [←q4];simp only [List.length_append,hcw];rfl
 ·obtain rfl:j=l.length:=by omega
  clear hL;refine walk ?_;refine finB [wLog HK (.slice b1 l.length c1) l,Zc_ HK p w] ?_ (hs:=Sub.cons (hwf HK hlK));rfl
end Go.Proofs.YtlflbkpmfhhikaaGreatDoor
