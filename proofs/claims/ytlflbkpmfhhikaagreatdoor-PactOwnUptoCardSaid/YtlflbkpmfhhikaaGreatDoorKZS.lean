/- A move that begins a transaction where nothing was: all that it makes is handed back owned. -/
import Derived.Test.YtlflbkpmfhhikaaGreatDoorKWC
import Derived.Test.YtlflbkpmfhhikaaGreatDoorKZO
set_option maxHeartbeats 16000000
set_option maxRecDepth 100000
set_option linter.unusedVariables false
set_option linter.unusedSimpArgs false
namespace Go.Proofs.YtlflbkpmfhhikaaGreatDoor
open Go Go.Sx Go.Proofs
theorem v118_ {P:Prop} (h:P:=by
 clear hL;refine walk ?_;refine finB [ownS rWV 3 56 50 H (.slice dd ys.length e) ys,bigL ownW ys] ?_;refine ⟨ys,?_,rfl,rfl⟩;rw [hys];exact v49_):P:=h
theorem v13_ {P:Prop} (h:P:=by
 refine Zt_ 35 rfl (Qz_ rfl ht2 hcap2 fun d35 e35=>⟨.refl _,subA,?_⟩);simp only [List.length_nil,Nat.zero_add,List.nil_append];refine zaa_ 36 rfl rfl rfl ?_;refine Qu_ (y:=(⟨QY_ ⟨wr,wt,wd⟩,(d20,e20),(d35,e35)⟩:WV)) 37 38 rfl rfl rfl rfl (by rw [hyl];simp only [zb_];omega) fun d9 e9=>⟨subA,?_⟩;rw [show ys.length+1=(ys++[(⟨QY_ ⟨wr,wt,wd⟩,(d20,e20),(d35,e35)⟩:WV)]).length by rw [List.length_append];rfl];refine qb_ rfl ?_;refine walk ?_;refine Zb_ hL (j+1,ys++[⟨QY_ ⟨wr,wt,wd⟩,(d20,e20),(d35,e35)⟩],d9,e9) ⟨by simp only;omega,by simp only;omega,?_⟩ (hs:=?_)
 ·simp only;rw [List.map_append,hys,hsn];rfl
 ·dsimp only;refine Sub.trans ?_ (Sub.cons qV_);refine Sub.trans ?_ (Sub.cons (Zbx_ (H1:=H) (H2:=H) (v:=⟨QY_ ⟨wr,wt,wd⟩,(d20,e20),(d35,e35)⟩)));exact subA):P:=h
theorem zcs_ {W0:World} {H:Heap} {v:Value} {l:List Work} (h0:SlB Qi_ 3 56 H v l):
  Ct Tryz.prog 15 #[v] W0 H [] (fun r H' B=>∃ys:List WV,ys.map (·.w)=ownP l∧B=[ownS rWV 3 56 50 H' r ys,bigL ownW ys]∧H'=H):=by
 refine Ct.go (vs:=[v]) fun R=>?_;obtain ⟨b0,c0,rfl,hc0,hd0⟩:=h0.1.shape;refine walk ?_;refine Qc_ (σ:=Nat×List WV×Option Addr×Nat) (fun u=>u.1≤l.length∧u.1≤8∧u.2.1.map (·.w)=(l.take u.1).map QY_) (fun u=>[(0,.slice b0 l.length c0),(3,.slice u.2.2.1 u.2.1.length u.2.2.2),(4,I u.1)]) (fun _=>H) (fun u=>ownS rWV 3 56 50 H (.slice u.2.2.1 u.2.1.length u.2.2.2) u.2.1::bigL ownW u.2.1::R) (fun u=>l.length - u.1) (0,[],none,0) ⟨Nat.zero_le _,Nat.zero_le _,rfl⟩ (hs0:=?_) fun ⟨j,ys,dd,e⟩ ⟨hj0,hj8,hys⟩ K hL=>?_
 rotate_left
 ·show Sub _ (ownS rWV 3 56 50 H (.slice none 0 0) []::_);refine Sub.trans ?_ (ownS_nil.trans (Sub.cons qE_));exact subA
 simp only at hj0 hj8 hys;dsimp only;have hyl:ys.length=j:=by have:=congrArg List.length hys;simp only [List.length_map,List.length_take] at this;omega
 by_cases hk1:j<l.length
 ·by_cases hk8:j<8
  ·have hk1':(j:Int)<(l.length:Int):=by omega
   have hk8':(j:Int)<8:=by omega
   have hsn:=qbK_ hk1;have hsl:=h0.1;obtain ⟨w,hwj⟩:∃w,l[j]=w:=⟨_,rfl⟩;rw [hwj] at hsn;obtain ⟨wr,wt,wd⟩:=w;have hk3:(min (wt.length:Int) 20).toNat=(wt.take 20).length:=by rw [List.length_take];omega
   have hk4:(min (wd.length:Int) 20).toNat=(wd.take 20).length:=by rw [List.length_take];omega
   have hq1:wt.take (wt.take 20).length=wt.take 20:=by rw [List.length_take,List.take_eq_take_min];simp [Nat.min_assoc,Nat.min_comm]
   have hq2:wd.take (wd.take 20).length=wd.take 20:=by rw [List.length_take,List.take_eq_take_min];simp [Nat.min_assoc,Nat.min_comm]
   have hlt:(wt.take 20).length≤20:=by rw [List.length_take];omega
   have hld:(wd.take 20).length≤20:=by rw [List.length_take];omega
   refine walk ?_;refine zc_ 39 [] ?_;refine qa_ 0 ?_;refine qa_ 1 ?_;refine qa_ 2 ?_;refine Qf_ 3 rfl rfl rfl hsl hk1 fun rab rao rac rahr rahc=>?_;rw [hwj] at rahc;obtain ⟨ra1,ra2,rfl,raf,rag1,rag2⟩:=rahc;obtain ⟨rax1,ray1,rfl,raz1,_⟩:=rag1.1.shape;obtain ⟨rax2,ray2,rfl,raz2,_⟩:=rag2.1.shape;dsimp only at raz1 raz2 rag1 rag2 raf;change HRow H rab rao [I wr,.slice rax1 wt.length ray1,.slice rax2 wd.length ray2] at rahr;refine qa_ 4 ?_;refine zl_ 5 0 rfl rfl rahr rfl rfl ?_;refine qa_ 7 ?_;refine qa_ 8 ?_;refine Qf_ 9 rfl rfl rfl hsl hk1 fun rbb rbo rbc rbhr rbhc=>?_;rw [hwj] at rbhc;obtain ⟨rb1,rb2,rfl,rbf,rbg1,rbg2⟩:=rbhc;obtain ⟨rbx1,rby1,rfl,rbz1,_⟩:=rbg1.1.shape;obtain ⟨rbx2,rby2,rfl,rbz2,_⟩:=rbg2.1.shape;dsimp only at rbz1 rbz2 rbg1 rbg2 rbf;change HRow H rbb rbo [I wr,.slice rbx1 wt.length rby1,.slice rbx2 wd.length rby2] at rbhr;refine qa_ 10 ?_;refine zl_ 11 1 rfl rfl rbhr rfl rfl ?_;refine qa_ 12 ?_;refine qa_ 13 ?_;refine Qf_ 14 rfl rfl rfl hsl hk1 fun rcb rco rcc rchr rchc=>?_;rw [hwj] at rchc;obtain ⟨rc1,rc2,rfl,rcf,rcg1,rcg2⟩:=rchc;obtain ⟨rcx1,rcy1,rfl,rcz1,_⟩:=rcg1.1.shape;obtain ⟨rcx2,rcy2,rfl,rcz2,_⟩:=rcg2.1.shape;dsimp only at rcz1 rcz2 rcg1 rcg2 rcf;change HRow H rcb rco [I wr,.slice rcx1 wt.length rcy1,.slice rcx2 wd.length rcy2] at rchr;refine qa_ 15 ?_;refine zl_ 16 1 rfl rfl rchr rfl rfl ?_;refine qa_ 17 ?_;refine qa_ 18 ?_;refine qa_ 19 ?_;refine qa_ 22 ?_;refine qa_ 23 ?_;refine Qf_ 24 rfl rfl rfl hsl hk1 fun rdb rdo rdc rdhr rdhc=>?_;rw [hwj] at rdhc;obtain ⟨rd1,rd2,rfl,rdf,rdg1,rdg2⟩:=rdhc;obtain ⟨rdx1,rdy1,rfl,rdz1,_⟩:=rdg1.1.shape;obtain ⟨rdx2,rdy2,rfl,rdz2,_⟩:=rdg2.1.shape;dsimp only at rdz1 rdz2 rdg1 rdg2 rdf;change HRow H rdb rdo [I wr,.slice rdx1 wt.length rdy1,.slice rdx2 wd.length rdy2] at rdhr;refine qa_ 25 ?_;refine zl_ 26 2 rfl rfl rdhr rfl rfl ?_;refine qa_ 27 ?_;refine qa_ 28 ?_;refine Qf_ 29 rfl rfl rfl hsl hk1 fun reb reo rec rehr rehc=>?_;rw [hwj] at rehc;obtain ⟨re1,re2,rfl,ref,reg1,reg2⟩:=rehc;obtain ⟨rex1,rey1,rfl,rez1,_⟩:=reg1.1.shape;obtain ⟨rex2,rey2,rfl,rez2,_⟩:=reg2.1.shape;dsimp only at rez1 rez2 reg1 reg2 ref;change HRow H reb reo [I wr,.slice rex1 wt.length rey1,.slice rex2 wd.length rey2] at rehr;refine qa_ 30 ?_;refine zl_ 31 2 rfl rfl rehr rfl rfl ?_;refine qa_ 32 ?_;refine qa_ 33 ?_;refine qa_ 34 ?_;rw [hk3,hk4];have ht1:=Qah_ (k:=(wt.take 20).length) rbg1.1 (by rw [List.length_take];omega);have ht2:=Qah_ (k:=(wd.take 20).length) rdg2.1 (by rw [List.length_take];omega);rw [hq1] at ht1;have hcap1:(([]:List ByteArray).length+(wt.take 20).length)*16≤zb_:=by simp only [zb_,List.length_nil];omega
   have hcap2:(([]:List ByteArray).length+(wd.take 20).length)*16≤zb_:=by simp only [zb_,List.length_nil];omega
   rw [hq2] at ht2;refine Zax_ 6 21 rfl rfl (QG_ (wd:=16) rStr fun b6=>⟨.refl _,subA,?_⟩) (QG_ (wd:=16) rStr fun b21=>⟨.refl _,subA,?_⟩)
   ·refine Zax_ 20 21 rfl rfl (Qz_ rfl ht1 hcap1 fun d20 e20=>⟨.refl _,subA,?_⟩) (QG_ (wd:=16) rStr fun b21=>⟨.refl _,subA,?_⟩)
    ·refine Zt_ 21 rfl (QG_ (wd:=16) rStr fun b21=>⟨.refl _,subA,?_⟩);exact v13_
    ·refine Zt_ 20 rfl (Qz_ rfl ht1 hcap1 fun d20 e20=>⟨.refl _,subA,?_⟩);exact v13_
   ·refine Zt_ 6 rfl (QG_ (wd:=16) rStr fun b6=>⟨.refl _,subA,?_⟩);refine Zt_ 20 rfl (Qz_ rfl ht1 hcap1 fun d20 e20=>⟨.refl _,subA,?_⟩);exact v13_
  ·obtain rfl:j=8:=by omega
   have hk1':(8:Int)<(l.length:Int):=by omega
   exact v118_
 ·obtain rfl:j=l.length:=by omega
  exact v118_
theorem Zaq_ {W0:World} {H HS1 HS2:Heap} {rob:Int} {d1 d2:Option Addr} {e1 e2:Nat} {t dd:List ByteArray}:
  Ct Tryz.prog 26 #[.agg #[I rob,.slice d1 t.length e1,.slice d2 dd.length e2]] W0 H [ownS rStr 1 16 9 HS1 (.slice d1 t.length e1) t,ownS rStr 1 16 9 HS2 (.slice d2 dd.length e2) dd] (fun r H' B=>B=[]∧H'=H):=by
 refine Ct.go (vs:=[.agg #[I rob,.slice d1 t.length e1,.slice d2 dd.length e2]]) fun R=>?_;have hq63:(⟨#[63]⟩:ByteArray).size≤zb_:=by decide
 have hq33:(⟨#[33]⟩:ByteArray).size≤zb_:=by decide
 refine Qs_ (.slice d1 t.length e1) fun _ _ e1' hf1 hg1 _=>?_
 cases e1'
 refine Qs_ (.slice d2 dd.length e2) fun _ _ e2' hf2 hg2 _=>?_
 cases e2'
 refine walk ?_;refine qc_ rfl rfl fun p1 _=>?_;refine walk ?_;refine Qc_ (σ:=Nat×List ByteArray) (fun u=>u.1≤t.length∧u.2.length=t.length) (fun u=>[(1,.pointer (some ⟨p1,0,none⟩)),(6,I t.length),(7,I u.1)]) (fun _=>H) (fun u=>ownS rStr 1 16 9 HS1 (.slice d1 t.length e1) u.2::ownS rStr 1 16 9 HS2 (.slice d2 dd.length e2) dd::row p1 50 [I rob,.slice d1 t.length e1,.slice d2 dd.length e2]::R) (fun u=>t.length - u.1) (0,t) ⟨Nat.zero_le _,rfl⟩ fun ⟨i,ys⟩ ⟨hi0,hyl⟩ K hL=>?_;simp only at hi0 hyl;dsimp only;refine walk ?_;refine Qe_ rfl (fun hi=>?_) (fun hi=>?_)
 ·have hi1:i<ys.length:=by omega
  refine walk ?_;refine Qat_ (y':=(⟨#[63]⟩:ByteArray)) rfl rfl rfl ⟨rfl,hq63⟩ hi1 ?_;refine walk ?_;exact Zb_ hL (i+1,ys.set i ⟨#[63]⟩) ⟨by simp only;omega,by simp only [List.length_set];exact hyl⟩
 clear hL;refine walk ?_;refine Qc_ (σ:=Nat×List ByteArray) (fun u=>u.1≤dd.length∧u.2.length=dd.length) (fun u=>[(1,.pointer (some ⟨p1,0,none⟩)),(17,I dd.length),(18,I u.1)]) (fun _=>H) (fun u=>ownS rStr 1 16 9 HS2 (.slice d2 dd.length e2) u.2::row p1 50 [I rob,.slice d1 t.length e1,.slice d2 dd.length e2]::R) (fun u=>dd.length - u.1) (0,dd) ⟨Nat.zero_le _,rfl⟩ fun ⟨i,ys⟩ ⟨hi0,hyl⟩ K hL=>?_;simp only at hi0 hyl;dsimp only;refine walk ?_;refine Qe_ rfl (fun hi=>?_) (fun hi=>?_)
 ·have hi1:i<ys.length:=by omega
  refine walk ?_;refine Qat_ (y':=(⟨#[33]⟩:ByteArray)) rfl rfl rfl ⟨rfl,hq33⟩ hi1 ?_;refine walk ?_;exact Zb_ hL (i+1,ys.set i ⟨#[33]⟩) ⟨by simp only;omega,by simp only [List.length_set];exact hyl⟩
 clear hL;refine walk ?_;refine zeh_ ?_;exact ⟨rfl,rfl⟩
structure NV where
  m:Message
  s1:Option Addr×Nat
  s2:Option Addr×Nat
  s3:Option Addr×Nat
  s4:Option Addr×Nat
abbrev NV.cv (v:NV):List Value:=Net.cvM v.s1 v.s2 v.s3 v.s4 v.m
def rNV:Rd NV:=fun _ cs v=>cs=v.cv
instance :RdOk rNV 19:=⟨fun h=>by subst h;rfl,fun h=>by subst h;rfl,fun hl h=>h⟩
instance :RdFlat rNV:=⟨fun h=>h⟩
def qar_ (v:NV):za_:=big (Net.ownM Heap.empty v.s1 v.s2 v.s3 v.s4 v.m)
theorem Qcs_ {H:Heap} {v:NV} {L:List za_}:Sub (Net.ownM H v.s1 v.s2 v.s3 v.s4 v.m++L) (qar_ v::L):=by
 refine Sub.trans (Sub.trans (qr_ H Heap.empty) (Sub.cons (Sub.trans (qr_ H Heap.empty) (Sub.cons (Sub.trans (qr_ H Heap.empty) (Sub.cons (qr_ H Heap.empty))))))) ?_;exact qB_ (B:=Net.ownM Heap.empty v.s1 v.s2 v.s3 v.s4 v.m) (Sub.refl _) fun h hb=>hb
theorem ZbO_ {v:NV} {D H:Heap} (hm:Net.okM v.m) (h:qar_ v D) (hl:D.le H):Qa_ H v.cv v.m:=by
 obtain ⟨f1,f2,f3,⟨f4,f5,f6⟩,f7,f8,f9,f10,f11,f12,f13,f14⟩:=hm;obtain ⟨h1,r1,p1,⟨h2,r2,p2,⟨h3,r3,p3,⟨h4,r4,p4, -, -,l4, -⟩, -,l3,m3⟩, -,l2,m2⟩, -,l1,m1⟩:=h;have hr:=hl;exact ⟨_,_,_,_,rfl,f1,f2,f3,f4,f5,f6,f7,zG_ p1 (zS_ _) (l1.trans hr),zG_ p2 (zS_ _) (l2.trans (m1.trans hr)),f8,f9,f10,f11,zG_ p3 (zS_ _) (l3.trans (m2.trans (m1.trans hr))),f12,f13,f14,zG_ p4 (zS_ _) (l4.trans (m3.trans (m2.trans (m1.trans hr))))⟩
theorem QaI_ {H:Heap}:∀{ys:List NV} {D:Heap},bigL qar_ ys D→D.le H→(∀y∈ys,Net.okM y.m)→∀y∈ys,Qa_ H y.cv y.m
 | [],_,_,_,_,y,hy=>by cases hy
 | x::ys,D,⟨a1,a2,x1,y1,_,le1,le2⟩,hl,ho,y,hy=>by
  rcases List.mem_cons.1 hy with rfl | hy
  ·exact ZbO_ (ho _ (List.mem_cons_self ..)) x1 (le1.trans hl)
  ·exact QaI_ (ys:=ys) y1 (le2.trans hl) (fun y hy=>ho y (List.mem_cons_of_mem _ hy)) y hy
theorem qbP_ {α β:Type} {R:Sx.Rd α} {R':Sx.Rd β} {sz w:Nat} {T:TypeId} {H H':Heap} {f:α→β} {v:Value} {xs:List α} (hw:∀x∈xs,∀c,R H c x→R' H' c (f x)):∀h,ownS R sz w T H v xs h→ownS R' sz w T H' v (xs.map f) h:=fun h ⟨cs,⟨u,v⟩,w⟩=>
 ⟨cs,⟨RL.map hw u,by rw [List.length_map];exact v⟩,by rw [List.length_map];exact w⟩
theorem Zcs_ {W0:World} {H:Heap} {nb:Nat} {s:Value} {ys:List NV} {c:List Value} {m:Message} (h0:Qa_ H c m) (hlt:ys.length<64):
  Ct Tryz.prog 67 #[ptrC nb,.agg c.toArray] W0 H [row nb 156 [s],ownS rNV 19 216 106 H s ys,bigL qar_ ys] (fun r H' B=>H'=H∧∃(s':Value) (y:NV),y.m=m∧B=[row nb 156 [s'],ownS rNV 19 216 106 H s' (ys++[y]),bigL qar_ (ys++[y])]):=by
 refine Ct.go (vs:=[ptrC nb,.agg c.toArray]) fun R=>?_;refine Qs_ s fun base cap e _ _ _=>?_;subst e;refine walk ?_;have hc:=h0;obtain ⟨s1,s2,s3,s4,rfl,f1,f2,f3,f4,f5,f6,f7,k1,k2,f8,f9,f10,f11,k3,f12,f13,f14,k4⟩:=h0;refine qc_ rfl rfl fun p1 _=>?_;refine walk ?_;refine zc_ 9 [row nb 156 [.slice base ys.length cap],row p1 106 (m.cv s1 s2 s3 s4)] ?_
 (first | refine Qt_ 0 rfl rfl ?_ | refine zm_ 0 rfl rfl rfl ?_ | refine Qh_ 0 rfl rfl rfl ?_);(first | refine Qt_ 1 rfl rfl ?_ | refine zm_ 1 rfl rfl rfl ?_ | refine Qh_ 1 rfl rfl rfl ?_);(first | refine Qt_ 2 rfl rfl ?_ | refine zm_ 2 rfl rfl rfl ?_ | refine Qh_ 2 rfl rfl rfl ?_);(first | refine Qt_ 3 rfl rfl ?_ | refine zm_ 3 rfl rfl rfl ?_ | refine Qh_ 3 rfl rfl rfl ?_);(first | refine Qt_ 4 rfl rfl ?_ | refine zm_ 4 rfl rfl rfl ?_ | refine Qh_ 4 rfl rfl rfl ?_);(first | refine Qt_ 5 rfl rfl ?_ | refine zm_ 5 rfl rfl rfl ?_ | refine Qh_ 5 rfl rfl rfl ?_)
 refine zo_ 6 rfl rfl (Net.own_spec hc) fun r1 H1 B hl1 ⟨t1,t2,t3,t4,er,eB,eH⟩=>?_;subst er eB eH;refine ⟨subA,?_⟩;refine Qu_ 7 8 (y:=(⟨m,t1,t2,t3,t4⟩:NV)) rfl rfl rfl rfl (by simp only [zb_];omega) fun b2 c2=>⟨subA,?_⟩;refine qb_ rfl ?_;rw [show ys.length+1=(ys++[(⟨m,t1,t2,t3,t4⟩:NV)]).length by rw [List.length_append];rfl];refine walk ?_;refine finB [row nb 156 [.slice b2 (ys++[(⟨m,t1,t2,t3,t4⟩:NV)]).length c2],ownS rNV 19 216 106 H1 (.slice b2 (ys++[(⟨m,t1,t2,t3,t4⟩:NV)]).length c2) (ys++[⟨m,t1,t2,t3,t4⟩]),bigL qar_ (ys++[⟨m,t1,t2,t3,t4⟩])] ?_ (hs:=?_)
 ·exact ⟨rfl,_,⟨m,t1,t2,t3,t4⟩,rfl,rfl⟩
 ·refine Sub.trans ?_ (Sub.cons (Sub.cons qV_));refine Sub.trans ?_ (Sub.cons (Sub.cons (Qcs_ (H:=H1) (v:=⟨m,t1,t2,t3,t4⟩))));exact subA
theorem qct_ {ms:List Message} {k:Nat} (h:k<ms.length):ms.take (k+1)=ms.take k++[ms[k]]:=List.take_succ_eq_append_getElem h
theorem qaP_ {W0:World} {H:Heap} {p nb:Nat} {nv lv v s:Value} {now:Int} {ms:List Message} (hs:SlR Qa_ 19 H v ms) (hlt:ms.length≤64):
  Ct Tryz.prog 37 #[ptrC p,v] W0 H [wRow p nv nb now lv,row nb 156 [s],ownS rNV 19 216 106 H s []] (fun r H' B=>H'=H∧∃(s':Value) (zs:List NV),zs.map (·.m)=ms∧B=[wRow p nv nb now lv,row nb 156 [s'],ownS rNV 19 216 106 H s' zs,bigL qar_ zs]):=by
 refine Ct.go (vs:=[ptrC p,v]) fun R=>?_;obtain ⟨b0,c0,rfl,_,_⟩:=hs.shape;refine walk ?_;refine Qc_ (σ:=Nat×Value×List NV) (fun u=>u.1≤ms.length∧u.2.2.map (·.m)=ms.take u.1) (fun u=>[(0,ptrC p),(6,.slice b0 ms.length c0),(7,I ms.length),(8,I u.1)]) (fun _=>H) (fun u=>wRow p nv nb now lv::row nb 156 [u.2.1]::ownS rNV 19 216 106 H u.2.1 u.2.2::bigL qar_ u.2.2::R) (fun u=>ms.length - u.1) (0,s,[]) ⟨Nat.zero_le _,rfl⟩ (hs0:=?_) fun ⟨k,s1,ys⟩ ⟨hk0,hys⟩ K hL=>?_
 rotate_left
 ·refine Sub.trans (B:=wRow p nv nb now lv::row nb 156 [s]::ownS rNV 19 216 106 H s []::R) subA ?_;exact Sub.cons (Sub.cons (Sub.cons qE_))
 simp only at hk0 hys;dsimp only;have hyl:ys.length=k:=by have:=congrArg List.length hys;simp only [List.length_map,List.length_take] at this;omega
 refine walk ?_;refine Qe_ rfl (fun hk=>?_) (fun hk=>?_)
 ·have hk1:k<ms.length:=by omega
  have ht:=qct_ hk1;refine walk ?_;refine qe_ rfl rfl hs hk1 fun b o c hr hc=>?_;generalize ms[k]=m at hc ht;have hcc:=hc;obtain ⟨s1',s2',s3',s4',rfl,_,_,_,_,_,_,_,h1,h2,_,_,_,_,h3,_,_,_,h4⟩:=hc;obtain ⟨b1,c1,rfl,_,_⟩:=h1.1.shape;obtain ⟨b2,c2,rfl,_,_⟩:=h2.1.shape;obtain ⟨b3,c3,rfl,_,_⟩:=h3.1.shape;obtain ⟨b4,c4,rfl,_,_⟩:=h4.1.shape;refine zg_ rfl rfl hr rfl ?_;refine Qb_ rfl fun p5 _=>?_;refine walk ?_;refine zc_ 5 [row p5 106 (m.cv (.slice b1 m.Work.Take.length c1) (.slice b2 m.Work.Drop.length c2) (.slice b3 m.Call.Route.Cells.length c3) (.slice b4 m.Reply.Route.Cells.length c4)),wRow p nv nb now lv] ?_;refine qa_ 0 ?_;refine qa_ 1 ?_;refine qa_ 2 ?_;refine qa_ 3 ?_;refine qa_ 4 ?_;refine qb_ rfl ?_;refine Za_ rfl rfl (Zcs_ (W0:=W0) (H:=H) (nb:=nb) (s:=s1) (ys:=ys) hcc (by omega)) fun r1 H1 B hl1 ⟨eH,s',y,hy,eB⟩=>?_;subst eB eH;refine walk ?_;refine Zb_ hL (k+1,s',ys++[y]) ⟨by simp only;omega,?_⟩;simp only;rw [List.map_append,hys,ht,List.map_cons,hy];rfl
 ·clear hL;obtain rfl:k=ms.length:=by omega
  rw [List.take_length] at hys;refine walk ?_;refine ZdT_ [wRow p nv nb now lv,row nb 156 [s1],ownS rNV 19 216 106 H s1 ys,bigL qar_ ys] ?_;exact ⟨rfl,s1,ys,hys,rfl⟩
theorem zaI_ {H:Heap}:∀{ys:List MV} {D:Heap},bigL Zau_ ys D→D.le H→∀y∈ys,SlB rStr 1 16 H (.slice y.a.1 y.m.Work.Take.length y.a.2) y.m.Work.Take∧SlB rStr 1 16 H (.slice y.b.1 y.m.Work.Drop.length y.b.2) y.m.Work.Drop
 | [],_,_,_,y,hy=>by cases hy
 | x::ys,D,⟨a1,a2,x1,y1,_,le1,le2⟩,hl,y,hy=>by
  rcases List.mem_cons.1 hy with rfl | hy
  ·exact Zbf_ (v:=y.wv) x1 (le1.trans hl)
  ·exact zaI_ (ys:=ys) y1 (le2.trans hl) y hy
theorem v33_ {P:Prop} (h:P:=by
 refine Zi_ 21 rfl rfl rfl rfl (by simp) rfl ⟨subA,?_⟩;refine qa_ 22 ?_;refine qa_ 23 ?_;refine qb_ rfl ?_;refine walk ?_;refine qL_ hK (vs,v1,ys,ep,pv,0) ⟨hws,hrb,.inr ⟨hne,hys,hok,rfl⟩⟩ (hs:=?_);dsimp only;rw [if_neg hne];show Sub _ (ownS rMV 19 216 106 H1 v1 ys::bigL Zau_ ys::cRow es[i].cp mb (qd_ (s0C node) w.now (wsV vs))::cMap mb [⟨(newX (s0C node)).k,ep,pv,zf_ w.now (wsV vs)⟩]::rawX ⟨(newX (s0C node)).k,ep,pv,zf_ w.now (wsV vs)⟩::bigL ownW (vs.map (·.2))::ownS rInt 1 8 3 H1 pv (vs.map (·.1))::_);exact subA):P:=h
theorem v44_ {P:Prop} (h:P:=by
 refine Zi_ 21 rfl rfl rfl rfl (by simp) rfl ⟨subA,?_⟩;refine qa_ 22 ?_;refine qa_ 23 ?_;refine qb_ rfl ?_;refine walk ?_;refine qL_ hK ([],nilS,[],0,nilS,4) ⟨hws,hrb,.inl ⟨rfl,rfl,rfl⟩⟩ (hs:=?_);dsimp only;rw [if_pos rfl];show Sub _ (cRow es[i].cp mb (s0C node)::cMap mb []::_);exact subA):P:=h
theorem qcs_ {W0:World} {H:Heap} {p nb mb i:Nat} {node:Int} {nv lv sv s:Value} {w:PW} {es:List NE} {m:Move} (hs:SlB Qi_ 3 56 H s m.Works) (hnow:0≤w.now∧w.now≤1073741824) (hk:fits m.Kind) (ha:fits m.A) (k1:m.Kind=1) (hai:m.A=i) (hln:es.length=w.ns.length) (hil:i<es.length) (hwl:m.Works.length≤es.length) (hwn:es.length≤60) (hfn:fits node):
  Ct Tryz.prog 14 #[ptrC p,.agg (m.cv s).toArray] W0 H [wRow p nv nb w.now lv,wNs nv es,cRow es[i].cp mb (s0C node),cMap mb [],row nb 156 [sv],ownS rNV 19 216 106 H sv []]
   (fun r H' B=>H'=H∧∃vs:List (Int×WV),pqV vs=works0 0 m.Works∧(∀q∈vs,fits q.2.w.Robot)∧((vs=[]∧r=I 4∧∃s':Value,B=[wRow p nv nb w.now lv,wNs nv es,cRow es[i].cp mb (s0C node),cMap mb [],row nb 156 [s'],ownS rNV 19 216 106 H s' []])∨
    (vs≠[]∧r=I 0∧∃(s':Value) (zs:List NV) (ep:Nat) (pv:Value),zs.map (·.m)=qi_ node (newX (s0C node)) (zf_ w.now (wsV vs))∧(∀z∈zs,Net.okM z.m)∧zs.length≤64∧
     B=[wRow p nv nb w.now lv,wNs nv es,cRow es[i].cp mb (qd_ (s0C node) w.now (wsV vs)),cMap mb [⟨(newX (s0C node)).k,ep,pv,zf_ w.now (wsV vs)⟩],rawX ⟨(newX (s0C node)).k,ep,pv,zf_ w.now (wsV vs)⟩,bigL ownW (vs.map (·.2)),ownS rInt 1 8 3 H pv (vs.map (·.1)),row nb 156 [s'],ownS rNV 19 216 106 H s' zs,bigL qar_ zs]))):=by
 have hb:okMv w m.Kind m.A m.Works.length:=by unfold okMv qt_;omega
 obtain ⟨b0,c0,rfl,_,_⟩:=hs.1.shape;refine Ct.go (vs:=[ptrC p,.agg (m.cv (.slice b0 m.Works.length c0)).toArray]) fun R=>?_;refine Qs_ nv fun base cap e q1 q2 q3=>?_;subst e;refine walk ?_;refine qc_ rfl rfl fun p3 _=>?_;refine walk ?_;refine Qg_ rfl rfl (zaB_ (W0:=W0) (H:=H) (p:=p) (nb:=nb) (cap:=cap) (base:=base) (lv:=lv) (w:=w) (m:=m) hln hs hnow hk ha) ?_;rw [decide_eq_true hb];haveI hin:NatOf m.A i:=⟨hai⟩;refine walk ?_;refine ZcP_ (.slice base es.length cap) (by omega) fun b2 cap2 cs sp e q1 q2 q3 q4 q5 q6=>?_
 cases e
 obtain rfl:=Qdf_.1 q5;have hcp:(neC es++sp)[0+(i:Int).toNat*3+1]?=some (ptrC es[i].cp):=by rw [Nat.zero_add,Int.toNat_natCast];exact qcb_ (k:=1) hil rfl
 have hnf:fits w.now:=by unfold fits;omega
 refine qaU_ (σ:=List (Int×WV)×Value×List MV×Nat×Value×Int) (fun u=>pqV u.1=works0 0 m.Works∧(∀q∈u.1,fits q.2.w.Robot)∧((u.1=[]∧u.2.1=nilS∧u.2.2.2.2.2=4)∨(u.1≠[]∧u.2.2.1.map (·.m)=qi_ node (newX (s0C node)) (zf_ w.now (wsV u.1))∧(∀y∈u.2.2.1,OkMV y)∧u.2.2.2.2.2=0))) (fun u=>[(0,ptrC p),(6,u.2.1),(7,I u.2.2.2.2.2)]) (fun _=>H)
  (fun u=>(if u.1=[] then [cRow es[i].cp mb (s0C node),cMap mb []] else [ownS rMV 19 216 106 H u.2.1 u.2.2.1,bigL Zau_ u.2.2.1,cRow es[i].cp mb (qd_ (s0C node) w.now (wsV u.1)),cMap mb [⟨(newX (s0C node)).k,u.2.2.2.1,u.2.2.2.2.1,zf_ w.now (wsV u.1)⟩],rawX ⟨(newX (s0C node)).k,u.2.2.2.1,u.2.2.2.2.1,zf_ w.now (wsV u.1)⟩,bigL ownW (u.1.map (·.2)),ownS rInt 1 8 3 H u.2.2.2.2.1 (u.1.map (·.1))])++row b2 92 (neC es++sp)::wRow p (.slice (some ⟨b2,0,none⟩) es.length cap) nb w.now lv::row nb 156 [sv]::ownS rNV 19 216 106 H sv []::R) (fun K hK=>?_) fun ⟨vs,v1,ys,ep,pv,ee⟩ ⟨hws,hrb,hcase⟩=>?_
 ·refine zc_ 24 [row b2 92 (neC es++sp),row p3 37 (m.cv (.slice b0 m.Works.length c0)),wRow p (.slice (some ⟨b2,0,none⟩) es.length cap) nb w.now lv] ?_;refine qa_ 0 ?_;refine qa_ 1 ?_;refine qa_ 2 ?_;refine qa_ 3 ?_;refine qa_ 4 ?_;refine qa_ 5 ?_;refine qdd_ 6 rfl rfl rfl (j:=i) hil ?_;refine qa_ 7 ?_;refine ZaJ_ 8 rfl rfl rfl hcp ?_;refine qa_ 9 ?_;refine qa_ 10 ?_;refine qa_ 11 ?_;refine qa_ 12 ?_;refine qa_ 13 ?_;refine qa_ 14 ?_;have hcall:∀p5:Nat,p5=p5→_:=fun _ _=>(ZbP_ (W0:=W0) (H:=H) (p:=es[i].cp) (mb:=mb) (node:=node) (now:=w.now) hfn hnf hs (by omega));refine QaJ_ (A:=[row es[i].cp 160 [I node,I 1,I 0,.map (some mb)],cMap mb []]) 15 20 rfl rfl rfl (hcall 0 rfl) (fun r1 H1 B hl1 ⟨eH,vs,hws,hrb,hcase⟩=>?_) (fun p5 _=>?_)
  ·subst eH;rcases hcase with ⟨hw0,er,eB⟩ | ⟨hne,v1,ys,ep,pv,er,hys,hok,eB⟩
   ·subst er eB hw0;refine ⟨subA,?_⟩;refine qa_ 16 ?_;refine Qd_ 17 rfl rfl rfl rfl ?_;refine Qd_ 18 rfl rfl rfl rfl ?_;refine Qd_ 19 rfl rfl rfl rfl ?_;refine Zn_ 20 rfl rfl fun p5 _=>?_;exact v44_
   ·subst er eB;refine ⟨subA,?_⟩;refine qa_ 16 ?_;refine Qd_ 17 rfl rfl rfl rfl ?_;refine Qd_ 18 rfl rfl rfl rfl ?_;refine Qd_ 19 rfl rfl rfl rfl ?_;refine Zn_ 20 rfl rfl fun p5 _=>?_;exact v33_
  ·refine ze_ (A:=[row es[i].cp 160 [I node,I 1,I 0,.map (some mb)],cMap mb []]) 15 rfl rfl rfl (hcall 0 rfl) fun r1 H1 B hl1 ⟨eH,vs,hws,hrb,hcase⟩=>?_;subst eH;rcases hcase with ⟨hw0,er,eB⟩ | ⟨hne,v1,ys,ep,pv,er,hys,hok,eB⟩
   ·subst er eB hw0;refine ⟨subA,?_⟩;refine qa_ 16 ?_;refine Qd_ 17 rfl rfl rfl rfl ?_;refine Qd_ 18 rfl rfl rfl rfl ?_;refine Qd_ 19 rfl rfl rfl rfl ?_;exact v44_
   ·subst er eB;refine ⟨subA,?_⟩;refine qa_ 16 ?_;refine Qd_ 17 rfl rfl rfl rfl ?_;refine Qd_ 18 rfl rfl rfl rfl ?_;refine Qd_ 19 rfl rfl rfl rfl ?_;exact v33_
 simp only at hws hrb hcase;dsimp only;rcases hcase with ⟨hv0,hn1,he4⟩ | ⟨hne,hys,hok,he0⟩
 ·subst hv0 hn1 he4;rw [if_pos rfl];refine ex_L (L':=row nb 156 [sv]::ownS rNV 19 216 106 H sv []::cRow es[i].cp mb (s0C node)::cMap mb []::row b2 92 (neC es++sp)::wRow p (.slice (some ⟨b2,0,none⟩) es.length cap) nb w.now lv::R) ?_ ?_
  ·show Sub (cRow es[i].cp mb (s0C node)::cMap mb []::row b2 92 (neC es++sp)::wRow p (.slice (some ⟨b2,0,none⟩) es.length cap) nb w.now lv::row nb 156 [sv]::ownS rNV 19 216 106 H sv []::R) _;exact subA
  refine walk ?_;refine Za_ rfl rfl (qaP_ (W0:=W0) (H:=H) (p:=p) (nb:=nb) (nv:= .slice (some ⟨b2,0,none⟩) es.length cap) (lv:=lv) (v:=nilS) (s:=sv) (now:=w.now) (ms:=[]) (show SlB Qa_ 19 216 H nilS [] from SlB.nil).1 (by simp)) fun r3 H3 B hl3 ⟨eH,s',zs,hzs,eB⟩=>?_;obtain rfl:=List.map_eq_nil_iff.1 hzs;subst eB eH;refine walk ?_;refine finB [wRow p (.slice (some ⟨b2,0,none⟩) es.length cap) nb w.now lv,wNs (.slice (some ⟨b2,0,none⟩) es.length cap) es,cRow es[i].cp mb (s0C node),cMap mb [],row nb 156 [s'],ownS rNV 19 216 106 H3 s' []] ?_ (hs:=?_)
  ·exact ⟨rfl,[],hws,hrb,.inl ⟨rfl,rfl,s',rfl⟩⟩
  ·refine Sub.trans (B:=row b2 92 (neC es++sp)::wRow p (.slice (some ⟨b2,0,none⟩) es.length cap) nb w.now lv::cRow es[i].cp mb (s0C node)::cMap mb []::row nb 156 [s']::ownS rNV 19 216 106 H3 s' []::R) subA ?_;refine Sub.trans (Zdf_ q1 q2 (by rw [List.length_append,Zah_];rw [List.length_append,Zah_] at q4;exact q4) q6) ?_;exact subA
 ·subst he0;rw [if_neg hne];refine ex_L (L':=ownS rMV 19 216 106 H v1 ys::bigL Zau_ ys::row nb 156 [sv]::ownS rNV 19 216 106 H sv []::cRow es[i].cp mb (qd_ (s0C node) w.now (wsV vs))::cMap mb [⟨(newX (s0C node)).k,ep,pv,zf_ w.now (wsV vs)⟩]::rawX ⟨(newX (s0C node)).k,ep,pv,zf_ w.now (wsV vs)⟩::bigL ownW (vs.map (·.2))::ownS rInt 1 8 3 H pv (vs.map (·.1))::row b2 92 (neC es++sp)::wRow p (.slice (some ⟨b2,0,none⟩) es.length cap) nb w.now lv::R) ?_ ?_
  ·show Sub (ownS rMV 19 216 106 H v1 ys::bigL Zau_ ys::cRow es[i].cp mb (qd_ (s0C node) w.now (wsV vs))::cMap mb [⟨(newX (s0C node)).k,ep,pv,zf_ w.now (wsV vs)⟩]::rawX ⟨(newX (s0C node)).k,ep,pv,zf_ w.now (wsV vs)⟩::bigL ownW (vs.map (·.2))::ownS rInt 1 8 3 H pv (vs.map (·.1))::row b2 92 (neC es++sp)::wRow p (.slice (some ⟨b2,0,none⟩) es.length cap) nb w.now lv::row nb 156 [sv]::ownS rNV 19 216 106 H sv []::R) _;exact subA
  have hyl:ys.length≤60:=by
   have e1:=congrArg List.length hys;rw [List.length_map] at e1
   have e2:(qi_ node (newX (s0C node)) (zf_ w.now (wsV vs))).length≤(wsV vs).length:=by
    unfold qi_;rw [List.length_map];refine Nat.le_trans (List.length_filter_le _ _) ?_;show ((wsV vs).map (·.1)).length≤_;rw [List.length_map];exact Nat.le_refl _
   have e3:(wsV vs).length≤m.Works.length:=by
    have h1:=zM_ (i:=0) (l:=m.Works);rw [←hws] at h1;unfold pqV at h1;unfold wsV;simp only [List.length_map] at h1⊢;omega
   omega
  refine Qs_ v1 fun bv cv' e _ _ _=>?_;subst e;refine Zbn_ (.slice bv ys.length cv') fun D1 hD1 hdj1 hle1 hsv=>?_;refine QbT_ (A:=bigL Zau_ ys) (by repeat (first | exact Has.here | apply Has.there)) fun D2 hD2 hdj2 hle2 hD2l=>?_
  have hrr:SlR Qa_ 19 (qk_ (qk_ H D1) D2) (.slice bv ys.length cv') (ys.map (·.m)):=zcH_ (R:=rMV) (R':=Qa_) (f:=(·.m)) (fun y hy c hc=>by
   obtain rfl:c=y.cv:=hc;obtain ⟨g1,g2⟩:=zaI_ hD2 hD2l y hy;exact hok y hy _ g1 g2) (hsv.mono hle2).1
  refine ex_L (L':=ownS rNV 19 216 106 (qk_ (qk_ H D1) D2) sv []::row nb 156 [sv]::cRow es[i].cp mb (qd_ (s0C node) w.now (wsV vs))::cMap mb [⟨(newX (s0C node)).k,ep,pv,zf_ w.now (wsV vs)⟩]::rawX ⟨(newX (s0C node)).k,ep,pv,zf_ w.now (wsV vs)⟩::bigL ownW (vs.map (·.2))::ownS rInt 1 8 3 H pv (vs.map (·.1))::row b2 92 (neC es++sp)::wRow p (.slice (some ⟨b2,0,none⟩) es.length cap) nb w.now lv::R) ?_ ?_
  ·refine Sub.trans ?_ (qr_ H (qk_ (qk_ H D1) D2));exact tsA
  refine walk ?_;refine Za_ rfl rfl (qaP_ (W0:=W0) (H:=qk_ (qk_ H D1) D2) (p:=p) (nb:=nb) (nv:= .slice (some ⟨b2,0,none⟩) es.length cap) (lv:=lv) (v:= .slice bv ys.length cv') (s:=sv) (now:=w.now) (ms:=ys.map (·.m)) hrr (by rw [List.length_map];omega)) fun r3 H3 B hl3 ⟨eH,s',zs,hzs,eB⟩=>?_;subst eB eH;refine qak_ hD2 hdj2 (.refl _) ?_;refine qak_ hD1 hdj1 (.refl _) ?_;refine walk ?_;refine finB [wRow p (.slice (some ⟨b2,0,none⟩) es.length cap) nb w.now lv,wNs (.slice (some ⟨b2,0,none⟩) es.length cap) es,cRow es[i].cp mb (qd_ (s0C node) w.now (wsV vs)),cMap mb [⟨(newX (s0C node)).k,ep,pv,zf_ w.now (wsV vs)⟩],rawX ⟨(newX (s0C node)).k,ep,pv,zf_ w.now (wsV vs)⟩,bigL ownW (vs.map (·.2)),ownS rInt 1 8 3 H pv (vs.map (·.1)),row nb 156 [s'],ownS rNV 19 216 106 H s' zs,bigL qar_ zs] ?_ (hs:=?_)
  ·refine ⟨rfl,vs,hws,hrb,.inr ⟨hne,rfl,s',zs,ep,pv,by rw [hzs,hys],fun z hz=>?_,by have:=congrArg List.length hzs;simp only [List.length_map] at this;omega,rfl⟩⟩;have hzm:z.m∈ys.map (·.m):=by rw [←hzs];exact List.mem_map.2 ⟨z,hz,rfl⟩
   obtain ⟨c,hc⟩:=zaZ_ hrr hzm;exact Net.rMessage_ok hc
  ·refine Sub.trans (B:=ownS rNV 19 216 106 (qk_ (qk_ H D1) D2) s' zs::row b2 92 (neC es++sp)::wRow p (.slice (some ⟨b2,0,none⟩) es.length cap) nb w.now lv::cRow es[i].cp mb (qd_ (s0C node) w.now (wsV vs))::cMap mb [⟨(newX (s0C node)).k,ep,pv,zf_ w.now (wsV vs)⟩]::rawX ⟨(newX (s0C node)).k,ep,pv,zf_ w.now (wsV vs)⟩::bigL ownW (vs.map (·.2))::ownS rInt 1 8 3 H pv (vs.map (·.1))::row nb 156 [s']::bigL qar_ zs::R) tsA ?_;refine Sub.trans (qr_ (qk_ (qk_ H D1) D2) H) ?_;refine Sub.trans (Sub.cons (Zdf_ q1 q2 (by rw [List.length_append,Zah_];rw [List.length_append,Zah_] at q4;exact q4) q6)) ?_;exact tsA
end Go.Proofs.YtlflbkpmfhhikaaGreatDoor
