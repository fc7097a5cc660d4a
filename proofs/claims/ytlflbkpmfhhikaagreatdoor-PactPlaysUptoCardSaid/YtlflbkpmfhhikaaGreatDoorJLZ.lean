/- The reference's At, Locked, hold. -/
import Derived.Test.YtlflbkpmfhhikaaGreatDoorJKD
import Derived.Test.YtlflbkpmfhhikaaGreatDoorJLO
import Derived.Test.YtlflbkpmfhhikaaGreatDoorJQA
set_option maxHeartbeats 16000000
set_option maxRecDepth 100000
set_option linter.unusedVariables false
set_option linter.unusedSimpArgs false
namespace Go.Proofs.YtlflbkpmfhhikaaGreatDoor
open Go Go.Sx Go.Proofs
def QbE_ (e:Int):Int:=if e=2 then 3 else if e=1 then 2 else if e=140 then 1 else 0
def Qbo_ (a e:Int):Int:=if QbE_ a<QbE_ e then e else a
theorem qbS_ {W0:World} {H:Heap} {e:Int}:
  Ct Tryz.prog 138 #[I e] W0 H [] (fun r H' B=>r=I (QbE_ e)∧B=[]∧H'=H):=by
 refine Ct.go (vs:=[I e]) fun R=>?_;unfold QbE_;refine walk ?_;refine ze_ rfl (fun h1=>?_) (fun h1=>?_)
 ·refine walk ?_;refine fin0 ?_;exact ⟨by rw [if_pos h1],rfl,rfl⟩
 refine walk ?_;refine ze_ rfl (fun h2=>?_) (fun h2=>?_)
 ·refine walk ?_;refine fin0 ?_;exact ⟨by rw [if_neg h1,if_pos h2],rfl,rfl⟩
 refine walk ?_;refine ze_ rfl (fun h3=>?_) (fun h3=>?_)
 ·refine walk ?_;refine fin0 ?_;exact ⟨by rw [if_neg h1,if_neg h2,if_pos h3],rfl,rfl⟩
 refine walk ?_;refine fin0 ?_;exact ⟨by rw [if_neg h1,if_neg h2,if_neg h3],rfl,rfl⟩
theorem qbg_ {W0:World} {H:Heap} {p:Nat} {a e:Int}:
  Ct Tryz.prog 137 #[I e,.pointer (some ⟨p,0,none⟩)] W0 H [row p 30 [I a]] (fun r H' B=>r= .tuple #[]∧B=[row p 30 [I (Qbo_ a e)]]∧H'=H):=by
 refine Ct.go (vs:=[I e,.pointer (some ⟨p,0,none⟩)]) fun R=>?_;unfold Qbo_;refine walk ?_;refine zc_ 5 [row p 30 [I a]] ?_;refine qa_ 0 ?_;refine qa_ 2 ?_;refine qo_ 1 rfl rfl rfl qbS_ ?_;refine qo_ 3 rfl rfl rfl qbS_ ?_;refine qa_ 4 ?_;refine qb_ rfl ?_;refine walk ?_;refine ze_ rfl (fun h1=>?_) (fun h1=>?_)
 ·refine walk ?_;rw [if_pos h1];refine ZdB_ [row p 30 [I e]] ?_;exact v50_
 ·refine walk ?_;rw [if_neg h1];refine ZdB_ [row p 30 [I a]] ?_;exact v50_
structure Cnt (l:List K3) (m:List (K3×Int)):Prop where
  keys:∀k,k∈m.map (·.1)↔k∈l
  le:m.length≤l.length
  nd:m.length=l.length↔l.Nodup
  val:∀k v,mget k m=some v→0≤v∧v≤l.length
theorem Cnt.snoc {l:List K3} {m:List (K3×Int)} (h:Cnt l m) (hn:(m.map (·.1)).Nodup) (k:K3):Cnt (l++[k]) (mset k ((mget k m).getD 0+1) m):=by
 have hl:=ZF_ (k:=k) (v:=(mget k m).getD 0+1) (m:=m);have hk:=ZaC_ k ((mget k m).getD 0+1) m
 have hv:0≤(mget k m).getD 0∧(mget k m).getD 0≤l.length:=by
  cases hg:mget k m with
  | none=>simp
  | some v=>exact h.val k v hg
 have hle:=h.le;refine ⟨fun k'=>?_,?_,?_,fun k' v hg=>?_⟩
 ·rw [hk,List.mem_append,List.mem_singleton];split
  ·next hm=>rw [h.keys];exact ⟨.inl,fun e=>e.elim id fun e=>by subst e;exact (h.keys _).1 hm⟩
  ·rw [List.mem_append,List.mem_singleton,h.keys]
 ·rw [hl,List.length_append];simp only [List.length_cons,List.length_nil];split<;>omega
 ·rw [hl,List.length_append,List.nodup_append];simp only [List.length_cons,List.length_nil];by_cases hm:k∈m.map (·.1)
  ·rw [if_pos hm];constructor
   ·omega
   ·rintro ⟨_,_,h3⟩;exact absurd rfl (h3 k ((h.keys k).1 hm) k (by simp))
  ·rw [if_neg hm];have e:=h.nd;constructor
   ·intro hh;refine ⟨e.1 (by omega),by simp,fun a ha b hb hab=>?_⟩;rw [List.mem_singleton] at hb;subst hb hab;exact hm ((h.keys _).2 ha)
   ·rintro ⟨h1,_⟩;have:=e.2 h1;omega
 ·rw [Qe_] at hg;rw [List.length_append];simp only [List.length_cons,List.length_nil];split at hg
  ·cases hg;omega
  ·have:=h.val k' v hg;omega
def dupX (l:List Rec):Prop:=¬(l.map (·.Txn.k)).Nodup
instance {l:List Rec}:Decidable (dupX l):=by unfold dupX;infer_instance
theorem v60_ {P:Prop} (h:P:=by
 refine qb_ rfl ?_;refine ZcM_ (RV:=rInt) (u:=(mget (xa,xb,xc) m).getD 0+1) (cs:=[I ((mget (xa,xb,xc) m).getD 0+1)]) rfl rfl ⟨rfl,hadd⟩ (by repeat (first | exact Has.here | apply Has.there)) ?_;refine walk ?_;exact Zb_ hL (k+1,_) ⟨by simp only;omega,hC2⟩):P:=h
theorem zcm_ {W0:World} {H:Heap} {v:Value} {l:List Rec} (h0:SlR rRec 9 H v l) (hn:l.length≤1000000):
  Ct Tryz.prog 139 #[v] W0 H [] (fun r H' B=>r= .bool (decide (dupX l))∧B=[]):=by
 refine Ct.go (vs:=[v]) fun R=>?_;obtain ⟨b0,c0,rfl,hc0,hd0⟩:=h0.shape;refine walk ?_;refine Qt_ ek3 rInt false rfl fun mb _=>?_;refine walk ?_;refine Qc_ (σ:=Nat×List (K3×Int)) (fun u=>u.1≤l.length∧Cnt ((l.map (·.Txn.k)).take u.1) u.2) (fun u=>[(0,.slice b0 l.length c0),(3,.map (some mb)),(7,.slice b0 l.length c0),(8,I l.length),(9,I u.1)]) (fun _=>H) (fun u=>mapO ek3 rInt false H mb u.2::R) (fun u=>l.length - u.1) (0,[]) ⟨Nat.zero_le _,⟨by simp,by simp,by simp,fun k v h=>by cases h⟩⟩ fun ⟨k,m⟩ ⟨hk0,hC⟩ K hL=>?_;simp only at hk0 hC;dsimp only;refine Qau_ (A:=mapO ek3 rInt false H mb m) (by repeat (first | exact Has.here | apply Has.there)) (fun h ho=>zaj_ ho) fun hkw=>?_;refine walk ?_;refine ze_ rfl (fun hk=>?_) (fun hk=>?_)
 ·have hk1:k<l.length:=by omega
  have hk2:k<(l.map (·.Txn.k)).length:=by simpa using hk1
  have ht:=List.take_succ_eq_append_getElem hk2;have hgk:(l.map (·.Txn.k))[k]=l[k].Txn.k:=by simp
  have hC2:=hC.snoc hkw.2 l[k].Txn.k;rw [hgk] at ht;rw [←ht] at hC2
  have hval:0≤(mget l[k].Txn.k m).getD 0∧(mget l[k].Txn.k m).getD 0≤1000000:=by
   cases hg:mget l[k].Txn.k m with
   | none=>simp
   | some v=>
    have:=hC.val _ _ hg;rw [List.length_take] at this;simp only [Option.getD_some];omega
  refine walk ?_;refine Zd_ rfl rfl h0 hk1 fun b o c hr hc=>?_;obtain ⟨s1,s2,s3,rfl,g1,g2,g3,g4,g5,g6,g7,g8⟩:=hc;generalize l[k]=q at hr g1 g2 g3 g4 g5 g6 g7 g8 hval hC2;obtain ⟨qk,⟨xa,xb,xc⟩,⟨wr,wt,wd⟩,qy,qp⟩:=q;dsimp only at hr g1 g2 g3 g4 g5 g6 g7 g8 hval hC2;obtain ⟨sb1,sc1,rfl,_,_⟩:=g6.1.shape;obtain ⟨sb2,sc2,rfl,_,_⟩:=g7.1.shape;obtain ⟨sb3,sc3,rfl,_,_⟩:=g8.1.shape;change HRow H b o [I qk,I xa,I xb,I xc,I wr,.slice sb1 wt.length sc1,.slice sb2 wd.length sc2,.bool qy,.slice sb3 qp.length sc3] at hr;refine zf_ rfl rfl hr rfl ?_;refine zb_ rfl fun p5 _=>?_;refine walk ?_;refine zc_ 3 [row p5 53 [I qk,I xa,I xb,I xc,I wr,.slice sb1 wt.length sc1,.slice sb2 wd.length sc2,.bool qy,.slice sb3 qp.length sc3]] ?_;refine qa_ 0 ?_;refine qa_ 1 ?_;refine qa_ 2 ?_;refine qaj_ 7 [] ?_;change 0≤(mget (xa,xb,xc) m).getD 0∧(mget (xa,xb,xc) m).getD 0≤1000000 at hval;change Cnt _ (mset (xa,xb,xc) ((mget (xa,xb,xc) m).getD 0+1) m) at hC2;have hadd:fits ((mget (xa,xb,xc) m).getD 0+1):=by unfold fits;omega
  refine qaC_ 3 5 rfl rfl ((zdQ_ (k:=(xa,xb,xc)) (ek:=ek3) (d:=(0:Int)) (val:=fun x=> .int .i64 x) rfl rfl (by repeat (first | exact Has.here | apply Has.there))).toW ⟨.refl _,subA,?_⟩) (Qbe_ (ky:=(xa,xb,xc)) (z:=I 0) rfl rfl (by repeat (first | exact Has.here | apply Has.there)) fun v st=>⟨.refl _,subA,?_⟩)
  ·refine qa_ 4 ?_;refine zt_ 5 rfl (Qbe_ (ky:=(xa,xb,xc)) (z:=I 0) rfl rfl (by repeat (first | exact Has.here | apply Has.there)) fun v st=>⟨.refl _,subA,?_⟩);refine zd_ 6 rfl rfl rfl rfl ?_;exact v60_
  ·refine zd_ 6 rfl rfl rfl rfl ?_;refine zt_ 3 rfl ((Zeo_ (ky:=(xa,xb,xc)) (ek:=ek3) (d:=(0:Int)) (val:=fun x=> .int .i64 x) rfl rfl (by repeat (first | exact Has.here | apply Has.there))).toW ⟨.refl _,subA,?_⟩);refine qa_ 4 ?_;exact v60_
 ·clear hL;obtain rfl:k=l.length:=by omega
  rw [List.take_of_length_le (by simp)] at hC;refine walk ?_;refine QbB_ rfl rfl (by repeat (first | exact Has.here | apply Has.there)) ?_;refine walk ?_;refine fin0 ?_;refine ⟨bdec ?_,rfl⟩;have h1:=hC.nd;have h2:=hC.le;rw [List.length_map] at h1 h2;unfold dupX;rw [←h1];omega
abbrev nilP:Value:= .pointer none
def ZM_:List (ByteArray×Int)→Int→List Hold→List (ByteArray×Int)×Int
  | m,a,[]=>(m,a)
  | m,a,h::l=>ZM_ (mset h.Key h.Robot m) (if (mget h.Key m).isSome=true then Qbo_ a 2 else a) l
inductive LoadP:TS→Int→List Rec→TS→Int→Prop
  | nil {s:TS} {a:Int}:LoadP s a [] s a
  | cons {s s':TS} {a a':Int} {r:Rec} {l:List Rec} {cs:List Value} (h:LoadP (if QE_ s r.Txn r.Work=0 then zU_ s r.Txn r.Work cs else s) (Qbo_ a (QE_ s r.Txn r.Work)) l s' a'):LoadP s a (r::l) s' a'
def zaf_ (l:List Hold):TS:=⟨(ZM_ [] 0 l).1,[],[]⟩
def qcm_ (a:Int) (prep:List Rec):Int:=if dupX prep then Qbo_ a 2 else a
theorem v105_ {P:Prop} (h:P:=by
 refine walk ?_;refine finB [tabO _ p s] ?_;refine ⟨s,e,p,hLP,?_⟩;rw [hE,if_pos hz'];exact ⟨rfl,rfl⟩):P:=h
theorem v116_ {P:Prop} (h:P:=by
 refine walk ?_;refine fin0 ?_;refine ⟨s,e,0,hLP,?_⟩;rw [hE,if_neg hz];exact ⟨rfl,rfl⟩):P:=h
theorem v43_ {P:Prop} (h:P:=by
 refine walk ?_;refine zc_ 8 [tRow p hb lb wb,row p10 42 [.string qk,I qr]] ?_;refine qa_ 0 ?_;refine qa_ 1 ?_;refine qa_ 2 ?_;refine qa_ 3 ?_;refine qa_ 4 ?_;refine qa_ 5 ?_;refine qa_ 6 ?_;refine qa_ 7 ?_;refine qb_ rfl ?_;refine Zu_ (RV:=rInt) (ag:=false) (cs:=[I qr]) (u:=qr) rfl rfl ⟨rfl,hfr⟩ (by repeat (first | exact Has.here | apply Has.there)) ?_;refine walk ?_;exact Zb_ hL (k+1,_,_) ⟨by simp only;omega,hF⟩):P:=h
theorem Qdo_ {W0:World} {H:Heap} {v1 v2:Value} {holds:List Hold} {prep:List Rec} (h1:SlB Zae_ 2 24 H v1 holds) (h2:SlB rRec 9 120 H v2 prep) (hp:prep.length≤1000000) (hw:∀q∈prep,q.Work.ks.length*16≤Qb_):
  Ct Tryz.prog 106 #[v1,v2] W0 H [] (fun r H' B=>∃s' a' p,LoadP (zaf_ holds) (ZM_ [] 0 holds).2 prep s' a'∧
   if qcm_ a' prep=0 then r= .tuple #[.pointer (some ⟨p,0,none⟩),I 0]∧B=[tabO H' p s'] else r= .tuple #[nilP,I (qcm_ a' prep)]∧B=[]):=by
 refine Ct.go (vs:=[v1,v2]) fun R=>?_;obtain ⟨b1,c1,rfl,hc1,hd1⟩:=h1.1.shape;obtain ⟨b2,c2,rfl,hc2,hd2⟩:=h2.1.shape;refine walk ?_;refine Za_ (vs:=[]) rfl rfl new_spec fun r1 H1 B hl1 ⟨p,er,eB,eH⟩=>?_;subst er eB eH;refine walk ?_;refine zb_ rfl fun p7 _=>?_;refine walk ?_;refine Zg_ (A:=tabO H1 p ⟨[],[],[]⟩) (σ:=Nat×Nat×Nat) (B:=fun a=>[tRow p a.1 a.2.1 a.2.2,hMap H1 a.1 ⟨[],[],[]⟩,lMap H1 a.2.1 ⟨[],[],[]⟩,wMap H1 a.2.2 ⟨[],[],[]⟩]) (p:=fun _=>True) (by repeat (first | exact Has.here | apply Has.there)) (fun h ⟨hb,lb,wb,hbig⟩=>⟨(hb,lb,wb),trivial,hbig⟩) fun ⟨hb,lb,wb⟩ _=>?_;dsimp only
 refine Qc_ (σ:=Nat×List (ByteArray×Int)×Int) (fun u=>u.1≤holds.length∧ZM_ u.2.1 u.2.2 (holds.drop u.1)=ZM_ [] 0 holds) (fun u=>[(1,.slice b2 prep.length c2),(6,.pointer (some ⟨p,0,none⟩)),(7,.pointer (some ⟨p7,0,none⟩)),(8,.func (.func 137) #[] #[.pointer (some ⟨p7,0,none⟩)]),(17,.slice b1 holds.length c1),(18,I holds.length),(19,I u.1)]) (fun _=>H1)
  (fun u=>mapO Value.string rInt false H1 hb u.2.1::row p7 30 [I u.2.2]::tRow p hb lb wb::lMap H1 lb ⟨[],[],[]⟩::wMap H1 wb ⟨[],[],[]⟩::R) (fun u=>holds.length - u.1) (0,[],0) ⟨Nat.zero_le _,rfl⟩ fun ⟨k,m,a⟩ ⟨hk0,hF⟩ K hL=>?_
 simp only at hk0 hF;dsimp only;refine walk ?_;refine ze_ rfl (fun hk=>?_) (fun hk=>?_)
 ·have hk1:k<holds.length:=by omega
  rw [List.drop_eq_getElem_cons hk1] at hF;rw [ZM_] at hF;refine walk ?_;refine Zd_ rfl rfl h1.1 hk1 fun b o c hr hc=>?_;obtain ⟨rfl,hsz,hfr⟩:=hc;generalize holds[k]=q at hr hsz hfr hF;obtain ⟨qk,qr⟩:=q;dsimp only at hr hsz hfr hF;change HRow H1 b o [.string qk,I qr] at hr;refine zf_ rfl rfl hr rfl ?_;refine zb_ rfl fun p10 _=>?_;refine walk ?_;refine Zap_ (RV:=rInt) (ag:=false) (z:=0) rfl rfl (by repeat (first | exact Has.here | apply Has.there)) ?_;rw [show (mget qk m).isSome=decide ((mget qk m).isSome=true) by simp];refine walk ?_;refine ze_ rfl (fun hq=>?_) (fun hq=>?_)
  ·rw [if_pos hq] at hF;refine walk ?_;refine zL_ rfl rfl rfl (qbg_ (p:=p7) (a:=a) (e:=2)) fun r2 H2 B hl2 ⟨er,eB,eH⟩=>?_;subst er eB eH;exact v43_
  ·rw [if_neg hq] at hF;exact v43_
 clear hL;obtain rfl:k=holds.length:=by omega
 rw [List.drop_length] at hF;rw [ZM_] at hF;rw [←hF];have hm0:zaf_ holds=⟨m,[],[]⟩:=by unfold zaf_;rw [←hF]
 rw [hm0];dsimp only;refine walk ?_
 refine Qc_ (σ:=Nat×TS×Int×Heap) (fun u=>u.1≤prep.length∧H1.le u.2.2.2∧∀s' a',LoadP u.2.1 u.2.2.1 (prep.drop u.1) s' a'→LoadP ⟨m,[],[]⟩ a prep s' a') (fun u=>[(1,.slice b2 prep.length c2),(6,.pointer (some ⟨p,0,none⟩)),(7,.pointer (some ⟨p7,0,none⟩)),(8,.func (.func 137) #[] #[.pointer (some ⟨p7,0,none⟩)]),(45,.slice b2 prep.length c2),(46,I prep.length),(47,I u.1)]) (fun u=>u.2.2.2)
  (fun u=>tabO u.2.2.2 p u.2.1::row p7 30 [I u.2.2.1]::R) (fun u=>prep.length - u.1) (0,⟨m,[],[]⟩,a,H1) ⟨Nat.zero_le _,.refl _,fun _ _ h=>h⟩ (hs0:=?_) fun ⟨k,s,e,HK⟩ ⟨hk0,hlK,hP⟩ K hL=>?_
 rotate_left
 ·refine Sub.trans ?_ (qH_ (H:=H1) (s:=⟨m,[],[]⟩) (hb:=hb) (lb:=lb) (wb:=wb));exact subA
 simp only at hk0 hlK hP;dsimp only;refine walk ?_;refine ze_ rfl (fun hk=>?_) (fun hk=>?_)
 ·have hk1:k<prep.length:=by omega
  rw [List.drop_eq_getElem_cons hk1] at hP;have hwq:=hw prep[k] (List.getElem_mem hk1);refine walk ?_;refine Zd_ rfl rfl (h2.mono hlK).1 hk1 fun b o c hr hc=>?_;obtain ⟨s1,s2,s3,rfl,g1,g2,g3,g4,g5,g6,g7,g8⟩:=hc;generalize prep[k]=q at hr g1 g2 g3 g4 g5 g6 g7 g8 hP hwq;obtain ⟨qk,⟨xa,xb,xc⟩,⟨wr,wt,wd⟩,qy,qp⟩:=q;dsimp only at hr g1 g2 g3 g4 g5 g6 g7 g8 hP hwq;obtain ⟨sb1,sc1,rfl,_,_⟩:=g6.1.shape;obtain ⟨sb2,sc2,rfl,_,_⟩:=g7.1.shape;obtain ⟨sb3,sc3,rfl,_,_⟩:=g8.1.shape;change HRow HK b o [I qk,I xa,I xb,I xc,I wr,.slice sb1 wt.length sc1,.slice sb2 wd.length sc2,.bool qy,.slice sb3 qp.length sc3] at hr;refine zf_ rfl rfl hr rfl ?_;refine zb_ rfl fun p14 _=>?_;refine walk ?_;have hpr:=ZaO_ (W0:=W0) (H:=HK) (p:=p) (s:=s) (x:=⟨xa,xb,xc⟩) (w:=⟨wr,wt,wd⟩) ⟨g2,g3,g4⟩ ⟨_,_,rfl,g5,g6,g7⟩ hwq;refine Za_ rfl rfl hpr fun r2 H2 B hl2 ⟨er,cs,hcs,eB⟩=>?_;subst er eB;refine zL_ rfl rfl rfl (qbg_ (p:=p7) (a:=e) (e:=QE_ s ⟨xa,xb,xc⟩ ⟨wr,wt,wd⟩)) fun r3 H3 B hl3 ⟨er,eB,eH⟩=>?_;subst er eB eH;refine walk ?_;exact Zb_ hL (k+1,_,_,H3) ⟨by simp only;omega,hlK.trans hl2,fun s' a' h=>hP s' a' (.cons (cs:=cs) h)⟩
 clear hL;obtain rfl:k=prep.length:=by omega
 rw [List.drop_length] at hP;have hLP:=hP s e .nil;clear hP;refine walk ?_;refine Za_ rfl rfl (zcm_ (h2.mono hlK).1 hp) fun r4 H4 B hl4 ⟨er,eB⟩=>?_;subst er eB;refine Zw_ (L':=tabO H4 p s::row p7 30 [I e]::R) ?_ ?_
 ·refine Sub.trans ?_ (zai_ hl4);exact subA
 refine walk ?_;refine ze_ rfl (fun hd=>?_) (fun hd=>?_)
 ·have hE:qcm_ e prep=Qbo_ e 2:=if_pos hd;refine walk ?_;refine zL_ rfl rfl rfl (qbg_ (p:=p7) (a:=e) (e:=2)) fun r5 H5 B hl5 ⟨er,eB,eH⟩=>?_;subst er eB eH;refine walk ?_;refine ze_ rfl (fun hz=>?_) (fun hz=>?_)
  ·exact v116_
  ·have hz':Qbo_ e 2=0:=Classical.byContradiction hz;exact v105_
 ·have hE:qcm_ e prep=e:=if_neg hd;refine walk ?_;refine ze_ rfl (fun hz=>?_) (fun hz=>?_)
  ·exact v116_
  ·have hz':e=0:=Classical.byContradiction hz;exact v105_
def ka:ByteArray:=⟨#[97]⟩
def kb:ByteArray:=⟨#[98]⟩
def xa:Txn:=⟨0,0,1⟩
theorem Inv.recs {n:Nat} {s:TS} (h:Inv n s) {q:Rec} (hq:q∈prepL s):gW s q.Txn.k=some q.Work:=by
 obtain ⟨w,h1,h2⟩:=((ZP_ h.wd).mem q).1 hq;have:w=q.Work:=by rw [h2];rfl
 rw [←this];exact h1
theorem OkW.ks_len {w:Work} (h:OkW w):w.ks.length≤80:=by
 have:=h.take;have:=h.drop;simp only [Work.ks,List.length_append];omega
theorem zdo_ {s:TS}:(prepL s).length=s.works.length:=by simp [prepL,qC_]
theorem ZbR_ {s:TS} {x:Txn} {yes:Bool}:Qx_ s x yes=match gW s x.k with | some w=>zM_ s x yes w | none=>s:=by
 unfold Qx_ gW
 cases mget x.k s.works with
 | none=>rfl
 | some v=>rfl
theorem Inv.ks_ok {n:Nat} {s:TS} (h:Inv n s) (x:K3):((mget x s.works).getD zCW).2.ks.length*16≤Qb_:=by
 cases hm:mget x s.works with
 | none=>decide
 | some v=>
  have hg:gW s x=some v.2:=by unfold gW;rw [hm];rfl
  have:=(h.ww x v.2 hg).1.1.ks_len;simp only [Option.getD_some,Qb_];omega
def AtP (m:Table) (x:Txn) (r:Value):Prop:=(r=I (-1)∧∀q∈m.Prep,q.Txn≠x)∨∃j:Nat,∃h:j<m.Prep.length,r=I j∧m.Prep[j].Txn=x
theorem Qed_ {a b:Txn}:a=b↔a.Node=b.Node∧a.Life=b.Life∧a.Count=b.Count:=by cases a;cases b;simp
theorem ZaK_ {H:Heap} {b o:Nat} {q:Rec} {s1 s2 s3:Value} (hr:HRow H b o (q.cv s1 s2 s3)):HRow H b (o+1) [I q.Txn.Node,I q.Txn.Life,I q.Txn.Count]:=HRow.take (k:=3) (HRow.drop (k:=1) hr)
theorem ZaF_ {H:Heap} {b o:Nat} {q:Rec} {s1 s2 s3:Value} (hr:HRow H b o (q.cv s1 s2 s3)):HRow H b (o+4) [I q.Work.Robot,s1,s2]:=HRow.take (k:=3) (HRow.drop (k:=4) hr)
theorem QaU_ {W0:World} {H:Heap} {c:List Value} {m:Table} {x:Txn} (h0:QK_ H c m):
  Ct Tryz.prog 125 #[.agg c.toArray,.agg x.cv.toArray] W0 H [] (fun r H' B=>AtP m x r∧B=[]∧H'=H):=by
 refine Ct.go (vs:=[.agg c.toArray,.agg x.cv.toArray]) fun R=>?_;obtain ⟨s1,s2,rfl,hs1,hs2⟩:=h0;obtain ⟨b1,c1,rfl,hc1,hd1⟩:=hs1.1.shape;obtain ⟨b2,c2,rfl,hc2,hd2⟩:=hs2.1.shape;obtain ⟨l,pr⟩:=m;obtain ⟨x1,x2,x3⟩:=x;dsimp only at hs1 hs2 hc1 hc2;unfold AtP;dsimp only;refine walk ?_;refine qc_ rfl rfl fun p2 _=>?_;refine qc_ rfl rfl fun p3 _=>?_;refine walk ?_;refine Qc_ (σ:=Nat) (fun j=>j≤pr.length∧∀q∈pr.take j,q.Txn≠⟨x1,x2,x3⟩) (fun j=>[(2,.pointer (some ⟨p2,0,none⟩)),(3,.pointer (some ⟨p3,0,none⟩)),(5,I j)]) (fun _=>H) (fun _=>row p2 126 [.slice b1 l.length c1,.slice b2 pr.length c2]::row p3 47 [I x1,I x2,I x3]::R) (fun j=>pr.length - j) 0 ⟨Nat.zero_le _,by simp⟩ fun j ⟨hj0,hj⟩ K hL=>?_;refine walk ?_;refine ze_ rfl (fun hk=>?_) (fun hk=>?_)
 ·have hk1:j<pr.length:=by omega
  have ht:=List.take_succ_eq_append_getElem hk1;refine walk ?_;refine Zd_ rfl rfl hs2.1 hk1 fun b o cc hr hc=>?_;obtain ⟨t1,t2,t3,rfl,g1,g2,g3,g4,g5,g6,g7,g8⟩:=hc;have hrt:=ZaK_ hr;obtain ⟨ya,yb,yc,hy⟩:∃ya yb yc,pr[j].Txn=⟨ya,yb,yc⟩:=⟨_,_,_,rfl⟩;rw [hy] at hrt;refine walk ?_;refine zf_ rfl rfl hrt rfl ?_;refine walk ?_;refine ze_ rfl (fun hq=>?_) (fun hq=>?_)
  ·refine walk ?_;refine fin0 ?_;obtain ⟨rfl,rfl,rfl⟩:=hq;exact ⟨.inr ⟨j,hk1,rfl,hy⟩,rfl,rfl⟩
  ·refine walk ?_;refine Zb_ hL (j+1) ⟨by omega,fun q hm=>?_⟩;rw [ht,List.mem_append,List.mem_singleton] at hm;rcases hm with hm | rfl
   ·exact hj q hm
   ·rw [hy];rintro e;exact hq (by simpa using Qed_.1 e)
 ·clear hL;obtain rfl:j=pr.length:=by omega
  exact v117_
def Qak_ (l:List Rec) (k:ByteArray):Option Rec:=l.find? fun q=>decide (k∈q.Work.ks)
def qaG_ (l:List Rec) (k:ByteArray):Value:= .tuple [.agg (((Qak_ l k).map (·.Txn)).getD zTxn).cv.toArray,.bool (Qak_ l k).isSome].toArray
theorem QaP_ {W0:World} {H:Heap} {c:List Value} {m:Table} {k:ByteArray} (h0:QK_ H c m) (hn:∀q∈m.Prep,q.Work.ks.length*16≤Qb_):
  Ct Tryz.prog 152 #[.agg c.toArray,.string k] W0 H [] (fun r H' B=>r=qaG_ m.Prep k∧B=[]):=by
 refine Ct.go (vs:=[.agg c.toArray,.string k]) fun R=>?_;obtain ⟨s1,s2,rfl,hs1,hs2⟩:=h0;obtain ⟨b1,c1,rfl,hc1,hd1⟩:=hs1.1.shape;obtain ⟨b2,c2,rfl,hc2,hd2⟩:=hs2.1.shape;obtain ⟨l,pr⟩:=m;dsimp only at hs1 hs2 hc1 hc2 hn;dsimp only;refine walk ?_;refine qc_ rfl rfl fun p2 _=>?_;refine zb_ rfl fun p4 _=>?_;refine walk ?_;refine Qc_ (σ:=Nat×Heap) (fun u=>u.1≤pr.length∧H.le u.2∧Qak_ (pr.take u.1) k=none) (fun u=>[(1,.string k),(2,.pointer (some ⟨p2,0,none⟩)),(4,.pointer (some ⟨p4,0,none⟩)),(6,I u.1)]) (fun u=>u.2) (fun _=>row p2 126 [.slice b1 l.length c1,.slice b2 pr.length c2]::row p4 47 [I 0,I 0,I 0]::R) (fun u=>pr.length - u.1) (0,H) ⟨Nat.zero_le _,.refl _,rfl⟩ fun ⟨j,HK⟩ ⟨hj0,hlK,hj⟩ K hL=>?_;simp only at hj0 hlK hj;dsimp only;refine walk ?_;refine ze_ rfl (fun hk=>?_) (fun hk=>?_)
 ·have hk1:j<pr.length:=by omega
  have ht:=List.take_succ_eq_append_getElem hk1;have hnq:=hn _ (List.getElem_mem hk1);refine walk ?_;refine Zd_ rfl rfl (hs2.mono hlK).1 hk1 fun b o cc hr hc=>?_;obtain ⟨t1,t2,t3,rfl,g1,g2,g3,g4,g5,g6,g7,g8⟩:=hc;have hrw:=ZaF_ hr;refine walk ?_;refine zf_ rfl rfl hrw rfl ?_;refine Za_ rfl rfl (qaE_ (W0:=W0) (H:=HK) (w:=pr[j].Work) (cw:=[I pr[j].Work.Robot,t1,t2]) ⟨_,_,rfl,g5,g6,g7⟩ hnq) fun r3 H3 B hl3 ⟨eB,eH⟩=>?_;subst eB eH;refine Zc_ r3 fun H4 hl4 hsk=>?_;refine walk ?_;refine Za_ rfl rfl (Qcz_ (W0:=W0) (H:=H4) (v:=r3) (l:=pr[j].Work.ks) (k:=k) hsk.1) fun r5 H5 B hl5 ⟨q,er,hq,eB,eH⟩=>?_;subst er eB eH;refine walk ?_;refine zF_ rfl Iff.rfl (fun hb=>?_) (fun hb=>?_)
  ·obtain ⟨ya,yb,yc,hy⟩:∃ya yb yc,pr[j].Txn=⟨ya,yb,yc⟩:=⟨_,_,_,rfl⟩;refine walk ?_;refine Zd_ rfl rfl (hs2.mono (hlK.trans hl4)).1 hk1 fun b5 o5 cc5 hr5 hc5=>?_;obtain ⟨u1,u2,u3,rfl,_⟩:=hc5;have hrt:=ZaK_ hr5;rw [hy] at hrt;refine walk ?_;refine zf_ rfl rfl hrt rfl ?_;refine walk ?_;refine fin0 ?_;have hkm:=hq.1 hb
   have e:Qak_ pr k=some pr[j]:=by
    have h1:Qak_ (pr.take (j+1)) k=some pr[j]:=by
     unfold Qak_ at hj⊢;rw [ht,List.find?_append,hj];simp [hkm]
    unfold Qak_ at h1⊢;have h2:∀(u v:List Rec) (r:Rec),u.find? (fun q=>decide (k∈q.Work.ks))=some r→(u++v).find? (fun q=>decide (k∈q.Work.ks))=some r:=fun u v r h=>by rw [List.find?_append,h];rfl
    have h3:=h2 _ (pr.drop (j+1)) _ h1;simpa only [List.take_append_drop] using h3
   refine ⟨?_,rfl⟩;unfold qaG_;rw [e];simp only [Option.map_some,Option.getD_some];rw [hy];rfl
  ·have hkm:k∉pr[j].Work.ks:=fun h=>hb (hq.2 h);refine walk ?_;refine Zb_ hL (j+1,H5) ⟨by simp only;omega,hlK.trans hl4,?_⟩;simp only;unfold Qak_ at hj⊢;rw [ht,List.find?_append,hj];simp [hkm]
 ·clear hL;obtain rfl:j=pr.length:=by omega
  rw [List.take_length] at hj;refine walk ?_;refine fin0 ?_;refine ⟨?_,rfl⟩;unfold qaG_;rw [hj];rfl
theorem zbt_ {W0:World} {H:Heap} {c:List Value} {m:Table} {k:ByteArray} {r:Int} {yes:Bool} (h0:QK_ H c m) (hk:k.size≤Qb_) (hr:fits r) (hn:m.Held.length≤100000):
  Ct Tryz.prog 154 #[.agg c.toArray,.string k,I r,.bool yes] W0 H [] (fun v H' B=>∃cs,v= .agg cs.toArray∧QK_ H' cs ⟨zI_ k r (!yes) m.Held,m.Prep⟩∧B=[]):=by
 refine Ct.go (vs:=[.agg c.toArray,.string k,I r,.bool yes]) fun R=>?_;obtain ⟨s1,s2,rfl,hs1,hs2⟩:=h0;obtain ⟨b1,c1,rfl,hc1,hd1⟩:=hs1.1.shape;obtain ⟨b2,c2,rfl,hc2,hd2⟩:=hs2.1.shape;obtain ⟨l,pr⟩:=m;dsimp only at hs1 hs2 hc1 hc2 hn;dsimp only;refine walk ?_;refine qc_ rfl rfl fun p4 _=>?_;refine zb_ rfl fun p8 _=>?_;refine walk ?_
 refine Qc_ (σ:=Nat×Bool×List Hold×Option Addr×Nat) (fun u=>u.1≤l.length∧u.2.2.1++zI_ k r u.2.1 (l.drop u.1)=zI_ k r (!yes) l∧u.2.2.1.length≤2*u.1) (fun u=>[(1,.string k),(2,I r),(4,.pointer (some ⟨p4,0,none⟩)),(8,.pointer (some ⟨p8,0,none⟩)),(9,.slice u.2.2.2.1 u.2.2.1.length u.2.2.2.2),(10,.bool u.2.1),(11,I u.1)]) (fun _=>H)
  (fun u=>ownS Zae_ 2 24 42 H (.slice u.2.2.2.1 u.2.2.1.length u.2.2.2.2) u.2.2.1::row p4 126 [.slice b1 l.length c1,.slice b2 pr.length c2]::row p8 126 [nilS,nilS]::R) (fun u=>l.length - u.1) (0,!yes,[],none,0) ⟨Nat.zero_le _,by simp,by simp⟩ (hs0:=?_) fun ⟨j,put,out,d,e⟩ ⟨hj0,hF,hol⟩ K hL=>?_
 rotate_left
 ·exact v34_
 simp only at hj0 hF hol;dsimp only;refine walk ?_;refine ze_ rfl (fun hj=>?_) (fun hj=>?_)
 ·have hj1:j<l.length:=by omega
  rw [List.drop_eq_getElem_cons hj1] at hF;have hcl:∀n,n≤200010→n*24≤Qb_:=fun n h=>Nat.le_trans (Nat.mul_le_mul_right 24 h) (by decide);have ntt:¬¬true=true:=fun h=>h rfl;rw [zI_] at hF
  cases put with
  | true=>
   rw [if_neg (fun h=>Bool.noConfusion h.1),List.nil_append,Bool.true_or] at hF;refine walk ?_;refine Zd_ rfl rfl hs1.1 hj1 fun b9 o9 cc9 hr9 hc9=>?_;obtain ⟨rfl,hsz9,hfr9⟩:=hc9;refine walk ?_;refine ze_ rfl (fun hq=>?_) (fun hq=>?_)
   ·rw [if_neg hq,←List.append_assoc] at hF;refine walk ?_;refine Zd_ rfl rfl hs1.1 hj1 fun b8 o8 cc8 hr8 hc8=>?_;obtain ⟨rfl,hsz8,hfr8⟩:=hc8;change HRow H b8 o8 [.string l[j].Key,I l[j].Robot] at hr8;refine zf_ rfl rfl hr8 rfl ?_;refine walk ?_;refine Zj_ (y:=l[j]) rfl rfl rfl ⟨rfl,hsz8,hfr8⟩ (hcl _ (by (try simp only [List.length_append,List.length_cons,List.length_nil]);omega)) fun d3 e3=>?_;have hll:(out).length+1=(out++[l[j]]).length:=by simp
    rw [hll];refine walk ?_;exact Zb_ hL (j+1,true,out++[l[j]],d3,e3) ⟨by simp only;omega,hF,by simp only [List.length_append,List.length_cons,List.length_nil];omega⟩
   ·have hq':l[j].Key=k:=Classical.byContradiction hq;rw [if_pos hq',List.nil_append] at hF;refine walk ?_;exact Zb_ hL (j+1,true,out,_,_) ⟨by simp only;omega,hF,by simp only [List.length_append,List.length_cons,List.length_nil];omega⟩
  | false=>
   by_cases hs:SLt k l[j].Key
   ·rw [if_pos ⟨rfl,hs⟩,decide_eq_true hs,Bool.false_or,←List.append_assoc] at hF;refine walk ?_;refine Zd_ rfl rfl hs1.1 hj1 fun b o cc hr' hc=>?_;obtain ⟨rfl,hsz,hfr⟩:=hc;refine walk ?_;refine Zj_ (y:=⟨k,r⟩) rfl rfl rfl ⟨rfl,hk,hr⟩ (hcl _ (by omega)) fun d2 e2=>?_;have hll2:out.length+1=(out++[(⟨k,r⟩:Hold)]).length:=by simp
    rw [hll2];refine walk ?_;refine Zd_ rfl rfl hs1.1 hj1 fun b9 o9 cc9 hr9 hc9=>?_;obtain ⟨rfl,hsz9,hfr9⟩:=hc9;refine walk ?_;refine ze_ rfl (fun hq=>?_) (fun hq=>?_)
    ·rw [if_neg hq,←List.append_assoc] at hF;refine walk ?_;refine Zd_ rfl rfl hs1.1 hj1 fun b8 o8 cc8 hr8 hc8=>?_;obtain ⟨rfl,hsz8,hfr8⟩:=hc8;change HRow H b8 o8 [.string l[j].Key,I l[j].Robot] at hr8;refine zf_ rfl rfl hr8 rfl ?_;refine walk ?_;refine Zj_ (y:=l[j]) rfl rfl rfl ⟨rfl,hsz8,hfr8⟩ (hcl _ (by (try simp only [List.length_append,List.length_cons,List.length_nil]);omega)) fun d3 e3=>?_;have hll:((out++[(⟨k,r⟩:Hold)])).length+1=((out++[(⟨k,r⟩:Hold)])++[l[j]]).length:=by simp
     rw [hll];refine walk ?_;exact Zb_ hL (j+1,true,(out++[(⟨k,r⟩:Hold)])++[l[j]],d3,e3) ⟨by simp only;omega,hF,by simp only [List.length_append,List.length_cons,List.length_nil];omega⟩
    ·have hq':l[j].Key=k:=Classical.byContradiction hq;rw [if_pos hq',List.nil_append] at hF;refine walk ?_;exact Zb_ hL (j+1,true,(out++[(⟨k,r⟩:Hold)]),_,_) ⟨by simp only;omega,hF,by simp only [List.length_append,List.length_cons,List.length_nil];omega⟩
   ·rw [if_neg (fun h=>hs h.2),decide_eq_false hs,Bool.false_or,List.nil_append] at hF;refine walk ?_;refine Zd_ rfl rfl hs1.1 hj1 fun b o cc hr' hc=>?_;obtain ⟨rfl,hsz,hfr⟩:=hc;refine walk ?_;refine Zd_ rfl rfl hs1.1 hj1 fun b9 o9 cc9 hr9 hc9=>?_;obtain ⟨rfl,hsz9,hfr9⟩:=hc9;refine walk ?_;refine ze_ rfl (fun hq=>?_) (fun hq=>?_)
    ·rw [if_neg hq,←List.append_assoc] at hF;refine walk ?_;refine Zd_ rfl rfl hs1.1 hj1 fun b8 o8 cc8 hr8 hc8=>?_;obtain ⟨rfl,hsz8,hfr8⟩:=hc8;change HRow H b8 o8 [.string l[j].Key,I l[j].Robot] at hr8;refine zf_ rfl rfl hr8 rfl ?_;refine walk ?_;refine Zj_ (y:=l[j]) rfl rfl rfl ⟨rfl,hsz8,hfr8⟩ (hcl _ (by (try simp only [List.length_append,List.length_cons,List.length_nil]);omega)) fun d3 e3=>?_;have hll:(out).length+1=(out++[l[j]]).length:=by simp
     rw [hll];refine walk ?_;exact Zb_ hL (j+1,false,out++[l[j]],d3,e3) ⟨by simp only;omega,hF,by simp only [List.length_append,List.length_cons,List.length_nil];omega⟩
    ·have hq':l[j].Key=k:=Classical.byContradiction hq;rw [if_pos hq',List.nil_append] at hF;refine walk ?_;exact Zb_ hL (j+1,false,out,_,_) ⟨by simp only;omega,hF,by simp only [List.length_append,List.length_cons,List.length_nil];omega⟩
 clear hL;obtain rfl:j=l.length:=by omega
 rw [List.drop_length,zI_] at hF
 cases put with
 | true=>
  rw [if_pos rfl,List.append_nil] at hF;refine walk ?_;refine qg_ (.slice d out.length e) fun H3 hl3 hsl=>?_;refine fin0 ?_;exact ⟨_,rfl,⟨_,_,rfl,by rw [←hF];exact hsl,hs2.mono hl3⟩,rfl⟩
 | false=>
  rw [if_neg Bool.noConfusion] at hF;have hll:out.length+1=(out++[(⟨k,r⟩:Hold)]).length:=by simp
  refine walk ?_;refine Zj_ (y:=⟨k,r⟩) rfl rfl rfl ⟨rfl,hk,hr⟩ (by simp only [Qb_];omega) fun d2 e2=>?_;rw [hll,hF];refine walk ?_;refine qg_ (.slice d2 (zI_ k r (!yes) l).length e2) fun H3 hl3 hsl=>?_;refine fin0 ?_;exact ⟨_,rfl,⟨_,_,rfl,hsl,hs2.mono hl3⟩,rfl⟩
end Go.Proofs.YtlflbkpmfhhikaaGreatDoor
