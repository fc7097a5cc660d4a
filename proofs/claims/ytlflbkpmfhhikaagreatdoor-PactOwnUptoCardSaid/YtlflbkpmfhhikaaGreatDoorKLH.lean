/- Apply, walked. -/
import Derived.Test.YtlflbkpmfhhikaaGreatDoorKLF
set_option maxHeartbeats 16000000
set_option maxRecDepth 100000
set_option linter.unusedVariables false
set_option linter.unusedSimpArgs false
namespace Go.Proofs.YtlflbkpmfhhikaaGreatDoor
open Go Go.Sx Go.Proofs
theorem Qch_ {H:Heap} {s:TS} (h:∀q∈s.works,∃cs,rCW H cs q.2) (k:K3):Qi_ H ((mget k s.works).getD zCW).1 ((mget k s.works).getD zCW).2:=by
 cases hg:mget k s.works with
 | none=>exact QbA_.2
 | some v=>obtain ⟨cs,e,h⟩:=h (k,v) (Zu_ hg);subst e;exact h
def Work.ks (w:Work):List ByteArray:=w.Take++w.Drop
def dupT (l:List ByteArray):Prop:=(compT (sortT l)).length<l.length
instance {l:List ByteArray}:Decidable (dupT l):=by unfold dupT;infer_instance
def wayT (s:TS) (w:Work):Nat→List ByteArray→Bool
  | _,[]=>true
  | i,k::l=> !(mget k s.locked).isSome&&(decide (w.Take.length≤i) || !(mget k s.held).isSome)&&wayT s w (i+1) l
theorem Zbz_ {s:TS} {w:Work} {k:ByteArray}:∀{l:List ByteArray} {i:Nat},wayT s w i (l++[k])=(wayT s w i l&&(!(mget k s.locked).isSome&&(decide (w.Take.length≤i+l.length) || !(mget k s.held).isSome)))
 | [],i=>by simp [wayT]
 | a::l,i=>by
  have ih:=Zbz_ (s:=s) (w:=w) (k:=k) (l:=l) (i:=i+1);simp only [List.cons_append,wayT,ih,List.length_cons,Bool.and_assoc,show i+1+l.length=i+(l.length+1) by omega]
theorem up1 {H H':Heap} {hb:Nat} {l:List (ByteArray×Int)} {L:List za_} (hl:H.le H'):Sub (mapO Value.string rInt false H hb l::L) (mapO Value.string rInt false H' hb l::L):=QaE_ hl
theorem up2 {H H':Heap} {hb:Nat} {l:List (ByteArray×Txn)} {L:List za_} (hl:H.le H'):Sub (mapO Value.string rTxn true H hb l::L) (mapO Value.string rTxn true H' hb l::L):=QaE_ hl
theorem up3 {H H':Heap} {hb:Nat} {l:List (K3×CW)} {L:List za_} (hl:H.le H'):Sub (mapO ek3 rCW true H hb l::L) (mapO ek3 rCW true H' hb l::L):=QaE_ hl
def ZF_ (x:Txn) (ks:List ByteArray) (l:List (ByteArray×Txn)):List (ByteArray×Txn):=ks.foldl (fun l k=>mset k x l) l
theorem qbA_ {x:Txn} {ks:List ByteArray} {k:ByteArray} {l:List (ByteArray×Txn)}:ZF_ x (ks++[k]) l=mset k x (ZF_ x ks l):=by simp [ZF_]
def zK_ (s:TS) (x:Txn) (w:Work):Int:=if (mget x.k s.works).isSome=true then 2 else if dupT w.ks then 1 else if wayT s w 0 w.ks=true then 0 else 140
def QV_ (s:TS) (x:Txn) (w:Work) (cs:List Value):TS:=⟨s.held,ZF_ x w.ks s.locked,mset x.k (cs,w) s.works⟩
theorem v60_ {P:Prop} (h:P:=by
 exact Zb_ hL (k+1) (by omega)):P:=h
theorem zbA_ {W0:World} {H:Heap} {p:Nat} {s:TS} {x:Txn} {w:Work} {cw:List Value} (hx:fits x.Node∧fits x.Life∧fits x.Count) (hw:Qi_ H cw w) (hwn:(w.ks.length)*16≤zb_):
  Ct Tryz.prog 101 #[.pointer (some ⟨p,0,none⟩),.agg x.cv.toArray,.agg cw.toArray] W0 H [tabO H p s] (fun r H' B=>r=I (zK_ s x w)∧∃cs,Qi_ H' cs w∧B=[tabO H' p (if zK_ s x w=0 then QV_ s x w cs else s)]):=by
 refine Ct.go (vs:=[.pointer (some ⟨p,0,none⟩),.agg x.cv.toArray,.agg cw.toArray]) fun R=>?_;obtain ⟨s1,s2,rfl,hrob,hs1,hs2⟩:=hw;obtain ⟨b1,c1,rfl,hc1,hd1⟩:=hs1.1.shape;obtain ⟨b2,c2,rfl,hc2,hd2⟩:=hs2.1.shape;obtain ⟨x1,x2,x3⟩:=x;dsimp only at hx;refine Qj_ (A:=tabO H p s) (σ:=Nat×Nat×Nat) (B:=fun a=>[tRow p a.1 a.2.1 a.2.2,hMap H a.1 s,lMap H a.2.1 s,wMap H a.2.2 s]) (p:=fun _=>True) (by repeat (first | exact Has.here | apply Has.there)) (fun h ⟨hb,lb,wb,hbig⟩=>⟨(hb,lb,wb),trivial,hbig⟩) fun ⟨hb,lb,wb⟩ _=>?_;dsimp only;refine qaV_ (A:=wMap H wb s) (by repeat (first | exact Has.here | apply Has.there)) (fun h ho=>QW_ ho) fun hkw=>?_;have hrd:=Qch_ hkw.1 (x1,x2,x3);refine walk ?_;refine qc_ rfl rfl fun p4 _=>?_;refine qc_ rfl rfl fun p5 _=>?_;refine walk ?_;refine zc_ 11 [wMap H wb s,tRow p hb lb wb,row p4 47 [I x1,I x2,I x3]] ?_;refine qa_ 0 ?_;refine qa_ 1 ?_;refine qa_ 2 ?_;refine qa_ 3 ?_;refine qa_ 4 ?_;refine qck_ (RV:=rCW) (ag:=true) (z:=zCW) 5 rfl rfl rfl (by repeat (first | exact Has.here | apply Has.there)) ?_;obtain ⟨q1,q2,hq,_,hq1,hq2⟩:=hrd;obtain ⟨g1,f1,rfl,_,_⟩:=hq1.1.shape;obtain ⟨g2,f2,rfl,_,_⟩:=hq2.1.shape;rw [hq];refine qa_ 6 ?_;refine Qd_ 7 rfl rfl rfl rfl ?_;refine Qd_ 8 rfl rfl rfl rfl ?_;refine Zn_ 9 rfl rfl fun p7 _=>?_;refine Zi_ 10 rfl rfl rfl rfl (by simp) rfl ⟨subA,?_⟩;refine qb_ rfl ?_;rw [show (mget (x1,x2,x3) s.works).isSome=decide ((mget (x1,x2,x3) s.works).isSome=true) by simp];refine walk ?_;refine Qe_ rfl (fun hin=>?_) (fun hin=>?_)
 ·refine walk ?_;refine finB [tabO H p s] ?_ (hs:=?_)
  ·have hE:zK_ s ⟨x1,x2,x3⟩ w=2:=if_pos hin;refine ⟨by rw [hE],_,⟨_,_,rfl,hrob,hs1,hs2⟩,?_⟩;rw [hE,if_neg (by decide)]
  ·refine Sub.trans ?_ (ZD_ (hb:=hb) (lb:=lb) (wb:=wb));exact subA
 refine walk ?_;refine qat_ rfl rfl fun pb _=>?_;refine zL_ .here fun H1 hl1 hr1=>?_;have hsr:SlR (rSl rStr 1 16) 1 H1 (.slice (some ⟨pb,0,none⟩) 2 2) [w.Take,w.Drop]:=Qn_ (R:=rSl rStr 1 16) (xs:=[w.Take,w.Drop]) hr1 (show RL (rSl rStr 1 16) H1 [.slice b1 w.Take.length c1,.slice b2 w.Drop.length c2] [w.Take,w.Drop] from ⟨[_],[_],rfl,⟨_,rfl,hs1.mono hl1⟩,⟨[_],[],rfl,⟨_,rfl,hs2.mono hl1⟩,rfl⟩⟩) (by simp) (by omega);have hwn':(w.Take.length+w.Drop.length)*16≤zb_:=by simpa [Work.ks] using hwn
 have hwn2:w.Take.length+w.Drop.length≤8796093022208:=by have:=hwn';simp only [zb_] at this;omega
 have hcat:=QP_ (W0:=W0) hsr (by simpa [Zx_] using hwn');rw [show [w.Take,w.Drop].flatten=w.ks by simp [Work.ks]] at hcat;refine Za_ rfl rfl hcat fun r1 H2 B hl2 ⟨eB,eH⟩=>?_;subst eB eH;refine walk ?_;refine Za_ rfl rfl (qdm_ (W0:=W0) (H:=H2) (H0:=H2) (v:=r1) (xs:=w.ks)) fun r2 H3 B hl3 ⟨er,eB,eH⟩=>?_;subst er eB eH;refine walk ?_;refine zc_ 10 [row p5 50 (w.cv (.slice b1 w.Take.length c1) (.slice b2 w.Drop.length c2))] ?_;refine qa_ 0 ?_;refine qa_ 3 ?_;refine qa_ 4 ?_;refine qa_ 5 ?_;refine qa_ 6 ?_;refine qa_ 7 ?_;refine qa_ 8 ?_;refine qa_ 9 ?_;refine ze_ 1 rfl rfl rfl (QbS_ (W0:=W0) (H:=H3) (H0:=H3) (v:=r1) (xs:=sortT w.ks)) fun r3 H4 B hl4 ⟨eB,eH⟩=>?_;subst eB eH;refine ⟨subA,?_⟩;refine Qax_ r3 fun d3 e3 e _ _ _=>?_;subst e;refine qa_ 2 ?_;refine qb_ rfl ?_;refine walk ?_
 have hdup:(((compT (sortT w.ks)).length:Nat):Int)<(w.Take.length:Nat)+(w.Drop.length:Nat)↔dupT w.ks:=by
  unfold dupT;rw [show w.ks.length=w.Take.length+w.Drop.length by simp [Work.ks]];omega
 refine Qe_ rfl (fun hdu=>?_) (fun hdu=>?_)
 ·rw [hdup] at hdu;refine walk ?_;refine finB [tabO H4 p s] ?_ (hs:=?_)
  ·have hE:zK_ s ⟨x1,x2,x3⟩ w=1:=(if_neg hin).trans (if_pos hdu);refine ⟨by rw [hE],_,⟨_,_,rfl,hrob,hs1.mono (hl1.trans (hl2.trans (hl3.trans hl4))),hs2.mono (hl1.trans (hl2.trans (hl3.trans hl4)))⟩,?_⟩;rw [hE,if_neg (by decide)]
  ·refine Sub.trans ?_ (Sub.trans (ZD_ (H:=H) (hb:=hb) (lb:=lb) (wb:=wb)) (qap_ (hl1.trans (hl2.trans (hl3.trans hl4)))));exact subA
 rw [hdup] at hdu;refine walk ?_;refine qat_ rfl rfl fun pc _=>?_;refine zL_ .here fun H5 hl5 hr5=>?_;have hl05:H.le H5:=hl1.trans (hl2.trans (hl3.trans (hl4.trans hl5)));have hsr5:SlR (rSl rStr 1 16) 1 H5 (.slice (some ⟨pc,0,none⟩) 2 2) [w.Take,w.Drop]:=Qn_ (R:=rSl rStr 1 16) (xs:=[w.Take,w.Drop]) hr5 (show RL (rSl rStr 1 16) H5 [.slice b1 w.Take.length c1,.slice b2 w.Drop.length c2] [w.Take,w.Drop] from ⟨[_],[_],rfl,⟨_,rfl,hs1.mono hl05⟩,⟨[_],[],rfl,⟨_,rfl,hs2.mono hl05⟩,rfl⟩⟩) (by simp) (by omega);have hcat5:=QP_ (W0:=W0) hsr5 (by simpa [Zx_] using hwn');rw [show [w.Take,w.Drop].flatten=w.ks by simp [Work.ks]] at hcat5;refine Za_ rfl rfl hcat5 fun r5 H6 B hl6 ⟨eB,eH⟩=>?_;subst eB eH;refine Zd_ r5 fun H7 hl7 hsl=>?_;obtain ⟨bk,ck,rfl,hck,hdk⟩:=hsl.1.shape;refine walk ?_
 refine Qc_ (σ:=Nat) (fun k=>k≤w.ks.length) (fun k=>[(0,.pointer (some ⟨p,0,none⟩)),(4,.pointer (some ⟨p4,0,none⟩)),(5,.pointer (some ⟨p5,0,none⟩)),(10,.bool (decide (wayT s w 0 (w.ks.take k)=true))),(53,.slice bk w.ks.length ck),(54,I w.ks.length),(55,I k)]) (fun _=>H7)
  (fun _=>row p5 50 (w.cv (.slice b1 w.Take.length c1) (.slice b2 w.Drop.length c2))::row p4 47 [I x1,I x2,I x3]::tRow p hb lb wb::hMap H hb s::lMap H lb s::wMap H wb s::R) (fun k=>w.ks.length - k) 0 (Nat.zero_le _) fun k hk0 K hL=>?_
 refine walk ?_;refine Qe_ rfl (fun hk=>?_) (fun hk=>?_)
 ·have hk1:k<w.ks.length:=by omega
  have ht:=List.take_succ_eq_append_getElem hk1;have hwy:=Zbz_ (s:=s) (w:=w) (k:=w.ks[k]) (l:=w.ks.take k) (i:=0);rw [←ht,Nat.zero_add,List.length_take,Nat.min_eq_left hk0] at hwy;refine walk ?_;refine qe_ rfl rfl hsl.1 hk1 fun b o c hr hc=>?_;obtain ⟨rfl,hsz⟩:=hc;refine walk ?_;refine ZaM_ (RV:=rInt) (ag:=false) (z:=0) rfl rfl (by repeat (first | exact Has.here | apply Has.there)) ?_;refine walk ?_;refine ZaM_ (RV:=rTxn) (ag:=true) (z:=zTxn) rfl rfl (by repeat (first | exact Has.here | apply Has.there)) ?_;refine walk ?_;rw [show (mget w.ks[k] s.locked).isSome=decide ((mget w.ks[k] s.locked).isSome=true) by simp,show (mget w.ks[k] s.held).isSome=decide ((mget w.ks[k] s.held).isSome=true) by simp];refine Qb_ rfl fun p15 _=>?_;refine ZI_ ?_
  have hd:=bdec (p:=(wayT s w 0 (w.ks.take k)=true∧¬(mget w.ks[k] s.locked).isSome=true)∧((w.Take.length:Int)≤(k:Int)∨¬(mget w.ks[k] s.held).isSome=true)) (q:=wayT s w 0 (w.ks.take (k+1))=true) (by
   rw [hwy];simp only [Bool.and_eq_true,Bool.or_eq_true,Bool.not_eq_true',decide_eq_true_eq,Bool.not_eq_true,Int.ofNat_le,and_assoc])
  rw [hd];exact v60_
 clear hL;obtain rfl:k=w.ks.length:=by omega
 rw [List.take_length];refine walk ?_;refine Qe_ rfl (fun hfr=>?_) (fun hfr=>?_)
 ·refine walk ?_;refine finB [tabO H7 p s] ?_ (hs:=?_)
  ·have hE:zK_ s ⟨x1,x2,x3⟩ w=140:=(if_neg hin).trans ((if_neg hdu).trans (if_neg hfr));refine ⟨by rw [hE],_,⟨_,_,rfl,hrob,hs1.mono (hl05.trans (hl6.trans hl7)),hs2.mono (hl05.trans (hl6.trans hl7))⟩,?_⟩;rw [hE,if_neg (by decide)]
  ·refine Sub.trans ?_ (Sub.trans (ZD_ (H:=H) (hb:=hb) (lb:=lb) (wb:=wb)) (qap_ (hl05.trans (hl6.trans hl7))));exact subA
 have hfr':wayT s w 0 w.ks=true:=by simpa using hfr
 have hE:zK_ s ⟨x1,x2,x3⟩ w=0:=(if_neg hin).trans ((if_neg hdu).trans (if_pos hfr'));refine walk ?_;refine zc_ 7 [row p4 47 [I x1,I x2,I x3],row p5 50 (w.cv (.slice b1 w.Take.length c1) (.slice b2 w.Drop.length c2)),tRow p hb lb wb] ?_;refine qa_ 0 ?_;refine qa_ 1 ?_;refine qa_ 2 ?_;refine qa_ 3 ?_;refine qa_ 4 ?_;refine qa_ 5 ?_;have hl07:H.le H7:=hl05.trans (hl6.trans hl7);refine ze_ 6 rfl rfl rfl (own_spec (m:=w) ⟨_,_,rfl,hrob,hs1.mono hl07,hs2.mono hl07⟩) fun r6 H8 B hl8 ⟨cs,er,hcs,eB⟩=>?_;subst er eB;refine ⟨subA,?_⟩;have hl08:H.le H8:=hl07.trans hl8;refine qb_ rfl ?_;refine zr_ (L':=wMap H8 wb s::hMap H8 hb s::lMap H8 lb s::row p5 50 (w.cv (.slice b1 w.Take.length c1) (.slice b2 w.Drop.length c2))::row p4 47 [I x1,I x2,I x3]::tRow p hb lb wb::R) ?_ ?_
 ·refine Sub.trans ?_ (Sub.trans (up3 hl08) (Sub.cons (Sub.trans (up1 hl08) (Sub.cons (up2 hl08)))));exact subA
 refine zw_ (RV:=rCW) (ag:=true) (cs:=cs) (u:=(cs,w)) rfl rfl ⟨rfl,hcs⟩ (by repeat (first | exact Has.here | apply Has.there)) ?_;refine walk ?_;refine qat_ rfl rfl fun pd _=>?_;refine zL_ .here fun H9 hl9 hr9=>?_;have hl09:H.le H9:=hl08.trans hl9;have hsr9:SlR (rSl rStr 1 16) 1 H9 (.slice (some ⟨pd,0,none⟩) 2 2) [w.Take,w.Drop]:=Qn_ (R:=rSl rStr 1 16) (xs:=[w.Take,w.Drop]) hr9 (show RL (rSl rStr 1 16) H9 [.slice b1 w.Take.length c1,.slice b2 w.Drop.length c2] [w.Take,w.Drop] from ⟨[_],[_],rfl,⟨_,rfl,hs1.mono hl09⟩,⟨[_],[],rfl,⟨_,rfl,hs2.mono hl09⟩,rfl⟩⟩) (by simp) (by omega);have hcat9:=QP_ (W0:=W0) hsr9 (by simpa [Zx_] using hwn');rw [show [w.Take,w.Drop].flatten=w.ks by simp [Work.ks]] at hcat9;refine Za_ rfl rfl hcat9 fun r9 H10 B hl10 ⟨eB,eH⟩=>?_;subst eB eH;refine Zd_ r9 fun H11 hl11 hsm=>?_;obtain ⟨bm,cm,rfl,hcm,hdm⟩:=hsm.1.shape;refine walk ?_
 refine Qc_ (σ:=Nat) (fun k=>k≤w.ks.length) (fun k=>[(0,.pointer (some ⟨p,0,none⟩)),(4,.pointer (some ⟨p4,0,none⟩)),(109,.slice bm w.ks.length cm),(110,I w.ks.length),(111,I k)]) (fun _=>H11)
  (fun k=>mapO Value.string rTxn true H8 lb (ZF_ ⟨x1,x2,x3⟩ (w.ks.take k) s.locked)::row p4 47 [I x1,I x2,I x3]::tRow p hb lb wb::mapO ek3 rCW true H8 wb (mset (x1,x2,x3) (cs,w) s.works)::hMap H8 hb s::R) (fun k=>w.ks.length - k) 0 (Nat.zero_le _) fun k hk0 K hL=>?_
 refine walk ?_;refine Qe_ rfl (fun hk=>?_) (fun hk=>?_)
 ·have hk1:k<w.ks.length:=by omega
  have ht:=List.take_succ_eq_append_getElem hk1;refine walk ?_;refine qe_ rfl rfl hsm.1 hk1 fun b o c hr hc=>?_;obtain ⟨rfl,hsz⟩:=hc;refine walk ?_;refine zc_ 6 [row p4 47 [I x1,I x2,I x3],tRow p hb lb wb] ?_;refine qa_ 0 ?_;refine qa_ 1 ?_;refine qa_ 2 ?_;refine qa_ 3 ?_;refine qa_ 4 ?_;refine qa_ 5 ?_;refine qb_ rfl ?_;refine zw_ (RV:=rTxn) (ag:=true) (cs:=[I x1,I x2,I x3]) (u:=⟨x1,x2,x3⟩) rfl rfl ⟨rfl,hx⟩ (by repeat (first | exact Has.here | apply Has.there)) ?_;refine walk ?_;have hse:ZF_ ⟨x1,x2,x3⟩ (w.ks.take (k+1)) s.locked=mset w.ks[k] ⟨x1,x2,x3⟩ (ZF_ ⟨x1,x2,x3⟩ (w.ks.take k) s.locked):=by rw [ht,qbA_]
  rw [←hse];exact v60_
 clear hL;obtain rfl:k=w.ks.length:=by omega
 rw [List.take_length];refine walk ?_;refine finB [tabO H11 p (QV_ s ⟨x1,x2,x3⟩ w cs)] ?_ (hs:=?_)
 ·refine ⟨by rw [hE],cs,RdOk.mono (R:=Qi_) (hl9.trans (hl10.trans hl11)) hcs,?_⟩;rw [hE,if_pos rfl]
 ·refine Sub.trans ?_ (Sub.trans (ZD_ (H:=H8) (s:=QV_ s ⟨x1,x2,x3⟩ w cs) (hb:=hb) (lb:=lb) (wb:=wb)) (qap_ (hl9.trans (hl10.trans hl11))));exact subA
def Zp_ (ks:List ByteArray) (l:List (ByteArray×Txn)):List (ByteArray×Txn):=ks.foldl (fun l k=>mdel k l) l
theorem Qbc_ {ks:List ByteArray} {k:ByteArray} {l:List (ByteArray×Txn)}:Zp_ (ks++[k]) l=mdel k (Zp_ ks l):=by simp [Zp_]
def zn_ (r:Int) (ks:List ByteArray) (l:List (ByteArray×Int)):List (ByteArray×Int):=ks.foldl (fun l k=>if (mget k l).isSome=true∧(mget k l).getD 0=r then mdel k l else l) l
theorem zbz_ {r:Int} {ks:List ByteArray} {k:ByteArray} {l:List (ByteArray×Int)}:zn_ r (ks++[k]) l=if (mget k (zn_ r ks l)).isSome=true∧(mget k (zn_ r ks l)).getD 0=r then mdel k (zn_ r ks l) else zn_ r ks l:=by unfold zn_;rw [List.foldl_append];rfl
def zu_ (r:Int) (ks:List ByteArray) (l:List (ByteArray×Int)):List (ByteArray×Int):=ks.foldl (fun l k=>mset k r l) l
theorem Qbz_ {r:Int} {ks:List ByteArray} {k:ByteArray} {l:List (ByteArray×Int)}:zu_ r (ks++[k]) l=mset k r (zu_ r ks l):=by simp [zu_]
def Qaw_ (s:TS) (x:Txn):Int:=if (mget x.k s.works).isSome=true then 0 else 4
def ZH_ (s:TS) (x:Txn) (yes:Bool) (w:Work):TS:=⟨if yes=true then zu_ w.Robot w.Take (zn_ w.Robot w.Drop s.held) else s.held,Zp_ w.ks s.locked,mdel x.k s.works⟩
def Zw_ (s:TS) (x:Txn) (yes:Bool):TS:=if (mget x.k s.works).isSome=true then ZH_ s x yes ((mget x.k s.works).getD zCW).2 else s
theorem qcu_ {W0:World} {H:Heap} {p:Nat} {s:TS} {x:Txn} {yes:Bool} (hwn:((mget x.k s.works).getD zCW).2.ks.length*16≤zb_):
  Ct Tryz.prog 104 #[.pointer (some ⟨p,0,none⟩),.agg x.cv.toArray,.bool yes] W0 H [tabO H p s] (fun r H' B=>r=I (Qaw_ s x)∧B=[tabO H' p (Zw_ s x yes)]):=by
 refine Ct.go (vs:=[.pointer (some ⟨p,0,none⟩),.agg x.cv.toArray,.bool yes]) fun R=>?_;obtain ⟨x1,x2,x3⟩:=x;refine Qj_ (A:=tabO H p s) (σ:=Nat×Nat×Nat) (B:=fun a=>[tRow p a.1 a.2.1 a.2.2,hMap H a.1 s,lMap H a.2.1 s,wMap H a.2.2 s]) (p:=fun _=>True) (by repeat (first | exact Has.here | apply Has.there)) (fun h ⟨hb,lb,wb,hbig⟩=>⟨(hb,lb,wb),trivial,hbig⟩) fun ⟨hb,lb,wb⟩ _=>?_;dsimp only;refine qaV_ (A:=wMap H wb s) (by repeat (first | exact Has.here | apply Has.there)) (fun h ho=>QW_ ho) fun hkw=>?_;have hrd:=Qch_ hkw.1 (x1,x2,x3);refine walk ?_;refine qc_ rfl rfl fun p4 _=>?_;refine walk ?_;refine zc_ 11 [wMap H wb s,tRow p hb lb wb,row p4 47 [I x1,I x2,I x3]] ?_;refine qa_ 0 ?_;refine qa_ 1 ?_;refine qa_ 2 ?_;refine qa_ 3 ?_;refine qa_ 4 ?_;refine qck_ (RV:=rCW) (ag:=true) (z:=zCW) 5 rfl rfl rfl (by repeat (first | exact Has.here | apply Has.there)) ?_;have hE:Qaw_ s ⟨x1,x2,x3⟩=if (mget (x1,x2,x3) s.works).isSome=true then 0 else 4:=rfl
 have hT:Zw_ s ⟨x1,x2,x3⟩ yes=if (mget (x1,x2,x3) s.works).isSome=true then ZH_ s ⟨x1,x2,x3⟩ yes ((mget (x1,x2,x3) s.works).getD zCW).2 else s:=rfl
 change ((mget (x1,x2,x3) s.works).getD zCW).2.ks.length*16≤zb_ at hwn;rw [hE,hT];clear hE hT;generalize (mget (x1,x2,x3) s.works).getD zCW=q at hrd hwn⊢;obtain ⟨qc,w⟩:=q;dsimp only at hrd hwn;obtain ⟨q1,q2,rfl,hrob,hs1,hs2⟩:=hrd;obtain ⟨b1,c1,rfl,_,_⟩:=hs1.1.shape;obtain ⟨b2,c2,rfl,_,_⟩:=hs2.1.shape;dsimp only;refine qa_ 6 ?_;refine Qd_ 7 rfl rfl rfl rfl ?_;refine Qd_ 8 rfl rfl rfl rfl ?_;refine Zn_ 9 rfl rfl fun p7 _=>?_;refine Zi_ 10 rfl rfl rfl rfl (by simp) (show _=w.cv (.slice b1 w.Take.length c1) (.slice b2 w.Drop.length c2) from rfl) ⟨subA,?_⟩;refine qb_ rfl ?_;rw [show (mget (x1,x2,x3) s.works).isSome=decide ((mget (x1,x2,x3) s.works).isSome=true) by simp];refine walk ?_;refine Qe_ rfl (fun hin=>?_) (fun hin=>?_)
 ·refine walk ?_;have hin':¬(mget (x1,x2,x3) s.works).isSome=true:=hin;refine finB [tabO H p s] ?_ (hs:=?_)
  ·exact ⟨by simp [hin'],by simp [hin']⟩
  ·refine Sub.trans ?_ (ZD_ (hb:=hb) (lb:=lb) (wb:=wb));exact subA
 have hin':(mget (x1,x2,x3) s.works).isSome=true:=Classical.byContradiction hin;refine walk ?_;refine zc_ 5 [tRow p hb lb wb,row p4 47 [I x1,I x2,I x3]] ?_;refine qa_ 0 ?_;refine qa_ 1 ?_;refine qa_ 2 ?_;refine qa_ 3 ?_;refine qa_ 4 ?_;refine qb_ rfl ?_;refine zW_ (ek:=ek3) rfl (by repeat (first | exact Has.here | apply Has.there)) ?_;refine walk ?_;refine qat_ rfl rfl fun pb _=>?_;refine zL_ .here fun H1 hl1 hr1=>?_;have hwn':(w.Take.length+w.Drop.length)*16≤zb_:=by simpa [Work.ks] using hwn
 have hsr:SlR (rSl rStr 1 16) 1 H1 (.slice (some ⟨pb,0,none⟩) 2 2) [w.Take,w.Drop]:=Qn_ (R:=rSl rStr 1 16) (xs:=[w.Take,w.Drop]) hr1 (show RL (rSl rStr 1 16) H1 [.slice b1 w.Take.length c1,.slice b2 w.Drop.length c2] [w.Take,w.Drop] from ⟨[_],[_],rfl,⟨_,rfl,hs1.mono hl1⟩,⟨[_],[],rfl,⟨_,rfl,hs2.mono hl1⟩,rfl⟩⟩) (by simp) (by omega);have hcat:=QP_ (W0:=W0) hsr (by simpa [Zx_] using hwn');rw [show [w.Take,w.Drop].flatten=w.ks by simp [Work.ks]] at hcat;refine Za_ rfl rfl hcat fun r1 H2 B hl2 ⟨eB,eH⟩=>?_;subst eB eH;refine Zd_ r1 fun H3 hl3 hsl=>?_;obtain ⟨bk,ck,rfl,hck,hdk⟩:=hsl.1.shape;have hl03:H.le H3:=hl1.trans (hl2.trans hl3);refine walk ?_
 refine Qc_ (σ:=Nat) (fun k=>k≤w.ks.length) (fun k=>[(0,.pointer (some ⟨p,0,none⟩)),(2,.bool yes),(7,.pointer (some ⟨p7,0,none⟩)),(38,.slice bk w.ks.length ck),(39,I w.ks.length),(40,I k)]) (fun _=>H3)
  (fun k=>mapO Value.string rTxn true H lb (Zp_ (w.ks.take k) s.locked)::row p7 50 (w.cv (.slice b1 w.Take.length c1) (.slice b2 w.Drop.length c2))::tRow p hb lb wb::mapO ek3 rCW true H wb (mdel (x1,x2,x3) s.works)::hMap H hb s::R) (fun k=>w.ks.length - k) 0 (Nat.zero_le _) fun k hk0 K hL=>?_
 refine walk ?_;refine Qe_ rfl (fun hk=>?_) (fun hk=>?_)
 ·have hk1:k<w.ks.length:=by omega
  have ht:=List.take_succ_eq_append_getElem hk1;refine walk ?_;refine qe_ rfl rfl hsl.1 hk1 fun b o c hr hc=>?_;obtain ⟨rfl,hsz⟩:=hc;refine walk ?_;refine zW_ (ek:=Value.string) rfl (by repeat (first | exact Has.here | apply Has.there)) ?_;refine walk ?_;have hse:Zp_ (w.ks.take (k+1)) s.locked=mdel w.ks[k] (Zp_ (w.ks.take k) s.locked):=by rw [ht,Qbc_]
  rw [←hse];exact v60_
 clear hL;obtain rfl:k=w.ks.length:=by omega
 rw [List.take_length]
 cases yes with
 | false=>
  refine walk ?_;refine finB [tabO H3 p (ZH_ s ⟨x1,x2,x3⟩ false w)] ?_ (hs:=?_)
  ·exact ⟨by simp [hin'],by simp [hin']⟩
  ·refine Sub.trans ?_ (Sub.trans (ZD_ (H:=H) (s:=ZH_ s ⟨x1,x2,x3⟩ false w) (hb:=hb) (lb:=lb) (wb:=wb)) (qap_ hl03));exact subA
 | true=>
  refine walk ?_
  refine Qc_ (σ:=Nat) (fun k=>k≤w.Drop.length) (fun k=>[(0,.pointer (some ⟨p,0,none⟩)),(7,.pointer (some ⟨p7,0,none⟩)),(53,.slice b2 w.Drop.length c2),(54,I w.Drop.length),(55,I k)]) (fun _=>H3)
   (fun k=>mapO Value.string rInt false H hb (zn_ w.Robot (w.Drop.take k) s.held)::row p7 50 (w.cv (.slice b1 w.Take.length c1) (.slice b2 w.Drop.length c2))::tRow p hb lb wb::mapO ek3 rCW true H wb (mdel (x1,x2,x3) s.works)::mapO Value.string rTxn true H lb (Zp_ w.ks s.locked)::R) (fun k=>w.Drop.length - k) 0 (Nat.zero_le _) fun k hk0 K hL=>?_
  refine walk ?_;refine Qe_ rfl (fun hk=>?_) (fun hk=>?_)
  ·have hk1:k<w.Drop.length:=by omega
   have ht:=List.take_succ_eq_append_getElem hk1;have hse:=zbz_ (r:=w.Robot) (ks:=w.Drop.take k) (k:=w.Drop[k]) (l:=s.held);rw [←ht] at hse;refine walk ?_;refine qe_ rfl rfl (hs2.mono hl03).1 hk1 fun b o c hr hc=>?_;obtain ⟨rfl,hsz⟩:=hc;refine walk ?_;refine ZaM_ (RV:=rInt) (ag:=false) (z:=0) rfl rfl (by repeat (first | exact Has.here | apply Has.there)) ?_;rw [show (mget w.Drop[k] (zn_ w.Robot (w.Drop.take k) s.held)).isSome=decide ((mget w.Drop[k] (zn_ w.Robot (w.Drop.take k) s.held)).isSome=true) by simp];refine ZI_ ?_;refine Qe_ rfl (fun hq=>?_) (fun hq=>?_)
   ·rw [if_pos hq] at hse;refine walk ?_;refine zW_ (ek:=Value.string) rfl (by repeat (first | exact Has.here | apply Has.there)) ?_;refine walk ?_;rw [←hse];exact v60_
   ·rw [if_neg hq] at hse;refine walk ?_;rw [←hse];exact v60_
  clear hL;obtain rfl:k=w.Drop.length:=by omega
  rw [List.take_length];refine walk ?_
  refine Qc_ (σ:=Nat) (fun k=>k≤w.Take.length) (fun k=>[(0,.pointer (some ⟨p,0,none⟩)),(7,.pointer (some ⟨p7,0,none⟩)),(82,.slice b1 w.Take.length c1),(83,I w.Take.length),(84,I k)]) (fun _=>H3)
   (fun k=>mapO Value.string rInt false H hb (zu_ w.Robot (w.Take.take k) (zn_ w.Robot w.Drop s.held))::row p7 50 (w.cv (.slice b1 w.Take.length c1) (.slice b2 w.Drop.length c2))::tRow p hb lb wb::mapO ek3 rCW true H wb (mdel (x1,x2,x3) s.works)::mapO Value.string rTxn true H lb (Zp_ w.ks s.locked)::R) (fun k=>w.Take.length - k) 0 (Nat.zero_le _) fun k hk0 K hL=>?_
  refine walk ?_;refine Qe_ rfl (fun hk=>?_) (fun hk=>?_)
  ·have hk1:k<w.Take.length:=by omega
   have ht:=List.take_succ_eq_append_getElem hk1;have hse:=Qbz_ (r:=w.Robot) (ks:=w.Take.take k) (k:=w.Take[k]) (l:=zn_ w.Robot w.Drop s.held);rw [←ht] at hse;refine walk ?_;refine qe_ rfl rfl (hs1.mono hl03).1 hk1 fun b o c hr hc=>?_;obtain ⟨rfl,hsz⟩:=hc;refine walk ?_;refine zc_ 7 [tRow p hb lb wb,row p7 50 (w.cv (.slice b1 w.Take.length c1) (.slice b2 w.Drop.length c2))] ?_;refine qa_ 0 ?_;refine qa_ 1 ?_;refine qa_ 2 ?_;refine qa_ 3 ?_;refine qa_ 4 ?_;refine qa_ 5 ?_;refine qa_ 6 ?_;refine qb_ rfl ?_;refine zw_ (RV:=rInt) (ag:=false) (cs:=[I w.Robot]) (u:=w.Robot) rfl rfl ⟨rfl,hrob⟩ (by repeat (first | exact Has.here | apply Has.there)) ?_;refine walk ?_;rw [←hse];exact v60_
  clear hL;obtain rfl:k=w.Take.length:=by omega
  rw [List.take_length];refine walk ?_;refine finB [tabO H3 p (ZH_ s ⟨x1,x2,x3⟩ true w)] ?_ (hs:=?_)
  ·exact ⟨by simp [hin'],by simp [hin']⟩
  ·refine Sub.trans ?_ (Sub.trans (ZD_ (H:=H) (s:=ZH_ s ⟨x1,x2,x3⟩ true w) (hb:=hb) (lb:=lb) (wb:=wb)) (qap_ hl03));exact subA
end Go.Proofs.YtlflbkpmfhhikaaGreatDoor
