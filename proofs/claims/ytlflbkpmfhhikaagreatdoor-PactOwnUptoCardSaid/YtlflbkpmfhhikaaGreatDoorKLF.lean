/- All prepared transactions. -/
import Derived.Test.YtlflbkpmfhhikaaGreatDoorKKD
import Derived.Test.YtlflbkpmfhhikaaGreatDoorKLP
set_option linter.unusedVariables false
set_option linter.unusedSimpArgs false
namespace Go.Proofs.YtlflbkpmfhhikaaGreatDoor
open Go Go.Sx Go.Proofs
def Txn.k (x:Txn):K3:=(x.Node,x.Life,x.Count)
theorem qbB_ (x:Txn):toTx x.k=x:=rfl
theorem ZV_ (k:K3):(toTx k).k=k:=rfl
abbrev CW:=List Value×Work
def rCW:Rd CW:=fun H cs v=>cs=v.1∧Qi_ H cs v.2
instance :RdOk rCW 3:=⟨fun ⟨e,h⟩=>RdOk.len h,fun ⟨e,h⟩=>RdOk.one h,fun hl ⟨e,h⟩=>⟨e,RdOk.mono hl h⟩⟩
def zCW:CW:=([.int .i64 0,nilS,nilS],zac_)
instance :RVal rCW true (fun v=> .agg v.1.toArray):=⟨fun ⟨e,_⟩=>by subst e;rfl⟩
instance :RVal rTxn true (fun v=> .agg v.cv.toArray):=⟨fun ⟨e,_⟩=>by subst e;rfl⟩
instance :RVal rInt false (fun v=> .int .i64 v):=⟨fun ⟨e,_⟩=>by subst e;rfl⟩
theorem v12_ {P:Prop} (h:P:=by
 refine Ct.go fun R=>?_;obtain ⟨s1,s2,rfl,f1,h1,h2⟩:=h0;refine walk ?_;refine qc_ rfl rfl fun p1 _=>?_;refine Qb_ rfl fun p2 _=>?_;refine walk ?_;refine zc_ 7 [row p1 50 (m.cv s1 s2)] ?_;refine qa_ 0 ?_;refine qa_ 1 ?_;refine qa_ 3 ?_;refine qa_ 4 ?_;refine zo_ 2 rfl rfl (Zr_ h1) fun r1 H1 B hl1 ⟨eB,eH⟩=>?_;subst eB eH;refine ⟨subA,?_⟩;refine qa_ 6 ?_;refine zo_ 5 rfl rfl (Zr_ h2) fun r2 H2 B hl2 ⟨eB,eH⟩=>?_;subst eB eH;refine ⟨subA,?_⟩;refine qb_ rfl ?_;refine qq_ r1 fun d1 e1 e _ _ _=>?_;subst e;refine qq_ r2 fun d2 e2 e _ _ _=>?_;subst e;refine walk ?_;refine qg_ (.slice d1 m.Take.length e1) fun H3 hl3 k1=>?_;refine qg_ (.slice d2 m.Drop.length e2) fun H4 hl4 k2=>?_;refine fin0 ?_;exact ⟨m.cv (.slice d1 m.Take.length e1) (.slice d2 m.Drop.length e2),rfl,⟨_,_,rfl,f1,k1.mono hl4,k2⟩,rfl⟩):P:=h
theorem own_spec {W0:World} {H:Heap} {c:List Value} {m:Work} (h0:Qi_ H c m):
  Ct Tryz.prog 84 #[.agg c.toArray] W0 H [] (fun r H' B=>∃cs,r= .agg cs.toArray∧Qi_ H' cs m∧B=[]):=by
 exact v12_
structure TS where
  held:List (ByteArray×Int)
  locked:List (ByteArray×Txn)
  works:List (K3×CW)
abbrev tRow (p hb lb wb:Nat):za_:=row p 197 [.map (some hb),.map (some lb),.map (some wb)]
abbrev hMap (H:Heap) (hb:Nat) (s:TS):za_:=mapO Value.string rInt false H hb s.held
abbrev lMap (H:Heap) (lb:Nat) (s:TS):za_:=mapO Value.string rTxn true H lb s.locked
abbrev wMap (H:Heap) (wb:Nat) (s:TS):za_:=mapO ek3 rCW true H wb s.works
def tabO (H:Heap) (p:Nat) (s:TS):za_:=fun h=>∃hb lb wb,big [tRow p hb lb wb,hMap H hb s,lMap H lb s,wMap H wb s] h
theorem ZD_ {H:Heap} {p hb lb wb:Nat} {s:TS} {L:List za_}:Sub (tRow p hb lb wb::hMap H hb s::lMap H lb s::wMap H wb s::L) (tabO H p s::L):=
 qB_ (B:=[tRow p hb lb wb,hMap H hb s,lMap H lb s,wMap H wb s]) (Sub.refl _) fun h hb'=>⟨hb,lb,wb,hb'⟩
theorem new_spec {W0:World} {H:Heap}:
  Ct Tryz.prog 64 #[] W0 H [] (fun r H' B=>∃p,r= .pointer (some ⟨p,0,none⟩)∧B=[tabO H p ⟨[],[],[]⟩]∧H'=H):=by
 refine Ct.go (vs:=[]) fun R=>?_;refine walk ?_;refine qs_ Value.string rInt false rfl fun b1 _=>?_;refine qs_ Value.string rTxn true rfl fun b2 _=>?_;refine qs_ ek3 rCW true rfl fun b3 _=>?_;refine walk ?_;refine qc_ rfl rfl fun p _=>?_;refine walk ?_;refine finB [tabO H p ⟨[],[],[]⟩] ?_ (hs:=?_)
 ·exact ⟨p,rfl,rfl,rfl⟩
 ·refine Sub.trans ?_ (ZD_ (hb:=b1) (lb:=b2) (wb:=b3));exact subA
theorem qap_ {H H':Heap} {p:Nat} {s:TS} {L:List za_} (hl:H.le H'):Sub (tabO H p s::L) (tabO H' p s::L):=fun h ⟨h1,h2,⟨hb,lb,wb,hbig⟩,r⟩=>by
 refine ⟨h1,h2,⟨hb,lb,wb,?_⟩,r⟩;obtain ⟨a1,a2,x1,⟨b1,b2,x2,⟨c1,c2,x3,⟨d1,d2,x4,y4⟩,y3⟩,y2⟩,y1⟩:=hbig;exact ⟨a1,a2,x1,⟨b1,b2,(let ⟨es,c,a,e⟩:=x2;⟨es,c,a.mono hl,e⟩),⟨c1,c2,(let ⟨es,c,a,e⟩:=x3;⟨es,c,a.mono hl,e⟩),⟨d1,d2,(let ⟨es,c,a,e⟩:=x4;⟨es,c,a.mono hl,e⟩),y4⟩,y3⟩,y2⟩,y1⟩
end Go.Proofs.YtlflbkpmfhhikaaGreatDoor
set_option maxHeartbeats 16000000
set_option maxRecDepth 100000
namespace Go.Proofs.YtlflbkpmfhhikaaGreatDoor
open Go Go.Sx Go.Proofs Go.Shelf Go.RowKit Go.Maps Go.Sort
theorem Qdl_ (m:Nat):AnyZ.SortsIn Tryz.prog Tryz.sortedS_ren Fence.wide m:=
  ⟨fun blk off cap ss W hH hblk hsz=>callsIn_wide.2 (AnyM.slices_Sort_string Tryz.sortS blk off cap ss W hH hblk hsz),
   fun p cap W=>callsIn_wide.2 (AnyM.slices_Sort_string_none Tryz.sortS p cap W)⟩
theorem zdD_ {W0:World} {H:Heap} {b:Nat}:Ct Tryz.prog 80 #[.map (some b)] W0 H [] (fun r H' B=>∃p,r= .func (.func 116) #[] #[.pointer (some ⟨p,0,none⟩)]∧B=[row p 193 [.map (some b)]]∧H'=H):=
 zbU_ fun mb W=>callsIn_wide.1 (AnyZ.keys_in Tryz.keysS Fence.wide 5 trivial rfl mb W)
theorem QcK_ {ν:Type} {RV:Sx.Rd ν} {W0:World} {H H0:Heap} {p b:Nat} {ms:List (ByteArray×ν)} (hs:∀q∈ms,q.1.size≤zb_) (hl:ms.length*16≤zb_):
  Ct Tryz.prog 79 #[.func (.func 116) #[] #[.pointer (some ⟨p,0,none⟩)]] W0 H [row p 193 [.map (some b)],mapO Value.string RV false H0 b ms] (fun r H' B=>B=[ownS rStr 1 16 9 H r (sortT (ms.map (·.1))),mapO Value.string RV false H0 b ms]∧H'=H):=
 qbo_ (k:=9) Tryz.underlying9 (fun w nn D0 R hown hp hc hm hb=>
  callsIn_wide.1 (AnyZ.sorted_in Tryz.sortedS Fence.wide 5 trivial trivial trivial trivial rfl (by omega) (Qdl_ _) (enters_of Tryz.func115 (by kernel_rfl) rfl) 116 #[.pointer (some ⟨p,0,none⟩)] trivial (enters_of Tryz.func116 (by kernel_rfl) rfl) _ _ hm hb _
   (AnyZ.keys_gives (ρ:=Tryz.keysS_ren) {Tryz.keysS with} Fence.wide _ trivial rfl (by omega) p b nn D0 w hp hc hown))) hs hl
theorem ZbA_ (xs:List ByteArray):(sortT xs).length=xs.length:=by simp [sortT]
theorem QaS_ {xs:List ByteArray} {x:ByteArray}:x∈sortT xs↔x∈xs:=by
 unfold sortT;simp only [List.mem_map,List.mem_mergeSort];constructor
 ·rintro ⟨l,⟨y,hy,rfl⟩,rfl⟩;exact hy
 ·exact fun h=>⟨_,⟨x,h,rfl⟩,rfl⟩
structure TsOk (s:TS):Prop where
  hk:∀q∈s.held,q.1.size≤zb_
  hf:∀q∈s.held,fits q.2
  hn:s.held.length≤1000000
  wf:∀q∈s.works,fits q.1.1∧fits q.1.2.1∧fits q.1.2.2
  wn:s.works.length≤1000000
def zP_ (s:TS) (k:ByteArray):Hold:=⟨k,(mget k s.held).getD 0⟩
def Qad_ (s:TS):List Hold:=(sortT (s.held.map (·.1))).map (zP_ s)
theorem ZcK_ {s:TS} (h:TsOk s) (k:ByteArray):fits ((mget k s.held).getD 0):=by
 cases hg:mget k s.held with
 | none=>exact Zg_
 | some v=>exact h.hf (k,v) (Zu_ hg)
theorem v123_ {P:Prop} (h:P:=by
 simp only [List.take_zero,List.map_nil,List.length_nil];exact v32_):P:=h
theorem v32_ {P:Prop} (h:P:=by
 refine Sub.trans ?_ ownS_nil;exact subA):P:=h
theorem zcu_ {W0:World} {H:Heap} {p:Nat} {s:TS} (hs:TsOk s):
  Ct Tryz.prog 46 #[.pointer (some ⟨p,0,none⟩)] W0 H [tabO H p s] (fun r H' B=>B=[ownS qao_ 2 24 42 H' r (Qad_ s),tabO H' p s]):=by
 refine Ct.go (vs:=[.pointer (some ⟨p,0,none⟩)]) fun R=>?_;have hn:=hs.hn;have hcap:(1000000:Nat)*24≤zb_:=by decide
 refine Qj_ (A:=tabO H p s) (σ:=Nat×Nat×Nat) (B:=fun a=>[tRow p a.1 a.2.1 a.2.2,hMap H a.1 s,lMap H a.2.1 s,wMap H a.2.2 s]) (p:=fun _=>True) (by repeat (first | exact Has.here | apply Has.there)) (fun h ⟨hb,lb,wb,hbig⟩=>⟨(hb,lb,wb),trivial,hbig⟩) fun ⟨hb,lb,wb⟩ _=>?_;dsimp only;refine walk ?_;refine Za_ rfl rfl zdD_ fun r1 H1 B hl1 ⟨pk,er,eB,eH⟩=>?_;subst er eB eH;have hc:=QcK_ (W0:=W0) (H:=H1) (H0:=H1) (RV:=rInt) (p:=pk) (b:=hb) (ms:=s.held) hs.hk (by simp only [zb_];omega);refine Za_ rfl rfl hc fun r2 H2 B hl2 ⟨eB,eH⟩=>?_;subst eB eH;have hlen:(sortT (s.held.map (·.1))).length=s.held.length:=by rw [ZbA_,List.length_map]
 have hmem:∀k∈sortT (s.held.map (·.1)),k.size≤zb_:=fun k hk=>by
  obtain ⟨q,hq,rfl⟩:=List.mem_map.1 (QaS_.1 hk);exact hs.hk q hq
 unfold Qad_;generalize sortT (s.held.map (·.1))=ks at*;refine Zd_ r2 fun H3 hl3 hsl=>?_;obtain ⟨b0,c0,rfl,hc0,hd0⟩:=hsl.1.shape;refine walk ?_
 refine Qc_ (σ:=Nat×Option Addr×Nat) (fun u=>u.1≤ks.length) (fun u=>[(0,.pointer (some ⟨p,0,none⟩)),(11,.slice b0 ks.length c0),(12,I ks.length),(13,I u.1),(3,.slice u.2.1 ((ks.take u.1).map (zP_ s)).length u.2.2)]) (fun _=>H3)
  (fun u=>ownS qao_ 2 24 42 H3 (.slice u.2.1 ((ks.take u.1).map (zP_ s)).length u.2.2) ((ks.take u.1).map (zP_ s))::hMap H2 hb s::tRow p hb lb wb::lMap H2 lb s::wMap H2 wb s::R) (fun u=>ks.length - u.1) (0,none,0) (Nat.zero_le _) (hs0:=?_) fun ⟨k,d,e⟩ hk0 K hL=>?_
 rotate_left
 ·exact v123_
 simp only at hk0;dsimp only;have hll:((ks.take k).map (zP_ s)).length=k:=by simp;omega
 refine walk ?_;refine Qe_ rfl (fun hk=>?_) (fun hk=>?_)
 ·have hk1:k<ks.length:=by omega
  have ht:=List.take_succ_eq_append_getElem hk1;refine walk ?_;refine qe_ rfl rfl hsl.1 hk1 fun b o c hr hc=>?_;obtain ⟨rfl,hsz⟩:=hc;refine walk ?_;refine zbo_ (RV:=rInt) (ag:=false) (z:=0) rfl rfl (by repeat (first | exact Has.here | apply Has.there)) ?_;refine walk ?_;refine zj_ (y:=zP_ s ks[k]) rfl rfl rfl ⟨rfl,hsz,ZcK_ hs _⟩ (by rw [hll];simp only [zb_];omega) fun d3 e3=>?_;have hse:(ks.take k).map (zP_ s)++[zP_ s ks[k]]=(ks.take (k+1)).map (zP_ s):=by rw [ht,List.map_append];rfl
  have hsl2:((ks.take k).map (zP_ s)).length+1=((ks.take (k+1)).map (zP_ s)).length:=by rw [←hse];simp
  rw [hsl2,hse];refine walk ?_;exact Zb_ hL (k+1,d3,e3) (by simp only;omega)
 ·clear hL;obtain rfl:k=ks.length:=by omega
  refine walk ?_;rw [List.take_length] at*;refine finB [ownS qao_ 2 24 42 H3 (.slice d (ks.map (zP_ s)).length e) (ks.map (zP_ s)),tabO H3 p s] ?_ (hs:=?_)
  ·exact rfl
  ·refine Sub.trans ?_ (Sub.cons (Sub.trans (ZD_ (H:=H2) (hb:=hb) (lb:=lb) (wb:=wb)) (qap_ hl3)));exact subA
end Go.Proofs.YtlflbkpmfhhikaaGreatDoor
namespace Go.Proofs.YtlflbkpmfhhikaaGreatDoor
open Go Go.Sx Go.Proofs
def qas_ (s:TS) (k:K3):Rec:=⟨2,toTx k,((mget k s.works).getD zCW).2,false,[]⟩
def prepL (s:TS):List Rec:=(sort3 (s.works.map (·.1))).map (qas_ s)
theorem qP_ {l:List K3} {k:K3}:k∈sort3 l↔k∈l:=by unfold sort3;exact List.mem_mergeSort
theorem QbA_ {H:Heap}:rCW H zCW.1 zCW:=⟨rfl,Zat_⟩
theorem v71_ {P:Prop} (h:P:=by
 cases hg:mget k s.works with
 | none=>exact QbA_
 | some v=>obtain ⟨cs,e,h⟩:=hkw.1 (k,v) (Zu_ hg);exact ⟨rfl,by subst e;exact h⟩):P:=h
theorem QZ_ {W0:World} {H:Heap} {p:Nat} {s:TS} (hs:TsOk s):
  Ct Tryz.prog 47 #[.pointer (some ⟨p,0,none⟩)] W0 H [tabO H p s] (fun r H' B=>B=[ownS rRec 9 120 53 H' r (prepL s),tabO H' p s]):=by
 refine Ct.go (vs:=[.pointer (some ⟨p,0,none⟩)]) fun R=>?_;have hn:=hs.wn;have hcap:(1000000:Nat)*120≤zb_:=by decide
 refine Qj_ (A:=tabO H p s) (σ:=Nat×Nat×Nat) (B:=fun a=>[tRow p a.1 a.2.1 a.2.2,hMap H a.1 s,lMap H a.2.1 s,wMap H a.2.2 s]) (p:=fun _=>True) (by repeat (first | exact Has.here | apply Has.there)) (fun h ⟨hb,lb,wb,hbig⟩=>⟨(hb,lb,wb),trivial,hbig⟩) fun ⟨hb,lb,wb⟩ _=>?_;dsimp only;refine qaV_ (A:=wMap H wb s) (by repeat (first | exact Has.here | apply Has.there)) (fun h ho=>QW_ ho) fun hkw=>?_;refine walk ?_;refine Za_ rfl rfl Zch_ fun r1 H1 B hl1 ⟨pk,er,eB,eH⟩=>?_;subst er eB eH;have hc:=ZaD_ (W0:=W0) (H:=H1) (H0:=H1) (RV:=rCW) (ag:=true) (p:=pk) (b:=wb) (ms:=s.works) hs.wf (by simp only [zb_];omega);refine Za_ rfl rfl hc fun r2 H2 B hl2 ⟨eB,eH⟩=>?_;subst eB eH;have hlen:(sort3 (s.works.map (·.1))).length=s.works.length:=by rw [ZP_,List.length_map]
 have hmem:∀k∈sort3 (s.works.map (·.1)),fits k.1∧fits k.2.1∧fits k.2.2:=fun k hk=>by
  obtain ⟨q,hq,rfl⟩:=List.mem_map.1 (qP_.1 hk);exact hs.wf q hq
 have hread:∀k,rCW H2 ((mget k s.works).getD zCW).1 ((mget k s.works).getD zCW):=fun k=>by
  exact v71_
 unfold prepL;generalize sort3 (s.works.map (·.1))=ks at*;refine Zd_ r2 fun H3 hl3 hsl=>?_;obtain ⟨b0,c0,rfl,hc0,hd0⟩:=hsl.1.shape;have hlx:(ks.map toTx).length=ks.length:=by simp
 refine walk ?_
 refine Qc_ (σ:=Nat×Option Addr×Nat×Heap) (fun u=>u.1≤ks.length∧H3.le u.2.2.2) (fun u=>[(0,.pointer (some ⟨p,0,none⟩)),(11,.slice b0 (ks.map toTx).length c0),(12,I (ks.map toTx).length),(13,I u.1),(3,.slice u.2.1 ((ks.take u.1).map (qas_ s)).length u.2.2.1)]) (fun u=>u.2.2.2)
  (fun u=>ownS rRec 9 120 53 u.2.2.2 (.slice u.2.1 ((ks.take u.1).map (qas_ s)).length u.2.2.1) ((ks.take u.1).map (qas_ s))::wMap H2 wb s::tRow p hb lb wb::hMap H2 hb s::lMap H2 lb s::R) (fun u=>ks.length - u.1) (0,none,0,H3) ⟨Nat.zero_le _,.refl _⟩ (hs0:=?_) fun ⟨k,d,e,HK⟩ ⟨hk0,hlK⟩ K hL=>?_
 rotate_left
 ·exact v123_
 simp only at hk0 hlK;dsimp only;have hll:((ks.take k).map (qas_ s)).length=k:=by simp;omega
 refine walk ?_;refine Qe_ rfl (fun hk=>?_) (fun hk=>?_)
 ·have hk1:k<ks.length:=by omega
  have ht:=List.take_succ_eq_append_getElem hk1;refine walk ?_;refine qe_ rfl rfl (hsl.mono hlK).1 (show k<(ks.map toTx).length by simpa using hk1) fun b o c hr hc=>?_;have hx:(ks.map toTx)[k]'(by simpa using hk1)=toTx ks[k]:=by simp
  rw [hx] at hc;have hkm:=hmem ks[k] (List.getElem_mem hk1);have hrd:=hread ks[k];have hse:(ks.take k).map (qas_ s)++[qas_ s ks[k]]=(ks.take (k+1)).map (qas_ s):=by rw [ht,List.map_append];rfl
  have hsl2:((ks.take k).map (qas_ s)).length+1=((ks.take (k+1)).map (qas_ s)).length:=by rw [←hse];simp
  obtain ⟨rfl,_⟩:=hc;generalize ks[k]=kk at*;obtain ⟨ka,kb,kc⟩:=kk;dsimp only at hkm;change HRow HK b o [I ka,I kb,I kc] at hr;refine walk ?_;refine zg_ rfl rfl hr rfl ?_;refine Qb_ rfl fun p5 _=>?_;refine walk ?_;refine zc_ 12 [wMap H2 wb s,tRow p hb lb wb,row p5 47 [I ka,I kb,I kc]] ?_;refine qa_ 0 ?_;refine qa_ 1 ?_;refine qa_ 2 ?_;refine qa_ 3 ?_;refine qa_ 4 ?_;refine qa_ 5 ?_;refine qa_ 6 ?_;refine Qbo_ (RV:=rCW) (ag:=true) (z:=zCW) 7 rfl rfl rfl (by repeat (first | exact Has.here | apply Has.there)) ?_;refine ze_ 8 rfl rfl rfl (own_spec (RdOk.mono (R:=Qi_) (hl3.trans hlK) hrd.2)) fun r4 H4 B hl4 ⟨cs,er,hcs,eB⟩=>?_;subst er eB;refine ⟨subA,?_⟩;obtain ⟨s1,s2,rfl,hrob,hs1,hs2⟩:=hcs;refine qa_ 9 ?_;have fk2:fits (2:Int):=by unfold fits;omega
  refine Qu_ (y:=qas_ s (ka,kb,kc)) 10 11 rfl rfl rfl ⟨s1,s2,nilS,rfl,fk2,hkm.1,hkm.2.1,hkm.2.2,hrob,hs1,hs2,SlB.nil⟩ (by rw [hll];simp only [zb_];omega) fun d3 e3=>⟨subA,?_⟩;rw [hsl2,hse];refine qb_ rfl ?_;refine walk ?_;exact Zb_ hL (k+1,d3,e3,H4) ⟨by simp only;omega,hlK.trans hl4⟩
 ·clear hL;obtain rfl:k=ks.length:=by omega
  refine walk ?_;rw [List.take_length] at*;refine finB [ownS rRec 9 120 53 HK (.slice d (ks.map (qas_ s)).length e) (ks.map (qas_ s)),tabO HK p s] ?_ (hs:=?_)
  ·exact rfl
  ·refine Sub.trans ?_ (Sub.cons (Sub.trans (ZD_ (H:=H2) (hb:=hb) (lb:=lb) (wb:=wb)) (qap_ (hl3.trans hlK))));exact subA
end Go.Proofs.YtlflbkpmfhhikaaGreatDoor
