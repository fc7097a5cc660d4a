/- Apply, walked. -/
import Derived.Test.YtlflbkpmfhhikaaGreatDoorJKD
import Derived.Test.YtlflbkpmfhhikaaGreatDoorJLP
set_option linter.unusedVariables false
set_option linter.unusedSimpArgs false
namespace Go.Proofs.YtlflbkpmfhhikaaGreatDoor
open Go Go.Sx Go.Proofs
def Txn.k (x:Txn):K3:=(x.Node,x.Life,x.Count)
theorem qbO_ (x:Txn):toTx x.k=x:=rfl
theorem QD_ (k:K3):(toTx k).k=k:=rfl
abbrev CW:=List Value×Work
def rCW:Rd CW:=fun H cs v=>cs=v.1∧zj_ H cs v.2
instance :RdOk rCW 3:=⟨fun ⟨e,h⟩=>RdOk.len h,fun ⟨e,h⟩=>RdOk.one h,fun hl ⟨e,h⟩=>⟨e,RdOk.mono hl h⟩⟩
def zCW:CW:=([.int .i64 0,nilS,nilS],Qae_)
instance :RVal rCW true (fun v=> .agg v.1.toArray):=⟨fun ⟨e,_⟩=>by subst e;rfl⟩
instance :RVal rTxn true (fun v=> .agg v.cv.toArray):=⟨fun ⟨e,_⟩=>by subst e;rfl⟩
instance :RVal rInt false (fun v=> .int .i64 v):=⟨fun ⟨e,_⟩=>by subst e;rfl⟩
theorem v16_ {P:Prop} (h:P:=by
 refine Ct.go fun R=>?_;obtain ⟨s1,s2,rfl,f1,h1,h2⟩:=h0;refine walk ?_;refine qc_ rfl rfl fun p1 _=>?_;refine zb_ rfl fun p2 _=>?_;refine walk ?_;refine zc_ 7 [row p1 50 (m.cv s1 s2)] ?_;refine qa_ 0 ?_;refine qa_ 1 ?_;refine qa_ 3 ?_;refine qa_ 4 ?_;refine zs_ 2 rfl rfl (Zac_ h1) fun r1 H1 B hl1 ⟨eB,eH⟩=>?_;subst eB eH;refine ⟨subA,?_⟩;refine qa_ 6 ?_;refine zs_ 5 rfl rfl (Zac_ h2) fun r2 H2 B hl2 ⟨eB,eH⟩=>?_;subst eB eH;refine ⟨subA,?_⟩;refine qb_ rfl ?_;refine Qp_ r1 fun d1 e1 e _ _ _=>?_;subst e;refine Qp_ r2 fun d2 e2 e _ _ _=>?_;subst e;refine walk ?_;refine qg_ (.slice d1 m.Take.length e1) fun H3 hl3 k1=>?_;refine qg_ (.slice d2 m.Drop.length e2) fun H4 hl4 k2=>?_;refine fin0 ?_;exact ⟨m.cv (.slice d1 m.Take.length e1) (.slice d2 m.Drop.length e2),rfl,⟨_,_,rfl,f1,k1.mono hl4,k2⟩,rfl⟩):P:=h
theorem ZaE_ {W0:World} {H:Heap} {c:List Value} {m:Work} (h0:zj_ H c m):
  Ct Tryz.prog 84 #[.agg c.toArray] W0 H [] (fun r H' B=>∃cs,r= .agg cs.toArray∧zj_ H' cs m∧B=[]):=by
 exact v16_
structure TS where
  held:List (ByteArray×Int)
  locked:List (ByteArray×Txn)
  works:List (K3×CW)
abbrev tRow (p hb lb wb:Nat):za_:=row p 197 [.map (some hb),.map (some lb),.map (some wb)]
abbrev hMap (H:Heap) (hb:Nat) (s:TS):za_:=mapO Value.string rInt false H hb s.held
abbrev lMap (H:Heap) (lb:Nat) (s:TS):za_:=mapO Value.string rTxn true H lb s.locked
abbrev wMap (H:Heap) (wb:Nat) (s:TS):za_:=mapO ek3 rCW true H wb s.works
def tabO (H:Heap) (p:Nat) (s:TS):za_:=fun h=>∃hb lb wb,big [tRow p hb lb wb,hMap H hb s,lMap H lb s,wMap H wb s] h
theorem qH_ {H:Heap} {p hb lb wb:Nat} {s:TS} {L:List za_}:Sub (tRow p hb lb wb::hMap H hb s::lMap H lb s::wMap H wb s::L) (tabO H p s::L):=
 Zab_ (B:=[tRow p hb lb wb,hMap H hb s,lMap H lb s,wMap H wb s]) (Sub.refl _) fun h hb'=>⟨hb,lb,wb,hb'⟩
theorem new_spec {W0:World} {H:Heap}:
  Ct Tryz.prog 64 #[] W0 H [] (fun r H' B=>∃p,r= .pointer (some ⟨p,0,none⟩)∧B=[tabO H p ⟨[],[],[]⟩]∧H'=H):=by
 refine Ct.go (vs:=[]) fun R=>?_;refine walk ?_;refine Qt_ Value.string rInt false rfl fun b1 _=>?_;refine Qt_ Value.string rTxn true rfl fun b2 _=>?_;refine Qt_ ek3 rCW true rfl fun b3 _=>?_;refine walk ?_;refine qc_ rfl rfl fun p _=>?_;refine walk ?_;refine finB [tabO H p ⟨[],[],[]⟩] ?_ (hs:=?_)
 ·exact ⟨p,rfl,rfl,rfl⟩
 ·refine Sub.trans ?_ (qH_ (hb:=b1) (lb:=b2) (wb:=b3));exact subA
theorem zai_ {H H':Heap} {p:Nat} {s:TS} {L:List za_} (hl:H.le H'):Sub (tabO H p s::L) (tabO H' p s::L):=fun h ⟨h1,h2,⟨hb,lb,wb,hbig⟩,r⟩=>by
 refine ⟨h1,h2,⟨hb,lb,wb,?_⟩,r⟩;obtain ⟨a1,a2,x1,⟨b1,b2,x2,⟨c1,c2,x3,⟨d1,d2,x4,y4⟩,y3⟩,y2⟩,y1⟩:=hbig;exact ⟨a1,a2,x1,⟨b1,b2,(let ⟨es,c,a,e⟩:=x2;⟨es,c,a.mono hl,e⟩),⟨c1,c2,(let ⟨es,c,a,e⟩:=x3;⟨es,c,a.mono hl,e⟩),⟨d1,d2,(let ⟨es,c,a,e⟩:=x4;⟨es,c,a.mono hl,e⟩),y4⟩,y3⟩,y2⟩,y1⟩
end Go.Proofs.YtlflbkpmfhhikaaGreatDoor
set_option maxHeartbeats 16000000
set_option maxRecDepth 100000
namespace Go.Proofs.YtlflbkpmfhhikaaGreatDoor
open Go Go.Sx Go.Proofs Go.Shelf Go.RowKit Go.Maps Go.Sort
theorem QdG_ (m:Nat):AnyZ.SortsIn Tryz.prog Tryz.sortedS_ren Fence.wide m:=
  ⟨fun blk off cap ss W hH hblk hsz=>callsIn_wide.2 (AnyM.slices_Sort_string Tryz.sortS blk off cap ss W hH hblk hsz),
   fun p cap W=>callsIn_wide.2 (AnyM.slices_Sort_string_none Tryz.sortS p cap W)⟩
theorem qdZ_ {W0:World} {H:Heap} {b:Nat}:Ct Tryz.prog 80 #[.map (some b)] W0 H [] (fun r H' B=>∃p,r= .func (.func 116) #[] #[.pointer (some ⟨p,0,none⟩)]∧B=[row p 193 [.map (some b)]]∧H'=H):=
 zbB_ fun mb W=>callsIn_wide.1 (AnyZ.keys_in Tryz.keysS Fence.wide 5 trivial rfl mb W)
theorem Qdg_ {ν:Type} {RV:Sx.Rd ν} {W0:World} {H H0:Heap} {p b:Nat} {ms:List (ByteArray×ν)} (hs:∀q∈ms,q.1.size≤Qb_) (hl:ms.length*16≤Qb_):
  Ct Tryz.prog 79 #[.func (.func 116) #[] #[.pointer (some ⟨p,0,none⟩)]] W0 H [row p 193 [.map (some b)],mapO Value.string RV false H0 b ms] (fun r H' B=>B=[ownS rStr 1 16 9 H r (sortT (ms.map (·.1))),mapO Value.string RV false H0 b ms]∧H'=H):=
 qbB_ (k:=9) Tryz.underlying9 (fun w nn D0 R hown hp hc hm hb=>
  callsIn_wide.1 (AnyZ.sorted_in Tryz.sortedS Fence.wide 5 trivial trivial trivial trivial rfl (by omega) (QdG_ _) (enters_of Tryz.func115 (by kernel_rfl) rfl) 116 #[.pointer (some ⟨p,0,none⟩)] trivial (enters_of Tryz.func116 (by kernel_rfl) rfl) _ _ hm hb _
   (AnyZ.keys_gives (ρ:=Tryz.keysS_ren) {Tryz.keysS with} Fence.wide _ trivial rfl (by omega) p b nn D0 w hp hc hown))) hs hl
theorem QaE_ (xs:List ByteArray):(sortT xs).length=xs.length:=by simp [sortT]
theorem Qbc_ {xs:List ByteArray} {x:ByteArray}:x∈sortT xs↔x∈xs:=by
 unfold sortT;simp only [List.mem_map,List.mem_mergeSort];constructor
 ·rintro ⟨l,⟨y,hy,rfl⟩,rfl⟩;exact hy
 ·exact fun h=>⟨_,⟨x,h,rfl⟩,rfl⟩
structure TsOk (s:TS):Prop where
  hk:∀q∈s.held,q.1.size≤Qb_
  hf:∀q∈s.held,fits q.2
  hn:s.held.length≤1000000
  wf:∀q∈s.works,fits q.1.1∧fits q.1.2.1∧fits q.1.2.2
  wn:s.works.length≤1000000
def qS_ (s:TS) (k:ByteArray):Hold:=⟨k,(mget k s.held).getD 0⟩
def qx_ (s:TS):List Hold:=(sortT (s.held.map (·.1))).map (qS_ s)
theorem Zdg_ {s:TS} (h:TsOk s) (k:ByteArray):fits ((mget k s.held).getD 0):=by
 cases hg:mget k s.held with
 | none=>exact qh_
 | some v=>exact h.hf (k,v) (qu_ hg)
theorem v144_ {P:Prop} (h:P:=by
 simp only [List.take_zero,List.map_nil,List.length_nil];exact v34_):P:=h
theorem v34_ {P:Prop} (h:P:=by
 refine Sub.trans ?_ ownS_nil;exact subA):P:=h
theorem v76_ {P:Prop} (h:P:=by
 refine walk ?_;exact Zb_ hL (k+1,d3,e3) (by simp only;omega)):P:=h
theorem zbs_ {W0:World} {H:Heap} {p:Nat} {s:TS} (hs:TsOk s):
  Ct Tryz.prog 46 #[.pointer (some ⟨p,0,none⟩)] W0 H [tabO H p s] (fun r H' B=>B=[ownS Zae_ 2 24 42 H' r (qx_ s),tabO H' p s]):=by
 refine Ct.go (vs:=[.pointer (some ⟨p,0,none⟩)]) fun R=>?_;have hn:=hs.hn;have hcap:(1000000:Nat)*24≤Qb_:=by decide
 refine Zg_ (A:=tabO H p s) (σ:=Nat×Nat×Nat) (B:=fun a=>[tRow p a.1 a.2.1 a.2.2,hMap H a.1 s,lMap H a.2.1 s,wMap H a.2.2 s]) (p:=fun _=>True) (by repeat (first | exact Has.here | apply Has.there)) (fun h ⟨hb,lb,wb,hbig⟩=>⟨(hb,lb,wb),trivial,hbig⟩) fun ⟨hb,lb,wb⟩ _=>?_;dsimp only;refine walk ?_;refine Za_ rfl rfl qdZ_ fun r1 H1 B hl1 ⟨pk,er,eB,eH⟩=>?_;subst er eB eH;have hc:=Qdg_ (W0:=W0) (H:=H1) (H0:=H1) (RV:=rInt) (p:=pk) (b:=hb) (ms:=s.held) hs.hk (by simp only [Qb_];omega);refine Za_ rfl rfl hc fun r2 H2 B hl2 ⟨eB,eH⟩=>?_;subst eB eH;have hlen:(sortT (s.held.map (·.1))).length=s.held.length:=by rw [QaE_,List.length_map]
 have hmem:∀k∈sortT (s.held.map (·.1)),k.size≤Qb_:=fun k hk=>by
  obtain ⟨q,hq,rfl⟩:=List.mem_map.1 (Qbc_.1 hk);exact hs.hk q hq
 unfold qx_;generalize sortT (s.held.map (·.1))=ks at*;refine Zc_ r2 fun H3 hl3 hsl=>?_;obtain ⟨b0,c0,rfl,hc0,hd0⟩:=hsl.1.shape;refine walk ?_
 refine Qc_ (σ:=Nat×Option Addr×Nat) (fun u=>u.1≤ks.length) (fun u=>[(0,.pointer (some ⟨p,0,none⟩)),(11,.slice b0 ks.length c0),(12,I ks.length),(13,I u.1),(3,.slice u.2.1 ((ks.take u.1).map (qS_ s)).length u.2.2)]) (fun _=>H3)
  (fun u=>ownS Zae_ 2 24 42 H3 (.slice u.2.1 ((ks.take u.1).map (qS_ s)).length u.2.2) ((ks.take u.1).map (qS_ s))::hMap H2 hb s::tRow p hb lb wb::lMap H2 lb s::wMap H2 wb s::R) (fun u=>ks.length - u.1) (0,none,0) (Nat.zero_le _) (hs0:=?_) fun ⟨k,d,e⟩ hk0 K hL=>?_
 rotate_left
 ·exact v144_
 simp only at hk0;dsimp only;have hll:((ks.take k).map (qS_ s)).length=k:=by simp;omega
 refine walk ?_;refine ze_ rfl (fun hk=>?_) (fun hk=>?_)
 ·have hk1:k<ks.length:=by omega
  have ht:=List.take_succ_eq_append_getElem hk1;refine walk ?_;refine Zd_ rfl rfl hsl.1 hk1 fun b o c hr hc=>?_;obtain ⟨rfl,hsz⟩:=hc;refine walk ?_;refine Zcj_ (RV:=rInt) (ag:=false) (z:=0) rfl rfl (by repeat (first | exact Has.here | apply Has.there)) ?_;refine walk ?_;refine Zj_ (y:=qS_ s ks[k]) rfl rfl rfl ⟨rfl,hsz,Zdg_ hs _⟩ (by rw [hll];simp only [Qb_];omega) fun d3 e3=>?_;have hse:(ks.take k).map (qS_ s)++[qS_ s ks[k]]=(ks.take (k+1)).map (qS_ s):=by rw [ht,List.map_append];rfl
  have hsl2:((ks.take k).map (qS_ s)).length+1=((ks.take (k+1)).map (qS_ s)).length:=by rw [←hse];simp
  rw [hsl2,hse];exact v76_
 ·clear hL;obtain rfl:k=ks.length:=by omega
  refine walk ?_;rw [List.take_length] at*;refine finB [ownS Zae_ 2 24 42 H3 (.slice d (ks.map (qS_ s)).length e) (ks.map (qS_ s)),tabO H3 p s] ?_ (hs:=?_)
  ·exact rfl
  ·refine Sub.trans ?_ (Sub.cons (Sub.trans (qH_ (H:=H2) (hb:=hb) (lb:=lb) (wb:=wb)) (zai_ hl3)));exact subA
end Go.Proofs.YtlflbkpmfhhikaaGreatDoor
namespace Go.Proofs.YtlflbkpmfhhikaaGreatDoor
open Go Go.Sx Go.Proofs
def Qav_ (s:TS) (k:K3):Rec:=⟨2,toTx k,((mget k s.works).getD zCW).2,false,[]⟩
def prepL (s:TS):List Rec:=(sort3 (s.works.map (·.1))).map (Qav_ s)
theorem QM_ {l:List K3} {k:K3}:k∈sort3 l↔k∈l:=by unfold sort3;exact List.mem_mergeSort
theorem ZbN_ {H:Heap}:rCW H zCW.1 zCW:=⟨rfl,qau_⟩
theorem ZG_ {W0:World} {H:Heap} {p:Nat} {s:TS} (hs:TsOk s):
  Ct Tryz.prog 47 #[.pointer (some ⟨p,0,none⟩)] W0 H [tabO H p s] (fun r H' B=>B=[ownS rRec 9 120 53 H' r (prepL s),tabO H' p s]):=by
 refine Ct.go (vs:=[.pointer (some ⟨p,0,none⟩)]) fun R=>?_;have hn:=hs.wn;have hcap:(1000000:Nat)*120≤Qb_:=by decide
 refine Zg_ (A:=tabO H p s) (σ:=Nat×Nat×Nat) (B:=fun a=>[tRow p a.1 a.2.1 a.2.2,hMap H a.1 s,lMap H a.2.1 s,wMap H a.2.2 s]) (p:=fun _=>True) (by repeat (first | exact Has.here | apply Has.there)) (fun h ⟨hb,lb,wb,hbig⟩=>⟨(hb,lb,wb),trivial,hbig⟩) fun ⟨hb,lb,wb⟩ _=>?_;dsimp only;refine Qau_ (A:=wMap H wb s) (by repeat (first | exact Has.here | apply Has.there)) (fun h ho=>zaj_ ho) fun hkw=>?_;refine walk ?_;refine Za_ rfl rfl ZdH_ fun r1 H1 B hl1 ⟨pk,er,eB,eH⟩=>?_;subst er eB eH;have hc:=Qbs_ (W0:=W0) (H:=H1) (H0:=H1) (RV:=rCW) (ag:=true) (p:=pk) (b:=wb) (ms:=s.works) hs.wf (by simp only [Qb_];omega);refine Za_ rfl rfl hc fun r2 H2 B hl2 ⟨eB,eH⟩=>?_;subst eB eH;have hlen:(sort3 (s.works.map (·.1))).length=s.works.length:=by rw [qC_,List.length_map]
 have hmem:∀k∈sort3 (s.works.map (·.1)),fits k.1∧fits k.2.1∧fits k.2.2:=fun k hk=>by
  obtain ⟨q,hq,rfl⟩:=List.mem_map.1 (QM_.1 hk);exact hs.wf q hq
 have hread:∀k,rCW H2 ((mget k s.works).getD zCW).1 ((mget k s.works).getD zCW):=fun k=>by
  cases hg:mget k s.works with
  | none=>exact ZbN_
  | some v=>obtain ⟨cs,e,h⟩:=hkw.1 (k,v) (qu_ hg);exact ⟨rfl,by subst e;exact h⟩
 unfold prepL;generalize sort3 (s.works.map (·.1))=ks at*;refine Zc_ r2 fun H3 hl3 hsl=>?_;obtain ⟨b0,c0,rfl,hc0,hd0⟩:=hsl.1.shape;have hlx:(ks.map toTx).length=ks.length:=by simp
 refine walk ?_
 refine Qc_ (σ:=Nat×Option Addr×Nat×Heap) (fun u=>u.1≤ks.length∧H3.le u.2.2.2) (fun u=>[(0,.pointer (some ⟨p,0,none⟩)),(11,.slice b0 (ks.map toTx).length c0),(12,I (ks.map toTx).length),(13,I u.1),(3,.slice u.2.1 ((ks.take u.1).map (Qav_ s)).length u.2.2.1)]) (fun u=>u.2.2.2)
  (fun u=>ownS rRec 9 120 53 u.2.2.2 (.slice u.2.1 ((ks.take u.1).map (Qav_ s)).length u.2.2.1) ((ks.take u.1).map (Qav_ s))::wMap H2 wb s::tRow p hb lb wb::hMap H2 hb s::lMap H2 lb s::R) (fun u=>ks.length - u.1) (0,none,0,H3) ⟨Nat.zero_le _,.refl _⟩ (hs0:=?_) fun ⟨k,d,e,HK⟩ ⟨hk0,hlK⟩ K hL=>?_
 rotate_left
 ·exact v144_
 simp only at hk0 hlK;dsimp only;have hll:((ks.take k).map (Qav_ s)).length=k:=by simp;omega
 refine walk ?_;refine ze_ rfl (fun hk=>?_) (fun hk=>?_)
 ·have hk1:k<ks.length:=by omega
  have ht:=List.take_succ_eq_append_getElem hk1;refine walk ?_;refine Zd_ rfl rfl (hsl.mono hlK).1 (show k<(ks.map toTx).length by simpa using hk1) fun b o c hr hc=>?_;have hx:(ks.map toTx)[k]'(by simpa using hk1)=toTx ks[k]:=by simp
  rw [hx] at hc;have hkm:=hmem ks[k] (List.getElem_mem hk1);have hrd:=hread ks[k];have hse:(ks.take k).map (Qav_ s)++[Qav_ s ks[k]]=(ks.take (k+1)).map (Qav_ s):=by rw [ht,List.map_append];rfl
  have hsl2:((ks.take k).map (Qav_ s)).length+1=((ks.take (k+1)).map (Qav_ s)).length:=by rw [←hse];simp
  obtain ⟨rfl,_⟩:=hc;generalize ks[k]=kk at*;obtain ⟨ka,kb,kc⟩:=kk;dsimp only at hkm;change HRow HK b o [I ka,I kb,I kc] at hr;refine walk ?_;refine zf_ rfl rfl hr rfl ?_;refine zb_ rfl fun p5 _=>?_;refine walk ?_;refine zc_ 12 [wMap H2 wb s,tRow p hb lb wb,row p5 47 [I ka,I kb,I kc]] ?_;refine qa_ 0 ?_;refine qa_ 1 ?_;refine qa_ 2 ?_;refine qa_ 3 ?_;refine qa_ 4 ?_;refine qa_ 5 ?_;refine qa_ 6 ?_;refine qck_ (RV:=rCW) (ag:=true) (z:=zCW) 7 rfl rfl rfl (by repeat (first | exact Has.here | apply Has.there)) ?_;refine qe_ 8 rfl rfl rfl (ZaE_ (RdOk.mono (R:=zj_) (hl3.trans hlK) hrd.2)) fun r4 H4 B hl4 ⟨cs,er,hcs,eB⟩=>?_;subst er eB;refine ⟨subA,?_⟩;obtain ⟨s1,s2,rfl,hrob,hs1,hs2⟩:=hcs;refine qa_ 9 ?_;have fk2:fits (2:Int):=by unfold fits;omega
  refine zx_ (y:=Qav_ s (ka,kb,kc)) 10 11 rfl rfl rfl ⟨s1,s2,nilS,rfl,fk2,hkm.1,hkm.2.1,hkm.2.2,hrob,hs1,hs2,SlB.nil⟩ (by rw [hll];simp only [Qb_];omega) fun d3 e3=>⟨subA,?_⟩;rw [hsl2,hse];refine qb_ rfl ?_;refine walk ?_;exact Zb_ hL (k+1,d3,e3,H4) ⟨by simp only;omega,hlK.trans hl4⟩
 ·clear hL;obtain rfl:k=ks.length:=by omega
  refine walk ?_;rw [List.take_length] at*;refine finB [ownS rRec 9 120 53 HK (.slice d (ks.map (Qav_ s)).length e) (ks.map (Qav_ s)),tabO HK p s] ?_ (hs:=?_)
  ·exact rfl
  ·refine Sub.trans ?_ (Sub.cons (Sub.trans (qH_ (H:=H2) (hb:=hb) (lb:=lb) (wb:=wb)) (zai_ (hl3.trans hlK))));exact subA
theorem Zcz_ {H:Heap} {s:TS} (h:∀q∈s.works,∃cs,rCW H cs q.2) (k:K3):zj_ H ((mget k s.works).getD zCW).1 ((mget k s.works).getD zCW).2:=by
 cases hg:mget k s.works with
 | none=>exact ZbN_.2
 | some v=>obtain ⟨cs,e,h⟩:=h (k,v) (qu_ hg);subst e;exact h
def Work.ks (w:Work):List ByteArray:=w.Take++w.Drop
def dupT (l:List ByteArray):Prop:=(compT (sortT l)).length<l.length
instance {l:List ByteArray}:Decidable (dupT l):=by unfold dupT;infer_instance
def wayT (s:TS) (w:Work):Nat→List ByteArray→Bool
  | _,[]=>true
  | i,k::l=> !(mget k s.locked).isSome&&(decide (w.Take.length≤i) || !(mget k s.held).isSome)&&wayT s w (i+1) l
theorem zbN_ {s:TS} {w:Work} {k:ByteArray}:∀{l:List ByteArray} {i:Nat},wayT s w i (l++[k])=(wayT s w i l&&(!(mget k s.locked).isSome&&(decide (w.Take.length≤i+l.length) || !(mget k s.held).isSome)))
 | [],i=>by simp [wayT]
 | a::l,i=>by
  have ih:=zbN_ (s:=s) (w:=w) (k:=k) (l:=l) (i:=i+1);simp only [List.cons_append,wayT,ih,List.length_cons,Bool.and_assoc,show i+1+l.length=i+(l.length+1) by omega]
theorem up1 {H H':Heap} {hb:Nat} {l:List (ByteArray×Int)} {L:List za_} (hl:H.le H'):Sub (mapO Value.string rInt false H hb l::L) (mapO Value.string rInt false H' hb l::L):=ZaI_ hl
theorem up2 {H H':Heap} {hb:Nat} {l:List (ByteArray×Txn)} {L:List za_} (hl:H.le H'):Sub (mapO Value.string rTxn true H hb l::L) (mapO Value.string rTxn true H' hb l::L):=ZaI_ hl
theorem up3 {H H':Heap} {hb:Nat} {l:List (K3×CW)} {L:List za_} (hl:H.le H'):Sub (mapO ek3 rCW true H hb l::L) (mapO ek3 rCW true H' hb l::L):=ZaI_ hl
def QG_ (x:Txn) (ks:List ByteArray) (l:List (ByteArray×Txn)):List (ByteArray×Txn):=ks.foldl (fun l k=>mset k x l) l
theorem QbN_ {x:Txn} {ks:List ByteArray} {k:ByteArray} {l:List (ByteArray×Txn)}:QG_ x (ks++[k]) l=mset k x (QG_ x ks l):=by simp [QG_]
def QE_ (s:TS) (x:Txn) (w:Work):Int:=if (mget x.k s.works).isSome=true then 2 else if dupT w.ks then 1 else if wayT s w 0 w.ks=true then 0 else 140
def zU_ (s:TS) (x:Txn) (w:Work) (cs:List Value):TS:=⟨s.held,QG_ x w.ks s.locked,mset x.k (cs,w) s.works⟩
theorem v72_ {P:Prop} (h:P:=by
 exact Zb_ hL (k+1) (by omega)):P:=h
theorem ZaO_ {W0:World} {H:Heap} {p:Nat} {s:TS} {x:Txn} {w:Work} {cw:List Value} (hx:fits x.Node∧fits x.Life∧fits x.Count) (hw:zj_ H cw w) (hwn:(w.ks.length)*16≤Qb_):
  Ct Tryz.prog 101 #[.pointer (some ⟨p,0,none⟩),.agg x.cv.toArray,.agg cw.toArray] W0 H [tabO H p s] (fun r H' B=>r=I (QE_ s x w)∧∃cs,zj_ H' cs w∧B=[tabO H' p (if QE_ s x w=0 then zU_ s x w cs else s)]):=by
 refine Ct.go (vs:=[.pointer (some ⟨p,0,none⟩),.agg x.cv.toArray,.agg cw.toArray]) fun R=>?_;obtain ⟨s1,s2,rfl,hrob,hs1,hs2⟩:=hw;obtain ⟨b1,c1,rfl,hc1,hd1⟩:=hs1.1.shape;obtain ⟨b2,c2,rfl,hc2,hd2⟩:=hs2.1.shape;obtain ⟨x1,x2,x3⟩:=x;dsimp only at hx;refine Zg_ (A:=tabO H p s) (σ:=Nat×Nat×Nat) (B:=fun a=>[tRow p a.1 a.2.1 a.2.2,hMap H a.1 s,lMap H a.2.1 s,wMap H a.2.2 s]) (p:=fun _=>True) (by repeat (first | exact Has.here | apply Has.there)) (fun h ⟨hb,lb,wb,hbig⟩=>⟨(hb,lb,wb),trivial,hbig⟩) fun ⟨hb,lb,wb⟩ _=>?_;dsimp only;refine Qau_ (A:=wMap H wb s) (by repeat (first | exact Has.here | apply Has.there)) (fun h ho=>zaj_ ho) fun hkw=>?_;have hrd:=Zcz_ hkw.1 (x1,x2,x3);refine walk ?_;refine qc_ rfl rfl fun p4 _=>?_;refine qc_ rfl rfl fun p5 _=>?_;refine walk ?_;refine zc_ 11 [wMap H wb s,tRow p hb lb wb,row p4 47 [I x1,I x2,I x3]] ?_;refine qa_ 0 ?_;refine qa_ 1 ?_;refine qa_ 2 ?_;refine qa_ 3 ?_;refine qa_ 4 ?_;refine zcC_ (RV:=rCW) (ag:=true) (z:=zCW) 5 rfl rfl rfl (by repeat (first | exact Has.here | apply Has.there)) ?_;obtain ⟨q1,q2,hq,_,hq1,hq2⟩:=hrd;obtain ⟨g1,f1,rfl,_,_⟩:=hq1.1.shape;obtain ⟨g2,f2,rfl,_,_⟩:=hq2.1.shape;rw [hq];refine qa_ 6 ?_;refine zd_ 7 rfl rfl rfl rfl ?_;refine zd_ 8 rfl rfl rfl rfl ?_;refine Zs_ 9 rfl rfl fun p7 _=>?_;refine zk_ 10 rfl rfl rfl rfl (by simp) rfl ⟨subA,?_⟩;refine qb_ rfl ?_;rw [show (mget (x1,x2,x3) s.works).isSome=decide ((mget (x1,x2,x3) s.works).isSome=true) by simp];refine walk ?_;refine ze_ rfl (fun hin=>?_) (fun hin=>?_)
 ·refine walk ?_;refine finB [tabO H p s] ?_ (hs:=?_)
  ·have hE:QE_ s ⟨x1,x2,x3⟩ w=2:=if_pos hin;refine ⟨by rw [hE],_,⟨_,_,rfl,hrob,hs1,hs2⟩,?_⟩;rw [hE,if_neg (by decide)]
  ·refine Sub.trans ?_ (qH_ (hb:=hb) (lb:=lb) (wb:=wb));exact subA
 refine walk ?_;refine zaw_ rfl rfl fun pb _=>?_;refine qO_ .here fun H1 hl1 hr1=>?_;have hsr:SlR (rSl rStr 1 16) 1 H1 (.slice (some ⟨pb,0,none⟩) 2 2) [w.Take,w.Drop]:=Qn_ (R:=rSl rStr 1 16) (xs:=[w.Take,w.Drop]) hr1 (show RL (rSl rStr 1 16) H1 [.slice b1 w.Take.length c1,.slice b2 w.Drop.length c2] [w.Take,w.Drop] from ⟨[_],[_],rfl,⟨_,rfl,hs1.mono hl1⟩,⟨[_],[],rfl,⟨_,rfl,hs2.mono hl1⟩,rfl⟩⟩) (by simp) (by omega);have hwn':(w.Take.length+w.Drop.length)*16≤Qb_:=by simpa [Work.ks] using hwn
 have hwn2:w.Take.length+w.Drop.length≤8796093022208:=by have:=hwn';simp only [Qb_] at this;omega
 have hcat:=zS_ (W0:=W0) hsr (by simpa [qz_] using hwn');rw [show [w.Take,w.Drop].flatten=w.ks by simp [Work.ks]] at hcat;refine Za_ rfl rfl hcat fun r1 H2 B hl2 ⟨eB,eH⟩=>?_;subst eB eH;refine walk ?_;refine Za_ rfl rfl (qdH_ (W0:=W0) (H:=H2) (H0:=H2) (v:=r1) (xs:=w.ks)) fun r2 H3 B hl3 ⟨er,eB,eH⟩=>?_;subst er eB eH;refine walk ?_;refine zc_ 10 [row p5 50 (w.cv (.slice b1 w.Take.length c1) (.slice b2 w.Drop.length c2))] ?_;refine qa_ 0 ?_;refine qa_ 3 ?_;refine qa_ 4 ?_;refine qa_ 5 ?_;refine qa_ 6 ?_;refine qa_ 7 ?_;refine qa_ 8 ?_;refine qa_ 9 ?_;refine qe_ 1 rfl rfl rfl (Qch_ (W0:=W0) (H:=H3) (H0:=H3) (v:=r1) (xs:=sortT w.ks)) fun r3 H4 B hl4 ⟨eB,eH⟩=>?_;subst eB eH;refine ⟨subA,?_⟩;refine QbJ_ r3 fun d3 e3 e _ _ _=>?_;subst e;refine qa_ 2 ?_;refine qb_ rfl ?_;refine walk ?_
 have hdup:(((compT (sortT w.ks)).length:Nat):Int)<(w.Take.length:Nat)+(w.Drop.length:Nat)↔dupT w.ks:=by
  unfold dupT;rw [show w.ks.length=w.Take.length+w.Drop.length by simp [Work.ks]];omega
 refine ze_ rfl (fun hdu=>?_) (fun hdu=>?_)
 ·rw [hdup] at hdu;refine walk ?_;refine finB [tabO H4 p s] ?_ (hs:=?_)
  ·have hE:QE_ s ⟨x1,x2,x3⟩ w=1:=(if_neg hin).trans (if_pos hdu);refine ⟨by rw [hE],_,⟨_,_,rfl,hrob,hs1.mono (hl1.trans (hl2.trans (hl3.trans hl4))),hs2.mono (hl1.trans (hl2.trans (hl3.trans hl4)))⟩,?_⟩;rw [hE,if_neg (by decide)]
  ·refine Sub.trans ?_ (Sub.trans (qH_ (H:=H) (hb:=hb) (lb:=lb) (wb:=wb)) (zai_ (hl1.trans (hl2.trans (hl3.trans hl4)))));exact subA
 rw [hdup] at hdu;refine walk ?_;refine zaw_ rfl rfl fun pc _=>?_;refine qO_ .here fun H5 hl5 hr5=>?_;have hl05:H.le H5:=hl1.trans (hl2.trans (hl3.trans (hl4.trans hl5)));have hsr5:SlR (rSl rStr 1 16) 1 H5 (.slice (some ⟨pc,0,none⟩) 2 2) [w.Take,w.Drop]:=Qn_ (R:=rSl rStr 1 16) (xs:=[w.Take,w.Drop]) hr5 (show RL (rSl rStr 1 16) H5 [.slice b1 w.Take.length c1,.slice b2 w.Drop.length c2] [w.Take,w.Drop] from ⟨[_],[_],rfl,⟨_,rfl,hs1.mono hl05⟩,⟨[_],[],rfl,⟨_,rfl,hs2.mono hl05⟩,rfl⟩⟩) (by simp) (by omega);have hcat5:=zS_ (W0:=W0) hsr5 (by simpa [qz_] using hwn');rw [show [w.Take,w.Drop].flatten=w.ks by simp [Work.ks]] at hcat5;refine Za_ rfl rfl hcat5 fun r5 H6 B hl6 ⟨eB,eH⟩=>?_;subst eB eH;refine Zc_ r5 fun H7 hl7 hsl=>?_;obtain ⟨bk,ck,rfl,hck,hdk⟩:=hsl.1.shape;refine walk ?_
 refine Qc_ (σ:=Nat) (fun k=>k≤w.ks.length) (fun k=>[(0,.pointer (some ⟨p,0,none⟩)),(4,.pointer (some ⟨p4,0,none⟩)),(5,.pointer (some ⟨p5,0,none⟩)),(10,.bool (decide (wayT s w 0 (w.ks.take k)=true))),(53,.slice bk w.ks.length ck),(54,I w.ks.length),(55,I k)]) (fun _=>H7)
  (fun _=>row p5 50 (w.cv (.slice b1 w.Take.length c1) (.slice b2 w.Drop.length c2))::row p4 47 [I x1,I x2,I x3]::tRow p hb lb wb::hMap H hb s::lMap H lb s::wMap H wb s::R) (fun k=>w.ks.length - k) 0 (Nat.zero_le _) fun k hk0 K hL=>?_
 refine walk ?_;refine ze_ rfl (fun hk=>?_) (fun hk=>?_)
 ·have hk1:k<w.ks.length:=by omega
  have ht:=List.take_succ_eq_append_getElem hk1;have hwy:=zbN_ (s:=s) (w:=w) (k:=w.ks[k]) (l:=w.ks.take k) (i:=0);rw [←ht,Nat.zero_add,List.length_take,Nat.min_eq_left hk0] at hwy;refine walk ?_;refine Zd_ rfl rfl hsl.1 hk1 fun b o c hr hc=>?_;obtain ⟨rfl,hsz⟩:=hc;refine walk ?_;refine Zap_ (RV:=rInt) (ag:=false) (z:=0) rfl rfl (by repeat (first | exact Has.here | apply Has.there)) ?_;refine walk ?_;refine Zap_ (RV:=rTxn) (ag:=true) (z:=zTxn) rfl rfl (by repeat (first | exact Has.here | apply Has.there)) ?_;refine walk ?_;rw [show (mget w.ks[k] s.locked).isSome=decide ((mget w.ks[k] s.locked).isSome=true) by simp,show (mget w.ks[k] s.held).isSome=decide ((mget w.ks[k] s.held).isSome=true) by simp];refine zb_ rfl fun p15 _=>?_;refine QB_ ?_
  have hd:=bdec (p:=(wayT s w 0 (w.ks.take k)=true∧¬(mget w.ks[k] s.locked).isSome=true)∧((w.Take.length:Int)≤(k:Int)∨¬(mget w.ks[k] s.held).isSome=true)) (q:=wayT s w 0 (w.ks.take (k+1))=true) (by
   rw [hwy];simp only [Bool.and_eq_true,Bool.or_eq_true,Bool.not_eq_true',decide_eq_true_eq,Bool.not_eq_true,Int.ofNat_le,and_assoc])
  rw [hd];exact v72_
 clear hL;obtain rfl:k=w.ks.length:=by omega
 rw [List.take_length];refine walk ?_;refine ze_ rfl (fun hfr=>?_) (fun hfr=>?_)
 ·refine walk ?_;refine finB [tabO H7 p s] ?_ (hs:=?_)
  ·have hE:QE_ s ⟨x1,x2,x3⟩ w=140:=(if_neg hin).trans ((if_neg hdu).trans (if_neg hfr));refine ⟨by rw [hE],_,⟨_,_,rfl,hrob,hs1.mono (hl05.trans (hl6.trans hl7)),hs2.mono (hl05.trans (hl6.trans hl7))⟩,?_⟩;rw [hE,if_neg (by decide)]
  ·refine Sub.trans ?_ (Sub.trans (qH_ (H:=H) (hb:=hb) (lb:=lb) (wb:=wb)) (zai_ (hl05.trans (hl6.trans hl7))));exact subA
 have hfr':wayT s w 0 w.ks=true:=by simpa using hfr
 have hE:QE_ s ⟨x1,x2,x3⟩ w=0:=(if_neg hin).trans ((if_neg hdu).trans (if_pos hfr'));refine walk ?_;refine zc_ 7 [row p4 47 [I x1,I x2,I x3],row p5 50 (w.cv (.slice b1 w.Take.length c1) (.slice b2 w.Drop.length c2)),tRow p hb lb wb] ?_;refine qa_ 0 ?_;refine qa_ 1 ?_;refine qa_ 2 ?_;refine qa_ 3 ?_;refine qa_ 4 ?_;refine qa_ 5 ?_;have hl07:H.le H7:=hl05.trans (hl6.trans hl7);refine qe_ 6 rfl rfl rfl (ZaE_ (m:=w) ⟨_,_,rfl,hrob,hs1.mono hl07,hs2.mono hl07⟩) fun r6 H8 B hl8 ⟨cs,er,hcs,eB⟩=>?_;subst er eB;refine ⟨subA,?_⟩;have hl08:H.le H8:=hl07.trans hl8;refine qb_ rfl ?_;refine Zw_ (L':=wMap H8 wb s::hMap H8 hb s::lMap H8 lb s::row p5 50 (w.cv (.slice b1 w.Take.length c1) (.slice b2 w.Drop.length c2))::row p4 47 [I x1,I x2,I x3]::tRow p hb lb wb::R) ?_ ?_
 ·refine Sub.trans ?_ (Sub.trans (up3 hl08) (Sub.cons (Sub.trans (up1 hl08) (Sub.cons (up2 hl08)))));exact subA
 refine Zu_ (RV:=rCW) (ag:=true) (cs:=cs) (u:=(cs,w)) rfl rfl ⟨rfl,hcs⟩ (by repeat (first | exact Has.here | apply Has.there)) ?_;refine walk ?_;refine zaw_ rfl rfl fun pd _=>?_;refine qO_ .here fun H9 hl9 hr9=>?_;have hl09:H.le H9:=hl08.trans hl9;have hsr9:SlR (rSl rStr 1 16) 1 H9 (.slice (some ⟨pd,0,none⟩) 2 2) [w.Take,w.Drop]:=Qn_ (R:=rSl rStr 1 16) (xs:=[w.Take,w.Drop]) hr9 (show RL (rSl rStr 1 16) H9 [.slice b1 w.Take.length c1,.slice b2 w.Drop.length c2] [w.Take,w.Drop] from ⟨[_],[_],rfl,⟨_,rfl,hs1.mono hl09⟩,⟨[_],[],rfl,⟨_,rfl,hs2.mono hl09⟩,rfl⟩⟩) (by simp) (by omega);have hcat9:=zS_ (W0:=W0) hsr9 (by simpa [qz_] using hwn');rw [show [w.Take,w.Drop].flatten=w.ks by simp [Work.ks]] at hcat9;refine Za_ rfl rfl hcat9 fun r9 H10 B hl10 ⟨eB,eH⟩=>?_;subst eB eH;refine Zc_ r9 fun H11 hl11 hsm=>?_;obtain ⟨bm,cm,rfl,hcm,hdm⟩:=hsm.1.shape;refine walk ?_
 refine Qc_ (σ:=Nat) (fun k=>k≤w.ks.length) (fun k=>[(0,.pointer (some ⟨p,0,none⟩)),(4,.pointer (some ⟨p4,0,none⟩)),(109,.slice bm w.ks.length cm),(110,I w.ks.length),(111,I k)]) (fun _=>H11)
  (fun k=>mapO Value.string rTxn true H8 lb (QG_ ⟨x1,x2,x3⟩ (w.ks.take k) s.locked)::row p4 47 [I x1,I x2,I x3]::tRow p hb lb wb::mapO ek3 rCW true H8 wb (mset (x1,x2,x3) (cs,w) s.works)::hMap H8 hb s::R) (fun k=>w.ks.length - k) 0 (Nat.zero_le _) fun k hk0 K hL=>?_
 refine walk ?_;refine ze_ rfl (fun hk=>?_) (fun hk=>?_)
 ·have hk1:k<w.ks.length:=by omega
  have ht:=List.take_succ_eq_append_getElem hk1;refine walk ?_;refine Zd_ rfl rfl hsm.1 hk1 fun b o c hr hc=>?_;obtain ⟨rfl,hsz⟩:=hc;refine walk ?_;refine zc_ 6 [row p4 47 [I x1,I x2,I x3],tRow p hb lb wb] ?_;refine qa_ 0 ?_;refine qa_ 1 ?_;refine qa_ 2 ?_;refine qa_ 3 ?_;refine qa_ 4 ?_;refine qa_ 5 ?_;refine qb_ rfl ?_;refine Zu_ (RV:=rTxn) (ag:=true) (cs:=[I x1,I x2,I x3]) (u:=⟨x1,x2,x3⟩) rfl rfl ⟨rfl,hx⟩ (by repeat (first | exact Has.here | apply Has.there)) ?_;refine walk ?_;have hse:QG_ ⟨x1,x2,x3⟩ (w.ks.take (k+1)) s.locked=mset w.ks[k] ⟨x1,x2,x3⟩ (QG_ ⟨x1,x2,x3⟩ (w.ks.take k) s.locked):=by rw [ht,QbN_]
  rw [←hse];exact v72_
 clear hL;obtain rfl:k=w.ks.length:=by omega
 rw [List.take_length];refine walk ?_;refine finB [tabO H11 p (zU_ s ⟨x1,x2,x3⟩ w cs)] ?_ (hs:=?_)
 ·refine ⟨by rw [hE],cs,RdOk.mono (R:=zj_) (hl9.trans (hl10.trans hl11)) hcs,?_⟩;rw [hE,if_pos rfl]
 ·refine Sub.trans ?_ (Sub.trans (qH_ (H:=H8) (s:=zU_ s ⟨x1,x2,x3⟩ w cs) (hb:=hb) (lb:=lb) (wb:=wb)) (zai_ (hl9.trans (hl10.trans hl11))));exact subA
def zr_ (ks:List ByteArray) (l:List (ByteArray×Txn)):List (ByteArray×Txn):=ks.foldl (fun l k=>mdel k l) l
theorem Qbn_ {ks:List ByteArray} {k:ByteArray} {l:List (ByteArray×Txn)}:zr_ (ks++[k]) l=mdel k (zr_ ks l):=by simp [zr_]
def Zm_ (r:Int) (ks:List ByteArray) (l:List (ByteArray×Int)):List (ByteArray×Int):=ks.foldl (fun l k=>if (mget k l).isSome=true∧(mget k l).getD 0=r then mdel k l else l) l
theorem ZbM_ {r:Int} {ks:List ByteArray} {k:ByteArray} {l:List (ByteArray×Int)}:Zm_ r (ks++[k]) l=if (mget k (Zm_ r ks l)).isSome=true∧(mget k (Zm_ r ks l)).getD 0=r then mdel k (Zm_ r ks l) else Zm_ r ks l:=by unfold Zm_;rw [List.foldl_append];rfl
def Qv_ (r:Int) (ks:List ByteArray) (l:List (ByteArray×Int)):List (ByteArray×Int):=ks.foldl (fun l k=>mset k r l) l
theorem qbN_ {r:Int} {ks:List ByteArray} {k:ByteArray} {l:List (ByteArray×Int)}:Qv_ r (ks++[k]) l=mset k r (Qv_ r ks l):=by simp [Qv_]
def zaE_ (s:TS) (x:Txn):Int:=if (mget x.k s.works).isSome=true then 0 else 4
def zM_ (s:TS) (x:Txn) (yes:Bool) (w:Work):TS:=⟨if yes=true then Qv_ w.Robot w.Take (Zm_ w.Robot w.Drop s.held) else s.held,zr_ w.ks s.locked,mdel x.k s.works⟩
def Qx_ (s:TS) (x:Txn) (yes:Bool):TS:=if (mget x.k s.works).isSome=true then zM_ s x yes ((mget x.k s.works).getD zCW).2 else s
theorem qcM_ {W0:World} {H:Heap} {p:Nat} {s:TS} {x:Txn} {yes:Bool} (hwn:((mget x.k s.works).getD zCW).2.ks.length*16≤Qb_):
  Ct Tryz.prog 104 #[.pointer (some ⟨p,0,none⟩),.agg x.cv.toArray,.bool yes] W0 H [tabO H p s] (fun r H' B=>r=I (zaE_ s x)∧B=[tabO H' p (Qx_ s x yes)]):=by
 refine Ct.go (vs:=[.pointer (some ⟨p,0,none⟩),.agg x.cv.toArray,.bool yes]) fun R=>?_;obtain ⟨x1,x2,x3⟩:=x;refine Zg_ (A:=tabO H p s) (σ:=Nat×Nat×Nat) (B:=fun a=>[tRow p a.1 a.2.1 a.2.2,hMap H a.1 s,lMap H a.2.1 s,wMap H a.2.2 s]) (p:=fun _=>True) (by repeat (first | exact Has.here | apply Has.there)) (fun h ⟨hb,lb,wb,hbig⟩=>⟨(hb,lb,wb),trivial,hbig⟩) fun ⟨hb,lb,wb⟩ _=>?_;dsimp only;refine Qau_ (A:=wMap H wb s) (by repeat (first | exact Has.here | apply Has.there)) (fun h ho=>zaj_ ho) fun hkw=>?_;have hrd:=Zcz_ hkw.1 (x1,x2,x3);refine walk ?_;refine qc_ rfl rfl fun p4 _=>?_;refine walk ?_;refine zc_ 11 [wMap H wb s,tRow p hb lb wb,row p4 47 [I x1,I x2,I x3]] ?_;refine qa_ 0 ?_;refine qa_ 1 ?_;refine qa_ 2 ?_;refine qa_ 3 ?_;refine qa_ 4 ?_;refine zcC_ (RV:=rCW) (ag:=true) (z:=zCW) 5 rfl rfl rfl (by repeat (first | exact Has.here | apply Has.there)) ?_;have hE:zaE_ s ⟨x1,x2,x3⟩=if (mget (x1,x2,x3) s.works).isSome=true then 0 else 4:=rfl
 have hT:Qx_ s ⟨x1,x2,x3⟩ yes=if (mget (x1,x2,x3) s.works).isSome=true then zM_ s ⟨x1,x2,x3⟩ yes ((mget (x1,x2,x3) s.works).getD zCW).2 else s:=rfl
 change ((mget (x1,x2,x3) s.works).getD zCW).2.ks.length*16≤Qb_ at hwn;rw [hE,hT];clear hE hT;generalize (mget (x1,x2,x3) s.works).getD zCW=q at hrd hwn⊢;obtain ⟨qc,w⟩:=q;dsimp only at hrd hwn;obtain ⟨q1,q2,rfl,hrob,hs1,hs2⟩:=hrd;obtain ⟨b1,c1,rfl,_,_⟩:=hs1.1.shape;obtain ⟨b2,c2,rfl,_,_⟩:=hs2.1.shape;dsimp only;refine qa_ 6 ?_;refine zd_ 7 rfl rfl rfl rfl ?_;refine zd_ 8 rfl rfl rfl rfl ?_;refine Zs_ 9 rfl rfl fun p7 _=>?_;refine zk_ 10 rfl rfl rfl rfl (by simp) (show _=w.cv (.slice b1 w.Take.length c1) (.slice b2 w.Drop.length c2) from rfl) ⟨subA,?_⟩;refine qb_ rfl ?_;rw [show (mget (x1,x2,x3) s.works).isSome=decide ((mget (x1,x2,x3) s.works).isSome=true) by simp];refine walk ?_;refine ze_ rfl (fun hin=>?_) (fun hin=>?_)
 ·refine walk ?_;have hin':¬(mget (x1,x2,x3) s.works).isSome=true:=hin;refine finB [tabO H p s] ?_ (hs:=?_)
  ·exact ⟨by simp [hin'],by simp [hin']⟩
  ·refine Sub.trans ?_ (qH_ (hb:=hb) (lb:=lb) (wb:=wb));exact subA
 have hin':(mget (x1,x2,x3) s.works).isSome=true:=Classical.byContradiction hin;refine walk ?_;refine zc_ 5 [tRow p hb lb wb,row p4 47 [I x1,I x2,I x3]] ?_;refine qa_ 0 ?_;refine qa_ 1 ?_;refine qa_ 2 ?_;refine qa_ 3 ?_;refine qa_ 4 ?_;refine qb_ rfl ?_;refine QZ_ (ek:=ek3) rfl (by repeat (first | exact Has.here | apply Has.there)) ?_;refine walk ?_;refine zaw_ rfl rfl fun pb _=>?_;refine qO_ .here fun H1 hl1 hr1=>?_;have hwn':(w.Take.length+w.Drop.length)*16≤Qb_:=by simpa [Work.ks] using hwn
 have hsr:SlR (rSl rStr 1 16) 1 H1 (.slice (some ⟨pb,0,none⟩) 2 2) [w.Take,w.Drop]:=Qn_ (R:=rSl rStr 1 16) (xs:=[w.Take,w.Drop]) hr1 (show RL (rSl rStr 1 16) H1 [.slice b1 w.Take.length c1,.slice b2 w.Drop.length c2] [w.Take,w.Drop] from ⟨[_],[_],rfl,⟨_,rfl,hs1.mono hl1⟩,⟨[_],[],rfl,⟨_,rfl,hs2.mono hl1⟩,rfl⟩⟩) (by simp) (by omega);have hcat:=zS_ (W0:=W0) hsr (by simpa [qz_] using hwn');rw [show [w.Take,w.Drop].flatten=w.ks by simp [Work.ks]] at hcat;refine Za_ rfl rfl hcat fun r1 H2 B hl2 ⟨eB,eH⟩=>?_;subst eB eH;refine Zc_ r1 fun H3 hl3 hsl=>?_;obtain ⟨bk,ck,rfl,hck,hdk⟩:=hsl.1.shape;have hl03:H.le H3:=hl1.trans (hl2.trans hl3);refine walk ?_
 refine Qc_ (σ:=Nat) (fun k=>k≤w.ks.length) (fun k=>[(0,.pointer (some ⟨p,0,none⟩)),(2,.bool yes),(7,.pointer (some ⟨p7,0,none⟩)),(38,.slice bk w.ks.length ck),(39,I w.ks.length),(40,I k)]) (fun _=>H3)
  (fun k=>mapO Value.string rTxn true H lb (zr_ (w.ks.take k) s.locked)::row p7 50 (w.cv (.slice b1 w.Take.length c1) (.slice b2 w.Drop.length c2))::tRow p hb lb wb::mapO ek3 rCW true H wb (mdel (x1,x2,x3) s.works)::hMap H hb s::R) (fun k=>w.ks.length - k) 0 (Nat.zero_le _) fun k hk0 K hL=>?_
 refine walk ?_;refine ze_ rfl (fun hk=>?_) (fun hk=>?_)
 ·have hk1:k<w.ks.length:=by omega
  have ht:=List.take_succ_eq_append_getElem hk1;refine walk ?_;refine Zd_ rfl rfl hsl.1 hk1 fun b o c hr hc=>?_;obtain ⟨rfl,hsz⟩:=hc;refine walk ?_;refine QZ_ (ek:=Value.string) rfl (by repeat (first | exact Has.here | apply Has.there)) ?_;refine walk ?_;have hse:zr_ (w.ks.take (k+1)) s.locked=mdel w.ks[k] (zr_ (w.ks.take k) s.locked):=by rw [ht,Qbn_]
  rw [←hse];exact v72_
 clear hL;obtain rfl:k=w.ks.length:=by omega
 rw [List.take_length]
 cases yes with
 | false=>
  refine walk ?_;refine finB [tabO H3 p (zM_ s ⟨x1,x2,x3⟩ false w)] ?_ (hs:=?_)
  ·exact ⟨by simp [hin'],by simp [hin']⟩
  ·refine Sub.trans ?_ (Sub.trans (qH_ (H:=H) (s:=zM_ s ⟨x1,x2,x3⟩ false w) (hb:=hb) (lb:=lb) (wb:=wb)) (zai_ hl03));exact subA
 | true=>
  refine walk ?_
  refine Qc_ (σ:=Nat) (fun k=>k≤w.Drop.length) (fun k=>[(0,.pointer (some ⟨p,0,none⟩)),(7,.pointer (some ⟨p7,0,none⟩)),(53,.slice b2 w.Drop.length c2),(54,I w.Drop.length),(55,I k)]) (fun _=>H3)
   (fun k=>mapO Value.string rInt false H hb (Zm_ w.Robot (w.Drop.take k) s.held)::row p7 50 (w.cv (.slice b1 w.Take.length c1) (.slice b2 w.Drop.length c2))::tRow p hb lb wb::mapO ek3 rCW true H wb (mdel (x1,x2,x3) s.works)::mapO Value.string rTxn true H lb (zr_ w.ks s.locked)::R) (fun k=>w.Drop.length - k) 0 (Nat.zero_le _) fun k hk0 K hL=>?_
  refine walk ?_;refine ze_ rfl (fun hk=>?_) (fun hk=>?_)
  ·have hk1:k<w.Drop.length:=by omega
   have ht:=List.take_succ_eq_append_getElem hk1;have hse:=ZbM_ (r:=w.Robot) (ks:=w.Drop.take k) (k:=w.Drop[k]) (l:=s.held);rw [←ht] at hse;refine walk ?_;refine Zd_ rfl rfl (hs2.mono hl03).1 hk1 fun b o c hr hc=>?_;obtain ⟨rfl,hsz⟩:=hc;refine walk ?_;refine Zap_ (RV:=rInt) (ag:=false) (z:=0) rfl rfl (by repeat (first | exact Has.here | apply Has.there)) ?_;rw [show (mget w.Drop[k] (Zm_ w.Robot (w.Drop.take k) s.held)).isSome=decide ((mget w.Drop[k] (Zm_ w.Robot (w.Drop.take k) s.held)).isSome=true) by simp];refine QB_ ?_;refine ze_ rfl (fun hq=>?_) (fun hq=>?_)
   ·rw [if_pos hq] at hse;refine walk ?_;refine QZ_ (ek:=Value.string) rfl (by repeat (first | exact Has.here | apply Has.there)) ?_;refine walk ?_;rw [←hse];exact v72_
   ·rw [if_neg hq] at hse;refine walk ?_;rw [←hse];exact v72_
  clear hL;obtain rfl:k=w.Drop.length:=by omega
  rw [List.take_length];refine walk ?_
  refine Qc_ (σ:=Nat) (fun k=>k≤w.Take.length) (fun k=>[(0,.pointer (some ⟨p,0,none⟩)),(7,.pointer (some ⟨p7,0,none⟩)),(82,.slice b1 w.Take.length c1),(83,I w.Take.length),(84,I k)]) (fun _=>H3)
   (fun k=>mapO Value.string rInt false H hb (Qv_ w.Robot (w.Take.take k) (Zm_ w.Robot w.Drop s.held))::row p7 50 (w.cv (.slice b1 w.Take.length c1) (.slice b2 w.Drop.length c2))::tRow p hb lb wb::mapO ek3 rCW true H wb (mdel (x1,x2,x3) s.works)::mapO Value.string rTxn true H lb (zr_ w.ks s.locked)::R) (fun k=>w.Take.length - k) 0 (Nat.zero_le _) fun k hk0 K hL=>?_
  refine walk ?_;refine ze_ rfl (fun hk=>?_) (fun hk=>?_)
  ·have hk1:k<w.Take.length:=by omega
   have ht:=List.take_succ_eq_append_getElem hk1;have hse:=qbN_ (r:=w.Robot) (ks:=w.Take.take k) (k:=w.Take[k]) (l:=Zm_ w.Robot w.Drop s.held);rw [←ht] at hse;refine walk ?_;refine Zd_ rfl rfl (hs1.mono hl03).1 hk1 fun b o c hr hc=>?_;obtain ⟨rfl,hsz⟩:=hc;refine walk ?_;refine zc_ 7 [tRow p hb lb wb,row p7 50 (w.cv (.slice b1 w.Take.length c1) (.slice b2 w.Drop.length c2))] ?_;refine qa_ 0 ?_;refine qa_ 1 ?_;refine qa_ 2 ?_;refine qa_ 3 ?_;refine qa_ 4 ?_;refine qa_ 5 ?_;refine qa_ 6 ?_;refine qb_ rfl ?_;refine Zu_ (RV:=rInt) (ag:=false) (cs:=[I w.Robot]) (u:=w.Robot) rfl rfl ⟨rfl,hrob⟩ (by repeat (first | exact Has.here | apply Has.there)) ?_;refine walk ?_;rw [←hse];exact v72_
  clear hL;obtain rfl:k=w.Take.length:=by omega
  rw [List.take_length];refine walk ?_;refine finB [tabO H3 p (zM_ s ⟨x1,x2,x3⟩ true w)] ?_ (hs:=?_)
  ·exact ⟨by simp [hin'],by simp [hin']⟩
  ·refine Sub.trans ?_ (Sub.trans (qH_ (H:=H) (s:=zM_ s ⟨x1,x2,x3⟩ true w) (hb:=hb) (lb:=lb) (wb:=wb)) (zai_ hl03));exact subA
end Go.Proofs.YtlflbkpmfhhikaaGreatDoor
