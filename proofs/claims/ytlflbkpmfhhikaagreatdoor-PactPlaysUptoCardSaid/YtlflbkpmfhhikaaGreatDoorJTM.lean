/- A coordinator's step. -/
import Derived.Test.YtlflbkpmfhhikaaGreatDoorJTL
set_option maxHeartbeats 16000000
set_option maxRecDepth 100000
set_option linter.unusedVariables false
set_option linter.unusedSimpArgs false
namespace Go.Proofs.YtlflbkpmfhhikaaGreatDoor
open Go Go.Sx Go.Proofs
def zar_ (ts:List (K3×TX)) (now:Int) (ks:List K3):List (K3×TX):=ts.filter fun q=> !decide (qv_ q.2 now∧q.1∈ks)
theorem Zbh_ {ν:Type} {k:K3}:∀{m:List (K3×ν)},(m.map (·.1)).Nodup→mdel k m=m.filter fun q=> !decide (q.1=k)
 | [],_=>rfl
 | (a,v)::m,hn=>by
  simp only [List.map_cons,List.nodup_cons] at hn;unfold mdel;by_cases h:k=a
  ·subst h;simp only [if_true,List.filter_cons];rw [List.filter_eq_self.2 fun q hq=>?_]
   ·simp
   ·have:q.1≠k:=fun e=>hn.1 (by rw [←e];exact List.mem_map.2 ⟨q,hq,rfl⟩);simp [this]
  ·rw [if_neg h,List.filter_cons,Zbh_ hn.2];have:¬a=k:=fun e=>h e.symm;simp [this]
theorem Zdp_ {ts:List (K3×TX)} {now:Int}:zar_ ts now []=ts:=by unfold zar_;rw [List.filter_eq_self.2];intro q _;simp
theorem qdN_ {ts:List (K3×TX)} {now:Int} {ks:List K3} {k:K3} {t:TX} (hn:(ts.map (·.1)).Nodup) (hk:mget k ts=some t) (h:¬qv_ t now):zar_ ts now (ks++[k])=zar_ ts now ks:=by
 unfold zar_;refine List.filter_congr fun q hq=>?_;have hg:=zi_ hn hq;by_cases e:q.1=k
 ·rw [e] at hg;rw [hk] at hg;cases hg;simp [h]
 ·simp [List.mem_append,e]
theorem qdq_ {ts:List (K3×TX)} {now:Int} {ks:List K3} {k:K3} {t:TX} (hn:(ts.map (·.1)).Nodup) (hk:mget k ts=some t) (h:qv_ t now):zar_ ts now (ks++[k])=mdel k (zar_ ts now ks):=by
 have hn2:((zar_ ts now ks).map (·.1)).Nodup:=hn.sublist ((List.filter_sublist).map _);rw [Zbh_ hn2];unfold zar_;rw [List.filter_filter];refine List.filter_congr fun q hq=>?_;have hg:=zi_ hn hq;by_cases e:q.1=k
 ·rw [e] at hg;rw [hk] at hg;cases hg;simp [h,e]
 ·simp [List.mem_append,e]
theorem zdq_ {s:CS} {now:Int}:zar_ s.ts now (allC s)=(Qq_ s now).ts:=by
 unfold zar_ Qq_;refine List.filter_congr fun q hq=>?_;have:q.1∈allC s:=by unfold allC;rw [QM_];exact List.mem_map.2 ⟨q,hq,rfl⟩
 simp [this]
theorem Qdq_ {ts:List (K3×TX)} {now:Int} {ks:List K3} {k:K3} {t:TX} (hn:(ts.map (·.1)).Nodup) (hk:mget k ts=some t) (h:k∉ks):mget k (zar_ ts now ks)=some t:=by
 have hn2:((zar_ ts now ks).map (·.1)).Nodup:=hn.sublist ((List.filter_sublist).map _);rw [zap_ hn2];unfold zar_;rw [List.mem_filter];exact ⟨(zap_ hn).1 hk,by simp [h]⟩
theorem ZbT_ {s:CS} {now:Int} {k:K3} {t:TX} (hk:mget k s.ts=some t):(ZJ_ s now k).length≤t.parts.length:=by
 unfold ZJ_;rw [hk,Option.getD_some];split
 ·unfold noL;simp
 ·unfold Zi_;rw [List.length_map];exact List.length_filter_le _ _
theorem v24_ {P:Prop} (h:P:=by
 refine zt_ 6 rfl (zcw_ rfl hor hb2 fun d4 e4=>⟨.refl _,subA,?_⟩);refine qa_ 7 ?_;refine qb_ rfl ?_;rw [show (Oo j).length+(noL s.node ⟨ka,kb,kc⟩ ⟨false,began,parts,works,heard⟩).length=(Oo (j+1)).length by rw [hOs,List.length_append];rfl,show (Oc j).length+1=(Oc (j+1)).length by rw [hOcs,List.length_append];rfl];refine walk ?_;refine Zb_ hL (j+1,(d3,e3),(d4,e4),l1++l2,H5) ⟨by simp only;omega,hlK.trans hl5,by simp only;rw [hFj,←hF];exact (ZcF_ (f:=CE.x) (e:=⟨(ka,kb,kc),ep,.slice bs parts.length cs,⟨false,began,parts,works,heard⟩⟩) hnd').symm⟩ (hs:=?_);dsimp only;refine Sub.trans (B:=ownS Qa_ 19 216 106 H5 (.slice d3 (Oo (j+1)).length e3) (Oo j++noL s.node ⟨ka,kb,kc⟩ ⟨false,began,parts,works,heard⟩)::ownS Qj_ 5 32 186 H5 (.slice d4 (Oc (j+1)).length e4) (Oc j++[qP_ ⟨ka,kb,kc⟩ false false])::bigL (xA H4) (l1++l2)::cRow p mb s::cMap mb (l1++l2)::R) subA ?_;rw [show Oo j++noL s.node ⟨ka,kb,kc⟩ ⟨false,began,parts,works,heard⟩=Oo (j+1) from hOs.symm,show Oc j++[qP_ ⟨ka,kb,kc⟩ false false]=Oc (j+1) from hOcs.symm];refine (Sub.cons (Sub.cons (zcQ_ hl5))).trans ?_;exact subA):P:=h
theorem v79_ {P:Prop} (h:P:=by
 refine (zez_ hl5).trans ?_;refine (Sub.cons (zcQ_ (hl4.trans hl5))).trans ?_;refine bigL_in.trans ?_;refine (Sub.cons (zau_ (hl4.trans hl5))).trans ?_;exact subA):P:=h
theorem Zdq_ {W0:World} {H:Heap} {p n:Nat} {s:CS} {now:Int} (I0:CInv n s) (hn:n≤1000) (hnow:fits now) (hpl:∀k t,mget k s.ts=some t→t.parts.length≤1000000):
  Ct Tryz.prog 43 #[.pointer (some ⟨p,0,none⟩),I now] W0 H [zh_ H p s] (fun r H' B=>∃v1 v2,r= .tuple #[v1,v2]∧B=[ownS Qa_ 19 216 106 H' v1 (Qz_ s now),ownS Qj_ 5 32 186 H' v2 (QbT_ s now),zh_ H' p (Qq_ s now)]):=by
 refine Ct.go (vs:=[.pointer (some ⟨p,0,none⟩),I now]) fun R=>?_;have hln:=I0.ln;refine Zg_ (A:=zh_ H p s) (σ:=Nat×List CE) (B:=fun a=>[cRow p a.1 s,cMap a.1 a.2,bigL (xA H) a.2]) (p:=fun a=>CS.ts s=tsC a.2) (by repeat (first | exact Has.here | apply Has.there)) (fun h ⟨mb,zs,hb,hk⟩=>⟨(mb,zs),hk,hb⟩) fun ⟨mb,zs⟩ hts=>?_;dsimp only at hts⊢;obtain ⟨hnd,hent⟩:=I0.entry hts;refine walk ?_;refine Za_ rfl rfl (zbF_ (p:=p) (mb:=mb) hts I0.keyfit (by simp only [Qb_];omega)) fun r1 H1 B hl1 ⟨eB,eH⟩=>?_;subst eB eH;refine Zc_ r1 fun H2 hl2 hsl=>?_;have hal:(allC s).length≤n:=by rw [qaV_];exact hln
 have hmem:∀k∈allC s,∃t,mget k s.ts=some t:=fun k hk=>by
  rw [Qad_] at hk
  cases hg:mget k s.ts with
  | none=>rw [hg] at hk;cases hk
  | some t=>exact ⟨t,rfl⟩
 have hksn:(allC s).Nodup:=by
  rw [List.nodup_iff_pairwise_ne];exact (qZ_ I0.nd).imp fun h e=>by rw [e] at h;exact QC_ h
 have hall:=zdq_ (s:=s) (now:=now);unfold Qz_ QbT_;generalize allC s=ks at*;have hlx:(ks.map toTx).length=ks.length:=by simp
 obtain ⟨b0,c0,rfl,hc0,hd0⟩:=hsl.1.shape
 let Oo:Nat→List Message:=fun j=>(ks.take j).flatMap (ZJ_ s now)
 let Oc:Nat→List CoordOutcome:=fun j=>((ks.take j).filter fun k=>decide (qv_ ((mget k s.ts).getD zTX) now)).map fun k=>qP_ (toTx k) false false
 have hcap:(1001:Nat)*1000000*216≤Qb_:=by decide
 have hOl:∀j,j≤ks.length→(Oo j).length≤j*1000000:=fun j=>by
  induction j with
  | zero=>intro _;simp [Oo]
  | succ j ih=>
   intro hj;have hj1:j<ks.length:=hj;simp only [Oo] at ih⊢;rw [List.take_succ_eq_append_getElem hj1,List.flatMap_append,List.length_append];obtain ⟨t,ht⟩:=hmem _ (List.getElem_mem hj1);have h1:=ZbT_ (now:=now) ht;have h2:=hpl _ _ ht;have h3:=ih (by omega);simp only [List.flatMap_cons,List.flatMap_nil,List.append_nil];omega
 have hOcl:∀j,(Oc j).length≤j:=fun j=>by
  simp only [Oc,List.length_map];exact Nat.le_trans (List.length_filter_le _ _) (by rw [List.length_take];exact Nat.min_le_left _ _)
 refine walk ?_;refine ex_L (L':=cRow p mb s::cMap mb zs::bigL (xA H1) zs::R) subA ?_
 refine Qc_ (σ:=Nat×(Option Addr×Nat)×(Option Addr×Nat)×List CE×Heap) (fun u=>u.1≤ks.length∧H2.le u.2.2.2.2∧tsC u.2.2.2.1=zar_ s.ts now (ks.take u.1)) (fun u=>[(0,.pointer (some ⟨p,0,none⟩)),(1,I now),(6,.slice u.2.1.1 (Oo u.1).length u.2.1.2),(7,.slice u.2.2.1.1 (Oc u.1).length u.2.2.1.2),(14,.slice b0 (ks.map toTx).length c0),(15,I (ks.map toTx).length),(16,I u.1)]) (fun u=>u.2.2.2.2)
  (fun u=>ownS Qa_ 19 216 106 u.2.2.2.2 (.slice u.2.1.1 (Oo u.1).length u.2.1.2) (Oo u.1)::ownS Qj_ 5 32 186 u.2.2.2.2 (.slice u.2.2.1.1 (Oc u.1).length u.2.2.1.2) (Oc u.1)::cRow p mb s::cMap mb u.2.2.2.1::bigL (xA u.2.2.2.2) u.2.2.2.1::R) (fun u=>ks.length - u.1) (0,(none,0),(none,0),zs,H2) ⟨Nat.zero_le _,.refl _,by show tsC zs=zar_ s.ts now [];rw [Zdp_];exact hts.symm⟩ (hs0:=?_) fun ⟨j,⟨d1,e1⟩,⟨d2,e2⟩,zs',HK⟩ ⟨hj0,hlK,hF⟩ K hL=>?_
 rotate_left
 ·show Sub _ (ownS Qa_ 19 216 106 H2 (.slice none 0 0) []::ownS Qj_ 5 32 186 H2 (.slice none 0 0) []::_);refine Sub.trans ?_ (ownS_nil.trans (Sub.cons ownS_nil));refine Sub.trans (B:=bigL (xA H1) zs::cRow p mb s::cMap mb zs::R) subA ?_;refine (zcQ_ hl2).trans ?_;exact subA
 simp only at hj0 hlK hF;dsimp only;have hO1:=hOl j hj0;have hOc1:=hOcl j;refine walk ?_;refine ze_ rfl (fun hj=>?_) (fun hj=>?_)
 ·have hj1:j<ks.length:=by omega
  have htk:=List.take_succ_eq_append_getElem hj1;obtain ⟨t,hgt⟩:=hmem _ (List.getElem_mem hj1)
  have hkn:ks[j]∉ks.take j:=fun h=>by
   have h2:(ks.take (j+1)).Nodup:=hksn.sublist (List.take_sublist _ _);rw [htk,List.nodup_append] at h2;exact h2.2.2 _ h _ (by simp) rfl
  have hg':mget ks[j] (tsC zs')=some t:=by rw [hF];exact Qdq_ I0.nd hgt hkn
  have hnd':(zs'.map CE.k).Nodup:=by rw [←qay_ (f:=CE.x)];show ((tsC zs').map (·.1)).Nodup;rw [hF];exact I0.nd.sublist ((List.filter_sublist).map _)
  have ti:=I0.ti _ _ hgt;have hplt:=hpl _ _ hgt;have hkf:=I0.keyfit (ks[j],t) (qu_ hgt);have hOs:Oo (j+1)=Oo j++ZJ_ s now ks[j]:=by simp only [Oo];rw [htk,List.flatMap_append];simp
  have hOcs:Oc (j+1)=if qv_ t now then Oc j++[qP_ (toTx ks[j]) false false] else Oc j:=by
   simp only [Oc];rw [htk,List.filter_append,List.map_append];by_cases h:qv_ t now
   ·simp [hgt,h]
   ·simp [hgt,h]
  have hFy:=fun h=>qdq_ (ks:=ks.take j) I0.nd hgt (now:=now) h;have hFn:=fun h=>qdN_ (ks:=ks.take j) I0.nd hgt (now:=now) h;rw [←htk] at hFy hFn;have hs1:ZJ_ s now ks[j]=if qv_ t now then noL s.node (toTx ks[j]) t else Zi_ s.node (toTx ks[j]) t:=by unfold ZJ_;rw [hgt,Option.getD_some]
  rw [hs1] at hOs;rcases QaL_ zs' ks[j] with ⟨l1,ee,l2,rfl,hek⟩ | hno
  rotate_left
  ·rw [zbi_ (f:=CE.x) hno] at hg';cases hg'
  have het:ee.x=t:=by
   have h2:mget ee.k (tsC (l1++ee::l2))=some ee.x:=QbF_ (f:=CE.x) hnd' (by simp);rw [hek,hg'] at h2;exact (Option.some.inj h2).symm
  have hmp:mget ks[j] (msC (l1++ee::l2))=some (ptrC ee.p):=by rw [←hek];exact QbF_ (f:=fun e=>ptrC e.p) hnd' (by simp)
  refine walk ?_;refine Zd_ rfl rfl (hsl.mono hlK).1 (show j<(ks.map toTx).length by simpa using hj1) fun b o c hr hc=>?_;have hx:(ks.map toTx)[j]'(by simpa using hj1)=toTx ks[j]:=by simp
  rw [hx] at hc;obtain ⟨rfl,_⟩:=hc;generalize ks[j]=kk at*;subst hek het;obtain ⟨⟨ka,kb,kc⟩,ep,ev,⟨op,began,parts,works,heard⟩⟩:=ee;dsimp only at hkf hgt hmp hFy hFn hOs hOcs hplt hkn;change HRow HK b o [I ka,I kb,I kc] at hr;refine walk ?_;refine zf_ rfl rfl hr rfl ?_;refine zb_ rfl fun p9 _=>?_;refine walk ?_;refine zaY_ (RV:=rVal) (val:=fun x:Value=>x) (z:= .pointer none) rfl rfl ((by repeat (first | exact Has.here | apply Has.there))) ?_;rw [hmp,Option.getD_some];refine walk ?_;have hbf:=ti.bg;refine Zw_ (L':=xA HK ⟨(ka,kb,kc),ep,ev,⟨op,began,parts,works,heard⟩⟩::bigL (xA HK) (l1++l2)::row p9 47 [I ka,I kb,I kc]::ownS Qa_ 19 216 106 HK (.slice d1 (Oo j).length e1) (Oo j)::ownS Qj_ 5 32 186 HK (.slice d2 (Oc j).length e2) (Oc j)::cRow p mb s::cMap mb (l1++⟨(ka,kb,kc),ep,ev,⟨op,began,parts,works,heard⟩⟩::l2)::R) (Sub.trans subA bigL_out) ?_;refine zv_ (A:=xA HK ⟨(ka,kb,kc),ep,ev,⟨op,began,parts,works,heard⟩⟩) (σ:=Value×Nat) (B:=fun a=>[xRow ⟨(ka,kb,kc),ep,ev,⟨op,began,parts,works,heard⟩⟩ a.1 a.2,qt_ HK ⟨(ka,kb,kc),ep,ev,⟨op,began,parts,works,heard⟩⟩ a.1,qB_ HK ⟨(ka,kb,kc),ep,ev,⟨op,began,parts,works,heard⟩⟩ a.2]) (p:=fun a=>SlB rInt 1 8 HK (CE.v ⟨(ka,kb,kc),ep,ev,⟨op,began,parts,works,heard⟩⟩) (CE.x ⟨(ka,kb,kc),ep,ev,⟨op,began,parts,works,heard⟩⟩).parts) (by repeat (first | exact Has.here | apply Has.there)) (fun h ⟨hs,wv,hb,hbig⟩=>⟨(wv,hb),hs,hbig⟩) fun ⟨wv,hb⟩ hsl2=>?_;dsimp only at hsl2⊢;obtain ⟨bs,cs,rfl,hcs,hds⟩:=hsl2.1.shape;have hv1:∀q∈heard,q.2=1:=fun q hq=>(ti.hp q hq).2;have hpf:∀q∈parts,fits q:=fun q hq=>(ti.nn q hq).2
  have hsh:Sub ([xRow ⟨(ka,kb,kc),ep,.slice bs parts.length cs,⟨op,began,parts,works,heard⟩⟩ wv hb,qt_ HK ⟨(ka,kb,kc),ep,.slice bs parts.length cs,⟨op,began,parts,works,heard⟩⟩ wv,qB_ HK ⟨(ka,kb,kc),ep,.slice bs parts.length cs,⟨op,began,parts,works,heard⟩⟩ hb]++bigL (xA HK) (l1++l2)::row p9 47 [I ka,I kb,I kc]::ownS Qa_ 19 216 106 HK (.slice d1 (Oo j).length e1) (Oo j)::ownS Qj_ 5 32 186 HK (.slice d2 (Oc j).length e2) (Oc j)::cRow p mb s::cMap mb (l1++⟨(ka,kb,kc),ep,.slice bs parts.length cs,⟨op,began,parts,works,heard⟩⟩::l2)::R) (xA HK ⟨(ka,kb,kc),ep,.slice bs parts.length cs,⟨op,began,parts,works,heard⟩⟩::bigL (xA HK) (l1++l2)::row p9 47 [I ka,I kb,I kc]::ownS Qa_ 19 216 106 HK (.slice d1 (Oo j).length e1) (Oo j)::ownS Qj_ 5 32 186 HK (.slice d2 (Oc j).length e2) (Oc j)::cRow p mb s::cMap mb (l1++⟨(ka,kb,kc),ep,.slice bs parts.length cs,⟨op,began,parts,works,heard⟩⟩::l2)::R):=by
   refine Sub.trans ?_ (QN_ (H:=HK) (wv:=wv) (hb:=hb) hsl2 (.refl _));exact subA
  cases op with
  | true=>
   have hng:¬qv_ ⟨true,began,parts,works,heard⟩ now:=fun h=>by cases h.1
   rw [if_neg hng] at hOs hOcs;have hFj:=hFn hng;refine walk ?_;refine Zw_ hsh ?_;have hH3:HK=HK:=rfl;generalize HK=H3 at*;refine Za_ rfl rfl (zaL_ (W0:=W0) (H:=H3) (H1:=H3) (p:=p) (mb:=mb) (s:=s) (x:=⟨ka,kb,kc⟩) (e:=⟨(ka,kb,kc),ep,.slice bs parts.length cs,⟨true,began,parts,works,heard⟩⟩) (.refl _) I0.fn hkf hv1 hpf hplt) fun r4 H4 B hl4 eB=>?_;subst eB;refine Zc_ r4 fun H5 hl5 hr4=>?_;obtain ⟨rb,rc,rfl,_,_⟩:=hr4.1.shape;have hlA:(Zi_ s.node ⟨ka,kb,kc⟩ ⟨true,began,parts,works,heard⟩).length≤1000000:=by unfold Zi_;rw [List.length_map];exact Nat.le_trans (List.length_filter_le _ _) hplt
   refine walk ?_;refine zo_ rfl rfl hr4.1 (by simp only [Qb_] at hcap⊢;have:=Nat.mul_le_mul_right 1000000 (show j≤1000 by omega);omega) fun d3 e3=>?_;rw [←List.length_append,show Oo j++Zi_ s.node ⟨ka,kb,kc⟩ ⟨true,began,parts,works,heard⟩=Oo (j+1) from hOs.symm];refine walk ?_;rw [←hOcs];refine Zb_ hL (j+1,(d3,e3),(d2,e2),l1++⟨(ka,kb,kc),ep,.slice bs parts.length cs,⟨true,began,parts,works,heard⟩⟩::l2,H5) ⟨by simp only;omega,hlK.trans (hl4.trans hl5),by simp only;rw [hFj];exact hF⟩ (hs:=?_);dsimp only;refine Sub.trans (B:=xA H4 ⟨(ka,kb,kc),ep,.slice bs parts.length cs,⟨true,began,parts,works,heard⟩⟩::bigL (xA H3) (l1++l2)::ownS Qj_ 5 32 186 H3 (.slice d2 (Oc (j+1)).length e2) (Oc (j+1))::ownS Qa_ 19 216 106 H5 (.slice d3 (Oo (j+1)).length e3) (Oo (j+1))::cRow p mb s::cMap mb (l1++⟨(ka,kb,kc),ep,.slice bs parts.length cs,⟨true,began,parts,works,heard⟩⟩::l2)::R) subA ?_;exact v79_
  | false=>
   refine walk ?_;refine Za_ rfl rfl (qdr_ (b:=began) (n:=now) hbf hnow) fun r3 H3 B hl3 ⟨er,eB,eH⟩=>?_;subst er eB eH;by_cases hlt:zbh_ began now
   ·have hgu:qv_ ⟨false,began,parts,works,heard⟩ now:=⟨rfl,hlt⟩;rw [if_pos hgu] at hOs hOcs;have hFj:=hFy hgu;rw [decide_eq_true hlt];refine walk ?_;refine Zw_ hsh ?_;have hlN:(noL s.node ⟨ka,kb,kc⟩ ⟨false,began,parts,works,heard⟩).length≤1000000:=by unfold noL;rw [List.length_map];exact hplt
    refine Za_ rfl rfl (ZaP_ (W0:=W0) (H:=H3) (H1:=H3) (p:=p) (mb:=mb) (s:=s) (x:=⟨ka,kb,kc⟩) (e:=⟨(ka,kb,kc),ep,.slice bs parts.length cs,⟨false,began,parts,works,heard⟩⟩) (ms:=msC (l1++⟨(ka,kb,kc),ep,.slice bs parts.length cs,⟨false,began,parts,works,heard⟩⟩::l2)) (.refl _) I0.fn hkf hpf hplt) fun r4 H4 B hl4 ⟨v4,er,eB,eH⟩=>?_;subst er eB eH;rw [show mdel (⟨ka,kb,kc⟩:Txn).k (msC (l1++⟨(ka,kb,kc),ep,.slice bs parts.length cs,⟨false,began,parts,works,heard⟩⟩::l2))=msC (l1++l2) from ZcF_ (f:=fun e=>ptrC e.p) (e:=⟨(ka,kb,kc),ep,.slice bs parts.length cs,⟨false,began,parts,works,heard⟩⟩) hnd'];refine Zc_ v4 fun H5 hl5 hr4=>?_;obtain ⟨rb,rc,rfl,_,_⟩:=hr4.1.shape;refine walk ?_;refine zb_ rfl fun p12 _=>?_;refine walk ?_;refine zc_ 8 [row p12 186 [I ka,I kb,I kc,.bool false,.bool false]] ?_;refine qa_ 0 ?_;refine qa_ 1 ?_;refine qa_ 3 ?_;refine qa_ 4 ?_
    have hb1:((Oo j).length+(noL s.node ⟨ka,kb,kc⟩ ⟨false,began,parts,works,heard⟩).length)*216≤Qb_:=by
     simp only [Qb_] at hcap⊢;have:=Nat.mul_le_mul_right 1000000 (show j≤1000 by omega);omega
    have hb2:((Oc j).length+1)*32≤Qb_:=by simp only [Qb_];omega
    have hor:Qj_ H5 [I ka,I kb,I kc,.bool false,.bool false] (qP_ ⟨ka,kb,kc⟩ false false):=⟨rfl,hkf.1,hkf.2.1,hkf.2.2⟩;refine qaC_ 2 5 rfl rfl (QF_ rfl hr4.1 hb1 fun d3 e3=>⟨.refl _,subA,?_⟩) (Ze_ rfl rfl rfl fun b2=>⟨.refl _,subA,?_⟩)
    ·refine zt_ 5 rfl (Ze_ rfl rfl rfl fun b2=>⟨.refl _,subA,?_⟩);exact v24_
    ·refine zt_ 2 rfl (QF_ rfl hr4.1 hb1 fun d3 e3=>⟨.refl _,subA,?_⟩);exact v24_
   ·have hng:¬qv_ ⟨false,began,parts,works,heard⟩ now:=fun h=>hlt h.2;rw [if_neg hng] at hOs hOcs;have hFj:=hFn hng;rw [decide_eq_false hlt];refine walk ?_;refine Zw_ hsh ?_;refine Za_ rfl rfl (zaL_ (W0:=W0) (H:=H3) (H1:=H3) (p:=p) (mb:=mb) (s:=s) (x:=⟨ka,kb,kc⟩) (e:=⟨(ka,kb,kc),ep,.slice bs parts.length cs,⟨false,began,parts,works,heard⟩⟩) (.refl _) I0.fn hkf hv1 hpf hplt) fun r4 H4 B hl4 eB=>?_;subst eB;refine Zc_ r4 fun H5 hl5 hr4=>?_;obtain ⟨rb,rc,rfl,_,_⟩:=hr4.1.shape;have hlA:(Zi_ s.node ⟨ka,kb,kc⟩ ⟨false,began,parts,works,heard⟩).length≤1000000:=by unfold Zi_;rw [List.length_map];exact Nat.le_trans (List.length_filter_le _ _) hplt
    refine walk ?_;refine zo_ rfl rfl hr4.1 (by simp only [Qb_] at hcap⊢;have:=Nat.mul_le_mul_right 1000000 (show j≤1000 by omega);omega) fun d3 e3=>?_;rw [←List.length_append,show Oo j++Zi_ s.node ⟨ka,kb,kc⟩ ⟨false,began,parts,works,heard⟩=Oo (j+1) from hOs.symm];refine walk ?_;rw [←hOcs];refine Zb_ hL (j+1,(d3,e3),(d2,e2),l1++⟨(ka,kb,kc),ep,.slice bs parts.length cs,⟨false,began,parts,works,heard⟩⟩::l2,H5) ⟨by simp only;omega,hlK.trans (hl4.trans hl5),by simp only;rw [hFj];exact hF⟩ (hs:=?_);dsimp only;refine Sub.trans (B:=xA H4 ⟨(ka,kb,kc),ep,.slice bs parts.length cs,⟨false,began,parts,works,heard⟩⟩::bigL (xA H3) (l1++l2)::ownS Qj_ 5 32 186 H3 (.slice d2 (Oc (j+1)).length e2) (Oc (j+1))::ownS Qa_ 19 216 106 H5 (.slice d3 (Oo (j+1)).length e3) (Oo (j+1))::cRow p mb s::cMap mb (l1++⟨(ka,kb,kc),ep,.slice bs parts.length cs,⟨false,began,parts,works,heard⟩⟩::l2)::R) subA ?_;exact v79_
 ·clear hL;obtain rfl:j=ks.length:=by omega
  have eO:Oo ks.length=ks.flatMap (ZJ_ s now):=by simp only [Oo];rw [List.take_length]
  have eC:Oc ks.length=(ks.filter fun k=>decide (qv_ ((mget k s.ts).getD zTX) now)).map fun k=>qP_ (toTx k) false false:=by simp only [Oc];rw [List.take_length]
  rw [List.take_length,hall] at hF;rw [←eO,←eC];refine walk ?_;refine finB [ownS Qa_ 19 216 106 HK (.slice d1 (Oo ks.length).length e1) (Oo ks.length),ownS Qj_ 5 32 186 HK (.slice d2 (Oc ks.length).length e2) (Oc ks.length),zh_ HK p (Qq_ s now)] ?_ (hs:=?_)
  ·exact ⟨_,_,rfl,rfl⟩
  ·refine Sub.trans ?_ (Sub.cons (Sub.cons (Zaq_ (H:=HK) (mb:=mb) (s:=Qq_ s now) hF.symm (.refl _))));exact subA
end Go.Proofs.YtlflbkpmfhhikaaGreatDoor
