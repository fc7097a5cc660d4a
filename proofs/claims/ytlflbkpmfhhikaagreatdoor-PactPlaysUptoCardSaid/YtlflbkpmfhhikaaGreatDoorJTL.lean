/- A coordinator: which are voting. -/
import Derived.Test.YtlflbkpmfhhikaaGreatDoorJTR
set_option maxHeartbeats 16000000
set_option maxRecDepth 100000
set_option linter.unusedVariables false
set_option linter.unusedSimpArgs false
namespace Go.Proofs.YtlflbkpmfhhikaaGreatDoor
open Go Go.Sx Go.Proofs
theorem zaL_ {W0:World} {H H1:Heap} {p mb:Nat} {s:CS} {x:Txn} {e:CE} (hl1:H1.le H) (hn:fits s.node) (hx:fits x.Node∧fits x.Life∧fits x.Count) (hv:∀q∈e.x.heard,q.2=1) (hp:∀q∈e.x.parts,fits q) (hpl:e.x.parts.length≤1000000):
  Ct Tryz.prog 66 #[.pointer (some ⟨p,0,none⟩),.agg x.cv.toArray,.pointer (some ⟨e.p,0,none⟩)] W0 H [cRow p mb s,xA H1 e] (fun r H' B=>B=[ownS Qa_ 19 216 106 H' r (Zi_ s.node x e.x),cRow p mb s,xA H' e]):=by
 cases h:e.x.op with
 | true=>exact Qcn_ h hl1 hn hx hv hp hpl
 | false=>exact Zcn_ h hl1 hn hx hv hp hpl
theorem ZaP_ {W0:World} {H H1:Heap} {p mb:Nat} {s:CS} {x:Txn} {e:CE} {ms:List (K3×Value)} (hl1:H1.le H) (hn:fits s.node) (hx:fits x.Node∧fits x.Life∧fits x.Count) (hp:∀q∈e.x.parts,fits q) (hpl:e.x.parts.length≤1000000):
  Ct Tryz.prog 78 #[.pointer (some ⟨p,0,none⟩),.agg x.cv.toArray,.pointer (some ⟨e.p,0,none⟩)] W0 H [cRow p mb s,mapO ek3 rVal false Heap.empty mb ms,xA H1 e]
   (fun r H' B=>∃v,r= .tuple #[v,.agg (qP_ x false false).cv.toArray]∧B=[ownS Qa_ 19 216 106 H' v (noL s.node x e.x),cRow p mb s,mapO ek3 rVal false Heap.empty mb (mdel x.k ms),xA H1 e]∧H'=H):=by
 refine Ct.go (vs:=[.pointer (some ⟨p,0,none⟩),.agg x.cv.toArray,.pointer (some ⟨e.p,0,none⟩)]) fun R=>?_;obtain ⟨x1,x2,x3⟩:=x;have hcap:(1000001:Nat)*216≤Qb_:=by decide
 refine walk ?_;refine qc_ rfl rfl fun p4 _=>?_;refine walk ?_;refine zb_ rfl fun p7 _=>?_;refine walk ?_;refine zc_ 5 [row p4 47 [I x1,I x2,I x3],cRow p mb s] ?_;refine qa_ 0 ?_;refine qa_ 1 ?_;refine qa_ 2 ?_;refine qa_ 3 ?_;refine qa_ 4 ?_;refine qb_ rfl ?_;refine QZ_ (RV:=rVal) rfl ((by repeat (first | exact Has.here | apply Has.there))) ?_;refine walk ?_;refine zv_ (A:=xA H1 e) (σ:=Value×Nat) (B:=fun a=>[xRow e a.1 a.2,qt_ H1 e a.1,qB_ H1 e a.2]) (p:=fun a=>SlB rInt 1 8 H1 (CE.v e) (CE.x e).parts) (by repeat (first | exact Has.here | apply Has.there)) (fun h ⟨hs,wv,hb,hbig⟩=>⟨(wv,hb),hs,hbig⟩) fun ⟨wv,hb⟩ hsl2=>?_;dsimp only at hsl2⊢;obtain ⟨k,ep,v,⟨op,began,parts,works,heard⟩⟩:=e;dsimp only at hp hpl hsl2;obtain ⟨b0,c0,rfl,hc0,hd0⟩:=hsl2.1.shape;dsimp only;have hnl:∀{j:Nat} (hj:j<parts.length),(parts.take (j+1)).map (fun q=>decM s.node ⟨x1,x2,x3⟩ q false)=(parts.take j).map (fun q=>decM s.node ⟨x1,x2,x3⟩ q false)++[decM s.node ⟨x1,x2,x3⟩ parts[j] false]:=fun {j} hj=>by rw [List.take_succ_eq_append_getElem hj,List.map_append];rfl
 refine walk ?_;refine ex_L (L':=xA H1 ⟨k,ep,.slice b0 parts.length c0,⟨op,began,parts,works,heard⟩⟩::mapO ek3 rVal false Heap.empty mb (mdel (x1,x2,x3) ms)::row p7 186 [I 0,I 0,I 0,.bool false,.bool false]::row p4 47 [I x1,I x2,I x3]::cRow p mb s::R) ?_ ?_
 ·refine Sub.trans ?_ (QN_ (H:=H1) (wv:=wv) (hb:=hb) (e:=⟨k,ep,.slice b0 parts.length c0,⟨op,began,parts,works,heard⟩⟩) hsl2 (.refl _));exact subA
 refine Qc_ (σ:=Nat×Option Addr×Nat) (fun u=>u.1≤parts.length) (fun u=>[(0,.pointer (some ⟨p,0,none⟩)),(4,.pointer (some ⟨p4,0,none⟩)),(7,.pointer (some ⟨p7,0,none⟩)),(8,.slice u.2.1 ((parts.take u.1).map (fun q=>decM s.node ⟨x1,x2,x3⟩ q false)).length u.2.2),(19,.slice b0 parts.length c0),(20,I parts.length),(21,I u.1)]) (fun _=>H)
  (fun u=>ownS Qa_ 19 216 106 H (.slice u.2.1 ((parts.take u.1).map (fun q=>decM s.node ⟨x1,x2,x3⟩ q false)).length u.2.2) ((parts.take u.1).map (fun q=>decM s.node ⟨x1,x2,x3⟩ q false))::xA H1 ⟨k,ep,.slice b0 parts.length c0,⟨op,began,parts,works,heard⟩⟩::mapO ek3 rVal false Heap.empty mb (mdel (x1,x2,x3) ms)::row p7 186 [I 0,I 0,I 0,.bool false,.bool false]::row p4 47 [I x1,I x2,I x3]::cRow p mb s::R) (fun u=>parts.length - u.1) (0,none,0) (Nat.zero_le _) (hs0:=?_) fun ⟨j,d,e⟩ hj0 K hL=>?_
 rotate_left
 ·exact v134_
 simp only at hj0;dsimp only;refine walk ?_;refine ze_ rfl (fun hj=>?_) (fun hj=>?_)
 ·have hj1:j<parts.length:=by omega
  have hfp:=hp _ (List.getElem_mem hj1);have hslK:SlR rInt 1 H (.slice b0 parts.length c0) parts:=(hsl2.mono hl1).1;have hll:((parts.take j).map (fun q=>decM s.node ⟨x1,x2,x3⟩ q false)).length=j:=by simp;omega
  refine walk ?_;refine zc_ 10 [row p4 47 [I x1,I x2,I x3],cRow p mb s] ?_;refine qa_ 0 ?_;refine qa_ 1 ?_;refine qa_ 2 ?_;refine qa_ 3 ?_;refine qa_ 4 ?_;refine qa_ 5 ?_;refine qa_ 6 ?_;refine qa_ 7 ?_;refine zx_ (y:=decM s.node ⟨x1,x2,x3⟩ parts[j] false) 8 9 rfl rfl rfl (ZD_ hn hfp hx) (by rw [hll];simp only [Qb_] at hcap⊢;omega) fun d3 e3=>⟨subA,?_⟩;rw [show ((parts.take j).map (fun q=>decM s.node ⟨x1,x2,x3⟩ q false)).length+1=((parts.take (j+1)).map (fun q=>decM s.node ⟨x1,x2,x3⟩ q false)).length by rw [hnl hj1,List.length_append];rfl,←hnl hj1];refine qb_ rfl ?_;exact v75_
 ·clear hL;obtain rfl:j=parts.length:=by omega
  rw [List.take_length];refine walk ?_;refine zc_ 4 [row p4 47 [I x1,I x2,I x3]] ?_;refine qa_ 0 ?_;refine qa_ 1 ?_;refine qa_ 2 ?_;refine qa_ 3 ?_;refine qb_ rfl ?_;refine walk ?_;refine finB [ownS Qa_ 19 216 106 H (.slice d (parts.map (fun q=>decM s.node ⟨x1,x2,x3⟩ q false)).length e) (parts.map (fun q=>decM s.node ⟨x1,x2,x3⟩ q false)),cRow p mb s,mapO ek3 rVal false Heap.empty mb (mdel (x1,x2,x3) ms),xA H1 ⟨k,ep,.slice b0 parts.length c0,⟨op,began,parts,works,heard⟩⟩] ?_;exact ⟨_,rfl,rfl,rfl⟩
theorem zbF_ {W0:World} {H:Heap} {p mb:Nat} {s:CS} {zs:List CE} (hts:s.ts=tsC zs) (hk:∀q∈s.ts,fits q.1.1∧fits q.1.2.1∧fits q.1.2.2) (hl:s.ts.length*24≤Qb_):
  Ct Tryz.prog 76 #[.pointer (some ⟨p,0,none⟩)] W0 H [cRow p mb s,cMap mb zs] (fun r H' B=>B=[ownS rTxn 3 24 47 H' r ((allC s).map toTx),cRow p mb s,cMap mb zs]∧H'=H):=by
 refine Ct.go (vs:=[.pointer (some ⟨p,0,none⟩)]) fun R=>?_;have hkeys:(msC zs).map (·.1)=s.ts.map (·.1):=by rw [hts,qay_,qay_]
 have hk':∀q∈msC zs,fits q.1.1∧fits q.1.2.1∧fits q.1.2.2:=fun q hq=>by
  have:q.1∈s.ts.map (·.1):=by rw [←hkeys];exact List.mem_map.2 ⟨q,hq,rfl⟩
  obtain ⟨q',hq',e⟩:=List.mem_map.1 this;rw [←e];exact hk q' hq'
 have hlen:(msC zs).length=s.ts.length:=by have:=congrArg List.length hkeys;simpa using this
 refine walk ?_;refine Za_ rfl rfl Zdr_ fun r1 H1 B hl1 ⟨pk,er,eB,eH⟩=>?_;subst er eB eH;have hc:=Zco_ (W0:=W0) (H:=H1) (H0:=Heap.empty) (RV:=rVal) (ag:=false) (p:=pk) (b:=mb) (ms:=msC zs) hk' (by rw [hlen];exact hl);rw [hkeys] at hc;refine Za_ rfl rfl hc fun r2 H2 B hl2 ⟨eB,eH⟩=>?_;subst eB eH;refine walk ?_;refine finB [ownS rTxn 3 24 47 H2 r2 ((allC s).map toTx),cRow p mb s,cMap mb zs] ?_;exact ⟨rfl,rfl⟩
theorem CInv.keyfit {n:Nat} {s:CS} (I:CInv n s):∀q∈s.ts,fits q.1.1∧fits q.1.2.1∧fits q.1.2.2:=fun q hq=>by
 obtain ⟨h1,h2,h3,_⟩:=I.kn q.1 q.2 (zi_ I.nd hq);exact ⟨by rw [h1];exact I.fn,h2,h3⟩
theorem CInv.entry {n:Nat} {s:CS} (I:CInv n s) {zs:List CE} (hts:s.ts=tsC zs):(zs.map CE.k).Nodup∧∀e∈zs,mget e.k s.ts=some e.x∧TInv e.x:=by
 have hn:(zs.map CE.k).Nodup:=by have:=I.nd;rw [hts,qay_] at this;exact this
 refine ⟨hn,fun e he=>?_⟩;have hg:mget e.k s.ts=some e.x:=by rw [hts];exact QbF_ (f:=CE.x) hn he
 exact ⟨hg,I.ti _ _ hg⟩
theorem Qaq_ {H:Heap} {x:Txn} {ps:List Int} {v:Value} (hx:fits x.Node∧fits x.Life∧fits x.Count) (h:SlB rInt 1 8 H v ps):rRec H [I 4,I x.Node,I x.Life,I x.Count,I 0,nilS,nilS,.bool false,v] (recC x ps):=
 ⟨nilS,nilS,v,rfl,by unfold fits;simp [recC],hx.1,hx.2.1,hx.2.2,qh_,SlB.nil,SlB.nil,h⟩
theorem v38_ {P:Prop} (h:P:=by
 refine Sub.trans (B:=xRow ⟨(ka,kb,kc),ep,.slice bs parts.length cs,⟨op,began,parts,works,heard⟩⟩ wv hb::qt_ H1 ⟨(ka,kb,kc),ep,.slice bs parts.length cs,⟨op,began,parts,works,heard⟩⟩ wv::qB_ H1 ⟨(ka,kb,kc),ep,.slice bs parts.length cs,⟨op,began,parts,works,heard⟩⟩ hb::_) subA ?_;refine (QN_ hsl2 (.refl _)).trans ?_;refine Sub.trans (show Sub _ (xA H1 ⟨(ka,kb,kc),ep,.slice bs parts.length cs,⟨op,began,parts,works,heard⟩⟩::bigL (xA H1) (l1++l2)::_) from subA) ?_;refine bigL_in.trans ?_;exact subA):P:=h
theorem qbU_ {W0:World} {H:Heap} {p n:Nat} {s:CS} (I0:CInv n s) (hn:n≤1000) (hpl:∀k t,mget k s.ts=some t→t.parts.length*8≤Qb_):
  Ct Tryz.prog 49 #[.pointer (some ⟨p,0,none⟩)] W0 H [zh_ H p s] (fun r H' B=>B=[ownS rRec 9 120 53 H' r (openL s),zh_ H' p s]):=by
 refine Ct.go (vs:=[.pointer (some ⟨p,0,none⟩)]) fun R=>?_;have hln:=I0.ln;refine Zg_ (A:=zh_ H p s) (σ:=Nat×List CE) (B:=fun a=>[cRow p a.1 s,cMap a.1 a.2,bigL (xA H) a.2]) (p:=fun a=>CS.ts s=tsC a.2) (by repeat (first | exact Has.here | apply Has.there)) (fun h ⟨mb,zs,hb,hk⟩=>⟨(mb,zs),hk,hb⟩) fun ⟨mb,zs⟩ hts=>?_;dsimp only at hts⊢;obtain ⟨hnd,hent⟩:=I0.entry hts;refine walk ?_;refine Za_ rfl rfl (zbF_ (p:=p) (mb:=mb) hts I0.keyfit (by simp only [Qb_];omega)) fun r1 H1 B hl1 ⟨eB,eH⟩=>?_;subst eB eH;refine Zc_ r1 fun H2 hl2 hsl=>?_;have hal:(allC s).length≤n:=by rw [qaV_];exact hln
 have hmem:∀k∈allC s,∃l1 e l2,zs=l1++e::l2∧e.k=k:=fun k hk=>by
  rw [Qad_] at hk;rcases QaL_ zs k with h | h
  ·exact h
  ·rw [hts,zbi_ (f:=CE.x) h] at hk;cases hk
 unfold openL;generalize allC s=ks at*;have hlx:(ks.map toTx).length=ks.length:=by simp
 obtain ⟨b0,c0,rfl,hc0,hd0⟩:=hsl.1.shape
 let g:List K3→List Rec:=fun l=>(l.filter fun k=>((mget k s.ts).getD zTX).op).map fun k=>recC (toTx k) ((mget k s.ts).getD zTX).parts
 have hgs:∀(l:List K3) (k:K3),g (l++[k])=if ((mget k s.ts).getD zTX).op=true then g l++[recC (toTx k) ((mget k s.ts).getD zTX).parts] else g l:=fun l k=>by
  simp only [g,List.filter_append,List.map_append];by_cases h:((mget k s.ts).getD zTX).op=true
  ·simp [h]
  ·simp [h]
 have hgl:∀l:List K3,(g l).length≤l.length:=fun l=>by simp only [g,List.length_map];exact List.length_filter_le _ _
 have hcap:(1001:Nat)*120≤Qb_:=by decide
 refine walk ?_
 refine Qc_ (σ:=Nat×Option Addr×Nat×Heap) (fun u=>u.1≤ks.length∧H2.le u.2.2.2) (fun u=>[(0,.pointer (some ⟨p,0,none⟩)),(3,.slice u.2.1 (g (ks.take u.1)).length u.2.2.1),(8,.slice b0 (ks.map toTx).length c0),(9,I (ks.map toTx).length),(10,I u.1)]) (fun u=>u.2.2.2)
  (fun u=>ownS rRec 9 120 53 u.2.2.2 (.slice u.2.1 (g (ks.take u.1)).length u.2.2.1) (g (ks.take u.1))::cRow p mb s::cMap mb zs::bigL (xA H1) zs::R) (fun u=>ks.length - u.1) (0,none,0,H2) ⟨Nat.zero_le _,.refl _⟩ (hs0:=?_) fun ⟨j,d,e,HK⟩ ⟨hj0,hlK⟩ K hL=>?_
 rotate_left
 ·show Sub _ (ownS rRec 9 120 53 H2 (.slice none 0 0) []::_);exact v34_
 simp only at hj0 hlK;dsimp only;refine walk ?_;refine ze_ rfl (fun hj=>?_) (fun hj=>?_)
 ·have hj1:j<ks.length:=by omega
  have htk:=List.take_succ_eq_append_getElem hj1;obtain ⟨l1,e1,l2,hz,hek⟩:=hmem _ (List.getElem_mem hj1);have he1:e1∈zs:=by rw [hz];simp
  obtain ⟨hg1,ti⟩:=hent e1 he1;have hmp:mget ks[j] (msC zs)=some (ptrC e1.p):=by rw [←hek];exact QbF_ (f:=fun e=>ptrC e.p) hnd he1
  have hgt:(mget ks[j] s.ts).getD zTX=e1.x:=by rw [←hek,hg1];rfl
  have hpl1:=hpl _ _ hg1;have hkf:=(I0.keyfit (e1.k,e1.x) (qu_ hg1));have hstep:=hgs (ks.take j) ks[j];rw [←htk,hgt] at hstep;refine walk ?_;refine Zd_ rfl rfl (hsl.mono hlK).1 (show j<(ks.map toTx).length by simpa using hj1) fun b o c hr hc=>?_;have hx:(ks.map toTx)[j]'(by simpa using hj1)=toTx ks[j]:=by simp
  rw [hx] at hc;obtain ⟨rfl,_⟩:=hc;generalize ks[j]=kk at*;subst hek;obtain ⟨⟨ka,kb,kc⟩,ep,ev,⟨op,began,parts,works,heard⟩⟩:=e1;dsimp only at hkf hg1 hmp hgt hstep ti hpl1;change HRow HK b o [I ka,I kb,I kc] at hr;refine walk ?_;refine zf_ rfl rfl hr rfl ?_;refine zb_ rfl fun p5 _=>?_;refine walk ?_;refine zaY_ (RV:=rVal) (val:=fun x:Value=>x) (z:= .pointer none) rfl rfl ((by repeat (first | exact Has.here | apply Has.there))) ?_;rw [hmp,Option.getD_some];refine walk ?_;subst hz;refine Zw_ (L':=xA H1 ⟨(ka,kb,kc),ep,ev,⟨op,began,parts,works,heard⟩⟩::bigL (xA H1) (l1++l2)::row p5 47 [I ka,I kb,I kc]::ownS rRec 9 120 53 HK (.slice d (g (ks.take j)).length e) (g (ks.take j))::cRow p mb s::cMap mb (l1++⟨(ka,kb,kc),ep,ev,⟨op,began,parts,works,heard⟩⟩::l2)::R) (Sub.trans subA bigL_out) ?_;refine zv_ (A:=xA H1 ⟨(ka,kb,kc),ep,ev,⟨op,began,parts,works,heard⟩⟩) (σ:=Value×Nat) (B:=fun a=>[xRow ⟨(ka,kb,kc),ep,ev,⟨op,began,parts,works,heard⟩⟩ a.1 a.2,qt_ H1 ⟨(ka,kb,kc),ep,ev,⟨op,began,parts,works,heard⟩⟩ a.1,qB_ H1 ⟨(ka,kb,kc),ep,ev,⟨op,began,parts,works,heard⟩⟩ a.2]) (p:=fun a=>SlB rInt 1 8 H1 (CE.v ⟨(ka,kb,kc),ep,ev,⟨op,began,parts,works,heard⟩⟩) (CE.x ⟨(ka,kb,kc),ep,ev,⟨op,began,parts,works,heard⟩⟩).parts) (by repeat (first | exact Has.here | apply Has.there)) (fun h ⟨hs,wv,hb,hbig⟩=>⟨(wv,hb),hs,hbig⟩) fun ⟨wv,hb⟩ hsl2=>?_;dsimp only at hsl2⊢;obtain ⟨bs,cs,rfl,hcs,hds⟩:=hsl2.1.shape;refine walk ?_;refine zF_ rfl Iff.rfl (fun ho=>?_) (fun ho=>?_)
  ·refine walk ?_;refine zc_ 10 [row p5 47 [I ka,I kb,I kc],QT_ ep op began (.slice bs parts.length cs) wv hb] ?_;refine qa_ 0 ?_;refine qa_ 1 ?_;refine qa_ 2 ?_;refine qa_ 3 ?_;refine qa_ 4 ?_;refine qa_ 5 ?_;have hcl:=Zv_ (W0:=W0) (H:=HK) (xs:=parts) (v:= .slice bs parts.length cs) (hsl2.mono (hl2.trans hlK));refine qe_ 6 rfl rfl rfl hcl fun r6 H6 B hl6 ⟨eB,eH⟩=>?_;subst eB eH;refine ⟨subA,?_⟩;refine qf_ r6 fun H7 hl7 hsc=>?_;obtain ⟨bc,cc,rfl,_,_⟩:=hsc.1.shape;refine qa_ 7 ?_;rw [if_pos ho] at hstep;have hgl2:=hgl (ks.take j);refine zx_ (y:=recC ⟨ka,kb,kc⟩ parts) 8 9 rfl rfl rfl (Qaq_ hkf hsc) (by rw [List.length_take] at hgl2;simp only [Qb_] at hcap⊢;omega) fun d3 e3=>⟨subA,?_⟩;rw [show (g (ks.take j)).length+1=(g (ks.take (j+1))).length by rw [hstep,List.length_append];rfl,show g (ks.take j)++[recC ⟨ka,kb,kc⟩ parts]=g (ks.take (j+1)) from hstep.symm];refine qb_ rfl ?_;refine walk ?_;refine Zb_ hL (j+1,d3,e3,H7) ⟨by simp only;omega,hlK.trans hl7⟩ (hs:=?_);exact v38_
  ·rw [if_neg (by simpa using ho)] at hstep;rw [←hstep];refine walk ?_;refine Zb_ hL (j+1,d,e,HK) ⟨by simp only;omega,hlK⟩ (hs:=?_);exact v38_
 ·clear hL;obtain rfl:j=ks.length:=by omega
  rw [List.take_length];refine walk ?_;refine finB [ownS rRec 9 120 53 HK (.slice d (g ks).length e) (g ks),zh_ HK p s] ?_ (hs:=?_)
  ·exact rfl
  ·refine Sub.trans ?_ (Sub.cons (Zaq_ (H:=H1) (mb:=mb) hts (hl2.trans hlK)));exact subA
def zaa_ (C:Txn→Prop):Rd Txn:=fun H c x=>rTxn H c x∧C x
instance {C:Txn→Prop}:RdOk (zaa_ C) 3:=⟨fun h=>RdOk.len h.1,fun h=>RdOk.one h.1,fun hl h=>⟨RdOk.mono hl h.1,h.2⟩⟩
section
variable {C:Txn→Prop}
theorem ZcP_ {W0:World} {H HS:Heap} {v:Value} {xs:List Txn} {f:FuncId} {cap:List Value} {a:za_} {p:Txn→Bool} [hf:TFn Tryz.prog f] (hl:HS.le H) (hask:Asks Tryz.prog W0 H (zaa_ C) f cap (fun c=> .agg c.toArray) [a] p):
  Ct Tryz.prog 122 #[v,.func (.func f) #[] cap.toArray] W0 H [ownS (zaa_ C) 3 24 47 HS v xs,a]
   (fun r H' B=>B=[ownS (zaa_ C) 3 24 47 HS v xs,a]∧H'=H∧∃j,j≤xs.length∧(∀i (h:i<xs.length),i<j→p xs[i]=false)∧((j=xs.length∧r=I (-1))∨(∃h:j<xs.length,p xs[j]=true∧r=I j))):=by
 refine Ct.go fun R=>?_;refine qs_ v fun base cp e q1 q2 q3=>?_;subst e;refine walk ?_;refine Qc_ (fun k=>k≤xs.length∧∀i (h:i<xs.length),i<k→p xs[i]=false) (fun k=>[(0,.slice base xs.length cp),(1,.func (.func f) #[] cap.toArray),(7,I xs.length),(8,I k)]) (fun _=>H) (fun _=>ownS (zaa_ C) 3 24 47 HS (.slice base xs.length cp) xs::a::R) (fun k=>xs.length - k) 0 ⟨Nat.zero_le _,fun i _ h=>by omega⟩ fun k ⟨hk0,hno⟩ K hL=>?_;refine walk ?_;refine ze_ rfl (fun hk=>?_) (fun hk=>?_)
 ·have hk1:k<xs.length:=by omega
  refine walk ?_;refine qaY_ rfl rfl rfl hk1 fun c hc=>?_;refine zL_ rfl rfl rfl (hask c _ (RdOk.mono hl hc)) fun r H' B hl' ⟨er,eB,eH⟩=>?_;subst er eB eH;refine walk ?_;refine zF_ rfl Iff.rfl (fun hp=>?_) (fun hp=>?_)
  ·refine walk ?_;refine finB [ownS (zaa_ C) 3 24 47 HS (.slice base xs.length cp) xs,a] ?_;exact v110_
  ·exact v51_
 ·refine walk ?_;refine finB [ownS (zaa_ C) 3 24 47 HS (.slice base xs.length cp) xs,a] ?_;exact v73_
theorem qcQ_ {W0:World} {H HS:Heap} {v:Value} {xs:List Txn} {f:FuncId} {cap:List Value} {a:za_} {p:Txn→Bool} [hf:TFn Tryz.prog f] (hl:HS.le H) (hask:Asks Tryz.prog W0 H (zaa_ C) f cap (fun c=> .agg c.toArray) [a] p):
  Ct Tryz.prog 85 #[v,.func (.func f) #[] cap.toArray] W0 H [ownS (zaa_ C) 3 24 47 HS v xs,a] (fun r H' B=>B=[ownS (zaa_ C) 3 24 47 HS r (xs.filter fun x=> !p x),a]∧H'=H):=by
 refine Ct.go fun R=>?_;refine walk ?_;refine Za_ rfl rfl (ZcP_ (v:=v) (xs:=xs) hl hask) fun r1 H1 B hl1 ⟨eB,eH,j,hj,hno,hcase⟩=>?_;subst eB eH;rcases hcase with ⟨rfl,rfl⟩ | ⟨hj1,hpj,rfl⟩
 ·refine walk ?_;refine finB [ownS (zaa_ C) 3 24 47 HS v xs,a] ?_;exact v95_
 refine zab_ v (by omega) fun b cp cs sp e g1 g2 g3 g4 hr hsm=>?_;subst e;refine walk ?_
 have hfj:(xs.take (j+1)).filter (fun x=> !p x)=xs.take j:=by
  exact v65_
 have hmj:(j+1)*3≤cs.length:=by rw [g3];exact Nat.mul_le_mul_right _ hj1
 refine Qc_ (σ:=Nat×Nat×List Value×List Value) (fun s=>s.1≤xs.length∧RL (zaa_ C) HS s.2.2.1 ((xs.take s.1).filter fun x=> !p x)∧s.2.1=((xs.take s.1).filter fun x=> !p x).length∧s.2.1<s.1∧s.2.2.2.length=(s.1 - s.2.1)*3∧s.2.2.2.all (·.oneCell')=true)
  (fun s=>[(0,.slice (some ⟨b,0,none⟩) xs.length cp),(1,.func (.func f) #[] cap.toArray),(5,I s.2.1),(6,I s.1)]) (fun _=>H1) (fun s=>row b 47 (s.2.2.1++s.2.2.2++cs.drop (s.1*3)++sp)::a::R) (fun s=>xs.length - s.1) (j+1,j,cs.take (j*3),(cs.drop (j*3)).take 3) ?h0 (hs0:=?hs) fun ⟨k,i,A,J⟩ ⟨hk0,hA,hi,hik,hJ,hJ1⟩ K hL=>?_
 case h0=>
  exact v57_
 case hs=>
  dsimp only
  have e:cs.take (j*3)++(cs.drop (j*3)).take 3++cs.drop ((j+1)*3)=cs:=by
   rw [show (j+1)*3=j*3+3 by omega,←List.drop_drop,List.append_assoc,List.take_append_drop,List.take_append_drop]
  rw [e];exact subA
 simp only at hk0 hA hi hik hJ hJ1;dsimp only;have hAl:=hA.len;rw [←hi] at hAl;have hAJ:(A++J).length=k*3:=by rw [List.length_append,hAl,hJ,←Nat.add_mul];congr 1;omega
 refine walk ?_;refine ze_ rfl (fun hk=>?_) (fun hk=>?_)
 ·have hk1:k<xs.length:=by omega
  obtain ⟨c,r,hcr,hc⟩:=hr.get hk1;have hcl:c.length=3:=RdOk.len hc
  have hr':cs.drop ((k+1)*3)=r:=by
   rw [show (k+1)*3=k*3+3 by omega,←List.drop_drop,hcr,←hcl,List.drop_left]
  have hft:(xs.take (k+1)).filter (fun x=> !p x)=(xs.take k).filter (fun x=> !p x)++[xs[k]].filter (fun x=> !p x):=by
   rw [List.take_succ_eq_append_getElem hk1,List.filter_append]
  refine walk ?_;refine Qcw_ (us:=c) rfl rfl (fun o u ho=>?_) hcl ?_
  ·rw [hcr,show 0+k*3+o=(A++J).length+o by rw [hAJ];omega,List.append_assoc (A++J),List.getElem?_append_right (by omega)];exact v85_
  refine zb_ rfl fun p7 _=>?_;refine ZbJ_ rfl hcl rfl (RdOk.one hc) ?_;refine walk ?_;refine QaC_ rfl rfl hcl ?_;refine zL_ rfl rfl rfl (hask c _ (RdOk.mono hl hc)) fun r2 H2 B hl2 ⟨er,eB,eH⟩=>?_;subst er eB eH;refine walk ?_;refine zF_ rfl Iff.rfl (fun hp=>?_) (fun hp=>?_)
  ·refine walk ?_;refine QaC_ rfl rfl hcl ?_;refine walk ?_;refine zaI_ (qD_ (b:=b) (off:=0+i*3) (vs:=c) (cs:=A++J++cs.drop (k*3)++sp) rfl rfl rfl hcl (RdOk.one hc) (by repeat (first | exact Has.here | apply Has.there)) ?_ ?_)
   ·rw [List.length_append,List.length_append,hAJ,hcl];have:(i+1)*3≤k*3:=Nat.mul_le_mul_right _ hik;omega
   refine walk ?_;refine Zb_ hL (k+1,i+1,A++c,J.drop 3++c) ⟨by simp only;omega,?_,?_,by simp only;omega,?_,?_⟩ (hs:=?_)
   ·exact v120_
   ·simp only;rw [hft,List.length_append,←hi];simp [hp]
   ·simp only [List.length_append,List.length_drop,hJ,hcl];have:k+1 - (i+1)=k - i:=by omega
    rw [this];have:1*3≤(k - i)*3:=Nat.mul_le_mul_right _ (by omega);omega
   ·exact v80_
   ·dsimp only;have hJs:3≤J.length:=by rw [hJ];have:1*3≤(k - i)*3:=Nat.mul_le_mul_right _ (by omega);omega
    have e:(A++J++cs.drop (k*3)++sp).take (0+i*3)++c++(A++J++cs.drop (k*3)++sp).drop (0+i*3+c.length)=A++c++(J.drop 3++c)++cs.drop ((k+1)*3)++sp:=by
     exact v82_
    rw [e];exact subA
  ·refine walk ?_;refine Zb_ hL (k+1,i,A,J++c) ⟨by simp only;omega,?_,?_,by simp only;omega,?_,?_⟩ (hs:=?_)
   ·simp only;rw [hft];simp at hp;simp [hp];exact hA
   ·simp only;rw [hft];simp at hp;simp [hp,hi]
   ·exact v124_
   ·simp only [List.all_append,Bool.and_eq_true];exact ⟨hJ1,RdOk.one hc⟩
   ·dsimp only;have e:A++(J++c)++cs.drop ((k+1)*3)++sp=A++J++cs.drop (k*3)++sp:=by rw [hr',hcr];simp [List.append_assoc]
    rw [e];exact subA
 ·have hke:k=xs.length:=by omega
  subst hke;rw [List.take_length] at hA hi;have hd0:cs.drop (xs.length*3)=[]:=List.drop_eq_nil_of_le (by omega);rw [hd0,List.append_nil];refine walk ?_;refine zaI_ (ZaS_ (b:=b) (m:=xs.length - i) (cap:=cp - i) (off:=0+i*3) (cs:=A++J++sp) rfl (by repeat (first | exact Has.here | apply Has.there)) ?_ (by decide+kernel) fun zs hz=>?_)
  ·rw [List.length_append,hAJ,Nat.zero_add,←Nat.add_mul];have:(i+(xs.length - i))*3=xs.length*3:=by congr 1;omega
   omega
  refine walk ?_;refine finB [ownS (zaa_ C) 3 24 47 HS (.slice (some ⟨b,0,none⟩) i cp) (xs.filter fun x=> !p x),a] ?_ (hs:=?_)
  ·exact ⟨rfl,rfl⟩
  have e:(A++J++sp).take (0+i*3)++zs++(A++J++sp).drop (0+i*3+(xs.length - i)*3)=A++(zs++sp):=by
   have e2:0+i*3+(xs.length - i)*3=(A++J).length:=by rw [hAJ,Nat.zero_add,←Nat.add_mul];congr 1;omega
   exact v113_
  exact v45_
end
def vO (H:Heap) (p1 p mb:Nat) (s:CS) (zs:List CE):za_:=fun h=>big [row p1 89 [.pointer (some ⟨p,0,none⟩)],cRow p mb s,cMap mb zs,bigL (xA H) zs] h
theorem zdN_ {W0:World} {H H1:Heap} {p1 p mb:Nat} {s:CS} {zs:List CE} (hnd:(zs.map CE.k).Nodup):Asks Tryz.prog W0 H (zaa_ fun x=>∃e∈zs,e.k=x.k) 86 [.pointer (some ⟨p1,0,none⟩)] (fun c=> .agg c.toArray) [vO H1 p1 p mb s zs] (fun x=>((mget x.k (tsC zs)).getD zTX).op):=by
 intro c x hc;refine Ct.go (vs:=[.agg c.toArray,.pointer (some ⟨p1,0,none⟩)]) fun R=>?_;obtain ⟨⟨rfl,_⟩,e,he,hk⟩:=hc;obtain ⟨x1,x2,x3⟩:=x;obtain ⟨l1,l2,rfl⟩:=List.append_of_mem he;have hg1:mget (x1,x2,x3) (msC (l1++e::l2))=some (ptrC e.p):=by rw [show ((x1,x2,x3):K3)=e.k from hk.symm];exact QbF_ (f:=fun e=>ptrC e.p) hnd he
 have hg2:mget (⟨x1,x2,x3⟩:Txn).k (tsC (l1++e::l2))=some e.x:=by rw [←hk];exact QbF_ (f:=CE.x) hnd he
 dsimp only;rw [hg2,Option.getD_some];refine Zg_ (A:=vO H1 p1 p mb s (l1++e::l2)) (σ:=Unit) (B:=fun _=>[row p1 89 [.pointer (some ⟨p,0,none⟩)],cRow p mb s,cMap mb (l1++e::l2),bigL (xA H1) (l1++e::l2)]) (p:=fun _=>True) (by repeat (first | exact Has.here | apply Has.there)) (fun h hb=>⟨(),trivial,hb⟩) fun _ _=>?_;obtain ⟨⟨ka,kb,kc⟩,ep,ev,⟨op,began,parts,works,heard⟩⟩:=e;dsimp only at hg1 hk;refine ex_L (L':=xA H1 ⟨(ka,kb,kc),ep,ev,⟨op,began,parts,works,heard⟩⟩::bigL (xA H1) (l1++l2)::row p1 89 [.pointer (some ⟨p,0,none⟩)]::cRow p mb s::cMap mb (l1++⟨(ka,kb,kc),ep,ev,⟨op,began,parts,works,heard⟩⟩::l2)::R) (Sub.trans subA bigL_out) ?_;refine Zg_ (A:=xA H1 ⟨(ka,kb,kc),ep,ev,⟨op,began,parts,works,heard⟩⟩) (σ:=Value×Nat) (B:=fun a=>[xRow ⟨(ka,kb,kc),ep,ev,⟨op,began,parts,works,heard⟩⟩ a.1 a.2,qt_ H1 ⟨(ka,kb,kc),ep,ev,⟨op,began,parts,works,heard⟩⟩ a.1,qB_ H1 ⟨(ka,kb,kc),ep,ev,⟨op,began,parts,works,heard⟩⟩ a.2]) (p:=fun a=>SlB rInt 1 8 H1 (CE.v ⟨(ka,kb,kc),ep,ev,⟨op,began,parts,works,heard⟩⟩) (CE.x ⟨(ka,kb,kc),ep,ev,⟨op,began,parts,works,heard⟩⟩).parts) (by repeat (first | exact Has.here | apply Has.there)) (fun h ⟨hs,wv,hb,hbig⟩=>⟨(wv,hb),hs,hbig⟩) fun ⟨wv,hb⟩ hsl2=>?_;dsimp only at hsl2⊢;obtain ⟨bs,cs,rfl,hcs,hds⟩:=hsl2.1.shape;have hzs:l1++(⟨(ka,kb,kc),ep,.slice bs parts.length cs,⟨op,began,parts,works,heard⟩⟩:CE)::l2=l1++⟨(ka,kb,kc),ep,.slice bs parts.length cs,⟨op,began,parts,works,heard⟩⟩::l2:=rfl;refine walk ?_;refine qc_ rfl rfl fun p2 _=>?_;refine walk ?_;refine zaY_ (RV:=rVal) (val:=fun x:Value=>x) (z:= .pointer none) rfl rfl ((by repeat (first | exact Has.here | apply Has.there))) ?_;rw [hg1,Option.getD_some];refine walk ?_;refine finB [vO H1 p1 p mb s (l1++⟨(ka,kb,kc),ep,.slice bs parts.length cs,⟨op,began,parts,works,heard⟩⟩::l2)] ?_ (hs:=?_)
 ·exact v50_
 ·refine Sub.trans (B:=xRow ⟨(ka,kb,kc),ep,.slice bs parts.length cs,⟨op,began,parts,works,heard⟩⟩ wv hb::qt_ H1 ⟨(ka,kb,kc),ep,.slice bs parts.length cs,⟨op,began,parts,works,heard⟩⟩ wv::qB_ H1 ⟨(ka,kb,kc),ep,.slice bs parts.length cs,⟨op,began,parts,works,heard⟩⟩ hb::bigL (xA H1) (l1++l2)::row p1 89 [.pointer (some ⟨p,0,none⟩)]::cRow p mb s::cMap mb (l1++⟨(ka,kb,kc),ep,.slice bs parts.length cs,⟨op,began,parts,works,heard⟩⟩::l2)::R) subA ?_;refine (QN_ hsl2 (.refl _)).trans ?_;refine bigL_in.trans ?_;refine Zab_ (B:=[row p1 89 [.pointer (some ⟨p,0,none⟩)],cRow p mb s,cMap mb (l1++⟨(ka,kb,kc),ep,.slice bs parts.length cs,⟨op,began,parts,works,heard⟩⟩::l2),bigL (xA H1) (l1++⟨(ka,kb,kc),ep,.slice bs parts.length cs,⟨op,began,parts,works,heard⟩⟩::l2)]) subA fun h hb=>hb
theorem Qeq_ {C:Txn→Prop} {H:Heap}:∀{cs:List Value} {xs:List Txn},RL rTxn H cs xs→(∀x∈xs,C x)→RL (zaa_ C) H cs xs
 | cs,[],h,_=>h
 | cs,x::xs,⟨c,r,e,h1,h2⟩,hc=>⟨c,r,e,⟨h1,hc x (List.mem_cons_self ..)⟩,Qeq_ h2 fun y hy=>hc y (List.mem_cons_of_mem _ hy)⟩
theorem QdR_ {C:Txn→Prop} {H:Heap}:∀{cs:List Value} {xs:List Txn},RL (zaa_ C) H cs xs→RL rTxn H cs xs
 | cs,[],h=>h
 | cs,x::xs,⟨c,r,e,h1,h2⟩=>⟨c,r,e,h1.1,QdR_ h2⟩
theorem qez_ {C:Txn→Prop} {H:Heap} {T:Nat} {v:Value} {xs:List Txn} {L:List za_} (h:∀x∈xs,C x):Sub (ownS rTxn 3 24 T H v xs::L) (ownS (zaa_ C) 3 24 T H v xs::L):=fun hp ⟨h1,h2,⟨cs,⟨a,b⟩,c⟩,r⟩=>⟨h1,h2,⟨cs,⟨Qeq_ a h,b⟩,c⟩,r⟩
theorem tx_out {C:Txn→Prop} {H:Heap} {T:Nat} {v:Value} {xs:List Txn} {L:List za_}:Sub (ownS (zaa_ C) 3 24 T H v xs::L) (ownS rTxn 3 24 T H v xs::L):=fun hp ⟨h1,h2,⟨cs,⟨a,b⟩,c⟩,r⟩=>⟨h1,h2,⟨cs,⟨QdR_ a,b⟩,c⟩,r⟩
theorem zcn_ {W0:World} {H:Heap} {p n:Nat} {s:CS} (I0:CInv n s) (hn:n≤1000):
  Ct Tryz.prog 48 #[.pointer (some ⟨p,0,none⟩)] W0 H [zh_ H p s] (fun r H' B=>B=[ownS rTxn 3 24 47 H' r (qal_ s),zh_ H' p s]):=by
 refine Ct.go (vs:=[.pointer (some ⟨p,0,none⟩)]) fun R=>?_;have hln:=I0.ln;refine Zg_ (A:=zh_ H p s) (σ:=Nat×List CE) (B:=fun a=>[cRow p a.1 s,cMap a.1 a.2,bigL (xA H) a.2]) (p:=fun a=>CS.ts s=tsC a.2) (by repeat (first | exact Has.here | apply Has.there)) (fun h ⟨mb,zs,hb,hk⟩=>⟨(mb,zs),hk,hb⟩) fun ⟨mb,zs⟩ hts=>?_;dsimp only at hts⊢;obtain ⟨hnd,hent⟩:=I0.entry hts;refine walk ?_;refine qc_ rfl rfl fun p1 _=>?_;refine walk ?_;refine Za_ rfl rfl (zbF_ (p:=p) (mb:=mb) hts I0.keyfit (by simp only [Qb_];omega)) fun r1 H1 B hl1 ⟨eB,eH⟩=>?_;subst eB eH;refine walk ?_
 have hmem:∀x∈(allC s).map toTx,∃e∈zs,e.k=x.k:=fun x hx=>by
  obtain ⟨k,hk,rfl⟩:=List.mem_map.1 hx;rw [Qad_] at hk;rcases QaL_ zs k with ⟨l1,e,l2,rfl,he⟩ | h
  ·exact ⟨e,by simp,by rw [he,QD_]⟩
  ·rw [hts,zbi_ (f:=CE.x) h] at hk;cases hk
 refine Zw_ (L':=ownS (zaa_ fun x=>∃e∈zs,e.k=x.k) 3 24 47 H1 r1 ((allC s).map toTx)::vO H1 p1 p mb s zs::R) ?_ ?_
 ·refine Sub.trans (B:=ownS rTxn 3 24 47 H1 r1 ((allC s).map toTx)::row p1 89 [.pointer (some ⟨p,0,none⟩)]::cRow p mb s::cMap mb zs::bigL (xA H1) zs::R) subA ?_;refine (qez_ hmem).trans (Sub.cons ?_);exact Zab_ (B:=[row p1 89 [.pointer (some ⟨p,0,none⟩)],cRow p mb s,cMap mb zs,bigL (xA H1) zs]) (Sub.refl _) fun h hb=>hb
 refine Za_ rfl rfl (qcQ_ (W0:=W0) (H:=H1) (HS:=H1) (v:=r1) (xs:=(allC s).map toTx) (.refl _) (zdN_ (H:=H1) (H1:=H1) (p1:=p1) (p:=p) (mb:=mb) (s:=s) (zs:=zs) hnd)) fun r2 H2 B hl2 ⟨eB,eH⟩=>?_;subst eB eH
 have hv:(((allC s).map toTx).filter fun x=> !((mget x.k (tsC zs)).getD zTX).op)=qal_ s:=by
  unfold qal_;rw [List.filter_map,←hts];rfl
 rw [hv];refine walk ?_;refine finB [ownS rTxn 3 24 47 H2 r2 (qal_ s),zh_ H2 p s] ?_ (hs:=?_)
 ·exact rfl
 ·refine Sub.trans (B:=ownS (zaa_ fun x=>∃e∈zs,e.k=x.k) 3 24 47 H2 r2 (qal_ s)::vO H2 p1 p mb s zs::R) subA ?_;refine tx_out.trans (Sub.cons ?_);refine (Qcy_ (B:=[row p1 89 [.pointer (some ⟨p,0,none⟩)],cRow p mb s,cMap mb zs,bigL (xA H2) zs]) fun h hb=>hb).trans ?_;refine Sub.trans ?_ (Zaq_ (H:=H2) (mb:=mb) hts (.refl _));exact subA
end Go.Proofs.YtlflbkpmfhhikaaGreatDoor
