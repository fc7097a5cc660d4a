/- A coordinator: all in their order; what is open; a step. -/
import Derived.Test.YtlflbkpmfhhikaaGreatDoorKTR
set_option maxHeartbeats 16000000
set_option maxRecDepth 100000
set_option linter.unusedVariables false
set_option linter.unusedSimpArgs false
namespace Go.Proofs.YtlflbkpmfhhikaaGreatDoor
open Go Go.Sx Go.Proofs
theorem ZcA_ {W0:World} {H H1:Heap} {p mb:Nat} {s:CS} {x:Txn} {e:CE} (hl1:H1.le H) (hn:fits s.node) (hx:fits x.Node∧fits x.Life∧fits x.Count) (hv:∀q∈e.x.heard,q.2=1) (hp:∀q∈e.x.parts,fits q) (hpl:e.x.parts.length≤1000000):
  Ct Tryz.prog 66 #[.pointer (some ⟨p,0,none⟩),.agg x.cv.toArray,.pointer (some ⟨e.p,0,none⟩)] W0 H [cRow p mb s,xA H1 e] (fun r H' B=>B=[ownS Qa_ 19 216 106 H' r (qi_ s.node x e.x),cRow p mb s,xA H' e]):=by
 cases h:e.x.op with
 | true=>exact zbQ_ h hl1 hn hx hv hp hpl
 | false=>exact QbQ_ h hl1 hn hx hv hp hpl
theorem ZbI_ {W0:World} {H H1:Heap} {p mb:Nat} {s:CS} {x:Txn} {e:CE} {ms:List (K3×Value)} (hl1:H1.le H) (hn:fits s.node) (hx:fits x.Node∧fits x.Life∧fits x.Count) (hp:∀q∈e.x.parts,fits q) (hpl:e.x.parts.length≤1000000):
  Ct Tryz.prog 78 #[.pointer (some ⟨p,0,none⟩),.agg x.cv.toArray,.pointer (some ⟨e.p,0,none⟩)] W0 H [cRow p mb s,mapO ek3 rVal false Heap.empty mb ms,xA H1 e]
   (fun r H' B=>∃v,r= .tuple #[v,.agg (qac_ x false false).cv.toArray]∧B=[ownS Qa_ 19 216 106 H' v (noL s.node x e.x),cRow p mb s,mapO ek3 rVal false Heap.empty mb (mdel x.k ms),xA H1 e]∧H'=H):=by
 refine Ct.go (vs:=[.pointer (some ⟨p,0,none⟩),.agg x.cv.toArray,.pointer (some ⟨e.p,0,none⟩)]) fun R=>?_;obtain ⟨x1,x2,x3⟩:=x;have hcap:(1000001:Nat)*216≤zb_:=by decide
 refine walk ?_;refine qc_ rfl rfl fun p4 _=>?_;refine walk ?_;refine Qb_ rfl fun p7 _=>?_;refine walk ?_;refine zc_ 5 [row p4 47 [I x1,I x2,I x3],cRow p mb s] ?_;refine qa_ 0 ?_;refine qa_ 1 ?_;refine qa_ 2 ?_;refine qa_ 3 ?_;refine qa_ 4 ?_;refine qb_ rfl ?_;refine zW_ (RV:=rVal) rfl ((by repeat (first | exact Has.here | apply Has.there))) ?_;refine walk ?_;refine qo_ (A:=xA H1 e) (σ:=Value×Nat) (B:=fun a=>[xRow e a.1 a.2,zs_ H1 e a.1,QA_ H1 e a.2]) (p:=fun a=>SlB rInt 1 8 H1 (CE.v e) (CE.x e).parts) (by repeat (first | exact Has.here | apply Has.there)) (fun h ⟨hs,wv,hb,hbig⟩=>⟨(wv,hb),hs,hbig⟩) fun ⟨wv,hb⟩ hsl2=>?_;dsimp only at hsl2⊢;obtain ⟨k,ep,v,⟨op,began,parts,works,heard⟩⟩:=e;dsimp only at hp hpl hsl2;obtain ⟨b0,c0,rfl,hc0,hd0⟩:=hsl2.1.shape;dsimp only;have hnl:∀{j:Nat} (hj:j<parts.length),(parts.take (j+1)).map (fun q=>decM s.node ⟨x1,x2,x3⟩ q false)=(parts.take j).map (fun q=>decM s.node ⟨x1,x2,x3⟩ q false)++[decM s.node ⟨x1,x2,x3⟩ parts[j] false]:=fun {j} hj=>by rw [List.take_succ_eq_append_getElem hj,List.map_append];rfl
 refine walk ?_;refine ex_L (L':=xA H1 ⟨k,ep,.slice b0 parts.length c0,⟨op,began,parts,works,heard⟩⟩::mapO ek3 rVal false Heap.empty mb (mdel (x1,x2,x3) ms)::row p7 186 [I 0,I 0,I 0,.bool false,.bool false]::row p4 47 [I x1,I x2,I x3]::cRow p mb s::R) ?_ ?_
 ·refine Sub.trans ?_ (ZN_ (H:=H1) (wv:=wv) (hb:=hb) (e:=⟨k,ep,.slice b0 parts.length c0,⟨op,began,parts,works,heard⟩⟩) hsl2 (.refl _));exact subA
 refine Qc_ (σ:=Nat×Option Addr×Nat) (fun u=>u.1≤parts.length) (fun u=>[(0,.pointer (some ⟨p,0,none⟩)),(4,.pointer (some ⟨p4,0,none⟩)),(7,.pointer (some ⟨p7,0,none⟩)),(8,.slice u.2.1 ((parts.take u.1).map (fun q=>decM s.node ⟨x1,x2,x3⟩ q false)).length u.2.2),(19,.slice b0 parts.length c0),(20,I parts.length),(21,I u.1)]) (fun _=>H)
  (fun u=>ownS Qa_ 19 216 106 H (.slice u.2.1 ((parts.take u.1).map (fun q=>decM s.node ⟨x1,x2,x3⟩ q false)).length u.2.2) ((parts.take u.1).map (fun q=>decM s.node ⟨x1,x2,x3⟩ q false))::xA H1 ⟨k,ep,.slice b0 parts.length c0,⟨op,began,parts,works,heard⟩⟩::mapO ek3 rVal false Heap.empty mb (mdel (x1,x2,x3) ms)::row p7 186 [I 0,I 0,I 0,.bool false,.bool false]::row p4 47 [I x1,I x2,I x3]::cRow p mb s::R) (fun u=>parts.length - u.1) (0,none,0) (Nat.zero_le _) (hs0:=?_) fun ⟨j,d,e⟩ hj0 K hL=>?_
 rotate_left
 ·exact v108_
 simp only at hj0;dsimp only;refine walk ?_;refine Qe_ rfl (fun hj=>?_) (fun hj=>?_)
 ·have hj1:j<parts.length:=by omega
  have hfp:=hp _ (List.getElem_mem hj1);have hslK:SlR rInt 1 H (.slice b0 parts.length c0) parts:=(hsl2.mono hl1).1;have hll:((parts.take j).map (fun q=>decM s.node ⟨x1,x2,x3⟩ q false)).length=j:=by simp;omega
  refine walk ?_;refine zc_ 10 [row p4 47 [I x1,I x2,I x3],cRow p mb s] ?_;refine qa_ 0 ?_;refine qa_ 1 ?_;refine qa_ 2 ?_;refine qa_ 3 ?_;refine qa_ 4 ?_;refine qa_ 5 ?_;refine qa_ 6 ?_;refine qa_ 7 ?_;refine Qu_ (y:=decM s.node ⟨x1,x2,x3⟩ parts[j] false) 8 9 rfl rfl rfl (QB_ hn hfp hx) (by rw [hll];simp only [zb_] at hcap⊢;omega) fun d3 e3=>⟨subA,?_⟩;rw [show ((parts.take j).map (fun q=>decM s.node ⟨x1,x2,x3⟩ q false)).length+1=((parts.take (j+1)).map (fun q=>decM s.node ⟨x1,x2,x3⟩ q false)).length by rw [hnl hj1,List.length_append];rfl,←hnl hj1];refine qb_ rfl ?_;exact v62_
 ·clear hL;obtain rfl:j=parts.length:=by omega
  rw [List.take_length];refine walk ?_;refine zc_ 4 [row p4 47 [I x1,I x2,I x3]] ?_;refine qa_ 0 ?_;refine qa_ 1 ?_;refine qa_ 2 ?_;refine qa_ 3 ?_;refine qb_ rfl ?_;refine walk ?_;refine finB [ownS Qa_ 19 216 106 H (.slice d (parts.map (fun q=>decM s.node ⟨x1,x2,x3⟩ q false)).length e) (parts.map (fun q=>decM s.node ⟨x1,x2,x3⟩ q false)),cRow p mb s,mapO ek3 rVal false Heap.empty mb (mdel (x1,x2,x3) ms),xA H1 ⟨k,ep,.slice b0 parts.length c0,⟨op,began,parts,works,heard⟩⟩] ?_;exact ⟨_,rfl,rfl,rfl⟩
theorem zcp_ {W0:World} {H:Heap} {p mb:Nat} {s:CS} {zs:List CE} (hts:s.ts=tsC zs) (hk:∀q∈s.ts,fits q.1.1∧fits q.1.2.1∧fits q.1.2.2) (hl:s.ts.length*24≤zb_):
  Ct Tryz.prog 76 #[.pointer (some ⟨p,0,none⟩)] W0 H [cRow p mb s,cMap mb zs] (fun r H' B=>B=[ownS rTxn 3 24 47 H' r ((allC s).map toTx),cRow p mb s,cMap mb zs]∧H'=H):=by
 refine Ct.go (vs:=[.pointer (some ⟨p,0,none⟩)]) fun R=>?_;have hkeys:(msC zs).map (·.1)=s.ts.map (·.1):=by rw [hts,qaQ_,qaQ_]
 have hk':∀q∈msC zs,fits q.1.1∧fits q.1.2.1∧fits q.1.2.2:=fun q hq=>by
  have:q.1∈s.ts.map (·.1):=by rw [←hkeys];exact List.mem_map.2 ⟨q,hq,rfl⟩
  obtain ⟨q',hq',e⟩:=List.mem_map.1 this;rw [←e];exact hk q' hq'
 have hlen:(msC zs).length=s.ts.length:=by have:=congrArg List.length hkeys;simpa using this
 refine walk ?_;refine Za_ rfl rfl zda_ fun r1 H1 B hl1 ⟨pk,er,eB,eH⟩=>?_;subst er eB eH;have hc:=QbY_ (W0:=W0) (H:=H1) (H0:=Heap.empty) (RV:=rVal) (ag:=false) (p:=pk) (b:=mb) (ms:=msC zs) hk' (by rw [hlen];exact hl);rw [hkeys] at hc;refine Za_ rfl rfl hc fun r2 H2 B hl2 ⟨eB,eH⟩=>?_;subst eB eH;refine walk ?_;refine finB [ownS rTxn 3 24 47 H2 r2 ((allC s).map toTx),cRow p mb s,cMap mb zs] ?_;exact ⟨rfl,rfl⟩
theorem CInv.keyfit {n:Nat} {s:CS} (I:CInv n s):∀q∈s.ts,fits q.1.1∧fits q.1.2.1∧fits q.1.2.2:=fun q hq=>by
 obtain ⟨h1,h2,h3,_⟩:=I.kn q.1 q.2 (Zj_ I.nd hq);exact ⟨by rw [h1];exact I.fn,h2,h3⟩
theorem CInv.entry {n:Nat} {s:CS} (I:CInv n s) {zs:List CE} (hts:s.ts=tsC zs):(zs.map CE.k).Nodup∧∀e∈zs,mget e.k s.ts=some e.x∧TInv e.x:=by
 have hn:(zs.map CE.k).Nodup:=by have:=I.nd;rw [hts,qaQ_] at this;exact this
 refine ⟨hn,fun e he=>?_⟩;have hg:mget e.k s.ts=some e.x:=by rw [hts];exact zcI_ (f:=CE.x) hn he
 exact ⟨hg,I.ti _ _ hg⟩
theorem zan_ {H:Heap} {x:Txn} {ps:List Int} {v:Value} (hx:fits x.Node∧fits x.Life∧fits x.Count) (h:SlB rInt 1 8 H v ps):rRec H [I 4,I x.Node,I x.Life,I x.Count,I 0,nilS,nilS,.bool false,v] (recC x ps):=
 ⟨nilS,nilS,v,rfl,by unfold fits;simp [recC],hx.1,hx.2.1,hx.2.2,Zg_,SlB.nil,SlB.nil,h⟩
theorem v34_ {P:Prop} (h:P:=by
 refine Sub.trans (B:=xRow ⟨(ka,kb,kc),ep,.slice bs parts.length cs,⟨op,began,parts,works,heard⟩⟩ wv hb::zs_ H1 ⟨(ka,kb,kc),ep,.slice bs parts.length cs,⟨op,began,parts,works,heard⟩⟩ wv::QA_ H1 ⟨(ka,kb,kc),ep,.slice bs parts.length cs,⟨op,began,parts,works,heard⟩⟩ hb::_) subA ?_;refine (ZN_ hsl2 (.refl _)).trans ?_;refine Sub.trans (show Sub _ (xA H1 ⟨(ka,kb,kc),ep,.slice bs parts.length cs,⟨op,began,parts,works,heard⟩⟩::bigL (xA H1) (l1++l2)::_) from subA) ?_;refine bigL_in.trans ?_;exact subA):P:=h
theorem Zdc_ {W0:World} {H:Heap} {p n:Nat} {s:CS} (I0:CInv n s) (hn:n≤1000) (hpl:∀k t,mget k s.ts=some t→t.parts.length*8≤zb_):
  Ct Tryz.prog 49 #[.pointer (some ⟨p,0,none⟩)] W0 H [qj_ H p s] (fun r H' B=>B=[ownS rRec 9 120 53 H' r (openL s),qj_ H' p s]):=by
 refine Ct.go (vs:=[.pointer (some ⟨p,0,none⟩)]) fun R=>?_;have hln:=I0.ln;refine Qj_ (A:=qj_ H p s) (σ:=Nat×List CE) (B:=fun a=>[cRow p a.1 s,cMap a.1 a.2,bigL (xA H) a.2]) (p:=fun a=>CS.ts s=tsC a.2) (by repeat (first | exact Has.here | apply Has.there)) (fun h ⟨mb,zs,hb,hk⟩=>⟨(mb,zs),hk,hb⟩) fun ⟨mb,zs⟩ hts=>?_;dsimp only at hts⊢;obtain ⟨hnd,hent⟩:=I0.entry hts;refine walk ?_;refine Za_ rfl rfl (zcp_ (p:=p) (mb:=mb) hts I0.keyfit (by simp only [zb_];omega)) fun r1 H1 B hl1 ⟨eB,eH⟩=>?_;subst eB eH;refine Zd_ r1 fun H2 hl2 hsl=>?_;have hal:(allC s).length≤n:=by rw [Zbk_];exact hln
 have hmem:∀k∈allC s,∃l1 e l2,zs=l1++e::l2∧e.k=k:=fun k hk=>by
  rw [Qav_] at hk;rcases qbR_ zs k with h | h
  ·exact h
  ·rw [hts,Qcg_ (f:=CE.x) h] at hk;cases hk
 unfold openL;generalize allC s=ks at*;have hlx:(ks.map toTx).length=ks.length:=by simp
 obtain ⟨b0,c0,rfl,hc0,hd0⟩:=hsl.1.shape
 let g:List K3→List Rec:=fun l=>(l.filter fun k=>((mget k s.ts).getD zTX).op).map fun k=>recC (toTx k) ((mget k s.ts).getD zTX).parts
 have hgs:∀(l:List K3) (k:K3),g (l++[k])=if ((mget k s.ts).getD zTX).op=true then g l++[recC (toTx k) ((mget k s.ts).getD zTX).parts] else g l:=fun l k=>by
  simp only [g,List.filter_append,List.map_append];by_cases h:((mget k s.ts).getD zTX).op=true
  ·simp [h]
  ·simp [h]
 have hgl:∀l:List K3,(g l).length≤l.length:=fun l=>by simp only [g,List.length_map];exact List.length_filter_le _ _
 have hcap:(1001:Nat)*120≤zb_:=by decide
 refine walk ?_
 refine Qc_ (σ:=Nat×Option Addr×Nat×Heap) (fun u=>u.1≤ks.length∧H2.le u.2.2.2) (fun u=>[(0,.pointer (some ⟨p,0,none⟩)),(3,.slice u.2.1 (g (ks.take u.1)).length u.2.2.1),(8,.slice b0 (ks.map toTx).length c0),(9,I (ks.map toTx).length),(10,I u.1)]) (fun u=>u.2.2.2)
  (fun u=>ownS rRec 9 120 53 u.2.2.2 (.slice u.2.1 (g (ks.take u.1)).length u.2.2.1) (g (ks.take u.1))::cRow p mb s::cMap mb zs::bigL (xA H1) zs::R) (fun u=>ks.length - u.1) (0,none,0,H2) ⟨Nat.zero_le _,.refl _⟩ (hs0:=?_) fun ⟨j,d,e,HK⟩ ⟨hj0,hlK⟩ K hL=>?_
 rotate_left
 ·show Sub _ (ownS rRec 9 120 53 H2 (.slice none 0 0) []::_);exact v32_
 simp only at hj0 hlK;dsimp only;refine walk ?_;refine Qe_ rfl (fun hj=>?_) (fun hj=>?_)
 ·have hj1:j<ks.length:=by omega
  have htk:=List.take_succ_eq_append_getElem hj1;obtain ⟨l1,e1,l2,hz,hek⟩:=hmem _ (List.getElem_mem hj1);have he1:e1∈zs:=by rw [hz];simp
  obtain ⟨hg1,ti⟩:=hent e1 he1;have hmp:mget ks[j] (msC zs)=some (ptrC e1.p):=by rw [←hek];exact zcI_ (f:=fun e=>ptrC e.p) hnd he1
  have hgt:(mget ks[j] s.ts).getD zTX=e1.x:=by rw [←hek,hg1];rfl
  have hpl1:=hpl _ _ hg1;have hkf:=(I0.keyfit (e1.k,e1.x) (Zu_ hg1));have hstep:=hgs (ks.take j) ks[j];rw [←htk,hgt] at hstep;refine walk ?_;refine qe_ rfl rfl (hsl.mono hlK).1 (show j<(ks.map toTx).length by simpa using hj1) fun b o c hr hc=>?_;have hx:(ks.map toTx)[j]'(by simpa using hj1)=toTx ks[j]:=by simp
  rw [hx] at hc;obtain ⟨rfl,_⟩:=hc;generalize ks[j]=kk at*;subst hek;obtain ⟨⟨ka,kb,kc⟩,ep,ev,⟨op,began,parts,works,heard⟩⟩:=e1;dsimp only at hkf hg1 hmp hgt hstep ti hpl1;change HRow HK b o [I ka,I kb,I kc] at hr;refine walk ?_;refine zg_ rfl rfl hr rfl ?_;refine Qb_ rfl fun p5 _=>?_;refine walk ?_;refine qbW_ (RV:=rVal) (val:=fun x:Value=>x) (z:= .pointer none) rfl rfl ((by repeat (first | exact Has.here | apply Has.there))) ?_;rw [hmp,Option.getD_some];refine walk ?_;subst hz;refine zr_ (L':=xA H1 ⟨(ka,kb,kc),ep,ev,⟨op,began,parts,works,heard⟩⟩::bigL (xA H1) (l1++l2)::row p5 47 [I ka,I kb,I kc]::ownS rRec 9 120 53 HK (.slice d (g (ks.take j)).length e) (g (ks.take j))::cRow p mb s::cMap mb (l1++⟨(ka,kb,kc),ep,ev,⟨op,began,parts,works,heard⟩⟩::l2)::R) (Sub.trans subA ZZ_) ?_;refine qo_ (A:=xA H1 ⟨(ka,kb,kc),ep,ev,⟨op,began,parts,works,heard⟩⟩) (σ:=Value×Nat) (B:=fun a=>[xRow ⟨(ka,kb,kc),ep,ev,⟨op,began,parts,works,heard⟩⟩ a.1 a.2,zs_ H1 ⟨(ka,kb,kc),ep,ev,⟨op,began,parts,works,heard⟩⟩ a.1,QA_ H1 ⟨(ka,kb,kc),ep,ev,⟨op,began,parts,works,heard⟩⟩ a.2]) (p:=fun a=>SlB rInt 1 8 H1 (CE.v ⟨(ka,kb,kc),ep,ev,⟨op,began,parts,works,heard⟩⟩) (CE.x ⟨(ka,kb,kc),ep,ev,⟨op,began,parts,works,heard⟩⟩).parts) (by repeat (first | exact Has.here | apply Has.there)) (fun h ⟨hs,wv,hb,hbig⟩=>⟨(wv,hb),hs,hbig⟩) fun ⟨wv,hb⟩ hsl2=>?_;dsimp only at hsl2⊢;obtain ⟨bs,cs,rfl,hcs,hds⟩:=hsl2.1.shape;refine walk ?_;refine QI_ rfl Iff.rfl (fun ho=>?_) (fun ho=>?_)
  ·refine walk ?_;refine zc_ 10 [row p5 47 [I ka,I kb,I kc],QC_ ep op began (.slice bs parts.length cs) wv hb] ?_;refine qa_ 0 ?_;refine qa_ 1 ?_;refine qa_ 2 ?_;refine qa_ 3 ?_;refine qa_ 4 ?_;refine qa_ 5 ?_;have hcl:=Qx_ (W0:=W0) (H:=HK) (xs:=parts) (v:= .slice bs parts.length cs) (hsl2.mono (hl2.trans hlK));refine ze_ 6 rfl rfl rfl hcl fun r6 H6 B hl6 ⟨eB,eH⟩=>?_;subst eB eH;refine ⟨subA,?_⟩;refine zi_ r6 fun H7 hl7 hsc=>?_;obtain ⟨bc,cc,rfl,_,_⟩:=hsc.1.shape;refine qa_ 7 ?_;rw [if_pos ho] at hstep;have hgl2:=hgl (ks.take j);refine Qu_ (y:=recC ⟨ka,kb,kc⟩ parts) 8 9 rfl rfl rfl (zan_ hkf hsc) (by rw [List.length_take] at hgl2;simp only [zb_] at hcap⊢;omega) fun d3 e3=>⟨subA,?_⟩;rw [show (g (ks.take j)).length+1=(g (ks.take (j+1))).length by rw [hstep,List.length_append];rfl,show g (ks.take j)++[recC ⟨ka,kb,kc⟩ parts]=g (ks.take (j+1)) from hstep.symm];refine qb_ rfl ?_;refine walk ?_;refine Zb_ hL (j+1,d3,e3,H7) ⟨by simp only;omega,hlK.trans hl7⟩ (hs:=?_);exact v34_
  ·rw [if_neg (by simpa using ho)] at hstep;rw [←hstep];refine walk ?_;refine Zb_ hL (j+1,d,e,HK) ⟨by simp only;omega,hlK⟩ (hs:=?_);exact v34_
 ·clear hL;obtain rfl:j=ks.length:=by omega
  rw [List.take_length];refine walk ?_;refine finB [ownS rRec 9 120 53 HK (.slice d (g ks).length e) (g ks),qj_ HK p s] ?_ (hs:=?_)
  ·exact rfl
  ·refine Sub.trans ?_ (Sub.cons (ZaC_ (H:=H1) (mb:=mb) hts (hl2.trans hlK)));exact subA
end Go.Proofs.YtlflbkpmfhhikaaGreatDoor
