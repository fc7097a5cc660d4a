/- A coordinator: what is said again by an open one, its parts kept apart. -/
import Derived.Test.YtlflbkpmfhhikaaGreatDoorKE44
import Derived.Test.YtlflbkpmfhhikaaGreatDoorKTH
set_option maxHeartbeats 16000000
set_option maxRecDepth 100000
set_option linter.unusedVariables false
set_option linter.unusedSimpArgs false
namespace Go.Proofs.YtlflbkpmfhhikaaGreatDoor
open Go Go.Sx Go.Proofs
theorem ZcH_ {W0:World} {H:Heap} {node life:Int}:
  Ct Tryz.prog 34 #[I node,I life] W0 H [] (fun r H' B=>∃p,r= .pointer (some ⟨p,0,none⟩)∧B=[qj_ H p ⟨node,life,0,[]⟩]∧H'=H):=by
 refine Ct.go (vs:=[I node,I life]) fun R=>?_;refine walk ?_;refine qs_ ek3 rVal false rfl fun mb _=>?_;refine walk ?_;refine qc_ rfl rfl fun p _=>?_;refine walk ?_;refine finB [qj_ H p ⟨node,life,0,[]⟩] ?_ (hs:=?_)
 ·exact ⟨p,rfl,rfl,rfl⟩
 ·refine Sub.trans (B:=mapO ek3 rVal false H mb []::row p 160 [I node,I life,I 0,.map (some mb)]::R) subA ?_;refine Sub.trans (show Sub _ (cMap mb []::row p 160 [I node,I life,I 0,.map (some mb)]::R) from fun h ⟨h1,h2,a,r⟩=>⟨h1,h2,QcN_ a,r⟩) ?_;refine Sub.trans (qE_ (A:=xA H)) ?_;refine Sub.trans ?_ (qz_ (mb:=mb) (zs:=[]) (s:=⟨node,life,0,[]⟩) rfl);exact subA
theorem TX.hd0 {t:TX} (hv:∀q∈t.heard,q.2=1) (p:Int):((mget p t.heard).getD 0=0)↔t.hd p=false:=by
 unfold TX.hd
 cases hg:mget p t.heard with
 | none=>simp
 | some v=>
  have:=hv _ (Zu_ hg);simp at this;simp [this]
theorem zcg_ {H:Heap}:Qi_ H [I 0,nilS,nilS] zac_:=Zat_
abbrev QC_ (ep:Nat) (op:Bool) (began:Int) (v wv:Value) (hb:Nat):za_:=row ep 165 [.bool op,I began,v,wv,.map (some hb)]
abbrev zx_ (n:Int) (x:Txn) (t:TX) (j:Nat):List Message:=((t.parts.take j).filter fun q=> !t.hd q).map (Zbb_ n x t)
theorem Qbk_ {n:Int} {x:Txn} {t:TX} {j:Nat} (hj:j<t.parts.length) (h:t.hd t.parts[j]=true):zx_ n x t (j+1)=zx_ n x t j:=by
 unfold zx_;rw [List.take_succ_eq_append_getElem hj,List.filter_append];simp [h]
theorem zaP_ {n:Int} {x:Txn} {t:TX} {j:Nat} (hj:j<t.parts.length) (h:t.hd t.parts[j]=false):zx_ n x t (j+1)=zx_ n x t j++[Zbb_ n x t t.parts[j]]:=by
 unfold zx_;rw [List.take_succ_eq_append_getElem hj,List.filter_append,List.map_append];simp [h]
theorem QaP_ {n:Int} {x:Txn} {t:TX} {j:Nat}:(zx_ n x t j).length≤t.parts.length:=by
 unfold zx_;rw [List.length_map];exact Nat.le_trans (List.length_filter_le _ _) (by rw [List.length_take];exact Nat.min_le_right _ _)
theorem QB_ {H:Heap} {n p:Int} {x:Txn} {y:Bool} (hn:fits n) (hp:fits p) (hx:fits x.Node∧fits x.Life∧fits x.Count):Qa_ H [I n,I p,I 3,I x.Node,I x.Life,I x.Count,I 0,nilS,nilS,.bool y,I 0,I 0,I 0,I 0,nilS,I 0,I 0,I 0,nilS] (decM n x p y):=
 ⟨nilS,nilS,nilS,nilS,rfl,hn,hp,by unfold fits;simp [decM],hx.1,hx.2.1,hx.2.2,Zg_,SlB.nil,SlB.nil,Zg_,Zg_,Zg_,Zg_,SlB.nil,Zg_,Zg_,Zg_,SlB.nil⟩
theorem ZaP_ {H:Heap} {n p:Int} {x:Txn} {w:Work} {s1 s2:Value} (hn:fits n) (hp:fits p) (hx:fits x.Node∧fits x.Life∧fits x.Count) (hw:Qi_ H [I w.Robot,s1,s2] w):Qa_ H [I n,I p,I 1,I x.Node,I x.Life,I x.Count,I w.Robot,s1,s2,.bool false,I 0,I 0,I 0,I 0,nilS,I 0,I 0,I 0,nilS] (zt_ n x p w):=by
 obtain ⟨u1,u2,e,hr,h1,h2⟩:=hw
 cases e
 exact ⟨_,_,nilS,nilS,rfl,hn,hp,by unfold fits;simp [zt_],hx.1,hx.2.1,hx.2.2,hr,h1,h2,Zg_,Zg_,Zg_,Zg_,SlB.nil,Zg_,Zg_,Zg_,SlB.nil⟩
theorem v102_ {P:Prop} (h:P:=by
 refine qb_ rfl ?_;refine walk ?_;refine zc_ 7 [row p4 47 [I x1,I x2,I x3],cRow p mb s] ?_;refine qa_ 0 ?_;refine qa_ 1 ?_;refine qa_ 2 ?_;refine qa_ 3 ?_;refine qa_ 4 ?_;refine qa_ 5 ?_;refine qa_ 6 ?_;refine qb_ rfl ?_;refine walk ?_;have hsy:=zaP_ (n:=s.node) (x:=⟨x1,x2,x3⟩) (t:=⟨true,began,parts,works,heard⟩) hj1 hh;have hln:=QaP_ (n:=s.node) (x:=⟨x1,x2,x3⟩) (t:=⟨true,began,parts,works,heard⟩) (j:=j);refine zj_ (y:=decM s.node ⟨x1,x2,x3⟩ parts[j] true) rfl rfl rfl (QB_ hn hfp hx) (by simp only at hln;simp only [zb_] at hcap⊢;omega) fun d3 e3=>?_;rw [show (zx_ s.node ⟨x1,x2,x3⟩ ⟨true,began,parts,works,heard⟩ j).length+1=(zx_ s.node ⟨x1,x2,x3⟩ ⟨true,began,parts,works,heard⟩ (j+1)).length by rw [hsy,List.length_append];rfl,show zx_ s.node ⟨x1,x2,x3⟩ ⟨true,began,parts,works,heard⟩ j++[decM s.node ⟨x1,x2,x3⟩ parts[j] true]=zx_ s.node ⟨x1,x2,x3⟩ ⟨true,began,parts,works,heard⟩ (j+1) from hsy.symm];refine walk ?_;exact Zb_ hL (j+1,d3,e3,H5) ⟨by simp only;omega,hlK.trans hl5⟩):P:=h
theorem v108_ {P:Prop} (h:P:=by
 show Sub _ (ownS Qa_ 19 216 106 H (.slice none 0 0) []::_);exact v32_):P:=h
theorem v5_ {P:Prop} (h:P:=by
 have hj1:j<parts.length:=by omega
 have hfp:=hp _ (List.getElem_mem hj1);have hslK:SlR rInt 1 HK (.slice b0 parts.length c0) parts:=(hsl2.mono (hl1.trans hlK)).1;refine walk ?_;refine zbo_ (RV:=rInt) (ag:=false) (z:=0) rfl rfl (by repeat (first | exact Has.here | apply Has.there)) ?_;refine walk ?_;refine Qe_ rfl (fun hq=>?_) (fun hq=>?_)
 ·have hh:(⟨true,began,parts,works,heard⟩:TX).hd parts[j]=true:=by
   cases hh:(⟨true,began,parts,works,heard⟩:TX).hd parts[j] with
   | true=>rfl
   | false=>exact absurd ((hdd _).2 hh) hq
  rw [←Qbk_ (n:=s.node) (x:=⟨x1,x2,x3⟩) (t:=⟨true,began,parts,works,heard⟩) hj1 hh];refine walk ?_;exact Zb_ hL (j+1,d,e,HK) ⟨by simp only;omega,hlK⟩
 have hh:(⟨true,began,parts,works,heard⟩:TX).hd parts[j]=false:=(hdd _).1 (Classical.not_not.1 hq);refine walk ?_;refine zc_ 15 [row p4 47 [I x1,I x2,I x3],QC_ ep true began (.slice b0 parts.length c0) (.map none) hb,cRow p mb s] ?_;refine qa_ 0 ?_;refine qa_ 1 ?_;refine qa_ 2 ?_;refine qa_ 3 ?_;refine qa_ 4 ?_;refine qa_ 5 ?_;refine qa_ 6 ?_;refine qa_ 7 ?_;refine qa_ 8 ?_;refine qa_ 9 ?_;refine qa_ 10 ?_;refine Qda_ 11 (ek:=iK) (z:= .agg #[I 0,nilS,nilS]) rfl rfl rfl ?_;refine QaJ_ 12 14 rfl rfl rfl (Zac_ (W0:=W0) (H:=HK) (m:=zac_) (c:=[I 0,nilS,nilS]) zcg_) (fun r5 H5 B hl5 ⟨cs5,er,hcs5,eB⟩=>?_) (fun p10 _=>?_)
 ·subst er eB;refine ⟨subA,?_⟩;obtain ⟨u1,u2,rfl,_,hu1,hu2⟩:=hcs5;obtain ⟨ub1,uc1,rfl,_,_⟩:=hu1.1.shape;obtain ⟨ub2,uc2,rfl,_,_⟩:=hu2.1.shape;refine qa_ 13 ?_;refine Zn_ 14 rfl rfl fun p10 _=>?_;exact v102_
 ·refine zo_ 12 rfl rfl (Zac_ (W0:=W0) (H:=HK) (m:=zac_) (c:=[I 0,nilS,nilS]) zcg_) fun r5 H5 B hl5 ⟨cs5,er,hcs5,eB⟩=>?_;subst er eB;refine ⟨subA,?_⟩;obtain ⟨u1,u2,rfl,_,hu1,hu2⟩:=hcs5;obtain ⟨ub1,uc1,rfl,_,_⟩:=hu1.1.shape;obtain ⟨ub2,uc2,rfl,_,_⟩:=hu2.1.shape;refine qa_ 13 ?_;exact v102_):P:=h
theorem zbQ_ {W0:World} {H H1:Heap} {p mb:Nat} {s:CS} {x:Txn} {e:CE} (hop:e.x.op=true) (hl1:H1.le H) (hn:fits s.node) (hx:fits x.Node∧fits x.Life∧fits x.Count) (hv:∀q∈e.x.heard,q.2=1) (hp:∀q∈e.x.parts,fits q) (hpl:e.x.parts.length≤1000000):
  Ct Tryz.prog 66 #[.pointer (some ⟨p,0,none⟩),.agg x.cv.toArray,.pointer (some ⟨e.p,0,none⟩)] W0 H [cRow p mb s,xA H1 e] (fun r H' B=>B=[ownS Qa_ 19 216 106 H' r (qi_ s.node x e.x),cRow p mb s,xA H' e]):=by
 refine Ct.go (vs:=[.pointer (some ⟨p,0,none⟩),.agg x.cv.toArray,.pointer (some ⟨e.p,0,none⟩)]) fun R=>?_;obtain ⟨x1,x2,x3⟩:=x;obtain ⟨k,ep,v,⟨op,began,parts,works,heard⟩⟩:=e;dsimp only at hv hp hpl hop;subst hop;have hcap:(1000001:Nat)*216≤zb_:=by decide
 refine walk ?_;refine qc_ rfl rfl fun p4 _=>?_;refine qo_ (A:=xA H1 ⟨k,ep,v,⟨true,began,parts,works,heard⟩⟩) (σ:=Value×Nat) (B:=fun a=>[xRow ⟨k,ep,v,⟨true,began,parts,works,heard⟩⟩ a.1 a.2,zs_ H1 ⟨k,ep,v,⟨true,began,parts,works,heard⟩⟩ a.1,QA_ H1 ⟨k,ep,v,⟨true,began,parts,works,heard⟩⟩ a.2]) (p:=fun a=>SlB rInt 1 8 H1 (CE.v ⟨k,ep,v,⟨true,began,parts,works,heard⟩⟩) (CE.x ⟨k,ep,v,⟨true,began,parts,works,heard⟩⟩).parts) (by repeat (first | exact Has.here | apply Has.there)) (fun h ⟨hs,wv,hb,hbig⟩=>⟨(wv,hb),hs,hbig⟩) fun ⟨wv,hb⟩ hsl2=>?_;dsimp only at hsl2⊢;obtain ⟨b0,c0,rfl,hc0,hd0⟩:=hsl2.1.shape;refine zal_ (A:=zs_ H1 ⟨k,ep,.slice b0 parts.length c0,⟨true,began,parts,works,heard⟩⟩ wv) (p:=wv= .map none) (by repeat (first | exact Has.here | apply Has.there)) (fun h hw=>hw.elim (fun h=>h.2.2.1) fun h=>by cases h.1) fun hwv=>?_;subst hwv;refine walk ?_;refine ex_L (L':=QC_ ep true began (.slice b0 parts.length c0) (.map none) hb::zs_ H1 ⟨k,ep,.slice b0 parts.length c0,⟨true,began,parts,works,heard⟩⟩ (.map none)::mapO iK rInt false H1 hb heard::row p4 47 [I x1,I x2,I x3]::cRow p mb s::R) subA ?_;have hdd:=TX.hd0 (t:=⟨true,began,parts,works,heard⟩) hv
 refine Qc_ (σ:=Nat×Option Addr×Nat×Heap) (fun u=>u.1≤parts.length∧H.le u.2.2.2) (fun u=>[(0,.pointer (some ⟨p,0,none⟩)),(2,.pointer (some ⟨ep,0,none⟩)),(4,.pointer (some ⟨p4,0,none⟩)),(7,.slice u.2.1 (zx_ s.node ⟨x1,x2,x3⟩ ⟨true,began,parts,works,heard⟩ u.1).length u.2.2.1),(14,.slice b0 parts.length c0),(15,I parts.length),(16,I u.1)]) (fun u=>u.2.2.2)
  (fun u=>ownS Qa_ 19 216 106 u.2.2.2 (.slice u.2.1 (zx_ s.node ⟨x1,x2,x3⟩ ⟨true,began,parts,works,heard⟩ u.1).length u.2.2.1) (zx_ s.node ⟨x1,x2,x3⟩ ⟨true,began,parts,works,heard⟩ u.1)::QC_ ep true began (.slice b0 parts.length c0) (.map none) hb::zs_ H1 ⟨k,ep,.slice b0 parts.length c0,⟨true,began,parts,works,heard⟩⟩ (.map none)::mapO iK rInt false H1 hb heard::row p4 47 [I x1,I x2,I x3]::cRow p mb s::R) (fun u=>parts.length - u.1) (0,none,0,H) ⟨Nat.zero_le _,.refl _⟩ (hs0:=?_) fun ⟨j,d,e,HK⟩ ⟨hj0,hlK⟩ K hL=>?_
 rotate_left
 ·exact v108_
 simp only at hj0 hlK;dsimp only;refine walk ?_;refine Qe_ rfl (fun hj=>?_) (fun hj=>?_)
 ·exact v5_
 ·clear hL;obtain rfl:j=parts.length:=by omega
  refine walk ?_;have hfin:zx_ s.node ⟨x1,x2,x3⟩ ⟨true,began,parts,works,heard⟩ parts.length=qi_ s.node ⟨x1,x2,x3⟩ ⟨true,began,parts,works,heard⟩:=by simp [zx_,qi_]
  rw [hfin];refine finB [ownS Qa_ 19 216 106 HK (.slice d (qi_ s.node ⟨x1,x2,x3⟩ ⟨true,began,parts,works,heard⟩).length e) (qi_ s.node ⟨x1,x2,x3⟩ ⟨true,began,parts,works,heard⟩),cRow p mb s,xA HK ⟨k,ep,.slice b0 parts.length c0,⟨true,began,parts,works,heard⟩⟩] ?_ (hs:=?_)
  ·exact rfl
  ·refine Sub.trans (B:=xRow ⟨k,ep,.slice b0 parts.length c0,⟨true,began,parts,works,heard⟩⟩ (.map none) hb::zs_ H1 ⟨k,ep,.slice b0 parts.length c0,⟨true,began,parts,works,heard⟩⟩ (.map none)::QA_ H1 ⟨k,ep,.slice b0 parts.length c0,⟨true,began,parts,works,heard⟩⟩ hb::ownS Qa_ 19 216 106 HK (.slice d (qi_ s.node ⟨x1,x2,x3⟩ ⟨true,began,parts,works,heard⟩).length e) (qi_ s.node ⟨x1,x2,x3⟩ ⟨true,began,parts,works,heard⟩)::cRow p mb s::R) subA ?_;refine (ZN_ (hsl2.mono (hl1.trans hlK)) (hl1.trans hlK)).trans ?_;exact subA
theorem qcI_ {H H':Heap} {works:List (Int×CW)} (hl:H.le H') (hw:∀q∈works,∃cs,rCW H cs q.2) (p:Int):Qi_ H' ((mget p works).getD zCW).1 ((mget p works).getD zCW).2:=by
 cases hg:mget p works with
 | none=>exact RdOk.mono (R:=Qi_) (Heap.le.refl _) Zat_
 | some v=>
  obtain ⟨cs,e,h⟩:=hw _ (Zu_ hg);dsimp only at e h;subst e;exact RdOk.mono (R:=Qi_) hl h
theorem v19_ {P:Prop} (h:P:=by
 refine qb_ rfl ?_;refine walk ?_;have hsy:=zaP_ (n:=s.node) (x:=⟨x1,x2,x3⟩) (t:=⟨false,began,parts,works,heard⟩) hj1 hh;have hln:=QaP_ (n:=s.node) (x:=⟨x1,x2,x3⟩) (t:=⟨false,began,parts,works,heard⟩) (j:=j);have hsm:Zbb_ s.node ⟨x1,x2,x3⟩ ⟨false,began,parts,works,heard⟩ parts[j]=zt_ s.node ⟨x1,x2,x3⟩ parts[j] ((mget parts[j] works).getD zCW).2:=rfl;rw [hsm] at hsy;refine zj_ (y:=zt_ s.node ⟨x1,x2,x3⟩ parts[j] ((mget parts[j] works).getD zCW).2) rfl rfl rfl (ZaP_ hn hfp hx ⟨_,_,rfl,hu0,hu1,hu2⟩) (by simp only at hln;simp only [zb_] at hcap⊢;omega) fun d3 e3=>?_;rw [show (zx_ s.node ⟨x1,x2,x3⟩ ⟨false,began,parts,works,heard⟩ j).length+1=(zx_ s.node ⟨x1,x2,x3⟩ ⟨false,began,parts,works,heard⟩ (j+1)).length by rw [hsy,List.length_append];rfl,show zx_ s.node ⟨x1,x2,x3⟩ ⟨false,began,parts,works,heard⟩ j++[zt_ s.node ⟨x1,x2,x3⟩ parts[j] ((mget parts[j] works).getD zCW).2]=zx_ s.node ⟨x1,x2,x3⟩ ⟨false,began,parts,works,heard⟩ (j+1) from hsy.symm];refine walk ?_;exact Zb_ hL (j+1,d3,e3,H5) ⟨by simp only;omega,hlK.trans hl5⟩):P:=h
theorem v53_ {P:Prop} (h:P:=by
 refine Sub.trans (show Sub _ (zs_ H1 ⟨k,ep,.slice b0 parts.length c0,⟨false,began,parts,works,heard⟩⟩ (.map (some wb))::_) from fun h ⟨h1,h2,a,r⟩=>⟨h1,h2,.inr ⟨rfl,wb,rfl,a⟩,r⟩) ?_;exact subA):P:=h
theorem v82_ {P:Prop} (h:P:=by
 cases hh:(⟨false,began,parts,works,heard⟩:TX).hd parts[j] with
 | true=>rfl
 | false=>exact absurd ((hdd _).2 hh) hq):P:=h
theorem QbQ_ {W0:World} {H H1:Heap} {p mb:Nat} {s:CS} {x:Txn} {e:CE} (hop:e.x.op=false) (hl1:H1.le H) (hn:fits s.node) (hx:fits x.Node∧fits x.Life∧fits x.Count) (hv:∀q∈e.x.heard,q.2=1) (hp:∀q∈e.x.parts,fits q) (hpl:e.x.parts.length≤1000000):
  Ct Tryz.prog 66 #[.pointer (some ⟨p,0,none⟩),.agg x.cv.toArray,.pointer (some ⟨e.p,0,none⟩)] W0 H [cRow p mb s,xA H1 e] (fun r H' B=>B=[ownS Qa_ 19 216 106 H' r (qi_ s.node x e.x),cRow p mb s,xA H' e]):=by
 refine Ct.go (vs:=[.pointer (some ⟨p,0,none⟩),.agg x.cv.toArray,.pointer (some ⟨e.p,0,none⟩)]) fun R=>?_;obtain ⟨x1,x2,x3⟩:=x;obtain ⟨k,ep,v,⟨op,began,parts,works,heard⟩⟩:=e;dsimp only at hv hp hpl hop;subst hop;have hcap:(1000001:Nat)*216≤zb_:=by decide
 refine walk ?_;refine qc_ rfl rfl fun p4 _=>?_;refine qo_ (A:=xA H1 ⟨k,ep,v,⟨false,began,parts,works,heard⟩⟩) (σ:=Value×Nat) (B:=fun a=>[xRow ⟨k,ep,v,⟨false,began,parts,works,heard⟩⟩ a.1 a.2,zs_ H1 ⟨k,ep,v,⟨false,began,parts,works,heard⟩⟩ a.1,QA_ H1 ⟨k,ep,v,⟨false,began,parts,works,heard⟩⟩ a.2]) (p:=fun a=>SlB rInt 1 8 H1 (CE.v ⟨k,ep,v,⟨false,began,parts,works,heard⟩⟩) (CE.x ⟨k,ep,v,⟨false,began,parts,works,heard⟩⟩).parts) (by repeat (first | exact Has.here | apply Has.there)) (fun h ⟨hs,wv,hb,hbig⟩=>⟨(wv,hb),hs,hbig⟩) fun ⟨wv,hb⟩ hsl2=>?_;dsimp only at hsl2⊢;obtain ⟨b0,c0,rfl,hc0,hd0⟩:=hsl2.1.shape;refine qo_ (A:=zs_ H1 ⟨k,ep,.slice b0 parts.length c0,⟨false,began,parts,works,heard⟩⟩ wv) (σ:=Nat) (B:=fun wb=>[mapO iK rCW true H1 wb works]) (p:=fun wb=>wv= .map (some wb)) (by repeat (first | exact Has.here | apply Has.there)) (fun h hw=>hw.elim (fun h=>by cases h.1) fun ⟨_,wb,e,hm⟩=>⟨wb,e,Qbn_ hm⟩) fun wb hwv=>?_;subst hwv;refine zal_ (A:=mapO iK rCW true H1 wb works) (p:=∀q∈works,∃cs,rCW H1 cs q.2) (by repeat (first | exact Has.here | apply Has.there)) (fun h hm=>(QW_ hm).1) fun hwl=>?_;refine walk ?_;refine ex_L (L':=QC_ ep false began (.slice b0 parts.length c0) (.map (some wb)) hb::mapO iK rCW true H1 wb works::mapO iK rInt false H1 hb heard::row p4 47 [I x1,I x2,I x3]::cRow p mb s::R) subA ?_;have hdd:=TX.hd0 (t:=⟨false,began,parts,works,heard⟩) hv
 refine Qc_ (σ:=Nat×Option Addr×Nat×Heap) (fun u=>u.1≤parts.length∧H.le u.2.2.2) (fun u=>[(0,.pointer (some ⟨p,0,none⟩)),(2,.pointer (some ⟨ep,0,none⟩)),(4,.pointer (some ⟨p4,0,none⟩)),(7,.slice u.2.1 (zx_ s.node ⟨x1,x2,x3⟩ ⟨false,began,parts,works,heard⟩ u.1).length u.2.2.1),(14,.slice b0 parts.length c0),(15,I parts.length),(16,I u.1)]) (fun u=>u.2.2.2)
  (fun u=>ownS Qa_ 19 216 106 u.2.2.2 (.slice u.2.1 (zx_ s.node ⟨x1,x2,x3⟩ ⟨false,began,parts,works,heard⟩ u.1).length u.2.2.1) (zx_ s.node ⟨x1,x2,x3⟩ ⟨false,began,parts,works,heard⟩ u.1)::QC_ ep false began (.slice b0 parts.length c0) (.map (some wb)) hb::mapO iK rCW true H1 wb works::mapO iK rInt false H1 hb heard::row p4 47 [I x1,I x2,I x3]::cRow p mb s::R) (fun u=>parts.length - u.1) (0,none,0,H) ⟨Nat.zero_le _,.refl _⟩ (hs0:=?_) fun ⟨j,d,e,HK⟩ ⟨hj0,hlK⟩ K hL=>?_
 rotate_left
 ·exact v108_
 simp only at hj0 hlK;dsimp only;refine walk ?_;refine Qe_ rfl (fun hj=>?_) (fun hj=>?_)
 ·have hj1:j<parts.length:=by omega
  have hfp:=hp _ (List.getElem_mem hj1);have hslK:SlR rInt 1 HK (.slice b0 parts.length c0) parts:=(hsl2.mono (hl1.trans hlK)).1;refine walk ?_;refine zbo_ (RV:=rInt) (ag:=false) (z:=0) rfl rfl (by repeat (first | exact Has.here | apply Has.there)) ?_;refine walk ?_;refine Qe_ rfl (fun hq=>?_) (fun hq=>?_)
  ·have hh:(⟨false,began,parts,works,heard⟩:TX).hd parts[j]=true:=by
    exact v82_
   rw [←Qbk_ (n:=s.node) (x:=⟨x1,x2,x3⟩) (t:=⟨false,began,parts,works,heard⟩) hj1 hh];refine walk ?_;exact Zb_ hL (j+1,d,e,HK) ⟨by simp only;omega,hlK⟩
  have hh:(⟨false,began,parts,works,heard⟩:TX).hd parts[j]=false:=(hdd _).1 (Classical.not_not.1 hq);refine walk ?_;refine zc_ 15 [row p4 47 [I x1,I x2,I x3],QC_ ep false began (.slice b0 parts.length c0) (.map (some wb)) hb,cRow p mb s,mapO iK rCW true H1 wb works] ?_;refine qa_ 0 ?_;refine qa_ 1 ?_;refine qa_ 2 ?_;refine qa_ 3 ?_;refine qa_ 4 ?_;refine qa_ 5 ?_;refine qa_ 6 ?_;refine qa_ 7 ?_;refine qa_ 8 ?_;refine qa_ 9 ?_;refine qa_ 10 ?_;refine Qbo_ (RV:=rCW) (ag:=true) (z:=zCW) 11 rfl rfl rfl (by repeat (first | exact Has.here | apply Has.there)) ?_;have hwr:=qcI_ (H:=H1) (H':=HK) (hl1.trans hlK) hwl parts[j];refine QaJ_ 12 14 rfl rfl rfl (Zac_ (W0:=W0) (H:=HK) (m:=((mget parts[j] works).getD zCW).2) (c:=((mget parts[j] works).getD zCW).1) hwr) (fun r5 H5 B hl5 ⟨cs5,er,hcs5,eB⟩=>?g1) (fun p10 _=>?g2)
  case g1=>
   subst er eB;refine ⟨subA,?_⟩;obtain ⟨u1,u2,rfl,hu0,hu1,hu2⟩:=hcs5;obtain ⟨ub1,uc1,rfl,_,_⟩:=hu1.1.shape;obtain ⟨ub2,uc2,rfl,_,_⟩:=hu2.1.shape;refine qa_ 13 ?_;refine Zn_ 14 rfl rfl fun p10 _=>?_;exact v19_
  case g2=>
   refine zo_ 12 rfl rfl (Zac_ (W0:=W0) (H:=HK) (m:=((mget parts[j] works).getD zCW).2) (c:=((mget parts[j] works).getD zCW).1) hwr) fun r5 H5 B hl5 ⟨cs5,er,hcs5,eB⟩=>?_;subst er eB;refine ⟨subA,?_⟩;obtain ⟨u1,u2,rfl,hu0,hu1,hu2⟩:=hcs5;obtain ⟨ub1,uc1,rfl,_,_⟩:=hu1.1.shape;obtain ⟨ub2,uc2,rfl,_,_⟩:=hu2.1.shape;refine qa_ 13 ?_;exact v19_
 ·clear hL;obtain rfl:j=parts.length:=by omega
  refine walk ?_;have hfin:zx_ s.node ⟨x1,x2,x3⟩ ⟨false,began,parts,works,heard⟩ parts.length=qi_ s.node ⟨x1,x2,x3⟩ ⟨false,began,parts,works,heard⟩:=by simp [zx_,qi_]
  rw [hfin];refine finB [ownS Qa_ 19 216 106 HK (.slice d (qi_ s.node ⟨x1,x2,x3⟩ ⟨false,began,parts,works,heard⟩).length e) (qi_ s.node ⟨x1,x2,x3⟩ ⟨false,began,parts,works,heard⟩),cRow p mb s,xA HK ⟨k,ep,.slice b0 parts.length c0,⟨false,began,parts,works,heard⟩⟩] ?_ (hs:=?_)
  ·exact rfl
  ·refine Sub.trans (B:=xRow ⟨k,ep,.slice b0 parts.length c0,⟨false,began,parts,works,heard⟩⟩ (.map (some wb)) hb::zs_ H1 ⟨k,ep,.slice b0 parts.length c0,⟨false,began,parts,works,heard⟩⟩ (.map (some wb))::QA_ H1 ⟨k,ep,.slice b0 parts.length c0,⟨false,began,parts,works,heard⟩⟩ hb::ownS Qa_ 19 216 106 HK (.slice d (qi_ s.node ⟨x1,x2,x3⟩ ⟨false,began,parts,works,heard⟩).length e) (qi_ s.node ⟨x1,x2,x3⟩ ⟨false,began,parts,works,heard⟩)::cRow p mb s::R) ?_ ?_
   ·refine Sub.trans (B:=mapO iK rCW true H1 wb works::xRow ⟨k,ep,.slice b0 parts.length c0,⟨false,began,parts,works,heard⟩⟩ (.map (some wb)) hb::QA_ H1 ⟨k,ep,.slice b0 parts.length c0,⟨false,began,parts,works,heard⟩⟩ hb::ownS Qa_ 19 216 106 HK (.slice d (qi_ s.node ⟨x1,x2,x3⟩ ⟨false,began,parts,works,heard⟩).length e) (qi_ s.node ⟨x1,x2,x3⟩ ⟨false,began,parts,works,heard⟩)::cRow p mb s::R) subA ?_;exact v53_
   refine (ZN_ (hsl2.mono (hl1.trans hlK)) (hl1.trans hlK)).trans ?_;exact subA
theorem v62_ {P:Prop} (h:P:=by
 refine walk ?_;exact Zb_ hL (j+1,d3,e3) (by simp only;omega)):P:=h
theorem zca_ {W0:World} {H H1:Heap} {p mb ep hb:Nat} {s:CS} {x:Txn} {began:Int} {parts:List Int} {works:List (Int×CW)} {heard:List (Int×Int)} {b0:Option Addr} {c0:Nat} (hl1:H1.le H) (hn:fits s.node) (hx:fits x.Node∧fits x.Life∧fits x.Count) (hv:∀q∈heard,q.2=1) (hp:∀q∈parts,fits q) (hpl:parts.length≤1000000) (hsl2:SlB rInt 1 8 H1 (.slice b0 parts.length c0) parts):
  Ct Tryz.prog 66 #[.pointer (some ⟨p,0,none⟩),.agg x.cv.toArray,.pointer (some ⟨ep,0,none⟩)] W0 H [cRow p mb s,QC_ ep true began (.slice b0 parts.length c0) (.map none) hb,mapO iK rInt false H1 hb heard] (fun r H' B=>B=[ownS Qa_ 19 216 106 H' r (qi_ s.node x ⟨true,began,parts,works,heard⟩),cRow p mb s,QC_ ep true began (.slice b0 parts.length c0) (.map none) hb,mapO iK rInt false H1 hb heard]):=by
 refine Ct.go (vs:=[.pointer (some ⟨p,0,none⟩),.agg x.cv.toArray,.pointer (some ⟨ep,0,none⟩)]) fun R=>?_;obtain ⟨x1,x2,x3⟩:=x;have hcap:(1000001:Nat)*216≤zb_:=by decide
 obtain ⟨_,_,e0,hc0,hd0⟩:=hsl2.1.shape
 cases e0
 refine walk ?_;refine qc_ rfl rfl fun p4 _=>?_;refine walk ?_;refine ex_L (L':=QC_ ep true began (.slice b0 parts.length c0) (.map none) hb::mapO iK rInt false H1 hb heard::row p4 47 [I x1,I x2,I x3]::cRow p mb s::R) subA ?_;have hdd:=TX.hd0 (t:=⟨true,began,parts,works,heard⟩) hv
 refine Qc_ (σ:=Nat×Option Addr×Nat×Heap) (fun u=>u.1≤parts.length∧H.le u.2.2.2) (fun u=>[(0,.pointer (some ⟨p,0,none⟩)),(2,.pointer (some ⟨ep,0,none⟩)),(4,.pointer (some ⟨p4,0,none⟩)),(7,.slice u.2.1 (zx_ s.node ⟨x1,x2,x3⟩ ⟨true,began,parts,works,heard⟩ u.1).length u.2.2.1),(14,.slice b0 parts.length c0),(15,I parts.length),(16,I u.1)]) (fun u=>u.2.2.2)
  (fun u=>ownS Qa_ 19 216 106 u.2.2.2 (.slice u.2.1 (zx_ s.node ⟨x1,x2,x3⟩ ⟨true,began,parts,works,heard⟩ u.1).length u.2.2.1) (zx_ s.node ⟨x1,x2,x3⟩ ⟨true,began,parts,works,heard⟩ u.1)::QC_ ep true began (.slice b0 parts.length c0) (.map none) hb::mapO iK rInt false H1 hb heard::row p4 47 [I x1,I x2,I x3]::cRow p mb s::R) (fun u=>parts.length - u.1) (0,none,0,H) ⟨Nat.zero_le _,.refl _⟩ (hs0:=?_) fun ⟨j,d,e,HK⟩ ⟨hj0,hlK⟩ K hL=>?_
 rotate_left
 ·exact v108_
 simp only at hj0 hlK;dsimp only;refine walk ?_;refine Qe_ rfl (fun hj=>?_) (fun hj=>?_)
 ·exact v5_
 ·clear hL;obtain rfl:j=parts.length:=by omega
  refine walk ?_;have hfin:zx_ s.node ⟨x1,x2,x3⟩ ⟨true,began,parts,works,heard⟩ parts.length=qi_ s.node ⟨x1,x2,x3⟩ ⟨true,began,parts,works,heard⟩:=by simp [zx_,qi_]
  rw [hfin];refine finB [ownS Qa_ 19 216 106 HK (.slice d (qi_ s.node ⟨x1,x2,x3⟩ ⟨true,began,parts,works,heard⟩).length e) (qi_ s.node ⟨x1,x2,x3⟩ ⟨true,began,parts,works,heard⟩),cRow p mb s,QC_ ep true began (.slice b0 parts.length c0) (.map none) hb,mapO iK rInt false H1 hb heard] ?_;exact rfl
end Go.Proofs.YtlflbkpmfhhikaaGreatDoor
