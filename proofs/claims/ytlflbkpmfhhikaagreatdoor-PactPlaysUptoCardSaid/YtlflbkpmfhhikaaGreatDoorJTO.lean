/- A coordinator: Load. -/
import Derived.Test.YtlflbkpmfhhikaaGreatDoorJTM
import Derived.Test.YtlflbkpmfhhikaaGreatDoorJTR
set_option maxHeartbeats 16000000
set_option maxRecDepth 100000
set_option linter.unusedVariables false
set_option linter.unusedSimpArgs false
namespace Go.Proofs.YtlflbkpmfhhikaaGreatDoor
open Go Go.Sx Go.Proofs
theorem Zax_ {w:Work}:∀{l:List Work} {i:Int},works0 i (l++[w])=works0 i l++if 0<w.Take.length+w.Drop.length then [(i+l.length,w)] else []
 | [],i=>by simp [works0]
 | a::l,i=>by
  rw [List.cons_append];have ih:=Zax_ (w:=w) (l:=l) (i:=i+1);have e:i+((l.length+1:Nat):Int)=i+1+l.length:=by omega
  unfold works0;rw [List.length_cons,e];split
  ·rw [ih,List.cons_append]
  ·exact ih
theorem Zbt_ {κ ν:Type} [DecidableEq κ] {k:κ} {v:ν}:∀{m:List (κ×ν)},mget k m=none→mset k v m=m++[(k,v)]
 | [],_=>rfl
 | (k',v')::m,h=>by
  unfold mget at h;split at h
  ·cases h
  next hk=>unfold mset;rw [if_neg hk,Zbt_ h,List.cons_append]
def pq (ws:List (Int×CW)):List (Int×Work):=ws.map fun q=>(q.1,q.2.2)
theorem qcF_ {ws:List (Int×CW)}:(pq ws).map (·.1)=ws.map (·.1):=by unfold pq;rw [List.map_map];rfl
theorem QcP_ {W0:World} {H:Heap} {p n:Nat} {s:CS} {v:Value} {l:List Work} {now:Int} (I0:CInv n s) (hn:n≤1000) (hnow:fits now) (hw:SlB zj_ 3 56 H v l) (hl:l.length≤1000):
  Ct Tryz.prog 36 #[.pointer (some ⟨p,0,none⟩),v,I now] W0 H [zh_ H p s]
   (fun r H' B=>∃ws,pq ws=works0 0 l∧((ws=[]∧r= .tuple #[.agg #[I 0,I 0,I 0],nilS,I 4]∧B=[zh_ H' p s])∨
    (ws≠[]∧∃v1,r= .tuple #[.agg (newX s).cv.toArray,v1,I 0]∧B=[ownS Qa_ 19 216 106 H' v1 (Zi_ s.node (newX s) (Zp_ now ws)),zh_ H' p (Qg_ s now ws)]))):=by
 refine Ct.go (vs:=[.pointer (some ⟨p,0,none⟩),v,I now]) fun R=>?_;obtain ⟨b0,c0,rfl,hc0,hd0⟩:=hw.1.shape;have hcap:(1001:Nat)*8≤Qb_:=by decide
 refine walk ?_;refine zb_ rfl fun p6 _=>?_;refine walk ?_;refine Qt_ iK rCW true rfl fun wb _=>?_;refine walk ?_;refine Qt_ iK rInt false rfl fun hb _=>?_;refine walk ?_;refine qc_ rfl rfl fun ep _=>?_;refine walk ?_
 refine Qc_ (σ:=Nat×(Option Addr×Nat)×List (Int×CW)×Heap) (fun u=>u.1≤l.length∧H.le u.2.2.2∧pq u.2.2.1=works0 0 (l.take u.1)) (fun u=>[(0,.pointer (some ⟨p,0,none⟩)),(6,.pointer (some ⟨p6,0,none⟩)),(7,nilS),(8,I 0),(9,.pointer (some ⟨ep,0,none⟩)),(18,.slice b0 l.length c0),(19,I l.length),(20,I u.1)]) (fun u=>u.2.2.2)
  (fun u=>ownS rInt 1 8 3 H (.slice u.2.1.1 (u.2.2.1.map (·.1)).length u.2.1.2) (u.2.2.1.map (·.1))::QT_ ep false now (.slice u.2.1.1 (u.2.2.1.map (·.1)).length u.2.1.2) (.map (some wb)) hb::mapO iK rCW true u.2.2.2 wb u.2.2.1::mapO iK rInt false H hb []::row p6 47 [I 0,I 0,I 0]::zh_ H p s::R) (fun u=>l.length - u.1) (0,(none,0),[],H) ⟨Nat.zero_le _,.refl _,rfl⟩ (hs0:=?_) fun ⟨j,⟨d,e⟩,ws,HK⟩ ⟨hj0,hlK,hws⟩ K hL=>?_
 rotate_left
 ·show Sub _ (ownS rInt 1 8 3 H (.slice none 0 0) []::_);exact v34_
 simp only at hj0 hlK hws;dsimp only
 have hwl:(ws.map (·.1)).length≤j:=by
  have h1:=zaq_ (i:=0) (l:=l.take j);rw [←hws,List.length_take] at h1;unfold pq at h1;simp only [List.length_map] at h1⊢;omega
 refine walk ?_;refine ze_ rfl (fun hk=>?_) (fun hk=>?_)
 ·have hk1:j<l.length:=by omega
  have ht:=List.take_succ_eq_append_getElem hk1;have hsn:=Zax_ (w:=l[j]) (l:=l.take j) (i:=0);rw [←ht,←hws,List.length_take,Nat.min_eq_left hj0,Int.zero_add] at hsn;refine walk ?_;refine Zd_ rfl rfl (hw.1.mono hlK) hk1 fun b o cc hr hc=>?_;generalize l[j]=w at hr hc hsn;have hcc:=hc;obtain ⟨wr,wt,wd⟩:=w;obtain ⟨u1,u2,rfl,g1,g2,g3⟩:=hc;obtain ⟨b1,c1,rfl,hc1,hd1⟩:=g2.1.shape;obtain ⟨b2,c2,rfl,hc2,hd2⟩:=g3.1.shape;dsimp only at g1 g2 g3 hsn hc1 hc2;change HRow HK b o [I wr,.slice b1 wt.length c1,.slice b2 wd.length c2] at hr;refine walk ?_;refine zf_ rfl rfl hr rfl ?_;refine zb_ rfl fun p11 _=>?_;have hgs1:=g2.2;have hgs2:=g3.2;simp only [Qb_] at hgs1 hgs2;refine walk ?_;refine ze_ rfl (fun hq=>?_) (fun hq=>?_)
  ·have hq1:0<wt.length+wd.length:=by omega
   rw [if_pos hq1] at hsn;have hfj:fits (j:Int):=by unfold fits;omega
   refine walk ?_;refine Zj_ (y:=(j:Int)) rfl rfl rfl ⟨rfl,hfj⟩ (by simp only [Qb_] at hcap⊢;omega) fun d3 e3=>?_;refine walk ?_;refine zc_ 7 [row p11 50 [I wr,.slice b1 wt.length c1,.slice b2 wd.length c2],QT_ ep false now (.slice d3 ((ws.map (·.1)).length+1) e3) (.map (some wb)) hb] ?_;refine qa_ 0 ?_;refine qa_ 1 ?_;refine qa_ 2 ?_;refine qa_ 3 ?_;refine qa_ 4 ?_;refine qa_ 5 ?_;refine qe_ 6 rfl rfl rfl (zal_ (W0:=W0) (H:=HK) (m:=⟨wr,wt,wd⟩) (c:=[I wr,.slice b1 wt.length c1,.slice b2 wd.length c2]) hcc) fun r5 H5 B hl5 ⟨cs5,er,hcs5,eB⟩=>?_;subst er eB;refine ⟨subA,?_⟩;refine qb_ rfl ?_;refine Zw_ (L':=mapO iK rCW true H5 wb ws::ownS rInt 1 8 3 HK (.slice d3 ((ws.map (·.1)).length+1) e3) (ws.map (·.1)++[(j:Int)])::QT_ ep false now (.slice d3 ((ws.map (·.1)).length+1) e3) (.map (some wb)) hb::mapO iK rInt false H hb []::row p6 47 [I 0,I 0,I 0]::zh_ H p s::R) ?_ ?_
   ·refine Sub.trans ?_ (ZaI_ hl5);exact subA
   refine Zu_ (RV:=rCW) (ag:=true) (cs:=cs5) (u:=(cs5,(⟨wr,wt,wd⟩:Work))) rfl rfl ⟨rfl,hcs5⟩ (by repeat (first | exact Has.here | apply Has.there)) ?_
   have hfr:mget (j:Int) ws=none:=by
    rw [QL_];intro hm;have h2:(j:Int)∈(pq ws).map (·.1):=by rw [qcF_];exact hm
    rw [hws] at h2;obtain ⟨q,hq3,hq4⟩:=List.mem_map.1 h2;have:=qaa_ (i:=0) (Int.le_refl _) q hq3;rw [List.length_take] at this;omega
   rw [Zbt_ hfr];have e1:ws.map (·.1)++[(j:Int)]=(ws++[((j:Int),(cs5,(⟨wr,wt,wd⟩:Work)))]).map (·.1):=by rw [List.map_append];rfl
   rw [show (ws.map (·.1)).length+1=((ws++[((j:Int),(cs5,(⟨wr,wt,wd⟩:Work)))]).map (·.1)).length by simp,e1];refine walk ?_;refine Zb_ hL (j+1,(d3,e3),ws++[((j:Int),(cs5,(⟨wr,wt,wd⟩:Work)))],H5) ⟨by simp only;omega,hlK.trans hl5,?_⟩ (hs:=?_)
   ·simp only;rw [hsn];unfold pq;rw [List.map_append];rfl
   ·refine Sub.trans ?_ (QcA_ (R:=rInt) HK H);exact subA
  ·have hq1:¬0<wt.length+wd.length:=by omega
   rw [if_neg hq1,List.append_nil] at hsn;refine walk ?_;exact Zb_ hL (j+1,(d,e),ws,HK) ⟨by simp only;omega,hlK,hsn.symm⟩
 ·clear hL;obtain rfl:j=l.length:=by omega
  rw [List.take_length] at hws;refine walk ?_;refine ze_ rfl (fun hq=>?_) (fun hq=>?_)
  ·have hws0:ws=[]:=by
    cases ws with
    | nil=>rfl
    | cons a r=>simp at hq;omega
   refine walk ?_;refine finB [zh_ HK p s] ?_ (hs:=?_)
   ·exact ⟨ws,hws,.inl ⟨hws0,rfl,rfl⟩⟩
   ·refine Sub.trans ?_ (zcG_ hlK);exact subA
  have hne:ws≠[]:=fun h=>hq (by rw [h];rfl);have hcb:=I0.c0;have hfn:=I0.fn;have hfl:=I0.fl;refine Zg_ (A:=zh_ H p s) (σ:=Nat×List CE) (B:=fun a=>[cRow p a.1 s,cMap a.1 a.2,bigL (xA H) a.2]) (p:=fun a=>CS.ts s=tsC a.2) (by repeat (first | exact Has.here | apply Has.there)) (fun h ⟨mb,zs,hb,hk⟩=>⟨(mb,zs),hk,hb⟩) fun ⟨mb,zs⟩ hts=>?_;dsimp only at hts⊢;refine walk ?_;refine zc_ 14 [row p 160 [I s.node,I s.life,I (s.count+1),.map (some mb)]] ?_;refine qa_ 0 ?_;refine qa_ 1 ?_;refine qa_ 2 ?_;refine qa_ 3 ?_;refine qa_ 4 ?_;refine qa_ 5 ?_;refine qa_ 6 ?_;refine qa_ 7 ?_;refine qa_ 8 ?_;refine qa_ 9 ?_;refine qa_ 10 ?_;refine qa_ 11 ?_;refine qa_ 12 ?_;refine Zs_ 13 rfl rfl fun p12 _=>?_;refine qb_ rfl ?_;refine walk ?_;obtain ⟨hnd,hent⟩:=I0.entry hts
  have hfr:∀z∈zs,z.k≠(newX s).k:=fun z hz hk=>by
   have h2:=(hent z hz).1;rw [hk,I0.fresh] at h2;cases h2
  refine zc_ 6 [row p 160 [I s.node,I s.life,I (s.count+1),.map (some mb)],row p12 47 [I s.node,I s.life,I (s.count+1)]] ?_;refine qa_ 0 ?_;refine qa_ 1 ?_;refine qa_ 2 ?_;refine qa_ 3 ?_;refine qa_ 4 ?_;refine qa_ 5 ?_;refine qb_ rfl ?_;refine Zu_ (RV:=rVal) (ag:=false) (cs:=[ptrC ep]) (u:=ptrC ep) rfl rfl (show rVal Heap.empty [ptrC ep] (ptrC ep) from ⟨rfl,rfl⟩) (by repeat (first | exact Has.here | apply Has.there)) ?_;obtain ⟨ee,hee⟩:∃ee:CE,ee=⟨(newX s).k,ep,.slice d (ws.map (fun q:Int×CW=>q.1)).length e,Zp_ now ws⟩:=⟨_,rfl⟩;rw [show mset (s.node,s.life,s.count+1) (ptrC ep) (msC zs)=msC (zs++[ee]) by subst hee;exact qcG_ (f:=fun e=>ptrC e.p) (e:=⟨(newX s).k,ep,.slice d (ws.map (fun q:Int×CW=>q.1)).length e,Zp_ now ws⟩) hfr];refine Zc_ (.slice d (ws.map (·.1)).length e) fun H2 hl2 hsp=>?_;refine walk ?_
  have hts2:(Qg_ s now ws).ts=tsC (zs++[ee]):=by
   unfold Qg_;rw [if_neg hne];show mset (newX s).k (Zp_ now ws) s.ts=_;rw [hts];subst hee;exact qcG_ (f:=CE.x) (e:=⟨(newX s).k,ep,.slice d (ws.map (fun q:Int×CW=>q.1)).length e,Zp_ now ws⟩) hfr
  have hbn:(Qg_ s now ws).node=s.node∧(Qg_ s now ws).life=s.life∧(Qg_ s now ws).count=s.count+1:=by unfold Qg_;rw [if_neg hne];exact ⟨rfl,rfl,rfl⟩
  have hTI:=TInv.began (now:=now) (l:=l) hws (by omega) hne hnow;refine ex_L (L':=xA H2 ee::cRow p mb (Qg_ s now ws)::cMap mb (zs++[ee])::bigL (xA H) zs::row p12 47 [I s.node,I s.life,I (s.count+1)]::row p6 47 [I 0,I 0,I 0]::R) ?_ ?_
  ·refine Sub.trans (B:=xRow ee (.map (some wb)) hb::qt_ HK ee (.map (some wb))::qB_ HK ee hb::cRow p mb (Qg_ s now ws)::cMap mb (zs++[ee])::bigL (xA H) zs::row p12 47 [I s.node,I s.life,I (s.count+1)]::row p6 47 [I 0,I 0,I 0]::R) ?_ (QN_ (by subst hee;exact hsp) hl2);subst hee;unfold cRow;rw [hbn.1,hbn.2.1,hbn.2.2];refine Sub.trans (B:=qB_ H ⟨(newX s).k,ep,.slice d (ws.map (·.1)).length e,Zp_ now ws⟩ hb::mapO iK rCW true HK wb ws::QT_ ep false now (.slice d (ws.map (·.1)).length e) (.map (some wb)) hb::row p 160 [I s.node,I s.life,I (s.count+1),.map (some mb)]::cMap mb (zs++[⟨(newX s).k,ep,.slice d (ws.map (·.1)).length e,Zp_ now ws⟩])::bigL (xA H) zs::row p12 47 [I s.node,I s.life,I (s.count+1)]::row p6 47 [I 0,I 0,I 0]::R) subA ?_;refine Sub.trans (ZaI_ hlK) ?_;refine Sub.trans (Sub.cons (show Sub _ (qt_ HK ⟨(newX s).k,ep,.slice d (ws.map (·.1)).length e,Zp_ now ws⟩ (.map (some wb))::_) from fun h ⟨h1,h2,a,r⟩=>⟨h1,h2,.inr ⟨rfl,wb,rfl,a⟩,r⟩)) ?_;exact subA
  refine zc_ 5 [row p12 47 [I s.node,I s.life,I (s.count+1)]] ?_;refine qa_ 0 ?_;refine qa_ 1 ?_;refine qa_ 2 ?_;refine qa_ 3 ?_;have hnk:fits (newX s).Node∧fits (newX s).Life∧fits (newX s).Count:=⟨hfn,hfl,by show fits (s.count+1);unfold fits;omega⟩;have hag:=zaL_ (W0:=W0) (H:=H2) (H1:=H2) (p:=p) (mb:=mb) (s:=Qg_ s now ws) (x:=newX s) (e:=ee) (.refl _) (by rw [hbn.1];exact hfn) hnk (by subst hee;exact fun q hq=>(hTI.hp q hq).2) (by subst hee;exact fun q hq=>(hTI.nn q hq).2) (by subst hee;show (ws.map (·.1)).length≤1000000;omega);rw [hbn.1] at hag;have hep:ee.p=ep:=by subst hee;rfl
  have hex:ee.x=Zp_ now ws:=by subst hee;rfl
  rw [hep,hex] at hag;refine qe_ 4 rfl rfl rfl hag fun r5 H5 B hl5 eB=>?_;subst eB;refine ⟨subA,?_⟩;refine qb_ rfl ?_;refine walk ?_;refine finB [ownS Qa_ 19 216 106 H5 r5 (Zi_ s.node (newX s) (Zp_ now ws)),zh_ H5 p (Qg_ s now ws)] ?_ (hs:=?_)
  ·exact ⟨ws,hws,.inr ⟨hne,r5,rfl,rfl⟩⟩
  ·refine Sub.trans (B:=xA H5 ee::bigL (xA H) zs::ownS Qa_ 19 216 106 H5 r5 (Zi_ s.node (newX s) (Zp_ now ws))::cRow p mb (Qg_ s now ws)::cMap mb (zs++[ee])::R) subA ?_;refine Sub.trans (Sub.cons (zcQ_ (hlK.trans (hl2.trans hl5)))) ?_;refine Sub.trans (show Sub _ (xA H5 ee::bigL (xA H5) (zs++[])::_) by rw [List.append_nil];exact Sub.refl _) ?_;refine bigL_in.trans ?_;refine Sub.trans ?_ (Sub.cons (qE_ (H:=H5) (mb:=mb) (s:=Qg_ s now ws) hts2));exact subA
def Qes_ (node life:Int) (l:List Rec) (r:Value) (H':Heap) (B:List za_):Prop:=
  ((∃q∈l,¬OkR node life q)∧r= .tuple #[.pointer none,I 1]∧B=[])∨
  ((∀q∈l,OkR node life q)∧¬(l.map (·.Txn.k)).Nodup∧r= .tuple #[.pointer none,I 2]∧B=[])∨
  ((∀q∈l,OkR node life q)∧(l.map (·.Txn.k)).Nodup∧∃p,r= .tuple #[.pointer (some ⟨p,0,none⟩),I 0]∧B=[zh_ H' p ⟨node,life,0,loadTs l []⟩])
open Classical in
noncomputable def qU_ (l:List Rec):Int:=if (l.map (·.Txn.k)).Nodup then 0 else 2
theorem Qbk_ {l:List Rec} {q:Rec}:qU_ (l++[q])=if (mget q.Txn.k (loadTs l [])).isSome=true then 2 else qU_ l:=by
 unfold qU_;rw [List.map_append,List.map_cons,List.map_nil]
 have h1:(l.map (·.Txn.k)++[q.Txn.k]).Nodup↔(l.map (·.Txn.k)).Nodup∧q.Txn.k∉l.map (·.Txn.k):=by
  rw [List.nodup_append];constructor
  ·rintro ⟨a,b,c⟩;exact ⟨a,fun h=>c _ h _ (by simp) rfl⟩
  ·rintro ⟨a,b⟩;refine ⟨a,by simp,fun x hx y hy e=>?_⟩;rw [List.mem_singleton] at hy;subst hy e;exact b hx
 have h2:(mget q.Txn.k (loadTs l [])).isSome=true↔q.Txn.k∈l.map (·.Txn.k):=by
  rw [zbg_,List.mem_map];simp [mget]
 by_cases hin:(mget q.Txn.k (loadTs l [])).isSome=true
 ·rw [if_pos hin,if_neg fun h=>(h1.1 h).2 (h2.1 hin)]
 ·rw [if_neg hin];by_cases hn:(l.map (·.Txn.k)).Nodup
  ·rw [if_pos hn,if_pos (h1.2 ⟨hn,fun h=>hin (h2.2 h)⟩)]
  ·rw [if_neg hn,if_neg fun h=>hn (h1.1 h).1]
theorem QaQ_ (l:List Rec):(qU_ l=0∧(l.map (·.Txn.k)).Nodup)∨(qU_ l=2∧¬(l.map (·.Txn.k)).Nodup):=by
 unfold qU_;split
 ·next h=>exact .inl ⟨rfl,h⟩
 ·next h=>exact .inr ⟨rfl,h⟩
theorem Zes_ {zs:List CE} {k:K3} (hnd:(zs.map CE.k).Nodup):∃zn:CE→List CE,∀e':CE,e'.k=k→mset k (ptrC e'.p) (msC zs)=msC (zn e')∧mset k e'.x (tsC zs)=tsC (zn e')∧∀{H:Heap} {L:List za_},Sub (xA H e'::bigL (xA H) zs::L) (bigL (xA H) (zn e')::L):=by
 rcases QaL_ zs k with ⟨l1,ee,l2,rfl,hek⟩ | hno
 ·refine ⟨fun e'=>l1++e'::l2,fun e' he=>⟨?_,?_,?_⟩⟩
  ·rw [←he];exact zdr_ (f:=fun e=>ptrC e.p) (e:=ee) hnd (he.trans hek.symm)
  ·rw [←he];exact zdr_ (f:=CE.x) (e:=ee) hnd (he.trans hek.symm)
  ·intro H L;refine Sub.trans (Sub.cons (bigL_out.trans (Sub.drop (Sub.refl _)))) ?_;exact bigL_in
 ·refine ⟨fun e'=>zs++[e'],fun e' he=>⟨?_,?_,?_⟩⟩
  ·rw [←he];exact qcG_ (f:=fun e=>ptrC e.p) fun x hx h=>hno x hx (h.trans he)
  ·rw [←he];exact qcG_ (f:=CE.x) fun x hx h=>hno x hx (h.trans he)
  ·intro H L;refine Sub.trans (show Sub _ (xA H e'::bigL (xA H) (zs++[])::_) by rw [List.append_nil];exact Sub.refl _) ?_;exact bigL_in
theorem zbv_ {H:Heap} {e:CE} {L:List za_} (ho:e.x.op=true) (hw:e.x.works=[]):Sub L (qt_ H e (.map none)::L):=
 fun h hb=>⟨Heap.empty,h,.inl ⟨ho,hw,rfl,rfl⟩,hb,fun _=> .inl rfl,fun _ _ h=>(by simp [Heap.empty] at h),.refl _⟩
theorem v126_ {P:Prop} (h:P:=by
 refine walk ?_;refine zc_ 12 [row p11 53 [I qk,I qa,I qb,I qc,I qr,.slice sb1 qt.length sc1,.slice sb2 qd.length sc2,.bool qy,.slice sb3 (p0::ps).length sc3],row p 160 [I node,I life,I 0,.map (some mb)]] ?_;refine qa_ 0 ?_;refine qa_ 1 ?_;refine qa_ 2 ?_;refine qa_ 3 ?_;refine qa_ 4 ?_;refine qa_ 5 ?_;refine qa_ 6 ?_;refine qa_ 7 ?_;refine ZE_ 8 9 (Zt_ 8 rfl rfl (Zv_ (W0:=W0) (H:=H2) (xs:=p0::ps) (v:= .slice sb3 (p0::ps).length sc3) g8) fun r8 H8 B hl8 ⟨eB,eH⟩=>?g8) (at_w 9 rfl (qaJ_ (ek:=iK) (R:=rInt) (ag:=false) fun hb _=>⟨.refl _,subA,?g9⟩))
 case g8=>
  subst eB eH;refine ⟨subA,?_⟩;refine zt_ 9 rfl (qaJ_ (ek:=iK) (R:=rInt) (ag:=false) fun hb _=>⟨.refl _,subA,?_⟩);exact v2_
 case g9=>
  refine zs_ 8 rfl rfl (Zv_ (W0:=W0) (H:=H2) (xs:=p0::ps) (v:= .slice sb3 (p0::ps).length sc3) g8) fun r8 H8 B hl8 ⟨eB,eH⟩=>?_;subst eB eH;refine ⟨subA,?_⟩;exact v2_):P:=h
theorem v151_ {P:Prop} (h:P:=by
 rw [ht];intro x hx;rcases List.mem_append.1 hx with hx | hx
 ·exact hok x hx
 ·rw [List.mem_singleton] at hx;subst hx;exact hgood):P:=h
theorem v2_ {P:Prop} (h:P:=by
 refine QbJ_ r8 fun d8 e8 e _ _ _=>?_;subst e;refine ZW_ 10 rfl rfl rfl ?_;refine zt_ 11 rfl (ZdQ_ rfl Go.Sx.CellsI.h fun ep _=>⟨.refl _,subA,?_⟩);refine qb_ rfl ?_;refine Zu_ (RV:=rVal) (ag:=false) (cs:=[ptrC ep]) (u:=ptrC ep) rfl rfl (show rVal Heap.empty [ptrC ep] (ptrC ep) from ⟨rfl,rfl⟩) (by repeat (first | exact Has.here | apply Has.there)) ?_;refine Zc_ (.slice d8 (p0::ps).length e8) fun H9 hl9 hsp=>?_;obtain ⟨z1,z2,z3⟩:=hzn ⟨(qa,qb,qc),ep,.slice d8 (p0::ps).length e8,zC_ ⟨qk,⟨qa,qb,qc⟩,⟨qr,qt,qd⟩,qy,p0::ps⟩⟩ rfl;dsimp only at z1 z2;rw [z1];refine walk ?_;refine Zb_ hL (j+1,H9) ⟨by simp only;omega,hlK.trans (hl2.trans (hl8.trans hl9)),?_⟩ (hs:=?_) (hf:=?_)
 ·exact v151_
 ·dsimp only;refine Sub.trans (B:=qt_ H8 ⟨(qa,qb,qc),ep,.slice d8 (p0::ps).length e8,zC_ ⟨qk,⟨qa,qb,qc⟩,⟨qr,qt,qd⟩,qy,p0::ps⟩⟩ (.map none)::xRow ⟨(qa,qb,qc),ep,.slice d8 (p0::ps).length e8,zC_ ⟨qk,⟨qa,qb,qc⟩,⟨qr,qt,qd⟩,qy,p0::ps⟩⟩ (.map none) hb::qB_ H8 ⟨(qa,qb,qc),ep,.slice d8 (p0::ps).length e8,zC_ ⟨qk,⟨qa,qb,qc⟩,⟨qr,qt,qd⟩,qy,p0::ps⟩⟩ hb::bigL (xA H8) zs::row p 160 [I node,I life,I 0,.map (some mb)]::cMap mb (zn ⟨(qa,qb,qc),ep,.slice d8 (p0::ps).length e8,zC_ ⟨qk,⟨qa,qb,qc⟩,⟨qr,qt,qd⟩,qy,p0::ps⟩⟩)::R) ?_ ?_
  ·refine Sub.trans ?_ (zbv_ rfl rfl);exact subA
  refine Sub.trans (B:=xRow ⟨(qa,qb,qc),ep,.slice d8 (p0::ps).length e8,zC_ ⟨qk,⟨qa,qb,qc⟩,⟨qr,qt,qd⟩,qy,p0::ps⟩⟩ (.map none) hb::qt_ H8 ⟨(qa,qb,qc),ep,.slice d8 (p0::ps).length e8,zC_ ⟨qk,⟨qa,qb,qc⟩,⟨qr,qt,qd⟩,qy,p0::ps⟩⟩ (.map none)::qB_ H8 ⟨(qa,qb,qc),ep,.slice d8 (p0::ps).length e8,zC_ ⟨qk,⟨qa,qb,qc⟩,⟨qr,qt,qd⟩,qy,p0::ps⟩⟩ hb::bigL (xA H8) zs::row p 160 [I node,I life,I 0,.map (some mb)]::cMap mb (zn ⟨(qa,qb,qc),ep,.slice d8 (p0::ps).length e8,zC_ ⟨qk,⟨qa,qb,qc⟩,⟨qr,qt,qd⟩,qy,p0::ps⟩⟩)::R) subA ?_;refine (QN_ hsp hl9).trans ?_;refine (Sub.cons (zcQ_ hl9)).trans ?_;refine z3.trans ?_;refine Sub.trans ?_ (qE_ (H:=H9) (mb:=mb) (s:=⟨node,life,0,loadTs (l.take (j+1)) []⟩) (by rw [hls,hnz];exact z2));exact subA
 ·dsimp only;rw [hsn]
  repeat (first | exact fsub_nil _ | refine fsub_cons rfl ?_)):P:=h
theorem v64_ {P:Prop} (h:P:=by
 refine walk ?_;refine fin0 ?_;exact .inl ⟨⟨_,hm,hbad⟩,rfl,rfl⟩):P:=h
theorem v99_ {P:Prop} (h:P:=by
 dsimp only;rw [show qU_ (l.take 0)=0 by unfold qU_;simp]
 repeat (first | exact fsub_nil _ | refine fsub_cons rfl ?_)):P:=h
theorem ZcT_ {W0:World} {H:Heap} {node life:Int} {v:Value} {l:List Rec} (hf1:fits node) (hf2:fits life) (h0:SlB rRec 9 120 H v l) (hl:l.length≤1000):
  Ct Tryz.prog 74 #[I node,I life,v] W0 H [] (fun r H' B=>Qes_ node life l r H' B):=by
 refine Ct.go (vs:=[I node,I life,v]) fun R=>?_;obtain ⟨b0,c0,rfl,hc0,hd0⟩:=h0.1.shape;refine walk ?_;refine Za_ rfl rfl (zbU_ (node:=node) (life:=life)) fun r1 H1 B hl1 ⟨p,er,eB,eH⟩=>?_;subst er eB eH;refine walk ?_
 refine Qc_ (σ:=Nat×Heap) (fun u=>u.1≤l.length∧H1.le u.2∧∀q∈l.take u.1,OkR node life q) (fun u=>[(0,I node),(1,I life),(6,.pointer none),(7,I 0),(8,.pointer (some ⟨p,0,none⟩)),(9,I (qU_ (l.take u.1))),(15,.slice b0 l.length c0),(16,I l.length),(17,I u.1)]) (fun u=>u.2)
  (fun u=>zh_ u.2 p ⟨node,life,0,loadTs (l.take u.1) []⟩::R) (fun u=>l.length - u.1) (0,H1) ⟨Nat.zero_le _,.refl _,fun q hq=>(by simp at hq)⟩ (hf0:=?_) fun ⟨j,HK⟩ ⟨hj0,hlK,hok⟩ K hL=>?_
 rotate_left
 ·exact v99_
 simp only at hj0 hlK hok;dsimp only;refine walk ?_;refine ze_ rfl (fun hk=>?_) (fun hk=>?_)
 ·have hk1:j<l.length:=by omega
  have ht:=List.take_succ_eq_append_getElem hk1;have hsl:=h0.1.mono hlK;have hsn:=Qbk_ (l:=l.take j) (q:=l[j]);have hls:=Qcm_ (l:=l.take j) (r:=l[j]) (m:=[]);rw [←ht] at hsn hls;refine walk ?_;refine Zd_ rfl rfl hsl hk1 fun b o cc hr hc=>?_;have hm:=List.getElem_mem hk1;generalize l[j]=q at hr hc ht hm hsn hls;obtain ⟨qk,⟨qa,qb,qc⟩,⟨qr,qt,qd⟩,qy,qp⟩:=q;obtain ⟨w1,w2,w3,rfl,g1,g2,g3,g4,g5,g6,g7,g8⟩:=hc;dsimp only at g1 g2 g3 g4 g5 g6 g7 g8;obtain ⟨sb1,sc1,rfl,_,_⟩:=g6.1.shape;obtain ⟨sb2,sc2,rfl,_,_⟩:=g7.1.shape;obtain ⟨sb3,sc3,rfl,hs3,hs4⟩:=g8.1.shape;change HRow HK b o [I qk,I qa,I qb,I qc,I qr,.slice sb1 qt.length sc1,.slice sb2 qd.length sc2,.bool qy,.slice sb3 qp.length sc3] at hr;refine zf_ rfl rfl hr rfl ?_;refine zb_ rfl fun p11 _=>?_;by_cases c1:qa=node
  rotate_left
  ·have hbad:¬OkR node life ⟨qk,⟨qa,qb,qc⟩,⟨qr,qt,qd⟩,qy,qp⟩:=fun h=>c1 h.node;exact v64_
  by_cases c2:life≤qb
  ·have hbad:¬OkR node life ⟨qk,⟨qa,qb,qc⟩,⟨qr,qt,qd⟩,qy,qp⟩:=fun h=>(by have:=h.life;simp only at this;omega);exact v64_
  cases qp with
  | nil=>
   have hbad:¬OkR node life ⟨qk,⟨qa,qb,qc⟩,⟨qr,qt,qd⟩,qy,[]⟩:=fun h=>h.ne rfl;rw [List.length_nil];exact v64_
  | cons p0 ps=>
  have g8r:SlR rInt 1 HK (.slice sb3 (p0::ps).length sc3) (p0::ps):=g8.1;have hlz:¬(((p0::ps).length:Nat):Int)=0:=by simp only [List.length_cons];omega
  have hlt0:0<(p0::ps).length:=by simp
  by_cases c4:p0<0
  ·have hbad:¬OkR node life ⟨qk,⟨qa,qb,qc⟩,⟨qr,qt,qd⟩,qy,p0::ps⟩:=fun h=>(by have:=h.nn p0 (by simp);omega);exact v64_
  refine walk ?_;refine Za_ rfl rfl (zco_ g8r) fun r2 H2 B hl2 ⟨⟨b2,er,hb2⟩,eB,eH⟩=>?_;subst er eB eH
  cases b2 with
  | false=>
   have hbad:¬OkR node life ⟨qk,⟨qa,qb,qc⟩,⟨qr,qt,qd⟩,qy,p0::ps⟩:=fun h=>(by have:=hb2.2 h.rise;cases this);exact v64_
  | true=>
  obtain ⟨nts,hnts⟩:∃t,t=loadTs (l.take j) []:=⟨_,rfl⟩;rw [←hnts] at hls hsn⊢;refine zv_ (A:=zh_ H2 p (⟨node,life,0,nts⟩:CS)) (σ:=Nat×List CE) (B:=fun a=>[cRow p a.1 (⟨node,life,0,nts⟩:CS),cMap a.1 a.2,bigL (xA H2) a.2]) (p:=fun a=>CS.ts (⟨node,life,0,nts⟩:CS)=tsC a.2) (by repeat (first | exact Has.here | apply Has.there)) (fun h ⟨mb,zs,hb,hk⟩=>⟨(mb,zs),hk,hb⟩) fun ⟨mb,zs⟩ hts=>?_;dsimp only at hts⊢;refine walk ?_;refine zaY_ (RV:=rVal) (val:=fun x:Value=>x) (z:= .pointer none) rfl rfl ((by repeat (first | exact Has.here | apply Has.there))) ?_;have hnz:nts=tsC zs:=hts
  have hnd:(zs.map CE.k).Nodup:=by
   have h1:=(ZbS_ (l:=l.take j) (m:=[]) (by simp)).1;rw [←hnts,hnz,qay_] at h1;exact h1
  obtain ⟨zn,hzn⟩:=Zes_ (k:=(qa,qb,qc)) hnd;have hgood:OkR node life ⟨qk,⟨qa,qb,qc⟩,⟨qr,qt,qd⟩,qy,p0::ps⟩:=⟨c1,by show qb<life;omega,by simp,?good,hb2.1 rfl⟩
  case good=>
   intro x hx;have hrs:=hb2.1 rfl;rw [List.pairwise_cons] at hrs;rcases List.mem_cons.1 hx with rfl | hx
   ·omega
   ·have:=hrs.1 x hx;omega
  change qU_ (l.take (j+1))=if (mget (qa,qb,qc) nts).isSome=true then 2 else qU_ (l.take j) at hsn
  rcases QaL_ zs (qa,qb,qc) with ⟨l1,ee,l2,hzz,hek⟩ | hno
  ·have hin:ee∈zs:=by rw [hzz];simp
   have hg1:mget (qa,qb,qc) (msC zs)=some (ptrC ee.p):=by rw [←hek];exact QbF_ (f:=fun e=>ptrC e.p) hnd hin
   have hg2:mget (qa,qb,qc) nts=some ee.x:=by rw [hnz,←hek];exact QbF_ (f:=CE.x) hnd hin
   rw [hg2] at hsn;rw [hg1,Option.getD_some];exact v126_
  ·have hg2:mget (qa,qb,qc) nts=none:=by rw [hnz];exact zbi_ (f:=CE.x) hno
   rw [hg2] at hsn;rw [show mget (qa,qb,qc) (msC zs)=none from zbi_ (f:=fun e=>ptrC e.p) hno,Option.getD_none];exact v126_
 ·clear hL;obtain rfl:j=l.length:=by omega
  rw [List.take_length] at hok⊢;rcases QaQ_ l with ⟨hc,hn⟩ | ⟨hc,hn⟩
  ·rw [hc];refine walk ?_;refine finB [zh_ HK p ⟨node,life,0,loadTs l []⟩] ?_;exact .inr (.inr ⟨hok,hn,p,rfl,rfl⟩)
  ·rw [hc];refine walk ?_;refine fin0 ?_;exact .inr (.inl ⟨hok,hn,rfl,rfl⟩)
end Go.Proofs.YtlflbkpmfhhikaaGreatDoor
