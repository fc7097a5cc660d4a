/- A world as an object that is owned; its small functions. -/
import Derived.Test.YtlflbkpmfhhikaaGreatDoorKQG
import Derived.Test.YtlflbkpmfhhikaaGreatDoorKQN
import Derived.Test.YtlflbkpmfhhikaaGreatDoorKTP
import Derived.Test.YtlflbkpmfhhikaaGreatDoorKTX
set_option maxHeartbeats 16000000
set_option maxRecDepth 100000
set_option linter.unusedVariables false
set_option linter.unusedSimpArgs false
namespace Go.Proofs.YtlflbkpmfhhikaaGreatDoor
open Go Go.Sx Go.Proofs
structure NE where
  pp:Nat
  cp:Nat
  q:PN
abbrev NE.cv (e:NE):List Value:=[ptrC e.pp,ptrC e.cp,I e.q.cs.life]
def rNE:Rd NE:=fun _ c e=>c=e.cv
instance :RdOk rNE 3:=⟨fun h=>by subst h;rfl,fun h=>by subst h;rfl,fun _ h=>h⟩
instance :RdFlat rNE:=⟨fun h=>h⟩
def ndP (H:Heap) (e:NE):za_:=zv_ H e.pp e.q.ps
def ndC (H:Heap) (e:NE):za_:=qj_ H e.cp e.q.cs
abbrev wRow (p:Nat) (nv:Value) (nb:Nat) (now:Int) (lv:Value):za_:=row p 82 [nv,ptrC nb,I now,lv]
abbrev wNs (nv:Value) (es:List NE):za_:=ownS rNE 3 24 92 Heap.empty nv es
abbrev wLog (H:Heap) (lv:Value) (l:List PactNote):za_:=ownS ZJ_ 10 128 71 H lv l
def Zc_ (H:Heap) (p:Nat) (w:PW):za_:=fun h=>∃nv nb lv es,big [wRow p nv nb w.now lv,wNs nv es,bigL (ndP H) es,bigL (ndC H) es,Net.netO H (ptrC nb) w.net,wLog H lv w.log] h∧w.ns=es.map NE.q
theorem qdg_ {H H':Heap} {p:Nat} {s:PS} {h:Heap} (hl:H.le H') (hp:zv_ H p s h):zv_ H' p s h:=by
 have:=zdN_ (L:=[]) hl h (Qbn_ hp);obtain ⟨h1,h2,a,_,_,l1,l2⟩:=this;obtain ⟨tp,db,hb⟩:=a;exact ⟨tp,db,Go.Sx.big_mono l1 hb⟩
theorem QaK_ {H H':Heap} {es:List NE} {L:List za_} (hl:H.le H'):Sub (bigL (ndP H) es::L) (bigL (ndP H') es::L):=fun h ⟨h1,h2,hc,r⟩=>⟨h1,h2,big_mono (fun _ _ h=>qdg_ hl h) hc,r⟩
theorem ZaA_ {H H':Heap} {es:List NE} {L:List za_} (hl:H.le H'):Sub (bigL (ndC H) es::L) (bigL (ndC H') es::L):=fun h ⟨h1,h2,hc,r⟩=>⟨h1,h2,big_mono (fun _ _ h=>qbg_ hl h) hc,r⟩
theorem zbL_ {H H':Heap} {lv:Value} {l:List PactNote} {L:List za_} (hl:H.le H'):Sub (wLog H lv l::L) (wLog H' lv l::L):=fun h ⟨h1,h2,⟨cs,⟨u,v⟩,w⟩,r⟩=>⟨h1,h2,⟨cs,⟨u.mono hl,v⟩,w⟩,r⟩
theorem qC_ {H:Heap} {p nb:Nat} {w:PW} {nv lv:Value} {es:List NE} {L:List za_} (hn:w.ns=es.map NE.q):Sub (wRow p nv nb w.now lv::wNs nv es::bigL (ndP H) es::bigL (ndC H) es::Net.netO H (ptrC nb) w.net::wLog H lv w.log::L) (Zc_ H p w::L):=
 qB_ (B:=[wRow p nv nb w.now lv,wNs nv es,bigL (ndP H) es,bigL (ndC H) es,Net.netO H (ptrC nb) w.net,wLog H lv w.log]) (Sub.refl _) fun h hb=>⟨nv,nb,lv,es,hb,hn⟩
theorem zC_ {H1 H2 H3 H4 H':Heap} {p nb:Nat} {w:PW} {nv lv:Value} {es:List NE} {L:List za_} (hn:w.ns=es.map NE.q) (h1:H1.le H') (h2:H2.le H') (h3:H3.le H') (h4:H4.le H'):
  Sub (wRow p nv nb w.now lv::wNs nv es::bigL (ndP H1) es::bigL (ndC H2) es::Net.netO H3 (ptrC nb) w.net::wLog H4 lv w.log::L) (Zc_ H' p w::L):=
 (Sub.cons (Sub.cons ((QaK_ h1).trans (Sub.cons ((ZaA_ h2).trans (Sub.cons ((Net.netO_up h3).trans (Sub.cons (zbL_ h4))))))))).trans (qC_ hn)
theorem zdg_ {W0:World} {H:Heap} {p:Nat} {w:PW}:
  Ct Tryz.prog 21 #[ptrC p] W0 H [Zc_ H p w] (fun r H' B=>r=I w.now∧B=[Zc_ H' p w]∧H'=H):=by
 refine Ct.go (vs:=[ptrC p]) fun R=>?_;refine Qj_ (A:=Zc_ H p w) (σ:=Value×Nat×Value×List NE) (B:=fun a=>[wRow p a.1 a.2.1 (PW.now w) a.2.2.1,wNs a.1 a.2.2.2,bigL (ndP H) a.2.2.2,bigL (ndC H) a.2.2.2,Net.netO H (ptrC a.2.1) (PW.net w),wLog H a.2.2.1 (PW.log w)]) (p:=fun a=>PW.ns w=a.2.2.2.map NE.q) (by repeat (first | exact Has.here | apply Has.there)) (fun h ⟨nv,nb,lv,es,hb,hk⟩=>⟨(nv,nb,lv,es),hk,hb⟩) fun ⟨nv,nb,lv,es⟩ hns=>?_;dsimp only at hns⊢;refine walk ?_;refine finB [Zc_ H p w] ?_ (hs:=?_)
 ·exact v119_
 ·refine Sub.trans ?_ (qC_ (nv:=nv) (nb:=nb) (lv:=lv) hns);exact subA
theorem ZaK_ {W0:World} {H:Heap} {p:Nat} {w:PW}:
  Ct Tryz.prog 27 #[ptrC p] W0 H [Zc_ H p w] (fun r H' B=>r=I w.net.length∧B=[Zc_ H' p w]∧H'=H):=by
 refine Ct.go (vs:=[ptrC p]) fun R=>?_;refine Qj_ (A:=Zc_ H p w) (σ:=Value×Nat×Value×List NE) (B:=fun a=>[wRow p a.1 a.2.1 (PW.now w) a.2.2.1,wNs a.1 a.2.2.2,bigL (ndP H) a.2.2.2,bigL (ndC H) a.2.2.2,Net.netO H (ptrC a.2.1) (PW.net w),wLog H a.2.2.1 (PW.log w)]) (p:=fun a=>PW.ns w=a.2.2.2.map NE.q) (by repeat (first | exact Has.here | apply Has.there)) (fun h ⟨nv,nb,lv,es,hb,hk⟩=>⟨(nv,nb,lv,es),hk,hb⟩) fun ⟨nv,nb,lv,es⟩ hns=>?_;dsimp only at hns⊢;refine walk ?_;refine Za_ rfl rfl (Net.len_spec (W0:=W0) (H:=H) (H0:=H) (p:=ptrC nb) (ms:=w.net) (.refl _)) fun r1 H1 B hl1 ⟨er,eB,eH⟩=>?_;subst er eB eH;refine walk ?_;refine finB [Zc_ H1 p w] ?_ (hs:=?_)
 ·exact v119_
 ·refine Sub.trans ?_ (qC_ (nv:=nv) (nb:=nb) (lv:=lv) hns);exact subA
def atV (es:List NE) (a:Int):Value:=match (if 0≤a then es[a.toNat]? else none) with
  | some e=> .tuple #[.agg e.cv.toArray,.bool true]
  | none=> .tuple #[.agg #[.pointer none,.pointer none,I 0],.bool false]
theorem Qdg_ {es:List NE} {i:Nat} (h:i<es.length):atV es i= .tuple #[.agg es[i].cv.toArray,.bool true]:=by
 unfold atV;rw [if_pos (by omega),Int.toNat_natCast,List.getElem?_eq_getElem h]
theorem Zdg_ {es:List NE} {a:Int} (h:¬(0≤a∧a<es.length)):atV es a= .tuple #[.agg #[.pointer none,.pointer none,I 0],.bool false]:=by
 unfold atV;split
 ·next e he=>
  exfalso;split at he
  ·next h0=>have:=(List.getElem?_eq_some_iff.1 he).1;omega
  ·cases he
 ·rfl
theorem v50_ {P:Prop} (h:P:=by
 refine walk ?_;refine finB [wRow p (.slice base es.length cap) nb now lv,wNs (.slice base es.length cap) es] ?_;exact v119_):P:=h
theorem QaZ_ {W0:World} {H:Heap} {p nb:Nat} {nv lv:Value} {now a:Int} {es:List NE}:
  Ct Tryz.prog 45 #[ptrC p,I a] W0 H [wRow p nv nb now lv,wNs nv es] (fun r H' B=>r=atV es a∧B=[wRow p nv nb now lv,wNs nv es]∧H'=H):=by
 refine Ct.go (vs:=[ptrC p,I a]) fun R=>?_;refine Qs_ nv fun base cap e _ _ _=>?_;subst e;by_cases h:0≤a∧a<es.length
 ·obtain ⟨i,rfl⟩:∃i:Nat,a=i:=⟨a.toNat,by omega⟩;have hi:i<es.length:=by omega
  have hn0:¬(i:Int)<0:=by omega
  have hn1:¬(es.length:Int)≤(i:Int):=by omega
  rw [Qdg_ hi];refine walk ?_;refine Qb_ rfl fun p4 _=>?_;refine walk ?_;refine qbp_ rfl rfl rfl hi fun c hc=>?_;obtain rfl:c=es[i].cv:=hc;exact v50_
 ·rw [Zdg_ h];by_cases h0:a<0
  ·refine walk ?_;refine Qb_ rfl fun p4 _=>?_;exact v50_
  ·have hn1:(es.length:Int)≤a:=by omega
   refine walk ?_;refine Qb_ rfl fun p4 _=>?_;exact v50_
theorem qec_ {w:PW} {es:List NE} (hns:w.ns=es.map NE.q) (a:Int):nAt w a=(if 0≤a then es[a.toNat]? else none).map NE.q:=by
 unfold nAt;rw [hns];split<;>simp
theorem QaO_ {w:PW} {es:List NE} (hns:w.ns=es.map NE.q) (a:Int):(nAt w a=none∧atV es a= .tuple #[.agg #[.pointer none,.pointer none,I 0],.bool false])∨∃(i:Nat) (h:i<es.length),a=i∧nAt w a=some es[i].q∧atV es a= .tuple #[.agg es[i].cv.toArray,.bool true]:=by
 by_cases h:0≤a∧a<es.length
 ·obtain ⟨i,rfl⟩:∃i:Nat,a=i:=⟨a.toNat,by omega⟩;have hi:i<es.length:=by omega
  refine .inr ⟨i,hi,rfl,?_,Qdg_ hi⟩;rw [qec_ hns,if_pos (by omega),Int.toNat_natCast,List.getElem?_eq_getElem hi];rfl
 ·refine .inl ⟨?_,Zdg_ h⟩;rw [qdy_,hns,List.length_map];exact h
def ZaZ_ (w:PW) (a:Int):List Hold:=match nAt w a with | some q=>Qad_ q.ps.t | none=>[]
def zcb_ (w:PW) (a:Int):List Rec:=match nAt w a with | some q=>prepL q.ps.t | none=>[]
def QbL_ (w:PW) (a:Int):List Rec:=match nAt w a with | some q=>openL q.cs | none=>[]
def Qau_ (w:PW) (a:Int):List Txn:=match nAt w a with | some q=>zad_ q.cs | none=>[]
theorem qaL_ {w:PW} {es:List NE} (hns:w.ns=es.map NE.q) {i:Nat} (h:i<es.length):es[i].q∈w.ns:=by rw [hns];exact List.mem_map.2 ⟨_,List.getElem_mem h,rfl⟩
theorem Zan_ {A:NE→za_} {es:List NE} {i:Nat} (hi:i<es.length) {L:List za_}:Sub (A es[i]::bigL A (es.take i++es.drop (i+1))::L) (bigL A es::L):=by
 have h:=bigL_in (A:=A) (l1:=es.take i) (x:=es[i]) (l2:=es.drop (i+1)) (L:=L);rwa [←Qci_ hi] at h
theorem v48_ {P:Prop} (h:P:=by
 refine Sub.trans ?_ ((qC_ (nv:=nv) (nb:=nb) (lv:=lv) hns).trans ownS_nil);exact subA):P:=h
theorem v54_ {P:Prop} (h:P:=by
 refine Sub.trans (zC_ (p:=p) (nv:=nv) (nb:=nb) (lv:=lv) (es:=es) hns (.refl _) hl1 hl1 hl1) ?_;exact subA):P:=h
theorem v75_ {P:Prop} (h:P:=by
 refine Sub.trans ?_ (zak_ hi);exact subA):P:=h
theorem Qcb_ {W0:World} {H:Heap} {p:Nat} {w:PW} {a:Int} (hok:∀q∈w.ns,TsOk q.ps.t):
  Ct Tryz.prog 16 #[ptrC p,I a] W0 H [Zc_ H p w] (fun r H' B=>B=[ownS qao_ 2 24 42 H' r (ZaZ_ w a),Zc_ H' p w]):=by
 refine Ct.go (vs:=[ptrC p,I a]) fun R=>?_;refine Qj_ (A:=Zc_ H p w) (σ:=Value×Nat×Value×List NE) (B:=fun a=>[wRow p a.1 a.2.1 (PW.now w) a.2.2.1,wNs a.1 a.2.2.2,bigL (ndP H) a.2.2.2,bigL (ndC H) a.2.2.2,Net.netO H (ptrC a.2.1) (PW.net w),wLog H a.2.2.1 (PW.log w)]) (p:=fun a=>PW.ns w=a.2.2.2.map NE.q) (by repeat (first | exact Has.here | apply Has.there)) (fun h ⟨nv,nb,lv,es,hb,hk⟩=>⟨(nv,nb,lv,es),hk,hb⟩) fun ⟨nv,nb,lv,es⟩ hns=>?_;dsimp only at hns⊢;refine walk ?_;refine Qg_ rfl rfl (QaZ_ (W0:=W0) (H:=H) (p:=p) (nb:=nb) (nv:=nv) (lv:=lv) (now:=w.now) (a:=a) (es:=es)) ?_;rcases QaO_ hns a with ⟨hn,ea⟩ | ⟨i,hi,rfl,hn,ea⟩
 ·rw [ea];refine walk ?_;refine Qb_ rfl fun p5 _=>?_;refine walk ?_;refine finB [ownS qao_ 2 24 42 H nilS [],Zc_ H p w] ?_ (hs:=?_)
  ·show _=_;unfold ZaZ_;rw [hn]
  ·exact v48_
 ·rw [ea];have hok1:=hok _ (qaL_ hns hi);refine walk ?_;refine Qb_ rfl fun p5 _=>?_;refine walk ?_;refine zr_ (L':=ndP H es[i]::bigL (ndP H) (es.take i++es.drop (i+1))::row p5 92 es[i].cv::wRow p nv nb w.now lv::wNs nv es::bigL (ndC H) es::Net.netO H (ptrC nb) w.net::wLog H lv w.log::R) ?_ ?_
  ·exact v75_
  refine qo_ (A:=zv_ H es[i].pp (NE.q es[i]).ps) (σ:=Nat×Nat) (B:=fun a=>[pRow es[i].pp a.1 (PS.sh (NE.q es[i]).ps) a.2,tabO H a.1 (PS.t (NE.q es[i]).ps),dMap H a.2 (NE.q es[i]).ps]) (p:=fun _=>True) (by repeat (first | exact Has.here | apply Has.there)) (fun h ⟨tp,db,hbig⟩=>⟨(tp,db),trivial,hbig⟩) fun ⟨tp,db⟩ _=>?_;dsimp only;refine walk ?_;refine Za_ rfl rfl (zcu_ (W0:=W0) (H:=H) (p:=tp) hok1) fun r1 H1 B hl1 eB=>?_;subst eB;refine walk ?_;refine finB [ownS qao_ 2 24 42 H1 r1 (ZaZ_ w i),Zc_ H1 p w] ?_ (hs:=?_)
  ·exact rfl
  ·rw [show ZaZ_ w i=Qad_ es[i].q.ps.t by unfold ZaZ_;rw [hn]];refine Sub.trans (B:=pRow es[i].pp tp es[i].q.ps.sh db::tabO H1 tp es[i].q.ps.t::dMap H db es[i].q.ps::bigL (ndP H) (es.take i++es.drop (i+1))::wRow p nv nb w.now lv::wNs nv es::bigL (ndC H) es::Net.netO H (ptrC nb) w.net::wLog H lv w.log::ownS qao_ 2 24 42 H1 r1 (Qad_ es[i].q.ps.t)::R) subA ?_;refine Sub.trans (Zs_ (.refl _) hl1) ?_;refine Sub.trans (Sub.cons (QaK_ hl1)) ?_;refine Sub.trans (Zan_ (A:=ndP H1) hi) ?_;refine Sub.trans (B:=wRow p nv nb w.now lv::wNs nv es::bigL (ndP H1) es::bigL (ndC H) es::Net.netO H (ptrC nb) w.net::wLog H lv w.log::ownS qao_ 2 24 42 H1 r1 (Qad_ es[i].q.ps.t)::R) subA ?_;exact v54_
theorem qcD_ {W0:World} {H:Heap} {p:Nat} {w:PW} {a:Int} (hok:∀q∈w.ns,TsOk q.ps.t):
  Ct Tryz.prog 17 #[ptrC p,I a] W0 H [Zc_ H p w] (fun r H' B=>B=[ownS rRec 9 120 53 H' r (zcb_ w a),Zc_ H' p w]):=by
 refine Ct.go (vs:=[ptrC p,I a]) fun R=>?_;refine Qj_ (A:=Zc_ H p w) (σ:=Value×Nat×Value×List NE) (B:=fun a=>[wRow p a.1 a.2.1 (PW.now w) a.2.2.1,wNs a.1 a.2.2.2,bigL (ndP H) a.2.2.2,bigL (ndC H) a.2.2.2,Net.netO H (ptrC a.2.1) (PW.net w),wLog H a.2.2.1 (PW.log w)]) (p:=fun a=>PW.ns w=a.2.2.2.map NE.q) (by repeat (first | exact Has.here | apply Has.there)) (fun h ⟨nv,nb,lv,es,hb,hk⟩=>⟨(nv,nb,lv,es),hk,hb⟩) fun ⟨nv,nb,lv,es⟩ hns=>?_;dsimp only at hns⊢;refine walk ?_;refine Qg_ rfl rfl (QaZ_ (W0:=W0) (H:=H) (p:=p) (nb:=nb) (nv:=nv) (lv:=lv) (now:=w.now) (a:=a) (es:=es)) ?_;rcases QaO_ hns a with ⟨hn,ea⟩ | ⟨i,hi,rfl,hn,ea⟩
 ·rw [ea];refine walk ?_;refine Qb_ rfl fun p5 _=>?_;refine walk ?_;refine finB [ownS rRec 9 120 53 H nilS [],Zc_ H p w] ?_ (hs:=?_)
  ·show _=_;unfold zcb_;rw [hn]
  ·exact v48_
 ·rw [ea];have hok1:=hok _ (qaL_ hns hi);refine walk ?_;refine Qb_ rfl fun p5 _=>?_;refine walk ?_;refine zr_ (L':=ndP H es[i]::bigL (ndP H) (es.take i++es.drop (i+1))::row p5 92 es[i].cv::wRow p nv nb w.now lv::wNs nv es::bigL (ndC H) es::Net.netO H (ptrC nb) w.net::wLog H lv w.log::R) ?_ ?_
  ·exact v75_
  refine qo_ (A:=zv_ H es[i].pp (NE.q es[i]).ps) (σ:=Nat×Nat) (B:=fun a=>[pRow es[i].pp a.1 (PS.sh (NE.q es[i]).ps) a.2,tabO H a.1 (PS.t (NE.q es[i]).ps),dMap H a.2 (NE.q es[i]).ps]) (p:=fun _=>True) (by repeat (first | exact Has.here | apply Has.there)) (fun h ⟨tp,db,hbig⟩=>⟨(tp,db),trivial,hbig⟩) fun ⟨tp,db⟩ _=>?_;dsimp only;refine walk ?_;refine Za_ rfl rfl (QZ_ (W0:=W0) (H:=H) (p:=tp) hok1) fun r1 H1 B hl1 eB=>?_;subst eB;refine walk ?_;refine finB [ownS rRec 9 120 53 H1 r1 (zcb_ w i),Zc_ H1 p w] ?_ (hs:=?_)
  ·exact rfl
  ·rw [show zcb_ w i=prepL es[i].q.ps.t by unfold zcb_;rw [hn]];refine Sub.trans (B:=pRow es[i].pp tp es[i].q.ps.sh db::tabO H1 tp es[i].q.ps.t::dMap H db es[i].q.ps::bigL (ndP H) (es.take i++es.drop (i+1))::wRow p nv nb w.now lv::wNs nv es::bigL (ndC H) es::Net.netO H (ptrC nb) w.net::wLog H lv w.log::ownS rRec 9 120 53 H1 r1 (prepL es[i].q.ps.t)::R) subA ?_;refine Sub.trans (Zs_ (.refl _) hl1) ?_;refine Sub.trans (Sub.cons (QaK_ hl1)) ?_;refine Sub.trans (Zan_ (A:=ndP H1) hi) ?_;refine Sub.trans (B:=wRow p nv nb w.now lv::wNs nv es::bigL (ndP H1) es::bigL (ndC H) es::Net.netO H (ptrC nb) w.net::wLog H lv w.log::ownS rRec 9 120 53 H1 r1 (prepL es[i].q.ps.t)::R) subA ?_;exact v54_
theorem v88_ {P:Prop} (h:P:=by
 refine Sub.trans (zC_ (p:=p) (nv:=nv) (nb:=nb) (lv:=lv) (es:=es) hns hl1 (.refl _) hl1 hl1) ?_;exact subA):P:=h
theorem ZbL_ {W0:World} {H:Heap} {p n:Nat} {w:PW} {a:Int} (hok:∀q∈w.ns,CInv n q.cs) (hn0:n≤1000):
  Ct Tryz.prog 19 #[ptrC p,I a] W0 H [Zc_ H p w] (fun r H' B=>B=[ownS rTxn 3 24 47 H' r (Qau_ w a),Zc_ H' p w]):=by
 refine Ct.go (vs:=[ptrC p,I a]) fun R=>?_;refine Qj_ (A:=Zc_ H p w) (σ:=Value×Nat×Value×List NE) (B:=fun a=>[wRow p a.1 a.2.1 (PW.now w) a.2.2.1,wNs a.1 a.2.2.2,bigL (ndP H) a.2.2.2,bigL (ndC H) a.2.2.2,Net.netO H (ptrC a.2.1) (PW.net w),wLog H a.2.2.1 (PW.log w)]) (p:=fun a=>PW.ns w=a.2.2.2.map NE.q) (by repeat (first | exact Has.here | apply Has.there)) (fun h ⟨nv,nb,lv,es,hb,hk⟩=>⟨(nv,nb,lv,es),hk,hb⟩) fun ⟨nv,nb,lv,es⟩ hns=>?_;dsimp only at hns⊢;refine walk ?_;refine Qg_ rfl rfl (QaZ_ (W0:=W0) (H:=H) (p:=p) (nb:=nb) (nv:=nv) (lv:=lv) (now:=w.now) (a:=a) (es:=es)) ?_;rcases QaO_ hns a with ⟨hn,ea⟩ | ⟨i,hi,rfl,hn,ea⟩
 ·rw [ea];refine walk ?_;refine Qb_ rfl fun p5 _=>?_;refine walk ?_;refine finB [ownS rTxn 3 24 47 H nilS [],Zc_ H p w] ?_ (hs:=?_)
  ·show _=_;unfold Qau_;rw [hn]
  ·exact v48_
 ·rw [ea];have hok1:=hok _ (qaL_ hns hi);refine walk ?_;refine Qb_ rfl fun p5 _=>?_;refine walk ?_;refine zr_ (L':=ndC H es[i]::bigL (ndC H) (es.take i++es.drop (i+1))::row p5 92 es[i].cv::wRow p nv nb w.now lv::wNs nv es::bigL (ndP H) es::Net.netO H (ptrC nb) w.net::wLog H lv w.log::R) ?_ ?_
  ·exact v75_
  refine Za_ (A:=[ndC H es[i]]) rfl rfl (zbZ_ (W0:=W0) (H:=H) (p:=es[i].cp) (n:=n) (s:=es[i].q.cs) hok1 hn0) fun r1 H1 B hl1 eB=>?_;subst eB;refine walk ?_;refine finB [ownS rTxn 3 24 47 H1 r1 (Qau_ w i),Zc_ H1 p w] ?_ (hs:=?_)
  ·exact rfl
  ·rw [show Qau_ w i=_ by unfold Qau_;rw [hn]];refine Sub.trans (B:=ndC H1 es[i]::bigL (ndC H) (es.take i++es.drop (i+1))::wRow p nv nb w.now lv::wNs nv es::bigL (ndP H) es::Net.netO H (ptrC nb) w.net::wLog H lv w.log::ownS rTxn 3 24 47 H1 r1 _::R) subA ?_;refine Sub.trans (Sub.cons (ZaA_ hl1)) ?_;refine Sub.trans (Zan_ (A:=ndC H1) hi) ?_;refine Sub.trans (B:=wRow p nv nb w.now lv::wNs nv es::bigL (ndP H) es::bigL (ndC H1) es::Net.netO H (ptrC nb) w.net::wLog H lv w.log::ownS rTxn 3 24 47 H1 r1 _::R) subA ?_;exact v88_
theorem Zbj_ {W0:World} {H:Heap} {p n:Nat} {w:PW} {a:Int} (hok:∀q∈w.ns,CInv n q.cs) (hn0:n≤1000) (hpl:∀q∈w.ns,∀k t,mget k q.cs.ts=some t→t.parts.length*8≤zb_):
  Ct Tryz.prog 20 #[ptrC p,I a] W0 H [Zc_ H p w] (fun r H' B=>B=[ownS rRec 9 120 53 H' r (QbL_ w a),Zc_ H' p w]):=by
 refine Ct.go (vs:=[ptrC p,I a]) fun R=>?_;refine Qj_ (A:=Zc_ H p w) (σ:=Value×Nat×Value×List NE) (B:=fun a=>[wRow p a.1 a.2.1 (PW.now w) a.2.2.1,wNs a.1 a.2.2.2,bigL (ndP H) a.2.2.2,bigL (ndC H) a.2.2.2,Net.netO H (ptrC a.2.1) (PW.net w),wLog H a.2.2.1 (PW.log w)]) (p:=fun a=>PW.ns w=a.2.2.2.map NE.q) (by repeat (first | exact Has.here | apply Has.there)) (fun h ⟨nv,nb,lv,es,hb,hk⟩=>⟨(nv,nb,lv,es),hk,hb⟩) fun ⟨nv,nb,lv,es⟩ hns=>?_;dsimp only at hns⊢;refine walk ?_;refine Qg_ rfl rfl (QaZ_ (W0:=W0) (H:=H) (p:=p) (nb:=nb) (nv:=nv) (lv:=lv) (now:=w.now) (a:=a) (es:=es)) ?_;rcases QaO_ hns a with ⟨hn,ea⟩ | ⟨i,hi,rfl,hn,ea⟩
 ·rw [ea];refine walk ?_;refine Qb_ rfl fun p5 _=>?_;refine walk ?_;refine finB [ownS rRec 9 120 53 H nilS [],Zc_ H p w] ?_ (hs:=?_)
  ·show _=_;unfold QbL_;rw [hn]
  ·exact v48_
 ·rw [ea];have hok1:=hok _ (qaL_ hns hi);refine walk ?_;refine Qb_ rfl fun p5 _=>?_;refine walk ?_;refine zr_ (L':=ndC H es[i]::bigL (ndC H) (es.take i++es.drop (i+1))::row p5 92 es[i].cv::wRow p nv nb w.now lv::wNs nv es::bigL (ndP H) es::Net.netO H (ptrC nb) w.net::wLog H lv w.log::R) ?_ ?_
  ·exact v75_
  refine Za_ (A:=[ndC H es[i]]) rfl rfl (Zdc_ (W0:=W0) (H:=H) (p:=es[i].cp) (n:=n) (s:=es[i].q.cs) hok1 hn0 (hpl _ (qaL_ hns hi))) fun r1 H1 B hl1 eB=>?_;subst eB;refine walk ?_;refine finB [ownS rRec 9 120 53 H1 r1 (QbL_ w i),Zc_ H1 p w] ?_ (hs:=?_)
  ·exact rfl
  ·rw [show QbL_ w i=_ by unfold QbL_;rw [hn]];refine Sub.trans (B:=ndC H1 es[i]::bigL (ndC H) (es.take i++es.drop (i+1))::wRow p nv nb w.now lv::wNs nv es::bigL (ndP H) es::Net.netO H (ptrC nb) w.net::wLog H lv w.log::ownS rRec 9 120 53 H1 r1 _::R) subA ?_;refine Sub.trans (Sub.cons (ZaA_ hl1)) ?_;refine Sub.trans (Zan_ (A:=ndC H1) hi) ?_;refine Sub.trans (B:=wRow p nv nb w.now lv::wNs nv es::bigL (ndP H) es::bigL (ndC H1) es::Net.netO H (ptrC nb) w.net::wLog H lv w.log::ownS rRec 9 120 53 H1 r1 _::R) subA ?_;exact v88_
end Go.Proofs.YtlflbkpmfhhikaaGreatDoor
