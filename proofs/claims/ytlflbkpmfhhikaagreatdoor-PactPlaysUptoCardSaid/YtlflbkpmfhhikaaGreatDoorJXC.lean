/- A world as an object that is owned; its small functions. -/
import Derived.Test.YtlflbkpmfhhikaaGreatDoorJQG
import Derived.Test.YtlflbkpmfhhikaaGreatDoorJQI
import Derived.Test.YtlflbkpmfhhikaaGreatDoorJQN
import Derived.Test.YtlflbkpmfhhikaaGreatDoorJTM
import Derived.Test.YtlflbkpmfhhikaaGreatDoorJTP
import Derived.Test.YtlflbkpmfhhikaaGreatDoorJZG
set_option maxHeartbeats 16000000
set_option maxRecDepth 100000
set_option linter.unusedVariables false
set_option linter.unusedSimpArgs false
namespace Go.Proofs.YtlflbkpmfhhikaaGreatDoor
open Go Go.Sx Go.Proofs
structure NE where
  pp:Nat
  cp:Nat
  q:PN
abbrev NE.cv (e:NE):List Value:=[ptrC e.pp,ptrC e.cp,I e.q.cs.life]
def rNE:Rd NE:=fun _ c e=>c=e.cv
instance :RdOk rNE 3:=⟨fun h=>by subst h;rfl,fun h=>by subst h;rfl,fun _ h=>h⟩
instance :RdFlat rNE:=⟨fun h=>h⟩
def ndP (H:Heap) (e:NE):za_:=Zn_ H e.pp e.q.ps
def ndC (H:Heap) (e:NE):za_:=zh_ H e.cp e.q.cs
abbrev wRow (p:Nat) (nv:Value) (nb:Nat) (now:Int) (lv:Value):za_:=row p 82 [nv,ptrC nb,I now,lv]
abbrev wNs (nv:Value) (es:List NE):za_:=ownS rNE 3 24 92 Heap.empty nv es
abbrev wLog (H:Heap) (lv:Value) (l:List PactNote):za_:=ownS qaB_ 10 128 71 H lv l
def qd_ (H:Heap) (p:Nat) (w:PW):za_:=fun h=>∃nv nb lv es,big [wRow p nv nb w.now lv,wNs nv es,bigL (ndP H) es,bigL (ndC H) es,Net.netO H (ptrC nb) w.net,wLog H lv w.log] h∧w.ns=es.map NE.q
theorem qbW_ {H H':Heap} {p:Nat} {s:PS} {h:Heap} (hl:H.le H') (hp:Zn_ H p s h):Zn_ H' p s h:=by
 have:=Qdv_ (L:=[]) hl h (Zci_ hp);obtain ⟨h1,h2,a,_,_,l1,l2⟩:=this;obtain ⟨tp,db,hb⟩:=a;exact ⟨tp,db,Go.Sx.big_mono l1 hb⟩
theorem zaH_ {H H':Heap} {es:List NE} {L:List za_} (hl:H.le H'):Sub (bigL (ndP H) es::L) (bigL (ndP H') es::L):=fun h ⟨h1,h2,hc,r⟩=>⟨h1,h2,big_mono (fun _ _ h=>qbW_ hl h) hc,r⟩
theorem Qat_ {H H':Heap} {es:List NE} {L:List za_} (hl:H.le H'):Sub (bigL (ndC H) es::L) (bigL (ndC H') es::L):=fun h ⟨h1,h2,hc,r⟩=>⟨h1,h2,big_mono (fun _ _ h=>ZaL_ hl h) hc,r⟩
theorem zbW_ {H H':Heap} {lv:Value} {l:List PactNote} {L:List za_} (hl:H.le H'):Sub (wLog H lv l::L) (wLog H' lv l::L):=fun h ⟨h1,h2,⟨cs,⟨u,v⟩,w⟩,r⟩=>⟨h1,h2,⟨cs,⟨u.mono hl,v⟩,w⟩,r⟩
theorem zE_ {H:Heap} {p nb:Nat} {w:PW} {nv lv:Value} {es:List NE} {L:List za_} (hn:w.ns=es.map NE.q):Sub (wRow p nv nb w.now lv::wNs nv es::bigL (ndP H) es::bigL (ndC H) es::Net.netO H (ptrC nb) w.net::wLog H lv w.log::L) (qd_ H p w::L):=
 Zab_ (B:=[wRow p nv nb w.now lv,wNs nv es,bigL (ndP H) es,bigL (ndC H) es,Net.netO H (ptrC nb) w.net,wLog H lv w.log]) (Sub.refl _) fun h hb=>⟨nv,nb,lv,es,hb,hn⟩
theorem Zr_ {H1 H2 H3 H4 H':Heap} {p nb:Nat} {w:PW} {nv lv:Value} {es:List NE} {L:List za_} (hn:w.ns=es.map NE.q) (h1:H1.le H') (h2:H2.le H') (h3:H3.le H') (h4:H4.le H'):
  Sub (wRow p nv nb w.now lv::wNs nv es::bigL (ndP H1) es::bigL (ndC H2) es::Net.netO H3 (ptrC nb) w.net::wLog H4 lv w.log::L) (qd_ H' p w::L):=
 (Sub.cons (Sub.cons ((zaH_ h1).trans (Sub.cons ((Qat_ h2).trans (Sub.cons ((Net.netO_up h3).trans (Sub.cons (zbW_ h4))))))))).trans (zE_ hn)
theorem Qdu_ {W0:World} {H:Heap} {p:Nat} {w:PW}:
  Ct Tryz.prog 21 #[ptrC p] W0 H [qd_ H p w] (fun r H' B=>r=I w.now∧B=[qd_ H' p w]∧H'=H):=by
 refine Ct.go (vs:=[ptrC p]) fun R=>?_;refine Zg_ (A:=qd_ H p w) (σ:=Value×Nat×Value×List NE) (B:=fun a=>[wRow p a.1 a.2.1 (PW.now w) a.2.2.1,wNs a.1 a.2.2.2,bigL (ndP H) a.2.2.2,bigL (ndC H) a.2.2.2,Net.netO H (ptrC a.2.1) (PW.net w),wLog H a.2.2.1 (PW.log w)]) (p:=fun a=>PW.ns w=a.2.2.2.map NE.q) (by repeat (first | exact Has.here | apply Has.there)) (fun h ⟨nv,nb,lv,es,hb,hk⟩=>⟨(nv,nb,lv,es),hk,hb⟩) fun ⟨nv,nb,lv,es⟩ hns=>?_;dsimp only at hns⊢;refine walk ?_;refine finB [qd_ H p w] ?_ (hs:=?_)
 ·exact v50_
 ·refine Sub.trans ?_ (zE_ (nv:=nv) (nb:=nb) (lv:=lv) hns);exact subA
theorem qaQ_ {W0:World} {H:Heap} {p:Nat} {w:PW}:
  Ct Tryz.prog 27 #[ptrC p] W0 H [qd_ H p w] (fun r H' B=>r=I w.net.length∧B=[qd_ H' p w]∧H'=H):=by
 refine Ct.go (vs:=[ptrC p]) fun R=>?_;refine Zg_ (A:=qd_ H p w) (σ:=Value×Nat×Value×List NE) (B:=fun a=>[wRow p a.1 a.2.1 (PW.now w) a.2.2.1,wNs a.1 a.2.2.2,bigL (ndP H) a.2.2.2,bigL (ndC H) a.2.2.2,Net.netO H (ptrC a.2.1) (PW.net w),wLog H a.2.2.1 (PW.log w)]) (p:=fun a=>PW.ns w=a.2.2.2.map NE.q) (by repeat (first | exact Has.here | apply Has.there)) (fun h ⟨nv,nb,lv,es,hb,hk⟩=>⟨(nv,nb,lv,es),hk,hb⟩) fun ⟨nv,nb,lv,es⟩ hns=>?_;dsimp only at hns⊢;refine walk ?_;refine Za_ rfl rfl (Net.len_spec (W0:=W0) (H:=H) (H0:=H) (p:=ptrC nb) (ms:=w.net) (.refl _)) fun r1 H1 B hl1 ⟨er,eB,eH⟩=>?_;subst er eB eH;refine walk ?_;refine finB [qd_ H1 p w] ?_ (hs:=?_)
 ·exact v50_
 ·refine Sub.trans ?_ (zE_ (nv:=nv) (nb:=nb) (lv:=lv) hns);exact subA
def atV (es:List NE) (a:Int):Value:=match (if 0≤a then es[a.toNat]? else none) with
  | some e=> .tuple #[.agg e.cv.toArray,.bool true]
  | none=> .tuple #[.agg #[.pointer none,.pointer none,I 0],.bool false]
theorem qdS_ {es:List NE} {i:Nat} (h:i<es.length):atV es i= .tuple #[.agg es[i].cv.toArray,.bool true]:=by
 unfold atV;rw [if_pos (by omega),Int.toNat_natCast,List.getElem?_eq_getElem h]
theorem Zdu_ {es:List NE} {a:Int} (h:¬(0≤a∧a<es.length)):atV es a= .tuple #[.agg #[.pointer none,.pointer none,I 0],.bool false]:=by
 unfold atV;split
 ·next e he=>
  exfalso;split at he
  ·next h0=>have:=(List.getElem?_eq_some_iff.1 he).1;omega
  ·cases he
 ·rfl
theorem v145_ {P:Prop} (h:P:=by
 refine walk ?_;refine finB [wRow p (.slice base es.length cap) nb now lv,wNs (.slice base es.length cap) es] ?_;exact v50_):P:=h
theorem zbG_ {W0:World} {H:Heap} {p nb:Nat} {nv lv:Value} {now a:Int} {es:List NE}:
  Ct Tryz.prog 45 #[ptrC p,I a] W0 H [wRow p nv nb now lv,wNs nv es] (fun r H' B=>r=atV es a∧B=[wRow p nv nb now lv,wNs nv es]∧H'=H):=by
 refine Ct.go (vs:=[ptrC p,I a]) fun R=>?_;refine qs_ nv fun base cap e _ _ _=>?_;subst e;by_cases h:0≤a∧a<es.length
 ·obtain ⟨i,rfl⟩:∃i:Nat,a=i:=⟨a.toNat,by omega⟩;have hi:i<es.length:=by omega
  have hn0:¬(i:Int)<0:=by omega
  have hn1:¬(es.length:Int)≤(i:Int):=by omega
  rw [qdS_ hi];refine walk ?_;refine zb_ rfl fun p4 _=>?_;refine walk ?_;refine qaY_ rfl rfl rfl hi fun c hc=>?_;obtain rfl:c=es[i].cv:=hc;exact v145_
 ·rw [Zdu_ h];by_cases h0:a<0
  ·refine walk ?_;refine zb_ rfl fun p4 _=>?_;exact v145_
  ·have hn1:(es.length:Int)≤a:=by omega
   refine walk ?_;refine zb_ rfl fun p4 _=>?_;exact v145_
theorem Qer_ {w:PW} {es:List NE} (hns:w.ns=es.map NE.q) (a:Int):nAt w a=(if 0≤a then es[a.toNat]? else none).map NE.q:=by
 unfold nAt;rw [hns];split<;>simp
theorem ZaV_ {w:PW} {es:List NE} (hns:w.ns=es.map NE.q) (a:Int):(nAt w a=none∧atV es a= .tuple #[.agg #[.pointer none,.pointer none,I 0],.bool false])∨∃(i:Nat) (h:i<es.length),a=i∧nAt w a=some es[i].q∧atV es a= .tuple #[.agg es[i].cv.toArray,.bool true]:=by
 by_cases h:0≤a∧a<es.length
 ·obtain ⟨i,rfl⟩:∃i:Nat,a=i:=⟨a.toNat,by omega⟩;have hi:i<es.length:=by omega
  refine .inr ⟨i,hi,rfl,?_,qdS_ hi⟩;rw [Qer_ hns,if_pos (by omega),Int.toNat_natCast,List.getElem?_eq_getElem hi];rfl
 ·refine .inl ⟨?_,Zdu_ h⟩;rw [Zcy_,hns,List.length_map];exact h
def QaH_ (w:PW) (a:Int):List Hold:=match nAt w a with | some q=>qx_ q.ps.t | none=>[]
def QbG_ (w:PW) (a:Int):List Rec:=match nAt w a with | some q=>prepL q.ps.t | none=>[]
def zbp_ (w:PW) (a:Int):List Rec:=match nAt w a with | some q=>openL q.cs | none=>[]
def Zad_ (w:PW) (a:Int):List Txn:=match nAt w a with | some q=>qal_ q.cs | none=>[]
theorem ZaH_ {w:PW} {es:List NE} (hns:w.ns=es.map NE.q) {i:Nat} (h:i<es.length):es[i].q∈w.ns:=by rw [hns];exact List.mem_map.2 ⟨_,List.getElem_mem h,rfl⟩
theorem qaW_ {A:NE→za_} {es:List NE} {i:Nat} (hi:i<es.length) {L:List za_}:Sub (A es[i]::bigL A (es.take i++es.drop (i+1))::L) (bigL A es::L):=by
 have h:=bigL_in (A:=A) (l1:=es.take i) (x:=es[i]) (l2:=es.drop (i+1)) (L:=L);rwa [←ZcA_ hi] at h
theorem v102_ {P:Prop} (h:P:=by
 refine Sub.trans (Zr_ (p:=p) (nv:=nv) (nb:=nb) (lv:=lv) (es:=es) hns (.refl _) hl1 hl1 hl1) ?_;exact subA):P:=h
theorem v106_ {P:Prop} (h:P:=by
 refine Sub.trans ?_ (zV_ hi);exact subA):P:=h
theorem v63_ {P:Prop} (h:P:=by
 refine Sub.trans ?_ ((zE_ (nv:=nv) (nb:=nb) (lv:=lv) hns).trans ownS_nil);exact subA):P:=h
theorem Zbj_ {W0:World} {H:Heap} {p:Nat} {w:PW} {a:Int} (hok:∀q∈w.ns,TsOk q.ps.t):
  Ct Tryz.prog 16 #[ptrC p,I a] W0 H [qd_ H p w] (fun r H' B=>B=[ownS Zae_ 2 24 42 H' r (QaH_ w a),qd_ H' p w]):=by
 refine Ct.go (vs:=[ptrC p,I a]) fun R=>?_;refine Zg_ (A:=qd_ H p w) (σ:=Value×Nat×Value×List NE) (B:=fun a=>[wRow p a.1 a.2.1 (PW.now w) a.2.2.1,wNs a.1 a.2.2.2,bigL (ndP H) a.2.2.2,bigL (ndC H) a.2.2.2,Net.netO H (ptrC a.2.1) (PW.net w),wLog H a.2.2.1 (PW.log w)]) (p:=fun a=>PW.ns w=a.2.2.2.map NE.q) (by repeat (first | exact Has.here | apply Has.there)) (fun h ⟨nv,nb,lv,es,hb,hk⟩=>⟨(nv,nb,lv,es),hk,hb⟩) fun ⟨nv,nb,lv,es⟩ hns=>?_;dsimp only at hns⊢;refine walk ?_;refine Zf_ rfl rfl (zbG_ (W0:=W0) (H:=H) (p:=p) (nb:=nb) (nv:=nv) (lv:=lv) (now:=w.now) (a:=a) (es:=es)) ?_;rcases ZaV_ hns a with ⟨hn,ea⟩ | ⟨i,hi,rfl,hn,ea⟩
 ·rw [ea];refine walk ?_;refine zb_ rfl fun p5 _=>?_;refine walk ?_;refine finB [ownS Zae_ 2 24 42 H nilS [],qd_ H p w] ?_ (hs:=?_)
  ·show _=_;unfold QaH_;rw [hn]
  ·exact v63_
 ·rw [ea];have hok1:=hok _ (ZaH_ hns hi);refine walk ?_;refine zb_ rfl fun p5 _=>?_;refine walk ?_;refine Zw_ (L':=ndP H es[i]::bigL (ndP H) (es.take i++es.drop (i+1))::row p5 92 es[i].cv::wRow p nv nb w.now lv::wNs nv es::bigL (ndC H) es::Net.netO H (ptrC nb) w.net::wLog H lv w.log::R) ?_ ?_
  ·exact v106_
  refine zv_ (A:=Zn_ H es[i].pp (NE.q es[i]).ps) (σ:=Nat×Nat) (B:=fun a=>[pRow es[i].pp a.1 (PS.sh (NE.q es[i]).ps) a.2,tabO H a.1 (PS.t (NE.q es[i]).ps),dMap H a.2 (NE.q es[i]).ps]) (p:=fun _=>True) (by repeat (first | exact Has.here | apply Has.there)) (fun h ⟨tp,db,hbig⟩=>⟨(tp,db),trivial,hbig⟩) fun ⟨tp,db⟩ _=>?_;dsimp only;refine walk ?_;refine Za_ rfl rfl (zbs_ (W0:=W0) (H:=H) (p:=tp) hok1) fun r1 H1 B hl1 eB=>?_;subst eB;refine walk ?_;refine finB [ownS Zae_ 2 24 42 H1 r1 (QaH_ w i),qd_ H1 p w] ?_ (hs:=?_)
  ·exact rfl
  ·rw [show QaH_ w i=qx_ es[i].q.ps.t by unfold QaH_;rw [hn]];refine Sub.trans (B:=pRow es[i].pp tp es[i].q.ps.sh db::tabO H1 tp es[i].q.ps.t::dMap H db es[i].q.ps::bigL (ndP H) (es.take i++es.drop (i+1))::wRow p nv nb w.now lv::wNs nv es::bigL (ndC H) es::Net.netO H (ptrC nb) w.net::wLog H lv w.log::ownS Zae_ 2 24 42 H1 r1 (qx_ es[i].q.ps.t)::R) subA ?_;refine Sub.trans (qq_ (.refl _) hl1) ?_;refine Sub.trans (Sub.cons (zaH_ hl1)) ?_;refine Sub.trans (qaW_ (A:=ndP H1) hi) ?_;refine Sub.trans (B:=wRow p nv nb w.now lv::wNs nv es::bigL (ndP H1) es::bigL (ndC H) es::Net.netO H (ptrC nb) w.net::wLog H lv w.log::ownS Zae_ 2 24 42 H1 r1 (qx_ es[i].q.ps.t)::R) subA ?_;exact v102_
theorem Qbu_ {W0:World} {H:Heap} {p:Nat} {w:PW} {a:Int} (hok:∀q∈w.ns,TsOk q.ps.t):
  Ct Tryz.prog 17 #[ptrC p,I a] W0 H [qd_ H p w] (fun r H' B=>B=[ownS rRec 9 120 53 H' r (QbG_ w a),qd_ H' p w]):=by
 refine Ct.go (vs:=[ptrC p,I a]) fun R=>?_;refine Zg_ (A:=qd_ H p w) (σ:=Value×Nat×Value×List NE) (B:=fun a=>[wRow p a.1 a.2.1 (PW.now w) a.2.2.1,wNs a.1 a.2.2.2,bigL (ndP H) a.2.2.2,bigL (ndC H) a.2.2.2,Net.netO H (ptrC a.2.1) (PW.net w),wLog H a.2.2.1 (PW.log w)]) (p:=fun a=>PW.ns w=a.2.2.2.map NE.q) (by repeat (first | exact Has.here | apply Has.there)) (fun h ⟨nv,nb,lv,es,hb,hk⟩=>⟨(nv,nb,lv,es),hk,hb⟩) fun ⟨nv,nb,lv,es⟩ hns=>?_;dsimp only at hns⊢;refine walk ?_;refine Zf_ rfl rfl (zbG_ (W0:=W0) (H:=H) (p:=p) (nb:=nb) (nv:=nv) (lv:=lv) (now:=w.now) (a:=a) (es:=es)) ?_;rcases ZaV_ hns a with ⟨hn,ea⟩ | ⟨i,hi,rfl,hn,ea⟩
 ·rw [ea];refine walk ?_;refine zb_ rfl fun p5 _=>?_;refine walk ?_;refine finB [ownS rRec 9 120 53 H nilS [],qd_ H p w] ?_ (hs:=?_)
  ·show _=_;unfold QbG_;rw [hn]
  ·exact v63_
 ·rw [ea];have hok1:=hok _ (ZaH_ hns hi);refine walk ?_;refine zb_ rfl fun p5 _=>?_;refine walk ?_;refine Zw_ (L':=ndP H es[i]::bigL (ndP H) (es.take i++es.drop (i+1))::row p5 92 es[i].cv::wRow p nv nb w.now lv::wNs nv es::bigL (ndC H) es::Net.netO H (ptrC nb) w.net::wLog H lv w.log::R) ?_ ?_
  ·exact v106_
  refine zv_ (A:=Zn_ H es[i].pp (NE.q es[i]).ps) (σ:=Nat×Nat) (B:=fun a=>[pRow es[i].pp a.1 (PS.sh (NE.q es[i]).ps) a.2,tabO H a.1 (PS.t (NE.q es[i]).ps),dMap H a.2 (NE.q es[i]).ps]) (p:=fun _=>True) (by repeat (first | exact Has.here | apply Has.there)) (fun h ⟨tp,db,hbig⟩=>⟨(tp,db),trivial,hbig⟩) fun ⟨tp,db⟩ _=>?_;dsimp only;refine walk ?_;refine Za_ rfl rfl (ZG_ (W0:=W0) (H:=H) (p:=tp) hok1) fun r1 H1 B hl1 eB=>?_;subst eB;refine walk ?_;refine finB [ownS rRec 9 120 53 H1 r1 (QbG_ w i),qd_ H1 p w] ?_ (hs:=?_)
  ·exact rfl
  ·rw [show QbG_ w i=prepL es[i].q.ps.t by unfold QbG_;rw [hn]];refine Sub.trans (B:=pRow es[i].pp tp es[i].q.ps.sh db::tabO H1 tp es[i].q.ps.t::dMap H db es[i].q.ps::bigL (ndP H) (es.take i++es.drop (i+1))::wRow p nv nb w.now lv::wNs nv es::bigL (ndC H) es::Net.netO H (ptrC nb) w.net::wLog H lv w.log::ownS rRec 9 120 53 H1 r1 (prepL es[i].q.ps.t)::R) subA ?_;refine Sub.trans (qq_ (.refl _) hl1) ?_;refine Sub.trans (Sub.cons (zaH_ hl1)) ?_;refine Sub.trans (qaW_ (A:=ndP H1) hi) ?_;refine Sub.trans (B:=wRow p nv nb w.now lv::wNs nv es::bigL (ndP H1) es::bigL (ndC H) es::Net.netO H (ptrC nb) w.net::wLog H lv w.log::ownS rRec 9 120 53 H1 r1 (prepL es[i].q.ps.t)::R) subA ?_;exact v102_
theorem v103_ {P:Prop} (h:P:=by
 refine Sub.trans (Zr_ (p:=p) (nv:=nv) (nb:=nb) (lv:=lv) (es:=es) hns hl1 (.refl _) hl1 hl1) ?_;exact subA):P:=h
theorem zaQ_ {W0:World} {H:Heap} {p n:Nat} {w:PW} {a:Int} (hok:∀q∈w.ns,CInv n q.cs) (hn0:n≤1000):
  Ct Tryz.prog 19 #[ptrC p,I a] W0 H [qd_ H p w] (fun r H' B=>B=[ownS rTxn 3 24 47 H' r (Zad_ w a),qd_ H' p w]):=by
 refine Ct.go (vs:=[ptrC p,I a]) fun R=>?_;refine Zg_ (A:=qd_ H p w) (σ:=Value×Nat×Value×List NE) (B:=fun a=>[wRow p a.1 a.2.1 (PW.now w) a.2.2.1,wNs a.1 a.2.2.2,bigL (ndP H) a.2.2.2,bigL (ndC H) a.2.2.2,Net.netO H (ptrC a.2.1) (PW.net w),wLog H a.2.2.1 (PW.log w)]) (p:=fun a=>PW.ns w=a.2.2.2.map NE.q) (by repeat (first | exact Has.here | apply Has.there)) (fun h ⟨nv,nb,lv,es,hb,hk⟩=>⟨(nv,nb,lv,es),hk,hb⟩) fun ⟨nv,nb,lv,es⟩ hns=>?_;dsimp only at hns⊢;refine walk ?_;refine Zf_ rfl rfl (zbG_ (W0:=W0) (H:=H) (p:=p) (nb:=nb) (nv:=nv) (lv:=lv) (now:=w.now) (a:=a) (es:=es)) ?_;rcases ZaV_ hns a with ⟨hn,ea⟩ | ⟨i,hi,rfl,hn,ea⟩
 ·rw [ea];refine walk ?_;refine zb_ rfl fun p5 _=>?_;refine walk ?_;refine finB [ownS rTxn 3 24 47 H nilS [],qd_ H p w] ?_ (hs:=?_)
  ·show _=_;unfold Zad_;rw [hn]
  ·exact v63_
 ·rw [ea];have hok1:=hok _ (ZaH_ hns hi);refine walk ?_;refine zb_ rfl fun p5 _=>?_;refine walk ?_;refine Zw_ (L':=ndC H es[i]::bigL (ndC H) (es.take i++es.drop (i+1))::row p5 92 es[i].cv::wRow p nv nb w.now lv::wNs nv es::bigL (ndP H) es::Net.netO H (ptrC nb) w.net::wLog H lv w.log::R) ?_ ?_
  ·exact v106_
  refine Za_ (A:=[ndC H es[i]]) rfl rfl (zcn_ (W0:=W0) (H:=H) (p:=es[i].cp) (n:=n) (s:=es[i].q.cs) hok1 hn0) fun r1 H1 B hl1 eB=>?_;subst eB;refine walk ?_;refine finB [ownS rTxn 3 24 47 H1 r1 (Zad_ w i),qd_ H1 p w] ?_ (hs:=?_)
  ·exact rfl
  ·rw [show Zad_ w i=_ by unfold Zad_;rw [hn]];refine Sub.trans (B:=ndC H1 es[i]::bigL (ndC H) (es.take i++es.drop (i+1))::wRow p nv nb w.now lv::wNs nv es::bigL (ndP H) es::Net.netO H (ptrC nb) w.net::wLog H lv w.log::ownS rTxn 3 24 47 H1 r1 _::R) subA ?_;refine Sub.trans (Sub.cons (Qat_ hl1)) ?_;refine Sub.trans (qaW_ (A:=ndC H1) hi) ?_;refine Sub.trans (B:=wRow p nv nb w.now lv::wNs nv es::bigL (ndP H) es::bigL (ndC H1) es::Net.netO H (ptrC nb) w.net::wLog H lv w.log::ownS rTxn 3 24 47 H1 r1 _::R) subA ?_;exact v103_
theorem QaM_ {W0:World} {H:Heap} {p n:Nat} {w:PW} {a:Int} (hok:∀q∈w.ns,CInv n q.cs) (hn0:n≤1000) (hpl:∀q∈w.ns,∀k t,mget k q.cs.ts=some t→t.parts.length*8≤Qb_):
  Ct Tryz.prog 20 #[ptrC p,I a] W0 H [qd_ H p w] (fun r H' B=>B=[ownS rRec 9 120 53 H' r (zbp_ w a),qd_ H' p w]):=by
 refine Ct.go (vs:=[ptrC p,I a]) fun R=>?_;refine Zg_ (A:=qd_ H p w) (σ:=Value×Nat×Value×List NE) (B:=fun a=>[wRow p a.1 a.2.1 (PW.now w) a.2.2.1,wNs a.1 a.2.2.2,bigL (ndP H) a.2.2.2,bigL (ndC H) a.2.2.2,Net.netO H (ptrC a.2.1) (PW.net w),wLog H a.2.2.1 (PW.log w)]) (p:=fun a=>PW.ns w=a.2.2.2.map NE.q) (by repeat (first | exact Has.here | apply Has.there)) (fun h ⟨nv,nb,lv,es,hb,hk⟩=>⟨(nv,nb,lv,es),hk,hb⟩) fun ⟨nv,nb,lv,es⟩ hns=>?_;dsimp only at hns⊢;refine walk ?_;refine Zf_ rfl rfl (zbG_ (W0:=W0) (H:=H) (p:=p) (nb:=nb) (nv:=nv) (lv:=lv) (now:=w.now) (a:=a) (es:=es)) ?_;rcases ZaV_ hns a with ⟨hn,ea⟩ | ⟨i,hi,rfl,hn,ea⟩
 ·rw [ea];refine walk ?_;refine zb_ rfl fun p5 _=>?_;refine walk ?_;refine finB [ownS rRec 9 120 53 H nilS [],qd_ H p w] ?_ (hs:=?_)
  ·show _=_;unfold zbp_;rw [hn]
  ·exact v63_
 ·rw [ea];have hok1:=hok _ (ZaH_ hns hi);refine walk ?_;refine zb_ rfl fun p5 _=>?_;refine walk ?_;refine Zw_ (L':=ndC H es[i]::bigL (ndC H) (es.take i++es.drop (i+1))::row p5 92 es[i].cv::wRow p nv nb w.now lv::wNs nv es::bigL (ndP H) es::Net.netO H (ptrC nb) w.net::wLog H lv w.log::R) ?_ ?_
  ·exact v106_
  refine Za_ (A:=[ndC H es[i]]) rfl rfl (qbU_ (W0:=W0) (H:=H) (p:=es[i].cp) (n:=n) (s:=es[i].q.cs) hok1 hn0 (hpl _ (ZaH_ hns hi))) fun r1 H1 B hl1 eB=>?_;subst eB;refine walk ?_;refine finB [ownS rRec 9 120 53 H1 r1 (zbp_ w i),qd_ H1 p w] ?_ (hs:=?_)
  ·exact rfl
  ·rw [show zbp_ w i=_ by unfold zbp_;rw [hn]];refine Sub.trans (B:=ndC H1 es[i]::bigL (ndC H) (es.take i++es.drop (i+1))::wRow p nv nb w.now lv::wNs nv es::bigL (ndP H) es::Net.netO H (ptrC nb) w.net::wLog H lv w.log::ownS rRec 9 120 53 H1 r1 _::R) subA ?_;refine Sub.trans (Sub.cons (Qat_ hl1)) ?_;refine Sub.trans (qaW_ (A:=ndC H1) hi) ?_;refine Sub.trans (B:=wRow p nv nb w.now lv::wNs nv es::bigL (ndP H) es::bigL (ndC H1) es::Net.netO H (ptrC nb) w.net::wLog H lv w.log::ownS rRec 9 120 53 H1 r1 _::R) subA ?_;exact v103_
end Go.Proofs.YtlflbkpmfhhikaaGreatDoor
