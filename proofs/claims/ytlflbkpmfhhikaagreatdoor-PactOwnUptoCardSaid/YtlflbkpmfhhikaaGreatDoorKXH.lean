/- A move is played: a transaction begins; a node steps. -/
import Derived.Test.YtlflbkpmfhhikaaGreatDoorKE44
import Derived.Test.YtlflbkpmfhhikaaGreatDoorKTK
import Derived.Test.YtlflbkpmfhhikaaGreatDoorKTX
import Derived.Test.YtlflbkpmfhhikaaGreatDoorKXC
set_option maxHeartbeats 16000000
set_option maxRecDepth 100000
set_option linter.unusedVariables false
set_option linter.unusedSimpArgs false
namespace Go.Proofs.YtlflbkpmfhhikaaGreatDoor
open Go Go.Sx Go.Proofs
theorem QcC_ {W0:World} {H H0:Heap} {b:Nat} {c:List Value} {l:List Message} {m:Message} (hl:H0.le H) (h0:Qa_ H c m):
  Ct Tryz.prog 67 #[ptrC b,.agg c.toArray] W0 H [Net.netO H0 (ptrC b) l] (fun r H' B=>B=[Net.netO H' (ptrC b) (Qbv_ l m)]):=by
 unfold Qbv_;by_cases h:l.length<64
 ·rw [if_pos h];exact (Net.send_yes (W0:=W0) (ms:=l) hl h0 h).mono fun r H' B _ hq=>hq.2
 ·rw [if_neg h];exact (Net.send_no (W0:=W0) (ms:=l) hl h0 h).mono fun r H' B _ hq=>by rw [hq.2.1,hq.2.2]
theorem qbL_ {W0:World} {H H0:Heap} {p nb:Nat} {nv lv v:Value} {now:Int} {l ms:List Message} (hl:H0.le H) (hs:SlR Qa_ 19 H v ms):
  Ct Tryz.prog 37 #[ptrC p,v] W0 H [wRow p nv nb now lv,Net.netO H0 (ptrC nb) l] (fun r H' B=>B=[wRow p nv nb now lv,Net.netO H' (ptrC nb) (Qv_ l ms)]):=by
 refine Ct.go (vs:=[ptrC p,v]) fun R=>?_;obtain ⟨b0,c0,rfl,_,_⟩:=hs.shape;refine walk ?_;refine Qc_ (σ:=Nat×Heap) (fun u=>u.1≤ms.length∧H.le u.2) (fun u=>[(0,ptrC p),(6,.slice b0 ms.length c0),(7,I ms.length),(8,I u.1)]) (fun u=>u.2) (fun u=>wRow p nv nb now lv::Net.netO u.2 (ptrC nb) (Qv_ l (ms.take u.1))::R) (fun u=>ms.length - u.1) (0,H) ⟨Nat.zero_le _,.refl _⟩ (hs0:=?_) fun ⟨k,HK⟩ ⟨hk0,hlK⟩ K hL=>?_
 rotate_left
 ·refine Sub.trans (B:=Net.netO H0 (ptrC nb) l::wRow p nv nb now lv::R) subA ?_;refine Sub.trans (Net.netO_up hl) ?_;exact subA
 simp only at hk0 hlK;dsimp only;refine walk ?_;refine Qe_ rfl (fun hk=>?_) (fun hk=>?_)
 ·have hk1:k<ms.length:=by omega
  have ht:Qv_ l (ms.take (k+1))=Qbv_ (Qv_ l (ms.take k)) ms[k]:=by rw [List.take_succ_eq_append_getElem hk1];unfold Qv_;rw [List.foldl_append];rfl
  refine walk ?_;refine qe_ rfl rfl (hs.mono hlK) hk1 fun b o c hr hc=>?_;generalize ms[k]=m at hc ht;have hcc:=hc;obtain ⟨s1,s2,s3,s4,rfl,_,_,_,_,_,_,_,h1,h2,_,_,_,_,h3,_,_,_,h4⟩:=hc;obtain ⟨b1,c1,rfl,_,_⟩:=h1.1.shape;obtain ⟨b2,c2,rfl,_,_⟩:=h2.1.shape;obtain ⟨b3,c3,rfl,_,_⟩:=h3.1.shape;obtain ⟨b4,c4,rfl,_,_⟩:=h4.1.shape;refine zg_ rfl rfl hr rfl ?_;refine Qb_ rfl fun p5 _=>?_;refine walk ?_;refine zc_ 5 [row p5 106 (m.cv (.slice b1 m.Work.Take.length c1) (.slice b2 m.Work.Drop.length c2) (.slice b3 m.Call.Route.Cells.length c3) (.slice b4 m.Reply.Route.Cells.length c4)),wRow p nv nb now lv] ?_;refine qa_ 0 ?_;refine qa_ 1 ?_;refine qa_ 2 ?_;refine qa_ 3 ?_;refine qa_ 4 ?_;refine qb_ rfl ?_;refine Za_ rfl rfl (QcC_ (W0:=W0) (H:=HK) (H0:=HK) (b:=nb) (l:=Qv_ l (ms.take k)) (.refl _) hcc) fun r1 H1 B hl1 eB=>?_;subst eB;rw [←ht];refine walk ?_;exact Zb_ hL (k+1,H1) ⟨by simp only;omega,hlK.trans hl1⟩
 ·clear hL;obtain rfl:k=ms.length:=by omega
  rw [List.take_length];refine walk ?_;refine ZdT_ [wRow p nv nb now lv,Net.netO HK (ptrC nb) (Qv_ l ms)] ?_;exact rfl
def HMid (q:PN) (m:Message) (q':PN) (out:List Message) (rc:List Rec):Prop:=
  (ZR_ m∧∃cs,q'=⟨Zm_ q.ps m cs,q.cs⟩∧out=zk_ q.ps m∧rc=qh_ q.ps m)∨(¬ZR_ m∧q'=⟨q.ps,(zh_ q.cs m).s⟩∧out=(zh_ q.cs m).out∧rc=(zh_ q.cs m).rc)
theorem Qan_ {s:CS} {m:Message}:(zh_ s m).s.life=s.life:=by
 unfold zh_
 repeat' split
 all_goals rfl
theorem HMid.life {q q':PN} {m:Message} {out:List Message} {rc:List Rec} (h:HMid q m q' out rc):q'.cs.life=q.cs.life:=by
 rcases h with ⟨_,cs,rfl,_⟩ | ⟨_,rfl,_⟩
 ·rfl
 ·exact Qan_
theorem HMid.rcl {q q':PN} {m:Message} {out:List Message} {rc:List Rec} (h:HMid q m q' out rc):rc.length≤1:=by
 rcases h with ⟨_,cs,_,_,rfl⟩ | ⟨_,_,_,rfl⟩
 ·unfold qh_
  repeat' split
  all_goals simp
 ·unfold zh_
  repeat' split
  all_goals simp
def NE.to (e:NE) (q:PN):NE:=⟨e.pp,e.cp,q⟩
theorem Zeb_ {es:List NE} {i:Nat} (hi:i<es.length) {q:PN} (hq:q.cs.life=es[i].q.cs.life) {cs:List Value} (h:RL rNE Heap.empty cs es):RL rNE Heap.empty cs (es.set i (es[i].to q)):=by
 have key:∀(es:List NE) (i:Nat) (hi:i<es.length) (cs:List Value),q.cs.life=es[i].q.cs.life→RL rNE Heap.empty cs es→RL rNE Heap.empty cs (es.set i (es[i].to q)):=by
  intro es
  induction es with
  | nil=>intro i hi;cases hi
  | cons e es ih=>
   intro i hi cs hq ⟨c,r,e1,h1,h2⟩
   cases i with
   | zero=>
    refine ⟨c,r,e1,?_,h2⟩;show c=[ptrC e.pp,ptrC e.cp,I q.cs.life];rw [show q.cs.life=e.q.cs.life from hq];exact h1
   | succ i=>exact ⟨c,r,e1,h1,ih i (by simpa using hi) r hq h2⟩
 exact key es i hi cs hq h
theorem zcq_ {es:List NE} {i:Nat} (hi:i<es.length) {q:PN} (hq:q.cs.life=es[i].q.cs.life) {nv:Value} {L:List za_}:Sub (wNs nv es::L) (wNs nv (es.set i (es[i].to q))::L):=fun h ⟨h1,h2,⟨cs,⟨u,v⟩,w⟩,r⟩=>by
 refine ⟨h1,h2,⟨cs,⟨Zeb_ hi hq u,by rw [List.length_set];exact v⟩,?_⟩,r⟩;rw [List.length_set];exact w
structure WOk (n:Nat) (w:PW):Prop where
  p:∀q∈w.ns,PInv n q.ps
  c:∀q∈w.ns,CInv n q.cs
  pl:∀q∈w.ns,∀k t,mget k q.cs.ts=some t→t.parts.length≤1000
  n:n≤500
  ll:w.log.length≤900000000
  fn:∀q∈w.ns,fits (q.cs.life+1)
  sh:∀i (h:i<w.ns.length),w.ns[i].ps.sh=i∧w.ns[i].cs.node=i
theorem Zbu_ {es:List NE} {i:Nat} {e:NE} (hi:i<es.length) {A:NE→za_} {L:List za_}:Sub (A e::bigL A (es.take i++es.drop (i+1))::L) (bigL A (es.set i e)::L):=Zci_ hi
theorem qbv_ {es:List NE} {i:Nat} (hi:i<es.length) {A:NE→za_} {e:NE} (h:∀x,A es[i] x→A e x) {L:List za_}:Sub (bigL A es::L) (bigL A (es.set i e)::L):=
 (zak_ hi).trans ((show Sub (A es[i]::bigL A (es.take i++es.drop (i+1))::L) (A e::bigL A (es.take i++es.drop (i+1))::L) from fun x ⟨h1,h2,a,r⟩=>⟨h1,h2,h _ a,r⟩).trans (Zci_ hi))
def zej_ (H':Heap) (p nb:Nat) (nv:Value) (w:PW) (m:Message) (es:List NE) (v:Value) (B:List za_):Prop:=
  ∃w' out es' lv,PHear w m w' out∧w'.ns=es'.map NE.q∧B=[ownS Qa_ 19 216 106 H' v out,wRow p nv nb w'.now lv,wNs nv es',bigL (ndP H') es',bigL (ndC H') es',wLog H' lv w'.log]
theorem v17_ {P:Prop} (h:P:=by
 refine walk ?_;refine Za_ (A:=[ndP H es[i]]) rfl rfl hcall fun r1 H1 B hl1 ⟨v1,v2,cs,er,eB⟩=>?_;subst er eB;refine walk ?_;refine qL_ hK (⟨Zm_ es[i].q.ps m cs,es[i].q.cs⟩,zk_ es[i].q.ps m,qh_ es[i].q.ps m,v1,v2,H1) ⟨.inl ⟨k,cs,rfl,rfl,rfl⟩,hl1⟩ (hs:=?_);dsimp only;refine Sub.trans (B:=ndP H1 (es[i].to ⟨Zm_ es[i].q.ps m cs,es[i].q.cs⟩)::bigL (ndP H) (es.take i++es.drop (i+1))::bigL (ndC H) es::wNs (.slice base es.length cap) es::wLog H lv w.log::ownS Qa_ 19 216 106 H1 v1 (zk_ es[i].q.ps m)::ownS rRec 9 120 53 H1 v2 (qh_ es[i].q.ps m)::row p3 106 (m.cv (.slice b1 m.Work.Take.length c1) (.slice b2 m.Work.Drop.length c2) (.slice b3 m.Call.Route.Cells.length c3) (.slice b4 m.Reply.Route.Cells.length c4))::wRow p (.slice base es.length cap) nb w.now lv::R) subA ?_;refine Sub.trans (Sub.cons (QaK_ hl1)) ?_;refine Sub.trans (Zbu_ (A:=ndP H1) hil) ?_;refine Sub.trans (Sub.cons (ZaA_ hl1)) ?_;refine Sub.trans (Sub.cons (qbv_ (A:=ndC H1) hil (e:=es[i].to ⟨Zm_ es[i].q.ps m cs,es[i].q.cs⟩) fun _ h=>h)) ?_;refine Sub.trans (Sub.cons (Sub.cons (zcq_ hil (q:=⟨Zm_ es[i].q.ps m cs,es[i].q.cs⟩) rfl))) ?_;refine Sub.trans (Sub.cons (Sub.cons (Sub.cons (zbL_ hl1)))) ?_;exact subA):P:=h
theorem ZcC_ {W0:World} {H:Heap} {p nb n:Nat} {nv lv:Value} {w:PW} {m:Message} {c:List Value} {es:List NE} (hP:PkH H) (hns:w.ns=es.map NE.q) (KW:WOk n w) (hm:OkM m) (hc:Qa_ H c m) (ht:qt_ w m.To):
  Ct Tryz.prog 39 #[ptrC p,.agg c.toArray] W0 H [wRow p nv nb w.now lv,wNs nv es,bigL (ndP H) es,bigL (ndC H) es,wLog H lv w.log] (fun r H' B=>zej_ H' p nb nv w m es r B):=by
 refine Ct.go (vs:=[ptrC p,.agg c.toArray]) fun R=>?_;have hcc:=hc;obtain ⟨s1,s2,s3,s4,rfl,f1,f2,f3,f4,f5,f6,f7,h1,h2,f8,f9,f10,f11,h3,f12,f13,f14,h4⟩:=hc;obtain ⟨b1,c1,rfl,_,_⟩:=h1.1.shape;obtain ⟨b2,c2,rfl,_,_⟩:=h2.1.shape;obtain ⟨b3,c3,rfl,_,_⟩:=h3.1.shape;obtain ⟨b4,c4,rfl,_,_⟩:=h4.1.shape;obtain ⟨i,hi⟩:∃i:Nat,m.To=i:=⟨m.To.toNat,by unfold qt_ at ht;omega⟩
 have hil:i<es.length:=by
  unfold qt_ at ht;rw [hns,List.length_map] at ht;omega
 have hwl:i<w.ns.length:=by rw [hns,List.length_map];exact hil
 have hwi:w.ns[i]=es[i].q:=by simp only [hns,List.getElem_map]
 have hmem:=qaL_ hns hil;refine Qs_ nv fun base cap e _ _ _=>?_;subst e;refine walk ?_;refine qc_ rfl rfl fun p3 _=>?_;refine walk ?_;refine Zbn_ (.slice base es.length cap) fun D hD hdj hle hsl=>?_;haveI hin:NatOf m.To i:=⟨hi⟩;refine zc_ 10 [row p3 106 (m.cv (.slice b1 m.Work.Take.length c1) (.slice b2 m.Work.Drop.length c2) (.slice b3 m.Call.Route.Cells.length c3) (.slice b4 m.Reply.Route.Cells.length c4)),wRow p (.slice base es.length cap) nb w.now lv] ?_;refine qa_ 0 ?_;refine qa_ 1 ?_;refine qa_ 2 ?_;refine qa_ 3 ?_;refine qa_ 4 ?_;refine qa_ 5 ?_;refine Qf_ 6 rfl rfl rfl hsl.1 hil fun b o cc hr hcn=>?_;obtain rfl:cc=es[i].cv:=hcn;refine Zl_ 7 rfl rfl rfl hr rfl ?_;refine Zn_ 8 rfl rfl fun p7 _=>?_;refine Zi_ 9 rfl rfl rfl rfl (by simp) rfl ⟨subA,?_⟩;refine qb_ rfl ?_;refine qak_ hD hdj (.refl _) ?_;have K2:PInv n es[i].q.ps∧CInv n es[i].q.cs:=⟨KW.p _ hmem,KW.c _ hmem⟩;have hpl:=KW.pl _ hmem
 refine qcj_ (σ:=PN×List Message×List Rec×Value×Value×Heap) (fun u=>HMid es[i].q m u.1 u.2.1 u.2.2.1∧H.le u.2.2.2.2.2) (fun u=>[(0,ptrC p),(3,.pointer (some ⟨p3,0,none⟩)),(5,u.2.2.2.1),(6,u.2.2.2.2.1)]) (fun u=>u.2.2.2.2.2)
  (fun u=>ownS Qa_ 19 216 106 u.2.2.2.2.2 u.2.2.2.1 u.2.1::ownS rRec 9 120 53 u.2.2.2.2.2 u.2.2.2.2.1 u.2.2.1::row p3 106 (m.cv (.slice b1 m.Work.Take.length c1) (.slice b2 m.Work.Drop.length c2) (.slice b3 m.Call.Route.Cells.length c3) (.slice b4 m.Reply.Route.Cells.length c4))::wRow p (.slice base es.length cap) nb w.now lv::wNs (.slice base es.length cap) (es.set i (es[i].to u.1))::bigL (ndP u.2.2.2.2.2) (es.set i (es[i].to u.1))::bigL (ndC u.2.2.2.2.2) (es.set i (es[i].to u.1))::wLog u.2.2.2.2.2 lv w.log::R) (fun K hK=>?_) fun ⟨q',out,rc,v1,v2,H'⟩ ⟨hM,hlH⟩=>?_
 ·by_cases k:ZR_ m
  ·have hcall:=zdd_ (W0:=W0) (H:=H) (p:=es[i].pp) (n:=n) (s:=es[i].q.ps) hP K2.1 KW.n hm hcc;refine zr_ (L':=ndP H es[i]::bigL (ndP H) (es.take i++es.drop (i+1))::wNs (.slice base es.length cap) es::row p7 92 es[i].cv::row p3 106 (m.cv (.slice b1 m.Work.Take.length c1) (.slice b2 m.Work.Drop.length c2) (.slice b3 m.Call.Route.Cells.length c3) (.slice b4 m.Reply.Route.Cells.length c4))::wRow p (.slice base es.length cap) nb w.now lv::bigL (ndC H) es::wLog H lv w.log::R) ?_ ?_
   ·refine Sub.trans (B:=bigL (ndP H) es::wNs (.slice base es.length cap) es::row p7 92 es[i].cv::row p3 106 (m.cv (.slice b1 m.Work.Take.length c1) (.slice b2 m.Work.Drop.length c2) (.slice b3 m.Call.Route.Cells.length c3) (.slice b4 m.Reply.Route.Cells.length c4))::wRow p (.slice base es.length cap) nb w.now lv::bigL (ndC H) es::wLog H lv w.log::R) subA (zak_ hil)
   rcases id k with k1 | k3
   ·exact v17_
   ·have k1:¬m.Kind=1:=by omega
    exact v17_
  ·have k1:¬m.Kind=1:=fun h=>k (.inl h);have k3:¬m.Kind=3:=fun h=>k (.inr h);have hcall:=QcB_ (W0:=W0) (H:=H) (p:=es[i].cp) (n:=n) (s:=es[i].q.cs) (m:=m) K2.2 (by have:=KW.n;omega) (fun k t h=>Nat.le_trans (hpl k t h) (by omega)) hcc;refine zr_ (L':=ndC H es[i]::bigL (ndC H) (es.take i++es.drop (i+1))::wNs (.slice base es.length cap) es::row p7 92 es[i].cv::row p3 106 (m.cv (.slice b1 m.Work.Take.length c1) (.slice b2 m.Work.Drop.length c2) (.slice b3 m.Call.Route.Cells.length c3) (.slice b4 m.Reply.Route.Cells.length c4))::wRow p (.slice base es.length cap) nb w.now lv::bigL (ndP H) es::wLog H lv w.log::R) ?_ ?_
   ·refine Sub.trans (B:=bigL (ndC H) es::wNs (.slice base es.length cap) es::row p7 92 es[i].cv::row p3 106 (m.cv (.slice b1 m.Work.Take.length c1) (.slice b2 m.Work.Drop.length c2) (.slice b3 m.Call.Route.Cells.length c3) (.slice b4 m.Reply.Route.Cells.length c4))::wRow p (.slice base es.length cap) nb w.now lv::bigL (ndP H) es::wLog H lv w.log::R) subA (zak_ hil)
   refine walk ?_;refine Za_ (A:=[ndC H es[i]]) rfl rfl hcall fun r1 H1 B hl1 ⟨v1,v2,v3,er,eB⟩=>?_;subst er eB;refine walk ?_;refine qL_ hK (⟨es[i].q.ps,(zh_ es[i].q.cs m).s⟩,(zh_ es[i].q.cs m).out,(zh_ es[i].q.cs m).rc,v1,v2,H1) ⟨.inr ⟨k,rfl,rfl,rfl⟩,hl1⟩ (hs:=?_);dsimp only;refine Sub.trans (B:=ndC H1 (es[i].to ⟨es[i].q.ps,(zh_ es[i].q.cs m).s⟩)::bigL (ndC H) (es.take i++es.drop (i+1))::bigL (ndP H) es::wNs (.slice base es.length cap) es::wLog H lv w.log::ownS Qa_ 19 216 106 H1 v1 (zh_ es[i].q.cs m).out::ownS rRec 9 120 53 H1 v2 (zh_ es[i].q.cs m).rc::row p3 106 (m.cv (.slice b1 m.Work.Take.length c1) (.slice b2 m.Work.Drop.length c2) (.slice b3 m.Call.Route.Cells.length c3) (.slice b4 m.Reply.Route.Cells.length c4))::wRow p (.slice base es.length cap) nb w.now lv::R) subA ?_;refine Sub.trans (Sub.cons (ZaA_ hl1)) ?_;refine Sub.trans (Zbu_ (A:=ndC H1) hil) ?_;refine Sub.trans (Sub.cons (QaK_ hl1)) ?_;refine Sub.trans (Sub.cons (qbv_ (A:=ndP H1) hil (e:=es[i].to ⟨es[i].q.ps,(zh_ es[i].q.cs m).s⟩) fun _ h=>h)) ?_;refine Sub.trans (Sub.cons (Sub.cons (zcq_ hil (q:=⟨es[i].q.ps,(zh_ es[i].q.cs m).s⟩) Qan_))) ?_;refine Sub.trans (Sub.cons (Sub.cons (Sub.cons (zbL_ hl1)))) ?_;exact subA
 simp only at hM hlH;dsimp only;refine zaV_ v2 fun H2 hl2 hrc=>?_;refine Qs_ lv fun lb lc e _ _ _=>?_;subst e;obtain ⟨br,cr,rfl,_,_⟩:=hrc.1.shape;refine walk ?_
 refine Qc_ (σ:=Nat×Option Addr×Nat) (fun u=>u.1≤rc.length) (fun u=>[(0,ptrC p),(3,.pointer (some ⟨p3,0,none⟩)),(5,v1),(38,.slice br rc.length cr),(39,I rc.length),(40,I u.1)]) (fun _=>H2)
  (fun u=>wRow p (.slice base es.length cap) nb w.now (.slice u.2.1 (w.log++qn_ m.To (rc.take u.1)).length u.2.2)::wLog H2 (.slice u.2.1 (w.log++qn_ m.To (rc.take u.1)).length u.2.2) (w.log++qn_ m.To (rc.take u.1))::ownS Qa_ 19 216 106 H' v1 out::row p3 106 (m.cv (.slice b1 m.Work.Take.length c1) (.slice b2 m.Work.Drop.length c2) (.slice b3 m.Call.Route.Cells.length c3) (.slice b4 m.Reply.Route.Cells.length c4))::wNs (.slice base es.length cap) (es.set i (es[i].to q'))::bigL (ndP H') (es.set i (es[i].to q'))::bigL (ndC H') (es.set i (es[i].to q'))::R) (fun u=>rc.length - u.1) (0,lb,lc) (Nat.zero_le _) (hs0:=?hs0) fun ⟨j,d,e⟩ hj0 K hL=>?_
 case hs0=>
  simp only [List.take_zero];show Sub _ (wRow p (.slice base es.length cap) nb w.now (.slice lb (w.log++[]).length lc)::wLog H2 (.slice lb (w.log++[]).length lc) (w.log++[])::_);rw [List.append_nil];refine Sub.trans (B:=wLog H' (.slice lb w.log.length lc) w.log::ownS Qa_ 19 216 106 H' v1 out::row p3 106 (m.cv (.slice b1 m.Work.Take.length c1) (.slice b2 m.Work.Drop.length c2) (.slice b3 m.Call.Route.Cells.length c3) (.slice b4 m.Reply.Route.Cells.length c4))::wRow p (.slice base es.length cap) nb w.now (.slice lb w.log.length lc)::wNs (.slice base es.length cap) (es.set i (es[i].to q'))::bigL (ndP H') (es.set i (es[i].to q'))::bigL (ndC H') (es.set i (es[i].to q'))::R) subA ?_;refine Sub.trans (zbL_ hl2) ?_;exact subA
 simp only at hj0;dsimp only;refine walk ?_;refine Qe_ rfl (fun hj=>?_) (fun hj=>?_)
 ·have hj1:j<rc.length:=by omega
  have hjn:qn_ m.To (rc.take j)++[⟨m.To,rc[j]⟩]=qn_ m.To (rc.take (j+1)):=by rw [List.take_succ_eq_append_getElem hj1];unfold qn_;rw [List.map_append];rfl
  have hnl:(qn_ m.To (rc.take j)).length=j:=by unfold qn_;rw [List.length_map,List.length_take];omega
  refine walk ?_;refine qe_ rfl rfl hrc.1 hj1 fun b o cc hr hcr=>?_;have hcq:=hcr;generalize rc[j]=q at hr hcr hcq hjn;obtain ⟨t1,t2,t3,rfl,g1,g2,g3,g4,g5,g6,g7,g8⟩:=hcr;obtain ⟨sb1,sc1,rfl,_,_⟩:=g6.1.shape;obtain ⟨sb2,sc2,rfl,_,_⟩:=g7.1.shape;obtain ⟨sb3,sc3,rfl,_,_⟩:=g8.1.shape;refine zg_ rfl rfl hr rfl ?_;refine Qb_ rfl fun p9 _=>?_;refine walk ?_;refine zc_ 11 [row p9 53 (q.cv (.slice sb1 q.Work.Take.length sc1) (.slice sb2 q.Work.Drop.length sc2) (.slice sb3 q.Parts.length sc3)),row p3 106 (m.cv (.slice b1 m.Work.Take.length c1) (.slice b2 m.Work.Drop.length c2) (.slice b3 m.Call.Route.Cells.length c3) (.slice b4 m.Reply.Route.Cells.length c4)),wRow p (.slice base es.length cap) nb w.now (.slice d (w.log++qn_ m.To (rc.take j)).length e)] ?_;refine qa_ 0 ?_;refine qa_ 1 ?_;refine qa_ 2 ?_;refine qa_ 3 ?_;refine qa_ 4 ?_;refine qa_ 5 ?_;refine qa_ 6 ?_;refine qa_ 7 ?_;refine qa_ 8 ?_;have hlen2:(w.log++qn_ m.To (rc.take j)).length+1=(w.log++qn_ m.To (rc.take (j+1))).length:=by rw [←hjn];simp;omega
  refine Qu_ (y:=(⟨m.To,q⟩:PactNote)) 9 10 rfl rfl rfl ⟨_,_,_,rfl,f2,g1,g2,g3,g4,g5,g6,g7,g8⟩ ?_ fun d3 e3=>⟨subA,?_⟩
  ·have:=KW.ll;rw [List.length_append,hnl];simp only [zb_];have:=hM.rcl;omega
  rw [hlen2,List.append_assoc,hjn];refine qb_ rfl ?_;exact v62_
 ·clear hL;obtain rfl:j=rc.length:=by omega
  rw [List.take_length];refine walk ?_
  have hns2:(setN w i q').ns=(es.set i (es[i].to q')).map NE.q:=by
   show w.ns.set i q'=_;rw [hns,List.map_set];rfl
  refine finB [ownS Qa_ 19 216 106 H2 v1 out,wRow p (.slice base es.length cap) nb w.now (.slice d (w.log++qn_ m.To rc).length e),wNs (.slice base es.length cap) (es.set i (es[i].to q')),bigL (ndP H2) (es.set i (es[i].to q')),bigL (ndC H2) (es.set i (es[i].to q')),wLog H2 (.slice d (w.log++qn_ m.To rc).length e) (w.log++qn_ m.To rc)] ?_ (hs:=?_)
  ·have hq:PHear w m {setN w i q' with log:=w.log++qn_ m.To rc} out:=by
    rcases hM with ⟨k,cs,rfl,rfl,rfl⟩ | ⟨k,rfl,rfl,rfl⟩
    ·rw [←hwi];exact .part k i hi hwl cs
    ·rw [←hwi];exact .coord k i hi hwl
   exact ⟨_,out,_,_,hq,hns2,rfl⟩
  ·refine Sub.trans (B:=ownS Qa_ 19 216 106 H' v1 out::bigL (ndP H') (es.set i (es[i].to q'))::bigL (ndC H') (es.set i (es[i].to q'))::wRow p (.slice base es.length cap) nb w.now (.slice d (w.log++qn_ m.To rc).length e)::wNs (.slice base es.length cap) (es.set i (es[i].to q'))::wLog H2 (.slice d (w.log++qn_ m.To rc).length e) (w.log++qn_ m.To rc)::R) subA ?_;refine Sub.trans (zaE_ hl2) (Sub.trans (Sub.cons (Sub.trans (QaK_ hl2) (Sub.cons (ZaA_ hl2)))) ?_);exact subA
theorem qek_ {p:Prop} [Decidable p] {b:Bool} (h:b=true↔p):Value.bool b=Value.bool (decide p):=by
 congr 1;by_cases hp:p
 ·rw [decide_eq_true hp];exact h.2 hp
 ·rw [decide_eq_false hp];cases b with
  | false=>rfl
  | true=>exact absurd (h.1 rfl) hp
instance {w:PW} {k a:Int} {n:Nat}:Decidable (okMv w k a n):=by unfold okMv qt_;infer_instance
theorem v3_ {P:Prop} (h:P:=by
 refine walk ?_
 skip
 refine finB [wRow p (.slice base w.ns.length cap) nb w.now lv] ?_;refine ⟨qek_ ?_,rfl,rfl⟩
 first
  | (refine ⟨fun h=>(by cases h),fun h=>?_⟩;exfalso;unfold okMv qt_ at h;omega)
  | (refine ⟨fun _=>?_,fun _=>rfl⟩;unfold okMv qt_;omega)):P:=h
theorem zaB_ {W0:World} {H:Heap} {p nb cap ln:Nat} {base:Option Addr} {lv s:Value} {w:PW} {m:Move} (hln:ln=w.ns.length) (hs:SlB Qi_ 3 56 H s m.Works) (hnow:0≤w.now∧w.now≤1073741824) (hk:fits m.Kind) (ha:fits m.A):
  Ct Tryz.prog 35 #[ptrC p,.agg (m.cv s).toArray] W0 H [wRow p (.slice base ln cap) nb w.now lv] (fun r H' B=>r= .bool (decide (okMv w m.Kind m.A m.Works.length))∧B=[wRow p (.slice base ln cap) nb w.now lv]∧H'=H):=by
 subst hln;refine Ct.go (vs:=[ptrC p,.agg (m.cv s).toArray]) fun R=>?_;obtain ⟨b0,c0,rfl,_,_⟩:=hs.1.shape;refine walk ?_;refine qc_ rfl rfl fun p3 _=>?_;have hlen:fits (1073741824 - w.now):=by unfold fits;omega
 by_cases h1:0≤m.A
 case neg=>
  by_cases k1:m.Kind=1
  ·exact v3_
  by_cases k5:m.Kind=5
  ·exact v3_
  by_cases k7:m.Kind=7
  ·exact v3_
  by_cases k6:m.Kind=6
  ·exact v3_
  by_cases k2:m.Kind=2
  ·exact v3_
  by_cases k3:m.Kind=3
  ·exact v3_
  by_cases k4:m.Kind=4
  ·exact v3_
  by_cases k8:m.Kind=8
  ·exact v3_
  exact v3_
 by_cases k6:m.Kind=6
 ·by_cases h2:m.A≤1073741824 - w.now
  ·exact v3_
  ·exact v3_
 by_cases k2:m.Kind=2
 ·exact v3_
 by_cases k3:m.Kind=3
 ·exact v3_
 by_cases k4:m.Kind=4
 ·exact v3_
 by_cases k8:m.Kind=8
 ·exact v3_
 by_cases h2:m.A<w.ns.length
 ·by_cases k1:m.Kind=1
  ·by_cases h3:m.Works.length≤w.ns.length
   ·have h3':(m.Works.length:Int)≤(w.ns.length:Int):=by omega
    exact v3_
   ·have h3':¬(m.Works.length:Int)≤(w.ns.length:Int):=by omega
    exact v3_
  by_cases k5:m.Kind=5
  ·exact v3_
  by_cases k7:m.Kind=7
  ·exact v3_
  exact v3_
 ·by_cases k1:m.Kind=1
  ·exact v3_
  by_cases k5:m.Kind=5
  ·exact v3_
  by_cases k7:m.Kind=7
  ·exact v3_
  exact v3_
def neC (es:List NE):List Value:=(es.map NE.cv).flatten
theorem Qdf_:∀{es:List NE} {cs:List Value},RL rNE Heap.empty cs es↔cs=neC es
 | [],cs=>Iff.rfl
 | e::es,cs=>by
  constructor
  ·rintro ⟨c,r,rfl,h1,h2⟩;rw [Qdf_.1 h2,show c=e.cv from h1];rfl
  ·rintro rfl;exact ⟨e.cv,neC es,rfl,rfl,Qdf_.2 rfl⟩
theorem Zah_:∀{es:List NE},(neC es).length=es.length*3
 | []=>rfl
 | e::es=>by
  show (e.cv++neC es).length=(es.length+1)*3;rw [List.length_append,Zah_];show 3+es.length*3=(es.length+1)*3;omega
theorem qcb_ {sp:List Value}:∀{es:List NE} {i k:Nat} {v:Value} (hi:i<es.length),es[i].cv[k]?=some v→(neC es++sp)[i*3+k]?=some v
 | [],i,k,v,hi,h=>by cases hi
 | e::es,0,k,v,hi,h=>by
  have hk:k<3:=(List.getElem?_eq_some_iff.1 h).1;show (e.cv++neC es++sp)[0*3+k]?=_;rw [List.append_assoc,List.getElem?_append_left (by show _<3;omega),show 0*3+k=k by omega];exact h
 | e::es,i+1,k,v,hi,h=>by
  show (e.cv++neC es++sp)[(i+1)*3+k]?=_;rw [List.append_assoc,List.getElem?_append_right (by show 3≤_;omega),show (i+1)*3+k - e.cv.length=i*3+k by show (i+1)*3+k - 3=_;omega];exact qcb_ (by simpa using hi) h
theorem QaH_ {l:List Value} {j:Nat} {v:Value} (h:j<l.length):l.take j++[v]++l.drop (j+[v].length)=l.set j v:=by
 rw [List.set_eq_take_append_cons_drop,if_pos h];simp
theorem Zdf_ {es:List NE} {b cap:Nat} {sp:List Value} {L:List za_} (h1:es.length≤cap) (h2:cap≤9223372036854775807) (h4:(neC es++sp).length=cap*3) (h6:es.length*24≤zb_):
  Sub (row b 92 (neC es++sp)::L) (wNs (.slice (some ⟨b,0,none⟩) es.length cap) es::L):=
 (QE_ Zah_ h1 h2 h4).trans (QK_ (Qdf_.2 rfl) h6)
def zcC_ (n:Nat) (H':Heap) (p:Nat) (w:PW) (m:Move) (r:Value) (B:List za_):Prop:=∃w' e,PPlay n w m.Kind m.A m.Works w' e∧r=I e∧B=[Zc_ H' p w']
theorem Zdx_ {W0:World} {H:Heap} {p n:Nat} {s:Value} {w:PW} {m:Move} (hs:SlB Qi_ 3 56 H s m.Works) (hnow:0≤w.now∧w.now≤1073741824) (hk:fits m.Kind) (ha:fits m.A) (hb:¬okMv w m.Kind m.A m.Works.length):
  Ct Tryz.prog 14 #[ptrC p,.agg (m.cv s).toArray] W0 H [Zc_ H p w] (fun r H' B=>zcC_ n H' p w m r B):=by
 obtain ⟨b0,c0,rfl,_,_⟩:=hs.1.shape;refine Ct.go (vs:=[ptrC p,.agg (m.cv (.slice b0 m.Works.length c0)).toArray]) fun R=>?_;refine Qj_ (A:=Zc_ H p w) (σ:=Value×Nat×Value×List NE) (B:=fun a=>[wRow p a.1 a.2.1 (PW.now w) a.2.2.1,wNs a.1 a.2.2.2,bigL (ndP H) a.2.2.2,bigL (ndC H) a.2.2.2,Net.netO H (ptrC a.2.1) (PW.net w),wLog H a.2.2.1 (PW.log w)]) (p:=fun a=>PW.ns w=a.2.2.2.map NE.q) (by repeat (first | exact Has.here | apply Has.there)) (fun h ⟨nv,nb,lv,es,hb,hk⟩=>⟨(nv,nb,lv,es),hk,hb⟩) fun ⟨nv,nb,lv,es⟩ hns=>?_;dsimp only at hns⊢;refine Qs_ nv fun base cap e q1 q2 q3=>?_;subst e;have hln:es.length=w.ns.length:=by rw [hns,List.length_map]
 refine walk ?_;refine qc_ rfl rfl fun p3 _=>?_;refine walk ?_;refine Qg_ rfl rfl (zaB_ (W0:=W0) (H:=H) (p:=p) (nb:=nb) (cap:=cap) (base:=base) (lv:=lv) (w:=w) (m:=m) hln hs hnow hk ha) ?_;rw [decide_eq_false hb];refine walk ?_;refine finB [Zc_ H p w] ?_ (hs:=?_)
 ·exact ⟨w,1,.bad hb,rfl,rfl⟩
 ·refine Sub.trans ?_ (qC_ (nv:= .slice base es.length cap) (nb:=nb) (lv:=lv) hns);exact subA
theorem v114_ {P:Prop} (h:P:=by
 refine Zi_ 21 rfl rfl rfl rfl (by simp) rfl ⟨subA,?_⟩;refine qa_ 22 ?_;refine qa_ 23 ?_;refine qb_ rfl ?_;refine walk ?_;refine qL_ hK ([],es[i].q.cs,4,nilS,H1) ⟨⟨[],hws,rfl,rfl,rfl⟩,hl1⟩ (hs:=?_);exact v32_):P:=h
theorem v43_ {P:Prop} (h:P:=by
 refine Zi_ 21 rfl rfl rfl rfl (by simp) rfl ⟨subA,?_⟩;refine qa_ 22 ?_;refine qa_ 23 ?_;refine qb_ rfl ?_;refine walk ?_;refine qL_ hK (qi_ es[i].q.cs.node (newX es[i].q.cs) (zf_ w.now ws),qd_ es[i].q.cs w.now ws,0,v1,H1) ⟨⟨ws,hws,by unfold saidB;rw [if_neg hne],rfl,by rw [if_neg hne]⟩,hl1⟩):P:=h
theorem qcC_ {W0:World} {H:Heap} {p n i:Nat} {s:Value} {w:PW} {m:Move} (KW:WOk n w) (hs:SlB Qi_ 3 56 H s m.Works) (hnow:0≤w.now∧w.now≤1073741824) (hk:fits m.Kind) (ha:fits m.A) (k1:m.Kind=1) (hai:m.A=i) (hi:i<w.ns.length) (hwl:m.Works.length≤w.ns.length) (hwn:w.ns.length≤1000):
  Ct Tryz.prog 14 #[ptrC p,.agg (m.cv s).toArray] W0 H [Zc_ H p w] (fun r H' B=>zcC_ n H' p w m r B):=by
 have hb:okMv w m.Kind m.A m.Works.length:=by unfold okMv qt_;omega
 obtain ⟨b0,c0,rfl,_,_⟩:=hs.1.shape;refine Ct.go (vs:=[ptrC p,.agg (m.cv (.slice b0 m.Works.length c0)).toArray]) fun R=>?_;refine Qj_ (A:=Zc_ H p w) (σ:=Value×Nat×Value×List NE) (B:=fun a=>[wRow p a.1 a.2.1 (PW.now w) a.2.2.1,wNs a.1 a.2.2.2,bigL (ndP H) a.2.2.2,bigL (ndC H) a.2.2.2,Net.netO H (ptrC a.2.1) (PW.net w),wLog H a.2.2.1 (PW.log w)]) (p:=fun a=>PW.ns w=a.2.2.2.map NE.q) (by repeat (first | exact Has.here | apply Has.there)) (fun h ⟨nv,nb,lv,es,hb,hk⟩=>⟨(nv,nb,lv,es),hk,hb⟩) fun ⟨nv,nb,lv,es⟩ hns=>?_;dsimp only at hns⊢;refine Qs_ nv fun base cap e q1 q2 q3=>?_;subst e;have hln:es.length=w.ns.length:=by rw [hns,List.length_map]
 refine walk ?_;refine qc_ rfl rfl fun p3 _=>?_;refine walk ?_;refine Qg_ rfl rfl (zaB_ (W0:=W0) (H:=H) (p:=p) (nb:=nb) (cap:=cap) (base:=base) (lv:=lv) (w:=w) (m:=m) hln hs hnow hk ha) ?_;rw [decide_eq_true hb];have hil:i<es.length:=by omega
 have hwi:w.ns[i]=es[i].q:=by simp only [hns,List.getElem_map]
 have hmem:=qaL_ hns hil;have IC:=KW.c _ hmem;haveI hin:NatOf m.A i:=⟨hai⟩;refine walk ?_;refine ZcP_ (.slice base es.length cap) (by omega) fun b2 cap2 cs sp e q1 q2 q3 q4 q5 q6=>?_
 cases e
 obtain rfl:=Qdf_.1 q5;have hcp:(neC es++sp)[0+(i:Int).toNat*3+1]?=some (ptrC es[i].cp):=by rw [Nat.zero_add,Int.toNat_natCast];exact qcb_ (k:=1) hil rfl
 refine ex_L (L':=ndC H es[i]::bigL (ndC H) (es.take i++es.drop (i+1))::row b2 92 (neC es++sp)::row p3 37 (m.cv (.slice b0 m.Works.length c0))::wRow p (.slice (some ⟨b2,0,none⟩) es.length cap) nb w.now lv::bigL (ndP H) es::Net.netO H (ptrC nb) w.net::wLog H lv w.log::R) ?_ ?_
 ·refine Sub.trans (B:=bigL (ndC H) es::row b2 92 (neC es++sp)::row p3 37 (m.cv (.slice b0 m.Works.length c0))::wRow p (.slice (some ⟨b2,0,none⟩) es.length cap) nb w.now lv::bigL (ndP H) es::Net.netO H (ptrC nb) w.net::wLog H lv w.log::R) subA (zak_ hil)
 have hnf:fits w.now:=by unfold fits;omega
 have hqn:=KW.n
 refine qaU_ (σ:=List Message×CS×Int×Value×Heap) (fun u=>(∃ws,pq ws=works0 0 m.Works∧u.1=saidB es[i].q.cs w.now ws∧u.2.1=qd_ es[i].q.cs w.now ws∧u.2.2.1=if ws=[] then 4 else 0)∧H.le u.2.2.2.2) (fun u=>[(0,ptrC p),(6,u.2.2.2.1),(7,I u.2.2.1)]) (fun u=>u.2.2.2.2)
  (fun u=>ownS Qa_ 19 216 106 u.2.2.2.2 u.2.2.2.1 u.1::qj_ u.2.2.2.2 es[i].cp u.2.1::bigL (ndC H) (es.take i++es.drop (i+1))::row b2 92 (neC es++sp)::wRow p (.slice (some ⟨b2,0,none⟩) es.length cap) nb w.now lv::bigL (ndP H) es::Net.netO H (ptrC nb) w.net::wLog H lv w.log::R) (fun K hK=>?_) fun ⟨out,cs',ee,v1,H1⟩ ⟨⟨ws,hws,ho,hc',he⟩,hl1⟩=>?_
 ·refine zc_ 24 [row b2 92 (neC es++sp),row p3 37 (m.cv (.slice b0 m.Works.length c0)),wRow p (.slice (some ⟨b2,0,none⟩) es.length cap) nb w.now lv] ?_;refine qa_ 0 ?_;refine qa_ 1 ?_;refine qa_ 2 ?_;refine qa_ 3 ?_;refine qa_ 4 ?_;refine qa_ 5 ?_;refine qdd_ 6 rfl rfl rfl (j:=i) hil ?_;refine qa_ 7 ?_;refine ZaJ_ 8 rfl rfl rfl hcp ?_;refine qa_ 9 ?_;refine qa_ 10 ?_;refine qa_ 11 ?_;refine qa_ 12 ?_;refine qa_ 13 ?_;refine qa_ 14 ?_;have hcall:∀p5:Nat,p5=p5→_:=fun _ _=>(qcA_ (W0:=W0) (H:=H) (p:=es[i].cp) (n:=n) (s:=es[i].q.cs) (l:=m.Works) (now:=w.now) IC (by omega) hnf hs (by omega));refine QaJ_ (A:=[ndC H es[i]]) 15 20 rfl rfl rfl (hcall 0 rfl) (fun r1 H1 B hl1 ⟨ws,hws,hcase⟩=>?_) (fun p5 _=>?_)
  ·rcases hcase with ⟨hw0,er,eB⟩ | ⟨hne,v1,er,eB⟩
   ·subst er eB hw0;refine ⟨subA,?_⟩;refine qa_ 16 ?_;refine Qd_ 17 rfl rfl rfl rfl ?_;refine Qd_ 18 rfl rfl rfl rfl ?_;refine Qd_ 19 rfl rfl rfl rfl ?_;refine Zn_ 20 rfl rfl fun p5 _=>?_;exact v114_
   ·subst er eB;refine ⟨subA,?_⟩;refine qa_ 16 ?_;refine Qd_ 17 rfl rfl rfl rfl ?_;refine Qd_ 18 rfl rfl rfl rfl ?_;refine Qd_ 19 rfl rfl rfl rfl ?_;refine Zn_ 20 rfl rfl fun p5 _=>?_;exact v43_
  ·refine ze_ (A:=[ndC H es[i]]) 15 rfl rfl rfl (hcall 0 rfl) fun r1 H1 B hl1 ⟨ws,hws,hcase⟩=>?_;rcases hcase with ⟨hw0,er,eB⟩ | ⟨hne,v1,er,eB⟩
   ·subst er eB hw0;refine ⟨subA,?_⟩;refine qa_ 16 ?_;refine Qd_ 17 rfl rfl rfl rfl ?_;refine Qd_ 18 rfl rfl rfl rfl ?_;refine Qd_ 19 rfl rfl rfl rfl ?_;exact v114_
   ·subst er eB;refine ⟨subA,?_⟩;refine qa_ 16 ?_;refine Qd_ 17 rfl rfl rfl rfl ?_;refine Qd_ 18 rfl rfl rfl rfl ?_;refine Qd_ 19 rfl rfl rfl rfl ?_;exact v43_
 simp only at ho hc' he hl1;dsimp only;refine zaV_ v1 fun H2 hl2 hso=>?_;refine walk ?_;refine Za_ rfl rfl (qbL_ (W0:=W0) (H:=H2) (H0:=H) (p:=p) (nb:=nb) (nv:= .slice (some ⟨b2,0,none⟩) es.length cap) (lv:=lv) (v:=v1) (now:=w.now) (l:=w.net) (ms:=out) (hl1.trans hl2) hso.1) fun r3 H3 B hl3 eB=>?_;subst eB;refine walk ?_;have hlz:=hl1.trans (hl2.trans hl3)
 have hns3:(setN w i ⟨es[i].q.ps,cs'⟩).ns=(es.set i (es[i].to ⟨es[i].q.ps,cs'⟩)).map NE.q:=by
  show w.ns.set i _=_;rw [hns,List.map_set];rfl
 have hlife:cs'.life=es[i].q.cs.life:=by rw [hc'];unfold qd_;split<;>rfl
 refine finB [Zc_ H3 p {setN w i ⟨es[i].q.ps,cs'⟩ with net:=Qv_ w.net out}] ?_ (hs:=?_)
 ·have hpp:=PPlay.begin (n:=n) (w:=w) (k:=m.Kind) (a:=m.A) (works:=m.Works) k1 i hai hi hwl ws hws;rw [hwi,←hc',←ho,←he] at hpp;exact ⟨_,ee,hpp,rfl,rfl⟩
 ·refine Sub.trans (B:=ndC H1 (es[i].to ⟨es[i].q.ps,cs'⟩)::bigL (ndC H) (es.take i++es.drop (i+1))::bigL (ndP H) es::row b2 92 (neC es++sp)::wRow p (.slice (some ⟨b2,0,none⟩) es.length cap) nb w.now lv::Net.netO H3 (ptrC nb) (Qv_ w.net out)::wLog H lv w.log::R) (by rw [show ndC H1 (es[i].to ⟨es[i].q.ps,cs'⟩)=qj_ H1 es[i].cp cs' from rfl];exact subA) ?_;refine Sub.trans (Sub.cons (ZaA_ hl1)) ?_;refine Sub.trans (Zbu_ (A:=ndC H1) hil) ?_;refine Sub.trans (Sub.cons (qbv_ (A:=ndP H) hil (e:=es[i].to ⟨es[i].q.ps,cs'⟩) fun _ h=>h)) ?_;refine Sub.trans (Sub.cons (Sub.cons (Zdf_ q1 q2 (by rw [List.length_append,Zah_];rw [List.length_append,Zah_] at q4;exact q4) q6))) ?_;refine Sub.trans (Sub.cons (Sub.cons (zcq_ hil (q:=⟨es[i].q.ps,cs'⟩) hlife))) ?_;refine Sub.trans (B:=wRow p (.slice (some ⟨b2,0,none⟩) es.length cap) nb w.now lv::wNs (.slice (some ⟨b2,0,none⟩) es.length cap) (es.set i (es[i].to ⟨es[i].q.ps,cs'⟩))::bigL (ndP H) (es.set i (es[i].to ⟨es[i].q.ps,cs'⟩))::bigL (ndC H1) (es.set i (es[i].to ⟨es[i].q.ps,cs'⟩))::Net.netO H3 (ptrC nb) (Qv_ w.net out)::wLog H lv w.log::R) subA ?_;exact zC_ (w:={setN w i ⟨es[i].q.ps,cs'⟩ with net:=Qv_ w.net out}) hns3 hlz (hl2.trans hl3) (.refl _) hlz
end Go.Proofs.YtlflbkpmfhhikaaGreatDoor
