/- Done and Load, walked. -/
import Derived.Test.YtlflbkpmfhhikaaGreatDoorJKD
import Derived.Test.YtlflbkpmfhhikaaGreatDoorJMR
import Derived.Test.YtlflbkpmfhhikaaGreatDoorJQG
import Derived.Test.YtlflbkpmfhhikaaGreatDoorJTS
set_option linter.unusedVariables false
set_option linter.unusedSimpArgs false
namespace Go.Proofs.YtlflbkpmfhhikaaGreatDoor
open Go Go.Sx Go.Proofs
theorem zbr_ (s:PS) (m:Message):
  (Qk_ s m=[]∧Qh_ s m=[]∧∀cs,Qm_ s m cs=s)∨
  (forMe s m∧m.Kind=1∧¬isD s m.Txn∧isP s m.Txn∧Qk_ s m=[qai_ s m true]∧Qh_ s m=[]∧∀cs,Qm_ s m cs=s)∨
  (forMe s m∧m.Kind=1∧¬isD s m.Txn∧¬isP s m.Txn∧QE_ s.t m.Txn m.Work=0∧Qk_ s m=[qai_ s m true]∧Qh_ s m=[recP m]∧∀cs,Qm_ s m cs=⟨s.sh,zU_ s.t m.Txn m.Work cs,s.done⟩)∨
  (forMe s m∧m.Kind=1∧¬isD s m.Txn∧¬isP s m.Txn∧QE_ s.t m.Txn m.Work≠0∧Qk_ s m=[qai_ s m false]∧Qh_ s m=[]∧∀cs,Qm_ s m cs=s)∨
  (forMe s m∧m.Kind=3∧isP s m.Txn∧Qk_ s m=[ackM s m]∧Qh_ s m=[recA m]∧∀cs,Qm_ s m cs=⟨s.sh,Qx_ s.t m.Txn m.Yes,if m.Yes=true then mset m.Txn.k (Zy_ s m.Txn) s.done else s.done⟩)∨
  (forMe s m∧m.Kind=3∧¬isP s m.Txn∧Qk_ s m=[ackM s m]∧Qh_ s m=[]∧∀cs,Qm_ s m cs=s):=by
 unfold Qk_ Qh_ Qm_;by_cases hf:forMe s m
 ·have hf':¬¬forMe s m:=fun h=>h hf;simp only [if_neg hf'];by_cases k:m.Kind=1
  ·simp only [if_pos k];by_cases hd:isD s m.Txn
   ·simp only [if_pos hd];exact .inl ⟨(by first | rfl | trivial),(by first | rfl | trivial),(by first | exact fun _=>rfl | trivial | simp)⟩
   ·simp only [if_neg hd];by_cases hp:isP s m.Txn
    ·simp only [if_pos hp];exact .inr (.inl ⟨hf,k,hd,hp,by rw [decide_eq_true (p:=_∨_) (.inl hp)],(by first | rfl | trivial),(by first | exact fun _=>rfl | trivial | simp)⟩)
    ·simp only [if_neg hp];by_cases he:QE_ s.t m.Txn m.Work=0
     ·simp only [if_pos he];exact .inr (.inr (.inl ⟨hf,k,hd,hp,he,by rw [decide_eq_true (p:=_∨_) (.inr he)],(by first | rfl | trivial),(by first | exact fun _=>rfl | trivial | simp)⟩))
     ·simp only [if_neg he];exact .inr (.inr (.inr (.inl ⟨hf,k,hd,hp,he,by rw [decide_eq_false (p:=_∨_) (fun h=>h.elim hp he)],(by first | rfl | trivial),(by first | exact fun _=>rfl | trivial | simp)⟩)))
  ·simp only [if_neg k];by_cases k3:m.Kind=3
   ·simp only [if_pos k3];by_cases hp:isP s m.Txn
    ·simp only [if_pos hp];exact .inr (.inr (.inr (.inr (.inl ⟨hf,k3,hp,(by first | rfl | trivial),(by first | rfl | trivial),(by first | exact fun _=>rfl | trivial | simp)⟩))))
    ·simp only [if_neg hp];exact .inr (.inr (.inr (.inr (.inr ⟨hf,k3,hp,(by first | rfl | trivial),(by first | rfl | trivial),(by first | exact fun _=>rfl | trivial | simp)⟩))))
   ·simp only [if_neg k3];exact .inl ⟨(by first | rfl | trivial),(by first | rfl | trivial),(by first | exact fun _=>rfl | trivial | simp)⟩
 ·simp only [if_pos hf];exact .inl ⟨(by first | rfl | trivial),(by first | rfl | trivial),(by first | exact fun _=>rfl | trivial | simp)⟩
theorem qdG_ {s:PS} {x:Txn} {yes:Bool} {n:Nat} (I:PInv n s) (k:K3):gW (Qx_ s.t x yes) k=if k=x.k then none else gW s.t k:=by
 unfold Qx_;by_cases hp:(mget x.k s.t.works).isSome=true
 ·rw [if_pos hp];exact zaU_ I.t.wd k
 ·rw [if_neg hp];split
  ·next e=>
   subst e;unfold gW
   cases hm:mget x.k s.t.works with
   | none=>rfl
   | some v=>rw [hm] at hp;exact absurd rfl hp
  ·rfl
def Qba_ (t:TS):List (K3×Int)→List PartDone→Option (List (K3×Int))
  | m,[]=>some m
  | m,d::l=>if (mget d.Txn.k m).isSome=true∨(mget d.Txn.k t.works).isSome=true then none else Qba_ t (mset d.Txn.k d.Until m) l
theorem zcz_ {t:TS}:∀{l:List PartDone} {m:List (K3×Int)},(l.map (·.Txn.k)).Nodup→(m.map (·.1)).Nodup→(∀d∈l,mget d.Txn.k m=none∧¬(mget d.Txn.k t.works).isSome=true)→
  ∃m',Qba_ t m l=some m'∧(m'.map (·.1)).Nodup∧(∀d∈l,mget d.Txn.k m'=some d.Until)∧(∀k,(∀d∈l,d.Txn.k≠k)→mget k m'=mget k m)∧m'.length≤m.length+l.length
 | [],m,_,hm,_=>⟨m,rfl,hm,fun d hd=>(by cases hd),fun k _=>rfl,by simp⟩
 | d::l,m,hn,hm,hh=>by
  simp only [List.map_cons,List.nodup_cons] at hn;obtain ⟨h1,h2⟩:=hh d (List.mem_cons_self ..);have hne:∀e∈l,e.Txn.k≠d.Txn.k:=fun e he e1=>hn.1 (List.mem_map.2 ⟨e,he,e1⟩);obtain ⟨m',g1,g2,g3,g4,g5⟩:=zcz_ (t:=t) (l:=l) (m:=mset d.Txn.k d.Until m) hn.2 (qj_ hm) fun e he=>⟨by rw [Qe_,if_neg (hne e he)];exact (hh e (List.mem_cons_of_mem _ he)).1,(hh e (List.mem_cons_of_mem _ he)).2⟩;refine ⟨m',?_,g2,fun e he=>?_,fun k hk=>?_,?_⟩
  ·rw [Qba_,if_neg (fun h=>h.elim (fun h=>by rw [h1] at h;cases h) h2)];exact g1
  ·rcases List.mem_cons.1 he with rfl | he
   ·rw [g4 _ hne,Qe_,if_pos rfl]
   ·exact g3 e he
  ·rw [g4 k fun e he=>hk e (List.mem_cons_of_mem _ he),Qe_,if_neg fun e=>hk d (List.mem_cons_self ..) e.symm]
  ·rw [ZF_] at g5;simp only [List.length_cons];split at g5<;>omega
theorem ZbL_ {s:PS}:(qaR_ s).length=s.done.length:=by unfold qaR_;rw [List.length_map,qC_,List.length_map]
theorem Zba_ {s:PS} (hn:(s.done.map (·.1)).Nodup) {d:PartDone}:d∈qaR_ s↔mget d.Txn.k s.done=some d.Until:=by
 refine Iff.trans ?_ ((qap_ hn).mem (toR d));rw [List.mem_map];constructor
 ·exact fun h=>⟨d,h,rfl⟩
 ·rintro ⟨e,he,h⟩
  have:e=d:=by
   obtain ⟨e1,e2⟩:=e;obtain ⟨d1,d2⟩:=d;simp only [toR,Convoyref15Done.mk.injEq] at h;rw [h.1,h.2]
  rw [←this];exact he
theorem Qcg_ {s:PS} (hn:(s.done.map (·.1)).Nodup):((qaR_ s).map (·.Txn.k)).Nodup:=by
 have h:=(qap_ hn).rise;rw [List.pairwise_map] at h;rw [List.nodup_iff_pairwise_ne,List.pairwise_map];refine h.imp fun {a b} hab e=>?_;have hab':ltK a.Txn.k b.Txn.k:=hab;rw [e] at hab';exact QC_ hab'
theorem qdg_ {n n':Nat} {s:PS} {t:TS} (I:PInv n s) (ht:∀k,gW t k=gW s.t k):∃m',Qba_ t [] (qaR_ s)=some m'∧(m'.map (·.1)).Nodup∧(∀k,mget k m'=mget k s.done)∧m'.length≤n:=by
 obtain ⟨m',g1,g2,g3,g4,g5⟩:=zcz_ (t:=t) (l:=qaR_ s) (m:=[]) (Qcg_ I.dd) (by simp) fun d hd=>⟨rfl,fun h=>by
  have h1:=I.ap _ _ ((Zba_ I.dd).1 hd);have h2:=ZbD_.1 h;exact h2 ((ht _).trans h1)⟩
 refine ⟨m',g1,g2,fun k=>?_,?_⟩
 ·cases hk:mget k s.done with
  | none=>
   refine (g4 k fun d hd e=>?_).trans rfl;have:=(Zba_ I.dd).1 hd;rw [e,hk] at this;cases this
  | some v=>
   have:=g3 ⟨toTx k,v⟩ ((Zba_ I.dd).2 (by show mget (toTx k).k s.done=some v;rw [QD_];exact hk));rwa [show (PartDone.mk (toTx k) v).Txn.k=k from QD_ k] at this
 ·have:=I.dn;rw [ZbL_] at g5;simpa using Nat.le_trans g5 (by simpa using this)
theorem PSpec.ext {l:List Rec} {f g:K3→Option Work} (h:PSpec l f) (h':PSpec l g) (k:K3):f k=g k:=by
 have key:∀{f g:K3→Option Work},PSpec l f→PSpec l g→∀{k w},f k=some w→g k=some w:=fun {f g} h h' {k w} hf=>by
  have hm:=(h.mem (recW (toTx k) w)).2 ⟨w,by show f (toTx k).k=some w;rw [QD_];exact hf,rfl⟩;obtain ⟨w',h1,h2⟩:=(h'.mem _).1 hm;have h1':g (toTx k).k=some w':=h1;rw [QD_] at h1';have:w=w':=congrArg Rec.Work h2;rw [this];exact h1'
 cases hf:f k with
 | some w=>exact (key h h' hf).symm
 | none=>
  cases hg:g k with
  | none=>rfl
  | some w=>rw [key h' h hg] at hf;cases hf
theorem zdG_ {n:Nat} {s:TS} (I:Inv n s):Rel s ⟨qx_ s,prepL s⟩:=⟨zav_ I.hd,ZP_ I.wd⟩
theorem PInv.loaded {n:Nat} {s:PS} {m:Part} {t':TS} {d':List (K3×Int)} (I:PInv n s) (r:PRel s m) (hi:Inv n t') (hr:Rel t' m.T) (hn:(d'.map (·.1)).Nodup) (hd:∀k,mget k d'=mget k s.done) (hl:d'.length≤n):PInv n ⟨s.sh,t',d'⟩∧PRel ⟨s.sh,t',d'⟩ m:=by
 have hw:=hr.p.ext r.r.p;refine ⟨⟨hi,hn,hl,fun x v hx=>I.dv x v (by rw [←hd];exact hx),fun x v hx=>?_,I.sh⟩,⟨r.sh,hr,r.d.congr fun k=>(hd k).symm⟩⟩;show gW t' x=none;rw [hw];exact I.ap x v (by rw [←hd];exact hx)
end Go.Proofs.YtlflbkpmfhhikaaGreatDoor
set_option maxHeartbeats 16000000
set_option maxRecDepth 100000
namespace Go.Proofs.YtlflbkpmfhhikaaGreatDoor
open Go Go.Sx Go.Proofs
theorem PInv.dfit {n:Nat} {s:PS} (h:PInv n s) (k:K3):fits ((mget k s.done).getD 0):=by
 cases hg:mget k s.done with
 | none=>exact qh_
 | some v=>exact (h.dv k v hg).2
theorem qcS_ {W0:World} {H Ht Hd:Heap} {p n tp db:Nat} {s:PS} (I0:PInv n s) (hn:n≤1000) (hlt:Ht.le H) (hld:Hd.le H):
  Ct Tryz.prog 73 #[.pointer (some ⟨p,0,none⟩)] W0 H [pRow p tp s.sh db,tabO Ht tp s.t,dMap Hd db s] (fun r H' B=>B=[ownS Qaf_ 4 32 228 H' r (qaR_ s),pRow p tp s.sh db,tabO Ht tp s.t,dMap Hd db s]):=by
 refine Ct.go (vs:=[.pointer (some ⟨p,0,none⟩)]) fun R=>?_;have hwf:∀q∈s.done,fits q.1.1∧fits q.1.2.1∧fits q.1.2.2:=fun q hq=>(I0.dv q.1 q.2 (zi_ I0.dd hq)).1;have hdn:=I0.dn;refine walk ?_;refine Za_ rfl rfl Zdw_ fun r1 H1 B hl1 ⟨pk,er,eB,eH⟩=>?_;subst er eB eH;have hc:=Zcq_ (W0:=W0) (H:=H1) (H0:=Hd) (RV:=rInt) (ag:=false) (p:=pk) (b:=db) (ms:=s.done) hwf (by simp only [Qb_];omega);refine Za_ rfl rfl hc fun r2 H2 B hl2 ⟨eB,eH⟩=>?_;subst eB eH;have hlen:(sort3 (s.done.map (·.1))).length=s.done.length:=by rw [qC_,List.length_map]
 have hmem:∀k∈sort3 (s.done.map (·.1)),fits k.1∧fits k.2.1∧fits k.2.2:=fun k hk=>by
  obtain ⟨q,hq,rfl⟩:=List.mem_map.1 (QM_.1 hk);exact hwf q hq
 unfold qaR_;generalize sort3 (s.done.map (·.1))=ks at*;refine Zc_ r2 fun H3 hl3 hsl=>?_;obtain ⟨b0,c0,rfl,hc0,hd0⟩:=hsl.1.shape;have hlx:(ks.map toTx).length=ks.length:=by simp
 refine walk ?_
 refine Qc_ (σ:=Nat×Option Addr×Nat) (fun u=>u.1≤ks.length) (fun u=>[(0,.pointer (some ⟨p,0,none⟩)),(11,.slice b0 (ks.map toTx).length c0),(12,I (ks.map toTx).length),(13,I u.1),(3,.slice u.2.1 ((ks.take u.1).map (ZR_ s)).length u.2.2)]) (fun _=>H3)
  (fun u=>ownS Qaf_ 4 32 228 H3 (.slice u.2.1 ((ks.take u.1).map (ZR_ s)).length u.2.2) ((ks.take u.1).map (ZR_ s))::pRow p tp s.sh db::tabO Ht tp s.t::dMap Hd db s::R) (fun u=>ks.length - u.1) (0,none,0) (Nat.zero_le _) (hs0:=?_) fun ⟨k,d,e⟩ hk0 K hL=>?_
 rotate_left
 ·exact v144_
 simp only at hk0;dsimp only;have hll:((ks.take k).map (ZR_ s)).length=k:=by simp;omega
 refine walk ?_;refine ze_ rfl (fun hk=>?_) (fun hk=>?_)
 ·have hk1:k<ks.length:=by omega
  have ht:=List.take_succ_eq_append_getElem hk1;refine walk ?_;refine Zd_ rfl rfl hsl.1 (show k<(ks.map toTx).length by simpa using hk1) fun b o c hr hc=>?_;have hx:(ks.map toTx)[k]'(by simpa using hk1)=toTx ks[k]:=by simp
  rw [hx] at hc;have hkm:=hmem ks[k] (List.getElem_mem hk1);have hfd:=I0.dfit ks[k];have hse:(ks.take k).map (ZR_ s)++[ZR_ s ks[k]]=(ks.take (k+1)).map (ZR_ s):=by rw [ht,List.map_append];rfl
  have hsl2:((ks.take k).map (ZR_ s)).length+1=((ks.take (k+1)).map (ZR_ s)).length:=by rw [←hse];simp
  obtain ⟨rfl,_⟩:=hc;generalize ks[k]=kk at*;obtain ⟨ka,kb,kc⟩:=kk;dsimp only at hkm;change HRow H3 b o [I ka,I kb,I kc] at hr;refine walk ?_;refine zf_ rfl rfl hr rfl ?_;refine zb_ rfl fun p5 _=>?_;refine walk ?_;refine zc_ 11 [pRow p tp s.sh db,row p5 47 [I ka,I kb,I kc],dMap Hd db s] ?_;refine qa_ 0 ?_;refine qa_ 1 ?_;refine qa_ 2 ?_;refine qa_ 3 ?_;refine qa_ 4 ?_;refine qa_ 5 ?_;refine qa_ 6 ?_;refine qck_ (RV:=rInt) (ag:=false) (z:=0) 7 rfl rfl rfl (by repeat (first | exact Has.here | apply Has.there)) ?_;refine qa_ 8 ?_;refine zx_ (y:=ZR_ s (ka,kb,kc)) 9 10 rfl rfl rfl ⟨rfl,hkm.1,hkm.2.1,hkm.2.2,hfd⟩ (by rw [hll];simp only [Qb_];omega) fun d3 e3=>⟨subA,?_⟩;rw [hsl2,hse];refine qb_ rfl ?_;exact v76_
 ·clear hL;obtain rfl:k=ks.length:=by omega
  refine walk ?_;rw [List.take_length] at*;refine finB [ownS Qaf_ 4 32 228 H3 (.slice d (ks.map (ZR_ s)).length e) (ks.map (ZR_ s)),pRow p tp s.sh db,tabO Ht tp s.t,dMap Hd db s] ?_;exact rfl
def Zer_ (sh:Int) (s':TS) (dones:List PartDone) (p:Nat) (r:Value) (H':Heap) (B:List za_):Prop:=
  (Qba_ s' [] dones=none∧r= .tuple #[nilP,I 2]∧B=[])∨∃d,Qba_ s' [] dones=some d∧r= .tuple #[.pointer (some ⟨p,0,none⟩),I 0]∧B=[Zn_ H' p ⟨sh,s',d⟩]
theorem zcS_ {W0:World} {H:Heap} {sh:Int} {v1 v2 v3:Value} {holds:List Hold} {prep:List Rec} {dones:List PartDone} (h1:SlB Zae_ 2 24 H v1 holds) (h2:SlB rRec 9 120 H v2 prep) (h3:SlB Qaf_ 4 32 H v3 dones) (hp:prep.length≤1000000) (hw:∀q∈prep,q.Work.ks.length*16≤Qb_)
  (hok:∀s' a',LoadP (zaf_ holds) (ZM_ [] 0 holds).2 prep s' a'→qcm_ a' prep=0∧TsOk s'∧(s'.works.map (·.1)).Nodup):
  Ct Tryz.prog 72 #[I sh,v1,v2,v3] W0 H [] (fun r H' B=>∃s' a' p,LoadP (zaf_ holds) (ZM_ [] 0 holds).2 prep s' a'∧Zer_ sh s' dones p r H' B):=by
 refine Ct.go (vs:=[I sh,v1,v2,v3]) fun R=>?_;obtain ⟨b1,c1,rfl,hc1,hd1⟩:=h1.1.shape;obtain ⟨b2,c2,rfl,hc2,hd2⟩:=h2.1.shape;obtain ⟨b3,c3,rfl,hc3,hd3⟩:=h3.1.shape;refine walk ?_;refine Za_ rfl rfl (Qdo_ (W0:=W0) (H:=H) h1 h2 hp hw) fun r1 H1 B hl1 ⟨s',a',tp,hLP,hlast⟩=>?_;obtain ⟨g1,g2,g3⟩:=hok s' a' hLP;rw [if_pos g1] at hlast;obtain ⟨er,eB⟩:=hlast;subst er eB;refine walk ?_;refine Qt_ ek3 rInt false rfl fun db _=>?_;refine walk ?_;refine qc_ rfl rfl fun p _=>?_;refine walk ?_;generalize hT:Qba_ s' [] dones=T;refine Qc_ (σ:=Nat×List (K3×Int)×Heap) (fun u=>u.1≤dones.length∧Qba_ s' u.2.1 (dones.drop u.1)=T∧H1.le u.2.2) (fun u=>[(12,.pointer (some ⟨p,0,none⟩)),(31,.slice b3 dones.length c3),(32,I dones.length),(33,I u.1)]) (fun u=>u.2.2) (fun u=>Zn_ u.2.2 p ⟨sh,s',u.2.1⟩::R) (fun u=>dones.length - u.1) (0,[],H1) ⟨Nat.zero_le _,hT,.refl _⟩ (hs0:=?_) fun ⟨k,d,HK⟩ ⟨hk0,hF,hlK⟩ K hL=>?_
 rotate_left
 ·refine Sub.trans ?_ (qq_ (H1:=H1) (H2:=H1) (tp:=tp) (db:=db) (.refl _) (.refl _));exact subA
 simp only at hk0 hF hlK;dsimp only;refine walk ?_;refine ze_ rfl (fun hk=>?_) (fun hk=>?_)
 ·have hk1:k<dones.length:=by omega
  rw [List.drop_eq_getElem_cons hk1] at hF;unfold Qba_ at hF;refine Zg_ (A:=Zn_ HK p ⟨sh,s',d⟩) (σ:=Nat×Nat) (B:=fun a=>[pRow p a.1 (PS.sh ⟨sh,s',d⟩) a.2,tabO HK a.1 (PS.t ⟨sh,s',d⟩),dMap HK a.2 ⟨sh,s',d⟩]) (p:=fun _=>True) (by repeat (first | exact Has.here | apply Has.there)) (fun h ⟨tp,db,hbig⟩=>⟨(tp,db),trivial,hbig⟩) fun ⟨tp,db⟩ _=>?_;dsimp only;refine walk ?_;refine Zd_ rfl rfl (h3.mono (hl1.trans hlK)).1 hk1 fun b o c hr hc=>?_;obtain ⟨rfl,hc1,hc2,hc3,hc4⟩:=hc;generalize dones[k]=q at hr hc1 hc2 hc3 hc4 hF;obtain ⟨⟨x1,x2,x3⟩,du⟩:=q;dsimp only at hr hc1 hc2 hc3 hc4 hF;change HRow HK b o [I x1,I x2,I x3,I du] at hr;refine walk ?_;refine zf_ rfl rfl hr rfl ?_;refine zb_ rfl fun p14 _=>?_;refine walk ?_;refine Zap_ (RV:=rInt) (ag:=false) (z:=0) rfl rfl (by repeat (first | exact Has.here | apply Has.there)) ?_;dsimp only;change (if (mget (x1,x2,x3) d).isSome=true∨(mget (x1,x2,x3) s'.works).isSome=true then none else Qba_ s' (mset (x1,x2,x3) du d) (dones.drop (k+1)))=T at hF;by_cases htw:(mget (x1,x2,x3) d).isSome=true
  ·rw [if_pos (.inl htw)] at hF;rw [htw];refine walk ?_;refine fin0 ?_;exact ⟨s',a',0,hLP,.inl ⟨by rw [hT,hF],rfl,rfl⟩⟩
  have htw':(mget (x1,x2,x3) d).isSome=false:=by simpa using htw
  rw [htw'];refine walk ?_;refine Zw_ (L':=Zn_ HK p ⟨sh,s',d⟩::row p14 228 [I x1,I x2,I x3,I du]::R) ?_ ?_
  ·refine Sub.trans ?_ (qq_ (H1:=HK) (H2:=HK) (tp:=tp) (db:=db) (.refl _) (.refl _));exact subA
  refine Za_ rfl rfl (zdw_ (W0:=W0) (H:=HK) (p:=p) (s:=⟨sh,s',d⟩) (x:=⟨x1,x2,x3⟩) g2 g3) fun r2 H2 B hl2 ⟨er,eB⟩=>?_;subst er eB;refine walk ?_;refine ze_ rfl (fun hq=>?_) (fun hq=>?_)
  ·have hq':(mget (x1,x2,x3) s'.works).isSome=true:=hq;rw [if_pos (.inr hq')] at hF;refine walk ?_;refine fin0 ?_;exact ⟨s',a',0,hLP,.inl ⟨by rw [hT,hF],rfl,rfl⟩⟩
  have hq':¬(mget (x1,x2,x3) s'.works).isSome=true:=hq;rw [if_neg (fun h=>h.elim htw hq')] at hF;refine Zg_ (A:=Zn_ H2 p ⟨sh,s',d⟩) (σ:=Nat×Nat) (B:=fun a=>[pRow p a.1 (PS.sh ⟨sh,s',d⟩) a.2,tabO H2 a.1 (PS.t ⟨sh,s',d⟩),dMap H2 a.2 ⟨sh,s',d⟩]) (p:=fun _=>True) (by repeat (first | exact Has.here | apply Has.there)) (fun h ⟨tp,db,hbig⟩=>⟨(tp,db),trivial,hbig⟩) fun ⟨tp,db⟩ _=>?_;dsimp only;refine walk ?_;refine zc_ 8 [pRow p tp sh db,row p14 228 [I x1,I x2,I x3,I du]] ?_;refine qa_ 0 ?_;refine qa_ 1 ?_;refine qa_ 2 ?_;refine qa_ 3 ?_;refine qa_ 4 ?_;refine qa_ 5 ?_;refine qa_ 6 ?_;refine qa_ 7 ?_;refine qb_ rfl ?_;refine Zu_ (RV:=rInt) (ag:=false) (cs:=[I du]) (u:=du) rfl rfl ⟨rfl,hc4⟩ (by repeat (first | exact Has.here | apply Has.there)) ?_;refine walk ?_;refine Zb_ hL (k+1,mset (x1,x2,x3) du d,H2) ⟨by simp only;omega,hF,hlK.trans hl2⟩ (hs:=?_);refine Sub.trans ?_ (qq_ (H1:=H2) (H2:=H2) (tp:=tp) (db:=db) (.refl _) (.refl _));exact subA
 ·clear hL;obtain rfl:k=dones.length:=by omega
  rw [List.drop_length] at hF;unfold Qba_ at hF;refine walk ?_;refine finB [Zn_ HK p ⟨sh,s',d⟩] ?_;exact ⟨s',a',p,hLP,.inr ⟨d,by rw [hT,hF],rfl,rfl⟩⟩
end Go.Proofs.YtlflbkpmfhhikaaGreatDoor
