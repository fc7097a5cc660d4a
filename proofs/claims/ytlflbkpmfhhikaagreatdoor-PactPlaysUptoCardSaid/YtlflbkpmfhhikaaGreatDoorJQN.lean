/- The reference's participant: Ask, Expire. -/
import Derived.Test.YtlflbkpmfhhikaaGreatDoorJLO
import Derived.Test.YtlflbkpmfhhikaaGreatDoorJMC
import Derived.Test.YtlflbkpmfhhikaaGreatDoorJMR
import Derived.Test.YtlflbkpmfhhikaaGreatDoorJQA
import Derived.Test.YtlflbkpmfhhikaaGreatDoorJTS
set_option linter.unusedVariables false
set_option linter.unusedSimpArgs false
namespace Go.Proofs.YtlflbkpmfhhikaaGreatDoor
open Go Go.Sx Go.Proofs
abbrev pRow (p tp:Nat) (sh:Int) (db:Nat):za_:=row p 122 [.pointer (some ⟨tp,0,none⟩),I sh,.map (some db)]
abbrev dMap (H:Heap) (db:Nat) (s:PS):za_:=mapO ek3 rInt false H db s.done
def Zn_ (H:Heap) (p:Nat) (s:PS):za_:=fun h=>∃tp db,big [pRow p tp s.sh db,tabO H tp s.t,dMap H db s] h
theorem ZbW_ {H:Heap} {p tp db:Nat} {s:PS} {L:List za_}:Sub (pRow p tp s.sh db::tabO H tp s.t::dMap H db s::L) (Zn_ H p s::L):=
 Zab_ (B:=[pRow p tp s.sh db,tabO H tp s.t,dMap H db s]) (Sub.refl _) fun h hb=>⟨tp,db,hb⟩
theorem d_up {H H':Heap} {db:Nat} {l:List (K3×Int)} {L:List za_} (hl:H.le H'):Sub (mapO ek3 rInt false H db l::L) (mapO ek3 rInt false H' db l::L):=ZaI_ hl
theorem Qdv_ {H H':Heap} {p:Nat} {s:PS} {L:List za_} (hl:H.le H'):Sub (Zn_ H p s::L) (Zn_ H' p s::L):=fun h ⟨h1,h2,⟨tp,db,hbig⟩,r⟩=>by
 refine ⟨h1,h2,⟨tp,db,?_⟩,r⟩;obtain ⟨a1,a2,x1,⟨b1,b2,x2,y2,z2⟩,z1⟩:=hbig;have k:=zai_ (L:=[dMap H db s]) hl _ ⟨b1,b2,x2,y2,z2⟩;obtain ⟨c1,c2,u1,u2,u3⟩:=k;exact ⟨a1,a2,x1,⟨c1,c2,u1,(d_up (L:=[]) hl _ (by exact u2)),u3⟩,z1⟩
theorem qq_ {H1 H2 H':Heap} {p tp db:Nat} {sh:Int} {t:TS} {d:List (K3×Int)} {L:List za_} (h1:H1.le H') (h2:H2.le H'):Sub (pRow p tp sh db::tabO H1 tp t::mapO ek3 rInt false H2 db d::L) (Zn_ H' p ⟨sh,t,d⟩::L):=
 Sub.trans (Sub.cons (Sub.trans (zai_ h1) (Sub.cons (d_up h2)))) (ZbW_ (s:=⟨sh,t,d⟩))
theorem Zdv_ {W0:World} {H:Heap} {sh:Int} (hsh:fits sh):
  Ct Tryz.prog 33 #[I sh] W0 H [] (fun r H' B=>∃p,r= .pointer (some ⟨p,0,none⟩)∧B=[Zn_ H p ⟨sh,⟨[],[],[]⟩,[]⟩]∧H'=H):=by
 refine Ct.go (vs:=[I sh]) fun R=>?_;refine walk ?_;refine Za_ (vs:=[]) rfl rfl new_spec fun r1 H1 B hl1 ⟨tp,er,eB,eH⟩=>?_;subst er eB eH;refine walk ?_;refine Qt_ ek3 rInt false rfl fun db _=>?_;refine walk ?_;refine qc_ rfl rfl fun p _=>?_;refine walk ?_;refine finB [Zn_ H1 p ⟨sh,⟨[],[],[]⟩,[]⟩] ?_ (hs:=?_)
 ·exact ⟨p,rfl,rfl,rfl⟩
 ·refine Sub.trans ?_ (ZbW_ (tp:=tp) (db:=db) (s:=⟨sh,⟨[],[],[]⟩,[]⟩));exact subA
theorem qdw_ {W0:World} {H:Heap} {c:List Value} {m:Work} (h0:zj_ H c m):
  Ct Tryz.prog 102 #[.agg c.toArray] W0 H [] (fun r H' B=>∃cs,r= .agg cs.toArray∧zj_ H' cs m∧B=[]):=by
 exact v16_
theorem tx_ext {a b:Txn}:a=b↔a.Node=b.Node∧a.Life=b.Life∧a.Count=b.Count:=by cases a;cases b;simp
theorem qes_ {W0:World} {H:Heap} {p:Nat} {x:Txn}:Asks Tryz.prog W0 H rRec 132 [.pointer (some ⟨p,0,none⟩)] (fun c=> .agg c.toArray) [row p 47 [I x.Node,I x.Life,I x.Count]] (fun q=>decide (q.Txn=x)):=by
 intro c q hc;refine Ct.go (vs:=[.agg c.toArray,.pointer (some ⟨p,0,none⟩)]) fun R=>?_;obtain ⟨s1,s2,s3,rfl,g1,g2,g3,g4,g5,g6,g7,g8⟩:=hc;obtain ⟨b1,c1,rfl,_,_⟩:=g6.1.shape;obtain ⟨b2,c2,rfl,_,_⟩:=g7.1.shape;obtain ⟨b3,c3,rfl,_,_⟩:=g8.1.shape;obtain ⟨x1,x2,x3⟩:=x;refine walk ?_;refine qc_ rfl rfl fun p2 _=>?_;refine walk ?_;refine finB [row p 47 [I x1,I x2,I x3]] ?_;exact ⟨bdec tx_ext.symm,rfl,rfl⟩
theorem Qcq_ {W0:World} {H HS:Heap} {v:Value} {xs:List Rec} {f:FuncId} {cap:List Value} {a:za_} {p:Rec→Bool} [hf:TFn Tryz.prog f] (hl:HS.le H) (hask:Asks Tryz.prog W0 H rRec f cap (fun c=> .agg c.toArray) [a] p):
  Ct Tryz.prog 155 #[v,.func (.func f) #[] cap.toArray] W0 H [ownS rRec 9 120 53 HS v xs,a]
   (fun r H' B=>B=[ownS rRec 9 120 53 HS v xs,a]∧H'=H∧∃j,j≤xs.length∧(∀i (h:i<xs.length),i<j→p xs[i]=false)∧((j=xs.length∧r=I (-1))∨(∃h:j<xs.length,p xs[j]=true∧r=I j))):=by
 refine Ct.go fun R=>?_;refine qs_ v fun base cp e q1 q2 q3=>?_;subst e;refine walk ?_;refine Qc_ (fun k=>k≤xs.length∧∀i (h:i<xs.length),i<k→p xs[i]=false) (fun k=>[(0,.slice base xs.length cp),(1,.func (.func f) #[] cap.toArray),(7,I xs.length),(8,I k)]) (fun _=>H) (fun _=>ownS rRec 9 120 53 HS (.slice base xs.length cp) xs::a::R) (fun k=>xs.length - k) 0 ⟨Nat.zero_le _,fun i _ h=>by omega⟩ fun k ⟨hk0,hno⟩ K hL=>?_;refine walk ?_;refine ze_ rfl (fun hk=>?_) (fun hk=>?_)
 ·have hk1:k<xs.length:=by omega
  refine walk ?_;refine qaY_ rfl rfl rfl hk1 fun c hc=>?_;refine zL_ rfl rfl rfl (hask c _ (RdOk.mono hl hc)) fun r H' B hl' ⟨er,eB,eH⟩=>?_;subst er eB eH;refine walk ?_;refine zF_ rfl Iff.rfl (fun hp=>?_) (fun hp=>?_)
  ·refine walk ?_;refine finB [ownS rRec 9 120 53 HS (.slice base xs.length cp) xs,a] ?_;exact v110_
  ·exact v51_
 ·refine walk ?_;refine finB [ownS rRec 9 120 53 HS (.slice base xs.length cp) xs,a] ?_;exact v73_
theorem Zee_ {s:PS} {x:Txn} (hn:(s.t.works.map (·.1)).Nodup):isP s x↔∃q∈prepL s.t,q.Txn=x:=by
 have hp:=ZP_ hn;constructor
 ·intro h;obtain ⟨w,hw⟩:=Zah_.1 h;exact ⟨recW x w,(hp.mem _).2 ⟨w,hw,rfl⟩,rfl⟩
 ·rintro ⟨q,hq,rfl⟩;obtain ⟨w,hw,_⟩:=(hp.mem q).1 hq;exact Zah_.2 ⟨w,hw⟩
theorem ZbG_ {W0:World} {H HS:Heap} {v:Value} {xs:List Rec} {p:Nat} {x:Txn} (hl:HS.le H):
  Ct Tryz.prog 131 #[v,.func (.func 132) #[] #[.pointer (some ⟨p,0,none⟩)]] W0 H [ownS rRec 9 120 53 HS v xs,row p 47 [I x.Node,I x.Life,I x.Count]]
   (fun r H' B=>r= .bool (decide (∃q∈xs,q.Txn=x))∧B=[ownS rRec 9 120 53 HS v xs,row p 47 [I x.Node,I x.Life,I x.Count]]∧H'=H):=by
 refine Ct.go (vs:=[v,.func (.func 132) #[] #[.pointer (some ⟨p,0,none⟩)]]) fun R=>?_;refine walk ?_;refine Za_ rfl rfl (Qcq_ (W0:=W0) (H:=H) (HS:=HS) (v:=v) (xs:=xs) hl (qes_ (p:=p) (x:=x))) fun r1 H1 B hl1 ⟨eB,eH,j,hj,hno,hcase⟩=>?_;subst eB eH;rcases hcase with ⟨rfl,rfl⟩ | ⟨hj1,hpj,rfl⟩
 ·refine walk ?_;refine finB [ownS rRec 9 120 53 HS v xs,row p 47 [I x.Node,I x.Life,I x.Count]] ?_;refine ⟨?_,rfl,rfl⟩;rw [decide_eq_false];rintro ⟨q,hq,hx⟩;obtain ⟨i,hi,rfl⟩:=List.getElem_of_mem hq;have:=hno i hi hi;rw [decide_eq_false_iff_not] at this;exact this hx
 ·have hge:(0:Int)≤(j:Int):=by omega
  refine walk ?_;refine finB [ownS rRec 9 120 53 HS v xs,row p 47 [I x.Node,I x.Life,I x.Count]] ?_;refine ⟨?_,rfl,rfl⟩;rw [decide_eq_true];exact ⟨_,List.getElem_mem hj1,of_decide_eq_true hpj⟩
theorem zdw_ {W0:World} {H:Heap} {p:Nat} {s:PS} {x:Txn} (hs:TsOk s.t) (hn:(s.t.works.map (·.1)).Nodup):
  Ct Tryz.prog 100 #[.pointer (some ⟨p,0,none⟩),.agg x.cv.toArray] W0 H [Zn_ H p s] (fun r H' B=>r= .bool (decide (isP s x))∧B=[Zn_ H' p s]):=by
 refine Ct.go (vs:=[.pointer (some ⟨p,0,none⟩),.agg x.cv.toArray]) fun R=>?_;rw [decide_eq_decide.2 (Zee_ hn)];refine Zg_ (A:=Zn_ H p s) (σ:=Nat×Nat) (B:=fun a=>[pRow p a.1 (PS.sh s) a.2,tabO H a.1 (PS.t s),dMap H a.2 s]) (p:=fun _=>True) (by repeat (first | exact Has.here | apply Has.there)) (fun h ⟨tp,db,hbig⟩=>⟨(tp,db),trivial,hbig⟩) fun ⟨tp,db⟩ _=>?_;dsimp only;refine walk ?_;refine qc_ rfl rfl fun p3 _=>?_;refine walk ?_;refine Za_ rfl rfl (ZG_ (W0:=W0) (H:=H) (p:=tp) hs) fun r1 H1 B hl1 eB=>?_;subst eB;refine walk ?_;refine Za_ rfl rfl (ZbG_ (W0:=W0) (H:=H1) (HS:=H1) (v:=r1) (xs:=prepL s.t) (p:=p3) (x:=x) (.refl _)) fun r2 H2 B hl2 ⟨er,eB,eH⟩=>?_;subst er eB eH;refine walk ?_;refine finB [Zn_ H2 p s] ?_ (hs:=?_)
 ·exact ⟨rfl,rfl⟩
 ·refine Sub.trans ?_ (qq_ (H1:=H2) (H2:=H) (tp:=tp) (db:=db) (.refl _) hl1);exact subA
end Go.Proofs.YtlflbkpmfhhikaaGreatDoor
set_option maxHeartbeats 16000000
set_option maxRecDepth 100000
namespace Go.Proofs.YtlflbkpmfhhikaaGreatDoor
open Go Go.Sx Go.Proofs
theorem zcT_ {H:Heap} {s:PS} {x:Txn} (hs:fits s.sh) (hx:okX x.k):Qa_ H [I s.sh,I x.Node,I 5,I x.Node,I x.Life,I x.Count,I 0,nilS,nilS,.bool false,I 0,I 0,I 0,I 0,nilS,I 0,I 0,I 0,nilS] (askM s x):=
 ⟨nilS,nilS,nilS,nilS,rfl,hs,hx.1,by unfold fits;simp [askM],hx.1,hx.2.1,hx.2.2,qh_,SlB.nil,SlB.nil,qh_,qh_,qh_,qh_,SlB.nil,qh_,qh_,qh_,SlB.nil⟩
theorem ZdO_ {W0:World} {H:Heap} {p:Nat} {s:PS} (hs:TsOk s.t) (hsh:fits s.sh) (hx:∀q∈prepL s.t,okX q.Txn.k):
  Ct Tryz.prog 44 #[.pointer (some ⟨p,0,none⟩)] W0 H [Zn_ H p s] (fun r H' B=>B=[ownS Qa_ 19 216 106 H' r ((prepL s.t).map fun q=>askM s q.Txn),Zn_ H' p s]):=by
 refine Ct.go (vs:=[.pointer (some ⟨p,0,none⟩)]) fun R=>?_;refine Zg_ (A:=Zn_ H p s) (σ:=Nat×Nat) (B:=fun a=>[pRow p a.1 (PS.sh s) a.2,tabO H a.1 (PS.t s),dMap H a.2 s]) (p:=fun _=>True) (by repeat (first | exact Has.here | apply Has.there)) (fun h ⟨tp,db,hbig⟩=>⟨(tp,db),trivial,hbig⟩) fun ⟨tp,db⟩ _=>?_;dsimp only;refine walk ?_;refine Za_ rfl rfl (ZG_ (W0:=W0) (H:=H) (p:=tp) hs) fun r1 H1 B hl1 eB=>?_;subst eB;refine Zc_ r1 fun H2 hl2 hsl=>?_;have hln:(prepL s.t).length≤1000000:=by have:=hs.wn;simpa [prepL,qC_] using this
 generalize hl:prepL s.t=l at*;obtain ⟨b0,c0,rfl,hc0,hd0⟩:=hsl.1.shape;refine walk ?_;refine Qc_ (σ:=Nat×Option Addr×Nat) (fun u=>u.1≤l.length) (fun u=>[(0,.pointer (some ⟨p,0,none⟩)),(3,.slice u.2.1 ((l.take u.1).map fun q=>askM s q.Txn).length u.2.2),(10,.slice b0 l.length c0),(11,I l.length),(12,I u.1)]) (fun _=>H2) (fun u=>ownS Qa_ 19 216 106 H2 (.slice u.2.1 ((l.take u.1).map fun q=>askM s q.Txn).length u.2.2) ((l.take u.1).map fun q=>askM s q.Txn)::pRow p tp s.sh db::tabO H1 tp s.t::dMap H db s::R) (fun u=>l.length - u.1) (0,none,0) (Nat.zero_le _) (hs0:=?_) fun ⟨k,d,e⟩ hk0 K hL=>?_
 rotate_left
 ·exact v144_
 simp only at hk0;dsimp only;have hll:((l.take k).map fun q=>askM s q.Txn).length=k:=by simp;omega
 have hcap:(1000000:Nat)*216≤Qb_:=by decide
 refine walk ?_;refine ze_ rfl (fun hk=>?_) (fun hk=>?_)
 ·have hk1:k<l.length:=by omega
  have ht:=List.take_succ_eq_append_getElem hk1;have hxk:=hx l[k] (List.getElem_mem hk1);have hse:((l.take k).map fun q=>askM s q.Txn)++[askM s l[k].Txn]=(l.take (k+1)).map fun q=>askM s q.Txn:=by rw [ht,List.map_append];rfl
  have hsl2:((l.take k).map fun q=>askM s q.Txn).length+1=((l.take (k+1)).map fun q=>askM s q.Txn).length:=by rw [←hse];simp
  refine walk ?_;refine Zd_ rfl rfl hsl.1 hk1 fun b o c hr hc=>?_;obtain ⟨s1,s2,s3,rfl,g1,g2,g3,g4,g5,g6,g7,g8⟩:=hc;generalize l[k]=q at hr g1 g2 g3 g4 g5 g6 g7 g8 hse hxk;obtain ⟨qk,⟨xa,xb,xc⟩,⟨wr,wt,wd⟩,qy,qp⟩:=q;dsimp only at hr g1 g2 g3 g4 g5 g6 g7 g8 hse hxk;obtain ⟨sb1,sc1,rfl,_,_⟩:=g6.1.shape;obtain ⟨sb2,sc2,rfl,_,_⟩:=g7.1.shape;obtain ⟨sb3,sc3,rfl,_,_⟩:=g8.1.shape;change HRow H2 b o [I qk,I xa,I xb,I xc,I wr,.slice sb1 wt.length sc1,.slice sb2 wd.length sc2,.bool qy,.slice sb3 qp.length sc3] at hr;refine zf_ rfl rfl hr rfl ?_;refine zb_ rfl fun p5 _=>?_;refine walk ?_;refine zc_ 13 [pRow p tp s.sh db,row p5 53 [I qk,I xa,I xb,I xc,I wr,.slice sb1 wt.length sc1,.slice sb2 wd.length sc2,.bool qy,.slice sb3 qp.length sc3]] ?_;refine qa_ 0 ?_;refine qa_ 1 ?_;refine qa_ 2 ?_;refine qa_ 3 ?_;refine qa_ 4 ?_;refine qa_ 5 ?_;refine qa_ 6 ?_;refine qa_ 7 ?_;refine qa_ 8 ?_;refine qa_ 9 ?_;refine qa_ 10 ?_;refine zx_ (y:=askM s ⟨xa,xb,xc⟩) 11 12 rfl rfl rfl (zcT_ hsh hxk) (by rw [hll];simp only [Qb_];omega) fun d3 e3=>⟨subA,?_⟩;rw [hsl2,hse];refine qb_ rfl ?_;exact v76_
 ·clear hL;obtain rfl:k=l.length:=by omega
  refine walk ?_;rw [List.take_length] at*;refine finB [ownS Qa_ 19 216 106 H2 (.slice d (l.map fun q=>askM s q.Txn).length e) (l.map fun q=>askM s q.Txn),Zn_ H2 p s] ?_ (hs:=?_)
  ·exact rfl
  ·refine Sub.trans ?_ (Sub.cons (qq_ (H1:=H1) (H2:=H) (tp:=tp) (db:=db) hl2 (hl1.trans hl2)));exact subA
noncomputable def qbk_ (c:Int→Int):Int→List ByteArray→Int
  | a,[]=>c a
  | a,k::ks=>if (Qbz_ k).isSome=true then qbk_ c (max a ((Qbz_ k).getD 0)) ks else Zcg_
noncomputable def Zaa_ (x:Txn):Int→List Rec→Int
  | a,[]=>a
  | a,q::l=>if q.Txn=x then qbk_ (fun a=>Zaa_ x a l) a q.Work.ks else Zaa_ x a l
theorem QbW_:∀{ks:List ByteArray} {a:Int},qbk_ (fun a=>a) a ks=zD_ a ks
 | [],a=>rfl
 | k::ks,a=>by unfold qbk_ zD_;rw [QbW_]
theorem Qay_ {x:Txn}:∀{l:List Rec} {a:Int},(∀q∈l,q.Txn≠x)→Zaa_ x a l=a
 | [],a,_=>rfl
 | q::l,a,h=>by
  unfold Zaa_;rw [if_neg (h q (List.mem_cons_self ..)),Qay_ fun q hq=>h q (List.mem_cons_of_mem _ hq)]
theorem Zbu_ {x:Txn}:∀{l:List Rec} {a:Int} {q:Rec},l.Pairwise (fun a b=>ltK a.Txn.k b.Txn.k)→q∈l→q.Txn=x→Zaa_ x a l=zD_ a q.Work.ks
 | q::l,a,q',hr,hq,hx=>by
  rw [List.pairwise_cons] at hr;unfold Zaa_;rcases List.mem_cons.1 hq with rfl | hq
  ·rw [if_pos hx]
   have hno:∀q∈l,q.Txn≠x:=fun q hq e=>by
    have:=hr.1 q hq;rw [hx,e] at this;exact QC_ this
   have:(fun a=>Zaa_ x a l)=fun a=>a:=funext fun a=>Qay_ hno;rw [this,QbW_]
  ·rw [if_neg,Zbu_ hr.2 hq hx];intro e;have:=hr.1 q' hq;rw [hx,e] at this;exact QC_ this
theorem zdv_ {s:PS} {x:Txn} (hn:(s.t.works.map (·.1)).Nodup):Zaa_ x 0 (prepL s.t)=Zy_ s x:=by
 have hp:=ZP_ hn;unfold Zy_;by_cases h:isP s x
 ·rw [if_pos h];obtain ⟨w,hw⟩:=Zah_.1 h;have hm:=(hp.mem (recW x w)).2 ⟨w,hw,rfl⟩;rw [Zbu_ (x:=x) hp.rise hm (rfl:(recW x w).Txn=x)];unfold gW at hw
  cases hq:mget x.k s.t.works with
  | none=>rw [hq] at hw;cases hw
  | some v=>rw [hq] at hw;cases hw;rfl
 ·rw [if_neg h,Qay_];rintro q hq rfl;obtain ⟨w,hw,_⟩:=(hp.mem q).1 hq;exact h (Zah_.2 ⟨w,hw⟩)
theorem v48_ {P:Prop} (h:P:=by
 have ht:=QbM_ hkk;rw [ht,if_pos (show (some kt).isSome=true from rfl),show (some kt).getD 0=kt from rfl] at hF2;have hft:fits kt:=by have:=Qbr_ (k:=ks[i]);rw [ht] at this;exact this
 rw [show (!true)=false from rfl];refine walk ?_;exact Zb_ hL2 (i+1,max a2 kt) ⟨by simp only;omega,hF2,by simp only;unfold fits at*;omega⟩):P:=h
theorem QcS_ {W0:World} {H:Heap} {p:Nat} {s:PS} {x:Txn} (hP:PkH H) (hs:TsOk s.t) (hn:(s.t.works.map (·.1)).Nodup) (hks:∀q∈prepL s.t,q.Work.ks.length*16≤Qb_):
  Ct Tryz.prog 103 #[.pointer (some ⟨p,0,none⟩),.agg x.cv.toArray] W0 H [Zn_ H p s] (fun r H' B=>r=I (Zy_ s x)∧B=[Zn_ H' p s]):=by
 refine Ct.go (vs:=[.pointer (some ⟨p,0,none⟩),.agg x.cv.toArray]) fun R=>?_;rw [←zdv_ hn];obtain ⟨x1,x2,x3⟩:=x;refine Zg_ (A:=Zn_ H p s) (σ:=Nat×Nat) (B:=fun a=>[pRow p a.1 (PS.sh s) a.2,tabO H a.1 (PS.t s),dMap H a.2 s]) (p:=fun _=>True) (by repeat (first | exact Has.here | apply Has.there)) (fun h ⟨tp,db,hbig⟩=>⟨(tp,db),trivial,hbig⟩) fun ⟨tp,db⟩ _=>?_;dsimp only;refine walk ?_;refine qc_ rfl rfl fun p3 _=>?_;refine walk ?_;refine Za_ rfl rfl (ZG_ (W0:=W0) (H:=H) (p:=tp) hs) fun r1 H1 B hl1 eB=>?_;subst eB;refine Zc_ r1 fun H2 hl2 hsl=>?_;generalize hl:prepL s.t=l at*;generalize hT:Zaa_ ⟨x1,x2,x3⟩ 0 l=T;obtain ⟨b0,c0,rfl,hc0,hd0⟩:=hsl.1.shape;refine walk ?_;refine Qc_ (σ:=Nat×Int×Heap) (fun u=>u.1≤l.length∧Zaa_ ⟨x1,x2,x3⟩ u.2.1 (l.drop u.1)=T∧fits u.2.1∧H2.le u.2.2) (fun u=>[(0,.pointer (some ⟨p,0,none⟩)),(3,.pointer (some ⟨p3,0,none⟩)),(5,I u.2.1),(16,.slice b0 l.length c0),(17,I l.length),(18,I u.1)]) (fun u=>u.2.2) (fun u=>pRow p tp s.sh db::tabO H1 tp s.t::dMap H db s::row p3 47 [I x1,I x2,I x3]::R) (fun u=>l.length - u.1) (0,0,H2) ⟨Nat.zero_le _,hT,qh_,.refl _⟩ fun ⟨j,a,HK⟩ ⟨hj0,hF,hfa,hlK⟩ K hL=>?_;simp only at hj0 hF hfa hlK;dsimp only;have hPK:=hP.mono (hl1.trans (hl2.trans hlK));refine walk ?_;refine ze_ rfl (fun hj=>?_) (fun hj=>?_)
 ·have hj1:j<l.length:=by omega
  have hkq:=hks l[j] (List.getElem_mem hj1);rw [List.drop_eq_getElem_cons hj1] at hF;unfold Zaa_ at hF;refine walk ?_;refine Zd_ rfl rfl (hsl.mono hlK).1 hj1 fun b o c hr hc=>?_;obtain ⟨s1,s2,s3,rfl,g1,g2,g3,g4,g5,g6,g7,g8⟩:=hc;generalize l[j]=q at hr g1 g2 g3 g4 g5 g6 g7 g8 hF hkq;obtain ⟨qk,⟨xa,xb,xc⟩,⟨wr,wt,wd⟩,qy,qp⟩:=q;dsimp only at hr g1 g2 g3 g4 g5 g6 g7 g8 hF hkq;obtain ⟨sb1,sc1,rfl,_,_⟩:=g6.1.shape;obtain ⟨sb2,sc2,rfl,_,_⟩:=g7.1.shape;obtain ⟨sb3,sc3,rfl,_,_⟩:=g8.1.shape;change HRow HK b o [I qk,I xa,I xb,I xc,I wr,.slice sb1 wt.length sc1,.slice sb2 wd.length sc2,.bool qy,.slice sb3 qp.length sc3] at hr;refine zf_ rfl rfl hr rfl ?_;refine zb_ rfl fun p7 _=>?_;refine walk ?_;refine ze_ rfl (fun hq=>?_) (fun hq=>?_)
  ·rw [if_neg (fun e=>hq (by simpa using tx_ext.1 e))] at hF;refine walk ?_;exact Zb_ hL (j+1,a,HK) ⟨by simp only;omega,hF,hfa,hlK⟩
  ·have hq':(⟨xa,xb,xc⟩:Txn)=⟨x1,x2,x3⟩:=Classical.byContradiction fun h=>hq fun e=>h (tx_ext.2 e);rw [if_pos hq'] at hF;generalize hcn:(fun a=>Zaa_ ⟨x1,x2,x3⟩ a (l.drop (j+1)))=cn at hF;refine walk ?_;refine zaw_ rfl rfl fun pb _=>?_;refine qO_ .here fun H3 hl3 hr3=>?_;have hwn':(wt.length+wd.length)*16≤Qb_:=by simpa [Work.ks] using hkq
   have hsr:SlR (rSl rStr 1 16) 1 H3 (.slice (some ⟨pb,0,none⟩) 2 2) [wt,wd]:=Qn_ (R:=rSl rStr 1 16) (xs:=[wt,wd]) hr3 (show RL (rSl rStr 1 16) H3 [.slice sb1 wt.length sc1,.slice sb2 wd.length sc2] [wt,wd] from ⟨[_],[_],rfl,⟨_,rfl,g6.mono hl3⟩,⟨[_],[],rfl,⟨_,rfl,g7.mono hl3⟩,rfl⟩⟩) (by simp) (by omega);have hcat:=zS_ (W0:=W0) hsr (by simpa [qz_] using hwn');rw [show [wt,wd].flatten=(⟨wr,wt,wd⟩:Work).ks by simp [Work.ks]] at hcat;generalize hks2:(⟨wr,wt,wd⟩:Work).ks=ks at hcat hF hkq;refine Za_ rfl rfl hcat fun r4 H4 B hl4 ⟨eB,eH⟩=>?_;subst eB eH;refine Zc_ r4 fun H5 hl5 hsk=>?_;obtain ⟨bk,ck,rfl,hck,hdk⟩:=hsk.1.shape;have hl25:H2.le H5:=hlK.trans (hl3.trans (hl4.trans hl5));have hP5:=hPK.mono (hl3.trans (hl4.trans hl5));refine walk ?_;refine Qc_ (σ:=Nat×Int) (fun u=>u.1≤ks.length∧qbk_ cn u.2 (ks.drop u.1)=T∧fits u.2) (fun u=>[(0,.pointer (some ⟨p,0,none⟩)),(3,.pointer (some ⟨p3,0,none⟩)),(5,I u.2),(16,.slice b0 l.length c0),(17,I l.length),(18,I j),(33,.slice bk ks.length ck),(34,I ks.length),(35,I u.1)]) (fun _=>H5) (fun _=>pRow p tp s.sh db::tabO H1 tp s.t::dMap H db s::row p3 47 [I x1,I x2,I x3]::R) (fun u=>ks.length - u.1) (0,a) ⟨Nat.zero_le _,hF,hfa⟩ fun ⟨i,a2⟩ ⟨hi0,hF2,hfa2⟩ K2 hL2=>?_;simp only at hi0 hF2 hfa2;dsimp only;refine walk ?_;refine ze_ rfl (fun hi=>?_) (fun hi=>?_)
   ·have hi1:i<ks.length:=by omega
    rw [List.drop_eq_getElem_cons hi1] at hF2;unfold qbk_ at hF2;have hrd:=fun (hz:ks[i].data.toList.length≤Qb_)=>Qdm_ (W0:=W0) (l:=ks[i].data.toList) hP5 hz;rw [zdg_] at hrd;refine walk ?_;refine Zd_ rfl rfl hsk.1 hi1 fun b o c hr hc=>?_;obtain ⟨rfl,hsz⟩:=hc;refine walk ?_;refine Za_ rfl rfl (hrd (by rw [←Lib.size_eq];exact hsz)) fun r6 H6 B hl6 ⟨hrr,eB,eH⟩=>?_;subst eB eH;obtain ⟨ka,kb,kt,ok,rfl,hkk⟩:=hrr.form;refine walk ?_;refine zb_ rfl fun p10 _=>?_;refine walk ?_;rcases hkk with ⟨rfl,hkk⟩ | ⟨rfl,hno,rfl,rfl,rfl⟩
    ·exact v48_
    ·have ht:=Zbz_ hno;rw [ht,if_neg (by simp)] at hF2;rw [show (!false)=true from rfl];refine walk ?_;rw [←hF2];refine finB [Zn_ H6 p s] ?_ (hs:=?_)
     ·exact ⟨rfl,rfl⟩
     ·refine Sub.trans ?_ (qq_ (H1:=H1) (H2:=H) (tp:=tp) (db:=db) (hl2.trans hl25) (hl1.trans (hl2.trans hl25)));exact subA
   clear hL2;obtain rfl:i=ks.length:=by omega
   rw [List.drop_length] at hF2;unfold qbk_ at hF2;rw [←hcn] at hF2;refine walk ?_;exact Zb_ hL (j+1,a2,H5) ⟨by simp only;omega,hF2,hfa2,hl25⟩
 clear hL;obtain rfl:j=l.length:=by omega
 rw [List.drop_length] at hF;unfold Zaa_ at hF;refine walk ?_;rw [←hF];refine finB [Zn_ HK p s] ?_ (hs:=?_)
 ·exact ⟨rfl,rfl⟩
 ·refine Sub.trans ?_ (qq_ (H1:=H1) (H2:=H) (tp:=tp) (db:=db) (hl2.trans hlK) (hl1.trans (hl2.trans hlK)));exact subA
theorem Zeu_ {H:Heap} {b o:Nat} {q:RD} (hr:HRow H b o q.cv):HRow H b o [I q.Txn.Node,I q.Txn.Life,I q.Txn.Count]:=HRow.take (k:=3) hr
instance doneRDec {m:Part} {x:Txn}:Decidable (Zbm_ m x):=by unfold Zbm_;infer_instance
theorem ZdP_ {W0:World} {H:Heap} {c:List Value} {m:Part} {x:Txn} (h0:ZaA_ H c m):
  Ct Tryz.prog 124 #[.agg c.toArray,.agg x.cv.toArray] W0 H [] (fun r H' B=>r= .bool (decide (Zbm_ m x))∧B=[]∧H'=H):=by
 refine Ct.go (vs:=[.agg c.toArray,.agg x.cv.toArray]) fun R=>?_;obtain ⟨s1,s2,s3,rfl,hsh,hs1,hs2,hs3⟩:=h0;obtain ⟨b1,c1,rfl,hc1,hd1⟩:=hs1.1.shape;obtain ⟨b2,c2,rfl,hc2,hd2⟩:=hs2.1.shape;obtain ⟨b3,c3,rfl,hc3,hd3⟩:=hs3.1.shape;obtain ⟨sh,⟨hl,pr⟩,dn⟩:=m;obtain ⟨x1,x2,x3⟩:=x;unfold Zbm_;dsimp only at hsh hs1 hs2 hs3 hc1 hc2 hc3;dsimp only;refine walk ?_;refine qc_ rfl rfl fun p2 _=>?_;refine qc_ rfl rfl fun p3 _=>?_;refine walk ?_;refine Qc_ (σ:=Nat) (fun j=>j≤dn.length∧∀q∈dn.take j,q.Txn≠⟨x1,x2,x3⟩) (fun j=>[(2,.pointer (some ⟨p2,0,none⟩)),(3,.pointer (some ⟨p3,0,none⟩)),(5,I j)]) (fun _=>H) (fun _=>row p2 129 [I sh,.slice b1 hl.length c1,.slice b2 pr.length c2,.slice b3 dn.length c3]::row p3 47 [I x1,I x2,I x3]::R) (fun j=>dn.length - j) 0 ⟨Nat.zero_le _,by simp⟩ fun j ⟨hj0,hj⟩ K hL=>?_;refine walk ?_;refine ze_ rfl (fun hk=>?_) (fun hk=>?_)
 ·have hk1:j<dn.length:=by omega
  have ht:=List.take_succ_eq_append_getElem hk1;refine walk ?_;refine Zd_ rfl rfl hs3.1 hk1 fun b o cc hr hc=>?_;obtain ⟨rfl,hc⟩:=hc;have hrt:=Zeu_ hr;obtain ⟨ya,yb,yc,hy⟩:∃ya yb yc,dn[j].Txn=⟨ya,yb,yc⟩:=⟨_,_,_,rfl⟩;rw [hy] at hrt;change HRow H b o [I ya,I yb,I yc] at hrt;refine walk ?_;refine zf_ rfl rfl hrt rfl ?_;refine walk ?_;refine ze_ rfl (fun hq=>?_) (fun hq=>?_)
  ·refine walk ?_;refine fin0 ?_;obtain ⟨rfl,rfl,rfl⟩:=hq;exact ⟨congrArg Value.bool (decide_eq_true ⟨_,List.getElem_mem hk1,hy⟩).symm,rfl,rfl⟩
  ·refine walk ?_;refine Zb_ hL (j+1) ⟨by omega,fun q hm=>?_⟩;rw [ht,List.mem_append,List.mem_singleton] at hm;rcases hm with hm | rfl
   ·exact hj q hm
   ·rw [hy];rintro e;exact hq (by simpa using tx_ext.1 e)
 ·clear hL;obtain rfl:j=dn.length:=by omega
  rw [List.take_length] at hj;refine walk ?_;refine fin0 ?_;exact ⟨congrArg Value.bool (decide_eq_false (fun ⟨d,h1,h2⟩=>hj d h1 h2)).symm,rfl,rfl⟩
theorem Zcs_ {W0:World} {H:Heap} {cw:List Value} {w:Work} (hw:zj_ H cw w) (hwn:w.ks.length*16≤Qb_):
  Ct Tryz.prog 128 #[.agg cw.toArray] W0 H [] (fun r H' B=>r=I (zD_ 0 w.ks)∧B=[]):=by
 refine Ct.go (vs:=[.agg cw.toArray]) fun R=>?_;have hks:=qaE_ (W0:=W0) hw hwn;obtain ⟨s1,s2,rfl,hrob,hs1,hs2⟩:=hw;obtain ⟨b1,c1,rfl,hc1,hd1⟩:=hs1.1.shape;obtain ⟨b2,c2,rfl,hc2,hd2⟩:=hs2.1.shape;refine walk ?_;refine qc_ rfl rfl fun p1 _=>?_;refine walk ?_;refine Za_ rfl rfl hks fun r1 H1 B hl1 ⟨eB,eH⟩=>?_;subst eB eH;refine Zc_ r1 fun H2 hl2 hsk=>?_;generalize w.ks=ks at*;generalize hT:zD_ 0 ks=T;obtain ⟨bk,ck,rfl,hck,hdk⟩:=hsk.1.shape;refine walk ?_;refine Qc_ (σ:=Nat×Int) (fun u=>u.1≤ks.length∧zD_ u.2 (ks.drop u.1)=T∧fits u.2) (fun u=>[(3,.slice bk ks.length ck),(4,I u.2),(5,I u.1)]) (fun _=>H2) (fun _=>R) (fun u=>ks.length - u.1) (0,0) ⟨Nat.zero_le _,hT,qh_⟩ fun ⟨i,a2⟩ ⟨hi0,hF2,hfa2⟩ K2 hL2=>?_;simp only at hi0 hF2 hfa2;dsimp only;refine walk ?_;refine ze_ rfl (fun hi=>?_) (fun hi=>?_)
 ·have hi1:i<ks.length:=by omega
  rw [List.drop_eq_getElem_cons hi1] at hF2;unfold zD_ at hF2;have hrd:=fun (hz:ks[i].data.toList.length≤Qb_)=>zcO_ (W0:=W0) (H:=H2) (l:=ks[i].data.toList) hz;rw [zdg_] at hrd;refine walk ?_;refine Zd_ rfl rfl hsk.1 hi1 fun b o c hr hc=>?_;obtain ⟨rfl,hsz⟩:=hc;refine walk ?_;refine Za_ rfl rfl (hrd (by rw [←Lib.size_eq];exact hsz)) fun r6 H6 B hl6 ⟨hrr,eB,eH⟩=>?_;subst eB eH;obtain ⟨ka,kb,kt,ok,rfl,hkk⟩:=hrr.form;refine walk ?_;refine zb_ rfl fun p10 _=>?_;refine walk ?_;rcases hkk with ⟨rfl,hkk⟩ | ⟨rfl,hno,rfl,rfl,rfl⟩
  ·exact v48_
  ·have ht:=Zbz_ hno;rw [ht,if_neg (by simp)] at hF2;rw [show (!false)=true from rfl];refine walk ?_;rw [←hF2];exact v94_
 clear hL2;obtain rfl:i=ks.length:=by omega
 rw [List.drop_length] at hF2;unfold zD_ at hF2;refine walk ?_;rw [←hF2];exact v94_
theorem QaN_ {d:RD}:∀{l:List RD} {i:Nat},i≤l.length→(∀a∈l.take i,ltK a.Txn.k d.Txn.k)→(∀h:i<l.length,¬ltK l[i].Txn.k d.Txn.k)→putL d l=l.take i++d::l.drop i
 | [],i,hi,_,_=>by simp [putL]
 | a::l,0,hi,h1,h2=>by
  unfold putL;rw [if_neg (show ¬ltK a.Txn.k d.Txn.k from h2 (by simp))];rfl
 | a::l,i+1,hi,h1,h2=>by
  unfold putL;rw [if_pos (h1 a (by simp)),QaN_ (i:=i) (by simpa using hi) (fun b hb=>h1 b (by simp [hb])) (fun h=>h2 (Nat.succ_lt_succ h))];rfl
theorem v26_ {P:Prop} (h:P:=by
 refine walk ?_;refine Zj_ (y:=⟨⟨x1,x2,x3⟩,du⟩) rfl rfl rfl ⟨rfl,hd⟩ (by rw [hll];simp only [Qb_] at hcap⊢;omega) fun d3 e3=>?_;refine walk ?_;refine qi_ rfl rfl (ZI_ (l:=(k:Int)) (h:=(l.length:Int)) rfl rfl rfl (by omega) (by omega) (by omega)) ?_;have hsd:=h0.1.slc (l:=k) (h:=l.length) (by omega) (Nat.le_refl _);rw [List.take_of_length_le (by rw [List.length_drop];omega)] at hsd;rw [Int.toNat_natCast,Int.toNat_natCast];have hl4:(l.take k++[(⟨⟨x1,x2,x3⟩,du⟩:RD)]).length=k+1:=by rw [List.length_append,hll];rfl
 have hl5:(l.drop k).length=l.length - k:=List.length_drop;rw [show (l.take k).length+1=(l.take k++[(⟨⟨x1,x2,x3⟩,du⟩:RD)]).length by rw [hl4,hll]];refine zo_ rfl rfl hsd (by rw [hl4,hl5];simp only [Qb_] at hcap⊢;omega) fun d4 e4=>?_;rw [←List.length_append];have hfin:l.take k++[(⟨⟨x1,x2,x3⟩,du⟩:RD)]++l.drop k=putL ⟨⟨x1,x2,x3⟩,du⟩ l:=by rw [hsp,List.append_assoc];rfl
 rw [hfin];refine walk ?_;refine finB [ownS qp_ 4 32 249 H (.slice d4 (putL ⟨⟨x1,x2,x3⟩,du⟩ l).length e4) (putL ⟨⟨x1,x2,x3⟩,du⟩ l)] ?_;exact ⟨rfl,rfl⟩):P:=h
theorem Qdz_ {W0:World} {H:Heap} {v:Value} {l:List RD} {d:RD} (h0:SlB qp_ 4 32 H v l) (hd:fits d.Txn.Node∧fits d.Txn.Life∧fits d.Txn.Count∧fits d.Until) (hn:l.length≤100000):
  Ct Tryz.prog 127 #[v,.agg d.cv.toArray] W0 H [] (fun r H' B=>B=[ownS qp_ 4 32 249 H r (putL d l)]∧H'=H):=by
 refine Ct.go (vs:=[v,.agg d.cv.toArray]) fun R=>?_;obtain ⟨b0,c0,rfl,hc0,hd0⟩:=h0.1.shape;have hcap:(100000:Nat)*64≤Qb_:=by decide
 obtain ⟨⟨x1,x2,x3⟩,du⟩:=d;dsimp only at hd;refine walk ?_;refine qc_ rfl rfl fun p3 _=>?_;refine walk ?_;refine Qc_ (σ:=Nat×Option Addr×Nat) (fun u=>u.1≤l.length∧∀q∈l.take u.1,ltK q.Txn.k (x1,x2,x3)) (fun u=>[(0,.slice b0 l.length c0),(3,.pointer (some ⟨p3,0,none⟩)),(5,.slice u.2.1 (l.take u.1).length u.2.2),(6,I u.1)]) (fun _=>H) (fun u=>ownS qp_ 4 32 249 H (.slice u.2.1 (l.take u.1).length u.2.2) (l.take u.1)::row p3 249 [I x1,I x2,I x3,I du]::R) (fun u=>l.length - u.1) (0,none,0) ⟨Nat.zero_le _,by simp⟩ (hs0:=?_) fun ⟨k,dd,e⟩ ⟨hk0,hlt⟩ K hL=>?_
 rotate_left
 ·exact v158_
 simp only at hk0 hlt;dsimp only;have hll:(l.take k).length=k:=by simp;omega
 by_cases hk1:k<l.length
 ·have hkk:((k:Int)<(l.length:Int)):=by omega
  have ht:=List.take_succ_eq_append_getElem hk1;refine walk ?_;refine zc_ 14 [row p3 249 [I x1,I x2,I x3,I du]] ?_;refine qa_ 0 ?_;refine qa_ 1 ?_;refine qa_ 2 ?_;refine qa_ 3 ?_;refine qa_ 4 ?_;refine qa_ 5 ?_;refine qa_ 6 ?_;refine zg_ 7 rfl rfl rfl h0.1 hk1 fun b o cc hr hc=>?_;obtain ⟨rfl,hc⟩:=hc;have hrt:=Zeu_ hr;obtain ⟨ya,yb,yc,hy⟩:∃ya yb yc,l[k].Txn=⟨ya,yb,yc⟩:=⟨_,_,_,rfl⟩;rw [hy] at hrt;refine qa_ 8 ?_;refine Ql_ 9 rfl rfl rfl hrt rfl ?_;refine qa_ 10 ?_;refine qa_ 11 ?_;refine qo_ 12 rfl rfl rfl (zbc_ (x:=(ya,yb,yc)) (y:=(x1,x2,x3))) ?_;refine qa_ 13 ?_;refine qb_ rfl ?_;have hyk:l[k].Txn.k=(ya,yb,yc):=by rw [hy];rfl
  refine walk ?_;refine ze_ rfl (fun hq=>?_) (fun hq=>?_)
  ·have hse:l.take k++[l[k]]=l.take (k+1):=ht.symm;have hsl2:(l.take k).length+1=(l.take (k+1)).length:=by rw [List.length_take,List.length_take];omega
   refine walk ?_;refine Zd_ rfl rfl h0.1 hk1 fun b' o' cc' hr' hc'=>?_;obtain ⟨rfl,hc'⟩:=hc';have hyd:l[k]=⟨⟨ya,yb,yc⟩,l[k].Until⟩:=by rw [←hy]
   generalize l[k].Until=yd at hyd;rw [hyd] at hr' hc' hse;change HRow H b' o' [I ya,I yb,I yc,I yd] at hr';refine walk ?_;refine zf_ rfl rfl hr' rfl ?_;refine Zj_ (y:=⟨⟨ya,yb,yc⟩,yd⟩) rfl rfl rfl ⟨rfl,hc'⟩ (by rw [hll];simp only [Qb_] at hcap⊢;omega) fun d3 e3=>?_;rw [hsl2,hse];refine walk ?_;refine Zb_ hL (k+1,d3,e3) ⟨by simp only;omega,fun q hm=>?_⟩;rw [ht,List.mem_append,List.mem_singleton] at hm;rcases hm with hm | rfl
   ·exact hlt q hm
   ·rw [hyk];exact hq
  ·have hsp:=QaN_ (d:=⟨⟨x1,x2,x3⟩,du⟩) hk0 hlt (fun h=>by rw [hyk];exact hq);clear hL;exact v26_
 ·have hkk:¬((k:Int)<(l.length:Int)):=by omega
  have hsp:=QaN_ (d:=⟨⟨x1,x2,x3⟩,du⟩) hk0 hlt (fun h=>absurd h hk1);clear hL;refine walk ?_;refine zc_ 14 [row p3 249 [I x1,I x2,I x3,I du]] ?_;refine qa_ 0 ?_;refine qa_ 1 ?_;refine qa_ 2 ?_;refine qa_ 3 ?_;refine qa_ 4 ?_;refine Qs_ 5 rfl rfl ?_;refine Qs_ 6 rfl rfl ?_;refine Qs_ 7 rfl rfl ?_;refine Qs_ 8 rfl rfl ?_;refine Qs_ 9 rfl rfl ?_;refine Qs_ 10 rfl rfl ?_;refine Qs_ 11 rfl rfl ?_;refine Qs_ 12 rfl rfl ?_;refine qa_ 13 ?_;refine qb_ rfl ?_;refine walk ?_;exact v26_
def askR (m:Part) (q:Rec):Message:={Zk_ with From:=m.Shard,To:=q.Txn.Node,Kind:=5,Txn:=q.Txn}
theorem zdz_ {W0:World} {H:Heap} {c:List Value} {m:Part} (h0:ZaA_ H c m) (hn:m.T.Prep.length≤100000):
  Ct Tryz.prog 58 #[.agg c.toArray] W0 H [] (fun r H' B=>B=[ownS Qa_ 19 216 106 H' r (m.T.Prep.map (askR m))]∧H'=H):=by
 refine Ct.go (vs:=[.agg c.toArray]) fun R=>?_;obtain ⟨s1,s2,s3,rfl,hsh,hs1,hs2,hs3⟩:=h0;obtain ⟨b1,c1,rfl,hc1,hd1⟩:=hs1.1.shape;obtain ⟨b2,c2,rfl,hc2,hd2⟩:=hs2.1.shape;obtain ⟨b3,c3,rfl,hc3,hd3⟩:=hs3.1.shape;obtain ⟨sh,⟨hl,l⟩,dn⟩:=m;dsimp only at hsh hs1 hs2 hs3 hc1 hc2 hc3 hn;have hcap:(100001:Nat)*216≤Qb_:=by decide
 dsimp only;refine walk ?_;refine qc_ rfl rfl fun p2 _=>?_;refine walk ?_;refine Qc_ (σ:=Nat×Option Addr×Nat) (fun u=>u.1≤l.length) (fun u=>[(1,.pointer (some ⟨p2,0,none⟩)),(3,.slice u.2.1 ((l.take u.1).map (askR ⟨sh,⟨hl,l⟩,dn⟩)).length u.2.2),(4,I u.1)]) (fun _=>H) (fun u=>ownS Qa_ 19 216 106 H (.slice u.2.1 ((l.take u.1).map (askR ⟨sh,⟨hl,l⟩,dn⟩)).length u.2.2) ((l.take u.1).map (askR ⟨sh,⟨hl,l⟩,dn⟩))::row p2 129 [I sh,.slice b1 hl.length c1,.slice b2 l.length c2,.slice b3 dn.length c3]::R) (fun u=>l.length - u.1) (0,none,0) (Nat.zero_le _) (hs0:=?_) fun ⟨k,d,e⟩ hk0 K hL=>?_
 rotate_left
 ·exact v144_
 simp only at hk0;dsimp only;have hll:((l.take k).map (askR ⟨sh,⟨hl,l⟩,dn⟩)).length=k:=by simp;omega
 refine walk ?_;refine ze_ rfl (fun hk=>?_) (fun hk=>?_)
 ·have hk1:k<l.length:=by omega
  have ht:=List.take_succ_eq_append_getElem hk1;have hse:((l.take k).map (askR ⟨sh,⟨hl,l⟩,dn⟩))++[askR ⟨sh,⟨hl,l⟩,dn⟩ l[k]]=(l.take (k+1)).map (askR ⟨sh,⟨hl,l⟩,dn⟩):=by rw [ht,List.map_append];rfl
  have hsl2:((l.take k).map (askR ⟨sh,⟨hl,l⟩,dn⟩)).length+1=((l.take (k+1)).map (askR ⟨sh,⟨hl,l⟩,dn⟩)).length:=by rw [←hse];simp
  refine walk ?_;refine Zd_ rfl rfl hs2.1 hk1 fun b o c hr hc=>?_;obtain ⟨s1,s2,s3,rfl,g1,g2,g3,g4,g5,g6,g7,g8⟩:=hc;have hrt:=ZaK_ hr;obtain ⟨ya,yb,yc,hy⟩:∃ya yb yc,l[k].Txn=⟨ya,yb,yc⟩:=⟨_,_,_,rfl⟩;have haq:askR ⟨sh,⟨hl,l⟩,dn⟩ l[k]={Zk_ with From:=sh,To:=ya,Kind:=5,Txn:=⟨ya,yb,yc⟩}:=by unfold askR;rw [hy]
  rw [haq] at hse;rw [hy] at hrt g2 g3 g4;change HRow H b (o+1) [I ya,I yb,I yc] at hrt;refine walk ?_;refine zf_ rfl rfl hrt rfl ?_;refine zb_ rfl fun p5 _=>?_;refine walk ?_;refine Zj_ (y:={Zk_ with From:=sh,To:=ya,Kind:=5,Txn:=⟨ya,yb,yc⟩}) rfl rfl rfl ⟨nilS,nilS,nilS,nilS,rfl,hsh,g2,by unfold fits;simp,g2,g3,g4,qh_,SlB.nil,SlB.nil,qh_,qh_,qh_,qh_,SlB.nil,qh_,qh_,qh_,SlB.nil⟩ (by rw [hll];simp only [Qb_] at hcap⊢;omega) fun d3 e3=>?_;rw [hsl2,hse];exact v76_
 ·clear hL;obtain rfl:k=l.length:=by omega
  refine walk ?_;rw [List.take_length] at*;refine finB [ownS Qa_ 19 216 106 H (.slice d (l.map (askR ⟨sh,⟨hl,l⟩,dn⟩)).length e) (l.map (askR ⟨sh,⟨hl,l⟩,dn⟩))] ?_;exact ⟨rfl,rfl⟩
end Go.Proofs.YtlflbkpmfhhikaaGreatDoor
