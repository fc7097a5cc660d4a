/- The last tick of a prepared transaction's keys. -/
import Derived.Test.YtlflbkpmfhhikaaGreatDoorKLO
import Derived.Test.YtlflbkpmfhhikaaGreatDoorKLZ
set_option linter.unusedVariables false
set_option linter.unusedSimpArgs false
namespace Go.Proofs.YtlflbkpmfhhikaaGreatDoor
open Go Go.Sx Go.Proofs
open Classical in
noncomputable def zbu_ (k:ByteArray):Option Int:=if h:∃q,isKey k.data.toList q then some (Classical.choose h).2.2 else none
theorem QbJ_ {k:ByteArray} {a b t:Int} (h:isKey k.data.toList (a,b,t)):zbu_ k=some t:=by
 unfold zbu_;have hex:∃q,isKey k.data.toList q:=⟨_,h⟩;rw [dif_pos hex];have:=(Classical.choose_spec hex).uniq h;rw [this]
theorem Qbu_ {k:ByteArray} (h:∀q,¬isKey k.data.toList q):zbu_ k=none:=by
 unfold zbu_;exact dif_neg fun ⟨q,hq⟩=>h q hq
abbrev Zca_:Int:=1073741824
noncomputable def ZB_:Int→List ByteArray→Int
  | a,[]=>a
  | a,k::ks=>if (zbu_ k).isSome=true then ZB_ (max a ((zbu_ k).getD 0)) ks else Zca_
theorem Qbj_ {k:ByteArray}:fits ((zbu_ k).getD 0):=by
 by_cases h:∃q,isKey k.data.toList q
 ·obtain ⟨⟨a,b,t⟩,hq⟩:=h;rw [QbJ_ hq];have:=hq;simp only [isKey,zy_] at this;unfold fits;simp only [Option.getD_some];omega
 ·rw [Qbu_ fun q hq=>h ⟨q,hq⟩];exact Zg_
theorem zau_:∀{ks:List ByteArray} {a:Int},fits a→fits (ZB_ a ks)
 | [],a,h=>h
 | k::ks,a,h=>by
  unfold ZB_;split
  ·refine zau_ ?_;have:=Qbj_ (k:=k);unfold fits at*;omega
  ·unfold fits Zca_;omega
structure PS where
  sh:Int
  t:TS
  done:List (K3×Int)
def forMe (s:PS) (m:Message):Prop:=m.To=s.sh∧m.From=m.Txn.Node
instance {s:PS} {m:Message}:Decidable (forMe s m):=by unfold forMe;infer_instance
def isP (s:PS) (x:Txn):Prop:=(mget x.k s.t.works).isSome=true
instance {s:PS} {x:Txn}:Decidable (isP s x):=by unfold isP;infer_instance
def isD (s:PS) (x:Txn):Prop:=(mget x.k s.done).isSome=true
instance {s:PS} {x:Txn}:Decidable (isD s x):=by unfold isD;infer_instance
theorem qah_ {s:PS} {x:Txn}:isP s x↔∃w,gW s.t x.k=some w:=by
 unfold isP gW
 cases mget x.k s.t.works<;>simp
noncomputable def Zy_ (s:PS) (x:Txn):Int:=if isP s x then ZB_ 0 ((mget x.k s.t.works).getD zCW).2.ks else 0
theorem ZaY_ {s:PS} {x:Txn}:fits (Zy_ s x):=by
 unfold Zy_;split
 ·exact zau_ Zg_
 ·exact Zg_
def zah_ (s:PS) (m:Message) (y:Bool):Message:={Qk_ with From:=s.sh,To:=m.From,Kind:=2,Txn:=m.Txn,Yes:=y}
def ackM (s:PS) (m:Message):Message:={Qk_ with From:=s.sh,To:=m.From,Kind:=4,Txn:=m.Txn}
def askM (s:PS) (x:Txn):Message:={Qk_ with From:=s.sh,To:=x.Node,Kind:=5,Txn:=x}
def recP (m:Message):Rec:=⟨2,m.Txn,m.Work,false,[]⟩
def recA (m:Message):Rec:=⟨3,m.Txn,zac_,m.Yes,[]⟩
def zk_ (s:PS) (m:Message):List Message:=
  if ¬forMe s m then [] else
  if m.Kind=1 then (if isD s m.Txn then [] else [zah_ s m (decide (isP s m.Txn∨zK_ s.t m.Txn m.Work=0))])
  else if m.Kind=3 then [ackM s m] else []
def qh_ (s:PS) (m:Message):List Rec:=
  if ¬forMe s m then [] else
  if m.Kind=1 then (if isD s m.Txn then [] else if isP s m.Txn then [] else if zK_ s.t m.Txn m.Work=0 then [recP m] else [])
  else if m.Kind=3 then (if isP s m.Txn then [recA m] else []) else []
noncomputable def Zm_ (s:PS) (m:Message) (cs:List Value):PS:=
  if ¬forMe s m then s else
  if m.Kind=1 then (if isD s m.Txn then s else if isP s m.Txn then s else if zK_ s.t m.Txn m.Work=0 then ⟨s.sh,QV_ s.t m.Txn m.Work cs,s.done⟩ else s)
  else if m.Kind=3 then (if isP s m.Txn then ⟨s.sh,Zw_ s.t m.Txn m.Yes,if m.Yes=true then mset m.Txn.k (Zy_ s m.Txn) s.done else s.done⟩ else s) else s
structure OkM (m:Message):Prop where
  w:OkW m.Work
  x:okX m.Txn.k
structure PInv (n:Nat) (s:PS):Prop where
  t:Inv n s.t
  dd:(s.done.map (·.1)).Nodup
  dn:s.done.length≤n
  dv:∀x v,mget x s.done=some v→okX x∧fits v
  ap:∀x v,mget x s.done=some v→gW s.t x=none
  sh:fits s.sh
theorem PInv.more {n n':Nat} {s:PS} (h:PInv n s) (hn:n≤n'):PInv n' s:={h with t:=h.t.more hn,dn:=Nat.le_trans h.dn hn}
theorem qej_ {sh:Int} (h:fits sh):PInv 0 ⟨sh,⟨[],[],[]⟩,[]⟩:=⟨inv0,by simp,by simp,fun x v h=>(by cases h),fun x v h=>(by cases h),h⟩
theorem PInv.hear {n:Nat} {s:PS} {m:Message} {cs:List Value} (h:PInv n s) (hm:OkM m):PInv (n+1) (Zm_ s m cs):=by
 have h0:=h.more (Nat.le_succ n);unfold Zm_;split
 ·exact h0
 split
 ·split
  ·exact h0
  next hd=>
  split
  ·exact h0
  next hp=>
  split
  ·next he=>
   refine ⟨h.t.prep hm.w hm.x he,h.dd,h0.dn,h.dv,fun x v hx=>?_,h.sh⟩;show gW (QV_ s.t m.Txn m.Work cs) x=none;rw [qbm_,if_neg]
   ·exact h.ap x v hx
   ·rintro rfl;apply hd;unfold isD;have hx':mget m.Txn.k s.done=some v:=hx;rw [hx'];rfl
  ·exact h0
 split
 ·split
  ·next hp=>
   obtain ⟨w,hw⟩:=qah_.1 hp;have ht:=h.t.apply (yes:=m.Yes) hw;have hge:=fun k=>qaM_ (s:=s.t) h.t.wd (x:=m.Txn) (w:=w) (yes:=m.Yes) k
   have e:Zw_ s.t m.Txn m.Yes=ZH_ s.t m.Txn m.Yes w:=by
    unfold Zw_;unfold gW at hw;have hp2:(mget m.Txn.k s.t.works).isSome=true:=hp;rw [if_pos hp2]
    cases hq:mget m.Txn.k s.t.works with
    | none=>rw [hq] at hw;cases hw
    | some q=>rw [hq] at hw;cases hw;rfl
   rw [e]
   have hap:∀x v,mget x s.done=some v→gW (ZH_ s.t m.Txn m.Yes w) x=none:=fun x v hx=>by
    rw [hge];split
    ·rfl
    ·exact h.ap x v hx
   cases hy:m.Yes with
   | false=>
    rw [hy] at ht hap;exact ⟨ht,h.dd,h0.dn,h.dv,hap,h.sh⟩
   | true=>
    rw [hy] at ht hap hge;refine ⟨ht,Zk_ h.dd,?_,fun x v hx=>?_,fun x v hx=>?_,h.sh⟩
    ·show (mset m.Txn.k (Zy_ s m.Txn) s.done).length≤_;rw [QS_];have:=h.dn;split<;>omega
    ·have hx':mget x (mset m.Txn.k (Zy_ s m.Txn) s.done)=some v:=hx;rw [Zf_] at hx';split at hx'
     ·next e=>subst e;cases hx';exact ⟨hm.x,ZaY_⟩
     ·exact h.dv x v hx'
    ·have hx':mget x (mset m.Txn.k (Zy_ s m.Txn) s.done)=some v:=hx;rw [Zf_] at hx';show gW (ZH_ s.t m.Txn true w) x=none;rw [hge];split at hx'
     ·next e=>rw [if_pos e]
     ·next e=>rw [if_neg e];exact h.ap x v hx'
  ·exact h0
 ·exact h0
def zde_ (s:PS) (k:K3):PartDone:=⟨toTx k,(mget k s.done).getD 0⟩
def Qde_ (s:PS):List PartDone:=(sort3 (s.done.map (·.1))).map (zde_ s)
abbrev pRow (p tp:Nat) (sh:Int) (db:Nat):za_:=row p 122 [.pointer (some ⟨tp,0,none⟩),I sh,.map (some db)]
abbrev dMap (H:Heap) (db:Nat) (s:PS):za_:=mapO ek3 rInt false H db s.done
def zv_ (H:Heap) (p:Nat) (s:PS):za_:=fun h=>∃tp db,big [pRow p tp s.sh db,tabO H tp s.t,dMap H db s] h
theorem zbJ_ {H:Heap} {p tp db:Nat} {s:PS} {L:List za_}:Sub (pRow p tp s.sh db::tabO H tp s.t::dMap H db s::L) (zv_ H p s::L):=
 qB_ (B:=[pRow p tp s.sh db,tabO H tp s.t,dMap H db s]) (Sub.refl _) fun h hb=>⟨tp,db,hb⟩
theorem d_up {H H':Heap} {db:Nat} {l:List (K3×Int)} {L:List za_} (hl:H.le H'):Sub (mapO ek3 rInt false H db l::L) (mapO ek3 rInt false H' db l::L):=QaE_ hl
theorem zdN_ {H H':Heap} {p:Nat} {s:PS} {L:List za_} (hl:H.le H'):Sub (zv_ H p s::L) (zv_ H' p s::L):=fun h ⟨h1,h2,⟨tp,db,hbig⟩,r⟩=>by
 refine ⟨h1,h2,⟨tp,db,?_⟩,r⟩;obtain ⟨a1,a2,x1,⟨b1,b2,x2,y2,z2⟩,z1⟩:=hbig;have k:=qap_ (L:=[dMap H db s]) hl _ ⟨b1,b2,x2,y2,z2⟩;obtain ⟨c1,c2,u1,u2,u3⟩:=k;exact ⟨a1,a2,x1,⟨c1,c2,u1,(d_up (L:=[]) hl _ (by exact u2)),u3⟩,z1⟩
theorem Zs_ {H1 H2 H':Heap} {p tp db:Nat} {sh:Int} {t:TS} {d:List (K3×Int)} {L:List za_} (h1:H1.le H') (h2:H2.le H'):Sub (pRow p tp sh db::tabO H1 tp t::mapO ek3 rInt false H2 db d::L) (zv_ H' p ⟨sh,t,d⟩::L):=
 Sub.trans (Sub.cons (Sub.trans (qap_ h1) (Sub.cons (d_up h2)))) (zbJ_ (s:=⟨sh,t,d⟩))
theorem Zdd_ {W0:World} {H:Heap} {sh:Int} (hsh:fits sh):
  Ct Tryz.prog 33 #[I sh] W0 H [] (fun r H' B=>∃p,r= .pointer (some ⟨p,0,none⟩)∧B=[zv_ H p ⟨sh,⟨[],[],[]⟩,[]⟩]∧H'=H):=by
 refine Ct.go (vs:=[I sh]) fun R=>?_;refine walk ?_;refine Za_ (vs:=[]) rfl rfl new_spec fun r1 H1 B hl1 ⟨tp,er,eB,eH⟩=>?_;subst er eB eH;refine walk ?_;refine qs_ ek3 rInt false rfl fun db _=>?_;refine walk ?_;refine qc_ rfl rfl fun p _=>?_;refine walk ?_;refine finB [zv_ H1 p ⟨sh,⟨[],[],[]⟩,[]⟩] ?_ (hs:=?_)
 ·exact ⟨p,rfl,rfl,rfl⟩
 ·refine Sub.trans ?_ (zbJ_ (tp:=tp) (db:=db) (s:=⟨sh,⟨[],[],[]⟩,[]⟩));exact subA
theorem qde_ {W0:World} {H:Heap} {c:List Value} {m:Work} (h0:Qi_ H c m):
  Ct Tryz.prog 102 #[.agg c.toArray] W0 H [] (fun r H' B=>∃cs,r= .agg cs.toArray∧Qi_ H' cs m∧B=[]):=by
 exact v12_
theorem tx_ext {a b:Txn}:a=b↔a.Node=b.Node∧a.Life=b.Life∧a.Count=b.Count:=by cases a;cases b;simp
theorem qeb_ {W0:World} {H:Heap} {p:Nat} {x:Txn}:Asks Tryz.prog W0 H rRec 132 [.pointer (some ⟨p,0,none⟩)] (fun c=> .agg c.toArray) [row p 47 [I x.Node,I x.Life,I x.Count]] (fun q=>decide (q.Txn=x)):=by
 intro c q hc;refine Ct.go (vs:=[.agg c.toArray,.pointer (some ⟨p,0,none⟩)]) fun R=>?_;obtain ⟨s1,s2,s3,rfl,g1,g2,g3,g4,g5,g6,g7,g8⟩:=hc;obtain ⟨b1,c1,rfl,_,_⟩:=g6.1.shape;obtain ⟨b2,c2,rfl,_,_⟩:=g7.1.shape;obtain ⟨b3,c3,rfl,_,_⟩:=g8.1.shape;obtain ⟨x1,x2,x3⟩:=x;refine walk ?_;refine qc_ rfl rfl fun p2 _=>?_;refine walk ?_;refine finB [row p 47 [I x1,I x2,I x3]] ?_;exact ⟨bdec tx_ext.symm,rfl,rfl⟩
theorem Qca_ {W0:World} {H HS:Heap} {v:Value} {xs:List Rec} {f:FuncId} {cap:List Value} {a:za_} {p:Rec→Bool} [hf:TFn Tryz.prog f] (hl:HS.le H) (hask:Asks Tryz.prog W0 H rRec f cap (fun c=> .agg c.toArray) [a] p):
  Ct Tryz.prog 155 #[v,.func (.func f) #[] cap.toArray] W0 H [ownS rRec 9 120 53 HS v xs,a]
   (fun r H' B=>B=[ownS rRec 9 120 53 HS v xs,a]∧H'=H∧∃j,j≤xs.length∧(∀i (h:i<xs.length),i<j→p xs[i]=false)∧((j=xs.length∧r=I (-1))∨(∃h:j<xs.length,p xs[j]=true∧r=I j))):=by
 refine Ct.go fun R=>?_;refine Qs_ v fun base cp e q1 q2 q3=>?_;subst e;refine walk ?_;refine Qc_ (fun k=>k≤xs.length∧∀i (h:i<xs.length),i<k→p xs[i]=false) (fun k=>[(0,.slice base xs.length cp),(1,.func (.func f) #[] cap.toArray),(7,I xs.length),(8,I k)]) (fun _=>H) (fun _=>ownS rRec 9 120 53 HS (.slice base xs.length cp) xs::a::R) (fun k=>xs.length - k) 0 ⟨Nat.zero_le _,fun i _ h=>by omega⟩ fun k ⟨hk0,hno⟩ K hL=>?_;refine walk ?_;refine Qe_ rfl (fun hk=>?_) (fun hk=>?_)
 ·have hk1:k<xs.length:=by omega
  refine walk ?_;refine qbp_ rfl rfl rfl hk1 fun c hc=>?_;refine zaU_ rfl rfl rfl (hask c _ (RdOk.mono hl hc)) fun r H' B hl' ⟨er,eB,eH⟩=>?_;subst er eB eH;refine walk ?_;refine QI_ rfl Iff.rfl (fun hp=>?_) (fun hp=>?_)
  ·refine walk ?_;refine finB [ownS rRec 9 120 53 HS (.slice base xs.length cp) xs,a] ?_;exact ⟨rfl,rfl,k,hk0,hno,.inr ⟨hk1,hp,rfl⟩⟩
  ·exact v65_
 ·refine walk ?_;refine finB [ownS rRec 9 120 53 HS (.slice base xs.length cp) xs,a] ?_;exact v95_
theorem QdN_ {s:PS} {x:Txn} (hn:(s.t.works.map (·.1)).Nodup):isP s x↔∃q∈prepL s.t,q.Txn=x:=by
 have hp:=Qaj_ hn;constructor
 ·intro h;obtain ⟨w,hw⟩:=qah_.1 h;exact ⟨recW x w,(hp.mem _).2 ⟨w,hw,rfl⟩,rfl⟩
 ·rintro ⟨q,hq,rfl⟩;obtain ⟨w,hw,_⟩:=(hp.mem q).1 hq;exact qah_.2 ⟨w,hw⟩
theorem qbu_ {W0:World} {H HS:Heap} {v:Value} {xs:List Rec} {p:Nat} {x:Txn} (hl:HS.le H):
  Ct Tryz.prog 131 #[v,.func (.func 132) #[] #[.pointer (some ⟨p,0,none⟩)]] W0 H [ownS rRec 9 120 53 HS v xs,row p 47 [I x.Node,I x.Life,I x.Count]]
   (fun r H' B=>r= .bool (decide (∃q∈xs,q.Txn=x))∧B=[ownS rRec 9 120 53 HS v xs,row p 47 [I x.Node,I x.Life,I x.Count]]∧H'=H):=by
 refine Ct.go (vs:=[v,.func (.func 132) #[] #[.pointer (some ⟨p,0,none⟩)]]) fun R=>?_;refine walk ?_;refine Za_ rfl rfl (Qca_ (W0:=W0) (H:=H) (HS:=HS) (v:=v) (xs:=xs) hl (qeb_ (p:=p) (x:=x))) fun r1 H1 B hl1 ⟨eB,eH,j,hj,hno,hcase⟩=>?_;subst eB eH;rcases hcase with ⟨rfl,rfl⟩ | ⟨hj1,hpj,rfl⟩
 ·refine walk ?_;refine finB [ownS rRec 9 120 53 HS v xs,row p 47 [I x.Node,I x.Life,I x.Count]] ?_;refine ⟨?_,rfl,rfl⟩;rw [decide_eq_false];rintro ⟨q,hq,hx⟩;obtain ⟨i,hi,rfl⟩:=List.getElem_of_mem hq;have:=hno i hi hi;rw [decide_eq_false_iff_not] at this;exact this hx
 ·have hge:(0:Int)≤(j:Int):=by omega
  refine walk ?_;refine finB [ownS rRec 9 120 53 HS v xs,row p 47 [I x.Node,I x.Life,I x.Count]] ?_;refine ⟨?_,rfl,rfl⟩;rw [decide_eq_true];exact ⟨_,List.getElem_mem hj1,of_decide_eq_true hpj⟩
theorem ZdN_ {W0:World} {H:Heap} {p:Nat} {s:PS} {x:Txn} (hs:TsOk s.t) (hn:(s.t.works.map (·.1)).Nodup):
  Ct Tryz.prog 100 #[.pointer (some ⟨p,0,none⟩),.agg x.cv.toArray] W0 H [zv_ H p s] (fun r H' B=>r= .bool (decide (isP s x))∧B=[zv_ H' p s]):=by
 refine Ct.go (vs:=[.pointer (some ⟨p,0,none⟩),.agg x.cv.toArray]) fun R=>?_;rw [decide_eq_decide.2 (QdN_ hn)];refine Qj_ (A:=zv_ H p s) (σ:=Nat×Nat) (B:=fun a=>[pRow p a.1 (PS.sh s) a.2,tabO H a.1 (PS.t s),dMap H a.2 s]) (p:=fun _=>True) (by repeat (first | exact Has.here | apply Has.there)) (fun h ⟨tp,db,hbig⟩=>⟨(tp,db),trivial,hbig⟩) fun ⟨tp,db⟩ _=>?_;dsimp only;refine walk ?_;refine qc_ rfl rfl fun p3 _=>?_;refine walk ?_;refine Za_ rfl rfl (QZ_ (W0:=W0) (H:=H) (p:=tp) hs) fun r1 H1 B hl1 eB=>?_;subst eB;refine walk ?_;refine Za_ rfl rfl (qbu_ (W0:=W0) (H:=H1) (HS:=H1) (v:=r1) (xs:=prepL s.t) (p:=p3) (x:=x) (.refl _)) fun r2 H2 B hl2 ⟨er,eB,eH⟩=>?_;subst er eB eH;refine walk ?_;refine finB [zv_ H2 p s] ?_ (hs:=?_)
 ·exact ⟨rfl,rfl⟩
 ·refine Sub.trans ?_ (Zs_ (H1:=H2) (H2:=H) (tp:=tp) (db:=db) (.refl _) hl1);exact subA
end Go.Proofs.YtlflbkpmfhhikaaGreatDoor
set_option maxHeartbeats 16000000
set_option maxRecDepth 100000
namespace Go.Proofs.YtlflbkpmfhhikaaGreatDoor
open Go Go.Sx Go.Proofs
noncomputable def QaY_ (c:Int→Int):Int→List ByteArray→Int
  | a,[]=>c a
  | a,k::ks=>if (zbu_ k).isSome=true then QaY_ c (max a ((zbu_ k).getD 0)) ks else Zca_
noncomputable def zY_ (x:Txn):Int→List Rec→Int
  | a,[]=>a
  | a,q::l=>if q.Txn=x then QaY_ (fun a=>zY_ x a l) a q.Work.ks else zY_ x a l
theorem qbJ_:∀{ks:List ByteArray} {a:Int},QaY_ (fun a=>a) a ks=ZB_ a ks
 | [],a=>rfl
 | k::ks,a=>by unfold QaY_ ZB_;rw [qbJ_]
theorem qau_ {x:Txn}:∀{l:List Rec} {a:Int},(∀q∈l,q.Txn≠x)→zY_ x a l=a
 | [],a,_=>rfl
 | q::l,a,h=>by
  unfold zY_;rw [if_neg (h q (List.mem_cons_self ..)),qau_ fun q hq=>h q (List.mem_cons_of_mem _ hq)]
theorem zbj_ {x:Txn}:∀{l:List Rec} {a:Int} {q:Rec},l.Pairwise (fun a b=>ltK a.Txn.k b.Txn.k)→q∈l→q.Txn=x→zY_ x a l=ZB_ a q.Work.ks
 | q::l,a,q',hr,hq,hx=>by
  rw [List.pairwise_cons] at hr;unfold zY_;rcases List.mem_cons.1 hq with rfl | hq
  ·rw [if_pos hx]
   have hno:∀q∈l,q.Txn≠x:=fun q hq e=>by
    have:=hr.1 q hq;rw [hx,e] at this;exact ZO_ this
   have:(fun a=>zY_ x a l)=fun a=>a:=funext fun a=>qau_ hno;rw [this,qbJ_]
  ·rw [if_neg,zbj_ hr.2 hq hx];intro e;have:=hr.1 q' hq;rw [hx,e] at this;exact ZO_ this
theorem Qdd_ {s:PS} {x:Txn} (hn:(s.t.works.map (·.1)).Nodup):zY_ x 0 (prepL s.t)=Zy_ s x:=by
 have hp:=Qaj_ hn;unfold Zy_;by_cases h:isP s x
 ·rw [if_pos h];obtain ⟨w,hw⟩:=qah_.1 h;have hm:=(hp.mem (recW x w)).2 ⟨w,hw,rfl⟩;rw [zbj_ (x:=x) hp.rise hm (rfl:(recW x w).Txn=x)];unfold gW at hw
  cases hq:mget x.k s.t.works with
  | none=>rw [hq] at hw;cases hw
  | some v=>rw [hq] at hw;cases hw;rfl
 ·rw [if_neg h,qau_];rintro q hq rfl;obtain ⟨w,hw,_⟩:=(hp.mem q).1 hq;exact h (qah_.2 ⟨w,hw⟩)
theorem v39_ {P:Prop} (h:P:=by
 have ht:=QbJ_ hkk;rw [ht,if_pos (show (some kt).isSome=true from rfl),show (some kt).getD 0=kt from rfl] at hF2;have hft:fits kt:=by have:=Qbj_ (k:=ks[i]);rw [ht] at this;exact this
 rw [show (!true)=false from rfl];refine walk ?_;exact Zb_ hL2 (i+1,max a2 kt) ⟨by simp only;omega,hF2,by simp only;unfold fits at*;omega⟩):P:=h
theorem ZcB_ {W0:World} {H:Heap} {p:Nat} {s:PS} {x:Txn} (hP:PkH H) (hs:TsOk s.t) (hn:(s.t.works.map (·.1)).Nodup) (hks:∀q∈prepL s.t,q.Work.ks.length*16≤zb_):
  Ct Tryz.prog 103 #[.pointer (some ⟨p,0,none⟩),.agg x.cv.toArray] W0 H [zv_ H p s] (fun r H' B=>r=I (Zy_ s x)∧B=[zv_ H' p s]):=by
 refine Ct.go (vs:=[.pointer (some ⟨p,0,none⟩),.agg x.cv.toArray]) fun R=>?_;rw [←Qdd_ hn];obtain ⟨x1,x2,x3⟩:=x;refine Qj_ (A:=zv_ H p s) (σ:=Nat×Nat) (B:=fun a=>[pRow p a.1 (PS.sh s) a.2,tabO H a.1 (PS.t s),dMap H a.2 s]) (p:=fun _=>True) (by repeat (first | exact Has.here | apply Has.there)) (fun h ⟨tp,db,hbig⟩=>⟨(tp,db),trivial,hbig⟩) fun ⟨tp,db⟩ _=>?_;dsimp only;refine walk ?_;refine qc_ rfl rfl fun p3 _=>?_;refine walk ?_;refine Za_ rfl rfl (QZ_ (W0:=W0) (H:=H) (p:=tp) hs) fun r1 H1 B hl1 eB=>?_;subst eB;refine Zd_ r1 fun H2 hl2 hsl=>?_;generalize hl:prepL s.t=l at*;generalize hT:zY_ ⟨x1,x2,x3⟩ 0 l=T;obtain ⟨b0,c0,rfl,hc0,hd0⟩:=hsl.1.shape;refine walk ?_;refine Qc_ (σ:=Nat×Int×Heap) (fun u=>u.1≤l.length∧zY_ ⟨x1,x2,x3⟩ u.2.1 (l.drop u.1)=T∧fits u.2.1∧H2.le u.2.2) (fun u=>[(0,.pointer (some ⟨p,0,none⟩)),(3,.pointer (some ⟨p3,0,none⟩)),(5,I u.2.1),(16,.slice b0 l.length c0),(17,I l.length),(18,I u.1)]) (fun u=>u.2.2) (fun u=>pRow p tp s.sh db::tabO H1 tp s.t::dMap H db s::row p3 47 [I x1,I x2,I x3]::R) (fun u=>l.length - u.1) (0,0,H2) ⟨Nat.zero_le _,hT,Zg_,.refl _⟩ fun ⟨j,a,HK⟩ ⟨hj0,hF,hfa,hlK⟩ K hL=>?_;simp only at hj0 hF hfa hlK;dsimp only;have hPK:=hP.mono (hl1.trans (hl2.trans hlK));refine walk ?_;refine Qe_ rfl (fun hj=>?_) (fun hj=>?_)
 ·have hj1:j<l.length:=by omega
  have hkq:=hks l[j] (List.getElem_mem hj1);rw [List.drop_eq_getElem_cons hj1] at hF;unfold zY_ at hF;refine walk ?_;refine qe_ rfl rfl (hsl.mono hlK).1 hj1 fun b o c hr hc=>?_;obtain ⟨s1,s2,s3,rfl,g1,g2,g3,g4,g5,g6,g7,g8⟩:=hc;generalize l[j]=q at hr g1 g2 g3 g4 g5 g6 g7 g8 hF hkq;obtain ⟨qk,⟨xa,xb,xc⟩,⟨wr,wt,wd⟩,qy,qp⟩:=q;dsimp only at hr g1 g2 g3 g4 g5 g6 g7 g8 hF hkq;obtain ⟨sb1,sc1,rfl,_,_⟩:=g6.1.shape;obtain ⟨sb2,sc2,rfl,_,_⟩:=g7.1.shape;obtain ⟨sb3,sc3,rfl,_,_⟩:=g8.1.shape;change HRow HK b o [I qk,I xa,I xb,I xc,I wr,.slice sb1 wt.length sc1,.slice sb2 wd.length sc2,.bool qy,.slice sb3 qp.length sc3] at hr;refine zg_ rfl rfl hr rfl ?_;refine Qb_ rfl fun p7 _=>?_;refine walk ?_;refine Qe_ rfl (fun hq=>?_) (fun hq=>?_)
  ·rw [if_neg (fun e=>hq (by simpa using tx_ext.1 e))] at hF;refine walk ?_;exact Zb_ hL (j+1,a,HK) ⟨by simp only;omega,hF,hfa,hlK⟩
  ·have hq':(⟨xa,xb,xc⟩:Txn)=⟨x1,x2,x3⟩:=Classical.byContradiction fun h=>hq fun e=>h (tx_ext.2 e);rw [if_pos hq'] at hF;generalize hcn:(fun a=>zY_ ⟨x1,x2,x3⟩ a (l.drop (j+1)))=cn at hF;refine walk ?_;refine qat_ rfl rfl fun pb _=>?_;refine zL_ .here fun H3 hl3 hr3=>?_;have hwn':(wt.length+wd.length)*16≤zb_:=by simpa [Work.ks] using hkq
   have hsr:SlR (rSl rStr 1 16) 1 H3 (.slice (some ⟨pb,0,none⟩) 2 2) [wt,wd]:=Qn_ (R:=rSl rStr 1 16) (xs:=[wt,wd]) hr3 (show RL (rSl rStr 1 16) H3 [.slice sb1 wt.length sc1,.slice sb2 wd.length sc2] [wt,wd] from ⟨[_],[_],rfl,⟨_,rfl,g6.mono hl3⟩,⟨[_],[],rfl,⟨_,rfl,g7.mono hl3⟩,rfl⟩⟩) (by simp) (by omega);have hcat:=QP_ (W0:=W0) hsr (by simpa [Zx_] using hwn');rw [show [wt,wd].flatten=(⟨wr,wt,wd⟩:Work).ks by simp [Work.ks]] at hcat;generalize hks2:(⟨wr,wt,wd⟩:Work).ks=ks at hcat hF hkq;refine Za_ rfl rfl hcat fun r4 H4 B hl4 ⟨eB,eH⟩=>?_;subst eB eH;refine Zd_ r4 fun H5 hl5 hsk=>?_;obtain ⟨bk,ck,rfl,hck,hdk⟩:=hsk.1.shape;have hl25:H2.le H5:=hlK.trans (hl3.trans (hl4.trans hl5));have hP5:=hPK.mono (hl3.trans (hl4.trans hl5));refine walk ?_;refine Qc_ (σ:=Nat×Int) (fun u=>u.1≤ks.length∧QaY_ cn u.2 (ks.drop u.1)=T∧fits u.2) (fun u=>[(0,.pointer (some ⟨p,0,none⟩)),(3,.pointer (some ⟨p3,0,none⟩)),(5,I u.2),(16,.slice b0 l.length c0),(17,I l.length),(18,I j),(33,.slice bk ks.length ck),(34,I ks.length),(35,I u.1)]) (fun _=>H5) (fun _=>pRow p tp s.sh db::tabO H1 tp s.t::dMap H db s::row p3 47 [I x1,I x2,I x3]::R) (fun u=>ks.length - u.1) (0,a) ⟨Nat.zero_le _,hF,hfa⟩ fun ⟨i,a2⟩ ⟨hi0,hF2,hfa2⟩ K2 hL2=>?_;simp only at hi0 hF2 hfa2;dsimp only;refine walk ?_;refine Qe_ rfl (fun hi=>?_) (fun hi=>?_)
   ·have hi1:i<ks.length:=by omega
    rw [List.drop_eq_getElem_cons hi1] at hF2;unfold QaY_ at hF2;have hrd:=fun (hz:ks[i].data.toList.length≤zb_)=>QcY_ (W0:=W0) (l:=ks[i].data.toList) hP5 hz;rw [zcK_] at hrd;refine walk ?_;refine qe_ rfl rfl hsk.1 hi1 fun b o c hr hc=>?_;obtain ⟨rfl,hsz⟩:=hc;refine walk ?_;refine Za_ rfl rfl (hrd (by rw [←Lib.size_eq];exact hsz)) fun r6 H6 B hl6 ⟨hrr,eB,eH⟩=>?_;subst eB eH;obtain ⟨ka,kb,kt,ok,rfl,hkk⟩:=hrr.form;refine walk ?_;refine Qb_ rfl fun p10 _=>?_;refine walk ?_;rcases hkk with ⟨rfl,hkk⟩ | ⟨rfl,hno,rfl,rfl,rfl⟩
    ·exact v39_
    ·have ht:=Qbu_ hno;rw [ht,if_neg (by simp)] at hF2;rw [show (!false)=true from rfl];refine walk ?_;rw [←hF2];refine finB [zv_ H6 p s] ?_ (hs:=?_)
     ·exact ⟨rfl,rfl⟩
     ·refine Sub.trans ?_ (Zs_ (H1:=H1) (H2:=H) (tp:=tp) (db:=db) (hl2.trans hl25) (hl1.trans (hl2.trans hl25)));exact subA
   clear hL2;obtain rfl:i=ks.length:=by omega
   rw [List.drop_length] at hF2;unfold QaY_ at hF2;rw [←hcn] at hF2;refine walk ?_;exact Zb_ hL (j+1,a2,H5) ⟨by simp only;omega,hF2,hfa2,hl25⟩
 clear hL;obtain rfl:j=l.length:=by omega
 rw [List.drop_length] at hF;unfold zY_ at hF;refine walk ?_;rw [←hF];refine finB [zv_ HK p s] ?_ (hs:=?_)
 ·exact ⟨rfl,rfl⟩
 ·refine Sub.trans ?_ (Zs_ (H1:=H1) (H2:=H) (tp:=tp) (db:=db) (hl2.trans hlK) (hl1.trans (hl2.trans hlK)));exact subA
end Go.Proofs.YtlflbkpmfhhikaaGreatDoor
