/- The reference's coordinator goes along. No program in sight. -/
import Derived.Test.YtlflbkpmfhhikaaGreatDoorJQA
set_option linter.unusedVariables false
set_option linter.unusedSimpArgs false
namespace Go.Proofs.YtlflbkpmfhhikaaGreatDoor
open Go Go.Sx Go.Proofs
end Go.Proofs.YtlflbkpmfhhikaaGreatDoor
namespace Go.Proofs.YtlflbkpmfhhikaaGreatDoor
open Go Go.Sx Go.Proofs
structure TX where
  op:Bool
  began:Int
  parts:List Int
  works:List (Int×CW)
  heard:List (Int×Int)
structure CS where
  node:Int
  life:Int
  count:Int
  ts:List (K3×TX)
def TX.hd (t:TX) (p:Int):Bool:=(mget p t.heard).isSome
def TX.wk (t:TX) (p:Int):Work:=((mget p t.works).getD zCW).2
def ZB_ (n:Int) (x:Txn) (p:Int) (w:Work):Message:={Zk_ with From:=n,To:=p,Kind:=1,Txn:=x,Work:=w}
def decM (n:Int) (x:Txn) (p:Int) (y:Bool):Message:={Zk_ with From:=n,To:=p,Kind:=3,Txn:=x,Yes:=y}
def qbF_ (n:Int) (x:Txn) (t:TX) (p:Int):Message:=if t.op=true then decM n x p true else ZB_ n x p (t.wk p)
def Zi_ (n:Int) (x:Txn) (t:TX):List Message:=(t.parts.filter fun p=> !t.hd p).map (qbF_ n x t)
def noL (n:Int) (x:Txn) (t:TX):List Message:=t.parts.map fun p=>decM n x p false
def qP_ (x:Txn) (y d:Bool):CoordOutcome:=⟨x,y,d⟩
def recC (x:Txn) (ps:List Int):Rec:=⟨4,x,Qae_,false,ps⟩
def recE (x:Txn):Rec:=⟨5,x,Qae_,false,[]⟩
def works0 (i:Int):List Work→List (Int×Work)
  | []=>[]
  | w::l=>if 0<w.Take.length+w.Drop.length then (i,w)::works0 (i+1) l else works0 (i+1) l
theorem qaa_ {i:Int}:∀{l:List Work} {j:Int},i≤j→∀q∈works0 j l,i≤q.1∧q.1<j+l.length
 | [],j,_,q,h=>by cases h
 | w::l,j,hj,q,h=>by
  unfold works0 at h;simp only [List.length_cons];split at h
  ·rcases List.mem_cons.1 h with rfl | h
   ·simp only;omega
   ·have:=qaa_ (i:=i) (l:=l) (j:=j+1) (by omega) q h;omega
  ·have:=qaa_ (i:=i) (l:=l) (j:=j+1) (by omega) q h;omega
theorem works0_rise:∀{l:List Work} {j:Int},((works0 j l).map (·.1)).Pairwise (· < ·)
 | [],j=>by simp [works0]
 | w::l,j=>by
  unfold works0;split
  ·rw [List.map_cons,List.pairwise_cons];refine ⟨fun a ha=>?_,works0_rise⟩;obtain ⟨q,hq,rfl⟩:=List.mem_map.1 ha;have:=qaa_ (i:=j+1) (Int.le_refl _) q hq;omega
  ·exact works0_rise
def Zp_ (now:Int) (ws:List (Int×CW)):TX:=⟨false,now,ws.map (·.1),ws,[]⟩
def CS.put (s:CS) (k:K3) (t:TX):CS:=⟨s.node,s.life,s.count,mset k t s.ts⟩
def CS.cut (s:CS) (k:K3):CS:=⟨s.node,s.life,s.count,mdel k s.ts⟩
def newX (s:CS):Txn:=⟨s.node,s.life,s.count+1⟩
def Qg_ (s:CS) (now:Int) (ws:List (Int×CW)):CS:=if ws=[] then s else ⟨s.node,s.life,s.count+1,mset (newX s).k (Zp_ now ws) s.ts⟩
def zaV_ (s:CS) (ws:List (Int×Work)):List Message:=ws.map fun q=>ZB_ s.node (newX s) q.1 q.2
def forC (s:CS) (m:Message):Prop:=m.To=s.node∧m.Txn.Node=s.node
instance {s:CS} {m:Message}:Decidable (forC s m):=by unfold forC;infer_instance
def zTX:TX:=⟨false,0,[],[],[]⟩
def CS.isT (s:CS) (x:Txn):Prop:=(mget x.k s.ts).isSome=true
instance {s:CS} {x:Txn}:Decidable (s.isT x):=by unfold CS.isT;infer_instance
def CS.tx (s:CS) (x:Txn):TX:=(mget x.k s.ts).getD zTX
def CS.isPart (s:CS) (m:Message):Prop:=s.isT m.Txn∧m.From∈(s.tx m.Txn).parts
instance {s:CS} {m:Message}:Decidable (s.isPart m):=by unfold CS.isPart;infer_instance
def zy_ (t:TX) (p:Int):TX:={t with heard:=mset p 1 t.heard}
def zq_ (t:TX):Prop:=t.parts.length≤t.heard.length
instance {t:TX}:Decidable (zq_ t):=by unfold zq_;infer_instance
def ZaG_ (t:TX):TX:=⟨true,t.began,t.parts,[],[]⟩
structure CAns where
  s:CS
  out:List Message
  rc:List Rec
  oc:List CoordOutcome
def Zh_ (s:CS) (m:Message):CAns:=
  if ¬forC s m then ⟨s,[],[],[]⟩ else
  if m.Kind=5∧(¬s.isT m.Txn∨(s.tx m.Txn).op=true) then ⟨s,[decM s.node m.Txn m.From (decide (s.isT m.Txn))],[],[]⟩ else
  if m.Kind=2∧s.isPart m∧(s.tx m.Txn).op=false∧m.Yes=false then ⟨s.cut m.Txn.k,noL s.node m.Txn (s.tx m.Txn),[],[qP_ m.Txn false false]⟩ else
  if m.Kind=2∧s.isPart m∧(s.tx m.Txn).op=false then
    (if ¬zq_ (zy_ (s.tx m.Txn) m.From) then ⟨s.put m.Txn.k (zy_ (s.tx m.Txn) m.From),[],[],[]⟩
     else ⟨s.put m.Txn.k (ZaG_ (s.tx m.Txn)),Zi_ s.node m.Txn (ZaG_ (s.tx m.Txn)),[recC m.Txn (s.tx m.Txn).parts],[qP_ m.Txn true false]⟩) else
  if m.Kind=4∧s.isPart m∧(s.tx m.Txn).op=true then
    (if ¬zq_ (zy_ (s.tx m.Txn) m.From) then ⟨s.put m.Txn.k (zy_ (s.tx m.Txn) m.From),[],[],[]⟩
     else ⟨s.cut m.Txn.k,[],[recE m.Txn],[qP_ m.Txn true true]⟩) else
  ⟨s,[],[],[]⟩
def zbh_ (began now:Int):Prop:=began≤now∧8≤now - began
instance {a b:Int}:Decidable (zbh_ a b):=by unfold zbh_;infer_instance
def qv_ (t:TX) (now:Int):Prop:=t.op=false∧zbh_ t.began now
instance {t:TX} {now:Int}:Decidable (qv_ t now):=by unfold qv_;infer_instance
def allC (s:CS):List K3:=sort3 (s.ts.map (·.1))
def ZJ_ (s:CS) (now:Int) (k:K3):List Message:=
  if qv_ ((mget k s.ts).getD zTX) now then noL s.node (toTx k) ((mget k s.ts).getD zTX) else Zi_ s.node (toTx k) ((mget k s.ts).getD zTX)
def Qz_ (s:CS) (now:Int):List Message:=(allC s).flatMap (ZJ_ s now)
def QbT_ (s:CS) (now:Int):List CoordOutcome:=((allC s).filter fun k=>decide (qv_ ((mget k s.ts).getD zTX) now)).map fun k=>qP_ (toTx k) false false
def Qq_ (s:CS) (now:Int):CS:=⟨s.node,s.life,s.count,s.ts.filter fun q=> !decide (qv_ q.2 now)⟩
def qal_ (s:CS):List Txn:=((allC s).filter fun k=> !((mget k s.ts).getD zTX).op).map toTx
def openL (s:CS):List Rec:=((allC s).filter fun k=>((mget k s.ts).getD zTX).op).map fun k=>recC (toTx k) ((mget k s.ts).getD zTX).parts
structure TInv (t:TX):Prop where
  ne:t.parts≠[]
  rise:t.parts.Pairwise (· < ·)
  nn:∀p∈t.parts,0≤p∧fits p
  hn:(t.heard.map (·.1)).Nodup
  hp:∀q∈t.heard,q.1∈t.parts∧q.2=1
  hl:t.heard.length<t.parts.length
  wk:t.op=false→t.works.map (·.1)=t.parts
  bg:fits t.began
structure CInv (n:Nat) (s:CS):Prop where
  nd:(s.ts.map (·.1)).Nodup
  ln:s.ts.length≤n
  ti:∀k t,mget k s.ts=some t→TInv t
  kn:∀k t,mget k s.ts=some t→k.1=s.node∧fits k.2.1∧fits k.2.2∧k.2.1≤s.life∧(k.2.1=s.life→1≤k.2.2∧k.2.2≤s.count)
  c0:0≤s.count∧s.count≤n
  fn:fits s.node
  fl:fits s.life
theorem CInv.more {n n':Nat} {s:CS} (h:CInv n s) (hn:n≤n'):CInv n' s:={h with ln:=Nat.le_trans h.ln hn,c0:=by have:=h.c0;omega}
theorem Zey_ {node life:Int} (h:fits node) (h2:fits life):CInv 0 ⟨node,life,0,[]⟩:=⟨by simp,by simp,fun k t h=>(by cases h),fun k t h=>(by cases h),by simp,h,h2⟩
theorem TInv.parts_nodup {t:TX} (h:TInv t):t.parts.Nodup:=by
 rw [List.nodup_iff_pairwise_ne];exact h.rise.imp fun h e=>by omega
theorem ZA_ {α:Type} [DecidableEq α]:∀{a b:List α},a.Nodup→(∀x∈a,x∈b)→a.length≤b.length
 | [],b,_,_=>Nat.zero_le _
 | x::a,b,hn,h=>by
  rw [List.nodup_cons] at hn;have hx:=h x (List.mem_cons_self ..);have h1:=ZA_ (a:=a) (b:=b.erase x) hn.2 fun y hy=>(List.mem_erase_of_ne (fun e=>hn.1 (by rw [←e];exact hy))).2 (h y (List.mem_cons_of_mem _ hy));rw [List.length_erase_of_mem hx] at h1;have h2:=List.length_pos_of_mem hx;simp only [List.length_cons];omega
theorem Qbh_ {t:TX} {ps:List Int} {hs:List (Int×Int)} (hp:ps.Nodup) (hn:(hs.map (·.1)).Nodup) (hsub:∀q∈hs,q.1∈ps):ps.length≤hs.length↔∀p∈ps,(mget p hs).isSome=true:=by
 constructor
 ·intro hl p hm;refine Classical.byContradiction fun hc=>?_;have hno:mget p hs=none:=by simpa using hc
  have hk:=QL_.1 hno
  have hsub2:∀a∈p::hs.map (·.1),a∈ps:=fun a ha=>by
   rcases List.mem_cons.1 ha with rfl | ha
   ·exact hm
   ·obtain ⟨q,hq,rfl⟩:=List.mem_map.1 ha;exact hsub q hq
  have hnd:(p::hs.map (·.1)).Nodup:=List.nodup_cons.2 ⟨hk,hn⟩;have:=ZA_ hnd hsub2;simp only [List.length_cons,List.length_map] at this;omega
 ·intro h
  have hsub2:∀a∈ps,a∈hs.map (·.1):=fun a ha=>by
   have h1:=h a ha
   cases hg:mget a hs with
   | none=>rw [hg] at h1;cases h1
   | some v=>exact List.mem_map.2 ⟨_,qu_ hg,rfl⟩
  have:=ZA_ hp hsub2;simpa using this
theorem CS.get_tx {s:CS} {x:Txn} (h:s.isT x):mget x.k s.ts=some (s.tx x):=by
 unfold CS.isT at h;unfold CS.tx
 cases hg:mget x.k s.ts with
 | none=>rw [hg] at h;cases h
 | some t=>rfl
theorem CInv.tinv {n:Nat} {s:CS} (I:CInv n s) {x:Txn} (h:s.isT x):TInv (s.tx x):=I.ti _ _ (CS.get_tx h)
theorem qcn_ {κ ν:Type} [DecidableEq κ] {k:κ} {v:ν} {m:List (κ×ν)} (h:(mget k m).isSome=true):(mset k v m).length=m.length:=by
 rw [ZF_,if_pos];refine Classical.byContradiction fun hc=>?_;rw [QL_.2 hc] at h;cases h
theorem CInv.put {n:Nat} {s:CS} (I:CInv n s) {x:Txn} {t:TX} (h:s.isT x) (ht:TInv t):CInv n (s.put x.k t):=by
 have hl:(mset x.k t s.ts).length=s.ts.length:=qcn_ h;refine ⟨qj_ I.nd,?_,fun k t' hk=>?_,fun k t' hk=>?_,I.c0,I.fn,I.fl⟩
 ·show (mset x.k t s.ts).length≤n;rw [hl];exact I.ln
 ·have hk':mget k (mset x.k t s.ts)=some t':=hk;rw [Qe_] at hk';split at hk'
  ·cases hk';exact ht
  ·exact I.ti k t' hk'
 ·have hk':mget k (mset x.k t s.ts)=some t':=hk;rw [Qe_] at hk';split at hk'
  ·next e=>subst e;exact I.kn _ _ (CS.get_tx h)
  ·exact I.kn k t' hk'
theorem QJ_ {κ ν:Type} [DecidableEq κ] {m:List (κ×ν)} (hn:(m.map (·.1)).Nodup) {k k':κ} {v:ν} (h:mget k' (mdel k m)=some v):mget k' m=some v:=by
 have h1:=(zap_ (QP_ hn)).1 h;exact (zap_ hn).2 ((qaD_ k m).subset h1)
theorem CInv.cut {n:Nat} {s:CS} (I:CInv n s) {k:K3}:CInv n (s.cut k):=
 ⟨QP_ I.nd,Nat.le_trans QbD_ I.ln,fun k' t h=>I.ti k' t (QJ_ I.nd h),fun k' t h=>I.kn k' t (QJ_ I.nd h),I.c0,I.fn,I.fl⟩
theorem TInv.hear {t:TX} (h:TInv t) {p:Int} (hp:p∈t.parts) (hall:¬zq_ (zy_ t p)):TInv (zy_ t p):=by
 refine ⟨h.ne,h.rise,h.nn,qj_ h.hn,fun q hq=>?_,by unfold zq_ at hall;omega,h.wk,h.bg⟩;have h1:=zi_ (qj_ h.hn) (show q∈mset p 1 t.heard from hq);rw [Qe_] at h1;split at h1
 ·next e=>rw [e];exact ⟨hp,by simpa using h1.symm⟩
 ·exact h.hp q (qu_ h1)
theorem TInv.open {t:TX} (h:TInv t):TInv (ZaG_ t):=
 ⟨h.ne,h.rise,h.nn,by simp [ZaG_],fun q hq=>(by cases hq),by have:=List.length_pos_iff.2 h.ne;simpa [ZaG_] using this,fun e=>(by cases e),h.bg⟩
theorem CInv.hear {n:Nat} {s:CS} (I:CInv n s) {m:Message}:CInv n (Zh_ s m).s:=by
 unfold Zh_;split
 ·exact I
 split
 ·exact I
 split
 ·exact I.cut
 split
 ·next h=>
  split
  ·next h2=>exact I.put h.2.1.1 ((I.tinv h.2.1.1).hear h.2.1.2 h2)
  ·exact I.put h.2.1.1 (I.tinv h.2.1.1).open
 split
 ·next h=>
  split
  ·next h2=>exact I.put h.2.1.1 ((I.tinv h.2.1.1).hear h.2.1.2 h2)
  ·exact I.cut
 ·exact I
theorem Zak_ {s:CS} {p:K3×TX→Bool} (hn:(s.ts.map (·.1)).Nodup) {k:K3} {t:TX}:mget k (s.ts.filter p)=some t↔mget k s.ts=some t∧p (k,t)=true:=by
 have h2:((s.ts.filter p).map (·.1)).Nodup:=hn.sublist ((List.filter_sublist).map _);rw [zap_ h2,zap_ hn,List.mem_filter]
theorem CInv.step {n:Nat} {s:CS} (I:CInv n s) {now:Int}:CInv n (Qq_ s now):=by
 have h2:((s.ts.filter fun q=> !decide (qv_ q.2 now)).map (·.1)).Nodup:=I.nd.sublist ((List.filter_sublist).map _);exact ⟨h2,Nat.le_trans (List.length_filter_le _ _) I.ln,fun k t h=>I.ti k t ((Zak_ I.nd).1 h).1,fun k t h=>I.kn k t ((Zak_ I.nd).1 h).1,I.c0,I.fn,I.fl⟩
theorem qaL_ {l:List Work} {ws:List (Int×CW)} (hw:ws.map (fun q=>(q.1,q.2.2))=works0 0 l):ws.map (·.1)=(works0 0 l).map (·.1):=by rw [←hw,List.map_map];rfl
theorem TInv.began {l:List Work} {ws:List (Int×CW)} {now:Int} (hw:ws.map (fun q=>(q.1,q.2.2))=works0 0 l) (hl:l.length≤100000) (hne:ws≠[]) (hb:fits now):TInv (Zp_ now ws):=by
 refine ⟨fun h=>hne (List.map_eq_nil_iff.1 h),?_,fun p hp=>?_,by simp [Zp_],fun q hq=>(by cases hq),?_,fun _=>rfl,hb⟩
 ·show (ws.map (·.1)).Pairwise (· < ·);rw [qaL_ hw];exact works0_rise
 ·have hp':p∈ws.map (·.1):=hp;rw [qaL_ hw] at hp';obtain ⟨q,hq,rfl⟩:=List.mem_map.1 hp';have:=qaa_ (i:=0) (Int.le_refl _) q hq;unfold fits;omega
 ·show 0<(ws.map (·.1)).length;rw [List.length_map];exact List.length_pos_iff.2 hne
theorem CInv.fresh {n:Nat} {s:CS} (I:CInv n s):mget (newX s).k s.ts=none:=by
 cases hg:mget (newX s).k s.ts with
 | none=>rfl
 | some t=>
  have:=(I.kn _ _ hg).2.2.2.2 rfl;have h2:(newX s).k.2.2=s.count+1:=rfl;omega
theorem CInv.begin {n:Nat} {s:CS} (I:CInv n s) {l:List Work} {ws:List (Int×CW)} {now:Int} (hw:ws.map (fun q=>(q.1,q.2.2))=works0 0 l) (hl:l.length≤100000) (hb:fits now) (hn:n≤100000):CInv (n+1) (Qg_ s now ws):=by
 unfold Qg_;split
 ·exact I.more (Nat.le_succ _)
 next hne=>
 have hc:=I.c0;refine ⟨qj_ I.nd,?_,fun k t hk=>?_,fun k t hk=>?_,?_,I.fn,I.fl⟩
 ·show (mset _ _ s.ts).length≤n+1;rw [ZF_];have:=I.ln;split<;>omega
 ·have hk':mget k (mset (newX s).k (Zp_ now ws) s.ts)=some t:=hk;rw [Qe_] at hk';split at hk'
  ·cases hk';exact TInv.began hw hl hne hb
  ·exact I.ti k t hk'
 ·have hk':mget k (mset (newX s).k (Zp_ now ws) s.ts)=some t:=hk;rw [Qe_] at hk';show k.1=s.node∧fits k.2.1∧fits k.2.2∧k.2.1≤s.life∧(k.2.1=s.life→1≤k.2.2∧k.2.2≤s.count+1);split at hk'
  ·next e=>
   subst e;refine ⟨rfl,I.fl,?_,Int.le_refl _,fun _=>?_⟩
   ·show fits (s.count+1);unfold fits;omega
   ·show 1≤s.count+1∧s.count+1≤s.count+1;omega
  ·obtain ⟨a,b,c,d,e⟩:=I.kn k t hk';exact ⟨a,b,c,d,fun h=>by have:=e h;omega⟩
 ·show 0≤s.count+1∧s.count+1≤((n+1:Nat):Int);omega
theorem zaq_:∀{l:List Work} {i:Int},(works0 i l).length≤l.length
 | [],i=>Nat.le_refl _
 | w::l,i=>by
  unfold works0;have:=zaq_ (l:=l) (i:=i+1);split<;>simp only [List.length_cons]<;>omega
theorem zT_ {n:Nat} {s:CS} (I:CInv n s) {now:Int} {k:K3} {t:TX}:mget k (Qq_ s now).ts=some t↔mget k s.ts=some t∧¬qv_ t now:=by
 unfold Qq_;rw [show (⟨s.node,s.life,s.count,s.ts.filter fun q=> !decide (qv_ q.2 now)⟩:CS).ts=s.ts.filter fun q=> !decide (qv_ q.2 now) from rfl,Zak_ I.nd];simp
theorem Qad_ {s:CS} {k:K3}:k∈allC s↔(mget k s.ts).isSome=true:=by
 unfold allC;rw [QM_,zG_];constructor
 ·rintro ⟨v,hv⟩;rw [hv];rfl
 ·intro h
  cases hg:mget k s.ts with
  | none=>rw [hg] at h;cases h
  | some v=>exact ⟨v,rfl⟩
abbrev RTx:=Convoyref16Txn
abbrev ROc:=Convoyref16Outcome
structure TRel (t:RTx) (x:TX):Prop where
  op:t.Open=x.op
  bg:t.Began=x.began
  ps:t.Parts=x.parts
  hd:t.Heard=x.parts.map x.hd
  wk:x.op=false→t.Works=x.parts.map x.wk
structure CRel (s:CS) (m:Coord):Prop where
  node:m.Node=s.node
  life:m.Life=s.life
  count:m.Count=s.count
  rise:m.Txns.Pairwise fun a b=>ltK a.X.k b.X.k
  mem:∀t∈m.Txns,∃x,mget t.X.k s.ts=some x∧TRel t x
  cov:∀k,(mget k s.ts).isSome=true→∃t∈m.Txns,t.X.k=k
theorem crel0 {node life:Int}:CRel ⟨node,life,0,[]⟩ ⟨node,life,0,[]⟩:=⟨rfl,rfl,rfl,by simp,fun t h=>(by cases h),fun k h=>(by cases h)⟩
theorem CRel.all {n:Nat} {s:CS} {m:Coord} (I:CInv n s) (r:CRel s m):allC s=m.Txns.map fun t=>t.X.k:=by
 refine Qbb_ (lt:=ltK) (fun _=>QC_) (fun _ _=>qch_) (qZ_ I.nd) ?_ fun k=>?_
 ·rw [List.pairwise_map];exact r.rise
 ·rw [Qad_,List.mem_map];constructor
  ·exact fun h=>r.cov k h
  ·rintro ⟨t,ht,rfl⟩;obtain ⟨x,hx,_⟩:=r.mem t ht;rw [hx];rfl
theorem CRel.get {s:CS} {m:Coord} (r:CRel s m) {t:RTx} (ht:t∈m.Txns):s.isT t.X∧TRel t (s.tx t.X):=by
 obtain ⟨x,hx,h⟩:=r.mem t ht;unfold CS.isT CS.tx;rw [hx];exact ⟨rfl,h⟩
theorem CRel.isT {s:CS} {m:Coord} (r:CRel s m) {x:Txn}:s.isT x↔∃t∈m.Txns,t.X=x:=by
 constructor
 ·intro h;obtain ⟨t,ht,hk⟩:=r.cov _ h;exact ⟨t,ht,qbc_ hk⟩
 ·rintro ⟨t,ht,rfl⟩;exact (r.get ht).1
def zaG_ (n:Int) (t:RTx) (i:Nat):Message:=if t.Open=true then decM n t.X (t.Parts[i]?.getD 0) true else ZB_ n t.X (t.Parts[i]?.getD 0) (t.Works[i]?.getD Qae_)
def againR (n:Int) (t:RTx) (k:Nat):List Message:=((List.range k).filter fun i=> !(t.Heard[i]?.getD false)).map (zaG_ n t)
theorem Qax_ {n:Int} {t:RTx} {k:Nat}:againR n t (k+1)=againR n t k++if t.Heard[k]?.getD false=true then [] else [zaG_ n t k]:=by
 unfold againR;rw [List.range_succ,List.filter_append,List.map_append]
 cases h:t.Heard[k]?.getD false<;>simp [h]
theorem TRel.again {t:RTx} {x:TX} (h:TRel t x) {n:Int}:againR n t t.Parts.length=Zi_ n t.X x:=by
 suffices hk:∀k,k≤x.parts.length→againR n t k=((x.parts.take k).filter fun p=> !x.hd p).map (qbF_ n t.X x) by
  have:=hk x.parts.length (Nat.le_refl _);rw [List.take_length] at this;rw [h.ps];exact this
 intro k
 induction k with
 | zero=>intro _;simp [againR]
 | succ k ih=>
  intro hk;have hk1:k<x.parts.length:=hk;rw [Qax_,ih (Nat.le_of_lt hk1),List.take_succ_eq_append_getElem hk1,List.filter_append,List.map_append];have e1:t.Heard[k]?.getD false=x.hd x.parts[k]:=by rw [h.hd,List.getElem?_map,List.getElem?_eq_getElem hk1];rfl
  have e2:zaG_ n t k=qbF_ n t.X x x.parts[k]:=by
   unfold zaG_ qbF_;rw [h.op,h.ps,List.getElem?_eq_getElem hk1];by_cases ho:x.op=true
   ·rw [if_pos ho,if_pos ho];rfl
   ·rw [if_neg ho,if_neg ho,h.wk (by simpa using ho),List.getElem?_map,List.getElem?_eq_getElem hk1];rfl
  rw [e1,e2]
  cases hh:x.hd x.parts[k]<;>simp [hh]
def noR (n:Int) (t:RTx):List Message:=t.Parts.map fun p=>decM n t.X p false
theorem TRel.no {t:RTx} {x:TX} (h:TRel t x) {n:Int}:noR n t=noL n t.X x:=by unfold noR noL;rw [h.ps]
def putR (t:RTx):List RTx→List RTx
  | []=>[t]
  | a::l=>if ltK a.X.k t.X.k then a::putR t l else if a.X=t.X then t::l else t::a::l
theorem QaG_ {t e:RTx}:∀{l:List RTx},l.Pairwise (fun a b=>ltK a.X.k b.X.k)→(e∈putR t l↔e=t∨(e∈l∧e.X≠t.X))
 | [],_=>by simp [putR]
 | a::l,hr=>by
  rw [List.pairwise_cons] at hr;unfold putR;split
  ·next h=>
   have ha:a.X≠t.X:=fun e=>by rw [e] at h;exact QC_ h
   rw [List.mem_cons,QaG_ hr.2,List.mem_cons];constructor
   ·rintro (rfl | rfl | ⟨h1,h2⟩)
    ·exact .inr ⟨.inl rfl,ha⟩
    ·exact .inl rfl
    ·exact .inr ⟨.inr h1,h2⟩
   ·rintro (rfl | ⟨rfl | h1,h2⟩)
    ·exact .inr (.inl rfl)
    ·exact .inl rfl
    ·exact .inr (.inr ⟨h1,h2⟩)
  ·next h=>
   have hgt:∀b∈l,b.X≠t.X:=fun b hb e=>by
    have h1:=hr.1 b hb;rw [e] at h1;exact h h1
   split
   ·next he=>
    rw [List.mem_cons,List.mem_cons];constructor
    ·rintro (rfl | h1)
     ·exact .inl rfl
     ·exact .inr ⟨.inr h1,hgt e h1⟩
    ·rintro (rfl | ⟨rfl | h1,h2⟩)
     ·exact .inl rfl
     ·exact absurd he h2
     ·exact .inr h1
   ·next he=>
    rw [List.mem_cons,List.mem_cons];constructor
    ·rintro (rfl | rfl | h1)
     ·exact .inl rfl
     ·exact .inr ⟨.inl rfl,he⟩
     ·exact .inr ⟨.inr h1,hgt e h1⟩
    ·rintro (rfl | ⟨h1,h2⟩)
     ·exact .inl rfl
     ·exact .inr h1
theorem zbT_ {t:RTx}:∀{l:List RTx},l.Pairwise (fun a b=>ltK a.X.k b.X.k)→(putR t l).Pairwise fun a b=>ltK a.X.k b.X.k
 | [],_=>by simp [putR]
 | a::l,hr=>by
  have hr0:=hr;rw [List.pairwise_cons] at hr;unfold putR;split
  ·next h=>
   rw [List.pairwise_cons];refine ⟨fun b hb=>?_,zbT_ hr.2⟩;rcases (QaG_ hr.2).1 hb with rfl | ⟨hb,_⟩
   ·exact h
   ·exact hr.1 b hb
  ·next h=>
   split
   ·next he=>
    rw [List.pairwise_cons];refine ⟨fun b hb=>?_,hr.2⟩;have:=hr.1 b hb;rw [he] at this;exact this
   ·next he=>
    have h0:ltK t.X.k a.X.k:=Classical.byContradiction fun hc=>he (qbc_ (Qai_ h hc));rw [List.pairwise_cons];refine ⟨fun b hb=>?_,hr0⟩;rcases List.mem_cons.1 hb with rfl | hb
    ·exact h0
    ·exact Zbb_ h0 (hr.1 b hb)
theorem CRel.put {s:CS} {m:Coord} (r:CRel s m) {t:RTx} {x:TX} (h:TRel t x):CRel (s.put t.X.k x) {m with Txns:=putR t m.Txns}:=by
 refine ⟨r.node,r.life,r.count,zbT_ r.rise,fun e he=>?_,fun k hk=>?_⟩
 ·show∃y,mget e.X.k (mset t.X.k x s.ts)=some y∧TRel e y;rw [Qe_];rcases (QaG_ r.rise).1 he with rfl | ⟨h1,h2⟩
  ·rw [if_pos rfl];exact ⟨x,rfl,h⟩
  ·rw [if_neg fun e=>h2 (qbc_ e)];exact r.mem e h1
 ·have hk':(mget k (mset t.X.k x s.ts)).isSome=true:=hk;rw [Qe_] at hk';split at hk'
  ·next e=>exact ⟨t,(QaG_ r.rise).2 (.inl rfl),e.symm⟩
  ·next e=>
   obtain ⟨a,ha,rfl⟩:=r.cov k hk';exact ⟨a,(QaG_ r.rise).2 (.inr ⟨ha,fun h=>e (by rw [h])⟩),rfl⟩
def cutR (x:Txn) (l:List RTx):List RTx:=l.filter fun t=>decide (t.X≠x)
theorem qG_ {κ ν:Type} [DecidableEq κ] {m:List (κ×ν)} (hn:(m.map (·.1)).Nodup) {k k':κ}:mget k' (mdel k m)=if k'=k then none else mget k' m:=by
 induction m with
 | nil=>simp [mdel,mget]
 | cons q m ih=>
  obtain ⟨a,v⟩:=q;simp only [List.map_cons,List.nodup_cons] at hn;unfold mdel;by_cases h:k=a
  ·subst h;simp only [if_true];by_cases h2:k'=k
   ·subst h2;simp [QL_.2 hn.1]
   ·simp [mget,h2]
  ·simp only [h,if_false];by_cases h2:k'=a
   ·subst h2;simp [mget,Ne.symm h]
   ·simp only [mget,h2,if_false];exact ih hn.2
theorem CRel.cut {n:Nat} {s:CS} {m:Coord} (I:CInv n s) (r:CRel s m) {x:Txn}:CRel (s.cut x.k) {m with Txns:=cutR x m.Txns}:=by
 refine ⟨r.node,r.life,r.count,r.rise.sublist List.filter_sublist,fun e he=>?_,fun k hk=>?_⟩
 ·show∃y,mget e.X.k (mdel x.k s.ts)=some y∧TRel e y;rw [qG_ I.nd];have h1:=List.mem_filter.1 he;rw [if_neg fun e1=>(of_decide_eq_true h1.2) (qbc_ e1)];exact r.mem e h1.1
 ·have hk':(mget k (mdel x.k s.ts)).isSome=true:=hk;rw [qG_ I.nd] at hk';split at hk'
  ·cases hk'
  ·next e=>
   obtain ⟨a,ha,rfl⟩:=r.cov k hk';exact ⟨a,List.mem_filter.2 ⟨ha,decide_eq_true fun h=>e (by rw [h])⟩,rfl⟩
end Go.Proofs.YtlflbkpmfhhikaaGreatDoor
