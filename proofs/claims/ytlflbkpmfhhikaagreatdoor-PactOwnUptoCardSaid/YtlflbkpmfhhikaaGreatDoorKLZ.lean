/- The reference's At, Locked, hold. -/
import Derived.Test.YtlflbkpmfhhikaaGreatDoorKKD
import Derived.Test.YtlflbkpmfhhikaaGreatDoorKLO
import Derived.Test.YtlflbkpmfhhikaaGreatDoorKLR
set_option linter.unusedVariables false
set_option linter.unusedSimpArgs false
namespace Go.Proofs.YtlflbkpmfhhikaaGreatDoor
open Go Go.Sx Go.Proofs
theorem zcK_ (k:ByteArray):sb k.data.toList=k:=(qeh_ k).symm
structure OkW (w:Work):Prop where
  take:w.Take.length≤40
  drop:w.Drop.length≤40
  rob:fits w.Robot
  size:∀k∈w.ks,k.size≤zb_
def okX (x:K3):Prop:=fits x.1∧fits x.2.1∧fits x.2.2
structure Inv (n:Nat) (s:TS):Prop where
  hd:(s.held.map (·.1)).Nodup
  ld:(s.locked.map (·.1)).Nodup
  wd:(s.works.map (·.1)).Nodup
  hk:∀k r,mget k s.held=some r→k.size≤zb_∧fits r
  hn:s.held.length≤40*n
  wn:s.works.length≤n
  ww:∀x w,gW s x=some w→(OkW w∧w.ks.Nodup)∧okX x
  lk:∀k x,mget k s.locked=some x↔∃w,gW s x.k=some w∧k∈w.ks
  tk:∀x w,gW s x=some w→∀k∈w.Take,mget k s.held=none
theorem Inv.more {n n':Nat} {s:TS} (h:Inv n s) (hn:n≤n'):Inv n' s:={h with hn:=by have:=h.hn;omega,wn:=by have:=h.wn;omega}
theorem Inv.ok {n:Nat} {s:TS} (h:Inv n s) (hn:n≤1000):TsOk s:=by
 refine ⟨fun q hq=>(h.hk q.1 q.2 (Zj_ h.hd hq)).1,fun q hq=>(h.hk q.1 q.2 (Zj_ h.hd hq)).2,by have:=h.hn;omega,fun q hq=>?_,by have:=h.wn;omega⟩;exact (h.ww q.1 q.2.2 (by unfold gW;rw [Zj_ h.wd (k:=q.1) (v:=q.2) hq];rfl)).2
theorem inv0:Inv 0 ⟨[],[],[]⟩:=⟨by simp,by simp,by simp,fun k r h=>(by cases h),by simp,by simp,fun x w h=>(by cases h),fun k x=>⟨fun h=>(by cases h),fun ⟨w,h,_⟩=>(by cases h)⟩,fun x w h=>(by cases h)⟩
theorem v81_ {P:Prop} (h:P:=by
 by_cases e:k∈ks
 ·simp [e]
 ·by_cases e2:k=a<;>simp [e,e2]):P:=h
theorem qaR_ {x:Txn} {k:ByteArray}:∀{ks:List ByteArray} {l:List (ByteArray×Txn)},(l.map (·.1)).Nodup→mget k (ZF_ x ks l)=(if k∈ks then some x else mget k l)∧((ZF_ x ks l).map (·.1)).Nodup
 | [],l,hn=>⟨by simp [ZF_],hn⟩
 | a::ks,l,hn=>by
  unfold ZF_;rw [List.foldl_cons];obtain ⟨h1,h2⟩:=qaR_ (x:=x) (k:=k) (ks:=ks) (l:=mset a x l) (Zk_ hn);unfold ZF_ at h1 h2;refine ⟨?_,h2⟩;rw [h1,Zf_];exact v81_
theorem qaw_ {k:ByteArray}:∀{ks:List ByteArray} {l:List (ByteArray×Txn)},(l.map (·.1)).Nodup→mget k (Zp_ ks l)=(if k∈ks then none else mget k l)∧((Zp_ ks l).map (·.1)).Nodup
 | [],l,hn=>⟨by simp [Zp_],hn⟩
 | a::ks,l,hn=>by
  unfold Zp_;rw [List.foldl_cons];obtain ⟨h1,h2⟩:=qaw_ (k:=k) (ks:=ks) (l:=mdel a l) (QM_ hn);unfold Zp_ at h1 h2;refine ⟨?_,h2⟩;rw [h1,qD_ a k hn];exact v81_
theorem Zar_ {r:Int} {k:ByteArray}:∀{ks:List ByteArray} {l:List (ByteArray×Int)},(l.map (·.1)).Nodup→mget k (zu_ r ks l)=(if k∈ks then some r else mget k l)∧((zu_ r ks l).map (·.1)).Nodup∧(zu_ r ks l).length≤l.length+ks.length
 | [],l,hn=>⟨by simp [zu_],hn,by simp [zu_]⟩
 | a::ks,l,hn=>by
  unfold zu_;rw [List.foldl_cons];obtain ⟨h1,h2,h3⟩:=Zar_ (r:=r) (k:=k) (ks:=ks) (l:=mset a r l) (Zk_ hn);unfold zu_ at h1 h2 h3;refine ⟨?_,h2,?_⟩
  ·rw [h1,Zf_];exact v81_
  ·have h4:(mset a r l).length≤l.length+1:=by rw [QS_];split<;>omega
   simp only [List.length_cons];omega
theorem Qbl_ {κ ν:Type} [DecidableEq κ] {m:List (κ×ν)} {k:κ}:(mdel k m).length≤m.length:=(zay_ k m).length_le
theorem QO_ {r:Int} {k:ByteArray}:∀{ks:List ByteArray} {l:List (ByteArray×Int)},(l.map (·.1)).Nodup→mget k (zn_ r ks l)=(if k∈ks∧mget k l=some r then none else mget k l)∧((zn_ r ks l).map (·.1)).Nodup∧(zn_ r ks l).length≤l.length
 | [],l,hn=>⟨by simp [zn_],hn,by simp [zn_]⟩
 | a::ks,l,hn=>by
  unfold zn_;rw [List.foldl_cons]
  have hc:((mget a l).isSome=true∧(mget a l).getD 0=r)↔mget a l=some r:=by
   cases mget a l<;>simp
  by_cases hq:mget a l=some r
  ·rw [if_pos (hc.2 hq)];obtain ⟨h1,h2,h3⟩:=QO_ (r:=r) (k:=k) (ks:=ks) (l:=mdel a l) (QM_ hn);unfold zn_ at h1 h2 h3;refine ⟨?_,h2,by have:=Qbl_ (m:=l) (k:=a);omega⟩;rw [h1,qD_ a k hn];by_cases e2:k=a
   ·subst e2;simp [hq]
   ·simp [e2]
  ·rw [if_neg fun h=>hq (hc.1 h)];obtain ⟨h1,h2,h3⟩:=QO_ (r:=r) (k:=k) (ks:=ks) (l:=l) hn;unfold zn_ at h1 h2 h3;refine ⟨?_,h2,h3⟩;rw [h1];by_cases e2:k=a
   ·subst e2;simp [hq]
   ·simp [e2]
theorem Zbl_ {s:TS} {w:Work}:∀{l:List ByteArray} {i:Nat},wayT s w i l=true↔∀j (hj:j<l.length),mget l[j] s.locked=none∧(w.Take.length≤i+j∨mget l[j] s.held=none)
 | [],i=>by simp [wayT]
 | k::l,i=>by
  have ih:=Zbl_ (s:=s) (w:=w) (l:=l) (i:=i+1);simp only [wayT,Bool.and_eq_true,ih,Bool.not_eq_true',Option.isSome_eq_false_iff,Option.isNone_iff_eq_none,Bool.or_eq_true,decide_eq_true_eq];constructor
  ·rintro ⟨⟨h1,h2⟩,h3⟩ j hj
   cases j with
   | zero=>exact ⟨h1,by simpa using h2⟩
   | succ j=>
    have:=h3 j (by simpa using hj);rw [show i+1+j=i+(j+1) by omega] at this;simpa using this
  ·intro h;refine ⟨?_,fun j hj=>?_⟩
   ·have:=h 0 (by simp);simpa using this
   ·have:=h (j+1) (by simpa using hj);rw [show i+1+j=i+(j+1) by omega];simpa using this
theorem qdD_ {s:TS} {w:Work} (h:wayT s w 0 w.ks=true):(∀k∈w.ks,mget k s.locked=none)∧∀k∈w.Take,mget k s.held=none:=by
 rw [Zbl_] at h;refine ⟨fun k hk=>?_,fun k hk=>?_⟩
 ·obtain ⟨j,hj,rfl⟩:=List.getElem_of_mem hk;exact (h j hj).1
 ·obtain ⟨j,hj,rfl⟩:=List.getElem_of_mem hk;have hj2:j<w.ks.length:=by simp only [Work.ks,List.length_append];omega
  have e:w.ks[j]=w.Take[j]:=by simp only [Work.ks];rw [List.getElem_append_left hj]
  have:=(h j hj2).2;rw [e] at this;rcases this with h1 | h1
  ·omega
  ·exact h1
theorem zct_ {s:TS} {x:Txn} {w:Work} (h:zK_ s x w=0):gW s x.k=none∧w.ks.Nodup∧wayT s w 0 w.ks=true:=by
 unfold zK_ at h;split at h
 ·cases h
 ·next h1=>
  split at h
  ·cases h
  ·next h2=>
   split at h
   ·next h3=>
    refine ⟨?_,?_,h3⟩
    ·unfold gW
     cases hm:mget x.k s.works with
     | none=>rfl
     | some v=>rw [hm] at h1;exact absurd rfl h1
    ·rw [qaj_] at h2;exact Classical.byContradiction h2
   ·cases h
theorem qbm_ {s:TS} {x:Txn} {w:Work} {cs:List Value} (k:K3):gW (QV_ s x w cs) k=if k=x.k then some w else gW s k:=by
 unfold gW QV_;rw [Zf_];split<;>rfl
theorem Inv.prep {n:Nat} {s:TS} {x:Txn} {w:Work} {cs:List Value} (h:Inv n s) (hw:OkW w) (hx:okX x.k) (he:zK_ s x w=0):Inv (n+1) (QV_ s x w cs):=by
 obtain ⟨h1,h2,h3⟩:=zct_ he;obtain ⟨h4,h5⟩:=qdD_ h3;have hl:=fun k=>qaR_ (x:=x) (k:=k) (ks:=w.ks) h.ld;have hg:=fun k=>qbm_ (s:=s) (x:=x) (w:=w) (cs:=cs) k;refine ⟨h.hd,(hl ⟨#[]⟩).2,Zk_ h.wd,h.hk,by have:=h.hn;show s.held.length≤_;omega,?_,fun y w' hy=>?_,fun k y=>?_,fun y w' hy=>?_⟩
 ·show (mset x.k (cs,w) s.works).length≤_;rw [QS_];have:=h.wn;split<;>omega
 ·rw [hg] at hy;split at hy
  ·next e=>cases hy;subst e;exact ⟨⟨hw,h2⟩,hx⟩
  ·exact h.ww y w' hy
 ·show mget k (ZF_ x w.ks s.locked)=some y↔_;rw [(hl k).1,hg];by_cases hk:k∈w.ks
  ·rw [if_pos hk];constructor
   ·intro e
    cases e
    exact ⟨w,by rw [if_pos rfl],hk⟩
   ·rintro ⟨w',e1,e2⟩;split at e1
    ·next e=>rw [qaS_ e]
    ·have:=(h.lk k y).2 ⟨w',e1,e2⟩;rw [h4 k hk] at this;cases this
  ·rw [if_neg hk,h.lk k y];constructor
   ·rintro ⟨w',e1,e2⟩;refine ⟨w',?_,e2⟩;rw [if_neg,e1];intro e;rw [e,h1] at e1;cases e1
   ·rintro ⟨w',e1,e2⟩;split at e1
    ·cases e1;exact absurd e2 hk
    ·exact ⟨w',e1,e2⟩
 ·rw [hg] at hy;split at hy
  ·cases hy;exact h5
  ·exact h.tk y w' hy
theorem qaM_ {s:TS} (hn:(s.works.map (·.1)).Nodup) {x:Txn} {w:Work} {yes:Bool} (k:K3):gW (ZH_ s x yes w) k=if k=x.k then none else gW s k:=by
 unfold gW ZH_;rw [qD_ x.k k hn];split<;>rfl
theorem Inv.apply {n:Nat} {s:TS} {x:Txn} {w:Work} {yes:Bool} (h:Inv n s) (hg0:gW s x.k=some w):Inv (n+1) (ZH_ s x yes w):=by
 obtain ⟨⟨hw,hnd⟩,hx⟩:=h.ww x.k w hg0;have hg:=fun k=>qaM_ (s:=s) h.wd (x:=x) (w:=w) (yes:=yes) k;have hl:=fun k=>qaw_ (k:=k) (ks:=w.ks) h.ld;have hdr:=fun k=>QO_ (r:=w.Robot) (k:=k) (ks:=w.Drop) h.hd;have htk:=fun k=>Zar_ (r:=w.Robot) (k:=k) (ks:=w.Take) (l:=zn_ w.Robot w.Drop s.held) (hdr k).2.1
 have hheld:∀k,mget k (ZH_ s x yes w).held=some w.Robot∧k∈w.Take∨mget k (ZH_ s x yes w).held=none∨mget k (ZH_ s x yes w).held=mget k s.held:=fun k=>by
  cases yes with
  | false=>exact .inr (.inr rfl)
  | true=>
   show mget k (zu_ w.Robot w.Take (zn_ w.Robot w.Drop s.held))=some w.Robot∧_∨mget k (zu_ w.Robot w.Take (zn_ w.Robot w.Drop s.held))=none∨mget k (zu_ w.Robot w.Take (zn_ w.Robot w.Drop s.held))=_;rw [(htk k).1,(hdr k).1];by_cases h1:k∈w.Take
   ·exact .inl ⟨by rw [if_pos h1],h1⟩
   ·rw [if_neg h1];by_cases h2:k∈w.Drop∧mget k s.held=some w.Robot
    ·exact .inr (.inl (by rw [if_pos h2]))
    ·exact .inr (.inr (by rw [if_neg h2]))
 refine ⟨?_,(hl ⟨#[]⟩).2,QM_ h.wd,fun k r hk=>?_,?_,?_,fun y w' hy=>?_,fun k y=>?_,fun y w' hy k hk=>?_⟩
 ·cases yes with
  | false=>exact h.hd
  | true=>exact (htk ⟨#[]⟩).2.1
 ·rcases hheld k with ⟨h1,h2⟩ | h1 | h1
  ·rw [h1] at hk;cases hk;exact ⟨hw.size k (by simp [Work.ks,h2]),hw.rob⟩
  ·rw [h1] at hk;cases hk
  ·rw [h1] at hk;exact h.hk k r hk
 ·have h1:=h.hn
  cases yes with
  | false=>show s.held.length≤_;omega
  | true=>
   show (zu_ w.Robot w.Take (zn_ w.Robot w.Drop s.held)).length≤_;have h2:=(htk ⟨#[]⟩).2.2;have h3:=(hdr ⟨#[]⟩).2.2;have h4:=hw.take;omega
 ·show (mdel x.k s.works).length≤_;have:=Qbl_ (m:=s.works) (k:=x.k);have:=h.wn;omega
 ·rw [hg] at hy;split at hy
  ·cases hy
  ·exact h.ww y w' hy
 ·show mget k (Zp_ w.ks s.locked)=some y↔_;rw [(hl k).1,hg];by_cases hk:k∈w.ks
  ·rw [if_pos hk];constructor
   ·intro e;cases e
   ·rintro ⟨w',e1,e2⟩;split at e1
    ·cases e1
    ·next e=>
     have a1:=(h.lk k y).2 ⟨w',e1,e2⟩;have a2:=(h.lk k x).2 ⟨w,hg0,hk⟩;rw [a1] at a2
     cases a2
     exact absurd rfl e
  ·rw [if_neg hk,h.lk k y];constructor
   ·rintro ⟨w',e1,e2⟩;refine ⟨w',?_,e2⟩;rw [if_neg,e1];intro e;rw [e,hg0] at e1;cases e1;exact hk e2
   ·rintro ⟨w',e1,e2⟩;split at e1
    ·cases e1
    ·exact ⟨w',e1,e2⟩
 ·rw [hg] at hy;split at hy
  ·cases hy
  ·next e=>
   rcases hheld k with ⟨h1,h2⟩ | h1 | h1
   ·have a1:=(h.lk k (toTx y)).2 ⟨w',by rw [ZV_];exact hy,by simp [Work.ks,hk]⟩;have a2:=(h.lk k x).2 ⟨w,hg0,by simp [Work.ks,h2]⟩;rw [a1] at a2
    cases a2
    exact absurd (ZV_ y).symm e
   ·exact h1
   ·rw [h1];exact h.tk y w' hy k hk
theorem v127_ {P:Prop} (h:P:=by
 simp only [List.take_zero,List.length_nil];exact v32_):P:=h
theorem v65_ {P:Prop} (h:P:=by
 refine walk ?_;refine Zb_ hL (k+1) ⟨by omega,fun i h hi=>?_⟩;rcases Nat.lt_or_ge i k with h' | h'
 ·exact hno i h h'
 ·obtain rfl:i=k:=by omega
  simpa using hp):P:=h
theorem v95_ {P:Prop} (h:P:=by
 exact ⟨rfl,rfl,xs.length,Nat.le_refl _,fun i h hi=>hno i h (by omega),.inl ⟨rfl,rfl⟩⟩):P:=h
theorem v98_ {P:Prop} (h:P:=by
 rw [List.take_length] at hj;refine walk ?_;refine fin0 ?_;exact ⟨.inl ⟨rfl,hj⟩,rfl,rfl⟩):P:=h
def dupX (l:List Rec):Prop:=¬(l.map (·.Txn.k)).Nodup
instance {l:List Rec}:Decidable (dupX l):=by unfold dupX;infer_instance
end Go.Proofs.YtlflbkpmfhhikaaGreatDoor
namespace Go.Proofs.YtlflbkpmfhhikaaGreatDoor
open Go Go.Sx Go.Proofs
end Go.Proofs.YtlflbkpmfhhikaaGreatDoor
namespace Go.Proofs.YtlflbkpmfhhikaaGreatDoor
open Go Go.Sx Go.Proofs
def ka:ByteArray:=⟨#[97]⟩
def kb:ByteArray:=⟨#[98]⟩
def xa:Txn:=⟨0,0,1⟩
theorem Inv.recs {n:Nat} {s:TS} (h:Inv n s) {q:Rec} (hq:q∈prepL s):gW s q.Txn.k=some q.Work:=by
 obtain ⟨w,h1,h2⟩:=((Qaj_ h.wd).mem q).1 hq;have:w=q.Work:=by rw [h2];rfl
 rw [←this];exact h1
theorem OkW.ks_len {w:Work} (h:OkW w):w.ks.length≤80:=by
 have:=h.take;have:=h.drop;simp only [Work.ks,List.length_append];omega
theorem zdb_ {s:TS}:(prepL s).length=s.works.length:=by simp [prepL,ZP_]
theorem ZbH_ {s:TS} {x:Txn} {yes:Bool}:Zw_ s x yes=match gW s x.k with | some w=>ZH_ s x yes w | none=>s:=by
 unfold Zw_ gW
 cases mget x.k s.works with
 | none=>rfl
 | some v=>rfl
theorem Inv.ks_ok {n:Nat} {s:TS} (h:Inv n s) (x:K3):((mget x s.works).getD zCW).2.ks.length*16≤zb_:=by
 cases hm:mget x s.works with
 | none=>decide
 | some v=>
  have hg:gW s x=some v.2:=by unfold gW;rw [hm];rfl
  have:=(h.ww x v.2 hg).1.1.ks_len;simp only [Option.getD_some,zb_];omega
end Go.Proofs.YtlflbkpmfhhikaaGreatDoor
namespace Go.Proofs.YtlflbkpmfhhikaaGreatDoor
open Go Go.Sx Go.Proofs
end Go.Proofs.YtlflbkpmfhhikaaGreatDoor
namespace Go.Proofs.YtlflbkpmfhhikaaGreatDoor
open Go Go.Sx Go.Proofs
structure TX where
  op:Bool
  began:Int
  parts:List Int
  works:List (Int×CW)
  heard:List (Int×Int)
structure CS where
  node:Int
  life:Int
  count:Int
  ts:List (K3×TX)
def TX.hd (t:TX) (p:Int):Bool:=(mget p t.heard).isSome
def TX.wk (t:TX) (p:Int):Work:=((mget p t.works).getD zCW).2
def zt_ (n:Int) (x:Txn) (p:Int) (w:Work):Message:={Qk_ with From:=n,To:=p,Kind:=1,Txn:=x,Work:=w}
def decM (n:Int) (x:Txn) (p:Int) (y:Bool):Message:={Qk_ with From:=n,To:=p,Kind:=3,Txn:=x,Yes:=y}
def Zbb_ (n:Int) (x:Txn) (t:TX) (p:Int):Message:=if t.op=true then decM n x p true else zt_ n x p (t.wk p)
def qi_ (n:Int) (x:Txn) (t:TX):List Message:=(t.parts.filter fun p=> !t.hd p).map (Zbb_ n x t)
def noL (n:Int) (x:Txn) (t:TX):List Message:=t.parts.map fun p=>decM n x p false
def qac_ (x:Txn) (y d:Bool):CoordOutcome:=⟨x,y,d⟩
def recC (x:Txn) (ps:List Int):Rec:=⟨4,x,zac_,false,ps⟩
def recE (x:Txn):Rec:=⟨5,x,zac_,false,[]⟩
def works0 (i:Int):List Work→List (Int×Work)
  | []=>[]
  | w::l=>if 0<w.Take.length+w.Drop.length then (i,w)::works0 (i+1) l else works0 (i+1) l
theorem zO_ {i:Int}:∀{l:List Work} {j:Int},i≤j→∀q∈works0 j l,i≤q.1∧q.1<j+l.length
 | [],j,_,q,h=>by cases h
 | w::l,j,hj,q,h=>by
  unfold works0 at h;simp only [List.length_cons];split at h
  ·rcases List.mem_cons.1 h with rfl | h
   ·simp only;omega
   ·have:=zO_ (i:=i) (l:=l) (j:=j+1) (by omega) q h;omega
  ·have:=zO_ (i:=i) (l:=l) (j:=j+1) (by omega) q h;omega
theorem works0_rise:∀{l:List Work} {j:Int},((works0 j l).map (·.1)).Pairwise (· < ·)
 | [],j=>by simp [works0]
 | w::l,j=>by
  unfold works0;split
  ·rw [List.map_cons,List.pairwise_cons];refine ⟨fun a ha=>?_,works0_rise⟩;obtain ⟨q,hq,rfl⟩:=List.mem_map.1 ha;have:=zO_ (i:=j+1) (Int.le_refl _) q hq;omega
  ·exact works0_rise
def zf_ (now:Int) (ws:List (Int×CW)):TX:=⟨false,now,ws.map (·.1),ws,[]⟩
def CS.put (s:CS) (k:K3) (t:TX):CS:=⟨s.node,s.life,s.count,mset k t s.ts⟩
def CS.cut (s:CS) (k:K3):CS:=⟨s.node,s.life,s.count,mdel k s.ts⟩
def newX (s:CS):Txn:=⟨s.node,s.life,s.count+1⟩
def qd_ (s:CS) (now:Int) (ws:List (Int×CW)):CS:=if ws=[] then s else ⟨s.node,s.life,s.count+1,mset (newX s).k (zf_ now ws) s.ts⟩
def ZaL_ (s:CS) (ws:List (Int×Work)):List Message:=ws.map fun q=>zt_ s.node (newX s) q.1 q.2
def forC (s:CS) (m:Message):Prop:=m.To=s.node∧m.Txn.Node=s.node
instance {s:CS} {m:Message}:Decidable (forC s m):=by unfold forC;infer_instance
def zTX:TX:=⟨false,0,[],[],[]⟩
def CS.isT (s:CS) (x:Txn):Prop:=(mget x.k s.ts).isSome=true
instance {s:CS} {x:Txn}:Decidable (s.isT x):=by unfold CS.isT;infer_instance
def CS.tx (s:CS) (x:Txn):TX:=(mget x.k s.ts).getD zTX
def CS.isPart (s:CS) (m:Message):Prop:=s.isT m.Txn∧m.From∈(s.tx m.Txn).parts
instance {s:CS} {m:Message}:Decidable (s.isPart m):=by unfold CS.isPart;infer_instance
def qx_ (t:TX) (p:Int):TX:={t with heard:=mset p 1 t.heard}
def Qp_ (t:TX):Prop:=t.parts.length≤t.heard.length
instance {t:TX}:Decidable (Qp_ t):=by unfold Qp_;infer_instance
def Zav_ (t:TX):TX:=⟨true,t.began,t.parts,[],[]⟩
structure CAns where
  s:CS
  out:List Message
  rc:List Rec
  oc:List CoordOutcome
def zh_ (s:CS) (m:Message):CAns:=
  if ¬forC s m then ⟨s,[],[],[]⟩ else
  if m.Kind=5∧(¬s.isT m.Txn∨(s.tx m.Txn).op=true) then ⟨s,[decM s.node m.Txn m.From (decide (s.isT m.Txn))],[],[]⟩ else
  if m.Kind=2∧s.isPart m∧(s.tx m.Txn).op=false∧m.Yes=false then ⟨s.cut m.Txn.k,noL s.node m.Txn (s.tx m.Txn),[],[qac_ m.Txn false false]⟩ else
  if m.Kind=2∧s.isPart m∧(s.tx m.Txn).op=false then
    (if ¬Qp_ (qx_ (s.tx m.Txn) m.From) then ⟨s.put m.Txn.k (qx_ (s.tx m.Txn) m.From),[],[],[]⟩
     else ⟨s.put m.Txn.k (Zav_ (s.tx m.Txn)),qi_ s.node m.Txn (Zav_ (s.tx m.Txn)),[recC m.Txn (s.tx m.Txn).parts],[qac_ m.Txn true false]⟩) else
  if m.Kind=4∧s.isPart m∧(s.tx m.Txn).op=true then
    (if ¬Qp_ (qx_ (s.tx m.Txn) m.From) then ⟨s.put m.Txn.k (qx_ (s.tx m.Txn) m.From),[],[],[]⟩
     else ⟨s.cut m.Txn.k,[],[recE m.Txn],[qac_ m.Txn true true]⟩) else
  ⟨s,[],[],[]⟩
def qbz_ (began now:Int):Prop:=began≤now∧8≤now - began
instance {a b:Int}:Decidable (qbz_ a b):=by unfold qbz_;infer_instance
def ZK_ (t:TX) (now:Int):Prop:=t.op=false∧qbz_ t.began now
instance {t:TX} {now:Int}:Decidable (ZK_ t now):=by unfold ZK_;infer_instance
def allC (s:CS):List K3:=sort3 (s.ts.map (·.1))
def zbl_ (s:CS) (now:Int) (k:K3):List Message:=
  if ZK_ ((mget k s.ts).getD zTX) now then noL s.node (toTx k) ((mget k s.ts).getD zTX) else qi_ s.node (toTx k) ((mget k s.ts).getD zTX)
def Qar_ (s:CS) (now:Int):List Message:=(allC s).flatMap (zbl_ s now)
def qcK_ (s:CS) (now:Int):List CoordOutcome:=((allC s).filter fun k=>decide (ZK_ ((mget k s.ts).getD zTX) now)).map fun k=>qac_ (toTx k) false false
def zD_ (s:CS) (now:Int):CS:=⟨s.node,s.life,s.count,s.ts.filter fun q=> !decide (ZK_ q.2 now)⟩
def zad_ (s:CS):List Txn:=((allC s).filter fun k=> !((mget k s.ts).getD zTX).op).map toTx
def openL (s:CS):List Rec:=((allC s).filter fun k=>((mget k s.ts).getD zTX).op).map fun k=>recC (toTx k) ((mget k s.ts).getD zTX).parts
structure TInv (t:TX):Prop where
  ne:t.parts≠[]
  rise:t.parts.Pairwise (· < ·)
  nn:∀p∈t.parts,0≤p∧fits p
  hn:(t.heard.map (·.1)).Nodup
  hp:∀q∈t.heard,q.1∈t.parts∧q.2=1
  hl:t.heard.length<t.parts.length
  wk:t.op=false→t.works.map (·.1)=t.parts
  bg:fits t.began
structure CInv (n:Nat) (s:CS):Prop where
  nd:(s.ts.map (·.1)).Nodup
  ln:s.ts.length≤n
  ti:∀k t,mget k s.ts=some t→TInv t
  kn:∀k t,mget k s.ts=some t→k.1=s.node∧fits k.2.1∧fits k.2.2∧k.2.1≤s.life∧(k.2.1=s.life→1≤k.2.2∧k.2.2≤s.count)
  c0:0≤s.count∧s.count≤n
  fn:fits s.node
  fl:fits s.life
theorem CInv.more {n n':Nat} {s:CS} (h:CInv n s) (hn:n≤n'):CInv n' s:={h with ln:=Nat.le_trans h.ln hn,c0:=by have:=h.c0;omega}
theorem Qeg_ {node life:Int} (h:fits node) (h2:fits life):CInv 0 ⟨node,life,0,[]⟩:=⟨by simp,by simp,fun k t h=>(by cases h),fun k t h=>(by cases h),by simp,h,h2⟩
theorem TInv.parts_nodup {t:TX} (h:TInv t):t.parts.Nodup:=by
 rw [List.nodup_iff_pairwise_ne];exact h.rise.imp fun h e=>by omega
theorem zz_ {α:Type} [DecidableEq α]:∀{a b:List α},a.Nodup→(∀x∈a,x∈b)→a.length≤b.length
 | [],b,_,_=>Nat.zero_le _
 | x::a,b,hn,h=>by
  rw [List.nodup_cons] at hn;have hx:=h x (List.mem_cons_self ..);have h1:=zz_ (a:=a) (b:=b.erase x) hn.2 fun y hy=>(List.mem_erase_of_ne (fun e=>hn.1 (by rw [←e];exact hy))).2 (h y (List.mem_cons_of_mem _ hy));rw [List.length_erase_of_mem hx] at h1;have h2:=List.length_pos_of_mem hx;simp only [List.length_cons];omega
theorem ZaQ_ {t:TX} {ps:List Int} {hs:List (Int×Int)} (hp:ps.Nodup) (hn:(hs.map (·.1)).Nodup) (hsub:∀q∈hs,q.1∈ps):ps.length≤hs.length↔∀p∈ps,(mget p hs).isSome=true:=by
 constructor
 ·intro hl p hm;refine Classical.byContradiction fun hc=>?_;have hno:mget p hs=none:=by simpa using hc
  have hk:=zE_.1 hno
  have hsub2:∀a∈p::hs.map (·.1),a∈ps:=fun a ha=>by
   rcases List.mem_cons.1 ha with rfl | ha
   ·exact hm
   ·obtain ⟨q,hq,rfl⟩:=List.mem_map.1 ha;exact hsub q hq
  have hnd:(p::hs.map (·.1)).Nodup:=List.nodup_cons.2 ⟨hk,hn⟩;have:=zz_ hnd hsub2;simp only [List.length_cons,List.length_map] at this;omega
 ·intro h
  have hsub2:∀a∈ps,a∈hs.map (·.1):=fun a ha=>by
   have h1:=h a ha
   cases hg:mget a hs with
   | none=>rw [hg] at h1;cases h1
   | some v=>exact List.mem_map.2 ⟨_,Zu_ hg,rfl⟩
  have:=zz_ hp hsub2;simpa using this
end Go.Proofs.YtlflbkpmfhhikaaGreatDoor
set_option maxHeartbeats 16000000
set_option maxRecDepth 100000
namespace Go.Proofs.YtlflbkpmfhhikaaGreatDoor
open Go Go.Sx Go.Proofs
def AtP (m:Table) (x:Txn) (r:Value):Prop:=(r=I (-1)∧∀q∈m.Prep,q.Txn≠x)∨∃j:Nat,∃h:j<m.Prep.length,r=I j∧m.Prep[j].Txn=x
theorem QdM_ {a b:Txn}:a=b↔a.Node=b.Node∧a.Life=b.Life∧a.Count=b.Count:=by cases a;cases b;simp
theorem qaG_ {H:Heap} {b o:Nat} {q:Rec} {s1 s2 s3:Value} (hr:HRow H b o (q.cv s1 s2 s3)):HRow H b (o+1) [I q.Txn.Node,I q.Txn.Life,I q.Txn.Count]:=HRow.take (k:=3) (HRow.drop (k:=1) hr)
theorem zaA_ {H:Heap} {b o:Nat} {q:Rec} {s1 s2 s3:Value} (hr:HRow H b o (q.cv s1 s2 s3)):HRow H b (o+4) [I q.Work.Robot,s1,s2]:=HRow.take (k:=3) (HRow.drop (k:=4) hr)
theorem zaO_ {W0:World} {H:Heap} {c:List Value} {m:Table} {x:Txn} (h0:QJ_ H c m):
  Ct Tryz.prog 125 #[.agg c.toArray,.agg x.cv.toArray] W0 H [] (fun r H' B=>AtP m x r∧B=[]∧H'=H):=by
 refine Ct.go (vs:=[.agg c.toArray,.agg x.cv.toArray]) fun R=>?_;obtain ⟨s1,s2,rfl,hs1,hs2⟩:=h0;obtain ⟨b1,c1,rfl,hc1,hd1⟩:=hs1.1.shape;obtain ⟨b2,c2,rfl,hc2,hd2⟩:=hs2.1.shape;obtain ⟨l,pr⟩:=m;obtain ⟨x1,x2,x3⟩:=x;dsimp only at hs1 hs2 hc1 hc2;unfold AtP;dsimp only;refine walk ?_;refine qc_ rfl rfl fun p2 _=>?_;refine qc_ rfl rfl fun p3 _=>?_;refine walk ?_;refine Qc_ (σ:=Nat) (fun j=>j≤pr.length∧∀q∈pr.take j,q.Txn≠⟨x1,x2,x3⟩) (fun j=>[(2,.pointer (some ⟨p2,0,none⟩)),(3,.pointer (some ⟨p3,0,none⟩)),(5,I j)]) (fun _=>H) (fun _=>row p2 126 [.slice b1 l.length c1,.slice b2 pr.length c2]::row p3 47 [I x1,I x2,I x3]::R) (fun j=>pr.length - j) 0 ⟨Nat.zero_le _,by simp⟩ fun j ⟨hj0,hj⟩ K hL=>?_;refine walk ?_;refine Qe_ rfl (fun hk=>?_) (fun hk=>?_)
 ·have hk1:j<pr.length:=by omega
  have ht:=List.take_succ_eq_append_getElem hk1;refine walk ?_;refine qe_ rfl rfl hs2.1 hk1 fun b o cc hr hc=>?_;obtain ⟨t1,t2,t3,rfl,g1,g2,g3,g4,g5,g6,g7,g8⟩:=hc;have hrt:=qaG_ hr;obtain ⟨ya,yb,yc,hy⟩:∃ya yb yc,pr[j].Txn=⟨ya,yb,yc⟩:=⟨_,_,_,rfl⟩;rw [hy] at hrt;refine walk ?_;refine zg_ rfl rfl hrt rfl ?_;refine walk ?_;refine Qe_ rfl (fun hq=>?_) (fun hq=>?_)
  ·refine walk ?_;refine fin0 ?_;obtain ⟨rfl,rfl,rfl⟩:=hq;exact ⟨.inr ⟨j,hk1,rfl,hy⟩,rfl,rfl⟩
  ·refine walk ?_;refine Zb_ hL (j+1) ⟨by omega,fun q hm=>?_⟩;rw [ht,List.mem_append,List.mem_singleton] at hm;rcases hm with hm | rfl
   ·exact hj q hm
   ·rw [hy];rintro e;exact hq (by simpa using QdM_.1 e)
 ·clear hL;obtain rfl:j=pr.length:=by omega
  exact v98_
def Qag_ (l:List Rec) (k:ByteArray):Option Rec:=l.find? fun q=>decide (k∈q.Work.ks)
def QaA_ (l:List Rec) (k:ByteArray):Value:= .tuple [.agg (((Qag_ l k).map (·.Txn)).getD zTxn).cv.toArray,.bool (Qag_ l k).isSome].toArray
theorem zaK_ {W0:World} {H:Heap} {c:List Value} {m:Table} {k:ByteArray} (h0:QJ_ H c m) (hn:∀q∈m.Prep,q.Work.ks.length*16≤zb_):
  Ct Tryz.prog 152 #[.agg c.toArray,.string k] W0 H [] (fun r H' B=>r=QaA_ m.Prep k∧B=[]):=by
 refine Ct.go (vs:=[.agg c.toArray,.string k]) fun R=>?_;obtain ⟨s1,s2,rfl,hs1,hs2⟩:=h0;obtain ⟨b1,c1,rfl,hc1,hd1⟩:=hs1.1.shape;obtain ⟨b2,c2,rfl,hc2,hd2⟩:=hs2.1.shape;obtain ⟨l,pr⟩:=m;dsimp only at hs1 hs2 hc1 hc2 hn;dsimp only;refine walk ?_;refine qc_ rfl rfl fun p2 _=>?_;refine Qb_ rfl fun p4 _=>?_;refine walk ?_;refine Qc_ (σ:=Nat×Heap) (fun u=>u.1≤pr.length∧H.le u.2∧Qag_ (pr.take u.1) k=none) (fun u=>[(1,.string k),(2,.pointer (some ⟨p2,0,none⟩)),(4,.pointer (some ⟨p4,0,none⟩)),(6,I u.1)]) (fun u=>u.2) (fun _=>row p2 126 [.slice b1 l.length c1,.slice b2 pr.length c2]::row p4 47 [I 0,I 0,I 0]::R) (fun u=>pr.length - u.1) (0,H) ⟨Nat.zero_le _,.refl _,rfl⟩ fun ⟨j,HK⟩ ⟨hj0,hlK,hj⟩ K hL=>?_;simp only at hj0 hlK hj;dsimp only;refine walk ?_;refine Qe_ rfl (fun hk=>?_) (fun hk=>?_)
 ·have hk1:j<pr.length:=by omega
  have ht:=List.take_succ_eq_append_getElem hk1;have hnq:=hn _ (List.getElem_mem hk1);refine walk ?_;refine qe_ rfl rfl (hs2.mono hlK).1 hk1 fun b o cc hr hc=>?_;obtain ⟨t1,t2,t3,rfl,g1,g2,g3,g4,g5,g6,g7,g8⟩:=hc;have hrw:=zaA_ hr;refine walk ?_;refine zg_ rfl rfl hrw rfl ?_;refine Za_ rfl rfl (zaw_ (W0:=W0) (H:=HK) (w:=pr[j].Work) (cw:=[I pr[j].Work.Robot,t1,t2]) ⟨_,_,rfl,g5,g6,g7⟩ hnq) fun r3 H3 B hl3 ⟨eB,eH⟩=>?_;subst eB eH;refine Zd_ r3 fun H4 hl4 hsk=>?_;refine walk ?_;refine Za_ rfl rfl (zch_ (W0:=W0) (H:=H4) (v:=r3) (l:=pr[j].Work.ks) (k:=k) hsk.1) fun r5 H5 B hl5 ⟨q,er,hq,eB,eH⟩=>?_;subst er eB eH;refine walk ?_;refine QI_ rfl Iff.rfl (fun hb=>?_) (fun hb=>?_)
  ·obtain ⟨ya,yb,yc,hy⟩:∃ya yb yc,pr[j].Txn=⟨ya,yb,yc⟩:=⟨_,_,_,rfl⟩;refine walk ?_;refine qe_ rfl rfl (hs2.mono (hlK.trans hl4)).1 hk1 fun b5 o5 cc5 hr5 hc5=>?_;obtain ⟨u1,u2,u3,rfl,_⟩:=hc5;have hrt:=qaG_ hr5;rw [hy] at hrt;refine walk ?_;refine zg_ rfl rfl hrt rfl ?_;refine walk ?_;refine fin0 ?_;have hkm:=hq.1 hb
   have e:Qag_ pr k=some pr[j]:=by
    have h1:Qag_ (pr.take (j+1)) k=some pr[j]:=by
     unfold Qag_ at hj⊢;rw [ht,List.find?_append,hj];simp [hkm]
    unfold Qag_ at h1⊢;have h2:∀(u v:List Rec) (r:Rec),u.find? (fun q=>decide (k∈q.Work.ks))=some r→(u++v).find? (fun q=>decide (k∈q.Work.ks))=some r:=fun u v r h=>by rw [List.find?_append,h];rfl
    have h3:=h2 _ (pr.drop (j+1)) _ h1;simpa only [List.take_append_drop] using h3
   refine ⟨?_,rfl⟩;unfold QaA_;rw [e];simp only [Option.map_some,Option.getD_some];rw [hy];rfl
  ·have hkm:k∉pr[j].Work.ks:=fun h=>hb (hq.2 h);refine walk ?_;refine Zb_ hL (j+1,H5) ⟨by simp only;omega,hlK.trans hl4,?_⟩;simp only;unfold Qag_ at hj⊢;rw [ht,List.find?_append,hj];simp [hkm]
 ·clear hL;obtain rfl:j=pr.length:=by omega
  rw [List.take_length] at hj;refine walk ?_;refine fin0 ?_;refine ⟨?_,rfl⟩;unfold QaA_;rw [hj];rfl
theorem zbi_ {W0:World} {H:Heap} {c:List Value} {m:Table} {k:ByteArray} {r:Int} {yes:Bool} (h0:QJ_ H c m) (hk:k.size≤zb_) (hr:fits r) (hn:m.Held.length≤100000):
  Ct Tryz.prog 154 #[.agg c.toArray,.string k,I r,.bool yes] W0 H [] (fun v H' B=>∃cs,v= .agg cs.toArray∧QJ_ H' cs ⟨qK_ k r (!yes) m.Held,m.Prep⟩∧B=[]):=by
 refine Ct.go (vs:=[.agg c.toArray,.string k,I r,.bool yes]) fun R=>?_;obtain ⟨s1,s2,rfl,hs1,hs2⟩:=h0;obtain ⟨b1,c1,rfl,hc1,hd1⟩:=hs1.1.shape;obtain ⟨b2,c2,rfl,hc2,hd2⟩:=hs2.1.shape;obtain ⟨l,pr⟩:=m;dsimp only at hs1 hs2 hc1 hc2 hn;dsimp only;refine walk ?_;refine qc_ rfl rfl fun p4 _=>?_;refine Qb_ rfl fun p8 _=>?_;refine walk ?_
 refine Qc_ (σ:=Nat×Bool×List Hold×Option Addr×Nat) (fun u=>u.1≤l.length∧u.2.2.1++qK_ k r u.2.1 (l.drop u.1)=qK_ k r (!yes) l∧u.2.2.1.length≤2*u.1) (fun u=>[(1,.string k),(2,I r),(4,.pointer (some ⟨p4,0,none⟩)),(8,.pointer (some ⟨p8,0,none⟩)),(9,.slice u.2.2.2.1 u.2.2.1.length u.2.2.2.2),(10,.bool u.2.1),(11,I u.1)]) (fun _=>H)
  (fun u=>ownS qao_ 2 24 42 H (.slice u.2.2.2.1 u.2.2.1.length u.2.2.2.2) u.2.2.1::row p4 126 [.slice b1 l.length c1,.slice b2 pr.length c2]::row p8 126 [nilS,nilS]::R) (fun u=>l.length - u.1) (0,!yes,[],none,0) ⟨Nat.zero_le _,by simp,by simp⟩ (hs0:=?_) fun ⟨j,put,out,d,e⟩ ⟨hj0,hF,hol⟩ K hL=>?_
 rotate_left
 ·exact v32_
 simp only at hj0 hF hol;dsimp only;refine walk ?_;refine Qe_ rfl (fun hj=>?_) (fun hj=>?_)
 ·have hj1:j<l.length:=by omega
  rw [List.drop_eq_getElem_cons hj1] at hF;have hcl:∀n,n≤200010→n*24≤zb_:=fun n h=>Nat.le_trans (Nat.mul_le_mul_right 24 h) (by decide);have ntt:¬¬true=true:=fun h=>h rfl;rw [qK_] at hF
  cases put with
  | true=>
   rw [if_neg (fun h=>Bool.noConfusion h.1),List.nil_append,Bool.true_or] at hF;refine walk ?_;refine qe_ rfl rfl hs1.1 hj1 fun b9 o9 cc9 hr9 hc9=>?_;obtain ⟨rfl,hsz9,hfr9⟩:=hc9;refine walk ?_;refine Qe_ rfl (fun hq=>?_) (fun hq=>?_)
   ·rw [if_neg hq,←List.append_assoc] at hF;refine walk ?_;refine qe_ rfl rfl hs1.1 hj1 fun b8 o8 cc8 hr8 hc8=>?_;obtain ⟨rfl,hsz8,hfr8⟩:=hc8;change HRow H b8 o8 [.string l[j].Key,I l[j].Robot] at hr8;refine zg_ rfl rfl hr8 rfl ?_;refine walk ?_;refine zj_ (y:=l[j]) rfl rfl rfl ⟨rfl,hsz8,hfr8⟩ (hcl _ (by (try simp only [List.length_append,List.length_cons,List.length_nil]);omega)) fun d3 e3=>?_;have hll:(out).length+1=(out++[l[j]]).length:=by simp
    rw [hll];refine walk ?_;exact Zb_ hL (j+1,true,out++[l[j]],d3,e3) ⟨by simp only;omega,hF,by simp only [List.length_append,List.length_cons,List.length_nil];omega⟩
   ·have hq':l[j].Key=k:=Classical.byContradiction hq;rw [if_pos hq',List.nil_append] at hF;refine walk ?_;exact Zb_ hL (j+1,true,out,_,_) ⟨by simp only;omega,hF,by simp only [List.length_append,List.length_cons,List.length_nil];omega⟩
  | false=>
   by_cases hs:SLt k l[j].Key
   ·rw [if_pos ⟨rfl,hs⟩,decide_eq_true hs,Bool.false_or,←List.append_assoc] at hF;refine walk ?_;refine qe_ rfl rfl hs1.1 hj1 fun b o cc hr' hc=>?_;obtain ⟨rfl,hsz,hfr⟩:=hc;refine walk ?_;refine zj_ (y:=⟨k,r⟩) rfl rfl rfl ⟨rfl,hk,hr⟩ (hcl _ (by omega)) fun d2 e2=>?_;have hll2:out.length+1=(out++[(⟨k,r⟩:Hold)]).length:=by simp
    rw [hll2];refine walk ?_;refine qe_ rfl rfl hs1.1 hj1 fun b9 o9 cc9 hr9 hc9=>?_;obtain ⟨rfl,hsz9,hfr9⟩:=hc9;refine walk ?_;refine Qe_ rfl (fun hq=>?_) (fun hq=>?_)
    ·rw [if_neg hq,←List.append_assoc] at hF;refine walk ?_;refine qe_ rfl rfl hs1.1 hj1 fun b8 o8 cc8 hr8 hc8=>?_;obtain ⟨rfl,hsz8,hfr8⟩:=hc8;change HRow H b8 o8 [.string l[j].Key,I l[j].Robot] at hr8;refine zg_ rfl rfl hr8 rfl ?_;refine walk ?_;refine zj_ (y:=l[j]) rfl rfl rfl ⟨rfl,hsz8,hfr8⟩ (hcl _ (by (try simp only [List.length_append,List.length_cons,List.length_nil]);omega)) fun d3 e3=>?_;have hll:((out++[(⟨k,r⟩:Hold)])).length+1=((out++[(⟨k,r⟩:Hold)])++[l[j]]).length:=by simp
     rw [hll];refine walk ?_;exact Zb_ hL (j+1,true,(out++[(⟨k,r⟩:Hold)])++[l[j]],d3,e3) ⟨by simp only;omega,hF,by simp only [List.length_append,List.length_cons,List.length_nil];omega⟩
    ·have hq':l[j].Key=k:=Classical.byContradiction hq;rw [if_pos hq',List.nil_append] at hF;refine walk ?_;exact Zb_ hL (j+1,true,(out++[(⟨k,r⟩:Hold)]),_,_) ⟨by simp only;omega,hF,by simp only [List.length_append,List.length_cons,List.length_nil];omega⟩
   ·rw [if_neg (fun h=>hs h.2),decide_eq_false hs,Bool.false_or,List.nil_append] at hF;refine walk ?_;refine qe_ rfl rfl hs1.1 hj1 fun b o cc hr' hc=>?_;obtain ⟨rfl,hsz,hfr⟩:=hc;refine walk ?_;refine qe_ rfl rfl hs1.1 hj1 fun b9 o9 cc9 hr9 hc9=>?_;obtain ⟨rfl,hsz9,hfr9⟩:=hc9;refine walk ?_;refine Qe_ rfl (fun hq=>?_) (fun hq=>?_)
    ·rw [if_neg hq,←List.append_assoc] at hF;refine walk ?_;refine qe_ rfl rfl hs1.1 hj1 fun b8 o8 cc8 hr8 hc8=>?_;obtain ⟨rfl,hsz8,hfr8⟩:=hc8;change HRow H b8 o8 [.string l[j].Key,I l[j].Robot] at hr8;refine zg_ rfl rfl hr8 rfl ?_;refine walk ?_;refine zj_ (y:=l[j]) rfl rfl rfl ⟨rfl,hsz8,hfr8⟩ (hcl _ (by (try simp only [List.length_append,List.length_cons,List.length_nil]);omega)) fun d3 e3=>?_;have hll:(out).length+1=(out++[l[j]]).length:=by simp
     rw [hll];refine walk ?_;exact Zb_ hL (j+1,false,out++[l[j]],d3,e3) ⟨by simp only;omega,hF,by simp only [List.length_append,List.length_cons,List.length_nil];omega⟩
    ·have hq':l[j].Key=k:=Classical.byContradiction hq;rw [if_pos hq',List.nil_append] at hF;refine walk ?_;exact Zb_ hL (j+1,false,out,_,_) ⟨by simp only;omega,hF,by simp only [List.length_append,List.length_cons,List.length_nil];omega⟩
 clear hL;obtain rfl:j=l.length:=by omega
 rw [List.drop_length,qK_] at hF
 cases put with
 | true=>
  rw [if_pos rfl,List.append_nil] at hF;refine walk ?_;refine qg_ (.slice d out.length e) fun H3 hl3 hsl=>?_;refine fin0 ?_;exact ⟨_,rfl,⟨_,_,rfl,by rw [←hF];exact hsl,hs2.mono hl3⟩,rfl⟩
 | false=>
  rw [if_neg Bool.noConfusion] at hF;have hll:out.length+1=(out++[(⟨k,r⟩:Hold)]).length:=by simp
  refine walk ?_;refine zj_ (y:=⟨k,r⟩) rfl rfl rfl ⟨rfl,hk,hr⟩ (by simp only [zb_];omega) fun d2 e2=>?_;rw [hll,hF];refine walk ?_;refine qg_ (.slice d2 (qK_ k r (!yes) l).length e2) fun H3 hl3 hsl=>?_;refine fin0 ?_;exact ⟨_,rfl,⟨_,_,rfl,hsl,hs2.mono hl3⟩,rfl⟩
end Go.Proofs.YtlflbkpmfhhikaaGreatDoor
