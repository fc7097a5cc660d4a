/- The reference's participant: Ask, Expire. -/
import Derived.Test.YtlflbkpmfhhikaaGreatDoorKKD
import Derived.Test.YtlflbkpmfhhikaaGreatDoorKLO
import Derived.Test.YtlflbkpmfhhikaaGreatDoorKQB
import Derived.Test.YtlflbkpmfhhikaaGreatDoorKQF
import Derived.Test.YtlflbkpmfhhikaaGreatDoorKQG
import Derived.Test.YtlflbkpmfhhikaaGreatDoorKTH
import Derived.Test.YtlflbkpmfhhikaaGreatDoorKTS
import Derived.Test.YtlflbkpmfhhikaaGreatDoorKTX
import Derived.Test.YtlflbkpmfhhikaaGreatDoorKXB
set_option linter.unusedVariables false
set_option linter.unusedSimpArgs false
namespace Go.Proofs.YtlflbkpmfhhikaaGreatDoor
open Go Go.Sx Go.Proofs
open Go Go.Sx Go.Proofs
end Go.Proofs.YtlflbkpmfhhikaaGreatDoor
namespace Go.Proofs.YtlflbkpmfhhikaaGreatDoor
open Go Go.Sx Go.Proofs
theorem qbk_ (s:PS) (m:Message):
  (zk_ s m=[]∧qh_ s m=[]∧∀cs,Zm_ s m cs=s)∨
  (forMe s m∧m.Kind=1∧¬isD s m.Txn∧isP s m.Txn∧zk_ s m=[zah_ s m true]∧qh_ s m=[]∧∀cs,Zm_ s m cs=s)∨
  (forMe s m∧m.Kind=1∧¬isD s m.Txn∧¬isP s m.Txn∧zK_ s.t m.Txn m.Work=0∧zk_ s m=[zah_ s m true]∧qh_ s m=[recP m]∧∀cs,Zm_ s m cs=⟨s.sh,QV_ s.t m.Txn m.Work cs,s.done⟩)∨
  (forMe s m∧m.Kind=1∧¬isD s m.Txn∧¬isP s m.Txn∧zK_ s.t m.Txn m.Work≠0∧zk_ s m=[zah_ s m false]∧qh_ s m=[]∧∀cs,Zm_ s m cs=s)∨
  (forMe s m∧m.Kind=3∧isP s m.Txn∧zk_ s m=[ackM s m]∧qh_ s m=[recA m]∧∀cs,Zm_ s m cs=⟨s.sh,Zw_ s.t m.Txn m.Yes,if m.Yes=true then mset m.Txn.k (Zy_ s m.Txn) s.done else s.done⟩)∨
  (forMe s m∧m.Kind=3∧¬isP s m.Txn∧zk_ s m=[ackM s m]∧qh_ s m=[]∧∀cs,Zm_ s m cs=s):=by
 unfold zk_ qh_ Zm_;by_cases hf:forMe s m
 ·have hf':¬¬forMe s m:=fun h=>h hf;simp only [if_neg hf'];by_cases k:m.Kind=1
  ·simp only [if_pos k];by_cases hd:isD s m.Txn
   ·simp only [if_pos hd];exact .inl ⟨(by first | rfl | trivial),(by first | rfl | trivial),(by first | exact fun _=>rfl | trivial | simp)⟩
   ·simp only [if_neg hd];by_cases hp:isP s m.Txn
    ·simp only [if_pos hp];exact .inr (.inl ⟨hf,k,hd,hp,by rw [decide_eq_true (p:=_∨_) (.inl hp)],(by first | rfl | trivial),(by first | exact fun _=>rfl | trivial | simp)⟩)
    ·simp only [if_neg hp];by_cases he:zK_ s.t m.Txn m.Work=0
     ·simp only [if_pos he];exact .inr (.inr (.inl ⟨hf,k,hd,hp,he,by rw [decide_eq_true (p:=_∨_) (.inr he)],(by first | rfl | trivial),(by first | exact fun _=>rfl | trivial | simp)⟩))
     ·simp only [if_neg he];exact .inr (.inr (.inr (.inl ⟨hf,k,hd,hp,he,by rw [decide_eq_false (p:=_∨_) (fun h=>h.elim hp he)],(by first | rfl | trivial),(by first | exact fun _=>rfl | trivial | simp)⟩)))
  ·simp only [if_neg k];by_cases k3:m.Kind=3
   ·simp only [if_pos k3];by_cases hp:isP s m.Txn
    ·simp only [if_pos hp];exact .inr (.inr (.inr (.inr (.inl ⟨hf,k3,hp,(by first | rfl | trivial),(by first | rfl | trivial),(by first | exact fun _=>rfl | trivial | simp)⟩))))
    ·simp only [if_neg hp];exact .inr (.inr (.inr (.inr (.inr ⟨hf,k3,hp,(by first | rfl | trivial),(by first | rfl | trivial),(by first | exact fun _=>rfl | trivial | simp)⟩))))
   ·simp only [if_neg k3];exact .inl ⟨(by first | rfl | trivial),(by first | rfl | trivial),(by first | exact fun _=>rfl | trivial | simp)⟩
 ·simp only [if_pos hf];exact .inl ⟨(by first | rfl | trivial),(by first | rfl | trivial),(by first | exact fun _=>rfl | trivial | simp)⟩
theorem zdy_ {s:PS} {x:Txn} {yes:Bool} {n:Nat} (I:PInv n s) (k:K3):gW (Zw_ s.t x yes) k=if k=x.k then none else gW s.t k:=by
 unfold Zw_;by_cases hp:(mget x.k s.t.works).isSome=true
 ·rw [if_pos hp];exact qaM_ I.t.wd k
 ·rw [if_neg hp];split
  ·next e=>
   subst e;unfold gW
   cases hm:mget x.k s.t.works with
   | none=>rfl
   | some v=>rw [hm] at hp;exact absurd rfl hp
  ·rfl
theorem qdh_ {s:PS}:(Qde_ s).length=s.done.length:=by unfold Qde_;rw [List.length_map,ZP_,List.length_map]
end Go.Proofs.YtlflbkpmfhhikaaGreatDoor
namespace Go.Proofs.YtlflbkpmfhhikaaGreatDoor
open Go Go.Sx Go.Proofs Go.RowKit Go.Maps Go.Sort Go.Shelf Go.Lib
section
variable {ν:Type} {RV:Go.Sx.Rd ν} {ag:Bool} {H:Heap}
end
end Go.Proofs.YtlflbkpmfhhikaaGreatDoor
namespace Go.Proofs.YtlflbkpmfhhikaaGreatDoor
open Go Go.Sx Go.Proofs
open Go Go.Sx Go.Proofs
end Go.Proofs.YtlflbkpmfhhikaaGreatDoor
namespace Go.Proofs.YtlflbkpmfhhikaaGreatDoor
open Go Go.Sx Go.Proofs
structure PN where
  ps:PS
  cs:CS
structure PW where
  ns:List PN
  net:List Message
  now:Int
  log:List PactNote
def nAt (w:PW) (a:Int):Option PN:=if 0≤a then w.ns[a.toNat]? else none
theorem ZaO_ {w:PW} {a:Int} {q:PN}:nAt w a=some q↔∃i:Nat,a=i∧∃h:i<w.ns.length,w.ns[i]=q:=by
 unfold nAt;constructor
 ·intro h;split at h
  ·next h0=>
   obtain ⟨h1,h2⟩:=List.getElem?_eq_some_iff.1 h;exact ⟨a.toNat,by omega,h1,h2⟩
  ·cases h
 ·rintro ⟨i,rfl,h,rfl⟩;rw [if_pos (by omega),Int.toNat_natCast,List.getElem?_eq_getElem h]
theorem zbv_ {w:PW} {i:Nat} (h:i<w.ns.length):nAt w i=some w.ns[i]:=ZaO_.2 ⟨i,rfl,h,rfl⟩
theorem qdy_ {w:PW} {a:Int}:nAt w a=none↔¬(0≤a∧a<w.ns.length):=by
 unfold nAt;split
 ·rw [List.getElem?_eq_none_iff];omega
 ·simp;omega
def Qbv_ (l:List Message) (m:Message):List Message:=if l.length<64 then l++[m] else l
def Qv_ (l ms:List Message):List Message:=ms.foldl Qbv_ l
theorem Zbv_ {l ms:List Message}:Qv_ l ms=l++ms.take (64 - l.length):=by
 induction ms generalizing l with
 | nil=>simp [Qv_]
 | cons m ms ih=>
  show Qv_ (Qbv_ l m) ms=_;rw [ih];unfold Qbv_;split
  ·next h=>
   obtain ⟨k,hk⟩:∃k,64 - l.length=k+1:=⟨64 - l.length - 1,by omega⟩;rw [hk,List.take_succ_cons,List.append_assoc,List.length_append,List.length_singleton,show 64 - (l.length+1)=k by omega];rfl
  ·next h=>rw [show 64 - l.length=0 by omega,List.take_zero,List.take_zero]
def qn_ (p:Int) (l:List Rec):List PactNote:=l.map fun r=>⟨p,r⟩
def delM (l:List Message) (j:Nat):List Message:=l.take j++l.drop (j+1)
def setN (w:PW) (i:Nat) (q:PN):PW:={w with ns:=w.ns.set i q}
theorem Zcb_ {w:PW} {i:Nat} {q:PN} (h:i<w.ns.length) {a:Int}:nAt (setN w i q) a=if a=i then some q else nAt w a:=by
 unfold nAt setN;split
 ·next h0=>
  simp only [List.getElem?_set];by_cases e:a=i
  ·subst e;rw [if_pos rfl,if_pos (by omega)];simp;omega
  ·rw [if_neg e,if_neg (by omega)]
 ·next h0=>rw [if_neg (by omega)]
def ZR_ (m:Message):Prop:=m.Kind=1∨m.Kind=3
instance {m:Message}:Decidable (ZR_ m):=by unfold ZR_;infer_instance
inductive PHear (w:PW) (m:Message):PW→List Message→Prop
  | part (k:ZR_ m) (i:Nat) (hm:m.To=i) (h:i<w.ns.length) (cs:List Value):PHear w m {setN w i ⟨Zm_ w.ns[i].ps m cs,w.ns[i].cs⟩ with log:=w.log++qn_ m.To (qh_ w.ns[i].ps m)} (zk_ w.ns[i].ps m)
  | coord (k:¬ZR_ m) (i:Nat) (hm:m.To=i) (h:i<w.ns.length):PHear w m {setN w i ⟨w.ns[i].ps,(zh_ w.ns[i].cs m).s⟩ with log:=w.log++qn_ m.To (zh_ w.ns[i].cs m).rc} (zh_ w.ns[i].cs m).out
structure PSame (s s':PS):Prop where
  sh:s'.sh=s.sh
  w:∀k,gW s'.t k=gW s.t k
  h:∀k,mget k s'.t.held=mget k s.t.held
  d:∀k,mget k s'.done=mget k s.done
def zec_ (c:CS):CS:=⟨c.node,c.life+1,0,zV_ (openL c) []⟩
inductive PCrash (n:Nat) (w:PW) (i:Nat):PW→Prop
  | mk (h:i<w.ns.length) (s':PS) (hs:PSame w.ns[i].ps s') (hI:PInv n s'):PCrash n w i {setN w i ⟨s',zec_ w.ns[i].cs⟩ with net:=Net.clr i w.net}
def askL (s:PS):List Message:=(prepL s.t).map fun q=>askM s q.Txn
def saidB (s:CS) (now:Int) (ws:List (Int×CW)):List Message:=if ws=[] then [] else qi_ s.node (newX s) (zf_ now ws)
def qt_ (w:PW) (a:Int):Prop:=0≤a∧a<w.ns.length
def okMv (w:PW) (k a:Int) (n:Nat):Prop:=(k=1∧qt_ w a∧n≤w.ns.length)∨((k=5∨k=7)∧qt_ w a)∨(k=6∧0≤a∧a≤1073741824 - w.now)∨k=2∨k=3∨k=4∨k=8
def inN (l:List Message) (a:Int):Prop:=0≤a∧a<l.length
inductive PPlay (n:Nat) (w:PW) (k a:Int) (works:List Work):PW→Int→Prop
  | bad (h:¬okMv w k a works.length):PPlay n w k a works w 1
  | begin (hk:k=1) (i:Nat) (ha:a=i) (h:i<w.ns.length) (hn:works.length≤w.ns.length) (ws:List (Int×CW)) (hw:pq ws=works0 0 works):
      PPlay n w k a works {setN w i ⟨w.ns[i].ps,qd_ w.ns[i].cs w.now ws⟩ with net:=Qv_ w.net (saidB w.ns[i].cs w.now ws)} (if ws=[] then 4 else 0)
  | none (hk:k=2∨k=3∨k=4∨k=8) (h:¬inN w.net a):PPlay n w k a works w 4
  | deliver (hk:k=2) (j:Nat) (ha:a=j) (h:j<w.net.length) (w':PW) (out:List Message) (hh:PHear {w with net:=delM w.net j} w.net[j] w' out):PPlay n w k a works {w' with net:=Qv_ w'.net out} 0
  | fail (hk:k=8) (j:Nat) (ha:a=j) (h:j<w.net.length) (w' w'':PW) (out:List Message) (hh:PHear {w with net:=delM w.net j} w.net[j] w' out) (i:Nat) (hi:w.net[j].To=i) (hc:PCrash n w' i w''):PPlay n w k a works w'' 0
  | drop (hk:k=3) (j:Nat) (ha:a=j) (h:j<w.net.length):PPlay n w k a works {w with net:=delM w.net j} 0
  | copy (hk:k=4) (j:Nat) (ha:a=j) (h:j<w.net.length) (hf:w.net.length<64):PPlay n w k a works {w with net:=w.net++[w.net[j]]} 0
  | full (hk:k=4) (j:Nat) (ha:a=j) (h:j<w.net.length) (hf:¬w.net.length<64):PPlay n w k a works w 5
  | step (hk:k=5) (i:Nat) (ha:a=i) (h:i<w.ns.length):PPlay n w k a works {setN w i ⟨w.ns[i].ps,zD_ w.ns[i].cs w.now⟩ with net:=Qv_ (Qv_ w.net (Qar_ w.ns[i].cs w.now)) (askL w.ns[i].ps)} 0
  | tick (hk:k=6) (h0:0≤a) (h:a≤1073741824 - w.now):PPlay n w k a works {w with now:=w.now+a} 0
  | crash (hk:k=7) (i:Nat) (ha:a=i) (h:i<w.ns.length) (w':PW) (hc:PCrash n w i w'):PPlay n w k a works w' 0
end Go.Proofs.YtlflbkpmfhhikaaGreatDoor
set_option maxHeartbeats 16000000
set_option maxRecDepth 100000
namespace Go.Proofs.YtlflbkpmfhhikaaGreatDoor
open Go Go.Sx Go.Proofs
theorem qef_ {H:Heap} {b o:Nat} {q:RD} (hr:HRow H b o q.cv):HRow H b o [I q.Txn.Node,I q.Txn.Life,I q.Txn.Count]:=HRow.take (k:=3) hr
instance doneRDec {m:Part} {x:Txn}:Decidable (Zbe_ m x):=by unfold Zbe_;infer_instance
theorem zdz_ {W0:World} {H:Heap} {c:List Value} {m:Part} {x:Txn} (h0:zaz_ H c m):
  Ct Tryz.prog 124 #[.agg c.toArray,.agg x.cv.toArray] W0 H [] (fun r H' B=>r= .bool (decide (Zbe_ m x))∧B=[]∧H'=H):=by
 refine Ct.go (vs:=[.agg c.toArray,.agg x.cv.toArray]) fun R=>?_;obtain ⟨s1,s2,s3,rfl,hsh,hs1,hs2,hs3⟩:=h0;obtain ⟨b1,c1,rfl,hc1,hd1⟩:=hs1.1.shape;obtain ⟨b2,c2,rfl,hc2,hd2⟩:=hs2.1.shape;obtain ⟨b3,c3,rfl,hc3,hd3⟩:=hs3.1.shape;obtain ⟨sh,⟨hl,pr⟩,dn⟩:=m;obtain ⟨x1,x2,x3⟩:=x;unfold Zbe_;dsimp only at hsh hs1 hs2 hs3 hc1 hc2 hc3;dsimp only;refine walk ?_;refine qc_ rfl rfl fun p2 _=>?_;refine qc_ rfl rfl fun p3 _=>?_;refine walk ?_;refine Qc_ (σ:=Nat) (fun j=>j≤dn.length∧∀q∈dn.take j,q.Txn≠⟨x1,x2,x3⟩) (fun j=>[(2,.pointer (some ⟨p2,0,none⟩)),(3,.pointer (some ⟨p3,0,none⟩)),(5,I j)]) (fun _=>H) (fun _=>row p2 129 [I sh,.slice b1 hl.length c1,.slice b2 pr.length c2,.slice b3 dn.length c3]::row p3 47 [I x1,I x2,I x3]::R) (fun j=>dn.length - j) 0 ⟨Nat.zero_le _,by simp⟩ fun j ⟨hj0,hj⟩ K hL=>?_;refine walk ?_;refine Qe_ rfl (fun hk=>?_) (fun hk=>?_)
 ·have hk1:j<dn.length:=by omega
  have ht:=List.take_succ_eq_append_getElem hk1;refine walk ?_;refine qe_ rfl rfl hs3.1 hk1 fun b o cc hr hc=>?_;obtain ⟨rfl,hc⟩:=hc;have hrt:=qef_ hr;obtain ⟨ya,yb,yc,hy⟩:∃ya yb yc,dn[j].Txn=⟨ya,yb,yc⟩:=⟨_,_,_,rfl⟩;rw [hy] at hrt;change HRow H b o [I ya,I yb,I yc] at hrt;refine walk ?_;refine zg_ rfl rfl hrt rfl ?_;refine walk ?_;refine Qe_ rfl (fun hq=>?_) (fun hq=>?_)
  ·refine walk ?_;refine fin0 ?_;obtain ⟨rfl,rfl,rfl⟩:=hq;exact ⟨congrArg Value.bool (decide_eq_true ⟨_,List.getElem_mem hk1,hy⟩).symm,rfl,rfl⟩
  ·refine walk ?_;refine Zb_ hL (j+1) ⟨by omega,fun q hm=>?_⟩;rw [ht,List.mem_append,List.mem_singleton] at hm;rcases hm with hm | rfl
   ·exact hj q hm
   ·rw [hy];rintro e;exact hq (by simpa using tx_ext.1 e)
 ·clear hL;obtain rfl:j=dn.length:=by omega
  rw [List.take_length] at hj;refine walk ?_;refine fin0 ?_;exact ⟨congrArg Value.bool (decide_eq_false (fun ⟨d,h1,h2⟩=>hj d h1 h2)).symm,rfl,rfl⟩
theorem zcf_ {W0:World} {H:Heap} {cw:List Value} {w:Work} (hw:Qi_ H cw w) (hwn:w.ks.length*16≤zb_):
  Ct Tryz.prog 128 #[.agg cw.toArray] W0 H [] (fun r H' B=>r=I (ZB_ 0 w.ks)∧B=[]):=by
 refine Ct.go (vs:=[.agg cw.toArray]) fun R=>?_;have hks:=zaw_ (W0:=W0) hw hwn;obtain ⟨s1,s2,rfl,hrob,hs1,hs2⟩:=hw;obtain ⟨b1,c1,rfl,hc1,hd1⟩:=hs1.1.shape;obtain ⟨b2,c2,rfl,hc2,hd2⟩:=hs2.1.shape;refine walk ?_;refine qc_ rfl rfl fun p1 _=>?_;refine walk ?_;refine Za_ rfl rfl hks fun r1 H1 B hl1 ⟨eB,eH⟩=>?_;subst eB eH;refine Zd_ r1 fun H2 hl2 hsk=>?_;generalize w.ks=ks at*;generalize hT:ZB_ 0 ks=T;obtain ⟨bk,ck,rfl,hck,hdk⟩:=hsk.1.shape;refine walk ?_;refine Qc_ (σ:=Nat×Int) (fun u=>u.1≤ks.length∧ZB_ u.2 (ks.drop u.1)=T∧fits u.2) (fun u=>[(3,.slice bk ks.length ck),(4,I u.2),(5,I u.1)]) (fun _=>H2) (fun _=>R) (fun u=>ks.length - u.1) (0,0) ⟨Nat.zero_le _,hT,Zg_⟩ fun ⟨i,a2⟩ ⟨hi0,hF2,hfa2⟩ K2 hL2=>?_;simp only at hi0 hF2 hfa2;dsimp only;refine walk ?_;refine Qe_ rfl (fun hi=>?_) (fun hi=>?_)
 ·have hi1:i<ks.length:=by omega
  rw [List.drop_eq_getElem_cons hi1] at hF2;unfold ZB_ at hF2;have hrd:=fun (hz:ks[i].data.toList.length≤zb_)=>zcy_ (W0:=W0) (H:=H2) (l:=ks[i].data.toList) hz;rw [zcK_] at hrd;refine walk ?_;refine qe_ rfl rfl hsk.1 hi1 fun b o c hr hc=>?_;obtain ⟨rfl,hsz⟩:=hc;refine walk ?_;refine Za_ rfl rfl (hrd (by rw [←Lib.size_eq];exact hsz)) fun r6 H6 B hl6 ⟨hrr,eB,eH⟩=>?_;subst eB eH;obtain ⟨ka,kb,kt,ok,rfl,hkk⟩:=hrr.form;refine walk ?_;refine Qb_ rfl fun p10 _=>?_;refine walk ?_;rcases hkk with ⟨rfl,hkk⟩ | ⟨rfl,hno,rfl,rfl,rfl⟩
  ·exact v39_
  ·have ht:=Qbu_ hno;rw [ht,if_neg (by simp)] at hF2;rw [show (!false)=true from rfl];refine walk ?_;rw [←hF2];refine fin0 ?_;exact ⟨rfl,rfl⟩
 clear hL2;obtain rfl:i=ks.length:=by omega
 rw [List.drop_length] at hF2;unfold ZB_ at hF2;refine walk ?_;rw [←hF2];refine fin0 ?_;exact ⟨rfl,rfl⟩
theorem qaI_ {d:RD}:∀{l:List RD} {i:Nat},i≤l.length→(∀a∈l.take i,ltK a.Txn.k d.Txn.k)→(∀h:i<l.length,¬ltK l[i].Txn.k d.Txn.k)→putL d l=l.take i++d::l.drop i
 | [],i,hi,_,_=>by simp [putL]
 | a::l,0,hi,h1,h2=>by
  unfold putL;rw [if_neg (show ¬ltK a.Txn.k d.Txn.k from h2 (by simp))];rfl
 | a::l,i+1,hi,h1,h2=>by
  unfold putL;rw [if_pos (h1 a (by simp)),qaI_ (i:=i) (by simpa using hi) (fun b hb=>h1 b (by simp [hb])) (fun h=>h2 (Nat.succ_lt_succ h))];rfl
theorem v20_ {P:Prop} (h:P:=by
 refine walk ?_;refine zj_ (y:=⟨⟨x1,x2,x3⟩,du⟩) rfl rfl rfl ⟨rfl,hd⟩ (by rw [hll];simp only [zb_] at hcap⊢;omega) fun d3 e3=>?_;refine walk ?_;refine Zh_ rfl rfl (zH_ (l:=(k:Int)) (h:=(l.length:Int)) rfl rfl rfl (by omega) (by omega) (by omega)) ?_;have hsd:=h0.1.slc (l:=k) (h:=l.length) (by omega) (Nat.le_refl _);rw [List.take_of_length_le (by rw [List.length_drop];omega)] at hsd;rw [Int.toNat_natCast,Int.toNat_natCast];have hl4:(l.take k++[(⟨⟨x1,x2,x3⟩,du⟩:RD)]).length=k+1:=by rw [List.length_append,hll];rfl
 have hl5:(l.drop k).length=l.length - k:=List.length_drop;rw [show (l.take k).length+1=(l.take k++[(⟨⟨x1,x2,x3⟩,du⟩:RD)]).length by rw [hl4,hll]];refine Qq_ rfl rfl hsd (by rw [hl4,hl5];simp only [zb_] at hcap⊢;omega) fun d4 e4=>?_;rw [←List.length_append];have hfin:l.take k++[(⟨⟨x1,x2,x3⟩,du⟩:RD)]++l.drop k=putL ⟨⟨x1,x2,x3⟩,du⟩ l:=by rw [hsp,List.append_assoc];rfl
 rw [hfin];refine walk ?_;refine finB [ownS zp_ 4 32 249 H (.slice d4 (putL ⟨⟨x1,x2,x3⟩,du⟩ l).length e4) (putL ⟨⟨x1,x2,x3⟩,du⟩ l)] ?_;exact ⟨rfl,rfl⟩):P:=h
theorem Zdk_ {W0:World} {H:Heap} {v:Value} {l:List RD} {d:RD} (h0:SlB zp_ 4 32 H v l) (hd:fits d.Txn.Node∧fits d.Txn.Life∧fits d.Txn.Count∧fits d.Until) (hn:l.length≤100000):
  Ct Tryz.prog 127 #[v,.agg d.cv.toArray] W0 H [] (fun r H' B=>B=[ownS zp_ 4 32 249 H r (putL d l)]∧H'=H):=by
 refine Ct.go (vs:=[v,.agg d.cv.toArray]) fun R=>?_;obtain ⟨b0,c0,rfl,hc0,hd0⟩:=h0.1.shape;have hcap:(100000:Nat)*64≤zb_:=by decide
 obtain ⟨⟨x1,x2,x3⟩,du⟩:=d;dsimp only at hd;refine walk ?_;refine qc_ rfl rfl fun p3 _=>?_;refine walk ?_;refine Qc_ (σ:=Nat×Option Addr×Nat) (fun u=>u.1≤l.length∧∀q∈l.take u.1,ltK q.Txn.k (x1,x2,x3)) (fun u=>[(0,.slice b0 l.length c0),(3,.pointer (some ⟨p3,0,none⟩)),(5,.slice u.2.1 (l.take u.1).length u.2.2),(6,I u.1)]) (fun _=>H) (fun u=>ownS zp_ 4 32 249 H (.slice u.2.1 (l.take u.1).length u.2.2) (l.take u.1)::row p3 249 [I x1,I x2,I x3,I du]::R) (fun u=>l.length - u.1) (0,none,0) ⟨Nat.zero_le _,by simp⟩ (hs0:=?_) fun ⟨k,dd,e⟩ ⟨hk0,hlt⟩ K hL=>?_
 rotate_left
 ·exact v127_
 simp only at hk0 hlt;dsimp only;have hll:(l.take k).length=k:=by simp;omega
 by_cases hk1:k<l.length
 ·have hkk:((k:Int)<(l.length:Int)):=by omega
  have ht:=List.take_succ_eq_append_getElem hk1;refine walk ?_;refine zc_ 14 [row p3 249 [I x1,I x2,I x3,I du]] ?_;refine qa_ 0 ?_;refine qa_ 1 ?_;refine qa_ 2 ?_;refine qa_ 3 ?_;refine qa_ 4 ?_;refine qa_ 5 ?_;refine qa_ 6 ?_;refine Qf_ 7 rfl rfl rfl h0.1 hk1 fun b o cc hr hc=>?_;obtain ⟨rfl,hc⟩:=hc;have hrt:=qef_ hr;obtain ⟨ya,yb,yc,hy⟩:∃ya yb yc,l[k].Txn=⟨ya,yb,yc⟩:=⟨_,_,_,rfl⟩;rw [hy] at hrt;refine qa_ 8 ?_;refine Zl_ 9 rfl rfl rfl hrt rfl ?_;refine qa_ 10 ?_;refine qa_ 11 ?_;refine zq_ 12 rfl rfl rfl (zaS_ (x:=(ya,yb,yc)) (y:=(x1,x2,x3))) ?_;refine qa_ 13 ?_;refine qb_ rfl ?_;have hyk:l[k].Txn.k=(ya,yb,yc):=by rw [hy];rfl
  refine walk ?_;refine Qe_ rfl (fun hq=>?_) (fun hq=>?_)
  ·have hse:l.take k++[l[k]]=l.take (k+1):=ht.symm;have hsl2:(l.take k).length+1=(l.take (k+1)).length:=by rw [List.length_take,List.length_take];omega
   refine walk ?_;refine qe_ rfl rfl h0.1 hk1 fun b' o' cc' hr' hc'=>?_;obtain ⟨rfl,hc'⟩:=hc';have hyd:l[k]=⟨⟨ya,yb,yc⟩,l[k].Until⟩:=by rw [←hy]
   generalize l[k].Until=yd at hyd;rw [hyd] at hr' hc' hse;change HRow H b' o' [I ya,I yb,I yc,I yd] at hr';refine walk ?_;refine zg_ rfl rfl hr' rfl ?_;refine zj_ (y:=⟨⟨ya,yb,yc⟩,yd⟩) rfl rfl rfl ⟨rfl,hc'⟩ (by rw [hll];simp only [zb_] at hcap⊢;omega) fun d3 e3=>?_;rw [hsl2,hse];refine walk ?_;refine Zb_ hL (k+1,d3,e3) ⟨by simp only;omega,fun q hm=>?_⟩;rw [ht,List.mem_append,List.mem_singleton] at hm;rcases hm with hm | rfl
   ·exact hlt q hm
   ·rw [hyk];exact hq
  ·have hsp:=qaI_ (d:=⟨⟨x1,x2,x3⟩,du⟩) hk0 hlt (fun h=>by rw [hyk];exact hq);clear hL;exact v20_
 ·have hkk:¬((k:Int)<(l.length:Int)):=by omega
  have hsp:=qaI_ (d:=⟨⟨x1,x2,x3⟩,du⟩) hk0 hlt (fun h=>absurd h hk1);clear hL;refine walk ?_;refine zc_ 14 [row p3 249 [I x1,I x2,I x3,I du]] ?_;refine qa_ 0 ?_;refine qa_ 1 ?_;refine qa_ 2 ?_;refine qa_ 3 ?_;refine qa_ 4 ?_;refine Qr_ 5 rfl rfl ?_;refine Qr_ 6 rfl rfl ?_;refine Qr_ 7 rfl rfl ?_;refine Qr_ 8 rfl rfl ?_;refine Qr_ 9 rfl rfl ?_;refine Qr_ 10 rfl rfl ?_;refine Qr_ 11 rfl rfl ?_;refine Qr_ 12 rfl rfl ?_;refine qa_ 13 ?_;refine qb_ rfl ?_;refine walk ?_;exact v20_
def askR (m:Part) (q:Rec):Message:={Qk_ with From:=m.Shard,To:=q.Txn.Node,Kind:=5,Txn:=q.Txn}
end Go.Proofs.YtlflbkpmfhhikaaGreatDoor
