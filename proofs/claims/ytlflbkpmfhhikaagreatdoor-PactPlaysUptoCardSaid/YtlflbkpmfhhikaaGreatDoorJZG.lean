/- The document's world, walked: send, part, coord. -/
import Derived.Test.YtlflbkpmfhhikaaGreatDoorJQI
import Derived.Test.YtlflbkpmfhhikaaGreatDoorJTH
import Derived.Test.YtlflbkpmfhhikaaGreatDoorJTO
import Derived.Test.YtlflbkpmfhhikaaGreatDoorJTR
import Derived.Test.YtlflbkpmfhhikaaGreatDoorJXB
set_option maxHeartbeats 16000000
set_option maxRecDepth 100000
set_option linter.unusedVariables false
set_option linter.unusedSimpArgs false
namespace Go.Proofs.YtlflbkpmfhhikaaGreatDoor.Net
open Go Go.Sx Go.Proofs
theorem v44_ {P:Prop} (h:P:=by
 refine zt_ 5 rfl (zcw_ rfl hc hcap2 fun d2 e2=>⟨.refl _,subA,?_⟩);refine qb_ rfl ?_;refine Zc_ (.slice d2 (([]++ms).length+1) e2) fun H1 hl1 hf=>?_;refine walk ?_;refine fin0 ?_;exact ⟨_,rfl,hf,rfl⟩):P:=h
theorem refSend_yes {W0:World} {H:Heap} {l:Value} {c:List Value} {ms:List Message} {m:Message} (hs:SlB Qa_ 19 216 H l ms) (h0:Qa_ H c m) (hlt:ms.length<64):
  Ct Tryz.prog 89 #[l,.agg c.toArray] W0 H [] (fun r H' B=>∃v,r= .tuple #[v,I 0]∧SlB Qa_ 19 216 H' v (ms++[m])∧B=[]):=by
 refine Ct.go fun R=>?_;obtain ⟨b0,c0,rfl,hc0,hd0⟩:=hs.1.shape;have hc:=h0;obtain ⟨s1,s2,s3,s4,rfl,f1,f2,f3,f4,f5,f6,f7,h1,h2,f8,f9,f10,f11,h3,f12,f13,f14,h4⟩:=h0;refine walk ?_;refine qc_ rfl rfl fun p1 _=>?_;refine walk ?_;have hcap1:([].length (α:=Message)+ms.length)*216≤Qb_:=by simpa using hs.2
 have hcap2:(([]++ms:List Message).length+1)*216≤Qb_:=by simp only [List.nil_append,Qb_];omega
 refine zc_ 6 [row p1 106 (m.cv s1 s2 s3 s4)] ?_
 (first | refine qA_ 1 rfl rfl ?_ | refine Qo_ 1 rfl rfl rfl ?_ | refine qk_ 1 rfl rfl rfl ?_);(first | refine qA_ 3 rfl rfl ?_ | refine Qo_ 3 rfl rfl rfl ?_ | refine qk_ 3 rfl rfl rfl ?_)
 refine qaC_ 0 4 rfl rfl (Qag_ (wd:=216) Qa_ fun b1=>⟨.refl _,subA,?_⟩) (Ze_ rfl rfl rfl fun b2=>⟨.refl _,subA,?_⟩)
 ·refine qaC_ 2 4 rfl rfl (QF_ rfl hs.1 hcap1 fun d1 e1=>⟨.refl _,subA,?_⟩) (Ze_ rfl rfl rfl fun b2=>⟨.refl _,subA,?_⟩)
  ·refine zt_ 4 rfl (Ze_ rfl rfl rfl fun b2=>⟨.refl _,subA,?_⟩);exact v44_
  ·refine zt_ 2 rfl (QF_ rfl hs.1 hcap1 fun d1 e1=>⟨.refl _,subA,?_⟩);exact v44_
 ·refine zt_ 0 rfl (Qag_ (wd:=216) Qa_ fun b1=>⟨.refl _,subA,?_⟩);refine zt_ 2 rfl (QF_ rfl hs.1 hcap1 fun d1 e1=>⟨.refl _,subA,?_⟩);exact v44_
theorem refSend_no {W0:World} {H:Heap} {l:Value} {c:List Value} {ms:List Message} {m:Message} (hs:SlB Qa_ 19 216 H l ms) (h0:Qa_ H c m) (hlt:¬ms.length<64):
  Ct Tryz.prog 89 #[l,.agg c.toArray] W0 H [] (fun r H' B=>r= .tuple #[l,I 5]∧B=[]∧H'=H):=by
 refine Ct.go fun R=>?_;obtain ⟨b0,c0,rfl,hc0,hd0⟩:=hs.1.shape;refine walk ?_;refine qc_ rfl rfl fun p1 _=>?_;exact v148_
theorem refCopy_yes {W0:World} {H:Heap} {l:Value} {ms:List Message} {j:Nat} (hs:SlB Qa_ 19 216 H l ms) (hj:j<ms.length) (hlt:ms.length<64):
  Ct Tryz.prog 56 #[l,I j] W0 H [] (fun r H' B=>∃v,r= .tuple #[v,I 0]∧SlB Qa_ 19 216 H' v (ms++[ms[j]])∧B=[]):=by
 refine Ct.go fun R=>?_;obtain ⟨b0,c0,rfl,hc0,hd0⟩:=hs.1.shape;refine walk ?_;refine Zd_ rfl rfl hs.1 hj fun b o c hr hc=>?_;refine zf_ rfl rfl hr (RdOk.len hc) ?_;refine Za_ rfl rfl (refSend_yes hs hc hlt) fun r1 H1 B hl1 ⟨v,er,hv,eB⟩=>?_;subst er eB;refine walk ?_;refine fin0 ?_;exact ⟨_,rfl,hv,rfl⟩
theorem refCopy_full {W0:World} {H:Heap} {l:Value} {ms:List Message} {j:Nat} (hs:SlB Qa_ 19 216 H l ms) (hj:j<ms.length) (hlt:¬ms.length<64):
  Ct Tryz.prog 56 #[l,I j] W0 H [] (fun r H' B=>r= .tuple #[l,I 5]∧B=[]∧H'=H):=by
 refine Ct.go fun R=>?_;obtain ⟨b0,c0,rfl,hc0,hd0⟩:=hs.1.shape;refine walk ?_;refine Zd_ rfl rfl hs.1 hj fun b o c hr hc=>?_;refine zf_ rfl rfl hr (RdOk.len hc) ?_;refine Za_ rfl rfl (refSend_no hs hc hlt) fun r1 H1 B hl1 ⟨er,eB,eH⟩=>?_;subst er eB eH;exact v148_
theorem refCopy_no {W0:World} {H:Heap} {l:Value} {ms:List Message} {i:Int} (hs:SlB Qa_ 19 216 H l ms) (hi:¬inR ms i):
  Ct Tryz.prog 56 #[l,I i] W0 H [] (fun r H' B=>r= .tuple #[l,I 4]∧B=[]∧H'=H):=by
 refine Ct.go fun R=>?_;obtain ⟨b0,c0,rfl,hc0,hd0⟩:=hs.1.shape;unfold inR at hi;by_cases h0:i<0
 all_goals
  refine walk ?_;refine fin0 ?_;exact v50_
theorem refDrop_no {W0:World} {H:Heap} {l:Value} {ms:List Message} {i:Int} (hs:SlB Qa_ 19 216 H l ms) (hi:¬inR ms i):
  Ct Tryz.prog 53 #[l,I i] W0 H [] (fun r H' B=>∃c,r= .tuple #[l,.agg c.toArray,I 4]∧Qa_ H c Zk_∧B=[]∧H'=H):=by
 refine Ct.go fun R=>?_;obtain ⟨b0,c0,rfl,hc0,hd0⟩:=hs.1.shape;unfold inR at hi;refine walk ?_;refine zb_ rfl fun p1 _=>?_;by_cases h0:i<0
 all_goals
  refine walk ?_;refine fin0 ?_;exact ⟨_,rfl,zbm_,rfl,rfl⟩
theorem zeg_ {α:Type} {R:Rd α} {sz w:Nat} [RdOk R sz] {H:Heap} {base:Option Addr} {m cap j:Nat} {xs:List α} (hr:SlR R sz H (.slice base m cap) xs) (hj:j≤xs.length):SlR R sz H (.slice base j cap) (xs.take j):=by
 have:=hr.slc (l:=0) (h:=j) (by omega) hj;rw [qdf_] at this;simpa using this
theorem refDrop_yes {W0:World} {H:Heap} {l:Value} {ms:List Message} {j:Nat} (hs:SlB Qa_ 19 216 H l ms) (hj:j<ms.length):
  Ct Tryz.prog 53 #[l,I j] W0 H [] (fun r H' B=>∃v c,r= .tuple #[v,.agg c.toArray,I 0]∧Qa_ H' c ms[j]∧SlB Qa_ 19 216 H' v (del ms j)∧B=[]):=by
 refine Ct.go fun R=>?_;obtain ⟨b0,c0,rfl,hc0,hd0⟩:=hs.1.shape;have hsm:ms.length*216≤140737488355328:=hs.2;refine walk ?_;refine zb_ rfl fun p1 _=>?_;refine walk ?_;refine QW_ (w:=216) Qa_ rfl fun b1=>?_;refine walk ?_;refine zo_ rfl rfl (zeg_ (w:=216) hs.1 (by omega:j≤ms.length)) (by simp only [Qb_,List.length_take,List.length_nil];omega) fun d1 e1=>?_;have hlen:([]:List Message).length+(ms.take j).length=j:=by simp;omega
 refine walk ?_;refine zc_ 11 [] ?_
 (first | refine qA_ 0 rfl rfl ?_ | refine Qo_ 0 rfl rfl rfl ?_ | refine qk_ 0 rfl rfl rfl ?_);(first | refine qA_ 1 rfl rfl ?_ | refine Qo_ 1 rfl rfl rfl ?_ | refine qk_ 1 rfl rfl rfl ?_);(first | refine qA_ 2 rfl rfl ?_ | refine Qo_ 2 rfl rfl rfl ?_ | refine qk_ 2 rfl rfl rfl ?_);(first | refine qA_ 3 rfl rfl ?_ | refine Qo_ 3 rfl rfl rfl ?_ | refine qk_ 3 rfl rfl rfl ?_)
 refine Qab_ 4 rfl (ZI_ (l:=(j:Int)+1) (h:=(ms.length:Int)) rfl rfl rfl (by omega) (by omega) (by omega)) ?_ (by decide+kernel) (fun _ _ _ h=>h) (.refl _) subA rfl
 (first | refine qA_ 6 rfl rfl ?_ | refine Qo_ 6 rfl rfl rfl ?_ | refine qk_ 6 rfl rfl rfl ?_);(first | refine qA_ 7 rfl rfl ?_ | refine Qo_ 7 rfl rfl rfl ?_ | refine qk_ 7 rfl rfl rfl ?_)
 refine qdT_ 8 rfl rfl hs.1 hj fun b o c hr hc=>?_;refine ZdC_ 9 rfl rfl hr (RdOk.len hc) ?_;have hs2:=hs.1.slc (l:=j+1) (h:=ms.length) (by omega) (by omega);rw [show (ms.drop (j+1)).take (ms.length - (j+1))=ms.drop (j+1) from List.take_of_length_le (by simp)] at hs2;refine zt_ 5 rfl (QF_ rfl hs2 (by simp only [Qb_,List.length_append,List.length_take,List.length_nil,List.length_drop];omega) fun d2 e2=>⟨.refl _,subA,?_⟩)
 (first | refine qA_ 10 rfl rfl ?_ | refine Qo_ 10 rfl rfl rfl ?_ | refine qk_ 10 rfl rfl rfl ?_)
 refine qb_ rfl ?_;refine Zc_ (.slice d2 (([]++ms.take j).length+(ms.drop (j+1)).length) e2) fun H1 hl1 hf=>?_;have hcl:=hc;obtain ⟨s1,s2,s3,s4,rfl,_⟩:=hcl;obtain ⟨_,_,_,_,q,k1,k2,k3,k4,k5,k6,k7,h1,h2,k8,k9,k10,k11,h3,k12,k13,k14,h4⟩:=hc
 cases q
 obtain ⟨d1,e1,rfl,_⟩:=h1.1.shape;obtain ⟨d2,e2,rfl,_⟩:=h2.1.shape;obtain ⟨d3,e3,rfl,_⟩:=h3.1.shape;obtain ⟨d4,e4,rfl,_⟩:=h4.1.shape;refine walk ?_;refine fin0 ?_;exact ⟨_,_,rfl,⟨_,_,_,_,rfl,k1,k2,k3,k4,k5,k6,k7,h1.mono hl1,h2.mono hl1,k8,k9,k10,k11,h3.mono hl1,k12,k13,k14,h4.mono hl1⟩,hf,rfl⟩
theorem refClear_spec {W0:World} {H:Heap} {l:Value} {ms:List Message} {to:Int} (hs:SlB Qa_ 19 216 H l ms):
  Ct Tryz.prog 94 #[l,I to] W0 H [] (fun r H' B=>∃v,r= .tuple #[v,I ((ms.length - (clr to ms).length:Nat):Int)]∧SlB Qa_ 19 216 H' v (clr to ms)∧B=[]):=by
 refine Ct.go fun R=>?_;obtain ⟨b0,c0,rfl,hc0,hd0⟩:=hs.1.shape;have hsm:ms.length*216≤140737488355328:=hs.2;refine walk ?_;refine ex_L (ownS_nil (R:=Qa_) (sz:=19) (w:=216) (T:=106) (H:=H) (base:=none)) ?_;refine Qc_ (σ:=Nat×Value) (fun s=>s.1≤ms.length) (fun s=>[(0,.slice b0 ms.length c0),(1,I to),(6,s.2),(7,I s.1)]) (fun _=>H) (fun s=>ownS Qa_ 19 216 106 H s.2 (clr to (ms.take s.1))::R) (fun s=>ms.length - s.1) (0,nilS) (Nat.zero_le _) fun ⟨k,v⟩ hk0 K hL=>?_;simp only at hk0;dsimp only;refine walk ?_;refine ze_ rfl (fun hk=>?_) (fun hk=>?_)
 ·have hk1:k<ms.length:=by omega
  have hls:=Qcp_ (to:=to) (ms:=ms.take k);have hlt:(ms.take k).length=k:=by simp;omega
  refine walk ?_;refine Zd_ rfl rfl hs.1 hk1 fun b o c hr hc=>?_;have hcl:=hc;obtain ⟨s1,s2,s3,s4,rfl,_⟩:=hcl;refine walk ?_;refine ze_ rfl (fun he=>?_) (fun he=>?_)
  ·refine walk ?_;refine Zd_ rfl rfl hs.1 hk1 fun b2 o2 c2 hr2 hc2=>?_;refine zf_ rfl rfl hr2 (RdOk.len hc2) ?_;refine Zj_ rfl rfl rfl hc2 (by simp only [Qb_];omega) fun d1 e1=>?_;refine walk ?_;refine Zb_ hL (k+1,_) (by simp only;omega) (hs:=?_);dsimp only;rw [List.take_succ_eq_append_getElem hk1,QcG_,if_neg he];exact Sub.refl _
  ·refine walk ?_;refine Zb_ hL (k+1,v) (by simp only;omega) (hs:=?_);dsimp only;rw [List.take_succ_eq_append_getElem hk1,QcG_,if_pos (Classical.not_not.1 he)];exact Sub.refl _
 ·have hke:k=ms.length:=by omega
  subst hke;rw [List.take_length];refine walk ?_;refine Qp_ v fun d1 e1 e q1 q2 q3=>?_;subst e;have hls:=Qcp_ (to:=to) (ms:=ms);refine walk ?_;rw [show ((ms.length:Int) - ((clr to ms).length:Int))=((ms.length - (clr to ms).length:Nat):Int) by omega];refine walk ?_;refine qg_ (.slice d1 (clr to ms).length e1) fun H1 hl1 hf=>?_;refine fin0 ?_;exact ⟨_,rfl,hf,rfl⟩
end Go.Proofs.YtlflbkpmfhhikaaGreatDoor.Net
namespace Go.Proofs.YtlflbkpmfhhikaaGreatDoor
open Go Go.Sx Go.Proofs
structure PN where
  ps:PS
  cs:CS
structure PW where
  ns:List PN
  net:List Message
  now:Int
  log:List PactNote
def nAt (w:PW) (a:Int):Option PN:=if 0≤a then w.ns[a.toNat]? else none
theorem qaT_ {w:PW} {a:Int} {q:PN}:nAt w a=some q↔∃i:Nat,a=i∧∃h:i<w.ns.length,w.ns[i]=q:=by
 unfold nAt;constructor
 ·intro h;split at h
  ·next h0=>
   obtain ⟨h1,h2⟩:=List.getElem?_eq_some_iff.1 h;exact ⟨a.toNat,by omega,h1,h2⟩
  ·cases h
 ·rintro ⟨i,rfl,h,rfl⟩;rw [if_pos (by omega),Int.toNat_natCast,List.getElem?_eq_getElem h]
theorem Zby_ {w:PW} {i:Nat} (h:i<w.ns.length):nAt w i=some w.ns[i]:=qaT_.2 ⟨i,rfl,h,rfl⟩
theorem Zcy_ {w:PW} {a:Int}:nAt w a=none↔¬(0≤a∧a<w.ns.length):=by
 unfold nAt;split
 ·rw [List.getElem?_eq_none_iff];omega
 ·simp;omega
def qbz_ (l:List Message) (m:Message):List Message:=if l.length<64 then l++[m] else l
def Zq_ (l ms:List Message):List Message:=ms.foldl qbz_ l
theorem qcz_ {l ms:List Message}:Zq_ l ms=l++ms.take (64 - l.length):=by
 induction ms generalizing l with
 | nil=>simp [Zq_]
 | cons m ms ih=>
  show Zq_ (qbz_ l m) ms=_;rw [ih];unfold qbz_;split
  ·next h=>
   obtain ⟨k,hk⟩:∃k,64 - l.length=k+1:=⟨64 - l.length - 1,by omega⟩;rw [hk,List.take_succ_cons,List.append_assoc,List.length_append,List.length_singleton,show 64 - (l.length+1)=k by omega];rfl
  ·next h=>rw [show 64 - l.length=0 by omega,List.take_zero,List.take_zero]
def zm_ (p:Int) (l:List Rec):List PactNote:=l.map fun r=>⟨p,r⟩
def delM (l:List Message) (j:Nat):List Message:=l.take j++l.drop (j+1)
def setN (w:PW) (i:Nat) (q:PN):PW:={w with ns:=w.ns.set i q}
theorem zcg_ {w:PW} {i:Nat} {q:PN} (h:i<w.ns.length) {a:Int}:nAt (setN w i q) a=if a=i then some q else nAt w a:=by
 unfold nAt setN;split
 ·next h0=>
  simp only [List.getElem?_set];by_cases e:a=i
  ·subst e;rw [if_pos rfl,if_pos (by omega)];simp;omega
  ·rw [if_neg e,if_neg (by omega)]
 ·next h0=>rw [if_neg (by omega)]
def ZN_ (m:Message):Prop:=m.Kind=1∨m.Kind=3
instance {m:Message}:Decidable (ZN_ m):=by unfold ZN_;infer_instance
inductive PHear (w:PW) (m:Message):PW→List Message→Prop
  | part (k:ZN_ m) (i:Nat) (hm:m.To=i) (h:i<w.ns.length) (cs:List Value):PHear w m {setN w i ⟨Qm_ w.ns[i].ps m cs,w.ns[i].cs⟩ with log:=w.log++zm_ m.To (Qh_ w.ns[i].ps m)} (Qk_ w.ns[i].ps m)
  | coord (k:¬ZN_ m) (i:Nat) (hm:m.To=i) (h:i<w.ns.length):PHear w m {setN w i ⟨w.ns[i].ps,(Zh_ w.ns[i].cs m).s⟩ with log:=w.log++zm_ m.To (Zh_ w.ns[i].cs m).rc} (Zh_ w.ns[i].cs m).out
structure PSame (s s':PS):Prop where
  sh:s'.sh=s.sh
  w:∀k,gW s'.t k=gW s.t k
  h:∀k,mget k s'.t.held=mget k s.t.held
  d:∀k,mget k s'.done=mget k s.done
def qr_ (c:CS):CS:=⟨c.node,c.life+1,0,loadTs (openL c) []⟩
inductive PCrash (n:Nat) (w:PW) (i:Nat):PW→Prop
  | mk (h:i<w.ns.length) (s':PS) (hs:PSame w.ns[i].ps s') (hI:PInv n s'):PCrash n w i {setN w i ⟨s',qr_ w.ns[i].cs⟩ with net:=Net.clr i w.net}
def askL (s:PS):List Message:=(prepL s.t).map fun q=>askM s q.Txn
def saidB (s:CS) (now:Int) (ws:List (Int×CW)):List Message:=if ws=[] then [] else Zi_ s.node (newX s) (Zp_ now ws)
def zn_ (w:PW) (a:Int):Prop:=0≤a∧a<w.ns.length
def okMv (w:PW) (k a:Int) (n:Nat):Prop:=(k=1∧zn_ w a∧n≤w.ns.length)∨((k=5∨k=7)∧zn_ w a)∨(k=6∧0≤a∧a≤1073741824 - w.now)∨k=2∨k=3∨k=4∨k=8
def inN (l:List Message) (a:Int):Prop:=0≤a∧a<l.length
inductive PPlay (n:Nat) (w:PW) (k a:Int) (works:List Work):PW→Int→Prop
  | bad (h:¬okMv w k a works.length):PPlay n w k a works w 1
  | begin (hk:k=1) (i:Nat) (ha:a=i) (h:i<w.ns.length) (hn:works.length≤w.ns.length) (ws:List (Int×CW)) (hw:pq ws=works0 0 works):
      PPlay n w k a works {setN w i ⟨w.ns[i].ps,Qg_ w.ns[i].cs w.now ws⟩ with net:=Zq_ w.net (saidB w.ns[i].cs w.now ws)} (if ws=[] then 4 else 0)
  | none (hk:k=2∨k=3∨k=4∨k=8) (h:¬inN w.net a):PPlay n w k a works w 4
  | deliver (hk:k=2) (j:Nat) (ha:a=j) (h:j<w.net.length) (w':PW) (out:List Message) (hh:PHear {w with net:=delM w.net j} w.net[j] w' out):PPlay n w k a works {w' with net:=Zq_ w'.net out} 0
  | fail (hk:k=8) (j:Nat) (ha:a=j) (h:j<w.net.length) (w' w'':PW) (out:List Message) (hh:PHear {w with net:=delM w.net j} w.net[j] w' out) (i:Nat) (hi:w.net[j].To=i) (hc:PCrash n w' i w''):PPlay n w k a works w'' 0
  | drop (hk:k=3) (j:Nat) (ha:a=j) (h:j<w.net.length):PPlay n w k a works {w with net:=delM w.net j} 0
  | copy (hk:k=4) (j:Nat) (ha:a=j) (h:j<w.net.length) (hf:w.net.length<64):PPlay n w k a works {w with net:=w.net++[w.net[j]]} 0
  | full (hk:k=4) (j:Nat) (ha:a=j) (h:j<w.net.length) (hf:¬w.net.length<64):PPlay n w k a works w 5
  | step (hk:k=5) (i:Nat) (ha:a=i) (h:i<w.ns.length):PPlay n w k a works {setN w i ⟨w.ns[i].ps,Qq_ w.ns[i].cs w.now⟩ with net:=Zq_ (Zq_ w.net (Qz_ w.ns[i].cs w.now)) (askL w.ns[i].ps)} 0
  | tick (hk:k=6) (h0:0≤a) (h:a≤1073741824 - w.now):PPlay n w k a works {w with now:=w.now+a} 0
  | crash (hk:k=7) (i:Nat) (ha:a=i) (h:i<w.ns.length) (w':PW) (hc:PCrash n w i w'):PPlay n w k a works w' 0
abbrev RWc (a b c d:Option Addr×Nat) (x:Convoyref17World):List Value:=[.slice a.1 x.Parts.length a.2,.slice b.1 x.Coords.length b.2,.slice c.1 x.Net.length c.2,I x.Now,.slice d.1 x.Log.length d.2]
abbrev rW17:=ZX_
theorem Qi_ {H:Heap} {c:List Value} {x:Convoyref17World} (h:rW17 H c x):∃p q r s,c=RWc p q r s x∧SlB ZaA_ 4 80 H (.slice p.1 x.Parts.length p.2) x.Parts∧SlB Qu_ 4 48 H (.slice q.1 x.Coords.length q.2) x.Coords∧SlB Qa_ 19 216 H (.slice r.1 x.Net.length r.2) x.Net∧fits x.Now∧SlB zw_ 10 128 H (.slice s.1 x.Log.length s.2) x.Log:=by
 obtain ⟨s1,s2,s3,s4,rfl,h1,h2,h3,h4,h5⟩:=h;obtain ⟨b1,c1,rfl,_,_⟩:=h1.1.shape;obtain ⟨b2,c2,rfl,_,_⟩:=h2.1.shape;obtain ⟨b3,c3,rfl,_,_⟩:=h3.1.shape;obtain ⟨b4,c4,rfl,_,_⟩:=h5.1.shape;exact ⟨(b1,c1),(b2,c2),(b3,c3),(b4,c4),rfl,h1,h2,h3,h4,h5⟩
theorem zcV_ {l ms:List Message} {i:Nat} (hi:i<ms.length):Zq_ l (ms.take (i+1))=qbz_ (Zq_ l (ms.take i)) ms[i]:=by
 rw [List.take_succ_eq_append_getElem hi];unfold Zq_;rw [List.foldl_append];rfl
theorem ZV_ {W0:World} {H:Heap} {c:List Value} {x:Convoyref17World} {v:Value} {l:List Message} (h0:rW17 H c x) (hs:SlB Qa_ 19 216 H v l):
  Ct Tryz.prog 51 #[.agg c.toArray,v] W0 H [] (fun r H' B=>∃c',r= .agg c'.toArray∧rW17 H' c' {x with Net:=Zq_ x.Net l}∧B=[]):=by
 refine Ct.go (vs:=[.agg c.toArray,v]) fun R=>?_;obtain ⟨⟨b1,c1⟩,⟨b2,c2⟩,⟨b3,c3⟩,⟨b4,c4⟩,rfl,h1,h2,h3,h4,h5⟩:=Qi_ h0;obtain ⟨bv,cv,rfl,_,_⟩:=hs.1.shape;refine walk ?_;refine qc_ rfl rfl fun p2 _=>?_;refine zb_ rfl fun p4 _=>?_;refine walk ?_
 refine Qc_ (σ:=Nat×(Option Addr×Nat)×Heap) (fun u=>u.1≤l.length∧H.le u.2.2∧SlB Qa_ 19 216 u.2.2 (.slice u.2.1.1 (Zq_ x.Net (l.take u.1)).length u.2.1.2) (Zq_ x.Net (l.take u.1))) (fun u=>[(1,.slice bv l.length cv),(2,.pointer (some ⟨p2,0,none⟩)),(4,.pointer (some ⟨p4,0,none⟩)),(5,I u.1)]) (fun u=>u.2.2)
  (fun u=>row p2 65 [.slice b1 x.Parts.length c1,.slice b2 x.Coords.length c2,.slice u.2.1.1 (Zq_ x.Net (l.take u.1)).length u.2.1.2,I x.Now,.slice b4 x.Log.length c4]::row p4 65 [nilS,nilS,nilS,I 0,nilS]::R) (fun u=>l.length - u.1) (0,(b3,c3),H) ⟨Nat.zero_le _,.refl _,h3⟩ fun ⟨i,⟨bn,cn⟩,HK⟩ ⟨hi0,hlK,hn⟩ K hL=>?_
 simp only at hi0 hlK hn;dsimp only;by_cases hi1:i<l.length
 ·have hi2:(i:Int)<(l.length:Int):=by omega
  have hss:=zcV_ (l:=x.Net) hi1;obtain ⟨g,hg⟩:∃g,l[i]=g:=⟨_,rfl⟩;rw [hg] at hss;generalize hcur:Zq_ x.Net (l.take i)=cur at hn hss⊢;refine walk ?_;refine zc_ 6 [row p2 65 [.slice b1 x.Parts.length c1,.slice b2 x.Coords.length c2,.slice bn cur.length cn,I x.Now,.slice b4 x.Log.length c4]] ?_;refine qa_ 0 ?_;refine qa_ 1 ?_;refine qa_ 2 ?_;refine qa_ 3 ?_;refine zg_ 4 rfl rfl rfl (hs.1.mono hlK) hi1 fun ba oa ca hra hca=>?_;rw [hg] at hca;have hcc:=hca;obtain ⟨t1,t2,t3,t4,rfl,_⟩:=hca;refine Ql_ 5 rfl rfl rfl hra rfl ?_;refine qaj_ 12 [] ?_;by_cases h64:cur.length<64
  ·have hs1:qbz_ cur g=cur++[g]:=if_pos h64;refine qe_ 6 rfl rfl rfl (Net.refSend_yes (W0:=W0) (H:=HK) hn hcc h64) fun r6 H6 B hl6 ⟨v6,er,hv6,eB⟩=>?_;subst er eB;refine ⟨subA,?_⟩;obtain ⟨bm,cm,rfl,_,_⟩:=hv6.1.shape;refine qa_ 7 ?_;refine zd_ 8 rfl rfl rfl rfl ?_;refine zd_ 9 rfl rfl rfl rfl ?_;refine qa_ 10 ?_;refine zk_ 11 rfl rfl rfl rfl (by simp) rfl ⟨subA,?_⟩;refine qb_ rfl ?_;refine walk ?_;refine Zb_ hL (i+1,(bm,cm),H6) ⟨by simp only;omega,hlK.trans hl6,by simp only [hss,hs1];exact hv6⟩ (hs:=?_);simp only [hss,hs1];exact subA
  ·have hs1:qbz_ cur g=cur:=if_neg h64;refine qe_ 6 rfl rfl rfl (Net.refSend_no (W0:=W0) (H:=HK) hn hcc h64) fun r6 H6 B hl6 ⟨er,eB,eH⟩=>?_;subst er eB eH;refine ⟨subA,?_⟩;refine qa_ 7 ?_;refine zd_ 8 rfl rfl rfl rfl ?_;refine zd_ 9 rfl rfl rfl rfl ?_;refine qa_ 10 ?_;refine zk_ 11 rfl rfl rfl rfl (by simp) rfl ⟨subA,?_⟩;refine qb_ rfl ?_;refine walk ?_;refine Zb_ hL (i+1,(bn,cn),H6) ⟨by simp only;omega,hlK,by simp only [hss,hs1];exact hn⟩ (hs:=?_);simp only [hss,hs1];exact subA
 ·obtain rfl:i=l.length:=by omega
  clear hL;rw [List.take_length] at hn⊢;refine walk ?_;refine fin0 ?_;exact ⟨_,rfl,⟨_,_,_,_,rfl,h1.mono hlK,h2.mono hlK,hn,h4,h5.mono hlK⟩,rfl⟩
theorem Qcs_ {W0:World} {H:Heap} {c ce:List Value} {x:Convoyref17World} {e:_} {i:Nat} (h0:rW17 H c x) (he:ZaA_ H ce e) (hi:i<x.Parts.length):
  Ct Tryz.prog 91 #[.agg c.toArray,I i,.agg ce.toArray] W0 H [] (fun r H' B=>∃c',r= .agg c'.toArray∧rW17 H' c' {x with Parts:=x.Parts.set i e}∧B=[]):=by
 refine Ct.go (vs:=[.agg c.toArray,I i,.agg ce.toArray]) fun R=>?_;obtain ⟨⟨b1,c1⟩,⟨b2,c2⟩,⟨b3,c3⟩,⟨b4,c4⟩,rfl,h1,h2,h3,h4,h5⟩:=Qi_ h0;have hee:=he;obtain ⟨s1,s2,s3,rfl,_,g1,g2,g3⟩:=he;have hcap:([].length (α:=Part)+x.Parts.length)*80≤Qb_:=by simpa using (h1).2
 refine walk ?_;refine qc_ rfl rfl fun p3 _=>?_;refine qc_ rfl rfl fun p5 _=>?_;refine zb_ rfl fun p6 _=>?_;refine walk ?_;refine QW_ (w:=80) ZaA_ rfl fun bn=>?_;refine walk ?_;refine zo_ rfl rfl (h1).1 hcap fun bm cm=>?_;rw [List.nil_append,List.length_nil,Nat.zero_add];refine walk ?_;refine Qbw_ (y':=e) rfl rfl rfl hee hi ?_;refine walk ?_;refine qg_ (.slice bm x.Parts.length cm) fun H1 hl1 hs=>?_;refine fin0 ?_;exact ⟨_,rfl,⟨_,_,_,_,rfl,hs,h2.mono hl1,h3.mono hl1,h4,h5.mono hl1⟩,rfl⟩
theorem qW_ {W0:World} {H:Heap} {c ce:List Value} {x:Convoyref17World} {e:_} {i:Nat} (h0:rW17 H c x) (he:Qu_ H ce e) (hi:i<x.Coords.length):
  Ct Tryz.prog 52 #[.agg c.toArray,I i,.agg ce.toArray] W0 H [] (fun r H' B=>∃c',r= .agg c'.toArray∧rW17 H' c' {x with Coords:=x.Coords.set i e}∧B=[]):=by
 refine Ct.go (vs:=[.agg c.toArray,I i,.agg ce.toArray]) fun R=>?_;obtain ⟨⟨b1,c1⟩,⟨b2,c2⟩,⟨b3,c3⟩,⟨b4,c4⟩,rfl,h1,h2,h3,h4,h5⟩:=Qi_ h0;have hee:=he;obtain ⟨s1,rfl,_,_,_,g1⟩:=he;have hcap:([].length (α:=Coord)+x.Coords.length)*48≤Qb_:=by simpa using (h2).2
 refine walk ?_;refine qc_ rfl rfl fun p3 _=>?_;refine qc_ rfl rfl fun p5 _=>?_;refine zb_ rfl fun p6 _=>?_;refine walk ?_;refine QW_ (w:=48) Qu_ rfl fun bn=>?_;refine walk ?_;refine zo_ rfl rfl (h2).1 hcap fun bm cm=>?_;rw [List.nil_append,List.length_nil,Nat.zero_add];refine walk ?_;refine Qbw_ (y':=e) rfl rfl rfl hee hi ?_;refine walk ?_;refine qg_ (.slice bm x.Coords.length cm) fun H1 hl1 hs=>?_;refine fin0 ?_;exact ⟨_,rfl,⟨_,_,_,_,rfl,h1.mono hl1,hs,h3.mono hl1,h4,h5.mono hl1⟩,rfl⟩
end Go.Proofs.YtlflbkpmfhhikaaGreatDoor
