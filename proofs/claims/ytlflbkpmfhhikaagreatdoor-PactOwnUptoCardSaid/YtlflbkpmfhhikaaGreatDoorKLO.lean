/- The reference's steps on lists in order; what sorting and compacting tells. No program in sight. -/
import Derived.Test.YtlflbkpmfhhikaaGreatDoorKLH
set_option maxHeartbeats 16000000
set_option maxRecDepth 100000
set_option linter.unusedVariables false
set_option linter.unusedSimpArgs false
namespace Go.Proofs.YtlflbkpmfhhikaaGreatDoor
open Go Go.Sx Go.Proofs
theorem zch_ {W0:World} {H:Heap} {v:Value} {l:List ByteArray} {k:ByteArray} (h0:SlR rStr 1 H v l):
  Ct Tryz.prog 179 #[v,.string k] W0 H [] (fun r H' B=>∃q:Bool,r= .bool q∧(q=true↔k∈l)∧B=[]∧H'=H):=by
 refine Ct.go (vs:=[v,.string k]) fun R=>?_;obtain ⟨b0,c0,rfl,hc0,hd0⟩:=h0.shape;refine walk ?_;refine Qc_ (σ:=Nat) (fun j=>j≤l.length∧k∉l.take j) (fun j=>[(0,.slice b0 l.length c0),(1,.string k),(5,I j)]) (fun _=>H) (fun _=>R) (fun j=>l.length - j) 0 ⟨Nat.zero_le _,by simp⟩ fun j ⟨hj0,hj⟩ K hL=>?_;refine walk ?_;refine Qe_ rfl (fun hk=>?_) (fun hk=>?_)
 ·have hk1:j<l.length:=by omega
  have ht:=List.take_succ_eq_append_getElem hk1;refine walk ?_;refine Qe_ rfl (fun hq=>?_) (fun hq=>?_)
  ·refine walk ?_;refine fin0 ?_;exact ⟨true,rfl,Iff.intro (fun _=>by rw [←hq];exact List.getElem_mem hk1) (fun _=>rfl),rfl,rfl⟩
  ·refine walk ?_;refine Zb_ hL (j+1) ⟨by omega,?_⟩;rw [ht,List.mem_append,List.mem_singleton];rintro (h | h)
   ·exact hj h
   ·exact hq h.symm
 ·clear hL;obtain rfl:j=l.length:=by omega
  rw [List.take_length] at hj;refine walk ?_;refine fin0 ?_;exact ⟨false,rfl,Iff.intro (fun (h:false=true)=>Bool.noConfusion h) (fun h=>(hj h).elim),rfl,rfl⟩
theorem zaw_ {W0:World} {H:Heap} {cw:List Value} {w:Work} (hw:Qi_ H cw w) (hwn:w.ks.length*16≤zb_):
  Ct Tryz.prog 150 #[.agg cw.toArray] W0 H [] (fun r H' B=>B=[ownS rStr 1 16 9 H r w.ks]∧H'=H):=by
 refine Ct.go (vs:=[.agg cw.toArray]) fun R=>?_;obtain ⟨s1,s2,rfl,hrob,hs1,hs2⟩:=hw;obtain ⟨b1,c1,rfl,hc1,hd1⟩:=hs1.1.shape;obtain ⟨b2,c2,rfl,hc2,hd2⟩:=hs2.1.shape;refine walk ?_;refine qc_ rfl rfl fun p1 _=>?_;refine walk ?_;refine zc_ 6 [row p1 50 (w.cv (.slice b1 w.Take.length c1) (.slice b2 w.Drop.length c2))] ?_;refine qa_ 1 ?_;refine qa_ 2 ?_;refine qa_ 4 ?_;refine qa_ 5 ?_;have hwn':(w.Take.length+w.Drop.length)*16≤zb_:=by simpa [Work.ks] using hwn
 refine Zt_ 0 rfl (QG_ (sz:=1) (T:=9) (wd:=16) rStr fun ba=>?_);refine ⟨Heap.le.refl _,subA,?_⟩;refine Zt_ 3 rfl (Qz_ rfl hs1.1 (by simpa using hs1.2) fun d1 e1=>?_);refine ⟨Heap.le.refl _,subA,?_⟩;rw [List.nil_append,show ([]:List ByteArray).length+w.Take.length=w.Take.length by simp];refine qb_ rfl ?_;refine Qq_ rfl rfl hs2.1 hwn' fun d2 e2=>?_;refine walk ?_;refine finB [ownS rStr 1 16 9 H (.slice d2 (w.Take.length+w.Drop.length) e2) w.ks] ?_;exact ⟨rfl,rfl⟩
theorem Zct_ {W0:World} {H:Heap} {cw:List Value} {w:Work} (hw:Qi_ H cw w) (hwn:w.ks.length*16≤zb_):
  Ct Tryz.prog 149 #[.agg cw.toArray] W0 H [] (fun r H' B=>∃q:Bool,r= .bool q∧(q=false↔w.ks.Nodup)∧B=[]):=by
 refine Ct.go (vs:=[.agg cw.toArray]) fun R=>?_;have hw0:=hw;obtain ⟨s1,s2,rfl,hrob,hs1,hs2⟩:=hw;obtain ⟨b1,c1,rfl,hc1,hd1⟩:=hs1.1.shape;obtain ⟨b2,c2,rfl,hc2,hd2⟩:=hs2.1.shape;refine walk ?_;refine qc_ rfl rfl fun p1 _=>?_;refine walk ?_;refine Za_ rfl rfl (zaw_ hw0 hwn) fun r1 H1 B hl1 ⟨eB,eH⟩=>?_;subst eB eH;refine Zd_ r1 fun H2 hl2 hsl=>?_;generalize w.ks=l at*;obtain ⟨b0,c0,rfl,hc0,hd0⟩:=hsl.1.shape;refine walk ?_;refine Qc_ (σ:=Nat) (fun j=>j≤l.length∧(l.take j).Nodup) (fun j=>[(3,.slice b0 l.length c0),(4,I j)]) (fun _=>H2) (fun _=>R) (fun j=>l.length - j) 0 ⟨Nat.zero_le _,by simp⟩ fun j ⟨hj0,hj⟩ K hL=>?_;refine walk ?_;refine Qe_ rfl (fun hk=>?_) (fun hk=>?_)
 ·have hk1:j<l.length:=by omega
  have ht:=List.take_succ_eq_append_getElem hk1;refine walk ?_;refine zc_ 7 [] ?_;refine qa_ 0 ?_;refine qa_ 1 ?_;refine qa_ 2 ?_;refine qa_ 3 ?_;refine qa_ 4 ?_;refine Qf_ 5 rfl rfl rfl hsl.1 hk1 fun b o c hr hc=>?_;obtain ⟨rfl,hsz⟩:=hc;refine zl_ 6 0 rfl rfl hr rfl rfl ?_;refine qb_ rfl ?_;refine Za_ rfl rfl (zch_ (W0:=W0) (H:=H2) (v:= .slice b0 j c0) (l:=l.take j) (k:=l[j]) ?_) fun r3 H3 B hl3 ⟨q,er,hq,eB,eH⟩=>?_
  ·have h:=hsl.1.slc (l:=0) (h:=j) (Nat.zero_le _) hj0;have e0:Sx.slc b0 c0 0 j 1= .slice b0 j c0:=by unfold Sx.slc;cases b0<;>simp [Addr.add]
   rw [e0] at h;simpa using h
  subst er eB eH;refine walk ?_;refine QI_ rfl Iff.rfl (fun hq1=>?_) (fun hq1=>?_)
  ·refine walk ?_;refine fin0 ?_;refine ⟨true,rfl,Iff.intro (fun h=>Bool.noConfusion h) (fun hn=>?_),rfl⟩;have h1:(l.take (j+1)).Nodup:=hn.sublist (List.take_sublist _ _);rw [ht,List.nodup_append] at h1;exact (h1.2.2 _ (hq.1 hq1) _ (List.mem_singleton.2 rfl) rfl).elim
  ·refine walk ?_;refine Zb_ hL (j+1) ⟨by omega,?_⟩;rw [ht,List.nodup_append];refine ⟨hj,by simp,?_⟩;rintro a ha b hb rfl;rw [List.mem_singleton] at hb;subst hb;exact hq1 (hq.2 ha)
 ·clear hL;obtain rfl:j=l.length:=by omega
  rw [List.take_length] at hj;refine walk ?_;refine fin0 ?_;exact ⟨false,rfl,Iff.intro (fun _=>hj) (fun _=>rfl),rfl⟩
end Go.Proofs.YtlflbkpmfhhikaaGreatDoor
namespace Go.Proofs.YtlflbkpmfhhikaaGreatDoor
open Go Go.Sx Go.Proofs
end Go.Proofs.YtlflbkpmfhhikaaGreatDoor
namespace Go.Proofs.YtlflbkpmfhhikaaGreatDoor
open Go Go.Sx Go.Proofs
theorem v68_ {P:Prop} (h:P:=by
 refine walk ?_;refine fin0 ?_;exact ⟨bdec (by unfold ltK;simp only;omega),rfl,rfl⟩):P:=h
theorem zaS_ {W0:World} {H:Heap} {x y:K3}:
  Ct Tryz.prog 123 #[.agg #[I x.1,I x.2.1,I x.2.2],.agg #[I y.1,I y.2.1,I y.2.2]] W0 H [] (fun r H' B=>r= .bool (decide (ltK x y))∧B=[]∧H'=H):=by
 refine Ct.go (vs:=[.agg #[I x.1,I x.2.1,I x.2.2],.agg #[I y.1,I y.2.1,I y.2.2]]) fun R=>?_;obtain ⟨x1,x2,x3⟩:=x;obtain ⟨y1,y2,y3⟩:=y;dsimp only;refine walk ?_;refine qc_ rfl rfl fun p1 _=>?_;refine qc_ rfl rfl fun p2 _=>?_;refine walk ?_;refine Qe_ rfl (fun h1=>?_) (fun h1=>?_)
 ·exact v68_
 refine walk ?_;refine Qe_ rfl (fun h2=>?_) (fun h2=>?_)
 ·exact v68_
 exact v68_
def QF_ (l:List Hold) (k:ByteArray):Option Hold:=l.find? fun h=>decide (h.Key=k)
def Zaj_ (l:List Hold) (k:ByteArray):Value:= .tuple [I (match QF_ l k with | some h=>h.Robot | none=>0),.bool (QF_ l k).isSome].toArray
theorem ZaI_ {W0:World} {H:Heap} {c:List Value} {m:Table} {k:ByteArray} (h0:QJ_ H c m):
  Ct Tryz.prog 151 #[.agg c.toArray,.string k] W0 H [] (fun r H' B=>r=Zaj_ m.Held k∧B=[]∧H'=H):=by
 refine Ct.go (vs:=[.agg c.toArray,.string k]) fun R=>?_;obtain ⟨s1,s2,rfl,hs1,hs2⟩:=h0;obtain ⟨b1,c1,rfl,hc1,hd1⟩:=hs1.1.shape;obtain ⟨b2,c2,rfl,hc2,hd2⟩:=hs2.1.shape;obtain ⟨l,pr⟩:=m;dsimp only at*;refine walk ?_;refine qc_ rfl rfl fun p2 _=>?_;refine walk ?_;refine Qc_ (σ:=Nat) (fun j=>j≤l.length∧QF_ (l.take j) k=none) (fun j=>[(1,.string k),(2,.pointer (some ⟨p2,0,none⟩)),(6,I j)]) (fun _=>H) (fun _=>row p2 126 [.slice b1 l.length c1,.slice b2 pr.length c2]::R) (fun j=>l.length - j) 0 ⟨Nat.zero_le _,rfl⟩ fun j ⟨hj0,hj⟩ K hL=>?_;refine walk ?_;refine Qe_ rfl (fun hk=>?_) (fun hk=>?_)
 ·have hk1:j<l.length:=by omega
  have ht:=List.take_succ_eq_append_getElem hk1;refine walk ?_;refine qe_ rfl rfl hs1.1 hk1 fun b o cc hr hc=>?_;obtain ⟨rfl,hsz,hfr⟩:=hc;refine walk ?_;refine Qe_ rfl (fun hq=>?_) (fun hq=>?_)
  ·refine walk ?_;refine qe_ rfl rfl hs1.1 hk1 fun b' o' cc' hr' hc'=>?_;obtain ⟨rfl,_,_⟩:=hc';refine walk ?_;refine fin0 ?_
   have e:QF_ l k=some l[j]:=by
    have h1:QF_ (l.take (j+1)) k=some l[j]:=by
     unfold QF_ at hj⊢;rw [ht,List.find?_append,hj];simp [hq]
    unfold QF_ at h1⊢;have h2:∀(u v:List Hold) (r:Hold),u.find? (fun h=>decide (h.Key=k))=some r→(u++v).find? (fun h=>decide (h.Key=k))=some r:=fun u v r h=>by rw [List.find?_append,h];rfl
    have h3:=h2 _ (l.drop (j+1)) _ h1;simpa only [List.take_append_drop] using h3
   exact ⟨by unfold Zaj_;rw [e];rfl,rfl,rfl⟩
  ·refine walk ?_;refine Zb_ hL (j+1) ⟨by omega,?_⟩;unfold QF_ at hj⊢;rw [ht,List.find?_append,hj];simp [hq]
 ·clear hL;obtain rfl:j=l.length:=by omega
  rw [List.take_length] at hj;refine walk ?_;refine fin0 ?_;exact ⟨by unfold Zaj_;rw [hj];rfl,rfl,rfl⟩
instance :LawfulBEq ByteArray where
  eq_of_beq h:=by rw [zbE_] at h;simpa using h
  rfl:=fun {a}=>by rw [zbE_];simp
theorem QaR_ {α:Type} {lt:α→α→Prop} (irr:∀a,¬lt a a) (asy:∀a b,lt a b→¬lt b a):∀{l l':List α},l.Pairwise lt→l'.Pairwise lt→(∀a,a∈l↔a∈l')→l=l'
 | [],[],_,_,_=>rfl
 | [],b::l',_,_,h=>absurd ((h b).2 (by simp)) (by simp)
 | a::l,[],_,_,h=>absurd ((h a).1 (by simp)) (by simp)
 | a::l,b::l',h1,h2,h=>by
  rw [List.pairwise_cons] at h1 h2
  have hab:a=b:=by
   rcases List.mem_cons.1 ((h a).1 (by simp)) with e | e
   ·exact e
   ·rcases List.mem_cons.1 ((h b).2 (by simp)) with e' | e'
    ·exact e'.symm
    ·exact absurd (h1.1 b e') (asy _ _ (h2.1 a e))
  subst hab;refine congrArg _ (QaR_ irr asy h1.2 h2.2 fun x=>?_);have hx:=h x;simp only [List.mem_cons] at hx;constructor
  ·intro hm;rcases hx.1 (.inr hm) with e | e
   ·subst e;exact absurd (h1.1 x hm) (irr x)
   ·exact e
  ·intro hm;rcases hx.2 (.inr hm) with e | e
   ·subst e;exact absurd (h2.1 x hm) (irr x)
   ·exact e
structure HSpec (l:List Hold) (f:ByteArray→Option Int):Prop where
  rise:l.Pairwise fun a b=>SLt a.Key b.Key
  mem:∀h,h∈l↔f h.Key=some h.Robot
theorem HSpec.uniq {l l':List Hold} {f:ByteArray→Option Int} (h:HSpec l f) (h':HSpec l' f):l=l':=
 QaR_ (lt:=fun a b:Hold=>SLt a.Key b.Key) (fun _=>zcO_) (fun _ _=>QcO_) h.rise h'.rise fun a=>by rw [h.mem,h'.mem]
theorem HSpec.congr {l:List Hold} {f g:ByteArray→Option Int} (h:HSpec l f) (e:∀k,f k=g k):HSpec l g:=by
 obtain rfl:f=g:=funext e;exact h
theorem HSpec.find {l:List Hold} {f:ByteArray→Option Int} (h:HSpec l f) (k:ByteArray):QF_ l k=(f k).map (Hold.mk k):=by
 cases hf:f k with
 | none=>
  unfold QF_;simp only [List.find?_eq_none,Option.map_none,decide_eq_true_eq];rintro x hx rfl;rw [h.mem,hf] at hx
  cases hx
 | some r=>
  have hm:(⟨k,r⟩:Hold)∈l:=(h.mem _).2 hf
  cases hq:QF_ l k with
  | none=>
   unfold QF_ at hq;rw [List.find?_eq_none] at hq;exact absurd (hq _ hm) (by simp)
  | some q=>
   have h1:=List.find?_some hq;have h2:=List.mem_of_find?_eq_some hq;simp only [decide_eq_true_eq] at h1;rw [h.mem,h1,hf] at h2;obtain ⟨qk,qr⟩:=q;simp only at h1 h2
   cases h2
   subst h1;rfl
theorem Qct_ {xs:List ByteArray} (h:xs.Nodup):(sortT xs).Pairwise SLt:=by
 have tr:∀a b c:List UInt8,leB a b=true→leB b c=true→leB a c=true:=fun a b c h1 h2=>by
  simp only [leB,decide_eq_true_eq] at*;exact List.le_trans h1 h2
 have to:∀a b:List UInt8,(leB a b || leB b a)=true:=fun a b=>by
  simp only [leB,Bool.or_eq_true,decide_eq_true_eq];exact List.le_total a b
 have h1:=List.pairwise_mergeSort tr to (xs.map fun s=>s.data.toList)
 have h2:((xs.map fun s=>s.data.toList).mergeSort leB).Nodup:=by
  refine (List.mergeSort_perm _ _).nodup_iff.2 ?_;rw [List.nodup_iff_pairwise_ne,List.pairwise_map];exact (List.nodup_iff_pairwise_ne.1 h).imp fun h e=>h (QaM_ e)
 unfold sortT;rw [List.pairwise_map];rw [List.nodup_iff_pairwise_ne] at h2;refine (h1.and h2).imp fun {a b} ⟨e1,e2⟩=>?_;rw [ZaT_];simp only [leB,decide_eq_true_eq] at e1;have e3:(sb a).data.toList=a:=by simp [sb]
 have e4:(sb b).data.toList=b:=by simp [sb]
 rw [e3,e4];by_cases h:a<b
 ·exact h
 ·exact absurd (List.le_antisymm e1 (List.not_lt.1 h)) e2
theorem zaM_ {κ ν:Type} [DecidableEq κ] {m:List (κ×ν)} (hn:(m.map (·.1)).Nodup) {k:κ} {v:ν}:mget k m=some v↔(k,v)∈m:=⟨Zu_,Zj_ hn⟩
theorem QD_ {κ ν:Type} [DecidableEq κ] {m:List (κ×ν)} {k:κ}:k∈m.map (·.1)↔∃v,mget k m=some v:=by
 have h:=zE_ (k:=k) (m:=m)
 cases hm:mget k m with
 | none=>exact ⟨fun h'=>absurd h' (h.1 hm),fun ⟨v,e⟩=>(by cases e)⟩
 | some v=>exact ⟨fun _=>⟨v,rfl⟩,fun _=>Classical.byContradiction fun hc=>by rw [h.2 hc] at hm;cases hm⟩
theorem ZbR_ {s:TS} (hn:(s.held.map (·.1)).Nodup):HSpec (Qad_ s) (fun k=>mget k s.held):=by
 refine ⟨?_,fun h=>?_⟩
 ·unfold Qad_;rw [List.pairwise_map];exact (Qct_ hn).imp fun h=>h
 ·unfold Qad_;rw [List.mem_map];constructor
  ·rintro ⟨k,hk,rfl⟩;obtain ⟨v,hv⟩:=QD_.1 (QaS_.1 hk);simp only [zP_,hv,Option.getD_some]
  ·intro hg;refine ⟨h.Key,QaS_.2 (QD_.2 ⟨_,hg⟩),?_⟩;simp only [zP_,hg,Option.getD_some]
def recW (x:Txn) (w:Work):Rec:=⟨2,x,w,false,[]⟩
structure PSpec (l:List Rec) (g:K3→Option Work):Prop where
  rise:l.Pairwise fun a b=>ltK a.Txn.k b.Txn.k
  mem:∀q,q∈l↔∃w,g q.Txn.k=some w∧q=recW q.Txn w
theorem ZO_ {a:K3}:¬ltK a a:=by unfold ltK;omega
theorem qbS_ {a b:K3} (h:ltK a b):¬ltK b a:=by unfold ltK at*;omega
theorem ZaR_ {a b c:K3} (h:ltK a b) (h':ltK b c):ltK a c:=by unfold ltK at*;omega
theorem qaS_ {x y:Txn} (h:x.k=y.k):x=y:=by
 have:=congrArg toTx h;rwa [qbB_,qbB_] at this
theorem PSpec.uniq {l l':List Rec} {g:K3→Option Work} (h:PSpec l g) (h':PSpec l' g):l=l':=
 QaR_ (lt:=fun a b:Rec=>ltK a.Txn.k b.Txn.k) (fun _=>ZO_) (fun _ _=>qbS_) h.rise h'.rise fun a=>by rw [h.mem,h'.mem]
theorem PSpec.congr {l:List Rec} {f g:K3→Option Work} (h:PSpec l f) (e:∀k,f k=g k):PSpec l g:=by
 obtain rfl:f=g:=funext e;exact h
theorem zaj_ {xs:List K3} (h:xs.Nodup):(sort3 xs).Pairwise ltK:=by
 have tr:∀a b c:K3,(!(ltOf ordI) b a)=true→(!(ltOf ordI) c b)=true→(!(ltOf ordI) c a)=true:=fun a b c h1 h2=>by
  simp only [Bool.not_eq_true',←Bool.not_eq_true,ZA_] at*;unfold ltK at*;omega
 have to:∀a b:K3,((!(ltOf ordI) b a) || (!(ltOf ordI) a b))=true:=fun a b=>by
  simp only [Bool.or_eq_true,Bool.not_eq_true',←Bool.not_eq_true,ZA_];unfold ltK;omega
 have h1:=List.pairwise_mergeSort tr to xs;have h2:(xs.mergeSort fun x y=> !(ltOf ordI) y x).Nodup:=(List.mergeSort_perm _ _).nodup_iff.2 h;rw [List.nodup_iff_pairwise_ne] at h2;unfold sort3;refine (h1.and h2).imp fun {a b} ⟨e1,e2⟩=>?_;simp only [Bool.not_eq_true',←Bool.not_eq_true,ZA_] at e1;refine Classical.byContradiction fun h3=>e2 (Qas_ h3 e1)
def gW (s:TS) (k:K3):Option Work:=(mget k s.works).map (·.2)
theorem Qaj_ {s:TS} (hn:(s.works.map (·.1)).Nodup):PSpec (prepL s) (gW s):=by
 refine ⟨?_,fun q=>?_⟩
 ·unfold prepL;rw [List.pairwise_map];exact (zaj_ hn).imp fun h=>h
 ·unfold prepL gW;rw [List.mem_map];constructor
  ·rintro ⟨k,hk,rfl⟩;obtain ⟨v,hv⟩:=QD_.1 (qP_.1 hk);refine ⟨v.2,?_,?_⟩
   ·show (mget (toTx k).k s.works).map _=_;rw [ZV_,hv];rfl
   ·simp only [qas_,recW,hv,Option.getD_some]
  ·rintro ⟨w,hg,hq⟩
   cases hm:mget q.Txn.k s.works with
   | none=>rw [hm] at hg;cases hg
   | some v=>
    rw [hm] at hg
    cases hg
    refine ⟨q.Txn.k,qP_.2 (QD_.2 ⟨_,hm⟩),?_⟩;rw [hq];simp only [qas_,recW,hm,Option.getD_some,qbB_]
def qK_ (k:ByteArray) (r:Int):Bool→List Hold→List Hold
  | put,[]=>if put=true then [] else [⟨k,r⟩]
  | put,h::t=>(if put=false∧SLt k h.Key then [⟨k,r⟩] else [])++((if h.Key=k then [] else [h])++qK_ k r (put || decide (SLt k h.Key)) t)
theorem zaR_ {k:ByteArray} {r:Int} {h:Hold}:∀{l:List Hold} {put:Bool},h∈qK_ k r put l↔(h∈l∧h.Key≠k)∨(put=false∧h=⟨k,r⟩)
 | [],put=>by cases put<;>simp [qK_]
 | a::t,put=>by
  have ih:=zaR_ (k:=k) (r:=r) (h:=h) (l:=t) (put:=put || decide (SLt k a.Key));have e1:h∈(if a.Key=k then ([]:List Hold) else [a])↔h=a∧a.Key≠k:=by by_cases hk:a.Key=k<;>simp [hk]
  simp only [qK_,List.mem_append,ih,e1,List.mem_cons]
  cases put with
  | true=>
   simp only [Bool.true_or,Bool.true_eq_false,false_and,if_false,List.not_mem_nil,false_or,or_false];constructor
   ·rintro (⟨rfl,h2⟩ | ⟨h1,h2⟩)
    ·exact ⟨.inl rfl,h2⟩
    ·exact ⟨.inr h1,h2⟩
   ·rintro ⟨rfl | h1,h2⟩
    ·exact .inl ⟨rfl,h2⟩
    ·exact .inr ⟨h1,h2⟩
  | false=>
   by_cases hs:SLt k a.Key
   ·simp only [hs,decide_true,Bool.false_or,true_and,and_true,if_true,List.mem_singleton,Bool.true_eq_false,false_and,or_false];constructor
    ·rintro (h | ⟨rfl,h2⟩ | ⟨h1,h2⟩)
     ·exact .inr h
     ·exact .inl ⟨.inl rfl,h2⟩
     ·exact .inl ⟨.inr h1,h2⟩
    ·rintro (⟨rfl | h1,h2⟩ | h)
     ·exact .inr (.inl ⟨rfl,h2⟩)
     ·exact .inr (.inr ⟨h1,h2⟩)
     ·exact .inl h
   ·simp only [hs,decide_false,Bool.false_or,and_false,if_false,List.not_mem_nil,false_or,true_and];constructor
    ·rintro (⟨rfl,h2⟩ | ⟨h1,h2⟩ | h)
     ·exact .inl ⟨.inl rfl,h2⟩
     ·exact .inl ⟨.inr h1,h2⟩
     ·exact .inr h
    ·rintro (⟨rfl | h1,h2⟩ | h)
     ·exact .inl ⟨rfl,h2⟩
     ·exact .inr (.inl ⟨h1,h2⟩)
     ·exact .inr (.inr h)
theorem zbg_ {k:ByteArray} {r:Int}:∀{l:List Hold} {put:Bool},l.Pairwise (fun a b=>SLt a.Key b.Key)→(qK_ k r put l).Pairwise (fun a b=>SLt a.Key b.Key)
 | [],put,_=>by cases put<;>simp [qK_]
 | a::t,put,h=>by
  rw [List.pairwise_cons] at h;have ih:=fun p=>zbg_ (k:=k) (r:=r) (l:=t) (put:=p) h.2;have hm:=fun p x=>zaR_ (k:=k) (r:=r) (h:=x) (l:=t) (put:=p)
  have hin:∀p,(p=false→¬SLt k a.Key)→((if a.Key=k then ([]:List Hold) else [a])++qK_ k r p t).Pairwise (fun a b=>SLt a.Key b.Key):=fun p hp=>by
   by_cases hk:a.Key=k
   ·rw [if_pos hk];exact ih p
   ·rw [if_neg hk,List.singleton_append,List.pairwise_cons];refine ⟨fun x hx=>?_,ih p⟩;rcases (hm p x).1 hx with ⟨h1,_⟩ | ⟨h1,rfl⟩
    ·exact h.1 x h1
    ·rcases ZdE_ (s:=a.Key) (t:=k) with h2 | h2 | h2
     ·exact h2
     ·exact absurd h2 hk
     ·exact absurd h2 (hp h1)
  simp only [qK_];by_cases hc:put=false∧SLt k a.Key
  ·rw [if_pos hc,List.singleton_append,List.pairwise_cons];refine ⟨fun x hx=>?_,hin _ (by simp [hc.2])⟩;rw [List.mem_append] at hx;rcases hx with hx | hx
   ·by_cases hk:a.Key=k
    ·rw [if_pos hk] at hx;cases hx
    ·rw [if_neg hk,List.mem_singleton] at hx;subst hx;exact hc.2
   ·rcases (hm _ x).1 hx with ⟨h1,_⟩ | ⟨h1,rfl⟩
    ·exact QbC_ hc.2 (h.1 x h1)
    ·simp [hc.2] at h1
  ·rw [if_neg hc,List.nil_append];refine hin _ fun hp hs=>?_;simp only [Bool.or_eq_false_iff] at hp;exact hc ⟨hp.1,hs⟩
theorem HSpec.hold {l:List Hold} {f:ByteArray→Option Int} (h:HSpec l f) (k:ByteArray) (r:Int) (put:Bool):HSpec (qK_ k r put l) (fun k'=>if k'=k then (if put=true then none else some r) else f k'):=by
 refine ⟨zbg_ h.rise,fun x=>?_⟩;rw [zaR_,h.mem];obtain ⟨xk,xr⟩:=x;by_cases e:xk=k
 ·subst e
  cases put<;>simp [eq_comm]
 ·simp [e]
theorem HSpec.filter {l:List Hold} {f:ByteArray→Option Int} (h:HSpec l f) (p:ByteArray→Bool):HSpec (l.filter fun x=>p x.Key) (fun k=>if p k=true then f k else none):=by
 refine ⟨h.rise.sublist List.filter_sublist,fun x=>?_⟩;rw [List.mem_filter,h.mem];by_cases e:p x.Key=true<;>simp [e]
def qbc_ (r:Int) (ks:List ByteArray) (l:List Hold):List Hold:=ks.foldl (fun l k=>if (QF_ l k).isSome=true∧(match QF_ l k with | some h=>h.Robot | none=>0)=r then qK_ k 0 true l else l) l
def zbc_ (r:Int) (ks:List ByteArray) (l:List Hold):List Hold:=ks.foldl (fun l k=>qK_ k r false l) l
theorem QM_ {κ ν:Type} [DecidableEq κ] {m:List (κ×ν)} {k:κ} (h:(m.map (·.1)).Nodup):((mdel k m).map (·.1)).Nodup:=h.sublist ((zay_ k m).map _)
theorem QaD_ {r:Int}:∀{ks:List ByteArray} {l:List Hold} {a:List (ByteArray×Int)},HSpec l (fun k=>mget k a)→(a.map (·.1)).Nodup→HSpec (qbc_ r ks l) (fun k=>mget k (zn_ r ks a))∧((zn_ r ks a).map (·.1)).Nodup
 | [],l,a,h,hn=>⟨h,hn⟩
 | k::ks,l,a,h,hn=>by
  have hf:=h.find k;unfold qbc_ zn_;rw [List.foldl_cons,List.foldl_cons]
  have hc:((QF_ l k).isSome=true∧(match QF_ l k with | some h=>h.Robot | none=>0)=r)↔((mget k a).isSome=true∧(mget k a).getD 0=r):=by
   rw [hf]
   cases mget k a with
   | none=>simp
   | some v=>simp
  by_cases hq:(mget k a).isSome=true∧(mget k a).getD 0=r
  ·rw [if_pos hq,if_pos (hc.2 hq)];exact QaD_ ((h.hold k 0 true).congr fun k'=>by rw [qD_ k k' hn];by_cases e:k'=k<;>simp [e]) (QM_ hn)
  ·rw [if_neg hq,if_neg fun h=>hq (hc.1 h)];exact QaD_ h hn
theorem Qbg_ {r:Int}:∀{ks:List ByteArray} {l:List Hold} {a:List (ByteArray×Int)},HSpec l (fun k=>mget k a)→(a.map (·.1)).Nodup→HSpec (zbc_ r ks l) (fun k=>mget k (zu_ r ks a))∧((zu_ r ks a).map (·.1)).Nodup
 | [],l,a,h,hn=>⟨h,hn⟩
 | k::ks,l,a,h,hn=>by
  unfold zbc_ zu_;rw [List.foldl_cons,List.foldl_cons];exact Qbg_ ((h.hold k r false).congr fun k'=>by rw [Zf_ k k'];by_cases e:k'=k<;>simp [e]) (Zk_ hn)
theorem PSpec.none {l:List Rec} {g:K3→Option Work} (h:PSpec l g) {x:Txn} (hx:∀q∈l,q.Txn≠x):g x.k=none:=by
 cases hg:g x.k with
 | none=>rfl
 | some w=>exact absurd rfl (hx (recW x w) ((h.mem _).2 ⟨w,hg,rfl⟩))
theorem PSpec.ins {l:List Rec} {g:K3→Option Work} (h:PSpec l g) {x:Txn} {w:Work} {i:Nat} (hx:g x.k=Option.none) (hi:i≤l.length) (h1:∀q∈l.take i,ltK q.Txn.k x.k) (h2:∀hl:i<l.length,¬ltK l[i].Txn.k x.k):
  PSpec (l.take i++recW x w::l.drop i) (fun k=>if k=x.k then some w else g k):=by
 have hr:=h.rise;rw [←List.take_append_drop i l,List.pairwise_append] at hr;obtain ⟨r1,r2,r3⟩:=hr
 have hgt:∀q∈l.drop i,ltK x.k q.Txn.k:=fun q hq=>by
  have hne:∀q∈l,q.Txn.k≠x.k:=fun q hq e=>by
   obtain ⟨w',h3,_⟩:=(h.mem q).1 hq;rw [e,hx] at h3;cases h3
  have hil:i<l.length:=by
   refine Classical.byContradiction fun hc=>?_;rw [List.drop_of_length_le (by omega)] at hq
   cases hq
  have h0:ltK x.k l[i].Txn.k:=Classical.byContradiction fun hc=>hne _ (List.getElem_mem hil) (Qas_ (h2 hil) hc);rw [List.drop_eq_getElem_cons hil] at hq r2;rw [List.pairwise_cons] at r2;rcases List.mem_cons.1 hq with rfl | hq
  ·exact h0
  ·exact ZaR_ h0 (r2.1 q hq)
 refine ⟨?_,fun q=>?_⟩
 ·rw [List.pairwise_append,List.pairwise_cons];refine ⟨r1,⟨hgt,r2⟩,fun a ha b hb=>?_⟩;rcases List.mem_cons.1 hb with rfl | hb
  ·exact h1 a ha
  ·exact r3 a ha b hb
 ·have hsp:q∈l↔q∈l.take i∨q∈l.drop i:=by rw [←List.mem_append,List.take_append_drop]
  rw [List.mem_append,List.mem_cons];by_cases e:q.Txn.k=x.k
  ·have e':=qaS_ e
   have hno:q∉l:=fun hq=>by
    obtain ⟨w',h3,_⟩:=(h.mem q).1 hq;rw [e,hx] at h3;cases h3
   simp only [e,if_true,Option.some.injEq];constructor
   ·rintro (hq | rfl | hq)
    ·exact absurd (hsp.2 (.inl hq)) hno
    ·exact ⟨w,rfl,rfl⟩
    ·exact absurd (hsp.2 (.inr hq)) hno
   ·rintro ⟨w',rfl,hq⟩;rw [e'] at hq;exact .inr (.inl hq)
  ·simp only [e,if_false];rw [←h.mem q,hsp];constructor
   ·rintro (hq | rfl | hq)
    ·exact .inl hq
    ·exact absurd rfl e
    ·exact .inr hq
   ·rintro (hq | hq)
    ·exact .inl hq
    ·exact .inr (.inr hq)
theorem PSpec.era {l:List Rec} {g:K3→Option Work} (h:PSpec l g) {x:Txn} {i:Nat} (hi:i<l.length) (hx:l[i].Txn=x):
  PSpec (l.take i++l.drop (i+1)) (fun k=>if k=x.k then Option.none else g k):=by
 have hr:=h.rise;have hl:l=l.take i++l[i]::l.drop (i+1):=by rw [←List.drop_eq_getElem_cons hi,List.take_append_drop]
 rw [hl,List.pairwise_append,List.pairwise_cons] at hr;obtain ⟨r1,⟨r2,r4⟩,r3⟩:=hr;refine ⟨?_,fun q=>?_⟩
 ·rw [List.pairwise_append];exact ⟨r1,r4,fun a ha b hb=>r3 a ha b (List.mem_cons_of_mem _ hb)⟩
 ·have hsp:q∈l↔q∈l.take i∨q=l[i]∨q∈l.drop (i+1):=by
   conv=>lhs;rw [hl]
   rw [List.mem_append,List.mem_cons]
  rw [List.mem_append];by_cases e:q.Txn.k=x.k
  ·simp only [e,if_true];constructor
   ·rintro (hq | hq)
    ·have:=r3 q hq l[i] (List.mem_cons_self ..);rw [hx,e] at this;exact absurd this ZO_
    ·have:=r2 q hq;rw [hx,e] at this;exact absurd this ZO_
   ·rintro ⟨w,hw,_⟩;cases hw
  ·simp only [e,if_false];rw [←h.mem q,hsp];constructor
   ·rintro (hq | hq)
    ·exact .inl hq
    ·exact .inr (.inr hq)
   ·rintro (hq | rfl | hq)
    ·exact .inl hq
    ·rw [hx] at e;exact absurd rfl e
    ·exact .inr hq
theorem qaj_ {l:List ByteArray}:dupT l↔¬l.Nodup:=by
 have tr:∀a b c:List UInt8,leB a b=true→leB b c=true→leB a c=true:=fun a b c h1 h2=>by
  simp only [leB,decide_eq_true_eq] at*;exact List.le_trans h1 h2
 have to:∀a b:List UInt8,(leB a b || leB b a)=true:=fun a b=>by
  simp only [leB,Bool.or_eq_true,decide_eq_true_eq];exact List.le_total a b
 have hs:=List.pairwise_mergeSort tr to (l.map fun s=>s.data.toList);have hp:=List.mergeSort_perm (l.map fun s=>s.data.toList) leB
 have hm:(sortT l).map (fun s=>s.data.toList)=(l.map fun s=>s.data.toList).mergeSort leB:=by
  unfold sortT;rw [List.map_map];exact (List.map_congr_left fun s _=>(by simp [sb]:((fun s:ByteArray=>s.data.toList)∘sb) s=s)).trans (List.map_id' _)
 unfold dupT compT;rw [List.length_map,hm]
 have hnd:l.Nodup↔((l.map fun s=>s.data.toList).mergeSort leB).Nodup:=by
  rw [hp.nodup_iff,List.nodup_iff_pairwise_ne,List.nodup_iff_pairwise_ne,List.pairwise_map];constructor
  ·exact fun h=>h.imp fun h e=>h (QaM_ e)
  ·exact fun h=>h.imp fun h e=>h (by rw [e])
 have hlen:l.length=((l.map fun s=>s.data.toList).mergeSort leB).length:=by rw [hp.length_eq,List.length_map]
 rw [hnd,hlen];generalize (l.map fun s=>s.data.toList).mergeSort leB=z at*;unfold Lib.compact Lib.compactUpTo;rw [List.length_map];have hle:=List.length_filter_le (Lib.keeps z.toArray) (List.range z.length);rw [List.length_range] at hle
 have hiff:((List.range z.length).filter (Lib.keeps z.toArray)).length=z.length↔∀j<z.length,Lib.keeps z.toArray j=true:=by
  constructor
  ·intro h j hj;have h2:=List.length_filter_eq_length_iff.1 (h.trans List.length_range.symm);exact h2 j (List.mem_range.2 hj)
  ·intro h;exact (List.length_filter_eq_length_iff.2 fun j hj=>h j (List.mem_range.1 hj)).trans List.length_range
 have hkey:(∀j<z.length,Lib.keeps z.toArray j=true)↔z.Nodup:=by
  have hget:∀j (hj:j<z.length),z.toArray[j]! =z[j]:=fun j hj=>by rw [getElem!_pos z.toArray j (by simpa using hj)];simp
  constructor
  ·intro h;rw [List.nodup_iff_pairwise_ne,List.pairwise_iff_getElem];intro i j hi hj hij e;have hk:=h j hj;unfold Lib.keeps at hk;rcases of_decide_eq_true hk with h0 | h0
   ·omega
   ·rw [hget j hj,hget (j - 1) (by omega)] at h0;rw [List.pairwise_iff_getElem] at hs;have h1:=hs (j - 1) j (by omega) hj (by omega);simp only [leB,decide_eq_true_eq] at h1
    have h2:z[i]≤z[j - 1]'(by omega):=by
     rcases Nat.eq_or_lt_of_le (show i≤j - 1 by omega) with e2 | e2
     ·subst e2;exact List.le_refl _
     ·have:=hs i (j - 1) hi (by omega) e2;simpa only [leB,decide_eq_true_eq] using this
    rw [e] at h2;exact h0 (List.le_antisymm h2 h1)
  ·intro h j hj;unfold Lib.keeps;refine decide_eq_true ?_;by_cases h0:j=0
   ·exact .inl h0
   ·right;rw [hget j hj,hget (j - 1) (by omega)];intro e;rw [List.nodup_iff_pairwise_ne,List.pairwise_iff_getElem] at h;exact h (j - 1) j (by omega) hj (by omega) e.symm
 rw [←hkey,←hiff];omega
end Go.Proofs.YtlflbkpmfhhikaaGreatDoor
