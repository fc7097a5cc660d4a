/- The engine, its last part. No program in sight. -/
import Derived.Test.YtlflbkpmfhhikaaGreatDoorKKC
import Derived.Laws.StructEq
import Derived.Sort.KeysCollected
import Derived.Scope
import Derived.WideKeyEntry
import Derived.Maps.RangeRun
import Derived.Laws.IdiomRangeMap
set_option linter.unusedVariables false
set_option linter.unusedSimpArgs false
namespace Go.Sx
open Go
section
variable {n:Nat} {W0:World} {F:zd_} {H H':Heap} {L R:List za_} {A:za_} {D:Heap} {G:Act→World→Prop}
theorem zci_ (hh:Has L A R) (h:∀D,A D→Disj H D→H.le (qk_ H D)→D.le (qk_ H D)→Sat n W0 F (qk_ H D) R G):Sat n W0 F H L G:=fun a w hF hS=>by
 obtain ⟨hA,hR,pa,r,d,dA,dR,lA,lR⟩:=(hS.sub hh.to).parts;exact h hA pa dA (Qm_ _ _) (ql_ dA) a w hF ⟨hS.env,QL_ hS.ro lA,hR,r,lR,Zz_ dR d⟩
theorem zdn_ (ho:A D) (hd:Disj H D) (hl:(qk_ H D).le H') (h:Sat n W0 F H (A::L) G):Sat n W0 F H' L G:=fun a w hF hS=>by
 obtain ⟨x,hx,lx,dx⟩:=hS.own;have d1:Disj (qk_ H D) x:=dx.mono hl;have lw:=hl.trans hS.ro;exact h a w hF (St.of_parts hS.env ((Qm_ _ _).trans lw) ho hx (d1.mono (ql_ hd)) hd (d1.mono (Qm_ _ _)) ((ql_ hd).trans lw) lx)
end
section
variable {P:Program} {n:Nat} {W0:World} {Q:Exit→Act→World→Prop} {F:zd_} {H H':Heap} {L R:List za_} {A:za_} {D:Heap} {ops:Array Oper} {rest:List Oper} {k:List Fr} {e:Exit} {c:Code}
theorem zbn_ (hh:Has L A R) (h:∀D,A D→Disj H D→H.le (qk_ H D)→D.le (qk_ H D)→Ops P n W0 Q F (qk_ H D) R false ops rest k):Ops P n W0 Q F H L false ops rest k:=⟨zci_ hh fun D a b x y=>(h D a b x y).run⟩
theorem QbT_ (hh:Has L A R) (h:∀D,A D→Disj H D→H.le (qk_ H D)→D.le (qk_ H D)→Ex P n W0 Q F (qk_ H D) R c k):Ex P n W0 Q F H L c k:=⟨zci_ hh fun D a b x y=>(h D a b x y).run⟩
theorem qak_ (ho:A D) (hd:Disj H D) (hl:(qk_ H D).le H') (h:Ops P n W0 Q F H (A::L) false ops rest k):Ops P n W0 Q F H' L false ops rest k:=⟨zdn_ ho hd hl h.run⟩
end
class RdFlat {α:Type} (R:Rd α):Prop where
  flat:∀{H H' c x},R H c x→R H' c x
instance :RdFlat rInt:=⟨fun h=>h⟩
instance :RdFlat rStr:=⟨fun h=>h⟩
theorem RL.flat {α:Type} {R:Rd α} [RdFlat R] {H H':Heap}:∀{xs:List α} {cs:List Value},RL R H cs xs→RL R H' cs xs
 | [],_,h=>h
 | _::_,_,⟨c,r,e,h1,h2⟩=>⟨c,r,e,RdFlat.flat h1,h2.flat⟩
theorem qbC_ {α:Type} {R:Rd α} [RdFlat R] {sz w T:Nat} {H H':Heap} {s:Value} {xs:List α} {h:Heap} (ho:ownS R sz w T H s xs h):ownS R sz w T H' s xs h:=by
 obtain ⟨cs,⟨a,b⟩,c⟩:=ho;exact ⟨cs,⟨a.flat,b⟩,c⟩
theorem qr_ {α:Type} {R:Rd α} [RdFlat R] {sz w T:Nat} (H H':Heap) {s:Value} {xs:List α} {L:List za_}:Sub (ownS R sz w T H s xs::L) (ownS R sz w T H' s xs::L):=fun h ⟨h1,h2,a,r⟩=>⟨h1,h2,qbC_ a,r⟩
theorem EL.flat {κ ν:Type} {ek:κ→Value} {R:Rd ν} {ag:Bool} [RdFlat R] {H H':Heap}:∀{es:List MapEntry} {m:List (κ×ν)},EL ek R ag H es m→EL ek R ag H' es m
 | [],[],_=>trivial
 | _::es,_::m,⟨a,⟨cs,b,c⟩,d⟩=>⟨a,⟨cs,b,RdFlat.flat c⟩,d.flat⟩
 | [],_::_,h=>h.elim
 | _::_,[],h=>h.elim
theorem QcN_ {κ ν:Type} {ek:κ→Value} {R:Rd ν} {ag:Bool} [RdFlat R] {H H':Heap} {b:Nat} {m:List (κ×ν)} {h:Heap} (ho:mapO ek R ag H b m h):mapO ek R ag H' b m h:=by
 obtain ⟨es,c,⟨x1,x2,x3,x4⟩,e⟩:=ho;exact ⟨es,c,⟨x1.flat,x2,x3,x4⟩,e⟩
end Go.Sx
set_option linter.unusedVariables false
set_option linter.unusedSimpArgs false
namespace Go.Sx
open Go
class TEq3 (P:Program) (t:TypeId):Prop where
  guard:P.eqGuardType P.depth t=false
  eq:∀(a b c d e f:Int) (w:World),(Op.equalIn 10000 t (.agg #[.int .i64 a,.int .i64 b,.int .i64 c]) (.agg #[.int .i64 d,.int .i64 e,.int .i64 f])).run P w= .ok (decide (a=d∧b=e∧c=f)) w
section
variable {P:Program} {x y:Operand} {T T':TypeId} [hT:TEq3 P T] {a b c d e f:Int}
theorem Qdn_ {n:Nat} {W0:World} {F:zd_} {H:Heap} {L:List za_} {dst:Option Tmp} {ty:TypeId} {pos:String} {aft:Array Edge} {g:Option (Nat×Bool)} (hx:opv F x=some (.agg #[.int .i64 a,.int .i64 b,.int .i64 c])) (hy:opv F y=some (.agg #[.int .i64 d,.int .i64 e,.int .i64 f])):
  OpP P n W0 ⟨dst,.binOp .eql T x y T',ty,pos,aft,g⟩ F H L (.bool (decide (a=d∧b=e∧c=f))):=
 .mk fun _ w hF _=>by
  simp only [execOp,hF.opv hx,hF.opv hy];simp only [Sem.run_bind,run_eqGuard_agg _ _ _ _ _ _ _ hT.guard,run_eql_struct,hT.eq,Result.andThen_ok];simp
theorem Zdn_ {n:Nat} {W0:World} {F:zd_} {H:Heap} {L:List za_} {dst:Option Tmp} {ty:TypeId} {pos:String} {aft:Array Edge} {g:Option (Nat×Bool)} (hx:opv F x=some (.agg #[.int .i64 a,.int .i64 b,.int .i64 c])) (hy:opv F y=some (.agg #[.int .i64 d,.int .i64 e,.int .i64 f])):
  OpP P n W0 ⟨dst,.binOp .neq T x y T',ty,pos,aft,g⟩ F H L (.bool (!decide (a=d∧b=e∧c=f))):=
 .mk fun _ w hF _=>by
  simp only [execOp,hF.opv hx,hF.opv hy];simp only [Sem.run_bind,run_eqGuard_agg _ _ _ _ _ _ _ hT.guard,run_neq_struct,hT.eq,Result.andThen_ok];simp
instance :BOp P (.binOp .eql T x y T') [.agg #[.int .i64 a,.int .i64 b,.int .i64 c],.agg #[.int .i64 d,.int .i64 e,.int .i64 f]] (a=d∧b=e∧c=f) inferInstance:=⟨fun h=>Qdn_ (qf_ h).1 (qf_ h).2⟩
instance :BOp P (.binOp .neq T x y T') [.agg #[.int .i64 a,.int .i64 b,.int .i64 c],.agg #[.int .i64 d,.int .i64 e,.int .i64 f]] (¬(a=d∧b=e∧c=f)) inferInstance:=⟨fun h=>(Zdn_ (qf_ h).1 (qf_ h).2).cast (by simp)⟩
end
def bigL {ι:Type} (A:ι→za_) (l:List ι):za_:=big (l.map A)
section
variable {ι:Type} {A:ι→za_} {l l1 l2:List ι} {x y:ι} {L:List za_}
theorem Qbn_ {B:za_} {h:Heap} (hb:B h):big [B] h:=⟨h,Heap.empty,hb,trivial,fun _=> .inr rfl,.refl _,fun _ _ h=>by simp [Heap.empty] at h⟩
theorem bigL_open:Sub (bigL A l::L) (l.map A++L):=qaz_ fun _ h=>h
theorem zbC_:Sub (l.map A++L) (bigL A l::L):=zbq_ fun _ h=>h
theorem sub_mid {M N:List za_} {B:za_}:Sub (M++B::N) (B::(M++N)):=by
 induction M with
 | nil=>exact Sub.refl _
 | cons a M ih=>exact (Sub.cons ih).trans fun _=>ZS_
theorem sub_unmid {M N:List za_} {B:za_}:Sub (B::(M++N)) (M++B::N):=by
 induction M with
 | nil=>exact Sub.refl _
 | cons a M ih=>exact Sub.trans (fun _=>ZS_) (Sub.cons ih)
theorem ZZ_:Sub (bigL A (l1++x::l2)::L) (A x::bigL A (l1++l2)::L):=by
 refine bigL_open.trans ?_;rw [List.map_append,List.map_cons,List.append_assoc,List.cons_append];refine sub_mid.trans (Sub.cons ?_);rw [←List.append_assoc,←List.map_append];exact zbC_
theorem bigL_in:Sub (A x::bigL A (l1++l2)::L) (bigL A (l1++x::l2)::L):=by
 refine Sub.trans (Sub.cons bigL_open) ?_;rw [List.map_append,List.append_assoc];refine sub_unmid.trans ?_;have:l1.map A++A x::(l2.map A++L)=(l1++x::l2).map A++L:=by simp
 rw [this];exact zbC_
theorem qE_:Sub L (bigL A []::L):=fun h hb=>⟨Heap.empty,h,trivial,hb,fun _=> .inl rfl,fun _ _ h=>by simp [Heap.empty] at h,.refl _⟩
theorem Qci_ {k:Nat} (hk:k<l.length):l=l.take k++l[k]::l.drop (k+1):=by
 rw [←List.drop_eq_getElem_cons hk,List.take_append_drop]
theorem zak_ {k:Nat} (hk:k<l.length):Sub (bigL A l::L) (A l[k]::bigL A (l.take k++l.drop (k+1))::L):=by
 have h:=ZZ_ (A:=A) (l1:=l.take k) (x:=l[k]) (l2:=l.drop (k+1)) (L:=L);rwa [←Qci_ hk] at h
theorem Zci_ {k:Nat} (hk:k<l.length):Sub (A y::bigL A (l.take k++l.drop (k+1))::L) (bigL A (l.set k y)::L):=by
 have h:=bigL_in (A:=A) (l1:=l.take k) (x:=y) (l2:=l.drop (k+1)) (L:=L);rw [List.set_eq_take_append_cons_drop,if_pos hk];exact h
end
section
variable {P:Program} {n:Nat} {W0:World} {Q:Exit→Act→World→Prop} {F:zd_} {H:Heap} {L:List za_} {ops:Array Oper} {rest:List Oper} {q:Bool} {k:List Fr} {y:Code}
theorem qdo_ {σ:Type} (I:σ→Prop) (mF:σ→zd_) (mH:σ→Heap) (mL:σ→List za_)
  (h:∀K:Act→World→Prop,(∀s,I s→Sat n W0 (mF s) (mH s) (mL s) K)→Ops P n W0 Q F H L q ops rest (.cut K::k)) (h2:∀s,I s→Ex P n W0 Q (mF s) (mH s) (mL s) y k):Ops P n W0 Q F H L q ops rest (.seq y::k):=
 ⟨(h (y.wp P (Kx P Q k)) fun s hs=>(h2 s hs).run).run⟩
theorem qcj_ {c:Code} {σ:Type} (I:σ→Prop) (mF:σ→zd_) (mH:σ→Heap) (mL:σ→List za_)
  (h:∀K:Act→World→Prop,(∀s,I s→Sat n W0 (mF s) (mH s) (mL s) K)→Ops P n W0 Q F H L q ops rest (.seq c:: .cut K::k)) (h2:∀s,I s→Ex P n W0 Q (mF s) (mH s) (mL s) y k):Ops P n W0 Q F H L q ops rest (.seq c:: .seq y::k):=
 ⟨(h (y.wp P (Kx P Q k)) fun s hs=>(h2 s hs).run).run⟩
end
end Go.Sx
set_option linter.unusedVariables false
set_option linter.unusedSimpArgs false
namespace Go.Sx
open Go
def rVal:Rd Value:=fun _ c x=>c=[x]∧x.oneCell'=true
instance :RdFlat rVal:=⟨fun h=>h⟩
instance :R1 rVal (fun x=>x) (fun x=>x.oneCell'=true):=⟨fun h=>h⟩
section
variable {P:Program} {n:Nat} {W0:World} {Q:Exit→Act→World→Prop} {F:zd_} {H:Heap} {L:List za_} {ops:Array Oper} {rest:List Oper} {k:List Fr} {ty ty':TypeId} {pos pos':String} {aft aft':Array Edge} {d d':Tmp} {g g':Option (Nat×Bool)} {v:Value}
theorem zS_ (H:Heap):Heap.empty.le H:=fun _ _ h=>by simp [Heap.empty] at h
theorem Zbn_ {c:Code} {α:Type} {R:Rd α} {sz w T:Nat} {HS:Heap} {xs:List α} {L':List za_} (s:Value) [hh:HasS L s α R sz w T HS xs L'] [RdOk R sz] [RdFlat R]
  (h:∀D,ownS R sz w T HS s xs D→Disj H D→H.le (qk_ H D)→SlB R sz w (qk_ H D) s xs→Ex P n W0 Q F (qk_ H D) L' c k):Ex P n W0 Q F H L c k:=
 QbT_ hh.has fun D hD hd h1 h2=>h D hD hd h1 (zG_ (qbC_ (H':=Heap.empty) hD) (zS_ _) h2)
theorem Zaw_ {H0:Heap} {L0:List za_} {m fuel:Nat} {listed:Array Bool} (m':Nat) (L0':List za_) (h:AnyO P n W0 Q F H H L L0' m' ops fuel listed k) (hp:zaF_ m listed=true:=by decide+kernel):AnyO P n W0 Q F H H0 L L0 m ops fuel listed k:=
 ⟨fun a w hF hS=>by
  have h':=QaF_ _ _ _ _ (h.run a w hF hS);show wpP P ops _ _ m fuel listed a w
  cases fuel with
  | zero=>exact h'
  | succ f=>unfold wpP;rw [if_pos hp];exact h'⟩
end
theorem RL.rep {α:Type} {R:Rd α} {sz:Nat} [hR:RdOk R sz] {H:Heap} {c:List Value} {z:α} (h:R H c z):∀m,RL R H (List.replicate m c).flatten (List.replicate m z)
 | 0=>rfl
 | m+1=>⟨c,_,by rw [List.replicate_succ,List.flatten_cons],h,RL.rep h m⟩
theorem zdo_ {z:Array Value} {m:Nat}:(madeCells z (m*z.size)).toList=(List.replicate m z.toList).flatten:=by
  apply List.ext_getElem
  · simp [madeCells,List.length_flatten]
  · intro i h1 h2;simp only [madeCells,Array.length_toList,Array.size_map,Array.size_range] at h1
    have hz : 0 < z.size := by rcases Nat.eq_zero_or_pos z.size with h | h; · rw [h] at h1; simp at h1
                               · exact h
    rw [Array.getElem_toList];simp only [madeCells,Array.getElem_map,Array.getElem_range];rw [getElem!_pos z _ (Nat.mod_lt _ hz)]
    have key:∀(m i:Nat) (h:i<(List.replicate m z.toList).flatten.length),(List.replicate m z.toList).flatten[i]=z[i % z.size]'(Nat.mod_lt _ hz):=by
      intro m
      induction m with
      | zero=>intro i h;simp at h
      | succ m ih=>
        intro i h;simp only [List.replicate_succ,List.flatten_cons] at h⊢;by_cases hi:i<z.size
        · rw [List.getElem_append_left (by simpa using hi)];simp [Nat.mod_eq_of_lt hi]
        · rw [List.getElem_append_right (by simpa using hi)]
          rw [ih (i - z.toList.length) (by have e1 : z.toList.length = z.size := by simp
                                           have h':i<z.toList.length+(List.replicate m z.toList).flatten.length:=by rw [←List.length_append];exact h
                                           omega)]
          congr 1;simp only [Array.length_toList];rw [Nat.mod_eq_sub_mod (Nat.le_of_not_lt hi)]
    exact (key m i h2).symm
section
variable {P:Program} {n:Nat} {W0:World} {Q:Exit→Act→World→Prop} {F:zd_} {H:Heap} {L:List za_} {ops:Array Oper} {rest:List Oper} {k:List Fr} {ty:TypeId} {pos:String} {aft:Array Edge} {d:Tmp} {x y:Operand} {t e:TypeId} {sz wd:Nat} {z:Value} {kl kc:IntKind}
end
end Go.Sx
set_option linter.unusedVariables false
set_option linter.unusedSimpArgs false
namespace Go.Sx
open Go
def ek3 (k:Int×Int×Int):Value:= .agg #[.int .i64 k.1,.int .i64 k.2.1,.int .i64 k.2.2]
class TKey3 (P:Program) (t:TypeId):Prop extends TEq3 P t where
  und:∃fs,P.underlying t=some (.struct fs)
  chk:∀(e:Bool) (a b c:Int) (w:World),(Instr.checkKey e 10000 t (.agg #[.int .i64 a,.int .i64 b,.int .i64 c])).run P w= .ok () w
theorem ZbT_ {a b:Int×Int×Int} (h:ek3 a=ek3 b):a=b:=by
 obtain ⟨a1,a2,a3⟩:=a;obtain ⟨b1,b2,b3⟩:=b;simp only [ek3,Value.agg.injEq] at h;have h:=congrArg Array.toList h;simp at h;obtain ⟨rfl,rfl,rfl⟩:=h;rfl
section
variable {P:Program} {t:TypeId} [h:TKey3 P t]
theorem ZcN_ (k:Int×Int×Int) (w:World):∀(es:List MapEntry) (i:Nat),(∀e∈es,∃k',e.key=ek3 k')→∃r,(Instr.findAsking t (ek3 k) es i).run P w= .ok r w∧(match r with
  | none=>∀e∈es,e.key≠ek3 k
  | some (j,v)=>i≤j∧∃e,es[j - i]?=some e∧v=e.val∧e.key=ek3 k∧∀l,l<j - i→∀e',es[l]?=some e'→e'.key≠ek3 k)
 | [],i,_=>⟨none,by simp [Instr.findAsking],by simp⟩
 | e::es,i,hk=>by
  obtain ⟨k',hk'⟩:=hk e (by simp)
  have heq:(Op.equal t (ek3 k) e.key).run P w= .ok (decide (k.1=k'.1∧k.2.1=k'.2.1∧k.2.2=k'.2.2)) w:=by
   rw [hk'];exact h.eq k.1 k.2.1 k.2.2 k'.1 k'.2.1 k'.2.2 w
  by_cases hx:k=k'
  ·subst hx;refine ⟨some (i,e.val),?_,by omega,e,by simp,rfl,hk',fun l hl=>by omega⟩;simp [Instr.findAsking,heq]
  ·have hd:¬(k.1=k'.1∧k.2.1=k'.2.1∧k.2.2=k'.2.2):=fun ⟨a,b,c⟩=>hx (by ext<;>assumption);obtain ⟨r,h1,h2⟩:=ZcN_ k w es (i+1) fun e he=>hk e (by simp [he]);have hne:e.key≠ek3 k:=by rw [hk'];exact fun e=>hx (ZbT_ e).symm
   refine ⟨r,?_,?_⟩
   ·simp only [Instr.findAsking,Sem.run_bind,heq,Result.andThen_ok,decide_eq_false hd];simpa using h1
   ·cases r with
    | none=>intro e' he';rcases List.mem_cons.1 he' with rfl | he';exact hne;exact h2 e' he'
    | some jv=>
     obtain ⟨j,v⟩:=jv;obtain ⟨h3,e1,h4,h5,h6,h7⟩:=h2;refine ⟨by omega,e1,?_,h5,h6,fun l hl e' he'=>?_⟩
     ·rw [show j - i=(j - (i+1))+1 from by omega];simpa using h4
     ·cases l with
      | zero=>simp at he';subst he';exact hne
      | succ l=>exact h7 l (by omega) e' (by simpa using he')
instance :TKey P t ek3 where
  chk e k w:=h.chk e k.1 k.2.1 k.2.2 w
  eq k es w hk:=by
    obtain ⟨fs,hu⟩:=h.und
    have hu':=run_underlying hu (w:=w)
    cases es with
    | nil=>exact ⟨none,by simp [Instr.findKey,hu',Instr.findNow],by simp⟩
    | cons e es=>
      obtain ⟨r,h1,h2⟩:=ZcN_ (P:=P) (t:=t) k w (e::es) 0 hk
      refine ⟨r,?_,?_⟩
      · obtain ⟨k',hk'⟩:=hk e (by simp)
        have hn:Instr.findNow (.struct fs) (ek3 k) (e::es) 0=none:=by simp [Instr.findNow,Instr.sameNow,hk',ek3]
        simp [Instr.findKey,hu',hn,h1]
      · cases r with
        | none=>exact h2
        | some jv=>exact h2.2
  stays k w:=by simp [Instr.keyThatStays,Instr.sameBits,ek3]
  inj a b e:=ZbT_ e
end
instance {a b c:Int}:KeyV ek3 (.agg #[.int .i64 a,.int .i64 b,.int .i64 c]) (a,b,c):=⟨rfl⟩
end Go.Sx
set_option linter.unusedVariables false
set_option linter.unusedSimpArgs false
namespace Go.Sx
open Go Go.Sort Go.RowKit Go.Maps
open Go.WideElems (Fit rd rg rg_of)
open Go.Proofs (encStr)
section
variable {ν:Type} {RV:Rd ν} {ag:Bool} {H:Heap}
def anyR:Value→Option (DataW Unit×List MemPlace):=fun _=>some (.lit (.bool true),[])
theorem qbU_:∀{es:List MapEntry} {m:List (ByteArray×ν)},EL Value.string RV ag H es m→es.map (·.key)=m.map fun p=>Value.string p.1
 | [],[],_=>rfl
 | e::es,(k,v)::m,⟨a,_,d⟩=>by simp [a,qbU_ d]
 | [],_::_,h=>h.elim
 | _::_,[],h=>h.elim
theorem QdA_ {P:Program} {k:TypeId} (hk:P.underlying k=some .string) {s:ByteArray} (hs:s.size≤maxLen) {x:MapEntry} (hx:x.key= .string s):rd P k anyR x=some (.string s.data.toList,.lit (.bool true)):=by
 have h1:keyOf P k x.key=some (.string s.data.toList):=by
  simp only [keyOf,hk,mapKey,hx];rw [if_pos hs]
 simp [rd,h1,anyR]
theorem qcO_ {P:Program} {k:TypeId} (hk:P.underlying k=some .string):∀{es:List MapEntry} {m:List (ByteArray×ν)},EL Value.string RV ag H es m→(∀p∈m,p.1.size≤maxLen)→es.map (rg P k anyR)=m.map fun p=>(Lit.string p.1.data.toList,DataW.lit (.bool true))
 | [],[],_,_=>rfl
 | e::es,(k',v)::m,⟨a,_,d⟩,h=>by
  have h1:=QdA_ (P:=P) hk (h (k',v) (by simp)) a;simp only [List.map_cons];rw [qcO_ hk d fun p hp=>h p (by simp [hp]),rg_of h1]
 | [],_::_,h,_=>h.elim
 | _::_,[],h,_=>h.elim
theorem QdE_ {P:Program} {k:TypeId} (hk:P.underlying k=some .string) {es:Array MapEntry} {clock:Nat} {m:List (ByteArray×ν)} (hm:MapOk Value.string RV ag H es clock m) (hs:∀p∈m,p.1.size≤maxLen) (hl:m.length≤maxLen) {w:World} {b:Nat} (hb:w.heap[b]?=some (.map es clock)):
  ∃D:DataW Unit,w.ownsMap P k anyR b m.length D∧(strKeys D).Perm (m.map fun p=>p.1.data.toList)∧Maps.size D=m.length:=by
 have hlen:es.toList.length=m.length:=hm.el.len;have hsz:es.size=m.length:=by simpa using hlen
 have hrg:=qcO_ (P:=P) hk hm.el hs;refine ⟨.map ((es.toList.map (rg P k anyR)).foldr DataW.insert []),⟨es,clock,hb,⟨by omega,?_,?_⟩,by omega,rfl⟩,?_,?_⟩
 ·refine ⟨hm.lt,?_,?_⟩
  ·exact hm.rise.imp fun h=>Nat.ne_of_lt h
  ·rw [qbU_ hm.el];have hn:=hm.nodup;rw [List.nodup_iff_pairwise_ne,List.pairwise_map] at hn⊢;exact hn.imp fun h e=>h (by simpa using e)
 ·intro x hx;have hkx:x.key∈es.toList.map (·.key):=List.mem_map.2 ⟨x,hx,rfl⟩;rw [qbU_ hm.el] at hkx;obtain ⟨p,hp,e⟩:=List.mem_map.1 hkx;exact ⟨_,QdA_ hk (hs p hp) e.symm⟩
 ·have hp:=Go.WideShapes.sorted_perm (es.toList.map (rg P k anyR));show (((es.toList.map (rg P k anyR)).foldr DataW.insert []).map fun p=>strOf p.1).Perm _;refine (hp.map _).trans ?_;rw [hrg,List.map_map];exact List.Perm.of_eq (List.map_congr_left fun p _=>rfl)
 ·have hp:=Go.WideShapes.sorted_perm (es.toList.map (rg P k anyR));rw [Maps.size_eq,hp.length_eq,List.length_map,hlen]
end
theorem v69_ {P:Prop} (h:P:=by
 by_cases e:b=g
 ·subst e;right
  cases hxb:x b with
  | none=>rfl
  | some o=>have:=hx b o hxb;rw [hnew] at this;cases this
 ·left;simp [hA,e]):P:=h
theorem v74_ {P:Prop} (h:P:=by
 subst h0;have hn0:n=0:=by omega
 subst hn0;have hc0:cur.size=0:=by simpa using h3
 refine ⟨hx,.inl ⟨rfl,?_⟩⟩;exact ⟨_,rfl⟩):P:=h
theorem v96_ {P:Prop} (h:P:=by
 have:xs=[]:=List.eq_nil_of_length_eq_zero (by simpa using hx);subst this;exact hS'.sub own_nil):P:=h
theorem St.newRow {W0 w w':World} {H:Heap} {L:List za_} {T n:Nat} {v:Value} {xs:List Value} (hS:St W0 H w L) (hb:Below w.heap.size w w') (hr:w'.ownsRow w.heap.size T 1 v n xs):St W0 H w' (Go.Sx.own T 1 v n xs::L):=by
 have hS':=hS.below hb;obtain ⟨hx,h⟩:=hr;rcases h with ⟨rfl,rfl⟩ | ⟨g,cap,cur,rfl,hg,hcell,h1,h2,h3,h4⟩
 ·exact v96_
 ·obtain ⟨h,a,l,d⟩:=hS.own;have hnew:hp w g=none:=by simp only [hp];exact Array.getElem?_eq_none hg
  let hA:Heap:=fun b=>if b=g then some (.cells cur T (0,0)) else none
  have hAw:hA.le (hp w'):=fun b o e=>by
   simp only [hA] at e;split at e
   ·next e1=>subst e1;cases e;exact hcell
   ·cases e
  have dis:∀(x:Heap),x.le (hp w)→Disj hA x:=fun x hx b=>by
   exact v69_
  have keep:∀(x:Heap),x.le (hp w)→x.le (hp w'):=fun x hx b o e=>by
   have h1:=hx b o e;exact v79_
  refine St.of_parts hS'.env hS'.ro (hA:=hA) ?_ a (dis h l) (dis H hS.ro).symm d hAw (keep h l);by_cases h0:cap=0
  ·exact v74_
  ·have hsplit:cur.toList=xs++cur.toList.drop (n*1):=by rw [←h4,List.take_append_drop]
   refine ⟨hx,.inr ⟨g,cap,cur.toList.drop (n*1),rfl,by omega,h1,h2,?_,?_⟩⟩
   ·rw [←hsplit];simpa using h3
   ·rw [←hsplit];simp [hA]
def sortT (xs:List ByteArray):List ByteArray:=((xs.map fun s=>s.data.toList).mergeSort leB).map sb
theorem qbo_ {ν:Type} {RV:Rd ν} {ag:Bool} {P:Program} {f it:FuncId} {k Tm:TypeId} {W0:World} {H H0:Heap} {p b:Nat} {ms:List (ByteArray×ν)} (hk:P.underlying k=some .string)
  (hcon:∀(w:World) (nn:Nat) (D0:DataW Unit) (R:Value→Option (DataW Unit×List MemPlace)),w.ownsMap P k R b nn D0→p<w.heap.size→w.cell? ⟨p,0,none⟩=some (.map (some b))→Maps.size D0≤maxLen→Maps.size D0*16≤140737488355328→
   Calls P f #[.func (.func it) #[] #[.pointer (some ⟨p,0,none⟩)]] w fun e w'=>∃(v:Value) (ss:List (List UInt8)),e= .returned v∧ss.Perm (strKeys D0)∧w'.ownsRow w.heap.size k 1 v ss.length ((ss.mergeSort leB).map encStr)∧(v= .slice none 0 0↔ss=[])∧Below w.heap.size w w')
  (hs:∀q∈ms,q.1.size≤zb_) (hl:ms.length*16≤zb_):
  Ct P f #[.func (.func it) #[] #[.pointer (some ⟨p,0,none⟩)]] W0 H [row p Tm [.map (some b)],mapO Value.string RV ag H0 b ms] (fun r H' B=>B=[ownS rStr 1 16 k H r (sortT (ms.map (·.1))),mapO Value.string RV ag H0 b ms]∧H'=H):=by
 intro w R hS;have hcap:zb_≤maxLen:=by decide
 obtain ⟨hA,hR,a,r,d,dA,dR,lA,lR⟩:=hS.parts;obtain ⟨hB,hR2,⟨es,clock,hm,hpt⟩,r2,d2,l2,l3⟩:=r
 have hcellp:w.cell? ⟨p,0,none⟩=some (.map (some b)):=by
  have h1:w.heap[p]?=some (.cells #[.map (some b)] Tm (0,0)):=lA _ _ a;simp [World.cell?,h1]
 have hplt:p<w.heap.size:=by
  have h1:hp w p=some (.cells #[.map (some b)] Tm (0,0)):=lA _ _ a;exact Qbp_ h1
 have hbm:w.heap[b]?=some (.map es clock):=lR _ _ (l2 _ _ hpt);have hlm:ms.length≤maxLen:=by have:=hl;simp only [zb_] at this hcap;omega
 obtain ⟨D,hown,hperm,hsize⟩:=QdE_ (P:=P) hk hm (fun q hq=>Nat.le_trans (hs q hq) hcap) hlm hbm;refine (hcon w ms.length D anyR hown hplt hcellp (by rw [hsize];exact hlm) (by rw [hsize];exact hl)).mono ?_;rintro e w' ⟨v,ss,rfl,hss,hrow,_,hbl⟩;have hS2:St W0 H w (mapO Value.string RV ag H0 b ms::R):=hS.sub (Sub.drop (Sub.refl _));have hS3:=hS2.newRow hbl hrow;have hsort:ss.mergeSort leB=(ms.map fun q=>q.1.data.toList).mergeSort leB:=mergeSort_of_perm (hss.trans hperm);refine ⟨v,H,[ownS rStr 1 16 k H v (sortT (ms.map (·.1))),mapO Value.string RV ag H0 b ms],rfl,.refl _,⟨rfl,rfl⟩,?_⟩;refine hS3.sub ?_
 have hlen:ss.length=(sortT (ms.map (·.1))).length:=by
  simp only [sortT,List.length_map,List.length_mergeSort];have:=(hss.trans hperm).length_eq;simpa using this
 have hcs:(ss.mergeSort leB).map encStr=(sortT (ms.map (·.1))).map Value.string:=by
  rw [hsort];simp only [sortT,List.map_map];rfl
 rw [hlen,hcs];refine QK_ ?_ ?_
 ·refine RL.mk1 (R:=rStr) (val:=fun x=> .string x) (ok:=fun x=>x.size≤zb_) fun x hx=>?_;obtain ⟨l,hl1,rfl⟩:=List.mem_map.1 hx;rw [List.mem_mergeSort] at hl1;simp only [List.map_map] at hl1;obtain ⟨q,hq,rfl⟩:=List.mem_map.1 hl1;exact hs q hq
 ·rw [←hlen];have:=(hss.trans hperm).length_eq;rw [List.length_map] at this;rw [this];exact hl
theorem zbU_ {P:Program} {f it:FuncId} {Tm:TypeId} {W0:World} {H:Heap} {b:Nat}
  (hcon:∀(mb:Option Nat) (W:World),Calls P f #[.map mb] W fun e w'=>e= .returned (.func (.func it) #[] #[.pointer (some ⟨W.heap.size,0,none⟩)])∧w'=W.alloc (.cells #[.map mb] Tm)):
  Ct P f #[.map (some b)] W0 H [] (fun r H' B=>∃p,r= .func (.func it) #[] #[.pointer (some ⟨p,0,none⟩)]∧B=[row p Tm [.map (some b)]]∧H'=H):=by
 intro w R hS;refine (hcon (some b) w).mono ?_;rintro e w' ⟨rfl,rfl⟩;refine ⟨_,H,[row w.heap.size Tm [.map (some b)]],rfl,.refl _,⟨w.heap.size,rfl,rfl,rfl⟩,?_⟩;exact hS.alloc (w':=w.alloc (.cells #[.map (some b)] Tm)) (hS.env.of rfl rfl rfl) rfl
end Go.Sx
set_option linter.unusedVariables false
set_option linter.unusedSimpArgs false
namespace Go.Sx
open Go
section
variable {P:Program} {n:Nat} {W0:World} {Q:Exit→Act→World→Prop} {F:zd_} {H:Heap} {L:List za_} {k k':List Fr} {c:Code}
end
section
variable {P:Program} {n:Nat} {W0:World} {Q:Exit→Act→World→Prop} {F:zd_} {H H0:Heap} {L R:List za_} {k:List Fr} {c:Code} {ops:Array Oper} {rest:List Oper} {κ ν:Type} {ek:κ→Value} {RV:Rd ν} {ag:Bool} {ms:List (κ×ν)} {b:Nat}
end
end Go.Sx
set_option linter.unusedVariables false
set_option linter.unusedSimpArgs false
namespace Go.Sx
open Go
def tx (ns:List Int):ByteArray:=sb (ns.map fun n=>UInt8.ofNat n.toNat)
section
variable {P:Program} {n:Nat} {W0:World} {Q:Exit→Act→World→Prop} {F:zd_} {H:Heap} {L R:List za_} {ops:Array Oper} {rest:List Oper} {k:List Fr} {ty:TypeId} {pos:String} {aft:Array Edge} {d:Tmp} {g:Option (Nat×Bool)} {gv:Option (Value×Bool)} {dst:Option Tmp}
end
end Go.Sx
set_option linter.unusedVariables false
set_option linter.unusedSimpArgs false
namespace Go.Sx
open Go Go.Sort
theorem zcj_:∀{a b:List UInt8},Op.bytesLess a b=true↔a<b
 | [],[]=>by simp [Op.bytesLess]
 | _::_,[]=>by simp [Op.bytesLess]
 | [],_::_=>by simp [Op.bytesLess]
 | a::x,b::y=>by
  have ih:=zcj_ (a:=x) (b:=y);simp only [Op.bytesLess,List.cons_lt_cons_iff,Bool.or_eq_true,Bool.and_eq_true,decide_eq_true_eq,beq_iff_eq,ih]
theorem ZaT_ {s t:ByteArray}:SLt s t↔s.data.toList<t.data.toList:=by
 unfold SLt Zcx_;rw [zcj_,zJ_,zJ_]
theorem QaM_ {s t:ByteArray} (h:s.data.toList=t.data.toList):s=t:=by
 cases s;cases t;congr;exact Array.ext' h
theorem zcO_ {s:ByteArray}:¬SLt s s:=by rw [ZaT_];exact List.lt_irrefl _
theorem QbC_ {s t u:ByteArray} (h:SLt s t) (h':SLt t u):SLt s u:=by rw [ZaT_] at*;exact List.lt_trans h h'
theorem ZdE_ {s t:ByteArray}:SLt s t∨s=t∨SLt t s:=by
 rw [ZaT_,ZaT_];by_cases h:s.data.toList<t.data.toList
 ·exact .inl h
 ·by_cases h':t.data.toList<s.data.toList
  ·exact .inr (.inr h')
  ·exact .inr (.inl (QaM_ (List.le_antisymm (List.not_lt.1 h') (List.not_lt.1 h))))
theorem QcO_ {s t:ByteArray} (h:SLt s t):¬SLt t s:=fun h'=>zcO_ (QbC_ h h')
end Go.Sx
set_option linter.unusedVariables false
set_option linter.unusedSimpArgs false
namespace Go.Sx
open Go
section
variable {P:Program} {n:Nat} {W0:World} {Q:Exit→Act→World→Prop} {F:zd_} {H H0:Heap} {L R:List za_} {ops:Array Oper} {rest:List Oper} {k:List Fr} {ty:TypeId} {pos:String} {aft:Array Edge} {κ ν:Type} [DecidableEq κ] {ek:κ→Value} {RV:Rd ν} {sz:Nat} [RdOk RV sz] {ag:Bool} {t tk kt et:TypeId} {b:Nat} {ky:κ} {ms:List (κ×ν)}
theorem zW_ {x y:Operand} {kv:Value} [hT:TMap P t kt et] [hV:KeyV ek kv ky] [hK:TKey P kt ek] (hv:opvs F [x,y]=some [.map (some b),kv]) (hh:Has L (mapO ek RV ag H0 b ms) R)
  (hk:Ops P n W0 Q F H (mapO ek RV ag H0 b (mdel ky ms)::R) false ops rest k):Ops P n W0 Q F H L false ops (⟨none,.call ⟨.builtin .delete,#[x,y],#[t,tk]⟩,ty,pos,aft,none⟩::rest) k:=
 Zbo_ (qcR_ (qf_ hv).1 ((qf_ hv).2.trans (congrArg some hV.h)) hh hk)
theorem Qcj_ {x:Operand} {d:Tmp} {g:Option (Nat×Bool)} {gv:Option (Value×Bool)} {q:Bool} [hT:TMap P t kt et] (hg:gval ops F g=some gv) [hb:GOk gv true] (hx:opv F x=some (.map (some b))) (hh:Has L (mapO ek RV ag H0 b ms) R)
  (hk:Ops P n W0 Q ((d,.int .i64 ms.length)::F) H L q ops rest k) (hd:Nat.blt d n=true:=by rfl):Ops P n W0 Q F H L q ops (⟨some d,.call ⟨.builtin .len,#[x],#[t]⟩,ty,pos,aft,g⟩::rest) k:=
 Zh_ hg hd (QdH_ hx hh) hk
end
end Go.Sx
set_option linter.unusedVariables false
set_option linter.unusedSimpArgs false
namespace Go.Sx
open Go Go.ChangeShapes Go.WideShapes Go.ChangeAt Go.RowKit
section
variable {P:Program} {n:Nat} {W0:World} {Q:Exit→Act→World→Prop} {F:zd_} {H:Heap} {L:List za_} {k:List Fr} {x y:Code}
end
end Go.Sx
set_option linter.unusedVariables false
set_option linter.unusedSimpArgs false
namespace Go.Sx
open Go Go.ChangeShapes Go.WideShapes Go.ChangeAt Go.RowKit
section
variable {P:Program} {n:Nat} {W0:World} {Q:Exit→Act→World→Prop} {F:zd_} {H:Heap} {L:List za_} {ops:Array Oper} {rest:List Oper} {k:List Fr} {ty:TypeId} {pos:String} {aft:Array Edge} {d:Tmp} {x y:Operand} {t e:TypeId} {sz wd:Nat} {z:Value} {kl kc:IntKind} {g:Option (Nat×Bool)} {gv:Option (Value×Bool)}
end
end Go.Sx
set_option linter.unusedVariables false
set_option linter.unusedSimpArgs false
namespace Go.Sx
open Go
class RVal {ν:Type} (R:Rd ν) (ag:Bool) (val:outParam (ν→Value)):Prop where
  h:∀{H:Heap} {cs:List Value} {v:ν},R H cs v→ofC ag cs=val v
section
variable {P:Program} {n:Nat} {W0:World} {Q:Exit→Act→World→Prop} {F:zd_} {H H0 H1:Heap} {L L0 R:List za_} {ops:Array Oper} {rest:List Oper} {k:List Fr} {ty:TypeId} {pos:String} {aft:Array Edge} {κ ν:Type} [DecidableEq κ] {ek:κ→Value} {RV:Rd ν} {sz:Nat} [RdOk RV sz] {ag:Bool} {t tk kt et:TypeId} {b:Nat} {ky:κ} {ms:List (κ×ν)} {val:ν→Value} {z:ν} {d:Tmp} {g:Option (Nat×Bool)} {gv:Option (Value×Bool)} {m fuel:Nat} {listed:Array Bool}
theorem Zcj_ {ok:Bool} {dst:Option Tmp} {x y:Operand} {kv:Value} [hA:RVal RV ag val] [hT:TMap P t kt et] [hV:KeyV ek kv ky] [hK:TKey P kt ek] [hZ:TZ P et (val z)] (hv:opvs F [x,y]=some [.map (some b),kv]) (hh:Has L (mapO ek RV ag H1 b ms) R):
  OpP P n W0 ⟨dst,.lookup t x y ok,ty,pos,aft,g⟩ F H L (if ok then .tuple #[val ((mget ky ms).getD z),.bool (mget ky ms).isSome] else val ((mget ky ms).getD z)):= .mk fun a w hF hS=>by
 obtain ⟨es,c,a',hb,_⟩:=(hS.sub hh.to).mapGet;obtain ⟨v,hr,hv1⟩:=qbh_ (P:=P) (t:=t) (kt:=kt) (et:=et) (k:=ky) (ok:=ok) (z:=val z) hb a'
 have:v=val ((mget ky ms).getD z):=by
  cases hg:mget ky ms with
  | none=>rw [hg] at hv1;exact hv1
  | some y=>rw [hg] at hv1;obtain ⟨cs,e,hr⟩:=hv1;rw [e];exact hA.h hr
 subst this;have h2:opv F y=some (ek ky):=(qf_ hv).2.trans (congrArg some hV.h);simp [execOp,hF.opv (qf_ hv).1,hF.opv h2,hr]
theorem zbo_ {q:Bool} {x y:Operand} {kv:Value} [hA:RVal RV ag val] [hT:TMap P t kt et] [hV:KeyV ek kv ky] [hK:TKey P kt ek] [hZ:TZ P et (val z)] (hg:gval ops F g=some gv) [hb:GOk gv true] (hv:opvs F [x,y]=some [.map (some b),kv]) (hh:Has L (mapO ek RV ag H1 b ms) R)
  (hk:Ops P n W0 Q ((d,val ((mget ky ms).getD z))::F) H L q ops rest k) (hd:Nat.blt d n=true:=by rfl):Ops P n W0 Q F H L q ops (⟨some d,.lookup t x y false,ty,pos,aft,g⟩::rest) k:=
 Zh_ hg hd (Zcj_ (ok:=false) hv hh) hk
theorem ZaM_ {q:Bool} {x y:Operand} {kv:Value} [hA:RVal RV ag val] [hT:TMap P t kt et] [hV:KeyV ek kv ky] [hK:TKey P kt ek] [hZ:TZ P et (val z)] (hg:gval ops F g=some gv) [hb:GOk gv true] (hv:opvs F [x,y]=some [.map (some b),kv]) (hh:Has L (mapO ek RV ag H1 b ms) R)
  (hk:Ops P n W0 Q ((d,.tuple #[val ((mget ky ms).getD z),.bool (mget ky ms).isSome])::F) H L q ops rest k) (hd:Nat.blt d n=true:=by rfl):Ops P n W0 Q F H L q ops (⟨some d,.lookup t x y true,ty,pos,aft,g⟩::rest) k:=
 Zh_ hg hd (Zcj_ (ok:=true) hv hh) hk
theorem qck_ (i:Nat) {x y:Operand} {kv:Value} [hA:RVal RV ag val] [hT:TMap P t kt et] [hV:KeyV ek kv ky] [hK:TKey P kt ek] [hZ:TZ P et (val z)] (hi:ops[i]?=some ⟨some d,.lookup t x y true,ty,pos,aft,g⟩) (hg:gval ops F g=some gv) [hb:GOk gv true] (hv:opvs F [x,y]=some [.map (some b),kv]) (hh:Has L0 (mapO ek RV ag H1 b ms) R)
  (h:AnyO P n W0 Q ((d,.tuple #[val ((mget ky ms).getD z),.bool (mget ky ms).isSome])::F) H H0 L L0 m ops fuel (listed.setIfInBounds i true) k) (hok:Ql_ ops m listed i=true:=by decide+kernel) (hQ:∀v c a w,Kx P Q k (.panic c) (a.put (some d) v) w→Kx P Q k (.panic c) a w:=by exact fun _ _ _ _ h=>h)
  (hl:H0.le H:=by exact Go.Sx.leA) (hsub:Sub L L0:=by exact Go.Sx.subA) (hd:Nat.blt d n=true:=by rfl):AnyO P n W0 Q F H H0 L L0 m ops (fuel+1) listed k:=
 Qo_ i hi hg (Zcj_ (ok:=true) hv hh) h hok (hQ _) hl hsub hd
theorem Qbo_ (i:Nat) {x y:Operand} {kv:Value} [hA:RVal RV ag val] [hT:TMap P t kt et] [hV:KeyV ek kv ky] [hK:TKey P kt ek] [hZ:TZ P et (val z)] (hi:ops[i]?=some ⟨some d,.lookup t x y false,ty,pos,aft,g⟩) (hg:gval ops F g=some gv) [hb:GOk gv true] (hv:opvs F [x,y]=some [.map (some b),kv]) (hh:Has L0 (mapO ek RV ag H1 b ms) R)
  (h:AnyO P n W0 Q ((d,val ((mget ky ms).getD z))::F) H H0 L L0 m ops fuel (listed.setIfInBounds i true) k) (hok:Ql_ ops m listed i=true:=by decide+kernel) (hQ:∀v c a w,Kx P Q k (.panic c) (a.put (some d) v) w→Kx P Q k (.panic c) a w:=by exact fun _ _ _ _ h=>h)
  (hl:H0.le H:=by exact Go.Sx.leA) (hsub:Sub L L0:=by exact Go.Sx.subA) (hd:Nat.blt d n=true:=by rfl):AnyO P n W0 Q F H H0 L L0 m ops (fuel+1) listed k:=
 Qo_ i hi hg (Zcj_ (ok:=false) hv hh) h hok (hQ _) hl hsub hd
omit [DecidableEq κ] in
theorem EL.reads:∀{es:List MapEntry} {ms:List (κ×ν)} {H:Heap},EL ek RV ag H es ms→∀q∈ms,∃cs,RV H cs q.2
 | [],[],_,_=>by simp
 | _::_,(_,_)::_,_,⟨_,⟨cs,_,r⟩,d⟩=>fun q hq=>by
  rcases List.mem_cons.1 hq with rfl | hq
  ·exact ⟨cs,r⟩
  ·exact EL.reads d q hq
 | [],_::_,_,h=>h.elim
 | _::_,[],_,h=>h.elim
omit [DecidableEq κ] in
theorem QW_ {h:Heap} (ho:mapO ek RV ag H1 b ms h):(∀q∈ms,∃cs,RV H1 cs q.2)∧(ms.map (·.1)).Nodup:=by
 obtain ⟨es,c,a,_⟩:=ho;exact ⟨EL.reads a.el,a.nodup⟩
end
end Go.Sx
set_option linter.unusedVariables false
set_option linter.unusedSimpArgs false
namespace Go.Sx
open Go
section
variable {P:Program} {n:Nat} {W0:World} {Q:Exit→Act→World→Prop} {F:zd_} {H H0:Heap} {L R:List za_} {ops:Array Oper} {rest:List Oper} {k:List Fr} {ty:TypeId} {pos:String} {aft:Array Edge} {κ ν:Type} [DecidableEq κ] {ek:κ→Value} {RV:Rd ν} {ag:Bool} {t tk kt et:TypeId} {b:Nat} {ky:κ} {ms:List (κ×ν)}
end
end Go.Sx
set_option linter.unusedVariables false
set_option linter.unusedSimpArgs false
namespace Go.Sx
open Go Go.Proofs Go.ChangeMaps
section
variable {P:Program} {n:Nat} {W0:World} {Q:Exit→Act→World→Prop} {F:zd_} {H H0:Heap} {L R:List za_} {ops:Array Oper} {rest:List Oper} {k:List Fr} {ty:TypeId} {pos:String} {aft:Array Edge} {κ ν:Type} [DecidableEq κ] {ek:κ→Value} {RV:Rd ν} {ag:Bool} {t tk kt et:TypeId} {b r:Nat} {ky:κ} {ms:List (κ×ν)}
omit [DecidableEq κ] in
theorem EL.at {H:Heap}:∀{es:List MapEntry} {m:List (κ×ν)},EL ek RV ag H es m→∀{i:Nat} {e:MapEntry},es[i]?=some e→∃q,m[i]?=some q∧e.key=ek q.1∧∃cs,e.val=ofC ag cs∧RV H cs q.2
 | [],[],_,i,e,he=>by simp at he
 | e1::es,(k1,v)::m,⟨a,b,d⟩,0,e,he=>by simp at he;subst he;exact ⟨(k1,v),rfl,a,b⟩
 | e1::es,(k1,v)::m,⟨a,b,d⟩,i+1,e,he=>by simpa using EL.at d (i:=i) (by simpa using he)
 | [],_::_,h,_,_,_=>h.elim
 | _::_,[],h,_,_,_=>h.elim
end
end Go.Sx
set_option linter.unusedVariables false
set_option linter.unusedSimpArgs false
namespace Go.Sx
open Go Go.Proofs
section
variable {P:Program} {n:Nat} {W0:World} {Q:Exit→Act→World→Prop} {F:zd_} {H H0:Heap} {L L0 R:List za_} {ops:Array Oper} {k:List Fr} {op:Op} {ty:TypeId} {pos:String} {aft:Array Edge} {d:Tmp} {v:Value} {m fuel:Nat} {listed:Array Bool}
theorem ZbC_ (i j:Nat) {x y:Operand} {t:TypeId} {b off T m':Nat} {cs us cs':List Value} {ty':TypeId} {pos':String} {aft':Array Edge} [TSz P t m'] (hi:ops[i]?=some ⟨some d,op,ty,pos,aft,none⟩) (hj:ops[j]?=some ⟨none,.store t x y,ty',pos',aft',none⟩)
  (h:OpW P n W0 ⟨some d,op,ty,pos,aft,none⟩ F H L (fun v H' L'=>H0.le H'∧Sub L' L0∧AnyO P n W0 Q ((d,v)::F) H' H0 L' L0 m ops fuel (listed.setIfInBounds i true) k))
  (hv:opvs F [x,y]=some [.pointer (some ⟨b,off,none⟩),v]) [hr':HasRow L b T cs R] [hu:CellsI v us] (hl:us.length=m') (h1:us.all (·.oneCell')=true) (hle:off+us.length≤cs.length) (hcs:cs.take off++us++cs.drop (off+us.length)=cs')
  (hk:Sub (row b T cs'::R) L0∧AnyO P n W0 Q F H H0 (row b T cs'::R) L0 m ops fuel (listed.setIfInBounds j true) k)
  (hl0:H0.le H:=by exact Go.Sx.leA)
  (hr:Region.ready .any ops listed=[i,j]:=by decide+kernel) (hd:Nat.blt d n=true:=by rfl):AnyO P n W0 Q F H H0 L L0 m ops (fuel+1) listed k:=by
 subst hcs;have hst:OpW P n W0 ⟨none,.store t x y,ty',pos',aft',none⟩ F H L (fun v H' L'=>H0.le H'∧Sub L' L0∧AnyO P n W0 Q F H' H0 L' L0 m ops fuel (listed.setIfInBounds j true) k):=zN_ (qf_ hv).1 (qf_ hv).2 hu.h hl h1 hr'.has hle ⟨hl0,hk.1,hk.2⟩;exact ⟨zbX_ hr (QaW_ hi hd (h.mono fun v H' L' _ ⟨a,b,c⟩=>⟨a,b,c.run⟩)) (QbX_ hj (hst.mono fun v H' L' _ ⟨a,b,c⟩=>⟨a,b,c.run⟩))⟩
theorem at_w (i:Nat) (hi:ops[i]?=some ⟨some d,op,ty,pos,aft,none⟩) (h:OpW P n W0 ⟨some d,op,ty,pos,aft,none⟩ F H L (fun v H' L'=>H0.le H'∧Sub L' L0∧AnyO P n W0 Q ((d,v)::F) H' H0 L' L0 m ops fuel (listed.setIfInBounds i true) k)) (hd:Nat.blt d n=true:=by rfl):
  Qaa_ P n W0 F H H0 L L0 m ops (Kx P Q k) fuel listed i:=QaW_ hi hd (h.mono fun v H' L' _ ⟨a,b,c⟩=>⟨a,b,c.run⟩)
theorem at_s (i:Nat) {x y:Operand} {t:TypeId} {b off T m':Nat} {cs us cs':List Value} [TSz P t m'] (hi:ops[i]?=some ⟨none,.store t x y,ty,pos,aft,none⟩)
  (hv:opvs F [x,y]=some [.pointer (some ⟨b,off,none⟩),v]) [hr':HasRow L b T cs R] [hu:CellsI v us] (hl:us.length=m') (h1:us.all (·.oneCell')=true) (hle:off+us.length≤cs.length) (hcs:cs.take off++us++cs.drop (off+us.length)=cs')
  (hk:Sub (row b T cs'::R) L0∧AnyO P n W0 Q F H H0 (row b T cs'::R) L0 m ops fuel (listed.setIfInBounds i true) k)
  (hl0:H0.le H:=by exact Go.Sx.leA):
  Qaa_ P n W0 F H H0 L L0 m ops (Kx P Q k) fuel listed i:=by
 subst hcs;have hst:OpW P n W0 ⟨none,.store t x y,ty,pos,aft,none⟩ F H L (fun v H' L'=>H0.le H'∧Sub L' L0∧AnyO P n W0 Q F H' H0 L' L0 m ops fuel (listed.setIfInBounds i true) k):=zN_ (qf_ hv).1 (qf_ hv).2 hu.h hl h1 hr'.has hle ⟨hl0,hk.1,hk.2⟩;exact QbX_ hi (hst.mono fun v H' L' _ ⟨a,b,c⟩=>⟨a,b,c.run⟩)
theorem qG_ (i j:Nat) (h:Qaa_ P n W0 F H H0 L L0 m ops (Kx P Q k) fuel listed i) (h':Qaa_ P n W0 F H H0 L L0 m ops (Kx P Q k) fuel listed j) (hr:Region.ready .any ops listed=[i,j]:=by decide+kernel):AnyO P n W0 Q F H H0 L L0 m ops (fuel+1) listed k:=⟨zbX_ hr h h'⟩
theorem qcv_ (i j l:Nat) (h:Qaa_ P n W0 F H H0 L L0 m ops (Kx P Q k) fuel listed i) (h':Qaa_ P n W0 F H H0 L L0 m ops (Kx P Q k) fuel listed j) (h2:Qaa_ P n W0 F H H0 L L0 m ops (Kx P Q k) fuel listed l) (hr:Region.ready .any ops listed=[i,j,l]:=by decide+kernel):AnyO P n W0 Q F H H0 L L0 m ops (fuel+1) listed k:=⟨zcU_ hr h h' h2⟩
end
theorem Ct.fold {P:Program} {f:FuncId} {vs:Array Value} {W0:World} {H:Heap} {A:List za_} {Post Post':Value→Heap→List za_→Prop} (h:Ct P f vs W0 H A Post)
  (hp:∀r H' B R,H.le H'→Post r H' B→∃B',Post' r H' B'∧Sub (B++R) (B'++R)):Ct P f vs W0 H A Post':=fun w R hS=>by
 refine (h w R hS).mono ?_;rintro e w' ⟨r,H',B,he,hl,hq,hS'⟩;obtain ⟨B',h1,h2⟩:=hp r H' B R hl hq;exact ⟨r,H',B',he,hl,h1,hS'.sub h2⟩
end Go.Sx
set_option linter.unusedVariables false
set_option linter.unusedSimpArgs false
namespace Go.Sx
open Go Go.Proofs
structure HeldI (i:Nat) (q:Prop):Type where
  out:q
section
variable {P:Program} {n:Nat} {W0:World} {Q:Exit→Act→World→Prop} {F:zd_} {H H0:Heap} {L L0:List za_} {m fuel:Nat} {ops:Array Oper} {listed:Array Bool} {k:List Fr} {op:Op} {ty:TypeId} {pos:String} {aft:Array Edge} {d:Tmp} {v:Value} {vs:List Value}
theorem gny_pY {i:Nat} {qq:Prop} (hh:HeldI i qq) {g:Option (Nat×Bool)} {gv:Option (Value×Bool)} {side:Prop} (hi:ops[i]?=some ⟨some d,op,ty,pos,aft,g⟩) (hg:gval ops F g=some gv) [hb:GOk gv true] (hv:opvs F (Qae_ op)=some vs) [hp:POp P op vs side v] (h:AnyO P n W0 Q ((d,v)::F) H H0 L L0 m ops fuel (listed.setIfInBounds i true) k) (hs:side:=by first | exact True.intro | omega | assumption | (unfold Go.Sx.fits;omega) | (refine ⟨?_,?_⟩<;>(try unfold Go.Sx.fits)<;>omega)) (hok:Ql_ ops m listed i=true:=by decide+kernel) (hQ:∀v c a w,Kx P Q k (.panic c) (a.put (some d) v) w→Kx P Q k (.panic c) a w:=by exact fun _ _ _ _ h=>h)
  (hl:H0.le H:=by exact Go.Sx.leA) (hsub:Sub L L0:=by exact Go.Sx.subA) (hd:Nat.blt d n=true:=by rfl):AnyO P n W0 Q F H H0 L L0 m ops (fuel+1) listed k:=Qo_ i hi hg (hp.run hs hv) h hok (hQ _) hl hsub hd
end
section
variable {P:Program} {n:Nat} {W0:World} {Q:Exit→Act→World→Prop} {F:zd_} {H H0:Heap} {L L0:List za_} {m fuel:Nat} {ops:Array Oper} {listed:Array Bool} {k:List Fr} {op:Op} {ty:TypeId} {pos:String} {aft:Array Edge} {d:Tmp} {v:Value} {vs:List Value}
theorem gny_ldY {i:Nat} {qq:Prop} (hh:HeldI i qq) {g:Option (Nat×Bool)} {gv:Option (Value×Bool)} {x:Operand} {t:TypeId} {b off T:Nat} {cs:List Value} {R:List za_} [TAgg P t false] (hi:ops[i]?=some ⟨some d,.load t x,ty,pos,aft,g⟩) (hg:gval ops F g=some gv) [hb:GOk gv true] (hx:opv F x=some (.pointer (some ⟨b,off,none⟩))) [hr:HasRow L0 b T cs R] (hc:cs[off]?=some v) (h:AnyO P n W0 Q ((d,v)::F) H H0 L L0 m ops fuel (listed.setIfInBounds i true) k) (hok:Ql_ ops m listed i=true:=by decide+kernel) (hQ:∀v c a w,Kx P Q k (.panic c) (a.put (some d) v) w→Kx P Q k (.panic c) a w:=by exact fun _ _ _ _ h=>h)
  (hl:H0.le H:=by exact Go.Sx.leA) (hsub:Sub L L0:=by exact Go.Sx.subA) (hd:Nat.blt d n=true:=by rfl):AnyO P n W0 Q F H H0 L L0 m ops (fuel+1) listed k:=Qo_ i hi hg (ZaE_ hx hr.has hc) h hok (hQ _) hl hsub hd
end
section
variable {P:Program} {n:Nat} {W0:World} {Q:Exit→Act→World→Prop} {F:zd_} {H H0:Heap} {L L0:List za_} {m fuel:Nat} {ops:Array Oper} {listed:Array Bool} {k:List Fr} {op:Op} {ty:TypeId} {pos:String} {aft:Array Edge} {d:Tmp} {v:Value} {vs us:List Value} {g:Option (Nat×Bool)} {gv:Option (Value×Bool)} {p:Prop}
theorem gny_ldHY {i:Nat} {qq:Prop} (hh:HeldI i qq) {x:Operand} {t:TypeId} {b o:Nat} {cs:List Value} [TAgg P t false] (hi:ops[i]?=some ⟨some d,.load t x,ty,pos,aft,g⟩) (hg:gval ops F g=some gv) [hb:GOk gv true] (hx:opv F x=some (.pointer (some ⟨b,o,none⟩))) (hr:HRow H0 b 0 cs) (hc:cs[o]?=some v) (h:AnyO P n W0 Q ((d,v)::F) H H0 L L0 m ops fuel (listed.setIfInBounds i true) k)
  (hok:Ql_ ops m listed i=true:=by decide+kernel) (hQ:∀c a w,Kx P Q k (.panic c) (a.put (some d) v) w→Kx P Q k (.panic c) a w:=by exact fun _ _ _ h=>h)
  (hl:H0.le H:=by exact Go.Sx.leA) (hsub:Sub L L0:=by exact Go.Sx.subA) (hd:Nat.blt d n=true:=by rfl):AnyO P n W0 Q F H H0 L L0 m ops (fuel+1) listed k:=
 Qo_ i hi hg (ZL_ hx (zI_ hr o (Nat.zero_add _) hc)) h hok hQ hl hsub hd
end
section
variable {P:Program} {n:Nat} {W0:World} {Q:Exit→Act→World→Prop} {F:zd_} {H H0:Heap} {L L0:List za_} {m fuel:Nat} {ops:Array Oper} {listed:Array Bool} {k:List Fr} {op:Op} {ty:TypeId} {pos:String} {aft:Array Edge} {d:Tmp} {v:Value} {vs:List Value}
theorem gny_TY {i:Nat} {qq:Prop} (hh:HeldI i qq) {g:Option (Nat×Bool)} {gv:Option (Value×Bool)} {p:Prop} {dp:Decidable p} (hi:ops[i]?=some ⟨some d,op,ty,pos,aft,g⟩) (hg:gval ops F g=some gv) [hb:GOk gv true] (hv:opvs F (Qae_ op)=some vs) [hp:BOp P op vs p dp] (h:AnyO P n W0 Q ((d,.bool true)::F) H H0 L L0 m ops fuel (listed.setIfInBounds i true) k) (hs:p:=by first | assumption | omega) (hok:Ql_ ops m listed i=true:=by decide+kernel) (hQ:∀v c a w,Kx P Q k (.panic c) (a.put (some d) v) w→Kx P Q k (.panic c) a w:=by exact fun _ _ _ _ h=>h)
  (hl:H0.le H:=by exact Go.Sx.leA) (hsub:Sub L L0:=by exact Go.Sx.subA) (hd:Nat.blt d n=true:=by rfl):AnyO P n W0 Q F H H0 L L0 m ops (fuel+1) listed k:=Qo_ i hi hg ((hp.run hv).cast (by simp [hs])) h hok (hQ _) hl hsub hd
end
section
variable {P:Program} {n:Nat} {W0:World} {Q:Exit→Act→World→Prop} {F:zd_} {H H0:Heap} {L L0:List za_} {m fuel:Nat} {ops:Array Oper} {listed:Array Bool} {k:List Fr} {op:Op} {ty:TypeId} {pos:String} {aft:Array Edge} {d:Tmp} {v:Value} {vs:List Value}
theorem gny_FY {i:Nat} {qq:Prop} (hh:HeldI i qq) {g:Option (Nat×Bool)} {gv:Option (Value×Bool)} {p:Prop} {dp:Decidable p} (hi:ops[i]?=some ⟨some d,op,ty,pos,aft,g⟩) (hg:gval ops F g=some gv) [hb:GOk gv true] (hv:opvs F (Qae_ op)=some vs) [hp:BOp P op vs p dp] (h:AnyO P n W0 Q ((d,.bool false)::F) H H0 L L0 m ops fuel (listed.setIfInBounds i true) k) (hs:¬p:=by first | assumption | omega) (hok:Ql_ ops m listed i=true:=by decide+kernel) (hQ:∀v c a w,Kx P Q k (.panic c) (a.put (some d) v) w→Kx P Q k (.panic c) a w:=by exact fun _ _ _ _ h=>h)
  (hl:H0.le H:=by exact Go.Sx.leA) (hsub:Sub L L0:=by exact Go.Sx.subA) (hd:Nat.blt d n=true:=by rfl):AnyO P n W0 Q F H H0 L L0 m ops (fuel+1) listed k:=Qo_ i hi hg ((hp.run hv).cast (by simp [hs])) h hok (hQ _) hl hsub hd
end
section
variable {P:Program} {n:Nat} {W0:World} {Q:Exit→Act→World→Prop} {F:zd_} {H H0:Heap} {L L0:List za_} {m fuel:Nat} {ops:Array Oper} {listed:Array Bool} {k:List Fr} {op:Op} {ty:TypeId} {pos:String} {aft:Array Edge} {d:Tmp} {v:Value} {vs:List Value}
theorem gny_BY {i:Nat} {qq:Prop} (hh:HeldI i qq) {g:Option (Nat×Bool)} {gv:Option (Value×Bool)} {p:Prop} {dp:Decidable p} (hi:ops[i]?=some ⟨some d,op,ty,pos,aft,g⟩) (hg:gval ops F g=some gv) [hb:GOk gv true] (hv:opvs F (Qae_ op)=some vs) [hp:BOp P op vs p dp] (h:AnyO P n W0 Q ((d,.bool (@decide p dp))::F) H H0 L L0 m ops fuel (listed.setIfInBounds i true) k) (hok:Ql_ ops m listed i=true:=by decide+kernel) (hQ:∀v c a w,Kx P Q k (.panic c) (a.put (some d) v) w→Kx P Q k (.panic c) a w:=by exact fun _ _ _ _ h=>h)
  (hl:H0.le H:=by exact Go.Sx.leA) (hsub:Sub L L0:=by exact Go.Sx.subA) (hd:Nat.blt d n=true:=by rfl):AnyO P n W0 Q F H H0 L L0 m ops (fuel+1) listed k:=Qo_ i hi hg (hp.run hv) h hok (hQ _) hl hsub hd
end
section
variable {P:Program} {n:Nat} {W0:World} {Q:Exit→Act→World→Prop} {F:zd_} {H H0:Heap} {L L0:List za_} {m fuel:Nat} {ops:Array Oper} {listed:Array Bool} {k:List Fr} {op:Op} {ty:TypeId} {pos:String} {aft:Array Edge} {d:Tmp} {v:Value} {vs:List Value}
theorem gny_skipY {i:Nat} {qq:Prop} (hh:HeldI i qq) {g:Option (Nat×Bool)} {gv:Option (Value×Bool)} (hi:ops[i]?=some ⟨some d,op,ty,pos,aft,g⟩) (hg:gval ops F g=some gv) [hb:GOk gv false] (h:AnyO P n W0 Q ((d,undef)::F) H H0 L L0 m ops fuel (listed.setIfInBounds i true) k) (hok:Ql_ ops m listed i=true:=by decide+kernel) (hQ:∀v c a w,Kx P Q k (.panic c) (a.put (some d) v) w→Kx P Q k (.panic c) a w:=by exact fun _ _ _ _ h=>h)
  (hl:H0.le H:=by exact Go.Sx.leA) (hsub:Sub L L0:=by exact Go.Sx.subA) (hd:Nat.blt d n=true:=by rfl):AnyO P n W0 Q F H H0 L L0 m ops (fuel+1) listed k:=⟨fun a w hF hS=>by
 simp only [Ql_,Bool.and_eq_true,Nat.blt_eq] at hok;obtain ⟨⟨⟨⟨⟨h1,h2⟩,h3⟩,h4⟩,h5⟩,h6⟩:=hok;exact Qaf_ hi h5 (Region.noSelect_spec h1) (hQ undef) fuel listed a w h4 h6 (Region.free_spec hi h2) (by simpa using h3) (.inr ⟨Qcl_ hg hF,rfl⟩) ((hS.weak hl).sub hsub) (h.run _ w (hF.put hd undef) hS)⟩
end
section
variable {P:Program} {n:Nat} {W0:World} {Q:Exit→Act→World→Prop} {F:zd_} {H H0:Heap} {L L0:List za_} {m fuel:Nat} {ops:Array Oper} {listed:Array Bool} {k:List Fr} {op:Op} {ty:TypeId} {pos:String} {aft:Array Edge} {d:Tmp} {v:Value} {vs us:List Value} {g:Option (Nat×Bool)} {gv:Option (Value×Bool)} {p:Prop}
theorem gny_spY {i:Nat} {qq:Prop} (hh:HeldI i qq) {side:Prop} (hi:ops[i]?=some ⟨some d,op,ty,pos,aft,g⟩) (hg:gval ops F g=some gv) [hs:GSym gv p] (hv:opvs F (Qae_ op)=some vs) [hu:UnGs p vs us] [hp:POp P op us side v] (h:AnyO P n W0 Q ((d,gd p v)::F) H H0 L L0 m ops fuel (listed.setIfInBounds i true) k)
  (hside:p→side:=by intro hg;first | exact True.intro | omega | assumption | (unfold Go.Sx.fits;omega) | (refine ⟨?_,?_⟩<;>(try unfold Go.Sx.fits)<;>omega)) (hok:Ql_ ops m listed i=true:=by decide+kernel) (hQ:∀v c a w,Kx P Q k (.panic c) (a.put (some d) v) w→Kx P Q k (.panic c) a w:=by exact fun _ _ _ _ h=>h)
  (hl:H0.le H:=by exact Go.Sx.leA) (hsub:Sub L L0:=by exact Go.Sx.subA) (hd:Nat.blt d n=true:=by rfl):AnyO P n W0 Q F H H0 L L0 m ops (fuel+1) listed k:=
 zbp_ i hi hg (fun h=>hp.run (hside h) (by rw [hv,hu.h h])) h hok hQ hl hsub hd
end
section
variable {P:Program} {n:Nat} {W0:World} {Q:Exit→Act→World→Prop} {F:zd_} {H H0:Heap} {L L0:List za_} {m fuel:Nat} {ops:Array Oper} {listed:Array Bool} {k:List Fr} {op:Op} {ty:TypeId} {pos:String} {aft:Array Edge} {d:Tmp} {v:Value} {vs us:List Value} {g:Option (Nat×Bool)} {gv:Option (Value×Bool)} {p:Prop}
theorem gny_sBY {i:Nat} {qq:Prop} (hh:HeldI i qq) {r:Prop} {dr:Decidable r} (hi:ops[i]?=some ⟨some d,op,ty,pos,aft,g⟩) (hg:gval ops F g=some gv) [hs:GSym gv p] (hv:opvs F (Qae_ op)=some vs) [hu:UnGs p vs us] [hp:BOp P op us r dr] (h:AnyO P n W0 Q ((d,gd p (.bool (@decide r dr)))::F) H H0 L L0 m ops fuel (listed.setIfInBounds i true) k)
  (hok:Ql_ ops m listed i=true:=by decide+kernel) (hQ:∀v c a w,Kx P Q k (.panic c) (a.put (some d) v) w→Kx P Q k (.panic c) a w:=by exact fun _ _ _ _ h=>h)
  (hl:H0.le H:=by exact Go.Sx.leA) (hsub:Sub L L0:=by exact Go.Sx.subA) (hd:Nat.blt d n=true:=by rfl):AnyO P n W0 Q F H H0 L L0 m ops (fuel+1) listed k:=
 zbp_ i hi hg (fun h=>hp.run (by rw [hv,hu.h h])) h hok hQ hl hsub hd
end
section
variable {P:Program} {n:Nat} {W0:World} {Q:Exit→Act→World→Prop} {F:zd_} {H H0:Heap} {L L0:List za_} {m fuel:Nat} {ops:Array Oper} {listed:Array Bool} {k:List Fr} {op:Op} {ty:TypeId} {pos:String} {aft:Array Edge} {d:Tmp} {v:Value} {vs us:List Value} {g:Option (Nat×Bool)} {gv:Option (Value×Bool)} {p:Prop}
theorem gny_sldY {i:Nat} {qq:Prop} (hh:HeldI i qq) {x:Operand} {t:TypeId} {xv:Value} {b off T:Nat} {cs:List Value} {R:List za_} [TAgg P t false] (hi:ops[i]?=some ⟨some d,.load t x,ty,pos,aft,g⟩) (hg:gval ops F g=some gv) [hs:GSym gv p] (hx:opv F x=some xv) [hu:UnG p xv (.pointer (some ⟨b,off,none⟩))] [hr:HasRow L0 b T cs R] (hc:cs[off]?=some v) (h:AnyO P n W0 Q ((d,gd p v)::F) H H0 L L0 m ops fuel (listed.setIfInBounds i true) k)
  (hok:Ql_ ops m listed i=true:=by decide+kernel) (hQ:∀v c a w,Kx P Q k (.panic c) (a.put (some d) v) w→Kx P Q k (.panic c) a w:=by exact fun _ _ _ _ h=>h)
  (hl:H0.le H:=by exact Go.Sx.leA) (hsub:Sub L L0:=by exact Go.Sx.subA) (hd:Nat.blt d n=true:=by rfl):AnyO P n W0 Q F H H0 L L0 m ops (fuel+1) listed k:=
 zbp_ i hi hg (fun hp=>ZaE_ (by rw [hx,hu.h hp]) hr.has hc) h hok hQ hl hsub hd
end
section
variable {P:Program} {n:Nat} {W0:World} {Q:Exit→Act→World→Prop} {F:zd_} {H H0:Heap} {L L0:List za_} {m fuel:Nat} {ops:Array Oper} {listed:Array Bool} {k:List Fr} {op:Op} {ty:TypeId} {pos:String} {aft:Array Edge} {d:Tmp} {v:Value} {vs us:List Value} {g:Option (Nat×Bool)} {gv:Option (Value×Bool)} {p:Prop}
theorem gny_sldHY {i:Nat} {qq:Prop} (hh:HeldI i qq) {x:Operand} {t:TypeId} {xv:Value} {b o:Nat} {cs:List Value} [TAgg P t false] (hi:ops[i]?=some ⟨some d,.load t x,ty,pos,aft,g⟩) (hg:gval ops F g=some gv) [hs:GSym gv p] (hx:opv F x=some xv) [hu:UnG p xv (.pointer (some ⟨b,o,none⟩))] (hr:HRow H0 b 0 cs) (hc:cs[o]?=some v) (h:AnyO P n W0 Q ((d,gd p v)::F) H H0 L L0 m ops fuel (listed.setIfInBounds i true) k)
  (hok:Ql_ ops m listed i=true:=by decide+kernel) (hQ:∀v c a w,Kx P Q k (.panic c) (a.put (some d) v) w→Kx P Q k (.panic c) a w:=by exact fun _ _ _ _ h=>h)
  (hl:H0.le H:=by exact Go.Sx.leA) (hsub:Sub L L0:=by exact Go.Sx.subA) (hd:Nat.blt d n=true:=by rfl):AnyO P n W0 Q F H H0 L L0 m ops (fuel+1) listed k:=
 zbp_ i hi hg (fun hp=>ZL_ (by rw [hx,hu.h hp]) (zI_ hr o (Nat.zero_add _) hc)) h hok hQ hl hsub hd
end
section
variable {P:Program} {n:Nat} {W0:World} {Q:Exit→Act→World→Prop} {F:zd_} {H H0:Heap} {L L0:List za_} {m fuel:Nat} {ops:Array Oper} {listed:Array Bool} {k:List Fr} {op:Op} {ty:TypeId} {pos:String} {aft:Array Edge} {d:Tmp} {v:Value} {vs:List Value}
theorem gny_ldNY {i:Nat} {qq:Prop} (hh:HeldI i qq) {g:Option (Nat×Bool)} {gv:Option (Value×Bool)} {x:Operand} {t:TypeId} {b off T sz:Nat} {cs us:List Value} {R:List za_} [TAgg P t true] [TSz P t sz] (hi:ops[i]?=some ⟨some d,.load t x,ty,pos,aft,g⟩) (hg:gval ops F g=some gv) [hb:GOk gv true] (hx:opv F x=some (.pointer (some ⟨b,off,none⟩))) [hr:HasRow L0 b T cs R] (hc:qaE_ cs off sz=some us) (h:AnyO P n W0 Q ((d,.agg us.toArray)::F) H H0 L L0 m ops fuel (listed.setIfInBounds i true) k) (hok:Ql_ ops m listed i=true:=by decide+kernel) (hQ:∀v c a w,Kx P Q k (.panic c) (a.put (some d) v) w→Kx P Q k (.panic c) a w:=by exact fun _ _ _ _ h=>h)
  (hl:H0.le H:=by exact Go.Sx.leA) (hsub:Sub L L0:=by exact Go.Sx.subA) (hd:Nat.blt d n=true:=by rfl):AnyO P n W0 Q F H H0 L L0 m ops (fuel+1) listed k:=Qo_ i hi hg (QaN_ hx hr.has (pickC_pick hc)) h hok (hQ _) hl hsub hd
end
section
variable {P:Program} {n:Nat} {W0:World} {Q:Exit→Act→World→Prop} {F:zd_} {H H0:Heap} {L L0:List za_} {m fuel:Nat} {ops:Array Oper} {listed:Array Bool} {k:List Fr} {op:Op} {ty:TypeId} {pos:String} {aft:Array Edge} {d:Tmp} {v:Value} {vs:List Value}
theorem gny_bldY {i:Nat} {qq:Prop} (hh:HeldI i qq) {g:Option (Nat×Bool)} {gv:Option (Value×Bool)} {t:TypeId} {pl:List (Nat×Nat)} {ps:List (Nat×Operand)} {zs cs:List Value} [hT:TPl P t pl] [hZ:TZL P t zs] (hi:ops[i]?=some ⟨some d,.build t ps.toArray,ty,pos,aft,g⟩) (hg:gval ops F g=some gv) [hb:GOk gv true] (hf:zbV_ F pl ps zs=some cs) (h:AnyO P n W0 Q ((d,.agg cs.toArray)::F) H H0 L L0 m ops fuel (listed.setIfInBounds i true) k) (hok:Ql_ ops m listed i=true:=by decide+kernel) (hQ:∀v c a w,Kx P Q k (.panic c) (a.put (some d) v) w→Kx P Q k (.panic c) a w:=by exact fun _ _ _ _ h=>h)
  (hl:H0.le H:=by exact Go.Sx.leA) (hsub:Sub L L0:=by exact Go.Sx.subA) (hd:Nat.blt d n=true:=by rfl):AnyO P n W0 Q F H H0 L L0 m ops (fuel+1) listed k:=Qo_ i hi hg (zbr_ (Qak_ hf)) h hok (hQ _) hl hsub hd
end
theorem qa_ (i:Nat) {P:Program} {n:Nat} {W0:World} {Q:Exit→Act→World→Prop} {F:zd_} {H H0:Heap} {L L0:List za_} {m fuel:Nat} {ops:Array Oper} {listed:Array Bool} {k:List Fr} {q:Prop} (hq:q)
  (hle:H0.le H:=by exact Go.Sx.leA)
  (hsb:Sub L L0:=by exact Go.Sx.subA)
  (h:H0.le H→Sub L L0→HeldI i q→AnyO P n W0 Q F H H0 L L0 m ops fuel listed k:=by
  intro hle hsb hq
  first
   | refine Go.Sx.gny_pY hq rfl rfl rfl ?_ (hl:=hle) (hsub:=hsb)
   | refine Go.Sx.gny_ldY hq rfl rfl rfl rfl ?_ (hl:=hle) (hsub:=hsb)
   | refine Go.Sx.gny_ldHY hq rfl rfl rfl ‹Go.Sx.HRow _ _ 0 _› rfl ?_ (hl:=hle) (hsub:=hsb)
   | refine Go.Sx.gny_TY hq rfl rfl rfl ?_ (hl:=hle) (hsub:=hsb)
   | refine Go.Sx.gny_FY hq rfl rfl rfl ?_ (hl:=hle) (hsub:=hsb)
   | refine Go.Sx.gny_BY hq rfl rfl rfl ?_ (hl:=hle) (hsub:=hsb)
   | refine Go.Sx.gny_skipY hq rfl rfl ?_ (hl:=hle) (hsub:=hsb)
   | refine Go.Sx.gny_spY hq rfl rfl rfl ?_ (hl:=hle) (hsub:=hsb)
   | refine Go.Sx.gny_sBY hq rfl rfl rfl ?_ (hl:=hle) (hsub:=hsb)
   | refine Go.Sx.gny_sldY hq rfl rfl rfl rfl ?_ (hl:=hle) (hsub:=hsb)
   | refine Go.Sx.gny_sldHY hq rfl rfl rfl ‹Go.Sx.HRow _ _ 0 _› rfl ?_ (hl:=hle) (hsub:=hsb)
   | refine Go.Sx.gny_ldNY hq rfl rfl rfl rfl ?_ (hl:=hle) (hsub:=hsb)
   | refine Go.Sx.gny_bldY hq rfl rfl rfl ?_ (hl:=hle) (hsub:=hsb)
  exact hq.out):AnyO P n W0 Q F H H0 L L0 m ops fuel listed k:=h hle hsb ⟨hq⟩
end Go.Sx
