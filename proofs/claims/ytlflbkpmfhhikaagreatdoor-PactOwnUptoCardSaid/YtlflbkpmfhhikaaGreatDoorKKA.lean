/- The walk's logic. No program in sight. -/
import Derived.Tactics2
import Derived.OrdersHeld
import Derived.KernelRfl
import Derived.Below
import Derived.Laws.AppendOwn
import Derived.Deep.AppendSrc
import Derived.Laws.StructEq
import Derived.Laws.Cover3
namespace Go.Sx
open Go
abbrev zd_:=List (Nat×Value)
def fget:zd_→Nat→Option Value
  | [],_=>none
  | (k,v)::r,t=>bif Nat.beq k t then some v else fget r t
def opv (F:zd_):Operand→Option Value
  | .tmp t=>fget F t
  | .const v=>some v
  | .global g=>some (.pointer (some ⟨g,0,none⟩))
  | .func f=>some (.func (.func f) #[] #[])
structure FrOk (n:Nat) (a:Act) (F:zd_):Prop where
  size:a.tmps.size=n
  defs:a.defers=[]
  get:∀t v,fget F t=some v→a.tmps[t]?=some v
theorem FrOk.opv {n:Nat} {a:Act} {F:zd_} (h:FrOk n a F) {x:Operand} {v:Value} (hx:opv F x=some v):a.eval x=v:=by
 cases x with
 | tmp t=>simp only [Sx.opv] at hx;have:=h.get t v hx;simp [Act.eval,this]
 | const u=>simpa [Sx.opv,Act.eval] using hx
 | global g=>simpa [Sx.opv,Act.eval] using hx
 | func f=>simpa [Sx.opv,Act.eval] using hx
theorem qJ_ (d:Nat) (v:Value) (F:zd_) (t:Nat):fget ((d,v)::F) t=if d=t then some v else fget F t:=by
 simp only [fget];by_cases h:d=t
 ·subst h;simp
 ·have:Nat.beq d t=false:=by rw [←Bool.not_eq_true,Nat.beq_eq];exact h
  simp [this,h]
theorem FrOk.put {n:Nat} {a:Act} {F:zd_} (h:FrOk n a F) {d:Nat} (hd:Nat.blt d n=true) (v:Value):FrOk n (a.put (some d) v) ((d,v)::F):=by
 have hd':d<n:=by simpa [Nat.blt_eq] using hd
 refine ⟨by simp [Act.put,h.size],by simp [Act.put,h.defs],fun t u ht=>?_⟩;rw [qJ_] at ht;by_cases he:d=t
 ·subst he;simp at ht;subst ht;simp [Act.put,h.size,hd']
 ·simp only [he,if_false] at ht;simp only [Act.put,Array.getElem?_setIfInBounds,he,if_false];exact h.get t u ht
theorem FrOk.put0 {n:Nat} {a:Act} {F:zd_} (h:FrOk n a F) (v:Value):FrOk n (a.put none v) F:=by simpa [Act.put] using h
def fsub:zd_→zd_→Prop:=fun F F'=>∀t v,fget F t=some v→fget F' t=some v
theorem FrOk.sub {n:Nat} {a:Act} {F F':zd_} (h:FrOk n a F') (hs:fsub F F'):FrOk n a F:=⟨h.size,h.defs,fun t v ht=>h.get t v (hs t v ht)⟩
theorem fsub_nil (F:zd_):fsub [] F:=fun _ _ h=>by simp [fget] at h
theorem fsub_cons {F F':zd_} {d:Nat} {v:Value} (h:fget F' d=some v) (hs:fsub F F'):fsub ((d,v)::F) F':=fun t u ht=>by
 rw [qJ_] at ht;by_cases he:d=t
 ·subst he;simp at ht;subst ht;exact h
 ·simp only [he,if_false] at ht;exact hs t u ht
abbrev Heap:=Nat→Option Obj
abbrev za_:=Heap→Prop
def hp (w:World):Heap:=fun b=>w.heap[b]?
def Heap.le (H H':Heap):Prop:=∀b o,H b=some o→H' b=some o
def Heap.empty:Heap:=fun _=>none
theorem Heap.le.refl (H:Heap):H.le H:=fun _ _ h=>h
theorem Heap.le.trans {A B C:Heap} (h:Heap.le A B) (h':Heap.le B C):Heap.le A C:=fun b o x=>h' b o (h b o x)
def Disj (h1 h2:Heap):Prop:=∀b,h1 b=none∨h2 b=none
theorem Disj.symm {a b:Heap} (h:Disj a b):Disj b a:=fun x=>(h x).symm
theorem Disj.mono {a b a':Heap} (h:Disj a b) (hl:a'.le a):Disj a' b:=fun x=>by
 rcases h x with h | h
 ·left;cases hx:a' x with
  | none=>rfl
  | some o=>rw [hl x o hx] at h;cases h
 ·exact .inr h
def qk_ (h1 h2:Heap):Heap:=fun b=>match h1 b with | some o=>some o | none=>h2 b
theorem Qm_ (a b:Heap):a.le (qk_ a b):=fun x o h=>by simp [qk_,h]
theorem ql_ {a b:Heap} (hd:Disj a b):b.le (qk_ a b):=fun x o h=>by
 rcases hd x with h' | h'
 ·simp [qk_,h',h]
 ·rw [h] at h';cases h'
theorem QL_ {a b c:Heap} (h1:a.le c) (h2:b.le c):(qk_ a b).le c:=fun x o h=>by
 simp only [qk_] at h
 cases hx:a x with
 | some u=>rw [hx] at h;exact h1 x o (by rw [hx];exact h)
 | none=>rw [hx] at h;exact h2 x o h
theorem Zz_ {a b c:Heap} (h1:Disj a c) (h2:Disj b c):Disj (qk_ a b) c:=fun x=>by
 rcases h1 x with h | h
 ·rcases h2 x with h' | h'
  ·left;simp [qk_,h,h']
  ·exact .inr h'
 ·exact .inr h
def upd (H:Heap) (b:Nat) (o:Obj):Heap:=fun x=>if x=b then some o else H x
theorem qcm_ (H:Heap) (b:Nat) (o:Obj):upd H b o b=some o:=by simp [upd]
theorem qdB_ {H:Heap} {b:Nat} {o:Obj} (h:H b=none):H.le (upd H b o):=fun x u hx=>by
 by_cases e:x=b
 ·subst e;rw [h] at hx;cases hx
 ·simp [upd,e,hx]
def pt (b:Nat) (o:Obj):za_:=fun h=>h b=some o
def emp:za_:=fun _=>True
def big:List za_→za_
  | []=>fun _=>True
  | A::r=>fun h=>∃h1 h2,A h1∧big r h2∧Disj h1 h2∧h1.le h∧h2.le h
theorem big_mono {L:List za_} {h h':Heap} (hl:h.le h') (hb:big L h):big L h':=by
 cases L with
 | nil=>trivial
 | cons A r=>obtain ⟨h1,h2,a,b,c,d,e⟩:=hb;exact ⟨h1,h2,a,b,c,d.trans hl,e.trans hl⟩
theorem ZS_ {A B:za_} {L:List za_} {h:Heap} (hb:big (A::B::L) h):big (B::A::L) h:=by
 obtain ⟨h1,h2,a,⟨h3,h4,b,l,d34,le3,le4⟩,d12,le1,le2⟩:=hb;have d13:Disj h1 h3:=(d12.symm.mono le3).symm;have d14:Disj h1 h4:=(d12.symm.mono le4).symm;refine ⟨h3,qk_ h1 h4,b,⟨h1,h4,a,l,d14,Qm_ _ _,ql_ d14⟩,?_,le3.trans le2,QL_ le1 (le4.trans le2)⟩;exact (Zz_ d13 d34.symm).symm
def Sub (L L':List za_):Prop:=∀h,big L h→big L' h
theorem Sub.refl (L:List za_):Sub L L:=fun _ h=>h
theorem Sub.trans {A B C:List za_} (h:Sub A B) (h':Sub B C):Sub A C:=fun x hx=>h' x (h x hx)
theorem Sub.cons {A:za_} {L L':List za_} (h:Sub L L'):Sub (A::L) (A::L'):=fun _ ⟨h1,h2,a,b,c,d,e⟩=>⟨h1,h2,a,h h2 b,c,d,e⟩
theorem Sub.drop {A:za_} {L L':List za_} (h:Sub L L'):Sub (A::L) L':=fun x ⟨_,_,_,b,_,_,e⟩=>h x (big_mono e b)
theorem Sub.nil (L:List za_):Sub L []:=fun _ _=>trivial
theorem Sub.emp {L L':List za_} (h:Sub L L'):Sub L (emp::L'):=fun x hx=>⟨Heap.empty,x,trivial,h x hx,fun _=> .inl rfl,fun _ _ h=>by simp [Heap.empty] at h,fun _ _ h=>h⟩
inductive Has:List za_→za_→List za_→Prop
  | here {A:za_} {r:List za_}:Has (A::r) A r
  | there {x A:za_} {r r':List za_}:Has r A r'→Has (x::r) A (x::r')
theorem Has.to {L R:List za_} {A:za_} (h:Has L A R):Sub L (A::R):=by
 induction h with
 | here=>exact Sub.refl _
 | there _ ih=>exact (Sub.cons ih).trans fun _=>ZS_
theorem Has.from {L R:List za_} {A:za_} (h:Has L A R):Sub (A::R) L:=by
 induction h with
 | here=>exact Sub.refl _
 | there _ ih=>exact Sub.trans (fun _=>ZS_) (Sub.cons ih)
inductive Upd:List za_→za_→za_→List za_→Prop
  | here {A A':za_} {r:List za_}:Upd (A::r) A A' (A'::r)
  | there {x A A':za_} {r r':List za_}:Upd r A A' r'→Upd (x::r) A A' (x::r')
theorem Upd.split {L L':List za_} {A A':za_} (h:Upd L A A' L'):∃R,Sub L (A::R)∧Sub (A'::R) L':=by
 induction h with
 | here=>exact ⟨_,Sub.refl _,Sub.refl _⟩
 | @there x _ _ _ _ _ ih=>obtain ⟨R,h1,h2⟩:=ih;exact ⟨x::R,(Sub.cons h1).trans fun _=>ZS_,Sub.trans (fun _=>ZS_) (Sub.cons h2)⟩
inductive Take:List za_→List za_→List za_→Prop
  | nil {L:List za_}:Take L [] L
  | cons {L M R:List za_} {A:za_} {B:List za_}:Has L A M→Take M B R→Take L (A::B) R
theorem Take.to {L A R:List za_} (h:Take L A R):Sub L (A++R):=by
 induction h with
 | nil=>exact Sub.refl _
 | cons h _ ih=>exact h.to.trans (Sub.cons ih)
structure EnvOk (W0 w:World):Prop where
  os:w.os=W0.os
  tape:w.tape=W0.tape
  output:w.output=W0.output
structure St (W0:World) (H:Heap) (w:World) (L:List za_):Prop where
  env:EnvOk W0 w
  ro:H.le (hp w)
  own:∃h,big L h∧h.le (hp w)∧Disj H h
theorem St.sub {W0 w:World} {H:Heap} {L L':List za_} (h:St W0 H w L) (hs:Sub L L'):St W0 H w L':=
 ⟨h.env,h.ro,let ⟨x,a,b,c⟩:=h.own;⟨x,hs x a,b,c⟩⟩
theorem Qbp_ {w:World} {b:Nat} {o:Obj} (h:hp w b=some o):b<w.heap.size:=by
 simp only [hp] at h;exact (Array.getElem?_eq_some_iff.1 h).1
theorem St.parts {W0 w:World} {H:Heap} {A:za_} {R:List za_} (h:St W0 H w (A::R)):
  ∃hA hR,A hA∧big R hR∧Disj hA hR∧Disj H hA∧Disj H hR∧hA.le (hp w)∧hR.le (hp w):=by
 obtain ⟨x,⟨h1,h2,a,b,c,d,e⟩,hl,hd⟩:=h.own;exact ⟨h1,h2,a,b,c,(hd.symm.mono d).symm,(hd.symm.mono e).symm,d.trans hl,e.trans hl⟩
theorem St.of_parts {W0 w:World} {H:Heap} {A:za_} {R:List za_} (env:EnvOk W0 w) (ro:H.le (hp w)) {hA hR:Heap} (a:A hA) (r:big R hR) (d:Disj hA hR)
  (dA:Disj H hA) (dR:Disj H hR) (lA:hA.le (hp w)) (lR:hR.le (hp w)):St W0 H w (A::R):=
 ⟨env,ro,qk_ hA hR,⟨hA,hR,a,r,d,Qm_ _ _,ql_ d⟩,QL_ lA lR,(Zz_ dA.symm dR.symm).symm⟩
theorem St.step {W0 w w':World} {H:Heap} {A A':za_} {R:List za_} (h:St W0 H w (A::R)) (env:EnvOk W0 w')
  (hs:∀hA,A hA→hA.le (hp w)→(∀b,b<w.heap.size→hA b=none→hp w' b=hp w b)∧∃hA',A' hA'∧hA'.le (hp w')∧∀b,hA' b≠none→hA b≠none∨w.heap.size≤b):
  St W0 H w' (A'::R):=by
 obtain ⟨hA,hR,a,r,d,dA,dR,lA,lR⟩:=h.parts;obtain ⟨hk,hA',a',l',hn⟩:=hs hA a lA
 have keep:∀(g:Heap),g.le (hp w)→Disj hA g→g.le (hp w'):=fun g hg hd b o hb=>by
  have hlt:=Qbp_ (hg b o hb);have hnone:hA b=none:=by rcases hd b with x | x;exact x;rw [hb] at x;cases x
  rw [hk b hlt hnone];exact hg b o hb
 have dis:∀(g:Heap),g.le (hp w)→Disj hA g→Disj hA' g:=fun g hg hd b=>by
  cases hx:hA' b with
  | none=>exact .inl rfl
  | some o=>
   right;rcases hn b (by rw [hx];simp) with h1 | h1
   ·rcases hd b with x | x;exact absurd x h1;exact x
   ·cases hg':g b with
    | none=>rfl
    | some u=>have:=Qbp_ (hg b u hg');omega
 exact St.of_parts env (keep H h.ro dA.symm) a' r (dis hR lR d) (dis H h.ro dA.symm).symm dR l' (keep hR lR d)
theorem St.ptRead {W0 w:World} {H:Heap} {b:Nat} {o:Obj} {R:List za_} (h:St W0 H w (pt b o::R)):w.heap[b]?=some o∧H b=none:=by
 obtain ⟨hA,hR,a,r,d,dA,dR,lA,lR⟩:=h.parts;refine ⟨lA b o a,?_⟩;rcases dA b with x | x;exact x;rw [show hA b=some o from a] at x;cases x
def one (b:Nat) (o:Obj):Heap:=fun x=>if x=b then some o else none
theorem zcm_ {b:Nat} {o:Obj} {h:Heap} (hb:h b=some o):(one b o).le h:=fun x u hx=>by
 simp only [one] at hx;split at hx
 ·rename_i e;subst e;cases hx;exact hb
 ·cases hx
theorem St.ptWrite {W0 w w':World} {H:Heap} {b:Nat} {o o':Obj} {R:List za_} (h:St W0 H w (pt b o::R)) (env:EnvOk W0 w')
  (hb:w'.heap[b]?=some o') (hk:∀x,x≠b→w'.heap[x]?=w.heap[x]?):St W0 H w' (pt b o'::R):=
 h.step env fun hA a lA=>⟨fun x hx hn=>hk x (by rintro rfl;rw [show hA x=some o from a] at hn;cases hn),
  one b o',by simp [pt,one],zcm_ hb,fun x hx=>by
   left;simp only [one] at hx;split at hx
   ·rename_i e;subst e;rw [show hA x=some o from a];simp
   ·simp at hx⟩
theorem St.alloc {W0 w w':World} {H:Heap} {o:Obj} {L:List za_} (h:St W0 H w L) (env:EnvOk W0 w') (hw:w'.heap=w.heap.push o):St W0 H w' (pt w.heap.size o::L):=by
 have h':St W0 H w (emp::L):=h.sub (Sub.emp (Sub.refl _));refine h'.step env fun hA _ _=>⟨fun b hb _=>?_,one w.heap.size o,by simp [pt,one],zcm_ (by simp [hp,hw]),fun b hb=>?_⟩
 ·simp only [hp,hw,Array.getElem?_push];rw [if_neg (by omega)]
 ·right;simp only [one] at hb;split at hb<;>simp_all
theorem St.keep {W0 w w':World} {H:Heap} {L:List za_} (h:St W0 H w L) (env:EnvOk W0 w') (hw:w'.heap=w.heap):St W0 H w' L:=
 have e:hp w'=hp w:=by unfold hp;rw [hw]
 ⟨env,e▸h.ro,e▸h.own⟩
theorem EnvOk.of {W0 w w':World} (h:EnvOk W0 w) (h1:w'.os=w.os) (h2:w'.tape=w.tape) (h3:w'.output=w.output):EnvOk W0 w':=⟨h1.trans h.os,h2.trans h.tape,h3.trans h.output⟩
theorem St.freeze {W0 w:World} {H:Heap} {b:Nat} {o:Obj} {R:List za_} (h:St W0 H w (pt b o::R)):H b=none∧St W0 (upd H b o) w R:=by
 obtain ⟨hA,hR,a,r,d,dA,dR,lA,lR⟩:=h.parts;refine ⟨h.ptRead.2,h.env,fun x u hx=>?_,hR,r,lR,fun x=>?_⟩
 ·simp only [upd] at hx;split at hx
  ·rename_i e;subst e;cases hx;exact h.ptRead.1
  ·exact h.ro x u hx
 ·by_cases e:x=b
  ·subst e;right;rcases d x with y | y;rw [show hA x=some o from a] at y;cases y;exact y
  ·simp only [upd,e,if_false];exact dR x
end Go.Sx
namespace Go.Sx
open Go
class TSz (P:Program) (t:TypeId) (n:outParam Nat):Prop where
  run:∀w,(sizeOf t).run P w= .ok n w
class TAgg (P:Program) (t:TypeId) (b:outParam Bool):Prop where
  run:∀w,(isAgg t).run P w= .ok b w
class TSl (P:Program) (t:TypeId) (e:outParam TypeId):Prop where
  und:P.underlying t=some (.slice e)
class TFd (P:Program) (s:TypeId) (f:Nat) (off:outParam Nat) (ft:outParam TypeId):Prop where
  ex:∃fs fd,P.underlying s=some (.struct fs)∧fs[f]?=some fd∧fd.offset=off∧fd.type=ft∧∀w,∃k,(sizeOf fd.type).run P w= .ok (k+1) w
class TZ (P:Program) (t:TypeId) (z:outParam Value):Prop where
  run:∀w,(zeroValue t).run P w= .ok z w
class TZL (P:Program) (t:TypeId) (cs:outParam (List Value)):Prop where
  ex:∃z,(∀w,(zeroValue t).run P w= .ok z w)∧z.cells=cs.toArray
class TIn (P:Program) (t:TypeId) (n bytes:outParam Nat) (z:outParam Value):Prop where
  ex:∃i,P.info? t=some i∧i.size=n∧i.bytes=bytes∧i.zero=some z∧z.cells.size=n∧0<n
class TIt (P:Program) (t:TypeId) (k:outParam IntKind):Prop where
  und:P.underlying t=some (.int k)
class TSt (P:Program) (t:TypeId):Prop where
  und:P.underlying t=some .string
class TFn (P:Program) (f:FuncId):Prop where
  run:∀args w,(callFunc f args).run P w= .ok (.enter f args) w
def row (b:Nat) (T:TypeId) (cs:List Value):za_:=pt b (.cells cs.toArray T (0,0))
def hcell (H:Heap) (b off:Nat):Option Value:=match H b with | some (.cells c _ _)=>c[off]? | _=>none
def HRow (H:Heap) (b off:Nat) (cs:List Value):Prop:=∀j v,cs[j]?=some v→hcell H b (off+j)=some v
theorem Qcx_ {H H':Heap} (h:H.le H') {b off:Nat} {v:Value} (hc:hcell H b off=some v):hcell H' b off=some v:=by
 unfold hcell at*
 cases hb:H b with
 | none=>rw [hb] at hc;cases hc
 | some o=>rw [hb] at hc;rw [h b o hb];exact hc
theorem HRow.mono {H H':Heap} (h:H.le H') {b off:Nat} {cs:List Value} (hr:HRow H b off cs):HRow H' b off cs:=fun j v hj=>Qcx_ h (hr j v hj)
theorem St.hcell {W0 w:World} {H:Heap} {L:List za_} (h:St W0 H w L) {b off:Nat} {v:Value} (hc:hcell H b off=some v):w.cell? ⟨b,off,none⟩=some v:=by
 unfold Sx.hcell at hc
 cases hb:H b with
 | none=>rw [hb] at hc;cases hc
 | some o=>
  rw [hb] at hc;have:=h.ro b o hb;simp only [hp] at this
  cases o<;>simp_all [World.cell?]
theorem St.rowCell {W0 w:World} {H:Heap} {b off:Nat} {T:TypeId} {cs:List Value} {R:List za_} (h:St W0 H w (row b T cs::R)):w.cell? ⟨b,off,none⟩=cs[off]?:=by
 have:=h.ptRead.1;simp [World.cell?,this]
theorem St.rowFree {W0 w:World} {H:Heap} {b off:Nat} {T:TypeId} {cs:List Value} {R:List za_} (h:St W0 H w (row b T cs::R)):w.frozen? ⟨b,off,none⟩=false:=by
 have:=h.ptRead.1;simp [World.frozen?,this]
def Sat (n:Nat) (W0:World) (F:zd_) (H:Heap) (L:List za_) (G:Act→World→Prop):Prop:=∀a w,FrOk n a F→St W0 H w L→G a w
def OpW (P:Program) (n:Nat) (W0:World) (o:Oper) (F:zd_) (H:Heap) (L:List za_) (K:Value→Heap→List za_→Prop):Prop:=
  ∀a w (next:Act→World→Prop) (Q:Exit→Act→World→Prop),FrOk n a F→St W0 H w L→
    (∀v H' L' w',H.le H'→K v H' L'→St W0 H' w' L'→next (a.put o.dst v) w')→o.wp P a w next Q
structure OpP (P:Program) (n:Nat) (W0:World) (o:Oper) (F:zd_) (H:Heap) (L:List za_) (v:Value):Prop where
  run:∀a w,FrOk n a F→St W0 H w L→(execOp a.eval o).run P w= .ok (.value v) w
section
variable {P:Program} {n:Nat} {W0:World} {F:zd_} {H:Heap} {L:List za_} {K:Value→Heap→List za_→Prop} {o:Oper}
theorem Sat.sub {L':List za_} {F':zd_} {G:Act→World→Prop} (h:Sat n W0 F' H L' G) (hs:Sub L L') (hf:fsub F' F):Sat n W0 F H L G:=
 fun a w hF hS=>h a w (hF.sub hf) (hS.sub hs)
theorem OpW.of_run (h:∀a w,FrOk n a F→St W0 H w L→∃v H' L' w',(execOp a.eval o).run P w= .ok (.value v) w'∧H.le H'∧K v H' L'∧St W0 H' w' L'):OpW P n W0 o F H L K:=by
 intro a w next Q hF hS hn;obtain ⟨v,H',L',w',hr,hl,hk,hs⟩:=h a w hF hS;unfold Oper.wp;rw [hr];exact hn v H' L' w' hl hk hs
theorem OpW.of_skip (h:∀a w,FrOk n a F→St W0 H w L→∃H' L' w',(execOp a.eval o).run P w= .ok .skip w'∧H.le H'∧K undef H' L'∧St W0 H' w' L'):OpW P n W0 o F H L K:=by
 intro a w next Q hF hS hn;obtain ⟨H',L',w',hr,hl,hk,hs⟩:=h a w hF hS;unfold Oper.wp;rw [hr];exact hn undef H' L' w' hl hk hs
theorem OpP.toW {v:Value} (h:OpP P n W0 o F H L v) (hk:K v H L):OpW P n W0 o F H L K:=
 .of_run fun a w hF hS=>⟨v,H,L,w,h.run a w hF hS,.refl _,hk,hS⟩
theorem St.weak {H':Heap} {w:World} (h:St W0 H' w L) (hl:H.le H'):St W0 H w L:=
 ⟨h.env,hl.trans h.ro,let ⟨x,a,b,c⟩:=h.own;⟨x,a,b,c.mono hl⟩⟩
theorem OpP.mono {v:Value} {H':Heap} {L':List za_} (h:OpP P n W0 o F H L v) (hl:H.le H') (hs:Sub L' L):OpP P n W0 o F H' L' v:=
 ⟨fun a w hF hS=>h.run a w hF ((hS.weak hl).sub hs)⟩
theorem OpW.mono {K':Value→Heap→List za_→Prop} (h:OpW P n W0 o F H L K) (hk:∀v H' L',H.le H'→K v H' L'→K' v H' L'):OpW P n W0 o F H L K':=
 fun a w next Q hF hS hn=>h a w next Q hF hS fun v H' L' w' hl k hs=>hn v H' L' w' hl (hk v H' L' hl k) hs
end
section
variable {P:Program} {n:Nat} {W0:World} {F:zd_} {H:Heap} {L:List za_} {K:Value→Heap→List za_→Prop} {dst:Option Tmp} {ty:TypeId} {pos:String} {aft:Array Edge} {g:Option (Nat×Bool)}
theorem ZdH_ {x:Operand} {v:Value} (hx:opv F x=some v):
  OpP P n W0 ⟨dst,.move x,ty,pos,aft,g⟩ F H L v:=
 .mk fun a w hF _=>by simp [execOp,hF.opv hx]
theorem ZcR_ {x:Operand} {v:Value} (hx:opv F x=some v):
  OpP P n W0 ⟨dst,.assign x,ty,pos,aft,g⟩ F H L v:=
 .mk fun a w hF _=>by simp [execOp,hF.opv hx]
theorem qam_ {c x y:Operand} {v:Value} (hc:opv F c=some (.bool true)) (hx:opv F x=some v):
  OpP P n W0 ⟨dst,.pick c x y,ty,pos,aft,g⟩ F H L v:=
 .mk fun a w hF _=>by simp [execOp,hF.opv hc,hF.opv hx,asBool]
theorem zam_ {c x y:Operand} {v:Value} (hc:opv F c=some (.bool false)) (hy:opv F y=some v):
  OpP P n W0 ⟨dst,.pick c x y,ty,pos,aft,g⟩ F H L v:=
 .mk fun a w hF _=>by simp [execOp,hF.opv hc,hF.opv hy,asBool]
theorem qdV_ {T:TypeId} {x:Operand} {v:Value} {cs:List Value} (hx:opv F x=some v) (hc:v.cells=cs.toArray) (hk:∀b,H b=none→K (.pointer (some ⟨b,0,none⟩)) H (row b T cs::L)):
  OpW P n W0 ⟨dst,.box T x,ty,pos,aft,g⟩ F H L K:=
 .of_run fun a w hF hS=>by
  have hs:St W0 H (w.alloc (.cells cs.toArray T)) (row w.heap.size T cs::L):=hS.alloc (hS.env.of rfl rfl rfl) rfl;exact ⟨_,H,_,_,by simp [execOp,hF.opv hx,Instr.box,newVar,newRow,hc],.refl _,hk _ hs.ptRead.2,hs⟩
theorem qA_ {T:TypeId} {cs:List Value} [hz:TZL P T cs] (hk:∀b,H b=none→K (.pointer (some ⟨b,0,none⟩)) H (row b T cs::L)):
  OpW P n W0 ⟨dst,.alloc T,ty,pos,aft,g⟩ F H L K:=
 .of_run fun a w hF hS=>by
  obtain ⟨z,hz1,hc⟩:=hz.ex;have hs:St W0 H (w.alloc (.cells cs.toArray T)) (row w.heap.size T cs::L):=hS.alloc (hS.env.of rfl rfl rfl) rfl;exact ⟨_,H,_,_,by simp [execOp,Instr.alloc,hz1,newVar,newRow,hc],.refl _,hk _ hs.ptRead.2,hs⟩
theorem zbW_ {x:Operand} {p:Addr} (hx:opv F x=some (.pointer (some p))):
  OpP P n W0 ⟨dst,.nilCheck x,ty,pos,aft,g⟩ F H L (.pointer (some p)):=
 .mk fun a w hF _=>by simp [execOp,hF.opv hx]
theorem qaK_ {s:TypeId} {x:Operand} {f off fo:Nat} {ft:TypeId} {b:Nat} [hf:TFd P s f fo ft] (hx:opv F x=some (.pointer (some ⟨b,off,none⟩))):
  OpP P n W0 ⟨dst,.fieldAddr s x f,ty,pos,aft,g⟩ F H L (.pointer (some ⟨b,off+fo,none⟩)):=
 .mk fun a w hF _=>by
  obtain ⟨fs,fd,hu,hfd,ho,_,hz⟩:=hf.ex;obtain ⟨k,hk⟩:=hz w;simp [execOp,hF.opv hx,Instr.fieldAt,run_underlying hu,hfd,Instr.sureAddr,fieldPlace,hk,ho,Addr.add_lit]
theorem zaf_ {t:TypeId} [ht:TAgg P t false] {w:World} {p:Addr} {v:Value} (h:w.cell? p=some v):(loadVar t p).run P w= .ok v w:=by
 simp [loadVar,ht.run,h]
theorem qT_ {t:TypeId} {k:Nat} [ht:TAgg P t true] [hz:TSz P t k] {w:World} {p:Addr} {cs:List Value} (hl:cs.length=k) (h:∀j v,cs[j]?=some v→w.cell? (p.add j)=some v):
  (loadVar t p).run P w= .ok (.agg cs.toArray) w:=by
 have:=run_loadCells_list (P:=P) w p cs h;simp [loadVar,ht.run,hz.run,←hl,this]
theorem ZaE_ {t:TypeId} {x:Operand} {b off:Nat} {T:TypeId} {cs:List Value} {v:Value} {R:List za_} [ht:TAgg P t false] (hx:opv F x=some (.pointer (some ⟨b,off,none⟩)))
  (hu:Has L (row b T cs) R) (hv:cs[off]?=some v):
  OpP P n W0 ⟨dst,.load t x,ty,pos,aft,g⟩ F H L v:=
 .mk fun a w hF hS=>by
  have h1:=(hS.sub hu.to).rowCell (off:=off);simp [execOp,hF.opv hx,Instr.loadAt,Instr.sureAddr,zaf_ (t:=t) (h1.trans hv)]
theorem ZL_ {t:TypeId} {x:Operand} {b off:Nat} {v:Value} [ht:TAgg P t false] (hx:opv F x=some (.pointer (some ⟨b,off,none⟩)))
  (hv:hcell H b off=some v):
  OpP P n W0 ⟨dst,.load t x,ty,pos,aft,g⟩ F H L v:=
 .mk fun a w hF hS=>by
  simp [execOp,hF.opv hx,Instr.loadAt,Instr.sureAddr,zaf_ (t:=t) (hS.hcell hv)]
def At (cs:List Value) (off:Nat) (vs:List Value):Prop:=∀j v,vs[j]?=some v→cs[off+j]?=some v
theorem At.whole (cs:List Value):At cs 0 cs:=fun j v h=>by simpa using h
inductive Pick:List Value→Nat→Nat→List Value→Prop
  | done {cs:List Value}:Pick cs 0 0 []
  | more {c:Value} {cs vs:List Value} {k:Nat}:Pick cs 0 k vs→Pick (c::cs) 0 (k+1) (c::vs)
  | skip {c:Value} {cs vs:List Value} {off k:Nat}:Pick cs off k vs→Pick (c::cs) (off+1) k vs
theorem Pick.at {cs vs:List Value} {off k:Nat} (h:Pick cs off k vs):At cs off vs∧vs.length=k:=by
 induction h with
 | done=>exact ⟨fun j v h=>by simp at h,rfl⟩
 | more _ ih=>exact ⟨fun j v h=>by cases j with | zero=>simpa using h | succ j=>simpa using ih.1 j v (by simpa using h),by simp [ih.2]⟩
 | skip _ ih=>exact ⟨fun j v h=>by have:=ih.1 j v h;rw [Nat.add_right_comm];simpa using this,ih.2⟩
theorem QaN_ {t:TypeId} {x:Operand} {b off k:Nat} {T:TypeId} {cs vs:List Value} {R:List za_} [ht:TAgg P t true] [hz:TSz P t k] (hx:opv F x=some (.pointer (some ⟨b,off,none⟩)))
  (hu:Has L (row b T cs) R) (hv:Pick cs off k vs):
  OpP P n W0 ⟨dst,.load t x,ty,pos,aft,g⟩ F H L (.agg vs.toArray):=
 .mk fun a w hF hS=>by
  have h1:∀j v,vs[j]?=some v→w.cell? ((⟨b,off,none⟩:Addr).add j)=some v:=fun j v hj=>by
   rw [Addr.add_lit,(hS.sub hu.to).rowCell];exact hv.at.1 j v hj
  simp [execOp,hF.opv hx,Instr.loadAt,Instr.sureAddr,qT_ (t:=t) hv.at.2 h1]
theorem Qay_ {t:TypeId} {x:Operand} {b off k:Nat} {vs:List Value} [ht:TAgg P t true] [hz:TSz P t k] (hx:opv F x=some (.pointer (some ⟨b,off,none⟩)))
  (hv:HRow H b off vs) (hl:vs.length=k):
  OpP P n W0 ⟨dst,.load t x,ty,pos,aft,g⟩ F H L (.agg vs.toArray):=
 .mk fun a w hF hS=>by
  have h1:∀j v,vs[j]?=some v→w.cell? ((⟨b,off,none⟩:Addr).add j)=some v:=fun j v hj=>by
   rw [Addr.add_lit];exact hS.hcell (hv j v hj)
  simp [execOp,hF.opv hx,Instr.loadAt,Instr.sureAddr,qT_ (t:=t) hl h1]
inductive Lay:List Value→Nat→List Value→List Value→Prop
  | done {cs:List Value}:Lay cs 0 [] cs
  | more {c v:Value} {cs cs' vs:List Value}:Lay cs 0 vs cs'→Lay (c::cs) 0 (v::vs) (v::cs')
  | skip {c:Value} {cs cs' vs:List Value} {off:Nat}:Lay cs off vs cs'→Lay (c::cs) (off+1) vs (c::cs')
theorem Lay.eq {cs vs cs':List Value} {off:Nat} (h:Lay cs off vs cs'):cs'=cs.take off++vs++cs.drop (off+vs.length)∧off+vs.length≤cs.length:=by
 induction h with
 | done=>simp
 | more _ ih=>obtain ⟨h1,h2⟩:=ih;exact ⟨by rw [h1];simp,by simpa using h2⟩
 | skip _ ih=>obtain ⟨h1,h2⟩:=ih;refine ⟨by rw [h1];simp [Nat.add_right_comm],by simp;omega⟩
theorem QbE_ {t:TypeId} {k:Nat} [hz:TSz P t k] {w:World} {b off:Nat} {T:TypeId} {cs cs' vs:List Value} {v:Value} (hb:w.heap[b]?=some (.cells cs.toArray T (0,0))) (hvc:v.cells=vs.toArray) (hl:vs.length=k)
  (h1:vs.all (·.oneCell')=true) (hlay:Lay cs off vs cs'):(storeVar t ⟨b,off,none⟩ v).run P w= .ok () (w.setRow b cs'.toArray):=by
 have hfit:=hlay.eq.2;have hst:=run_storeCells_at P b off T vs 0 cs.toArray w hb (by simpa using hfit) (by simpa using h1);simp only [Nat.add_zero] at hst;simp [storeVar,hz.run,hvc,hl,hst,hlay.eq.1]
theorem St.rowPut {w:World} {b:Nat} {T:TypeId} {cs cs':List Value} {R:List za_} (h:St W0 H w (row b T cs::R)):St W0 H (w.setRow b cs'.toArray) (row b T cs'::R):=
 h.ptWrite (h.env.of rfl rfl rfl) (setRow_heap w b _ _ T _ h.ptRead.1) fun x hx=>setRow_other w b x _ hx
theorem qds_ {t:TypeId} {x y:Operand} {b off k:Nat} {T:TypeId} {cs vs cs':List Value} {v:Value} {L':List za_} [hz:TSz P t k] (hx:opv F x=some (.pointer (some ⟨b,off,none⟩)))
  (hy:opv F y=some v) (hvc:v.cells=vs.toArray) (hl:vs.length=k) (h1:vs.all (·.oneCell')=true) (hu:Upd L (row b T cs) (row b T cs') L') (hlay:Lay cs off vs cs') (hk:K undef H L'):
  OpW P n W0 ⟨dst,.store t x y,ty,pos,aft,g⟩ F H L K:=
 .of_skip fun a w hF hS=>by
  obtain ⟨R,s1,s2⟩:=hu.split;have h0:=hS.sub s1;exact ⟨H,L',_,by simp [execOp,hF.opv hx,hF.opv hy,Instr.storeAt,Instr.sureAddr,QbE_ (t:=t) h0.ptRead.1 hvc hl h1 hlay],.refl _,hk,(h0.rowPut (cs':=cs')).sub s2⟩
end
end Go.Sx
namespace Go.Sx
open Go
section
variable {P:Program} {n:Nat} {W0:World} {F:zd_} {H:Heap} {L:List za_} {K:Value→Heap→List za_→Prop} {dst:Option Tmp} {ty:TypeId} {pos:String} {aft:Array Edge} {g:Option (Nat×Bool)}
def fits (z:Int):Prop:= -9223372036854775808≤z∧z≤9223372036854775807
theorem qX_ {z:Int} (h:fits z):IntKind.i64.wrap z=z:=by
 obtain ⟨h1,h2⟩:=h;simp [IntKind.wrap,IntKind.bits,IntKind.signed];omega
section
variable {x y:Operand} {k:IntKind} {a b:Int} {T T':TypeId}
theorem zdV_ (hx:opv F x=some (.int .i64 a)) (hy:opv F y=some (.int .i64 b)) (hf:fits (a+b)):
  OpP P n W0 ⟨dst,.binOp .add T x y T',ty,pos,aft,g⟩ F H L (.int .i64 (a+b)):=
 .mk fun _ w hF _=>by simp only [execOp,hF.opv hx,hF.opv hy];simp [go_sem,Op.intArith,qX_ hf]
theorem QdV_ (hx:opv F x=some (.int .i64 a)) (hy:opv F y=some (.int .i64 b)) (hf:fits (a - b)):
  OpP P n W0 ⟨dst,.binOp .sub T x y T',ty,pos,aft,g⟩ F H L (.int .i64 (a - b)):=
 .mk fun _ w hF _=>by simp only [execOp,hF.opv hx,hF.opv hy];simp [go_sem,Op.intArith,qX_ hf]
theorem ZdV_ (hx:opv F x=some (.int .i64 a)) (hy:opv F y=some (.int .i64 b)) (hf:fits (a*b)):
  OpP P n W0 ⟨dst,.binOp .mul T x y T',ty,pos,aft,g⟩ F H L (.int .i64 (a*b)):=
 .mk fun _ w hF _=>by simp only [execOp,hF.opv hx,hF.opv hy];simp [go_sem,Op.intArith,qX_ hf]
theorem qdI_ (hx:opv F x=some (.int k a)) (hy:opv F y=some (.int k b)):
  OpP P n W0 ⟨dst,.binOp .sub T x y T',ty,pos,aft,g⟩ F H L (.int k (k.wrap (a - b))):=
 .mk fun _ w hF _=>by simp only [execOp,hF.opv hx,hF.opv hy];simp [go_sem,Op.intArith]
theorem qdW_ (hx:opv F x=some (.int .i64 a)) (hy:opv F y=some (.int .i64 b)) (h0:0<b) (hf:fits (a.tdiv b)):
  OpP P n W0 ⟨dst,.binOp .quo T x y T',ty,pos,aft,g⟩ F H L (.int .i64 (a.tdiv b)):=
 .mk fun _ w hF _=>by
  have h:b≠0:=by omega
  simp only [execOp,hF.opv hx,hF.opv hy];simp [go_sem,Op.intDiv,qX_ hf,h]
theorem zdW_ (hx:opv F x=some (.int k a)) (hy:opv F y=some (.int k b)) (h0:0<b):
  OpP P n W0 ⟨dst,.binOp .rem T x y T',ty,pos,aft,g⟩ F H L (.int k (a.tmod b)):=
 .mk fun _ w hF _=>by
  have h:b≠0:=by omega
  simp only [execOp,hF.opv hx,hF.opv hy];simp [go_sem,Op.intDiv,h]
theorem QdW_ (hx:opv F x=some (.int k a)) (hy:opv F y=some (.int k b)):
  OpP P n W0 ⟨dst,.binOp .eql T x y T',ty,pos,aft,g⟩ F H L (.bool (decide (a=b))):=
 .mk fun _ w hF _=>by simp only [execOp,hF.opv hx,hF.opv hy];simp [go_sem,BEq.beq]
theorem ZdW_ (hx:opv F x=some (.int k a)) (hy:opv F y=some (.int k b)):
  OpP P n W0 ⟨dst,.binOp .neq T x y T',ty,pos,aft,g⟩ F H L (.bool (!decide (a=b))):=
 .mk fun _ w hF _=>by simp only [execOp,hF.opv hx,hF.opv hy];simp [go_sem,bne,BEq.beq]
theorem qdX_ (hx:opv F x=some (.int k a)) (hy:opv F y=some (.int k b)):
  OpP P n W0 ⟨dst,.binOp .lss T x y T',ty,pos,aft,g⟩ F H L (.bool (decide (a<b))):=
 .mk fun _ w hF _=>by simp only [execOp,hF.opv hx,hF.opv hy];simp [go_sem]
theorem zdX_ (hx:opv F x=some (.int k a)) (hy:opv F y=some (.int k b)):
  OpP P n W0 ⟨dst,.binOp .leq T x y T',ty,pos,aft,g⟩ F H L (.bool (decide (a≤b))):=
 .mk fun _ w hF _=>by simp only [execOp,hF.opv hx,hF.opv hy];simp [go_sem]
theorem QdX_ (hx:opv F x=some (.int k a)) (hy:opv F y=some (.int k b)):
  OpP P n W0 ⟨dst,.binOp .gtr T x y T',ty,pos,aft,g⟩ F H L (.bool (decide (b<a))):=
 .mk fun _ w hF _=>by simp only [execOp,hF.opv hx,hF.opv hy];simp [go_sem]
theorem ZdX_ (hx:opv F x=some (.int k a)) (hy:opv F y=some (.int k b)):
  OpP P n W0 ⟨dst,.binOp .geq T x y T',ty,pos,aft,g⟩ F H L (.bool (decide (b≤a))):=
 .mk fun _ w hF _=>by simp only [execOp,hF.opv hx,hF.opv hy];simp [go_sem]
theorem qdY_ (hx:opv F x=some (.int .i64 a)) (hf:fits (-a)):
  OpP P n W0 ⟨dst,.unOp .neg T x,ty,pos,aft,g⟩ F H L (.int .i64 (-a)):=
 .mk fun _ w hF _=>by simp only [execOp,hF.opv hx];simp [Op.unary,Op.intArith,qX_ hf]
theorem ZbE_ {c:Bool} (hx:opv F x=some (.bool c)):
  OpP P n W0 ⟨dst,.unOp .not T x,ty,pos,aft,g⟩ F H L (.bool !c):=
 .mk fun _ w hF _=>by simp only [execOp,hF.opv hx];simp [Op.unary]
theorem zdI_ (bs:ByteArray):∀(m i:Nat) (r:List UInt8),bs.size - i=m→ByteArray.toList.loop bs i r=r.reverse++bs.data.toList.drop i:=by
 intro m
 induction m with
 | zero=>
  intro i r h;unfold ByteArray.toList.loop;have:¬i<bs.size:=by omega
  have h2:bs.data.toList.length≤i:=by simpa using (Nat.not_lt.1 this)
  simp [this,List.drop_eq_nil_of_le h2]
 | succ m ih=>
  intro i r h;unfold ByteArray.toList.loop;have hl:i<bs.size:=by omega
  have hl':i<bs.data.toList.length:=by simpa using hl
  rw [if_pos hl,ih (i+1) _ (by omega),List.drop_eq_getElem_cons hl']
  have:bs.get! i=bs.data.toList[i]:=by
   show bs.data[i]! =_;have hl2:i<bs.data.size:=hl;simp [getElem!_pos bs.data i hl2]
  simp [this]
theorem zJ_ (s:ByteArray):s.toList=s.data.toList:=by
 have:=zdI_ s s.size 0 [] (by omega);simpa [ByteArray.toList] using this
theorem Qcm_ (s t:ByteArray):(s.toList==t.toList)=decide (s=t):=by
 rw [Bool.eq_iff_iff];simp only [beq_iff_eq,decide_eq_true_eq];constructor
 ·intro h;rw [zJ_,zJ_] at h;exact ByteArray.ext (Array.ext' h)
 ·rintro rfl;rfl
theorem QdI_ {s t:ByteArray} (hx:opv F x=some (.string s)) (hy:opv F y=some (.string t)):
  OpP P n W0 ⟨dst,.binOp .eql T x y T',ty,pos,aft,g⟩ F H L (.bool (decide (s=t))):=
 .mk fun _ w hF _=>by simp only [execOp,hF.opv hx,hF.opv hy];simp [eqGuard_at_string,binOp,Op.stringOp,Qcm_]
theorem ZdI_ {s t:ByteArray} (hx:opv F x=some (.string s)) (hy:opv F y=some (.string t)):
  OpP P n W0 ⟨dst,.binOp .neq T x y T',ty,pos,aft,g⟩ F H L (.bool (!decide (s=t))):=
 .mk fun _ w hF _=>by simp only [execOp,hF.opv hx,hF.opv hy];simp [eqGuard_at_string,binOp,Op.stringOp,Qcm_]
def Zcx_ (s t:ByteArray):Bool:=Op.bytesLess s.toList t.toList
theorem qdJ_ {s t:ByteArray} (hx:opv F x=some (.string s)) (hy:opv F y=some (.string t)):
  OpP P n W0 ⟨dst,.binOp .lss T x y T',ty,pos,aft,g⟩ F H L (.bool (Zcx_ s t)):=
 .mk fun _ w hF _=>by simp only [execOp,hF.opv hx,hF.opv hy];simp [eqGuard_at_string,binOp,Op.stringOp,Zcx_]
theorem zds_ [hd:TIt P T' .i64] [hs:TIt P T k] (hx:opv F x=some (.int k a)) (hf:fits a):
  OpP P n W0 ⟨dst,.convert T T' x,ty,pos,aft,g⟩ F H L (.int .i64 a):=
 .mk fun _ w hF _=>by simp only [execOp,hF.opv hx];simp [convert,run_underlying hd.und,run_underlying hs.und,Conv.intToInt,qX_ hf]
theorem zdJ_ {k':IntKind} [hd:TIt P T' k'] [hs:TIt P T k] (hx:opv F x=some (.int k a)):
  OpP P n W0 ⟨dst,.convert T T' x,ty,pos,aft,g⟩ F H L (.int k' (k'.wrap a)):=
 .mk fun _ w hF _=>by simp only [execOp,hF.opv hx];simp [convert,run_underlying hd.und,run_underlying hs.und,Conv.intToInt]
end
section
variable {x y:Operand} {T e:TypeId}
theorem zdY_ {base:Option Addr} {m c:Nat} {at_:Array TypeId} [h:TSl P T e] (ha:at_=#[T]) (hx:opv F x=some (.slice base m c)):
  OpP P n W0 ⟨dst,.call ⟨.builtin .len,#[x],at_⟩,ty,pos,aft,g⟩ F H L (.int .i64 m):=
 .mk fun _ w hF _=>by subst ha;simp only [execOp];simp [hF.opv hx,resolve,invoke,builtin,Builtin.len_,run_underlying h.und,goInt]
theorem QdJ_ {s:ByteArray} {at_:Array TypeId} [h:TSt P T] (ha:at_=#[T]) (hx:opv F x=some (.string s)):
  OpP P n W0 ⟨dst,.call ⟨.builtin .len,#[x],at_⟩,ty,pos,aft,g⟩ F H L (.int .i64 s.size):=
 .mk fun _ w hF _=>by subst ha;simp only [execOp];simp [hF.opv hx,resolve,invoke,builtin,Builtin.len_,run_underlying h.und,goInt]
theorem qy_ {b off m c sz:Nat} {i:Int} {k:IntKind} [h:TSl P T e] [hs:TSz P e sz] (hx:opv F x=some (.slice (some ⟨b,off,none⟩) m c)) (hy:opv F y=some (.int k i))
  (h0:0≤i) (h1:i<m):
  OpP P n W0 ⟨dst,.indexAddr T x y,ty,pos,aft,g⟩ F H L (.pointer (some ⟨b,off+i.toNat*sz,none⟩)):=
 .mk fun _ w hF _=>by
  simp only [execOp,hF.opv hx,hF.opv hy];simp [Instr.indexAt,asIntOf,run_underlying h.und,hs.run,h0,h1,Addr.add_lit]
theorem qcS_ {s:ByteArray} {i:Nat} {u:UInt8} {k:IntKind} [h:TSt P T] (hx:opv F x=some (.string s)) (hy:opv F y=some (.int k i)) (hu:s[i]?=some u):
  OpP P n W0 ⟨dst,.index T x y,ty,pos,aft,g⟩ F H L (.int .u8 u.toNat):=
 .mk fun _ w hF _=>by simp only [execOp,hF.opv hx,hF.opv hy];simp [Instr.index,asIntOf,run_underlying h.und,hu]
theorem qaF_ {vs:Array Value} {i:Nat} {v:Value} (hx:opv F x=some (.tuple vs)) (hv:vs[i]?=some v):
  OpP P n W0 ⟨dst,.extract x i,ty,pos,aft,g⟩ F H L v:=
 .mk fun _ w hF _=>by simp only [execOp,hF.opv hx];simp [Instr.extract,hv]
end
end
def SQ (P:Program) (n:Nat) (W0:World) (H:Heap) (L:List za_) (ops:Array Oper) (Q:Exit→Act→World→Prop):List Oper→zd_→Prop
  | [],F=>Sat n W0 F H L (Q .normal)
  | o::r,F=>∃d v,o.dst=some d∧Nat.blt d n=true∧
      ((∀a w,FrOk n a F→St W0 H w L→Region.wanted o (yielded ops a.tmps)=true∧(execOp a.eval o).run P w= .ok (.value v) w)∨((∀a w,FrOk n a F→St W0 H w L→Region.wanted o (yielded ops a.tmps)=false)∧v=undef))∧
      SQ P n W0 H L ops Q r ((d,v)::F)
def SL (q:Bool) (P:Program) (n:Nat) (W0:World) (F:zd_) (H:Heap) (L:List za_) (ops:Array Oper) (Q:Exit→Act→World→Prop) (rest:List Oper):Prop:=
  match q with
  | false=>Sat n W0 F H L (wpList P ops Q rest)
  | true=>SQ P n W0 H L ops Q rest F
section
variable {q:Bool} {P:Program} {n:Nat} {W0:World} {F:zd_} {H:Heap} {L:List za_} {ops:Array Oper} {Q:Exit→Act→World→Prop} {rest:List Oper} {op:Op} {ty:TypeId} {pos:String} {aft:Array Edge} {d:Tmp}
theorem zcS_ (hd:Nat.blt d n=true) (h:OpW P n W0 ⟨some d,op,ty,pos,aft,none⟩ F H L (fun v H' L'=>SL false P n W0 ((d,v)::F) H' L' ops Q rest)):
  SL false P n W0 F H L ops Q (⟨some d,op,ty,pos,aft,none⟩::rest):=by
 intro a w hF hS;unfold wpList;rw [if_pos (by simp [Region.wanted])];exact .inl (h a w _ Q hF hS fun v H' L' w' _ hk hs=>hk _ _ (hF.put hd v) hs)
theorem ZdJ_ (h:OpW P n W0 ⟨none,op,ty,pos,aft,none⟩ F H L (fun _ H' L'=>SL false P n W0 F H' L' ops Q rest)):
  SL false P n W0 F H L ops Q (⟨none,op,ty,pos,aft,none⟩::rest):=by
 intro a w hF hS;unfold wpList;rw [if_pos (by simp [Region.wanted])];exact .inl (h a w _ Q hF hS fun v H' L' w' _ hk hs=>hk _ _ (hF.put0 v) hs)
def vb:Value→Option Bool | .bool b=>some b | _=>none
theorem FrOk.yielded {a:Act} (hF:FrOk n a F) {j dj:Nat} {v:Value} (hj:(ops[j]?).bind (·.dst)=some dj) (hv:fget F dj=some v):Go.yielded ops a.tmps j=vb v:=by
 have:=hF.get dj v hv;simp only [Go.yielded,hj,Option.bind_some,this]
 cases v<;>rfl
theorem Zcm_ {j dj:Nat} {want:Bool} (hj:(ops[j]?).bind (·.dst)=some dj) (hv:fget F dj=some (.bool want)) (hd:Nat.blt d n=true)
  (h:OpW P n W0 ⟨some d,op,ty,pos,aft,some (j,want)⟩ F H L (fun v H' L'=>SL false P n W0 ((d,v)::F) H' L' ops Q rest)):
  SL false P n W0 F H L ops Q (⟨some d,op,ty,pos,aft,some (j,want)⟩::rest):=by
 intro a w hF hS;unfold wpList;rw [if_pos (by simp [Region.wanted,hF.yielded hj hv,vb])];exact .inl (h a w _ Q hF hS fun v H' L' w' _ hk hs=>hk _ _ (hF.put hd v) hs)
theorem sx_p {v:Value} (hd:Nat.blt d n=true) (h:OpP P n W0 ⟨some d,op,ty,pos,aft,none⟩ F H L v) (hk:SL q P n W0 ((d,v)::F) H L ops Q rest):
  SL q P n W0 F H L ops Q (⟨some d,op,ty,pos,aft,none⟩::rest):=by
 cases q with
 | false=>exact zcS_ hd (h.toW hk)
 | true=>exact ⟨d,v,rfl,hd,.inl fun a w hF hS=>⟨by simp [Region.wanted],h.run a w hF hS⟩,hk⟩
theorem Qeh_ {v:Value} {j dj:Nat} {want:Bool} (hj:(ops[j]?).bind (·.dst)=some dj) (hv:fget F dj=some (.bool want)) (hd:Nat.blt d n=true)
  (h:OpP P n W0 ⟨some d,op,ty,pos,aft,some (j,want)⟩ F H L v) (hk:SL q P n W0 ((d,v)::F) H L ops Q rest):
  SL q P n W0 F H L ops Q (⟨some d,op,ty,pos,aft,some (j,want)⟩::rest):=by
 cases q with
 | false=>exact Zcm_ hj hv hd (h.toW hk)
 | true=>exact ⟨d,v,rfl,hd,.inl fun a w hF hS=>⟨by simp [Region.wanted,hF.yielded hj hv,vb],h.run a w hF hS⟩,hk⟩
def gno (v:Value) (want:Bool):Bool:=match v with | .bool b=>b !=want | _=>true
theorem qdK_ {j dj:Nat} {want:Bool} {v:Value} (hj:(ops[j]?).bind (·.dst)=some dj) (hv:fget F dj=some v) (hn:gno v want=true) (hd:Nat.blt d n=true)
  (h:SL q P n W0 ((d,undef)::F) H L ops Q rest):SL q P n W0 F H L ops Q (⟨some d,op,ty,pos,aft,some (j,want)⟩::rest):=by
 have hn:vb v≠some want:=by
  clear hv
  cases v<;>simp_all [gno,vb]
 cases q with
 | false=>
  intro a w hF hS;unfold wpList;rw [if_neg (by simp only [Region.wanted,hF.yielded hj hv,beq_iff_eq];exact hn)];exact h _ _ (hF.put hd undef) hS
 | true=>
  refine ⟨d,undef,rfl,hd,.inr ⟨fun a w hF hS=>?_,rfl⟩,h⟩;simp only [Region.wanted,hF.yielded hj hv,beq_eq_false_iff_ne];exact hn
theorem QdY_ (h:Sat n W0 F H L (Q .normal)):SL q P n W0 F H L ops Q []:=by cases q<;>exact h
def qp_ (n:Nat):Nat→Array Bool
  | 0=>Array.replicate n false
  | i+1=>(qp_ n i).setIfInBounds i true
def reads:Op→Bool
  | .move _ | .assign _ | .pick .. | .load .. | .nilCheck _ | .binOp .. | .unOp .. | .convert .. | .slice .. | .fieldAddr .. | .field .. | .indexAddr .. | .index .. | .extract .. | .lookup .. | .call ⟨.builtin .len,_,_⟩=>true
  | _=>false
def Zbp_ (ops:Array Oper):Bool:=
  ops.all (fun o=>reads o.op)&&Region.noSelect ops&&(List.range ops.size).all (fun i=>Region.free .any ops (qp_ ops.size i) i&&(Region.ready .any ops (qp_ ops.size i)).contains i)&&(Region.ready .any ops (qp_ ops.size ops.size)).isEmpty
theorem QbW_ (hok:Zbp_ ops=true) (hQ:∀c a w d v,Q (.panic c) (a.put (some d) v) w→Q (.panic c) a w):∀(rest:List Oper) (i:Nat) (F:zd_),i+rest.length=ops.size→(∀j,rest[j]?=ops[i+j]?)→
  SQ P n W0 H L ops Q rest F→Sat n W0 F H L (wpAnyH P .any ops Q (fun w=>St W0 H w L) rest.length (qp_ ops.size i)):=by
 unfold Zbp_ at hok;simp only [Bool.and_eq_true,List.all_eq_true,List.mem_range] at hok;obtain ⟨⟨⟨_,h1⟩,h2⟩,h3⟩:=hok;intro rest
 induction rest with
 | nil=>
  intro i F hl _ h a w hF hS;have:i=ops.size:=by simpa using hl
  subst this;exact wpAnyH_done (List.isEmpty_iff.1 h3) (h a w hF hS) 0
 | cons o r ih=>
  intro i F hl hr h a w hF hS;obtain ⟨d,v,hd,hdn,hcase,hrest⟩:=h;have hi:ops[i]?=some o:=by have:=hr 0;simpa using this.symm
  have hlt:i<ops.size:=by simp at hl;omega
  obtain ⟨hf,hc⟩:=h2 i hlt;have hnext:=ih (i+1) ((d,v)::F) (by simp at hl;omega) (fun j=>by have:=hr (j+1);rw [List.getElem?_cons_succ] at this;rw [this];congr 1;omega) hrest;refine wpAnyH_take (i:=i) (v:=v) hi h1 hf hc (by rw [hd];exact fun c a w h=>hQ c a w d v h) ?_ hS ?_
  ·rcases hcase with hcase | ⟨hcase,hv⟩
   ·exact .inl ⟨(hcase a w hF hS).1,fun w' hw'=>(hcase a w' hF hw').2⟩
   ·exact .inr ⟨hcase a w hF hS,hv⟩
  ·rw [hd];exact hnext _ _ (hF.put hdn v) hS
end
class TMix (P:Program):Prop where
  h:P.follows .mixedOrders=true
section
variable {P:Program} {n:Nat} {W0:World} {F:zd_} {H:Heap} {L:List za_} {Q:Exit→Act→World→Prop}
theorem QcS_ {id:Nat} {l:List Oper} (h:SL false P n W0 F H L l.toArray Q l):Sat n W0 F H L ((Code.region id l.toArray false).wp P Q):=fun a w hF hS=>wp_region_lit (h a w hF hS)
theorem Qds_ [hm:TMix P] {id:Nat} {l:List Oper} (hok:Zbp_ l.toArray=true) (hQ:∀c a w d v,Q (.panic c) (a.put (some d) v) w→Q (.panic c) a w) (h:SL true P n W0 F H L l.toArray Q l):
  Sat n W0 F H L ((Code.region id l.toArray true).wp P Q):=fun a w hF hS=>by
 refine wp_region_held (S:=fun w=>St W0 H w L) hm.h ?_;have:=QbW_ hok hQ l 0 F (by simp) (by simp) h a w.drew hF (hS.keep (hS.env.of rfl rfl rfl) rfl);simpa [qp_] using this
theorem zdK_ (h:Sat n W0 F H L (Q .normal)):Sat n W0 F H L (Code.skip.wp P Q):=fun a w hF hS=>wp_skip (h a w hF hS)
theorem ZdY_ (h:Sat n W0 F H L (Q .ret)):Sat n W0 F H L (Code.ret.wp P Q):=fun a w hF hS=>wp_ret (h a w hF hS)
theorem QdK_ {id:Nat} (h:Sat n W0 F H L (Q (.exit id))):Sat n W0 F H L ((Code.exit id).wp P Q):=fun a w hF hS=>wp_exit (h a w hF hS)
theorem Zds_ {id:Nat} {c:Code} (h:Sat n W0 F H L (c.wp P (Exit.inBlock id Q))):Sat n W0 F H L ((Code.block id c).wp P Q):=fun a w hF hS=>wp_block (h a w hF hS)
theorem ZbW_ {c:Operand} {x y:Code} {t:Bool} (hc:opv F c=some (.bool t)) (ht:t=true→Sat n W0 F H L (x.wp P Q)) (hf:t=false→Sat n W0 F H L (y.wp P Q)):Sat n W0 F H L ((Code.cond c x y).wp P Q):=
 fun a w hF hS=>wp_cond_split (hF.opv hc) (fun e=>ht e a w hF hS) (fun e=>hf e a w hF hS)
theorem ZdK_ {c:Code} {σ:Type} (I:σ→Prop) (mF:σ→zd_) (mH:σ→Heap) (mL:σ→List za_) (μ:σ→Nat) (s0:σ) (h0:I s0) (hs0:Sub L (mL s0)) (hf0:fsub (mF s0) F) (hh0:mH s0=H)
  (round:∀s,I s→∀K:Act→World→Prop,(∀s',I s'→μ s'<μ s→Sat n W0 (mF s') (mH s') (mL s') K)→Sat n W0 (mF s) (mH s) (mL s) (c.wp P (Exit.then K Q))):
  Sat n W0 F H L ((Code.loop c).wp P Q):=by
 subst hh0;refine Sat.sub (F':=mF s0) (L':=mL s0) (fun a w hF hS b k cs=>?_) hs0 hf0
 have key:∀m s a w,I s→μ s=m→FrOk n a (mF s)→St W0 (mH s) w (mL s)→
   ∃e a' w',Q e a' w'∧Arrives P (lone (b.at a (.code c:: .inLoop c::k)) cs w) b k cs e a' w':=by
  intro m
  induction m using Nat.strongRecOn with
  | _ m ih=>
   intro s a w hI hm hF hS;obtain ⟨e,a₁,w₁,hq,harr⟩:=round s hI (fun a' w'=>∃s',I s'∧μ s'<μ s∧FrOk n a' (mF s')∧St W0 (mH s') w' (mL s')) (fun s' hI' hs' a' w' hF' hS'=>⟨s',hI',hs',hF',hS'⟩) a w hF hS b (.inLoop c::k) cs
   cases e with
   | normal=>
    obtain ⟨s',hI',hlt,hF',hS'⟩:=hq;obtain ⟨e₂,a₂,w₂,hq₂,harr₂⟩:=ih (μ s') (hm▸hlt) s' a₁ w₁ hI' rfl hF' hS';exact ⟨e₂,a₂,w₂,hq₂,.of_steps (Steps.trans harr (.one step_inLoop)) harr₂⟩
   | exit id=>exact ⟨_,a₁,w₁,hq,.pass (x:= .inLoop c) rfl (fun _ _=> .inl (by simp)) harr⟩
   | goto l=>exact ⟨_,a₁,w₁,hq,.pass (x:= .inLoop c) rfl (fun _ _=> .inl (by simp)) harr⟩
   | ret=>exact ⟨_,a₁,w₁,hq,.pass (x:= .inLoop c) rfl (fun _ _=> .inl (by simp)) harr⟩
   | panic ch=>exact ⟨_,a₁,w₁,hq,.pass (x:= .inLoop c) rfl (fun _ _=> .inl (by simp)) harr⟩
   | outgrown=>exact ⟨_,a₁,w₁,hq,.pass (x:= .inLoop c) rfl (fun _ _=> .inl (by simp)) harr⟩
 obtain ⟨e,a',w',hq,harr⟩:=key _ s0 a w h0 rfl hF hS;exact ⟨e,a',w',hq,.of_steps (.one step_loop) harr⟩
end
end Go.Sx
namespace Go.Sx
open Go
def Ct (P:Program) (f:FuncId) (vs:Array Value) (W0:World) (H:Heap) (A:List za_) (Post:Value→Heap→List za_→Prop):Prop:=
  ∀w R,St W0 H w (A++R)→Calls P f vs w fun e w'=>∃r H' B,e= .returned r∧H.le H'∧Post r H' B∧St W0 H' w' (B++R)
theorem Ct.mono {P:Program} {f:FuncId} {vs:Array Value} {W0:World} {H:Heap} {A:List za_} {Post Post':Value→Heap→List za_→Prop} (h:Ct P f vs W0 H A Post)
  (hp:∀r H' B,H.le H'→Post r H' B→Post' r H' B):Ct P f vs W0 H A Post':=
 fun w R hS=>(h w R hS).mono fun _ _ ⟨r,H',B,a,b,c,d⟩=>⟨r,H',B,a,b,hp r H' B b c,d⟩
inductive Args (F:zd_):List Operand→List Value→Prop
  | nil:Args F [] []
  | cons {x:Operand} {v:Value} {l:List Operand} {vs:List Value}:opv F x=some v→Args F l vs→Args F (x::l) (v::vs)
theorem Args.eval {n:Nat} {F:zd_} {l:List Operand} {vs:List Value} (h:Args F l vs) {a:Act} (hF:FrOk n a F):l.map a.eval=vs:=by
 induction h with
 | nil=>rfl
 | cons hx _ ih=>simp [hF.opv hx,ih]
inductive Params:Nat→List Value→zd_→Prop
  | nil {i:Nat}:Params i [] []
  | cons {i:Nat} {v:Value} {vs:List Value} {F:zd_}:Params (i+1) vs F→Params i (v::vs) ((i,v)::F)
def qbF_ (W0:World) (H:Heap) (Post:Value→Heap→List za_→Prop) (R:List za_):Ending→World→Prop:=
  fun e w'=>∃r H' B,e= .returned r∧H.le H'∧Post r H' B∧St W0 H' w' (B++R)
section
variable {P:Program} {n:Nat} {W0:World} {F:zd_} {H:Heap} {L:List za_} {K:Value→Heap→List za_→Prop} {dst:Option Tmp} {ty:TypeId} {pos:String} {aft:Array Edge} {g:Option (Nat×Bool)}
theorem qcn_ {f:FuncId} {x:Operand} {l:List Operand} {at_:Array TypeId} {vs cap fst:List Value} {A R:List za_} {Post:Value→Heap→List za_→Prop} [hf:TFn P f]
  (hx:opv F x=some (.func (.func f) fst.toArray cap.toArray)) (ha:Args F l vs)
  (hs:Ct P f (fst++vs++cap).toArray W0 H A Post) (ht:Take L A R) (hk:∀r H' B,H.le H'→Post r H' B→K r H' (B++R)):
  OpW P n W0 ⟨dst,.call ⟨.value x,l.toArray,at_⟩,ty,pos,aft,g⟩ F H L K:=by
 intro a w next Q hF hS hn
 have hr:(execOp a.eval ⟨dst,.call ⟨.value x,l.toArray,at_⟩,ty,pos,aft,g⟩).run P w= .ok (.enter f (fst++vs++cap).toArray) w:=by
  have hm:=ha.eval hF;simp only [execOp,resolve,hF.opv hx];simp [Deferred.ofValue,invoke,hf.run,hm]
 unfold Oper.wp;rw [hr,Oper.upon_enter];refine (hs w R (hS.sub ht.to)).mono ?_;rintro e w' ⟨r,H',B,rfl,hl,hp,hs'⟩;exact hn r H' (B++R) w' hl (hk r H' B hl hp) hs'
theorem ZaV_ {f:FuncId} {l:List Operand} {at_:Array TypeId} {vs:List Value} {A R:List za_} {Post:Value→Heap→List za_→Prop} [hf:TFn P f] (ha:Args F l vs)
  (hs:Ct P f vs.toArray W0 H A Post) (ht:Take L A R) (hk:∀r H' B,H.le H'→Post r H' B→K r H' (B++R)):
  OpW P n W0 ⟨dst,.call ⟨.value (.func f),l.toArray,at_⟩,ty,pos,aft,g⟩ F H L K:=
 qcn_ (fst:=[]) (cap:=[]) (x:= .func f) rfl ha (by simpa using hs) ht hk
end
section
variable {P:Program} {n:Nat} {W0:World} {F:zd_} {H H0:Heap} {L:List za_} {Q:Exit→Act→World→Prop}
theorem Ct.of_body {f:FuncId} {fn:Func} {c:Code} {vs:List Value} {A:List za_} {Post:Value→Heap→List za_→Prop} (hf:P.funcs[f]?=some fn) (hb:fn.body=some c) (hn:fn.ntmps=n)
  (hF:Params 0 vs F) (hl:Nat.ble vs.length n=true) (h:∀R,Sat n W0 F H (A++R) (c.wp P (bodyPost P fn (qbF_ W0 H Post R)))):Ct P f vs.toArray W0 H A Post:=by
 intro w R hS;refine calls_of_wp hf hb (h R _ w ?_ hS);have hl':vs.length≤n:=by simpa using hl
 refine ⟨by simp [hn];omega,rfl,?_⟩
 have key:∀i vs F,Params i vs F→∀t v,fget F t=some v→i≤t∧vs[t - i]?=some v:=by
  intro i vs F hp
  induction hp with
  | nil=>intro t v h;simp [fget] at h
  | @cons i v vs F _ ih=>
   intro t u h;rw [qJ_] at h;by_cases e:i=t
   ·subst e;simp at h;subst h;simp
   ·simp only [e,if_false] at h;have h1:=ih t u h;refine ⟨by omega,?_⟩;have h2:t - i=(t - (i+1))+1:=by omega
    rw [h2];simpa using h1.2
 intro t v ht;have h1:=key 0 vs F hF t v ht;have h2:vs[t]?=some v:=by simpa using h1.2
 have h3:t<vs.length:=(List.getElem?_eq_some_iff.1 h2).1;rw [Array.getElem?_append];have h4:vs[t]=v:=by rw [List.getElem?_eq_getElem h3] at h2;exact Option.some.inj h2
 simp [h3,h4]
inductive ResR (P:Program) (F:zd_) (L:List za_):List ResultVar→List Value→Prop
  | nil:ResR P F L [] []
  | tmp {t:Tmp} {v:Value} {rs:List ResultVar} {vs:List Value}:fget F t=some v→ResR P F L rs vs→ResR P F L (.tmp t::rs) (v::vs)
  | cell1 {a:Tmp} {t T:TypeId} {b off:Nat} {cs:List Value} {v:Value} {R:List za_} {rs:List ResultVar} {vs:List Value}:TAgg P t false→fget F a=some (.pointer (some ⟨b,off,none⟩))→
      Has L (row b T cs) R→cs[off]?=some v→ResR P F L rs vs→ResR P F L (.cell a t::rs) (v::vs)
  | cellN {a:Tmp} {t T:TypeId} {k b off:Nat} {cs us:List Value} {R:List za_} {rs:List ResultVar} {vs:List Value}:TAgg P t true→TSz P t k→fget F a=some (.pointer (some ⟨b,off,none⟩))→
      Has L (row b T cs) R→Pick cs off k us→ResR P F L rs vs→ResR P F L (.cell a t::rs) (.agg us.toArray::vs)
def tup:List Value→Value
  | [v]=>v
  | vs=> .tuple vs.toArray
def zbF_ (tmps:Array Value):ResultVar→Sem Value
  | .tmp t=>pure (tmps.getD t undef)
  | .cell x t=>do loadVar t (←asAddr (tmps.getD x undef))
theorem ResR.run {rs:List ResultVar} {vs:List Value} (h:ResR P F L rs vs) {a:Act} {w:World} (hF:FrOk n a F) (hS:St W0 H w L):
  (rs.mapM (zbF_ a.tmps)).run P w= .ok vs w:=by
 induction h with
 | nil=>rfl
 | @tmp t v rs vs ht _ ih=>
  have h0:(zbF_ a.tmps (.tmp t)).run P w= .ok v w:=by simp [zbF_,hF.get _ _ ht]
  simp [List.mapM_cons,h0,ih]
 | @cell1 x t T b off cs v R rs vs hT hx hu hv _ ih=>
  have h1:=(hS.sub hu.to).rowCell (off:=off);haveI:=hT;have h0:(zbF_ a.tmps (.cell x t)).run P w= .ok v w:=by simp [zbF_,hF.get _ _ hx,asAddr,zaf_ (t:=t) (h1.trans hv)]
  simp [List.mapM_cons,h0,ih]
 | @cellN x t T k b off cs us R rs vs hT hz hx hu hv _ ih=>
  haveI:=hT;haveI:=hz
  have h1:∀j v,us[j]?=some v→w.cell? ((⟨b,off,none⟩:Addr).add j)=some v:=fun j v hj=>by
   rw [Addr.add_lit,(hS.sub hu.to).rowCell];exact hv.at.1 j v hj
  have h0:(zbF_ a.tmps (.cell x t)).run P w= .ok (.agg us.toArray) w:=by simp [zbF_,hF.get _ _ hx,asAddr,qT_ (t:=t) hv.at.2 h1]
  simp [List.mapM_cons,h0,ih]
theorem qaW_ {fn:Func} {rs:List ResultVar} {vs:List Value} {v:Value} (hfn:fn.results=rs.toArray) (h:ResR P F L rs vs) (hv:tup vs=v) {a:Act} {w:World} (hF:FrOk n a F) (hS:St W0 H w L):
  (results fn a.tmps).run P w= .ok v w:=by
 have:=h.run hF hS;subst hv
 have e:results fn a.tmps=(do let vs←fn.results.mapM (zbF_ a.tmps);pure (if h:vs.size=1 then vs[0] else .tuple vs)):=by
  unfold results;congr 1
 rw [e,hfn,List.mapM_toArray];simp only [Sem.run_bind,Sem.run_map,this,Result.andThen_ok,Sem.run_pure]
 match vs with
 | []=>rfl
 | [v]=>rfl
 | v::u::r=>simp [tup]
theorem ZcS_ {fn:Func} {Post:Value→Heap→List za_→Prop} {R B:List za_} {rs:List ResultVar} {vs:List Value} {v:Value} (hfn:fn.results=rs.toArray) (hr:ResR P F L rs vs) (hv:tup vs=v)
  (hl:H0.le H) (hp:Post v H B) (hs:Sub L (B++R)):Sat n W0 F H L (bodyPost P fn (qbF_ W0 H0 Post R) .ret):=
 fun _ _ hF hS=>⟨hF.defs,v,qaW_ hfn hr hv hF hS,v,H,B,rfl,hl,hp,hS.sub hs⟩
theorem qcT_ {fn:Func} {Post:Value→Heap→List za_→Prop} {R B:List za_} {rs:List ResultVar} {vs:List Value} {v:Value} (hfn:fn.results=rs.toArray) (hr:ResR P F L rs vs) (hv:tup vs=v)
  (hl:H0.le H) (hp:Post v H B) (hs:Sub L (B++R)):Sat n W0 F H L (bodyPost P fn (qbF_ W0 H0 Post R) .normal):=
 fun _ _ hF hS=>⟨hF.defs,v,qaW_ hfn hr hv hF hS,v,H,B,rfl,hl,hp,hS.sub hs⟩
end
section
variable {n:Nat} {W0:World} {F:zd_} {H:Heap} {L:List za_} {K:Act→World→Prop} {Q:Exit→Act→World→Prop}
theorem qdL_ {id:Nat} (h:Sat n W0 F H L (Q .normal)):Sat n W0 F H L (Exit.inBlock id Q (.exit id)):=fun a w hF hS=>by
 simp only [Exit.inBlock,if_true];exact h a w hF hS
theorem zdL_ {id id':Nat} (hne:Nat.beq id' id=false) (h:Sat n W0 F H L (Q (.exit id'))):Sat n W0 F H L (Exit.inBlock id Q (.exit id')):=fun a w hF hS=>by
 have:id'≠id:=by intro e;subst e;simp at hne
 simp only [Exit.inBlock,this,if_false];exact h a w hF hS
end
def zaF_ (m:Nat) (listed:Array Bool):Bool:=(List.range m).all fun k=>listed.getD k false
def anc (ops:Array Oper):Nat→Nat→Nat→Bool
  | 0,_,_=>false
  | f+1,j,i=>match ops[j]? with
    | some o=>(o.after.any fun e=>Region.binds .any e&&e.on==i) || o.after.any fun e=>Region.binds .any e&&anc ops f e.on i
    | none=>false
def ZaN_ (ops:Array Oper) (m:Nat) (listed:Array Bool):Bool:=(List.range ops.size).all fun j=>Nat.blt j m || listed.getD j true || (List.range m).all fun i=>listed.getD i true || anc ops ops.size j i
theorem Qap_ {listed:Array Bool} {j k:Nat} (h:listed.getD k true=true):(listed.setIfInBounds j true).getD k true=true:=by
 by_cases hjk:j=k
 ·subst hjk;rcases Nat.lt_or_ge j listed.size with h' | h'
  ·simp [h']
  ·simp
 ·simpa [Array.getElem?_setIfInBounds,hjk] using h
theorem QbF_ {ops:Array Oper} {m j:Nat} {listed:Array Bool} (h:ZaN_ ops m listed=true):ZaN_ ops m (listed.setIfInBounds j true)=true:=by
 refine List.all_eq_true.2 fun k hk=>?_;have h1:=(List.all_eq_true.1 h) k hk;simp only [Bool.or_eq_true] at h1⊢;rcases h1 with (h1 | h1) | h1
 ·exact .inl (.inl h1)
 ·exact .inl (.inr (Qap_ h1))
 ·refine .inr (List.all_eq_true.2 fun i hi=>?_);have h2:=(List.all_eq_true.1 h1) i hi;simp only [Bool.or_eq_true] at h2⊢;exact h2.imp Qap_ id
def Qam_ (ops:Array Oper) (listed:Array Bool):Bool:=(List.range ops.size).all fun j=> !(listed.getD j false) || match ops[j]? with
    | some o=>o.after.all fun e=> !Region.binds .any e || listed.getD e.on false
    | none=>true
theorem zaW_ {ops:Array Oper} {listed:Array Bool} (h:Qam_ ops listed=true) {j:Nat} {o:Oper} (hj:ops[j]?=some o) (hl:listed.getD j false=true) (e:Edge) (he:e∈o.after) (hb:Region.binds .any e=true):listed.getD e.on false=true:=by
 have hjs:j<ops.size:=(Array.getElem?_eq_some_iff.1 hj).1;have:=(List.all_eq_true.1 h) j (List.mem_range.2 hjs);simp only [hl,hj,Bool.not_true,Bool.false_or] at this;obtain ⟨k,hk,rfl⟩:=Array.getElem_of_mem he;have:=(Array.all_eq_true.1 this) k hk;simpa [hb] using this
theorem zcT_ {ops:Array Oper} {listed:Array Bool} (h:∀(j:Nat) (o:Oper),ops[j]?=some o→listed.getD j false=true→∀e∈o.after,Region.binds .any e=true→listed.getD e.on false=true):Qam_ ops listed=true:=by
 refine List.all_eq_true.2 fun j hj=>?_
 cases hl:listed.getD j false with
 | false=>rfl
 | true=>
  have hjs:j<ops.size:=List.mem_range.1 hj;simp only [Array.getElem?_eq_getElem hjs,Bool.not_true,Bool.false_or];refine Array.all_eq_true.2 fun k hk=>?_
  cases hb:Region.binds .any (ops[j].after[k]) with
  | false=>rfl
  | true=>simpa using h j _ (Array.getElem?_eq_getElem hjs) hl _ (Array.getElem_mem hk) hb
theorem qdt_ {ops:Array Oper} {listed:Array Bool} (h:Qam_ ops listed=true):∀(f j i:Nat),anc ops f j i=true→(∀o,ops[j]?=some o→∀e∈o.after,Region.binds .any e=true→listed.getD e.on false=true)→listed.getD i false=true:=by
 intro f
 induction f with
 | zero=>intro j i ha;simp [anc] at ha
 | succ f ih=>
  intro j i ha hd;unfold anc at ha
  cases hj:ops[j]? with
  | none=>simp [hj] at ha
  | some o=>
   simp only [hj,Bool.or_eq_true] at ha;rcases ha with ha | ha
   ·obtain ⟨k,hk,hk2⟩:=Array.any_eq_true.1 ha;simp only [Bool.and_eq_true,beq_iff_eq] at hk2;have hl:=hd o hj _ (Array.getElem_mem hk) hk2.1;rw [←hk2.2];exact hl
   ·obtain ⟨k,hk,hk2⟩:=Array.any_eq_true.1 ha;simp only [Bool.and_eq_true] at hk2;have hl:=hd o hj _ (Array.getElem_mem hk) hk2.1;exact ih _ i hk2.2 fun o' ho' e' he' hb'=>zaW_ h ho' hl e' he' hb'
section
variable {P:Program} {ops:Array Oper} {Q:Exit→Act→World→Prop} {S:World→Prop} {m:Nat}
def wpP (P:Program) (ops:Array Oper) (Q:Exit→Act→World→Prop) (S:World→Prop) (m:Nat):Nat→Array Bool→Act→World→Prop
  | 0,listed,a,w=>wpAny P .any ops Q 0 listed a w
  | fuel+1,listed,a,w=>
    if zaF_ m listed then wpAny P .any ops Q (fuel+1) listed a w else
    (Region.ready .any ops listed=[]→Q .normal a w)∧
    ∀i∈Region.ready .any ops listed,wpOp P ops Q i (fun a' w'=>S w'∧wpP P ops Q S m fuel (listed.setIfInBounds i true) a' w') a w
theorem QaF_:∀(fuel:Nat) (listed:Array Bool) (a:Act) (w:World),wpP P ops Q S m fuel listed a w→wpAny P .any ops Q fuel listed a w
 | 0,_,_,_,h=>h
 | fuel+1,listed,a,w,h=>by
  unfold wpP at h;split at h
  ·exact h
  ·exact ⟨h.1,fun i hi=>wpOp_mono (fun a' w' h'=>QaF_ fuel _ a' w' h'.2) (h.2 i hi)⟩
theorem QcT_ {listed:Array Bool} {i:Nat} (hi:i<m) (hl:listed.getD i true=false):zaF_ m listed=false:=by
 have:listed.getD i false=false:=by
  rcases Nat.lt_or_ge i listed.size with h | h
  ·simp [h] at hl⊢;exact hl
  ·simp [Array.getElem?_eq_none h]
 simp only [zaF_,List.all_eq_false];exact ⟨i,List.mem_range.2 hi,by simp [this]⟩
theorem Qaf_ {i:Nat} {oi:Oper} {v:Value} (hi:ops[i]?=some oi) (him:i<m) (hsel:∀(j:Nat) (o:Oper) cs b,ops[j]?=some o→o.op≠.select cs b)
    (hQ:∀c a w,Q (.panic c) (a.put oi.dst v) w→Q (.panic c) a w):
    ∀(fuel:Nat) (listed:Array Bool) (a:Act) (w:World),ZaN_ ops m listed=true→Qam_ ops listed=true→
      (∀j oj,ops[j]?=some oj→j≠i→listed.getD j true=false→(∀e∈oj.after,Region.binds .any e=true→e.on≠i)→oi.apart ops oj=true)→
      i∈Region.ready .any ops listed→YieldsIf P ops S oi v a→S w→
      wpP P ops Q S m fuel (listed.setIfInBounds i true) (a.put oi.dst v) w→wpP P ops Q S m (fuel+1) listed a w:=by
  intro fuel
  induction fuel with
  | zero=>
    intro listed a w hbar _ _ hr hy hS H;have hnp:=QcT_ him (mem_ready.1 hr).1;unfold wpP;rw [if_neg (by simp [hnp])];refine ⟨fun h=>(by rw [h] at hr;cases hr),fun j hj=>?_⟩;by_cases hji:j=i
    · subst hji;exact hy.wpOp hi hS ⟨hS,H⟩
    · have:=ready_mono hj hji;rw [(show wpAny P .any ops Q 0 _ _ _ from H).1] at this
      cases this
  | succ fuel ih=>
    intro listed a w hbar hcl hfree hr hy hS H;have hnp:=QcT_ him (mem_ready.1 hr).1;unfold wpP;rw [if_neg (by simp [hnp])];refine ⟨fun h=>(by rw [h] at hr;cases hr),fun j hj=>?_⟩;by_cases hji:j=i
    · subst hji;exact hy.wpOp hi hS ⟨hS,H⟩
    · obtain ⟨hjun,oj,hoj,hall⟩:=mem_ready.1 hj
      have hnot:∀e∈oj.after,Region.binds .any e=true→e.on≠i:=fun e he hb heq=>by
        have h1:=hall e he hb;have h0:=(mem_ready.1 hr).1;rw [heq] at h1;rcases Nat.lt_or_ge i listed.size with h' | h'
        · simp [h'] at h0 h1;rw [h0] at h1;cases h1
        · simp [Array.getElem?_eq_none h'] at h1
      by_cases hdone:zaF_ m (listed.setIfInBounds i true)=true
      · -- all others of the first m are done: nothing else may come up
        exfalso;by_cases hjm:j<m
        · have h3:=(List.all_eq_true.1 hdone) j (List.mem_range.2 hjm);have h4:listed.getD j false=true:=by rw [getD_set_ne false (Ne.symm hji)] at h3;exact h3
          rcases Nat.lt_or_ge j listed.size with h' | h'
          · simp [h'] at hjun h4;rw [hjun] at h4;cases h4
          · simp [Array.getElem?_eq_none h'] at h4
        · have hjs:j<ops.size:=(Array.getElem?_eq_some_iff.1 hoj).1;have hb:=(List.all_eq_true.1 hbar) j (List.mem_range.2 hjs);simp only [Bool.or_eq_true,Nat.blt_eq] at hb;rcases hb with (hb | hb) | hb
          · exact hjm hb
          · rw [hjun] at hb;cases hb
          · have hb:=(List.all_eq_true.1 hb) i (List.mem_range.2 him);rw [(mem_ready.1 hr).1,Bool.false_or] at hb
            have h3:=qdt_ hcl _ j i hb fun o ho e he hbe=>by
              rw [hoj] at ho;cases ho;have:=hall e he hbe;exact this
            have h0:=(mem_ready.1 hr).1;rcases Nat.lt_or_ge i listed.size with h' | h'
            · simp [h'] at h0 h3;rw [h3] at h0;cases h0
            · simp [Array.getElem?_eq_none h'] at h3
      · unfold wpP at H;rw [if_neg hdone] at H;have h1:=H.2 j (ready_mono hj hji);have h2:=wpOp_putIf hoj (hfree j oj hoj hji hjun hnot) (fun cs b=>hsel i oi cs b hi) (fun cs b=>hsel j oj cs b hoj) hQ hy h1
        have hfree':∀k ok,ops[k]?=some ok→k≠i→(listed.setIfInBounds j true).getD k true=false→
            (∀e∈ok.after,Region.binds .any e=true→e.on≠i)→oi.apart ops ok=true:=fun k ok hk hki hun hno=>by
          refine hfree k ok hk hki ?_ hno;by_cases hjk:j=k
          · subst hjk;exact hjun
          · rw [getD_set_ne true hjk] at hun;exact hun
        have hcl':Qam_ ops (listed.setIfInBounds j true)=true:=zcT_ fun k o hk hl e he hb=>by
          by_cases hjk:j=k
          · subst hjk;rw [hoj] at hk;cases hk;exact getD_set_true (hall e he hb)
          · rw [getD_set_ne false hjk] at hl;exact getD_set_true (zaW_ hcl hk hl e he hb)
        refine wpOp_mono (fun a' w' h3=>⟨h3.2.1,ih (listed.setIfInBounds j true) a' w' (QbF_ hbar) hcl' hfree' (ready_mono hr (Ne.symm hji)) h3.1 h3.2.1 ?_⟩) h2;rw [Array.setIfInBounds_comm _ _ hji];exact h3.2.2
end
def Ql_ (ops:Array Oper) (m:Nat) (listed:Array Bool) (i:Nat):Bool:=
  Region.noSelect ops&&Region.free .any ops listed i&&(Region.ready .any ops listed).contains i&&ZaN_ ops m listed&&Nat.blt i m&&Qam_ ops listed
def ZcT_ (ops:Array Oper) (m:Nat) (listed:Array Bool):Bool:=
  (listed==qp_ ops.size m)&&(List.range ops.size).all (fun i=>Nat.blt i m || (Region.ready .any ops (qp_ ops.size i)==[i]))&&(Region.ready .any ops (qp_ ops.size ops.size)).isEmpty
section
variable {P:Program} {n:Nat} {W0:World} {F:zd_} {H H0:Heap} {L L0:List za_} {Q:Exit→Act→World→Prop} {ops:Array Oper} {fuel m:Nat} {listed:Array Bool}
def Any (P:Program) (W0:World) (H0:Heap) (L0:List za_) (m:Nat) (ops:Array Oper) (Q:Exit→Act→World→Prop) (fuel:Nat) (listed:Array Bool):Act→World→Prop:=
  wpP P ops Q (fun w=>St W0 H0 w L0) m fuel listed
theorem qcU_ [hm:TMix P] {id:Nat} {l:List Oper} (m:Nat) (L0:List za_) (h:Sat n W0 F H L (Any P W0 H L0 m l.toArray Q l.length (Array.replicate l.length false))):
  Sat n W0 F H L ((Code.region id l.toArray true).wp P Q):=fun a w hF hS=>by
 refine wp_region_any hm.h (QaF_ _ _ _ _ (S:=fun w=>St W0 H w L0) (m:=m) ?_);have:=h a w.drew hF (hS.keep (hS.env.of rfl rfl rfl) rfl);simpa [Any] using this
theorem zdt_ (i:Nat) {d:Tmp} {op:Op} {ty:TypeId} {pos:String} {aft:Array Edge} {v:Value} (hi:ops[i]?=some ⟨some d,op,ty,pos,aft,none⟩) (hok:Ql_ ops m listed i=true)
  (hQ:∀c a w,Q (.panic c) (a.put (some d) v) w→Q (.panic c) a w) (hl:H0.le H) (hsub:Sub L L0) (hd:Nat.blt d n=true)
  (hv:OpP P n W0 ⟨some d,op,ty,pos,aft,none⟩ F H0 L0 v)
  (h:Sat n W0 ((d,v)::F) H L (Any P W0 H0 L0 m ops Q fuel (listed.setIfInBounds i true))):Sat n W0 F H L (Any P W0 H0 L0 m ops Q (fuel+1) listed):=fun a w hF hS=>by
 simp only [Ql_,Bool.and_eq_true,Nat.blt_eq] at hok;obtain ⟨⟨⟨⟨⟨h1,h2⟩,h3⟩,h4⟩,h5⟩,h6⟩:=hok;exact Qaf_ hi h5 (Region.noSelect_spec h1) hQ fuel listed a w h4 h6 (Region.free_spec hi h2) (by simpa using h3) (.inl ⟨by simp [Region.wanted],fun w' hw'=>hv.run a w' hF hw'⟩) ((hS.weak hl).sub hsub) (h _ w (hF.put hd v) hS)
def Qaa_ (P:Program) (n:Nat) (W0:World) (F:zd_) (H H0:Heap) (L L0:List za_) (m:Nat) (ops:Array Oper) (Q:Exit→Act→World→Prop) (fuel:Nat) (listed:Array Bool) (i:Nat):Prop:=
  Sat n W0 F H L (wpOp P ops Q i (fun a' w'=>St W0 H0 w' L0∧Any P W0 H0 L0 m ops Q fuel (listed.setIfInBounds i true) a' w'))
theorem qbX_ {rs:List Nat} (hr:Region.ready .any ops listed=rs) (hne:rs≠[]) (h:∀i∈rs,Qaa_ P n W0 F H H0 L L0 m ops Q fuel listed i):Sat n W0 F H L (Any P W0 H0 L0 m ops Q (fuel+1) listed):=
 fun a w hF hS=>by
  unfold Any wpP;split
  ·exact ⟨fun h0=>absurd (hr▸h0) hne,fun i hi=>wpOp_mono (fun a' w' h'=>QaF_ fuel _ a' w' h'.2) (h i (hr▸hi) a w hF hS)⟩
  ·exact ⟨fun h0=>absurd (hr▸h0) hne,fun i hi=>h i (hr▸hi) a w hF hS⟩
theorem qbq_ {i:Nat} (hr:Region.ready .any ops listed=[i]) (h:Qaa_ P n W0 F H H0 L L0 m ops Q fuel listed i):Sat n W0 F H L (Any P W0 H0 L0 m ops Q (fuel+1) listed):=
 qbX_ hr (by simp) (by simpa using h)
theorem zbX_ {i j:Nat} (hr:Region.ready .any ops listed=[i,j]) (h:Qaa_ P n W0 F H H0 L L0 m ops Q fuel listed i) (h':Qaa_ P n W0 F H H0 L L0 m ops Q fuel listed j):Sat n W0 F H L (Any P W0 H0 L0 m ops Q (fuel+1) listed):=
 qbX_ hr (by simp) (by simpa using ⟨h,h'⟩)
theorem zcU_ {i j k:Nat} (hr:Region.ready .any ops listed=[i,j,k]) (h:Qaa_ P n W0 F H H0 L L0 m ops Q fuel listed i) (h':Qaa_ P n W0 F H H0 L L0 m ops Q fuel listed j) (h'':Qaa_ P n W0 F H H0 L L0 m ops Q fuel listed k):
  Sat n W0 F H L (Any P W0 H0 L0 m ops Q (fuel+1) listed):=qbX_ hr (by simp) (by simpa using ⟨h,h',h''⟩)
inductive RestR:Nat→List Oper→List Oper→Prop
  | zero {l:List Oper}:RestR 0 l l
  | succ {k:Nat} {x:Oper} {l r:List Oper}:RestR k l r→RestR (k+1) (x::l) r
theorem RestR.eq {k:Nat} {l r:List Oper} (h:RestR k l r):l.drop k=r:=by
 induction h with
 | zero=>rfl
 | succ _ ih=>simpa using ih
theorem Qdt_ {l rest:List Oper} (hok:ZcT_ l.toArray m listed=true) (hrest:l.drop m=rest) (hfuel:fuel=rest.length) (h:SL false P n W0 F H L l.toArray Q rest):Sat n W0 F H L (Any P W0 H0 L0 m l.toArray Q fuel listed):=fun a w hF hS=>by
  have hrest:l.toArray.toList.drop m=rest:=hrest;generalize l.toArray=ops at*;simp only [ZcT_,Bool.and_eq_true,List.all_eq_true,List.mem_range,beq_iff_eq] at hok;obtain ⟨⟨h1,h2⟩,h3⟩:=hok;subst h1
  have key:∀(rest:List Oper) (i:Nat) (a:Act) (w:World),m≤i→i+rest.length=ops.size→(∀j,rest[j]?=ops[i+j]?)→wpList P ops Q rest a w→wpAny P .any ops Q rest.length (qp_ ops.size i) a w:=by
    intro rest
    induction rest with
    | nil=>
      intro i a w _ hl _ h;have:i=ops.size:=by simpa using hl
      subst this;exact ⟨List.isEmpty_iff.1 h3,h⟩
    | cons o r ih=>
      intro i a w hmi hl hr h;have hi:ops[i]?=some o:=by have:=hr 0;simpa using this.symm
      have hlt:i<ops.size:=by simp at hl;omega
      have hrd:Region.ready .any ops (qp_ ops.size i)=[i]:=by
        have:=h2 i hlt;simp only [Bool.or_eq_true,Nat.blt_eq,beq_iff_eq] at this;rcases this with h | h
        · omega
        · exact h
      refine ⟨fun h0=>(by rw [hrd] at h0;cases h0),fun j hj=>?_⟩;rw [hrd] at hj;obtain rfl:j=i:=by simpa using hj
      have hnext:=fun a w=>ih (j+1) a w (by omega) (by simp at hl;omega) (fun k=>by have:=hr (k+1);rw [List.getElem?_cons_succ] at this;rw [this];congr 1;omega);unfold wpOp;simp only [hi];unfold wpList at h;split
      · rename_i hw;rw [if_pos hw] at h;exact h.imp (fun h=>Oper.wp_mono (fun a w=>hnext a w) h) id
      · rename_i hw;rw [if_neg hw] at h;exact hnext _ _ h
  subst hrest;rcases Nat.lt_or_ge ops.size m with hm | hm
  · have he:ops.toList.drop m=[]:=List.drop_eq_nil_of_le (by simp;omega)
    have hq:qp_ ops.size m=qp_ ops.size ops.size:=by
      have:∀k,ops.size≤k→qp_ ops.size k=qp_ ops.size ops.size:=by
        intro k hk
        induction k with
        | zero => have : ops.size = 0 := by omega
                  rw [this]
        | succ k ih=>
          by_cases hk':ops.size≤k
          · rw [qp_,ih hk'];have hsz:∀j,(qp_ ops.size j).size=ops.size:=fun j=>by induction j with | zero=>simp [qp_] | succ j ih=>simp [qp_,ih]
            apply Array.setIfInBounds_eq_of_size_le;rw [hsz];exact hk'
          · have:k+1=ops.size:=by omega
            rw [this]
      exact this m (by omega)
    rw [he] at h hfuel;simp only [List.length_nil] at hfuel;subst hfuel;exact (show wpP P ops Q _ m 0 _ a w from ⟨by rw [hq];exact List.isEmpty_iff.1 h3,h a w hF hS⟩)
  · have hk:=key (ops.toList.drop m) m a w (Nat.le_refl _) (by simp;omega) (fun j=>by simp) (h a w hF hS);rw [←hfuel] at hk;unfold Any
    cases fuel with
    | zero=>exact hk
    | succ f=>
      unfold wpP;have hsz:∀j,(qp_ ops.size j).size=ops.size:=fun j=>by induction j with | zero=>simp [qp_] | succ j ih=>simp [qp_,ih]
      have hpre:zaF_ m (qp_ ops.size m)=true:=by
        have:∀k j,j<k→k≤ops.size→(qp_ ops.size k).getD j false=true:=by
          intro k
          induction k with
          | zero=>intro j hj;omega
          | succ k ih=>
            intro j hj hks;simp only [qp_];by_cases e:j=k
            · subst e;have hlt:j<ops.size:=by omega
              simp [hsz,hlt]
            · rw [getD_set_ne false (Ne.symm e)];exact ih j (by omega) (by omega)
        exact List.all_eq_true.2 fun j hj=>this m j (List.mem_range.1 hj) hm
      rw [if_pos hpre];exact hk
theorem QaW_ {i:Nat} {d:Tmp} {op:Op} {ty:TypeId} {pos:String} {aft:Array Edge} (hi:ops[i]?=some ⟨some d,op,ty,pos,aft,none⟩) (hd:Nat.blt d n=true)
  (h:OpW P n W0 ⟨some d,op,ty,pos,aft,none⟩ F H L (fun v H' L'=>H0.le H'∧Sub L' L0∧Sat n W0 ((d,v)::F) H' L' (Any P W0 H0 L0 m ops Q fuel (listed.setIfInBounds i true)))):
  Qaa_ P n W0 F H H0 L L0 m ops Q fuel listed i:=fun a w hF hS=>by
 unfold wpOp;simp only [hi];rw [if_pos (by simp [Region.wanted])];exact .inl (h a w _ Q hF hS fun v H' L' w' _ ⟨h1,h2,h3⟩ hs=>⟨(hs.weak h1).sub h2,h3 _ _ (hF.put hd v) hs⟩)
theorem QbX_ {i:Nat} {op:Op} {ty:TypeId} {pos:String} {aft:Array Edge} (hi:ops[i]?=some ⟨none,op,ty,pos,aft,none⟩)
  (h:OpW P n W0 ⟨none,op,ty,pos,aft,none⟩ F H L (fun _ H' L'=>H0.le H'∧Sub L' L0∧Sat n W0 F H' L' (Any P W0 H0 L0 m ops Q fuel (listed.setIfInBounds i true)))):
  Qaa_ P n W0 F H H0 L L0 m ops Q fuel listed i:=fun a w hF hS=>by
 unfold wpOp;simp only [hi];rw [if_pos (by simp [Region.wanted])];exact .inl (h a w _ Q hF hS fun v H' L' w' _ ⟨h1,h2,h3⟩ hs=>⟨(hs.weak h1).sub h2,h3 _ _ (hF.put0 v) hs⟩)
end
end Go.Sx
namespace Go.Sx
open Go
def SlcR (H:Heap) (sz:Nat) (v:Value) (m:Nat) (cs:List Value):Prop:=
  ∃base cap,v= .slice base m cap∧(m≤cap∧cap≤9223372036854775807)∧cs.length=m*sz∧cs.all (·.oneCell')=true∧(m=0∨∃b off,base=some ⟨b,off,none⟩∧HRow H b off cs)
theorem SlcR.mono {H H':Heap} (hl:H.le H') {sz m:Nat} {v:Value} {cs:List Value} (h:SlcR H sz v m cs):SlcR H' sz v m cs:=by
 obtain ⟨base,cap,a,b,c,d,e⟩:=h;exact ⟨base,cap,a,b,c,d,e.imp id fun ⟨b,off,x,y⟩=>⟨b,off,x,y.mono hl⟩⟩
theorem SlcR.nil (H:Heap) (sz:Nat) (base:Option Addr) (cap:Nat) (hc:cap≤9223372036854775807):SlcR H sz (.slice base 0 cap) 0 []:=⟨base,cap,rfl,⟨Nat.zero_le _,hc⟩,by simp,rfl,.inl rfl⟩
theorem SlcR.cases {H:Heap} {sz:Nat} {v:Value} {m:Nat} {cs:List Value} (h:SlcR H sz v m cs) (hm:0<m):∃b off cap,v= .slice (some ⟨b,off,none⟩) m cap∧(m≤cap∧cap≤9223372036854775807)∧cs.length=m*sz∧HRow H b off cs:=by
 obtain ⟨base,cap,a,b,c,d,e⟩:=h;rcases e with e | ⟨x,off,rfl,hr⟩
 ·omega
 ·exact ⟨x,off,cap,a,b,c,hr⟩
theorem SlcR.shape {H:Heap} {sz:Nat} {v:Value} {m:Nat} {cs:List Value} (h:SlcR H sz v m cs):∃base cap,v= .slice base m cap∧m≤cap∧cap≤9223372036854775807:=by
 obtain ⟨base,cap,a,b,_⟩:=h;exact ⟨base,cap,a,b.1,b.2⟩
section
variable {P:Program} {n:Nat} {W0:World} {F:zd_} {H:Heap} {L:List za_} {K:Value→Heap→List za_→Prop} {dst:Option Tmp} {ty:TypeId} {pos:String} {aft:Array Edge} {g:Option (Nat×Bool)}
end
end Go.Sx
namespace Go.Sx
open Go
section
variable {q:Bool} {P:Program} {n:Nat} {W0:World} {F:zd_} {H:Heap} {L:List za_} {ops:Array Oper} {Q:Exit→Act→World→Prop} {rest:List Oper} {op:Op} {ty:TypeId} {pos:String} {aft:Array Edge} {d:Tmp} {v:Value}
section
variable {x y:Operand} {k:IntKind} {a b:Int} {T T' e:TypeId}
end
end
end Go.Sx
namespace Go.Sx
open Go
section
variable {P:Program} {n:Nat} {W0:World} {F:zd_} {H:Heap} {L:List za_} {Q:Exit→Act→World→Prop} {c:Operand} {x y:Code} {p:Prop} [Decidable p]
end
section
variable {P:Program} {n:Nat} {W0:World} {F:zd_} {H H0:Heap} {L R:List za_}
end
theorem HRow.drop {H:Heap} {b off k:Nat} {cs:List Value} (h:HRow H b off cs):HRow H b (off+k) (cs.drop k):=fun j v hj=>by
 rw [List.getElem?_drop] at hj;rw [Nat.add_assoc];exact h _ v hj
theorem HRow.take {H:Heap} {b off k:Nat} {cs:List Value} (h:HRow H b off cs):HRow H b off (cs.take k):=fun j v hj=>by
 rw [List.getElem?_take] at hj;split at hj
 ·exact h _ v hj
 ·cases hj
theorem HRow.app {H:Heap} {b off:Nat} {cs ds:List Value} (h:HRow H b off (cs++ds)):HRow H b off cs∧HRow H b (off+cs.length) ds:=
  ⟨fun j v hj=>h j v (by rw [List.getElem?_append_left (List.getElem?_eq_some_iff.1 hj).1];exact hj),
   fun j v hj=>by rw [Nat.add_assoc];exact h _ v (by rw [List.getElem?_append_right (by omega)];simpa using hj)⟩
abbrev Rd (α:Type):=Heap→List Value→α→Prop
class RdOk {α:Type} (R:Rd α) (sz:outParam Nat):Prop where
  len:∀{H c x},R H c x→c.length=sz
  one:∀{H c x},R H c x→c.all (·.oneCell')=true
  mono:∀{H H' c x},Heap.le H H'→R H c x→R H' c x
def rInt:Rd Int:=fun _ c x=>c=[.int .i64 x]∧fits x
def zb_:Nat:=140737488355328
def rStr:Rd ByteArray:=fun _ c x=>c=[.string x]∧x.size≤zb_
def Zbd_:Rd Bool:=fun _ c x=>c=[.bool x]
instance :RdOk rInt 1:=⟨fun ⟨h,_⟩=>by subst h;rfl,fun ⟨h,_⟩=>by subst h;rfl,fun _ h=>h⟩
instance :RdOk rStr 1:=⟨fun ⟨h,_⟩=>by subst h;rfl,fun ⟨h,_⟩=>by subst h;rfl,fun _ h=>h⟩
instance :RdOk Zbd_ 1:=⟨fun h=>by cases h;rfl,fun h=>by cases h;rfl,fun _ h=>h⟩
def RL {α:Type} (R:Rd α) (H:Heap):List Value→List α→Prop
  | cs,[]=>cs=[]
  | cs,x::xs=>∃c r,cs=c++r∧R H c x∧RL R H r xs
section
variable {α:Type} {R:Rd α} {sz:Nat} {H H':Heap}
theorem RL.mono [hR:RdOk R sz] (hl:H.le H'):∀{cs:List Value} {xs:List α},RL R H cs xs→RL R H' cs xs
 | _,[],h=>h
 | _,_::_,⟨c,r,e,h1,h2⟩=>⟨c,r,e,hR.mono hl h1,RL.mono hl h2⟩
theorem RL.len [hR:RdOk R sz]:∀{cs:List Value} {xs:List α},RL R H cs xs→cs.length=xs.length*sz
 | _,[],h=>by rw [show _=[] from h];simp
 | _,_::xs,⟨c,r,e,h1,h2⟩=>by rw [e,List.length_append,hR.len h1,RL.len h2,List.length_cons,Nat.add_mul];omega
theorem RL.one [hR:RdOk R sz]:∀{cs:List Value} {xs:List α},RL R H cs xs→cs.all (·.oneCell')=true
 | _,[],h=>by rw [show _=[] from h];rfl
 | _,_::xs,⟨c,r,e,h1,h2⟩=>by rw [e,List.all_append,hR.one h1,RL.one h2];rfl
theorem RL.app:∀{cs ds:List Value} {xs ys:List α},RL R H cs xs→RL R H ds ys→RL R H (cs++ds) (xs++ys)
 | _,_,[],_,h,h'=>by rw [show _=[] from h];exact h'
 | _,_,_::_,_,⟨c,r,e,h1,h2⟩,h'=>⟨c,r++_,by rw [e,List.append_assoc],h1,RL.app h2 h'⟩
theorem RL.nil:RL R H [] []:=rfl
theorem RL.single {c:List Value} {x:α} (h:R H c x):RL R H c [x]:=⟨c,[],by simp,h,rfl⟩
theorem RL.snoc {cs c:List Value} {xs:List α} {x:α} (h:RL R H cs xs) (h':R H c x):RL R H (cs++c) (xs++[x]):=h.app (RL.single h')
theorem RL.split [hR:RdOk R sz]:∀{k:Nat} {cs:List Value} {xs:List α},RL R H cs xs→k≤xs.length→RL R H (cs.take (k*sz)) (xs.take k)∧RL R H (cs.drop (k*sz)) (xs.drop k)
 | 0,cs,xs,h,_=>by simp [RL,h]
 | k+1,_,[],_,hk=>by simp at hk
 | k+1,cs,x::xs,⟨c,r,e,h1,h2⟩,hk=>by
  have hl:=hR.len h1;obtain ⟨i1,i2⟩:=RL.split h2 (k:=k) (by simpa using hk);have e1:(k+1)*sz=c.length+k*sz:=by rw [Nat.add_mul,hl];omega
  rw [e,e1,List.take_length_add_append,List.drop_length_add_append];exact ⟨⟨c,_,rfl,h1,i1⟩,i2⟩
theorem RL.take [RdOk R sz] {k:Nat} {cs:List Value} {xs:List α} (h:RL R H cs xs) (hk:k≤xs.length):RL R H (cs.take (k*sz)) (xs.take k):=(h.split hk).1
theorem RL.drop [RdOk R sz] {k:Nat} {cs:List Value} {xs:List α} (h:RL R H cs xs) (hk:k≤xs.length):RL R H (cs.drop (k*sz)) (xs.drop k):=(h.split hk).2
theorem RL.get [hR:RdOk R sz] {k:Nat} {cs:List Value} {xs:List α} (h:RL R H cs xs) (hk:k<xs.length):∃c r,cs.drop (k*sz)=c++r∧R H c xs[k]:=by
 have:=h.drop (Nat.le_of_lt hk);rw [List.drop_eq_getElem_cons hk] at this;obtain ⟨c,r,e,h1,_⟩:=this;exact ⟨c,r,e,h1⟩
end
def SlR {α:Type} (R:Rd α) (sz:Nat) (H:Heap) (v:Value) (xs:List α):Prop:=∃cs,SlcR H sz v xs.length cs∧RL R H cs xs
section
variable {α:Type} {R:Rd α} {sz:Nat} {H H':Heap} {v:Value} {xs:List α}
theorem SlR.mono [RdOk R sz] (hl:H.le H') (h:SlR R sz H v xs):SlR R sz H' v xs:=by obtain ⟨cs,a,b⟩:=h;exact ⟨cs,a.mono hl,b.mono hl⟩
theorem SlR.shape (h:SlR R sz H v xs):∃base cap,v= .slice base xs.length cap∧xs.length≤cap∧cap≤9223372036854775807:=by obtain ⟨cs,a,_⟩:=h;exact a.shape
theorem SlR.get [hR:RdOk R sz] {base:Option Addr} {m cap k:Nat} (h:SlR R sz H (.slice base m cap) xs) (hk:k<xs.length):
  ∃b off c,base=some ⟨b,off,none⟩∧m=xs.length∧HRow H b (off+k*sz) c∧R H c xs[k]:=by
 obtain ⟨cs,a,hr⟩:=h;obtain ⟨b,off,cap',e,_,_,hrow⟩:=a.cases (by omega)
 cases e
 obtain ⟨c,r,e,h1⟩:=hr.get hk;refine ⟨b,off,c,rfl,rfl,?_,h1⟩;have:=hrow.drop (k:=k*sz);rw [e] at this;exact this.app.1
theorem SlR.nil (H:Heap) (R:Rd α) (sz:Nat) (base:Option Addr) (cap:Nat) (hc:cap≤9223372036854775807):SlR R sz H (.slice base 0 cap) ([]:List α):=⟨[],SlcR.nil H sz base cap hc,rfl⟩
end
def own (T:TypeId) (sz:Nat) (s:Value) (m:Nat) (xs:List Value):za_:=fun h=>
  xs.length=m*sz∧((m=0∧∃base,s= .slice base 0 0)∨
    ∃b cap sp,s= .slice (some ⟨b,0,none⟩) m cap∧0<cap∧m≤cap∧cap≤maxLen∧(xs++sp).length=cap*sz∧h b=some (.cells (xs++sp).toArray T (0,0)))
inductive ASrc (P:Program) (sz:Nat) (H:Heap) (L:List za_):TypeId→Value→Nat→List Value→Prop
  | nil {t e:TypeId} {base:Option Addr} {c:Nat}:P.underlying t=some (.slice e)→ASrc P sz H L t (.slice base 0 c) 0 []
  | ro {t e:TypeId} {v:Value} {m:Nat} {cs:List Value}:P.underlying t=some (.slice e)→SlcR H sz v m cs→ASrc P sz H L t v m cs
  | row {t e:TypeId} {b m c:Nat} {T:TypeId} {cs sp:List Value} {R:List za_}:P.underlying t=some (.slice e)→Has L (row b T (cs++sp)) R→cs.length=m*sz→cs.all (·.oneCell')=true→ASrc P sz H L t (.slice (some ⟨b,0,none⟩) m c) m cs
  | str {t:TypeId} {s:ByteArray}:sz=1→P.underlying t=some .string→ASrc P sz H L t (.string s) s.size (byteCells s)
theorem ASrc.src {P:Program} {sz:Nat} {H:Heap} {L:List za_} {t:TypeId} {v:Value} {m:Nat} {cs:List Value} (h:ASrc P sz H L t v m cs) {W0 w:World} (hS:St W0 H w L):Src P sz t v m cs w:=by
 cases h with
 | @nil e base c hk=>
  cases base with
  | none=>exact Src.ofNil w hk c
  | some a=>exact Src.ofSlice w hk a 0 c [] (by simp) (by simp) (by simp)
 | ro hk hr=>
  obtain ⟨base,cap,rfl,_,hl,h1,he⟩:=hr;rcases he with rfl | ⟨b,off,rfl,hrow⟩
  ·have:cs=[]:=List.eq_nil_of_length_eq_zero (by simpa using hl);subst this
   cases base with
   | none=>exact Src.ofNil w hk cap
   | some a=>exact Src.ofSlice w hk a 0 cap [] (by simp) (by simp) (by simp)
  ·exact Src.ofSlice w hk _ m cap cs hl (fun j u hj=>by rw [Addr.add_lit];exact hS.hcell (hrow j u hj)) (by simpa using h1)
 | @row e b m c T cs sp R hk hh hl h1=>
  refine Src.ofSlice w hk _ m c cs hl (fun j u hj=>?_) (by simpa using h1);rw [Addr.add_lit,(hS.sub hh.to).rowCell,Nat.zero_add,List.getElem?_append_left (List.getElem?_eq_some_iff.1 hj).1];exact hj
 | str hz hk=>subst hz;exact Src.ofString w hk _
section
variable {P:Program} {n:Nat} {W0:World} {F:zd_} {H:Heap} {L:List za_} {K:Value→Heap→List za_→Prop} {dst:Option Tmp} {ty:TypeId} {pos:String} {aft:Array Edge} {g:Option (Nat×Bool)}
theorem Zay_ (z:Array Value) (n:Nat):(Builtin.zeroCells z n).size=n*z.size:=by simp [Builtin.zeroCells]
theorem ZaW_ {W0 w:World} {R:List za_} {t tx e:TypeId} {sz by_:Nat} {z:Value} [hT:TSl P t e] [hI:TIn P e sz by_ z] {s x:Value} {m k:Nat} {xs news:List Value}
  (hS:St W0 H w (own e sz s m xs::R)) (hsrc:Src P sz tx x k news w) (hb1:m+k≤maxLen) (hb2:(m+k)*by_≤140737488355328):
  ∃base cap w',(Builtin.append_ #[t,tx] ty #[s,x]).run P w= .ok (.slice base (m+k) cap) w'∧St W0 H w' (own e sz (.slice base (m+k) cap) (m+k) (xs++news)::R):=by
 obtain ⟨i,hi,hsz,hby,hz,hzs,hpos⟩:=hI.ex;subst hsz;subst hby;have hsmall:((m+k:Nat):Int)≤9223372036854775807:=by simp only [maxLen] at hb1;omega
 have hnl:=hsrc.newsLen;have hml:maxLen=9223372036854775807:=rfl;obtain ⟨hA,hR,a,r,d,dA,dR,lA,lR⟩:=hS.parts;obtain ⟨hxl,hcase⟩:=a
 have grow:∀(base:Option Addr) (cap:Nat),s= .slice base m cap→cap<m+k→(Builtin.firstCells i.size m (.slice base m cap)).run P w.drew= .ok xs.toArray w.drew→
   ∃base' cap' w',(Builtin.append_ #[t,tx] ty #[s,x]).run P w= .ok (.slice base' (m+k) cap') w'∧St W0 H w' (own e i.size (.slice base' (m+k) cap') (m+k) (xs++news)::R):=by
  intro base cap hs hlt hold;have hr:=run_append_grow_src (P:=P) (ty:=ty) w t tx e i z hT.und hi hz base m cap xs hold x k news hsrc hlt hsmall (growslice_fits hlt hb2);refine ⟨_,_,_,by rw [hs];exact hr,?_⟩;have hge:=grownCap_ge w (m+k) cap e;have hcm:grownCap w (m+k) cap e≤maxLen:=grownCap_le_maxLen w (m+k) cap e hb1;have hS2:St W0 H w R:=hS.sub (Sub.drop (Sub.refl _));have hS3:St W0 H w.drew R:=hS2.keep (hS2.env.of rfl rfl rfl) rfl;have h4:=hS3.alloc (w':=w.drew.alloc (.cells ((xs++news).toArray++Builtin.zeroCells z.cells (grownCap w (m+k) cap e - (m+k))) e)) (hS3.env.of rfl rfl rfl) rfl;refine h4.sub fun h hh=>?_;obtain ⟨h1,h2,p,q,dd,l1,l2⟩:=hh;refine ⟨h1,h2,⟨by rw [List.length_append,hxl,hnl,Nat.add_mul],.inr ⟨w.heap.size,_,(Builtin.zeroCells z.cells (grownCap w (m+k) cap e - (m+k))).toList,rfl,by omega,hge,hcm,?_,?_⟩⟩,q,dd,l1,l2⟩
  ·simp only [List.length_append,Array.length_toList,Zay_,hzs,hxl,hnl];rw [←Nat.add_mul,←Nat.add_mul];congr 1;omega
  ·have:h1 w.heap.size=some (.cells ((xs++news).toArray++Builtin.zeroCells z.cells (grownCap w (m+k) cap e - (m+k))) e (0,0)):=p;rw [this];congr 2;apply Array.ext';simp
 rcases hcase with ⟨rfl,base,rfl⟩ | ⟨b,cap,sp,rfl,hc0,hmc,hcm,hcl,hb⟩
 ·have hx0:xs=[]:=List.eq_nil_of_length_eq_zero (by simpa using hxl);subst hx0;by_cases hk:k=0
  ·subst hk;have hn0:news=[]:=List.eq_nil_of_length_eq_zero (by simpa using hnl);subst hn0;refine ⟨base,0,w,?_,hS⟩;have hlen:=hsrc.len;have hcells:=hsrc.cells;rcases hsrc.kind with ⟨e',hk'⟩ | hk'<;>cases base<;>simp [Builtin.append_,run_underlying hT.und,run_underlying hk',sizeOf,typeInfo,hi,hlen,hcells,storeCells]
  ·refine grow base 0 rfl (by omega) ?_
   cases base with
   | none=>simp [Builtin.firstCells]
   | some a=>simp [Builtin.firstCells,loadCells,loadCellsFrom]
 ·by_cases hroom:m+k≤cap
  ·have hbw:w.heap[b]?=some (.cells (xs++sp).toArray e (0,0)):=lA b _ hb;have hfit:m*i.size+news.length≤(xs++sp).length:=by rw [hnl,hcl,←Nat.add_mul];exact Nat.mul_le_mul_right _ hroom
   have hst:=run_storeCells_at P b (m*i.size) e news 0 (xs++sp).toArray w hbw (by simpa using hfit) hsrc.one;simp only [Nat.add_zero] at hst
   have hrun:(Builtin.append_ #[t,tx] ty #[.slice (some ⟨b,0,none⟩) m cap,x]).run P w= .ok (.slice (some ⟨b,0,none⟩) (m+k) cap) (w.setRow b ((xs++sp).toArray.toList.take (m*i.size)++news++(xs++sp).toArray.toList.drop (m*i.size+news.length)).toArray):=by
    have hlen:=hsrc.len;have hcells:=hsrc.cells;rcases hsrc.kind with ⟨e',hk'⟩ | hk'<;>simp [Builtin.append_,run_underlying hT.und,run_underlying hk',sizeOf,typeInfo,hi,hlen,hcells,hroom,Addr.add_lit]<;>simp at hst<;>rw [hst]<;>simp
   refine ⟨_,_,_,hrun,?_⟩
   have e1:(xs++sp).toArray.toList.take (m*i.size)++news++(xs++sp).toArray.toList.drop (m*i.size+news.length)=(xs++news)++sp.drop news.length:=by
    rw [←hxl];simp [List.append_assoc]
   rw [e1];refine hS.step (hS.env.of rfl rfl rfl) fun hA' a' lA'=>?_;obtain ⟨_,hc2⟩:=a'
   have hb':hA' b=some (.cells (xs++sp).toArray e (0,0)):=by
    rcases hc2 with ⟨rfl,base,h0⟩ | ⟨b2,cap2,sp2,h0,_,_,_,_,hb2'⟩
    ·cases h0;omega
    ·cases h0;rw [hb2'];have:=lA' _ _ hb2';simp only [hp] at this;rw [hbw] at this;injection this with this;rw [this]
   refine ⟨fun x hx hn=>setRow_other w b x _ (by rintro rfl;rw [hb'] at hn;cases hn),one b (.cells ((xs++news)++sp.drop news.length).toArray e (0,0)),⟨by rw [List.length_append,hxl,hnl,Nat.add_mul],.inr ⟨b,cap,sp.drop news.length,rfl,hc0,hroom,hcm,?_,by simp [one]⟩⟩,zcm_ (setRow_heap w b _ _ e _ hbw),fun x hx=>?_⟩
   ·simp only [List.length_append,List.length_drop] at hcl hfit⊢;omega
   ·left;simp only [one] at hx;split at hx
    ·rename_i e0;subst e0;rw [hb'];simp
    ·simp at hx
  ·refine grow _ cap rfl (by omega) ?_
   have holds:∀j v,xs[j]?=some v→w.drew.cell? ((⟨b,0,none⟩:Addr).add j)=some v:=fun j v hj=>by
    have hbw:w.heap[b]?=some (.cells (xs++sp).toArray e (0,0)):=lA b _ hb;rw [Addr.add_lit];rw [World.cell?_drew];simp only [World.cell?,hbw,Nat.zero_add];have:(xs++sp)[j]?=some v:=by rw [List.getElem?_append_left (List.getElem?_eq_some_iff.1 hj).1];exact hj
    simp [this]
   exact run_firstCells_some (P:=P) w.drew i.size m _ m cap xs hxl holds
end
end Go.Sx
namespace Go.Sx
open Go
class TBo (P:Program) (t:TypeId):Prop where
  und:P.underlying t=some .bool
theorem sub_pick {L M L':List za_} {A:za_} (h:Has L A M) (hs:Sub M L'):Sub L (A::L'):=h.to.trans (Sub.cons hs)
section
variable {P:Program} {n:Nat} {W0:World} {F:zd_} {H:Heap} {L:List za_} {K:Value→Heap→List za_→Prop} {dst:Option Tmp} {ty:TypeId} {pos:String} {aft:Array Edge} {g:Option (Nat×Bool)}
theorem QQ_ {t tx e:TypeId} {sz by_:Nat} {z:Value} [hT:TSl P t e] [hI:TIn P e sz by_ z] {s x:Operand} {sv xv:Value} {m k:Nat} {xs news:List Value} {R:List za_}
  (hs:opv F s=some sv) (hx:opv F x=some xv) (hh:Has L (own e sz sv m xs) R) (hsrc:ASrc P sz H L tx xv k news) (hb1:m+k≤maxLen) (hb2:(m+k)*by_≤140737488355328)
  (hk:∀base cap,K (.slice base (m+k) cap) H (own e sz (.slice base (m+k) cap) (m+k) (xs++news)::R)):
  OpW P n W0 ⟨dst,.call ⟨.builtin .append,#[s,x],#[t,tx]⟩,ty,pos,aft,g⟩ F H L K:=
 .of_run fun a w hF hS=>by
  obtain ⟨base,cap,w',hr,hS'⟩:=ZaW_ (P:=P) (ty:=ty) (t:=t) (tx:=tx) (hS.sub hh.to) (hsrc.src hS) hb1 hb2;refine ⟨_,H,_,w',?_,.refl _,hk base cap,hS'⟩;simp only [execOp,resolve];simp [invoke,builtin,hF.opv hs,hF.opv hx,hr]
theorem ZU_ {t e:TypeId} {sz:Nat} {z v:Value} {cs:List Value} {x:Operand} [hT:TSl P t e] [hS':TSz P e sz] [hZ:TZ P e z] (hx:opv F x=some v) (hc:v.cells=cs.toArray) (hl:cs.length=sz) (hz:z.cells.size=sz)
  (h0:Nat.blt 0 sz&&Nat.ble sz 1000=true) (hk:∀b,H b=none→K (.slice (some ⟨b,0,none⟩) 1 1) H (row b e cs::L)):OpW P n W0 ⟨dst,.buildSlice t 1 #[(0,x)],ty,pos,aft,g⟩ F H L K:=
 .of_run fun a w hF hS=>by
  have hs:St W0 H (w.alloc (.cells cs.toArray e)) (row w.heap.size e cs::L):=hS.alloc (hS.env.of rfl rfl rfl) rfl;refine ⟨_,H,_,_,?_,.refl _,hk _ hs.ptRead.2,hs⟩;have h0:0<sz∧sz≤1000:=by simpa using h0
  have hne:sz≠0:=by omega
  have hfold:∀(l:List Value) (i:Nat) (arr:List Value),i+l.length≤arr.length→(l.zipIdx i).foldl (fun (cs:Array Value) (c,j)=>cs.setIfInBounds (0+j) c) arr.toArray=(arr.take i++l++arr.drop (i+l.length)).toArray:=by
   intro l
   induction l with
   | nil=>intro i arr _;simp
   | cons c l ih=>
    intro i arr hl';simp only [List.zipIdx_cons,List.foldl_cons,Nat.zero_add,List.setIfInBounds_toArray];rw [show (fun (cs:Array Value) (x:Value×Nat)=>cs.setIfInBounds x.2 x.1)=(fun (cs:Array Value) (x:Value×Nat)=>match x with | (c,j)=>cs.setIfInBounds (0+j) c) from by funext cs x;simp];rw [ih (i+1) _ (by simp at hl'⊢;omega)];congr 1;simp only [List.length_cons] at hl'⊢;rw [List.drop_set_of_lt (by omega)]
    have e1:(arr.set i c).take (i+1)=arr.take i++[c]:=by
     rw [List.take_add_one,List.getElem?_set_self (by omega),List.take_set_of_le (by omega)];simp
    rw [e1];simp [Nat.add_assoc,Nat.add_comm 1]
  have hf:=hfold cs 0 ((List.range (1*sz)).map (fun i=>z.cells[i % z.cells.size]!)) (by simp;omega);have hd:((List.range (1*sz)).map (fun i=>z.cells[i % z.cells.size]!)).drop (0+cs.length)=[]:=List.drop_eq_nil_of_le (by simp;omega);rw [hd] at hf;simp only [List.take_zero,List.nil_append,List.append_nil] at hf
  have hfill:Instr.fill (fun i=>some (i*sz,sz)) ((Array.range (1*sz)).map (fun i=>z.cells[i % z.cells.size]!)) [(0,v)]=some cs.toArray:=by
   simp only [Instr.fill,hc,Nat.zero_mul];rw [if_neg (by simp;omega)]
   have e2:((Array.range (1*sz)).map (fun i=>z.cells[i % z.cells.size]!))=((List.range (1*sz)).map (fun i=>z.cells[i % z.cells.size]!)).toArray:=by
    apply Array.ext';simp [Array.toList_range]
   rw [e2];simpa using hf
  simp only [execOp];simp [Instr.buildSlice,run_underlying hT.und,hS'.run,hne,hZ.run,hF.opv hx,newRow];rw [if_neg (by omega)];simp only [Nat.one_mul] at hfill;simp [hfill]
theorem Zap_ {t e:TypeId} {sz:Nat} [hT:TSl P t e] [hS':TSz P e sz] (hk:∀b,H b=none→K (.slice (some ⟨b,0,none⟩) 0 0) H (row b e []::L)):OpW P n W0 ⟨dst,.buildSlice t 0 #[],ty,pos,aft,g⟩ F H L K:=
 .of_run fun a w hF hS=>by
  have hs:St W0 H (w.alloc (.cells #[] e)) (row w.heap.size e []::L):=hS.alloc (hS.env.of rfl rfl rfl) rfl;refine ⟨_,H,_,_,?_,.refl _,hk _ hs.ptRead.2,hs⟩;simp only [execOp];simp [Instr.buildSlice,run_underlying hT.und,hS'.run,newRow,Instr.fill,Array.range_zero']
def slc (base:Option Addr) (cap l h sz:Nat):Value:= .slice (if cap=l then base else base.map (·.add (l*sz))) (h - l) (cap - l)
def ob (F:zd_) (o:Option Operand) (d:Int):Option Int:=match o with | none=>some d | some x=>match opv F x with | some (.int _ i)=>some i | _=>none
theorem zH_ {t e:TypeId} {sz:Nat} [hT:TSl P t e] [hs:TSz P e sz] {x:Operand} {lo hi:Option Operand} {base:Option Addr} {m cap:Nat} {l h:Int} (hx:opv F x=some (.slice base m cap)) (hlo:ob F lo 0=some l) (hhi:ob F hi m=some h)
  (h0:0≤l) (h1:l≤h) (h2:h≤cap):
  OpP P n W0 ⟨dst,.slice t x lo hi none,ty,pos,aft,g⟩ F H L (slc base cap l.toNat h.toNat sz):=
 .mk fun a w hF hS=>by
  have hb:(Instr.sliceBounds true m cap (lo.map a.eval) (hi.map a.eval) none).run P w= .ok (l.toNat,h.toNat,cap) w:=by
   have hhi':∀y,hi=some y→∃k,a.eval y= .int k h:=fun y hy=>by
    subst hy;simp only [ob] at hhi;split at hhi
    ·rename_i k i hy';cases hhi;exact ⟨k,hF.opv hy'⟩
    ·cases hhi
   have hlo':∀y,lo=some y→∃k,a.eval y= .int k l:=fun y hy=>by
    subst hy;simp only [ob] at hlo;split at hlo
    ·rename_i k i hy';cases hlo;exact ⟨k,hF.opv hy'⟩
    ·cases hlo
   have e1:∀(k:IntKind) (c:BoundsCode),(Instr.sliceBound (.int k h) cap c).run P w= .ok h.toNat w:=fun k c=>by
    simp [Instr.sliceBound,asIntOf,show 0≤h by omega,h2]
   have e2:∀(k:IntKind) (c:BoundsCode),(Instr.sliceBound (.int k l) h.toNat c).run P w= .ok l.toNat w:=fun k c=>by
    simp [Instr.sliceBound,asIntOf,h0];omega
   cases hi with
   | none=>
    simp only [ob,Option.some.injEq] at hhi;subst hhi
    cases lo with
    | none=>simp only [ob,Option.some.injEq] at hlo;subst hlo;simp [Instr.sliceBounds]
    | some y=>obtain ⟨k,hk⟩:=hlo' y rfl;have:=e2 k .sliceB;simp at this;simp [Instr.sliceBounds,hk,this]
   | some y=>
    obtain ⟨k,hk⟩:=hhi' y rfl
    cases lo with
    | none=>simp only [ob,Option.some.injEq] at hlo;subst hlo;simp [Instr.sliceBounds,hk,e1]
    | some y'=>obtain ⟨k',hk'⟩:=hlo' y' rfl;simp [Instr.sliceBounds,hk,hk',e1,e2]
  simp only [execOp];simp [Instr.sliceAt,Instr.slice,run_underlying hT.und,hs.run,hF.opv hx,hb,slc]
theorem SlcR.slc {H:Heap} {base:Option Addr} {m cap l h sz:Nat} {cs:List Value} (hr:SlcR H sz (.slice base m cap) m cs) (h1:l≤h) (h2:h≤m):SlcR H sz (Sx.slc base cap l h sz) (h - l) ((cs.drop (l*sz)).take ((h - l)*sz)):=by
 obtain ⟨base',cap',e,hc,hl,h1c,he⟩:=hr
 cases e
 have hmul:(h - l)*sz+l*sz≤m*sz:=by rw [←Nat.add_mul];exact Nat.mul_le_mul_right _ (by omega)
 refine ⟨_,_,rfl,by omega,by rw [List.length_take,List.length_drop,hl];omega,?_,?_⟩
 ·simp only [List.all_eq_true] at h1c⊢;exact fun u hu=>h1c u (List.mem_of_mem_drop (List.mem_of_mem_take hu))
 ·by_cases hz:h - l=0
  ·exact .inl hz
  ·right;rcases he with he | ⟨b,off,rfl,hrow⟩
   ·omega
   ·rw [if_neg (by omega)];exact ⟨b,off+l*sz,by simp [Addr.add_lit],hrow.drop.take⟩
theorem SlR.slc {α:Type} {R:Rd α} {sz:Nat} [RdOk R sz] {H:Heap} {base:Option Addr} {m cap l h:Nat} {xs:List α} (hr:SlR R sz H (.slice base m cap) xs) (h1:l≤h) (h2:h≤xs.length):
  SlR R sz H (Sx.slc base cap l h sz) ((xs.drop l).take (h - l)):=by
 obtain ⟨cs,a,b⟩:=hr;have hm:m=xs.length:=by obtain ⟨_,_,e,_⟩:=a;cases e;rfl
 subst hm;have hl:((xs.drop l).take (h - l)).length=h - l:=by simp;omega
 refine ⟨_,hl.symm▸a.slc h1 h2,(b.drop (by omega)).take (by simp;omega)⟩
end
theorem own_nil {e sz:Nat} {base:Option Addr} {L:List za_}:Sub L (own e sz (.slice base 0 0) 0 []::L):=fun h hb=>
 ⟨Heap.empty,h,⟨by simp,.inl ⟨rfl,base,rfl⟩⟩,hb,fun _=> .inl rfl,fun _ _ h=>by simp [Heap.empty] at h,.refl _⟩
theorem QH_ {n:Nat} {W0:World} {F:zd_} {H:Heap} {L R:List za_} {G:Act→World→Prop} {e sz m:Nat} {s:Value} {xs:List Value} (hh:Has L (own e sz s m xs) R) (h1:xs.all (·.oneCell')=true)
  (h:∀H',H.le H'→SlcR H' sz s m xs→Sat n W0 F H' R G):Sat n W0 F H L G:=fun a w hF hS=>by
 have hS':=hS.sub hh.to;obtain ⟨hA,hR,⟨hl,hc⟩,r,d,dA,dR,lA,lR⟩:=hS'.parts;rcases hc with ⟨rfl,base,rfl⟩ | ⟨b,cap,sp,rfl,_,hmc,hcm,_,hb⟩
 ·have:xs=[]:=List.eq_nil_of_length_eq_zero (by simpa using hl);subst this;exact h H (.refl _) (SlcR.nil H sz base 0 (by omega)) a w hF (hS.sub (hh.to.trans (Sub.drop (Sub.refl _))))
 ·have hpt:St W0 H w (pt b (.cells (xs++sp).toArray e (0,0))::R):=St.of_parts hS.env hS.ro (hA:=hA) hb r d dA dR lA lR;obtain ⟨hn,hS2⟩:=hpt.freeze;refine h _ (qdB_ hn) ⟨_,cap,rfl,⟨hmc,hcm⟩,hl,h1,.inr ⟨b,0,rfl,fun j u hj=>?_⟩⟩ a w hF hS2;have:(xs++sp)[j]?=some u:=by rw [List.getElem?_append_left (List.getElem?_eq_some_iff.1 hj).1];exact hj
  simp [hcell,qcm_,this]
def IsB (r:Value) (p:Prop):Prop:=∃t:Bool,r= .bool t∧(t=true↔p)
theorem IsB.T {p:Prop} (h:p):IsB (.bool true) p:=⟨true,rfl,by simp [h]⟩
section
variable {q:Bool} {P:Program} {n:Nat} {W0:World} {F:zd_} {H:Heap} {L:List za_} {ops:Array Oper} {Q:Exit→Act→World→Prop} {rest:List Oper} {ty:TypeId} {pos:String} {aft:Array Edge} {d:Tmp} {g:Option (Nat×Bool)}
  {x y:Operand} {k:IntKind} {a b:Int} {T T':TypeId}
end
end Go.Sx
set_option linter.unusedVariables false
set_option linter.unusedSimpArgs false
namespace Go.Sx
open Go
theorem QdL_ {A B:List za_} {h:Heap} (hb:big (A++B) h):∃h1 h2,big A h1∧big B h2∧Disj h1 h2∧h1.le h∧h2.le h:=by
 induction A generalizing h with
 | nil=>exact ⟨Heap.empty,h,trivial,hb,fun _=> .inl rfl,fun _ _ h=>by simp [Heap.empty] at h,.refl _⟩
 | cons a A ih=>
  obtain ⟨h1,h2,p,q,d,l1,l2⟩:=hb;obtain ⟨h3,h4,p3,p4,d34,l3,l4⟩:=ih q;have d13:Disj h1 h3:=(d.symm.mono l3).symm;have d14:Disj h1 h4:=(d.symm.mono l4).symm;exact ⟨qk_ h1 h3,h4,⟨h1,h3,p,p3,d13,Qm_ _ _,ql_ d13⟩,p4,Zz_ d14 d34,QL_ l1 (l3.trans l2),l4.trans l2⟩
theorem zdB_ {A B:List za_} {h h1 h2:Heap} (ha:big A h1) (hb:big B h2) (d:Disj h1 h2) (l1:h1.le h) (l2:h2.le h):big (A++B) h:=by
 induction A generalizing h h1 with
 | nil=>exact big_mono l2 hb
 | cons a A ih=>
  obtain ⟨h3,h4,p,q,dd,l3,l4⟩:=ha;have d32:Disj h3 h2:=d.mono l3;have d42:Disj h4 h2:=d.mono l4;exact ⟨h3,qk_ h4 h2,p,ih q d42 (Qm_ _ _) (ql_ d42),(Zz_ dd.symm d32.symm).symm,l3.trans l1,QL_ (l4.trans l1) l2⟩
theorem qaz_ {A:za_} {B R:List za_} (h:∀x,A x→big B x):Sub (A::R) (B++R):=fun x ⟨h1,h2,p,q,d,l1,l2⟩=>zdB_ (h _ p) q d l1 l2
theorem zbq_ {A:za_} {B R:List za_} (h:∀x,big B x→A x):Sub (B++R) (A::R):=fun x hx=>by
 obtain ⟨h1,h2,p,q,d,l1,l2⟩:=QdL_ hx;exact ⟨h1,h2,h _ p,q,d,l1,l2⟩
theorem qB_ {L R:List za_} {A:za_} {B:List za_} (hs:Sub L (B++R)) (h:∀x,big B x→A x):Sub L (A::R):=hs.trans (zbq_ h)
section
variable {n:Nat} {W0:World} {F:zd_} {H:Heap} {L R:List za_} {G:Act→World→Prop}
theorem Zq_ {σ:Type} {A:za_} {B:σ→List za_} {p:σ→Prop} (hh:Has L A R) (hu:∀h,A h→∃s,p s∧big (B s) h) (h:∀s,p s→Sat n W0 F H (B s++R) G):Sat n W0 F H L G:=fun a w hF hS=>by
 obtain ⟨hA,hR,pa,r,d,dA,dR,lA,lR⟩:=(hS.sub hh.to).parts;obtain ⟨s,hp,hb⟩:=hu hA pa;refine h s hp a w hF ⟨hS.env,hS.ro,qk_ hA hR,zdB_ hb r d (Qm_ _ _) (ql_ d),QL_ lA lR,(Zz_ dA.symm dR.symm).symm⟩
theorem Qbq_ {L':List za_} (h:Sat n W0 F H L' G) (hs:Sub L L'):Sat n W0 F H L G:=fun a w hF hS=>h a w hF (hS.sub hs)
theorem Zam_ {A:za_} {p:Prop} (hh:Has L A R) (hu:∀h,A h→p) (h:p→Sat n W0 F H L G):Sat n W0 F H L G:=fun a w hF hS=>by
 obtain ⟨hA,hR,pa,_⟩:=(hS.sub hh.to).parts;exact h (hu hA pa) a w hF hS
end
theorem Zbq_ {T sz m:Nat} {s:Value} {xs:List Value} {h:Heap} (hm:0<m) (ho:own T sz s m xs h):
  ∃x:Nat×Nat×List Value,(s= .slice (some ⟨x.1,0,none⟩) m x.2.1∧m≤x.2.1∧x.2.1≤9223372036854775807∧xs.length=m*sz∧(xs++x.2.2).length=x.2.1*sz)∧big [row x.1 T (xs++x.2.2)] h:=by
 obtain ⟨hl,hc⟩:=ho;rcases hc with ⟨rfl,_⟩ | ⟨b,cap,sp,rfl,_,h1,h2,h3,h4⟩
 ·omega
 ·exact ⟨(b,cap,sp),⟨rfl,h1,h2,hl,h3⟩,h,Heap.empty,h4,trivial,fun _=> .inr rfl,.refl _,fun _ _ h=>by simp [Heap.empty] at h⟩
theorem QE_ {T sz m b cap:Nat} {xs sp:List Value} {R:List za_} (hl:xs.length=m*sz) (h1:m≤cap) (h2:cap≤9223372036854775807) (h3:(xs++sp).length=cap*sz):
  Sub (row b T (xs++sp)::R) (own T sz (.slice (some ⟨b,0,none⟩) m cap) m xs::R):=fun h ⟨h1',h2',p,q,d,l1,l2⟩=>by
 refine ⟨h1',h2',⟨hl,?_⟩,q,d,l1,l2⟩;by_cases h0:cap=0
 ·subst h0;have:m=0:=by omega
  subst this;exact .inl ⟨rfl,_,rfl⟩
 ·exact .inr ⟨b,cap,sp,rfl,by omega,h1,h2,h3,p⟩
theorem QcU_ {T sz m:Nat} {s:Value} {xs:List Value} {h:Heap} (ho:own T sz s m xs h):(∃base cap,s= .slice base m cap∧m≤cap∧cap≤9223372036854775807)∧xs.length=m*sz:=by
 obtain ⟨hl,hc⟩:=ho;rcases hc with ⟨rfl,b,rfl⟩ | ⟨b,cap,sp,rfl,_,h1,h2,h3,h4⟩
 ·exact ⟨⟨b,0,rfl,by omega,by omega⟩,hl⟩
 ·exact ⟨⟨_,cap,rfl,h1,h2⟩,hl⟩
theorem ZcU_ {T sz m:Nat} {s:Value} {xs:List Value} {h H:Heap} (ho:own T sz s m xs h) (hl:h.le H) (h1:xs.all (·.oneCell')=true):SlcR H sz s m xs:=by
 obtain ⟨hxl,hc⟩:=ho;rcases hc with ⟨rfl,b,rfl⟩ | ⟨b,cap,sp,rfl,_,hm,hm2,h3,h4⟩
 ·have:xs=[]:=List.eq_nil_of_length_eq_zero (by simpa using hxl);subst this;exact SlcR.nil H sz b 0 (by omega)
 ·refine ⟨_,cap,rfl,⟨hm,hm2⟩,hxl,h1,.inr ⟨b,0,rfl,fun j u hj=>?_⟩⟩;have:(xs++sp)[j]?=some u:=by rw [List.getElem?_append_left (List.getElem?_eq_some_iff.1 hj).1];exact hj
  simp [hcell,hl _ _ h4,this]
section
variable {P:Program} {n:Nat} {W0:World} {F:zd_} {H:Heap} {L:List za_} {K:Value→Heap→List za_→Prop} {dst:Option Tmp} {ty:TypeId} {pos:String} {aft:Array Edge} {g:Option (Nat×Bool)}
theorem zN_ {t:TypeId} {x y:Operand} {b off k:Nat} {T:TypeId} {cs vs:List Value} {v:Value} {R:List za_} [hz:TSz P t k] (hx:opv F x=some (.pointer (some ⟨b,off,none⟩)))
  (hy:opv F y=some v) (hvc:v.cells=vs.toArray) (hl:vs.length=k) (h1:vs.all (·.oneCell')=true) (hu:Has L (row b T cs) R) (hle:off+vs.length≤cs.length)
  (hk:K undef H (row b T (cs.take off++vs++cs.drop (off+vs.length))::R)):OpW P n W0 ⟨dst,.store t x y,ty,pos,aft,g⟩ F H L K:=
 .of_skip fun a w hF hS=>by
  have h0:=hS.sub hu.to;have hst:=run_storeCells_at P b off T vs 0 cs.toArray w h0.ptRead.1 (by simpa using hle) (by simpa using h1);simp only [Nat.add_zero] at hst;refine ⟨H,_,_,?_,.refl _,hk,h0.rowPut (cs':=cs.take off++vs++cs.drop (off+vs.length))⟩;simp only [execOp,hF.opv hx,hF.opv hy,Instr.storeAt,Instr.sureAddr];simp [storeVar,hz.run,hvc,hl];rw [hst];simp [hl]
theorem qaX_ {t:TypeId} {x:Operand} {b off k:Nat} {T:TypeId} {cs vs:List Value} {R:List za_} [ht:TAgg P t true] [hz:TSz P t k] (hx:opv F x=some (.pointer (some ⟨b,off,none⟩)))
  (hu:Has L (row b T cs) R) (hv:At cs off vs) (hl:vs.length=k):
  OpP P n W0 ⟨dst,.load t x,ty,pos,aft,g⟩ F H L (.agg vs.toArray):= .mk fun a w hF hS=>by
 have h1:∀j v,vs[j]?=some v→w.cell? ((⟨b,off,none⟩:Addr).add j)=some v:=fun j v hj=>by
  rw [Addr.add_lit,(hS.sub hu.to).rowCell];exact hv j v hj
 simp [execOp,hF.opv hx,Instr.loadAt,Instr.sureAddr,qT_ (t:=t) hl h1]
theorem zaX_ {t tx e:TypeId} {sz by_:Nat} {z:Value} [hT:TSl P t e] [hI:TIn P e sz by_ z] {s x:Operand} {xv:Value} {b off m cap k mk:Nat} {cs news cs':List Value} {R:List za_}
  (hs:opv F s=some (.slice (some ⟨b,off,none⟩) m cap)) (hx:opv F x=some xv) (hh:Has L (row b e cs) R) (hsrc:∀w,St W0 H w L→Src P sz tx xv k news w) (hmk:m+k=mk) (hcs:cs.take (off+m*sz)++news++cs.drop (off+m*sz+news.length)=cs') (hroom:mk≤cap) (hfit:off+m*sz+news.length≤cs.length)
  (hk:K (.slice (some ⟨b,off,none⟩) mk cap) H (row b e cs'::R)):
  OpW P n W0 ⟨dst,.call ⟨.builtin .append,#[s,x],#[t,tx]⟩,ty,pos,aft,g⟩ F H L K:=
 .of_run fun a w hF hS=>by
  subst hmk;subst hcs;obtain ⟨i,hi,hsz,hby,hz,hzs,hpos⟩:=hI.ex;subst hsz;subst hby;have h0:=hS.sub hh.to;have hsr:=hsrc w hS;have hlen:=hsr.len;have hcells:=hsr.cells;have hst:=run_storeCells_at P b (off+m*i.size) e news 0 cs.toArray w h0.ptRead.1 (by simpa using hfit) hsr.one;simp only [Nat.add_zero] at hst;refine ⟨_,H,_,_,?_,.refl _,hk,h0.rowPut (cs':=cs.take (off+m*i.size)++news++cs.drop (off+m*i.size+news.length))⟩;simp only [execOp,resolve];rcases hsr.kind with ⟨e',hk'⟩ | hk'<;>simp [invoke,builtin,hF.opv hs,hF.opv hx,Builtin.append_,run_underlying hT.und,run_underlying hk',sizeOf,typeInfo,hi,hlen,hcells,hroom,Addr.add_lit]<;>simp at hst<;>rw [hst]<;>simp
theorem ZdL_ {t e:TypeId} {sz b off m c:Nat} {T:TypeId} {cs news:List Value} {R:List za_} [hT:TSl P t e] (hh:Has L (row b T cs) R) (ha:At cs off news) (hl:news.length=m*sz) (h1:news.all (·.oneCell')=true):
  ∀w,St W0 H w L→Src P sz t (.slice (some ⟨b,off,none⟩) m c) m news w:=fun w hS=>
 Src.ofSlice w hT.und _ m c news hl (fun j u hj=>by rw [Addr.add_lit,(hS.sub hh.to).rowCell];exact ha j u hj) (by simpa using h1)
theorem Zdt_ {t e:TypeId} {sz c:Nat} {base:Option Addr} [hT:TSl P t e]:∀w,St W0 H w L→Src P sz t (.slice base 0 c) 0 [] w:=fun w _=>by
 cases base with
 | none=>exact Src.ofNil w hT.und c
 | some a=>exact Src.ofSlice w hT.und a 0 c [] (by simp) (by simp) (by simp)
theorem qaq_ (z:Value) (m:Nat):(Builtin.zeroCells z.cells m).toList=(List.range (m*z.cells.size)).map fun i=>z.cells[i % z.cells.size]! :=by simp [Builtin.zeroCells,Array.toList_range]
theorem qbr_ {t e:TypeId} {sz by_:Nat} {z:Value} [hT:TSl P t e] [hI:TIn P e sz by_ z] {x:Operand} {b off m cap:Nat} {cs:List Value} {R:List za_} (hx:opv F x=some (.slice (some ⟨b,off,none⟩) m cap))
  (hh:Has L (row b e cs) R) (hfit:off+m*sz≤cs.length) (h1:z.cells.all (·.oneCell')=true) (hk:∀zs:List Value,zs.length=m*sz→K (.tuple #[]) H (row b e (cs.take off++zs++cs.drop (off+m*sz))::R)):
  OpW P n W0 ⟨dst,.call ⟨.builtin .clear,#[x],#[t]⟩,ty,pos,aft,g⟩ F H L K:=
 .of_run fun a w hF hS=>by
  obtain ⟨i,hi,hsz,hby,hz,hzs,hpos⟩:=hI.ex;subst hsz;have h0:=hS.sub hh.to;have hzl:(Builtin.zeroCells z.cells m).toList.length=m*i.size:=by rw [qaq_];simp [hzs]
  have hone:∀v∈(Builtin.zeroCells z.cells m).toList,v.oneCell'=true:=fun v hv=>by
   rw [qaq_] at hv;obtain ⟨j,_,rfl⟩:=List.mem_map.1 hv;have hlt:j % z.cells.size<z.cells.size:=Nat.mod_lt _ (by omega);rw [getElem!_pos z.cells _ hlt];exact (Array.all_eq_true.1 h1) _ hlt
  by_cases hm:m=0
  ·subst hm;refine ⟨_,H,_,w,?_,.refl _,hk [] (by simp),?_⟩
   ·simp only [execOp,resolve];simp [invoke,builtin,hF.opv hx,Builtin.clear_,run_underlying hT.und]
   ·simpa using h0
  ·have hst:=run_storeCells_at P b off e (Builtin.zeroCells z.cells m).toList 0 cs.toArray w h0.ptRead.1 (by simp only [hzl];simpa using hfit) hone;simp only [Nat.add_zero] at hst;refine ⟨_,H,_,_,?_,.refl _,hk (Builtin.zeroCells z.cells m).toList hzl,h0.rowPut (cs':=cs.take off++(Builtin.zeroCells z.cells m).toList++cs.drop (off+m*i.size))⟩;simp only [execOp,resolve];obtain ⟨m',rfl⟩:∃m',m=m'+1:=⟨m - 1,by omega⟩;simp [invoke,builtin,hF.opv hx,Builtin.clear_,run_underlying hT.und,zeroValue,typeInfo,hi,hz];rw [hst];simp [hzl]
theorem ZbX_ {f:FuncId} {l:List Operand} {vs:List Value} (ha:Args F l vs):OpP P n W0 ⟨dst,.makeFunc (.func f) #[] l.toArray,ty,pos,aft,g⟩ F H L (.func (.func f) #[] vs.toArray):= .mk fun a w hF hS=>by
 have:=ha.eval hF;simp [execOp,Instr.makeFunc,this]
theorem qcV_ {x y:Operand} {T T' e:TypeId} {base:Option Addr} {m c:Nat} [hT:TSl P T e] (hx:opv F x=some (.slice base m c)) (hy:opv F y=some (.slice none 0 0)):
  OpP P n W0 ⟨dst,.binOp .eql T x y T',ty,pos,aft,g⟩ F H L (.bool base.isNone):= .mk fun _ w hF _=>by
 simp only [execOp,hF.opv hx,hF.opv hy];simp [eqGuard_at_slice,binOp,run_equal_slice_nil w T e base m c hT.und]
class TPl (P:Program) (t:TypeId) (pl:outParam (List (Nat×Nat))):Prop where
  ex:∃fs,P.underlying t=some (.struct fs)∧∀w,(fs.mapM (m:=Sem) fun f=>do pure (f.offset,←sizeOf f.type)).run P w= .ok pl.toArray w
inductive FillR (F:zd_) (pl:List (Nat×Nat)):List (Nat×Operand)→List Value→List Value→Prop
  | nil {cs:List Value}:FillR F pl [] cs cs
  | cons {i off k:Nat} {x:Operand} {v:Value} {us cs cs' cs'':List Value} {r:List (Nat×Operand)}:pl[i]?=some (off,k)→opv F x=some v→v.cells=us.toArray→us.length=k→Lay cs off us cs'→FillR F pl r cs' cs''→FillR F pl ((i,x)::r) cs cs''
theorem qdu_:∀(l:List Value) (off i:Nat) (arr:List Value),off+i+l.length≤arr.length→
  (l.zipIdx i).foldl (fun (cs:Array Value) (c,j)=>cs.setIfInBounds (off+j) c) arr.toArray=(arr.take (off+i)++l++arr.drop (off+i+l.length)).toArray:=by
 intro l
 induction l with
 | nil=>intro off i arr _;simp
 | cons c l ih=>
  intro off i arr hl';simp only [List.zipIdx_cons,List.foldl_cons,List.setIfInBounds_toArray];rw [ih off (i+1) _ (by simp at hl'⊢;omega)];congr 1;simp only [List.length_cons] at hl'⊢;rw [List.drop_set_of_lt (by omega)]
  have e1:(arr.set (off+i) c).take (off+(i+1))=arr.take (off+i)++[c]:=by
   rw [←Nat.add_assoc,List.take_add_one,List.getElem?_set_self (by omega),List.take_set_of_le (by omega)];simp
  rw [e1];simp [Nat.add_assoc,Nat.add_comm 1]
theorem FillR.run {pl:List (Nat×Nat)} {ps:List (Nat×Operand)} {cs cs':List Value} (h:FillR F pl ps cs cs') {a:Act} (hF:FrOk n a F):Instr.fill (fun i=>pl[i]?) cs.toArray (ps.map fun x=>(x.1,a.eval x.2))=some cs'.toArray:=by
 induction h with
 | nil=>rfl
 | @cons i off k x v us cs cs' cs'' r hp hx hc hl hlay _ ih=>
  obtain ⟨he,hfit⟩:=hlay.eq;simp only [List.map_cons,Instr.fill,hp,hF.opv hx,hc];rw [if_neg (by simp;omega)];have:=qdu_ us off 0 cs (by omega);simp only [Nat.add_zero] at this;rw [←he] at this;have e2:(us.toArray.zipIdx.foldl (fun (cs:Array Value) (x:Value×Nat)=>match x with | (c,j)=>cs.setIfInBounds (off+j) c) cs.toArray)=cs'.toArray:=by simpa using this
  rw [e2];exact ih
theorem zbr_ {t:TypeId} {pl:List (Nat×Nat)} {ps:List (Nat×Operand)} {zs cs:List Value} [hT:TPl P t pl] [hZ:TZL P t zs] (hf:FillR F pl ps zs cs):
  OpP P n W0 ⟨dst,.build t ps.toArray,ty,pos,aft,g⟩ F H L (.agg cs.toArray):= .mk fun a w hF hS=>by
 obtain ⟨fs,hu,hm⟩:=hT.ex;obtain ⟨z,hz1,hz⟩:=hZ.ex;have:=hf.run hF;have hm':=hm w;simp only [execOp];simp [Instr.build,hz1,run_underlying hu,hz];simp at hm';rw [hm'];simp;rw [this];rfl
end
end Go.Sx
set_option linter.unusedVariables false
set_option linter.unusedSimpArgs false
namespace Go.Sx
open Go
def OL {α:Type} (O:List Value→α→za_):List Value→List α→za_
  | cs,[]=>fun _=>cs=[]
  | cs,x::xs=>fun h=>∃c r,cs=c++r∧big [O c x,OL O r xs] h
class OOk {α:Type} (O:List Value→α→za_) (sz:outParam Nat):Prop where
  len:∀{c x h},O c x h→c.length=sz
  one:∀{c x h},O c x h→c.all (·.oneCell')=true
  mono:∀{c x h h'},Heap.le h h'→O c x h→O c x h'
section
variable {α:Type} {O:List Value→α→za_} {sz:Nat}
theorem Zaa_ {A B:za_} {h:Heap} (hb:big [A,B] h):∃h1 h2,A h1∧B h2∧Disj h1 h2∧h1.le h∧h2.le h:=by
 obtain ⟨h1,h2,a,⟨h3,h4,b,_,d',l3,l4⟩,d,l1,l2⟩:=hb;exact ⟨h1,h3,a,b,(d.symm.mono l3).symm,l1,l3.trans l2⟩
theorem qab_ {A B:za_} {h h1 h2:Heap} (a:A h1) (b:B h2) (d:Disj h1 h2) (l1:h1.le h) (l2:h2.le h):big [A,B] h:=
 ⟨h1,h2,a,⟨h2,Heap.empty,b,trivial,fun _=> .inr rfl,.refl _,fun _ _ h=>by simp [Heap.empty] at h⟩,d,l1,l2⟩
theorem OL.mono [hO:OOk O sz]:∀{cs:List Value} {xs:List α} {h h':Heap},h.le h'→OL O cs xs h→OL O cs xs h'
 | _,[],_,_,_,hh=>hh
 | _,_::_,_,_,hl,⟨c,r,e,hb⟩=>⟨c,r,e,big_mono hl hb⟩
theorem OL.len [hO:OOk O sz]:∀{cs:List Value} {xs:List α} {h:Heap},OL O cs xs h→cs.length=xs.length*sz
 | _,[],_,hh=>by rw [show _=[] from hh];simp
 | _,_::xs,_,⟨c,r,e,hb⟩=>by
  obtain ⟨h1,h2,a,b,_⟩:=Zaa_ hb;rw [e,List.length_append,hO.len a,OL.len b,List.length_cons,Nat.add_mul];omega
theorem OL.join [hO:OOk O sz]:∀{cs ds:List Value} {xs ys:List α} {h:Heap},big [OL O cs xs,OL O ds ys] h→OL O (cs++ds) (xs++ys) h
 | cs,ds,[],ys,h,hb=>by
  obtain ⟨h1,h2,a,b,d,l1,l2⟩:=Zaa_ hb;rw [show cs=[] from a];exact OL.mono (O:=O) l2 b
 | cs,ds,x::xs,ys,h,hb=>by
  obtain ⟨h1,h2,⟨c,r,e,hb1⟩,b,d,l1,l2⟩:=Zaa_ hb;obtain ⟨h3,h4,a3,a4,d34,l3,l4⟩:=Zaa_ hb1;have d42:Disj h4 h2:=d.mono l4;have d32:Disj h3 h2:=d.mono l3;refine ⟨c,r++ds,by rw [e,List.append_assoc],qab_ a3 (OL.join (qab_ a4 b d42 (Qm_ _ _) (ql_ d42))) (Zz_ d34.symm d32.symm).symm (l3.trans l1) (QL_ (l4.trans l1) l2)⟩
theorem OL.split [hO:OOk O sz]:∀{k:Nat} {cs:List Value} {xs:List α} {h:Heap},OL O cs xs h→k≤xs.length→big [OL O (cs.take (k*sz)) (xs.take k),OL O (cs.drop (k*sz)) (xs.drop k)] h
 | 0,cs,xs,h,ho,_=>by
  simp only [Nat.zero_mul,List.take_zero,List.drop_zero];exact qab_ (h1:=Heap.empty) rfl ho (fun _=> .inl rfl) (fun _ _ h=>by simp [Heap.empty] at h) (.refl _)
 | k+1,_,[],_,_,hk=>by simp at hk
 | k+1,cs,x::xs,h,⟨c,r,e,hb⟩,hk=>by
  obtain ⟨h1,h2,a,b,d,l1,l2⟩:=Zaa_ hb;have hl:=hO.len a;obtain ⟨h3,h4,p,q,d34,l3,l4⟩:=Zaa_ (OL.split b (k:=k) (by simpa using hk));have e1:(k+1)*sz=c.length+k*sz:=by rw [Nat.add_mul,hl];omega
  rw [e,e1,List.take_length_add_append,List.drop_length_add_append];have d13:Disj h1 h3:=(d.symm.mono l3).symm;have d14:Disj h1 h4:=(d.symm.mono l4).symm;exact qab_ (h1:=qk_ h1 h3) ⟨c,_,rfl,qab_ a p d13 (Qm_ _ _) (ql_ d13)⟩ q (Zz_ d14 d34) (QL_ l1 (l3.trans l2)) (l4.trans l2)
theorem zcV_ {A B C:za_} {h h1 h2 h3:Heap} (a:A h1) (b:B h2) (c:C h3) (d12:Disj h1 h2) (d13:Disj h1 h3) (d23:Disj h2 h3) (l1:h1.le h) (l2:h2.le h) (l3:h3.le h):big [A,B,C] h:=
 ⟨h1,qk_ h2 h3,a,qab_ b c d23 (Qm_ _ _) (ql_ d23),(Zz_ d12.symm d13.symm).symm,l1,QL_ l2 l3⟩
theorem OL.at [hO:OOk O sz] {k:Nat} {cs:List Value} {xs:List α} {h:Heap} (ho:OL O cs xs h) (hk:k<xs.length):
  ∃c r,cs.drop (k*sz)=c++r∧c.length=sz∧big [OL O (cs.take (k*sz)) (xs.take k),O c xs[k],OL O r (xs.drop (k+1))] h:=by
 obtain ⟨h1,h2,a,b,d,l1,l2⟩:=Zaa_ (ho.split (Nat.le_of_lt hk));rw [List.drop_eq_getElem_cons hk] at b;obtain ⟨c,r,e,hb⟩:=b;obtain ⟨h3,h4,p,q,d34,l3,l4⟩:=Zaa_ hb;exact ⟨c,r,e,hO.len p,zcV_ a p q (d.symm.mono l3).symm (d.symm.mono l4).symm d34 l1 (l3.trans l2) (l4.trans l2)⟩
theorem OL.put [hO:OOk O sz] {c1 c c2:List Value} {xs ys:List α} {x:α} {h:Heap} (hb:big [OL O c1 xs,O c x,OL O c2 ys] h):OL O (c1++(c++c2)) (xs++x::ys) h:=by
 obtain ⟨h1,h2,a,hb2,d,l1,l2⟩:=hb;obtain ⟨h3,h4,p,q,d34,l3,l4⟩:=Zaa_ hb2;exact OL.join (qab_ a (h2:=h2) ⟨c,c2,rfl,hb2⟩ d l1 l2)
theorem qcy_ {cs sp c r:List Value} {off:Nat} (e:cs.drop off=c++r):At (cs++sp) (0+off) c:=fun j v hj=>by
 have hj1:(cs.drop off)[j]?=some v:=by rw [e,List.getElem?_append_left (List.getElem?_eq_some_iff.1 hj).1];exact hj
 rw [List.getElem?_drop] at hj1;rw [Nat.zero_add,List.getElem?_append_left (List.getElem?_eq_some_iff.1 hj1).1];exact hj1
end
theorem ASrc.row0 {P:Program} {sz:Nat} {H:Heap} {L:List za_} {t e:TypeId} {b m c:Nat} {T:TypeId} {cs:List Value} {R:List za_} (hk:P.underlying t=some (.slice e)) (hh:Has L (Sx.row b T cs) R) (hl:cs.length=m*sz) (h1:cs.all (·.oneCell')=true):
  ASrc P sz H L t (.slice (some ⟨b,0,none⟩) m c) m cs:= .row (sp:=[]) hk (by rw [List.append_nil];exact hh) hl h1
section
variable {P:Program} {n:Nat} {W0:World} {F:zd_} {H:Heap} {L:List za_} {K:Value→Heap→List za_→Prop} {dst:Option Tmp} {ty:TypeId} {pos:String} {aft:Array Edge} {g:Option (Nat×Bool)}
theorem QcV_ (base:Option Addr) (cap h sz:Nat):slc base cap 0 h sz= .slice base h cap:=by
 unfold slc;cases base<;>simp [Addr.add]
theorem ZcV_ {b off cap l h sz:Nat} (hl:l<cap):slc (some ⟨b,off,none⟩) cap l h sz= .slice (some ⟨b,off+l*sz,none⟩) (h - l) (cap - l):=by
 unfold slc;rw [if_neg (by omega)];simp [Addr.add_lit]
theorem zbh_ {t e:TypeId} {sz:Nat} [hT:TSl P t e] [hs:TSz P e sz] {x y:Operand} {base:Option Addr} {m cap:Nat} {h:Int} {k:IntKind} (hx:opv F x=some (.slice base m cap)) (hy:opv F y=some (.int k h)) (h1:0≤h) (h2:h≤cap):
  OpP P n W0 ⟨dst,.slice t x none (some y) none,ty,pos,aft,g⟩ F H L (.slice base h.toNat cap):=by
 have:=zH_ (P:=P) (n:=n) (W0:=W0) (H:=H) (L:=L) (dst:=dst) (ty:=ty) (pos:=pos) (aft:=aft) (g:=g) (t:=t) (lo:=none) (hi:=some y) (l:=0) (h:=h) hx rfl (by simp [ob,hy]) (by omega) h1 h2;rwa [show (0:Int).toNat=0 from rfl,QcV_] at this
theorem ZbF_ {t e:TypeId} {sz:Nat} [hT:TSl P t e] [hs:TSz P e sz] {x y:Operand} {b off m cap:Nat} {l:Int} {k:IntKind} (hx:opv F x=some (.slice (some ⟨b,off,none⟩) m cap)) (hy:opv F y=some (.int k l)) (h0:0≤l) (h1:l≤m) (h2:m≤cap) (h3:l<cap):
  OpP P n W0 ⟨dst,.slice t x (some y) none none,ty,pos,aft,g⟩ F H L (.slice (some ⟨b,off+l.toNat*sz,none⟩) (m - l.toNat) (cap - l.toNat)):=by
 have:=zH_ (P:=P) (n:=n) (W0:=W0) (H:=H) (L:=L) (dst:=dst) (ty:=ty) (pos:=pos) (aft:=aft) (g:=g) (t:=t) (lo:=some y) (hi:=none) (l:=l) (h:=m) hx (by simp [ob,hy]) rfl h0 h1 (by omega);rwa [ZcV_ (by omega)] at this
theorem qbY_ {t e:TypeId} {sz:Nat} [hT:TSl P t e] [hs:TSz P e sz] {x y z:Operand} {b off m cap:Nat} {l h:Int} {k k':IntKind} (hx:opv F x=some (.slice (some ⟨b,off,none⟩) m cap)) (hy:opv F y=some (.int k l)) (hz:opv F z=some (.int k' h)) (h0:0≤l) (h1:l≤h) (h2:h≤cap) (h3:l<cap):
  OpP P n W0 ⟨dst,.slice t x (some y) (some z) none,ty,pos,aft,g⟩ F H L (.slice (some ⟨b,off+l.toNat*sz,none⟩) (h.toNat - l.toNat) (cap - l.toNat)):=by
 have:=zH_ (P:=P) (n:=n) (W0:=W0) (H:=H) (L:=L) (dst:=dst) (ty:=ty) (pos:=pos) (aft:=aft) (g:=g) (t:=t) (lo:=some y) (hi:=some z) (l:=l) (h:=h) hx (by simp [ob,hy]) (by simp [ob,hz]) h0 h1 h2;rwa [ZcV_ (by omega)] at this
theorem qcW_ {t e:TypeId} {sz:Nat} [hT:TSl P t e] [hs:TSz P e sz] {x lo hi mx:Operand} {base:Option Addr} {m cap:Nat} {k1 k2 k3:IntKind} {l h u:Int} (hx:opv F x=some (.slice base m cap)) (hlo:opv F lo=some (.int k1 l)) (hhi:opv F hi=some (.int k2 h)) (hmx:opv F mx=some (.int k3 u))
  (h0:0≤l) (h1:l≤h) (h2:h≤u) (h3:u≤cap):
  OpP P n W0 ⟨dst,.slice t x (some lo) (some hi) (some mx),ty,pos,aft,g⟩ F H L (slc base u.toNat l.toNat h.toNat sz):=
 .mk fun a w hF hS=>by
  have e3:∀c:BoundsCode,(Instr.sliceBound (.int k3 u) cap c).run P w= .ok u.toNat w:=fun c=>by
   simp [Instr.sliceBound,asIntOf,show 0≤u by omega,h3]
  have e2:∀c:BoundsCode,(Instr.sliceBound (.int k2 h) u.toNat c).run P w= .ok h.toNat w:=fun c=>by
   simp [Instr.sliceBound,asIntOf,show 0≤h by omega];omega
  have e1:∀c:BoundsCode,(Instr.sliceBound (.int k1 l) h.toNat c).run P w= .ok l.toNat w:=fun c=>by
   simp [Instr.sliceBound,asIntOf,h0];omega
  simp only [execOp];simp [Instr.sliceAt,Instr.slice,Instr.sliceBounds,run_underlying hT.und,hs.run,hF.opv hx,hF.opv hlo,hF.opv hhi,hF.opv hmx,e1,e2,e3,slc]
end
class TPt (P:Program) (t:TypeId):Prop where
  ex:∃e,P.underlying t=some (.pointer e)
section
variable {P:Program} {n:Nat} {W0:World} {F:zd_} {H:Heap} {L:List za_} {dst:Option Tmp} {ty:TypeId} {pos:String} {aft:Array Edge} {g:Option (Nat×Bool)}
theorem v77_ {P:Prop} (h:P:=by
 simp only [execOp,hF.opv hx,hF.opv hy];simp [eqGuard_at_pointer,binOp,h0]):P:=h
theorem zcW_ {x y:Operand} {T T':TypeId} {a:Addr} [hT:TPt P T] (hx:opv F x=some (.pointer (some a))) (hy:opv F y=some (.pointer none)):
  OpP P n W0 ⟨dst,.binOp .eql T x y T',ty,pos,aft,g⟩ F H L (.bool false):= .mk fun _ w hF _=>by
 obtain ⟨e,he⟩:=hT.ex
 have h0:(Op.equal T (.pointer (some a)) (.pointer none)).run P w= .ok false w:=by
  have:∀d,(Op.equalIn (d+1) T (.pointer (some a)) (.pointer none)).run P w= .ok false w:=fun d=>by simp [Op.equalIn,run_underlying he]
  exact this 9999
 exact v77_
end
section
variable {P:Program} {n:Nat} {W0:World} {F:zd_} {H:Heap} {L:List za_} {dst:Option Tmp} {ty:TypeId} {pos:String} {aft:Array Edge} {g:Option (Nat×Bool)}
theorem qdZ_ {x y:Operand} {at_:Array TypeId} {k:IntKind} {a b z:Int} (hx:opv F x=some (.int k a)) (hy:opv F y=some (.int k b)) (hz:z=if b<a then b else a):
  OpP P n W0 ⟨dst,.call ⟨.builtin .min,#[x,y],at_⟩,ty,pos,aft,g⟩ F H L (.int k z):= .mk fun _ w hF _=>by
 subst hz;simp only [execOp,resolve];simp [invoke,builtin,hF.opv hx,hF.opv hy,Builtin.min_,Builtin.min2]
theorem zdZ_ {x y:Operand} {at_:Array TypeId} {k:IntKind} {a b z:Int} (hx:opv F x=some (.int k a)) (hy:opv F y=some (.int k b)) (hz:z=if a<b then b else a):
  OpP P n W0 ⟨dst,.call ⟨.builtin .max,#[x,y],at_⟩,ty,pos,aft,g⟩ F H L (.int k z):= .mk fun _ w hF _=>by
 subst hz;simp only [execOp,resolve];simp [invoke,builtin,hF.opv hx,hF.opv hy,Builtin.max_,Builtin.max2]
end
theorem qdM_ {T sz m b cap off:Nat} {xs sp vs:List Value} {R:List za_} (hl:xs.length=m*sz) (h1:m≤cap) (h2:cap≤9223372036854775807) (h3:(xs++sp).length=cap*sz) (ho:off+vs.length≤xs.length):
  Sub (row b T ((xs++sp).take off++vs++(xs++sp).drop (off+vs.length))::R) (own T sz (.slice (some ⟨b,0,none⟩) m cap) m (xs.take off++vs++xs.drop (off+vs.length))::R):=by
 have e:(xs++sp).take off++vs++(xs++sp).drop (off+vs.length)=(xs.take off++vs++xs.drop (off+vs.length))++sp:=by
  rw [List.take_append_of_le_length (by omega),List.drop_append_of_le_length (by omega)];simp [List.append_assoc]
 rw [e];have hlen:(xs.take off++vs++xs.drop (off+vs.length)).length=xs.length:=by simp only [List.length_append,List.length_take,List.length_drop];omega
 exact QE_ (by rw [hlen,hl]) h1 h2 (by rw [List.length_append,hlen,←List.length_append,h3])
/-- a part of what is held -/
theorem subA {L L':List za_} (h:Sub L L':=by (repeat (first | exact Sub.refl _ | exact Sub.nil _ | (apply sub_pick;(repeat (first | exact Has.here | apply Has.there));skip) | apply Sub.drop))):Sub L L':=h
theorem leA {H H':Heap} (h:H.le H':=by first | exact Go.Sx.Heap.le.refl _ | assumption | ((try simp only [Go.Sx.le_self] at*);(repeat (first | exact Go.Sx.Heap.le.refl _ | assumption | refine Go.Sx.Heap.le.trans ?_ ‹Go.Sx.Heap.le _ _›)))):H.le H':=h
end Go.Sx
