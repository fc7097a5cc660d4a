/- The engine. No program in sight. -/
import Derived.Test.YtlflbkpmfhhikaaGreatDoorKKA
import Derived.ChangeSame
import Derived.JoinedOf
import Derived.JoinedAt
import Derived.RowKit
import Derived.Carry
import Derived.ChangeSlices
import Derived.SizedLaws
set_option linter.unusedVariables false
set_option linter.unusedSimpArgs false
namespace Go.Sx
open Go
theorem le_self {H:Heap}:Heap.le H H↔True:=⟨fun _=>trivial,fun _=> .refl _⟩
def opvs (F:zd_):List Operand→Option (List Value)
  | []=>some []
  | x::r=>match opv F x with
    | none=>none
    | some v=>match opvs F r with
      | none=>none
      | some vs=>some (v::vs)
theorem Zv_ {F:zd_}:∀{l:List Operand} {vs:List Value},opvs F l=some vs→Args F l vs
 | [],vs,h=>by cases h;exact .nil
 | x::r,vs,h=>by
  simp only [opvs] at h;split at h
  ·cases h
  ·next v hv=>
   split at h
   ·cases h
   ·next us hu=>cases h;exact .cons hv (Zv_ hu)
theorem zae_ {F:zd_} {x:Operand} {v:Value} (h:opvs F [x]=some [v]):opv F x=some v:=by
 cases Zv_ h with | cons h _=>exact h
theorem qf_ {F:zd_} {x y:Operand} {v u:Value} (h:opvs F [x,y]=some [v,u]):opv F x=some v∧opv F y=some u:=by
 cases Zv_ h with | cons h h'=>cases h' with | cons h' _=>exact ⟨h,h'⟩
theorem ZC_ {F:zd_} {x y z:Operand} {v u t:Value} (h:opvs F [x,y,z]=some [v,u,t]):opv F x=some v∧opv F y=some u∧opv F z=some t:=by
 cases Zv_ h with | cons h h'=>cases h' with | cons h' h''=>cases h'' with | cons h'' _=>exact ⟨h,h',h''⟩
theorem zdp_ {F:zd_} {x y z r:Operand} {v u t s:Value} (h:opvs F [x,y,z,r]=some [v,u,t,s]):opv F x=some v∧opv F y=some u∧opv F z=some t∧opv F r=some s:=by
 cases Zv_ h with | cons h h'=>cases h' with | cons h' h''=>cases h'' with | cons h'' h3=>cases h3 with | cons h3 _=>exact ⟨h,h',h'',h3⟩
theorem OpP.cast {P:Program} {n:Nat} {W0:World} {F:zd_} {H:Heap} {L:List za_} {o:Oper} {v v':Value} (h:OpP P n W0 o F H L v) (e:v=v'):OpP P n W0 o F H L v':=e▸h
def Qae_:Op→List Operand
  | .move x=>[x]
  | .assign x=>[x]
  | .nilCheck x=>[x]
  | .fieldAddr _ x _=>[x]
  | .unOp _ _ x=>[x]
  | .convert _ _ x=>[x]
  | .pick c a b=>[c,a,b]
  | .binOp _ _ x y _=>[x,y]
  | .indexAddr _ x y=>[x,y]
  | .index _ x y=>[x,y]
  | .field _ x _=>[x]
  | .slice _ x none none none=>[x]
  | .slice _ x (some l) none none=>[x,l]
  | .slice _ x none (some h) none=>[x,h]
  | .slice _ x (some l) (some h) none=>[x,l,h]
  | .slice _ x (some l) (some h) (some m)=>[x,l,h,m]
  | .call c=>c.args.toList
  | .makeFunc _ _ c=>c.toList
  | _=>[]
class POp (P:Program) (op:Op) (vs:List Value) (side:outParam Prop) (v:outParam Value):Prop where
  run:∀{n:Nat} {W0:World} {F:zd_} {H:Heap} {L:List za_} {dst:Option Tmp} {ty:TypeId} {pos:String} {aft:Array Edge} {g:Option (Nat×Bool)},side→opvs F (Qae_ op)=some vs→OpP P n W0 ⟨dst,op,ty,pos,aft,g⟩ F H L v
class BOp (P:Program) (op:Op) (vs:List Value) (p:outParam Prop) (dp:outParam (Decidable p)):Prop where
  run:∀{n:Nat} {W0:World} {F:zd_} {H:Heap} {L:List za_} {dst:Option Tmp} {ty:TypeId} {pos:String} {aft:Array Edge} {g:Option (Nat×Bool)},opvs F (Qae_ op)=some vs→OpP P n W0 ⟨dst,op,ty,pos,aft,g⟩ F H L (.bool (@decide p dp))
class NatOf (i:Int) (j:outParam Nat):Prop where
  h:i=(j:Int)
instance {k:Nat}:NatOf (k:Int) k:=⟨rfl⟩
instance {a b:Int} {j l:Nat} [ha:NatOf a j] [hb:NatOf b l]:NatOf (a+b) (j+l):=⟨by rw [ha.h,hb.h];rfl⟩
section
variable {P:Program} {x y z c:Operand} {v u:Value} {T T' e:TypeId} {k:IntKind} {a b:Int}
instance :POp P (.move x) [v] True v:=⟨fun _ h=>ZdH_ (zae_ h)⟩
instance :POp P (.assign x) [v] True v:=⟨fun _ h=>ZcR_ (zae_ h)⟩
instance {p:Addr}:POp P (.nilCheck x) [.pointer (some p)] True (.pointer (some p)):=⟨fun _ h=>zbW_ (zae_ h)⟩
instance {s:TypeId} {f off fo:Nat} {ft:TypeId} {b:Nat} [TFd P s f fo ft]:POp P (.fieldAddr s x f) [.pointer (some ⟨b,off,none⟩)] True (.pointer (some ⟨b,off+fo,none⟩)):=⟨fun _ h=>qaK_ (zae_ h)⟩
instance {s:TypeId} {f fo:Nat} {ft:TypeId} {b:Nat} [TFd P s f fo ft]:POp P (.fieldAddr s x f) [.pointer (some ⟨b,0,none⟩)] True (.pointer (some ⟨b,fo,none⟩)):=⟨fun _ h=>by
  exact (qaK_ (zae_ h)).cast (by simp)⟩
instance {v':Value}:POp P (.pick c x y) [.bool true,v,v'] True v:=⟨fun _ h=>qam_ (ZC_ h).1 (ZC_ h).2.1⟩
instance {v':Value}:POp P (.pick c x y) [.bool false,v,v'] True v':=⟨fun _ h=>zam_ (ZC_ h).1 (ZC_ h).2.2⟩
instance :POp P (.binOp .add T x y T') [.int .i64 a,.int .i64 b] (fits (a+b)) (.int .i64 (a+b)):=⟨fun s h=>zdV_ (qf_ h).1 (qf_ h).2 s⟩
instance :POp P (.binOp .sub T x y T') [.int .i64 a,.int .i64 b] (fits (a - b)) (.int .i64 (a - b)):=⟨fun s h=>QdV_ (qf_ h).1 (qf_ h).2 s⟩
instance :POp P (.binOp .mul T x y T') [.int .i64 a,.int .i64 b] (fits (a*b)) (.int .i64 (a*b)):=⟨fun s h=>ZdV_ (qf_ h).1 (qf_ h).2 s⟩
instance (priority:=low):POp P (.binOp .sub T x y T') [.int k a,.int k b] True (.int k (k.wrap (a - b))):=⟨fun s h=>qdI_ (qf_ h).1 (qf_ h).2⟩
instance :POp P (.binOp .quo T x y T') [.int .i64 a,.int .i64 b] (0<b∧fits (a.tdiv b)) (.int .i64 (a.tdiv b)):=⟨fun s h=>qdW_ (qf_ h).1 (qf_ h).2 s.1 s.2⟩
instance :POp P (.binOp .rem T x y T') [.int k a,.int k b] (0<b) (.int k (a.tmod b)):=⟨fun s h=>zdW_ (qf_ h).1 (qf_ h).2 s⟩
instance :POp P (.unOp .neg T x) [.int .i64 a] (fits (-a)) (.int .i64 (-a)):=⟨fun s h=>qdY_ (zae_ h) s⟩
instance :POp P (.unOp .not T x) [.bool true] True (.bool false):=⟨fun s h=>ZbE_ (zae_ h)⟩
instance :POp P (.unOp .not T x) [.bool false] True (.bool true):=⟨fun s h=>ZbE_ (zae_ h)⟩
instance [TIt P T k] [TIt P T' .i64]:POp P (.convert T T' x) [.int k a] (fits a) (.int .i64 a):=⟨fun s h=>zds_ (zae_ h) s⟩
instance (priority:=low) {k':IntKind} [TIt P T k] [TIt P T' k']:POp P (.convert T T' x) [.int k a] True (.int k' (k'.wrap a)):=⟨fun s h=>zdJ_ (zae_ h)⟩
instance {base:Option Addr} {m c:Nat} [TSl P T e]:POp P (.call ⟨.builtin .len,#[x],#[T]⟩) [.slice base m c] True (.int .i64 m):=⟨fun s h=>zdY_ rfl (zae_ h)⟩
instance {s:ByteArray} [TSt P T]:POp P (.call ⟨.builtin .len,#[x],#[T]⟩) [.string s] True (.int .i64 s.size):=⟨fun _ h=>QdJ_ rfl (zae_ h)⟩
theorem zdT_ {a b:Int}:min a b=if b<a then b else a:=by rw [Int.min_def];split<;>split<;>omega
theorem QdT_ {a b:Int}:max a b=if a<b then b else a:=by rw [Int.max_def];split<;>split<;>omega
instance {ts:Array TypeId}:POp P (.call ⟨.builtin .min,#[x,y],ts⟩) [.int k a,.int k b] True (.int k (min a b)):=⟨fun _ h=>qdZ_ (qf_ h).1 (qf_ h).2 zdT_⟩
instance {ts:Array TypeId}:POp P (.call ⟨.builtin .max,#[x,y],ts⟩) [.int k a,.int k b] True (.int k (max a b)):=⟨fun _ h=>zdZ_ (qf_ h).1 (qf_ h).2 QdT_⟩
instance {b off m c sz j:Nat} {i:Int} [TSl P T e] [TSz P e sz] [hi:NatOf i j]:POp P (.indexAddr T x y) [.slice (some ⟨b,off,none⟩) m c,.int k i] (j<m) (.pointer (some ⟨b,off+j*sz,none⟩)):=⟨fun s h=>by
  obtain ⟨rfl⟩:=hi;exact qy_ (qf_ h).1 (qf_ h).2 (by omega) (by omega)⟩
instance {base:Option Addr} {m cap sz j:Nat} {i:Int} [TSl P T e] [TSz P e sz] [hi:NatOf i j]:POp P (.slice T x none (some y) none) [.slice base m cap,.int k i] (j≤cap) (.slice base j cap):=⟨fun s h=>by
  obtain ⟨rfl⟩:=hi;exact zbh_ (qf_ h).1 (qf_ h).2 (by omega) (by omega)⟩
instance {b off m cap sz j:Nat} {i:Int} [TSl P T e] [TSz P e sz] [hi:NatOf i j]:POp P (.slice T x (some y) none none) [.slice (some ⟨b,off,none⟩) m cap,.int k i] (j≤m∧m≤cap∧j<cap) (.slice (some ⟨b,off+j*sz,none⟩) (m - j) (cap - j)):=⟨fun s h=>by
  obtain ⟨rfl⟩:=hi;exact ZbF_ (qf_ h).1 (qf_ h).2 (by omega) (by omega) s.2.1 (by omega)⟩
instance {b off m cap sz j l:Nat} {k':IntKind} {i u:Int} [TSl P T e] [TSz P e sz] [hi:NatOf i j] [hu:NatOf u l]:POp P (.slice T x (some y) (some z) none) [.slice (some ⟨b,off,none⟩) m cap,.int k i,.int k' u] (j≤l∧l≤cap∧j<cap) (.slice (some ⟨b,off+j*sz,none⟩) (l - j) (cap - j)):=⟨fun s h=>by
  obtain ⟨rfl⟩:=hi;obtain ⟨rfl⟩:=hu;exact qbY_ (ZC_ h).1 (ZC_ h).2.1 (ZC_ h).2.2 (by omega) (by omega) (by omega) (by omega)⟩
instance (priority:=low) {base:Option Addr} {m cap sz:Nat} {i:Int} [TSl P T e] [TSz P e sz]:POp P (.slice T x none (some y) none) [.slice base m cap,.int k i] (0≤i∧i≤cap) (.slice base i.toNat cap):=⟨fun s h=>zbh_ (qf_ h).1 (qf_ h).2 s.1 s.2⟩
instance {base:Option Addr} {m cap sz:Nat} {k1 k2 k3:IntKind} {i j u:Int} {r:Operand} [TSl P T e] [TSz P e sz]:POp P (.slice T x (some y) (some z) (some r)) [.slice base m cap,.int k1 i,.int k2 j,.int k3 u] (0≤i∧i≤j∧j≤u∧u≤cap) (slc base u.toNat i.toNat j.toNat sz):=
  ⟨fun s h=>qcW_ (zdp_ h).1 (zdp_ h).2.1 (zdp_ h).2.2.1 (zdp_ h).2.2.2 s.1 s.2.1 s.2.2.1 s.2.2.2⟩
instance {f:FuncId} {l:Array Operand} {vs:List Value}:POp P (.makeFunc (.func f) #[] l) vs True (.func (.func f) #[] vs.toArray):=⟨fun _ h=>by
  have:=Zv_ h
  rw [show l=l.toList.toArray by simp];exact ZbX_ this⟩
instance :BOp P (.binOp .eql T x y T') [.int k a,.int k b] (a=b) inferInstance:=⟨fun h=>QdW_ (qf_ h).1 (qf_ h).2⟩
instance :BOp P (.binOp .neq T x y T') [.int k a,.int k b] (¬a=b) inferInstance:=⟨fun h=>(ZdW_ (qf_ h).1 (qf_ h).2).cast (by simp)⟩
instance :BOp P (.binOp .lss T x y T') [.int k a,.int k b] (a<b) inferInstance:=⟨fun h=>qdX_ (qf_ h).1 (qf_ h).2⟩
instance :BOp P (.binOp .leq T x y T') [.int k a,.int k b] (a≤b) inferInstance:=⟨fun h=>zdX_ (qf_ h).1 (qf_ h).2⟩
instance :BOp P (.binOp .gtr T x y T') [.int k a,.int k b] (b<a) inferInstance:=⟨fun h=>QdX_ (qf_ h).1 (qf_ h).2⟩
instance :BOp P (.binOp .geq T x y T') [.int k a,.int k b] (b≤a) inferInstance:=⟨fun h=>ZdX_ (qf_ h).1 (qf_ h).2⟩
instance {s t:ByteArray}:BOp P (.binOp .eql T x y T') [.string s,.string t] (s=t) inferInstance:=⟨fun h=>QdI_ (qf_ h).1 (qf_ h).2⟩
instance {s t:ByteArray}:BOp P (.binOp .neq T x y T') [.string s,.string t] (¬s=t) inferInstance:=⟨fun h=>(ZdI_ (qf_ h).1 (qf_ h).2).cast (by simp)⟩
def SLt (s t:ByteArray):Prop:=Zcx_ s t=true
instance {s t:ByteArray}:Decidable (SLt s t):=inferInstanceAs (Decidable (Zcx_ s t=true))
instance {s t:ByteArray}:BOp P (.binOp .lss T x y T') [.string s,.string t] (SLt s t) inferInstance:=⟨fun h=>(qdJ_ (qf_ h).1 (qf_ h).2).cast (by cases h2:Zcx_ s t<;>by_cases h1:s=t<;>simp_all [SLt])⟩
instance {p:Prop} {dp:Decidable p}:BOp P (.unOp .not T x) [.bool (@decide p dp)] (¬p) inferInstance:=⟨fun h=>(ZbE_ (zae_ h)).cast (by simp)⟩
instance [TPt P T] {p:Addr}:POp P (.binOp .eql T x y T') [.pointer (some p),.pointer none] True (.bool false):=⟨fun _ h=>zcW_ (qf_ h).1 (qf_ h).2⟩
instance [TSl P T e] {base:Option Addr} {m c:Nat}:BOp P (.binOp .eql T x y T') [.slice base m c,.slice none 0 0] (base=none) inferInstance:=⟨fun h=>(qcV_ (qf_ h).1 (qf_ h).2).cast (by cases base<;>simp)⟩
end
inductive Fr
  | seq (c:Code)
  | blk (id:Nat)
  | cut (K:Act→World→Prop)
def Kx (P:Program) (Q:Exit→Act→World→Prop):List Fr→Exit→Act→World→Prop
  | []=>Q
  | .seq c::k=>Exit.then (c.wp P (Kx P Q k)) (Kx P Q k)
  | .blk id::k=>Exit.inBlock id (Kx P Q k)
  | .cut K::k=>Exit.then K (Kx P Q k)
section
variable (P:Program) (n:Nat) (W0:World) (Q:Exit→Act→World→Prop) (F:zd_) (H:Heap) (L:List za_)
structure Ex (c:Code) (k:List Fr):Prop where
  run:Sat n W0 F H L (c.wp P (Kx P Q k))
structure Ops (q:Bool) (ops:Array Oper) (rest:List Oper) (k:List Fr):Prop where
  run:SL q P n W0 F H L ops (Kx P Q k) rest
structure Out (e:Exit) (k:List Fr):Prop where
  run:Sat n W0 F H L (Kx P Q k e)
end
def gval (ops:Array Oper) (F:zd_):Option (Nat×Bool)→Option (Option (Value×Bool))
  | none=>some none
  | some (j,w)=>match (ops[j]?).bind (·.dst) with
    | none=>none
    | some t=>match fget F t with
      | some v=>some (some (v,w))
      | none=>none
class GOk (g:Option (Value×Bool)) (b:Bool):Prop where
  h:match g with | none=>b=true | some (v,w)=>if b then v= .bool w else gno v w=true
instance :GOk none true:=⟨rfl⟩
instance :GOk (some (.bool true,true)) true:=⟨rfl⟩
instance :GOk (some (.bool false,false)) true:=⟨rfl⟩
instance :GOk (some (.bool true,false)) false:=⟨rfl⟩
instance :GOk (some (.bool false,true)) false:=⟨rfl⟩
instance {w:Bool}:GOk (some (undef,w)) false:=⟨rfl⟩
def layC:List Value→Nat→List Value→Option (List Value)
  | cs,0,[]=>some cs
  | _::cs,0,v::vs=>match layC cs 0 vs with | some us=>some (v::us) | none=>none
  | c::cs,off+1,vs=>match layC cs off vs with | some us=>some (c::us) | none=>none
  | [],_,_=>none
theorem zaN_:∀{cs:List Value} {off:Nat} {vs us:List Value},layC cs off vs=some us→Lay cs off vs us
 | cs,0,[],us,h=>by simp [layC] at h;subst h;exact .done
 | c::cs,0,v::vs,us,h=>by
  simp only [layC] at h;split at h
  ·next us hu=>cases h;exact .more (zaN_ hu)
  ·cases h
 | c::cs,off+1,vs,us,h=>by
  simp only [layC] at h;split at h
  ·next us hu=>cases h;exact .skip (zaN_ hu)
  ·cases h
 | [],0,v::vs,us,h=>by simp [layC] at h
 | [],off+1,vs,us,h=>by simp [layC] at h
def Zck_:Value→List Value
  | .agg a=>a.toList
  | v=>[v]
theorem zcP_ (v:Value):v.cells=(Zck_ v).toArray:=by cases v<;>simp [Zck_,Value.cells]
section
variable {q:Bool} {P:Program} {n:Nat} {W0:World} {Q:Exit→Act→World→Prop} {F:zd_} {H:Heap} {L:List za_} {ops:Array Oper} {rest:List Oper} {k:List Fr} {op:Op} {ty:TypeId} {pos:String} {aft:Array Edge} {d:Tmp} {g:Option (Nat×Bool)} {v:Value} {vs:List Value}
theorem Zae_ {j:Nat} {w b:Bool} {gv:Option (Value×Bool)} (h:gval ops F (some (j,w))=some gv) [hb:GOk gv b]:∃dj u,(ops[j]?).bind (·.dst)=some dj∧fget F dj=some u∧(b=true→u= .bool w)∧(b=false→gno u w=true):=by
 simp only [gval] at h;split at h
 ·cases h
 ·next dj hj=>
  refine ⟨dj,?_⟩;split at h
  ·next c hc=>
   cases h
   refine ⟨_,hj,hc,?_⟩;have:=hb.h
   cases b<;>simp_all
  ·cases h
theorem Zh_ {gv:Option (Value×Bool)} (hg:gval ops F g=some gv) [hb:GOk gv true] (hd:Nat.blt d n=true) (h:OpP P n W0 ⟨some d,op,ty,pos,aft,g⟩ F H L v) (hk:Ops P n W0 Q ((d,v)::F) H L q ops rest k):
  Ops P n W0 Q F H L q ops (⟨some d,op,ty,pos,aft,g⟩::rest) k:=by
 cases g with
 | none=>exact ⟨sx_p hd h hk.run⟩
 | some jw=>
  obtain ⟨j,w⟩:=jw;obtain ⟨dj,u,hj,hu,hw,_⟩:=Zae_ (b:=true) hg;rw [hw rfl] at hu;exact ⟨Qeh_ hj hu hd h hk.run⟩
theorem qI_ {gv:Option (Value×Bool)} (hg:gval ops F g=some gv) [hb:GOk gv true] (hd:Nat.blt d n=true) (h:OpW P n W0 ⟨some d,op,ty,pos,aft,g⟩ F H L (fun v H' L'=>Ops P n W0 Q ((d,v)::F) H' L' false ops rest k)):
  Ops P n W0 Q F H L false ops (⟨some d,op,ty,pos,aft,g⟩::rest) k:=by
 cases g with
 | none=>exact ⟨zcS_ hd (h.mono fun _ _ _ _ h=>h.run)⟩
 | some jw=>
  obtain ⟨j,w⟩:=jw;obtain ⟨dj,u,hj,hu,hw,_⟩:=Zae_ (b:=true) hg;rw [hw rfl] at hu;exact ⟨Zcm_ hj hu hd (h.mono fun _ _ _ _ h=>h.run)⟩
theorem Zbo_ (h:OpW P n W0 ⟨none,op,ty,pos,aft,none⟩ F H L (fun v H' L'=>Ops P n W0 Q F H' L' false ops rest k)):
  Ops P n W0 Q F H L false ops (⟨none,op,ty,pos,aft,none⟩::rest) k:=⟨ZdJ_ (h.mono fun _ _ _ _ h=>h.run)⟩
theorem ops_p {side:Prop} {gv:Option (Value×Bool)} (hg:gval ops F g=some gv) [hb:GOk gv true] (hv:opvs F (Qae_ op)=some vs) [hp:POp P op vs side v]
  (hk:Ops P n W0 Q ((d,v)::F) H L q ops rest k) (hs:side:=by first | exact True.intro | omega | assumption | (unfold Go.Sx.fits;omega) | (refine ⟨?_,?_⟩<;>(try unfold Go.Sx.fits)<;>omega)) (hd:Nat.blt d n=true:=by rfl):Ops P n W0 Q F H L q ops (⟨some d,op,ty,pos,aft,g⟩::rest) k:=
 Zh_ hg hd (hp.run hs hv) hk
theorem ops_T {p:Prop} {dp:Decidable p} {gv:Option (Value×Bool)} (hg:gval ops F g=some gv) [hb:GOk gv true] (hv:opvs F (Qae_ op)=some vs) [hp:BOp P op vs p dp]
  (hk:Ops P n W0 Q ((d,.bool true)::F) H L q ops rest k) (hs:p:=by first | assumption | omega) (hd:Nat.blt d n=true:=by rfl):Ops P n W0 Q F H L q ops (⟨some d,op,ty,pos,aft,g⟩::rest) k:=
 Zh_ hg hd ((hp.run hv).cast (by simp [hs])) hk
theorem ops_F {p:Prop} {dp:Decidable p} {gv:Option (Value×Bool)} (hg:gval ops F g=some gv) [hb:GOk gv true] (hv:opvs F (Qae_ op)=some vs) [hp:BOp P op vs p dp]
  (hk:Ops P n W0 Q ((d,.bool false)::F) H L q ops rest k) (hs:¬p:=by first | assumption | omega) (hd:Nat.blt d n=true:=by rfl):Ops P n W0 Q F H L q ops (⟨some d,op,ty,pos,aft,g⟩::rest) k:=
 Zh_ hg hd ((hp.run hv).cast (by simp [hs])) hk
theorem ops_B {p:Prop} {dp:Decidable p} {gv:Option (Value×Bool)} (hg:gval ops F g=some gv) [hb:GOk gv true] (hv:opvs F (Qae_ op)=some vs) [hp:BOp P op vs p dp]
  (hk:Ops P n W0 Q ((d,.bool (@decide p dp))::F) H L q ops rest k) (hd:Nat.blt d n=true:=by rfl):Ops P n W0 Q F H L q ops (⟨some d,op,ty,pos,aft,g⟩::rest) k:=
 Zh_ hg hd (hp.run hv) hk
def zbV_ (F:zd_) (pl:List (Nat×Nat)):List (Nat×Operand)→List Value→Option (List Value)
  | [],zs=>some zs
  | (i,x)::r,zs=>match pl[i]? with
    | none=>none
    | some (off,k)=>match opv F x with
      | none=>none
      | some v=>match Nat.beq (Zck_ v).length k with
        | false=>none
        | true=>match layC zs off (Zck_ v) with
          | none=>none
          | some us=>zbV_ F pl r us
theorem Qak_ {F:zd_} {pl:List (Nat×Nat)}:∀{ps:List (Nat×Operand)} {zs cs:List Value},zbV_ F pl ps zs=some cs→FillR F pl ps zs cs
 | [],zs,cs,h=>by simp [zbV_] at h;subst h;exact .nil
 | (i,x)::r,zs,cs,h=>by
  simp only [zbV_] at h;split at h
  ·cases h
  ·next off k hp=>
   split at h
   ·cases h
   ·next v hv=>
    split at h
    ·cases h
    ·next hk=>
     split at h
     ·cases h
     ·next us hu=>exact .cons hp hv (zcP_ v) (by simpa using hk) (zaN_ hu) (Qak_ h)
theorem ops_bld {t:TypeId} {pl:List (Nat×Nat)} {ps:List (Nat×Operand)} {zs cs:List Value} [hT:TPl P t pl] [hZ:TZL P t zs] {gv:Option (Value×Bool)} (hg:gval ops F g=some gv) [hb:GOk gv true] (hf:zbV_ F pl ps zs=some cs) (hk:Ops P n W0 Q ((d,.agg cs.toArray)::F) H L q ops rest k) (hd:Nat.blt d n=true:=by rfl):
  Ops P n W0 Q F H L q ops (⟨some d,.build t ps.toArray,ty,pos,aft,g⟩::rest) k:=Zh_ hg hd (zbr_ (Qak_ hf)) hk
theorem Qdp_ {p:Prop} {dp:Decidable p} (ht:p→Ops P n W0 Q ((d,.bool true)::F) H L q ops rest k) (hf:¬p→Ops P n W0 Q ((d,.bool false)::F) H L q ops rest k):Ops P n W0 Q ((d,.bool (@decide p dp))::F) H L q ops rest k:=by
 by_cases h:p
 ·simpa [h] using ht h
 ·simpa [h] using hf h
theorem ops_skip {gv:Option (Value×Bool)} (hg:gval ops F g=some gv) [hb:GOk gv false] (hk:Ops P n W0 Q ((d,undef)::F) H L q ops rest k) (hd:Nat.blt d n=true:=by rfl):Ops P n W0 Q F H L q ops (⟨some d,op,ty,pos,aft,g⟩::rest) k:=by
 cases g with
 | none=>cases hg;exact absurd hb.h (by simp)
 | some jw=>
  obtain ⟨j,w⟩:=jw;obtain ⟨dj,u,hj,hu,_,hw⟩:=Zae_ (b:=false) hg;exact ⟨qdK_ hj hu (hw rfl) hd hk.run⟩
theorem ops_ext {x:Operand} {us:Array Value} {i:Nat} {gv:Option (Value×Bool)} (hg:gval ops F g=some gv) [hb:GOk gv true] (hx:opv F x=some (.tuple us)) (hi:us.toList[i]?=some v) (hk:Ops P n W0 Q ((d,v)::F) H L q ops rest k) (hd:Nat.blt d n=true:=by rfl):
  Ops P n W0 Q F H L q ops (⟨some d,.extract x i,ty,pos,aft,g⟩::rest) k:=Zh_ hg hd (qaF_ hx (by simpa using hi)) hk
class HasRow (L:List za_) (b:Nat) (T:outParam TypeId) (cs:outParam (List Value)) (R:outParam (List za_)):Prop where
  has:Has L (row b T cs) R
instance {b T:Nat} {cs:List Value} {R:List za_}:HasRow (row b T cs::R) b T cs R:=⟨.here⟩
instance {A:za_} {b T:Nat} {cs:List Value} {R R':List za_} [h:HasRow R b T cs R']:HasRow (A::R) b T cs (A::R'):=⟨.there h.has⟩
instance {b T:Nat} {cs:List Value} {L R:List za_} [h:HasRow L b T cs R]:HasRow ([]++L) b T cs R:=⟨h.has⟩
instance {A:za_} {b T:Nat} {cs:List Value} {B L R:List za_} [h:HasRow (A::(B++L)) b T cs R]:HasRow ((A::B)++L) b T cs R:=⟨h.has⟩
instance {b T:Nat} {cs:List Value} {A B L R:List za_} [h:HasRow (A++(B++L)) b T cs R]:HasRow ((A++B)++L) b T cs R:=⟨by rw [List.append_assoc];exact h.has⟩
instance {b T:Nat} {cs:List Value} {L R:List za_} [h:HasRow L b T cs R]:HasRow (List.append [] L) b T cs R:=⟨h.has⟩
theorem ops_ld {x:Operand} {t:TypeId} {b off T:Nat} {cs:List Value} {R:List za_} [TAgg P t false] {gv:Option (Value×Bool)} (hg:gval ops F g=some gv) [hb:GOk gv true] (hx:opv F x=some (.pointer (some ⟨b,off,none⟩))) [h:HasRow L b T cs R] (hc:cs[off]?=some v)
  (hk:Ops P n W0 Q ((d,v)::F) H L q ops rest k) (hd:Nat.blt d n=true:=by rfl):Ops P n W0 Q F H L q ops (⟨some d,.load t x,ty,pos,aft,g⟩::rest) k:=
 Zh_ hg hd (ZaE_ hx h.has hc) hk
def qaE_:List Value→Nat→Nat→Option (List Value)
  | _,0,0=>some []
  | c::cs,0,k+1=>match qaE_ cs 0 k with | some vs=>some (c::vs) | none=>none
  | _::cs,off+1,k=>qaE_ cs off k
  | [],_,_=>none
theorem pickC_pick:∀{cs:List Value} {off k:Nat} {vs:List Value},qaE_ cs off k=some vs→Pick cs off k vs
 | _,0,0,vs,h=>by simp [qaE_] at h;subst h;exact .done
 | c::cs,0,k+1,vs,h=>by
  simp only [qaE_] at h;split at h
  ·next us hu=>cases h;exact .more (pickC_pick hu)
  ·cases h
 | _::cs,off+1,k,vs,h=>by simp only [qaE_] at h;exact .skip (pickC_pick h)
 | [],0,k+1,vs,h=>by simp [qaE_] at h
 | [],off+1,k,vs,h=>by simp [qaE_] at h
theorem ops_ldN {x:Operand} {t:TypeId} {b off T m:Nat} {cs us:List Value} {R:List za_} [TAgg P t true] [TSz P t m] {gv:Option (Value×Bool)} (hg:gval ops F g=some gv) [hb:GOk gv true] (hx:opv F x=some (.pointer (some ⟨b,off,none⟩))) [h:HasRow L b T cs R] (hc:qaE_ cs off m=some us)
  (hk:Ops P n W0 Q ((d,.agg us.toArray)::F) H L q ops rest k) (hd:Nat.blt d n=true:=by rfl):Ops P n W0 Q F H L q ops (⟨some d,.load t x,ty,pos,aft,g⟩::rest) k:=
 Zh_ hg hd (QaN_ hx h.has (pickC_pick hc)) hk
theorem zI_ {b off o:Nat} {cs:List Value} (h:HRow H b off cs) (i:Nat) (ho:off+i=o) (hc:cs[i]?=some v):hcell H b o=some v:=ho▸h i v hc
theorem ops_ldH {x:Operand} {t:TypeId} {b off o i:Nat} {cs:List Value} [TAgg P t false] {gv:Option (Value×Bool)} (hg:gval ops F g=some gv) [hb:GOk gv true] (hx:opv F x=some (.pointer (some ⟨b,o,none⟩))) (h:HRow H b off cs) (ho:o=off+i) (hc:cs[i]?=some v)
  (hk:Ops P n W0 Q ((d,v)::F) H L q ops rest k) (hd:Nat.blt d n=true:=by rfl):Ops P n W0 Q F H L q ops (⟨some d,.load t x,ty,pos,aft,g⟩::rest) k:=
 Zh_ hg hd (ZL_ hx (zI_ h i ho.symm hc)) hk
theorem ops_ldH0 {x:Operand} {t:TypeId} {b off:Nat} {cs:List Value} [TAgg P t false] {gv:Option (Value×Bool)} (hg:gval ops F g=some gv) [hb:GOk gv true] (hx:opv F x=some (.pointer (some ⟨b,off,none⟩))) (h:HRow H b off cs) (hc:cs[0]?=some v)
  (hk:Ops P n W0 Q ((d,v)::F) H L q ops rest k) (hd:Nat.blt d n=true:=by rfl):Ops P n W0 Q F H L q ops (⟨some d,.load t x,ty,pos,aft,g⟩::rest) k:=
 Zh_ hg hd (ZL_ hx (zI_ h 0 rfl hc)) hk
theorem zg_ {x:Operand} {t:TypeId} {b off m:Nat} {cs:List Value} [TAgg P t true] [TSz P t m] {gv:Option (Value×Bool)} (hg:gval ops F g=some gv) [hb:GOk gv true] (hx:opv F x=some (.pointer (some ⟨b,off,none⟩))) (h:HRow H b off cs) (hl:cs.length=m)
  (hk:Ops P n W0 Q ((d,.agg cs.toArray)::F) H L q ops rest k) (hd:Nat.blt d n=true:=by rfl):Ops P n W0 Q F H L q ops (⟨some d,.load t x,ty,pos,aft,g⟩::rest) k:=
 Zh_ hg hd (Qay_ hx h hl) hk
class PutRow (L:List za_) (b:Nat) (cs':List Value) (T:outParam TypeId) (cs:outParam (List Value)) (L':outParam (List za_)):Prop where
  up:Upd L (row b T cs) (row b T cs') L'
instance {b T:Nat} {cs cs':List Value} {R:List za_}:PutRow (row b T cs::R) b cs' T cs (row b T cs'::R):=⟨.here⟩
instance {A:za_} {b T:Nat} {cs cs':List Value} {R R':List za_} [h:PutRow R b cs' T cs R']:PutRow (A::R) b cs' T cs (A::R'):=⟨.there h.up⟩
instance {b T:Nat} {cs cs':List Value} {L R:List za_} [h:PutRow L b cs' T cs R]:PutRow ([]++L) b cs' T cs R:=⟨h.up⟩
instance {A:za_} {b T:Nat} {cs cs':List Value} {B L R:List za_} [h:PutRow (A::(B++L)) b cs' T cs R]:PutRow ((A::B)++L) b cs' T cs R:=⟨h.up⟩
instance {b T:Nat} {cs cs':List Value} {A B L R:List za_} [h:PutRow (A++(B++L)) b cs' T cs R]:PutRow ((A++B)++L) b cs' T cs R:=⟨by rw [List.append_assoc];exact h.up⟩
instance {b T:Nat} {cs cs':List Value} {L R:List za_} [h:PutRow L b cs' T cs R]:PutRow (List.append [] L) b cs' T cs R:=⟨h.up⟩
class CellsI (v:Value) (us:outParam (List Value)):Prop where
  h:v.cells=us.toArray
instance {l:List Value}:CellsI (.agg l.toArray) l:=⟨rfl⟩
instance {k:IntKind} {n:Int}:CellsI (.int k n) [.int k n]:=⟨rfl⟩
instance {b:Bool}:CellsI (.bool b) [.bool b]:=⟨rfl⟩
instance {s:ByteArray}:CellsI (.string s) [.string s]:=⟨rfl⟩
instance {p:Option Addr}:CellsI (.pointer p) [.pointer p]:=⟨rfl⟩
instance {p:Option Addr} {m c:Nat}:CellsI (.slice p m c) [.slice p m c]:=⟨rfl⟩
instance {p:Option Nat}:CellsI (.map p) [.map p]:=⟨rfl⟩
theorem ops_st {x y:Operand} {t:TypeId} {b off T m:Nat} {cs us cs':List Value} {R L':List za_} [TSz P t m] (hv:opvs F [x,y]=some [.pointer (some ⟨b,off,none⟩),v]) [h:HasRow L b T cs R] [hu:CellsI v us] (hc:layC cs off us=some cs') [hL:PutRow L b cs' T cs L']
  (h1:us.all (·.oneCell')=true) (hl:us.length=m)
  (hk:Ops P n W0 Q F H L' false ops rest k):Ops P n W0 Q F H L false ops (⟨none,.store t x y,ty,pos,aft,none⟩::rest) k:=
 Zbo_ (qds_ (qf_ hv).1 (qf_ hv).2 hu.h hl h1 hL.up (zaN_ hc) hk)
theorem qc_ {x:Operand} {T:TypeId} {us:List Value} {gv:Option (Value×Bool)} (hg:gval ops F g=some gv) [hb:GOk gv true] (hx:opv F x=some v) [hu:CellsI v us] (hk:∀b,H b=none→Ops P n W0 Q ((d,.pointer (some ⟨b,0,none⟩))::F) H (row b T us::L) false ops rest k)
  (hd:Nat.blt d n=true:=by rfl):Ops P n W0 Q F H L false ops (⟨some d,.box T x,ty,pos,aft,g⟩::rest) k:=
 qI_ hg hd (qdV_ hx hu.h hk)
theorem Qb_ {T:TypeId} {us:List Value} [TZL P T us] {gv:Option (Value×Bool)} (hg:gval ops F g=some gv) [hb:GOk gv true] (hk:∀b,H b=none→Ops P n W0 Q ((d,.pointer (some ⟨b,0,none⟩))::F) H (row b T us::L) false ops rest k)
  (hd:Nat.blt d n=true:=by rfl):Ops P n W0 Q F H L false ops (⟨some d,.alloc T,ty,pos,aft,g⟩::rest) k:=
 qI_ hg hd (qA_ hk)
theorem ops_nil (h:Out P n W0 Q F H L .normal k):Ops P n W0 Q F H L q ops [] k:=⟨QdY_ h.run⟩
theorem Za_ {f:FuncId} {l:List Operand} {ts:Array TypeId} {A R:List za_} {Post:Value→Heap→List za_→Prop} [TFn P f] {gv:Option (Value×Bool)} (hg:gval ops F g=some gv) [hb:GOk gv true] (ha:opvs F l=some vs) (hs:Ct P f vs.toArray W0 H A Post)
  (hk:∀r H' B,H.le H'→Post r H' B→Ops P n W0 Q ((d,r)::F) H' (B++R) false ops rest k) (ht:Take L A R:=by repeat (first | exact Go.Sx.Take.nil | (apply Go.Sx.Take.cons;focus (repeat (first | exact Go.Sx.Has.here | apply Go.Sx.Has.there)))))
  (hd:Nat.blt d n=true:=by rfl):Ops P n W0 Q F H L false ops (⟨some d,.call ⟨.value (.func f),l.toArray,ts⟩,ty,pos,aft,g⟩::rest) k:=
 qI_ hg hd (ZaV_ (Zv_ ha) hs ht hk)
theorem zaU_ {f:FuncId} {x:Operand} {l:List Operand} {ts:Array TypeId} {fst cap:List Value} {A R:List za_} {Post:Value→Heap→List za_→Prop} [TFn P f] {gv:Option (Value×Bool)} (hg:gval ops F g=some gv) [hb:GOk gv true] (hx:opv F x=some (.func (.func f) fst.toArray cap.toArray)) (ha:opvs F l=some vs) (hs:Ct P f (fst++vs++cap).toArray W0 H A Post)
  (hk:∀r H' B,H.le H'→Post r H' B→Ops P n W0 Q ((d,r)::F) H' (B++R) false ops rest k) (ht:Take L A R:=by repeat (first | exact Go.Sx.Take.nil | (apply Go.Sx.Take.cons;focus (repeat (first | exact Go.Sx.Has.here | apply Go.Sx.Has.there)))))
  (hd:Nat.blt d n=true:=by rfl):Ops P n W0 Q F H L false ops (⟨some d,.call ⟨.value x,l.toArray,ts⟩,ty,pos,aft,g⟩::rest) k:=
 qI_ hg hd (qcn_ hx (Zv_ ha) hs ht hk)
theorem ex_seq {x y:Code} (h:Ex P n W0 Q F H L x (.seq y::k)):Ex P n W0 Q F H L (.seq x y) k:=⟨fun a w hF hS=>wp_seq (h.run a w hF hS)⟩
theorem ex_reg {id:Nat} {l:List Oper} (h:Ops P n W0 Q F H L false l.toArray l k):Ex P n W0 Q F H L (.region id l.toArray false) k:=⟨QcS_ h.run⟩
theorem ex_quiet [TMix P] {id:Nat} {l:List Oper} (hok:Zbp_ l.toArray=true) (hQ:∀c a w d v,Kx P Q k (.panic c) (a.put (some d) v) w→Kx P Q k (.panic c) a w) (h:Ops P n W0 Q F H L true l.toArray l k):Ex P n W0 Q F H L (.region id l.toArray true) k:=⟨Qds_ hok hQ h.run⟩
theorem ex_skip (h:Out P n W0 Q F H L .normal k):Ex P n W0 Q F H L .skip k:=⟨zdK_ h.run⟩
theorem ex_ret (h:Out P n W0 Q F H L .ret k):Ex P n W0 Q F H L .ret k:=⟨ZdY_ h.run⟩
theorem ex_exit {id:Nat} (h:Out P n W0 Q F H L (.exit id) k):Ex P n W0 Q F H L (.exit id) k:=⟨QdK_ h.run⟩
theorem ex_blk {id:Nat} {c:Code} (h:Ex P n W0 Q F H L c (.blk id::k)):Ex P n W0 Q F H L (.block id c) k:=⟨Zds_ h.run⟩
class IsT (v:Value) (b:outParam Bool):Prop where
  h:v= .bool b
instance :IsT (.bool true) true:=⟨rfl⟩
instance :IsT (.bool false) false:=⟨rfl⟩
def sel (b:Bool) (x y:Code):Code:=match b with | true=>x | false=>y
theorem ex_c {c:Operand} {x y:Code} {b:Bool} (hc:opv F c=some v) [hb:IsT v b] (h:Ex P n W0 Q F H L (sel b x y) k):Ex P n W0 Q F H L (.cond c x y) k:=by
 obtain ⟨rfl⟩:=hb
 cases b<;>exact ⟨ZbW_ hc (fun e=>by cases e<;>exact h.run) (fun e=>by cases e<;>exact h.run)⟩
theorem ex_sT {x y:Code} (h:Ex P n W0 Q F H L x k):Ex P n W0 Q F H L (sel true x y) k:=h
theorem ex_sF {x y:Code} (h:Ex P n W0 Q F H L y k):Ex P n W0 Q F H L (sel false x y) k:=h
theorem Qe_ {c:Operand} {x y:Code} {p:Prop} {dp:Decidable p} (hc:opv F c=some (.bool (@decide p dp))) (ht:p→Ex P n W0 Q F H L x k) (hf:¬p→Ex P n W0 Q F H L y k):Ex P n W0 Q F H L (.cond c x y) k:=
 ⟨ZbW_ hc (fun e=>(ht (by simpa using e)).run) (fun e=>(hf (by simpa using e)).run)⟩
theorem QI_ {c:Operand} {x y:Code} {t:Bool} {p:Prop} (hc:opv F c=some (.bool t)) (hp:t=true↔p) (ht:p→Ex P n W0 Q F H L x k) (hf:¬p→Ex P n W0 Q F H L y k):Ex P n W0 Q F H L (.cond c x y) k:=
 ⟨ZbW_ hc (fun e=>(ht (hp.1 e)).run) (fun e=>(hf fun h=>by rw [hp.2 h] at e;cases e).run)⟩
theorem out_seq {c:Code} (h:Ex P n W0 Q F H L c k):Out P n W0 Q F H L .normal (.seq c::k):=⟨h.run⟩
theorem out_blk {id:Nat} (h:Out P n W0 Q F H L .normal k):Out P n W0 Q F H L .normal (.blk id::k):=⟨h.run⟩
theorem out_rseq {c:Code} (h:Out P n W0 Q F H L .ret k):Out P n W0 Q F H L .ret (.seq c::k):=⟨h.run⟩
theorem out_rblk {id:Nat} (h:Out P n W0 Q F H L .ret k):Out P n W0 Q F H L .ret (.blk id::k):=⟨h.run⟩
theorem out_rcut {K:Act→World→Prop} (h:Out P n W0 Q F H L .ret k):Out P n W0 Q F H L .ret (.cut K::k):=⟨h.run⟩
theorem out_eseq {id:Nat} {c:Code} (h:Out P n W0 Q F H L (.exit id) k):Out P n W0 Q F H L (.exit id) (.seq c::k):=⟨h.run⟩
theorem out_ecut {id:Nat} {K:Act→World→Prop} (h:Out P n W0 Q F H L (.exit id) k):Out P n W0 Q F H L (.exit id) (.cut K::k):=⟨h.run⟩
theorem out_eblk {id:Nat} (h:Out P n W0 Q F H L .normal k):Out P n W0 Q F H L (.exit id) (.blk id::k):=⟨qdL_ h.run⟩
theorem out_epass {id id':Nat} (hne:Nat.beq id' id=false) (h:Out P n W0 Q F H L (.exit id') k):Out P n W0 Q F H L (.exit id') (.blk id::k):=⟨zdL_ hne h.run⟩
theorem Qc_ {c:Code} {σ:Type} (I:σ→Prop) (mF:σ→zd_) (mH:σ→Heap) (mL:σ→List za_) (μ:σ→Nat) (s0:σ) (h0:I s0)
  (round:∀s,I s→∀K:Act→World→Prop,(∀s',I s'→μ s'<μ s→Sat n W0 (mF s') (mH s') (mL s') K)→Ex P n W0 Q (mF s) (mH s) (mL s) c (.cut K::k))
  (hs0:Sub L (mL s0):=by (try dsimp only);(repeat (first | exact Go.Sx.Sub.refl _ | exact Go.Sx.Sub.nil _ | (apply Go.Sx.sub_pick;(repeat (first | exact Go.Sx.Has.here | apply Go.Sx.Has.there));skip) | apply Go.Sx.Sub.drop)))
  (hf0:fsub (mF s0) F:=by (try dsimp only);repeat (first | exact Go.Sx.fsub_nil _ | refine Go.Sx.fsub_cons rfl ?_)) (hh0:mH s0=H:=by rfl):
  Ex P n W0 Q F H L (.loop c) k:=⟨ZdK_ I mF mH mL μ s0 h0 hs0 hf0 hh0 fun s hs K hK=>(round s hs K hK).run⟩
theorem Zb_ {σ:Type} {I:σ→Prop} {mF:σ→zd_} {mH:σ→Heap} {mL:σ→List za_} {μ:σ→Nat} {s:σ} {K:Act→World→Prop} (hL:∀s',I s'→μ s'<μ s→Sat n W0 (mF s') (mH s') (mL s') K) (s':σ) (hI:I s') (hμ:μ s'<μ s:=by (try dsimp only);omega)
  (hs:Sub L (mL s'):=by (try dsimp only);(repeat (first | exact Go.Sx.Sub.refl _ | exact Go.Sx.Sub.nil _ | (apply Go.Sx.sub_pick;(repeat (first | exact Go.Sx.Has.here | apply Go.Sx.Has.there));skip) | apply Go.Sx.Sub.drop)))
  (hf:fsub (mF s') F:=by (try dsimp only);repeat (first | exact Go.Sx.fsub_nil _ | refine Go.Sx.fsub_cons rfl ?_)) (hh:mH s'=H:=by rfl):Out P n W0 Q F H L .normal (.cut K::k):=by
 subst hh;exact ⟨(hL s' hI hμ).sub hs hf⟩
theorem qL_ {σ:Type} {I:σ→Prop} {mF:σ→zd_} {mH:σ→Heap} {mL:σ→List za_} {K:Act→World→Prop} (hL:∀s',I s'→Sat n W0 (mF s') (mH s') (mL s') K) (s':σ) (hI:I s')
  (hs:Sub L (mL s'):=by (try dsimp only);(repeat (first | exact Go.Sx.Sub.refl _ | exact Go.Sx.Sub.nil _ | (apply Go.Sx.sub_pick;(repeat (first | exact Go.Sx.Has.here | apply Go.Sx.Has.there));skip) | apply Go.Sx.Sub.drop)))
  (hf:fsub (mF s') F:=by (try dsimp only);repeat (first | exact Go.Sx.fsub_nil _ | refine Go.Sx.fsub_cons rfl ?_)) (hh:mH s'=H:=by rfl):Out P n W0 Q F H L .normal (.cut K::k):=by
 subst hh;exact ⟨(hL s' hI).sub hs hf⟩
end
class TBody (P:Program) (f:FuncId) (fn:outParam Func) (c:outParam Code) (n:outParam Nat):Prop where
  get:P.funcs[f]?=some fn
  body:fn.body=some c
  ntmps:fn.ntmps=n
def parF:Nat→List Value→zd_
  | _,[]=>[]
  | i,v::vs=>(i,v)::parF (i+1) vs
theorem QaU_:∀(i:Nat) (vs:List Value),Params i vs (parF i vs)
 | _,[]=> .nil
 | i,_::vs=> .cons (QaU_ (i+1) vs)
section
variable {P:Program} {n:Nat} {W0:World} {F:zd_} {H H0:Heap} {L:List za_} {Q:Exit→Act→World→Prop}
theorem Ct.go {f:FuncId} {fn:Func} {c:Code} {vs:List Value} {A:List za_} {Post:Value→Heap→List za_→Prop} [hb:TBody P f fn c n]
  (h:∀R,Ex P n W0 (bodyPost P fn (qbF_ W0 H Post R)) (parF 0 vs) H (A++R) c []) (hl:Nat.ble vs.length n=true:=by rfl):Ct P f vs.toArray W0 H A Post:=
 Ct.of_body hb.get hb.body hb.ntmps (QaU_ 0 vs) hl fun R=>(h R).run
theorem tup_one {v:Value}:tup [v]=v:=rfl
theorem tup_many {u v:Value} {r:List Value}:tup (u::v::r)= .tuple (u::v::r).toArray:=rfl
theorem fin0 {fn:Func} {Post:Value→Heap→List za_→Prop} {R:List za_} {rs:List ResultVar} {vs:List Value} {v:Value} (hp:Post v H []) (hfn:fn.results=rs.toArray:=by rfl)
  (hr:ResR P F L rs vs:=by repeat (first | exact Go.Sx.ResR.nil | (apply Go.Sx.ResR.tmp;(exact rfl)) | (apply Go.Sx.ResR.cell1;(exact inferInstance);(exact rfl);(repeat (first | exact Go.Sx.Has.here | apply Go.Sx.Has.there));(exact rfl)) | (apply Go.Sx.ResR.cellN;(exact inferInstance);(exact inferInstance);(exact rfl);(repeat (first | exact Go.Sx.Has.here | apply Go.Sx.Has.there));(exact Go.Sx.pickC_pick rfl))))
  (hv:tup vs=v:=by first | exact Go.Sx.tup_one | exact Go.Sx.tup_many | rfl) (hl:H0.le H:=by exact Go.Sx.leA)
  (hs:Sub L R:=by (try dsimp only [List.nil_append,List.cons_append,List.append_nil]);(repeat (first | exact Go.Sx.Sub.refl _ | exact Go.Sx.Sub.nil _ | (apply Go.Sx.sub_pick;(repeat (first | exact Go.Sx.Has.here | apply Go.Sx.Has.there));skip) | apply Go.Sx.Sub.drop))):
  Out P n W0 (bodyPost P fn (qbF_ W0 H0 Post R)) F H L .ret []:=⟨ZcS_ (B:=[]) hfn hr hv hl hp hs⟩
theorem finB {fn:Func} {Post:Value→Heap→List za_→Prop} {R:List za_} {rs:List ResultVar} {vs:List Value} {v:Value} (B:List za_) (hp:Post v H B) (hfn:fn.results=rs.toArray:=by rfl)
  (hr:ResR P F L rs vs:=by repeat (first | exact Go.Sx.ResR.nil | (apply Go.Sx.ResR.tmp;(exact rfl)) | (apply Go.Sx.ResR.cell1;(exact inferInstance);(exact rfl);(repeat (first | exact Go.Sx.Has.here | apply Go.Sx.Has.there));(exact rfl)) | (apply Go.Sx.ResR.cellN;(exact inferInstance);(exact inferInstance);(exact rfl);(repeat (first | exact Go.Sx.Has.here | apply Go.Sx.Has.there));(exact Go.Sx.pickC_pick rfl))))
  (hv:tup vs=v:=by first | exact Go.Sx.tup_one | exact Go.Sx.tup_many | rfl) (hl:H0.le H:=by exact Go.Sx.leA)
  (hs:Sub L (B++R):=by (try dsimp only [List.nil_append,List.cons_append,List.append_nil]);(repeat (first | exact Go.Sx.Sub.refl _ | exact Go.Sx.Sub.nil _ | (apply Go.Sx.sub_pick;(repeat (first | exact Go.Sx.Has.here | apply Go.Sx.Has.there));skip) | apply Go.Sx.Sub.drop))):
  Out P n W0 (bodyPost P fn (qbF_ W0 H0 Post R)) F H L .ret []:=⟨ZcS_ hfn hr hv hl hp hs⟩
theorem zeh_ {fn:Func} {Post:Value→Heap→List za_→Prop} {R:List za_} {rs:List ResultVar} {vs:List Value} {v:Value} (hp:Post v H []) (hfn:fn.results=rs.toArray:=by rfl)
  (hr:ResR P F L rs vs:=by repeat (first | exact Go.Sx.ResR.nil | (apply Go.Sx.ResR.tmp;(exact rfl)) | (apply Go.Sx.ResR.cell1;(exact inferInstance);(exact rfl);(repeat (first | exact Go.Sx.Has.here | apply Go.Sx.Has.there));(exact rfl)) | (apply Go.Sx.ResR.cellN;(exact inferInstance);(exact inferInstance);(exact rfl);(repeat (first | exact Go.Sx.Has.here | apply Go.Sx.Has.there));(exact Go.Sx.pickC_pick rfl))))
  (hv:tup vs=v:=by first | exact Go.Sx.tup_one | exact Go.Sx.tup_many | rfl) (hl:H0.le H:=by exact Go.Sx.leA)
  (hs:Sub L R:=by (try dsimp only [List.nil_append,List.cons_append,List.append_nil]);(repeat (first | exact Go.Sx.Sub.refl _ | exact Go.Sx.Sub.nil _ | (apply Go.Sx.sub_pick;(repeat (first | exact Go.Sx.Has.here | apply Go.Sx.Has.there));skip) | apply Go.Sx.Sub.drop))):
  Out P n W0 (bodyPost P fn (qbF_ W0 H0 Post R)) F H L .normal []:=⟨qcT_ (B:=[]) hfn hr hv hl hp hs⟩
theorem ZdT_ {fn:Func} {Post:Value→Heap→List za_→Prop} {R:List za_} {rs:List ResultVar} {vs:List Value} {v:Value} (B:List za_) (hp:Post v H B) (hfn:fn.results=rs.toArray:=by rfl)
  (hr:ResR P F L rs vs:=by repeat (first | exact Go.Sx.ResR.nil | (apply Go.Sx.ResR.tmp;(exact rfl)) | (apply Go.Sx.ResR.cell1;(exact inferInstance);(exact rfl);(repeat (first | exact Go.Sx.Has.here | apply Go.Sx.Has.there));(exact rfl)) | (apply Go.Sx.ResR.cellN;(exact inferInstance);(exact inferInstance);(exact rfl);(repeat (first | exact Go.Sx.Has.here | apply Go.Sx.Has.there));(exact Go.Sx.pickC_pick rfl))))
  (hv:tup vs=v:=by first | exact Go.Sx.tup_one | exact Go.Sx.tup_many | rfl) (hl:H0.le H:=by exact Go.Sx.leA)
  (hs:Sub L (B++R):=by (try dsimp only [List.nil_append,List.cons_append,List.append_nil]);(repeat (first | exact Go.Sx.Sub.refl _ | exact Go.Sx.Sub.nil _ | (apply Go.Sx.sub_pick;(repeat (first | exact Go.Sx.Has.here | apply Go.Sx.Has.there));skip) | apply Go.Sx.Sub.drop))):
  Out P n W0 (bodyPost P fn (qbF_ W0 H0 Post R)) F H L .normal []:=⟨qcT_ hfn hr hv hl hp hs⟩
end
class R1 {α:Type} (R:Rd α) (val:outParam (α→Value)) (ok:outParam (α→Prop)):Prop where
  h:∀{H:Heap} {c:List Value} {x:α},R H c x→c=[val x]∧ok x
instance :R1 rInt (fun x=> .int .i64 x) fits:=⟨fun h=>h⟩
instance :R1 rStr (fun x=> .string x) (fun x=>x.size≤zb_):=⟨fun h=>h⟩
instance :R1 Zbd_ (fun x=> .bool x) (fun _=>True):=⟨fun h=>⟨h,trivial⟩⟩
section
variable {q:Bool} {P:Program} {n:Nat} {W0:World} {Q:Exit→Act→World→Prop} {F:zd_} {H:Heap} {L:List za_} {ops:Array Oper} {rest:List Oper} {k:List Fr} {op:Op} {ty ty':TypeId} {pos pos':String} {aft aft':Array Edge} {d d':Tmp} {g g':Option (Nat×Bool)} {v:Value} {vs:List Value}
theorem qe_ {α:Type} {R:Rd α} {sz:Nat} {T e:TypeId} {x y:Operand} {xs:List α} {i:Int} {j:Nat} {kd:IntKind} {gv:Option (Value×Bool)} [hR:RdOk R sz] [TSl P T e] [TSz P e sz] (hg:gval ops F g=some gv) [hb:GOk gv true] (hv:opvs F [x,y]=some [v,.int kd i]) [hi:NatOf i j]
  (hs:SlR R sz H v xs) (hj:j<xs.length) (hk:∀b off c,HRow H b off c→R H c (xs[j]'hj)→Ops P n W0 Q ((d,.pointer (some ⟨b,off,none⟩))::F) H L q ops rest k) (hd:Nat.blt d n=true:=by rfl):
  Ops P n W0 Q F H L q ops (⟨some d,.indexAddr T x y,ty,pos,aft,g⟩::rest) k:=by
 obtain ⟨rfl⟩:=hi;obtain ⟨base,cap,rfl,h1,h2⟩:=hs.shape;obtain ⟨b,off,c,rfl,h3,h4,h5⟩:=hs.get hj;exact Zh_ hg hd (qy_ (qf_ hv).1 (qf_ hv).2 (by omega) (by omega)) (hk b _ c h4 h5)
theorem Zak_ {F:zd_} {d d':Tmp} {u v:Value} (h:fget F d=none):fsub ((d',v)::F) ((d',v)::(d,u)::F):=fun t w ht=>by
 rw [qJ_] at ht⊢;split at ht
 ·rename_i e;rw [if_pos e];exact ht
 ·rename_i e;rw [if_neg e,qJ_];split
  ·rename_i e';subst e';rw [h] at ht;cases ht
  ·exact ht
theorem qax_ {ops:Array Oper} {F:zd_} {g:Option (Nat×Bool)} {gv:Option (Value×Bool)} {d:Tmp} {u:Value} (h:fget F d=none) (hg:gval ops F g=some gv):gval ops ((d,u)::F) g=some gv:=by
 cases g with
 | none=>exact hg
 | some jw=>
  obtain ⟨j,w⟩:=jw;simp only [gval] at hg⊢;split at hg
  ·cases hg
  ·next dj hj=>
   split at hg
   ·next c hc=>
    have:fget ((d,u)::F) dj=some c:=by
     rw [qJ_];split
     ·rename_i e';subst e';rw [h] at hc;cases hc
     ·exact hc
    rw [this];exact hg
   ·cases hg
theorem ZdA_:∀{r:List Oper} {F F':zd_},fsub F F'→SQ P n W0 H L ops (Kx P Q k) r F→SQ P n W0 H L ops (Kx P Q k) r F'
 | [],F,F',hs,h=>fun a w hF hS=>h a w (hF.sub hs) hS
 | o::r,F,F',hs,⟨d,v,h1,h2,h3,h4⟩=>⟨d,v,h1,h2,h3.imp (fun h a w hF hS=>h a w (hF.sub hs) hS) (fun h=>⟨fun a w hF hS=>h.1 a w (hF.sub hs) hS,h.2⟩),ZdA_ (fun t u ht=>by
   rw [qJ_] at ht⊢;split at ht
   ·rename_i e;rw [if_pos e];exact ht
   ·rename_i e;rw [if_neg e];exact hs t u ht) h4⟩
theorem zax_ {F':zd_} (hs:fsub F F') (h:Ops P n W0 Q F H L q ops rest k):Ops P n W0 Q F' H L q ops rest k:=by
 cases q with
 | false=>exact ⟨Sat.sub h.run (Sub.refl _) hs⟩
 | true=>exact ⟨ZdA_ hs h.run⟩
theorem ops_ix {α:Type} {R:Rd α} {val:α→Value} {ok:α→Prop} {T e t:TypeId} {x y:Operand} {xs:List α} {i:Int} {j:Nat} {kd:IntKind} {gv gv':Option (Value×Bool)} [h1:R1 R val ok] [hR:RdOk R 1] [TSl P T e] [TSz P e 1] [TAgg P t false] (hg:gval ops F g=some gv) [hb:GOk gv true]
  (hg':gval ops F g'=some gv') [hb':GOk gv' true] (hv:opvs F [x,y]=some [v,.int kd i]) [hi:NatOf i j] (hs:SlR R 1 H v xs) (hj:j<xs.length) (hk:Ops P n W0 Q ((d',val (xs[j]'hj))::F) H L q ops rest k) (hn:fget F d=none:=by rfl) (hd:Nat.blt d n=true:=by rfl) (hd':Nat.blt d' n=true:=by rfl):
  Ops P n W0 Q F H L q ops (⟨some d,.indexAddr T x y,ty,pos,aft,g⟩::⟨some d',.load t (.tmp d),ty',pos',aft',g'⟩::rest) k:=by
 refine qe_ hg hv hs hj (fun b off c hr hc=>?_) hd;obtain ⟨rfl,ho⟩:=h1.h hc;refine Zh_ (qax_ hn hg') hd' (ZL_ (b:=b) (off:=off) (by simp [opv,fget]) (hr 0 _ rfl)) (zax_ (Zak_ hn) hk)
theorem RL.all {α:Type} {R:Rd α} {p:α→Prop} (hp:∀H c x,R H c x→p x):∀{cs:List Value} {xs:List α},RL R H cs xs→∀x∈xs,p x
 | _,[],_,x,hx=>by cases hx
 | _,y::ys,⟨c,r,e,h1,h2⟩,x,hx=>by
  rcases List.mem_cons.1 hx with rfl | hx
  ·exact hp _ _ _ h1
  ·exact RL.all hp h2 x hx
theorem SlR.all {α:Type} {R:Rd α} {sz:Nat} {p:α→Prop} {xs:List α} (h:SlR R sz H v xs) (hp:∀H c x,R H c x→p x):∀x∈xs,p x:=by obtain ⟨cs,_,h⟩:=h;exact RL.all hp h
theorem SlR.fits {xs:List Int} (h:SlR rInt 1 H v xs):∀x∈xs,Sx.fits x:=h.all fun _ _ _ h=>h.2
end
structure Held (q:Prop):Prop where
  out:q
theorem walk {p q:Prop} (hq:q) (h:Held q→p:=by
  intro hq
  repeat (first
   | refine Go.Sx.ops_p rfl rfl ?_ | refine Go.Sx.ops_ld rfl rfl rfl ?_ | refine Go.Sx.ops_T rfl rfl ?_ | refine Go.Sx.ops_F rfl rfl ?_ | refine Go.Sx.ops_B rfl rfl ?_ | refine Go.Sx.ops_skip rfl ?_
   | refine Go.Sx.ops_st rfl rfl rfl rfl ?_ | refine Go.Sx.ops_ldN rfl rfl rfl ?_ | refine Go.Sx.ops_ext rfl rfl rfl ?_ | refine Go.Sx.ops_bld rfl rfl ?_ | refine Go.Sx.ops_ldH rfl rfl ‹Go.Sx.HRow _ _ _ _› rfl rfl ?_ | refine Go.Sx.ops_ldH0 rfl rfl ‹Go.Sx.HRow _ _ _ _› rfl ?_ | refine Go.Sx.ops_ix rfl rfl rfl ‹Go.Sx.SlR _ _ _ _ _› (by omega) ?_
   | refine Go.Sx.ops_nil ?_ | refine Go.Sx.ex_seq ?_ | refine Go.Sx.ex_reg ?_ | refine Go.Sx.out_seq ?_ | refine Go.Sx.ex_c rfl ?_ | refine Go.Sx.ex_sT ?_ | refine Go.Sx.ex_sF ?_ | refine Go.Sx.ex_blk ?_ | refine Go.Sx.out_blk ?_
   | refine Go.Sx.ex_skip ?_ | refine Go.Sx.ex_exit ?_ | refine Go.Sx.ex_ret ?_ | refine Go.Sx.out_eseq ?_ | refine Go.Sx.out_eblk ?_ | refine Go.Sx.out_ecut ?_ | refine Go.Sx.out_epass rfl ?_ | refine Go.Sx.out_rseq ?_ | refine Go.Sx.out_rblk ?_ | refine Go.Sx.out_rcut ?_
   | refine Go.Sx.ex_quiet (by decide+kernel) (fun _ _ _ _ _ h=>h) ?_)
  exact hq.out):p:=h ⟨hq⟩
end Go.Sx
set_option linter.unusedVariables false
set_option linter.unusedSimpArgs false
namespace Go.Sx
open Go Go.ChangeShapes Go.WideShapes Go.ChangeAt Go.RowKit
def SlB {α:Type} (R:Rd α) (sz w:Nat) (H:Heap) (v:Value) (xs:List α):Prop:=SlR R sz H v xs∧xs.length*w≤zb_
theorem SlB.mono {α:Type} {R:Rd α} {sz w:Nat} [RdOk R sz] {H H':Heap} {v:Value} {xs:List α} (h:SlB R sz w H v xs) (hl:H.le H'):SlB R sz w H' v xs:=⟨h.1.mono hl,h.2⟩
theorem qm_ {α:Type} {R:Rd α} {sz w:Nat} {H:Heap} {v:Value} {xs:List α} (h:SlB R sz w H v xs):v.oneCell'=true:=by obtain ⟨_,_,rfl,_⟩:=h.1.shape;rfl
abbrev nilS:Value:= .slice none 0 0
theorem SlB.nil {α:Type} {R:Rd α} {sz w:Nat} {H:Heap}:SlB R sz w H nilS ([]:List α):=⟨SlR.nil _ _ _ _ _ (by omega),by simp⟩
def rSl {α:Type} (R:Rd α) (sz w:Nat):Rd (List α):=fun H c xs=>∃v,c=[v]∧SlB R sz w H v xs
instance {α:Type} {R:Rd α} {sz w:Nat} [RdOk R sz]:RdOk (rSl R sz w) 1:=⟨fun ⟨v,h,_⟩=>by subst h;rfl,fun ⟨v,h,h2⟩=>by subst h;simp only [List.all_cons,List.all_nil,qm_ h2];rfl,fun hl ⟨v,h,h2⟩=>⟨v,h,h2.mono hl⟩⟩
theorem Zg_:fits 0:=by unfold fits;omega
theorem cutd {cs v:List Value} {o k o':Nat} (h:(cs.drop o).take k=v) (ho:o+k=o'):cs.drop o=v++cs.drop o':=by
 subst ho;rw [←h,←List.drop_drop,List.take_append_drop]
def Wts {H:Type} (P:Program) (t:TypeId) (d:DataW H):Prop:=∀x∈d.weights P t,x≤reachBytes
theorem QbD_ {n:Nat} (h:n≤reachBytes):n≤zb_:=by have:=reachBytes_lt;unfold zb_;omega
section
variable {P:Program}
def Rds (P:Program) (t:TypeId) {α:Type} (R:Rd α):Prop:=
  ∀{H:Type} {enc:TypeId×Value→H} {W:World} {fuel:Nat} {cs:List Value} {d:DataW H} {ps:List MemPlace},DataW.trod enc P W 0 (fun _=>true) true fuel t cs=some (d,ps)→Wts P t d→∃y,R (hp W) cs y
theorem zdG_ {t:TypeId} (ht:P.underlying t=some (.int .i64)):Rds P t rInt:=fun h _=>by
 obtain ⟨n,rfl, -,hw⟩:=DataW.trod_int ht h;simp only [Lit.wf,Bool.and_eq_true,decide_eq_true_eq] at hw;exact ⟨n,rfl,by simpa [IntKind.min,IntKind.signed,IntKind.bits] using hw.1,by simpa [IntKind.max,IntKind.signed,IntKind.bits] using hw.2⟩
theorem QcP_ {t:TypeId} (ht:P.underlying t=some .string):Rds P t rStr:=fun h hw=>by
 obtain ⟨s,rfl,e, -⟩:=DataW.trod_string ht h
 cases e
 refine ⟨s,rfl,QbD_ ?_⟩;have:=hw s.data.toList.length (by simp [DataW.weights]);simpa using this
theorem Zdp_ {W:World} {b o:Nat} {v:Value} (h:W.cell? ⟨b,o,none⟩=some v):hcell (hp W) b o=some v:=by
 unfold World.cell? at h;unfold hcell hp;dsimp only at h⊢;split at h
 ·next hh=>rw [hh];simpa using h
 ·cases h
theorem zap_ {H:Type} {e:TypeId} {x:Nat}:∀{l:List (DataW H)},x∈DataW.weightsAll P e l↔∃d∈l,x∈d.weights P e
 | []=>by simp [DataW.weightsAll]
 | d::r=>by simp [DataW.weightsAll,zap_]
theorem qQ_ {H:Type} {x:Nat}:∀{ts:List TypeId} {l:List (DataW H)} {i:Nat} {t:TypeId} {d:DataW H},ts[i]?=some t→l[i]?=some d→x∈d.weights P t→x∈DataW.weightsEach P ts l
 | [],_,i,_,_,h,_,_=>by simp at h
 | _::_,[],i,_,_,_,h,_=>by simp at h
 | t::ts,d::l,0,_,_,h,h',hx=>by simp at h h';subst h;subst h';simp [DataW.weightsEach,hx]
 | t::ts,d::l,i+1,_,_,h,h',hx=>by
  simp only [DataW.weightsEach,List.mem_append];exact .inr (qQ_ (by simpa using h) (by simpa using h') hx)
theorem ZaU_ {α:Type} {R:Rd α} {sz w:Nat} [hR:RdOk R sz] {t e:TypeId} (ht:P.underlying t=some (.slice e)) (hc:P.cellsOf e=sz) (hb:P.bytesOf e=w) (h0:0<sz) (he:Rds P e R):Rds P t (rSl R sz w):=by
 intro H enc W fuel cs d ps h hw;rcases DataW.trod_slice ht h with ⟨rfl, -⟩ | ⟨a,len,cap,elems,rest,n, -,rfl,hd, -,hl,hm,hlen,hel, -, -⟩
 ·exact ⟨[],_,rfl,SlB.nil⟩
 ·cases hd
  have hbound:len*w≤zb_:=by
   have:=hw ((elems.length+rest.length)*P.bytesOf e) (by simp [DataW.weights,ht]);rw [hb] at this;refine QbD_ (Nat.le_trans (Nat.mul_le_mul_right _ ?_) this);omega
  have hws:∀x∈elems,Wts P e x.1:=fun x hx y hy=>hw y (by
   simp only [DataW.weights,ht,List.mem_cons,List.mem_append,zap_];exact .inr (.inl ⟨x.1,List.mem_map.2 ⟨x,hx,rfl⟩,hy⟩))
  unfold maxLen at hm;rw [hc] at hel
  have each:∀i,i<len→∃c y,c.length=sz∧(∀j,j<sz→W.cell? ((a.add (i*sz)).add j)=c[j]?)∧R (hp W) c y:=fun i hi=>by
   have:=hel i hi;rw [List.getElem?_eq_getElem (by omega)] at this
   cases hcs:W.cells? 0 (a.add (i*sz)) sz with
   | none=>rw [hcs] at this;cases this
   | some c=>
    rw [hcs] at this;obtain ⟨y,hy⟩:=he this (hws _ (List.getElem_mem _));obtain ⟨-,hlc,hcl⟩:=World.cells?_some hcs;exact ⟨c,y,hlc,hcl,hy⟩
  rcases Nat.eq_zero_or_pos len with rfl | hpos
  ·exact ⟨[],_,rfl,SlR.nil _ _ _ _ _ (by omega),by simp⟩
  ·obtain ⟨b,off,spot⟩:=a
   have hspot:spot=none:=by
    obtain ⟨c,y,hlc,hcl,_⟩:=each 0 hpos;have:=hcl 0 h0;rw [List.getElem?_eq_getElem (by omega)] at this;simpa [Addr.add] using World.cell?_spot this
   subst hspot
   have all:∀m,m≤len→∃cs xs,xs.length=m∧RL R (hp W) cs xs∧HRow (hp W) b off cs:=fun m=>by
    induction m with
    | zero=>exact fun _=>⟨[],[],rfl,rfl,fun j v hj=>by simp at hj⟩
    | succ m ih=>
     intro hm';obtain ⟨cs,xs,hx,hr,hrow⟩:=ih (by omega);obtain ⟨c,y,hlc,hcl,hy⟩:=each m (by omega);refine ⟨cs++c,xs++[y],by simp [hx],hr.snoc hy,fun j v hj=>?_⟩;have hcsl:cs.length=m*sz:=by rw [hr.len,hx]
     rcases Nat.lt_or_ge j cs.length with h | h
     ·rw [List.getElem?_append_left h] at hj;exact hrow j v hj
     ·rw [List.getElem?_append_right h] at hj
      have hjl:j - cs.length<c.length:=by
       rcases Nat.lt_or_ge (j - cs.length) c.length with h | h
       ·exact h
       ·rw [List.getElem?_eq_none h] at hj;cases hj
      have:=hcl (j - cs.length) (by omega);rw [add_plain,add_plain,hj] at this;have e:off+m*sz+(j - cs.length)=off+j:=by omega
      rw [e] at this;exact Zdp_ this
   obtain ⟨cs,xs,hx,hr,hrow⟩:=all len (Nat.le_refl _);exact ⟨xs,_,rfl,⟨cs,⟨_,cap,by rw [hx],⟨by omega,by omega⟩,hr.len,hr.one,.inr ⟨b,off,rfl,hrow⟩⟩,hr⟩,by rw [hx];exact hbound⟩
theorem QbV_ {H:Type} {enc:TypeId×Value→H} {W:World} {fuel:Nat} {t:TypeId} {cs:List Value} {d:DataW H} {ps:List MemPlace} {fs:Array Field} (ht:P.underlying t=some (.struct fs))
  (h:DataW.trod enc P W 0 (fun _=>true) true fuel t cs=some (d,ps)) (hw:Wts P t d):
  cs.length=P.cellsOf t∧∀(i:Nat) (f:Field),fs[i]?=some f→∀(o n:Nat),(f.offset=o∧P.cellsOf f.type=n)→∀{α:Type} {R:Rd α},Rds P f.type R→∃y,R (hp W) ((cs.drop o).take n) y:=by
 obtain ⟨xs,n, -,hx,hl,hxl,he⟩:=DataW.trod_struct ht h
 cases hx
 refine ⟨hl,fun i f hf o m ⟨ho,hm⟩ α R hR=>?_⟩;have hi:i<xs.length:=by rw [hxl];exact (Array.getElem?_eq_some_iff.1 hf).1
 have h1:=he i f hf;rw [List.getElem?_eq_getElem hi,ho,hm] at h1
 obtain ⟨y,hy⟩:=hR (d:=xs[i].1) (ps:=xs[i].2) h1 fun x hx=>hw x (by
  simp only [DataW.weights,ht];exact qQ_ (i:=i) (t:=f.type) (d:=xs[i].1) (by simp [hf]) (by simp [List.getElem?_eq_getElem hi]) hx)
 exact ⟨y,hy⟩
end
end Go.Sx
set_option linter.unusedVariables false
set_option linter.unusedSimpArgs false
namespace Go.Sx
open Go
theorem qN_ {n w:Nat} (hw:0<w) (h:n*w≤zb_):n≤zb_:=Nat.le_trans (Nat.le_mul_of_pos_right n hw) h
def ownS {α:Type} (R:Rd α) (sz w T:Nat) (H:Heap) (s:Value) (xs:List α):za_:=fun h=>∃cs,(RL R H cs xs∧xs.length*w≤zb_)∧own T sz s xs.length cs h
section
variable {α:Type} {R:Rd α} {sz w T:Nat} {H H':Heap} {s:Value} {xs:List α} {L:List za_}
theorem zaE_ [RdOk R sz] (hl:H.le H'):Sub (ownS R sz w T H s xs::L) (ownS R sz w T H' s xs::L):=fun h ⟨h1,h2,⟨cs,⟨a,b⟩,c⟩,q,d,l1,l2⟩=>⟨h1,h2,⟨cs,⟨a.mono hl,b⟩,c⟩,q,d,l1,l2⟩
theorem ownS_nil {base:Option Addr}:Sub L (ownS R sz w T H (.slice base 0 0) []::L):=own_nil.trans fun h ⟨h1,h2,a,q,d,l1,l2⟩=>⟨h1,h2,⟨[],⟨rfl,by simp⟩,a⟩,q,d,l1,l2⟩
theorem QK_ {cs:List Value} (h1:RL R H cs xs) (h2:xs.length*w≤zb_):Sub (own T sz s xs.length cs::L) (ownS R sz w T H s xs::L):=fun h ⟨h3,h4,p,q,d,l1,l2⟩=>⟨h3,h4,⟨cs,⟨h1,h2⟩,p⟩,q,d,l1,l2⟩
theorem ZW_ {h:Heap} (ho:ownS R sz w T H s xs h):∃base cap,s= .slice base xs.length cap∧xs.length≤cap∧cap≤9223372036854775807:=by obtain ⟨cs,_,a⟩:=ho;exact (QcU_ a).1
theorem qal_ {h:Heap} (ho:ownS R sz w T H s xs h):xs.length*w≤zb_:=by obtain ⟨cs,a,_⟩:=ho;exact a.2
theorem zG_ [RdOk R sz] {h:Heap} (ho:ownS R sz w T H s xs h) (hH:H.le H') (hl:h.le H'):SlB R sz w H' s xs:=by
 obtain ⟨cs,⟨a,b⟩,c⟩:=ho;exact ⟨⟨cs,ZcU_ c hl a.one,a.mono hH⟩,b⟩
end
class HasS (L:List za_) (s:Value) (α:outParam Type) (R:outParam (Rd α)) (sz w T:outParam Nat) (H:outParam Heap) (xs:outParam (List α)) (L':outParam (List za_)):Prop where
  has:Has L (ownS R sz w T H s xs) L'
section
variable {s:Value} {α:Type} {R:Rd α} {sz w T:Nat} {H:Heap} {xs:List α} {L L' B:List za_} {A:za_}
instance :HasS (ownS R sz w T H s xs::L) s α R sz w T H xs L:=⟨.here⟩
instance [h:HasS L s α R sz w T H xs L']:HasS (A::L) s α R sz w T H xs (A::L'):=⟨.there h.has⟩
instance [h:HasS L s α R sz w T H xs L']:HasS ([]++L) s α R sz w T H xs L':=⟨h.has⟩
instance {B':List za_} [h:HasS (B'++(B++L)) s α R sz w T H xs L']:HasS ((B'++B)++L) s α R sz w T H xs L':=⟨by rw [List.append_assoc];exact h.has⟩
instance [h:HasS (A::(B++L)) s α R sz w T H xs L']:HasS (List.append (A::B) L) s α R sz w T H xs L':=⟨h.has⟩
instance [h:HasS (A::(B++L)) s α R sz w T H xs L']:HasS ((A::B)++L) s α R sz w T H xs L':=⟨h.has⟩
end
section
variable {P:Program} {n:Nat} {W0:World} {Q:Exit→Act→World→Prop} {F:zd_} {H:Heap} {L:List za_} {ops:Array Oper} {rest:List Oper} {k:List Fr} {e:Exit} {c:Code}
theorem zr_ {L':List za_} (hs:Sub L L') (h:Ops P n W0 Q F H L' false ops rest k):Ops P n W0 Q F H L false ops rest k:=⟨Qbq_ h.run hs⟩
theorem zal_ {A:za_} {p:Prop} {R:List za_} (hh:Has L A R) (hu:∀h,A h→p) (h:p→Ops P n W0 Q F H L false ops rest k):Ops P n W0 Q F H L false ops rest k:=⟨Zam_ hh hu fun hp=>(h hp).run⟩
theorem qo_ {σ:Type} {A:za_} {B:σ→List za_} {p:σ→Prop} {R:List za_} (hh:Has L A R) (hu:∀h,A h→∃s,p s∧big (B s) h) (h:∀s,p s→Ops P n W0 Q F H (B s++R) false ops rest k):Ops P n W0 Q F H L false ops rest k:=⟨Zq_ hh hu fun s hp=>(h s hp).run⟩
theorem qq_ {α:Type} {R:Rd α} {sz w T:Nat} {H0:Heap} {xs:List α} {L':List za_} (s:Value) [hh:HasS L s α R sz w T H0 xs L'] (h:∀base cap,s= .slice base xs.length cap→xs.length≤cap→cap≤9223372036854775807→xs.length*w≤zb_→Ops P n W0 Q F H L false ops rest k):Ops P n W0 Q F H L false ops rest k:=
 ⟨Zam_ hh.has (fun _ ho=>And.intro (ZW_ ho) (qal_ ho)) fun ⟨⟨b,c,e,h1,h2⟩,h3⟩=>(h b c e h1 h2 h3).run⟩
theorem Zd_ {α:Type} {R:Rd α} {sz w T:Nat} {H0:Heap} {xs:List α} {L':List za_} (s:Value) [hh:HasS L s α R sz w T H0 xs L'] [hR:RdOk R sz] (h:∀H',H.le H'→SlB R sz w H' s xs→Ops P n W0 Q F H' L' false ops rest k) (hl:H0.le H:=by exact Go.Sx.leA):Ops P n W0 Q F H L false ops rest k:=
 ⟨Zq_ (σ:=List Value) (B:=fun cs=>[own T sz s xs.length cs]) (p:=fun cs=>RL R H0 cs xs∧xs.length*w≤zb_) hh.has (fun x ⟨cs,a,b⟩=>⟨cs,a,⟨x,Heap.empty,b,trivial,fun _=> .inr rfl,.refl _,fun _ _ h=>by simp [Heap.empty] at h⟩⟩)
  fun cs ⟨a,b⟩=>QH_ .here a.one fun H' hl' hs=>(h H' hl' ⟨⟨cs,hs,a.mono (hl.trans hl')⟩,b⟩).run⟩
theorem ex_L {L':List za_} (hs:Sub L L') (h:Ex P n W0 Q F H L' c k):Ex P n W0 Q F H L c k:=⟨Qbq_ h.run hs⟩
theorem qaV_ {A:za_} {p:Prop} {R:List za_} (hh:Has L A R) (hu:∀h,A h→p) (h:p→Ex P n W0 Q F H L c k):Ex P n W0 Q F H L c k:=⟨Zam_ hh hu fun hp=>(h hp).run⟩
theorem Qj_ {σ:Type} {A:za_} {B:σ→List za_} {p:σ→Prop} {R:List za_} (hh:Has L A R) (hu:∀h,A h→∃s,p s∧big (B s) h) (h:∀s,p s→Ex P n W0 Q F H (B s++R) c k):Ex P n W0 Q F H L c k:=⟨Zq_ hh hu fun s hp=>(h s hp).run⟩
theorem Qs_ {α:Type} {R:Rd α} {sz w T:Nat} {H0:Heap} {xs:List α} {L':List za_} (s:Value) [hh:HasS L s α R sz w T H0 xs L'] (h:∀base cap,s= .slice base xs.length cap→xs.length≤cap→cap≤9223372036854775807→xs.length*w≤zb_→Ex P n W0 Q F H L c k):Ex P n W0 Q F H L c k:=
 ⟨Zam_ hh.has (fun _ ho=>And.intro (ZW_ ho) (qal_ ho)) fun ⟨⟨b,c,e,h1,h2⟩,h3⟩=>(h b c e h1 h2 h3).run⟩
theorem zaV_ {α:Type} {R:Rd α} {sz w T:Nat} {H0:Heap} {xs:List α} {L':List za_} (s:Value) [hh:HasS L s α R sz w T H0 xs L'] [hR:RdOk R sz] (h:∀H',H.le H'→SlB R sz w H' s xs→Ex P n W0 Q F H' L' c k) (hl:H0.le H:=by exact Go.Sx.leA):Ex P n W0 Q F H L c k:=
 ⟨Zq_ (σ:=List Value) (B:=fun cs=>[own T sz s xs.length cs]) (p:=fun cs=>RL R H0 cs xs∧xs.length*w≤zb_) hh.has (fun x ⟨cs,a,b⟩=>⟨cs,a,⟨x,Heap.empty,b,trivial,fun _=> .inr rfl,.refl _,fun _ _ h=>by simp [Heap.empty] at h⟩⟩)
  fun cs ⟨a,b⟩=>QH_ .here a.one fun H' hl' hs=>(h H' hl' ⟨⟨cs,hs,a.mono (hl.trans hl')⟩,b⟩).run⟩
theorem QaL_ {L':List za_} (hs:Sub L L') (h:Out P n W0 Q F H L' e k):Out P n W0 Q F H L e k:=⟨Qbq_ h.run hs⟩
theorem qdq_ {A:za_} {p:Prop} {R:List za_} (hh:Has L A R) (hu:∀h,A h→p) (h:p→Out P n W0 Q F H L e k):Out P n W0 Q F H L e k:=⟨Zam_ hh hu fun hp=>(h hp).run⟩
theorem qg_ {α:Type} {R:Rd α} {sz w T:Nat} {H0:Heap} {xs:List α} {L':List za_} (s:Value) [hh:HasS L s α R sz w T H0 xs L'] [hR:RdOk R sz] (h:∀H',H.le H'→SlB R sz w H' s xs→Out P n W0 Q F H' L' e k) (hl:H0.le H:=by exact Go.Sx.leA):Out P n W0 Q F H L e k:=
 ⟨Zq_ (σ:=List Value) (B:=fun cs=>[own T sz s xs.length cs]) (p:=fun cs=>RL R H0 cs xs∧xs.length*w≤zb_) hh.has (fun x ⟨cs,a,b⟩=>⟨cs,a,⟨x,Heap.empty,b,trivial,fun _=> .inr rfl,.refl _,fun _ _ h=>by simp [Heap.empty] at h⟩⟩)
  fun cs ⟨a,b⟩=>QH_ .here a.one fun H' hl' hs=>(h H' hl' ⟨⟨cs,hs,a.mono (hl.trans hl')⟩,b⟩).run⟩
theorem Qal_ {α:Type} {R:Rd α} {sz w T:Nat} {H0:Heap} {xs:List α} {L':List za_} (s:Value) [hh:HasS L s α R sz w T H0 xs L'] (h0:0<xs.length)
  (h:∀b cap cs sp,s= .slice (some ⟨b,0,none⟩) xs.length cap→xs.length≤cap→cap≤9223372036854775807→cs.length=xs.length*sz→(cs++sp).length=cap*sz→RL R H0 cs xs→xs.length*w≤zb_→Ops P n W0 Q F H (row b T (cs++sp)::L') false ops rest k):Ops P n W0 Q F H L false ops rest k:=
 ⟨Zq_ (σ:=List Value) (B:=fun cs=>[own T sz s xs.length cs]) (p:=fun cs=>RL R H0 cs xs∧xs.length*w≤zb_) hh.has (fun x ⟨cs,a,b⟩=>⟨cs,a,⟨x,Heap.empty,b,trivial,fun _=> .inr rfl,.refl _,fun _ _ h=>by simp [Heap.empty] at h⟩⟩)
  fun cs ⟨a,hb⟩=>Zq_ (σ:=Nat×Nat×List Value) (B:=fun s=>[row s.1 T (cs++s.2.2)]) (p:=fun x=>s= .slice (some ⟨x.1,0,none⟩) xs.length x.2.1∧xs.length≤x.2.1∧x.2.1≤9223372036854775807∧cs.length=xs.length*sz∧(cs++x.2.2).length=x.2.1*sz) .here (fun h ho=>Zbq_ h0 ho)
   fun ⟨b,cap,sp⟩ ⟨h1,h2,h3,h4,h5⟩=>(h b cap cs sp h1 h2 h3 h4 h5 a hb).run⟩
theorem ZcP_ {α:Type} {R:Rd α} {sz w T:Nat} {H0:Heap} {xs:List α} {L':List za_} (s:Value) [hh:HasS L s α R sz w T H0 xs L'] (h0:0<xs.length)
  (h:∀b cap cs sp,s= .slice (some ⟨b,0,none⟩) xs.length cap→xs.length≤cap→cap≤9223372036854775807→cs.length=xs.length*sz→(cs++sp).length=cap*sz→RL R H0 cs xs→xs.length*w≤zb_→Ex P n W0 Q F H (row b T (cs++sp)::L') c k):Ex P n W0 Q F H L c k:=
 ⟨Zq_ (σ:=List Value) (B:=fun cs=>[own T sz s xs.length cs]) (p:=fun cs=>RL R H0 cs xs∧xs.length*w≤zb_) hh.has (fun x ⟨cs,a,b⟩=>⟨cs,a,⟨x,Heap.empty,b,trivial,fun _=> .inr rfl,.refl _,fun _ _ h=>by simp [Heap.empty] at h⟩⟩)
  fun cs ⟨a,hb⟩=>Zq_ (σ:=Nat×Nat×List Value) (B:=fun s=>[row s.1 T (cs++s.2.2)]) (p:=fun x=>s= .slice (some ⟨x.1,0,none⟩) xs.length x.2.1∧xs.length≤x.2.1∧x.2.1≤9223372036854775807∧cs.length=xs.length*sz∧(cs++x.2.2).length=x.2.1*sz) .here (fun h ho=>Zbq_ h0 ho)
   fun ⟨b,cap,sp⟩ ⟨h1,h2,h3,h4,h5⟩=>(h b cap cs sp h1 h2 h3 h4 h5 a hb).run⟩
end
section
variable {P:Program} {n:Nat} {W0:World} {Q:Exit→Act→World→Prop} {F:zd_} {H:Heap} {L:List za_} {ops:Array Oper} {rest:List Oper} {k:List Fr} {ty ty':TypeId} {pos pos':String} {aft aft':Array Edge} {d d':Tmp} {g g':Option (Nat×Bool)}
  {α:Type} {R:Rd α} {sz w T:Nat} {H0:Heap} {xs ys:List α} {y:α} {L':List za_} {sv xv z:Value} {us:List Value} {gv gv':Option (Value×Bool)}
theorem zj_ {t:TypeId} {s x:Operand} [hT:TSl P t T] [hI:TIn P T sz w z] [hS':TSz P T sz] [hZ:TZ P T z] [hR:RdOk R sz] (hg:gval ops F g=some gv) [hb:GOk gv true] (hg':gval ops F g'=some gv') [hb':GOk gv' true]
  (hv:opvs F [s,x]=some [sv,xv]) [hc:CellsI xv us] [hh:HasS L sv α R sz w T H0 xs L'] (hy:R H us y) (hcap:(xs.length+1)*w≤zb_)
  (hk:∀base cap,Ops P n W0 Q ((d',.slice base (xs.length+1) cap)::F) H (ownS R sz w T H (.slice base (xs.length+1) cap) (xs++[y])::L') false ops rest k)
  (hl:H0.le H:=by exact Go.Sx.leA) (h0:(Nat.blt 0 sz&&Nat.ble sz 1000&&Nat.blt 0 w)=true:=by rfl) (hn:fget F d=none:=by rfl) (hne:Nat.beq d d'=false:=by rfl) (hd:Nat.blt d n=true:=by rfl) (hd':Nat.blt d' n=true:=by rfl)
  (hs0:∀u,opv ((d,u)::F) s=opv F s:=by intro u;rfl):
  Ops P n W0 Q F H L false ops (⟨some d,.buildSlice t 1 #[(0,x)],ty,pos,aft,g⟩::⟨some d',.call ⟨.builtin .append,#[s,.tmp d],#[t,t]⟩,ty',pos',aft',g'⟩::rest) k:=by
 obtain ⟨hvs,hvx⟩:=qf_ hv;simp only [Bool.and_eq_true] at h0;have hwpos:0<w:=by simpa [Nat.blt_eq] using h0.2
 have hzs:z.cells.size=sz:=by obtain ⟨_,_,_,_,_,h,_⟩:=hI.ex;exact h
 refine qI_ hg hd (ZU_ (z:=z) hvx hc.h (hR.len hy) hzs (by simp [h0.1]) fun b hbn=>?_);refine qo_ (σ:=List Value) (B:=fun cs=>[own T sz sv xs.length cs]) (p:=fun cs=>RL R H0 cs xs∧xs.length*w≤zb_) (.there hh.has) (fun x ⟨cs,a,b⟩=>⟨cs,a,⟨x,Heap.empty,b,trivial,fun _=> .inr rfl,.refl _,fun _ _ h=>by simp [Heap.empty] at h⟩⟩) fun cs ⟨a,hsm⟩=>?_;have hc47:=qN_ hwpos hcap;refine qI_ (qax_ hn hg') hd' (QQ_ (m:=xs.length) (k:=1) (news:=us) (xv:= .slice (some ⟨b,0,none⟩) 1 1) ((hs0 _).trans hvs) (by simp [opv,fget]) .here (.row0 hT.und (.there .here) (by simpa using hR.len hy) (hR.one hy)) (by simp only [maxLen];simp only [zb_] at hc47;omega) hcap fun base cap=>?_);refine zax_ (Zak_ hn) (zr_ ?_ (hk base cap));intro h ⟨h1,h2,p,q,dd,l1,l2⟩;refine ⟨h1,h2,⟨cs++us,⟨(a.mono hl).snoc hy,by simpa using hcap⟩,by simpa using p⟩,?_,dd,l1,l2⟩;exact Sub.drop (Sub.refl _) _ q
theorem v72_ {P:Prop} (h:P:=by
 intro h ⟨h1,h2,p,q,dd,l1,l2⟩;exact ⟨h1,h2,⟨cs++ds,⟨(a.mono hl).app hy2,by simpa using hcap⟩,by simpa using p⟩,q,dd,l1,l2⟩):P:=h
theorem Qq_ {t:TypeId} {s x:Operand} [hT:TSl P t T] [hI:TIn P T sz w z] [hR:RdOk R sz] (hg:gval ops F g=some gv) [hb:GOk gv true] (hv:opvs F [s,x]=some [sv,xv]) [hh:HasS L sv α R sz w T H0 xs L'] (hy:SlR R sz H xv ys) (hcap:(xs.length+ys.length)*w≤zb_)
  (hk:∀base cap,Ops P n W0 Q ((d,.slice base (xs.length+ys.length) cap)::F) H (ownS R sz w T H (.slice base (xs.length+ys.length) cap) (xs++ys)::L') false ops rest k)
  (hl:H0.le H:=by exact Go.Sx.leA) (h0:(Nat.blt 0 w)=true:=by rfl) (hd:Nat.blt d n=true:=by rfl):
  Ops P n W0 Q F H L false ops (⟨some d,.call ⟨.builtin .append,#[s,x],#[t,t]⟩,ty,pos,aft,g⟩::rest) k:=by
 obtain ⟨hvs,hvx⟩:=qf_ hv;have hwpos:0<w:=by simpa [Nat.blt_eq] using h0
 obtain ⟨ds,hy1,hy2⟩:=hy;refine qo_ (σ:=List Value) (B:=fun cs=>[own T sz sv xs.length cs]) (p:=fun cs=>RL R H0 cs xs∧xs.length*w≤zb_) hh.has (fun x ⟨cs,a,b⟩=>⟨cs,a,⟨x,Heap.empty,b,trivial,fun _=> .inr rfl,.refl _,fun _ _ h=>by simp [Heap.empty] at h⟩⟩) fun cs ⟨a,hsm⟩=>?_;have hc47:=qN_ hwpos hcap;refine qI_ hg hd (QQ_ (m:=xs.length) (k:=ys.length) (news:=ds) hvs hvx .here (.ro hT.und hy1) (by simp only [maxLen];simp only [zb_] at hc47;omega) hcap fun base cap=>?_);refine zr_ ?_ (hk base cap);exact v72_
theorem QU_ (R:Rd α) {t:TypeId} [hT:TSl P t T] [hS':TSz P T sz] [hR:RdOk R sz] (hg:gval ops F g=some gv) [hb:GOk gv true] (hk:∀b,Ops P n W0 Q ((d,.slice b 0 0)::F) H (ownS R sz w T H (.slice b 0 0) []::L) false ops rest k) (hd:Nat.blt d n=true:=by rfl):
  Ops P n W0 Q F H L false ops (⟨some d,.buildSlice t 0 #[],ty,pos,aft,g⟩::rest) k:=
 qI_ hg hd (Zap_ fun b _=>zr_ ((Sub.drop (Sub.refl _)).trans ownS_nil) (hk _))
end
end Go.Sx
set_option linter.unusedVariables false
set_option linter.unusedSimpArgs false
namespace Go.Sx
open Go
def zcw_:List Oper→Nat→Option (List Oper)
  | l,0=>some l
  | [],_+1=>some []
  | _::l,n+1=>zcw_ l n
theorem qcl_:∀{l:List Oper} {n:Nat} {r:List Oper},zcw_ l n=some r→l.drop n=r
 | l,0,r,h=>by simpa [zcw_] using h
 | [],_+1,r,h=>by simpa [zcw_] using h
 | _::l,n+1,r,h=>by simp only [zcw_] at h;simpa using qcl_ h
section
variable (P:Program) (n:Nat) (W0:World) (Q:Exit→Act→World→Prop) (F:zd_) (H H0:Heap) (L L0:List za_)
structure AnyO (m:Nat) (ops:Array Oper) (fuel:Nat) (listed:Array Bool) (k:List Fr):Prop where
  run:Sat n W0 F H L (Any P W0 H0 L0 m ops (Kx P Q k) fuel listed)
end
section
variable {P:Program} {n:Nat} {W0:World} {Q:Exit→Act→World→Prop} {F:zd_} {H H0:Heap} {L L0:List za_} {m fuel:Nat} {ops:Array Oper} {listed:Array Bool} {k:List Fr} {op:Op} {ty:TypeId} {pos:String} {aft:Array Edge} {d:Tmp} {v:Value} {vs:List Value}
theorem zc_ [hm:TMix P] {id:Nat} {l:List Oper} (m:Nat) (L0:List za_) (h:AnyO P n W0 Q F H H L L0 m l.toArray l.length (Array.replicate l.length false) k):Ex P n W0 Q F H L (.region id l.toArray true) k:=⟨qcU_ m L0 h.run⟩
theorem qaa_ (i:Nat) (hi:ops[i]?=some ⟨some d,op,ty,pos,aft,none⟩) (hv:OpP P n W0 ⟨some d,op,ty,pos,aft,none⟩ F H0 L0 v) (h:AnyO P n W0 Q ((d,v)::F) H H0 L L0 m ops fuel (listed.setIfInBounds i true) k)
  (hok:Ql_ ops m listed i=true) (hQ:∀c a w,Kx P Q k (.panic c) (a.put (some d) v) w→Kx P Q k (.panic c) a w) (hl:H0.le H) (hsub:Sub L L0) (hd:Nat.blt d n=true):AnyO P n W0 Q F H H0 L L0 m ops (fuel+1) listed k:=
 ⟨zdt_ i hi hok hQ hl hsub hd hv h.run⟩
theorem Qt_ (i:Nat) {side:Prop} (hi:ops[i]?=some ⟨some d,op,ty,pos,aft,none⟩) (hv:opvs F (Qae_ op)=some vs) [hp:POp P op vs side v] (h:AnyO P n W0 Q ((d,v)::F) H H0 L L0 m ops fuel (listed.setIfInBounds i true) k)
  (hs:side:=by first | exact True.intro | omega | assumption | (unfold Go.Sx.fits;omega) | (refine ⟨?_,?_⟩<;>(try unfold Go.Sx.fits)<;>omega)) (hok:Ql_ ops m listed i=true:=by decide+kernel) (hQ:∀c a w,Kx P Q k (.panic c) (a.put (some d) v) w→Kx P Q k (.panic c) a w:=by exact fun _ _ _ h=>h)
  (hl:H0.le H:=by exact Go.Sx.leA) (hsub:Sub L L0:=by exact Go.Sx.subA)
  (hd:Nat.blt d n=true:=by rfl):AnyO P n W0 Q F H H0 L L0 m ops (fuel+1) listed k:=qaa_ i hi (hp.run hs hv) h hok hQ hl hsub hd
theorem zm_ (i:Nat) {x:Operand} {t:TypeId} {b off T:Nat} {cs:List Value} {R:List za_} [TAgg P t false] (hi:ops[i]?=some ⟨some d,.load t x,ty,pos,aft,none⟩) (hx:opv F x=some (.pointer (some ⟨b,off,none⟩))) [hr:HasRow L0 b T cs R] (hc:cs[off]?=some v) (h:AnyO P n W0 Q ((d,v)::F) H H0 L L0 m ops fuel (listed.setIfInBounds i true) k)
  (hok:Ql_ ops m listed i=true:=by decide+kernel) (hQ:∀c a w,Kx P Q k (.panic c) (a.put (some d) v) w→Kx P Q k (.panic c) a w:=by exact fun _ _ _ h=>h)
  (hl:H0.le H:=by exact Go.Sx.leA) (hsub:Sub L L0:=by exact Go.Sx.subA)
  (hd:Nat.blt d n=true:=by rfl):AnyO P n W0 Q F H H0 L L0 m ops (fuel+1) listed k:=qaa_ i hi (ZaE_ hx hr.has hc) h hok hQ hl hsub hd
theorem Qh_ (i:Nat) {x:Operand} {t:TypeId} {b off T sz:Nat} {cs us:List Value} {R:List za_} [TAgg P t true] [TSz P t sz] (hi:ops[i]?=some ⟨some d,.load t x,ty,pos,aft,none⟩) (hx:opv F x=some (.pointer (some ⟨b,off,none⟩))) [hr:HasRow L0 b T cs R] (hc:qaE_ cs off sz=some us) (h:AnyO P n W0 Q ((d,.agg us.toArray)::F) H H0 L L0 m ops fuel (listed.setIfInBounds i true) k)
  (hok:Ql_ ops m listed i=true:=by decide+kernel) (hQ:∀c a w,Kx P Q k (.panic c) (a.put (some d) (.agg us.toArray)) w→Kx P Q k (.panic c) a w:=by exact fun _ _ _ h=>h)
  (hl:H0.le H:=by exact Go.Sx.leA) (hsub:Sub L L0:=by exact Go.Sx.subA)
  (hd:Nat.blt d n=true:=by rfl):AnyO P n W0 Q F H H0 L L0 m ops (fuel+1) listed k:=qaa_ i hi (QaN_ hx hr.has (pickC_pick hc)) h hok hQ hl hsub hd
theorem Zt_ (i:Nat) (hi:ops[i]?=some ⟨some d,op,ty,pos,aft,none⟩) (h:OpW P n W0 ⟨some d,op,ty,pos,aft,none⟩ F H L (fun v H' L'=>H0.le H'∧Sub L' L0∧AnyO P n W0 Q ((d,v)::F) H' H0 L' L0 m ops fuel (listed.setIfInBounds i true) k))
  (hr:Region.ready .any ops listed=[i]:=by decide+kernel) (hd:Nat.blt d n=true:=by rfl):AnyO P n W0 Q F H H0 L L0 m ops (fuel+1) listed k:=
 ⟨qbq_ hr (QaW_ hi hd (h.mono fun v H' L' _ ⟨a,b,c⟩=>⟨a,b,c.run⟩))⟩
theorem zo_ (i:Nat) {f:FuncId} {l:List Operand} {ts:Array TypeId} {A R:List za_} {Post:Value→Heap→List za_→Prop} [TFn P f] (hi:ops[i]?=some ⟨some d,.call ⟨.value (.func f),l.toArray,ts⟩,ty,pos,aft,none⟩) (ha:opvs F l=some vs) (hs:Ct P f vs.toArray W0 H A Post)
  (hk:∀r H' B,H.le H'→Post r H' B→Sub (B++R) L0∧AnyO P n W0 Q ((d,r)::F) H' H0 (B++R) L0 m ops fuel (listed.setIfInBounds i true) k) (ht:Take L A R:=by repeat (first | exact Go.Sx.Take.nil | (apply Go.Sx.Take.cons;focus (repeat (first | exact Go.Sx.Has.here | apply Go.Sx.Has.there)))))
  (hl:H0.le H:=by exact Go.Sx.leA) (hr:Region.ready .any ops listed=[i]:=by decide+kernel) (hd:Nat.blt d n=true:=by rfl):AnyO P n W0 Q F H H0 L L0 m ops (fuel+1) listed k:=
 Zt_ i hi (ZaV_ (Zv_ ha) hs ht fun r H' B h1 h2=>⟨hl.trans h1,(hk r H' B h1 h2).1,(hk r H' B h1 h2).2⟩) hr hd
theorem qb_ {l rest:List Oper} (hrest:zcw_ l m=some rest) (h:Ops P n W0 Q F H L false l.toArray rest k) (hfuel:fuel=rest.length:=by rfl) (hok:ZcT_ l.toArray m listed=true:=by decide+kernel):AnyO P n W0 Q F H H0 L L0 m l.toArray fuel listed k:=
 ⟨Qdt_ hok (qcl_ hrest) hfuel h.run⟩
theorem Qcw_ {L':List za_} (hs:Sub L L') (h:AnyO P n W0 Q F H H0 L' L0 m ops fuel listed k):AnyO P n W0 Q F H H0 L L0 m ops fuel listed k:=⟨Qbq_ h.run hs⟩
theorem zdq_ {σ:Type} {A:za_} {B:σ→List za_} {p:σ→Prop} {R:List za_} (hh:Has L A R) (hu:∀h,A h→∃s,p s∧big (B s) h) (h:∀s,p s→AnyO P n W0 Q F H H0 (B s++R) L0 m ops fuel listed k):AnyO P n W0 Q F H H0 L L0 m ops fuel listed k:=⟨Zq_ hh hu fun s hp=>(h s hp).run⟩
theorem Qax_ {α:Type} {R:Rd α} {sz w T:Nat} {H1:Heap} {xs:List α} {L':List za_} (s:Value) [hh:HasS L s α R sz w T H1 xs L'] (h:∀base cap,s= .slice base xs.length cap→xs.length≤cap→cap≤9223372036854775807→xs.length*w≤zb_→AnyO P n W0 Q F H H0 L L0 m ops fuel listed k):AnyO P n W0 Q F H H0 L L0 m ops fuel listed k:=
 ⟨Zam_ hh.has (fun _ ho=>And.intro (ZW_ ho) (qal_ ho)) fun ⟨⟨b,c,e,h1,h2⟩,h3⟩=>(h b c e h1 h2 h3).run⟩
theorem zi_ {α:Type} {R:Rd α} {sz w T:Nat} {H1:Heap} {xs:List α} {L':List za_} (s:Value) [hh:HasS L s α R sz w T H1 xs L'] [hR:RdOk R sz] (h:∀H',H.le H'→SlB R sz w H' s xs→AnyO P n W0 Q F H' H0 L' L0 m ops fuel listed k) (hl:H1.le H:=by exact Go.Sx.leA):AnyO P n W0 Q F H H0 L L0 m ops fuel listed k:=
 ⟨Zq_ (σ:=List Value) (B:=fun cs=>[own T sz s xs.length cs]) (p:=fun cs=>RL R H1 cs xs∧xs.length*w≤zb_) hh.has (fun x ⟨cs,a,b⟩=>⟨cs,a,⟨x,Heap.empty,b,trivial,fun _=> .inr rfl,.refl _,fun _ _ h=>by simp [Heap.empty] at h⟩⟩)
  fun cs ⟨a,b⟩=>QH_ .here a.one fun H' hl' hs=>(h H' hl' ⟨⟨cs,hs,a.mono (hl.trans hl')⟩,b⟩).run⟩
theorem Qu_ (i j:Nat) {α:Type} {R:Rd α} {sz w T:Nat} {H1:Heap} {xs:List α} {y:α} {L':List za_} {sv xv z:Value} {us:List Value} {d':Tmp} {ty':TypeId} {pos':String} {aft':Array Edge} {t:TypeId} {s x:Operand} [hT:TSl P t T] [hI:TIn P T sz w z] [hS':TSz P T sz] [hZ:TZ P T z] [hR:RdOk R sz]
  (hi:ops[i]?=some ⟨some d,.buildSlice t 1 #[(0,x)],ty,pos,aft,none⟩) (hj:ops[j]?=some ⟨some d',.call ⟨.builtin .append,#[s,.tmp d],#[t,t]⟩,ty',pos',aft',none⟩) (hv:opvs F [s,x]=some [sv,xv]) [hc:CellsI xv us] [hh:HasS L sv α R sz w T H1 xs L'] (hy:R H us y) (hcap:(xs.length+1)*w≤zb_)
  (hk:∀base cap,Sub (ownS R sz w T H (.slice base (xs.length+1) cap) (xs++[y])::L') L0∧AnyO P n W0 Q ((d',.slice base (xs.length+1) cap)::F) H H0 (ownS R sz w T H (.slice base (xs.length+1) cap) (xs++[y])::L') L0 m ops fuel ((listed.setIfInBounds i true).setIfInBounds j true) k)
  (hl:H1.le H:=by exact Go.Sx.leA) (hl0:H0.le H:=by exact Go.Sx.leA) (hsub:Sub L L0:=by exact Go.Sx.subA)
  (h0:(Nat.blt 0 sz&&Nat.ble sz 1000&&Nat.blt 0 w)=true:=by rfl) (hn:fget F d=none:=by rfl) (hd:Nat.blt d n=true:=by rfl) (hd':Nat.blt d' n=true:=by rfl) (hs0:∀u,opv ((d,u)::F) s=opv F s:=by intro u;rfl)
  (hr:Region.ready .any ops listed=[i]:=by decide+kernel) (hr':Region.ready .any ops (listed.setIfInBounds i true)=[j]:=by decide+kernel):AnyO P n W0 Q F H H0 L L0 m ops (fuel+1+1) listed k:=by
 obtain ⟨hvs,hvx⟩:=qf_ hv;simp only [Bool.and_eq_true] at h0;have hwpos:0<w:=by simpa [Nat.blt_eq] using h0.2
 have hzs:z.cells.size=sz:=by obtain ⟨_,_,_,_,_,h,_⟩:=hI.ex;exact h
 refine Zt_ i hi (ZU_ (z:=z) hvx hc.h (hR.len hy) hzs (by simp [h0.1]) fun b hbn=>⟨hl0,Sub.drop hsub,?_⟩) hr hd;refine zdq_ (σ:=List Value) (B:=fun cs=>[own T sz sv xs.length cs]) (p:=fun cs=>RL R H1 cs xs∧xs.length*w≤zb_) (.there hh.has) (fun x ⟨cs,a,b⟩=>⟨cs,a,⟨x,Heap.empty,b,trivial,fun _=> .inr rfl,.refl _,fun _ _ h=>by simp [Heap.empty] at h⟩⟩) fun cs ⟨a,hsm⟩=>?_;have hc47:=qN_ hwpos hcap;refine Zt_ j hj (QQ_ (m:=xs.length) (k:=1) (news:=us) (xv:= .slice (some ⟨b,0,none⟩) 1 1) ((hs0 _).trans hvs) (by simp [opv,fget]) .here (.row0 hT.und (.there .here) (by simpa using hR.len hy) (hR.one hy)) (by simp only [maxLen];simp only [zb_] at hc47;omega) hcap fun base cap=>?_) hr' hd'
 have key:Sub (own T sz (.slice base (xs.length+1) cap) (xs.length+1) (cs++us)::(row b T us::L')) (ownS R sz w T H (.slice base (xs.length+1) cap) (xs++[y])::L'):=by
  intro h ⟨h1,h2,p,q,dd,l1,l2⟩;exact ⟨h1,h2,⟨cs++us,⟨(a.mono hl).snoc hy,by simpa using hcap⟩,by simpa using p⟩,Sub.drop (Sub.refl _) _ q,dd,l1,l2⟩
 refine ⟨hl0,key.trans (hk base cap).1,?_⟩;exact ⟨(Qcw_ key (hk base cap).2).run.sub (Sub.refl _) (Zak_ hn)⟩
section
variable {K:Value→Heap→List za_→Prop} {dst:Option Tmp} {g:Option (Nat×Bool)} {o:Oper}
theorem OpW.sub (h:OpW P n W0 o F H L (fun v H' L'=>∃L'',Sub L' L''∧K v H' L'')):OpW P n W0 o F H L K:=fun a w next Q hF hS hn=>h a w next Q hF hS fun v H' L' w' hl ⟨L'',hs,hk⟩ hst=>hn v H' L'' w' hl hk (hst.sub hs)
theorem OpW.open {σ:Type} {A:za_} {B:σ→List za_} {p:σ→Prop} {R:List za_} (hh:Has L A R) (hu:∀h,A h→∃s,p s∧big (B s) h) (h:∀s,p s→OpW P n W0 o F H (B s++R) K):OpW P n W0 o F H L K:=fun a w next Q hF hS hn=>
 Zq_ (G:=fun a w=>(∀v H' L' w',H.le H'→K v H' L'→St W0 H' w' L'→next (a.put o.dst v) w')→o.wp P a w next Q) hh hu (fun s hp a w hF hS hn=>h s hp a w next Q hF hS hn) a w hF hS hn
variable {α:Type} {R:Rd α} {sz wd T:Nat} {H1:Heap} {xs ys:List α} {y:α} {L':List za_} {sv xv z:Value} {us:List Value} {t:TypeId} {s x:Operand}
theorem QG_ (R:Rd α) [hT:TSl P t T] [hS':TSz P T sz] [hR:RdOk R sz] (hk:∀b,K (.slice b 0 0) H (ownS R sz wd T H (.slice b 0 0) []::L)):OpW P n W0 ⟨dst,.buildSlice t 0 #[],ty,pos,aft,g⟩ F H L K:=
 .sub (Zap_ fun b _=>⟨_,(Sub.drop (Sub.refl _)).trans ownS_nil,hk _⟩)
theorem Ze_ [hT:TSl P t T] [hI:TIn P T sz wd z] [hS':TSz P T sz] [hZ:TZ P T z] (hx:opv F x=some xv) [hc:CellsI xv us] (hl:us.length=sz) (h0:(Nat.blt 0 sz&&Nat.ble sz 1000)=true) (hk:∀b,K (.slice (some ⟨b,0,none⟩) 1 1) H (row b T us::L)):OpW P n W0 ⟨dst,.buildSlice t 1 #[(0,x)],ty,pos,aft,g⟩ F H L K:=
 ZU_ (z:=z) hx hc.h hl (by obtain ⟨_,_,_,_,_,h,_⟩:=hI.ex;exact h) (by simpa using h0) fun b _=>hk b
theorem Qz_ [hT:TSl P t T] [hI:TIn P T sz wd z] [hR:RdOk R sz] (hv:opvs F [s,x]=some [sv,xv]) [hh:HasS L sv α R sz wd T H1 xs L'] (hy:SlR R sz H xv ys) (hcap:(xs.length+ys.length)*wd≤zb_)
  (hk:∀base cap,K (.slice base (xs.length+ys.length) cap) H (ownS R sz wd T H (.slice base (xs.length+ys.length) cap) (xs++ys)::L')) (hl:H1.le H:=by exact Go.Sx.leA) (h0:(Nat.blt 0 wd)=true:=by rfl):
  OpW P n W0 ⟨dst,.call ⟨.builtin .append,#[s,x],#[t,t]⟩,ty,pos,aft,g⟩ F H L K:=by
 obtain ⟨hvs,hvx⟩:=qf_ hv;have hwpos:0<wd:=by simpa [Nat.blt_eq] using h0
 obtain ⟨ds,hy1,hy2⟩:=hy;refine .open (σ:=List Value) (B:=fun cs=>[own T sz sv xs.length cs]) (p:=fun cs=>RL R H1 cs xs∧xs.length*wd≤zb_) hh.has (fun x ⟨cs,a,b⟩=>⟨cs,a,⟨x,Heap.empty,b,trivial,fun _=> .inr rfl,.refl _,fun _ _ h=>by simp [Heap.empty] at h⟩⟩) fun cs ⟨a,hsm⟩=>?_;have hc47:=qN_ hwpos hcap;refine .sub (QQ_ (m:=xs.length) (k:=ys.length) (news:=ds) hvs hvx .here (.ro hT.und hy1) (by simp only [maxLen];simp only [zb_] at hc47;omega) hcap fun base cap=>⟨_,?_,hk base cap⟩);exact v72_
theorem Qdq_ {b:Nat} {L2:List za_} [hT:TSl P t T] [hI:TIn P T sz wd z] [hR:RdOk R sz] (hv:opvs F [s,x]=some [sv,.slice (some ⟨b,0,none⟩) 1 1]) [hh:HasS L sv α R sz wd T H1 xs L'] [hrow:HasRow L' b T us L2] (hy:R H us y) (hcap:(xs.length+1)*wd≤zb_)
  (hk:∀base cap,K (.slice base (xs.length+1) cap) H (ownS R sz wd T H (.slice base (xs.length+1) cap) (xs++[y])::L')) (hl:H1.le H:=by exact Go.Sx.leA) (h0:(Nat.blt 0 wd)=true:=by rfl):
  OpW P n W0 ⟨dst,.call ⟨.builtin .append,#[s,x],#[t,t]⟩,ty,pos,aft,g⟩ F H L K:=by
 obtain ⟨hvs,hvx⟩:=qf_ hv;have hwpos:0<wd:=by simpa [Nat.blt_eq] using h0
 refine .open (σ:=List Value) (B:=fun cs=>[own T sz sv xs.length cs]) (p:=fun cs=>RL R H1 cs xs∧xs.length*wd≤zb_) hh.has (fun x ⟨cs,a,b⟩=>⟨cs,a,⟨x,Heap.empty,b,trivial,fun _=> .inr rfl,.refl _,fun _ _ h=>by simp [Heap.empty] at h⟩⟩) fun cs ⟨a,hsm⟩=>?_;have hc47:=qN_ hwpos hcap;refine .sub (QQ_ (m:=xs.length) (k:=1) (news:=us) hvs hvx .here (.row0 hT.und (.there hrow.has) (by simpa using hR.len hy) (hR.one hy)) (by simp only [maxLen];simp only [zb_] at hc47;omega) hcap fun base cap=>⟨_,?_,hk base cap⟩);intro h ⟨h1,h2,p,q,dd,l1,l2⟩;exact ⟨h1,h2,⟨cs++us,⟨(a.mono hl).snoc hy,by simpa using hcap⟩,by simpa using p⟩,q,dd,l1,l2⟩
end
theorem Zax_ (i j:Nat) {d':Tmp} {op':Op} {ty':TypeId} {pos':String} {aft':Array Edge} (hi:ops[i]?=some ⟨some d,op,ty,pos,aft,none⟩) (hj:ops[j]?=some ⟨some d',op',ty',pos',aft',none⟩)
  (h:OpW P n W0 ⟨some d,op,ty,pos,aft,none⟩ F H L (fun v H' L'=>H0.le H'∧Sub L' L0∧AnyO P n W0 Q ((d,v)::F) H' H0 L' L0 m ops fuel (listed.setIfInBounds i true) k))
  (h':OpW P n W0 ⟨some d',op',ty',pos',aft',none⟩ F H L (fun v H' L'=>H0.le H'∧Sub L' L0∧AnyO P n W0 Q ((d',v)::F) H' H0 L' L0 m ops fuel (listed.setIfInBounds j true) k))
  (hr:Region.ready .any ops listed=[i,j]:=by decide+kernel) (hd:Nat.blt d n=true:=by rfl) (hd':Nat.blt d' n=true:=by rfl):AnyO P n W0 Q F H H0 L L0 m ops (fuel+1) listed k:=
 ⟨zbX_ hr (QaW_ hi hd (h.mono fun v H' L' _ ⟨a,b,c⟩=>⟨a,b,c.run⟩)) (QaW_ hj hd' (h'.mono fun v H' L' _ ⟨a,b,c⟩=>⟨a,b,c.run⟩))⟩
theorem qbp_ {α:Type} {R:Rd α} {sz w T:Nat} {HS:Heap} {xs:List α} {L':List za_} {t:TypeId} {x y:Operand} {i:Int} {j:Nat} {kd:IntKind} {d':Tmp} {ty':TypeId} {pos':String} {aft':Array Edge} {g g':Option (Nat×Bool)} {gv gv':Option (Value×Bool)} {rest:List Oper} [hR:RdOk R sz] [TSl P t T] [TSz P T sz] [TAgg P T true]
  (hg:gval ops F g=some gv) [hb:GOk gv true] (hg':gval ops F g'=some gv') [hb':GOk gv' true] (hv:opvs F [x,y]=some [v,.int kd i]) [hi:NatOf i j] [hh:HasS L v α R sz w T HS xs L'] (hj:j<xs.length) (hk:∀c,R HS c (xs[j]'hj)→Ops P n W0 Q ((d',.agg c.toArray)::F) H L false ops rest k)
  (hn:fget F d=none:=by rfl) (hd:Nat.blt d n=true:=by rfl) (hd':Nat.blt d' n=true:=by rfl):Ops P n W0 Q F H L false ops (⟨some d,.indexAddr t x y,ty,pos,aft,g⟩::⟨some d',.load T (.tmp d),ty',pos',aft',g'⟩::rest) k:=by
 obtain ⟨rfl⟩:=hi;obtain ⟨hvx,hvy⟩:=qf_ hv;refine qo_ (σ:=List Value) (B:=fun cs=>[own T sz v xs.length cs]) (p:=fun cs=>RL R HS cs xs∧xs.length*w≤zb_) hh.has (fun x ⟨cs,a,b⟩=>⟨cs,a,⟨x,Heap.empty,b,trivial,fun _=> .inr rfl,.refl _,fun _ _ h=>by simp [Heap.empty] at h⟩⟩) fun cs ⟨a,hsm⟩=>?_;obtain ⟨c,r,hcr,hc⟩:=a.get hj;refine qo_ (σ:=Nat×Nat×List Value) (B:=fun s=>[row s.1 T (cs++s.2.2)]) (p:=fun s=>v= .slice (some ⟨s.1,0,none⟩) xs.length s.2.1∧xs.length≤s.2.1∧s.2.1≤9223372036854775807∧cs.length=xs.length*sz∧(cs++s.2.2).length=s.2.1*sz) .here (fun h ho=>Zbq_ (by omega) ho) fun ⟨b,cap,sp⟩ ⟨he,h5,h6,h7,h8⟩=>?_;simp only at he h5 h6 h7 h8;subst he;refine Zh_ hg hd (qy_ (i:=(j:Int)) hvx hvy (by omega) (by omega)) ?_;refine Zh_ (v:= .agg c.toArray) (qax_ hn hg') hd' (qaX_ (b:=b) (off:=0+(j:Int).toNat*sz) (cs:=cs++sp) (by simp [opv,fget]) .here (qcy_ (by simpa using hcr)) (hR.len hc)) ?_;refine zax_ (Zak_ hn) (zr_ ?_ (hk c hc));refine Sub.trans ?_ hh.has.from
 intro h hb;obtain ⟨h1,h2,p,q,dd,l1,l2⟩:=QE_ (R:=L') h7 h5 h6 h8 h hb;exact ⟨h1,h2,⟨cs,⟨a,hsm⟩,p⟩,q,dd,l1,l2⟩
end
end Go.Sx
set_option linter.unusedVariables false
set_option linter.unusedSimpArgs false
namespace Go.Sx
open Go
section
variable {α:Type} {R:Rd α} {sz:Nat} {H:Heap}
theorem RL.set [hR:RdOk R sz]:∀{cs us:List Value} {xs:List α} {j:Nat} {y:α},RL R H cs xs→R H us y→j<xs.length→RL R H (cs.take (j*sz)++us++cs.drop (j*sz+us.length)) (xs.set j y):=by
 intro cs us xs j y h hy hj;have h1:=h.take (k:=j) (by omega);have h2:=h.drop (k:=j+1) (by omega)
 have e:xs.set j y=xs.take j++[y]++xs.drop (j+1):=by
  rw [List.set_eq_take_append_cons_drop,if_pos hj];simp
 rw [e,hR.len hy,show j*sz+sz=(j+1)*sz by rw [Nat.add_mul];omega];exact (h1.snoc hy).app h2
end
section
variable {P:Program} {n:Nat} {W0:World} {Q:Exit→Act→World→Prop} {F:zd_} {H H0:Heap} {L L0:List za_} {m fuel:Nat} {ops:Array Oper} {listed:Array Bool} {k:List Fr} {op:Op} {ty ty':TypeId} {pos pos':String} {aft aft':Array Edge} {d:Tmp} {v:Value} {vs:List Value} {rest:List Oper} {g:Option (Nat×Bool)} {gv:Option (Value×Bool)}
theorem Qat_ {α:Type} {R:Rd α} {sz w T:Nat} {HS:Heap} {xs:List α} {L':List za_} {t:TypeId} {x i y:Operand} {ii:Int} {j:Nat} {kd:IntKind} {yv:Value} {us:List Value} {y':α} [hR:RdOk R sz] [TSl P t T] [hsz:TSz P T sz]
  (hg:gval ops F g=some gv) [hb:GOk gv true] (hv:opvs F [x,i]=some [v,.int kd ii]) [hi:NatOf ii j] (hyv:opv F y=some yv) [hc:CellsI yv us] [hh:HasS L v α R sz w T HS xs L'] (hy:R HS us y') (hj:j<xs.length)
  (hk:Ops P n W0 Q F H (ownS R sz w T HS v (xs.set j y')::L') false ops rest k) (hn:fget F d=none:=by rfl) (hd:Nat.blt d n=true:=by rfl) (hs0:∀u,opv ((d,u)::F) y=opv F y:=by intro u;rfl):
  Ops P n W0 Q F H L false ops (⟨some d,.indexAddr t x i,ty,pos,aft,g⟩::⟨none,.store T (.tmp d) y,ty',pos',aft',none⟩::rest) k:=by
 obtain ⟨rfl⟩:=hi;obtain ⟨hvx,hvy⟩:=qf_ hv;have hne:0<xs.length:=by omega
 refine Qal_ v hne fun b cap cs sp e h1 h2 h3 h4 hr hsm=>?_;have hul:=hR.len hy;have hmul:(j+1)*sz≤xs.length*sz:=Nat.mul_le_mul_right _ hj;rw [Nat.add_mul,Nat.one_mul] at hmul;subst e;refine Zh_ hg hd (qy_ (i:=(j:Int)) hvx hvy (by omega) (by omega)) ?_;refine Zbo_ (zN_ (vs:=us) (off:=j*sz) (by simp [opv,fget]) ((hs0 _).trans hyv) hc.h hul (hR.one hy) .here (by rw [List.length_append];omega) ?_);refine zax_ (F:=F) ?_ (zr_ ?_ hk)
 ·intro t w ht;rw [qJ_];split
  ·rename_i e;subst e;rw [hn] at ht;cases ht
  ·exact ht
 ·refine Sub.trans (qdM_ h3 h1 h2 h4 (by omega)) ?_;have hset:=hr.set hy hj;have hl2:(xs.set j y').length=xs.length:=by simp
  rw [←hl2];exact QK_ hset (by rw [hl2];exact hsm)
theorem QdG_ (i:Nat) {α:Type} {R:Rd α} {sz T:Nat} {t:TypeId} {x y:Operand} {xs:List α} {ii:Int} {j:Nat} {kd:IntKind} [hR:RdOk R sz] [TSl P t T] [TSz P T sz] (hi:ops[i]?=some ⟨some d,.indexAddr t x y,ty,pos,aft,none⟩) (hv:opvs F [x,y]=some [v,.int kd ii]) [hin:NatOf ii j]
  (hs:SlR R sz H0 v xs) (hj:j<xs.length) (h:∀b off c,HRow H0 b off c→R H0 c (xs[j]'hj)→AnyO P n W0 Q ((d,.pointer (some ⟨b,off,none⟩))::F) H H0 L L0 m ops fuel (listed.setIfInBounds i true) k)
  (hok:Ql_ ops m listed i=true:=by decide+kernel) (hQ:∀v c a w,Kx P Q k (.panic c) (a.put (some d) v) w→Kx P Q k (.panic c) a w:=by exact fun _ _ _ _ h=>h)
  (hl:H0.le H:=by exact Go.Sx.leA) (hsub:Sub L L0:=by exact Go.Sx.subA)
  (hd:Nat.blt d n=true:=by rfl):AnyO P n W0 Q F H H0 L L0 m ops (fuel+1) listed k:=by
 obtain ⟨rfl⟩:=hin;obtain ⟨base,cap,rfl,h1,h2⟩:=hs.shape;obtain ⟨b,off,c,rfl,h3,h4,h5⟩:=hs.get hj;exact qaa_ i hi (qy_ (qf_ hv).1 (qf_ hv).2 (by omega) (by omega)) (h b _ c h4 h5) hok (hQ _) hl hsub hd
theorem Zdq_ (i:Nat) {x:Operand} {t:TypeId} {b off sz:Nat} {cs:List Value} [TAgg P t true] [TSz P t sz] (hi:ops[i]?=some ⟨some d,.load t x,ty,pos,aft,none⟩) (hx:opv F x=some (.pointer (some ⟨b,off,none⟩))) (hr:HRow H0 b off cs) (hlen:cs.length=sz) (h:AnyO P n W0 Q ((d,.agg cs.toArray)::F) H H0 L L0 m ops fuel (listed.setIfInBounds i true) k)
  (hok:Ql_ ops m listed i=true:=by decide+kernel) (hQ:∀v c a w,Kx P Q k (.panic c) (a.put (some d) v) w→Kx P Q k (.panic c) a w:=by exact fun _ _ _ _ h=>h)
  (hl:H0.le H:=by exact Go.Sx.leA) (hsub:Sub L L0:=by exact Go.Sx.subA)
  (hd:Nat.blt d n=true:=by rfl):AnyO P n W0 Q F H H0 L L0 m ops (fuel+1) listed k:=qaa_ i hi (Qay_ hx hr hlen) h hok (hQ _) hl hsub hd
theorem qcQ_ {α:Type} {R:Rd α} {sz w T:Nat} {H1 H2:Heap} {xs ys:List α} {L' L2:List za_} {sv xv z:Value} {t:TypeId} {s x:Operand} [hT:TSl P t T] [hI:TIn P T sz w z] [hR:RdOk R sz] (hg:gval ops F g=some gv) [hb:GOk gv true] (hv:opvs F [s,x]=some [sv,xv])
  [hh:HasS L sv α R sz w T H1 xs L'] [hx:HasS L' xv α R sz w T H2 ys L2] (hcap:(xs.length+ys.length)*w≤zb_)
  (hk:∀base cap,Ops P n W0 Q ((d,.slice base (xs.length+ys.length) cap)::F) H (ownS R sz w T H (.slice base (xs.length+ys.length) cap) (xs++ys)::L') false ops rest k)
  (hl:H1.le H:=by exact Go.Sx.leA) (hl2:H2.le H:=by exact Go.Sx.leA) (h0:(Nat.blt 0 w)=true:=by rfl) (hd:Nat.blt d n=true:=by rfl):
  Ops P n W0 Q F H L false ops (⟨some d,.call ⟨.builtin .append,#[s,x],#[t,t]⟩,ty,pos,aft,g⟩::rest) k:=by
 obtain ⟨hvs,hvx⟩:=qf_ hv;have hwpos:0<w:=by simpa [Nat.blt_eq] using h0
 refine qo_ (σ:=List Value) (B:=fun cs=>[own T sz sv xs.length cs]) (p:=fun cs=>RL R H1 cs xs∧xs.length*w≤zb_) hh.has (fun x ⟨cs,a,b⟩=>⟨cs,a,⟨x,Heap.empty,b,trivial,fun _=> .inr rfl,.refl _,fun _ _ h=>by simp [Heap.empty] at h⟩⟩) fun cs ⟨a,hsm⟩=>?_;have hc47:=qN_ hwpos hcap;rcases Nat.eq_zero_or_pos ys.length with hz | hp
 ·have hy0:ys=[]:=List.eq_nil_of_length_eq_zero hz;subst hy0;refine zal_ (A:=ownS R sz w T H2 xv []) (.there hx.has) (fun h ho=>ZW_ ho) fun ⟨bb,cc,e,_,_⟩=>?_;subst e;refine qI_ hg hd (QQ_ (m:=xs.length) (k:=0) (news:=[]) hvs hvx .here (.nil hT.und) (by simp only [maxLen];simp only [zb_] at hc47;simp at hc47;omega) (by have:=hcap;simp only [zb_] at this;simpa using this) fun base cap=>?_);refine zr_ ?_ (hk base cap);intro h ⟨h1,h2,p,q,dd,l1,l2⟩;exact ⟨h1,h2,⟨cs++[],⟨by simpa using a.mono hl,by simpa using hcap⟩,by simpa using p⟩,q,dd,l1,l2⟩
 ·refine zr_ (L':=ownS R sz w T H2 xv ys::own T sz sv xs.length cs::L2) ((Sub.cons hx.has.to).trans fun _=>ZS_) ?_;refine Qal_ xv hp fun b cap2 ds sp e g1 g2 g3 g4 hr hsm2=>?_;subst e;refine qI_ hg hd (QQ_ (m:=xs.length) (k:=ys.length) (news:=ds) hvs hvx (.there .here) (.row (T:=T) (sp:=sp) hT.und .here (by simpa using g3) hr.one) (by simp only [maxLen];simp only [zb_] at hc47;omega) hcap fun base cap=>?_);refine zr_ ?_ (hk base cap)
  have key:Sub (own T sz (.slice base (xs.length+ys.length) cap) (xs.length+ys.length) (cs++ds)::row b T (ds++sp)::L2) (ownS R sz w T H (.slice base (xs.length+ys.length) cap) (xs++ys)::ownS R sz w T H2 (.slice (some ⟨b,0,none⟩) ys.length cap2) ys::L2):=by
   intro h ⟨h1,h2,p,q,dd,l1,l2⟩;exact ⟨h1,h2,⟨cs++ds,⟨(a.mono hl).app (hr.mono hl2),by simpa using hcap⟩,by simpa using p⟩,((QE_ g3 g1 g2 g4).trans (QK_ hr hsm2)) _ q,dd,l1,l2⟩
  refine Sub.trans ?_ (Sub.cons hx.has.from);refine Sub.trans ?_ key;exact Sub.refl _
end
def Asks (P:Program) (W0:World) (H:Heap) {α:Type} (R:Rd α) (f:FuncId) (cap:List Value) (V:List Value→Value) (A:List za_) (p:α→Bool):Prop:=
  ∀c x,R H c x→Ct P f (([]++[V c])++cap).toArray W0 H A (fun r H' B=>r= .bool (p x)∧B=A∧H'=H)
end Go.Sx
set_option linter.unusedVariables false
set_option linter.unusedSimpArgs false
namespace Go.Sx
open Go Go.ChangeShapes Go.WideShapes Go.ChangeAt Go.RowKit
theorem qdr_ {W w':World} {L:List za_} (h:St W (hp W) w' L):Below W.heap.size W w':=by
 refine ⟨h.env.os,h.env.tape,h.env.output,?_,fun k hk=>?_⟩
 ·refine Nat.le_of_not_lt fun hlt=>?_;have:hp W w'.heap.size=some W.heap[w'.heap.size]:=by simp [hp,hlt]
  exact absurd (Qbp_ (h.ro _ _ this)) (by omega)
 ·have e:hp W k=some W.heap[k]:=by simp [hp,hk]
  exact (h.ro k _ e).trans e.symm
theorem zdr_ (W:World):St W (hp W) W ([]++[]):=⟨⟨rfl,rfl,rfl⟩,.refl _,⟨Heap.empty,trivial,fun _ _ h=>(by cases h),fun _=> .inr rfl⟩⟩
section
variable {H:Type} {enc:TypeId×Value→H} {P:Program} {W W':World}
def zcQ_ (P:Program) (ts:List TypeId):Bool:=ts.all fun t=>P.readableRec t&&decide (t<P.types.size)
theorem qay_ (hl:laidOutB P=true) (hB:Below W.heap.size W W'):∀{ts:List TypeId} {vs:List Value} {ds:List (DataW H)} {ps:List MemPlace},zcQ_ P ts=true→
  DataW.TrodAll enc P W 0 (fun _=>true) true ts vs ds ps→(∀x∈ps,x.block<W.heap.size)→DataW.TrodAll enc P W' 0 (fun b=>decide (b<W.heap.size)) true ts vs ds ps
 | [],vs,ds,ps,_,h,_=>by
  obtain ⟨rfl,rfl,rfl⟩:=trodAll_nil h;exact rfl
 | t::ts,vs,ds,ps,ht,h,hlt=>by
  obtain ⟨v,vs',d,ds',p,q,rfl,rfl,rfl,h1,h2⟩:=trodAll_cons h;simp only [zcQ_,List.all_cons,Bool.and_eq_true,decide_eq_true_eq] at ht;exact ⟨p,q,Below.trod hl ht.1.1 ht.1.2 h1 hB (fun x hx=>hlt x (List.mem_append_left _ hx)),qay_ hl hB (by simpa [zcQ_] using ht.2) h2 (fun x hx=>hlt x (List.mem_append_right _ hx)),rfl⟩
theorem Qdr_ {f:Func} {s:ChangeSpec} {args:Array Value} {ds:List (DataW H)} {before:List MemPlace} {v:Value} (hl:laidOutB P=true) (hts:zcQ_ P f.params.toList=true) (hv:s.vars=[])
  (hW:DataW.Whole enc P f.params.toList s.vars false W args.toList ds [] before) (hB:Below W.heap.size W W')
  (hargs:(s.fn H (ds++[])).args=ds) (hvars:(s.fn H (ds++[])).vars=[])
  (hres:∀b sp hd,DataW.TrodAll enc P W' b sp hd f.resultTypes.toList (v.resultList f.resultTypes.size) (s.fn H (ds++[])).results []):
  s.post enc P f false true false false W args v W':=by
 have hlt:=hW.lt;have hW2:=hW;obtain ⟨p,q,hA,hV,rfl,_,_⟩:=hW2;rw [hv] at hV;obtain ⟨-,rfl⟩:=trodVars_none hV;refine ⟨ds,[],_,[],p,[],hW,hres _ _ _,?_,?_,hB.frame _,fun h=>by cases h⟩
 ·rw [hargs];exact qay_ hl hB hts hA (fun x hx=>hlt x (List.mem_append_left _ hx))
 ·rw [hvars,hv];exact rfl
theorem ZdG_ {α:Type} {R:Rd α} {t:TypeId} (hR:Rds P t R) {v:Value} {d:DataW H} {ps:List MemPlace} (h:DataW.Trod enc P W 0 (fun _=>true) true t v d ps) (hw:Wts P t d):∃y,R (hp W) v.cells.toList y:=by
 obtain ⟨fuel,hf⟩:=h;exact hR hf hw
theorem qdH_ {ts:List TypeId} {ds:List (DataW H)} (h:(DataW.weightsEach P ts ds).all (· ≤reachBytes)=true) {i:Nat} {t:TypeId} {d:DataW H} (ht:ts[i]?=some t) (hd:ds[i]?=some d):Wts P t d:=fun x hx=>by
 have:=(List.all_eq_true.1 h) x (qQ_ ht hd hx);simpa using this
theorem zdH_ {e:Ending} {f:Func} {s:ChangeSpec} {args:Array Value} {ds:List (DataW H)} {before:List MemPlace}
  (hl:laidOutB P=true) (hts:zcQ_ P f.params.toList=true) (hv:s.vars=[]) (hW:DataW.Whole enc P f.params.toList s.vars false W args.toList ds [] before)
  (hargs:(s.fn H (ds++[])).args=ds) (hvars:(s.fn H (ds++[])).vars=[]) (hres:∀b sp hd,DataW.TrodAll enc P W' b sp hd f.resultTypes.toList ((Value.bool true).resultList f.resultTypes.size) (s.fn H (ds++[])).results [])
  (h:∃r H' B,e= .returned r∧(hp W).le H'∧(r= .bool true∧B=[])∧St W H' W' (B++[])):∃v,e= .returned v∧s.post enc P f false true false false W args v W':=by
 obtain ⟨r,H',B,he,hle,⟨hr,hB⟩,hst⟩:=h;subst hr;have hst':St W (hp W) W' []:=⟨hst.env,hle.trans hst.ro,⟨Heap.empty,trivial,fun _ _ h=>(by cases h),fun _=> .inr rfl⟩⟩;exact ⟨_,he,Qdr_ hl hts hv hW (qdr_ hst') hargs hvars hres⟩
end
end Go.Sx
set_option linter.unusedVariables false
set_option linter.unusedSimpArgs false
namespace Go.Sx
open Go
section
variable {q:Bool} {P:Program} {n:Nat} {W0:World} {Q:Exit→Act→World→Prop} {F:zd_} {H:Heap} {L:List za_} {ops:Array Oper} {rest:List Oper} {k:List Fr} {ty:TypeId} {pos:String} {aft:Array Edge} {d:Tmp} {v:Value} {g:Option (Nat×Bool)} {gv:Option (Value×Bool)}
instance (priority:=low) {x:Operand} {T:TypeId} {b:Bool}:POp P (.unOp .not T x) [.bool b] True (.bool !b):=⟨fun _ h=>ZbE_ (zae_ h)⟩
theorem QcQ_ {x y:Operand} {t:TypeId} {b T m:Nat} {cs us:List Value} {R:List za_} [TSz P t m] (hv:opvs F [x,y]=some [.pointer (some ⟨b,0,none⟩),.agg us.toArray]) [h:HasRow L b T cs R] (hl:us.length=m) (hcs:cs.length=m) (h1:us.all (·.oneCell')=true)
  (hk:Ops P n W0 Q F H (row b T us::R) false ops rest k):Ops P n W0 Q F H L false ops (⟨none,.store t x y,ty,pos,aft,none⟩::rest) k:=by
 refine Zbo_ (zN_ (off:=0) (vs:=us) (qf_ hv).1 (qf_ hv).2 rfl hl h1 h.has (by omega) ?_);rw [List.take_zero,List.nil_append,Nat.zero_add,List.drop_eq_nil_of_le (by omega),List.append_nil];exact hk
theorem ZbD_ {x:Operand} {t:TypeId} {b T m:Nat} {us:List Value} {R:List za_} [TAgg P t true] [TSz P t m] (hg:gval ops F g=some gv) [hb:GOk gv true] (hx:opv F x=some (.pointer (some ⟨b,0,none⟩))) [h:HasRow L b T us R] (hl:us.length=m)
  (hk:Ops P n W0 Q ((d,.agg us.toArray)::F) H L q ops rest k) (hd:Nat.blt d n=true:=by rfl):Ops P n W0 Q F H L q ops (⟨some d,.load t x,ty,pos,aft,g⟩::rest) k:=
 Zh_ hg hd (qaX_ (off:=0) hx h.has (At.whole us) hl) hk
theorem Zdr_ {x:Operand} {t:TypeId} {b off T m:Nat} {cs us:List Value} {R:List za_} [TAgg P t true] [TSz P t m] (hg:gval ops F g=some gv) [hb:GOk gv true] (hx:opv F x=some (.pointer (some ⟨b,off,none⟩))) [h:HasRow L b T cs R] (ha:At cs off us) (hl:us.length=m)
  (hk:Ops P n W0 Q ((d,.agg us.toArray)::F) H L q ops rest k) (hd:Nat.blt d n=true:=by rfl):Ops P n W0 Q F H L q ops (⟨some d,.load t x,ty,pos,aft,g⟩::rest) k:=
 Zh_ hg hd (qaX_ hx h.has ha hl) hk
end
end Go.Sx
set_option linter.unusedVariables false
set_option linter.unusedSimpArgs false
namespace Go.Sx
open Go
section
variable {P:Program} {x y:Operand} {T T':TypeId} [TBo P T]
end
section
variable {P:Program} {n:Nat} {W0:World} {Q:Exit→Act→World→Prop} {F:zd_} {H H0:Heap} {L L0:List za_} {m fuel:Nat} {ops:Array Oper} {listed:Array Bool} {k:List Fr} {op:Op} {ty:TypeId} {pos:String} {aft:Array Edge} {d:Tmp} {v:Value} {vs:List Value}
theorem zcl_ {g:Option (Nat×Bool)} {gv:Option (Value×Bool)} (hg:gval ops F g=some gv) [hb:GOk gv true] {a:Act} (hF:FrOk n a F):Region.wanted ⟨some d,op,ty,pos,aft,g⟩ (yielded ops a.tmps)=true:=by
 cases g with
 | none=>simp [Region.wanted]
 | some jw=>
  obtain ⟨j,w⟩:=jw;obtain ⟨dj,u,hj,hu,hw,_⟩:=Zae_ (b:=true) hg;rw [hw rfl] at hu;simp [Region.wanted,hF.yielded hj hu,vb]
theorem Qcl_ {g:Option (Nat×Bool)} {gv:Option (Value×Bool)} (hg:gval ops F g=some gv) [hb:GOk gv false] {a:Act} (hF:FrOk n a F):Region.wanted ⟨some d,op,ty,pos,aft,g⟩ (yielded ops a.tmps)=false:=by
 cases g with
 | none=>cases hg;exact absurd hb.h (by simp)
 | some jw=>
  obtain ⟨j,w⟩:=jw;obtain ⟨dj,u,hj,hu,_,hw⟩:=Zae_ (b:=false) hg;have hn:vb u≠some w:=by have:=hw rfl;clear hu;cases u<;>simp_all [gno,vb]
  simp only [Region.wanted,hF.yielded hj hu,beq_eq_false_iff_ne];exact hn
theorem Qo_ (i:Nat) {g:Option (Nat×Bool)} {gv:Option (Value×Bool)} (hi:ops[i]?=some ⟨some d,op,ty,pos,aft,g⟩) (hg:gval ops F g=some gv) [hb:GOk gv true] (hv:OpP P n W0 ⟨some d,op,ty,pos,aft,g⟩ F H0 L0 v) (h:AnyO P n W0 Q ((d,v)::F) H H0 L L0 m ops fuel (listed.setIfInBounds i true) k)
  (hok:Ql_ ops m listed i=true) (hQ:∀c a w,Kx P Q k (.panic c) (a.put (some d) v) w→Kx P Q k (.panic c) a w) (hl:H0.le H) (hsub:Sub L L0) (hd:Nat.blt d n=true):AnyO P n W0 Q F H H0 L L0 m ops (fuel+1) listed k:=⟨fun a w hF hS=>by
 simp only [Ql_,Bool.and_eq_true,Nat.blt_eq] at hok;obtain ⟨⟨⟨⟨⟨h1,h2⟩,h3⟩,h4⟩,h5⟩,h6⟩:=hok;exact Qaf_ hi h5 (Region.noSelect_spec h1) hQ fuel listed a w h4 h6 (Region.free_spec hi h2) (by simpa using h3) (.inl ⟨zcl_ hg hF,fun w' hw'=>hv.run a w' hF hw'⟩) ((hS.weak hl).sub hsub) (h.run _ w (hF.put hd v) hS)⟩
theorem Qr_ (i:Nat) {g:Option (Nat×Bool)} {gv:Option (Value×Bool)} (hi:ops[i]?=some ⟨some d,op,ty,pos,aft,g⟩) (hg:gval ops F g=some gv) [hb:GOk gv false] (h:AnyO P n W0 Q ((d,undef)::F) H H0 L L0 m ops fuel (listed.setIfInBounds i true) k) (hok:Ql_ ops m listed i=true:=by decide+kernel) (hQ:∀v c a w,Kx P Q k (.panic c) (a.put (some d) v) w→Kx P Q k (.panic c) a w:=by exact fun _ _ _ _ h=>h)
  (hl:H0.le H:=by exact Go.Sx.leA) (hsub:Sub L L0:=by exact Go.Sx.subA) (hd:Nat.blt d n=true:=by rfl):AnyO P n W0 Q F H H0 L L0 m ops (fuel+1) listed k:=⟨fun a w hF hS=>by
 simp only [Ql_,Bool.and_eq_true,Nat.blt_eq] at hok;obtain ⟨⟨⟨⟨⟨h1,h2⟩,h3⟩,h4⟩,h5⟩,h6⟩:=hok;exact Qaf_ hi h5 (Region.noSelect_spec h1) (hQ undef) fuel listed a w h4 h6 (Region.free_spec hi h2) (by simpa using h3) (.inr ⟨Qcl_ hg hF,rfl⟩) ((hS.weak hl).sub hsub) (h.run _ w (hF.put hd undef) hS)⟩
theorem ZaJ_ (i:Nat) {g:Option (Nat×Bool)} {gv:Option (Value×Bool)} {x:Operand} {t:TypeId} {b off T:Nat} {cs:List Value} {R:List za_} [TAgg P t false] (hi:ops[i]?=some ⟨some d,.load t x,ty,pos,aft,g⟩) (hg:gval ops F g=some gv) [hb:GOk gv true] (hx:opv F x=some (.pointer (some ⟨b,off,none⟩))) [hr:HasRow L0 b T cs R] (hc:cs[off]?=some v) (h:AnyO P n W0 Q ((d,v)::F) H H0 L L0 m ops fuel (listed.setIfInBounds i true) k) (hok:Ql_ ops m listed i=true:=by decide+kernel) (hQ:∀v c a w,Kx P Q k (.panic c) (a.put (some d) v) w→Kx P Q k (.panic c) a w:=by exact fun _ _ _ _ h=>h)
  (hl:H0.le H:=by exact Go.Sx.leA) (hsub:Sub L L0:=by exact Go.Sx.subA) (hd:Nat.blt d n=true:=by rfl):AnyO P n W0 Q F H H0 L L0 m ops (fuel+1) listed k:=Qo_ i hi hg (ZaE_ hx hr.has hc) h hok (hQ _) hl hsub hd
theorem zaa_ (i:Nat) {g:Option (Nat×Bool)} {gv:Option (Value×Bool)} {t:TypeId} {pl:List (Nat×Nat)} {ps:List (Nat×Operand)} {zs cs:List Value} [hT:TPl P t pl] [hZ:TZL P t zs] (hi:ops[i]?=some ⟨some d,.build t ps.toArray,ty,pos,aft,g⟩) (hg:gval ops F g=some gv) [hb:GOk gv true] (hf:zbV_ F pl ps zs=some cs) (h:AnyO P n W0 Q ((d,.agg cs.toArray)::F) H H0 L L0 m ops fuel (listed.setIfInBounds i true) k) (hok:Ql_ ops m listed i=true:=by decide+kernel) (hQ:∀v c a w,Kx P Q k (.panic c) (a.put (some d) v) w→Kx P Q k (.panic c) a w:=by exact fun _ _ _ _ h=>h)
  (hl:H0.le H:=by exact Go.Sx.leA) (hsub:Sub L L0:=by exact Go.Sx.subA) (hd:Nat.blt d n=true:=by rfl):AnyO P n W0 Q F H H0 L L0 m ops (fuel+1) listed k:=Qo_ i hi hg (zbr_ (Qak_ hf)) h hok (hQ _) hl hsub hd
theorem Qf_ (i:Nat) {g:Option (Nat×Bool)} {gv:Option (Value×Bool)} {α:Type} {R:Rd α} {sz T:Nat} {t:TypeId} {x y:Operand} {xs:List α} {ii:Int} {j:Nat} {kd:IntKind} [hR:RdOk R sz] [TSl P t T] [TSz P T sz] (hi:ops[i]?=some ⟨some d,.indexAddr t x y,ty,pos,aft,g⟩) (hg:gval ops F g=some gv) [hb:GOk gv true] (hv:opvs F [x,y]=some [v,.int kd ii]) [hin:NatOf ii j]
  (hs:SlR R sz H0 v xs) (hj:j<xs.length) (h:∀b off c,HRow H0 b off c→R H0 c (xs[j]'hj)→AnyO P n W0 Q ((d,.pointer (some ⟨b,off,none⟩))::F) H H0 L L0 m ops fuel (listed.setIfInBounds i true) k) (hok:Ql_ ops m listed i=true:=by decide+kernel) (hQ:∀v c a w,Kx P Q k (.panic c) (a.put (some d) v) w→Kx P Q k (.panic c) a w:=by exact fun _ _ _ _ h=>h)
  (hl:H0.le H:=by exact Go.Sx.leA) (hsub:Sub L L0:=by exact Go.Sx.subA) (hd:Nat.blt d n=true:=by rfl):AnyO P n W0 Q F H H0 L L0 m ops (fuel+1) listed k:=by
 obtain ⟨rfl⟩:=hin;obtain ⟨base,cap,rfl,h1,h2⟩:=hs.shape;obtain ⟨b,off,c,rfl,h3,h4,h5⟩:=hs.get hj;exact Qo_ i hi hg (qy_ (qf_ hv).1 (qf_ hv).2 (by omega) (by omega)) (h b _ c h4 h5) hok (hQ _) hl hsub hd
theorem Zl_ (i:Nat) {g:Option (Nat×Bool)} {gv:Option (Value×Bool)} {x:Operand} {t:TypeId} {b off sz:Nat} {cs:List Value} [TAgg P t true] [TSz P t sz] (hi:ops[i]?=some ⟨some d,.load t x,ty,pos,aft,g⟩) (hg:gval ops F g=some gv) [hb:GOk gv true] (hx:opv F x=some (.pointer (some ⟨b,off,none⟩))) (hr:HRow H0 b off cs) (hlen:cs.length=sz) (h:AnyO P n W0 Q ((d,.agg cs.toArray)::F) H H0 L L0 m ops fuel (listed.setIfInBounds i true) k) (hok:Ql_ ops m listed i=true:=by decide+kernel) (hQ:∀v c a w,Kx P Q k (.panic c) (a.put (some d) v) w→Kx P Q k (.panic c) a w:=by exact fun _ _ _ _ h=>h)
  (hl:H0.le H:=by exact Go.Sx.leA) (hsub:Sub L L0:=by exact Go.Sx.subA) (hd:Nat.blt d n=true:=by rfl):AnyO P n W0 Q F H H0 L L0 m ops (fuel+1) listed k:=Qo_ i hi hg (Qay_ hx hr hlen) h hok (hQ _) hl hsub hd
theorem qdU_ (i:Nat) {g:Option (Nat×Bool)} {gv:Option (Value×Bool)} (hi:ops[i]?=some ⟨some d,op,ty,pos,aft,g⟩) (hg:gval ops F g=some gv) [hb:GOk gv true] (h:OpW P n W0 ⟨some d,op,ty,pos,aft,g⟩ F H L (fun v H' L'=>H0.le H'∧Sub L' L0∧AnyO P n W0 Q ((d,v)::F) H' H0 L' L0 m ops fuel (listed.setIfInBounds i true) k))
  (hr:Region.ready .any ops listed=[i]:=by decide+kernel) (hd:Nat.blt d n=true:=by rfl):AnyO P n W0 Q F H H0 L L0 m ops (fuel+1) listed k:=
 ⟨qbq_ hr fun a w hF hS=>by
  unfold wpOp;simp only [hi];rw [if_pos (zcl_ hg hF)];exact .inl (h a w _ (Kx P Q k) hF hS fun v H' L' w' _ ⟨h1,h2,h3⟩ hs=>⟨(hs.weak h1).sub h2,h3.run _ _ (hF.put hd v) hs⟩)⟩
theorem ze_ (i:Nat) {g:Option (Nat×Bool)} {gv:Option (Value×Bool)} {f:FuncId} {l:List Operand} {ts:Array TypeId} {A R:List za_} {Post:Value→Heap→List za_→Prop} [TFn P f] (hi:ops[i]?=some ⟨some d,.call ⟨.value (.func f),l.toArray,ts⟩,ty,pos,aft,g⟩) (hg:gval ops F g=some gv) [hb:GOk gv true] (ha:opvs F l=some vs) (hs:Ct P f vs.toArray W0 H A Post)
  (hk:∀r H' B,H.le H'→Post r H' B→Sub (B++R) L0∧AnyO P n W0 Q ((d,r)::F) H' H0 (B++R) L0 m ops fuel (listed.setIfInBounds i true) k) (ht:Take L A R:=by repeat (first | exact Go.Sx.Take.nil | (apply Go.Sx.Take.cons;focus (repeat (first | exact Go.Sx.Has.here | apply Go.Sx.Has.there)))))
  (hl:H0.le H:=by exact Go.Sx.leA) (hr:Region.ready .any ops listed=[i]:=by decide+kernel) (hd:Nat.blt d n=true:=by rfl):AnyO P n W0 Q F H H0 L L0 m ops (fuel+1) listed k:=
 qdU_ i hi hg (ZaV_ (Zv_ ha) hs ht fun r H' B h1 h2=>⟨hl.trans h1,(hk r H' B h1 h2).1,(hk r H' B h1 h2).2⟩) hr hd
end
end Go.Sx
set_option linter.unusedVariables false
set_option linter.unusedSimpArgs false
namespace Go.Sx
open Go
section
variable {κ ν:Type} [DecidableEq κ]
def mget (k:κ):List (κ×ν)→Option ν
  | []=>none
  | (k',v)::r=>if k=k' then some v else mget k r
def mset (k:κ) (v:ν):List (κ×ν)→List (κ×ν)
  | []=>[(k,v)]
  | (k',v')::r=>if k=k' then (k,v)::r else (k',v')::mset k v r
def mdel (k:κ):List (κ×ν)→List (κ×ν)
  | []=>[]
  | (k',v')::r=>if k=k' then r else (k',v')::mdel k r
theorem Zf_ (k k':κ) (v:ν):∀m:List (κ×ν),mget k' (mset k v m)=if k'=k then some v else mget k' m
 | []=>by simp only [mset,mget]
 | (k1,v1)::r=>by
  simp only [mset];split
  ·next h=>subst h;simp only [mget];split<;>rfl
  ·next h=>
   simp only [mget];split
   ·next h2=>subst h2;rw [if_neg (fun e=>h e.symm)]
   ·exact Zf_ k k' v r
theorem zE_ {k:κ}:∀{m:List (κ×ν)},mget k m=none↔k∉m.map (·.1)
 | []=>by simp [mget]
 | (k1,v1)::r=>by
  simp only [mget,List.map_cons,List.mem_cons,not_or];split
  ·next h=>simp [h]
  ·next h=>rw [zE_];simp [h]
theorem Zu_ {k:κ} {v:ν}:∀{m:List (κ×ν)},mget k m=some v→(k,v)∈m
 | (k1,v1)::r,h=>by
  simp only [mget] at h;split at h
  ·next e=>subst e;cases h;simp
  ·exact List.mem_cons_of_mem _ (Zu_ h)
theorem Zj_ {k:κ} {v:ν}:∀{m:List (κ×ν)},(m.map (·.1)).Nodup→(k,v)∈m→mget k m=some v
 | (k1,v1)::r,hn,h=>by
  simp only [List.map_cons,List.nodup_cons] at hn;simp only [mget];rcases List.mem_cons.1 h with e | h'
  ·cases e;simp
  ·rw [if_neg]
   ·exact Zj_ hn.2 h'
   ·intro e;subst e;exact hn.1 (List.mem_map.2 ⟨(k,v),h',rfl⟩)
theorem QaV_ (k:κ) (v:ν):∀m:List (κ×ν),(mset k v m).map (·.1)=if k∈m.map (·.1) then m.map (·.1) else m.map (·.1)++[k]
 | []=>by simp [mset]
 | (k1,v1)::r=>by
  simp only [mset];split
  ·next h=>subst h;simp
  ·next h=>
   have ih:=QaV_ k v r;simp only [List.map_cons,ih,List.mem_cons,h,false_or];split<;>simp
theorem Zk_ {k:κ} {v:ν} {m:List (κ×ν)} (h:(m.map (·.1)).Nodup):((mset k v m).map (·.1)).Nodup:=by
 rw [QaV_];split
 ·exact h
 ·next hn=>rw [List.nodup_append];exact ⟨h,by simp,by rintro a ha b hb rfl;simp at hb;subst hb;exact hn ha⟩
theorem QS_ {k:κ} {v:ν} {m:List (κ×ν)}:(mset k v m).length=if k∈m.map (·.1) then m.length else m.length+1:=by
 have:=congrArg List.length (QaV_ k v m);simp only [List.length_map] at this;rw [this];split<;>simp
theorem zay_ (k:κ):∀m:List (κ×ν),(mdel k m).Sublist m
 | []=> .slnil
 | (k1,v1)::r=>by
  simp only [mdel];split
  ·exact List.Sublist.cons _ (List.Sublist.refl _)
  ·exact List.Sublist.cons_cons _ (zay_ k r)
theorem qD_ (k k':κ):∀{m:List (κ×ν)},(m.map (·.1)).Nodup→mget k' (mdel k m)=if k'=k then none else mget k' m
 | [],_=>by simp [mdel,mget]
 | (k1,v1)::r,hn=>by
  simp only [List.map_cons,List.nodup_cons] at hn;simp only [mdel];split
  ·next h=>
   subst h;simp only [mget];split
   ·next e=>subst e;exact zE_.2 hn.1
   ·rfl
  ·next h=>
   simp only [mget,qD_ k k' hn.2];split
   ·next e=>subst e;rw [if_neg (fun e=>h e.symm)]
   ·rfl
end
def ofC (agg:Bool) (cs:List Value):Value:=match agg with | true=> .agg cs.toArray | false=>cs.headD undef
section
variable {κ ν:Type}
def EL (ek:κ→Value) (R:Rd ν) (ag:Bool) (H:Heap):List MapEntry→List (κ×ν)→Prop
  | [],[]=>True
  | e::es,(k,v)::m=>e.key=ek k∧(∃cs,e.val=ofC ag cs∧R H cs v)∧EL ek R ag H es m
  | _,_=>False
structure MapOk (ek:κ→Value) (R:Rd ν) (ag:Bool) (H:Heap) (es:Array MapEntry) (clock:Nat) (m:List (κ×ν)):Prop where
  el:EL ek R ag H es.toList m
  nodup:(m.map (·.1)).Nodup
  rise:(es.toList.map (·.born)).Pairwise (· < ·)
  lt:∀e∈es.toList,e.born<clock
theorem EL.len {ek:κ→Value} {R:Rd ν} {ag:Bool} {H:Heap}:∀{es:List MapEntry} {m:List (κ×ν)},EL ek R ag H es m→es.length=m.length
 | [],[],_=>rfl
 | _::es,_::m,h=>by simp [h.2.2.len]
 | [],_::_,h=>h.elim
 | _::_,[],h=>h.elim
theorem EL.mono {ek:κ→Value} {R:Rd ν} {ag:Bool} {sz:Nat} [RdOk R sz] {H H':Heap} (hl:H.le H'):∀{es:List MapEntry} {m:List (κ×ν)},EL ek R ag H es m→EL ek R ag H' es m
 | [],[],_=>trivial
 | _::es,_::m,⟨a,⟨cs,b,c⟩,d⟩=>⟨a,⟨cs,b,RdOk.mono hl c⟩,d.mono hl⟩
 | [],_::_,h=>h.elim
 | _::_,[],h=>h.elim
theorem MapOk.mono {ek:κ→Value} {R:Rd ν} {ag:Bool} {sz:Nat} [RdOk R sz] {H H':Heap} {es:Array MapEntry} {clock:Nat} {m:List (κ×ν)} (h:MapOk ek R ag H es clock m) (hl:H.le H'):MapOk ek R ag H' es clock m:=⟨h.el.mono hl,h.nodup,h.rise,h.lt⟩
def mapO (ek:κ→Value) (R:Rd ν) (ag:Bool) (H:Heap) (b:Nat) (m:List (κ×ν)):za_:=fun h=>∃es clock,MapOk ek R ag H es clock m∧pt b (.map es clock) h
def mapH (ek:κ→Value) (R:Rd ν) (ag:Bool) (H:Heap) (b:Nat) (m:List (κ×ν)):Prop:=∃es clock,MapOk ek R ag H es clock m∧H b=some (.map es clock)
theorem mapH.mono {ek:κ→Value} {R:Rd ν} {ag:Bool} {sz:Nat} [RdOk R sz] {H H':Heap} {b:Nat} {m:List (κ×ν)} (h:mapH ek R ag H b m) (hl:H.le H'):mapH ek R ag H' b m:=by
 obtain ⟨es,c,a,e⟩:=h;exact ⟨es,c,a.mono hl,hl _ _ e⟩
theorem QaE_ {ek:κ→Value} {R:Rd ν} {ag:Bool} {sz:Nat} [RdOk R sz] {H H':Heap} {b:Nat} {m:List (κ×ν)} {L:List za_} (hl:H.le H'):Sub (mapO ek R ag H b m::L) (mapO ek R ag H' b m::L):=fun h ⟨h1,h2,⟨es,c,a,e⟩,r⟩=>⟨h1,h2,⟨es,c,a.mono hl,e⟩,r⟩
class TKey (P:Program) (t:TypeId) [DecidableEq κ] (ek:κ→Value):Prop where
  chk:∀e k w,(Instr.checkKey e 10000 t (ek k)).run P w= .ok () w
  eq:∀(k:κ) (es:List MapEntry) w,(∀e∈es,∃k',e.key=ek k')→∃r,(Instr.findKey t (ek k) es).run P w= .ok r w∧(match r with
    | none=>∀e∈es,e.key≠ek k
    | some (i,v)=>∃e,es[i]?=some e∧v=e.val∧e.key=ek k∧∀j,j<i→∀e',es[j]?=some e'→e'.key≠ek k)
  stays:∀k w,(Instr.keyThatStays (ek k) (ek k)).run P w= .ok (ek k) w
  inj:∀k k',ek k=ek k'→k=k'
class TMap (P:Program) (t:TypeId) (kt et:outParam TypeId):Prop where
  und:P.underlying t=some (.map kt et)
end
section
variable {κ ν:Type} [DecidableEq κ] {ek:κ→Value} {R:Rd ν} {ag:Bool} {H:Heap}
omit [DecidableEq κ] in
theorem EL.all {P:Program} {t:TypeId}:∀{es:List MapEntry} {m:List (κ×ν)},EL ek R ag H es m→∀e∈es,∃k',e.key=ek k'
 | [],[],_,e,he=>by cases he
 | e1::es,(k,v)::m,⟨a,b,d⟩,e,he=>by
  rcases List.mem_cons.1 he with rfl | he
  ·exact ⟨k,a⟩
  ·exact EL.all (P:=P) (t:=t) d e he
 | [],_::_,h,_,_=>h.elim
 | _::_,[],h,_,_=>h.elim
theorem EL.get_none {k:κ}:∀{es:List MapEntry} {m:List (κ×ν)},EL ek R ag H es m→(∀e∈es,e.key≠ek k)→mget k m=none
 | [],[],_,_=>rfl
 | e1::es,(k1,v)::m,⟨a,b,d⟩,h=>by
  simp only [mget];rw [if_neg (by rintro rfl;exact h e1 (by simp) a)];exact EL.get_none d fun e he=>h e (by simp [he])
 | [],_::_,h,_=>h.elim
 | _::_,[],h,_=>h.elim
theorem EL.get_some (hinj:∀k k',ek k=ek k'→k=k') {k:κ}:∀{es:List MapEntry} {m:List (κ×ν)} {i:Nat} {e:MapEntry},EL ek R ag H es m→es[i]?=some e→e.key=ek k→(∀j,j<i→∀e',es[j]?=some e'→e'.key≠ek k)→∃v cs,mget k m=some v∧e.val=ofC ag cs∧R H cs v
 | e1::es,(k1,v)::m,0,e,⟨a,⟨cs,b,c⟩,d⟩,he,hk,_=>by
  simp at he;subst he;have:k=k1:=hinj _ _ (by rw [←hk,a]);subst this;exact ⟨v,cs,by simp [mget],b,c⟩
 | e1::es,(k1,v)::m,i+1,e,⟨a,b,d⟩,he,hk,hn=>by
  have h1:e1.key≠ek k:=hn 0 (by omega) e1 (by simp);simp only [mget];rw [if_neg (by rintro rfl;exact h1 a)];exact EL.get_some hinj d (by simpa using he) hk fun j hj e' he'=>hn (j+1) (by omega) e' (by simpa using he')
 | [],[],_,_,_,he,_,_=>by simp at he
 | [],_::_,_,_,h,_,_,_=>h.elim
 | _::_,[],_,_,h,_,_,_=>h.elim
theorem EL.set_some (hinj:∀k k',ek k=ek k'→k=k') {k:κ} {v':ν} {cs':List Value} (hv:R H cs' v'):∀{es:List MapEntry} {m:List (κ×ν)} {i:Nat} {e:MapEntry} (f:MapEntry→MapEntry),EL ek R ag H es m→es[i]?=some e→e.key=ek k→(∀j,j<i→∀e',es[j]?=some e'→e'.key≠ek k)→
  (∀e,e.key=ek k→(f e).key=ek k∧(f e).val=ofC ag cs')→EL ek R ag H (es.modify i f) (mset k v' m)
 | e1::es,(k1,v)::m,0,e,f,⟨a,b,d⟩,he,hk,_,hf=>by
  simp at he;subst he;have:k=k1:=hinj _ _ (by rw [←hk,a]);subst this;obtain ⟨f1,f2⟩:=hf e1 hk;simp only [List.modify_zero_cons,mset,if_pos];exact ⟨f1,⟨cs',f2,hv⟩,d⟩
 | e1::es,(k1,v)::m,i+1,e,f,⟨a,b,d⟩,he,hk,hn,hf=>by
  have h1:e1.key≠ek k:=hn 0 (by omega) e1 (by simp);simp only [mset,List.modify_succ_cons];rw [if_neg (by rintro rfl;exact h1 a)];exact ⟨a,b,EL.set_some hinj hv f d (by simpa using he) hk (fun j hj e' he'=>hn (j+1) (by omega) e' (by simpa using he')) hf⟩
 | [],[],_,_,_,_,he,_,_,_=>by simp at he
 | [],_::_,_,_,_,h,_,_,_,_=>h.elim
 | _::_,[],_,_,_,h,_,_,_,_=>h.elim
theorem EL.set_none {k:κ} {v':ν} {cs':List Value} {e:MapEntry} (hv:R H cs' v') (h1:e.key=ek k) (h2:e.val=ofC ag cs'):∀{es:List MapEntry} {m:List (κ×ν)},EL ek R ag H es m→mget k m=none→EL ek R ag H (es++[e]) (mset k v' m)
 | [],[],_,_=>⟨h1,⟨cs',h2,hv⟩,trivial⟩
 | e1::es,(k1,v)::m,⟨a,b,d⟩,hn=>by
  simp only [mget] at hn;split at hn
  ·cases hn
  ·next h=>simp only [mset,if_neg h,List.cons_append];exact ⟨a,b,EL.set_none hv h1 h2 d hn⟩
 | [],_::_,h,_=>h.elim
 | _::_,[],h,_=>h.elim
theorem EL.del_some (hinj:∀k k',ek k=ek k'→k=k') {k:κ}:∀{es:List MapEntry} {m:List (κ×ν)} {i:Nat} {e:MapEntry},EL ek R ag H es m→es[i]?=some e→e.key=ek k→(∀j,j<i→∀e',es[j]?=some e'→e'.key≠ek k)→EL ek R ag H (es.eraseIdx i) (mdel k m)
 | e1::es,(k1,v)::m,0,e,⟨a,b,d⟩,he,hk,_=>by
  simp at he;subst he;have:k=k1:=hinj _ _ (by rw [←hk,a]);subst this;simpa [mdel] using d
 | e1::es,(k1,v)::m,i+1,e,⟨a,b,d⟩,he,hk,hn=>by
  have h1:e1.key≠ek k:=hn 0 (by omega) e1 (by simp);simp only [mdel,List.eraseIdx_cons_succ];rw [if_neg (by rintro rfl;exact h1 a)];exact ⟨a,b,EL.del_some hinj d (by simpa using he) hk (fun j hj e' he'=>hn (j+1) (by omega) e' (by simpa using he'))⟩
 | [],[],_,_,_,he,_,_=>by simp at he
 | [],_::_,_,_,h,_,_,_=>h.elim
 | _::_,[],_,_,h,_,_,_=>h.elim
theorem qbE_ {k:κ}:∀{m:List (κ×ν)},mget k m=none→mdel k m=m
 | [],_=>rfl
 | (k1,v)::m,h=>by
  simp only [mget] at h;split at h
  ·cases h
  ·next e=>simp only [mdel,if_neg e,qbE_ h]
end
set_option linter.unusedSectionVars false
variable {P:Program} {t:TypeId} {k:IntKind}
instance [h:TIt P t k]:TKey P t (fun x:Int=>Value.int k x) where
  chk e x w:=by
    rw [show (10000:Nat)=9999+1 from rfl,Instr.checkKey];simp [run_underlying h.und]
  eq x es w hk:=by
    have hu:=run_underlying h.und (w:=w)
    have key:∀(es:List MapEntry) (i:Nat),(∀e∈es,∃k',e.key=Value.int k k')→∃r,Instr.findNow (.int k) (.int k x) es i=some r∧(match r with
        | none=>∀e∈es,e.key≠Value.int k x
        | some (j,v)=>i≤j∧∃e,es[j - i]?=some e∧v=e.val∧e.key=Value.int k x∧∀l,l<j - i→∀e',es[l]?=some e'→e'.key≠Value.int k x):=by
      intro es
      induction es with
      | nil=>intro i _;exact ⟨none,rfl,by simp⟩
      | cons e es ih=>
        intro i hk
        obtain ⟨k',hk'⟩:=hk e (by simp)
        by_cases hx:x=k'
        · subst hx
          refine ⟨some (i,e.val),by simp [Instr.findNow,Instr.sameNow,hk'],by omega,e,by simp,rfl,hk',fun l hl=>by omega⟩
        · obtain ⟨r,h1,h2⟩:=ih (i+1) fun e he=>hk e (by simp [he])
          have hb:(x==k')=false:=by rw [beq_eq_false_iff_ne];exact hx
          refine ⟨r,by simp [Instr.findNow,Instr.sameNow,hk',hb,h1],?_⟩
          have hne:e.key≠Value.int k x:=by rw [hk'];simp;exact fun e=>hx e.symm
          cases r with
          | none=>intro e' he';rcases List.mem_cons.1 he' with rfl | he';exact hne;exact h2 e' he'
          | some jv=>
            obtain ⟨j,v⟩:=jv
            obtain ⟨h3,e1,h4,h5,h6,h7⟩:=h2
            refine ⟨by omega,e1,?_,h5,h6,fun l hl e' he'=>?_⟩
            · rw [show j - i=(j - (i+1))+1 from by omega];simpa using h4
            · cases l with
              | zero=>simp at he';subst he';exact hne
              | succ l=>exact h7 l (by omega) e' (by simpa using he')
    obtain ⟨r,h1,h2⟩:=key es 0 hk
    refine ⟨r,by simp [Instr.findKey,hu,h1],?_⟩
    cases r with
    | none=>exact h2
    | some jv=>exact h2.2
  stays x w:=by simp [Instr.keyThatStays,Instr.sameBits]
  inj a b e:=by simpa using e
theorem zbE_ (s t:ByteArray):(s==t)=decide (s=t):=by
 show ByteArray.beq s t=_
 cases s with | mk a=>cases t with | mk b=>
 unfold ByteArray.beq;simp only [ByteArray.mk.injEq];by_cases h:a=b<;>simp [h]
instance [h:TSt P t]:TKey P t Value.string where
  chk e x w:=by
    rw [show (10000:Nat)=9999+1 from rfl,Instr.checkKey];simp [run_underlying h.und]
  eq x es w hk:=by
    have hu:=run_underlying h.und (w:=w)
    have key:∀(es:List MapEntry) (i:Nat),(∀e∈es,∃k',e.key=Value.string k')→∃r,Instr.findNow .string (.string x) es i=some r∧(match r with
        | none=>∀e∈es,e.key≠Value.string x
        | some (j,v)=>i≤j∧∃e,es[j - i]?=some e∧v=e.val∧e.key=Value.string x∧∀l,l<j - i→∀e',es[l]?=some e'→e'.key≠Value.string x):=by
      intro es
      induction es with
      | nil=>intro i _;exact ⟨none,rfl,by simp⟩
      | cons e es ih=>
        intro i hk
        obtain ⟨k',hk'⟩:=hk e (by simp)
        by_cases hx:x=k'
        · subst hx
          refine ⟨some (i,e.val),by simp [Instr.findNow,Instr.sameNow,hk',zbE_],by omega,e,by simp,rfl,hk',fun l hl=>by omega⟩
        · obtain ⟨r,h1,h2⟩:=ih (i+1) fun e he=>hk e (by simp [he])
          have hb:(x==k')=false:=by rw [zbE_];simp [hx]
          refine ⟨r,by simp [Instr.findNow,Instr.sameNow,hk',hb,h1],?_⟩
          have hne:e.key≠Value.string x:=by rw [hk'];simp;exact fun e=>hx e.symm
          cases r with
          | none=>intro e' he';rcases List.mem_cons.1 he' with rfl | he';exact hne;exact h2 e' he'
          | some jv=>
            obtain ⟨j,v⟩:=jv
            obtain ⟨h3,e1,h4,h5,h6,h7⟩:=h2
            refine ⟨by omega,e1,?_,h5,h6,fun l hl e' he'=>?_⟩
            · rw [show j - i=(j - (i+1))+1 from by omega];simpa using h4
            · cases l with
              | zero=>simp at he';subst he';exact hne
              | succ l=>exact h7 l (by omega) e' (by simpa using he')
    obtain ⟨r,h1,h2⟩:=key es 0 hk
    refine ⟨r,by simp [Instr.findKey,hu,h1],?_⟩
    cases r with
    | none=>exact h2
    | some jv=>exact h2.2
  stays x w:=by simp [Instr.keyThatStays,Instr.sameBits,zbE_]
  inj a b e:=by simpa using e
section
variable {κ ν:Type} [DecidableEq κ] {P:Program} {n:Nat} {W0:World} {F:zd_} {H H0:Heap} {L:List za_} {K:Value→Heap→List za_→Prop} {dst:Option Tmp} {ty:TypeId} {pos:String} {aft:Array Edge} {g:Option (Nat×Bool)}
variable {ek:κ→Value} {R:Rd ν} {ag:Bool} {t kt et:TypeId} {m:List (κ×ν)} {b:Nat} {k:κ}
theorem St.mapGet {w:World} {Rest:List za_} (h:St W0 H w (mapO ek R ag H0 b m::Rest)):∃es clock,MapOk ek R ag H0 es clock m∧w.heap[b]?=some (.map es clock)∧St W0 H w (pt b (.map es clock)::Rest):=by
 obtain ⟨hA,hR,⟨es,c,a,e⟩,r,d,dA,dR,lA,lR⟩:=h.parts;exact ⟨es,c,a,lA _ _ e,St.of_parts h.env h.ro e r d dA dR lA lR⟩
theorem St.mapMk {w:World} {Rest:List za_} {es:Array MapEntry} {clock:Nat} (h:St W0 H w (pt b (.map es clock)::Rest)) (a:MapOk ek R ag H0 es clock m):St W0 H w (mapO ek R ag H0 b m::Rest):=
 h.sub fun _ ⟨h1,h2,e,r⟩=>⟨h1,h2,⟨es,clock,a,e⟩,r⟩
theorem rgm {w:World} {r:Nat} {es:Array MapEntry} {clock:Nat} (hb:w.heap[r]?=some (.map es clock)):(getObj r).run P w= .ok (.map es clock) w:=by simp [getObj,Sem.run,hb]
theorem rsm {w:World} {r:Nat} {es:Array MapEntry} {clock:Nat} (o:Obj) (hb:w.heap[r]?=some (.map es clock)):(setObj r o).run P w= .ok () {w with heap:=w.heap.setIfInBounds r o}:=by simp [setObj,Sem.run,hb]
theorem qbh_ {w:World} {es:Array MapEntry} {clock:Nat} {z:Value} {ok:Bool} [hT:TMap P t kt et] [hK:TKey P kt ek] [hZ:TZ P et z] (hb:w.heap[b]?=some (.map es clock)) (hm:MapOk ek R ag H0 es clock m):
  ∃v,(Instr.lookup t (.map (some b)) (ek k) ok).run P w= .ok (if ok then .tuple #[v,.bool (mget k m).isSome] else v) w∧(match mget k m with | some y=>∃cs,v=ofC ag cs∧R H0 cs y | none=>v=z):=by
 have hu:=run_underlying hT.und (w:=w);obtain ⟨r,h1,h2⟩:=hK.eq k es.toList w (hm.el.all (P:=P) (t:=t))
 cases r with
 | none=>
  have hg:=hm.el.get_none h2;refine ⟨z,?_,by rw [hg]⟩;simp [Instr.lookup,hu,rgm hb,hK.chk,h1,hZ.run,hg]
 | some iv=>
  obtain ⟨i,v⟩:=iv;obtain ⟨e,h3,h4,h5,h6⟩:=h2;obtain ⟨y,cs,h7,h8,h9⟩:=hm.el.get_some hK.inj h3 h5 h6;refine ⟨v,?_,by rw [h7];exact ⟨cs,by rw [h4,h8],h9⟩⟩;simp [Instr.lookup,hu,rgm hb,hK.chk,h1,h7]
theorem ZbV_ {w:World} {z:Value} {ok:Bool} [hT:TMap P t kt et] [hK:TKey P kt ek] [hZ:TZ P et z]:
  (Instr.lookup t (.map none) (ek k) ok).run P w= .ok (if ok then .tuple #[z,.bool false] else z) w:=by
 have hu:=run_underlying hT.und (w:=w);obtain ⟨r,h1,h2⟩:=hK.eq k [] w (by simp)
 cases r with
 | none=>
  simp [Instr.lookup,hu,hK.chk,h1,hZ.run]
 | some iv=>obtain ⟨e,h3,_⟩:=h2;simp at h3
theorem Zcw_ (hk:∀b,H b=none→K (.map (some b)) H (mapO ek R ag H b ([]:List (κ×ν))::L)):OpW P n W0 ⟨dst,.makeMap t none,ty,pos,aft,g⟩ F H L K:=
 .of_run fun a w hF hS=>by
  have hs:St W0 H (w.alloc (.map #[] 0)) (pt w.heap.size (.map #[] 0)::L):=hS.alloc (hS.env.of rfl rfl rfl) rfl;exact ⟨_,H,_,_,by simp [execOp,Instr.makeMap,newObj,Sem.run,Result.andThen],.refl _,hk _ hs.ptRead.2,hs.mapMk ⟨trivial,by simp,by simp,by simp⟩⟩
theorem zdU_ {x y:Operand} {Rest:List za_} {val:ν→Value} {okp:ν→Prop} {d:ν} [h1:R1 R val okp] [hT:TMap P t kt et] [hK:TKey P kt ek] [hZ:TZ P et (val d)] (hx:opv F x=some (.map (some b))) (hy:opv F y=some (ek k)) (hh:Has L (mapO ek R false H0 b m) Rest):
  OpP P n W0 ⟨dst,.lookup t x y false,ty,pos,aft,g⟩ F H L (val ((mget k m).getD d)):= .mk fun a w hF hS=>by
 obtain ⟨es,c,a',hb,_⟩:=(hS.sub hh.to).mapGet;obtain ⟨v,hr,hv⟩:=qbh_ (P:=P) (t:=t) (kt:=kt) (et:=et) (k:=k) (ok:=false) (z:=val d) hb a'
 have:v=val ((mget k m).getD d):=by
  cases hg:mget k m with
  | none=>rw [hg] at hv;exact hv
  | some y=>rw [hg] at hv;obtain ⟨cs,e,hr⟩:=hv;rw [(h1.h hr).1] at e;exact e
 subst this;simp [execOp,hF.opv hx,hF.opv hy,hr]
theorem QdU_ {x y:Operand} {z:Value} [hT:TMap P t kt et] [hK:TKey P kt ek] [hZ:TZ P et z] (hx:opv F x=some (.map none)) (hy:opv F y=some (ek k)):
  OpP P n W0 ⟨dst,.lookup t x y false,ty,pos,aft,g⟩ F H L z:= .mk fun a w hF hS=>by
 simp [execOp,hF.opv hx,hF.opv hy,ZbV_]
theorem St.mapPut {w:World} {Rest:List za_} {es es':Array MapEntry} {c c':Nat} (h:St W0 H w (pt b (.map es c)::Rest)) (a:MapOk ek R ag H0 es' c' m):St W0 H {w with heap:=w.heap.setIfInBounds b (.map es' c')} (mapO ek R ag H0 b m::Rest):=by
 refine St.mapMk (h.ptWrite (h.env.of rfl rfl rfl) ?_ fun x hx=>?_) a
 ·have:=Qbp_ (w:=w) (b:=b) h.ptRead.1;simp [this]
 ·simp only [Array.getElem?_setIfInBounds];rw [if_neg (fun e=>hx e.symm)]
theorem MapOk.put_new {es:Array MapEntry} {c:Nat} (a:MapOk ek R ag H0 es c m) {y:ν} {cs:List Value} (hg:mget k m=none) (hy:R H0 cs y):MapOk ek R ag H0 (es.push {key:=ek k,val:=ofC ag cs,born:=c}) (c+1) (mset k y m) where
 el:=by rw [Array.toList_push];exact EL.set_none (ek:=ek) (k:=k) (e:={key:=ek k,val:=ofC ag cs,born:=c}) hy rfl rfl a.el hg
 nodup:=Zk_ a.nodup
 rise:=by
  rw [Array.toList_push,List.map_append,List.pairwise_append];refine ⟨a.rise,by simp,fun x hx y hy=>?_⟩;obtain ⟨e,he,rfl⟩:=List.mem_map.1 hx;simp at hy;subst hy;exact a.lt e he
 lt e he:=by
  rw [Array.toList_push,List.mem_append] at he;rcases he with he | he
  ·have:=a.lt e he;omega
  ·simp at he;subst he;show c<c+1;omega
theorem zQ_ (f:MapEntry→MapEntry) (hf:∀e,(f e).born=e.born):∀(l:List MapEntry) (i:Nat),(l.modify i f).map (·.born)=l.map (·.born)
 | [],i=>by simp
 | e::l,0=>by simp [hf]
 | e::l,i+1=>by simp [zQ_ f hf l i]
theorem MapOk.put_old (hinj:∀k k',ek k=ek k'→k=k') {es:Array MapEntry} {c i:Nat} {e:MapEntry} (a:MapOk ek R ag H0 es c m) {y:ν} {cs:List Value} (hy:R H0 cs y) (h3:es.toList[i]?=some e) (h5:e.key=ek k) (h6:∀j,j<i→∀e',es.toList[j]?=some e'→e'.key≠ek k)
  (f:MapEntry→MapEntry) (hf:∀e,e.key=ek k→(f e).key=ek k∧(f e).val=ofC ag cs) (hb:∀e,(f e).born=e.born):MapOk ek R ag H0 (es.modify i f) c (mset k y m) where
 el:=by rw [Array.toList_modify];exact a.el.set_some hinj hy f h3 h5 h6 hf
 nodup:=Zk_ a.nodup
 rise:=by rw [Array.toList_modify,zQ_ f hb];exact a.rise
 lt e he:=by
  rw [Array.toList_modify] at he;have:e.born∈(es.toList.modify i f).map (·.born):=List.mem_map.2 ⟨e,he,rfl⟩;rw [zQ_ f hb] at this;obtain ⟨e',he',e2⟩:=List.mem_map.1 this;rw [←e2];exact a.lt e' he'
theorem qcx_ {w:World} {es:Array MapEntry} {c:Nat} {v:Value} {y:ν} {cs:List Value} {Rest:List za_} [hT:TMap P t kt et] [hK:TKey P kt ek] (hS:St W0 H w (pt b (.map es c)::Rest)) (a:MapOk ek R ag H0 es c m) (hv:v=ofC ag cs) (hy:R H0 cs y):
  ∃w',(Instr.mapUpdate t (.map (some b)) (ek k) v).run P w= .ok () w'∧St W0 H w' (mapO ek R ag H0 b (mset k y m)::Rest):=by
 subst hv;have hb:=hS.ptRead.1;have hlt:=Qbp_ (w:=w) (b:=b) hb;have hu:=run_underlying hT.und (w:=w);obtain ⟨r,h1,h2⟩:=hK.eq k es.toList w (a.el.all (P:=P) (t:=t))
 cases r with
 | none=>exact ⟨_,by simp [Instr.mapUpdate,hu,rgm hb,hK.chk,h1,rsm _ hb],hS.mapPut (a.put_new (a.el.get_none h2) hy)⟩
 | some iv=>
  obtain ⟨i,v⟩:=iv;obtain ⟨e,h3,h4,h5,h6⟩:=h2;have h3':es[i]?=some e:=by simpa using h3
  refine ⟨_,by simp [Instr.mapUpdate,hu,rgm hb,hK.chk,h1,h3',h5,hK.stays,rsm _ hb],hS.mapPut (a.put_old hK.inj hy h3 h5 h6 (fun e=>{key:=ek k,val:=ofC ag cs,born:=e.born}) (fun e he=>⟨rfl,rfl⟩) (fun e=>rfl))⟩
theorem ZcQ_ {x y z:Operand} {v:Value} {u:ν} {cs:List Value} {Rest:List za_} [hT:TMap P t kt et] [hK:TKey P kt ek] (hx:opv F x=some (.map (some b))) (hy:opv F y=some (ek k)) (hz:opv F z=some v) (hv:v=ofC ag cs) (hu:R H0 cs u) (hh:Has L (mapO ek R ag H0 b m) Rest)
  (hk:K undef H (mapO ek R ag H0 b (mset k u m)::Rest)):OpW P n W0 ⟨dst,.mapUpdate t x y z,ty,pos,aft,g⟩ F H L K:= .of_skip fun a w hF hS=>by
 obtain ⟨es,c,a',hb,hS'⟩:=(hS.sub hh.to).mapGet;obtain ⟨w',hr,hw⟩:=qcx_ (P:=P) (t:=t) (k:=k) hS' a' hv hu;exact ⟨H,_,w',by simp [execOp,hF.opv hx,hF.opv hy,hF.opv hz,hr],.refl _,hk,hw⟩
theorem QdH_ {x:Operand} {Rest:List za_} [hT:TMap P t kt et] (hx:opv F x=some (.map (some b))) (hh:Has L (mapO ek R ag H0 b m) Rest):
  OpP P n W0 ⟨dst,.call ⟨.builtin .len,#[x],#[t]⟩,ty,pos,aft,g⟩ F H L (.int .i64 m.length):= .mk fun a w hF hS=>by
 obtain ⟨es,c,a',hb,_⟩:=(hS.sub hh.to).mapGet;have hu:=run_underlying hT.und (w:=w);have hl:es.size=m.length:=by rw [←a'.el.len];simp
 simp only [execOp,resolve];simp [invoke,builtin,hF.opv hx,Builtin.len_,hu,rgm hb,goInt,hl]
theorem zcx_:∀{l:List MapEntry} (i:Nat),(l.map (·.born)).Pairwise (· < ·)→((l.eraseIdx i).map (·.born)).Pairwise (· < ·):=fun i h=>h.sublist ((List.eraseIdx_sublist _ _).map _)
theorem v87_ {P:Prop} (h:P:=by
 simp only [execOp,resolve];simp [invoke,builtin,hF.opv hx,hF.opv hy,Builtin.delete_,hu,rgm hb,hK.chk,h1,rsm _ hb]):P:=h
theorem qcR_ {x y:Operand} {Rest:List za_} {tk:TypeId} [hT:TMap P t kt et] [hK:TKey P kt ek] (hx:opv F x=some (.map (some b))) (hy:opv F y=some (ek k)) (hh:Has L (mapO ek R ag H0 b m) Rest)
  (hk:K (.tuple #[]) H (mapO ek R ag H0 b (mdel k m)::Rest)):OpW P n W0 ⟨dst,.call ⟨.builtin .delete,#[x,y],#[t,tk]⟩,ty,pos,aft,g⟩ F H L K:= .of_run fun a w hF hS=>by
 obtain ⟨es,c,a',hb,hS'⟩:=(hS.sub hh.to).mapGet;have hlt:=Qbp_ (w:=w) (b:=b) hb;have hu:=run_underlying hT.und (w:=w);obtain ⟨r,h1,h2⟩:=hK.eq k es.toList w (a'.el.all (P:=P) (t:=t))
 cases r with
 | none=>
  refine ⟨_,H,_,_,?_,.refl _,hk,hS'.mapPut (es':=es) (c':=c) ?_⟩
  ·exact v87_
  ·rw [qbE_ (a'.el.get_none h2)];exact a'
 | some iv=>
  obtain ⟨i,v⟩:=iv;obtain ⟨e,h3,h4,h5,h6⟩:=h2;have hi:i<es.size:=by simpa using (List.getElem?_eq_some_iff.1 h3).1
  refine ⟨_,H,_,_,?_,.refl _,hk,hS'.mapPut (es':=es.eraseIdxIfInBounds i) (c':=c) ?_⟩
  ·exact v87_
  ·have he:(es.eraseIdxIfInBounds i).toList=es.toList.eraseIdx i:=by simp [Array.eraseIdxIfInBounds,hi]
   refine ⟨by rw [he];exact a'.el.del_some hK.inj h3 h5 h6,a'.nodup.sublist ((zay_ k m).map _),by rw [he];exact zcx_ i a'.rise,fun e he'=>a'.lt e ?_⟩;rw [he] at he';exact (List.eraseIdx_sublist _ _).subset he'
end
end Go.Sx
set_option linter.unusedVariables false
set_option linter.unusedSimpArgs false
namespace Go.Sx
open Go
noncomputable def gd (p:Prop) (v:Value):Value:=@ite _ p (Classical.propDecidable p) v undef
theorem gd_T {p:Prop} {v:Value} (h:p):gd p v=v:=by unfold gd;rw [if_pos h]
theorem gd_F {p:Prop} {v:Value} (h:¬p):gd p v=undef:=by unfold gd;rw [if_neg h]
class GSym (gv:Option (Value×Bool)) (p:outParam Prop):Prop where
  t:p→GOk gv true
  f:¬p→GOk gv false
instance {p:Prop} {dp:Decidable p}:GSym (some (.bool (@decide p dp),true)) p:=⟨fun h=>⟨by simp [h]⟩,fun h=>⟨by simp [h,gno]⟩⟩
instance {p:Prop} {dp:Decidable p}:GSym (some (.bool (@decide p dp),false)) (¬p):=⟨fun h=>⟨by simp [h]⟩,fun h=>⟨by have:=Classical.not_not.1 h;simp [this,gno]⟩⟩
instance (priority:=low) {b w:Bool}:GSym (some (.bool b,w)) (b=w):=⟨fun h=>⟨by simp [h]⟩,fun h=>⟨by simp [gno,h]⟩⟩
instance {r p:Prop} {dp:Decidable p}:GSym (some (gd r (.bool (@decide p dp)),true)) (r∧p):=⟨fun h=>⟨by simp [gd_T h.1,h.2]⟩,fun h=>⟨by
  by_cases hr:r
  · have:¬p:=fun hp=>h ⟨hr,hp⟩
    simp [gd_T hr,this,gno]
  · simp [gd_F hr,undef,gno]⟩⟩
instance {r p:Prop} {dp:Decidable p}:GSym (some (gd r (.bool (@decide p dp)),false)) (r∧¬p):=⟨fun h=>⟨by simp [gd_T h.1,h.2]⟩,fun h=>⟨by
  by_cases hr:r
  · have:p:=Classical.not_not.1 fun hp=>h ⟨hr,hp⟩
    simp [gd_T hr,this,gno]
  · simp [gd_F hr,undef,gno]⟩⟩
class UnG (p:Prop) (v:Value) (u:outParam Value):Prop where
  h:p→v=u
instance (priority:=low) {p:Prop} {v:Value}:UnG p v v:=⟨fun _=>rfl⟩
instance {p q:Prop} {v u:Value} [h:UnG p v u]:UnG (p∧q) v u:=⟨fun x=>h.h x.1⟩
instance (priority:=high) {p:Prop} {u:Value}:UnG p (gd p u) u:=⟨fun h=>gd_T h⟩
class UnGs (p:Prop) (vs:List Value) (us:outParam (List Value)):Prop where
  h:p→vs=us
instance {p:Prop}:UnGs p [] []:=⟨fun _=>rfl⟩
instance {p:Prop} {v u:Value} {vs us:List Value} [h:UnG p v u] [h':UnGs p vs us]:UnGs p (v::vs) (u::us):=⟨fun x=>by rw [h.h x,h'.h x]⟩
section
variable {P:Program} {c x y:Operand} {p q:Prop} {dp:Decidable p} {dq:Decidable q}
instance :POp P (.pick c x y) [.bool (@decide p dp),gd p (.bool (@decide q dq)),.bool false] True (.bool (@decide (p∧q) inferInstance)):=⟨fun {n W0 F H L dst ty pos aft g} _ h=>by
  by_cases hp:p
  · exact (qam_ (v:=gd p (.bool (@decide q dq))) (by rw [(ZC_ h).1];simp [hp]) (ZC_ h).2.1).cast (by rw [gd_T hp];simp [hp])
  · exact (zam_ (v:= .bool false) (by rw [(ZC_ h).1];simp [hp]) (ZC_ h).2.2).cast (by simp [hp])⟩
instance :POp P (.pick c x y) [.bool (@decide p dp),.bool true,gd (¬p) (.bool (@decide q dq))] True (.bool (@decide (p∨q) inferInstance)):=⟨fun {n W0 F H L dst ty pos aft g} _ h=>by
  by_cases hp:p
  · exact (qam_ (v:= .bool true) (by rw [(ZC_ h).1];simp [hp]) (ZC_ h).2.1).cast (by simp [hp])
  · exact (zam_ (v:=gd (¬p) (.bool (@decide q dq))) (by rw [(ZC_ h).1];simp [hp]) (ZC_ h).2.2).cast (by rw [gd_T hp];simp [hp])⟩
instance (priority:=low) {b:Bool}:POp P (.pick c x y) [.bool (@decide p dp),gd p (.bool b),.bool false] True (.bool (@decide (p∧b=true) inferInstance)):=⟨fun {n W0 F H L dst ty pos aft g} _ h=>by
  by_cases hp:p
  · exact (qam_ (v:=gd p (.bool b)) (by rw [(ZC_ h).1];simp [hp]) (ZC_ h).2.1).cast (by rw [gd_T hp];simp [hp])
  · exact (zam_ (v:= .bool false) (by rw [(ZC_ h).1];simp [hp]) (ZC_ h).2.2).cast (by simp [hp])⟩
instance (priority:=low) {b:Bool}:POp P (.pick c x y) [.bool (@decide p dp),.bool true,gd (¬p) (.bool b)] True (.bool (@decide (p∨b=true) inferInstance)):=⟨fun {n W0 F H L dst ty pos aft g} _ h=>by
  by_cases hp:p
  · exact (qam_ (v:= .bool true) (by rw [(ZC_ h).1];simp [hp]) (ZC_ h).2.1).cast (by simp [hp])
  · exact (zam_ (v:=gd (¬p) (.bool b)) (by rw [(ZC_ h).1];simp [hp]) (ZC_ h).2.2).cast (by rw [gd_T hp];simp [hp])⟩
end
section
variable {q:Bool} {P:Program} {n:Nat} {W0:World} {Q:Exit→Act→World→Prop} {F:zd_} {H:Heap} {L:List za_} {ops:Array Oper} {rest:List Oper} {k:List Fr} {op:Op} {ty ty':TypeId} {pos pos':String} {aft aft':Array Edge} {d d':Tmp} {g g':Option (Nat×Bool)} {v:Value} {vs us:List Value} {gv gv':Option (Value×Bool)} {p:Prop}
theorem Zal_ (hg:gval ops F g=some gv) [hs:GSym gv p] (h:p→OpP P n W0 ⟨some d,op,ty,pos,aft,g⟩ F H L v) (hk:Ops P n W0 Q ((d,gd p v)::F) H L q ops rest k) (hd:Nat.blt d n=true):
  Ops P n W0 Q F H L q ops (⟨some d,op,ty,pos,aft,g⟩::rest) k:=by
 by_cases hp:p
 ·haveI:=hs.t hp;rw [gd_T hp] at hk;exact Zh_ hg hd (h hp) hk
 ·haveI:=hs.f hp;rw [gd_F hp] at hk;exact ops_skip hg hk hd
theorem ops_gp {side:Prop} (hg:gval ops F g=some gv) [hs:GSym gv p] (hv:opvs F (Qae_ op)=some vs) [hu:UnGs p vs us] [hp:POp P op us side v] (hk:Ops P n W0 Q ((d,gd p v)::F) H L q ops rest k)
  (hside:p→side:=by intro hg;first | exact True.intro | omega | assumption | (unfold Go.Sx.fits;omega) | (refine ⟨?_,?_⟩<;>(try unfold Go.Sx.fits)<;>omega)) (hd:Nat.blt d n=true:=by rfl):Ops P n W0 Q F H L q ops (⟨some d,op,ty,pos,aft,g⟩::rest) k:=
 Zal_ hg (fun h=>hp.run (hside h) (by rw [hv,hu.h h])) hk hd
theorem ops_gB {r:Prop} {dr:Decidable r} (hg:gval ops F g=some gv) [hs:GSym gv p] (hv:opvs F (Qae_ op)=some vs) [hu:UnGs p vs us] [hp:BOp P op us r dr] (hk:Ops P n W0 Q ((d,gd p (.bool (@decide r dr)))::F) H L q ops rest k)
  (hd:Nat.blt d n=true:=by rfl):Ops P n W0 Q F H L q ops (⟨some d,op,ty,pos,aft,g⟩::rest) k:=
 Zal_ hg (fun h=>hp.run (by rw [hv,hu.h h])) hk hd
theorem ops_gld {x:Operand} {t:TypeId} {xv:Value} {b off T:Nat} {cs:List Value} {R:List za_} [TAgg P t false] (hg:gval ops F g=some gv) [hs:GSym gv p] (hx:opv F x=some xv) [hu:UnG p xv (.pointer (some ⟨b,off,none⟩))] [h:HasRow L b T cs R] (hc:cs[off]?=some v)
  (hk:Ops P n W0 Q ((d,gd p v)::F) H L q ops rest k) (hd:Nat.blt d n=true:=by rfl):Ops P n W0 Q F H L q ops (⟨some d,.load t x,ty,pos,aft,g⟩::rest) k:=
 Zal_ hg (fun hp=>ZaE_ (by rw [hx,hu.h hp]) h.has hc) hk hd
theorem ops_gldN {x:Operand} {t:TypeId} {xv:Value} {b off T m:Nat} {cs ws:List Value} {R:List za_} [TAgg P t true] [TSz P t m] (hg:gval ops F g=some gv) [hs:GSym gv p] (hx:opv F x=some xv) [hu:UnG p xv (.pointer (some ⟨b,off,none⟩))] [h:HasRow L b T cs R] (hc:qaE_ cs off m=some ws)
  (hk:Ops P n W0 Q ((d,gd p (.agg ws.toArray))::F) H L q ops rest k) (hd:Nat.blt d n=true:=by rfl):Ops P n W0 Q F H L q ops (⟨some d,.load t x,ty,pos,aft,g⟩::rest) k:=
 Zal_ hg (fun hp=>QaN_ (by rw [hx,hu.h hp]) h.has (pickC_pick hc)) hk hd
theorem ops_gldH0 {x:Operand} {t:TypeId} {xv:Value} {b o:Nat} {cs:List Value} [TAgg P t false] (hg:gval ops F g=some gv) [hs:GSym gv p] (hx:opv F x=some xv) [hu:UnG p xv (.pointer (some ⟨b,o,none⟩))] (h:HRow H b 0 cs) (hc:cs[o]?=some v)
  (hk:Ops P n W0 Q ((d,gd p v)::F) H L q ops rest k) (hd:Nat.blt d n=true:=by rfl):Ops P n W0 Q F H L q ops (⟨some d,.load t x,ty,pos,aft,g⟩::rest) k:=
 Zal_ hg (fun hp=>ZL_ (by rw [hx,hu.h hp]) (zI_ h o (Nat.zero_add _) hc)) hk hd
theorem ops_ldHz {x:Operand} {t:TypeId} {b o:Nat} {cs:List Value} [TAgg P t false] (hg:gval ops F g=some gv) [hb:GOk gv true] (hx:opv F x=some (.pointer (some ⟨b,o,none⟩))) (h:HRow H b 0 cs) (hc:cs[o]?=some v)
  (hk:Ops P n W0 Q ((d,v)::F) H L q ops rest k) (hd:Nat.blt d n=true:=by rfl):Ops P n W0 Q F H L q ops (⟨some d,.load t x,ty,pos,aft,g⟩::rest) k:=
 Zh_ hg hd (ZL_ hx (zI_ h o (Nat.zero_add _) hc)) hk
theorem ops_ldHNz {x:Operand} {t:TypeId} {b off m:Nat} {cs ws:List Value} [TAgg P t true] [TSz P t m] (hg:gval ops F g=some gv) [hb:GOk gv true] (hx:opv F x=some (.pointer (some ⟨b,off,none⟩))) (h:HRow H b 0 cs) (hc:qaE_ cs off m=some ws)
  (hk:Ops P n W0 Q ((d,.agg ws.toArray)::F) H L q ops rest k) (hd:Nat.blt d n=true:=by rfl):Ops P n W0 Q F H L q ops (⟨some d,.load t x,ty,pos,aft,g⟩::rest) k:=
 Zh_ hg hd (Qay_ hx (fun j v hj=>by have:=h (off+j) v ((pickC_pick hc).at.1 j v hj);rwa [Nat.zero_add] at this) (pickC_pick hc).at.2) hk
theorem ops_gext {x:Operand} {xv:Value} {ws:Array Value} {i:Nat} (hg:gval ops F g=some gv) [hs:GSym gv p] (hx:opv F x=some xv) [hu:UnG p xv (.tuple ws)] (hi:ws.toList[i]?=some v) (hk:Ops P n W0 Q ((d,gd p v)::F) H L q ops rest k) (hd:Nat.blt d n=true:=by rfl):
  Ops P n W0 Q F H L q ops (⟨some d,.extract x i,ty,pos,aft,g⟩::rest) k:=Zal_ hg (fun hp=>qaF_ (by rw [hx,hu.h hp]) (by simpa using hi)) hk hd
theorem ops_gix {α:Type} [Inhabited α] {R:Rd α} {val:α→Value} {ok:α→Prop} {T e t:TypeId} {x y:Operand} {xs:List α} {i:Int} {j:Nat} {kd:IntKind} {u w:Value} [h1:R1 R val ok] [hR:RdOk R 1] [TSl P T e] [TSz P e 1] [TAgg P t false] (hg:gval ops F g=some gv) [hs:GSym gv p]
  (hg':gval ops F g'=some gv) (hv:opvs F [x,y]=some [u,w]) [hu:UnG p u v] [hw:UnG p w (.int kd i)] [hi:NatOf i j] (hsl:SlR R 1 H v xs) (hj:p→j<xs.length) (hk:Ops P n W0 Q ((d',gd p (val (xs.getD j default)))::F) H L q ops rest k) (hn:fget F d=none:=by rfl) (hd:Nat.blt d n=true:=by rfl) (hd':Nat.blt d' n=true:=by rfl):
  Ops P n W0 Q F H L q ops (⟨some d,.indexAddr T x y,ty,pos,aft,g⟩::⟨some d',.load t (.tmp d),ty',pos',aft',g'⟩::rest) k:=by
 by_cases hp:p
 ·haveI:=hs.t hp;rw [gd_T hp] at hk;have hj':=hj hp;have hv':opvs F [x,y]=some [v,.int kd i]:=by rw [hv,hu.h hp,hw.h hp]
  refine ops_ix hg hg' hv' hsl hj' ?_ hn hd hd';have:xs.getD j default=xs[j]:=by simp [List.getD,List.getElem?_eq_getElem hj']
  rw [this] at hk;exact hk
 ·haveI:=hs.f hp;rw [gd_F hp] at hk;refine ops_skip hg (ops_skip (qax_ hn hg') (zax_ (Zak_ hn) hk) hd') hd
theorem Take.from {L A R:List za_} (h:Take L A R):Sub (A++R) L:=by
 induction h with
 | nil=>exact Sub.refl _
 | cons h _ ih=>exact (Sub.cons ih).trans h.from
theorem Qg_ {f:FuncId} {l:List Operand} {ts:Array TypeId} {A R:List za_} [TFn P f] (hg:gval ops F g=some gv) [hb:GOk gv true] (ha:opvs F l=some vs) (hs:Ct P f vs.toArray W0 H A (fun r H' B=>r=v∧B=A∧H'=H))
  (hk:Ops P n W0 Q ((d,v)::F) H L false ops rest k) (ht:Take L A R:=by repeat (first | exact Go.Sx.Take.nil | (apply Go.Sx.Take.cons;focus (repeat (first | exact Go.Sx.Has.here | apply Go.Sx.Has.there)))))
  (hd:Nat.blt d n=true:=by rfl):Ops P n W0 Q F H L false ops (⟨some d,.call ⟨.value (.func f),l.toArray,ts⟩,ty,pos,aft,g⟩::rest) k:=
 Za_ hg ha hs (fun r H' B hl ⟨e1,e2,e3⟩=>by subst e1 e2 e3;exact zr_ ht.from hk) ht hd
theorem qaf_ {f:FuncId} {l:List Operand} {ts:Array TypeId} {A R:List za_} [TFn P f] (hg:gval ops F g=some gv) [hs:GSym gv p] (ha:opvs F l=some vs) [hu:UnGs p vs us] (hc:p→Ct P f us.toArray W0 H A (fun r H' B=>r=v∧B=A∧H'=H))
  (hk:Ops P n W0 Q ((d,gd p v)::F) H L false ops rest k) (ht:Take L A R:=by repeat (first | exact Go.Sx.Take.nil | (apply Go.Sx.Take.cons;focus (repeat (first | exact Go.Sx.Has.here | apply Go.Sx.Has.there)))))
  (hd:Nat.blt d n=true:=by rfl):Ops P n W0 Q F H L false ops (⟨some d,.call ⟨.value (.func f),l.toArray,ts⟩,ty,pos,aft,g⟩::rest) k:=by
 by_cases hp:p
 ·haveI:=hs.t hp;rw [gd_T hp] at hk;exact Qg_ hg (by rw [ha,hu.h hp]) (hc hp) hk ht hd
 ·haveI:=hs.f hp;rw [gd_F hp] at hk;exact ops_skip hg hk hd
end
section
variable {P:Program} {n:Nat} {W0:World} {Q:Exit→Act→World→Prop} {F:zd_} {H H0:Heap} {L L0:List za_} {m fuel:Nat} {ops:Array Oper} {listed:Array Bool} {k:List Fr} {op:Op} {ty:TypeId} {pos:String} {aft:Array Edge} {d:Tmp} {v:Value} {vs us:List Value} {g:Option (Nat×Bool)} {gv:Option (Value×Bool)} {p:Prop}
theorem zbp_ (i:Nat) (hi:ops[i]?=some ⟨some d,op,ty,pos,aft,g⟩) (hg:gval ops F g=some gv) [hs:GSym gv p] (hv:p→OpP P n W0 ⟨some d,op,ty,pos,aft,g⟩ F H0 L0 v) (h:AnyO P n W0 Q ((d,gd p v)::F) H H0 L L0 m ops fuel (listed.setIfInBounds i true) k)
  (hok:Ql_ ops m listed i=true) (hQ:∀v c a w,Kx P Q k (.panic c) (a.put (some d) v) w→Kx P Q k (.panic c) a w) (hl:H0.le H) (hsub:Sub L L0) (hd:Nat.blt d n=true):AnyO P n W0 Q F H H0 L L0 m ops (fuel+1) listed k:=by
 by_cases hp:p
 ·haveI:=hs.t hp;rw [gd_T hp] at h;exact Qo_ i hi hg (hv hp) h hok (hQ _) hl hsub hd
 ·haveI:=hs.f hp;rw [gd_F hp] at h;exact Qr_ i hi hg h hok hQ hl hsub hd
theorem zq_ (i:Nat) {f:FuncId} {l:List Operand} {ts:Array TypeId} {A R:List za_} [TFn P f] (hi:ops[i]?=some ⟨some d,.call ⟨.value (.func f),l.toArray,ts⟩,ty,pos,aft,g⟩) (hg:gval ops F g=some gv) [hb:GOk gv true] (ha:opvs F l=some vs) (hs:Ct P f vs.toArray W0 H A (fun r H' B=>r=v∧B=A∧H'=H))
  (hk:AnyO P n W0 Q ((d,v)::F) H H0 L L0 m ops fuel (listed.setIfInBounds i true) k) (ht:Take L A R:=by repeat (first | exact Go.Sx.Take.nil | (apply Go.Sx.Take.cons;focus (repeat (first | exact Go.Sx.Has.here | apply Go.Sx.Has.there)))))
  (hsub:Sub L L0:=by exact Go.Sx.subA)
  (hl:H0.le H:=by exact Go.Sx.leA) (hr:Region.ready .any ops listed=[i]:=by decide+kernel) (hd:Nat.blt d n=true:=by rfl):AnyO P n W0 Q F H H0 L L0 m ops (fuel+1) listed k:=
 ze_ i hi hg ha hs (fun r H' B hl ⟨e1,e2,e3⟩=>by subst e1 e2 e3;exact ⟨ht.from.trans hsub,Qcw_ ht.from hk⟩) ht hl hr hd
end
theorem ZI_ {p q:Prop} (hq:q) (h:Held q→p:=by
  intro hq
  repeat (first
   | refine Go.Sx.ops_p rfl rfl ?_ | refine Go.Sx.ops_ld rfl rfl rfl ?_ | refine Go.Sx.ops_T rfl rfl ?_ | refine Go.Sx.ops_F rfl rfl ?_ | refine Go.Sx.ops_B rfl rfl ?_ | refine Go.Sx.ops_skip rfl ?_
   | refine Go.Sx.ops_gp rfl rfl ?_ | refine Go.Sx.ops_gB rfl rfl ?_ | refine Go.Sx.ops_gld rfl rfl rfl ?_
   | refine Go.Sx.ops_st rfl rfl rfl rfl ?_ | refine Go.Sx.ops_ldN rfl rfl rfl ?_ | refine Go.Sx.ops_ext rfl rfl rfl ?_ | refine Go.Sx.ops_bld rfl rfl ?_ | refine Go.Sx.ops_ldHz rfl rfl ‹Go.Sx.HRow _ _ 0 _› rfl ?_ | refine Go.Sx.ops_ldHNz rfl rfl ‹Go.Sx.HRow _ _ 0 _› rfl ?_ | refine Go.Sx.ops_ldH rfl rfl ‹Go.Sx.HRow _ _ _ _› rfl rfl ?_ | refine Go.Sx.ops_ldH0 rfl rfl ‹Go.Sx.HRow _ _ _ _› rfl ?_ | refine Go.Sx.ops_ix rfl rfl rfl ‹Go.Sx.SlR _ _ _ _ _› (by omega) ?_
   | refine Go.Sx.ops_gldH0 rfl rfl ‹Go.Sx.HRow _ _ 0 _› rfl ?_ | refine Go.Sx.ops_gldN rfl rfl rfl ?_ | refine Go.Sx.ops_gext rfl rfl rfl ?_ | refine Go.Sx.ops_gix rfl rfl rfl ‹Go.Sx.SlR _ _ _ _ _› (by intro hg;omega) ?_
   | refine Go.Sx.ops_nil ?_ | refine Go.Sx.ex_seq ?_ | refine Go.Sx.ex_reg ?_ | refine Go.Sx.out_seq ?_ | refine Go.Sx.ex_c rfl ?_ | refine Go.Sx.ex_sT ?_ | refine Go.Sx.ex_sF ?_ | refine Go.Sx.ex_blk ?_ | refine Go.Sx.out_blk ?_
   | refine Go.Sx.ex_skip ?_ | refine Go.Sx.ex_exit ?_ | refine Go.Sx.ex_ret ?_ | refine Go.Sx.out_eseq ?_ | refine Go.Sx.out_eblk ?_ | refine Go.Sx.out_ecut ?_ | refine Go.Sx.out_epass rfl ?_ | refine Go.Sx.out_rseq ?_ | refine Go.Sx.out_rblk ?_ | refine Go.Sx.out_rcut ?_
   | refine Go.Sx.ex_quiet (by decide+kernel) (fun _ _ _ _ _ h=>h) ?_)
  exact hq.out):p:=h ⟨hq⟩
end Go.Sx
set_option linter.unusedVariables false
set_option linter.unusedSimpArgs false
namespace Go.Sx
open Go
theorem ZdU_ {p q:Prop} {u:Value} (h:p):gd (p∧q) u=gd q u:=by
 by_cases hq:q
 ·rw [gd_T hq,gd_T ⟨h,hq⟩]
 ·rw [gd_F hq,gd_F fun e=>hq e.2]
instance (priority:=high) {p q:Prop} {u:Value}:UnG p (gd (p∧q) u) (gd q u):=⟨fun h=>ZdU_ h⟩
instance {P:Program} {x:Operand} {T:TypeId} {p:Prop} {dp:Decidable p}:POp P (.unOp .not T x) [.bool (@decide p dp)] True (.bool (@decide (¬p) instDecidableNot)):=⟨fun _ h=>(ZbE_ (zae_ h)).cast (by simp)⟩
section
variable {P:Program} {n:Nat} {W0:World} {Q:Exit→Act→World→Prop} {F:zd_} {H H0:Heap} {L L0:List za_} {m fuel:Nat} {ops:Array Oper} {listed:Array Bool} {k:List Fr} {op:Op} {ty ty':TypeId} {pos pos':String} {aft aft':Array Edge} {d d':Tmp} {v:Value} {vs us:List Value} {g g':Option (Nat×Bool)} {gv gv':Option (Value×Bool)} {p:Prop}
theorem zcR_ (i j:Nat) {α:Type} {R:Rd α} {val:α→Value} {ok:α→Prop} {T:TypeId} {t e:TypeId} {x y:Operand} {xs:List α} {ii:Int} {jj:Nat} {kd:IntKind} [h1:R1 R val ok] [hR:RdOk R 1] [TSl P t T] [TSz P T 1] [TAgg P e false] (hi:ops[i]?=some ⟨some d,.indexAddr t x y,ty,pos,aft,g⟩) (hj:ops[j]?=some ⟨some d',.load e (.tmp d),ty',pos',aft',g'⟩) (hg:gval ops F g=some gv) [hb:GOk gv true] (hg':gval ops F g'=some gv') [hb':GOk gv' true]
  (hv:opvs F [x,y]=some [v,.int kd ii]) [hin:NatOf ii jj] (hs:SlR R 1 H0 v xs) (hlt:jj<xs.length) (h:AnyO P n W0 Q ((d',val (xs[jj]'hlt))::F) H H0 L L0 m ops fuel ((listed.setIfInBounds i true).setIfInBounds j true) k) (hn:fget F d=none:=by rfl) (hok:Ql_ ops m listed i=true:=by decide+kernel) (hok':Ql_ ops m (listed.setIfInBounds i true) j=true:=by decide+kernel)
  (hQ:∀v c a w,Kx P Q k (.panic c) (a.put (some d) v) w→Kx P Q k (.panic c) a w:=by exact fun _ _ _ _ h=>h) (hQ':∀v c a w,Kx P Q k (.panic c) (a.put (some d') v) w→Kx P Q k (.panic c) a w:=by exact fun _ _ _ _ h=>h)
  (hl:H0.le H:=by exact Go.Sx.leA) (hsub:Sub L L0:=by exact Go.Sx.subA) (hd:Nat.blt d n=true:=by rfl) (hd':Nat.blt d' n=true:=by rfl):AnyO P n W0 Q F H H0 L L0 m ops (fuel+1+1) listed k:=by
 refine Qf_ i hi hg hv hs hlt (fun b o c hr hc=>?_) hok hQ hl hsub hd;obtain ⟨rfl,_⟩:=h1.h hc;refine Qo_ (gv:=gv') j hj (qax_ hn hg') (ZL_ (b:=b) (off:=o) (by simp [opv,fget]) (zI_ hr 0 rfl rfl)) ?_ hok' (hQ' _) hl hsub hd';exact ⟨h.run.sub (Sub.refl _) (Zak_ hn)⟩
end
section
variable {P:Program} {n:Nat} {W0:World} {Q:Exit→Act→World→Prop} {F:zd_} {H:Heap} {L R:List za_} {ops:Array Oper} {rest:List Oper} {k:List Fr} {e:Exit} {c:Code} {b:Nat} {o:Obj}
theorem QcR_ {G:Act→World→Prop} (hh:Has L (pt b o) R) (h:H b=none→H.le (upd H b o)→Sat n W0 F (upd H b o) R G):Sat n W0 F H L G:=fun a w hF hS=>by
 obtain ⟨h0,h1⟩:=(hS.sub hh.to).freeze;exact h h0 (qdB_ h0) a w hF h1
theorem Zcl_ {T:TypeId} {cs:List Value}:HRow (upd H b (.cells cs.toArray T (0,0))) b 0 cs:=fun j v hj=>by
 simp only [hcell,qcm_];simpa using hj
theorem zL_ {T:TypeId} {cs:List Value} (hh:Has L (row b T cs) R) (h:∀H',H.le H'→HRow H' b 0 cs→Ops P n W0 Q F H' R false ops rest k):Ops P n W0 Q F H L false ops rest k:=⟨QcR_ hh fun _ hl=>(h _ hl Zcl_).run⟩
section
variable {κ ν:Type} {ek:κ→Value} {RV:Rd ν} {ag:Bool} {H0:Heap} {ms:List (κ×ν)}
end
end
section
variable {q:Bool} {κ ν:Type} [DecidableEq κ] {P:Program} {n:Nat} {W0:World} {Q:Exit→Act→World→Prop} {F:zd_} {H H0:Heap} {L R:List za_} {ops:Array Oper} {rest:List Oper} {k:List Fr} {ty:TypeId} {pos:String} {aft:Array Edge} {d:Tmp} {g:Option (Nat×Bool)} {gv:Option (Value×Bool)} {p:Prop} {b:Nat}
variable {ek:κ→Value} {RV:Rd ν} {ag:Bool} {t kt et:TypeId} {ms:List (κ×ν)} {ky:κ}
class KeyV (ek:outParam (κ→Value)) (v:Value) (ky:outParam κ):Prop where
  h:v=ek ky
instance {k:IntKind} {x:Int}:KeyV (fun x:Int=>Value.int k x) (.int k x) x:=⟨rfl⟩
instance {s:ByteArray}:KeyV Value.string (.string s) s:=⟨rfl⟩
theorem qs_ {κ ν:Type} [DecidableEq κ] (ek:κ→Value) (RV:Rd ν) (ag:Bool) (hg:gval ops F g=some gv) [hb:GOk gv true] (hk:∀b,H b=none→Ops P n W0 Q ((d,.map (some b))::F) H (mapO ek RV ag H b ([]:List (κ×ν))::L) false ops rest k) (hd:Nat.blt d n=true:=by rfl):Ops P n W0 Q F H L false ops (⟨some d,.makeMap t none,ty,pos,aft,g⟩::rest) k:=
 qI_ hg hd (Zcw_ hk)
theorem qbW_ {x y:Operand} {kv:Value} {val:ν→Value} {okp:ν→Prop} {z:ν} [h1:R1 RV val okp] [hT:TMap P t kt et] [hV:KeyV ek kv ky] [hK:TKey P kt ek] [hZ:TZ P et (val z)] (hg:gval ops F g=some gv) [hb:GOk gv true] (hv:opvs F [x,y]=some [.map (some b),kv]) (hh:Has L (mapO ek RV false H0 b ms) R)
  (hk:Ops P n W0 Q ((d,val ((mget ky ms).getD z))::F) H L q ops rest k) (hd:Nat.blt d n=true:=by rfl):Ops P n W0 Q F H L q ops (⟨some d,.lookup t x y false,ty,pos,aft,g⟩::rest) k:=
 Zh_ hg hd (zdU_ (d:=z) (qf_ hv).1 ((qf_ hv).2.trans (congrArg some hV.h)) hh) hk
theorem zw_ {x y z:Operand} {kv v:Value} {u:ν} {cs:List Value} [hT:TMap P t kt et] [hV:KeyV ek kv ky] [hK:TKey P kt ek] (hv:opvs F [x,y,z]=some [.map (some b),kv,v]) (hc:v=ofC ag cs) (hu:RV H0 cs u) (hh:Has L (mapO ek RV ag H0 b ms) R)
  (hk:Ops P n W0 Q F H (mapO ek RV ag H0 b (mset ky u ms)::R) false ops rest k):Ops P n W0 Q F H L false ops (⟨none,.mapUpdate t x y z,ty,pos,aft,none⟩::rest) k:=
 Zbo_ (ZcQ_ (ZC_ hv).1 ((ZC_ hv).2.1.trans (congrArg some hV.h)) (ZC_ hv).2.2 hc hu hh hk)
end
end Go.Sx
