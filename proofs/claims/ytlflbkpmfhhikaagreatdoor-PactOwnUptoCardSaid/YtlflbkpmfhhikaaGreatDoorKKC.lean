/- The engine, further on. No program in sight. -/
import Derived.Test.YtlflbkpmfhhikaaGreatDoorKKB
import Derived.Sort.Row
import Derived.Sort.Grow
import Derived.Lib.SlicesCompact
import Derived.Lib.AppendZeros
import Derived.Laws.BytesString
import Derived.Laws.MakeOwn
import Derived.Below
import Derived.Lib.LaidTab
import Derived.Lib.ItoaNum
import Derived.Lib.ConvBytes
import Derived.Lib.ItoaMem
import Derived.WalkKit
import Derived.OpenShut
import Derived.Laws.Strings3
import Derived.Laws.CopyRow
import Derived.WideLaws
import Derived.Lib.Strings
import Derived.Lib.IndexBytes
set_option linter.unusedVariables false
set_option linter.unusedSimpArgs false
namespace Go.Sx
open Go Go.Sort
section
variable {α:Type} [Inhabited α]
theorem qbD_ (enc:α→Value) {xs ys:List α} {sp:List Value} (hl:ys.length=xs.length):putCells enc 0 ys.toArray (xs.map enc++sp).toArray=(ys.map enc++sp).toArray:=by
 apply Array.ext';simp only [putCells,Array.toList_mapIdx];apply List.ext_getElem?;intro i;simp only [List.getElem?_mapIdx,Nat.zero_add,Nat.zero_le,true_and,Nat.sub_zero];by_cases h:i<ys.length
 ·have h2:i<xs.length:=by omega
  rw [List.getElem?_append_left (by simpa using h2),List.getElem?_append_left (by simpa using h)];simp [h,h2]
 ·rw [List.getElem?_append_right (by simp;omega),List.getElem?_append_right (by simp;omega)];simp only [List.length_map,hl];simp [h]
theorem St.putRow {W0 w:World} {H:Heap} {R:List za_} {b T n:Nat} {enc:α→Value} {xs ys:List α} {sp:List Value} {os:Array Obj} (hS:St W0 H w (row b T (xs.map enc++sp)::R)) (hl:ys.length=xs.length):
  St W0 H (grow (Go.Sort.putRow enc (Sort.ahead w n) b 0 ys.toArray) os) (row b T (ys.map enc++sp)::R):=by
 have h0:=hS.ptRead.1;have hlt:b<w.heap.size:=(Array.getElem?_eq_some_iff.1 h0).1;refine hS.step (hS.env.of rfl rfl rfl) fun hA a lA=>⟨fun x hx hn=>?_,one b (.cells (ys.map enc++sp).toArray T (0,0)),by simp [row,pt,one],zcm_ ?_,fun x hx=>?_⟩
 ·simp only [hp,grow,Go.Sort.putRow,mapBlock,Sort.ahead];rw [Array.getElem?_append_left (by simpa using hx),Array.getElem?_modify];rw [if_neg (by rintro rfl;rw [show hA b=some _ from a] at hn;cases hn)]
 ·simp only [hp,grow,Go.Sort.putRow,mapBlock,Sort.ahead];rw [Array.getElem?_append_left (by simpa using hlt),Array.getElem?_modify,if_pos rfl,h0];simp only [Option.map_some,onCells,qbD_ enc hl]
 ·left;simp only [one] at hx;split at hx
  ·rename_i e;subst e;rw [show hA x=some _ from a];simp
  ·simp at hx
theorem St.holds {W0 w:World} {H:Heap} {R:List za_} {b T:Nat} {enc:α→Value} {xs:List α} {sp:List Value} (hS:St W0 H w (row b T (xs.map enc++sp)::R)):Holds enc w b 0 xs.toArray:=fun j hj=>by
 have hj':j<xs.length:=by simpa using hj
 refine ⟨?_,hS.rowFree⟩;rw [Nat.zero_add,hS.rowCell,List.getElem?_append_left (by simpa using hj'),List.getElem?_map,List.getElem?_eq_getElem hj'];simp [hj']
end
theorem RL.map1 {α:Type} {R:Rd α} {val:α→Value} {ok:α→Prop} [h1:R1 R val ok] {H:Heap}:∀{cs:List Value} {xs:List α},RL R H cs xs→cs=xs.map val∧∀x∈xs,ok x
 | _,[],h=>⟨h,by simp⟩
 | _,y::ys,⟨c,r,e,h2,h3⟩=>by
  obtain ⟨rfl,k⟩:=h1.h h2;obtain ⟨rfl,k2⟩:=RL.map1 h3;refine ⟨e,fun x hx=>?_⟩;rcases List.mem_cons.1 hx with rfl | hx
  ·exact k
  ·exact k2 x hx
class R1b {α:Type} (R:Rd α) (val:α→Value) (ok:α→Prop):Prop where
  h:∀{H:Heap} {x:α},ok x→R H [val x] x
instance :R1b rStr (fun x=> .string x) (fun x=>x.size≤zb_):=⟨fun h=>⟨rfl,h⟩⟩
theorem RL.mk1 {α:Type} {R:Rd α} {val:α→Value} {ok:α→Prop} [h1:R1b R val ok] {H:Heap}:∀{xs:List α},(∀x∈xs,ok x)→RL R H (xs.map val) xs
 | [],_=>rfl
 | x::xs,h=>⟨[val x],xs.map val,rfl,h1.h (h x (by simp)),RL.mk1 fun y hy=>h y (by simp [hy])⟩
section
variable {P:Program} {f:FuncId} {W0:World} {H H0:Heap} {T:Nat} {v:Value}
theorem QbU_ {α:Type} [DecidableEq α] [Inhabited α] (xs:List α):(Lib.compact xs).length≤xs.length:=by
 unfold Lib.compact Lib.compactUpTo;rw [List.length_map];exact Nat.le_trans (List.length_filter_le _ _) (by simp)
theorem qae_ {α:Type} [DecidableEq α] [Inhabited α] {d:Array α} {x:α}:∀{m:Nat},x∈Lib.compactUpTo d m↔∃j,j<m∧d[j]! =x
 | 0=>by simp [Lib.compactUpTo]
 | m+1=>by
  rw [Lib.compactUpTo_succ,List.mem_append,qae_];constructor
  ·rintro (⟨j,h1,h2⟩ | h)
   ·exact ⟨j,by omega,h2⟩
   ·split at h
    ·exact ⟨m,by omega,(List.mem_singleton.1 h).symm⟩
    ·cases h
  ·rintro ⟨j,h1,h2⟩;by_cases e:j=m
   ·subst e
    cases hk:Lib.keeps d j with
    | true=>right;simp [h2]
    | false=>
     left;by_cases e:j=0
     ·subst e;simp [Lib.keeps] at hk
     ·refine ⟨j - 1,by omega,?_⟩;have:d[j]! =d[j - 1]! :=Classical.byContradiction fun h=>by rw [Lib.keeps_pos h] at hk;cases hk
      rw [←this];exact h2
   ·exact .inl ⟨j,by omega,h2⟩
theorem ZbU_ {α:Type} [DecidableEq α] [Inhabited α] {xs:List α} {x:α}:x∈Lib.compact xs↔x∈xs:=by
 unfold Lib.compact;rw [qae_,List.mem_iff_getElem];constructor
 ·rintro ⟨j,h1,h2⟩;exact ⟨j,h1,by simpa [h1] using h2⟩
 ·rintro ⟨j,h1,h2⟩;exact ⟨j,h1,by simpa [h1] using h2⟩
end
def oneC:Value→Bool
  | .agg _=>false
  | _=>true
theorem zcv_ {v:Value} (h:oneC v=true):v.cells=#[v]:=by cases v<;>first | rfl | simp [oneC] at h
def zaJ_ (F:zd_):Nat→List (Nat×Operand)→Option (List Value)
  | _,[]=>some []
  | i,(j,x)::r=>match Nat.beq i j with
    | false=>none
    | true=>match opv F x with
      | none=>none
      | some v=>match zaJ_ F (i+1) r with
        | none=>none
        | some vs=>some (v::vs)
theorem zdS_:∀(vs:List Value) (i:Nat) (arr:List Value),vs.all oneC=true→i+vs.length≤arr.length→Instr.fill (fun i=>some (i*1,1)) arr.toArray ((vs.zipIdx i).map fun p=>(p.2,p.1))=some (arr.take i++vs++arr.drop (i+vs.length)).toArray
 | [],i,arr,_,_=>by simp [Instr.fill]
 | v::vs,i,arr,h,hl=>by
  simp only [List.all_cons,Bool.and_eq_true] at h;simp only [List.zipIdx_cons,List.map_cons,Instr.fill,zcv_ h.1];simp only [List.length_cons] at hl;rw [if_neg (by simp;omega)];have:=zdS_ vs (i+1) (arr.set i v) h.2 (by simp;omega);have e:(#[v]:Array Value).zipIdx.foldl (fun cs (c,j)=>cs.setIfInBounds (i*1+j) c) arr.toArray=(arr.set i v).toArray:=by simp
  rw [e,this];congr 2;rw [List.take_add_one,List.getElem?_set_self (by omega),List.take_set_of_le (by omega),List.drop_set_of_lt (by omega)];simp [Nat.add_assoc,Nat.add_comm 1]
section
variable {P:Program} {n:Nat} {W0:World} {F:zd_} {H:Heap} {L:List za_} {K:Value→Heap→List za_→Prop} {dst:Option Tmp} {ty:TypeId} {pos:String} {aft:Array Edge} {g:Option (Nat×Bool)}
theorem Zas_ {a:Act} (hF:FrOk n a F):∀{ps:List (Nat×Operand)} {i:Nat} {vs:List Value},zaJ_ F i ps=some vs→ps.map (fun p=>(p.1,a.eval p.2))=(vs.zipIdx i).map fun p=>(p.2,p.1)
 | [],i,vs,h=>by simp [zaJ_] at h;subst h;rfl
 | (j,x)::r,i,vs,h=>by
  simp only [zaJ_] at h;split at h
  ·cases h
  ·next hij=>
   split at h
   ·cases h
   ·next v hv=>
    split at h
    ·cases h
    ·next us hu=>
     cases h
     have e:i=j:=by simpa using hij
     subst e;simp only [List.map_cons,List.zipIdx_cons,hF.opv hv,Zas_ hF hu]
theorem QdS_ {t e:TypeId} {z:Value} {m:Nat} {ps:List (Nat×Operand)} {vs:List Value} [hT:TSl P t e] [hS':TSz P e 1] [hZ:TZ P e z] (hx:zaJ_ F 0 ps=some vs) (h1:vs.all oneC=true) (hm:vs.length=m) (hz:z.cells.size=1) (h0:(Nat.blt 0 m&&Nat.ble m 1000)=true)
  (hk:∀b,H b=none→K (.slice (some ⟨b,0,none⟩) m m) H (row b e vs::L)):OpW P n W0 ⟨dst,.buildSlice t m ps.toArray,ty,pos,aft,g⟩ F H L K:=
 .of_run fun a w hF hS=>by
  have hs:St W0 H (w.alloc (.cells vs.toArray e)) (row w.heap.size e vs::L):=hS.alloc (hS.env.of rfl rfl rfl) rfl;refine ⟨_,H,_,_,?_,.refl _,hk _ hs.ptRead.2,hs⟩;have h0:0<m∧m≤1000:=by simpa using h0
  have hne:m≠0:=by omega
  have hfill:=zdS_ vs 0 ((List.range (m*1)).map (fun i=>z.cells[i % z.cells.size]!)) h1 (by simp;omega);have hd:((List.range (m*1)).map (fun i=>z.cells[i % z.cells.size]!)).drop (0+vs.length)=[]:=List.drop_eq_nil_of_le (by simp;omega);rw [hd] at hfill;simp only [List.take_zero,List.nil_append,List.append_nil] at hfill
  have e2:((Array.range (m*1)).map (fun i=>z.cells[i % z.cells.size]!))=((List.range (m*1)).map (fun i=>z.cells[i % z.cells.size]!)).toArray:=by
   apply Array.ext';simp [Array.toList_range]
  rw [←e2] at hfill;have hp:=Zas_ hF hx;have hp2:(ps.toArray.map fun p=>(p.1,a.eval p.2)).toList=(vs.zipIdx 0).map fun p=>(p.2,p.1):=by rw [←hp];simp
  simp only [execOp];simp only [Nat.mul_one] at hfill;simp [Instr.buildSlice,run_underlying hT.und,hS'.run,hne,hZ.run,newRow];rw [if_neg (by omega)];have hp3:(ps.map fun x=>(x.1,a.eval x.2))=(vs.zipIdx 0).map fun p=>(p.2,p.1):=hp;simp only [hp3,hfill];simp
end
section
variable {P:Program} {n:Nat} {W0:World} {Q:Exit→Act→World→Prop} {F:zd_} {H H0:Heap} {L L0:List za_} {m fuel:Nat} {ops:Array Oper} {rest:List Oper} {listed:Array Bool} {k:List Fr} {ty:TypeId} {pos:String} {aft:Array Edge} {d:Tmp} {g:Option (Nat×Bool)} {gv:Option (Value×Bool)} {t e:TypeId} {z:Value} {ml:Nat} {ps:List (Nat×Operand)} {vs:List Value}
theorem qat_ [hT:TSl P t e] [hS':TSz P e 1] [hZ:TZ P e z] (hg:gval ops F g=some gv) [hb:GOk gv true] (hx:zaJ_ F 0 ps=some vs) (hk:∀b,H b=none→Ops P n W0 Q ((d,.slice (some ⟨b,0,none⟩) ml ml)::F) H (row b e vs::L) false ops rest k)
  (h1:vs.all oneC=true:=by rfl) (hm:vs.length=ml:=by rfl) (hz:z.cells.size=1:=by rfl) (h0:(Nat.blt 0 ml&&Nat.ble ml 1000)=true:=by rfl) (hd:Nat.blt d n=true:=by rfl):Ops P n W0 Q F H L false ops (⟨some d,.buildSlice t ml ps.toArray,ty,pos,aft,g⟩::rest) k:=
 qI_ hg hd (QdS_ hx h1 hm hz h0 hk)
end
theorem Qn_ {α:Type} {R:Rd α} {sz:Nat} [RdOk R sz] {H:Heap} {b cap:Nat} {cs:List Value} {xs:List α} (h:HRow H b 0 cs) (hr:RL R H cs xs) (h1:xs.length≤cap) (h2:cap≤9223372036854775807):SlR R sz H (.slice (some ⟨b,0,none⟩) xs.length cap) xs:=
 ⟨cs,⟨_,cap,rfl,⟨h1,h2⟩,hr.len,hr.one,.inr ⟨b,0,rfl,h⟩⟩,hr⟩
end Go.Sx
set_option linter.unusedVariables false
set_option linter.unusedSimpArgs false
namespace Go.Sx
open Go
instance {P:Program} {x:Operand} {T e:TypeId} {base:Option Addr} {m c:Nat} [hT:TSl P T e]:POp P (.call ⟨.builtin .cap,#[x],#[T]⟩) [.slice base m c] True (.int .i64 c):=⟨fun _ h=> .mk fun a w hF _=>by
  simp only [execOp,resolve]
  simp [invoke,builtin,Builtin.cap_,run_underlying hT.und,hF.opv (zae_ h),goInt]⟩
section
variable {P:Program} {c x y:Operand}
instance (priority:=low) {b b2:Bool}:POp P (.pick c x y) [.bool b,.bool true,gd (b=false) (.bool b2)] True (.bool (@decide (b=true∨b2=true) inferInstance)):=⟨fun {n W0 F H L dst ty pos aft g} _ h=>by
  cases b with
  | true=>exact (qam_ (v:= .bool true) (by rw [(ZC_ h).1]) (ZC_ h).2.1).cast (by simp)
  | false=>exact (zam_ (v:=gd (false=false) (.bool b2)) (by rw [(ZC_ h).1]) (ZC_ h).2.2).cast (by rw [gd_T rfl];simp)⟩
end
section
variable {P:Program} {n:Nat} {W0:World} {F:zd_} {H:Heap} {L:List za_} {K:Value→Heap→List za_→Prop} {dst:Option Tmp} {ty:TypeId} {pos:String} {aft:Array Edge} {g:Option (Nat×Bool)}
theorem qdF_ {t tn e:TypeId} {sz by_:Nat} {z:Value} {s x:Operand} {m:Nat} {kd kn:IntKind} [hT:TSl P t e] [hI:TIn P e sz by_ z] [hN:TIt P tn kn] (hs:opv F s=some (.slice none 0 0)) (hx:opv F x=some (.int kd m)) (hm:0<m) (hb:m*by_≤140737488355328) (h63:m≤140737488355328)
  (hk:∀b cap cs,m≤cap→cap≤9223372036854775807→cs.length=cap*sz→K (.slice (some ⟨b,0,none⟩) m cap) H (row b e cs::L)):OpW P n W0 ⟨dst,.call ⟨.builtin .append,#[s,x],#[t,tn]⟩,ty,pos,aft,g⟩ F H L K:=
 .of_run fun a w hF hS=>by
  obtain ⟨i,hi,hsz,hby,hz,hzs,hpos⟩:=hI.ex;subst hsz;subst hby;have hr:=Go.Lib.run_append_nil_zeros (P:=P) (ty:=ty) w t tn e i z kd kn hT.und hN.und hi hz m hm hpos (by omega) (by omega);have hge:=grownCap_ge w m 0 e;have hcm:grownCap w m 0 e≤maxLen:=grownCap_le_maxLen w m 0 e (by simp only [maxLen];omega);have hS3:St W0 H w.drew L:=hS.keep (hS.env.of rfl rfl rfl) rfl;have h4:=hS3.alloc (w':=w.drew.alloc (.cells (Builtin.zeroCells z.cells m++Builtin.zeroCells z.cells (grownCap w m 0 e - m)) e)) (hS3.env.of rfl rfl rfl) rfl;refine ⟨_,H,_,w.drew.alloc (.cells (Builtin.zeroCells z.cells m++Builtin.zeroCells z.cells (grownCap w m 0 e - m)) e),?_,.refl _,hk w.heap.size (grownCap w m 0 e) (Builtin.zeroCells z.cells m++Builtin.zeroCells z.cells (grownCap w m 0 e - m)).toList hge hcm ?_,?_⟩
  ·simp only [execOp,resolve];simp [invoke,builtin,hF.opv hs,hF.opv hx,hr]
  ·simp only [Array.toList_append,List.length_append,Array.length_toList,Zay_,hzs];rw [←Nat.add_mul];congr 1;omega
  ·have e2:∀a:Array Value,a.toList.toArray=a:=fun a=>by simp
   unfold row;rw [e2];exact h4
end
theorem qaN_ {P:Program} {n:Nat} {W0:World} {Q:Exit→Act→World→Prop} {F:zd_} {H H0:Heap} {L L0 R:List za_} {m fuel:Nat} {ops:Array Oper} {listed:Array Bool} {k:List Fr} {b:Nat} {T:TypeId} {cs:List Value} (hh:Has L (row b T cs) R) (h:∀H',H.le H'→HRow H' b 0 cs→AnyO P n W0 Q F H' H0 R L0 m ops fuel listed k):AnyO P n W0 Q F H H0 L L0 m ops fuel listed k:=
 ⟨QcR_ hh fun _ hl=>(h _ hl Zcl_).run⟩
section
variable {α:Type} {R:Rd α} {sz w T:Nat} {H:Heap} {b cap:Nat} {cs:List Value} {L:List za_}
theorem Qdo_ (hc:cs.length=cap*sz) (h2:cap≤9223372036854775807):Sub (row b T cs::L) (ownS R sz w T H (.slice (some ⟨b,0,none⟩) 0 cap) ([]:List α)::L):=
 (QE_ (xs:=[]) (sp:=cs) (m:=0) (by simp) (Nat.zero_le _) h2 (by simpa using hc)).trans (QK_ (xs:=[]) rfl (by simp))
end
section
variable {P:Program} {n:Nat} {W0:World} {Q:Exit→Act→World→Prop} {F:zd_} {H:Heap} {L:List za_} {ops:Array Oper} {rest:List Oper} {k:List Fr} {ty:TypeId} {pos:String} {aft:Array Edge} {d:Tmp} {g:Option (Nat×Bool)} {gv:Option (Value×Bool)}
theorem Zdo_ {t tn e:TypeId} {sz by_:Nat} {z:Value} {s x:Operand} {m:Nat} {kd kn:IntKind} [hT:TSl P t e] [hI:TIn P e sz by_ z] [hN:TIt P tn kn] (hg:gval ops F g=some gv) [hb:GOk gv true] (hv:opvs F [s,x]=some [.slice none 0 0,.int kd m]) (hm:0<m) (hb:m*by_≤140737488355328) (h63:m≤140737488355328)
  (hk:∀b cap cs,m≤cap→cap≤9223372036854775807→cs.length=cap*sz→Ops P n W0 Q ((d,.slice (some ⟨b,0,none⟩) m cap)::F) H (row b e cs::L) false ops rest k) (hd:Nat.blt d n=true:=by rfl):Ops P n W0 Q F H L false ops (⟨some d,.call ⟨.builtin .append,#[s,x],#[t,tn]⟩,ty,pos,aft,g⟩::rest) k:=
 qI_ hg hd (qdF_ (qf_ hv).1 (qf_ hv).2 hm hb h63 hk)
end
end Go.Sx
set_option linter.unusedVariables false
set_option linter.unusedSimpArgs false
namespace Go.Sx
open Go
instance :NatOf (1:Int) 1:=⟨rfl⟩
abbrev sb (l:List UInt8):ByteArray:=ByteArray.mk l.toArray
theorem ZcO_ (a b:List UInt8):sb a++sb b=sb (a++b):=ByteArray.ext (by simp [sb])
theorem zat_ (l:List UInt8):(sb l).size=l.length:=by simp [sb,ByteArray.size]
theorem zck_ {a b:List UInt8}:sb a=sb b↔a=b:=by simp [sb]
class LenLe (l:List UInt8) (n:outParam Nat):Prop where
  h:l.length≤n
instance :LenLe [] 0:=⟨Nat.le_refl _⟩
instance {x:UInt8} {r:List UInt8} {n:Nat} [h:LenLe r n]:LenLe (x::r) (n+1):=⟨by have:=h.h;simp;omega⟩
instance (priority:=high) {a b:List UInt8} {n m:Nat} [h:LenLe a n] [h':LenLe b m]:LenLe (a++b) (n+m):=⟨by have:=h.h;have:=h'.h;simp;omega⟩
instance (priority:=high) {P:Program} {x y:Operand} {T T':TypeId} {a b:List UInt8} {n m:Nat} [h:LenLe a n] [h':LenLe b m]:POp P (.binOp .add T x y T') [.string (ByteArray.mk a.toArray),.string (ByteArray.mk b.toArray)] (n+m≤9223372036854775807) (.string (ByteArray.mk (a++b).toArray)):=⟨fun hs hv=>by
  have h1:=h.h
  have h2:=h'.h
  exact OpP.mk fun A w hF _=>by
    simp only [execOp,hF.opv (qf_ hv).1,hF.opv (qf_ hv).2]
    have e1:(sb a).size=a.length:=zat_ a
    have e2:(sb b).size=b.length:=zat_ b
    have h3:¬((9223372036854775807:Int)<((sb a).size:Int)+((sb b).size:Int)):=by omega
    have hm:IntKind.i64.max=9223372036854775807:=by decide
    have h6:¬(((sb a).size+(sb b).size:Nat):Int)>IntKind.i64.max:=by rw [hm];omega
    have h4:(Op.stringOp .add (sb a) (sb b)).run P w= .ok (.string (sb (a++b))) w:=by
      rw [←ZcO_];simp only [Op.stringOp];rw [if_neg h6];rfl
    have h5:(Op.stringOp .add (ByteArray.mk a.toArray) (ByteArray.mk b.toArray)).run P w= .ok (.string (ByteArray.mk (a++b).toArray)) w:=h4
    simp [go_sem,h5]⟩
theorem Qcv_ (ns:List Int) (r:ByteArray):ns.foldl (fun r n=>r.push (UInt8.ofNat n.toNat)) r=r++sb (ns.map fun n=>UInt8.ofNat n.toNat):=by
 induction ns generalizing r with
 | nil=>exact ByteArray.ext (by simp [sb])
 | cons n ns ih=>rw [List.foldl_cons,ih];cases r;exact ByteArray.ext (by simp [sb,ByteArray.push])
section
variable {P:Program} {n:Nat} {W0:World} {Q:Exit→Act→World→Prop} {F:zd_} {H:Heap} {L R:List za_} {ops:Array Oper} {rest:List Oper} {k:List Fr} {ty:TypeId} {pos:String} {aft:Array Edge} {d:Tmp} {g:Option (Nat×Bool)} {gv:Option (Value×Bool)} {dst:Option Tmp}
theorem ZdS_ {src dt e:TypeId} {x:Operand} {b off m c T:Nat} {cs:List Value} {ns:List Int} [hT:TSl P src e] [hE:TIt P e .u8] [hD:TSt P dt] (hx:opv F x=some (.slice (some ⟨b,off,none⟩) m c)) (hh:Has L (row b T cs) R) (hat:At cs off (ns.map fun n=>Value.int .u8 n)) (hl:ns.length=m):
  OpP P n W0 ⟨dst,.convert src dt x,ty,pos,aft,g⟩ F H L (.string (sb (ns.map fun n=>UInt8.ofNat n.toNat))):= .mk fun a w hF hS=>by
 have h1:∀j v,(ns.map fun n=>Value.int .u8 n)[j]?=some v→w.cell? ((⟨b,off,none⟩:Addr).add j)=some v:=fun j v hj=>by
  rw [Addr.add_lit,(hS.sub hh.to).rowCell];exact hat j v hj
 have h2:=run_loadCells_list (P:=P) w ⟨b,off,none⟩ _ h1;subst hl;simp only [List.length_map] at h2;have h3:=run_bytesToString (P:=P) w ⟨b,off,none⟩ ns.length c ns h2;rw [Qcv_] at h3;have h4:(ByteArray.empty++sb (ns.map fun n=>UInt8.ofNat n.toNat))=sb (ns.map fun n=>UInt8.ofNat n.toNat):=by simp
 rw [h4] at h3;simp only [execOp,hF.opv hx];simp [run_convert_bytes_string w src dt e _ _ _ hT.und hE.und hD.und,h3]
theorem qcP_ {src dt e:TypeId} {x:Operand} {b m c T:Nat} [hT:TSl P src e] [hE:TIt P e .u8] [hD:TSt P dt] (ns:List Int) (hg:gval ops F g=some gv) [hb:GOk gv true] (hx:opv F x=some (.slice (some ⟨b,0,none⟩) m c)) (hh:Has L (row b T (ns.map fun n=>Value.int .u8 n)) R)
  (hk:Ops P n W0 Q ((d,.string (sb (ns.map fun n=>UInt8.ofNat n.toNat)))::F) H L false ops rest k) (hl:ns.length=m:=by rfl) (hd:Nat.blt d n=true:=by rfl):Ops P n W0 Q F H L false ops (⟨some d,.convert src dt x,ty,pos,aft,g⟩::rest) k:=
 Zh_ hg hd (ZdS_ hx hh (At.whole _) hl) hk
end
end Go.Sx
set_option linter.unusedVariables false
set_option linter.unusedSimpArgs false
namespace Go.Sx
open Go
section
variable {q:Bool} {P:Program} {n:Nat} {W0:World} {Q:Exit→Act→World→Prop} {F:zd_} {H:Heap} {L R:List za_} {ops:Array Oper} {rest:List Oper} {k:List Fr} {ty:TypeId} {pos:String} {aft:Array Edge} {d:Tmp} {g:Option (Nat×Bool)} {gv:Option (Value×Bool)} {v:Value}
end
end Go.Sx
set_option linter.unusedVariables false
set_option linter.unusedSimpArgs false
namespace Go.Sx
open Go
end Go.Sx
set_option linter.unusedVariables false
set_option linter.unusedSimpArgs false
namespace Go.Sx
open Go
section
variable {P:Program} {n:Nat} {W0:World} {Q:Exit→Act→World→Prop} {F:zd_} {H H0:Heap} {L L0 R:List za_} {ops:Array Oper} {k:List Fr} {op:Op} {ty:TypeId} {pos:String} {aft:Array Edge} {d:Tmp} {g:Option (Nat×Bool)} {gv:Option (Value×Bool)} {v:Value} {m fuel:Nat} {listed:Array Bool} {vs:List Value}
theorem zl_ (i o:Nat) {x:Operand} {t:TypeId} {b off:Nat} {cs:List Value} [TAgg P t false] (hi:ops[i]?=some ⟨some d,.load t x,ty,pos,aft,g⟩) (hg:gval ops F g=some gv) [hb:GOk gv true] (hr:HRow H0 b off cs) (hx:opv F x=some (.pointer (some ⟨b,off+o,none⟩))) (hc:cs[o]?=some v) (h:AnyO P n W0 Q ((d,v)::F) H H0 L L0 m ops fuel (listed.setIfInBounds i true) k)
  (hok:Ql_ ops m listed i=true:=by decide+kernel) (hQ:∀c a w,Kx P Q k (.panic c) (a.put (some d) v) w→Kx P Q k (.panic c) a w:=by exact fun _ _ _ h=>h)
  (hl:H0.le H:=by exact Go.Sx.leA) (hsub:Sub L L0:=by exact Go.Sx.subA) (hd:Nat.blt d n=true:=by rfl):AnyO P n W0 Q F H H0 L L0 m ops (fuel+1) listed k:=
 Qo_ i hi hg (ZL_ hx (zI_ hr o rfl hc)) h hok hQ hl hsub hd
theorem Zeg_ (i:Nat) (hi:ops[i]?=some ⟨none,op,ty,pos,aft,none⟩) (h:OpW P n W0 ⟨none,op,ty,pos,aft,none⟩ F H L (fun v H' L'=>H0.le H'∧Sub L' L0∧AnyO P n W0 Q F H' H0 L' L0 m ops fuel (listed.setIfInBounds i true) k))
  (hr:Region.ready .any ops listed=[i]:=by decide+kernel):AnyO P n W0 Q F H H0 L L0 m ops (fuel+1) listed k:=
 ⟨qbq_ hr (QbX_ hi (h.mono fun v H' L' _ ⟨a,b,c⟩=>⟨a,b,c.run⟩))⟩
theorem Zi_ (i:Nat) {x y:Operand} {t:TypeId} {b off T m':Nat} {cs us cs':List Value} [TSz P t m'] (hi:ops[i]?=some ⟨none,.store t x y,ty,pos,aft,none⟩) (hv:opvs F [x,y]=some [.pointer (some ⟨b,off,none⟩),v]) [h:HasRow L b T cs R] [hu:CellsI v us] (hl:us.length=m') (h1:us.all (·.oneCell')=true) (hle:off+us.length≤cs.length) (hcs:cs.take off++us++cs.drop (off+us.length)=cs')
  (hk:Sub (row b T cs'::R) L0∧AnyO P n W0 Q F H H0 (row b T cs'::R) L0 m ops fuel (listed.setIfInBounds i true) k)
  (hl0:H0.le H:=by exact Go.Sx.leA) (hr:Region.ready .any ops listed=[i]:=by decide+kernel):AnyO P n W0 Q F H H0 L L0 m ops (fuel+1) listed k:=by
 subst hcs;exact Zeg_ i hi (zN_ (qf_ hv).1 (qf_ hv).2 hu.h hl h1 h.has hle ⟨hl0,hk.1,hk.2⟩) hr
theorem Zn_ (i:Nat) {T:TypeId} {us:List Value} [TZL P T us] (hi:ops[i]?=some ⟨some d,.alloc T,ty,pos,aft,g⟩) (hg:gval ops F g=some gv) [hb:GOk gv true] (hk:∀b,H b=none→AnyO P n W0 Q ((d,.pointer (some ⟨b,0,none⟩))::F) H H0 (row b T us::L) L0 m ops fuel (listed.setIfInBounds i true) k)
  (hl:H0.le H:=by exact Go.Sx.leA) (hsub:Sub L L0:=by exact Go.Sx.subA)
  (hr:Region.ready .any ops listed=[i]:=by decide+kernel) (hd:Nat.blt d n=true:=by rfl):AnyO P n W0 Q F H H0 L L0 m ops (fuel+1) listed k:=
 qdU_ i hi hg (qA_ fun b hb=>⟨hl,Sub.drop hsub,hk b hb⟩) hr hd
theorem QaJ_ (i j:Nat) {f:FuncId} {l:List Operand} {ts:Array TypeId} {A R:List za_} {Post:Value→Heap→List za_→Prop} {T:TypeId} {us:List Value} {d':Tmp} {ty':TypeId} {pos':String} {aft':Array Edge} [TFn P f] [TZL P T us]
  (hi:ops[i]?=some ⟨some d,.call ⟨.value (.func f),l.toArray,ts⟩,ty,pos,aft,none⟩) (hj:ops[j]?=some ⟨some d',.alloc T,ty',pos',aft',none⟩)
  (ha:opvs F l=some vs) (hs:Ct P f vs.toArray W0 H A Post)
  (hk:∀r H' B,H.le H'→Post r H' B→Sub (B++R) L0∧AnyO P n W0 Q ((d,r)::F) H' H0 (B++R) L0 m ops fuel (listed.setIfInBounds i true) k)
  (hk2:∀b,H b=none→AnyO P n W0 Q ((d',.pointer (some ⟨b,0,none⟩))::F) H H0 (row b T us::L) L0 m ops fuel (listed.setIfInBounds j true) k)
  (ht:Take L A R:=by repeat (first | exact Go.Sx.Take.nil | (apply Go.Sx.Take.cons;focus (repeat (first | exact Go.Sx.Has.here | apply Go.Sx.Has.there)))))
  (hl:H0.le H:=by exact Go.Sx.leA) (hsub:Sub L L0:=by exact Go.Sx.subA)
  (hr:Region.ready .any ops listed=[i,j]:=by decide+kernel) (hd:Nat.blt d n=true:=by rfl) (hd':Nat.blt d' n=true:=by rfl):AnyO P n W0 Q F H H0 L L0 m ops (fuel+1) listed k:=
 Zax_ i j hi hj (ZaV_ (Zv_ ha) hs ht fun r H' B h1 h2=>⟨hl.trans h1,(hk r H' B h1 h2).1,(hk r H' B h1 h2).2⟩) (qA_ fun b hb=>⟨hl,Sub.drop hsub,hk2 b hb⟩) hr hd hd'
theorem qaU_ {x y:Code} {σ:Type} (I:σ→Prop) (mF:σ→zd_) (mH:σ→Heap) (mL:σ→List za_)
  (h:∀K:Act→World→Prop,(∀s,I s→Sat n W0 (mF s) (mH s) (mL s) K)→Ex P n W0 Q F H L x (.cut K::k)) (h2:∀s,I s→Ex P n W0 Q (mF s) (mH s) (mL s) y k):Ex P n W0 Q F H L x (.seq y::k):=
 ⟨(h (y.wp P (Kx P Q k)) fun s hs=>(h2 s hs).run).run⟩
end
end Go.Sx
set_option linter.unusedVariables false
set_option linter.unusedSimpArgs false
namespace Go.Sx
open Go
section
variable {P:Program} {n:Nat} {W0:World} {F:zd_} {H:Heap} {L:List za_} {K:Value→Heap→List za_→Prop} {dst:Option Tmp} {ty:TypeId} {pos:String} {aft:Array Edge} {g:Option (Nat×Bool)}
theorem qdT_ {t e:TypeId} {sz by_:Nat} {z:Value} {l c:Operand} {m:Nat} {kl kc:IntKind} {cs:List Value} [hT:TSl P t e] [hI:TIn P e sz by_ z] (hl:opv F l=some (.int kl m)) (hc:opv F c=some (.int kc m)) (hcs:(madeCells z.cells (m*sz)).toList=cs) (hb:m*by_≤140737488355328) (h63:m≤140737488355328)
  (hk:∀b,H b=none→K (.slice (some ⟨b,0,none⟩) m m) H (row b e cs::L)):OpW P n W0 ⟨dst,.makeSlice t l c,ty,pos,aft,g⟩ F H L K:=
 .of_run fun a w hF hS=>by
  obtain ⟨i,hi,hsz,hby,hz,hzs,hpos⟩:=hI.ex;subst hsz;subst hby;subst hcs
  have hb':(i.bytes:Int)*(m:Int)≤281474976710656:=by
   have h:((m*i.bytes:Nat):Int)≤281474976710656:=by omega
   rw [Nat.mul_comm] at h;rwa [Int.natCast_mul] at h
  have hr:=run_make (P:=P) w t e i z hT.und hi hz kl kc m m (by omega) (Int.le_refl _) hb' (by omega);simp only [Int.toNat_natCast] at hr
  have h4:St W0 H (w.alloc (.cells (madeCells z.cells (m*i.size)) e)) (row w.heap.size e (madeCells z.cells (m*i.size)).toList::L):=by
   have h5:=hS.alloc (w':=w.alloc (.cells (madeCells z.cells (m*i.size)) e)) (hS.env.of rfl rfl rfl) rfl;unfold row;rw [show (madeCells z.cells (m*i.size)).toList.toArray=madeCells z.cells (m*i.size) by simp];exact h5
  refine ⟨_,H,_,_,?_,.refl _,hk _ h4.ptRead.2,h4⟩;simp only [execOp];rw [hF.opv hl,hF.opv hc];simp [hr]
end
end Go.Sx
set_option linter.unusedVariables false
set_option linter.unusedSimpArgs false
namespace Go.Sx
open Go
section
variable {P:Program} {n:Nat} {W0:World} {Q:Exit→Act→World→Prop} {F:zd_} {H H0:Heap} {L L0 R:List za_} {ops:Array Oper} {k:List Fr} {op:Op} {ty ty' ty2:TypeId} {pos pos' pos2:String} {aft aft' aft2:Array Edge} {d d' d2:Tmp} {m fuel:Nat} {listed:Array Bool} {vs:List Value} {T T2:TypeId} {us us2:List Value}
theorem Qd_ (i:Nat) {x:Operand} {j:Nat} {vs:Array Value} {v:Value} {g:Option (Nat×Bool)} {gv:Option (Value×Bool)} (hi:ops[i]?=some ⟨some d,.extract x j,ty,pos,aft,g⟩) (hg:gval ops F g=some gv) [hb:GOk gv true] (hx:opv F x=some (.tuple vs)) (hv:vs.toList[j]?=some v) (h:AnyO P n W0 Q ((d,v)::F) H H0 L L0 m ops fuel (listed.setIfInBounds i true) k)
  (hok:Ql_ ops m listed i=true:=by decide+kernel) (hQ:∀c a w,Kx P Q k (.panic c) (a.put (some d) v) w→Kx P Q k (.panic c) a w:=by exact fun _ _ _ h=>h)
  (hl:H0.le H:=by exact Go.Sx.leA) (hsub:Sub L L0:=by exact Go.Sx.subA) (hd:Nat.blt d n=true:=by rfl):AnyO P n W0 Q F H H0 L L0 m ops (fuel+1) listed k:=
 Qo_ i hi hg (qaF_ hx (by simpa using hv)) h hok hQ hl hsub hd
end
end Go.Sx
set_option linter.unusedVariables false
set_option linter.unusedSimpArgs false
namespace Go.Sx
open Go Go.Sort Go.RowKit
theorem v79_ {P:Prop} (h:P:=by
 have hlt:=Qbp_ h1;simp only [hp] at h1⊢;rw [hb.block b hlt];exact h1):P:=h
theorem St.below {W0 w w':World} {H:Heap} {L:List za_} (hS:St W0 H w L) (hb:RowKit.Below w.heap.size w w'):St W0 H w' L:=by
 have keep:∀(g:Heap),g.le (hp w)→g.le (hp w'):=fun g hg b o h=>by
  have h1:=hg b o h;exact v79_
 obtain ⟨h,a,b,c⟩:=hS.own;exact ⟨⟨hb.os.trans hS.env.os,hb.tape.trans hS.env.tape,hb.output.trans hS.env.output⟩,keep _ hS.ro,h,a,keep _ b,c⟩
theorem Zcv_ (w:World) (n:Nat) (os:Array Obj):RowKit.Below w.heap.size w (grow (w.drewN n) os):=⟨rfl,rfl,rfl,by simp [grow],fun k hk=>by simp only [grow];rw [Array.getElem?_append_left (by simpa using hk)];rfl⟩
theorem qbV_ {P:Program} {f:FuncId} {vs:Array Value} {W0:World} {H:Heap} {v:Value} (h:∀w,H.le (hp w)→Calls P f vs w fun e w'=>e= .returned v∧RowKit.Below w.heap.size w w'):Ct P f vs W0 H [] (fun r H' B=>r=v∧B=[]∧H'=H):=by
 intro w R hS;refine (h w hS.ro).mono ?_;rintro e w' ⟨rfl,hb⟩;exact ⟨_,H,[],rfl,.refl _,⟨rfl,rfl,rfl⟩,hS.below hb⟩
theorem qdp_ {P:Program} {f:FuncId} {vs:Array Value} {W0:World} {H:Heap} {K:Value→Prop} (h:∀w,H.le (hp w)→Calls P f vs w fun e w'=>∃v,e= .returned v∧K v∧RowKit.Below w.heap.size w w'):Ct P f vs W0 H [] (fun r H' B=>K r∧B=[]∧H'=H):=by
 intro w R hS;refine (h w hS.ro).mono ?_;rintro e w' ⟨v,rfl,hk,hb⟩;exact ⟨_,H,[],rfl,.refl _,⟨hk,rfl,rfl⟩,hS.below hb⟩
def VarH (P:Program) (H:Heap) (name:String) (cs:List Value):Prop:=∃g T f,P.globalNamed name=some g∧H g=some (.cells cs.toArray T f)
theorem VarH.mono {P:Program} {H H':Heap} {name:String} {cs:List Value} (h:VarH P H name cs) (hl:H.le H'):VarH P H' name cs:=by
 obtain ⟨g,T,f,a,b⟩:=h;exact ⟨g,T,f,a,hl _ _ b⟩
theorem VarH.var {P:Program} {H:Heap} {w:World} {name:String} {cs:List Value} (h:VarH P H name cs) (hl:H.le (hp w)):w.var? P name=some cs.toArray:=by
 obtain ⟨g,T,f,a,b⟩:=h;have hb:=hl _ _ b;simp only [hp] at hb;unfold World.var?;rw [a];simp [hb]
def TabH (P : Program) (H : Heap) : Prop := VarH P H "internal/strconv.uint64pow10" (Lib.pow10Tab.map fun z => Value.int .u64 z)
theorem TabH.mono {P:Program} {H H':Heap} (h:TabH P H) (hl:H.le H'):TabH P H':=VarH.mono h hl
theorem zdF_ {P:Program} {f:FuncId} {W0:World} {H:Heap} {n:Int} (hT:TabH P H) (hn:fits n)
    (hi : ∀ (n : Int) (h0 : -9223372036854775808 ≤ n) (h1 : n ≤ 9223372036854775807) (w : World) (htab : Lib.TabIs P w "internal/strconv.uint64pow10" .u64 Lib.pow10Tab),
      Calls P f #[.int .i64 n] w fun e w'=>e= .returned (.string ⟨(Lib.itoa n).toArray⟩)∧∃k os,w'=grow (w.drewN k) os):
    Ct P f #[.int .i64 n] W0 H [] (fun r H' B=>r= .string (sb (Lib.itoa n))∧B=[]∧H'=H):=
  qbV_ fun w hl=>(hi n hn.1 hn.2 w (VarH.var hT hl)).mono fun e w' ⟨h1,k,os,h2⟩=>⟨h1,h2▸Zcv_ w k os⟩
section
variable {P:Program} {n:Nat} {W0:World} {F:zd_} {H:Heap} {L:List za_} {ty:TypeId} {pos:String} {aft:Array Edge} {g:Option (Nat×Bool)} {dst:Option Tmp}
theorem Qck_ {T:TypeId} {p q:Option Addr} [hT:TPt P T] (h:p=none∨q=none) (w:World):(Op.equal T (.pointer p) (.pointer q)).run P w= .ok (decide (p=q)) w:=by
 obtain ⟨e,he⟩:=hT.ex
 have:∀d,(Op.equalIn (d+1) T (.pointer p) (.pointer q)).run P w= .ok (decide (p=q)) w:=fun d=>by
  cases p<;>cases q
  ·simp [Op.equalIn,run_underlying he]
  ·simp [Op.equalIn,run_underlying he]
  ·simp [Op.equalIn,run_underlying he]
  ·simp at h
 exact this 9999
theorem zbD_ {x y:Operand} {T T':TypeId} {p q:Option Addr} [hT:TPt P T] (hx:opv F x=some (.pointer p)) (hy:opv F y=some (.pointer q)) (h:p=none∨q=none):
  OpP P n W0 ⟨dst,.binOp .neq T x y T',ty,pos,aft,g⟩ F H L (.bool !decide (p=q)):= .mk fun _ w hF _=>by
 have h0:=Qck_ (P:=P) (T:=T) h w;exact v77_
theorem qcw_ {x y:Operand} {T T':TypeId} {p q:Option Addr} [hT:TPt P T] (hx:opv F x=some (.pointer p)) (hy:opv F y=some (.pointer q)) (h:p=none∨q=none):
  OpP P n W0 ⟨dst,.binOp .eql T x y T',ty,pos,aft,g⟩ F H L (.bool (decide (p=q))):= .mk fun _ w hF _=>by
 have h0:=Qck_ (P:=P) (T:=T) h w;exact v77_
end
section
variable {P:Program} {x y:Operand} {T T':TypeId}
instance [TPt P T] {p:Addr}:POp P (.binOp .neq T x y T') [.pointer (some p),.pointer none] True (.bool true):=⟨fun _ h=>(zbD_ (qf_ h).1 (qf_ h).2 (.inr rfl)).cast (by simp)⟩
instance [TPt P T]:POp P (.binOp .neq T x y T') [.pointer none,.pointer none] True (.bool false):=⟨fun _ h=>(zbD_ (qf_ h).1 (qf_ h).2 (.inr rfl)).cast (by simp)⟩
instance [TPt P T]:POp P (.binOp .eql T x y T') [.pointer none,.pointer none] True (.bool true):=⟨fun _ h=>(qcw_ (qf_ h).1 (qf_ h).2 (.inr rfl)).cast (by simp)⟩
end
end Go.Sx
set_option linter.unusedVariables false
set_option linter.unusedSimpArgs false
namespace Go.Sx
open Go
section
variable {P:Program} {x y:Operand} {T T':TypeId} [hT:TBo P T]
theorem QdF_ {n:Nat} {W0:World} {F:zd_} {H:Heap} {L:List za_} {dst:Option Tmp} {ty:TypeId} {pos:String} {aft:Array Edge} {g:Option (Nat×Bool)} {s t:Bool} (hx:opv F x=some (.bool s)) (hy:opv F y=some (.bool t)):OpP P n W0 ⟨dst,.binOp .neq T x y T',ty,pos,aft,g⟩ F H L (.bool (!(s==t))):=
 .mk fun _ w hF _=>by simp only [execOp,hF.opv hx,hF.opv hy];simp [eqGuard_at_bool,binOp,run_equal_bool w T s t hT.und]
instance {s t:Bool}:BOp P (.binOp .neq T x y T') [.bool s,.bool t] (¬s=t) inferInstance:=⟨fun h=>(QdF_ (qf_ h).1 (qf_ h).2).cast (by cases s<;>cases t<;>simp)⟩
end
end Go.Sx
set_option linter.unusedVariables false
set_option linter.unusedSimpArgs false
namespace Go.Sx
open Go
end Go.Sx
set_option linter.unusedVariables false
set_option linter.unusedSimpArgs false
namespace Go.Sx
open Go
theorem zU_ (l:List UInt8):(sb l).data.toList=l:=by simp [sb]
theorem ZdF_ (l:List UInt8) (j:Nat):(sb l).extract 0 j=sb (l.take j):=by
 apply ByteArray.ext;apply Array.ext';rw [Lib.extract_data,zU_,zU_];simp
theorem qdG_ (l:List UInt8) (j:Nat):(sb l).extract j (sb l).size=sb (l.drop j):=by
 apply ByteArray.ext;apply Array.ext';rw [Lib.extract_to_end,zU_,zU_]
theorem qeh_ (s:ByteArray):s=sb s.data.toList:=by simp [sb]
section
variable {P:Program} {x y z c:Operand} {T T':TypeId} {k k':IntKind}
instance {l:List UInt8} {i:Int} {j:Nat} [hT:TSt P T] [hi:NatOf i j]:POp P (.index T x y) [.string (ByteArray.mk l.toArray),.int k i] (j<l.length) (.int .u8 ((l.getD j 0).toNat:Nat)):=⟨fun {n W0 F H L dst ty pos aft g} s h=>by
  obtain ⟨rfl⟩:=hi
  have hu:(sb l)[j]?=some (l.getD j 0):=by
    have:(sb l)[j]?=l[j]?:=by
      show (ByteArray.mk l.toArray)[j]?=_
      by_cases hj:j<l.length
      · rw [List.getElem?_eq_getElem hj,getElem?_pos _ _ (by show j<l.toArray.size;simpa using hj)]
        rfl
      · exact absurd s hj
    rw [this,List.getD,List.getElem?_eq_getElem s];rfl
  exact qcS_ (qf_ h).1 (qf_ h).2 hu⟩
instance {l:List UInt8} {i:Int} {j:Nat} [hT:TSt P T] [hi:NatOf i j]:POp P (.slice T x none (some y) none) [.string (ByteArray.mk l.toArray),.int k i] (j≤l.length) (.string (ByteArray.mk (l.take j).toArray)):=⟨fun {n W0 F H L dst ty pos aft g} s h=> .mk fun _ w hF _=>by
  obtain ⟨rfl⟩:=hi
  have e:(ByteArray.mk l.toArray).extract 0 j=ByteArray.mk (l.take j).toArray:=ZdF_ l j
  have h1:(0:Int)≤(j:Int)∧(j:Int)≤((ByteArray.mk l.toArray).size:Int):=⟨by omega,by show (j:Int)≤((sb l).size:Int);rw [zat_];omega⟩
  have hr:=run_slice_string_to_if (P:=P) w T (ByteArray.mk l.toArray) k j hT.und
  rw [if_pos h1,Int.toNat_natCast,e] at hr
  simp only [execOp,hF.opv (qf_ h).1,Option.map]
  simp only [hF.opv (qf_ h).2]
  simp [Instr.sliceAt,run_underlying hT.und,hr]⟩
instance {l:List UInt8} {i:Int} {j:Nat} [hT:TSt P T] [hi:NatOf i j]:POp P (.slice T x (some y) none none) [.string (ByteArray.mk l.toArray),.int k i] (j≤l.length) (.string (ByteArray.mk (l.drop j).toArray)):=⟨fun {n W0 F H L dst ty pos aft g} s h=> .mk fun _ w hF _=>by
  obtain ⟨rfl⟩:=hi
  have e:(ByteArray.mk l.toArray).extract j (ByteArray.mk l.toArray).size=ByteArray.mk (l.drop j).toArray:=qdG_ l j
  have h1:(0:Int)≤(j:Int)∧(j:Int)≤((ByteArray.mk l.toArray).size:Int):=⟨by omega,by show (j:Int)≤((sb l).size:Int);rw [zat_];omega⟩
  have hr:=run_slice_string_from_if (P:=P) w T (ByteArray.mk l.toArray) k j hT.und
  rw [if_pos h1,Int.toNat_natCast,e] at hr
  simp only [execOp,hF.opv (qf_ h).1,Option.map]
  simp only [hF.opv (qf_ h).2]
  simp [Instr.sliceAt,run_underlying hT.und,hr]⟩
class TIf (P:Program) (t:TypeId):Prop where
  ex:∃ms,P.underlying t=some (.interface ms)
theorem TIf.at {P:Program} {t:TypeId} [h:TIf P t]:P.underlying t=some (.interface (P.methodsAt t)):=by
 obtain ⟨ms,h⟩:=h.ex;unfold Program.methodsAt;rw [h]
instance {u:TypeId} {v:Value} [hT:TIf P T]:POp P (.binOp .eql T x y T') [.iface u v,.nilIface] True (.bool false):=⟨fun {n W0 F H L dst ty pos aft g} _ h=> .mk fun _ w hF _=>by
  simp only [execOp,hF.opv (qf_ h).1,hF.opv (qf_ h).2];simp [eqGuard_at_iface,run_eql_held_nil w T u v TIf.at]⟩
instance {v:Value} [hT:TIf P T]:POp P (.binOp .eql T x (.const v) T') [.nilIface,.nilIface] True (.bool true):=⟨fun {n W0 F H L dst ty pos aft g} _ h=> .mk fun _ w hF _=>by
  simp only [execOp,hF.opv (qf_ h).1,hF.opv (qf_ h).2];simp [eqGuard_nil_constR,run_eql_nil_nil w T TIf.at]⟩
end
end Go.Sx
set_option linter.unusedVariables false
set_option linter.unusedSimpArgs false
namespace Go.Sx
open Go
section
variable {P:Program} {n:Nat} {W0:World} {F:zd_} {H:Heap} {L:List za_} {ty:TypeId} {pos:String} {aft:Array Edge} {g:Option (Nat×Bool)} {dst:Option Tmp} {K:Value→Heap→List za_→Prop}
end
end Go.Sx
set_option linter.unusedVariables false
namespace Go.Sx
open Go
end Go.Sx
