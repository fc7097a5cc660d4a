/- A literal's row, of elements of several cells. No program in sight. -/
import Derived.Test.YtlflbkpmfhhikaaGreatDoorKKD
set_option linter.unusedVariables false
set_option linter.unusedSimpArgs false
namespace Go.Sx
open Go Go.Proofs
section
variable {P:Program} {n:Nat} {W0:World} {Q:Exit→Act→World→Prop} {F:zd_} {H H0 H1:Heap} {L L0 R:List za_} {ops:Array Oper} {rest:List Oper} {k:List Fr} {ty:TypeId} {pos:String} {aft:Array Edge} {κ ν:Type} [DecidableEq κ] {ek:κ→Value} {RV:Rd ν} {sz:Nat} [RdOk RV sz] {ag:Bool} {t tk kt et:TypeId} {b:Nat} {ky:κ} {ms:List (κ×ν)} {val:ν→Value} {z:ν} {d:Tmp} {g:Option (Nat×Bool)} {gv:Option (Value×Bool)} {m fuel:Nat} {listed:Array Bool}
theorem zdw_ {x y:Operand} {kv z:Value} {dst:Option Tmp} {g:Option (Nat×Bool)} [hT:TMap P t kt et] [hV:KeyV ek kv ky] [hK:TKey P kt ek] [hZ:TZ P et z] (hv:opvs F [x,y]=some [.map none,kv]):
  OpP P n W0 ⟨dst,.lookup t x y false,ty,pos,aft,g⟩ F H L z:=QdU_ (κ:=κ) (ek:=ek) (k:=ky) (kt:=kt) (qf_ hv).1 ((qf_ hv).2.trans (congrArg some hV.h))
theorem Qda_ (i:Nat) {m fuel:Nat} {listed:Array Bool} {d:Tmp} {g:Option (Nat×Bool)} {gv:Option (Value×Bool)} {x y:Operand} {kv z:Value} [hT:TMap P t kt et] [hV:KeyV ek kv ky] [hK:TKey P kt ek] [hZ:TZ P et z] (hi:ops[i]?=some ⟨some d,.lookup t x y false,ty,pos,aft,g⟩) (hg:gval ops F g=some gv) [hb:GOk gv true] (hv:opvs F [x,y]=some [.map none,kv])
  (h:AnyO P n W0 Q ((d,z)::F) H H0 L L0 m ops fuel (listed.setIfInBounds i true) k) (hok:Ql_ ops m listed i=true:=by decide+kernel) (hQ:∀v c a w,Kx P Q k (.panic c) (a.put (some d) v) w→Kx P Q k (.panic c) a w:=by exact fun _ _ _ _ h=>h)
  (hl:H0.le H:=by exact Go.Sx.leA) (hsub:Sub L L0:=by exact Go.Sx.subA) (hd:Nat.blt d n=true:=by rfl):AnyO P n W0 Q F H H0 L L0 m ops (fuel+1) listed k:=
 Qo_ i hi hg (zdw_ (κ:=κ) (ek:=ek) (ky:=ky) (kt:=kt) hv) h hok (hQ _) hl hsub hd
end
end Go.Sx
set_option linter.unusedVariables false
set_option linter.unusedSimpArgs false
namespace Go.Sx
open Go Go.Proofs
theorem Qcp_ {P:Program} {ops:Array Oper} {Q:Exit→Act→World→Prop} {m:Nat}:∀(fuel:Nat) (listed:Array Bool) (a:Act) (w:World),wpAny P .any ops Q fuel listed a w→wpP P ops Q (fun _=>True) m fuel listed a w
 | 0,_,_,_,h=>h
 | fuel+1,listed,a,w,h=>by
  unfold wpP;split
  ·exact h
  ·exact ⟨h.1,fun i hi=>wpOp_mono (fun a' w' h'=>⟨trivial,Qcp_ fuel _ a' w' h'⟩) (h.2 i hi)⟩
section
variable {P:Program} {n:Nat} {W0:World} {Q:Exit→Act→World→Prop} {F:zd_} {H:Heap} {L:List za_} {k:List Fr} {ty:TypeId} {pos:String} {aft:Array Edge} {d:Tmp} {v:Value} {x:Operand}
end
section
variable {P:Program} {n:Nat} {W0:World} {Q:Exit→Act→World→Prop} {F:zd_} {H H0:Heap} {L L0:List za_} {m fuel:Nat} {ops:Array Oper} {listed:Array Bool} {k:List Fr} {ty:TypeId} {pos:String} {aft:Array Edge} {d:Tmp} {v:Value} {g:Option (Nat×Bool)} {gv:Option (Value×Bool)}
theorem qdd_ (i:Nat) {t T:TypeId} {x y:Operand} {b len cap sz j:Nat} {kd:IntKind} {ii:Int} [TSl P t T] [TSz P T sz] (hi:ops[i]?=some ⟨some d,.indexAddr t x y,ty,pos,aft,g⟩) (hg:gval ops F g=some gv) [hb:GOk gv true] (hv:opvs F [x,y]=some [.slice (some ⟨b,0,none⟩) len cap,.int kd ii]) [hin:NatOf ii j] (hj:j<len)
  (h:AnyO P n W0 Q ((d,.pointer (some ⟨b,0+(j:Int).toNat*sz,none⟩))::F) H H0 L L0 m ops fuel (listed.setIfInBounds i true) k) (hok:Ql_ ops m listed i=true:=by decide+kernel) (hQ:∀v c a w,Kx P Q k (.panic c) (a.put (some d) v) w→Kx P Q k (.panic c) a w:=by exact fun _ _ _ _ h=>h)
  (hl:H0.le H:=by exact Go.Sx.leA) (hsub:Sub L L0:=by exact Go.Sx.subA) (hd:Nat.blt d n=true:=by rfl):AnyO P n W0 Q F H H0 L L0 m ops (fuel+1) listed k:=by
 obtain ⟨rfl⟩:=hin;exact Qo_ i hi hg (qy_ (i:=(j:Int)) (qf_ hv).1 (qf_ hv).2 (by omega) (by omega)) h hok (hQ _) hl hsub hd
end
section
variable {P:Program} {n:Nat} {W0:World} {Q:Exit→Act→World→Prop} {F:zd_} {H H0:Heap} {L L0:List za_} {m fuel:Nat} {ops:Array Oper} {listed:Array Bool} {k:List Fr} {ty:TypeId} {pos:String} {aft:Array Edge} {d:Tmp} {v:Value} {vs us:List Value}
theorem zA_ (i:Nat) {f:FuncId} {l:List Operand} {ts:Array TypeId} {A R:List za_} {Post:Value→Heap→List za_→Prop} [TFn P f] (hi:ops[i]?=some ⟨some d,.call ⟨.value (.func f),l.toArray,ts⟩,ty,pos,aft,none⟩) (ha:opvs F l=some vs) (hs:Ct P f vs.toArray W0 H A Post)
  (hk:∀r H' B,H.le H'→Post r H' B→Sub (B++R) L0∧AnyO P n W0 Q ((d,r)::F) H' H0 (B++R) L0 m ops fuel (listed.setIfInBounds i true) k) (ht:Take L A R:=by repeat (first | exact Go.Sx.Take.nil | (apply Go.Sx.Take.cons;focus (repeat (first | exact Go.Sx.Has.here | apply Go.Sx.Has.there)))))
  (hl:H0.le H:=by exact Go.Sx.leA) (hd:Nat.blt d n=true:=by rfl):Qaa_ P n W0 F H H0 L L0 m ops (Kx P Q k) fuel listed i:=
 at_w i hi (ZaV_ (Zv_ ha) hs ht fun r H' B h1 h2=>⟨hl.trans h1,(hk r H' B h1 h2).1,(hk r H' B h1 h2).2⟩) hd
theorem Zcp_ (i:Nat) {t T:TypeId} {sz wd:Nat} {z xv:Value} {x:Operand} [hT:TSl P t T] [hI:TIn P T sz wd z] [hS':TSz P T sz] [hZ:TZ P T z] (hi:ops[i]?=some ⟨some d,.buildSlice t 1 #[(0,x)],ty,pos,aft,none⟩) (hx:opv F x=some xv) [hc:CellsI xv us] (hlen:us.length=sz)
  (hk:∀b,Sub (row b T us::L) L0∧AnyO P n W0 Q ((d,.slice (some ⟨b,0,none⟩) 1 1)::F) H H0 (row b T us::L) L0 m ops fuel (listed.setIfInBounds i true) k) (h0:(Nat.blt 0 sz&&Nat.ble sz 1000)=true:=by rfl)
  (hl:H0.le H:=by exact Go.Sx.leA) (hd:Nat.blt d n=true:=by rfl):Qaa_ P n W0 F H H0 L L0 m ops (Kx P Q k) fuel listed i:=
 at_w i hi (Ze_ hx hlen h0 fun b=>⟨hl,(hk b).1,(hk b).2⟩) hd
theorem qca_ (i:Nat) (h:Qaa_ P n W0 F H H0 L L0 m ops (Kx P Q k) fuel listed i) (hr:Region.ready .any ops listed=[i]:=by decide+kernel):AnyO P n W0 Q F H H0 L L0 m ops (fuel+1) listed k:=⟨qbq_ hr h⟩
end
end Go.Sx
set_option linter.unusedVariables false
set_option linter.unusedSimpArgs false
namespace Go.Sx
open Go Go.Proofs
class ZOp (P:Program) (op:Op) (vs:List Value) (v:outParam Value):Prop where
  run:∀{n:Nat} {F:zd_} {a:Act} {dst:Option Tmp} {ty:TypeId} {pos:String} {aft:Array Edge} {g:Option (Nat×Bool)},opvs F (Qae_ op)=some vs→FrOk n a F→∀w,(execOp a.eval ⟨dst,op,ty,pos,aft,g⟩).run P w= .ok (.value v) w
section
variable {P:Program} {x:Operand} {v:Value}
instance :ZOp P (.move x) [v] v:=⟨fun h hF w=>by simp [execOp,hF.opv (zae_ h)]⟩
end
section
variable {P:Program} {n:Nat} {W0:World} {Q:Exit→Act→World→Prop} {F:zd_} {H:Heap} {L:List za_} {k:List Fr} {ty:TypeId} {pos:String} {aft:Array Edge} {d:Tmp} {v:Value} {op:Op} {ops:Array Oper} {fuel:Nat} {listed:Array Bool}
structure AnyZ (P:Program) (n:Nat) (W0:World) (Q:Exit→Act→World→Prop) (F:zd_) (H:Heap) (L:List za_) (ops:Array Oper) (fuel:Nat) (listed:Array Bool) (k:List Fr):Prop where
  run:Sat n W0 F H L (wpAny P .any ops (Kx P Q k) fuel listed)
theorem ex_z [hm:TMix P] {id:Nat} {l:List Oper} (fuel:Nat) (h:AnyZ P n W0 Q F H L l.toArray fuel (Array.replicate l.length false) k) (hlen:l.length=fuel:=by rfl):Ex P n W0 Q F H L (.region id l.toArray true) k:=
 ⟨fun a w hF hS=>wp_region_any hm.h (by
  have:=h.run a w.drew hF (hS.keep (hS.env.of rfl rfl rfl) rfl);rw [←hlen] at this;simpa using this)⟩
theorem Zec_ (m:Nat) (L0:List za_) (h:AnyO P n W0 Q F H H L L0 m ops fuel listed k):AnyZ P n W0 Q F H L ops fuel listed k:=⟨fun a w hF hS=>QaF_ _ _ _ _ (h.run a w hF hS)⟩
theorem Qcq_ (i:Nat) {vs:List Value} (hi:ops[i]?=some ⟨some d,op,ty,pos,aft,none⟩) (hv:opvs F (Qae_ op)=some vs) [hz:ZOp P op vs v] (h:AnyZ P n W0 Q ((d,v)::F) H L ops fuel (listed.setIfInBounds i true) k) (hok:Ql_ ops ops.size listed i=true:=by decide+kernel)
  (hQ:∀v c a w,Kx P Q k (.panic c) (a.put (some d) v) w→Kx P Q k (.panic c) a w:=by exact fun _ _ _ _ h=>h) (hd:Nat.blt d n=true:=by rfl):AnyZ P n W0 Q F H L ops (fuel+1) listed k:=⟨fun a w hF hS=>by
 refine QaF_ _ _ _ _ (S:=fun _=>True) (m:=ops.size) ?_;have g2:=Qcp_ (m:=ops.size) _ _ _ _ (h.run _ w (hF.put hd v) hS);simp only [Ql_,Bool.and_eq_true,Nat.blt_eq] at hok;obtain ⟨⟨⟨⟨⟨h1,h2⟩,h3⟩,h4⟩,h5⟩,h6⟩:=hok;exact Qaf_ (P:=P) (S:=fun _=>True) hi h5 (Region.noSelect_spec h1) (hQ v) fuel _ a w h4 h6 (Region.free_spec hi h2) (by simpa using h3) (.inl ⟨by simp [Region.wanted],fun w' _=>hz.run hv hF w'⟩) trivial g2⟩
end
end Go.Sx
set_option linter.unusedVariables false
set_option linter.unusedSimpArgs false
namespace Go.Sx
open Go Go.Proofs
section
variable {P:Program} {n:Nat} {W0:World} {Q:Exit→Act→World→Prop} {F:zd_} {H H0:Heap} {L L0:List za_} {m fuel:Nat} {ops:Array Oper} {listed:Array Bool} {k:List Fr} {d:Tmp} {ty:TypeId} {pos:String} {aft:Array Edge} {op:Op}
end
end Go.Sx
set_option linter.unusedVariables false
set_option linter.unusedSimpArgs false
namespace Go.Sx
open Go
theorem setRow (base:Nat):∀(l:List Value) (i:Nat) (arr:List Value),base+i+l.length≤arr.length→(l.zipIdx i).foldl (fun (cs:Array Value) (p:Value×Nat)=>cs.setIfInBounds (base+p.2) p.1) arr.toArray=(arr.take (base+i)++l++arr.drop (base+i+l.length)).toArray
 | [],i,arr,_=>by simp
 | c::l,i,arr,hl=>by
  simp only [List.length_cons] at hl;simp only [List.zipIdx_cons,List.foldl_cons,List.setIfInBounds_toArray];rw [setRow base l (i+1) (arr.set (base+i) c) (by simp;omega)];congr 1;rw [List.drop_set_of_lt (by omega),show base+(i+1)=base+i+1 by omega]
  have e1:(arr.set (base+i) c).take (base+i+1)=arr.take (base+i)++[c]:=by
   rw [List.take_add_one,List.getElem?_set_self (by omega),List.take_set_of_le (by omega)];simp
  rw [e1];simp only [List.length_cons,List.append_assoc,List.singleton_append,List.cons_append,List.nil_append];rw [show base+i+1+l.length=base+i+(l.length+1) by omega]
def CLs (sz:Nat):List Value→List (List Value)→Prop
  | [],[]=>True
  | v::vs,cs::css=>(v.cells=cs.toArray∧cs.length=sz)∧CLs sz vs css
  | _,_=>False
theorem zeb_ (sz:Nat):∀(vs:List Value) (css:List (List Value)) (i:Nat) (arr:List Value),CLs sz vs css→i*sz+vs.length*sz≤arr.length→Instr.fill (fun i=>some (i*sz,sz)) arr.toArray ((vs.zipIdx i).map fun p=>(p.2,p.1))=some (arr.take (i*sz)++css.flatten++arr.drop (i*sz+vs.length*sz)).toArray
 | [],[],i,arr,_,_=>by simp [Instr.fill]
 | [],_::_,_,_,h,_=>h.elim
 | _::_,[],_,_,h,_=>h.elim
 | v::vs,cs::css,i,arr,⟨⟨hc,hl⟩,h⟩,hle=>by
  simp only [List.length_cons,Nat.succ_mul] at hle;simp only [List.zipIdx_cons,List.map_cons,Instr.fill,hc];rw [if_neg (by simp;omega)];have hs:=setRow (i*sz) cs 0 arr (by omega);simp only [Nat.add_zero] at hs
  have e0:(cs.toArray:Array Value).zipIdx.foldl (fun (a:Array Value) (x:Value×Nat)=>match x with | (c,j)=>a.setIfInBounds (i*sz+j) c) arr.toArray=(cs.zipIdx 0).foldl (fun (a:Array Value) (p:Value×Nat)=>a.setIfInBounds (i*sz+p.2) p.1) arr.toArray:=by
   simp
  rw [e0,hs];have hlen:(arr.take (i*sz)++cs++arr.drop (i*sz+cs.length)).length=arr.length:=by simp;omega
  rw [zeb_ sz vs css (i+1) _ h (by rw [hlen,Nat.succ_mul];omega)];congr 2;have t1:(arr.take (i*sz)).length=i*sz:=by simp;omega
  rw [Nat.succ_mul]
  have e1:(arr.take (i*sz)++cs++arr.drop (i*sz+cs.length)).take (i*sz+sz)=arr.take (i*sz)++cs:=by
   rw [List.take_append_of_le_length (by simp;omega),List.take_of_length_le (by simp;omega)]
  have e2:(arr.take (i*sz)++cs++arr.drop (i*sz+cs.length)).drop (i*sz+sz+vs.length*sz)=arr.drop (i*sz+(vs.length*sz+sz)):=by
   rw [List.drop_append,List.drop_eq_nil_of_le (by simp;omega),List.nil_append,List.drop_drop];congr 1;simp only [List.length_append,t1,hl];omega
  rw [e1,e2];simp [Nat.succ_mul]
section
variable {P:Program} {n:Nat} {W0:World} {F:zd_} {H:Heap} {L:List za_} {K:Value→Heap→List za_→Prop} {dst:Option Tmp} {ty:TypeId} {pos:String} {aft:Array Edge} {g:Option (Nat×Bool)}
theorem Qeb_ {t e:TypeId} {z:Value} {m sz:Nat} {ps:List (Nat×Operand)} {vs:List Value} (css:List (List Value)) [hT:TSl P t e] [hS':TSz P e sz] [hZ:TZ P e z] (hx:zaJ_ F 0 ps=some vs) (h1:CLs sz vs css) (hm:vs.length=m) (hz:z.cells.size=sz) (h0:(Nat.blt 0 (m*sz)&&Nat.ble (m*sz) 1000)=true)
  (hk:∀b,H b=none→K (.slice (some ⟨b,0,none⟩) m m) H (row b e css.flatten::L)):OpW P n W0 ⟨dst,.buildSlice t m ps.toArray,ty,pos,aft,g⟩ F H L K:=
 .of_run fun a w hF hS=>by
  have hs:St W0 H (w.alloc (.cells css.flatten.toArray e)) (row w.heap.size e css.flatten::L):=hS.alloc (hS.env.of rfl rfl rfl) rfl;refine ⟨_,H,_,_,?_,.refl _,hk _ hs.ptRead.2,hs⟩;have h0:0<m*sz∧m*sz≤1000:=by simpa using h0
  have hsz:sz≠0:=fun h=>by subst h;simp at h0
  have hmz:m≠0:=fun h=>by subst h;simp at h0
  have hms:m*sz≠0:=by omega
  have hm1:m≤m*sz:=Nat.le_mul_of_pos_right _ (by omega);have hfill:=zeb_ sz vs css 0 ((List.range (m*sz)).map (fun i=>z.cells[i % z.cells.size]!)) h1 (by simp [hm]);have hd:((List.range (m*sz)).map (fun i=>z.cells[i % z.cells.size]!)).drop (0*sz+vs.length*sz)=[]:=List.drop_eq_nil_of_le (by simp [hm]);rw [hd] at hfill;simp only [Nat.zero_mul,List.take_zero,List.nil_append,List.append_nil] at hfill
  have e2:((Array.range (m*sz)).map (fun i=>z.cells[i % z.cells.size]!))=((List.range (m*sz)).map (fun i=>z.cells[i % z.cells.size]!)).toArray:=by
   apply Array.ext';simp [Array.toList_range]
  rw [←e2] at hfill;have hp:=Zas_ hF hx;have hp3:(ps.map fun x=>(x.1,a.eval x.2))=(vs.zipIdx 0).map fun p=>(p.2,p.1):=hp;simp only [execOp];simp [Instr.buildSlice,run_underlying hT.und,hS'.run,hmz,hsz,hZ.run,newRow];rw [if_neg (by omega)];simp only [hp3,hfill];simp [hms]
  try exact fun h=>absurd h hms
end
section
variable {P:Program} {n:Nat} {W0:World} {Q:Exit→Act→World→Prop} {F:zd_} {H:Heap} {L:List za_} {ops:Array Oper} {rest:List Oper} {k:List Fr} {ty:TypeId} {pos:String} {aft:Array Edge} {d:Tmp} {g:Option (Nat×Bool)} {gv:Option (Value×Bool)} {t e:TypeId} {z:Value} {ml sz:Nat} {ps:List (Nat×Operand)} {vs:List Value}
theorem Zde_ (css:List (List Value)) [hT:TSl P t e] [hS':TSz P e sz] [hZ:TZ P e z] (hg:gval ops F g=some gv) [hb:GOk gv true] (hx:zaJ_ F 0 ps=some vs) (h1:CLs sz vs css) (hk:∀b,H b=none→Ops P n W0 Q ((d,.slice (some ⟨b,0,none⟩) ml ml)::F) H (row b e css.flatten::L) false ops rest k)
  (hm:vs.length=ml:=by rfl) (hz:z.cells.size=sz:=by rfl) (h0:(Nat.blt 0 (ml*sz)&&Nat.ble (ml*sz) 1000)=true:=by rfl) (hd:Nat.blt d n=true:=by rfl):Ops P n W0 Q F H L false ops (⟨some d,.buildSlice t ml ps.toArray,ty,pos,aft,g⟩::rest) k:=
 qI_ hg hd (Qeb_ css hx h1 hm hz h0 hk)
end
end Go.Sx
