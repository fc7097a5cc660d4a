/- A coordinator: what is said again by an open one, its parts kept apart. -/
import Derived.Test.YtlflbkpmfhhikaaGreatDoorJKD
import Derived.Test.YtlflbkpmfhhikaaGreatDoorJTH
set_option linter.unusedVariables false
set_option linter.unusedSimpArgs false
namespace Go.Sx
open Go Go.Proofs
section
variable {P:Program} {n:Nat} {W0:World} {Q:Exit→Act→World→Prop} {F:Qd_} {H H0 H1:Heap} {L L0 R:List za_} {ops:Array Oper} {rest:List Oper} {k:List Fr} {ty:TypeId} {pos:String} {aft:Array Edge} {κ ν:Type} [DecidableEq κ] {ek:κ→Value} {RV:Rd ν} {sz:Nat} [RdOk RV sz] {ag:Bool} {t tk kt et:TypeId} {b:Nat} {ky:κ} {ms:List (κ×ν)} {val:ν→Value} {z:ν} {d:Tmp} {g:Option (Nat×Bool)} {gv:Option (Value×Bool)} {m fuel:Nat} {listed:Array Bool}
theorem ZdN_ {x y:Operand} {kv z:Value} {dst:Option Tmp} {g:Option (Nat×Bool)} [hT:TMap P t kt et] [hV:KeyV ek kv ky] [hK:TKey P kt ek] [hZ:TZ P et z] (hv:opvs F [x,y]=some [.map none,kv]):
  OpP P n W0 ⟨dst,.lookup t x y false,ty,pos,aft,g⟩ F H L z:=qej_ (κ:=κ) (ek:=ek) (k:=ky) (kt:=kt) (Qf_ hv).1 ((Qf_ hv).2.trans (congrArg some hV.h))
theorem qds_ (i:Nat) {m fuel:Nat} {listed:Array Bool} {d:Tmp} {g:Option (Nat×Bool)} {gv:Option (Value×Bool)} {x y:Operand} {kv z:Value} [hT:TMap P t kt et] [hV:KeyV ek kv ky] [hK:TKey P kt ek] [hZ:TZ P et z] (hi:ops[i]?=some ⟨some d,.lookup t x y false,ty,pos,aft,g⟩) (hg:gval ops F g=some gv) [hb:GOk gv true] (hv:opvs F [x,y]=some [.map none,kv])
  (h:AnyO P n W0 Q ((d,z)::F) H H0 L L0 m ops fuel (listed.setIfInBounds i true) k) (hok:zl_ ops m listed i=true:=by decide+kernel) (hQ:∀v c a w,Kx P Q k (.panic c) (a.put (some d) v) w→Kx P Q k (.panic c) a w:=by exact fun _ _ _ _ h=>h)
  (hl:H0.le H:=by exact Go.Sx.leA) (hsub:Sub L L0:=by exact Go.Sx.subA) (hd:Nat.blt d n=true:=by rfl):AnyO P n W0 Q F H H0 L L0 m ops (fuel+1) listed k:=
 Zo_ i hi hg (ZdN_ (κ:=κ) (ek:=ek) (ky:=ky) (kt:=kt) hv) h hok (hQ _) hl hsub hd
end
end Go.Sx
set_option linter.unusedVariables false
set_option linter.unusedSimpArgs false
namespace Go.Sx
open Go Go.Proofs
theorem qcH_ {P:Program} {ops:Array Oper} {Q:Exit→Act→World→Prop} {m:Nat}:∀(fuel:Nat) (listed:Array Bool) (a:Act) (w:World),wpAny P .any ops Q fuel listed a w→wpP P ops Q (fun _=>True) m fuel listed a w
 | 0,_,_,_,h=>h
 | fuel+1,listed,a,w,h=>by
  unfold wpP;split
  ·exact h
  ·exact ⟨h.1,fun i hi=>wpOp_mono (fun a' w' h'=>⟨trivial,qcH_ fuel _ a' w' h'⟩) (h.2 i hi)⟩
section
variable {P:Program} {n:Nat} {W0:World} {Q:Exit→Act→World→Prop} {F:Qd_} {H:Heap} {L:List za_} {k:List Fr} {ty:TypeId} {pos:String} {aft:Array Edge} {d:Tmp} {v:Value} {x:Operand}
end
section
variable {P:Program} {n:Nat} {W0:World} {Q:Exit→Act→World→Prop} {F:Qd_} {H H0:Heap} {L L0:List za_} {m fuel:Nat} {ops:Array Oper} {listed:Array Bool} {k:List Fr} {ty:TypeId} {pos:String} {aft:Array Edge} {d:Tmp} {v:Value} {g:Option (Nat×Bool)} {gv:Option (Value×Bool)}
theorem qcr_ (i:Nat) {t T:TypeId} {x y:Operand} {b len cap sz j:Nat} {kd:IntKind} {ii:Int} [TSl P t T] [TSz P T sz] (hi:ops[i]?=some ⟨some d,.indexAddr t x y,ty,pos,aft,g⟩) (hg:gval ops F g=some gv) [hb:GOk gv true] (hv:opvs F [x,y]=some [.slice (some ⟨b,0,none⟩) len cap,.int kd ii]) [hin:NatOf ii j] (hj:j<len)
  (h:AnyO P n W0 Q ((d,.pointer (some ⟨b,0+(j:Int).toNat*sz,none⟩))::F) H H0 L L0 m ops fuel (listed.setIfInBounds i true) k) (hok:zl_ ops m listed i=true:=by decide+kernel) (hQ:∀v c a w,Kx P Q k (.panic c) (a.put (some d) v) w→Kx P Q k (.panic c) a w:=by exact fun _ _ _ _ h=>h)
  (hl:H0.le H:=by exact Go.Sx.leA) (hsub:Sub L L0:=by exact Go.Sx.subA) (hd:Nat.blt d n=true:=by rfl):AnyO P n W0 Q F H H0 L L0 m ops (fuel+1) listed k:=by
 obtain ⟨rfl⟩:=hin;exact Zo_ i hi hg (Qy_ (i:=(j:Int)) (Qf_ hv).1 (Qf_ hv).2 (by omega) (by omega)) h hok (hQ _) hl hsub hd
end
section
variable {P:Program} {n:Nat} {W0:World} {Q:Exit→Act→World→Prop} {F:Qd_} {H H0:Heap} {L L0:List za_} {m fuel:Nat} {ops:Array Oper} {listed:Array Bool} {k:List Fr} {ty:TypeId} {pos:String} {aft:Array Edge} {d:Tmp} {v:Value} {vs us:List Value}
theorem Zt_ (i:Nat) {f:FuncId} {l:List Operand} {ts:Array TypeId} {A R:List za_} {Post:Value→Heap→List za_→Prop} [TFn P f] (hi:ops[i]?=some ⟨some d,.call ⟨.value (.func f),l.toArray,ts⟩,ty,pos,aft,none⟩) (ha:opvs F l=some vs) (hs:Ct P f vs.toArray W0 H A Post)
  (hk:∀r H' B,H.le H'→Post r H' B→Sub (B++R) L0∧AnyO P n W0 Q ((d,r)::F) H' H0 (B++R) L0 m ops fuel (listed.setIfInBounds i true) k) (ht:Take L A R:=by repeat (first | exact Go.Sx.Take.nil | (apply Go.Sx.Take.cons;focus (repeat (first | exact Go.Sx.Has.here | apply Go.Sx.Has.there)))))
  (hl:H0.le H:=by exact Go.Sx.leA) (hd:Nat.blt d n=true:=by rfl):ZY_ P n W0 F H H0 L L0 m ops (Kx P Q k) fuel listed i:=
 at_w i hi (QaY_ (Qw_ ha) hs ht fun r H' B h1 h2=>⟨hl.trans h1,(hk r H' B h1 h2).1,(hk r H' B h1 h2).2⟩) hd
theorem Zbp_ (i:Nat) (h:ZY_ P n W0 F H H0 L L0 m ops (Kx P Q k) fuel listed i) (hr:Region.ready .any ops listed=[i]:=by decide+kernel):AnyO P n W0 Q F H H0 L L0 m ops (fuel+1) listed k:=⟨Qbx_ hr h⟩
end
end Go.Sx
set_option linter.unusedVariables false
set_option linter.unusedSimpArgs false
namespace Go.Sx
open Go Go.Proofs
class ZOp (P:Program) (op:Op) (vs:List Value) (v:outParam Value):Prop where
  run:∀{n:Nat} {F:Qd_} {a:Act} {dst:Option Tmp} {ty:TypeId} {pos:String} {aft:Array Edge} {g:Option (Nat×Bool)},opvs F (qag_ op)=some vs→FrOk n a F→∀w,(execOp a.eval ⟨dst,op,ty,pos,aft,g⟩).run P w= .ok (.value v) w
section
variable {P:Program} {x:Operand} {v:Value}
instance :ZOp P (.move x) [v] v:=⟨fun h hF w=>by simp [execOp,hF.opv (Zaf_ h)]⟩
end
section
variable {P:Program} {n:Nat} {W0:World} {Q:Exit→Act→World→Prop} {F:Qd_} {H:Heap} {L:List za_} {k:List Fr} {ty:TypeId} {pos:String} {aft:Array Edge} {d:Tmp} {v:Value} {op:Op} {ops:Array Oper} {fuel:Nat} {listed:Array Bool}
structure AnyZ (P:Program) (n:Nat) (W0:World) (Q:Exit→Act→World→Prop) (F:Qd_) (H:Heap) (L:List za_) (ops:Array Oper) (fuel:Nat) (listed:Array Bool) (k:List Fr):Prop where
  run:Sat n W0 F H L (wpAny P .any ops (Kx P Q k) fuel listed)
theorem ex_z [hm:TMix P] {id:Nat} {l:List Oper} (fuel:Nat) (h:AnyZ P n W0 Q F H L l.toArray fuel (Array.replicate l.length false) k) (hlen:l.length=fuel:=by rfl):Ex P n W0 Q F H L (.region id l.toArray true) k:=
 ⟨fun a w hF hS=>wp_region_any hm.h (by
  have:=h.run a w.drew hF (hS.keep (hS.env.of rfl rfl rfl) rfl);rw [←hlen] at this;simpa using this)⟩
theorem qef_ (m:Nat) (L0:List za_) (h:AnyO P n W0 Q F H H L L0 m ops fuel listed k):AnyZ P n W0 Q F H L ops fuel listed k:=⟨fun a w hF hS=>ZaJ_ _ _ _ _ (h.run a w hF hS)⟩
theorem zcH_ (i:Nat) {vs:List Value} (hi:ops[i]?=some ⟨some d,op,ty,pos,aft,none⟩) (hv:opvs F (qag_ op)=some vs) [hz:ZOp P op vs v] (h:AnyZ P n W0 Q ((d,v)::F) H L ops fuel (listed.setIfInBounds i true) k) (hok:zl_ ops ops.size listed i=true:=by decide+kernel)
  (hQ:∀v c a w,Kx P Q k (.panic c) (a.put (some d) v) w→Kx P Q k (.panic c) a w:=by exact fun _ _ _ _ h=>h) (hd:Nat.blt d n=true:=by rfl):AnyZ P n W0 Q F H L ops (fuel+1) listed k:=⟨fun a w hF hS=>by
 refine ZaJ_ _ _ _ _ (S:=fun _=>True) (m:=ops.size) ?_;have g2:=qcH_ (m:=ops.size) _ _ _ _ (h.run _ w (hF.put hd v) hS);simp only [zl_,Bool.and_eq_true,Nat.blt_eq] at hok;obtain ⟨⟨⟨⟨⟨h1,h2⟩,h3⟩,h4⟩,h5⟩,h6⟩:=hok;exact Qah_ (P:=P) (S:=fun _=>True) hi h5 (Region.noSelect_spec h1) (hQ v) fuel _ a w h4 h6 (Region.free_spec hi h2) (by simpa using h3) (.inl ⟨by simp [Region.wanted],fun w' _=>hz.run hv hF w'⟩) trivial g2⟩
end
end Go.Sx
set_option linter.unusedVariables false
set_option linter.unusedSimpArgs false
namespace Go.Sx
open Go Go.Proofs
section
variable {P:Program} {n:Nat} {W0:World} {Q:Exit→Act→World→Prop} {F:Qd_} {H H0:Heap} {L L0:List za_} {m fuel:Nat} {ops:Array Oper} {listed:Array Bool} {k:List Fr} {d:Tmp} {ty:TypeId} {pos:String} {aft:Array Edge} {op:Op}
theorem zeA_ (i:Nat) {g:Option (Nat×Bool)} {gv:Option (Value×Bool)} (hi:ops[i]?=some ⟨some d,op,ty,pos,aft,g⟩) (hg:gval ops F g=some gv) [hb:GOk gv true] (h:OpW P n W0 ⟨some d,op,ty,pos,aft,g⟩ F H L (fun v H' L'=>H0.le H'∧Sub L' L0∧AnyO P n W0 Q ((d,v)::F) H' H0 L' L0 m ops fuel (listed.setIfInBounds i true) k)) (hd:Nat.blt d n=true:=by rfl):
  ZY_ P n W0 F H H0 L L0 m ops (Kx P Q k) fuel listed i:=fun a w hF hS=>by
 unfold wpOp;simp only [hi];rw [if_pos (Zbw_ hg hF)];exact .inl (h a w _ (Kx P Q k) hF hS fun v H' L' w' _ ⟨h1,h2,h3⟩ hs=>⟨(hs.weak h1).sub h2,h3.run _ _ (hF.put hd v) hs⟩)
theorem qbI_ (i:Nat) {g:Option (Nat×Bool)} {gv:Option (Value×Bool)} {t T:TypeId} {sz wd:Nat} {z xv:Value} {us:List Value} {x:Operand} [hT:TSl P t T] [hI:TIn P T sz wd z] [hS':TSz P T sz] [hZ:TZ P T z] (hi:ops[i]?=some ⟨some d,.buildSlice t 1 #[(0,x)],ty,pos,aft,g⟩) (hg:gval ops F g=some gv) [hb:GOk gv true] (hx:opv F x=some xv) [hc:CellsI xv us] (hlen:us.length=sz)
  (hk:∀b,Sub (row b T us::L) L0∧AnyO P n W0 Q ((d,.slice (some ⟨b,0,none⟩) 1 1)::F) H H0 (row b T us::L) L0 m ops fuel (listed.setIfInBounds i true) k) (hl:H0.le H) (h0:(Nat.blt 0 sz&&Nat.ble sz 1000)=true:=by rfl) (hd:Nat.blt d n=true:=by rfl):
  ZY_ P n W0 F H H0 L L0 m ops (Kx P Q k) fuel listed i:=
 zeA_ i hi hg (Ze_ hx hlen h0 fun b=>⟨hl,(hk b).1,(hk b).2⟩) hd
end
end Go.Sx
set_option linter.unusedVariables false
set_option linter.unusedSimpArgs false
namespace Go.Sx
open Go
theorem setRow (base:Nat):∀(l:List Value) (i:Nat) (arr:List Value),base+i+l.length≤arr.length→(l.zipIdx i).foldl (fun (cs:Array Value) (p:Value×Nat)=>cs.setIfInBounds (base+p.2) p.1) arr.toArray=(arr.take (base+i)++l++arr.drop (base+i+l.length)).toArray
 | [],i,arr,_=>by simp
 | c::l,i,arr,hl=>by
  simp only [List.length_cons] at hl;simp only [List.zipIdx_cons,List.foldl_cons,List.setIfInBounds_toArray];rw [setRow base l (i+1) (arr.set (base+i) c) (by simp;omega)];congr 1;rw [List.drop_set_of_lt (by omega),show base+(i+1)=base+i+1 by omega]
  have e1:(arr.set (base+i) c).take (base+i+1)=arr.take (base+i)++[c]:=by
   rw [List.take_add_one,List.getElem?_set_self (by omega),List.take_set_of_le (by omega)];simp
  rw [e1];simp only [List.length_cons,List.append_assoc,List.singleton_append,List.cons_append,List.nil_append];rw [show base+i+1+l.length=base+i+(l.length+1) by omega]
def CLs (sz:Nat):List Value→List (List Value)→Prop
  | [],[]=>True
  | v::vs,cs::css=>(v.cells=cs.toArray∧cs.length=sz)∧CLs sz vs css
  | _,_=>False
theorem zeu_ (sz:Nat):∀(vs:List Value) (css:List (List Value)) (i:Nat) (arr:List Value),CLs sz vs css→i*sz+vs.length*sz≤arr.length→Instr.fill (fun i=>some (i*sz,sz)) arr.toArray ((vs.zipIdx i).map fun p=>(p.2,p.1))=some (arr.take (i*sz)++css.flatten++arr.drop (i*sz+vs.length*sz)).toArray
 | [],[],i,arr,_,_=>by simp [Instr.fill]
 | [],_::_,_,_,h,_=>h.elim
 | _::_,[],_,_,h,_=>h.elim
 | v::vs,cs::css,i,arr,⟨⟨hc,hl⟩,h⟩,hle=>by
  simp only [List.length_cons,Nat.succ_mul] at hle;simp only [List.zipIdx_cons,List.map_cons,Instr.fill,hc];rw [if_neg (by simp;omega)];have hs:=setRow (i*sz) cs 0 arr (by omega);simp only [Nat.add_zero] at hs
  have e0:(cs.toArray:Array Value).zipIdx.foldl (fun (a:Array Value) (x:Value×Nat)=>match x with | (c,j)=>a.setIfInBounds (i*sz+j) c) arr.toArray=(cs.zipIdx 0).foldl (fun (a:Array Value) (p:Value×Nat)=>a.setIfInBounds (i*sz+p.2) p.1) arr.toArray:=by
   simp
  rw [e0,hs];have hlen:(arr.take (i*sz)++cs++arr.drop (i*sz+cs.length)).length=arr.length:=by simp;omega
  rw [zeu_ sz vs css (i+1) _ h (by rw [hlen,Nat.succ_mul];omega)];congr 2;have t1:(arr.take (i*sz)).length=i*sz:=by simp;omega
  rw [Nat.succ_mul]
  have e1:(arr.take (i*sz)++cs++arr.drop (i*sz+cs.length)).take (i*sz+sz)=arr.take (i*sz)++cs:=by
   rw [List.take_append_of_le_length (by simp;omega),List.take_of_length_le (by simp;omega)]
  have e2:(arr.take (i*sz)++cs++arr.drop (i*sz+cs.length)).drop (i*sz+sz+vs.length*sz)=arr.drop (i*sz+(vs.length*sz+sz)):=by
   rw [List.drop_append,List.drop_eq_nil_of_le (by simp;omega),List.nil_append,List.drop_drop];congr 1;simp only [List.length_append,t1,hl];omega
  rw [e1,e2];simp [Nat.succ_mul]
section
variable {P:Program} {n:Nat} {W0:World} {F:Qd_} {H:Heap} {L:List za_} {K:Value→Heap→List za_→Prop} {dst:Option Tmp} {ty:TypeId} {pos:String} {aft:Array Edge} {g:Option (Nat×Bool)}
theorem Qeu_ {t e:TypeId} {z:Value} {m sz:Nat} {ps:List (Nat×Operand)} {vs:List Value} (css:List (List Value)) [hT:TSl P t e] [hS':TSz P e sz] [hZ:TZ P e z] (hx:qaP_ F 0 ps=some vs) (h1:CLs sz vs css) (hm:vs.length=m) (hz:z.cells.size=sz) (h0:(Nat.blt 0 (m*sz)&&Nat.ble (m*sz) 1000)=true)
  (hk:∀b,H b=none→K (.slice (some ⟨b,0,none⟩) m m) H (row b e css.flatten::L)):OpW P n W0 ⟨dst,.buildSlice t m ps.toArray,ty,pos,aft,g⟩ F H L K:=
 .of_run fun a w hF hS=>by
  have hs:St W0 H (w.alloc (.cells css.flatten.toArray e)) (row w.heap.size e css.flatten::L):=hS.alloc (hS.env.of rfl rfl rfl) rfl;refine ⟨_,H,_,_,?_,.refl _,hk _ hs.ptRead.2,hs⟩;have h0:0<m*sz∧m*sz≤1000:=by simpa using h0
  have hsz:sz≠0:=fun h=>by subst h;simp at h0
  have hmz:m≠0:=fun h=>by subst h;simp at h0
  have hms:m*sz≠0:=by omega
  have hm1:m≤m*sz:=Nat.le_mul_of_pos_right _ (by omega);have hfill:=zeu_ sz vs css 0 ((List.range (m*sz)).map (fun i=>z.cells[i % z.cells.size]!)) h1 (by simp [hm]);have hd:((List.range (m*sz)).map (fun i=>z.cells[i % z.cells.size]!)).drop (0*sz+vs.length*sz)=[]:=List.drop_eq_nil_of_le (by simp [hm]);rw [hd] at hfill;simp only [Nat.zero_mul,List.take_zero,List.nil_append,List.append_nil] at hfill
  have e2:((Array.range (m*sz)).map (fun i=>z.cells[i % z.cells.size]!))=((List.range (m*sz)).map (fun i=>z.cells[i % z.cells.size]!)).toArray:=by
   apply Array.ext';simp [Array.toList_range]
  rw [←e2] at hfill;have hp:=qaw_ hF hx;have hp3:(ps.map fun x=>(x.1,a.eval x.2))=(vs.zipIdx 0).map fun p=>(p.2,p.1):=hp;simp only [execOp];simp [Instr.buildSlice,run_underlying hT.und,hS'.run,hmz,hsz,hZ.run,newRow];rw [if_neg (by omega)];simp only [hp3,hfill];simp [hms]
  try exact fun h=>absurd h hms
end
section
variable {P:Program} {n:Nat} {W0:World} {Q:Exit→Act→World→Prop} {F:Qd_} {H:Heap} {L:List za_} {ops:Array Oper} {rest:List Oper} {k:List Fr} {ty:TypeId} {pos:String} {aft:Array Edge} {d:Tmp} {g:Option (Nat×Bool)} {gv:Option (Value×Bool)} {t e:TypeId} {z:Value} {ml sz:Nat} {ps:List (Nat×Operand)} {vs:List Value}
theorem qdz_ (css:List (List Value)) [hT:TSl P t e] [hS':TSz P e sz] [hZ:TZ P e z] (hg:gval ops F g=some gv) [hb:GOk gv true] (hx:qaP_ F 0 ps=some vs) (h1:CLs sz vs css) (hk:∀b,H b=none→Ops P n W0 Q ((d,.slice (some ⟨b,0,none⟩) ml ml)::F) H (row b e css.flatten::L) false ops rest k)
  (hm:vs.length=ml:=by rfl) (hz:z.cells.size=sz:=by rfl) (h0:(Nat.blt 0 (ml*sz)&&Nat.ble (ml*sz) 1000)=true:=by rfl) (hd:Nat.blt d n=true:=by rfl):Ops P n W0 Q F H L false ops (⟨some d,.buildSlice t ml ps.toArray,ty,pos,aft,g⟩::rest) k:=
 ZK_ hg hd (Qeu_ css hx h1 hm hz h0 hk)
end
end Go.Sx
set_option maxHeartbeats 16000000
set_option maxRecDepth 100000
set_option linter.unusedVariables false
set_option linter.unusedSimpArgs false
namespace Go.Proofs.YtlflbkpmfhhikaaGreatDoor
open Go Go.Sx Go.Proofs
theorem zbU_ {W0:World} {H:Heap} {node life:Int}:
  Ct Tryz.prog 34 #[I node,I life] W0 H [] (fun r H' B=>∃p,r= .pointer (some ⟨p,0,none⟩)∧B=[zh_ H p ⟨node,life,0,[]⟩]∧H'=H):=by
 refine Ct.go (vs:=[I node,I life]) fun R=>?_;refine walk ?_;refine Qt_ ek3 rVal false rfl fun mb _=>?_;refine walk ?_;refine qc_ rfl rfl fun p _=>?_;refine walk ?_;refine finB [zh_ H p ⟨node,life,0,[]⟩] ?_ (hs:=?_)
 ·exact ⟨p,rfl,rfl,rfl⟩
 ·refine Sub.trans (B:=mapO ek3 rVal false H mb []::row p 160 [I node,I life,I 0,.map (some mb)]::R) subA ?_;refine Sub.trans (show Sub _ (cMap mb []::row p 160 [I node,I life,I 0,.map (some mb)]::R) from fun h ⟨h1,h2,a,r⟩=>⟨h1,h2,zdj_ a,r⟩) ?_;refine Sub.trans (ZbA_ (A:=xA H)) ?_;refine Sub.trans ?_ (qE_ (mb:=mb) (zs:=[]) (s:=⟨node,life,0,[]⟩) rfl);exact subA
theorem TX.hd0 {t:TX} (hv:∀q∈t.heard,q.2=1) (p:Int):((mget p t.heard).getD 0=0)↔t.hd p=false:=by
 unfold TX.hd
 cases hg:mget p t.heard with
 | none=>simp
 | some v=>
  have:=hv _ (qu_ hg);simp at this;simp [this]
theorem zcF_ {H:Heap}:zj_ H [I 0,nilS,nilS] Qae_:=qau_
abbrev QT_ (ep:Nat) (op:Bool) (began:Int) (v wv:Value) (hb:Nat):za_:=row ep 165 [.bool op,I began,v,wv,.map (some hb)]
abbrev ZC_ (n:Int) (x:Txn) (t:TX) (j:Nat):List Message:=((t.parts.take j).filter fun q=> !t.hd q).map (qbF_ n x t)
theorem QcF_ {n:Int} {x:Txn} {t:TX} {j:Nat} (hj:j<t.parts.length) (h:t.hd t.parts[j]=true):ZC_ n x t (j+1)=ZC_ n x t j:=by
 unfold ZC_;rw [List.take_succ_eq_append_getElem hj,List.filter_append];simp [h]
theorem QbU_ {n:Int} {x:Txn} {t:TX} {j:Nat} (hj:j<t.parts.length) (h:t.hd t.parts[j]=false):ZC_ n x t (j+1)=ZC_ n x t j++[qbF_ n x t t.parts[j]]:=by
 unfold ZC_;rw [List.take_succ_eq_append_getElem hj,List.filter_append,List.map_append];simp [h]
theorem ZbU_ {n:Int} {x:Txn} {t:TX} {j:Nat}:(ZC_ n x t j).length≤t.parts.length:=by
 unfold ZC_;rw [List.length_map];exact Nat.le_trans (List.length_filter_le _ _) (by rw [List.length_take];exact Nat.min_le_right _ _)
theorem ZD_ {H:Heap} {n p:Int} {x:Txn} {y:Bool} (hn:fits n) (hp:fits p) (hx:fits x.Node∧fits x.Life∧fits x.Count):Qa_ H [I n,I p,I 3,I x.Node,I x.Life,I x.Count,I 0,nilS,nilS,.bool y,I 0,I 0,I 0,I 0,nilS,I 0,I 0,I 0,nilS] (decM n x p y):=
 ⟨nilS,nilS,nilS,nilS,rfl,hn,hp,by unfold fits;simp [decM],hx.1,hx.2.1,hx.2.2,qh_,SlB.nil,SlB.nil,qh_,qh_,qh_,qh_,SlB.nil,qh_,qh_,qh_,SlB.nil⟩
theorem qbi_ {H:Heap} {n p:Int} {x:Txn} {w:Work} {s1 s2:Value} (hn:fits n) (hp:fits p) (hx:fits x.Node∧fits x.Life∧fits x.Count) (hw:zj_ H [I w.Robot,s1,s2] w):Qa_ H [I n,I p,I 1,I x.Node,I x.Life,I x.Count,I w.Robot,s1,s2,.bool false,I 0,I 0,I 0,I 0,nilS,I 0,I 0,I 0,nilS] (ZB_ n x p w):=by
 obtain ⟨u1,u2,e,hr,h1,h2⟩:=hw
 cases e
 exact ⟨_,_,nilS,nilS,rfl,hn,hp,by unfold fits;simp [ZB_],hx.1,hx.2.1,hx.2.2,hr,h1,h2,qh_,qh_,qh_,qh_,SlB.nil,qh_,qh_,qh_,SlB.nil⟩
theorem v125_ {P:Prop} (h:P:=by
 refine qb_ rfl ?_;refine walk ?_;refine zc_ 7 [row p4 47 [I x1,I x2,I x3],cRow p mb s] ?_;refine qa_ 0 ?_;refine qa_ 1 ?_;refine qa_ 2 ?_;refine qa_ 3 ?_;refine qa_ 4 ?_;refine qa_ 5 ?_;refine qa_ 6 ?_;refine qb_ rfl ?_;refine walk ?_;have hsy:=QbU_ (n:=s.node) (x:=⟨x1,x2,x3⟩) (t:=⟨true,began,parts,works,heard⟩) hj1 hh;have hln:=ZbU_ (n:=s.node) (x:=⟨x1,x2,x3⟩) (t:=⟨true,began,parts,works,heard⟩) (j:=j);refine Zj_ (y:=decM s.node ⟨x1,x2,x3⟩ parts[j] true) rfl rfl rfl (ZD_ hn hfp hx) (by simp only at hln;simp only [Qb_] at hcap⊢;omega) fun d3 e3=>?_;rw [show (ZC_ s.node ⟨x1,x2,x3⟩ ⟨true,began,parts,works,heard⟩ j).length+1=(ZC_ s.node ⟨x1,x2,x3⟩ ⟨true,began,parts,works,heard⟩ (j+1)).length by rw [hsy,List.length_append];rfl,show ZC_ s.node ⟨x1,x2,x3⟩ ⟨true,began,parts,works,heard⟩ j++[decM s.node ⟨x1,x2,x3⟩ parts[j] true]=ZC_ s.node ⟨x1,x2,x3⟩ ⟨true,began,parts,works,heard⟩ (j+1) from hsy.symm];refine walk ?_;exact Zb_ hL (j+1,d3,e3,H5) ⟨by simp only;omega,hlK.trans hl5⟩):P:=h
theorem v134_ {P:Prop} (h:P:=by
 show Sub _ (ownS Qa_ 19 216 106 H (.slice none 0 0) []::_);exact v34_):P:=h
theorem v8_ {P:Prop} (h:P:=by
 have hj1:j<parts.length:=by omega
 have hfp:=hp _ (List.getElem_mem hj1);have hslK:SlR rInt 1 HK (.slice b0 parts.length c0) parts:=(hsl2.mono (hl1.trans hlK)).1;refine walk ?_;refine Zcj_ (RV:=rInt) (ag:=false) (z:=0) rfl rfl (by repeat (first | exact Has.here | apply Has.there)) ?_;refine walk ?_;refine ze_ rfl (fun hq=>?_) (fun hq=>?_)
 ·have hh:(⟨true,began,parts,works,heard⟩:TX).hd parts[j]=true:=by
   cases hh:(⟨true,began,parts,works,heard⟩:TX).hd parts[j] with
   | true=>rfl
   | false=>exact absurd ((hdd _).2 hh) hq
  rw [←QcF_ (n:=s.node) (x:=⟨x1,x2,x3⟩) (t:=⟨true,began,parts,works,heard⟩) hj1 hh];refine walk ?_;exact Zb_ hL (j+1,d,e,HK) ⟨by simp only;omega,hlK⟩
 have hh:(⟨true,began,parts,works,heard⟩:TX).hd parts[j]=false:=(hdd _).1 (Classical.not_not.1 hq);refine walk ?_;refine zc_ 15 [row p4 47 [I x1,I x2,I x3],QT_ ep true began (.slice b0 parts.length c0) (.map none) hb,cRow p mb s] ?_;refine qa_ 0 ?_;refine qa_ 1 ?_;refine qa_ 2 ?_;refine qa_ 3 ?_;refine qa_ 4 ?_;refine qa_ 5 ?_;refine qa_ 6 ?_;refine qa_ 7 ?_;refine qa_ 8 ?_;refine qa_ 9 ?_;refine qa_ 10 ?_;refine qds_ 11 (ek:=iK) (z:= .agg #[I 0,nilS,nilS]) rfl rfl rfl ?_;refine zaP_ 12 14 rfl rfl rfl (zal_ (W0:=W0) (H:=HK) (m:=Qae_) (c:=[I 0,nilS,nilS]) zcF_) (fun r5 H5 B hl5 ⟨cs5,er,hcs5,eB⟩=>?_) (fun p10 _=>?_)
 ·subst er eB;refine ⟨subA,?_⟩;obtain ⟨u1,u2,rfl,_,hu1,hu2⟩:=hcs5;obtain ⟨ub1,uc1,rfl,_,_⟩:=hu1.1.shape;obtain ⟨ub2,uc2,rfl,_,_⟩:=hu2.1.shape;refine qa_ 13 ?_;refine Zs_ 14 rfl rfl fun p10 _=>?_;exact v125_
 ·refine zs_ 12 rfl rfl (zal_ (W0:=W0) (H:=HK) (m:=Qae_) (c:=[I 0,nilS,nilS]) zcF_) fun r5 H5 B hl5 ⟨cs5,er,hcs5,eB⟩=>?_;subst er eB;refine ⟨subA,?_⟩;obtain ⟨u1,u2,rfl,_,hu1,hu2⟩:=hcs5;obtain ⟨ub1,uc1,rfl,_,_⟩:=hu1.1.shape;obtain ⟨ub2,uc2,rfl,_,_⟩:=hu2.1.shape;refine qa_ 13 ?_;exact v125_):P:=h
theorem Qcn_ {W0:World} {H H1:Heap} {p mb:Nat} {s:CS} {x:Txn} {e:CE} (hop:e.x.op=true) (hl1:H1.le H) (hn:fits s.node) (hx:fits x.Node∧fits x.Life∧fits x.Count) (hv:∀q∈e.x.heard,q.2=1) (hp:∀q∈e.x.parts,fits q) (hpl:e.x.parts.length≤1000000):
  Ct Tryz.prog 66 #[.pointer (some ⟨p,0,none⟩),.agg x.cv.toArray,.pointer (some ⟨e.p,0,none⟩)] W0 H [cRow p mb s,xA H1 e] (fun r H' B=>B=[ownS Qa_ 19 216 106 H' r (Zi_ s.node x e.x),cRow p mb s,xA H' e]):=by
 refine Ct.go (vs:=[.pointer (some ⟨p,0,none⟩),.agg x.cv.toArray,.pointer (some ⟨e.p,0,none⟩)]) fun R=>?_;obtain ⟨x1,x2,x3⟩:=x;obtain ⟨k,ep,v,⟨op,began,parts,works,heard⟩⟩:=e;dsimp only at hv hp hpl hop;subst hop;have hcap:(1000001:Nat)*216≤Qb_:=by decide
 refine walk ?_;refine qc_ rfl rfl fun p4 _=>?_;refine zv_ (A:=xA H1 ⟨k,ep,v,⟨true,began,parts,works,heard⟩⟩) (σ:=Value×Nat) (B:=fun a=>[xRow ⟨k,ep,v,⟨true,began,parts,works,heard⟩⟩ a.1 a.2,qt_ H1 ⟨k,ep,v,⟨true,began,parts,works,heard⟩⟩ a.1,qB_ H1 ⟨k,ep,v,⟨true,began,parts,works,heard⟩⟩ a.2]) (p:=fun a=>SlB rInt 1 8 H1 (CE.v ⟨k,ep,v,⟨true,began,parts,works,heard⟩⟩) (CE.x ⟨k,ep,v,⟨true,began,parts,works,heard⟩⟩).parts) (by repeat (first | exact Has.here | apply Has.there)) (fun h ⟨hs,wv,hb,hbig⟩=>⟨(wv,hb),hs,hbig⟩) fun ⟨wv,hb⟩ hsl2=>?_;dsimp only at hsl2⊢;obtain ⟨b0,c0,rfl,hc0,hd0⟩:=hsl2.1.shape;refine Qan_ (A:=qt_ H1 ⟨k,ep,.slice b0 parts.length c0,⟨true,began,parts,works,heard⟩⟩ wv) (p:=wv= .map none) (by repeat (first | exact Has.here | apply Has.there)) (fun h hw=>hw.elim (fun h=>h.2.2.1) fun h=>by cases h.1) fun hwv=>?_;subst hwv;refine walk ?_;refine ex_L (L':=QT_ ep true began (.slice b0 parts.length c0) (.map none) hb::qt_ H1 ⟨k,ep,.slice b0 parts.length c0,⟨true,began,parts,works,heard⟩⟩ (.map none)::mapO iK rInt false H1 hb heard::row p4 47 [I x1,I x2,I x3]::cRow p mb s::R) subA ?_;have hdd:=TX.hd0 (t:=⟨true,began,parts,works,heard⟩) hv
 refine Qc_ (σ:=Nat×Option Addr×Nat×Heap) (fun u=>u.1≤parts.length∧H.le u.2.2.2) (fun u=>[(0,.pointer (some ⟨p,0,none⟩)),(2,.pointer (some ⟨ep,0,none⟩)),(4,.pointer (some ⟨p4,0,none⟩)),(7,.slice u.2.1 (ZC_ s.node ⟨x1,x2,x3⟩ ⟨true,began,parts,works,heard⟩ u.1).length u.2.2.1),(14,.slice b0 parts.length c0),(15,I parts.length),(16,I u.1)]) (fun u=>u.2.2.2)
  (fun u=>ownS Qa_ 19 216 106 u.2.2.2 (.slice u.2.1 (ZC_ s.node ⟨x1,x2,x3⟩ ⟨true,began,parts,works,heard⟩ u.1).length u.2.2.1) (ZC_ s.node ⟨x1,x2,x3⟩ ⟨true,began,parts,works,heard⟩ u.1)::QT_ ep true began (.slice b0 parts.length c0) (.map none) hb::qt_ H1 ⟨k,ep,.slice b0 parts.length c0,⟨true,began,parts,works,heard⟩⟩ (.map none)::mapO iK rInt false H1 hb heard::row p4 47 [I x1,I x2,I x3]::cRow p mb s::R) (fun u=>parts.length - u.1) (0,none,0,H) ⟨Nat.zero_le _,.refl _⟩ (hs0:=?_) fun ⟨j,d,e,HK⟩ ⟨hj0,hlK⟩ K hL=>?_
 rotate_left
 ·exact v134_
 simp only at hj0 hlK;dsimp only;refine walk ?_;refine ze_ rfl (fun hj=>?_) (fun hj=>?_)
 ·exact v8_
 ·clear hL;obtain rfl:j=parts.length:=by omega
  refine walk ?_;have hfin:ZC_ s.node ⟨x1,x2,x3⟩ ⟨true,began,parts,works,heard⟩ parts.length=Zi_ s.node ⟨x1,x2,x3⟩ ⟨true,began,parts,works,heard⟩:=by simp [ZC_,Zi_]
  rw [hfin];refine finB [ownS Qa_ 19 216 106 HK (.slice d (Zi_ s.node ⟨x1,x2,x3⟩ ⟨true,began,parts,works,heard⟩).length e) (Zi_ s.node ⟨x1,x2,x3⟩ ⟨true,began,parts,works,heard⟩),cRow p mb s,xA HK ⟨k,ep,.slice b0 parts.length c0,⟨true,began,parts,works,heard⟩⟩] ?_ (hs:=?_)
  ·exact rfl
  ·refine Sub.trans (B:=xRow ⟨k,ep,.slice b0 parts.length c0,⟨true,began,parts,works,heard⟩⟩ (.map none) hb::qt_ H1 ⟨k,ep,.slice b0 parts.length c0,⟨true,began,parts,works,heard⟩⟩ (.map none)::qB_ H1 ⟨k,ep,.slice b0 parts.length c0,⟨true,began,parts,works,heard⟩⟩ hb::ownS Qa_ 19 216 106 HK (.slice d (Zi_ s.node ⟨x1,x2,x3⟩ ⟨true,began,parts,works,heard⟩).length e) (Zi_ s.node ⟨x1,x2,x3⟩ ⟨true,began,parts,works,heard⟩)::cRow p mb s::R) subA ?_;refine (QN_ (hsl2.mono (hl1.trans hlK)) (hl1.trans hlK)).trans ?_;exact subA
theorem zee_ {H H':Heap} {works:List (Int×CW)} (hl:H.le H') (hw:∀q∈works,∃cs,rCW H cs q.2) (p:Int):zj_ H' ((mget p works).getD zCW).1 ((mget p works).getD zCW).2:=by
 cases hg:mget p works with
 | none=>exact RdOk.mono (R:=zj_) (Heap.le.refl _) qau_
 | some v=>
  obtain ⟨cs,e,h⟩:=hw _ (qu_ hg);dsimp only at e h;subst e;exact RdOk.mono (R:=zj_) hl h
theorem v25_ {P:Prop} (h:P:=by
 refine qb_ rfl ?_;refine walk ?_;have hsy:=QbU_ (n:=s.node) (x:=⟨x1,x2,x3⟩) (t:=⟨false,began,parts,works,heard⟩) hj1 hh;have hln:=ZbU_ (n:=s.node) (x:=⟨x1,x2,x3⟩) (t:=⟨false,began,parts,works,heard⟩) (j:=j);have hsm:qbF_ s.node ⟨x1,x2,x3⟩ ⟨false,began,parts,works,heard⟩ parts[j]=ZB_ s.node ⟨x1,x2,x3⟩ parts[j] ((mget parts[j] works).getD zCW).2:=rfl;rw [hsm] at hsy;refine Zj_ (y:=ZB_ s.node ⟨x1,x2,x3⟩ parts[j] ((mget parts[j] works).getD zCW).2) rfl rfl rfl (qbi_ hn hfp hx ⟨_,_,rfl,hu0,hu1,hu2⟩) (by simp only at hln;simp only [Qb_] at hcap⊢;omega) fun d3 e3=>?_;rw [show (ZC_ s.node ⟨x1,x2,x3⟩ ⟨false,began,parts,works,heard⟩ j).length+1=(ZC_ s.node ⟨x1,x2,x3⟩ ⟨false,began,parts,works,heard⟩ (j+1)).length by rw [hsy,List.length_append];rfl,show ZC_ s.node ⟨x1,x2,x3⟩ ⟨false,began,parts,works,heard⟩ j++[ZB_ s.node ⟨x1,x2,x3⟩ parts[j] ((mget parts[j] works).getD zCW).2]=ZC_ s.node ⟨x1,x2,x3⟩ ⟨false,began,parts,works,heard⟩ (j+1) from hsy.symm];refine walk ?_;exact Zb_ hL (j+1,d3,e3,H5) ⟨by simp only;omega,hlK.trans hl5⟩):P:=h
theorem Zcn_ {W0:World} {H H1:Heap} {p mb:Nat} {s:CS} {x:Txn} {e:CE} (hop:e.x.op=false) (hl1:H1.le H) (hn:fits s.node) (hx:fits x.Node∧fits x.Life∧fits x.Count) (hv:∀q∈e.x.heard,q.2=1) (hp:∀q∈e.x.parts,fits q) (hpl:e.x.parts.length≤1000000):
  Ct Tryz.prog 66 #[.pointer (some ⟨p,0,none⟩),.agg x.cv.toArray,.pointer (some ⟨e.p,0,none⟩)] W0 H [cRow p mb s,xA H1 e] (fun r H' B=>B=[ownS Qa_ 19 216 106 H' r (Zi_ s.node x e.x),cRow p mb s,xA H' e]):=by
 refine Ct.go (vs:=[.pointer (some ⟨p,0,none⟩),.agg x.cv.toArray,.pointer (some ⟨e.p,0,none⟩)]) fun R=>?_;obtain ⟨x1,x2,x3⟩:=x;obtain ⟨k,ep,v,⟨op,began,parts,works,heard⟩⟩:=e;dsimp only at hv hp hpl hop;subst hop;have hcap:(1000001:Nat)*216≤Qb_:=by decide
 refine walk ?_;refine qc_ rfl rfl fun p4 _=>?_;refine zv_ (A:=xA H1 ⟨k,ep,v,⟨false,began,parts,works,heard⟩⟩) (σ:=Value×Nat) (B:=fun a=>[xRow ⟨k,ep,v,⟨false,began,parts,works,heard⟩⟩ a.1 a.2,qt_ H1 ⟨k,ep,v,⟨false,began,parts,works,heard⟩⟩ a.1,qB_ H1 ⟨k,ep,v,⟨false,began,parts,works,heard⟩⟩ a.2]) (p:=fun a=>SlB rInt 1 8 H1 (CE.v ⟨k,ep,v,⟨false,began,parts,works,heard⟩⟩) (CE.x ⟨k,ep,v,⟨false,began,parts,works,heard⟩⟩).parts) (by repeat (first | exact Has.here | apply Has.there)) (fun h ⟨hs,wv,hb,hbig⟩=>⟨(wv,hb),hs,hbig⟩) fun ⟨wv,hb⟩ hsl2=>?_;dsimp only at hsl2⊢;obtain ⟨b0,c0,rfl,hc0,hd0⟩:=hsl2.1.shape;refine zv_ (A:=qt_ H1 ⟨k,ep,.slice b0 parts.length c0,⟨false,began,parts,works,heard⟩⟩ wv) (σ:=Nat) (B:=fun wb=>[mapO iK rCW true H1 wb works]) (p:=fun wb=>wv= .map (some wb)) (by repeat (first | exact Has.here | apply Has.there)) (fun h hw=>hw.elim (fun h=>by cases h.1) fun ⟨_,wb,e,hm⟩=>⟨wb,e,Zci_ hm⟩) fun wb hwv=>?_;subst hwv;refine Qan_ (A:=mapO iK rCW true H1 wb works) (p:=∀q∈works,∃cs,rCW H1 cs q.2) (by repeat (first | exact Has.here | apply Has.there)) (fun h hm=>(zaj_ hm).1) fun hwl=>?_;refine walk ?_;refine ex_L (L':=QT_ ep false began (.slice b0 parts.length c0) (.map (some wb)) hb::mapO iK rCW true H1 wb works::mapO iK rInt false H1 hb heard::row p4 47 [I x1,I x2,I x3]::cRow p mb s::R) subA ?_;have hdd:=TX.hd0 (t:=⟨false,began,parts,works,heard⟩) hv
 refine Qc_ (σ:=Nat×Option Addr×Nat×Heap) (fun u=>u.1≤parts.length∧H.le u.2.2.2) (fun u=>[(0,.pointer (some ⟨p,0,none⟩)),(2,.pointer (some ⟨ep,0,none⟩)),(4,.pointer (some ⟨p4,0,none⟩)),(7,.slice u.2.1 (ZC_ s.node ⟨x1,x2,x3⟩ ⟨false,began,parts,works,heard⟩ u.1).length u.2.2.1),(14,.slice b0 parts.length c0),(15,I parts.length),(16,I u.1)]) (fun u=>u.2.2.2)
  (fun u=>ownS Qa_ 19 216 106 u.2.2.2 (.slice u.2.1 (ZC_ s.node ⟨x1,x2,x3⟩ ⟨false,began,parts,works,heard⟩ u.1).length u.2.2.1) (ZC_ s.node ⟨x1,x2,x3⟩ ⟨false,began,parts,works,heard⟩ u.1)::QT_ ep false began (.slice b0 parts.length c0) (.map (some wb)) hb::mapO iK rCW true H1 wb works::mapO iK rInt false H1 hb heard::row p4 47 [I x1,I x2,I x3]::cRow p mb s::R) (fun u=>parts.length - u.1) (0,none,0,H) ⟨Nat.zero_le _,.refl _⟩ (hs0:=?_) fun ⟨j,d,e,HK⟩ ⟨hj0,hlK⟩ K hL=>?_
 rotate_left
 ·exact v134_
 simp only at hj0 hlK;dsimp only;refine walk ?_;refine ze_ rfl (fun hj=>?_) (fun hj=>?_)
 ·have hj1:j<parts.length:=by omega
  have hfp:=hp _ (List.getElem_mem hj1);have hslK:SlR rInt 1 HK (.slice b0 parts.length c0) parts:=(hsl2.mono (hl1.trans hlK)).1;refine walk ?_;refine Zcj_ (RV:=rInt) (ag:=false) (z:=0) rfl rfl (by repeat (first | exact Has.here | apply Has.there)) ?_;refine walk ?_;refine ze_ rfl (fun hq=>?_) (fun hq=>?_)
  ·have hh:(⟨false,began,parts,works,heard⟩:TX).hd parts[j]=true:=by
    cases hh:(⟨false,began,parts,works,heard⟩:TX).hd parts[j] with
    | true=>rfl
    | false=>exact absurd ((hdd _).2 hh) hq
   rw [←QcF_ (n:=s.node) (x:=⟨x1,x2,x3⟩) (t:=⟨false,began,parts,works,heard⟩) hj1 hh];refine walk ?_;exact Zb_ hL (j+1,d,e,HK) ⟨by simp only;omega,hlK⟩
  have hh:(⟨false,began,parts,works,heard⟩:TX).hd parts[j]=false:=(hdd _).1 (Classical.not_not.1 hq);refine walk ?_;refine zc_ 15 [row p4 47 [I x1,I x2,I x3],QT_ ep false began (.slice b0 parts.length c0) (.map (some wb)) hb,cRow p mb s,mapO iK rCW true H1 wb works] ?_;refine qa_ 0 ?_;refine qa_ 1 ?_;refine qa_ 2 ?_;refine qa_ 3 ?_;refine qa_ 4 ?_;refine qa_ 5 ?_;refine qa_ 6 ?_;refine qa_ 7 ?_;refine qa_ 8 ?_;refine qa_ 9 ?_;refine qa_ 10 ?_;refine qck_ (RV:=rCW) (ag:=true) (z:=zCW) 11 rfl rfl rfl (by repeat (first | exact Has.here | apply Has.there)) ?_;have hwr:=zee_ (H:=H1) (H':=HK) (hl1.trans hlK) hwl parts[j];refine zaP_ 12 14 rfl rfl rfl (zal_ (W0:=W0) (H:=HK) (m:=((mget parts[j] works).getD zCW).2) (c:=((mget parts[j] works).getD zCW).1) hwr) (fun r5 H5 B hl5 ⟨cs5,er,hcs5,eB⟩=>?g1) (fun p10 _=>?g2)
  case g1=>
   subst er eB;refine ⟨subA,?_⟩;obtain ⟨u1,u2,rfl,hu0,hu1,hu2⟩:=hcs5;obtain ⟨ub1,uc1,rfl,_,_⟩:=hu1.1.shape;obtain ⟨ub2,uc2,rfl,_,_⟩:=hu2.1.shape;refine qa_ 13 ?_;refine Zs_ 14 rfl rfl fun p10 _=>?_;exact v25_
  case g2=>
   refine zs_ 12 rfl rfl (zal_ (W0:=W0) (H:=HK) (m:=((mget parts[j] works).getD zCW).2) (c:=((mget parts[j] works).getD zCW).1) hwr) fun r5 H5 B hl5 ⟨cs5,er,hcs5,eB⟩=>?_;subst er eB;refine ⟨subA,?_⟩;obtain ⟨u1,u2,rfl,hu0,hu1,hu2⟩:=hcs5;obtain ⟨ub1,uc1,rfl,_,_⟩:=hu1.1.shape;obtain ⟨ub2,uc2,rfl,_,_⟩:=hu2.1.shape;refine qa_ 13 ?_;exact v25_
 ·clear hL;obtain rfl:j=parts.length:=by omega
  refine walk ?_;have hfin:ZC_ s.node ⟨x1,x2,x3⟩ ⟨false,began,parts,works,heard⟩ parts.length=Zi_ s.node ⟨x1,x2,x3⟩ ⟨false,began,parts,works,heard⟩:=by simp [ZC_,Zi_]
  rw [hfin];refine finB [ownS Qa_ 19 216 106 HK (.slice d (Zi_ s.node ⟨x1,x2,x3⟩ ⟨false,began,parts,works,heard⟩).length e) (Zi_ s.node ⟨x1,x2,x3⟩ ⟨false,began,parts,works,heard⟩),cRow p mb s,xA HK ⟨k,ep,.slice b0 parts.length c0,⟨false,began,parts,works,heard⟩⟩] ?_ (hs:=?_)
  ·exact rfl
  ·refine Sub.trans (B:=xRow ⟨k,ep,.slice b0 parts.length c0,⟨false,began,parts,works,heard⟩⟩ (.map (some wb)) hb::qt_ H1 ⟨k,ep,.slice b0 parts.length c0,⟨false,began,parts,works,heard⟩⟩ (.map (some wb))::qB_ H1 ⟨k,ep,.slice b0 parts.length c0,⟨false,began,parts,works,heard⟩⟩ hb::ownS Qa_ 19 216 106 HK (.slice d (Zi_ s.node ⟨x1,x2,x3⟩ ⟨false,began,parts,works,heard⟩).length e) (Zi_ s.node ⟨x1,x2,x3⟩ ⟨false,began,parts,works,heard⟩)::cRow p mb s::R) ?_ ?_
   ·refine Sub.trans (B:=mapO iK rCW true H1 wb works::xRow ⟨k,ep,.slice b0 parts.length c0,⟨false,began,parts,works,heard⟩⟩ (.map (some wb)) hb::qB_ H1 ⟨k,ep,.slice b0 parts.length c0,⟨false,began,parts,works,heard⟩⟩ hb::ownS Qa_ 19 216 106 HK (.slice d (Zi_ s.node ⟨x1,x2,x3⟩ ⟨false,began,parts,works,heard⟩).length e) (Zi_ s.node ⟨x1,x2,x3⟩ ⟨false,began,parts,works,heard⟩)::cRow p mb s::R) subA ?_;refine Sub.trans (show Sub _ (qt_ H1 ⟨k,ep,.slice b0 parts.length c0,⟨false,began,parts,works,heard⟩⟩ (.map (some wb))::_) from fun h ⟨h1,h2,a,r⟩=>⟨h1,h2,.inr ⟨rfl,wb,rfl,a⟩,r⟩) ?_;exact subA
   refine (QN_ (hsl2.mono (hl1.trans hlK)) (hl1.trans hlK)).trans ?_;exact subA
theorem v75_ {P:Prop} (h:P:=by
 refine walk ?_;exact Zb_ hL (j+1,d3,e3) (by simp only;omega)):P:=h
theorem zcr_ {W0:World} {H H1:Heap} {p mb ep hb:Nat} {s:CS} {x:Txn} {began:Int} {parts:List Int} {works:List (Int×CW)} {heard:List (Int×Int)} {b0:Option Addr} {c0:Nat} (hl1:H1.le H) (hn:fits s.node) (hx:fits x.Node∧fits x.Life∧fits x.Count) (hv:∀q∈heard,q.2=1) (hp:∀q∈parts,fits q) (hpl:parts.length≤1000000) (hsl2:SlB rInt 1 8 H1 (.slice b0 parts.length c0) parts):
  Ct Tryz.prog 66 #[.pointer (some ⟨p,0,none⟩),.agg x.cv.toArray,.pointer (some ⟨ep,0,none⟩)] W0 H [cRow p mb s,QT_ ep true began (.slice b0 parts.length c0) (.map none) hb,mapO iK rInt false H1 hb heard] (fun r H' B=>B=[ownS Qa_ 19 216 106 H' r (Zi_ s.node x ⟨true,began,parts,works,heard⟩),cRow p mb s,QT_ ep true began (.slice b0 parts.length c0) (.map none) hb,mapO iK rInt false H1 hb heard]):=by
 refine Ct.go (vs:=[.pointer (some ⟨p,0,none⟩),.agg x.cv.toArray,.pointer (some ⟨ep,0,none⟩)]) fun R=>?_;obtain ⟨x1,x2,x3⟩:=x;have hcap:(1000001:Nat)*216≤Qb_:=by decide
 obtain ⟨_,_,e0,hc0,hd0⟩:=hsl2.1.shape
 cases e0
 refine walk ?_;refine qc_ rfl rfl fun p4 _=>?_;refine walk ?_;refine ex_L (L':=QT_ ep true began (.slice b0 parts.length c0) (.map none) hb::mapO iK rInt false H1 hb heard::row p4 47 [I x1,I x2,I x3]::cRow p mb s::R) subA ?_;have hdd:=TX.hd0 (t:=⟨true,began,parts,works,heard⟩) hv
 refine Qc_ (σ:=Nat×Option Addr×Nat×Heap) (fun u=>u.1≤parts.length∧H.le u.2.2.2) (fun u=>[(0,.pointer (some ⟨p,0,none⟩)),(2,.pointer (some ⟨ep,0,none⟩)),(4,.pointer (some ⟨p4,0,none⟩)),(7,.slice u.2.1 (ZC_ s.node ⟨x1,x2,x3⟩ ⟨true,began,parts,works,heard⟩ u.1).length u.2.2.1),(14,.slice b0 parts.length c0),(15,I parts.length),(16,I u.1)]) (fun u=>u.2.2.2)
  (fun u=>ownS Qa_ 19 216 106 u.2.2.2 (.slice u.2.1 (ZC_ s.node ⟨x1,x2,x3⟩ ⟨true,began,parts,works,heard⟩ u.1).length u.2.2.1) (ZC_ s.node ⟨x1,x2,x3⟩ ⟨true,began,parts,works,heard⟩ u.1)::QT_ ep true began (.slice b0 parts.length c0) (.map none) hb::mapO iK rInt false H1 hb heard::row p4 47 [I x1,I x2,I x3]::cRow p mb s::R) (fun u=>parts.length - u.1) (0,none,0,H) ⟨Nat.zero_le _,.refl _⟩ (hs0:=?_) fun ⟨j,d,e,HK⟩ ⟨hj0,hlK⟩ K hL=>?_
 rotate_left
 ·exact v134_
 simp only at hj0 hlK;dsimp only;refine walk ?_;refine ze_ rfl (fun hj=>?_) (fun hj=>?_)
 ·exact v8_
 ·clear hL;obtain rfl:j=parts.length:=by omega
  refine walk ?_;have hfin:ZC_ s.node ⟨x1,x2,x3⟩ ⟨true,began,parts,works,heard⟩ parts.length=Zi_ s.node ⟨x1,x2,x3⟩ ⟨true,began,parts,works,heard⟩:=by simp [ZC_,Zi_]
  rw [hfin];refine finB [ownS Qa_ 19 216 106 HK (.slice d (Zi_ s.node ⟨x1,x2,x3⟩ ⟨true,began,parts,works,heard⟩).length e) (Zi_ s.node ⟨x1,x2,x3⟩ ⟨true,began,parts,works,heard⟩),cRow p mb s,QT_ ep true began (.slice b0 parts.length c0) (.map none) hb,mapO iK rInt false H1 hb heard] ?_;exact rfl
end Go.Proofs.YtlflbkpmfhhikaaGreatDoor
