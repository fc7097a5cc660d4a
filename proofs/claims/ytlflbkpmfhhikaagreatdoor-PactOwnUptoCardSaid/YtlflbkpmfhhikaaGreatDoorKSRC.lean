/- slices.AppendSeq and Collect at api.Txn, against whatever iterator. -/
import Derived.Test.YtlflbkpmfhhikaaGreatDoorKInst
import Derived.Test.YtlflbkpmfhhikaaGreatDoorKKD
import Derived.Sort.MapsRangeIn
import Derived.RangeFuncGives
import Derived.Sort.KeysCollected
import Derived.Test.YtlflbkpmfhhikaaGreatDoorProg
import Derived.Shelf.SlIter.Collect
import Derived.WalkKit
import Derived.OwnWalkIn
import Derived.TacticsInMore
import Derived.RegionIn
import Derived.LoopNIn
import Derived.LoopIn
import Derived.Shelf.Abstract
set_option linter.unusedVariables false
set_option linter.unusedSimpArgs false
namespace Go.Proofs.YtlflbkpmfhhikaaGreatDoor
open Go Go.Proofs Go.RowKit Go.Maps Go.MapKept Go.ChangeMaps Go.WideShapes
section
variable {F:Fence} {n:Nat} {P:Program} (w:World) {ops:Array Oper} {rest:List Oper} {o:Oper} {a:Act} {Q:Exit→Act→World→Prop}
theorem qaJ_ (hg:o.guard=none) (m:Operand) (t:TypeId) (hop:o.op=Op.range t m) (k e:TypeId) (ht:P.underlying t=some (.map k e)) (b:Nat) (es:Array MapEntry) (clock:Nat)
  (hm:a.eval m= .map (some b)) (hb:w.heap[b]?=some (.map es clock))
  (hK:wpListIn F n P ops Q rest (a.put o.dst (.pointer (some ⟨w.heap.size,0,none⟩))) (w.alloc (.mapIter (some b) clock #[] clock))):
  wpListIn F n P ops Q (o::rest) a w:=by
 refine wpListIn_plain hg fun K' hK'=>?_;have hrun:=run_range_map w t k e b es clock ht hb;unfold Oper.wpIn;refine ⟨?_,?_⟩
 ·simp [Oper.about,hop]
 ·rw [Oper.semAt_plain F _ _ (by rw [hop];intro c hc';cases hc')];simp [execOp,hop,hm,hrun,Result.andThen];exact hK' _ _ hK
theorem zbT_ (hg:o.guard=none) (it:Operand) (hop:o.op=Op.next it false) (b r:Nat) (es:Array MapEntry) (clock since c0:Nat) (seen:Array Nat)
  (hit:a.eval it= .pointer (some ⟨r,0,none⟩)) (hr:w.heap[r]?=some (.mapIter (some b) since seen c0)) (hb:w.heap[b]?=some (.map es clock)) (hold:∀x∈es.toList,x.born<since) (hsc:since≤c0)
  (hDone:(leftOf es seen).size=0→wpListIn F n P ops Q rest (a.put o.dst (.tuple #[.bool false])) w)
  (hMore:∀e∈(leftOf es seen).toList,∀w':World,w'.heap[r]?=some (.mapIter (some b) since (seen.push e.born) clock)→w.grownBy w' (some r)→w'.heap.size=w.heap.size→
   wpListIn F n P ops Q rest (a.put o.dst (.tuple #[.bool true,e.key,e.val])) w'):
  wpListIn F n P ops Q (o::rest) a w:=by
 refine wpListIn_plain hg fun K' hK'=>?_;unfold Oper.wpIn;refine ⟨by simp [Oper.about,hop],?_⟩;rw [Oper.semAt_plain F _ _ (by rw [hop];intro c hc';cases hc')];rcases run_next_at (P:=P) w o.type r b since c0 seen es clock hr hb hold hsc with ⟨h0,hrun⟩ | ⟨e,he,w1,hal,hrun⟩
 ·simp [execOp,hop,hit,hrun,Result.andThen];exact hK' _ _ (hDone h0)
 ·simp [execOp,hop,hit,hrun,Result.andThen];have hr1:w1.heap[r]?=some (.mapIter (some b) since seen c0):=by rcases hal with rfl | rfl<;>exact hr
  have hset:=heap_set (o':= .mapIter (some b) since (seen.push e.born) clock) hr1;refine hK' _ _ (hMore e he _ hset.1 ?_ ?_)
  ·rcases hal with rfl | rfl<;>exact ⟨rfl,rfl,rfl,by simp [setBlock],fun i _ hi=>hset.2 i (fun e1=>hi (by rw [e1]))⟩
  ·rcases hal with rfl | rfl<;>simp [setBlock]
end
theorem ZbB_ {e:MapEntry} {p:Nat→Bool}:∀{l:List MapEntry},(l.map (·.born)).Nodup→e∈l→p e.born=false→(l.filter fun x=>p x.born || x.born==e.born).Perm (e::l.filter fun x=>p x.born)
 | [],_,he,_=>by cases he
 | x::l,hn,he,hp=>by
  rw [List.map_cons,List.nodup_cons] at hn;rcases List.mem_cons.1 he with rfl | he
  ·have hl:(l.filter fun x=>p x.born || x.born==e.born)=l.filter fun x=>p x.born:=by
    refine List.filter_congr fun x hx=>?_
    have:(x.born==e.born)=false:=by
     simp only [beq_eq_false_iff_ne];exact fun h=>hn.1 (h▸List.mem_map.2 ⟨x,hx,rfl⟩)
    rw [this,Bool.or_false]
   rw [List.filter_cons,if_pos (by simp),List.filter_cons,if_neg (by rw [hp];decide),hl]
  ·have ih:=ZbB_ hn.2 he hp
   have hne:(x.born==e.born)=false:=by
    simp only [beq_eq_false_iff_ne];exact fun h=>hn.1 (h▸List.mem_map.2 ⟨e,he,rfl⟩)
   cases hx:p x.born with
   | true=>
    rw [List.filter_cons,if_pos (by rw [hx];rfl),List.filter_cons,if_pos hx];exact (ih.cons x).trans (List.Perm.swap _ _ _)
   | false=>
    rw [List.filter_cons,if_neg (by rw [hx,hne];decide),List.filter_cons,if_neg (by rw [hx];decide)];exact ih
def Qbd_ (es:Array MapEntry) (seen:Array Nat):List MapEntry:=es.toList.filter fun x=>seen.contains x.born
theorem qcN_ {es:Array MapEntry} {seen:Array Nat} {e:MapEntry} (hn:(es.toList.map (·.born)).Nodup) (he:e∈(leftOf es seen).toList):(Qbd_ es (seen.push e.born)).Perm (e::Qbd_ es seen)∧e∈es.toList:=by
 obtain ⟨hem,hes⟩:=mem_left he;have h1:=ZbB_ (p:=fun b=>seen.contains b) hn hem (by simpa using hes);refine ⟨?_,hem⟩;refine List.Perm.trans (List.Perm.of_eq ?_) h1;unfold Qbd_;refine List.filter_congr fun x _=>?_;rw [contains_push]
theorem qdn_ {es:Array MapEntry} {seen:Array Nat} (h:(leftOf es seen).size=0):Qbd_ es seen=es.toList:=by
 unfold Qbd_;rw [List.filter_eq_self];intro x hx;exact all_seen es seen h x hx
theorem zcN_ {es:Array MapEntry}:Qbd_ es #[]=[]:=by
 unfold Qbd_;rw [List.filter_eq_nil_iff];intro x hx;simp
end Go.Proofs.YtlflbkpmfhhikaaGreatDoor
set_option maxHeartbeats 16000000
set_option maxRecDepth 100000
namespace Go.Proofs.YtlflbkpmfhhikaaGreatDoor
open Go Go.Sx Go.Proofs Go.RowKit Go.Maps Go.Sort Go.Shelf
abbrev K3:=Int×Int×Int
theorem v57_ {P:Prop} (h:P:=by
 exact ⟨#[],clock,[],(Below.heap_alloc _ _ b hblt).trans hb,World.alloc_heap_new W _,Nat.le_refl _,by rw [zcN_];exact .refl _,hJ [] W _ none h0 (World.grownBy_alloc W _ none) (fun r e=>by cases e)⟩):P:=h
theorem v9_ {P:Prop} (h:P:=by
 obtain ⟨seen,c0,ss,hbr,hrr,hc0,hperm,hJs⟩:=hrel
 gi_wp2_with (first
  | (gi_at_next;refine zbT_ _ rfl _ rfl b W.heap.size es clock clock c0 seen rfl hrr hbr hold hc0 ?_ ?_)
  | gi_in)
 ·intro hl0;gi_wp2;go_end0;rw [qdn_ (by rw [hl0];rfl)] at hperm;exact ⟨⟨_,rfl⟩,ss,hperm,hJs⟩
 ·intro e he w2 hr2 hg2 hs2;obtain ⟨hcs,hem⟩:=qcN_ hnd (show e∈(leftOf es seen).toList by simpa using he);have hb2:w2.heap[b]?=some (.map es clock):=(hg2.block b (Array.getElem?_eq_some_iff.1 hbr).1 (fun e1=>by cases e1;omega)).trans hbr;have hen:=run_entry_at (P:=Tryz.prog) w2 W.heap.size b clock seen es clock e hr2 hb2 hem hnd;rw [hk e hem] at hen⊢;obtain ⟨⟨x,y,z⟩,hx⟩:∃q,q=kf e:=⟨_,rfl⟩;rw [←hx] at hen⊢;simp only [ek3] at hen;have he':e∈(leftOf es seen).toList:=by simpa using he
  have hwr:wr.heap.size=w2.heap.size:=hs2.symm;clear hs2;have hJ2:J ss w2:=hJ ss wr w2 (some W.heap.size) hJs hg2 (fun r e1=>by cases e1;exact ⟨Nat.le_refl _,_,hrr,rfl⟩);obtain ⟨W3,hW3⟩:∃W3,W3=w2.alloc (.cells #[.int .i64 x,.int .i64 y,.int .i64 z] 47):=⟨_,rfl⟩;have hJ3:J ss W3:=by rw [hW3];exact hJ ss w2 _ none hJ2 (World.grownBy_alloc w2 _ none) (fun r e1=>by cases e1)
  have hlen:ss.length<es.size:=by
   have h1:=hperm.length_eq;have h2:=hcs.length_eq;have h3:(Qbd_ es (seen.push e.born)).length≤es.toList.length:=List.length_filter_le _ _;simp only [List.length_map,List.length_cons] at h1 h2;simp only [Array.length_toList] at h3;omega
  obtain ⟨fn,tmps,assign,body,hy,hR⟩:=hY ss (x,y,z) W3 hJ3 hlen;simp only [ek3] at hy;have hb3:W3.heap[b]?=some (.map es clock):=by rw [hW3];exact (Below.heap_alloc _ _ b (Array.getElem?_eq_some_iff.1 hb2).1).trans hb2
  have hr3:W3.heap[W.heap.size]?=some (.mapIter (some b) clock (seen.push e.born) clock):=by rw [hW3];exact (Below.heap_alloc _ _ _ (Array.getElem?_eq_some_iff.1 hr2).1).trans hr2
  gi_wp2;rw [←hW3,hy];refine ⟨fun _=>hn,hR.mono ?_⟩;rintro e4 W4 ⟨rfl,hJ4,hk4⟩;gi_wp2;go_roundw
  case rel=>
   refine ⟨seen.push e.born,clock,ss++[(x,y,z)],hk4.same b _ hb3 rfl,hk4.same _ _ hr3 rfl,Nat.le_refl _,?_,hJ4⟩;refine List.Perm.trans ?_ (hcs.map kf).symm;rw [List.map_cons,←hx];exact (List.perm_append_singleton _ _).trans (hperm.cons _)
  case measure=>
   have h1:=left_shrinks es seen e he';simp only [World.rangeLeft,hk4.same b _ hb3 rfl,hk4.same _ _ hr3 rfl,hbr,hrr];exact h1):P:=h
theorem ZcM_ (F:Fence) (n:Nat) (h10:F.fn 119) (hro:F.round=none) (hn:1≤n) (l Bm b:Nat) (es:Array MapEntry) (clock:Nat) (kf:MapEntry→K3) (J:List K3→World→Prop)
  (hY:∀pre x W,J pre W→pre.length<es.size→YieldAt F (n - 1) Tryz.prog l #[ek3 x] W fun e W'=>e= .returned (.bool true)∧J (pre++[x]) W'∧KeepsWalks W W')
  (W:World) (hJ:AbidesFrom W.heap.size J) (hm:W.cell? ⟨Bm,0,none⟩=some (.map (some b))) (hb:W.heap[b]?=some (.map es clock)) (hold:∀x∈es.toList,x.born<clock) (hnd:(es.toList.map (·.born)).Nodup) (hk:∀e∈es.toList,e.key=ek3 (kf e)) (h0:J [] W):
  CallsIn F n Tryz.prog 119 #[.func (.yield l) #[] #[],.pointer (some ⟨Bm,0,none⟩)] W fun e W'=>(∃v,e= .returned v)∧∃ss:List K3,ss.Perm (es.toList.map kf)∧J ss W':=by
 have hblt:b<W.heap.size:=(Array.getElem?_eq_some_iff.1 hb).1;refine callsIn_of_wp Tryz.func119 rfl h10 ?_ hro;simp only [Tryz.ntmps119,List.size_toArray,List.length_cons,List.length_nil,Nat.reduceAdd,Nat.reduceSub,Array.replicate_succ,Array.replicate_zero,List.push_toArray,List.append_toArray,List.nil_append,List.cons_append]
 gi_wp2_with (first
  | (gi_at_range;refine qaJ_ _ rfl _ 195 rfl 47 50 Tryz.underlying195 b es clock rfl hb ?_)
  | gi_in)
 go_frame
 gi_loopw [3] (fun _ wr=>∃(seen:Array Nat) (c0:Nat) (ss:List K3),wr.heap[b]?=some (.map es clock)∧wr.heap[W.heap.size]?=some (.mapIter (some b) clock seen c0)∧clock≤c0∧ss.Perm ((Qbd_ es seen).map kf)∧J ss wr)
  (fun _ wr=>wr.rangeLeft b W.heap.size)
 case atStart=>
  exact v57_
 case round=>
  exact v9_
def c3 (k:K3):List Value:=[.int .i64 k.1,.int .i64 k.2.1,.int .i64 k.2.2]
def c3s (l:List K3):List Value:=(l.map c3).flatten
theorem qci_ (k:K3):(c3 k).length=3:=rfl
theorem Zbm_ (l:List K3):(c3s l).length=l.length*3:=by
 induction l with
 | nil=>rfl
 | cons k l ih=>simp only [c3s,List.map_cons,List.flatten_cons,List.length_append,List.length_cons,qci_] at*;omega
theorem Zdm_ (l:List K3) (k:K3):c3s (l++[k])=c3s l++c3 k:=by simp [c3s]
def qbn_ : Code := (Code.region 2 #[{ dst := some 5, op := Op.alloc 47, type := 0, pos := "iter.go:51", after := #[], guard := none }, { dst := none, op := Op.store 47 (Operand.tmp 5) (Operand.tmp 7), type := 0, pos := "iter.go:51", after := #[{ on := 0, ground := Ground.data }, { on := 0, ground := Ground.phase }], guard := none }] false)
def zcM_ : Code := (Code.block 1 (Code.region 3 #[{ dst := some 8, op := Op.load 56 (Operand.tmp 2), type := 56, pos := "iter.go:52", after := #[], guard := none }, { dst := some 9, op := Op.load 47 (Operand.tmp 5), type := 47, pos := "iter.go:52", after := #[], guard := none }, { dst := some 10, op := Op.buildSlice 56 1 #[(0, Operand.tmp 9)], type := 56, pos := "iter.go:52", after := #[{ on := 1, ground := Ground.data }], guard := none }, { dst := some 11, op := Op.call { callee := Callee.builtin Builtin.append, args := #[Operand.tmp 8, Operand.tmp 10], argTypes := #[56, 56] }, type := 56, pos := "iter.go:52", after := #[{ on := 0, ground := Ground.data }, { on := 2, ground := Ground.data }], guard := none }, { dst := none, op := Op.store 56 (Operand.tmp 2) (Operand.tmp 11), type := 0, pos := "iter.go:52", after := #[{ on := 3, ground := Ground.data }, { on := 3, ground := Ground.chain }, { on := 0, ground := Ground.phase }, { on := 1, ground := Ground.phase }, { on := 2, ground := Ground.phase }, { on := 3, ground := Ground.phase }], guard := none }] false))
def QaT_ (fn:FuncId) (sv:Value) (Bs D:Nat) (st:LoopState) (pend:Option Code):Loop:=
  {state:=st,pending:=pend,fn,tmps:=#[.slice none 0 0,sv,.pointer (some ⟨Bs,0,none⟩),undef,.slice none 0 0,undef,sv,undef,undef,undef,undef,undef,undef],params:=#[7],assign:=qbn_,body:=zcM_,defers:=D}
structure ApAt (w0:World) (fn:FuncId) (sv:Value) (Bs l D:Nat) (ss:List K3) (W:World):Prop where
  box:∃v,W.heap[Bs]?=some (.cells #[v] 56 (0,0))∧W.ownsRow w0.heap.size 47 3 v ss.length (c3s ss)∧(v= .slice none 0 0↔ss=[])
  L:W.heap[l]?=some (.loop (QaT_ fn sv Bs D .ready none))
  K:W.heap[D]?=some (.deferred (some []))
  below:Below w0.heap.size w0 W
theorem QcM_ (w0:World) (fn:FuncId) (sv:Value) (Bs l D B:Nat) (hB:w0.heap.size≤B):AbidesFrom B (ApAt w0 fn sv Bs l D):=fun s W W' row h hg hrow=>by
 have hrow':∀r,row=some r→∃o:Obj,W.heap[r]?=some o∧o.isWalk=true:=fun r e=>(hrow r e).2;obtain ⟨v,hv,hr,hn⟩:=h.box
 exact ⟨⟨v,(grownBy_keeps hg hrow' hv rfl).trans hv,ownsRow_abides_a hr hg hrow',hn⟩,(grownBy_keeps hg hrow' h.L rfl).trans h.L,(grownBy_keeps hg hrow' h.K rfl).trans h.K,
  h.below.grown hg h.below.size (fun k e=>Nat.le_trans hB (hrow k e).1)⟩
theorem qW_ (w:World) (cs:Array Value) (t:TypeId) (k:Nat):(w.alloc (.cells cs t)).cell? ⟨w.heap.size,k,none⟩=cs[k]?:=by
 have h1:=World.alloc_heap_new w (.cells cs t (0,0));unfold World.cell?;dsimp only;rw [h1];rfl
theorem zbd_ (w:World) (x y z:Value) (t:TypeId):∀j u,[x,y,z][j]?=some u→(w.alloc (.cells #[x,y,z] t)).cell? ((⟨w.heap.size,0,none⟩:Addr).add j)=some u:=by
 intro j u hj
 match j,hj with
 | 0,hj=>simp at hj;subst hj;exact qW_ w _ t 0
 | 1,hj=>simp at hj;subst hj;exact qW_ w _ t 1
 | 2,hj=>simp at hj;subst hj;exact qW_ w _ t 2
theorem zdE_ (F:Fence) (m:Nat) (w0:World) (fn:FuncId) (hfn:F.fn fn) (sv:Value) (Bs l D:Nat) (hBl:Bs≠l) (hDl:D≠l) (hDB:D≠Bs) (h0B:w0.heap.size≤Bs) (h0l:w0.heap.size≤l)
    (N:Nat) (hN:N≤maxLen) (hNb:N*24≤140737488355328) (ss:List K3) (q:K3) (W:World) (h:ApAt w0 fn sv Bs l D ss W) (hlen:ss.length<N):
    YieldAt F m Tryz.prog l #[ek3 q] W fun e W'=>e= .returned (.bool true)∧ApAt w0 fn sv Bs l D (ss++[q]) W'∧KeepsWalks W W':=by
  have hne:(56:TypeId)≠47:=by decide
  obtain ⟨i0,hi,hz1,hz2,hz0,hz3,_⟩:=(inferInstance:TIn Tryz.prog 47 3 24 _).ex;obtain ⟨x,y,z⟩:=q;obtain ⟨v,hv,hrow,_⟩:=h.box;refine ⟨fn,#[.slice none 0 0,sv,.pointer (some ⟨Bs,0,none⟩),undef,.slice none 0 0,undef,sv,ek3 (x,y,z),undef,undef,undef,undef,undef],qbn_,zcM_,by simpa [QaT_] using run_yield (P:=Tryz.prog) (args:=#[ek3 (x,y,z)]) h.L rfl,roundIn_of_wpIn hfn ?_⟩;obtain ⟨W1,hW1⟩:∃W1,W.alloc (.cells #[.int .i64 x,.int .i64 y,.int .i64 z] 47)=W1:=⟨_,rfl⟩;have old1:∀{j:Nat} {o:Obj},W.heap[j]?=some o→W1.heap[j]?=some o:=fun {j o} hj=>by rw [←hW1];exact (Below.heap_alloc _ _ j (Array.getElem?_eq_some_iff.1 hj).1).trans hj
  have hsz1:W1.heap.size=W.heap.size+1:=by rw [←hW1];simp
  have hkk1:KeepsWalks W W1:=by rw [←hW1];exact KeepsWalks.alloc _ _
  have hv1:=old1 hv;have hK1:=old1 h.K;have hL1:=old1 h.L;have hnew1:W1.heap[W.heap.size]?=some (.cells #[.int .i64 x,.int .i64 y,.int .i64 z] 47 (0,0)):=by rw [←hW1];exact World.alloc_heap_new W _
  have hrow1:W1.ownsRow w0.heap.size 47 3 v ss.length (c3s ss):=by rw [←hW1];exact hrow.alloc _
  have hb1:Below w0.heap.size w0 W1:=by rw [←hW1];exact h.below.alloc h.below.size _
  have hl:l<W1.heap.size:=(Array.getElem?_eq_some_iff.1 hL1).1;have hlW:l<W.heap.size:=(Array.getElem?_eq_some_iff.1 h.L).1;have hbr:=run_beginRound (P:=Tryz.prog) hL1 rfl;obtain ⟨W2,hW2⟩:∃W2,W1.putObj l (.loop {QaT_ fn sv Bs D .ready none with state:= .busy})=W2:=⟨_,rfl⟩;rw [hW2] at hbr;have hg2:W1.grownBy W2 (some l):=by rw [←hW2];exact grownBy_putObj_a _ _ _
  have hk2:KeepsWalks W W2:=hkk1.trans (by rw [←hW2];exact KeepsWalks.putObj _ hL1 rfl);have hv2:W2.heap[Bs]?=some (.cells #[v] 56 (0,0)):=by rw [←hW2];exact (World.putObj_heap_other hBl).trans hv1
  have hK2:W2.heap[D]?=some (.deferred (some [])):=by rw [←hW2];exact (World.putObj_heap_other hDl).trans hK1
  have hL2:W2.heap[l]?=some (.loop {QaT_ fn sv Bs D .ready none with state:= .busy}):=by rw [←hW2];exact World.putObj_heap_same hl
  have hnew2:W2.heap[W.heap.size]?=some (.cells #[.int .i64 x,.int .i64 y,.int .i64 z] 47 (0,0)):=by rw [←hW2];exact (World.putObj_heap_other (by omega)).trans hnew1
  have hrow2:W2.ownsRow w0.heap.size 47 3 v ss.length (c3s ss):=hrow1.kept hg2 (ownsRow_ne_a hrow1 hL1 (fun cur e=>by first | cases e | exact hne (Obj.cells.inj e).2.1));have hb2:Below w0.heap.size w0 W2:=hb1.grown hg2 hb1.size (fun k e=>by cases e;exact h0l)
  have hcx:W2.cell? ⟨W.heap.size,0,none⟩=some (.int .i64 x)∧W2.cell? ⟨W.heap.size,1,none⟩=some (.int .i64 y)∧W2.cell? ⟨W.heap.size,2,none⟩=some (.int .i64 z):=by
    refine ⟨?_,?_,?_⟩<;>simp [World.cell?,hnew2]
  clear hW2;obtain ⟨hc2,hf2⟩:=cell_of_box_a hv2;have hBlt:Bs<W2.heap.size:=(Array.getElem?_eq_some_iff.1 hv2).1;have hDlt:D<W2.heap.size:=(Array.getElem?_eq_some_iff.1 hK2).1;have hl2:l<W2.heap.size:=(Array.getElem?_eq_some_iff.1 hL2).1
  have ne_of:∀{j:Nat} {o:Obj},W2.heap[j]?=some o→(∀cur,o≠.cells cur 47 (0,0))→some j≠v.ownBlock:=fun hj hno=>by
    rcases ownsRow_ne_a hrow2 hj hno with e | e
    · rw [e];simp
    · exact fun e'=>e e'.symm
  simp only [ek3];unfold qbn_;gi_wp2_with gi_round_op_a;unfold zcM_;obtain ⟨hcx0,hcx1,hcx2⟩:=hcx
  gi_wp2_with (first
    | (gi_at_builtin;refine wpListIn_append_own _ rfl _ _ 56 rfl w0.heap.size 47 i0 _ 3 24 Tryz.underlying56 hi hz0 hz1 hz2 hz3 (by decide) _ _ _ rfl (hrow2.alloc _) ⟨W2.heap.size,0,none⟩ 1 1 [.int .i64 x,.int .i64 y,.int .i64 z] rfl rfl (zbd_ _ _ _ _ _) (by simp [Value.oneCell']) (by omega) (by omega) (by have:=hb2.size;simp;omega) ?_;intro v' w3 hown' hg3 hnil3
       have hv3:w3.heap[Bs]?=some (.cells #[v] 56 (0,0)):=(hg3.block Bs (by simp;omega) (ne_of hv2 (fun cur e=>by first | cases e | exact hne (Obj.cells.inj e).2.1))).trans ((Below.heap_alloc _ _ Bs hBlt).trans hv2);obtain ⟨hc3,hf3⟩:=cell_of_box_a hv3
       obtain ⟨g',cap',cur',rfl,hbase',hgb',hr1,hr2,hr3,hr4⟩:∃g' cap' cur',v'= .slice (some ⟨g',0,none⟩) (ss.length+1) cap'∧w0.heap.size≤g'∧w3.heap[g']?=some (.cells cur' 47 (0,0))∧ss.length+1≤cap'∧cap'≤maxLen∧cur'.size=cap'*3∧cur'.toList.take ((ss.length+1)*3)=c3s ss++[.int .i64 x,.int .i64 y,.int .i64 z]:=by
         rcases hown'.2 with ⟨_,h0⟩ | h'
         · exact absurd h0 (by omega)
         · exact h'
       go_frame)
    | gi_round_op_a)
  have hg3':(W2.alloc (.cells #[.int .i64 x,.int .i64 y,.int .i64 z] 47)).grownBy w3 v.ownBlock:=hg3;have hL3:w3.heap[l]?=some (.loop {QaT_ fn sv Bs D .ready none with state:= .busy}):=(hg3'.block l (by simp;omega) (ne_of hL2 (fun cur e=>by first | cases e | exact hne (Obj.cells.inj e).2.1))).trans ((Below.heap_alloc _ _ l hl2).trans hL2);have hK3:w3.heap[D]?=some (.deferred (some [])):=(hg3'.block D (by simp;omega) (ne_of hK2 (fun cur e=>by first | cases e | exact hne (Obj.cells.inj e).2.1))).trans ((Below.heap_alloc _ _ D hDlt).trans hK2);obtain ⟨w4,hw4⟩:∃w4,w3.setCell ⟨Bs,0,none⟩ (.slice (some ⟨g',0,none⟩) (ss.length+1) cap')=w4:=⟨_,rfl⟩;rw [hw4];have hg4:w3.grownBy w4 (some Bs):=by rw [←hw4];exact grownBy_setCell0_a _ _ _
  have hv4:w4.heap[Bs]?=some (.cells #[.slice (some ⟨g',0,none⟩) (ss.length+1) cap'] 56 (0,0)):=by rw [←hw4];exact heap_setCell_box_a _ hv3
  have hL4:w4.heap[l]?=some (.loop {QaT_ fn sv Bs D .ready none with state:= .busy}):=(hg4.block l (Array.getElem?_eq_some_iff.1 hL3).1 (fun e=>hBl (by cases e;rfl))).trans hL3;have hK4:w4.heap[D]?=some (.deferred (some [])):=(hg4.block D (Array.getElem?_eq_some_iff.1 hK3).1 (fun e=>hDB (by cases e;rfl))).trans hK3;have hrow4:=hown'.kept hg4 (ownsRow_ne_a hown' hv3 (fun cur e=>by first | cases e | exact hne (Obj.cells.inj e).2.1));have hl4:l<w4.heap.size:=(Array.getElem?_eq_some_iff.1 hL4).1;have hb3:Below w0.heap.size w0 w3:=(hb2.alloc hb2.size _).grown hg3' (by have:=hb2.size;simp;omega) (fun k e=>(hrow2.lt k e).1);have hb4:Below w0.heap.size w0 w4:=hb3.grown hg4 hb3.size (fun k e=>by cases e;exact h0B);have hk4:KeepsWalks W w4:=((hk2.trans (KeepsWalks.alloc _ _)).trans (KeepsWalks.of_grownBy hg3' (ownsRow_not_walk_a (hrow2.alloc _)))).trans (by rw [←hw4];exact KeepsWalks.setCell _ _ _);clear hw4;refine ⟨_,_,run_endRound none hL4,rfl,⟨⟨_,(World.putObj_heap_other hBl).trans hv4,?_,by simp⟩,World.putObj_heap_same hl4,(World.putObj_heap_other hDl).trans hK4,hb4.grown (grownBy_putObj_a _ _ _) hb4.size (fun k e=>by cases e;exact h0l)⟩,hk4.trans (KeepsWalks.putObj _ hL4 rfl)⟩;have:=hrow4.kept (grownBy_putObj_a w4 l (.loop {{QaT_ fn sv Bs D .ready none with state:= .busy} with state:=if (none:Option Code).isNone then .ready else .done,pending:=none})) (ownsRow_ne_a hrow4 hL4 (fun cur e=>by first | cases e | exact hne (Obj.cells.inj e).2.1));rw [Zdm_,List.length_append,List.length_singleton];exact this
theorem QbB_ (F:Fence) (n:Nat) (h11:F.fn 146) (hro:F.round=none) (hn:2≤n) (g:Nat) (lb:Array Value) (hFg:F.fn g) (eg:∀args w,(callFunc g args).run Tryz.prog w= .ok (.enter g args) w)
    (S:List K3→Prop) (N:Nat) (hN:N≤maxLen) (hNb:N*24≤140737488355328) (w:World) (hseq:SeqGives F (n - 1) Tryz.prog g lb ek3 S N w):
    CallsIn F n Tryz.prog 146 #[.slice none 0 0,.func (.func g) #[] lb] w fun e w'=>∃(v:Value) (ss:List K3),e= .returned v∧S ss∧w'.ownsRow w.heap.size 47 3 v ss.length (c3s ss)∧(v= .slice none 0 0↔ss=[])∧Below w.heap.size w w':=by
  have h1:1≤n:=by omega
  refine callsIn_of_wp_marks Tryz.func146 rfl h11 ?_ hro;simp only [Tryz.ntmps146,List.size_toArray,List.length_cons,List.length_nil,Nat.reduceAdd,Nat.reduceSub,Array.replicate_succ,Array.replicate_zero,List.push_toArray,List.append_toArray,List.nil_append,List.cons_append];have hne:(56:TypeId)≠47:=by decide
  gi_wp2;refine wpIn_rangeFunc ?_;intro fn hfn;rw [hro];obtain ⟨W0,hW0⟩:∃W0,w.alloc (.cells #[.slice none 0 0] 56)=W0:=⟨_,rfl⟩;have hs0:W0.heap.size=w.heap.size+1:=by rw [←hW0];simp
  have hv0:W0.heap[w.heap.size]?=some (.cells #[.slice none 0 0] 56 (0,0)):=by rw [←hW0];exact World.alloc_heap_new w _
  have hb0:Below w.heap.size w W0:=by rw [←hW0];exact (Below.refl _ w).alloc (Nat.le_refl _) _
  rw [hW0];obtain ⟨W1,hW1⟩:∃W1,(W0.alloc (.deferred (some []))).alloc (.loop (QaT_ fn (.func (.func g) #[] lb) w.heap.size W0.heap.size .ready none))=W1:=⟨_,rfl⟩
  have hold:∀k,k<W0.heap.size→W1.heap[k]?=W0.heap[k]?:=fun k hk=>by
    rw [←hW1];exact (Below.heap_alloc _ _ k (by simp;omega)).trans (Below.heap_alloc _ _ k hk)
  have hb1:Below w.heap.size w W1:=by rw [←hW1];exact (hb0.alloc hb0.size _).alloc (by have:=hb0.size;simp;omega) _
  have hs1:W1.heap.size=W0.heap.size+2:=by rw [←hW1];simp
  have hM:ApAt w fn (.func (.func g) #[] lb) w.heap.size (W0.heap.size+1) W0.heap.size [] W1:=
    ⟨⟨_,(hold w.heap.size (by omega)).trans hv0,⟨rfl,.inl ⟨rfl,rfl⟩⟩,by simp⟩,
     by rw [←hW1];have:=World.alloc_heap_new (W0.alloc (.deferred (some []))) (.loop (QaT_ fn (.func (.func g) #[] lb) w.heap.size W0.heap.size .ready none));rwa [World.size_alloc] at this,
     by rw [←hW1];exact (Below.heap_alloc _ _ _ (by simp)).trans (World.alloc_heap_new W0 _),hb1⟩
  refine ⟨W0.heap.size+1,[{target:= .collected W0.heap.size,args:=#[]}],W1,{target:= .fn (.func g) lb,args:=#[.func (.yield (W0.heap.size+1)) #[] #[]]},W1,g,
    #[.func (.yield (W0.heap.size+1)) #[] #[]]++lb,W1,?_,?_,?_,?_,fun _=>h1,?_⟩
  · rw [←hW1];exact run_enterLoop_outer _ _ _ _ _
  · simp [resolve,go_sem]
  · intro f' hf';simp [Target.leads] at hf';subst hf';exact hFg
  · simp [invoke,go_sem,eg]
  · refine (hseq (W0.heap.size+1) (ApAt w fn (.func (.func g) #[] lb) w.heap.size (W0.heap.size+1) W0.heap.size) W1 hb1 (QcM_ _ _ _ _ _ _ _ hb1.size)
      (fun pre x W hJ hl=>zdE_ F (n - 1 - 1) w fn hfn _ w.heap.size (W0.heap.size+1) W0.heap.size (by omega) (by omega) (by omega) (Nat.le_refl _) (by omega) N hN hNb pre x W hJ hl) hM).mono ?_
    rintro e W2 ⟨⟨v0,rfl⟩,ss,hS,h2⟩;obtain ⟨v,hv,hrow,hnil⟩:=h2.box;have hend:=run_endLoop (P:=Tryz.prog) h2.L (by simp [QaT_]);obtain ⟨W3,hW3⟩:∃W3,W2.putObj (W0.heap.size+1) (.loop {QaT_ fn (.func (.func g) #[] lb) w.heap.size W0.heap.size .ready none with state:= .exhausted})=W3:=⟨_,rfl⟩;rw [hW3] at hend;have hg3:W2.grownBy W3 (some (W0.heap.size+1)):=by rw [←hW3];exact grownBy_putObj_a _ _ _
    have hv3:W3.heap[w.heap.size]?=some (.cells #[v] 56 (0,0)):=by rw [←hW3];exact (World.putObj_heap_other (by omega)).trans hv
    have hK3:W3.heap[W0.heap.size]?=some (.deferred (some [])):=by rw [←hW3];exact (World.putObj_heap_other (by omega)).trans h2.K
    have hrow3:=hrow.kept hg3 (ownsRow_ne_a hrow h2.L (fun cur e=>by first | cases e | exact hne (Obj.cells.inj e).2.1));have hb3:Below w.heap.size w W3:=h2.below.grown hg3 h2.below.size (fun k e=>by cases e;omega);obtain ⟨hc3,hf3⟩:=cell_of_box_a hv3;clear hW3;refine ⟨none,W3,hend,?_⟩;gi_wp2;rw [←hs0];refine ⟨by simp,.inl ⟨_,_,rfl,run_takeDeferred hK3,?_⟩⟩;exact ⟨_,results_tmp rfl _ _ _,v,ss,rfl,hS,hrow3.kept (grownBy_putObj_a _ _ _) (ownsRow_ne_a hrow3 hK3 (fun cur e=>by first | cases e | exact hne (Obj.cells.inj e).2.1)),hnil,hb3.grown (grownBy_putObj_a _ _ _) hb3.size (fun k e=>by cases e;omega)⟩
theorem Zbg_ (F:Fence) (n:Nat) (h8:F.fn 117) (h11:F.fn 146) (hro:F.round=none) (hn:3≤n) (g:Nat) (lb:Array Value) (hFg:F.fn g) (eg:∀args w,(callFunc g args).run Tryz.prog w= .ok (.enter g args) w)
  (S:List K3→Prop) (N:Nat) (hN:N≤maxLen) (hNb:N*24≤140737488355328) (w:World) (hseq:SeqGives F (n - 1 - 1) Tryz.prog g lb ek3 S N w):
  CallsIn F n Tryz.prog 117 #[.func (.func g) #[] lb] w fun e w'=>∃(v:Value) (ss:List K3),e= .returned v∧S ss∧w'.ownsRow w.heap.size 47 3 v ss.length (c3s ss)∧(v= .slice none 0 0↔ss=[])∧Below w.heap.size w w':=by
 have h1:1≤n:=by omega
 refine callsIn_of_wp Tryz.func117 rfl h8 ?_ hro;simp only [Tryz.ntmps117,List.size_toArray,List.length_cons,List.length_nil,Nat.reduceAdd,Nat.reduceSub,Array.replicate_succ,Array.replicate_zero,List.push_toArray,List.append_toArray,List.nil_append,List.cons_append];gi_wp2_with (gi_at_call 146;refine (QbB_ F (n - 1) h11 hro (by omega) g lb hFg eg S N hN hNb _ hseq).mono ?_;rintro e w' ⟨v,ss,rfl,hS,hrow,hnil,hb⟩);go_ret;exact ⟨v,ss,rfl,hS,hrow,hnil,hb⟩
end Go.Proofs.YtlflbkpmfhhikaaGreatDoor
