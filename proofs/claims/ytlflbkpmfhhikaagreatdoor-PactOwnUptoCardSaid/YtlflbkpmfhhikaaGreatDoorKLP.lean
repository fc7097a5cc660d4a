/- Numerals and keys, texts. -/
import Derived.Test.YtlflbkpmfhhikaaGreatDoorKKC
import Derived.Test.YtlflbkpmfhhikaaGreatDoorKKD
import Derived.Test.YtlflbkpmfhhikaaGreatDoorKShelf2
import Derived.Test.YtlflbkpmfhhikaaGreatDoorKTS
import Derived.Shelf.LaysM
import Derived.Shelf.Strconv.Itoa3
import Derived.Ground.Names2Prog
import Derived.Test.YtlflbkpmfhhikaaGreatDoorProg
import Derived.Laws.BitsLemmas
set_option linter.unusedVariables false
set_option linter.unusedSimpArgs false
namespace Go.Proofs.YtlflbkpmfhhikaaGreatDoor
open Go Go.Sx Go.Proofs
abbrev I (n:Int):Value:= .int .i64 n
theorem bdec {p q:Prop} [Decidable p] [Decidable q] (h:p↔q):Value.bool (decide p)=Value.bool (decide q):=by rw [decide_eq_decide.2 h]
instance eqTxn:TEq3 Tryz.prog 47:=⟨by kernel_rfl,fun a b c d e f w=>by
  have u3:=Tryz.underlying3
  have a3:=Tryz.isAgg3
  have z3:=Tryz.sizeOf3
  have hS:Tryz.prog.underlying 47=some (.struct (Tryz.prog.fieldsOf 47)):=by kernel_rfl
  have hp:Tryz.prog.stoodInHeld 47=false:=by kernel_rfl
  rw [show (10000:Nat)=9999+1 from rfl,run_equalIn_agg w 9999 47 _ _ hS hp]
  simp only [Program.fieldsOf,Tryz.underlying47]
  go_simp
  by_cases h1:a=d<;>by_cases h2:b=e<;>by_cases h3:c=f<;>simp [h1,h2,h3]⟩
instance :TKey3 Tryz.prog 47 where
  toTEq3:=eqTxn
  und:=⟨_,Tryz.underlying47⟩
  chk e a b c w:=by
    have u3:=Tryz.underlying3
    have a3:=Tryz.isAgg3
    have z3:=Tryz.sizeOf3
    rw [show (10000:Nat)=9998+1+1 from rfl,Instr.checkKey]
    simp only [Sem.run_bind,run_underlying Tryz.underlying47,Result.andThen_ok]
    rw [←Array.forIn_toList]
    simp only [List.forIn_cons,List.forIn_nil]
    go_simp
    have hc:∀(x:Int) (w:World),(Instr.checkKey e 9999 3 (.int .i64 x)).run Tryz.prog w= .ok () w:=fun x w=>by
      rw [show (9999:Nat)=9998+1 from rfl,Instr.checkKey];simp [run_underlying u3]
    simp only [hc,Result.andThen_ok]
theorem v117_ {P:Prop} (h:P:=by
 obtain ⟨⟨cs,⟨b,c,e,_,hl,_,h⟩,_⟩,_⟩:=h0
 cases e
 rcases h with h | ⟨b,off,h,_⟩
 ·exact List.eq_nil_of_length_eq_zero h
 ·cases h):P:=h
theorem v119_ {P:Prop} (h:P:=by
 exact ⟨rfl,rfl,rfl⟩):P:=h
theorem v120_ {P:Prop} (h:P:=by
 refine walk ?_;refine Qq_ rfl rfl h0.1 (by simpa using h0.2) fun base cap=>?_;refine walk ?_;refine finB [_] ?_;exact ⟨rfl,rfl⟩):P:=h
theorem v28_ {P:Prop} (h:P:=by
 refine Ct.go fun R=>?_;obtain ⟨b0,c0,rfl,hc0,hd0⟩:=h0.1.shape;refine walk ?_;refine Qe_ rfl (fun h=>?_) (fun h=>?_)
 ·subst h;refine walk ?_
  obtain rfl:xs=[]:=by
   exact v117_
  refine finB [ownS rStr 1 16 9 H (.slice none 0 0) []] ?_ (hs:=ownS_nil);exact ⟨rfl,rfl⟩
 ·refine walk ?_;refine QU_ (w:=16) rStr rfl fun b=>?_;exact v120_):P:=h
theorem v29_ {P:Prop} (h:P:=by
 refine Ct.go fun R=>?_;obtain ⟨b0,c0,rfl,hc0,hd0⟩:=h0.1.shape;refine walk ?_;refine Qe_ rfl (fun h=>?_) (fun h=>?_)
 ·subst h;refine walk ?_
  obtain rfl:xs=[]:=by
   exact v117_
  refine finB [ownS rInt 1 8 3 H (.slice none 0 0) []] ?_ (hs:=ownS_nil);exact ⟨rfl,rfl⟩
 ·refine walk ?_;refine QU_ (w:=8) rInt rfl fun b=>?_;exact v120_):P:=h
theorem v63_ {P:Prop} (h:P:=by
 refine walk ?_;refine fin0 ?_;exact v119_):P:=h
end Go.Proofs.YtlflbkpmfhhikaaGreatDoor
set_option maxHeartbeats 16000000
set_option maxRecDepth 100000
namespace Go.Proofs.YtlflbkpmfhhikaaGreatDoor
open Go Go.Sx Go.Proofs
theorem Zr_ {W0:World} {H:Heap} {v:Value} {xs:List ByteArray} (h0:SlB rStr 1 16 H v xs):
  Ct Tryz.prog 30 #[v] W0 H [] (fun r H' B=>B=[ownS rStr 1 16 9 H r xs]∧H'=H):=by
 exact v28_
theorem Qcu_ {W0:World} {H:Heap} {n:Nat} (hn:n*16≤zb_):
  Ct Tryz.prog 156 #[nilS,I n] W0 H [] (fun r H' B=>B=[ownS rStr 1 16 9 H r []]∧H'=H):=by
 refine Ct.go fun R=>?_;simp only [zb_] at hn;have e0:(n:Int) - (((0:Nat):Int) - ((0:Nat):Int))=n:=by omega
 by_cases h0:n=0
 ·subst h0;refine walk ?_;refine finB [ownS rStr 1 16 9 H nilS []] ?_ (hs:=ownS_nil);exact ⟨rfl,rfl⟩
 ·refine walk ?_;rw [e0];refine Zdo_ rfl rfl (by omega) (by omega) (by omega) fun b cap cs h1 h2 h3=>?_;refine walk ?_;refine finB [ownS rStr 1 16 9 H (.slice (some ⟨b,0,none⟩) 0 cap) []] ?_ (hs:=Qdo_ (by simpa using h3) h2);exact ⟨rfl,rfl⟩
def Zx_ (xss:List (List ByteArray)):Nat:=(xss.map List.length).sum
theorem ZaS_ {xss:List (List ByteArray)} {x:List ByteArray}:Zx_ (xss++[x])=Zx_ xss+x.length:=by simp [Zx_]
theorem zas_ {xss:List (List ByteArray)} {k:Nat}:Zx_ (xss.take k)≤Zx_ xss:=by
 have:Zx_ xss=Zx_ (xss.take k)+Zx_ (xss.drop k):=by
  unfold Zx_;rw [←List.sum_append,←List.map_append,List.take_append_drop]
 omega
theorem zdm_ {xss:List (List ByteArray)}:xss.flatten.length=Zx_ xss:=by simp [Zx_,List.length_flatten]
theorem QP_ {W0:World} {H:Heap} {v:Value} {xss:List (List ByteArray)} (h0:SlR (rSl rStr 1 16) 1 H v xss) (hs:Zx_ xss*16≤zb_):
  Ct Tryz.prog 133 #[v] W0 H [] (fun r H' B=>B=[ownS rStr 1 16 9 H r xss.flatten]∧H'=H):=by
 refine Ct.go fun R=>?_;obtain ⟨b0,c0,rfl,hc0,hd0⟩:=h0.shape;have hs':=hs;simp only [zb_] at hs';refine walk ?_;refine Qc_ (σ:=Nat×Int) (fun s=>s.1≤xss.length∧s.2=Zx_ (xss.take s.1)) (fun s=>[(0,.slice b0 xss.length c0),(3,I s.2),(9,.slice b0 xss.length c0),(10,I xss.length),(11,I s.1)]) (fun _=>H) (fun _=>R) (fun s=>xss.length - s.1) (0,0) ⟨Nat.zero_le _,rfl⟩ fun ⟨k,z⟩ ⟨hk0,hz⟩ K hL=>?_;simp only at hk0 hz;dsimp only;have hst:=zas_ (xss:=xss) (k:=k);refine walk ?_;refine Qe_ rfl (fun hk=>?_) (fun hk=>?_)
 ·have hk1:k<xss.length:=by omega
  have hst2:=zas_ (xss:=xss) (k:=k+1);have hsn:Zx_ (xss.take (k+1))=Zx_ (xss.take k)+xss[k].length:=by rw [List.take_succ_eq_append_getElem hk1,ZaS_]
  refine walk ?_;refine qe_ rfl rfl h0 hk1 fun b o c hr hc=>?_;obtain ⟨w,rfl,hw⟩:=hc;obtain ⟨b2,c2,rfl,_,_⟩:=hw.1.shape;refine walk ?_;exact Zb_ hL (k+1,z+(xss[k].length:Nat)) ⟨by simp only;omega,by simp only;rw [hsn,hz];omega⟩
 ·clear hL;obtain rfl:k=xss.length:=by omega
  rw [List.take_length] at hz;subst hz;refine walk ?_;refine Za_ (vs:=[nilS,I (Zx_ xss)]) rfl rfl (Qcu_ hs) fun r1 H1 B hl1 ⟨eB,eH⟩=>?_;subst eB eH;refine walk ?_;refine Qc_ (σ:=Nat×Value) (fun s=>s.1≤xss.length) (fun s=>[(6,s.2),(25,.slice b0 xss.length c0),(26,I xss.length),(27,I s.1)]) (fun _=>H1) (fun s=>ownS rStr 1 16 9 H1 s.2 (xss.take s.1).flatten::R) (fun s=>xss.length - s.1) (0,r1) (Nat.zero_le _) fun ⟨k,v⟩ hk0 K hL=>?_;simp only at hk0;dsimp only;refine walk ?_;refine Qe_ rfl (fun hk=>?_) (fun hk=>?_)
  ·have hk1:k<xss.length:=by omega
   have hst2:=zas_ (xss:=xss) (k:=k+1);have hsn:Zx_ (xss.take (k+1))=Zx_ (xss.take k)+xss[k].length:=by rw [List.take_succ_eq_append_getElem hk1,ZaS_]
   refine walk ?_;refine qe_ rfl rfl h0 hk1 fun b o c hr hc=>?_;obtain ⟨w,rfl,hw⟩:=hc;obtain ⟨b2,c2,rfl,_,_⟩:=hw.1.shape;refine walk ?_;refine Qq_ rfl rfl hw.1 (by rw [zdm_];simp only [zb_];omega) fun d1 e1=>?_;refine walk ?_;refine Zb_ hL (k+1,_) (by simp only;omega) (hs:=?_);dsimp only;rw [List.take_succ_eq_append_getElem hk1,List.flatten_append,List.length_append.symm];simp only [List.flatten_cons,List.flatten_nil,List.append_nil];exact Sub.refl _
  ·clear hL;obtain rfl:k=xss.length:=by omega
   rw [List.take_length];refine walk ?_;refine finB [ownS rStr 1 16 9 H1 v xss.flatten] ?_;exact ⟨rfl,rfl⟩
end Go.Proofs.YtlflbkpmfhhikaaGreatDoor
namespace Go.Proofs.YtlflbkpmfhhikaaGreatDoor
open Go Go.Sx Go.Proofs Go.Sort
section
variable {P:Program} {f:FuncId} {W0:World} {H H0:Heap} {T:Nat} {v:Value}
abbrev enS:ByteArray→Value:=fun x=> .string x
theorem qcL_ (xs:List ByteArray):xs.map enS=(xs.map fun s=>s.data.toList).map encStr:=by
 rw [List.map_map];rfl
theorem Zdl_ {xs : List ByteArray} (hsort : ∀ (blk off cap : Nat) (zs : List (List UInt8)) (w : World), Holds encStr w blk off zs.toArray → blk < w.heap.size → zs.length < 4611686018427387904 →
   Calls P f #[.slice (some ⟨blk,off,none⟩) zs.length cap] w fun e w'=>e= .returned (.tuple #[])∧∃n os,w'=grow (Go.Sort.putRow encStr (Sort.ahead w n) blk off (zs.mergeSort fun x y=>decide (x≤y)).toArray) os)
  (hnone:∀(p:Option Addr) (cap:Nat) (w:World),Calls P f #[.slice p 0 cap] w fun e w'=>e= .returned (.tuple #[])∧w'=w):
  Ct P f #[v] W0 H [ownS rStr 1 16 T H0 v xs] (fun r H' B=>r= .tuple #[]∧B=[ownS rStr 1 16 T H0 v (sortT xs)]∧H'=H):=by
 intro w R hS;obtain ⟨hA,hR,⟨cs,⟨hr,hw⟩,ho⟩,r,d,dA,dR,lA,lR⟩:=hS.parts;obtain ⟨hcs,hok⟩:=RL.map1 hr;obtain ⟨hl,hc⟩:=ho;have hlen:(sortT xs).length=xs.length:=by simp [sortT]
 have hok':∀x∈sortT xs,x.size≤zb_:=fun x hx=>by
  obtain ⟨l,hl1,rfl⟩:=List.mem_map.1 hx;rw [List.mem_mergeSort] at hl1;obtain ⟨q,hq,rfl⟩:=List.mem_map.1 hl1;exact hok q hq
 have hrowS:(sortT xs).map enS=((xs.map fun s=>s.data.toList).mergeSort fun x y=>decide (x≤y)).map encStr:=by
  simp only [sortT,List.map_map];rfl
 rcases hc with ⟨h0,b,rfl⟩ | ⟨b,cap,sp,rfl,hp0,h1,h2,h3,h4⟩
 ·have hx:xs=[]:=List.eq_nil_of_length_eq_zero h0;subst hx;refine (hnone b 0 w).mono ?_;rintro e w' ⟨rfl,rfl⟩;exact ⟨_,H,_,rfl,.refl _,⟨rfl,rfl,rfl⟩,by simpa [sortT] using hS⟩
 ·have hcs2:cs=(xs.map fun s=>s.data.toList).map encStr:=hcs.trans (qcL_ xs);subst hcs2;have hS':St W0 H w (row b T ((xs.map fun s=>s.data.toList).map encStr++sp)::R):=St.of_parts hS.env hS.ro h4 r d dA dR lA lR;have hso:=hsort b 0 cap (xs.map fun s=>s.data.toList) w hS'.holds (Qbp_ (w:=w) (b:=b) hS'.ptRead.1) (by simp only [zb_] at hw;simp;omega);rw [List.length_map] at hso;refine hso.mono ?_;rintro e w' ⟨rfl,n,os,rfl⟩;have hS2:=hS'.putRow (n:=n) (os:=os) (ys:=(xs.map fun s=>s.data.toList).mergeSort (fun x y=>decide (x≤y))) (by simp);rw [←hrowS] at hS2;refine ⟨_,H,[ownS rStr 1 16 T H0 (.slice (some ⟨b,0,none⟩) xs.length cap) (sortT xs)],rfl,.refl _,⟨rfl,rfl,rfl⟩,hS2.sub ?_⟩;rintro h ⟨k1,k2,a,rr,q,l1,l2⟩;refine ⟨k1,k2,⟨_,⟨RL.mk1 (R:=rStr) (val:=fun x=> .string x) hok',by rw [hlen];exact hw⟩,by simp [hlen],.inr ⟨b,cap,sp,by rw [hlen],hp0,by rw [hlen];exact h1,h2,?_,a⟩⟩,rr,q,l1,l2⟩;simpa [hlen] using h3
def compT (xs:List ByteArray):List ByteArray:=(Lib.compact (xs.map fun s=>s.data.toList)).map sb
theorem zcL_ (xs:List ByteArray):(compT xs).length≤xs.length:=by
 have:=QbU_ (xs.map fun s=>s.data.toList);simpa [compT] using this
theorem zbS_ {xs : List ByteArray} (hcomp : ∀ (blk off cap : Nat) (zs : List (List UInt8)) (w : World), Holds encStr w blk off zs.toArray → zs.length ≤ 9223372036854775807 → zs.length ≤ cap →
   Calls P f #[.slice (some ⟨blk,off,none⟩) zs.length cap] w fun e w'=>e= .returned (.slice (some ⟨blk,off,none⟩) (Lib.compact zs).length cap)∧∃q,w'=Go.Sort.putRow encStr (Sort.ahead w q) blk off (Lib.compact zs++List.replicate (zs.length - (Lib.compact zs).length) []).toArray)
  (hnone:∀(a:Option Addr) (cap:Nat) (w:World),Calls P f #[.slice a 0 cap] w fun e w'=>e= .returned (.slice a 0 cap)∧w'=w):
  Ct P f #[v] W0 H [ownS rStr 1 16 T H0 v xs] (fun r H' B=>B=[ownS rStr 1 16 T H0 r (compT xs)]∧H'=H):=by
 intro w R hS;obtain ⟨hA,hR,⟨cs,⟨hr,hw⟩,ho⟩,r,d,dA,dR,lA,lR⟩:=hS.parts;obtain ⟨hcs,hok⟩:=RL.map1 hr;obtain ⟨hl,hc⟩:=ho
 have hok':∀x∈compT xs,x.size≤zb_:=fun x hx=>by
  obtain ⟨l,hl1,rfl⟩:=List.mem_map.1 hx;obtain ⟨q,hq,rfl⟩:=List.mem_map.1 (ZbU_.1 hl1);exact hok q hq
 have hlen:=zcL_ xs;have hlc:(compT xs).length=(Lib.compact (xs.map fun s=>s.data.toList)).length:=by simp [compT]
 rcases hc with ⟨h0,b,rfl⟩ | ⟨b,cap,sp,rfl,hp0,h1,h2,h3,h4⟩
 ·have hx:xs=[]:=List.eq_nil_of_length_eq_zero h0;subst hx;refine (hnone b 0 w).mono ?_;rintro e w' ⟨rfl,rfl⟩;exact ⟨_,H,_,rfl,.refl _,⟨rfl,rfl⟩,hS⟩
 ·have hcs2:cs=(xs.map fun s=>s.data.toList).map encStr:=hcs.trans (qcL_ xs);subst hcs2;have hS':St W0 H w (row b T ((xs.map fun s=>s.data.toList).map encStr++sp)::R):=St.of_parts hS.env hS.ro h4 r d dA dR lA lR;have hco:=hcomp b 0 cap (xs.map fun s=>s.data.toList) w hS'.holds (by simp only [zb_] at hw;simp;omega) (by simpa using h1);rw [List.length_map] at hco;refine hco.mono ?_;rintro e w' ⟨rfl,q,rfl⟩;have hS2:=hS'.putRow (n:=q) (os:=#[]) (ys:=Lib.compact (xs.map fun (s:ByteArray)=>s.data.toList)++List.replicate (xs.length - (Lib.compact (xs.map fun (s:ByteArray)=>s.data.toList)).length) []) (by simp;omega);rw [grow_empty] at hS2;refine ⟨_,H,[ownS rStr 1 16 T H0 (.slice (some ⟨b,0,none⟩) (compT xs).length cap) (compT xs)],by rw [hlc],.refl _,⟨rfl,rfl⟩,hS2.sub ?_⟩;rintro h ⟨k1,k2,a,rr,qq,l1,l2⟩;refine ⟨k1,k2,⟨_,⟨RL.mk1 (R:=rStr) (val:=fun x=> .string x) hok',by omega⟩,by simp,.inr ⟨b,cap,(List.replicate (xs.length - (compT xs).length) ([]:List UInt8)).map encStr++sp,rfl,hp0,by omega,h2,?_,?_⟩⟩,rr,qq,l1,l2⟩
  ·simp at h3⊢;omega
  ·have:(compT xs).map (fun x=>Value.string x)++((List.replicate (xs.length - (compT xs).length) ([]:List UInt8)).map encStr++sp)=(Lib.compact (xs.map fun (s:ByteArray)=>s.data.toList)++List.replicate (xs.length - (Lib.compact (xs.map fun (s:ByteArray)=>s.data.toList)).length) []).map encStr++sp:=by
    rw [←hlc];simp [compT]
   rw [this];exact a
end
theorem qdm_ {W0:World} {H H0:Heap} {v:Value} {xs:List ByteArray}:
  Ct Tryz.prog 115 #[v] W0 H [ownS rStr 1 16 9 H0 v xs] (fun r H' B=>r= .tuple #[]∧B=[ownS rStr 1 16 9 H0 v (sortT xs)]∧H'=H):=Zdl_ Tryz.slices_Sort_string Tryz.slices_Sort_string_none
theorem QbS_ {W0:World} {H H0:Heap} {v:Value} {xs:List ByteArray}:
  Ct Tryz.prog 134 #[v] W0 H [ownS rStr 1 16 9 H0 v xs] (fun r H' B=>B=[ownS rStr 1 16 9 H0 r (compT xs)]∧H'=H):=zbS_ Tryz.slices_Compact_string Tryz.slices_Compact_string_empty
end Go.Proofs.YtlflbkpmfhhikaaGreatDoor
namespace Go.Proofs
open Go.Shelf
def Tryz.laysM171_ren:Go.Shelf.Ren:=⟨fun | 171=>186 | 243=>201 | 246=>214 | 283=>220 | 284=>221 | 285=>222 | 286=>223 | 129=>170 | 317=>226 | 318=>227 | 319=>228 | 320=>229 | 337=>230 | 338=>231 | n=>n,fun | 3=>3 | 9=>9 | 2=>2 | 4=>4 | 171=>345 | 0=>0 | 53=>299 | 37=>328 | 5=>5 | 173=>347 | 212=>355 | 51=>297 | 20=>20 | 213=>356 | 46=>234 | 232=>357 | 233=>358 | n=>n,fun | 17=>3 | 18=>4 | 19=>5 | n=>n⟩
theorem Tryz.laysM171:Go.Proofs.LaysM.n171 Tryz.prog Tryz.laysM171_ren:={
 mixed:=by kernel_rfl
 f129:=Tryz.func170.trans (congrArg some (by kernel_rfl))
 f171:=Tryz.func186.trans (congrArg some (by kernel_rfl))
 f243:=Tryz.func201.trans (congrArg some (by kernel_rfl))
 f246:=Tryz.func214.trans (congrArg some (by kernel_rfl))
 f283:=Tryz.func220.trans (congrArg some (by kernel_rfl))
 f284:=Tryz.func221.trans (congrArg some (by kernel_rfl))
 f285:=Tryz.func222.trans (congrArg some (by kernel_rfl))
 f286:=Tryz.func223.trans (congrArg some (by kernel_rfl))
 f317:=Tryz.func226.trans (congrArg some (by kernel_rfl))
 f318:=Tryz.func227.trans (congrArg some (by kernel_rfl))
 f319:=Tryz.func228.trans (congrArg some (by kernel_rfl))
 f320:=Tryz.func229.trans (congrArg some (by kernel_rfl))
 f337:=Tryz.func230.trans (congrArg some (by kernel_rfl))
 f338:=Tryz.func231.trans (congrArg some (by kernel_rfl))
 t0:=Tryz.underlying0
 a0:=Tryz.isAgg0
 z0:=Tryz.sizeOf0
 v0:=Tryz.zeroValue0
 t2:=Tryz.underlying2
 a2:=Tryz.isAgg2
 z2:=Tryz.sizeOf2
 v2:=Tryz.zeroValue2
 t3:=Tryz.underlying3
 a3:=Tryz.isAgg3
 z3:=Tryz.sizeOf3
 v3:=Tryz.zeroValue3
 t4:=Tryz.underlying4
 a4:=Tryz.isAgg4
 z4:=Tryz.sizeOf4
 v4:=Tryz.zeroValue4
 t5:=Tryz.underlying5
 a5:=Tryz.isAgg5
 z5:=Tryz.sizeOf5
 v5:=Tryz.zeroValue5
 t9:=Tryz.underlying9
 a9:=Tryz.isAgg9
 z9:=Tryz.sizeOf9
 v9:=Tryz.zeroValue9
 t20:=Tryz.underlying20
 a20:=Tryz.isAgg20
 z20:=Tryz.sizeOf20
 v20:=Tryz.zeroValue20
 t37:=Tryz.underlying328
 a37:=Tryz.isAgg328
 z37:=Tryz.sizeOf328
 v37:=Tryz.zeroValue328
 t46:=Tryz.underlying234
 a46:=Tryz.isAgg234
 z46:=Tryz.sizeOf234
 v46:=Tryz.zeroValue234
 t51:=Tryz.underlying297
 a51:=Tryz.isAgg297
 z51:=Tryz.sizeOf297
 v51:=Tryz.zeroValue297
 t53:=Tryz.underlying299
 a53:=Tryz.isAgg299
 z53:=Tryz.sizeOf299
 v53:=Tryz.zeroValue299
 t171:=Tryz.underlying345
 a171:=Tryz.isAgg345
 z171:=Tryz.sizeOf345
 v171:=Tryz.zeroValue345
 t173:=Tryz.underlying347
 a173:=Tryz.isAgg347
 z173:=Tryz.sizeOf347
 v173:=Tryz.zeroValue347
 t212:=Tryz.underlying355
 a212:=Tryz.isAgg355
 z212:=Tryz.sizeOf355
 v212:=Tryz.zeroValue355
 t213:=Tryz.underlying356
 a213:=Tryz.isAgg356
 z213:=Tryz.sizeOf356
 t232:=Tryz.underlying357
 a232:=Tryz.isAgg357
 z232:=Tryz.sizeOf357
 v232:=Tryz.zeroValue357
 t233:=Tryz.underlying358
 a233:=Tryz.isAgg358
 z233:=Tryz.sizeOf358
 v233:=Tryz.zeroValue358
 g17:=by kernel_rfl
 g18:=by kernel_rfl
 g19:=by kernel_rfl
 i0:=by kernel_rfl
 i2:=by kernel_rfl
 i3:=by kernel_rfl
 i4:=by kernel_rfl
 i5:=by kernel_rfl
 i9:=by kernel_rfl
 i20:=by kernel_rfl
 i37:=by kernel_rfl
 i46:=by kernel_rfl
 i51:=by kernel_rfl
 i53:=by kernel_rfl
 i171:=by kernel_rfl
 i173:=by kernel_rfl
 i212:=by kernel_rfl
 i232:=by kernel_rfl
 i233:=by kernel_rfl
 m17:=by kernel_rfl
 m18:=by kernel_rfl
 m19:=by kernel_rfl}
open Go.RowKit Go.Sort Go.Lib in
theorem Tryz.strconv_Itoa (n : Int) (h0 : -9223372036854775808 ≤ n) (h1 : n ≤ 9223372036854775807) (w : World) (htab : Lib.TabIs Tryz.prog w "internal/strconv.uint64pow10" .u64 Lib.pow10Tab) :
    Calls Tryz.prog 186 #[.int .i64 n] w fun e w'=>e= .returned (.string ⟨(Lib.itoa n).toArray⟩)∧∃k os,w'=grow (w.drewN k) os:=Any.strconv_Itoa Tryz.laysM171 n h0 h1 w htab
end Go.Proofs
namespace Go.Proofs.YtlflbkpmfhhikaaGreatDoor
open Go Go.Sx Go.Proofs
def nd:Nat→List UInt8
  | 0=>[]
  | n+1=>nd ((n+1)/10)++[UInt8.ofNat (48+(n+1) % 10)]
decreasing_by omega
theorem qag_ {n:Nat} (h:n≠0):nd n=nd (n/10)++[UInt8.ofNat (48+n % 10)]:=by
 cases n with
 | zero=>exact absurd rfl h
 | succ n=>rw [nd]
theorem zco_:∀{k n:Nat},n<10^k→(nd n).length≤k
 | k,0,_=>by simp [nd]
 | 0,n+1,h=>by simp at h
 | k+1,n+1,h=>by
  rw [qag_ (by omega),List.length_append];have:(n+1)/10<10^k:=by rw [Nat.pow_succ] at h;omega
  have:=zco_ this;simp;omega
def dgs (n:Int):List UInt8:=if n=0 then [48] else if n<0 then [45]++nd n.natAbs else nd n.natAbs
theorem ZaX_ {n:Int} (h:fits n):(dgs n).length≤20:=by
 have h1:(nd n.natAbs).length≤19:=zco_ (by unfold fits at h;omega);unfold dgs;split
 ·simp
 ·split
  ·simp;omega
  ·omega
theorem v55_ {P:Prop} (h:P:=by
 refine walk ?_;refine Zb_ hL (k.tdiv 10,[UInt8.ofNat (48+k.natAbs % 10)]++s) ⟨by simp only;unfold fits at hd4;exact hd4,?_⟩ (hμ:=by simp only;omega);simp only;rw [hs,hstep,hd2,List.append_assoc]):P:=h
theorem zR_ {W0:World} {H:Heap} {n:Int} (hf:fits n):
  Ct Tryz.prog 197 #[I n] W0 H [] (fun r H' B=>r= .string (sb (dgs n))∧B=[]∧H'=H):=by
 refine Ct.go fun R=>?_;unfold fits at hf;by_cases h0:n=0
 ·refine walk ?_;refine fin0 ?_;exact ⟨by unfold dgs;rw [if_pos h0],rfl,rfl⟩
 refine walk ?_;refine Qc_ (σ:=Int×List UInt8) (fun s=>(-9223372036854775808≤s.1∧s.1≤9223372036854775807)∧nd n.natAbs=nd s.1.natAbs++s.2) (fun s=>[(0,I n),(3,.string (sb s.2)),(4,I s.1)]) (fun _=>H) (fun _=>R) (fun s=>s.1.natAbs) (n,[]) ⟨hf,by simp⟩ fun ⟨k,s⟩ ⟨hk,hs⟩ K hL=>?_;simp only at hk hs;dsimp only;refine walk ?_;refine Qe_ rfl (fun hk0=>?_) (fun hk0=>?_)
 ·have hd1:(k.tmod 10).natAbs=k.natAbs % 10:=Int.natAbs_tmod k 10;have hd2:(k.tdiv 10).natAbs=k.natAbs/10:=Int.natAbs_tdiv k 10;have hd3: -9≤k.tmod 10∧k.tmod 10≤9:=by omega
  have hd4:fits (k.tdiv 10):=by unfold fits;omega
  have hg10:(0:Int)<10∧fits (k.tdiv 10):=⟨by omega,hd4⟩;have hln:(nd n.natAbs).length≤19:=zco_ (by omega);haveI hsl:LenLe s 19:=⟨by rw [hs] at hln;simp at hln;omega⟩;have hstep:=qag_ (n:=k.natAbs) (by omega);refine walk ?_;generalize k.tmod 10=d at*;refine Qe_ rfl (fun hneg=>?_) (fun hneg=>?_)
  ·refine walk ?_;refine qat_ rfl rfl fun pb _=>?_;refine qcP_ [IntKind.u8.wrap (48+ -d)] rfl rfl .here ?_;have hw:(IntKind.u8.wrap (48+ -d)).toNat=48+k.natAbs % 10:=by rw [IntKind.wrap_u8];omega
   rw [show ([IntKind.u8.wrap (48+ -d)].map fun n=>UInt8.ofNat n.toNat)=[UInt8.ofNat (48+k.natAbs % 10)] by simp only [List.map_cons,List.map_nil,hw]];exact v55_
  ·refine walk ?_;refine qat_ rfl rfl fun pb _=>?_;refine qcP_ [IntKind.u8.wrap (48+d)] rfl rfl .here ?_;have hw:(IntKind.u8.wrap (48+d)).toNat=48+k.natAbs % 10:=by rw [IntKind.wrap_u8];omega
   rw [show ([IntKind.u8.wrap (48+d)].map fun n=>UInt8.ofNat n.toNat)=[UInt8.ofNat (48+k.natAbs % 10)] by simp only [List.map_cons,List.map_nil,hw]];exact v55_
 ·clear hL;have hk1:k=0:=Classical.not_not.1 hk0;subst hk1;simp only [Int.natAbs_zero,nd,List.nil_append] at hs;by_cases hneg:n<0
  ·haveI hsl:LenLe s 19:=⟨by rw [←hs];exact zco_ (by omega)⟩;refine walk ?_;refine fin0 ?_;exact ⟨by unfold dgs;rw [if_neg h0,if_pos hneg,hs],rfl,rfl⟩
  ·refine walk ?_;refine fin0 ?_;exact ⟨by unfold dgs;rw [if_neg h0,if_neg hneg,hs],rfl,rfl⟩
def Qac_ (c t:Int):List UInt8:=[99]++dgs c++[64]++dgs t
def QR_ (a b t:Int):List UInt8:=[112]++dgs (min a b)++[45]++dgs (max a b)++[64]++dgs t
theorem ZbG_ {W0:World} {H:Heap} {c t:Int} (h1:fits c) (h2:fits t):
  Ct Tryz.prog 181 #[I c,I t] W0 H [] (fun r H' B=>r= .string (sb (Qac_ c t))∧B=[]∧H'=H):=by
 refine Ct.go fun R=>?_;haveI l1:LenLe (dgs c) 20:=⟨ZaX_ h1⟩;haveI l2:LenLe (dgs t) 20:=⟨ZaX_ h2⟩;refine walk ?_;refine Qg_ rfl rfl (zR_ h1) ?_;refine walk ?_;refine Qg_ rfl rfl (zR_ h2) ?_;exact v63_
theorem ZcY_ {W0:World} {H:Heap} {a b t:Int} (h1:fits a) (h2:fits b) (h3:fits t) (hab:¬b<a):
  Ct Tryz.prog 182 #[I a,I b,I t] W0 H [] (fun r H' B=>r= .string (sb (QR_ a b t))∧B=[]∧H'=H):=by
 refine Ct.go fun R=>?_;haveI l1:LenLe (dgs a) 20:=⟨ZaX_ h1⟩;haveI l2:LenLe (dgs b) 20:=⟨ZaX_ h2⟩;haveI l3:LenLe (dgs t) 20:=⟨ZaX_ h3⟩;refine walk ?_;refine Qg_ rfl rfl (zR_ h1) ?_;refine walk ?_;refine Qg_ rfl rfl (zR_ h2) ?_;refine walk ?_;refine Qg_ rfl rfl (zR_ h3) ?_;refine walk ?_;refine fin0 ?_;refine ⟨?_,rfl,rfl⟩;unfold QR_;rw [show min a b=a by omega,show max a b=b by omega]
theorem qcZ_ {W0:World} {H:Heap} {a b t:Int} (h1:fits a) (h2:fits b) (h3:fits t):
  Ct Tryz.prog 182 #[I a,I b,I t] W0 H [] (fun r H' B=>r= .string (sb (QR_ a b t))∧B=[]∧H'=H):=by
 by_cases hab:b<a
 ·refine Ct.go fun R=>?_;refine walk ?_;refine Qg_ rfl rfl (ZcY_ (a:=b) (b:=a) h2 h1 h3 (by omega)) ?_;refine walk ?_;refine fin0 ?_;refine ⟨?_,rfl,rfl⟩;unfold QR_;rw [Int.min_comm,Int.max_comm]
 ·exact ZcY_ h1 h2 h3 hab
def isDig (b:UInt8):Prop:=48≤b.toNat∧b.toNat≤57
def dval (l:List UInt8):Nat:=l.foldl (fun a b=>a*10+(b.toNat - 48)) 0
theorem zcZ_ {l:List UInt8} {b:UInt8}:dval (l++[b])=dval l*10+(b.toNat - 48):=by simp [dval]
theorem Zbs_ {k:Nat}:(UInt8.ofNat (48+k % 10)).toNat=48+k % 10:=by
 rw [UInt8.toNat_ofNat'];omega
theorem QdZ_ (n:Nat):dval (nd n)=n:=by
 induction n using Nat.strongRecOn with
 | ind n ih=>
  by_cases h:n=0
  ·subst h;simp [nd,dval]
  ·rw [qag_ h,zcZ_,ih (n/10) (by omega),Zbs_];omega
theorem ZdZ_ (n:Nat):∀b∈nd n,isDig b:=by
 induction n using Nat.strongRecOn with
 | ind n ih=>
  by_cases h:n=0
  ·subst h;simp [nd]
  ·rw [qag_ h];intro b hb;rcases List.mem_append.1 hb with hb | hb
   ·exact ih (n/10) (by omega) b hb
   ·rw [List.mem_singleton.1 hb];unfold isDig;rw [Zbs_];omega
theorem zag_ {n:Int} (h:0≤n):∀b∈dgs n,isDig b:=by
 unfold dgs;split
 ·intro b hb;rw [List.mem_singleton.1 hb];unfold isDig;decide
 ·rw [if_neg (by omega)];exact ZdZ_ _
theorem QcZ_ {n:Int} (h:0≤n):dval (dgs n)=n.toNat:=by
 unfold dgs;split
 ·next e=>subst e;decide
 ·rw [if_neg (by omega),QdZ_];omega
theorem ZaF_ {a b:Int} (ha:0≤a) (hb:0≤b) (h:dgs a=dgs b):a=b:=by
 have h1:=QcZ_ ha;rw [h,QcZ_ hb] at h1;omega
theorem Qco_ {s:UInt8} (hs:¬isDig s):∀{u u' v v':List UInt8},(∀b∈u,isDig b)→(∀b∈u',isDig b)→u++s::v=u'++s::v'→u=u'∧v=v'
 | [],[],v,v',_,_,h=>by simpa using h
 | [],b::u',v,v',_,h2,h=>by
  simp only [List.nil_append,List.cons_append,List.cons.injEq] at h;exact absurd (h.1▸h2 b (by simp)) hs
 | b::u,[],v,v',h1,_,h=>by
  simp only [List.nil_append,List.cons_append,List.cons.injEq] at h;exact absurd (h.1▸h1 b (by simp)) hs
 | b::u,b'::u',v,v',h1,h2,h=>by
  simp only [List.cons_append,List.cons.injEq] at h;obtain ⟨e1,e2⟩:=Qco_ hs (fun x hx=>h1 x (by simp [hx])) (fun x hx=>h2 x (by simp [hx])) h.2;exact ⟨by rw [h.1,e1],e2⟩
theorem zdv_ {c c' t t':Int} (h1:0≤c) (h2:0≤c') (h3:0≤t) (h4:0≤t') (h:Qac_ c t=Qac_ c' t'):c=c'∧t=t':=by
 simp only [Qac_,List.append_assoc,List.cons_append,List.nil_append,List.cons.injEq,true_and] at h;obtain ⟨e1,e2⟩:=Qco_ (s:=64) (by unfold isDig;decide) (zag_ h1) (zag_ h2) h;exact ⟨ZaF_ h1 h2 e1,ZaF_ h3 h4 e2⟩
theorem Qdv_ {a b a' b' t t':Int} (h1:0≤a) (h2:0≤b) (h3:0≤a') (h4:0≤b') (h5:0≤t) (h6:0≤t') (h:QR_ a b t=QR_ a' b' t'):(min a b=min a' b'∧max a b=max a' b')∧t=t':=by
 simp only [QR_,List.append_assoc,List.cons_append,List.nil_append,List.cons.injEq,true_and] at h;obtain ⟨e1,e2⟩:=Qco_ (s:=45) (by unfold isDig;decide) (zag_ (by omega)) (zag_ (by omega)) h;obtain ⟨e3,e4⟩:=Qco_ (s:=64) (by unfold isDig;decide) (zag_ (by omega)) (zag_ (by omega)) e2;exact ⟨⟨ZaF_ (by omega) (by omega) e1,ZaF_ (by omega) (by omega) e3⟩,ZaF_ h5 h6 e4⟩
theorem qbH_ {c t a b t':Int}:Qac_ c t≠QR_ a b t':=by
 intro h;simp only [Qac_,QR_,List.append_assoc,List.cons_append,List.nil_append,List.cons.injEq] at h;exact absurd h.1 (by decide)
theorem zck_ {a b:List UInt8} (h:sb a=sb b):a=b:=by
 unfold sb at h;simpa using h
abbrev zy_ (t:Int):Prop:=0≤t∧t≤1073741824
theorem qaA_ {W0:World} {H:Heap} {t:Int}:
  Ct Tryz.prog 183 #[I t] W0 H [] (fun r H' B=>r= .bool (decide (zy_ t))∧B=[]∧H'=H):=by
 refine Ct.go fun R=>?_;refine ZI_ ?_;refine fin0 ?_;exact ⟨bdec (by unfold zy_;omega),rfl,rfl⟩
theorem QdB_:∀{u:Nat},u≠0→Lib.decDigits u=nd u:=fun {u}=>by
 induction u using Nat.strongRecOn with
 | ind u ih=>
  intro h;rw [Lib.decDigits,qag_ h];split
  ·next h1=>
   rw [show u/10=0 by omega,show u % 10=u by omega];simp [nd]
  ·next h1=>rw [ih (u/10) (by omega) (by omega)]
theorem Zdv_ {n:Int}:Lib.itoa n=dgs n:=by
 unfold Lib.itoa dgs;by_cases h0:n=0
 ·subst h0;rw [if_neg (by omega),if_pos rfl];simp [Lib.decDigits]
 rw [if_neg h0];by_cases h1:n<0
 ·rw [if_pos h1,if_pos h1,QdB_ (by omega)];rfl
 ·rw [if_neg h1,if_neg h1,QdB_ (by omega),show n.toNat=n.natAbs by omega]
theorem ZcZ_ {W0:World} {H:Heap} {n:Int} (hT:TabH Tryz.prog H) (hn:fits n):
  Ct Tryz.prog 186 #[I n] W0 H [] (fun r H' B=>r= .string (sb (dgs n))∧B=[]∧H'=H):=by
 have h:=zdF_ (W0:=W0) hT hn Tryz.strconv_Itoa;rw [Zdv_] at h;exact h
end Go.Proofs.YtlflbkpmfhhikaaGreatDoor
